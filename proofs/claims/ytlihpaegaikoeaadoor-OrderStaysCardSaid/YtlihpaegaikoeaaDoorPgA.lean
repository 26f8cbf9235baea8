/- States: which objects, bases, entries, states may be. -/
import Derived.Test.YtlihpaegaikoeaaDoorObjPlain
set_option linter.all false
namespace Go.Proofs.YtlihpaegaikoeaaDoor
open Pv Go Pk
set_option maxRecDepth 10000
set_option maxHeartbeats 2000000

def okObj (x : Objt) : Bool := if x.there = true then allN 3 (fun j => decide ((x.attr.get j).size ≤ 16)) && decide (x.data.size ≤ 16) else decide (x = Objt.zero)

theorem object_at (x : Objt) : evF C F_pglog_object [.d (.agg x.cs)] [] = some (.d (.b (okObj x)), []) := by
  rw [evF_code (rfl : C F_pglog_object = some a_pglog_object) _ _ rfl]
  unfold okObj
  rcases Bool.eq_false_or_eq_true x.there with ht | ht
  · rw [if_pos ht]
    simp (config := {decide := true}) only [c_pglog_object, ht, Pk.EVL, keepT, enum, ↓reduceIte, ev, act, appT, callee, toDs, toD, loadA, storeA, subA, subD, updA, Eff.on, resA, resVs, resV, lk, finish, frzR, frzVs, frzV, fznR, fzns, fzn, lts, lt, ltO, List.all, pairsOk, indep, reduceCtorEq, Nat.reduceEqDiff, Nat.reduceAdd, Nat.reduceLeDiff, stb, thaws, List.drop, intOfA, binD, binI, unD, mmL, buildA, mkAgg, allD, bslD, behind, behind0, takeAt, frzAs, frzA, adoptR, adopt, isD, isD0, trim, List.take, binS, sliceA, bnd, zOk, elems, Nat.reduceBNe, inpl, Nat.reduceLT, Nat.reduceBEq, Nat.reduceSub, Nat.reduceMul, Int.reduceLT, Int.reduceLE, Int.reduceEq, Int.reduceToNat, Int.reduceNeg, thaw, nodup, refsV, adopts, Pk.TY_Objt]
    simp only [Option.bind_assoc]
    refine bind_run (loop_run (fun i T H => lk T 1 = .ptr 0 0 ∧ lk T 12 = .d (.agg (R3.cs (fun x => [.s x]) x.attr)) ∧ lk T 13 = .d (.i .i64 (i : Nat)) ∧ H = [.box (.d (.agg x.cs))] ∧ ∀ j < i, (x.attr.get j).size ≤ 16)
      (fun e T H => (e = .exit 0 ∧ lk T 1 = .ptr 0 0 ∧ H = [.box (.d (.agg x.cs))] ∧ ∀ j < 3, (x.attr.get j).size ≤ 16) ∨ (e = .ret ∧ lk T 2 = .d (.b false) ∧ H = [.box (.d (.agg x.cs))] ∧ ¬ ∀ j < 3, (x.attr.get j).size ≤ 16)) 3 ?_ ?_ 3 0 _ _ (by omega) ⟨rfl, rfl, rfl, rfl, by omega⟩) ?_
    · rintro i T H hi ⟨h1, h12, h13, rfl, hj⟩
      have hd : decide ((i : Int) < 3) = true := by simp; omega
      have hw : IntKind.i64.wrap ((i : Int) + 1) = ((i + 1 : Nat) : Int) := wi64 (by omega)
      have b3 : ((i : Int) < ((3 : Nat) : Int)) = True := by simp; omega
      have b3' : (0 ≤ (i : Int)) = True := by simp
      by_cases hs : (x.attr.get i).size ≤ 16
      · have hc : decide (((x.attr.get i).size : Int) > 16) = false := by simp; omega
        simp (config := {decide := true}) only [K_pglog_object_0, l_pglog_object_0, h1, h12, h13, hd, hw, b3, b3', hi, hc, Pk.EVL, keepT, enum, ↓reduceIte, ev, act, appT, callee, toDs, toD, loadA, storeA, subA, subD, updA, Eff.on, resA, resVs, resV, lk, finish, frzR, frzVs, frzV, fznR, fzns, fzn, lts, lt, ltO, List.all, pairsOk, indep, reduceCtorEq, Nat.reduceEqDiff, Nat.reduceAdd, Nat.reduceLeDiff, stb, thaws, List.drop, intOfA, binD, binI, unD, mmL, buildA, mkAgg, allD, bslD, behind, behind0, takeAt, frzAs, frzA, adoptR, adopt, isD, isD0, trim, List.take, binS, sliceA, bnd, zOk, elems, Nat.reduceBNe, inpl, Nat.reduceLT, Nat.reduceBEq, Nat.reduceSub, Nat.reduceMul, Int.reduceLT, Int.reduceLE, Int.reduceEq, Int.reduceToNat, Int.reduceNeg, thaw, nodup, refsV, adopts, Pk.TY_Objt]
        refine ⟨_, _, _, rfl, ?_⟩
        refine .inl ⟨rfl, rfl, rfl, rfl, rfl, fun j hji => ?_⟩
        by_cases h : j = i
        · rw [h]; exact hs
        · exact hj j (by omega)
      · have hc : decide (((x.attr.get i).size : Int) > 16) = true := by simp; omega
        simp (config := {decide := true}) only [K_pglog_object_0, l_pglog_object_0, h1, h12, h13, hd, hw, b3, b3', hi, hc, Pk.EVL, keepT, enum, ↓reduceIte, ev, act, appT, callee, toDs, toD, loadA, storeA, subA, subD, updA, Eff.on, resA, resVs, resV, lk, finish, frzR, frzVs, frzV, fznR, fzns, fzn, lts, lt, ltO, List.all, pairsOk, indep, reduceCtorEq, Nat.reduceEqDiff, Nat.reduceAdd, Nat.reduceLeDiff, stb, thaws, List.drop, intOfA, binD, binI, unD, mmL, buildA, mkAgg, allD, bslD, behind, behind0, takeAt, frzAs, frzA, adoptR, adopt, isD, isD0, trim, List.take, binS, sliceA, bnd, zOk, elems, Nat.reduceBNe, inpl, Nat.reduceLT, Nat.reduceBEq, Nat.reduceSub, Nat.reduceMul, Int.reduceLT, Int.reduceLE, Int.reduceEq, Int.reduceToNat, Int.reduceNeg, thaw, nodup, refsV, adopts, Pk.TY_Objt]
        refine ⟨_, _, _, rfl, ?_⟩
        exact .inr ⟨by simp, .inr ⟨rfl, rfl, rfl, fun h => hs (h i hi)⟩⟩
    · rintro T H ⟨h1, h12, h13, rfl, hj⟩
      simp (config := {decide := true}) only [K_pglog_object_0, l_pglog_object_0, h1, h12, h13, Pk.EVL, keepT, enum, ↓reduceIte, ev, act, appT, callee, toDs, toD, loadA, storeA, subA, subD, updA, Eff.on, resA, resVs, resV, lk, finish, frzR, frzVs, frzV, fznR, fzns, fzn, lts, lt, ltO, List.all, pairsOk, indep, reduceCtorEq, Nat.reduceEqDiff, Nat.reduceAdd, Nat.reduceLeDiff, stb, thaws, List.drop, intOfA, binD, binI, unD, mmL, buildA, mkAgg, allD, bslD, behind, behind0, takeAt, frzAs, frzA, adoptR, adopt, isD, isD0, trim, List.take, binS, sliceA, bnd, zOk, elems, Nat.reduceBNe, inpl, Nat.reduceLT, Nat.reduceBEq, Nat.reduceSub, Nat.reduceMul, Int.reduceLT, Int.reduceLE, Int.reduceEq, Int.reduceToNat, Int.reduceNeg, thaw, nodup, refsV, adopts, Pk.TY_Objt]
      refine ⟨_, _, _, rfl, ?_⟩
      exact ⟨by simp, .inl ⟨rfl, rfl, rfl, hj⟩⟩
    · rintro e T H (⟨rfl, h1, rfl, ha⟩ | ⟨rfl, h2, rfl, ha⟩)
      · have hc : decide ((x.data.size : Int) ≤ 16) = decide (x.data.size ≤ 16) := by simp; omega
        have he : allN 3 (fun j => decide ((x.attr.get j).size ≤ 16)) = true := allN_true.2 fun j hj => decide_eq_true (ha j hj)
        simp (config := {decide := true}) only [h1, hc, he, Pk.EVL, keepT, enum, ↓reduceIte, ev, act, appT, callee, toDs, toD, loadA, storeA, subA, subD, updA, Eff.on, resA, resVs, resV, lk, finish, frzR, frzVs, frzV, fznR, fzns, fzn, lts, lt, ltO, List.all, pairsOk, indep, reduceCtorEq, Nat.reduceEqDiff, Nat.reduceAdd, Nat.reduceLeDiff, stb, thaws, List.drop, intOfA, binD, binI, unD, mmL, buildA, mkAgg, allD, bslD, behind, behind0, takeAt, frzAs, frzA, adoptR, adopt, isD, isD0, trim, List.take, binS, sliceA, bnd, zOk, elems, Nat.reduceBNe, inpl, Nat.reduceLT, Nat.reduceBEq, Nat.reduceSub, Nat.reduceMul, Int.reduceLT, Int.reduceLE, Int.reduceEq, Int.reduceToNat, Int.reduceNeg, thaw, nodup, refsV, adopts, Pk.TY_Objt]
      · have he : allN 3 (fun j => decide ((x.attr.get j).size ≤ 16)) = false := allN_false fun h => ha fun j hj => of_decide_eq_true (h j hj)
        simp (config := {decide := true}) only [h2, he, Pk.EVL, keepT, enum, ↓reduceIte, ev, act, appT, callee, toDs, toD, loadA, storeA, subA, subD, updA, Eff.on, resA, resVs, resV, lk, finish, frzR, frzVs, frzV, fznR, fzns, fzn, lts, lt, ltO, List.all, pairsOk, indep, reduceCtorEq, Nat.reduceEqDiff, Nat.reduceAdd, Nat.reduceLeDiff, stb, thaws, List.drop, intOfA, binD, binI, unD, mmL, buildA, mkAgg, allD, bslD, behind, behind0, takeAt, frzAs, frzA, adoptR, adopt, isD, isD0, trim, List.take, binS, sliceA, bnd, zOk, elems, Nat.reduceBNe, inpl, Nat.reduceLT, Nat.reduceBEq, Nat.reduceSub, Nat.reduceMul, Int.reduceLT, Int.reduceLE, Int.reduceEq, Int.reduceToNat, Int.reduceNeg, thaw, nodup, refsV, adopts, Pk.TY_Objt]
  · rw [if_neg (by simp [ht])]
    simp (config := {decide := true}) only [c_pglog_object, ht, Pk.EVL, keepT, enum, ↓reduceIte, ev, act, appT, callee, toDs, toD, loadA, storeA, subA, subD, updA, Eff.on, resA, resVs, resV, lk, finish, frzR, frzVs, frzV, fznR, fzns, fzn, lts, lt, ltO, List.all, pairsOk, indep, reduceCtorEq, Nat.reduceEqDiff, Nat.reduceAdd, Nat.reduceLeDiff, stb, thaws, List.drop, intOfA, binD, binI, unD, mmL, buildA, mkAgg, allD, bslD, behind, behind0, takeAt, frzAs, frzA, adoptR, adopt, isD, isD0, trim, List.take, binS, sliceA, bnd, zOk, elems, Nat.reduceBNe, inpl, Nat.reduceLT, Nat.reduceBEq, Nat.reduceSub, Nat.reduceMul, Int.reduceLT, Int.reduceLE, Int.reduceEq, Int.reduceToNat, Int.reduceNeg, thaw, nodup, refsV, adopts, Pk.TY_Objt]
    rfl

def okLast (l : Last) : Bool := !(!decide (l.r.data = ⟨#[]⟩) || decide (l.r.code > 3) || ((l.seq == 0) && !decide (l = Last.zero)))
def okBase (b : Base) : Bool := allN 6 (fun j => okObj (b.objs.get j)) && allN 3 (fun j => okLast (b.last.get j))

theorem base_at (b : Base) : evF C F_pglog_base [.d (.agg b.cs)] [] = some (.d (.b (okBase b)), []) := by
  rw [evF_code (rfl : C F_pglog_base = some a_pglog_base) _ _ rfl]
  unfold okBase
  simp (config := {decide := true}) only [c_pglog_base, Pk.EVL, keepT, enum, ↓reduceIte, ev, act, appT, callee, toDs, toD, loadA, storeA, subA, subD, updA, Eff.on, resA, resVs, resV, lk, finish, frzR, frzVs, frzV, fznR, fzns, fzn, lts, lt, ltO, List.all, pairsOk, indep, reduceCtorEq, Nat.reduceEqDiff, Nat.reduceAdd, Nat.reduceLeDiff, stb, thaws, List.drop, intOfA, binD, binI, unD, mmL, buildA, mkAgg, allD, bslD, behind, behind0, takeAt, frzAs, frzA, adoptR, adopt, isD, isD0, trim, List.take, binS, sliceA, bnd, zOk, elems, Nat.reduceBNe, inpl, Nat.reduceLT, Nat.reduceBEq, Nat.reduceSub, Nat.reduceMul, Int.reduceLT, Int.reduceLE, Int.reduceEq, Int.reduceToNat, Int.reduceNeg, thaw, nodup, refsV, adopts, Pk.TY_Base]
  simp only [Option.bind_assoc]
  refine bind_run (loop_run (fun i T H => lk T 1 = .ptr 0 0 ∧ lk T 8 = .d (.agg (R6.cs Objt.cs b.objs)) ∧ lk T 9 = .d (.i .i64 (i : Nat)) ∧ (∃ J, H = .box (.d (.agg b.cs)) :: J) ∧ ∀ j < i, okObj (b.objs.get j) = true)
    (fun e T H => (e = .exit 0 ∧ lk T 1 = .ptr 0 0 ∧ H = [.box (.d (.agg b.cs))] ∧ ∀ j < 6, okObj (b.objs.get j) = true) ∨ (e = .ret ∧ lk T 2 = .d (.b false) ∧ (∃ J, H = .box (.d (.agg b.cs)) :: J) ∧ ¬ ∀ j < 6, okObj (b.objs.get j) = true)) 6 ?_ ?_ 6 0 _ _ (by omega) ⟨rfl, rfl, rfl, ⟨[], rfl⟩, by omega⟩) ?_
  · rintro i T H hi ⟨h1, h8, h9, ⟨J, rfl⟩, hj⟩
    have hd : decide ((i : Int) < 6) = true := by simp; omega
    have hw : IntKind.i64.wrap ((i : Int) + 1) = ((i + 1 : Nat) : Int) := wi64 (by omega)
    have b3 : ((i : Int) < ((6 : Nat) : Int)) = True := by simp; omega
    have b3' : (0 ≤ (i : Int)) = True := by simp
    have b4 : (i * 5 + 5 ≤ 30) = True := by simp; omega
    have hob := object_at (b.objs.get i)
    rcases Bool.eq_false_or_eq_true (okObj (b.objs.get i)) with hs | hs
    · simp (config := {decide := true}) only [K_pglog_base_0, l_pglog_base_0, h1, h8, h9, hd, hw, b3, b3', b4, hi, hob, hs, Pk.EVL, keepT, enum, ↓reduceIte, ev, act, appT, callee, toDs, toD, loadA, storeA, subA, subD, updA, Eff.on, resA, resVs, resV, lk, finish, frzR, frzVs, frzV, fznR, fzns, fzn, lts, lt, ltO, List.all, pairsOk, indep, reduceCtorEq, Nat.reduceEqDiff, Nat.reduceAdd, Nat.reduceLeDiff, stb, thaws, List.drop, intOfA, binD, binI, unD, mmL, buildA, mkAgg, allD, bslD, behind, behind0, takeAt, frzAs, frzA, adoptR, adopt, isD, isD0, trim, List.take, binS, sliceA, bnd, zOk, elems, Nat.reduceBNe, inpl, Nat.reduceLT, Nat.reduceBEq, Nat.reduceSub, Nat.reduceMul, Int.reduceLT, Int.reduceLE, Int.reduceEq, Int.reduceToNat, Int.reduceNeg, thaw, nodup, refsV, adopts, Pk.TY_Base, Pk.TY_Objt]
      refine ⟨_, _, _, rfl, ?_⟩
      refine .inl ⟨rfl, rfl, rfl, rfl, ⟨_, rfl⟩, fun j hji => ?_⟩
      by_cases h : j = i
      · rw [h]; exact hs
      · exact hj j (by omega)
    · simp (config := {decide := true}) only [K_pglog_base_0, l_pglog_base_0, h1, h8, h9, hd, hw, b3, b3', b4, hi, hob, hs, Pk.EVL, keepT, enum, ↓reduceIte, ev, act, appT, callee, toDs, toD, loadA, storeA, subA, subD, updA, Eff.on, resA, resVs, resV, lk, finish, frzR, frzVs, frzV, fznR, fzns, fzn, lts, lt, ltO, List.all, pairsOk, indep, reduceCtorEq, Nat.reduceEqDiff, Nat.reduceAdd, Nat.reduceLeDiff, stb, thaws, List.drop, intOfA, binD, binI, unD, mmL, buildA, mkAgg, allD, bslD, behind, behind0, takeAt, frzAs, frzA, adoptR, adopt, isD, isD0, trim, List.take, binS, sliceA, bnd, zOk, elems, Nat.reduceBNe, inpl, Nat.reduceLT, Nat.reduceBEq, Nat.reduceSub, Nat.reduceMul, Int.reduceLT, Int.reduceLE, Int.reduceEq, Int.reduceToNat, Int.reduceNeg, thaw, nodup, refsV, adopts, Pk.TY_Base, Pk.TY_Objt]
      refine ⟨_, _, _, rfl, ?_⟩
      refine .inr ⟨by simp, .inr ⟨rfl, rfl, ⟨_, rfl⟩, fun h => ?_⟩⟩
      rw [h i hi] at hs
      simp at hs
  · rintro T H ⟨h1, h8, h9, ⟨J, rfl⟩, hj⟩
    simp (config := {decide := true}) only [K_pglog_base_0, l_pglog_base_0, h1, h8, h9, Pk.EVL, keepT, enum, ↓reduceIte, ev, act, appT, callee, toDs, toD, loadA, storeA, subA, subD, updA, Eff.on, resA, resVs, resV, lk, finish, frzR, frzVs, frzV, fznR, fzns, fzn, lts, lt, ltO, List.all, pairsOk, indep, reduceCtorEq, Nat.reduceEqDiff, Nat.reduceAdd, Nat.reduceLeDiff, stb, thaws, List.drop, intOfA, binD, binI, unD, mmL, buildA, mkAgg, allD, bslD, behind, behind0, takeAt, frzAs, frzA, adoptR, adopt, isD, isD0, trim, List.take, binS, sliceA, bnd, zOk, elems, Nat.reduceBNe, inpl, Nat.reduceLT, Nat.reduceBEq, Nat.reduceSub, Nat.reduceMul, Int.reduceLT, Int.reduceLE, Int.reduceEq, Int.reduceToNat, Int.reduceNeg, thaw, nodup, refsV, adopts, Pk.TY_Base, Pk.TY_Objt]
    refine ⟨_, _, _, rfl, ?_⟩
    exact ⟨by simp, .inl ⟨rfl, rfl, rfl, hj⟩⟩
  rintro e T H (⟨rfl, h1, rfl, ha⟩ | ⟨rfl, h2, ⟨J, rfl⟩, ha⟩)
  · have he : allN 6 (fun j => okObj (b.objs.get j)) = true := allN_true.2 ha
    simp (config := {decide := true}) only [h1, he, Pk.EVL, keepT, enum, ↓reduceIte, ev, act, appT, callee, toDs, toD, loadA, storeA, subA, subD, updA, Eff.on, resA, resVs, resV, lk, finish, frzR, frzVs, frzV, fznR, fzns, fzn, lts, lt, ltO, List.all, pairsOk, indep, reduceCtorEq, Nat.reduceEqDiff, Nat.reduceAdd, Nat.reduceLeDiff, stb, thaws, List.drop, intOfA, binD, binI, unD, mmL, buildA, mkAgg, allD, bslD, behind, behind0, takeAt, frzAs, frzA, adoptR, adopt, isD, isD0, trim, List.take, binS, sliceA, bnd, zOk, elems, Nat.reduceBNe, inpl, Nat.reduceLT, Nat.reduceBEq, Nat.reduceSub, Nat.reduceMul, Int.reduceLT, Int.reduceLE, Int.reduceEq, Int.reduceToNat, Int.reduceNeg, thaw, nodup, refsV, adopts, Pk.TY_Base]
    simp only [Option.bind_assoc]
    refine bind_run (loop_run (fun i T H => lk T 17 = .d (.agg (R3.cs Last.cs b.last)) ∧ lk T 18 = .d (.i .i64 (i : Nat)) ∧ (∃ J, H = .box (.d (.agg b.cs)) :: J) ∧ ∀ j < i, okLast (b.last.get j) = true)
      (fun e T H => (e = .exit 2 ∧ H = [.box (.d (.agg b.cs))] ∧ ∀ j < 3, okLast (b.last.get j) = true) ∨ (e = .ret ∧ lk T 2 = .d (.b false) ∧ (∃ J, H = .box (.d (.agg b.cs)) :: J) ∧ ¬ ∀ j < 3, okLast (b.last.get j) = true)) 3 ?_ ?_ 3 0 _ _ (by omega) ⟨rfl, rfl, ⟨[], rfl⟩, by omega⟩) ?_
    · rintro i T H hi ⟨h8, h9, ⟨J, rfl⟩, hj⟩
      have hd : decide ((i : Int) < 3) = true := by simp; omega
      have hw : IntKind.i64.wrap ((i : Int) + 1) = ((i + 1 : Nat) : Int) := wi64 (by omega)
      have b3 : ((i : Int) < ((3 : Nat) : Int)) = True := by simp; omega
      have b3' : (0 ≤ (i : Int)) = True := by simp
      have b4 : (i * 3 + 3 ≤ 9) = True := by simp; omega
      have fin : ∀ (r : Bool), okLast (b.last.get i) = r → (r = true → ∀ j < i + 1, okLast (b.last.get j) = true) ∧ (r = false → ¬ ∀ j < 3, okLast (b.last.get j) = true) := by
        intro r hr
        refine ⟨fun h j hji => ?_, fun h hh => ?_⟩
        · by_cases e : j = i
          · rw [e, hr, h]
          · exact hj j (by omega)
        · rw [hh i hi, h] at hr; simp at hr
      unfold okLast at fin
      generalize hl : b.last.get i = l at fin
      have z0 : Last.zero = (⟨0, ⟨0, ⟨#[]⟩⟩⟩ : Last) := rfl
      rw [z0] at fin
      by_cases c1 : l.r.data = ⟨#[]⟩
      · rcases Bool.eq_false_or_eq_true (decide (l.r.code > 3)) with c2 | c2
        · have f := fin false (by rw [c2]; simp)
          simp (config := {decide := true}) only [K_pglog_base_1, l_pglog_base_1, h8, h9, hd, hw, b3, b3', b4, hi, hl, c1, c2, Pk.EVL, keepT, enum, ↓reduceIte, ev, act, appT, callee, toDs, toD, loadA, storeA, subA, subD, updA, Eff.on, resA, resVs, resV, lk, finish, frzR, frzVs, frzV, fznR, fzns, fzn, lts, lt, ltO, List.all, pairsOk, indep, reduceCtorEq, Nat.reduceEqDiff, Nat.reduceAdd, Nat.reduceLeDiff, stb, thaws, List.drop, intOfA, binD, binI, unD, mmL, buildA, mkAgg, allD, bslD, behind, behind0, takeAt, frzAs, frzA, adoptR, adopt, isD, isD0, trim, List.take, binS, sliceA, bnd, zOk, elems, Nat.reduceBNe, inpl, Nat.reduceLT, Nat.reduceBEq, Nat.reduceSub, Nat.reduceMul, Int.reduceLT, Int.reduceLE, Int.reduceEq, Int.reduceToNat, Int.reduceNeg, thaw, nodup, refsV, adopts, Pk.TY_Base, Pk.TY_Last, Pk.TY_Res]
          refine ⟨_, _, _, rfl, ?_⟩
          exact .inr ⟨by simp, .inr ⟨rfl, rfl, ⟨_, rfl⟩, f.2 rfl⟩⟩
        · rcases Bool.eq_false_or_eq_true (l.seq == 0) with c3 | c3
          · by_cases c4 : l = (⟨0, ⟨0, ⟨#[]⟩⟩⟩ : Last)
            · have f := fin true (by rw [c2, c3]; simp [c1, ← c4])
              have c4' : decide (l = (⟨0, ⟨0, ⟨#[]⟩⟩⟩ : Last)) = true := decide_eq_true c4
              simp (config := {decide := true}) only [K_pglog_base_1, l_pglog_base_1, h8, h9, hd, hw, b3, b3', b4, hi, hl, c1, c2, c3, c4', Pk.EVL, keepT, enum, ↓reduceIte, ev, act, appT, callee, toDs, toD, loadA, storeA, subA, subD, updA, Eff.on, resA, resVs, resV, lk, finish, frzR, frzVs, frzV, fznR, fzns, fzn, lts, lt, ltO, List.all, pairsOk, indep, reduceCtorEq, Nat.reduceEqDiff, Nat.reduceAdd, Nat.reduceLeDiff, stb, thaws, List.drop, intOfA, binD, binI, unD, mmL, buildA, mkAgg, allD, bslD, behind, behind0, takeAt, frzAs, frzA, adoptR, adopt, isD, isD0, trim, List.take, binS, sliceA, bnd, zOk, elems, Nat.reduceBNe, inpl, Nat.reduceLT, Nat.reduceBEq, Nat.reduceSub, Nat.reduceMul, Int.reduceLT, Int.reduceLE, Int.reduceEq, Int.reduceToNat, Int.reduceNeg, thaw, nodup, refsV, adopts, Pk.TY_Base, Pk.TY_Last, Pk.TY_Res]
              refine ⟨_, _, _, rfl, ?_⟩
              exact .inl ⟨rfl, rfl, rfl, ⟨_, rfl⟩, f.1 rfl⟩
            · have c4' : decide (l = (⟨0, ⟨0, ⟨#[]⟩⟩⟩ : Last)) = false := decide_eq_false c4
              have f := fin false (by rw [c2, c3, c4']; simp)
              simp (config := {decide := true}) only [K_pglog_base_1, l_pglog_base_1, h8, h9, hd, hw, b3, b3', b4, hi, hl, c1, c2, c3, c4', Pk.EVL, keepT, enum, ↓reduceIte, ev, act, appT, callee, toDs, toD, loadA, storeA, subA, subD, updA, Eff.on, resA, resVs, resV, lk, finish, frzR, frzVs, frzV, fznR, fzns, fzn, lts, lt, ltO, List.all, pairsOk, indep, reduceCtorEq, Nat.reduceEqDiff, Nat.reduceAdd, Nat.reduceLeDiff, stb, thaws, List.drop, intOfA, binD, binI, unD, mmL, buildA, mkAgg, allD, bslD, behind, behind0, takeAt, frzAs, frzA, adoptR, adopt, isD, isD0, trim, List.take, binS, sliceA, bnd, zOk, elems, Nat.reduceBNe, inpl, Nat.reduceLT, Nat.reduceBEq, Nat.reduceSub, Nat.reduceMul, Int.reduceLT, Int.reduceLE, Int.reduceEq, Int.reduceToNat, Int.reduceNeg, thaw, nodup, refsV, adopts, Pk.TY_Base, Pk.TY_Last, Pk.TY_Res]
              refine ⟨_, _, _, rfl, ?_⟩
              exact .inr ⟨by simp, .inr ⟨rfl, rfl, ⟨_, rfl⟩, f.2 rfl⟩⟩
          · have f := fin true (by rw [c2, c3]; simp [c1])
            simp (config := {decide := true}) only [K_pglog_base_1, l_pglog_base_1, h8, h9, hd, hw, b3, b3', b4, hi, hl, c1, c2, c3, Pk.EVL, keepT, enum, ↓reduceIte, ev, act, appT, callee, toDs, toD, loadA, storeA, subA, subD, updA, Eff.on, resA, resVs, resV, lk, finish, frzR, frzVs, frzV, fznR, fzns, fzn, lts, lt, ltO, List.all, pairsOk, indep, reduceCtorEq, Nat.reduceEqDiff, Nat.reduceAdd, Nat.reduceLeDiff, stb, thaws, List.drop, intOfA, binD, binI, unD, mmL, buildA, mkAgg, allD, bslD, behind, behind0, takeAt, frzAs, frzA, adoptR, adopt, isD, isD0, trim, List.take, binS, sliceA, bnd, zOk, elems, Nat.reduceBNe, inpl, Nat.reduceLT, Nat.reduceBEq, Nat.reduceSub, Nat.reduceMul, Int.reduceLT, Int.reduceLE, Int.reduceEq, Int.reduceToNat, Int.reduceNeg, thaw, nodup, refsV, adopts, Pk.TY_Base, Pk.TY_Last, Pk.TY_Res]
            refine ⟨_, _, _, rfl, ?_⟩
            exact .inl ⟨rfl, rfl, rfl, ⟨_, rfl⟩, f.1 rfl⟩
      · have f := fin false (by simp [c1])
        simp (config := {decide := true}) only [K_pglog_base_1, l_pglog_base_1, h8, h9, hd, hw, b3, b3', b4, hi, hl, c1, Pk.EVL, keepT, enum, ↓reduceIte, ev, act, appT, callee, toDs, toD, loadA, storeA, subA, subD, updA, Eff.on, resA, resVs, resV, lk, finish, frzR, frzVs, frzV, fznR, fzns, fzn, lts, lt, ltO, List.all, pairsOk, indep, reduceCtorEq, Nat.reduceEqDiff, Nat.reduceAdd, Nat.reduceLeDiff, stb, thaws, List.drop, intOfA, binD, binI, unD, mmL, buildA, mkAgg, allD, bslD, behind, behind0, takeAt, frzAs, frzA, adoptR, adopt, isD, isD0, trim, List.take, binS, sliceA, bnd, zOk, elems, Nat.reduceBNe, inpl, Nat.reduceLT, Nat.reduceBEq, Nat.reduceSub, Nat.reduceMul, Int.reduceLT, Int.reduceLE, Int.reduceEq, Int.reduceToNat, Int.reduceNeg, thaw, nodup, refsV, adopts, Pk.TY_Base, Pk.TY_Last, Pk.TY_Res]
        refine ⟨_, _, _, rfl, ?_⟩
        exact .inr ⟨by simp, .inr ⟨rfl, rfl, ⟨_, rfl⟩, f.2 rfl⟩⟩
    · rintro T H ⟨h8, h9, ⟨J, rfl⟩, hj⟩
      simp (config := {decide := true}) only [K_pglog_base_1, l_pglog_base_1, h8, h9, Pk.EVL, keepT, enum, ↓reduceIte, ev, act, appT, callee, toDs, toD, loadA, storeA, subA, subD, updA, Eff.on, resA, resVs, resV, lk, finish, frzR, frzVs, frzV, fznR, fzns, fzn, lts, lt, ltO, List.all, pairsOk, indep, reduceCtorEq, Nat.reduceEqDiff, Nat.reduceAdd, Nat.reduceLeDiff, stb, thaws, List.drop, intOfA, binD, binI, unD, mmL, buildA, mkAgg, allD, bslD, behind, behind0, takeAt, frzAs, frzA, adoptR, adopt, isD, isD0, trim, List.take, binS, sliceA, bnd, zOk, elems, Nat.reduceBNe, inpl, Nat.reduceLT, Nat.reduceBEq, Nat.reduceSub, Nat.reduceMul, Int.reduceLT, Int.reduceLE, Int.reduceEq, Int.reduceToNat, Int.reduceNeg, thaw, nodup, refsV, adopts, Pk.TY_Base, Pk.TY_Last]
      refine ⟨_, _, _, rfl, ?_⟩
      exact ⟨by simp, .inl ⟨rfl, rfl, hj⟩⟩
    · rintro e T H (⟨rfl, rfl, ha⟩ | ⟨rfl, h2, ⟨J, rfl⟩, ha⟩)
      · have he : allN 3 (fun j => okLast (b.last.get j)) = true := allN_true.2 ha
        simp (config := {decide := true}) only [he, Pk.EVL, keepT, enum, ↓reduceIte, ev, act, appT, callee, toDs, toD, loadA, storeA, subA, subD, updA, Eff.on, resA, resVs, resV, lk, finish, frzR, frzVs, frzV, fznR, fzns, fzn, lts, lt, ltO, List.all, pairsOk, indep, reduceCtorEq, Nat.reduceEqDiff, Nat.reduceAdd, Nat.reduceLeDiff, stb, thaws, List.drop, intOfA, binD, binI, unD, mmL, buildA, mkAgg, allD, bslD, behind, behind0, takeAt, frzAs, frzA, adoptR, adopt, isD, isD0, trim, List.take, binS, sliceA, bnd, zOk, elems, Nat.reduceBNe, inpl, Nat.reduceLT, Nat.reduceBEq, Nat.reduceSub, Nat.reduceMul, Int.reduceLT, Int.reduceLE, Int.reduceEq, Int.reduceToNat, Int.reduceNeg, thaw, nodup, refsV, adopts, Pk.TY_Base]
      · have he : allN 3 (fun j => okLast (b.last.get j)) = false := allN_false ha
        simp (config := {decide := true}) only [h2, he, Pk.EVL, keepT, enum, ↓reduceIte, ev, act, appT, callee, toDs, toD, loadA, storeA, subA, subD, updA, Eff.on, resA, resVs, resV, lk, finish, frzR, frzVs, frzV, fznR, fzns, fzn, lts, lt, ltO, List.all, pairsOk, indep, reduceCtorEq, Nat.reduceEqDiff, Nat.reduceAdd, Nat.reduceLeDiff, stb, thaws, List.drop, intOfA, binD, binI, unD, mmL, buildA, mkAgg, allD, bslD, behind, behind0, takeAt, frzAs, frzA, adoptR, adopt, isD, isD0, trim, List.take, binS, sliceA, bnd, zOk, elems, Nat.reduceBNe, inpl, Nat.reduceLT, Nat.reduceBEq, Nat.reduceSub, Nat.reduceMul, Int.reduceLT, Int.reduceLE, Int.reduceEq, Int.reduceToNat, Int.reduceNeg, thaw, nodup, refsV, adopts, Pk.TY_Base]
  · have he : allN 6 (fun j => okObj (b.objs.get j)) = false := allN_false ha
    simp (config := {decide := true}) only [h2, he, Pk.EVL, keepT, enum, ↓reduceIte, ev, act, appT, callee, toDs, toD, loadA, storeA, subA, subD, updA, Eff.on, resA, resVs, resV, lk, finish, frzR, frzVs, frzV, fznR, fzns, fzn, lts, lt, ltO, List.all, pairsOk, indep, reduceCtorEq, Nat.reduceEqDiff, Nat.reduceAdd, Nat.reduceLeDiff, stb, thaws, List.drop, intOfA, binD, binI, unD, mmL, buildA, mkAgg, allD, bslD, behind, behind0, takeAt, frzAs, frzA, adoptR, adopt, isD, isD0, trim, List.take, binS, sliceA, bnd, zOk, elems, Nat.reduceBNe, inpl, Nat.reduceLT, Nat.reduceBEq, Nat.reduceSub, Nat.reduceMul, Int.reduceLT, Int.reduceLE, Int.reduceEq, Int.reduceToNat, Int.reduceNeg, thaw, nodup, refsV, adopts, Pk.TY_Base]

def nextE (last e : Entry) : Bool := writes e.op && (e.n == IntKind.u32.wrap (last.n + 1)) && decide (e.n > last.n) && decide (e.since ≥ last.since) && decide (e.since ≤ 60)
theorem next_at (last e : Entry) : evF C F_pglog_next [.d (.agg last.cs), .d (.agg e.cs)] [] = some (.d (.b (nextE last e)), []) := by
  rw [evF_code (rfl : C F_pglog_next = some a_pglog_next) _ _ rfl]
  unfold nextE
  have hw := writes_at e.op
  rcases Bool.eq_false_or_eq_true (!writes e.op) with h1 | h1
  · simp only [Bool.not_eq_true', Bool.not_eq_false'] at *
    simp (config := {decide := true}) only [c_pglog_next, hw, h1, Pk.EVL, keepT, enum, ↓reduceIte, ev, act, appT, callee, toDs, toD, loadA, storeA, subA, subD, updA, Eff.on, resA, resVs, resV, lk, finish, frzR, frzVs, frzV, fznR, fzns, fzn, lts, lt, ltO, List.all, pairsOk, indep, reduceCtorEq, Nat.reduceEqDiff, Nat.reduceAdd, Nat.reduceLeDiff, stb, thaws, List.drop, intOfA, binD, binI, unD, mmL, buildA, mkAgg, allD, bslD, behind, behind0, takeAt, frzAs, frzA, adoptR, adopt, isD, isD0, trim, List.take, binS, sliceA, bnd, zOk, elems, Nat.reduceBNe, inpl, Nat.reduceLT, Nat.reduceBEq, Nat.reduceSub, Nat.reduceMul, Int.reduceLT, Int.reduceLE, Int.reduceEq, Int.reduceToNat, Int.reduceNeg, thaw, nodup, refsV, adopts, Pk.TY_Entry]
    try simp
  · rcases Bool.eq_false_or_eq_true (!(e.n == IntKind.u32.wrap (last.n + 1))) with h2 | h2
    · simp only [Bool.not_eq_true', Bool.not_eq_false'] at *
      simp (config := {decide := true}) only [c_pglog_next, hw, h1, h2, Pk.EVL, keepT, enum, ↓reduceIte, ev, act, appT, callee, toDs, toD, loadA, storeA, subA, subD, updA, Eff.on, resA, resVs, resV, lk, finish, frzR, frzVs, frzV, fznR, fzns, fzn, lts, lt, ltO, List.all, pairsOk, indep, reduceCtorEq, Nat.reduceEqDiff, Nat.reduceAdd, Nat.reduceLeDiff, stb, thaws, List.drop, intOfA, binD, binI, unD, mmL, buildA, mkAgg, allD, bslD, behind, behind0, takeAt, frzAs, frzA, adoptR, adopt, isD, isD0, trim, List.take, binS, sliceA, bnd, zOk, elems, Nat.reduceBNe, inpl, Nat.reduceLT, Nat.reduceBEq, Nat.reduceSub, Nat.reduceMul, Int.reduceLT, Int.reduceLE, Int.reduceEq, Int.reduceToNat, Int.reduceNeg, thaw, nodup, refsV, adopts, Pk.TY_Entry]
      try simp
    · rcases Bool.eq_false_or_eq_true (!decide (e.n > last.n)) with h3 | h3
      · simp only [Bool.not_eq_true', Bool.not_eq_false'] at *
        simp (config := {decide := true}) only [c_pglog_next, hw, h1, h2, h3, Pk.EVL, keepT, enum, ↓reduceIte, ev, act, appT, callee, toDs, toD, loadA, storeA, subA, subD, updA, Eff.on, resA, resVs, resV, lk, finish, frzR, frzVs, frzV, fznR, fzns, fzn, lts, lt, ltO, List.all, pairsOk, indep, reduceCtorEq, Nat.reduceEqDiff, Nat.reduceAdd, Nat.reduceLeDiff, stb, thaws, List.drop, intOfA, binD, binI, unD, mmL, buildA, mkAgg, allD, bslD, behind, behind0, takeAt, frzAs, frzA, adoptR, adopt, isD, isD0, trim, List.take, binS, sliceA, bnd, zOk, elems, Nat.reduceBNe, inpl, Nat.reduceLT, Nat.reduceBEq, Nat.reduceSub, Nat.reduceMul, Int.reduceLT, Int.reduceLE, Int.reduceEq, Int.reduceToNat, Int.reduceNeg, thaw, nodup, refsV, adopts, Pk.TY_Entry]
        try simp
      · rcases Bool.eq_false_or_eq_true (!decide (e.since ≥ last.since)) with h4 | h4
        · simp only [Bool.not_eq_true', Bool.not_eq_false'] at *
          simp (config := {decide := true}) only [c_pglog_next, hw, h1, h2, h3, h4, Pk.EVL, keepT, enum, ↓reduceIte, ev, act, appT, callee, toDs, toD, loadA, storeA, subA, subD, updA, Eff.on, resA, resVs, resV, lk, finish, frzR, frzVs, frzV, fznR, fzns, fzn, lts, lt, ltO, List.all, pairsOk, indep, reduceCtorEq, Nat.reduceEqDiff, Nat.reduceAdd, Nat.reduceLeDiff, stb, thaws, List.drop, intOfA, binD, binI, unD, mmL, buildA, mkAgg, allD, bslD, behind, behind0, takeAt, frzAs, frzA, adoptR, adopt, isD, isD0, trim, List.take, binS, sliceA, bnd, zOk, elems, Nat.reduceBNe, inpl, Nat.reduceLT, Nat.reduceBEq, Nat.reduceSub, Nat.reduceMul, Int.reduceLT, Int.reduceLE, Int.reduceEq, Int.reduceToNat, Int.reduceNeg, thaw, nodup, refsV, adopts, Pk.TY_Entry]
          try simp
        · simp only [Bool.not_eq_true', Bool.not_eq_false'] at *
          simp (config := {decide := true}) only [c_pglog_next, hw, h1, h2, h3, h4, Pk.EVL, keepT, enum, ↓reduceIte, ev, act, appT, callee, toDs, toD, loadA, storeA, subA, subD, updA, Eff.on, resA, resVs, resV, lk, finish, frzR, frzVs, frzV, fznR, fzns, fzn, lts, lt, ltO, List.all, pairsOk, indep, reduceCtorEq, Nat.reduceEqDiff, Nat.reduceAdd, Nat.reduceLeDiff, stb, thaws, List.drop, intOfA, binD, binI, unD, mmL, buildA, mkAgg, allD, bslD, behind, behind0, takeAt, frzAs, frzA, adoptR, adopt, isD, isD0, trim, List.take, binS, sliceA, bnd, zOk, elems, Nat.reduceBNe, inpl, Nat.reduceLT, Nat.reduceBEq, Nat.reduceSub, Nat.reduceMul, Int.reduceLT, Int.reduceLE, Int.reduceEq, Int.reduceToNat, Int.reduceNeg, thaw, nodup, refsV, adopts, Pk.TY_Entry]
          try simp
end Go.Proofs.YtlihpaegaikoeaaDoor
