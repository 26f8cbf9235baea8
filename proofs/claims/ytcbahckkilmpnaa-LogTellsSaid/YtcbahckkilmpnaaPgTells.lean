/- The law LogTells. -/
import Derived.Test.YtcbahckkilmpnaaPgS
set_option linter.all false
namespace Go.Proofs.Ytcbahckkilmpnaa
open Pv Go Pk
set_option maxRecDepth 10000
set_option maxHeartbeats 2000000
def fewS (s : State) : Bool := allN 6 (fun j => decide (((s.base.objs.get j).data.size : Int) ≤ 100)) && decide ((s.log.length : Int) ≤ 20)
theorem few_at (s : State) : evF C F_paddocklaw7_few [.d (.agg s.cs)] [] = some (.d (.b (fewS s)), []) := by
  rw [evF_code (rfl : C F_paddocklaw7_few = some a_paddocklaw7_few) _ _ rfl]
  unfold fewS
  simp (config := {decide := true}) only [c_paddocklaw7_few, Pk.EVL, keepT, enum, ↓reduceIte, ev, act, appT, callee, toDs, toD, loadA, storeA, subA, subD, updA, Eff.on, resA, resVs, resV, lk, finish, frzR, frzVs, frzV, fznR, fzns, fzn, lts, lt, ltO, List.all, pairsOk, indep, reduceCtorEq, Nat.reduceEqDiff, Nat.reduceAdd, Nat.reduceLeDiff, stb, thaws, List.drop, intOfA, binD, binI, unD, mmL, buildA, mkAgg, allD, behind, behind0, takeAt, frzAs, frzA, adoptR, adopt, isD, isD0, trim, List.take, binS, sliceA, bnd, zOk, elems, Nat.reduceBNe, inpl, Nat.reduceLT, Nat.reduceBEq, Nat.reduceSub, Nat.reduceMul, Int.reduceLT, Int.reduceLE, Int.reduceEq, Int.reduceToNat, Int.reduceNeg, thaw, nodup, refsV, adopts, Pk.TY_State, Pk.TY_Base]
  simp only [Option.bind_assoc]
  refine bind_run (loop_run (fun i T H => lk T 1 = .ptr 0 0 ∧ lk T 3 = .d (.i .i64 (i : Nat)) ∧ H = [.box (.d (.agg s.cs))] ∧ ∀ j < i, decide (((s.base.objs.get j).data.size : Int) ≤ 100) = true)
    (fun e T H => H = [.box (.d (.agg s.cs))] ∧ ((e = .exit 0 ∧ lk T 1 = .ptr 0 0 ∧ allN 6 (fun j => decide (((s.base.objs.get j).data.size : Int) ≤ 100)) = true) ∨ (e = .ret ∧ lk T 2 = .d (.b false) ∧ allN 6 (fun j => decide (((s.base.objs.get j).data.size : Int) ≤ 100)) = false))) 6 ?_ ?_ 6 0 _ _ (by omega) ⟨rfl, rfl, rfl, by omega⟩) ?_
  · rintro i T H hi ⟨h1, h3, rfl, hj⟩
    have hd : decide ((i : Int) < 6) = true := by simp; omega
    have hw : IntKind.i64.wrap ((i : Int) + 1) = ((i + 1 : Nat) : Int) := wi64 (by omega)
    have b3 : ((i : Int) < ((6 : Nat) : Int)) = True := by simp; omega
    have b0 : (0 ≤ (i : Int)) = True := by simp
    have hx : ∀ (s : State) (i : Nat), i < 6 → s.cs[1 + i * 5 + 1]? = some (.s (s.base.objs.get i).data) := fun s i h => match i, h with
      | 0, _ => rfl | 1, _ => rfl | 2, _ => rfl | 3, _ => rfl | 4, _ => rfl | 5, _ => rfl | _ + 6, h => absurd h (by omega)
    have hx := hx s i hi
    rcases Bool.eq_false_or_eq_true (decide (((s.base.objs.get i).data.size : Int) ≤ 100)) with c | c
    · have hc : decide (((s.base.objs.get i).data.size : Int) > 100) = false := by have := of_decide_eq_true c; simp; omega
      simp (config := {decide := true}) only [K_paddocklaw7_few_0, l_paddocklaw7_few_0, h1, h3, hd, hw, b3, b0, hx, hc, Pk.EVL, keepT, enum, ↓reduceIte, ev, act, appT, callee, toDs, toD, loadA, storeA, subA, subD, updA, Eff.on, resA, resVs, resV, lk, finish, frzR, frzVs, frzV, fznR, fzns, fzn, lts, lt, ltO, List.all, pairsOk, indep, reduceCtorEq, Nat.reduceEqDiff, Nat.reduceAdd, Nat.reduceLeDiff, stb, thaws, List.drop, intOfA, binD, binI, unD, mmL, buildA, mkAgg, allD, behind, behind0, takeAt, frzAs, frzA, adoptR, adopt, isD, isD0, trim, List.take, binS, sliceA, bnd, zOk, elems, Nat.reduceBNe, inpl, Nat.reduceLT, Nat.reduceBEq, Nat.reduceSub, Nat.reduceMul, Int.reduceLT, Int.reduceLE, Int.reduceEq, Int.reduceToNat, Int.reduceNeg, thaw, nodup, refsV, adopts, Pk.TY_State]
      refine ⟨_, _, _, rfl, ?_⟩
      refine .inl ⟨rfl, rfl, rfl, rfl, fun j hj' => ?_⟩
      by_cases e : j = i
      · rw [e]; exact c
      · exact hj j (by omega)
    · have hc : decide (((s.base.objs.get i).data.size : Int) > 100) = true := by have := of_decide_eq_false c; simp; omega
      simp (config := {decide := true}) only [K_paddocklaw7_few_0, l_paddocklaw7_few_0, h1, h3, hd, hw, b3, b0, hx, hc, Pk.EVL, keepT, enum, ↓reduceIte, ev, act, appT, callee, toDs, toD, loadA, storeA, subA, subD, updA, Eff.on, resA, resVs, resV, lk, finish, frzR, frzVs, frzV, fznR, fzns, fzn, lts, lt, ltO, List.all, pairsOk, indep, reduceCtorEq, Nat.reduceEqDiff, Nat.reduceAdd, Nat.reduceLeDiff, stb, thaws, List.drop, intOfA, binD, binI, unD, mmL, buildA, mkAgg, allD, behind, behind0, takeAt, frzAs, frzA, adoptR, adopt, isD, isD0, trim, List.take, binS, sliceA, bnd, zOk, elems, Nat.reduceBNe, inpl, Nat.reduceLT, Nat.reduceBEq, Nat.reduceSub, Nat.reduceMul, Int.reduceLT, Int.reduceLE, Int.reduceEq, Int.reduceToNat, Int.reduceNeg, thaw, nodup, refsV, adopts, Pk.TY_State]
      refine ⟨_, _, _, rfl, ?_⟩
      exact .inr ⟨by simp, rfl, .inr ⟨rfl, rfl, allN_false fun h => by rw [h i hi] at c; simp at c⟩⟩
  · rintro T H ⟨h1, h3, rfl, hj⟩
    simp (config := {decide := true}) only [K_paddocklaw7_few_0, l_paddocklaw7_few_0, h1, h3, Pk.EVL, keepT, enum, ↓reduceIte, ev, act, appT, callee, toDs, toD, loadA, storeA, subA, subD, updA, Eff.on, resA, resVs, resV, lk, finish, frzR, frzVs, frzV, fznR, fzns, fzn, lts, lt, ltO, List.all, pairsOk, indep, reduceCtorEq, Nat.reduceEqDiff, Nat.reduceAdd, Nat.reduceLeDiff, stb, thaws, List.drop, intOfA, binD, binI, unD, mmL, buildA, mkAgg, allD, behind, behind0, takeAt, frzAs, frzA, adoptR, adopt, isD, isD0, trim, List.take, binS, sliceA, bnd, zOk, elems, Nat.reduceBNe, inpl, Nat.reduceLT, Nat.reduceBEq, Nat.reduceSub, Nat.reduceMul, Int.reduceLT, Int.reduceLE, Int.reduceEq, Int.reduceToNat, Int.reduceNeg, thaw, nodup, refsV, adopts, Pk.TY_State]
    refine ⟨_, _, _, rfl, ?_⟩
    exact ⟨by simp, rfl, .inl ⟨rfl, rfl, allN_true.2 hj⟩⟩
  rintro e T H ⟨rfl, ⟨rfl, h1, ha⟩ | ⟨rfl, h2, ha⟩⟩
  · rw [ha]
    simp (config := {decide := true}) only [h1, Pk.EVL, keepT, enum, ↓reduceIte, ev, act, appT, callee, toDs, toD, loadA, storeA, subA, subD, updA, Eff.on, resA, resVs, resV, lk, finish, frzR, frzVs, frzV, fznR, fzns, fzn, lts, lt, ltO, List.all, pairsOk, indep, reduceCtorEq, Nat.reduceEqDiff, Nat.reduceAdd, Nat.reduceLeDiff, stb, thaws, List.drop, intOfA, binD, binI, unD, mmL, buildA, mkAgg, allD, behind, behind0, takeAt, frzAs, frzA, adoptR, adopt, isD, isD0, trim, List.take, binS, sliceA, bnd, zOk, elems, Nat.reduceBNe, inpl, Nat.reduceLT, Nat.reduceBEq, Nat.reduceSub, Nat.reduceMul, Int.reduceLT, Int.reduceLE, Int.reduceEq, Int.reduceToNat, Int.reduceNeg, thaw, nodup, refsV, adopts, Pk.TY_State]
  · rw [ha]
    simp (config := {decide := true}) only [h2, Pk.EVL, keepT, enum, ↓reduceIte, ev, act, appT, callee, toDs, toD, loadA, storeA, subA, subD, updA, Eff.on, resA, resVs, resV, lk, finish, frzR, frzVs, frzV, fznR, fzns, fzn, lts, lt, ltO, List.all, pairsOk, indep, reduceCtorEq, Nat.reduceEqDiff, Nat.reduceAdd, Nat.reduceLeDiff, stb, thaws, List.drop, intOfA, binD, binI, unD, mmL, buildA, mkAgg, allD, behind, behind0, takeAt, frzAs, frzA, adoptR, adopt, isD, isD0, trim, List.take, binS, sliceA, bnd, zOk, elems, Nat.reduceBNe, inpl, Nat.reduceLT, Nat.reduceBEq, Nat.reduceSub, Nat.reduceMul, Int.reduceLT, Int.reduceLE, Int.reduceEq, Int.reduceToNat, Int.reduceNeg, thaw, nodup, refsV, adopts]
theorem folded_len (s : State) (k : Nat) : (foldedS s k).log.length ≤ s.log.length := by show (s.log.drop k).length ≤ _; rw [List.length_drop]; omega
theorem addS_res (s : State) (e : Entry) (hl : s.log.length ≤ 100) : ((addS s e).2 = 0 ∨ (addS s e).2 = 10) ∧ (addS s e).1.log.length ≤ 200 := by
  unfold addS
  split
  · refine ⟨.inl rfl, Nat.le_trans (folded_len _ _) ?_⟩
    simp; omega
  · exact ⟨.inr rfl, by decide⟩
theorem cutS_len (s : State) (n : Int) (hl : s.log.length ≤ 100) : (cutS s n).1.log.length ≤ 100 := by
  unfold cutS
  split
  · split
    · show (s.log.take _).length ≤ 100; rw [List.length_take]; omega
    · decide
  · decide
theorem tailS_len (s : State) (n : Int) (hl : s.log.length ≤ 100) : (tailS s n).1.log.length ≤ 100 := by
  unfold tailS
  split
  · split
    · decide
    · split
      · exact Nat.le_trans (folded_len _ _) hl
      · decide
  · decide
theorem tells_law (s t : State) (hs : stFull s) (e : Entry) (he : e.ok) (n : Int) (hn : 0 ≤ n ∧ n < 4294967296) : evF C F_paddocklaw7_LogTells [.d (.agg s.cs), .d (.agg t.cs), .d (.agg e.cs), .d (.i .u32 n)] [] = some (.d (.b true), []) := by
  rw [evF_code (rfl : C F_paddocklaw7_LogTells = some a_paddocklaw7_LogTells) _ _ rfl]
  have f1 := few_at s
  have f2 := few_at t
  rcases Bool.eq_false_or_eq_true (fewS s) with c1 | c1
  case inr => simp (config := {decide := true}) only [c_paddocklaw7_LogTells, known_at, f1, c1, guardR_und, Pk.EVL, keepT, enum, ↓reduceIte, ev, act, appT, callee, toDs, toD, loadA, storeA, subA, subD, updA, Eff.on, resA, resVs, resV, lk, finish, frzR, frzVs, frzV, fznR, fzns, fzn, lts, lt, ltO, List.all, pairsOk, indep, reduceCtorEq, Nat.reduceEqDiff, Nat.reduceAdd, Nat.reduceLeDiff, stb, thaws, List.drop, intOfA, binD, binI, unD, mmL, buildA, mkAgg, allD, behind, behind0, takeAt, frzAs, frzA, adoptR, adopt, isD, isD0, trim, List.take, binS, sliceA, bnd, zOk, elems, Nat.reduceBNe, inpl, Nat.reduceLT, Nat.reduceBEq, Nat.reduceSub, Nat.reduceMul, Int.reduceLT, Int.reduceLE, Int.reduceEq, Int.reduceToNat, Int.reduceNeg, thaw, nodup, refsV, adopts, Pk.TY_State, Pk.TY_Entry]
  rcases Bool.eq_false_or_eq_true (fewS t) with c2 | c2
  case inr => simp (config := {decide := true}) only [c_paddocklaw7_LogTells, known_at, f1, f2, c1, c2, guardR_und, Pk.EVL, keepT, enum, ↓reduceIte, ev, act, appT, callee, toDs, toD, loadA, storeA, subA, subD, updA, Eff.on, resA, resVs, resV, lk, finish, frzR, frzVs, frzV, fznR, fzns, fzn, lts, lt, ltO, List.all, pairsOk, indep, reduceCtorEq, Nat.reduceEqDiff, Nat.reduceAdd, Nat.reduceLeDiff, stb, thaws, List.drop, intOfA, binD, binI, unD, mmL, buildA, mkAgg, allD, behind, behind0, takeAt, frzAs, frzA, adoptR, adopt, isD, isD0, trim, List.take, binS, sliceA, bnd, zOk, elems, Nat.reduceBNe, inpl, Nat.reduceLT, Nat.reduceBEq, Nat.reduceSub, Nat.reduceMul, Int.reduceLT, Int.reduceLE, Int.reduceEq, Int.reduceToNat, Int.reduceNeg, thaw, nodup, refsV, adopts, Pk.TY_State, Pk.TY_Entry]
  have hl : s.log.length ≤ 20 := by
    unfold fewS at c1
    rw [Bool.and_eq_true] at c1
    have := of_decide_eq_true c1.2
    omega
  have a1 := head_at s
  have a2 := refhead_at s hs
  have a3 := add_at s e hs.ok.log he.2.2
  have a4 := refadd_at s hs e he
  have a5 := is_st s
  have a6 := refis_st s hs
  have a7 := fold_at s hs.ok.log
  have a8 := reffold_at s hs
  have a9 := same_at s t (by omega)
  have a10 := refsame_at s t (by omega)
  have a11 := same_at s s (by omega)
  rw [decide_eq_true rfl] at a11
  have b1 := upto_at s n hs.ok
  have b2 := refupto_at s hs n
  have b3 := cut_at s n hs.ok
  have b4 := refcut_at s hs n
  have b5 := tail_at s n hs.ok
  have b6 := reftail_at s hs n
  have b7 := find_at s n hs.ok
  have b8 := reffind_at s hs n hn (by omega)
  obtain ⟨hr, hrl⟩ := addS_res s e (by omega)
  have r1 := refsame_at (addS s e).1 (addS s e).1 (by omega)
  have r2 := refsame_at (cutS s n).1 (cutS s n).1 (by have := cutS_len s n (by omega); omega)
  have r3 := refsame_at (tailS s n).1 (tailS s n).1 (by have := tailS_len s n (by omega); omega)
  rw [decide_eq_true rfl] at r1 r2 r3
  have e1 : ∀ x : Int, (x == x) = true := fun x => by simp
  have e1' : ∀ x : Int, (x != x) = false := fun x => by simp
  have e2 : ∀ x : Base, decide (x = x) = true := fun x => by simp
  have e3 : ∀ x : Entry, decide (x = x) = true := fun x => by simp
  have eb : ∀ x : Bool, (x == x) = true := fun x => by simp
  have eqb : ∀ p q : Bool, eqV .sb (.b p) (.b q) = some (p == q) := fun p q => by simp only [eqV]
  clear hs he hn f1 f2
  have f1 := few_at s
  have f2 := few_at t
  generalize addS s e = A at *
  generalize cutS s n = B at *
  generalize tailS s n = D at *
  generalize findS s n = F at *
  generalize uptoS s n = U at *
  generalize headS s = Hd at *
  generalize foldS s = Fo at *
  generalize isSt s = I at *
  generalize decide (s = t) = st at *
  have n0 : ((0 : Int) != 0) = false := by decide
  have n10 : ((10 : Int) != 0) = true := by decide
  have n1010 : ((10 : Int) != 10) = false := by decide
  have e00 : ((0 : Int) == 0) = true := by decide
  have e100 : ((10 : Int) == 0) = false := by decide
  obtain ⟨A1, A2⟩ := A
  simp only at hr
  rcases hr with rfl | rfl
  · simp (config := {decide := true}) only [c_paddocklaw7_LogTells, known_at, f1, f2, c1, c2, a1, a2, a3, a4, a5, a6, a7, a8, a9, a10, a11, b1, b2, b3, b4, b5, b6, b7, b8, r1, r2, r3, e1, e1', e2, e3, eb, eqb, n0, e00, Bool.not_true, guardR_und, Pk.EVL, keepT, enum, ↓reduceIte, ev, act, appT, callee, toDs, toD, loadA, storeA, subA, subD, updA, Eff.on, resA, resVs, resV, lk, finish, frzR, frzVs, frzV, fznR, fzns, fzn, lts, lt, ltO, List.all, pairsOk, indep, reduceCtorEq, Nat.reduceEqDiff, Nat.reduceAdd, Nat.reduceLeDiff, stb, thaws, List.drop, intOfA, binD, binI, unD, mmL, buildA, mkAgg, allD, behind, behind0, takeAt, frzAs, frzA, adoptR, adopt, isD, isD0, trim, List.take, binS, sliceA, bnd, zOk, elems, Nat.reduceBNe, inpl, Nat.reduceLT, Nat.reduceBEq, Nat.reduceSub, Nat.reduceMul, Int.reduceLT, Int.reduceLE, Int.reduceEq, Int.reduceToNat, Int.reduceNeg, thaw, nodup, refsV, adopts, Pk.TY_State, Pk.TY_Entry, Pk.TY_Base]
  · simp (config := {decide := true}) only [c_paddocklaw7_LogTells, known_at, f1, f2, c1, c2, a1, a2, a3, a4, a5, a6, a7, a8, a9, a10, a11, b1, b2, b3, b4, b5, b6, b7, b8, r1, r2, r3, e1, e1', e2, e3, eb, eqb, n10, n1010, e100, Bool.not_true, guardR_und, Pk.EVL, keepT, enum, ↓reduceIte, ev, act, appT, callee, toDs, toD, loadA, storeA, subA, subD, updA, Eff.on, resA, resVs, resV, lk, finish, frzR, frzVs, frzV, fznR, fzns, fzn, lts, lt, ltO, List.all, pairsOk, indep, reduceCtorEq, Nat.reduceEqDiff, Nat.reduceAdd, Nat.reduceLeDiff, stb, thaws, List.drop, intOfA, binD, binI, unD, mmL, buildA, mkAgg, allD, behind, behind0, takeAt, frzAs, frzA, adoptR, adopt, isD, isD0, trim, List.take, binS, sliceA, bnd, zOk, elems, Nat.reduceBNe, inpl, Nat.reduceLT, Nat.reduceBEq, Nat.reduceSub, Nat.reduceMul, Int.reduceLT, Int.reduceLE, Int.reduceEq, Int.reduceToNat, Int.reduceNeg, thaw, nodup, refsV, adopts, Pk.TY_State, Pk.TY_Entry, Pk.TY_Base]
end Go.Proofs.Ytcbahckkilmpnaa
