/- The law ChooseBest. -/
import Derived.Test.YtmiionadkdfbdaaChBp
import Derived.Test.YtmiionadkdfbdaaPgR
set_option linter.all false
namespace Go.Proofs.Ytmiionadkdfbdaa
open Pv Go Pk
set_option maxRecDepth 10000
set_option maxHeartbeats 4000000
theorem eptr_st (s : State) : AV.eptr s.cs = .eptr (.i .u32 s.started :: s.cs.tail) := rfl
theorem tail_len (s : State) : (48 ≤ s.cs.tail.length) = True := eq_true (show 48 ≤ s.cs.tail.length from Nat.le_refl 48)
theorem tail_cs (s : State) : DV.i .u32 s.started :: List.take 48 s.cs.tail = s.cs := rfl
def fewS (L : List State) : Bool := L.all (fun s => !decide ((s.log.length : Int) > 12)) && decide ((L.length : Int) ≤ 8)
theorem few9_at (L : List State) (hL : L.length ≤ maxLen) : evF C F_paddocklaw9_few [.d (.sl (L.map State.d))] [] = some (.d (.b (fewS L)), []) := by
  have hLl : (L.map State.d).length = L.length := List.length_map _
  have hmx : maxLen ≤ 9223372036854775807 := by decide
  rw [evF_code (rfl : C F_paddocklaw9_few = some a_paddocklaw9_few) _ _ rfl]
  simp (config := {decide := true}) only [c_paddocklaw9_few, hLl, thaws, Pk.EVL, keepT, enum, ↓reduceIte, ev, act, appT, appW, callee, toDs, toD, loadA, storeA, subA, subD, updA, Eff.on, resA, resVs, resV, lk, finish, frzR, frzVs, frzV, fznR, fzns, fzn, lts, lt, ltO, List.all, pairsOk, indep, reduceCtorEq, Nat.reduceEqDiff, Nat.reduceAdd, Nat.reduceLeDiff, stb, thaws, List.drop, intOfA, binD, binI, unD, mmL, buildA, mkAgg, allD, bslD, behind, behind0, takeAt, frzAs, frzA, adoptR, adopt, isD, isD0, trim, List.take, binS, sliceA, bnd, zOk, elems, Nat.reduceBNe, inpl, Nat.reduceLT, Nat.reduceBEq, Nat.reduceSub, Nat.reduceMul, Int.reduceLT, Int.reduceLE, Int.reduceEq, Int.reduceToNat, Int.reduceNeg, thaw, nodup, refsV, adopts]
  simp only [Option.bind_assoc]
  refine bind_run (loop_run (fun i T H => lk T 0 = .d (.sl (L.map State.d)) ∧ lk T 3 = .d (.i .i64 (i : Nat)) ∧ H = [] ∧ (L.take i).all (fun s => !decide ((s.log.length : Int) > 12)) = true)
    (fun e T H => (e = .exit 0 ∧ lk T 0 = .d (.sl (L.map State.d)) ∧ H = [] ∧ L.all (fun s => !decide ((s.log.length : Int) > 12)) = true) ∨ (e = .ret ∧ lk T 2 = .d (.b false) ∧ H = [] ∧ L.all (fun s => !decide ((s.log.length : Int) > 12)) = false)) L.length ?_ ?_ L.length 0 _ _ (by omega) ⟨rfl, rfl, rfl, rfl⟩) ?_
  · rintro i T H hi ⟨h0, h3, rfl, ha⟩
    obtain ⟨s, hs⟩ : ∃ s, L[i]? = some s := ⟨L[i]'hi, List.getElem?_eq_getElem _⟩
    have hsd := list_idx State.d hs
    have hd : decide ((i : Int) < ((L.length : Nat) : Int)) = true := by simp; omega
    have hw : IntKind.i64.wrap ((i : Int) + 1) = ((i + 1 : Nat) : Int) := wi64 (by omega)
    have b0 : (0 ≤ (i : Int)) = True := by simp
    have b1 : ((i : Int) < ((L.length : Nat) : Int)) = True := eq_true (by omega)
    have hll : (s.log.map Entry.d).length = s.log.length := List.length_map _
    rcases Bool.eq_false_or_eq_true (decide ((s.log.length : Int) > 12)) with c | c
    · have hf : L.all (fun s => !decide ((s.log.length : Int) > 12)) = false := by
        rw [List.all_eq_false]
        exact ⟨s, List.mem_of_getElem? hs, by rw [c]; decide⟩
      simp (config := {decide := true}) only [K_paddocklaw9_few_0, l_paddocklaw9_few_0, h0, h3, hLl, hsd, hll, hd, hw, b0, b1, c, Int.toNat_natCast, Pk.EVL, keepT, enum, ↓reduceIte, ev, act, appT, appW, callee, toDs, toD, loadA, storeA, subA, subD, updA, Eff.on, resA, resVs, resV, lk, finish, frzR, frzVs, frzV, fznR, fzns, fzn, lts, lt, ltO, List.all, pairsOk, indep, reduceCtorEq, Nat.reduceEqDiff, Nat.reduceAdd, Nat.reduceLeDiff, stb, thaws, List.drop, intOfA, binD, binI, unD, mmL, buildA, mkAgg, allD, bslD, behind, behind0, takeAt, frzAs, frzA, adoptR, adopt, isD, isD0, trim, List.take, binS, sliceA, bnd, zOk, elems, Nat.reduceBNe, inpl, Nat.reduceLT, Nat.reduceBEq, Nat.reduceSub, Nat.reduceMul, Int.reduceLT, Int.reduceLE, Int.reduceEq, Int.reduceToNat, Int.reduceNeg, thaw, nodup, refsV, adopts, Pk.TY_State]
      exact ⟨_, _, _, rfl, .inr ⟨by simp, .inr ⟨rfl, rfl, rfl, hf⟩⟩⟩
    · have ht : (L.take (i + 1)).all (fun s => !decide ((s.log.length : Int) > 12)) = true := by
        rw [take_succ' hs, List.all_append, ha, List.all_cons, c]; rfl
      simp (config := {decide := true}) only [K_paddocklaw9_few_0, l_paddocklaw9_few_0, h0, h3, hLl, hsd, hll, hd, hw, b0, b1, c, Int.toNat_natCast, Pk.EVL, keepT, enum, ↓reduceIte, ev, act, appT, appW, callee, toDs, toD, loadA, storeA, subA, subD, updA, Eff.on, resA, resVs, resV, lk, finish, frzR, frzVs, frzV, fznR, fzns, fzn, lts, lt, ltO, List.all, pairsOk, indep, reduceCtorEq, Nat.reduceEqDiff, Nat.reduceAdd, Nat.reduceLeDiff, stb, thaws, List.drop, intOfA, binD, binI, unD, mmL, buildA, mkAgg, allD, bslD, behind, behind0, takeAt, frzAs, frzA, adoptR, adopt, isD, isD0, trim, List.take, binS, sliceA, bnd, zOk, elems, Nat.reduceBNe, inpl, Nat.reduceLT, Nat.reduceBEq, Nat.reduceSub, Nat.reduceMul, Int.reduceLT, Int.reduceLE, Int.reduceEq, Int.reduceToNat, Int.reduceNeg, thaw, nodup, refsV, adopts, Pk.TY_State]
      exact ⟨_, _, _, rfl, .inl ⟨rfl, rfl, rfl, rfl, ht⟩⟩
  · rintro T H ⟨h0, h3, rfl, ha⟩
    rw [List.take_length] at ha
    have hd : decide (((L.length : Nat) : Int) < ((L.length : Nat) : Int)) = false := by simp
    simp (config := {decide := true}) only [K_paddocklaw9_few_0, l_paddocklaw9_few_0, h0, h3, hLl, hd, Pk.EVL, keepT, enum, ↓reduceIte, ev, act, appT, appW, callee, toDs, toD, loadA, storeA, subA, subD, updA, Eff.on, resA, resVs, resV, lk, finish, frzR, frzVs, frzV, fznR, fzns, fzn, lts, lt, ltO, List.all, pairsOk, indep, reduceCtorEq, Nat.reduceEqDiff, Nat.reduceAdd, Nat.reduceLeDiff, stb, thaws, List.drop, intOfA, binD, binI, unD, mmL, buildA, mkAgg, allD, bslD, behind, behind0, takeAt, frzAs, frzA, adoptR, adopt, isD, isD0, trim, List.take, binS, sliceA, bnd, zOk, elems, Nat.reduceBNe, inpl, Nat.reduceLT, Nat.reduceBEq, Nat.reduceSub, Nat.reduceMul, Int.reduceLT, Int.reduceLE, Int.reduceEq, Int.reduceToNat, Int.reduceNeg, thaw, nodup, refsV, adopts]
    exact ⟨_, _, _, rfl, by simp, .inl ⟨rfl, rfl, rfl, ha⟩⟩
  rintro e T H (⟨rfl, h0, rfl, ha⟩ | ⟨rfl, h2, rfl, ha⟩)
  · unfold fewS
    rw [ha, Bool.true_and]
    simp (config := {decide := true}) only [h0, hLl, Pk.EVL, keepT, enum, ↓reduceIte, ev, act, appT, appW, callee, toDs, toD, loadA, storeA, subA, subD, updA, Eff.on, resA, resVs, resV, lk, finish, frzR, frzVs, frzV, fznR, fzns, fzn, lts, lt, ltO, List.all, pairsOk, indep, reduceCtorEq, Nat.reduceEqDiff, Nat.reduceAdd, Nat.reduceLeDiff, stb, thaws, List.drop, intOfA, binD, binI, unD, mmL, buildA, mkAgg, allD, bslD, behind, behind0, takeAt, frzAs, frzA, adoptR, adopt, isD, isD0, trim, List.take, binS, sliceA, bnd, zOk, elems, Nat.reduceBNe, inpl, Nat.reduceLT, Nat.reduceBEq, Nat.reduceSub, Nat.reduceMul, Int.reduceLT, Int.reduceLE, Int.reduceEq, Int.reduceToNat, Int.reduceNeg, thaw, nodup, refsV, adopts]
  · unfold fewS
    rw [ha, Bool.false_and]
    simp (config := {decide := true}) only [h2, Pk.EVL, keepT, enum, ↓reduceIte, ev, act, appT, appW, callee, toDs, toD, loadA, storeA, subA, subD, updA, Eff.on, resA, resVs, resV, lk, finish, frzR, frzVs, frzV, fznR, fzns, fzn, lts, lt, ltO, List.all, pairsOk, indep, reduceCtorEq, Nat.reduceEqDiff, Nat.reduceAdd, Nat.reduceLeDiff, stb, thaws, List.drop, intOfA, binD, binI, unD, mmL, buildA, mkAgg, allD, bslD, behind, behind0, takeAt, frzAs, frzA, adoptR, adopt, isD, isD0, trim, List.take, binS, sliceA, bnd, zOk, elems, Nat.reduceBNe, inpl, Nat.reduceLT, Nat.reduceBEq, Nat.reduceSub, Nat.reduceMul, Int.reduceLT, Int.reduceLE, Int.reduceEq, Int.reduceToNat, Int.reduceNeg, thaw, nodup, refsV, adopts]
theorem best_law (L : List State) (hL : L.length ≤ maxLen) (hok : ∀ x ∈ L, x.ok) (tr : Int) (htr : 0 ≤ tr ∧ tr < 256) : evF C F_paddocklaw9_ChooseBest [.d (.sl (L.map State.d)), .d (.i .u8 tr)] [] = some (.d (.b true), []) := by
  have hLl : (L.map State.d).length = L.length := List.length_map _
  have hfew := few9_at L hL
  obtain ⟨t, rfl⟩ := Int.eq_ofNat_of_zero_le htr.1
  rw [evF_code (rfl : C F_paddocklaw9_ChooseBest = some a_paddocklaw9_ChooseBest) _ _ rfl]
  rcases (Bool.eq_false_or_eq_true (fewS L)).symm with c1 | c1
  · simp (config := {decide := true}) only [c_paddocklaw9_ChooseBest, known9_at, hfew, hLl, c1, Pk.EVL, keepT, enum, ↓reduceIte, ev, act, appT, appW, callee, toDs, toD, loadA, storeA, subA, subD, updA, Eff.on, resA, resVs, resV, lk, finish, frzR, frzVs, frzV, fznR, fzns, fzn, lts, lt, ltO, List.all, pairsOk, indep, reduceCtorEq, Nat.reduceEqDiff, Nat.reduceAdd, Nat.reduceLeDiff, stb, thaws, List.drop, intOfA, binD, binI, unD, mmL, buildA, mkAgg, allD, bslD, behind, behind0, takeAt, frzAs, frzA, adoptR, adopt, isD, isD0, trim, List.take, binS, sliceA, bnd, zOk, elems, Nat.reduceBNe, inpl, Nat.reduceLT, Nat.reduceBEq, Nat.reduceSub, Nat.reduceMul, Int.reduceLT, Int.reduceLE, Int.reduceEq, Int.reduceToNat, Int.reduceNeg, thaw, nodup, refsV, adopts]
  rcases Bool.eq_false_or_eq_true (((L.length : Nat) : Int) == 0) with c2 | c2
  · simp (config := {decide := true}) only [c_paddocklaw9_ChooseBest, known9_at, hfew, hLl, c1, c2, Pk.EVL, keepT, enum, ↓reduceIte, ev, act, appT, appW, callee, toDs, toD, loadA, storeA, subA, subD, updA, Eff.on, resA, resVs, resV, lk, finish, frzR, frzVs, frzV, fznR, fzns, fzn, lts, lt, ltO, List.all, pairsOk, indep, reduceCtorEq, Nat.reduceEqDiff, Nat.reduceAdd, Nat.reduceLeDiff, stb, thaws, List.drop, intOfA, binD, binI, unD, mmL, buildA, mkAgg, allD, bslD, behind, behind0, takeAt, frzAs, frzA, adoptR, adopt, isD, isD0, trim, List.take, binS, sliceA, bnd, zOk, elems, Nat.reduceBNe, inpl, Nat.reduceLT, Nat.reduceBEq, Nat.reduceSub, Nat.reduceMul, Int.reduceLT, Int.reduceLE, Int.reduceEq, Int.reduceToNat, Int.reduceNeg, thaw, nodup, refsV, adopts]
  rcases Bool.eq_false_or_eq_true (decide (((L.length : Nat) : Int) > 5)) with c3 | c3
  · simp (config := {decide := true}) only [c_paddocklaw9_ChooseBest, known9_at, hfew, hLl, c1, c2, c3, Pk.EVL, keepT, enum, ↓reduceIte, ev, act, appT, appW, callee, toDs, toD, loadA, storeA, subA, subD, updA, Eff.on, resA, resVs, resV, lk, finish, frzR, frzVs, frzV, fznR, fzns, fzn, lts, lt, ltO, List.all, pairsOk, indep, reduceCtorEq, Nat.reduceEqDiff, Nat.reduceAdd, Nat.reduceLeDiff, stb, thaws, List.drop, intOfA, binD, binI, unD, mmL, buildA, mkAgg, allD, bslD, behind, behind0, takeAt, frzAs, frzA, adoptR, adopt, isD, isD0, trim, List.take, binS, sliceA, bnd, zOk, elems, Nat.reduceBNe, inpl, Nat.reduceLT, Nat.reduceBEq, Nat.reduceSub, Nat.reduceMul, Int.reduceLT, Int.reduceLE, Int.reduceEq, Int.reduceToNat, Int.reduceNeg, thaw, nodup, refsV, adopts]
  have hL5 : L.length ≤ 5 := by have := of_decide_eq_false c3; omega
  have hL0 : 0 < L.length := by have : ((L.length : Nat) : Int) ≠ 0 := by simpa using c2
                                omega
  simp (config := {decide := true}) only [c_paddocklaw9_ChooseBest, known9_at, hfew, hLl, c1, c2, c3, thaws, thaw, Pk.EVL, keepT, enum, ↓reduceIte, ev, act, appT, appW, callee, toDs, toD, loadA, storeA, subA, subD, updA, Eff.on, resA, resVs, resV, lk, finish, frzR, frzVs, frzV, fznR, fzns, fzn, lts, lt, ltO, List.all, pairsOk, indep, reduceCtorEq, Nat.reduceEqDiff, Nat.reduceAdd, Nat.reduceLeDiff, stb, thaws, List.drop, intOfA, binD, binI, unD, mmL, buildA, mkAgg, allD, bslD, behind, behind0, takeAt, frzAs, frzA, adoptR, adopt, isD, isD0, trim, List.take, binS, sliceA, bnd, zOk, elems, Nat.reduceBNe, inpl, Nat.reduceLT, Nat.reduceBEq, Nat.reduceSub, Nat.reduceMul, Int.reduceLT, Int.reduceLE, Int.reduceEq, Int.reduceToNat, Int.reduceNeg, thaw, nodup, refsV, adopts]
  simp only [Option.bind_assoc]
  refine bind_run (loop_run (fun i T H => lk T 0 = .d (.sl (L.map State.d)) ∧ lk T 1 = .d (.i .u8 (t : Nat)) ∧ lk T 5 = .view 0 i 1 0 i ∧ lk T 6 = .nilS ∧ lk T 7 = .nilS ∧ lk T 8 = .d (.i .i64 (i : Nat)) ∧ (∃ J, H = .arr ((rowN i).map fun x => .i .i64 x) true :: J) ∧ ∀ s ∈ L.take i, isSt s = true)
    (fun e T H => (e = .exit 0 ∧ lk T 0 = .d (.sl (L.map State.d)) ∧ lk T 1 = .d (.i .u8 (t : Nat)) ∧ lk T 5 = .view 0 L.length 1 0 L.length ∧ lk T 6 = .nilS ∧ lk T 7 = .nilS ∧ H = [.arr ((rowN L.length).map fun x => .i .i64 x) true] ∧ ∀ s ∈ L, isSt s = true) ∨ (e = .ret ∧ lk T 4 = .d (.b true))) L.length ?_ ?_ L.length 0 _ _ (by omega) ⟨rfl, rfl, rfl, rfl, rfl, rfl, ⟨[], rfl⟩, by simp⟩) ?_
  · rintro i T H hi ⟨h0, h1, h5, h6, h7, h8, ⟨J, rfl⟩, ha⟩
    obtain ⟨s, hs⟩ : ∃ s, L[i]? = some s := ⟨L[i]'hi, List.getElem?_eq_getElem _⟩
    have hsd := list_idx State.d hs
    have his := refis_st s (stFull_of (hok s (List.mem_of_getElem? hs)))
    have hd : decide ((i : Int) < ((L.length : Nat) : Int)) = true := by simp; omega
    have hw : IntKind.i64.wrap ((i : Int) + 1) = ((i + 1 : Nat) : Int) := wi64 (by omega)
    have b0 : (0 ≤ (i : Int)) = True := by simp
    have b1 : ((i : Int) < ((L.length : Nat) : Int)) = True := eq_true (by omega)
    have hlim : (i + 1 ≤ LIM) = True := eq_true (by unfold LIM; omega)
    have hrl : ((rowN i).map fun x => DV.i .i64 x).length = i := by rw [List.length_map, rowN_len]
    rcases Bool.eq_false_or_eq_true (isSt s) with c | c
    · rw [c] at his
      have ht : ∀ s ∈ L.take (i + 1), isSt s = true := by
        intro y hy
        rw [take_succ' hs] at hy
        rcases List.mem_append.1 hy with hy | hy
        · exact ha y hy
        · simp at hy; subst hy; exact c
      simp (config := {decide := true}) only [K_paddocklaw9_ChooseBest_0, l_paddocklaw9_ChooseBest_0, h0, h1, h5, h6, h7, h8, hLl, hsd, his, hd, hw, b0, b1, hlim, hrl, elems, ite_self, Int.toNat_natCast, Nat.zero_le, Nat.le_refl, Pk.EVL, keepT, enum, ↓reduceIte, ev, act, appT, appW, callee, toDs, toD, loadA, storeA, subA, subD, updA, Eff.on, resA, resVs, resV, lk, finish, frzR, frzVs, frzV, fznR, fzns, fzn, lts, lt, ltO, List.all, pairsOk, indep, reduceCtorEq, Nat.reduceEqDiff, Nat.reduceAdd, Nat.reduceLeDiff, stb, thaws, List.drop, intOfA, binD, binI, unD, mmL, buildA, mkAgg, allD, bslD, behind, behind0, takeAt, frzAs, frzA, adoptR, adopt, isD, isD0, trim, List.take, binS, sliceA, bnd, zOk, elems, Nat.reduceBNe, inpl, Nat.reduceLT, Nat.reduceBEq, Nat.reduceSub, Nat.reduceMul, Int.reduceLT, Int.reduceLE, Int.reduceEq, Int.reduceToNat, Int.reduceNeg, thaw, nodup, refsV, adopts, Pk.TY_State]
      refine ⟨_, _, _, rfl, .inl ⟨rfl, rfl, rfl, rfl, rfl, rfl, rfl, ⟨[.arr [.i .i64 (i : Int)] true], ?_⟩, ht⟩⟩
      rw [rowN_succ, List.map_append]; rfl
    · rw [c] at his
      simp (config := {decide := true}) only [K_paddocklaw9_ChooseBest_0, l_paddocklaw9_ChooseBest_0, h0, h1, h5, h6, h7, h8, hLl, hsd, his, hd, hw, b0, b1, hlim, hrl, elems, ite_self, Int.toNat_natCast, Nat.zero_le, Nat.le_refl, Pk.EVL, keepT, enum, ↓reduceIte, ev, act, appT, appW, callee, toDs, toD, loadA, storeA, subA, subD, updA, Eff.on, resA, resVs, resV, lk, finish, frzR, frzVs, frzV, fznR, fzns, fzn, lts, lt, ltO, List.all, pairsOk, indep, reduceCtorEq, Nat.reduceEqDiff, Nat.reduceAdd, Nat.reduceLeDiff, stb, thaws, List.drop, intOfA, binD, binI, unD, mmL, buildA, mkAgg, allD, bslD, behind, behind0, takeAt, frzAs, frzA, adoptR, adopt, isD, isD0, trim, List.take, binS, sliceA, bnd, zOk, elems, Nat.reduceBNe, inpl, Nat.reduceLT, Nat.reduceBEq, Nat.reduceSub, Nat.reduceMul, Int.reduceLT, Int.reduceLE, Int.reduceEq, Int.reduceToNat, Int.reduceNeg, thaw, nodup, refsV, adopts, Pk.TY_State]
      exact ⟨_, _, _, rfl, .inr ⟨by simp, .inr ⟨rfl, rfl⟩⟩⟩
  · rintro T H ⟨h0, h1, h5, h6, h7, h8, ⟨J, rfl⟩, ha⟩
    rw [List.take_length] at ha
    have hd : decide (((L.length : Nat) : Int) < ((L.length : Nat) : Int)) = false := by simp
    simp (config := {decide := true}) only [K_paddocklaw9_ChooseBest_0, l_paddocklaw9_ChooseBest_0, h0, h1, h5, h6, h7, h8, hLl, hd, Pk.EVL, keepT, enum, ↓reduceIte, ev, act, appT, appW, callee, toDs, toD, loadA, storeA, subA, subD, updA, Eff.on, resA, resVs, resV, lk, finish, frzR, frzVs, frzV, fznR, fzns, fzn, lts, lt, ltO, List.all, pairsOk, indep, reduceCtorEq, Nat.reduceEqDiff, Nat.reduceAdd, Nat.reduceLeDiff, stb, thaws, List.drop, intOfA, binD, binI, unD, mmL, buildA, mkAgg, allD, bslD, behind, behind0, takeAt, frzAs, frzA, adoptR, adopt, isD, isD0, trim, List.take, binS, sliceA, bnd, zOk, elems, Nat.reduceBNe, inpl, Nat.reduceLT, Nat.reduceBEq, Nat.reduceSub, Nat.reduceMul, Int.reduceLT, Int.reduceLE, Int.reduceEq, Int.reduceToNat, Int.reduceNeg, thaw, nodup, refsV, adopts]
    exact ⟨_, _, _, rfl, by simp, .inl ⟨rfl, rfl, rfl, rfl, rfl, rfl, rfl, ha⟩⟩
  rintro e T H (⟨rfl, h0, h1, h5, h6, h7, rfl, ha⟩ | ⟨rfl, h4⟩)
  rotate_left
  · simp (config := {decide := true}) only [h4, Pk.EVL, keepT, enum, ↓reduceIte, ev, act, appT, appW, callee, toDs, toD, loadA, storeA, subA, subD, updA, Eff.on, resA, resVs, resV, lk, finish, frzR, frzVs, frzV, fznR, fzns, fzn, lts, lt, ltO, List.all, pairsOk, indep, reduceCtorEq, Nat.reduceEqDiff, Nat.reduceAdd, Nat.reduceLeDiff, stb, thaws, List.drop, intOfA, binD, binI, unD, mmL, buildA, mkAgg, allD, bslD, behind, behind0, takeAt, frzAs, frzA, adoptR, adopt, isD, isD0, trim, List.take, binS, sliceA, bnd, zOk, elems, Nat.reduceBNe, inpl, Nat.reduceLT, Nat.reduceBEq, Nat.reduceSub, Nat.reduceMul, Int.reduceLT, Int.reduceLE, Int.reduceEq, Int.reduceToNat, Int.reduceNeg, thaw, nodup, refsV, adopts]
  simp (config := {decide := true}) only [h0, h1, h5, h6, h7, thaws, thaw, Pk.EVL, keepT, enum, ↓reduceIte, ev, act, appT, appW, callee, toDs, toD, loadA, storeA, subA, subD, updA, Eff.on, resA, resVs, resV, lk, finish, frzR, frzVs, frzV, fznR, fzns, fzn, lts, lt, ltO, List.all, pairsOk, indep, reduceCtorEq, Nat.reduceEqDiff, Nat.reduceAdd, Nat.reduceLeDiff, stb, thaws, List.drop, intOfA, binD, binI, unD, mmL, buildA, mkAgg, allD, bslD, behind, behind0, takeAt, frzAs, frzA, adoptR, adopt, isD, isD0, trim, List.take, binS, sliceA, bnd, zOk, elems, Nat.reduceBNe, inpl, Nat.reduceLT, Nat.reduceBEq, Nat.reduceSub, Nat.reduceMul, Int.reduceLT, Int.reduceLE, Int.reduceEq, Int.reduceToNat, Int.reduceNeg, thaw, nodup, refsV, adopts]
  simp only [Option.bind_assoc]
  refine bind_run (loop_run (fun i T H => lk T 0 = .d (.sl (L.map State.d)) ∧ lk T 1 = .d (.i .u8 (t : Nat)) ∧ lk T 5 = .view 0 L.length 1 0 L.length ∧ lk T 6 = .view 1 i 1 0 i ∧ lk T 7 = .view 2 i 49 0 i ∧ lk T 9 = .d (.i .i64 (i : Nat)) ∧ (∃ J, H = .arr ((rowN L.length).map fun x => .i .i64 x) true :: .arr ((turnN L.length t i).map fun x => .i .i64 x) true :: .arr ((turnS L t i).map State.d) true :: J))
    (fun e T H => e = .exit 2 ∧ lk T 0 = .d (.sl (L.map State.d)) ∧ lk T 5 = .view 0 L.length 1 0 L.length ∧ lk T 6 = .view 1 L.length 1 0 L.length ∧ lk T 7 = .view 2 L.length 49 0 L.length ∧ H = [.arr ((rowN L.length).map fun x => .i .i64 x) true, .arr ((turnN L.length t L.length).map fun x => .i .i64 x) true, .arr ((turnS L t L.length).map State.d) true]) L.length ?_ ?_ L.length 0 _ _ (by omega) ⟨rfl, rfl, rfl, rfl, rfl, rfl, [], rfl⟩) ?_
  · rintro i T H hi ⟨h0, h1, h5, h6, h7, h9, J, rfl⟩
    have hk : (i + t) % L.length < L.length := Nat.mod_lt _ hL0
    have hsd := list_idx State.d (getD_at hk)
    have hd : decide ((i : Int) < ((L.length : Nat) : Int)) = true := by simp; omega
    have hw : IntKind.i64.wrap ((i : Int) + 1) = ((i + 1 : Nat) : Int) := wi64 (by omega)
    have hwt : IntKind.i64.wrap (t : Int) = (t : Int) := wi64 (by omega)
    have hw2 : IntKind.i64.wrap ((i : Int) + (t : Int)) = ((i + t : Nat) : Int) := wi64 (by omega)
    have hrem : ((i + t : Nat) : Int).tmod ((L.length : Nat) : Int) = (((i + t) % L.length : Nat) : Int) := rfl
    have hw3 : IntKind.i64.wrap (((i + t) % L.length : Nat) : Int) = (((i + t) % L.length : Nat) : Int) := wi64 (by omega)
    have hz : (((L.length : Nat) : Int) = 0) = False := eq_false (by omega)
    have b0 : (0 ≤ (((i + t) % L.length : Nat) : Int)) = True := eq_true (Int.natCast_nonneg _)
    have b1 : ((((i + t) % L.length : Nat) : Int) < ((L.length : Nat) : Int)) = True := eq_true (by omega)
    have hlim : (i + 1 ≤ LIM) = True := eq_true (by unfold LIM; omega)
    have hr1 : ((turnN L.length t i).map fun x => DV.i .i64 x).length = i := by rw [List.length_map, turnN_len]
    have hr2 : ((turnS L t i).map State.d).length = i := by rw [List.length_map, turnS_len]
    have htn := turnN_succ L.length t i
    have hts := turnS_succ L t i
    generalize (i + t) % L.length = k at *
    generalize L.getD k State.zero = sk at *
    simp (config := {decide := true}) only [K_paddocklaw9_ChooseBest_1, l_paddocklaw9_ChooseBest_1, h0, h1, h5, h6, h7, h9, hLl, hsd, hd, hw, hwt, hw2, hw3, hrem, hz, b0, b1, hlim, hr1, hr2, elems, ite_self, Int.toNat_natCast, Nat.zero_le, Nat.le_refl, Pk.EVL, keepT, enum, ↓reduceIte, ev, act, appT, appW, callee, toDs, toD, loadA, storeA, subA, subD, updA, Eff.on, resA, resVs, resV, lk, finish, frzR, frzVs, frzV, fznR, fzns, fzn, lts, lt, ltO, List.all, pairsOk, indep, reduceCtorEq, Nat.reduceEqDiff, Nat.reduceAdd, Nat.reduceLeDiff, stb, thaws, List.drop, intOfA, binD, binI, unD, mmL, buildA, mkAgg, allD, bslD, behind, behind0, takeAt, frzAs, frzA, adoptR, adopt, isD, isD0, trim, List.take, binS, sliceA, bnd, zOk, elems, Nat.reduceBNe, inpl, Nat.reduceLT, Nat.reduceBEq, Nat.reduceSub, Nat.reduceMul, Int.reduceLT, Int.reduceLE, Int.reduceEq, Int.reduceToNat, Int.reduceNeg, thaw, nodup, refsV, adopts, Pk.TY_State]
    refine ⟨_, _, _, rfl, .inl ⟨rfl, rfl, rfl, rfl, rfl, rfl, rfl, [.arr [.i .i64 (k : Int)] true, .arr [State.d sk] true], ?_⟩⟩
    rw [htn, hts, List.map_append, List.map_append]; rfl
  · rintro T H ⟨h0, h1, h5, h6, h7, h9, J, rfl⟩
    have hd : decide (((L.length : Nat) : Int) < ((L.length : Nat) : Int)) = false := by simp
    simp (config := {decide := true}) only [K_paddocklaw9_ChooseBest_1, l_paddocklaw9_ChooseBest_1, h0, h1, h5, h6, h7, h9, hLl, hd, Pk.EVL, keepT, enum, ↓reduceIte, ev, act, appT, appW, callee, toDs, toD, loadA, storeA, subA, subD, updA, Eff.on, resA, resVs, resV, lk, finish, frzR, frzVs, frzV, fznR, fzns, fzn, lts, lt, ltO, List.all, pairsOk, indep, reduceCtorEq, Nat.reduceEqDiff, Nat.reduceAdd, Nat.reduceLeDiff, stb, thaws, List.drop, intOfA, binD, binI, unD, mmL, buildA, mkAgg, allD, bslD, behind, behind0, takeAt, frzAs, frzA, adoptR, adopt, isD, isD0, trim, List.take, binS, sliceA, bnd, zOk, elems, Nat.reduceBNe, inpl, Nat.reduceLT, Nat.reduceBEq, Nat.reduceSub, Nat.reduceMul, Int.reduceLT, Int.reduceLE, Int.reduceEq, Int.reduceToNat, Int.reduceNeg, thaw, nodup, refsV, adopts]
    exact ⟨_, _, _, rfl, by simp, rfl, rfl, rfl, rfl, rfl, rfl⟩
  rintro e T H ⟨rfl, h0, h5, h6, h7, rfl⟩
  obtain ⟨b, c, sb, hb, hc, hoc, hsb, hmore⟩ := best_turn L hL0 t
  have hany : (L.any fun s => !isSt s) = false := by
    rw [List.any_eq_false]
    intro x hx
    rw [ha x hx]
    decide
  have hany2 : ((turnS L t L.length).any fun s => !isSt s) = false := by
    rw [List.any_eq_false]
    intro x hx
    obtain ⟨i, hi⟩ := List.getElem?_of_mem hx
    have hil := (List.getElem?_eq_some_iff.1 hi).1
    rw [turnS_len] at hil
    rw [turnS_at hil] at hi
    have hk : (i + t) % L.length < L.length := Nat.mod_lt _ hL0
    have := ha _ (List.mem_of_getElem? (getD_at hk))
    rw [Option.some.inj hi] at this
    rw [this]
    decide
  have B1 := cbest_at (rowN L.length) L (by omega) (by rw [rowN_len]; omega)
  have B2 := cbest_at (turnN L.length t L.length) (turnS L t L.length) (by rw [turnS_len]; omega) (by rw [turnN_len]; omega)
  rw [show bestS (rowN L.length) L = (b : Int) by unfold bestS; rw [if_neg (by rw [rowN_len, hany]; simp), hb]] at B1
  rw [show bestS (turnN L.length t L.length) (turnS L t L.length) = (c : Int) by unfold bestS; rw [if_neg (by rw [turnN_len, turnS_len, hany2]; simp), hc]] at B2
  have hr0 : ((rowN L.length).map fun x => DV.i .i64 x).length = L.length := by rw [List.length_map, rowN_len]
  have hr1 : ((turnN L.length t L.length).map fun x => DV.i .i64 x).length = L.length := by rw [List.length_map, turnN_len]
  have hr2 : ((turnS L t L.length).map State.d).length = L.length := by rw [List.length_map, turnS_len]
  have hcl : c < L.length := by have := (List.getElem?_eq_some_iff.1 hoc).1; rwa [turnN_len] at this
  have hbl : b < L.length := (List.getElem?_eq_some_iff.1 hsb).1
  have hocd := list_idx (fun x : Int => DV.i .i64 x) hoc
  have hsbd := list_idx State.d hsb
  generalize (rowN L.length).map (fun x => DV.i .i64 x) = E0 at *
  generalize (turnN L.length t L.length).map (fun x => DV.i .i64 x) = E1 at *
  generalize (turnS L t L.length).map State.d = E2 at *
  have k0 : List.take L.length E0 = E0 := List.take_of_length_le (by omega)
  have k1 : List.take L.length E1 = E1 := List.take_of_length_le (by omega)
  have k2 : List.take L.length E2 = E2 := List.take_of_length_le (by omega)
  have s0 : subL E0 0 L.length = E0 := by unfold subL; rw [List.drop_zero]; exact k0
  have s1 : subL E1 0 L.length = E1 := by unfold subL; rw [List.drop_zero]; exact k1
  have s2 : subL E2 0 L.length = E2 := by unfold subL; rw [List.drop_zero]; exact k2
  have d1 : decide ((b : Int) < 0) = false := decide_eq_false (by omega)
  have d2 : decide ((c : Int) < 0) = false := decide_eq_false (by omega)
  have d3 : ((b : Int) != (b : Int)) = false := by simp
  have b0 : (0 ≤ (c : Int)) = True := by simp
  have b1 : ((c : Int) < ((L.length : Nat) : Int)) = True := eq_true (by omega)
  simp (config := {decide := true}) only [h0, h5, h6, h7, B1, B2, hr0, hr1, hr2, k0, k1, k2, s0, s1, s2, d1, d2, d3, b0, b1, hocd, elems, guardR_und, ite_self, Int.toNat_natCast, Nat.zero_add, Nat.zero_le, Nat.le_refl, Pk.EVL, keepT, enum, ↓reduceIte, ev, act, appT, appW, callee, toDs, toD, loadA, storeA, subA, subD, updA, Eff.on, resA, resVs, resV, lk, finish, frzR, frzVs, frzV, fznR, fzns, fzn, lts, lt, ltO, List.all, pairsOk, indep, reduceCtorEq, Nat.reduceEqDiff, Nat.reduceAdd, Nat.reduceLeDiff, stb, thaws, List.drop, intOfA, binD, binI, unD, mmL, buildA, mkAgg, allD, bslD, behind, behind0, takeAt, frzAs, frzA, adoptR, adopt, isD, isD0, trim, List.take, binS, sliceA, bnd, zOk, elems, Nat.reduceBNe, inpl, Nat.reduceLT, Nat.reduceBEq, Nat.reduceSub, Nat.reduceMul, Int.reduceLT, Int.reduceLE, Int.reduceEq, Int.reduceToNat, Int.reduceNeg, thaw, nodup, refsV, adopts]
  simp only [Option.bind_assoc]
  have hR := refhead_at sb (stFull_of (hok sb (List.mem_of_getElem? hsb)))
  refine bind_run (loop_run (fun i T H => lk T 0 = .d (.sl (L.map State.d)) ∧ lk T 11 = .d (.i .i64 (b : Nat)) ∧ lk T 13 = .d (.i .i64 (i : Nat)) ∧ H = [.arr E0 false, .arr E1 false, .arr E2 false])
    (fun e T H => e = .exit 4) L.length ?_ ?_ L.length 0 _ _ (by omega) ⟨rfl, rfl, rfl, rfl⟩) ?_
  · rintro i T H hi ⟨h0, h11, h13, rfl⟩
    obtain ⟨s, hs⟩ : ∃ s, L[i]? = some s := ⟨L[i]'hi, List.getElem?_eq_getElem _⟩
    have hsd := list_idx State.d hs
    have hi2 := refhead_at s (stFull_of (hok s (List.mem_of_getElem? hs)))
    obtain ⟨m1, m2⟩ := hmore i s hs
    have hd : decide ((i : Int) < ((L.length : Nat) : Int)) = true := by simp; omega
    have hw : IntKind.i64.wrap ((i : Int) + 1) = ((i + 1 : Nat) : Int) := wi64 (by omega)
    have b0 : (0 ≤ (i : Int)) = True := by simp
    have b1 : ((i : Int) < ((L.length : Nat) : Int)) = True := eq_true (by omega)
    have b2 : (0 ≤ (b : Int)) = True := by simp
    have b3 : ((b : Int) < ((L.length : Nat) : Int)) = True := eq_true (by omega)
    have q1 : decide (s.started > sb.started) = false := decide_eq_false (by omega)
    rcases Bool.eq_false_or_eq_true (s.started == sb.started) with q2 | q2
    · have m3 := m2 (by simpa using q2)
      have q3 : decide ((headS s).1 > (headS sb).1) = false := decide_eq_false (by omega)
      rcases Bool.eq_false_or_eq_true ((headS s).1 == (headS sb).1) with q4 | q4
      · have m4 := m3.2 (by simpa using q4)
        have q5 : decide ((headS s).2 > (headS sb).2) = false := decide_eq_false (by omega)
        simp (config := {decide := true}) only [K_paddocklaw9_ChooseBest_2, l_paddocklaw9_ChooseBest_2, h0, h11, h13, hLl, hsd, hsbd, hi2, hR, hd, hw, b0, b1, b2, b3, q1, q2, q3, q4, q5, eptr_st, tail_len, tail_cs, guardR_und, ite_self, Int.toNat_natCast, Nat.zero_le, Nat.le_refl, Pk.EVL, keepT, enum, ↓reduceIte, ev, act, appT, appW, callee, toDs, toD, loadA, storeA, subA, subD, updA, Eff.on, resA, resVs, resV, lk, finish, frzR, frzVs, frzV, fznR, fzns, fzn, lts, lt, ltO, List.all, pairsOk, indep, reduceCtorEq, Nat.reduceEqDiff, Nat.reduceAdd, Nat.reduceLeDiff, stb, thaws, List.drop, intOfA, binD, binI, unD, mmL, buildA, mkAgg, allD, bslD, behind, behind0, takeAt, frzAs, frzA, adoptR, adopt, isD, isD0, trim, List.take, binS, sliceA, bnd, zOk, elems, Nat.reduceBNe, inpl, Nat.reduceLT, Nat.reduceBEq, Nat.reduceSub, Nat.reduceMul, Int.reduceLT, Int.reduceLE, Int.reduceEq, Int.reduceToNat, Int.reduceNeg, thaw, nodup, refsV, adopts, Pk.TY_State]
        exact ⟨_, _, _, rfl, .inl ⟨rfl, rfl, rfl, rfl, rfl⟩⟩
      · simp (config := {decide := true}) only [K_paddocklaw9_ChooseBest_2, l_paddocklaw9_ChooseBest_2, h0, h11, h13, hLl, hsd, hsbd, hi2, hR, hd, hw, b0, b1, b2, b3, q1, q2, q3, q4, eptr_st, tail_len, tail_cs, guardR_und, ite_self, Int.toNat_natCast, Nat.zero_le, Nat.le_refl, Pk.EVL, keepT, enum, ↓reduceIte, ev, act, appT, appW, callee, toDs, toD, loadA, storeA, subA, subD, updA, Eff.on, resA, resVs, resV, lk, finish, frzR, frzVs, frzV, fznR, fzns, fzn, lts, lt, ltO, List.all, pairsOk, indep, reduceCtorEq, Nat.reduceEqDiff, Nat.reduceAdd, Nat.reduceLeDiff, stb, thaws, List.drop, intOfA, binD, binI, unD, mmL, buildA, mkAgg, allD, bslD, behind, behind0, takeAt, frzAs, frzA, adoptR, adopt, isD, isD0, trim, List.take, binS, sliceA, bnd, zOk, elems, Nat.reduceBNe, inpl, Nat.reduceLT, Nat.reduceBEq, Nat.reduceSub, Nat.reduceMul, Int.reduceLT, Int.reduceLE, Int.reduceEq, Int.reduceToNat, Int.reduceNeg, thaw, nodup, refsV, adopts, Pk.TY_State]
        exact ⟨_, _, _, rfl, .inl ⟨rfl, rfl, rfl, rfl, rfl⟩⟩
    · simp (config := {decide := true}) only [K_paddocklaw9_ChooseBest_2, l_paddocklaw9_ChooseBest_2, h0, h11, h13, hLl, hsd, hsbd, hi2, hR, hd, hw, b0, b1, b2, b3, q1, q2, eptr_st, tail_len, tail_cs, guardR_und, ite_self, Int.toNat_natCast, Nat.zero_le, Nat.le_refl, Pk.EVL, keepT, enum, ↓reduceIte, ev, act, appT, appW, callee, toDs, toD, loadA, storeA, subA, subD, updA, Eff.on, resA, resVs, resV, lk, finish, frzR, frzVs, frzV, fznR, fzns, fzn, lts, lt, ltO, List.all, pairsOk, indep, reduceCtorEq, Nat.reduceEqDiff, Nat.reduceAdd, Nat.reduceLeDiff, stb, thaws, List.drop, intOfA, binD, binI, unD, mmL, buildA, mkAgg, allD, bslD, behind, behind0, takeAt, frzAs, frzA, adoptR, adopt, isD, isD0, trim, List.take, binS, sliceA, bnd, zOk, elems, Nat.reduceBNe, inpl, Nat.reduceLT, Nat.reduceBEq, Nat.reduceSub, Nat.reduceMul, Int.reduceLT, Int.reduceLE, Int.reduceEq, Int.reduceToNat, Int.reduceNeg, thaw, nodup, refsV, adopts, Pk.TY_State]
      exact ⟨_, _, _, rfl, .inl ⟨rfl, rfl, rfl, rfl, rfl⟩⟩
  · rintro T H ⟨h0, h11, h13, rfl⟩
    have hd : decide (((L.length : Nat) : Int) < ((L.length : Nat) : Int)) = false := by simp
    simp (config := {decide := true}) only [K_paddocklaw9_ChooseBest_2, l_paddocklaw9_ChooseBest_2, h0, h11, h13, hLl, hd, Pk.EVL, keepT, enum, ↓reduceIte, ev, act, appT, appW, callee, toDs, toD, loadA, storeA, subA, subD, updA, Eff.on, resA, resVs, resV, lk, finish, frzR, frzVs, frzV, fznR, fzns, fzn, lts, lt, ltO, List.all, pairsOk, indep, reduceCtorEq, Nat.reduceEqDiff, Nat.reduceAdd, Nat.reduceLeDiff, stb, thaws, List.drop, intOfA, binD, binI, unD, mmL, buildA, mkAgg, allD, bslD, behind, behind0, takeAt, frzAs, frzA, adoptR, adopt, isD, isD0, trim, List.take, binS, sliceA, bnd, zOk, elems, Nat.reduceBNe, inpl, Nat.reduceLT, Nat.reduceBEq, Nat.reduceSub, Nat.reduceMul, Int.reduceLT, Int.reduceLE, Int.reduceEq, Int.reduceToNat, Int.reduceNeg, thaw, nodup, refsV, adopts]
    exact ⟨_, _, _, rfl, by simp, rfl⟩
  rintro e T H rfl
  simp (config := {decide := true}) only [Pk.EVL, keepT, enum, ↓reduceIte, ev, act, appT, appW, callee, toDs, toD, loadA, storeA, subA, subD, updA, Eff.on, resA, resVs, resV, lk, finish, frzR, frzVs, frzV, fznR, fzns, fzn, lts, lt, ltO, List.all, pairsOk, indep, reduceCtorEq, Nat.reduceEqDiff, Nat.reduceAdd, Nat.reduceLeDiff, stb, thaws, List.drop, intOfA, binD, binI, unD, mmL, buildA, mkAgg, allD, bslD, behind, behind0, takeAt, frzAs, frzA, adoptR, adopt, isD, isD0, trim, List.take, binS, sliceA, bnd, zOk, elems, Nat.reduceBNe, inpl, Nat.reduceLT, Nat.reduceBEq, Nat.reduceSub, Nat.reduceMul, Int.reduceLT, Int.reduceLE, Int.reduceEq, Int.reduceToNat, Int.reduceNeg, thaw, nodup, refsV, adopts]
end Go.Proofs.Ytmiionadkdfbdaa
