/- The laws' own functions: known, few, same. -/
import Derived.Test.YtfajplmkfpdhfaaMgC
import Derived.Test.YtfajplmkfpdhfaaMgD
set_option linter.all false
namespace Go.Proofs.Ytfajplmkfpdhfaa
open Pv Go Pk
set_option maxRecDepth 10000
set_option maxHeartbeats 2000000
def few8 (s : State) : Bool := allN 6 (fun j => decide (((s.base.objs.get j).data.size : Int) ≤ 100)) && decide ((s.log.length : Int) ≤ 12)
theorem few8_at (s : State) : evF C F_paddocklaw8_few [.d (.agg s.cs)] [] = some (.d (.b (few8 s)), []) := by
  rw [evF_code (rfl : C F_paddocklaw8_few = some a_paddocklaw8_few) _ _ rfl]
  unfold few8
  simp (config := {decide := true}) only [c_paddocklaw8_few, Pk.EVL, keepT, enum, ↓reduceIte, ev, act, appT, callee, toDs, toD, loadA, storeA, subA, subD, updA, Eff.on, resA, resVs, resV, lk, finish, frzR, frzVs, frzV, fznR, fzns, fzn, lts, lt, ltO, List.all, pairsOk, indep, reduceCtorEq, Nat.reduceEqDiff, Nat.reduceAdd, Nat.reduceLeDiff, stb, thaws, List.drop, intOfA, binD, binI, unD, mmL, buildA, mkAgg, allD, behind, behind0, takeAt, frzAs, frzA, adoptR, adopt, isD, isD0, trim, List.take, binS, sliceA, bnd, zOk, elems, Nat.reduceBNe, inpl, Nat.reduceLT, Nat.reduceBEq, Nat.reduceSub, Nat.reduceMul, Int.reduceLT, Int.reduceLE, Int.reduceEq, Int.reduceToNat, Int.reduceNeg, thaw, nodup, refsV, adopts, Pk.TY_State, Pk.TY_Base]
  simp only [Option.bind_assoc]
  refine bind_run (loop_run (fun i T H => lk T 1 = .ptr 0 0 ∧ lk T 3 = .d (.i .i64 (i : Nat)) ∧ H = [.box (.d (.agg s.cs))] ∧ ∀ j < i, decide (((s.base.objs.get j).data.size : Int) ≤ 100) = true)
    (fun e T H => H = [.box (.d (.agg s.cs))] ∧ ((e = .exit 0 ∧ lk T 1 = .ptr 0 0 ∧ allN 6 (fun j => decide (((s.base.objs.get j).data.size : Int) ≤ 100)) = true) ∨ (e = .ret ∧ lk T 2 = .d (.b false) ∧ allN 6 (fun j => decide (((s.base.objs.get j).data.size : Int) ≤ 100)) = false))) 6 ?_ ?_ 6 0 _ _ (by omega) ⟨rfl, rfl, rfl, by omega⟩) ?_
  · rintro i T H hi ⟨h1, h3, rfl, hj⟩
    have hd : decide ((i : Int) < 6) = true := by simp; omega
    have hw : IntKind.i64.wrap ((i : Int) + 1) = ((i + 1 : Nat) : Int) := wi64 (by omega)
    have b3 : ((i : Int) < ((6 : Nat) : Int)) = True := by simp; omega
    have b0 : (0 ≤ (i : Int)) = True := by simp
    have hx : ∀ (s : State) (i : Nat), i < 6 → s.cs[1 + i * 5 + 1]? = some (.s (s.base.objs.get i).data) := fun s i h => match i, h with
      | 0, _ => rfl | 1, _ => rfl | 2, _ => rfl | 3, _ => rfl | 4, _ => rfl | 5, _ => rfl | _ + 6, h => absurd h (by omega)
    have hx := hx s i hi
    rcases Bool.eq_false_or_eq_true (decide (((s.base.objs.get i).data.size : Int) ≤ 100)) with c | c
    · have hc : decide (((s.base.objs.get i).data.size : Int) > 100) = false := by have := of_decide_eq_true c; simp; omega
      simp (config := {decide := true}) only [K_paddocklaw8_few_0, l_paddocklaw8_few_0, h1, h3, hd, hw, b3, b0, hx, hc, Pk.EVL, keepT, enum, ↓reduceIte, ev, act, appT, callee, toDs, toD, loadA, storeA, subA, subD, updA, Eff.on, resA, resVs, resV, lk, finish, frzR, frzVs, frzV, fznR, fzns, fzn, lts, lt, ltO, List.all, pairsOk, indep, reduceCtorEq, Nat.reduceEqDiff, Nat.reduceAdd, Nat.reduceLeDiff, stb, thaws, List.drop, intOfA, binD, binI, unD, mmL, buildA, mkAgg, allD, behind, behind0, takeAt, frzAs, frzA, adoptR, adopt, isD, isD0, trim, List.take, binS, sliceA, bnd, zOk, elems, Nat.reduceBNe, inpl, Nat.reduceLT, Nat.reduceBEq, Nat.reduceSub, Nat.reduceMul, Int.reduceLT, Int.reduceLE, Int.reduceEq, Int.reduceToNat, Int.reduceNeg, thaw, nodup, refsV, adopts, Pk.TY_State]
      refine ⟨_, _, _, rfl, ?_⟩
      refine .inl ⟨rfl, rfl, rfl, rfl, fun j hj' => ?_⟩
      by_cases e : j = i
      · rw [e]; exact c
      · exact hj j (by omega)
    · have hc : decide (((s.base.objs.get i).data.size : Int) > 100) = true := by have := of_decide_eq_false c; simp; omega
      simp (config := {decide := true}) only [K_paddocklaw8_few_0, l_paddocklaw8_few_0, h1, h3, hd, hw, b3, b0, hx, hc, Pk.EVL, keepT, enum, ↓reduceIte, ev, act, appT, callee, toDs, toD, loadA, storeA, subA, subD, updA, Eff.on, resA, resVs, resV, lk, finish, frzR, frzVs, frzV, fznR, fzns, fzn, lts, lt, ltO, List.all, pairsOk, indep, reduceCtorEq, Nat.reduceEqDiff, Nat.reduceAdd, Nat.reduceLeDiff, stb, thaws, List.drop, intOfA, binD, binI, unD, mmL, buildA, mkAgg, allD, behind, behind0, takeAt, frzAs, frzA, adoptR, adopt, isD, isD0, trim, List.take, binS, sliceA, bnd, zOk, elems, Nat.reduceBNe, inpl, Nat.reduceLT, Nat.reduceBEq, Nat.reduceSub, Nat.reduceMul, Int.reduceLT, Int.reduceLE, Int.reduceEq, Int.reduceToNat, Int.reduceNeg, thaw, nodup, refsV, adopts, Pk.TY_State]
      refine ⟨_, _, _, rfl, ?_⟩
      exact .inr ⟨by simp, rfl, .inr ⟨rfl, rfl, allN_false fun h => by rw [h i hi] at c; simp at c⟩⟩
  · rintro T H ⟨h1, h3, rfl, hj⟩
    simp (config := {decide := true}) only [K_paddocklaw8_few_0, l_paddocklaw8_few_0, h1, h3, Pk.EVL, keepT, enum, ↓reduceIte, ev, act, appT, callee, toDs, toD, loadA, storeA, subA, subD, updA, Eff.on, resA, resVs, resV, lk, finish, frzR, frzVs, frzV, fznR, fzns, fzn, lts, lt, ltO, List.all, pairsOk, indep, reduceCtorEq, Nat.reduceEqDiff, Nat.reduceAdd, Nat.reduceLeDiff, stb, thaws, List.drop, intOfA, binD, binI, unD, mmL, buildA, mkAgg, allD, behind, behind0, takeAt, frzAs, frzA, adoptR, adopt, isD, isD0, trim, List.take, binS, sliceA, bnd, zOk, elems, Nat.reduceBNe, inpl, Nat.reduceLT, Nat.reduceBEq, Nat.reduceSub, Nat.reduceMul, Int.reduceLT, Int.reduceLE, Int.reduceEq, Int.reduceToNat, Int.reduceNeg, thaw, nodup, refsV, adopts, Pk.TY_State]
    refine ⟨_, _, _, rfl, ?_⟩
    exact ⟨by simp, rfl, .inl ⟨rfl, rfl, allN_true.2 hj⟩⟩
  rintro e T H ⟨rfl, ⟨rfl, h1, ha⟩ | ⟨rfl, h2, ha⟩⟩
  · rw [ha]
    simp (config := {decide := true}) only [h1, Pk.EVL, keepT, enum, ↓reduceIte, ev, act, appT, callee, toDs, toD, loadA, storeA, subA, subD, updA, Eff.on, resA, resVs, resV, lk, finish, frzR, frzVs, frzV, fznR, fzns, fzn, lts, lt, ltO, List.all, pairsOk, indep, reduceCtorEq, Nat.reduceEqDiff, Nat.reduceAdd, Nat.reduceLeDiff, stb, thaws, List.drop, intOfA, binD, binI, unD, mmL, buildA, mkAgg, allD, behind, behind0, takeAt, frzAs, frzA, adoptR, adopt, isD, isD0, trim, List.take, binS, sliceA, bnd, zOk, elems, Nat.reduceBNe, inpl, Nat.reduceLT, Nat.reduceBEq, Nat.reduceSub, Nat.reduceMul, Int.reduceLT, Int.reduceLE, Int.reduceEq, Int.reduceToNat, Int.reduceNeg, thaw, nodup, refsV, adopts, Pk.TY_State]
  · rw [ha]
    simp (config := {decide := true}) only [h2, Pk.EVL, keepT, enum, ↓reduceIte, ev, act, appT, callee, toDs, toD, loadA, storeA, subA, subD, updA, Eff.on, resA, resVs, resV, lk, finish, frzR, frzVs, frzV, fznR, fzns, fzn, lts, lt, ltO, List.all, pairsOk, indep, reduceCtorEq, Nat.reduceEqDiff, Nat.reduceAdd, Nat.reduceLeDiff, stb, thaws, List.drop, intOfA, binD, binI, unD, mmL, buildA, mkAgg, allD, behind, behind0, takeAt, frzAs, frzA, adoptR, adopt, isD, isD0, trim, List.take, binS, sliceA, bnd, zOk, elems, Nat.reduceBNe, inpl, Nat.reduceLT, Nat.reduceBEq, Nat.reduceSub, Nat.reduceMul, Int.reduceLT, Int.reduceLE, Int.reduceEq, Int.reduceToNat, Int.reduceNeg, thaw, nodup, refsV, adopts]
def e81 : Entry := ⟨1, 1, ⟨1, 1, 1, 0, 0, ⟨#[97]⟩⟩⟩
def s81 : State := ⟨0, Base.zero, Entry.zero, [e81]⟩
def D81 : Diff := ⟨1, 0, [e81], headM s81⟩
def Z81 : Diff := ⟨0, 0, [], headM s81⟩
def N81 : Diff := ⟨9, 0, [], State.zero⟩
theorem e81_cs : Entry.cs ⟨1, 1, ⟨1, 1, 1, 0, 0, ⟨#[97]⟩⟩⟩ = e81.cs := rfl
theorem s81_add : addS State.zero e81 = (s81, 0) := by decide +kernel
theorem s81_make : makeM State.zero s81 = D81 := by decide +kernel
theorem s81_self : makeM s81 s81 = Z81 := by decide +kernel
theorem s81_app : applyM State.zero D81 = (s81, 0) := by decide +kernel
theorem s81_bad : applyM s81 N81 = (State.zero, 80) := by decide +kernel
theorem s81_ext : extendsM State.zero s81 = true := by decide +kernel
theorem s81_ext0 : extendsM s81 State.zero = false := by decide +kernel
theorem N81_toDs (H : Heap) : toDs H (upd Diff.zeroA 0 [.d (.i .i64 9)]) = some (N81.cs, H) := rfl
theorem N81_allD : allD (upd Diff.zeroA 0 [.d (.i .i64 9)]) = none := rfl
theorem N81_len : (upd Diff.zeroA 0 [.d (.i .i64 9)]).length = 52 := rfl
theorem N81_lts (n : Nat) : lts n (upd Diff.zeroA 0 [.d (.i .i64 9)]) = true := rfl
theorem N81_isD : (upd Diff.zeroA 0 [.d (.i .i64 9)]).all isD0 = true := rfl
theorem N81_frz : frzAs (upd Diff.zeroA 0 [.d (.i .i64 9)]) = [] := rfl
theorem known8_at : evF C F_paddocklaw8_known [] [] = some (.d (.b true), []) := by
  rw [evF_code (rfl : C F_paddocklaw8_known = some a_paddocklaw8_known) _ _ rfl]
  have ho : e81.op.ok := by unfold Opr.ok; refine ⟨by decide, by decide, by decide, by decide, by decide, by decide⟩
  have oz : stOk State.zero := ⟨by decide, okLog_zero⟩
  have os : stOk s81 := ⟨by decide, fun e he => by
    have : e = e81 := by simpa [s81] using he
    rw [this]; exact ho⟩
  have a1 := add_at State.zero e81 okLog_zero ho
  rw [s81_add] at a1
  have a2 := make_at State.zero s81 oz os
  rw [s81_make] at a2
  have a3 := apply_at State.zero D81 oz (fun e he => by
    have : e = e81 := by simpa [D81] using he
    rw [this]; exact ho) (fun _ => trivial) (by decide)
  rw [s81_app] at a3
  have a4 := apply_at s81 N81 os (fun e he => by simp [N81] at he) (fun _ => trivial) (by decide)
  rw [s81_bad] at a4
  have a5 := same_at s81 s81 (by decide)
  rw [decide_eq_true rfl] at a5
  have a6 := make_at s81 s81 os os
  rw [s81_self] at a6
  have a7 := extends_at State.zero s81 oz os
  rw [s81_ext] at a7
  have a8 := extends_at s81 State.zero os oz
  rw [s81_ext0] at a8
  have k1 : (D81.kind == 1) = true := rfl
  have k2 : (((D81.log.length : Nat) : Int) == 1) = true := rfl
  have k3 : (Z81.kind == 0) = true := rfl
  have v0 : ((0 : Int) == 0) = true := rfl
  have v8 : ((80 : Int) == 80) = true := rfl
  simp only at a1 a3 a4
  simp (config := {decide := true}) only [c_paddocklaw8_known, e81_cs, a1, a2, a3, a4, a5, a6, a7, a8, k1, k2, k3, v0, v8, N81_toDs, N81_allD, N81_len, N81_lts, N81_isD, N81_frz, guardR_und, Bool.not_false, Pk.EVL, keepT, enum, ↓reduceIte, ev, act, appT, callee, toDs, toD, loadA, storeA, subA, subD, updA, Eff.on, resA, resVs, resV, lk, finish, frzR, frzVs, frzV, fznR, fzns, fzn, lts, lt, ltO, List.all, pairsOk, indep, reduceCtorEq, Nat.reduceEqDiff, Nat.reduceAdd, Nat.reduceLeDiff, stb, thaws, List.drop, intOfA, binD, binI, unD, mmL, buildA, mkAgg, allD, behind, behind0, takeAt, frzAs, frzA, adoptR, adopt, isD, isD0, trim, List.take, binS, sliceA, bnd, zOk, elems, Nat.reduceBNe, inpl, Nat.reduceLT, Nat.reduceBEq, Nat.reduceSub, Nat.reduceMul, Int.reduceLT, Int.reduceLE, Int.reduceEq, Int.reduceToNat, Int.reduceNeg, thaw, nodup, refsV, adopts, Pk.TY_State, Pk.TY_Diff, Pk.TY_Entry, Pk.TY_Opr]
theorem same8_at (x : Diff) (h1 : x.log.length ≤ 1000) (h2 : x.whole.log.length ≤ 1000) : evF C F_paddocklaw8_same [.d (.agg x.cs), .d (.agg x.cs)] [] = some (.d (.b true), []) := by
  rw [evF_code (rfl : C F_paddocklaw8_same = some a_paddocklaw8_same) _ _ rfl]
  have hr := refsame_at x.whole x.whole h2
  rw [decide_eq_true rfl] at hr
  have e1' : ∀ y : Int, (y != y) = false := fun y => by simp
  simp (config := {decide := true}) only [c_paddocklaw8_same, hr, e1', guardR_und, Bool.not_true, Pk.EVL, keepT, enum, ↓reduceIte, ev, act, appT, callee, toDs, toD, loadA, storeA, subA, subD, updA, Eff.on, resA, resVs, resV, lk, finish, frzR, frzVs, frzV, fznR, fzns, fzn, lts, lt, ltO, List.all, pairsOk, indep, reduceCtorEq, Nat.reduceEqDiff, Nat.reduceAdd, Nat.reduceLeDiff, stb, thaws, List.drop, intOfA, binD, binI, unD, mmL, buildA, mkAgg, allD, behind, behind0, takeAt, frzAs, frzA, adoptR, adopt, isD, isD0, trim, List.take, binS, sliceA, bnd, zOk, elems, Nat.reduceBNe, inpl, Nat.reduceLT, Nat.reduceBEq, Nat.reduceSub, Nat.reduceMul, Int.reduceLT, Int.reduceLE, Int.reduceEq, Int.reduceToNat, Int.reduceNeg, thaw, nodup, refsV, adopts, Pk.TY_State, Pk.TY_Diff, Pk.TY_Entry]
  simp only [Option.bind_assoc]
  refine bind_run (loop_run (fun i T H => lk T 2 = .ptr 0 0 ∧ lk T 3 = .ptr 1 0 ∧ lk T 5 = .d (.i .i64 (i : Nat)) ∧ H = [.box (.d (.agg x.cs)), .box (.d (.agg x.cs))])
    (fun e T H => e = .exit 0 ∧ H = [.box (.d (.agg x.cs)), .box (.d (.agg x.cs))]) x.log.length ?_ ?_ x.log.length 0 _ _ (by omega) ⟨rfl, rfl, rfl, rfl⟩) ?_
  · rintro i T H hi ⟨g2, g3, g5, rfl⟩
    obtain ⟨e, he⟩ : ∃ e, x.log[i]? = some e := ⟨x.log[i]'hi, List.getElem?_eq_getElem _⟩
    have hx := list_idx Entry.d he
    have hd : decide ((i : Int) < ((x.log.length : Nat) : Int)) = true := by simp; omega
    have hw : IntKind.i64.wrap ((i : Int) + 1) = ((i + 1 : Nat) : Int) := wi64 (by omega)
    have b0 : (0 ≤ (i : Int)) = True := by simp
    have hde : decide (e = e) = true := decide_eq_true rfl
    simp (config := {decide := true}) only [K_paddocklaw8_same_0, l_paddocklaw8_same_0, g2, g3, g5, hd, hw, b0, hx, hde, Bool.not_true, Pk.EVL, keepT, enum, ↓reduceIte, ev, act, appT, callee, toDs, toD, loadA, storeA, subA, subD, updA, Eff.on, resA, resVs, resV, lk, finish, frzR, frzVs, frzV, fznR, fzns, fzn, lts, lt, ltO, List.all, pairsOk, indep, reduceCtorEq, Nat.reduceEqDiff, Nat.reduceAdd, Nat.reduceLeDiff, stb, thaws, List.drop, intOfA, binD, binI, unD, mmL, buildA, mkAgg, allD, behind, behind0, takeAt, frzAs, frzA, adoptR, adopt, isD, isD0, trim, List.take, binS, sliceA, bnd, zOk, elems, Nat.reduceBNe, inpl, Nat.reduceLT, Nat.reduceBEq, Nat.reduceSub, Nat.reduceMul, Int.reduceLT, Int.reduceLE, Int.reduceEq, Int.reduceToNat, Int.reduceNeg, thaw, nodup, refsV, adopts, Pk.TY_State, Pk.TY_Diff, Pk.TY_Entry]
    refine ⟨_, _, _, rfl, ?_⟩
    exact .inl ⟨rfl, rfl, rfl, rfl, rfl⟩
  · rintro T H ⟨g2, g3, g5, rfl⟩
    have hd : decide (((x.log.length : Nat) : Int) < ((x.log.length : Nat) : Int)) = false := by simp
    simp (config := {decide := true}) only [K_paddocklaw8_same_0, l_paddocklaw8_same_0, g2, g3, g5, hd, Pk.EVL, keepT, enum, ↓reduceIte, ev, act, appT, callee, toDs, toD, loadA, storeA, subA, subD, updA, Eff.on, resA, resVs, resV, lk, finish, frzR, frzVs, frzV, fznR, fzns, fzn, lts, lt, ltO, List.all, pairsOk, indep, reduceCtorEq, Nat.reduceEqDiff, Nat.reduceAdd, Nat.reduceLeDiff, stb, thaws, List.drop, intOfA, binD, binI, unD, mmL, buildA, mkAgg, allD, behind, behind0, takeAt, frzAs, frzA, adoptR, adopt, isD, isD0, trim, List.take, binS, sliceA, bnd, zOk, elems, Nat.reduceBNe, inpl, Nat.reduceLT, Nat.reduceBEq, Nat.reduceSub, Nat.reduceMul, Int.reduceLT, Int.reduceLE, Int.reduceEq, Int.reduceToNat, Int.reduceNeg, thaw, nodup, refsV, adopts, Pk.TY_State, Pk.TY_Diff, Pk.TY_Entry]
    refine ⟨_, _, _, rfl, ?_⟩
    exact ⟨by simp, rfl, rfl⟩
  rintro e T H ⟨rfl, rfl⟩
  simp (config := {decide := true}) only [Pk.EVL, keepT, enum, ↓reduceIte, ev, act, appT, callee, toDs, toD, loadA, storeA, subA, subD, updA, Eff.on, resA, resVs, resV, lk, finish, frzR, frzVs, frzV, fznR, fzns, fzn, lts, lt, ltO, List.all, pairsOk, indep, reduceCtorEq, Nat.reduceEqDiff, Nat.reduceAdd, Nat.reduceLeDiff, stb, thaws, List.drop, intOfA, binD, binI, unD, mmL, buildA, mkAgg, allD, behind, behind0, takeAt, frzAs, frzA, adoptR, adopt, isD, isD0, trim, List.take, binS, sliceA, bnd, zOk, elems, Nat.reduceBNe, inpl, Nat.reduceLT, Nat.reduceBEq, Nat.reduceSub, Nat.reduceMul, Int.reduceLT, Int.reduceLE, Int.reduceEq, Int.reduceToNat, Int.reduceNeg, thaw, nodup, refsV, adopts]
theorem makeM_len (a b : State) (hb : b.log.length ≤ 100) : (makeM a b).log.length ≤ 100 ∧ (makeM a b).whole.log.length ≤ 100 := by
  unfold makeM
  split
  · split
    · exact ⟨by simp, by simp [headM]⟩
    · split
      · exact ⟨by show (b.log.drop _).length ≤ 100; rw [List.length_drop]; omega, by simp [headM]⟩
      · exact ⟨by simp, hb⟩
  · exact ⟨by decide, by decide⟩
theorem applyM_res (a : State) (d : Diff) : ((applyM a d).2 = 0 ∨ (applyM a d).2 = 80) ∧ (applyM a d).1.log.length ≤ 6 := by
  have hz : State.zero.log.length ≤ 6 := by decide
  unfold applyM
  split
  · split
    · split
      · rename_i h
        exact ⟨.inl rfl, isSt_len h⟩
      · exact ⟨.inr rfl, hz⟩
    · split
      · split
        · rename_i h
          exact ⟨.inl rfl, isSt_len h.2.2⟩
        · exact ⟨.inr rfl, hz⟩
      · exact ⟨.inr rfl, hz⟩
  · exact ⟨.inr rfl, hz⟩
theorem few8_len {s : State} (c : few8 s = true) : s.log.length ≤ 12 := by
  unfold few8 at c
  rw [Bool.and_eq_true] at c
  have := of_decide_eq_true c.2
  omega
end Go.Proofs.Ytfajplmkfpdhfaa
