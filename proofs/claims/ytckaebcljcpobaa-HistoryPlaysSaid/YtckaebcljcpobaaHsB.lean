/- Rows of whole numbers compared; where a history lies. -/
import Derived.Test.YtckaebcljcpobaaHsA
set_option linter.all false
namespace Go.Proofs.Ytckaebcljcpobaa
open Pv Go Pk
set_option maxRecDepth 10000
set_option maxHeartbeats 2000000
theorem eqI_at (A B : List Int) (hA : A.length ≤ 1000) : evF C F_slices_Equal_sint_int [.d (.sl (A.map fun x => .i .i64 x)), .d (.sl (B.map fun x => .i .i64 x))] [] = some (.d (.b (decide (A = B))), []) := by
  rw [evF_code (rfl : C F_slices_Equal_sint_int = some a_slices_Equal_sint_int) _ _ rfl]
  by_cases hl : A.length = B.length
  case neg =>
    have hne : (((A.length : Nat) : Int) != ((B.length : Nat) : Int)) = true := by simp; omega
    have hAB : decide (A = B) = false := decide_eq_false fun h => hl (by rw [h])
    simp (config := {decide := true}) only [c_slices_Equal_sint_int, hne, hAB, Pk.EVL, keepT, enum, ↓reduceIte, ev, act, appT, callee, toDs, toD, loadA, storeA, subA, subD, updA, Eff.on, resA, resVs, resV, lk, finish, frzR, frzVs, frzV, fznR, fzns, fzn, lts, lt, ltO, List.all, pairsOk, indep, reduceCtorEq, Nat.reduceEqDiff, Nat.reduceAdd, Nat.reduceLeDiff, stb, thaws, List.drop, intOfA, binD, binI, unD, mmL, buildA, mkAgg, allD, bslD, behind, behind0, takeAt, frzAs, frzA, adoptR, adopt, isD, isD0, trim, List.take, binS, sliceA, bnd, zOk, elems, Nat.reduceBNe, inpl, Nat.reduceLT, Nat.reduceBEq, Nat.reduceSub, Nat.reduceMul, Int.reduceLT, Int.reduceLE, Int.reduceEq, Int.reduceToNat, Int.reduceNeg, thaw, nodup, refsV, adopts]
  have hne : (((A.length : Nat) : Int) != ((B.length : Nat) : Int)) = false := by simp; omega
  simp (config := {decide := true}) only [c_slices_Equal_sint_int, hne, thaws, Pk.EVL, keepT, enum, ↓reduceIte, ev, act, appT, callee, toDs, toD, loadA, storeA, subA, subD, updA, Eff.on, resA, resVs, resV, lk, finish, frzR, frzVs, frzV, fznR, fzns, fzn, lts, lt, ltO, List.all, pairsOk, indep, reduceCtorEq, Nat.reduceEqDiff, Nat.reduceAdd, Nat.reduceLeDiff, stb, thaws, List.drop, intOfA, binD, binI, unD, mmL, buildA, mkAgg, allD, bslD, behind, behind0, takeAt, frzAs, frzA, adoptR, adopt, isD, isD0, trim, List.take, binS, sliceA, bnd, zOk, elems, Nat.reduceBNe, inpl, Nat.reduceLT, Nat.reduceBEq, Nat.reduceSub, Nat.reduceMul, Int.reduceLT, Int.reduceLE, Int.reduceEq, Int.reduceToNat, Int.reduceNeg, thaw, nodup, refsV, adopts]
  simp only [Option.bind_assoc]
  refine bind_run (loop_run (fun i T H => lk T 0 = .d (.sl (A.map fun x => .i .i64 x)) ∧ lk T 1 = .d (.sl (B.map fun x => .i .i64 x)) ∧ lk T 12 = .d (.i .i64 (A.length : Nat)) ∧ lk T 13 = .d (.i .i64 (i : Nat)) ∧ H = [] ∧ A.take i = B.take i)
    (fun e T H => H = [] ∧ ((e = .exit 0 ∧ A = B) ∨ (e = .ret ∧ A ≠ B ∧ lk T 4 = .d (.b false)))) A.length ?_ ?_ A.length 0 _ _ (by omega) ⟨rfl, rfl, rfl, rfl, rfl, rfl⟩) ?_
  · rintro i T H hi ⟨h0, h1, h2, h5, rfl, hab⟩
    have hd : decide ((i : Int) < ((A.length : Nat) : Int)) = true := by simp; omega
    have hw : IntKind.i64.wrap ((i : Int) + 1) = ((i + 1 : Nat) : Int) := wi64 (by omega)
    have b0 : (0 ≤ (i : Int)) = True := by simp
    obtain ⟨a, ha⟩ : ∃ a, A[i]? = some a := ⟨A[i]'hi, List.getElem?_eq_getElem _⟩
    obtain ⟨b, hb⟩ : ∃ b, B[i]? = some b := ⟨B[i]'(by omega), List.getElem?_eq_getElem _⟩
    have hx := list_idx (fun x : Int => DV.i .i64 x) ha
    have hy := list_idx (fun x : Int => DV.i .i64 x) hb
    have hlen : (A.map fun x : Int => DV.i .i64 x).length = A.length := List.length_map _
    by_cases c : a = b
    · have hcc : (a != b) = false := by simp [c]
      simp (config := {decide := true}) only [K_slices_Equal_sint_int_0, l_slices_Equal_sint_int_0, h0, h1, h2, h5, hd, hw, b0, hx, hy, hcc, Pk.EVL, keepT, enum, ↓reduceIte, ev, act, appT, callee, toDs, toD, loadA, storeA, subA, subD, updA, Eff.on, resA, resVs, resV, lk, finish, frzR, frzVs, frzV, fznR, fzns, fzn, lts, lt, ltO, List.all, pairsOk, indep, reduceCtorEq, Nat.reduceEqDiff, Nat.reduceAdd, Nat.reduceLeDiff, stb, thaws, List.drop, intOfA, binD, binI, unD, mmL, buildA, mkAgg, allD, bslD, behind, behind0, takeAt, frzAs, frzA, adoptR, adopt, isD, isD0, trim, List.take, binS, sliceA, bnd, zOk, elems, Nat.reduceBNe, inpl, Nat.reduceLT, Nat.reduceBEq, Nat.reduceSub, Nat.reduceMul, Int.reduceLT, Int.reduceLE, Int.reduceEq, Int.reduceToNat, Int.reduceNeg, thaw, nodup, refsV, adopts]
      exact ⟨_, _, _, rfl, .inl ⟨rfl, rfl, rfl, rfl, rfl, rfl, by rw [take_succ' ha, take_succ' hb, hab, c]⟩⟩
    · have hcc : (a != b) = true := by simp [c]
      simp (config := {decide := true}) only [K_slices_Equal_sint_int_0, l_slices_Equal_sint_int_0, h0, h1, h2, h5, hd, hw, b0, hx, hy, hcc, Pk.EVL, keepT, enum, ↓reduceIte, ev, act, appT, callee, toDs, toD, loadA, storeA, subA, subD, updA, Eff.on, resA, resVs, resV, lk, finish, frzR, frzVs, frzV, fznR, fzns, fzn, lts, lt, ltO, List.all, pairsOk, indep, reduceCtorEq, Nat.reduceEqDiff, Nat.reduceAdd, Nat.reduceLeDiff, stb, thaws, List.drop, intOfA, binD, binI, unD, mmL, buildA, mkAgg, allD, bslD, behind, behind0, takeAt, frzAs, frzA, adoptR, adopt, isD, isD0, trim, List.take, binS, sliceA, bnd, zOk, elems, Nat.reduceBNe, inpl, Nat.reduceLT, Nat.reduceBEq, Nat.reduceSub, Nat.reduceMul, Int.reduceLT, Int.reduceLE, Int.reduceEq, Int.reduceToNat, Int.reduceNeg, thaw, nodup, refsV, adopts]
      refine ⟨_, _, _, rfl, .inr ⟨by simp, rfl, .inr ⟨rfl, fun h => c ?_, rfl⟩⟩⟩
      rw [h, hb] at ha
      exact (Option.some.inj ha).symm
  · rintro T H ⟨h0, h1, h2, h5, rfl, hab⟩
    have hd : decide (((A.length : Nat) : Int) < ((A.length : Nat) : Int)) = false := by simp
    simp (config := {decide := true}) only [K_slices_Equal_sint_int_0, l_slices_Equal_sint_int_0, h0, h1, h2, h5, hd, Pk.EVL, keepT, enum, ↓reduceIte, ev, act, appT, callee, toDs, toD, loadA, storeA, subA, subD, updA, Eff.on, resA, resVs, resV, lk, finish, frzR, frzVs, frzV, fznR, fzns, fzn, lts, lt, ltO, List.all, pairsOk, indep, reduceCtorEq, Nat.reduceEqDiff, Nat.reduceAdd, Nat.reduceLeDiff, stb, thaws, List.drop, intOfA, binD, binI, unD, mmL, buildA, mkAgg, allD, bslD, behind, behind0, takeAt, frzAs, frzA, adoptR, adopt, isD, isD0, trim, List.take, binS, sliceA, bnd, zOk, elems, Nat.reduceBNe, inpl, Nat.reduceLT, Nat.reduceBEq, Nat.reduceSub, Nat.reduceMul, Int.reduceLT, Int.reduceLE, Int.reduceEq, Int.reduceToNat, Int.reduceNeg, thaw, nodup, refsV, adopts]
    refine ⟨_, _, _, rfl, by simp, rfl, .inl ⟨rfl, ?_⟩⟩
    rwa [List.take_length, hl, List.take_length] at hab
  rintro e T H ⟨rfl, ⟨rfl, h⟩ | ⟨rfl, h, h4⟩⟩
  · have hAB : decide (A = B) = true := decide_eq_true h
    simp (config := {decide := true}) only [hAB, Pk.EVL, keepT, enum, ↓reduceIte, ev, act, appT, callee, toDs, toD, loadA, storeA, subA, subD, updA, Eff.on, resA, resVs, resV, lk, finish, frzR, frzVs, frzV, fznR, fzns, fzn, lts, lt, ltO, List.all, pairsOk, indep, reduceCtorEq, Nat.reduceEqDiff, Nat.reduceAdd, Nat.reduceLeDiff, stb, thaws, List.drop, intOfA, binD, binI, unD, mmL, buildA, mkAgg, allD, bslD, behind, behind0, takeAt, frzAs, frzA, adoptR, adopt, isD, isD0, trim, List.take, binS, sliceA, bnd, zOk, elems, Nat.reduceBNe, inpl, Nat.reduceLT, Nat.reduceBEq, Nat.reduceSub, Nat.reduceMul, Int.reduceLT, Int.reduceLE, Int.reduceEq, Int.reduceToNat, Int.reduceNeg, thaw, nodup, refsV, adopts]
  · have hAB : decide (A = B) = false := decide_eq_false h
    simp (config := {decide := true}) only [hAB, h4, Pk.EVL, keepT, enum, ↓reduceIte, ev, act, appT, callee, toDs, toD, loadA, storeA, subA, subD, updA, Eff.on, resA, resVs, resV, lk, finish, frzR, frzVs, frzV, fznR, fzns, fzn, lts, lt, ltO, List.all, pairsOk, indep, reduceCtorEq, Nat.reduceEqDiff, Nat.reduceAdd, Nat.reduceLeDiff, stb, thaws, List.drop, intOfA, binD, binI, unD, mmL, buildA, mkAgg, allD, bslD, behind, behind0, takeAt, frzAs, frzA, adoptR, adopt, isD, isD0, trim, List.take, binS, sliceA, bnd, zOk, elems, Nat.reduceBNe, inpl, Nat.reduceLT, Nat.reduceBEq, Nat.reduceSub, Nat.reduceMul, Int.reduceLT, Int.reduceLE, Int.reduceEq, Int.reduceToNat, Int.reduceNeg, thaw, nodup, refsV, adopts]
theorem ints5_at (A B : List Int) (hA : A.length ≤ 1000) : evF C F_paddocklaw5_ints [.d (.sl (A.map fun x => .i .i64 x)), .d (.sl (B.map fun x => .i .i64 x))] [] = some (.d (.b (decide (A = B))), []) := by
  rw [evF_code (rfl : C F_paddocklaw5_ints = some a_paddocklaw5_ints) _ _ rfl]
  by_cases hl : A.length = B.length
  case neg =>
    have hne : (((A.length : Nat) : Int) != ((B.length : Nat) : Int)) = true := by simp; omega
    have hAB : decide (A = B) = false := decide_eq_false fun h => hl (by rw [h])
    simp (config := {decide := true}) only [c_paddocklaw5_ints, hne, hAB, Pk.EVL, keepT, enum, ↓reduceIte, ev, act, appT, callee, toDs, toD, loadA, storeA, subA, subD, updA, Eff.on, resA, resVs, resV, lk, finish, frzR, frzVs, frzV, fznR, fzns, fzn, lts, lt, ltO, List.all, pairsOk, indep, reduceCtorEq, Nat.reduceEqDiff, Nat.reduceAdd, Nat.reduceLeDiff, stb, thaws, List.drop, intOfA, binD, binI, unD, mmL, buildA, mkAgg, allD, bslD, behind, behind0, takeAt, frzAs, frzA, adoptR, adopt, isD, isD0, trim, List.take, binS, sliceA, bnd, zOk, elems, Nat.reduceBNe, inpl, Nat.reduceLT, Nat.reduceBEq, Nat.reduceSub, Nat.reduceMul, Int.reduceLT, Int.reduceLE, Int.reduceEq, Int.reduceToNat, Int.reduceNeg, thaw, nodup, refsV, adopts]
  have hne : (((A.length : Nat) : Int) != ((B.length : Nat) : Int)) = false := by simp; omega
  simp (config := {decide := true}) only [c_paddocklaw5_ints, hne, thaws, Pk.EVL, keepT, enum, ↓reduceIte, ev, act, appT, callee, toDs, toD, loadA, storeA, subA, subD, updA, Eff.on, resA, resVs, resV, lk, finish, frzR, frzVs, frzV, fznR, fzns, fzn, lts, lt, ltO, List.all, pairsOk, indep, reduceCtorEq, Nat.reduceEqDiff, Nat.reduceAdd, Nat.reduceLeDiff, stb, thaws, List.drop, intOfA, binD, binI, unD, mmL, buildA, mkAgg, allD, bslD, behind, behind0, takeAt, frzAs, frzA, adoptR, adopt, isD, isD0, trim, List.take, binS, sliceA, bnd, zOk, elems, Nat.reduceBNe, inpl, Nat.reduceLT, Nat.reduceBEq, Nat.reduceSub, Nat.reduceMul, Int.reduceLT, Int.reduceLE, Int.reduceEq, Int.reduceToNat, Int.reduceNeg, thaw, nodup, refsV, adopts]
  simp only [Option.bind_assoc]
  refine bind_run (loop_run (fun i T H => lk T 0 = .d (.sl (A.map fun x => .i .i64 x)) ∧ lk T 1 = .d (.sl (B.map fun x => .i .i64 x)) ∧ lk T 5 = .d (.i .i64 (i : Nat)) ∧ H = [] ∧ A.take i = B.take i)
    (fun e T H => H = [] ∧ ((e = .exit 0 ∧ A = B) ∨ (e = .ret ∧ A ≠ B ∧ lk T 4 = .d (.b false)))) A.length ?_ ?_ A.length 0 _ _ (by omega) ⟨rfl, rfl, rfl, rfl, rfl⟩) ?_
  · rintro i T H hi ⟨h0, h1, h5, rfl, hab⟩
    have hd : decide ((i : Int) < ((A.length : Nat) : Int)) = true := by simp; omega
    have hw : IntKind.i64.wrap ((i : Int) + 1) = ((i + 1 : Nat) : Int) := wi64 (by omega)
    have b0 : (0 ≤ (i : Int)) = True := by simp
    obtain ⟨a, ha⟩ : ∃ a, A[i]? = some a := ⟨A[i]'hi, List.getElem?_eq_getElem _⟩
    obtain ⟨b, hb⟩ : ∃ b, B[i]? = some b := ⟨B[i]'(by omega), List.getElem?_eq_getElem _⟩
    have hx := list_idx (fun x : Int => DV.i .i64 x) ha
    have hy := list_idx (fun x : Int => DV.i .i64 x) hb
    have hlen : (A.map fun x : Int => DV.i .i64 x).length = A.length := List.length_map _
    by_cases c : a = b
    · have hcc : (a != b) = false := by simp [c]
      simp (config := {decide := true}) only [K_paddocklaw5_ints_0, l_paddocklaw5_ints_0, h0, h1, h5, hd, hw, b0, hx, hy, hcc, Pk.EVL, keepT, enum, ↓reduceIte, ev, act, appT, callee, toDs, toD, loadA, storeA, subA, subD, updA, Eff.on, resA, resVs, resV, lk, finish, frzR, frzVs, frzV, fznR, fzns, fzn, lts, lt, ltO, List.all, pairsOk, indep, reduceCtorEq, Nat.reduceEqDiff, Nat.reduceAdd, Nat.reduceLeDiff, stb, thaws, List.drop, intOfA, binD, binI, unD, mmL, buildA, mkAgg, allD, bslD, behind, behind0, takeAt, frzAs, frzA, adoptR, adopt, isD, isD0, trim, List.take, binS, sliceA, bnd, zOk, elems, Nat.reduceBNe, inpl, Nat.reduceLT, Nat.reduceBEq, Nat.reduceSub, Nat.reduceMul, Int.reduceLT, Int.reduceLE, Int.reduceEq, Int.reduceToNat, Int.reduceNeg, thaw, nodup, refsV, adopts]
      exact ⟨_, _, _, rfl, .inl ⟨rfl, rfl, rfl, rfl, rfl, by rw [take_succ' ha, take_succ' hb, hab, c]⟩⟩
    · have hcc : (a != b) = true := by simp [c]
      simp (config := {decide := true}) only [K_paddocklaw5_ints_0, l_paddocklaw5_ints_0, h0, h1, h5, hd, hw, b0, hx, hy, hcc, Pk.EVL, keepT, enum, ↓reduceIte, ev, act, appT, callee, toDs, toD, loadA, storeA, subA, subD, updA, Eff.on, resA, resVs, resV, lk, finish, frzR, frzVs, frzV, fznR, fzns, fzn, lts, lt, ltO, List.all, pairsOk, indep, reduceCtorEq, Nat.reduceEqDiff, Nat.reduceAdd, Nat.reduceLeDiff, stb, thaws, List.drop, intOfA, binD, binI, unD, mmL, buildA, mkAgg, allD, bslD, behind, behind0, takeAt, frzAs, frzA, adoptR, adopt, isD, isD0, trim, List.take, binS, sliceA, bnd, zOk, elems, Nat.reduceBNe, inpl, Nat.reduceLT, Nat.reduceBEq, Nat.reduceSub, Nat.reduceMul, Int.reduceLT, Int.reduceLE, Int.reduceEq, Int.reduceToNat, Int.reduceNeg, thaw, nodup, refsV, adopts]
      refine ⟨_, _, _, rfl, .inr ⟨by simp, rfl, .inr ⟨rfl, fun h => c ?_, rfl⟩⟩⟩
      rw [h, hb] at ha
      exact (Option.some.inj ha).symm
  · rintro T H ⟨h0, h1, h5, rfl, hab⟩
    have hd : decide (((A.length : Nat) : Int) < ((A.length : Nat) : Int)) = false := by simp
    simp (config := {decide := true}) only [K_paddocklaw5_ints_0, l_paddocklaw5_ints_0, h0, h1, h5, hd, Pk.EVL, keepT, enum, ↓reduceIte, ev, act, appT, callee, toDs, toD, loadA, storeA, subA, subD, updA, Eff.on, resA, resVs, resV, lk, finish, frzR, frzVs, frzV, fznR, fzns, fzn, lts, lt, ltO, List.all, pairsOk, indep, reduceCtorEq, Nat.reduceEqDiff, Nat.reduceAdd, Nat.reduceLeDiff, stb, thaws, List.drop, intOfA, binD, binI, unD, mmL, buildA, mkAgg, allD, bslD, behind, behind0, takeAt, frzAs, frzA, adoptR, adopt, isD, isD0, trim, List.take, binS, sliceA, bnd, zOk, elems, Nat.reduceBNe, inpl, Nat.reduceLT, Nat.reduceBEq, Nat.reduceSub, Nat.reduceMul, Int.reduceLT, Int.reduceLE, Int.reduceEq, Int.reduceToNat, Int.reduceNeg, thaw, nodup, refsV, adopts]
    refine ⟨_, _, _, rfl, by simp, rfl, .inl ⟨rfl, ?_⟩⟩
    rwa [List.take_length, hl, List.take_length] at hab
  rintro e T H ⟨rfl, ⟨rfl, h⟩ | ⟨rfl, h, h4⟩⟩
  · have hAB : decide (A = B) = true := decide_eq_true h
    simp (config := {decide := true}) only [hAB, Pk.EVL, keepT, enum, ↓reduceIte, ev, act, appT, callee, toDs, toD, loadA, storeA, subA, subD, updA, Eff.on, resA, resVs, resV, lk, finish, frzR, frzVs, frzV, fznR, fzns, fzn, lts, lt, ltO, List.all, pairsOk, indep, reduceCtorEq, Nat.reduceEqDiff, Nat.reduceAdd, Nat.reduceLeDiff, stb, thaws, List.drop, intOfA, binD, binI, unD, mmL, buildA, mkAgg, allD, bslD, behind, behind0, takeAt, frzAs, frzA, adoptR, adopt, isD, isD0, trim, List.take, binS, sliceA, bnd, zOk, elems, Nat.reduceBNe, inpl, Nat.reduceLT, Nat.reduceBEq, Nat.reduceSub, Nat.reduceMul, Int.reduceLT, Int.reduceLE, Int.reduceEq, Int.reduceToNat, Int.reduceNeg, thaw, nodup, refsV, adopts]
  · have hAB : decide (A = B) = false := decide_eq_false h
    simp (config := {decide := true}) only [hAB, h4, Pk.EVL, keepT, enum, ↓reduceIte, ev, act, appT, callee, toDs, toD, loadA, storeA, subA, subD, updA, Eff.on, resA, resVs, resV, lk, finish, frzR, frzVs, frzV, fznR, fzns, fzn, lts, lt, ltO, List.all, pairsOk, indep, reduceCtorEq, Nat.reduceEqDiff, Nat.reduceAdd, Nat.reduceLeDiff, stb, thaws, List.drop, intOfA, binD, binI, unD, mmL, buildA, mkAgg, allD, bslD, behind, behind0, takeAt, frzAs, frzA, adoptR, adopt, isD, isD0, trim, List.take, binS, sliceA, bnd, zOk, elems, Nat.reduceBNe, inpl, Nat.reduceLT, Nat.reduceBEq, Nat.reduceSub, Nat.reduceMul, Int.reduceLT, Int.reduceLE, Int.reduceEq, Int.reduceToNat, Int.reduceNeg, thaw, nodup, refsV, adopts]
theorem same3_at (A B : List Int) (hA : A.length ≤ 1000) : evF C F_paddockref3_Same [.d (.sl (A.map fun x => .i .i64 x)), .d (.sl (B.map fun x => .i .i64 x))] [] = some (.d (.b (decide (A = B))), []) := by
  rw [evF_code (rfl : C F_paddockref3_Same = some a_paddockref3_Same) _ _ rfl]
  by_cases hl : A.length = B.length
  case neg =>
    have hne : (((A.length : Nat) : Int) != ((B.length : Nat) : Int)) = true := by simp; omega
    have hAB : decide (A = B) = false := decide_eq_false fun h => hl (by rw [h])
    simp (config := {decide := true}) only [c_paddockref3_Same, hne, hAB, Pk.EVL, keepT, enum, ↓reduceIte, ev, act, appT, callee, toDs, toD, loadA, storeA, subA, subD, updA, Eff.on, resA, resVs, resV, lk, finish, frzR, frzVs, frzV, fznR, fzns, fzn, lts, lt, ltO, List.all, pairsOk, indep, reduceCtorEq, Nat.reduceEqDiff, Nat.reduceAdd, Nat.reduceLeDiff, stb, thaws, List.drop, intOfA, binD, binI, unD, mmL, buildA, mkAgg, allD, bslD, behind, behind0, takeAt, frzAs, frzA, adoptR, adopt, isD, isD0, trim, List.take, binS, sliceA, bnd, zOk, elems, Nat.reduceBNe, inpl, Nat.reduceLT, Nat.reduceBEq, Nat.reduceSub, Nat.reduceMul, Int.reduceLT, Int.reduceLE, Int.reduceEq, Int.reduceToNat, Int.reduceNeg, thaw, nodup, refsV, adopts]
  have hne : (((A.length : Nat) : Int) != ((B.length : Nat) : Int)) = false := by simp; omega
  simp (config := {decide := true}) only [c_paddockref3_Same, hne, thaws, Pk.EVL, keepT, enum, ↓reduceIte, ev, act, appT, callee, toDs, toD, loadA, storeA, subA, subD, updA, Eff.on, resA, resVs, resV, lk, finish, frzR, frzVs, frzV, fznR, fzns, fzn, lts, lt, ltO, List.all, pairsOk, indep, reduceCtorEq, Nat.reduceEqDiff, Nat.reduceAdd, Nat.reduceLeDiff, stb, thaws, List.drop, intOfA, binD, binI, unD, mmL, buildA, mkAgg, allD, bslD, behind, behind0, takeAt, frzAs, frzA, adoptR, adopt, isD, isD0, trim, List.take, binS, sliceA, bnd, zOk, elems, Nat.reduceBNe, inpl, Nat.reduceLT, Nat.reduceBEq, Nat.reduceSub, Nat.reduceMul, Int.reduceLT, Int.reduceLE, Int.reduceEq, Int.reduceToNat, Int.reduceNeg, thaw, nodup, refsV, adopts]
  simp only [Option.bind_assoc]
  refine bind_run (loop_run (fun i T H => lk T 0 = .d (.sl (A.map fun x => .i .i64 x)) ∧ lk T 1 = .d (.sl (B.map fun x => .i .i64 x)) ∧ lk T 5 = .d (.i .i64 (i : Nat)) ∧ H = [] ∧ A.take i = B.take i)
    (fun e T H => H = [] ∧ ((e = .exit 0 ∧ A = B) ∨ (e = .ret ∧ A ≠ B ∧ lk T 4 = .d (.b false)))) A.length ?_ ?_ A.length 0 _ _ (by omega) ⟨rfl, rfl, rfl, rfl, rfl⟩) ?_
  · rintro i T H hi ⟨h0, h1, h5, rfl, hab⟩
    have hd : decide ((i : Int) < ((A.length : Nat) : Int)) = true := by simp; omega
    have hw : IntKind.i64.wrap ((i : Int) + 1) = ((i + 1 : Nat) : Int) := wi64 (by omega)
    have b0 : (0 ≤ (i : Int)) = True := by simp
    obtain ⟨a, ha⟩ : ∃ a, A[i]? = some a := ⟨A[i]'hi, List.getElem?_eq_getElem _⟩
    obtain ⟨b, hb⟩ : ∃ b, B[i]? = some b := ⟨B[i]'(by omega), List.getElem?_eq_getElem _⟩
    have hx := list_idx (fun x : Int => DV.i .i64 x) ha
    have hy := list_idx (fun x : Int => DV.i .i64 x) hb
    have hlen : (A.map fun x : Int => DV.i .i64 x).length = A.length := List.length_map _
    by_cases c : a = b
    · have hcc : (a != b) = false := by simp [c]
      simp (config := {decide := true}) only [K_paddockref3_Same_0, l_paddockref3_Same_0, h0, h1, h5, hd, hw, b0, hx, hy, hcc, Pk.EVL, keepT, enum, ↓reduceIte, ev, act, appT, callee, toDs, toD, loadA, storeA, subA, subD, updA, Eff.on, resA, resVs, resV, lk, finish, frzR, frzVs, frzV, fznR, fzns, fzn, lts, lt, ltO, List.all, pairsOk, indep, reduceCtorEq, Nat.reduceEqDiff, Nat.reduceAdd, Nat.reduceLeDiff, stb, thaws, List.drop, intOfA, binD, binI, unD, mmL, buildA, mkAgg, allD, bslD, behind, behind0, takeAt, frzAs, frzA, adoptR, adopt, isD, isD0, trim, List.take, binS, sliceA, bnd, zOk, elems, Nat.reduceBNe, inpl, Nat.reduceLT, Nat.reduceBEq, Nat.reduceSub, Nat.reduceMul, Int.reduceLT, Int.reduceLE, Int.reduceEq, Int.reduceToNat, Int.reduceNeg, thaw, nodup, refsV, adopts]
      exact ⟨_, _, _, rfl, .inl ⟨rfl, rfl, rfl, rfl, rfl, by rw [take_succ' ha, take_succ' hb, hab, c]⟩⟩
    · have hcc : (a != b) = true := by simp [c]
      simp (config := {decide := true}) only [K_paddockref3_Same_0, l_paddockref3_Same_0, h0, h1, h5, hd, hw, b0, hx, hy, hcc, Pk.EVL, keepT, enum, ↓reduceIte, ev, act, appT, callee, toDs, toD, loadA, storeA, subA, subD, updA, Eff.on, resA, resVs, resV, lk, finish, frzR, frzVs, frzV, fznR, fzns, fzn, lts, lt, ltO, List.all, pairsOk, indep, reduceCtorEq, Nat.reduceEqDiff, Nat.reduceAdd, Nat.reduceLeDiff, stb, thaws, List.drop, intOfA, binD, binI, unD, mmL, buildA, mkAgg, allD, bslD, behind, behind0, takeAt, frzAs, frzA, adoptR, adopt, isD, isD0, trim, List.take, binS, sliceA, bnd, zOk, elems, Nat.reduceBNe, inpl, Nat.reduceLT, Nat.reduceBEq, Nat.reduceSub, Nat.reduceMul, Int.reduceLT, Int.reduceLE, Int.reduceEq, Int.reduceToNat, Int.reduceNeg, thaw, nodup, refsV, adopts]
      refine ⟨_, _, _, rfl, .inr ⟨by simp, rfl, .inr ⟨rfl, fun h => c ?_, rfl⟩⟩⟩
      rw [h, hb] at ha
      exact (Option.some.inj ha).symm
  · rintro T H ⟨h0, h1, h5, rfl, hab⟩
    have hd : decide (((A.length : Nat) : Int) < ((A.length : Nat) : Int)) = false := by simp
    simp (config := {decide := true}) only [K_paddockref3_Same_0, l_paddockref3_Same_0, h0, h1, h5, hd, Pk.EVL, keepT, enum, ↓reduceIte, ev, act, appT, callee, toDs, toD, loadA, storeA, subA, subD, updA, Eff.on, resA, resVs, resV, lk, finish, frzR, frzVs, frzV, fznR, fzns, fzn, lts, lt, ltO, List.all, pairsOk, indep, reduceCtorEq, Nat.reduceEqDiff, Nat.reduceAdd, Nat.reduceLeDiff, stb, thaws, List.drop, intOfA, binD, binI, unD, mmL, buildA, mkAgg, allD, bslD, behind, behind0, takeAt, frzAs, frzA, adoptR, adopt, isD, isD0, trim, List.take, binS, sliceA, bnd, zOk, elems, Nat.reduceBNe, inpl, Nat.reduceLT, Nat.reduceBEq, Nat.reduceSub, Nat.reduceMul, Int.reduceLT, Int.reduceLE, Int.reduceEq, Int.reduceToNat, Int.reduceNeg, thaw, nodup, refsV, adopts]
    refine ⟨_, _, _, rfl, by simp, rfl, .inl ⟨rfl, ?_⟩⟩
    rwa [List.take_length, hl, List.take_length] at hab
  rintro e T H ⟨rfl, ⟨rfl, h⟩ | ⟨rfl, h, h4⟩⟩
  · have hAB : decide (A = B) = true := decide_eq_true h
    simp (config := {decide := true}) only [hAB, Pk.EVL, keepT, enum, ↓reduceIte, ev, act, appT, callee, toDs, toD, loadA, storeA, subA, subD, updA, Eff.on, resA, resVs, resV, lk, finish, frzR, frzVs, frzV, fznR, fzns, fzn, lts, lt, ltO, List.all, pairsOk, indep, reduceCtorEq, Nat.reduceEqDiff, Nat.reduceAdd, Nat.reduceLeDiff, stb, thaws, List.drop, intOfA, binD, binI, unD, mmL, buildA, mkAgg, allD, bslD, behind, behind0, takeAt, frzAs, frzA, adoptR, adopt, isD, isD0, trim, List.take, binS, sliceA, bnd, zOk, elems, Nat.reduceBNe, inpl, Nat.reduceLT, Nat.reduceBEq, Nat.reduceSub, Nat.reduceMul, Int.reduceLT, Int.reduceLE, Int.reduceEq, Int.reduceToNat, Int.reduceNeg, thaw, nodup, refsV, adopts]
  · have hAB : decide (A = B) = false := decide_eq_false h
    simp (config := {decide := true}) only [hAB, h4, Pk.EVL, keepT, enum, ↓reduceIte, ev, act, appT, callee, toDs, toD, loadA, storeA, subA, subD, updA, Eff.on, resA, resVs, resV, lk, finish, frzR, frzVs, frzV, fznR, fzns, fzn, lts, lt, ltO, List.all, pairsOk, indep, reduceCtorEq, Nat.reduceEqDiff, Nat.reduceAdd, Nat.reduceLeDiff, stb, thaws, List.drop, intOfA, binD, binI, unD, mmL, buildA, mkAgg, allD, bslD, behind, behind0, takeAt, frzAs, frzA, adoptR, adopt, isD, isD0, trim, List.take, binS, sliceA, bnd, zOk, elems, Nat.reduceBNe, inpl, Nat.reduceLT, Nat.reduceBEq, Nat.reduceSub, Nat.reduceMul, Int.reduceLT, Int.reduceLE, Int.reduceEq, Int.reduceToNat, Int.reduceNeg, thaw, nodup, refsV, adopts]
/-- The objects of a history: twelve, behind P; Y behind them. -/
def hq (P L Y : Heap) : Heap := P ++ (L ++ Y)
section
variable {P S : Heap} {p n : Nat} (hP : P.length = p) (hn : p + 12 + S.length = n)
include hP in
theorem hq_at (L Y : Heap) (i : Nat) : (hq P L Y)[p + i]? = (L ++ Y)[i]? := by
  unfold hq
  rw [List.getElem?_append_right (by omega)]
  congr 1
  omega
include hP in
theorem hq_set (L Y : Heap) (i : Nat) (y : Ob) (h : i < L.length) : (hq P L Y).set (p + i) y = hq P (L.set i y) Y := by
  unfold hq
  rw [List.set_append_right _ _ (by omega), show p + i - P.length = i by omega, List.set_append_left _ _ h]
include hP hn in
theorem hq_len (a0 a1 a2 a3 a4 a5 a6 a7 a8 a9 a10 a11 : Ob) (X : Heap) : (hq P [a0, a1, a2, a3, a4, a5, a6, a7, a8, a9, a10, a11] (S ++ X)).length = n + X.length := by
  unfold hq
  simp only [List.length_append, List.length_cons, List.length_nil]
  omega
theorem hq_push (L X Z : Heap) : hq P L (S ++ X) ++ Z = hq P L (S ++ (X ++ Z)) := by simp [hq]
theorem hq_push0 (L Z : Heap) : hq P L S ++ Z = hq P L (S ++ Z) := by simp [hq]
include hP hn in
theorem hq_tmp (a0 a1 a2 a3 a4 a5 a6 a7 a8 a9 a10 a11 : Ob) (X : Heap) (j : Nat) : (hq P [a0, a1, a2, a3, a4, a5, a6, a7, a8, a9, a10, a11] (S ++ X))[n + j]? = X[j]? := by
  rw [show n + j = p + (12 + S.length + j) by omega, hq_at hP, List.getElem?_append_right (by simp; omega), List.getElem?_append_right (by simp; omega)]
  congr 1
  simp
  omega
include hP hn in
theorem hq_tset (a0 a1 a2 a3 a4 a5 a6 a7 a8 a9 a10 a11 : Ob) (X : Heap) (j : Nat) (y : Ob) : (hq P [a0, a1, a2, a3, a4, a5, a6, a7, a8, a9, a10, a11] (S ++ X)).set (n + j) y = hq P [a0, a1, a2, a3, a4, a5, a6, a7, a8, a9, a10, a11] (S ++ X.set j y) := by
  unfold hq
  rw [List.set_append_right _ _ (by omega), List.set_append_right _ _ (by simp; omega), List.set_append_right _ _ (by simp; omega)]
  congr 4
  simp
  omega
include hP hn in
theorem hq_take (a0 a1 a2 a3 a4 a5 a6 a7 a8 a9 a10 a11 : Ob) (X : Heap) : List.take n (hq P [a0, a1, a2, a3, a4, a5, a6, a7, a8, a9, a10, a11] (S ++ X)) = hq P [a0, a1, a2, a3, a4, a5, a6, a7, a8, a9, a10, a11] S := by
  unfold hq
  rw [← List.append_assoc, ← List.append_assoc, List.take_left' (by simp; omega)]
  simp
include hP hn in
theorem hq_len0 (a0 a1 a2 a3 a4 a5 a6 a7 a8 a9 a10 a11 : Ob) : (hq P [a0, a1, a2, a3, a4, a5, a6, a7, a8, a9, a10, a11] S).length = n := by
  have := hq_len hP hn a0 a1 a2 a3 a4 a5 a6 a7 a8 a9 a10 a11 []
  simpa using this
include hP hn in
theorem hq_take0 (a0 a1 a2 a3 a4 a5 a6 a7 a8 a9 a10 a11 : Ob) : List.take n (hq P [a0, a1, a2, a3, a4, a5, a6, a7, a8, a9, a10, a11] S) = hq P [a0, a1, a2, a3, a4, a5, a6, a7, a8, a9, a10, a11] S := by
  have := hq_take hP hn a0 a1 a2 a3 a4 a5 a6 a7 a8 a9 a10 a11 []
  simpa using this
theorem hq_all0 (f : Ob → Bool) (L : Heap) : (hq P L S).all f = (P.all f && (L.all f && S.all f)) := by
  unfold hq
  simp only [List.all_append]
theorem hq_all (f : Ob → Bool) (L X : Heap) : (hq P L (S ++ X)).all f = (P.all f && (L.all f && (S.all f && X.all f))) := by
  unfold hq
  simp only [List.all_append]
include hP in
theorem hq_rules : (∀ (L Y : Heap), (hq P L Y)[p]? = (L ++ Y)[0]?) ∧ (∀ (L Y : Heap), (hq P L Y)[p + 1]? = (L ++ Y)[1]?) ∧ (∀ (L Y : Heap), (hq P L Y)[p + 2]? = (L ++ Y)[2]?) ∧ (∀ (L Y : Heap), (hq P L Y)[p + 5]? = (L ++ Y)[5]?) ∧
    (∀ (L Y : Heap), (hq P L Y)[p + 7]? = (L ++ Y)[7]?) ∧ (∀ (L Y : Heap), (hq P L Y)[p + 9]? = (L ++ Y)[9]?) ∧ (∀ (L Y : Heap), (hq P L Y)[p + 11]? = (L ++ Y)[11]?) :=
  ⟨fun L Y => hq_at hP L Y 0, fun L Y => hq_at hP L Y 1, fun L Y => hq_at hP L Y 2, fun L Y => hq_at hP L Y 5, fun L Y => hq_at hP L Y 7, fun L Y => hq_at hP L Y 9, fun L Y => hq_at hP L Y 11⟩
include hP in
theorem hq_sets : (∀ (a0 a1 a2 a3 a4 a5 a6 a7 a8 a9 a10 a11 : Ob) (Y : Heap) (y : Ob), (hq P [a0, a1, a2, a3, a4, a5, a6, a7, a8, a9, a10, a11] Y).set (p) y = hq P [y, a1, a2, a3, a4, a5, a6, a7, a8, a9, a10, a11] Y) ∧
    (∀ (a0 a1 a2 a3 a4 a5 a6 a7 a8 a9 a10 a11 : Ob) (Y : Heap) (y : Ob), (hq P [a0, a1, a2, a3, a4, a5, a6, a7, a8, a9, a10, a11] Y).set (p + 1) y = hq P [a0, y, a2, a3, a4, a5, a6, a7, a8, a9, a10, a11] Y) ∧
    (∀ (a0 a1 a2 a3 a4 a5 a6 a7 a8 a9 a10 a11 : Ob) (Y : Heap) (y : Ob), (hq P [a0, a1, a2, a3, a4, a5, a6, a7, a8, a9, a10, a11] Y).set (p + 2) y = hq P [a0, a1, y, a3, a4, a5, a6, a7, a8, a9, a10, a11] Y) ∧
    (∀ (a0 a1 a2 a3 a4 a5 a6 a7 a8 a9 a10 a11 : Ob) (Y : Heap) (y : Ob), (hq P [a0, a1, a2, a3, a4, a5, a6, a7, a8, a9, a10, a11] Y).set (p + 5) y = hq P [a0, a1, a2, a3, a4, y, a6, a7, a8, a9, a10, a11] Y) ∧
    (∀ (a0 a1 a2 a3 a4 a5 a6 a7 a8 a9 a10 a11 : Ob) (Y : Heap) (y : Ob), (hq P [a0, a1, a2, a3, a4, a5, a6, a7, a8, a9, a10, a11] Y).set (p + 7) y = hq P [a0, a1, a2, a3, a4, a5, a6, y, a8, a9, a10, a11] Y) ∧
    (∀ (a0 a1 a2 a3 a4 a5 a6 a7 a8 a9 a10 a11 : Ob) (Y : Heap) (y : Ob), (hq P [a0, a1, a2, a3, a4, a5, a6, a7, a8, a9, a10, a11] Y).set (p + 9) y = hq P [a0, a1, a2, a3, a4, a5, a6, a7, a8, y, a10, a11] Y) ∧
    (∀ (a0 a1 a2 a3 a4 a5 a6 a7 a8 a9 a10 a11 : Ob) (Y : Heap) (y : Ob), (hq P [a0, a1, a2, a3, a4, a5, a6, a7, a8, a9, a10, a11] Y).set (p + 11) y = hq P [a0, a1, a2, a3, a4, a5, a6, a7, a8, a9, a10, y] Y) :=
  ⟨fun _ _ _ _ _ _ _ _ _ _ _ _ Y y => hq_set hP _ Y 0 y (by simp), fun _ _ _ _ _ _ _ _ _ _ _ _ Y y => hq_set hP _ Y 1 y (by simp), fun _ _ _ _ _ _ _ _ _ _ _ _ Y y => hq_set hP _ Y 2 y (by simp), fun _ _ _ _ _ _ _ _ _ _ _ _ Y y => hq_set hP _ Y 5 y (by simp), fun _ _ _ _ _ _ _ _ _ _ _ _ Y y => hq_set hP _ Y 7 y (by simp), fun _ _ _ _ _ _ _ _ _ _ _ _ Y y => hq_set hP _ Y 9 y (by simp), fun _ _ _ _ _ _ _ _ _ _ _ _ Y y => hq_set hP _ Y 11 y (by simp)⟩
include hP hn in
theorem hq_tmps : (∀ (a0 a1 a2 a3 a4 a5 a6 a7 a8 a9 a10 a11 : Ob) (X : Heap), (hq P [a0, a1, a2, a3, a4, a5, a6, a7, a8, a9, a10, a11] (S ++ X))[n]? = X[0]?) ∧ (∀ (a0 a1 a2 a3 a4 a5 a6 a7 a8 a9 a10 a11 : Ob) (X : Heap), (hq P [a0, a1, a2, a3, a4, a5, a6, a7, a8, a9, a10, a11] (S ++ X))[n + 1]? = X[1]?) ∧ (∀ (a0 a1 a2 a3 a4 a5 a6 a7 a8 a9 a10 a11 : Ob) (X : Heap), (hq P [a0, a1, a2, a3, a4, a5, a6, a7, a8, a9, a10, a11] (S ++ X))[n + 2]? = X[2]?) ∧ (∀ (a0 a1 a2 a3 a4 a5 a6 a7 a8 a9 a10 a11 : Ob) (X : Heap), (hq P [a0, a1, a2, a3, a4, a5, a6, a7, a8, a9, a10, a11] (S ++ X))[n + 3]? = X[3]?) ∧
    (∀ (a0 a1 a2 a3 a4 a5 a6 a7 a8 a9 a10 a11 : Ob) (X : Heap) (y : Ob), (hq P [a0, a1, a2, a3, a4, a5, a6, a7, a8, a9, a10, a11] (S ++ X)).set n y = hq P [a0, a1, a2, a3, a4, a5, a6, a7, a8, a9, a10, a11] (S ++ X.set 0 y)) ∧ (∀ (a0 a1 a2 a3 a4 a5 a6 a7 a8 a9 a10 a11 : Ob) (X : Heap) (y : Ob), (hq P [a0, a1, a2, a3, a4, a5, a6, a7, a8, a9, a10, a11] (S ++ X)).set (n + 1) y = hq P [a0, a1, a2, a3, a4, a5, a6, a7, a8, a9, a10, a11] (S ++ X.set 1 y)) ∧ (∀ (a0 a1 a2 a3 a4 a5 a6 a7 a8 a9 a10 a11 : Ob) (X : Heap) (y : Ob), (hq P [a0, a1, a2, a3, a4, a5, a6, a7, a8, a9, a10, a11] (S ++ X)).set (n + 2) y = hq P [a0, a1, a2, a3, a4, a5, a6, a7, a8, a9, a10, a11] (S ++ X.set 2 y)) :=
  ⟨fun _ _ _ _ _ _ _ _ _ _ _ _ X => hq_tmp hP hn _ _ _ _ _ _ _ _ _ _ _ _ X 0, fun _ _ _ _ _ _ _ _ _ _ _ _ X => hq_tmp hP hn _ _ _ _ _ _ _ _ _ _ _ _ X 1, fun _ _ _ _ _ _ _ _ _ _ _ _ X => hq_tmp hP hn _ _ _ _ _ _ _ _ _ _ _ _ X 2, fun _ _ _ _ _ _ _ _ _ _ _ _ X => hq_tmp hP hn _ _ _ _ _ _ _ _ _ _ _ _ X 3,
   fun _ _ _ _ _ _ _ _ _ _ _ _ X y => hq_tset hP hn _ _ _ _ _ _ _ _ _ _ _ _ X 0 y, fun _ _ _ _ _ _ _ _ _ _ _ _ X y => hq_tset hP hn _ _ _ _ _ _ _ _ _ _ _ _ X 1 y, fun _ _ _ _ _ _ _ _ _ _ _ _ X y => hq_tset hP hn _ _ _ _ _ _ _ _ _ _ _ _ X 2 y⟩
end
end Go.Proofs.Ytckaebcljcpobaa
