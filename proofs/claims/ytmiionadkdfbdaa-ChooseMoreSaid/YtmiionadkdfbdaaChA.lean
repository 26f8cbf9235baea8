/- Who was heard: a daemon among them; an interval that may have served and of which nobody was heard. -/
import Derived.Test.YtmiionadkdfbdaaHsB
set_option linter.all false
namespace Go.Proofs.Ytmiionadkdfbdaa
open Pv Go Pk
set_option maxRecDepth 10000
set_option maxHeartbeats 2000000
def intsD (A : List Int) : List DV := A.map fun x => .i .i64 x
/-- The place of the first one of which it holds. -/
def ixI (pr : Int → Bool) : List Int → Nat → Int
  | [], _ => -1
  | x :: r, i => if pr x then (i : Int) else ixI pr r (i + 1)
theorem ixI_any (pr : Int → Bool) : ∀ (A : List Int) (i : Nat), decide (ixI pr A i ≥ 0) = A.any pr
  | [], _ => rfl
  | x :: r, i => by
    rw [List.any_cons]
    unfold ixI
    cases h : pr x with
    | true => simp
    | false => simpa using ixI_any pr r (i + 1)
theorem ixI_drop {pr : Int → Bool} {A : List Int} {i : Nat} {y : Int} (hy : A[i]? = some y) : ixI pr (A.drop i) i = if pr y then (i : Int) else ixI pr (A.drop (i + 1)) (i + 1) := by
  have hi := (List.getElem?_eq_some_iff.1 hy).1
  rw [List.drop_eq_getElem_cons hi, (List.getElem?_eq_some_iff.1 hy).2]
  rfl
theorem index_at (A : List Int) (x : Int) (hA : A.length ≤ 1000) : evF C F_slices_Index_sint_int [.d (.sl (A.map fun x => .i .i64 x)), .d (.i .i64 x)] [] = some (.d (.i .i64 (ixI (fun y => decide (x = y)) A 0)), []) := by
  have hl : (A.map fun x : Int => DV.i .i64 x).length = A.length := List.length_map _
  rw [evF_code (rfl : C F_slices_Index_sint_int = some a_slices_Index_sint_int) _ _ rfl]
  simp (config := {decide := true}) only [c_slices_Index_sint_int, hl, thaws, Pk.EVL, keepT, enum, ↓reduceIte, ev, act, appT, appW, callee, toDs, toD, loadA, storeA, subA, subD, updA, Eff.on, resA, resVs, resV, lk, finish, frzR, frzVs, frzV, fznR, fzns, fzn, lts, lt, ltO, List.all, pairsOk, indep, reduceCtorEq, Nat.reduceEqDiff, Nat.reduceAdd, Nat.reduceLeDiff, stb, thaws, List.drop, intOfA, binD, binI, unD, mmL, buildA, mkAgg, allD, bslD, behind, behind0, takeAt, frzAs, frzA, adoptR, adopt, isD, isD0, trim, List.take, binS, sliceA, bnd, zOk, elems, Nat.reduceBNe, inpl, Nat.reduceLT, Nat.reduceBEq, Nat.reduceSub, Nat.reduceMul, Int.reduceLT, Int.reduceLE, Int.reduceEq, Int.reduceToNat, Int.reduceNeg, thaw, nodup, refsV, adopts, sameH_self]
  simp only [Option.bind_assoc]
  refine bind_run (loop_run (fun i T H => lk T 0 = .d (.sl (A.map fun x => .i .i64 x)) ∧ lk T 1 = .d (.i .i64 x) ∧ lk T 7 = .d (.i .i64 (A.length : Nat)) ∧ lk T 8 = .d (.i .i64 (i : Nat)) ∧ H = [] ∧ ixI (fun y => decide (x = y)) (A.drop i) i = ixI (fun y => decide (x = y)) A 0)
    (fun e T H => H = [] ∧ ((e = .exit 0 ∧ ixI (fun y => decide (x = y)) A 0 = -1) ∨ (e = .ret ∧ lk T 4 = .d (.i .i64 (ixI (fun y => decide (x = y)) A 0))))) A.length ?_ ?_ A.length 0 _ _ (by omega) ⟨rfl, rfl, rfl, rfl, rfl, rfl⟩) ?_
  · rintro i T H hi ⟨h0, h1, h7, h8, rfl, hni⟩
    obtain ⟨y, hy⟩ : ∃ y, A[i]? = some y := ⟨A[i]'hi, List.getElem?_eq_getElem _⟩
    have hyd := list_idx (fun x : Int => DV.i .i64 x) hy
    rw [ixI_drop hy] at hni
    have hd : decide ((i : Int) < ((A.length : Nat) : Int)) = true := by simp; omega
    have hw : IntKind.i64.wrap ((i : Int) + 1) = ((i + 1 : Nat) : Int) := wi64 (by omega)
    have b0 : (0 ≤ (i : Int)) = True := by simp
    by_cases c : x = y
    · have hc : (x == y) = true := by simp [c]
      rw [if_pos (by simp [c])] at hni
      rw [← hni]
      simp (config := {decide := true}) only [K_slices_Index_sint_int_0, l_slices_Index_sint_int_0, h0, h1, h7, h8, hyd, hd, hw, b0, hc, Pk.EVL, keepT, enum, ↓reduceIte, ev, act, appT, appW, callee, toDs, toD, loadA, storeA, subA, subD, updA, Eff.on, resA, resVs, resV, lk, finish, frzR, frzVs, frzV, fznR, fzns, fzn, lts, lt, ltO, List.all, pairsOk, indep, reduceCtorEq, Nat.reduceEqDiff, Nat.reduceAdd, Nat.reduceLeDiff, stb, thaws, List.drop, intOfA, binD, binI, unD, mmL, buildA, mkAgg, allD, bslD, behind, behind0, takeAt, frzAs, frzA, adoptR, adopt, isD, isD0, trim, List.take, binS, sliceA, bnd, zOk, elems, Nat.reduceBNe, inpl, Nat.reduceLT, Nat.reduceBEq, Nat.reduceSub, Nat.reduceMul, Int.reduceLT, Int.reduceLE, Int.reduceEq, Int.reduceToNat, Int.reduceNeg, thaw, nodup, refsV, adopts, sameH_self]
      exact ⟨_, _, _, rfl, .inr ⟨by simp, rfl, rfl, rfl⟩⟩
    · have hc : (x == y) = false := by simp [c]
      rw [if_neg (by simp [c])] at hni
      simp (config := {decide := true}) only [K_slices_Index_sint_int_0, l_slices_Index_sint_int_0, h0, h1, h7, h8, hyd, hd, hw, b0, hc, Pk.EVL, keepT, enum, ↓reduceIte, ev, act, appT, appW, callee, toDs, toD, loadA, storeA, subA, subD, updA, Eff.on, resA, resVs, resV, lk, finish, frzR, frzVs, frzV, fznR, fzns, fzn, lts, lt, ltO, List.all, pairsOk, indep, reduceCtorEq, Nat.reduceEqDiff, Nat.reduceAdd, Nat.reduceLeDiff, stb, thaws, List.drop, intOfA, binD, binI, unD, mmL, buildA, mkAgg, allD, bslD, behind, behind0, takeAt, frzAs, frzA, adoptR, adopt, isD, isD0, trim, List.take, binS, sliceA, bnd, zOk, elems, Nat.reduceBNe, inpl, Nat.reduceLT, Nat.reduceBEq, Nat.reduceSub, Nat.reduceMul, Int.reduceLT, Int.reduceLE, Int.reduceEq, Int.reduceToNat, Int.reduceNeg, thaw, nodup, refsV, adopts, sameH_self]
      exact ⟨_, _, _, rfl, .inl ⟨rfl, rfl, rfl, rfl, rfl, rfl, hni⟩⟩
  · rintro T H ⟨h0, h1, h7, h8, rfl, hni⟩
    rw [List.drop_length] at hni
    have hd : decide (((A.length : Nat) : Int) < ((A.length : Nat) : Int)) = false := by simp
    simp (config := {decide := true}) only [K_slices_Index_sint_int_0, l_slices_Index_sint_int_0, h0, h1, h7, h8, hd, Pk.EVL, keepT, enum, ↓reduceIte, ev, act, appT, appW, callee, toDs, toD, loadA, storeA, subA, subD, updA, Eff.on, resA, resVs, resV, lk, finish, frzR, frzVs, frzV, fznR, fzns, fzn, lts, lt, ltO, List.all, pairsOk, indep, reduceCtorEq, Nat.reduceEqDiff, Nat.reduceAdd, Nat.reduceLeDiff, stb, thaws, List.drop, intOfA, binD, binI, unD, mmL, buildA, mkAgg, allD, bslD, behind, behind0, takeAt, frzAs, frzA, adoptR, adopt, isD, isD0, trim, List.take, binS, sliceA, bnd, zOk, elems, Nat.reduceBNe, inpl, Nat.reduceLT, Nat.reduceBEq, Nat.reduceSub, Nat.reduceMul, Int.reduceLT, Int.reduceLE, Int.reduceEq, Int.reduceToNat, Int.reduceNeg, thaw, nodup, refsV, adopts, sameH_self]
    exact ⟨_, _, _, rfl, by simp, rfl, .inl ⟨rfl, hni.symm⟩⟩
  rintro e T H ⟨rfl, ⟨rfl, h⟩ | ⟨rfl, h4⟩⟩
  · simp (config := {decide := true}) only [h, Pk.EVL, keepT, enum, ↓reduceIte, ev, act, appT, appW, callee, toDs, toD, loadA, storeA, subA, subD, updA, Eff.on, resA, resVs, resV, lk, finish, frzR, frzVs, frzV, fznR, fzns, fzn, lts, lt, ltO, List.all, pairsOk, indep, reduceCtorEq, Nat.reduceEqDiff, Nat.reduceAdd, Nat.reduceLeDiff, stb, thaws, List.drop, intOfA, binD, binI, unD, mmL, buildA, mkAgg, allD, bslD, behind, behind0, takeAt, frzAs, frzA, adoptR, adopt, isD, isD0, trim, List.take, binS, sliceA, bnd, zOk, elems, Nat.reduceBNe, inpl, Nat.reduceLT, Nat.reduceBEq, Nat.reduceSub, Nat.reduceMul, Int.reduceLT, Int.reduceLE, Int.reduceEq, Int.reduceToNat, Int.reduceNeg, thaw, nodup, refsV, adopts, sameH_self]
  · simp (config := {decide := true}) only [h4, Pk.EVL, keepT, enum, ↓reduceIte, ev, act, appT, appW, callee, toDs, toD, loadA, storeA, subA, subD, updA, Eff.on, resA, resVs, resV, lk, finish, frzR, frzVs, frzV, fznR, fzns, fzn, lts, lt, ltO, List.all, pairsOk, indep, reduceCtorEq, Nat.reduceEqDiff, Nat.reduceAdd, Nat.reduceLeDiff, stb, thaws, List.drop, intOfA, binD, binI, unD, mmL, buildA, mkAgg, allD, bslD, behind, behind0, takeAt, frzAs, frzA, adoptR, adopt, isD, isD0, trim, List.take, binS, sliceA, bnd, zOk, elems, Nat.reduceBNe, inpl, Nat.reduceLT, Nat.reduceBEq, Nat.reduceSub, Nat.reduceMul, Int.reduceLT, Int.reduceLE, Int.reduceEq, Int.reduceToNat, Int.reduceNeg, thaw, nodup, refsV, adopts, sameH_self]
theorem contains_at (A : List Int) (x : Int) (hA : A.length ≤ 1000) : evF C F_slices_Contains_sint_int [.d (.sl (A.map fun x => .i .i64 x)), .d (.i .i64 x)] [] = some (.d (.b (decide (x ∈ A))), []) := by
  have hev := index_at A x hA
  have hj := ixI_any (fun y => decide (x = y)) A 0
  have hany : (A.any fun y => decide (x = y)) = decide (x ∈ A) := by
    rw [Bool.eq_iff_iff]
    simp
  rw [hany] at hj
  rw [evF_code (rfl : C F_slices_Contains_sint_int = some a_slices_Contains_sint_int) _ _ rfl]
  simp (config := {decide := true}) only [c_slices_Contains_sint_int, hev, hj, Pk.EVL, keepT, enum, ↓reduceIte, ev, act, appT, appW, callee, toDs, toD, loadA, storeA, subA, subD, updA, Eff.on, resA, resVs, resV, lk, finish, frzR, frzVs, frzV, fznR, fzns, fzn, lts, lt, ltO, List.all, pairsOk, indep, reduceCtorEq, Nat.reduceEqDiff, Nat.reduceAdd, Nat.reduceLeDiff, stb, thaws, List.drop, intOfA, binD, binI, unD, mmL, buildA, mkAgg, allD, bslD, behind, behind0, takeAt, frzAs, frzA, adoptR, adopt, isD, isD0, trim, List.take, binS, sliceA, bnd, zOk, elems, Nat.reduceBNe, inpl, Nat.reduceLT, Nat.reduceBEq, Nat.reduceSub, Nat.reduceMul, Int.reduceLT, Int.reduceLE, Int.reduceEq, Int.reduceToNat, Int.reduceNeg, thaw, nodup, refsV, adopts, sameH_self]
def earD (A : List Int) (st : Int) : List DV := [.sl (A.map fun x => .i .i64 x), .i .u32 st]
theorem hears_at (A : List Int) (st x : Int) (hA : A.length ≤ 1000) : evF C F_choose_ear_hears [.d (.agg (earD A st)), .d (.i .i64 x)] [] = some (.d (.b (decide (x ∈ A))), []) := by
  have hc := contains_at A x hA
  rw [evF_code (rfl : C F_choose_ear_hears = some a_choose_ear_hears) _ _ rfl]
  simp (config := {decide := true}) only [c_choose_ear_hears, earD, hc, Pk.EVL, keepT, enum, ↓reduceIte, ev, act, appT, appW, callee, toDs, toD, loadA, storeA, subA, subD, updA, Eff.on, resA, resVs, resV, lk, finish, frzR, frzVs, frzV, fznR, fzns, fzn, lts, lt, ltO, List.all, pairsOk, indep, reduceCtorEq, Nat.reduceEqDiff, Nat.reduceAdd, Nat.reduceLeDiff, stb, thaws, List.drop, intOfA, binD, binI, unD, mmL, buildA, mkAgg, allD, bslD, behind, behind0, takeAt, frzAs, frzA, adoptR, adopt, isD, isD0, trim, List.take, binS, sliceA, bnd, zOk, elems, Nat.reduceBNe, inpl, Nat.reduceLT, Nat.reduceBEq, Nat.reduceSub, Nat.reduceMul, Int.reduceLT, Int.reduceLE, Int.reduceEq, Int.reduceToNat, Int.reduceNeg, thaw, nodup, refsV, adopts, sameH_self]
/-- slices.ContainsFunc over whole numbers, of a function that bears data, among whatever objects. -/
theorem cfunc_at (F : FuncId) (e : DV) (pr : Int → Bool) (B : List Int) (hB : B.length ≤ 1000) (hcall : ∀ x ∈ B, evF C F [.d e, .d (.i .i64 x)] [] = some (.d (.b (pr x)), [])) (H : Heap) :
    evF C F_slices_ContainsFunc_sint_int [.d (.sl (B.map fun x => .i .i64 x)), .fn F [.d e] []] H = some (.d (.b (B.any pr)), H) := by
  have hidx : evF C F_slices_IndexFunc_sint_int [.d (.sl (B.map fun x => .i .i64 x)), .fn F [.d e] []] H = some (.d (.i .i64 (ixI pr B 0)), H) := by
    have hl : (B.map fun x : Int => DV.i .i64 x).length = B.length := List.length_map _
    rw [evF_code (rfl : C F_slices_IndexFunc_sint_int = some a_slices_IndexFunc_sint_int) _ _ rfl]
    simp (config := {decide := true}) only [c_slices_IndexFunc_sint_int, hl, thaws, Pk.EVL, keepT, enum, ↓reduceIte, ev, act, appT, appW, callee, toDs, toD, loadA, storeA, subA, subD, updA, Eff.on, resA, resVs, resV, lk, finish, frzR, frzVs, frzV, fznR, fzns, fzn, lts, lt, ltO, List.all, pairsOk, indep, reduceCtorEq, Nat.reduceEqDiff, Nat.reduceAdd, Nat.reduceLeDiff, stb, thaws, List.drop, intOfA, binD, binI, unD, mmL, buildA, mkAgg, allD, bslD, behind, behind0, takeAt, frzAs, frzA, adoptR, adopt, isD, isD0, trim, List.take, binS, sliceA, bnd, zOk, elems, Nat.reduceBNe, inpl, Nat.reduceLT, Nat.reduceBEq, Nat.reduceSub, Nat.reduceMul, Int.reduceLT, Int.reduceLE, Int.reduceEq, Int.reduceToNat, Int.reduceNeg, thaw, nodup, refsV, adopts, sameH_self]
    simp only [Option.bind_assoc]
    refine bind_run (loop_run (fun i T G => lk T 0 = .d (.sl (B.map fun x => .i .i64 x)) ∧ lk T 1 = .fn F [.d e] [] ∧ lk T 7 = .d (.i .i64 (B.length : Nat)) ∧ lk T 8 = .d (.i .i64 (i : Nat)) ∧ G = H ∧ ixI pr (B.drop i) i = ixI pr B 0)
      (fun x T G => G = H ∧ ((x = .exit 0 ∧ ixI pr B 0 = -1) ∨ (x = .ret ∧ lk T 4 = .d (.i .i64 (ixI pr B 0))))) B.length ?_ ?_ B.length 0 _ _ (by omega) ⟨rfl, rfl, rfl, rfl, rfl, rfl⟩) ?_
    · rintro i T G hi ⟨h0, h1, h7, h8, rfl, hni⟩
      obtain ⟨y, hy⟩ : ∃ y, B[i]? = some y := ⟨B[i]'hi, List.getElem?_eq_getElem _⟩
      have hyd := list_idx (fun x : Int => DV.i .i64 x) hy
      have hcl := hcall y (List.mem_of_getElem? hy)
      rw [ixI_drop hy] at hni
      have hd : decide ((i : Int) < ((B.length : Nat) : Int)) = true := by simp; omega
      have hw : IntKind.i64.wrap ((i : Int) + 1) = ((i + 1 : Nat) : Int) := wi64 (by omega)
      have b0 : (0 ≤ (i : Int)) = True := by simp
      cases c : pr y with
      | true =>
        rw [c] at hcl
        rw [if_pos c] at hni
        rw [← hni]
        simp (config := {decide := true}) only [K_slices_IndexFunc_sint_int_0, l_slices_IndexFunc_sint_int_0, h0, h1, h7, h8, hyd, hcl, hd, hw, b0, ite_self, List.take_length, Pk.EVL, keepT, enum, ↓reduceIte, ev, act, appT, appW, callee, toDs, toD, loadA, storeA, subA, subD, updA, Eff.on, resA, resVs, resV, lk, finish, frzR, frzVs, frzV, fznR, fzns, fzn, lts, lt, ltO, List.all, pairsOk, indep, reduceCtorEq, Nat.reduceEqDiff, Nat.reduceAdd, Nat.reduceLeDiff, stb, thaws, List.drop, intOfA, binD, binI, unD, mmL, buildA, mkAgg, allD, bslD, behind, behind0, takeAt, frzAs, frzA, adoptR, adopt, isD, isD0, trim, List.take, binS, sliceA, bnd, zOk, elems, Nat.reduceBNe, inpl, Nat.reduceLT, Nat.reduceBEq, Nat.reduceSub, Nat.reduceMul, Int.reduceLT, Int.reduceLE, Int.reduceEq, Int.reduceToNat, Int.reduceNeg, thaw, nodup, refsV, adopts, sameH_self]
        exact ⟨_, _, _, rfl, .inr ⟨by simp, rfl, rfl, rfl⟩⟩
      | false =>
        rw [c] at hcl
        rw [if_neg (by simp [c])] at hni
        simp (config := {decide := true}) only [K_slices_IndexFunc_sint_int_0, l_slices_IndexFunc_sint_int_0, h0, h1, h7, h8, hyd, hcl, hd, hw, b0, ite_self, List.take_length, Pk.EVL, keepT, enum, ↓reduceIte, ev, act, appT, appW, callee, toDs, toD, loadA, storeA, subA, subD, updA, Eff.on, resA, resVs, resV, lk, finish, frzR, frzVs, frzV, fznR, fzns, fzn, lts, lt, ltO, List.all, pairsOk, indep, reduceCtorEq, Nat.reduceEqDiff, Nat.reduceAdd, Nat.reduceLeDiff, stb, thaws, List.drop, intOfA, binD, binI, unD, mmL, buildA, mkAgg, allD, bslD, behind, behind0, takeAt, frzAs, frzA, adoptR, adopt, isD, isD0, trim, List.take, binS, sliceA, bnd, zOk, elems, Nat.reduceBNe, inpl, Nat.reduceLT, Nat.reduceBEq, Nat.reduceSub, Nat.reduceMul, Int.reduceLT, Int.reduceLE, Int.reduceEq, Int.reduceToNat, Int.reduceNeg, thaw, nodup, refsV, adopts, sameH_self]
        exact ⟨_, _, _, rfl, .inl ⟨rfl, rfl, rfl, rfl, rfl, rfl, hni⟩⟩
    · rintro T G ⟨h0, h1, h7, h8, rfl, hni⟩
      rw [List.drop_length] at hni
      have hd : decide (((B.length : Nat) : Int) < ((B.length : Nat) : Int)) = false := by simp
      simp (config := {decide := true}) only [K_slices_IndexFunc_sint_int_0, l_slices_IndexFunc_sint_int_0, h0, h1, h7, h8, hd, ite_self, List.take_length, Pk.EVL, keepT, enum, ↓reduceIte, ev, act, appT, appW, callee, toDs, toD, loadA, storeA, subA, subD, updA, Eff.on, resA, resVs, resV, lk, finish, frzR, frzVs, frzV, fznR, fzns, fzn, lts, lt, ltO, List.all, pairsOk, indep, reduceCtorEq, Nat.reduceEqDiff, Nat.reduceAdd, Nat.reduceLeDiff, stb, thaws, List.drop, intOfA, binD, binI, unD, mmL, buildA, mkAgg, allD, bslD, behind, behind0, takeAt, frzAs, frzA, adoptR, adopt, isD, isD0, trim, List.take, binS, sliceA, bnd, zOk, elems, Nat.reduceBNe, inpl, Nat.reduceLT, Nat.reduceBEq, Nat.reduceSub, Nat.reduceMul, Int.reduceLT, Int.reduceLE, Int.reduceEq, Int.reduceToNat, Int.reduceNeg, thaw, nodup, refsV, adopts, sameH_self]
      exact ⟨_, _, _, rfl, by simp, rfl, .inl ⟨rfl, hni.symm⟩⟩
    rintro x T G ⟨rfl, ⟨rfl, h⟩ | ⟨rfl, h4⟩⟩
    · simp (config := {decide := true}) only [h, ite_self, List.take_length, Pk.EVL, keepT, enum, ↓reduceIte, ev, act, appT, appW, callee, toDs, toD, loadA, storeA, subA, subD, updA, Eff.on, resA, resVs, resV, lk, finish, frzR, frzVs, frzV, fznR, fzns, fzn, lts, lt, ltO, List.all, pairsOk, indep, reduceCtorEq, Nat.reduceEqDiff, Nat.reduceAdd, Nat.reduceLeDiff, stb, thaws, List.drop, intOfA, binD, binI, unD, mmL, buildA, mkAgg, allD, bslD, behind, behind0, takeAt, frzAs, frzA, adoptR, adopt, isD, isD0, trim, List.take, binS, sliceA, bnd, zOk, elems, Nat.reduceBNe, inpl, Nat.reduceLT, Nat.reduceBEq, Nat.reduceSub, Nat.reduceMul, Int.reduceLT, Int.reduceLE, Int.reduceEq, Int.reduceToNat, Int.reduceNeg, thaw, nodup, refsV, adopts, sameH_self]
    · simp (config := {decide := true}) only [h4, ite_self, List.take_length, Pk.EVL, keepT, enum, ↓reduceIte, ev, act, appT, appW, callee, toDs, toD, loadA, storeA, subA, subD, updA, Eff.on, resA, resVs, resV, lk, finish, frzR, frzVs, frzV, fznR, fzns, fzn, lts, lt, ltO, List.all, pairsOk, indep, reduceCtorEq, Nat.reduceEqDiff, Nat.reduceAdd, Nat.reduceLeDiff, stb, thaws, List.drop, intOfA, binD, binI, unD, mmL, buildA, mkAgg, allD, bslD, behind, behind0, takeAt, frzAs, frzA, adoptR, adopt, isD, isD0, trim, List.take, binS, sliceA, bnd, zOk, elems, Nat.reduceBNe, inpl, Nat.reduceLT, Nat.reduceBEq, Nat.reduceSub, Nat.reduceMul, Int.reduceLT, Int.reduceLE, Int.reduceEq, Int.reduceToNat, Int.reduceNeg, thaw, nodup, refsV, adopts, sameH_self]
  have hj := ixI_any pr B 0
  rw [evF_code (rfl : C F_slices_ContainsFunc_sint_int = some a_slices_ContainsFunc_sint_int) _ _ rfl]
  simp (config := {decide := true}) only [c_slices_ContainsFunc_sint_int, hidx, hj, ite_self, List.take_length, Nat.le_refl, Pk.EVL, keepT, enum, ↓reduceIte, ev, act, appT, appW, callee, toDs, toD, loadA, storeA, subA, subD, updA, Eff.on, resA, resVs, resV, lk, finish, frzR, frzVs, frzV, fznR, fzns, fzn, lts, lt, ltO, List.all, pairsOk, indep, reduceCtorEq, Nat.reduceEqDiff, Nat.reduceAdd, Nat.reduceLeDiff, stb, thaws, List.drop, intOfA, binD, binI, unD, mmL, buildA, mkAgg, allD, bslD, behind, behind0, takeAt, frzAs, frzA, adoptR, adopt, isD, isD0, trim, List.take, binS, sliceA, bnd, zOk, elems, Nat.reduceBNe, inpl, Nat.reduceLT, Nat.reduceBEq, Nat.reduceSub, Nat.reduceMul, Int.reduceLT, Int.reduceLE, Int.reduceEq, Int.reduceToNat, Int.reduceNeg, thaw, nodup, refsV, adopts, sameH_self]
def missB (A : List Int) (st : Int) (x : Itv) : Bool := decide (x.acting.length ≥ 2) && (decide (x.since ≥ st) && !(x.acting.any fun y => decide (y ∈ A)))
theorem misses_at (A : List Int) (st : Int) (x : Itv) (hA : A.length ≤ 1000) (hx : x.acting.length ≤ 1000) : evF C F_choose_ear_misses [.d (.agg (earD A st)), .d (.agg x.cs)] [] = some (.d (.b (missB A st x)), []) := by
  have hc := cfunc_at F_choose_ear_hears (.agg (earD A st)) (fun y => decide (y ∈ A)) x.acting hx (fun y _ => hears_at A st y hA) [.box (.d (.agg (earD A st))), .box (.d (.agg x.cs))]
  have hl : (x.acting.map fun x : Int => DV.i .i64 x).length = x.acting.length := List.length_map _
  have he1 : (earD A st)[1]? = some (.i .u32 st) := rfl
  have he2 : subL (earD A st) 0 2 = earD A st := rfl
  have he3 : (earD A st).length = 2 := rfl
  rw [evF_code (rfl : C F_choose_ear_misses = some a_choose_ear_misses) _ _ rfl]
  unfold missB
  rcases Bool.eq_false_or_eq_true (decide (x.acting.length ≥ 2)) with c1 | c1 <;> rcases Bool.eq_false_or_eq_true (decide (x.since ≥ st)) with c2 | c2 <;> rcases Bool.eq_false_or_eq_true (x.acting.any fun y => decide (y ∈ A)) with c3 | c3 <;>
    (have c1' : decide (((x.acting.length : Nat) : Int) ≥ 2) = decide (x.acting.length ≥ 2) := by (congr 1; exact propext (by omega))) <;>
    simp (config := {decide := true}) only [c_choose_ear_misses, hl, he1, he2, he3, hc, c1, c1', c2, c3, ite_self, guardR_und, Pk.EVL, keepT, enum, ↓reduceIte, ev, act, appT, appW, callee, toDs, toD, loadA, storeA, subA, subD, updA, Eff.on, resA, resVs, resV, lk, finish, frzR, frzVs, frzV, fznR, fzns, fzn, lts, lt, ltO, List.all, pairsOk, indep, reduceCtorEq, Nat.reduceEqDiff, Nat.reduceAdd, Nat.reduceLeDiff, stb, thaws, List.drop, intOfA, binD, binI, unD, mmL, buildA, mkAgg, allD, bslD, behind, behind0, takeAt, frzAs, frzA, adoptR, adopt, isD, isD0, trim, List.take, binS, sliceA, bnd, zOk, elems, Nat.reduceBNe, inpl, Nat.reduceLT, Nat.reduceBEq, Nat.reduceSub, Nat.reduceMul, Int.reduceLT, Int.reduceLE, Int.reduceEq, Int.reduceToNat, Int.reduceNeg, thaw, nodup, refsV, adopts, sameH_self, Pk.TY_Itv]
end Go.Proofs.Ytmiionadkdfbdaa
