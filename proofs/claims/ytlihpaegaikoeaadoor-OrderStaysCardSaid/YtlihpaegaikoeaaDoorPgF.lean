/- States alike. -/
import Derived.Test.YtlihpaegaikoeaaDoorPgE
set_option linter.all false
namespace Go.Proofs.YtlihpaegaikoeaaDoor
open Pv Go Pk
set_option maxRecDepth 10000
set_option maxHeartbeats 2000000
theorem take_eq_succ {α : Type} {a b : List α} {i : Nat} {x y : α} (ha : a[i]? = some x) (hb : b[i]? = some y) : a.take (i + 1) = b.take (i + 1) ↔ a.take i = b.take i ∧ x = y := by
  rw [take_succ' ha, take_succ' hb]
  have hl : (a.take i).length = (b.take i).length := by
    have := (List.getElem?_eq_some_iff.1 ha).1
    have := (List.getElem?_eq_some_iff.1 hb).1
    rw [List.length_take, List.length_take]; omega
  constructor
  · intro h
    have := List.append_inj h hl
    exact ⟨this.1, by simpa using this.2⟩
  · rintro ⟨h1, h2⟩; rw [h1, h2]
theorem entries_eq (a b : List Entry) (hl : a.length ≤ 1000) : evF C F_slices_Equal_sapi_Entry_api_Entry [.d (.sl (a.map Entry.d)), .d (.sl (b.map Entry.d))] [] = some (.d (.b (decide (a = b))), []) := by
  rw [evF_code (rfl : C F_slices_Equal_sapi_Entry_api_Entry = some a_slices_Equal_sapi_Entry_api_Entry) _ _ rfl]
  by_cases c : a.length = b.length
  case neg =>
    have hne : (((a.length : Nat) : Int) != ((b.length : Nat) : Int)) = true := by simp; omega
    have hd : decide (a = b) = false := by simp; intro h; exact c (by rw [h])
    rw [hd]
    simp (config := {decide := true}) only [c_slices_Equal_sapi_Entry_api_Entry, hne, Pk.EVL, keepT, enum, ↓reduceIte, ev, act, appT, callee, toDs, toD, loadA, storeA, subA, subD, updA, Eff.on, resA, resVs, resV, lk, finish, frzR, frzVs, frzV, fznR, fzns, fzn, lts, lt, ltO, List.all, pairsOk, indep, reduceCtorEq, Nat.reduceEqDiff, Nat.reduceAdd, Nat.reduceLeDiff, stb, thaws, List.drop, intOfA, binD, binI, unD, mmL, buildA, mkAgg, allD, bslD, behind, behind0, takeAt, frzAs, frzA, adoptR, adopt, isD, isD0, trim, List.take, binS, sliceA, bnd, zOk, elems, Nat.reduceBNe, inpl, Nat.reduceLT, Nat.reduceBEq, Nat.reduceSub, Nat.reduceMul, Int.reduceLT, Int.reduceLE, Int.reduceEq, Int.reduceToNat, Int.reduceNeg, thaw, nodup, refsV, adopts, Pk.TY_Entry]
  have hne : (((a.length : Nat) : Int) != ((b.length : Nat) : Int)) = false := by simp; omega
  simp (config := {decide := true}) only [c_slices_Equal_sapi_Entry_api_Entry, hne, Pk.EVL, keepT, enum, ↓reduceIte, ev, act, appT, callee, toDs, toD, loadA, storeA, subA, subD, updA, Eff.on, resA, resVs, resV, lk, finish, frzR, frzVs, frzV, fznR, fzns, fzn, lts, lt, ltO, List.all, pairsOk, indep, reduceCtorEq, Nat.reduceEqDiff, Nat.reduceAdd, Nat.reduceLeDiff, stb, thaws, List.drop, intOfA, binD, binI, unD, mmL, buildA, mkAgg, allD, bslD, behind, behind0, takeAt, frzAs, frzA, adoptR, adopt, isD, isD0, trim, List.take, binS, sliceA, bnd, zOk, elems, Nat.reduceBNe, inpl, Nat.reduceLT, Nat.reduceBEq, Nat.reduceSub, Nat.reduceMul, Int.reduceLT, Int.reduceLE, Int.reduceEq, Int.reduceToNat, Int.reduceNeg, thaw, nodup, refsV, adopts, Pk.TY_Entry]
  simp only [Option.bind_assoc]
  refine bind_run (loop_run (fun i T H => lk T 0 = .d (.sl (a.map Entry.d)) ∧ lk T 1 = .d (.sl (b.map Entry.d)) ∧ lk T 12 = .d (.i .i64 (a.length : Nat)) ∧ lk T 13 = .d (.i .i64 (i : Nat)) ∧ H = [] ∧ a.take i = b.take i)
    (fun e T H => (e = .exit 0 ∧ H = [] ∧ a = b) ∨ (e = .ret ∧ lk T 4 = .d (.b false) ∧ H = [] ∧ a ≠ b)) a.length ?_ ?_ a.length 0 _ _ (by omega) ⟨rfl, rfl, rfl, rfl, rfl, rfl⟩) ?_
  · rintro i T H hi ⟨h0, h1, h12, h13, rfl, ht⟩
    obtain ⟨x, hx⟩ : ∃ x, a[i]? = some x := ⟨a[i]'hi, List.getElem?_eq_getElem _⟩
    obtain ⟨y, hy⟩ : ∃ y, b[i]? = some y := ⟨b[i]'(by omega), List.getElem?_eq_getElem _⟩
    have kx := list_idx Entry.d hx
    have ky := list_idx Entry.d hy
    have hd : decide ((i : Int) < ((a.length : Nat) : Int)) = true := by simp; omega
    have hw : IntKind.i64.wrap ((i : Int) + 1) = ((i + 1 : Nat) : Int) := wi64 (by omega)
    have b0 : (0 ≤ (i : Int)) = True := by simp
    by_cases e : x = y
    · have hde := decide_eq_true e
      simp (config := {decide := true}) only [K_slices_Equal_sapi_Entry_api_Entry_0, l_slices_Equal_sapi_Entry_api_Entry_0, h0, h1, h12, h13, hd, hw, b0, kx, ky, hde, Pk.EVL, keepT, enum, ↓reduceIte, ev, act, appT, callee, toDs, toD, loadA, storeA, subA, subD, updA, Eff.on, resA, resVs, resV, lk, finish, frzR, frzVs, frzV, fznR, fzns, fzn, lts, lt, ltO, List.all, pairsOk, indep, reduceCtorEq, Nat.reduceEqDiff, Nat.reduceAdd, Nat.reduceLeDiff, stb, thaws, List.drop, intOfA, binD, binI, unD, mmL, buildA, mkAgg, allD, bslD, behind, behind0, takeAt, frzAs, frzA, adoptR, adopt, isD, isD0, trim, List.take, binS, sliceA, bnd, zOk, elems, Nat.reduceBNe, inpl, Nat.reduceLT, Nat.reduceBEq, Nat.reduceSub, Nat.reduceMul, Int.reduceLT, Int.reduceLE, Int.reduceEq, Int.reduceToNat, Int.reduceNeg, thaw, nodup, refsV, adopts, Pk.TY_Entry]
      refine ⟨_, _, _, rfl, ?_⟩
      exact .inl ⟨rfl, rfl, rfl, rfl, rfl, rfl, (take_eq_succ hx hy).2 ⟨ht, e⟩⟩
    · have hde := decide_eq_false e
      simp (config := {decide := true}) only [K_slices_Equal_sapi_Entry_api_Entry_0, l_slices_Equal_sapi_Entry_api_Entry_0, h0, h1, h12, h13, hd, hw, b0, kx, ky, hde, Pk.EVL, keepT, enum, ↓reduceIte, ev, act, appT, callee, toDs, toD, loadA, storeA, subA, subD, updA, Eff.on, resA, resVs, resV, lk, finish, frzR, frzVs, frzV, fznR, fzns, fzn, lts, lt, ltO, List.all, pairsOk, indep, reduceCtorEq, Nat.reduceEqDiff, Nat.reduceAdd, Nat.reduceLeDiff, stb, thaws, List.drop, intOfA, binD, binI, unD, mmL, buildA, mkAgg, allD, bslD, behind, behind0, takeAt, frzAs, frzA, adoptR, adopt, isD, isD0, trim, List.take, binS, sliceA, bnd, zOk, elems, Nat.reduceBNe, inpl, Nat.reduceLT, Nat.reduceBEq, Nat.reduceSub, Nat.reduceMul, Int.reduceLT, Int.reduceLE, Int.reduceEq, Int.reduceToNat, Int.reduceNeg, thaw, nodup, refsV, adopts, Pk.TY_Entry]
      refine ⟨_, _, _, rfl, ?_⟩
      refine .inr ⟨by simp, .inr ⟨rfl, rfl, rfl, ?_⟩⟩
      rintro rfl
      rw [hx] at hy
      exact e (by simpa using hy)
  · rintro T H ⟨h0, h1, h12, h13, rfl, ht⟩
    have hd : decide (((a.length : Nat) : Int) < ((a.length : Nat) : Int)) = false := by simp
    simp (config := {decide := true}) only [K_slices_Equal_sapi_Entry_api_Entry_0, l_slices_Equal_sapi_Entry_api_Entry_0, h0, h1, h12, h13, hd, Pk.EVL, keepT, enum, ↓reduceIte, ev, act, appT, callee, toDs, toD, loadA, storeA, subA, subD, updA, Eff.on, resA, resVs, resV, lk, finish, frzR, frzVs, frzV, fznR, fzns, fzn, lts, lt, ltO, List.all, pairsOk, indep, reduceCtorEq, Nat.reduceEqDiff, Nat.reduceAdd, Nat.reduceLeDiff, stb, thaws, List.drop, intOfA, binD, binI, unD, mmL, buildA, mkAgg, allD, bslD, behind, behind0, takeAt, frzAs, frzA, adoptR, adopt, isD, isD0, trim, List.take, binS, sliceA, bnd, zOk, elems, Nat.reduceBNe, inpl, Nat.reduceLT, Nat.reduceBEq, Nat.reduceSub, Nat.reduceMul, Int.reduceLT, Int.reduceLE, Int.reduceEq, Int.reduceToNat, Int.reduceNeg, thaw, nodup, refsV, adopts, Pk.TY_Entry]
    refine ⟨_, _, _, rfl, ?_⟩
    rw [List.take_length, c, List.take_length] at ht
    exact ⟨by simp, .inl ⟨rfl, rfl, ht⟩⟩
  rintro e T H (⟨rfl, rfl, h⟩ | ⟨rfl, h4, rfl, h⟩)
  · rw [decide_eq_true h]
    simp (config := {decide := true}) only [Pk.EVL, keepT, enum, ↓reduceIte, ev, act, appT, callee, toDs, toD, loadA, storeA, subA, subD, updA, Eff.on, resA, resVs, resV, lk, finish, frzR, frzVs, frzV, fznR, fzns, fzn, lts, lt, ltO, List.all, pairsOk, indep, reduceCtorEq, Nat.reduceEqDiff, Nat.reduceAdd, Nat.reduceLeDiff, stb, thaws, List.drop, intOfA, binD, binI, unD, mmL, buildA, mkAgg, allD, bslD, behind, behind0, takeAt, frzAs, frzA, adoptR, adopt, isD, isD0, trim, List.take, binS, sliceA, bnd, zOk, elems, Nat.reduceBNe, inpl, Nat.reduceLT, Nat.reduceBEq, Nat.reduceSub, Nat.reduceMul, Int.reduceLT, Int.reduceLE, Int.reduceEq, Int.reduceToNat, Int.reduceNeg, thaw, nodup, refsV, adopts]
  · rw [decide_eq_false h]
    simp (config := {decide := true}) only [h4, Pk.EVL, keepT, enum, ↓reduceIte, ev, act, appT, callee, toDs, toD, loadA, storeA, subA, subD, updA, Eff.on, resA, resVs, resV, lk, finish, frzR, frzVs, frzV, fznR, fzns, fzn, lts, lt, ltO, List.all, pairsOk, indep, reduceCtorEq, Nat.reduceEqDiff, Nat.reduceAdd, Nat.reduceLeDiff, stb, thaws, List.drop, intOfA, binD, binI, unD, mmL, buildA, mkAgg, allD, bslD, behind, behind0, takeAt, frzAs, frzA, adoptR, adopt, isD, isD0, trim, List.take, binS, sliceA, bnd, zOk, elems, Nat.reduceBNe, inpl, Nat.reduceLT, Nat.reduceBEq, Nat.reduceSub, Nat.reduceMul, Int.reduceLT, Int.reduceLE, Int.reduceEq, Int.reduceToNat, Int.reduceNeg, thaw, nodup, refsV, adopts]
end Go.Proofs.YtlihpaegaikoeaaDoor
