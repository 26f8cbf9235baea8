/- The fold of increments that were taken; which increments are taken. -/
import Derived.Test.YtckaebcljcpobaaHsK
set_option linter.all false
namespace Go.Proofs.Ytckaebcljcpobaa
open Pv Go Pk
set_option maxRecDepth 10000
set_option maxHeartbeats 4000000
theorem goodI_take {l : List Inc} (h : goodI l) (i : Nat) : goodI (l.take i) := ⟨by have := h.1; rw [List.length_take]; omega, fun x hx => h.2 x (List.mem_of_mem_take hx)⟩
theorem apply_good {l : List Inc} {x : Inc} (h : goodI (l ++ [x])) : applyM (mapAt l) x = (mapAt (l ++ [x]), 0) := by
  have hx := h.2 x (by simp)
  have hl := h.1
  simp at hl
  unfold applyM
  rw [if_pos, mapAt_snoc]
  rw [mapAt_is (goodI_snoc h), mapAt_epoch, hx.1]
  simp
  omega
theorem fold_good (g : List Inc) (hg : goodI g) (hok : ∀ x ∈ g, x.ok) : evF C F_maps_Fold [.d (.sl (g.map Inc.d))] [] = some (.tup [.d (.agg (mapAt g).cs), .d (.i .i64 0)], []) := by
  rw [evF_code (rfl : C F_maps_Fold = some a_maps_Fold) _ _ rfl]
  have hlen : (g.map Inc.d).length = g.length := List.length_map _
  have h59 := hg.1
  simp (config := {decide := true}) only [c_maps_Fold, mfirst_at, hlen, thaws, Pk.EVL, keepT, enum, ↓reduceIte, ev, act, appT, callee, toDs, toD, loadA, storeA, subA, subD, updA, Eff.on, resA, resVs, resV, lk, finish, frzR, frzVs, frzV, fznR, fzns, fzn, lts, lt, ltO, List.all, pairsOk, indep, reduceCtorEq, Nat.reduceEqDiff, Nat.reduceAdd, Nat.reduceLeDiff, stb, thaws, List.drop, intOfA, binD, binI, unD, mmL, buildA, mkAgg, allD, behind, behind0, takeAt, frzAs, frzA, adoptR, adopt, isD, isD0, trim, List.take, binS, sliceA, bnd, zOk, elems, Nat.reduceBNe, inpl, Nat.reduceLT, Nat.reduceBEq, Nat.reduceSub, Nat.reduceMul, Int.reduceLT, Int.reduceLE, Int.reduceEq, Int.reduceToNat, Int.reduceNeg, thaw, nodup, refsV, adopts, Pk.TY_Mp]
  simp only [Option.bind_assoc]
  refine bind_run (loop_run (fun i T H => lk T 2 = .ptr 0 0 ∧ lk T 4 = .ptr 1 0 ∧ lk T 10 = .d (.sl (g.map Inc.d)) ∧ lk T 11 = .d (.i .i64 (g.length : Nat)) ∧ lk T 12 = .d (.i .i64 (i : Nat)) ∧
      ∃ J, H = .box (.d (.agg Mp.zero.cs)) :: .box (.d (.agg (mapAt (g.take i)).cs)) :: J)
    (fun e T H => e = .exit 0 ∧ lk T 2 = .ptr 0 0 ∧ lk T 4 = .ptr 1 0 ∧ ∃ J, H = .box (.d (.agg Mp.zero.cs)) :: .box (.d (.agg (mapAt g).cs)) :: J) g.length ?_ ?_ g.length 0 _ _ (by omega) ⟨rfl, rfl, rfl, rfl, rfl, [], rfl⟩) ?_
  · rintro i T H hi ⟨h2, h4, h10, h11, h12, J, rfl⟩
    obtain ⟨x, hx⟩ : ∃ x, g[i]? = some x := ⟨g[i]'hi, List.getElem?_eq_getElem _⟩
    have hxd := list_idx Inc.d hx
    have hap := apply_at (mapAt (g.take i)) x (hok x (List.mem_of_getElem? hx))
    have hgood := goodI_take hg (i + 1)
    rw [take_succ' hx] at hgood
    rw [apply_good hgood, ← take_succ' hx] at hap
    have hd : decide ((i : Int) < ((g.length : Nat) : Int)) = true := by simp; omega
    have hw : IntKind.i64.wrap ((i : Int) + 1) = ((i + 1 : Nat) : Int) := wi64 (by omega)
    have b0 : (0 ≤ (i : Int)) = True := by simp
    have hz : (DV.agg [.i .u8 0, .i .u8 0, .i .i64 0]) = .agg (Inc.mk 0 0 0).cs := rfl
    simp (config := {decide := true}) only [K_maps_Fold_0, l_maps_Fold_0, h2, h4, h10, h11, h12, hxd, hap, hd, hw, b0, hz, Pk.EVL, keepT, enum, ↓reduceIte, ev, act, appT, callee, toDs, toD, loadA, storeA, subA, subD, updA, Eff.on, resA, resVs, resV, lk, finish, frzR, frzVs, frzV, fznR, fzns, fzn, lts, lt, ltO, List.all, pairsOk, indep, reduceCtorEq, Nat.reduceEqDiff, Nat.reduceAdd, Nat.reduceLeDiff, stb, thaws, List.drop, intOfA, binD, binI, unD, mmL, buildA, mkAgg, allD, behind, behind0, takeAt, frzAs, frzA, adoptR, adopt, isD, isD0, trim, List.take, binS, sliceA, bnd, zOk, elems, Nat.reduceBNe, inpl, Nat.reduceLT, Nat.reduceBEq, Nat.reduceSub, Nat.reduceMul, Int.reduceLT, Int.reduceLE, Int.reduceEq, Int.reduceToNat, Int.reduceNeg, thaw, nodup, refsV, adopts, Pk.TY_Mp, Pk.TY_Inc]
    exact ⟨_, _, _, rfl, .inl ⟨rfl, rfl, rfl, rfl, rfl, rfl, _, rfl⟩⟩
  · rintro T H ⟨h2, h4, h10, h11, h12, J, rfl⟩
    have hd : decide (((g.length : Nat) : Int) < ((g.length : Nat) : Int)) = false := by simp
    rw [List.take_length]
    simp (config := {decide := true}) only [K_maps_Fold_0, l_maps_Fold_0, h2, h4, h10, h11, h12, hd, Pk.EVL, keepT, enum, ↓reduceIte, ev, act, appT, callee, toDs, toD, loadA, storeA, subA, subD, updA, Eff.on, resA, resVs, resV, lk, finish, frzR, frzVs, frzV, fznR, fzns, fzn, lts, lt, ltO, List.all, pairsOk, indep, reduceCtorEq, Nat.reduceEqDiff, Nat.reduceAdd, Nat.reduceLeDiff, stb, thaws, List.drop, intOfA, binD, binI, unD, mmL, buildA, mkAgg, allD, behind, behind0, takeAt, frzAs, frzA, adoptR, adopt, isD, isD0, trim, List.take, binS, sliceA, bnd, zOk, elems, Nat.reduceBNe, inpl, Nat.reduceLT, Nat.reduceBEq, Nat.reduceSub, Nat.reduceMul, Int.reduceLT, Int.reduceLE, Int.reduceEq, Int.reduceToNat, Int.reduceNeg, thaw, nodup, refsV, adopts, Pk.TY_Mp, Pk.TY_Inc]
    exact ⟨_, _, _, rfl, by simp, rfl, rfl, rfl, [], rfl⟩
  rintro e T H ⟨rfl, h2, h4, J, rfl⟩
  simp (config := {decide := true}) only [h2, h4, Pk.EVL, keepT, enum, ↓reduceIte, ev, act, appT, callee, toDs, toD, loadA, storeA, subA, subD, updA, Eff.on, resA, resVs, resV, lk, finish, frzR, frzVs, frzV, fznR, fzns, fzn, lts, lt, ltO, List.all, pairsOk, indep, reduceCtorEq, Nat.reduceEqDiff, Nat.reduceAdd, Nat.reduceLeDiff, stb, thaws, List.drop, intOfA, binD, binI, unD, mmL, buildA, mkAgg, allD, behind, behind0, takeAt, frzAs, frzA, adoptR, adopt, isD, isD0, trim, List.take, binS, sliceA, bnd, zOk, elems, Nat.reduceBNe, inpl, Nat.reduceLT, Nat.reduceBEq, Nat.reduceSub, Nat.reduceMul, Int.reduceLT, Int.reduceLE, Int.reduceEq, Int.reduceToNat, Int.reduceNeg, thaw, nodup, refsV, adopts, Pk.TY_Mp, Pk.TY_Inc]
/-- What is taken of a row of increments, each coming as the next one. -/
def takeN (g : List Inc) (x : Inc) : List Inc := (addL g ((g.length : Int) + 2) x).1
def codeN (g : List Inc) (x : Inc) : Int := (addL g ((g.length : Int) + 2) x).2
def takeAll (l : List Inc) : List Inc := l.foldl takeN []
theorem takeAll_snoc (l : List Inc) (x : Inc) : takeAll (l ++ [x]) = takeN (takeAll l) x := by unfold takeAll; rw [List.foldl_append]; rfl
theorem addL_next (g : List Inc) (x : Inc) : addL g ((g.length : Int) + 2) x = if isInc x = true ∧ g.length < 59 then (g ++ [x], 0) else (g, 40) := by
  unfold addL
  rw [if_neg (by omega), if_neg (by omega)]
theorem takeAll_good {l : List Inc} (h : ∀ x ∈ l, x.ok) : goodI (takeAll l) := by
  revert h
  refine snoc_ind (M := fun l => (∀ x ∈ l, x.ok) → goodI (takeAll l)) (fun _ => good_nil) ?_ l
  intro l x ih h
  rw [takeAll_snoc]
  exact addL_good (ih fun y hy => h y (by simp [hy])) (h x (by simp))
theorem takeAll_mem {l : List Inc} : ∀ x ∈ takeAll l, x ∈ l := by
  refine snoc_ind (M := fun l => ∀ x ∈ takeAll l, x ∈ l) (fun x hx => by simp [takeAll] at hx) ?_ l
  intro l y ih x hx
  rw [takeAll_snoc] at hx
  unfold takeN at hx
  rw [addL_next] at hx
  split at hx
  · rcases List.mem_append.1 hx with hx | hx
    · exact List.mem_append.2 (.inl (ih x hx))
    · exact List.mem_append.2 (.inr hx)
  · exact List.mem_append.2 (.inl (ih x hx))
theorem takeAll_len (l : List Inc) : (takeAll l).length ≤ l.length := by
  refine snoc_ind (M := fun l => (takeAll l).length ≤ l.length) (by simp [takeAll]) ?_ l
  intro l x ih
  rw [takeAll_snoc]
  unfold takeN
  rw [addL_next]
  split <;> simp <;> omega
end Go.Proofs.Ytckaebcljcpobaa
