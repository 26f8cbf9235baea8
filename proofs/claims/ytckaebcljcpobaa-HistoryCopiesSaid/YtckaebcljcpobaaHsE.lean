/- A new history; an increment added. -/
import Derived.Test.YtckaebcljcpobaaHsD
set_option linter.all false
namespace Go.Proofs.Ytckaebcljcpobaa
open Pv Go Pk
set_option maxRecDepth 10000
set_option maxHeartbeats 4000000
/-- Objects behind P. -/
def hr (P L : Heap) : Heap := P ++ L
section
variable {P : Heap} {p : Nat} (hP : P.length = p)
include hP in
theorem hr_at (L : Heap) (i : Nat) : (hr P L)[p + i]? = L[i]? := by
  unfold hr
  rw [List.getElem?_append_right (by omega)]
  congr 1
  omega
include hP in
theorem hr_at0 (L : Heap) : (hr P L)[p]? = L[0]? := hr_at hP L 0
include hP in
theorem hr_set (L : Heap) (i : Nat) (y : Ob) : (hr P L).set (p + i) y = hr P (L.set i y) := by
  unfold hr
  rw [List.set_append_right _ _ (by omega), show p + i - P.length = i by omega]
include hP in
theorem hr_set0 (L : Heap) (y : Ob) : (hr P L).set p y = hr P (L.set 0 y) := hr_set hP L 0 y
include hP in
theorem hr_len (L : Heap) : (hr P L).length = p + L.length := by
  unfold hr
  rw [List.length_append, hP]
theorem hr_push (L Z : Heap) : hr P L ++ Z = hr P (L ++ Z) := by simp [hr]
include hP in
theorem hr_take (L : Heap) (i : Nat) : List.take (p + i) (hr P L) = hr P (L.take i) := by
  unfold hr
  rw [List.take_append, List.take_of_length_le (by omega), show p + i - P.length = i by omega]
theorem hr_all (f : Ob → Bool) (L : Heap) : (hr P L).all f = (P.all f && L.all f) := by
  unfold hr
  rw [List.all_append]
end
def grb0 : Grb := { g0 := .box (.d (.agg firstM.cs)), g1 := .arr [Itv.d ⟨1, actI firstM 0⟩] true, g2 := .arr [Itv.d ⟨1, actI firstM 1⟩] true, g3 := .arr [Itv.d ⟨1, actI firstM 2⟩] true, g4 := .arr [Itv.d ⟨1, actI firstM 3⟩] true, w0 := true, w1 := true, w2 := true, w3 := true }
theorem grb0_ok (n : Nat) : grb0.ok n := ⟨rfl, rfl, rfl, rfl, rfl⟩
theorem lays_new {P : Heap} {p : Nat} (hP : P.length = p) : evF C F_history_History_lays [.ptr (p + 2) 0, .d (.agg firstM.cs)] (hr P [.map .u32 [], .map .u32 [], .box (.agg [.mp p, .mp (p + 1), .d (.i .u32 0), .nilS, .nilS, .nilS, .nilS])]) = some (.tup [], hq P (hobs p hs0 grb0) []) := by
  have g := hr_at hP
  have g0 := hr_at0 hP
  have st := hr_set hP
  have st0 := hr_set0 hP
  have ln := hr_len hP
  have tk := hr_take hP
  have A0 := acting_ev firstM 0
  have A1 := acting_ev firstM 1
  have A2 := acting_ev firstM 2
  have A3 := acting_ev firstM 3
  have u0 : IntKind.u8.wrap 0 = 0 := by decide
  have u1 : IntKind.u8.wrap 1 = 1 := by decide
  have u2 : IntKind.u8.wrap 2 = 2 := by decide
  have u3 : IntKind.u8.wrap 3 = 3 := by decide
  have i1 : IntKind.i64.wrap 1 = 1 := by decide
  have i0' : IntKind.i64.wrap (0 + 1) = 1 := by decide
  have i1' : IntKind.i64.wrap (1 + 1) = 2 := by decide
  have i2' : IntKind.i64.wrap (2 + 1) = 3 := by decide
  have i3' : IntKind.i64.wrap (3 + 1) = 4 := by decide
  have zU : ∀ v : Int, upd Itv.zeroA 0 [.d (.i .u32 v)] = [.d (.i .u32 v), .nilS] := fun _ => rfl
  have zV : ∀ x y z : AV, upd [x, y] 1 [z] = [x, z] := fun _ _ _ => rfl
  have hf : firstM.epoch = 1 := rfl
  have l1 : (1 ≤ LIM) = True := eq_true (by decide)
  have e0 : ((0 : Int) == 0) = true := rfl
  rw [evF_code (rfl : C F_history_History_lays = some a_history_History_lays) _ _ rfl]
  simp (config := {decide := true}) only [c_history_History_lays, g, g0, st, st0, ln, tk, hr_push, hr_all, setM, thaws, Pk.EVL, keepT, enum, ↓reduceIte, ev, act, appT, callee, toDs, toD, loadA, storeA, subA, subD, updA, Eff.on, resA, resVs, resV, lk, finish, frzR, frzVs, frzV, fznR, fzns, fzn, lts, lt, ltO, List.all, pairsOk, indep, reduceCtorEq, Nat.reduceEqDiff, Nat.reduceAdd, Nat.reduceLeDiff, stb, thaws, List.drop, intOfA, binD, binI, unD, mmL, buildA, mkAgg, allD, bslD, behind, behind0, takeAt, frzAs, frzA, adoptR, adopt, isD, isD0, trim, List.take, binS, sliceA, bnd, zOk, elems, Nat.reduceBNe, inpl, Nat.reduceLT, Nat.reduceBEq, Nat.reduceSub, Nat.reduceMul, Int.reduceLT, Int.reduceLE, Int.reduceEq, Int.reduceToNat, Int.reduceNeg, thaw, nodup, refsV, adopts, Pk.TY_Mp]
  rw [evL_eq]
  simp (config := {decide := true}) only [K_history_History_lays_0, l_history_History_lays_0, g, g0, st, st0, ln, tk, hr_push, hr_all, A0, A1, A2, A3, u0, u1, u2, u3, i1, i0', i1', i2', i3', zU, zV, hf, l1, e0, ite_self, againL_exit, Nat.add_lt_add_iff_left, List.all_append, Pk.EVL, keepT, enum, ↓reduceIte, ev, act, appT, callee, toDs, toD, loadA, storeA, subA, subD, updA, Eff.on, resA, resVs, resV, lk, finish, frzR, frzVs, frzV, fznR, fzns, fzn, lts, lt, ltO, List.all, pairsOk, indep, reduceCtorEq, Nat.reduceEqDiff, Nat.reduceAdd, Nat.reduceLeDiff, stb, thaws, List.drop, intOfA, binD, binI, unD, mmL, buildA, mkAgg, allD, bslD, behind, behind0, takeAt, frzAs, frzA, adoptR, adopt, isD, isD0, trim, List.take, binS, sliceA, bnd, zOk, elems, Nat.reduceBNe, inpl, Nat.reduceLT, Nat.reduceBEq, Nat.reduceSub, Nat.reduceMul, Int.reduceLT, Int.reduceLE, Int.reduceEq, Int.reduceToNat, Int.reduceNeg, thaw, nodup, refsV, adopts, Pk.TY_Mp, Pk.TY_Itv]
  rw [evL_eq]
  simp (config := {decide := true}) only [K_history_History_lays_0, l_history_History_lays_0, g, g0, st, st0, ln, tk, hr_push, hr_all, A0, A1, A2, A3, u0, u1, u2, u3, i1, i0', i1', i2', i3', zU, zV, hf, l1, e0, ite_self, againL_exit, Nat.add_lt_add_iff_left, List.all_append, Pk.EVL, keepT, enum, ↓reduceIte, ev, act, appT, callee, toDs, toD, loadA, storeA, subA, subD, updA, Eff.on, resA, resVs, resV, lk, finish, frzR, frzVs, frzV, fznR, fzns, fzn, lts, lt, ltO, List.all, pairsOk, indep, reduceCtorEq, Nat.reduceEqDiff, Nat.reduceAdd, Nat.reduceLeDiff, stb, thaws, List.drop, intOfA, binD, binI, unD, mmL, buildA, mkAgg, allD, bslD, behind, behind0, takeAt, frzAs, frzA, adoptR, adopt, isD, isD0, trim, List.take, binS, sliceA, bnd, zOk, elems, Nat.reduceBNe, inpl, Nat.reduceLT, Nat.reduceBEq, Nat.reduceSub, Nat.reduceMul, Int.reduceLT, Int.reduceLE, Int.reduceEq, Int.reduceToNat, Int.reduceNeg, thaw, nodup, refsV, adopts, Pk.TY_Mp, Pk.TY_Itv]
  rw [evL_eq]
  simp (config := {decide := true}) only [K_history_History_lays_0, l_history_History_lays_0, g, g0, st, st0, ln, tk, hr_push, hr_all, A0, A1, A2, A3, u0, u1, u2, u3, i1, i0', i1', i2', i3', zU, zV, hf, l1, e0, ite_self, againL_exit, Nat.add_lt_add_iff_left, List.all_append, Pk.EVL, keepT, enum, ↓reduceIte, ev, act, appT, callee, toDs, toD, loadA, storeA, subA, subD, updA, Eff.on, resA, resVs, resV, lk, finish, frzR, frzVs, frzV, fznR, fzns, fzn, lts, lt, ltO, List.all, pairsOk, indep, reduceCtorEq, Nat.reduceEqDiff, Nat.reduceAdd, Nat.reduceLeDiff, stb, thaws, List.drop, intOfA, binD, binI, unD, mmL, buildA, mkAgg, allD, bslD, behind, behind0, takeAt, frzAs, frzA, adoptR, adopt, isD, isD0, trim, List.take, binS, sliceA, bnd, zOk, elems, Nat.reduceBNe, inpl, Nat.reduceLT, Nat.reduceBEq, Nat.reduceSub, Nat.reduceMul, Int.reduceLT, Int.reduceLE, Int.reduceEq, Int.reduceToNat, Int.reduceNeg, thaw, nodup, refsV, adopts, Pk.TY_Mp, Pk.TY_Itv]
  rw [evL_eq]
  simp (config := {decide := true}) only [K_history_History_lays_0, l_history_History_lays_0, g, g0, st, st0, ln, tk, hr_push, hr_all, A0, A1, A2, A3, u0, u1, u2, u3, i1, i0', i1', i2', i3', zU, zV, hf, l1, e0, ite_self, againL_exit, Nat.add_lt_add_iff_left, List.all_append, Pk.EVL, keepT, enum, ↓reduceIte, ev, act, appT, callee, toDs, toD, loadA, storeA, subA, subD, updA, Eff.on, resA, resVs, resV, lk, finish, frzR, frzVs, frzV, fznR, fzns, fzn, lts, lt, ltO, List.all, pairsOk, indep, reduceCtorEq, Nat.reduceEqDiff, Nat.reduceAdd, Nat.reduceLeDiff, stb, thaws, List.drop, intOfA, binD, binI, unD, mmL, buildA, mkAgg, allD, bslD, behind, behind0, takeAt, frzAs, frzA, adoptR, adopt, isD, isD0, trim, List.take, binS, sliceA, bnd, zOk, elems, Nat.reduceBNe, inpl, Nat.reduceLT, Nat.reduceBEq, Nat.reduceSub, Nat.reduceMul, Int.reduceLT, Int.reduceLE, Int.reduceEq, Int.reduceToNat, Int.reduceNeg, thaw, nodup, refsV, adopts, Pk.TY_Mp, Pk.TY_Itv]
  rw [evL_eq]
  simp (config := {decide := true}) only [K_history_History_lays_0, l_history_History_lays_0, g, g0, st, st0, ln, tk, hr_push, hr_all, A0, A1, A2, A3, u0, u1, u2, u3, i1, i0', i1', i2', i3', zU, zV, hf, l1, e0, ite_self, againL_exit, Nat.add_lt_add_iff_left, List.all_append, Pk.EVL, keepT, enum, ↓reduceIte, ev, act, appT, callee, toDs, toD, loadA, storeA, subA, subD, updA, Eff.on, resA, resVs, resV, lk, finish, frzR, frzVs, frzV, fznR, fzns, fzn, lts, lt, ltO, List.all, pairsOk, indep, reduceCtorEq, Nat.reduceEqDiff, Nat.reduceAdd, Nat.reduceLeDiff, stb, thaws, List.drop, intOfA, binD, binI, unD, mmL, buildA, mkAgg, allD, bslD, behind, behind0, takeAt, frzAs, frzA, adoptR, adopt, isD, isD0, trim, List.take, binS, sliceA, bnd, zOk, elems, Nat.reduceBNe, inpl, Nat.reduceLT, Nat.reduceBEq, Nat.reduceSub, Nat.reduceMul, Int.reduceLT, Int.reduceLE, Int.reduceEq, Int.reduceToNat, Int.reduceNeg, thaw, nodup, refsV, adopts, Pk.TY_Mp, Pk.TY_Itv]
  rfl
end Go.Proofs.Ytckaebcljcpobaa
