/- Maps as lists of daemons; none moves of itself. / Package maps: which maps and increments may be; the next map; the first; the fold. / Rows of whole numbers compared; where a history lies. -/
import Derived.Test.YtmiionadkdfbdaaPlaceD
set_option linter.all false
namespace Go.Proofs.Ytmiionadkdfbdaa
open Pv Go
set_option maxRecDepth 10000
set_option maxHeartbeats 1000000
def osL (m : Pk.Mp) : List Osd := [⟨m.osds.a0.up, m.osds.a0.weight, m.osds.a0.host⟩, ⟨m.osds.a1.up, m.osds.a1.weight, m.osds.a1.host⟩, ⟨m.osds.a2.up, m.osds.a2.weight, m.osds.a2.host⟩, ⟨m.osds.a3.up, m.osds.a3.weight, m.osds.a3.host⟩, ⟨m.osds.a4.up, m.osds.a4.weight, m.osds.a4.host⟩]
end Go.Proofs.Ytmiionadkdfbdaa

namespace Go.Proofs.Ytmiionadkdfbdaa
open Pv Go Pk
set_option maxRecDepth 10000
set_option maxHeartbeats 2000000
def isMp (m : Mp) : Bool := isM m.epoch (osL m)
def isInc (x : Inc) : Bool :=
  if ((x.kind == 1) || (x.kind == 2)) = true then decide (x.osd < 5) && decide (x = ⟨x.kind, x.osd, 0⟩)
  else if (x.kind == 3) = true then decide (x.osd < 5) && (decide (x.n ≥ 0) && decide (x.n ≤ 16)) else decide (x = ⟨4, 0, 0⟩)
def nextM (m : Mp) (x : Inc) : Mp :=
  { epoch := m.epoch + 1
    osds := if (x.kind == 1) = true then m.osds.set x.osd.toNat { (m.osds.get x.osd.toNat) with up := true }
      else if (x.kind == 2) = true then m.osds.set x.osd.toNat { (m.osds.get x.osd.toNat) with up := false }
      else if (x.kind == 3) = true then m.osds.set x.osd.toNat { (m.osds.get x.osd.toNat) with weight := x.n } else m.osds }
def nextOf (m : Mp) (x : Inc) : Mp × Int := if (isMp m && (isInc x && !(m.epoch == 60))) = true then (nextM m x, 0) else (Mp.zero, 40)
def firstM : Mp := ⟨1, ⟨⟨true, 8, 0⟩, ⟨true, 8, 1⟩, ⟨true, 8, 2⟩, ⟨true, 8, 3⟩, ⟨true, 8, 0⟩⟩⟩
theorem mfirst_at : evF C F_maps_First [] [] = some (.d (.agg firstM.cs), []) := by
  rw [evF_code (rfl : C F_maps_First = some a_maps_First) _ _ rfl]
  simp (config := {decide := true}) only [c_maps_First, Pk.EVL, keepT, enum, ↓reduceIte, ev, act, appT, appW, callee, toDs, toD, loadA, storeA, subA, subD, updA, Eff.on, resA, resVs, resV, lk, finish, frzR, frzVs, frzV, fznR, fzns, fzn, lts, lt, ltO, List.all, pairsOk, indep, reduceCtorEq, Nat.reduceEqDiff, Nat.reduceAdd, Nat.reduceLeDiff, stb, thaws, List.drop, intOfA, binD, binI, unD, mmL, buildA, mkAgg, allD, bslD, behind, behind0, takeAt, frzAs, frzA, adoptR, adopt, isD, isD0, trim, List.take, binS, sliceA, bnd, zOk, elems, Nat.reduceBNe, inpl, Nat.reduceLT, Nat.reduceBEq, Nat.reduceSub, Nat.reduceMul, Int.reduceLT, Int.reduceLE, Int.reduceEq, Int.reduceToNat, Int.reduceNeg, thaw, nodup, refsV, adopts, Pk.TY_Mp]
  simp only [Option.bind_assoc]
  refine bind_run (loop_run (fun i T H => lk T 0 = .ptr 0 0 ∧ lk T 1 = .ptr 1 0 ∧ lk T 4 = .d (.i .i64 (i : Nat)) ∧
      H = [.box (.d (.agg Mp.zero.cs)), .box (.d (.agg (Mp.cs ⟨1, ⟨if 0 < i then firstM.osds.a0 else ⟨false, 0, 0⟩, if 1 < i then firstM.osds.a1 else ⟨false, 0, 0⟩, if 2 < i then firstM.osds.a2 else ⟨false, 0, 0⟩, if 3 < i then firstM.osds.a3 else ⟨false, 0, 0⟩, if 4 < i then firstM.osds.a4 else ⟨false, 0, 0⟩⟩⟩)))])
    (fun e T H => e = .exit 0 ∧ lk T 0 = .ptr 0 0 ∧ lk T 1 = .ptr 1 0 ∧ H = [.box (.d (.agg Mp.zero.cs)), .box (.d (.agg firstM.cs))]) 5 ?_ ?_ 5 0 _ _ (by omega) ⟨rfl, rfl, rfl, rfl⟩) ?_
  · rintro i T H hi ⟨h0, h1, h4, rfl⟩
    obtain rfl | rfl | rfl | rfl | rfl : i = 0 ∨ i = 1 ∨ i = 2 ∨ i = 3 ∨ i = 4 := by omega
    all_goals
      simp (config := {decide := true}) only [K_maps_First_0, l_maps_First_0, h0, h1, h4, Pk.EVL, keepT, enum, ↓reduceIte, ev, act, appT, appW, callee, toDs, toD, loadA, storeA, subA, subD, updA, Eff.on, resA, resVs, resV, lk, finish, frzR, frzVs, frzV, fznR, fzns, fzn, lts, lt, ltO, List.all, pairsOk, indep, reduceCtorEq, Nat.reduceEqDiff, Nat.reduceAdd, Nat.reduceLeDiff, stb, thaws, List.drop, intOfA, binD, binI, unD, mmL, buildA, mkAgg, allD, bslD, behind, behind0, takeAt, frzAs, frzA, adoptR, adopt, isD, isD0, trim, List.take, binS, sliceA, bnd, zOk, elems, Nat.reduceBNe, inpl, Nat.reduceLT, Nat.reduceBEq, Nat.reduceSub, Nat.reduceMul, Int.reduceLT, Int.reduceLE, Int.reduceEq, Int.reduceToNat, Int.reduceNeg, thaw, nodup, refsV, adopts, Pk.TY_Mp, Pk.TY_Osd]
      exact ⟨_, _, _, rfl, .inl ⟨rfl, rfl, rfl, rfl, rfl⟩⟩
  · rintro T H ⟨h0, h1, h4, rfl⟩
    simp (config := {decide := true}) only [K_maps_First_0, l_maps_First_0, h0, h1, h4, Pk.EVL, keepT, enum, ↓reduceIte, ev, act, appT, appW, callee, toDs, toD, loadA, storeA, subA, subD, updA, Eff.on, resA, resVs, resV, lk, finish, frzR, frzVs, frzV, fznR, fzns, fzn, lts, lt, ltO, List.all, pairsOk, indep, reduceCtorEq, Nat.reduceEqDiff, Nat.reduceAdd, Nat.reduceLeDiff, stb, thaws, List.drop, intOfA, binD, binI, unD, mmL, buildA, mkAgg, allD, bslD, behind, behind0, takeAt, frzAs, frzA, adoptR, adopt, isD, isD0, trim, List.take, binS, sliceA, bnd, zOk, elems, Nat.reduceBNe, inpl, Nat.reduceLT, Nat.reduceBEq, Nat.reduceSub, Nat.reduceMul, Int.reduceLT, Int.reduceLE, Int.reduceEq, Int.reduceToNat, Int.reduceNeg, thaw, nodup, refsV, adopts, Pk.TY_Mp, Pk.TY_Osd]
    exact ⟨_, _, _, rfl, by simp, rfl, rfl, rfl, rfl⟩
  rintro e T H ⟨rfl, h0, h1, rfl⟩
  simp (config := {decide := true}) only [h0, h1, Pk.EVL, keepT, enum, ↓reduceIte, ev, act, appT, appW, callee, toDs, toD, loadA, storeA, subA, subD, updA, Eff.on, resA, resVs, resV, lk, finish, frzR, frzVs, frzV, fznR, fzns, fzn, lts, lt, ltO, List.all, pairsOk, indep, reduceCtorEq, Nat.reduceEqDiff, Nat.reduceAdd, Nat.reduceLeDiff, stb, thaws, List.drop, intOfA, binD, binI, unD, mmL, buildA, mkAgg, allD, bslD, behind, behind0, takeAt, frzAs, frzA, adoptR, adopt, isD, isD0, trim, List.take, binS, sliceA, bnd, zOk, elems, Nat.reduceBNe, inpl, Nat.reduceLT, Nat.reduceBEq, Nat.reduceSub, Nat.reduceMul, Int.reduceLT, Int.reduceLE, Int.reduceEq, Int.reduceToNat, Int.reduceNeg, thaw, nodup, refsV, adopts, Pk.TY_Mp]
end Go.Proofs.Ytmiionadkdfbdaa

namespace Go.Proofs.Ytmiionadkdfbdaa
open Pv Go Pk
set_option maxRecDepth 10000
set_option maxHeartbeats 2000000
/-- The objects of a history: twelve, behind P; Y behind them. -/
def hq (P L Y : Heap) : Heap := P ++ (L ++ Y)
section
variable {P S : Heap} {p n : Nat} (hP : P.length = p) (hn : p + 12 + S.length = n)
include hP in
theorem hq_at (L Y : Heap) (i : Nat) : (hq P L Y)[p + i]? = (L ++ Y)[i]? := by
  unfold hq
  rw [List.getElem?_append_right (by omega)]
  congr 1
  omega
include hP in
theorem hq_set (L Y : Heap) (i : Nat) (y : Ob) (h : i < L.length) : (hq P L Y).set (p + i) y = hq P (L.set i y) Y := by
  unfold hq
  rw [List.set_append_right _ _ (by omega), show p + i - P.length = i by omega, List.set_append_left _ _ h]
include hP hn in
theorem hq_len (a0 a1 a2 a3 a4 a5 a6 a7 a8 a9 a10 a11 : Ob) (X : Heap) : (hq P [a0, a1, a2, a3, a4, a5, a6, a7, a8, a9, a10, a11] (S ++ X)).length = n + X.length := by
  unfold hq
  simp only [List.length_append, List.length_cons, List.length_nil]
  omega
theorem hq_push (L X Z : Heap) : hq P L (S ++ X) ++ Z = hq P L (S ++ (X ++ Z)) := by simp [hq]
theorem hq_push0 (L Z : Heap) : hq P L S ++ Z = hq P L (S ++ Z) := by simp [hq]
include hP hn in
theorem hq_tmp (a0 a1 a2 a3 a4 a5 a6 a7 a8 a9 a10 a11 : Ob) (X : Heap) (j : Nat) : (hq P [a0, a1, a2, a3, a4, a5, a6, a7, a8, a9, a10, a11] (S ++ X))[n + j]? = X[j]? := by
  rw [show n + j = p + (12 + S.length + j) by omega, hq_at hP, List.getElem?_append_right (by simp; omega), List.getElem?_append_right (by simp; omega)]
  congr 1
  simp
  omega
include hP hn in
theorem hq_tset (a0 a1 a2 a3 a4 a5 a6 a7 a8 a9 a10 a11 : Ob) (X : Heap) (j : Nat) (y : Ob) : (hq P [a0, a1, a2, a3, a4, a5, a6, a7, a8, a9, a10, a11] (S ++ X)).set (n + j) y = hq P [a0, a1, a2, a3, a4, a5, a6, a7, a8, a9, a10, a11] (S ++ X.set j y) := by
  unfold hq
  rw [List.set_append_right _ _ (by omega), List.set_append_right _ _ (by simp; omega), List.set_append_right _ _ (by simp; omega)]
  congr 4
  simp
  omega
include hP hn in
theorem hq_take (a0 a1 a2 a3 a4 a5 a6 a7 a8 a9 a10 a11 : Ob) (X : Heap) : List.take n (hq P [a0, a1, a2, a3, a4, a5, a6, a7, a8, a9, a10, a11] (S ++ X)) = hq P [a0, a1, a2, a3, a4, a5, a6, a7, a8, a9, a10, a11] S := by
  unfold hq
  rw [← List.append_assoc, ← List.append_assoc, List.take_left' (by simp; omega)]
  simp
include hP hn in
theorem hq_len0 (a0 a1 a2 a3 a4 a5 a6 a7 a8 a9 a10 a11 : Ob) : (hq P [a0, a1, a2, a3, a4, a5, a6, a7, a8, a9, a10, a11] S).length = n := by
  have := hq_len hP hn a0 a1 a2 a3 a4 a5 a6 a7 a8 a9 a10 a11 []
  simpa using this
include hP hn in
theorem hq_take0 (a0 a1 a2 a3 a4 a5 a6 a7 a8 a9 a10 a11 : Ob) : List.take n (hq P [a0, a1, a2, a3, a4, a5, a6, a7, a8, a9, a10, a11] S) = hq P [a0, a1, a2, a3, a4, a5, a6, a7, a8, a9, a10, a11] S := by
  have := hq_take hP hn a0 a1 a2 a3 a4 a5 a6 a7 a8 a9 a10 a11 []
  simpa using this
theorem hq_all0 (f : Ob → Bool) (L : Heap) : (hq P L S).all f = (P.all f && (L.all f && S.all f)) := by
  unfold hq
  simp only [List.all_append]
theorem hq_all (f : Ob → Bool) (L X : Heap) : (hq P L (S ++ X)).all f = (P.all f && (L.all f && (S.all f && X.all f))) := by
  unfold hq
  simp only [List.all_append]
include hP in
theorem hq_rules : (∀ (L Y : Heap), (hq P L Y)[p]? = (L ++ Y)[0]?) ∧ (∀ (L Y : Heap), (hq P L Y)[p + 1]? = (L ++ Y)[1]?) ∧ (∀ (L Y : Heap), (hq P L Y)[p + 2]? = (L ++ Y)[2]?) ∧ (∀ (L Y : Heap), (hq P L Y)[p + 5]? = (L ++ Y)[5]?) ∧
    (∀ (L Y : Heap), (hq P L Y)[p + 7]? = (L ++ Y)[7]?) ∧ (∀ (L Y : Heap), (hq P L Y)[p + 9]? = (L ++ Y)[9]?) ∧ (∀ (L Y : Heap), (hq P L Y)[p + 11]? = (L ++ Y)[11]?) :=
  ⟨fun L Y => hq_at hP L Y 0, fun L Y => hq_at hP L Y 1, fun L Y => hq_at hP L Y 2, fun L Y => hq_at hP L Y 5, fun L Y => hq_at hP L Y 7, fun L Y => hq_at hP L Y 9, fun L Y => hq_at hP L Y 11⟩
include hP in
theorem hq_sets : (∀ (a0 a1 a2 a3 a4 a5 a6 a7 a8 a9 a10 a11 : Ob) (Y : Heap) (y : Ob), (hq P [a0, a1, a2, a3, a4, a5, a6, a7, a8, a9, a10, a11] Y).set (p) y = hq P [y, a1, a2, a3, a4, a5, a6, a7, a8, a9, a10, a11] Y) ∧
    (∀ (a0 a1 a2 a3 a4 a5 a6 a7 a8 a9 a10 a11 : Ob) (Y : Heap) (y : Ob), (hq P [a0, a1, a2, a3, a4, a5, a6, a7, a8, a9, a10, a11] Y).set (p + 1) y = hq P [a0, y, a2, a3, a4, a5, a6, a7, a8, a9, a10, a11] Y) ∧
    (∀ (a0 a1 a2 a3 a4 a5 a6 a7 a8 a9 a10 a11 : Ob) (Y : Heap) (y : Ob), (hq P [a0, a1, a2, a3, a4, a5, a6, a7, a8, a9, a10, a11] Y).set (p + 2) y = hq P [a0, a1, y, a3, a4, a5, a6, a7, a8, a9, a10, a11] Y) ∧
    (∀ (a0 a1 a2 a3 a4 a5 a6 a7 a8 a9 a10 a11 : Ob) (Y : Heap) (y : Ob), (hq P [a0, a1, a2, a3, a4, a5, a6, a7, a8, a9, a10, a11] Y).set (p + 5) y = hq P [a0, a1, a2, a3, a4, y, a6, a7, a8, a9, a10, a11] Y) ∧
    (∀ (a0 a1 a2 a3 a4 a5 a6 a7 a8 a9 a10 a11 : Ob) (Y : Heap) (y : Ob), (hq P [a0, a1, a2, a3, a4, a5, a6, a7, a8, a9, a10, a11] Y).set (p + 7) y = hq P [a0, a1, a2, a3, a4, a5, a6, y, a8, a9, a10, a11] Y) ∧
    (∀ (a0 a1 a2 a3 a4 a5 a6 a7 a8 a9 a10 a11 : Ob) (Y : Heap) (y : Ob), (hq P [a0, a1, a2, a3, a4, a5, a6, a7, a8, a9, a10, a11] Y).set (p + 9) y = hq P [a0, a1, a2, a3, a4, a5, a6, a7, a8, y, a10, a11] Y) ∧
    (∀ (a0 a1 a2 a3 a4 a5 a6 a7 a8 a9 a10 a11 : Ob) (Y : Heap) (y : Ob), (hq P [a0, a1, a2, a3, a4, a5, a6, a7, a8, a9, a10, a11] Y).set (p + 11) y = hq P [a0, a1, a2, a3, a4, a5, a6, a7, a8, a9, a10, y] Y) :=
  ⟨fun _ _ _ _ _ _ _ _ _ _ _ _ Y y => hq_set hP _ Y 0 y (by simp), fun _ _ _ _ _ _ _ _ _ _ _ _ Y y => hq_set hP _ Y 1 y (by simp), fun _ _ _ _ _ _ _ _ _ _ _ _ Y y => hq_set hP _ Y 2 y (by simp), fun _ _ _ _ _ _ _ _ _ _ _ _ Y y => hq_set hP _ Y 5 y (by simp), fun _ _ _ _ _ _ _ _ _ _ _ _ Y y => hq_set hP _ Y 7 y (by simp), fun _ _ _ _ _ _ _ _ _ _ _ _ Y y => hq_set hP _ Y 9 y (by simp), fun _ _ _ _ _ _ _ _ _ _ _ _ Y y => hq_set hP _ Y 11 y (by simp)⟩
include hP hn in
theorem hq_tmps : (∀ (a0 a1 a2 a3 a4 a5 a6 a7 a8 a9 a10 a11 : Ob) (X : Heap), (hq P [a0, a1, a2, a3, a4, a5, a6, a7, a8, a9, a10, a11] (S ++ X))[n]? = X[0]?) ∧ (∀ (a0 a1 a2 a3 a4 a5 a6 a7 a8 a9 a10 a11 : Ob) (X : Heap), (hq P [a0, a1, a2, a3, a4, a5, a6, a7, a8, a9, a10, a11] (S ++ X))[n + 1]? = X[1]?) ∧ (∀ (a0 a1 a2 a3 a4 a5 a6 a7 a8 a9 a10 a11 : Ob) (X : Heap), (hq P [a0, a1, a2, a3, a4, a5, a6, a7, a8, a9, a10, a11] (S ++ X))[n + 2]? = X[2]?) ∧ (∀ (a0 a1 a2 a3 a4 a5 a6 a7 a8 a9 a10 a11 : Ob) (X : Heap), (hq P [a0, a1, a2, a3, a4, a5, a6, a7, a8, a9, a10, a11] (S ++ X))[n + 3]? = X[3]?) ∧
    (∀ (a0 a1 a2 a3 a4 a5 a6 a7 a8 a9 a10 a11 : Ob) (X : Heap) (y : Ob), (hq P [a0, a1, a2, a3, a4, a5, a6, a7, a8, a9, a10, a11] (S ++ X)).set n y = hq P [a0, a1, a2, a3, a4, a5, a6, a7, a8, a9, a10, a11] (S ++ X.set 0 y)) ∧ (∀ (a0 a1 a2 a3 a4 a5 a6 a7 a8 a9 a10 a11 : Ob) (X : Heap) (y : Ob), (hq P [a0, a1, a2, a3, a4, a5, a6, a7, a8, a9, a10, a11] (S ++ X)).set (n + 1) y = hq P [a0, a1, a2, a3, a4, a5, a6, a7, a8, a9, a10, a11] (S ++ X.set 1 y)) ∧ (∀ (a0 a1 a2 a3 a4 a5 a6 a7 a8 a9 a10 a11 : Ob) (X : Heap) (y : Ob), (hq P [a0, a1, a2, a3, a4, a5, a6, a7, a8, a9, a10, a11] (S ++ X)).set (n + 2) y = hq P [a0, a1, a2, a3, a4, a5, a6, a7, a8, a9, a10, a11] (S ++ X.set 2 y)) :=
  ⟨fun _ _ _ _ _ _ _ _ _ _ _ _ X => hq_tmp hP hn _ _ _ _ _ _ _ _ _ _ _ _ X 0, fun _ _ _ _ _ _ _ _ _ _ _ _ X => hq_tmp hP hn _ _ _ _ _ _ _ _ _ _ _ _ X 1, fun _ _ _ _ _ _ _ _ _ _ _ _ X => hq_tmp hP hn _ _ _ _ _ _ _ _ _ _ _ _ X 2, fun _ _ _ _ _ _ _ _ _ _ _ _ X => hq_tmp hP hn _ _ _ _ _ _ _ _ _ _ _ _ X 3,
   fun _ _ _ _ _ _ _ _ _ _ _ _ X y => hq_tset hP hn _ _ _ _ _ _ _ _ _ _ _ _ X 0 y, fun _ _ _ _ _ _ _ _ _ _ _ _ X y => hq_tset hP hn _ _ _ _ _ _ _ _ _ _ _ _ X 1 y, fun _ _ _ _ _ _ _ _ _ _ _ _ X y => hq_tset hP hn _ _ _ _ _ _ _ _ _ _ _ _ X 2 y⟩
end
end Go.Proofs.Ytmiionadkdfbdaa
