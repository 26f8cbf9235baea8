/- Maps as lists of daemons; none moves of itself. / Package maps: which maps and increments may be; the next map; the first; the fold. / Rows of whole numbers compared; where a history lies. / Who was heard: a daemon among them; an interval that may have served and of which nobody was heard. -/
import Derived.Test.YthlpognahlnaaaaGreatPlaceD
import Derived.Test.YthlpognahlnaaaaGreatPkEvd
set_option linter.all false
namespace Go.Proofs.YthlpognahlnaaaaGreat
open Pv Go
set_option maxRecDepth 10000
set_option maxHeartbeats 1000000
def osL (m : Pk.Mp) : List Osd := [⟨m.osds.a0.up, m.osds.a0.weight, m.osds.a0.host⟩, ⟨m.osds.a1.up, m.osds.a1.weight, m.osds.a1.host⟩, ⟨m.osds.a2.up, m.osds.a2.weight, m.osds.a2.host⟩, ⟨m.osds.a3.up, m.osds.a3.weight, m.osds.a3.host⟩, ⟨m.osds.a4.up, m.osds.a4.weight, m.osds.a4.host⟩]
end Go.Proofs.YthlpognahlnaaaaGreat

namespace Go.Proofs.YthlpognahlnaaaaGreat
open Pv Go Pk
set_option maxRecDepth 10000
set_option maxHeartbeats 2000000
def isMp (m : Mp) : Bool := isM m.epoch (osL m)
def isInc (x : Inc) : Bool :=
  if ((x.kind == 1) || (x.kind == 2)) = true then decide (x.osd < 5) && decide (x = ⟨x.kind, x.osd, 0⟩)
  else if (x.kind == 3) = true then decide (x.osd < 5) && (decide (x.n ≥ 0) && decide (x.n ≤ 16)) else decide (x = ⟨4, 0, 0⟩)
def nextM (m : Mp) (x : Inc) : Mp :=
  { epoch := m.epoch + 1
    osds := if (x.kind == 1) = true then m.osds.set x.osd.toNat { (m.osds.get x.osd.toNat) with up := true }
      else if (x.kind == 2) = true then m.osds.set x.osd.toNat { (m.osds.get x.osd.toNat) with up := false }
      else if (x.kind == 3) = true then m.osds.set x.osd.toNat { (m.osds.get x.osd.toNat) with weight := x.n } else m.osds }
def nextOf (m : Mp) (x : Inc) : Mp × Int := if (isMp m && (isInc x && !(m.epoch == 60))) = true then (nextM m x, 0) else (Mp.zero, 40)
def firstM : Mp := ⟨1, ⟨⟨true, 8, 0⟩, ⟨true, 8, 1⟩, ⟨true, 8, 2⟩, ⟨true, 8, 3⟩, ⟨true, 8, 0⟩⟩⟩
theorem mfirst_at : evF C F_q0v [] [] = some (.d (.agg firstM.cs), []) := by
  rw [evF_code (rfl : C F_q0v = some a_q0v) _ _ rfl]
  simp +decide only [c_q0v, Pk.EVL, Pk.EVD, ↓reduceIte, reduceCtorEq, Nat.reduceEqDiff, Nat.reduceAdd, Nat.reduceLeDiff, Nat.reduceBNe, Nat.reduceLT, Nat.reduceBEq, Nat.reduceSub, Nat.reduceMul, Int.reduceLT, Int.reduceLE, Int.reduceEq, Int.reduceToNat, Int.reduceNeg, Pk.TY_Mp]
  simp only [Option.bind_assoc]
  refine bind_run (loop_run (fun i T H => lk T 0 = .ptr 0 0 ∧ lk T 1 = .ptr 1 0 ∧ lk T 4 = .d (.i .i64 (i : Nat)) ∧
      H = [.box (.d (.agg Mp.zero.cs)), .box (.d (.agg (Mp.cs ⟨1, ⟨if 0 < i then firstM.osds.a0 else ⟨false, 0, 0⟩, if 1 < i then firstM.osds.a1 else ⟨false, 0, 0⟩, if 2 < i then firstM.osds.a2 else ⟨false, 0, 0⟩, if 3 < i then firstM.osds.a3 else ⟨false, 0, 0⟩, if 4 < i then firstM.osds.a4 else ⟨false, 0, 0⟩⟩⟩)))])
    (fun e T H => e = .exit 0 ∧ lk T 0 = .ptr 0 0 ∧ lk T 1 = .ptr 1 0 ∧ H = [.box (.d (.agg Mp.zero.cs)), .box (.d (.agg firstM.cs))]) 5 ?_ ?_ 5 0 _ _ (by omega) ⟨rfl, rfl, rfl, rfl⟩) ?_
  · rintro i T H hi ⟨h0, h1, h4, rfl⟩
    obtain rfl | rfl | rfl | rfl | rfl : i = 0 ∨ i = 1 ∨ i = 2 ∨ i = 3 ∨ i = 4 := by omega
    all_goals
      simp +decide only [K_q0v_0, l_q0v_0, h0, h1, h4, Pk.EVL, Pk.EVD, ↓reduceIte, reduceCtorEq, Nat.reduceEqDiff, Nat.reduceAdd, Nat.reduceLeDiff, Nat.reduceBNe, Nat.reduceLT, Nat.reduceBEq, Nat.reduceSub, Nat.reduceMul, Int.reduceLT, Int.reduceLE, Int.reduceEq, Int.reduceToNat, Int.reduceNeg, Pk.TY_Mp, Pk.TY_Osd]
      exact ⟨_, _, _, rfl, .inl ⟨rfl, rfl, rfl, rfl, rfl⟩⟩
  · rintro T H ⟨h0, h1, h4, rfl⟩
    simp +decide only [K_q0v_0, l_q0v_0, h0, h1, h4, Pk.EVL, Pk.EVD, ↓reduceIte, reduceCtorEq, Nat.reduceEqDiff, Nat.reduceAdd, Nat.reduceLeDiff, Nat.reduceBNe, Nat.reduceLT, Nat.reduceBEq, Nat.reduceSub, Nat.reduceMul, Int.reduceLT, Int.reduceLE, Int.reduceEq, Int.reduceToNat, Int.reduceNeg, Pk.TY_Mp, Pk.TY_Osd]
    exact ⟨_, _, _, rfl, by simp, rfl, rfl, rfl, rfl⟩
  rintro e T H ⟨rfl, h0, h1, rfl⟩
  simp +decide only [h0, h1, Pk.EVL, Pk.EVD, ↓reduceIte, reduceCtorEq, Nat.reduceEqDiff, Nat.reduceAdd, Nat.reduceLeDiff, Nat.reduceBNe, Nat.reduceLT, Nat.reduceBEq, Nat.reduceSub, Nat.reduceMul, Int.reduceLT, Int.reduceLE, Int.reduceEq, Int.reduceToNat, Int.reduceNeg, Pk.TY_Mp]
end Go.Proofs.YthlpognahlnaaaaGreat

namespace Go.Proofs.YthlpognahlnaaaaGreat
open Pv Go Pk
set_option maxRecDepth 10000
set_option maxHeartbeats 2000000
/-- The objects of a history: twelve, behind P; Y behind them. -/
def hq (P L Y : Heap) : Heap := P ++ (L ++ Y)
section
variable {P S : Heap} {p n : Nat} (hP : P.length = p) (hn : p + 12 + S.length = n)
include hP in
theorem hq_at (L Y : Heap) (i : Nat) : (hq P L Y)[p + i]? = (L ++ Y)[i]? := by
 unfold hq
 rw [List.getElem?_append_right (by omega)]
 congr 1
 omega
include hP in
theorem hq_set (L Y : Heap) (i : Nat) (y : Ob) (h : i < L.length) : (hq P L Y).set (p + i) y = hq P (L.set i y) Y := by
 unfold hq
 rw [List.set_append_right _ _ (by omega), show p + i - P.length = i by omega, List.set_append_left _ _ h]
include hP hn in
theorem hq_len (a0 a1 a2 a3 a4 a5 a6 a7 a8 a9 a10 a11 : Ob) (X : Heap) : (hq P [a0, a1, a2, a3, a4, a5, a6, a7, a8, a9, a10, a11] (S ++ X)).length = n + X.length := by
 unfold hq
 simp only [List.length_append, List.length_cons, List.length_nil]
 omega
theorem hq_push (L X Z : Heap) : hq P L (S ++ X) ++ Z = hq P L (S ++ (X ++ Z)) := by simp [hq]
theorem hq_push0 (L Z : Heap) : hq P L S ++ Z = hq P L (S ++ Z) := by simp [hq]
include hP hn in
theorem hq_tmp (a0 a1 a2 a3 a4 a5 a6 a7 a8 a9 a10 a11 : Ob) (X : Heap) (j : Nat) : (hq P [a0, a1, a2, a3, a4, a5, a6, a7, a8, a9, a10, a11] (S ++ X))[n + j]? = X[j]? := by
 rw [show n + j = p + (12 + S.length + j) by omega, hq_at hP, List.getElem?_append_right (by simp; omega), List.getElem?_append_right (by simp; omega)]
 congr 1
 simp
 omega
include hP hn in
theorem hq_tset (a0 a1 a2 a3 a4 a5 a6 a7 a8 a9 a10 a11 : Ob) (X : Heap) (j : Nat) (y : Ob) : (hq P [a0, a1, a2, a3, a4, a5, a6, a7, a8, a9, a10, a11] (S ++ X)).set (n + j) y = hq P [a0, a1, a2, a3, a4, a5, a6, a7, a8, a9, a10, a11] (S ++ X.set j y) := by
 unfold hq
 rw [List.set_append_right _ _ (by omega), List.set_append_right _ _ (by simp; omega), List.set_append_right _ _ (by simp; omega)]
 congr 4
 simp
 omega
include hP hn in
theorem hq_take (a0 a1 a2 a3 a4 a5 a6 a7 a8 a9 a10 a11 : Ob) (X : Heap) : List.take n (hq P [a0, a1, a2, a3, a4, a5, a6, a7, a8, a9, a10, a11] (S ++ X)) = hq P [a0, a1, a2, a3, a4, a5, a6, a7, a8, a9, a10, a11] S := by
 unfold hq
 rw [← List.append_assoc, ← List.append_assoc, List.take_left' (by simp; omega)]
 simp
include hP hn in
theorem hq_len0 (a0 a1 a2 a3 a4 a5 a6 a7 a8 a9 a10 a11 : Ob) : (hq P [a0, a1, a2, a3, a4, a5, a6, a7, a8, a9, a10, a11] S).length = n := by
 have := hq_len hP hn a0 a1 a2 a3 a4 a5 a6 a7 a8 a9 a10 a11 []
 simpa using this
include hP hn in
theorem hq_take0 (a0 a1 a2 a3 a4 a5 a6 a7 a8 a9 a10 a11 : Ob) : List.take n (hq P [a0, a1, a2, a3, a4, a5, a6, a7, a8, a9, a10, a11] S) = hq P [a0, a1, a2, a3, a4, a5, a6, a7, a8, a9, a10, a11] S := by
 have := hq_take hP hn a0 a1 a2 a3 a4 a5 a6 a7 a8 a9 a10 a11 []
 simpa using this
theorem hq_all0 (f : Ob → Bool) (L : Heap) : (hq P L S).all f = (P.all f && (L.all f && S.all f)) := by
 unfold hq
 simp only [List.all_append]
theorem hq_all (f : Ob → Bool) (L X : Heap) : (hq P L (S ++ X)).all f = (P.all f && (L.all f && (S.all f && X.all f))) := by
 unfold hq
 simp only [List.all_append]
include hP in
theorem hq_rules : (∀ (L Y : Heap), (hq P L Y)[p]? = (L ++ Y)[0]?) ∧ (∀ (L Y : Heap), (hq P L Y)[p + 1]? = (L ++ Y)[1]?) ∧ (∀ (L Y : Heap), (hq P L Y)[p + 2]? = (L ++ Y)[2]?) ∧ (∀ (L Y : Heap), (hq P L Y)[p + 5]? = (L ++ Y)[5]?) ∧
  (∀ (L Y : Heap), (hq P L Y)[p + 7]? = (L ++ Y)[7]?) ∧ (∀ (L Y : Heap), (hq P L Y)[p + 9]? = (L ++ Y)[9]?) ∧ (∀ (L Y : Heap), (hq P L Y)[p + 11]? = (L ++ Y)[11]?) :=
 ⟨fun L Y => hq_at hP L Y 0, fun L Y => hq_at hP L Y 1, fun L Y => hq_at hP L Y 2, fun L Y => hq_at hP L Y 5, fun L Y => hq_at hP L Y 7, fun L Y => hq_at hP L Y 9, fun L Y => hq_at hP L Y 11⟩
include hP in
theorem hq_sets : (∀ (a0 a1 a2 a3 a4 a5 a6 a7 a8 a9 a10 a11 : Ob) (Y : Heap) (y : Ob), (hq P [a0, a1, a2, a3, a4, a5, a6, a7, a8, a9, a10, a11] Y).set (p) y = hq P [y, a1, a2, a3, a4, a5, a6, a7, a8, a9, a10, a11] Y) ∧
  (∀ (a0 a1 a2 a3 a4 a5 a6 a7 a8 a9 a10 a11 : Ob) (Y : Heap) (y : Ob), (hq P [a0, a1, a2, a3, a4, a5, a6, a7, a8, a9, a10, a11] Y).set (p + 1) y = hq P [a0, y, a2, a3, a4, a5, a6, a7, a8, a9, a10, a11] Y) ∧
  (∀ (a0 a1 a2 a3 a4 a5 a6 a7 a8 a9 a10 a11 : Ob) (Y : Heap) (y : Ob), (hq P [a0, a1, a2, a3, a4, a5, a6, a7, a8, a9, a10, a11] Y).set (p + 2) y = hq P [a0, a1, y, a3, a4, a5, a6, a7, a8, a9, a10, a11] Y) ∧
  (∀ (a0 a1 a2 a3 a4 a5 a6 a7 a8 a9 a10 a11 : Ob) (Y : Heap) (y : Ob), (hq P [a0, a1, a2, a3, a4, a5, a6, a7, a8, a9, a10, a11] Y).set (p + 5) y = hq P [a0, a1, a2, a3, a4, y, a6, a7, a8, a9, a10, a11] Y) ∧
  (∀ (a0 a1 a2 a3 a4 a5 a6 a7 a8 a9 a10 a11 : Ob) (Y : Heap) (y : Ob), (hq P [a0, a1, a2, a3, a4, a5, a6, a7, a8, a9, a10, a11] Y).set (p + 7) y = hq P [a0, a1, a2, a3, a4, a5, a6, y, a8, a9, a10, a11] Y) ∧
  (∀ (a0 a1 a2 a3 a4 a5 a6 a7 a8 a9 a10 a11 : Ob) (Y : Heap) (y : Ob), (hq P [a0, a1, a2, a3, a4, a5, a6, a7, a8, a9, a10, a11] Y).set (p + 9) y = hq P [a0, a1, a2, a3, a4, a5, a6, a7, a8, y, a10, a11] Y) ∧
  (∀ (a0 a1 a2 a3 a4 a5 a6 a7 a8 a9 a10 a11 : Ob) (Y : Heap) (y : Ob), (hq P [a0, a1, a2, a3, a4, a5, a6, a7, a8, a9, a10, a11] Y).set (p + 11) y = hq P [a0, a1, a2, a3, a4, a5, a6, a7, a8, a9, a10, y] Y) :=
 ⟨fun _ _ _ _ _ _ _ _ _ _ _ _ Y y => hq_set hP _ Y 0 y (by simp), fun _ _ _ _ _ _ _ _ _ _ _ _ Y y => hq_set hP _ Y 1 y (by simp), fun _ _ _ _ _ _ _ _ _ _ _ _ Y y => hq_set hP _ Y 2 y (by simp), fun _ _ _ _ _ _ _ _ _ _ _ _ Y y => hq_set hP _ Y 5 y (by simp), fun _ _ _ _ _ _ _ _ _ _ _ _ Y y => hq_set hP _ Y 7 y (by simp), fun _ _ _ _ _ _ _ _ _ _ _ _ Y y => hq_set hP _ Y 9 y (by simp), fun _ _ _ _ _ _ _ _ _ _ _ _ Y y => hq_set hP _ Y 11 y (by simp)⟩
include hP hn in
theorem hq_tmps : (∀ (a0 a1 a2 a3 a4 a5 a6 a7 a8 a9 a10 a11 : Ob) (X : Heap), (hq P [a0, a1, a2, a3, a4, a5, a6, a7, a8, a9, a10, a11] (S ++ X))[n]? = X[0]?) ∧ (∀ (a0 a1 a2 a3 a4 a5 a6 a7 a8 a9 a10 a11 : Ob) (X : Heap), (hq P [a0, a1, a2, a3, a4, a5, a6, a7, a8, a9, a10, a11] (S ++ X))[n + 1]? = X[1]?) ∧ (∀ (a0 a1 a2 a3 a4 a5 a6 a7 a8 a9 a10 a11 : Ob) (X : Heap), (hq P [a0, a1, a2, a3, a4, a5, a6, a7, a8, a9, a10, a11] (S ++ X))[n + 2]? = X[2]?) ∧ (∀ (a0 a1 a2 a3 a4 a5 a6 a7 a8 a9 a10 a11 : Ob) (X : Heap), (hq P [a0, a1, a2, a3, a4, a5, a6, a7, a8, a9, a10, a11] (S ++ X))[n + 3]? = X[3]?) ∧
  (∀ (a0 a1 a2 a3 a4 a5 a6 a7 a8 a9 a10 a11 : Ob) (X : Heap) (y : Ob), (hq P [a0, a1, a2, a3, a4, a5, a6, a7, a8, a9, a10, a11] (S ++ X)).set n y = hq P [a0, a1, a2, a3, a4, a5, a6, a7, a8, a9, a10, a11] (S ++ X.set 0 y)) ∧ (∀ (a0 a1 a2 a3 a4 a5 a6 a7 a8 a9 a10 a11 : Ob) (X : Heap) (y : Ob), (hq P [a0, a1, a2, a3, a4, a5, a6, a7, a8, a9, a10, a11] (S ++ X)).set (n + 1) y = hq P [a0, a1, a2, a3, a4, a5, a6, a7, a8, a9, a10, a11] (S ++ X.set 1 y)) ∧ (∀ (a0 a1 a2 a3 a4 a5 a6 a7 a8 a9 a10 a11 : Ob) (X : Heap) (y : Ob), (hq P [a0, a1, a2, a3, a4, a5, a6, a7, a8, a9, a10, a11] (S ++ X)).set (n + 2) y = hq P [a0, a1, a2, a3, a4, a5, a6, a7, a8, a9, a10, a11] (S ++ X.set 2 y)) :=
 ⟨fun _ _ _ _ _ _ _ _ _ _ _ _ X => hq_tmp hP hn _ _ _ _ _ _ _ _ _ _ _ _ X 0, fun _ _ _ _ _ _ _ _ _ _ _ _ X => hq_tmp hP hn _ _ _ _ _ _ _ _ _ _ _ _ X 1, fun _ _ _ _ _ _ _ _ _ _ _ _ X => hq_tmp hP hn _ _ _ _ _ _ _ _ _ _ _ _ X 2, fun _ _ _ _ _ _ _ _ _ _ _ _ X => hq_tmp hP hn _ _ _ _ _ _ _ _ _ _ _ _ X 3,
  fun _ _ _ _ _ _ _ _ _ _ _ _ X y => hq_tset hP hn _ _ _ _ _ _ _ _ _ _ _ _ X 0 y, fun _ _ _ _ _ _ _ _ _ _ _ _ X y => hq_tset hP hn _ _ _ _ _ _ _ _ _ _ _ _ X 1 y, fun _ _ _ _ _ _ _ _ _ _ _ _ X y => hq_tset hP hn _ _ _ _ _ _ _ _ _ _ _ _ X 2 y⟩
end
end Go.Proofs.YthlpognahlnaaaaGreat

namespace Go.Proofs.YthlpognahlnaaaaGreat
open Pv Go Pk
set_option maxRecDepth 10000
set_option maxHeartbeats 2000000
def intsD (A : List Int) : List DV := A.map fun x => .i .i64 x
/-- The place of the first one of which it holds. -/
def ixI (pr : Int → Bool) : List Int → Nat → Int
 | [], _ => -1
 | x :: r, i => if pr x then (i : Int) else ixI pr r (i + 1)
theorem ixI_any (pr : Int → Bool) : ∀ (A : List Int) (i : Nat), decide (ixI pr A i ≥ 0) = A.any pr
 | [], _ => rfl
 | x :: r, i => by
  rw [List.any_cons]
  unfold ixI
  cases h : pr x with
  | true => simp
  | false => simpa using ixI_any pr r (i + 1)
theorem ixI_drop {pr : Int → Bool} {A : List Int} {i : Nat} {y : Int} (hy : A[i]? = some y) : ixI pr (A.drop i) i = if pr y then (i : Int) else ixI pr (A.drop (i + 1)) (i + 1) := by
 have hi := (List.getElem?_eq_some_iff.1 hy).1
 rw [List.drop_eq_getElem_cons hi, (List.getElem?_eq_some_iff.1 hy).2]
 rfl
theorem index_at (A : List Int) (x : Int) (hA : A.length ≤ 1000) : evF C F_q4d [.d (.sl (A.map fun x => .i .i64 x)), .d (.i .i64 x)] [] = some (.d (.i .i64 (ixI (fun y => decide (x = y)) A 0)), []) := by
 have hl : (A.map fun x : Int => DV.i .i64 x).length = A.length := List.length_map _
 rw [evF_code (rfl : C F_q4d = some a_q4d) _ _ rfl]
 simp +decide only [c_q4d, hl, thaws, Pk.EVL, Pk.EVD, ↓reduceIte, reduceCtorEq, Nat.reduceEqDiff, Nat.reduceAdd, Nat.reduceLeDiff, Nat.reduceBNe, Nat.reduceLT, Nat.reduceBEq, Nat.reduceSub, Nat.reduceMul, Int.reduceLT, Int.reduceLE, Int.reduceEq, Int.reduceToNat, Int.reduceNeg]
 simp only [Option.bind_assoc]
 refine bind_run (loop_run (fun i T H => lk T 0 = .d (.sl (A.map fun x => .i .i64 x)) ∧ lk T 1 = .d (.i .i64 x) ∧ lk T 7 = .d (.i .i64 (A.length : Nat)) ∧ lk T 8 = .d (.i .i64 (i : Nat)) ∧ H = [] ∧ ixI (fun y => decide (x = y)) (A.drop i) i = ixI (fun y => decide (x = y)) A 0)
  (fun e T H => H = [] ∧ ((e = .exit 0 ∧ ixI (fun y => decide (x = y)) A 0 = -1) ∨ (e = .ret ∧ lk T 4 = .d (.i .i64 (ixI (fun y => decide (x = y)) A 0))))) A.length ?_ ?_ A.length 0 _ _ (by omega) ⟨rfl, rfl, rfl, rfl, rfl, rfl⟩) ?_
 ·rintro i T H hi ⟨h0, h1, h7, h8, rfl, hni⟩
  obtain ⟨y, hy⟩ : ∃ y, A[i]? = some y := ⟨A[i]'hi, List.getElem?_eq_getElem _⟩
  have hyd := list_idx (fun x : Int => DV.i .i64 x) hy
  rw [ixI_drop hy] at hni
  have hd : decide ((i : Int) < ((A.length : Nat) : Int)) = true := by simp; omega
  have hw : IntKind.i64.wrap ((i : Int) + 1) = ((i + 1 : Nat) : Int) := wi64 (by omega)
  have b0 : (0 ≤ (i : Int)) = True := by simp
  by_cases c : x = y
  ·have hc : (x == y) = true := by simp [c]
   rw [if_pos (by simp [c])] at hni
   rw [← hni]
   simp +decide only [K_q4d_0, l_q4d_0, h0, h1, h7, h8, hyd, hd, hw, b0, hc, Pk.EVL, Pk.EVD, ↓reduceIte, reduceCtorEq, Nat.reduceEqDiff, Nat.reduceAdd, Nat.reduceLeDiff, Nat.reduceBNe, Nat.reduceLT, Nat.reduceBEq, Nat.reduceSub, Nat.reduceMul, Int.reduceLT, Int.reduceLE, Int.reduceEq, Int.reduceToNat, Int.reduceNeg]
   exact ⟨_, _, _, rfl, .inr ⟨by simp, rfl, rfl, rfl⟩⟩
  ·have hc : (x == y) = false := by simp [c]
   rw [if_neg (by simp [c])] at hni
   simp +decide only [K_q4d_0, l_q4d_0, h0, h1, h7, h8, hyd, hd, hw, b0, hc, Pk.EVL, Pk.EVD, ↓reduceIte, reduceCtorEq, Nat.reduceEqDiff, Nat.reduceAdd, Nat.reduceLeDiff, Nat.reduceBNe, Nat.reduceLT, Nat.reduceBEq, Nat.reduceSub, Nat.reduceMul, Int.reduceLT, Int.reduceLE, Int.reduceEq, Int.reduceToNat, Int.reduceNeg]
   exact ⟨_, _, _, rfl, .inl ⟨rfl, rfl, rfl, rfl, rfl, rfl, hni⟩⟩
 ·rintro T H ⟨h0, h1, h7, h8, rfl, hni⟩
  rw [List.drop_length] at hni
  have hd : decide (((A.length : Nat) : Int) < ((A.length : Nat) : Int)) = false := by simp
  simp +decide only [K_q4d_0, l_q4d_0, h0, h1, h7, h8, hd, Pk.EVL, Pk.EVD, ↓reduceIte, reduceCtorEq, Nat.reduceEqDiff, Nat.reduceAdd, Nat.reduceLeDiff, Nat.reduceBNe, Nat.reduceLT, Nat.reduceBEq, Nat.reduceSub, Nat.reduceMul, Int.reduceLT, Int.reduceLE, Int.reduceEq, Int.reduceToNat, Int.reduceNeg]
  exact ⟨_, _, _, rfl, by simp, rfl, .inl ⟨rfl, hni.symm⟩⟩
 rintro e T H ⟨rfl, ⟨rfl, h⟩ | ⟨rfl, h4⟩⟩
 ·simp +decide only [h, Pk.EVL, Pk.EVD, ↓reduceIte, reduceCtorEq, Nat.reduceEqDiff, Nat.reduceAdd, Nat.reduceLeDiff, Nat.reduceBNe, Nat.reduceLT, Nat.reduceBEq, Nat.reduceSub, Nat.reduceMul, Int.reduceLT, Int.reduceLE, Int.reduceEq, Int.reduceToNat, Int.reduceNeg]
 ·simp +decide only [h4, Pk.EVL, Pk.EVD, ↓reduceIte, reduceCtorEq, Nat.reduceEqDiff, Nat.reduceAdd, Nat.reduceLeDiff, Nat.reduceBNe, Nat.reduceLT, Nat.reduceBEq, Nat.reduceSub, Nat.reduceMul, Int.reduceLT, Int.reduceLE, Int.reduceEq, Int.reduceToNat, Int.reduceNeg]
theorem contains_at (A : List Int) (x : Int) (hA : A.length ≤ 1000) : evF C F_q45 [.d (.sl (A.map fun x => .i .i64 x)), .d (.i .i64 x)] [] = some (.d (.b (decide (x ∈ A))), []) := by
 have hev := index_at A x hA
 have hj := ixI_any (fun y => decide (x = y)) A 0
 have hany : (A.any fun y => decide (x = y)) = decide (x ∈ A) := by
  rw [Bool.eq_iff_iff]
  simp
 rw [hany] at hj
 rw [evF_code (rfl : C F_q45 = some a_q45) _ _ rfl]
 simp +decide only [c_q45, hev, hj, Pk.EVL, Pk.EVD, ↓reduceIte, reduceCtorEq, Nat.reduceEqDiff, Nat.reduceAdd, Nat.reduceLeDiff, Nat.reduceBNe, Nat.reduceLT, Nat.reduceBEq, Nat.reduceSub, Nat.reduceMul, Int.reduceLT, Int.reduceLE, Int.reduceEq, Int.reduceToNat, Int.reduceNeg]
def earD (A : List Int) (st : Int) : List DV := [.sl (A.map fun x => .i .i64 x), .i .u32 st]
theorem hears_at (A : List Int) (st x : Int) (hA : A.length ≤ 1000) : evF C F_q0b [.d (.agg (earD A st)), .d (.i .i64 x)] [] = some (.d (.b (decide (x ∈ A))), []) := by
 have hc := contains_at A x hA
 rw [evF_code (rfl : C F_q0b = some a_q0b) _ _ rfl]
 simp +decide only [c_q0b, earD, hc, Pk.EVL, Pk.EVD, ↓reduceIte, reduceCtorEq, Nat.reduceEqDiff, Nat.reduceAdd, Nat.reduceLeDiff, Nat.reduceBNe, Nat.reduceLT, Nat.reduceBEq, Nat.reduceSub, Nat.reduceMul, Int.reduceLT, Int.reduceLE, Int.reduceEq, Int.reduceToNat, Int.reduceNeg]
/-- slices.ContainsFunc over whole numbers, of a function that bears data, among whatever objects. -/
theorem cfunc_at (F : FuncId) (e : DV) (pr : Int → Bool) (B : List Int) (hB : B.length ≤ 1000) (hcall : ∀ x ∈ B, evF C F [.d e, .d (.i .i64 x)] [] = some (.d (.b (pr x)), [])) (H : Heap) :
  evF C F_q44 [.d (.sl (B.map fun x => .i .i64 x)), .fn F [.d e] []] H = some (.d (.b (B.any pr)), H) := by
 have hidx : evF C F_q4c [.d (.sl (B.map fun x => .i .i64 x)), .fn F [.d e] []] H = some (.d (.i .i64 (ixI pr B 0)), H) := by
  have hl : (B.map fun x : Int => DV.i .i64 x).length = B.length := List.length_map _
  rw [evF_code (rfl : C F_q4c = some a_q4c) _ _ rfl]
  simp +decide only [c_q4c, hl, thaws, Pk.EVL, Pk.EVD, ↓reduceIte, reduceCtorEq, Nat.reduceEqDiff, Nat.reduceAdd, Nat.reduceLeDiff, Nat.reduceBNe, Nat.reduceLT, Nat.reduceBEq, Nat.reduceSub, Nat.reduceMul, Int.reduceLT, Int.reduceLE, Int.reduceEq, Int.reduceToNat, Int.reduceNeg]
  simp only [Option.bind_assoc]
  refine bind_run (loop_run (fun i T G => lk T 0 = .d (.sl (B.map fun x => .i .i64 x)) ∧ lk T 1 = .fn F [.d e] [] ∧ lk T 7 = .d (.i .i64 (B.length : Nat)) ∧ lk T 8 = .d (.i .i64 (i : Nat)) ∧ G = H ∧ ixI pr (B.drop i) i = ixI pr B 0)
   (fun x T G => G = H ∧ ((x = .exit 0 ∧ ixI pr B 0 = -1) ∨ (x = .ret ∧ lk T 4 = .d (.i .i64 (ixI pr B 0))))) B.length ?_ ?_ B.length 0 _ _ (by omega) ⟨rfl, rfl, rfl, rfl, rfl, rfl⟩) ?_
  ·rintro i T G hi ⟨h0, h1, h7, h8, rfl, hni⟩
   obtain ⟨y, hy⟩ : ∃ y, B[i]? = some y := ⟨B[i]'hi, List.getElem?_eq_getElem _⟩
   have hyd := list_idx (fun x : Int => DV.i .i64 x) hy
   have hcl := hcall y (List.mem_of_getElem? hy)
   rw [ixI_drop hy] at hni
   have hd : decide ((i : Int) < ((B.length : Nat) : Int)) = true := by simp; omega
   have hw : IntKind.i64.wrap ((i : Int) + 1) = ((i + 1 : Nat) : Int) := wi64 (by omega)
   have b0 : (0 ≤ (i : Int)) = True := by simp
   cases c : pr y with
   | true =>
    rw [c] at hcl
    rw [if_pos c] at hni
    rw [← hni]
    simp +decide only [K_q4c_0, l_q4c_0, h0, h1, h7, h8, hyd, hcl, hd, hw, b0, ite_self, List.take_length, Pk.EVL, Pk.EVD, ↓reduceIte, reduceCtorEq, Nat.reduceEqDiff, Nat.reduceAdd, Nat.reduceLeDiff, Nat.reduceBNe, Nat.reduceLT, Nat.reduceBEq, Nat.reduceSub, Nat.reduceMul, Int.reduceLT, Int.reduceLE, Int.reduceEq, Int.reduceToNat, Int.reduceNeg]
    exact ⟨_, _, _, rfl, .inr ⟨by simp, rfl, rfl, rfl⟩⟩
   | false =>
    rw [c] at hcl
    rw [if_neg (by simp [c])] at hni
    simp +decide only [K_q4c_0, l_q4c_0, h0, h1, h7, h8, hyd, hcl, hd, hw, b0, ite_self, List.take_length, Pk.EVL, Pk.EVD, ↓reduceIte, reduceCtorEq, Nat.reduceEqDiff, Nat.reduceAdd, Nat.reduceLeDiff, Nat.reduceBNe, Nat.reduceLT, Nat.reduceBEq, Nat.reduceSub, Nat.reduceMul, Int.reduceLT, Int.reduceLE, Int.reduceEq, Int.reduceToNat, Int.reduceNeg]
    exact ⟨_, _, _, rfl, .inl ⟨rfl, rfl, rfl, rfl, rfl, rfl, hni⟩⟩
  ·rintro T G ⟨h0, h1, h7, h8, rfl, hni⟩
   rw [List.drop_length] at hni
   have hd : decide (((B.length : Nat) : Int) < ((B.length : Nat) : Int)) = false := by simp
   simp +decide only [K_q4c_0, l_q4c_0, h0, h1, h7, h8, hd, ite_self, List.take_length, Pk.EVL, Pk.EVD, ↓reduceIte, reduceCtorEq, Nat.reduceEqDiff, Nat.reduceAdd, Nat.reduceLeDiff, Nat.reduceBNe, Nat.reduceLT, Nat.reduceBEq, Nat.reduceSub, Nat.reduceMul, Int.reduceLT, Int.reduceLE, Int.reduceEq, Int.reduceToNat, Int.reduceNeg]
   exact ⟨_, _, _, rfl, by simp, rfl, .inl ⟨rfl, hni.symm⟩⟩
  rintro x T G ⟨rfl, ⟨rfl, h⟩ | ⟨rfl, h4⟩⟩
  ·simp +decide only [h, ite_self, List.take_length, Pk.EVL, Pk.EVD, ↓reduceIte, reduceCtorEq, Nat.reduceEqDiff, Nat.reduceAdd, Nat.reduceLeDiff, Nat.reduceBNe, Nat.reduceLT, Nat.reduceBEq, Nat.reduceSub, Nat.reduceMul, Int.reduceLT, Int.reduceLE, Int.reduceEq, Int.reduceToNat, Int.reduceNeg]
  ·simp +decide only [h4, ite_self, List.take_length, Pk.EVL, Pk.EVD, ↓reduceIte, reduceCtorEq, Nat.reduceEqDiff, Nat.reduceAdd, Nat.reduceLeDiff, Nat.reduceBNe, Nat.reduceLT, Nat.reduceBEq, Nat.reduceSub, Nat.reduceMul, Int.reduceLT, Int.reduceLE, Int.reduceEq, Int.reduceToNat, Int.reduceNeg]
 have hj := ixI_any pr B 0
 rw [evF_code (rfl : C F_q44 = some a_q44) _ _ rfl]
 simp +decide only [c_q44, hidx, hj, ite_self, List.take_length, Nat.le_refl, Pk.EVL, Pk.EVD, ↓reduceIte, reduceCtorEq, Nat.reduceEqDiff, Nat.reduceAdd, Nat.reduceLeDiff, Nat.reduceBNe, Nat.reduceLT, Nat.reduceBEq, Nat.reduceSub, Nat.reduceMul, Int.reduceLT, Int.reduceLE, Int.reduceEq, Int.reduceToNat, Int.reduceNeg]
def missB (A : List Int) (st : Int) (x : Itv) : Bool := decide (x.acting.length ≥ 2) && (decide (x.since ≥ st) && !(x.acting.any fun y => decide (y ∈ A)))
theorem misses_at (A : List Int) (st : Int) (x : Itv) (hA : A.length ≤ 1000) (hx : x.acting.length ≤ 1000) : evF C F_q0c [.d (.agg (earD A st)), .d (.agg x.cs)] [] = some (.d (.b (missB A st x)), []) := by
 have hc := cfunc_at F_q0b (.agg (earD A st)) (fun y => decide (y ∈ A)) x.acting hx (fun y _ => hears_at A st y hA) [.box (.d (.agg (earD A st))), .box (.d (.agg x.cs))]
 have hl : (x.acting.map fun x : Int => DV.i .i64 x).length = x.acting.length := List.length_map _
 have he1 : (earD A st)[1]? = some (.i .u32 st) := rfl
 have he2 : subL (earD A st) 0 2 = earD A st := rfl
 have he3 : (earD A st).length = 2 := rfl
 rw [evF_code (rfl : C F_q0c = some a_q0c) _ _ rfl]
 unfold missB
 rcases Bool.eq_false_or_eq_true (decide (x.acting.length ≥ 2)) with c1 | c1 <;> rcases Bool.eq_false_or_eq_true (decide (x.since ≥ st)) with c2 | c2 <;> rcases Bool.eq_false_or_eq_true (x.acting.any fun y => decide (y ∈ A)) with c3 | c3 <;>
  (have c1' : decide (((x.acting.length : Nat) : Int) ≥ 2) = decide (x.acting.length ≥ 2) := by (congr 1; exact propext (by omega))) <;>
  simp +decide only [c_q0c, hl, he1, he2, he3, hc, c1, c1', c2, c3, ite_self, guardR_und, Pk.EVL, Pk.EVD, ↓reduceIte, reduceCtorEq, Nat.reduceEqDiff, Nat.reduceAdd, Nat.reduceLeDiff, Nat.reduceBNe, Nat.reduceLT, Nat.reduceBEq, Nat.reduceSub, Nat.reduceMul, Int.reduceLT, Int.reduceLE, Int.reduceEq, Int.reduceToNat, Int.reduceNeg, Pk.TY_Itv]
end Go.Proofs.YthlpognahlnaaaaGreat
