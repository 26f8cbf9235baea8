/- A law's arguments, one by one. / Numbers: wraps that do nothing; shifts as quotients. / Rows of a fixed length (Go's arrays) as structures; cells; small facts for the evaluator. -/
import Derived.Test.YtlihpaegaikoeaaDoorPvSmall
import Derived.Test.YtlihpaegaikoeaaDoorPvSound
set_option linter.all false
namespace Pv
open Go
section
variable {P : Program} {n : Nat} {t e : TypeId} {r : List TypeId} {xs : List AV} {k : IntKind}
theorem arg_none (h : ArgsOk P n [] xs) : xs = [] := h
end
end Pv

namespace Pv
open Go
theorem wi64 {n : Int} (h : -9223372036854775808 ≤ n ∧ n ≤ 9223372036854775807) : IntKind.i64.wrap n = n := by
  simp only [IntKind.wrap, IntKind.bits, IntKind.signed]; simp; omega
theorem wu64 {n : Int} (h : 0 ≤ n ∧ n < 18446744073709551616) : IntKind.u64.wrap n = n := by
  simp only [IntKind.wrap, IntKind.bits, IntKind.signed]; simp; omega
theorem wu32 {n : Int} (h : 0 ≤ n ∧ n < 4294967296) : IntKind.u32.wrap n = n := by
  simp only [IntKind.wrap, IntKind.bits, IntKind.signed]; simp; omega
theorem wu8 {n : Int} (h : 0 ≤ n ∧ n < 256) : IntKind.u8.wrap n = n := by
  simp only [IntKind.wrap, IntKind.bits, IntKind.signed]; simp; omega
theorem wrap_u32 (n : Int) : 0 ≤ IntKind.u32.wrap n ∧ IntKind.u32.wrap n < 4294967296 := by
  simp only [IntKind.wrap, IntKind.bits, IntKind.signed]; simp; omega
theorem wf_u32 {n : Int} (h : (Lit.int .u32 n).wf = true) : 0 ≤ n ∧ n < 4294967296 := by
  simp [Lit.wf, IntKind.min, IntKind.max, IntKind.signed, IntKind.bits] at h; omega
theorem wf_u8 {n : Int} (h : (Lit.int .u8 n).wf = true) : 0 ≤ n ∧ n < 256 := by
  simp [Lit.wf, IntKind.min, IntKind.max, IntKind.signed, IntKind.bits] at h; omega
theorem wf_i64 {n : Int} (h : (Lit.int .i64 n).wf = true) : -9223372036854775808 ≤ n ∧ n ≤ 9223372036854775807 := by
  simp [Lit.wf, IntKind.min, IntKind.max, IntKind.signed, IntKind.bits] at h; omega
end Pv
namespace Pv
end Pv

namespace Pk
open Pv Go

structure R3 (α : Type) where
  a0 : α
  a1 : α
  a2 : α
  deriving DecidableEq
structure R4 (α : Type) where
  a0 : α
  a1 : α
  a2 : α
  a3 : α
  deriving DecidableEq
structure R5 (α : Type) where
  a0 : α
  a1 : α
  a2 : α
  a3 : α
  a4 : α
  deriving DecidableEq
structure R6 (α : Type) where
  a0 : α
  a1 : α
  a2 : α
  a3 : α
  a4 : α
  a5 : α
  deriving DecidableEq

section
variable {α : Type}
def R3.l (r : R3 α) : List α := [r.a0, r.a1, r.a2]
def R4.l (r : R4 α) : List α := [r.a0, r.a1, r.a2, r.a3]
def R5.l (r : R5 α) : List α := [r.a0, r.a1, r.a2, r.a3, r.a4]
def R6.l (r : R6 α) : List α := [r.a0, r.a1, r.a2, r.a3, r.a4, r.a5]
def R3.cs (f : α → List DV) (r : R3 α) : List DV := f r.a0 ++ (f r.a1 ++ f r.a2)
def R4.cs (f : α → List DV) (r : R4 α) : List DV := f r.a0 ++ (f r.a1 ++ (f r.a2 ++ f r.a3))
def R5.cs (f : α → List DV) (r : R5 α) : List DV := f r.a0 ++ (f r.a1 ++ (f r.a2 ++ (f r.a3 ++ f r.a4)))
def R6.cs (f : α → List DV) (r : R6 α) : List DV := f r.a0 ++ (f r.a1 ++ (f r.a2 ++ (f r.a3 ++ (f r.a4 ++ f r.a5))))
def R3.get (r : R3 α) : Nat → α
  | 0 => r.a0
  | 1 => r.a1
  | _ => r.a2
def R4.get (r : R4 α) : Nat → α
  | 0 => r.a0
  | 1 => r.a1
  | 2 => r.a2
  | _ => r.a3
def R5.get (r : R5 α) : Nat → α
  | 0 => r.a0
  | 1 => r.a1
  | 2 => r.a2
  | 3 => r.a3
  | _ => r.a4
def R6.get (r : R6 α) : Nat → α
  | 0 => r.a0
  | 1 => r.a1
  | 2 => r.a2
  | 3 => r.a3
  | 4 => r.a4
  | _ => r.a5
def R3.set (r : R3 α) (i : Nat) (x : α) : R3 α := match i with
  | 0 => { r with a0 := x }
  | 1 => { r with a1 := x }
  | 2 => { r with a2 := x }
  | _ => r
def R4.set (r : R4 α) (i : Nat) (x : α) : R4 α := match i with
  | 0 => { r with a0 := x }
  | 1 => { r with a1 := x }
  | 2 => { r with a2 := x }
  | 3 => { r with a3 := x }
  | _ => r
def R5.set (r : R5 α) (i : Nat) (x : α) : R5 α := match i with
  | 0 => { r with a0 := x }
  | 1 => { r with a1 := x }
  | 2 => { r with a2 := x }
  | 3 => { r with a3 := x }
  | 4 => { r with a4 := x }
  | _ => r
def R6.set (r : R6 α) (i : Nat) (x : α) : R6 α := match i with
  | 0 => { r with a0 := x }
  | 1 => { r with a1 := x }
  | 2 => { r with a2 := x }
  | 3 => { r with a3 := x }
  | 4 => { r with a4 := x }
  | 5 => { r with a5 := x }
  | _ => r
theorem R3.get_set (r : R3 α) (i j : Nat) (x : α) (hi : i < 3) (hj : j < 3) : (r.set i x).get j = if j = i then x else r.get j := by
  rcases (by omega : i = 0 ∨ i = 1 ∨ i = 2) with rfl | rfl | rfl <;> rcases (by omega : j = 0 ∨ j = 1 ∨ j = 2) with rfl | rfl | rfl <;> rfl
theorem R5.get_set (r : R5 α) (i j : Nat) (x : α) (hi : i < 5) (hj : j < 5) : (r.set i x).get j = if j = i then x else r.get j := by
  rcases (by omega : i = 0 ∨ i = 1 ∨ i = 2 ∨ i = 3 ∨ i = 4) with rfl | rfl | rfl | rfl | rfl <;> rcases (by omega : j = 0 ∨ j = 1 ∨ j = 2 ∨ j = 3 ∨ j = 4) with rfl | rfl | rfl | rfl | rfl <;> rfl
theorem R6.get_set (r : R6 α) (i j : Nat) (x : α) (hi : i < 6) (hj : j < 6) : (r.set i x).get j = if j = i then x else r.get j := by
  rcases (by omega : i = 0 ∨ i = 1 ∨ i = 2 ∨ i = 3 ∨ i = 4 ∨ i = 5) with rfl | rfl | rfl | rfl | rfl | rfl <;> rcases (by omega : j = 0 ∨ j = 1 ∨ j = 2 ∨ j = 3 ∨ j = 4 ∨ j = 5) with rfl | rfl | rfl | rfl | rfl | rfl <;> rfl
theorem R6.set_comm (r : R6 α) (i j : Nat) (x y : α) (hi : i < 6) (hj : j < 6) (h : i ≠ j) : (r.set i x).set j y = (r.set j y).set i x := by
  rcases (by omega : i = 0 ∨ i = 1 ∨ i = 2 ∨ i = 3 ∨ i = 4 ∨ i = 5) with rfl | rfl | rfl | rfl | rfl | rfl <;> rcases (by omega : j = 0 ∨ j = 1 ∨ j = 2 ∨ j = 3 ∨ j = 4 ∨ j = 5) with rfl | rfl | rfl | rfl | rfl | rfl <;> first | rfl | exact absurd rfl h
theorem R3.set_comm (r : R3 α) (i j : Nat) (x y : α) (hi : i < 3) (hj : j < 3) (h : i ≠ j) : (r.set i x).set j y = (r.set j y).set i x := by
  rcases (by omega : i = 0 ∨ i = 1 ∨ i = 2) with rfl | rfl | rfl <;> rcases (by omega : j = 0 ∨ j = 1 ∨ j = 2) with rfl | rfl | rfl <;> first | rfl | exact absurd rfl h
end

/-- All below n. -/
def allN (n : Nat) (f : Nat → Bool) : Bool := (List.range n).all f
theorem allN_true {n : Nat} {f : Nat → Bool} : allN n f = true ↔ ∀ j < n, f j = true := by simp [allN]
theorem allN_false {n : Nat} {f : Nat → Bool} (h : ¬ ∀ j < n, f j = true) : allN n f = false := by
  cases hc : allN n f with
  | false => rfl
  | true => exact absurd (allN_true.1 hc) h
def isAgg : ETy → Bool
  | .agg _ => true
  | _ => false
/-- A comparison's next step. -/
theorem eqVs_step {off n : Nat} {t : ETy} {ps : List (Nat × Nat × ETy)} {xs ys : List DV} {x y : DV} {b : Bool} (hx : subD (.agg xs) (isAgg t) off n = some x) (hy : subD (.agg ys) (isAgg t) off n = some y) (h : eqV t x y = some b) :
    eqVs ((off, n, t) :: ps) xs ys = if b = true then eqVs ps xs ys else some false := by
  cases t <;> simp only [isAgg] at hx hy <;> simp only [eqVs, hx, hy, h] <;> cases b <;> rfl
theorem eqVs_nil (xs ys : List DV) : eqVs [] xs ys = some true := by rw [eqVs]
theorem eqV_b (x y : Bool) : eqV .sb (.b x) (.b y) = some (decide (x = y)) := by simp only [eqV]; cases x <;> cases y <;> rfl
theorem eqV_i (k : IntKind) (x y : Int) : eqV .si (.i k x) (.i k y) = some (decide (x = y)) := by simp only [eqV, if_true]; congr 1
theorem eqV_s (x y : ByteArray) : eqV .ss (.s x) (.s y) = some (decide (x = y)) := by simp only [eqV]
theorem eqV_agg (ps : List (Nat × Nat × ETy)) (xs ys : List DV) : eqV (.agg ps) (.agg xs) (.agg ys) = eqVs ps xs ys := by simp only [eqV]
theorem bne_eq (a b : Int) : (a != b) = !(a == b) := rfl
theorem subL_cons (x : DV) (xs : List DV) (o n : Nat) : subL (x :: xs) o n = ((x :: xs).drop o).take n := rfl
theorem subL_td (o n : Nat) (l : List DV) : (l.drop o).take n = subL l o n := rfl
theorem upd_cons {α : Type} (x : α) (xs : List α) (o : Nat) (ys : List α) : upd (x :: xs) o ys = (x :: xs).take o ++ (ys ++ (x :: xs).drop (o + ys.length)) := rfl
theorem allD_d (x : DV) (r : List AV) : allD (.d x :: r) = (allD r).map (x :: ·) := by
  simp only [allD]; cases allD r <;> rfl
theorem allD_map (l : List DV) (r : List AV) : allD (l.map .d ++ r) = (allD r).map (l ++ ·) := by
  induction l with
  | nil => simp
  | cons x l ih => simp only [List.map_cons, List.cons_append, allD_d, ih, Option.map_map]; rfl
theorem allD_map' (l : List DV) : allD (l.map .d) = some l := by
  have := allD_map l []
  simpa [allD] using this
theorem upd_map (l : List DV) (o : Nat) (ys : List DV) : upd (l.map AV.d) o (ys.map .d) = (upd l o ys).map .d := by
  simp [upd, List.map_append, List.map_take, List.map_drop]
theorem upd_map1 (l : List DV) (o : Nat) (y : DV) : upd (l.map AV.d) o [.d y] = (upd l o [y]).map .d := upd_map l o [y]
theorem dc_agg (cs : List DV) : (DV.agg cs).cells = cs := rfl
theorem dc_b (x : Bool) : (DV.b x).cells = [.b x] := rfl
theorem dc_i (k : IntKind) (x : Int) : (DV.i k x).cells = [.i k x] := rfl
theorem dc_s (x : ByteArray) : (DV.s x).cells = [.s x] := rfl
theorem dc_sl (x : List DV) : (DV.sl x).cells = [.sl x] := rfl
theorem ac_dagg (cs : List DV) : (AV.d (.agg cs)).cells = cs.map .d := rfl
theorem ac_db (x : Bool) : (AV.d (.b x)).cells = [.d (.b x)] := rfl
theorem ac_di (k : IntKind) (x : Int) : (AV.d (.i k x)).cells = [.d (.i k x)] := rfl
theorem ac_ds (x : ByteArray) : (AV.d (.s x)).cells = [.d (.s x)] := rfl
theorem ac_dsl (x : List DV) : (AV.d (.sl x)).cells = [.d (.sl x)] := rfl
theorem ac_agg (cs : List AV) : (AV.agg cs).cells = cs := rfl
theorem ac_nilS  : (AV.nilS).cells = [.nilS] := rfl
theorem ac_view (o g z a l : Nat) : (AV.view o g z a l).cells = [.view o g z a l] := rfl
theorem ac_ptr (o a : Nat) : (AV.ptr o a).cells = [.ptr o a] := rfl
theorem ac_mp (o : Nat) : (AV.mp o).cells = [.mp o] := rfl
theorem ac_fn (f : FuncId) (a b : List AV) : (AV.fn f a b).cells = [.fn f a b] := rfl
theorem ac_z0  : (AV.z0).cells = [.z0] := rfl
theorem ac_e0 (b : Bool) : (AV.e0 b).cells = [.e0 b] := rfl
theorem ac_one  : (AV.one).cells = [.one] := rfl
theorem ac_eptr (cs : List DV) : (AV.eptr cs).cells = [.eptr cs] := rfl
theorem ac_vptr (o g z a l : Nat) : (AV.vptr o g z a l).cells = [.vptr o g z a l] := rfl
end Pk
