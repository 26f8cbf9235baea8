/- The straw layer's logarithm, in plain numbers. -/
import Derived.Test.YtpbcjmgjdiiafaaStrawEq
set_option linter.all false
namespace Go.Proofs.Ytpbcjmgjdiiafaa
open Pv Go
set_option maxRecDepth 10000

def sq (m : Nat) : Nat := m * m / 2147483648
def nx (m : Nat) : Nat := if sq m ≥ 4294967296 then sq m / 2 else sq m
def bt (m : Nat) : Nat := if sq m ≥ 4294967296 then 1 else 0
def itb : Nat → Nat → Nat → Nat
  | 0, _, b => b
  | n + 1, m, b => itb n (nx m) (2 * b + bt m)

def fine (m : Nat) : Prop := 2147483648 ≤ m ∧ m < 4294967296

theorem sq_fine {m : Nat} (h : fine m) : 2147483648 ≤ sq m ∧ sq m < 8589934592 := by
  obtain ⟨h1, h2⟩ := h
  unfold sq
  have a : 2147483648 * 2147483648 ≤ m * m := Nat.mul_le_mul h1 h1
  have b : m * m ≤ 4294967295 * 4294967295 := Nat.mul_le_mul (by omega) (by omega)
  omega
theorem nx_fine {m : Nat} (h : fine m) : fine (nx m) := by
  have := sq_fine h
  unfold nx fine
  split <;> omega
theorem sq_mono {m m' : Nat} (h : m ≤ m') : sq m ≤ sq m' := Nat.div_le_div_right (Nat.mul_le_mul h h)

theorem mul31_nat {m : Nat} (h : fine m) : mul31 (m : Int) = (sq m : Nat) := by
  unfold mul31
  have hb : m * m ≤ 4294967295 * 4294967295 := Nat.mul_le_mul (by have := h.2; omega) (by have := h.2; omega)
  rw [show (m : Int) * m = ((m * m : Nat) : Int) by simp, wu64 (by omega)]
  exact fdivN (m * m) 2147483648
theorem stepX_nat {m : Nat} (h : fine m) : stepX (m : Int) = (nx m : Nat) := by
  unfold stepX nx
  rw [mul31_nat h]
  by_cases hc : sq m ≥ 4294967296
  · rw [if_pos (by omega), if_pos hc]
    exact fdivN (sq m) 2
  · rw [if_neg (by omega), if_neg hc]
theorem or_one (b : Nat) (h : b < 1099511627776) : Pv.bits .i64 (fun x1 x2 => x1 ||| x2) ((2 * b : Nat) : Int) 1 = ((2 * b + 1 : Nat) : Int) := by
  unfold Pv.bits
  have e : ((BitVec.ofInt IntKind.i64.bits ((2 * b : Nat) : Int)) ||| (BitVec.ofInt IntKind.i64.bits 1)).toNat = 2 * b + 1 := by
    show ((BitVec.ofInt 64 ((2 * b : Nat) : Int)) ||| (BitVec.ofInt 64 1)).toNat = 2 * b + 1
    have e1 : (BitVec.ofInt 64 ((2 * b : Nat) : Int)) = BitVec.ofNat 64 (2 * b) := BitVec.ofInt_natCast _ _
    have e2 : (BitVec.ofInt 64 1) = BitVec.ofNat 64 1 := by rfl
    rw [e1, e2, BitVec.toNat_or, BitVec.toNat_ofNat, BitVec.toNat_ofNat, Nat.mod_eq_of_lt (by omega), Nat.mod_eq_of_lt (by omega)]
    rw [show 2 * b = b <<< 1 by rw [Nat.shiftLeft_eq]; omega]
    rw [← Nat.shiftLeft_add_eq_or_of_lt (b := 1) (i := 1) (by omega)]
  show IntKind.i64.wrap (((BitVec.ofInt IntKind.i64.bits ((2 * b : Nat) : Int)) ||| (BitVec.ofInt IntKind.i64.bits 1)).toNat : Int) = _
  rw [e]
  exact wi64 (by omega)
theorem dbl_nat {b : Nat} (h : b < 1099511627776) : dbl (b : Int) = ((2 * b : Nat) : Int) := by
  unfold dbl
  rw [show (b : Int) * 2 ^ min (Int.toNat 1) IntKind.i64.bits = ((2 * b : Nat) : Int) by
    show (b : Int) * 2 ^ 1 = _
    omega]
  exact wi64 (by omega)
theorem stepB_nat {m b : Nat} (h : fine m) (hb : b < 1099511627776) : stepB (m : Int) (b : Int) = ((2 * b + bt m : Nat) : Int) := by
  unfold stepB bt
  rw [mul31_nat h, dbl_nat hb]
  by_cases hc : sq m ≥ 4294967296
  · rw [if_pos (by omega), if_pos hc, or_one b hb]
  · rw [if_neg (by omega), if_neg hc]; rfl
theorem bt_le (m : Nat) : bt m ≤ 1 := by unfold bt; split <;> omega

theorem iter_nat : ∀ (n : Nat) {m b : Nat}, fine m → (b + 1) * 2 ^ n ≤ 1099511627776 → (iter n ((m : Int), (b : Int))).2 = ((itb n m b : Nat) : Int)
  | 0, m, b, _, _ => rfl
  | n + 1, m, b, h, hb => by
    have hp : 0 < 2 ^ n := Nat.two_pow_pos n
    have hb' : b + 1 ≤ 1099511627776 := Nat.le_trans (Nat.le_mul_of_pos_right _ (Nat.two_pow_pos (n + 1))) hb
    have hbt := bt_le m
    simp only [iter, itb]
    rw [stepX_nat h, stepB_nat h (by omega)]
    refine iter_nat n (nx_fine h) (Nat.le_trans (Nat.mul_le_mul_right _ (show 2 * b + bt m + 1 ≤ 2 * (b + 1) by omega)) ?_)
    rw [Nat.pow_succ] at hb
    rw [show 2 * (b + 1) * 2 ^ n = (b + 1) * (2 ^ n * 2) by rw [Nat.mul_comm 2 (b + 1), Nat.mul_assoc, Nat.mul_comm 2]]
    exact hb

theorem itb_lin : ∀ (n m b : Nat), itb n m b = b * 2 ^ n + itb n m 0
  | 0, m, b => by simp [itb]
  | n + 1, m, b => by
    simp only [itb]
    rw [itb_lin n (nx m) (2 * b + bt m), itb_lin n (nx m) (2 * 0 + bt m), Nat.pow_succ, Nat.add_mul, Nat.mul_zero, Nat.zero_add, Nat.mul_comm 2 b, Nat.mul_assoc, Nat.mul_comm 2]
    omega
theorem itb_lt : ∀ (n m : Nat), itb n m 0 < 2 ^ n
  | 0, m => by simp [itb]
  | n + 1, m => by
    simp only [itb]
    rw [itb_lin n]
    have h1 := itb_lt n (nx m)
    have h2 := bt_le m
    rw [Nat.pow_succ]
    have : (2 * 0 + bt m) * 2 ^ n ≤ 1 * 2 ^ n := Nat.mul_le_mul_right _ (by omega)
    omega
theorem itb_mono : ∀ (n : Nat) {m m' : Nat}, m ≤ m' → itb n m 0 ≤ itb n m' 0
  | 0, _, _, _ => Nat.le_refl _
  | n + 1, m, m', h => by
    simp only [itb]
    rw [itb_lin n (nx m), itb_lin n (nx m')]
    have hs := sq_mono h
    by_cases h1 : sq m' ≥ 4294967296
    · by_cases h2 : sq m ≥ 4294967296
      · have hn : nx m ≤ nx m' := by unfold nx; rw [if_pos h1, if_pos h2]; omega
        have hb : bt m = bt m' := by unfold bt; rw [if_pos h1, if_pos h2]
        rw [hb]
        exact Nat.add_le_add_left (itb_mono n hn) _
      · have hb : bt m = 0 := by unfold bt; rw [if_neg h2]
        have hb' : bt m' = 1 := by unfold bt; rw [if_pos h1]
        rw [hb, hb']
        have := itb_lt n (nx m)
        omega
    · have hn : nx m ≤ nx m' := by unfold nx; rw [if_neg h1, if_neg (by omega)]; exact hs
      have hb : bt m = bt m' := by unfold bt; rw [if_neg h1, if_neg (by omega)]
      rw [hb]
      exact Nat.add_le_add_left (itb_mono n hn) _
theorem itb_top : ∀ n, itb n 2147483648 0 = 0
  | 0 => rfl
  | n + 1 => by
    have h : sq 2147483648 = 2147483648 := by decide +kernel
    have h1 : nx 2147483648 = 2147483648 := by unfold nx; rw [h]; rfl
    have h2 : bt 2147483648 = 0 := by unfold bt; rw [h]; rfl
    simp only [itb, h1, h2]
    exact itb_top n

def mant (u : Nat) : Nat := u * 2 ^ (31 - Nat.log2 u)
def LV (u : Nat) : Nat := Nat.log2 u * 65536 + itb 16 (mant u) 0

theorem logV_eq {u : Nat} (h : 1 ≤ u ∧ u ≤ 65536) : logV u = (LV u : Nat) := by
  have hl := log2_le u h
  have hm := mant_lt u h
  have hi := itb_lt 16 (mant u)
  unfold logV
  have e := iter_nat 16 (m := mant u) (b := 0) hm (by decide)
  show IntKind.i64.wrap (IntKind.i64.wrap ((Nat.log2 u : Int) * 2 ^ 16) + (iter 16 (((mant u : Nat) : Int), ((0 : Nat) : Int))).2) = _
  rw [e, wi64 (n := (Nat.log2 u : Int) * 2 ^ 16) (by omega), wi64 (by omega)]
  unfold LV
  omega

theorem log_at (u : Int) : evF C 10 [.d (.i .u32 u)] [] = some (.d (.i .i64 (LV (clamp u) : Nat)), []) := by
  rw [log_ok, logV_eq (clamp_ok u).2]

theorem clamp_id (u : Nat) (h : 1 ≤ u ∧ u ≤ 65536) : clamp (u : Int) = u := by
  unfold clamp mmI; simp; split <;> split <;> omega

theorem LV_le {u : Nat} (h : 1 ≤ u ∧ u ≤ 65536) : LV u ≤ 1048576 := by
  have hl := log2_le u h
  have hi := itb_lt 16 (mant u)
  by_cases h16 : Nat.log2 u = 16
  · have hu : u = 65536 := by
      have : 2 ^ 16 ≤ u := by rw [← h16]; exact (Nat.le_log2 (by omega)).1 (Nat.le_refl _)
      omega
    subst hu
    unfold LV
    rw [show mant 65536 = 2147483648 by decide +kernel, itb_top, h16]
    decide
  · unfold LV; omega
theorem LV_mono {u v : Nat} (h : 1 ≤ u) (huv : u ≤ v) (hv : v ≤ 65536) : LV u ≤ LV v := by
  have h1 := itb_lt 16 (mant u)
  have hk : Nat.log2 u ≤ Nat.log2 v := (Nat.le_log2 (by omega)).2 (Nat.le_trans ((Nat.le_log2 (by omega)).1 (Nat.le_refl _)) huv)
  unfold LV
  by_cases he : Nat.log2 u = Nat.log2 v
  · have : mant u ≤ mant v := by unfold mant; rw [he]; exact Nat.mul_le_mul_right _ huv
    have := itb_mono 16 this
    omega
  · omega
theorem log2_two (u : Nat) (h : 1 ≤ u) : Nat.log2 (2 * u) = Nat.log2 u + 1 := by
  have := log2_div (2 * u) 1 (by omega)
  rw [this, show 2 * u / 2 ^ 1 = u by omega]
theorem LV_two {u : Nat} (h : 1 ≤ u ∧ u ≤ 32768) : LV (2 * u) = LV u + 65536 := by
  have hl := log2_le u (by omega)
  have hl2 := log2_le (2 * u) (by omega)
  have e := log2_two u h.1
  unfold LV
  have : mant (2 * u) = mant u := by
    unfold mant
    rw [e, show 31 - Nat.log2 u = (31 - (Nat.log2 u + 1)) + 1 by omega, Nat.pow_succ, Nat.mul_comm 2 u, Nat.mul_assoc, Nat.mul_comm 2]
  rw [this, e]; omega
theorem LV_pow (k : Nat) (h : k ≤ 16) : LV (2 ^ k) = k * 65536 := by
  induction k with
  | zero => decide +kernel
  | succ k ih =>
    have h1 : 1 ≤ 2 ^ k := Nat.one_le_two_pow
    have h2 : 2 ^ k ≤ 2 ^ 15 := Nat.pow_le_pow_right (by omega) (by omega)
    rw [Nat.pow_succ, Nat.mul_comm, LV_two ⟨h1, by omega⟩, ih (by omega)]
    omega
end Go.Proofs.Ytpbcjmgjdiiafaa
