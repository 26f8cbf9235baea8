/- Numbers: wraps that do nothing; shifts as quotients. -/
import Derived.Test.YtclambdgbphfkaaDoorPvSound
set_option linter.all false
namespace Pv
open Go
theorem wi64 {n : Int} (h : -9223372036854775808 ≤ n ∧ n ≤ 9223372036854775807) : IntKind.i64.wrap n = n := by
  simp only [IntKind.wrap, IntKind.bits, IntKind.signed]; simp; omega
theorem wi32 {n : Int} (h : -2147483648 ≤ n ∧ n ≤ 2147483647) : IntKind.i32.wrap n = n := by
  simp only [IntKind.wrap, IntKind.bits, IntKind.signed]; simp; omega
theorem wu64 {n : Int} (h : 0 ≤ n ∧ n < 18446744073709551616) : IntKind.u64.wrap n = n := by
  simp only [IntKind.wrap, IntKind.bits, IntKind.signed]; simp; omega
theorem wu32 {n : Int} (h : 0 ≤ n ∧ n < 4294967296) : IntKind.u32.wrap n = n := by
  simp only [IntKind.wrap, IntKind.bits, IntKind.signed]; simp; omega
theorem wu16 {n : Int} (h : 0 ≤ n ∧ n < 65536) : IntKind.u16.wrap n = n := by
  simp only [IntKind.wrap, IntKind.bits, IntKind.signed]; simp; omega
theorem wu8 {n : Int} (h : 0 ≤ n ∧ n < 256) : IntKind.u8.wrap n = n := by
  simp only [IntKind.wrap, IntKind.bits, IntKind.signed]; simp; omega
theorem wrap_u64 (n : Int) : 0 ≤ IntKind.u64.wrap n ∧ IntKind.u64.wrap n < 18446744073709551616 := by
  simp only [IntKind.wrap, IntKind.bits, IntKind.signed]; simp; omega
theorem wrap_u32 (n : Int) : 0 ≤ IntKind.u32.wrap n ∧ IntKind.u32.wrap n < 4294967296 := by
  simp only [IntKind.wrap, IntKind.bits, IntKind.signed]; simp; omega
theorem wrap_u8 (n : Int) : 0 ≤ IntKind.u8.wrap n ∧ IntKind.u8.wrap n < 256 := by
  simp only [IntKind.wrap, IntKind.bits, IntKind.signed]; simp; omega
theorem wf_u32 {n : Int} (h : (Lit.int .u32 n).wf = true) : 0 ≤ n ∧ n < 4294967296 := by
  simp [Lit.wf, IntKind.min, IntKind.max, IntKind.signed, IntKind.bits] at h; omega
theorem wf_u64 {n : Int} (h : (Lit.int .u64 n).wf = true) : 0 ≤ n ∧ n < 18446744073709551616 := by
  simp [Lit.wf, IntKind.min, IntKind.max, IntKind.signed, IntKind.bits] at h; omega
theorem wf_u8 {n : Int} (h : (Lit.int .u8 n).wf = true) : 0 ≤ n ∧ n < 256 := by
  simp [Lit.wf, IntKind.min, IntKind.max, IntKind.signed, IntKind.bits] at h; omega
theorem wf_i64 {n : Int} (h : (Lit.int .i64 n).wf = true) : -9223372036854775808 ≤ n ∧ n ≤ 9223372036854775807 := by
  simp [Lit.wf, IntKind.min, IntKind.max, IntKind.signed, IntKind.bits] at h; omega
theorem fdivN (a : Nat) (b : Nat) : (a : Int).fdiv (b : Int) = ((a / b : Nat) : Int) := by
  rw [Int.fdiv_eq_ediv_of_nonneg _ (by omega)]; rfl
theorem log2_div (x : Nat) (k : Nat) (h : 2 ^ k ≤ x) : Nat.log2 x = Nat.log2 (x / 2 ^ k) + k := by
  have hp : 0 < 2 ^ k := Nat.two_pow_pos k
  have hx : x ≠ 0 := by omega
  have hy : x / 2 ^ k ≠ 0 := by
    have := (Nat.le_div_iff_mul_le hp (x := 1) (y := x)).2 (by omega)
    omega
  apply Nat.le_antisymm
  · have h1 : x / 2 ^ k < 2 ^ (Nat.log2 (x / 2 ^ k) + 1) := (Nat.log2_lt hy).1 (by omega)
    have h2 : x < 2 ^ (Nat.log2 (x / 2 ^ k) + 1 + k) := by
      rw [Nat.pow_add]
      exact (Nat.div_lt_iff_lt_mul hp).1 h1
    have := (Nat.log2_lt hx).2 h2
    omega
  · have h1 : 2 ^ (Nat.log2 (x / 2 ^ k)) ≤ x / 2 ^ k := (Nat.le_log2 hy).1 (Nat.le_refl _)
    refine (Nat.le_log2 hx).2 ?_
    rw [Nat.pow_add]
    exact (Nat.le_div_iff_mul_le hp).1 h1
end Pv
namespace Pv
/-- What comes behind a loop. -/
theorem bind_loop {β : Type} {x : Option (AExit × Tm × Heap)} {e : AExit} {H' : Heap} {P : Tm → Prop} {f : AExit × Tm × Heap → Option β} {r : Option β} (h : ∃ T', x = some (e, T', H') ∧ P T') (hf : ∀ T', P T' → f (e, T', H') = r) : x.bind f = r := by
  obtain ⟨T', rfl, hp⟩ := h
  exact hf T' hp
end Pv
