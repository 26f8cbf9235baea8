/- A law's arguments, one by one. -/
import Derived.Test.YtclambdgbphfkaaDoorPvBridge2
set_option linter.all false
namespace Pv
open Go
section
variable {P : Program} {n : Nat} {t e : TypeId} {r : List TypeId} {xs : List AV} {k : IntKind}
theorem arg_none (h : ArgsOk P n [] xs) : xs = [] := h
theorem arg_int (ht : P.underlying t = some (.int k)) (h : ArgsOk P (n + 1) (t :: r) xs) : ∃ x ys, xs = .d (.i k x) :: ys ∧ (Lit.int k x).wf = true ∧ ArgsOk P (n + 1) r ys := by
  obtain ⟨ds, ys, rfl, h1, h2⟩ := h
  simp only [Shape, ht] at h1
  obtain ⟨x, rfl, hx⟩ := h1
  exact ⟨x, ys, by simp [pack, ht], hx, h2⟩
theorem arg_bool (ht : P.underlying t = some .bool) (h : ArgsOk P (n + 1) (t :: r) xs) : ∃ x ys, xs = .d (.b x) :: ys ∧ ArgsOk P (n + 1) r ys := by
  obtain ⟨ds, ys, rfl, h1, h2⟩ := h
  simp only [Shape, ht] at h1
  obtain ⟨x, rfl⟩ := h1
  exact ⟨x, ys, by simp [pack, ht], h2⟩
theorem arg_string (ht : P.underlying t = some .string) (h : ArgsOk P (n + 1) (t :: r) xs) : ∃ (x : ByteArray) (ys : List AV), xs = .d (.s x) :: ys ∧ x.size ≤ maxLen ∧ ArgsOk P (n + 1) r ys := by
  obtain ⟨ds, ys, rfl, h1, h2⟩ := h
  simp only [Shape, ht] at h1
  obtain ⟨x, rfl, hx⟩ := h1
  exact ⟨x, ys, by simp [pack, ht], hx, h2⟩
theorem shape_ints (he : P.underlying e = some (.int k)) : ∀ {es : List (List DV)}, (∀ x ∈ es, Shape P (n + 1) e x) → ∃ l : List Int, es.map (pack P e) = l.map (DV.i k) ∧ es.flatten = l.map (DV.i k) ∧ l.length = es.length ∧ ∀ x ∈ l, (Lit.int k x).wf = true
  | [], _ => ⟨[], rfl, rfl, rfl, by simp⟩
  | y :: r, h => by
    obtain ⟨l, h1, h2, h3, h4⟩ := shape_ints he (es := r) (fun x hx => h x (by simp [hx]))
    have := h y (by simp)
    simp only [Shape, he] at this
    obtain ⟨x, rfl, hx⟩ := this
    refine ⟨x :: l, ?_, ?_, by simp [h3], ?_⟩
    · simp only [List.map_cons, h1]; simp [pack, he]
    · simp [h2]
    · intro z hz
      rcases List.mem_cons.1 hz with rfl | hz
      · exact hx
      · exact h4 z hz
theorem arg_ints (ht : P.underlying t = some (.slice e)) (he : P.underlying e = some (.int k)) (h : ArgsOk P (n + 2) (t :: r) xs) :
    ∃ (l : List Int) (ys : List AV), xs = .d (.sl (l.map (DV.i k))) :: ys ∧ l.length ≤ maxLen ∧ (∀ x ∈ l, (Lit.int k x).wf = true) ∧ ArgsOk P (n + 2) r ys := by
  obtain ⟨ds, ys, rfl, h1, h2⟩ := h
  unfold Shape at h1
  simp only [ht] at h1
  obtain ⟨es, rfl, hl, hx⟩ := h1
  obtain ⟨l, k1, _, k2, k3⟩ := shape_ints he hx
  exact ⟨l, ys, by rw [← k1]; simp [pack, ht], by omega, k3, h2⟩
theorem arg_array {m : Nat} (ht : P.underlying t = some (.array m e)) (he : P.underlying e = some (.int k)) (h : ArgsOk P (n + 2) (t :: r) xs) :
    ∃ (l : List Int) (ys : List AV), xs = .d (.agg (l.map (DV.i k))) :: ys ∧ l.length = m ∧ (∀ x ∈ l, (Lit.int k x).wf = true) ∧ ArgsOk P (n + 2) r ys := by
  obtain ⟨ds, ys, rfl, h1, h2⟩ := h
  unfold Shape at h1
  simp only [ht] at h1
  obtain ⟨es, rfl, hl, hx⟩ := h1
  obtain ⟨l, _, k1, k2, k3⟩ := shape_ints he hx
  exact ⟨l, ys, by rw [← k1]; simp [pack, ht], by omega, k3, h2⟩
end
end Pv
