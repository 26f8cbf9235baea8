/- The first one drawn, told by the straws; picks hang on weights and hosts alone. -/
import Derived.Test.YtfafafocnnhmpaaPlaceInts
set_option linter.all false
namespace Go.Proofs.Ytfafafocnnhmpaa
open Pv Go Pk
set_option maxRecDepth 10000
/-- o is the first of those with the longest straw. -/
def isDrawn (L : List Nat) (f : Nat → Int) (o : Nat) : Prop := o ∈ L ∧ (∀ q ∈ L, f q ≤ f o) ∧ ∀ q ∈ L, q < o → f q < f o
theorem isDrawn_unique {L : List Nat} {f : Nat → Int} {a b : Nat} (ha : isDrawn L f a) (hb : isDrawn L f b) : a = b := by
  obtain ⟨a1, a2, a3⟩ := ha
  obtain ⟨b1, b2, b3⟩ := hb
  rcases Nat.lt_trichotomy a b with h | h | h
  · have := b3 a a1 h; have := a2 b b1; omega
  · exact h
  · have := a3 b b1 h; have := b2 a a1; omega
theorem drawn_isDrawn (L : List Nat) (hs : L.Pairwise (· < ·)) (h0 : 0 < L.length) (f : Nat → Int) : isDrawn L f (drawn L f) := by
  have hsp := bestI_spec (L.map f)
  obtain ⟨b0, b1⟩ := best_in (L.map f) (by simpa using h0)
  rw [List.length_map] at hsp b1
  have hb : (bestI (L.map f)).toNat < L.length := by omega
  have hg : ∀ (j : Nat) (hj : j < L.length), (L.map f).getD j 0 = f (L[j]'hj) := by
    intro j hj
    simp [List.getD_eq_getElem?_getD, hj]
  have hd : drawn L f = L[(bestI (L.map f)).toNat]'hb := by
    unfold drawn
    rw [List.getD_eq_getElem?_getD, List.getElem?_eq_getElem hb]; rfl
  rcases hsp with ⟨h, _⟩ | ⟨_, _, c2, c3⟩
  · omega
  rw [hg _ hb] at c2 c3
  refine ⟨drawn_mem L h0 f, fun q hq => ?_, fun q hq hlt => ?_⟩
  · obtain ⟨j, hj, rfl⟩ := List.getElem_of_mem hq
    have := c2 j hj
    rw [hg j hj] at this
    rw [hd]; exact this
  · obtain ⟨j, hj, rfl⟩ := List.getElem_of_mem hq
    rw [hd] at hlt ⊢
    have hjb : j < (bestI (L.map f)).toNat := by
      rcases Nat.lt_trichotomy j (bestI (L.map f)).toNat with h | h | h
      · exact h
      · subst h; omega
      · have := List.pairwise_iff_getElem.1 hs _ j hb hj h; omega
    have := c3 j (by omega)
    rw [hg j hj] at this
    exact this
theorem mem_inN (os : List Osd) (n i : Nat) : i ∈ inN os n ↔ i < n ∧ wOf os i > 0 := by
  induction n with
  | zero => simp [inN]
  | succ n ih =>
    rw [inN_step, List.mem_append, ih]
    constructor
    · rintro (⟨h1, h2⟩ | h)
      · exact ⟨by omega, h2⟩
      · split at h
        · simp at h; subst h; exact ⟨by omega, by assumption⟩
        · simp at h
    · rintro ⟨h1, h2⟩
      by_cases c : i < n
      · exact .inl ⟨c, h2⟩
      · have : i = n := by omega
        subst this
        exact .inr (by rw [if_pos h2]; simp)
/-- Picks hang on the weights and the hosts alone, of a map. -/
theorem pickP_congr {e e' : Int} {os os' : List Osd} (g : Int) (hi : isM e os = isM e' os') (hw : ∀ i, wOf os i = wOf os' i) (hh : ∀ i, hostOf os i = hostOf os' i) : pickP e os g = pickP e' os' g := by
  have h1 : inN os 5 = inN os' 5 := inN_congr (fun i => by rw [hw i]) 5
  have h2 : strawOf os g = strawOf os' g := by funext t o; unfold strawOf; rw [hw o]
  have h3 : drawOf os g = drawOf os' g := by funext r t; unfold drawOf; rw [h1, h2]
  have h4 : clash os = clash os' := by funext q p; unfold clash; rw [hh p, hh q]
  have h5 : pickGo os = pickGo os' := by
    funext o P n t
    induction n generalizing t with
    | zero => rfl
    | succ n ih => simp only [pickGo, h4, ih]
  unfold pickP
  rw [hi, h1, h3, h5]
/-- The first one when one weight changes: the same, or the one whose weight it is. -/
theorem first_or {os os' : List Osd} {g : Int} (k : Nat) (hw : ∀ i, i ≠ k → wOf os' i = wOf os i) (hk : wOf os k ≤ wOf os' k) (hn : inN os 5 ≠ []) : drawOf os' g 0 0 = drawOf os g 0 0 ∨ drawOf os' g 0 0 = k := by
  have hl : 0 < (inN os 5).length := List.length_pos_iff.2 hn
  have hsub : ∀ q, q ∈ inN os 5 → q ∈ inN os' 5 := by
    intro q hq
    rw [mem_inN] at hq ⊢
    refine ⟨hq.1, ?_⟩
    by_cases c : q = k
    · subst c; have := hq.2; omega
    · rw [hw q c]; exact hq.2
  have hl' : 0 < (inN os' 5).length := by
    cases h : inN os 5 with
    | nil => exact absurd h hn
    | cons a b => exact List.length_pos_of_mem (hsub a (by rw [h]; simp))
  have d1 := drawn_isDrawn _ (inN_sorted os 5) hl (strawOf os g (0 + 0 * 3))
  have d2 := drawn_isDrawn _ (inN_sorted os' 5) hl' (strawOf os' g (0 + 0 * 3))
  show drawn _ _ = drawn _ _ ∨ drawn _ _ = k
  generalize drawn (inN os' 5) (strawOf os' g (0 + 0 * 3)) = b at *
  generalize drawn (inN os 5) (strawOf os g (0 + 0 * 3)) = a at *
  by_cases c : b = k
  · exact .inr c
  have hf : ∀ q, q ≠ k → strawOf os' g (0 + 0 * 3) q = strawOf os g (0 + 0 * 3) q := fun q hq => by unfold strawOf; rw [hw q hq]
  have hfk : strawOf os g (0 + 0 * 3) k ≤ strawOf os' g (0 + 0 * 3) k := by unfold strawOf; exact SV_mono _ hk
  have hb : b ∈ inN os 5 := by
    have := d2.1
    rw [mem_inN] at this ⊢
    rw [hw b c] at this
    exact this
  refine .inl (isDrawn_unique (L := inN os 5) (f := strawOf os g (0 + 0 * 3)) ⟨hb, fun q hq => ?_, fun q hq hlt => ?_⟩ d1)
  · have := d2.2.1 q (hsub q hq)
    rw [hf b c] at this
    by_cases e : q = k
    · subst e; omega
    · rw [hf q e] at this; exact this
  · have := d2.2.2 q (hsub q hq) hlt
    rw [hf b c] at this
    by_cases e : q = k
    · subst e; omega
    · rw [hf q e] at this; exact this
end Go.Proofs.Ytfafafocnnhmpaa
