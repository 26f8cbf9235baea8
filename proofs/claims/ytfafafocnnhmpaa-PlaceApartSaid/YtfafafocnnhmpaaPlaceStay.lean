/- A daemon without weight is picked by none; the first stays. -/
import Derived.Test.YtfafafocnnhmpaaPlaceDown
set_option linter.all false
namespace Go.Proofs.Ytfafafocnnhmpaa
open Pv Go Pk
set_option maxRecDepth 10000
theorem pickGo_all (os : List Osd) (o : Nat → Nat) (P : List Nat) (S : Nat → Prop) (h : ∀ t, S (o t)) (hP : ∀ p ∈ P, S p) : ∀ n t, ∀ p ∈ pickGo os o P n t, S p
  | 0, _, p, hp => hP p hp
  | n + 1, t, p, hp => by
    simp only [pickGo] at hp
    split at hp
    · exact pickGo_all os o P S h hP n _ p hp
    · rcases List.mem_append.1 hp with hp | hp
      · exact hP p hp
      · simp at hp; rw [hp]; exact h t
/-- Who is picked is in. -/
theorem pickP_in (e : Int) (os : List Osd) (g : Int) : ∀ q ∈ pickP e os g, q ∈ inN os 5 := by
  intro q hq
  have hne : pickP e os g ≠ [] := by intro h; rw [h] at hq; simp at hq
  obtain ⟨c, hn⟩ := pick_ne hne
  have h0 : 0 < (inN os 5).length := List.length_pos_iff.2 hn
  have hm : ∀ r t, drawOf os g r t ∈ inN os 5 := fun r t => drawn_mem _ h0 _
  unfold pickP at hq
  rw [if_pos c] at hq
  cases hL : inN os 5 with
  | nil => exact absurd hL hn
  | cons a b =>
    rw [hL] at hq hm
    simp only at hq
    exact pickGo_all os _ _ (fun q => q ∈ a :: b) (hm 2) (pickGo_all os _ _ (fun q => q ∈ a :: b) (hm 1) (fun p hp => by simp only [List.mem_singleton] at hp; rw [hp]; exact hm 0 0) 20 0) 20 0 q hq
/-- Who was first and keeps its weight stays first when another one loses its weight. -/
theorem first_stays {os os' : List Osd} {g : Int} (k : Nat) (hw : ∀ i, wOf os' i = if i = k then 0 else wOf os i) (hn : inN os 5 ≠ []) (hk : drawOf os g 0 0 ≠ k) : drawOf os' g 0 0 = drawOf os g 0 0 := by
  have hl : 0 < (inN os 5).length := List.length_pos_iff.2 hn
  have d1 := drawn_isDrawn _ (inN_sorted os 5) hl (strawOf os g (0 + 0 * 3))
  have hsub : ∀ q, q ∈ inN os' 5 → q ≠ k ∧ q ∈ inN os 5 := by
    intro q hq
    rw [mem_inN, hw] at hq
    by_cases c : q = k
    · rw [if_pos c] at hq; omega
    · rw [if_neg c] at hq; exact ⟨c, (mem_inN os 5 q).2 hq⟩
  have hf : ∀ q, q ≠ k → strawOf os' g (0 + 0 * 3) q = strawOf os g (0 + 0 * 3) q := fun q hq => by unfold strawOf; rw [hw, if_neg hq]
  show drawn _ _ = drawn _ _
  replace hk : drawn (inN os 5) (strawOf os g (0 + 0 * 3)) ≠ k := hk
  generalize drawn (inN os 5) (strawOf os g (0 + 0 * 3)) = a at *
  have ha : a ∈ inN os' 5 := by
    have := d1.1
    rw [mem_inN] at this ⊢
    rw [hw, if_neg hk]
    exact this
  have d2 := drawn_isDrawn _ (inN_sorted os' 5) (List.length_pos_of_mem ha) (strawOf os' g (0 + 0 * 3))
  refine isDrawn_unique d2 ⟨ha, fun q hq => ?_, fun q hq hlt => ?_⟩
  · obtain ⟨c, h⟩ := hsub q hq
    rw [hf q c, hf a hk]; exact d1.2.1 q h
  · obtain ⟨c, h⟩ := hsub q hq
    rw [hf q c, hf a hk]; exact d1.2.2 q h hlt
end Go.Proofs.Ytfafafocnnhmpaa
