/- What a pick hangs on: weights, hosts; the first one of it. -/
import Derived.Test.YtfafafocnnhmpaaPlaceFew
set_option linter.all false
namespace Go.Proofs.Ytfafafocnnhmpaa
open Pv Go Pk
set_option maxRecDepth 10000
theorem isBest_unique {l : List Int} {n : Nat} {b c : Int} (hn : 0 < n) (hb : isBest l n b) (hc : isBest l n c) : b = c := by
  rcases hb with ⟨h, _⟩ | ⟨b0, b1, b2, b3⟩
  · omega
  rcases hc with ⟨h, _⟩ | ⟨c0, c1, c2, c3⟩
  · omega
  obtain ⟨x, rfl⟩ : ∃ x : Nat, b = x := ⟨b.toNat, by omega⟩
  obtain ⟨y, rfl⟩ : ∃ y : Nat, c = y := ⟨c.toNat, by omega⟩
  rw [Int.toNat_natCast] at b2 b3 c2 c3
  by_cases h : x < y
  · have h1 := c3 x (by omega)
    have h2 := b2 y (by omega)
    omega
  · by_cases h' : y < x
    · have h1 := b3 y (by omega)
      have h2 := c2 x (by omega)
      omega
    · omega
/-- The best one's straw grows: it stays the best. -/
theorem best_grows (l l' : List Int) (hlen : l'.length = l.length) (h0 : 0 < l.length) (hb : l.getD (bestI l).toNat 0 ≤ l'.getD (bestI l).toNat 0) (ho : ∀ j, j < l.length → j ≠ (bestI l).toNat → l'.getD j 0 ≤ l.getD j 0) : bestI l' = bestI l := by
  have hs := bestI_spec l
  have hs' := bestI_spec l'
  rw [hlen] at hs'
  refine isBest_unique h0 hs' ?_
  rcases hs with ⟨h, _⟩ | ⟨b0, b1, b2, b3⟩
  · omega
  refine .inr ⟨b0, b1, fun j hj => ?_, fun j hj => ?_⟩
  · by_cases c : j = (bestI l).toNat
    · rw [c]; exact Int.le_refl _
    · have := ho j hj c
      have := b2 j hj
      omega
  · have := ho j (by omega) (by omega)
    have := b3 j hj
    omega
theorem inN_step (os : List Osd) (i : Nat) : inN os (i + 1) = inN os i ++ (if wOf os i > 0 then [i] else []) := by
  rcases h : os[i]? with _ | o
  · simp [inN, wOf, h]
  · simp [inN, wOf, h]
theorem inN_congr {os os' : List Osd} (h : ∀ i, wOf os i > 0 ↔ wOf os' i > 0) : ∀ n, inN os n = inN os' n
  | 0 => rfl
  | n + 1 => by
    rw [inN_step, inN_step, inN_congr h n]
    by_cases c : wOf os n > 0
    · rw [if_pos c, if_pos ((h n).1 c)]
    · rw [if_neg c, if_neg (fun x => c ((h n).2 x))]
theorem inN_sorted (os : List Osd) : ∀ n, (inN os n).Pairwise (· < ·)
  | 0 => .nil
  | n + 1 => by
    rw [inN_step, List.pairwise_append]
    refine ⟨inN_sorted os n, ?_, fun a ha b hb => ?_⟩
    · split
      · exact List.pairwise_singleton _ _
      · exact .nil
    · have := inN_lt os n a ha
      split at hb
      · simp at hb; omega
      · simp at hb
theorem inN_pos (os : List Osd) : ∀ n, ∀ i ∈ inN os n, wOf os i > 0
  | 0, i, h => by simp [inN] at h
  | n + 1, i, h => by
    rw [inN_step, List.mem_append] at h
    rcases h with h | h
    · exact inN_pos os n i h
    · split at h
      · simp at h; subst h; assumption
      · simp at h
theorem pickGo_head (os : List Osd) (o : Nat → Nat) (x : Nat) (P : List Nat) : ∀ n t, ∃ R, pickGo os o (x :: P) n t = x :: R
  | 0, _ => ⟨P, rfl⟩
  | n + 1, t => by
    simp only [pickGo]
    split
    · exact pickGo_head os o x P n _
    · exact ⟨P ++ [o t], rfl⟩
theorem pick_cons {e : Int} {os : List Osd} {g : Int} (h : (isM e os && decide (g < 4)) = true) (hn : inN os 5 ≠ []) : ∃ R, pickP e os g = drawOf os g 0 0 :: R := by
  obtain ⟨R, hR⟩ := pickGo_head os (drawOf os g 1) (drawOf os g 0 0) [] 20 0
  obtain ⟨R2, hR2⟩ := pickGo_head os (drawOf os g 2) (drawOf os g 0 0) R 20 0
  refine ⟨R2, ?_⟩
  unfold pickP
  rw [if_pos h]
  cases hL : inN os 5 with
  | nil => exact absurd hL hn
  | cons a b => simp only [hR, hR2]
theorem pick_ne {e : Int} {os : List Osd} {g : Int} (h : pickP e os g ≠ []) : (isM e os && decide (g < 4)) = true ∧ inN os 5 ≠ [] := by
  unfold pickP at h
  split at h
  · rename_i c
    refine ⟨c, fun hL => ?_⟩
    rw [hL] at h
    exact h rfl
  · exact absurd rfl h
/-- Who is drawn first stays so when its straw grows and the others' don't. -/
theorem drawn_grows (L : List Nat) (hs : L.Pairwise (· < ·)) (h0 : 0 < L.length) (f f' : Nat → Int) (h1 : f (drawn L f) ≤ f' (drawn L f)) (h2 : ∀ o ∈ L, o ≠ drawn L f → f' o ≤ f o) : drawn L f' = drawn L f := by
  obtain ⟨b0, b1⟩ := best_in (L.map f) (by simpa using h0)
  rw [List.length_map] at b1
  have hb : (bestI (L.map f)).toNat < L.length := by omega
  have hg : ∀ (F : Nat → Int) (j : Nat), j < L.length → (L.map F).getD j 0 = F (L.getD j 0) := by
    intro F j hj
    simp [List.getD_eq_getElem?_getD, hj]
  have hd : L.getD (bestI (L.map f)).toNat 0 = drawn L f := rfl
  have : bestI (L.map f') = bestI (L.map f) := by
    refine best_grows _ _ (by simp) (by simpa using h0) ?_ ?_
    · rw [hg f _ hb, hg f' _ hb, hd]; exact h1
    · intro j hj hne
      rw [List.length_map] at hj
      rw [hg f _ hj, hg f' _ hj]
      refine h2 _ ?_ ?_
      · rw [List.getD_eq_getElem?_getD, List.getElem?_eq_getElem hj]; exact List.getElem_mem hj
      · rw [← hd, List.getD_eq_getElem?_getD, List.getD_eq_getElem?_getD, List.getElem?_eq_getElem hj, List.getElem?_eq_getElem hb]
        simp only [Option.getD_some]
        rcases Nat.lt_or_gt_of_ne hne with c | c
        · have := List.pairwise_iff_getElem.1 hs j _ hj hb c; omega
        · have := List.pairwise_iff_getElem.1 hs _ j hb hj c; omega
  unfold drawn
  rw [this]
end Go.Proofs.Ytfafafocnnhmpaa
