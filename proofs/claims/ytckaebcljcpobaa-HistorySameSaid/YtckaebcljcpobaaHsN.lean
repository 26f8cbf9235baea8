/- Intervals of a history from epoch to epoch (plain). -/
import Derived.Test.YtckaebcljcpobaaHsM
set_option linter.all false
namespace Go.Proofs.Ytckaebcljcpobaa
open Pv Go Pk
set_option maxRecDepth 10000
set_option maxHeartbeats 4000000
theorem ivL_nil (g : Int) (hg : 0 ≤ g ∧ g < 4) : ivL [] g = [⟨1, actI firstM g⟩] := by
  obtain rfl | rfl | rfl | rfl : g = 0 ∨ g = 1 ∨ g = 2 ∨ g = 3 := by omega
  all_goals rfl
theorem ivL_snoc (l : List Inc) (x : Inc) (g : Int) (hg : 0 ≤ g ∧ g < 4) : ivL (l ++ [x]) g = ivAdd (ivL l g) ((l.length : Int) + 2) (actI (mapAt (l ++ [x])) g) := by
  have he : (mapAt (l ++ [x])).epoch = (l.length : Int) + 2 := by rw [mapAt_epoch, List.length_append]; simp; omega
  unfold ivL ivOf
  rw [hsOf_snoc, ← he]
  obtain rfl | rfl | rfl | rfl : g = 0 ∨ g = 1 ∨ g = 2 ∨ g = 3 := by omega
  all_goals rfl
theorem ivL_pre (l : List Inc) (g : Int) (hg : 0 ≤ g ∧ g < 4) : ∀ i : Nat, ∃ r, ivL l g = ivL (l.take i) g ++ r ∧ ∀ x ∈ r, x.since > (i : Int) + 1 := by
  refine snoc_ind (M := fun l => ∀ i : Nat, ∃ r, ivL l g = ivL (l.take i) g ++ r ∧ ∀ x ∈ r, x.since > (i : Int) + 1) ?_ ?_ l
  · intro i
    exact ⟨[], by simp, by simp⟩
  · intro l y ih i
    by_cases hi : i ≤ l.length
    · obtain ⟨r, h1, h2⟩ := ih i
      rw [List.take_append_of_le_length hi, ivL_snoc _ _ _ hg]
      unfold ivAdd
      split
      · exact ⟨r, h1, h2⟩
      · refine ⟨r ++ [⟨(l.length : Int) + 2, actI (mapAt (l ++ [y])) g⟩], by rw [h1, List.append_assoc], ?_⟩
        intro x hx
        rcases List.mem_append.1 hx with hx | hx
        · exact h2 x hx
        · simp at hx
          subst hx
          show (l.length : Int) + 2 > _
          omega
    · rw [List.take_of_length_le (by simp; omega)]
      exact ⟨[], by simp, by simp⟩
theorem ivL_step {l : List Inc} (hl : goodI l) (g : Int) (hg : 0 ≤ g ∧ g < 4) {i : Nat} (hi : i < l.length) :
    ivL (l.take (i + 1)) g = ivL (l.take i) g ∨ (ivL (l.take (i + 1)) g = ivL (l.take i) g ++ [⟨(i : Int) + 2, actI (mapAt (l.take (i + 1))) g⟩] ∧ (lastI (ivL (l.take i) g)).acting ≠ actI (mapAt (l.take (i + 1))) g) := by
  obtain ⟨x, hx⟩ : ∃ x, l[i]? = some x := ⟨l[i]'hi, List.getElem?_eq_getElem _⟩
  rw [take_succ' hx, ivL_snoc _ _ _ hg, List.length_take, Nat.min_eq_left (by omega)]
  unfold ivAdd
  by_cases c : ((ivL (l.take i) g).getLast?.map Itv.acting) = some (actI (mapAt (l.take i ++ [x])) g)
  · exact .inl (by rw [if_pos c])
  · refine .inr ⟨by rw [if_neg c], fun h => c ?_⟩
    unfold lastI at h
    cases hh : (ivL (l.take i) g).getLast? with
    | none =>
      have hne : ivL (l.take i) g ≠ [] := by
        obtain ⟨r, h1, _⟩ := ivL_pre (l.take i) g hg 0
        rw [h1, List.take_zero, ivL_nil g hg]
        simp
      rw [List.getLast?_eq_none_iff] at hh
      exact absurd hh hne
    | some y => rw [hh] at h; exact congrArg some h
theorem ivL_ne (l : List Inc) (g : Int) (hg : 0 ≤ g ∧ g < 4) : 0 < (ivL l g).length := by
  obtain ⟨r, h1, _⟩ := ivL_pre l g hg 0
  rw [h1, List.take_zero, ivL_nil g hg]
  simp
theorem ivL_first (l : List Inc) (g : Int) (hg : 0 ≤ g ∧ g < 4) : (ivL l g)[0]? = some ⟨1, actI firstM g⟩ := by
  obtain ⟨r, h1, _⟩ := ivL_pre l g hg 0
  rw [h1, List.take_zero, ivL_nil g hg]
  rfl
theorem lastI_at {l : List Itv} (h : 0 < l.length) : l[l.length - 1]? = some (lastI l) := by
  unfold lastI
  rw [← List.getLast?_eq_getElem?]
  cases hl : l.getLast? with
  | none => rw [List.getLast?_eq_none_iff] at hl; rw [hl] at h; simp at h
  | some x => rfl
theorem ivL_len {l : List Inc} (hl : goodI l) (g : Int) (hg : 0 ≤ g ∧ g < 4) : (ivL l g).length ≤ l.length + 1 := by
  obtain ⟨h0, h1, h2, h3⟩ := hsOf_okL hl
  unfold ivL ivOf
  obtain rfl | rfl | rfl | rfl : g = 0 ∨ g = 1 ∨ g = 2 ∨ g = 3 := by omega
  · exact h0.2
  · exact h1.2
  · exact h2.2
  · exact h3.2
/-- The interval that holds at an epoch, as the whole row has it. -/
theorem ivL_at {l : List Inc} (hl : goodI l) (g : Int) (hg : 0 ≤ g ∧ g < 4) (i : Nat) : (ivL l g)[(ivL (l.take i) g).length - 1]? = some (lastI (ivL (l.take i) g)) ∧ (lastI (ivL (l.take i) g)).acting = actI (mapAt (l.take i)) g := by
  obtain ⟨r, h1, _⟩ := ivL_pre l g hg i
  have h0 := ivL_ne (l.take i) g hg
  refine ⟨?_, last_acting (goodI_take hl i) g hg⟩
  rw [h1, List.getElem?_append_left (by omega)]
  exact lastI_at h0
/-- What stands behind the interval of an epoch came later. -/
theorem ivL_later {l : List Inc} (g : Int) (hg : 0 ≤ g ∧ g < 4) (i : Nat) {x : Itv} (hx : (ivL l g)[(ivL (l.take i) g).length]? = some x) : x.since > (i : Int) + 1 := by
  obtain ⟨r, h1, h2⟩ := ivL_pre l g hg i
  rw [h1, List.getElem?_append_right (Nat.le_refl _), Nat.sub_self] at hx
  exact h2 x (List.mem_of_getElem? hx)
end Go.Proofs.Ytckaebcljcpobaa
