/- One order: what stays in order whatever is seen or taken: plain laws. -/
import Derived.Test.YtlihpaegaikoeaaDoorWtJ
set_option linter.all false
namespace Go.Proofs.YtlihpaegaikoeaaDoor
open Pv Go Pk
set_option maxRecDepth 10000
set_option maxHeartbeats 2000000

theorem fitsL_parts {l : List Entry} {acked : Int} {s : State} (h : fitsL l acked s = true) : acked ≤ (headS s).2 ∧ s.tail.n ≤ l.length ∧ baseOf (l.take s.tail.n.toNat) = s.base ∧ idxE (partE l acked) s.log = none := by
  unfold fitsL at h
  simp only [Bool.and_eq_true, Bool.not_eq_true', Bool.or_eq_false_iff, decide_eq_false_iff_not, Option.isSome_eq_false_iff, Option.isNone_iff_eq_none] at h
  obtain ⟨⟨h1, h2, h3⟩, h4⟩ := h
  refine ⟨by omega, by omega, ?_, h4⟩
  simpa using h3
theorem idxE_none' {P : Entry → Bool} : ∀ {l : List Entry}, idxE P l = none → ∀ x ∈ l, P x = false
  | [], _ => by simp
  | x :: l, h => by
    unfold idxE at h
    split at h
    · simp at h
    · rename_i hp
      simp only [Option.map_eq_none_iff] at h
      intro y hy
      rcases List.mem_cons.1 hy with rfl | hy
      · simpa using hp
      · exact idxE_none' h y hy

/-- What See makes of a row: its cases. -/
theorem seeL_cases (L : Nat → Lr) (g : Nat) (s : State) : ((seeL L g s).1 = L ∧ ((seeL L g s).2 = 10 ∨ (seeL L g s).2 = 0 ∨ (seeL L g s).2 = 220)) ∨
    (g < 4 ∧ isSt s = true ∧ fitsL (L g).l (L g).acked s = true ∧ seeL L g s = (updL L g ⟨(L g).l.take s.tail.n.toNat ++ s.log, (L g).acked, s.started⟩, 0)) := by
  unfold seeL
  split
  · exact .inl ⟨rfl, .inl rfl⟩
  · rename_i h1
    split
    · exact .inl ⟨rfl, .inr (.inl rfl)⟩
    · split
      · exact .inl ⟨rfl, .inr (.inr rfl)⟩
      · rename_i h3
        refine .inr ⟨by omega, ?_, by simpa using h3, rfl⟩
        rcases Bool.eq_false_or_eq_true (isSt s) with h | h
        · exact h
        · exact absurd (.inr h) h1

theorem see_new_len {l : List Entry} {acked : Nat} {s : State} (hso : stOk s) (hs : isSt s = true) (hf : fitsL l acked s = true) : (l.take s.tail.n.toNat ++ s.log).length = s.tail.n.toNat + s.log.length ∧ (acked : Int) ≤ s.tail.n.toNat + s.log.length := by
  obtain ⟨h1, h2, h3, h4⟩ := fitsL_parts hf
  have h5 := hso.n
  have h6 := (last_n hso hs).1
  have h7 : (headS s).2 = (lastE s).n := by unfold headS; rw [if_pos hs]
  refine ⟨by rw [List.length_append, List.length_take]; omega, by omega⟩
/-- What is acknowledged stays. -/
theorem see_stays {l : List Entry} {acked : Nat} {s : State} (hso : stOk s) (hs : isSt s = true) (hf : fitsL l acked s = true) (ha : acked ≤ l.length) : (l.take s.tail.n.toNat ++ s.log).take acked = l.take acked := by
  obtain ⟨h1, h2, h3, h4⟩ := fitsL_parts hf
  obtain ⟨k1, k2⟩ := see_new_len hso hs hf
  have h5 := hso.n
  have h6 := (chain_n hso.n (isSt_chain hs)).1
  have h7 := idxE_none' h4
  obtain ⟨tn, htn⟩ : ∃ tn : Nat, s.tail.n = (tn : Int) := ⟨s.tail.n.toNat, by omega⟩
  rw [htn] at h2 h6 k1 k2 ⊢
  simp only [Int.toNat_natCast] at k1 k2 ⊢
  apply List.ext_getElem?
  intro i
  rw [List.getElem?_take, List.getElem?_take]
  split
  · rename_i hi
    by_cases hit : i < tn
    · rw [List.getElem?_append_left (by rw [List.length_take]; omega), List.getElem?_take, if_pos hit]
    · have hlt : (l.take tn).length = tn := by rw [List.length_take]; omega
      rw [List.getElem?_append_right (by omega), hlt]
      have hil : i - tn < s.log.length := by omega
      obtain ⟨e, he⟩ : ∃ e, s.log[i - tn]? = some e := ⟨s.log[i - tn], List.getElem?_eq_getElem hil⟩
      have hn := h6 _ e he
      have hp := h7 e (List.mem_of_getElem? he)
      unfold partE at hp
      rw [decide_eq_true (by omega), Bool.true_and, Bool.not_eq_false', decide_eq_true_eq] at hp
      rw [show (e.n - 1).toNat = i by omega] at hp
      have hil2 : i < l.length := by omega
      rw [List.getElem?_eq_getElem hil2, Option.getD_some] at hp
      rw [he, List.getElem?_eq_getElem hil2, hp]
  · rfl

theorem seeL_ok {L : Nat → Lr} (hv : ∀ k, k < 4 → LrOk (L k)) {g : Nat} {s : State} (hso : stOk s) {M : Nat} (hM : M + 6 ≤ 990) (hl : ∀ k, k < 4 → (L k).l.length ≤ M) :
    (∀ k, k < 4 → LrOk ((seeL L g s).1 k)) ∧ (∀ k, k < 4 → ((seeL L g s).1 k).l.length ≤ M + 6) ∧ (∀ k, k < 4 → (L k).acked ≤ ((seeL L g s).1 k).acked ∧ ((seeL L g s).1 k).l.take (L k).acked = (L k).l.take (L k).acked) ∧
    ((seeL L g s).2 = 10 ∨ (seeL L g s).2 = 0 ∨ (seeL L g s).2 = 220) := by
  rcases seeL_cases L g s with ⟨h1, h2⟩ | ⟨hg, hs, hf, h1⟩
  · rw [h1]
    exact ⟨hv, fun k hk => by have := hl k hk; omega, fun k hk => ⟨Nat.le_refl _, rfl⟩, h2⟩
  · obtain ⟨k1, k2⟩ := see_new_len hso hs hf
    have hlog := isSt_len hs
    obtain ⟨_, ht, _⟩ := fitsL_parts hf
    have hM2 := hl g hg
    obtain ⟨v1, v2, v3⟩ := hv g hg
    rw [h1]
    refine ⟨fun k hk => ?_, fun k hk => ?_, fun k hk => ?_, .inr (.inl rfl)⟩
    · dsimp only [updL]
      split
      · refine ⟨?_, fun e he => ?_, ?_⟩
        · dsimp only; omega
        · rcases List.mem_append.1 he with h | h
          · exact v2 e (List.mem_of_mem_take h)
          · exact hso.log e h
        · dsimp only; omega
      · exact hv k hk
    · dsimp only [updL]
      split
      · dsimp only; omega
      · have := hl k hk; omega
    · dsimp only [updL]
      split
      · rename_i hkg
        subst hkg
        exact ⟨Nat.le_refl _, see_stays hso hs hf v3⟩
      · exact ⟨Nat.le_refl _, rfl⟩

theorem tookL_ok {L : Nat → Lr} (hv : ∀ k, k < 4 → LrOk (L k)) (a : Ans) :
    (∀ k, k < 4 → LrOk ((tookL L a).1 k)) ∧ (∀ k, ((tookL L a).1 k).l = (L k).l) ∧ (∀ k, k < 4 → (L k).acked ≤ ((tookL L a).1 k).acked) ∧
    ((tookL L a).2 = 10 ∨ (tookL L a).2 = 0 ∨ (tookL L a).2 = 220) := by
  unfold tookL
  have hg := (grpN_eq a.op.obj).2
  revert hg
  generalize hgg : grpN a.op.obj = g
  clear hgg
  intro hg
  have same : (∀ k, k < 4 → LrOk (L k)) ∧ (∀ k, (L k).l = (L k).l) ∧ (∀ k, k < 4 → (L k).acked ≤ (L k).acked) := ⟨hv, fun _ => rfl, fun _ _ => Nat.le_refl _⟩
  unfold tookG
  split
  · exact ⟨same.1, same.2.1, same.2.2, .inl rfl⟩
  · split
    · refine ⟨same.1, same.2.1, same.2.2, ?_⟩
      dsimp only
      split
      · exact .inr (.inl rfl)
      · exact .inr (.inr rfl)
    · split
      · exact ⟨same.1, same.2.1, same.2.2, .inr (.inr rfl)⟩
      · rename_i i hI
        obtain ⟨e, he, _⟩ := idxE_some hI
        have hil : i < (L g).l.length := (List.getElem?_eq_some_iff.1 he).1
        split
        · refine ⟨fun k hk => ?_, fun k => ?_, fun k hk => ?_, .inr (.inl rfl)⟩
          · dsimp only [updL]
            split
            · obtain ⟨v1, v2, v3⟩ := hv g hg
              exact ⟨v1, v2, by dsimp only; omega⟩
            · exact hv k hk
          · dsimp only [updL]
            split
            · rename_i h; rw [h]
            · rfl
          · dsimp only [updL]
            split
            · rename_i h; rw [h]; dsimp only; omega
            · exact Nat.le_refl _
        · exact ⟨same.1, same.2.1, same.2.2, .inr (.inr rfl)⟩

theorem see_frz {o : Nat} {g : AV} {x : AV} {y : DV} {H H1 : Heap} (hg : ∃ d, g = .d d) (h : frzV H x = (.d y, H1)) : evF C F_witness_Order_See [.ptr o 0, g, x] H = evF C F_witness_Order_See [.ptr o 0, g, .d y] H1 := by
  obtain ⟨d, rfl⟩ := hg
  rw [evF_codef (rfl : C F_witness_Order_See = some f_witness_Order_See) _ _ [.ptr o 0, .d d, .d y] H1 (by simp [frzL, h]) rfl,
    evF_codef (rfl : C F_witness_Order_See = some f_witness_Order_See) _ _ [.ptr o 0, .d d, .d y] H1 (by simp [frzL, frzV, toD]) rfl]
end Go.Proofs.YtlihpaegaikoeaaDoor
