/- The pure evaluator: a region's operations in another order. -/
import Derived.Test.YtlihpaegaikoeaaDoorPvLoc
set_option linter.all false
namespace Pv
open Go

def Teq (T T' : Tm) : Prop := ∀ i, lk T i = lk T' i

inductive RunI (P : Program) (aops : List AOper) (τ : Nat → Tch) : List Nat → Tm → Heap → Tm × Heap → Prop
  | nil {T H} : RunI P aops τ [] T H (T, H)
  | cons {i o L T H v H' res} (ho : aops[i]? = some o) (h1 : Op1 P o (τ i) T H v H') (h : RunI P aops τ L (setT T o.dst v) H' res) : RunI P aops τ (i :: L) T H res

section
variable {P : Program} {aops : List AOper} {τ : Nat → Tch} {T T' : Tm} {H : Heap}

theorem Teq.set (h : Teq T T') (d : Option Nat) (v : AV) : Teq (setT T d v) (setT T' d v) := by
  cases d with
  | none => exact h
  | some d =>
    intro i
    rw [setT_some, setT_some, lk_cons, lk_cons, h i]

theorem RunI.congr : ∀ {L : List Nat} {T T' : Tm} {H : Heap} {res : Tm × Heap}, Teq T T' → RunI P aops τ L T H res → ∃ res' : Tm × Heap, Teq res.1 res'.1 ∧ res.2 = res'.2 ∧ RunI P aops τ L T' H res'
  | _, T, T', H, _, he, .nil => ⟨(T', H), he, rfl, .nil⟩
  | _, T, T', H, _, he, .cons ho h1 h => by
    obtain ⟨res', h2, h3, h4⟩ := RunI.congr (he.set _ _) h
    exact ⟨res', h2, h3, .cons ho (h1.locT fun t _ => he t) h4⟩

theorem Op1.len {o : AOper} {t : Tch} {v : AV} {H' : Heap} (h : Op1 P o t T H v H') : H.length ≤ H'.length := by
  have hl := h.loc
  cases t with
  | none => rw [hl.1]; exact Nat.le_refl _
  | rd k => rw [hl.1]; exact Nat.le_refl _
  | wr k => obtain ⟨c, rfl, _⟩ := hl; simp
  | wrs k os => obtain ⟨c, rfl, _⟩ := hl; simp
  | keep n s => exact hl.2.1
  | new k => obtain ⟨c, _, rfl, _⟩ := hl; rw [putAt_len]; omega
  | frz os => obtain ⟨h1, _⟩ := hl; omega
  | loc m s => obtain ⟨A, A', Y, _, h1, rfl, rfl, _⟩ := hl; simp [h1]
  | grow => obtain ⟨Z, rfl, _⟩ := hl; simp
  | glob =>
    rcases h with ⟨_, _, rfl, _⟩ | ⟨_, h⟩
    · exact Nat.le_refl _
    · rcases h with ⟨g, args, f, as, hop, hcl, hr⟩ | ⟨hnc, e, ha, rfl⟩ | ⟨k, c, _, _, _, ht⟩
      · rcases hr with ⟨ds, H1, p, htd, hsr, hb⟩ | ⟨_, _, hle⟩ | ⟨ds, p, k, c, _, _, _, _, _, _, ht⟩
        · have h1 := toDs_len _ htd
          unfold behind0 at hb
          split at hb
          · rename_i y H3 had
            simp only [Option.some.injEq, Prod.mk.injEq] at hb
            obtain ⟨rfl, rfl, _⟩ := hb
            have := (adoptR_len had).1
            omega
          · simp at hb
        · exact hle
        · simp at ht
      · exact act_heap ha
      · simp at ht

theorem apartA_spec {x y : AOper} (h : apartA x y = true) : (∀ d, x.dst = some d → d ∉ looksA y) ∧ (∀ d, y.dst = some d → d ∉ looksA x) ∧ (∀ d d', x.dst = some d → y.dst = some d' → d ≠ d') := by
  unfold apartA at h
  cases hx : x.dst with
  | none =>
    cases hy : y.dst with
    | none => simp
    | some d' => rw [hx, hy] at h; simpa using h
  | some d =>
    cases hy : y.dst with
    | none => rw [hx, hy] at h; simpa using h
    | some d' =>
      rw [hx, hy] at h
      simp at h
      exact ⟨fun e he => by simp at he; subst he; exact h.1, fun e he => by simp at he; subst he; exact h.2.1, fun e e' he he' => by simp at he he'; subst he; subst he'; exact h.2.2⟩

theorem lk_setT_ne {d : Option Nat} {v : AV} {t : Nat} (h : ∀ d', d = some d' → d' ≠ t) : lk (setT T d v) t = lk T t := by
  cases d with
  | none => rfl
  | some d' =>
    rw [setT_some, lk_cons, if_neg]
    intro he
    exact h d' rfl he.symm

theorem setT_comm {d d' : Option Nat} {v v' : AV} (h : ∀ e e', d = some e → d' = some e' → e ≠ e') : Teq (setT (setT T d v) d' v') (setT (setT T d' v') d v) := by
  intro i
  cases d with
  | none => rfl
  | some e =>
    cases d' with
    | none => rfl
    | some e' =>
      have hne := h e e' rfl rfl
      simp only [setT_some, lk_cons]
      by_cases h1 : i = e'
      · subst h1
        rw [if_pos rfl, if_neg (Ne.symm hne), if_pos rfl]
      · rw [if_neg h1]
        by_cases h2 : i = e
        · rw [if_pos h2, if_pos h2]
        · rw [if_neg h2, if_neg h2, if_neg h1]

theorem Full.unput {H : Heap} {k i : Nat} {c : Ob} (h : Full (putAt H k c) i) (hne : i ≠ k) : i < H.length := by
  obtain ⟨ob, h1, h2⟩ := h
  rw [putAt_get, if_neg hne] at h1
  split at h1
  · assumption
  · split at h1
    · simp at h1; exact absurd h1.symm h2
    · simp at h1
theorem freeAt.put {H : Heap} {k i : Nat} {c : Ob} (h : freeAt H i) (hne : i ≠ k) : freeAt (putAt H k c) i := by
  unfold freeAt at h ⊢
  rw [putAt_len, putAt_get, if_neg hne]
  rcases h with h | h
  · by_cases hk : i < k
    · right; rw [if_neg (by omega), if_pos hk]
    · left; omega
  · have := (List.getElem?_eq_some_iff.1 h).1
    right; rw [if_pos this]; exact h
theorem freeAt.unput {H : Heap} {k i : Nat} {c : Ob} (h : freeAt (putAt H k c) i) (hne : i ≠ k) : freeAt H i := by
  unfold freeAt at h ⊢
  rw [putAt_len, putAt_get, if_neg hne] at h
  rcases h with h | h
  · left; omega
  · split at h
    · right; exact h
    · left; omega
theorem putAt_comm {H : Heap} {k i : Nat} {c d : Ob} (hne : i ≠ k) : putAt (putAt H k c) i d = putAt (putAt H i d) k c := by
  apply List.ext_getElem?
  intro j
  rw [putAt_get, putAt_get, putAt_get, putAt_get, putAt_len, putAt_len]
  by_cases h1 : j = i
  · subst h1
    rw [if_pos rfl, if_neg hne, if_pos rfl]
    by_cases h2 : j < max H.length (j + 1)
    · rw [if_pos h2]
    · omega
  · by_cases h2 : j = k
    · subst h2
      rw [if_neg h1, if_pos rfl, if_pos rfl, if_pos (by omega)]
    · simp only [h1, h2, if_false]
      by_cases h3 : j < H.length
      · rw [if_pos (by omega), if_pos h3, if_pos (by omega), if_pos h3]
      · simp only [h3, if_false]
        (repeat' split) <;> first | rfl | (exfalso; omega)
theorem putAt_append {A Y : Heap} {k : Nat} {c : Ob} (h : A.length ≤ k) : putAt (A ++ Y) k c = A ++ putAt Y (k - A.length) c := by
  apply List.ext_getElem?
  intro j
  rw [putAt_get, List.length_append]
  by_cases hj : j < A.length
  · rw [List.getElem?_append_left hj, if_neg (by omega), if_pos (by omega), List.getElem?_append_left hj]
  · have e1 : (A ++ Y)[j]? = Y[j - A.length]? := List.getElem?_append_right (by omega)
    have e2 : (A ++ putAt Y (k - A.length) c)[j]? = (putAt Y (k - A.length) c)[j - A.length]? := List.getElem?_append_right (by omega)
    rw [e1, e2, putAt_get]
    (repeat' split) <;> first | rfl | (exfalso; omega)

theorem freeAt_append {A Y : Heap} {k : Nat} (h : A.length ≤ k) : freeAt (A ++ Y) k ↔ freeAt Y (k - A.length) := by
  unfold freeAt
  rw [List.length_append, List.getElem?_append_right h]
  constructor <;> intro h1 <;> rcases h1 with h1 | h1 <;> first | (left; omega) | (right; exact h1)

theorem swap {oi oj : AOper} {ti tj : Tch} (hap : apartA oi oj = true) {n0 : Nat} (hin : indep n0 ti tj = true) (hn : n0 ≤ H.length) {vi vj : AV} {Hi Hij : Heap} (h1 : Op1 P oi ti T H vi Hi) (h2 : Op1 P oj tj (setT T oi.dst vi) Hi vj Hij) :
    ∃ Hj, Op1 P oj tj T H vj Hj ∧ Op1 P oi ti (setT T oj.dst vj) Hj vi Hij := by
  obtain ⟨a1, a2, a3⟩ := apartA_spec hap
  have h2' : Op1 P oj tj T Hi vj Hij := h2.locT fun t ht => lk_setT_ne fun d hd he => a1 d hd (he ▸ ht)
  have back : ∀ {Hj Hf : Heap}, Op1 P oi ti T Hj vi Hf → Op1 P oi ti (setT T oj.dst vj) Hj vi Hf := fun h => h.locT fun t ht => (lk_setT_ne fun d hd he => a2 d hd (he ▸ ht)).symm
  have l1 := h1.loc
  have l2 := h2'.loc
  cases ti with
  | none =>
    obtain ⟨rfl, k1⟩ := l1
    exact ⟨Hij, h2', back (k1 Hij)⟩
  | rd k =>
    obtain ⟨rfl, f1, k1⟩ := l1
    cases tj with
    | none => obtain ⟨rfl, k2⟩ := l2; exact ⟨_, h2', back h1⟩
    | rd k' => obtain ⟨rfl, _, k2⟩ := l2; exact ⟨_, h2', back h1⟩
    | wr k' =>
      obtain ⟨c, rfl, hlt, k2⟩ := l2
      simp [indep] at hin
      exact ⟨_, h2', back (k1 _ (by rw [List.getElem?_set_ne (Ne.symm hin)]))⟩
    | new k' =>
      obtain ⟨c, hf, rfl, k2⟩ := l2
      simp [indep] at hin
      exact ⟨_, h2', back (k1 _ (putAt_get_ne (Ne.symm hin) f1.lt))⟩
    | glob => simp [indep] at hin
    | loc m sm =>
      obtain ⟨A, A', Y, _, _, hH, rfl, hsm, k2⟩ := l2
      simp only [indep] at hin
      obtain rfl := hsm hin
      exact ⟨_, h2', back (by rw [← hH]; exact h1)⟩
    | wrs o os => simp [indep] at hin
    | keep n s =>
      obtain ⟨rfl, _, hk⟩ := l2
      simp only [indep, Bool.and_eq_true, decide_eq_true_eq] at hin
      have hk := congrArg (fun X : Heap => X[k]?) (hk hin.1)
      simp only [List.getElem?_take_of_lt hin.2] at hk
      exact ⟨_, h2', back (k1 _ hk)⟩
    | grow =>
      obtain ⟨Z, rfl, k2⟩ := l2
      exact ⟨_, h2', back (k1 _ (List.getElem?_append_left f1.lt))⟩
    | frz os =>
      obtain ⟨hln, k2, _⟩ := l2
      simp only [indep, Bool.not_eq_true', List.contains_eq_mem, decide_eq_false_iff_not] at hin
      exact ⟨_, h2', back (k1 _ (k2 k hin))⟩
  | wr k =>
    obtain ⟨c, rfl, f1, k1⟩ := l1
    cases tj with
    | none => obtain ⟨rfl, k2⟩ := l2; exact ⟨H, k2 H, back (k1 H rfl)⟩
    | rd k' =>
      obtain ⟨rfl, _, k2⟩ := l2
      simp [indep] at hin
      exact ⟨H, k2 H (by rw [List.getElem?_set_ne hin]), back (k1 H rfl)⟩
    | wr k' =>
      obtain ⟨c', rfl, hlt', k2⟩ := l2
      simp [indep] at hin
      refine ⟨H.set k' c', k2 H (by rw [List.getElem?_set_ne hin]), ?_⟩
      have := back (k1 (H.set k' c') (by rw [List.getElem?_set_ne (Ne.symm hin)]))
      rwa [List.set_comm _ _ (Ne.symm hin)] at this
    | new k' =>
      obtain ⟨c', hf, rfl, k2⟩ := l2
      simp [indep] at hin
      have hf' : freeAt H k' := by
        unfold freeAt at hf ⊢
        rw [List.length_set, List.getElem?_set_ne (Ne.symm hin)] at hf
        exact hf
      refine ⟨putAt H k' c', k2 H hf', ?_⟩
      have := back (k1 (putAt H k' c') (putAt_get_ne (Ne.symm hin) f1.lt))
      rwa [putAt_set (Ne.symm hin) f1.lt] at this
    | glob => simp [indep] at hin
    | loc m sm => simp [indep] at hin
    | wrs o os => simp [indep] at hin
    | keep n s => simp [indep] at hin
    | grow =>
      obtain ⟨Z, rfl, k2⟩ := l2
      refine ⟨H ++ Z, k2 H (by simp), ?_⟩
      have := back (k1 (H ++ Z) (List.getElem?_append_left f1.lt))
      rwa [List.set_append_left _ _ f1.lt] at this
    | frz os => simp [indep] at hin
  | new k =>
    obtain ⟨c, hf1, rfl, k1⟩ := l1
    cases tj with
    | none => obtain ⟨rfl, k2⟩ := l2; exact ⟨H, k2 H, back (k1 H hf1)⟩
    | rd k' =>
      obtain ⟨rfl, f2, k2⟩ := l2
      simp [indep] at hin
      have hlt := f2.unput (Ne.symm hin)
      exact ⟨H, k2 H (putAt_get_ne (Ne.symm hin) hlt).symm, back (k1 H hf1)⟩
    | wr k' =>
      obtain ⟨c', rfl, f2, k2⟩ := l2
      simp [indep] at hin
      have hlt := f2.unput (Ne.symm hin)
      refine ⟨H.set k' c', k2 H (putAt_get_ne (Ne.symm hin) hlt).symm, ?_⟩
      have hf' : freeAt (H.set k' c') k := by
        unfold freeAt at hf1 ⊢
        rw [List.length_set, List.getElem?_set_ne (Ne.symm hin)]
        exact hf1
      have := back (k1 (H.set k' c') hf')
      rwa [← putAt_set (Ne.symm hin) hlt] at this
    | new k' =>
      obtain ⟨c', hf2, rfl, k2⟩ := l2
      simp [indep] at hin
      have hf2' := hf2.unput (Ne.symm hin)
      refine ⟨putAt H k' c', k2 H hf2', ?_⟩
      have := back (k1 (putAt H k' c') (hf1.put hin))
      rwa [putAt_comm hin] at this
    | glob => simp [indep] at hin
    | loc m sm => simp [indep] at hin
    | wrs o os => simp [indep] at hin
    | keep n s => simp [indep] at hin
    | grow => simp [indep] at hin
    | frz os => simp [indep] at hin
  | frz os =>
    obtain ⟨hln, k1, k3⟩ := l1
    cases tj with
    | new k =>
      obtain ⟨c, hf, rfl, k2⟩ := l2
      simp only [indep, Bool.not_eq_true', List.contains_eq_mem, decide_eq_false_iff_not] at hin
      have hf' : freeAt H k := by
        unfold freeAt at hf ⊢
        rw [hln, k1 k hin] at hf
        exact hf
      exact ⟨putAt H k c, k2 H hf', back (k3 k c hin hf')⟩
    | none => obtain ⟨rfl, k2⟩ := l2; exact ⟨H, k2 H, back h1⟩
    | rd k =>
      obtain ⟨rfl, _, k2⟩ := l2
      simp only [indep, Bool.not_eq_true', List.contains_eq_mem, decide_eq_false_iff_not] at hin
      exact ⟨H, k2 H (k1 k hin).symm, back h1⟩
    | _ => simp [indep] at hin
  | loc m sm =>
    obtain ⟨A, A', Y, rfl, hln, rfl, rfl, hsm, k1⟩ := l1
    cases tj with
    | rd k =>
      obtain ⟨rfl, _, k2⟩ := l2
      simp only [indep] at hin
      obtain rfl := hsm hin
      exact ⟨_, h2', back h1⟩
    | none => obtain ⟨rfl, k2⟩ := l2; exact ⟨_, k2 _, back h1⟩
    | new k =>
      obtain ⟨c, hf, rfl, k2⟩ := l2
      simp [indep] at hin
      have hf' : freeAt (A ++ Y) k := (freeAt_append hin).2 (by rw [← hln]; exact (freeAt_append (by omega)).1 hf)
      refine ⟨putAt (A ++ Y) k c, k2 _ hf', ?_⟩
      have := back (k1 (putAt Y (k - A.length) c))
      rw [putAt_append hin, putAt_append (A := A') (by omega), hln]
      exact this
    | _ => simp [indep] at hin
  | grow =>
    obtain ⟨Z, rfl, k1⟩ := l1
    cases tj with
    | none => obtain ⟨rfl, k2⟩ := l2; exact ⟨H, k2 H, back h1⟩
    | rd k =>
      obtain ⟨rfl, f2, k2⟩ := l2
      simp [indep] at hin
      exact ⟨H, k2 H (List.getElem?_append_left (by omega)).symm, back h1⟩
    | wr k =>
      obtain ⟨c, rfl, f2, k2⟩ := l2
      simp [indep] at hin
      have hk : k < H.length := by omega
      refine ⟨H.set k c, k2 H (List.getElem?_append_left hk).symm, ?_⟩
      have := back (k1 (H.set k c) (by simp))
      rwa [← List.set_append_left _ _ hk] at this
    | _ => simp [indep] at hin
  | glob =>
    cases tj with
    | none => obtain ⟨rfl, k2⟩ := l2; exact ⟨H, k2 H, back h1⟩
    | _ => simp [indep] at hin
  | keep n s =>
    obtain ⟨rfl, _, hk⟩ := l1
    cases tj with
    | none => obtain ⟨rfl, k2⟩ := l2; exact ⟨H, k2 H, back h1⟩
    | rd k =>
      obtain ⟨rfl, _, k2⟩ := l2
      simp only [indep, Bool.and_eq_true, decide_eq_true_eq] at hin
      have hk := congrArg (fun X : Heap => X[k]?) (hk hin.1)
      simp only [List.getElem?_take_of_lt hin.2] at hk
      exact ⟨H, k2 H hk.symm, back h1⟩
    | _ => simp [indep] at hin
  | wrs k os =>
    obtain ⟨c, rfl, f1, fs, k1⟩ := l1
    cases tj with
    | none => obtain ⟨rfl, k2⟩ := l2; exact ⟨H, k2 H, back h1⟩
    | new k' =>
      obtain ⟨c', hf, rfl, k2⟩ := l2
      simp only [indep, Bool.and_eq_true, bne_iff_ne, ne_eq, Bool.not_eq_true', List.contains_eq_mem, decide_eq_false_iff_not] at hin
      obtain ⟨hin, hos⟩ := hin
      have hf' : freeAt H k' := by
        unfold freeAt at hf ⊢
        rw [List.length_set, List.getElem?_set_ne hin] at hf
        exact hf
      refine ⟨putAt H k' c', k2 H hf', ?_⟩
      have := back (k1 (putAt H k' c') (putAt_get_ne hin f1.lt) (fun j hj => putAt_get_ne (fun h => hos (h ▸ hj)) (fs j hj).lt))
      rwa [putAt_set hin f1.lt] at this
    | _ => simp [indep] at hin

/-- Two operations of a region that may be done in either order. -/
def Free (aops : List AOper) (τ : Nat → Tch) (n0 : Nat) (i j : Nat) : Prop :=
  ∃ oi oj, aops[i]? = some oi ∧ aops[j]? = some oj ∧ apartA oi oj = true ∧ indep n0 (τ i) (τ j) = true

theorem bubble {n0 : Nat} : ∀ {pre : List Nat} {j : Nat} {post : List Nat} {T : Tm} {H : Heap} {res : Tm × Heap}, (∀ i ∈ pre, Free aops τ n0 i j) → n0 ≤ H.length → RunI P aops τ (pre ++ j :: post) T H res →
    ∃ res' : Tm × Heap, Teq res.1 res'.1 ∧ res.2 = res'.2 ∧ RunI P aops τ (j :: (pre ++ post)) T H res'
  | [], j, post, T, H, res, _, _, h => ⟨res, fun _ => rfl, rfl, h⟩
  | i :: pre, j, post, T, H, res, hf, hn, h => by
    cases h with
    | @cons _ oi _ _ _ vi Hi _ hoi h1 h =>
      obtain ⟨r1, e1, e2, h2⟩ := bubble (fun k hk => hf k (by simp [hk])) (Nat.le_trans hn h1.len) h
      cases h2 with
      | @cons _ oj _ _ _ vj Hij _ hoj h2 h3 =>
        obtain ⟨oi', oj', hi', hj', hap, hin⟩ := hf i (by simp)
        rw [hoi] at hi'
        rw [hoj] at hj'
        injection hi' with hi'
        injection hj' with hj'
        subst hi'; subst hj'
        obtain ⟨Hj, k1, k2⟩ := swap hap hin hn h1 h2
        obtain ⟨r2, e3, e4, h4⟩ := RunI.congr (setT_comm (apartA_spec hap).2.2) h3
        exact ⟨r2, fun k => (e1 k).trans (e3 k), e2.trans e4, .cons hoj k1 (.cons hoi k2 h4)⟩

end
end Pv
