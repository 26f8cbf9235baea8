/- One order: what was acknowledged stays: the list that the law keeps, in memory. -/
import Derived.Test.YtlihpaegaikoeaaDoorWtQ
set_option linter.all false
namespace Go.Proofs.YtlihpaegaikoeaaDoor
open Pv Go Pk
set_option maxRecDepth 10000
set_option maxHeartbeats 4000000

structure Q4 where
  a0 : AV
  a1 : AV
  a2 : AV
  a3 : AV
def Q4.cs (q : Q4) : List AV := [q.a0, q.a1, q.a2, q.a3]
def Q4.get (q : Q4) : Nat → AV
  | 0 => q.a0
  | 1 => q.a1
  | 2 => q.a2
  | _ => q.a3
def Q4.set (q : Q4) (k : Nat) (x : AV) : Q4 := match k with
  | 0 => { q with a0 := x }
  | 1 => { q with a1 := x }
  | 2 => { q with a2 := x }
  | _ => { q with a3 := x }
theorem Q4.get_set (q : Q4) (k j : Nat) (x : AV) (hk : k < 4) (hj : j < 4) : (q.set k x).get j = if j = k then x else q.get j := by
  rcases (by omega : k = 0 ∨ k = 1 ∨ k = 2 ∨ k = 3) with rfl | rfl | rfl | rfl <;> rcases (by omega : j = 0 ∨ j = 1 ∨ j = 2 ∨ j = 3) with rfl | rfl | rfl | rfl <;> rfl
theorem Q4.len (q : Q4) : q.cs.length = 4 := rfl
theorem Q4.rd {k : Nat} (hk : k < 4) : ∀ q : Q4, q.cs[k]? = some (q.get k) := by
  rcases (by omega : k = 0 ∨ k = 1 ∨ k = 2 ∨ k = 3) with rfl | rfl | rfl | rfl <;> exact fun _ => rfl
theorem Q4.wr {k : Nat} (hk : k < 4) : ∀ (q : Q4) (x : AV), upd q.cs k [x] = (q.set k x).cs := by
  rcases (by omega : k = 0 ∨ k = 1 ∨ k = 2 ∨ k = 3) with rfl | rfl | rfl | rfl <;> exact fun _ _ => rfl
theorem Q4.allD {q : Q4} (h : ndA q.a0 = true) : Pv.allD q.cs = none := by
  rw [show q.cs = [] ++ q.a0 :: q.cs.drop 1 from rfl, allD_nd _ _ _ h]
theorem Q4.nd_set {q : Q4} (h : ndA q.a0 = true) (k : Nat) {x : AV} (hx : ndA x = true) : ndA (q.set k x).a0 = true := by
  match k with
  | 0 => exact hx
  | 1 | 2 => exact h
  | k + 3 => exact h
theorem Q4.lt_iff (q : Q4) (n : Nat) : lts n q.cs = true ↔ ∀ k < 4, Pv.lt n (q.get k) = true := by
  have e : lts n q.cs = (Pv.lt n q.a0 && (Pv.lt n q.a1 && (Pv.lt n q.a2 && (Pv.lt n q.a3 && true)))) := rfl
  rw [e]
  simp only [Bool.and_eq_true, and_true]
  constructor
  · rintro ⟨h0, h1, h2, h3⟩ k hk
    rcases (by omega : k = 0 ∨ k = 1 ∨ k = 2 ∨ k = 3) with rfl | rfl | rfl | rfl
    · exact h0
    · exact h1
    · exact h2
    · exact h3
  · intro h
    exact ⟨h 0 (by omega), h 1 (by omega), h 2 (by omega), h 3 (by omega)⟩

/-- One group's list: its first c entries. -/
def LRow (H : Heap) (V : Nat → Prop) (A : Q4) (k : Nat) (l : List Entry) (c : Nat) : Prop :=
  (A.get k = .nilS ∧ c = 0) ∨ ∃ q wr, A.get k = .view q c 8 0 c ∧ H[q]? = some (.arr ((l.take c).map Entry.d) wr) ∧ ¬ V q ∧ ∀ j, j < 4 → j ≠ k → ∀ p g z off len, A.get j = .view p g z off len → p ≠ q
structure LS (H : Heap) (L : Nat → Lr) (c : Nat → Nat) : Prop where
  ord : ∃ V, Ord H 0 L V ∧ ∃ A : Q4, H[1]? = some (.box (.agg A.cs)) ∧ ndA A.a0 = true ∧ ∀ k, k < 4 → LRow H V A k (L k).l (c k)
  ok : ∀ k, k < 4 → LrOk (L k)
  le : ∀ k, k < 4 → c k ≤ (L k).acked

theorem LS.take {H : Heap} {L : Nat → Lr} {c : Nat → Nat} (h : LS H L c) {n : Nat} (hn : 2 ≤ n) (hl : n ≤ H.length) (hall : (H.take n).all (ltO n) = true) : LS (H.take n) L c := by
  obtain ⟨⟨V, hO, A, hA, hnd, hr⟩, h2, h3⟩ := h
  have hA' : (H.take n)[1]? = some (.box (.agg A.cs)) := by rw [List.getElem?_take_of_lt (by omega)]; exact hA
  have hlt : lts n A.cs = true := by
    rw [List.all_eq_true] at hall
    exact hall _ (List.mem_of_getElem? hA')
  refine ⟨⟨V, hO.take (by omega) hl hall, A, hA', hnd, fun k hk => ?_⟩, h2, h3⟩
  rcases hr k hk with h | ⟨q, wr, q1, q2, q3, q4⟩
  · exact .inl h
  · have h4 := (Q4.lt_iff _ _).1 hlt k hk
    rw [q1] at h4
    simp only [Pv.lt, decide_eq_true_eq] at h4
    exact .inr ⟨q, wr, q1, by rw [List.getElem?_take_of_lt h4]; exact q2, q3, q4⟩
theorem LS.trim {H : Heap} {L : Nat → Lr} {c : Nat → Nat} (h : LS H L c) {n : Nat} (hn : 2 ≤ n) (hl : n ≤ H.length) (vs : List AV) : LS (trim n vs H) L c := by
  rcases trim_cases n vs H with e | ⟨e, hall⟩
  · rw [e]; exact h
  · rw [e]; exact h.take hn hl hall
theorem LS.push {H : Heap} {L : Nat → Lr} {c : Nat → Nat} (h : LS H L c) {Y : Heap} (hY : okH (hf H Y)) : LS (hf H Y) L c := by
  obtain ⟨⟨V, hO, A, hA, hnd, hr⟩, h2, h3⟩ := h
  refine ⟨⟨V, hO.hf hY, A, hf_old hA Y, hnd, fun k hk => ?_⟩, h2, h3⟩
  rcases hr k hk with h | ⟨q, wr, q1, q2, q3, q4⟩
  · exact .inl h
  · exact .inr ⟨q, wr, q1, hf_old q2 Y, q3, q4⟩
/-- Whatever is seen or taken, the list stays. -/
theorem LS.step {H G : Heap} {L L' : Nat → Lr} {c : Nat → Nat} (h : LS H L c) (hG : ∀ V, Ord H 0 L V → Ord G 0 L' (fun p => V p ∨ H.length ≤ p)) (hf : Fr 0 H G) (hok : ∀ k, k < 4 → LrOk (L' k))
    (hst : ∀ k, k < 4 → (L k).acked ≤ (L' k).acked ∧ (L' k).l.take (L k).acked = (L k).l.take (L k).acked) : LS G L' c := by
  obtain ⟨⟨V, hO, A, hA, hnd, hr⟩, h2, h3⟩ := h
  refine ⟨⟨_, hG V hO, A, hf.box (by omega) hA, hnd, fun k hk => ?_⟩, hok, fun k hk => Nat.le_trans (h3 k hk) (hst k hk).1⟩
  rcases hr k hk with h | ⟨q, wr, q1, q2, q3, q4⟩
  · exact .inl h
  · have hq0 : q ≠ 0 := by
      rintro rfl
      obtain ⟨_, W, ho, _⟩ := hO
      rw [ho] at q2
      cases q2
    obtain ⟨w', k2⟩ := hf.arr hq0 q2
    have hlt := (List.getElem?_eq_some_iff.1 q2).1
    refine .inr ⟨q, w', q1, ?_, fun h => h.elim q3 (by omega), q4⟩
    have e1 : (L' k).l.take (c k) = (L k).l.take (c k) := by
      have h4 := congrArg (List.take (c k)) (hst k hk).2
      rw [List.take_take, List.take_take, Nat.min_eq_left (h3 k hk)] at h4
      exact h4
    rw [e1]
    exact k2

def updC (c : Nat → Nat) (k v : Nat) : Nat → Nat := fun j => if j = k then v else c j
/-- An order stays one where an array that isn't its own is written. -/
theorem Ord.setarr {H : Heap} {o : Nat} {L : Nat → Lr} {V : Nat → Prop} (hO : Ord H o L V) {q : Nat} {es : List DV} {wr : Bool} (hq : H[q]? = some (.arr es wr)) (hV : ¬ V q) (es' : List DV) (wr' : Bool) : Ord (H.set q (.arr es' wr')) o L V := by
  obtain ⟨hok, W, ho, hnd, hrows⟩ := hO
  have hqo : q ≠ o := by rintro rfl; rw [ho] at hq; cases hq
  refine ⟨okH_set hok q rfl, W, by rw [List.getElem?_set_ne hqo]; exact ho, hnd, fun g hg => ⟨?_, (hrows g hg).2⟩⟩
  rcases (hrows g hg).1 with h | ⟨h1, p, w, h2, h3⟩
  · exact .inl h
  · have hVp := (hrows g hg).2.2.2 p _ _ _ _ h2
    refine .inr ⟨h1, p, w, h2, ?_⟩
    rw [List.getElem?_set_ne (by rintro rfl; exact hV hVp)]
    exact h3
theorem take_snoc {α : Type} {l : List α} {i : Nat} {e : α} (h : l[i]? = some e) : l.take (i + 1) = l.take i ++ [e] := by
  rw [List.take_add_one, h]
  rfl
/-- An entry is appended to a list that is nil yet. -/
theorem LS.app0 {H : Heap} {L : Nat → Lr} {c : Nat → Nat} {V : Nat → Prop} {A : Q4} (hO : Ord H 0 L V) (hA : H[1]? = some (.box (.agg A.cs))) (hnd : ndA A.a0 = true) (hr : ∀ k, k < 4 → LRow H V A k (L k).l (c k)) (hok : ∀ k, k < 4 → LrOk (L k)) (hle : ∀ k, k < 4 → c k ≤ (L k).acked)
    {k : Nat} (hk : k < 4) (hc : c k = 0) {e : Entry} (he : (L k).l[0]? = some e) (hack : 0 < (L k).acked) {Y : Heap} (hY : Y.all (ltO (H.length + Y.length)) = true) {q : Nat} (hq : H.length ≤ q) (hqY : Y[q - H.length]? = some (.arr [e.d] true)) :
    LS (hf (H.set 1 (.box (.agg (A.set k (.view q 1 8 0 1)).cs))) Y) L (updC c k 1) := by
  have hl1 : 1 < H.length := (List.getElem?_eq_some_iff.1 hA).1
  have hqlt : q < H.length + Y.length := by have := (List.getElem?_eq_some_iff.1 hqY).1; omega
  have hset : (H.set 1 (.box (.agg (A.set k (.view q 1 8 0 1)).cs))).length = H.length := List.length_set
  obtain ⟨hokH, W, ho, hndW, hrows⟩ := hO
  have hAlt : lts H.length A.cs = true := okH_at hokH hA
  have hokN : okH (hf (H.set 1 (.box (.agg (A.set k (.view q 1 8 0 1)).cs))) Y) := by
    unfold okH hf
    rw [List.length_append, hset, List.all_append, Bool.and_eq_true]
    refine ⟨?_, hY⟩
    rw [List.all_eq_true]
    intro x hx
    rcases List.mem_or_eq_of_mem_set hx with hx | rfl
    · unfold okH at hokH
      exact ltO_mono (by omega) x (List.all_eq_true.1 hokH x hx)
    · show lts _ _ = true
      rw [Q4.lt_iff]
      intro j hj
      rw [Q4.get_set _ _ _ _ hk hj]
      split
      · simp [Pv.lt]; omega
      · exact lt_mono (by omega) _ ((Q4.lt_iff _ _).1 hAlt j hj)
  have old : ∀ (p : Nat) (x : Ob), p ≠ 1 → H[p]? = some x → (hf (H.set 1 (.box (.agg (A.set k (.view q 1 8 0 1)).cs))) Y)[p]? = some x := fun p x hp hx => hf_old (by rw [List.getElem?_set_ne (Ne.symm hp)]; exact hx) Y
  have ne1 : ∀ (p : Nat) (es : List DV) (w : Bool), H[p]? = some (.arr es w) → p ≠ 1 := by rintro p es w hp rfl; rw [hA] at hp; cases hp
  refine ⟨⟨fun p => V p ∧ p < H.length, ⟨hokN, W, old 0 _ (by omega) ho, hndW, fun g hg => ⟨?_, (hrows g hg).2.1, (hrows g hg).2.2.1, fun p g' z off len hb => ?_⟩⟩, A.set k (.view q 1 8 0 1), hf_old (List.getElem?_set_self hl1) Y, Q4.nd_set hnd k rfl, fun j hj => ?_⟩, hok, fun j hj => ?_⟩
  · rcases (hrows g hg).1 with h | ⟨h1, p, w, h2, h3⟩
    · exact .inl h
    · exact .inr ⟨h1, p, w, h2, old p _ (ne1 p _ _ h3) h3⟩
  · obtain ⟨w, h3⟩ := isRow_view (hrows g hg).1 hb
    exact ⟨(hrows g hg).2.2.2 p g' z off len hb, (List.getElem?_eq_some_iff.1 h3).1⟩
  · unfold LRow updC
    rw [Q4.get_set _ _ _ _ hk hj]
    by_cases hjk : j = k
    · subst hjk
      rw [if_pos rfl, if_pos rfl]
      refine .inr ⟨q, true, rfl, ?_, fun h => by omega, fun i hi hik p g z off len hp => ?_⟩
      · have : (L j).l.take 1 = [e] := by rw [take_snoc he]; rfl
        rw [this]
        unfold hf
        rw [List.getElem?_append_right (by rw [hset]; omega), hset]
        exact hqY
      · rw [Q4.get_set _ _ _ _ hk hi, if_neg hik] at hp
        have := (Q4.lt_iff _ _).1 hAlt i hi
        rw [hp] at this
        simp only [Pv.lt, decide_eq_true_eq] at this
        omega
    · rw [if_neg hjk, if_neg hjk]
      rcases hr j hj with h | ⟨q', wr, q1, q2, q3, q4⟩
      · exact .inl h
      · have hq' := (List.getElem?_eq_some_iff.1 q2).1
        refine .inr ⟨q', wr, q1, old q' _ (ne1 q' _ _ q2) q2, fun h => q3 h.1, fun i hi hij p g z off len hp => ?_⟩
        rw [Q4.get_set _ _ _ _ hk hi] at hp
        split at hp
        · injection hp with hp
          omega
        · exact q4 i hi hij p g z off len hp
  · unfold updC
    split
    · rename_i h; subst h; omega
    · exact hle j hj
/-- An entry is appended to a list that has some. -/
theorem LS.app1 {H : Heap} {L : Nat → Lr} {c : Nat → Nat} {V : Nat → Prop} {A : Q4} (hO : Ord H 0 L V) (hA : H[1]? = some (.box (.agg A.cs))) (hnd : ndA A.a0 = true) (hr : ∀ k, k < 4 → LRow H V A k (L k).l (c k)) (hok : ∀ k, k < 4 → LrOk (L k)) (hle : ∀ k, k < 4 → c k ≤ (L k).acked)
    {k : Nat} (hk : k < 4) {q : Nat} {wr : Bool} (hq1 : A.get k = .view q (c k) 8 0 (c k)) (hq2 : H[q]? = some (.arr (((L k).l.take (c k)).map Entry.d) wr)) (hq3 : ¬ V q) (hq4 : ∀ j, j < 4 → j ≠ k → ∀ p g z off len, A.get j = .view p g z off len → p ≠ q)
    {e : Entry} (he : (L k).l[c k]? = some e) (hack : c k < (L k).acked) {Y : Heap} (hY : Y.all (ltO (H.length + Y.length)) = true) :
    LS (hf ((H.set q (.arr (((L k).l.take (c k)).map Entry.d ++ [e.d]) wr)).set 1 (.box (.agg (A.set k (.view q (c k + 1) 8 0 (c k + 1))).cs))) Y) L (updC c k (c k + 1)) := by
  have hl1 : 1 < H.length := (List.getElem?_eq_some_iff.1 hA).1
  have hlq : q < H.length := (List.getElem?_eq_some_iff.1 hq2).1
  have hq1' : q ≠ 1 := by rintro rfl; rw [hA] at hq2; cases hq2
  have hO2 := hO.setarr hq2 hq3 (((L k).l.take (c k)).map Entry.d ++ [e.d]) wr
  have hAlt : lts H.length A.cs = true := okH_at hO.1 hA
  have hlt2 : lts H.length (A.set k (.view q (c k + 1) 8 0 (c k + 1))).cs = true := by
    rw [Q4.lt_iff]
    intro j hj
    rw [Q4.get_set _ _ _ _ hk hj]
    split
    · simp [Pv.lt]; omega
    · exact (Q4.lt_iff _ _).1 hAlt j hj
  have hO3 := hO2.setbox (q := 1) (by omega) (x := .agg A.cs) (y := .agg (A.set k (.view q (c k + 1) 8 0 (c k + 1))).cs) (by rw [List.getElem?_set_ne hq1']; exact hA) (by rw [List.length_set]; exact hlt2)
  have hlen3 : ((H.set q (.arr (((L k).l.take (c k)).map Entry.d ++ [e.d]) wr)).set 1 (.box (.agg (A.set k (.view q (c k + 1) 8 0 (c k + 1))).cs))).length = H.length := by rw [List.length_set, List.length_set]
  refine ⟨⟨V, hO3.hf (by rw [hf_ok hlen3 hO3.1]; exact hY), A.set k (.view q (c k + 1) 8 0 (c k + 1)), hf_old (List.getElem?_set_self (by rw [List.length_set]; exact hl1)) Y, Q4.nd_set hnd k rfl, fun j hj => ?_⟩, hok, fun j hj => ?_⟩
  · unfold LRow updC
    rw [Q4.get_set _ _ _ _ hk hj]
    by_cases hjk : j = k
    · subst hjk
      rw [if_pos rfl, if_pos rfl]
      refine .inr ⟨q, wr, rfl, hf_old ?_ Y, hq3, fun i hi hik p g z off len hp => ?_⟩
      · rw [List.getElem?_set_ne (Ne.symm hq1'), List.getElem?_set_self hlq, take_snoc he, List.map_append]
        rfl
      · rw [Q4.get_set _ _ _ _ hk hi, if_neg hik] at hp
        exact hq4 i hi hik p g z off len hp
    · rw [if_neg hjk, if_neg hjk]
      rcases hr j hj with h | ⟨q', wr', q1, q2, q3, q4⟩
      · exact .inl h
      · have hqq : q' ≠ q := hq4 j hj hjk q' _ _ _ _ q1
        have hq1'' : q' ≠ 1 := by rintro rfl; rw [hA] at q2; cases q2
        refine .inr ⟨q', wr', q1, hf_old (by rw [List.getElem?_set_ne (Ne.symm hq1''), List.getElem?_set_ne (Ne.symm hqq)]; exact q2) Y, q3, fun i hi hij p g z off len hp => ?_⟩
        rw [Q4.get_set _ _ _ _ hk hi] at hp
        split at hp
        · injection hp with hp
          omega
        · exact q4 i hi hij p g z off len hp
  · unfold updC
    split
    · rename_i h; subst h; omega
    · exact hle j hj
end Go.Proofs.YtlihpaegaikoeaaDoor
