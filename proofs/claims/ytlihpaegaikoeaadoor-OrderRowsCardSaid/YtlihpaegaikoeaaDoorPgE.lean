/- States made of entries from nothing: one list, folded up to some number. Plain laws, no code. -/
import Derived.Test.YtlihpaegaikoeaaDoorPgD
set_option linter.all false
namespace Go.Proofs.YtlihpaegaikoeaaDoor
open Pv Go Pk
set_option maxRecDepth 10000

/-! what an operation leaves may be -/
def ObjP (x : Objt) : Prop := x.data.size ≤ 16 ∧ (∀ j < 3, (x.attr.get j).size ≤ 16) ∧ (x.there = false → x = Objt.zero)
theorem okObj_iff (x : Objt) : okObj x = true ↔ ObjP x := by
  unfold okObj ObjP
  by_cases h : x.there = true
  · rw [if_pos h, Bool.and_eq_true, allN_true]
    simp only [decide_eq_true_eq]
    exact ⟨fun ⟨a, b⟩ => ⟨b, a, fun hh => by rw [h] at hh; simp at hh⟩, fun ⟨a, b, _⟩ => ⟨b, a⟩⟩
  · rw [if_neg h, decide_eq_true_eq]
    constructor
    · rintro rfl
      exact ⟨by decide, by decide, fun _ => rfl⟩
    · rintro ⟨_, _, h3⟩
      exact h3 (by simpa using h)
theorem doO_ok {x : Objt} {o : Opr} (hx : ObjP x) (h0 : 0 ≤ o.at_) (hd : o.data.size ≤ 16) : ObjP (doO x o).1 ∧ 0 ≤ (doO x o).2 ∧ (doO x o).2 ≤ 3 := by
  unfold doO
  split
  · unfold writeO
    split
    · exact ⟨hx, by simp, by simp⟩
    · rename_i hc
      refine ⟨⟨?_, hx.2.1, fun h => by simp at h⟩, by simp, by simp⟩
      have hg := grown_size x.data (o.at_.toNat + o.data.size)
      have := hx.1
      show (splice x.data o.at_.toNat o.data).size ≤ 16
      unfold splice
      simp [hg]
      omega
  · split
    · unfold truncO
      split
      · exact ⟨hx, by simp, by simp⟩
      · rename_i ht
        split
        · exact ⟨hx, by simp, by simp⟩
        · refine ⟨⟨?_, hx.2.1, fun h => absurd h ht⟩, by simp, by simp⟩
          have hg := grown_size x.data o.at_.toNat
          have := hx.1
          show ((grown x.data o.at_.toNat).extract 0 o.at_.toNat).size ≤ 16
          simp
          omega
    · split
      · unfold attrO
        split
        · exact ⟨hx, by simp, by simp⟩
        · rename_i ha
          split
          · exact ⟨hx, by simp, by simp⟩
          · rename_i ht
            refine ⟨⟨hx.1, fun j hj => ?_, fun h => absurd h ht⟩, by simp, by simp⟩
            show ((x.attr.set o.at_.toNat o.data).get j).size ≤ 16
            rw [R3.get_set _ _ _ _ (by omega) hj]
            split
            · exact hd
            · exact hx.2.1 j hj
      · unfold removeO
        split
        · exact ⟨hx, by simp, by simp⟩
        · exact ⟨⟨by decide, by decide, fun _ => rfl⟩, by simp, by simp⟩
theorem okBase_do {b : Base} {o : Opr} (hb : okBase b = true) (ho : o.ok) : okBase (doOp b o).1 = true := by
  unfold doOp
  split
  · exact hb
  · split
    · exact hb
    · rename_i hw _
      have hw : writes o = true := by simpa using hw
      obtain ⟨j, hj, hj', hj6⟩ := obj_idx ho hw
      have hcl := cl_lt hw
      have h0 : 0 ≤ o.at_ := by have := ho; simp only [Opr.ok] at this; omega
      obtain ⟨hd, _, _, _, hsq⟩ := isOp_le (writes_isOp (o := o) hw)
      unfold okBase at hb ⊢
      rw [Bool.and_eq_true, allN_true, allN_true] at hb ⊢
      have hx := doO_ok ((okObj_iff _).1 (hb.1 o.obj.toNat (by omega))) h0 hd
      refine ⟨fun i hi => ?_, fun i hi => ?_⟩
      · show okObj ((b.objs.set o.obj.toNat _).get i) = true
        rw [R6.get_set _ _ _ _ (by omega) hi]
        split
        · exact (okObj_iff _).2 hx.1
        · exact hb.1 i hi
      · show okLast ((b.last.set (o.client - 1).toNat _).get i) = true
        rw [R3.get_set _ _ _ _ hcl hi]
        split
        · unfold okLast
          have h1 : decide ((doO (b.objs.get o.obj.toNat) o).2 > 3) = false := by simp; omega
          have h2 : (o.seq == 0) = false := by simpa using hsq
          simp [h1, h2]
        · exact hb.2 i hi

/-! one list of entries -/
def baseOf (E : List Entry) : Base := (allOps Base.zero (E.map (·.op))).1
theorem baseOf_snoc (E : List Entry) (e : Entry) : baseOf (E ++ [e]) = (doOp (baseOf E) e.op).1 := by
  unfold baseOf
  rw [List.map_append, List.map_cons, List.map_nil, allOps_snoc]
theorem base_zero_ok : okBase Base.zero = true := by decide
theorem snoc_ind {α : Type} {p : List α → Prop} (h0 : p []) (hs : ∀ l x, p l → p (l ++ [x])) (l : List α) : p l := by
  have : ∀ n (l : List α), l.length = n → p l := by
    intro n
    induction n with
    | zero => intro l hl; rw [List.length_eq_zero_iff.1 hl]; exact h0
    | succ n ih =>
      intro l hl
      have hne : l ≠ [] := by intro h; rw [h] at hl; simp at hl
      rw [← List.dropLast_concat_getLast hne]
      exact hs _ _ (ih _ (by simp [hl]))
  exact this _ l rfl
theorem baseOf_ok {E : List Entry} (h : ∀ e ∈ E, e.op.ok) : okBase (baseOf E) = true := by
  induction E using snoc_ind with
  | h0 => exact base_zero_ok
  | hs E e ih => rw [baseOf_snoc]; exact okBase_do (ih fun x hx => h x (by simp [hx])) (h e (by simp))
def lastOf (E : List Entry) : Entry := match E.getLast? with
  | some e => e
  | none => Entry.zero
def tailOf (E : List Entry) : Entry := ⟨(lastOf E).since, (lastOf E).n, ⟨0, 0, 0, 0, 0, ⟨#[]⟩⟩⟩
theorem lastOf_snoc (E : List Entry) (e : Entry) : lastOf (E ++ [e]) = e := by simp [lastOf]
/-- A state made of these entries, the first k folded. -/
def mkSt (st : Int) (E : List Entry) (k : Nat) : State := ⟨st, baseOf (E.take k), tailOf (E.take k), E.drop k⟩
structure goodE (E : List Entry) : Prop where
  ch : chainE Entry.zero E = true
  ok : ∀ e ∈ E, e.op.ok
theorem chain_append : ∀ (l : List Entry) (last e : Entry), chainE last (l ++ [e]) = (chainE last l && nextE (match l.getLast? with | some x => x | none => last) e)
  | [], last, e => by simp [chainE]
  | x :: l, last, e => by
    simp only [List.cons_append, chainE, chain_append l x e, Bool.and_assoc]
    cases l with
    | nil => rfl
    | cons y l =>
      rw [List.getLast?_cons_cons]
      have : ∃ z, (y :: l).getLast? = some z := ⟨_, List.getLast?_eq_some_getLast (by simp)⟩
      obtain ⟨z, hz⟩ := this
      simp only [hz]
theorem chain_split : ∀ (l r : List Entry) (last : Entry), chainE last (l ++ r) = (chainE last l && chainE (match l.getLast? with | some x => x | none => last) r)
  | [], r, last => by simp [chainE]
  | x :: l, r, last => by
    simp only [List.cons_append, chainE, chain_split l r x, Bool.and_assoc]
    cases l with
    | nil => rfl
    | cons y l =>
      rw [List.getLast?_cons_cons]
      obtain ⟨z, hz⟩ : ∃ z, (y :: l).getLast? = some z := ⟨_, List.getLast?_eq_some_getLast (by simp)⟩
      simp only [hz]
theorem nextE_congr {a b : Entry} (h1 : a.n = b.n) (h2 : a.since = b.since) (e : Entry) : nextE a e = nextE b e := by unfold nextE; rw [h1, h2]
theorem chainE_congr {a b : Entry} (h1 : a.n = b.n) (h2 : a.since = b.since) (l : List Entry) : chainE a l = chainE b l := by
  cases l with
  | nil => rfl
  | cons e l => simp only [chainE, nextE_congr h1 h2]
theorem goodE.snoc {E : List Entry} {e : Entry} (h : goodE E) (hn : nextE (lastOf E) e = true) (ho : e.op.ok) : goodE (E ++ [e]) := by
  refine ⟨?_, fun x hx => ?_⟩
  · rw [chain_append, h.ch, Bool.true_and]
    unfold lastOf at hn
    revert hn
    cases E.getLast? with
    | none => exact id
    | some x => exact id
  · rcases List.mem_append.1 hx with hx | hx
    · exact h.ok x hx
    · simp only [List.mem_singleton] at hx; rw [hx]; exact ho
theorem goodE_nil : goodE [] := ⟨rfl, by simp⟩
theorem goodE.take {E : List Entry} (h : goodE E) (k : Nat) : goodE (E.take k) := by
  refine ⟨?_, fun e he => h.ok e (List.mem_of_mem_take he)⟩
  have := h.ch
  rw [← List.take_append_drop k E, chain_split, Bool.and_eq_true] at this
  exact this.1
theorem goodE.drop {E : List Entry} (h : goodE E) (k : Nat) : chainE (tailOf (E.take k)) (E.drop k) = true := by
  have := h.ch
  rw [← List.take_append_drop k E, chain_split, Bool.and_eq_true] at this
  have h2 := this.2
  rw [← h2]
  refine chainE_congr ?_ ?_ _ <;> unfold tailOf lastOf <;> cases (E.take k).getLast? <;> rfl
theorem goodE.nums {E : List Entry} (h : goodE E) : (∀ (i : Nat) (e : Entry), E[i]? = some e → e.n = i + 1) ∧ (lastOf E).n = E.length ∧ (E.length : Int) < 4294967296 := by
  obtain ⟨h1, h2, h3⟩ := chain_n (last := Entry.zero) ⟨by decide, by decide⟩ h.ch
  have z : Entry.zero.n = 0 := rfl
  rw [z] at h1 h2 h3
  refine ⟨fun i e he => by have := h1 i e he; omega, ?_, by omega⟩
  unfold lastOf
  revert h2
  cases E.getLast? with
  | none => intro h2; simp only at h2 ⊢; rw [h2]; rfl
  | some e => intro h2; simp only at h2 ⊢; omega
theorem goodE.sinces {E : List Entry} (h : goodE E) : 0 ≤ (lastOf E).since ∧ (lastOf E).since ≤ 60 := by
  induction E using snoc_ind with
  | h0 => exact ⟨by decide, by decide⟩
  | hs E e ih =>
    have hh := h.take E.length
    rw [List.take_left] at hh
    have := ih hh
    have hc := h.ch
    rw [chain_append, Bool.and_eq_true] at hc
    rw [lastOf_snoc]
    have hn : nextE (lastOf E) e = true := by
      have := hc.2
      unfold lastOf
      revert this
      cases E.getLast? <;> exact id
    unfold nextE at hn
    simp only [Bool.and_eq_true, decide_eq_true_eq] at hn
    omega
theorem mk_tail_n (st : Int) {E : List Entry} (h : goodE E) {k : Nat} (hk : k ≤ E.length) : (mkSt st E k).tail.n = k := by
  show (lastOf (E.take k)).n = k
  rw [(h.take k).nums.2.1, List.length_take]
  omega
theorem mk_is (st : Int) {E : List Entry} (h : goodE E) {k : Nat} (hk : k ≤ E.length) (h6 : E.length - k ≤ 6) (hst : st ≤ 60) : isSt (mkSt st E k) = true := by
  unfold isSt
  have h1 : decide ((mkSt st E k).started > 60) = false := by simp [mkSt]; omega
  have h2 : decide ((mkSt st E k).tail.since > 60) = false := by
    have := (h.take k).sinces
    show decide ((lastOf (E.take k)).since > 60) = false
    simp; omega
  have h3 : decide ((mkSt st E k).tail.op = (⟨0, 0, 0, 0, 0, ⟨#[]⟩⟩ : Opr)) = true := by simp [mkSt, tailOf]
  have h4 : decide (((mkSt st E k).log.length : Int) > 6) = false := by simp [mkSt]; omega
  have h5 : okBase (mkSt st E k).base = true := baseOf_ok fun e he => h.ok e (List.mem_of_mem_take he)
  have h6 : chainE (mkSt st E k).tail (mkSt st E k).log = true := h.drop k
  rw [h1, h2, h3, h4, h5, h6]
  rfl
theorem mk_ok (st : Int) {E : List Entry} (h : goodE E) {k : Nat} (hk : k ≤ E.length) : stOk (mkSt st E k) := by
  refine ⟨?_, fun e he => h.ok e (List.mem_of_mem_drop he)⟩
  rw [mk_tail_n st h hk]
  have := h.nums.2.2
  omega
theorem mk_last (st : Int) {E : List Entry} {k : Nat} (hk : k ≤ E.length) : (lastE (mkSt st E k)).n = (lastOf E).n ∧ (lastE (mkSt st E k)).since = (lastOf E).since := by
  unfold lastE
  by_cases c : k = E.length
  · subst c
    have h1 : (mkSt st E E.length).log = [] := by simp [mkSt]
    rw [h1]
    simp [mkSt, tailOf]
  · have h1 : (mkSt st E k).log.getLast? = E.getLast? := by
      show (E.drop k).getLast? = _
      rw [List.getLast?_drop, if_neg (by omega)]
    rw [h1]
    unfold lastOf
    have hne : E ≠ [] := by intro hh; subst hh; simp only [List.length_nil] at hk c; omega
    rw [List.getLast?_eq_some_getLast hne]
    exact ⟨rfl, rfl⟩
theorem mk_head (st : Int) {E : List Entry} (h : goodE E) {k : Nat} (hk : k ≤ E.length) (h6 : E.length - k ≤ 6) (hst : st ≤ 60) : headS (mkSt st E k) = ((lastOf E).since, (E.length : Int)) := by
  unfold headS
  rw [if_pos (mk_is st h hk h6 hst), (mk_last st hk).1, (mk_last st hk).2, h.nums.2.1]
theorem foldl_mk (st : Int) (E : List Entry) : ∀ (j k : Nat), k + j ≤ E.length → List.foldl foldE (mkSt st E k) ((E.drop k).take j) = { mkSt st E (k + j) with log := E.drop k }
  | 0, k, _ => rfl
  | j + 1, k, h => by
    have hk : k < E.length := by omega
    rw [List.drop_eq_getElem_cons hk, List.take_succ_cons, List.foldl_cons]
    have hst : ∀ (L : List Entry), foldE { mkSt st E k with log := L } E[k] = { mkSt st E (k + 1) with log := L } := by
      intro L
      have ht : E.take (k + 1) = E.take k ++ [E[k]] := by rw [List.take_succ_eq_append_getElem hk]
      unfold foldE mkSt
      simp only
      rw [ht, baseOf_snoc]
      unfold tailOf
      rw [lastOf_snoc]
    have e1 := hst (E.drop k)
    have e2 : ({ mkSt st E k with log := E.drop k } : State) = mkSt st E k := rfl
    rw [e2] at e1
    rw [e1]
    have gen : ∀ (l : List Entry) (s : State) (L : List Entry), List.foldl foldE { s with log := L } l = { List.foldl foldE s l with log := L } := by
      intro l
      induction l with
      | nil => intro s L; rfl
      | cons x l ih => intro s L; exact ih (foldE s x) L
    rw [gen, foldl_mk st E j (k + 1) (by omega)]
    have : k + 1 + j = k + (j + 1) := by omega
    rw [this]
    simp only [List.drop_eq_getElem_cons hk]
theorem mk_folded (st : Int) (E : List Entry) (j k : Nat) (h : k + j ≤ E.length) : foldedS (mkSt st E k) j = mkSt st E (k + j) := by
  unfold foldedS
  have := foldl_mk st E j k h
  show ({ List.foldl foldE (mkSt st E k) ((E.drop k).take j) with log := (E.drop k).drop j } : State) = _
  rw [this, List.drop_drop]
  rfl
theorem mk_add (st : Int) {E : List Entry} (h : goodE E) {k : Nat} (hk : k ≤ E.length) (h6 : E.length - k ≤ 6) (hst : st ≤ 60) (e : Entry) :
    addS (mkSt st E k) e = if nextE (lastOf E) e = true then (mkSt st (E ++ [e]) (k + (E.length - k + 1 - 6)), 0) else (State.zero, 10) := by
  unfold addS
  rw [mk_is st h hk h6 hst, Bool.true_and, nextE_congr (mk_last st hk).1 (mk_last st hk).2]
  split
  · have hl : (mkSt st E k).log.length = E.length - k := by simp [mkSt]
    have e1 : ({ mkSt st E k with log := (mkSt st E k).log ++ [e] } : State) = mkSt st (E ++ [e]) k := by
      unfold mkSt
      simp only
      rw [List.take_append_of_le_length hk, List.drop_append_of_le_length hk]
    rw [e1, hl, mk_folded st (E ++ [e]) _ k (by simp; omega)]
  · rfl
theorem wu32 {n : Nat} (h : n < 4294967296) : IntKind.u32.wrap (n : Int) = (n : Int) := by unfold IntKind.wrap; simp [IntKind.signed, IntKind.bits]; omega
/-- What a variable of a state's kind holds. -/
def stV (s : State) (z : AV) : Prop := z = .d (.agg s.cs) ∨ (z = .agg State.zeroA ∧ s = State.zero)
end Go.Proofs.YtlihpaegaikoeaaDoor
