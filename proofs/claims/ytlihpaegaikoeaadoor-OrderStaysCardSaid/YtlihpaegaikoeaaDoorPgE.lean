/- States of groups: adding, cutting, folding up to a number, finding. / States of groups: up to a number, cut, tail, same, find. / States made of entries from nothing: one list, folded up to some number. Plain laws, no code. -/
import Derived.Test.YtlihpaegaikoeaaDoorPgB
set_option linter.all false
namespace Go.Proofs.YtlihpaegaikoeaaDoor
open Pv Go Pk
set_option maxRecDepth 10000
set_option maxHeartbeats 2000000

theorem okBase_fit {b : Base} (h : okBase b = true) : Base.fit b := by
  unfold okBase at h
  rw [Bool.and_eq_true] at h
  intro i hi
  have := allN_true.1 h.1 i hi
  unfold okObj at this
  split at this
  · rw [Bool.and_eq_true] at this
    refine ⟨by have := of_decide_eq_true this.2; omega, fun j hj => ?_⟩
    have := of_decide_eq_true (allN_true.1 this.1 j hj)
    omega
  · rw [of_decide_eq_true this]
    exact ⟨by decide, fun j hj => by rcases (by omega : j = 0 ∨ j = 1 ∨ j = 2) with rfl | rfl | rfl <;> decide⟩
/-- The entries' operations are of Go's kinds. -/
def okLog (s : State) : Prop := ∀ e ∈ s.log, e.op.ok
def addS (s : State) (e : Entry) : State × Int := if (isSt s && nextE (lastE s) e) = true then (foldedS { s with log := s.log ++ [e] } (s.log.length + 1 - 6), 0) else (State.zero, 10)
def foldS (s : State) : Base := if isSt s = true then (foldedS s s.log.length).base else Base.zero
/-- How many entries up to a number; none: not there. -/
def placeS (s : State) (n : Int) : Option Nat := if n < s.tail.n ∨ n > (lastE s).n then none else some (IntKind.u32.wrap (n - s.tail.n)).toNat
def optI : Option Nat → Int
  | none => -1
  | some k => (k : Int)
end Go.Proofs.YtlihpaegaikoeaaDoor

namespace Go.Proofs.YtlihpaegaikoeaaDoor
open Pv Go Pk
set_option maxRecDepth 10000
set_option maxHeartbeats 2000000

/-- What a caller must know of a state: its numbers and operations are of Go's kinds. -/
structure stOk (s : State) : Prop where
  n : 0 ≤ s.tail.n ∧ s.tail.n < 4294967296
  log : okLog s
theorem next_n {last e : Entry} (h0 : 0 ≤ last.n ∧ last.n < 4294967296) (h : nextE last e = true) : e.n = last.n + 1 ∧ (0 ≤ e.n ∧ e.n < 4294967296) := by
  unfold nextE at h
  simp only [Bool.and_eq_true, beq_iff_eq, decide_eq_true_eq] at h
  obtain ⟨⟨⟨⟨_, h1⟩, h2⟩, _⟩, _⟩ := h
  have hr := wrap_u32 (last.n + 1)
  rw [← h1] at hr
  refine ⟨?_, hr⟩
  rcases Int.lt_or_le (last.n + 1) 4294967296 with h3 | h3
  · rw [h1]; unfold IntKind.wrap; simp [IntKind.signed, IntKind.bits]; omega
  · have : last.n + 1 = 4294967296 := by omega
    rw [this] at h1
    have : IntKind.u32.wrap 4294967296 = 0 := by decide
    omega
theorem chain_n : ∀ {l : List Entry} {last : Entry}, (0 ≤ last.n ∧ last.n < 4294967296) → chainE last l = true → (∀ (i : Nat) (e : Entry), l[i]? = some e → e.n = last.n + i + 1) ∧ (match l.getLast? with | some e => e.n = last.n + l.length | none => l.length = 0) ∧ last.n + l.length < 4294967296
  | [], last, h0, _ => ⟨by simp, rfl, by simp; omega⟩
  | e :: l, last, h0, h => by
    simp only [chainE, Bool.and_eq_true] at h
    obtain ⟨h1, h2⟩ := next_n h0 h.1
    obtain ⟨i1, i2, i3⟩ := chain_n h2 h.2
    refine ⟨fun i x hx => ?_, ?_, by simp only [List.length_cons]; omega⟩
    · cases i with
      | zero => simp only [List.getElem?_cons_zero, Option.some.injEq] at hx; subst hx; simp; omega
      | succ i => simp only [List.getElem?_cons_succ] at hx; have := i1 i x hx; rw [this]; simp; omega
    · cases l with
      | nil => simp; omega
      | cons y l =>
        rw [List.getLast?_cons_cons]
        revert i2
        cases (y :: l).getLast? with
        | none => simp
        | some z => simp only [List.length_cons]; intro i2; omega
theorem isSt_chain {s : State} (h : isSt s = true) : chainE s.tail s.log = true := by
  unfold isSt at h
  simp only [Bool.and_eq_true] at h
  exact h.2.2.2.2.2
theorem last_n {s : State} (ho : stOk s) (h : isSt s = true) : (lastE s).n = s.tail.n + s.log.length ∧ (lastE s).n < 4294967296 := by
  obtain ⟨_, h2, h3⟩ := chain_n ho.n (isSt_chain h)
  unfold lastE
  revert h2
  cases hg : s.log.getLast? with
  | none =>
    intro h2
    simp only at h2 ⊢
    have := ho.n
    omega
  | some e => intro h2; simp only at h2 ⊢; omega
/-- The place of a number in a state that may be. -/
def plS (s : State) (n : Int) : Option Nat := if isSt s = true then placeS s n else none
def uptoS (s : State) (n : Int) : Base × Bool := match plS s n with
  | some k => ((foldedS s k).base, true)
  | none => (Base.zero, false)
def cutS (s : State) (n : Int) : State × Int := if isSt s = true then (match placeS s n with
  | some k => ({ s with log := s.log.take k }, 0)
  | none => (State.zero, 141)) else (State.zero, 10)
def tailS (s : State) (n : Int) : State × Int := if isSt s = true then (if n < s.tail.n then (State.zero, 80) else match placeS s n with
  | some k => (foldedS s k, 0)
  | none => (State.zero, 141)) else (State.zero, 10)
def findS (s : State) (n : Int) : Entry × Bool := match plS s n with
  | some (k + 1) => match s.log[k]? with
    | some e => (e, true)
    | none => (Entry.zero, false)
  | _ => (Entry.zero, false)
end Go.Proofs.YtlihpaegaikoeaaDoor

namespace Go.Proofs.YtlihpaegaikoeaaDoor
open Pv Go Pk
set_option maxRecDepth 10000

/-! what an operation leaves may be -/
def ObjP (x : Objt) : Prop := x.data.size ≤ 16 ∧ (∀ j < 3, (x.attr.get j).size ≤ 16) ∧ (x.there = false → x = Objt.zero)
theorem okObj_iff (x : Objt) : okObj x = true ↔ ObjP x := by
  unfold okObj ObjP
  by_cases h : x.there = true
  · rw [if_pos h, Bool.and_eq_true, allN_true]
    simp only [decide_eq_true_eq]
    exact ⟨fun ⟨a, b⟩ => ⟨b, a, fun hh => by rw [h] at hh; simp at hh⟩, fun ⟨a, b, _⟩ => ⟨b, a⟩⟩
  · rw [if_neg h, decide_eq_true_eq]
    constructor
    · rintro rfl
      exact ⟨by decide, by decide, fun _ => rfl⟩
    · rintro ⟨_, _, h3⟩
      exact h3 (by simpa using h)
theorem doO_ok {x : Objt} {o : Opr} (hx : ObjP x) (h0 : 0 ≤ o.at_) (hd : o.data.size ≤ 16) : ObjP (doO x o).1 ∧ 0 ≤ (doO x o).2 ∧ (doO x o).2 ≤ 3 := by
  unfold doO
  split
  · unfold writeO
    split
    · exact ⟨hx, by simp, by simp⟩
    · rename_i hc
      refine ⟨⟨?_, hx.2.1, fun h => by simp at h⟩, by simp, by simp⟩
      have hg := grown_size x.data (o.at_.toNat + o.data.size)
      have := hx.1
      show (splice x.data o.at_.toNat o.data).size ≤ 16
      unfold splice
      simp [hg]
      omega
  · split
    · unfold truncO
      split
      · exact ⟨hx, by simp, by simp⟩
      · rename_i ht
        split
        · exact ⟨hx, by simp, by simp⟩
        · refine ⟨⟨?_, hx.2.1, fun h => absurd h ht⟩, by simp, by simp⟩
          have hg := grown_size x.data o.at_.toNat
          have := hx.1
          show ((grown x.data o.at_.toNat).extract 0 o.at_.toNat).size ≤ 16
          simp
          omega
    · split
      · unfold attrO
        split
        · exact ⟨hx, by simp, by simp⟩
        · rename_i ha
          split
          · exact ⟨hx, by simp, by simp⟩
          · rename_i ht
            refine ⟨⟨hx.1, fun j hj => ?_, fun h => absurd h ht⟩, by simp, by simp⟩
            show ((x.attr.set o.at_.toNat o.data).get j).size ≤ 16
            rw [R3.get_set _ _ _ _ (by omega) hj]
            split
            · exact hd
            · exact hx.2.1 j hj
      · unfold removeO
        split
        · exact ⟨hx, by simp, by simp⟩
        · exact ⟨⟨by decide, by decide, fun _ => rfl⟩, by simp, by simp⟩
theorem okBase_do {b : Base} {o : Opr} (hb : okBase b = true) (ho : o.ok) : okBase (doOp b o).1 = true := by
  unfold doOp
  split
  · exact hb
  · split
    · exact hb
    · rename_i hw _
      have hw : writes o = true := by simpa using hw
      obtain ⟨j, hj, hj', hj6⟩ := obj_idx ho hw
      have hcl := cl_lt hw
      have h0 : 0 ≤ o.at_ := by have := ho; simp only [Opr.ok] at this; omega
      obtain ⟨hd, _, _, _, hsq⟩ := isOp_le (writes_isOp (o := o) hw)
      unfold okBase at hb ⊢
      rw [Bool.and_eq_true, allN_true, allN_true] at hb ⊢
      have hx := doO_ok ((okObj_iff _).1 (hb.1 o.obj.toNat (by omega))) h0 hd
      refine ⟨fun i hi => ?_, fun i hi => ?_⟩
      · show okObj ((b.objs.set o.obj.toNat _).get i) = true
        rw [R6.get_set _ _ _ _ (by omega) hi]
        split
        · exact (okObj_iff _).2 hx.1
        · exact hb.1 i hi
      · show okLast ((b.last.set (o.client - 1).toNat _).get i) = true
        rw [R3.get_set _ _ _ _ hcl hi]
        split
        · unfold okLast
          have h1 : decide ((doO (b.objs.get o.obj.toNat) o).2 > 3) = false := by simp; omega
          have h2 : (o.seq == 0) = false := by simpa using hsq
          simp [h1, h2]
        · exact hb.2 i hi

/-! one list of entries -/
def baseOf (E : List Entry) : Base := (allOps Base.zero (E.map (·.op))).1
theorem baseOf_snoc (E : List Entry) (e : Entry) : baseOf (E ++ [e]) = (doOp (baseOf E) e.op).1 := by
  unfold baseOf
  rw [List.map_append, List.map_cons, List.map_nil, allOps_snoc]
theorem base_zero_ok : okBase Base.zero = true := by decide
theorem snoc_ind {α : Type} {p : List α → Prop} (h0 : p []) (hs : ∀ l x, p l → p (l ++ [x])) (l : List α) : p l := by
  have : ∀ n (l : List α), l.length = n → p l := by
    intro n
    induction n with
    | zero => intro l hl; rw [List.length_eq_zero_iff.1 hl]; exact h0
    | succ n ih =>
      intro l hl
      have hne : l ≠ [] := by intro h; rw [h] at hl; simp at hl
      rw [← List.dropLast_concat_getLast hne]
      exact hs _ _ (ih _ (by simp [hl]))
  exact this _ l rfl
theorem baseOf_ok {E : List Entry} (h : ∀ e ∈ E, e.op.ok) : okBase (baseOf E) = true := by
  induction E using snoc_ind with
  | h0 => exact base_zero_ok
  | hs E e ih => rw [baseOf_snoc]; exact okBase_do (ih fun x hx => h x (by simp [hx])) (h e (by simp))
def lastOf (E : List Entry) : Entry := match E.getLast? with
  | some e => e
  | none => Entry.zero
def tailOf (E : List Entry) : Entry := ⟨(lastOf E).since, (lastOf E).n, ⟨0, 0, 0, 0, 0, ⟨#[]⟩⟩⟩
/-- A state made of these entries, the first k folded. -/
def mkSt (st : Int) (E : List Entry) (k : Nat) : State := ⟨st, baseOf (E.take k), tailOf (E.take k), E.drop k⟩
structure goodE (E : List Entry) : Prop where
  ch : chainE Entry.zero E = true
  ok : ∀ e ∈ E, e.op.ok
theorem chain_split : ∀ (l r : List Entry) (last : Entry), chainE last (l ++ r) = (chainE last l && chainE (match l.getLast? with | some x => x | none => last) r)
  | [], r, last => by simp [chainE]
  | x :: l, r, last => by
    simp only [List.cons_append, chainE, chain_split l r x, Bool.and_assoc]
    cases l with
    | nil => rfl
    | cons y l =>
      rw [List.getLast?_cons_cons]
      obtain ⟨z, hz⟩ : ∃ z, (y :: l).getLast? = some z := ⟨_, List.getLast?_eq_some_getLast (by simp)⟩
      simp only [hz]
theorem nextE_congr {a b : Entry} (h1 : a.n = b.n) (h2 : a.since = b.since) (e : Entry) : nextE a e = nextE b e := by unfold nextE; rw [h1, h2]
theorem chainE_congr {a b : Entry} (h1 : a.n = b.n) (h2 : a.since = b.since) (l : List Entry) : chainE a l = chainE b l := by
  cases l with
  | nil => rfl
  | cons e l => simp only [chainE, nextE_congr h1 h2]
theorem goodE.take {E : List Entry} (h : goodE E) (k : Nat) : goodE (E.take k) := by
  refine ⟨?_, fun e he => h.ok e (List.mem_of_mem_take he)⟩
  have := h.ch
  rw [← List.take_append_drop k E, chain_split, Bool.and_eq_true] at this
  exact this.1
theorem goodE.drop {E : List Entry} (h : goodE E) (k : Nat) : chainE (tailOf (E.take k)) (E.drop k) = true := by
  have := h.ch
  rw [← List.take_append_drop k E, chain_split, Bool.and_eq_true] at this
  have h2 := this.2
  rw [← h2]
  refine chainE_congr ?_ ?_ _ <;> unfold tailOf lastOf <;> cases (E.take k).getLast? <;> rfl
theorem wu32 {n : Nat} (h : n < 4294967296) : IntKind.u32.wrap (n : Int) = (n : Int) := by unfold IntKind.wrap; simp [IntKind.signed, IntKind.bits]; omega
/-- What a variable of a state's kind holds. -/
def stV (s : State) (z : AV) : Prop := z = .d (.agg s.cs) ∨ (z = .agg State.zeroA ∧ s = State.zero)
end Go.Proofs.YtlihpaegaikoeaaDoor
