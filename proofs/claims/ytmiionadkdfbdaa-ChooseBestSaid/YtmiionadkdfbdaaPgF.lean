/- States of groups: adding, cutting, folding up to a number, finding. / States of groups: up to a number, cut, tail, same, find. / States made of entries from nothing: one list, folded up to some number. Plain laws, no code. / States alike. -/
import Derived.Test.YtmiionadkdfbdaaPgB
set_option linter.all false
namespace Go.Proofs.Ytmiionadkdfbdaa
open Pv Go Pk
set_option maxRecDepth 10000
set_option maxHeartbeats 2000000

/-- The entries' operations are of Go's kinds. -/
def okLog (s : State) : Prop := ∀ e ∈ s.log, e.op.ok
def addS (s : State) (e : Entry) : State × Int := if (isSt s && nextE (lastE s) e) = true then (foldedS { s with log := s.log ++ [e] } (s.log.length + 1 - 6), 0) else (State.zero, 10)
def foldS (s : State) : Base := if isSt s = true then (foldedS s s.log.length).base else Base.zero
/-- How many entries up to a number; none: not there. -/
def placeS (s : State) (n : Int) : Option Nat := if n < s.tail.n ∨ n > (lastE s).n then none else some (IntKind.u32.wrap (n - s.tail.n)).toNat
def optI : Option Nat → Int
  | none => -1
  | some k => (k : Int)
end Go.Proofs.Ytmiionadkdfbdaa

namespace Go.Proofs.Ytmiionadkdfbdaa
open Pv Go Pk
set_option maxRecDepth 10000
set_option maxHeartbeats 2000000

/-- What a caller must know of a state: its numbers and operations are of Go's kinds. -/
structure stOk (s : State) : Prop where
  n : 0 ≤ s.tail.n ∧ s.tail.n < 4294967296
  log : okLog s
/-- The place of a number in a state that may be. -/
def plS (s : State) (n : Int) : Option Nat := if isSt s = true then placeS s n else none
def uptoS (s : State) (n : Int) : Base × Bool := match plS s n with
  | some k => ((foldedS s k).base, true)
  | none => (Base.zero, false)
def cutS (s : State) (n : Int) : State × Int := if isSt s = true then (match placeS s n with
  | some k => ({ s with log := s.log.take k }, 0)
  | none => (State.zero, 141)) else (State.zero, 10)
def tailS (s : State) (n : Int) : State × Int := if isSt s = true then (if n < s.tail.n then (State.zero, 80) else match placeS s n with
  | some k => (foldedS s k, 0)
  | none => (State.zero, 141)) else (State.zero, 10)
def findS (s : State) (n : Int) : Entry × Bool := match plS s n with
  | some (k + 1) => match s.log[k]? with
    | some e => (e, true)
    | none => (Entry.zero, false)
  | _ => (Entry.zero, false)
end Go.Proofs.Ytmiionadkdfbdaa

namespace Go.Proofs.Ytmiionadkdfbdaa
open Pv Go Pk
set_option maxRecDepth 10000

/-! what an operation leaves may be -/
def ObjP (x : Objt) : Prop := x.data.size ≤ 16 ∧ (∀ j < 3, (x.attr.get j).size ≤ 16) ∧ (x.there = false → x = Objt.zero)
/-! one list of entries -/
def baseOf (E : List Entry) : Base := (allOps Base.zero (E.map (·.op))).1
def lastOf (E : List Entry) : Entry := match E.getLast? with
  | some e => e
  | none => Entry.zero
def tailOf (E : List Entry) : Entry := ⟨(lastOf E).since, (lastOf E).n, ⟨0, 0, 0, 0, 0, ⟨#[]⟩⟩⟩
/-- A state made of these entries, the first k folded. -/
def mkSt (st : Int) (E : List Entry) (k : Nat) : State := ⟨st, baseOf (E.take k), tailOf (E.take k), E.drop k⟩
structure goodE (E : List Entry) : Prop where
  ch : chainE Entry.zero E = true
  ok : ∀ e ∈ E, e.op.ok
theorem chain_split : ∀ (l r : List Entry) (last : Entry), chainE last (l ++ r) = (chainE last l && chainE (match l.getLast? with | some x => x | none => last) r)
  | [], r, last => by simp [chainE]
  | x :: l, r, last => by
    simp only [List.cons_append, chainE, chain_split l r x, Bool.and_assoc]
    cases l with
    | nil => rfl
    | cons y l =>
      rw [List.getLast?_cons_cons]
      obtain ⟨z, hz⟩ : ∃ z, (y :: l).getLast? = some z := ⟨_, List.getLast?_eq_some_getLast (by simp)⟩
      simp only [hz]
theorem nextE_congr {a b : Entry} (h1 : a.n = b.n) (h2 : a.since = b.since) (e : Entry) : nextE a e = nextE b e := by unfold nextE; rw [h1, h2]
theorem chainE_congr {a b : Entry} (h1 : a.n = b.n) (h2 : a.since = b.since) (l : List Entry) : chainE a l = chainE b l := by
  cases l with
  | nil => rfl
  | cons e l => simp only [chainE, nextE_congr h1 h2]
theorem goodE.take {E : List Entry} (h : goodE E) (k : Nat) : goodE (E.take k) := by
  refine ⟨?_, fun e he => h.ok e (List.mem_of_mem_take he)⟩
  have := h.ch
  rw [← List.take_append_drop k E, chain_split, Bool.and_eq_true] at this
  exact this.1
theorem goodE.drop {E : List Entry} (h : goodE E) (k : Nat) : chainE (tailOf (E.take k)) (E.drop k) = true := by
  have := h.ch
  rw [← List.take_append_drop k E, chain_split, Bool.and_eq_true] at this
  have h2 := this.2
  rw [← h2]
  refine chainE_congr ?_ ?_ _ <;> unfold tailOf lastOf <;> cases (E.take k).getLast? <;> rfl
theorem wu32 {n : Nat} (h : n < 4294967296) : IntKind.u32.wrap (n : Int) = (n : Int) := by unfold IntKind.wrap; simp [IntKind.signed, IntKind.bits]; omega
/-- What a variable of a state's kind holds. -/
def stV (s : State) (z : AV) : Prop := z = .d (.agg s.cs) ∨ (z = .agg State.zeroA ∧ s = State.zero)
end Go.Proofs.Ytmiionadkdfbdaa

namespace Go.Proofs.Ytmiionadkdfbdaa
open Pv Go Pk
set_option maxRecDepth 10000
set_option maxHeartbeats 2000000
end Go.Proofs.Ytmiionadkdfbdaa
