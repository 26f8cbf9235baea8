/- States of groups: adding, cutting, folding up to a number, finding. / States of groups: up to a number, cut, tail, same, find. -/
import Derived.Test.YtlihpaegaikoeaaDoorPgB
set_option linter.all false
namespace Go.Proofs.YtlihpaegaikoeaaDoor
open Pv Go Pk
set_option maxRecDepth 10000
set_option maxHeartbeats 2000000

theorem okBase_fit {b : Base} (h : okBase b = true) : Base.fit b := by
  unfold okBase at h
  rw [Bool.and_eq_true] at h
  intro i hi
  have := allN_true.1 h.1 i hi
  unfold okObj at this
  split at this
  · rw [Bool.and_eq_true] at this
    refine ⟨by have := of_decide_eq_true this.2; omega, fun j hj => ?_⟩
    have := of_decide_eq_true (allN_true.1 this.1 j hj)
    omega
  · rw [of_decide_eq_true this]
    exact ⟨by decide, fun j hj => by rcases (by omega : j = 0 ∨ j = 1 ∨ j = 2) with rfl | rfl | rfl <;> decide⟩
theorem isSt_fit {s : State} (h : isSt s = true) : Base.fit s.base := by
  unfold isSt at h
  simp only [Bool.and_eq_true] at h
  exact okBase_fit h.2.2.2.2.1
/-- The entries' operations are of Go's kinds. -/
def okLog (s : State) : Prop := ∀ e ∈ s.log, e.op.ok
def addS (s : State) (e : Entry) : State × Int := if (isSt s && nextE (lastE s) e) = true then (foldedS { s with log := s.log ++ [e] } (s.log.length + 1 - 6), 0) else (State.zero, 10)
theorem add_at (s : State) (e : Entry) (hs : okLog s) (he : e.op.ok) : evF C F_pglog_Add [.d (.agg s.cs), .d (.agg e.cs)] [] = some (.tup [.d (.agg (addS s e).1.cs), .d (.i .i64 (addS s e).2)], []) := by
  rw [evF_code (rfl : C F_pglog_Add = some a_pglog_Add) _ _ rfl]
  have hi := is_st s
  unfold addS
  rcases Bool.eq_false_or_eq_true (isSt s) with c | c
  · have hl := isSt_len c
    have hla := last_at s (by omega)
    have hn := next_at (lastE s) e
    rcases Bool.eq_false_or_eq_true (nextE (lastE s) e) with c2 | c2
    · rw [if_pos (by rw [c, c2]; rfl)]
      have hcl := clone_at s.log (by unfold LIM; omega)
      have hfo := folded_at { s with log := s.log ++ [e] } (s.log.length + 1 - 6) (by simp only [List.length_append, List.length_cons, List.length_nil]; omega) (by simp only [List.length_append, List.length_cons, List.length_nil]; omega) (show Base.fit s.base from isSt_fit c)
        (fun x hx => by
          rcases List.mem_append.1 hx with hx | hx
          · exact hs x hx
          · simp only [List.mem_singleton] at hx; rw [hx]; exact he)
      have hap : List.map Entry.d s.log ++ [DV.agg e.cs] = (s.log ++ [e]).map Entry.d := by simp [Entry.d]
      have htk : List.take s.log.length (s.log.map Entry.d) = s.log.map Entry.d := List.take_of_length_le (by simp)
      have htk1 : List.take (s.log.length + 1) ((s.log ++ [e]).map Entry.d) = (s.log ++ [e]).map Entry.d := List.take_of_length_le (by simp)
      have hsb1 : subL ((s.log ++ [e]).map Entry.d) 0 (s.log.length + 1) = (s.log ++ [e]).map Entry.d := htk1
      have hlim : (s.log.length + 1 ≤ LIM) = True := by
        have : s.log.length + 1 ≤ LIM := by unfold LIM; omega
        simp [this]
      have hlen : (s.log ++ [e]).length = s.log.length + 1 := by simp
      have hwd : IntKind.i64.wrap (((s.log.length + 1 : Nat) : Int) - 6) = (s.log.length : Int) + 1 - 6 := by unfold IntKind.wrap; simp [IntKind.signed, IntKind.bits]; omega
      have hmx : mmI true ((s.log.length : Int) + 1 - 6) 0 = ((s.log.length + 1 - 6 : Nat) : Int) := by unfold mmI; rw [if_pos rfl]; split <;> omega
      simp (config := {decide := true}) only [c_pglog_Add, hi, c, hla, hn, c2, hcl, hfo, hap, htk, htk1, hsb1, hlim, hlen, hwd, hmx, elems, or_true, Nat.le_refl, guardR_und, Pk.EVL, keepT, enum, ↓reduceIte, ev, act, appT, callee, toDs, toD, loadA, storeA, subA, subD, updA, Eff.on, resA, resVs, resV, lk, finish, frzR, frzVs, frzV, fznR, fzns, fzn, lts, lt, ltO, List.all, pairsOk, indep, reduceCtorEq, Nat.reduceEqDiff, Nat.reduceAdd, Nat.reduceLeDiff, stb, thaws, List.drop, intOfA, binD, binI, unD, mmL, buildA, mkAgg, allD, bslD, behind, behind0, takeAt, frzAs, frzA, adoptR, adopt, isD, isD0, trim, List.take, binS, sliceA, bnd, zOk, elems, Nat.reduceBNe, inpl, Nat.reduceLT, Nat.reduceBEq, Nat.reduceSub, Nat.reduceMul, Int.reduceLT, Int.reduceLE, Int.reduceEq, Int.reduceToNat, Int.reduceNeg, thaw, nodup, refsV, adopts, Pk.TY_State, Pk.TY_Entry]
    · rw [if_neg (by rw [c, c2]; simp)]
      simp (config := {decide := true}) only [c_pglog_Add, hi, c, hla, hn, c2, guardR_und, Pk.EVL, keepT, enum, ↓reduceIte, ev, act, appT, callee, toDs, toD, loadA, storeA, subA, subD, updA, Eff.on, resA, resVs, resV, lk, finish, frzR, frzVs, frzV, fznR, fzns, fzn, lts, lt, ltO, List.all, pairsOk, indep, reduceCtorEq, Nat.reduceEqDiff, Nat.reduceAdd, Nat.reduceLeDiff, stb, thaws, List.drop, intOfA, binD, binI, unD, mmL, buildA, mkAgg, allD, bslD, behind, behind0, takeAt, frzAs, frzA, adoptR, adopt, isD, isD0, trim, List.take, binS, sliceA, bnd, zOk, elems, Nat.reduceBNe, inpl, Nat.reduceLT, Nat.reduceBEq, Nat.reduceSub, Nat.reduceMul, Int.reduceLT, Int.reduceLE, Int.reduceEq, Int.reduceToNat, Int.reduceNeg, thaw, nodup, refsV, adopts, Pk.TY_State, Pk.TY_Entry]
  · rw [if_neg (by rw [c]; simp)]
    simp (config := {decide := true}) only [c_pglog_Add, hi, c, guardR_und, Pk.EVL, keepT, enum, ↓reduceIte, ev, act, appT, callee, toDs, toD, loadA, storeA, subA, subD, updA, Eff.on, resA, resVs, resV, lk, finish, frzR, frzVs, frzV, fznR, fzns, fzn, lts, lt, ltO, List.all, pairsOk, indep, reduceCtorEq, Nat.reduceEqDiff, Nat.reduceAdd, Nat.reduceLeDiff, stb, thaws, List.drop, intOfA, binD, binI, unD, mmL, buildA, mkAgg, allD, bslD, behind, behind0, takeAt, frzAs, frzA, adoptR, adopt, isD, isD0, trim, List.take, binS, sliceA, bnd, zOk, elems, Nat.reduceBNe, inpl, Nat.reduceLT, Nat.reduceBEq, Nat.reduceSub, Nat.reduceMul, Int.reduceLT, Int.reduceLE, Int.reduceEq, Int.reduceToNat, Int.reduceNeg, thaw, nodup, refsV, adopts, Pk.TY_State, Pk.TY_Entry]
def foldS (s : State) : Base := if isSt s = true then (foldedS s s.log.length).base else Base.zero
/-- How many entries up to a number; none: not there. -/
def placeS (s : State) (n : Int) : Option Nat := if n < s.tail.n ∨ n > (lastE s).n then none else some (IntKind.u32.wrap (n - s.tail.n)).toNat
def optI : Option Nat → Int
  | none => -1
  | some k => (k : Int)
end Go.Proofs.YtlihpaegaikoeaaDoor

namespace Go.Proofs.YtlihpaegaikoeaaDoor
open Pv Go Pk
set_option maxRecDepth 10000
set_option maxHeartbeats 2000000

/-- What a caller must know of a state: its numbers and operations are of Go's kinds. -/
structure stOk (s : State) : Prop where
  n : 0 ≤ s.tail.n ∧ s.tail.n < 4294967296
  log : okLog s
theorem next_n {last e : Entry} (h0 : 0 ≤ last.n ∧ last.n < 4294967296) (h : nextE last e = true) : e.n = last.n + 1 ∧ (0 ≤ e.n ∧ e.n < 4294967296) := by
  unfold nextE at h
  simp only [Bool.and_eq_true, beq_iff_eq, decide_eq_true_eq] at h
  obtain ⟨⟨⟨⟨_, h1⟩, h2⟩, _⟩, _⟩ := h
  have hr := wrap_u32 (last.n + 1)
  rw [← h1] at hr
  refine ⟨?_, hr⟩
  rcases Int.lt_or_le (last.n + 1) 4294967296 with h3 | h3
  · rw [h1]; unfold IntKind.wrap; simp [IntKind.signed, IntKind.bits]; omega
  · have : last.n + 1 = 4294967296 := by omega
    rw [this] at h1
    have : IntKind.u32.wrap 4294967296 = 0 := by decide
    omega
theorem chain_n : ∀ {l : List Entry} {last : Entry}, (0 ≤ last.n ∧ last.n < 4294967296) → chainE last l = true → (∀ (i : Nat) (e : Entry), l[i]? = some e → e.n = last.n + i + 1) ∧ (match l.getLast? with | some e => e.n = last.n + l.length | none => l.length = 0) ∧ last.n + l.length < 4294967296
  | [], last, h0, _ => ⟨by simp, rfl, by simp; omega⟩
  | e :: l, last, h0, h => by
    simp only [chainE, Bool.and_eq_true] at h
    obtain ⟨h1, h2⟩ := next_n h0 h.1
    obtain ⟨i1, i2, i3⟩ := chain_n h2 h.2
    refine ⟨fun i x hx => ?_, ?_, by simp only [List.length_cons]; omega⟩
    · cases i with
      | zero => simp only [List.getElem?_cons_zero, Option.some.injEq] at hx; subst hx; simp; omega
      | succ i => simp only [List.getElem?_cons_succ] at hx; have := i1 i x hx; rw [this]; simp; omega
    · cases l with
      | nil => simp; omega
      | cons y l =>
        rw [List.getLast?_cons_cons]
        revert i2
        cases (y :: l).getLast? with
        | none => simp
        | some z => simp only [List.length_cons]; intro i2; omega
theorem isSt_chain {s : State} (h : isSt s = true) : chainE s.tail s.log = true := by
  unfold isSt at h
  simp only [Bool.and_eq_true] at h
  exact h.2.2.2.2.2
theorem last_n {s : State} (ho : stOk s) (h : isSt s = true) : (lastE s).n = s.tail.n + s.log.length ∧ (lastE s).n < 4294967296 := by
  obtain ⟨_, h2, h3⟩ := chain_n ho.n (isSt_chain h)
  unfold lastE
  revert h2
  cases hg : s.log.getLast? with
  | none =>
    intro h2
    simp only at h2 ⊢
    have := ho.n
    omega
  | some e => intro h2; simp only at h2 ⊢; omega
/-- The place of a number in a state that may be. -/
def plS (s : State) (n : Int) : Option Nat := if isSt s = true then placeS s n else none
def uptoS (s : State) (n : Int) : Base × Bool := match plS s n with
  | some k => ((foldedS s k).base, true)
  | none => (Base.zero, false)
def cutS (s : State) (n : Int) : State × Int := if isSt s = true then (match placeS s n with
  | some k => ({ s with log := s.log.take k }, 0)
  | none => (State.zero, 141)) else (State.zero, 10)
def tailS (s : State) (n : Int) : State × Int := if isSt s = true then (if n < s.tail.n then (State.zero, 80) else match placeS s n with
  | some k => (foldedS s k, 0)
  | none => (State.zero, 141)) else (State.zero, 10)
def findS (s : State) (n : Int) : Entry × Bool := match plS s n with
  | some (k + 1) => match s.log[k]? with
    | some e => (e, true)
    | none => (Entry.zero, false)
  | _ => (Entry.zero, false)
end Go.Proofs.YtlihpaegaikoeaaDoor
