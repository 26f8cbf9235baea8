/- Calls of Go's library as the evaluator's outside functions: a contract that leaves memory below as it was is an answer. -/
import Derived.Test.YtckaebcljcpobaaPkTypes
import Derived.Lib.Repeat
set_option linter.all false
namespace Pk
open Pv Go Go.RowKit

/-- n noughts. -/
def nul (n : Nat) : ByteArray := ⟨(List.replicate n (0 : UInt8)).toArray⟩
/-- strings.Repeat of one nought. -/
def repeatX : List AV → Option (AV × Heap)
  | [.d (.s s), .d (.i .i64 c)] => if s = ⟨#[0]⟩ ∧ 0 ≤ c ∧ c ≤ 1000000 then some (.d (.s (nul c.toNat)), []) else none
  | _ => none

/-- A loop of N rounds at most, by what holds ahead of each. -/
theorem loop_run {C : FuncId → Option AFn} {keep : Option (List Nat)} {body : ACode} {n : Nat} (I : Nat → Tm → Heap → Prop) (Q : AExit → Tm → Heap → Prop) (N : Nat)
    (hstep : ∀ i T H, i < N → I i T H → ∃ e T' H', evC C body (keepT keep T) (trim n ((keepT keep T).map (·.2)) H) = some (e, T', H') ∧ ((e = .nrm ∧ I (i + 1) T' H') ∨ (e ≠ .nrm ∧ Q e T' H')))
    (hlast : ∀ T H, I N T H → ∃ e T' H', evC C body (keepT keep T) (trim n ((keepT keep T).map (·.2)) H) = some (e, T', H') ∧ e ≠ .nrm ∧ Q e T' H') :
    ∀ (k i : Nat) (T : Tm) (H : Heap), i + k = N → I i T H → ∃ e T' H', evL C keep body n T H = some (e, T', H') ∧ Q e T' H'
  | 0, i, T, H, hi, h => by
    obtain ⟨e, T', H', h1, h2, h3⟩ := hlast T H (by rwa [show N = i by omega])
    refine ⟨e, T', H', ?_, h3⟩
    rw [evL_eq, h1, Option.bind_some]
    cases e with
    | nrm => exact absurd rfl h2
    | ret => rfl
    | exit i => rfl
  | k + 1, i, T, H, hi, h => by
    obtain ⟨e, T', H', h1, h2⟩ := hstep i T H (by omega) h
    rcases h2 with ⟨rfl, h2⟩ | ⟨h2, h3⟩
    · obtain ⟨e, T2, H2, h4, h5⟩ := loop_run I Q N hstep hlast k (i + 1) T' H' (by omega) h2
      exact ⟨e, T2, H2, by rw [evL_eq, h1, Option.bind_some, againL_nrm, h4], h5⟩
    · refine ⟨e, T', H', ?_, h3⟩
      rw [evL_eq, h1, Option.bind_some]
      cases e with
      | nrm => exact absurd rfl h2
      | ret => rfl
      | exit i => rfl
theorem bind_run {β : Type} {x : Option (AExit × Tm × Heap)} {Q : AExit → Tm → Heap → Prop} {f : AExit × Tm × Heap → Option β} {r : Option β} (h : ∃ e T' H', x = some (e, T', H') ∧ Q e T' H') (hf : ∀ e T' H', Q e T' H' → f (e, T', H') = r) : x.bind f = r := by
  obtain ⟨e, T', H', rfl, hp⟩ := h
  exact hf e T' H' hp
theorem list_idx {α : Type} (f : α → DV) {l : List α} {i : Nat} {x : α} (h : l[i]? = some x) : (l.map f)[i]? = some (f x) := by simp [h]
theorem take_succ' {α : Type} {l : List α} {i : Nat} {x : α} (h : l[i]? = some x) : l.take (i + 1) = l.take i ++ [x] := by rw [List.take_succ, h]; rfl

theorem evF_ext {C : FuncId → Option AFn} {f : FuncId} {g : List AV → Option (AV × Heap)} (h : C f = some (.ext g)) (args : List AV) : evF C f args [] = g args := by
  rw [evF.eq_def]
  simp only [h]
end Pk
