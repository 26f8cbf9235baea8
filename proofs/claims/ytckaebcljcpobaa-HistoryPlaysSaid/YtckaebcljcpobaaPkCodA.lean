/- Calls of Go's library as the evaluator's outside functions: a contract that leaves memory below as it was is an answer. / A law's arguments read as the program's data: from shapes to structures. -/
import Derived.Test.YtckaebcljcpobaaPkTypes
import Derived.Lib.Repeat
set_option linter.all false
namespace Pk
open Pv Go Go.RowKit

/-- n noughts. -/
def nul (n : Nat) : ByteArray := ⟨(List.replicate n (0 : UInt8)).toArray⟩
/-- strings.Repeat of one nought. -/
def repeatX : List AV → Option (AV × Heap)
  | [.d (.s s), .d (.i .i64 c)] => if s = ⟨#[0]⟩ ∧ 0 ≤ c ∧ c ≤ 1000000 then some (.d (.s (nul c.toNat)), []) else none
  | _ => none

/-- A loop of N rounds at most, by what holds ahead of each. -/
theorem loop_run {C : FuncId → Option AFn} {keep : Option (List Nat)} {body : ACode} {n : Nat} (I : Nat → Tm → Heap → Prop) (Q : AExit → Tm → Heap → Prop) (N : Nat)
    (hstep : ∀ i T H, i < N → I i T H → ∃ e T' H', evC C body (keepT keep T) (trim n ((keepT keep T).map (·.2)) H) = some (e, T', H') ∧ ((e = .nrm ∧ I (i + 1) T' H') ∨ (e ≠ .nrm ∧ Q e T' H')))
    (hlast : ∀ T H, I N T H → ∃ e T' H', evC C body (keepT keep T) (trim n ((keepT keep T).map (·.2)) H) = some (e, T', H') ∧ e ≠ .nrm ∧ Q e T' H') :
    ∀ (k i : Nat) (T : Tm) (H : Heap), i + k = N → I i T H → ∃ e T' H', evL C keep body n T H = some (e, T', H') ∧ Q e T' H'
  | 0, i, T, H, hi, h => by
    obtain ⟨e, T', H', h1, h2, h3⟩ := hlast T H (by rwa [show N = i by omega])
    refine ⟨e, T', H', ?_, h3⟩
    rw [evL_eq, h1, Option.bind_some]
    cases e with
    | nrm => exact absurd rfl h2
    | ret => rfl
    | exit i => rfl
  | k + 1, i, T, H, hi, h => by
    obtain ⟨e, T', H', h1, h2⟩ := hstep i T H (by omega) h
    rcases h2 with ⟨rfl, h2⟩ | ⟨h2, h3⟩
    · obtain ⟨e, T2, H2, h4, h5⟩ := loop_run I Q N hstep hlast k (i + 1) T' H' (by omega) h2
      exact ⟨e, T2, H2, by rw [evL_eq, h1, Option.bind_some, againL_nrm, h4], h5⟩
    · refine ⟨e, T', H', ?_, h3⟩
      rw [evL_eq, h1, Option.bind_some]
      cases e with
      | nrm => exact absurd rfl h2
      | ret => rfl
      | exit i => rfl
theorem bind_run {β : Type} {x : Option (AExit × Tm × Heap)} {Q : AExit → Tm → Heap → Prop} {f : AExit × Tm × Heap → Option β} {r : Option β} (h : ∃ e T' H', x = some (e, T', H') ∧ Q e T' H') (hf : ∀ e T' H', Q e T' H' → f (e, T', H') = r) : x.bind f = r := by
  obtain ⟨e, T', H', rfl, hp⟩ := h
  exact hf e T' H' hp
theorem ex_run {x : Option (AExit × Tm × Heap)} {Q : AExit → Tm → Heap → Prop} {f : AExit × Tm × Heap → Option (AExit × Tm × Heap)} {R : AExit → Tm → Heap → Prop} (h : ∃ e T' H', x = some (e, T', H') ∧ Q e T' H') (hf : ∀ e T' H', Q e T' H' → ∃ e2 T2 H2, f (e, T', H') = some (e2, T2, H2) ∧ R e2 T2 H2) : ∃ e2 T2 H2, x.bind f = some (e2, T2, H2) ∧ R e2 T2 H2 := by
  obtain ⟨e, T', H', rfl, hp⟩ := h
  exact hf e T' H' hp
theorem trim_all (vs : List AV) (H : Heap) : trim H.length vs H = H := by
  unfold trim
  split
  · exact List.take_length
  · rfl
theorem list_idx {α : Type} (f : α → DV) {l : List α} {i : Nat} {x : α} (h : l[i]? = some x) : (l.map f)[i]? = some (f x) := by simp [h]
theorem take_succ' {α : Type} {l : List α} {i : Nat} {x : α} (h : l[i]? = some x) : l.take (i + 1) = l.take i ++ [x] := by rw [List.take_succ, h]; rfl

theorem evF_ext {C : FuncId → Option AFn} {f : FuncId} {g : List AV → Option (AV × Heap)} (h : C f = some (.ext g)) (args : List AV) : evF C f args [] = g args := by
  rw [evF.eq_def]
  simp only [h]
end Pk

namespace Pk
open Pv Go

/-- Data of this type is what d tells. -/
def Cod {α : Type} (P : Program) (n : Nat) (t : TypeId) (d : α → DV) (cs : α → List DV) (ok : α → Prop) : Prop :=
  ∀ ds, Shape P n t ds → ∃ x, ds = cs x ∧ pack P t ds = d x ∧ ok x

def ShapeT (sh : TypeId → List DV → Prop) : List TypeId → List DV → Prop
  | [], ds => ds = []
  | t :: r, ds => ∃ a b, ds = a ++ b ∧ sh t a ∧ ShapeT sh r b
theorem shapeT_of {sh : TypeId → List DV → Prop} : ∀ {fs : List Field} {ds : List DV}, ShapeFs sh fs ds → ShapeT sh (fs.map (·.type)) ds
  | [], _, h => h
  | _ :: _, _, ⟨a, b, h1, h2, h3⟩ => ⟨a, b, h1, h2, shapeT_of h3⟩

section
variable {P : Program} {n : Nat} {t e : TypeId}
theorem cod_u8 (ht : P.underlying t = some (.int .u8)) : Cod P (n + 1) t (fun x : Int => .i .u8 x) (fun x => [.i .u8 x]) (fun x => 0 ≤ x ∧ x < 256) := by
  intro ds h
  simp only [Shape, ht] at h
  obtain ⟨x, rfl, hx⟩ := h
  exact ⟨x, rfl, by simp [pack, ht], wf_u8 hx⟩
theorem cod_u32 (ht : P.underlying t = some (.int .u32)) : Cod P (n + 1) t (fun x : Int => .i .u32 x) (fun x => [.i .u32 x]) (fun x => 0 ≤ x ∧ x < 4294967296) := by
  intro ds h
  simp only [Shape, ht] at h
  obtain ⟨x, rfl, hx⟩ := h
  exact ⟨x, rfl, by simp [pack, ht], wf_u32 hx⟩
theorem cod_int (ht : P.underlying t = some (.int .i64)) : Cod P (n + 1) t (fun x : Int => .i .i64 x) (fun x => [.i .i64 x]) (fun x => -9223372036854775808 ≤ x ∧ x ≤ 9223372036854775807) := by
  intro ds h
  simp only [Shape, ht] at h
  obtain ⟨x, rfl, hx⟩ := h
  exact ⟨x, rfl, by simp [pack, ht], wf_i64 hx⟩
theorem cod_bool (ht : P.underlying t = some .bool) : Cod P (n + 1) t (fun x : Bool => .b x) (fun x => [.b x]) (fun _ => True) := by
  intro ds h
  simp only [Shape, ht] at h
  obtain ⟨x, rfl⟩ := h
  exact ⟨x, rfl, by simp [pack, ht], trivial⟩
variable {α : Type} {d : α → DV} {cs : α → List DV} {ok : α → Prop}
theorem cod_list (hc : Cod P n e d cs ok) : ∀ {es : List (List DV)}, (∀ x ∈ es, Shape P n e x) → ∃ l : List α, es.map (pack P e) = l.map d ∧ es = l.map cs ∧ ∀ x ∈ l, ok x
  | [], _ => ⟨[], rfl, rfl, by simp⟩
  | y :: r, h => by
    obtain ⟨l, h1, h2, h3⟩ := cod_list hc (es := r) fun x hx => h x (by simp [hx])
    obtain ⟨x, e1, e2, e3⟩ := hc y (h y (by simp))
    refine ⟨x :: l, by simp [h1, e2], by simp [← h2, e1], ?_⟩
    intro z hz
    rcases List.mem_cons.1 hz with rfl | hz
    · exact e3
    · exact h3 z hz
theorem cod_slice (ht : P.underlying t = some (.slice e)) (hc : Cod P n e d cs ok) : Cod P (n + 1) t (fun l : List α => .sl (l.map d)) (fun l => [.sl (l.map d)]) (fun l => l.length ≤ maxLen ∧ ∀ x ∈ l, ok x) := by
  intro ds h
  unfold Shape at h
  simp only [ht] at h
  obtain ⟨es, rfl, hl, hx⟩ := h
  obtain ⟨l, h1, h2, h3⟩ := cod_list hc hx
  refine ⟨l, by rw [h1], by simp [pack, ht, h1], ?_, h3⟩
  have : es.length = l.length := by rw [h2]; simp
  omega
/-- One argument taken. -/
theorem arg_cod (hc : Cod P n t d cs ok) {r : List TypeId} {xs : List AV} (h : ArgsOk P n (t :: r) xs) : ∃ x ys, xs = .d (d x) :: ys ∧ ok x ∧ ArgsOk P n r ys := by
  obtain ⟨ds, ys, rfl, h1, h2⟩ := h
  obtain ⟨x, rfl, e2, e3⟩ := hc ds h1
  exact ⟨x, ys, by rw [e2], e3, h2⟩
end
end Pk
