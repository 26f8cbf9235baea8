/- Calls of Go's library as the evaluator's outside functions: a contract that leaves memory below as it was is an answer. / A law's arguments read as the program's data: from shapes to structures. -/
import Derived.Test.YtlihpaegaikoeaaDoorPkTypes
import Derived.Lib.Repeat
set_option linter.all false
namespace Pk
open Pv Go Go.RowKit

/-- n noughts. -/
def nul (n : Nat) : ByteArray := ⟨(List.replicate n (0 : UInt8)).toArray⟩
theorem nul_size (n : Nat) : (nul n).size = n := by simp [nul, ByteArray.size]

theorem Stp.of_below {γ : Gh} {w w' : World} (hH : RH γ w []) (h : Below w.heap.size w w') : Stp γ w γ w' where
  os := h.os
  tape := h.tape
  output := h.output
  size := h.size
  fix b j hf := by
    refine ⟨hf, ?_⟩
    have := h.block b (hH.fixb b j hf)
    simp only [World.cell?, this]
  nfix b j hf := .inl hf
  pl o := .refl _
  other b hb _ := h.block b hb
  own o b ho := .inl ⟨o, ho⟩

/-- A call of the library that answers data and leaves memory below. -/
theorem sret_lib {P : Program} {f : FuncId} {args : List AV} {x : DV} (hc : Callable P f) (h : ∀ (γ : Gh) (w : World) (vs : List Value), RVs γ w args vs → RH γ w [] →
    Calls P f vs.toArray w fun e w' => ∃ v, e = .returned v ∧ (∀ γ w, RD γ w x v) ∧ Below w.heap.size w w') : SRet P f args [] (.d x, []) := by
  refine ⟨hc, fun γ w vs hvs hH => (h γ w vs hvs hH).mono ?_⟩
  rintro e w' ⟨v, rfl, hv, hb⟩
  have hs := Stp.of_below hH hb
  exact ⟨v, γ, rfl, .d (hv _ _), ⟨by simp, hH.out, hH.inj, fun b j hf => Nat.lt_of_lt_of_le (hH.fixb b j hf) hb.size⟩, hs⟩

/-- strings.Repeat of one nought. -/
def repeatX : List AV → Option (AV × Heap)
  | [.d (.s s), .d (.i .i64 c)] => if s = ⟨#[0]⟩ ∧ 0 ≤ c ∧ c ≤ 1000000 then some (.d (.s (nul c.toNat)), []) else none
  | _ => none

theorem repeatX_ok {P : Program} {f : FuncId} (hc : Callable P f) (h : ∀ (s : ByteArray) (c : Nat) (w : World), c ≤ 9223372036854775807 → s.size * c ≤ 140737488355328 →
    Calls P f #[.string s, .int .i64 c] w fun e w' => e = .returned (.string ⟨(Lib.repeatL s.data.toList c).toArray⟩) ∧ Below w.heap.size w w') :
    ∀ args r, repeatX args = some r → SRet P f args [] r := by
  intro args r hr
  unfold repeatX at hr
  split at hr
  · split at hr
    · rename_i s c hcond
      obtain ⟨rfl, h0, h1⟩ := hcond
      injection hr with hr
      subst hr
      refine sret_lib hc fun γ w vs hvs hH => ?_
      obtain ⟨v1, v2, rfl, a, b⟩ : ∃ v1 v2, vs = [v1, v2] ∧ RV γ w (.d (.s ⟨#[0]⟩)) v1 ∧ RV γ w (.d (.i .i64 c)) v2 := by
        cases hvs with
        | cons a hvs => cases hvs with
          | cons b hvs => cases hvs; exact ⟨_, _, rfl, a, b⟩
      cases a with
      | d a => cases a with
        | s x =>
          cases b with
          | d b => cases b with
            | i k x =>
              obtain ⟨n, rfl⟩ : ∃ n : Nat, c = n := ⟨c.toNat, by omega⟩
              have := h ⟨#[0]⟩ n w (by omega) (by show 1 * n ≤ _; omega)
              refine this.mono ?_
              rintro e w' ⟨he, hb⟩
              refine ⟨_, he, fun γ w => ?_, hb⟩
              have e : Lib.repeatL (ByteArray.mk #[0]).data.toList n = List.replicate n 0 := by
                have := Lib.repeatL_replicate 0 1 n
                simpa using this
              rw [e]
              have : nul (Int.toNat (n : Int)) = ⟨(List.replicate n (0 : UInt8)).toArray⟩ := by simp [nul]
              rw [this]
              exact .s _
    · simp at hr
  · simp at hr
/-- A loop of N rounds at most, by what holds ahead of each. -/
theorem loop_run {C : FuncId → Option AFn} {keep : Option (List Nat)} {body : ACode} {n : Nat} (I : Nat → Tm → Heap → Prop) (Q : AExit → Tm → Heap → Prop) (N : Nat)
    (hstep : ∀ i T H, i < N → I i T H → ∃ e T' H', evC C body (keepT keep T) (trim n ((keepT keep T).map (·.2)) H) = some (e, T', H') ∧ ((e = .nrm ∧ I (i + 1) T' H') ∨ (e ≠ .nrm ∧ Q e T' H')))
    (hlast : ∀ T H, I N T H → ∃ e T' H', evC C body (keepT keep T) (trim n ((keepT keep T).map (·.2)) H) = some (e, T', H') ∧ e ≠ .nrm ∧ Q e T' H') :
    ∀ (k i : Nat) (T : Tm) (H : Heap), i + k = N → I i T H → ∃ e T' H', evL C keep body n T H = some (e, T', H') ∧ Q e T' H'
  | 0, i, T, H, hi, h => by
    obtain ⟨e, T', H', h1, h2, h3⟩ := hlast T H (by rwa [show N = i by omega])
    refine ⟨e, T', H', ?_, h3⟩
    rw [evL_eq, h1, Option.bind_some]
    cases e with
    | nrm => exact absurd rfl h2
    | ret => rfl
    | exit i => rfl
  | k + 1, i, T, H, hi, h => by
    obtain ⟨e, T', H', h1, h2⟩ := hstep i T H (by omega) h
    rcases h2 with ⟨rfl, h2⟩ | ⟨h2, h3⟩
    · obtain ⟨e, T2, H2, h4, h5⟩ := loop_run I Q N hstep hlast k (i + 1) T' H' (by omega) h2
      exact ⟨e, T2, H2, by rw [evL_eq, h1, Option.bind_some, againL_nrm, h4], h5⟩
    · refine ⟨e, T', H', ?_, h3⟩
      rw [evL_eq, h1, Option.bind_some]
      cases e with
      | nrm => exact absurd rfl h2
      | ret => rfl
      | exit i => rfl
theorem bind_run {β : Type} {x : Option (AExit × Tm × Heap)} {Q : AExit → Tm → Heap → Prop} {f : AExit × Tm × Heap → Option β} {r : Option β} (h : ∃ e T' H', x = some (e, T', H') ∧ Q e T' H') (hf : ∀ e T' H', Q e T' H' → f (e, T', H') = r) : x.bind f = r := by
  obtain ⟨e, T', H', rfl, hp⟩ := h
  exact hf e T' H' hp
theorem list_idx {α : Type} (f : α → DV) {l : List α} {i : Nat} {x : α} (h : l[i]? = some x) : (l.map f)[i]? = some (f x) := by simp [h]
theorem take_succ' {α : Type} {l : List α} {i : Nat} {x : α} (h : l[i]? = some x) : l.take (i + 1) = l.take i ++ [x] := by rw [List.take_succ, h]; rfl

theorem evF_ext {C : FuncId → Option AFn} {f : FuncId} {g : List AV → Option (AV × Heap)} (h : C f = some (.ext g)) (args : List AV) : evF C f args [] = g args := by
  rw [evF.eq_def]
  simp only [h]
theorem repeat_at {C : FuncId → Option AFn} {f : FuncId} (h : C f = some (.ext repeatX)) (n : Nat) (hn : n ≤ 1000000) : evF C f [.d (.s ⟨#[0]⟩), .d (.i .i64 (n : Int))] [] = some (.d (.s (nul n)), []) := by
  rw [evF_ext h]
  show (if _ then _ else _) = _
  rw [if_pos ⟨rfl, by omega, by omega⟩]
  simp
end Pk

namespace Pk
open Pv Go

/-- Data of this type is what d tells. -/
def Cod {α : Type} (P : Program) (n : Nat) (t : TypeId) (d : α → DV) (cs : α → List DV) (ok : α → Prop) : Prop :=
  ∀ ds, Shape P n t ds → ∃ x, ds = cs x ∧ pack P t ds = d x ∧ ok x

def ShapeT (sh : TypeId → List DV → Prop) : List TypeId → List DV → Prop
  | [], ds => ds = []
  | t :: r, ds => ∃ a b, ds = a ++ b ∧ sh t a ∧ ShapeT sh r b
theorem shapeT_of {sh : TypeId → List DV → Prop} : ∀ {fs : List Field} {ds : List DV}, ShapeFs sh fs ds → ShapeT sh (fs.map (·.type)) ds
  | [], _, h => h
  | _ :: _, _, ⟨a, b, h1, h2, h3⟩ => ⟨a, b, h1, h2, shapeT_of h3⟩

section
variable {P : Program} {n : Nat} {t e : TypeId}
theorem cod_u8 (ht : P.underlying t = some (.int .u8)) : Cod P (n + 1) t (fun x : Int => .i .u8 x) (fun x => [.i .u8 x]) (fun x => 0 ≤ x ∧ x < 256) := by
  intro ds h
  simp only [Shape, ht] at h
  obtain ⟨x, rfl, hx⟩ := h
  exact ⟨x, rfl, by simp [pack, ht], wf_u8 hx⟩
theorem cod_u32 (ht : P.underlying t = some (.int .u32)) : Cod P (n + 1) t (fun x : Int => .i .u32 x) (fun x => [.i .u32 x]) (fun x => 0 ≤ x ∧ x < 4294967296) := by
  intro ds h
  simp only [Shape, ht] at h
  obtain ⟨x, rfl, hx⟩ := h
  exact ⟨x, rfl, by simp [pack, ht], wf_u32 hx⟩
theorem cod_int (ht : P.underlying t = some (.int .i64)) : Cod P (n + 1) t (fun x : Int => .i .i64 x) (fun x => [.i .i64 x]) (fun x => -9223372036854775808 ≤ x ∧ x ≤ 9223372036854775807) := by
  intro ds h
  simp only [Shape, ht] at h
  obtain ⟨x, rfl, hx⟩ := h
  exact ⟨x, rfl, by simp [pack, ht], wf_i64 hx⟩
theorem cod_bool (ht : P.underlying t = some .bool) : Cod P (n + 1) t (fun x : Bool => .b x) (fun x => [.b x]) (fun _ => True) := by
  intro ds h
  simp only [Shape, ht] at h
  obtain ⟨x, rfl⟩ := h
  exact ⟨x, rfl, by simp [pack, ht], trivial⟩
theorem cod_str (ht : P.underlying t = some .string) : Cod P (n + 1) t (fun x : ByteArray => .s x) (fun x => [.s x]) (fun x => x.size ≤ maxLen) := by
  intro ds h
  simp only [Shape, ht] at h
  obtain ⟨x, rfl, hx⟩ := h
  exact ⟨x, rfl, by simp [pack, ht], hx⟩

variable {α : Type} {d : α → DV} {cs : α → List DV} {ok : α → Prop}
theorem cod_list (hc : Cod P n e d cs ok) : ∀ {es : List (List DV)}, (∀ x ∈ es, Shape P n e x) → ∃ l : List α, es.map (pack P e) = l.map d ∧ es = l.map cs ∧ ∀ x ∈ l, ok x
  | [], _ => ⟨[], rfl, rfl, by simp⟩
  | y :: r, h => by
    obtain ⟨l, h1, h2, h3⟩ := cod_list hc (es := r) fun x hx => h x (by simp [hx])
    obtain ⟨x, e1, e2, e3⟩ := hc y (h y (by simp))
    refine ⟨x :: l, by simp [h1, e2], by simp [← h2, e1], ?_⟩
    intro z hz
    rcases List.mem_cons.1 hz with rfl | hz
    · exact e3
    · exact h3 z hz
theorem cod_slice (ht : P.underlying t = some (.slice e)) (hc : Cod P n e d cs ok) : Cod P (n + 1) t (fun l : List α => .sl (l.map d)) (fun l => [.sl (l.map d)]) (fun l => l.length ≤ maxLen ∧ ∀ x ∈ l, ok x) := by
  intro ds h
  unfold Shape at h
  simp only [ht] at h
  obtain ⟨es, rfl, hl, hx⟩ := h
  obtain ⟨l, h1, h2, h3⟩ := cod_list hc hx
  refine ⟨l, by rw [h1], by simp [pack, ht, h1], ?_, h3⟩
  have : es.length = l.length := by rw [h2]; simp
  omega
theorem cod_row {m : Nat} (ht : P.underlying t = some (.array m e)) (hc : Cod P n e d cs ok) {ds : List DV} (h : Shape P (n + 1) t ds) : ∃ l : List α, ds = (l.map cs).flatten ∧ l.length = m ∧ (∀ x ∈ l, ok x) ∧ pack P t ds = .agg ds := by
  unfold Shape at h
  simp only [ht] at h
  obtain ⟨es, rfl, hl, hx⟩ := h
  obtain ⟨l, h1, h2, h3⟩ := cod_list hc hx
  refine ⟨l, by rw [h2], ?_, h3, by simp [pack, ht]⟩
  rw [h2] at hl; simpa using hl
theorem cod_arr3 (ht : P.underlying t = some (.array 3 e)) (hc : Cod P n e d cs ok) : Cod P (n + 1) t (fun r : R3 α => .agg (R3.cs cs r)) (fun r => R3.cs cs r) (fun r => ok r.a0 ∧ ok r.a1 ∧ ok r.a2) := by
  intro ds h
  obtain ⟨l, rfl, hl, h3, hp⟩ := cod_row ht hc h
  match l, hl with
  | [x0, x1, x2], _ => exact ⟨⟨x0, x1, x2⟩, by simp [R3.cs], by rw [hp]; simp [R3.cs], h3 _ (by simp), h3 _ (by simp), h3 _ (by simp)⟩
theorem cod_arr6 (ht : P.underlying t = some (.array 6 e)) (hc : Cod P n e d cs ok) : Cod P (n + 1) t (fun r : R6 α => .agg (R6.cs cs r)) (fun r => R6.cs cs r) (fun r => ok r.a0 ∧ ok r.a1 ∧ ok r.a2 ∧ ok r.a3 ∧ ok r.a4 ∧ ok r.a5) := by
  intro ds h
  obtain ⟨l, rfl, hl, h3, hp⟩ := cod_row ht hc h
  match l, hl with
  | [x0, x1, x2, x3, x4, x5], _ => exact ⟨⟨x0, x1, x2, x3, x4, x5⟩, by simp [R6.cs], by rw [hp]; simp [R6.cs], h3 _ (by simp), h3 _ (by simp), h3 _ (by simp), h3 _ (by simp), h3 _ (by simp), h3 _ (by simp)⟩

/-- One argument taken. -/
theorem arg_cod (hc : Cod P n t d cs ok) {r : List TypeId} {xs : List AV} (h : ArgsOk P n (t :: r) xs) : ∃ x ys, xs = .d (d x) :: ys ∧ ok x ∧ ArgsOk P n r ys := by
  obtain ⟨ds, ys, rfl, h1, h2⟩ := h
  obtain ⟨x, rfl, e2, e3⟩ := hc ds h1
  exact ⟨x, ys, by rw [e2], e3, h2⟩
end
end Pk
