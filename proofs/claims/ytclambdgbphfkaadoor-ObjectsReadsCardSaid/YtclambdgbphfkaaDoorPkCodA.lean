/- A law's arguments read as the program's data: from shapes to structures. -/
import Derived.Test.YtclambdgbphfkaaDoorPkLib
set_option linter.all false
namespace Pk
open Pv Go

/-- Data of this type is what d tells. -/
def Cod {α : Type} (P : Program) (n : Nat) (t : TypeId) (d : α → DV) (cs : α → List DV) (ok : α → Prop) : Prop :=
  ∀ ds, Shape P n t ds → ∃ x, ds = cs x ∧ pack P t ds = d x ∧ ok x

def ShapeT (sh : TypeId → List DV → Prop) : List TypeId → List DV → Prop
  | [], ds => ds = []
  | t :: r, ds => ∃ a b, ds = a ++ b ∧ sh t a ∧ ShapeT sh r b
theorem shapeT_of {sh : TypeId → List DV → Prop} : ∀ {fs : List Field} {ds : List DV}, ShapeFs sh fs ds → ShapeT sh (fs.map (·.type)) ds
  | [], _, h => h
  | _ :: _, _, ⟨a, b, h1, h2, h3⟩ => ⟨a, b, h1, h2, shapeT_of h3⟩

section
variable {P : Program} {n : Nat} {t e : TypeId}
theorem cod_u8 (ht : P.underlying t = some (.int .u8)) : Cod P (n + 1) t (fun x : Int => .i .u8 x) (fun x => [.i .u8 x]) (fun x => 0 ≤ x ∧ x < 256) := by
  intro ds h
  simp only [Shape, ht] at h
  obtain ⟨x, rfl, hx⟩ := h
  exact ⟨x, rfl, by simp [pack, ht], wf_u8 hx⟩
theorem cod_u32 (ht : P.underlying t = some (.int .u32)) : Cod P (n + 1) t (fun x : Int => .i .u32 x) (fun x => [.i .u32 x]) (fun x => 0 ≤ x ∧ x < 4294967296) := by
  intro ds h
  simp only [Shape, ht] at h
  obtain ⟨x, rfl, hx⟩ := h
  exact ⟨x, rfl, by simp [pack, ht], wf_u32 hx⟩
theorem cod_int (ht : P.underlying t = some (.int .i64)) : Cod P (n + 1) t (fun x : Int => .i .i64 x) (fun x => [.i .i64 x]) (fun x => -9223372036854775808 ≤ x ∧ x ≤ 9223372036854775807) := by
  intro ds h
  simp only [Shape, ht] at h
  obtain ⟨x, rfl, hx⟩ := h
  exact ⟨x, rfl, by simp [pack, ht], wf_i64 hx⟩
theorem cod_bool (ht : P.underlying t = some .bool) : Cod P (n + 1) t (fun x : Bool => .b x) (fun x => [.b x]) (fun _ => True) := by
  intro ds h
  simp only [Shape, ht] at h
  obtain ⟨x, rfl⟩ := h
  exact ⟨x, rfl, by simp [pack, ht], trivial⟩
theorem cod_str (ht : P.underlying t = some .string) : Cod P (n + 1) t (fun x : ByteArray => .s x) (fun x => [.s x]) (fun x => x.size ≤ maxLen) := by
  intro ds h
  simp only [Shape, ht] at h
  obtain ⟨x, rfl, hx⟩ := h
  exact ⟨x, rfl, by simp [pack, ht], hx⟩

variable {α : Type} {d : α → DV} {cs : α → List DV} {ok : α → Prop}
theorem cod_list (hc : Cod P n e d cs ok) : ∀ {es : List (List DV)}, (∀ x ∈ es, Shape P n e x) → ∃ l : List α, es.map (pack P e) = l.map d ∧ es = l.map cs ∧ ∀ x ∈ l, ok x
  | [], _ => ⟨[], rfl, rfl, by simp⟩
  | y :: r, h => by
    obtain ⟨l, h1, h2, h3⟩ := cod_list hc (es := r) fun x hx => h x (by simp [hx])
    obtain ⟨x, e1, e2, e3⟩ := hc y (h y (by simp))
    refine ⟨x :: l, by simp [h1, e2], by simp [← h2, e1], ?_⟩
    intro z hz
    rcases List.mem_cons.1 hz with rfl | hz
    · exact e3
    · exact h3 z hz
theorem cod_slice (ht : P.underlying t = some (.slice e)) (hc : Cod P n e d cs ok) : Cod P (n + 1) t (fun l : List α => .sl (l.map d)) (fun l => [.sl (l.map d)]) (fun l => l.length ≤ maxLen ∧ ∀ x ∈ l, ok x) := by
  intro ds h
  unfold Shape at h
  simp only [ht] at h
  obtain ⟨es, rfl, hl, hx⟩ := h
  obtain ⟨l, h1, h2, h3⟩ := cod_list hc hx
  refine ⟨l, by rw [h1], by simp [pack, ht, h1], ?_, h3⟩
  have : es.length = l.length := by rw [h2]; simp
  omega
theorem cod_row {m : Nat} (ht : P.underlying t = some (.array m e)) (hc : Cod P n e d cs ok) {ds : List DV} (h : Shape P (n + 1) t ds) : ∃ l : List α, ds = (l.map cs).flatten ∧ l.length = m ∧ (∀ x ∈ l, ok x) ∧ pack P t ds = .agg ds := by
  unfold Shape at h
  simp only [ht] at h
  obtain ⟨es, rfl, hl, hx⟩ := h
  obtain ⟨l, h1, h2, h3⟩ := cod_list hc hx
  refine ⟨l, by rw [h2], ?_, h3, by simp [pack, ht]⟩
  rw [h2] at hl; simpa using hl
theorem cod_arr3 (ht : P.underlying t = some (.array 3 e)) (hc : Cod P n e d cs ok) : Cod P (n + 1) t (fun r : R3 α => .agg (R3.cs cs r)) (fun r => R3.cs cs r) (fun r => ok r.a0 ∧ ok r.a1 ∧ ok r.a2) := by
  intro ds h
  obtain ⟨l, rfl, hl, h3, hp⟩ := cod_row ht hc h
  match l, hl with
  | [x0, x1, x2], _ => exact ⟨⟨x0, x1, x2⟩, by simp [R3.cs], by rw [hp]; simp [R3.cs], h3 _ (by simp), h3 _ (by simp), h3 _ (by simp)⟩
theorem cod_arr4 (ht : P.underlying t = some (.array 4 e)) (hc : Cod P n e d cs ok) : Cod P (n + 1) t (fun r : R4 α => .agg (R4.cs cs r)) (fun r => R4.cs cs r) (fun r => ok r.a0 ∧ ok r.a1 ∧ ok r.a2 ∧ ok r.a3) := by
  intro ds h
  obtain ⟨l, rfl, hl, h3, hp⟩ := cod_row ht hc h
  match l, hl with
  | [x0, x1, x2, x3], _ => exact ⟨⟨x0, x1, x2, x3⟩, by simp [R4.cs], by rw [hp]; simp [R4.cs], h3 _ (by simp), h3 _ (by simp), h3 _ (by simp), h3 _ (by simp)⟩
theorem cod_arr5 (ht : P.underlying t = some (.array 5 e)) (hc : Cod P n e d cs ok) : Cod P (n + 1) t (fun r : R5 α => .agg (R5.cs cs r)) (fun r => R5.cs cs r) (fun r => ok r.a0 ∧ ok r.a1 ∧ ok r.a2 ∧ ok r.a3 ∧ ok r.a4) := by
  intro ds h
  obtain ⟨l, rfl, hl, h3, hp⟩ := cod_row ht hc h
  match l, hl with
  | [x0, x1, x2, x3, x4], _ => exact ⟨⟨x0, x1, x2, x3, x4⟩, by simp [R5.cs], by rw [hp]; simp [R5.cs], h3 _ (by simp), h3 _ (by simp), h3 _ (by simp), h3 _ (by simp), h3 _ (by simp)⟩
theorem cod_arr6 (ht : P.underlying t = some (.array 6 e)) (hc : Cod P n e d cs ok) : Cod P (n + 1) t (fun r : R6 α => .agg (R6.cs cs r)) (fun r => R6.cs cs r) (fun r => ok r.a0 ∧ ok r.a1 ∧ ok r.a2 ∧ ok r.a3 ∧ ok r.a4 ∧ ok r.a5) := by
  intro ds h
  obtain ⟨l, rfl, hl, h3, hp⟩ := cod_row ht hc h
  match l, hl with
  | [x0, x1, x2, x3, x4, x5], _ => exact ⟨⟨x0, x1, x2, x3, x4, x5⟩, by simp [R6.cs], by rw [hp]; simp [R6.cs], h3 _ (by simp), h3 _ (by simp), h3 _ (by simp), h3 _ (by simp), h3 _ (by simp), h3 _ (by simp)⟩

/-- One argument taken. -/
theorem arg_cod (hc : Cod P n t d cs ok) {r : List TypeId} {xs : List AV} (h : ArgsOk P n (t :: r) xs) : ∃ x ys, xs = .d (d x) :: ys ∧ ok x ∧ ArgsOk P n r ys := by
  obtain ⟨ds, ys, rfl, h1, h2⟩ := h
  obtain ⟨x, rfl, e2, e3⟩ := hc ds h1
  exact ⟨x, ys, by rw [e2], e3, h2⟩
theorem Cod.ok' {ok' : α → Prop} (hc : Cod P n t d cs ok) (h : ∀ x, ok x → ok' x) : Cod P n t d cs ok' := by
  intro ds hs
  obtain ⟨x, e1, e2, e3⟩ := hc ds hs
  exact ⟨x, e1, e2, h x e3⟩
end
end Pk
