/- A law's arguments read as the program's data: from shapes to structures. -/
import Derived.Test.YtckaebcljcpobaaPkLib
set_option linter.all false
namespace Pk
open Pv Go

/-- Data of this type is what d tells. -/
def Cod {α : Type} (P : Program) (n : Nat) (t : TypeId) (d : α → DV) (cs : α → List DV) (ok : α → Prop) : Prop :=
  ∀ ds, Shape P n t ds → ∃ x, ds = cs x ∧ pack P t ds = d x ∧ ok x

def ShapeT (sh : TypeId → List DV → Prop) : List TypeId → List DV → Prop
  | [], ds => ds = []
  | t :: r, ds => ∃ a b, ds = a ++ b ∧ sh t a ∧ ShapeT sh r b
theorem shapeT_of {sh : TypeId → List DV → Prop} : ∀ {fs : List Field} {ds : List DV}, ShapeFs sh fs ds → ShapeT sh (fs.map (·.type)) ds
  | [], _, h => h
  | _ :: _, _, ⟨a, b, h1, h2, h3⟩ => ⟨a, b, h1, h2, shapeT_of h3⟩

section
variable {P : Program} {n : Nat} {t e : TypeId}
theorem cod_u8 (ht : P.underlying t = some (.int .u8)) : Cod P (n + 1) t (fun x : Int => .i .u8 x) (fun x => [.i .u8 x]) (fun x => 0 ≤ x ∧ x < 256) := by
  intro ds h
  simp only [Shape, ht] at h
  obtain ⟨x, rfl, hx⟩ := h
  exact ⟨x, rfl, by simp [pack, ht], wf_u8 hx⟩
theorem cod_int (ht : P.underlying t = some (.int .i64)) : Cod P (n + 1) t (fun x : Int => .i .i64 x) (fun x => [.i .i64 x]) (fun x => -9223372036854775808 ≤ x ∧ x ≤ 9223372036854775807) := by
  intro ds h
  simp only [Shape, ht] at h
  obtain ⟨x, rfl, hx⟩ := h
  exact ⟨x, rfl, by simp [pack, ht], wf_i64 hx⟩
variable {α : Type} {d : α → DV} {cs : α → List DV} {ok : α → Prop}
/-- One argument taken. -/
theorem arg_cod (hc : Cod P n t d cs ok) {r : List TypeId} {xs : List AV} (h : ArgsOk P n (t :: r) xs) : ∃ x ys, xs = .d (d x) :: ys ∧ ok x ∧ ArgsOk P n r ys := by
  obtain ⟨ds, ys, rfl, h1, h2⟩ := h
  obtain ⟨x, rfl, e2, e3⟩ := hc ds h1
  exact ⟨x, ys, by rw [e2], e3, h2⟩
end
end Pk
