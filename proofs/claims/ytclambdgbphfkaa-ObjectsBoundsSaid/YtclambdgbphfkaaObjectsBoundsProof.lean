/- Proved: for every input ObjectsBounds answers true and its arguments read as before; no condition. -/
import Derived.Test.YtclambdgbphfkaaRows
import Derived.Test.YtclambdgbphfkaaPkCodB
import Derived.Test.YtclambdgbphfkaaObjLawC
set_option linter.all false
namespace Go.Proofs.Ytclambdgbphfkaa.objectsBounds
open Pv Pk Go Go.ChangeShapes Go.WideShapes Go.ChangeAt Go.RowKit
theorem own : ownKnob Try.prog.godebug = none := by kernel_rfl
theorem laidOut : laidOutB Try.prog = true := by kernel_rfl
theorem ev (xs : List AV) (h : ArgsOk Try.prog 8 Try.f4.params.toList xs) : ∃ H', evF C 4 xs [] = some (.d (.b true), H') := by
  rw [Try.params4] at h
  obtain ⟨x0, ys, rfl, w0, h⟩ := arg_cod (cod_u8 Try.underlying5) h
  obtain ⟨x1, ys, rfl, w1, h⟩ := arg_cod (cod_u8 Try.underlying5) h
  obtain ⟨x2, ys, rfl, w2, h⟩ := arg_cod (cod_bool Try.underlying4) h
  obtain rfl := arg_none h
  exact ⟨[], bounds_at x0 x1 x2 w0 w1⟩
set_option maxRecDepth 100000 in
theorem lifted (os : Os) (started : os.Started) (H : Type) (enc : TypeId × Value → H) :
    ReturnsInHanded {} Try.checked os 4 .any (Rows.objectsBoundsSpec.pre6 enc Try.prog Try.f4 Rows.objectsBoundsRow.domain false) (Rows.objectsBoundsSpec.post enc Try.prog Try.f4 false true false false) :=
  lifted_of (C := Try.checked) (tb := 4) 8 own started (by kernel_rfl) Try.func4
    (ChangeSpec.witness6 (enc := enc) (C := Try.checked) false ⟨#[], #[.int .u8 0, .int .u8 0, .bool false], []⟩ 8 (by kernel_rfl) (by kernel_rfl) (by kernel_rfl) (by kernel_rfl))
    hC laidOut (by kernel_rfl) (by kernel_rfl) (by kernel_rfl) Try.underlying4 rfl
    (fun ds h => match ds, h with
      | [_, _, _], _ => rfl) ev
theorem over : Rows.objectsBoundsRow.holds Try.pinned (OpenSpec.ofChange Rows.objectsBoundsSpec) :=
  OpenClaim.holds_of_wide 4 Try.f4 rfl rfl rfl rfl rfl rfl rfl ⟨rfl, rfl, rfl, rfl, rfl⟩ rfl rfl rfl rfl rfl (by kernel_rfl) Try.func4 (by kernel_rfl)
    (of_decide_eq_true (by kernel_rfl)) (by unfold Func.isWrapper; first | (rw [if_pos (by decide +kernel)]; kernel_rfl) | (rw [if_neg (by decide +kernel)]; exact ⟨rfl, rfl⟩))
    (fun os started H enc _ => lifted os started H enc)
/-- The statement. -/
theorem proved : Rows.ObjectsBoundsSaid :=
  over
end Go.Proofs.Ytclambdgbphfkaa.objectsBounds
