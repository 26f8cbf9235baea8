/- Proved: for every input PlaceMoves answers true and its arguments read as before; no condition. -/
import Derived.Test.YtfafafocnnhmpaaRows
import Derived.Test.YtfafafocnnhmpaaPkCodB
import Derived.Test.YtfafafocnnhmpaaPlaceMoves
set_option linter.all false
namespace Go.Proofs.Ytfafafocnnhmpaa.placeMoves
open Pv Pk Go Go.ChangeShapes Go.WideShapes Go.ChangeAt Go.RowKit
theorem own : ownKnob Try.prog.godebug = none := by kernel_rfl
theorem laidOut : laidOutB Try.prog = true := by kernel_rfl
theorem ev (xs : List AV) (h : ArgsOk Try.prog 8 Try.f10.params.toList xs) : ∃ H', evF C 10 xs [] = some (.d (.b true), H') := by
  rw [Try.params10] at h
  obtain ⟨x0, ys, rfl, w0, h⟩ := arg_cod (cod_arr5 Try.underlying43 (cod_u8 Try.underlying5)) h
  obtain ⟨x1, ys, rfl, w1, h⟩ := arg_cod (cod_u8 Try.underlying5) h
  obtain rfl := arg_none h
  exact ⟨[], moves_law x0 w0 x1 w1⟩
set_option maxRecDepth 100000 in
theorem lifted (os : Os) (started : os.Started) (H : Type) (enc : TypeId × Value → H) :
    ReturnsInHanded {} Try.checked os 10 .any (Rows.placeMovesSpec.pre6 enc Try.prog Try.f10 Rows.placeMovesRow.domain false) (Rows.placeMovesSpec.post enc Try.prog Try.f10 false true false false) :=
  lifted_of (C := Try.checked) (tb := 4) 8 own started (by kernel_rfl) Try.func10
    (ChangeSpec.witness6 (enc := enc) (C := Try.checked) false ⟨#[], #[.agg #[.int .u8 0, .int .u8 0, .int .u8 0, .int .u8 0, .int .u8 0], .int .u8 0], []⟩ 8 (by kernel_rfl) (by kernel_rfl) (by kernel_rfl) (by kernel_rfl))
    hC laidOut (by kernel_rfl) (by kernel_rfl) (by kernel_rfl) Try.underlying4 rfl
    (fun ds h => match ds, h with
      | [_, _], _ => rfl) ev
theorem over : Rows.placeMovesRow.holds Try.pinned (OpenSpec.ofChange Rows.placeMovesSpec) :=
  OpenClaim.holds_of_wide 10 Try.f10 rfl rfl rfl rfl rfl rfl rfl ⟨rfl, rfl, rfl, rfl, rfl⟩ rfl rfl rfl rfl rfl (by kernel_rfl) Try.func10 (by kernel_rfl)
    (of_decide_eq_true (by kernel_rfl)) (by unfold Func.isWrapper; first | (rw [if_pos (by decide +kernel)]; kernel_rfl) | (rw [if_neg (by decide +kernel)]; exact ⟨rfl, rfl⟩))
    (fun os started H enc _ => lifted os started H enc)
/-- The statement. -/
theorem proved : Rows.PlaceMovesSaid :=
  over
end Go.Proofs.Ytfafafocnnhmpaa.placeMoves
