/- Proved: for every input PlaceFew answers true and its arguments read as before; no condition. -/
import Derived.Test.YtfafafocnnhmpaaRows
import Derived.Test.YtfafafocnnhmpaaPkCodB
import Derived.Test.YtfafafocnnhmpaaPlaceFew
set_option linter.all false
namespace Go.Proofs.Ytfafafocnnhmpaa.placeFew
open Pv Pk Go Go.ChangeShapes Go.WideShapes Go.ChangeAt Go.RowKit
theorem own : ownKnob Try.prog.godebug = none := by kernel_rfl
theorem laidOut : laidOutB Try.prog = true := by kernel_rfl
theorem ev (xs : List AV) (h : ArgsOk Try.prog 8 Try.f9.params.toList xs) : ∃ H', evF C 9 xs [] = some (.d (.b true), H') := by
  rw [Try.params9] at h
  obtain ⟨x0, ys, rfl, w0, h⟩ := arg_cod (cod_u8 Try.underlying5) h
  obtain ⟨x1, ys, rfl, w1, h⟩ := arg_cod (cod_u8 Try.underlying5) h
  obtain ⟨x2, ys, rfl, w2, h⟩ := arg_cod (cod_bool Try.underlying4) h
  obtain rfl := arg_none h
  exact ⟨[], few_at x0 x1 x2 w0 w1⟩
set_option maxRecDepth 100000 in
theorem lifted (os : Os) (started : os.Started) (H : Type) (enc : TypeId × Value → H) :
    ReturnsInHanded {} Try.checked os 9 .any (Rows.placeFewSpec.pre6 enc Try.prog Try.f9 Rows.placeFewRow.domain false) (Rows.placeFewSpec.post enc Try.prog Try.f9 false true false false) :=
  lifted_of (C := Try.checked) (tb := 4) 8 own started (by kernel_rfl) Try.func9
    (ChangeSpec.witness6 (enc := enc) (C := Try.checked) false ⟨#[], #[.int .u8 0, .int .u8 0, .bool false], []⟩ 8 (by kernel_rfl) (by kernel_rfl) (by kernel_rfl) (by kernel_rfl))
    hC laidOut (by kernel_rfl) (by kernel_rfl) (by kernel_rfl) Try.underlying4 rfl
    (fun ds h => match ds, h with
      | [_, _, _], _ => rfl) ev
theorem over : Rows.placeFewRow.holds Try.pinned (OpenSpec.ofChange Rows.placeFewSpec) :=
  OpenClaim.holds_of_wide 9 Try.f9 rfl rfl rfl rfl rfl rfl rfl ⟨rfl, rfl, rfl, rfl, rfl⟩ rfl rfl rfl rfl rfl (by kernel_rfl) Try.func9 (by kernel_rfl)
    (of_decide_eq_true (by kernel_rfl)) (by unfold Func.isWrapper; first | (rw [if_pos (by decide +kernel)]; kernel_rfl) | (rw [if_neg (by decide +kernel)]; exact ⟨rfl, rfl⟩))
    (fun os started H enc _ => lifted os started H enc)
/-- The statement. -/
theorem proved : Rows.PlaceFewSaid :=
  over
end Go.Proofs.Ytfafafocnnhmpaa.placeFew
