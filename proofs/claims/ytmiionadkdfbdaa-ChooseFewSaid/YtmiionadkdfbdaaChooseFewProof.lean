/- A group of too few daemons does not serve, and an interval of too few is asked for by nobody. -/
import Derived.Test.YtmiionadkdfbdaaRows
import Derived.Test.YtmiionadkdfbdaaPkCodB
import Derived.Test.YtmiionadkdfbdaaChLF
set_option linter.all false
namespace Go.Proofs.Ytmiionadkdfbdaa.chooseFew
open Pv Pk Go Go.ChangeShapes Go.WideShapes Go.ChangeAt Go.RowKit
theorem own : ownKnob Try.prog.godebug = none := by kernel_rfl
theorem laidOut : laidOutB Try.prog = true := by kernel_rfl
theorem ev (xs : List AV) (h : ArgsOk Try.prog 8 Try.f5.params.toList xs) : ∃ H', evF C 5 xs [] = some (.d (.b true), H') := by
  rw [Try.params5] at h
  obtain ⟨x0, ys, rfl, w0, h⟩ := arg_cod (cod_u8 Try.underlying5) h
  obtain ⟨x1, ys, rfl, w1, h⟩ := arg_cod (cod_arr5 Try.underlying62 (cod_bool Try.underlying4)) h
  obtain rfl := arg_none h
  exact ⟨[], few_law x1.l rfl x0 w0⟩
set_option maxRecDepth 100000 in
theorem lifted (os : Os) (started : os.Started) (H : Type) (enc : TypeId × Value → H) :
    ReturnsInHanded {} Try.checked os 5 .any (Rows.chooseFewSpec.pre6 enc Try.prog Try.f5 Rows.chooseFewRow.domain false) (Rows.chooseFewSpec.post enc Try.prog Try.f5 false true false false) :=
  lifted_of (C := Try.checked) (tb := 4) 8 own started (by kernel_rfl) Try.func5
    (ChangeSpec.witness6 (enc := enc) (C := Try.checked) false ⟨#[], #[.int .u8 0, .agg #[.bool false, .bool false, .bool false, .bool false, .bool false]], []⟩ 8 (by kernel_rfl) (by kernel_rfl) (by kernel_rfl) (by kernel_rfl))
    hC laidOut (by kernel_rfl) (by kernel_rfl) (by kernel_rfl) Try.underlying4 rfl
    (fun ds h => match ds, h with
      | [_, _], _ => rfl) ev
theorem over : Rows.chooseFewRow.holds Try.pinned (OpenSpec.ofChange Rows.chooseFewSpec) :=
  OpenClaim.holds_of_wide 5 Try.f5 rfl rfl rfl rfl rfl rfl rfl ⟨rfl, rfl, rfl, rfl, rfl⟩ rfl rfl rfl rfl rfl (by kernel_rfl) Try.func5 (by kernel_rfl)
    (of_decide_eq_true (by kernel_rfl)) (by unfold Func.isWrapper; first | (rw [if_pos (by decide +kernel)]; kernel_rfl) | (rw [if_neg (by decide +kernel)]; exact ⟨rfl, rfl⟩))
    (fun os started H enc _ => lifted os started H enc)
/-- The statement. -/
theorem proved : Rows.ChooseFewSaid :=
  over
end Go.Proofs.Ytmiionadkdfbdaa.chooseFew
