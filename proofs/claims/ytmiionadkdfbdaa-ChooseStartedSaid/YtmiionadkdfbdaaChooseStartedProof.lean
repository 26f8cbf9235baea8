/- A group's history says since when it stands, and its acting replicas are heard as often as their number asks. -/
import Derived.Test.YtmiionadkdfbdaaRows
import Derived.Test.YtmiionadkdfbdaaPkCodB
import Derived.Test.YtmiionadkdfbdaaChLS
set_option linter.all false
namespace Go.Proofs.Ytmiionadkdfbdaa.chooseStarted
open Pv Pk Go Go.ChangeShapes Go.WideShapes Go.ChangeAt Go.RowKit
theorem own : ownKnob Try.prog.godebug = none := by kernel_rfl
theorem laidOut : laidOutB Try.prog = true := by kernel_rfl
theorem cod_Inc {n : Nat} : Cod Try.prog (n + 2) 56 Pk.Inc.d Pk.Inc.cs Pk.Inc.ok :=
  Pk.Inc.cod Try.underlying56 rfl (cod_u8 Try.underlying5) (cod_u8 Try.underlying5) (cod_int Try.underlying3)
theorem ev (xs : List AV) (h : ArgsOk Try.prog 8 Try.f7.params.toList xs) : ∃ H', evF C 7 xs [] = some (.d (.b true), H') := by
  rw [Try.params7] at h
  obtain ⟨x0, ys, rfl, w0, h⟩ := arg_cod (cod_slice Try.underlying65 cod_Inc) h
  obtain ⟨x1, ys, rfl, w1, h⟩ := arg_cod (cod_u8 Try.underlying5) h
  obtain rfl := arg_none h
  exact ⟨[], started_law x0 w0.2 x1 w1⟩
set_option maxRecDepth 100000 in
theorem lifted (os : Os) (started : os.Started) (H : Type) (enc : TypeId × Value → H) :
    ReturnsInHanded {} Try.checked os 7 .any (Rows.chooseStartedSpec.pre6 enc Try.prog Try.f7 Rows.chooseStartedRow.domain false) (Rows.chooseStartedSpec.post enc Try.prog Try.f7 false true false false) :=
  lifted_of (C := Try.checked) (tb := 4) 8 own started (by kernel_rfl) Try.func7
    (ChangeSpec.witness6 (enc := enc) (C := Try.checked) false ⟨#[], #[.slice none 0 0, .int .u8 0], []⟩ 8 (by kernel_rfl) (by kernel_rfl) (by kernel_rfl) (by kernel_rfl))
    hC laidOut (by kernel_rfl) (by kernel_rfl) (by kernel_rfl) Try.underlying4 rfl
    (fun ds h => match ds, h with
      | [_, _], _ => rfl) ev
theorem over : Rows.chooseStartedRow.holds Try.pinned (OpenSpec.ofChange Rows.chooseStartedSpec) :=
  OpenClaim.holds_of_wide 7 Try.f7 rfl rfl rfl rfl rfl rfl rfl ⟨rfl, rfl, rfl, rfl, rfl⟩ rfl rfl rfl rfl rfl (by kernel_rfl) Try.func7 (by kernel_rfl)
    (of_decide_eq_true (by kernel_rfl)) (by unfold Func.isWrapper; first | (rw [if_pos (by decide +kernel)]; kernel_rfl) | (rw [if_neg (by decide +kernel)]; exact ⟨rfl, rfl⟩))
    (fun os started H enc _ => lifted os started H enc)
/-- The statement. -/
theorem proved : Rows.ChooseStartedSaid :=
  over
end Go.Proofs.Ytmiionadkdfbdaa.chooseStarted
