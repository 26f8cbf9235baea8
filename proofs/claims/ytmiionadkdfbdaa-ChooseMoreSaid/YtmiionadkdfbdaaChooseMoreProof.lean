/- Whoever hears more lacks no more, whoever has heard all lacks nothing, and a later start asks for no more. -/
import Derived.Test.YtmiionadkdfbdaaRows
import Derived.Test.YtmiionadkdfbdaaPkCodB
import Derived.Test.YtmiionadkdfbdaaChLM
set_option linter.all false
namespace Go.Proofs.Ytmiionadkdfbdaa.chooseMore
open Pv Pk Go Go.ChangeShapes Go.WideShapes Go.ChangeAt Go.RowKit
theorem own : ownKnob Try.prog.godebug = none := by kernel_rfl
theorem laidOut : laidOutB Try.prog = true := by kernel_rfl
theorem cod_Inc {n : Nat} : Cod Try.prog (n + 2) 56 Pk.Inc.d Pk.Inc.cs Pk.Inc.ok :=
  Pk.Inc.cod Try.underlying56 rfl (cod_u8 Try.underlying5) (cod_u8 Try.underlying5) (cod_int Try.underlying3)
theorem ev (xs : List AV) (h : ArgsOk Try.prog 8 Try.f6.params.toList xs) : ∃ H', evF C 6 xs [] = some (.d (.b true), H') := by
  rw [Try.params6] at h
  obtain ⟨x0, ys, rfl, w0, h⟩ := arg_cod (cod_slice Try.underlying65 cod_Inc) h
  obtain ⟨x1, ys, rfl, w1, h⟩ := arg_cod (cod_u8 Try.underlying5) h
  obtain ⟨x2, ys, rfl, w2, h⟩ := arg_cod (cod_slice Try.underlying25 (cod_int Try.underlying3)) h
  obtain ⟨x3, ys, rfl, w3, h⟩ := arg_cod (cod_u8 Try.underlying5) h
  obtain ⟨x4, ys, rfl, w4, h⟩ := arg_cod (cod_u32 Try.underlying27) h
  obtain rfl := arg_none h
  exact ⟨[], more_law x0 w0.2 x1 w1 x2 x3 w3 x4 w4⟩
set_option maxRecDepth 100000 in
theorem lifted (os : Os) (started : os.Started) (H : Type) (enc : TypeId × Value → H) :
    ReturnsInHanded {} Try.checked os 6 .any (Rows.chooseMoreSpec.pre6 enc Try.prog Try.f6 Rows.chooseMoreRow.domain false) (Rows.chooseMoreSpec.post enc Try.prog Try.f6 false true false false) :=
  lifted_of (C := Try.checked) (tb := 4) 8 own started (by kernel_rfl) Try.func6
    (ChangeSpec.witness6 (enc := enc) (C := Try.checked) false ⟨#[], #[.slice none 0 0, .int .u8 0, .slice none 0 0, .int .u8 0, .int .u32 0], []⟩ 8 (by kernel_rfl) (by kernel_rfl) (by kernel_rfl) (by kernel_rfl))
    hC laidOut (by kernel_rfl) (by kernel_rfl) (by kernel_rfl) Try.underlying4 rfl
    (fun ds h => match ds, h with
      | [_, _, _, _, _], _ => rfl) ev
theorem over : Rows.chooseMoreRow.holds Try.pinned (OpenSpec.ofChange Rows.chooseMoreSpec) :=
  OpenClaim.holds_of_wide 6 Try.f6 rfl rfl rfl rfl rfl rfl rfl ⟨rfl, rfl, rfl, rfl, rfl⟩ rfl rfl rfl rfl rfl (by kernel_rfl) Try.func6 (by kernel_rfl)
    (of_decide_eq_true (by kernel_rfl)) (by unfold Func.isWrapper; first | (rw [if_pos (by decide +kernel)]; kernel_rfl) | (rw [if_neg (by decide +kernel)]; exact ⟨rfl, rfl⟩))
    (fun os started H enc _ => lifted os started H enc)
/-- The statement. -/
theorem proved : Rows.ChooseMoreSaid :=
  over
end Go.Proofs.Ytmiionadkdfbdaa.chooseMore
