/- What does not fit is refused. -/
import Derived.Test.YtfajplmkfpdhfaaRows
import Derived.Test.YtfajplmkfpdhfaaPkCodB
import Derived.Test.YtfajplmkfpdhfaaMgM
set_option linter.all false
namespace Go.Proofs.Ytfajplmkfpdhfaa.mergeRefuses
open Pv Pk Go Go.ChangeShapes Go.WideShapes Go.ChangeAt Go.RowKit
theorem own : ownKnob Try.prog.godebug = none := by kernel_rfl
theorem laidOut : laidOutB Try.prog = true := by kernel_rfl
theorem cod_Opr {n : Nat} : Cod Try.prog (n + 2) 37 Pk.Opr.d Pk.Opr.cs Pk.Opr.ok :=
  Pk.Opr.cod Try.underlying37 rfl (cod_u8 Try.underlying5) (cod_u32 Try.underlying24) (cod_u8 Try.underlying5) (cod_u8 Try.underlying5) (cod_u8 Try.underlying5) (cod_str Try.underlying9)
theorem ev (xs : List AV) (h : ArgsOk Try.prog 8 Try.f5.params.toList xs) : ∃ H', evF C 5 xs [] = some (.d (.b true), H') := by
  rw [Try.params5] at h
  obtain ⟨x0, ys, rfl, w0, h⟩ := arg_cod (cod_slice Try.underlying22 cod_Opr) h
  obtain ⟨x1, ys, rfl, w1, h⟩ := arg_cod cod_Opr h
  obtain ⟨x2, ys, rfl, w2, h⟩ := arg_cod (cod_u32 Try.underlying24) h
  obtain ⟨x3, ys, rfl, w3, h⟩ := arg_cod (cod_int Try.underlying3) h
  obtain rfl := arg_none h
  exact ⟨[], refuses_law x0 w0.2 x1 w1 x2 w2.1 x3⟩
set_option maxRecDepth 100000 in
theorem lifted (os : Os) (started : os.Started) (H : Type) (enc : TypeId × Value → H) :
    ReturnsInHanded {} Try.checked os 5 .any (Rows.mergeRefusesSpec.pre6 enc Try.prog Try.f5 Rows.mergeRefusesRow.domain false) (Rows.mergeRefusesSpec.post enc Try.prog Try.f5 false true false false) :=
  lifted_of (C := Try.checked) (tb := 4) 8 own started (by kernel_rfl) Try.func5
    (ChangeSpec.witness6 (enc := enc) (C := Try.checked) false ⟨#[], #[.slice none 0 0, .agg #[.int .u8 0, .int .u32 0, .int .u8 0, .int .u8 0, .int .u8 0, .string ⟨#[]⟩], .int .u32 0, .int .i64 0], []⟩ 8 (by kernel_rfl) (by kernel_rfl) (by kernel_rfl) (by kernel_rfl))
    hC laidOut (by kernel_rfl) (by kernel_rfl) (by kernel_rfl) Try.underlying4 rfl
    (fun ds h => match ds, h with
      | [_, _, _, _], _ => rfl) ev
theorem over : Rows.mergeRefusesRow.holds Try.pinned (OpenSpec.ofChange Rows.mergeRefusesSpec) :=
  OpenClaim.holds_of_wide 5 Try.f5 rfl rfl rfl rfl rfl rfl rfl ⟨rfl, rfl, rfl, rfl, rfl⟩ rfl rfl rfl rfl rfl (by kernel_rfl) Try.func5 (by kernel_rfl)
    (of_decide_eq_true (by kernel_rfl)) (by unfold Func.isWrapper; first | (rw [if_pos (by decide +kernel)]; kernel_rfl) | (rw [if_neg (by decide +kernel)]; exact ⟨rfl, rfl⟩))
    (fun os started H enc _ => lifted os started H enc)
/-- The statement. -/
theorem proved : Rows.MergeRefusesSaid :=
  over
end Go.Proofs.Ytfajplmkfpdhfaa.mergeRefuses
