/- HistoryFull: as many epochs as there can be, then nothing more -/
import Derived.Test.YtckaebcljcpobaaRows
import Derived.Test.YtckaebcljcpobaaPkCodB
import Derived.Test.YtckaebcljcpobaaHsLF
set_option linter.all false
namespace Go.Proofs.Ytckaebcljcpobaa.historyFull
open Pv Pk Go Go.ChangeShapes Go.WideShapes Go.ChangeAt Go.RowKit
theorem own : ownKnob Try.prog.godebug = none := by kernel_rfl
theorem laidOut : laidOutB Try.prog = true := by kernel_rfl
theorem cod_Inc {n : Nat} : Cod Try.prog (n + 2) 31 Pk.Inc.d Pk.Inc.cs Pk.Inc.ok :=
  Pk.Inc.cod Try.underlying31 rfl (cod_u8 Try.underlying5) (cod_u8 Try.underlying5) (cod_int Try.underlying3)
theorem ev (xs : List AV) (h : ArgsOk Try.prog 8 Try.f4.params.toList xs) : ∃ H', evF C 4 xs [] = some (.d (.b true), H') := by
  rw [Try.params4] at h
  obtain ⟨x0, ys, rfl, w0, h⟩ := arg_cod cod_Inc h
  obtain rfl := arg_none h
  exact ⟨[], full_law x0 w0⟩
set_option maxRecDepth 100000 in
theorem lifted (os : Os) (started : os.Started) (H : Type) (enc : TypeId × Value → H) :
    ReturnsInHanded {} Try.checked os 4 .any (Rows.historyFullSpec.pre6 enc Try.prog Try.f4 Rows.historyFullRow.domain false) (Rows.historyFullSpec.post enc Try.prog Try.f4 false true false false) :=
  lifted_of (C := Try.checked) (tb := 4) 8 own started (by kernel_rfl) Try.func4
    (ChangeSpec.witness6 (enc := enc) (C := Try.checked) false ⟨#[], #[.agg #[.int .u8 0, .int .u8 0, .int .i64 0]], []⟩ 8 (by kernel_rfl) (by kernel_rfl) (by kernel_rfl) (by kernel_rfl))
    hC laidOut (by kernel_rfl) (by kernel_rfl) (by kernel_rfl) Try.underlying4 rfl
    (fun ds h => match ds, h with
      | [_], _ => rfl) ev
theorem over : Rows.historyFullRow.holds Try.pinned (OpenSpec.ofChange Rows.historyFullSpec) :=
  OpenClaim.holds_of_wide 4 Try.f4 rfl rfl rfl rfl rfl rfl rfl ⟨rfl, rfl, rfl, rfl, rfl⟩ rfl rfl rfl rfl rfl (by kernel_rfl) Try.func4 (by kernel_rfl)
    (of_decide_eq_true (by kernel_rfl)) (by unfold Func.isWrapper; first | (rw [if_pos (by decide +kernel)]; kernel_rfl) | (rw [if_neg (by decide +kernel)]; exact ⟨rfl, rfl⟩))
    (fun os started H enc _ => lifted os started H enc)
/-- The statement. -/
theorem proved : Rows.HistoryFullSaid :=
  over
end Go.Proofs.Ytckaebcljcpobaa.historyFull
