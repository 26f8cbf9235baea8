/- HistoryPlays: of every row of increments what is told of each, which maps there are, which intervals of each group -/
import Derived.Test.YtckaebcljcpobaaRows
import Derived.Test.YtckaebcljcpobaaPkCodB
import Derived.Test.YtckaebcljcpobaaHsLP
set_option linter.all false
namespace Go.Proofs.Ytckaebcljcpobaa.historyPlays
open Pv Pk Go Go.ChangeShapes Go.WideShapes Go.ChangeAt Go.RowKit
theorem own : ownKnob Try.prog.godebug = none := by kernel_rfl
theorem laidOut : laidOutB Try.prog = true := by kernel_rfl
theorem cod_Inc {n : Nat} : Cod Try.prog (n + 2) 31 Pk.Inc.d Pk.Inc.cs Pk.Inc.ok :=
  Pk.Inc.cod Try.underlying31 rfl (cod_u8 Try.underlying5) (cod_u8 Try.underlying5) (cod_int Try.underlying3)
theorem cod_HStep {n : Nat} : Cod Try.prog (n + 3) 63 Pk.HStep.d Pk.HStep.cs Pk.HStep.ok :=
  Pk.HStep.cod Try.underlying63 rfl (cod_bool Try.underlying4) (cod_u32 Try.underlying28) cod_Inc
theorem ev (xs : List AV) (h : ArgsOk Try.prog 8 Try.f9.params.toList xs) : ∃ H', evF C 9 xs [] = some (.d (.b true), H') := by
  rw [Try.params9] at h
  obtain ⟨x0, ys, rfl, w0, h⟩ := arg_cod (cod_slice Try.underlying58 cod_HStep) h
  obtain ⟨x1, ys, rfl, w1, h⟩ := arg_cod (cod_u8 Try.underlying5) h
  obtain ⟨x2, ys, rfl, w2, h⟩ := arg_cod (cod_u32 Try.underlying28) h
  obtain rfl := arg_none h
  exact ⟨[], plays_law x0 w0.2 x1 w1 x2 w2⟩
set_option maxRecDepth 100000 in
theorem lifted (os : Os) (started : os.Started) (H : Type) (enc : TypeId × Value → H) :
    ReturnsInHanded {} Try.checked os 9 .any (Rows.historyPlaysSpec.pre6 enc Try.prog Try.f9 Rows.historyPlaysRow.domain false) (Rows.historyPlaysSpec.post enc Try.prog Try.f9 false true false false) :=
  lifted_of (C := Try.checked) (tb := 4) 8 own started (by kernel_rfl) Try.func9
    (ChangeSpec.witness6 (enc := enc) (C := Try.checked) false ⟨#[], #[.slice none 0 0, .int .u8 0, .int .u32 0], []⟩ 8 (by kernel_rfl) (by kernel_rfl) (by kernel_rfl) (by kernel_rfl))
    hC laidOut (by kernel_rfl) (by kernel_rfl) (by kernel_rfl) Try.underlying4 rfl
    (fun ds h => match ds, h with
      | [_, _, _], _ => rfl) ev
theorem over : Rows.historyPlaysRow.holds Try.pinned (OpenSpec.ofChange Rows.historyPlaysSpec) :=
  OpenClaim.holds_of_wide 9 Try.f9 rfl rfl rfl rfl rfl rfl rfl ⟨rfl, rfl, rfl, rfl, rfl⟩ rfl rfl rfl rfl rfl (by kernel_rfl) Try.func9 (by kernel_rfl)
    (of_decide_eq_true (by kernel_rfl)) (by unfold Func.isWrapper; first | (rw [if_pos (by decide +kernel)]; kernel_rfl) | (rw [if_neg (by decide +kernel)]; exact ⟨rfl, rfl⟩))
    (fun os started H enc _ => lifted os started H enc)
/-- The statement. -/
theorem proved : Rows.HistoryPlaysSaid :=
  over
end Go.Proofs.Ytckaebcljcpobaa.historyPlays
