/- Of every group and every one of its daemons: it goes down and comes up, and there are two new intervals; with no condition. -/
import Derived.Test.YtckaebcljcpobaaRows
import Derived.Test.YtckaebcljcpobaaPkCodB
import Derived.Test.YtckaebcljcpobaaHsLD
set_option linter.all false
namespace Go.Proofs.Ytckaebcljcpobaa.historyDown
open Pv Pk Go Go.ChangeShapes Go.WideShapes Go.ChangeAt Go.RowKit
theorem own : ownKnob Try.prog.godebug = none := by kernel_rfl
theorem laidOut : laidOutB Try.prog = true := by kernel_rfl
theorem ev (xs : List AV) (h : ArgsOk Try.prog 8 Try.f5.params.toList xs) : ∃ H', evF C 5 xs [] = some (.d (.b true), H') := by
  rw [Try.params5] at h
  obtain ⟨x0, ys, rfl, w0, h⟩ := arg_cod (cod_u8 Try.underlying5) h
  obtain ⟨x1, ys, rfl, w1, h⟩ := arg_cod (cod_u8 Try.underlying5) h
  obtain rfl := arg_none h
  exact ⟨[], down_law x0 x1 w0 w1⟩
set_option maxRecDepth 100000 in
theorem lifted (os : Os) (started : os.Started) (H : Type) (enc : TypeId × Value → H) :
    ReturnsInHanded {} Try.checked os 5 .any (Rows.historyDownSpec.pre6 enc Try.prog Try.f5 Rows.historyDownRow.domain false) (Rows.historyDownSpec.post enc Try.prog Try.f5 false true false false) :=
  lifted_of (C := Try.checked) (tb := 4) 8 own started (by kernel_rfl) Try.func5
    (ChangeSpec.witness6 (enc := enc) (C := Try.checked) false ⟨#[], #[.int .u8 0, .int .u8 0], []⟩ 8 (by kernel_rfl) (by kernel_rfl) (by kernel_rfl) (by kernel_rfl))
    hC laidOut (by kernel_rfl) (by kernel_rfl) (by kernel_rfl) Try.underlying4 rfl
    (fun ds h => match ds, h with
      | [_, _], _ => rfl) ev
theorem over : Rows.historyDownRow.holds Try.pinned (OpenSpec.ofChange Rows.historyDownSpec) :=
  OpenClaim.holds_of_wide 5 Try.f5 rfl rfl rfl rfl rfl rfl rfl ⟨rfl, rfl, rfl, rfl, rfl⟩ rfl rfl rfl rfl rfl (by kernel_rfl) Try.func5 (by kernel_rfl)
    (of_decide_eq_true (by kernel_rfl)) (by unfold Func.isWrapper; first | (rw [if_pos (by decide +kernel)]; kernel_rfl) | (rw [if_neg (by decide +kernel)]; exact ⟨rfl, rfl⟩))
    (fun os started H enc _ => lifted os started H enc)
/-- The statement. -/
theorem proved : Rows.HistoryDownSaid :=
  over
end Go.Proofs.Ytckaebcljcpobaa.historyDown
