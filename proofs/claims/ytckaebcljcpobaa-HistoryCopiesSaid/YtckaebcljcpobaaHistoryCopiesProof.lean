/- HistoryCopies: a copy goes its own way, the elder one stays as it was -/
import Derived.Test.YtckaebcljcpobaaRows
import Derived.Test.YtckaebcljcpobaaPkCodB
import Derived.Test.YtckaebcljcpobaaHsLK
set_option linter.all false
namespace Go.Proofs.Ytckaebcljcpobaa.historyCopies
open Pv Pk Go Go.ChangeShapes Go.WideShapes Go.ChangeAt Go.RowKit
theorem own : ownKnob Try.prog.godebug = none := by kernel_rfl
theorem laidOut : laidOutB Try.prog = true := by kernel_rfl
theorem cod_Inc {n : Nat} : Cod Try.prog (n + 2) 31 Pk.Inc.d Pk.Inc.cs Pk.Inc.ok :=
  Pk.Inc.cod Try.underlying31 rfl (cod_u8 Try.underlying5) (cod_u8 Try.underlying5) (cod_int Try.underlying3)
theorem ev (xs : List AV) (h : ArgsOk Try.prog 8 Try.f8.params.toList xs) : ∃ H', evF C 8 xs [] = some (.d (.b true), H') := by
  rw [Try.params8] at h
  obtain ⟨x0, ys, rfl, w0, h⟩ := arg_cod (cod_slice Try.underlying22 cod_Inc) h
  obtain ⟨x1, ys, rfl, w1, h⟩ := arg_cod (cod_u8 Try.underlying5) h
  obtain rfl := arg_none h
  exact ⟨[], copies_law x0 w0.2 x1 w1⟩
set_option maxRecDepth 100000 in
theorem lifted (os : Os) (started : os.Started) (H : Type) (enc : TypeId × Value → H) :
    ReturnsInHanded {} Try.checked os 8 .any (Rows.historyCopiesSpec.pre6 enc Try.prog Try.f8 Rows.historyCopiesRow.domain false) (Rows.historyCopiesSpec.post enc Try.prog Try.f8 false true false false) :=
  lifted_of (C := Try.checked) (tb := 4) 8 own started (by kernel_rfl) Try.func8
    (ChangeSpec.witness6 (enc := enc) (C := Try.checked) false ⟨#[], #[.slice none 0 0, .int .u8 0], []⟩ 8 (by kernel_rfl) (by kernel_rfl) (by kernel_rfl) (by kernel_rfl))
    hC laidOut (by kernel_rfl) (by kernel_rfl) (by kernel_rfl) Try.underlying4 rfl
    (fun ds h => match ds, h with
      | [_, _], _ => rfl) ev
theorem over : Rows.historyCopiesRow.holds Try.pinned (OpenSpec.ofChange Rows.historyCopiesSpec) :=
  OpenClaim.holds_of_wide 8 Try.f8 rfl rfl rfl rfl rfl rfl rfl ⟨rfl, rfl, rfl, rfl, rfl⟩ rfl rfl rfl rfl rfl (by kernel_rfl) Try.func8 (by kernel_rfl)
    (of_decide_eq_true (by kernel_rfl)) (by unfold Func.isWrapper; first | (rw [if_pos (by decide +kernel)]; kernel_rfl) | (rw [if_neg (by decide +kernel)]; exact ⟨rfl, rfl⟩))
    (fun os started H enc _ => lifted os started H enc)
/-- The statement. -/
theorem proved : Rows.HistoryCopiesSaid :=
  over
end Go.Proofs.Ytckaebcljcpobaa.historyCopies
