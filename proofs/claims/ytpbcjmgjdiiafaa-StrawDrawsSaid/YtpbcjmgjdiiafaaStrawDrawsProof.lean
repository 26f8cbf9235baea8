/- Proved: for every input StrawDraws answers true and its arguments read as before; no condition. -/
import Derived.Test.YtpbcjmgjdiiafaaRows
import Derived.Test.YtpbcjmgjdiiafaaStrawLawD
set_option linter.all false
namespace Go.Proofs.Ytpbcjmgjdiiafaa.strawDraws
open Pv Go Go.ChangeShapes Go.WideShapes Go.ChangeAt Go.RowKit
theorem own : ownKnob Try.prog.godebug = none := by kernel_rfl
theorem laidOut : laidOutB Try.prog = true := by kernel_rfl
theorem ev (xs : List AV) (h : ArgsOk Try.prog 8 Try.f8.params.toList xs) : ∃ H', evF C 8 xs [] = some (.d (.b true), H') := by
  rw [Try.params8] at h
  obtain ⟨a0, ys, rfl, w0, h⟩ := arg_int Try.underlying5 h
  obtain ⟨a1, ys, rfl, w1, h⟩ := arg_int Try.underlying5 h
  obtain ⟨l, ys, rfl, hl, w2, h⟩ := arg_array Try.underlying36 Try.underlying5 h
  obtain rfl := arg_none h
  exact ⟨[], draws_at a0 a1 l hl⟩
set_option maxRecDepth 100000 in
theorem lifted (os : Os) (started : os.Started) (H : Type) (enc : TypeId × Value → H) :
    ReturnsInHanded {} Try.checked os 8 .any (Rows.strawDrawsSpec.pre6 enc Try.prog Try.f8 Rows.strawDrawsRow.domain false) (Rows.strawDrawsSpec.post enc Try.prog Try.f8 false true false false) :=
  lifted_of (C := Try.checked) (tb := 4) 8 own started (by kernel_rfl) Try.func8
    (ChangeSpec.witness6 (enc := enc) (C := Try.checked) false ⟨#[], #[.int .u8 0, .int .u8 0, .agg #[.int .u8 0, .int .u8 0, .int .u8 0, .int .u8 0, .int .u8 0]], []⟩ 8 (by kernel_rfl) (by kernel_rfl) (by kernel_rfl) (by kernel_rfl))
    hC laidOut (by kernel_rfl) (by kernel_rfl) (by kernel_rfl) Try.underlying4 rfl
    (fun ds h => match ds, h with
      | [_, _, _], _ => rfl) ev
theorem over : Rows.strawDrawsRow.holds Try.pinned (OpenSpec.ofChange Rows.strawDrawsSpec) :=
  OpenClaim.holds_of_wide 8 Try.f8 rfl rfl rfl rfl rfl rfl rfl ⟨rfl, rfl, rfl, rfl, rfl⟩ rfl rfl rfl rfl rfl (by kernel_rfl) Try.func8 (by kernel_rfl)
    (of_decide_eq_true (by kernel_rfl)) (by unfold Func.isWrapper; first | (rw [if_pos (by decide +kernel)]; kernel_rfl) | (rw [if_neg (by decide +kernel)]; exact ⟨rfl, rfl⟩))
    (fun os started H enc _ => lifted os started H enc)
/-- The statement. -/
theorem proved : Rows.StrawDrawsSaid :=
  over
end Go.Proofs.Ytpbcjmgjdiiafaa.strawDraws
