/- Proved: for every input StrawWeighs answers true and its arguments read as before; no condition. -/
import Derived.Test.YtpbcjmgjdiiafaaRows
import Derived.Test.YtpbcjmgjdiiafaaStrawLawB
set_option linter.all false
namespace Go.Proofs.Ytpbcjmgjdiiafaa.strawWeighs
open Pv Go Go.ChangeShapes Go.WideShapes Go.ChangeAt Go.RowKit
theorem own : ownKnob Try.prog.godebug = none := by kernel_rfl
theorem laidOut : laidOutB Try.prog = true := by kernel_rfl
theorem ev (xs : List AV) (h : ArgsOk Try.prog 8 Try.f7.params.toList xs) : ∃ H', evF C 7 xs [] = some (.d (.b true), H') := by
  rw [Try.params7] at h
  obtain ⟨a0, ys, rfl, w0, h⟩ := arg_int Try.underlying22 h
  obtain ⟨a1, ys, rfl, w1, h⟩ := arg_int Try.underlying3 h
  obtain ⟨a2, ys, rfl, w2, h⟩ := arg_int Try.underlying3 h
  obtain rfl := arg_none h
  exact ⟨[], weighs_at a0 a1 a2 (wf_u32 w0)⟩
set_option maxRecDepth 100000 in
theorem lifted (os : Os) (started : os.Started) (H : Type) (enc : TypeId × Value → H) :
    ReturnsInHanded {} Try.checked os 7 .any (Rows.strawWeighsSpec.pre6 enc Try.prog Try.f7 Rows.strawWeighsRow.domain false) (Rows.strawWeighsSpec.post enc Try.prog Try.f7 false true false false) :=
  lifted_of (C := Try.checked) (tb := 4) 8 own started (by kernel_rfl) Try.func7
    (ChangeSpec.witness6 (enc := enc) (C := Try.checked) false ⟨#[], #[.int .u32 0, .int .i64 0, .int .i64 0], []⟩ 8 (by kernel_rfl) (by kernel_rfl) (by kernel_rfl) (by kernel_rfl))
    hC laidOut (by kernel_rfl) (by kernel_rfl) (by kernel_rfl) Try.underlying4 rfl
    (fun ds h => match ds, h with
      | [_, _, _], _ => rfl) ev
theorem over : Rows.strawWeighsRow.holds Try.pinned (OpenSpec.ofChange Rows.strawWeighsSpec) :=
  OpenClaim.holds_of_wide 7 Try.f7 rfl rfl rfl rfl rfl rfl rfl ⟨rfl, rfl, rfl, rfl, rfl⟩ rfl rfl rfl rfl rfl (by kernel_rfl) Try.func7 (by kernel_rfl)
    (of_decide_eq_true (by kernel_rfl)) (by unfold Func.isWrapper; first | (rw [if_pos (by decide +kernel)]; kernel_rfl) | (rw [if_neg (by decide +kernel)]; exact ⟨rfl, rfl⟩))
    (fun os started H enc _ => lifted os started H enc)
/-- The statement. -/
theorem proved : Rows.StrawWeighsSaid :=
  over
end Go.Proofs.Ytpbcjmgjdiiafaa.strawWeighs
