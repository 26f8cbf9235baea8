/- Proved: for every input StrawGrows answers true and its arguments read as before; no condition. -/
import Derived.Test.YtpbcjmgjdiiafaaRows
import Derived.Test.YtpbcjmgjdiiafaaStrawLawA
set_option linter.all false
namespace Go.Proofs.Ytpbcjmgjdiiafaa.strawGrows
open Pv Go Go.ChangeShapes Go.WideShapes Go.ChangeAt Go.RowKit
theorem own : ownKnob Try.prog.godebug = none := by kernel_rfl
theorem laidOut : laidOutB Try.prog = true := by kernel_rfl
theorem ev (xs : List AV) (h : ArgsOk Try.prog 8 Try.f3.params.toList xs) : ∃ H', evF C 3 xs [] = some (.d (.b true), H') := by
  rw [Try.params3] at h
  obtain ⟨a0, ys, rfl, w0, h⟩ := arg_int Try.underlying22 h
  obtain ⟨a1, ys, rfl, w1, h⟩ := arg_int Try.underlying22 h
  obtain ⟨a2, ys, rfl, w2, h⟩ := arg_int Try.underlying5 h
  obtain rfl := arg_none h
  exact ⟨[], grows_at a0 a1 a2 (wf_u32 w0) (wf_u32 w1) (wf_u8 w2)⟩
set_option maxRecDepth 100000 in
theorem lifted (os : Os) (started : os.Started) (H : Type) (enc : TypeId × Value → H) :
    ReturnsInHanded {} Try.checked os 3 .any (Rows.strawGrowsSpec.pre6 enc Try.prog Try.f3 Rows.strawGrowsRow.domain false) (Rows.strawGrowsSpec.post enc Try.prog Try.f3 false true false false) :=
  lifted_of (C := Try.checked) (tb := 4) 8 own started (by kernel_rfl) Try.func3
    (ChangeSpec.witness6 (enc := enc) (C := Try.checked) false ⟨#[], #[.int .u32 0, .int .u32 0, .int .u8 0], []⟩ 8 (by kernel_rfl) (by kernel_rfl) (by kernel_rfl) (by kernel_rfl))
    hC laidOut (by kernel_rfl) (by kernel_rfl) (by kernel_rfl) Try.underlying4 rfl
    (fun ds h => match ds, h with
      | [_, _, _], _ => rfl) ev
theorem over : Rows.strawGrowsRow.holds Try.pinned (OpenSpec.ofChange Rows.strawGrowsSpec) :=
  OpenClaim.holds_of_wide 3 Try.f3 rfl rfl rfl rfl rfl rfl rfl ⟨rfl, rfl, rfl, rfl, rfl⟩ rfl rfl rfl rfl rfl (by kernel_rfl) Try.func3 (by kernel_rfl)
    (of_decide_eq_true (by kernel_rfl)) (by unfold Func.isWrapper; first | (rw [if_pos (by decide +kernel)]; kernel_rfl) | (rw [if_neg (by decide +kernel)]; exact ⟨rfl, rfl⟩))
    (fun os started H enc _ => lifted os started H enc)
/-- The statement. -/
theorem proved : Rows.StrawGrowsSaid :=
  over
end Go.Proofs.Ytpbcjmgjdiiafaa.strawGrows
