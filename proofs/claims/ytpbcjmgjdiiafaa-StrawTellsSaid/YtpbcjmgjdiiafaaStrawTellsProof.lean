/- Proved: for every input StrawTells answers true and its arguments read as before; no condition. -/
import Derived.Test.YtpbcjmgjdiiafaaRows
import Derived.Test.YtpbcjmgjdiiafaaStrawLawT
set_option linter.all false
namespace Go.Proofs.Ytpbcjmgjdiiafaa.strawTells
open Pv Go Go.ChangeShapes Go.WideShapes Go.ChangeAt Go.RowKit
theorem own : ownKnob Try.prog.godebug = none := by kernel_rfl
theorem laidOut : laidOutB Try.prog = true := by kernel_rfl
theorem ev (xs : List AV) (h : ArgsOk Try.prog 8 Try.f6.params.toList xs) : ∃ H', evF C 6 xs [] = some (.d (.b true), H') := by
  rw [Try.params6] at h
  obtain ⟨a0, ys, rfl, w0, h⟩ := arg_int Try.underlying22 h
  obtain ⟨a1, ys, rfl, w1, h⟩ := arg_int Try.underlying22 h
  obtain ⟨a2, ys, rfl, w2, h⟩ := arg_int Try.underlying3 h
  obtain ⟨a3, ys, rfl, w3, h⟩ := arg_int Try.underlying5 h
  obtain ⟨a4, ys, rfl, w4, h⟩ := arg_int Try.underlying3 h
  obtain ⟨a5, ys, rfl, w5, h⟩ := arg_int Try.underlying3 h
  obtain rfl := arg_none h
  exact ⟨[], tells_at a0 a1 a2 a3 a4 a5 (wf_u32 w1)⟩
set_option maxRecDepth 100000 in
theorem lifted (os : Os) (started : os.Started) (H : Type) (enc : TypeId × Value → H) :
    ReturnsInHanded {} Try.checked os 6 .any (Rows.strawTellsSpec.pre6 enc Try.prog Try.f6 Rows.strawTellsRow.domain false) (Rows.strawTellsSpec.post enc Try.prog Try.f6 false true false false) :=
  lifted_of (C := Try.checked) (tb := 4) 8 own started (by kernel_rfl) Try.func6
    (ChangeSpec.witness6 (enc := enc) (C := Try.checked) false ⟨#[], #[.int .u32 0, .int .u32 0, .int .i64 0, .int .u8 0, .int .i64 0, .int .i64 0], []⟩ 8 (by kernel_rfl) (by kernel_rfl) (by kernel_rfl) (by kernel_rfl))
    hC laidOut (by kernel_rfl) (by kernel_rfl) (by kernel_rfl) Try.underlying4 rfl
    (fun ds h => match ds, h with
      | [_, _, _, _, _, _], _ => rfl) ev
theorem over : Rows.strawTellsRow.holds Try.pinned (OpenSpec.ofChange Rows.strawTellsSpec) :=
  OpenClaim.holds_of_wide 6 Try.f6 rfl rfl rfl rfl rfl rfl rfl ⟨rfl, rfl, rfl, rfl, rfl⟩ rfl rfl rfl rfl rfl (by kernel_rfl) Try.func6 (by kernel_rfl)
    (of_decide_eq_true (by kernel_rfl)) (by unfold Func.isWrapper; first | (rw [if_pos (by decide +kernel)]; kernel_rfl) | (rw [if_neg (by decide +kernel)]; exact ⟨rfl, rfl⟩))
    (fun os started H enc _ => lifted os started H enc)
/-- The statement. -/
theorem proved : Rows.StrawTellsSaid :=
  over
end Go.Proofs.Ytpbcjmgjdiiafaa.strawTells
