/- Proved: for every input StrawBest answers true and its argument reads as before; no condition. -/
import Derived.Test.YtpbcjmgjdiiafaaRows
import Derived.Test.YtpbcjmgjdiiafaaStrawLawB
set_option linter.all false
namespace Go.Proofs.Ytpbcjmgjdiiafaa.strawBest
open Pv Go Go.ChangeShapes Go.WideShapes Go.ChangeAt Go.RowKit
theorem own : ownKnob Try.prog.godebug = none := by kernel_rfl
theorem laidOut : laidOutB Try.prog = true := by kernel_rfl
theorem ev (xs : List AV) (h : ArgsOk Try.prog 8 Try.f4.params.toList xs) : ∃ H', evF C 4 xs [] = some (.d (.b true), H') := by
  rw [Try.params4] at h
  obtain ⟨l, ys, rfl, hl, w0, h⟩ := arg_ints Try.underlying27 Try.underlying2 h
  obtain rfl := arg_none h
  exact ⟨[], bestlaw_at l⟩
set_option maxRecDepth 100000 in
theorem lifted (os : Os) (started : os.Started) (H : Type) (enc : TypeId × Value → H) :
    ReturnsInHanded {} Try.checked os 4 .any (Rows.strawBestSpec.pre6 enc Try.prog Try.f4 Rows.strawBestRow.domain false) (Rows.strawBestSpec.post enc Try.prog Try.f4 false true false false) :=
  lifted_of (C := Try.checked) (tb := 4) 8 own started (by kernel_rfl) Try.func4
    (ChangeSpec.witness6 (enc := enc) (C := Try.checked) false ⟨#[], #[.slice none 0 0], []⟩ 8 (by kernel_rfl) (by kernel_rfl) (by kernel_rfl) (by kernel_rfl))
    hC laidOut (by kernel_rfl) (by kernel_rfl) (by kernel_rfl) Try.underlying4 rfl
    (fun ds h => match ds, h with
      | [_], _ => rfl) ev
theorem over : Rows.strawBestRow.holds Try.pinned (OpenSpec.ofChange Rows.strawBestSpec) :=
  OpenClaim.holds_of_wide 4 Try.f4 rfl rfl rfl rfl rfl rfl rfl ⟨rfl, rfl, rfl, rfl, rfl⟩ rfl rfl rfl rfl rfl (by kernel_rfl) Try.func4 (by kernel_rfl)
    (of_decide_eq_true (by kernel_rfl)) (by unfold Func.isWrapper; first | (rw [if_pos (by decide +kernel)]; kernel_rfl) | (rw [if_neg (by decide +kernel)]; exact ⟨rfl, rfl⟩))
    (fun os started H enc _ => lifted os started H enc)
/-- The statement. -/
theorem proved : Rows.StrawBestSaid :=
  over
end Go.Proofs.Ytpbcjmgjdiiafaa.strawBest
