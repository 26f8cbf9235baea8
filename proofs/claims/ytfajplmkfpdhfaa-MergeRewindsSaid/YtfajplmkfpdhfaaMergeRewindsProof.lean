/- Who has entries of its own loses them. -/
import Derived.Test.YtfajplmkfpdhfaaRows
import Derived.Test.YtfajplmkfpdhfaaPkCodB
import Derived.Test.YtfajplmkfpdhfaaMgL
set_option linter.all false
namespace Go.Proofs.Ytfajplmkfpdhfaa.mergeRewinds
open Pv Pk Go Go.ChangeShapes Go.WideShapes Go.ChangeAt Go.RowKit
theorem own : ownKnob Try.prog.godebug = none := by kernel_rfl
theorem laidOut : laidOutB Try.prog = true := by kernel_rfl
theorem cod_Opr {n : Nat} : Cod Try.prog (n + 2) 37 Pk.Opr.d Pk.Opr.cs Pk.Opr.ok :=
  Pk.Opr.cod Try.underlying37 rfl (cod_u8 Try.underlying5) (cod_u32 Try.underlying24) (cod_u8 Try.underlying5) (cod_u8 Try.underlying5) (cod_u8 Try.underlying5) (cod_str Try.underlying9)
theorem ev (xs : List AV) (h : ArgsOk Try.prog 8 Try.f4.params.toList xs) : ∃ H', evF C 4 xs [] = some (.d (.b true), H') := by
  rw [Try.params4] at h
  obtain ⟨x0, ys, rfl, w0, h⟩ := arg_cod (cod_slice Try.underlying22 cod_Opr) h
  obtain ⟨x1, ys, rfl, w1, h⟩ := arg_cod (cod_slice Try.underlying22 cod_Opr) h
  obtain ⟨x2, ys, rfl, w2, h⟩ := arg_cod (cod_slice Try.underlying22 cod_Opr) h
  obtain rfl := arg_none h
  exact ⟨[], rew_law x0 x1 x2 w0.2 w1.2 w2.2⟩
set_option maxRecDepth 100000 in
theorem lifted (os : Os) (started : os.Started) (H : Type) (enc : TypeId × Value → H) :
    ReturnsInHanded {} Try.checked os 4 .any (Rows.mergeRewindsSpec.pre6 enc Try.prog Try.f4 Rows.mergeRewindsRow.domain false) (Rows.mergeRewindsSpec.post enc Try.prog Try.f4 false true false false) :=
  lifted_of (C := Try.checked) (tb := 4) 8 own started (by kernel_rfl) Try.func4
    (ChangeSpec.witness6 (enc := enc) (C := Try.checked) false ⟨#[], #[.slice none 0 0, .slice none 0 0, .slice none 0 0], []⟩ 8 (by kernel_rfl) (by kernel_rfl) (by kernel_rfl) (by kernel_rfl))
    hC laidOut (by kernel_rfl) (by kernel_rfl) (by kernel_rfl) Try.underlying4 rfl
    (fun ds h => match ds, h with
      | [_, _, _], _ => rfl) ev
theorem over : Rows.mergeRewindsRow.holds Try.pinned (OpenSpec.ofChange Rows.mergeRewindsSpec) :=
  OpenClaim.holds_of_wide 4 Try.f4 rfl rfl rfl rfl rfl rfl rfl ⟨rfl, rfl, rfl, rfl, rfl⟩ rfl rfl rfl rfl rfl (by kernel_rfl) Try.func4 (by kernel_rfl)
    (of_decide_eq_true (by kernel_rfl)) (by unfold Func.isWrapper; first | (rw [if_pos (by decide +kernel)]; kernel_rfl) | (rw [if_neg (by decide +kernel)]; exact ⟨rfl, rfl⟩))
    (fun os started H enc _ => lifted os started H enc)
/-- The statement. -/
theorem proved : Rows.MergeRewindsSaid :=
  over
end Go.Proofs.Ytfajplmkfpdhfaa.mergeRewinds
