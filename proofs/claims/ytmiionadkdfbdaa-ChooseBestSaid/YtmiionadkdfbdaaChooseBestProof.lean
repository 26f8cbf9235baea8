/- Nobody starts later, nor has more of the same start, than the best of states, and their order plays no part. -/
import Derived.Test.YtmiionadkdfbdaaRows
import Derived.Test.YtmiionadkdfbdaaPkCodB
import Derived.Test.YtmiionadkdfbdaaChLB
set_option linter.all false
namespace Go.Proofs.Ytmiionadkdfbdaa.chooseBest
open Pv Pk Go Go.ChangeShapes Go.WideShapes Go.ChangeAt Go.RowKit
theorem own : ownKnob Try.prog.godebug = none := by kernel_rfl
theorem laidOut : laidOutB Try.prog = true := by kernel_rfl
theorem cod_Objt {n : Nat} : Cod Try.prog (n + 3) 30 Pk.Objt.d Pk.Objt.cs Pk.Objt.ok :=
  Pk.Objt.cod Try.underlying30 rfl (cod_bool Try.underlying4) (cod_str Try.underlying9) (cod_arr3 Try.underlying28 (cod_str Try.underlying9))
theorem cod_Res {n : Nat} : Cod Try.prog (n + 2) 33 Pk.Res.d Pk.Res.cs Pk.Res.ok :=
  Pk.Res.cod Try.underlying33 rfl (cod_u8 Try.underlying5) (cod_str Try.underlying9)
theorem cod_Last {n : Nat} : Cod Try.prog (n + 3) 35 Pk.Last.d Pk.Last.cs Pk.Last.ok :=
  Pk.Last.cod Try.underlying35 rfl (cod_u32 Try.underlying27) cod_Res
theorem cod_Base {n : Nat} : Cod Try.prog (n + 5) 38 Pk.Base.d Pk.Base.cs Pk.Base.ok :=
  Pk.Base.cod Try.underlying38 rfl (cod_arr6 Try.underlying31 cod_Objt) (cod_arr3 Try.underlying36 cod_Last)
theorem cod_Opr {n : Nat} : Cod Try.prog (n + 2) 40 Pk.Opr.d Pk.Opr.cs Pk.Opr.ok :=
  Pk.Opr.cod Try.underlying40 rfl (cod_u8 Try.underlying5) (cod_u32 Try.underlying27) (cod_u8 Try.underlying5) (cod_u8 Try.underlying5) (cod_u8 Try.underlying5) (cod_str Try.underlying9)
theorem cod_Entry {n : Nat} : Cod Try.prog (n + 3) 42 Pk.Entry.d Pk.Entry.cs Pk.Entry.ok :=
  Pk.Entry.cod Try.underlying42 rfl (cod_u32 Try.underlying27) (cod_u32 Try.underlying27) cod_Opr
theorem cod_State {n : Nat} : Cod Try.prog (n + 6) 45 Pk.State.d Pk.State.cs Pk.State.ok :=
  Pk.State.cod Try.underlying45 rfl (cod_u32 Try.underlying27) cod_Base cod_Entry (cod_slice Try.underlying43 cod_Entry)
theorem ev (xs : List AV) (h : ArgsOk Try.prog 8 Try.f3.params.toList xs) : ∃ H', evF C 3 xs [] = some (.d (.b true), H') := by
  rw [Try.params3] at h
  obtain ⟨x0, ys, rfl, w0, h⟩ := arg_cod (cod_slice Try.underlying22 cod_State) h
  obtain ⟨x1, ys, rfl, w1, h⟩ := arg_cod (cod_u8 Try.underlying5) h
  obtain rfl := arg_none h
  exact ⟨[], best_law x0 w0.1 w0.2 x1 w1⟩
set_option maxRecDepth 100000 in
theorem lifted (os : Os) (started : os.Started) (H : Type) (enc : TypeId × Value → H) :
    ReturnsInHanded {} Try.checked os 3 .any (Rows.chooseBestSpec.pre6 enc Try.prog Try.f3 Rows.chooseBestRow.domain false) (Rows.chooseBestSpec.post enc Try.prog Try.f3 false true false false) :=
  lifted_of (C := Try.checked) (tb := 4) 8 own started (by kernel_rfl) Try.func3
    (ChangeSpec.witness6 (enc := enc) (C := Try.checked) false ⟨#[], #[.slice none 0 0, .int .u8 0], []⟩ 8 (by kernel_rfl) (by kernel_rfl) (by kernel_rfl) (by kernel_rfl))
    hC laidOut (by kernel_rfl) (by kernel_rfl) (by kernel_rfl) Try.underlying4 rfl
    (fun ds h => match ds, h with
      | [_, _], _ => rfl) ev
theorem over : Rows.chooseBestRow.holds Try.pinned (OpenSpec.ofChange Rows.chooseBestSpec) :=
  OpenClaim.holds_of_wide 3 Try.f3 rfl rfl rfl rfl rfl rfl rfl ⟨rfl, rfl, rfl, rfl, rfl⟩ rfl rfl rfl rfl rfl (by kernel_rfl) Try.func3 (by kernel_rfl)
    (of_decide_eq_true (by kernel_rfl)) (by unfold Func.isWrapper; first | (rw [if_pos (by decide +kernel)]; kernel_rfl) | (rw [if_neg (by decide +kernel)]; exact ⟨rfl, rfl⟩))
    (fun os started H enc _ => lifted os started H enc)
/-- The statement. -/
theorem proved : Rows.ChooseBestSaid :=
  over
end Go.Proofs.Ytmiionadkdfbdaa.chooseBest
