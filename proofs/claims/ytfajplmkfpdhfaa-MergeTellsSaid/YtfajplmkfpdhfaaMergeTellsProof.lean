/- Every two states, every difference. -/
import Derived.Test.YtfajplmkfpdhfaaRows
import Derived.Test.YtfajplmkfpdhfaaPkCodB
import Derived.Test.YtfajplmkfpdhfaaMgTells
set_option linter.all false
namespace Go.Proofs.Ytfajplmkfpdhfaa.mergeTells
open Pv Pk Go Go.ChangeShapes Go.WideShapes Go.ChangeAt Go.RowKit
theorem own : ownKnob Try.prog.godebug = none := by kernel_rfl
theorem laidOut : laidOutB Try.prog = true := by kernel_rfl
theorem cod_Objt {n : Nat} : Cod Try.prog (n + 3) 27 Pk.Objt.d Pk.Objt.cs Pk.Objt.ok :=
  Pk.Objt.cod Try.underlying27 rfl (cod_bool Try.underlying4) (cod_str Try.underlying9) (cod_arr3 Try.underlying25 (cod_str Try.underlying9))
theorem cod_Res {n : Nat} : Cod Try.prog (n + 2) 30 Pk.Res.d Pk.Res.cs Pk.Res.ok :=
  Pk.Res.cod Try.underlying30 rfl (cod_u8 Try.underlying5) (cod_str Try.underlying9)
theorem cod_Last {n : Nat} : Cod Try.prog (n + 3) 32 Pk.Last.d Pk.Last.cs Pk.Last.ok :=
  Pk.Last.cod Try.underlying32 rfl (cod_u32 Try.underlying24) cod_Res
theorem cod_Base {n : Nat} : Cod Try.prog (n + 5) 35 Pk.Base.d Pk.Base.cs Pk.Base.ok :=
  Pk.Base.cod Try.underlying35 rfl (cod_arr6 Try.underlying28 cod_Objt) (cod_arr3 Try.underlying33 cod_Last)
theorem cod_Opr {n : Nat} : Cod Try.prog (n + 2) 37 Pk.Opr.d Pk.Opr.cs Pk.Opr.ok :=
  Pk.Opr.cod Try.underlying37 rfl (cod_u8 Try.underlying5) (cod_u32 Try.underlying24) (cod_u8 Try.underlying5) (cod_u8 Try.underlying5) (cod_u8 Try.underlying5) (cod_str Try.underlying9)
theorem cod_Entry {n : Nat} : Cod Try.prog (n + 3) 39 Pk.Entry.d Pk.Entry.cs Pk.Entry.ok :=
  Pk.Entry.cod Try.underlying39 rfl (cod_u32 Try.underlying24) (cod_u32 Try.underlying24) cod_Opr
theorem cod_State {n : Nat} : Cod Try.prog (n + 6) 42 Pk.State.d Pk.State.cs Pk.State.ok :=
  Pk.State.cod Try.underlying42 rfl (cod_u32 Try.underlying24) cod_Base cod_Entry (cod_slice Try.underlying40 cod_Entry)
theorem cod_Diff {n : Nat} : Cod Try.prog (n + 7) 50 Pk.Diff.d Pk.Diff.cs Pk.Diff.ok :=
  Pk.Diff.cod Try.underlying50 rfl (cod_int Try.underlying3) (cod_u32 Try.underlying24) (cod_slice Try.underlying40 cod_Entry) cod_State
theorem ev (xs : List AV) (h : ArgsOk Try.prog 8 Try.f7.params.toList xs) : ∃ H', evF C 7 xs [] = some (.d (.b true), H') := by
  rw [Try.params7] at h
  obtain ⟨x0, ys, rfl, w0, h⟩ := arg_cod cod_State h
  obtain ⟨x1, ys, rfl, w1, h⟩ := arg_cod cod_State h
  obtain ⟨x2, ys, rfl, w2, h⟩ := arg_cod cod_Diff h
  obtain rfl := arg_none h
  exact ⟨[], mtells_law x0 x1 x2 (stFull_of w0) (stFull_of w1) (stFull_of w2.2.2.2) w2.2.2.1.2⟩
set_option maxRecDepth 100000 in
theorem lifted (os : Os) (started : os.Started) (H : Type) (enc : TypeId × Value → H) :
    ReturnsInHanded {} Try.checked os 7 .any (Rows.mergeTellsSpec.pre6 enc Try.prog Try.f7 Rows.mergeTellsRow.domain false) (Rows.mergeTellsSpec.post enc Try.prog Try.f7 false true false false) :=
  lifted_of (C := Try.checked) (tb := 4) 8 own started (by kernel_rfl) Try.func7
    (ChangeSpec.witness6 (enc := enc) (C := Try.checked) false ⟨#[], #[.agg #[.int .u32 0, .bool false, .string ⟨#[]⟩, .string ⟨#[]⟩, .string ⟨#[]⟩, .string ⟨#[]⟩, .bool false, .string ⟨#[]⟩, .string ⟨#[]⟩, .string ⟨#[]⟩, .string ⟨#[]⟩, .bool false, .string ⟨#[]⟩, .string ⟨#[]⟩, .string ⟨#[]⟩, .string ⟨#[]⟩, .bool false, .string ⟨#[]⟩, .string ⟨#[]⟩, .string ⟨#[]⟩, .string ⟨#[]⟩, .bool false, .string ⟨#[]⟩, .string ⟨#[]⟩, .string ⟨#[]⟩, .string ⟨#[]⟩, .bool false, .string ⟨#[]⟩, .string ⟨#[]⟩, .string ⟨#[]⟩, .string ⟨#[]⟩, .int .u32 0, .int .u8 0, .string ⟨#[]⟩, .int .u32 0, .int .u8 0, .string ⟨#[]⟩, .int .u32 0, .int .u8 0, .string ⟨#[]⟩, .int .u32 0, .int .u32 0, .int .u8 0, .int .u32 0, .int .u8 0, .int .u8 0, .int .u8 0, .string ⟨#[]⟩, .slice none 0 0], .agg #[.int .u32 0, .bool false, .string ⟨#[]⟩, .string ⟨#[]⟩, .string ⟨#[]⟩, .string ⟨#[]⟩, .bool false, .string ⟨#[]⟩, .string ⟨#[]⟩, .string ⟨#[]⟩, .string ⟨#[]⟩, .bool false, .string ⟨#[]⟩, .string ⟨#[]⟩, .string ⟨#[]⟩, .string ⟨#[]⟩, .bool false, .string ⟨#[]⟩, .string ⟨#[]⟩, .string ⟨#[]⟩, .string ⟨#[]⟩, .bool false, .string ⟨#[]⟩, .string ⟨#[]⟩, .string ⟨#[]⟩, .string ⟨#[]⟩, .bool false, .string ⟨#[]⟩, .string ⟨#[]⟩, .string ⟨#[]⟩, .string ⟨#[]⟩, .int .u32 0, .int .u8 0, .string ⟨#[]⟩, .int .u32 0, .int .u8 0, .string ⟨#[]⟩, .int .u32 0, .int .u8 0, .string ⟨#[]⟩, .int .u32 0, .int .u32 0, .int .u8 0, .int .u32 0, .int .u8 0, .int .u8 0, .int .u8 0, .string ⟨#[]⟩, .slice none 0 0], .agg #[.int .i64 0, .int .u32 0, .slice none 0 0, .int .u32 0, .bool false, .string ⟨#[]⟩, .string ⟨#[]⟩, .string ⟨#[]⟩, .string ⟨#[]⟩, .bool false, .string ⟨#[]⟩, .string ⟨#[]⟩, .string ⟨#[]⟩, .string ⟨#[]⟩, .bool false, .string ⟨#[]⟩, .string ⟨#[]⟩, .string ⟨#[]⟩, .string ⟨#[]⟩, .bool false, .string ⟨#[]⟩, .string ⟨#[]⟩, .string ⟨#[]⟩, .string ⟨#[]⟩, .bool false, .string ⟨#[]⟩, .string ⟨#[]⟩, .string ⟨#[]⟩, .string ⟨#[]⟩, .bool false, .string ⟨#[]⟩, .string ⟨#[]⟩, .string ⟨#[]⟩, .string ⟨#[]⟩, .int .u32 0, .int .u8 0, .string ⟨#[]⟩, .int .u32 0, .int .u8 0, .string ⟨#[]⟩, .int .u32 0, .int .u8 0, .string ⟨#[]⟩, .int .u32 0, .int .u32 0, .int .u8 0, .int .u32 0, .int .u8 0, .int .u8 0, .int .u8 0, .string ⟨#[]⟩, .slice none 0 0]], []⟩ 8 (by kernel_rfl) (by kernel_rfl) (by kernel_rfl) (by kernel_rfl))
    hC laidOut (by kernel_rfl) (by kernel_rfl) (by kernel_rfl) Try.underlying4 rfl
    (fun ds h => match ds, h with
      | [_, _, _], _ => rfl) ev
theorem over : Rows.mergeTellsRow.holds Try.pinned (OpenSpec.ofChange Rows.mergeTellsSpec) :=
  OpenClaim.holds_of_wide 7 Try.f7 rfl rfl rfl rfl rfl rfl rfl ⟨rfl, rfl, rfl, rfl, rfl⟩ rfl rfl rfl rfl rfl (by kernel_rfl) Try.func7 (by kernel_rfl)
    (of_decide_eq_true (by kernel_rfl)) (by unfold Func.isWrapper; first | (rw [if_pos (by decide +kernel)]; kernel_rfl) | (rw [if_neg (by decide +kernel)]; exact ⟨rfl, rfl⟩))
    (fun os started H enc _ => lifted os started H enc)
/-- The statement. -/
theorem proved : Rows.MergeTellsSaid :=
  over
end Go.Proofs.Ytfajplmkfpdhfaa.mergeTells
