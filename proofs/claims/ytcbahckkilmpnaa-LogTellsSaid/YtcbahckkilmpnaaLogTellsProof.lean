/- The law LogTells holds for every input: of every state, entry and number: whether it is one, its head, what comes of the entry, of cutting, of folding, what it amounts to, as the document has it. -/
import Derived.Test.YtcbahckkilmpnaaRows
import Derived.Test.YtcbahckkilmpnaaPkCodB
import Derived.Test.YtcbahckkilmpnaaPgTells
set_option linter.all false
namespace Go.Proofs.Ytcbahckkilmpnaa.logTells
open Pv Pk Go Go.ChangeShapes Go.WideShapes Go.ChangeAt Go.RowKit
theorem own : ownKnob Try.prog.godebug = none := by kernel_rfl
theorem laidOut : laidOutB Try.prog = true := by kernel_rfl
theorem cod_Objt {n : Nat} : Cod Try.prog (n + 3) 27 Pk.Objt.d Pk.Objt.cs Pk.Objt.ok :=
  Pk.Objt.cod Try.underlying27 rfl (cod_bool Try.underlying4) (cod_str Try.underlying9) (cod_arr3 Try.underlying25 (cod_str Try.underlying9))
theorem cod_Res {n : Nat} : Cod Try.prog (n + 2) 30 Pk.Res.d Pk.Res.cs Pk.Res.ok :=
  Pk.Res.cod Try.underlying30 rfl (cod_u8 Try.underlying5) (cod_str Try.underlying9)
theorem cod_Last {n : Nat} : Cod Try.prog (n + 3) 32 Pk.Last.d Pk.Last.cs Pk.Last.ok :=
  Pk.Last.cod Try.underlying32 rfl (cod_u32 Try.underlying23) cod_Res
theorem cod_Base {n : Nat} : Cod Try.prog (n + 5) 35 Pk.Base.d Pk.Base.cs Pk.Base.ok :=
  Pk.Base.cod Try.underlying35 rfl (cod_arr6 Try.underlying28 cod_Objt) (cod_arr3 Try.underlying33 cod_Last)
theorem cod_Opr {n : Nat} : Cod Try.prog (n + 2) 37 Pk.Opr.d Pk.Opr.cs Pk.Opr.ok :=
  Pk.Opr.cod Try.underlying37 rfl (cod_u8 Try.underlying5) (cod_u32 Try.underlying23) (cod_u8 Try.underlying5) (cod_u8 Try.underlying5) (cod_u8 Try.underlying5) (cod_str Try.underlying9)
theorem cod_Entry {n : Nat} : Cod Try.prog (n + 3) 39 Pk.Entry.d Pk.Entry.cs Pk.Entry.ok :=
  Pk.Entry.cod Try.underlying39 rfl (cod_u32 Try.underlying23) (cod_u32 Try.underlying23) cod_Opr
theorem cod_State {n : Nat} : Cod Try.prog (n + 6) 42 Pk.State.d Pk.State.cs Pk.State.ok :=
  Pk.State.cod Try.underlying42 rfl (cod_u32 Try.underlying23) cod_Base cod_Entry (cod_slice Try.underlying40 cod_Entry)
theorem ev (xs : List AV) (h : ArgsOk Try.prog 8 Try.f10.params.toList xs) : ∃ H', evF C 10 xs [] = some (.d (.b true), H') := by
  rw [Try.params10] at h
  obtain ⟨x0, ys, rfl, w0, h⟩ := arg_cod cod_State h
  obtain ⟨x1, ys, rfl, w1, h⟩ := arg_cod cod_State h
  obtain ⟨x2, ys, rfl, w2, h⟩ := arg_cod cod_Entry h
  obtain ⟨x3, ys, rfl, w3, h⟩ := arg_cod (cod_u32 Try.underlying23) h
  obtain rfl := arg_none h
  exact ⟨[], tells_law x0 x1 (stFull_of w0) x2 w2 x3 w3⟩
set_option maxRecDepth 100000 in
theorem lifted (os : Os) (started : os.Started) (H : Type) (enc : TypeId × Value → H) :
    ReturnsInHanded {} Try.checked os 10 .any (Rows.logTellsSpec.pre6 enc Try.prog Try.f10 Rows.logTellsRow.domain false) (Rows.logTellsSpec.post enc Try.prog Try.f10 false true false false) :=
  lifted_of (C := Try.checked) (tb := 4) 8 own started (by kernel_rfl) Try.func10
    (ChangeSpec.witness6 (enc := enc) (C := Try.checked) false ⟨#[], #[.agg #[.int .u32 0, .bool false, .string ⟨#[]⟩, .string ⟨#[]⟩, .string ⟨#[]⟩, .string ⟨#[]⟩, .bool false, .string ⟨#[]⟩, .string ⟨#[]⟩, .string ⟨#[]⟩, .string ⟨#[]⟩, .bool false, .string ⟨#[]⟩, .string ⟨#[]⟩, .string ⟨#[]⟩, .string ⟨#[]⟩, .bool false, .string ⟨#[]⟩, .string ⟨#[]⟩, .string ⟨#[]⟩, .string ⟨#[]⟩, .bool false, .string ⟨#[]⟩, .string ⟨#[]⟩, .string ⟨#[]⟩, .string ⟨#[]⟩, .bool false, .string ⟨#[]⟩, .string ⟨#[]⟩, .string ⟨#[]⟩, .string ⟨#[]⟩, .int .u32 0, .int .u8 0, .string ⟨#[]⟩, .int .u32 0, .int .u8 0, .string ⟨#[]⟩, .int .u32 0, .int .u8 0, .string ⟨#[]⟩, .int .u32 0, .int .u32 0, .int .u8 0, .int .u32 0, .int .u8 0, .int .u8 0, .int .u8 0, .string ⟨#[]⟩, .slice none 0 0], .agg #[.int .u32 0, .bool false, .string ⟨#[]⟩, .string ⟨#[]⟩, .string ⟨#[]⟩, .string ⟨#[]⟩, .bool false, .string ⟨#[]⟩, .string ⟨#[]⟩, .string ⟨#[]⟩, .string ⟨#[]⟩, .bool false, .string ⟨#[]⟩, .string ⟨#[]⟩, .string ⟨#[]⟩, .string ⟨#[]⟩, .bool false, .string ⟨#[]⟩, .string ⟨#[]⟩, .string ⟨#[]⟩, .string ⟨#[]⟩, .bool false, .string ⟨#[]⟩, .string ⟨#[]⟩, .string ⟨#[]⟩, .string ⟨#[]⟩, .bool false, .string ⟨#[]⟩, .string ⟨#[]⟩, .string ⟨#[]⟩, .string ⟨#[]⟩, .int .u32 0, .int .u8 0, .string ⟨#[]⟩, .int .u32 0, .int .u8 0, .string ⟨#[]⟩, .int .u32 0, .int .u8 0, .string ⟨#[]⟩, .int .u32 0, .int .u32 0, .int .u8 0, .int .u32 0, .int .u8 0, .int .u8 0, .int .u8 0, .string ⟨#[]⟩, .slice none 0 0], .agg #[.int .u32 0, .int .u32 0, .int .u8 0, .int .u32 0, .int .u8 0, .int .u8 0, .int .u8 0, .string ⟨#[]⟩], .int .u32 0], []⟩ 8 (by kernel_rfl) (by kernel_rfl) (by kernel_rfl) (by kernel_rfl))
    hC laidOut (by kernel_rfl) (by kernel_rfl) (by kernel_rfl) Try.underlying4 rfl
    (fun ds h => match ds, h with
      | [_, _, _, _], _ => rfl) ev
theorem over : Rows.logTellsRow.holds Try.pinned (OpenSpec.ofChange Rows.logTellsSpec) :=
  OpenClaim.holds_of_wide 10 Try.f10 rfl rfl rfl rfl rfl rfl rfl ⟨rfl, rfl, rfl, rfl, rfl⟩ rfl rfl rfl rfl rfl (by kernel_rfl) Try.func10 (by kernel_rfl)
    (of_decide_eq_true (by kernel_rfl)) (by unfold Func.isWrapper; first | (rw [if_pos (by decide +kernel)]; kernel_rfl) | (rw [if_neg (by decide +kernel)]; exact ⟨rfl, rfl⟩))
    (fun os started H enc _ => lifted os started H enc)
/-- The statement. -/
theorem proved : Rows.LogTellsSaid :=
  over
end Go.Proofs.Ytcbahckkilmpnaa.logTells
