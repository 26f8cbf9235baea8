/- The law PlaceTells holds for every input: of every map and group the daemons, those that act, the primary are the document's; so many groups moved as it tells. -/
import Derived.Test.YtfafafocnnhmpaaRows
import Derived.Test.YtfafafocnnhmpaaPkCodB
import Derived.Test.YtfafafocnnhmpaaPlaceTells
set_option linter.all false
namespace Go.Proofs.Ytfafafocnnhmpaa.placeTells
open Pv Pk Go Go.ChangeShapes Go.WideShapes Go.ChangeAt Go.RowKit
theorem own : ownKnob Try.prog.godebug = none := by kernel_rfl
theorem laidOut : laidOutB Try.prog = true := by kernel_rfl
theorem cod_Osd {n : Nat} : Cod Try.prog (n + 2) 24 Pk.Osd.d Pk.Osd.cs Pk.Osd.ok :=
  Pk.Osd.cod Try.underlying24 rfl (cod_bool Try.underlying4) (cod_int Try.underlying3) (cod_u8 Try.underlying5)
theorem cod_Mp {n : Nat} : Cod Try.prog (n + 4) 27 Pk.Mp.d Pk.Mp.cs Pk.Mp.ok :=
  Pk.Mp.cod Try.underlying27 rfl (cod_u32 Try.underlying22) (cod_arr5 Try.underlying25 cod_Osd)
theorem ev (xs : List AV) (h : ArgsOk Try.prog 8 Try.f4.params.toList xs) : ∃ H', evF C 4 xs [] = some (.d (.b true), H') := by
  rw [Try.params4] at h
  obtain ⟨x0, ys, rfl, w0, h⟩ := arg_cod cod_Mp h
  obtain ⟨x1, ys, rfl, w1, h⟩ := arg_cod cod_Mp h
  obtain ⟨x2, ys, rfl, w2, h⟩ := arg_cod (cod_u8 Try.underlying5) h
  obtain rfl := arg_none h
  exact ⟨[], tells_law x0 x1 x2⟩
set_option maxRecDepth 100000 in
theorem lifted (os : Os) (started : os.Started) (H : Type) (enc : TypeId × Value → H) :
    ReturnsInHanded {} Try.checked os 4 .any (Rows.placeTellsSpec.pre6 enc Try.prog Try.f4 Rows.placeTellsRow.domain false) (Rows.placeTellsSpec.post enc Try.prog Try.f4 false true false false) :=
  lifted_of (C := Try.checked) (tb := 4) 8 own started (by kernel_rfl) Try.func4
    (ChangeSpec.witness6 (enc := enc) (C := Try.checked) false ⟨#[], #[.agg #[.int .u32 0, .bool false, .int .i64 0, .int .u8 0, .bool false, .int .i64 0, .int .u8 0, .bool false, .int .i64 0, .int .u8 0, .bool false, .int .i64 0, .int .u8 0, .bool false, .int .i64 0, .int .u8 0], .agg #[.int .u32 0, .bool false, .int .i64 0, .int .u8 0, .bool false, .int .i64 0, .int .u8 0, .bool false, .int .i64 0, .int .u8 0, .bool false, .int .i64 0, .int .u8 0, .bool false, .int .i64 0, .int .u8 0], .int .u8 0], []⟩ 8 (by kernel_rfl) (by kernel_rfl) (by kernel_rfl) (by kernel_rfl))
    hC laidOut (by kernel_rfl) (by kernel_rfl) (by kernel_rfl) Try.underlying4 rfl
    (fun ds h => match ds, h with
      | [_, _, _], _ => rfl) ev
theorem over : Rows.placeTellsRow.holds Try.pinned (OpenSpec.ofChange Rows.placeTellsSpec) :=
  OpenClaim.holds_of_wide 4 Try.f4 rfl rfl rfl rfl rfl rfl rfl ⟨rfl, rfl, rfl, rfl, rfl⟩ rfl rfl rfl rfl rfl (by kernel_rfl) Try.func4 (by kernel_rfl)
    (of_decide_eq_true (by kernel_rfl)) (by unfold Func.isWrapper; first | (rw [if_pos (by decide +kernel)]; kernel_rfl) | (rw [if_neg (by decide +kernel)]; exact ⟨rfl, rfl⟩))
    (fun os started H enc _ => lifted os started H enc)
/-- The statement. -/
theorem proved : Rows.PlaceTellsSaid :=
  over
end Go.Proofs.Ytfafafocnnhmpaa.placeTells
