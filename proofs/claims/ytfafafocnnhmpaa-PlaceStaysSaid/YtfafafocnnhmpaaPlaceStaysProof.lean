/- The law PlaceStays holds for every input: whether daemons are up, and the epoch, play no part for who is picked; a daemon without weight is picked by none; the first one stays. -/
import Derived.Test.YtfafafocnnhmpaaRows
import Derived.Test.YtfafafocnnhmpaaPkCodB
import Derived.Test.YtfafafocnnhmpaaPlaceStays
set_option linter.all false
namespace Go.Proofs.Ytfafafocnnhmpaa.placeStays
open Pv Pk Go Go.ChangeShapes Go.WideShapes Go.ChangeAt Go.RowKit
theorem own : ownKnob Try.prog.godebug = none := by kernel_rfl
theorem laidOut : laidOutB Try.prog = true := by kernel_rfl
theorem cod_Osd {n : Nat} : Cod Try.prog (n + 2) 24 Pk.Osd.d Pk.Osd.cs Pk.Osd.ok :=
  Pk.Osd.cod Try.underlying24 rfl (cod_bool Try.underlying4) (cod_int Try.underlying3) (cod_u8 Try.underlying5)
theorem cod_Mp {n : Nat} : Cod Try.prog (n + 4) 27 Pk.Mp.d Pk.Mp.cs Pk.Mp.ok :=
  Pk.Mp.cod Try.underlying27 rfl (cod_u32 Try.underlying22) (cod_arr5 Try.underlying25 cod_Osd)
theorem ev (xs : List AV) (h : ArgsOk Try.prog 8 Try.f6.params.toList xs) : ∃ H', evF C 6 xs [] = some (.d (.b true), H') := by
  rw [Try.params6] at h
  obtain ⟨x0, ys, rfl, w0, h⟩ := arg_cod cod_Mp h
  obtain ⟨x1, ys, rfl, w1, h⟩ := arg_cod (cod_arr5 Try.underlying37 (cod_bool Try.underlying4)) h
  obtain ⟨x2, ys, rfl, w2, h⟩ := arg_cod (cod_u32 Try.underlying22) h
  obtain ⟨x3, ys, rfl, w3, h⟩ := arg_cod (cod_u8 Try.underlying5) h
  obtain rfl := arg_none h
  exact ⟨[], stays_law x0 x1 x2 w2 x3 w3⟩
set_option maxRecDepth 100000 in
theorem lifted (os : Os) (started : os.Started) (H : Type) (enc : TypeId × Value → H) :
    ReturnsInHanded {} Try.checked os 6 .any (Rows.placeStaysSpec.pre6 enc Try.prog Try.f6 Rows.placeStaysRow.domain false) (Rows.placeStaysSpec.post enc Try.prog Try.f6 false true false false) :=
  lifted_of (C := Try.checked) (tb := 4) 8 own started (by kernel_rfl) Try.func6
    (ChangeSpec.witness6 (enc := enc) (C := Try.checked) false ⟨#[], #[.agg #[.int .u32 0, .bool false, .int .i64 0, .int .u8 0, .bool false, .int .i64 0, .int .u8 0, .bool false, .int .i64 0, .int .u8 0, .bool false, .int .i64 0, .int .u8 0, .bool false, .int .i64 0, .int .u8 0], .agg #[.bool false, .bool false, .bool false, .bool false, .bool false], .int .u32 0, .int .u8 0], []⟩ 8 (by kernel_rfl) (by kernel_rfl) (by kernel_rfl) (by kernel_rfl))
    hC laidOut (by kernel_rfl) (by kernel_rfl) (by kernel_rfl) Try.underlying4 rfl
    (fun ds h => match ds, h with
      | [_, _, _, _], _ => rfl) ev
theorem over : Rows.placeStaysRow.holds Try.pinned (OpenSpec.ofChange Rows.placeStaysSpec) :=
  OpenClaim.holds_of_wide 6 Try.f6 rfl rfl rfl rfl rfl rfl rfl ⟨rfl, rfl, rfl, rfl, rfl⟩ rfl rfl rfl rfl rfl (by kernel_rfl) Try.func6 (by kernel_rfl)
    (of_decide_eq_true (by kernel_rfl)) (by unfold Func.isWrapper; first | (rw [if_pos (by decide +kernel)]; kernel_rfl) | (rw [if_neg (by decide +kernel)]; exact ⟨rfl, rfl⟩))
    (fun os started H enc _ => lifted os started H enc)
/-- The statement. -/
theorem proved : Rows.PlaceStaysSaid :=
  over
end Go.Proofs.Ytfafafocnnhmpaa.placeStays
