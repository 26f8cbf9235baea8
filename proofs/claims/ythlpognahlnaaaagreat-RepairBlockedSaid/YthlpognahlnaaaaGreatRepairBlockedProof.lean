/- RepairBlocked: without one of the acting ones a repair is blocked, with all of them it is not -/
import Derived.Test.YthlpognahlnaaaaGreatRows
import Derived.Test.YthlpognahlnaaaaGreatPkCodB
import Derived.Test.YthlpognahlnaaaaGreatRpL2
set_option linter.all false
namespace Go.Proofs.YthlpognahlnaaaaGreat.repairBlocked
open Pv Pk Go Go.ChangeShapes Go.WideShapes Go.ChangeAt Go.RowKit
theorem own : ownKnob Tryz.prog.godebug = none := by kernel_rfl
theorem laidOut : laidOutB Tryz.prog = true := by kernel_rfl
theorem cod_Objt {n : Nat} : Cod Tryz.prog (n + 3) 30 Pk.Objt.d Pk.Objt.cs Pk.Objt.ok :=
 Pk.Objt.cod Tryz.underlying30 rfl (cod_bool Tryz.underlying4) (cod_str Tryz.underlying9) (cod_arr3 Tryz.underlying28 (cod_str Tryz.underlying9))
theorem cod_Res {n : Nat} : Cod Tryz.prog (n + 2) 33 Pk.Res.d Pk.Res.cs Pk.Res.ok :=
 Pk.Res.cod Tryz.underlying33 rfl (cod_u8 Tryz.underlying5) (cod_str Tryz.underlying9)
theorem cod_Last {n : Nat} : Cod Tryz.prog (n + 3) 35 Pk.Last.d Pk.Last.cs Pk.Last.ok :=
 Pk.Last.cod Tryz.underlying35 rfl (cod_u32 Tryz.underlying27) cod_Res
theorem cod_Base {n : Nat} : Cod Tryz.prog (n + 5) 38 Pk.Base.d Pk.Base.cs Pk.Base.ok :=
 Pk.Base.cod Tryz.underlying38 rfl (cod_arr6 Tryz.underlying31 cod_Objt) (cod_arr3 Tryz.underlying36 cod_Last)
theorem cod_Opr {n : Nat} : Cod Tryz.prog (n + 2) 40 Pk.Opr.d Pk.Opr.cs Pk.Opr.ok :=
 Pk.Opr.cod Tryz.underlying40 rfl (cod_u8 Tryz.underlying5) (cod_u32 Tryz.underlying27) (cod_u8 Tryz.underlying5) (cod_u8 Tryz.underlying5) (cod_u8 Tryz.underlying5) (cod_str Tryz.underlying9)
theorem cod_Entry {n : Nat} : Cod Tryz.prog (n + 3) 42 Pk.Entry.d Pk.Entry.cs Pk.Entry.ok :=
 Pk.Entry.cod Tryz.underlying42 rfl (cod_u32 Tryz.underlying27) (cod_u32 Tryz.underlying27) cod_Opr
theorem cod_State {n : Nat} : Cod Tryz.prog (n + 6) 45 Pk.State.d Pk.State.cs Pk.State.ok :=
 Pk.State.cod Tryz.underlying45 rfl (cod_u32 Tryz.underlying27) cod_Base cod_Entry (cod_slice Tryz.underlying43 cod_Entry)
theorem ev (xs : List AV) (h : ArgsOk Tryz.prog 8 Tryz.f5.params.toList xs) : ∃ H', evF C 5 xs [] = some (.d (.b true), H') := by
 rw [Tryz.params5] at h
 obtain ⟨x0, ys, rfl, w0, h⟩ := arg_cod (cod_u8 Tryz.underlying5) h
 obtain ⟨x1, ys, rfl, w1, h⟩ := arg_cod (cod_arr5 Tryz.underlying66 (cod_bool Tryz.underlying4)) h
 obtain ⟨x2, ys, rfl, w2, h⟩ := arg_cod (cod_slice Tryz.underlying25 cod_State) h
 obtain rfl := arg_none h
 exact ⟨[], blocked_law x0 w0 x1.l rfl x2 w2.1 (fun x hx => stFull_of (w2.2 x hx))⟩
set_option maxRecDepth 100000 in
theorem lifted (os : Os) (started : os.Started) (H : Type) (enc : TypeId × Value → H) :
  ReturnsInHanded {} Tryz.checked os 5 .any (Rows.repairBlockedSpec.pre6 enc Tryz.prog Tryz.f5 Rows.repairBlockedRow.domain false) (Rows.repairBlockedSpec.post enc Tryz.prog Tryz.f5 false true false false) :=
 lifted_of (C := Tryz.checked) (tb := 4) 8 own started (by kernel_rfl) Tryz.func5
  (ChangeSpec.witness6 (enc := enc) (C := Tryz.checked) false ⟨#[], #[.int .u8 0, .agg #[.bool false, .bool false, .bool false, .bool false, .bool false], .slice none 0 0], []⟩ 8 (by kernel_rfl) (by kernel_rfl) (by kernel_rfl) (by kernel_rfl))
  hC laidOut (by kernel_rfl) (by kernel_rfl) (by kernel_rfl) Tryz.underlying4 rfl
  (fun ds h => match ds, h with
   | [_, _, _], _ => rfl) ev
theorem over : Rows.repairBlockedRow.holds Tryz.pinned (OpenSpec.ofChange Rows.repairBlockedSpec) :=
 OpenClaim.holds_of_wide 5 Tryz.f5 rfl rfl rfl rfl rfl rfl rfl ⟨rfl, rfl, rfl, rfl, rfl⟩ rfl rfl rfl rfl rfl (by kernel_rfl) Tryz.func5 (by kernel_rfl)
  (of_decide_eq_true (by kernel_rfl)) (by unfold Func.isWrapper; first | (rw [if_pos (by decide +kernel)]; kernel_rfl) | (rw [if_neg (by decide +kernel)]; exact ⟨rfl, rfl⟩))
  (fun os started H enc _ => lifted os started H enc)
/-- The statement. -/
theorem proved : Rows.RepairBlockedSaid :=
 over
end Go.Proofs.YthlpognahlnaaaaGreat.repairBlocked
