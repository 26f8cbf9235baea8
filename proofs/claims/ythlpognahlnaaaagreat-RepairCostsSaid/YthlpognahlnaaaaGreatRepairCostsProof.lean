/- RepairCosts: who lacks a few entries costs just these, who has all costs nothing -/
import Derived.Test.YthlpognahlnaaaaGreatRows
import Derived.Test.YthlpognahlnaaaaGreatPkCodB
import Derived.Test.YthlpognahlnaaaaGreatRpL3
set_option linter.all false
namespace Go.Proofs.YthlpognahlnaaaaGreat.repairCosts
open Pv Pk Go Go.ChangeShapes Go.WideShapes Go.ChangeAt Go.RowKit
theorem own : ownKnob Tryz.prog.godebug = none := by kernel_rfl
theorem laidOut : laidOutB Tryz.prog = true := by kernel_rfl
theorem cod_Opr {n : Nat} : Cod Tryz.prog (n + 2) 40 Pk.Opr.d Pk.Opr.cs Pk.Opr.ok :=
 Pk.Opr.cod Tryz.underlying40 rfl (cod_u8 Tryz.underlying5) (cod_u32 Tryz.underlying27) (cod_u8 Tryz.underlying5) (cod_u8 Tryz.underlying5) (cod_u8 Tryz.underlying5) (cod_str Tryz.underlying9)
theorem ev (xs : List AV) (h : ArgsOk Tryz.prog 8 Tryz.f3.params.toList xs) : ∃ H', evF C 3 xs [] = some (.d (.b true), H') := by
 rw [Tryz.params3] at h
 obtain ⟨x0, ys, rfl, w0, h⟩ := arg_cod (cod_slice Tryz.underlying22 cod_Opr) h
 obtain ⟨x1, ys, rfl, w1, h⟩ := arg_cod (cod_arr5 Tryz.underlying23 (cod_u8 Tryz.underlying5)) h
 obtain rfl := arg_none h
 exact ⟨[], costs_law x0 w0.2 x1.l rfl (r5_rng x1 w1)⟩
set_option maxRecDepth 100000 in
theorem lifted (os : Os) (started : os.Started) (H : Type) (enc : TypeId × Value → H) :
  ReturnsInHanded {} Tryz.checked os 3 .any (Rows.repairCostsSpec.pre6 enc Tryz.prog Tryz.f3 Rows.repairCostsRow.domain false) (Rows.repairCostsSpec.post enc Tryz.prog Tryz.f3 false true false false) :=
 lifted_of (C := Tryz.checked) (tb := 4) 8 own started (by kernel_rfl) Tryz.func3
  (ChangeSpec.witness6 (enc := enc) (C := Tryz.checked) false ⟨#[], #[.slice none 0 0, .agg #[.int .u8 0, .int .u8 0, .int .u8 0, .int .u8 0, .int .u8 0]], []⟩ 8 (by kernel_rfl) (by kernel_rfl) (by kernel_rfl) (by kernel_rfl))
  hC laidOut (by kernel_rfl) (by kernel_rfl) (by kernel_rfl) Tryz.underlying4 rfl
  (fun ds h => match ds, h with
   | [_, _], _ => rfl) ev
theorem over : Rows.repairCostsRow.holds Tryz.pinned (OpenSpec.ofChange Rows.repairCostsSpec) :=
 OpenClaim.holds_of_wide 3 Tryz.f3 rfl rfl rfl rfl rfl rfl rfl ⟨rfl, rfl, rfl, rfl, rfl⟩ rfl rfl rfl rfl rfl (by kernel_rfl) Tryz.func3 (by kernel_rfl)
  (of_decide_eq_true (by kernel_rfl)) (by unfold Func.isWrapper; first | (rw [if_pos (by decide +kernel)]; kernel_rfl) | (rw [if_neg (by decide +kernel)]; exact ⟨rfl, rfl⟩))
  (fun os started H enc _ => lifted os started H enc)
/-- The statement. -/
theorem proved : Rows.RepairCostsSaid :=
 over
end Go.Proofs.YthlpognahlnaaaaGreat.repairCosts
