/- RepairTells: of every history and states the best one,whether enough was heard,what each lacks; done,all are alike -/
import Derived.Test.YthlpognahlnaaaaGreatRows
import Derived.Test.YthlpognahlnaaaaGreatPkCodB
import Derived.Test.YthlpognahlnaaaaGreatRpL4
set_option linter.all false
namespace Go.Proofs.YthlpognahlnaaaaGreat.repairTells
open Pv Pk Go Go.ChangeShapes Go.WideShapes Go.ChangeAt Go.RowKit
theorem own : ownKnob Tryz.prog.godebug = none:=by kernel_rfl
theorem laidOut : laidOutB Tryz.prog = true:=by kernel_rfl
theorem cod_Inc {n : Nat} : Cod Tryz.prog (n + 2) 76 Pk.Inc.d Pk.Inc.cs Pk.Inc.ok :=
 Pk.Inc.cod Tryz.underlying76 rfl (zf2 Tryz.underlying5) (zf2 Tryz.underlying5) (cod_int Tryz.underlying3)
theorem cod_Objt {n : Nat} : Cod Tryz.prog (n + 3) 30 Pk.Objt.d Pk.Objt.cs Pk.Objt.ok :=
 Pk.Objt.cod Tryz.underlying30 rfl (zru Tryz.underlying4) (zlh Tryz.underlying9) (zry Tryz.underlying28 (zlh Tryz.underlying9))
theorem cod_Res {n : Nat} : Cod Tryz.prog (n + 2) 33 Pk.Res.d Pk.Res.cs Pk.Res.ok :=
 Pk.Res.cod Tryz.underlying33 rfl (zf2 Tryz.underlying5) (zlh Tryz.underlying9)
theorem cod_Last {n : Nat} : Cod Tryz.prog (n + 3) 35 Pk.Last.d Pk.Last.cs Pk.Last.ok :=
 Pk.Last.cod Tryz.underlying35 rfl (zfi Tryz.underlying27) cod_Res
theorem cod_Base {n : Nat} : Cod Tryz.prog (n + 5) 38 Pk.Base.d Pk.Base.cs Pk.Base.ok :=
 Pk.Base.cod Tryz.underlying38 rfl (cod_arr6 Tryz.underlying31 cod_Objt) (zry Tryz.underlying36 cod_Last)
theorem cod_Opr {n : Nat} : Cod Tryz.prog (n + 2) 40 Pk.Opr.d Pk.Opr.cs Pk.Opr.ok :=
 Pk.Opr.cod Tryz.underlying40 rfl (zf2 Tryz.underlying5) (zfi Tryz.underlying27) (zf2 Tryz.underlying5) (zf2 Tryz.underlying5) (zf2 Tryz.underlying5) (zlh Tryz.underlying9)
theorem zoq {n : Nat} : Cod Tryz.prog (n + 3) 42 Pk.Entry.d Pk.Entry.cs Pk.Entry.ok :=
 Pk.Entry.cod Tryz.underlying42 rfl (zfi Tryz.underlying27) (zfi Tryz.underlying27) cod_Opr
theorem cod_State {n : Nat} : Cod Tryz.prog (n + 6) 45 Pk.State.d Pk.State.cs Pk.State.ok :=
 Pk.State.cod Tryz.underlying45 rfl (zfi Tryz.underlying27) cod_Base zoq (zgs Tryz.underlying43 zoq)
theorem ev (xs : List AV) (h : ArgsOk Tryz.prog 8 Tryz.f6.params.toList xs) : ∃ H',evF C 6 xs [] = some (.d (.b true),H'):=by
 rw [Tryz.params6] at h
 obtain ⟨x0,ys,rfl,w0,h⟩:=zgu (zgs Tryz.underlying69 cod_Inc) h
 obtain ⟨x1,ys,rfl,w1,h⟩:=zgu (zf2 Tryz.underlying5) h
 obtain ⟨x2,ys,rfl,w2,h⟩:=zgu (cod_arr5 Tryz.underlying66 (zru Tryz.underlying4)) h
 obtain ⟨x3,ys,rfl,w3,h⟩:=zgu (zgs Tryz.underlying25 cod_State) h
 obtain ⟨x4,ys,rfl,w4,h⟩:=zgu (zfi Tryz.underlying27) h
 obtain rfl:=arg_none h
 exact ⟨[],zpx x0 w0.2 x1 w1 x2.l rfl x3 w3.1 (fun x hx => stFull_of (w3.2 x hx)) x4 w4⟩
set_option maxRecDepth 100000 in
theorem lifted (os : Os) (started : os.Started) (H : Type) (enc : TypeId × Value → H) :
  ReturnsInHanded {} Tryz.checked os 6 .any (Rows.repairTellsSpec.pre6 enc Tryz.prog Tryz.f6 Rows.repairTellsRow.domain false) (Rows.repairTellsSpec.post enc Tryz.prog Tryz.f6 false true false false) :=
 lifted_of (C:=Tryz.checked) (tb:=4) 8 own started (by kernel_rfl) Tryz.func6
  (ChangeSpec.witness6 (enc:=enc) (C:=Tryz.checked) false ⟨#[],#[.slice none 0 0,.int .u8 0,.agg #[.bool false,.bool false,.bool false,.bool false,.bool false],.slice none 0 0,.int .u32 0],[]⟩ 8 (by kernel_rfl) (by kernel_rfl) (by kernel_rfl) (by kernel_rfl))
  hC laidOut (by kernel_rfl) (by kernel_rfl) (by kernel_rfl) Tryz.underlying4 rfl
  (fun ds h => match ds, h with
   | [_,_,_,_,_],_ => rfl) ev
theorem over : Rows.repairTellsRow.holds Tryz.pinned (OpenSpec.ofChange Rows.repairTellsSpec) :=
 OpenClaim.holds_of_wide 6 Tryz.f6 rfl rfl rfl rfl rfl rfl rfl ⟨rfl,rfl,rfl,rfl,rfl⟩ rfl rfl rfl rfl rfl (by kernel_rfl) Tryz.func6 (by kernel_rfl)
  (of_decide_eq_true (by kernel_rfl)) (by unfold Func.isWrapper; first | (rw [if_pos (by decide +kernel)]; kernel_rfl) | (rw [if_neg (by decide +kernel)]; exact ⟨rfl,rfl⟩))
  (fun os started H enc _ => lifted os started H enc)
/-- The statement. -/
theorem proved : Rows.RepairTellsSaid :=
 over
end Go.Proofs.YthlpognahlnaaaaGreat.repairTells
