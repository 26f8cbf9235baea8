/- OrderStays: what was acknowledged stays, whatever is seen; what is seen and told to be right is in the list (a card: the listed tables as the program's text lays them). -/
import Derived.Test.YtlihpaegaikoeaaDoorCards
import Derived.Test.YtlihpaegaikoeaaDoorTie
import Derived.Test.YtlihpaegaikoeaaDoorPvSmall
import Derived.Test.YtlihpaegaikoeaaDoorPkCodB
import Derived.Test.YtlihpaegaikoeaaDoorWtV
set_option linter.all false
namespace Go.Proofs.YtlihpaegaikoeaaDoor.orderStays
open Pv Pk Go Go.ChangeShapes Go.WideShapes Go.ChangeAt Go.RowKit
theorem own : ownKnob Tryd.prog.godebug = none := by kernel_rfl
theorem laidOut : laidOutB Tryd.prog = true := by kernel_rfl
theorem cod_Objt {n : Nat} : Cod Tryd.prog (n + 3) 31 Pk.Objt.d Pk.Objt.cs Pk.Objt.ok :=
  Pk.Objt.cod Tryd.underlying31 rfl (cod_bool Tryd.underlying4) (cod_str Tryd.underlying9) (cod_arr3 Tryd.underlying29 (cod_str Tryd.underlying9))
theorem cod_Res {n : Nat} : Cod Tryd.prog (n + 2) 34 Pk.Res.d Pk.Res.cs Pk.Res.ok :=
  Pk.Res.cod Tryd.underlying34 rfl (cod_u8 Tryd.underlying5) (cod_str Tryd.underlying9)
theorem cod_Last {n : Nat} : Cod Tryd.prog (n + 3) 36 Pk.Last.d Pk.Last.cs Pk.Last.ok :=
  Pk.Last.cod Tryd.underlying36 rfl (cod_u32 Tryd.underlying28) cod_Res
theorem cod_Base {n : Nat} : Cod Tryd.prog (n + 5) 39 Pk.Base.d Pk.Base.cs Pk.Base.ok :=
  Pk.Base.cod Tryd.underlying39 rfl (cod_arr6 Tryd.underlying32 cod_Objt) (cod_arr3 Tryd.underlying37 cod_Last)
theorem cod_Opr {n : Nat} : Cod Tryd.prog (n + 2) 41 Pk.Opr.d Pk.Opr.cs Pk.Opr.ok :=
  Pk.Opr.cod Tryd.underlying41 rfl (cod_u8 Tryd.underlying5) (cod_u32 Tryd.underlying28) (cod_u8 Tryd.underlying5) (cod_u8 Tryd.underlying5) (cod_u8 Tryd.underlying5) (cod_str Tryd.underlying9)
theorem cod_Entry {n : Nat} : Cod Tryd.prog (n + 3) 43 Pk.Entry.d Pk.Entry.cs Pk.Entry.ok :=
  Pk.Entry.cod Tryd.underlying43 rfl (cod_u32 Tryd.underlying28) (cod_u32 Tryd.underlying28) cod_Opr
theorem cod_State {n : Nat} : Cod Tryd.prog (n + 6) 45 Pk.State.d Pk.State.cs Pk.State.ok :=
  Pk.State.cod Tryd.underlying45 rfl (cod_u32 Tryd.underlying28) cod_Base cod_Entry (cod_slice Tryd.underlying26 cod_Entry)
theorem cod_Ans {n : Nat} : Cod Tryd.prog (n + 3) 47 Pk.Ans.d Pk.Ans.cs Pk.Ans.ok :=
  Pk.Ans.cod Tryd.underlying47 rfl cod_Opr cod_Res
theorem cod_WStep {n : Nat} : Cod Tryd.prog (n + 7) 49 Pk.WStep.d Pk.WStep.cs Pk.WStep.ok :=
  Pk.WStep.cod Tryd.underlying49 rfl (cod_int Tryd.underlying3) (cod_u8 Tryd.underlying5) cod_State cod_Ans
theorem ev (xs : List AV) (h : ArgsOk Tryd.prog 8 Tryd.f3.params.toList xs) (hs : ArgsSmall reachBytes xs) : ∃ H', evF C 3 xs [] = some (.d (.b true), H') := by
  rw [Tryd.params3] at h
  obtain ⟨x0, ys, rfl, w0, h⟩ := arg_cod (cod_slice Tryd.underlying22 cod_WStep) h
  obtain rfl := arg_none h
  exact stays23_law x0 w0.2
def wArgs : Array Value := #[.slice none 0 0]
def tabAt (cs : Array Value) : Obj → Obj
  | .cells _ t frozen => .cells cs t frozen
  | o => o
/-- A world that holds the listed tables as the program's text lays them. -/
noncomputable def laidWorld (os : Os) : World :=
  { World.holding Tryd.prog os ⟨#[], #[], []⟩ with heap := ((((World.holding Tryd.prog os ⟨#[], #[], []⟩).heap.modify 2 (tabAt #[.int .u8 0, .int .u8 1, .int .u8 28, .int .u8 2, .int .u8 29, .int .u8 14, .int .u8 24, .int .u8 3, .int .u8 30, .int .u8 22, .int .u8 20, .int .u8 15, .int .u8 25, .int .u8 17, .int .u8 4, .int .u8 8, .int .u8 31, .int .u8 27, .int .u8 13, .int .u8 23, .int .u8 21, .int .u8 19, .int .u8 16, .int .u8 7, .int .u8 26, .int .u8 12, .int .u8 18, .int .u8 6, .int .u8 11, .int .u8 5, .int .u8 10, .int .u8 9])).modify 3 (tabAt #[.int .u8 0, .int .u8 1, .int .u8 56, .int .u8 2, .int .u8 57, .int .u8 49, .int .u8 28, .int .u8 3, .int .u8 61, .int .u8 58, .int .u8 42, .int .u8 50, .int .u8 38, .int .u8 29, .int .u8 17, .int .u8 4, .int .u8 62, .int .u8 47, .int .u8 59, .int .u8 36, .int .u8 45, .int .u8 43, .int .u8 51, .int .u8 22, .int .u8 53, .int .u8 39, .int .u8 33, .int .u8 30, .int .u8 24, .int .u8 18, .int .u8 12, .int .u8 5, .int .u8 63, .int .u8 55, .int .u8 48, .int .u8 27, .int .u8 60, .int .u8 41, .int .u8 37, .int .u8 16, .int .u8 46, .int .u8 35, .int .u8 44, .int .u8 21, .int .u8 52, .int .u8 32, .int .u8 23, .int .u8 11, .int .u8 54, .int .u8 26, .int .u8 40, .int .u8 15, .int .u8 34, .int .u8 20, .int .u8 31, .int .u8 10, .int .u8 25, .int .u8 14, .int .u8 19, .int .u8 9, .int .u8 13, .int .u8 8, .int .u8 7, .int .u8 6])).modify 0 (tabAt #[.int .u64 1, .int .u64 10, .int .u64 100, .int .u64 1000, .int .u64 10000, .int .u64 100000, .int .u64 1000000, .int .u64 10000000, .int .u64 100000000, .int .u64 1000000000, .int .u64 10000000000, .int .u64 100000000000, .int .u64 1000000000000, .int .u64 10000000000000, .int .u64 100000000000000, .int .u64 1000000000000000, .int .u64 10000000000000000, .int .u64 100000000000000000, .int .u64 1000000000000000000, .int .u64 10000000000000000000])) }
theorem laid_met (os : Os) : laidMet Tryd.prog Rows.orderStaysRow.laid ((laidWorld os).forCall (fun _ _ => 0) ⟨#[], wArgs, []⟩).memory :=
  laidMet_of_run' 8 (by kernel_rfl) (by kernel_rfl)
theorem reads (os : Os) {H : Type} (enc : TypeId × Value → H) : ∃ x, DataW.whole enc Tryd.prog ((laidWorld os).forCall (fun _ _ => 0) ⟨#[], wArgs, []⟩).memory Tryd.f3.params.toList Rows.orderStaysSpec.vars false wArgs.toList 8 = some x :=
  Option.isSome_iff_exists.1 (by kernel_rfl)
set_option maxRecDepth 100000 in
theorem lifted (os : Os) (started : os.Started) (H : Type) (enc : TypeId × Value → H) (F : Stop.Interp) :
    ReturnsInHanded {} Tryd.checked os 3 .any ((OpenSpec.ofChange Rows.orderStaysSpec).preRow enc Tryd.prog Tryd.f3 Rows.orderStaysRow.domain false Rows.orderStaysRow.laid) (((OpenSpec.ofChange Rows.orderStaysSpec).at F).post enc Tryd.prog Tryd.f3 false true false false) := by
  obtain ⟨x, hx⟩ := reads os enc
  refine returnsInHanded_of_row (C := Tryd.checked) (s := OpenSpec.ofChange Rows.orderStaysSpec) own started (by kernel_rfl) Tryd.func3
    (witness_row_at (enc := enc) (C := Tryd.checked) false (laidWorld os) wArgs rfl (by kernel_rfl) (by kernel_rfl) (by kernel_rfl)
      (OpenSpec.preRow_of_cond 8 hx rfl (fun k hk => by cases hk) (by kernel_rfl) (laid_met os))) ?_
  intro W base args ds gs before hval hW _ _ hwt _ _ _
  exact contract_small (C := Tryd.checked) (s := Rows.orderStaysSpec) (tb := 4) 8 hC laidOut (by kernel_rfl) (by kernel_rfl) (by kernel_rfl) Tryd.underlying4 rfl _
    (fun ds h => match ds, h with
      | [_], _ => rfl) ev W base args ds gs before hval hW hwt
theorem over : Rows.OrderStaysSaid :=
  OpenClaim.holds_of_cond 3 Tryd.f3 rfl rfl rfl rfl rfl rfl rfl ⟨rfl, rfl, rfl, rfl, rfl⟩ rfl rfl rfl rfl rfl (by kernel_rfl) Tryd.func3 (by kernel_rfl)
    (of_decide_eq_true (by kernel_rfl)) (by unfold Func.isWrapper; first | (rw [if_pos (by decide +kernel)]; kernel_rfl) | (rw [if_neg (by decide +kernel)]; exact ⟨rfl, rfl⟩))
    (fun os started H enc _ F => by rw [OpenClaim.pre_eq_preRow]; exact lifted os started H enc F)
theorem noStand : Tryd.f3.params.toList.all (fun t => !Tryd.prog.wantsStandIn t) = true := by kernel_rfl
theorem plainA (f : FuncId) (fn : Func) (hf : Tryd.pinned.checked.prog.funcNamed Rows.orderStaysRow.func = some f) (hfn : Tryd.pinned.checked.prog.funcs[f]? = some fn) :
    false = Tryd.pinned.checked.prog.looks [] ∧ ∀ (j : Nat) t, fn.params[j]? = some t → Tryd.pinned.checked.prog.wantsStandIn t = false := by
  obtain rfl : f = 3 := Option.some.inj ((show Tryd.prog.funcNamed Rows.orderStaysRow.func = some 3 by kernel_rfl).symm.trans hf) |>.symm
  obtain rfl : fn = Tryd.f3 := (Option.some.inj (Tryd.func3.symm.trans hfn)).symm
  refine ⟨by kernel_rfl, fun j t ht => ?_⟩
  have := List.all_eq_true.1 noStand t (by simpa using Array.mem_of_getElem? ht)
  have h2 : Tryd.prog.wantsStandIn t = false := by simpa using this
  exact h2
/-- The statement: the card. -/
theorem proved : Rows.OrderStaysCardSaid :=
  Claim7.holds_tied_plain_at .later [] _ _ _ _ over (fun _ h => by cases h) (by kernel_rfl) (fun _ h => by cases h) orderStays_row_tie rfl ⟨rfl, rfl⟩ (by kernel_rfl) rfl plainA (by kernel_rfl)
end Go.Proofs.YtlihpaegaikoeaaDoor.orderStays
