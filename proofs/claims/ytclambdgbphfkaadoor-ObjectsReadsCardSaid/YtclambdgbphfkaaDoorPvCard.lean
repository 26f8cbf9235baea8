/- The pure evaluator: the step from 'it evaluates to true' to a row that lists package-level variables, and to its card. -/
import Derived.Test.YtclambdgbphfkaaDoorPvBridge2
import Derived.OpenShut
import Derived.Deep.DeepHandedRow
import Derived.Lib.LaidTab
set_option linter.all false
namespace Pv
open Go Go.RowKit Go.WideShapes Go.ChangeShapes Go.ChangeAt

theorem contract_of {H : Type} {enc : TypeId × Value → H} {C : Checked} {f : FuncId} {F : Func} {s : ChangeSpec} {tb : TypeId} {T : FuncId → Option AFn} (n : Nat)
    (hC : CRel C.prog T) (hl : laidOutB C.prog = true) (hpl : F.params.toList.all (plain C.prog n) = true) (hrd : F.params.toList.all (fun t => C.prog.readableRec t && decide (t < C.prog.types.size)) = true)
    (hres : F.resultTypes = #[tb]) (htb : C.prog.underlying tb = some .bool) (hvars : s.vars = [])
    (hs : ∀ (ds : List (DataW H)), ds.length = F.params.toList.length → s.fn H ds = { results := [.lit (.bool true)], args := ds })
    (hev : ∀ xs, ArgsOk C.prog n F.params.toList xs → ∃ H', evF T f xs [] = some (.d (.b true), H'))
    (W : World) (base : Nat) (args : Array Value) (ds gs : List (DataW H)) (before : List MemPlace)
    (hval : ∀ (j : Nat) t v, F.params[j]? = some t → args[j]? = some v → Value.okWide C.prog W .any base t v)
    (hW : DataW.Whole enc C.prog F.params.toList s.vars false W args.toList ds gs before) :
    Calls C.prog f args W fun e W' => ∃ v, e = .returned v ∧ s.post enc C.prog F false true false false W args v W' := by
  have hW' := hW
  obtain ⟨p, q, hA, hV, rfl, hfz, hnd⟩ := hW
  rw [hvars] at hV
  obtain ⟨rfl, rfl⟩ := trodVars_none hV
  obtain ⟨xs, hok, hxs, hlen⟩ := open_args hpl (fun j t v h1 h2 => hval j t v (by simpa using h1) (by simpa using h2)) hA
  obtain ⟨H', he⟩ := hev xs hok
  have hS := ((sound T hC).1 f xs [] _ he).2 (gh0 W) W args.toList hxs (RH.empty W)
  have e0 : args.toList.toArray = args := rfl
  rw [e0] at hS
  refine hS.mono fun e W' ⟨v, γ', he', hv, _, hstp⟩ => ?_
  have hb := hstp.below
  have hv' : v = .bool true := by
    cases hv with
    | d h => cases h; rfl
  subst hv'
  have hfn' : s.fn H (ds ++ []) = { results := [.lit (.bool true)], args := ds } := by rw [List.append_nil]; exact hs ds hlen
  have hold : ∀ x ∈ p ++ [], (fun b => decide (b < W.heap.size)) x.block = true := fun x hx => by simpa using hW'.lt x hx
  refine ⟨_, he', ds, [], p ++ [], [], p, [], hW', ?_, ?_, ?_, World.keptBut_mono (fun x hx => ⟨hx, ?_⟩) (hb.frame (· ∈ p ++ [])), fun h => by cases h⟩
  · rw [hfn', hres]
    exact trodAll_cons_mk (shut_bool htb true) rfl
  · rw [hfn']
    exact args_stay hl hb hrd hA (fun x hx => hW'.lt x (by simp [hx])) (fun x hx => hold x (by simp [hx]))
  · rw [hfn', hvars]
    rfl
  · rw [List.mem_append] at hx
    exact Or.inr hx
end Pv
