/- The pure evaluator: one operation of a region, calls among them. -/
import Derived.Test.YtlihpaegaikoeaaDoorPvCut
set_option linter.all false
namespace Pv
open Go

/-- One operation, its guard met. -/
def StepR (P : Program) (o : AOper) (T : Tm) (H : Heap) (v : AV) (H' : Heap) (t : Tch) : Prop :=
  (∃ g args f as, o.op = .call g args ∧ callee T g args = some (f, as) ∧
    ((∃ ds H1 p, toDs H as = some (ds, H1) ∧ SRet P f (ds.map .d) [] p ∧ behind0 (frzAs as) (as.all isD) H1 p.2 p.1 = some (v, H', t)) ∨
     (SRet P f as H (v, H') ∧ ((∃ s, t = .keep H.length s ∧ (s = true → H'.take H.length = H)) ∨ ∃ s A A' Y, t = .loc A.length s ∧ A'.length = A.length ∧ H = A ++ Y ∧ H' = A' ++ Y ∧ (s = true → A' = A) ∧ ∀ X, SRet P f as (A ++ X) (v, A' ++ X)) ∧ H.length ≤ H'.length) ∨
     (∃ ds p k c, as.all isD = true ∧ toDs H as = some (ds, H) ∧ SRet P f (ds.map .d) [] p ∧ takeAt k p.2 p.1 = some (v, c) ∧ freeAt H k ∧ H' = putAt H k c ∧ t = .new k))) ∨
  ((∀ g args, o.op ≠ .call g args) ∧ ∃ e, act o.op T H = some (v, e, t) ∧ H' = e.on H) ∨
  (∃ k c, newAt o.op T k = some (v, c) ∧ freeAt H k ∧ H' = putAt H k c ∧ t = .new k)

inductive RunR (P : Program) : List AOper → Tm → Heap → List Tch → Tm × Heap × List Tch → Prop
  | nil {T H tl} : RunR P [] T H tl (T, H, tl)
  | skip {o r T H tl res} (hg : guardOk T o.guard = some false) (h : RunR P r (setT T o.dst .und) H (tl ++ [.none]) res) : RunR P (o :: r) T H tl res
  | step {o r T H tl v H' t res} (hg : guardOk T o.guard = some true) (hs : StepR P o T H v H' t) (h : RunR P r (setT T o.dst v) H' (tl ++ [t]) res) : RunR P (o :: r) T H tl res

/-- The state of a walk. -/
structure RS (γ : Gh) (w : World) (nt : Nat) (T : Tm) (H : Heap) (a : Act) : Prop where
  t : RT γ w T a
  h : RH γ w H
  n : a.tmps.size = nt
  d : a.defers = []

section
variable {P : Program} {γ : Gh} {w : World} {T : Tm} {a : Act} {H : Heap}

theorem RT.mono {γ' : Gh} {w' : World} (h : RT γ w T a) (hs : Stp γ w γ' w') : RT γ' w' T a := fun i => (h i).mono hs

theorem RT.set {v : AV} {v' : Value} (h : RT γ w T a) (hv : RV γ w v v') {dst : Option Nat} (hd : dstOk a.tmps.size dst = true) :
    RT γ w (setT T dst v) (a.put dst v') := by
  cases dst with
  | none => exact h
  | some d =>
    simp [dstOk] at hd
    intro i
    rw [setT_some, lk_cons]
    by_cases hi : i = d
    · subst hi
      rw [if_pos rfl]
      have : (a.put (some i) v').tmps.getD i undef = v' := by simp [Act.put, hd]
      rw [this]
      exact hv
    · rw [if_neg hi]
      have : (a.put (some d) v').tmps.getD i undef = a.tmps.getD i undef := by
        simp [Act.put, Array.getElem?_setIfInBounds_ne (Ne.symm hi)]
      rw [this]
      exact h i

theorem RS.set {nt : Nat} {v : AV} {v' : Value} {γ' : Gh} {w' : World} {H' : Heap} (h : RS γ w nt T H a) (hs : Stp γ w γ' w') (hv : RV γ' w' v v') (hH : RH γ' w' H') {dst : Option Nat} (hd : dstOk nt dst = true) :
    RS γ' w' nt (setT T dst v) H' (a.put dst v') := by
  refine ⟨(h.t.mono hs).set hv (by rw [h.n]; exact hd), hH, ?_, ?_⟩
  · cases dst <;> simp [Act.put, h.n]
  · cases dst <;> simp [Act.put, h.d]

theorem run_call {o : Oper} {c : Call} (ho : o.op = .call c) {g : Operand} (hc : c.callee = .value g) {f : FuncId} {first cap : Array Value} (hg : a.eval g = .func (.func f) first cap) (hf : Callable P f) :
    (execOp a.eval o).run P w = .ok (.enter f (first ++ c.args.map a.eval ++ cap)) w := by
  obtain ⟨F, b, h1, h2, h3⟩ := hf
  have h3' : ¬ (F.name = "runtime.NumGoroutine") := by simpa using h3
  simp [execOp, ho, resolve, hc, hg, Deferred.ofValue, invoke, callFunc, h1, h2, h3']

theorem call_step {o : Oper} {c : Call} (ho : o.op = .call c) {g : Operand} (hc : c.callee = .value g) {g' : Opn} {args' : List Opn} (hg : opn g = some g') (hargs : opns c.args.toList = some args') {nt : Nat} (hS : RS γ w nt T H a)
    {f : FuncId} {as : List AV} (hcl : callee T g' args' = some (f, as)) {v : AV} {H' : Heap} {t : Tch}
    (h : (∃ ds H1 p, toDs H as = some (ds, H1) ∧ SRet P f (ds.map .d) [] p ∧ behind0 (frzAs as) (as.all isD) H1 p.2 p.1 = some (v, H', t)) ∨ (SRet P f as H (v, H') ∧ ((∃ s, t = .keep H.length s ∧ (s = true → H'.take H.length = H)) ∨ ∃ s A A' Y, t = .loc A.length s ∧ A'.length = A.length ∧ H = A ++ Y ∧ H' = A' ++ Y ∧ (s = true → A' = A) ∧ ∀ X, SRet P f as (A ++ X) (v, A' ++ X)) ∧ H.length ≤ H'.length) ∨ (∃ ds p k c, as.all isD = true ∧ toDs H as = some (ds, H) ∧ SRet P f (ds.map .d) [] p ∧ takeAt k p.2 p.1 = some (v, c) ∧ freeAt H k ∧ H' = putAt H k c ∧ t = .new k))
    {K : Act → World → Prop} {Q : Exit → Act → World → Prop} (hK : ∀ v' w' γ', RV γ' w' v v' → RH γ' w' H' → Stp γ w γ' w' → K (a.put o.dst v') w') : o.wp P a w K Q := by
  have h1 := opn_sound hS.t hg
  have h2 := opns_sound hS.t hargs
  simp only [callee] at hcl
  split at hcl
  · rename_i f' first cap hev
    simp at hcl
    obtain ⟨rfl, rfl⟩ := hcl
    rw [hev] at h1
    generalize hvg : a.eval g = vg at h1
    cases h1 with
    | @fn _ _ _ fv cv ha hb =>
      have hall : RVs γ w (first ++ (args'.map (ev T) ++ cap)) (fv ++ (c.args.toList.map a.eval ++ cv)) := ha.append (h2.append hb)
      have harr : fv.toArray ++ c.args.map a.eval ++ cv.toArray = (fv ++ (c.args.toList.map a.eval ++ cv)).toArray := by
        apply Array.ext'
        simp
      have fin : Callable P f' → Calls P f' (fv ++ (c.args.toList.map a.eval ++ cv)).toArray w (fun e w' => ∃ v' γ', e = .returned v' ∧ RV γ' w' v v' ∧ RH γ' w' H' ∧ Stp γ w γ' w') → o.wp P a w K Q := by
        intro hcall hrun
        unfold Oper.wp
        rw [run_call ho hc hvg hcall, Oper.upon_enter, harr]
        refine hrun.mono ?_
        rintro e w' ⟨v', γ', rfl, hv, hH', hs⟩
        exact hK v' w' γ' hv hH' hs
      rcases h with ⟨ds, H1, p, htd, hsr, hbh⟩ | ⟨hsr, _⟩ | ⟨ds, p, k, c, _, htd, hsr, htk, hfk, rfl, _⟩
      · refine fin hsr.1 ?_
        obtain ⟨γ1, hds, hH1, hs1, hp1⟩ := toDs_sound _ hS.h hall htd
        have hno : RH ⟨γ1.fix, fun _ => .no⟩ w [] := ⟨by simp, fun _ _ => rfl, fun o o' b hb => by simp [Pl.own] at hb, hH1.fixb⟩
        refine (hsr.2 ⟨γ1.fix, fun _ => .no⟩ w _ (.of_d hds) hno).mono ?_
        rintro e w' ⟨v', γ2, rfl, hv, hH2, hs2⟩
        unfold behind0 at hbh
        split at hbh
        · rename_i y H3 had
          simp at hbh
          obtain ⟨rfl, rfl, _⟩ := hbh
          obtain ⟨γ', hv', hH', hs'⟩ := adoptR_sound hH1 hH2 hs2 hv had
          exact ⟨v', γ', rfl, hv', hH', hs1.trans hs'⟩
        · simp at hbh
      · exact fin hsr.1 (hsr.2 γ w _ hall hS.h)
      · refine fin hsr.1 ?_
        obtain ⟨γ1, hds, hH1, hs1, hp1⟩ := toDs_sound _ hS.h hall htd
        have hno : RH ⟨γ1.fix, fun _ => .no⟩ w [] := ⟨by simp, fun _ _ => rfl, fun o o' b hb => by simp [Pl.own] at hb, hH1.fixb⟩
        refine (hsr.2 ⟨γ1.fix, fun _ => .no⟩ w _ (.of_d hds) hno).mono ?_
        rintro e w' ⟨v', γ2, rfl, hv, hH2, hs2⟩
        obtain ⟨γ', hv', hH', hs'⟩ := takeAt_sound hH1 hH2 hs2 hv hfk htk
        exact ⟨v', γ', rfl, hv', hH', hs1.trans hs'⟩
  · simp at hcl

theorem compCall_value {c : Call} {g : Opn} {args : List Opn} (h : compCall P c = some (.call g args)) : ∃ g0, c.callee = .value g0 ∧ opn g0 = some g ∧ opns c.args.toList = some args := by
  unfold compCall at h
  split at h
  · rename_i g0 hc
    split at h
    · rename_i g' as' hg ha
      simp at h
      obtain ⟨rfl, rfl⟩ := h
      exact ⟨g0, hc, hg, ha⟩
    · simp at h
  all_goals (repeat' split at h) <;> simp at h

theorem compOp_call {op : Op} {g : Opn} {args : List Opn} (h : compOp P op = .call g args) : ∃ c, op = .call c ∧ compCall P c = some (.call g args) := by
  unfold compOp at h
  cases h1 : compOp1 P op with
  | none => simp [h1] at h
  | some ao =>
    simp [h1] at h
    subst h
    cases op <;> simp only [compOp1] at h1
    case call c => exact ⟨c, rfl, h1⟩
    case makeMap t r =>
      exfalso
      cases r <;> simp only [compOp1] at h1
      · split at h1
        · split at h1
          · simp at h1
          · simp at h1
        · simp at h1
      · simp at h1
    all_goals
      first
      | (simp at h1; done)
      | (exfalso; revert h1; simp [Option.map]; done)
      | (exfalso; (repeat' split at h1) <;> simp at h1; done)
      | (exfalso; simp only [Option.map_eq_some_iff] at h1; obtain ⟨_, _, h2⟩ := h1; simp at h2; done)

theorem step_sound {ops : Array Oper} {nt : Nat} {o : Oper} {ao : AOper} (hcomp : compOper P ops nt o = some ao) (hS : RS γ w nt T H a) {v : AV} {H' : Heap} {t : Tch} (h : StepR P ao T H v H' t)
    {K : Act → World → Prop} {Q : Exit → Act → World → Prop} (hK : ∀ v' w' γ', RS γ' w' nt (setT T ao.dst v) H' (a.put o.dst v') → Stp γ w γ' w' → K (a.put o.dst v') w') : o.wp P a w K Q := by
  unfold compOper at hcomp
  split at hcomp
  · rename_i gd hgd
    split at hcomp
    · rename_i hd
      simp at hcomp
      subst hcomp
      have hK' : ∀ v' w' γ', RV γ' w' v v' → RH γ' w' H' → Stp γ w γ' w' → K (a.put o.dst v') w' :=
        fun v' w' γ' hv hH hs => hK v' w' γ' (hS.set hs hv hH hd) hs
      rcases h with ⟨g, args, f, as, hop, hcl, h⟩ | ⟨hnc, e, hact, rfl⟩ | ⟨k, c, hn, hfk, rfl, rfl⟩
      · obtain ⟨c, hc1, hc2⟩ := compOp_call hop
        obtain ⟨g0, hc3, hg, ha⟩ := compCall_value hc2
        exact call_step hc1 hc3 hg ha hS hcl h hK'
      · simp only at hnc hact
        unfold compOp at hnc hact
        cases h1 : compOp1 P o.op with
        | none =>
          rw [h1] at hact
          simp [act] at hact
        | some op =>
          rw [h1] at hact hnc
          simp only [Option.getD_some] at hact hnc
          obtain ⟨v', w', γ', hrun, hv, hH, hs⟩ := act_sound h1 hnc hS.t hS.h hact
          unfold Oper.wp
          rcases hrun with hrun | ⟨hrun, rfl⟩
          · rw [hrun, Oper.upon_value]
            exact hK' v' w' γ' hv hH hs
          · rw [hrun, Oper.upon_skip]
            exact hK' undef w' γ' hv hH hs
      · simp only at hn
        unfold compOp at hn
        cases h1 : compOp1 P o.op with
        | none =>
          rw [h1] at hn
          simp [newAt] at hn
        | some op =>
          rw [h1] at hn
          simp only [Option.getD_some] at hn
          obtain ⟨v', w', γ', hrun, hv, hH, hs⟩ := newAt_sound h1 hS.t hS.h hfk hn
          unfold Oper.wp
          rcases hrun with hrun | ⟨hrun, rfl⟩
          · rw [hrun, Oper.upon_value]
            exact hK' v' w' γ' hv hH hs
          · rw [hrun, Oper.upon_skip]
            exact hK' undef w' γ' hv hH hs
    · simp at hcomp
  · simp at hcomp

end
end Pv
