/- The pure evaluator: a law that evaluates to true, whatever its arguments: its row's step. -/
import Derived.Test.YtclambdgbphfkaaDoorPvBridge
set_option linter.all false
namespace Pv
open Go Go.RowKit Go.ChangeShapes Go.WideShapes

def gh0 (w : World) : Gh := { fix := fixAll w, pl := fun _ => .no }

theorem RH.empty (w : World) : RH (gh0 w) w [] where
  ob o b h := by simp at h
  out _ _ := rfl
  inj _ _ _ h := by simp [gh0, Pl.own] at h
  fixb _ _ h := h

theorem Stp.below {w w' : World} {γ' : Gh} (h : Stp (gh0 w) w γ' w') : Below w.heap.size w w' :=
  ⟨h.os, h.tape, h.output, h.size, fun k hk => h.other k hk (fun o ho => by simp [gh0, Pl.own] at ho)⟩

/-- Arguments: data of these types. -/
def ArgsOk (P : Program) (n : Nat) : List TypeId → List AV → Prop
  | [], xs => xs = []
  | t :: r, xs => ∃ ds ys, xs = .d (pack P t ds) :: ys ∧ Shape P n t ds ∧ ArgsOk P n r ys

section
variable {H : Type} {enc : TypeId × Value → H} {P : Program} {w : World} {base : Nat} {spare : Nat → Bool} {held : Bool}

theorem open_arg {n : Nat} {t : TypeId} (hp : plain P n t = true) {b0 : Nat} {v : Value} {d : DataW H} {ps : List MemPlace} (hval : Value.okWide P w .any b0 t v) (hd : DataW.Trod enc P w base spare held t v d ps) :
    ∃ ds, Shape P n t ds ∧ RD (fixAll w) w (pack P t ds) v := by
  obtain ⟨fuel, hf⟩ := hd
  obtain ⟨ds, h1, h2, h3⟩ := openD n hp hf
  refine ⟨ds, h3, ?_⟩
  have single : ∀ (h : v.cells.toList = [v]) (_ : ds.length = 1), RD (fixAll w) w (ds.headD (.b false)) v := by
    intro h hl
    rw [h] at h1
    cases h1 with
    | cons hx ht => exact hx
  have hlen := h1.length
  cases n with
  | zero => exact h3.elim
  | succ n =>
    unfold pack
    unfold Shape at h3
    split at h3
    · rename_i ht; obtain ⟨b, rfl⟩ := okWide_bool ht hval; obtain ⟨_, rfl⟩ := h3; simp only [ht]; exact single rfl rfl
    · rename_i ht; obtain ⟨b, rfl⟩ := okWide_int ht hval; obtain ⟨_, rfl, _⟩ := h3; simp only [ht]; exact single rfl rfl
    · rename_i ht; obtain ⟨b, rfl⟩ := okWide_string ht hval; obtain ⟨_, rfl, _⟩ := h3; simp only [ht]; exact single rfl rfl
    · rename_i ht; obtain ⟨a, l, c, rfl⟩ := okWide_slice ht hval; obtain ⟨_, rfl, _⟩ := h3; simp only [ht]; exact single rfl rfl
    · rename_i ht
      simp only [ht]
      unfold Value.okWide at hval
      simp only [ht] at hval
      obtain ⟨cs, rfl, _⟩ := hval
      exact .agg (vs := cs.toList) h1 h2
    · rename_i ht
      simp only [ht]
      unfold Value.okWide at hval
      simp only [ht] at hval
      obtain ⟨cs, rfl, _⟩ := hval
      exact .agg (vs := cs.toList) h1 h2
    · exact h3.elim

theorem open_args {n : Nat} {b0 : Nat} : ∀ {ts : List TypeId} {vs : List Value} {ds : List (DataW H)} {ps : List MemPlace}, ts.all (plain P n) = true →
    (∀ (j : Nat) t v, ts[j]? = some t → vs[j]? = some v → Value.okWide P w .any b0 t v) → DataW.TrodAll enc P w base spare held ts vs ds ps →
    ∃ xs, ArgsOk P n ts xs ∧ RVs (gh0 w) w xs vs ∧ ds.length = ts.length
  | [], vs, ds, ps, _, _, h => by
    obtain ⟨rfl, rfl, _⟩ := trodAll_nil h
    exact ⟨[], rfl, .nil, rfl⟩
  | t :: r, vs, ds, ps, hp, hv, h => by
    obtain ⟨v, vs', d, ds', p, q, rfl, rfl, rfl, h0, h1⟩ := trodAll_cons h
    simp only [List.all_cons, Bool.and_eq_true] at hp
    obtain ⟨xs, k1, k2, k3⟩ := open_args hp.2 (fun j t v ht hv' => hv (j + 1) t v (by simpa using ht) (by simpa using hv')) h1
    obtain ⟨dd, q1, q2⟩ := open_arg hp.1 (hv 0 t v rfl rfl) h0
    exact ⟨_, ⟨dd, xs, rfl, q1, k1⟩, .cons (.d q2) k2, by simp [k3]⟩

theorem args_stay (hl : laidOutB P = true) {W W' : World} {sp : Nat → Bool} (hb : Below W.heap.size W W') : ∀ {ts : List TypeId} {vs : List Value} {ds : List (DataW H)} {ps : List MemPlace},
    ts.all (fun t => P.readableRec t && decide (t < P.types.size)) = true → DataW.TrodAll enc P W 0 (fun _ => true) true ts vs ds ps → (∀ p ∈ ps, p.block < W.heap.size) → (∀ p ∈ ps, sp p.block = true) →
    DataW.TrodAll enc P W' 0 sp true ts vs ds ps
  | [], vs, ds, ps, _, h, _, _ => by
    obtain ⟨rfl, rfl, rfl⟩ := trodAll_nil h
    exact rfl
  | t :: r, vs, ds, ps, hp, h, hlt, hsp => by
    obtain ⟨v, vs', d, ds', p, q, rfl, rfl, rfl, h0, h1⟩ := trodAll_cons h
    simp only [List.all_cons, Bool.and_eq_true, decide_eq_true_eq] at hp
    refine ⟨p, q, ?_, args_stay hl hb hp.2 h1 (fun x hx => hlt x (by simp [hx])) (fun x hx => hsp x (by simp [hx])), rfl⟩
    exact WideElems.Trod_stays hl hp.1.1 hp.1.2 h0 (fun x hx => hb.same (hlt x (by simp [hx]))) (fun x hx => hsp x (by simp [hx]))

end

/-- THE ROW's STEP: for a law that evaluates to true. -/
theorem lifted_of {H : Type} {enc : TypeId × Value → H} {C : Checked} {os : Os} {f : FuncId} {F : Func} {s : ChangeSpec} {conds : List PathCond} {tb : TypeId} {T : FuncId → Option AFn} (n : Nat)
    (own : ownKnob C.prog.godebug = none) (started : os.Started) (noInit : C.prog.inits.idxOf? f = none) (hfn : C.prog.funcs[f]? = some F)
    (witness : ∃ (w : World) (tape : Tape) (i : Input), w.os = os ∧ (w.forCall tape i).Shaped C.prog ∧ i.vars = [] ∧ Input.okWide C.prog (w.forCall tape i) .any w.heap.size f i ∧
      s.pre6 enc C.prog F conds false (w.forCall tape i).memory i.args ∧ Assume.holds {} C.prog (lone (Frame.enter C.prog f i.args .normal) [] (w.forCall tape i)))
    (hC : CRel C.prog T) (hl : laidOutB C.prog = true) (hpl : F.params.toList.all (plain C.prog n) = true) (hrd : F.params.toList.all (fun t => C.prog.readableRec t && decide (t < C.prog.types.size)) = true)
    (hres : F.resultTypes = #[tb]) (htb : C.prog.underlying tb = some .bool) (hvars : s.vars = [])
    (hs : ∀ (ds : List (DataW H)), ds.length = F.params.toList.length → s.fn H ds = { results := [.lit (.bool true)], args := ds })
    (hev : ∀ xs, ArgsOk C.prog n F.params.toList xs → ∃ H', evF T f xs [] = some (.d (.b true), H')) :
    ReturnsInHanded {} C os f .any (s.pre6 enc C.prog F conds false) (s.post enc C.prog F false true false false) := by
  refine returnsInHanded_of_change (C := C) own started noInit hfn witness ?_
  intro W base args ds gs before hval hW _ _
  have hW' := hW
  obtain ⟨p, q, hA, hV, rfl, hfz, hnd⟩ := hW
  rw [hvars] at hV
  obtain ⟨rfl, rfl⟩ := trodVars_none hV
  obtain ⟨xs, hok, hxs, hlen⟩ := open_args hpl (fun j t v h1 h2 => hval j t v (by simpa using h1) (by simpa using h2)) hA
  obtain ⟨H', he⟩ := hev xs hok
  have hS := ((sound T hC).1 f xs [] _ he).2 (gh0 W) W args.toList hxs (RH.empty W)
  have e0 : args.toList.toArray = args := rfl
  rw [e0] at hS
  refine hS.mono fun e W' ⟨v, γ', he', hv, _, hstp⟩ => ?_
  have hb := hstp.below
  have hv' : v = .bool true := by
    cases hv with
    | d h => cases h; rfl
  subst hv'
  have hfn' : s.fn H (ds ++ []) = { results := [.lit (.bool true)], args := ds } := by rw [List.append_nil]; exact hs ds hlen
  have hold : ∀ x ∈ p ++ [], (fun b => decide (b < W.heap.size)) x.block = true := fun x hx => by simpa using hW'.lt x hx
  refine ⟨_, he', ds, [], p ++ [], [], p, [], hW', ?_, ?_, ?_, World.keptBut_mono (fun x hx => ⟨hx, ?_⟩) (hb.frame (· ∈ p ++ [])), fun h => by cases h⟩
  · rw [hfn', hres]
    exact trodAll_cons_mk (shut_bool htb true) rfl
  · rw [hfn']
    exact args_stay hl hb hrd hA (fun x hx => hW'.lt x (by simp [hx])) (fun x hx => hold x (by simp [hx]))
  · rw [hfn', hvars]
    rfl
  · rw [List.mem_append] at hx
    exact Or.inr hx
end Pv
