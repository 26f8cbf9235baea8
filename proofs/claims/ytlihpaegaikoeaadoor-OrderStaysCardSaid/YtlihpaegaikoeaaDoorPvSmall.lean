/- The pure evaluator: a law that evaluates to true, whatever its arguments: its row's step. / The pure evaluator: the step from 'it evaluates to true' to a row that lists package-level variables, and to its card. / The pure evaluator: no argument's string is longer than the form's own reach. -/
import Derived.Test.YtlihpaegaikoeaaDoorPvBridge
import Derived.OpenShut
import Derived.Deep.DeepHandedRow
import Derived.Lib.LaidTab
import Derived.SizedLaws
set_option linter.all false
namespace Pv
open Go Go.RowKit Go.ChangeShapes Go.WideShapes

def gh0 (w : World) : Gh := { fix := fixAll w, pl := fun _ => .no }

theorem RH.empty (w : World) : RH (gh0 w) w [] where
  ob o b h := by simp at h
  out _ _ := rfl
  inj _ _ _ h := by simp [gh0, Pl.own] at h
  fixb _ _ h := h

theorem Stp.below {w w' : World} {γ' : Gh} (h : Stp (gh0 w) w γ' w') : Below w.heap.size w w' :=
  ⟨h.os, h.tape, h.output, h.size, fun k hk => h.other k hk (fun o ho => by simp [gh0, Pl.own] at ho)⟩

/-- Arguments: data of these types. -/
def ArgsOk (P : Program) (n : Nat) : List TypeId → List AV → Prop
  | [], xs => xs = []
  | t :: r, xs => ∃ ds ys, xs = .d (pack P t ds) :: ys ∧ Shape P n t ds ∧ ArgsOk P n r ys

section
variable {H : Type} {enc : TypeId × Value → H} {P : Program} {w : World} {base : Nat} {spare : Nat → Bool} {held : Bool}

theorem open_arg {n : Nat} {t : TypeId} (hp : plain P n t = true) {b0 : Nat} {v : Value} {d : DataW H} {ps : List MemPlace} (hval : Value.okWide P w .any b0 t v) (hd : DataW.Trod enc P w base spare held t v d ps) :
    ∃ ds, Shape P n t ds ∧ RD (fixAll w) w (pack P t ds) v := by
  obtain ⟨fuel, hf⟩ := hd
  obtain ⟨ds, h1, h2, h3⟩ := openD n hp hf
  refine ⟨ds, h3, ?_⟩
  have single : ∀ (h : v.cells.toList = [v]) (_ : ds.length = 1), RD (fixAll w) w (ds.headD (.b false)) v := by
    intro h hl
    rw [h] at h1
    cases h1 with
    | cons hx ht => exact hx
  have hlen := h1.length
  cases n with
  | zero => exact h3.elim
  | succ n =>
    unfold pack
    unfold Shape at h3
    split at h3
    · rename_i ht; obtain ⟨b, rfl⟩ := okWide_bool ht hval; obtain ⟨_, rfl⟩ := h3; simp only [ht]; exact single rfl rfl
    · rename_i ht; obtain ⟨b, rfl⟩ := okWide_int ht hval; obtain ⟨_, rfl, _⟩ := h3; simp only [ht]; exact single rfl rfl
    · rename_i ht; obtain ⟨b, rfl⟩ := okWide_string ht hval; obtain ⟨_, rfl, _⟩ := h3; simp only [ht]; exact single rfl rfl
    · rename_i ht; obtain ⟨a, l, c, rfl⟩ := okWide_slice ht hval; obtain ⟨_, rfl, _⟩ := h3; simp only [ht]; exact single rfl rfl
    · rename_i ht
      simp only [ht]
      unfold Value.okWide at hval
      simp only [ht] at hval
      obtain ⟨cs, rfl, _⟩ := hval
      exact .agg (vs := cs.toList) h1 h2
    · rename_i ht
      simp only [ht]
      unfold Value.okWide at hval
      simp only [ht] at hval
      obtain ⟨cs, rfl, _⟩ := hval
      exact .agg (vs := cs.toList) h1 h2
    · exact h3.elim

theorem open_args {n : Nat} {b0 : Nat} : ∀ {ts : List TypeId} {vs : List Value} {ds : List (DataW H)} {ps : List MemPlace}, ts.all (plain P n) = true →
    (∀ (j : Nat) t v, ts[j]? = some t → vs[j]? = some v → Value.okWide P w .any b0 t v) → DataW.TrodAll enc P w base spare held ts vs ds ps →
    ∃ xs, ArgsOk P n ts xs ∧ RVs (gh0 w) w xs vs ∧ ds.length = ts.length
  | [], vs, ds, ps, _, _, h => by
    obtain ⟨rfl, rfl, _⟩ := trodAll_nil h
    exact ⟨[], rfl, .nil, rfl⟩
  | t :: r, vs, ds, ps, hp, hv, h => by
    obtain ⟨v, vs', d, ds', p, q, rfl, rfl, rfl, h0, h1⟩ := trodAll_cons h
    simp only [List.all_cons, Bool.and_eq_true] at hp
    obtain ⟨xs, k1, k2, k3⟩ := open_args hp.2 (fun j t v ht hv' => hv (j + 1) t v (by simpa using ht) (by simpa using hv')) h1
    obtain ⟨dd, q1, q2⟩ := open_arg hp.1 (hv 0 t v rfl rfl) h0
    exact ⟨_, ⟨dd, xs, rfl, q1, k1⟩, .cons (.d q2) k2, by simp [k3]⟩

theorem args_stay (hl : laidOutB P = true) {W W' : World} {sp : Nat → Bool} (hb : Below W.heap.size W W') : ∀ {ts : List TypeId} {vs : List Value} {ds : List (DataW H)} {ps : List MemPlace},
    ts.all (fun t => P.readableRec t && decide (t < P.types.size)) = true → DataW.TrodAll enc P W 0 (fun _ => true) true ts vs ds ps → (∀ p ∈ ps, p.block < W.heap.size) → (∀ p ∈ ps, sp p.block = true) →
    DataW.TrodAll enc P W' 0 sp true ts vs ds ps
  | [], vs, ds, ps, _, h, _, _ => by
    obtain ⟨rfl, rfl, rfl⟩ := trodAll_nil h
    exact rfl
  | t :: r, vs, ds, ps, hp, h, hlt, hsp => by
    obtain ⟨v, vs', d, ds', p, q, rfl, rfl, rfl, h0, h1⟩ := trodAll_cons h
    simp only [List.all_cons, Bool.and_eq_true, decide_eq_true_eq] at hp
    refine ⟨p, q, ?_, args_stay hl hb hp.2 h1 (fun x hx => hlt x (by simp [hx])) (fun x hx => hsp x (by simp [hx])), rfl⟩
    exact WideElems.Trod_stays hl hp.1.1 hp.1.2 h0 (fun x hx => hb.same (hlt x (by simp [hx]))) (fun x hx => hsp x (by simp [hx]))

end

end Pv

namespace Pv
open Go Go.RowKit Go.WideShapes Go.ChangeShapes Go.ChangeAt

end Pv

namespace Pv
open Go Go.RowKit Go.WideShapes Go.ChangeShapes Go.ChangeAt

/-- Every string among cells is at most B long. -/
def smallV (B : Nat) (cs : List Value) : Prop := ∀ s, Value.string s ∈ cs → s.size ≤ B
def smallL (B : Nat) (ds : List DV) : Prop := ∀ s, DV.s s ∈ ds → s.size ≤ B

theorem smallV_nil (B : Nat) : smallV B [] := fun _ h => by simp at h

theorem tiles_small {P : Program} {pl : TypeId → Bool} {cs : List Value} {B : Nat} : ∀ (l : List Field) (o e : Nat), tiles P pl o l e = true → e = cs.length →
    (∀ f ∈ l, pl f.type = true → smallV B ((cs.drop f.offset).take (P.cellsOf f.type))) → smallV B (cs.drop o)
  | [], o, e, h, he, _ => by
    simp [tiles] at h
    subst h
    rw [he, List.drop_length]
    exact smallV_nil B
  | f :: r, o, e, h, he, hop => by
    simp only [tiles, Bool.and_eq_true, beq_iff_eq] at h
    obtain ⟨⟨rfl, hpl⟩, ht⟩ := h
    have h1 := tiles_small r _ e ht he (fun g hg => hop g (by simp [hg]))
    have h2 := hop f (by simp) hpl
    have e1 : cs.drop f.offset = (cs.drop f.offset).take (P.cellsOf f.type) ++ cs.drop (f.offset + P.cellsOf f.type) := by
      rw [← List.drop_drop, List.take_append_drop]
    intro s hs
    rw [e1] at hs
    rcases List.mem_append.1 hs with hs | hs
    · exact h2 s hs
    · exact h1 s hs

theorem row_small {z B : Nat} : ∀ (m : Nat) (cs : List Value), cs.length = m * z → (∀ i, i < m → smallV B ((cs.drop (i * z)).take z)) → smallV B cs
  | 0, cs, hl, _ => by
    have : cs = [] := List.eq_nil_of_length_eq_zero (by omega)
    subst this
    exact smallV_nil B
  | m + 1, cs, hl, hop => by
    have h1 := row_small (z := z) m (cs.drop z) (by rw [List.length_drop, hl, Nat.succ_mul]; omega) (fun i hi => by
      rw [List.drop_drop]
      have := hop (i + 1) (by omega)
      rw [Nat.succ_mul, Nat.add_comm] at this
      exact this)
    have h0 := hop 0 (by omega)
    simp only [Nat.zero_mul, List.drop_zero] at h0
    intro s hs
    rw [← List.take_append_drop z cs] at hs
    rcases List.mem_append.1 hs with hs | hs
    · exact h0 s hs
    · exact h1 s hs

theorem weights_mem_all {H : Type} {P : Program} {e : TypeId} : ∀ {ds : List (DataW H)} {j : Nat} {d : DataW H}, ds[j]? = some d → ∀ n ∈ d.weights P e, n ∈ DataW.weightsAll P e ds
  | d0 :: ds, 0, d, hd, n, hn => by
    simp only [List.getElem?_cons_zero, Option.some.injEq] at hd
    subst hd
    simp only [DataW.weightsAll, List.mem_append]
    exact Or.inl hn
  | d0 :: ds, j + 1, d, hd, n, hn => by
    simp only [List.getElem?_cons_succ] at hd
    simp only [DataW.weightsAll, List.mem_append]
    exact Or.inr (weights_mem_all hd n hn)
  | [], _, _, hd, _, _ => by simp at hd

section
variable {H : Type} {enc : TypeId × Value → H} {P : Program} {w : World} {base : Nat} {spare : Nat → Bool} {held : Bool}

theorem trod_small {B : Nat} : ∀ (n : Nat) {t : TypeId}, plain P n t = true → ∀ {fuel : Nat} {cs : List Value} {x : DataW H × List MemPlace}, DataW.trod enc P w base spare held fuel t cs = some x →
    (∀ m ∈ x.1.weights P t, m ≤ B) → smallV B cs
  | 0, t, hp, _, _, _, _, _ => by simp [plain] at hp
  | n + 1, t, hp, fuel, cs, x, hx, hw => by
    unfold plain at hp
    split at hp
    · rename_i ht
      obtain ⟨b, rfl, _⟩ := DataW.trod_bool ht hx
      intro s hs
      simp at hs
    · rename_i ht
      obtain ⟨s, rfl, rfl, hs⟩ := DataW.trod_string ht hx
      intro s' hs'
      simp only [List.mem_singleton, Value.string.injEq] at hs'
      subst hs'
      have := hw s'.data.toList.length (by simp [DataW.weights])
      simpa using this
    · rename_i k ht
      obtain ⟨i, rfl, _, _⟩ := DataW.trod_int ht hx
      intro s hs
      simp at hs
    · rename_i e ht
      rcases DataW.trod_slice ht hx with ⟨rfl, _⟩ | ⟨a, len, cap, elems, rest, m, _, rfl, _⟩
      · intro s hs
        simp at hs
      · intro s hs
        simp at hs
    · rename_i fs ht
      obtain ⟨xs, m, _, rfl, hl, hxl, hf⟩ := DataW.trod_struct ht hx
      have := tiles_small (P := P) (pl := plain P n) (B := B) (cs := cs) fs.toList 0 _ hp hl.symm (by
        intro f hfm hpf
        obtain ⟨i, hi⟩ := List.getElem?_of_mem hfm
        have hi' : fs[i]? = some f := by simpa using hi
        have hlt : i < fs.size := (Array.getElem?_eq_some_iff.1 hi').1
        have hxi : xs[i]? = some (xs[i]'(by omega)) := List.getElem?_eq_getElem (by omega)
        have h1 := hf i f hi'
        rw [hxi] at h1
        refine trod_small n hpf h1 fun q hq => hw q ?_
        simp only [DataW.weights, ht]
        exact DataW.weights_mem_each (j := i) (t := f.type) (by simp [hi']) (by rw [List.getElem?_map, hxi]; rfl) q hq)
      simpa using this
    · rename_i m e ht
      simp only [Bool.and_eq_true, beq_iff_eq] at hp
      obtain ⟨hc, hpe⟩ := hp
      obtain ⟨xs, m', _, rfl, hl, hxl, hf⟩ := DataW.trod_array ht hx
      refine row_small (z := P.cellsOf e) m cs (by rw [hl, hc]) fun i hi => ?_
      have hxi : xs[i]? = some (xs[i]'(by omega)) := List.getElem?_eq_getElem (by omega)
      have h1 := hf i hi
      rw [hxi] at h1
      refine trod_small n hpe h1 fun q hq => hw q ?_
      simp only [DataW.weights, ht]
      exact weights_mem_all (j := i) (by rw [List.getElem?_map, hxi]; rfl) q hq
    · simp at hp

theorem RDs_small {fx : Nat → Nat → Prop} {B : Nat} : ∀ {ds : List DV} {vs : List Value}, RDs fx w ds vs → smallV B vs → smallL B ds
  | [], _, _, _ => fun _ h => by simp at h
  | d :: ds, _, h, hs => by
    cases h with
    | cons h0 h1 =>
      intro s hm
      rcases List.mem_cons.1 hm with rfl | hm
      · cases h0
        exact hs s (by simp)
      · exact RDs_small h1 (fun s' h' => hs s' (by simp [h'])) s hm

theorem RD_small {fx : Nat → Nat → Prop} {B : Nat} {d : DV} {v : Value} (h : RD fx w d v) (hs : smallV B v.cells.toList) : smallL B d.cells := by
  cases h with
  | agg h _ => exact RDs_small h (by simpa [Value.cells] using hs)
  | s x => intro s hm; simp only [DV.cells, List.mem_singleton, DV.s.injEq] at hm; subst hm; exact hs s (by simp [Value.cells])
  | b x => intro s hm; simp [DV.cells] at hm
  | i k x => intro s hm; simp [DV.cells] at hm
  | nil a c => intro s hm; simp [DV.cells] at hm
  | sl _ _ _ _ _ => intro s hm; simp [DV.cells] at hm

/-- Of all arguments. -/
def ArgsSmall (B : Nat) (xs : List AV) : Prop := ∀ d, AV.d d ∈ xs → smallL B d.cells

theorem args_small {n B : Nat} : ∀ {ts : List TypeId} {vs : List Value} {ds : List (DataW H)} {ps : List MemPlace} {xs : List AV}, ts.all (plain P n) = true →
    DataW.TrodAll enc P w base spare held ts vs ds ps → (∀ m ∈ DataW.weightsEach P ts ds, m ≤ B) → RVs (gh0 w) w xs vs → ArgsSmall B xs
  | [], vs, ds, ps, xs, _, h, _, hx => by
    obtain ⟨rfl, rfl, _⟩ := trodAll_nil h
    cases hx
    intro d hd
    simp at hd
  | t :: r, vs, ds, ps, xs, hp, h, hw, hx => by
    obtain ⟨v, vs', d, ds', p, q, rfl, rfl, rfl, h0, h1⟩ := trodAll_cons h
    simp only [List.all_cons, Bool.and_eq_true] at hp
    cases hx with
    | cons hx0 hx1 =>
      have ih := args_small hp.2 h1 (fun m hm => hw m (by simp [DataW.weightsEach, hm])) hx1
      obtain ⟨fuel, hf⟩ := h0
      have hs := trod_small (B := B) n hp.1 hf (fun m hm => hw m (by simp [DataW.weightsEach, hm]))
      intro e he
      rcases List.mem_cons.1 he with rfl | he
      · cases hx0 with
        | d hd => exact RD_small hd hs
      · exact ih e he
end

/-- As 'contract_of'; the evaluation may use that no argument's string is longer than the form's own reach. -/
theorem contract_small {H : Type} {enc : TypeId × Value → H} {C : Checked} {f : FuncId} {F : Func} {s : ChangeSpec} {tb : TypeId} {T : FuncId → Option AFn} (n : Nat)
    (hC : CRel C.prog T) (hl : laidOutB C.prog = true) (hpl : F.params.toList.all (plain C.prog n) = true) (hrd : F.params.toList.all (fun t => C.prog.readableRec t && decide (t < C.prog.types.size)) = true)
    (hres : F.resultTypes = #[tb]) (htb : C.prog.underlying tb = some .bool) (hvars : s.vars = []) (tvs : List TypeId)
    (hs : ∀ (ds : List (DataW H)), ds.length = F.params.toList.length → s.fn H ds = { results := [.lit (.bool true)], args := ds })
    (hev : ∀ xs, ArgsOk C.prog n F.params.toList xs → ArgsSmall reachBytes xs → ∃ H', evF T f xs [] = some (.d (.b true), H'))
    (W : World) (base : Nat) (args : Array Value) (ds gs : List (DataW H)) (before : List MemPlace)
    (hval : ∀ (j : Nat) t v, F.params[j]? = some t → args[j]? = some v → Value.okWide C.prog W .any base t v)
    (hW : DataW.Whole enc C.prog F.params.toList s.vars false W args.toList ds gs before)
    (hwt : (DataW.weightsEach C.prog (F.params.toList ++ tvs) (ds ++ gs)).all (· ≤ reachBytes) = true) :
    Calls C.prog f args W fun e W' => ∃ v, e = .returned v ∧ s.post enc C.prog F false true false false W args v W' := by
  have hW' := hW
  obtain ⟨p, q, hA, hV, rfl, hfz, hnd⟩ := hW
  rw [hvars] at hV
  obtain ⟨rfl, rfl⟩ := trodVars_none hV
  obtain ⟨xs, hok, hxs, hlen⟩ := open_args hpl (fun j t v h1 h2 => hval j t v (by simpa using h1) (by simpa using h2)) hA
  have hsm : ArgsSmall reachBytes xs := args_small hpl hA (fun m hm => by
    obtain ⟨j, t, d, ht, hd, hm'⟩ : ∃ (j : Nat) (t : TypeId) (d : DataW H), F.params.toList[j]? = some t ∧ ds[j]? = some d ∧ m ∈ d.weights C.prog t := by
      clear hwt hval hW' hev hs hlen hnd hfz hV hok hxs hA hpl hrd
      revert hm
      generalize F.params.toList = ts
      intro hm
      induction ts generalizing ds with
      | nil => simp [DataW.weightsEach] at hm
      | cons t ts ih =>
        cases ds with
        | nil => simp [DataW.weightsEach] at hm
        | cons d ds =>
          simp only [DataW.weightsEach, List.mem_append] at hm
          rcases hm with hm | hm
          · exact ⟨0, t, d, rfl, rfl, hm⟩
          · obtain ⟨j, t', d', h1, h2, h3⟩ := ih ds hm
            exact ⟨j + 1, t', d', h1, h2, h3⟩
    have := List.all_eq_true.1 hwt m (DataW.weights_mem_each (j := j) (t := t) (d := d) (by rw [List.getElem?_append_left (List.getElem?_eq_some_iff.1 ht).1]; exact ht) (by rw [List.append_nil]; exact hd) m hm')
    simpa using this) hxs
  obtain ⟨H', he⟩ := hev xs hok hsm
  have hS := ((sound T hC).1 f xs [] _ he).2 (gh0 W) W args.toList hxs (RH.empty W)
  have e0 : args.toList.toArray = args := rfl
  rw [e0] at hS
  refine hS.mono fun e W' ⟨v, γ', he', hv, _, hstp⟩ => ?_
  have hb := hstp.below
  have hv' : v = .bool true := by
    cases hv with
    | d h => cases h; rfl
  subst hv'
  have hfn' : s.fn H (ds ++ []) = { results := [.lit (.bool true)], args := ds } := by rw [List.append_nil]; exact hs ds hlen
  have hold : ∀ x ∈ p ++ [], (fun b => decide (b < W.heap.size)) x.block = true := fun x hx => by simpa using hW'.lt x hx
  refine ⟨_, he', ds, [], p ++ [], [], p, [], hW', ?_, ?_, ?_, World.keptBut_mono (fun x hx => ⟨hx, ?_⟩) (hb.frame (· ∈ p ++ [])), fun h => by cases h⟩
  · rw [hfn', hres]
    exact trodAll_cons_mk (shut_bool htb true) rfl
  · rw [hfn']
    exact args_stay hl hb hrd hA (fun x hx => hW'.lt x (by simp [hx])) (fun x hx => hold x (by simp [hx]))
  · rw [hfn', hvars]
    rfl
  · rw [List.mem_append] at hx
    exact Or.inr hx
end Pv
