/- The pure evaluator: no argument's string is longer than the form's own reach. -/
import Derived.Test.YtclambdgbphfkaaDoorPvCard
import Derived.SizedLaws
set_option linter.all false
namespace Pv
open Go Go.RowKit Go.WideShapes Go.ChangeShapes Go.ChangeAt

/-- Every string among cells is at most B long. -/
def smallV (B : Nat) (cs : List Value) : Prop := ∀ s, Value.string s ∈ cs → s.size ≤ B
def smallL (B : Nat) (ds : List DV) : Prop := ∀ s, DV.s s ∈ ds → s.size ≤ B

theorem smallV_nil (B : Nat) : smallV B [] := fun _ h => by simp at h

theorem tiles_small {P : Program} {pl : TypeId → Bool} {cs : List Value} {B : Nat} : ∀ (l : List Field) (o e : Nat), tiles P pl o l e = true → e = cs.length →
    (∀ f ∈ l, pl f.type = true → smallV B ((cs.drop f.offset).take (P.cellsOf f.type))) → smallV B (cs.drop o)
  | [], o, e, h, he, _ => by
    simp [tiles] at h
    subst h
    rw [he, List.drop_length]
    exact smallV_nil B
  | f :: r, o, e, h, he, hop => by
    simp only [tiles, Bool.and_eq_true, beq_iff_eq] at h
    obtain ⟨⟨rfl, hpl⟩, ht⟩ := h
    have h1 := tiles_small r _ e ht he (fun g hg => hop g (by simp [hg]))
    have h2 := hop f (by simp) hpl
    have e1 : cs.drop f.offset = (cs.drop f.offset).take (P.cellsOf f.type) ++ cs.drop (f.offset + P.cellsOf f.type) := by
      rw [← List.drop_drop, List.take_append_drop]
    intro s hs
    rw [e1] at hs
    rcases List.mem_append.1 hs with hs | hs
    · exact h2 s hs
    · exact h1 s hs

theorem row_small {z B : Nat} : ∀ (m : Nat) (cs : List Value), cs.length = m * z → (∀ i, i < m → smallV B ((cs.drop (i * z)).take z)) → smallV B cs
  | 0, cs, hl, _ => by
    have : cs = [] := List.eq_nil_of_length_eq_zero (by omega)
    subst this
    exact smallV_nil B
  | m + 1, cs, hl, hop => by
    have h1 := row_small (z := z) m (cs.drop z) (by rw [List.length_drop, hl, Nat.succ_mul]; omega) (fun i hi => by
      rw [List.drop_drop]
      have := hop (i + 1) (by omega)
      rw [Nat.succ_mul, Nat.add_comm] at this
      exact this)
    have h0 := hop 0 (by omega)
    simp only [Nat.zero_mul, List.drop_zero] at h0
    intro s hs
    rw [← List.take_append_drop z cs] at hs
    rcases List.mem_append.1 hs with hs | hs
    · exact h0 s hs
    · exact h1 s hs

theorem weights_mem_all {H : Type} {P : Program} {e : TypeId} : ∀ {ds : List (DataW H)} {j : Nat} {d : DataW H}, ds[j]? = some d → ∀ n ∈ d.weights P e, n ∈ DataW.weightsAll P e ds
  | d0 :: ds, 0, d, hd, n, hn => by
    simp only [List.getElem?_cons_zero, Option.some.injEq] at hd
    subst hd
    simp only [DataW.weightsAll, List.mem_append]
    exact Or.inl hn
  | d0 :: ds, j + 1, d, hd, n, hn => by
    simp only [List.getElem?_cons_succ] at hd
    simp only [DataW.weightsAll, List.mem_append]
    exact Or.inr (weights_mem_all hd n hn)
  | [], _, _, hd, _, _ => by simp at hd

section
variable {H : Type} {enc : TypeId × Value → H} {P : Program} {w : World} {base : Nat} {spare : Nat → Bool} {held : Bool}

theorem trod_small {B : Nat} : ∀ (n : Nat) {t : TypeId}, plain P n t = true → ∀ {fuel : Nat} {cs : List Value} {x : DataW H × List MemPlace}, DataW.trod enc P w base spare held fuel t cs = some x →
    (∀ m ∈ x.1.weights P t, m ≤ B) → smallV B cs
  | 0, t, hp, _, _, _, _, _ => by simp [plain] at hp
  | n + 1, t, hp, fuel, cs, x, hx, hw => by
    unfold plain at hp
    split at hp
    · rename_i ht
      obtain ⟨b, rfl, _⟩ := DataW.trod_bool ht hx
      intro s hs
      simp at hs
    · rename_i ht
      obtain ⟨s, rfl, rfl, hs⟩ := DataW.trod_string ht hx
      intro s' hs'
      simp only [List.mem_singleton, Value.string.injEq] at hs'
      subst hs'
      have := hw s'.data.toList.length (by simp [DataW.weights])
      simpa using this
    · rename_i k ht
      obtain ⟨i, rfl, _, _⟩ := DataW.trod_int ht hx
      intro s hs
      simp at hs
    · rename_i e ht
      rcases DataW.trod_slice ht hx with ⟨rfl, _⟩ | ⟨a, len, cap, elems, rest, m, _, rfl, _⟩
      · intro s hs
        simp at hs
      · intro s hs
        simp at hs
    · rename_i fs ht
      obtain ⟨xs, m, _, rfl, hl, hxl, hf⟩ := DataW.trod_struct ht hx
      have := tiles_small (P := P) (pl := plain P n) (B := B) (cs := cs) fs.toList 0 _ hp hl.symm (by
        intro f hfm hpf
        obtain ⟨i, hi⟩ := List.getElem?_of_mem hfm
        have hi' : fs[i]? = some f := by simpa using hi
        have hlt : i < fs.size := (Array.getElem?_eq_some_iff.1 hi').1
        have hxi : xs[i]? = some (xs[i]'(by omega)) := List.getElem?_eq_getElem (by omega)
        have h1 := hf i f hi'
        rw [hxi] at h1
        refine trod_small n hpf h1 fun q hq => hw q ?_
        simp only [DataW.weights, ht]
        exact DataW.weights_mem_each (j := i) (t := f.type) (by simp [hi']) (by rw [List.getElem?_map, hxi]; rfl) q hq)
      simpa using this
    · rename_i m e ht
      simp only [Bool.and_eq_true, beq_iff_eq] at hp
      obtain ⟨hc, hpe⟩ := hp
      obtain ⟨xs, m', _, rfl, hl, hxl, hf⟩ := DataW.trod_array ht hx
      refine row_small (z := P.cellsOf e) m cs (by rw [hl, hc]) fun i hi => ?_
      have hxi : xs[i]? = some (xs[i]'(by omega)) := List.getElem?_eq_getElem (by omega)
      have h1 := hf i hi
      rw [hxi] at h1
      refine trod_small n hpe h1 fun q hq => hw q ?_
      simp only [DataW.weights, ht]
      exact weights_mem_all (j := i) (by rw [List.getElem?_map, hxi]; rfl) q hq
    · simp at hp

theorem RDs_small {fx : Nat → Nat → Prop} {B : Nat} : ∀ {ds : List DV} {vs : List Value}, RDs fx w ds vs → smallV B vs → smallL B ds
  | [], _, _, _ => fun _ h => by simp at h
  | d :: ds, _, h, hs => by
    cases h with
    | cons h0 h1 =>
      intro s hm
      rcases List.mem_cons.1 hm with rfl | hm
      · cases h0
        exact hs s (by simp)
      · exact RDs_small h1 (fun s' h' => hs s' (by simp [h'])) s hm

theorem RD_small {fx : Nat → Nat → Prop} {B : Nat} {d : DV} {v : Value} (h : RD fx w d v) (hs : smallV B v.cells.toList) : smallL B d.cells := by
  cases h with
  | agg h _ => exact RDs_small h (by simpa [Value.cells] using hs)
  | s x => intro s hm; simp only [DV.cells, List.mem_singleton, DV.s.injEq] at hm; subst hm; exact hs s (by simp [Value.cells])
  | b x => intro s hm; simp [DV.cells] at hm
  | i k x => intro s hm; simp [DV.cells] at hm
  | nil a c => intro s hm; simp [DV.cells] at hm
  | sl _ _ _ _ _ => intro s hm; simp [DV.cells] at hm

/-- Of all arguments. -/
def ArgsSmall (B : Nat) (xs : List AV) : Prop := ∀ d, AV.d d ∈ xs → smallL B d.cells

theorem args_small {n B : Nat} : ∀ {ts : List TypeId} {vs : List Value} {ds : List (DataW H)} {ps : List MemPlace} {xs : List AV}, ts.all (plain P n) = true →
    DataW.TrodAll enc P w base spare held ts vs ds ps → (∀ m ∈ DataW.weightsEach P ts ds, m ≤ B) → RVs (gh0 w) w xs vs → ArgsSmall B xs
  | [], vs, ds, ps, xs, _, h, _, hx => by
    obtain ⟨rfl, rfl, _⟩ := trodAll_nil h
    cases hx
    intro d hd
    simp at hd
  | t :: r, vs, ds, ps, xs, hp, h, hw, hx => by
    obtain ⟨v, vs', d, ds', p, q, rfl, rfl, rfl, h0, h1⟩ := trodAll_cons h
    simp only [List.all_cons, Bool.and_eq_true] at hp
    cases hx with
    | cons hx0 hx1 =>
      have ih := args_small hp.2 h1 (fun m hm => hw m (by simp [DataW.weightsEach, hm])) hx1
      obtain ⟨fuel, hf⟩ := h0
      have hs := trod_small (B := B) n hp.1 hf (fun m hm => hw m (by simp [DataW.weightsEach, hm]))
      intro e he
      rcases List.mem_cons.1 he with rfl | he
      · cases hx0 with
        | d hd => exact RD_small hd hs
      · exact ih e he
end

/-- As 'contract_of'; the evaluation may use that no argument's string is longer than the form's own reach. -/
theorem contract_small {H : Type} {enc : TypeId × Value → H} {C : Checked} {f : FuncId} {F : Func} {s : ChangeSpec} {tb : TypeId} {T : FuncId → Option AFn} (n : Nat)
    (hC : CRel C.prog T) (hl : laidOutB C.prog = true) (hpl : F.params.toList.all (plain C.prog n) = true) (hrd : F.params.toList.all (fun t => C.prog.readableRec t && decide (t < C.prog.types.size)) = true)
    (hres : F.resultTypes = #[tb]) (htb : C.prog.underlying tb = some .bool) (hvars : s.vars = []) (tvs : List TypeId)
    (hs : ∀ (ds : List (DataW H)), ds.length = F.params.toList.length → s.fn H ds = { results := [.lit (.bool true)], args := ds })
    (hev : ∀ xs, ArgsOk C.prog n F.params.toList xs → ArgsSmall reachBytes xs → ∃ H', evF T f xs [] = some (.d (.b true), H'))
    (W : World) (base : Nat) (args : Array Value) (ds gs : List (DataW H)) (before : List MemPlace)
    (hval : ∀ (j : Nat) t v, F.params[j]? = some t → args[j]? = some v → Value.okWide C.prog W .any base t v)
    (hW : DataW.Whole enc C.prog F.params.toList s.vars false W args.toList ds gs before)
    (hwt : (DataW.weightsEach C.prog (F.params.toList ++ tvs) (ds ++ gs)).all (· ≤ reachBytes) = true) :
    Calls C.prog f args W fun e W' => ∃ v, e = .returned v ∧ s.post enc C.prog F false true false false W args v W' := by
  have hW' := hW
  obtain ⟨p, q, hA, hV, rfl, hfz, hnd⟩ := hW
  rw [hvars] at hV
  obtain ⟨rfl, rfl⟩ := trodVars_none hV
  obtain ⟨xs, hok, hxs, hlen⟩ := open_args hpl (fun j t v h1 h2 => hval j t v (by simpa using h1) (by simpa using h2)) hA
  have hsm : ArgsSmall reachBytes xs := args_small hpl hA (fun m hm => by
    obtain ⟨j, t, d, ht, hd, hm'⟩ : ∃ (j : Nat) (t : TypeId) (d : DataW H), F.params.toList[j]? = some t ∧ ds[j]? = some d ∧ m ∈ d.weights C.prog t := by
      clear hwt hval hW' hev hs hlen hnd hfz hV hok hxs hA hpl hrd
      revert hm
      generalize F.params.toList = ts
      intro hm
      induction ts generalizing ds with
      | nil => simp [DataW.weightsEach] at hm
      | cons t ts ih =>
        cases ds with
        | nil => simp [DataW.weightsEach] at hm
        | cons d ds =>
          simp only [DataW.weightsEach, List.mem_append] at hm
          rcases hm with hm | hm
          · exact ⟨0, t, d, rfl, rfl, hm⟩
          · obtain ⟨j, t', d', h1, h2, h3⟩ := ih ds hm
            exact ⟨j + 1, t', d', h1, h2, h3⟩
    have := List.all_eq_true.1 hwt m (DataW.weights_mem_each (j := j) (t := t) (d := d) (by rw [List.getElem?_append_left (List.getElem?_eq_some_iff.1 ht).1]; exact ht) (by rw [List.append_nil]; exact hd) m hm')
    simpa using this) hxs
  obtain ⟨H', he⟩ := hev xs hok hsm
  have hS := ((sound T hC).1 f xs [] _ he).2 (gh0 W) W args.toList hxs (RH.empty W)
  have e0 : args.toList.toArray = args := rfl
  rw [e0] at hS
  refine hS.mono fun e W' ⟨v, γ', he', hv, _, hstp⟩ => ?_
  have hb := hstp.below
  have hv' : v = .bool true := by
    cases hv with
    | d h => cases h; rfl
  subst hv'
  have hfn' : s.fn H (ds ++ []) = { results := [.lit (.bool true)], args := ds } := by rw [List.append_nil]; exact hs ds hlen
  have hold : ∀ x ∈ p ++ [], (fun b => decide (b < W.heap.size)) x.block = true := fun x hx => by simpa using hW'.lt x hx
  refine ⟨_, he', ds, [], p ++ [], [], p, [], hW', ?_, ?_, ?_, World.keptBut_mono (fun x hx => ⟨hx, ?_⟩) (hb.frame (· ∈ p ++ [])), fun h => by cases h⟩
  · rw [hfn', hres]
    exact trodAll_cons_mk (shut_bool htb true) rfl
  · rw [hfn']
    exact args_stay hl hb hrd hA (fun x hx => hW'.lt x (by simp [hx])) (fun x hx => hold x (by simp [hx]))
  · rw [hfn', hvars]
    rfl
  · rw [List.mem_append] at hx
    exact Or.inr hx
end Pv
