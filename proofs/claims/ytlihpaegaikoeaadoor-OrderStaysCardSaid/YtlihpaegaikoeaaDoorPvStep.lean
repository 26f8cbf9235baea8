/- The pure evaluator: objects from one on left aside; a call on objects among which it stands alone may be made among more. / The pure evaluator: one operation of a region, calls among them. -/
import Derived.Test.YtlihpaegaikoeaaDoorPvAct
set_option linter.all false
namespace Pv
open Go

/-- A function that can be called. -/
def Callable (P : Program) (f : FuncId) : Prop := ∃ F c, P.funcs[f]? = some F ∧ F.body = some c ∧ (F.name == "runtime.NumGoroutine") = false

/-- What a call answers, whatever the memory, as long as it holds these values. -/
def SRet (P : Program) (f : FuncId) (args : List AV) (H : Heap) (r : AV × Heap) : Prop :=
  Callable P f ∧ ∀ (γ : Gh) (w : World) (vs : List Value), RVs γ w args vs → RH γ w H →
    Calls P f vs.toArray w fun e w' => ∃ v γ', e = .returned v ∧ RV γ' w' r.1 v ∧ RH γ' w' r.2 ∧ Stp γ w γ' w'

def Gh.cut (γ : Gh) (n : Nat) : Gh := { fix := γ.fix, pl := fun o => if o < n then γ.pl o else .no }

section
variable {P : Program} {γ : Gh} {w : World} {n : Nat}

mutual
theorem RV.cut : ∀ (x : AV) {v : Value}, lt n x = true → RV γ w x v → RV (γ.cut n) w x v
  | .d y, v, _, .d h => .d h
  | .nilS, _, _, .nilS => .nilS
  | .z0, _, _, .z0 a => .z0 a
  | .e0 _, _, _, .e0t c => .e0t c
  | .e0 _, _, _, .e0f a c => .e0f a c
  | .view o g z off len, v, h, hv => by
    simp [lt] at h
    cases hv with
    | view hp hg hc hb hh => exact .view (by simp [Gh.cut, h]; exact hp) hg hc hb hh
  | .ptr o off, v, h, hv => by
    simp [lt] at h
    cases hv with
    | ptr hp => exact .ptr (by simp [Gh.cut, h]; exact hp)
  | .mp o, v, h, hv => by
    simp [lt] at h
    cases hv with
    | mp hp => exact .mp (by simp [Gh.cut, h]; exact hp)
  | .eptr cs, v, _, hv => by
    cases hv with
    | eptr h h1 hf => exact .eptr h h1 hf
  | .vptr o g z idx off, v, h, hv => by
    simp [lt] at h
    cases hv with
    | vptr hp hg hh => exact .vptr (by simp [Gh.cut, h]; exact hp) hg hh
  | .fn f a b, v, h, hv => by
    simp [lt] at h
    cases hv with
    | fn ha hb => exact .fn (RVs.cut a h.1 ha) (RVs.cut b h.2 hb)
  | .agg cs, v, h, hv => by
    simp [lt] at h
    cases hv with
    | agg hc h1 => exact .agg (RVs.cut cs h hc) h1
  | .tup cs, v, h, hv => by
    simp [lt] at h
    cases hv with
    | tup hc => exact .tup (RVs.cut cs h hc)
  | .one, _, _, .one v h => .one v h
  | .und, _, _, .und => .und
  | .junk, v, _, _ => .junk v
theorem RVs.cut : ∀ (xs : List AV) {vs : List Value}, lts n xs = true → RVs γ w xs vs → RVs (γ.cut n) w xs vs
  | [], _, _, .nil => .nil
  | x :: r, _, h, hv => by
    simp only [lts, Bool.and_eq_true] at h
    cases hv with
    | cons hx ht => exact .cons (RV.cut x h.1 hx) (RVs.cut r h.2 ht)
end

theorem lts_map_d : ∀ (ds : List DV), lts n (ds.map .d) = true
  | [] => rfl
  | d :: r => by simp [lts, lt, lts_map_d r]

theorem lts_cells {x : AV} (h : lt n x = true) : lts n x.cells = true := by
  cases x with
  | d d => cases d <;> first | exact lts_map_d _ | rfl
  | agg cs => simpa [AV.cells, lt] using h
  | _ => simp only [AV.cells, lts, h, Bool.and_self]

theorem RH.cut {H : Heap} (hH : RH γ w H) (hn : n ≤ H.length) (h : (H.take n).all (ltO n) = true) : RH (γ.cut n) w (H.take n) where
  ob o b hb := by
    rw [List.getElem?_take] at hb
    split at hb
    · rename_i hlt
      have hro := hH.ob o b hb
      have hp : (γ.cut n).pl o = γ.pl o := by simp [Gh.cut, hlt]
      rw [hp]
      have hltO : ltO n b = true := List.all_eq_true.1 h b (List.mem_of_getElem? (by rw [List.getElem?_take, if_pos hlt]; exact hb))
      generalize γ.pl o = p at hro
      cases p with
      | no => cases b <;> exact hro
      | box bk =>
        cases b with
        | box x =>
          obtain ⟨⟨vs, t, h1, h2, h3⟩, h4⟩ := hro
          exact ⟨⟨vs, t, h1, RVs.cut _ (lts_cells (by simpa [ltO] using hltO)) h2, h3⟩, h4⟩
        | arr es wr => exact hro
        | map k kvs => exact hro
        | hole => exact hro
      | map bk =>
        cases b with
        | map k kvs => exact hro
        | box x => exact hro
        | arr es wr => exact hro
        | hole => exact hro
      | arr u z hw =>
        cases b with
        | box x => exact hro
        | map k kvs => exact hro
        | hole => exact hro
        | arr es wr => exact ⟨hro.hw, hro.sz, hro.zp, hro.row, hro.mu, hro.im⟩
    · simp at hb
  out o ho := by
    simp at ho
    have : ¬ o < n := by omega
    simp [Gh.cut, this]
  inj i i' b h1 h2 := by
    have e : ∀ i, ((γ.cut n).pl i).own = some b → (γ.pl i).own = some b := by
      intro i hi
      simp only [Gh.cut] at hi
      split at hi
      · exact hi
      · simp [Pl.own] at hi
    exact hH.inj i i' b (e i h1) (e i' h2)
  fixb := hH.fixb

theorem Stp.cut {γ0 : Gh} {w0 : World} (hs : Stp γ0 w0 γ w) (h0 : ∀ o, n ≤ o → γ0.pl o = .no) : Stp γ0 w0 (γ.cut n) w where
  os := hs.os
  tape := hs.tape
  output := hs.output
  size := hs.size
  fix := hs.fix
  nfix := hs.nfix
  pl o := by
    by_cases ho : o < n
    · simp only [Gh.cut, if_pos ho]; exact hs.pl o
    · rw [h0 o (by omega)]; trivial
  other := hs.other
  own o b hb := by
    simp only [Gh.cut] at hb
    split at hb
    · exact hs.own o b hb
    · simp [Pl.own] at hb


/-- Objects more, that nobody of the call knows: they stay. -/
theorem SRet.frame {P : Program} {f : FuncId} {as : List AV} {H H' : Heap} {v : AV} (h : SRet P f as H (v, H')) (hl : H'.length = H.length) (ha : lts H.length as = true) (hH : H.all (ltO H.length) = true) (X : Heap) :
    SRet P f as (H ++ X) (v, H' ++ X) := by
  refine ⟨h.1, fun γ w vs hvs hR => ?_⟩
  have e1 : (H ++ X).take H.length = H := by simp
  have hc : RH (γ.cut H.length) w H := by
    have := RH.cut (n := H.length) hR (by simp) (by rw [e1]; exact hH)
    rwa [e1] at this
  have hvc : RVs (γ.cut H.length) w as vs := RVs.cut as ha hvs
  refine (h.2 (γ.cut H.length) w vs hvc hc).mono ?_
  rintro e w' ⟨u, γ2, rfl, hv, hH2, hs⟩
  have cutpl : ∀ o b, ((γ.cut H.length).pl o).own = some b → o < H.length ∧ (γ.pl o).own = some b := by
    intro o b hb
    simp only [Gh.cut] at hb
    split at hb
    · exact ⟨by assumption, hb⟩
    · simp [Pl.own] at hb
  have hnot : ∀ k b, H.length ≤ k → (γ.pl k).own = some b → b < w.heap.size ∧ ∀ o, ((γ.cut H.length).pl o).own ≠ some b := by
    intro k b hk hb
    refine ⟨hR.own_lt hb, fun o ho => ?_⟩
    obtain ⟨h1, h2⟩ := cutpl o b ho
    have := hR.inj o k b h2 hb
    omega
  let γ3 : Gh := { fix := γ2.fix, pl := fun o => if o < H.length then γ2.pl o else γ.pl o }
  have p3 : ∀ o, o < H.length → γ3.pl o = γ2.pl o := fun o ho => by simp [γ3, ho]
  have p3n : ∀ o, ¬ o < H.length → γ3.pl o = γ.pl o := fun o ho => by simp [γ3, ho]
  have x2 : Ext γ2 w' γ3 w' := ⟨fun b j hf => ⟨hf, rfl⟩, fun o => by
    by_cases ho : o < H.length
    · rw [p3 o ho]; exact .refl _
    · rw [hH2.out o (by show H'.length ≤ _; omega)]; trivial⟩
  have x0 : Ext γ w γ3 w' := ⟨hs.fix, fun o => by
    by_cases ho : o < H.length
    · rw [p3 o ho]
      have := hs.pl o
      simp only [Gh.cut, if_pos ho] at this
      exact this
    · rw [p3n o ho]; exact .refl _⟩
  refine ⟨u, γ3, rfl, hv.ext x2, ?_, ?_⟩
  · constructor
    · intro o b hb
      by_cases ho : o < H.length
      · rw [p3 o ho]
        rw [List.getElem?_append_left (by omega)] at hb
        exact RO.keepE x2 (fun _ _ => rfl) (fun _ _ _ hf => hf) (hH2.ob o b hb)
      · rw [p3n o ho]
        have hb' : (H ++ X)[o]? = some b := by
          rw [List.getElem?_append_right (by omega)] at hb ⊢
          rwa [hl] at hb
        exact RO.keepE x0 (fun b hb => hs.other b (hnot o b (by omega) hb).1 (hnot o b (by omega) hb).2) (fun b hb j hf => by
          rcases hs.nfix b j hf with h1 | ⟨o', h1⟩ | h1
          · exact h1
          · exact absurd h1 ((hnot o b (by omega) hb).2 o')
          · have := (hnot o b (by omega) hb).1; omega) (hR.ob o b hb')
    · intro o ho
      simp at ho
      rw [p3n o (by omega)]
      exact hR.out o (by simp; omega)
    · intro o o' b h1 h2
      have own2 : ∀ o, o < H.length → (γ3.pl o).own = some b → (γ2.pl o).own = some b := fun o ho h => by rwa [p3 o ho] at h
      have own0 : ∀ o, ¬ o < H.length → (γ3.pl o).own = some b → (γ.pl o).own = some b := fun o ho h => by rwa [p3n o ho] at h
      have clash : ∀ o k, ¬ k < H.length → (γ2.pl o).own = some b → (γ.pl k).own ≠ some b := by
        intro o k hk h3 h4
        rcases hs.own o b h3 with ⟨o'', h5⟩ | h5
        · exact (hnot k b (by omega) h4).2 o'' h5
        · have := (hnot k b (by omega) h4).1; omega
      by_cases ho : o < H.length
      · by_cases ho' : o' < H.length
        · exact hH2.inj o o' b (own2 o ho h1) (own2 o' ho' h2)
        · exact absurd (own0 o' ho' h2) (clash o o' ho' (own2 o ho h1))
      · by_cases ho' : o' < H.length
        · exact absurd (own0 o ho h1) (clash o' o ho (own2 o' ho' h2))
        · exact hR.inj o o' b (own0 o ho h1) (own0 o' ho' h2)
    · exact hH2.fixb
  · exact {
      os := hs.os
      tape := hs.tape
      output := hs.output
      size := hs.size
      fix := hs.fix
      nfix := fun b j hf => by
        rcases hs.nfix b j hf with h1 | ⟨o, h1⟩ | h1
        · exact .inl h1
        · exact .inr (.inl ⟨o, (cutpl o b h1).2⟩)
        · exact .inr (.inr h1)
      pl := x0.pl
      other := fun b hb hn => hs.other b hb fun o ho => hn o (cutpl o b ho).2
      own := fun o b hb => by
        by_cases ho : o < H.length
        · rw [p3 o ho] at hb
          rcases hs.own o b hb with ⟨o', h1⟩ | h1
          · exact .inl ⟨o', (cutpl o' b h1).2⟩
          · exact .inr h1
        · rw [p3n o ho] at hb
          exact .inl ⟨_, hb⟩ }

/-- How a call's own objects let its place be another one. -/
theorem SRet.loc {P : Program} {f : FuncId} {as : List AV} {H H' : Heap} {v : AV} (h : SRet P f as H (v, H')) : inpl H as H' = .keep H.length (sameH (H'.take H.length) H) ∨ (inpl H as H' = .loc H.length (sameH H' H) ∧ H'.length = H.length ∧ ∀ X, SRet P f as (H ++ X) (v, H' ++ X)) := by
  unfold inpl
  split
  · rename_i hc
    simp only [Bool.and_eq_true, beq_iff_eq] at hc
    exact .inr ⟨rfl, hc.1, h.frame hc.1 hc.2.1 hc.2.2⟩
  · exact .inl rfl
theorem SRet.loc' {P : Program} {f : FuncId} {as : List AV} {H H' : Heap} {v : AV} (h : SRet P f as H (v, H')) :
    (∃ s, inpl H as H' = .keep H.length s ∧ (s = true → H'.take H.length = H)) ∨ ∃ s A A' Y, inpl H as H' = .loc A.length s ∧ A'.length = A.length ∧ H = A ++ Y ∧ H' = A' ++ Y ∧ (s = true → A' = A) ∧ ∀ X, SRet P f as (A ++ X) (v, A' ++ X) := by
  rcases h.loc with h1 | ⟨h1, h2, h3⟩
  · exact .inl ⟨_, h1, sameH_eq⟩
  · exact .inr ⟨_, H, H', [], h1, h2, by simp, by simp, sameH_eq, h3⟩
end
end Pv

namespace Pv
open Go

/-- One operation, its guard met. -/
def StepR (P : Program) (o : AOper) (T : Tm) (H : Heap) (v : AV) (H' : Heap) (t : Tch) : Prop :=
  (∃ g args f as, o.op = .call g args ∧ callee T g args = some (f, as) ∧
    ((∃ ds H1 p, toDs H as = some (ds, H1) ∧ SRet P f (ds.map .d) [] p ∧ behind0 (frzAs as) (as.all isD) H1 p.2 p.1 = some (v, H', t)) ∨
     (SRet P f as H (v, H') ∧ ((∃ s, t = .keep H.length s ∧ (s = true → H'.take H.length = H)) ∨ ∃ s A A' Y, t = .loc A.length s ∧ A'.length = A.length ∧ H = A ++ Y ∧ H' = A' ++ Y ∧ (s = true → A' = A) ∧ ∀ X, SRet P f as (A ++ X) (v, A' ++ X)) ∧ H.length ≤ H'.length) ∨
     (∃ ds p k c, as.all isD = true ∧ toDs H as = some (ds, H) ∧ SRet P f (ds.map .d) [] p ∧ takeAt k p.2 p.1 = some (v, c) ∧ freeAt H k ∧ H' = putAt H k c ∧ t = .new k))) ∨
  ((∀ g args, o.op ≠ .call g args) ∧ ∃ e, act o.op T H = some (v, e, t) ∧ H' = e.on H) ∨
  (∃ k c, newAt o.op T k = some (v, c) ∧ freeAt H k ∧ H' = putAt H k c ∧ t = .new k)

inductive RunR (P : Program) : List AOper → Tm → Heap → List Tch → Tm × Heap × List Tch → Prop
  | nil {T H tl} : RunR P [] T H tl (T, H, tl)
  | skip {o r T H tl res} (hg : guardOk T o.guard = some false) (h : RunR P r (setT T o.dst .und) H (tl ++ [.none]) res) : RunR P (o :: r) T H tl res
  | step {o r T H tl v H' t res} (hg : guardOk T o.guard = some true) (hs : StepR P o T H v H' t) (h : RunR P r (setT T o.dst v) H' (tl ++ [t]) res) : RunR P (o :: r) T H tl res

/-- The state of a walk. -/
structure RS (γ : Gh) (w : World) (nt : Nat) (T : Tm) (H : Heap) (a : Act) : Prop where
  t : RT γ w T a
  h : RH γ w H
  n : a.tmps.size = nt
  d : a.defers = []

section
variable {P : Program} {γ : Gh} {w : World} {T : Tm} {a : Act} {H : Heap}

theorem RT.mono {γ' : Gh} {w' : World} (h : RT γ w T a) (hs : Stp γ w γ' w') : RT γ' w' T a := fun i => (h i).mono hs

theorem RT.set {v : AV} {v' : Value} (h : RT γ w T a) (hv : RV γ w v v') {dst : Option Nat} (hd : dstOk a.tmps.size dst = true) :
    RT γ w (setT T dst v) (a.put dst v') := by
  cases dst with
  | none => exact h
  | some d =>
    simp [dstOk] at hd
    intro i
    rw [setT_some, lk_cons]
    by_cases hi : i = d
    · subst hi
      rw [if_pos rfl]
      have : (a.put (some i) v').tmps.getD i undef = v' := by simp [Act.put, hd]
      rw [this]
      exact hv
    · rw [if_neg hi]
      have : (a.put (some d) v').tmps.getD i undef = a.tmps.getD i undef := by
        simp [Act.put, Array.getElem?_setIfInBounds_ne (Ne.symm hi)]
      rw [this]
      exact h i

theorem RS.set {nt : Nat} {v : AV} {v' : Value} {γ' : Gh} {w' : World} {H' : Heap} (h : RS γ w nt T H a) (hs : Stp γ w γ' w') (hv : RV γ' w' v v') (hH : RH γ' w' H') {dst : Option Nat} (hd : dstOk nt dst = true) :
    RS γ' w' nt (setT T dst v) H' (a.put dst v') := by
  refine ⟨(h.t.mono hs).set hv (by rw [h.n]; exact hd), hH, ?_, ?_⟩
  · cases dst <;> simp [Act.put, h.n]
  · cases dst <;> simp [Act.put, h.d]

theorem run_call {o : Oper} {c : Call} (ho : o.op = .call c) {g : Operand} (hc : c.callee = .value g) {f : FuncId} {first cap : Array Value} (hg : a.eval g = .func (.func f) first cap) (hf : Callable P f) :
    (execOp a.eval o).run P w = .ok (.enter f (first ++ c.args.map a.eval ++ cap)) w := by
  obtain ⟨F, b, h1, h2, h3⟩ := hf
  have h3' : ¬ (F.name = "runtime.NumGoroutine") := by simpa using h3
  simp [execOp, ho, resolve, hc, hg, Deferred.ofValue, invoke, callFunc, h1, h2, h3']

theorem call_step {o : Oper} {c : Call} (ho : o.op = .call c) {g : Operand} (hc : c.callee = .value g) {g' : Opn} {args' : List Opn} (hg : opn g = some g') (hargs : opns c.args.toList = some args') {nt : Nat} (hS : RS γ w nt T H a)
    {f : FuncId} {as : List AV} (hcl : callee T g' args' = some (f, as)) {v : AV} {H' : Heap} {t : Tch}
    (h : (∃ ds H1 p, toDs H as = some (ds, H1) ∧ SRet P f (ds.map .d) [] p ∧ behind0 (frzAs as) (as.all isD) H1 p.2 p.1 = some (v, H', t)) ∨ (SRet P f as H (v, H') ∧ ((∃ s, t = .keep H.length s ∧ (s = true → H'.take H.length = H)) ∨ ∃ s A A' Y, t = .loc A.length s ∧ A'.length = A.length ∧ H = A ++ Y ∧ H' = A' ++ Y ∧ (s = true → A' = A) ∧ ∀ X, SRet P f as (A ++ X) (v, A' ++ X)) ∧ H.length ≤ H'.length) ∨ (∃ ds p k c, as.all isD = true ∧ toDs H as = some (ds, H) ∧ SRet P f (ds.map .d) [] p ∧ takeAt k p.2 p.1 = some (v, c) ∧ freeAt H k ∧ H' = putAt H k c ∧ t = .new k))
    {K : Act → World → Prop} {Q : Exit → Act → World → Prop} (hK : ∀ v' w' γ', RV γ' w' v v' → RH γ' w' H' → Stp γ w γ' w' → K (a.put o.dst v') w') : o.wp P a w K Q := by
  have h1 := opn_sound hS.t hg
  have h2 := opns_sound hS.t hargs
  simp only [callee] at hcl
  split at hcl
  · rename_i f' first cap hev
    simp at hcl
    obtain ⟨rfl, rfl⟩ := hcl
    rw [hev] at h1
    generalize hvg : a.eval g = vg at h1
    cases h1 with
    | @fn _ _ _ fv cv ha hb =>
      have hall : RVs γ w (first ++ (args'.map (ev T) ++ cap)) (fv ++ (c.args.toList.map a.eval ++ cv)) := ha.append (h2.append hb)
      have harr : fv.toArray ++ c.args.map a.eval ++ cv.toArray = (fv ++ (c.args.toList.map a.eval ++ cv)).toArray := by
        apply Array.ext'
        simp
      have fin : Callable P f' → Calls P f' (fv ++ (c.args.toList.map a.eval ++ cv)).toArray w (fun e w' => ∃ v' γ', e = .returned v' ∧ RV γ' w' v v' ∧ RH γ' w' H' ∧ Stp γ w γ' w') → o.wp P a w K Q := by
        intro hcall hrun
        unfold Oper.wp
        rw [run_call ho hc hvg hcall, Oper.upon_enter, harr]
        refine hrun.mono ?_
        rintro e w' ⟨v', γ', rfl, hv, hH', hs⟩
        exact hK v' w' γ' hv hH' hs
      rcases h with ⟨ds, H1, p, htd, hsr, hbh⟩ | ⟨hsr, _⟩ | ⟨ds, p, k, c, _, htd, hsr, htk, hfk, rfl, _⟩
      · refine fin hsr.1 ?_
        obtain ⟨γ1, hds, hH1, hs1, hp1⟩ := toDs_sound _ hS.h hall htd
        have hno : RH ⟨γ1.fix, fun _ => .no⟩ w [] := ⟨by simp, fun _ _ => rfl, fun o o' b hb => by simp [Pl.own] at hb, hH1.fixb⟩
        refine (hsr.2 ⟨γ1.fix, fun _ => .no⟩ w _ (.of_d hds) hno).mono ?_
        rintro e w' ⟨v', γ2, rfl, hv, hH2, hs2⟩
        unfold behind0 at hbh
        split at hbh
        · rename_i y H3 had
          simp at hbh
          obtain ⟨rfl, rfl, _⟩ := hbh
          obtain ⟨γ', hv', hH', hs'⟩ := adoptR_sound hH1 hH2 hs2 hv had
          exact ⟨v', γ', rfl, hv', hH', hs1.trans hs'⟩
        · simp at hbh
      · exact fin hsr.1 (hsr.2 γ w _ hall hS.h)
      · refine fin hsr.1 ?_
        obtain ⟨γ1, hds, hH1, hs1, hp1⟩ := toDs_sound _ hS.h hall htd
        have hno : RH ⟨γ1.fix, fun _ => .no⟩ w [] := ⟨by simp, fun _ _ => rfl, fun o o' b hb => by simp [Pl.own] at hb, hH1.fixb⟩
        refine (hsr.2 ⟨γ1.fix, fun _ => .no⟩ w _ (.of_d hds) hno).mono ?_
        rintro e w' ⟨v', γ2, rfl, hv, hH2, hs2⟩
        obtain ⟨γ', hv', hH', hs'⟩ := takeAt_sound hH1 hH2 hs2 hv hfk htk
        exact ⟨v', γ', rfl, hv', hH', hs1.trans hs'⟩
  · simp at hcl

theorem compCall_value {c : Call} {g : Opn} {args : List Opn} (h : compCall P c = some (.call g args)) : ∃ g0, c.callee = .value g0 ∧ opn g0 = some g ∧ opns c.args.toList = some args := by
  unfold compCall at h
  split at h
  · rename_i g0 hc
    split at h
    · rename_i g' as' hg ha
      simp at h
      obtain ⟨rfl, rfl⟩ := h
      exact ⟨g0, hc, hg, ha⟩
    · simp at h
  all_goals (repeat' split at h) <;> simp at h

theorem compOp_call {op : Op} {g : Opn} {args : List Opn} (h : compOp P op = .call g args) : ∃ c, op = .call c ∧ compCall P c = some (.call g args) := by
  unfold compOp at h
  cases h1 : compOp1 P op with
  | none => simp [h1] at h
  | some ao =>
    simp [h1] at h
    subst h
    cases op <;> simp only [compOp1] at h1
    case call c => exact ⟨c, rfl, h1⟩
    case makeMap t r =>
      exfalso
      cases r <;> simp only [compOp1] at h1
      · split at h1
        · split at h1
          · simp at h1
          · simp at h1
        · simp at h1
      · simp at h1
    all_goals
      first
      | (simp at h1; done)
      | (exfalso; revert h1; simp [Option.map]; done)
      | (exfalso; (repeat' split at h1) <;> simp at h1; done)
      | (exfalso; simp only [Option.map_eq_some_iff] at h1; obtain ⟨_, _, h2⟩ := h1; simp at h2; done)

theorem step_sound {ops : Array Oper} {nt : Nat} {o : Oper} {ao : AOper} (hcomp : compOper P ops nt o = some ao) (hS : RS γ w nt T H a) {v : AV} {H' : Heap} {t : Tch} (h : StepR P ao T H v H' t)
    {K : Act → World → Prop} {Q : Exit → Act → World → Prop} (hK : ∀ v' w' γ', RS γ' w' nt (setT T ao.dst v) H' (a.put o.dst v') → Stp γ w γ' w' → K (a.put o.dst v') w') : o.wp P a w K Q := by
  unfold compOper at hcomp
  split at hcomp
  · rename_i gd hgd
    split at hcomp
    · rename_i hd
      simp at hcomp
      subst hcomp
      have hK' : ∀ v' w' γ', RV γ' w' v v' → RH γ' w' H' → Stp γ w γ' w' → K (a.put o.dst v') w' :=
        fun v' w' γ' hv hH hs => hK v' w' γ' (hS.set hs hv hH hd) hs
      rcases h with ⟨g, args, f, as, hop, hcl, h⟩ | ⟨hnc, e, hact, rfl⟩ | ⟨k, c, hn, hfk, rfl, rfl⟩
      · obtain ⟨c, hc1, hc2⟩ := compOp_call hop
        obtain ⟨g0, hc3, hg, ha⟩ := compCall_value hc2
        exact call_step hc1 hc3 hg ha hS hcl h hK'
      · simp only at hnc hact
        unfold compOp at hnc hact
        cases h1 : compOp1 P o.op with
        | none =>
          rw [h1] at hact
          simp [act] at hact
        | some op =>
          rw [h1] at hact hnc
          simp only [Option.getD_some] at hact hnc
          obtain ⟨v', w', γ', hrun, hv, hH, hs⟩ := act_sound h1 hnc hS.t hS.h hact
          unfold Oper.wp
          rcases hrun with hrun | ⟨hrun, rfl⟩
          · rw [hrun, Oper.upon_value]
            exact hK' v' w' γ' hv hH hs
          · rw [hrun, Oper.upon_skip]
            exact hK' undef w' γ' hv hH hs
      · simp only at hn
        unfold compOp at hn
        cases h1 : compOp1 P o.op with
        | none =>
          rw [h1] at hn
          simp [newAt] at hn
        | some op =>
          rw [h1] at hn
          simp only [Option.getD_some] at hn
          obtain ⟨v', w', γ', hrun, hv, hH, hs⟩ := newAt_sound h1 hS.t hS.h hfk hn
          unfold Oper.wp
          rcases hrun with hrun | ⟨hrun, rfl⟩
          · rw [hrun, Oper.upon_value]
            exact hK' v' w' γ' hv hH hs
          · rw [hrun, Oper.upon_skip]
            exact hK' undef w' γ' hv hH hs
    · simp at hcomp
  · simp at hcomp

end
end Pv
