/- The pure evaluator: objects from one on left aside; a call on objects among which it stands alone may be made among more. -/
import Derived.Test.YtlihpaegaikoeaaDoorPvAct
set_option linter.all false
namespace Pv
open Go

/-- A function that can be called. -/
def Callable (P : Program) (f : FuncId) : Prop := ∃ F c, P.funcs[f]? = some F ∧ F.body = some c ∧ (F.name == "runtime.NumGoroutine") = false

/-- What a call answers, whatever the memory, as long as it holds these values. -/
def SRet (P : Program) (f : FuncId) (args : List AV) (H : Heap) (r : AV × Heap) : Prop :=
  Callable P f ∧ ∀ (γ : Gh) (w : World) (vs : List Value), RVs γ w args vs → RH γ w H →
    Calls P f vs.toArray w fun e w' => ∃ v γ', e = .returned v ∧ RV γ' w' r.1 v ∧ RH γ' w' r.2 ∧ Stp γ w γ' w'

def Gh.cut (γ : Gh) (n : Nat) : Gh := { fix := γ.fix, pl := fun o => if o < n then γ.pl o else .no }

section
variable {P : Program} {γ : Gh} {w : World} {n : Nat}

mutual
theorem RV.cut : ∀ (x : AV) {v : Value}, lt n x = true → RV γ w x v → RV (γ.cut n) w x v
  | .d y, v, _, .d h => .d h
  | .nilS, _, _, .nilS => .nilS
  | .z0, _, _, .z0 a => .z0 a
  | .e0 _, _, _, .e0t c => .e0t c
  | .e0 _, _, _, .e0f a c => .e0f a c
  | .view o g z off len, v, h, hv => by
    simp [lt] at h
    cases hv with
    | view hp hg hc hb hh => exact .view (by simp [Gh.cut, h]; exact hp) hg hc hb hh
  | .ptr o off, v, h, hv => by
    simp [lt] at h
    cases hv with
    | ptr hp => exact .ptr (by simp [Gh.cut, h]; exact hp)
  | .mp o, v, h, hv => by
    simp [lt] at h
    cases hv with
    | mp hp => exact .mp (by simp [Gh.cut, h]; exact hp)
  | .eptr cs, v, _, hv => by
    cases hv with
    | eptr h h1 hf => exact .eptr h h1 hf
  | .vptr o g z idx off, v, h, hv => by
    simp [lt] at h
    cases hv with
    | vptr hp hg hh => exact .vptr (by simp [Gh.cut, h]; exact hp) hg hh
  | .fn f a b, v, h, hv => by
    simp [lt] at h
    cases hv with
    | fn ha hb => exact .fn (RVs.cut a h.1 ha) (RVs.cut b h.2 hb)
  | .agg cs, v, h, hv => by
    simp [lt] at h
    cases hv with
    | agg hc h1 => exact .agg (RVs.cut cs h hc) h1
  | .tup cs, v, h, hv => by
    simp [lt] at h
    cases hv with
    | tup hc => exact .tup (RVs.cut cs h hc)
  | .one, _, _, .one v h => .one v h
  | .und, _, _, .und => .und
  | .junk, v, _, _ => .junk v
theorem RVs.cut : ∀ (xs : List AV) {vs : List Value}, lts n xs = true → RVs γ w xs vs → RVs (γ.cut n) w xs vs
  | [], _, _, .nil => .nil
  | x :: r, _, h, hv => by
    simp only [lts, Bool.and_eq_true] at h
    cases hv with
    | cons hx ht => exact .cons (RV.cut x h.1 hx) (RVs.cut r h.2 ht)
end

theorem lts_map_d : ∀ (ds : List DV), lts n (ds.map .d) = true
  | [] => rfl
  | d :: r => by simp [lts, lt, lts_map_d r]

theorem lts_cells {x : AV} (h : lt n x = true) : lts n x.cells = true := by
  cases x with
  | d d => cases d <;> first | exact lts_map_d _ | rfl
  | agg cs => simpa [AV.cells, lt] using h
  | _ => simp only [AV.cells, lts, h, Bool.and_self]

theorem RH.cut {H : Heap} (hH : RH γ w H) (hn : n ≤ H.length) (h : (H.take n).all (ltO n) = true) : RH (γ.cut n) w (H.take n) where
  ob o b hb := by
    rw [List.getElem?_take] at hb
    split at hb
    · rename_i hlt
      have hro := hH.ob o b hb
      have hp : (γ.cut n).pl o = γ.pl o := by simp [Gh.cut, hlt]
      rw [hp]
      have hltO : ltO n b = true := List.all_eq_true.1 h b (List.mem_of_getElem? (by rw [List.getElem?_take, if_pos hlt]; exact hb))
      generalize γ.pl o = p at hro
      cases p with
      | no => cases b <;> exact hro
      | box bk =>
        cases b with
        | box x =>
          obtain ⟨⟨vs, t, h1, h2, h3⟩, h4⟩ := hro
          exact ⟨⟨vs, t, h1, RVs.cut _ (lts_cells (by simpa [ltO] using hltO)) h2, h3⟩, h4⟩
        | arr es wr => exact hro
        | map k kvs => exact hro
        | hole => exact hro
      | map bk =>
        cases b with
        | map k kvs => exact hro
        | box x => exact hro
        | arr es wr => exact hro
        | hole => exact hro
      | arr u z hw =>
        cases b with
        | box x => exact hro
        | map k kvs => exact hro
        | hole => exact hro
        | arr es wr => exact ⟨hro.hw, hro.sz, hro.zp, hro.row, hro.mu, hro.im⟩
    · simp at hb
  out o ho := by
    simp at ho
    have : ¬ o < n := by omega
    simp [Gh.cut, this]
  inj i i' b h1 h2 := by
    have e : ∀ i, ((γ.cut n).pl i).own = some b → (γ.pl i).own = some b := by
      intro i hi
      simp only [Gh.cut] at hi
      split at hi
      · exact hi
      · simp [Pl.own] at hi
    exact hH.inj i i' b (e i h1) (e i' h2)
  fixb := hH.fixb

theorem Stp.cut {γ0 : Gh} {w0 : World} (hs : Stp γ0 w0 γ w) (h0 : ∀ o, n ≤ o → γ0.pl o = .no) : Stp γ0 w0 (γ.cut n) w where
  os := hs.os
  tape := hs.tape
  output := hs.output
  size := hs.size
  fix := hs.fix
  nfix := hs.nfix
  pl o := by
    by_cases ho : o < n
    · simp only [Gh.cut, if_pos ho]; exact hs.pl o
    · rw [h0 o (by omega)]; trivial
  other := hs.other
  own o b hb := by
    simp only [Gh.cut] at hb
    split at hb
    · exact hs.own o b hb
    · simp [Pl.own] at hb


/-- Objects more, that nobody of the call knows: they stay. -/
theorem SRet.frame {P : Program} {f : FuncId} {as : List AV} {H H' : Heap} {v : AV} (h : SRet P f as H (v, H')) (hl : H'.length = H.length) (ha : lts H.length as = true) (hH : H.all (ltO H.length) = true) (X : Heap) :
    SRet P f as (H ++ X) (v, H' ++ X) := by
  refine ⟨h.1, fun γ w vs hvs hR => ?_⟩
  have e1 : (H ++ X).take H.length = H := by simp
  have hc : RH (γ.cut H.length) w H := by
    have := RH.cut (n := H.length) hR (by simp) (by rw [e1]; exact hH)
    rwa [e1] at this
  have hvc : RVs (γ.cut H.length) w as vs := RVs.cut as ha hvs
  refine (h.2 (γ.cut H.length) w vs hvc hc).mono ?_
  rintro e w' ⟨u, γ2, rfl, hv, hH2, hs⟩
  have cutpl : ∀ o b, ((γ.cut H.length).pl o).own = some b → o < H.length ∧ (γ.pl o).own = some b := by
    intro o b hb
    simp only [Gh.cut] at hb
    split at hb
    · exact ⟨by assumption, hb⟩
    · simp [Pl.own] at hb
  have hnot : ∀ k b, H.length ≤ k → (γ.pl k).own = some b → b < w.heap.size ∧ ∀ o, ((γ.cut H.length).pl o).own ≠ some b := by
    intro k b hk hb
    refine ⟨hR.own_lt hb, fun o ho => ?_⟩
    obtain ⟨h1, h2⟩ := cutpl o b ho
    have := hR.inj o k b h2 hb
    omega
  let γ3 : Gh := { fix := γ2.fix, pl := fun o => if o < H.length then γ2.pl o else γ.pl o }
  have p3 : ∀ o, o < H.length → γ3.pl o = γ2.pl o := fun o ho => by simp [γ3, ho]
  have p3n : ∀ o, ¬ o < H.length → γ3.pl o = γ.pl o := fun o ho => by simp [γ3, ho]
  have x2 : Ext γ2 w' γ3 w' := ⟨fun b j hf => ⟨hf, rfl⟩, fun o => by
    by_cases ho : o < H.length
    · rw [p3 o ho]; exact .refl _
    · rw [hH2.out o (by show H'.length ≤ _; omega)]; trivial⟩
  have x0 : Ext γ w γ3 w' := ⟨hs.fix, fun o => by
    by_cases ho : o < H.length
    · rw [p3 o ho]
      have := hs.pl o
      simp only [Gh.cut, if_pos ho] at this
      exact this
    · rw [p3n o ho]; exact .refl _⟩
  refine ⟨u, γ3, rfl, hv.ext x2, ?_, ?_⟩
  · constructor
    · intro o b hb
      by_cases ho : o < H.length
      · rw [p3 o ho]
        rw [List.getElem?_append_left (by omega)] at hb
        exact RO.keepE x2 (fun _ _ => rfl) (fun _ _ _ hf => hf) (hH2.ob o b hb)
      · rw [p3n o ho]
        have hb' : (H ++ X)[o]? = some b := by
          rw [List.getElem?_append_right (by omega)] at hb ⊢
          rwa [hl] at hb
        exact RO.keepE x0 (fun b hb => hs.other b (hnot o b (by omega) hb).1 (hnot o b (by omega) hb).2) (fun b hb j hf => by
          rcases hs.nfix b j hf with h1 | ⟨o', h1⟩ | h1
          · exact h1
          · exact absurd h1 ((hnot o b (by omega) hb).2 o')
          · have := (hnot o b (by omega) hb).1; omega) (hR.ob o b hb')
    · intro o ho
      simp at ho
      rw [p3n o (by omega)]
      exact hR.out o (by simp; omega)
    · intro o o' b h1 h2
      have own2 : ∀ o, o < H.length → (γ3.pl o).own = some b → (γ2.pl o).own = some b := fun o ho h => by rwa [p3 o ho] at h
      have own0 : ∀ o, ¬ o < H.length → (γ3.pl o).own = some b → (γ.pl o).own = some b := fun o ho h => by rwa [p3n o ho] at h
      have clash : ∀ o k, ¬ k < H.length → (γ2.pl o).own = some b → (γ.pl k).own ≠ some b := by
        intro o k hk h3 h4
        rcases hs.own o b h3 with ⟨o'', h5⟩ | h5
        · exact (hnot k b (by omega) h4).2 o'' h5
        · have := (hnot k b (by omega) h4).1; omega
      by_cases ho : o < H.length
      · by_cases ho' : o' < H.length
        · exact hH2.inj o o' b (own2 o ho h1) (own2 o' ho' h2)
        · exact absurd (own0 o' ho' h2) (clash o o' ho' (own2 o ho h1))
      · by_cases ho' : o' < H.length
        · exact absurd (own0 o ho h1) (clash o' o ho (own2 o' ho' h2))
        · exact hR.inj o o' b (own0 o ho h1) (own0 o' ho' h2)
    · exact hH2.fixb
  · exact {
      os := hs.os
      tape := hs.tape
      output := hs.output
      size := hs.size
      fix := hs.fix
      nfix := fun b j hf => by
        rcases hs.nfix b j hf with h1 | ⟨o, h1⟩ | h1
        · exact .inl h1
        · exact .inr (.inl ⟨o, (cutpl o b h1).2⟩)
        · exact .inr (.inr h1)
      pl := x0.pl
      other := fun b hb hn => hs.other b hb fun o ho => hn o (cutpl o b ho).2
      own := fun o b hb => by
        by_cases ho : o < H.length
        · rw [p3 o ho] at hb
          rcases hs.own o b hb with ⟨o', h1⟩ | h1
          · exact .inl ⟨o', (cutpl o' b h1).2⟩
          · exact .inr h1
        · rw [p3n o ho] at hb
          exact .inl ⟨_, hb⟩ }

/-- How a call's own objects let its place be another one. -/
theorem SRet.loc {P : Program} {f : FuncId} {as : List AV} {H H' : Heap} {v : AV} (h : SRet P f as H (v, H')) : inpl H as H' = .keep H.length (sameH (H'.take H.length) H) ∨ (inpl H as H' = .loc H.length (sameH H' H) ∧ H'.length = H.length ∧ ∀ X, SRet P f as (H ++ X) (v, H' ++ X)) := by
  unfold inpl
  split
  · rename_i hc
    simp only [Bool.and_eq_true, beq_iff_eq] at hc
    exact .inr ⟨rfl, hc.1, h.frame hc.1 hc.2.1 hc.2.2⟩
  · exact .inl rfl
theorem SRet.loc' {P : Program} {f : FuncId} {as : List AV} {H H' : Heap} {v : AV} (h : SRet P f as H (v, H')) :
    (∃ s, inpl H as H' = .keep H.length s ∧ (s = true → H'.take H.length = H)) ∨ ∃ s A A' Y, inpl H as H' = .loc A.length s ∧ A'.length = A.length ∧ H = A ++ Y ∧ H' = A' ++ Y ∧ (s = true → A' = A) ∧ ∀ X, SRet P f as (A ++ X) (v, A' ++ X) := by
  rcases h.loc with h1 | ⟨h1, h2, h3⟩
  · exact .inl ⟨_, h1, sameH_eq⟩
  · exact .inr ⟨_, H, H', [], h1, h2, by simp, by simp, sameH_eq, h3⟩
end
end Pv
