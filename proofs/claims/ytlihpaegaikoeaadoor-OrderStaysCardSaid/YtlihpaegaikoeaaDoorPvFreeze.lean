/- The pure evaluator: values handed over as data; what a call of its own objects answers, taken over. -/
import Derived.Test.YtlihpaegaikoeaaDoorPvMap
set_option linter.all false
namespace Pv
open Go

section
variable {P : Program}

theorem freeze_view {γ : Gh} {w : World} {H : Heap} (hH : RH γ w H) {o g z off len : Nat} {v : Value} (hv : RV γ w (.view o g z off len) v) {es : List DV} {wr : Bool} (ho : H[o]? = some (.arr es wr)) (hg : es.length = g) :
    ∃ γ', RD γ'.fix w (.sl (subL es off len)) v ∧ RH γ' w (H.set o (.arr es false)) ∧ Stp γ w γ' w ∧ γ'.pl = γ.pl := by
  cases hv with
  | @view _ _ _ _ _ b cap u y g' hpl hgg hc hb hh =>
    have hro := hH.ob _ _ ho
    rw [hpl] at hro
    have hro : RArr γ w u y g' es wr := hro
    have hview := hh (by rw [hro.hw]; omega)
    have hzz := hview.zz
    subst hzz
    obtain ⟨vs, el, hr, hone, hrow⟩ := hro.row
    have hlt := (List.getElem?_eq_some_iff.1 ho).1
    let γ' : Gh := { fix := fun b j => γ.fix b j ∨ (u.ownBlock = some b ∧ j < es.length * y), pl := γ.pl }
    have hown : ∀ b, u.ownBlock = some b → (γ.pl o).own = some b := fun b hb => by rw [hpl]; exact hb
    have hst : Stp γ w γ' w := by
      refine ⟨rfl, rfl, rfl, Nat.le_refl _, fun b j hf => ⟨.inl hf, rfl⟩, ?_, fun _ => .refl _, fun _ _ _ => rfl, fun i b hb => .inl ⟨i, hb⟩⟩
      rintro b j (hf | ⟨hb, _⟩)
      · exact .inl hf
      · exact .inr (.inl ⟨o, hown b hb⟩)
    have hro' : RArr γ' w u y g' es false := by
      refine ⟨hro.hw, hro.sz, hro.zp, ⟨vs, el, hr.mono hst.fix, hone, hrow⟩, fun h => by simp at h, ?_⟩
      intro _ b hb j
      constructor
      · rintro (hf | ⟨_, hf⟩)
        · cases wr with
          | true => exact absurd hf (hro.mu rfl b hb j)
          | false => exact (hro.im rfl b hb j).1 hf
        · exact hf
      · intro hj; exact .inr ⟨hb, hj⟩
    refine ⟨γ', ?_, ?_, hst, rfl⟩
    · have hsl : (subL es off len).length = len := by
        have := hview.fit
        simp [subL]; omega
      by_cases h0 : len = 0
      · subst h0
        have : subL es off 0 = [] := List.eq_nil_of_length_eq_zero hsl
        rw [this]
        exact .nil _ _
      · obtain ⟨blk, hob, rfl⟩ := hview.sl _ _ _ rfl (by omega)
        obtain ⟨cap', cur, vs', el', rfl, hblk, hle, hm, hcs, htk, hr', hone'⟩ := hro.block hob
        have hvl := hr'.length
        rw [flat_length hro.sz] at hvl
        have hfit := hview.fit
        have hbd : (off + len) * y ≤ es.length * y := Nat.mul_le_mul_right _ (by omega)
        rw [Nat.add_mul] at hbd
        have hres : RD γ'.fix w (.sl (subL es off len)) (.slice (some ⟨blk, off * y, none⟩) (subL es off len).length cap) := by
         refine .sl (vs := (vs'.drop (off * y)).take (len * y)) (z := y) ?_ ((hone'.drop _).take _) ?_ (by rw [hsl]; exact hc) ?_
         · unfold subL
           rw [flat_take (fun e he => hro.sz e (List.mem_of_mem_drop he)), flat_drop hro.sz]
           exact ((hr'.mono hst.fix).drop _).take _
         · intro e he
           exact hro.sz e (List.mem_of_mem_drop (List.mem_of_mem_take he))
         · intro j v hj
           rw [List.getElem?_take] at hj
           split at hj
           · rename_i hjl
             refine ⟨.inr ⟨hob, by omega⟩, ?_⟩
             rw [cell_of_row w blk _ cur _ _ hblk]
             rw [List.getElem?_drop, ← htk, List.getElem?_take] at hj
             split at hj
             · simpa using hj
             · simp at hj
           · simp at hj
        rw [hsl] at hres
        exact hres
    · refine hH.set' hst hlt (fun _ _ => rfl) ?_ (fun b hb => .inl hb) ?_ (by show RO γ' w (γ.pl o) _; rw [hpl]; exact hro')
      · intro i hi b hb
        refine ⟨rfl, ?_⟩
        rintro j (hf | ⟨hb2, _⟩)
        · exact hf
        · exact absurd (hH.inj i o b hb (hown b hb2)) hi
      · rintro b j (hf | ⟨hb, _⟩)
        · exact hH.fixb b j hf
        · exact hH.own_lt (hown b hb)

mutual
theorem toD_sound : ∀ (x : AV) {γ : Gh} {w : World} {H : Heap} {v : Value} {d : DV} {H' : Heap}, RH γ w H → RV γ w x v → toD H x = some (d, H') →
    ∃ γ', RD γ'.fix w d v ∧ RH γ' w H' ∧ Stp γ w γ' w ∧ γ'.pl = γ.pl
  | .d y, γ, w, H, v, d, H', hH, hr, h => by
    simp [toD] at h
    obtain ⟨rfl, rfl⟩ := h
    cases hr with
    | d hr => exact ⟨γ, hr, hH, .refl _ _, rfl⟩
  | .nilS, γ, w, H, v, d, H', hH, hr, h => by
    simp [toD] at h
    obtain ⟨rfl, rfl⟩ := h
    cases hr
    exact ⟨γ, .nil _ _, hH, .refl _ _, rfl⟩
  | .z0, γ, w, H, v, d, H', hH, hr, h => by
    simp [toD] at h
    obtain ⟨rfl, rfl⟩ := h
    cases hr
    exact ⟨γ, .nil _ _, hH, .refl _ _, rfl⟩
  | .e0 b, γ, w, H, v, d, H', hH, hr, h => by
    simp [toD] at h
    obtain ⟨rfl, rfl⟩ := h
    cases hr <;> exact ⟨γ, .nil _ _, hH, .refl _ _, rfl⟩
  | .view o g z off len, γ, w, H, v, d, H', hH, hr, h => by
    simp only [toD] at h
    split at h
    · rename_i es wr ho
      split at h
      · rename_i hg
        simp at h
        obtain ⟨rfl, rfl⟩ := h
        exact freeze_view hH hr ho hg
      · simp at h
    · simp at h
  | .agg cs, γ, w, H, v, d, H', hH, hr, h => by
    simp only [toD] at h
    split at h
    · rename_i ds H2 hds
      simp at h
      obtain ⟨rfl, rfl⟩ := h
      cases hr with
      | agg hr h1 =>
        obtain ⟨γ', h2, h3, h4, h5⟩ := toDs_sound cs hH hr hds
        exact ⟨γ', .agg h2 h1, h3, h4, h5⟩
    · simp at h
  | .ptr _ _, _, _, _, _, _, _, _, _, h => by simp [toD] at h
  | .mp _, _, _, _, _, _, _, _, _, h => by simp [toD] at h
  | .eptr _, _, _, _, _, _, _, _, _, h => by simp [toD] at h
  | .vptr _ _ _ _ _, _, _, _, _, _, _, _, _, h => by simp [toD] at h
  | .fn _ _ _, _, _, _, _, _, _, _, _, h => by simp [toD] at h
  | .tup _, _, _, _, _, _, _, _, _, h => by simp [toD] at h
  | .one, _, _, _, _, _, _, _, _, h => by simp [toD] at h
  | .junk, _, _, _, _, _, _, _, _, h => by simp [toD] at h
  | .und, _, _, _, _, _, _, _, _, h => by simp [toD] at h
theorem toDs_sound : ∀ (xs : List AV) {γ : Gh} {w : World} {H : Heap} {vs : List Value} {ds : List DV} {H' : Heap}, RH γ w H → RVs γ w xs vs → toDs H xs = some (ds, H') →
    ∃ γ', RDs γ'.fix w ds vs ∧ RH γ' w H' ∧ Stp γ w γ' w ∧ γ'.pl = γ.pl
  | [], γ, w, H, vs, ds, H', hH, hr, h => by
    simp [toDs] at h
    obtain ⟨rfl, rfl⟩ := h
    cases hr
    exact ⟨γ, .nil, hH, .refl _ _, rfl⟩
  | x :: r, γ, w, H, vs, ds, H', hH, hr, h => by
    cases hr with
    | cons hx ht =>
      simp only [toDs] at h
      split at h
      · rename_i y H1 h1
        obtain ⟨γ1, hy, hH1, hs1, hp1⟩ := toD_sound x hH hx h1
        split at h
        · rename_i ys H2 h2
          simp at h
          obtain ⟨rfl, rfl⟩ := h
          obtain ⟨γ2, hys, hH2, hs2, hp2⟩ := toDs_sound r hH1 (ht.mono hs1) h2
          exact ⟨γ2, .cons (hy.mono hs2.fix) hys, hH2, hs1.trans hs2, hp2.trans hp1⟩
        · simp at h
      · simp at h
end

/-! taking over what a call of its own objects answers -/

/-- While results are taken over: γ0, w0: the caller ahead of the call; γ2, w: the callee's end; 'used': the callee's objects that were taken. -/
structure Adopting (γ0 : Gh) (w0 : World) (γ2 : Gh) (w : World) (used : List Nat) (γ : Gh) (H : Heap) : Prop where
  hp : RH γ w H
  st : Stp γ0 w0 γ w
  fix : γ.fix = γ2.fix
  own : ∀ i b, (γ.pl i).own = some b → (γ0.pl i).own = some b ∨ ∃ o, o ∈ used ∧ (γ2.pl o).own = some b

theorem adopt_start {γ0 : Gh} {w0 : World} {H : Heap} (hH : RH γ0 w0 H) {γ2 : Gh} {w : World} (hst : Stp ⟨γ0.fix, fun _ => .no⟩ w0 γ2 w) (hfb : ∀ b j, γ2.fix b j → b < w.heap.size) : Adopting γ0 w0 γ2 w [] ⟨γ2.fix, γ0.pl⟩ H := by
  have hno : ∀ b (o : Nat), ((fun _ => Pl.no : Nat → Pl) o).own ≠ some b := fun b o => by simp [Pl.own]
  have hs : Stp γ0 w0 ⟨γ2.fix, γ0.pl⟩ w := by
    refine ⟨hst.os, hst.tape, hst.output, hst.size, hst.fix, ?_, fun _ => .refl _, fun b hb _ => hst.other b hb (hno b), fun i b hb => .inl ⟨i, hb⟩⟩
    intro b j hf
    rcases hst.nfix b j hf with h | ⟨o, h⟩ | h
    · exact .inl h
    · exact absurd h (hno b o)
    · exact .inr (.inr h)
  refine ⟨⟨?_, hH.out, hH.inj, ?_⟩, hs, rfl, fun i b hb => .inl hb⟩
  · intro o b hb
    refine (hH.ob o b hb).keep hs ?_ ?_
    · intro b' hb'
      exact hst.other b' (hH.own_lt hb') (hno b')
    · intro b' hb' j hj
      rcases hst.nfix b' j hj with h | ⟨o', h⟩ | h
      · exact h
      · exact absurd h (hno b' o')
      · have := hH.own_lt hb'; omega
  · exact hfb

/-- One result taken. -/
theorem adopt_one {γ0 : Gh} {w0 : World} {γ2 : Gh} {w : World} {used : List Nat} {γ : Gh} {H H2 : Heap} (hA : Adopting γ0 w0 γ2 w used γ H) (hH0 : ∀ o, H.length ≤ o → γ0.pl o = .no) (hlt0 : ∀ i b, (γ0.pl i).own = some b → b < w0.heap.size) (h2 : RH γ2 w H2) (hst : Stp ⟨γ0.fix, fun _ => .no⟩ w0 γ2 w)
    {x : AV} {v : Value} (hv : RV γ2 w x v) {y : AV} {H' : Heap} (h : adopt H H2 x = some (y, H')) (hd : ∀ o, o ∈ refsV x → o ∉ used) :
    ∃ γ', Adopting γ0 w0 γ2 w (refsV x ++ used) γ' H' ∧ RV γ' w y v ∧ Ext γ w γ' w ∧ (∀ o, H'.length ≤ o → γ0.pl o = .no) ∧ H.length ≤ H'.length := by
  cases x with
  | d d =>
    simp [adopt] at h
    obtain ⟨rfl, rfl⟩ := h
    cases hv with
    | d hv => exact ⟨γ, by simpa [refsV] using hA, .d (by rw [hA.fix]; exact hv), (Stp.refl _ _).ext, hH0, Nat.le_refl _⟩
  | nilS =>
    simp [adopt] at h
    obtain ⟨rfl, rfl⟩ := h
    cases hv
    exact ⟨γ, by simpa [refsV] using hA, .nilS, (Stp.refl _ _).ext, hH0, Nat.le_refl _⟩
  | z0 =>
    simp [adopt] at h
    obtain ⟨rfl, rfl⟩ := h
    cases hv
    exact ⟨γ, by simpa [refsV] using hA, .z0 _, (Stp.refl _ _).ext, hH0, Nat.le_refl _⟩
  | fn f a b =>
    cases a <;> cases b <;> simp [adopt] at h
    obtain ⟨rfl, rfl⟩ := h
    cases hv with
    | fn ha hb =>
      cases ha
      cases hb
      exact ⟨γ, by simpa [refsV] using hA, .fn .nil .nil, (Stp.refl _ _).ext, hH0, Nat.le_refl _⟩
  | view o g z off len =>
    simp only [adopt] at h
    split at h
    · rename_i es wr ho
      split at h
      · rename_i hcond
        obtain ⟨hg, rfl, hle, hor⟩ := hcond
        simp at h
        obtain ⟨rfl, rfl⟩ := h
        cases hv with
        | @view _ _ _ _ _ b cap u yy g' hpl hgg hc hb hh =>
          have hro := h2.ob _ _ ho
          rw [hpl] at hro
          have hro : RArr γ2 w u yy g' es wr := hro
          have hview := hh (by rw [hro.hw]; omega)
          have hzz := hview.zz
          subst hzz
          have hval := hview.head rfl
          obtain ⟨vs, el, hr, hone, hrow⟩ := hro.row
          have hbown : ∀ b', (Value.slice b len cap).ownBlock = some b' → u.ownBlock = some b' := by
            intro b' hb'
            rcases hrow.2 with ⟨rfl, _⟩ | ⟨gb, cap', cur, rfl, _⟩
            · simp [withLen] at hval
              rw [hval.1] at hb'
              simp [Value.ownBlock] at hb'
            · simp [withLen] at hval
              rw [hval.1] at hb'
              simpa [Value.ownBlock] using hb'
          have hcown : ∀ b', (Value.slice b len cap).ownBlock = some b' → (γ2.pl o).own = some b' := fun b' hb' => by rw [hpl]; exact hbown b' hb'
          have hnew : ∀ b', (Value.slice b len cap).ownBlock = some b' → w0.heap.size ≤ b' := by
            intro b' hb'
            rcases hst.own o b' (hcown b' hb') with ⟨o', h⟩ | h
            · simp [Pl.own] at h
            · exact h
          let p : Pl := .arr (.slice b len cap) yy len
          have hpown : ∀ b', p.own = some b' ↔ (Value.slice b len cap).ownBlock = some b' := fun _ => Iff.rfl
          have hout := hA.hp.out _ (Nat.le_refl _)
          have hs1 : Ext γ w (γ.put H.length p) w := Ext.put hA.hp p
          have hro' : RArr (γ.put H.length p) w (.slice b len cap) yy len (es.take len) wr := by
            have hlen : (es.take len).length = len := by simp; omega
            have hfl := flat_length hro.sz
            have hvl : vs.length = es.length * yy := hrow.1
            have hml : len * yy ≤ es.length * yy := Nat.mul_le_mul_right _ (by omega)
            refine ⟨hlen.symm, fun x hx => hro.sz x (List.mem_of_mem_take hx), hro.zp, ⟨vs.take (len * yy), el, ?_, hone.take _, ?_⟩, ?_, ?_⟩
            · rw [flat_take hro.sz]
              show RDs γ.fix w _ _
              rw [hA.fix]
              exact hr.take _
            · rw [hlen]
              refine ⟨by simp; omega, ?_⟩
              rcases hrow.2 with ⟨rfl, h0⟩ | ⟨gb, cap', cur, rfl, h1, h2, h3, h4, h5, h6⟩
              · simp [withLen] at hval
                obtain ⟨rfl, rfl⟩ := hval
                have : len = 0 := by omega
                subst this
                exact .inl ⟨rfl, rfl⟩
              · simp [withLen] at hval
                obtain ⟨rfl, rfl⟩ := hval
                refine .inr ⟨gb, cap, cur, rfl, h1, h2, hc, h4, h5, ?_⟩
                rw [← h6, List.take_take, Nat.min_eq_left hml]
            · intro hw b' hb' j hj
              have hj : γ.fix b' j := hj
              rw [hA.fix] at hj
              exact hro.mu hw b' (hbown b' hb') j hj
            · intro hw b' hb' j
              have hlg : len = g := by
                rcases hor with h | h
                · exact h
                · rw [hw] at h; simp at h
              have := hro.im hw b' (hbown b' hb') j
              show γ.fix b' j ↔ _
              rw [hA.fix, this, hlen, hg, hlg]
          have hA' : Adopting γ0 w0 γ2 w ([o] ++ used) (γ.put H.length p) (H ++ [.arr (es.take len) wr]) := by
            refine ⟨hA.hp.push' ?_ hro', ?_, hA.fix, ?_⟩
            · intro b' hb' i hi
              rcases hA.own i b' hi with h3 | ⟨o', ho', h3⟩
              · have h4 := hnew b' hb'
                have h5 : (γ0.pl i).own = some b' := h3
                have : b' < w0.heap.size := hlt0 i b' h5
                omega
              · have := h2.inj o' o b' h3 (hcown b' hb')
                subst this
                exact hd o' (by simp [refsV]) ho'
            · have h6 := hA.st
              refine ⟨h6.os, h6.tape, h6.output, h6.size, h6.fix, h6.nfix, ?_, h6.other, ?_⟩
              · intro i
                by_cases hi : i = H.length
                · subst hi
                  rw [hH0 _ (Nat.le_refl _)]
                  trivial
                · rw [γ.put_ne p hi]; exact h6.pl i
              · intro i b' hb'
                by_cases hi : i = H.length
                · subst hi
                  rw [γ.put_same] at hb'
                  exact .inr (hnew b' hb')
                · rw [γ.put_ne p hi] at hb'
                  exact h6.own i b' hb'
            · intro i b' hb'
              by_cases hi : i = H.length
              · subst hi
                rw [γ.put_same] at hb'
                exact .inr ⟨o, by simp, hcown b' hb'⟩
              · rw [γ.put_ne p hi] at hb'
                rcases hA.own i b' hb' with h3 | ⟨o', ho', h3⟩
                · exact .inl h3
                · exact .inr ⟨o', by simp [ho'], h3⟩
          refine ⟨γ.put H.length p, hA', ?_, hs1, ?_, by simp⟩
          · exact RV.full (γ.put_same _ _) hro'
          · intro i hi
            simp at hi
            exact hH0 i (by omega)
      · simp at h
    · simp at h
  | _ => simp [adopt] at h


theorem adopt_all {γ0 : Gh} {w0 : World} {γ2 : Gh} {w : World} {H2 : Heap} (h2 : RH γ2 w H2) (hst : Stp ⟨γ0.fix, fun _ => .no⟩ w0 γ2 w) (hlt0 : ∀ i b, (γ0.pl i).own = some b → b < w0.heap.size) :
    ∀ {xs : List AV} {vs : List Value} {used : List Nat} {γ : Gh} {H : Heap} {ys : List AV} {H' : Heap}, Adopting γ0 w0 γ2 w used γ H → (∀ o, H.length ≤ o → γ0.pl o = .no) → RVs γ2 w xs vs → adopts H H2 xs = some (ys, H') →
      nodup (xs.flatMap refsV) = true → (∀ o, o ∈ xs.flatMap refsV → o ∉ used) → ∃ γ' used', Adopting γ0 w0 γ2 w used' γ' H' ∧ RVs γ' w ys vs ∧ Ext γ w γ' w
  | [], _, used, γ, H, ys, H', hA, hH0, hr, h, hn, hu => by
    simp [adopts] at h
    obtain ⟨rfl, rfl⟩ := h
    cases hr
    exact ⟨γ, used, hA, .nil, (Stp.refl _ _).ext⟩
  | x :: r, _, used, γ, H, ys, H', hA, hH0, hr, h, hn, hu => by
    cases hr with
    | cons hx ht =>
      simp only [adopts] at h
      split at h
      · rename_i y H1 h1
        split at h
        · rename_i ys' H3 h3
          simp at h
          obtain ⟨rfl, rfl⟩ := h
          obtain ⟨γ1, hA1, hy, hs1, hH1, _⟩ := adopt_one hA hH0 hlt0 h2 hst hx h1 (fun o ho => hu o (by simp [ho]))
          have hnd : nodup (r.flatMap refsV) = true ∧ ∀ o, o ∈ r.flatMap refsV → o ∉ refsV x := by
            cases x with
            | view o g z off len =>
              simp [refsV, nodup] at hn ⊢
              exact ⟨hn.2, fun o' y hy ho' he => hn.1 y hy (he ▸ ho')⟩
            | _ => simpa [refsV] using hn
          obtain ⟨γ3, used3, hA3, hys, hs3⟩ := adopt_all h2 hst hlt0 hA1 hH1 ht h3 hnd.1 (fun o ho hmem => by
            rcases List.mem_append.1 hmem with hm | hm
            · exact hnd.2 o ho hm
            · exact hu o (by simp at ho ⊢; exact .inr ho) hm)
          refine ⟨γ3, used3, hA3, .cons (hy.ext hs3) hys, ⟨fun b j hf => ⟨(hs3.fix b j (hs1.fix b j hf).1).1, ((hs3.fix b j (hs1.fix b j hf).1).2).trans (hs1.fix b j hf).2⟩, fun o => (hs1.pl o).trans (hs3.pl o)⟩⟩
        · simp at h
      · simp at h

/-- What a call of its own objects answers, taken over. -/
theorem adoptR_sound {γ0 : Gh} {w0 : World} {H : Heap} (hH : RH γ0 w0 H) {γ2 : Gh} {w : World} {H2 : Heap} (h2 : RH γ2 w H2) (hst : Stp ⟨γ0.fix, fun _ => .no⟩ w0 γ2 w)
    {x : AV} {v : Value} (hv : RV γ2 w x v) {y : AV} {H' : Heap} (h : adoptR H H2 x = some (y, H')) : ∃ γ', RV γ' w y v ∧ RH γ' w H' ∧ Stp γ0 w0 γ' w := by
  have hA := adopt_start hH hst h2.fixb
  have hlt0 : ∀ i b, (γ0.pl i).own = some b → b < w0.heap.size := fun i b hb => hH.own_lt hb
  have one : ∀ x, RV γ2 w x v → adopt H H2 x = some (y, H') → ∃ γ', RV γ' w y v ∧ RH γ' w H' ∧ Stp γ0 w0 γ' w := by
    intro x hv h
    obtain ⟨γ', hA', hy, _⟩ := adopt_one hA hH.out hlt0 h2 hst hv h (by simp)
    exact ⟨γ', hy, hA'.hp, hA'.st⟩
  cases x with
  | tup vs =>
    simp only [adoptR] at h
    split at h
    · rename_i hn
      split at h
      · rename_i ys H3 h3
        simp at h
        obtain ⟨rfl, rfl⟩ := h
        cases hv with
        | tup hv =>
          obtain ⟨γ', used', hA', hys, _⟩ := adopt_all h2 hst hlt0 hA hH.out hv h3 hn (by simp)
          exact ⟨γ', .tup hys, hA'.hp, hA'.st⟩
      · simp at h
    · simp at h
  | _ => exact one _ hv h

/-- An array that a call of data alone answers, laid at a free place. -/
theorem takeAt_sound {γ0 : Gh} {w0 : World} {H : Heap} (hH : RH γ0 w0 H) {γ2 : Gh} {w : World} {H2 : Heap} (h2 : RH γ2 w H2) (hst : Stp ⟨γ0.fix, fun _ => .no⟩ w0 γ2 w)
    {x : AV} {v : Value} (hv : RV γ2 w x v) {k : Nat} (hk : freeAt H k) {y : AV} {c : Ob} (h : takeAt k H2 x = some (y, c)) : ∃ γ', RV γ' w y v ∧ RH γ' w (putAt H k c) ∧ Stp γ0 w0 γ' w := by
  have hA := adopt_start hH hst h2.fixb
  have hlt0 : ∀ i b, (γ0.pl i).own = some b → b < w0.heap.size := fun i b hb => hH.own_lt hb
  have hno : γ0.pl k = .no := hk.no hH
  generalize hγ : (⟨γ2.fix, γ0.pl⟩ : Gh) = γ at hA
  unfold takeAt at h
  split at h
  · rename_i o g z off len
    split at h
    · rename_i es wr ho
      split at h
      · rename_i hcond
        obtain ⟨hg, rfl, hle, hor⟩ := hcond
        simp only [Option.some.injEq, Prod.mk.injEq] at h
        obtain ⟨rfl, rfl⟩ := h
        cases hv with
        | @view _ _ _ _ _ b cap u yy g' hpl hgg hc hb hh =>
          have hro := h2.ob _ _ ho
          rw [hpl] at hro
          have hro : RArr γ2 w u yy g' es wr := hro
          have hview := hh (by rw [hro.hw]; omega)
          have hzz := hview.zz
          subst hzz
          have hval := hview.head rfl
          obtain ⟨vs, el, hr, hone, hrow⟩ := hro.row
          have hbown : ∀ b', (Value.slice b len cap).ownBlock = some b' → u.ownBlock = some b' := by
            intro b' hb'
            rcases hrow.2 with ⟨rfl, _⟩ | ⟨gb, cap', cur, rfl, _⟩
            · simp [withLen] at hval
              rw [hval.1] at hb'
              simp [Value.ownBlock] at hb'
            · simp [withLen] at hval
              rw [hval.1] at hb'
              simpa [Value.ownBlock] using hb'
          have hcown : ∀ b', (Value.slice b len cap).ownBlock = some b' → (γ2.pl o).own = some b' := fun b' hb' => by rw [hpl]; exact hbown b' hb'
          have hnew : ∀ b', (Value.slice b len cap).ownBlock = some b' → w0.heap.size ≤ b' := by
            intro b' hb'
            rcases hst.own o b' (hcown b' hb') with ⟨o', h⟩ | h
            · simp [Pl.own] at h
            · exact h
          let p : Pl := .arr (.slice b len cap) yy len
          have hpown : ∀ b', p.own = some b' ↔ (Value.slice b len cap).ownBlock = some b' := fun _ => Iff.rfl
          have hout := hk.no hA.hp
          have hs1 : Ext γ w (γ.put k p) w := Ext.putAt hA.hp hk p
          have hro' : RArr (γ.put k p) w (.slice b len cap) yy len (es.take len) wr := by
            have hlen : (es.take len).length = len := by simp; omega
            have hfl := flat_length hro.sz
            have hvl : vs.length = es.length * yy := hrow.1
            have hml : len * yy ≤ es.length * yy := Nat.mul_le_mul_right _ (by omega)
            refine ⟨hlen.symm, fun x hx => hro.sz x (List.mem_of_mem_take hx), hro.zp, ⟨vs.take (len * yy), el, ?_, hone.take _, ?_⟩, ?_, ?_⟩
            · rw [flat_take hro.sz]
              show RDs γ.fix w _ _
              rw [hA.fix]
              exact hr.take _
            · rw [hlen]
              refine ⟨by simp; omega, ?_⟩
              rcases hrow.2 with ⟨rfl, h0⟩ | ⟨gb, cap', cur, rfl, h1, h2, h3, h4, h5, h6⟩
              · simp [withLen] at hval
                obtain ⟨rfl, rfl⟩ := hval
                have : len = 0 := by omega
                subst this
                exact .inl ⟨rfl, rfl⟩
              · simp [withLen] at hval
                obtain ⟨rfl, rfl⟩ := hval
                refine .inr ⟨gb, cap, cur, rfl, h1, h2, hc, h4, h5, ?_⟩
                rw [← h6, List.take_take, Nat.min_eq_left hml]
            · intro hw b' hb' j hj
              have hj : γ.fix b' j := hj
              rw [hA.fix] at hj
              exact hro.mu hw b' (hbown b' hb') j hj
            · intro hw b' hb' j
              have hlg : len = g := by
                rcases hor with h | h
                · exact h
                · rw [hw] at h; simp at h
              have := hro.im hw b' (hbown b' hb') j
              show γ.fix b' j ↔ _
              rw [hA.fix, this, hlen, hg, hlg]
          have hA' : Adopting γ0 w0 γ2 w ([o] ++ []) (γ.put k p) (putAt H k (.arr (es.take len) wr)) := by
            refine ⟨hA.hp.putAt' hk ?_ hro', ?_, hA.fix, ?_⟩
            · intro b' hb' i hi
              rcases hA.own i b' hi with h3 | ⟨o', ho', h3⟩
              · have h4 := hnew b' hb'
                have h5 : (γ0.pl i).own = some b' := h3
                have : b' < w0.heap.size := hlt0 i b' h5
                omega
              · have := h2.inj o' o b' h3 (hcown b' hb')
                subst this
                simp at ho'
            · have h6 := hA.st
              refine ⟨h6.os, h6.tape, h6.output, h6.size, h6.fix, h6.nfix, ?_, h6.other, ?_⟩
              · intro i
                by_cases hi : i = k
                · subst hi
                  rw [hno]
                  trivial
                · rw [γ.put_ne p hi]; exact h6.pl i
              · intro i b' hb'
                by_cases hi : i = k
                · subst hi
                  rw [γ.put_same] at hb'
                  exact .inr (hnew b' hb')
                · rw [γ.put_ne p hi] at hb'
                  exact h6.own i b' hb'
            · intro i b' hb'
              by_cases hi : i = k
              · subst hi
                rw [γ.put_same] at hb'
                exact .inr ⟨o, by simp, hcown b' hb'⟩
              · rw [γ.put_ne p hi] at hb'
                rcases hA.own i b' hb' with h3 | ⟨o', ho', h3⟩
                · exact .inl h3
                · exact .inr ⟨o', by simp [ho'], h3⟩
          exact ⟨γ.put k p, RV.full (γ.put_same _ _) hro', hA'.hp, hA'.st⟩
      · simp at h
    · simp at h
  · simp at h

end
end Pv
