/- The pure evaluator: stores into variables and into the elements of an array of the walk's own. -/
import Derived.Test.YtlihpaegaikoeaaDoorPvHeap
set_option linter.all false
namespace Pv
open Go

section
variable {P : Program} {γ : Gh} {w : World} {T : Tm} {a : Act} {H : Heap} {o : Oper} {v : AV} {e : Eff} {t : Tch}

theorem RH.set' {γ' : Gh} {w' : World} (hH : RH γ w H) (hs : Stp γ w γ' w') {ob : Nat} (hob : ob < H.length) (hpl : ∀ i, i ≠ ob → γ'.pl i = γ.pl i)
    (hblk : ∀ i, i ≠ ob → ∀ b, (γ.pl i).own = some b → w'.heap[b]? = w.heap[b]? ∧ ∀ j, γ'.fix b j → γ.fix b j)
    (hown : ∀ b, (γ'.pl ob).own = some b → (γ.pl ob).own = some b ∨ w.heap.size ≤ b) (hfx : ∀ b j, γ'.fix b j → b < w'.heap.size) {c : Ob} (hc : RO γ' w' (γ'.pl ob) c) :
    RH γ' w' (H.set ob c) where
  ob i b hi := by
    by_cases he : i = ob
    · subst he
      rw [List.getElem?_set_self hob] at hi
      simp at hi
      subst hi
      exact hc
    · rw [List.getElem?_set_ne (by omega)] at hi
      rw [hpl i he]
      exact (hH.ob i b hi).keep hs (fun b hb => (hblk i he b hb).1) (fun b hb => (hblk i he b hb).2)
  out i hi := by
    simp at hi
    rw [hpl i (by omega)]
    exact hH.out i hi
  inj i i' b h1 h2 := by
    by_cases e1 : i = ob <;> by_cases e2 : i' = ob
    · omega
    · subst e1
      rw [hpl i' e2] at h2
      rcases hown b h1 with h3 | h3
      · exact hH.inj _ _ b h3 h2
      · have := hH.own_lt h2; omega
    · subst e2
      rw [hpl i e1] at h1
      rcases hown b h2 with h3 | h3
      · exact hH.inj _ _ b h1 h3
      · have := hH.own_lt h1; omega
    · rw [hpl i e1] at h1
      rw [hpl i' e2] at h2
      exact hH.inj _ _ b h1 h2
  fixb := hfx

theorem setRow_size (g : Nat) (cs : Array Value) : (w.setRow g cs).heap.size = w.heap.size := by simp [World.setRow]

theorem Stp.setRow {g : Nat} {cs : Array Value} {ob : Nat} (hown : (γ.pl ob).own = some g) (hnf : ∀ j, ¬ γ.fix g j) : Stp γ w γ (w.setRow g cs) where
  os := rfl
  tape := rfl
  output := rfl
  size := by rw [setRow_size]; exact Nat.le_refl _
  fix b j hf := by
    refine ⟨hf, cell_same (setRow_other w g b cs ?_)⟩
    rintro rfl
    exact hnf j hf
  nfix b j hf := .inl hf
  pl i := .refl _
  other b hb hn := setRow_other w g b cs (fun he => hn ob (he ▸ hown))
  own i b hb := .inl ⟨i, hb⟩

theorem RH.setRow (hH : RH γ w H) {g : Nat} {cs : Array Value} {ob : Nat} (hob : ob < H.length) (hown : (γ.pl ob).own = some g) (hnf : ∀ j, ¬ γ.fix g j) {c : Ob} (hc : RO γ (w.setRow g cs) (γ.pl ob) c) :
    RH γ (w.setRow g cs) (H.set ob c) :=
  hH.set' (.setRow hown hnf) hob (fun _ _ => rfl) (fun i hi b hb => ⟨setRow_other w g b cs (fun he => hi (hH.inj i ob g (he ▸ hb) hown)), fun j hj => hj⟩)
    (fun b hb => .inl hb) (fun b j hf => by rw [setRow_size]; exact hH.fixb b j hf) hc

theorem mkAgg_cells (l : List AV) : (mkAgg l).cells = l := by
  unfold mkAgg
  split
  · rename_i ds hd
    rw [allD_map hd]
    rfl
  · rfl

theorem updA_sound {x : AV} {cur : List Value} (h : RVs γ w x.cells cur) {val : Value} (hv : RV γ w v val) (hst : stb v = true) {off : Nat} {y : AV} (hu : updA x off v = some y) :
    off + val.cells.size ≤ cur.length ∧ RVs γ w y.cells (upd cur off val.cells.toList) := by
  have hc := hv.one_cells hst
  have hvl := hc.1.length
  have hl := h.length
  simp only [Array.length_toList] at hvl
  have one : ∀ x, (∀ cs, x ≠ .agg cs) → (∀ cs, x ≠ .d (.agg cs)) → RVs γ w x.cells cur → updA x off v = some y → off + val.cells.size ≤ cur.length ∧ RVs γ w y.cells (upd cur off val.cells.toList) := by
    intro x h1 h2 h hu
    have hcell : x.cells = [x] := by
      cases x with
      | d d => cases d <;> first | rfl | exact absurd rfl (h2 _)
      | agg cs => exact absurd rfl (h1 _)
      | _ => rfl
    have hu' : off = 0 ∧ v.cells.length = 1 ∧ v = y := by
      cases x with
      | d d => cases d <;> simp [updA] at hu <;> first | exact absurd rfl (h2 _) | exact ⟨hu.1.1, hu.1.2, hu.2⟩
      | agg cs => exact absurd rfl (h1 _)
      | _ => simp [updA] at hu; exact ⟨hu.1.1, hu.1.2, hu.2⟩
    obtain ⟨rfl, h3, rfl⟩ := hu'
    rw [hcell] at h
    have hcl := h.length
    simp at hcl
    refine ⟨by omega, ?_⟩
    have : upd cur 0 val.cells.toList = val.cells.toList := by
      simp [upd]
      omega
    rw [this]
    exact hc.1
  have aggc : ∀ cs, RVs γ w cs cur → off + v.cells.length ≤ cs.length → off + val.cells.size ≤ cur.length ∧ RVs γ w (mkAgg (upd cs off v.cells)).cells (upd cur off val.cells.toList) := by
    intro cs h hle
    have := h.length
    exact ⟨by omega, by rw [mkAgg_cells]; exact h.upd hc.1 _⟩
  cases x with
  | d d =>
    cases d with
    | agg cs =>
      simp only [AV.cells] at h
      simp only [updA] at hu
      split at hu
      · rename_i yy
        split at hu
        · rename_i hle
          simp at hu
          subst hu
          cases hv with
          | d hv =>
            have hd := h.to_d
            have hdv := hv.one_cells
            have := hd.length
            have := hdv.1.length
            simp only [Array.length_toList] at this
            refine ⟨by omega, ?_⟩
            simp only [AV.cells]
            exact .of_d (hd.upd hdv.1 _)
        · simp at hu
      · split at hu
        · rename_i hle
          simp at hu
          subst hu
          exact aggc _ h (by simpa using hle)
        · simp at hu
    | _ => exact one _ (by simp) (by simp) h hu
  | agg cs =>
    simp only [AV.cells] at h
    simp only [updA] at hu
    split at hu
    · rename_i hle
      simp at hu
      subst hu
      exact aggc _ h hle
    · simp at hu
  | _ => exact one _ (by simp) (by simp) h hu

theorem run_storeVar {ty : TypeId} {i : TypeInfo} (hi : P.info? ty = some i) {val : Value} (hsz : val.cells.size = i.size) (h1 : ones val.cells.toList) {b off : Nat} {cur : Array Value} {tt : TypeId}
    (hb : w.heap[b]? = some (.cells cur tt (0, 0))) (hle : off + val.cells.size ≤ cur.size) :
    (storeVar ty ⟨b, off, none⟩ val).run P w = .ok () (w.setRow b (upd cur.toList off val.cells.toList).toArray) := by
  have := run_storeCells_at P b off tt val.cells.toList 0 cur w hb (by simpa using hle) h1
  simp [storeVar, run_sizeOf' hi, hsz, this, upd]

theorem flat_set {es : List DV} {z : Nat} (hz : ∀ e ∈ es, e.cells.length = z) : ∀ {i off : Nat} {x : DV} {cs ys : List DV}, es[i]? = some x → x.cells = cs → off + ys.length ≤ z → (y : DV) → y.cells = upd cs off ys →
    flat (es.set i y) = upd (flat es) (i * z + off) ys := by
  induction es with
  | nil => intro i off x cs ys h; simp at h
  | cons e0 r ih =>
    intro i off x cs ys h hx hle y hy
    have he0 : e0.cells.length = z := hz e0 (by simp)
    cases i with
    | zero =>
      simp at h
      subst h
      simp only [List.set_cons_zero, flat, List.flatMap_cons, hy, upd, Nat.zero_mul, Nat.zero_add]
      subst hx
      rw [List.take_append_of_le_length (by omega), List.drop_append_of_le_length (by omega)]
      simp
    | succ i =>
      simp at h
      have ih' := ih (fun e he => hz e (by simp [he])) h hx hle y hy
      simp only [flat] at ih'
      have a1 : (i + 1) * z + off = e0.cells.length + (i * z + off) := by rw [he0, Nat.add_mul]; omega
      have a2 : (i + 1) * z + off + ys.length = e0.cells.length + (i * z + off + ys.length) := by omega
      simp only [List.set_cons_succ, flat, List.flatMap_cons, ih', upd]
      rw [a2, a1, List.take_length_add_append, List.drop_length_add_append]
      simp

theorem take_app {α : Type} {A B C : List α} {x y m : Nat} (h1 : A.length = x) (h2 : B.length = y) : (A ++ (B ++ C)).take (x + (y + m)) = A ++ (B ++ C.take m) := by
  subst h1; subst h2
  rw [List.take_length_add_append, List.take_length_add_append]

theorem upd_take {α : Type} {cur ys : List α} {n off : Nat} (h : off + ys.length ≤ n) (hn : n ≤ cur.length) : (upd cur off ys).take n = upd (cur.take n) off ys := by
  obtain ⟨m, rfl⟩ : ∃ m, n = off + (ys.length + m) := ⟨n - off - ys.length, by omega⟩
  simp only [upd]
  rw [take_app (by simp; omega) rfl, List.take_take, Nat.min_eq_left (by omega), List.drop_take]
  congr 3
  omega

theorem does_store {ty : TypeId} {x y : Operand} (ho : o.op = .store ty x y) (hT : RT γ w T a) (hH : RH γ w H) {x' y' : Opn} (hx : opn x = some x') (hy : opn y = some y') {n : Nat} {c : Bool} (ht : tyL P ty = some (n, c))
    (h : act (.store n x' y') T H = some (v, e, t)) : Does P γ w a o v (e.on H) := by
  have h1 := opn_sound hT hx
  have h2 := opn_sound hT hy
  obtain ⟨⟨i, hi, hn⟩, _, _⟩ := tyL_sound ht
  simp only [act] at h
  split at h
  · rename_i hst
    obtain ⟨hst, hlen⟩ := hst
    have hc2 := h2.one_cells hst
    have hvl := hc2.1.length
    simp only [Array.length_toList] at hvl
    split at h
    · rename_i ob cc hs
      simp at h
      obtain ⟨rfl, rfl, rfl⟩ := h
      generalize hp : ev T x' = px at h1 hs
      generalize hv : ev T y' = pv at h2 hs hst hlen hc2 hvl
      generalize hvalx : a.eval x = vx at h1
      generalize hvaly : a.eval y = vy at h2 hc2 hvl
      cases px with
      | ptr ob' off =>
        simp only [storeA] at hs
        split at hs
        · rename_i xx hob
          split at hs
          · rename_i yy hupd
            simp at hs
            obtain ⟨rfl, rfl⟩ := hs
            cases h1 with
            | @ptr _ _ b hpl =>
              have hro := hH.ob _ _ hob
              rw [hpl] at hro
              obtain ⟨⟨vs, tt, hb, hr, hone⟩, hnf⟩ := hro
              obtain ⟨hle, hr'⟩ := updA_sound hr h2 hst hupd
              simp only [Array.length_toList] at hle
              have hrun := run_storeVar (P := P) (w := w) hi (val := vy) (by omega) hc2.2 hb hle
              have hown : (γ.pl ob').own = some b := by rw [hpl]; rfl
              have hstp := Stp.setRow (w := w) (cs := (upd vs.toList off vy.cells.toList).toArray) hown hnf
              refine ⟨undef, _, γ, .inr ⟨by simp [execOp, ho, Instr.storeAt, hvalx, hvaly, Instr.sureAddr, hrun], rfl⟩, .junk _, hH.setRow (List.getElem?_eq_some_iff.1 hob).1 hown hnf ?_, hstp⟩
              rw [hpl]
              exact ⟨⟨_, tt, setRow_heap w b vs _ tt _ hb, by simpa using hr'.mono hstp, by simpa using hone.upd hc2.2 _⟩, hnf⟩
          · simp at hs
        · simp at hs
      | vptr ob' g z idx off =>
        simp only [storeA] at hs
        split at hs
        · rename_i es hob
          split at hs
          · rename_i hg0
            split at hs
            · rename_i e0 yd he0
              split at hs
              · rename_i hz0
                obtain ⟨hz0, hfit⟩ := hz0
                cases h1 with
                | @vptr _ _ _ _ _ blk p u yy g' hpl hg hh =>
                  have hro := hH.ob _ _ hob
                  rw [hpl] at hro
                  have hro : RArr γ w u yy g' es true := hro
                  obtain ⟨rfl, hidx, hob', rfl⟩ := hh (by rw [hro.hw]; omega)
                  obtain ⟨cap, cur, vs, ee, rfl, hblk, hle, hm, hcs, htk, hr, hone⟩ := hro.block hob'
                  have hnf := hro.mu rfl blk rfl
                  have hown : (γ.pl ob').own = some blk := by rw [hpl]; rfl
                  have hfl := flat_get hro.sz he0
                  have hflen := flat_length hro.sz
                  have hrl := hr.length
                  have hyl : vy.cells.size = yd.cells.length := by simpa [AV.cells] using hvl.trans (by cases yd <;> simp [AV.cells, DV.cells])
                  cases h2 with
                  | d h2 =>
                    have hyd := h2.one_cells
                    have hcap : es.length * yy ≤ cap * yy := Nat.mul_le_mul_right _ hle
                    have hbound : idx * yy + yy ≤ es.length * yy := by rw [← hflen]; exact hfl.2
                    have hrun := run_storeVar (P := P) (w := w) hi (val := vy) (by omega) hc2.2 hblk (off := idx * yy + off) (by omega)
                    have hstp := Stp.setRow (w := w) (cs := (upd cur.toList (idx * yy + off) vy.cells.toList).toArray) hown hnf
                    have main : ∀ e1 : DV, e1.cells = upd e0.cells off yd.cells → e1.cells.length = yy →
                        RO γ (w.setRow blk (upd cur.toList (idx * yy + off) vy.cells.toList).toArray) (γ.pl ob') (.arr (es.set idx e1) true) := by
                      intro e1 hc1 hl1
                      rw [hpl]
                      refine ⟨by rw [hro.hw]; simp, ?_, hro.zp, ⟨upd vs (idx * yy + off) vy.cells.toList, ee, ?_, hone.upd hc2.2 _, ?_, ?_⟩, ?_, ?_⟩
                      · intro x hx
                        rcases List.mem_or_eq_of_mem_set hx with hx | rfl
                        · exact hro.sz x hx
                        · exact hl1
                      · rw [flat_set hro.sz he0 rfl hfit e1 hc1]
                        exact (hr.upd hyd.1 _).mono hstp.fix
                      · rw [length_upd _ _ _ (by simp; omega)]
                        simp
                        omega
                      · refine .inr ⟨blk, cap, _, by simp, Nat.zero_le _, setRow_heap w blk cur _ ee _ hblk, by simpa using hle, hm, ?_, ?_⟩
                        · simp
                          rw [length_upd _ _ _ (by simp; omega)]
                          simpa using hcs
                        · simp only [List.length_set]
                          rw [upd_take (by simp; omega) (by simp; omega), htk]
                      · intro _ g hg j
                        simp [Value.ownBlock] at hg
                        subst hg
                        exact hnf j
                      · intro hw; simp at hw
                    have fin : ∀ e1 : DV, e1.cells = upd e0.cells off yd.cells → e1.cells.length = yy → ob = ob' → cc = .arr (es.set idx e1) true → Does P γ w a o .junk ((Eff.set ob cc).on H) := by
                      intro e1 hc1 hl1 hob2 hcc
                      subst hob2; subst hcc
                      exact ⟨undef, _, γ, .inr ⟨by simp [execOp, ho, Instr.storeAt, hvalx, hvaly, Instr.sureAddr, hrun], rfl⟩, .junk _, hH.setRow (List.getElem?_eq_some_iff.1 hob).1 hown hnf (main e1 hc1 hl1), hstp⟩
                    have hlu : (upd e0.cells off yd.cells).length = yy := by rw [length_upd _ _ _ (by omega)]; exact hz0
                    split at hs
                    · rename_i cs
                      simp at hs
                      obtain ⟨rfl, rfl⟩ := hs
                      exact fin (.agg (upd cs off yd.cells)) rfl hlu rfl rfl
                    · rename_i hna
                      have h1c : e0.cells = [e0] := by cases e0 <;> first | rfl | exact absurd rfl (hna _)
                      split at hs
                      · simp at hs
                      · rename_i hnya
                        simp at hs
                        obtain ⟨rfl, rfl⟩ := hs
                        have h2c : yd.cells = [yd] := by cases yd <;> first | rfl | exact absurd rfl (hnya _)
                        rw [h1c] at hz0
                        rw [h2c] at hfit
                        simp at hz0 hfit
                        have h0 : off = 0 := by omega
                        subst h0
                        exact fin yd (by rw [h1c, h2c]; simp [upd]) (by rw [h2c]; simpa using hz0) rfl rfl
              · simp at hs
            · simp at hs
          · simp at hs
        · simp at hs
      | _ => simp [storeA] at hs
    · simp at h
  · simp at h

end
end Pv
