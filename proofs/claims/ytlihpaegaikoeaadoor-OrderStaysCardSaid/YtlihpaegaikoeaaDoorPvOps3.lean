/- The pure evaluator: operations on addresses, parts, slices that touch no object. -/
import Derived.Test.YtlihpaegaikoeaaDoorPvOps2
set_option linter.all false
namespace Pv
open Go

section
variable {P : Program} {γ : Gh} {w : World} {T : Tm} {a : Act} {H : Heap} {o : Oper} {v : AV} {e : Eff} {t : Tch}

/-- What a pointer's value is: where it can be told. -/
theorem q_nilck {x : Operand} (ho : o.op = .nilCheck x) (hT : RT γ w T a) {x' : Opn} (hx : opn x = some x')
    (h : act (.nilck x') T H = some (v, e, t)) : Quiet P γ w a o v ∧ e = .none ∧ t = .none := by
  have h1 := opn_sound hT hx
  simp only [act] at h
  split at h
  · rename_i ob off hp
    rw [hp] at h1
    simp at h
    obtain ⟨rfl, rfl, rfl⟩ := h
    generalize hval : a.eval x = vx at h1
    refine ⟨⟨vx, ?_, h1⟩, rfl, rfl⟩
    cases h1
    simp [execOp, ho, hval]
  · rename_i cs hp
    rw [hp] at h1
    simp at h
    obtain ⟨rfl, rfl, rfl⟩ := h
    generalize hval : a.eval x = vx at h1
    refine ⟨⟨vx, ?_, h1⟩, rfl, rfl⟩
    cases h1
    simp [execOp, ho, hval]
  · rename_i ob g z idx off hp
    rw [hp] at h1
    simp at h
    obtain ⟨rfl, rfl, rfl⟩ := h
    generalize hval : a.eval x = vx at h1
    refine ⟨⟨vx, ?_, h1⟩, rfl, rfl⟩
    cases h1
    simp [execOp, ho, hval]
  · rename_i f p q hp
    rw [hp] at h1
    simp at h
    obtain ⟨rfl, rfl, rfl⟩ := h
    generalize hval : a.eval x = vx at h1
    refine ⟨⟨vx, ?_, h1⟩, rfl, rfl⟩
    cases h1
    simp [execOp, ho, hval]
  · simp at h

theorem fplace_sound {fs : Array Field} {f off n : Nat} (h : fplace P fs f = some (off, n)) : ∃ fd i, fs[f]? = some fd ∧ P.info? fd.type = some i ∧ fd.offset = off ∧ i.size = n := by
  unfold fplace at h
  split at h
  · rename_i fd hfd
    split at h
    · rename_i i hi
      simp at h
      exact ⟨fd, i, hfd, hi, h.1, h.2⟩
    · simp at h
  · simp at h

theorem RDs.cells_drop {fx : Nat → Nat → Prop} {vs : List Value} {blk off : Nat} (hf : ∀ j v, vs[j]? = some v → fx blk (off + j) ∧ w.cell? ⟨blk, off + j, none⟩ = some v) (n : Nat) :
    ∀ j v, (vs.drop n)[j]? = some v → fx blk (off + n + j) ∧ w.cell? ⟨blk, off + n + j, none⟩ = some v := by
  intro j v hj
  rw [List.getElem?_drop] at hj
  have := hf (n + j) v hj
  rwa [show off + (n + j) = off + n + j by omega] at this

theorem q_faddr {s : TypeId} {x : Operand} {f : Nat} (ho : o.op = .fieldAddr s x f) (hT : RT γ w T a) {x' : Opn} (hx : opn x = some x') {fs : Array Field} (hs : P.underlying s = some (.struct fs)) {off n : Nat}
    (hf : fplace P fs f = some (off, n)) (hn : n ≠ 0)
    (h : act (.faddr off x') T H = some (v, e, t)) : Quiet P γ w a o v ∧ e = .none ∧ t = .none := by
  have h1 := opn_sound hT hx
  obtain ⟨fd, i, hfd, hi, rfl, rfl⟩ := fplace_sound hf
  have run : ∀ b p, a.eval x = .pointer (some ⟨b, p, none⟩) → (execOp a.eval o).run P w = .ok (.value (.pointer (some ⟨b, p + fd.offset, none⟩))) w := by
    intro b p hv
    simp [execOp, ho, Instr.fieldAt, run_underlying hs, hfd, hv, Instr.sureAddr, fieldPlace, run_sizeOf' hi, hn, Addr.add_lit]
  simp only [act] at h
  split at h
  · rename_i ob p hp
    rw [hp] at h1
    simp at h
    obtain ⟨rfl, rfl, rfl⟩ := h
    generalize hval : a.eval x = vx at h1
    cases h1 with
    | ptr hpl => exact ⟨⟨_, run _ _ hval, .ptr hpl⟩, rfl, rfl⟩
  · rename_i cs hp
    rw [hp] at h1
    simp at h
    obtain ⟨rfl, rfl, rfl⟩ := h
    generalize hval : a.eval x = vx at h1
    cases h1 with
    | eptr hc hc1 hf => exact ⟨⟨_, run _ _ hval, .eptr (hc.drop _) (hc1.drop _) (RDs.cells_drop hf _)⟩, rfl, rfl⟩
  · rename_i ob g z idx p hp
    rw [hp] at h1
    simp at h
    obtain ⟨rfl, rfl, rfl⟩ := h
    generalize hval : a.eval x = vx at h1
    cases h1 with
    | vptr hpl hg hh =>
      refine ⟨⟨_, run _ _ hval, .vptr hpl hg fun he => ?_⟩, rfl, rfl⟩
      obtain ⟨h1, h2, h3, h4⟩ := hh he
      exact ⟨h1, h2, h3, by omega⟩
  · simp at h

theorem run_field {ty : TypeId} {x : Operand} {f : Nat} (ho : o.op = .field ty x f) {fs : Array Field} (hs : P.underlying ty = some (.struct fs)) {fd : Field} (hfd : fs[f]? = some fd) {cs : Array Value} (hv : a.eval x = .agg cs) {u : Value}
    (hp : (part fd.type cs fd.offset).run P w = .ok u w) : (execOp a.eval o).run P w = .ok (.value u) w := by
  simp [execOp, ho, Instr.field, run_underlying hs, hfd, hv, asAgg, hp]

theorem q_field {ty : TypeId} {x : Operand} {f : Nat} (ho : o.op = .field ty x f) (hT : RT γ w T a) {x' : Opn} (hx : opn x = some x') {fs : Array Field} (hs : P.underlying ty = some (.struct fs)) {fd : Field} (hfd : fs[f]? = some fd)
    {n : Nat} {c : Bool} (ht : tyL P fd.type = some (n, c))
    (h : act (.field c fd.offset n x') T H = some (v, e, t)) : Quiet P γ w a o v ∧ e = .none ∧ t = .none := by
  have h1 := opn_sound hT hx
  simp only [act] at h
  split at h
  · rename_i cs hp
    rw [hp] at h1
    split at h
    · rename_i r hr
      simp at h
      obtain ⟨rfl, rfl, rfl⟩ := h
      generalize hval : a.eval x = vx at h1
      cases h1 with
      | d h1 =>
        cases h1 with
        | agg g g1 =>
          obtain ⟨u, hu, hru⟩ := part_sound ht g g1 hr w
          exact ⟨⟨u, run_field ho hs hfd hval hu, .d hru⟩, rfl, rfl⟩
    · simp at h
  · rename_i cs hp
    rw [hp] at h1
    split at h
    · rename_i r hr
      simp at h
      obtain ⟨rfl, rfl, rfl⟩ := h
      generalize hval : a.eval x = vx at h1
      cases h1 with
      | agg g g1 =>
        obtain ⟨u, hu, hru⟩ := partA_sound ht g g1 hr w
        exact ⟨⟨u, run_field ho hs hfd hval hu, hru⟩, rfl, rfl⟩
    · simp at h
  · simp at h

theorem intOfA_sound {x : AV} {val : Value} (h : RV γ w x val) {n : Int} (hn : intOfA x = some n) : ∃ k, val = .int k n := by
  cases x with
  | d y =>
    cases y with
    | i k m =>
      simp [intOfA] at hn
      subst hn
      cases h with
      | d h => cases h; exact ⟨_, rfl⟩
    | _ => simp [intOfA] at hn
  | _ => simp [intOfA] at hn

theorem run_indexA {ty : TypeId} {x i : Operand} (ho : o.op = .indexAddr ty x i) {len : Nat} {el : TypeId} (hs : P.underlying ty = some (.array len el)) {ti : TypeInfo} (hi : P.info? el = some ti) {b p : Nat} (hv : a.eval x = .pointer (some ⟨b, p, none⟩))
    {k : IntKind} {n : Int} (hn : a.eval i = .int k n) (h0 : 0 ≤ n) (h1 : n < (len : Int)) :
    (execOp a.eval o).run P w = .ok (.value (.pointer (some ⟨b, p + n.toNat * ti.size, none⟩))) w := by
  simp [execOp, ho, Instr.indexAt, run_underlying hs, hv, hn, asIntOf, Instr.sureAddr, h0, h1, run_sizeOf' hi, Addr.add_lit]

theorem q_iaddrA {ty : TypeId} {x i : Operand} (ho : o.op = .indexAddr ty x i) (hT : RT γ w T a) {x' i' : Opn} (hx : opn x = some x') (hxi : opn i = some i') {len : Nat} {el : TypeId} (hs : P.underlying ty = some (.array len el)) {ti : TypeInfo} (hi : P.info? el = some ti)
    (h : act (.iaddrA len ti.size x' i') T H = some (v, e, t)) : Quiet P γ w a o v ∧ e = .none ∧ t = .none := by
  have h1 := opn_sound hT hx
  have h2 := opn_sound hT hxi
  simp only [act] at h
  split at h
  · rename_i n hn
    obtain ⟨k, hk⟩ := intOfA_sound h2 hn
    split at h
    · rename_i hb
      split at h
      · rename_i ob p hp
        rw [hp] at h1
        simp at h
        obtain ⟨rfl, rfl, rfl⟩ := h
        generalize hval : a.eval x = vx at h1
        cases h1 with
        | ptr hpl => exact ⟨⟨_, run_indexA ho hs hi hval hk hb.1 hb.2, .ptr hpl⟩, rfl, rfl⟩
      · rename_i cs hp
        rw [hp] at h1
        simp at h
        obtain ⟨rfl, rfl, rfl⟩ := h
        generalize hval : a.eval x = vx at h1
        cases h1 with
        | eptr hc hc1 hf => exact ⟨⟨_, run_indexA ho hs hi hval hk hb.1 hb.2, .eptr (hc.drop _) (hc1.drop _) (RDs.cells_drop hf _)⟩, rfl, rfl⟩
      · rename_i ob g z idx p hp
        rw [hp] at h1
        simp at h
        obtain ⟨rfl, rfl, rfl⟩ := h
        generalize hval : a.eval x = vx at h1
        cases h1 with
        | vptr hpl hg hh =>
          refine ⟨⟨_, run_indexA ho hs hi hval hk hb.1 hb.2, .vptr hpl hg fun he => ?_⟩, rfl, rfl⟩
          obtain ⟨h1, h2, h3, h4⟩ := hh he
          exact ⟨h1, h2, h3, by omega⟩
      · simp at h
    · simp at h
  · simp at h

theorem run_indexV {ty : TypeId} {x i : Operand} (ho : o.op = .index ty x i) {len : Nat} {el : TypeId} (hs : P.underlying ty = some (.array len el)) {ti : TypeInfo} (hi : P.info? el = some ti) {cs : Array Value} (hv : a.eval x = .agg cs)
    {k : IntKind} {n : Int} (hn : a.eval i = .int k n) (h0 : 0 ≤ n) (h1 : n < (len : Int)) {u : Value} (hp : (part el cs (n.toNat * ti.size)).run P w = .ok u w) :
    (execOp a.eval o).run P w = .ok (.value u) w := by
  simp [execOp, ho, Instr.index, run_underlying hs, hv, hn, asIntOf, h0, h1, run_sizeOf' hi, hp]

theorem q_idxA {ty : TypeId} {x i : Operand} (ho : o.op = .index ty x i) (hT : RT γ w T a) {x' i' : Opn} (hx : opn x = some x') (hxi : opn i = some i') {len : Nat} {el : TypeId} (hs : P.underlying ty = some (.array len el))
    {n : Nat} {c : Bool} (ht : tyL P el = some (n, c))
    (h : act (.idxA c len n x' i') T H = some (v, e, t)) : Quiet P γ w a o v ∧ e = .none ∧ t = .none := by
  have h1 := opn_sound hT hx
  have h2 := opn_sound hT hxi
  obtain ⟨⟨ti, hi, rfl⟩, _, _⟩ := tyL_sound ht
  simp only [act] at h
  split at h
  · rename_i m hm
    obtain ⟨k, hk⟩ := intOfA_sound h2 hm
    split at h
    · rename_i hb
      split at h
      · rename_i cs hp
        rw [hp] at h1
        split at h
        · rename_i r hr
          simp at h
          obtain ⟨rfl, rfl, rfl⟩ := h
          generalize hval : a.eval x = vx at h1
          cases h1 with
          | d h1 =>
            cases h1 with
            | agg g g1 =>
              obtain ⟨u, hu, hru⟩ := part_sound ht g g1 hr w
              exact ⟨⟨u, run_indexV ho hs hi hval hk hb.1 hb.2 hu, .d hru⟩, rfl, rfl⟩
        · simp at h
      · rename_i cs hp
        rw [hp] at h1
        split at h
        · rename_i r hr
          simp at h
          obtain ⟨rfl, rfl, rfl⟩ := h
          generalize hval : a.eval x = vx at h1
          cases h1 with
          | agg g g1 =>
            obtain ⟨u, hu, hru⟩ := partA_sound ht g g1 hr w
            exact ⟨⟨u, run_indexV ho hs hi hval hk hb.1 hb.2 hu, hru⟩, rfl, rfl⟩
        · simp at h
      · simp at h
    · simp at h
  · simp at h

theorem q_idxS {ty : TypeId} {x i : Operand} (ho : o.op = .index ty x i) (hT : RT γ w T a) {x' i' : Opn} (hx : opn x = some x') (hxi : opn i = some i') (hs : P.underlying ty = some .string)
    (h : act (.idxS x' i') T H = some (v, e, t)) : Quiet P γ w a o v ∧ e = .none ∧ t = .none := by
  have h1 := opn_sound hT hx
  have h2 := opn_sound hT hxi
  simp only [act] at h
  split at h
  · rename_i s m hp hm
    obtain ⟨k, hk⟩ := intOfA_sound h2 hm
    rw [hp] at h1
    split at h
    · rename_i c hc
      simp at h
      obtain ⟨rfl, rfl, rfl⟩ := h
      generalize hval : a.eval x = vx at h1
      cases h1 with
      | d h1 =>
        cases h1
        refine ⟨⟨.int .u8 (c.toNat : Int), ?_, .d (.i _ _)⟩, rfl, rfl⟩
        simp [execOp, ho, Instr.index, run_underlying hs, hval, hk, asIntOf, hc]
    · simp at h
  · simp at h

theorem flat_get {es : List DV} {z : Nat} (hz : ∀ e ∈ es, e.cells.length = z) : ∀ {i : Nat} {x : DV}, es[i]? = some x → ((flat es).drop (i * z)).take z = x.cells ∧ i * z + z ≤ (flat es).length := by
  induction es with
  | nil => intro i x h; simp at h
  | cons y r ih =>
    intro i x h
    have hy : y.cells.length = z := hz y (by simp)
    cases i with
    | zero =>
      simp at h
      subst h
      simp [flat, List.flatMap_cons]
      refine ⟨?_, by omega⟩
      rw [List.take_append_of_le_length (by omega), ← hy, List.take_length]
    | succ i =>
      simp at h
      have := ih (fun e he => hz e (by simp [he])) h
      refine ⟨?_, ?_⟩
      · rw [← this.1]
        simp only [flat, List.flatMap_cons]
        rw [show (i + 1) * z = y.cells.length + i * z by rw [hy, Nat.add_mul]; omega, List.drop_length_add_append]
      · simp only [flat, List.flatMap_cons, List.length_append] at this ⊢
        rw [Nat.add_mul]; omega

theorem take_cells {fx : Nat → Nat → Prop} {vs : List Value} {blk off : Nat} (hf : ∀ j v, vs[j]? = some v → fx blk (off + j) ∧ w.cell? ⟨blk, off + j, none⟩ = some v) (n : Nat) :
    ∀ j v, (vs.take n)[j]? = some v → fx blk (off + j) ∧ w.cell? ⟨blk, off + j, none⟩ = some v := by
  intro j v hj
  rw [List.getElem?_take] at hj
  split at hj
  · exact hf j v hj
  · simp at hj

theorem run_indexS {ty : TypeId} {x i : Operand} (ho : o.op = .indexAddr ty x i) {el : TypeId} (hs : P.underlying ty = some (.slice el)) {ti : TypeInfo} (hi : P.info? el = some ti) {b p len cap : Nat} (hv : a.eval x = .slice (some ⟨b, p, none⟩) len cap)
    {k : IntKind} {n : Int} (hn : a.eval i = .int k n) (h0 : 0 ≤ n) (h1 : n < (len : Int)) :
    (execOp a.eval o).run P w = .ok (.value (.pointer (some ⟨b, p + n.toNat * ti.size, none⟩))) w := by
  simp [execOp, ho, Instr.indexAt, run_underlying hs, hv, hn, asIntOf, h0, h1, run_sizeOf' hi, Addr.add_lit]

theorem q_iaddrS {ty : TypeId} {x i : Operand} (ho : o.op = .indexAddr ty x i) (hT : RT γ w T a) {x' i' : Opn} (hx : opn x = some x') (hxi : opn i = some i') {el : TypeId} (hs : P.underlying ty = some (.slice el)) {ti : TypeInfo} (hi : P.info? el = some ti)
    (h : act (.iaddrS ti.size x' i') T H = some (v, e, t)) : Quiet P γ w a o v ∧ e = .none ∧ t = .none := by
  have h1 := opn_sound hT hx
  have h2 := opn_sound hT hxi
  simp only [act] at h
  split at h
  · rename_i n hn
    obtain ⟨k, hk⟩ := intOfA_sound h2 hn
    split at h
    · rename_i es hp
      rw [hp] at h1
      split at h
      · rename_i hn0
        split at h
        · rename_i el' hel
          split at h
          · rename_i hz'
            simp at h
            obtain ⟨rfl, rfl, rfl⟩ := h
            generalize hval : a.eval x = vx at h1
            have hlt : n.toNat < es.length := (List.getElem?_eq_some_iff.1 hel).1
            cases h1 with
            | d h1 =>
              cases h1 with
              | nil a' c => simp at hel
              | @sl _ vs z blk off cap g g1 hz hc hf =>
                have hzz : z = ti.size := by
                  have := hz el' (List.mem_of_getElem? hel)
                  omega
                subst hzz
                have hfl := flat_get hz hel
                refine ⟨⟨_, run_indexS ho hs hi hval hk hn0 (by omega), ?_⟩, rfl, rfl⟩
                rw [← hfl.1]
                exact .eptr ((g.drop _).take _) ((g1.drop _).take _) (take_cells (RDs.cells_drop hf _) _)
          · simp at h
        · simp at h
      · simp at h
    · rename_i ob g y off len hp
      rw [hp] at h1
      split at h
      · rename_i hb
        simp at h
        obtain ⟨rfl, rfl, rfl⟩ := h
        obtain ⟨hyz, hn0, hn1⟩ := hb
        subst hyz
        generalize hval : a.eval x = vx at h1
        cases h1 with
        | @view _ _ _ _ _ b cap u yy g' hpl hg hc hbb hh =>
          have hlen : 0 < len := by omega
          obtain ⟨blk, p, rfl⟩ := hbb hlen
          refine ⟨⟨_, run_indexS ho hs hi hval hk hn0 hn1, .vptr hpl hg fun he => ?_⟩, rfl, rfl⟩
          have hr := hh he
          obtain ⟨blk', hob, hab⟩ := hr.sl _ _ _ rfl hlen
          simp at hab
          have hfit := hr.fit
          exact ⟨hr.zz, by omega, by rw [hob, hab.1], by rw [hab.2, Nat.add_mul]; omega⟩
      · simp at h
    · simp at h
  · simp at h

end
end Pv
