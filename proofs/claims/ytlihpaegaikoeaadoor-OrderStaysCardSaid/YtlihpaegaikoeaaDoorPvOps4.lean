/- The pure evaluator: slices of values, lengths, greatest and least, structs put together. -/
import Derived.Test.YtlihpaegaikoeaaDoorPvOps3
set_option linter.all false
namespace Pv
open Go

section
variable {P : Program} {γ : Gh} {w : World} {T : Tm} {a : Act} {H : Heap} {o : Oper} {v : AV} {e : Eff} {t : Tch}

theorem bnd_sound (hT : RT γ w T a) {x : Option Operand} {x' : Option Opn} (hx : opnO x = some x') {m d n : Nat} (h : bnd T x' m d = some n) :
    (x = none ∧ n = d) ∨ (∃ y k, x = some y ∧ a.eval y = .int k (n : Int) ∧ n ≤ m) := by
  cases x with
  | none => simp [opnO] at hx; subst hx; simp [bnd] at h; exact .inl ⟨rfl, h.symm⟩
  | some y =>
    cases hy : opn y with
    | none => simp [opnO, hy] at hx
    | some y' =>
      simp [opnO, hy] at hx
      subst hx
      simp only [bnd] at h
      split at h
      · rename_i q hq
        obtain ⟨k, hk⟩ := intOfA_sound (opn_sound hT hy) hq
        split at h
        · rename_i hb
          simp at h
          refine .inr ⟨y, k, rfl, ?_, by omega⟩
          rw [hk, ← h]
          congr 1
          omega
        · simp at h
      · simp at h

theorem run_bound {x : Value} {k : IntKind} {n m : Nat} (hx : x = .int k (n : Int)) (h : n ≤ m) (c : BoundsCode) : (Instr.sliceBound x m c).run P w = .ok n w := by
  subst hx
  have h1 : (0 : Int) ≤ n ∧ (n : Int) ≤ (m : Int) := by omega
  simp [Instr.sliceBound, asIntOf, h]

theorem run_bounds {xlo xhi : Option Operand} {isS : Bool} {len cap h l hm : Nat} (hh : (xhi = none ∧ h = len) ∨ (∃ y k, xhi = some y ∧ a.eval y = .int k (h : Int) ∧ h ≤ hm)) (hhm : hm ≤ cap)
    (hl : (xlo = none ∧ l = 0) ∨ (∃ y k, xlo = some y ∧ a.eval y = .int k (l : Int) ∧ l ≤ h)) :
    (Instr.sliceBounds isS len cap (xlo.map a.eval) (xhi.map a.eval) none).run P w = .ok (l, h, cap) w := by
  rcases hh with ⟨rfl, rfl⟩ | ⟨y, k, rfl, hy, hle⟩ <;> rcases hl with ⟨rfl, rfl⟩ | ⟨y2, k2, rfl, hy2, hle2⟩
  · simp [Instr.sliceBounds]
  · simp [Instr.sliceBounds, run_bound (P := P) (w := w) hy2 hle2]
  · simp [Instr.sliceBounds, run_bound (P := P) (w := w) hy (Nat.le_trans hle hhm)]
  · simp [Instr.sliceBounds, run_bound (P := P) (w := w) hy (Nat.le_trans hle hhm), run_bound (P := P) (w := w) hy2 hle2]

theorem bnd_le (hT : RT γ w T a) {x : Option Operand} {x' : Option Opn} (hx : opnO x = some x') {m d n : Nat} (h : bnd T x' m d = some n) (hd : d ≤ m) : n ≤ m := by
  rcases bnd_sound hT hx h with ⟨_, rfl⟩ | ⟨y, k, _, _, hle⟩
  · exact hd
  · exact hle

theorem flat_drop {es : List DV} {z : Nat} (hz : ∀ e ∈ es, e.cells.length = z) : ∀ n, flat (es.drop n) = (flat es).drop (n * z) := by
  induction es with
  | nil => intro n; simp [flat]
  | cons y r ih =>
    intro n
    cases n with
    | zero => simp
    | succ n =>
      have hy : y.cells.length = z := hz y (by simp)
      have h2 := ih (fun e he => hz e (by simp [he])) n
      simp only [flat, List.flatMap_cons, List.drop_succ_cons] at h2 ⊢
      rw [h2, show (n + 1) * z = y.cells.length + n * z by rw [hy, Nat.add_mul]; omega, List.drop_length_add_append]
theorem flat_take {es : List DV} {z : Nat} (hz : ∀ e ∈ es, e.cells.length = z) : ∀ n, flat (es.take n) = (flat es).take (n * z) := by
  induction es with
  | nil => intro n; simp [flat]
  | cons y r ih =>
    intro n
    cases n with
    | zero => simp [flat]
    | succ n =>
      have hy : y.cells.length = z := hz y (by simp)
      have h2 := ih (fun e he => hz e (by simp [he])) n
      simp only [flat, List.flatMap_cons, List.take_succ_cons] at h2 ⊢
      rw [h2, show (n + 1) * z = y.cells.length + n * z by rw [hy, Nat.add_mul]; omega, List.take_length_add_append]
theorem flat_length {es : List DV} {z : Nat} (hz : ∀ e ∈ es, e.cells.length = z) : (flat es).length = es.length * z := by
  induction es with
  | nil => simp [flat]
  | cons y r ih =>
    have hy : y.cells.length = z := hz y (by simp)
    have h2 := ih (fun e he => hz e (by simp [he]))
    simp only [flat, List.flatMap_cons, List.length_append, List.length_cons] at h2 ⊢
    rw [h2, hy, Nat.add_mul]; omega

theorem run_slice {ty : TypeId} {x : Operand} {lo hi : Option Operand} (ho : o.op = .slice ty x lo hi none) {el : TypeId} (hs : P.underlying ty = some (.slice el)) {ti : TypeInfo} (hi' : P.info? el = some ti) {b : Option Addr} {len cap l h : Nat}
    (hv : a.eval x = .slice b len cap) (hb : (Instr.sliceBounds true len cap (lo.map a.eval) (hi.map a.eval) none).run P w = .ok (l, h, cap) w) :
    (execOp a.eval o).run P w = .ok (.value (.slice (if cap = l then b else b.map (·.add (l * ti.size))) (h - l) (cap - l))) w := by
  simp [execOp, ho, Instr.sliceAt, run_underlying hs, Instr.slice, hv, hb, run_sizeOf' hi']

theorem run_slice3 {ty : TypeId} {x : Operand} {lo hi mx : Option Operand} (ho : o.op = .slice ty x lo hi mx) {el : TypeId} (hs : P.underlying ty = some (.slice el)) {ti : TypeInfo} (hi' : P.info? el = some ti) {b : Option Addr} {len cap l h m : Nat}
    (hv : a.eval x = .slice b len cap) (hb : (Instr.sliceBounds true len cap (lo.map a.eval) (hi.map a.eval) (mx.map a.eval)).run P w = .ok (l, h, m) w) :
    (execOp a.eval o).run P w = .ok (.value (.slice (if m = l then b else b.map (·.add (l * ti.size))) (h - l) (m - l))) w := by
  simp [execOp, ho, Instr.sliceAt, run_underlying hs, Instr.slice, hv, hb, run_sizeOf' hi']

theorem q_slice3 {ty : TypeId} {x : Operand} {lo hi mx : Option Operand} (ho : o.op = .slice ty x lo hi mx) (hT : RT γ w T a) {x' m' : Opn} {lo' hi' : Option Opn} (hx : opn x = some x') (hlo : opnO lo = some lo') (hhi : opnO hi = some hi') (hmx : opnO mx = some (some m'))
    {el : TypeId} (hs : P.underlying ty = some (.slice el)) {ti : TypeInfo} (hti : P.info? el = some ti) (hz0 : 0 < ti.size)
    (h : act (.slice ti.size x' lo' hi' (some m')) T H = some (v, e, t)) : Quiet P γ w a o v ∧ e = .none ∧ t = .none := by
  have h1 := opn_sound hT hx
  have isInt : ∀ {y : Operand} {y' : Opn}, opn y = some y' → intOfA (ev T y') = some 0 → ∃ k, a.eval y = .int k 0 := by
    intro y y' hy hz
    have h2 := opn_sound hT hy
    generalize ev T y' = p at h2 hz
    generalize a.eval y = u at h2
    unfold intOfA at hz
    split at hz
    · simp at hz
      subst hz
      cases h2 with
      | d h2 => cases h2; exact ⟨_, rfl⟩
    · simp at hz
  simp only [act] at h
  split at h
  · rename_i r hr
    split at h
    · rename_i hzok
      simp at h
      obtain ⟨rfl, rfl, rfl⟩ := h
      refine ⟨?_, rfl, rfl⟩
      simp only [sliceA] at hr
      split at hr
      · rename_i h' hm0
        split at hr
        all_goals try (simp at hr; done)
        all_goals
          rename_i hh0 hp
          have hlo0 : lo = none := by
            cases lo with
            | none => rfl
            | some y => simp only [opnO] at hlo; split at hlo <;> simp at hlo
          subst hlo0
          obtain ⟨y, rfl, hy⟩ : ∃ y, hi = some y ∧ opn y = some h' := by
            cases hi with
            | none => simp [opnO] at hhi
            | some y =>
              refine ⟨y, rfl, ?_⟩
              simp only [opnO] at hhi
              split at hhi
              · simp at hhi; subst hhi; assumption
              · simp at hhi
          obtain ⟨u, rfl, hu⟩ : ∃ y, mx = some y ∧ opn y = some m' := by
            cases mx with
            | none => simp [opnO] at hmx
            | some y =>
              refine ⟨y, rfl, ?_⟩
              simp only [opnO] at hmx
              split at hmx
              · simp at hmx; subst hmx; assumption
              · simp at hmx
          obtain ⟨k1, e1⟩ := isInt hy hh0
          obtain ⟨k2, e2⟩ := isInt hu hm0
          have hb : ∀ len cap, (Instr.sliceBounds true len cap ((none : Option Operand).map a.eval) ((some y).map a.eval) ((some u).map a.eval)).run P w = .ok (0, 0, 0) w := by
            intro len cap
            simp [Instr.sliceBounds, Instr.sliceBound, e1, e2, asIntOf]
          rw [hp] at h1
          simp at hr
          subst hr
          generalize hval : a.eval x = vx at h1
          have fin : ∀ {b len cap}, vx = .slice b len cap → (execOp a.eval o).run P w = .ok (.value (.slice b 0 0)) w := by
            intro b len cap hvx
            subst hvx
            have := run_slice3 (P := P) (w := w) ho hs hti hval (hb len cap)
            simpa using this
          cases h1 <;> first
            | exact ⟨_, fin rfl, .z0 _⟩
            | exact ⟨_, fin rfl, .nilS⟩
            | (rename_i h1; cases h1 <;> exact ⟨_, fin rfl, .z0 _⟩)
      · simp at hr
    · simp at h
  · simp at h

theorem q_slice {ty : TypeId} {x : Operand} {lo hi : Option Operand} (ho : o.op = .slice ty x lo hi none) (hT : RT γ w T a) {x' : Opn} {lo' hi' : Option Opn} (hx : opn x = some x') (hlo : opnO lo = some lo') (hhi : opnO hi = some hi')
    {el : TypeId} (hs : P.underlying ty = some (.slice el)) {ti : TypeInfo} (hti : P.info? el = some ti) (hz0 : 0 < ti.size)
    (h : act (.slice ti.size x' lo' hi' none) T H = some (v, e, t)) : Quiet P γ w a o v ∧ e = .none ∧ t = .none := by
  have h1 := opn_sound hT hx
  simp only [act] at h
  split at h
  · rename_i r hr
    split at h
    · rename_i hzok
      simp at h
      obtain ⟨rfl, rfl, rfl⟩ := h
      refine ⟨?_, rfl, rfl⟩
      simp only [sliceA] at hr
      split at hr
      · rename_i s hp; rw [hp] at hzok; simp [zOk] at hzok; omega
      · -- contents
        rename_i es hp
        rw [hp] at h1 hzok
        split at hr
        · rename_i hh hhb
          split at hr
          · rename_i ll hlb
            simp at hr
            subst hr
            have b1 := bnd_sound hT hhi hhb
            have b2 := bnd_sound hT hlo hlb
            have le1 := bnd_le hT hhi hhb (Nat.le_refl _)
            have le2 := bnd_le hT hlo hlb (Nat.zero_le _)
            generalize hval : a.eval x = vx at h1
            have hzz : ∀ e' ∈ es, e'.cells.length = ti.size := by
              simp [zOk] at hzok
              exact hzok.2
            cases h1 with
            | d h1 =>
              cases h1 with
              | nil b c =>
                have hrun := run_slice (P := P) (w := w) ho hs hti hval (run_bounds b1 (Nat.zero_le _) b2)
                refine ⟨_, hrun, ?_⟩
                simp at le1
                subst le1
                simp at le2
                subst le2
                simp
                exact .d (.nil _ _)
              | @sl _ vs z blk off cap g g1 hz hc hf =>
                have hrun := run_slice (P := P) (w := w) ho hs hti hval (run_bounds b1 hc b2)
                refine ⟨_, hrun, ?_⟩
                have hlen : ((es.take hh).drop ll).length = hh - ll := by simp; omega
                by_cases hem : (es.take hh).drop ll = []
                · rw [hem] at hlen ⊢
                  simp at hlen
                  rw [← hlen]
                  exact .d (.nil _ _)
                · have hpos : 0 < hh - ll := by
                    rcases Nat.eq_zero_or_pos (hh - ll) with h0 | h0
                    · exact absurd (List.eq_nil_of_length_eq_zero (hlen.trans h0)) hem
                    · exact h0
                  have hne : ¬ cap = ll := by omega
                  rw [if_neg hne, ← hlen]
                  have hzt : z = ti.size := by
                    cases es with
                    | nil => simp at le1; omega
                    | cons y r => rw [← hz y (by simp), hzz y (by simp)]
                  subst hzt
                  simp only [Option.map_some, Addr.add_lit]
                  refine .d (.sl (vs := (vs.take (hh * ti.size)).drop (ll * ti.size)) (z := ti.size) ?_ ((g1.take _).drop _) ?_ (by rw [hlen]; omega) ?_)
                  · rw [flat_drop (fun e' he' => hzz e' (List.mem_of_mem_take he')), flat_take hzz]
                    exact (g.take _).drop _
                  · intro e' he'
                    exact hzz e' (List.mem_of_mem_take (List.mem_of_mem_drop he'))
                  · exact RDs.cells_drop (take_cells hf _) _
          · simp at hr
        · simp at hr
      · -- a view
        rename_i ob g y off len hp
        rw [hp] at h1 hzok
        simp [zOk] at hzok
        obtain ⟨_, hzok⟩ := hzok
        subst hzok
        split at hr
        · rename_i hh hhb
          split at hr
          · rename_i ll hlb
            simp at hr
            subst hr
            have b1 := bnd_sound hT hhi hhb
            have b2 := bnd_sound hT hlo hlb
            have le1 := bnd_le hT hhi hhb (Nat.le_refl _)
            have le2 := bnd_le hT hlo hlb (Nat.zero_le _)
            generalize hval : a.eval x = vx at h1
            cases h1 with
            | @view _ _ _ _ _ b cap u yy g' hpl hg hc hb hh' =>
              have hrun := run_slice (P := P) (w := w) ho hs hti hval (run_bounds b1 hc b2)
              refine ⟨_, hrun, .view hpl hg (by omega) ?_ ?_⟩
              · intro hpos
                have hne : ¬ cap = ll := by omega
                obtain ⟨blk, p, rfl⟩ := hb (by omega)
                rw [if_neg hne]
                exact ⟨blk, p + ll * ti.size, by simp [Addr.add_lit]⟩
              · intro hge
                have hr := hh' hge
                refine ⟨hr.zz, by have := hr.fit; omega, ?_, ?_⟩
                · intro h0
                  have h01 : off = 0 := by omega
                  have h02 : ll = 0 := by omega
                  subst h01; subst h02
                  have hd := hr.head rfl
                  have hid : (if cap = 0 then b else Option.map (fun x => x.add (0 * ti.size)) b) = b := by
                    split
                    · rfl
                    · cases b <;> simp [Addr.add]
                  cases u with
                  | slice ua un uc =>
                    simp only [withLen] at hd ⊢
                    injection hd with e1 e2 e3
                    subst e1; subst e3
                    rw [hid]
                    simp
                  | _ => simp [withLen] at hd
                · intro b' n' cap' heq hpos
                  simp at heq
                  obtain ⟨hb', hn', hc'⟩ := heq
                  have hne : ¬ cap = ll := by omega
                  rw [if_neg hne] at hb'
                  obtain ⟨blk, hob, hab⟩ := hr.sl _ _ _ rfl (by omega)
                  refine ⟨blk, hob, ?_⟩
                  rw [← hb', hab]
                  simp [Addr.add_lit, Nat.add_mul]
          · simp at hr
        · simp at hr
      · -- nil
        rename_i hp
        rw [hp] at h1
        split at hr
        · rename_i hh hhb
          split at hr
          · rename_i ll hlb
            simp at hr
            subst hr
            have b1 := bnd_sound hT hhi hhb
            have b2 := bnd_sound hT hlo hlb
            have le1 := bnd_le hT hhi hhb (Nat.le_refl _)
            have le2 := bnd_le hT hlo hlb (Nat.zero_le _)
            generalize hval : a.eval x = vx at h1
            cases h1
            have hrun := run_slice (P := P) (w := w) ho hs hti hval (run_bounds b1 (Nat.zero_le _) b2)
            simp at le1
            subst le1
            simp at le2
            subst le2
            refine ⟨_, hrun, ?_⟩
            simp
            exact .nilS
          · simp at hr
        · simp at hr
      · simp at hr
    · simp at h
  · simp at h

theorem q_sliceS {ty : TypeId} {x : Operand} {lo hi : Option Operand} (ho : o.op = .slice ty x lo hi none) (hT : RT γ w T a) {x' : Opn} {lo' hi' : Option Opn} (hx : opn x = some x') (hlo : opnO lo = some lo') (hhi : opnO hi = some hi')
    (hs : P.underlying ty = some .string)
    (h : act (.slice 0 x' lo' hi' none) T H = some (v, e, t)) : Quiet P γ w a o v ∧ e = .none ∧ t = .none := by
  have h1 := opn_sound hT hx
  obtain ⟨s, hp⟩ : ∃ s, ev T x' = .d (.s s) := by
    simp only [act] at h
    split at h
    · split at h
      · rename_i hzok
        revert hzok
        generalize ev T x' = y
        intro hzok
        cases y with
        | d y => cases y <;> simp [zOk] at hzok; exact ⟨_, rfl⟩
        | _ => simp [zOk] at hzok
      · simp at h
    · simp at h
  simp only [act, hp, sliceA] at h
  rw [hp] at h1
  split at h
  · rename_i r hr
    split at h
    · simp at h
      obtain ⟨rfl, rfl, rfl⟩ := h
      refine ⟨?_, rfl, rfl⟩
      split at hr
      · rename_i hh hhb
        split at hr
        · rename_i ll hlb
          simp at hr
          subst hr
          have b1 := bnd_sound hT hhi hhb
          have b2 := bnd_sound hT hlo hlb
          generalize hval : a.eval x = vx at h1
          cases h1 with
          | d h1 =>
            cases h1
            refine ⟨.string (s.extract ll hh), ?_, .d (.s _)⟩
            have hb := run_bounds (P := P) (w := w) (a := a) (isS := false) (len := s.size) (cap := s.size) b1 (Nat.le_refl _) b2
            simp [execOp, ho, Instr.sliceAt, run_underlying hs, Instr.slice, hval, hb]
        · simp at hr
      · simp at hr
    · simp at h
  · simp at h

theorem run_lenOp {x : Operand} {tx : TypeId} {ty : TypeId} (ho : o.op = .call { callee := .builtin .len, args := #[x], argTypes := #[tx] }) {val : Value} (hv : a.eval x = val) {r : Value}
    (hr : (Builtin.len_ #[tx] o.type #[val]).run P w = .ok r w) : (execOp a.eval o).run P w = .ok (.value r) w := by
  simp [execOp, ho, resolve, invoke, builtin, hv, hr]

theorem mm2_sound (mx : Bool) (k : IntKind) (x y : Int) : (if mx then (Builtin.max2 (.int k x) (.int k y)) else (Builtin.min2 (.int k x) (.int k y))).run P w = .ok (.int k (mmI mx x y)) w := by
  cases mx
  · simp [Builtin.min2, mmI]
  · simp [Builtin.max2, mmI]

theorem q_lenS {x : Operand} {tx : TypeId} (ho : o.op = .call { callee := .builtin .len, args := #[x], argTypes := #[tx] }) (hT : RT γ w T a) {x' : Opn} (hx : opn x = some x')
    (hs : P.underlying tx = some .string) (h : act (.len true x') T H = some (v, e, t)) : Quiet P γ w a o v ∧ e = .none ∧ t = .none := by
  have h1 := opn_sound hT hx
  simp only [act] at h
  split at h
  · rename_i s hp
    rw [hp] at h1
    simp at h
    obtain ⟨rfl, rfl, rfl⟩ := h
    generalize hval : a.eval x = vx at h1
    cases h1 with
    | d h1 =>
      cases h1
      exact ⟨⟨_, run_lenOp (ty := 0) ho hval (by simp [Builtin.len_, run_underlying hs, goInt]), .d (.i _ _)⟩, rfl, rfl⟩
  · simp at h

theorem q_len {x : Operand} {tx : TypeId} (ho : o.op = .call { callee := .builtin .len, args := #[x], argTypes := #[tx] }) (hT : RT γ w T a) {x' : Opn} (hx : opn x = some x')
    {el : TypeId} (hs : P.underlying tx = some (.slice el)) (h : act (.len false x') T H = some (v, e, t)) : Quiet P γ w a o v ∧ e = .none ∧ t = .none := by
  have h1 := opn_sound hT hx
  simp only [act] at h
  have run : ∀ b n c, a.eval x = .slice b n c → (execOp a.eval o).run P w = .ok (.value (.int .i64 (n : Int))) w := by
    intro b n c hval
    exact run_lenOp (ty := 0) ho hval (by simp [Builtin.len_, run_underlying hs, goInt])
  split at h
  · rename_i es hp
    rw [hp] at h1
    simp at h
    obtain ⟨rfl, rfl, rfl⟩ := h
    generalize hval : a.eval x = vx at h1
    cases h1 with
    | d h1 =>
      cases h1 with
      | nil b c => exact ⟨⟨_, run _ _ _ hval, .d (.i _ _)⟩, rfl, rfl⟩
      | sl g g1 hz hc hf => exact ⟨⟨_, run _ _ _ hval, .d (.i _ _)⟩, rfl, rfl⟩
  · rename_i hp
    rw [hp] at h1
    simp at h
    obtain ⟨rfl, rfl, rfl⟩ := h
    generalize hval : a.eval x = vx at h1
    cases h1
    exact ⟨⟨_, run _ _ _ hval, .d (.i _ _)⟩, rfl, rfl⟩
  · rename_i b hp
    rw [hp] at h1
    simp at h
    obtain ⟨rfl, rfl, rfl⟩ := h
    generalize hval : a.eval x = vx at h1
    cases h1 <;> exact ⟨⟨_, run _ _ _ hval, .d (.i _ _)⟩, rfl, rfl⟩
  · rename_i hp
    rw [hp] at h1
    simp at h
    obtain ⟨rfl, rfl, rfl⟩ := h
    generalize hval : a.eval x = vx at h1
    cases h1
    exact ⟨⟨_, run _ _ _ hval, .d (.i _ _)⟩, rfl, rfl⟩
  · rename_i ob g z off len hp
    rw [hp] at h1
    simp at h
    obtain ⟨rfl, rfl, rfl⟩ := h
    generalize hval : a.eval x = vx at h1
    cases h1 with
    | view hpl hg hc hb hh => exact ⟨⟨_, run _ _ _ hval, .d (.i _ _)⟩, rfl, rfl⟩
  · simp at h

theorem mmL_sound (mx : Bool) : ∀ {l : List AV} {vs : List Value} {k : IntKind} {x n : Int}, RVs γ w l vs → mmL mx k x l = some n →
    (vs.foldlM (if mx then Builtin.max2 else Builtin.min2) (.int k x)).run P w = .ok (.int k n) w
  | [], _, k, x, n, .nil, h => by simp [mmL] at h; subst h; simp
  | y :: l, _, k, x, n, .cons (v := u) hy ht, h => by
    cases y with
    | d y =>
      cases y with
      | i k' b =>
        simp only [mmL] at h
        split at h
        · rename_i hk
          subst hk
          cases hy with
          | d hy =>
            cases hy
            have ih := mmL_sound mx ht h
            have h2 := mm2_sound (P := P) (w := w) mx k x b
            cases mx
            · simp only [Bool.false_eq_true, if_false] at h2 ih ⊢
              simp [List.foldlM_cons, h2, ih]
            · simp only [if_true] at h2 ih ⊢
              simp [List.foldlM_cons, h2, ih]
        · simp at h
      | _ => simp [mmL] at h
    | _ => simp [mmL] at h

theorem q_mm {mx : Bool} {c : Call} (ho : o.op = .call c) (hc : c.callee = .builtin (if mx then .max else .min)) (hT : RT γ w T a) {l : List Opn} (hl : opns c.args.toList = some l)
    (h : act (.mm mx l) T H = some (v, e, t)) : Quiet P γ w a o v ∧ e = .none ∧ t = .none := by
  have h1 := opns_sound hT hl
  simp only [act] at h
  split at h
  · rename_i k x r hr
    rw [hr] at h1
    split at h
    · rename_i n hn
      simp at h
      obtain ⟨rfl, rfl, rfl⟩ := h
      refine ⟨⟨.int k n, ?_, .d (.i _ _)⟩, rfl, rfl⟩
      generalize hval : c.args.toList.map a.eval = vs at h1
      cases h1 with
      | @cons _ u _ us hx ht =>
        cases hx with
        | d hx =>
          cases hx
          have hfold := mmL_sound (P := P) mx ht hn
          have hm : (c.args.map a.eval).toList = .int k x :: us := by simp [hval]
          cases mx
          · simp only [Bool.false_eq_true, if_false] at hfold hc
            simp [execOp, ho, resolve, hc, invoke, builtin, Builtin.min_]
            simp at hm
            rw [hm]
            simp [hfold]
          · simp only [if_true] at hfold hc
            simp [execOp, ho, resolve, hc, invoke, builtin, Builtin.max_]
            simp at hm
            rw [hm]
            simp [hfold]
    · simp at h
  · simp at h

theorem q_isnil {op : BinOp} {ty ty' : TypeId} {x : Operand} {n c : Nat} (ho : o.op = .binOp op ty x (.const (.slice none n c)) ty') (hop : op = .eql ∨ op = .neq) (hT : RT γ w T a) {x' : Opn} (hx : opn x = some x') {el : TypeId} (hs : P.underlying ty = some (.slice el))
    (h : act (.isnil (op == .neq) x') T H = some (v, e, t)) : Quiet P γ w a o v ∧ e = .none ∧ t = .none := by
  have h1 := opn_sound hT hx
  have run : ∀ b m k, a.eval x = .slice b m k → (execOp a.eval o).run P w = .ok (.value (.bool (if (op == .neq) = true then !b.isNone else b.isNone))) w := by
    intro b m k hval
    have hg : (eqGuard op ty x (.const (.slice none n c)) (.slice b m k) (.slice none n c)).run P w = .ok () w := eqGuard_plain (by simp) (by simp)
    have he : (Op.equal ty (.slice b m k) (.slice none n c)).run P w = .ok b.isNone w := by
      have e1 : ∀ d, (Op.equalIn (d + 1) ty (.slice b m k) (.slice none n c)).run P w = .ok b.isNone w := by
        intro d
        cases b <;> simp [Op.equalIn, run_underlying hs]
      exact e1 9999
    have hc2 : a.eval (.const (.slice none n c)) = .slice none n c := rfl
    rcases hop with rfl | rfl
    · simp only [execOp, ho, hval, hc2, Sem.run_bind, hg, Result.andThen_ok, binOp, he, Sem.run_pure]; rfl
    · simp only [execOp, ho, hval, hc2, Sem.run_bind, hg, Result.andThen_ok, binOp, he, Sem.run_pure]; rfl
  simp only [act] at h
  split at h
  · rename_i b hp
    rw [hp] at h1
    simp only [Option.some.injEq, Prod.mk.injEq] at h
    obtain ⟨rfl, rfl, rfl⟩ := h
    generalize hval : a.eval x = vx at h1
    cases h1 with
    | e0t cap => exact ⟨⟨_, run _ _ _ hval, .d (.b _)⟩, rfl, rfl⟩
    | e0f ad cap => exact ⟨⟨_, run _ _ _ hval, .d (.b _)⟩, rfl, rfl⟩
  · rename_i hp
    rw [hp] at h1
    simp only [Option.some.injEq, Prod.mk.injEq] at h
    obtain ⟨rfl, rfl, rfl⟩ := h
    generalize hval : a.eval x = vx at h1
    cases h1
    refine ⟨⟨_, run _ _ _ hval, ?_⟩, rfl, rfl⟩
    have : (if (op == BinOp.neq) = true then !(none : Option Addr).isNone else (none : Option Addr).isNone) = !(op == .neq) := by cases (op == BinOp.neq) <;> rfl
    rw [this]
    exact .d (.b _)
  · rename_i y ys hp
    rw [hp] at h1
    simp only [Option.some.injEq, Prod.mk.injEq] at h
    obtain ⟨rfl, rfl, rfl⟩ := h
    generalize hval : a.eval x = vx at h1
    cases h1 with
    | d h1 =>
      cases h1 with
      | sl g g1 hz hc hf =>
        refine ⟨⟨_, run _ _ _ hval, ?_⟩, rfl, rfl⟩
        have : ∀ ad : Addr, (if (op == BinOp.neq) = true then !(some ad).isNone else (some ad).isNone) = (op == .neq) := by intro ad; cases (op == BinOp.neq) <;> rfl
        rw [this]
        exact .d (.b _)
  · rename_i ob g z off len hp
    rw [hp] at h1
    simp only [Option.some.injEq, Prod.mk.injEq] at h
    obtain ⟨rfl, rfl, rfl⟩ := h
    generalize hval : a.eval x = vx at h1
    cases h1 with
    | view hpl hg hc hb hh =>
      obtain ⟨blk, p, rfl⟩ := hb (by omega)
      refine ⟨⟨_, run _ _ _ hval, ?_⟩, rfl, rfl⟩
      have : ∀ ad : Addr, (if (op == BinOp.neq) = true then !(some ad).isNone else (some ad).isNone) = (op == .neq) := by intro ad; cases (op == BinOp.neq) <;> rfl
      rw [this]
      exact .d (.b _)
  · simp at h

end
end Pv
