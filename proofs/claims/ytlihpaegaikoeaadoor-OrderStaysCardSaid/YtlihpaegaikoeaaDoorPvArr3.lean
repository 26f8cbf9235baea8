/- The pure evaluator: append, slices made, copy, clear, as operations on the walk's own arrays. -/
import Derived.Test.YtlihpaegaikoeaaDoorPvArr2
set_option linter.all false
namespace Pv
open Go

def Gh.fixed (γ : Gh) (f : Nat → Nat → Prop) : Gh := { fix := fun b j => γ.fix b j ∨ f b j, pl := γ.pl }

section
variable {P : Program} {γ : Gh} {w : World} {T : Tm} {a : Act} {H : Heap} {o : Oper} {v : AV} {e : Eff} {t : Tch}

/-- A full view of an array. -/
theorem RV.full {ob : Nat} {u : Value} {z : Nat} {es : List DV} {wr : Bool} {g : Nat} (hp : γ.pl ob = .arr u z g) (hro : RArr γ w u z g es wr) : RV γ w (.view ob g z 0 g) u := by
  obtain ⟨vs, el, hr, hone, hrow⟩ := hro.row
  have hg := hro.hw
  rcases hrow.2 with ⟨rfl, h0⟩ | ⟨b, cap, cur, rfl, _, hb, hle, _⟩
  · have : g = 0 := by omega
    subst this
    exact .view hp (Nat.le_refl _) (Nat.le_refl _) (by omega) fun _ => ⟨rfl, by omega, fun _ => rfl, fun _ _ _ _ h => by omega⟩
  · subst hg
    refine .view hp (Nat.le_refl _) hle (fun _ => ⟨b, 0, rfl⟩) fun _ => ⟨rfl, by omega, fun _ => rfl, ?_⟩
    intro b' n cap' heq _
    injection heq with h1 h2 h3
    exact ⟨b, rfl, by rw [← h1]; simp⟩

theorem run_builtin {b : Builtin} {c : Call} (ho : o.op = .call c) (hc : c.callee = .builtin b) {f : Array TypeId → TypeId → Array Value → Sem Value}
    (hf : ∀ at_ ty cs args, builtin b at_ ty cs args = (do pure (.value (← f at_ ty args)))) {r : Value} {w' : World} (hr : (f c.argTypes o.type (c.args.map a.eval)).run P w = .ok r w') :
    (execOp a.eval o).run P w = .ok (.value r) w' := by
  simp [execOp, ho, resolve, hc, invoke, hf, hr]

/-- Data appended to nil, wherever. -/
theorem n_app {c : Call} (ho : o.op = .call c) (hc : c.callee = .builtin .append) {ty u : TypeId} (hat : c.argTypes.toList = [ty, u]) {x y : Operand} (har : c.args.toList = [x, y]) (hT : RT γ w T a) (hH : RH γ w H)
    {x' y' : Opn} (hx : opn x = some x') (hy : opn y = some y') {el : TypeId} {i : TypeInfo} {zav : AV} {d : TypeDesc} (ht : P.underlying ty = some (.slice el)) (hu : P.underlying u = some d) (hd : ∀ k, d ≠ .int k)
    (hi : P.info? el = some i) (hz : zeroOf P el = some zav) (hsz : 0 < i.size) (hby : i.bytes ≤ 4096) (hzl : zav.cells.length = i.size)
    {k : Nat} {cb : Ob} (hk : freeAt H k) (h : newAt (.app i.size x' y') T k = some (v, cb)) : Does P γ w a o v (Pv.putAt H k cb) := by
  have h1 := opn_sound hT hx
  have h2 := opn_sound hT hy
  obtain ⟨i2, zv, hi2, hzv, hcv⟩ := zeroOf_sound hz
  rw [hi] at hi2
  injection hi2 with hi2
  subst hi2
  have hzc := cvA_cells (γ := γ) (w := w) hcv
  have hzsz : zv.cells.size = i.size := by have := hzc.1.length; simp at this; omega
  have hat' : c.argTypes = #[ty, u] := by apply Array.ext'; simpa using hat
  have har' : c.args = #[x, y] := by apply Array.ext'; simpa using har
  have hrunOf : ∀ {r w'}, (Builtin.append_ #[ty, u] o.type #[a.eval x, a.eval y]).run P w = .ok r w' → (execOp a.eval o).run P w = .ok (.value r) w' := by
    intro r w' hr
    refine run_builtin (f := Builtin.append_) ho hc (fun _ _ _ _ => rfl) ?_
    rw [hat', har']
    simpa using hr
  simp only [newAt] at h
  split at h
  · rename_i ys hp hq
    split at h
    · rename_i hall'
      obtain ⟨hall, hlim⟩ := hall'
      simp only [Option.some.injEq, Prod.mk.injEq] at h
      obtain ⟨rfl, rfl⟩ := h
      have hys : elems H (ev T y') = some ys := by rw [hq]; rfl
      have hyz : ∀ e ∈ ys, e.cells.length = i.size := by simpa using hall
      obtain ⟨hlen, news, hnr, hn1, hfc⟩ := elems_sound (P := P) hH h2 hys hall hsz
      have hnl : news.length = ys.length * i.size := by rw [hnr.length, flat_length hyz]
      have hfc' : ∀ w' : World, w'.heap = w.heap → (Builtin.firstCells i.size ys.length (a.eval y)).run P w' = .ok news.toArray w' := by
        intro w' hw
        have := hfc w' hw ys.length (Nat.le_refl _)
        rwa [List.take_of_length_le (by omega)] at this
      have newBlk : ∀ (xs : List Value) (es : List DV) (cap : Nat), xs.length = es.length * i.size → (∀ x ∈ es, x.cells.length = i.size) → RDs γ.fix w (flat es) xs → ones xs → es.length + ys.length ≤ cap → cap ≤ maxLen →
          (w.drew.alloc (.cells (xs.toArray ++ news.toArray ++ Builtin.zeroCells zv.cells (cap - (es.length + ys.length))) el)).ownsRow 0 el i.size (.slice (some ⟨w.heap.size, 0, none⟩) (es.length + ys.length) cap) (es ++ ys).length (xs ++ news) := by
        intro xs es cap hxl hes hxr hx1 hcap hcm
        refine ⟨by simp [hxl, hnl, Nat.add_mul], .inr ⟨w.heap.size, cap, _, by simp, Nat.zero_le _, heap_alloc_new w.drew _, by simpa using hcap, hcm, ?_, ?_⟩⟩
        · simp only [Array.size_append, List.size_toArray, size_zeroCells, hzsz, hxl, hnl, ← Nat.add_mul]
          congr 1
          omega
        · simp only [Array.toList_append, List.append_assoc, List.length_append]
          rw [← List.append_assoc, show (es.length + ys.length) * i.size = (xs ++ news).length by simp [hxl, hnl, Nat.add_mul]]
          exact List.take_left
      have hgb : ∀ O, w.grownBy (w.drew.alloc O) none := fun O => ⟨rfl, rfl, rfl, by simp, fun k hk _ => heap_alloc_old w.drew _ k hk⟩
      rw [hp] at h1
      generalize hval : a.eval x = vx at h1 hrunOf
      cases h1
      rcases run_append_gen (P := P) (w := w) (rt := o.type) ht hu hd hi hzv (World.ownsRow_nil w 0 el i.size) hnl hn1 hlen hfc' (by omega) hby with ⟨g, cap, cur, h3, _⟩ | ⟨_, hm0, _, hrun⟩ | ⟨cap, hm0, hcap, hcm, hrun⟩
      · simp at h3
      · have hys0 : ys = [] := List.eq_nil_of_length_eq_zero hm0
        subst hys0
        have hro : RArr (γ.put k (.arr (.slice none 0 0) i.size 0)) w (.slice none 0 0) i.size 0 [] true :=
          ⟨rfl, by simp, hsz, ⟨[], el, .nil, by simp [ones], World.ownsRow_nil ..⟩, fun _ g hg => by simp [Value.ownBlock] at hg, fun hw => by simp at hw⟩
        have hgw : w.grownBy w none := ⟨rfl, rfl, rfl, Nat.le_refl _, fun _ _ _ => rfl⟩
        have hown : ∀ b, (Pl.arr (.slice none 0 0) i.size 0).own = some b → w.heap.size ≤ b := fun b hb => by simp [Pl.own, Value.ownBlock] at hb
        exact ⟨_, w, _, .inl (hrunOf hrun), RV.full (γ.put_same _ _) hro, RH.putAt hH hk hgw hown hro, Stp.newAt hH hk hgw hown⟩
      · simp only [Nat.zero_add] at hcap hrun
        have hnb := newBlk [] [] cap (by simp) (by simp) .nil (by simp [ones]) (by simpa using hcap) hcm
        simp only [List.length_nil, Nat.zero_add, List.nil_append] at hnb
        have hown : ∀ b, (Pl.arr (.slice (some ⟨w.heap.size, 0, none⟩) ys.length cap) i.size ys.length).own = some b → w.heap.size ≤ b := fun b hb => by simp [Pl.own, Value.ownBlock] at hb; omega
        have hstp := Stp.newAt hH hk (hgb (.cells (#[] ++ news.toArray ++ Builtin.zeroCells zv.cells (cap - ys.length)) el)) hown
        have hro : RArr (γ.put k (.arr (.slice (some ⟨w.heap.size, 0, none⟩) ys.length cap) i.size ys.length)) (w.drew.alloc (.cells (#[] ++ news.toArray ++ Builtin.zeroCells zv.cells (cap - ys.length)) el))
            (.slice (some ⟨w.heap.size, 0, none⟩) ys.length cap) i.size ys.length ys true :=
          ⟨rfl, hyz, hsz, ⟨news, el, hnr.mono hstp.fix, hn1, hnb⟩, fun _ g hg j hj => by
            simp [Value.ownBlock] at hg
            have := hH.fixb g j hj
            omega, fun hw => by simp at hw⟩
        exact ⟨_, _, _, .inl (hrunOf hrun), RV.full (γ.put_same _ _) hro, RH.putAt hH hk (hgb _) hown hro, hstp⟩
    · simp at h
  · simp at h

theorem does_app {c : Call} (ho : o.op = .call c) (hc : c.callee = .builtin .append) {ty u : TypeId} (hat : c.argTypes.toList = [ty, u]) {x y : Operand} (har : c.args.toList = [x, y]) (hT : RT γ w T a) (hH : RH γ w H)
    {x' y' : Opn} (hx : opn x = some x') (hy : opn y = some y') {el : TypeId} {i : TypeInfo} {zav : AV} {d : TypeDesc} (ht : P.underlying ty = some (.slice el)) (hu : P.underlying u = some d) (hd : ∀ k, d ≠ .int k)
    (hi : P.info? el = some i) (hz : zeroOf P el = some zav) (hsz : 0 < i.size) (hby : i.bytes ≤ 4096) (hzl : zav.cells.length = i.size)
    (h : act (.app i.size x' y') T H = some (v, e, t)) : Does P γ w a o v (e.on H) := by
  have h1 := opn_sound hT hx
  have h2 := opn_sound hT hy
  obtain ⟨i2, zv, hi2, hzv, hcv⟩ := zeroOf_sound hz
  rw [hi] at hi2
  injection hi2 with hi2
  subst hi2
  have hzc := cvA_cells (γ := γ) (w := w) hcv
  have hzsz : zv.cells.size = i.size := by have := hzc.1.length; simp at this; omega
  have hat' : c.argTypes = #[ty, u] := by apply Array.ext'; simpa using hat
  have har' : c.args = #[x, y] := by apply Array.ext'; simpa using har
  have hrunOf : ∀ {r w'}, (Builtin.append_ #[ty, u] o.type #[a.eval x, a.eval y]).run P w = .ok r w' → (execOp a.eval o).run P w = .ok (.value r) w' := by
    intro r w' hr
    refine run_builtin (f := Builtin.append_) ho hc (fun _ _ _ _ => rfl) ?_
    rw [hat', har']
    simpa using hr
  simp only [act] at h
  split at h
  · rename_i ys hys
    split at h
    · rename_i hall
      have hyz : ∀ e ∈ ys, e.cells.length = i.size := by simpa using hall
      obtain ⟨hlen, news, hnr, hn1, hfc⟩ := elems_sound (P := P) hH h2 hys hall hsz
      have hnl : news.length = ys.length * i.size := by rw [hnr.length, flat_length hyz]
      have hfc' : ∀ w' : World, w'.heap = w.heap → (Builtin.firstCells i.size ys.length (a.eval y)).run P w' = .ok news.toArray w' := by
        intro w' hw
        have := hfc w' hw ys.length (Nat.le_refl _)
        rwa [List.take_of_length_le (by omega)] at this
      have newBlk : ∀ (xs : List Value) (es : List DV) (cap : Nat), xs.length = es.length * i.size → (∀ x ∈ es, x.cells.length = i.size) → RDs γ.fix w (flat es) xs → ones xs → es.length + ys.length ≤ cap → cap ≤ maxLen →
          (w.drew.alloc (.cells (xs.toArray ++ news.toArray ++ Builtin.zeroCells zv.cells (cap - (es.length + ys.length))) el)).ownsRow 0 el i.size (.slice (some ⟨w.heap.size, 0, none⟩) (es.length + ys.length) cap) (es ++ ys).length (xs ++ news) := by
        intro xs es cap hxl hes hxr hx1 hcap hcm
        refine ⟨by simp [hxl, hnl, Nat.add_mul], .inr ⟨w.heap.size, cap, _, by simp, Nat.zero_le _, heap_alloc_new w.drew _, by simpa using hcap, hcm, ?_, ?_⟩⟩
        · simp only [Array.size_append, List.size_toArray, size_zeroCells, hzsz, hxl, hnl, ← Nat.add_mul]
          congr 1
          omega
        · simp only [Array.toList_append, List.append_assoc, List.length_append]
          rw [← List.append_assoc, show (es.length + ys.length) * i.size = (xs ++ news).length by simp [hxl, hnl, Nat.add_mul]]
          exact List.take_left
      have hgb : ∀ O, w.grownBy (w.drew.alloc O) none := fun O => ⟨rfl, rfl, rfl, by simp, fun k hk _ => heap_alloc_old w.drew _ k hk⟩
      split at h
      · -- onto nil
        rename_i hp
        rw [hp] at h1
        split at h
        · rename_i hlim
          simp at h
          obtain ⟨rfl, rfl, rfl⟩ := h
          generalize hval : a.eval x = vx at h1 hrunOf
          cases h1
          rcases run_append_gen (P := P) (w := w) (rt := o.type) ht hu hd hi hzv (World.ownsRow_nil w 0 el i.size) hnl hn1 hlen hfc' (by omega) hby with ⟨g, cap, cur, h3, _⟩ | ⟨_, hm0, _, hrun⟩ | ⟨cap, hm0, hcap, hcm, hrun⟩
          · simp at h3
          · have hys0 : ys = [] := List.eq_nil_of_length_eq_zero hm0
            subst hys0
            have hro : RArr (γ.put H.length (.arr (.slice none 0 0) i.size 0)) w (.slice none 0 0) i.size 0 [] true :=
              ⟨rfl, by simp, hsz, ⟨[], el, .nil, by simp [ones], World.ownsRow_nil ..⟩, fun _ g hg => by simp [Value.ownBlock] at hg, fun hw => by simp at hw⟩
            have hgw : w.grownBy w none := ⟨rfl, rfl, rfl, Nat.le_refl _, fun _ _ _ => rfl⟩
            have hown : ∀ b, (Pl.arr (.slice none 0 0) i.size 0).own = some b → w.heap.size ≤ b := fun b hb => by simp [Pl.own, Value.ownBlock] at hb
            exact ⟨_, w, _, .inl (hrunOf hrun), RV.full (γ.put_same _ _) hro, RH.push hH hgw hown hro, Stp.new hH hgw hown⟩
          · simp only [Nat.zero_add] at hcap hrun
            have hnb := newBlk [] [] cap (by simp) (by simp) .nil (by simp [ones]) (by simpa using hcap) hcm
            simp only [List.length_nil, Nat.zero_add, List.nil_append] at hnb
            have hown : ∀ b, (Pl.arr (.slice (some ⟨w.heap.size, 0, none⟩) ys.length cap) i.size ys.length).own = some b → w.heap.size ≤ b := fun b hb => by simp [Pl.own, Value.ownBlock] at hb; omega
            have hstp := Stp.new hH (hgb (.cells (#[] ++ news.toArray ++ Builtin.zeroCells zv.cells (cap - ys.length)) el)) hown
            have hro : RArr (γ.put H.length (.arr (.slice (some ⟨w.heap.size, 0, none⟩) ys.length cap) i.size ys.length)) (w.drew.alloc (.cells (#[] ++ news.toArray ++ Builtin.zeroCells zv.cells (cap - ys.length)) el))
                (.slice (some ⟨w.heap.size, 0, none⟩) ys.length cap) i.size ys.length ys true :=
              ⟨rfl, hyz, hsz, ⟨news, el, hnr.mono hstp.fix, hn1, hnb⟩, fun _ g hg j hj => by
                simp [Value.ownBlock] at hg
                have := hH.fixb g j hj
                omega, fun hw => by simp at hw⟩
            exact ⟨_, _, _, .inl (hrunOf hrun), RV.full (γ.put_same _ _) hro, RH.push hH (hgb _) hown hro, hstp⟩
        · simp at h
      · -- onto an empty one without capacity
        rename_i hp
        rw [hp] at h1
        split at h
        · simp at h
          obtain ⟨rfl, rfl, rfl⟩ := h
          generalize hval : a.eval x = vx at h1 hrunOf
          cases h1 with
          | z0 b =>
            have hn0 : news = [] := List.eq_nil_of_length_eq_zero (by simpa using hnl)
            subst hn0
            exact ⟨_, w, γ, .inl (hrunOf (run_append_z0' ht hu hd hi b hlen (fun w' hw => by simpa using hfc' w' hw))), .z0 b, hH, .refl _ _⟩
        · rename_i y0 ys0
          split at h
          · rename_i hlim
            simp at h
            obtain ⟨rfl, rfl, rfl⟩ := h
            generalize hval : a.eval x = vx at h1 hrunOf
            cases h1 with
            | z0 b =>
              obtain ⟨cap, hcap, hcm, hrun⟩ := run_append_z0 (P := P) (w := w) (rt := o.type) ht hu hd hi hzv b hnl hlen hfc' (by simpa using hlim) hby (by simp)
              generalize hyy : y0 :: ys0 = ys at *
              have hnb := newBlk [] [] cap (by simp) (by simp) .nil (by simp [ones]) (by simpa using hcap) hcm
              simp only [List.length_nil, Nat.zero_add, List.nil_append] at hnb
              have hown : ∀ b, (Pl.arr (.slice (some ⟨w.heap.size, 0, none⟩) ys.length cap) i.size ys.length).own = some b → w.heap.size ≤ b := fun b hb => by simp [Pl.own, Value.ownBlock] at hb; omega
              have hstp := Stp.new hH (hgb (.cells (#[] ++ news.toArray ++ Builtin.zeroCells zv.cells (cap - ys.length)) el)) hown
              have hro : RArr (γ.put H.length (.arr (.slice (some ⟨w.heap.size, 0, none⟩) ys.length cap) i.size ys.length)) (w.drew.alloc (.cells (#[] ++ news.toArray ++ Builtin.zeroCells zv.cells (cap - ys.length)) el))
                  (.slice (some ⟨w.heap.size, 0, none⟩) ys.length cap) i.size ys.length ys true :=
                ⟨rfl, hyz, hsz, ⟨news, el, hnr.mono hstp.fix, hn1, hnb⟩, fun _ g hg j hj => by
                  simp [Value.ownBlock] at hg
                  have := hH.fixb g j hj
                  omega, fun hw => by simp at hw⟩
              have hys' : ys0.length + 1 = ys.length := by rw [← hyy]; rfl
              rw [hys']
              exact ⟨_, _, _, .inl (hrunOf hrun), RV.full (γ.put_same _ _) hro, RH.push hH (hgb _) hown hro, hstp⟩
          · simp at h
      · -- onto an array of the walk's own
        rename_i ob g z' off len hp
        rw [hp] at h1
        split at h
        · rename_i es wr hob
          split at h
          · rename_i hcond
            obtain ⟨hg0, hz0, hoff, hlen0, hlim⟩ := hcond
            simp at h
            obtain ⟨rfl, rfl, rfl⟩ := h
            subst hz0; subst hoff; subst hlen0
            generalize hval : a.eval x = vx at h1 hrunOf
            cases h1 with
            | @view _ _ _ _ _ b cap0 u0 yy g' hpl hg hcc hb hh =>
              have hro := hH.ob _ _ hob
              rw [hpl] at hro
              have hro : RArr γ w u0 yy g' es wr := hro
              have hgg : len = g' := by rw [hro.hw]; omega
              have hv := hh hgg
              have hzz := hv.zz
              subst hzz
              have hob_lt := (List.getElem?_eq_some_iff.1 hob).1
              obtain ⟨vs, el', hr, hone, hrow⟩ := hro.row
              have hu0 : u0 = .slice b len cap0 := by
                have hd := hv.head rfl
                rcases hrow.2 with ⟨rfl, hn⟩ | ⟨gb, cap, cur, rfl, _⟩
                · simp only [withLen] at hd
                  injection hd with e1 e2 e3
                  subst e1; subst e3
                  have : len = 0 := by omega
                  subst this
                  rfl
                · simp only [withLen] at hd
                  rw [hd, hg0]
              subst hu0
              have hown0 : (γ.pl ob).own = (Value.slice b len cap0).ownBlock := by rw [hpl]; rfl
              have hsz2 : ∀ x ∈ es ++ ys, x.cells.length = i.size := by
                intro x hx
                rcases List.mem_append.1 hx with hx | hx
                · exact hro.sz x hx
                · exact hyz x hx
              have hvl : vs.length = es.length * i.size := hrow.1
              rcases run_append_gen (P := P) (w := w) (rt := o.type) ht hu hd hi hzv hrow hnl hn1 hlen hfc' hlim hby with ⟨g, cap, cur, h3, hcap, hcm, hblk, hcs, htk, hrun⟩ | ⟨hn0, hm0, h3, hrun⟩ | ⟨cap, hm0, hcap, hcm, hrun⟩
              · -- in place
                injection h3 with e1 e2 e3
                subst e1; subst e3; subst e2
                have hog : (γ.pl ob).own = some g := by rw [hown0]; rfl
                have hcapz : (es.length + ys.length) * i.size ≤ cap0 * i.size := Nat.mul_le_mul_right _ hcap
                rw [Nat.add_mul] at hcapz
                have hcl : cur.toList.length = cap0 * i.size := by simpa using hcs
                have hfitu : es.length * i.size + news.length ≤ cur.toList.length := by rw [hcl, hnl]; exact hcapz
                let γ' : Gh := { fix := fun b j => γ.fix b j ∨ (wr = false ∧ b = g ∧ j < (es.length + ys.length) * i.size), pl := (γ.put ob (.arr (.slice (some ⟨g, 0, none⟩) (es.length + ys.length) cap0) i.size (es.length + ys.length))).pl }
                let w' := w.setRow g (upd cur.toList (es.length * i.size) news).toArray
                have hplo : γ'.pl ob = .arr (.slice (some ⟨g, 0, none⟩) (es.length + ys.length) cap0) i.size (es.length + ys.length) := γ.put_same _ _
                have hpln : ∀ k, k ≠ ob → γ'.pl k = γ.pl k := fun k hk => γ.put_ne _ hk
                have hstp : Stp γ w γ' w' := by
                  refine ⟨rfl, rfl, rfl, by rw [setRow_size]; exact Nat.le_refl _, ?_, ?_, ?_, ?_, ?_⟩
                  · intro b j hf
                    refine ⟨.inl hf, ?_⟩
                    by_cases hbg : b = g
                    · subst hbg
                      cases wr with
                      | true => exact absurd hf (hro.mu rfl b rfl j)
                      | false =>
                        have hj := (hro.im rfl b rfl j).1 hf
                        rw [cell_setRow_same w b j cur _ _ _ hblk, cell_of_row w b j cur _ _ hblk]
                        simp only [upd, List.getElem?_toArray]
                        rw [List.getElem?_append_left (by simp; omega), List.getElem?_take, if_pos hj]
                        simp
                    · exact cell_same (setRow_other w g b _ hbg)
                  · intro b j hf
                    rcases hf with hf | ⟨_, rfl, _⟩
                    · exact .inl hf
                    · exact .inr (.inl ⟨ob, hog⟩)
                  · intro k
                    by_cases hk : k = ob
                    · subst hk
                      rw [hplo, hpl]
                      refine ⟨_, _, rfl, by omega, fun he => ?_⟩
                      have : ys.length = 0 := by omega
                      rw [this]
                      rfl
                    · rw [hpln k hk]; exact .refl _
                  · intro b hb hn
                    exact setRow_other w g b _ (fun he => hn ob (he ▸ hog))
                  · intro k b hb
                    by_cases hk : k = ob
                    · subst hk
                      rw [hplo] at hb
                      simp [Pl.own, Value.ownBlock] at hb
                      subst hb
                      exact .inl ⟨k, hog⟩
                    · rw [hpln k hk] at hb; exact .inl ⟨k, hb⟩
                have hro' : RArr γ' w' (.slice (some ⟨g, 0, none⟩) (es.length + ys.length) cap0) i.size (es.length + ys.length) (es ++ ys) wr := by
                  refine ⟨by simp, hsz2, hsz, ⟨vs ++ news, el', ?_, hone.append hn1, ?_⟩, ?_, ?_⟩
                  · rw [flat_append]
                    exact (hr.append hnr).mono hstp.fix
                  · refine ⟨by simp [hvl, hnl, Nat.add_mul], .inr ⟨g, cap0, _, by simp, Nat.zero_le _, setRow_heap w g cur _ _ _ hblk, by simpa using hcap, hcm, ?_, ?_⟩⟩
                    · simp
                      rw [length_upd _ _ _ hfitu]
                      exact hcl
                    · simp only [upd, List.length_append]
                      rw [← htk]
                      have := take_app (A := cur.toList.take (es.length * i.size)) (B := news) (C := cur.toList.drop (es.length * i.size + news.length)) (x := es.length * i.size) (y := ys.length * i.size) (m := 0) (by simp; omega) hnl
                      simp only [Nat.add_zero, List.take_zero, List.append_nil] at this
                      rw [Nat.add_mul]
                      exact this
                  · intro hw g2 hg2 j hj
                    simp [Value.ownBlock] at hg2
                    subst hg2
                    rcases hj with hj | ⟨hj, _⟩
                    · exact hro.mu hw g rfl j hj
                    · rw [hw] at hj; simp at hj
                  · intro hw g2 hg2 j
                    simp [Value.ownBlock] at hg2
                    subst hg2
                    simp only [List.length_append]
                    constructor
                    · rintro (hj | ⟨_, _, hj⟩)
                      · have := (hro.im hw g rfl j).1 hj
                        rw [Nat.add_mul]; omega
                      · exact hj
                    · intro hj
                      exact .inr ⟨hw, rfl, hj⟩
                refine ⟨_, w', γ', .inl (hrunOf hrun), RV.full hplo hro', ?_, hstp⟩
                refine hH.set' hstp hob_lt hpln ?_ ?_ ?_ (by rw [hplo]; exact hro')
                · intro k hk b hb
                  have hbg : b ≠ g := fun he => hk (hH.inj k ob g (he ▸ hb) hog)
                  refine ⟨setRow_other w g b _ hbg, ?_⟩
                  rintro j (hj | ⟨_, hj, _⟩)
                  · exact hj
                  · exact absurd hj hbg
                · intro b hb
                  rw [hplo] at hb
                  simp [Pl.own, Value.ownBlock] at hb
                  subst hb
                  exact .inl hog
                · rintro b j (hf | ⟨_, rfl, _⟩)
                  · show b < (w.setRow _ _).heap.size
                    rw [setRow_size]; exact hH.fixb b j hf
                  · show b < (w.setRow _ _).heap.size
                    rw [setRow_size]; exact hH.own_lt hog
              · -- nothing onto nothing
                have hys0 : ys = [] := List.eq_nil_of_length_eq_zero hm0
                have hes0 : es = [] := List.eq_nil_of_length_eq_zero hn0
                subst hys0; subst hes0
                have hHs : (Eff.set ob (Ob.arr ([] ++ []) wr)).on H = H := by
                  simp only [Eff.on, List.append_nil]
                  apply List.ext_getElem?
                  intro k
                  by_cases hk : k = ob
                  · subst hk
                    rw [List.getElem?_set_self hob_lt, hob]
                  · rw [List.getElem?_set_ne (by omega)]
                rw [hHs]
                refine ⟨_, w, γ, .inl (hrunOf hrun), ?_, hH, .refl _ _⟩
                have hl0 : len = 0 := by simpa using hg0.symm
                subst hl0
                subst hgg
                exact RV.full hpl hro
              · -- a new block
                have hnb := newBlk vs es cap hvl hro.sz hr hone hcap hcm
                let O : Obj := .cells (vs.toArray ++ news.toArray ++ Builtin.zeroCells zv.cells (cap - (es.length + ys.length))) el
                let γ' : Gh := { fix := fun b j => γ.fix b j ∨ (wr = false ∧ b = w.heap.size ∧ j < (es.length + ys.length) * i.size), pl := (γ.put ob (.arr (.slice (some ⟨w.heap.size, 0, none⟩) (es.length + ys.length) cap) i.size (es.length + ys.length))).pl }
                have hplo : γ'.pl ob = .arr (.slice (some ⟨w.heap.size, 0, none⟩) (es.length + ys.length) cap) i.size (es.length + ys.length) := γ.put_same _ _
                have hpln : ∀ k, k ≠ ob → γ'.pl k = γ.pl k := fun k hk => γ.put_ne _ hk
                have hgw := hgb O
                have hstp : Stp γ w γ' (w.drew.alloc O) := by
                  refine ⟨rfl, rfl, rfl, hgw.size, ?_, ?_, ?_, ?_, ?_⟩
                  · intro b j hf
                    exact ⟨.inl hf, cell_same (hgw.block b (hH.fixb b j hf) (by simp))⟩
                  · intro b j hf
                    rcases hf with hf | ⟨_, rfl, _⟩
                    · exact .inl hf
                    · exact .inr (.inr (Nat.le_refl _))
                  · intro k
                    by_cases hk : k = ob
                    · subst hk
                      rw [hplo, hpl]
                      exact ⟨_, _, rfl, by omega, fun he => by omega⟩
                    · rw [hpln k hk]; exact .refl _
                  · intro b hb _
                    exact hgw.block b hb (by simp)
                  · intro k b hb
                    by_cases hk : k = ob
                    · subst hk
                      rw [hplo] at hb
                      simp [Pl.own, Value.ownBlock] at hb
                      exact .inr (by omega)
                    · rw [hpln k hk] at hb; exact .inl ⟨k, hb⟩
                have hro' : RArr γ' (w.drew.alloc O) (.slice (some ⟨w.heap.size, 0, none⟩) (es.length + ys.length) cap) i.size (es.length + ys.length) (es ++ ys) wr := by
                  refine ⟨by simp, hsz2, hsz, ⟨vs ++ news, el, ?_, hone.append hn1, hnb⟩, ?_, ?_⟩
                  · rw [flat_append]
                    exact (hr.append hnr).mono hstp.fix
                  · intro hw g2 hg2 j hj
                    simp [Value.ownBlock] at hg2
                    subst hg2
                    rcases hj with hj | ⟨hj, _⟩
                    · have := hH.fixb _ j hj; omega
                    · rw [hw] at hj; simp at hj
                  · intro hw g2 hg2 j
                    simp [Value.ownBlock] at hg2
                    subst hg2
                    simp only [List.length_append]
                    constructor
                    · rintro (hj | ⟨_, _, hj⟩)
                      · have := hH.fixb _ j hj; omega
                      · exact hj
                    · intro hj
                      exact .inr ⟨hw, rfl, hj⟩
                refine ⟨_, _, γ', .inl (hrunOf hrun), RV.full hplo hro', ?_, hstp⟩
                refine hH.set' hstp hob_lt hpln ?_ ?_ ?_ (by rw [hplo]; exact hro')
                · intro k hk b hb
                  have hlt := hH.own_lt hb
                  refine ⟨hgw.block b hlt (by simp), ?_⟩
                  rintro j (hj | ⟨_, hj, _⟩)
                  · exact hj
                  · omega
                · intro b hb
                  rw [hplo] at hb
                  simp [Pl.own, Value.ownBlock] at hb
                  exact .inr (by omega)
                · rintro b j (hf | ⟨_, rfl, _⟩)
                  · have := hH.fixb b j hf
                    exact Nat.lt_of_lt_of_le this hgw.size
                  · simp
          · simp at h
        · simp at h
      · simp at h
    · simp at h
  · simp at h

end
end Pv
