/- The pure evaluator: operations that touch objects: loads, new variables, stores. -/
import Derived.Test.YtlihpaegaikoeaaDoorPvBuild
set_option linter.all false
namespace Pv
open Go

def Gh.put (γ : Gh) (o : Nat) (p : Pl) : Gh := { fix := γ.fix, pl := fun i => if i = o then p else γ.pl i }

theorem Gh.put_same (γ : Gh) (o : Nat) (p : Pl) : (γ.put o p).pl o = p := by simp [Gh.put]
theorem Gh.put_ne (γ : Gh) {o i : Nat} (p : Pl) (h : i ≠ o) : (γ.put o p).pl i = γ.pl i := by simp [Gh.put, h]

/-- What an operation does. -/
def Does (P : Program) (γ : Gh) (w : World) (a : Act) (o : Oper) (v : AV) (H' : Heap) : Prop :=
  ∃ v' w' γ', ((execOp a.eval o).run P w = .ok (.value v') w' ∨ ((execOp a.eval o).run P w = .ok .skip w' ∧ v' = undef)) ∧ RV γ' w' v v' ∧ RH γ' w' H' ∧ Stp γ w γ' w'

section
variable {P : Program} {γ : Gh} {w : World} {T : Tm} {a : Act} {H : Heap} {o : Oper} {v : AV} {e : Eff} {t : Tch}

theorem Quiet.does (h : Quiet P γ w a o v) (hH : RH γ w H) : Does P γ w a o v H := by
  obtain ⟨v', h1, h2⟩ := h
  exact ⟨v', w, γ, .inl h1, h2, hH, .refl _ _⟩

theorem ownsRow_same {w' : World} {base : Nat} {el : TypeId} {z : Nat} {u : Value} {n : Nat} {xs : List Value} (h : w.ownsRow base el z u n xs) (hb : ∀ b, u.ownBlock = some b → w'.heap[b]? = w.heap[b]?) : w'.ownsRow base el z u n xs := by
  refine ⟨h.1, ?_⟩
  rcases h.2 with hn | ⟨g, cap, cur, rfl, h0, hg, rest⟩
  · exact .inl hn
  · exact .inr ⟨g, cap, cur, rfl, h0, by rw [hb g rfl]; exact hg, rest⟩

theorem RO.keepE {γ' : Gh} {w' : World} {p : Pl} {ob : Ob} (hs : Ext γ w γ' w') (hb : ∀ b, p.own = some b → w'.heap[b]? = w.heap[b]?) (hf : ∀ b, p.own = some b → ∀ j, γ'.fix b j → γ.fix b j)
    (h : RO γ w p ob) : RO γ' w' p ob := by
  cases p with
  | no => cases ob <;> exact h
  | box b =>
    cases ob with
    | box x =>
      obtain ⟨⟨vs, ty, h1, h2, h3⟩, h4⟩ := h
      exact ⟨⟨vs, ty, by rw [hb b rfl]; exact h1, h2.ext hs, h3⟩, fun j hj => h4 j (hf b rfl j hj)⟩
    | arr es wr => exact h
    | map k kvs => exact h
    | hole => exact h
  | map b =>
    cases ob with
    | map k kvs =>
      obtain ⟨⟨es, ck, h1, h2⟩, h4⟩ := h
      exact ⟨⟨es, ck, by rw [hb b rfl]; exact h1, h2.mono hs.fix⟩, fun j hj => h4 j (hf b rfl j hj)⟩
    | box x => exact h
    | arr es wr => exact h
    | hole => exact h
  | arr u z hw =>
    cases ob with
    | box x => exact h
    | map k kvs => exact h
    | hole => exact h
    | arr es wr =>
      obtain ⟨h1, h2, h3, ⟨vs, el, h4, h5, h6⟩, h7, h8⟩ := h
      exact ⟨h1, h2, h3, ⟨vs, el, h4.mono hs.fix, h5, ownsRow_same h6 hb⟩, fun hw g hg j hj => h7 hw g hg j (hf g hg j hj),
        fun hw g hg j => ⟨fun hj => (h8 hw g hg j).1 (hf g hg j hj), fun hj => (hs.fix g j ((h8 hw g hg j).2 hj)).1⟩⟩

theorem RO.keep {γ' : Gh} {w' : World} {p : Pl} {ob : Ob} (hs : Stp γ w γ' w') (hb : ∀ b, p.own = some b → w'.heap[b]? = w.heap[b]?) (hf : ∀ b, p.own = some b → ∀ j, γ'.fix b j → γ.fix b j)
    (h : RO γ w p ob) : RO γ' w' p ob := h.keepE hs.ext hb hf

theorem RO.own_lt {p : Pl} {ob : Ob} (h : RO γ w p ob) {b : Nat} (hb : p.own = some b) : b < w.heap.size := by
  cases p with
  | no => simp [Pl.own] at hb
  | box b' =>
    cases ob with
    | box x =>
      obtain ⟨⟨vs, ty, h1, _⟩, _⟩ := h
      simp [Pl.own] at hb
      subst hb
      exact (Array.getElem?_eq_some_iff.1 h1).1
    | arr es wr => exact h.elim
    | map k kvs => exact h.elim
    | hole => exact h.elim
  | map b' =>
    cases ob with
    | map k kvs =>
      obtain ⟨⟨es, ck, h1, _⟩, _⟩ := h
      simp [Pl.own] at hb
      subst hb
      exact (Array.getElem?_eq_some_iff.1 h1).1
    | box x => exact h.elim
    | arr es wr => exact h.elim
    | hole => exact h.elim
  | arr u z hw =>
    cases ob with
    | box x => exact h.elim
    | map k kvs => exact h.elim
    | hole => exact h.elim
    | arr es wr =>
      obtain ⟨vs, _, _, _, h6⟩ := h.row
      exact (h6.lt b hb).2

theorem RH.own_lt (hH : RH γ w H) {o b : Nat} (hb : (γ.pl o).own = some b) : b < w.heap.size := by
  by_cases ho : o < H.length
  · exact (hH.ob o _ (List.getElem?_eq_getElem ho)).own_lt hb
  · rw [hH.out o (by omega)] at hb
    simp [Pl.own] at hb

theorem cell_same {w' : World} {b j : Nat} (h : w'.heap[b]? = w.heap[b]?) : w'.cell? ⟨b, j, none⟩ = w.cell? ⟨b, j, none⟩ := by
  simp [World.cell?, h]

theorem Stp.new (hH : RH γ w H) {w' : World} (hg : w.grownBy w' none) {p : Pl} (hown : ∀ b, p.own = some b → w.heap.size ≤ b) : Stp γ w (γ.put H.length p) w' where
  os := hg.os
  tape := hg.tape
  output := hg.output
  size := hg.size
  fix b j hf := ⟨hf, cell_same (hg.block b (hH.fixb b j hf) (by simp))⟩
  nfix b j hf := .inl hf
  pl i := by
    by_cases hi : i = H.length
    · subst hi
      rw [hH.out _ (Nat.le_refl _)]
      trivial
    · rw [γ.put_ne p hi]
      exact .refl _
  other b hb _ := hg.block b hb (by simp)
  own i b hb := by
    by_cases hi : i = H.length
    · subst hi
      rw [γ.put_same] at hb
      exact .inr (hown b hb)
    · rw [γ.put_ne p hi] at hb
      exact .inl ⟨i, hb⟩

theorem RH.push (hH : RH γ w H) {w' : World} (hg : w.grownBy w' none) {p : Pl} (hown : ∀ b, p.own = some b → w.heap.size ≤ b) {ob : Ob} (hp : RO (γ.put H.length p) w' p ob) :
    RH (γ.put H.length p) w' (H ++ [ob]) where
  ob i b hi := by
    by_cases hlt : i < H.length
    · rw [List.getElem?_append_left hlt] at hi
      rw [γ.put_ne p (by omega)]
      exact RO.keep (Stp.new hH hg hown) (fun b hb => hg.block b (hH.own_lt hb) (by simp)) (fun b hb j hj => hj) (hH.ob i b hi)
    · have : i = H.length := by
        have := (List.getElem?_eq_some_iff.1 hi).1
        simp at this
        omega
      subst this
      simp at hi
      subst hi
      rw [γ.put_same]
      exact hp
  out i hi := by
    simp at hi
    rw [γ.put_ne p (by omega)]
    exact hH.out i (by omega)
  inj i i' b h1 h2 := by
    by_cases e1 : i = H.length <;> by_cases e2 : i' = H.length
    · omega
    · subst e1
      rw [γ.put_same] at h1
      rw [γ.put_ne p e2] at h2
      have := hH.own_lt h2
      have := hown b h1
      omega
    · subst e2
      rw [γ.put_same] at h2
      rw [γ.put_ne p e1] at h1
      have := hH.own_lt h1
      have := hown b h2
      omega
    · rw [γ.put_ne p e1] at h1
      rw [γ.put_ne p e2] at h2
      exact hH.inj i i' b h1 h2
  fixb b j hf := Nat.lt_of_lt_of_le (hH.fixb b j hf) hg.size

theorem putAt_get (H : Heap) (k i : Nat) (c : Ob) : (putAt H k c)[i]? = if i = k then some c else if i < H.length then H[i]? else if i < k then some .hole else none := by
  unfold putAt
  split
  · rename_i hk
    by_cases hi : i = k
    · subst hi; simp [hk]
    · rw [List.getElem?_set_ne (Ne.symm hi), if_neg hi]
      split
      · rfl
      · rw [List.getElem?_eq_none (by omega), if_neg (by omega)]
  · rename_i hk
    by_cases hi : i < H.length
    · rw [List.getElem?_append_left hi, if_neg (by omega), if_pos hi]
    · rw [List.getElem?_append_right (by omega)]
      by_cases hik : i < k
      · rw [List.getElem?_append_left (by simp; omega), if_neg (by omega), if_neg hi, if_pos hik, List.getElem?_replicate, if_pos (by omega)]
      · rw [List.getElem?_append_right (by simp; omega)]
        by_cases he : i = k
        · subst he; simp
        · rw [if_neg he, if_neg hi, if_neg hik, List.getElem?_eq_none (by simp; omega)]
theorem putAt_len (H : Heap) (k : Nat) (c : Ob) : (putAt H k c).length = max H.length (k + 1) := by
  unfold putAt
  split
  · simp; omega
  · simp; omega
theorem putAt_end (H : Heap) (c : Ob) : putAt H H.length c = H ++ [c] := by simp [putAt]
theorem freeAt_end (H : Heap) : freeAt H H.length := .inl (Nat.le_refl _)

theorem freeAt.no (hH : RH γ w H) {k : Nat} (hk : freeAt H k) : γ.pl k = .no := by
  rcases hk with h | h
  · exact hH.out k h
  · have := hH.ob k _ h
    cases hp : γ.pl k with
    | no => rfl
    | box b => rw [hp] at this; exact this.elim
    | map b => rw [hp] at this; exact this.elim
    | arr u z g => rw [hp] at this; exact this.elim

theorem Stp.newAt (hH : RH γ w H) {k : Nat} (hk : freeAt H k) {w' : World} (hg : w.grownBy w' none) {p : Pl} (hown : ∀ b, p.own = some b → w.heap.size ≤ b) : Stp γ w (γ.put k p) w' where
  os := hg.os
  tape := hg.tape
  output := hg.output
  size := hg.size
  fix b j hf := ⟨hf, cell_same (hg.block b (hH.fixb b j hf) (by simp))⟩
  nfix b j hf := .inl hf
  pl i := by
    by_cases hi : i = k
    · subst hi
      rw [hk.no hH]
      trivial
    · rw [γ.put_ne p hi]
      exact .refl _
  other b hb _ := hg.block b hb (by simp)
  own i b hb := by
    by_cases hi : i = k
    · subst hi
      rw [γ.put_same] at hb
      exact .inr (hown b hb)
    · rw [γ.put_ne p hi] at hb
      exact .inl ⟨i, hb⟩

theorem RH.putAt (hH : RH γ w H) {k : Nat} (hk : freeAt H k) {w' : World} (hg : w.grownBy w' none) {p : Pl} (hown : ∀ b, p.own = some b → w.heap.size ≤ b) {ob : Ob} (hp : RO (γ.put k p) w' p ob) :
    RH (γ.put k p) w' (putAt H k ob) where
  ob i b hi := by
    rw [putAt_get] at hi
    by_cases hik : i = k
    · subst hik
      simp at hi
      subst hi
      rw [γ.put_same]
      exact hp
    · rw [if_neg hik] at hi
      rw [γ.put_ne p hik]
      by_cases hlt : i < H.length
      · rw [if_pos hlt] at hi
        exact RO.keep (Stp.newAt hH hk hg hown) (fun b hb => hg.block b (hH.own_lt hb) (by simp)) (fun b hb j hj => hj) (hH.ob i b hi)
      · rw [if_neg hlt] at hi
        split at hi
        · simp at hi
          subst hi
          rw [hH.out i (by omega)]
          trivial
        · simp at hi
  out i hi := by
    rw [putAt_len] at hi
    rw [γ.put_ne p (by omega)]
    exact hH.out i (by omega)
  inj i i' b h1 h2 := by
    by_cases e1 : i = k <;> by_cases e2 : i' = k
    · omega
    · subst e1
      rw [γ.put_same] at h1
      rw [γ.put_ne p e2] at h2
      have := hH.own_lt h2
      have := hown b h1
      omega
    · subst e2
      rw [γ.put_same] at h2
      rw [γ.put_ne p e1] at h1
      have := hH.own_lt h1
      have := hown b h2
      omega
    · rw [γ.put_ne p e1] at h1
      rw [γ.put_ne p e2] at h2
      exact hH.inj i i' b h1 h2
  fixb b j hf := Nat.lt_of_lt_of_le (hH.fixb b j hf) hg.size

/-- What lays a new object: wherever it is laid. -/
theorem Does.of_new {op : AOp} (hop : ∀ k c v, newAt op T k = some (v, c) → freeAt H k → Does P γ w a o v (Pv.putAt H k c)) (hact : act op T H = (newAt op T H.length).map fun p => (p.1, .push p.2, .new H.length)) (h : act op T H = some (v, e, t)) :
    Does P γ w a o v (e.on H) := by
  rw [hact] at h
  cases hn : newAt op T H.length with
  | none => rw [hn] at h; simp at h
  | some p =>
    rw [hn] at h
    simp at h
    obtain ⟨rfl, rfl, rfl⟩ := h
    have := hop H.length p.2 p.1 hn (freeAt_end H)
    rwa [putAt_end] at this

theorem Ext.put (hH : RH γ w H) (p : Pl) : Ext γ w (γ.put H.length p) w := by
  refine ⟨fun b j hf => ⟨hf, rfl⟩, fun i => ?_⟩
  by_cases hi : i = H.length
  · subst hi
    rw [hH.out _ (Nat.le_refl _)]
    trivial
  · rw [γ.put_ne p hi]
    exact .refl _

theorem RH.push' (hH : RH γ w H) {p : Pl} (hown : ∀ b, p.own = some b → ∀ i, (γ.pl i).own ≠ some b) {ob : Ob} (hp : RO (γ.put H.length p) w p ob) :
    RH (γ.put H.length p) w (H ++ [ob]) where
  ob i b hi := by
    by_cases hlt : i < H.length
    · rw [List.getElem?_append_left hlt] at hi
      rw [γ.put_ne p (by omega)]
      exact (hH.ob i b hi).keepE (Ext.put hH p) (fun b hb => rfl) (fun b hb j hj => hj)
    · have : i = H.length := by
        have := (List.getElem?_eq_some_iff.1 hi).1
        simp at this
        omega
      subst this
      simp at hi
      subst hi
      rw [γ.put_same]
      exact hp
  out i hi := by
    simp at hi
    rw [γ.put_ne p (by omega)]
    exact hH.out i (by omega)
  inj i i' b h1 h2 := by
    by_cases e1 : i = H.length <;> by_cases e2 : i' = H.length
    · omega
    · subst e1
      rw [γ.put_same] at h1
      rw [γ.put_ne p e2] at h2
      exact absurd h2 (hown b h1 i')
    · subst e2
      rw [γ.put_same] at h2
      rw [γ.put_ne p e1] at h1
      exact absurd h1 (hown b h2 i)
    · rw [γ.put_ne p e1] at h1
      rw [γ.put_ne p e2] at h2
      exact hH.inj i i' b h1 h2
  fixb b j hf := hH.fixb b j hf

theorem Ext.putAt (hH : RH γ w H) {k : Nat} (hk : freeAt H k) (p : Pl) : Ext γ w (γ.put k p) w := by
  refine ⟨fun b j hf => ⟨hf, rfl⟩, fun i => ?_⟩
  by_cases hi : i = k
  · subst hi
    rw [hk.no hH]
    trivial
  · rw [γ.put_ne p hi]
    exact .refl _

theorem RH.putAt' (hH : RH γ w H) {k : Nat} (hk : freeAt H k) {p : Pl} (hown : ∀ b, p.own = some b → ∀ i, (γ.pl i).own ≠ some b) {ob : Ob} (hp : RO (γ.put k p) w p ob) :
    RH (γ.put k p) w (Pv.putAt H k ob) where
  ob i b hi := by
    rw [putAt_get] at hi
    by_cases hik : i = k
    · subst hik
      simp at hi
      subst hi
      rw [γ.put_same]
      exact hp
    · rw [if_neg hik] at hi
      rw [γ.put_ne p hik]
      by_cases hlt : i < H.length
      · rw [if_pos hlt] at hi
        exact (hH.ob i b hi).keepE (Ext.putAt hH hk p) (fun b hb => rfl) (fun b hb j hj => hj)
      · rw [if_neg hlt] at hi
        split at hi
        · simp at hi
          subst hi
          rw [hH.out i (by omega)]
          trivial
        · simp at hi
  out i hi := by
    rw [putAt_len] at hi
    rw [γ.put_ne p (by omega)]
    exact hH.out i (by omega)
  inj i i' b h1 h2 := by
    by_cases e1 : i = k <;> by_cases e2 : i' = k
    · omega
    · subst e1
      rw [γ.put_same] at h1
      rw [γ.put_ne p e2] at h2
      exact absurd h2 (hown b h1 i')
    · subst e2
      rw [γ.put_same] at h2
      rw [γ.put_ne p e1] at h1
      exact absurd h1 (hown b h2 i)
    · rw [γ.put_ne p e1] at h1
      rw [γ.put_ne p e2] at h2
      exact hH.inj i i' b h1 h2
  fixb b j hf := hH.fixb b j hf

theorem does_box (hH : RH γ w H) {k : Nat} (hk : freeAt H k) {x : AV} {val : Value} (hx : RV γ w x val) (hs : stb x = true) {el : TypeId} (hrun : (execOp a.eval o).run P w = .ok (.value (.pointer (some ⟨w.heap.size, 0, none⟩))) (w.alloc (.cells val.cells el))) :
    Does P γ w a o (.ptr k 0) (putAt H k (.box x)) := by
  have hg : w.grownBy (w.alloc (.cells val.cells el)) none := World.grownBy_alloc w _ none
  have hown : ∀ b, (Pl.box w.heap.size).own = some b → w.heap.size ≤ b := by intro b hb; simp [Pl.own] at hb; omega
  have hst := Stp.newAt hH hk hg hown
  have hc := hx.one_cells hs
  refine ⟨_, _, _, .inl hrun, .ptr (γ.put_same _ _), RH.putAt hH hk hg hown ?_, hst⟩
  refine ⟨⟨val.cells, el, heap_alloc_new w _, hc.1.mono hst, hc.2⟩, ?_⟩
  intro j hj
  have := hH.fixb _ j hj
  omega

theorem act_box (x : Opn) : act (.box x) T H = (newAt (.box x) T H.length).map fun p => (p.1, .push p.2, .new H.length) := by
  simp only [act, newAt]; split <;> rfl

theorem n_box {el : TypeId} {x : Operand} (ho : o.op = .box el x) (hT : RT γ w T a) (hH : RH γ w H) {x' : Opn} (hx : opn x = some x') {k : Nat} {c : Ob} (hk : freeAt H k)
    (h : newAt (.box x') T k = some (v, c)) : Does P γ w a o v (putAt H k c) := by
  simp only [newAt] at h
  split at h
  · rename_i hs
    simp at h
    obtain ⟨rfl, rfl⟩ := h
    refine does_box (el := el) hH hk (opn_sound hT hx) hs ?_
    simp [execOp, ho, Instr.box, newVar, newRow]
  · simp at h
theorem d_box {el : TypeId} {x : Operand} (ho : o.op = .box el x) (hT : RT γ w T a) (hH : RH γ w H) {x' : Opn} (hx : opn x = some x')
    (h : act (.box x') T H = some (v, e, t)) : Does P γ w a o v (e.on H) := Does.of_new (fun _ _ _ hn hk => n_box ho hT hH hx hk hn) (act_box x') h

theorem n_alloc {el : TypeId} (ho : o.op = .alloc el) (hH : RH γ w H) {z : AV} (hz : zeroOf P el = some z) {k : Nat} {c : Ob} (hk : freeAt H k)
    (h : newAt (.box (.c z)) T k = some (v, c)) : Does P γ w a o v (putAt H k c) := by
  obtain ⟨i, zv, hi, hzv, hcv⟩ := zeroOf_sound hz
  have hs := cvA_stb hcv
  simp [newAt, ev, hs] at h
  obtain ⟨rfl, rfl⟩ := h
  refine does_box (el := el) hH hk (cvA_sound hcv) hs ?_
  simp [execOp, ho, Instr.alloc, zeroValue, typeInfo, hi, hzv, newVar, newRow]
theorem d_alloc {el : TypeId} (ho : o.op = .alloc el) (hH : RH γ w H) {z : AV} (hz : zeroOf P el = some z)
    (h : act (.box (.c z)) T H = some (v, e, t)) : Does P γ w a o v (e.on H) := Does.of_new (fun _ _ _ hn hk => n_alloc ho hH hz hk hn) (act_box (.c z)) h

/-! loads -/

theorem cells_of_block {b off n : Nat} {vs : Array Value} {ty : TypeId} {fr : Nat × Nat} (hb : w.heap[b]? = some (.cells vs ty fr)) :
    ∀ j u, ((vs.toList.drop off).take n)[j]? = some u → w.cell? ((⟨b, off, none⟩ : Addr).add j) = some u := by
  intro j u hj
  rw [Addr.add_lit, cell_of_row w b (off + j) vs ty fr hb]
  rw [List.getElem?_take] at hj
  split at hj
  · rw [List.getElem?_drop] at hj
    simpa using hj
  · simp at hj

theorem run_loadVar_some {ty : TypeId} {n : Nat} {ad : Addr} {cs : List Value} (ht : tyL P ty = some (n, true)) (hl : cs.length = n) (h : ∀ j u, cs[j]? = some u → w.cell? (ad.add j) = some u) :
    (loadVar ty ad).run P w = .ok (.agg cs.toArray) w := by
  obtain ⟨⟨i, hi, hn⟩, ha, _⟩ := tyL_sound ht
  have := run_loadCells_list (P := P) w ad cs h
  rw [hl] at this
  simp [loadVar, ha, run_sizeOf' hi, hn, this]
theorem run_loadVar_one {ty : TypeId} {n : Nat} {ad : Addr} {u : Value} (ht : tyL P ty = some (n, false)) (h : w.cell? ad = some u) :
    (loadVar ty ad).run P w = .ok u w := by
  obtain ⟨⟨i, hi, hn⟩, ha, _⟩ := tyL_sound ht
  simp [loadVar, ha, h]

theorem subA_cells {x : AV} {vs : List Value} (h : RVs γ w x.cells vs) (h1 : ones vs) {c : Bool} {off n : Nat} {y : AV} (hs : subA x c off n = some y) (hc : c = false → n = 1) :
    (c = true ∧ off + n ≤ vs.length ∧ RV γ w y (.agg ((vs.drop off).take n).toArray)) ∨ (c = false ∧ ∃ u, vs[off]? = some u ∧ RV γ w y u) := by
  have other : (∀ cs, x ≠ .agg cs) → (∀ d, x ≠ .d d) → x.cells = [x] → (c = false ∧ ∃ u, vs[off]? = some u ∧ RV γ w y u) := by
    intro h2 h3 h4
    cases c with
    | true => cases x <;> simp [subA] at hs h2 h3
    | false =>
      have hs' : off = 0 ∧ x = y := by cases x <;> simp_all [subA]
      obtain ⟨rfl, rfl⟩ := hs'
      rw [h4] at h
      cases h with
      | cons hx ht => cases ht; exact ⟨rfl, _, rfl, hx⟩
  cases x with
  | d d =>
    simp only [subA] at hs
    split at hs
    · rename_i y' hy
      simp at hs
      subst hs
      cases d with
      | agg cs =>
        simp only [AV.cells] at h
        have hd := h.to_d
        cases c with
        | true =>
          simp only [subD] at hy
          split at hy
          · rename_i hle
            simp at hy
            subst hy
            refine .inl ⟨rfl, by rw [hd.length]; exact hle, .d (.agg ((hd.drop _).take _) ((h1.drop _).take _))⟩
          · simp at hy
        | false =>
          simp only [subD] at hy
          obtain ⟨u, hu, hr⟩ := hd.get hy
          exact .inr ⟨rfl, u, hu, .d hr⟩
      | _ =>
        cases c with
        | true => simp [subD] at hy
        | false =>
          simp [subD] at hy
          obtain ⟨rfl, rfl⟩ := hy
          simp only [AV.cells] at h
          cases h with
          | cons hx ht => cases ht; exact .inr ⟨rfl, _, rfl, hx⟩
    · simp at hs
  | agg cs =>
    simp only [AV.cells] at h
    cases c with
    | true =>
      simp only [subA] at hs
      split at hs
      · rename_i hle
        simp at hs
        subst hs
        exact .inl ⟨rfl, by rw [h.length]; exact hle, .mkAgg ((h.drop _).take _) ((h1.drop _).take _)⟩
      · simp at hs
    | false =>
      simp only [subA] at hs
      obtain ⟨u, hu, hr⟩ := h.get hs
      exact .inr ⟨rfl, u, hu, hr⟩
  | _ => exact .inr (other (by simp) (by simp) rfl)

theorem RArr.block {u : Value} {z : Nat} {hw : Nat} {es : List DV} {wr : Bool} (h : RArr γ w u z hw es wr) {blk : Nat} (hb : u.ownBlock = some blk) :
    ∃ cap cur vs el, u = .slice (some ⟨blk, 0, none⟩) es.length cap ∧ w.heap[blk]? = some (.cells cur el (0, 0)) ∧ es.length ≤ cap ∧ cap ≤ maxLen ∧ cur.size = cap * z ∧ cur.toList.take (es.length * z) = vs ∧ RDs γ.fix w (flat es) vs ∧ ones vs := by
  obtain ⟨vs, el, h4, h5, h6⟩ := h.row
  rcases h6.2 with ⟨rfl, _⟩ | ⟨g, cap, cur, rfl, _, hg, hle, hm, hcs, htk⟩
  · simp [Value.ownBlock] at hb
  · simp [Value.ownBlock] at hb
    subst hb
    exact ⟨cap, cur, vs, el, rfl, hg, hle, hm, hcs, htk, h4, h5⟩

theorem loadA_sound (hH : RH γ w H) {x : AV} {val : Value} (hx : RV γ w x val) {c : Bool} {n : Nat} {y : AV} {tc : Tch} (h : loadA H x c n = some (y, tc)) {ty : TypeId} (ht : tyL P ty = some (n, c)) :
    ∃ ad u, val = .pointer (some ad) ∧ (loadVar ty ad).run P w = .ok u w ∧ RV γ w y u := by
  have hc1 := (tyL_sound ht).2.2
  cases x with
  | ptr ob off =>
    simp only [loadA] at h
    split at h
    · rename_i x hob
      split at h
      · rename_i y' hy
        simp at h
        obtain ⟨rfl, rfl⟩ := h
        cases hx with
        | @ptr _ _ b hp =>
          have ho := hH.ob ob _ hob
          rw [hp] at ho
          obtain ⟨⟨vs, tt, hb, hr, h1⟩, _⟩ := ho
          rcases subA_cells hr h1 hy hc1 with ⟨rfl, hle, hv⟩ | ⟨rfl, u, hu, hv⟩
          · refine ⟨_, _, rfl, run_loadVar_some (cs := (vs.toList.drop off).take n) ht (by simp at hle ⊢; omega) (cells_of_block hb), hv⟩
          · refine ⟨_, u, rfl, run_loadVar_one ht ?_, hv⟩
            rw [cell_of_row w b off vs tt _ hb]
            simpa using hu
      · simp at h
    · simp at h
  | eptr cs =>
    simp only [loadA] at h
    cases hx with
    | @eptr _ vs blk off g g1 hf =>
      cases c with
      | true =>
        simp only at h
        split at h
        · rename_i hle
          simp at h
          obtain ⟨rfl, rfl⟩ := h
          have hl := g.length
          refine ⟨_, _, rfl, run_loadVar_some (cs := vs.take n) ht (by simp; omega) ?_, .d (.agg (g.take _) (g1.take _))⟩
          intro j u hj
          rw [Addr.add_lit]
          exact (take_cells hf _ j u hj).2
        · simp at h
      | false =>
        cases g with
        | nil => simp at h
        | @cons x0 v0 xs vs' hx0 hxs =>
          simp at h
          obtain ⟨rfl, rfl⟩ := h
          exact ⟨_, v0, rfl, run_loadVar_one ht (by have := (hf 0 v0 rfl).2; simpa using this), .d hx0⟩
  | vptr ob g z idx off =>
    simp only [loadA] at h
    split at h
    · rename_i es wr hob
      split at h
      · rename_i hlen
        split at h
        · rename_i el hel
          split at h
          · rename_i hz
            split at h
            · rename_i y' hy
              simp at h
              obtain ⟨rfl, rfl⟩ := h
              cases hx with
              | @vptr _ _ _ _ _ blk p u yy g' hp hg hh =>
                have ho := hH.ob ob _ hob
                rw [hp] at ho
                have ho : RArr γ w u yy g' es wr := ho
                obtain ⟨rfl, hidx, hob', rfl⟩ := hh (by rw [ho.hw]; omega)
                obtain ⟨cap, cur, vs, ee, rfl, hblk, hle, hm, hcs, htk, hr, h1⟩ := ho.block hob'
                have hfl := flat_get ho.sz hel
                have hlv := hr.length
                have hfl2 := hfl.2
                have hcell : RDs γ.fix w el.cells ((vs.drop (idx * yy)).take yy) := by rw [← hfl.1]; exact (hr.drop _).take _
                have hone : ones ((vs.drop (idx * yy)).take yy) := (h1.drop _).take _
                have hcells : ∀ j u, ((vs.drop (idx * yy)).take yy)[j]? = some u → w.cell? ⟨blk, idx * yy + j, none⟩ = some u := by
                  intro j u hj
                  rw [cell_of_row w blk _ cur ee _ hblk]
                  rw [List.getElem?_take] at hj
                  split at hj
                  · rw [List.getElem?_drop, ← htk, List.getElem?_take] at hj
                    split at hj
                    · simpa using hj
                    · simp at hj
                  · simp at hj
                have hsub : subA (.d (.agg el.cells)) c off n = some (.d y') := by simp [subA, hy]
                have hRVs : RVs γ w (AV.d (.agg el.cells)).cells ((vs.drop (idx * yy)).take yy) := by
                  simp only [AV.cells]
                  exact .of_d hcell
                rcases subA_cells hRVs hone hsub hc1 with ⟨rfl, hle', hv⟩ | ⟨rfl, u, hu, hv⟩
                · refine ⟨_, _, rfl, run_loadVar_some (cs := (((vs.drop (idx * yy)).take yy).drop off).take n) ht (by simp at hle' ⊢; omega) ?_, hv⟩
                  intro j u hj
                  rw [Addr.add_lit]
                  rw [List.getElem?_take] at hj
                  split at hj
                  · rw [List.getElem?_drop] at hj
                    have := hcells _ _ hj
                    rwa [show idx * yy + (off + j) = idx * yy + off + j by omega] at this
                  · simp at hj
                · exact ⟨_, u, rfl, run_loadVar_one ht (hcells _ _ hu), hv⟩
            · simp at h
          · simp at h
        · simp at h
      · simp at h
    · simp at h
  | _ => simp [loadA] at h

theorem q_load {ty : TypeId} {x : Operand} (ho : o.op = .load ty x) (hT : RT γ w T a) (hH : RH γ w H) {x' : Opn} (hx : opn x = some x') {n : Nat} {c : Bool} (ht : tyL P ty = some (n, c))
    (h : act (.load c n x') T H = some (v, e, t)) : Quiet P γ w a o v ∧ e = .none := by
  simp only [act] at h
  split at h
  · rename_i y tc hl
    simp at h
    obtain ⟨rfl, rfl, rfl⟩ := h
    obtain ⟨ad, u, hval, hrun, hr⟩ := loadA_sound (P := P) hH (opn_sound hT hx) hl ht
    refine ⟨⟨u, ?_, hr⟩, rfl⟩
    simp [execOp, ho, Instr.loadAt, hval, Instr.sureAddr, hrun]
  · simp at h

end
end Pv
