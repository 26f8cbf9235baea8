/- The pure evaluator: how its values and objects stand to Go's values and memory; what stays so when memory goes on. -/
import Derived.Test.YtlihpaegaikoeaaDoorPvEq
import Derived.Laws.AppendOwn
import Derived.Laws.OwnMore
set_option linter.all false
namespace Pv
open Go

/-- Where an object lies: a variable's block; an array: the slice that owns its row. -/
inductive Pl where
  | no
  | box (b : Nat)
  | map (b : Nat)
  | arr (u : Value) (z : Nat) (hw : Nat)

def Pl.own : Pl → Option Nat
  | .no => none
  | .box b => some b
  | .map b => some b
  | .arr u _ _ => u.ownBlock

/-- What the walk knows beside the world: cells that nobody writes any more; where the objects lie. -/
structure Gh where
  fix : Nat → Nat → Prop
  pl : Nat → Pl

def flat (es : List DV) : List DV := es.flatMap DV.cells

def ones (vs : List Value) : Prop := ∀ v ∈ vs, v.oneCell' = true

mutual
inductive RD (fx : Nat → Nat → Prop) (w : World) : DV → Value → Prop
  | b (x : Bool) : RD fx w (.b x) (.bool x)
  | i (k : IntKind) (n : Int) : RD fx w (.i k n) (.int k n)
  | s (x : ByteArray) : RD fx w (.s x) (.string x)
  | agg {cs : List DV} {vs : List Value} (h : RDs fx w cs vs) (h1 : ones vs) : RD fx w (.agg cs) (.agg vs.toArray)
  | nil (a : Option Addr) (cap : Nat) : RD fx w (.sl []) (.slice a 0 cap)
  | sl {es : List DV} {vs : List Value} {z blk off cap : Nat} (h : RDs fx w (flat es) vs) (h1 : ones vs) (hz : ∀ e ∈ es, e.cells.length = z) (hc : es.length ≤ cap)
      (hf : ∀ j v, vs[j]? = some v → fx blk (off + j) ∧ w.cell? ⟨blk, off + j, none⟩ = some v) : RD fx w (.sl es) (.slice (some ⟨blk, off, none⟩) es.length cap)
inductive RDs (fx : Nat → Nat → Prop) (w : World) : List DV → List Value → Prop
  | nil : RDs fx w [] []
  | cons {x : DV} {v : Value} {xs : List DV} {vs : List Value} (h : RD fx w x v) (hs : RDs fx w xs vs) : RDs fx w (x :: xs) (v :: vs)
end

def withLen (u : Value) (n : Nat) : Value := match u with
  | .slice a _ c => .slice a n c
  | v => v

structure RView (u : Value) (y g z off len : Nat) (v : Value) : Prop where
  zz : y = z
  fit : off + len ≤ g
  head : off = 0 → v = withLen u len
  sl : ∀ b n cap, v = .slice b n cap → 0 < len → ∃ blk, u.ownBlock = some blk ∧ b = some ⟨blk, off * z, none⟩

mutual
inductive RV (γ : Gh) (w : World) : AV → Value → Prop
  | d {x : DV} {v : Value} (h : RD γ.fix w x v) : RV γ w (.d x) v
  | nilS : RV γ w .nilS (.slice none 0 0)
  | e0t (cap : Nat) : RV γ w (.e0 true) (.slice none 0 cap)
  | e0f (a : Addr) (cap : Nat) : RV γ w (.e0 false) (.slice (some a) 0 cap)
  | z0 (a : Option Addr) : RV γ w .z0 (.slice a 0 0)
  | view {o g z off len : Nat} {b : Option Addr} {cap : Nat} {u : Value} {y : Nat} {g' : Nat} (hp : γ.pl o = .arr u y g') (hg : g ≤ g') (hc : len ≤ cap)
      (hb : 0 < len → ∃ blk p, b = some ⟨blk, p, none⟩) (h : g = g' → RView u y g z off len (.slice b len cap)) : RV γ w (.view o g z off len) (.slice b len cap)
  | ptr {o off b : Nat} (hp : γ.pl o = .box b) : RV γ w (.ptr o off) (.pointer (some ⟨b, off, none⟩))
  | mp {o b : Nat} (hp : γ.pl o = .map b) : RV γ w (.mp o) (.map (some b))
  | eptr {cs : List DV} {vs : List Value} {blk off : Nat} (h : RDs γ.fix w cs vs) (h1 : ones vs) (hf : ∀ j v, vs[j]? = some v → γ.fix blk (off + j) ∧ w.cell? ⟨blk, off + j, none⟩ = some v) :
      RV γ w (.eptr cs) (.pointer (some ⟨blk, off, none⟩))
  | vptr {o g z idx off : Nat} {blk p : Nat} {u : Value} {y : Nat} {g' : Nat} (hp : γ.pl o = .arr u y g') (hg : g ≤ g')
      (h : g = g' → y = z ∧ idx < g ∧ u.ownBlock = some blk ∧ p = idx * z + off) : RV γ w (.vptr o g z idx off) (.pointer (some ⟨blk, p, none⟩))
  | fn {f : FuncId} {a b : List AV} {vs us : List Value} (ha : RVs γ w a vs) (hb : RVs γ w b us) : RV γ w (.fn f a b) (.func (.func f) vs.toArray us.toArray)
  | agg {cs : List AV} {vs : List Value} (h : RVs γ w cs vs) (h1 : ones vs) : RV γ w (.agg cs) (.agg vs.toArray)
  | tup {cs : List AV} {vs : List Value} (h : RVs γ w cs vs) : RV γ w (.tup cs) (.tuple vs.toArray)
  | one (v : Value) (h : v.oneCell' = true) : RV γ w .one v
  | und : RV γ w .und undef
  | junk (v : Value) : RV γ w .junk v
inductive RVs (γ : Gh) (w : World) : List AV → List Value → Prop
  | nil : RVs γ w [] []
  | cons {x : AV} {v : Value} {xs : List AV} {vs : List Value} (h : RV γ w x v) (hs : RVs γ w xs vs) : RVs γ w (x :: xs) (v :: vs)
end

structure RArr (γ : Gh) (w : World) (u : Value) (z : Nat) (hw : Nat) (es : List DV) (wr : Bool) : Prop where
  hw : hw = es.length
  sz : ∀ x ∈ es, x.cells.length = z
  zp : 0 < z
  row : ∃ vs el, RDs γ.fix w (flat es) vs ∧ ones vs ∧ w.ownsRow 0 el z u es.length vs
  mu : wr = true → ∀ g, u.ownBlock = some g → ∀ j, ¬ γ.fix g j
  im : wr = false → ∀ g, u.ownBlock = some g → ∀ j, γ.fix g j ↔ j < es.length * z

/-- A map's entries as its block holds them. -/
inductive RM (fx : Nat → Nat → Prop) (w : World) (k : IntKind) : List (Int × DV) → List MapEntry → Prop
  | nil : RM fx w k [] []
  | cons {n : Int} {x : DV} {e : MapEntry} {kvs : List (Int × DV)} {es : List MapEntry} (hk : e.key = .int k n) (hv : RD fx w x e.val) (h : RM fx w k kvs es) : RM fx w k ((n, x) :: kvs) (e :: es)

def RO (γ : Gh) (w : World) : Pl → Ob → Prop
  | .box b, .box x => (∃ vs t, w.heap[b]? = some (.cells vs t (0, 0)) ∧ RVs γ w x.cells vs.toList ∧ ones vs.toList) ∧ ∀ j, ¬ γ.fix b j
  | .map b, .map k kvs => (∃ es clock, w.heap[b]? = some (.map es clock) ∧ RM γ.fix w k kvs es.toList) ∧ ∀ j, ¬ γ.fix b j
  | .arr u z hw, .arr es wr => RArr γ w u z hw es wr
  | .no, .hole => True
  | _, _ => False

structure RH (γ : Gh) (w : World) (H : Heap) : Prop where
  ob : ∀ o b, H[o]? = some b → RO γ w (γ.pl o) b
  out : ∀ o, H.length ≤ o → γ.pl o = .no
  inj : ∀ o o' b, (γ.pl o).own = some b → (γ.pl o').own = some b → o = o'
  fixb : ∀ b j, γ.fix b j → b < w.heap.size

def plExt : Pl → Pl → Prop
  | .no, _ => True
  | .box b, p => p = .box b
  | .map b, p => p = .map b
  | .arr u y g, p => ∃ u' g', p = .arr u' y g' ∧ g ≤ g' ∧ (g = g' → u' = u)

structure Stp (γ : Gh) (w : World) (γ' : Gh) (w' : World) : Prop where
  os : w'.os = w.os
  tape : w'.tape = w.tape
  output : w'.output = w.output
  size : w.heap.size ≤ w'.heap.size
  fix : ∀ b j, γ.fix b j → γ'.fix b j ∧ w'.cell? ⟨b, j, none⟩ = w.cell? ⟨b, j, none⟩
  nfix : ∀ b j, γ'.fix b j → γ.fix b j ∨ (∃ o, (γ.pl o).own = some b) ∨ w.heap.size ≤ b
  pl : ∀ o, plExt (γ.pl o) (γ'.pl o)
  other : ∀ b, b < w.heap.size → (∀ o, (γ.pl o).own ≠ some b) → w'.heap[b]? = w.heap[b]?
  own : ∀ o b, (γ'.pl o).own = some b → (∃ o', (γ.pl o').own = some b) ∨ w.heap.size ≤ b

theorem plExt.refl (p : Pl) : plExt p p := by
  cases p with
  | no => trivial
  | box b => rfl
  | map b => rfl
  | arr u z g => exact ⟨u, g, rfl, Nat.le_refl _, fun _ => rfl⟩

theorem plExt.trans {p q r : Pl} (h : plExt p q) (k : plExt q r) : plExt p r := by
  cases p with
  | no => trivial
  | box b => simp only [plExt] at h; subst h; exact k
  | map b => simp only [plExt] at h; subst h; exact k
  | arr u y g =>
    obtain ⟨u', g', rfl, h1, h2⟩ := h
    obtain ⟨u'', g'', rfl, h3, h4⟩ := k
    exact ⟨u'', g'', rfl, Nat.le_trans h1 h3, fun hh => by
      have e1 : g = g' := by omega
      have e2 : g' = g'' := by omega
      rw [h4 e2, h2 e1]⟩

theorem Stp.refl (γ : Gh) (w : World) : Stp γ w γ w :=
  ⟨rfl, rfl, rfl, Nat.le_refl _, fun _ _ h => ⟨h, rfl⟩, fun _ _ h => .inl h, fun _ => .refl _, fun _ _ _ => rfl, fun o _ h => .inl ⟨o, h⟩⟩

theorem Stp.trans {γ γ' γ'' : Gh} {w w' w'' : World} (h : Stp γ w γ' w') (k : Stp γ' w' γ'' w'') : Stp γ w γ'' w'' where
  os := k.os.trans h.os
  tape := k.tape.trans h.tape
  output := k.output.trans h.output
  size := Nat.le_trans h.size k.size
  fix b j hf := ⟨(k.fix b j (h.fix b j hf).1).1, ((k.fix b j (h.fix b j hf).1).2).trans (h.fix b j hf).2⟩
  nfix b j hf := by
    rcases k.nfix b j hf with h1 | ⟨o, h1⟩ | h1
    · exact h.nfix b j h1
    · rcases h.own o b h1 with h2 | h2
      · exact .inr (.inl h2)
      · exact .inr (.inr h2)
    · exact .inr (.inr (Nat.le_trans h.size h1))
  pl o := (h.pl o).trans (k.pl o)
  other b hb hn := by
    rw [k.other b (Nat.lt_of_lt_of_le hb h.size) (fun o ho => by
      rcases h.own o b ho with ⟨o', h2⟩ | h2
      · exact hn o' h2
      · omega), h.other b hb hn]
  own o b ho := by
    rcases k.own o b ho with ⟨o', h1⟩ | h1
    · exact h.own o' b h1
    · exact .inr (Nat.le_trans h.size h1)

/-! what stays -/

mutual
theorem RD.mono {fx fx' : Nat → Nat → Prop} {w w' : World} (hs : ∀ b j, fx b j → fx' b j ∧ w'.cell? ⟨b, j, none⟩ = w.cell? ⟨b, j, none⟩) :
    ∀ {x : DV} {v : Value}, RD fx w x v → RD fx' w' x v
  | _, _, .b x => .b x
  | _, _, .i k n => .i k n
  | _, _, .s x => .s x
  | _, _, .agg h h1 => .agg (RDs.mono hs h) h1
  | _, _, .nil a c => .nil a c
  | _, _, .sl h h1 hz hc hf => .sl (RDs.mono hs h) h1 hz hc fun j v hj => ⟨(hs _ _ (hf j v hj).1).1, ((hs _ _ (hf j v hj).1).2).trans (hf j v hj).2⟩
theorem RDs.mono {fx fx' : Nat → Nat → Prop} {w w' : World} (hs : ∀ b j, fx b j → fx' b j ∧ w'.cell? ⟨b, j, none⟩ = w.cell? ⟨b, j, none⟩) :
    ∀ {xs : List DV} {vs : List Value}, RDs fx w xs vs → RDs fx' w' xs vs
  | _, _, .nil => .nil
  | _, _, .cons h t => .cons (RD.mono hs h) (RDs.mono hs t)
end

theorem RM.mono {fx fx' : Nat → Nat → Prop} {w w' : World} {k : IntKind} (hs : ∀ b j, fx b j → fx' b j ∧ w'.cell? ⟨b, j, none⟩ = w.cell? ⟨b, j, none⟩) :
    ∀ {xs : List (Int × DV)} {es : List MapEntry}, RM fx w k xs es → RM fx' w' k xs es
  | _, _, .nil => .nil
  | _, _, .cons hk h t => .cons hk (h.mono hs) (RM.mono hs t)

/-- As far as values go, memory has only gone on. -/
structure Ext (γ : Gh) (w : World) (γ' : Gh) (w' : World) : Prop where
  fix : ∀ b j, γ.fix b j → γ'.fix b j ∧ w'.cell? ⟨b, j, none⟩ = w.cell? ⟨b, j, none⟩
  pl : ∀ o, plExt (γ.pl o) (γ'.pl o)

theorem Stp.ext {γ γ' : Gh} {w w' : World} (hs : Stp γ w γ' w') : Ext γ w γ' w' := ⟨hs.fix, hs.pl⟩

mutual
theorem RV.ext {γ γ' : Gh} {w w' : World} (hs : Ext γ w γ' w') : ∀ {x : AV} {v : Value}, RV γ w x v → RV γ' w' x v
  | _, _, .d h => .d (h.mono hs.fix)
  | _, _, .nilS => .nilS
  | _, _, .e0t c => .e0t c
  | _, _, .e0f a c => .e0f a c
  | _, _, .z0 a => .z0 a
  | _, _, .view (o := o) hp hg hc hb h => by
    have hx := hs.pl o
    rw [hp] at hx
    obtain ⟨u', g'', hp', h1, h2⟩ := hx
    exact .view hp' (Nat.le_trans hg h1) hc hb fun hh => by
      rw [h2 (by omega)]
      exact h (by omega)
  | _, _, .ptr (o := o) hp => by
    have hx := hs.pl o
    rw [hp] at hx
    exact .ptr hx
  | _, _, .mp (o := o) hp => by
    have hx := hs.pl o
    rw [hp] at hx
    exact .mp hx
  | _, _, .eptr h h1 hf => .eptr (h.mono hs.fix) h1 fun j v hj => ⟨(hs.fix _ _ (hf j v hj).1).1, ((hs.fix _ _ (hf j v hj).1).2).trans (hf j v hj).2⟩
  | _, _, .vptr (o := o) hp hg h => by
    have hx := hs.pl o
    rw [hp] at hx
    obtain ⟨u', g'', hp', h1, h2⟩ := hx
    exact .vptr hp' (Nat.le_trans hg h1) fun hh => by
      rw [h2 (by omega)]
      exact h (by omega)
  | _, _, .fn ha hb => .fn (RVs.ext hs ha) (RVs.ext hs hb)
  | _, _, .agg h h1 => .agg (RVs.ext hs h) h1
  | _, _, .tup h => .tup (RVs.ext hs h)
  | _, _, .one v h => .one v h
  | _, _, .und => .und
  | _, _, .junk v => .junk v
theorem RVs.ext {γ γ' : Gh} {w w' : World} (hs : Ext γ w γ' w') : ∀ {xs : List AV} {vs : List Value}, RVs γ w xs vs → RVs γ' w' xs vs
  | _, _, .nil => .nil
  | _, _, .cons h t => .cons (RV.ext hs h) (RVs.ext hs t)
end

theorem RV.mono {γ γ' : Gh} {w w' : World} (hs : Stp γ w γ' w') {x : AV} {v : Value} (h : RV γ w x v) : RV γ' w' x v := h.ext hs.ext
theorem RVs.mono {γ γ' : Gh} {w w' : World} (hs : Stp γ w γ' w') {xs : List AV} {vs : List Value} (h : RVs γ w xs vs) : RVs γ' w' xs vs := h.ext hs.ext

theorem RDs.length {fx : Nat → Nat → Prop} {w : World} : ∀ {xs : List DV} {vs : List Value}, RDs fx w xs vs → vs.length = xs.length
  | _, _, .nil => rfl
  | _, _, .cons _ t => by simp [t.length]
theorem RVs.length {γ : Gh} {w : World} : ∀ {xs : List AV} {vs : List Value}, RVs γ w xs vs → vs.length = xs.length
  | _, _, .nil => rfl
  | _, _, .cons _ t => by simp [t.length]

theorem RDs.append {fx : Nat → Nat → Prop} {w : World} : ∀ {xs : List DV} {vs : List Value} {ys : List DV} {us : List Value}, RDs fx w xs vs → RDs fx w ys us → RDs fx w (xs ++ ys) (vs ++ us)
  | _, _, _, _, .nil, h => h
  | _, _, _, _, .cons h t, k => .cons h (t.append k)
theorem RVs.append {γ : Gh} {w : World} : ∀ {xs : List AV} {vs : List Value} {ys : List AV} {us : List Value}, RVs γ w xs vs → RVs γ w ys us → RVs γ w (xs ++ ys) (vs ++ us)
  | _, _, _, _, .nil, h => h
  | _, _, _, _, .cons h t, k => .cons h (t.append k)

theorem RDs.drop {fx : Nat → Nat → Prop} {w : World} : ∀ (n : Nat) {xs : List DV} {vs : List Value}, RDs fx w xs vs → RDs fx w (xs.drop n) (vs.drop n)
  | 0, _, _, h => h
  | _ + 1, _, _, .nil => .nil
  | n + 1, _, _, .cons _ t => t.drop n
theorem RVs.drop {γ : Gh} {w : World} : ∀ (n : Nat) {xs : List AV} {vs : List Value}, RVs γ w xs vs → RVs γ w (xs.drop n) (vs.drop n)
  | 0, _, _, h => h
  | _ + 1, _, _, .nil => .nil
  | n + 1, _, _, .cons _ t => t.drop n
theorem RDs.take {fx : Nat → Nat → Prop} {w : World} : ∀ (n : Nat) {xs : List DV} {vs : List Value}, RDs fx w xs vs → RDs fx w (xs.take n) (vs.take n)
  | 0, _, _, _ => .nil
  | _ + 1, _, _, .nil => .nil
  | n + 1, _, _, .cons h t => .cons h (t.take n)
theorem RVs.take {γ : Gh} {w : World} : ∀ (n : Nat) {xs : List AV} {vs : List Value}, RVs γ w xs vs → RVs γ w (xs.take n) (vs.take n)
  | 0, _, _, _ => .nil
  | _ + 1, _, _, .nil => .nil
  | n + 1, _, _, .cons h t => .cons h (t.take n)
theorem RDs.get {fx : Nat → Nat → Prop} {w : World} : ∀ {i : Nat} {xs : List DV} {vs : List Value} {x : DV}, RDs fx w xs vs → xs[i]? = some x → ∃ v, vs[i]? = some v ∧ RD fx w x v
  | _, _, _, _, .nil, h => by simp at h
  | 0, _, _, _, .cons h _, e => by simp at e; subst e; exact ⟨_, rfl, h⟩
  | i + 1, _, _, _, .cons _ t, e => by simp at e; obtain ⟨v, h1, h2⟩ := t.get e; exact ⟨v, by simpa using h1, h2⟩
theorem RVs.get {γ : Gh} {w : World} : ∀ {i : Nat} {xs : List AV} {vs : List Value} {x : AV}, RVs γ w xs vs → xs[i]? = some x → ∃ v, vs[i]? = some v ∧ RV γ w x v
  | _, _, _, _, .nil, h => by simp at h
  | 0, _, _, _, .cons h _, e => by simp at e; subst e; exact ⟨_, rfl, h⟩
  | i + 1, _, _, _, .cons _ t, e => by simp at e; obtain ⟨v, h1, h2⟩ := t.get e; exact ⟨v, by simpa using h1, h2⟩
theorem RVs.of_d {γ : Gh} {w : World} : ∀ {xs : List DV} {vs : List Value}, RDs γ.fix w xs vs → RVs γ w (xs.map .d) vs
  | _, _, .nil => .nil
  | _, _, .cons h t => .cons (.d h) (RVs.of_d t)
theorem RVs.to_d {γ : Gh} {w : World} : ∀ {xs : List DV} {vs : List Value}, RVs γ w (xs.map .d) vs → RDs γ.fix w xs vs
  | [], _, h => by cases h; exact .nil
  | _ :: _, _, h => by cases h with | cons h t => cases h with | d h => exact .cons h (RVs.to_d t)
theorem allD_map {l : List AV} : ∀ {ds : List DV}, allD l = some ds → l = ds.map .d := by
  induction l with
  | nil => intro ds h; simp [allD] at h; subst h; rfl
  | cons x r ih =>
    intro ds h
    cases x <;> simp only [allD] at h <;> try (exact absurd h (by simp))
    split at h
    · rename_i l hl
      simp at h
      subst h
      simp [ih hl]
    · simp at h
theorem RVs.allD {γ : Gh} {w : World} {l : List AV} {vs : List Value} {ds : List DV} (h : RVs γ w l vs) (hd : allD l = some ds) : RDs γ.fix w ds vs := by
  rw [allD_map hd] at h
  exact h.to_d

theorem ones.append {a b : List Value} (h : ones a) (k : ones b) : ones (a ++ b) := fun v hv => by
  rcases List.mem_append.1 hv with h1 | h1
  · exact h v h1
  · exact k v h1
theorem ones.drop {a : List Value} (h : ones a) (n : Nat) : ones (a.drop n) := fun v hv => h v (List.mem_of_mem_drop hv)
theorem ones.take {a : List Value} (h : ones a) (n : Nat) : ones (a.take n) := fun v hv => h v (List.mem_of_mem_take hv)

theorem RV.mkAgg {γ : Gh} {w : World} {l : List AV} {vs : List Value} (h : RVs γ w l vs) (h1 : ones vs) : RV γ w (mkAgg l) (.agg vs.toArray) := by
  unfold Pv.mkAgg
  split
  · rename_i ds hd
    exact .d (.agg (h.allD hd) h1)
  · exact .agg h h1

theorem RD.one_cells {fx : Nat → Nat → Prop} {w : World} {x : DV} {v : Value} (h : RD fx w x v) : RDs fx w x.cells v.cells.toList ∧ ones v.cells.toList := by
  cases h with
  | agg h h1 => exact ⟨by simpa [DV.cells, Value.cells] using h, by simpa [Value.cells] using h1⟩
  | b x => exact ⟨.cons (.b x) .nil, by simp [ones, Value.cells, Value.oneCell']⟩
  | i k n => exact ⟨.cons (.i k n) .nil, by simp [ones, Value.cells, Value.oneCell']⟩
  | s x => exact ⟨.cons (.s x) .nil, by simp [ones, Value.cells, Value.oneCell']⟩
  | nil a c => exact ⟨.cons (.nil a c) .nil, by simp [ones, Value.cells, Value.oneCell']⟩
  | sl h h1 hz hc hf => exact ⟨.cons (.sl h h1 hz hc hf) .nil, by simp [ones, Value.cells, Value.oneCell']⟩

theorem RV.one_cells {γ : Gh} {w : World} {x : AV} {v : Value} (h : RV γ w x v) (hs : stb x = true) : RVs γ w x.cells v.cells.toList ∧ ones v.cells.toList := by
  have single : ∀ {y : AV} {u : Value}, RV γ w y u → y.cells = [y] → u.oneCell' = true → RVs γ w y.cells u.cells.toList ∧ ones u.cells.toList := by
    intro y u hy hc hu
    have hcells : u.cells.toList = [u] := by cases u <;> simp [Value.cells, Value.oneCell'] at hu ⊢
    rw [hc, hcells]
    exact ⟨.cons hy .nil, by simp [ones, hu]⟩
  cases h with
  | d h =>
    have := h.one_cells
    refine ⟨?_, this.2⟩
    rename_i y
    have hc : (AV.d y).cells = y.cells.map .d := by cases y <;> rfl
    rw [hc]
    exact .of_d this.1
  | nilS => exact single .nilS rfl rfl
  | e0t c => exact single (.e0t c) rfl rfl
  | e0f a c => exact single (.e0f a c) rfl rfl
  | z0 a => exact single (.z0 a) rfl rfl
  | view hp hg hc hb h => exact single (.view hp hg hc hb h) rfl rfl
  | ptr hp => exact single (.ptr hp) rfl rfl
  | mp hp => exact single (.mp hp) rfl rfl
  | eptr h h1 hf => exact single (.eptr h h1 hf) rfl rfl
  | vptr hp hg h => exact single (.vptr hp hg h) rfl rfl
  | fn ha hb => exact single (.fn ha hb) rfl rfl
  | agg h h1 => exact ⟨by simpa [AV.cells, Value.cells] using h, by simpa [Value.cells] using h1⟩
  | one v h1 => exact single (.one v h1) rfl h1
  | tup h => simp [stb] at hs
  | und => simp [stb] at hs
  | junk v => simp [stb] at hs

end Pv
