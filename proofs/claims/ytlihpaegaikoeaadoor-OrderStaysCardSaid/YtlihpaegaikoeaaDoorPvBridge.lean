/- The pure evaluator: from a law's evaluation to its statement: arguments read as data, opened; memory below the call's own stays. -/
import Derived.Test.YtlihpaegaikoeaaDoorPvSound
import Derived.ProofKit
import Derived.OpenShut
set_option linter.all false
namespace Pv
open Go Go.RowKit Go.ChangeShapes

def tiles (P : Program) (pl : TypeId → Bool) : Nat → List Field → Nat → Bool
  | o, [], e => o == e
  | o, f :: r, e => f.offset == o && pl f.type && tiles P pl (o + P.cellsOf f.type) r e

/-- Types of plain data, laid out as their fields follow one another. -/
def plain (P : Program) : Nat → TypeId → Bool
  | 0, _ => false
  | n + 1, t => match P.underlying t with
    | some .bool | some .string | some (.int _) => true
    | some (.slice e) => plain P n e && decide (0 < P.cellsOf e)
    | some (.struct fs) => tiles P (plain P n) 0 fs.toList (P.cellsOf t)
    | some (.array m e) => P.cellsOf t == m * P.cellsOf e && plain P n e
    | _ => false

/-- Cells packed into one element. -/
def pack (P : Program) (t : TypeId) (cs : List DV) : DV := match P.underlying t with
  | some (.struct _) | some (.array _ _) => .agg cs
  | _ => cs.headD (.b false)

def ShapeFs (sh : TypeId → List DV → Prop) : List Field → List DV → Prop
  | [], ds => ds = []
  | f :: r, ds => ∃ a b, ds = a ++ b ∧ sh f.type a ∧ ShapeFs sh r b

/-- What data of a type looks like. -/
def Shape (P : Program) : Nat → TypeId → List DV → Prop
  | 0, _, _ => False
  | n + 1, t, ds => match P.underlying t with
    | some .bool => ∃ b, ds = [.b b]
    | some (.int k) => ∃ x, ds = [.i k x] ∧ (Lit.int k x).wf = true
    | some .string => ∃ s : ByteArray, ds = [.s s] ∧ s.size ≤ maxLen
    | some (.slice e) => ∃ es : List (List DV), ds = [.sl (es.map (pack P e))] ∧ es.length ≤ maxLen ∧ ∀ x ∈ es, Shape P n e x
    | some (.struct fs) => ShapeFs (Shape P n) fs.toList ds
    | some (.array m e) => ∃ es : List (List DV), ds = es.flatten ∧ es.length = m ∧ ∀ x ∈ es, Shape P n e x
    | _ => False

theorem pack_cells {P : Program} {n : Nat} {t : TypeId} {ds : List DV} (h : Shape P n t ds) : (pack P t ds).cells = ds := by
  cases n with
  | zero => exact h.elim
  | succ n =>
    unfold Shape at h
    unfold pack
    split at h
    · rename_i e; obtain ⟨b, rfl⟩ := h; simp [e, DV.cells]
    · rename_i e; obtain ⟨x, rfl, _⟩ := h; simp [e, DV.cells]
    · rename_i e; obtain ⟨s, rfl, _⟩ := h; simp [e, DV.cells]
    · rename_i e; obtain ⟨es, rfl, _⟩ := h; simp [e, DV.cells]
    · rename_i e; simp [e, DV.cells]
    · rename_i e; simp [e, DV.cells]
    · exact h.elim

def fixAll (w : World) (b _ : Nat) : Prop := b < w.heap.size

/-- A reading opened. -/
def Opened (P : Program) (w : World) (n : Nat) (t : TypeId) (cs : List Value) : Prop := ∃ ds, RDs (fixAll w) w ds cs ∧ ones cs ∧ Shape P n t ds

theorem ones_nil : ones [] := fun _ h => by simp at h
theorem ones_one {v : Value} (h : v.oneCell' = true) : ones [v] := fun x hx => by simp at hx; subst hx; exact h
theorem ones_append {a b : List Value} (ha : ones a) (hb : ones b) : ones (a ++ b) := fun x hx => by
  rcases List.mem_append.1 hx with h | h
  · exact ha x h
  · exact hb x h

section
variable {H : Type} {enc : TypeId × Value → H} {P : Program} {w : World} {base : Nat} {spare : Nat → Bool} {held : Bool}

theorem open_tiles {n : Nat} {cs : List Value} : ∀ (l : List Field) (o e : Nat), tiles P (plain P n) o l e = true → e = cs.length →
    (∀ f ∈ l, plain P n f.type = true → Opened P w n f.type ((cs.drop f.offset).take (P.cellsOf f.type))) →
    o ≤ e ∧ ∃ ds, RDs (fixAll w) w ds (cs.drop o) ∧ ones (cs.drop o) ∧ ShapeFs (Shape P n) l ds
  | [], o, e, h, he, _ => by
    simp [tiles] at h
    subst h
    refine ⟨Nat.le_refl _, [], ?_, ?_, rfl⟩
    · rw [he, List.drop_length]; exact .nil
    · rw [he, List.drop_length]; exact ones_nil
  | f :: r, o, e, h, he, hop => by
    simp only [tiles, Bool.and_eq_true, beq_iff_eq] at h
    obtain ⟨⟨rfl, hpl⟩, ht⟩ := h
    obtain ⟨hle, ds, h1, h2, h3⟩ := open_tiles r _ e ht he (fun g hg => hop g (by simp [hg]))
    obtain ⟨d0, k1, k2, k3⟩ := hop f (by simp) hpl
    have e1 : cs.drop f.offset = (cs.drop f.offset).take (P.cellsOf f.type) ++ cs.drop (f.offset + P.cellsOf f.type) := by
      rw [← List.drop_drop, List.take_append_drop]
    refine ⟨by omega, d0 ++ ds, ?_, ?_, d0, ds, rfl, k3, h3⟩
    · rw [e1]; exact k1.append h1
    · rw [e1]; exact ones_append k2 h2

theorem open_row {n : Nat} {e : TypeId} {z : Nat} : ∀ (m : Nat) (cs : List Value), cs.length = m * z → (∀ i, i < m → Opened P w n e ((cs.drop (i * z)).take z)) →
    ∃ es : List (List DV), RDs (fixAll w) w es.flatten cs ∧ ones cs ∧ es.length = m ∧ (∀ x ∈ es, Shape P n e x) ∧ ∀ x ∈ es, x.length = z
  | 0, cs, hl, _ => by
    have : cs = [] := List.eq_nil_of_length_eq_zero (by omega)
    subst this
    exact ⟨[], .nil, ones_nil, rfl, by simp, by simp⟩
  | m + 1, cs, hl, hop => by
    obtain ⟨d0, k1, k2, k3⟩ := hop 0 (by omega)
    have hzl : z ≤ cs.length := by rw [hl, Nat.succ_mul]; omega
    obtain ⟨es, h1, h2, h3, h4, h5⟩ := open_row (z := z) m (cs.drop z) (by rw [List.length_drop, hl, Nat.succ_mul]; omega) (fun i hi => by
      rw [List.drop_drop]
      have := hop (i + 1) (by omega)
      rw [Nat.succ_mul, Nat.add_comm] at this
      exact this)
    simp only [Nat.zero_mul, List.drop_zero] at k1 k2
    have e1 : cs = cs.take z ++ cs.drop z := (List.take_append_drop z cs).symm
    refine ⟨d0 :: es, ?_, ?_, by simp [h3], ?_, ?_⟩
    · rw [e1, List.flatten_cons]; exact k1.append h1
    · rw [e1]; exact ones_append k2 h2
    · intro x hx
      rcases List.mem_cons.1 hx with rfl | hx
      · exact k3
      · exact h4 x hx
    · intro x hx
      rcases List.mem_cons.1 hx with rfl | hx
      · have := k1.length
        simp at this
        omega
      · exact h5 x hx

theorem flat_pack {n : Nat} {e : TypeId} : ∀ {es : List (List DV)}, (∀ x ∈ es, Shape P n e x) → flat (es.map (pack P e)) = es.flatten
  | [], _ => rfl
  | x :: r, h => by
    have := flat_pack (es := r) (fun y hy => h y (by simp [hy]))
    simp only [flat, List.map_cons, List.flatMap_cons, List.flatten_cons] at this ⊢
    rw [pack_cells (h x (by simp)), this]

theorem openD : ∀ (n : Nat) {t : TypeId}, plain P n t = true → ∀ {fuel : Nat} {cs : List Value} {x : DataW H × List MemPlace}, DataW.trod enc P w base spare held fuel t cs = some x → Opened P w n t cs
  | 0, t, hp, _, _, _, _ => by simp [plain] at hp
  | n + 1, t, hp, fuel, cs, x, hx => by
    unfold plain at hp
    split at hp
    · rename_i ht
      obtain ⟨b, rfl, _⟩ := DataW.trod_bool ht hx
      exact ⟨[.b b], .cons (.b b) .nil, ones_one rfl, by simp [Shape, ht]⟩
    · rename_i ht
      obtain ⟨s, rfl, _, hs⟩ := DataW.trod_string ht hx
      exact ⟨[.s s], .cons (.s s) .nil, ones_one rfl, by simp [Shape, ht, hs]⟩
    · rename_i k ht
      obtain ⟨i, rfl, _, hw⟩ := DataW.trod_int ht hx
      exact ⟨[.i k i], .cons (.i k i) .nil, ones_one rfl, by simp [Shape, ht, hw]⟩
    · rename_i e ht
      simp only [Bool.and_eq_true, decide_eq_true_eq] at hp
      obtain ⟨hpe, hz⟩ := hp
      rcases DataW.trod_slice ht hx with ⟨rfl, _⟩ | ⟨a, len, cap, elems, rest, m, _, rfl, _, hb, hl, hm, hlen, hel, _⟩
      · exact ⟨[.sl []], .cons (.nil none 0) .nil, ones_one rfl, by simp only [Shape, ht]; exact ⟨[], rfl, by simp, by simp⟩⟩
      · have one : ∀ i, i < len → ∃ ci, w.cells? base (a.add (i * P.cellsOf e)) (P.cellsOf e) = some ci ∧ Opened P w n e ci := by
          intro i hi
          have hy : elems[i]? = some (elems[i]'(by omega)) := List.getElem?_eq_getElem (by omega)
          have := hel i hi
          rw [hy, Option.bind_eq_some_iff] at this
          obtain ⟨ci, h1, h2⟩ := this
          exact ⟨ci, h1, openD n hpe h2⟩
        cases hl0 : len with
        | zero =>
          exact ⟨[.sl []], .cons (.nil (some a) cap) .nil, ones_one rfl, by simp only [Shape, ht]; exact ⟨[], rfl, by simp, by simp⟩⟩
        | succ l0 =>
          have hspot : a.spot = none ∧ a.block < w.heap.size := by
            obtain ⟨ci, h1, _⟩ := one 0 (by omega)
            obtain ⟨_, h2, h3⟩ := World.cells?_some h1
            have h4 := h3 0 hz
            simp only [Nat.zero_mul, Addr.add, if_true] at h4
            have : ci[0]? = some (ci[0]'(by omega)) := List.getElem?_eq_getElem (by omega)
            rw [this] at h4
            unfold World.cell? at h4
            split at h4
            · rename_i hh
              refine ⟨?_, (Array.getElem?_eq_some_iff.1 hh).1⟩
              split at h4
              · simp at h4
              · rename_i hs; simpa using hs
            · simp at h4
          obtain ⟨blk, off, spot⟩ := a
          simp only at hspot
          obtain ⟨rfl, hblk⟩ := hspot
          have cell : ∀ i, i < len → ∀ j, j < P.cellsOf e → ∃ ci : List Value, w.cells? base (Addr.add ⟨blk, off, none⟩ (i * P.cellsOf e)) (P.cellsOf e) = some ci ∧ w.cell? ⟨blk, off + (i * P.cellsOf e + j), none⟩ = ci[j]? := by
            intro i hi j hj
            obtain ⟨ci, h1, _⟩ := one i hi
            refine ⟨ci, h1, ?_⟩
            obtain ⟨_, h2, h3⟩ := World.cells?_some h1
            have h4 := h3 j hj
            rw [← h4]
            congr 1
            simp only [Addr.add]
            split <;> split <;> simp_all <;> omega
          have rows : ∀ m, m ≤ len → ∃ vs : List Value, vs.length = m * P.cellsOf e ∧ (∀ j v, vs[j]? = some v → w.cell? ⟨blk, off + j, none⟩ = some v) ∧ ∀ i, i < m → Opened P w n e ((vs.drop (i * P.cellsOf e)).take (P.cellsOf e)) := by
            intro m
            induction m with
            | zero => intro _; exact ⟨[], by simp, by simp, by simp⟩
            | succ m ih =>
              intro hm'
              obtain ⟨vs, h1, h2, h3⟩ := ih (by omega)
              obtain ⟨ci, k1, k2⟩ := one m (by omega)
              have hcl := (World.cells?_some k1).2.1
              refine ⟨vs ++ ci, by simp [h1, hcl, Nat.succ_mul], ?_, ?_⟩
              · intro j v hj
                by_cases hjl : j < vs.length
                · rw [List.getElem?_append_left hjl] at hj
                  exact h2 j v hj
                · rw [List.getElem?_append_right (by omega)] at hj
                  have hlt := (List.getElem?_eq_some_iff.1 hj).1
                  obtain ⟨ci', q1, q2⟩ := cell m (by omega) (j - vs.length) (by omega)
                  rw [k1] at q1
                  simp only [Option.some.injEq] at q1
                  subst q1
                  rw [hj, ← h1, show vs.length + (j - vs.length) = j by omega] at q2
                  exact q2
              · intro i hi
                by_cases him : i < m
                · have hle : i * P.cellsOf e + P.cellsOf e ≤ vs.length := by
                    rw [h1, ← Nat.succ_mul]; exact Nat.mul_le_mul_right _ him
                  rw [List.drop_append_of_le_length (by omega), List.take_append_of_le_length (by rw [List.length_drop]; omega)]
                  exact h3 i him
                · have : i = m := by omega
                  subst this
                  rw [← h1, List.drop_left, ← hcl, List.take_length]
                  exact k2
          obtain ⟨vs, h1, h2, h3⟩ := rows len (Nat.le_refl _)
          obtain ⟨es, q1, q2, q3, q4, q5⟩ := open_row len vs h1 h3
          refine ⟨[.sl (es.map (pack P e))], .cons ?_ .nil, ones_one rfl, ?_⟩
          · have hel : (es.map (pack P e)).length = len := by simp [q3]
            rw [← hl0, ← hel]
            refine .sl (vs := vs) (z := P.cellsOf e) ?_ q2 ?_ (by rw [hel]; exact hl) ?_
            · rw [flat_pack q4]; exact q1
            · intro x hx
              obtain ⟨y, hy, rfl⟩ := List.mem_map.1 hx
              rw [pack_cells (q4 y hy)]
              exact q5 y hy
            · intro j v hj
              exact ⟨hblk, h2 j v hj⟩
          · simp only [Shape, ht]
            exact ⟨es, rfl, by rw [q3]; omega, q4⟩
    · rename_i fs ht
      obtain ⟨xs, m, _, _, hl, hxl, hf⟩ := DataW.trod_struct ht hx
      obtain ⟨_, ds, h1, h2, h3⟩ := open_tiles (w := w) (cs := cs) fs.toList 0 _ hp hl.symm (by
        intro f hfm hpf
        obtain ⟨i, hi⟩ := List.getElem?_of_mem hfm
        have hi' : fs[i]? = some f := by simpa using hi
        have hlt : i < fs.size := (Array.getElem?_eq_some_iff.1 hi').1
        have hxi : xs[i]? = some (xs[i]'(by omega)) := List.getElem?_eq_getElem (by omega)
        have := hf i f hi'
        rw [hxi] at this
        exact openD n hpf this)
      exact ⟨ds, by simpa using h1, by simpa using h2, by simp only [Shape, ht]; exact h3⟩
    · rename_i m e ht
      simp only [Bool.and_eq_true, beq_iff_eq] at hp
      obtain ⟨hc, hpe⟩ := hp
      obtain ⟨xs, m', _, _, hl, hxl, hf⟩ := DataW.trod_array ht hx
      obtain ⟨es, h1, h2, h3, h4, _⟩ := open_row (P := P) (w := w) (n := n) (e := e) (z := P.cellsOf e) m cs (by rw [hl, hc]) (by
        intro i hi
        have hxi : xs[i]? = some (xs[i]'(by omega)) := List.getElem?_eq_getElem (by omega)
        have := hf i hi
        rw [hxi] at this
        exact openD n hpe this)
      exact ⟨es.flatten, h1, h2, by simp only [Shape, ht]; exact ⟨es, rfl, h3, h4⟩⟩
    · simp at hp

end
end Pv
