/- Operations on objects: All. / What operations on objects come to: plain laws, no program in sight. -/
import Derived.Test.YtlihpaegaikoeaaDoorObjC
set_option linter.all false
namespace Go.Proofs.YtlihpaegaikoeaaDoor
open Pv Go Pk
set_option maxRecDepth 10000
set_option maxHeartbeats 1000000

def allOps (b : Base) : List Opr → Base × List Res
  | [] => (b, [])
  | o :: r => ((allOps (doOp b o).1 r).1, (doOp b o).2 :: (allOps (doOp b o).1 r).2)
theorem allOps_append (b : Base) : ∀ (l r : List Opr), allOps b (l ++ r) = ((allOps (allOps b l).1 r).1, (allOps b l).2 ++ (allOps (allOps b l).1 r).2)
  | [], r => rfl
  | o :: l, r => by simp only [List.cons_append, allOps, allOps_append _ l r]
theorem allOps_snoc (b : Base) (l : List Opr) (o : Opr) : allOps b (l ++ [o]) = ((doOp (allOps b l).1 o).1, (allOps b l).2 ++ [(doOp (allOps b l).1 o).2]) := by
  rw [allOps_append]; rfl
theorem allOps_len (b : Base) : ∀ l : List Opr, (allOps b l).2.length = l.length
  | [] => rfl
  | o :: l => by simp [allOps, allOps_len]

theorem attr_set_fit {x : Objt} (h : Objt.fit x) {i : Nat} {d : ByteArray} (hd : d.size ≤ 16) : Objt.fit { x with attr := x.attr.set i d } := by
  refine ⟨h.1, fun j hj => ?_⟩
  by_cases hi : i < 3
  · show ((x.attr.set i d).get j).size ≤ 300
    rw [R3.get_set _ _ _ _ hi hj]
    split
    · omega
    · exact h.2 j hj
  · have : x.attr.set i d = x.attr := by
      match i, hi with
      | 0, hi => exact absurd (by omega) hi
      | 1, hi => exact absurd (by omega) hi
      | 2, hi => exact absurd (by omega) hi
      | n + 3, _ => rfl
    show ((x.attr.set i d).get j).size ≤ 300
    rw [this]
    exact h.2 j hj

theorem doO_fit {x : Objt} {o : Opr} (hx : Objt.fit x) (h0 : 0 ≤ o.at_) (hd : o.data.size ≤ 16) : Objt.fit (doO x o).1 := by
  unfold doO
  split
  · unfold writeO
    split
    · exact hx
    · refine ⟨?_, hx.2⟩
      have hg := grown_size x.data (o.at_.toNat + o.data.size)
      have := hx.1
      show (splice x.data o.at_.toNat o.data).size ≤ 300
      unfold splice
      simp [hg]
      omega
  · split
    · unfold truncO
      split
      · exact hx
      · split
        · exact hx
        · refine ⟨?_, hx.2⟩
          have hg := grown_size x.data o.at_.toNat
          have := hx.1
          show ((grown x.data o.at_.toNat).extract 0 o.at_.toNat).size ≤ 300
          simp
          omega
    · split
      · unfold attrO
        split
        · exact hx
        · split
          · exact hx
          · exact attr_set_fit hx hd
      · unfold removeO
        split
        · exact hx
        · exact ⟨by decide, by decide⟩

theorem doOp_fit {b : Base} {o : Opr} (hb : Base.fit b) (ho : o.ok) : Base.fit (doOp b o).1 := by
  unfold doOp
  split
  · exact hb
  · split
    · exact hb
    · rename_i hw _
      obtain ⟨j, hj, hj', hj6⟩ := obj_idx ho (by simpa using hw)
      have h0 : 0 ≤ o.at_ := by have := ho; simp only [Opr.ok] at this; omega
      have hd := (isOp_le (writes_isOp (o := o) (by simpa using hw))).1
      intro i hi
      show Objt.fit ((b.objs.set o.obj.toNat _).get i)
      rw [R6.get_set _ _ _ _ (by omega) hi]
      split
      · exact doO_fit (hb _ (by omega)) h0 hd
      · exact hb i hi

theorem allOps_fit : ∀ {l : List Opr} {b : Base}, Base.fit b → (∀ o ∈ l, o.ok) → Base.fit (allOps b l).1
  | [], b, hb, _ => hb
  | o :: l, b, hb, h => allOps_fit (l := l) (doOp_fit hb (h o (by simp))) fun x hx => h x (by simp [hx])
end Go.Proofs.YtlihpaegaikoeaaDoor

namespace Go.Proofs.YtlihpaegaikoeaaDoor
open Pv Go Pk

theorem cl_lt {o : Opr} (h : writes o = true) : (o.client - 1).toNat < 3 := by have := isOp_le (writes_isOp h); omega
theorem ob_lt {o : Opr} (ho : o.ok) (h : writes o = true) : o.obj.toNat < 6 := by have := isOp_le (writes_isOp h); simp only [Opr.ok] at ho; omega

theorem doOp_seen {b : Base} {o : Opr} (hw : writes o = true) (hs : (seen b o).2 = true) : doOp b o = (b, (seen b o).1) := by
  unfold doOp
  rw [if_neg (by simp [hw]), if_pos hs]

theorem seen_do {b : Base} {o : Opr} (hw : writes o = true) : seen (doOp b o).1 o = ((doOp b o).2, true) := by
  by_cases hs : (seen b o).2 = true
  · rw [doOp_seen hw hs]
    show seen b o = _
    rw [← hs]
  · have hk := cl_lt hw
    unfold doOp
    rw [if_neg (by simp [hw]), if_neg hs]
    unfold seen
    rw [if_neg (by simp [hw])]
    show (if ((b.last.set _ _).get _).seq < _ then _ else if ((b.last.set _ _).get _).seq = _ then (((b.last.set _ _).get _).r, true) else _) = _
    rw [R3.get_set _ _ _ _ hk hk, if_pos rfl, if_neg (by simp), if_pos rfl]

theorem doOp_again {b : Base} {o : Opr} (hw : writes o = true) : doOp (doOp b o).1 o = ((doOp b o).1, (doOp b o).2) := by
  have := seen_do (b := b) hw
  rw [doOp_seen hw (by rw [this]), this]

theorem seen_seq {b : Base} {o : Opr} (h : (seen b o).2 = true) : o.seq ≤ (b.last.get (o.client - 1).toNat).seq := by
  unfold seen at h
  split at h
  · simp at h
  · split at h
    · simp at h
    · omega

theorem seen_elder {b : Base} {o : Opr} (hw : writes o = true) (h : o.seq < (b.last.get (o.client - 1).toNat).seq) : seen b o = (⟨3, ⟨#[]⟩⟩, true) := by
  unfold seen
  rw [if_neg (by simp [hw]), if_neg (by omega), if_neg (by omega)]

theorem isOp_seq {o : Opr} {n : Int} (h : isOp o = true) (hn : n ≠ 0) : isOp { o with seq := n } = true := by
  unfold isOp at h ⊢
  obtain ⟨c, s, k, j, a, d⟩ := o
  by_cases hd : d = ⟨#[]⟩
  · simp [hd] at h ⊢; omega
  · simp [hd] at h ⊢; omega
theorem writes_seq {o : Opr} {n : Int} (h : writes o = true) (hn : n ≠ 0) : writes { o with seq := n } = true := by
  unfold writes at h ⊢
  simp at h ⊢
  exact ⟨isOp_seq h.1 hn, h.2⟩

theorem doOp_later {b : Base} {o : Opr} (hw : writes o = true) (hs : 0 ≤ o.seq) : doOp (doOp b { o with seq := o.seq + 1 }).1 o = ((doOp b { o with seq := o.seq + 1 }).1, ⟨3, ⟨#[]⟩⟩) := by
  have hw' := writes_seq (n := o.seq + 1) hw (by omega)
  have h1 := seen_do (b := b) hw'
  have h2 := seen_seq (b := (doOp b { o with seq := o.seq + 1 }).1) (o := { o with seq := o.seq + 1 }) (by rw [h1])
  have h3 := seen_elder (b := (doOp b { o with seq := o.seq + 1 }).1) hw (by show o.seq < _; exact Int.lt_of_lt_of_le (by show o.seq < o.seq + 1; omega) h2)
  rw [doOp_seen hw (by rw [h3]), h3]

/-- What an operation leaves alone. -/
theorem doOp_objs {b : Base} {o : Opr} (ho : o.ok) {i : Nat} (hi : i < 6) (h : i ≠ o.obj.toNat) : (doOp b o).1.objs.get i = b.objs.get i := by
  unfold doOp
  split
  · rfl
  · split
    · rfl
    · rename_i hw _
      have := ob_lt ho (o := o) (by simpa using hw)
      show (b.objs.set _ _).get i = _
      rw [R6.get_set _ _ _ _ this hi, if_neg h]
theorem doOp_last {b : Base} {o : Opr} {i : Nat} (hi : i < 3) (h : i ≠ (o.client - 1).toNat) : (doOp b o).1.last.get i = b.last.get i := by
  unfold doOp
  split
  · rfl
  · split
    · rfl
    · rename_i hw _
      have := cl_lt (o := o) (by simpa using hw)
      show (b.last.set _ _).get i = _
      rw [R3.get_set _ _ _ _ this hi, if_neg h]

theorem seen_congr {b c : Base} {o : Opr} (h : b.last.get (o.client - 1).toNat = c.last.get (o.client - 1).toNat) : seen b o = seen c o := by
  unfold seen
  rw [h]

theorem cl_ne {a b : Opr} (ha : writes a = true) (hb : writes b = true) (h : a.client ≠ b.client) : (a.client - 1).toNat ≠ (b.client - 1).toNat := by
  have := isOp_le (writes_isOp ha); have := isOp_le (writes_isOp hb); omega
theorem ob_ne {a b : Opr} (oa : a.ok) (ob : b.ok) (h : a.obj ≠ b.obj) : a.obj.toNat ≠ b.obj.toNat := by
  simp only [Opr.ok] at oa ob; omega

theorem doOp_snd (s : Base) (b : Opr) : (doOp s b).2 = if writes b = false then ⟨3, ⟨#[]⟩⟩ else if (seen s b).2 = true then (seen s b).1 else ⟨(doO (s.objs.get b.obj.toNat) b).2, ⟨#[]⟩⟩ := by
  unfold doOp
  split
  · rfl
  · split <;> rfl
/-- The result behind another one's operation. -/
theorem doOp_res {s : Base} {a b : Opr} (oa : a.ok) (ob : b.ok) (ha : writes a = true) (hb : writes b = true) (hc : a.client ≠ b.client) (hj : a.obj ≠ b.obj) : (doOp (doOp s a).1 b).2 = (doOp s b).2 := by
  have h1 : seen (doOp s a).1 b = seen s b := seen_congr (doOp_last (cl_lt hb) (Ne.symm (cl_ne ha hb hc)))
  have h2 : (doOp s a).1.objs.get b.obj.toNat = s.objs.get b.obj.toNat := doOp_objs oa (ob_lt ob hb) (Ne.symm (ob_ne oa ob hj))
  rw [doOp_snd, doOp_snd, h1, h2]

theorem doOp_get {s : Base} {b : Opr} (ob : b.ok) {i : Nat} (hi : i < 6) : (doOp s b).1.objs.get i = if writes b = true ∧ (seen s b).2 = false ∧ i = b.obj.toNat then (doO (s.objs.get i) b).1 else s.objs.get i := by
  unfold doOp
  by_cases hw : writes b = true
  · rw [if_neg (by simp [hw])]
    by_cases hs : (seen s b).2 = true
    · rw [if_pos hs, if_neg (by simp [hs])]
    · rw [if_neg hs]
      show (s.objs.set _ _).get i = _
      rw [R6.get_set _ _ _ _ (ob_lt ob hw) hi]
      by_cases h : i = b.obj.toNat
      · rw [if_pos h, if_pos ⟨hw, by simpa using hs, h⟩, h]
      · rw [if_neg h, if_neg (fun hh => h hh.2.2)]
  · rw [if_pos (by simpa using hw), if_neg (by simp [hw])]
theorem doOp_getL {s : Base} {b : Opr} {i : Nat} (hi : i < 3) : (doOp s b).1.last.get i = if writes b = true ∧ (seen s b).2 = false ∧ i = (b.client - 1).toNat then ⟨b.seq, (doOp s b).2⟩ else s.last.get i := by
  unfold doOp
  by_cases hw : writes b = true
  · rw [if_neg (by simp [hw])]
    by_cases hs : (seen s b).2 = true
    · rw [if_pos hs, if_neg (by simp [hs])]
    · rw [if_neg hs]
      show (s.last.set _ _).get i = _
      rw [R3.get_set _ _ _ _ (cl_lt hw) hi]
      by_cases h : i = (b.client - 1).toNat
      · rw [if_pos h, if_pos ⟨hw, by simpa using hs, h⟩]
      · rw [if_neg h, if_neg (fun hh => h hh.2.2)]
  · rw [if_pos (by simpa using hw), if_neg (by simp [hw])]

theorem doOp_comm {s : Base} {a b : Opr} (oa : a.ok) (ob : b.ok) (ha : writes a = true) (hb : writes b = true) (hc : a.client ≠ b.client) (hj : a.obj ≠ b.obj) : (doOp (doOp s a).1 b).1 = (doOp (doOp s b).1 a).1 := by
  have h1 : seen (doOp s a).1 b = seen s b := seen_congr (doOp_last (cl_lt hb) (Ne.symm (cl_ne ha hb hc)))
  have h2 : seen (doOp s b).1 a = seen s a := seen_congr (doOp_last (cl_lt ha) (cl_ne ha hb hc))
  have r1 := doOp_res (s := s) oa ob ha hb hc hj
  have r2 := doOp_res (s := s) ob oa hb ha (Ne.symm hc) (Ne.symm hj)
  have n1 := cl_ne ha hb hc
  have n2 := ob_ne oa ob hj
  have e1 : (doOp (doOp s a).1 b).1.objs = (doOp (doOp s b).1 a).1.objs := by
    apply R6.ext_get
    intro i hi
    rw [doOp_get ob hi, doOp_get oa hi, doOp_get oa hi, doOp_get ob hi, h1, h2]
    by_cases x : i = a.obj.toNat
    · subst x; simp [n2]
    · by_cases y : i = b.obj.toNat
      · subst y; simp [Ne.symm n2]
      · simp [x, y]
  have e2 : (doOp (doOp s a).1 b).1.last = (doOp (doOp s b).1 a).1.last := by
    apply R3.ext_get
    intro i hi
    rw [doOp_getL hi, doOp_getL hi, doOp_getL hi, doOp_getL hi, h1, h2, r1, r2]
    generalize (a.client - 1).toNat = ka at *
    generalize (b.client - 1).toNat = kb at *
    by_cases x : i = ka
    · subst x; simp [n1]
    · by_cases y : i = kb
      · subst y; simp [Ne.symm n1]
      · simp [x, y]
  generalize (doOp (doOp s a).1 b).1 = p at *
  generalize (doOp (doOp s b).1 a).1 = q at *
  cases p; cases q
  simp at e1 e2
  simp [e1, e2]

theorem allOps_get {b : Base} : ∀ {l : List Opr} {i : Nat} {o : Opr}, l[i]? = some o → (allOps b l).2[i]? = some (doOp (allOps b (l.take i)).1 o).2
  | [], _, _, h => by simp at h
  | x :: l, 0, o, h => by simp at h; subst h; rfl
  | x :: l, i + 1, o, h => by
    have := allOps_get (b := (doOp b x).1) (l := l) (i := i) (o := o) (by simpa using h)
    simpa [allOps] using this

theorem zero_fit : Base.fit Base.zero := by
  intro i hi
  rcases (by omega : i = 0 ∨ i = 1 ∨ i = 2 ∨ i = 3 ∨ i = 4 ∨ i = 5) with rfl | rfl | rfl | rfl | rfl | rfl <;> exact ⟨by decide, by decide⟩
end Go.Proofs.YtlihpaegaikoeaaDoor
