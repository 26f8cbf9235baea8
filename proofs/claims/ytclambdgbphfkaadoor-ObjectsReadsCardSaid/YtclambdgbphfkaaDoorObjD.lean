/- Operations on objects: All. -/
import Derived.Test.YtclambdgbphfkaaDoorObjC
set_option linter.all false
namespace Go.Proofs.YtclambdgbphfkaaDoor
open Pv Go Pk
set_option maxRecDepth 10000
set_option maxHeartbeats 1000000

def allOps (b : Base) : List Opr → Base × List Res
  | [] => (b, [])
  | o :: r => ((allOps (doOp b o).1 r).1, (doOp b o).2 :: (allOps (doOp b o).1 r).2)
theorem allOps_append (b : Base) : ∀ (l r : List Opr), allOps b (l ++ r) = ((allOps (allOps b l).1 r).1, (allOps b l).2 ++ (allOps (allOps b l).1 r).2)
  | [], r => rfl
  | o :: l, r => by simp only [List.cons_append, allOps, allOps_append _ l r]
theorem allOps_snoc (b : Base) (l : List Opr) (o : Opr) : allOps b (l ++ [o]) = ((doOp (allOps b l).1 o).1, (allOps b l).2 ++ [(doOp (allOps b l).1 o).2]) := by
  rw [allOps_append]; rfl
theorem allOps_len (b : Base) : ∀ l : List Opr, (allOps b l).2.length = l.length
  | [] => rfl
  | o :: l => by simp [allOps, allOps_len]

theorem attr_set_fit {x : Objt} (h : Objt.fit x) {i : Nat} {d : ByteArray} (hd : d.size ≤ 16) : Objt.fit { x with attr := x.attr.set i d } := by
  refine ⟨h.1, fun j hj => ?_⟩
  by_cases hi : i < 3
  · show ((x.attr.set i d).get j).size ≤ 300
    rw [R3.get_set _ _ _ _ hi hj]
    split
    · omega
    · exact h.2 j hj
  · have : x.attr.set i d = x.attr := by
      match i, hi with
      | 0, hi => exact absurd (by omega) hi
      | 1, hi => exact absurd (by omega) hi
      | 2, hi => exact absurd (by omega) hi
      | n + 3, _ => rfl
    show ((x.attr.set i d).get j).size ≤ 300
    rw [this]
    exact h.2 j hj

theorem doO_fit {x : Objt} {o : Opr} (hx : Objt.fit x) (h0 : 0 ≤ o.at_) (hd : o.data.size ≤ 16) : Objt.fit (doO x o).1 := by
  unfold doO
  split
  · unfold writeO
    split
    · exact hx
    · refine ⟨?_, hx.2⟩
      have hg := grown_size x.data (o.at_.toNat + o.data.size)
      have := hx.1
      show (splice x.data o.at_.toNat o.data).size ≤ 300
      unfold splice
      simp [hg]
      omega
  · split
    · unfold truncO
      split
      · exact hx
      · split
        · exact hx
        · refine ⟨?_, hx.2⟩
          have hg := grown_size x.data o.at_.toNat
          have := hx.1
          show ((grown x.data o.at_.toNat).extract 0 o.at_.toNat).size ≤ 300
          simp
          omega
    · split
      · unfold attrO
        split
        · exact hx
        · split
          · exact hx
          · exact attr_set_fit hx hd
      · unfold removeO
        split
        · exact hx
        · exact ⟨by decide, by decide⟩

theorem doOp_fit {b : Base} {o : Opr} (hb : Base.fit b) (ho : o.ok) : Base.fit (doOp b o).1 := by
  unfold doOp
  split
  · exact hb
  · split
    · exact hb
    · rename_i hw _
      obtain ⟨j, hj, hj', hj6⟩ := obj_idx ho (by simpa using hw)
      have h0 : 0 ≤ o.at_ := by have := ho; simp only [Opr.ok] at this; omega
      have hd := (isOp_le (writes_isOp (o := o) (by simpa using hw))).1
      intro i hi
      show Objt.fit ((b.objs.set o.obj.toNat _).get i)
      rw [R6.get_set _ _ _ _ (by omega) hi]
      split
      · exact doO_fit (hb _ (by omega)) h0 hd
      · exact hb i hi

theorem allOps_fit : ∀ {l : List Opr} {b : Base}, Base.fit b → (∀ o ∈ l, o.ok) → Base.fit (allOps b l).1
  | [], b, hb, _ => hb
  | o :: l, b, hb, h => allOps_fit (l := l) (doOp_fit hb (h o (by simp))) fun x hx => h x (by simp [hx])
end Go.Proofs.YtclambdgbphfkaaDoor
