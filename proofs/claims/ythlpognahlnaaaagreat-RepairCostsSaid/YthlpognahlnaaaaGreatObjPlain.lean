/- Operations on objects: Seen, Do, All. / Operations on objects: All. / What operations on objects come to: plain laws, no program in sight. -/
import Derived.Test.YthlpognahlnaaaaGreatPkEvd
import Derived.Test.YthlpognahlnaaaaGreatObjB
set_option linter.all false
namespace Go.Proofs.YthlpognahlnaaaaGreat
open Pv Go Pk
set_option maxRecDepth 10000
set_option maxHeartbeats 1000000

def Base.fit (b : Base) : Prop := ∀ i < 6, Objt.fit (b.objs.get i)
def seen (b : Base) (o : Opr) : Res × Bool :=
 if writes o = false then (⟨0, ⟨#[]⟩⟩, false)
 else if (b.last.get (o.client - 1).toNat).seq < o.seq then (⟨0, ⟨#[]⟩⟩, false)
 else if (b.last.get (o.client - 1).toNat).seq = o.seq then ((b.last.get (o.client - 1).toNat).r, true)
 else (⟨3, ⟨#[]⟩⟩, true)
def doO (x : Objt) (o : Opr) : Objt × Int :=
 if o.kind = 1 then writeO x o else if o.kind = 2 then truncO x o else if o.kind = 3 then attrO x o else removeO x
def doOp (b : Base) (o : Opr) : Base × Res :=
 if writes o = false then (b, ⟨3, ⟨#[]⟩⟩)
 else if (seen b o).2 = true then (b, (seen b o).1)
 else ({ objs := b.objs.set o.obj.toNat (doO (b.objs.get o.obj.toNat) o).1, last := b.last.set (o.client - 1).toNat ⟨o.seq, ⟨(doO (b.objs.get o.obj.toNat) o).2, ⟨#[]⟩⟩⟩ }, ⟨(doO (b.objs.get o.obj.toNat) o).2, ⟨#[]⟩⟩)

theorem writes_isOp {o : Opr} (h : writes o = true) : isOp o = true := by unfold writes at h; simp at h; exact h.1

theorem client_idx {o : Opr} (h : writes o = true) : ∃ k : Nat, IntKind.u8.wrap (o.client - 1) = (k : Int) ∧ k = (o.client - 1).toNat ∧ k < 3 := by
 have := isOp_le (writes_isOp h)
 exact ⟨(o.client - 1).toNat, by rw [wu8 (by omega)]; omega, rfl, by omega⟩
theorem obj_idx {o : Opr} (ho : o.ok) (h : writes o = true) : ∃ k : Nat, o.obj = (k : Int) ∧ k = o.obj.toNat ∧ k < 6 := by
 have := isOp_le (writes_isOp h)
 have := ho
 simp only [Opr.ok] at this
 exact ⟨o.obj.toNat, by omega, rfl, by omega⟩

theorem seen_at (b : Base) (o : Opr) : evF C F_q1f [.d (.agg b.cs), .d (.agg o.cs)] [] = some (.tup [.d (.agg (seen b o).1.cs), .d (.b (seen b o).2)], []) := by
 rw [evF_code (rfl : C F_q1f = some a_q1f) _ _ rfl]
 unfold seen
 rcases Bool.eq_false_or_eq_true (writes o) with hw | hw
 ·obtain ⟨k, hk, hk', hk3⟩ := client_idx hw
  rw [← hk']
  have b1 : (0 ≤ (k : Int) ∧ (k : Int) < ((3 : Nat) : Int)) = True := by simp; omega
  have b2 : (30 + k * 3 + 3 ≤ 39) = True := by simp; omega
  by_cases c1 : (b.last.get k).seq < o.seq
  ·simp +decide only [c_q1f, writes_at, hw, hk, hk3, b1, b2, c1, Int.toNat_natCast, Pk.EVL, Pk.EVD, ↓reduceIte, reduceCtorEq, Nat.reduceEqDiff, Nat.reduceAdd, Nat.reduceLeDiff, Nat.reduceBNe, Nat.reduceLT, Nat.reduceBEq, Nat.reduceSub, Nat.reduceMul, Int.reduceLT, Int.reduceLE, Int.reduceEq, Int.reduceToNat, Int.reduceNeg, Pk.TY_Opr, Pk.TY_Base, Pk.TY_Res, Pk.TY_Last]
  ·by_cases c2 : (b.last.get k).seq = o.seq
   ·simp +decide only [c_q1f, writes_at, hw, hk, hk3, b1, b2, c1, c2, Int.toNat_natCast, Pk.EVL, Pk.EVD, ↓reduceIte, reduceCtorEq, Nat.reduceEqDiff, Nat.reduceAdd, Nat.reduceLeDiff, Nat.reduceBNe, Nat.reduceLT, Nat.reduceBEq, Nat.reduceSub, Nat.reduceMul, Int.reduceLT, Int.reduceLE, Int.reduceEq, Int.reduceToNat, Int.reduceNeg, Pk.TY_Opr, Pk.TY_Base, Pk.TY_Res, Pk.TY_Last]
   ·have c2' : ((b.last.get k).seq == o.seq) = false := by simp [c2]
    simp +decide only [c_q1f, writes_at, hw, hk, hk3, b1, b2, c1, c2, c2', Int.toNat_natCast, Pk.EVL, Pk.EVD, ↓reduceIte, reduceCtorEq, Nat.reduceEqDiff, Nat.reduceAdd, Nat.reduceLeDiff, Nat.reduceBNe, Nat.reduceLT, Nat.reduceBEq, Nat.reduceSub, Nat.reduceMul, Int.reduceLT, Int.reduceLE, Int.reduceEq, Int.reduceToNat, Int.reduceNeg, Pk.TY_Opr, Pk.TY_Base, Pk.TY_Res, Pk.TY_Last]
 ·simp +decide only [c_q1f, writes_at, hw, Pk.EVL, Pk.EVD, ↓reduceIte, reduceCtorEq, Nat.reduceEqDiff, Nat.reduceAdd, Nat.reduceLeDiff, Nat.reduceBNe, Nat.reduceLT, Nat.reduceBEq, Nat.reduceSub, Nat.reduceMul, Int.reduceLT, Int.reduceLE, Int.reduceEq, Int.reduceToNat, Int.reduceNeg, Pk.TY_Opr, Pk.TY_Base, Pk.TY_Res, Pk.TY_Last]

theorem does_at (k : Int) : evF C F_q1l [.d (.i .u8 k)] [] = some (.fn (if k = 1 then F_q1k else if k = 2 then F_q1j else if k = 3 then F_q1h else F_q1i) [] [], []) := by
 rw [evF_code (rfl : C F_q1l = some a_q1l) _ _ rfl]
 by_cases h1 : k = 1
 ·simp +decide only [c_q1l, h1, Pk.EVL, Pk.EVD, ↓reduceIte, reduceCtorEq, Nat.reduceEqDiff, Nat.reduceAdd, Nat.reduceLeDiff, Nat.reduceBNe, Nat.reduceLT, Nat.reduceBEq, Nat.reduceSub, Nat.reduceMul, Int.reduceLT, Int.reduceLE, Int.reduceEq, Int.reduceToNat, Int.reduceNeg]
 ·have h1' : (k == 1) = false := by simp [h1]
  by_cases h2 : k = 2
  ·simp +decide only [c_q1l, h2, Pk.EVL, Pk.EVD, ↓reduceIte, reduceCtorEq, Nat.reduceEqDiff, Nat.reduceAdd, Nat.reduceLeDiff, Nat.reduceBNe, Nat.reduceLT, Nat.reduceBEq, Nat.reduceSub, Nat.reduceMul, Int.reduceLT, Int.reduceLE, Int.reduceEq, Int.reduceToNat, Int.reduceNeg]
  ·have h2' : (k == 2) = false := by simp [h2]
   by_cases h3 : k = 3
   ·simp +decide only [c_q1l, h3, Pk.EVL, Pk.EVD, ↓reduceIte, reduceCtorEq, Nat.reduceEqDiff, Nat.reduceAdd, Nat.reduceLeDiff, Nat.reduceBNe, Nat.reduceLT, Nat.reduceBEq, Nat.reduceSub, Nat.reduceMul, Int.reduceLT, Int.reduceLE, Int.reduceEq, Int.reduceToNat, Int.reduceNeg]
   ·have h3' : (k == 3) = false := by simp [h3]
    simp +decide only [c_q1l, h1, h2, h3, h1', h2', h3', Pk.EVL, Pk.EVD, ↓reduceIte, reduceCtorEq, Nat.reduceEqDiff, Nat.reduceAdd, Nat.reduceLeDiff, Nat.reduceBNe, Nat.reduceLT, Nat.reduceBEq, Nat.reduceSub, Nat.reduceMul, Int.reduceLT, Int.reduceLE, Int.reduceEq, Int.reduceToNat, Int.reduceNeg]

theorem doO_at (x : Objt) (o : Opr) (ho : o.ok) (hx : x.data.size ≤ 300) (hd : o.data.size ≤ 16) (B0 B1 B2 B3 B4 : DV) :
  evF C (if o.kind = 1 then F_q1k else if o.kind = 2 then F_q1j else if o.kind = 3 then F_q1h else F_q1i) [.ptr 5 0, .d (.agg o.cs)]
   [.box (.d B0), .box (.d B1), .box (.d B2), .box (.d B3), .box (.d B4), .box (.d (.agg x.cs))] =
  some (.d (.i .u8 (doO x o).2), [.box (.d B0), .box (.d B1), .box (.d B2), .box (.d B3), .box (.d B4), .box (.d (.agg (doO x o).1.cs))]) := by
 unfold doO
 by_cases h1 : o.kind = 1
 ·simp only [h1, if_true]; exact write_at x o _ _ _ _ _ ho hx hd
 ·by_cases h2 : o.kind = 2
  ·simp only [h2, if_true, if_neg (by decide : ¬ (2 : Int) = 1)]; exact trunc_at x o _ _ _ _ _ ho hx
  ·by_cases h3 : o.kind = 3
   ·simp only [h3, if_true, if_neg (by decide : ¬ (3 : Int) = 1), if_neg (by decide : ¬ (3 : Int) = 2)]; exact attr_at x o _ _ _ _ _ ho
   ·simp only [h1, h2, h3, if_false]; exact remove_at x o _ _ _ _ _

theorem doOp_at (b : Base) (o : Opr) (hb : Base.fit b) (ho : o.ok) : evF C F_q1d [.d (.agg b.cs), .d (.agg o.cs)] [] = some (.tup [.d (.agg (doOp b o).1.cs), .d (.agg (doOp b o).2.cs)], []) := by
 rw [evF_code (rfl : C F_q1d = some a_q1d) _ _ rfl]
 unfold doOp
 rcases Bool.eq_false_or_eq_true (writes o) with hw | hw
 ·obtain ⟨k, hk, hk', hk3⟩ := client_idx hw
  obtain ⟨j, hj, hj', hj6⟩ := obj_idx ho hw
  rw [← hk', ← hj']
  have b1 : (0 ≤ (k : Int) ∧ (k : Int) < ((3 : Nat) : Int)) = True := by simp; omega
  have b2 : (30 + k * 3 + 3 ≤ 39) = True := by simp; omega
  have b3 : (0 ≤ (j : Int) ∧ (j : Int) < ((6 : Nat) : Int)) = True := by simp; omega
  have b4 : (j * 5 + 5 ≤ 39) = True := by simp; omega
  rcases Bool.eq_false_or_eq_true (seen b o).2 with hs | hs
  ·simp +decide only [c_q1d, writes_at, seen_at, hw, hs, Pk.EVL, Pk.EVD, ↓reduceIte, reduceCtorEq, Nat.reduceEqDiff, Nat.reduceAdd, Nat.reduceLeDiff, Nat.reduceBNe, Nat.reduceLT, Nat.reduceBEq, Nat.reduceSub, Nat.reduceMul, Int.reduceLT, Int.reduceLE, Int.reduceEq, Int.reduceToNat, Int.reduceNeg, Pk.TY_Opr, Pk.TY_Base, Pk.TY_Res, Pk.TY_Last]
  ·have hdo := doO_at (b.objs.get j) o ho (hb j hj6).1 (isOp_le (writes_isOp hw)).1 (.agg b.cs) (.agg o.cs) (.agg Base.zero.cs) (.agg (Res.cs ⟨0, ⟨#[]⟩⟩)) (.agg (seen b o).1.cs)
   simp +decide only [c_q1d, writes_at, seen_at, does_at, hdo, hw, hs, hk, hk3, hj, hj6, b1, b2, b3, b4, Int.toNat_natCast, Pk.EVL, Pk.EVD, ↓reduceIte, reduceCtorEq, Nat.reduceEqDiff, Nat.reduceAdd, Nat.reduceLeDiff, Nat.reduceBNe, Nat.reduceLT, Nat.reduceBEq, Nat.reduceSub, Nat.reduceMul, Int.reduceLT, Int.reduceLE, Int.reduceEq, Int.reduceToNat, Int.reduceNeg, Pk.TY_Opr, Pk.TY_Base, Pk.TY_Res, Pk.TY_Last, Pk.TY_Objt]
 ·simp +decide only [c_q1d, writes_at, hw, Pk.EVL, Pk.EVD, ↓reduceIte, reduceCtorEq, Nat.reduceEqDiff, Nat.reduceAdd, Nat.reduceLeDiff, Nat.reduceBNe, Nat.reduceLT, Nat.reduceBEq, Nat.reduceSub, Nat.reduceMul, Int.reduceLT, Int.reduceLE, Int.reduceEq, Int.reduceToNat, Int.reduceNeg, Pk.TY_Opr, Pk.TY_Base, Pk.TY_Res, Pk.TY_Last]
end Go.Proofs.YthlpognahlnaaaaGreat

namespace Go.Proofs.YthlpognahlnaaaaGreat
open Pv Go Pk
set_option maxRecDepth 10000
set_option maxHeartbeats 1000000

def allOps (b : Base) : List Opr → Base × List Res
 | [] => (b, [])
 | o :: r => ((allOps (doOp b o).1 r).1, (doOp b o).2 :: (allOps (doOp b o).1 r).2)
theorem allOps_append (b : Base) : ∀ (l r : List Opr), allOps b (l ++ r) = ((allOps (allOps b l).1 r).1, (allOps b l).2 ++ (allOps (allOps b l).1 r).2)
 | [], r => rfl
 | o :: l, r => by simp only [List.cons_append, allOps, allOps_append _ l r]
theorem allOps_snoc (b : Base) (l : List Opr) (o : Opr) : allOps b (l ++ [o]) = ((doOp (allOps b l).1 o).1, (allOps b l).2 ++ [(doOp (allOps b l).1 o).2]) := by
 rw [allOps_append]; rfl
theorem attr_set_fit {x : Objt} (h : Objt.fit x) {i : Nat} {d : ByteArray} (hd : d.size ≤ 16) : Objt.fit { x with attr := x.attr.set i d } := by
 refine ⟨h.1, fun j hj => ?_⟩
 by_cases hi : i < 3
 ·show ((x.attr.set i d).get j).size ≤ 300
  rw [R3.get_set _ _ _ _ hi hj]
  split
  ·omega
  ·exact h.2 j hj
 ·have : x.attr.set i d = x.attr := by
   match i, hi with
   | 0, hi => exact absurd (by omega) hi
   | 1, hi => exact absurd (by omega) hi
   | 2, hi => exact absurd (by omega) hi
   | n + 3, _ => rfl
  show ((x.attr.set i d).get j).size ≤ 300
  rw [this]
  exact h.2 j hj

theorem doO_fit {x : Objt} {o : Opr} (hx : Objt.fit x) (h0 : 0 ≤ o.at_) (hd : o.data.size ≤ 16) : Objt.fit (doO x o).1 := by
 unfold doO
 split
 ·unfold writeO
  split
  ·exact hx
  ·refine ⟨?_, hx.2⟩
   have hg := grown_size x.data (o.at_.toNat + o.data.size)
   have := hx.1
   show (splice x.data o.at_.toNat o.data).size ≤ 300
   unfold splice
   simp [hg]
   omega
 ·split
  ·unfold truncO
   split
   ·exact hx
   ·split
    ·exact hx
    ·refine ⟨?_, hx.2⟩
     have hg := grown_size x.data o.at_.toNat
     have := hx.1
     show ((grown x.data o.at_.toNat).extract 0 o.at_.toNat).size ≤ 300
     simp
     omega
  ·split
   ·unfold attrO
    split
    ·exact hx
    ·split
     ·exact hx
     ·exact attr_set_fit hx hd
   ·unfold removeO
    split
    ·exact hx
    ·exact ⟨by decide, by decide⟩

theorem doOp_fit {b : Base} {o : Opr} (hb : Base.fit b) (ho : o.ok) : Base.fit (doOp b o).1 := by
 unfold doOp
 split
 ·exact hb
 ·split
  ·exact hb
  ·rename_i hw _
   obtain ⟨j, hj, hj', hj6⟩ := obj_idx ho (by simpa using hw)
   have h0 : 0 ≤ o.at_ := by have := ho; simp only [Opr.ok] at this; omega
   have hd := (isOp_le (writes_isOp (o := o) (by simpa using hw))).1
   intro i hi
   show Objt.fit ((b.objs.set o.obj.toNat _).get i)
   rw [R6.get_set _ _ _ _ (by omega) hi]
   split
   ·exact doO_fit (hb _ (by omega)) h0 hd
   ·exact hb i hi

end Go.Proofs.YthlpognahlnaaaaGreat

namespace Go.Proofs.YthlpognahlnaaaaGreat
open Pv Go Pk

theorem cl_lt {o : Opr} (h : writes o = true) : (o.client - 1).toNat < 3 := by have := isOp_le (writes_isOp h); omega
end Go.Proofs.YthlpognahlnaaaaGreat
