/- Operations on objects: Seen, Do, All. / Operations on objects: All. / What operations on objects come to: plain laws, no program in sight. -/
import Derived.Test.YtlihpaegaikoeaaDoorObjB
set_option linter.all false
namespace Go.Proofs.YtlihpaegaikoeaaDoor
open Pv Go Pk
set_option maxRecDepth 10000
set_option maxHeartbeats 1000000

def Base.fit (b : Base) : Prop := ∀ i < 6, Objt.fit (b.objs.get i)
def seen (b : Base) (o : Opr) : Res × Bool :=
  if writes o = false then (⟨0, ⟨#[]⟩⟩, false)
  else if (b.last.get (o.client - 1).toNat).seq < o.seq then (⟨0, ⟨#[]⟩⟩, false)
  else if (b.last.get (o.client - 1).toNat).seq = o.seq then ((b.last.get (o.client - 1).toNat).r, true)
  else (⟨3, ⟨#[]⟩⟩, true)
def doO (x : Objt) (o : Opr) : Objt × Int :=
  if o.kind = 1 then writeO x o else if o.kind = 2 then truncO x o else if o.kind = 3 then attrO x o else removeO x
def doOp (b : Base) (o : Opr) : Base × Res :=
  if writes o = false then (b, ⟨3, ⟨#[]⟩⟩)
  else if (seen b o).2 = true then (b, (seen b o).1)
  else ({ objs := b.objs.set o.obj.toNat (doO (b.objs.get o.obj.toNat) o).1, last := b.last.set (o.client - 1).toNat ⟨o.seq, ⟨(doO (b.objs.get o.obj.toNat) o).2, ⟨#[]⟩⟩⟩ }, ⟨(doO (b.objs.get o.obj.toNat) o).2, ⟨#[]⟩⟩)

theorem writes_isOp {o : Opr} (h : writes o = true) : isOp o = true := by unfold writes at h; simp at h; exact h.1

theorem client_idx {o : Opr} (h : writes o = true) : ∃ k : Nat, IntKind.u8.wrap (o.client - 1) = (k : Int) ∧ k = (o.client - 1).toNat ∧ k < 3 := by
  have := isOp_le (writes_isOp h)
  exact ⟨(o.client - 1).toNat, by rw [wu8 (by omega)]; omega, rfl, by omega⟩
theorem obj_idx {o : Opr} (ho : o.ok) (h : writes o = true) : ∃ k : Nat, o.obj = (k : Int) ∧ k = o.obj.toNat ∧ k < 6 := by
  have := isOp_le (writes_isOp h)
  have := ho
  simp only [Opr.ok] at this
  exact ⟨o.obj.toNat, by omega, rfl, by omega⟩

theorem seen_at (b : Base) (o : Opr) : evF C F_objects_Seen [.d (.agg b.cs), .d (.agg o.cs)] [] = some (.tup [.d (.agg (seen b o).1.cs), .d (.b (seen b o).2)], []) := by
  rw [evF_code (rfl : C F_objects_Seen = some a_objects_Seen) _ _ rfl]
  unfold seen
  rcases Bool.eq_false_or_eq_true (writes o) with hw | hw
  · obtain ⟨k, hk, hk', hk3⟩ := client_idx hw
    rw [← hk']
    have b1 : (0 ≤ (k : Int) ∧ (k : Int) < ((3 : Nat) : Int)) = True := by simp; omega
    have b2 : (30 + k * 3 + 3 ≤ 39) = True := by simp; omega
    by_cases c1 : (b.last.get k).seq < o.seq
    · simp (config := {decide := true}) only [c_objects_Seen, writes_at, hw, hk, hk3, b1, b2, c1, Int.toNat_natCast, Pk.EVL, keepT, enum, ↓reduceIte, ev, act, appT, callee, toDs, toD, loadA, storeA, subA, subD, updA, Eff.on, resA, resVs, resV, lk, finish, frzR, frzVs, frzV, fznR, fzns, fzn, lts, lt, ltO, List.all, pairsOk, indep, reduceCtorEq, Nat.reduceEqDiff, Nat.reduceAdd, Nat.reduceLeDiff, stb, thaws, List.drop, intOfA, binD, binI, unD, mmL, buildA, mkAgg, allD, bslD, behind, behind0, takeAt, frzAs, frzA, adoptR, adopt, isD, isD0, trim, List.take, binS, sliceA, bnd, zOk, elems, Nat.reduceBNe, inpl, Nat.reduceLT, Nat.reduceBEq, Nat.reduceSub, Nat.reduceMul, Int.reduceLT, Int.reduceLE, Int.reduceEq, Int.reduceToNat, Int.reduceNeg, thaw, nodup, refsV, adopts, Pk.TY_Opr, Pk.TY_Base, Pk.TY_Res, Pk.TY_Last]
    · by_cases c2 : (b.last.get k).seq = o.seq
      · simp (config := {decide := true}) only [c_objects_Seen, writes_at, hw, hk, hk3, b1, b2, c1, c2, Int.toNat_natCast, Pk.EVL, keepT, enum, ↓reduceIte, ev, act, appT, callee, toDs, toD, loadA, storeA, subA, subD, updA, Eff.on, resA, resVs, resV, lk, finish, frzR, frzVs, frzV, fznR, fzns, fzn, lts, lt, ltO, List.all, pairsOk, indep, reduceCtorEq, Nat.reduceEqDiff, Nat.reduceAdd, Nat.reduceLeDiff, stb, thaws, List.drop, intOfA, binD, binI, unD, mmL, buildA, mkAgg, allD, bslD, behind, behind0, takeAt, frzAs, frzA, adoptR, adopt, isD, isD0, trim, List.take, binS, sliceA, bnd, zOk, elems, Nat.reduceBNe, inpl, Nat.reduceLT, Nat.reduceBEq, Nat.reduceSub, Nat.reduceMul, Int.reduceLT, Int.reduceLE, Int.reduceEq, Int.reduceToNat, Int.reduceNeg, thaw, nodup, refsV, adopts, Pk.TY_Opr, Pk.TY_Base, Pk.TY_Res, Pk.TY_Last]
      · have c2' : ((b.last.get k).seq == o.seq) = false := by simp [c2]
        simp (config := {decide := true}) only [c_objects_Seen, writes_at, hw, hk, hk3, b1, b2, c1, c2, c2', Int.toNat_natCast, Pk.EVL, keepT, enum, ↓reduceIte, ev, act, appT, callee, toDs, toD, loadA, storeA, subA, subD, updA, Eff.on, resA, resVs, resV, lk, finish, frzR, frzVs, frzV, fznR, fzns, fzn, lts, lt, ltO, List.all, pairsOk, indep, reduceCtorEq, Nat.reduceEqDiff, Nat.reduceAdd, Nat.reduceLeDiff, stb, thaws, List.drop, intOfA, binD, binI, unD, mmL, buildA, mkAgg, allD, bslD, behind, behind0, takeAt, frzAs, frzA, adoptR, adopt, isD, isD0, trim, List.take, binS, sliceA, bnd, zOk, elems, Nat.reduceBNe, inpl, Nat.reduceLT, Nat.reduceBEq, Nat.reduceSub, Nat.reduceMul, Int.reduceLT, Int.reduceLE, Int.reduceEq, Int.reduceToNat, Int.reduceNeg, thaw, nodup, refsV, adopts, Pk.TY_Opr, Pk.TY_Base, Pk.TY_Res, Pk.TY_Last]
  · simp (config := {decide := true}) only [c_objects_Seen, writes_at, hw, Pk.EVL, keepT, enum, ↓reduceIte, ev, act, appT, callee, toDs, toD, loadA, storeA, subA, subD, updA, Eff.on, resA, resVs, resV, lk, finish, frzR, frzVs, frzV, fznR, fzns, fzn, lts, lt, ltO, List.all, pairsOk, indep, reduceCtorEq, Nat.reduceEqDiff, Nat.reduceAdd, Nat.reduceLeDiff, stb, thaws, List.drop, intOfA, binD, binI, unD, mmL, buildA, mkAgg, allD, bslD, behind, behind0, takeAt, frzAs, frzA, adoptR, adopt, isD, isD0, trim, List.take, binS, sliceA, bnd, zOk, elems, Nat.reduceBNe, inpl, Nat.reduceLT, Nat.reduceBEq, Nat.reduceSub, Nat.reduceMul, Int.reduceLT, Int.reduceLE, Int.reduceEq, Int.reduceToNat, Int.reduceNeg, thaw, nodup, refsV, adopts, Pk.TY_Opr, Pk.TY_Base, Pk.TY_Res, Pk.TY_Last]

theorem does_at (k : Int) : evF C F_objects_does [.d (.i .u8 k)] [] = some (.fn (if k = 1 then F_objects_doer_write else if k = 2 then F_objects_doer_trunc else if k = 3 then F_objects_doer_attr else F_objects_doer_remove) [] [], []) := by
  rw [evF_code (rfl : C F_objects_does = some a_objects_does) _ _ rfl]
  by_cases h1 : k = 1
  · simp (config := {decide := true}) only [c_objects_does, h1, Pk.EVL, keepT, enum, ↓reduceIte, ev, act, appT, callee, toDs, toD, loadA, storeA, subA, subD, updA, Eff.on, resA, resVs, resV, lk, finish, frzR, frzVs, frzV, fznR, fzns, fzn, lts, lt, ltO, List.all, pairsOk, indep, reduceCtorEq, Nat.reduceEqDiff, Nat.reduceAdd, Nat.reduceLeDiff, stb, thaws, List.drop, intOfA, binD, binI, unD, mmL, buildA, mkAgg, allD, bslD, behind, behind0, takeAt, frzAs, frzA, adoptR, adopt, isD, isD0, trim, List.take, binS, sliceA, bnd, zOk, elems, Nat.reduceBNe, inpl, Nat.reduceLT, Nat.reduceBEq, Nat.reduceSub, Nat.reduceMul, Int.reduceLT, Int.reduceLE, Int.reduceEq, Int.reduceToNat, Int.reduceNeg, thaw, nodup, refsV, adopts]
  · have h1' : (k == 1) = false := by simp [h1]
    by_cases h2 : k = 2
    · simp (config := {decide := true}) only [c_objects_does, h2, Pk.EVL, keepT, enum, ↓reduceIte, ev, act, appT, callee, toDs, toD, loadA, storeA, subA, subD, updA, Eff.on, resA, resVs, resV, lk, finish, frzR, frzVs, frzV, fznR, fzns, fzn, lts, lt, ltO, List.all, pairsOk, indep, reduceCtorEq, Nat.reduceEqDiff, Nat.reduceAdd, Nat.reduceLeDiff, stb, thaws, List.drop, intOfA, binD, binI, unD, mmL, buildA, mkAgg, allD, bslD, behind, behind0, takeAt, frzAs, frzA, adoptR, adopt, isD, isD0, trim, List.take, binS, sliceA, bnd, zOk, elems, Nat.reduceBNe, inpl, Nat.reduceLT, Nat.reduceBEq, Nat.reduceSub, Nat.reduceMul, Int.reduceLT, Int.reduceLE, Int.reduceEq, Int.reduceToNat, Int.reduceNeg, thaw, nodup, refsV, adopts]
    · have h2' : (k == 2) = false := by simp [h2]
      by_cases h3 : k = 3
      · simp (config := {decide := true}) only [c_objects_does, h3, Pk.EVL, keepT, enum, ↓reduceIte, ev, act, appT, callee, toDs, toD, loadA, storeA, subA, subD, updA, Eff.on, resA, resVs, resV, lk, finish, frzR, frzVs, frzV, fznR, fzns, fzn, lts, lt, ltO, List.all, pairsOk, indep, reduceCtorEq, Nat.reduceEqDiff, Nat.reduceAdd, Nat.reduceLeDiff, stb, thaws, List.drop, intOfA, binD, binI, unD, mmL, buildA, mkAgg, allD, bslD, behind, behind0, takeAt, frzAs, frzA, adoptR, adopt, isD, isD0, trim, List.take, binS, sliceA, bnd, zOk, elems, Nat.reduceBNe, inpl, Nat.reduceLT, Nat.reduceBEq, Nat.reduceSub, Nat.reduceMul, Int.reduceLT, Int.reduceLE, Int.reduceEq, Int.reduceToNat, Int.reduceNeg, thaw, nodup, refsV, adopts]
      · have h3' : (k == 3) = false := by simp [h3]
        simp (config := {decide := true}) only [c_objects_does, h1, h2, h3, h1', h2', h3', Pk.EVL, keepT, enum, ↓reduceIte, ev, act, appT, callee, toDs, toD, loadA, storeA, subA, subD, updA, Eff.on, resA, resVs, resV, lk, finish, frzR, frzVs, frzV, fznR, fzns, fzn, lts, lt, ltO, List.all, pairsOk, indep, reduceCtorEq, Nat.reduceEqDiff, Nat.reduceAdd, Nat.reduceLeDiff, stb, thaws, List.drop, intOfA, binD, binI, unD, mmL, buildA, mkAgg, allD, bslD, behind, behind0, takeAt, frzAs, frzA, adoptR, adopt, isD, isD0, trim, List.take, binS, sliceA, bnd, zOk, elems, Nat.reduceBNe, inpl, Nat.reduceLT, Nat.reduceBEq, Nat.reduceSub, Nat.reduceMul, Int.reduceLT, Int.reduceLE, Int.reduceEq, Int.reduceToNat, Int.reduceNeg, thaw, nodup, refsV, adopts]

theorem doO_at (x : Objt) (o : Opr) (ho : o.ok) (hx : x.data.size ≤ 300) (hd : o.data.size ≤ 16) (B0 B1 B2 B3 B4 : DV) :
    evF C (if o.kind = 1 then F_objects_doer_write else if o.kind = 2 then F_objects_doer_trunc else if o.kind = 3 then F_objects_doer_attr else F_objects_doer_remove) [.ptr 5 0, .d (.agg o.cs)]
      [.box (.d B0), .box (.d B1), .box (.d B2), .box (.d B3), .box (.d B4), .box (.d (.agg x.cs))] =
    some (.d (.i .u8 (doO x o).2), [.box (.d B0), .box (.d B1), .box (.d B2), .box (.d B3), .box (.d B4), .box (.d (.agg (doO x o).1.cs))]) := by
  unfold doO
  by_cases h1 : o.kind = 1
  · simp only [h1, if_true]; exact write_at x o _ _ _ _ _ ho hx hd
  · by_cases h2 : o.kind = 2
    · simp only [h2, if_true, if_neg (by decide : ¬ (2 : Int) = 1)]; exact trunc_at x o _ _ _ _ _ ho hx
    · by_cases h3 : o.kind = 3
      · simp only [h3, if_true, if_neg (by decide : ¬ (3 : Int) = 1), if_neg (by decide : ¬ (3 : Int) = 2)]; exact attr_at x o _ _ _ _ _ ho
      · simp only [h1, h2, h3, if_false]; exact remove_at x o _ _ _ _ _

theorem doOp_at (b : Base) (o : Opr) (hb : Base.fit b) (ho : o.ok) : evF C F_objects_Do [.d (.agg b.cs), .d (.agg o.cs)] [] = some (.tup [.d (.agg (doOp b o).1.cs), .d (.agg (doOp b o).2.cs)], []) := by
  rw [evF_code (rfl : C F_objects_Do = some a_objects_Do) _ _ rfl]
  unfold doOp
  rcases Bool.eq_false_or_eq_true (writes o) with hw | hw
  · obtain ⟨k, hk, hk', hk3⟩ := client_idx hw
    obtain ⟨j, hj, hj', hj6⟩ := obj_idx ho hw
    rw [← hk', ← hj']
    have b1 : (0 ≤ (k : Int) ∧ (k : Int) < ((3 : Nat) : Int)) = True := by simp; omega
    have b2 : (30 + k * 3 + 3 ≤ 39) = True := by simp; omega
    have b3 : (0 ≤ (j : Int) ∧ (j : Int) < ((6 : Nat) : Int)) = True := by simp; omega
    have b4 : (j * 5 + 5 ≤ 39) = True := by simp; omega
    rcases Bool.eq_false_or_eq_true (seen b o).2 with hs | hs
    · simp (config := {decide := true}) only [c_objects_Do, writes_at, seen_at, hw, hs, Pk.EVL, keepT, enum, ↓reduceIte, ev, act, appT, callee, toDs, toD, loadA, storeA, subA, subD, updA, Eff.on, resA, resVs, resV, lk, finish, frzR, frzVs, frzV, fznR, fzns, fzn, lts, lt, ltO, List.all, pairsOk, indep, reduceCtorEq, Nat.reduceEqDiff, Nat.reduceAdd, Nat.reduceLeDiff, stb, thaws, List.drop, intOfA, binD, binI, unD, mmL, buildA, mkAgg, allD, bslD, behind, behind0, takeAt, frzAs, frzA, adoptR, adopt, isD, isD0, trim, List.take, binS, sliceA, bnd, zOk, elems, Nat.reduceBNe, inpl, Nat.reduceLT, Nat.reduceBEq, Nat.reduceSub, Nat.reduceMul, Int.reduceLT, Int.reduceLE, Int.reduceEq, Int.reduceToNat, Int.reduceNeg, thaw, nodup, refsV, adopts, Pk.TY_Opr, Pk.TY_Base, Pk.TY_Res, Pk.TY_Last]
    · have hdo := doO_at (b.objs.get j) o ho (hb j hj6).1 (isOp_le (writes_isOp hw)).1 (.agg b.cs) (.agg o.cs) (.agg Base.zero.cs) (.agg (Res.cs ⟨0, ⟨#[]⟩⟩)) (.agg (seen b o).1.cs)
      simp (config := {decide := true}) only [c_objects_Do, writes_at, seen_at, does_at, hdo, hw, hs, hk, hk3, hj, hj6, b1, b2, b3, b4, Int.toNat_natCast, Pk.EVL, keepT, enum, ↓reduceIte, ev, act, appT, callee, toDs, toD, loadA, storeA, subA, subD, updA, Eff.on, resA, resVs, resV, lk, finish, frzR, frzVs, frzV, fznR, fzns, fzn, lts, lt, ltO, List.all, pairsOk, indep, reduceCtorEq, Nat.reduceEqDiff, Nat.reduceAdd, Nat.reduceLeDiff, stb, thaws, List.drop, intOfA, binD, binI, unD, mmL, buildA, mkAgg, allD, bslD, behind, behind0, takeAt, frzAs, frzA, adoptR, adopt, isD, isD0, trim, List.take, binS, sliceA, bnd, zOk, elems, Nat.reduceBNe, inpl, Nat.reduceLT, Nat.reduceBEq, Nat.reduceSub, Nat.reduceMul, Int.reduceLT, Int.reduceLE, Int.reduceEq, Int.reduceToNat, Int.reduceNeg, thaw, nodup, refsV, adopts, Pk.TY_Opr, Pk.TY_Base, Pk.TY_Res, Pk.TY_Last, Pk.TY_Objt]
  · simp (config := {decide := true}) only [c_objects_Do, writes_at, hw, Pk.EVL, keepT, enum, ↓reduceIte, ev, act, appT, callee, toDs, toD, loadA, storeA, subA, subD, updA, Eff.on, resA, resVs, resV, lk, finish, frzR, frzVs, frzV, fznR, fzns, fzn, lts, lt, ltO, List.all, pairsOk, indep, reduceCtorEq, Nat.reduceEqDiff, Nat.reduceAdd, Nat.reduceLeDiff, stb, thaws, List.drop, intOfA, binD, binI, unD, mmL, buildA, mkAgg, allD, bslD, behind, behind0, takeAt, frzAs, frzA, adoptR, adopt, isD, isD0, trim, List.take, binS, sliceA, bnd, zOk, elems, Nat.reduceBNe, inpl, Nat.reduceLT, Nat.reduceBEq, Nat.reduceSub, Nat.reduceMul, Int.reduceLT, Int.reduceLE, Int.reduceEq, Int.reduceToNat, Int.reduceNeg, thaw, nodup, refsV, adopts, Pk.TY_Opr, Pk.TY_Base, Pk.TY_Res, Pk.TY_Last]
end Go.Proofs.YtlihpaegaikoeaaDoor

namespace Go.Proofs.YtlihpaegaikoeaaDoor
open Pv Go Pk
set_option maxRecDepth 10000
set_option maxHeartbeats 1000000

def allOps (b : Base) : List Opr → Base × List Res
  | [] => (b, [])
  | o :: r => ((allOps (doOp b o).1 r).1, (doOp b o).2 :: (allOps (doOp b o).1 r).2)
theorem allOps_append (b : Base) : ∀ (l r : List Opr), allOps b (l ++ r) = ((allOps (allOps b l).1 r).1, (allOps b l).2 ++ (allOps (allOps b l).1 r).2)
  | [], r => rfl
  | o :: l, r => by simp only [List.cons_append, allOps, allOps_append _ l r]
theorem allOps_snoc (b : Base) (l : List Opr) (o : Opr) : allOps b (l ++ [o]) = ((doOp (allOps b l).1 o).1, (allOps b l).2 ++ [(doOp (allOps b l).1 o).2]) := by
  rw [allOps_append]; rfl
end Go.Proofs.YtlihpaegaikoeaaDoor

namespace Go.Proofs.YtlihpaegaikoeaaDoor
open Pv Go Pk

theorem cl_lt {o : Opr} (h : writes o = true) : (o.client - 1).toNat < 3 := by have := isOp_le (writes_isOp h); omega
end Go.Proofs.YtlihpaegaikoeaaDoor
