/- Operations on objects: what each kind of operation does to an object. -/
import Derived.Test.YtlihpaegaikoeaaDoorObjA
set_option linter.all false
namespace Go.Proofs.YtlihpaegaikoeaaDoor
open Pv Go Pk
set_option maxRecDepth 10000
set_option maxHeartbeats 1000000

theorem isOp_le {o : Opr} (h : isOp o = true) : o.data.size ≤ 16 ∧ 1 ≤ o.client ∧ o.client ≤ 3 ∧ o.obj < 6 ∧ o.seq ≠ 0 := by
  unfold isOp at h
  simp at h
  omega

def writes (o : Opr) : Bool := isOp o && (o.kind != 5)
theorem writes_at (o : Opr) : evF C F_objects_Writes [.d (.agg o.cs)] [] = some (.d (.b (writes o)), []) := by
  rw [evF_code (rfl : C F_objects_Writes = some a_objects_Writes) _ _ rfl]
  unfold writes
  rcases Bool.eq_false_or_eq_true (isOp o) with h1 | h1
  · simp (config := {decide := true}) only [c_objects_Writes, isOp_at, h1, Pk.EVL, keepT, enum, ↓reduceIte, ev, act, appT, callee, toDs, toD, loadA, storeA, subA, subD, updA, Eff.on, resA, resVs, resV, lk, finish, frzR, frzVs, frzV, fznR, fzns, fzn, lts, lt, ltO, List.all, pairsOk, indep, reduceCtorEq, Nat.reduceEqDiff, Nat.reduceAdd, Nat.reduceLeDiff, stb, thaws, List.drop, intOfA, binD, binI, unD, mmL, buildA, mkAgg, allD, bslD, behind, behind0, takeAt, frzAs, frzA, adoptR, adopt, isD, isD0, trim, List.take, binS, sliceA, bnd, zOk, elems, Nat.reduceBNe, inpl, Nat.reduceLT, Nat.reduceBEq, Nat.reduceSub, Nat.reduceMul, Int.reduceLT, Int.reduceLE, Int.reduceEq, Int.reduceToNat, Int.reduceNeg, thaw, nodup, refsV, adopts, Pk.TY_Opr]
    try simp
  · simp (config := {decide := true}) only [c_objects_Writes, isOp_at, h1, Pk.EVL, keepT, enum, ↓reduceIte, ev, act, appT, callee, toDs, toD, loadA, storeA, subA, subD, updA, Eff.on, resA, resVs, resV, lk, finish, frzR, frzVs, frzV, fznR, fzns, fzn, lts, lt, ltO, List.all, pairsOk, indep, reduceCtorEq, Nat.reduceEqDiff, Nat.reduceAdd, Nat.reduceLeDiff, stb, thaws, List.drop, intOfA, binD, binI, unD, mmL, buildA, mkAgg, allD, bslD, behind, behind0, takeAt, frzAs, frzA, adoptR, adopt, isD, isD0, trim, List.take, binS, sliceA, bnd, zOk, elems, Nat.reduceBNe, inpl, Nat.reduceLT, Nat.reduceBEq, Nat.reduceSub, Nat.reduceMul, Int.reduceLT, Int.reduceLE, Int.reduceEq, Int.reduceToNat, Int.reduceNeg, thaw, nodup, refsV, adopts, Pk.TY_Opr]
    try simp

def grown (s : ByteArray) (n : Nat) : ByteArray := s ++ nul (n - s.size)
theorem grown_at (s : ByteArray) (n : Nat) (hs : s.size ≤ 300) (hn : n ≤ 300) : evF C F_objects_grown [.d (.s s), .d (.i .i64 (n : Int))] [] = some (.d (.s (grown s n)), []) := by
  rw [evF_code (rfl : C F_objects_grown = some a_objects_grown) _ _ rfl]
  have w1 : mmI true (IntKind.i64.wrap ((n : Int) - (s.size : Int))) 0 = ((n - s.size : Nat) : Int) := by
    rw [wi64 (by omega)]; simp only [mmI]; simp; split <;> omega
  have h1 := repeat_at (rfl : C F_strings_Repeat = some _) (n - s.size) (by omega)
  have h2 : (s.size + (nul (n - s.size)).size ≤ LIM) = True := by simp [nul_size, LIM]; omega
  simp (config := {decide := true}) only [c_objects_grown, w1, h1, h2, grown, Pk.EVL, keepT, enum, ↓reduceIte, ev, act, appT, callee, toDs, toD, loadA, storeA, subA, subD, updA, Eff.on, resA, resVs, resV, lk, finish, frzR, frzVs, frzV, fznR, fzns, fzn, lts, lt, ltO, List.all, pairsOk, indep, reduceCtorEq, Nat.reduceEqDiff, Nat.reduceAdd, Nat.reduceLeDiff, stb, thaws, List.drop, intOfA, binD, binI, unD, mmL, buildA, mkAgg, allD, bslD, behind, behind0, takeAt, frzAs, frzA, adoptR, adopt, isD, isD0, trim, List.take, binS, sliceA, bnd, zOk, elems, Nat.reduceBNe, inpl, Nat.reduceLT, Nat.reduceBEq, Nat.reduceSub, Nat.reduceMul, Int.reduceLT, Int.reduceLE, Int.reduceEq, Int.reduceToNat, Int.reduceNeg, thaw, nodup, refsV, adopts]
theorem grown_size (s : ByteArray) (n : Nat) : (grown s n).size = max s.size n := by
  simp [grown, nul_size, ByteArray.size_append]; omega

def Objt.fit (x : Objt) : Prop := x.data.size ≤ 300 ∧ ∀ i < 3, (x.attr.get i).size ≤ 300

def splice (s : ByteArray) (a : Nat) (d : ByteArray) : ByteArray := (grown s (a + d.size)).extract 0 a ++ d ++ (grown s (a + d.size)).extract (a + d.size) (grown s (a + d.size)).size
def writeO (x : Objt) (o : Opr) : Objt × Int :=
  if o.at_ + o.data.size > 16 then (x, 2) else ({ x with there := true, data := splice x.data o.at_.toNat o.data }, 0)
def truncO (x : Objt) (o : Opr) : Objt × Int :=
  if x.there = false then (x, 1) else if o.at_ > 16 then (x, 2) else ({ x with data := (grown x.data o.at_.toNat).extract 0 o.at_.toNat }, 0)
def attrO (x : Objt) (o : Opr) : Objt × Int :=
  if o.at_ ≥ 3 then (x, 3) else if x.there = false then (x, 1) else ({ x with attr := x.attr.set o.at_.toNat o.data }, 0)
def removeO (x : Objt) : Objt × Int := if x.there = false then (x, 1) else (Objt.zero, 0)

section
variable (x : Objt) (o : Opr) (B0 B1 B2 B3 B4 : DV)

theorem remove_at : evF C F_objects_doer_remove [.ptr 5 0, .d (.agg o.cs)] [.box (.d B0), .box (.d B1), .box (.d B2), .box (.d B3), .box (.d B4), .box (.d (.agg x.cs))] =
    some (.d (.i .u8 (removeO x).2), [.box (.d B0), .box (.d B1), .box (.d B2), .box (.d B3), .box (.d B4), .box (.d (.agg (removeO x).1.cs))]) := by
  rw [evF_code (rfl : C F_objects_doer_remove = some a_objects_doer_remove) _ _ rfl]
  unfold removeO
  rcases Bool.eq_false_or_eq_true (x.there) with h1 | h1
  · simp (config := {decide := true}) only [c_objects_doer_remove, h1, Pk.EVL, keepT, enum, ↓reduceIte, ev, act, appT, callee, toDs, toD, loadA, storeA, subA, subD, updA, Eff.on, resA, resVs, resV, lk, finish, frzR, frzVs, frzV, fznR, fzns, fzn, lts, lt, ltO, List.all, pairsOk, indep, reduceCtorEq, Nat.reduceEqDiff, Nat.reduceAdd, Nat.reduceLeDiff, stb, thaws, List.drop, intOfA, binD, binI, unD, mmL, buildA, mkAgg, allD, bslD, behind, behind0, takeAt, frzAs, frzA, adoptR, adopt, isD, isD0, trim, List.take, binS, sliceA, bnd, zOk, elems, Nat.reduceBNe, inpl, Nat.reduceLT, Nat.reduceBEq, Nat.reduceSub, Nat.reduceMul, Int.reduceLT, Int.reduceLE, Int.reduceEq, Int.reduceToNat, Int.reduceNeg, thaw, nodup, refsV, adopts, Pk.TY_Opr, Pk.TY_Objt]
    try rfl
  · simp (config := {decide := true}) only [c_objects_doer_remove, h1, Pk.EVL, keepT, enum, ↓reduceIte, ev, act, appT, callee, toDs, toD, loadA, storeA, subA, subD, updA, Eff.on, resA, resVs, resV, lk, finish, frzR, frzVs, frzV, fznR, fzns, fzn, lts, lt, ltO, List.all, pairsOk, indep, reduceCtorEq, Nat.reduceEqDiff, Nat.reduceAdd, Nat.reduceLeDiff, stb, thaws, List.drop, intOfA, binD, binI, unD, mmL, buildA, mkAgg, allD, bslD, behind, behind0, takeAt, frzAs, frzA, adoptR, adopt, isD, isD0, trim, List.take, binS, sliceA, bnd, zOk, elems, Nat.reduceBNe, inpl, Nat.reduceLT, Nat.reduceBEq, Nat.reduceSub, Nat.reduceMul, Int.reduceLT, Int.reduceLE, Int.reduceEq, Int.reduceToNat, Int.reduceNeg, thaw, nodup, refsV, adopts, Pk.TY_Opr, Pk.TY_Objt]
    try rfl

theorem attr_at (ho : o.ok) : evF C F_objects_doer_attr [.ptr 5 0, .d (.agg o.cs)] [.box (.d B0), .box (.d B1), .box (.d B2), .box (.d B3), .box (.d B4), .box (.d (.agg x.cs))] =
    some (.d (.i .u8 (attrO x o).2), [.box (.d B0), .box (.d B1), .box (.d B2), .box (.d B3), .box (.d B4), .box (.d (.agg (attrO x o).1.cs))]) := by
  rw [evF_code (rfl : C F_objects_doer_attr = some a_objects_doer_attr) _ _ rfl]
  unfold attrO
  have h0 : 0 ≤ o.at_ := by have := ho; simp only [Opr.ok] at this; omega
  by_cases c : o.at_ ≥ 3
  · have hd : decide (o.at_ ≥ 3) = true := by simp [c]
    simp (config := {decide := true}) only [c_objects_doer_attr, hd, Pk.EVL, keepT, enum, ↓reduceIte, ev, act, appT, callee, toDs, toD, loadA, storeA, subA, subD, updA, Eff.on, resA, resVs, resV, lk, finish, frzR, frzVs, frzV, fznR, fzns, fzn, lts, lt, ltO, List.all, pairsOk, indep, reduceCtorEq, Nat.reduceEqDiff, Nat.reduceAdd, Nat.reduceLeDiff, stb, thaws, List.drop, intOfA, binD, binI, unD, mmL, buildA, mkAgg, allD, bslD, behind, behind0, takeAt, frzAs, frzA, adoptR, adopt, isD, isD0, trim, List.take, binS, sliceA, bnd, zOk, elems, Nat.reduceBNe, inpl, Nat.reduceLT, Nat.reduceBEq, Nat.reduceSub, Nat.reduceMul, Int.reduceLT, Int.reduceLE, Int.reduceEq, Int.reduceToNat, Int.reduceNeg, thaw, nodup, refsV, adopts, Pk.TY_Opr, Pk.TY_Objt]
    simp [c]
  · have hd : decide (o.at_ ≥ 3) = false := by simp; omega
    have hi : o.at_.toNat < 3 := by omega
    have hb : (0 ≤ o.at_ ∧ o.at_ < ((3 : Nat) : Int)) = True := by simp; omega
    have hs : (2 + o.at_.toNat + 1 ≤ 5) = True := by simp; omega
    rw [if_neg c]
    rcases Bool.eq_false_or_eq_true (x.there) with h1 | h1
    · simp (config := {decide := true}) only [c_objects_doer_attr, h1, hd, hi, hb, hs, Nat.mul_one, Pk.EVL, keepT, enum, ↓reduceIte, ev, act, appT, callee, toDs, toD, loadA, storeA, subA, subD, updA, Eff.on, resA, resVs, resV, lk, finish, frzR, frzVs, frzV, fznR, fzns, fzn, lts, lt, ltO, List.all, pairsOk, indep, reduceCtorEq, Nat.reduceEqDiff, Nat.reduceAdd, Nat.reduceLeDiff, stb, thaws, List.drop, intOfA, binD, binI, unD, mmL, buildA, mkAgg, allD, bslD, behind, behind0, takeAt, frzAs, frzA, adoptR, adopt, isD, isD0, trim, List.take, binS, sliceA, bnd, zOk, elems, Nat.reduceBNe, inpl, Nat.reduceLT, Nat.reduceBEq, Nat.reduceSub, Nat.reduceMul, Int.reduceLT, Int.reduceLE, Int.reduceEq, Int.reduceToNat, Int.reduceNeg, thaw, nodup, refsV, adopts, Pk.TY_Opr, Pk.TY_Objt]
      try rfl
    · simp (config := {decide := true}) only [c_objects_doer_attr, h1, hd, hi, hb, hs, Nat.mul_one, Pk.EVL, keepT, enum, ↓reduceIte, ev, act, appT, callee, toDs, toD, loadA, storeA, subA, subD, updA, Eff.on, resA, resVs, resV, lk, finish, frzR, frzVs, frzV, fznR, fzns, fzn, lts, lt, ltO, List.all, pairsOk, indep, reduceCtorEq, Nat.reduceEqDiff, Nat.reduceAdd, Nat.reduceLeDiff, stb, thaws, List.drop, intOfA, binD, binI, unD, mmL, buildA, mkAgg, allD, bslD, behind, behind0, takeAt, frzAs, frzA, adoptR, adopt, isD, isD0, trim, List.take, binS, sliceA, bnd, zOk, elems, Nat.reduceBNe, inpl, Nat.reduceLT, Nat.reduceBEq, Nat.reduceSub, Nat.reduceMul, Int.reduceLT, Int.reduceLE, Int.reduceEq, Int.reduceToNat, Int.reduceNeg, thaw, nodup, refsV, adopts, Pk.TY_Opr, Pk.TY_Objt]
      try rfl

theorem write_at (ho : o.ok) (hx : x.data.size ≤ 300) (hd : o.data.size ≤ 16) : evF C F_objects_doer_write [.ptr 5 0, .d (.agg o.cs)] [.box (.d B0), .box (.d B1), .box (.d B2), .box (.d B3), .box (.d B4), .box (.d (.agg x.cs))] =
    some (.d (.i .u8 (writeO x o).2), [.box (.d B0), .box (.d B1), .box (.d B2), .box (.d B3), .box (.d B4), .box (.d (.agg (writeO x o).1.cs))]) := by
  rw [evF_code (rfl : C F_objects_doer_write = some a_objects_doer_write) _ _ rfl]
  unfold writeO
  obtain ⟨a, ha, hal⟩ : ∃ a : Nat, o.at_ = (a : Int) ∧ a < 256 := ⟨o.at_.toNat, by have := ho; simp only [Opr.ok] at this; omega, by have := ho; simp only [Opr.ok] at this; omega⟩
  simp only [ha, Int.toNat_natCast]
  have w0 : IntKind.i64.wrap (a : Int) = (a : Int) := wi64 (by omega)
  have w1 : IntKind.i64.wrap ((a : Int) + (o.data.size : Int)) = ((a + o.data.size : Nat) : Int) := by rw [wi64 (by omega)]; omega
  by_cases c : (a : Int) + (o.data.size : Int) > 16
  · have hd : decide (((a + o.data.size : Nat) : Int) > 16) = true := by simp; omega
    rw [if_pos c]
    simp (config := {decide := true}) only [c_objects_doer_write, ha, w0, w1, hd, Pk.EVL, keepT, enum, ↓reduceIte, ev, act, appT, callee, toDs, toD, loadA, storeA, subA, subD, updA, Eff.on, resA, resVs, resV, lk, finish, frzR, frzVs, frzV, fznR, fzns, fzn, lts, lt, ltO, List.all, pairsOk, indep, reduceCtorEq, Nat.reduceEqDiff, Nat.reduceAdd, Nat.reduceLeDiff, stb, thaws, List.drop, intOfA, binD, binI, unD, mmL, buildA, mkAgg, allD, bslD, behind, behind0, takeAt, frzAs, frzA, adoptR, adopt, isD, isD0, trim, List.take, binS, sliceA, bnd, zOk, elems, Nat.reduceBNe, inpl, Nat.reduceLT, Nat.reduceBEq, Nat.reduceSub, Nat.reduceMul, Int.reduceLT, Int.reduceLE, Int.reduceEq, Int.reduceToNat, Int.reduceNeg, thaw, nodup, refsV, adopts, Pk.TY_Opr, Pk.TY_Objt]
  · have hd : decide (((a + o.data.size : Nat) : Int) > 16) = false := by simp; omega
    rw [if_neg c]
    have g1 := grown_at x.data (a + o.data.size) (by omega) (by omega)
    unfold splice
    have hg := grown_size x.data (a + o.data.size)
    generalize grown x.data (a + o.data.size) = g at g1 hg ⊢
    have b1 : (0 ≤ (a : Int) ∧ (a : Int) ≤ (g.size : Int)) = True := by simp; omega
    have b2 : (0 ≤ ((a + o.data.size : Nat) : Int) ∧ ((a + o.data.size : Nat) : Int) ≤ (g.size : Int)) = True := by simp; omega
    have l1 : ((g.extract 0 a).size + o.data.size ≤ LIM) = True := by simp [LIM]; omega
    have l2 : ((g.extract 0 a ++ o.data).size + (g.extract (a + o.data.size) g.size).size ≤ LIM) = True := by simp [LIM]; omega
    simp (config := {decide := true}) only [c_objects_doer_write, ha, w0, w1, hd, g1, b1, b2, l1, l2, Int.toNat_natCast, Pk.EVL, keepT, enum, ↓reduceIte, ev, act, appT, callee, toDs, toD, loadA, storeA, subA, subD, updA, Eff.on, resA, resVs, resV, lk, finish, frzR, frzVs, frzV, fznR, fzns, fzn, lts, lt, ltO, List.all, pairsOk, indep, reduceCtorEq, Nat.reduceEqDiff, Nat.reduceAdd, Nat.reduceLeDiff, stb, thaws, List.drop, intOfA, binD, binI, unD, mmL, buildA, mkAgg, allD, bslD, behind, behind0, takeAt, frzAs, frzA, adoptR, adopt, isD, isD0, trim, List.take, binS, sliceA, bnd, zOk, elems, Nat.reduceBNe, inpl, Nat.reduceLT, Nat.reduceBEq, Nat.reduceSub, Nat.reduceMul, Int.reduceLT, Int.reduceLE, Int.reduceEq, Int.reduceToNat, Int.reduceNeg, thaw, nodup, refsV, adopts, Pk.TY_Opr, Pk.TY_Objt]

theorem trunc_at (ho : o.ok) (hx : x.data.size ≤ 300) : evF C F_objects_doer_trunc [.ptr 5 0, .d (.agg o.cs)] [.box (.d B0), .box (.d B1), .box (.d B2), .box (.d B3), .box (.d B4), .box (.d (.agg x.cs))] =
    some (.d (.i .u8 (truncO x o).2), [.box (.d B0), .box (.d B1), .box (.d B2), .box (.d B3), .box (.d B4), .box (.d (.agg (truncO x o).1.cs))]) := by
  rw [evF_code (rfl : C F_objects_doer_trunc = some a_objects_doer_trunc) _ _ rfl]
  unfold truncO
  obtain ⟨a, ha, hal⟩ : ∃ a : Nat, o.at_ = (a : Int) ∧ a < 256 := ⟨o.at_.toNat, by have := ho; simp only [Opr.ok] at this; omega, by have := ho; simp only [Opr.ok] at this; omega⟩
  simp only [ha, Int.toNat_natCast]
  have w0 : IntKind.i64.wrap (a : Int) = (a : Int) := wi64 (by omega)
  rcases Bool.eq_false_or_eq_true (x.there == false) with h1 | h1
  · have h1' := h1
    simp only [beq_iff_eq, beq_eq_false_iff_ne, ne_eq, Bool.not_eq_false] at h1'
    by_cases c : (a : Int) > 16
    · have hd : decide ((a : Int) > 16) = true := by simp; omega
      simp (config := {decide := true}) only [c_objects_doer_trunc, ha, h1', c, w0, hd, Pk.EVL, keepT, enum, ↓reduceIte, ev, act, appT, callee, toDs, toD, loadA, storeA, subA, subD, updA, Eff.on, resA, resVs, resV, lk, finish, frzR, frzVs, frzV, fznR, fzns, fzn, lts, lt, ltO, List.all, pairsOk, indep, reduceCtorEq, Nat.reduceEqDiff, Nat.reduceAdd, Nat.reduceLeDiff, stb, thaws, List.drop, intOfA, binD, binI, unD, mmL, buildA, mkAgg, allD, bslD, behind, behind0, takeAt, frzAs, frzA, adoptR, adopt, isD, isD0, trim, List.take, binS, sliceA, bnd, zOk, elems, Nat.reduceBNe, inpl, Nat.reduceLT, Nat.reduceBEq, Nat.reduceSub, Nat.reduceMul, Int.reduceLT, Int.reduceLE, Int.reduceEq, Int.reduceToNat, Int.reduceNeg, thaw, nodup, refsV, adopts, Pk.TY_Opr, Pk.TY_Objt]
    · have hd : decide ((a : Int) > 16) = false := by simp; omega
      have g1 := grown_at x.data a (by omega) (by omega)
      have hg := grown_size x.data a
      generalize grown x.data a = g at g1 hg ⊢
      have b1 : (0 ≤ (a : Int) ∧ (a : Int) ≤ (g.size : Int)) = True := by simp; omega
      simp (config := {decide := true}) only [c_objects_doer_trunc, ha, h1', c, w0, hd, g1, b1, Int.toNat_natCast, Pk.EVL, keepT, enum, ↓reduceIte, ev, act, appT, callee, toDs, toD, loadA, storeA, subA, subD, updA, Eff.on, resA, resVs, resV, lk, finish, frzR, frzVs, frzV, fznR, fzns, fzn, lts, lt, ltO, List.all, pairsOk, indep, reduceCtorEq, Nat.reduceEqDiff, Nat.reduceAdd, Nat.reduceLeDiff, stb, thaws, List.drop, intOfA, binD, binI, unD, mmL, buildA, mkAgg, allD, bslD, behind, behind0, takeAt, frzAs, frzA, adoptR, adopt, isD, isD0, trim, List.take, binS, sliceA, bnd, zOk, elems, Nat.reduceBNe, inpl, Nat.reduceLT, Nat.reduceBEq, Nat.reduceSub, Nat.reduceMul, Int.reduceLT, Int.reduceLE, Int.reduceEq, Int.reduceToNat, Int.reduceNeg, thaw, nodup, refsV, adopts, Pk.TY_Opr, Pk.TY_Objt]
  · have h1' := h1
    simp only [beq_iff_eq, beq_eq_false_iff_ne, ne_eq, Bool.not_eq_false] at h1'
    by_cases c : (a : Int) > 16
    · have hd : decide ((a : Int) > 16) = true := by simp; omega
      simp (config := {decide := true}) only [c_objects_doer_trunc, ha, h1', c, w0, hd, Pk.EVL, keepT, enum, ↓reduceIte, ev, act, appT, callee, toDs, toD, loadA, storeA, subA, subD, updA, Eff.on, resA, resVs, resV, lk, finish, frzR, frzVs, frzV, fznR, fzns, fzn, lts, lt, ltO, List.all, pairsOk, indep, reduceCtorEq, Nat.reduceEqDiff, Nat.reduceAdd, Nat.reduceLeDiff, stb, thaws, List.drop, intOfA, binD, binI, unD, mmL, buildA, mkAgg, allD, bslD, behind, behind0, takeAt, frzAs, frzA, adoptR, adopt, isD, isD0, trim, List.take, binS, sliceA, bnd, zOk, elems, Nat.reduceBNe, inpl, Nat.reduceLT, Nat.reduceBEq, Nat.reduceSub, Nat.reduceMul, Int.reduceLT, Int.reduceLE, Int.reduceEq, Int.reduceToNat, Int.reduceNeg, thaw, nodup, refsV, adopts, Pk.TY_Opr, Pk.TY_Objt]
    · have hd : decide ((a : Int) > 16) = false := by simp; omega
      have g1 := grown_at x.data a (by omega) (by omega)
      have hg := grown_size x.data a
      generalize grown x.data a = g at g1 hg ⊢
      have b1 : (0 ≤ (a : Int) ∧ (a : Int) ≤ (g.size : Int)) = True := by simp; omega
      simp (config := {decide := true}) only [c_objects_doer_trunc, ha, h1', c, w0, hd, g1, b1, Int.toNat_natCast, Pk.EVL, keepT, enum, ↓reduceIte, ev, act, appT, callee, toDs, toD, loadA, storeA, subA, subD, updA, Eff.on, resA, resVs, resV, lk, finish, frzR, frzVs, frzV, fznR, fzns, fzn, lts, lt, ltO, List.all, pairsOk, indep, reduceCtorEq, Nat.reduceEqDiff, Nat.reduceAdd, Nat.reduceLeDiff, stb, thaws, List.drop, intOfA, binD, binI, unD, mmL, buildA, mkAgg, allD, bslD, behind, behind0, takeAt, frzAs, frzA, adoptR, adopt, isD, isD0, trim, List.take, binS, sliceA, bnd, zOk, elems, Nat.reduceBNe, inpl, Nat.reduceLT, Nat.reduceBEq, Nat.reduceSub, Nat.reduceMul, Int.reduceLT, Int.reduceLE, Int.reduceEq, Int.reduceToNat, Int.reduceNeg, thaw, nodup, refsV, adopts, Pk.TY_Opr, Pk.TY_Objt]
end
end Go.Proofs.YtlihpaegaikoeaaDoor
