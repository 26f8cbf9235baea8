/- Operations on objects: what IsOp, Writes, Seen compute. / Operations on objects: what each kind of operation does to an object. / Operations on objects: Seen, Do, All. / Operations on objects: All. / What operations on objects come to: plain laws, no program in sight. -/
import Derived.Test.YtmiionadkdfbdaaCode
set_option linter.all false
namespace Go.Proofs.Ytmiionadkdfbdaa
open Pv Go Pk
set_option maxRecDepth 10000
set_option maxHeartbeats 1000000

def isOp (o : Opr) : Bool :=
  !(decide (o.client < 1) || decide (o.client > 3) || o.seq == 0 || decide (o.obj ≥ 6) || decide ((o.data.size : Int) > 16)) &&
    (o.kind == 1 || o.kind == 3 || (if (o.kind == 2) = true then decide (o.data = ⟨#[]⟩) else (o.kind == 4 || o.kind == 5) && decide (o = ⟨o.client, o.seq, o.kind, o.obj, 0, ⟨#[]⟩⟩)))

theorem isOp_at (o : Opr) : evF C F_objects_IsOp [.d (.agg o.cs)] [] = some (.d (.b (isOp o)), []) := by
  rw [evF_code (rfl : C F_objects_IsOp = some a_objects_IsOp) _ _ rfl]
  unfold isOp
  rcases Bool.eq_false_or_eq_true (decide (o.client < 1)) with h1 | h1
  · simp (config := {decide := true}) only [c_objects_IsOp, h1, Pk.EVL, keepT, enum, ↓reduceIte, ev, act, appT, appW, callee, toDs, toD, loadA, storeA, subA, subD, updA, Eff.on, resA, resVs, resV, lk, finish, frzR, frzVs, frzV, fznR, fzns, fzn, lts, lt, ltO, List.all, pairsOk, indep, reduceCtorEq, Nat.reduceEqDiff, Nat.reduceAdd, Nat.reduceLeDiff, stb, thaws, List.drop, intOfA, binD, binI, unD, mmL, buildA, mkAgg, allD, bslD, behind, behind0, takeAt, frzAs, frzA, adoptR, adopt, isD, isD0, trim, List.take, binS, sliceA, bnd, zOk, elems, Nat.reduceBNe, inpl, Nat.reduceLT, Nat.reduceBEq, Nat.reduceSub, Nat.reduceMul, Int.reduceLT, Int.reduceLE, Int.reduceEq, Int.reduceToNat, Int.reduceNeg, thaw, nodup, refsV, adopts, sameH_self, Pk.TY_Opr]
    try simp
  · rcases Bool.eq_false_or_eq_true (decide (o.client > 3)) with h2 | h2
    · simp (config := {decide := true}) only [c_objects_IsOp, h1, h2, Pk.EVL, keepT, enum, ↓reduceIte, ev, act, appT, appW, callee, toDs, toD, loadA, storeA, subA, subD, updA, Eff.on, resA, resVs, resV, lk, finish, frzR, frzVs, frzV, fznR, fzns, fzn, lts, lt, ltO, List.all, pairsOk, indep, reduceCtorEq, Nat.reduceEqDiff, Nat.reduceAdd, Nat.reduceLeDiff, stb, thaws, List.drop, intOfA, binD, binI, unD, mmL, buildA, mkAgg, allD, bslD, behind, behind0, takeAt, frzAs, frzA, adoptR, adopt, isD, isD0, trim, List.take, binS, sliceA, bnd, zOk, elems, Nat.reduceBNe, inpl, Nat.reduceLT, Nat.reduceBEq, Nat.reduceSub, Nat.reduceMul, Int.reduceLT, Int.reduceLE, Int.reduceEq, Int.reduceToNat, Int.reduceNeg, thaw, nodup, refsV, adopts, sameH_self, Pk.TY_Opr]
      try simp
    · rcases Bool.eq_false_or_eq_true (o.seq == 0) with h3 | h3
      · simp (config := {decide := true}) only [c_objects_IsOp, h1, h2, h3, Pk.EVL, keepT, enum, ↓reduceIte, ev, act, appT, appW, callee, toDs, toD, loadA, storeA, subA, subD, updA, Eff.on, resA, resVs, resV, lk, finish, frzR, frzVs, frzV, fznR, fzns, fzn, lts, lt, ltO, List.all, pairsOk, indep, reduceCtorEq, Nat.reduceEqDiff, Nat.reduceAdd, Nat.reduceLeDiff, stb, thaws, List.drop, intOfA, binD, binI, unD, mmL, buildA, mkAgg, allD, bslD, behind, behind0, takeAt, frzAs, frzA, adoptR, adopt, isD, isD0, trim, List.take, binS, sliceA, bnd, zOk, elems, Nat.reduceBNe, inpl, Nat.reduceLT, Nat.reduceBEq, Nat.reduceSub, Nat.reduceMul, Int.reduceLT, Int.reduceLE, Int.reduceEq, Int.reduceToNat, Int.reduceNeg, thaw, nodup, refsV, adopts, sameH_self, Pk.TY_Opr]
        try simp
      · rcases Bool.eq_false_or_eq_true (decide (o.obj ≥ 6)) with h4 | h4
        · simp (config := {decide := true}) only [c_objects_IsOp, h1, h2, h3, h4, Pk.EVL, keepT, enum, ↓reduceIte, ev, act, appT, appW, callee, toDs, toD, loadA, storeA, subA, subD, updA, Eff.on, resA, resVs, resV, lk, finish, frzR, frzVs, frzV, fznR, fzns, fzn, lts, lt, ltO, List.all, pairsOk, indep, reduceCtorEq, Nat.reduceEqDiff, Nat.reduceAdd, Nat.reduceLeDiff, stb, thaws, List.drop, intOfA, binD, binI, unD, mmL, buildA, mkAgg, allD, bslD, behind, behind0, takeAt, frzAs, frzA, adoptR, adopt, isD, isD0, trim, List.take, binS, sliceA, bnd, zOk, elems, Nat.reduceBNe, inpl, Nat.reduceLT, Nat.reduceBEq, Nat.reduceSub, Nat.reduceMul, Int.reduceLT, Int.reduceLE, Int.reduceEq, Int.reduceToNat, Int.reduceNeg, thaw, nodup, refsV, adopts, sameH_self, Pk.TY_Opr]
          try simp
        · rcases Bool.eq_false_or_eq_true (decide ((o.data.size : Int) > 16)) with h5 | h5
          · simp (config := {decide := true}) only [c_objects_IsOp, h1, h2, h3, h4, h5, Pk.EVL, keepT, enum, ↓reduceIte, ev, act, appT, appW, callee, toDs, toD, loadA, storeA, subA, subD, updA, Eff.on, resA, resVs, resV, lk, finish, frzR, frzVs, frzV, fznR, fzns, fzn, lts, lt, ltO, List.all, pairsOk, indep, reduceCtorEq, Nat.reduceEqDiff, Nat.reduceAdd, Nat.reduceLeDiff, stb, thaws, List.drop, intOfA, binD, binI, unD, mmL, buildA, mkAgg, allD, bslD, behind, behind0, takeAt, frzAs, frzA, adoptR, adopt, isD, isD0, trim, List.take, binS, sliceA, bnd, zOk, elems, Nat.reduceBNe, inpl, Nat.reduceLT, Nat.reduceBEq, Nat.reduceSub, Nat.reduceMul, Int.reduceLT, Int.reduceLE, Int.reduceEq, Int.reduceToNat, Int.reduceNeg, thaw, nodup, refsV, adopts, sameH_self, Pk.TY_Opr]
            try simp
          · rcases Bool.eq_false_or_eq_true (o.kind == 1) with h6 | h6
            · simp (config := {decide := true}) only [c_objects_IsOp, h1, h2, h3, h4, h5, h6, Pk.EVL, keepT, enum, ↓reduceIte, ev, act, appT, appW, callee, toDs, toD, loadA, storeA, subA, subD, updA, Eff.on, resA, resVs, resV, lk, finish, frzR, frzVs, frzV, fznR, fzns, fzn, lts, lt, ltO, List.all, pairsOk, indep, reduceCtorEq, Nat.reduceEqDiff, Nat.reduceAdd, Nat.reduceLeDiff, stb, thaws, List.drop, intOfA, binD, binI, unD, mmL, buildA, mkAgg, allD, bslD, behind, behind0, takeAt, frzAs, frzA, adoptR, adopt, isD, isD0, trim, List.take, binS, sliceA, bnd, zOk, elems, Nat.reduceBNe, inpl, Nat.reduceLT, Nat.reduceBEq, Nat.reduceSub, Nat.reduceMul, Int.reduceLT, Int.reduceLE, Int.reduceEq, Int.reduceToNat, Int.reduceNeg, thaw, nodup, refsV, adopts, sameH_self, Pk.TY_Opr]
              try simp
            · rcases Bool.eq_false_or_eq_true (o.kind == 3) with h7 | h7
              · simp (config := {decide := true}) only [c_objects_IsOp, h1, h2, h3, h4, h5, h6, h7, Pk.EVL, keepT, enum, ↓reduceIte, ev, act, appT, appW, callee, toDs, toD, loadA, storeA, subA, subD, updA, Eff.on, resA, resVs, resV, lk, finish, frzR, frzVs, frzV, fznR, fzns, fzn, lts, lt, ltO, List.all, pairsOk, indep, reduceCtorEq, Nat.reduceEqDiff, Nat.reduceAdd, Nat.reduceLeDiff, stb, thaws, List.drop, intOfA, binD, binI, unD, mmL, buildA, mkAgg, allD, bslD, behind, behind0, takeAt, frzAs, frzA, adoptR, adopt, isD, isD0, trim, List.take, binS, sliceA, bnd, zOk, elems, Nat.reduceBNe, inpl, Nat.reduceLT, Nat.reduceBEq, Nat.reduceSub, Nat.reduceMul, Int.reduceLT, Int.reduceLE, Int.reduceEq, Int.reduceToNat, Int.reduceNeg, thaw, nodup, refsV, adopts, sameH_self, Pk.TY_Opr]
                try simp
              · rcases Bool.eq_false_or_eq_true (o.kind == 2) with h8 | h8
                · simp (config := {decide := true}) only [c_objects_IsOp, h1, h2, h3, h4, h5, h6, h7, h8, Pk.EVL, keepT, enum, ↓reduceIte, ev, act, appT, appW, callee, toDs, toD, loadA, storeA, subA, subD, updA, Eff.on, resA, resVs, resV, lk, finish, frzR, frzVs, frzV, fznR, fzns, fzn, lts, lt, ltO, List.all, pairsOk, indep, reduceCtorEq, Nat.reduceEqDiff, Nat.reduceAdd, Nat.reduceLeDiff, stb, thaws, List.drop, intOfA, binD, binI, unD, mmL, buildA, mkAgg, allD, bslD, behind, behind0, takeAt, frzAs, frzA, adoptR, adopt, isD, isD0, trim, List.take, binS, sliceA, bnd, zOk, elems, Nat.reduceBNe, inpl, Nat.reduceLT, Nat.reduceBEq, Nat.reduceSub, Nat.reduceMul, Int.reduceLT, Int.reduceLE, Int.reduceEq, Int.reduceToNat, Int.reduceNeg, thaw, nodup, refsV, adopts, sameH_self, Pk.TY_Opr]
                  try simp
                · rcases Bool.eq_false_or_eq_true (o.kind == 4) with h9 | h9
                  · simp (config := {decide := true}) only [c_objects_IsOp, h1, h2, h3, h4, h5, h6, h7, h8, h9, Pk.EVL, keepT, enum, ↓reduceIte, ev, act, appT, appW, callee, toDs, toD, loadA, storeA, subA, subD, updA, Eff.on, resA, resVs, resV, lk, finish, frzR, frzVs, frzV, fznR, fzns, fzn, lts, lt, ltO, List.all, pairsOk, indep, reduceCtorEq, Nat.reduceEqDiff, Nat.reduceAdd, Nat.reduceLeDiff, stb, thaws, List.drop, intOfA, binD, binI, unD, mmL, buildA, mkAgg, allD, bslD, behind, behind0, takeAt, frzAs, frzA, adoptR, adopt, isD, isD0, trim, List.take, binS, sliceA, bnd, zOk, elems, Nat.reduceBNe, inpl, Nat.reduceLT, Nat.reduceBEq, Nat.reduceSub, Nat.reduceMul, Int.reduceLT, Int.reduceLE, Int.reduceEq, Int.reduceToNat, Int.reduceNeg, thaw, nodup, refsV, adopts, sameH_self, Pk.TY_Opr]
                    try simp
                  · rcases Bool.eq_false_or_eq_true (o.kind == 5) with h10 | h10
                    · simp (config := {decide := true}) only [c_objects_IsOp, h1, h2, h3, h4, h5, h6, h7, h8, h9, h10, Pk.EVL, keepT, enum, ↓reduceIte, ev, act, appT, appW, callee, toDs, toD, loadA, storeA, subA, subD, updA, Eff.on, resA, resVs, resV, lk, finish, frzR, frzVs, frzV, fznR, fzns, fzn, lts, lt, ltO, List.all, pairsOk, indep, reduceCtorEq, Nat.reduceEqDiff, Nat.reduceAdd, Nat.reduceLeDiff, stb, thaws, List.drop, intOfA, binD, binI, unD, mmL, buildA, mkAgg, allD, bslD, behind, behind0, takeAt, frzAs, frzA, adoptR, adopt, isD, isD0, trim, List.take, binS, sliceA, bnd, zOk, elems, Nat.reduceBNe, inpl, Nat.reduceLT, Nat.reduceBEq, Nat.reduceSub, Nat.reduceMul, Int.reduceLT, Int.reduceLE, Int.reduceEq, Int.reduceToNat, Int.reduceNeg, thaw, nodup, refsV, adopts, sameH_self, Pk.TY_Opr]
                      try simp
                    · simp (config := {decide := true}) only [c_objects_IsOp, h1, h2, h3, h4, h5, h6, h7, h8, h9, h10, Pk.EVL, keepT, enum, ↓reduceIte, ev, act, appT, appW, callee, toDs, toD, loadA, storeA, subA, subD, updA, Eff.on, resA, resVs, resV, lk, finish, frzR, frzVs, frzV, fznR, fzns, fzn, lts, lt, ltO, List.all, pairsOk, indep, reduceCtorEq, Nat.reduceEqDiff, Nat.reduceAdd, Nat.reduceLeDiff, stb, thaws, List.drop, intOfA, binD, binI, unD, mmL, buildA, mkAgg, allD, bslD, behind, behind0, takeAt, frzAs, frzA, adoptR, adopt, isD, isD0, trim, List.take, binS, sliceA, bnd, zOk, elems, Nat.reduceBNe, inpl, Nat.reduceLT, Nat.reduceBEq, Nat.reduceSub, Nat.reduceMul, Int.reduceLT, Int.reduceLE, Int.reduceEq, Int.reduceToNat, Int.reduceNeg, thaw, nodup, refsV, adopts, sameH_self, Pk.TY_Opr]
                      try simp
end Go.Proofs.Ytmiionadkdfbdaa

namespace Go.Proofs.Ytmiionadkdfbdaa
open Pv Go Pk
set_option maxRecDepth 10000
set_option maxHeartbeats 1000000

def writes (o : Opr) : Bool := isOp o && (o.kind != 5)
theorem writes_at (o : Opr) : evF C F_objects_Writes [.d (.agg o.cs)] [] = some (.d (.b (writes o)), []) := by
  rw [evF_code (rfl : C F_objects_Writes = some a_objects_Writes) _ _ rfl]
  unfold writes
  rcases Bool.eq_false_or_eq_true (isOp o) with h1 | h1
  · simp (config := {decide := true}) only [c_objects_Writes, isOp_at, h1, Pk.EVL, keepT, enum, ↓reduceIte, ev, act, appT, appW, callee, toDs, toD, loadA, storeA, subA, subD, updA, Eff.on, resA, resVs, resV, lk, finish, frzR, frzVs, frzV, fznR, fzns, fzn, lts, lt, ltO, List.all, pairsOk, indep, reduceCtorEq, Nat.reduceEqDiff, Nat.reduceAdd, Nat.reduceLeDiff, stb, thaws, List.drop, intOfA, binD, binI, unD, mmL, buildA, mkAgg, allD, bslD, behind, behind0, takeAt, frzAs, frzA, adoptR, adopt, isD, isD0, trim, List.take, binS, sliceA, bnd, zOk, elems, Nat.reduceBNe, inpl, Nat.reduceLT, Nat.reduceBEq, Nat.reduceSub, Nat.reduceMul, Int.reduceLT, Int.reduceLE, Int.reduceEq, Int.reduceToNat, Int.reduceNeg, thaw, nodup, refsV, adopts, sameH_self, Pk.TY_Opr]
    try simp
  · simp (config := {decide := true}) only [c_objects_Writes, isOp_at, h1, Pk.EVL, keepT, enum, ↓reduceIte, ev, act, appT, appW, callee, toDs, toD, loadA, storeA, subA, subD, updA, Eff.on, resA, resVs, resV, lk, finish, frzR, frzVs, frzV, fznR, fzns, fzn, lts, lt, ltO, List.all, pairsOk, indep, reduceCtorEq, Nat.reduceEqDiff, Nat.reduceAdd, Nat.reduceLeDiff, stb, thaws, List.drop, intOfA, binD, binI, unD, mmL, buildA, mkAgg, allD, bslD, behind, behind0, takeAt, frzAs, frzA, adoptR, adopt, isD, isD0, trim, List.take, binS, sliceA, bnd, zOk, elems, Nat.reduceBNe, inpl, Nat.reduceLT, Nat.reduceBEq, Nat.reduceSub, Nat.reduceMul, Int.reduceLT, Int.reduceLE, Int.reduceEq, Int.reduceToNat, Int.reduceNeg, thaw, nodup, refsV, adopts, sameH_self, Pk.TY_Opr]
    try simp

def grown (s : ByteArray) (n : Nat) : ByteArray := s ++ nul (n - s.size)
def Objt.fit (x : Objt) : Prop := x.data.size ≤ 300 ∧ ∀ i < 3, (x.attr.get i).size ≤ 300

def splice (s : ByteArray) (a : Nat) (d : ByteArray) : ByteArray := (grown s (a + d.size)).extract 0 a ++ d ++ (grown s (a + d.size)).extract (a + d.size) (grown s (a + d.size)).size
def writeO (x : Objt) (o : Opr) : Objt × Int :=
  if o.at_ + o.data.size > 16 then (x, 2) else ({ x with there := true, data := splice x.data o.at_.toNat o.data }, 0)
def truncO (x : Objt) (o : Opr) : Objt × Int :=
  if x.there = false then (x, 1) else if o.at_ > 16 then (x, 2) else ({ x with data := (grown x.data o.at_.toNat).extract 0 o.at_.toNat }, 0)
def attrO (x : Objt) (o : Opr) : Objt × Int :=
  if o.at_ ≥ 3 then (x, 3) else if x.there = false then (x, 1) else ({ x with attr := x.attr.set o.at_.toNat o.data }, 0)
def removeO (x : Objt) : Objt × Int := if x.there = false then (x, 1) else (Objt.zero, 0)

section
variable (x : Objt) (o : Opr) (B0 B1 B2 B3 B4 : DV)

end
end Go.Proofs.Ytmiionadkdfbdaa

namespace Go.Proofs.Ytmiionadkdfbdaa
open Pv Go Pk
set_option maxRecDepth 10000
set_option maxHeartbeats 1000000

def Base.fit (b : Base) : Prop := ∀ i < 6, Objt.fit (b.objs.get i)
def seen (b : Base) (o : Opr) : Res × Bool :=
  if writes o = false then (⟨0, ⟨#[]⟩⟩, false)
  else if (b.last.get (o.client - 1).toNat).seq < o.seq then (⟨0, ⟨#[]⟩⟩, false)
  else if (b.last.get (o.client - 1).toNat).seq = o.seq then ((b.last.get (o.client - 1).toNat).r, true)
  else (⟨3, ⟨#[]⟩⟩, true)
def doO (x : Objt) (o : Opr) : Objt × Int :=
  if o.kind = 1 then writeO x o else if o.kind = 2 then truncO x o else if o.kind = 3 then attrO x o else removeO x
def doOp (b : Base) (o : Opr) : Base × Res :=
  if writes o = false then (b, ⟨3, ⟨#[]⟩⟩)
  else if (seen b o).2 = true then (b, (seen b o).1)
  else ({ objs := b.objs.set o.obj.toNat (doO (b.objs.get o.obj.toNat) o).1, last := b.last.set (o.client - 1).toNat ⟨o.seq, ⟨(doO (b.objs.get o.obj.toNat) o).2, ⟨#[]⟩⟩⟩ }, ⟨(doO (b.objs.get o.obj.toNat) o).2, ⟨#[]⟩⟩)

end Go.Proofs.Ytmiionadkdfbdaa

namespace Go.Proofs.Ytmiionadkdfbdaa
open Pv Go Pk
set_option maxRecDepth 10000
set_option maxHeartbeats 1000000

def allOps (b : Base) : List Opr → Base × List Res
  | [] => (b, [])
  | o :: r => ((allOps (doOp b o).1 r).1, (doOp b o).2 :: (allOps (doOp b o).1 r).2)
end Go.Proofs.Ytmiionadkdfbdaa

namespace Go.Proofs.Ytmiionadkdfbdaa
open Pv Go Pk

end Go.Proofs.Ytmiionadkdfbdaa
