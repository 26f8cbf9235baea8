/- The document's operations on objects compute the same. -/
import Derived.Test.YtclambdgbphfkaaDoorObjD
set_option linter.all false
namespace Go.Proofs.YtclambdgbphfkaaDoor
open Pv Go Pk
set_option maxRecDepth 10000
set_option maxHeartbeats 1000000

def refIsOp (o : Opr) : Bool :=
  if (decide (o.client < 1) || decide (o.client > 3) || decide (o.seq < 1) || decide (o.kind < 1) || decide (o.kind > 5) || decide (o.obj ≥ 6) || decide ((o.data.size : Int) > 16)) = true then false
  else if (!(o.kind == 1) && !(o.kind == 3) && !decide (o.data = ⟨#[]⟩)) = true then false
  else (!(o.kind == 4) && !(o.kind == 5)) || (o.at_ == 0)

theorem refIsOp_eq (o : Opr) (ho : o.ok) : refIsOp o = isOp o := by
  have hok := ho
  simp only [Opr.ok] at hok
  have e5 : decide (o = ⟨o.client, o.seq, o.kind, o.obj, 0, ⟨#[]⟩⟩) = ((o.at_ == 0) && decide (o.data = ⟨#[]⟩)) := by
    obtain ⟨a, b, c, d, e, f⟩ := o
    by_cases h1 : e = 0 <;> by_cases h2 : f = ⟨#[]⟩ <;> simp [h1, h2]
  unfold refIsOp isOp
  rw [e5, Bool.eq_iff_iff]
  by_cases h : o.data = ⟨#[]⟩
  · have hs : o.data.size = 0 := by rw [h]; rfl
    simp [h]
    omega
  · simp [h]
    omega

theorem refIsOp_at' (o : Opr) : evF C F_paddockref6_IsOp [.d (.agg o.cs)] [] = some (.d (.b (refIsOp o)), []) := by
  rw [evF_code (rfl : C F_paddockref6_IsOp = some a_paddockref6_IsOp) _ _ rfl]
  unfold refIsOp
  rcases Bool.eq_false_or_eq_true (decide (o.client < 1)) with h1 | h1
  · first
      | (simp (config := {decide := true}) only [c_paddockref6_IsOp, h1, Pk.EVL, keepT, enum, ↓reduceIte, ev, act, appT, callee, toDs, toD, loadA, storeA, subA, subD, updA, Eff.on, resA, resVs, resV, lk, finish, frzR, frzVs, frzV, fznR, fzns, fzn, lts, lt, ltO, List.all, pairsOk, indep, reduceCtorEq, Nat.reduceEqDiff, Nat.reduceAdd, Nat.reduceLeDiff, stb, thaws, List.drop, intOfA, binD, binI, unD, mmL, buildA, mkAgg, allD, bslD, behind, behind0, takeAt, frzAs, frzA, adoptR, adopt, isD, isD0, trim, List.take, binS, sliceA, bnd, zOk, elems, Nat.reduceBNe, inpl, Nat.reduceLT, Nat.reduceBEq, Nat.reduceSub, Nat.reduceMul, Int.reduceLT, Int.reduceLE, Int.reduceEq, Int.reduceToNat, Int.reduceNeg, thaw, nodup, refsV, adopts, Pk.TY_Opr]; done)
      | (rcases Bool.eq_false_or_eq_true (o.kind == 1) with q1 | q1 <;> rcases Bool.eq_false_or_eq_true (o.kind == 3) with q3 | q3 <;> rcases Bool.eq_false_or_eq_true (decide (o.data = ⟨#[]⟩)) with g3 | g3 <;> rcases Bool.eq_false_or_eq_true (o.kind == 4) with q4 | q4 <;> rcases Bool.eq_false_or_eq_true (o.kind == 5) with q5 | q5 <;>
          simp (config := {decide := true}) only [c_paddockref6_IsOp, h1, q1, q3, g3, q4, q5, Pk.EVL, keepT, enum, ↓reduceIte, ev, act, appT, callee, toDs, toD, loadA, storeA, subA, subD, updA, Eff.on, resA, resVs, resV, lk, finish, frzR, frzVs, frzV, fznR, fzns, fzn, lts, lt, ltO, List.all, pairsOk, indep, reduceCtorEq, Nat.reduceEqDiff, Nat.reduceAdd, Nat.reduceLeDiff, stb, thaws, List.drop, intOfA, binD, binI, unD, mmL, buildA, mkAgg, allD, bslD, behind, behind0, takeAt, frzAs, frzA, adoptR, adopt, isD, isD0, trim, List.take, binS, sliceA, bnd, zOk, elems, Nat.reduceBNe, inpl, Nat.reduceLT, Nat.reduceBEq, Nat.reduceSub, Nat.reduceMul, Int.reduceLT, Int.reduceLE, Int.reduceEq, Int.reduceToNat, Int.reduceNeg, thaw, nodup, refsV, adopts, Pk.TY_Opr] <;> rfl)
  · rcases Bool.eq_false_or_eq_true (decide (o.client > 3)) with h2 | h2
    · first
        | (simp (config := {decide := true}) only [c_paddockref6_IsOp, h1, h2, Pk.EVL, keepT, enum, ↓reduceIte, ev, act, appT, callee, toDs, toD, loadA, storeA, subA, subD, updA, Eff.on, resA, resVs, resV, lk, finish, frzR, frzVs, frzV, fznR, fzns, fzn, lts, lt, ltO, List.all, pairsOk, indep, reduceCtorEq, Nat.reduceEqDiff, Nat.reduceAdd, Nat.reduceLeDiff, stb, thaws, List.drop, intOfA, binD, binI, unD, mmL, buildA, mkAgg, allD, bslD, behind, behind0, takeAt, frzAs, frzA, adoptR, adopt, isD, isD0, trim, List.take, binS, sliceA, bnd, zOk, elems, Nat.reduceBNe, inpl, Nat.reduceLT, Nat.reduceBEq, Nat.reduceSub, Nat.reduceMul, Int.reduceLT, Int.reduceLE, Int.reduceEq, Int.reduceToNat, Int.reduceNeg, thaw, nodup, refsV, adopts, Pk.TY_Opr]; done)
        | (rcases Bool.eq_false_or_eq_true (o.kind == 1) with q1 | q1 <;> rcases Bool.eq_false_or_eq_true (o.kind == 3) with q3 | q3 <;> rcases Bool.eq_false_or_eq_true (decide (o.data = ⟨#[]⟩)) with g3 | g3 <;> rcases Bool.eq_false_or_eq_true (o.kind == 4) with q4 | q4 <;> rcases Bool.eq_false_or_eq_true (o.kind == 5) with q5 | q5 <;>
            simp (config := {decide := true}) only [c_paddockref6_IsOp, h1, h2, q1, q3, g3, q4, q5, Pk.EVL, keepT, enum, ↓reduceIte, ev, act, appT, callee, toDs, toD, loadA, storeA, subA, subD, updA, Eff.on, resA, resVs, resV, lk, finish, frzR, frzVs, frzV, fznR, fzns, fzn, lts, lt, ltO, List.all, pairsOk, indep, reduceCtorEq, Nat.reduceEqDiff, Nat.reduceAdd, Nat.reduceLeDiff, stb, thaws, List.drop, intOfA, binD, binI, unD, mmL, buildA, mkAgg, allD, bslD, behind, behind0, takeAt, frzAs, frzA, adoptR, adopt, isD, isD0, trim, List.take, binS, sliceA, bnd, zOk, elems, Nat.reduceBNe, inpl, Nat.reduceLT, Nat.reduceBEq, Nat.reduceSub, Nat.reduceMul, Int.reduceLT, Int.reduceLE, Int.reduceEq, Int.reduceToNat, Int.reduceNeg, thaw, nodup, refsV, adopts, Pk.TY_Opr] <;> rfl)
    · rcases Bool.eq_false_or_eq_true (decide (o.seq < 1)) with h3 | h3
      · first
          | (simp (config := {decide := true}) only [c_paddockref6_IsOp, h1, h2, h3, Pk.EVL, keepT, enum, ↓reduceIte, ev, act, appT, callee, toDs, toD, loadA, storeA, subA, subD, updA, Eff.on, resA, resVs, resV, lk, finish, frzR, frzVs, frzV, fznR, fzns, fzn, lts, lt, ltO, List.all, pairsOk, indep, reduceCtorEq, Nat.reduceEqDiff, Nat.reduceAdd, Nat.reduceLeDiff, stb, thaws, List.drop, intOfA, binD, binI, unD, mmL, buildA, mkAgg, allD, bslD, behind, behind0, takeAt, frzAs, frzA, adoptR, adopt, isD, isD0, trim, List.take, binS, sliceA, bnd, zOk, elems, Nat.reduceBNe, inpl, Nat.reduceLT, Nat.reduceBEq, Nat.reduceSub, Nat.reduceMul, Int.reduceLT, Int.reduceLE, Int.reduceEq, Int.reduceToNat, Int.reduceNeg, thaw, nodup, refsV, adopts, Pk.TY_Opr]; done)
          | (rcases Bool.eq_false_or_eq_true (o.kind == 1) with q1 | q1 <;> rcases Bool.eq_false_or_eq_true (o.kind == 3) with q3 | q3 <;> rcases Bool.eq_false_or_eq_true (decide (o.data = ⟨#[]⟩)) with g3 | g3 <;> rcases Bool.eq_false_or_eq_true (o.kind == 4) with q4 | q4 <;> rcases Bool.eq_false_or_eq_true (o.kind == 5) with q5 | q5 <;>
              simp (config := {decide := true}) only [c_paddockref6_IsOp, h1, h2, h3, q1, q3, g3, q4, q5, Pk.EVL, keepT, enum, ↓reduceIte, ev, act, appT, callee, toDs, toD, loadA, storeA, subA, subD, updA, Eff.on, resA, resVs, resV, lk, finish, frzR, frzVs, frzV, fznR, fzns, fzn, lts, lt, ltO, List.all, pairsOk, indep, reduceCtorEq, Nat.reduceEqDiff, Nat.reduceAdd, Nat.reduceLeDiff, stb, thaws, List.drop, intOfA, binD, binI, unD, mmL, buildA, mkAgg, allD, bslD, behind, behind0, takeAt, frzAs, frzA, adoptR, adopt, isD, isD0, trim, List.take, binS, sliceA, bnd, zOk, elems, Nat.reduceBNe, inpl, Nat.reduceLT, Nat.reduceBEq, Nat.reduceSub, Nat.reduceMul, Int.reduceLT, Int.reduceLE, Int.reduceEq, Int.reduceToNat, Int.reduceNeg, thaw, nodup, refsV, adopts, Pk.TY_Opr] <;> rfl)
      · rcases Bool.eq_false_or_eq_true (decide (o.kind < 1)) with h4 | h4
        · first
            | (simp (config := {decide := true}) only [c_paddockref6_IsOp, h1, h2, h3, h4, Pk.EVL, keepT, enum, ↓reduceIte, ev, act, appT, callee, toDs, toD, loadA, storeA, subA, subD, updA, Eff.on, resA, resVs, resV, lk, finish, frzR, frzVs, frzV, fznR, fzns, fzn, lts, lt, ltO, List.all, pairsOk, indep, reduceCtorEq, Nat.reduceEqDiff, Nat.reduceAdd, Nat.reduceLeDiff, stb, thaws, List.drop, intOfA, binD, binI, unD, mmL, buildA, mkAgg, allD, bslD, behind, behind0, takeAt, frzAs, frzA, adoptR, adopt, isD, isD0, trim, List.take, binS, sliceA, bnd, zOk, elems, Nat.reduceBNe, inpl, Nat.reduceLT, Nat.reduceBEq, Nat.reduceSub, Nat.reduceMul, Int.reduceLT, Int.reduceLE, Int.reduceEq, Int.reduceToNat, Int.reduceNeg, thaw, nodup, refsV, adopts, Pk.TY_Opr]; done)
            | (rcases Bool.eq_false_or_eq_true (o.kind == 1) with q1 | q1 <;> rcases Bool.eq_false_or_eq_true (o.kind == 3) with q3 | q3 <;> rcases Bool.eq_false_or_eq_true (decide (o.data = ⟨#[]⟩)) with g3 | g3 <;> rcases Bool.eq_false_or_eq_true (o.kind == 4) with q4 | q4 <;> rcases Bool.eq_false_or_eq_true (o.kind == 5) with q5 | q5 <;>
                simp (config := {decide := true}) only [c_paddockref6_IsOp, h1, h2, h3, h4, q1, q3, g3, q4, q5, Pk.EVL, keepT, enum, ↓reduceIte, ev, act, appT, callee, toDs, toD, loadA, storeA, subA, subD, updA, Eff.on, resA, resVs, resV, lk, finish, frzR, frzVs, frzV, fznR, fzns, fzn, lts, lt, ltO, List.all, pairsOk, indep, reduceCtorEq, Nat.reduceEqDiff, Nat.reduceAdd, Nat.reduceLeDiff, stb, thaws, List.drop, intOfA, binD, binI, unD, mmL, buildA, mkAgg, allD, bslD, behind, behind0, takeAt, frzAs, frzA, adoptR, adopt, isD, isD0, trim, List.take, binS, sliceA, bnd, zOk, elems, Nat.reduceBNe, inpl, Nat.reduceLT, Nat.reduceBEq, Nat.reduceSub, Nat.reduceMul, Int.reduceLT, Int.reduceLE, Int.reduceEq, Int.reduceToNat, Int.reduceNeg, thaw, nodup, refsV, adopts, Pk.TY_Opr] <;> rfl)
        · rcases Bool.eq_false_or_eq_true (decide (o.kind > 5)) with h5 | h5
          · first
              | (simp (config := {decide := true}) only [c_paddockref6_IsOp, h1, h2, h3, h4, h5, Pk.EVL, keepT, enum, ↓reduceIte, ev, act, appT, callee, toDs, toD, loadA, storeA, subA, subD, updA, Eff.on, resA, resVs, resV, lk, finish, frzR, frzVs, frzV, fznR, fzns, fzn, lts, lt, ltO, List.all, pairsOk, indep, reduceCtorEq, Nat.reduceEqDiff, Nat.reduceAdd, Nat.reduceLeDiff, stb, thaws, List.drop, intOfA, binD, binI, unD, mmL, buildA, mkAgg, allD, bslD, behind, behind0, takeAt, frzAs, frzA, adoptR, adopt, isD, isD0, trim, List.take, binS, sliceA, bnd, zOk, elems, Nat.reduceBNe, inpl, Nat.reduceLT, Nat.reduceBEq, Nat.reduceSub, Nat.reduceMul, Int.reduceLT, Int.reduceLE, Int.reduceEq, Int.reduceToNat, Int.reduceNeg, thaw, nodup, refsV, adopts, Pk.TY_Opr]; done)
              | (rcases Bool.eq_false_or_eq_true (o.kind == 1) with q1 | q1 <;> rcases Bool.eq_false_or_eq_true (o.kind == 3) with q3 | q3 <;> rcases Bool.eq_false_or_eq_true (decide (o.data = ⟨#[]⟩)) with g3 | g3 <;> rcases Bool.eq_false_or_eq_true (o.kind == 4) with q4 | q4 <;> rcases Bool.eq_false_or_eq_true (o.kind == 5) with q5 | q5 <;>
                  simp (config := {decide := true}) only [c_paddockref6_IsOp, h1, h2, h3, h4, h5, q1, q3, g3, q4, q5, Pk.EVL, keepT, enum, ↓reduceIte, ev, act, appT, callee, toDs, toD, loadA, storeA, subA, subD, updA, Eff.on, resA, resVs, resV, lk, finish, frzR, frzVs, frzV, fznR, fzns, fzn, lts, lt, ltO, List.all, pairsOk, indep, reduceCtorEq, Nat.reduceEqDiff, Nat.reduceAdd, Nat.reduceLeDiff, stb, thaws, List.drop, intOfA, binD, binI, unD, mmL, buildA, mkAgg, allD, bslD, behind, behind0, takeAt, frzAs, frzA, adoptR, adopt, isD, isD0, trim, List.take, binS, sliceA, bnd, zOk, elems, Nat.reduceBNe, inpl, Nat.reduceLT, Nat.reduceBEq, Nat.reduceSub, Nat.reduceMul, Int.reduceLT, Int.reduceLE, Int.reduceEq, Int.reduceToNat, Int.reduceNeg, thaw, nodup, refsV, adopts, Pk.TY_Opr] <;> rfl)
          · rcases Bool.eq_false_or_eq_true (decide (o.obj ≥ 6)) with h6 | h6
            · first
                | (simp (config := {decide := true}) only [c_paddockref6_IsOp, h1, h2, h3, h4, h5, h6, Pk.EVL, keepT, enum, ↓reduceIte, ev, act, appT, callee, toDs, toD, loadA, storeA, subA, subD, updA, Eff.on, resA, resVs, resV, lk, finish, frzR, frzVs, frzV, fznR, fzns, fzn, lts, lt, ltO, List.all, pairsOk, indep, reduceCtorEq, Nat.reduceEqDiff, Nat.reduceAdd, Nat.reduceLeDiff, stb, thaws, List.drop, intOfA, binD, binI, unD, mmL, buildA, mkAgg, allD, bslD, behind, behind0, takeAt, frzAs, frzA, adoptR, adopt, isD, isD0, trim, List.take, binS, sliceA, bnd, zOk, elems, Nat.reduceBNe, inpl, Nat.reduceLT, Nat.reduceBEq, Nat.reduceSub, Nat.reduceMul, Int.reduceLT, Int.reduceLE, Int.reduceEq, Int.reduceToNat, Int.reduceNeg, thaw, nodup, refsV, adopts, Pk.TY_Opr]; done)
                | (rcases Bool.eq_false_or_eq_true (o.kind == 1) with q1 | q1 <;> rcases Bool.eq_false_or_eq_true (o.kind == 3) with q3 | q3 <;> rcases Bool.eq_false_or_eq_true (decide (o.data = ⟨#[]⟩)) with g3 | g3 <;> rcases Bool.eq_false_or_eq_true (o.kind == 4) with q4 | q4 <;> rcases Bool.eq_false_or_eq_true (o.kind == 5) with q5 | q5 <;>
                    simp (config := {decide := true}) only [c_paddockref6_IsOp, h1, h2, h3, h4, h5, h6, q1, q3, g3, q4, q5, Pk.EVL, keepT, enum, ↓reduceIte, ev, act, appT, callee, toDs, toD, loadA, storeA, subA, subD, updA, Eff.on, resA, resVs, resV, lk, finish, frzR, frzVs, frzV, fznR, fzns, fzn, lts, lt, ltO, List.all, pairsOk, indep, reduceCtorEq, Nat.reduceEqDiff, Nat.reduceAdd, Nat.reduceLeDiff, stb, thaws, List.drop, intOfA, binD, binI, unD, mmL, buildA, mkAgg, allD, bslD, behind, behind0, takeAt, frzAs, frzA, adoptR, adopt, isD, isD0, trim, List.take, binS, sliceA, bnd, zOk, elems, Nat.reduceBNe, inpl, Nat.reduceLT, Nat.reduceBEq, Nat.reduceSub, Nat.reduceMul, Int.reduceLT, Int.reduceLE, Int.reduceEq, Int.reduceToNat, Int.reduceNeg, thaw, nodup, refsV, adopts, Pk.TY_Opr] <;> rfl)
            · rcases Bool.eq_false_or_eq_true (decide ((o.data.size : Int) > 16)) with h7 | h7
              · first
                  | (simp (config := {decide := true}) only [c_paddockref6_IsOp, h1, h2, h3, h4, h5, h6, h7, Pk.EVL, keepT, enum, ↓reduceIte, ev, act, appT, callee, toDs, toD, loadA, storeA, subA, subD, updA, Eff.on, resA, resVs, resV, lk, finish, frzR, frzVs, frzV, fznR, fzns, fzn, lts, lt, ltO, List.all, pairsOk, indep, reduceCtorEq, Nat.reduceEqDiff, Nat.reduceAdd, Nat.reduceLeDiff, stb, thaws, List.drop, intOfA, binD, binI, unD, mmL, buildA, mkAgg, allD, bslD, behind, behind0, takeAt, frzAs, frzA, adoptR, adopt, isD, isD0, trim, List.take, binS, sliceA, bnd, zOk, elems, Nat.reduceBNe, inpl, Nat.reduceLT, Nat.reduceBEq, Nat.reduceSub, Nat.reduceMul, Int.reduceLT, Int.reduceLE, Int.reduceEq, Int.reduceToNat, Int.reduceNeg, thaw, nodup, refsV, adopts, Pk.TY_Opr]; done)
                  | (rcases Bool.eq_false_or_eq_true (o.kind == 1) with q1 | q1 <;> rcases Bool.eq_false_or_eq_true (o.kind == 3) with q3 | q3 <;> rcases Bool.eq_false_or_eq_true (decide (o.data = ⟨#[]⟩)) with g3 | g3 <;> rcases Bool.eq_false_or_eq_true (o.kind == 4) with q4 | q4 <;> rcases Bool.eq_false_or_eq_true (o.kind == 5) with q5 | q5 <;>
                      simp (config := {decide := true}) only [c_paddockref6_IsOp, h1, h2, h3, h4, h5, h6, h7, q1, q3, g3, q4, q5, Pk.EVL, keepT, enum, ↓reduceIte, ev, act, appT, callee, toDs, toD, loadA, storeA, subA, subD, updA, Eff.on, resA, resVs, resV, lk, finish, frzR, frzVs, frzV, fznR, fzns, fzn, lts, lt, ltO, List.all, pairsOk, indep, reduceCtorEq, Nat.reduceEqDiff, Nat.reduceAdd, Nat.reduceLeDiff, stb, thaws, List.drop, intOfA, binD, binI, unD, mmL, buildA, mkAgg, allD, bslD, behind, behind0, takeAt, frzAs, frzA, adoptR, adopt, isD, isD0, trim, List.take, binS, sliceA, bnd, zOk, elems, Nat.reduceBNe, inpl, Nat.reduceLT, Nat.reduceBEq, Nat.reduceSub, Nat.reduceMul, Int.reduceLT, Int.reduceLE, Int.reduceEq, Int.reduceToNat, Int.reduceNeg, thaw, nodup, refsV, adopts, Pk.TY_Opr] <;> rfl)
              · first
                  | (simp (config := {decide := true}) only [c_paddockref6_IsOp, h1, h2, h3, h4, h5, h6, h7, Pk.EVL, keepT, enum, ↓reduceIte, ev, act, appT, callee, toDs, toD, loadA, storeA, subA, subD, updA, Eff.on, resA, resVs, resV, lk, finish, frzR, frzVs, frzV, fznR, fzns, fzn, lts, lt, ltO, List.all, pairsOk, indep, reduceCtorEq, Nat.reduceEqDiff, Nat.reduceAdd, Nat.reduceLeDiff, stb, thaws, List.drop, intOfA, binD, binI, unD, mmL, buildA, mkAgg, allD, bslD, behind, behind0, takeAt, frzAs, frzA, adoptR, adopt, isD, isD0, trim, List.take, binS, sliceA, bnd, zOk, elems, Nat.reduceBNe, inpl, Nat.reduceLT, Nat.reduceBEq, Nat.reduceSub, Nat.reduceMul, Int.reduceLT, Int.reduceLE, Int.reduceEq, Int.reduceToNat, Int.reduceNeg, thaw, nodup, refsV, adopts, Pk.TY_Opr]; done)
                  | (rcases Bool.eq_false_or_eq_true (o.kind == 1) with q1 | q1 <;> rcases Bool.eq_false_or_eq_true (o.kind == 3) with q3 | q3 <;> rcases Bool.eq_false_or_eq_true (decide (o.data = ⟨#[]⟩)) with g3 | g3 <;> rcases Bool.eq_false_or_eq_true (o.kind == 4) with q4 | q4 <;> rcases Bool.eq_false_or_eq_true (o.kind == 5) with q5 | q5 <;>
                      simp (config := {decide := true}) only [c_paddockref6_IsOp, h1, h2, h3, h4, h5, h6, h7, q1, q3, g3, q4, q5, Pk.EVL, keepT, enum, ↓reduceIte, ev, act, appT, callee, toDs, toD, loadA, storeA, subA, subD, updA, Eff.on, resA, resVs, resV, lk, finish, frzR, frzVs, frzV, fznR, fzns, fzn, lts, lt, ltO, List.all, pairsOk, indep, reduceCtorEq, Nat.reduceEqDiff, Nat.reduceAdd, Nat.reduceLeDiff, stb, thaws, List.drop, intOfA, binD, binI, unD, mmL, buildA, mkAgg, allD, bslD, behind, behind0, takeAt, frzAs, frzA, adoptR, adopt, isD, isD0, trim, List.take, binS, sliceA, bnd, zOk, elems, Nat.reduceBNe, inpl, Nat.reduceLT, Nat.reduceBEq, Nat.reduceSub, Nat.reduceMul, Int.reduceLT, Int.reduceLE, Int.reduceEq, Int.reduceToNat, Int.reduceNeg, thaw, nodup, refsV, adopts, Pk.TY_Opr] <;> rfl)
theorem refIsOp_at (o : Opr) (ho : o.ok) : evF C F_paddockref6_IsOp [.d (.agg o.cs)] [] = some (.d (.b (isOp o)), []) := by rw [← refIsOp_eq o ho]; exact refIsOp_at' o

theorem refWrites_at (o : Opr) (ho : o.ok) : evF C F_paddockref6_Writes [.d (.agg o.cs)] [] = some (.d (.b (writes o)), []) := by
  rw [evF_code (rfl : C F_paddockref6_Writes = some a_paddockref6_Writes) _ _ rfl]
  unfold writes
  have := refIsOp_at o ho
  rcases Bool.eq_false_or_eq_true (isOp o) with h1 | h1
  · simp (config := {decide := true}) only [c_paddockref6_Writes, this, h1, Pk.EVL, keepT, enum, ↓reduceIte, ev, act, appT, callee, toDs, toD, loadA, storeA, subA, subD, updA, Eff.on, resA, resVs, resV, lk, finish, frzR, frzVs, frzV, fznR, fzns, fzn, lts, lt, ltO, List.all, pairsOk, indep, reduceCtorEq, Nat.reduceEqDiff, Nat.reduceAdd, Nat.reduceLeDiff, stb, thaws, List.drop, intOfA, binD, binI, unD, mmL, buildA, mkAgg, allD, bslD, behind, behind0, takeAt, frzAs, frzA, adoptR, adopt, isD, isD0, trim, List.take, binS, sliceA, bnd, zOk, elems, Nat.reduceBNe, inpl, Nat.reduceLT, Nat.reduceBEq, Nat.reduceSub, Nat.reduceMul, Int.reduceLT, Int.reduceLE, Int.reduceEq, Int.reduceToNat, Int.reduceNeg, thaw, nodup, refsV, adopts, Pk.TY_Opr]
    try simp
  · simp (config := {decide := true}) only [c_paddockref6_Writes, this, h1, Pk.EVL, keepT, enum, ↓reduceIte, ev, act, appT, callee, toDs, toD, loadA, storeA, subA, subD, updA, Eff.on, resA, resVs, resV, lk, finish, frzR, frzVs, frzV, fznR, fzns, fzn, lts, lt, ltO, List.all, pairsOk, indep, reduceCtorEq, Nat.reduceEqDiff, Nat.reduceAdd, Nat.reduceLeDiff, stb, thaws, List.drop, intOfA, binD, binI, unD, mmL, buildA, mkAgg, allD, bslD, behind, behind0, takeAt, frzAs, frzA, adoptR, adopt, isD, isD0, trim, List.take, binS, sliceA, bnd, zOk, elems, Nat.reduceBNe, inpl, Nat.reduceLT, Nat.reduceBEq, Nat.reduceSub, Nat.reduceMul, Int.reduceLT, Int.reduceLE, Int.reduceEq, Int.reduceToNat, Int.reduceNeg, thaw, nodup, refsV, adopts, Pk.TY_Opr]
    try simp

theorem refSeen_at (b : Base) (o : Opr) (ho : o.ok) : evF C F_paddockref6_Seen [.d (.agg b.cs), .d (.agg o.cs)] [] = some (.tup [.d (.agg (seen b o).1.cs), .d (.b (seen b o).2)], []) := by
  rw [evF_code (rfl : C F_paddockref6_Seen = some a_paddockref6_Seen) _ _ rfl]
  have hwr := refWrites_at o ho
  unfold seen
  rcases Bool.eq_false_or_eq_true (writes o) with hw | hw
  · obtain ⟨k, hk, hk', hk3⟩ := client_idx hw
    rw [← hk']
    have b1 : (0 ≤ (k : Int) ∧ (k : Int) < ((3 : Nat) : Int)) = True := by simp; omega
    have b2 : (30 + k * 3 + 3 ≤ 39) = True := by simp; omega
    by_cases c1 : (b.last.get k).seq < o.seq
    · simp (config := {decide := true}) only [c_paddockref6_Seen, hwr, hw, hk, hk3, b1, b2, c1, Int.toNat_natCast, Pk.EVL, keepT, enum, ↓reduceIte, ev, act, appT, callee, toDs, toD, loadA, storeA, subA, subD, updA, Eff.on, resA, resVs, resV, lk, finish, frzR, frzVs, frzV, fznR, fzns, fzn, lts, lt, ltO, List.all, pairsOk, indep, reduceCtorEq, Nat.reduceEqDiff, Nat.reduceAdd, Nat.reduceLeDiff, stb, thaws, List.drop, intOfA, binD, binI, unD, mmL, buildA, mkAgg, allD, bslD, behind, behind0, takeAt, frzAs, frzA, adoptR, adopt, isD, isD0, trim, List.take, binS, sliceA, bnd, zOk, elems, Nat.reduceBNe, inpl, Nat.reduceLT, Nat.reduceBEq, Nat.reduceSub, Nat.reduceMul, Int.reduceLT, Int.reduceLE, Int.reduceEq, Int.reduceToNat, Int.reduceNeg, thaw, nodup, refsV, adopts, Pk.TY_Opr, Pk.TY_Base, Pk.TY_Res, Pk.TY_Last]
    · by_cases c2 : (b.last.get k).seq = o.seq
      · simp (config := {decide := true}) only [c_paddockref6_Seen, hwr, hw, hk, hk3, b1, b2, c1, c2, Int.toNat_natCast, Pk.EVL, keepT, enum, ↓reduceIte, ev, act, appT, callee, toDs, toD, loadA, storeA, subA, subD, updA, Eff.on, resA, resVs, resV, lk, finish, frzR, frzVs, frzV, fznR, fzns, fzn, lts, lt, ltO, List.all, pairsOk, indep, reduceCtorEq, Nat.reduceEqDiff, Nat.reduceAdd, Nat.reduceLeDiff, stb, thaws, List.drop, intOfA, binD, binI, unD, mmL, buildA, mkAgg, allD, bslD, behind, behind0, takeAt, frzAs, frzA, adoptR, adopt, isD, isD0, trim, List.take, binS, sliceA, bnd, zOk, elems, Nat.reduceBNe, inpl, Nat.reduceLT, Nat.reduceBEq, Nat.reduceSub, Nat.reduceMul, Int.reduceLT, Int.reduceLE, Int.reduceEq, Int.reduceToNat, Int.reduceNeg, thaw, nodup, refsV, adopts, Pk.TY_Opr, Pk.TY_Base, Pk.TY_Res, Pk.TY_Last]
      · have c2' : ((b.last.get k).seq == o.seq) = false := by simp [c2]
        simp (config := {decide := true}) only [c_paddockref6_Seen, hwr, hw, hk, hk3, b1, b2, c1, c2, c2', Int.toNat_natCast, Pk.EVL, keepT, enum, ↓reduceIte, ev, act, appT, callee, toDs, toD, loadA, storeA, subA, subD, updA, Eff.on, resA, resVs, resV, lk, finish, frzR, frzVs, frzV, fznR, fzns, fzn, lts, lt, ltO, List.all, pairsOk, indep, reduceCtorEq, Nat.reduceEqDiff, Nat.reduceAdd, Nat.reduceLeDiff, stb, thaws, List.drop, intOfA, binD, binI, unD, mmL, buildA, mkAgg, allD, bslD, behind, behind0, takeAt, frzAs, frzA, adoptR, adopt, isD, isD0, trim, List.take, binS, sliceA, bnd, zOk, elems, Nat.reduceBNe, inpl, Nat.reduceLT, Nat.reduceBEq, Nat.reduceSub, Nat.reduceMul, Int.reduceLT, Int.reduceLE, Int.reduceEq, Int.reduceToNat, Int.reduceNeg, thaw, nodup, refsV, adopts, Pk.TY_Opr, Pk.TY_Base, Pk.TY_Res, Pk.TY_Last]
  · simp (config := {decide := true}) only [c_paddockref6_Seen, hwr, hw, Pk.EVL, keepT, enum, ↓reduceIte, ev, act, appT, callee, toDs, toD, loadA, storeA, subA, subD, updA, Eff.on, resA, resVs, resV, lk, finish, frzR, frzVs, frzV, fznR, fzns, fzn, lts, lt, ltO, List.all, pairsOk, indep, reduceCtorEq, Nat.reduceEqDiff, Nat.reduceAdd, Nat.reduceLeDiff, stb, thaws, List.drop, intOfA, binD, binI, unD, mmL, buildA, mkAgg, allD, bslD, behind, behind0, takeAt, frzAs, frzA, adoptR, adopt, isD, isD0, trim, List.take, binS, sliceA, bnd, zOk, elems, Nat.reduceBNe, inpl, Nat.reduceLT, Nat.reduceBEq, Nat.reduceSub, Nat.reduceMul, Int.reduceLT, Int.reduceLE, Int.reduceEq, Int.reduceToNat, Int.reduceNeg, thaw, nodup, refsV, adopts, Pk.TY_Opr, Pk.TY_Base, Pk.TY_Res, Pk.TY_Last]

theorem nul_succ (i : Nat) : nul i ++ ⟨#[0]⟩ = nul (i + 1) := by
  apply ByteArray.ext
  simp [nul, ByteArray.data_append]
  apply Array.ext'
  simp [List.replicate_succ']

theorem noughts_at (n : Nat) (hn : n ≤ 1000) : evF C F_paddockref6_noughts [.d (.i .i64 (n : Int))] [] = some (.d (.s (nul n)), []) := by
  rw [evF_code (rfl : C F_paddockref6_noughts = some a_paddockref6_noughts) _ _ rfl]
  simp (config := {decide := true}) only [c_paddockref6_noughts, Pk.EVL, keepT, enum, ↓reduceIte, ev, act, appT, callee, toDs, toD, loadA, storeA, subA, subD, updA, Eff.on, resA, resVs, resV, lk, finish, frzR, frzVs, frzV, fznR, fzns, fzn, lts, lt, ltO, List.all, pairsOk, indep, reduceCtorEq, Nat.reduceEqDiff, Nat.reduceAdd, Nat.reduceLeDiff, stb, thaws, List.drop, intOfA, binD, binI, unD, mmL, buildA, mkAgg, allD, bslD, behind, behind0, takeAt, frzAs, frzA, adoptR, adopt, isD, isD0, trim, List.take, binS, sliceA, bnd, zOk, elems, Nat.reduceBNe, inpl, Nat.reduceLT, Nat.reduceBEq, Nat.reduceSub, Nat.reduceMul, Int.reduceLT, Int.reduceLE, Int.reduceEq, Int.reduceToNat, Int.reduceNeg, thaw, nodup, refsV, adopts]
  simp only [Option.bind_assoc]
  refine bind_run (loop_run (fun i T H => lk T 0 = .d (.i .i64 (n : Nat)) ∧ lk T 3 = .d (.s (nul i)) ∧ lk T 4 = .d (.i .i64 (i : Nat)) ∧ H = []) (fun e T H => e = .exit 0 ∧ lk T 3 = .d (.s (nul n)) ∧ H = []) n ?_ ?_ n 0 _ _ (by omega) ⟨rfl, rfl, rfl, rfl⟩) ?_
  · rintro i T H hi ⟨h0, h3, h4, rfl⟩
    have hd : decide ((i : Int) < (n : Int)) = true := by simp; omega
    have hw : IntKind.i64.wrap ((i : Int) + 1) = ((i + 1 : Nat) : Int) := wi64 (by omega)
    have hl : ((nul i).size + (ByteArray.mk #[0]).size ≤ LIM) = True := by simp [nul_size, LIM]; show i + 1 ≤ _; omega
    have hs := nul_succ i
    simp (config := {decide := true}) only [K_paddockref6_noughts_0, l_paddockref6_noughts_0, h0, h3, h4, hd, hw, hl, hs, Pk.EVL, keepT, enum, ↓reduceIte, ev, act, appT, callee, toDs, toD, loadA, storeA, subA, subD, updA, Eff.on, resA, resVs, resV, lk, finish, frzR, frzVs, frzV, fznR, fzns, fzn, lts, lt, ltO, List.all, pairsOk, indep, reduceCtorEq, Nat.reduceEqDiff, Nat.reduceAdd, Nat.reduceLeDiff, stb, thaws, List.drop, intOfA, binD, binI, unD, mmL, buildA, mkAgg, allD, bslD, behind, behind0, takeAt, frzAs, frzA, adoptR, adopt, isD, isD0, trim, List.take, binS, sliceA, bnd, zOk, elems, Nat.reduceBNe, inpl, Nat.reduceLT, Nat.reduceBEq, Nat.reduceSub, Nat.reduceMul, Int.reduceLT, Int.reduceLE, Int.reduceEq, Int.reduceToNat, Int.reduceNeg, thaw, nodup, refsV, adopts]
    refine ⟨_, _, _, rfl, ?_⟩
    exact .inl ⟨rfl, rfl, rfl, rfl, rfl⟩
  · rintro T H ⟨h0, h3, h4, rfl⟩
    have hd : decide ((n : Int) < (n : Int)) = false := by simp
    simp (config := {decide := true}) only [K_paddockref6_noughts_0, l_paddockref6_noughts_0, h0, h3, h4, hd, Pk.EVL, keepT, enum, ↓reduceIte, ev, act, appT, callee, toDs, toD, loadA, storeA, subA, subD, updA, Eff.on, resA, resVs, resV, lk, finish, frzR, frzVs, frzV, fznR, fzns, fzn, lts, lt, ltO, List.all, pairsOk, indep, reduceCtorEq, Nat.reduceEqDiff, Nat.reduceAdd, Nat.reduceLeDiff, stb, thaws, List.drop, intOfA, binD, binI, unD, mmL, buildA, mkAgg, allD, bslD, behind, behind0, takeAt, frzAs, frzA, adoptR, adopt, isD, isD0, trim, List.take, binS, sliceA, bnd, zOk, elems, Nat.reduceBNe, inpl, Nat.reduceLT, Nat.reduceBEq, Nat.reduceSub, Nat.reduceMul, Int.reduceLT, Int.reduceLE, Int.reduceEq, Int.reduceToNat, Int.reduceNeg, thaw, nodup, refsV, adopts]
    refine ⟨_, _, _, rfl, ?_⟩
    exact ⟨by simp, rfl, rfl, rfl⟩
  · rintro e T H ⟨rfl, h3, rfl⟩
    simp (config := {decide := true}) only [h3, Pk.EVL, keepT, enum, ↓reduceIte, ev, act, appT, callee, toDs, toD, loadA, storeA, subA, subD, updA, Eff.on, resA, resVs, resV, lk, finish, frzR, frzVs, frzV, fznR, fzns, fzn, lts, lt, ltO, List.all, pairsOk, indep, reduceCtorEq, Nat.reduceEqDiff, Nat.reduceAdd, Nat.reduceLeDiff, stb, thaws, List.drop, intOfA, binD, binI, unD, mmL, buildA, mkAgg, allD, bslD, behind, behind0, takeAt, frzAs, frzA, adoptR, adopt, isD, isD0, trim, List.take, binS, sliceA, bnd, zOk, elems, Nat.reduceBNe, inpl, Nat.reduceLT, Nat.reduceBEq, Nat.reduceSub, Nat.reduceMul, Int.reduceLT, Int.reduceLE, Int.reduceEq, Int.reduceToNat, Int.reduceNeg, thaw, nodup, refsV, adopts]

def pad (s : ByteArray) (a : Nat) : ByteArray := if s.size < a then s ++ nul (a - s.size) else s
theorem pad_eq (s : ByteArray) (a : Nat) : pad s a = grown s a := by
  unfold pad grown
  split
  · rfl
  · rw [show a - s.size = 0 by omega]
    apply ByteArray.ext
    simp [nul, ByteArray.data_append]
def refSplice (s : ByteArray) (a : Nat) (d : ByteArray) : ByteArray :=
  (pad s a).extract 0 a ++ d ++ (if (pad s a).size > a + d.size then (pad s a).extract (a + d.size) (pad s a).size else ⟨#[]⟩)

theorem ba_list {x y : ByteArray} (h : x.data.toList = y.data.toList) : x = y := ByteArray.ext (Array.ext' h)
theorem ba_extract (x : ByteArray) (a b : Nat) : (x.extract a b).data.toList = (x.data.toList.take b).drop a := by
  rw [ByteArray.data_extract, Array.toList_extract, List.extract_eq_drop_take, List.drop_take]
theorem ba_append (x y : ByteArray) : (x ++ y).data.toList = x.data.toList ++ y.data.toList := by
  rw [ByteArray.data_append, Array.toList_append]
theorem ba_nul (n : Nat) : (nul n).data.toList = List.replicate n 0 := rfl
theorem ba_len (x : ByteArray) : x.data.toList.length = x.size := Array.length_toList

theorem refSplice_eq (s : ByteArray) (a : Nat) (d : ByteArray) : refSplice s a d = splice s a d := by
  unfold refSplice splice
  rw [pad_eq]
  have h1 : (grown s a).extract 0 a = (grown s (a + d.size)).extract 0 a := by
    apply ba_list
    simp only [ba_extract, grown, ba_append, ba_nul, List.drop_zero]
    have := ba_len s
    generalize s.data.toList = l at *
    rw [List.take_append, List.take_append, List.take_replicate, List.take_replicate, this]
    congr 2
    omega
  have h2 : (if (grown s a).size > a + d.size then (grown s a).extract (a + d.size) (grown s a).size else ⟨#[]⟩) = (grown s (a + d.size)).extract (a + d.size) (grown s (a + d.size)).size := by
    have g1 := grown_size s a
    have g2 := grown_size s (a + d.size)
    split
    · have e : grown s a = grown s (a + d.size) := by
        unfold grown
        rw [show a - s.size = 0 by omega, show a + d.size - s.size = 0 by omega]
      rw [e]
    · apply ba_list
      rw [ba_extract, List.take_of_length_le (by rw [ba_len]; exact Nat.le_refl _), List.drop_of_length_le (by rw [ba_len]; omega)]
  rw [h1, h2]

theorem change_at (x : Objt) (o : Opr) (ho : o.ok) (hx : x.data.size ≤ 300) (hd : o.data.size ≤ 16) : evF C F_paddockref6_change [.d (.agg x.cs), .d (.agg o.cs)] [] =
    some (.tup [.d (.agg (doO x o).1.cs), .d (.i .u8 (doO x o).2)], []) := by
  rw [evF_code (rfl : C F_paddockref6_change = some a_paddockref6_change) _ _ rfl]
  obtain ⟨a, ha, hal⟩ : ∃ a : Nat, o.at_ = (a : Int) ∧ a < 256 := ⟨o.at_.toNat, by have := ho; simp only [Opr.ok] at this; omega, by have := ho; simp only [Opr.ok] at this; omega⟩
  have w0 : IntKind.i64.wrap (a : Int) = (a : Int) := wi64 (by omega)
  have w1 : IntKind.i64.wrap ((a : Int) + (o.data.size : Int)) = ((a + o.data.size : Nat) : Int) := by rw [wi64 (by omega)]; omega
  unfold doO
  by_cases k1 : o.kind = 1
  · rw [if_pos k1]
    unfold writeO
    by_cases c : o.at_ + (o.data.size : Int) > 16
    · have hd : decide (((a + o.data.size : Nat) : Int) > 16) = true := by simp; omega
      rw [if_pos c]
      simp (config := {decide := true}) only [c_paddockref6_change, k1, ha, w0, w1, hd, Pk.EVL, keepT, enum, ↓reduceIte, ev, act, appT, callee, toDs, toD, loadA, storeA, subA, subD, updA, Eff.on, resA, resVs, resV, lk, finish, frzR, frzVs, frzV, fznR, fzns, fzn, lts, lt, ltO, List.all, pairsOk, indep, reduceCtorEq, Nat.reduceEqDiff, Nat.reduceAdd, Nat.reduceLeDiff, stb, thaws, List.drop, intOfA, binD, binI, unD, mmL, buildA, mkAgg, allD, bslD, behind, behind0, takeAt, frzAs, frzA, adoptR, adopt, isD, isD0, trim, List.take, binS, sliceA, bnd, zOk, elems, Nat.reduceBNe, inpl, Nat.reduceLT, Nat.reduceBEq, Nat.reduceSub, Nat.reduceMul, Int.reduceLT, Int.reduceLE, Int.reduceEq, Int.reduceToNat, Int.reduceNeg, thaw, nodup, refsV, adopts, Pk.TY_Opr, Pk.TY_Objt]
    · have hd : decide (((a + o.data.size : Nat) : Int) > 16) = false := by simp; omega
      rw [if_neg c, ← refSplice_eq]
      simp only [ha, Int.toNat_natCast]
      unfold refSplice pad
      by_cases c2 : x.data.size < a
      · have hd2 : decide ((x.data.size : Int) < (a : Int)) = true := by simp; omega
        have w2 : IntKind.i64.wrap ((a : Int) - (x.data.size : Int)) = ((a - x.data.size : Nat) : Int) := by rw [wi64 (by omega)]; omega
        have hn := noughts_at (a - x.data.size) (by omega)
        have l0 : (x.data.size + (nul (a - x.data.size)).size ≤ LIM) = True := by simp [nul_size, LIM]; omega
        rw [if_pos c2]
        have hg : (x.data ++ nul (a - x.data.size)).size = a := by rw [ByteArray.size_append, nul_size]; omega
        generalize hgg : x.data ++ nul (a - x.data.size) = g at *
        rw [if_neg (by omega)]
        have hd3 : decide ((g.size : Int) > ((a + o.data.size : Nat) : Int)) = false := by simp; omega
        have b1 : (0 ≤ (a : Int) ∧ (a : Int) ≤ (g.size : Int)) = True := by simp; omega
        have l1 : ((g.extract 0 a).size + o.data.size ≤ LIM) = True := by simp [LIM]; omega
        have l2 : ((g.extract 0 a ++ o.data).size + (ByteArray.mk #[]).size ≤ LIM) = True := by simp [LIM]; show _ + 0 ≤ _; omega
        simp (config := {decide := true}) only [c_paddockref6_change, k1, ha, w0, w1, hd, hd2, w2, hn, l0, hgg, hd3, b1, l1, l2, Int.toNat_natCast, Pk.EVL, keepT, enum, ↓reduceIte, ev, act, appT, callee, toDs, toD, loadA, storeA, subA, subD, updA, Eff.on, resA, resVs, resV, lk, finish, frzR, frzVs, frzV, fznR, fzns, fzn, lts, lt, ltO, List.all, pairsOk, indep, reduceCtorEq, Nat.reduceEqDiff, Nat.reduceAdd, Nat.reduceLeDiff, stb, thaws, List.drop, intOfA, binD, binI, unD, mmL, buildA, mkAgg, allD, bslD, behind, behind0, takeAt, frzAs, frzA, adoptR, adopt, isD, isD0, trim, List.take, binS, sliceA, bnd, zOk, elems, Nat.reduceBNe, inpl, Nat.reduceLT, Nat.reduceBEq, Nat.reduceSub, Nat.reduceMul, Int.reduceLT, Int.reduceLE, Int.reduceEq, Int.reduceToNat, Int.reduceNeg, thaw, nodup, refsV, adopts, Pk.TY_Opr, Pk.TY_Objt]
      · have hd2 : decide ((x.data.size : Int) < (a : Int)) = false := by simp; omega
        rw [if_neg c2]
        have b1 : (0 ≤ (a : Int) ∧ (a : Int) ≤ (x.data.size : Int)) = True := by simp; omega
        have l1 : ((x.data.extract 0 a).size + o.data.size ≤ LIM) = True := by simp [LIM]; omega
        by_cases c3 : x.data.size > a + o.data.size
        · have hd3 : decide ((x.data.size : Int) > ((a + o.data.size : Nat) : Int)) = true := by simp; omega
          rw [if_pos c3]
          have b2 : (0 ≤ ((a + o.data.size : Nat) : Int) ∧ ((a + o.data.size : Nat) : Int) ≤ (x.data.size : Int)) = True := by simp; omega
          have l2 : ((x.data.extract 0 a ++ o.data).size + (x.data.extract (a + o.data.size) x.data.size).size ≤ LIM) = True := by simp [LIM]; omega
          simp (config := {decide := true}) only [c_paddockref6_change, k1, ha, w0, w1, hd, hd2, hd3, b1, b2, l1, l2, Int.toNat_natCast, Pk.EVL, keepT, enum, ↓reduceIte, ev, act, appT, callee, toDs, toD, loadA, storeA, subA, subD, updA, Eff.on, resA, resVs, resV, lk, finish, frzR, frzVs, frzV, fznR, fzns, fzn, lts, lt, ltO, List.all, pairsOk, indep, reduceCtorEq, Nat.reduceEqDiff, Nat.reduceAdd, Nat.reduceLeDiff, stb, thaws, List.drop, intOfA, binD, binI, unD, mmL, buildA, mkAgg, allD, bslD, behind, behind0, takeAt, frzAs, frzA, adoptR, adopt, isD, isD0, trim, List.take, binS, sliceA, bnd, zOk, elems, Nat.reduceBNe, inpl, Nat.reduceLT, Nat.reduceBEq, Nat.reduceSub, Nat.reduceMul, Int.reduceLT, Int.reduceLE, Int.reduceEq, Int.reduceToNat, Int.reduceNeg, thaw, nodup, refsV, adopts, Pk.TY_Opr, Pk.TY_Objt]
        · have hd3 : decide ((x.data.size : Int) > ((a + o.data.size : Nat) : Int)) = false := by simp; omega
          rw [if_neg c3]
          have l2 : ((x.data.extract 0 a ++ o.data).size + (ByteArray.mk #[]).size ≤ LIM) = True := by simp [LIM]; show _ + 0 ≤ _; omega
          simp (config := {decide := true}) only [c_paddockref6_change, k1, ha, w0, w1, hd, hd2, hd3, b1, l1, l2, Int.toNat_natCast, Pk.EVL, keepT, enum, ↓reduceIte, ev, act, appT, callee, toDs, toD, loadA, storeA, subA, subD, updA, Eff.on, resA, resVs, resV, lk, finish, frzR, frzVs, frzV, fznR, fzns, fzn, lts, lt, ltO, List.all, pairsOk, indep, reduceCtorEq, Nat.reduceEqDiff, Nat.reduceAdd, Nat.reduceLeDiff, stb, thaws, List.drop, intOfA, binD, binI, unD, mmL, buildA, mkAgg, allD, bslD, behind, behind0, takeAt, frzAs, frzA, adoptR, adopt, isD, isD0, trim, List.take, binS, sliceA, bnd, zOk, elems, Nat.reduceBNe, inpl, Nat.reduceLT, Nat.reduceBEq, Nat.reduceSub, Nat.reduceMul, Int.reduceLT, Int.reduceLE, Int.reduceEq, Int.reduceToNat, Int.reduceNeg, thaw, nodup, refsV, adopts, Pk.TY_Opr, Pk.TY_Objt]
  · have k1' : (o.kind == 1) = false := by simp [k1]
    rw [if_neg k1]
    by_cases k2 : o.kind = 2
    · rw [if_pos k2]
      unfold truncO
      by_cases ht : x.there = false
      · rw [if_pos ht]
        simp (config := {decide := true}) only [c_paddockref6_change, k2, ht, ha, w0, w1, Pk.EVL, keepT, enum, ↓reduceIte, ev, act, appT, callee, toDs, toD, loadA, storeA, subA, subD, updA, Eff.on, resA, resVs, resV, lk, finish, frzR, frzVs, frzV, fznR, fzns, fzn, lts, lt, ltO, List.all, pairsOk, indep, reduceCtorEq, Nat.reduceEqDiff, Nat.reduceAdd, Nat.reduceLeDiff, stb, thaws, List.drop, intOfA, binD, binI, unD, mmL, buildA, mkAgg, allD, bslD, behind, behind0, takeAt, frzAs, frzA, adoptR, adopt, isD, isD0, trim, List.take, binS, sliceA, bnd, zOk, elems, Nat.reduceBNe, inpl, Nat.reduceLT, Nat.reduceBEq, Nat.reduceSub, Nat.reduceMul, Int.reduceLT, Int.reduceLE, Int.reduceEq, Int.reduceToNat, Int.reduceNeg, thaw, nodup, refsV, adopts, Pk.TY_Opr, Pk.TY_Objt]
      · have ht' : x.there = true := by simpa using ht
        rw [if_neg ht]
        by_cases c : o.at_ > 16
        · have hd : decide ((a : Int) > 16) = true := by simp; omega
          rw [if_pos c]
          simp (config := {decide := true}) only [c_paddockref6_change, k2, ht', ha, w0, w1, hd, Pk.EVL, keepT, enum, ↓reduceIte, ev, act, appT, callee, toDs, toD, loadA, storeA, subA, subD, updA, Eff.on, resA, resVs, resV, lk, finish, frzR, frzVs, frzV, fznR, fzns, fzn, lts, lt, ltO, List.all, pairsOk, indep, reduceCtorEq, Nat.reduceEqDiff, Nat.reduceAdd, Nat.reduceLeDiff, stb, thaws, List.drop, intOfA, binD, binI, unD, mmL, buildA, mkAgg, allD, bslD, behind, behind0, takeAt, frzAs, frzA, adoptR, adopt, isD, isD0, trim, List.take, binS, sliceA, bnd, zOk, elems, Nat.reduceBNe, inpl, Nat.reduceLT, Nat.reduceBEq, Nat.reduceSub, Nat.reduceMul, Int.reduceLT, Int.reduceLE, Int.reduceEq, Int.reduceToNat, Int.reduceNeg, thaw, nodup, refsV, adopts, Pk.TY_Opr, Pk.TY_Objt]
        · have hd : decide ((a : Int) > 16) = false := by simp; omega
          rw [if_neg c, ← pad_eq]
          simp only [ha, Int.toNat_natCast]
          unfold pad
          by_cases c2 : x.data.size < a
          · have hd2 : decide ((x.data.size : Int) < (a : Int)) = true := by simp; omega
            have w2 : IntKind.i64.wrap ((a : Int) - (x.data.size : Int)) = ((a - x.data.size : Nat) : Int) := by rw [wi64 (by omega)]; omega
            have hn := noughts_at (a - x.data.size) (by omega)
            have l0 : (x.data.size + (nul (a - x.data.size)).size ≤ LIM) = True := by simp [nul_size, LIM]; omega
            rw [if_pos c2]
            have hg : (x.data ++ nul (a - x.data.size)).size = a := by rw [ByteArray.size_append, nul_size]; omega
            generalize hgg : x.data ++ nul (a - x.data.size) = g at *
            have b1 : (0 ≤ (a : Int) ∧ (a : Int) ≤ (g.size : Int)) = True := by simp; omega
            simp (config := {decide := true}) only [c_paddockref6_change, k2, ht', ha, w0, w1, hd, hd2, w2, hn, l0, hgg, b1, Int.toNat_natCast, Pk.EVL, keepT, enum, ↓reduceIte, ev, act, appT, callee, toDs, toD, loadA, storeA, subA, subD, updA, Eff.on, resA, resVs, resV, lk, finish, frzR, frzVs, frzV, fznR, fzns, fzn, lts, lt, ltO, List.all, pairsOk, indep, reduceCtorEq, Nat.reduceEqDiff, Nat.reduceAdd, Nat.reduceLeDiff, stb, thaws, List.drop, intOfA, binD, binI, unD, mmL, buildA, mkAgg, allD, bslD, behind, behind0, takeAt, frzAs, frzA, adoptR, adopt, isD, isD0, trim, List.take, binS, sliceA, bnd, zOk, elems, Nat.reduceBNe, inpl, Nat.reduceLT, Nat.reduceBEq, Nat.reduceSub, Nat.reduceMul, Int.reduceLT, Int.reduceLE, Int.reduceEq, Int.reduceToNat, Int.reduceNeg, thaw, nodup, refsV, adopts, Pk.TY_Opr, Pk.TY_Objt]
          · have hd2 : decide ((x.data.size : Int) < (a : Int)) = false := by simp; omega
            rw [if_neg c2]
            have b1 : (0 ≤ (a : Int) ∧ (a : Int) ≤ (x.data.size : Int)) = True := by simp; omega
            simp (config := {decide := true}) only [c_paddockref6_change, k2, ht', ha, w0, w1, hd, hd2, b1, Int.toNat_natCast, Pk.EVL, keepT, enum, ↓reduceIte, ev, act, appT, callee, toDs, toD, loadA, storeA, subA, subD, updA, Eff.on, resA, resVs, resV, lk, finish, frzR, frzVs, frzV, fznR, fzns, fzn, lts, lt, ltO, List.all, pairsOk, indep, reduceCtorEq, Nat.reduceEqDiff, Nat.reduceAdd, Nat.reduceLeDiff, stb, thaws, List.drop, intOfA, binD, binI, unD, mmL, buildA, mkAgg, allD, bslD, behind, behind0, takeAt, frzAs, frzA, adoptR, adopt, isD, isD0, trim, List.take, binS, sliceA, bnd, zOk, elems, Nat.reduceBNe, inpl, Nat.reduceLT, Nat.reduceBEq, Nat.reduceSub, Nat.reduceMul, Int.reduceLT, Int.reduceLE, Int.reduceEq, Int.reduceToNat, Int.reduceNeg, thaw, nodup, refsV, adopts, Pk.TY_Opr, Pk.TY_Objt]
    · have k2' : (o.kind == 2) = false := by simp [k2]
      rw [if_neg k2]
      by_cases k3 : o.kind = 3
      · rw [if_pos k3]
        unfold attrO
        by_cases c : o.at_ ≥ 3
        · have hd : decide ((a : Int) ≥ 3) = true := by simp; omega
          rw [if_pos c]
          simp (config := {decide := true}) only [c_paddockref6_change, k3, ha, w0, w1, hd, Pk.EVL, keepT, enum, ↓reduceIte, ev, act, appT, callee, toDs, toD, loadA, storeA, subA, subD, updA, Eff.on, resA, resVs, resV, lk, finish, frzR, frzVs, frzV, fznR, fzns, fzn, lts, lt, ltO, List.all, pairsOk, indep, reduceCtorEq, Nat.reduceEqDiff, Nat.reduceAdd, Nat.reduceLeDiff, stb, thaws, List.drop, intOfA, binD, binI, unD, mmL, buildA, mkAgg, allD, bslD, behind, behind0, takeAt, frzAs, frzA, adoptR, adopt, isD, isD0, trim, List.take, binS, sliceA, bnd, zOk, elems, Nat.reduceBNe, inpl, Nat.reduceLT, Nat.reduceBEq, Nat.reduceSub, Nat.reduceMul, Int.reduceLT, Int.reduceLE, Int.reduceEq, Int.reduceToNat, Int.reduceNeg, thaw, nodup, refsV, adopts, Pk.TY_Opr, Pk.TY_Objt]
        · have hd : decide ((a : Int) ≥ 3) = false := by simp; omega
          rw [if_neg c]
          by_cases ht : x.there = false
          · rw [if_pos ht]
            simp (config := {decide := true}) only [c_paddockref6_change, k3, ht, ha, w0, w1, hd, Pk.EVL, keepT, enum, ↓reduceIte, ev, act, appT, callee, toDs, toD, loadA, storeA, subA, subD, updA, Eff.on, resA, resVs, resV, lk, finish, frzR, frzVs, frzV, fznR, fzns, fzn, lts, lt, ltO, List.all, pairsOk, indep, reduceCtorEq, Nat.reduceEqDiff, Nat.reduceAdd, Nat.reduceLeDiff, stb, thaws, List.drop, intOfA, binD, binI, unD, mmL, buildA, mkAgg, allD, bslD, behind, behind0, takeAt, frzAs, frzA, adoptR, adopt, isD, isD0, trim, List.take, binS, sliceA, bnd, zOk, elems, Nat.reduceBNe, inpl, Nat.reduceLT, Nat.reduceBEq, Nat.reduceSub, Nat.reduceMul, Int.reduceLT, Int.reduceLE, Int.reduceEq, Int.reduceToNat, Int.reduceNeg, thaw, nodup, refsV, adopts, Pk.TY_Opr, Pk.TY_Objt]
          · have ht' : x.there = true := by simpa using ht
            rw [if_neg ht]
            simp only [ha, Int.toNat_natCast]
            have hi : a < 3 := by omega
            have hb : (0 ≤ (a : Int) ∧ (a : Int) < ((3 : Nat) : Int)) = True := by simp; omega
            have hs : (2 + a + 1 ≤ 5) = True := by simp; omega
            simp (config := {decide := true}) only [c_paddockref6_change, k3, ht', ha, w0, w1, hd, hi, hb, hs, Nat.mul_one, Int.toNat_natCast, Pk.EVL, keepT, enum, ↓reduceIte, ev, act, appT, callee, toDs, toD, loadA, storeA, subA, subD, updA, Eff.on, resA, resVs, resV, lk, finish, frzR, frzVs, frzV, fznR, fzns, fzn, lts, lt, ltO, List.all, pairsOk, indep, reduceCtorEq, Nat.reduceEqDiff, Nat.reduceAdd, Nat.reduceLeDiff, stb, thaws, List.drop, intOfA, binD, binI, unD, mmL, buildA, mkAgg, allD, bslD, behind, behind0, takeAt, frzAs, frzA, adoptR, adopt, isD, isD0, trim, List.take, binS, sliceA, bnd, zOk, elems, Nat.reduceBNe, inpl, Nat.reduceLT, Nat.reduceBEq, Nat.reduceSub, Nat.reduceMul, Int.reduceLT, Int.reduceLE, Int.reduceEq, Int.reduceToNat, Int.reduceNeg, thaw, nodup, refsV, adopts, Pk.TY_Opr, Pk.TY_Objt]
      · have k3' : (o.kind == 3) = false := by simp [k3]
        rw [if_neg k3]
        unfold removeO
        by_cases ht : x.there = false
        · rw [if_pos ht]
          simp (config := {decide := true}) only [c_paddockref6_change, k1, k2, k3, k1', k2', k3', ht, ha, w0, w1, Pk.EVL, keepT, enum, ↓reduceIte, ev, act, appT, callee, toDs, toD, loadA, storeA, subA, subD, updA, Eff.on, resA, resVs, resV, lk, finish, frzR, frzVs, frzV, fznR, fzns, fzn, lts, lt, ltO, List.all, pairsOk, indep, reduceCtorEq, Nat.reduceEqDiff, Nat.reduceAdd, Nat.reduceLeDiff, stb, thaws, List.drop, intOfA, binD, binI, unD, mmL, buildA, mkAgg, allD, bslD, behind, behind0, takeAt, frzAs, frzA, adoptR, adopt, isD, isD0, trim, List.take, binS, sliceA, bnd, zOk, elems, Nat.reduceBNe, inpl, Nat.reduceLT, Nat.reduceBEq, Nat.reduceSub, Nat.reduceMul, Int.reduceLT, Int.reduceLE, Int.reduceEq, Int.reduceToNat, Int.reduceNeg, thaw, nodup, refsV, adopts, Pk.TY_Opr, Pk.TY_Objt]
        · have ht' : x.there = true := by simpa using ht
          rw [if_neg ht]
          simp (config := {decide := true}) only [c_paddockref6_change, k1, k2, k3, k1', k2', k3', ht', ha, w0, w1, Pk.EVL, keepT, enum, ↓reduceIte, ev, act, appT, callee, toDs, toD, loadA, storeA, subA, subD, updA, Eff.on, resA, resVs, resV, lk, finish, frzR, frzVs, frzV, fznR, fzns, fzn, lts, lt, ltO, List.all, pairsOk, indep, reduceCtorEq, Nat.reduceEqDiff, Nat.reduceAdd, Nat.reduceLeDiff, stb, thaws, List.drop, intOfA, binD, binI, unD, mmL, buildA, mkAgg, allD, bslD, behind, behind0, takeAt, frzAs, frzA, adoptR, adopt, isD, isD0, trim, List.take, binS, sliceA, bnd, zOk, elems, Nat.reduceBNe, inpl, Nat.reduceLT, Nat.reduceBEq, Nat.reduceSub, Nat.reduceMul, Int.reduceLT, Int.reduceLE, Int.reduceEq, Int.reduceToNat, Int.reduceNeg, thaw, nodup, refsV, adopts, Pk.TY_Opr, Pk.TY_Objt]
          rfl

theorem refDo_at (b : Base) (o : Opr) (hb : Base.fit b) (ho : o.ok) : evF C F_paddockref6_Do [.d (.agg b.cs), .d (.agg o.cs)] [] = some (.tup [.d (.agg (doOp b o).1.cs), .d (.agg (doOp b o).2.cs)], []) := by
  rw [evF_code (rfl : C F_paddockref6_Do = some a_paddockref6_Do) _ _ rfl]
  have hwr := refWrites_at o ho
  have hsn := refSeen_at b o ho
  unfold doOp
  rcases Bool.eq_false_or_eq_true (writes o) with hw | hw
  · obtain ⟨k, hk, hk', hk3⟩ := client_idx hw
    obtain ⟨j, hj, hj', hj6⟩ := obj_idx ho hw
    rw [← hk', ← hj']
    have b1 : (0 ≤ (k : Int) ∧ (k : Int) < ((3 : Nat) : Int)) = True := by simp; omega
    have b2 : (30 + k * 3 + 3 ≤ 39) = True := by simp; omega
    have b3 : (0 ≤ (j : Int) ∧ (j : Int) < ((6 : Nat) : Int)) = True := by simp; omega
    have b4 : (j * 5 + 5 ≤ 39) = True := by simp; omega
    rcases Bool.eq_false_or_eq_true (seen b o).2 with hs | hs
    · simp (config := {decide := true}) only [c_paddockref6_Do, hwr, hsn, hw, hs, Pk.EVL, keepT, enum, ↓reduceIte, ev, act, appT, callee, toDs, toD, loadA, storeA, subA, subD, updA, Eff.on, resA, resVs, resV, lk, finish, frzR, frzVs, frzV, fznR, fzns, fzn, lts, lt, ltO, List.all, pairsOk, indep, reduceCtorEq, Nat.reduceEqDiff, Nat.reduceAdd, Nat.reduceLeDiff, stb, thaws, List.drop, intOfA, binD, binI, unD, mmL, buildA, mkAgg, allD, bslD, behind, behind0, takeAt, frzAs, frzA, adoptR, adopt, isD, isD0, trim, List.take, binS, sliceA, bnd, zOk, elems, Nat.reduceBNe, inpl, Nat.reduceLT, Nat.reduceBEq, Nat.reduceSub, Nat.reduceMul, Int.reduceLT, Int.reduceLE, Int.reduceEq, Int.reduceToNat, Int.reduceNeg, thaw, nodup, refsV, adopts, Pk.TY_Opr, Pk.TY_Base, Pk.TY_Res, Pk.TY_Last]
    · have hdo := change_at (b.objs.get j) o ho (hb j hj6).1 (isOp_le (writes_isOp hw)).1
      simp (config := {decide := true}) only [c_paddockref6_Do, hwr, hsn, hdo, hw, hs, hk, hk3, hj, hj6, b1, b2, b3, b4, Int.toNat_natCast, Pk.EVL, keepT, enum, ↓reduceIte, ev, act, appT, callee, toDs, toD, loadA, storeA, subA, subD, updA, Eff.on, resA, resVs, resV, lk, finish, frzR, frzVs, frzV, fznR, fzns, fzn, lts, lt, ltO, List.all, pairsOk, indep, reduceCtorEq, Nat.reduceEqDiff, Nat.reduceAdd, Nat.reduceLeDiff, stb, thaws, List.drop, intOfA, binD, binI, unD, mmL, buildA, mkAgg, allD, bslD, behind, behind0, takeAt, frzAs, frzA, adoptR, adopt, isD, isD0, trim, List.take, binS, sliceA, bnd, zOk, elems, Nat.reduceBNe, inpl, Nat.reduceLT, Nat.reduceBEq, Nat.reduceSub, Nat.reduceMul, Int.reduceLT, Int.reduceLE, Int.reduceEq, Int.reduceToNat, Int.reduceNeg, thaw, nodup, refsV, adopts, Pk.TY_Opr, Pk.TY_Base, Pk.TY_Res, Pk.TY_Last, Pk.TY_Objt]
  · simp (config := {decide := true}) only [c_paddockref6_Do, hwr, hw, Pk.EVL, keepT, enum, ↓reduceIte, ev, act, appT, callee, toDs, toD, loadA, storeA, subA, subD, updA, Eff.on, resA, resVs, resV, lk, finish, frzR, frzVs, frzV, fznR, fzns, fzn, lts, lt, ltO, List.all, pairsOk, indep, reduceCtorEq, Nat.reduceEqDiff, Nat.reduceAdd, Nat.reduceLeDiff, stb, thaws, List.drop, intOfA, binD, binI, unD, mmL, buildA, mkAgg, allD, bslD, behind, behind0, takeAt, frzAs, frzA, adoptR, adopt, isD, isD0, trim, List.take, binS, sliceA, bnd, zOk, elems, Nat.reduceBNe, inpl, Nat.reduceLT, Nat.reduceBEq, Nat.reduceSub, Nat.reduceMul, Int.reduceLT, Int.reduceLE, Int.reduceEq, Int.reduceToNat, Int.reduceNeg, thaw, nodup, refsV, adopts, Pk.TY_Opr, Pk.TY_Base, Pk.TY_Res, Pk.TY_Last]
end Go.Proofs.YtclambdgbphfkaaDoor
