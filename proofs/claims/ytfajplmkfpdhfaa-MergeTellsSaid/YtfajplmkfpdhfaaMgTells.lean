/- The law MergeTells. -/
import Derived.Test.YtfajplmkfpdhfaaMgF
set_option linter.all false
namespace Go.Proofs.Ytfajplmkfpdhfaa
open Pv Go Pk
set_option maxRecDepth 10000
set_option maxHeartbeats 2000000
theorem mtells_law (a b : State) (d : Diff) (ha : stFull a) (hb : stFull b) (hw : stFull d.whole) (hd : ∀ e ∈ d.log, e.ok) : evF C F_paddocklaw8_MergeTells [.d (.agg a.cs), .d (.agg b.cs), .d (.agg d.cs)] [] = some (.d (.b true), []) := by
  rw [evF_code (rfl : C F_paddocklaw8_MergeTells = some a_paddocklaw8_MergeTells) _ _ rfl]
  have f1 := few8_at a
  have f2 := few8_at b
  have f3 := few8_at d.whole
  rcases Bool.eq_false_or_eq_true (few8 a) with c1 | c1
  case inr => simp (config := {decide := true}) only [c_paddocklaw8_MergeTells, known8_at, f1, c1, guardR_und, Pk.EVL, keepT, enum, ↓reduceIte, ev, act, appT, callee, toDs, toD, loadA, storeA, subA, subD, updA, Eff.on, resA, resVs, resV, lk, finish, frzR, frzVs, frzV, fznR, fzns, fzn, lts, lt, ltO, List.all, pairsOk, indep, reduceCtorEq, Nat.reduceEqDiff, Nat.reduceAdd, Nat.reduceLeDiff, stb, thaws, List.drop, intOfA, binD, binI, unD, mmL, buildA, mkAgg, allD, behind, behind0, takeAt, frzAs, frzA, adoptR, adopt, isD, isD0, trim, List.take, binS, sliceA, bnd, zOk, elems, Nat.reduceBNe, inpl, Nat.reduceLT, Nat.reduceBEq, Nat.reduceSub, Nat.reduceMul, Int.reduceLT, Int.reduceLE, Int.reduceEq, Int.reduceToNat, Int.reduceNeg, thaw, nodup, refsV, adopts, Pk.TY_State, Pk.TY_Entry, Pk.TY_Diff]
  rcases Bool.eq_false_or_eq_true (few8 b) with c2 | c2
  case inr => simp (config := {decide := true}) only [c_paddocklaw8_MergeTells, known8_at, f1, f2, c1, c2, guardR_und, Pk.EVL, keepT, enum, ↓reduceIte, ev, act, appT, callee, toDs, toD, loadA, storeA, subA, subD, updA, Eff.on, resA, resVs, resV, lk, finish, frzR, frzVs, frzV, fznR, fzns, fzn, lts, lt, ltO, List.all, pairsOk, indep, reduceCtorEq, Nat.reduceEqDiff, Nat.reduceAdd, Nat.reduceLeDiff, stb, thaws, List.drop, intOfA, binD, binI, unD, mmL, buildA, mkAgg, allD, behind, behind0, takeAt, frzAs, frzA, adoptR, adopt, isD, isD0, trim, List.take, binS, sliceA, bnd, zOk, elems, Nat.reduceBNe, inpl, Nat.reduceLT, Nat.reduceBEq, Nat.reduceSub, Nat.reduceMul, Int.reduceLT, Int.reduceLE, Int.reduceEq, Int.reduceToNat, Int.reduceNeg, thaw, nodup, refsV, adopts, Pk.TY_State, Pk.TY_Entry, Pk.TY_Diff]
  rcases Bool.eq_false_or_eq_true (few8 d.whole) with c3 | c3
  case inr => simp (config := {decide := true}) only [c_paddocklaw8_MergeTells, known8_at, f1, f2, f3, c1, c2, c3, guardR_und, Pk.EVL, keepT, enum, ↓reduceIte, ev, act, appT, callee, toDs, toD, loadA, storeA, subA, subD, updA, Eff.on, resA, resVs, resV, lk, finish, frzR, frzVs, frzV, fznR, fzns, fzn, lts, lt, ltO, List.all, pairsOk, indep, reduceCtorEq, Nat.reduceEqDiff, Nat.reduceAdd, Nat.reduceLeDiff, stb, thaws, List.drop, intOfA, binD, binI, unD, mmL, buildA, mkAgg, allD, behind, behind0, takeAt, frzAs, frzA, adoptR, adopt, isD, isD0, trim, List.take, binS, sliceA, bnd, zOk, elems, Nat.reduceBNe, inpl, Nat.reduceLT, Nat.reduceBEq, Nat.reduceSub, Nat.reduceMul, Int.reduceLT, Int.reduceLE, Int.reduceEq, Int.reduceToNat, Int.reduceNeg, thaw, nodup, refsV, adopts, Pk.TY_State, Pk.TY_Entry, Pk.TY_Diff]
  rcases Bool.eq_false_or_eq_true (decide (((d.log.length : Nat) : Int) > 12)) with c4 | c4
  · simp (config := {decide := true}) only [c_paddocklaw8_MergeTells, known8_at, f1, f2, f3, c1, c2, c3, c4, guardR_und, Pk.EVL, keepT, enum, ↓reduceIte, ev, act, appT, callee, toDs, toD, loadA, storeA, subA, subD, updA, Eff.on, resA, resVs, resV, lk, finish, frzR, frzVs, frzV, fznR, fzns, fzn, lts, lt, ltO, List.all, pairsOk, indep, reduceCtorEq, Nat.reduceEqDiff, Nat.reduceAdd, Nat.reduceLeDiff, stb, thaws, List.drop, intOfA, binD, binI, unD, mmL, buildA, mkAgg, allD, behind, behind0, takeAt, frzAs, frzA, adoptR, adopt, isD, isD0, trim, List.take, binS, sliceA, bnd, zOk, elems, Nat.reduceBNe, inpl, Nat.reduceLT, Nat.reduceBEq, Nat.reduceSub, Nat.reduceMul, Int.reduceLT, Int.reduceLE, Int.reduceEq, Int.reduceToNat, Int.reduceNeg, thaw, nodup, refsV, adopts, Pk.TY_State, Pk.TY_Entry, Pk.TY_Diff]
  have l2 := few8_len c2
  have l4 : d.log.length ≤ 12 := by have := of_decide_eq_false c4; omega
  have a1 := make_at a b ha.ok hb.ok
  have a2 := refmake_at a b ha hb (shared_at a b ha (by have := few8_len c1; omega))
  have a3 := apply_at a d ha.ok (fun e he => (hd e he).2.2) (fun _ => trivial) (by omega)
  have a4 := refapply_at a d ha hd hw (by omega)
  have a5 := extends_at a b ha.ok hb.ok
  have a6 := refextends_of a b ha hb a2
  obtain ⟨ml1, ml2⟩ := makeM_len a b (by omega)
  have a7 := bytes_at (makeM a b) (by omega) (by omega)
  have a8 := refbytes_at (makeM a b) (by omega) (by omega)
  have a9 := same8_at (makeM a b) (by omega) (by omega)
  obtain ⟨hr, hrl⟩ := applyM_res a d
  have r1 := refsame_at (applyM a d).1 (applyM a d).1 (by omega)
  rw [decide_eq_true rfl] at r1
  clear ml1 ml2 hrl ha hb hw hd l2 l4
  generalize makeM a b = M at *
  generalize applyM a d = A at *
  generalize extendsM a b = X at *
  obtain ⟨A1, A2⟩ := A
  simp only at hr a3 a4 r1
  have n80 : ((80 : Int) == 0) = false := by decide
  have n8080 : ((80 : Int) == 80) = true := by decide
  have e00 : ((0 : Int) == 0) = true := by decide
  have e1 : ∀ x : Int, (x == x) = true := fun x => by simp
  have eb : ∀ x : Bool, (x == x) = true := fun x => by simp
  have eqb : ∀ p q : Bool, eqV .sb (.b p) (.b q) = some (p == q) := fun p q => by simp only [eqV]
  rcases hr with rfl | rfl
  · simp (config := {decide := true}) only [c_paddocklaw8_MergeTells, known8_at, f1, f2, f3, c1, c2, c3, c4, a1, a2, a3, a4, a5, a6, a7, a8, a9, r1, e1, eb, eqb, e00, Bool.not_true, guardR_und, Pk.EVL, keepT, enum, ↓reduceIte, ev, act, appT, callee, toDs, toD, loadA, storeA, subA, subD, updA, Eff.on, resA, resVs, resV, lk, finish, frzR, frzVs, frzV, fznR, fzns, fzn, lts, lt, ltO, List.all, pairsOk, indep, reduceCtorEq, Nat.reduceEqDiff, Nat.reduceAdd, Nat.reduceLeDiff, stb, thaws, List.drop, intOfA, binD, binI, unD, mmL, buildA, mkAgg, allD, behind, behind0, takeAt, frzAs, frzA, adoptR, adopt, isD, isD0, trim, List.take, binS, sliceA, bnd, zOk, elems, Nat.reduceBNe, inpl, Nat.reduceLT, Nat.reduceBEq, Nat.reduceSub, Nat.reduceMul, Int.reduceLT, Int.reduceLE, Int.reduceEq, Int.reduceToNat, Int.reduceNeg, thaw, nodup, refsV, adopts, Pk.TY_State, Pk.TY_Entry, Pk.TY_Diff]
  · simp (config := {decide := true}) only [c_paddocklaw8_MergeTells, known8_at, f1, f2, f3, c1, c2, c3, c4, a1, a2, a3, a4, a5, a6, a7, a8, a9, r1, e1, eb, eqb, n80, n8080, Bool.not_true, guardR_und, Pk.EVL, keepT, enum, ↓reduceIte, ev, act, appT, callee, toDs, toD, loadA, storeA, subA, subD, updA, Eff.on, resA, resVs, resV, lk, finish, frzR, frzVs, frzV, fznR, fzns, fzn, lts, lt, ltO, List.all, pairsOk, indep, reduceCtorEq, Nat.reduceEqDiff, Nat.reduceAdd, Nat.reduceLeDiff, stb, thaws, List.drop, intOfA, binD, binI, unD, mmL, buildA, mkAgg, allD, behind, behind0, takeAt, frzAs, frzA, adoptR, adopt, isD, isD0, trim, List.take, binS, sliceA, bnd, zOk, elems, Nat.reduceBNe, inpl, Nat.reduceLT, Nat.reduceBEq, Nat.reduceSub, Nat.reduceMul, Int.reduceLT, Int.reduceLE, Int.reduceEq, Int.reduceToNat, Int.reduceNeg, thaw, nodup, refsV, adopts, Pk.TY_State, Pk.TY_Entry, Pk.TY_Diff]
end Go.Proofs.Ytfajplmkfpdhfaa
