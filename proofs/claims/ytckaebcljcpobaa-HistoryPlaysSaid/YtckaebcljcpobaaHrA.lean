/- The document's increments and histories (layer 3 to 5's reference). -/
import Derived.Test.YtckaebcljcpobaaHrI
import Derived.Test.YtckaebcljcpobaaHsM
set_option linter.all false
namespace Go.Proofs.Ytckaebcljcpobaa
open Pv Go Pk
set_option maxRecDepth 10000
set_option maxHeartbeats 4000000
def refIncB (x : Inc) : Bool :=
  if ((x.kind == 1) || (x.kind == 2)) = true then decide (x.osd < 5) && (x.n == 0)
  else if (x.kind == 3) = true then decide (x.osd < 5) && (decide (x.n ≥ 0) && decide (x.n ≤ 16))
  else if (x.kind == 4) = true then (x.osd == 0) && (x.n == 0) else false
theorem refIncB_eq (x : Inc) : refIncB x = isInc x := by
  obtain ⟨a, b, c⟩ := x
  unfold refIncB isInc
  by_cases h1 : a = 1 <;> by_cases h2 : a = 2 <;> by_cases h3 : a = 3 <;> by_cases h4 : a = 4 <;> by_cases h5 : b = 0 <;> by_cases h6 : c = 0 <;> simp [h1, h2, h3, h4, h5, h6]
theorem refinc_at (x : Inc) : evF C F_paddockref3_IsInc [.d (.agg x.cs)] [] = some (.d (.b (isInc x)), []) := by
  rw [← refIncB_eq, evF_code (rfl : C F_paddockref3_IsInc = some a_paddockref3_IsInc) _ _ rfl]
  unfold refIncB
  rcases Bool.eq_false_or_eq_true (x.kind == 1) with h1 | h1 <;> rcases Bool.eq_false_or_eq_true (x.kind == 2) with h2 | h2 <;> rcases Bool.eq_false_or_eq_true (x.kind == 3) with h3 | h3 <;> rcases Bool.eq_false_or_eq_true (x.kind == 4) with h4 | h4 <;>
    rcases Bool.eq_false_or_eq_true (decide (x.osd < 5)) with h5 | h5 <;> rcases Bool.eq_false_or_eq_true (decide (x.n ≥ 0)) with h6 | h6 <;> rcases Bool.eq_false_or_eq_true (x.osd == 0) with h7 | h7 <;>
    simp (config := {decide := true}) only [c_paddockref3_IsInc, h1, h2, h3, h4, h5, h6, h7, guardR_und, Pk.EVL, keepT, enum, ↓reduceIte, ev, act, appT, callee, toDs, toD, loadA, storeA, subA, subD, updA, Eff.on, resA, resVs, resV, lk, finish, frzR, frzVs, frzV, fznR, fzns, fzn, lts, lt, ltO, List.all, pairsOk, indep, reduceCtorEq, Nat.reduceEqDiff, Nat.reduceAdd, Nat.reduceLeDiff, stb, thaws, List.drop, intOfA, binD, binI, unD, mmL, buildA, mkAgg, allD, bslD, behind, behind0, takeAt, frzAs, frzA, adoptR, adopt, isD, isD0, trim, List.take, binS, sliceA, bnd, zOk, elems, Nat.reduceBNe, inpl, Nat.reduceLT, Nat.reduceBEq, Nat.reduceSub, Nat.reduceMul, Int.reduceLT, Int.reduceLE, Int.reduceEq, Int.reduceToNat, Int.reduceNeg, thaw, nodup, refsV, adopts, Pk.TY_Inc]
/-- A map after an increment; whether it could. -/
def refNext (m : Mp) (x : Inc) : Mp × Bool := if (isMp m && (isInc x && !decide (m.epoch ≥ 60))) = true then (nextM m x, true) else (Mp.zero, false)
theorem refNext_eq (m : Mp) (x : Inc) : refNext m x = ((nextOf m x).1, decide ((nextOf m x).2 = 0)) := by
  unfold refNext nextOf
  rcases Bool.eq_false_or_eq_true (isMp m) with h | h
  · have he := isMp_epoch h
    have : (decide (m.epoch ≥ 60)) = (m.epoch == 60) := by
      by_cases c : m.epoch = 60
      · rw [c]; rfl
      · rw [decide_eq_false (by omega)]
        symm
        rw [beq_eq_false_iff_ne]
        exact c
    rw [this]
    split <;> rfl
  · rw [h]; rfl
theorem refapply_at (m : Mp) (x : Inc) (hx : x.ok) : evF C F_paddockref3_Apply [.d (.agg m.cs), .d (.agg x.cs)] [] = some (.tup [.d (.agg (refNext m x).1.cs), .d (.b (refNext m x).2)], []) := by
  have hm : evF C F_paddockref3_Is [.d (.agg m.cs)] [] = some (.d (.b (isMp m)), []) := refis_at m
  have hi := refinc_at x
  rw [evF_code (rfl : C F_paddockref3_Apply = some a_paddockref3_Apply) _ _ rfl]
  unfold refNext
  rcases Bool.eq_false_or_eq_true (isMp m) with h1 | h1
  rotate_left
  · simp (config := {decide := true}) only [c_paddockref3_Apply, hm, hi, h1, guardR_und, Pk.EVL, keepT, enum, ↓reduceIte, ev, act, appT, callee, toDs, toD, loadA, storeA, subA, subD, updA, Eff.on, resA, resVs, resV, lk, finish, frzR, frzVs, frzV, fznR, fzns, fzn, lts, lt, ltO, List.all, pairsOk, indep, reduceCtorEq, Nat.reduceEqDiff, Nat.reduceAdd, Nat.reduceLeDiff, stb, thaws, List.drop, intOfA, binD, binI, unD, mmL, buildA, mkAgg, allD, bslD, behind, behind0, takeAt, frzAs, frzA, adoptR, adopt, isD, isD0, trim, List.take, binS, sliceA, bnd, zOk, elems, Nat.reduceBNe, inpl, Nat.reduceLT, Nat.reduceBEq, Nat.reduceSub, Nat.reduceMul, Int.reduceLT, Int.reduceLE, Int.reduceEq, Int.reduceToNat, Int.reduceNeg, thaw, nodup, refsV, adopts, Pk.TY_Mp, Pk.TY_Inc]
  rcases Bool.eq_false_or_eq_true (isInc x) with h2 | h2
  rotate_left
  · simp (config := {decide := true}) only [c_paddockref3_Apply, hm, hi, h1, h2, guardR_und, Pk.EVL, keepT, enum, ↓reduceIte, ev, act, appT, callee, toDs, toD, loadA, storeA, subA, subD, updA, Eff.on, resA, resVs, resV, lk, finish, frzR, frzVs, frzV, fznR, fzns, fzn, lts, lt, ltO, List.all, pairsOk, indep, reduceCtorEq, Nat.reduceEqDiff, Nat.reduceAdd, Nat.reduceLeDiff, stb, thaws, List.drop, intOfA, binD, binI, unD, mmL, buildA, mkAgg, allD, bslD, behind, behind0, takeAt, frzAs, frzA, adoptR, adopt, isD, isD0, trim, List.take, binS, sliceA, bnd, zOk, elems, Nat.reduceBNe, inpl, Nat.reduceLT, Nat.reduceBEq, Nat.reduceSub, Nat.reduceMul, Int.reduceLT, Int.reduceLE, Int.reduceEq, Int.reduceToNat, Int.reduceNeg, thaw, nodup, refsV, adopts, Pk.TY_Mp, Pk.TY_Inc]
  rcases Bool.eq_false_or_eq_true (decide (m.epoch ≥ 60)) with h3 | h3
  · simp (config := {decide := true}) only [c_paddockref3_Apply, hm, hi, h1, h2, h3, guardR_und, Pk.EVL, keepT, enum, ↓reduceIte, ev, act, appT, callee, toDs, toD, loadA, storeA, subA, subD, updA, Eff.on, resA, resVs, resV, lk, finish, frzR, frzVs, frzV, fznR, fzns, fzn, lts, lt, ltO, List.all, pairsOk, indep, reduceCtorEq, Nat.reduceEqDiff, Nat.reduceAdd, Nat.reduceLeDiff, stb, thaws, List.drop, intOfA, binD, binI, unD, mmL, buildA, mkAgg, allD, bslD, behind, behind0, takeAt, frzAs, frzA, adoptR, adopt, isD, isD0, trim, List.take, binS, sliceA, bnd, zOk, elems, Nat.reduceBNe, inpl, Nat.reduceLT, Nat.reduceBEq, Nat.reduceSub, Nat.reduceMul, Int.reduceLT, Int.reduceLE, Int.reduceEq, Int.reduceToNat, Int.reduceNeg, thaw, nodup, refsV, adopts, Pk.TY_Mp, Pk.TY_Inc]
  have ho := isInc_osd h2
  have he := isMp_epoch h1
  have hw : IntKind.u32.wrap (m.epoch + 1) = m.epoch + 1 := wu32 (by omega)
  have o0 : (0 ≤ x.osd) = True := eq_true (by have := hx; simp only [Inc.ok] at this; omega)
  have o1 : (x.osd < ((5 : Nat) : Int)) = True := eq_true ho
  have o2 : x.osd.toNat < 5 := by omega
  have o3 : (1 + x.osd.toNat * 3 ≤ 15) = True := eq_true (by omega)
  have o4 : (1 + x.osd.toNat * 3 + 1 ≤ 15) = True := eq_true (by omega)
  have o5 : (1 + x.osd.toNat * 3 ≤ 14) = True := eq_true (by omega)
  unfold nextM
  rcases Bool.eq_false_or_eq_true (x.kind == 1) with k1 | k1
  · simp (config := {decide := true}) only [c_paddockref3_Apply, hm, hi, h1, h2, h3, k1, hw, o0, o1, o2, o3, o4, o5, Pk.EVL, keepT, enum, ↓reduceIte, ev, act, appT, callee, toDs, toD, loadA, storeA, subA, subD, updA, Eff.on, resA, resVs, resV, lk, finish, frzR, frzVs, frzV, fznR, fzns, fzn, lts, lt, ltO, List.all, pairsOk, indep, reduceCtorEq, Nat.reduceEqDiff, Nat.reduceAdd, Nat.reduceLeDiff, stb, thaws, List.drop, intOfA, binD, binI, unD, mmL, buildA, mkAgg, allD, bslD, behind, behind0, takeAt, frzAs, frzA, adoptR, adopt, isD, isD0, trim, List.take, binS, sliceA, bnd, zOk, elems, Nat.reduceBNe, inpl, Nat.reduceLT, Nat.reduceBEq, Nat.reduceSub, Nat.reduceMul, Int.reduceLT, Int.reduceLE, Int.reduceEq, Int.reduceToNat, Int.reduceNeg, thaw, nodup, refsV, adopts, Pk.TY_Mp, Pk.TY_Inc]
    try simp
  rcases Bool.eq_false_or_eq_true (x.kind == 2) with k2 | k2
  · simp (config := {decide := true}) only [c_paddockref3_Apply, hm, hi, h1, h2, h3, k1, k2, hw, o0, o1, o2, o3, o4, o5, Pk.EVL, keepT, enum, ↓reduceIte, ev, act, appT, callee, toDs, toD, loadA, storeA, subA, subD, updA, Eff.on, resA, resVs, resV, lk, finish, frzR, frzVs, frzV, fznR, fzns, fzn, lts, lt, ltO, List.all, pairsOk, indep, reduceCtorEq, Nat.reduceEqDiff, Nat.reduceAdd, Nat.reduceLeDiff, stb, thaws, List.drop, intOfA, binD, binI, unD, mmL, buildA, mkAgg, allD, bslD, behind, behind0, takeAt, frzAs, frzA, adoptR, adopt, isD, isD0, trim, List.take, binS, sliceA, bnd, zOk, elems, Nat.reduceBNe, inpl, Nat.reduceLT, Nat.reduceBEq, Nat.reduceSub, Nat.reduceMul, Int.reduceLT, Int.reduceLE, Int.reduceEq, Int.reduceToNat, Int.reduceNeg, thaw, nodup, refsV, adopts, Pk.TY_Mp, Pk.TY_Inc]
    try simp
  rcases Bool.eq_false_or_eq_true (x.kind == 3) with k3 | k3
  · simp (config := {decide := true}) only [c_paddockref3_Apply, hm, hi, h1, h2, h3, k1, k2, k3, hw, o0, o1, o2, o3, o4, o5, Pk.EVL, keepT, enum, ↓reduceIte, ev, act, appT, callee, toDs, toD, loadA, storeA, subA, subD, updA, Eff.on, resA, resVs, resV, lk, finish, frzR, frzVs, frzV, fznR, fzns, fzn, lts, lt, ltO, List.all, pairsOk, indep, reduceCtorEq, Nat.reduceEqDiff, Nat.reduceAdd, Nat.reduceLeDiff, stb, thaws, List.drop, intOfA, binD, binI, unD, mmL, buildA, mkAgg, allD, bslD, behind, behind0, takeAt, frzAs, frzA, adoptR, adopt, isD, isD0, trim, List.take, binS, sliceA, bnd, zOk, elems, Nat.reduceBNe, inpl, Nat.reduceLT, Nat.reduceBEq, Nat.reduceSub, Nat.reduceMul, Int.reduceLT, Int.reduceLE, Int.reduceEq, Int.reduceToNat, Int.reduceNeg, thaw, nodup, refsV, adopts, Pk.TY_Mp, Pk.TY_Inc]
    try simp
  · simp (config := {decide := true}) only [c_paddockref3_Apply, hm, hi, h1, h2, h3, k1, k2, k3, hw, o0, o1, o2, o3, o4, o5, Pk.EVL, keepT, enum, ↓reduceIte, ev, act, appT, callee, toDs, toD, loadA, storeA, subA, subD, updA, Eff.on, resA, resVs, resV, lk, finish, frzR, frzVs, frzV, fznR, fzns, fzn, lts, lt, ltO, List.all, pairsOk, indep, reduceCtorEq, Nat.reduceEqDiff, Nat.reduceAdd, Nat.reduceLeDiff, stb, thaws, List.drop, intOfA, binD, binI, unD, mmL, buildA, mkAgg, allD, bslD, behind, behind0, takeAt, frzAs, frzA, adoptR, adopt, isD, isD0, trim, List.take, binS, sliceA, bnd, zOk, elems, Nat.reduceBNe, inpl, Nat.reduceLT, Nat.reduceBEq, Nat.reduceSub, Nat.reduceMul, Int.reduceLT, Int.reduceLE, Int.reduceEq, Int.reduceToNat, Int.reduceNeg, thaw, nodup, refsV, adopts, Pk.TY_Mp, Pk.TY_Inc]
    try simp
theorem reffirst_at : evF C F_paddockref3_First [] [] = some (.d (.agg firstM.cs), []) := by
  rw [evF_code (rfl : C F_paddockref3_First = some a_paddockref3_First) _ _ rfl]
  simp (config := {decide := true}) only [c_paddockref3_First, Pk.EVL, keepT, enum, ↓reduceIte, ev, act, appT, callee, toDs, toD, loadA, storeA, subA, subD, updA, Eff.on, resA, resVs, resV, lk, finish, frzR, frzVs, frzV, fznR, fzns, fzn, lts, lt, ltO, List.all, pairsOk, indep, reduceCtorEq, Nat.reduceEqDiff, Nat.reduceAdd, Nat.reduceLeDiff, stb, thaws, List.drop, intOfA, binD, binI, unD, mmL, buildA, mkAgg, allD, bslD, behind, behind0, takeAt, frzAs, frzA, adoptR, adopt, isD, isD0, trim, List.take, binS, sliceA, bnd, zOk, elems, Nat.reduceBNe, inpl, Nat.reduceLT, Nat.reduceBEq, Nat.reduceSub, Nat.reduceMul, Int.reduceLT, Int.reduceLE, Int.reduceEq, Int.reduceToNat, Int.reduceNeg, thaw, nodup, refsV, adopts, Pk.TY_Mp]
  simp only [Option.bind_assoc]
  refine bind_run (loop_run (fun i T H => lk T 0 = .ptr 0 0 ∧ lk T 1 = .ptr 1 0 ∧ lk T 2 = .d (.i .i64 (i : Nat)) ∧
      H = [.box (.d (.agg Mp.zero.cs)), .box (.d (.agg (Mp.cs ⟨1, ⟨if 0 < i then firstM.osds.a0 else ⟨false, 0, 0⟩, if 1 < i then firstM.osds.a1 else ⟨false, 0, 0⟩, if 2 < i then firstM.osds.a2 else ⟨false, 0, 0⟩, if 3 < i then firstM.osds.a3 else ⟨false, 0, 0⟩, if 4 < i then firstM.osds.a4 else ⟨false, 0, 0⟩⟩⟩)))])
    (fun e T H => e = .exit 0 ∧ lk T 0 = .ptr 0 0 ∧ lk T 1 = .ptr 1 0 ∧ H = [.box (.d (.agg Mp.zero.cs)), .box (.d (.agg firstM.cs))]) 5 ?_ ?_ 5 0 _ _ (by omega) ⟨rfl, rfl, rfl, rfl⟩) ?_
  · rintro i T H hi ⟨h0, h1, h2, rfl⟩
    obtain rfl | rfl | rfl | rfl | rfl : i = 0 ∨ i = 1 ∨ i = 2 ∨ i = 3 ∨ i = 4 := by omega
    all_goals
      simp (config := {decide := true}) only [K_paddockref3_First_0, l_paddockref3_First_0, h0, h1, h2, Pk.EVL, keepT, enum, ↓reduceIte, ev, act, appT, callee, toDs, toD, loadA, storeA, subA, subD, updA, Eff.on, resA, resVs, resV, lk, finish, frzR, frzVs, frzV, fznR, fzns, fzn, lts, lt, ltO, List.all, pairsOk, indep, reduceCtorEq, Nat.reduceEqDiff, Nat.reduceAdd, Nat.reduceLeDiff, stb, thaws, List.drop, intOfA, binD, binI, unD, mmL, buildA, mkAgg, allD, bslD, behind, behind0, takeAt, frzAs, frzA, adoptR, adopt, isD, isD0, trim, List.take, binS, sliceA, bnd, zOk, elems, Nat.reduceBNe, inpl, Nat.reduceLT, Nat.reduceBEq, Nat.reduceSub, Nat.reduceMul, Int.reduceLT, Int.reduceLE, Int.reduceEq, Int.reduceToNat, Int.reduceNeg, thaw, nodup, refsV, adopts, Pk.TY_Mp, Pk.TY_Osd]
      exact ⟨_, _, _, rfl, .inl ⟨rfl, rfl, rfl, rfl, rfl⟩⟩
  · rintro T H ⟨h0, h1, h2, rfl⟩
    simp (config := {decide := true}) only [K_paddockref3_First_0, l_paddockref3_First_0, h0, h1, h2, Pk.EVL, keepT, enum, ↓reduceIte, ev, act, appT, callee, toDs, toD, loadA, storeA, subA, subD, updA, Eff.on, resA, resVs, resV, lk, finish, frzR, frzVs, frzV, fznR, fzns, fzn, lts, lt, ltO, List.all, pairsOk, indep, reduceCtorEq, Nat.reduceEqDiff, Nat.reduceAdd, Nat.reduceLeDiff, stb, thaws, List.drop, intOfA, binD, binI, unD, mmL, buildA, mkAgg, allD, bslD, behind, behind0, takeAt, frzAs, frzA, adoptR, adopt, isD, isD0, trim, List.take, binS, sliceA, bnd, zOk, elems, Nat.reduceBNe, inpl, Nat.reduceLT, Nat.reduceBEq, Nat.reduceSub, Nat.reduceMul, Int.reduceLT, Int.reduceLE, Int.reduceEq, Int.reduceToNat, Int.reduceNeg, thaw, nodup, refsV, adopts, Pk.TY_Mp, Pk.TY_Osd]
    exact ⟨_, _, _, rfl, by simp, rfl, rfl, rfl, rfl⟩
  rintro e T H ⟨rfl, h0, h1, rfl⟩
  simp (config := {decide := true}) only [h0, h1, Pk.EVL, keepT, enum, ↓reduceIte, ev, act, appT, callee, toDs, toD, loadA, storeA, subA, subD, updA, Eff.on, resA, resVs, resV, lk, finish, frzR, frzVs, frzV, fznR, fzns, fzn, lts, lt, ltO, List.all, pairsOk, indep, reduceCtorEq, Nat.reduceEqDiff, Nat.reduceAdd, Nat.reduceLeDiff, stb, thaws, List.drop, intOfA, binD, binI, unD, mmL, buildA, mkAgg, allD, bslD, behind, behind0, takeAt, frzAs, frzA, adoptR, adopt, isD, isD0, trim, List.take, binS, sliceA, bnd, zOk, elems, Nat.reduceBNe, inpl, Nat.reduceLT, Nat.reduceBEq, Nat.reduceSub, Nat.reduceMul, Int.reduceLT, Int.reduceLE, Int.reduceEq, Int.reduceToNat, Int.reduceNeg, thaw, nodup, refsV, adopts, Pk.TY_Mp]
end Go.Proofs.Ytckaebcljcpobaa
