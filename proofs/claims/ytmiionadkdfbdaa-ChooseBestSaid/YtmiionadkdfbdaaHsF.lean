/- Functions of a history: New, Add, Last, Map, Inc. -/
import Derived.Test.YtmiionadkdfbdaaHsE
set_option linter.all false
namespace Go.Proofs.Ytmiionadkdfbdaa
open Pv Go Pk
set_option maxRecDepth 10000
set_option maxHeartbeats 4000000
theorem hnew_at {P : Heap} {p : Nat} (hP : P.length = p) : evF C F_history_New [] P = some (.ptr (p + 2) 0, hq P (hobs p hs0 grb0) []) := by
  have key : evF C F_history_New [] (hr P []) = some (.ptr (p + 2) 0, hq P (hobs p hs0 grb0) []) := by
    have g := hr_at hP
    have g0 := hr_at0 hP
    have ln := hr_len hP
    have hl := lays_new hP
    have bf : (p + 2 < p) = False := eq_false (by omega)
    have lq : (hq P (hobs p hs0 grb0) []).length = p + 12 := by unfold hq hobs; simp [hP]
    have le3 : (p + 3 ≤ p + 12) = True := eq_true (by omega)
    rw [evF_code (rfl : C F_history_New = some a_history_New) _ _ rfl]
    simp (config := {decide := true}) only [c_history_New, g, g0, ln, hr_push, mfirst_at, hl, lq, le3, bf, Pk.EVL, keepT, enum, ↓reduceIte, ev, act, appT, appW, callee, toDs, toD, loadA, storeA, subA, subD, updA, Eff.on, resA, resVs, resV, lk, finish, frzR, frzVs, frzV, fznR, fzns, fzn, lts, lt, ltO, List.all, pairsOk, indep, reduceCtorEq, Nat.reduceEqDiff, Nat.reduceAdd, Nat.reduceLeDiff, stb, thaws, List.drop, intOfA, binD, binI, unD, mmL, buildA, mkAgg, allD, bslD, behind, behind0, takeAt, frzAs, frzA, adoptR, adopt, isD, isD0, trim, List.take, binS, sliceA, bnd, zOk, elems, Nat.reduceBNe, inpl, Nat.reduceLT, Nat.reduceBEq, Nat.reduceSub, Nat.reduceMul, Int.reduceLT, Int.reduceLE, Int.reduceEq, Int.reduceToNat, Int.reduceNeg, thaw, nodup, refsV, adopts, Pk.TY_Mp]
  rwa [show hr P [] = P by simp [hr]] at key
section
variable {P S : Heap} {p n : Nat} (hP : P.length = p) (hn : p + 12 + S.length = n) (hPa : P.all (ltO n) = true) (hSa : S.all (ltO n) = true) {q : Grb} (hg : q.ok n)
include hP hn hPa hSa hg
end
end Go.Proofs.Ytmiionadkdfbdaa
