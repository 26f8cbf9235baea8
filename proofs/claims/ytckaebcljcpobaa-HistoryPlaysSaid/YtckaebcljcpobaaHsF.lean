/- Functions of a history: New, Add, Last, Map, Inc. -/
import Derived.Test.YtckaebcljcpobaaHsE
set_option linter.all false
namespace Go.Proofs.Ytckaebcljcpobaa
open Pv Go Pk
set_option maxRecDepth 10000
set_option maxHeartbeats 4000000
theorem hnew_at {P : Heap} {p : Nat} (hP : P.length = p) : evF C F_history_New [] P = some (.ptr (p + 2) 0, hq P (hobs p hs0 grb0) []) := by
  have key : evF C F_history_New [] (hr P []) = some (.ptr (p + 2) 0, hq P (hobs p hs0 grb0) []) := by
    have g := hr_at hP
    have g0 := hr_at0 hP
    have ln := hr_len hP
    have hl := lays_new hP
    have bf : (p + 2 < p) = False := eq_false (by omega)
    have lq : (hq P (hobs p hs0 grb0) []).length = p + 12 := by unfold hq hobs; simp [hP]
    have le3 : (p + 3 ≤ p + 12) = True := eq_true (by omega)
    rw [evF_code (rfl : C F_history_New = some a_history_New) _ _ rfl]
    simp (config := {decide := true}) only [c_history_New, g, g0, ln, hr_push, mfirst_at, hl, lq, le3, bf, Pk.EVL, keepT, enum, ↓reduceIte, ev, act, appT, callee, toDs, toD, loadA, storeA, subA, subD, updA, Eff.on, resA, resVs, resV, lk, finish, frzR, frzVs, frzV, fznR, fzns, fzn, lts, lt, ltO, List.all, pairsOk, indep, reduceCtorEq, Nat.reduceEqDiff, Nat.reduceAdd, Nat.reduceLeDiff, stb, thaws, List.drop, intOfA, binD, binI, unD, mmL, buildA, mkAgg, allD, bslD, behind, behind0, takeAt, frzAs, frzA, adoptR, adopt, isD, isD0, trim, List.take, binS, sliceA, bnd, zOk, elems, Nat.reduceBNe, inpl, Nat.reduceLT, Nat.reduceBEq, Nat.reduceSub, Nat.reduceMul, Int.reduceLT, Int.reduceLE, Int.reduceEq, Int.reduceToNat, Int.reduceNeg, thaw, nodup, refsV, adopts, Pk.TY_Mp]
  rwa [show hr P [] = P by simp [hr]] at key
section
variable {P S : Heap} {p n : Nat} (hP : P.length = p) (hn : p + 12 + S.length = n) (hPa : P.all (ltO n) = true) (hSa : S.all (ltO n) = true) {q : Grb} (hg : q.ok n)
include hP hn hPa hSa hg
theorem hlast_at (s : Hst) : evF C F_history_History_Last [.ptr (p + 2) 0] (hq P (hobs p s q) S) = some (.d (.i .u32 s.last), hq P (hobs p s q) S) := by
  have Q0 := hq_rules hP
  have Q1 := hq_sets hP
  have Q2 := hq_tmps hP hn
  have ln0 := @hq_len0 _ _ _ _ hP hn
  have ln1 := @hq_len _ _ _ _ hP hn
  have tk0 := @hq_take _ _ _ _ hP hn
  have tk1 := @hq_take0 _ _ _ _ hP hn
  have hg' := hg
  obtain ⟨k0, k1, k2, k3, k4⟩ := hg
  simp only [ltO] at k0 k1 k2 k3 k4
  have b0 : (p < n) = True := eq_true (by omega)
  have b1 : (p + 1 < n) = True := eq_true (by omega)
  have b2 : (p + 2 < n) = True := eq_true (by omega)
  have b5 : (p + 5 < n) = True := eq_true (by omega)
  have b7 : (p + 7 < n) = True := eq_true (by omega)
  have b9 : (p + 9 < n) = True := eq_true (by omega)
  have b11 : (p + 11 < n) = True := eq_true (by omega)
  rw [evF_code (rfl : C F_history_History_Last = some a_history_History_Last) _ _ rfl]
  simp (config := {decide := true}) only [c_history_History_Last, hobs, hbox, Q0, Q1, Q2, ln0, ln1, tk0, tk1, hq_push0, hq_push, hq_all, hq_all0, List.all_append, hPa, hSa, k0, k1, k2, k3, k4, b0, b1, b2, b5, b7, b9, b11, Pk.EVL, keepT, enum, ↓reduceIte, ev, act, appT, callee, toDs, toD, loadA, storeA, subA, subD, updA, Eff.on, resA, resVs, resV, lk, finish, frzR, frzVs, frzV, fznR, fzns, fzn, lts, lt, ltO, List.all, pairsOk, indep, reduceCtorEq, Nat.reduceEqDiff, Nat.reduceAdd, Nat.reduceLeDiff, stb, thaws, List.drop, intOfA, binD, binI, unD, mmL, buildA, mkAgg, allD, bslD, behind, behind0, takeAt, frzAs, frzA, adoptR, adopt, isD, isD0, trim, List.take, binS, sliceA, bnd, zOk, elems, Nat.reduceBNe, inpl, Nat.reduceLT, Nat.reduceBEq, Nat.reduceSub, Nat.reduceMul, Int.reduceLT, Int.reduceLE, Int.reduceEq, Int.reduceToNat, Int.reduceNeg, thaw, nodup, refsV, adopts]
theorem hmap_at (s : Hst) (e : Int) (x : Mp) (b : Bool) (hx : getM s.ms e = if b then some x.d else none) : evF C F_history_History_Map [.ptr (p + 2) 0, .d (.i .u32 e)] (hq P (hobs p s q) S) = some (.tup [.d (.agg (if b then x.cs else Mp.zero.cs)), .d (.b b)], hq P (hobs p s q) S) := by
  have Q0 := hq_rules hP
  have Q1 := hq_sets hP
  have Q2 := hq_tmps hP hn
  have ln0 := @hq_len0 _ _ _ _ hP hn
  have ln1 := @hq_len _ _ _ _ hP hn
  have tk0 := @hq_take _ _ _ _ hP hn
  have tk1 := @hq_take0 _ _ _ _ hP hn
  have hg' := hg
  obtain ⟨k0, k1, k2, k3, k4⟩ := hg
  simp only [ltO] at k0 k1 k2 k3 k4
  have b0 : (p < n) = True := eq_true (by omega)
  have b1 : (p + 1 < n) = True := eq_true (by omega)
  have b2 : (p + 2 < n) = True := eq_true (by omega)
  have b5 : (p + 5 < n) = True := eq_true (by omega)
  have b7 : (p + 7 < n) = True := eq_true (by omega)
  have b9 : (p + 9 < n) = True := eq_true (by omega)
  have b11 : (p + 11 < n) = True := eq_true (by omega)
  rw [evF_code (rfl : C F_history_History_Map = some a_history_History_Map) _ _ rfl]
  cases b with
  | true =>
    have h1 : (getM s.ms e).getD (.agg Mp.zero.cs) = .agg x.cs := by rw [hx]; rfl
    have h2 : (getM s.ms e).isSome = true := by rw [hx]; rfl
    simp (config := {decide := true}) only [c_history_History_Map, hobs, hbox, h1, h2, Q0, Q1, Q2, ln0, ln1, tk0, tk1, hq_push0, hq_push, hq_all, hq_all0, List.all_append, hPa, hSa, k0, k1, k2, k3, k4, b0, b1, b2, b5, b7, b9, b11, Pk.EVL, keepT, enum, ↓reduceIte, ev, act, appT, callee, toDs, toD, loadA, storeA, subA, subD, updA, Eff.on, resA, resVs, resV, lk, finish, frzR, frzVs, frzV, fznR, fzns, fzn, lts, lt, ltO, List.all, pairsOk, indep, reduceCtorEq, Nat.reduceEqDiff, Nat.reduceAdd, Nat.reduceLeDiff, stb, thaws, List.drop, intOfA, binD, binI, unD, mmL, buildA, mkAgg, allD, bslD, behind, behind0, takeAt, frzAs, frzA, adoptR, adopt, isD, isD0, trim, List.take, binS, sliceA, bnd, zOk, elems, Nat.reduceBNe, inpl, Nat.reduceLT, Nat.reduceBEq, Nat.reduceSub, Nat.reduceMul, Int.reduceLT, Int.reduceLE, Int.reduceEq, Int.reduceToNat, Int.reduceNeg, thaw, nodup, refsV, adopts, Pk.TY_Mp]
  | false =>
    have h1 : (getM s.ms e).getD (.agg Mp.zero.cs) = .agg Mp.zero.cs := by rw [hx]; rfl
    have h2 : (getM s.ms e).isSome = false := by rw [hx]; rfl
    simp (config := {decide := true}) only [c_history_History_Map, hobs, hbox, h1, h2, Q0, Q1, Q2, ln0, ln1, tk0, tk1, hq_push0, hq_push, hq_all, hq_all0, List.all_append, hPa, hSa, k0, k1, k2, k3, k4, b0, b1, b2, b5, b7, b9, b11, Pk.EVL, keepT, enum, ↓reduceIte, ev, act, appT, callee, toDs, toD, loadA, storeA, subA, subD, updA, Eff.on, resA, resVs, resV, lk, finish, frzR, frzVs, frzV, fznR, fzns, fzn, lts, lt, ltO, List.all, pairsOk, indep, reduceCtorEq, Nat.reduceEqDiff, Nat.reduceAdd, Nat.reduceLeDiff, stb, thaws, List.drop, intOfA, binD, binI, unD, mmL, buildA, mkAgg, allD, bslD, behind, behind0, takeAt, frzAs, frzA, adoptR, adopt, isD, isD0, trim, List.take, binS, sliceA, bnd, zOk, elems, Nat.reduceBNe, inpl, Nat.reduceLT, Nat.reduceBEq, Nat.reduceSub, Nat.reduceMul, Int.reduceLT, Int.reduceLE, Int.reduceEq, Int.reduceToNat, Int.reduceNeg, thaw, nodup, refsV, adopts, Pk.TY_Mp]
theorem hinc_at (s : Hst) (e : Int) (x : Inc) (b : Bool) (hx : getM s.xs e = if b then some x.d else none) : evF C F_history_History_Inc [.ptr (p + 2) 0, .d (.i .u32 e)] (hq P (hobs p s q) S) = some (.tup [.d (.agg (if b then x.cs else (Inc.mk 0 0 0).cs)), .d (.b b)], hq P (hobs p s q) S) := by
  have Q0 := hq_rules hP
  have Q1 := hq_sets hP
  have Q2 := hq_tmps hP hn
  have ln0 := @hq_len0 _ _ _ _ hP hn
  have ln1 := @hq_len _ _ _ _ hP hn
  have tk0 := @hq_take _ _ _ _ hP hn
  have tk1 := @hq_take0 _ _ _ _ hP hn
  have hg' := hg
  obtain ⟨k0, k1, k2, k3, k4⟩ := hg
  simp only [ltO] at k0 k1 k2 k3 k4
  have b0 : (p < n) = True := eq_true (by omega)
  have b1 : (p + 1 < n) = True := eq_true (by omega)
  have b2 : (p + 2 < n) = True := eq_true (by omega)
  have b5 : (p + 5 < n) = True := eq_true (by omega)
  have b7 : (p + 7 < n) = True := eq_true (by omega)
  have b9 : (p + 9 < n) = True := eq_true (by omega)
  have b11 : (p + 11 < n) = True := eq_true (by omega)
  rw [evF_code (rfl : C F_history_History_Inc = some a_history_History_Inc) _ _ rfl]
  have hz : (DV.agg [.i .u8 0, .i .u8 0, .i .i64 0]) = .agg (Inc.mk 0 0 0).cs := rfl
  cases b with
  | true =>
    have h1 : (getM s.xs e).getD (.agg (Inc.mk 0 0 0).cs) = .agg x.cs := by rw [hx]; rfl
    have h2 : (getM s.xs e).isSome = true := by rw [hx]; rfl
    simp (config := {decide := true}) only [c_history_History_Inc, hobs, hbox, hz, h1, h2, Q0, Q1, Q2, ln0, ln1, tk0, tk1, hq_push0, hq_push, hq_all, hq_all0, List.all_append, hPa, hSa, k0, k1, k2, k3, k4, b0, b1, b2, b5, b7, b9, b11, Pk.EVL, keepT, enum, ↓reduceIte, ev, act, appT, callee, toDs, toD, loadA, storeA, subA, subD, updA, Eff.on, resA, resVs, resV, lk, finish, frzR, frzVs, frzV, fznR, fzns, fzn, lts, lt, ltO, List.all, pairsOk, indep, reduceCtorEq, Nat.reduceEqDiff, Nat.reduceAdd, Nat.reduceLeDiff, stb, thaws, List.drop, intOfA, binD, binI, unD, mmL, buildA, mkAgg, allD, bslD, behind, behind0, takeAt, frzAs, frzA, adoptR, adopt, isD, isD0, trim, List.take, binS, sliceA, bnd, zOk, elems, Nat.reduceBNe, inpl, Nat.reduceLT, Nat.reduceBEq, Nat.reduceSub, Nat.reduceMul, Int.reduceLT, Int.reduceLE, Int.reduceEq, Int.reduceToNat, Int.reduceNeg, thaw, nodup, refsV, adopts, Pk.TY_Inc]
  | false =>
    have h1 : (getM s.xs e).getD (.agg (Inc.mk 0 0 0).cs) = .agg (Inc.mk 0 0 0).cs := by rw [hx]; rfl
    have h2 : (getM s.xs e).isSome = false := by rw [hx]; rfl
    simp (config := {decide := true}) only [c_history_History_Inc, hobs, hbox, hz, h1, h2, Q0, Q1, Q2, ln0, ln1, tk0, tk1, hq_push0, hq_push, hq_all, hq_all0, List.all_append, hPa, hSa, k0, k1, k2, k3, k4, b0, b1, b2, b5, b7, b9, b11, Pk.EVL, keepT, enum, ↓reduceIte, ev, act, appT, callee, toDs, toD, loadA, storeA, subA, subD, updA, Eff.on, resA, resVs, resV, lk, finish, frzR, frzVs, frzV, fznR, fzns, fzn, lts, lt, ltO, List.all, pairsOk, indep, reduceCtorEq, Nat.reduceEqDiff, Nat.reduceAdd, Nat.reduceLeDiff, stb, thaws, List.drop, intOfA, binD, binI, unD, mmL, buildA, mkAgg, allD, bslD, behind, behind0, takeAt, frzAs, frzA, adoptR, adopt, isD, isD0, trim, List.take, binS, sliceA, bnd, zOk, elems, Nat.reduceBNe, inpl, Nat.reduceLT, Nat.reduceBEq, Nat.reduceSub, Nat.reduceMul, Int.reduceLT, Int.reduceLE, Int.reduceEq, Int.reduceToNat, Int.reduceNeg, thaw, nodup, refsV, adopts, Pk.TY_Inc]
theorem hadd_at (l : List Inc) (hl : goodI l) (e : Int) (he : 0 ≤ e ∧ e < 4294967296) (x : Inc) (hx : x.ok) : evF C F_history_History_Add [.ptr (p + 2) 0, .d (.i .u32 e), .d (.agg x.cs)] (hq P (hobs p (hsOf l) q) S) = some (.d (.i .i64 (addL l e x).2), hq P (hobs p (hsOf (addL l e x).1) q) S) := by
  have Q0 := hq_rules hP
  have Q1 := hq_sets hP
  have Q2 := hq_tmps hP hn
  have ln0 := @hq_len0 _ _ _ _ hP hn
  have ln1 := @hq_len _ _ _ _ hP hn
  have tk0 := @hq_take _ _ _ _ hP hn
  have tk1 := @hq_take0 _ _ _ _ hP hn
  have hg' := hg
  obtain ⟨k0, k1, k2, k3, k4⟩ := hg
  simp only [ltO] at k0 k1 k2 k3 k4
  have b0 : (p < n) = True := eq_true (by omega)
  have b1 : (p + 1 < n) = True := eq_true (by omega)
  have b2 : (p + 2 < n) = True := eq_true (by omega)
  have b5 : (p + 5 < n) = True := eq_true (by omega)
  have b7 : (p + 7 < n) = True := eq_true (by omega)
  have b9 : (p + 9 < n) = True := eq_true (by omega)
  have b11 : (p + 11 < n) = True := eq_true (by omega)
  have e0 : (n != p) = true := by simp; omega
  have e1 : (p != n) = true := by simp; omega
  have e2 : (n != p + 1) = true := by simp; omega
  have e3 : (p + 1 != n) = true := by simp; omega
  have e4 : (n != p + 2) = true := by simp; omega
  have e5 : (p + 2 != n) = true := by simp; omega
  have e6 : (n != p + 5) = true := by simp; omega
  have e7 : (p + 5 != n) = true := by simp; omega
  have e8 : (n != p + 7) = true := by simp; omega
  have e9 : (p + 7 != n) = true := by simp; omega
  have e10 : (n != p + 9) = true := by simp; omega
  have e11 : (p + 9 != n) = true := by simp; omega
  have e12 : (n != p + 11) = true := by simp; omega
  have e13 : (p + 11 != n) = true := by simp; omega
  have e14 : (n + 1 != p) = true := by simp; omega
  have e15 : (p != n + 1) = true := by simp; omega
  have e16 : (n + 1 != p + 1) = true := by simp; omega
  have e17 : (p + 1 != n + 1) = true := by simp; omega
  have e18 : (n + 1 != p + 2) = true := by simp; omega
  have e19 : (p + 2 != n + 1) = true := by simp; omega
  have e20 : (n + 1 != p + 5) = true := by simp; omega
  have e21 : (p + 5 != n + 1) = true := by simp; omega
  have e22 : (n + 1 != p + 7) = true := by simp; omega
  have e23 : (p + 7 != n + 1) = true := by simp; omega
  have e24 : (n + 1 != p + 9) = true := by simp; omega
  have e25 : (p + 9 != n + 1) = true := by simp; omega
  have e26 : (n + 1 != p + 11) = true := by simp; omega
  have e27 : (p + 11 != n + 1) = true := by simp; omega
  have e28 : (n + 2 != p) = true := by simp; omega
  have e29 : (p != n + 2) = true := by simp; omega
  have e30 : (n + 2 != p + 1) = true := by simp; omega
  have e31 : (p + 1 != n + 2) = true := by simp; omega
  have e32 : (n + 2 != p + 2) = true := by simp; omega
  have e33 : (p + 2 != n + 2) = true := by simp; omega
  have e34 : (n + 2 != p + 5) = true := by simp; omega
  have e35 : (p + 5 != n + 2) = true := by simp; omega
  have e36 : (n + 2 != p + 7) = true := by simp; omega
  have e37 : (p + 7 != n + 2) = true := by simp; omega
  have e38 : (n + 2 != p + 9) = true := by simp; omega
  have e39 : (p + 9 != n + 2) = true := by simp; omega
  have e40 : (n + 2 != p + 11) = true := by simp; omega
  have e41 : (p + 11 != n + 2) = true := by simp; omega
  have e42 : (n + 1 != n) = true := by simp
  have e43 : (n != n + 1) = true := by simp
  have hlast := hsOf_last l
  have hn59 := hl.1
  have hget : getM (hsOf l).ms ((l.length : Int) + 1) = some (mapAt l).d := by
    rw [hsOf_ms, if_pos (by omega), List.take_of_length_le (by omega)]
  have hget' : (getM (hsOf l).ms ((l.length : Int) + 1)).getD (.agg Mp.zero.cs) = .agg (mapAt l).cs := by rw [hget]; rfl
  have hap := nextOf_at (mapAt l) x hx
  have hep := mapAt_epoch l
  rw [evF_code (rfl : C F_history_History_Add = some a_history_History_Add) _ _ rfl]
  unfold addL
  by_cases c1 : e ≤ (l.length : Int) + 1
  · have hc1 := decide_eq_true c1
    rw [if_pos c1]
    simp (config := {decide := true}) only [c_history_History_Add, hobs, hbox, hlast, hc1, Q0, Q1, Q2, ln0, ln1, tk0, tk1, hq_push0, hq_push, hq_all, hq_all0, List.all_append, hPa, hSa, k0, k1, k2, k3, k4, b0, b1, b2, b5, b7, b9, b11, Pk.EVL, keepT, enum, ↓reduceIte, ev, act, appT, callee, toDs, toD, loadA, storeA, subA, subD, updA, Eff.on, resA, resVs, resV, lk, finish, frzR, frzVs, frzV, fznR, fzns, fzn, lts, lt, ltO, List.all, pairsOk, indep, reduceCtorEq, Nat.reduceEqDiff, Nat.reduceAdd, Nat.reduceLeDiff, stb, thaws, List.drop, intOfA, binD, binI, unD, mmL, buildA, mkAgg, allD, bslD, behind, behind0, takeAt, frzAs, frzA, adoptR, adopt, isD, isD0, trim, List.take, binS, sliceA, bnd, zOk, elems, Nat.reduceBNe, inpl, Nat.reduceLT, Nat.reduceBEq, Nat.reduceSub, Nat.reduceMul, Int.reduceLT, Int.reduceLE, Int.reduceEq, Int.reduceToNat, Int.reduceNeg, thaw, nodup, refsV, adopts, Pk.TY_Inc, Pk.TY_Mp]
  rw [if_neg c1]
  have hc1 := decide_eq_false c1
  have hw : IntKind.u32.wrap (e - ((l.length : Int) + 1)) = e - ((l.length : Int) + 1) := wu32 (by omega)
  by_cases c2 : e > (l.length : Int) + 2
  · rw [if_pos c2]
    have hc2 : decide (e - ((l.length : Int) + 1) > 1) = true := decide_eq_true (by omega)
    simp (config := {decide := true}) only [c_history_History_Add, hobs, hbox, hlast, hc1, hw, hc2, Q0, Q1, Q2, ln0, ln1, tk0, tk1, hq_push0, hq_push, hq_all, hq_all0, List.all_append, hPa, hSa, k0, k1, k2, k3, k4, b0, b1, b2, b5, b7, b9, b11, Pk.EVL, keepT, enum, ↓reduceIte, ev, act, appT, callee, toDs, toD, loadA, storeA, subA, subD, updA, Eff.on, resA, resVs, resV, lk, finish, frzR, frzVs, frzV, fznR, fzns, fzn, lts, lt, ltO, List.all, pairsOk, indep, reduceCtorEq, Nat.reduceEqDiff, Nat.reduceAdd, Nat.reduceLeDiff, stb, thaws, List.drop, intOfA, binD, binI, unD, mmL, buildA, mkAgg, allD, bslD, behind, behind0, takeAt, frzAs, frzA, adoptR, adopt, isD, isD0, trim, List.take, binS, sliceA, bnd, zOk, elems, Nat.reduceBNe, inpl, Nat.reduceLT, Nat.reduceBEq, Nat.reduceSub, Nat.reduceMul, Int.reduceLT, Int.reduceLE, Int.reduceEq, Int.reduceToNat, Int.reduceNeg, thaw, nodup, refsV, adopts, Pk.TY_Inc, Pk.TY_Mp]
  rw [if_neg c2]
  have hc2 : decide (e - ((l.length : Int) + 1) > 1) = false := decide_eq_false (by omega)
  have hee : e = (l.length : Int) + 2 := by omega
  by_cases c3 : isInc x = true ∧ l.length < 59
  case neg =>
    rw [if_neg c3]
    have hapm : nextOf (mapAt l) x = (Mp.zero, 40) := by
      unfold nextOf
      rw [if_neg]
      rw [mapAt_is hl, hep, Bool.true_and, Bool.and_eq_true]
      rintro ⟨h1, h2⟩
      refine c3 ⟨h1, ?_⟩
      simp at h2
      omega
    rw [hapm] at hap
    simp (config := {decide := true}) only [c_history_History_Add, hobs, hbox, hlast, hc1, hw, hc2, hget', hap, e0, e1, e2, e3, e4, e5, e6, e7, e8, e9, e10, e11, e12, e13, e14, e15, e16, e17, e18, e19, e20, e21, e22, e23, e24, e25, e26, e27, e28, e29, e30, e31, e32, e33, e34, e35, e36, e37, e38, e39, e40, e41, e42, e43, Q0, Q1, Q2, ln0, ln1, tk0, tk1, hq_push0, hq_push, hq_all, hq_all0, List.all_append, hPa, hSa, k0, k1, k2, k3, k4, b0, b1, b2, b5, b7, b9, b11, Pk.EVL, keepT, enum, ↓reduceIte, ev, act, appT, callee, toDs, toD, loadA, storeA, subA, subD, updA, Eff.on, resA, resVs, resV, lk, finish, frzR, frzVs, frzV, fznR, fzns, fzn, lts, lt, ltO, List.all, pairsOk, indep, reduceCtorEq, Nat.reduceEqDiff, Nat.reduceAdd, Nat.reduceLeDiff, stb, thaws, List.drop, intOfA, binD, binI, unD, mmL, buildA, mkAgg, allD, bslD, behind, behind0, takeAt, frzAs, frzA, adoptR, adopt, isD, isD0, trim, List.take, binS, sliceA, bnd, zOk, elems, Nat.reduceBNe, inpl, Nat.reduceLT, Nat.reduceBEq, Nat.reduceSub, Nat.reduceMul, Int.reduceLT, Int.reduceLE, Int.reduceEq, Int.reduceToNat, Int.reduceNeg, thaw, nodup, refsV, adopts, Pk.TY_Inc, Pk.TY_Mp]
  rw [if_pos c3]
  have hapm : nextOf (mapAt l) x = (nextM (mapAt l) x, 0) := by
    unfold nextOf
    rw [if_pos]
    rw [mapAt_is hl, hep, Bool.true_and, Bool.and_eq_true]
    refine ⟨c3.1, ?_⟩
    simp
    omega
  rw [hapm] at hap
  have hgood : goodI (l ++ [x]) := by
    have := addL_good (e := e) hl hx
    unfold addL at this
    rwa [if_neg c1, if_neg c2, if_pos c3] at this
  have hso : Hst.ok { hsOf l with xs := setM (hsOf l).xs e x.d } := hsOf_ok hl
  have hlay := lays_at (S := S ++ [Ob.box (.d (.agg x.cs)), Ob.box (.d (.agg (nextM (mapAt l) x).cs))]) (n := n + 2) hP (by simp; omega) (all_more (all_more hPa)) (by rw [List.all_append, all_more (all_more hSa)]; rfl) (Grb.more (Grb.more hg')) _ hso (nextM (mapAt l) x)
  have hres : laysS { hsOf l with xs := setM (hsOf l).xs e x.d } (nextM (mapAt l) x) = hsOf (l ++ [x]) := by
    rw [hsOf_snoc, mapAt_snoc]
    unfold stepS
    rw [show (nextM (mapAt l) x).epoch = e by show (mapAt l).epoch + 1 = e; rw [hep]; omega]
  rw [hres] at hlay
  simp only [hobs, hbox, hlast, Itv.d_eq, Inc.d_eq] at hlay
  have le2 : (n + 2 ≤ n + 2) = True := eq_true (Nat.le_refl _)
  simp (config := {decide := true}) only [c_history_History_Add, hobs, hbox, hlast, hc1, hw, hc2, hget', hap, hlay, le2, e0, e1, e2, e3, e4, e5, e6, e7, e8, e9, e10, e11, e12, e13, e14, e15, e16, e17, e18, e19, e20, e21, e22, e23, e24, e25, e26, e27, e28, e29, e30, e31, e32, e33, e34, e35, e36, e37, e38, e39, e40, e41, e42, e43, Q0, Q1, Q2, ln0, ln1, tk0, tk1, hq_push0, hq_push, hq_all, hq_all0, List.all_append, hPa, hSa, k0, k1, k2, k3, k4, b0, b1, b2, b5, b7, b9, b11, Pk.EVL, keepT, enum, ↓reduceIte, ev, act, appT, callee, toDs, toD, loadA, storeA, subA, subD, updA, Eff.on, resA, resVs, resV, lk, finish, frzR, frzVs, frzV, fznR, fzns, fzn, lts, lt, ltO, List.all, pairsOk, indep, reduceCtorEq, Nat.reduceEqDiff, Nat.reduceAdd, Nat.reduceLeDiff, stb, thaws, List.drop, intOfA, binD, binI, unD, mmL, buildA, mkAgg, allD, bslD, behind, behind0, takeAt, frzAs, frzA, adoptR, adopt, isD, isD0, trim, List.take, binS, sliceA, bnd, zOk, elems, Nat.reduceBNe, inpl, Nat.reduceLT, Nat.reduceBEq, Nat.reduceSub, Nat.reduceMul, Int.reduceLT, Int.reduceLE, Int.reduceEq, Int.reduceToNat, Int.reduceNeg, thaw, nodup, refsV, adopts, Pk.TY_Inc, Pk.TY_Mp]
end
end Go.Proofs.Ytckaebcljcpobaa
