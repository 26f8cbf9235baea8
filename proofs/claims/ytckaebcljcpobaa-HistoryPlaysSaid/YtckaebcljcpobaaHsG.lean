/- Readers of a history's intervals. -/
import Derived.Test.YtckaebcljcpobaaHsF
import Derived.Test.YtckaebcljcpobaaPkClone
set_option linter.all false
namespace Go.Proofs.Ytckaebcljcpobaa
open Pv Go Pk
set_option maxRecDepth 10000
set_option maxHeartbeats 4000000
theorem cloneI_at (A : List Int) (hA : A.length ≤ 1000) : evF C F_slices_Clone_sint_int [.d (.sl (A.map fun x => .i .i64 x))] [] = some (.d (.sl (A.map fun x => .i .i64 x)), []) := by
  rw [evF_ext (rfl : C F_slices_Clone_sint_int = some (.ext (Pk.cloneD 1)))]
  show (if _ then _ else _) = _
  rw [if_pos]
  refine ⟨by rw [List.length_map]; unfold LIM; omega, ?_⟩
  rw [List.all_map, List.all_eq_true]
  intro x _
  rfl
theorem cloneV_at (l : List Itv) (hl : l.length ≤ 1000) : evF C F_slices_Clone_sapi_Interval_api_Interval [.d (.sl (l.map Itv.d))] [] = some (.view 0 l.length 2 0 l.length, [.arr (l.map Itv.d) true]) := by
  rw [evF_ext (rfl : C F_slices_Clone_sapi_Interval_api_Interval = some (.ext (Pk.cloneX 2)))]
  show (if _ then _ else _) = _
  rw [if_pos, List.length_map]
  refine ⟨by rw [List.length_map]; unfold LIM; omega, ?_⟩
  rw [List.all_map, List.all_eq_true]
  intro x _
  rfl
def ivOf (s : Hst) (g : Int) : List Itv := if g = 0 then s.iv.a0 else if g = 1 then s.iv.a1 else if g = 2 then s.iv.a2 else if g = 3 then s.iv.a3 else []
def lastI (l : List Itv) : Itv := l.getLast?.getD ⟨0, []⟩
def Grb.frz (q : Grb) (g : Int) : Grb := if g = 0 then { q with w0 := false } else if g = 1 then { q with w1 := false } else if g = 2 then { q with w2 := false } else if g = 3 then { q with w3 := false } else q
theorem Grb.frz_ok {n : Nat} {q : Grb} (h : q.ok n) (g : Int) : (q.frz g).ok n := by
  unfold Grb.frz
  split
  · exact h
  · split
    · exact h
    · split
      · exact h
      · split
        · exact h
        · exact h
section
variable {P S : Heap} {p n : Nat} (hP : P.length = p) (hn : p + 12 + S.length = n) (hPa : P.all (ltO n) = true) (hSa : S.all (ltO n) = true) {q : Grb} (hg : q.ok n)
include hP hn hPa hSa hg
theorem interval_at (s : Hst) (hs : s.ok) (g : Int) (h0 : 0 ≤ g) : evF C F_history_History_interval [.ptr (p + 2) 0, .d (.i .u8 g)] (hq P (hobs p s q) S) = some (.d (.agg (lastI (ivOf s g)).cs), hq P (hobs p s q) S) := by
  have Q0 := hq_rules hP
  have Q1 := hq_sets hP
  have Q2 := hq_tmps hP hn
  have ln0 := @hq_len0 _ _ _ _ hP hn
  have ln1 := @hq_len _ _ _ _ hP hn
  have tk0 := @hq_take _ _ _ _ hP hn
  have tk1 := @hq_take0 _ _ _ _ hP hn
  have hg' := hg
  obtain ⟨k0, k1, k2, k3, k4⟩ := hg
  simp only [ltO] at k0 k1 k2 k3 k4
  have b0 : (p < n) = True := eq_true (by omega)
  have b1 : (p + 1 < n) = True := eq_true (by omega)
  have b2 : (p + 2 < n) = True := eq_true (by omega)
  have b5 : (p + 5 < n) = True := eq_true (by omega)
  have b7 : (p + 7 < n) = True := eq_true (by omega)
  have b9 : (p + 9 < n) = True := eq_true (by omega)
  have b11 : (p + 11 < n) = True := eq_true (by omega)
  have e0 : (n != p) = true := by simp; omega
  have e1 : (p != n) = true := by simp; omega
  have e2 : (n != p + 1) = true := by simp; omega
  have e3 : (p + 1 != n) = true := by simp; omega
  have e4 : (n != p + 2) = true := by simp; omega
  have e5 : (p + 2 != n) = true := by simp; omega
  have e6 : (n != p + 5) = true := by simp; omega
  have e7 : (p + 5 != n) = true := by simp; omega
  have e8 : (n != p + 7) = true := by simp; omega
  have e9 : (p + 7 != n) = true := by simp; omega
  have e10 : (n != p + 9) = true := by simp; omega
  have e11 : (p + 9 != n) = true := by simp; omega
  have e12 : (n != p + 11) = true := by simp; omega
  have e13 : (p + 11 != n) = true := by simp; omega
  have e14 : (n + 1 != p) = true := by simp; omega
  have e15 : (p != n + 1) = true := by simp; omega
  have e16 : (n + 1 != p + 1) = true := by simp; omega
  have e17 : (p + 1 != n + 1) = true := by simp; omega
  have e18 : (n + 1 != p + 2) = true := by simp; omega
  have e19 : (p + 2 != n + 1) = true := by simp; omega
  have e20 : (n + 1 != p + 5) = true := by simp; omega
  have e21 : (p + 5 != n + 1) = true := by simp; omega
  have e22 : (n + 1 != p + 7) = true := by simp; omega
  have e23 : (p + 7 != n + 1) = true := by simp; omega
  have e24 : (n + 1 != p + 9) = true := by simp; omega
  have e25 : (p + 9 != n + 1) = true := by simp; omega
  have e26 : (n + 1 != p + 11) = true := by simp; omega
  have e27 : (p + 11 != n + 1) = true := by simp; omega
  have e28 : (n + 2 != p) = true := by simp; omega
  have e29 : (p != n + 2) = true := by simp; omega
  have e30 : (n + 2 != p + 1) = true := by simp; omega
  have e31 : (p + 1 != n + 2) = true := by simp; omega
  have e32 : (n + 2 != p + 2) = true := by simp; omega
  have e33 : (p + 2 != n + 2) = true := by simp; omega
  have e34 : (n + 2 != p + 5) = true := by simp; omega
  have e35 : (p + 5 != n + 2) = true := by simp; omega
  have e36 : (n + 2 != p + 7) = true := by simp; omega
  have e37 : (p + 7 != n + 2) = true := by simp; omega
  have e38 : (n + 2 != p + 9) = true := by simp; omega
  have e39 : (p + 9 != n + 2) = true := by simp; omega
  have e40 : (n + 2 != p + 11) = true := by simp; omega
  have e41 : (p + 11 != n + 2) = true := by simp; omega
  have e42 : (n + 1 != n) = true := by simp
  have e43 : (n != n + 1) = true := by simp
  obtain ⟨s0, s1, s2, s3⟩ := hs
  rw [evF_code (rfl : C F_history_History_interval = some a_history_History_interval) _ _ rfl]
  by_cases c : g ≥ 4
  · have hc := decide_eq_true c
    have hz : (lastI (ivOf s g)).cs = Itv.zero.cs := by
      unfold ivOf
      rw [if_neg (by omega), if_neg (by omega), if_neg (by omega), if_neg (by omega)]
      rfl
    rw [hz]
    have hu : upd Itv.zeroA 0 Itv.zeroA = Itv.zeroA := rfl
    simp (config := {decide := true}) only [c_history_History_interval, hobs, hbox, hc, hu, e0, e1, e2, e3, e4, e5, e6, e7, e8, e9, e10, e11, e12, e13, e14, e15, e16, e17, e18, e19, e20, e21, e22, e23, e24, e25, e26, e27, e28, e29, e30, e31, e32, e33, e34, e35, e36, e37, e38, e39, e40, e41, e42, e43, Q0, Q1, Q2, ln0, ln1, tk0, tk1, hq_push0, hq_push, hq_all, hq_all0, List.all_append, hPa, hSa, k0, k1, k2, k3, k4, b0, b1, b2, b5, b7, b9, b11, Pk.EVL, keepT, enum, ↓reduceIte, ev, act, appT, callee, toDs, toD, loadA, storeA, subA, subD, updA, Eff.on, resA, resVs, resV, lk, finish, frzR, frzVs, frzV, fznR, fzns, fzn, lts, lt, ltO, List.all, pairsOk, indep, reduceCtorEq, Nat.reduceEqDiff, Nat.reduceAdd, Nat.reduceLeDiff, stb, thaws, List.drop, intOfA, binD, binI, unD, mmL, buildA, mkAgg, allD, bslD, behind, behind0, takeAt, frzAs, frzA, adoptR, adopt, isD, isD0, trim, List.take, binS, sliceA, bnd, zOk, elems, Nat.reduceBNe, inpl, Nat.reduceLT, Nat.reduceBEq, Nat.reduceSub, Nat.reduceMul, Int.reduceLT, Int.reduceLE, Int.reduceEq, Int.reduceToNat, Int.reduceNeg, thaw, nodup, refsV, adopts, Pk.TY_Itv]
  have hc := decide_eq_false c
  obtain rfl | rfl | rfl | rfl : g = 0 ∨ g = 1 ∨ g = 2 ∨ g = 3 := by omega
  · obtain ⟨x, hx, hxd, _, hpos⟩ := okI_last s0
    have hz : lastI (ivOf s 0) = x := by show (s.iv.a0.getLast?).getD _ = x; rw [hx]; rfl
    rw [hz]
    have hw1 : IntKind.i64.wrap ((s.iv.a0.length : Int) - 1) = ((s.iv.a0.length - 1 : Nat) : Int) := by rw [wi64 (by have := s0.2.1; omega)]; omega
    have hb1 : (0 ≤ ((s.iv.a0.length - 1 : Nat) : Int)) = True := eq_true (by omega)
    have hb2 : (((s.iv.a0.length - 1 : Nat) : Int) < ((s.iv.a0.length : Nat) : Int)) = True := eq_true (by omega)
    have hu : upd Itv.zeroA 0 (List.map AV.d x.cs) = List.map AV.d x.cs := rfl
    simp (config := {decide := true}) only [c_history_History_interval, hobs, hbox, hc, hw1, hb1, hb2, hxd, hu, List.length_map, Int.toNat_natCast, e0, e1, e2, e3, e4, e5, e6, e7, e8, e9, e10, e11, e12, e13, e14, e15, e16, e17, e18, e19, e20, e21, e22, e23, e24, e25, e26, e27, e28, e29, e30, e31, e32, e33, e34, e35, e36, e37, e38, e39, e40, e41, e42, e43, Q0, Q1, Q2, ln0, ln1, tk0, tk1, hq_push0, hq_push, hq_all, hq_all0, List.all_append, hPa, hSa, k0, k1, k2, k3, k4, b0, b1, b2, b5, b7, b9, b11, Pk.EVL, keepT, enum, ↓reduceIte, ev, act, appT, callee, toDs, toD, loadA, storeA, subA, subD, updA, Eff.on, resA, resVs, resV, lk, finish, frzR, frzVs, frzV, fznR, fzns, fzn, lts, lt, ltO, List.all, pairsOk, indep, reduceCtorEq, Nat.reduceEqDiff, Nat.reduceAdd, Nat.reduceLeDiff, stb, thaws, List.drop, intOfA, binD, binI, unD, mmL, buildA, mkAgg, allD, bslD, behind, behind0, takeAt, frzAs, frzA, adoptR, adopt, isD, isD0, trim, List.take, binS, sliceA, bnd, zOk, elems, Nat.reduceBNe, inpl, Nat.reduceLT, Nat.reduceBEq, Nat.reduceSub, Nat.reduceMul, Int.reduceLT, Int.reduceLE, Int.reduceEq, Int.reduceToNat, Int.reduceNeg, thaw, nodup, refsV, adopts, Pk.TY_Itv]
  · obtain ⟨x, hx, hxd, _, hpos⟩ := okI_last s1
    have hz : lastI (ivOf s 1) = x := by show (s.iv.a1.getLast?).getD _ = x; rw [hx]; rfl
    rw [hz]
    have hw1 : IntKind.i64.wrap ((s.iv.a1.length : Int) - 1) = ((s.iv.a1.length - 1 : Nat) : Int) := by rw [wi64 (by have := s1.2.1; omega)]; omega
    have hb1 : (0 ≤ ((s.iv.a1.length - 1 : Nat) : Int)) = True := eq_true (by omega)
    have hb2 : (((s.iv.a1.length - 1 : Nat) : Int) < ((s.iv.a1.length : Nat) : Int)) = True := eq_true (by omega)
    have hu : upd Itv.zeroA 0 (List.map AV.d x.cs) = List.map AV.d x.cs := rfl
    simp (config := {decide := true}) only [c_history_History_interval, hobs, hbox, hc, hw1, hb1, hb2, hxd, hu, List.length_map, Int.toNat_natCast, e0, e1, e2, e3, e4, e5, e6, e7, e8, e9, e10, e11, e12, e13, e14, e15, e16, e17, e18, e19, e20, e21, e22, e23, e24, e25, e26, e27, e28, e29, e30, e31, e32, e33, e34, e35, e36, e37, e38, e39, e40, e41, e42, e43, Q0, Q1, Q2, ln0, ln1, tk0, tk1, hq_push0, hq_push, hq_all, hq_all0, List.all_append, hPa, hSa, k0, k1, k2, k3, k4, b0, b1, b2, b5, b7, b9, b11, Pk.EVL, keepT, enum, ↓reduceIte, ev, act, appT, callee, toDs, toD, loadA, storeA, subA, subD, updA, Eff.on, resA, resVs, resV, lk, finish, frzR, frzVs, frzV, fznR, fzns, fzn, lts, lt, ltO, List.all, pairsOk, indep, reduceCtorEq, Nat.reduceEqDiff, Nat.reduceAdd, Nat.reduceLeDiff, stb, thaws, List.drop, intOfA, binD, binI, unD, mmL, buildA, mkAgg, allD, bslD, behind, behind0, takeAt, frzAs, frzA, adoptR, adopt, isD, isD0, trim, List.take, binS, sliceA, bnd, zOk, elems, Nat.reduceBNe, inpl, Nat.reduceLT, Nat.reduceBEq, Nat.reduceSub, Nat.reduceMul, Int.reduceLT, Int.reduceLE, Int.reduceEq, Int.reduceToNat, Int.reduceNeg, thaw, nodup, refsV, adopts, Pk.TY_Itv]
  · obtain ⟨x, hx, hxd, _, hpos⟩ := okI_last s2
    have hz : lastI (ivOf s 2) = x := by show (s.iv.a2.getLast?).getD _ = x; rw [hx]; rfl
    rw [hz]
    have hw1 : IntKind.i64.wrap ((s.iv.a2.length : Int) - 1) = ((s.iv.a2.length - 1 : Nat) : Int) := by rw [wi64 (by have := s2.2.1; omega)]; omega
    have hb1 : (0 ≤ ((s.iv.a2.length - 1 : Nat) : Int)) = True := eq_true (by omega)
    have hb2 : (((s.iv.a2.length - 1 : Nat) : Int) < ((s.iv.a2.length : Nat) : Int)) = True := eq_true (by omega)
    have hu : upd Itv.zeroA 0 (List.map AV.d x.cs) = List.map AV.d x.cs := rfl
    simp (config := {decide := true}) only [c_history_History_interval, hobs, hbox, hc, hw1, hb1, hb2, hxd, hu, List.length_map, Int.toNat_natCast, e0, e1, e2, e3, e4, e5, e6, e7, e8, e9, e10, e11, e12, e13, e14, e15, e16, e17, e18, e19, e20, e21, e22, e23, e24, e25, e26, e27, e28, e29, e30, e31, e32, e33, e34, e35, e36, e37, e38, e39, e40, e41, e42, e43, Q0, Q1, Q2, ln0, ln1, tk0, tk1, hq_push0, hq_push, hq_all, hq_all0, List.all_append, hPa, hSa, k0, k1, k2, k3, k4, b0, b1, b2, b5, b7, b9, b11, Pk.EVL, keepT, enum, ↓reduceIte, ev, act, appT, callee, toDs, toD, loadA, storeA, subA, subD, updA, Eff.on, resA, resVs, resV, lk, finish, frzR, frzVs, frzV, fznR, fzns, fzn, lts, lt, ltO, List.all, pairsOk, indep, reduceCtorEq, Nat.reduceEqDiff, Nat.reduceAdd, Nat.reduceLeDiff, stb, thaws, List.drop, intOfA, binD, binI, unD, mmL, buildA, mkAgg, allD, bslD, behind, behind0, takeAt, frzAs, frzA, adoptR, adopt, isD, isD0, trim, List.take, binS, sliceA, bnd, zOk, elems, Nat.reduceBNe, inpl, Nat.reduceLT, Nat.reduceBEq, Nat.reduceSub, Nat.reduceMul, Int.reduceLT, Int.reduceLE, Int.reduceEq, Int.reduceToNat, Int.reduceNeg, thaw, nodup, refsV, adopts, Pk.TY_Itv]
  · obtain ⟨x, hx, hxd, _, hpos⟩ := okI_last s3
    have hz : lastI (ivOf s 3) = x := by show (s.iv.a3.getLast?).getD _ = x; rw [hx]; rfl
    rw [hz]
    have hw1 : IntKind.i64.wrap ((s.iv.a3.length : Int) - 1) = ((s.iv.a3.length - 1 : Nat) : Int) := by rw [wi64 (by have := s3.2.1; omega)]; omega
    have hb1 : (0 ≤ ((s.iv.a3.length - 1 : Nat) : Int)) = True := eq_true (by omega)
    have hb2 : (((s.iv.a3.length - 1 : Nat) : Int) < ((s.iv.a3.length : Nat) : Int)) = True := eq_true (by omega)
    have hu : upd Itv.zeroA 0 (List.map AV.d x.cs) = List.map AV.d x.cs := rfl
    simp (config := {decide := true}) only [c_history_History_interval, hobs, hbox, hc, hw1, hb1, hb2, hxd, hu, List.length_map, Int.toNat_natCast, e0, e1, e2, e3, e4, e5, e6, e7, e8, e9, e10, e11, e12, e13, e14, e15, e16, e17, e18, e19, e20, e21, e22, e23, e24, e25, e26, e27, e28, e29, e30, e31, e32, e33, e34, e35, e36, e37, e38, e39, e40, e41, e42, e43, Q0, Q1, Q2, ln0, ln1, tk0, tk1, hq_push0, hq_push, hq_all, hq_all0, List.all_append, hPa, hSa, k0, k1, k2, k3, k4, b0, b1, b2, b5, b7, b9, b11, Pk.EVL, keepT, enum, ↓reduceIte, ev, act, appT, callee, toDs, toD, loadA, storeA, subA, subD, updA, Eff.on, resA, resVs, resV, lk, finish, frzR, frzVs, frzV, fznR, fzns, fzn, lts, lt, ltO, List.all, pairsOk, indep, reduceCtorEq, Nat.reduceEqDiff, Nat.reduceAdd, Nat.reduceLeDiff, stb, thaws, List.drop, intOfA, binD, binI, unD, mmL, buildA, mkAgg, allD, bslD, behind, behind0, takeAt, frzAs, frzA, adoptR, adopt, isD, isD0, trim, List.take, binS, sliceA, bnd, zOk, elems, Nat.reduceBNe, inpl, Nat.reduceLT, Nat.reduceBEq, Nat.reduceSub, Nat.reduceMul, Int.reduceLT, Int.reduceLE, Int.reduceEq, Int.reduceToNat, Int.reduceNeg, thaw, nodup, refsV, adopts, Pk.TY_Itv]
theorem since_at (s : Hst) (hs : s.ok) (g : Int) (h0 : 0 ≤ g) : evF C F_history_History_Since [.ptr (p + 2) 0, .d (.i .u8 g)] (hq P (hobs p s q) S) = some (.d (.i .u32 (lastI (ivOf s g)).since), hq P (hobs p s q) S) := by
  have hi := interval_at hP hn hPa hSa hg s hs g h0
  have Q0 := hq_rules hP
  have Q1 := hq_sets hP
  have Q2 := hq_tmps hP hn
  have ln0 := @hq_len0 _ _ _ _ hP hn
  have ln1 := @hq_len _ _ _ _ hP hn
  have tk0 := @hq_take _ _ _ _ hP hn
  have tk1 := @hq_take0 _ _ _ _ hP hn
  have hg' := hg
  obtain ⟨k0, k1, k2, k3, k4⟩ := hg
  simp only [ltO] at k0 k1 k2 k3 k4
  have b0 : (p < n) = True := eq_true (by omega)
  have b1 : (p + 1 < n) = True := eq_true (by omega)
  have b2 : (p + 2 < n) = True := eq_true (by omega)
  have b5 : (p + 5 < n) = True := eq_true (by omega)
  have b7 : (p + 7 < n) = True := eq_true (by omega)
  have b9 : (p + 9 < n) = True := eq_true (by omega)
  have b11 : (p + 11 < n) = True := eq_true (by omega)
  have e0 : (n != p) = true := by simp; omega
  have e1 : (p != n) = true := by simp; omega
  have e2 : (n != p + 1) = true := by simp; omega
  have e3 : (p + 1 != n) = true := by simp; omega
  have e4 : (n != p + 2) = true := by simp; omega
  have e5 : (p + 2 != n) = true := by simp; omega
  have e6 : (n != p + 5) = true := by simp; omega
  have e7 : (p + 5 != n) = true := by simp; omega
  have e8 : (n != p + 7) = true := by simp; omega
  have e9 : (p + 7 != n) = true := by simp; omega
  have e10 : (n != p + 9) = true := by simp; omega
  have e11 : (p + 9 != n) = true := by simp; omega
  have e12 : (n != p + 11) = true := by simp; omega
  have e13 : (p + 11 != n) = true := by simp; omega
  have e14 : (n + 1 != p) = true := by simp; omega
  have e15 : (p != n + 1) = true := by simp; omega
  have e16 : (n + 1 != p + 1) = true := by simp; omega
  have e17 : (p + 1 != n + 1) = true := by simp; omega
  have e18 : (n + 1 != p + 2) = true := by simp; omega
  have e19 : (p + 2 != n + 1) = true := by simp; omega
  have e20 : (n + 1 != p + 5) = true := by simp; omega
  have e21 : (p + 5 != n + 1) = true := by simp; omega
  have e22 : (n + 1 != p + 7) = true := by simp; omega
  have e23 : (p + 7 != n + 1) = true := by simp; omega
  have e24 : (n + 1 != p + 9) = true := by simp; omega
  have e25 : (p + 9 != n + 1) = true := by simp; omega
  have e26 : (n + 1 != p + 11) = true := by simp; omega
  have e27 : (p + 11 != n + 1) = true := by simp; omega
  have e28 : (n + 2 != p) = true := by simp; omega
  have e29 : (p != n + 2) = true := by simp; omega
  have e30 : (n + 2 != p + 1) = true := by simp; omega
  have e31 : (p + 1 != n + 2) = true := by simp; omega
  have e32 : (n + 2 != p + 2) = true := by simp; omega
  have e33 : (p + 2 != n + 2) = true := by simp; omega
  have e34 : (n + 2 != p + 5) = true := by simp; omega
  have e35 : (p + 5 != n + 2) = true := by simp; omega
  have e36 : (n + 2 != p + 7) = true := by simp; omega
  have e37 : (p + 7 != n + 2) = true := by simp; omega
  have e38 : (n + 2 != p + 9) = true := by simp; omega
  have e39 : (p + 9 != n + 2) = true := by simp; omega
  have e40 : (n + 2 != p + 11) = true := by simp; omega
  have e41 : (p + 11 != n + 2) = true := by simp; omega
  have e42 : (n + 1 != n) = true := by simp
  have e43 : (n != n + 1) = true := by simp
  rw [evF_code (rfl : C F_history_History_Since = some a_history_History_Since) _ _ rfl]
  have ln : (hq P (hobs p s q) S).length = n := ln0 _ _ _ _ _ _ _ _ _ _ _ _
  have tk : List.take n (hq P (hobs p s q) S) = hq P (hobs p s q) S := tk1 _ _ _ _ _ _ _ _ _ _ _ _
  have le : (n ≤ n) = True := eq_true (Nat.le_refl _)
  generalize hq P (hobs p s q) S = G at *
  simp (config := {decide := true}) only [c_history_History_Since, hi, ln, tk, le, ite_self, Pk.EVL, keepT, enum, ↓reduceIte, ev, act, appT, callee, toDs, toD, loadA, storeA, subA, subD, updA, Eff.on, resA, resVs, resV, lk, finish, frzR, frzVs, frzV, fznR, fzns, fzn, lts, lt, ltO, List.all, pairsOk, indep, reduceCtorEq, Nat.reduceEqDiff, Nat.reduceAdd, Nat.reduceLeDiff, stb, thaws, List.drop, intOfA, binD, binI, unD, mmL, buildA, mkAgg, allD, bslD, behind, behind0, takeAt, frzAs, frzA, adoptR, adopt, isD, isD0, trim, List.take, binS, sliceA, bnd, zOk, elems, Nat.reduceBNe, inpl, Nat.reduceLT, Nat.reduceBEq, Nat.reduceSub, Nat.reduceMul, Int.reduceLT, Int.reduceLE, Int.reduceEq, Int.reduceToNat, Int.reduceNeg, thaw, nodup, refsV, adopts, Pk.TY_Itv]
theorem hacting_at (s : Hst) (hs : s.ok) (g : Int) (h0 : 0 ≤ g) (ha : (lastI (ivOf s g)).acting.length ≤ 1000) : evF C F_history_History_Acting [.ptr (p + 2) 0, .d (.i .u8 g)] (hq P (hobs p s q) S) = some (.d (.sl ((lastI (ivOf s g)).acting.map fun x => .i .i64 x)), hq P (hobs p s q) S) := by
  have hi := interval_at hP hn hPa hSa hg s hs g h0
  have hcl := cloneI_at _ ha
  have Q0 := hq_rules hP
  have Q1 := hq_sets hP
  have Q2 := hq_tmps hP hn
  have ln0 := @hq_len0 _ _ _ _ hP hn
  have ln1 := @hq_len _ _ _ _ hP hn
  have tk0 := @hq_take _ _ _ _ hP hn
  have tk1 := @hq_take0 _ _ _ _ hP hn
  have hg' := hg
  obtain ⟨k0, k1, k2, k3, k4⟩ := hg
  simp only [ltO] at k0 k1 k2 k3 k4
  have b0 : (p < n) = True := eq_true (by omega)
  have b1 : (p + 1 < n) = True := eq_true (by omega)
  have b2 : (p + 2 < n) = True := eq_true (by omega)
  have b5 : (p + 5 < n) = True := eq_true (by omega)
  have b7 : (p + 7 < n) = True := eq_true (by omega)
  have b9 : (p + 9 < n) = True := eq_true (by omega)
  have b11 : (p + 11 < n) = True := eq_true (by omega)
  have e0 : (n != p) = true := by simp; omega
  have e1 : (p != n) = true := by simp; omega
  have e2 : (n != p + 1) = true := by simp; omega
  have e3 : (p + 1 != n) = true := by simp; omega
  have e4 : (n != p + 2) = true := by simp; omega
  have e5 : (p + 2 != n) = true := by simp; omega
  have e6 : (n != p + 5) = true := by simp; omega
  have e7 : (p + 5 != n) = true := by simp; omega
  have e8 : (n != p + 7) = true := by simp; omega
  have e9 : (p + 7 != n) = true := by simp; omega
  have e10 : (n != p + 9) = true := by simp; omega
  have e11 : (p + 9 != n) = true := by simp; omega
  have e12 : (n != p + 11) = true := by simp; omega
  have e13 : (p + 11 != n) = true := by simp; omega
  have e14 : (n + 1 != p) = true := by simp; omega
  have e15 : (p != n + 1) = true := by simp; omega
  have e16 : (n + 1 != p + 1) = true := by simp; omega
  have e17 : (p + 1 != n + 1) = true := by simp; omega
  have e18 : (n + 1 != p + 2) = true := by simp; omega
  have e19 : (p + 2 != n + 1) = true := by simp; omega
  have e20 : (n + 1 != p + 5) = true := by simp; omega
  have e21 : (p + 5 != n + 1) = true := by simp; omega
  have e22 : (n + 1 != p + 7) = true := by simp; omega
  have e23 : (p + 7 != n + 1) = true := by simp; omega
  have e24 : (n + 1 != p + 9) = true := by simp; omega
  have e25 : (p + 9 != n + 1) = true := by simp; omega
  have e26 : (n + 1 != p + 11) = true := by simp; omega
  have e27 : (p + 11 != n + 1) = true := by simp; omega
  have e28 : (n + 2 != p) = true := by simp; omega
  have e29 : (p != n + 2) = true := by simp; omega
  have e30 : (n + 2 != p + 1) = true := by simp; omega
  have e31 : (p + 1 != n + 2) = true := by simp; omega
  have e32 : (n + 2 != p + 2) = true := by simp; omega
  have e33 : (p + 2 != n + 2) = true := by simp; omega
  have e34 : (n + 2 != p + 5) = true := by simp; omega
  have e35 : (p + 5 != n + 2) = true := by simp; omega
  have e36 : (n + 2 != p + 7) = true := by simp; omega
  have e37 : (p + 7 != n + 2) = true := by simp; omega
  have e38 : (n + 2 != p + 9) = true := by simp; omega
  have e39 : (p + 9 != n + 2) = true := by simp; omega
  have e40 : (n + 2 != p + 11) = true := by simp; omega
  have e41 : (p + 11 != n + 2) = true := by simp; omega
  have e42 : (n + 1 != n) = true := by simp
  have e43 : (n != n + 1) = true := by simp
  rw [evF_code (rfl : C F_history_History_Acting = some a_history_History_Acting) _ _ rfl]
  have ln : (hq P (hobs p s q) S).length = n := ln0 _ _ _ _ _ _ _ _ _ _ _ _
  have tk : List.take n (hq P (hobs p s q) S) = hq P (hobs p s q) S := tk1 _ _ _ _ _ _ _ _ _ _ _ _
  have le : (n ≤ n) = True := eq_true (Nat.le_refl _)
  generalize hq P (hobs p s q) S = G at *
  simp (config := {decide := true}) only [c_history_History_Acting, hi, hcl, ln, tk, le, ite_self, Pk.EVL, keepT, enum, ↓reduceIte, ev, act, appT, callee, toDs, toD, loadA, storeA, subA, subD, updA, Eff.on, resA, resVs, resV, lk, finish, frzR, frzVs, frzV, fznR, fzns, fzn, lts, lt, ltO, List.all, pairsOk, indep, reduceCtorEq, Nat.reduceEqDiff, Nat.reduceAdd, Nat.reduceLeDiff, stb, thaws, List.drop, intOfA, binD, binI, unD, mmL, buildA, mkAgg, allD, bslD, behind, behind0, takeAt, frzAs, frzA, adoptR, adopt, isD, isD0, trim, List.take, binS, sliceA, bnd, zOk, elems, Nat.reduceBNe, inpl, Nat.reduceLT, Nat.reduceBEq, Nat.reduceSub, Nat.reduceMul, Int.reduceLT, Int.reduceLE, Int.reduceEq, Int.reduceToNat, Int.reduceNeg, thaw, nodup, refsV, adopts, Pk.TY_Itv]
omit hg in
theorem intervals_loop (a0 a1 a2 a3 a4 a5 a6 a7 a8 a9 a10 a11 : Ob) (hL : List.all [a0, a1, a2, a3, a4, a5, a6, a7, a8, a9, a10, a11] (ltO n) = true) (l : List Itv) (hl : l.length ≤ 1000) (hla : ∀ x ∈ l, x.acting.length ≤ 1000) (T : Tm) (h5 : lk T 5 = .view n l.length 2 0 l.length) (h17 : lk T 17 = .view n l.length 2 0 l.length) (h18 : lk T 18 = .d (.i .i64 (l.length : Nat))) (h19 : lk T 19 = .d (.i .i64 0)) :
    ∃ e T' H', evL C K_history_History_Intervals_0 l_history_History_Intervals_0 (n + 1) T (hq P [a0, a1, a2, a3, a4, a5, a6, a7, a8, a9, a10, a11] (S ++ [.arr (l.map Itv.d) true])) = some (e, T', H') ∧ e = .exit 0 ∧ lk T' 5 = .view n l.length 2 0 l.length ∧ H' = hq P [a0, a1, a2, a3, a4, a5, a6, a7, a8, a9, a10, a11] (S ++ [.arr (l.map Itv.d) true]) := by
  have Q2 := hq_tmps hP hn
  have ln1 := @hq_len _ _ _ _ hP hn
  have hn1 : p + 12 + (S ++ [Ob.arr (l.map Itv.d) true]).length = n + 1 := by simp; omega
  have tk2 := @hq_take _ _ _ _ hP hn1
  have hPa1 := all_more hPa
  have hSa1 := all_more hSa
  have hL1 := all_more hL
  have tkb : ∀ X : Heap, List.take (n + 1) (hq P [a0, a1, a2, a3, a4, a5, a6, a7, a8, a9, a10, a11] (S ++ (Ob.arr (l.map Itv.d) true :: X))) = hq P [a0, a1, a2, a3, a4, a5, a6, a7, a8, a9, a10, a11] (S ++ [Ob.arr (l.map Itv.d) true]) := by
    intro X
    have := tk2 a0 a1 a2 a3 a4 a5 a6 a7 a8 a9 a10 a11 X
    rwa [List.append_assoc, List.singleton_append] at this
  have hall : ∀ X : Heap, (hq P [a0, a1, a2, a3, a4, a5, a6, a7, a8, a9, a10, a11] (S ++ X)).all (ltO (n + 1)) = X.all (ltO (n + 1)) := by
    intro X
    rw [hq_all, hPa1, hL1, hSa1, Bool.true_and, Bool.true_and, Bool.true_and]
  have bn : (n < n + 1) = True := eq_true (by omega)
  have en : (n + 1 != n) = true := by simp
  have G0 : ∀ X : Heap, (hq P [a0, a1, a2, a3, a4, a5, a6, a7, a8, a9, a10, a11] (S ++ X))[n]? = X[0]? := fun X => Q2.1 a0 a1 a2 a3 a4 a5 a6 a7 a8 a9 a10 a11 X
  have G1 : ∀ X : Heap, (hq P [a0, a1, a2, a3, a4, a5, a6, a7, a8, a9, a10, a11] (S ++ X))[n + 1]? = X[1]? := fun X => Q2.2.1 a0 a1 a2 a3 a4 a5 a6 a7 a8 a9 a10 a11 X
  have G2 : ∀ (X : Heap) (y : Ob), (hq P [a0, a1, a2, a3, a4, a5, a6, a7, a8, a9, a10, a11] (S ++ X)).set n y = hq P [a0, a1, a2, a3, a4, a5, a6, a7, a8, a9, a10, a11] (S ++ X.set 0 y) := fun X y => Q2.2.2.2.2.1 a0 a1 a2 a3 a4 a5 a6 a7 a8 a9 a10 a11 X y
  have G3 : ∀ (X : Heap) (y : Ob), (hq P [a0, a1, a2, a3, a4, a5, a6, a7, a8, a9, a10, a11] (S ++ X)).set (n + 1) y = hq P [a0, a1, a2, a3, a4, a5, a6, a7, a8, a9, a10, a11] (S ++ X.set 1 y) := fun X y => Q2.2.2.2.2.2.1 a0 a1 a2 a3 a4 a5 a6 a7 a8 a9 a10 a11 X y
  have G4 : ∀ X : Heap, (hq P [a0, a1, a2, a3, a4, a5, a6, a7, a8, a9, a10, a11] (S ++ X)).length = n + X.length := fun X => ln1 a0 a1 a2 a3 a4 a5 a6 a7 a8 a9 a10 a11 X
  refine loop_run (fun i T H => lk T 5 = .view n l.length 2 0 l.length ∧ lk T 17 = .view n l.length 2 0 l.length ∧ lk T 18 = .d (.i .i64 (l.length : Nat)) ∧ lk T 19 = .d (.i .i64 (i : Nat)) ∧ ∃ J, H = hq P [a0, a1, a2, a3, a4, a5, a6, a7, a8, a9, a10, a11] (S ++ (.arr (l.map Itv.d) true :: J)))
    (fun e T H => e = .exit 0 ∧ lk T 5 = .view n l.length 2 0 l.length ∧ H = hq P [a0, a1, a2, a3, a4, a5, a6, a7, a8, a9, a10, a11] (S ++ [.arr (l.map Itv.d) true])) l.length ?_ ?_ l.length 0 _ _ (by omega) ⟨h5, h17, h18, h19, [], rfl⟩
  · clear h5 h17 h18 h19
    rintro i T H hi ⟨h5, h17, h18, h19, J, rfl⟩
    obtain ⟨x, hx⟩ : ∃ x, l[i]? = some x := ⟨l[i]'hi, List.getElem?_eq_getElem _⟩
    have hxd := list_idx Itv.d hx
    have hcl := cloneI_at x.acting (hla x (List.mem_of_getElem? hx))
    have hd : decide ((i : Int) < ((l.length : Nat) : Int)) = true := by simp; omega
    have hd' : ((i : Int) < ((l.length : Nat) : Int)) = True := eq_true (by omega)
    have hw : IntKind.i64.wrap ((i : Int) + 1) = ((i + 1 : Nat) : Int) := wi64 (by omega)
    have b0 : (0 ≤ (i : Int)) = True := by simp
    have hset : (l.map Itv.d).set i (.agg x.cs) = l.map Itv.d := by
      refine List.ext_getElem? fun j => ?_
      rw [List.getElem?_set]
      split
      · rename_i h
        subst h
        rw [if_pos (by rw [List.length_map]; exact hi), hxd]
        rfl
      · rfl
    have hu : upd Itv.zeroA 0 (List.map AV.d x.cs) = List.map AV.d x.cs := rfl
    generalize [a0, a1, a2, a3, a4, a5, a6, a7, a8, a9, a10, a11] = L12 at *
    simp (config := {decide := true}) only [K_history_History_Intervals_0, l_history_History_Intervals_0, h5, h17, h18, h19, hxd, hcl, hd, hd', hw, b0, hset, hu, tkb, hall, bn, en, G0, G1, G2, G3, G4, hq_push, List.length_map, Int.toNat_natCast, Pk.EVL, keepT, enum, ↓reduceIte, ev, act, appT, callee, toDs, toD, loadA, storeA, subA, subD, updA, Eff.on, resA, resVs, resV, lk, finish, frzR, frzVs, frzV, fznR, fzns, fzn, lts, lt, ltO, List.all, pairsOk, indep, reduceCtorEq, Nat.reduceEqDiff, Nat.reduceAdd, Nat.reduceLeDiff, stb, thaws, List.drop, intOfA, binD, binI, unD, mmL, buildA, mkAgg, allD, bslD, behind, behind0, takeAt, frzAs, frzA, adoptR, adopt, isD, isD0, trim, List.take, binS, sliceA, bnd, zOk, elems, Nat.reduceBNe, inpl, Nat.reduceLT, Nat.reduceBEq, Nat.reduceSub, Nat.reduceMul, Int.reduceLT, Int.reduceLE, Int.reduceEq, Int.reduceToNat, Int.reduceNeg, thaw, nodup, refsV, adopts, Pk.TY_Itv]
    refine ⟨_, _, _, rfl, ?_⟩
    exact .inl ⟨rfl, rfl, rfl, rfl, rfl, _, rfl⟩
  · clear h5 h17 h18 h19
    rintro T H ⟨h5, h17, h18, h19, J, rfl⟩
    have hd : decide (((l.length : Nat) : Int) < ((l.length : Nat) : Int)) = false := by simp
    simp (config := {decide := true}) only [K_history_History_Intervals_0, l_history_History_Intervals_0, h5, h17, h18, h19, hd, tkb, hall, bn, Pk.EVL, keepT, enum, ↓reduceIte, ev, act, appT, callee, toDs, toD, loadA, storeA, subA, subD, updA, Eff.on, resA, resVs, resV, lk, finish, frzR, frzVs, frzV, fznR, fzns, fzn, lts, lt, ltO, List.all, pairsOk, indep, reduceCtorEq, Nat.reduceEqDiff, Nat.reduceAdd, Nat.reduceLeDiff, stb, thaws, List.drop, intOfA, binD, binI, unD, mmL, buildA, mkAgg, allD, bslD, behind, behind0, takeAt, frzAs, frzA, adoptR, adopt, isD, isD0, trim, List.take, binS, sliceA, bnd, zOk, elems, Nat.reduceBNe, inpl, Nat.reduceLT, Nat.reduceBEq, Nat.reduceSub, Nat.reduceMul, Int.reduceLT, Int.reduceLE, Int.reduceEq, Int.reduceToNat, Int.reduceNeg, thaw, nodup, refsV, adopts, Pk.TY_Itv]
    exact ⟨_, _, _, rfl, by simp, rfl, rfl, rfl⟩
theorem hintervals_at (s : Hst) (hs : s.ok) (g : Int) (h0 : 0 ≤ g) : evF C F_history_History_Intervals [.ptr (p + 2) 0, .d (.i .u8 g)] (hq P (hobs p s q) S) = some (.d (.sl ((ivOf s g).map Itv.d)), hq P (hobs p s (q.frz g)) S) := by
  have Q0 := hq_rules hP
  have Q1 := hq_sets hP
  have Q2 := hq_tmps hP hn
  have ln0 := @hq_len0 _ _ _ _ hP hn
  have ln1 := @hq_len _ _ _ _ hP hn
  have tk0 := @hq_take _ _ _ _ hP hn
  have tk1 := @hq_take0 _ _ _ _ hP hn
  have hg' := hg
  obtain ⟨k0, k1, k2, k3, k4⟩ := hg
  simp only [ltO] at k0 k1 k2 k3 k4
  have b0 : (p < n) = True := eq_true (by omega)
  have b1 : (p + 1 < n) = True := eq_true (by omega)
  have b2 : (p + 2 < n) = True := eq_true (by omega)
  have b5 : (p + 5 < n) = True := eq_true (by omega)
  have b7 : (p + 7 < n) = True := eq_true (by omega)
  have b9 : (p + 9 < n) = True := eq_true (by omega)
  have b11 : (p + 11 < n) = True := eq_true (by omega)
  have e0 : (n != p) = true := by simp; omega
  have e1 : (p != n) = true := by simp; omega
  have e2 : (n != p + 1) = true := by simp; omega
  have e3 : (p + 1 != n) = true := by simp; omega
  have e4 : (n != p + 2) = true := by simp; omega
  have e5 : (p + 2 != n) = true := by simp; omega
  have e6 : (n != p + 5) = true := by simp; omega
  have e7 : (p + 5 != n) = true := by simp; omega
  have e8 : (n != p + 7) = true := by simp; omega
  have e9 : (p + 7 != n) = true := by simp; omega
  have e10 : (n != p + 9) = true := by simp; omega
  have e11 : (p + 9 != n) = true := by simp; omega
  have e12 : (n != p + 11) = true := by simp; omega
  have e13 : (p + 11 != n) = true := by simp; omega
  have e14 : (n + 1 != p) = true := by simp; omega
  have e15 : (p != n + 1) = true := by simp; omega
  have e16 : (n + 1 != p + 1) = true := by simp; omega
  have e17 : (p + 1 != n + 1) = true := by simp; omega
  have e18 : (n + 1 != p + 2) = true := by simp; omega
  have e19 : (p + 2 != n + 1) = true := by simp; omega
  have e20 : (n + 1 != p + 5) = true := by simp; omega
  have e21 : (p + 5 != n + 1) = true := by simp; omega
  have e22 : (n + 1 != p + 7) = true := by simp; omega
  have e23 : (p + 7 != n + 1) = true := by simp; omega
  have e24 : (n + 1 != p + 9) = true := by simp; omega
  have e25 : (p + 9 != n + 1) = true := by simp; omega
  have e26 : (n + 1 != p + 11) = true := by simp; omega
  have e27 : (p + 11 != n + 1) = true := by simp; omega
  have e28 : (n + 2 != p) = true := by simp; omega
  have e29 : (p != n + 2) = true := by simp; omega
  have e30 : (n + 2 != p + 1) = true := by simp; omega
  have e31 : (p + 1 != n + 2) = true := by simp; omega
  have e32 : (n + 2 != p + 2) = true := by simp; omega
  have e33 : (p + 2 != n + 2) = true := by simp; omega
  have e34 : (n + 2 != p + 5) = true := by simp; omega
  have e35 : (p + 5 != n + 2) = true := by simp; omega
  have e36 : (n + 2 != p + 7) = true := by simp; omega
  have e37 : (p + 7 != n + 2) = true := by simp; omega
  have e38 : (n + 2 != p + 9) = true := by simp; omega
  have e39 : (p + 9 != n + 2) = true := by simp; omega
  have e40 : (n + 2 != p + 11) = true := by simp; omega
  have e41 : (p + 11 != n + 2) = true := by simp; omega
  have e42 : (n + 1 != n) = true := by simp
  have e43 : (n != n + 1) = true := by simp
  obtain ⟨s0, s1, s2, s3⟩ := hs
  rw [evF_code (rfl : C F_history_History_Intervals = some a_history_History_Intervals) _ _ rfl]
  by_cases c : g ≥ 4
  · have hc := decide_eq_true c
    have hz : ivOf s g = [] := by
      unfold ivOf
      rw [if_neg (by omega), if_neg (by omega), if_neg (by omega), if_neg (by omega)]
    have hz2 : q.frz g = q := by
      unfold Grb.frz
      rw [if_neg (by omega), if_neg (by omega), if_neg (by omega), if_neg (by omega)]
    rw [hz, hz2]
    simp (config := {decide := true}) only [c_history_History_Intervals, hobs, hbox, hc, e0, e1, e2, e3, e4, e5, e6, e7, e8, e9, e10, e11, e12, e13, e14, e15, e16, e17, e18, e19, e20, e21, e22, e23, e24, e25, e26, e27, e28, e29, e30, e31, e32, e33, e34, e35, e36, e37, e38, e39, e40, e41, e42, e43, Q0, Q1, Q2, ln0, ln1, tk0, tk1, hq_push0, hq_push, hq_all, hq_all0, List.all_append, hPa, hSa, k0, k1, k2, k3, k4, b0, b1, b2, b5, b7, b9, b11, Pk.EVL, keepT, enum, ↓reduceIte, ev, act, appT, callee, toDs, toD, loadA, storeA, subA, subD, updA, Eff.on, resA, resVs, resV, lk, finish, frzR, frzVs, frzV, fznR, fzns, fzn, lts, lt, ltO, List.all, pairsOk, indep, reduceCtorEq, Nat.reduceEqDiff, Nat.reduceAdd, Nat.reduceLeDiff, stb, thaws, List.drop, intOfA, binD, binI, unD, mmL, buildA, mkAgg, allD, bslD, behind, behind0, takeAt, frzAs, frzA, adoptR, adopt, isD, isD0, trim, List.take, binS, sliceA, bnd, zOk, elems, Nat.reduceBNe, inpl, Nat.reduceLT, Nat.reduceBEq, Nat.reduceSub, Nat.reduceMul, Int.reduceLT, Int.reduceLE, Int.reduceEq, Int.reduceToNat, Int.reduceNeg, thaw, nodup, refsV, adopts, Pk.TY_Itv]
  have hc := decide_eq_false c
  obtain rfl | rfl | rfl | rfl : g = 0 ∨ g = 1 ∨ g = 2 ∨ g = 3 := by omega
  · have hlp := intervals_loop hP hn hPa hSa (Ob.map .u32 s.ms) (Ob.map .u32 s.xs) (Ob.box (hbox p s)) (q.g0) (q.g1) (Ob.arr (s.iv.a0.map Itv.d) false) (q.g2) (Ob.arr (s.iv.a1.map Itv.d) q.w1) (q.g3) (Ob.arr (s.iv.a2.map Itv.d) q.w2) (q.g4) (Ob.arr (s.iv.a3.map Itv.d) q.w3) (by simp (config := {decide := true}) only [hbox, Q0, Q1, Q2, ln0, ln1, tk0, tk1, hq_push0, hq_push, hq_all, hq_all0, List.all_append, hPa, hSa, k0, k1, k2, k3, k4, b0, b1, b2, b5, b7, b9, b11, Pk.EVL, keepT, enum, ↓reduceIte, ev, act, appT, callee, toDs, toD, loadA, storeA, subA, subD, updA, Eff.on, resA, resVs, resV, lk, finish, frzR, frzVs, frzV, fznR, fzns, fzn, lts, lt, ltO, List.all, pairsOk, indep, reduceCtorEq, Nat.reduceEqDiff, Nat.reduceAdd, Nat.reduceLeDiff, stb, thaws, List.drop, intOfA, binD, binI, unD, mmL, buildA, mkAgg, allD, bslD, behind, behind0, takeAt, frzAs, frzA, adoptR, adopt, isD, isD0, trim, List.take, binS, sliceA, bnd, zOk, elems, Nat.reduceBNe, inpl, Nat.reduceLT, Nat.reduceBEq, Nat.reduceSub, Nat.reduceMul, Int.reduceLT, Int.reduceLE, Int.reduceEq, Int.reduceToNat, Int.reduceNeg, thaw, nodup, refsV, adopts]) s.iv.a0 s0.2.1 (fun x hx => by have := s0.2.2 x hx; omega)
    have hcv := cloneV_at s.iv.a0 s0.2.1
    have hsub : subL (s.iv.a0.map Itv.d) 0 s.iv.a0.length = s.iv.a0.map Itv.d := by unfold subL; rw [List.drop_zero]; exact List.take_of_length_le (by simp)
    have htk : List.take s.iv.a0.length (s.iv.a0.map Itv.d) = s.iv.a0.map Itv.d := List.take_of_length_le (by simp)
    have hw0 : IntKind.i64.wrap 0 = 0 := by decide
    simp only [hbox] at hlp
    simp (config := {decide := true}) only [c_history_History_Intervals, hobs, hbox, hc, hcv, hsub, htk, hw0, thaws, List.length_map, Nat.le_refl, e0, e1, e2, e3, e4, e5, e6, e7, e8, e9, e10, e11, e12, e13, e14, e15, e16, e17, e18, e19, e20, e21, e22, e23, e24, e25, e26, e27, e28, e29, e30, e31, e32, e33, e34, e35, e36, e37, e38, e39, e40, e41, e42, e43, Q0, Q1, Q2, ln0, ln1, tk0, tk1, hq_push0, hq_push, hq_all, hq_all0, List.all_append, hPa, hSa, k0, k1, k2, k3, k4, b0, b1, b2, b5, b7, b9, b11, Pk.EVL, keepT, enum, ↓reduceIte, ev, act, appT, callee, toDs, toD, loadA, storeA, subA, subD, updA, Eff.on, resA, resVs, resV, lk, finish, frzR, frzVs, frzV, fznR, fzns, fzn, lts, lt, ltO, List.all, pairsOk, indep, reduceCtorEq, Nat.reduceEqDiff, Nat.reduceAdd, Nat.reduceLeDiff, stb, thaws, List.drop, intOfA, binD, binI, unD, mmL, buildA, mkAgg, allD, bslD, behind, behind0, takeAt, frzAs, frzA, adoptR, adopt, isD, isD0, trim, List.take, binS, sliceA, bnd, zOk, elems, Nat.reduceBNe, inpl, Nat.reduceLT, Nat.reduceBEq, Nat.reduceSub, Nat.reduceMul, Int.reduceLT, Int.reduceLE, Int.reduceEq, Int.reduceToNat, Int.reduceNeg, thaw, nodup, refsV, adopts, Pk.TY_Itv]
    simp only [Option.bind_assoc]
    refine bind_run (hlp _ rfl rfl rfl rfl) ?_
    rintro e T' H' ⟨rfl, h5, rfl⟩
    simp (config := {decide := true}) only [h5, hsub, List.length_map, e0, e1, e2, e3, e4, e5, e6, e7, e8, e9, e10, e11, e12, e13, e14, e15, e16, e17, e18, e19, e20, e21, e22, e23, e24, e25, e26, e27, e28, e29, e30, e31, e32, e33, e34, e35, e36, e37, e38, e39, e40, e41, e42, e43, Q0, Q1, Q2, ln0, ln1, tk0, tk1, hq_push0, hq_push, hq_all, hq_all0, List.all_append, hPa, hSa, k0, k1, k2, k3, k4, b0, b1, b2, b5, b7, b9, b11, Pk.EVL, keepT, enum, ↓reduceIte, ev, act, appT, callee, toDs, toD, loadA, storeA, subA, subD, updA, Eff.on, resA, resVs, resV, lk, finish, frzR, frzVs, frzV, fznR, fzns, fzn, lts, lt, ltO, List.all, pairsOk, indep, reduceCtorEq, Nat.reduceEqDiff, Nat.reduceAdd, Nat.reduceLeDiff, stb, thaws, List.drop, intOfA, binD, binI, unD, mmL, buildA, mkAgg, allD, bslD, behind, behind0, takeAt, frzAs, frzA, adoptR, adopt, isD, isD0, trim, List.take, binS, sliceA, bnd, zOk, elems, Nat.reduceBNe, inpl, Nat.reduceLT, Nat.reduceBEq, Nat.reduceSub, Nat.reduceMul, Int.reduceLT, Int.reduceLE, Int.reduceEq, Int.reduceToNat, Int.reduceNeg, thaw, nodup, refsV, adopts, Pk.TY_Itv]
    rfl
  · have hlp := intervals_loop hP hn hPa hSa (Ob.map .u32 s.ms) (Ob.map .u32 s.xs) (Ob.box (hbox p s)) (q.g0) (q.g1) (Ob.arr (s.iv.a0.map Itv.d) q.w0) (q.g2) (Ob.arr (s.iv.a1.map Itv.d) false) (q.g3) (Ob.arr (s.iv.a2.map Itv.d) q.w2) (q.g4) (Ob.arr (s.iv.a3.map Itv.d) q.w3) (by simp (config := {decide := true}) only [hbox, Q0, Q1, Q2, ln0, ln1, tk0, tk1, hq_push0, hq_push, hq_all, hq_all0, List.all_append, hPa, hSa, k0, k1, k2, k3, k4, b0, b1, b2, b5, b7, b9, b11, Pk.EVL, keepT, enum, ↓reduceIte, ev, act, appT, callee, toDs, toD, loadA, storeA, subA, subD, updA, Eff.on, resA, resVs, resV, lk, finish, frzR, frzVs, frzV, fznR, fzns, fzn, lts, lt, ltO, List.all, pairsOk, indep, reduceCtorEq, Nat.reduceEqDiff, Nat.reduceAdd, Nat.reduceLeDiff, stb, thaws, List.drop, intOfA, binD, binI, unD, mmL, buildA, mkAgg, allD, bslD, behind, behind0, takeAt, frzAs, frzA, adoptR, adopt, isD, isD0, trim, List.take, binS, sliceA, bnd, zOk, elems, Nat.reduceBNe, inpl, Nat.reduceLT, Nat.reduceBEq, Nat.reduceSub, Nat.reduceMul, Int.reduceLT, Int.reduceLE, Int.reduceEq, Int.reduceToNat, Int.reduceNeg, thaw, nodup, refsV, adopts]) s.iv.a1 s1.2.1 (fun x hx => by have := s1.2.2 x hx; omega)
    have hcv := cloneV_at s.iv.a1 s1.2.1
    have hsub : subL (s.iv.a1.map Itv.d) 0 s.iv.a1.length = s.iv.a1.map Itv.d := by unfold subL; rw [List.drop_zero]; exact List.take_of_length_le (by simp)
    have htk : List.take s.iv.a1.length (s.iv.a1.map Itv.d) = s.iv.a1.map Itv.d := List.take_of_length_le (by simp)
    have hw0 : IntKind.i64.wrap 0 = 0 := by decide
    simp only [hbox] at hlp
    simp (config := {decide := true}) only [c_history_History_Intervals, hobs, hbox, hc, hcv, hsub, htk, hw0, thaws, List.length_map, Nat.le_refl, e0, e1, e2, e3, e4, e5, e6, e7, e8, e9, e10, e11, e12, e13, e14, e15, e16, e17, e18, e19, e20, e21, e22, e23, e24, e25, e26, e27, e28, e29, e30, e31, e32, e33, e34, e35, e36, e37, e38, e39, e40, e41, e42, e43, Q0, Q1, Q2, ln0, ln1, tk0, tk1, hq_push0, hq_push, hq_all, hq_all0, List.all_append, hPa, hSa, k0, k1, k2, k3, k4, b0, b1, b2, b5, b7, b9, b11, Pk.EVL, keepT, enum, ↓reduceIte, ev, act, appT, callee, toDs, toD, loadA, storeA, subA, subD, updA, Eff.on, resA, resVs, resV, lk, finish, frzR, frzVs, frzV, fznR, fzns, fzn, lts, lt, ltO, List.all, pairsOk, indep, reduceCtorEq, Nat.reduceEqDiff, Nat.reduceAdd, Nat.reduceLeDiff, stb, thaws, List.drop, intOfA, binD, binI, unD, mmL, buildA, mkAgg, allD, bslD, behind, behind0, takeAt, frzAs, frzA, adoptR, adopt, isD, isD0, trim, List.take, binS, sliceA, bnd, zOk, elems, Nat.reduceBNe, inpl, Nat.reduceLT, Nat.reduceBEq, Nat.reduceSub, Nat.reduceMul, Int.reduceLT, Int.reduceLE, Int.reduceEq, Int.reduceToNat, Int.reduceNeg, thaw, nodup, refsV, adopts, Pk.TY_Itv]
    simp only [Option.bind_assoc]
    refine bind_run (hlp _ rfl rfl rfl rfl) ?_
    rintro e T' H' ⟨rfl, h5, rfl⟩
    simp (config := {decide := true}) only [h5, hsub, List.length_map, e0, e1, e2, e3, e4, e5, e6, e7, e8, e9, e10, e11, e12, e13, e14, e15, e16, e17, e18, e19, e20, e21, e22, e23, e24, e25, e26, e27, e28, e29, e30, e31, e32, e33, e34, e35, e36, e37, e38, e39, e40, e41, e42, e43, Q0, Q1, Q2, ln0, ln1, tk0, tk1, hq_push0, hq_push, hq_all, hq_all0, List.all_append, hPa, hSa, k0, k1, k2, k3, k4, b0, b1, b2, b5, b7, b9, b11, Pk.EVL, keepT, enum, ↓reduceIte, ev, act, appT, callee, toDs, toD, loadA, storeA, subA, subD, updA, Eff.on, resA, resVs, resV, lk, finish, frzR, frzVs, frzV, fznR, fzns, fzn, lts, lt, ltO, List.all, pairsOk, indep, reduceCtorEq, Nat.reduceEqDiff, Nat.reduceAdd, Nat.reduceLeDiff, stb, thaws, List.drop, intOfA, binD, binI, unD, mmL, buildA, mkAgg, allD, bslD, behind, behind0, takeAt, frzAs, frzA, adoptR, adopt, isD, isD0, trim, List.take, binS, sliceA, bnd, zOk, elems, Nat.reduceBNe, inpl, Nat.reduceLT, Nat.reduceBEq, Nat.reduceSub, Nat.reduceMul, Int.reduceLT, Int.reduceLE, Int.reduceEq, Int.reduceToNat, Int.reduceNeg, thaw, nodup, refsV, adopts, Pk.TY_Itv]
    rfl
  · have hlp := intervals_loop hP hn hPa hSa (Ob.map .u32 s.ms) (Ob.map .u32 s.xs) (Ob.box (hbox p s)) (q.g0) (q.g1) (Ob.arr (s.iv.a0.map Itv.d) q.w0) (q.g2) (Ob.arr (s.iv.a1.map Itv.d) q.w1) (q.g3) (Ob.arr (s.iv.a2.map Itv.d) false) (q.g4) (Ob.arr (s.iv.a3.map Itv.d) q.w3) (by simp (config := {decide := true}) only [hbox, Q0, Q1, Q2, ln0, ln1, tk0, tk1, hq_push0, hq_push, hq_all, hq_all0, List.all_append, hPa, hSa, k0, k1, k2, k3, k4, b0, b1, b2, b5, b7, b9, b11, Pk.EVL, keepT, enum, ↓reduceIte, ev, act, appT, callee, toDs, toD, loadA, storeA, subA, subD, updA, Eff.on, resA, resVs, resV, lk, finish, frzR, frzVs, frzV, fznR, fzns, fzn, lts, lt, ltO, List.all, pairsOk, indep, reduceCtorEq, Nat.reduceEqDiff, Nat.reduceAdd, Nat.reduceLeDiff, stb, thaws, List.drop, intOfA, binD, binI, unD, mmL, buildA, mkAgg, allD, bslD, behind, behind0, takeAt, frzAs, frzA, adoptR, adopt, isD, isD0, trim, List.take, binS, sliceA, bnd, zOk, elems, Nat.reduceBNe, inpl, Nat.reduceLT, Nat.reduceBEq, Nat.reduceSub, Nat.reduceMul, Int.reduceLT, Int.reduceLE, Int.reduceEq, Int.reduceToNat, Int.reduceNeg, thaw, nodup, refsV, adopts]) s.iv.a2 s2.2.1 (fun x hx => by have := s2.2.2 x hx; omega)
    have hcv := cloneV_at s.iv.a2 s2.2.1
    have hsub : subL (s.iv.a2.map Itv.d) 0 s.iv.a2.length = s.iv.a2.map Itv.d := by unfold subL; rw [List.drop_zero]; exact List.take_of_length_le (by simp)
    have htk : List.take s.iv.a2.length (s.iv.a2.map Itv.d) = s.iv.a2.map Itv.d := List.take_of_length_le (by simp)
    have hw0 : IntKind.i64.wrap 0 = 0 := by decide
    simp only [hbox] at hlp
    simp (config := {decide := true}) only [c_history_History_Intervals, hobs, hbox, hc, hcv, hsub, htk, hw0, thaws, List.length_map, Nat.le_refl, e0, e1, e2, e3, e4, e5, e6, e7, e8, e9, e10, e11, e12, e13, e14, e15, e16, e17, e18, e19, e20, e21, e22, e23, e24, e25, e26, e27, e28, e29, e30, e31, e32, e33, e34, e35, e36, e37, e38, e39, e40, e41, e42, e43, Q0, Q1, Q2, ln0, ln1, tk0, tk1, hq_push0, hq_push, hq_all, hq_all0, List.all_append, hPa, hSa, k0, k1, k2, k3, k4, b0, b1, b2, b5, b7, b9, b11, Pk.EVL, keepT, enum, ↓reduceIte, ev, act, appT, callee, toDs, toD, loadA, storeA, subA, subD, updA, Eff.on, resA, resVs, resV, lk, finish, frzR, frzVs, frzV, fznR, fzns, fzn, lts, lt, ltO, List.all, pairsOk, indep, reduceCtorEq, Nat.reduceEqDiff, Nat.reduceAdd, Nat.reduceLeDiff, stb, thaws, List.drop, intOfA, binD, binI, unD, mmL, buildA, mkAgg, allD, bslD, behind, behind0, takeAt, frzAs, frzA, adoptR, adopt, isD, isD0, trim, List.take, binS, sliceA, bnd, zOk, elems, Nat.reduceBNe, inpl, Nat.reduceLT, Nat.reduceBEq, Nat.reduceSub, Nat.reduceMul, Int.reduceLT, Int.reduceLE, Int.reduceEq, Int.reduceToNat, Int.reduceNeg, thaw, nodup, refsV, adopts, Pk.TY_Itv]
    simp only [Option.bind_assoc]
    refine bind_run (hlp _ rfl rfl rfl rfl) ?_
    rintro e T' H' ⟨rfl, h5, rfl⟩
    simp (config := {decide := true}) only [h5, hsub, List.length_map, e0, e1, e2, e3, e4, e5, e6, e7, e8, e9, e10, e11, e12, e13, e14, e15, e16, e17, e18, e19, e20, e21, e22, e23, e24, e25, e26, e27, e28, e29, e30, e31, e32, e33, e34, e35, e36, e37, e38, e39, e40, e41, e42, e43, Q0, Q1, Q2, ln0, ln1, tk0, tk1, hq_push0, hq_push, hq_all, hq_all0, List.all_append, hPa, hSa, k0, k1, k2, k3, k4, b0, b1, b2, b5, b7, b9, b11, Pk.EVL, keepT, enum, ↓reduceIte, ev, act, appT, callee, toDs, toD, loadA, storeA, subA, subD, updA, Eff.on, resA, resVs, resV, lk, finish, frzR, frzVs, frzV, fznR, fzns, fzn, lts, lt, ltO, List.all, pairsOk, indep, reduceCtorEq, Nat.reduceEqDiff, Nat.reduceAdd, Nat.reduceLeDiff, stb, thaws, List.drop, intOfA, binD, binI, unD, mmL, buildA, mkAgg, allD, bslD, behind, behind0, takeAt, frzAs, frzA, adoptR, adopt, isD, isD0, trim, List.take, binS, sliceA, bnd, zOk, elems, Nat.reduceBNe, inpl, Nat.reduceLT, Nat.reduceBEq, Nat.reduceSub, Nat.reduceMul, Int.reduceLT, Int.reduceLE, Int.reduceEq, Int.reduceToNat, Int.reduceNeg, thaw, nodup, refsV, adopts, Pk.TY_Itv]
    rfl
  · have hlp := intervals_loop hP hn hPa hSa (Ob.map .u32 s.ms) (Ob.map .u32 s.xs) (Ob.box (hbox p s)) (q.g0) (q.g1) (Ob.arr (s.iv.a0.map Itv.d) q.w0) (q.g2) (Ob.arr (s.iv.a1.map Itv.d) q.w1) (q.g3) (Ob.arr (s.iv.a2.map Itv.d) q.w2) (q.g4) (Ob.arr (s.iv.a3.map Itv.d) false) (by simp (config := {decide := true}) only [hbox, Q0, Q1, Q2, ln0, ln1, tk0, tk1, hq_push0, hq_push, hq_all, hq_all0, List.all_append, hPa, hSa, k0, k1, k2, k3, k4, b0, b1, b2, b5, b7, b9, b11, Pk.EVL, keepT, enum, ↓reduceIte, ev, act, appT, callee, toDs, toD, loadA, storeA, subA, subD, updA, Eff.on, resA, resVs, resV, lk, finish, frzR, frzVs, frzV, fznR, fzns, fzn, lts, lt, ltO, List.all, pairsOk, indep, reduceCtorEq, Nat.reduceEqDiff, Nat.reduceAdd, Nat.reduceLeDiff, stb, thaws, List.drop, intOfA, binD, binI, unD, mmL, buildA, mkAgg, allD, bslD, behind, behind0, takeAt, frzAs, frzA, adoptR, adopt, isD, isD0, trim, List.take, binS, sliceA, bnd, zOk, elems, Nat.reduceBNe, inpl, Nat.reduceLT, Nat.reduceBEq, Nat.reduceSub, Nat.reduceMul, Int.reduceLT, Int.reduceLE, Int.reduceEq, Int.reduceToNat, Int.reduceNeg, thaw, nodup, refsV, adopts]) s.iv.a3 s3.2.1 (fun x hx => by have := s3.2.2 x hx; omega)
    have hcv := cloneV_at s.iv.a3 s3.2.1
    have hsub : subL (s.iv.a3.map Itv.d) 0 s.iv.a3.length = s.iv.a3.map Itv.d := by unfold subL; rw [List.drop_zero]; exact List.take_of_length_le (by simp)
    have htk : List.take s.iv.a3.length (s.iv.a3.map Itv.d) = s.iv.a3.map Itv.d := List.take_of_length_le (by simp)
    have hw0 : IntKind.i64.wrap 0 = 0 := by decide
    simp only [hbox] at hlp
    simp (config := {decide := true}) only [c_history_History_Intervals, hobs, hbox, hc, hcv, hsub, htk, hw0, thaws, List.length_map, Nat.le_refl, e0, e1, e2, e3, e4, e5, e6, e7, e8, e9, e10, e11, e12, e13, e14, e15, e16, e17, e18, e19, e20, e21, e22, e23, e24, e25, e26, e27, e28, e29, e30, e31, e32, e33, e34, e35, e36, e37, e38, e39, e40, e41, e42, e43, Q0, Q1, Q2, ln0, ln1, tk0, tk1, hq_push0, hq_push, hq_all, hq_all0, List.all_append, hPa, hSa, k0, k1, k2, k3, k4, b0, b1, b2, b5, b7, b9, b11, Pk.EVL, keepT, enum, ↓reduceIte, ev, act, appT, callee, toDs, toD, loadA, storeA, subA, subD, updA, Eff.on, resA, resVs, resV, lk, finish, frzR, frzVs, frzV, fznR, fzns, fzn, lts, lt, ltO, List.all, pairsOk, indep, reduceCtorEq, Nat.reduceEqDiff, Nat.reduceAdd, Nat.reduceLeDiff, stb, thaws, List.drop, intOfA, binD, binI, unD, mmL, buildA, mkAgg, allD, bslD, behind, behind0, takeAt, frzAs, frzA, adoptR, adopt, isD, isD0, trim, List.take, binS, sliceA, bnd, zOk, elems, Nat.reduceBNe, inpl, Nat.reduceLT, Nat.reduceBEq, Nat.reduceSub, Nat.reduceMul, Int.reduceLT, Int.reduceLE, Int.reduceEq, Int.reduceToNat, Int.reduceNeg, thaw, nodup, refsV, adopts, Pk.TY_Itv]
    simp only [Option.bind_assoc]
    refine bind_run (hlp _ rfl rfl rfl rfl) ?_
    rintro e T' H' ⟨rfl, h5, rfl⟩
    simp (config := {decide := true}) only [h5, hsub, List.length_map, e0, e1, e2, e3, e4, e5, e6, e7, e8, e9, e10, e11, e12, e13, e14, e15, e16, e17, e18, e19, e20, e21, e22, e23, e24, e25, e26, e27, e28, e29, e30, e31, e32, e33, e34, e35, e36, e37, e38, e39, e40, e41, e42, e43, Q0, Q1, Q2, ln0, ln1, tk0, tk1, hq_push0, hq_push, hq_all, hq_all0, List.all_append, hPa, hSa, k0, k1, k2, k3, k4, b0, b1, b2, b5, b7, b9, b11, Pk.EVL, keepT, enum, ↓reduceIte, ev, act, appT, callee, toDs, toD, loadA, storeA, subA, subD, updA, Eff.on, resA, resVs, resV, lk, finish, frzR, frzVs, frzV, fznR, fzns, fzn, lts, lt, ltO, List.all, pairsOk, indep, reduceCtorEq, Nat.reduceEqDiff, Nat.reduceAdd, Nat.reduceLeDiff, stb, thaws, List.drop, intOfA, binD, binI, unD, mmL, buildA, mkAgg, allD, bslD, behind, behind0, takeAt, frzAs, frzA, adoptR, adopt, isD, isD0, trim, List.take, binS, sliceA, bnd, zOk, elems, Nat.reduceBNe, inpl, Nat.reduceLT, Nat.reduceBEq, Nat.reduceSub, Nat.reduceMul, Int.reduceLT, Int.reduceLE, Int.reduceEq, Int.reduceToNat, Int.reduceNeg, thaw, nodup, refsV, adopts, Pk.TY_Itv]
    rfl
end
end Go.Proofs.Ytckaebcljcpobaa
