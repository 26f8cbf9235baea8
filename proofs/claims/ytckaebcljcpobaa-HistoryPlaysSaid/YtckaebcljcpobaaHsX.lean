/- A history copied. / A history and its copy behind it. -/
import Derived.Test.YtckaebcljcpobaaHsV
import Derived.Test.YtckaebcljcpobaaHsM
set_option linter.all false
namespace Go.Proofs.Ytckaebcljcpobaa
open Pv Go Pk
set_option maxRecDepth 10000
set_option maxHeartbeats 4000000
theorem evF_exth {C : FuncId → Option AFn} {f : FuncId} {g : List AV → Heap → Option (AV × Heap)} (h : C f = some (.exth g)) (args : List AV) (H : Heap) : evF C f args H = g args H := by
  rw [evF.eq_def]
  simp only [h]
theorem mcloneM_at {H : Heap} {o : Nat} {k : IntKind} {kvs : List (Int × DV)} (h : H[o]? = some (.map k kvs)) : evF C F_maps_Clone_map_uint32_api_Map_uint32_api_Map [.mp o] H = some (.mp H.length, H ++ [.map k kvs]) := by
  rw [evF_exth (rfl : C F_maps_Clone_map_uint32_api_Map_uint32_api_Map = some (.exth Pk.mapCloneX))]
  simp [Pk.mapCloneX, h]
theorem mcloneI_at {H : Heap} {o : Nat} {k : IntKind} {kvs : List (Int × DV)} (h : H[o]? = some (.map k kvs)) : evF C F_maps_Clone_map_uint32_api_Inc_uint32_api_Inc [.mp o] H = some (.mp H.length, H ++ [.map k kvs]) := by
  rw [evF_exth (rfl : C F_maps_Clone_map_uint32_api_Inc_uint32_api_Inc = some (.exth Pk.mapCloneX))]
  simp [Pk.mapCloneX, h]
/-- The first k rows are written no more. -/
def Grb.frzN (q : Grb) (k : Nat) : Grb := { q with w0 := if 0 < k then false else q.w0, w1 := if 1 < k then false else q.w1, w2 := if 2 < k then false else q.w2, w3 := if 3 < k then false else q.w3 }
theorem Grb.frzN_pl {q : Grb} (h : q.pl) (k : Nat) : (q.frzN k).pl := h
def cbxN (n : Nat) (s : Hst) (k : Nat) : AV := .agg [.mp n, .mp (n + 1), .d (.i .u32 s.last), if 0 < k then .view (n + 3) s.iv.a0.length 2 0 s.iv.a0.length else .nilS, if 1 < k then .view (n + 4) s.iv.a1.length 2 0 s.iv.a1.length else .nilS, if 2 < k then .view (n + 5) s.iv.a2.length 2 0 s.iv.a2.length else .nilS, if 3 < k then .view (n + 6) s.iv.a3.length 2 0 s.iv.a3.length else .nilS]
def crws (s : Hst) (k : Nat) : Heap := if k = 0 then [] else if k = 1 then [.arr (s.iv.a0.map Itv.d) true] else if k = 2 then [.arr (s.iv.a0.map Itv.d) true, .arr (s.iv.a1.map Itv.d) true] else if k = 3 then [.arr (s.iv.a0.map Itv.d) true, .arr (s.iv.a1.map Itv.d) true, .arr (s.iv.a2.map Itv.d) true] else [.arr (s.iv.a0.map Itv.d) true, .arr (s.iv.a1.map Itv.d) true, .arr (s.iv.a2.map Itv.d) true, .arr (s.iv.a3.map Itv.d) true]
section
variable {P S : Heap} {p n : Nat} (hP : P.length = p) (hn : p + 12 + S.length = n) (hPa : P.all (ltO n) = true) (hSa : S.all (ltO n) = true) {q : Grb} (hg : q.ok n)
include hP hn hPa hSa hg
theorem hcopy_at (s : Hst) (hs : s.ok) : evF C F_history_History_Copy [.ptr (p + 2) 0] (hq P (hobs p s q) S) = some (.ptr (n + 2) 0, hq P (hobs p s (q.frzN 4)) (S ++ cobs n s grb0)) := by
  obtain ⟨hs0, hs1, hs2, hs3⟩ := hs
  have Q0 := hq_rules hP
  have Q1 := hq_sets hP
  have Q2 := hq_tmps hP hn
  have ln0 := @hq_len0 _ _ _ _ hP hn
  have ln1 := @hq_len _ _ _ _ hP hn
  have tk0 := @hq_take _ _ _ _ hP hn
  have tk1 := @hq_take0 _ _ _ _ hP hn
  have hg' := hg
  obtain ⟨k0, k1, k2, k3, k4⟩ := hg
  simp only [ltO] at k0 k1 k2 k3 k4
  have b0 : (p < n) = True := eq_true (by omega)
  have b1 : (p + 1 < n) = True := eq_true (by omega)
  have b2 : (p + 2 < n) = True := eq_true (by omega)
  have b5 : (p + 5 < n) = True := eq_true (by omega)
  have b7 : (p + 7 < n) = True := eq_true (by omega)
  have b9 : (p + 9 < n) = True := eq_true (by omega)
  have b11 : (p + 11 < n) = True := eq_true (by omega)
  have b2' : (p + 2 < n + 1) = True := eq_true (by omega)
  have f1 : (n + 1 == n) = false := by simp
  have f3 : decide (n + 2 < n) = false := by simp
  have f2 : (n + 2 == n + 1) = false := by simp
  have hn1 : ∀ b0 : Ob, p + 12 + (S ++ [b0]).length = n + 1 := fun _ => by simp; omega
  have tk2 : ∀ (a0 a1 a2 a3 a4 a5 a6 a7 a8 a9 a10 a11 b0 : Ob) (X : Heap), List.take (n + 1) (hq P [a0, a1, a2, a3, a4, a5, a6, a7, a8, a9, a10, a11] (S ++ (b0 :: X))) = hq P [a0, a1, a2, a3, a4, a5, a6, a7, a8, a9, a10, a11] (S ++ [b0]) := by
    intro a0 a1 a2 a3 a4 a5 a6 a7 a8 a9 a10 a11 b0 X
    have := hq_take hP (hn1 b0) a0 a1 a2 a3 a4 a5 a6 a7 a8 a9 a10 a11 X
    rwa [List.append_assoc] at this
  have c1 : (n ≤ n + 1) = True := eq_true (by omega)
  have c2 : (n + 1 ≤ n + 2) = True := eq_true (by omega)
  have c3 : (n ≤ n + 2) = True := eq_true (by omega)
  have M1 : evF C F_maps_Clone_map_uint32_api_Map_uint32_api_Map [.mp p] (hq P (hobs p s q) S) = some (.mp n, hq P (hobs p s q) (S ++ [.map .u32 s.ms])) := by
    have := mcloneM_at (H := hq P (hobs p s q) S) (o := p) (k := .u32) (kvs := s.ms) (by rw [show p = p + 0 from rfl, hq_at hP]; rfl)
    rw [this]
    have hl : (hq P (hobs p s q) S).length = n := by unfold hobs; rw [ln0]
    rw [hl, hq_push0]
  have M2 : evF C F_maps_Clone_map_uint32_api_Inc_uint32_api_Inc [.mp (p + 1)] (hq P (hobs p s q) (S ++ [.map .u32 s.ms])) = some (.mp (n + 1), hq P (hobs p s q) (S ++ [.map .u32 s.ms, .map .u32 s.xs])) := by
    have := mcloneI_at (H := hq P (hobs p s q) (S ++ [.map .u32 s.ms])) (o := p + 1) (k := .u32) (kvs := s.xs) (by rw [hq_at hP]; rfl)
    rw [this]
    have hl : (hq P (hobs p s q) (S ++ [.map .u32 s.ms])).length = n + 1 := by unfold hobs; rw [ln1]; rfl
    rw [hl, hq_push]
    rfl
  simp only [hobs, hbox] at M1 M2
  rw [evF_code (rfl : C F_history_History_Copy = some a_history_History_Copy) _ _ rfl]
  simp (config := {decide := true}) only [c_history_History_Copy, hobs, hbox, M1, M2, Q0, Q1, Q2, ln0, ln1, tk0, tk1, hq_push0, hq_push, hq_all, hq_all0, List.all_append, hPa, hSa, k0, k1, k2, k3, k4, b0, b1, b2, b5, b7, b9, b11, b2', c1, c2, c3, f1, f2, tk2, sameH_self, thaws, Pk.EVL, keepT, enum, ↓reduceIte, ev, act, appT, callee, toDs, toD, loadA, storeA, subA, subD, updA, Eff.on, resA, resVs, resV, lk, finish, frzR, frzVs, frzV, fznR, fzns, fzn, lts, lt, ltO, List.all, pairsOk, indep, reduceCtorEq, Nat.reduceEqDiff, Nat.reduceAdd, Nat.reduceLeDiff, stb, thaws, List.drop, intOfA, binD, binI, unD, mmL, buildA, mkAgg, allD, bslD, behind, behind0, takeAt, frzAs, frzA, adoptR, adopt, isD, isD0, trim, List.take, binS, sliceA, bnd, zOk, elems, Nat.reduceBNe, inpl, Nat.reduceLT, Nat.reduceBEq, Nat.reduceSub, Nat.reduceMul, Int.reduceLT, Int.reduceLE, Int.reduceEq, Int.reduceToNat, Int.reduceNeg, thaw, nodup, refsV, adopts, Pk.TY_Mp, Pk.TY_Inc, Pk.TY_Itv]
  simp only [Option.bind_assoc]
  have V0 := cloneV_at s.iv.a0 hs0.2.1
  have V1 := cloneV_at s.iv.a1 hs1.2.1
  have V2 := cloneV_at s.iv.a2 hs2.2.1
  have V3 := cloneV_at s.iv.a3 hs3.2.1
  have hn3 : ∀ b0 b1 b2 : Ob, p + 12 + (S ++ [b0, b1, b2]).length = n + 3 := fun _ _ _ => by simp; omega
  have tk3 : ∀ (a0 a1 a2 a3 a4 a5 a6 a7 a8 a9 a10 a11 b0 b1 b2 : Ob) (X : Heap), List.take (n + 3) (hq P [a0, a1, a2, a3, a4, a5, a6, a7, a8, a9, a10, a11] (S ++ (b0 :: b1 :: b2 :: X))) = hq P [a0, a1, a2, a3, a4, a5, a6, a7, a8, a9, a10, a11] (S ++ [b0, b1, b2]) := by
    intro a0 a1 a2 a3 a4 a5 a6 a7 a8 a9 a10 a11 b0 b1 b2 X
    have := hq_take hP (hn3 b0 b1 b2) a0 a1 a2 a3 a4 a5 a6 a7 a8 a9 a10 a11 X
    rwa [List.append_assoc] at this
  have u3 : ∀ {x : Ob}, ltO n x = true → ltO (n + 3) x = true := fun h => ltO_more (ltO_more (ltO_more h))
  have hPa3 : P.all (ltO (n + 3)) = true := all_more (all_more (all_more hPa))
  have hSa3 : S.all (ltO (n + 3)) = true := all_more (all_more (all_more hSa))
  have K0 := u3 hg'.1
  have K1 := u3 hg'.2.1
  have K2 := u3 hg'.2.2.1
  have K3 := u3 hg'.2.2.2.1
  have K4 := u3 hg'.2.2.2.2
  simp only [ltO] at K0 K1 K2 K3 K4
  have d0 : (p < n + 3) = True := eq_true (by omega)
  have d1 : (p + 1 < n + 3) = True := eq_true (by omega)
  have d2 : (p + 2 < n + 3) = True := eq_true (by omega)
  have d5 : (p + 5 < n + 3) = True := eq_true (by omega)
  have d7 : (p + 7 < n + 3) = True := eq_true (by omega)
  have d9 : (p + 9 < n + 3) = True := eq_true (by omega)
  have d11 : (p + 11 < n + 3) = True := eq_true (by omega)
  have d12 : (n < n + 3) = True := eq_true (by omega)
  have d13 : (n + 1 < n + 3) = True := eq_true (by omega)
  have d14 : (n + 2 < n + 3) = True := eq_true (by omega)
  have l0 : (s.iv.a0.map Itv.d).length = s.iv.a0.length := List.length_map _
  have l1 : (s.iv.a1.map Itv.d).length = s.iv.a1.length := List.length_map _
  have l2 : (s.iv.a2.map Itv.d).length = s.iv.a2.length := List.length_map _
  have l3 : (s.iv.a3.map Itv.d).length = s.iv.a3.length := List.length_map _
  have sb : ∀ l : List Itv, subL (l.map Itv.d) 0 l.length = l.map Itv.d := fun l => by unfold subL; rw [List.drop_zero]; exact List.take_of_length_le (by rw [List.length_map]; exact Nat.le_refl _)
  have tl : ∀ l : List Itv, List.take l.length (l.map Itv.d) = l.map Itv.d := fun l => List.take_of_length_le (by rw [List.length_map]; exact Nat.le_refl _)
  refine bind_run (loop_run (fun i T H => lk T 3 = .ptr (n + 2) 0 ∧ lk T 25 = .agg [.view (p + 5) s.iv.a0.length 2 0 s.iv.a0.length, .view (p + 7) s.iv.a1.length 2 0 s.iv.a1.length, .view (p + 9) s.iv.a2.length 2 0 s.iv.a2.length, .view (p + 11) s.iv.a3.length 2 0 s.iv.a3.length] ∧ lk T 26 = .d (.i .i64 (i : Nat)) ∧
      H = hq P (hobs p s (q.frzN i)) (S ++ (.map .u32 s.ms :: .map .u32 s.xs :: .box (cbxN n s i) :: crws s i)))
    (fun e T H => e = .exit 0 ∧ lk T 3 = .ptr (n + 2) 0 ∧ H = hq P (hobs p s (q.frzN 4)) (S ++ (.map .u32 s.ms :: .map .u32 s.xs :: .box (cbxN n s 4) :: crws s 4))) 4 ?_ ?_ 4 0 _ _ (by omega) ⟨rfl, rfl, rfl, rfl⟩) ?_
  · rintro i T H hi ⟨h3, h25, h26, rfl⟩
    obtain rfl | rfl | rfl | rfl : i = 0 ∨ i = 1 ∨ i = 2 ∨ i = 3 := by omega
    all_goals
      simp (config := {decide := true}) only [K_history_History_Copy_0, l_history_History_Copy_0, h3, h25, h26, V0, V1, V2, V3, hobs, hbox, cbxN, crws, Grb.frzN, Q0, Q1, Q2, ln0, ln1, tk3, hq_push0, hq_push, hq_all, hq_all0, List.all_append, hPa3, hSa3, K0, K1, K2, K3, K4, d0, d1, d2, d5, d7, d9, d11, d12, d13, d14, l0, l1, l2, l3, sb, tl, elems, ite_self, Nat.le_refl, Pk.EVL, keepT, enum, ↓reduceIte, ev, act, appT, callee, toDs, toD, loadA, storeA, subA, subD, updA, Eff.on, resA, resVs, resV, lk, finish, frzR, frzVs, frzV, fznR, fzns, fzn, lts, lt, ltO, List.all, pairsOk, indep, reduceCtorEq, Nat.reduceEqDiff, Nat.reduceAdd, Nat.reduceLeDiff, stb, thaws, List.drop, intOfA, binD, binI, unD, mmL, buildA, mkAgg, allD, bslD, behind, behind0, takeAt, frzAs, frzA, adoptR, adopt, isD, isD0, trim, List.take, binS, sliceA, bnd, zOk, elems, Nat.reduceBNe, inpl, Nat.reduceLT, Nat.reduceBEq, Nat.reduceSub, Nat.reduceMul, Int.reduceLT, Int.reduceLE, Int.reduceEq, Int.reduceToNat, Int.reduceNeg, thaw, nodup, refsV, adopts, Pk.TY_Itv]
      exact ⟨_, _, _, rfl, .inl ⟨rfl, rfl, rfl, rfl, rfl⟩⟩
  · rintro T H ⟨h3, h25, h26, rfl⟩
    have h26 : lk T 26 = .d (.i .i64 4) := h26
    simp (config := {decide := true}) only [K_history_History_Copy_0, l_history_History_Copy_0, h3, h25, h26, hobs, hbox, cbxN, crws, Grb.frzN, Q0, Q1, Q2, ln0, ln1, tk3, hq_push0, hq_push, hq_all, hq_all0, List.all_append, hPa3, hSa3, K0, K1, K2, K3, K4, d0, d1, d2, d5, d7, d9, d11, d12, d13, d14, ite_self, Pk.EVL, keepT, enum, ↓reduceIte, ev, act, appT, callee, toDs, toD, loadA, storeA, subA, subD, updA, Eff.on, resA, resVs, resV, lk, finish, frzR, frzVs, frzV, fznR, fzns, fzn, lts, lt, ltO, List.all, pairsOk, indep, reduceCtorEq, Nat.reduceEqDiff, Nat.reduceAdd, Nat.reduceLeDiff, stb, thaws, List.drop, intOfA, binD, binI, unD, mmL, buildA, mkAgg, allD, bslD, behind, behind0, takeAt, frzAs, frzA, adoptR, adopt, isD, isD0, trim, List.take, binS, sliceA, bnd, zOk, elems, Nat.reduceBNe, inpl, Nat.reduceLT, Nat.reduceBEq, Nat.reduceSub, Nat.reduceMul, Int.reduceLT, Int.reduceLE, Int.reduceEq, Int.reduceToNat, Int.reduceNeg, thaw, nodup, refsV, adopts, Pk.TY_Itv]
    exact ⟨_, _, _, rfl, by simp, rfl, rfl, rfl⟩
  rintro e T H ⟨rfl, h3, rfl⟩
  simp (config := {decide := true}) only [h3, hobs, hbox, cobs, cbox, cbxN, crws, Grb.frzN, Q0, Q1, Q2, ln0, ln1, tk0, tk1, hq_push0, hq_push, hq_all, hq_all0, List.all_append, hPa, hSa, k0, k1, k2, k3, k4, b0, b1, b2, b5, b7, b9, b11, f3, ite_self, Pk.EVL, keepT, enum, ↓reduceIte, ev, act, appT, callee, toDs, toD, loadA, storeA, subA, subD, updA, Eff.on, resA, resVs, resV, lk, finish, frzR, frzVs, frzV, fznR, fzns, fzn, lts, lt, ltO, List.all, pairsOk, indep, reduceCtorEq, Nat.reduceEqDiff, Nat.reduceAdd, Nat.reduceLeDiff, stb, thaws, List.drop, intOfA, binD, binI, unD, mmL, buildA, mkAgg, allD, bslD, behind, behind0, takeAt, frzAs, frzA, adoptR, adopt, isD, isD0, trim, List.take, binS, sliceA, bnd, zOk, elems, Nat.reduceBNe, inpl, Nat.reduceLT, Nat.reduceBEq, Nat.reduceSub, Nat.reduceMul, Int.reduceLT, Int.reduceLE, Int.reduceEq, Int.reduceToNat, Int.reduceNeg, thaw, nodup, refsV, adopts]
  rfl
end
end Go.Proofs.Ytckaebcljcpobaa

namespace Go.Proofs.Ytckaebcljcpobaa
open Pv Go Pk
set_option maxRecDepth 10000
set_option maxHeartbeats 4000000
/-- A history, its copy, Y behind both. -/
def kk (p n : Nat) (G1 G2 : List Inc) (q g : Grb) (Y : Heap) : Heap := hq [] (hobs p (hsOf G1) q) (cobs n (hsOf G2) g ++ Y)
theorem cobs_len (n : Nat) (s : Hst) (g : Grb) : (cobs n s g).length = 7 := rfl
theorem cobs_ltO (n k : Nat) (s : Hst) (g : Grb) : (cobs n s g).all (ltO (n + 7 + k)) = true := by
  unfold cobs cbox
  simp [ltO, lt, lts]
  omega
section
variable {p n : Nat} (hP : ([] : Heap).length = p) (hn : p + 12 = n)
include hP hn
variable {q g : Grb} (hq : q.pl) (hg : g.pl)
include hq hg
end
end Go.Proofs.Ytckaebcljcpobaa
