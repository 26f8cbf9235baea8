/- A copied history's objects; functions of it. Printed by gen_hsv.py. -/
import Derived.Test.YtckaebcljcpobaaHsG
set_option linter.all false
namespace Go.Proofs.Ytckaebcljcpobaa
open Pv Go Pk
set_option maxRecDepth 10000
set_option maxHeartbeats 4000000
section
variable {P S : Heap} {p n : Nat} (hP : P.length = p) (hn : p + 7 + S.length = n)
include hP hn in
theorem cq_len (a0 a1 a2 a3 a4 a5 a6 : Ob) (X : Heap) : (hq P [a0, a1, a2, a3, a4, a5, a6] (S ++ X)).length = n + X.length := by
  unfold hq
  simp only [List.length_append, List.length_cons, List.length_nil]
  omega
include hP hn in
theorem cq_tmp (a0 a1 a2 a3 a4 a5 a6 : Ob) (X : Heap) (j : Nat) : (hq P [a0, a1, a2, a3, a4, a5, a6] (S ++ X))[n + j]? = X[j]? := by
  rw [show n + j = p + (7 + S.length + j) by omega, hq_at hP, List.getElem?_append_right (by simp; omega), List.getElem?_append_right (by simp; omega)]
  congr 1
  simp
  omega
include hP hn in
theorem cq_tset (a0 a1 a2 a3 a4 a5 a6 : Ob) (X : Heap) (j : Nat) (y : Ob) : (hq P [a0, a1, a2, a3, a4, a5, a6] (S ++ X)).set (n + j) y = hq P [a0, a1, a2, a3, a4, a5, a6] (S ++ X.set j y) := by
  unfold hq
  rw [List.set_append_right _ _ (by omega), List.set_append_right _ _ (by simp; omega), List.set_append_right _ _ (by simp; omega)]
  congr 4
  simp
  omega
include hP hn in
theorem cq_take (a0 a1 a2 a3 a4 a5 a6 : Ob) (X : Heap) : List.take n (hq P [a0, a1, a2, a3, a4, a5, a6] (S ++ X)) = hq P [a0, a1, a2, a3, a4, a5, a6] S := by
  unfold hq
  rw [← List.append_assoc, ← List.append_assoc, List.take_left' (by simp; omega)]
  simp
include hP hn in
theorem cq_len0 (a0 a1 a2 a3 a4 a5 a6 : Ob) : (hq P [a0, a1, a2, a3, a4, a5, a6] S).length = n := by
  have := cq_len hP hn a0 a1 a2 a3 a4 a5 a6 []
  simpa using this
include hP hn in
theorem cq_take0 (a0 a1 a2 a3 a4 a5 a6 : Ob) : List.take n (hq P [a0, a1, a2, a3, a4, a5, a6] S) = hq P [a0, a1, a2, a3, a4, a5, a6] S := by
  have := cq_take hP hn a0 a1 a2 a3 a4 a5 a6 []
  simpa using this
include hP in
theorem cq_rules : (∀ (L Y : Heap), (hq P L Y)[p]? = (L ++ Y)[0]?) ∧ (∀ (L Y : Heap), (hq P L Y)[p + 1]? = (L ++ Y)[1]?) ∧ (∀ (L Y : Heap), (hq P L Y)[p + 2]? = (L ++ Y)[2]?) ∧ (∀ (L Y : Heap), (hq P L Y)[p + 3]? = (L ++ Y)[3]?) ∧
    (∀ (L Y : Heap), (hq P L Y)[p + 4]? = (L ++ Y)[4]?) ∧ (∀ (L Y : Heap), (hq P L Y)[p + 5]? = (L ++ Y)[5]?) ∧ (∀ (L Y : Heap), (hq P L Y)[p + 6]? = (L ++ Y)[6]?) :=
  ⟨fun L Y => hq_at hP L Y 0, fun L Y => hq_at hP L Y 1, fun L Y => hq_at hP L Y 2, fun L Y => hq_at hP L Y 3, fun L Y => hq_at hP L Y 4, fun L Y => hq_at hP L Y 5, fun L Y => hq_at hP L Y 6⟩
include hP in
theorem cq_sets : (∀ (a0 a1 a2 a3 a4 a5 a6 : Ob) (Y : Heap) (y : Ob), (hq P [a0, a1, a2, a3, a4, a5, a6] Y).set (p) y = hq P [y, a1, a2, a3, a4, a5, a6] Y) ∧
    (∀ (a0 a1 a2 a3 a4 a5 a6 : Ob) (Y : Heap) (y : Ob), (hq P [a0, a1, a2, a3, a4, a5, a6] Y).set (p + 1) y = hq P [a0, y, a2, a3, a4, a5, a6] Y) ∧
    (∀ (a0 a1 a2 a3 a4 a5 a6 : Ob) (Y : Heap) (y : Ob), (hq P [a0, a1, a2, a3, a4, a5, a6] Y).set (p + 2) y = hq P [a0, a1, y, a3, a4, a5, a6] Y) ∧
    (∀ (a0 a1 a2 a3 a4 a5 a6 : Ob) (Y : Heap) (y : Ob), (hq P [a0, a1, a2, a3, a4, a5, a6] Y).set (p + 3) y = hq P [a0, a1, a2, y, a4, a5, a6] Y) ∧
    (∀ (a0 a1 a2 a3 a4 a5 a6 : Ob) (Y : Heap) (y : Ob), (hq P [a0, a1, a2, a3, a4, a5, a6] Y).set (p + 4) y = hq P [a0, a1, a2, a3, y, a5, a6] Y) ∧
    (∀ (a0 a1 a2 a3 a4 a5 a6 : Ob) (Y : Heap) (y : Ob), (hq P [a0, a1, a2, a3, a4, a5, a6] Y).set (p + 5) y = hq P [a0, a1, a2, a3, a4, y, a6] Y) ∧
    (∀ (a0 a1 a2 a3 a4 a5 a6 : Ob) (Y : Heap) (y : Ob), (hq P [a0, a1, a2, a3, a4, a5, a6] Y).set (p + 6) y = hq P [a0, a1, a2, a3, a4, a5, y] Y) :=
  ⟨fun _ _ _ _ _ _ _ Y y => hq_set hP _ Y 0 y (by simp), fun _ _ _ _ _ _ _ Y y => hq_set hP _ Y 1 y (by simp), fun _ _ _ _ _ _ _ Y y => hq_set hP _ Y 2 y (by simp), fun _ _ _ _ _ _ _ Y y => hq_set hP _ Y 3 y (by simp), fun _ _ _ _ _ _ _ Y y => hq_set hP _ Y 4 y (by simp), fun _ _ _ _ _ _ _ Y y => hq_set hP _ Y 5 y (by simp), fun _ _ _ _ _ _ _ Y y => hq_set hP _ Y 6 y (by simp)⟩
include hP hn in
theorem cq_tmps : (∀ (a0 a1 a2 a3 a4 a5 a6 : Ob) (X : Heap), (hq P [a0, a1, a2, a3, a4, a5, a6] (S ++ X))[n]? = X[0]?) ∧ (∀ (a0 a1 a2 a3 a4 a5 a6 : Ob) (X : Heap), (hq P [a0, a1, a2, a3, a4, a5, a6] (S ++ X))[n + 1]? = X[1]?) ∧ (∀ (a0 a1 a2 a3 a4 a5 a6 : Ob) (X : Heap), (hq P [a0, a1, a2, a3, a4, a5, a6] (S ++ X))[n + 2]? = X[2]?) ∧ (∀ (a0 a1 a2 a3 a4 a5 a6 : Ob) (X : Heap), (hq P [a0, a1, a2, a3, a4, a5, a6] (S ++ X))[n + 3]? = X[3]?) ∧
    (∀ (a0 a1 a2 a3 a4 a5 a6 : Ob) (X : Heap) (y : Ob), (hq P [a0, a1, a2, a3, a4, a5, a6] (S ++ X)).set n y = hq P [a0, a1, a2, a3, a4, a5, a6] (S ++ X.set 0 y)) ∧ (∀ (a0 a1 a2 a3 a4 a5 a6 : Ob) (X : Heap) (y : Ob), (hq P [a0, a1, a2, a3, a4, a5, a6] (S ++ X)).set (n + 1) y = hq P [a0, a1, a2, a3, a4, a5, a6] (S ++ X.set 1 y)) ∧ (∀ (a0 a1 a2 a3 a4 a5 a6 : Ob) (X : Heap) (y : Ob), (hq P [a0, a1, a2, a3, a4, a5, a6] (S ++ X)).set (n + 2) y = hq P [a0, a1, a2, a3, a4, a5, a6] (S ++ X.set 2 y)) :=
  ⟨fun _ _ _ _ _ _ _ X => cq_tmp hP hn _ _ _ _ _ _ _ X 0, fun _ _ _ _ _ _ _ X => cq_tmp hP hn _ _ _ _ _ _ _ X 1, fun _ _ _ _ _ _ _ X => cq_tmp hP hn _ _ _ _ _ _ _ X 2, fun _ _ _ _ _ _ _ X => cq_tmp hP hn _ _ _ _ _ _ _ X 3,
   fun _ _ _ _ _ _ _ X y => cq_tset hP hn _ _ _ _ _ _ _ X 0 y, fun _ _ _ _ _ _ _ X y => cq_tset hP hn _ _ _ _ _ _ _ X 1 y, fun _ _ _ _ _ _ _ X y => cq_tset hP hn _ _ _ _ _ _ _ X 2 y⟩
end
def cbox (p : Nat) (s : Hst) : AV := .agg [.mp p, .mp (p + 1), .d (.i .u32 s.last), .view (p + 3) s.iv.a0.length 2 0 s.iv.a0.length, .view (p + 4) s.iv.a1.length 2 0 s.iv.a1.length, .view (p + 5) s.iv.a2.length 2 0 s.iv.a2.length, .view (p + 6) s.iv.a3.length 2 0 s.iv.a3.length]
def cobs (p : Nat) (s : Hst) (q : Grb) : Heap := [.map .u32 s.ms, .map .u32 s.xs, .box (cbox p s), .arr (s.iv.a0.map Itv.d) q.w0, .arr (s.iv.a1.map Itv.d) q.w1, .arr (s.iv.a2.map Itv.d) q.w2, .arr (s.iv.a3.map Itv.d) q.w3]
section
variable {P S : Heap} {p n : Nat} (hP : P.length = p) (hn : p + 7 + S.length = n) (hPa : P.all (ltO n) = true) (hSa : S.all (ltO n) = true) {q : Grb} (hg : q.ok n)
include hP hn hPa hSa hg in
theorem clays_at (s : Hst) (hs : s.ok) (m : Mp) : evF C F_history_History_lays [.ptr (p + 2) 0, .d (.agg m.cs)] (hq P (cobs p s q) S) = some (.tup [], hq P (cobs p (laysS s m) q) S) := by
  obtain ⟨hs0, hs1, hs2, hs3⟩ := hs
  have hn1 : p + 7 + (S ++ [Ob.box (.d (.agg m.cs))]).length = n + 1 := by simp; omega
  have Q0 := cq_rules hP
  have Q1 := cq_sets hP
  have Q2 := cq_tmps hP hn
  have Q3 := cq_tmps hP hn1
  have ln0 := @cq_len0 _ _ _ _ hP hn
  have ln1 := @cq_len _ _ _ _ hP hn
  have tk0 := @cq_take _ _ _ _ hP hn
  have tk1 := @cq_take0 _ _ _ _ hP hn
  have tk2 := @cq_take _ _ _ _ hP hn1
  have tk3 := @cq_take0 _ _ _ _ hP hn1
  have hPa1 := all_more hPa
  have hSa1 := all_more hSa
  obtain ⟨k0, k1, k2, k3, k4⟩ := hg
  have k0' := ltO_more k0
  have k1' := ltO_more k1
  have k2' := ltO_more k2
  have k3' := ltO_more k3
  have k4' := ltO_more k4
  simp only [ltO] at k0 k1 k2 k3 k4 k0' k1' k2' k3' k4'
  have b0 : (p < n) = True := eq_true (by omega)
  have b1 : (p + 1 < n) = True := eq_true (by omega)
  have b5 : (p + 3 < n) = True := eq_true (by omega)
  have b7 : (p + 4 < n) = True := eq_true (by omega)
  have b9 : (p + 5 < n) = True := eq_true (by omega)
  have b11 : (p + 6 < n) = True := eq_true (by omega)
  have b0' : (p < n + 1) = True := eq_true (by omega)
  have b1' : (p + 1 < n + 1) = True := eq_true (by omega)
  have b5' : (p + 3 < n + 1) = True := eq_true (by omega)
  have b7' : (p + 4 < n + 1) = True := eq_true (by omega)
  have b9' : (p + 5 < n + 1) = True := eq_true (by omega)
  have b11' : (p + 6 < n + 1) = True := eq_true (by omega)
  rw [evF_code (rfl : C F_history_History_lays = some a_history_History_lays) _ _ rfl]
  simp (config := {decide := true}) only [c_history_History_lays, cobs, cbox, Q0, Q1, Q2, ln0, ln1, tk0, tk1, hq_push0, hq_push, hq_all, hq_all0, hPa, hSa, thaws, Pk.EVL, keepT, enum, ↓reduceIte, ev, act, appT, callee, toDs, toD, loadA, storeA, subA, subD, updA, Eff.on, resA, resVs, resV, lk, finish, frzR, frzVs, frzV, fznR, fzns, fzn, lts, lt, ltO, List.all, pairsOk, indep, reduceCtorEq, Nat.reduceEqDiff, Nat.reduceAdd, Nat.reduceLeDiff, stb, thaws, List.drop, intOfA, binD, binI, unD, mmL, buildA, mkAgg, allD, bslD, behind, behind0, takeAt, frzAs, frzA, adoptR, adopt, isD, isD0, trim, List.take, binS, sliceA, bnd, zOk, elems, Nat.reduceBNe, inpl, Nat.reduceLT, Nat.reduceBEq, Nat.reduceSub, Nat.reduceMul, Int.reduceLT, Int.reduceLE, Int.reduceEq, Int.reduceToNat, Int.reduceNeg, thaw, nodup, refsV, adopts, Pk.TY_Mp]
  simp only [Option.bind_assoc]
  have tkb : ∀ (a0 a1 a2 a3 a4 a5 a6 : Ob) (X : Heap), List.take (n + 1) (hq P [a0, a1, a2, a3, a4, a5, a6] (S ++ (Ob.box (.d (.agg m.cs)) :: X))) = hq P [a0, a1, a2, a3, a4, a5, a6] (S ++ [Ob.box (.d (.agg m.cs))]) := by
    intro a0 a1 a2 a3 a4 a5 a6 X
    have := tk2 a0 a1 a2 a3 a4 a5 a6 X
    rwa [List.append_assoc, List.singleton_append] at this
  have b2' : (p + 2 < n + 1) = True := eq_true (by omega)
  have bn : (n < n + 1) = True := eq_true (by omega)
  have zU : ∀ v : Int, upd Itv.zeroA 0 [.d (.i .u32 v)] = [.d (.i .u32 v), .nilS] := fun _ => rfl
  have zV : ∀ x y z : AV, upd [x, y] 1 [z] = [x, z] := fun _ _ _ => rfl
  refine bind_run (loop_run (fun i T H => lk T 0 = .ptr (p + 2) 0 ∧ lk T 3 = .ptr n 0 ∧ lk T 19 = .d (.i .i64 (i : Nat)) ∧ ∃ J, H = hq P (cobs p ⟨m.epoch, setM s.ms m.epoch m.d, s.xs, layI s.iv m i⟩ q) (S ++ (.box (.d (.agg m.cs)) :: J)))
    (fun e T H => e = .exit 0 ∧ ∃ J, H = hq P (cobs p ⟨m.epoch, setM s.ms m.epoch m.d, s.xs, layI s.iv m 4⟩ q) (S ++ (.box (.d (.agg m.cs)) :: J))) 4 ?_ ?_ 4 0 _ _ (by omega) ⟨rfl, rfl, rfl, [], rfl⟩) ?_
  · rintro i T H hi ⟨h0, h3, h19, J, rfl⟩
    obtain rfl | rfl | rfl | rfl : i = 0 ∨ i = 1 ∨ i = 2 ∨ i = 3 := by omega
    · have h19 : lk T 19 = .d (.i .i64 0) := h19
      have hA := acting_ev m 0
      obtain ⟨x, hx, hxd, hxl, hpos⟩ := okI_last hs0
      have ha3 := actI_len m 0
      have hu : IntKind.u8.wrap 0 = 0 := by decide
      have hw1 : IntKind.i64.wrap ((s.iv.a0.length : Int) - 1) = ((s.iv.a0.length - 1 : Nat) : Int) := by rw [wi64 (by have := hs0.2.1; omega)]; omega
      have hw2 : IntKind.i64.wrap (0 + 1) = 1 := by decide
      have hz : (((s.iv.a0.length : Nat) : Int) == 0) = false := by rw [beq_eq_false_iff_ne]; omega
      have hb1 : (0 ≤ ((s.iv.a0.length - 1 : Nat) : Int)) = True := eq_true (by omega)
      have hb2 : (((s.iv.a0.length - 1 : Nat) : Int) < ((s.iv.a0.length : Nat) : Int)) = True := eq_true (by omega)
      have hlim : (s.iv.a0.length + 1 ≤ LIM) = True := eq_true (by have := hs0.2.1; unfold LIM; omega)
      have hE := eqI_at x.acting (actI m 0) (by omega)
      by_cases c : x.acting = actI m 0
      · have hc := decide_eq_true c
        rw [hc] at hE
        have hadd : ivAdd s.iv.a0 m.epoch (actI m 0) = s.iv.a0 := by unfold ivAdd; rw [hx, if_pos (by rw [← c]; rfl)]
        simp (config := {decide := true}) only [K_history_History_lays_0, l_history_History_lays_0, h0, h3, h19, layI, cobs, cbox, Q0, Q1, Q2, hPa1, hSa1, k0', k1', k2', k3', k4', b0', b1', b2', b5', b7', b9', b11', bn, hA, hu, hw1, hw2, hz, hb1, hb2, hxd, hE, hq_push, hq_push0, hq_all, hq_all0, List.all_append, ln0, ln1, tkb, List.length_map, Int.toNat_natCast, Pk.EVL, keepT, enum, ↓reduceIte, ev, act, appT, callee, toDs, toD, loadA, storeA, subA, subD, updA, Eff.on, resA, resVs, resV, lk, finish, frzR, frzVs, frzV, fznR, fzns, fzn, lts, lt, ltO, List.all, pairsOk, indep, reduceCtorEq, Nat.reduceEqDiff, Nat.reduceAdd, Nat.reduceLeDiff, stb, thaws, List.drop, intOfA, binD, binI, unD, mmL, buildA, mkAgg, allD, bslD, behind, behind0, takeAt, frzAs, frzA, adoptR, adopt, isD, isD0, trim, List.take, binS, sliceA, bnd, zOk, elems, Nat.reduceBNe, inpl, Nat.reduceLT, Nat.reduceBEq, Nat.reduceSub, Nat.reduceMul, Int.reduceLT, Int.reduceLE, Int.reduceEq, Int.reduceToNat, Int.reduceNeg, thaw, nodup, refsV, adopts, Pk.TY_Mp, Pk.TY_Itv]
        refine ⟨_, _, _, rfl, ?_⟩
        refine .inl ⟨rfl, rfl, rfl, by first | rfl | (simp only [lk, Nat.reduceEqDiff, ↓reduceIte]; rfl), ?_⟩
        exact ⟨[], by simp [cobs, cbox, layI, hadd]⟩
      · have hc := decide_eq_false c
        rw [hc] at hE
        have hadd : ivAdd s.iv.a0 m.epoch (actI m 0) = s.iv.a0 ++ [⟨m.epoch, actI m 0⟩] := by unfold ivAdd; rw [hx, if_neg (by intro h; exact c (Option.some.inj h))]
        simp (config := {decide := true}) only [K_history_History_lays_0, l_history_History_lays_0, h0, h3, h19, layI, cobs, cbox, Q0, Q1, Q2, hPa1, hSa1, k0', k1', k2', k3', k4', b0', b1', b2', b5', b7', b9', b11', bn, hA, hu, hw1, hw2, hz, hb1, hb2, hxd, hE, hlim, zU, zV, hq_push, hq_push0, hq_all, hq_all0, List.all_append, ln0, ln1, tkb, List.length_map, Int.toNat_natCast, Pk.EVL, keepT, enum, ↓reduceIte, ev, act, appT, callee, toDs, toD, loadA, storeA, subA, subD, updA, Eff.on, resA, resVs, resV, lk, finish, frzR, frzVs, frzV, fznR, fzns, fzn, lts, lt, ltO, List.all, pairsOk, indep, reduceCtorEq, Nat.reduceEqDiff, Nat.reduceAdd, Nat.reduceLeDiff, stb, thaws, List.drop, intOfA, binD, binI, unD, mmL, buildA, mkAgg, allD, bslD, behind, behind0, takeAt, frzAs, frzA, adoptR, adopt, isD, isD0, trim, List.take, binS, sliceA, bnd, zOk, elems, Nat.reduceBNe, inpl, Nat.reduceLT, Nat.reduceBEq, Nat.reduceSub, Nat.reduceMul, Int.reduceLT, Int.reduceLE, Int.reduceEq, Int.reduceToNat, Int.reduceNeg, thaw, nodup, refsV, adopts, Pk.TY_Mp, Pk.TY_Itv]
        refine ⟨_, _, _, rfl, ?_⟩
        refine .inl ⟨rfl, rfl, rfl, by first | rfl | (simp only [lk, Nat.reduceEqDiff, ↓reduceIte]; rfl), ?_⟩
        exact ⟨_, by simp [cobs, cbox, layI, hadd]; rfl⟩
    · have h19 : lk T 19 = .d (.i .i64 1) := h19
      have hA := acting_ev m 1
      obtain ⟨x, hx, hxd, hxl, hpos⟩ := okI_last hs1
      have ha3 := actI_len m 1
      have hu : IntKind.u8.wrap 1 = 1 := by decide
      have hw1 : IntKind.i64.wrap ((s.iv.a1.length : Int) - 1) = ((s.iv.a1.length - 1 : Nat) : Int) := by rw [wi64 (by have := hs1.2.1; omega)]; omega
      have hw2 : IntKind.i64.wrap (1 + 1) = 2 := by decide
      have hz : (((s.iv.a1.length : Nat) : Int) == 0) = false := by rw [beq_eq_false_iff_ne]; omega
      have hb1 : (0 ≤ ((s.iv.a1.length - 1 : Nat) : Int)) = True := eq_true (by omega)
      have hb2 : (((s.iv.a1.length - 1 : Nat) : Int) < ((s.iv.a1.length : Nat) : Int)) = True := eq_true (by omega)
      have hlim : (s.iv.a1.length + 1 ≤ LIM) = True := eq_true (by have := hs1.2.1; unfold LIM; omega)
      have hE := eqI_at x.acting (actI m 1) (by omega)
      by_cases c : x.acting = actI m 1
      · have hc := decide_eq_true c
        rw [hc] at hE
        have hadd : ivAdd s.iv.a1 m.epoch (actI m 1) = s.iv.a1 := by unfold ivAdd; rw [hx, if_pos (by rw [← c]; rfl)]
        simp (config := {decide := true}) only [K_history_History_lays_0, l_history_History_lays_0, h0, h3, h19, layI, cobs, cbox, Q0, Q1, Q2, hPa1, hSa1, k0', k1', k2', k3', k4', b0', b1', b2', b5', b7', b9', b11', bn, hA, hu, hw1, hw2, hz, hb1, hb2, hxd, hE, hq_push, hq_push0, hq_all, hq_all0, List.all_append, ln0, ln1, tkb, List.length_map, Int.toNat_natCast, Pk.EVL, keepT, enum, ↓reduceIte, ev, act, appT, callee, toDs, toD, loadA, storeA, subA, subD, updA, Eff.on, resA, resVs, resV, lk, finish, frzR, frzVs, frzV, fznR, fzns, fzn, lts, lt, ltO, List.all, pairsOk, indep, reduceCtorEq, Nat.reduceEqDiff, Nat.reduceAdd, Nat.reduceLeDiff, stb, thaws, List.drop, intOfA, binD, binI, unD, mmL, buildA, mkAgg, allD, bslD, behind, behind0, takeAt, frzAs, frzA, adoptR, adopt, isD, isD0, trim, List.take, binS, sliceA, bnd, zOk, elems, Nat.reduceBNe, inpl, Nat.reduceLT, Nat.reduceBEq, Nat.reduceSub, Nat.reduceMul, Int.reduceLT, Int.reduceLE, Int.reduceEq, Int.reduceToNat, Int.reduceNeg, thaw, nodup, refsV, adopts, Pk.TY_Mp, Pk.TY_Itv]
        refine ⟨_, _, _, rfl, ?_⟩
        refine .inl ⟨rfl, rfl, rfl, by first | rfl | (simp only [lk, Nat.reduceEqDiff, ↓reduceIte]; rfl), ?_⟩
        exact ⟨[], by simp [cobs, cbox, layI, hadd]⟩
      · have hc := decide_eq_false c
        rw [hc] at hE
        have hadd : ivAdd s.iv.a1 m.epoch (actI m 1) = s.iv.a1 ++ [⟨m.epoch, actI m 1⟩] := by unfold ivAdd; rw [hx, if_neg (by intro h; exact c (Option.some.inj h))]
        simp (config := {decide := true}) only [K_history_History_lays_0, l_history_History_lays_0, h0, h3, h19, layI, cobs, cbox, Q0, Q1, Q2, hPa1, hSa1, k0', k1', k2', k3', k4', b0', b1', b2', b5', b7', b9', b11', bn, hA, hu, hw1, hw2, hz, hb1, hb2, hxd, hE, hlim, zU, zV, hq_push, hq_push0, hq_all, hq_all0, List.all_append, ln0, ln1, tkb, List.length_map, Int.toNat_natCast, Pk.EVL, keepT, enum, ↓reduceIte, ev, act, appT, callee, toDs, toD, loadA, storeA, subA, subD, updA, Eff.on, resA, resVs, resV, lk, finish, frzR, frzVs, frzV, fznR, fzns, fzn, lts, lt, ltO, List.all, pairsOk, indep, reduceCtorEq, Nat.reduceEqDiff, Nat.reduceAdd, Nat.reduceLeDiff, stb, thaws, List.drop, intOfA, binD, binI, unD, mmL, buildA, mkAgg, allD, bslD, behind, behind0, takeAt, frzAs, frzA, adoptR, adopt, isD, isD0, trim, List.take, binS, sliceA, bnd, zOk, elems, Nat.reduceBNe, inpl, Nat.reduceLT, Nat.reduceBEq, Nat.reduceSub, Nat.reduceMul, Int.reduceLT, Int.reduceLE, Int.reduceEq, Int.reduceToNat, Int.reduceNeg, thaw, nodup, refsV, adopts, Pk.TY_Mp, Pk.TY_Itv]
        refine ⟨_, _, _, rfl, ?_⟩
        refine .inl ⟨rfl, rfl, rfl, by first | rfl | (simp only [lk, Nat.reduceEqDiff, ↓reduceIte]; rfl), ?_⟩
        exact ⟨_, by simp [cobs, cbox, layI, hadd]; rfl⟩
    · have h19 : lk T 19 = .d (.i .i64 2) := h19
      have hA := acting_ev m 2
      obtain ⟨x, hx, hxd, hxl, hpos⟩ := okI_last hs2
      have ha3 := actI_len m 2
      have hu : IntKind.u8.wrap 2 = 2 := by decide
      have hw1 : IntKind.i64.wrap ((s.iv.a2.length : Int) - 1) = ((s.iv.a2.length - 1 : Nat) : Int) := by rw [wi64 (by have := hs2.2.1; omega)]; omega
      have hw2 : IntKind.i64.wrap (2 + 1) = 3 := by decide
      have hz : (((s.iv.a2.length : Nat) : Int) == 0) = false := by rw [beq_eq_false_iff_ne]; omega
      have hb1 : (0 ≤ ((s.iv.a2.length - 1 : Nat) : Int)) = True := eq_true (by omega)
      have hb2 : (((s.iv.a2.length - 1 : Nat) : Int) < ((s.iv.a2.length : Nat) : Int)) = True := eq_true (by omega)
      have hlim : (s.iv.a2.length + 1 ≤ LIM) = True := eq_true (by have := hs2.2.1; unfold LIM; omega)
      have hE := eqI_at x.acting (actI m 2) (by omega)
      by_cases c : x.acting = actI m 2
      · have hc := decide_eq_true c
        rw [hc] at hE
        have hadd : ivAdd s.iv.a2 m.epoch (actI m 2) = s.iv.a2 := by unfold ivAdd; rw [hx, if_pos (by rw [← c]; rfl)]
        simp (config := {decide := true}) only [K_history_History_lays_0, l_history_History_lays_0, h0, h3, h19, layI, cobs, cbox, Q0, Q1, Q2, hPa1, hSa1, k0', k1', k2', k3', k4', b0', b1', b2', b5', b7', b9', b11', bn, hA, hu, hw1, hw2, hz, hb1, hb2, hxd, hE, hq_push, hq_push0, hq_all, hq_all0, List.all_append, ln0, ln1, tkb, List.length_map, Int.toNat_natCast, Pk.EVL, keepT, enum, ↓reduceIte, ev, act, appT, callee, toDs, toD, loadA, storeA, subA, subD, updA, Eff.on, resA, resVs, resV, lk, finish, frzR, frzVs, frzV, fznR, fzns, fzn, lts, lt, ltO, List.all, pairsOk, indep, reduceCtorEq, Nat.reduceEqDiff, Nat.reduceAdd, Nat.reduceLeDiff, stb, thaws, List.drop, intOfA, binD, binI, unD, mmL, buildA, mkAgg, allD, bslD, behind, behind0, takeAt, frzAs, frzA, adoptR, adopt, isD, isD0, trim, List.take, binS, sliceA, bnd, zOk, elems, Nat.reduceBNe, inpl, Nat.reduceLT, Nat.reduceBEq, Nat.reduceSub, Nat.reduceMul, Int.reduceLT, Int.reduceLE, Int.reduceEq, Int.reduceToNat, Int.reduceNeg, thaw, nodup, refsV, adopts, Pk.TY_Mp, Pk.TY_Itv]
        refine ⟨_, _, _, rfl, ?_⟩
        refine .inl ⟨rfl, rfl, rfl, by first | rfl | (simp only [lk, Nat.reduceEqDiff, ↓reduceIte]; rfl), ?_⟩
        exact ⟨[], by simp [cobs, cbox, layI, hadd]⟩
      · have hc := decide_eq_false c
        rw [hc] at hE
        have hadd : ivAdd s.iv.a2 m.epoch (actI m 2) = s.iv.a2 ++ [⟨m.epoch, actI m 2⟩] := by unfold ivAdd; rw [hx, if_neg (by intro h; exact c (Option.some.inj h))]
        simp (config := {decide := true}) only [K_history_History_lays_0, l_history_History_lays_0, h0, h3, h19, layI, cobs, cbox, Q0, Q1, Q2, hPa1, hSa1, k0', k1', k2', k3', k4', b0', b1', b2', b5', b7', b9', b11', bn, hA, hu, hw1, hw2, hz, hb1, hb2, hxd, hE, hlim, zU, zV, hq_push, hq_push0, hq_all, hq_all0, List.all_append, ln0, ln1, tkb, List.length_map, Int.toNat_natCast, Pk.EVL, keepT, enum, ↓reduceIte, ev, act, appT, callee, toDs, toD, loadA, storeA, subA, subD, updA, Eff.on, resA, resVs, resV, lk, finish, frzR, frzVs, frzV, fznR, fzns, fzn, lts, lt, ltO, List.all, pairsOk, indep, reduceCtorEq, Nat.reduceEqDiff, Nat.reduceAdd, Nat.reduceLeDiff, stb, thaws, List.drop, intOfA, binD, binI, unD, mmL, buildA, mkAgg, allD, bslD, behind, behind0, takeAt, frzAs, frzA, adoptR, adopt, isD, isD0, trim, List.take, binS, sliceA, bnd, zOk, elems, Nat.reduceBNe, inpl, Nat.reduceLT, Nat.reduceBEq, Nat.reduceSub, Nat.reduceMul, Int.reduceLT, Int.reduceLE, Int.reduceEq, Int.reduceToNat, Int.reduceNeg, thaw, nodup, refsV, adopts, Pk.TY_Mp, Pk.TY_Itv]
        refine ⟨_, _, _, rfl, ?_⟩
        refine .inl ⟨rfl, rfl, rfl, by first | rfl | (simp only [lk, Nat.reduceEqDiff, ↓reduceIte]; rfl), ?_⟩
        exact ⟨_, by simp [cobs, cbox, layI, hadd]; rfl⟩
    · have h19 : lk T 19 = .d (.i .i64 3) := h19
      have hA := acting_ev m 3
      obtain ⟨x, hx, hxd, hxl, hpos⟩ := okI_last hs3
      have ha3 := actI_len m 3
      have hu : IntKind.u8.wrap 3 = 3 := by decide
      have hw1 : IntKind.i64.wrap ((s.iv.a3.length : Int) - 1) = ((s.iv.a3.length - 1 : Nat) : Int) := by rw [wi64 (by have := hs3.2.1; omega)]; omega
      have hw2 : IntKind.i64.wrap (3 + 1) = 4 := by decide
      have hz : (((s.iv.a3.length : Nat) : Int) == 0) = false := by rw [beq_eq_false_iff_ne]; omega
      have hb1 : (0 ≤ ((s.iv.a3.length - 1 : Nat) : Int)) = True := eq_true (by omega)
      have hb2 : (((s.iv.a3.length - 1 : Nat) : Int) < ((s.iv.a3.length : Nat) : Int)) = True := eq_true (by omega)
      have hlim : (s.iv.a3.length + 1 ≤ LIM) = True := eq_true (by have := hs3.2.1; unfold LIM; omega)
      have hE := eqI_at x.acting (actI m 3) (by omega)
      by_cases c : x.acting = actI m 3
      · have hc := decide_eq_true c
        rw [hc] at hE
        have hadd : ivAdd s.iv.a3 m.epoch (actI m 3) = s.iv.a3 := by unfold ivAdd; rw [hx, if_pos (by rw [← c]; rfl)]
        simp (config := {decide := true}) only [K_history_History_lays_0, l_history_History_lays_0, h0, h3, h19, layI, cobs, cbox, Q0, Q1, Q2, hPa1, hSa1, k0', k1', k2', k3', k4', b0', b1', b2', b5', b7', b9', b11', bn, hA, hu, hw1, hw2, hz, hb1, hb2, hxd, hE, hq_push, hq_push0, hq_all, hq_all0, List.all_append, ln0, ln1, tkb, List.length_map, Int.toNat_natCast, Pk.EVL, keepT, enum, ↓reduceIte, ev, act, appT, callee, toDs, toD, loadA, storeA, subA, subD, updA, Eff.on, resA, resVs, resV, lk, finish, frzR, frzVs, frzV, fznR, fzns, fzn, lts, lt, ltO, List.all, pairsOk, indep, reduceCtorEq, Nat.reduceEqDiff, Nat.reduceAdd, Nat.reduceLeDiff, stb, thaws, List.drop, intOfA, binD, binI, unD, mmL, buildA, mkAgg, allD, bslD, behind, behind0, takeAt, frzAs, frzA, adoptR, adopt, isD, isD0, trim, List.take, binS, sliceA, bnd, zOk, elems, Nat.reduceBNe, inpl, Nat.reduceLT, Nat.reduceBEq, Nat.reduceSub, Nat.reduceMul, Int.reduceLT, Int.reduceLE, Int.reduceEq, Int.reduceToNat, Int.reduceNeg, thaw, nodup, refsV, adopts, Pk.TY_Mp, Pk.TY_Itv]
        refine ⟨_, _, _, rfl, ?_⟩
        refine .inl ⟨rfl, rfl, rfl, by first | rfl | (simp only [lk, Nat.reduceEqDiff, ↓reduceIte]; rfl), ?_⟩
        exact ⟨[], by simp [cobs, cbox, layI, hadd]⟩
      · have hc := decide_eq_false c
        rw [hc] at hE
        have hadd : ivAdd s.iv.a3 m.epoch (actI m 3) = s.iv.a3 ++ [⟨m.epoch, actI m 3⟩] := by unfold ivAdd; rw [hx, if_neg (by intro h; exact c (Option.some.inj h))]
        simp (config := {decide := true}) only [K_history_History_lays_0, l_history_History_lays_0, h0, h3, h19, layI, cobs, cbox, Q0, Q1, Q2, hPa1, hSa1, k0', k1', k2', k3', k4', b0', b1', b2', b5', b7', b9', b11', bn, hA, hu, hw1, hw2, hz, hb1, hb2, hxd, hE, hlim, zU, zV, hq_push, hq_push0, hq_all, hq_all0, List.all_append, ln0, ln1, tkb, List.length_map, Int.toNat_natCast, Pk.EVL, keepT, enum, ↓reduceIte, ev, act, appT, callee, toDs, toD, loadA, storeA, subA, subD, updA, Eff.on, resA, resVs, resV, lk, finish, frzR, frzVs, frzV, fznR, fzns, fzn, lts, lt, ltO, List.all, pairsOk, indep, reduceCtorEq, Nat.reduceEqDiff, Nat.reduceAdd, Nat.reduceLeDiff, stb, thaws, List.drop, intOfA, binD, binI, unD, mmL, buildA, mkAgg, allD, bslD, behind, behind0, takeAt, frzAs, frzA, adoptR, adopt, isD, isD0, trim, List.take, binS, sliceA, bnd, zOk, elems, Nat.reduceBNe, inpl, Nat.reduceLT, Nat.reduceBEq, Nat.reduceSub, Nat.reduceMul, Int.reduceLT, Int.reduceLE, Int.reduceEq, Int.reduceToNat, Int.reduceNeg, thaw, nodup, refsV, adopts, Pk.TY_Mp, Pk.TY_Itv]
        refine ⟨_, _, _, rfl, ?_⟩
        refine .inl ⟨rfl, rfl, rfl, by first | rfl | (simp only [lk, Nat.reduceEqDiff, ↓reduceIte]; rfl), ?_⟩
        exact ⟨_, by simp [cobs, cbox, layI, hadd]; rfl⟩
  · rintro T H ⟨h0, h3, h19, J, rfl⟩
    have h19 : lk T 19 = .d (.i .i64 4) := h19
    simp (config := {decide := true}) only [K_history_History_lays_0, l_history_History_lays_0, h0, h3, h19, cobs, cbox, Q0, Q1, Q2, hPa1, hSa1, k0', k1', k2', k3', k4', b0', b1', b2', b5', b7', b9', b11', bn, hq_push, hq_push0, hq_all, hq_all0, List.all_append, ln0, ln1, tkb, Pk.EVL, keepT, enum, ↓reduceIte, ev, act, appT, callee, toDs, toD, loadA, storeA, subA, subD, updA, Eff.on, resA, resVs, resV, lk, finish, frzR, frzVs, frzV, fznR, fzns, fzn, lts, lt, ltO, List.all, pairsOk, indep, reduceCtorEq, Nat.reduceEqDiff, Nat.reduceAdd, Nat.reduceLeDiff, stb, thaws, List.drop, intOfA, binD, binI, unD, mmL, buildA, mkAgg, allD, bslD, behind, behind0, takeAt, frzAs, frzA, adoptR, adopt, isD, isD0, trim, List.take, binS, sliceA, bnd, zOk, elems, Nat.reduceBNe, inpl, Nat.reduceLT, Nat.reduceBEq, Nat.reduceSub, Nat.reduceMul, Int.reduceLT, Int.reduceLE, Int.reduceEq, Int.reduceToNat, Int.reduceNeg, thaw, nodup, refsV, adopts, Pk.TY_Mp, Pk.TY_Itv]
    exact ⟨_, _, _, rfl, by simp, rfl, [], rfl⟩
  rintro e T H ⟨rfl, J, rfl⟩
  simp (config := {decide := true}) only [cobs, cbox, laysS, Q0, Q1, Q2, hPa, hSa, k0, k1, k2, k3, k4, b0, b1, b5, b7, b9, b11, hq_push, hq_push0, hq_all, hq_all0, List.all_append, ln0, ln1, tk0, tk1, Pk.EVL, keepT, enum, ↓reduceIte, ev, act, appT, callee, toDs, toD, loadA, storeA, subA, subD, updA, Eff.on, resA, resVs, resV, lk, finish, frzR, frzVs, frzV, fznR, fzns, fzn, lts, lt, ltO, List.all, pairsOk, indep, reduceCtorEq, Nat.reduceEqDiff, Nat.reduceAdd, Nat.reduceLeDiff, stb, thaws, List.drop, intOfA, binD, binI, unD, mmL, buildA, mkAgg, allD, bslD, behind, behind0, takeAt, frzAs, frzA, adoptR, adopt, isD, isD0, trim, List.take, binS, sliceA, bnd, zOk, elems, Nat.reduceBNe, inpl, Nat.reduceLT, Nat.reduceBEq, Nat.reduceSub, Nat.reduceMul, Int.reduceLT, Int.reduceLE, Int.reduceEq, Int.reduceToNat, Int.reduceNeg, thaw, nodup, refsV, adopts, Pk.TY_Mp, Pk.TY_Itv]
  try rfl
include hP hn hPa hSa hg
theorem clast_at (s : Hst) : evF C F_history_History_Last [.ptr (p + 2) 0] (hq P (cobs p s q) S) = some (.d (.i .u32 s.last), hq P (cobs p s q) S) := by
  have Q0 := cq_rules hP
  have Q1 := cq_sets hP
  have Q2 := cq_tmps hP hn
  have ln0 := @cq_len0 _ _ _ _ hP hn
  have ln1 := @cq_len _ _ _ _ hP hn
  have tk0 := @cq_take _ _ _ _ hP hn
  have tk1 := @cq_take0 _ _ _ _ hP hn
  have hg' := hg
  obtain ⟨k0, k1, k2, k3, k4⟩ := hg
  simp only [ltO] at k0 k1 k2 k3 k4
  have b0 : (p < n) = True := eq_true (by omega)
  have b1 : (p + 1 < n) = True := eq_true (by omega)
  have b2 : (p + 2 < n) = True := eq_true (by omega)
  have b5 : (p + 3 < n) = True := eq_true (by omega)
  have b7 : (p + 4 < n) = True := eq_true (by omega)
  have b9 : (p + 5 < n) = True := eq_true (by omega)
  have b11 : (p + 6 < n) = True := eq_true (by omega)
  rw [evF_code (rfl : C F_history_History_Last = some a_history_History_Last) _ _ rfl]
  simp (config := {decide := true}) only [c_history_History_Last, cobs, cbox, Q0, Q1, Q2, ln0, ln1, tk0, tk1, hq_push0, hq_push, hq_all, hq_all0, List.all_append, hPa, hSa, k0, k1, k2, k3, k4, b0, b1, b2, b5, b7, b9, b11, Pk.EVL, keepT, enum, ↓reduceIte, ev, act, appT, callee, toDs, toD, loadA, storeA, subA, subD, updA, Eff.on, resA, resVs, resV, lk, finish, frzR, frzVs, frzV, fznR, fzns, fzn, lts, lt, ltO, List.all, pairsOk, indep, reduceCtorEq, Nat.reduceEqDiff, Nat.reduceAdd, Nat.reduceLeDiff, stb, thaws, List.drop, intOfA, binD, binI, unD, mmL, buildA, mkAgg, allD, bslD, behind, behind0, takeAt, frzAs, frzA, adoptR, adopt, isD, isD0, trim, List.take, binS, sliceA, bnd, zOk, elems, Nat.reduceBNe, inpl, Nat.reduceLT, Nat.reduceBEq, Nat.reduceSub, Nat.reduceMul, Int.reduceLT, Int.reduceLE, Int.reduceEq, Int.reduceToNat, Int.reduceNeg, thaw, nodup, refsV, adopts]
theorem cadd_at (l : List Inc) (hl : goodI l) (e : Int) (he : 0 ≤ e ∧ e < 4294967296) (x : Inc) (hx : x.ok) : evF C F_history_History_Add [.ptr (p + 2) 0, .d (.i .u32 e), .d (.agg x.cs)] (hq P (cobs p (hsOf l) q) S) = some (.d (.i .i64 (addL l e x).2), hq P (cobs p (hsOf (addL l e x).1) q) S) := by
  have Q0 := cq_rules hP
  have Q1 := cq_sets hP
  have Q2 := cq_tmps hP hn
  have ln0 := @cq_len0 _ _ _ _ hP hn
  have ln1 := @cq_len _ _ _ _ hP hn
  have tk0 := @cq_take _ _ _ _ hP hn
  have tk1 := @cq_take0 _ _ _ _ hP hn
  have hg' := hg
  obtain ⟨k0, k1, k2, k3, k4⟩ := hg
  simp only [ltO] at k0 k1 k2 k3 k4
  have b0 : (p < n) = True := eq_true (by omega)
  have b1 : (p + 1 < n) = True := eq_true (by omega)
  have b2 : (p + 2 < n) = True := eq_true (by omega)
  have b5 : (p + 3 < n) = True := eq_true (by omega)
  have b7 : (p + 4 < n) = True := eq_true (by omega)
  have b9 : (p + 5 < n) = True := eq_true (by omega)
  have b11 : (p + 6 < n) = True := eq_true (by omega)
  have e0 : (n != p) = true := by simp; omega
  have e1 : (p != n) = true := by simp; omega
  have e2 : (n != p + 1) = true := by simp; omega
  have e3 : (p + 1 != n) = true := by simp; omega
  have e4 : (n != p + 2) = true := by simp; omega
  have e5 : (p + 2 != n) = true := by simp; omega
  have e6 : (n != p + 3) = true := by simp; omega
  have e7 : (p + 3 != n) = true := by simp; omega
  have e8 : (n != p + 4) = true := by simp; omega
  have e9 : (p + 4 != n) = true := by simp; omega
  have e10 : (n != p + 5) = true := by simp; omega
  have e11 : (p + 5 != n) = true := by simp; omega
  have e12 : (n != p + 6) = true := by simp; omega
  have e13 : (p + 6 != n) = true := by simp; omega
  have e14 : (n + 1 != p) = true := by simp; omega
  have e15 : (p != n + 1) = true := by simp; omega
  have e16 : (n + 1 != p + 1) = true := by simp; omega
  have e17 : (p + 1 != n + 1) = true := by simp; omega
  have e18 : (n + 1 != p + 2) = true := by simp; omega
  have e19 : (p + 2 != n + 1) = true := by simp; omega
  have e20 : (n + 1 != p + 3) = true := by simp; omega
  have e21 : (p + 3 != n + 1) = true := by simp; omega
  have e22 : (n + 1 != p + 4) = true := by simp; omega
  have e23 : (p + 4 != n + 1) = true := by simp; omega
  have e24 : (n + 1 != p + 5) = true := by simp; omega
  have e25 : (p + 5 != n + 1) = true := by simp; omega
  have e26 : (n + 1 != p + 6) = true := by simp; omega
  have e27 : (p + 6 != n + 1) = true := by simp; omega
  have e28 : (n + 2 != p) = true := by simp; omega
  have e29 : (p != n + 2) = true := by simp; omega
  have e30 : (n + 2 != p + 1) = true := by simp; omega
  have e31 : (p + 1 != n + 2) = true := by simp; omega
  have e32 : (n + 2 != p + 2) = true := by simp; omega
  have e33 : (p + 2 != n + 2) = true := by simp; omega
  have e34 : (n + 2 != p + 3) = true := by simp; omega
  have e35 : (p + 3 != n + 2) = true := by simp; omega
  have e36 : (n + 2 != p + 4) = true := by simp; omega
  have e37 : (p + 4 != n + 2) = true := by simp; omega
  have e38 : (n + 2 != p + 5) = true := by simp; omega
  have e39 : (p + 5 != n + 2) = true := by simp; omega
  have e40 : (n + 2 != p + 6) = true := by simp; omega
  have e41 : (p + 6 != n + 2) = true := by simp; omega
  have e42 : (n + 1 != n) = true := by simp
  have e43 : (n != n + 1) = true := by simp
  have hlast := hsOf_last l
  have hn59 := hl.1
  have hget : getM (hsOf l).ms ((l.length : Int) + 1) = some (mapAt l).d := by
    rw [hsOf_ms, if_pos (by omega), List.take_of_length_le (by omega)]
  have hget' : (getM (hsOf l).ms ((l.length : Int) + 1)).getD (.agg Mp.zero.cs) = .agg (mapAt l).cs := by rw [hget]; rfl
  have hap := nextOf_at (mapAt l) x hx
  have hep := mapAt_epoch l
  rw [evF_code (rfl : C F_history_History_Add = some a_history_History_Add) _ _ rfl]
  unfold addL
  by_cases c1 : e ≤ (l.length : Int) + 1
  · have hc1 := decide_eq_true c1
    rw [if_pos c1]
    simp (config := {decide := true}) only [c_history_History_Add, cobs, cbox, hlast, hc1, Q0, Q1, Q2, ln0, ln1, tk0, tk1, hq_push0, hq_push, hq_all, hq_all0, List.all_append, hPa, hSa, k0, k1, k2, k3, k4, b0, b1, b2, b5, b7, b9, b11, Pk.EVL, keepT, enum, ↓reduceIte, ev, act, appT, callee, toDs, toD, loadA, storeA, subA, subD, updA, Eff.on, resA, resVs, resV, lk, finish, frzR, frzVs, frzV, fznR, fzns, fzn, lts, lt, ltO, List.all, pairsOk, indep, reduceCtorEq, Nat.reduceEqDiff, Nat.reduceAdd, Nat.reduceLeDiff, stb, thaws, List.drop, intOfA, binD, binI, unD, mmL, buildA, mkAgg, allD, bslD, behind, behind0, takeAt, frzAs, frzA, adoptR, adopt, isD, isD0, trim, List.take, binS, sliceA, bnd, zOk, elems, Nat.reduceBNe, inpl, Nat.reduceLT, Nat.reduceBEq, Nat.reduceSub, Nat.reduceMul, Int.reduceLT, Int.reduceLE, Int.reduceEq, Int.reduceToNat, Int.reduceNeg, thaw, nodup, refsV, adopts, Pk.TY_Inc, Pk.TY_Mp]
  rw [if_neg c1]
  have hc1 := decide_eq_false c1
  have hw : IntKind.u32.wrap (e - ((l.length : Int) + 1)) = e - ((l.length : Int) + 1) := wu32 (by omega)
  by_cases c2 : e > (l.length : Int) + 2
  · rw [if_pos c2]
    have hc2 : decide (e - ((l.length : Int) + 1) > 1) = true := decide_eq_true (by omega)
    simp (config := {decide := true}) only [c_history_History_Add, cobs, cbox, hlast, hc1, hw, hc2, Q0, Q1, Q2, ln0, ln1, tk0, tk1, hq_push0, hq_push, hq_all, hq_all0, List.all_append, hPa, hSa, k0, k1, k2, k3, k4, b0, b1, b2, b5, b7, b9, b11, Pk.EVL, keepT, enum, ↓reduceIte, ev, act, appT, callee, toDs, toD, loadA, storeA, subA, subD, updA, Eff.on, resA, resVs, resV, lk, finish, frzR, frzVs, frzV, fznR, fzns, fzn, lts, lt, ltO, List.all, pairsOk, indep, reduceCtorEq, Nat.reduceEqDiff, Nat.reduceAdd, Nat.reduceLeDiff, stb, thaws, List.drop, intOfA, binD, binI, unD, mmL, buildA, mkAgg, allD, bslD, behind, behind0, takeAt, frzAs, frzA, adoptR, adopt, isD, isD0, trim, List.take, binS, sliceA, bnd, zOk, elems, Nat.reduceBNe, inpl, Nat.reduceLT, Nat.reduceBEq, Nat.reduceSub, Nat.reduceMul, Int.reduceLT, Int.reduceLE, Int.reduceEq, Int.reduceToNat, Int.reduceNeg, thaw, nodup, refsV, adopts, Pk.TY_Inc, Pk.TY_Mp]
  rw [if_neg c2]
  have hc2 : decide (e - ((l.length : Int) + 1) > 1) = false := decide_eq_false (by omega)
  have hee : e = (l.length : Int) + 2 := by omega
  by_cases c3 : isInc x = true ∧ l.length < 59
  case neg =>
    rw [if_neg c3]
    have hapm : nextOf (mapAt l) x = (Mp.zero, 40) := by
      unfold nextOf
      rw [if_neg]
      rw [mapAt_is hl, hep, Bool.true_and, Bool.and_eq_true]
      rintro ⟨h1, h2⟩
      refine c3 ⟨h1, ?_⟩
      simp at h2
      omega
    rw [hapm] at hap
    simp (config := {decide := true}) only [c_history_History_Add, cobs, cbox, hlast, hc1, hw, hc2, hget', hap, e0, e1, e2, e3, e4, e5, e6, e7, e8, e9, e10, e11, e12, e13, e14, e15, e16, e17, e18, e19, e20, e21, e22, e23, e24, e25, e26, e27, e28, e29, e30, e31, e32, e33, e34, e35, e36, e37, e38, e39, e40, e41, e42, e43, Q0, Q1, Q2, ln0, ln1, tk0, tk1, hq_push0, hq_push, hq_all, hq_all0, List.all_append, hPa, hSa, k0, k1, k2, k3, k4, b0, b1, b2, b5, b7, b9, b11, Pk.EVL, keepT, enum, ↓reduceIte, ev, act, appT, callee, toDs, toD, loadA, storeA, subA, subD, updA, Eff.on, resA, resVs, resV, lk, finish, frzR, frzVs, frzV, fznR, fzns, fzn, lts, lt, ltO, List.all, pairsOk, indep, reduceCtorEq, Nat.reduceEqDiff, Nat.reduceAdd, Nat.reduceLeDiff, stb, thaws, List.drop, intOfA, binD, binI, unD, mmL, buildA, mkAgg, allD, bslD, behind, behind0, takeAt, frzAs, frzA, adoptR, adopt, isD, isD0, trim, List.take, binS, sliceA, bnd, zOk, elems, Nat.reduceBNe, inpl, Nat.reduceLT, Nat.reduceBEq, Nat.reduceSub, Nat.reduceMul, Int.reduceLT, Int.reduceLE, Int.reduceEq, Int.reduceToNat, Int.reduceNeg, thaw, nodup, refsV, adopts, Pk.TY_Inc, Pk.TY_Mp]
  rw [if_pos c3]
  have hapm : nextOf (mapAt l) x = (nextM (mapAt l) x, 0) := by
    unfold nextOf
    rw [if_pos]
    rw [mapAt_is hl, hep, Bool.true_and, Bool.and_eq_true]
    refine ⟨c3.1, ?_⟩
    simp
    omega
  rw [hapm] at hap
  have hgood : goodI (l ++ [x]) := by
    have := addL_good (e := e) hl hx
    unfold addL at this
    rwa [if_neg c1, if_neg c2, if_pos c3] at this
  have hso : Hst.ok { hsOf l with xs := setM (hsOf l).xs e x.d } := hsOf_ok hl
  have hlay := clays_at (S := S ++ [Ob.box (.d (.agg x.cs)), Ob.box (.d (.agg (nextM (mapAt l) x).cs))]) (n := n + 2) hP (by simp; omega) (all_more (all_more hPa)) (by rw [List.all_append, all_more (all_more hSa)]; rfl) (Grb.more (Grb.more hg')) _ hso (nextM (mapAt l) x)
  have hres : laysS { hsOf l with xs := setM (hsOf l).xs e x.d } (nextM (mapAt l) x) = hsOf (l ++ [x]) := by
    rw [hsOf_snoc, mapAt_snoc]
    unfold stepS
    rw [show (nextM (mapAt l) x).epoch = e by show (mapAt l).epoch + 1 = e; rw [hep]; omega]
  rw [hres] at hlay
  simp only [cobs, cbox, hlast, Itv.d_eq, Inc.d_eq] at hlay
  have le2 : (n + 2 ≤ n + 2) = True := eq_true (Nat.le_refl _)
  simp (config := {decide := true}) only [c_history_History_Add, cobs, cbox, hlast, hc1, hw, hc2, hget', hap, hlay, le2, e0, e1, e2, e3, e4, e5, e6, e7, e8, e9, e10, e11, e12, e13, e14, e15, e16, e17, e18, e19, e20, e21, e22, e23, e24, e25, e26, e27, e28, e29, e30, e31, e32, e33, e34, e35, e36, e37, e38, e39, e40, e41, e42, e43, Q0, Q1, Q2, ln0, ln1, tk0, tk1, hq_push0, hq_push, hq_all, hq_all0, List.all_append, hPa, hSa, k0, k1, k2, k3, k4, b0, b1, b2, b5, b7, b9, b11, Pk.EVL, keepT, enum, ↓reduceIte, ev, act, appT, callee, toDs, toD, loadA, storeA, subA, subD, updA, Eff.on, resA, resVs, resV, lk, finish, frzR, frzVs, frzV, fznR, fzns, fzn, lts, lt, ltO, List.all, pairsOk, indep, reduceCtorEq, Nat.reduceEqDiff, Nat.reduceAdd, Nat.reduceLeDiff, stb, thaws, List.drop, intOfA, binD, binI, unD, mmL, buildA, mkAgg, allD, bslD, behind, behind0, takeAt, frzAs, frzA, adoptR, adopt, isD, isD0, trim, List.take, binS, sliceA, bnd, zOk, elems, Nat.reduceBNe, inpl, Nat.reduceLT, Nat.reduceBEq, Nat.reduceSub, Nat.reduceMul, Int.reduceLT, Int.reduceLE, Int.reduceEq, Int.reduceToNat, Int.reduceNeg, thaw, nodup, refsV, adopts, Pk.TY_Inc, Pk.TY_Mp]
end
end Go.Proofs.Ytckaebcljcpobaa
