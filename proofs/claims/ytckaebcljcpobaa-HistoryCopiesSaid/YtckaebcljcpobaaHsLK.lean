/- The law HistoryCopies. -/
import Derived.Test.YtckaebcljcpobaaHsX
set_option linter.all false
namespace Go.Proofs.Ytckaebcljcpobaa
open Pv Go Pk
set_option maxRecDepth 10000
set_option maxHeartbeats 4000000
theorem inc_snoc (G : List Inc) (x : Inc) : incAt (G ++ [x]) ((G.length : Int) + 2) = x := by
  unfold incAt
  rw [if_pos (by rw [List.length_append]; simp; omega), show ((G.length : Int) + 2 - 2).toNat = G.length by omega, List.getElem?_concat_length]
  rfl
theorem copies_law (l : List Inc) (hok : ∀ x ∈ l, x.ok) (os : Int) (hos : 0 ≤ os ∧ os < 256) : evF C F_paddocklaw5_HistoryCopies [.d (.sl (l.map Inc.d)), .d (.i .u8 os)] [] = some (.d (.b true), []) := by
  obtain ⟨p, hP⟩ : ∃ p, ([] : Heap).length = p := ⟨_, rfl⟩
  obtain ⟨n, hn⟩ : ∃ n, p + 12 = n := ⟨_, rfl⟩
  have hPp : plain [] := fun _ => rfl
  have hnew := h_new hP
  have hl := hh_len hP hn
  have ha := hh_at hP hn
  have ha0 := hh_at0 hP hn
  have hs := hh_set hP hn
  have hs0 := hh_set0 hP hn
  have ht := hh_take hP hn
  have ht0 := hh_take0 hP hn
  have n1 : (p + 2 < n) = True := eq_true (by omega)
  have hlm : (l.map Inc.d).length = l.length := List.length_map _
  rw [evF_code (rfl : C F_paddocklaw5_HistoryCopies = some a_paddocklaw5_HistoryCopies) _ _ rfl]
  rcases Bool.eq_false_or_eq_true (decide (((l.length : Nat) : Int) > 30)) with cl | cl
  · simp (config := {decide := true}) only [c_paddocklaw5_HistoryCopies, known5_at, hlm, cl, Pk.EVL, keepT, enum, ↓reduceIte, ev, act, appT, callee, toDs, toD, loadA, storeA, subA, subD, updA, Eff.on, resA, resVs, resV, lk, finish, frzR, frzVs, frzV, fznR, fzns, fzn, lts, lt, ltO, List.all, pairsOk, indep, reduceCtorEq, Nat.reduceEqDiff, Nat.reduceAdd, Nat.reduceLeDiff, stb, thaws, List.drop, intOfA, binD, binI, unD, mmL, buildA, mkAgg, allD, bslD, behind, behind0, takeAt, frzAs, frzA, adoptR, adopt, isD, isD0, trim, List.take, binS, sliceA, bnd, zOk, elems, Nat.reduceBNe, inpl, Nat.reduceLT, Nat.reduceBEq, Nat.reduceSub, Nat.reduceMul, Int.reduceLT, Int.reduceLE, Int.reduceEq, Int.reduceToNat, Int.reduceNeg, thaw, nodup, refsV, adopts]
  have hlen : l.length ≤ 30 := by have := of_decide_eq_false cl; omega
  simp (config := {decide := true}) only [c_paddocklaw5_HistoryCopies, known5_at, hlm, cl, hnew, thaws, thaw, hl, ha, ha0, hs, hs0, ht, ht0, hh_push, n1, Nat.zero_le, Nat.le_refl, List.take_zero, plain_nil, plain_arr, plain_box, Pk.EVL, keepT, enum, ↓reduceIte, ev, act, appT, callee, toDs, toD, loadA, storeA, subA, subD, updA, Eff.on, resA, resVs, resV, lk, finish, frzR, frzVs, frzV, fznR, fzns, fzn, lts, lt, ltO, List.all, pairsOk, indep, reduceCtorEq, Nat.reduceEqDiff, Nat.reduceAdd, Nat.reduceLeDiff, stb, thaws, List.drop, intOfA, binD, binI, unD, mmL, buildA, mkAgg, allD, bslD, behind, behind0, takeAt, frzAs, frzA, adoptR, adopt, isD, isD0, trim, List.take, binS, sliceA, bnd, zOk, elems, Nat.reduceBNe, inpl, Nat.reduceLT, Nat.reduceBEq, Nat.reduceSub, Nat.reduceMul, Int.reduceLT, Int.reduceLE, Int.reduceEq, Int.reduceToNat, Int.reduceNeg, thaw, nodup, refsV, adopts]
  simp only [Option.bind_assoc]
  refine bind_run (loop_run (fun i T H => lk T 0 = .d (.sl (l.map Inc.d)) ∧ lk T 1 = .d (.i .u8 os) ∧ lk T 5 = .ptr (p + 2) 0 ∧ lk T 6 = .d (.i .i64 (i : Nat)) ∧ H = hh [] p (takeAll (l.take i)) grb0 [])
    (fun e T H => e = .exit 0 ∧ lk T 1 = .d (.i .u8 os) ∧ lk T 5 = .ptr (p + 2) 0 ∧ H = hh [] p (takeAll l) grb0 []) l.length ?_ ?_ l.length 0 _ _ (by omega) ⟨rfl, rfl, rfl, rfl, rfl⟩) ?_
  · rintro i T H hi ⟨h0, g1, h5, h7, rfl⟩
    obtain ⟨x, hx⟩ : ∃ x, l[i]? = some x := ⟨l[i]'hi, List.getElem?_eq_getElem _⟩
    have hxd := list_idx Inc.d hx
    have hxo := hok x (List.mem_of_getElem? hx)
    have hg : goodI (takeAll (l.take i)) := takeAll_good fun y hy => hok y (List.mem_of_mem_take hy)
    have hnext : takeAll (l.take (i + 1)) = takeN (takeAll (l.take i)) x := by rw [take_succ' hx, takeAll_snoc]
    have hgl := hg.1
    rw [hnext]
    generalize takeAll (l.take i) = gg at *
    have L := @h_last _ _ hP hPp gg _ grb0_pl
    have A : ∀ X, plain X → evF C F_history_History_Add [.ptr (p + 2) 0, .d (.i .u32 ((gg.length : Int) + 2)), .d (.agg x.cs)] (hh [] p gg grb0 X) = some (.d (.i .i64 (codeN gg x)), hh [] p (takeN gg x) grb0 X) := fun X hX => h_add hP hPp hg grb0_pl hX ((gg.length : Int) + 2) (by omega) x hxo
    have hw1 : IntKind.u32.wrap (((gg.length : Int) + 1) + 1) = (gg.length : Int) + 2 := by rw [wu32 (by omega)]; omega
    have hd : decide ((i : Int) < ((l.length : Nat) : Int)) = true := by simp; omega
    have hw : IntKind.i64.wrap ((i : Int) + 1) = ((i + 1 : Nat) : Int) := wi64 (by omega)
    have b0 : (0 ≤ (i : Int)) = True := by simp
    have hall := @hh_all0 _ _ _ hP hn hPp gg _ grb0_pl [] (fun _ => rfl)
    simp (config := {decide := true}) only [K_paddocklaw5_HistoryCopies_0, l_paddocklaw5_HistoryCopies_0, h0, g1, h5, h7, hlm, hxd, L, A, hw1, hd, hw, b0, hall, ite_self, hl, ha, ha0, hs, hs0, ht, ht0, hh_push, n1, Nat.zero_le, Nat.le_refl, List.take_zero, plain_nil, plain_arr, plain_box, Pk.EVL, keepT, enum, ↓reduceIte, ev, act, appT, callee, toDs, toD, loadA, storeA, subA, subD, updA, Eff.on, resA, resVs, resV, lk, finish, frzR, frzVs, frzV, fznR, fzns, fzn, lts, lt, ltO, List.all, pairsOk, indep, reduceCtorEq, Nat.reduceEqDiff, Nat.reduceAdd, Nat.reduceLeDiff, stb, thaws, List.drop, intOfA, binD, binI, unD, mmL, buildA, mkAgg, allD, bslD, behind, behind0, takeAt, frzAs, frzA, adoptR, adopt, isD, isD0, trim, List.take, binS, sliceA, bnd, zOk, elems, Nat.reduceBNe, inpl, Nat.reduceLT, Nat.reduceBEq, Nat.reduceSub, Nat.reduceMul, Int.reduceLT, Int.reduceLE, Int.reduceEq, Int.reduceToNat, Int.reduceNeg, thaw, nodup, refsV, adopts, Pk.TY_Inc]
    exact ⟨_, _, _, rfl, .inl ⟨rfl, rfl, rfl, rfl, rfl, rfl⟩⟩
  · rintro T H ⟨h0, g1, h5, h7, rfl⟩
    rw [List.take_length]
    have hd : decide (((l.length : Nat) : Int) < ((l.length : Nat) : Int)) = false := by simp
    have hall := @hh_all0 _ _ _ hP hn hPp (takeAll l) _ grb0_pl [] (fun _ => rfl)
    simp (config := {decide := true}) only [K_paddocklaw5_HistoryCopies_0, l_paddocklaw5_HistoryCopies_0, h0, g1, h5, h7, hlm, hd, hall, ite_self, hl, ha, ha0, hs, hs0, ht, ht0, hh_push, n1, Nat.zero_le, Nat.le_refl, List.take_zero, plain_nil, plain_arr, plain_box, Pk.EVL, keepT, enum, ↓reduceIte, ev, act, appT, callee, toDs, toD, loadA, storeA, subA, subD, updA, Eff.on, resA, resVs, resV, lk, finish, frzR, frzVs, frzV, fznR, fzns, fzn, lts, lt, ltO, List.all, pairsOk, indep, reduceCtorEq, Nat.reduceEqDiff, Nat.reduceAdd, Nat.reduceLeDiff, stb, thaws, List.drop, intOfA, binD, binI, unD, mmL, buildA, mkAgg, allD, bslD, behind, behind0, takeAt, frzAs, frzA, adoptR, adopt, isD, isD0, trim, List.take, binS, sliceA, bnd, zOk, elems, Nat.reduceBNe, inpl, Nat.reduceLT, Nat.reduceBEq, Nat.reduceSub, Nat.reduceMul, Int.reduceLT, Int.reduceLE, Int.reduceEq, Int.reduceToNat, Int.reduceNeg, thaw, nodup, refsV, adopts, Pk.TY_Inc]
    exact ⟨_, _, _, rfl, by simp, rfl, rfl, rfl, rfl⟩
  rintro e T H ⟨rfl, g1, h5, rfl⟩
  have hG : goodI (takeAll l) := takeAll_good hok
  have hGl : (takeAll l).length ≤ 30 := Nat.le_trans (takeAll_len _) hlen
  generalize takeAll l = G at *
  obtain ⟨r, hr⟩ : ∃ r, os.tmod 5 = r := ⟨_, rfl⟩
  have hr5 : 0 ≤ r ∧ r < 5 := by
    obtain ⟨k, rfl⟩ := Int.eq_ofNat_of_zero_le hos.1
    rw [← hr]
    show 0 ≤ ((k % 5 : Nat) : Int) ∧ ((k % 5 : Nat) : Int) < 5
    omega
  have hre : IntKind.u8.wrap r = r := wu8 (by omega)
  have x3i : isInc ⟨3, r, 1⟩ = true := by unfold isInc; simp; omega
  have x4i : isInc ⟨4, 0, 0⟩ = true := by decide
  have x3o : (⟨3, r, 1⟩ : Inc).ok := by unfold Inc.ok; exact ⟨by show (0 : Int) ≤ 3 ∧ (3 : Int) < 256; omega, by show 0 ≤ r ∧ r < 256; omega, by show (-9223372036854775808 : Int) ≤ 1 ∧ (1 : Int) ≤ 9223372036854775807; omega⟩
  have x4o : (⟨4, 0, 0⟩ : Inc).ok := by unfold Inc.ok; exact ⟨by show (0 : Int) ≤ 4 ∧ (4 : Int) < 256; omega, by show (0 : Int) ≤ 0 ∧ (0 : Int) < 256; omega, by show (-9223372036854775808 : Int) ≤ 0 ∧ (0 : Int) ≤ 9223372036854775807; omega⟩
  have CP := k_copy hP hn grb0_pl hG
  have q1 : (grb0.frzN 4).pl := Grb.frzN_pl grb0_pl 4
  generalize grb0.frzN 4 = q at *
  have A1 := fun (Y : Heap) (hY : plain Y) => kc_add hP hn q1 grb0_pl G hG hY ((G.length : Int) + 2) (by omega) ⟨3, r, 1⟩ x3o
  rw [addL_next, if_pos ⟨x3i, by omega⟩] at A1
  have A2 := fun (G2 : List Inc) (Y : Heap) (hY : plain Y) => kh_add hP hn q1 grb0_pl hG G2 hY ((G.length : Int) + 2) (by omega) ⟨4, 0, 0⟩ x4o
  rw [addL_next, if_pos ⟨x4i, by omega⟩] at A2
  have L1 := fun (G1 G2 : List Inc) (Y : Heap) (hY : plain Y) => kh_last hP hn q1 grb0_pl G1 G2 hY
  have L2 := fun (G1 G2 : List Inc) (Y : Heap) (hY : plain Y) => kc_last hP hn q1 grb0_pl G1 G2 hY
  have I1 := fun (G1 G2 : List Inc) (Y : Heap) (hY : plain Y) => kh_inc hP hn q1 grb0_pl G1 G2 hY
  have I2 := fun (G1 G2 : List Inc) (Y : Heap) (hY : plain Y) => kc_inc hP hn q1 grb0_pl G1 G2 hY
  have s3 := inc_snoc G ⟨3, r, 1⟩
  have s4 := inc_snoc G ⟨4, 0, 0⟩
  have l3 : (((G ++ [(⟨3, r, 1⟩ : Inc)]).length : Nat) : Int) + 1 = (G.length : Int) + 2 := by rw [List.length_append]; simp; omega
  have l4 : (((G ++ [(⟨4, 0, 0⟩ : Inc)]).length : Nat) : Int) + 1 = (G.length : Int) + 2 := by rw [List.length_append]; simp; omega
  have w1 : IntKind.u32.wrap (((G.length : Int) + 1) + 1) = (G.length : Int) + 2 := by rw [wu32 (by omega)]; omega
  have kl := kk_len hP hn
  have ka := kk_at hP hn
  have ka0 := kk_at0 hP hn
  have ks := kk_set hP hn
  have ks0 := kk_set0 hP hn
  have v1 : ((3 : Int) == 3) = true := rfl
  have v2 : ((4 : Int) == 4) = true := rfl
  have v0 : ((0 : Int) == 0) = true := rfl
  have v3 : (((G.length : Int) + 2) == ((G.length : Int) + 2)) = true := by simp
  have m1 : (n ≤ n + 7) = True := eq_true (by omega)
  have m2 : (n + 7 ≤ n + 8) = True := eq_true (by omega)
  simp (config := {decide := true}) only [g1, h5, hr, hre, CP, A1, A2, L1, L2, I1, I2, s3, s4, l3, l4, w1, kl, ka, ka0, ks, ks0, kk_push, v0, v1, v2, v3, m1, m2, hl, ha, ha0, hs, hs0, ht, ht0, hh_push, n1, ite_self, Nat.zero_le, Nat.le_refl, List.take_zero, plain_nil, plain_arr, plain_box, guardR_und, Pk.EVL, keepT, enum, ↓reduceIte, ev, act, appT, callee, toDs, toD, loadA, storeA, subA, subD, updA, Eff.on, resA, resVs, resV, lk, finish, frzR, frzVs, frzV, fznR, fzns, fzn, lts, lt, ltO, List.all, pairsOk, indep, reduceCtorEq, Nat.reduceEqDiff, Nat.reduceAdd, Nat.reduceLeDiff, stb, thaws, List.drop, intOfA, binD, binI, unD, mmL, buildA, mkAgg, allD, bslD, behind, behind0, takeAt, frzAs, frzA, adoptR, adopt, isD, isD0, trim, List.take, binS, sliceA, bnd, zOk, elems, Nat.reduceBNe, inpl, Nat.reduceLT, Nat.reduceBEq, Nat.reduceSub, Nat.reduceMul, Int.reduceLT, Int.reduceLE, Int.reduceEq, Int.reduceToNat, Int.reduceNeg, thaw, nodup, refsV, adopts, Pk.TY_Inc]
end Go.Proofs.Ytckaebcljcpobaa
