/- The law HistoryMaps. -/
import Derived.Test.YtckaebcljcpobaaHsM
set_option linter.all false
namespace Go.Proofs.Ytckaebcljcpobaa
open Pv Go Pk
set_option maxRecDepth 10000
set_option maxHeartbeats 4000000
theorem mapAt_take_d (g : List Inc) (k : Nat) (hk : k ≤ g.length) : (mapAt (g.take k)).epoch = (k : Int) + 1 := by
  rw [mapAt_epoch, List.length_take, Nat.min_eq_left hk]
theorem maps_law (l : List Inc) (hok : ∀ x ∈ l, x.ok) (k : Int) (hk : 0 ≤ k ∧ k < 256) : evF C F_paddocklaw5_HistoryMaps [.d (.sl (l.map Inc.d)), .d (.i .u8 k)] [] = some (.d (.b true), []) := by
  obtain ⟨p, hP⟩ : ∃ p, ([] : Heap).length = p := ⟨_, rfl⟩
  obtain ⟨n, hn⟩ : ∃ n, p + 12 = n := ⟨_, rfl⟩
  have hPp : plain [] := fun _ => rfl
  have hnew := h_new hP
  have hl := hh_len hP hn
  have ha := hh_at hP hn
  have ha0 := hh_at0 hP hn
  have hs := hh_set hP hn
  have hs0 := hh_set0 hP hn
  have ht := hh_take hP hn
  have ht0 := hh_take0 hP hn
  have n1 : (p + 2 < n) = True := eq_true (by omega)
  have n2 : (p + 2 < n + 1) = True := eq_true (by omega)
  have n3 : (n < n + 1) = True := eq_true (by omega)
  have n4 : (n ≤ n + 1) = True := eq_true (by omega)
  have n5 : (n ≤ n + 2) = True := eq_true (by omega)
  have n6 : (n + 1 ≤ n + 2) = True := eq_true (by omega)
  have hlm : (l.map Inc.d).length = l.length := List.length_map _
  rw [evF_code (rfl : C F_paddocklaw5_HistoryMaps = some a_paddocklaw5_HistoryMaps) _ _ rfl]
  rcases Bool.eq_false_or_eq_true (decide (((l.length : Nat) : Int) > 30)) with cl | cl
  · simp (config := {decide := true}) only [c_paddocklaw5_HistoryMaps, known5_at, hlm, cl, Pk.EVL, keepT, enum, ↓reduceIte, ev, act, appT, callee, toDs, toD, loadA, storeA, subA, subD, updA, Eff.on, resA, resVs, resV, lk, finish, frzR, frzVs, frzV, fznR, fzns, fzn, lts, lt, ltO, List.all, pairsOk, indep, reduceCtorEq, Nat.reduceEqDiff, Nat.reduceAdd, Nat.reduceLeDiff, stb, thaws, List.drop, intOfA, binD, binI, unD, mmL, buildA, mkAgg, allD, behind, behind0, takeAt, frzAs, frzA, adoptR, adopt, isD, isD0, trim, List.take, binS, sliceA, bnd, zOk, elems, Nat.reduceBNe, inpl, Nat.reduceLT, Nat.reduceBEq, Nat.reduceSub, Nat.reduceMul, Int.reduceLT, Int.reduceLE, Int.reduceEq, Int.reduceToNat, Int.reduceNeg, thaw, nodup, refsV, adopts]
  have hlen : l.length ≤ 30 := by have := of_decide_eq_false cl; omega
  simp (config := {decide := true}) only [c_paddocklaw5_HistoryMaps, known5_at, hlm, cl, hnew, thaws, thaw, hl, ha, ha0, hs, hs0, ht, ht0, hh_push, eptr_itv, n1, n2, n3, n4, n5, n6, Nat.zero_le, Nat.le_refl, List.take_zero, plain_nil, plain_arr, plain_box, Pk.EVL, keepT, enum, ↓reduceIte, ev, act, appT, callee, toDs, toD, loadA, storeA, subA, subD, updA, Eff.on, resA, resVs, resV, lk, finish, frzR, frzVs, frzV, fznR, fzns, fzn, lts, lt, ltO, List.all, pairsOk, indep, reduceCtorEq, Nat.reduceEqDiff, Nat.reduceAdd, Nat.reduceLeDiff, stb, thaws, List.drop, intOfA, binD, binI, unD, mmL, buildA, mkAgg, allD, behind, behind0, takeAt, frzAs, frzA, adoptR, adopt, isD, isD0, trim, List.take, binS, sliceA, bnd, zOk, elems, Nat.reduceBNe, inpl, Nat.reduceLT, Nat.reduceBEq, Nat.reduceSub, Nat.reduceMul, Int.reduceLT, Int.reduceLE, Int.reduceEq, Int.reduceToNat, Int.reduceNeg, thaw, nodup, refsV, adopts]
  simp only [Option.bind_assoc]
  refine bind_run (loop_run (fun i T H => lk T 0 = .d (.sl (l.map Inc.d)) ∧ lk T 1 = .d (.i .u8 k) ∧ lk T 5 = .ptr (p + 2) 0 ∧ lk T 6 = .view n (takeAll (l.take i)).length 3 0 (takeAll (l.take i)).length ∧ lk T 7 = .d (.i .i64 (i : Nat)) ∧
      ∃ J, plain J ∧ H = hh [] p (takeAll (l.take i)) grb0 (.arr ((takeAll (l.take i)).map Inc.d) true :: J))
    (fun e T H => e = .exit 0 ∧ lk T 1 = .d (.i .u8 k) ∧ lk T 5 = .ptr (p + 2) 0 ∧ lk T 6 = .view n (takeAll l).length 3 0 (takeAll l).length ∧
      H = hh [] p (takeAll l) grb0 [.arr ((takeAll l).map Inc.d) true]) l.length ?_ ?_ l.length 0 _ _ (by omega) ⟨rfl, rfl, rfl, rfl, rfl, [], fun _ => rfl, rfl⟩) ?_
  · rintro i T H hi ⟨h0, h1, h5, h6, h7, J, hJ, rfl⟩
    obtain ⟨x, hx⟩ : ∃ x, l[i]? = some x := ⟨l[i]'hi, List.getElem?_eq_getElem _⟩
    have hxd := list_idx Inc.d hx
    have hxo := hok x (List.mem_of_getElem? hx)
    have hg : goodI (takeAll (l.take i)) := takeAll_good fun y hy => hok y (List.mem_of_mem_take hy)
    have hgl : (takeAll (l.take i)).length ≤ 30 := Nat.le_trans (takeAll_len _) (by rw [List.length_take]; omega)
    have hnext : takeAll (l.take (i + 1)) = takeN (takeAll (l.take i)) x := by rw [take_succ' hx, takeAll_snoc]
    rw [hnext]
    generalize takeAll (l.take i) = g at *
    have L := @h_last _ _ hP hPp g _ grb0_pl
    have A := fun X (hX : plain X) => @h_add _ _ hP hPp g hg _ grb0_pl X hX ((g.length : Int) + 2) (by omega) x hxo
    have hadd := addL_next g x
    have hw1 : IntKind.u32.wrap (((g.length : Int) + 1) + 1) = (g.length : Int) + 2 := by rw [wu32 (by omega)]; omega
    have hd : decide ((i : Int) < ((l.length : Nat) : Int)) = true := by simp; omega
    have hw : IntKind.i64.wrap ((i : Int) + 1) = ((i + 1 : Nat) : Int) := wi64 (by omega)
    have b0 : (0 ≤ (i : Int)) = True := by simp
    have hall := @hh_all _ _ _ hP hn hPp g _ grb0_pl [.arr (g.map Inc.d) true] (fun _ => rfl) 1
    have hgm : (g.map Inc.d).length = g.length := List.length_map _
    have hlim : (g.length + 1 ≤ LIM) = True := eq_true (by unfold LIM; omega)
    have en : (n + 1 != n) = true := by simp
    unfold takeN
    by_cases c : isInc x = true ∧ g.length < 59
    · rw [if_pos c] at hadd
      rw [hadd] at A ⊢
      simp (config := {decide := true}) only [K_paddocklaw5_HistoryMaps_0, l_paddocklaw5_HistoryMaps_0, h0, h1, h5, h6, h7, hlm, hxd, L, A, hw1, hd, hw, b0, hall, hgm, hlim, en, elems, ite_self, hl, ha, ha0, hs, hs0, ht, ht0, hh_push, eptr_itv, n1, n2, n3, n4, n5, n6, Nat.zero_le, Nat.le_refl, List.take_zero, plain_nil, plain_arr, plain_box, Pk.EVL, keepT, enum, ↓reduceIte, ev, act, appT, callee, toDs, toD, loadA, storeA, subA, subD, updA, Eff.on, resA, resVs, resV, lk, finish, frzR, frzVs, frzV, fznR, fzns, fzn, lts, lt, ltO, List.all, pairsOk, indep, reduceCtorEq, Nat.reduceEqDiff, Nat.reduceAdd, Nat.reduceLeDiff, stb, thaws, List.drop, intOfA, binD, binI, unD, mmL, buildA, mkAgg, allD, behind, behind0, takeAt, frzAs, frzA, adoptR, adopt, isD, isD0, trim, List.take, binS, sliceA, bnd, zOk, elems, Nat.reduceBNe, inpl, Nat.reduceLT, Nat.reduceBEq, Nat.reduceSub, Nat.reduceMul, Int.reduceLT, Int.reduceLE, Int.reduceEq, Int.reduceToNat, Int.reduceNeg, thaw, nodup, refsV, adopts, Pk.TY_Inc]
      refine ⟨_, _, _, rfl, ?_⟩
      exact .inl ⟨rfl, rfl, rfl, rfl, by rw [List.length_append]; rfl, rfl, [.arr [Inc.d x] true], fun _ => rfl, by rw [List.map_append]; rfl⟩
    · rw [if_neg c] at hadd
      rw [hadd] at A ⊢
      simp (config := {decide := true}) only [K_paddocklaw5_HistoryMaps_0, l_paddocklaw5_HistoryMaps_0, h0, h1, h5, h6, h7, hlm, hxd, L, A, hw1, hd, hw, b0, hall, hgm, hlim, en, elems, ite_self, hl, ha, ha0, hs, hs0, ht, ht0, hh_push, eptr_itv, n1, n2, n3, n4, n5, n6, Nat.zero_le, Nat.le_refl, List.take_zero, plain_nil, plain_arr, plain_box, Pk.EVL, keepT, enum, ↓reduceIte, ev, act, appT, callee, toDs, toD, loadA, storeA, subA, subD, updA, Eff.on, resA, resVs, resV, lk, finish, frzR, frzVs, frzV, fznR, fzns, fzn, lts, lt, ltO, List.all, pairsOk, indep, reduceCtorEq, Nat.reduceEqDiff, Nat.reduceAdd, Nat.reduceLeDiff, stb, thaws, List.drop, intOfA, binD, binI, unD, mmL, buildA, mkAgg, allD, behind, behind0, takeAt, frzAs, frzA, adoptR, adopt, isD, isD0, trim, List.take, binS, sliceA, bnd, zOk, elems, Nat.reduceBNe, inpl, Nat.reduceLT, Nat.reduceBEq, Nat.reduceSub, Nat.reduceMul, Int.reduceLT, Int.reduceLE, Int.reduceEq, Int.reduceToNat, Int.reduceNeg, thaw, nodup, refsV, adopts, Pk.TY_Inc]
      refine ⟨_, _, _, rfl, ?_⟩
      exact .inl ⟨rfl, rfl, rfl, rfl, rfl, rfl, [], fun _ => rfl, rfl⟩
  · rintro T H ⟨h0, h1, h5, h6, h7, J, hJ, rfl⟩
    rw [List.take_length] at h6 ⊢
    generalize takeAll l = g at *
    have hd : decide (((l.length : Nat) : Int) < ((l.length : Nat) : Int)) = false := by simp
    have hall := @hh_all _ _ _ hP hn hPp g _ grb0_pl [.arr (g.map Inc.d) true] (fun _ => rfl) 1
    simp (config := {decide := true}) only [K_paddocklaw5_HistoryMaps_0, l_paddocklaw5_HistoryMaps_0, h0, h1, h5, h6, h7, hlm, hd, hall, ite_self, hl, ha, ha0, hs, hs0, ht, ht0, hh_push, eptr_itv, n1, n2, n3, n4, n5, n6, Nat.zero_le, Nat.le_refl, List.take_zero, plain_nil, plain_arr, plain_box, Pk.EVL, keepT, enum, ↓reduceIte, ev, act, appT, callee, toDs, toD, loadA, storeA, subA, subD, updA, Eff.on, resA, resVs, resV, lk, finish, frzR, frzVs, frzV, fznR, fzns, fzn, lts, lt, ltO, List.all, pairsOk, indep, reduceCtorEq, Nat.reduceEqDiff, Nat.reduceAdd, Nat.reduceLeDiff, stb, thaws, List.drop, intOfA, binD, binI, unD, mmL, buildA, mkAgg, allD, behind, behind0, takeAt, frzAs, frzA, adoptR, adopt, isD, isD0, trim, List.take, binS, sliceA, bnd, zOk, elems, Nat.reduceBNe, inpl, Nat.reduceLT, Nat.reduceBEq, Nat.reduceSub, Nat.reduceMul, Int.reduceLT, Int.reduceLE, Int.reduceEq, Int.reduceToNat, Int.reduceNeg, thaw, nodup, refsV, adopts, Pk.TY_Inc]
    exact ⟨_, _, _, rfl, by simp, rfl, rfl, rfl, rfl, rfl⟩
  rintro e T H ⟨rfl, h1, h5, h6, rfl⟩
  have hg : goodI (takeAll l) := takeAll_good hok
  have hgo : ∀ x ∈ takeAll l, x.ok := fun x hx => hok x (takeAll_mem x hx)
  have hgl : (takeAll l).length ≤ 30 := Nat.le_trans (takeAll_len _) hlen
  generalize takeAll l = g at *
  obtain ⟨m, hm, hmk⟩ : ∃ m : Nat, k.tmod ((g.length : Int) + 1) = (m : Int) ∧ m ≤ g.length := by
    obtain ⟨kn, rfl⟩ := Int.eq_ofNat_of_zero_le hk.1
    refine ⟨kn % (g.length + 1), ?_, by have := Nat.mod_lt kn (show 0 < g.length + 1 by omega); omega⟩
    rfl
  have hwk : IntKind.i64.wrap k = k := wi64 (by omega)
  have hw1 : IntKind.i64.wrap ((g.length : Int) + 1) = (g.length : Int) + 1 := wi64 (by omega)
  have hw2 : IntKind.u32.wrap (m : Int) = (m : Int) := wu32 (by omega)
  have hw3 : IntKind.u32.wrap ((m : Int) + 1) = (m : Int) + 1 := wu32 (by omega)
  have hz : ((g.length : Int) + 1 = 0) = False := eq_false (by omega)
  have M : ∀ X, plain X → evF C F_history_History_Map [.ptr (p + 2) 0, .d (.i .u32 ((m : Int) + 1))] (hh [] p g grb0 X) = some (.tup [.d (.agg (mapAt (g.take m)).cs), .d (.b true)], hh [] p g grb0 X) := by
    intro X hX
    have := h_map hP hPp grb0_pl hX (l := g) ((m : Int) + 1)
    rwa [decide_eq_true (show 1 ≤ (m : Int) + 1 ∧ (m : Int) + 1 ≤ (g.length : Int) + 1 by omega), show ((m : Int) + 1 - 1).toNat = m by omega] at this
  have L := @h_last _ _ hP hPp g _ grb0_pl
  have F := fold_good (g.take m) (goodI_take hg m) (fun x hx => hgo x (List.mem_of_mem_take hx))
  have hsub : subL (g.map Inc.d) 0 m = (g.take m).map Inc.d := by unfold subL; rw [List.drop_zero, List.map_take]
  have hgm : (g.map Inc.d).length = g.length := List.length_map _
  have hmg : ((m : Int) ≤ ((g.length : Nat) : Int)) = True := eq_true (by omega)
  have hm0 : (0 ≤ (m : Int)) = True := eq_true (by omega)
  have hwu : IntKind.i64.wrap (((g.length : Int) + 1)) = (g.length : Int) + 1 := wi64 (by omega)
  have hee : ((g.length : Int) + 1 == (g.length : Int) + 1) = true := by simp
  have hmm : decide (mapAt (g.take m) = mapAt (g.take m)) = true := by simp
  have htm : min m g.length = m := Nat.min_eq_left hmk
  simp (config := {decide := true}) only [h1, h5, h6, hwk, hw1, hw2, hw3, hz, hm, M, L, F, hsub, hgm, hmg, hm0, hwu, hee, hmm, Int.toNat_natCast, Nat.sub_zero, hl, ha, ha0, hs, hs0, ht, ht0, hh_push, eptr_itv, n1, n2, n3, n4, n5, n6, Nat.zero_le, Nat.le_refl, List.take_zero, plain_nil, plain_arr, plain_box, Pk.EVL, keepT, enum, ↓reduceIte, ev, act, appT, callee, toDs, toD, loadA, storeA, subA, subD, updA, Eff.on, resA, resVs, resV, lk, finish, frzR, frzVs, frzV, fznR, fzns, fzn, lts, lt, ltO, List.all, pairsOk, indep, reduceCtorEq, Nat.reduceEqDiff, Nat.reduceAdd, Nat.reduceLeDiff, stb, thaws, List.drop, intOfA, binD, binI, unD, mmL, buildA, mkAgg, allD, behind, behind0, takeAt, frzAs, frzA, adoptR, adopt, isD, isD0, trim, List.take, binS, sliceA, bnd, zOk, elems, Nat.reduceBNe, inpl, Nat.reduceLT, Nat.reduceBEq, Nat.reduceSub, Nat.reduceMul, Int.reduceLT, Int.reduceLE, Int.reduceEq, Int.reduceToNat, Int.reduceNeg, thaw, nodup, refsV, adopts, Pk.TY_Mp, Pk.TY_Inc]
end Go.Proofs.Ytckaebcljcpobaa
