/- The law HistoryCuts. -/
import Derived.Test.YtckaebcljcpobaaHsN
set_option linter.all false
namespace Go.Proofs.Ytckaebcljcpobaa
open Pv Go Pk
set_option maxRecDepth 10000
set_option maxHeartbeats 4000000
theorem cuts_law (l : List Inc) (hok : ∀ x ∈ l, x.ok) (g : Int) (hg0 : 0 ≤ g ∧ g < 256) : evF C F_paddocklaw5_HistoryCuts [.d (.sl (l.map Inc.d)), .d (.i .u8 g)] [] = some (.d (.b true), []) := by
  obtain ⟨p, hP⟩ : ∃ p, ([] : Heap).length = p := ⟨_, rfl⟩
  obtain ⟨n, hn⟩ : ∃ n, p + 12 = n := ⟨_, rfl⟩
  have hPp : plain [] := fun _ => rfl
  have hnew := h_new hP
  have hl := hh_len hP hn
  have ha := hh_at hP hn
  have ha0 := hh_at0 hP hn
  have hs := hh_set hP hn
  have hs0 := hh_set0 hP hn
  have ht := hh_take hP hn
  have ht0 := hh_take0 hP hn
  have n1 : (p + 2 < n) = True := eq_true (by omega)
  have n2 : (p + 2 < n + 1) = True := eq_true (by omega)
  have n3 : (n < n + 1) = True := eq_true (by omega)
  have n4 : (n ≤ n + 1) = True := eq_true (by omega)
  have n5 : (n ≤ n + 2) = True := eq_true (by omega)
  have n6 : (n + 1 ≤ n + 2) = True := eq_true (by omega)
  have hlm : (l.map Inc.d).length = l.length := List.length_map _
  rw [evF_code (rfl : C F_paddocklaw5_HistoryCuts = some a_paddocklaw5_HistoryCuts) _ _ rfl]
  rcases Bool.eq_false_or_eq_true (decide (((l.length : Nat) : Int) > 25)) with c1 | c1
  · simp (config := {decide := true}) only [c_paddocklaw5_HistoryCuts, known5_at, hlm, c1, Pk.EVL, keepT, enum, ↓reduceIte, ev, act, appT, callee, toDs, toD, loadA, storeA, subA, subD, updA, Eff.on, resA, resVs, resV, lk, finish, frzR, frzVs, frzV, fznR, fzns, fzn, lts, lt, ltO, List.all, pairsOk, indep, reduceCtorEq, Nat.reduceEqDiff, Nat.reduceAdd, Nat.reduceLeDiff, stb, thaws, List.drop, intOfA, binD, binI, unD, mmL, buildA, mkAgg, allD, behind, behind0, takeAt, frzAs, frzA, adoptR, adopt, isD, isD0, trim, List.take, binS, sliceA, bnd, zOk, elems, Nat.reduceBNe, inpl, Nat.reduceLT, Nat.reduceBEq, Nat.reduceSub, Nat.reduceMul, Int.reduceLT, Int.reduceLE, Int.reduceEq, Int.reduceToNat, Int.reduceNeg, thaw, nodup, refsV, adopts]
  rcases Bool.eq_false_or_eq_true (decide (g ≥ 4)) with c2 | c2
  · simp (config := {decide := true}) only [c_paddocklaw5_HistoryCuts, known5_at, hlm, c1, c2, Pk.EVL, keepT, enum, ↓reduceIte, ev, act, appT, callee, toDs, toD, loadA, storeA, subA, subD, updA, Eff.on, resA, resVs, resV, lk, finish, frzR, frzVs, frzV, fznR, fzns, fzn, lts, lt, ltO, List.all, pairsOk, indep, reduceCtorEq, Nat.reduceEqDiff, Nat.reduceAdd, Nat.reduceLeDiff, stb, thaws, List.drop, intOfA, binD, binI, unD, mmL, buildA, mkAgg, allD, behind, behind0, takeAt, frzAs, frzA, adoptR, adopt, isD, isD0, trim, List.take, binS, sliceA, bnd, zOk, elems, Nat.reduceBNe, inpl, Nat.reduceLT, Nat.reduceBEq, Nat.reduceSub, Nat.reduceMul, Int.reduceLT, Int.reduceLE, Int.reduceEq, Int.reduceToNat, Int.reduceNeg, thaw, nodup, refsV, adopts]
  have hlen : l.length ≤ 25 := by have := of_decide_eq_false c1; omega
  have hg4 : 0 ≤ g ∧ g < 4 := by have := of_decide_eq_false c2; omega
  simp (config := {decide := true}) only [c_paddocklaw5_HistoryCuts, known5_at, hlm, c1, c2, hnew, thaws, thaw, hl, ha, ha0, hs, hs0, ht, ht0, hh_push, eptr_itv, n1, n2, n3, n4, n5, n6, Nat.zero_le, Nat.le_refl, List.take_zero, plain_nil, plain_arr, plain_box, Pk.EVL, keepT, enum, ↓reduceIte, ev, act, appT, callee, toDs, toD, loadA, storeA, subA, subD, updA, Eff.on, resA, resVs, resV, lk, finish, frzR, frzVs, frzV, fznR, fzns, fzn, lts, lt, ltO, List.all, pairsOk, indep, reduceCtorEq, Nat.reduceEqDiff, Nat.reduceAdd, Nat.reduceLeDiff, stb, thaws, List.drop, intOfA, binD, binI, unD, mmL, buildA, mkAgg, allD, behind, behind0, takeAt, frzAs, frzA, adoptR, adopt, isD, isD0, trim, List.take, binS, sliceA, bnd, zOk, elems, Nat.reduceBNe, inpl, Nat.reduceLT, Nat.reduceBEq, Nat.reduceSub, Nat.reduceMul, Int.reduceLT, Int.reduceLE, Int.reduceEq, Int.reduceToNat, Int.reduceNeg, thaw, nodup, refsV, adopts]
  simp only [Option.bind_assoc]
  refine bind_run (loop_run (fun i T H => lk T 0 = .d (.sl (l.map Inc.d)) ∧ lk T 1 = .d (.i .u8 g) ∧ lk T 5 = .ptr (p + 2) 0 ∧ lk T 6 = .d (.i .i64 (i : Nat)) ∧ H = hh [] p (takeAll (l.take i)) grb0 [])
    (fun e T H => e = .exit 0 ∧ lk T 0 = .d (.sl (l.map Inc.d)) ∧ lk T 1 = .d (.i .u8 g) ∧ lk T 5 = .ptr (p + 2) 0 ∧ H = hh [] p (takeAll l) grb0 []) l.length ?_ ?_ l.length 0 _ _ (by omega) ⟨rfl, rfl, rfl, rfl, rfl⟩) ?_
  · rintro i T H hi ⟨h0, g1, h5, h7, rfl⟩
    obtain ⟨x, hx⟩ : ∃ x, l[i]? = some x := ⟨l[i]'hi, List.getElem?_eq_getElem _⟩
    have hxd := list_idx Inc.d hx
    have hxo := hok x (List.mem_of_getElem? hx)
    have hg : goodI (takeAll (l.take i)) := takeAll_good fun y hy => hok y (List.mem_of_mem_take hy)
    have hnext : takeAll (l.take (i + 1)) = takeN (takeAll (l.take i)) x := by rw [take_succ' hx, takeAll_snoc]
    have hgl := hg.1
    rw [hnext]
    generalize takeAll (l.take i) = gg at *
    have L := @h_last _ _ hP hPp gg _ grb0_pl
    have A : ∀ X, plain X → evF C F_history_History_Add [.ptr (p + 2) 0, .d (.i .u32 ((gg.length : Int) + 2)), .d (.agg x.cs)] (hh [] p gg grb0 X) = some (.d (.i .i64 (codeN gg x)), hh [] p (takeN gg x) grb0 X) := fun X hX => h_add hP hPp hg grb0_pl hX ((gg.length : Int) + 2) (by omega) x hxo
    have hw1 : IntKind.u32.wrap (((gg.length : Int) + 1) + 1) = (gg.length : Int) + 2 := by rw [wu32 (by omega)]; omega
    have hd : decide ((i : Int) < ((l.length : Nat) : Int)) = true := by simp; omega
    have hw : IntKind.i64.wrap ((i : Int) + 1) = ((i + 1 : Nat) : Int) := wi64 (by omega)
    have b0 : (0 ≤ (i : Int)) = True := by simp
    have hall := @hh_all0 _ _ _ hP hn hPp gg _ grb0_pl [] (fun _ => rfl)
    simp (config := {decide := true}) only [K_paddocklaw5_HistoryCuts_0, l_paddocklaw5_HistoryCuts_0, h0, g1, h5, h7, hlm, hxd, L, A, hw1, hd, hw, b0, hall, ite_self, hl, ha, ha0, hs, hs0, ht, ht0, hh_push, eptr_itv, n1, n2, n3, n4, n5, n6, Nat.zero_le, Nat.le_refl, List.take_zero, plain_nil, plain_arr, plain_box, Pk.EVL, keepT, enum, ↓reduceIte, ev, act, appT, callee, toDs, toD, loadA, storeA, subA, subD, updA, Eff.on, resA, resVs, resV, lk, finish, frzR, frzVs, frzV, fznR, fzns, fzn, lts, lt, ltO, List.all, pairsOk, indep, reduceCtorEq, Nat.reduceEqDiff, Nat.reduceAdd, Nat.reduceLeDiff, stb, thaws, List.drop, intOfA, binD, binI, unD, mmL, buildA, mkAgg, allD, behind, behind0, takeAt, frzAs, frzA, adoptR, adopt, isD, isD0, trim, List.take, binS, sliceA, bnd, zOk, elems, Nat.reduceBNe, inpl, Nat.reduceLT, Nat.reduceBEq, Nat.reduceSub, Nat.reduceMul, Int.reduceLT, Int.reduceLE, Int.reduceEq, Int.reduceToNat, Int.reduceNeg, thaw, nodup, refsV, adopts, Pk.TY_Inc]
    exact ⟨_, _, _, rfl, .inl ⟨rfl, rfl, rfl, rfl, rfl, rfl⟩⟩
  · rintro T H ⟨h0, g1, h5, h7, rfl⟩
    rw [List.take_length]
    have hd : decide (((l.length : Nat) : Int) < ((l.length : Nat) : Int)) = false := by simp
    have hall := @hh_all0 _ _ _ hP hn hPp (takeAll l) _ grb0_pl [] (fun _ => rfl)
    simp (config := {decide := true}) only [K_paddocklaw5_HistoryCuts_0, l_paddocklaw5_HistoryCuts_0, h0, g1, h5, h7, hlm, hd, hall, ite_self, hl, ha, ha0, hs, hs0, ht, ht0, hh_push, eptr_itv, n1, n2, n3, n4, n5, n6, Nat.zero_le, Nat.le_refl, List.take_zero, plain_nil, plain_arr, plain_box, Pk.EVL, keepT, enum, ↓reduceIte, ev, act, appT, callee, toDs, toD, loadA, storeA, subA, subD, updA, Eff.on, resA, resVs, resV, lk, finish, frzR, frzVs, frzV, fznR, fzns, fzn, lts, lt, ltO, List.all, pairsOk, indep, reduceCtorEq, Nat.reduceEqDiff, Nat.reduceAdd, Nat.reduceLeDiff, stb, thaws, List.drop, intOfA, binD, binI, unD, mmL, buildA, mkAgg, allD, behind, behind0, takeAt, frzAs, frzA, adoptR, adopt, isD, isD0, trim, List.take, binS, sliceA, bnd, zOk, elems, Nat.reduceBNe, inpl, Nat.reduceLT, Nat.reduceBEq, Nat.reduceSub, Nat.reduceMul, Int.reduceLT, Int.reduceLE, Int.reduceEq, Int.reduceToNat, Int.reduceNeg, thaw, nodup, refsV, adopts, Pk.TY_Inc]
    exact ⟨_, _, _, rfl, by simp, rfl, rfl, rfl, rfl, rfl⟩
  rintro e T H ⟨rfl, h0, g1, h5, rfl⟩
  have hG : goodI (takeAll l) := takeAll_good hok
  have I := fun X (hX : plain X) => @h_intervals _ _ hP hPp _ hG _ grb0_pl X hX g hg4.1
  have hgl : (takeAll l).length ≤ 25 := Nat.le_trans (takeAll_len _) hlen
  clear h0
  generalize takeAll l = G at *
  have hq := Grb.frz_pl grb0_pl g
  generalize grb0.frz g = q at *
  simp (config := {decide := true}) only [g1, h5, I, hl, ha, ha0, hs, hs0, ht, ht0, hh_push, eptr_itv, n1, n2, n3, n4, n5, n6, Nat.zero_le, Nat.le_refl, List.take_zero, plain_nil, plain_arr, plain_box, Pk.EVL, keepT, enum, ↓reduceIte, ev, act, appT, callee, toDs, toD, loadA, storeA, subA, subD, updA, Eff.on, resA, resVs, resV, lk, finish, frzR, frzVs, frzV, fznR, fzns, fzn, lts, lt, ltO, List.all, pairsOk, indep, reduceCtorEq, Nat.reduceEqDiff, Nat.reduceAdd, Nat.reduceLeDiff, stb, thaws, List.drop, intOfA, binD, binI, unD, mmL, buildA, mkAgg, allD, behind, behind0, takeAt, frzAs, frzA, adoptR, adopt, isD, isD0, trim, List.take, binS, sliceA, bnd, zOk, elems, Nat.reduceBNe, inpl, Nat.reduceLT, Nat.reduceBEq, Nat.reduceSub, Nat.reduceMul, Int.reduceLT, Int.reduceLE, Int.reduceEq, Int.reduceToNat, Int.reduceNeg, thaw, nodup, refsV, adopts, Pk.TY_Mp, Pk.TY_Inc]
  simp only [Option.bind_assoc]
  have hVl : ((ivL G g).map Itv.d).length = (ivL G g).length := List.length_map _
  have hV26 := ivL_len hG g hg4
  have hV0 := ivL_ne G g hg4
  have L := @h_last _ _ hP hPp G _ hq
  refine bind_run (loop_run (fun i T H => lk T 1 = .d (.i .u8 g) ∧ lk T 5 = .ptr (p + 2) 0 ∧ lk T 7 = .d (.sl ((ivL G g).map Itv.d)) ∧ lk T 8 = .d (.i .i64 (((ivL (G.take (i - 1)) g).length - 1 : Nat) : Int)) ∧ lk T 9 = .d (.i .u32 ((i : Int) + 1)) ∧ ∃ J, plain J ∧ H = hh [] p G q J)
    (fun e T H => e = .exit 2 ∧ lk T 1 = .d (.i .u8 g) ∧ lk T 5 = .ptr (p + 2) 0 ∧ lk T 7 = .d (.sl ((ivL G g).map Itv.d)) ∧ lk T 8 = .d (.i .i64 (((ivL G g).length - 1 : Nat) : Int)) ∧ H = hh [] p G q []) (G.length + 1) ?_ ?_ (G.length + 1) 0 _ _ (by omega) ⟨rfl, rfl, rfl, ?_, rfl, [], fun _ => rfl, rfl⟩) ?_
  · rintro i T H hi ⟨g1, h5, h7, h8, h9, J, hJ, rfl⟩
    have hd : decide ((i : Int) + 1 ≤ (G.length : Int) + 1) = true := decide_eq_true (by omega)
    have hall := @hh_all0 _ _ _ hP hn hPp G _ hq [] (fun _ => rfl)
    have M : ∀ X, plain X → evF C F_history_History_Map [.ptr (p + 2) 0, .d (.i .u32 ((i : Int) + 1))] (hh [] p G q X) = some (.tup [.d (.agg (mapAt (G.take i)).cs), .d (.b true)], hh [] p G q X) := by
      intro X hX
      have := h_map hP hPp hq hX (l := G) ((i : Int) + 1)
      rwa [decide_eq_true (show 1 ≤ (i : Int) + 1 ∧ (i : Int) + 1 ≤ (G.length : Int) + 1 by omega), show ((i : Int) + 1 - 1).toNat = i by omega] at this
    have AC := acting_ev (mapAt (G.take i)) g
    have hw : IntKind.u32.wrap ((i : Int) + 1 + 1) = ((i + 1 : Nat) : Int) + 1 := by rw [wu32 (by omega)]; omega
    obtain ⟨hat, hact⟩ := ivL_at hG g hg4 i
    have hki := ivL_ne (G.take i) g hg4
    have hkl : (ivL (G.take i) g).length ≤ (ivL G g).length := by
      obtain ⟨r, h1, _⟩ := ivL_pre G g hg4 i
      rw [h1, List.length_append]; omega
    have hkv := list_idx Itv.d hat
    have IS := ints5_at (actI (mapAt (G.take i)) g) (actI (mapAt (G.take i)) g) (by have := actI_len (mapAt (G.take i)) g; omega)
    rw [decide_eq_true rfl] at IS
    have hcase : (ivL (G.take i) g = ivL (G.take (i - 1)) g) ∨ (ivL (G.take i) g = ivL (G.take (i - 1)) g ++ [⟨(i : Int) + 1, actI (mapAt (G.take i)) g⟩] ∧ (lastI (ivL (G.take (i - 1)) g)).acting ≠ actI (mapAt (G.take i)) g) := by
      cases i with
      | zero => exact .inl rfl
      | succ j =>
        rcases ivL_step hG g hg4 (i := j) (by omega) with h | ⟨h1, h2⟩
        · exact .inl h
        · refine .inr ⟨?_, h2⟩
          rw [h1]
          show _ ++ [(⟨(j : Int) + 2, _⟩ : Itv)] = _ ++ [⟨((j + 1 : Nat) : Int) + 1, _⟩]
          rw [show (j : Int) + 2 = ((j + 1 : Nat) : Int) + 1 by omega, Nat.add_sub_cancel]
    have hlater := fun y (hy : (ivL G g)[(ivL (G.take i) g).length]? = some y) => ivL_later g hg4 i hy
    obtain ⟨hat1, hact1⟩ := ivL_at hG g hg4 (i - 1)
    have hk1 := ivL_ne (G.take (i - 1)) g hg4
    have hkv1 := list_idx Itv.d hat1
    have hb0 : ∀ k : Nat, (0 ≤ (k : Int)) = True := fun k => eq_true (by omega)
    have hal := actI_len (mapAt (G.take i)) g
    have hal1 := actI_len (mapAt (G.take (i - 1))) g
    rcases hcase with hc | ⟨hc, hne⟩
    · rw [← hc] at h8
      obtain ⟨k, hk⟩ : ∃ k, (ivL (G.take i) g).length = k + 1 := ⟨(ivL (G.take i) g).length - 1, by omega⟩
      rw [hk, Nat.add_sub_cancel] at hkv h8
      rw [hk] at hlater
      have hgoal : ((ivL (G.take (i + 1 - 1)) g).length - 1) = k := by rw [Nat.add_sub_cancel, hk, Nat.add_sub_cancel]
      rw [hgoal]
      have hw8 : IntKind.i64.wrap ((k : Int) + 1) = ((k + 1 : Nat) : Int) := wi64 (by omega)
      have hge : decide ((k : Int) ≥ (((ivL G g).length : Nat) : Int)) = false := decide_eq_false (by omega)
      generalize lastI (ivL (G.take i) g) = y at *
      by_cases c : k + 1 < (ivL G g).length
      · have hcd : decide (((k + 1 : Nat) : Int) < (((ivL G g).length : Nat) : Int)) = true := decide_eq_true (by omega)
        obtain ⟨z, hz⟩ : ∃ z, (ivL G g)[k + 1]? = some z := ⟨(ivL G g)[k + 1]'c, List.getElem?_eq_getElem _⟩
        have hzd := list_idx Itv.d hz
        have hzs : (z.since == (i : Int) + 1) = false := by rw [beq_eq_false_iff_ne]; have := hlater z hz; omega
        simp (config := {decide := true}) only [K_paddocklaw5_HistoryCuts_1, l_paddocklaw5_HistoryCuts_1, g1, h5, h7, h8, h9, hd, hall, M, L, hw, hw8, hVl, hcd, hzd, hzs, hge, AC, hkv, hact, IS, hb0, ite_self, Int.toNat_natCast, hl, ha, ha0, hs, hs0, ht, ht0, hh_push, eptr_itv, n1, n2, n3, n4, n5, n6, Nat.zero_le, Nat.le_refl, List.take_zero, plain_nil, plain_arr, plain_box, Pk.EVL, keepT, enum, ↓reduceIte, ev, act, appT, callee, toDs, toD, loadA, storeA, subA, subD, updA, Eff.on, resA, resVs, resV, lk, finish, frzR, frzVs, frzV, fznR, fzns, fzn, lts, lt, ltO, List.all, pairsOk, indep, reduceCtorEq, Nat.reduceEqDiff, Nat.reduceAdd, Nat.reduceLeDiff, stb, thaws, List.drop, intOfA, binD, binI, unD, mmL, buildA, mkAgg, allD, behind, behind0, takeAt, frzAs, frzA, adoptR, adopt, isD, isD0, trim, List.take, binS, sliceA, bnd, zOk, elems, Nat.reduceBNe, inpl, Nat.reduceLT, Nat.reduceBEq, Nat.reduceSub, Nat.reduceMul, Int.reduceLT, Int.reduceLE, Int.reduceEq, Int.reduceToNat, Int.reduceNeg, thaw, nodup, refsV, adopts, Pk.TY_Mp, Pk.TY_Itv]
        refine ⟨_, _, _, rfl, ?_⟩
        exact .inl ⟨rfl, rfl, rfl, rfl, rfl, rfl, _, fun _ => rfl, rfl⟩
      · have hcd : decide (((k + 1 : Nat) : Int) < (((ivL G g).length : Nat) : Int)) = false := decide_eq_false (by omega)
        simp (config := {decide := true}) only [K_paddocklaw5_HistoryCuts_1, l_paddocklaw5_HistoryCuts_1, g1, h5, h7, h8, h9, hd, hall, M, L, hw, hw8, hVl, hcd, hge, AC, hkv, hact, IS, hb0, ite_self, Int.toNat_natCast, hl, ha, ha0, hs, hs0, ht, ht0, hh_push, eptr_itv, n1, n2, n3, n4, n5, n6, Nat.zero_le, Nat.le_refl, List.take_zero, plain_nil, plain_arr, plain_box, Pk.EVL, keepT, enum, ↓reduceIte, ev, act, appT, callee, toDs, toD, loadA, storeA, subA, subD, updA, Eff.on, resA, resVs, resV, lk, finish, frzR, frzVs, frzV, fznR, fzns, fzn, lts, lt, ltO, List.all, pairsOk, indep, reduceCtorEq, Nat.reduceEqDiff, Nat.reduceAdd, Nat.reduceLeDiff, stb, thaws, List.drop, intOfA, binD, binI, unD, mmL, buildA, mkAgg, allD, behind, behind0, takeAt, frzAs, frzA, adoptR, adopt, isD, isD0, trim, List.take, binS, sliceA, bnd, zOk, elems, Nat.reduceBNe, inpl, Nat.reduceLT, Nat.reduceBEq, Nat.reduceSub, Nat.reduceMul, Int.reduceLT, Int.reduceLE, Int.reduceEq, Int.reduceToNat, Int.reduceNeg, thaw, nodup, refsV, adopts, Pk.TY_Mp, Pk.TY_Itv]
        refine ⟨_, _, _, rfl, ?_⟩
        exact .inl ⟨rfl, rfl, rfl, rfl, rfl, rfl, _, fun _ => rfl, rfl⟩
    · have hlast : lastI (ivL (G.take i) g) = ⟨(i : Int) + 1, actI (mapAt (G.take i)) g⟩ := by rw [hc]; unfold lastI; simp
      obtain ⟨k, hk⟩ : ∃ k, (ivL (G.take (i - 1)) g).length = k + 1 := ⟨(ivL (G.take (i - 1)) g).length - 1, by omega⟩
      have hk' : (ivL (G.take i) g).length = k + 2 := by rw [hc, List.length_append, hk]; rfl
      rw [hk, Nat.add_sub_cancel] at hkv1 h8
      rw [hk', hlast] at hkv
      rw [show k + 2 - 1 = k + 1 by omega] at hkv
      have hgoal : ((ivL (G.take (i + 1 - 1)) g).length - 1) = k + 1 := by rw [Nat.add_sub_cancel, hk']; omega
      rw [hgoal]
      have hw8 : IntKind.i64.wrap ((k : Int) + 1) = ((k + 1 : Nat) : Int) := wi64 (by omega)
      have hw8' : IntKind.i64.wrap (((k + 1 : Nat) : Int) - 1) = (k : Int) := by rw [wi64 (by omega)]; omega
      have hcd : decide (((k + 1 : Nat) : Int) < (((ivL G g).length : Nat) : Int)) = true := decide_eq_true (by omega)
      have hge : decide (((k + 1 : Nat) : Int) ≥ (((ivL G g).length : Nat) : Int)) = false := decide_eq_false (by omega)
      have hbe : ((i : Int) + 1 == (i : Int) + 1) = true := by simp
      rw [hact1] at hne
      have INE := ints5_at (actI (mapAt (G.take i)) g) (actI (mapAt (G.take (i - 1))) g) (by omega)
      rw [decide_eq_false (fun h => hne h.symm)] at INE
      generalize lastI (ivL (G.take (i - 1)) g) = y at *
      simp (config := {decide := true}) only [K_paddocklaw5_HistoryCuts_1, l_paddocklaw5_HistoryCuts_1, g1, h5, h7, h8, h9, hd, hall, M, L, hw, hw8, hw8', hVl, hcd, hge, hbe, AC, hkv, hkv1, hact1, INE, IS, hb0, ite_self, Int.toNat_natCast, hl, ha, ha0, hs, hs0, ht, ht0, hh_push, eptr_itv, n1, n2, n3, n4, n5, n6, Nat.zero_le, Nat.le_refl, List.take_zero, plain_nil, plain_arr, plain_box, Pk.EVL, keepT, enum, ↓reduceIte, ev, act, appT, callee, toDs, toD, loadA, storeA, subA, subD, updA, Eff.on, resA, resVs, resV, lk, finish, frzR, frzVs, frzV, fznR, fzns, fzn, lts, lt, ltO, List.all, pairsOk, indep, reduceCtorEq, Nat.reduceEqDiff, Nat.reduceAdd, Nat.reduceLeDiff, stb, thaws, List.drop, intOfA, binD, binI, unD, mmL, buildA, mkAgg, allD, behind, behind0, takeAt, frzAs, frzA, adoptR, adopt, isD, isD0, trim, List.take, binS, sliceA, bnd, zOk, elems, Nat.reduceBNe, inpl, Nat.reduceLT, Nat.reduceBEq, Nat.reduceSub, Nat.reduceMul, Int.reduceLT, Int.reduceLE, Int.reduceEq, Int.reduceToNat, Int.reduceNeg, thaw, nodup, refsV, adopts, Pk.TY_Mp, Pk.TY_Itv]
      refine ⟨_, _, _, rfl, ?_⟩
      exact .inl ⟨rfl, rfl, rfl, rfl, rfl, rfl, _, fun _ => rfl, rfl⟩
  · rintro T H ⟨g1, h5, h7, h8, h9, J, hJ, rfl⟩
    have hd : decide (((G.length + 1 : Nat) : Int) + 1 ≤ (G.length : Int) + 1) = false := decide_eq_false (by omega)
    have hall := @hh_all0 _ _ _ hP hn hPp G _ hq [] (fun _ => rfl)
    rw [Nat.add_sub_cancel, List.take_length] at h8
    simp (config := {decide := true}) only [K_paddocklaw5_HistoryCuts_1, l_paddocklaw5_HistoryCuts_1, g1, h5, h7, h8, h9, hd, hall, L, ite_self, hl, ha, ha0, hs, hs0, ht, ht0, hh_push, eptr_itv, n1, n2, n3, n4, n5, n6, Nat.zero_le, Nat.le_refl, List.take_zero, plain_nil, plain_arr, plain_box, Pk.EVL, keepT, enum, ↓reduceIte, ev, act, appT, callee, toDs, toD, loadA, storeA, subA, subD, updA, Eff.on, resA, resVs, resV, lk, finish, frzR, frzVs, frzV, fznR, fzns, fzn, lts, lt, ltO, List.all, pairsOk, indep, reduceCtorEq, Nat.reduceEqDiff, Nat.reduceAdd, Nat.reduceLeDiff, stb, thaws, List.drop, intOfA, binD, binI, unD, mmL, buildA, mkAgg, allD, behind, behind0, takeAt, frzAs, frzA, adoptR, adopt, isD, isD0, trim, List.take, binS, sliceA, bnd, zOk, elems, Nat.reduceBNe, inpl, Nat.reduceLT, Nat.reduceBEq, Nat.reduceSub, Nat.reduceMul, Int.reduceLT, Int.reduceLE, Int.reduceEq, Int.reduceToNat, Int.reduceNeg, thaw, nodup, refsV, adopts, Pk.TY_Mp, Pk.TY_Itv]
    exact ⟨_, _, _, rfl, by simp, rfl, rfl, rfl, rfl, rfl, rfl⟩
  · show AV.d (.i .i64 0) = .d (.i .i64 (((ivL (G.take (0 - 1)) g).length - 1 : Nat) : Int))
    rw [Nat.zero_sub, List.take_zero, ivL_nil g hg4]
    rfl
  rintro e T H ⟨rfl, g1, h5, h7, h8, rfl⟩
  have S := fun X (hX : plain X) => @h_since _ _ hP hPp G hG _ hq X hX g hg4.1
  have hlv := list_idx Itv.d (lastI_at hV0)
  have hfv := list_idx Itv.d (ivL_first G g hg4)
  obtain ⟨k, hk⟩ : ∃ k, (ivL G g).length = k + 1 := ⟨(ivL G g).length - 1, by omega⟩
  rw [hk] at hVl hlv h8
  rw [Nat.add_sub_cancel] at hlv h8
  have hw8' : IntKind.i64.wrap (((k + 1 : Nat) : Int) - 1) = (k : Int) := by rw [wi64 (by omega)]; omega
  have hbe : ∀ x : Int, (x == x) = true := fun x => by simp
  have hb0 : ∀ k : Nat, (0 ≤ (k : Int)) = True := fun k => eq_true (by omega)
  have hall := @hh_all0 _ _ _ hP hn hPp G _ hq [] (fun _ => rfl)
  simp (config := {decide := true}) only [g1, h5, h7, h8, hall, hVl, hw8', hbe, hb0, hfv, hlv, S, Int.toNat_natCast, hl, ha, ha0, hs, hs0, ht, ht0, hh_push, eptr_itv, n1, n2, n3, n4, n5, n6, Nat.zero_le, Nat.le_refl, List.take_zero, plain_nil, plain_arr, plain_box, Pk.EVL, keepT, enum, ↓reduceIte, ev, act, appT, callee, toDs, toD, loadA, storeA, subA, subD, updA, Eff.on, resA, resVs, resV, lk, finish, frzR, frzVs, frzV, fznR, fzns, fzn, lts, lt, ltO, List.all, pairsOk, indep, reduceCtorEq, Nat.reduceEqDiff, Nat.reduceAdd, Nat.reduceLeDiff, stb, thaws, List.drop, intOfA, binD, binI, unD, mmL, buildA, mkAgg, allD, behind, behind0, takeAt, frzAs, frzA, adoptR, adopt, isD, isD0, trim, List.take, binS, sliceA, bnd, zOk, elems, Nat.reduceBNe, inpl, Nat.reduceLT, Nat.reduceBEq, Nat.reduceSub, Nat.reduceMul, Int.reduceLT, Int.reduceLE, Int.reduceEq, Int.reduceToNat, Int.reduceNeg, thaw, nodup, refsV, adopts, Pk.TY_Mp, Pk.TY_Itv]
end Go.Proofs.Ytckaebcljcpobaa
