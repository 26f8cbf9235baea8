/- The law HistorySame. -/
import Derived.Test.YtckaebcljcpobaaHsS
set_option linter.all false
namespace Go.Proofs.Ytckaebcljcpobaa
open Pv Go Pk
set_option maxRecDepth 10000
set_option maxHeartbeats 4000000
theorem same_law (l : List Inc) (hok : ∀ x ∈ l, x.ok) (o : List Int) (ho : ∀ x ∈ o, 0 ≤ x ∧ x < 256) : evF C F_paddocklaw5_HistorySame [.d (.sl (l.map Inc.d)), .d (.sl (o.map fun x => .i .u8 x))] [] = some (.d (.b true), []) := by
  obtain ⟨p, hp⟩ : ∃ p : Nat, p = 0 := ⟨_, rfl⟩
  obtain ⟨p2, hp2⟩ : ∃ p2 : Nat, p2 = 12 := ⟨_, rfl⟩
  obtain ⟨n, hn⟩ : ∃ n : Nat, n = 24 := ⟨_, rfl⟩
  have hP : ([] : Heap).length = p := hp.symm
  have hnew := h_new hP
  have hnew2 := h2_new hp hp2
  have hlh : (hh [] p [] grb0 []).length = p2 := by unfold hh hq; rw [List.length_append, List.length_append, hobs_len, hp2]; rfl
  have n0 : (p2 ≤ n) = True := eq_true (by omega)
  have hl := @h2_len p p2 n hn
  have ha := @h2_at p p2 n hn
  have ha0 := @h2_at0 p p2 n hn
  have hs := @h2_set p p2 n hn
  have hs0 := @h2_set0 p p2 n hn
  have ht := @h2_take p p2 n hn
  have ht0 := @h2_take0 p p2 n hn
  have n1 : (p + 2 < n) = True := eq_true (by omega)
  have n2 : (p + 2 < n + 1) = True := eq_true (by omega)
  have n3 : (n < n + 1) = True := eq_true (by omega)
  have n4 : (n ≤ n + 1) = True := eq_true (by omega)
  have n5 : (n ≤ n + 2) = True := eq_true (by omega)
  have n6 : (n + 1 ≤ n + 2) = True := eq_true (by omega)
  have n7 : (p2 + 2 < n) = True := eq_true (by omega)
  have n8 : (p2 + 2 < n + 1) = True := eq_true (by omega)
  have n9 : (n < n + 2) = True := eq_true (by omega)
  have m1 : (p + 2 < n + 3) = True := eq_true (by omega)
  have m2 : (p2 + 2 < n + 3) = True := eq_true (by omega)
  have m3 : (n < n + 3) = True := eq_true (by omega)
  have m4 : (n + 1 < n + 3) = True := eq_true (by omega)
  have m5 : (n + 2 < n + 3) = True := eq_true (by omega)
  have m6 : (p + 2 < n + 4) = True := eq_true (by omega)
  have m7 : (p2 + 2 < n + 4) = True := eq_true (by omega)
  have m8 : (n < n + 4) = True := eq_true (by omega)
  have m9 : (n + 1 < n + 4) = True := eq_true (by omega)
  have m10 : (n + 2 < n + 4) = True := eq_true (by omega)
  have m11 : (n + 3 < n + 4) = True := eq_true (by omega)
  have hlm : (l.map Inc.d).length = l.length := List.length_map _
  have hlo : (o.map fun x : Int => DV.i .u8 x).length = o.length := List.length_map _
  rw [evF_code (rfl : C F_paddocklaw5_HistorySame = some a_paddocklaw5_HistorySame) _ _ rfl]
  rcases Bool.eq_false_or_eq_true (decide (((l.length : Nat) : Int) > 20)) with c1 | c1
  · simp (config := {decide := true}) only [c_paddocklaw5_HistorySame, known5_at, hlm, hlo, c1, Pk.EVL, keepT, enum, ↓reduceIte, ev, act, appT, callee, toDs, toD, loadA, storeA, subA, subD, updA, Eff.on, resA, resVs, resV, lk, finish, frzR, frzVs, frzV, fznR, fzns, fzn, lts, lt, ltO, List.all, pairsOk, indep, reduceCtorEq, Nat.reduceEqDiff, Nat.reduceAdd, Nat.reduceLeDiff, stb, thaws, List.drop, intOfA, binD, binI, unD, mmL, buildA, mkAgg, allD, behind, behind0, takeAt, frzAs, frzA, adoptR, adopt, isD, isD0, trim, List.take, binS, sliceA, bnd, zOk, elems, Nat.reduceBNe, inpl, Nat.reduceLT, Nat.reduceBEq, Nat.reduceSub, Nat.reduceMul, Int.reduceLT, Int.reduceLE, Int.reduceEq, Int.reduceToNat, Int.reduceNeg, thaw, nodup, refsV, adopts]
  rcases Bool.eq_false_or_eq_true (decide (((o.length : Nat) : Int) > 60)) with c2 | c2
  · simp (config := {decide := true}) only [c_paddocklaw5_HistorySame, known5_at, hlm, hlo, c1, c2, Pk.EVL, keepT, enum, ↓reduceIte, ev, act, appT, callee, toDs, toD, loadA, storeA, subA, subD, updA, Eff.on, resA, resVs, resV, lk, finish, frzR, frzVs, frzV, fznR, fzns, fzn, lts, lt, ltO, List.all, pairsOk, indep, reduceCtorEq, Nat.reduceEqDiff, Nat.reduceAdd, Nat.reduceLeDiff, stb, thaws, List.drop, intOfA, binD, binI, unD, mmL, buildA, mkAgg, allD, behind, behind0, takeAt, frzAs, frzA, adoptR, adopt, isD, isD0, trim, List.take, binS, sliceA, bnd, zOk, elems, Nat.reduceBNe, inpl, Nat.reduceLT, Nat.reduceBEq, Nat.reduceSub, Nat.reduceMul, Int.reduceLT, Int.reduceLE, Int.reduceEq, Int.reduceToNat, Int.reduceNeg, thaw, nodup, refsV, adopts]
  have hlen : l.length ≤ 20 := by have := of_decide_eq_false c1; omega
  have holen : o.length ≤ 60 := by have := of_decide_eq_false c2; omega
  simp (config := {decide := true}) only [c_paddocklaw5_HistorySame, known5_at, hlm, hlo, c1, c2, hnew, hnew2, thaws, thaw, hlh, n0, hl, ha, ha0, hs, hs0, ht, ht0, h2_push, eptr_itv, n1, n2, n3, n4, n5, n6, n7, n8, n9, m1, m2, m3, m4, m5, m6, m7, m8, m9, m10, m11, Nat.zero_le, Nat.le_refl, List.take_zero, plain_nil, plain_arr, plain_box, Pk.EVL, keepT, enum, ↓reduceIte, ev, act, appT, callee, toDs, toD, loadA, storeA, subA, subD, updA, Eff.on, resA, resVs, resV, lk, finish, frzR, frzVs, frzV, fznR, fzns, fzn, lts, lt, ltO, List.all, pairsOk, indep, reduceCtorEq, Nat.reduceEqDiff, Nat.reduceAdd, Nat.reduceLeDiff, stb, thaws, List.drop, intOfA, binD, binI, unD, mmL, buildA, mkAgg, allD, behind, behind0, takeAt, frzAs, frzA, adoptR, adopt, isD, isD0, trim, List.take, binS, sliceA, bnd, zOk, elems, Nat.reduceBNe, inpl, Nat.reduceLT, Nat.reduceBEq, Nat.reduceSub, Nat.reduceMul, Int.reduceLT, Int.reduceLE, Int.reduceEq, Int.reduceToNat, Int.reduceNeg, thaw, nodup, refsV, adopts]
  simp only [Option.bind_assoc]
  refine bind_run (loop_run (fun i T H => lk T 0 = .d (.sl (l.map Inc.d)) ∧ lk T 1 = .d (.sl (o.map fun x => .i .u8 x)) ∧ lk T 5 = .ptr (p + 2) 0 ∧ lk T 6 = .ptr (p2 + 2) 0 ∧ lk T 7 = .d (.i .i64 (i : Nat)) ∧ H = h2 p (takeAll (l.take i)) grb0 p2 [] grb0 [])
    (fun e T H => e = .exit 0 ∧ lk T 1 = .d (.sl (o.map fun x => .i .u8 x)) ∧ lk T 5 = .ptr (p + 2) 0 ∧ lk T 6 = .ptr (p2 + 2) 0 ∧ H = h2 p (takeAll l) grb0 p2 [] grb0 []) l.length ?_ ?_ l.length 0 _ _ (by omega) ⟨rfl, rfl, rfl, rfl, rfl, rfl⟩) ?_
  · rintro i T H hi ⟨h0, h1, h5, h6, h7, rfl⟩
    obtain ⟨x, hx⟩ : ∃ x, l[i]? = some x := ⟨l[i]'hi, List.getElem?_eq_getElem _⟩
    have hxd := list_idx Inc.d hx
    have hxo := hok x (List.mem_of_getElem? hx)
    have hg : goodI (takeAll (l.take i)) := takeAll_good fun y hy => hok y (List.mem_of_mem_take hy)
    have hnext : takeAll (l.take (i + 1)) = takeN (takeAll (l.take i)) x := by rw [take_succ' hx, takeAll_snoc]
    have hgl := hg.1
    rw [hnext]
    generalize takeAll (l.take i) = gg at *
    have L := fun X (hX : plain X) => @h2a_last p p2 hp hp2 gg _ grb0_pl [] _ grb0_pl X hX
    have A : ∀ X, plain X → evF C F_history_History_Add [.ptr (p + 2) 0, .d (.i .u32 ((gg.length : Int) + 2)), .d (.agg x.cs)] (h2 p gg grb0 p2 [] grb0 X) = some (.d (.i .i64 (codeN gg x)), h2 p (takeN gg x) grb0 p2 [] grb0 X) := fun X hX => h2a_add hp hp2 grb0_pl grb0_pl hX hg ((gg.length : Int) + 2) (by omega) x hxo
    have hw1 : IntKind.u32.wrap (((gg.length : Int) + 1) + 1) = (gg.length : Int) + 2 := by rw [wu32 (by omega)]; omega
    have hd : decide ((i : Int) < ((l.length : Nat) : Int)) = true := by simp; omega
    have hw : IntKind.i64.wrap ((i : Int) + 1) = ((i + 1 : Nat) : Int) := wi64 (by omega)
    have b0 : (0 ≤ (i : Int)) = True := by simp
    have hall := @h2_all0 p p2 n hp hp2 hn gg _ grb0_pl [] _ grb0_pl [] (fun _ => rfl)
    simp (config := {decide := true}) only [K_paddocklaw5_HistorySame_0, l_paddocklaw5_HistorySame_0, h0, h1, h5, h6, h7, hlm, hxd, L, A, hw1, hd, hw, b0, hall, ite_self, hlh, n0, hl, ha, ha0, hs, hs0, ht, ht0, h2_push, eptr_itv, n1, n2, n3, n4, n5, n6, n7, n8, n9, m1, m2, m3, m4, m5, m6, m7, m8, m9, m10, m11, Nat.zero_le, Nat.le_refl, List.take_zero, plain_nil, plain_arr, plain_box, Pk.EVL, keepT, enum, ↓reduceIte, ev, act, appT, callee, toDs, toD, loadA, storeA, subA, subD, updA, Eff.on, resA, resVs, resV, lk, finish, frzR, frzVs, frzV, fznR, fzns, fzn, lts, lt, ltO, List.all, pairsOk, indep, reduceCtorEq, Nat.reduceEqDiff, Nat.reduceAdd, Nat.reduceLeDiff, stb, thaws, List.drop, intOfA, binD, binI, unD, mmL, buildA, mkAgg, allD, behind, behind0, takeAt, frzAs, frzA, adoptR, adopt, isD, isD0, trim, List.take, binS, sliceA, bnd, zOk, elems, Nat.reduceBNe, inpl, Nat.reduceLT, Nat.reduceBEq, Nat.reduceSub, Nat.reduceMul, Int.reduceLT, Int.reduceLE, Int.reduceEq, Int.reduceToNat, Int.reduceNeg, thaw, nodup, refsV, adopts, Pk.TY_Inc]
    exact ⟨_, _, _, rfl, .inl ⟨rfl, rfl, rfl, rfl, rfl, rfl, rfl⟩⟩
  · rintro T H ⟨h0, h1, h5, h6, h7, rfl⟩
    rw [List.take_length]
    have hd : decide (((l.length : Nat) : Int) < ((l.length : Nat) : Int)) = false := by simp
    have hall := @h2_all0 p p2 n hp hp2 hn (takeAll l) _ grb0_pl [] _ grb0_pl [] (fun _ => rfl)
    simp (config := {decide := true}) only [K_paddocklaw5_HistorySame_0, l_paddocklaw5_HistorySame_0, h0, h1, h5, h6, h7, hlm, hd, hall, ite_self, hlh, n0, hl, ha, ha0, hs, hs0, ht, ht0, h2_push, eptr_itv, n1, n2, n3, n4, n5, n6, n7, n8, n9, m1, m2, m3, m4, m5, m6, m7, m8, m9, m10, m11, Nat.zero_le, Nat.le_refl, List.take_zero, plain_nil, plain_arr, plain_box, Pk.EVL, keepT, enum, ↓reduceIte, ev, act, appT, callee, toDs, toD, loadA, storeA, subA, subD, updA, Eff.on, resA, resVs, resV, lk, finish, frzR, frzVs, frzV, fznR, fzns, fzn, lts, lt, ltO, List.all, pairsOk, indep, reduceCtorEq, Nat.reduceEqDiff, Nat.reduceAdd, Nat.reduceLeDiff, stb, thaws, List.drop, intOfA, binD, binI, unD, mmL, buildA, mkAgg, allD, behind, behind0, takeAt, frzAs, frzA, adoptR, adopt, isD, isD0, trim, List.take, binS, sliceA, bnd, zOk, elems, Nat.reduceBNe, inpl, Nat.reduceLT, Nat.reduceBEq, Nat.reduceSub, Nat.reduceMul, Int.reduceLT, Int.reduceLE, Int.reduceEq, Int.reduceToNat, Int.reduceNeg, thaw, nodup, refsV, adopts, Pk.TY_Inc]
    exact ⟨_, _, _, rfl, by simp, rfl, rfl, rfl, rfl, rfl⟩
  rintro e T H ⟨rfl, h1, h5, h6, rfl⟩
  have hG : goodI (takeAll l) := takeAll_good hok
  have hGo : ∀ x ∈ takeAll l, x.ok := fun x hx => hok x (takeAll_mem x hx)
  have hGl : (takeAll l).length ≤ 20 := Nat.le_trans (takeAll_len _) hlen
  generalize takeAll l = G at *
  clear c1 c2 hlm
  have hGat : ∀ k : Nat, k < G.length → ∃ x, G[k]? = some x ∧ x.ok ∧ isInc x = true ∧ incAt G ((k : Int) + 2) = x := by
    intro k hk
    refine ⟨G[k], List.getElem?_eq_getElem hk, hGo _ (List.getElem_mem hk), (hG.2 _ (List.getElem_mem hk)).1, ?_⟩
    unfold incAt
    rw [if_pos (by omega), show ((k : Int) + 2 - 2).toNat = k by omega, List.getElem?_eq_getElem hk]
    rfl
  simp (config := {decide := true}) only [h1, h5, h6, hlh, n0, hl, ha, ha0, hs, hs0, ht, ht0, h2_push, eptr_itv, n1, n2, n3, n4, n5, n6, n7, n8, n9, m1, m2, m3, m4, m5, m6, m7, m8, m9, m10, m11, Nat.zero_le, Nat.le_refl, List.take_zero, plain_nil, plain_arr, plain_box, Pk.EVL, keepT, enum, ↓reduceIte, ev, act, appT, callee, toDs, toD, loadA, storeA, subA, subD, updA, Eff.on, resA, resVs, resV, lk, finish, frzR, frzVs, frzV, fznR, fzns, fzn, lts, lt, ltO, List.all, pairsOk, indep, reduceCtorEq, Nat.reduceEqDiff, Nat.reduceAdd, Nat.reduceLeDiff, stb, thaws, List.drop, intOfA, binD, binI, unD, mmL, buildA, mkAgg, allD, behind, behind0, takeAt, frzAs, frzA, adoptR, adopt, isD, isD0, trim, List.take, binS, sliceA, bnd, zOk, elems, Nat.reduceBNe, inpl, Nat.reduceLT, Nat.reduceBEq, Nat.reduceSub, Nat.reduceMul, Int.reduceLT, Int.reduceLE, Int.reduceEq, Int.reduceToNat, Int.reduceNeg, thaw, nodup, refsV, adopts]
  simp only [Option.bind_assoc]
  have LA := fun (B : List Inc) X (hX : plain X) => @h2a_last p p2 hp hp2 G _ grb0_pl B _ grb0_pl X hX
  have LB := fun (B : List Inc) X (hX : plain X) => @h2b_last p p2 hp hp2 G _ grb0_pl B _ grb0_pl X hX
  refine bind_run (loop_run (fun i T H => lk T 1 = .d (.sl (o.map fun x => .i .u8 x)) ∧ lk T 5 = .ptr (p + 2) 0 ∧ lk T 6 = .ptr (p2 + 2) 0 ∧ lk T 8 = .d (.i .i64 (i : Nat)) ∧ ∃ k J, k ≤ G.length ∧ plain J ∧ H = h2 p G grb0 p2 (G.take k) grb0 J)
    (fun e T H => e = .exit 2 ∧ lk T 5 = .ptr (p + 2) 0 ∧ lk T 6 = .ptr (p2 + 2) 0 ∧ ∃ k, k ≤ G.length ∧ H = h2 p G grb0 p2 (G.take k) grb0 []) o.length ?_ ?_ o.length 0 _ _ (by omega) ⟨rfl, rfl, rfl, rfl, 0, [], by omega, fun _ => rfl, rfl⟩) ?_
  · rintro i T H hi ⟨h1, h5, h6, h8, k, J, hk, hJ, rfl⟩
    obtain ⟨x, hx⟩ : ∃ x, o[i]? = some x := ⟨o[i]'hi, List.getElem?_eq_getElem _⟩
    have hxd := list_idx (fun x : Int => DV.i .u8 x) hx
    have hx0 := ho x (List.mem_of_getElem? hx)
    have hd : decide ((i : Int) < ((o.length : Nat) : Int)) = true := by simp; omega
    have hw : IntKind.i64.wrap ((i : Int) + 1) = ((i + 1 : Nat) : Int) := wi64 (by omega)
    have b0 : (0 ≤ (i : Int)) = True := by simp
    have hall := @h2_all0 p p2 n hp hp2 hn G _ grb0_pl (G.take k) _ grb0_pl [] (fun _ => rfl)
    have LA := LA (G.take k)
    by_cases cG : G.length = 0
    · have hgt : decide ((G.length : Int) + 1 > 1) = false := decide_eq_false (by omega)
      simp (config := {decide := true}) only [K_paddocklaw5_HistorySame_1, l_paddocklaw5_HistorySame_1, h1, h5, h6, h8, hlo, hxd, hd, hw, b0, hall, LA, hgt, ite_self, hlh, n0, hl, ha, ha0, hs, hs0, ht, ht0, h2_push, eptr_itv, n1, n2, n3, n4, n5, n6, n7, n8, n9, m1, m2, m3, m4, m5, m6, m7, m8, m9, m10, m11, Nat.zero_le, Nat.le_refl, List.take_zero, plain_nil, plain_arr, plain_box, Pk.EVL, keepT, enum, ↓reduceIte, ev, act, appT, callee, toDs, toD, loadA, storeA, subA, subD, updA, Eff.on, resA, resVs, resV, lk, finish, frzR, frzVs, frzV, fznR, fzns, fzn, lts, lt, ltO, List.all, pairsOk, indep, reduceCtorEq, Nat.reduceEqDiff, Nat.reduceAdd, Nat.reduceLeDiff, stb, thaws, List.drop, intOfA, binD, binI, unD, mmL, buildA, mkAgg, allD, behind, behind0, takeAt, frzAs, frzA, adoptR, adopt, isD, isD0, trim, List.take, binS, sliceA, bnd, zOk, elems, Nat.reduceBNe, inpl, Nat.reduceLT, Nat.reduceBEq, Nat.reduceSub, Nat.reduceMul, Int.reduceLT, Int.reduceLE, Int.reduceEq, Int.reduceToNat, Int.reduceNeg, thaw, nodup, refsV, adopts, Pk.TY_Inc]
      exact ⟨_, _, _, rfl, .inr ⟨by simp, rfl, rfl, rfl, k, hk, rfl⟩⟩
    have hgt : decide ((G.length : Int) + 1 > 1) = true := decide_eq_true (by omega)
    obtain ⟨xn, rfl⟩ := Int.eq_ofNat_of_zero_le hx0.1
    obtain ⟨m, hm, hml⟩ : ∃ m : Nat, ((xn : Int)).tmod (G.length : Int) = (m : Int) ∧ m < G.length := ⟨xn % G.length, rfl, Nat.mod_lt _ (by omega)⟩
    have hw0 : IntKind.u32.wrap (xn : Int) = (xn : Int) := wu32 (by omega)
    have hw1 : IntKind.u32.wrap ((G.length : Int) + 1 - 1) = (G.length : Int) := by rw [wu32 (by omega)]; omega
    have hz : ((G.length : Int) = 0) = False := eq_false (by omega)
    have hw2 : IntKind.u32.wrap ((m : Int) + 2) = (m : Int) + 2 := wu32 (by omega)
    obtain ⟨y, hy, hyo, hyi, hya⟩ := hGat m hml
    have IA : ∀ X, plain X → evF C F_history_History_Inc [.ptr (p + 2) 0, .d (.i .u32 ((m : Int) + 2))] (h2 p G grb0 p2 (G.take k) grb0 X) = some (.tup [.d (.agg y.cs), .d (.b true)], h2 p G grb0 p2 (G.take k) grb0 X) := by
      intro X hX
      have := h2a_inc hp hp2 grb0_pl grb0_pl hX (l := G) (l2 := G.take k) ((m : Int) + 2)
      rwa [hya, decide_eq_true (show 2 ≤ (m : Int) + 2 ∧ (m : Int) + 2 ≤ (G.length : Int) + 1 by omega)] at this
    have hkt : (G.take k).length = k := by rw [List.length_take]; omega
    have LB : ∀ X, plain X → evF C F_history_History_Last [.ptr (p2 + 2) 0] (h2 p G grb0 p2 (G.take k) grb0 X) = some (.d (.i .u32 ((k : Int) + 1)), h2 p G grb0 p2 (G.take k) grb0 X) := by
      intro X hX
      have := LB (G.take k) X hX
      rwa [hkt] at this
    have hw3 : IntKind.u32.wrap ((k : Int) + 1 + 1) = (k : Int) + 2 := by rw [wu32 (by omega)]; omega
    have AB := fun X (hX : plain X) => @h2b_add p p2 hp hp2 G _ grb0_pl (G.take k) _ grb0_pl X hX (goodI_take hG k) ((m : Int) + 2) (by omega) y hyo
    have hz3 : (DV.agg [.i .u8 0, .i .u8 0, .i .i64 0]) = .agg (Inc.mk 0 0 0).cs := rfl
    have eqb : ∀ u v : Bool, eqV .sb (.b u) (.b v) = some (u == v) := fun u v => by simp only [eqV]
    rcases Nat.lt_trichotomy m k with hc | hc | hc
    · have hadd : addL (G.take k) ((m : Int) + 2) y = (G.take k, 51) := by unfold addL; rw [if_pos (by rw [hkt]; omega)]
      rw [hadd] at AB
      have he : ((m : Int) + 2 == (k : Int) + 2) = false := by rw [beq_eq_false_iff_ne]; omega
      simp (config := {decide := true}) only [K_paddocklaw5_HistorySame_1, l_paddocklaw5_HistorySame_1, h1, h5, h6, h8, hlo, hxd, hd, hw, b0, hall, LA, LB, hgt, hm, hw0, hw1, hz, hw2, hw3, IA, AB, hz3, he, eqb, ite_self, Int.toNat_natCast, hlh, n0, hl, ha, ha0, hs, hs0, ht, ht0, h2_push, eptr_itv, n1, n2, n3, n4, n5, n6, n7, n8, n9, m1, m2, m3, m4, m5, m6, m7, m8, m9, m10, m11, Nat.zero_le, Nat.le_refl, List.take_zero, plain_nil, plain_arr, plain_box, Pk.EVL, keepT, enum, ↓reduceIte, ev, act, appT, callee, toDs, toD, loadA, storeA, subA, subD, updA, Eff.on, resA, resVs, resV, lk, finish, frzR, frzVs, frzV, fznR, fzns, fzn, lts, lt, ltO, List.all, pairsOk, indep, reduceCtorEq, Nat.reduceEqDiff, Nat.reduceAdd, Nat.reduceLeDiff, stb, thaws, List.drop, intOfA, binD, binI, unD, mmL, buildA, mkAgg, allD, behind, behind0, takeAt, frzAs, frzA, adoptR, adopt, isD, isD0, trim, List.take, binS, sliceA, bnd, zOk, elems, Nat.reduceBNe, inpl, Nat.reduceLT, Nat.reduceBEq, Nat.reduceSub, Nat.reduceMul, Int.reduceLT, Int.reduceLE, Int.reduceEq, Int.reduceToNat, Int.reduceNeg, thaw, nodup, refsV, adopts, Pk.TY_Inc]
      exact ⟨_, _, _, rfl, .inl ⟨rfl, rfl, rfl, rfl, rfl, k, _, hk, fun _ => rfl, rfl⟩⟩
    · subst hc
      have hadd : addL (G.take m) ((m : Int) + 2) y = (G.take (m + 1), 0) := by
        unfold addL
        rw [if_neg (by rw [hkt]; omega), if_neg (by rw [hkt]; omega), if_pos ⟨hyi, by rw [hkt]; omega⟩, take_succ' hy]
      rw [hadd] at AB
      have he : ((m : Int) + 2 == (m : Int) + 2) = true := by simp
      simp (config := {decide := true}) only [K_paddocklaw5_HistorySame_1, l_paddocklaw5_HistorySame_1, h1, h5, h6, h8, hlo, hxd, hd, hw, b0, hall, LA, LB, hgt, hm, hw0, hw1, hz, hw2, hw3, IA, AB, hz3, he, eqb, ite_self, Int.toNat_natCast, hlh, n0, hl, ha, ha0, hs, hs0, ht, ht0, h2_push, eptr_itv, n1, n2, n3, n4, n5, n6, n7, n8, n9, m1, m2, m3, m4, m5, m6, m7, m8, m9, m10, m11, Nat.zero_le, Nat.le_refl, List.take_zero, plain_nil, plain_arr, plain_box, Pk.EVL, keepT, enum, ↓reduceIte, ev, act, appT, callee, toDs, toD, loadA, storeA, subA, subD, updA, Eff.on, resA, resVs, resV, lk, finish, frzR, frzVs, frzV, fznR, fzns, fzn, lts, lt, ltO, List.all, pairsOk, indep, reduceCtorEq, Nat.reduceEqDiff, Nat.reduceAdd, Nat.reduceLeDiff, stb, thaws, List.drop, intOfA, binD, binI, unD, mmL, buildA, mkAgg, allD, behind, behind0, takeAt, frzAs, frzA, adoptR, adopt, isD, isD0, trim, List.take, binS, sliceA, bnd, zOk, elems, Nat.reduceBNe, inpl, Nat.reduceLT, Nat.reduceBEq, Nat.reduceSub, Nat.reduceMul, Int.reduceLT, Int.reduceLE, Int.reduceEq, Int.reduceToNat, Int.reduceNeg, thaw, nodup, refsV, adopts, Pk.TY_Inc]
      exact ⟨_, _, _, rfl, .inl ⟨rfl, rfl, rfl, rfl, rfl, m + 1, _, by omega, fun _ => rfl, rfl⟩⟩
    · have hadd : addL (G.take k) ((m : Int) + 2) y = (G.take k, 50) := by unfold addL; rw [if_neg (by rw [hkt]; omega), if_pos (by rw [hkt]; omega)]
      rw [hadd] at AB
      have he : ((m : Int) + 2 == (k : Int) + 2) = false := by rw [beq_eq_false_iff_ne]; omega
      simp (config := {decide := true}) only [K_paddocklaw5_HistorySame_1, l_paddocklaw5_HistorySame_1, h1, h5, h6, h8, hlo, hxd, hd, hw, b0, hall, LA, LB, hgt, hm, hw0, hw1, hz, hw2, hw3, IA, AB, hz3, he, eqb, ite_self, Int.toNat_natCast, hlh, n0, hl, ha, ha0, hs, hs0, ht, ht0, h2_push, eptr_itv, n1, n2, n3, n4, n5, n6, n7, n8, n9, m1, m2, m3, m4, m5, m6, m7, m8, m9, m10, m11, Nat.zero_le, Nat.le_refl, List.take_zero, plain_nil, plain_arr, plain_box, Pk.EVL, keepT, enum, ↓reduceIte, ev, act, appT, callee, toDs, toD, loadA, storeA, subA, subD, updA, Eff.on, resA, resVs, resV, lk, finish, frzR, frzVs, frzV, fznR, fzns, fzn, lts, lt, ltO, List.all, pairsOk, indep, reduceCtorEq, Nat.reduceEqDiff, Nat.reduceAdd, Nat.reduceLeDiff, stb, thaws, List.drop, intOfA, binD, binI, unD, mmL, buildA, mkAgg, allD, behind, behind0, takeAt, frzAs, frzA, adoptR, adopt, isD, isD0, trim, List.take, binS, sliceA, bnd, zOk, elems, Nat.reduceBNe, inpl, Nat.reduceLT, Nat.reduceBEq, Nat.reduceSub, Nat.reduceMul, Int.reduceLT, Int.reduceLE, Int.reduceEq, Int.reduceToNat, Int.reduceNeg, thaw, nodup, refsV, adopts, Pk.TY_Inc]
      exact ⟨_, _, _, rfl, .inl ⟨rfl, rfl, rfl, rfl, rfl, k, _, hk, fun _ => rfl, rfl⟩⟩
  · rintro T H ⟨h1, h5, h6, h8, k, J, hk, hJ, rfl⟩
    have hd : decide (((o.length : Nat) : Int) < ((o.length : Nat) : Int)) = false := by simp
    have hall := @h2_all0 p p2 n hp hp2 hn G _ grb0_pl (G.take k) _ grb0_pl [] (fun _ => rfl)
    simp (config := {decide := true}) only [K_paddocklaw5_HistorySame_1, l_paddocklaw5_HistorySame_1, h1, h5, h6, h8, hlo, hd, hall, ite_self, guardR_und, hlh, n0, hl, ha, ha0, hs, hs0, ht, ht0, h2_push, eptr_itv, n1, n2, n3, n4, n5, n6, n7, n8, n9, m1, m2, m3, m4, m5, m6, m7, m8, m9, m10, m11, Nat.zero_le, Nat.le_refl, List.take_zero, plain_nil, plain_arr, plain_box, Pk.EVL, keepT, enum, ↓reduceIte, ev, act, appT, callee, toDs, toD, loadA, storeA, subA, subD, updA, Eff.on, resA, resVs, resV, lk, finish, frzR, frzVs, frzV, fznR, fzns, fzn, lts, lt, ltO, List.all, pairsOk, indep, reduceCtorEq, Nat.reduceEqDiff, Nat.reduceAdd, Nat.reduceLeDiff, stb, thaws, List.drop, intOfA, binD, binI, unD, mmL, buildA, mkAgg, allD, behind, behind0, takeAt, frzAs, frzA, adoptR, adopt, isD, isD0, trim, List.take, binS, sliceA, bnd, zOk, elems, Nat.reduceBNe, inpl, Nat.reduceLT, Nat.reduceBEq, Nat.reduceSub, Nat.reduceMul, Int.reduceLT, Int.reduceLE, Int.reduceEq, Int.reduceToNat, Int.reduceNeg, thaw, nodup, refsV, adopts, Pk.TY_Inc]
    exact ⟨_, _, _, rfl, by simp, rfl, rfl, rfl, k, hk, rfl⟩
  rintro e T H ⟨rfl, h5, h6, k, hk, rfl⟩
  have hkt : (G.take k).length = k := by rw [List.length_take]; omega
  have LBk : ∀ X, plain X → evF C F_history_History_Last [.ptr (p2 + 2) 0] (h2 p G grb0 p2 (G.take k) grb0 X) = some (.d (.i .u32 ((k : Int) + 1)), h2 p G grb0 p2 (G.take k) grb0 X) := by
    intro X hX
    have := LB (G.take k) X hX
    rwa [hkt] at this
  have hw3 : IntKind.u32.wrap ((k : Int) + 1 + 1) = (k : Int) + 2 := by rw [wu32 (by omega)]; omega
  simp (config := {decide := true}) only [h5, h6, LBk, hw3, hlh, n0, hl, ha, ha0, hs, hs0, ht, ht0, h2_push, eptr_itv, n1, n2, n3, n4, n5, n6, n7, n8, n9, m1, m2, m3, m4, m5, m6, m7, m8, m9, m10, m11, Nat.zero_le, Nat.le_refl, List.take_zero, plain_nil, plain_arr, plain_box, Pk.EVL, keepT, enum, ↓reduceIte, ev, act, appT, callee, toDs, toD, loadA, storeA, subA, subD, updA, Eff.on, resA, resVs, resV, lk, finish, frzR, frzVs, frzV, fznR, fzns, fzn, lts, lt, ltO, List.all, pairsOk, indep, reduceCtorEq, Nat.reduceEqDiff, Nat.reduceAdd, Nat.reduceLeDiff, stb, thaws, List.drop, intOfA, binD, binI, unD, mmL, buildA, mkAgg, allD, behind, behind0, takeAt, frzAs, frzA, adoptR, adopt, isD, isD0, trim, List.take, binS, sliceA, bnd, zOk, elems, Nat.reduceBNe, inpl, Nat.reduceLT, Nat.reduceBEq, Nat.reduceSub, Nat.reduceMul, Int.reduceLT, Int.reduceLE, Int.reduceEq, Int.reduceToNat, Int.reduceNeg, thaw, nodup, refsV, adopts, Pk.TY_Inc]
  simp only [Option.bind_assoc]
  have hz3 : (DV.agg [.i .u8 0, .i .u8 0, .i .i64 0]) = .agg (Inc.mk 0 0 0).cs := rfl
  refine bind_run (loop_run (fun i T H => i ≤ G.length ∧ lk T 5 = .ptr (p + 2) 0 ∧ lk T 6 = .ptr (p2 + 2) 0 ∧ lk T 14 = .d (.i .u32 ((i : Int) + 2)) ∧ ∃ J, plain J ∧ H = h2 p G grb0 p2 (G.take i) grb0 J)
    (fun e T H => e = .exit 4 ∧ lk T 5 = .ptr (p + 2) 0 ∧ lk T 6 = .ptr (p2 + 2) 0 ∧ H = h2 p G grb0 p2 G grb0 []) G.length ?_ ?_ (G.length - k) k _ _ (by omega) ⟨hk, rfl, rfl, rfl, [], fun _ => rfl, rfl⟩) ?_
  · rintro i T H hi ⟨_, h5, h6, h14, J, hJ, rfl⟩
    obtain ⟨y, hy, hyo, hyi, hya⟩ := hGat i hi
    have hall := @h2_all0 p p2 n hp hp2 hn G _ grb0_pl (G.take i) _ grb0_pl [] (fun _ => rfl)
    have LA := LA (G.take i)
    have hit : (G.take i).length = i := by rw [List.length_take]; omega
    have hd : decide ((i : Int) + 2 ≤ (G.length : Int) + 1) = true := decide_eq_true (by omega)
    have hw : IntKind.u32.wrap ((i : Int) + 2 + 1) = ((i + 1 : Nat) : Int) + 2 := by rw [wu32 (by omega)]; omega
    have IA : ∀ X, plain X → evF C F_history_History_Inc [.ptr (p + 2) 0, .d (.i .u32 ((i : Int) + 2))] (h2 p G grb0 p2 (G.take i) grb0 X) = some (.tup [.d (.agg y.cs), .d (.b true)], h2 p G grb0 p2 (G.take i) grb0 X) := by
      intro X hX
      have := h2a_inc hp hp2 grb0_pl grb0_pl hX (l := G) (l2 := G.take i) ((i : Int) + 2)
      rwa [hya, decide_eq_true (show 2 ≤ (i : Int) + 2 ∧ (i : Int) + 2 ≤ (G.length : Int) + 1 by omega)] at this
    have AB := fun X (hX : plain X) => @h2b_add p p2 hp hp2 G _ grb0_pl (G.take i) _ grb0_pl X hX (goodI_take hG i) ((i : Int) + 2) (by omega) y hyo
    have hadd : addL (G.take i) ((i : Int) + 2) y = (G.take (i + 1), 0) := by
      unfold addL
      rw [if_neg (by rw [hit]; omega), if_neg (by rw [hit]; omega), if_pos ⟨hyi, by rw [hit]; omega⟩, take_succ' hy]
    rw [hadd] at AB
    simp (config := {decide := true}) only [K_paddocklaw5_HistorySame_2, l_paddocklaw5_HistorySame_2, h5, h6, h14, hall, LA, hd, hw, IA, AB, hz3, ite_self, hlh, n0, hl, ha, ha0, hs, hs0, ht, ht0, h2_push, eptr_itv, n1, n2, n3, n4, n5, n6, n7, n8, n9, m1, m2, m3, m4, m5, m6, m7, m8, m9, m10, m11, Nat.zero_le, Nat.le_refl, List.take_zero, plain_nil, plain_arr, plain_box, Pk.EVL, keepT, enum, ↓reduceIte, ev, act, appT, callee, toDs, toD, loadA, storeA, subA, subD, updA, Eff.on, resA, resVs, resV, lk, finish, frzR, frzVs, frzV, fznR, fzns, fzn, lts, lt, ltO, List.all, pairsOk, indep, reduceCtorEq, Nat.reduceEqDiff, Nat.reduceAdd, Nat.reduceLeDiff, stb, thaws, List.drop, intOfA, binD, binI, unD, mmL, buildA, mkAgg, allD, behind, behind0, takeAt, frzAs, frzA, adoptR, adopt, isD, isD0, trim, List.take, binS, sliceA, bnd, zOk, elems, Nat.reduceBNe, inpl, Nat.reduceLT, Nat.reduceBEq, Nat.reduceSub, Nat.reduceMul, Int.reduceLT, Int.reduceLE, Int.reduceEq, Int.reduceToNat, Int.reduceNeg, thaw, nodup, refsV, adopts, Pk.TY_Inc]
    exact ⟨_, _, _, rfl, .inl ⟨rfl, by omega, rfl, rfl, rfl, _, fun _ => rfl, rfl⟩⟩
  · rintro T H ⟨_, h5, h6, h14, J, hJ, rfl⟩
    rw [List.take_length]
    have hall := @h2_all0 p p2 n hp hp2 hn G _ grb0_pl G _ grb0_pl [] (fun _ => rfl)
    have LA := LA G
    have hd : decide ((G.length : Int) + 2 ≤ (G.length : Int) + 1) = false := decide_eq_false (by omega)
    simp (config := {decide := true}) only [K_paddocklaw5_HistorySame_2, l_paddocklaw5_HistorySame_2, h5, h6, h14, hall, LA, hd, ite_self, hlh, n0, hl, ha, ha0, hs, hs0, ht, ht0, h2_push, eptr_itv, n1, n2, n3, n4, n5, n6, n7, n8, n9, m1, m2, m3, m4, m5, m6, m7, m8, m9, m10, m11, Nat.zero_le, Nat.le_refl, List.take_zero, plain_nil, plain_arr, plain_box, Pk.EVL, keepT, enum, ↓reduceIte, ev, act, appT, callee, toDs, toD, loadA, storeA, subA, subD, updA, Eff.on, resA, resVs, resV, lk, finish, frzR, frzVs, frzV, fznR, fzns, fzn, lts, lt, ltO, List.all, pairsOk, indep, reduceCtorEq, Nat.reduceEqDiff, Nat.reduceAdd, Nat.reduceLeDiff, stb, thaws, List.drop, intOfA, binD, binI, unD, mmL, buildA, mkAgg, allD, behind, behind0, takeAt, frzAs, frzA, adoptR, adopt, isD, isD0, trim, List.take, binS, sliceA, bnd, zOk, elems, Nat.reduceBNe, inpl, Nat.reduceLT, Nat.reduceBEq, Nat.reduceSub, Nat.reduceMul, Int.reduceLT, Int.reduceLE, Int.reduceEq, Int.reduceToNat, Int.reduceNeg, thaw, nodup, refsV, adopts, Pk.TY_Inc]
    exact ⟨_, _, _, rfl, by simp, rfl, rfl, rfl, rfl⟩
  rintro e T H ⟨rfl, h5, h6, rfl⟩
  have LA := LA G
  have LB := LB G
  have MA := fun X (hX : plain X) => @h2a_map p p2 hp hp2 G _ grb0_pl G _ grb0_pl X hX
  have MB := fun X (hX : plain X) => @h2b_map p p2 hp hp2 G _ grb0_pl G _ grb0_pl X hX
  have n7' : (n + 1 != n) = true := by simp
  simp (config := {decide := true}) only [h5, h6, LA, LB, MA, MB, thaws, thaw, hlh, n0, hl, ha, ha0, hs, hs0, ht, ht0, h2_push, eptr_itv, n1, n2, n3, n4, n5, n6, n7, n8, n9, m1, m2, m3, m4, m5, m6, m7, m8, m9, m10, m11, Nat.zero_le, Nat.le_refl, List.take_zero, plain_nil, plain_arr, plain_box, Pk.EVL, keepT, enum, ↓reduceIte, ev, act, appT, callee, toDs, toD, loadA, storeA, subA, subD, updA, Eff.on, resA, resVs, resV, lk, finish, frzR, frzVs, frzV, fznR, fzns, fzn, lts, lt, ltO, List.all, pairsOk, indep, reduceCtorEq, Nat.reduceEqDiff, Nat.reduceAdd, Nat.reduceLeDiff, stb, thaws, List.drop, intOfA, binD, binI, unD, mmL, buildA, mkAgg, allD, behind, behind0, takeAt, frzAs, frzA, adoptR, adopt, isD, isD0, trim, List.take, binS, sliceA, bnd, zOk, elems, Nat.reduceBNe, inpl, Nat.reduceLT, Nat.reduceBEq, Nat.reduceSub, Nat.reduceMul, Int.reduceLT, Int.reduceLE, Int.reduceEq, Int.reduceToNat, Int.reduceNeg, thaw, nodup, refsV, adopts, Pk.TY_Mp]
  simp only [Option.bind_assoc]
  refine bind_run (loop_run (fun i T H => lk T 5 = .ptr (p + 2) 0 ∧ lk T 6 = .ptr (p2 + 2) 0 ∧ lk T 17 = .ptr n 0 ∧ lk T 19 = .ptr (n + 1) 0 ∧ lk T 21 = .view (n + 2) i 3 0 i ∧ lk T 22 = .d (.i .u32 ((i : Int) + 2)) ∧
      ∃ J, plain J ∧ H = h2 p G grb0 p2 G grb0 (.box (.d (.agg (mapAt G).cs)) :: .box (.d (.agg (mapAt G).cs)) :: .arr ((G.take i).map Inc.d) true :: J))
    (fun e T H => e = .exit 6 ∧ lk T 5 = .ptr (p + 2) 0 ∧ lk T 6 = .ptr (p2 + 2) 0 ∧ lk T 17 = .ptr n 0 ∧ lk T 19 = .ptr (n + 1) 0 ∧ lk T 21 = .view (n + 2) G.length 3 0 G.length ∧
      H = h2 p G grb0 p2 G grb0 [.box (.d (.agg (mapAt G).cs)), .box (.d (.agg (mapAt G).cs)), .arr (G.map Inc.d) true]) G.length ?_ ?_ G.length 0 _ _ (by omega) ⟨rfl, rfl, rfl, rfl, rfl, rfl, [], fun _ => rfl, rfl⟩) ?_
  · rintro i T H hi ⟨h5, h6, h17, h19, h21, h22, J, hJ, rfl⟩
    obtain ⟨y, hy, hyo, hyi, hya⟩ := hGat i hi
    have hall := @h2_all p p2 n hp hp2 hn G _ grb0_pl G _ grb0_pl [.box (.d (.agg (mapAt G).cs)), .box (.d (.agg (mapAt G).cs)), .arr ((G.take i).map Inc.d) true] (fun _ => rfl) 3
    have hit : ((G.take i).map Inc.d).length = i := by rw [List.length_map, List.length_take]; omega
    have hd : decide ((i : Int) + 2 ≤ (G.length : Int) + 1) = true := decide_eq_true (by omega)
    have hw : IntKind.u32.wrap ((i : Int) + 2 + 1) = ((i + 1 : Nat) : Int) + 2 := by rw [wu32 (by omega)]; omega
    have IA : ∀ X, plain X → evF C F_history_History_Inc [.ptr (p + 2) 0, .d (.i .u32 ((i : Int) + 2))] (h2 p G grb0 p2 G grb0 X) = some (.tup [.d (.agg y.cs), .d (.b true)], h2 p G grb0 p2 G grb0 X) := by
      intro X hX
      have := h2a_inc hp hp2 grb0_pl grb0_pl hX (l := G) (l2 := G) ((i : Int) + 2)
      rwa [hya, decide_eq_true (show 2 ≤ (i : Int) + 2 ∧ (i : Int) + 2 ≤ (G.length : Int) + 1 by omega)] at this
    have hlim : (i + 1 ≤ LIM) = True := eq_true (by unfold LIM; omega)
    have hmap : (G.take (i + 1)).map Inc.d = (G.take i).map Inc.d ++ [.agg y.cs] := by rw [take_succ' hy, List.map_append]; rfl
    rw [hmap]
    simp (config := {decide := true}) only [K_paddocklaw5_HistorySame_3, l_paddocklaw5_HistorySame_3, h5, h6, h17, h19, h21, h22, hall, LA, hd, hw, IA, hz3, hit, hlim, elems, ite_self, hlh, n0, hl, ha, ha0, hs, hs0, ht, ht0, h2_push, eptr_itv, n1, n2, n3, n4, n5, n6, n7, n8, n9, m1, m2, m3, m4, m5, m6, m7, m8, m9, m10, m11, Nat.zero_le, Nat.le_refl, List.take_zero, plain_nil, plain_arr, plain_box, Pk.EVL, keepT, enum, ↓reduceIte, ev, act, appT, callee, toDs, toD, loadA, storeA, subA, subD, updA, Eff.on, resA, resVs, resV, lk, finish, frzR, frzVs, frzV, fznR, fzns, fzn, lts, lt, ltO, List.all, pairsOk, indep, reduceCtorEq, Nat.reduceEqDiff, Nat.reduceAdd, Nat.reduceLeDiff, stb, thaws, List.drop, intOfA, binD, binI, unD, mmL, buildA, mkAgg, allD, behind, behind0, takeAt, frzAs, frzA, adoptR, adopt, isD, isD0, trim, List.take, binS, sliceA, bnd, zOk, elems, Nat.reduceBNe, inpl, Nat.reduceLT, Nat.reduceBEq, Nat.reduceSub, Nat.reduceMul, Int.reduceLT, Int.reduceLE, Int.reduceEq, Int.reduceToNat, Int.reduceNeg, thaw, nodup, refsV, adopts, Pk.TY_Inc]
    exact ⟨_, _, _, rfl, .inl ⟨rfl, rfl, rfl, rfl, rfl, rfl, rfl, _, fun _ => rfl, rfl⟩⟩
  · rintro T H ⟨h5, h6, h17, h19, h21, h22, J, hJ, rfl⟩
    rw [List.take_length]
    have hall := @h2_all p p2 n hp hp2 hn G _ grb0_pl G _ grb0_pl [.box (.d (.agg (mapAt G).cs)), .box (.d (.agg (mapAt G).cs)), .arr (G.map Inc.d) true] (fun _ => rfl) 3
    have hd : decide ((G.length : Int) + 2 ≤ (G.length : Int) + 1) = false := decide_eq_false (by omega)
    simp (config := {decide := true}) only [K_paddocklaw5_HistorySame_3, l_paddocklaw5_HistorySame_3, h5, h6, h17, h19, h21, h22, hall, LA, hd, ite_self, hlh, n0, hl, ha, ha0, hs, hs0, ht, ht0, h2_push, eptr_itv, n1, n2, n3, n4, n5, n6, n7, n8, n9, m1, m2, m3, m4, m5, m6, m7, m8, m9, m10, m11, Nat.zero_le, Nat.le_refl, List.take_zero, plain_nil, plain_arr, plain_box, Pk.EVL, keepT, enum, ↓reduceIte, ev, act, appT, callee, toDs, toD, loadA, storeA, subA, subD, updA, Eff.on, resA, resVs, resV, lk, finish, frzR, frzVs, frzV, fznR, fzns, fzn, lts, lt, ltO, List.all, pairsOk, indep, reduceCtorEq, Nat.reduceEqDiff, Nat.reduceAdd, Nat.reduceLeDiff, stb, thaws, List.drop, intOfA, binD, binI, unD, mmL, buildA, mkAgg, allD, behind, behind0, takeAt, frzAs, frzA, adoptR, adopt, isD, isD0, trim, List.take, binS, sliceA, bnd, zOk, elems, Nat.reduceBNe, inpl, Nat.reduceLT, Nat.reduceBEq, Nat.reduceSub, Nat.reduceMul, Int.reduceLT, Int.reduceLE, Int.reduceEq, Int.reduceToNat, Int.reduceNeg, thaw, nodup, refsV, adopts, Pk.TY_Inc]
    exact ⟨_, _, _, rfl, by simp, rfl, rfl, rfl, rfl, rfl, rfl, rfl⟩
  rintro e T H ⟨rfl, h5, h6, h17, h19, h21, rfl⟩
  have FD := fold_good G hG hGo
  have hgm : (G.map Inc.d).length = G.length := List.length_map _
  have hsub : subL (G.map Inc.d) 0 G.length = G.map Inc.d := by unfold subL; rw [List.drop_zero]; exact List.take_of_length_le (by simp)
  simp (config := {decide := true}) only [h5, h6, h17, h19, h21, FD, hgm, hsub, thaws, thaw, hlh, n0, hl, ha, ha0, hs, hs0, ht, ht0, h2_push, eptr_itv, n1, n2, n3, n4, n5, n6, n7, n8, n9, m1, m2, m3, m4, m5, m6, m7, m8, m9, m10, m11, Nat.zero_le, Nat.le_refl, List.take_zero, plain_nil, plain_arr, plain_box, Pk.EVL, keepT, enum, ↓reduceIte, ev, act, appT, callee, toDs, toD, loadA, storeA, subA, subD, updA, Eff.on, resA, resVs, resV, lk, finish, frzR, frzVs, frzV, fznR, fzns, fzn, lts, lt, ltO, List.all, pairsOk, indep, reduceCtorEq, Nat.reduceEqDiff, Nat.reduceAdd, Nat.reduceLeDiff, stb, thaws, List.drop, intOfA, binD, binI, unD, mmL, buildA, mkAgg, allD, behind, behind0, takeAt, frzAs, frzA, adoptR, adopt, isD, isD0, trim, List.take, binS, sliceA, bnd, zOk, elems, Nat.reduceBNe, inpl, Nat.reduceLT, Nat.reduceBEq, Nat.reduceSub, Nat.reduceMul, Int.reduceLT, Int.reduceLE, Int.reduceEq, Int.reduceToNat, Int.reduceNeg, thaw, nodup, refsV, adopts, Pk.TY_Mp]
  simp only [Option.bind_assoc]
  refine bind_run (loop_run (fun i T H => lk T 5 = .ptr (p + 2) 0 ∧ lk T 6 = .ptr (p2 + 2) 0 ∧ lk T 17 = .ptr n 0 ∧ lk T 19 = .ptr (n + 1) 0 ∧ lk T 25 = .ptr (n + 3) 0 ∧ lk T 26 = .d (.i .i64 0) ∧ lk T 27 = .d (.i .u8 (i : Nat)) ∧
      ∃ q q2, q.pl ∧ q2.pl ∧ H = h2 p G q p2 G q2 [.box (.d (.agg (mapAt G).cs)), .box (.d (.agg (mapAt G).cs)), .arr (G.map Inc.d) false, .box (.d (.agg (mapAt G).cs))])
    (fun e T H => e = .exit 8 ∧ lk T 17 = .ptr n 0 ∧ lk T 19 = .ptr (n + 1) 0 ∧ lk T 25 = .ptr (n + 3) 0 ∧ lk T 26 = .d (.i .i64 0) ∧ ∃ q q2, H = h2 p G q p2 G q2 [.box (.d (.agg (mapAt G).cs)), .box (.d (.agg (mapAt G).cs)), .arr (G.map Inc.d) false, .box (.d (.agg (mapAt G).cs))])
    4 ?_ ?_ 4 0 _ _ (by omega) ⟨rfl, rfl, rfl, rfl, rfl, rfl, rfl, grb0, grb0, grb0_pl, grb0_pl, rfl⟩) ?_
  · rintro i T H hi ⟨h5, h6, h17, h19, h25, h26, h27, q, q2, hq, hq2, rfl⟩
    have hall := @h2_all p p2 n hp hp2 hn G _ hq G _ hq2 [.box (.d (.agg (mapAt G).cs)), .box (.d (.agg (mapAt G).cs)), .arr (G.map Inc.d) false, .box (.d (.agg (mapAt G).cs))] (fun _ => rfl) 4
    have hd : decide ((i : Int) < 4) = true := decide_eq_true (by omega)
    have hw : IntKind.u8.wrap ((i : Int) + 1) = ((i + 1 : Nat) : Int) := by rw [wu8 (by omega)]; omega
    have IA := fun X (hX : plain X) => @h2a_intervals p p2 hp hp2 G _ hq G _ hq2 X hX hG (i : Int) (by omega)
    have IB := fun X (hX : plain X) => @h2b_intervals p p2 hp hp2 G _ (Grb.frz_pl hq i) G _ hq2 X hX hG (i : Int) (by omega)
    have IS := intervals5_self (ivL G i) (by have := ivL_len hG i (by omega); omega) (fun x hx => by have := ivL_mem hG i x hx; omega)
    simp (config := {decide := true}) only [K_paddocklaw5_HistorySame_4, l_paddocklaw5_HistorySame_4, h5, h6, h17, h19, h25, h26, h27, hall, hd, hw, IA, IB, IS, ite_self, hlh, n0, hl, ha, ha0, hs, hs0, ht, ht0, h2_push, eptr_itv, n1, n2, n3, n4, n5, n6, n7, n8, n9, m1, m2, m3, m4, m5, m6, m7, m8, m9, m10, m11, Nat.zero_le, Nat.le_refl, List.take_zero, plain_nil, plain_arr, plain_box, Pk.EVL, keepT, enum, ↓reduceIte, ev, act, appT, callee, toDs, toD, loadA, storeA, subA, subD, updA, Eff.on, resA, resVs, resV, lk, finish, frzR, frzVs, frzV, fznR, fzns, fzn, lts, lt, ltO, List.all, pairsOk, indep, reduceCtorEq, Nat.reduceEqDiff, Nat.reduceAdd, Nat.reduceLeDiff, stb, thaws, List.drop, intOfA, binD, binI, unD, mmL, buildA, mkAgg, allD, behind, behind0, takeAt, frzAs, frzA, adoptR, adopt, isD, isD0, trim, List.take, binS, sliceA, bnd, zOk, elems, Nat.reduceBNe, inpl, Nat.reduceLT, Nat.reduceBEq, Nat.reduceSub, Nat.reduceMul, Int.reduceLT, Int.reduceLE, Int.reduceEq, Int.reduceToNat, Int.reduceNeg, thaw, nodup, refsV, adopts, Pk.TY_Inc]
    exact ⟨_, _, _, rfl, .inl ⟨rfl, rfl, rfl, rfl, rfl, rfl, rfl, rfl, _, _, Grb.frz_pl hq i, Grb.frz_pl hq2 i, rfl⟩⟩
  · rintro T H ⟨h5, h6, h17, h19, h25, h26, h27, q, q2, hq, hq2, rfl⟩
    have h27 : lk T 27 = .d (.i .u8 4) := h27
    have hall := @h2_all p p2 n hp hp2 hn G _ hq G _ hq2 [.box (.d (.agg (mapAt G).cs)), .box (.d (.agg (mapAt G).cs)), .arr (G.map Inc.d) false, .box (.d (.agg (mapAt G).cs))] (fun _ => rfl) 4
    simp (config := {decide := true}) only [K_paddocklaw5_HistorySame_4, l_paddocklaw5_HistorySame_4, h5, h6, h17, h19, h25, h26, h27, hall, ite_self, hlh, n0, hl, ha, ha0, hs, hs0, ht, ht0, h2_push, eptr_itv, n1, n2, n3, n4, n5, n6, n7, n8, n9, m1, m2, m3, m4, m5, m6, m7, m8, m9, m10, m11, Nat.zero_le, Nat.le_refl, List.take_zero, plain_nil, plain_arr, plain_box, Pk.EVL, keepT, enum, ↓reduceIte, ev, act, appT, callee, toDs, toD, loadA, storeA, subA, subD, updA, Eff.on, resA, resVs, resV, lk, finish, frzR, frzVs, frzV, fznR, fzns, fzn, lts, lt, ltO, List.all, pairsOk, indep, reduceCtorEq, Nat.reduceEqDiff, Nat.reduceAdd, Nat.reduceLeDiff, stb, thaws, List.drop, intOfA, binD, binI, unD, mmL, buildA, mkAgg, allD, behind, behind0, takeAt, frzAs, frzA, adoptR, adopt, isD, isD0, trim, List.take, binS, sliceA, bnd, zOk, elems, Nat.reduceBNe, inpl, Nat.reduceLT, Nat.reduceBEq, Nat.reduceSub, Nat.reduceMul, Int.reduceLT, Int.reduceLE, Int.reduceEq, Int.reduceToNat, Int.reduceNeg, thaw, nodup, refsV, adopts, Pk.TY_Inc]
    exact ⟨_, _, _, rfl, by simp, rfl, rfl, rfl, rfl, rfl, q, q2, rfl⟩
  rintro e T H ⟨rfl, h17, h19, h25, h26, q, q2, rfl⟩
  have hmm : decide (mapAt G = mapAt G) = true := by simp
  simp (config := {decide := true}) only [h17, h19, h25, h26, hmm, hlh, n0, hl, ha, ha0, hs, hs0, ht, ht0, h2_push, eptr_itv, n1, n2, n3, n4, n5, n6, n7, n8, n9, m1, m2, m3, m4, m5, m6, m7, m8, m9, m10, m11, Nat.zero_le, Nat.le_refl, List.take_zero, plain_nil, plain_arr, plain_box, Pk.EVL, keepT, enum, ↓reduceIte, ev, act, appT, callee, toDs, toD, loadA, storeA, subA, subD, updA, Eff.on, resA, resVs, resV, lk, finish, frzR, frzVs, frzV, fznR, fzns, fzn, lts, lt, ltO, List.all, pairsOk, indep, reduceCtorEq, Nat.reduceEqDiff, Nat.reduceAdd, Nat.reduceLeDiff, stb, thaws, List.drop, intOfA, binD, binI, unD, mmL, buildA, mkAgg, allD, behind, behind0, takeAt, frzAs, frzA, adoptR, adopt, isD, isD0, trim, List.take, binS, sliceA, bnd, zOk, elems, Nat.reduceBNe, inpl, Nat.reduceLT, Nat.reduceBEq, Nat.reduceSub, Nat.reduceMul, Int.reduceLT, Int.reduceLE, Int.reduceEq, Int.reduceToNat, Int.reduceNeg, thaw, nodup, refsV, adopts, Pk.TY_Mp]
end Go.Proofs.Ytckaebcljcpobaa
