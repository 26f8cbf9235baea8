/- The law ChooseFew. -/
import Derived.Test.YtmiionadkdfbdaaChFp
import Derived.Test.YtmiionadkdfbdaaHsN
set_option linter.all false
namespace Go.Proofs.Ytmiionadkdfbdaa
open Pv Go Pk
set_option maxRecDepth 10000
set_option maxHeartbeats 4000000
theorem plain_nil' : plain [] := fun _ => rfl
theorem few_law (O : List Bool) (hO : O.length = 5) (gr : Int) (hgr : 0 ≤ gr ∧ gr < 256) : evF C F_paddocklaw9_ChooseFew [.d (.i .u8 gr), .d (.agg (O.map .b))] [] = some (.d (.b true), []) := by
  obtain ⟨p, hP⟩ : ∃ p, ([.box (.d (.agg (O.map .b)))] : Heap).length = p := ⟨_, rfl⟩
  obtain ⟨n, hn⟩ : ∃ n, p + 12 = n := ⟨_, rfl⟩
  have hPp : plain [.box (.d (.agg (O.map .b)))] := by rw [plain_box]; exact fun _ => rfl
  have hnew := h_new hP
  have hl := hh_len hP hn
  have ha := hh_at hP hn
  have ha0 := hh_at0 hP hn
  have hs := hh_set hP hn
  have hs0 := hh_set0 hP hn
  have ht := hh_take hP hn
  have ht0 := hh_take0 hP hn
  have n1 : (p + 2 < n) = True := eq_true (by omega)
  have n2 : (p + 2 < n + 1) = True := eq_true (by omega)
  have n3 : (n < n + 1) = True := eq_true (by omega)
  have n4 : (n ≤ n + 1) = True := eq_true (by omega)
  have n5 : (n ≤ n + 2) = True := eq_true (by omega)
  have n6 : (n + 1 ≤ n + 2) = True := eq_true (by omega)
  have hOl : (O.map DV.b).length = 5 := by rw [List.length_map]; exact hO
  obtain ⟨g, hg⟩ : ∃ g, gr.tmod 4 = g := ⟨_, rfl⟩
  have hg4 : 0 ≤ g ∧ g < 4 := by
    obtain ⟨k, rfl⟩ := Int.eq_ofNat_of_zero_le hgr.1
    rw [← hg]
    show 0 ≤ ((k % 4 : Nat) : Int) ∧ ((k % 4 : Nat) : Int) < 4
    omega
  have hge : IntKind.u8.wrap g = g := wu8 (by omega)
  have hnew0 := h_new (P := []) rfl
  have m1 : (1 ≤ n) = True := eq_true (by omega)
  have m2 : (0 < n) = True := eq_true (by omega)
  rw [evF_code (rfl : C F_paddocklaw9_ChooseFew = some a_paddocklaw9_ChooseFew) _ _ rfl]
  simp (config := {decide := true}) only [c_paddocklaw9_ChooseFew, known9_at, hOl, hg, hge, hnew0, hnew, m1, m2, thaws, thaw, hl, ha, ha0, hs, hs0, ht, ht0, hh_push, eptr_itv, n1, n2, n3, n4, n5, n6, Nat.zero_le, Nat.le_refl, List.take_zero, plain_nil, plain_arr, plain_box, Pk.EVL, keepT, enum, ↓reduceIte, ev, act, appT, callee, toDs, toD, loadA, storeA, subA, subD, updA, Eff.on, resA, resVs, resV, lk, finish, frzR, frzVs, frzV, fznR, fzns, fzn, lts, lt, ltO, List.all, pairsOk, indep, reduceCtorEq, Nat.reduceEqDiff, Nat.reduceAdd, Nat.reduceLeDiff, stb, thaws, List.drop, intOfA, binD, binI, unD, mmL, buildA, mkAgg, allD, bslD, behind, behind0, takeAt, frzAs, frzA, adoptR, adopt, isD, isD0, trim, List.take, binS, sliceA, bnd, zOk, elems, Nat.reduceBNe, inpl, Nat.reduceLT, Nat.reduceBEq, Nat.reduceSub, Nat.reduceMul, Int.reduceLT, Int.reduceLE, Int.reduceEq, Int.reduceToNat, Int.reduceNeg, thaw, nodup, refsV, adopts]
  simp only [Option.bind_assoc]
  refine bind_run (loop_run (fun i T H => lk T 3 = .ptr 0 0 ∧ lk T 5 = .d (.i .u8 g) ∧ lk T 6 = .ptr (p + 2) 0 ∧ lk T 7 = .d (.i .u32 ((selN 2 O i).length + 1 : Nat)) ∧ lk T 8 = .d (.i .i64 (i : Nat)) ∧ H = hh [.box (.d (.agg (O.map .b)))] p (selN 2 O i) grb0 [])
    (fun e T H => e = .exit 0 ∧ lk T 3 = .ptr 0 0 ∧ lk T 5 = .d (.i .u8 g) ∧ lk T 6 = .ptr (p + 2) 0 ∧ lk T 7 = .d (.i .u32 ((selN 2 O 5).length + 1 : Nat)) ∧ H = hh [.box (.d (.agg (O.map .b)))] p (selN 2 O 5) grb0 []) 5 ?_ ?_ 5 0 _ _ (by omega) ⟨rfl, rfl, rfl, rfl, rfl, rfl⟩) ?_
  · rintro i T H hi ⟨h3, h5, h6, h7, h8, rfl⟩
    obtain ⟨b, hb⟩ : ∃ b, O[i]? = some b := ⟨O[i]'(by omega), List.getElem?_eq_getElem _⟩
    have hsub := list_idx DV.b hb
    have hgood : goodI (selN 2 O i) := sel1_good hO (Nat.le_of_lt hi)
    have hgl := selN_len 2 O i
    have hnext := selN_step 2 hb
    have hd : decide ((i : Int) < 5) = true := by simp; omega
    have hw : IntKind.i64.wrap ((i : Int) + 1) = ((i + 1 : Nat) : Int) := wi64 (by omega)
    have hw8 : IntKind.u8.wrap (i : Int) = (i : Int) := wu8 (by omega)
    have b0 : (0 ≤ (i : Int)) = True := by simp
    have b1 : ((i : Int) < ((5 : Nat) : Int)) = True := eq_true (by omega)
    have b2 : (i * 1 + 1 ≤ 5) = True := eq_true (by omega)
    have b3 : (i + 1 ≤ 5) = True := eq_true (by omega)
    have hOl : (O.map DV.b).length = 5 := by rw [List.length_map]; exact hO
    have hxo : (kd 2 (i : Int)).ok := by unfold Inc.ok kd; exact ⟨by show (0 : Int) ≤ 2 ∧ (2 : Int) < 256; omega, by show 0 ≤ (i : Int) ∧ (i : Int) < 256; omega, by show (-9223372036854775808 : Int) ≤ 0 ∧ (0 : Int) ≤ 9223372036854775807; omega⟩
    have hxi : isInc (kd 2 (i : Int)) = true := by unfold isInc kd; simp; omega
    generalize selN 2 O i = gg at *
    have L := @h_last _ _ hP hPp gg _ grb0_pl
    have A : ∀ X, plain X → evF C F_history_History_Add [.ptr (p + 2) 0, .d (.i .u32 ((gg.length + 1 + 1 : Nat) : Int)), .d (.agg (kd 2 (i : Int)).cs)] (hh [.box (.d (.agg (O.map .b)))] p gg grb0 X) = some (.d (.i .i64 0), hh [.box (.d (.agg (O.map .b)))] p (gg ++ [kd 2 (i : Int)]) grb0 X) := fun X hX => by
      have := h_add hP hPp hgood grb0_pl hX ((gg.length : Int) + 2) (by omega) (kd 2 (i : Int)) hxo
      rw [addL_next, if_pos ⟨hxi, by omega⟩] at this
      rw [show ((gg.length + 1 + 1 : Nat) : Int) = (gg.length : Int) + 2 by omega]
      exact this
    have hw1 : IntKind.u32.wrap (((gg.length + 1 : Nat) : Int) + 1) = ((gg.length + 1 + 1 : Nat) : Int) := by rw [wu32 (by omega)]; omega
    have hall := @hh_all0 _ _ _ hP hn hPp gg _ grb0_pl [] (fun _ => rfl)
    have hat : ∀ l q Y, (hh [.box (.d (.agg (O.map .b)))] p l q Y)[0]? = some (.box (.d (.agg (O.map .b)))) := fun _ _ _ => rfl
    cases b with
    | true =>
      rw [if_pos rfl] at hnext
      rw [hnext]
      simp (config := {decide := true}) only [K_paddocklaw9_ChooseFew_0, l_paddocklaw9_ChooseFew_0, h3, h5, h6, h7, h8, hsub, hat, hOl, L, A, hw1, hd, hw, hw8, b0, b1, b2, b3, Nat.zero_add, Int.toNat_natCast, Nat.mul_one, kd_fold2, hall, ite_self, hl, ha, ha0, hs, hs0, ht, ht0, hh_push, eptr_itv, n1, n2, n3, n4, n5, n6, Nat.zero_le, Nat.le_refl, List.take_zero, plain_nil, plain_arr, plain_box, Pk.EVL, keepT, enum, ↓reduceIte, ev, act, appT, callee, toDs, toD, loadA, storeA, subA, subD, updA, Eff.on, resA, resVs, resV, lk, finish, frzR, frzVs, frzV, fznR, fzns, fzn, lts, lt, ltO, List.all, pairsOk, indep, reduceCtorEq, Nat.reduceEqDiff, Nat.reduceAdd, Nat.reduceLeDiff, stb, thaws, List.drop, intOfA, binD, binI, unD, mmL, buildA, mkAgg, allD, bslD, behind, behind0, takeAt, frzAs, frzA, adoptR, adopt, isD, isD0, trim, List.take, binS, sliceA, bnd, zOk, elems, Nat.reduceBNe, inpl, Nat.reduceLT, Nat.reduceBEq, Nat.reduceSub, Nat.reduceMul, Int.reduceLT, Int.reduceLE, Int.reduceEq, Int.reduceToNat, Int.reduceNeg, thaw, nodup, refsV, adopts, Pk.TY_Inc]
      refine ⟨_, _, _, rfl, .inl ⟨rfl, rfl, rfl, rfl, ?_, rfl, ?_⟩⟩
      · rw [List.length_append]; rfl
      · rfl
    | false =>
      rw [if_neg (by decide), List.append_nil] at hnext
      rw [hnext]
      simp (config := {decide := true}) only [K_paddocklaw9_ChooseFew_0, l_paddocklaw9_ChooseFew_0, h3, h5, h6, h7, h8, hsub, hat, hOl, L, hw1, hd, hw, hw8, b0, b1, b2, b3, Nat.zero_add, Int.toNat_natCast, Nat.mul_one, hall, ite_self, hl, ha, ha0, hs, hs0, ht, ht0, hh_push, eptr_itv, n1, n2, n3, n4, n5, n6, Nat.zero_le, Nat.le_refl, List.take_zero, plain_nil, plain_arr, plain_box, Pk.EVL, keepT, enum, ↓reduceIte, ev, act, appT, callee, toDs, toD, loadA, storeA, subA, subD, updA, Eff.on, resA, resVs, resV, lk, finish, frzR, frzVs, frzV, fznR, fzns, fzn, lts, lt, ltO, List.all, pairsOk, indep, reduceCtorEq, Nat.reduceEqDiff, Nat.reduceAdd, Nat.reduceLeDiff, stb, thaws, List.drop, intOfA, binD, binI, unD, mmL, buildA, mkAgg, allD, bslD, behind, behind0, takeAt, frzAs, frzA, adoptR, adopt, isD, isD0, trim, List.take, binS, sliceA, bnd, zOk, elems, Nat.reduceBNe, inpl, Nat.reduceLT, Nat.reduceBEq, Nat.reduceSub, Nat.reduceMul, Int.reduceLT, Int.reduceLE, Int.reduceEq, Int.reduceToNat, Int.reduceNeg, thaw, nodup, refsV, adopts, Pk.TY_Inc]
      exact ⟨_, _, _, rfl, .inl ⟨rfl, rfl, rfl, rfl, rfl, rfl, rfl⟩⟩
  · rintro T H ⟨h3, h5, h6, h7, h8, rfl⟩
    have hall := @hh_all0 _ _ _ hP hn hPp (selN 2 O 5) _ grb0_pl [] (fun _ => rfl)
    simp (config := {decide := true}) only [K_paddocklaw9_ChooseFew_0, l_paddocklaw9_ChooseFew_0, h3, h5, h6, h7, h8, hall, ite_self, hl, ha, ha0, hs, hs0, ht, ht0, hh_push, eptr_itv, n1, n2, n3, n4, n5, n6, Nat.zero_le, Nat.le_refl, List.take_zero, plain_nil, plain_arr, plain_box, Pk.EVL, keepT, enum, ↓reduceIte, ev, act, appT, callee, toDs, toD, loadA, storeA, subA, subD, updA, Eff.on, resA, resVs, resV, lk, finish, frzR, frzVs, frzV, fznR, fzns, fzn, lts, lt, ltO, List.all, pairsOk, indep, reduceCtorEq, Nat.reduceEqDiff, Nat.reduceAdd, Nat.reduceLeDiff, stb, thaws, List.drop, intOfA, binD, binI, unD, mmL, buildA, mkAgg, allD, bslD, behind, behind0, takeAt, frzAs, frzA, adoptR, adopt, isD, isD0, trim, List.take, binS, sliceA, bnd, zOk, elems, Nat.reduceBNe, inpl, Nat.reduceLT, Nat.reduceBEq, Nat.reduceSub, Nat.reduceMul, Int.reduceLT, Int.reduceLE, Int.reduceEq, Int.reduceToNat, Int.reduceNeg, thaw, nodup, refsV, adopts, Pk.TY_Inc]
    exact ⟨_, _, _, rfl, by simp, rfl, rfl, rfl, rfl, rfl, rfl⟩
  rintro e T H ⟨rfl, h3, h5, h6, h7, rfl⟩
  have G1 := sel1_good hO (Nat.le_refl 5)
  have C1 := fun X (hX : plain X) => @h_acting _ _ hP hPp _ G1 _ grb0_pl X hX g hg4.1
  have V1 := serves_at hP hn hPp G1 grb0_pl plain_nil' rfl g hg4.1
  have hla := lastI_len G1 g
  have hal : ((lastI (ivL (selN 2 O 5) g)).acting.map fun x => DV.i .i64 x).length = (lastI (ivL (selN 2 O 5) g)).acting.length := List.length_map _
  have hfew : (decide (((lastI (ivL (selN 2 O 5) g)).acting.length : Int) < 2)) = !decide ((lastI (ivL (selN 2 O 5) g)).acting.length ≥ 2) := by
    by_cases c : (lastI (ivL (selN 2 O 5) g)).acting.length ≥ 2
    · rw [decide_eq_true c, decide_eq_false (by omega)]; rfl
    · rw [decide_eq_false c, decide_eq_true (by omega)]; rfl
  have hne : ∀ b : Bool, eqV ETy.sb (.b b) (.b (!b)) = some false := by intro b; cases b <;> rfl
  simp (config := {decide := true}) only [C1, V1, hal, hfew, hne, h3, h5, h6, h7, hl, ha, ha0, hs, hs0, ht, ht0, hh_push, eptr_itv, n1, n2, n3, n4, n5, n6, Nat.zero_le, Nat.le_refl, List.take_zero, plain_nil, plain_arr, plain_box, Pk.EVL, keepT, enum, ↓reduceIte, ev, act, appT, callee, toDs, toD, loadA, storeA, subA, subD, updA, Eff.on, resA, resVs, resV, lk, finish, frzR, frzVs, frzV, fznR, fzns, fzn, lts, lt, ltO, List.all, pairsOk, indep, reduceCtorEq, Nat.reduceEqDiff, Nat.reduceAdd, Nat.reduceLeDiff, stb, thaws, List.drop, intOfA, binD, binI, unD, mmL, buildA, mkAgg, allD, bslD, behind, behind0, takeAt, frzAs, frzA, adoptR, adopt, isD, isD0, trim, List.take, binS, sliceA, bnd, zOk, elems, Nat.reduceBNe, inpl, Nat.reduceLT, Nat.reduceBEq, Nat.reduceSub, Nat.reduceMul, Int.reduceLT, Int.reduceLE, Int.reduceEq, Int.reduceToNat, Int.reduceNeg, thaw, nodup, refsV, adopts]
  simp only [Option.bind_assoc]
  refine bind_run (loop_run (fun i T H => lk T 3 = .ptr 0 0 ∧ lk T 5 = .d (.i .u8 g) ∧ lk T 6 = .ptr (p + 2) 0 ∧ lk T 7 = .d (.i .u32 ((selN 2 O 5 ++ selN 1 O i).length + 1 : Nat)) ∧ lk T 10 = .d (.i .i64 (i : Nat)) ∧ H = hh [.box (.d (.agg (O.map .b)))] p (selN 2 O 5 ++ selN 1 O i) grb0 [])
    (fun e T H => e = .exit 2 ∧ lk T 3 = .ptr 0 0 ∧ lk T 5 = .d (.i .u8 g) ∧ lk T 6 = .ptr (p + 2) 0 ∧ lk T 7 = .d (.i .u32 ((selN 2 O 5 ++ selN 1 O 5).length + 1 : Nat)) ∧ H = hh [.box (.d (.agg (O.map .b)))] p (selN 2 O 5 ++ selN 1 O 5) grb0 []) 5 ?_ ?_ 5 0 _ _ (by omega) ⟨rfl, rfl, rfl, by rw [selN_zero, List.append_nil]; rfl, rfl, by rw [selN_zero, List.append_nil]⟩) ?_
  · rintro i T H hi ⟨h3, h5, h6, h7, h8, rfl⟩
    obtain ⟨b, hb⟩ : ∃ b, O[i]? = some b := ⟨O[i]'(by omega), List.getElem?_eq_getElem _⟩
    have hsub := list_idx DV.b hb
    have hgood : goodI (selN 2 O 5 ++ selN 1 O i) := sel2_good hO (Nat.le_of_lt hi)
    have hgl := sel2_len O i
    have hnext := (congrArg (selN 2 O 5 ++ ·) (selN_step 1 hb)).trans (List.append_assoc _ _ _).symm
    have hd : decide ((i : Int) < 5) = true := by simp; omega
    have hw : IntKind.i64.wrap ((i : Int) + 1) = ((i + 1 : Nat) : Int) := wi64 (by omega)
    have hw8 : IntKind.u8.wrap (i : Int) = (i : Int) := wu8 (by omega)
    have b0 : (0 ≤ (i : Int)) = True := by simp
    have b1 : ((i : Int) < ((5 : Nat) : Int)) = True := eq_true (by omega)
    have b2 : (i * 1 + 1 ≤ 5) = True := eq_true (by omega)
    have b3 : (i + 1 ≤ 5) = True := eq_true (by omega)
    have hOl : (O.map DV.b).length = 5 := by rw [List.length_map]; exact hO
    have hxo : (kd 1 (i : Int)).ok := by unfold Inc.ok kd; exact ⟨by show (0 : Int) ≤ 1 ∧ (1 : Int) < 256; omega, by show 0 ≤ (i : Int) ∧ (i : Int) < 256; omega, by show (-9223372036854775808 : Int) ≤ 0 ∧ (0 : Int) ≤ 9223372036854775807; omega⟩
    have hxi : isInc (kd 1 (i : Int)) = true := by unfold isInc kd; simp; omega
    generalize selN 2 O 5 ++ selN 1 O i = gg at *
    have L := @h_last _ _ hP hPp gg _ grb0_pl
    have A : ∀ X, plain X → evF C F_history_History_Add [.ptr (p + 2) 0, .d (.i .u32 ((gg.length + 1 + 1 : Nat) : Int)), .d (.agg (kd 1 (i : Int)).cs)] (hh [.box (.d (.agg (O.map .b)))] p gg grb0 X) = some (.d (.i .i64 0), hh [.box (.d (.agg (O.map .b)))] p (gg ++ [kd 1 (i : Int)]) grb0 X) := fun X hX => by
      have := h_add hP hPp hgood grb0_pl hX ((gg.length : Int) + 2) (by omega) (kd 1 (i : Int)) hxo
      rw [addL_next, if_pos ⟨hxi, by omega⟩] at this
      rw [show ((gg.length + 1 + 1 : Nat) : Int) = (gg.length : Int) + 2 by omega]
      exact this
    have hw1 : IntKind.u32.wrap (((gg.length + 1 : Nat) : Int) + 1) = ((gg.length + 1 + 1 : Nat) : Int) := by rw [wu32 (by omega)]; omega
    have hall := @hh_all0 _ _ _ hP hn hPp gg _ grb0_pl [] (fun _ => rfl)
    have hat : ∀ l q Y, (hh [.box (.d (.agg (O.map .b)))] p l q Y)[0]? = some (.box (.d (.agg (O.map .b)))) := fun _ _ _ => rfl
    cases b with
    | true =>
      rw [if_pos rfl] at hnext
      rw [hnext]
      simp (config := {decide := true}) only [K_paddocklaw9_ChooseFew_1, l_paddocklaw9_ChooseFew_1, h3, h5, h6, h7, h8, hsub, hat, hOl, L, A, hw1, hd, hw, hw8, b0, b1, b2, b3, Nat.zero_add, Int.toNat_natCast, Nat.mul_one, kd_fold1, hall, ite_self, hl, ha, ha0, hs, hs0, ht, ht0, hh_push, eptr_itv, n1, n2, n3, n4, n5, n6, Nat.zero_le, Nat.le_refl, List.take_zero, plain_nil, plain_arr, plain_box, Pk.EVL, keepT, enum, ↓reduceIte, ev, act, appT, callee, toDs, toD, loadA, storeA, subA, subD, updA, Eff.on, resA, resVs, resV, lk, finish, frzR, frzVs, frzV, fznR, fzns, fzn, lts, lt, ltO, List.all, pairsOk, indep, reduceCtorEq, Nat.reduceEqDiff, Nat.reduceAdd, Nat.reduceLeDiff, stb, thaws, List.drop, intOfA, binD, binI, unD, mmL, buildA, mkAgg, allD, bslD, behind, behind0, takeAt, frzAs, frzA, adoptR, adopt, isD, isD0, trim, List.take, binS, sliceA, bnd, zOk, elems, Nat.reduceBNe, inpl, Nat.reduceLT, Nat.reduceBEq, Nat.reduceSub, Nat.reduceMul, Int.reduceLT, Int.reduceLE, Int.reduceEq, Int.reduceToNat, Int.reduceNeg, thaw, nodup, refsV, adopts, Pk.TY_Inc]
      refine ⟨_, _, _, rfl, .inl ⟨rfl, rfl, rfl, rfl, ?_, rfl, ?_⟩⟩
      · rw [List.length_append]; rfl
      · rfl
    | false =>
      rw [if_neg (by decide), List.append_nil] at hnext
      rw [hnext]
      simp (config := {decide := true}) only [K_paddocklaw9_ChooseFew_1, l_paddocklaw9_ChooseFew_1, h3, h5, h6, h7, h8, hsub, hat, hOl, L, hw1, hd, hw, hw8, b0, b1, b2, b3, Nat.zero_add, Int.toNat_natCast, Nat.mul_one, hall, ite_self, hl, ha, ha0, hs, hs0, ht, ht0, hh_push, eptr_itv, n1, n2, n3, n4, n5, n6, Nat.zero_le, Nat.le_refl, List.take_zero, plain_nil, plain_arr, plain_box, Pk.EVL, keepT, enum, ↓reduceIte, ev, act, appT, callee, toDs, toD, loadA, storeA, subA, subD, updA, Eff.on, resA, resVs, resV, lk, finish, frzR, frzVs, frzV, fznR, fzns, fzn, lts, lt, ltO, List.all, pairsOk, indep, reduceCtorEq, Nat.reduceEqDiff, Nat.reduceAdd, Nat.reduceLeDiff, stb, thaws, List.drop, intOfA, binD, binI, unD, mmL, buildA, mkAgg, allD, bslD, behind, behind0, takeAt, frzAs, frzA, adoptR, adopt, isD, isD0, trim, List.take, binS, sliceA, bnd, zOk, elems, Nat.reduceBNe, inpl, Nat.reduceLT, Nat.reduceBEq, Nat.reduceSub, Nat.reduceMul, Int.reduceLT, Int.reduceLE, Int.reduceEq, Int.reduceToNat, Int.reduceNeg, thaw, nodup, refsV, adopts, Pk.TY_Inc]
      exact ⟨_, _, _, rfl, .inl ⟨rfl, rfl, rfl, rfl, rfl, rfl, rfl⟩⟩
  · rintro T H ⟨h3, h5, h6, h7, h8, rfl⟩
    have hall := @hh_all0 _ _ _ hP hn hPp (selN 2 O 5 ++ selN 1 O 5) _ grb0_pl [] (fun _ => rfl)
    simp (config := {decide := true}) only [K_paddocklaw9_ChooseFew_1, l_paddocklaw9_ChooseFew_1, h3, h5, h6, h7, h8, hall, ite_self, hl, ha, ha0, hs, hs0, ht, ht0, hh_push, eptr_itv, n1, n2, n3, n4, n5, n6, Nat.zero_le, Nat.le_refl, List.take_zero, plain_nil, plain_arr, plain_box, Pk.EVL, keepT, enum, ↓reduceIte, ev, act, appT, callee, toDs, toD, loadA, storeA, subA, subD, updA, Eff.on, resA, resVs, resV, lk, finish, frzR, frzVs, frzV, fznR, fzns, fzn, lts, lt, ltO, List.all, pairsOk, indep, reduceCtorEq, Nat.reduceEqDiff, Nat.reduceAdd, Nat.reduceLeDiff, stb, thaws, List.drop, intOfA, binD, binI, unD, mmL, buildA, mkAgg, allD, bslD, behind, behind0, takeAt, frzAs, frzA, adoptR, adopt, isD, isD0, trim, List.take, binS, sliceA, bnd, zOk, elems, Nat.reduceBNe, inpl, Nat.reduceLT, Nat.reduceBEq, Nat.reduceSub, Nat.reduceMul, Int.reduceLT, Int.reduceLE, Int.reduceEq, Int.reduceToNat, Int.reduceNeg, thaw, nodup, refsV, adopts, Pk.TY_Inc]
    exact ⟨_, _, _, rfl, by simp, rfl, rfl, rfl, rfl, rfl, rfl⟩
  rintro e T H ⟨rfl, h3, h5, h6, h7, rfl⟩
  have hG := sel2_good hO (Nat.le_refl 5)
  have hact := back_act O hO g hg4
  have hmem : ∀ x ∈ lacksL (selN 2 O 5 ++ selN 1 O 5) g [] 0, 2 ≤ x.acting.length := fun x hx => (lacks_two hx).1
  generalize selN 2 O 5 ++ selN 1 O 5 = G at *
  obtain ⟨r, hr, Z, fe, hfe, hZ, rfl⟩ := lacks_at hP hn hPp hG grb0_pl (X := []) (fun _ => rfl) (m := n) rfl g hg4 (hv := .nilS) (A := []) (.inr ⟨rfl, rfl⟩) (by decide) 0
  rw [hrh] at hr
  have hq1 := Grb.frz_pl grb0_pl g
  have hX1 : plain ([] ++ [.arr ((lacksL G g [] 0 ++ Z).map Itv.d) true, .box (fnM fe)]) := by
    rw [List.nil_append, plain_arr]
    exact plain_fn hfe [] (fun _ => rfl)
  have hivl := ivL_len hG g hg4
  have hG59 := hG.1
  have V2 := serves_at hP hn hPp hG hq1 hX1 (m := n + 2) rfl g hg4.1
  have hall2 := hh_all hP hn hPp G hq1 hX1
  rw [show decide ((lastI (ivL G g)).acting.length ≥ 2) = true by rw [decide_eq_true]; omega] at V2
  simp only [List.nil_append] at V2 hr hall2
  have z0 : ((([] : List Itv).length : Nat) : Int) = 0 := rfl
  generalize lacksL G g [] 0 = K at *
  have hEl : ((K ++ Z).map Itv.d).length = (ivL G g).length := by rw [List.length_map, List.length_append]; exact hZ
  simp (config := {decide := true}) only [hr, h3, h5, h6, h7, hl, ha, ha0, hs, hs0, ht, ht0, hh_push, eptr_itv, n1, n2, n3, n4, n5, n6, Nat.zero_le, Nat.le_refl, List.take_zero, plain_nil, plain_arr, plain_box, Pk.EVL, keepT, enum, ↓reduceIte, ev, act, appT, callee, toDs, toD, loadA, storeA, subA, subD, updA, Eff.on, resA, resVs, resV, lk, finish, frzR, frzVs, frzV, fznR, fzns, fzn, lts, lt, ltO, List.all, pairsOk, indep, reduceCtorEq, Nat.reduceEqDiff, Nat.reduceAdd, Nat.reduceLeDiff, stb, thaws, List.drop, intOfA, binD, binI, unD, mmL, buildA, mkAgg, allD, bslD, behind, behind0, takeAt, frzAs, frzA, adoptR, adopt, isD, isD0, trim, List.take, binS, sliceA, bnd, zOk, elems, Nat.reduceBNe, inpl, Nat.reduceLT, Nat.reduceBEq, Nat.reduceSub, Nat.reduceMul, Int.reduceLT, Int.reduceLE, Int.reduceEq, Int.reduceToNat, Int.reduceNeg, thaw, nodup, refsV, adopts]
  simp only [Option.bind_assoc]
  refine bind_run (loop_run (fun i T H => lk T 5 = .d (.i .u8 g) ∧ lk T 6 = .ptr (p + 2) 0 ∧ lk T 11 = .view n (ivL G g).length 2 0 K.length ∧ lk T 12 = .d (.i .i64 (i : Nat)) ∧ H = hh [.box (.d (.agg (O.map .b)))] p G (grb0.frz g) [.arr ((K ++ Z).map Itv.d) true, .box (fnM fe)])
    (fun e T H => e = .exit 4 ∧ lk T 5 = .d (.i .u8 g) ∧ lk T 6 = .ptr (p + 2) 0 ∧ H = hh [.box (.d (.agg (O.map .b)))] p G (grb0.frz g) [.arr ((K ++ Z).map Itv.d) true, .box (fnM fe)]) K.length ?_ ?_ K.length 0 _ _ (by omega) ⟨rfl, rfl, rfl, rfl, rfl⟩) ?_
  · rintro i T H hi ⟨h5, h6, h11, h12, rfl⟩
    obtain ⟨x, hx⟩ : ∃ x, K[i]? = some x := ⟨K[i]'hi, List.getElem?_eq_getElem _⟩
    have hxd : ((K ++ Z).map Itv.d)[i]? = some (Itv.d x) := list_idx Itv.d (by rw [List.getElem?_append_left hi]; exact hx)
    have hx2 := hmem x (List.mem_of_getElem? hx)
    have hal : (x.acting.map fun x => DV.i .i64 x).length = x.acting.length := List.length_map _
    have hlt2 : decide (((x.acting.length : Nat) : Int) < 2) = false := decide_eq_false (by omega)
    have hd : decide ((i : Int) < ((K.length : Nat) : Int)) = true := by simp; omega
    have hw : IntKind.i64.wrap ((i : Int) + 1) = ((i + 1 : Nat) : Int) := wi64 (by omega)
    have b0 : (0 ≤ (i : Int)) = True := by simp
    have b1 : ((i : Int) < ((K.length : Nat) : Int)) = True := eq_true (by omega)
    simp (config := {decide := true}) only [K_paddocklaw9_ChooseFew_2, l_paddocklaw9_ChooseFew_2, h5, h6, h11, h12, hxd, hEl, hal, hlt2, hd, hw, b0, b1, hall2, Nat.zero_add, Int.toNat_natCast, ite_self, hl, ha, ha0, hs, hs0, ht, ht0, hh_push, eptr_itv, n1, n2, n3, n4, n5, n6, Nat.zero_le, Nat.le_refl, List.take_zero, plain_nil, plain_arr, plain_box, Pk.EVL, keepT, enum, ↓reduceIte, ev, act, appT, callee, toDs, toD, loadA, storeA, subA, subD, updA, Eff.on, resA, resVs, resV, lk, finish, frzR, frzVs, frzV, fznR, fzns, fzn, lts, lt, ltO, List.all, pairsOk, indep, reduceCtorEq, Nat.reduceEqDiff, Nat.reduceAdd, Nat.reduceLeDiff, stb, thaws, List.drop, intOfA, binD, binI, unD, mmL, buildA, mkAgg, allD, bslD, behind, behind0, takeAt, frzAs, frzA, adoptR, adopt, isD, isD0, trim, List.take, binS, sliceA, bnd, zOk, elems, Nat.reduceBNe, inpl, Nat.reduceLT, Nat.reduceBEq, Nat.reduceSub, Nat.reduceMul, Int.reduceLT, Int.reduceLE, Int.reduceEq, Int.reduceToNat, Int.reduceNeg, thaw, nodup, refsV, adopts, Pk.TY_Itv]
    exact ⟨_, _, _, rfl, .inl ⟨rfl, rfl, rfl, rfl, rfl, rfl⟩⟩
  · rintro T H ⟨h5, h6, h11, h12, rfl⟩
    have hd : decide (((K.length : Nat) : Int) < ((K.length : Nat) : Int)) = false := by simp
    simp (config := {decide := true}) only [K_paddocklaw9_ChooseFew_2, l_paddocklaw9_ChooseFew_2, h5, h6, h11, h12, hd, hall2, ite_self, hl, ha, ha0, hs, hs0, ht, ht0, hh_push, eptr_itv, n1, n2, n3, n4, n5, n6, Nat.zero_le, Nat.le_refl, List.take_zero, plain_nil, plain_arr, plain_box, Pk.EVL, keepT, enum, ↓reduceIte, ev, act, appT, callee, toDs, toD, loadA, storeA, subA, subD, updA, Eff.on, resA, resVs, resV, lk, finish, frzR, frzVs, frzV, fznR, fzns, fzn, lts, lt, ltO, List.all, pairsOk, indep, reduceCtorEq, Nat.reduceEqDiff, Nat.reduceAdd, Nat.reduceLeDiff, stb, thaws, List.drop, intOfA, binD, binI, unD, mmL, buildA, mkAgg, allD, bslD, behind, behind0, takeAt, frzAs, frzA, adoptR, adopt, isD, isD0, trim, List.take, binS, sliceA, bnd, zOk, elems, Nat.reduceBNe, inpl, Nat.reduceLT, Nat.reduceBEq, Nat.reduceSub, Nat.reduceMul, Int.reduceLT, Int.reduceLE, Int.reduceEq, Int.reduceToNat, Int.reduceNeg, thaw, nodup, refsV, adopts, Pk.TY_Itv]
    exact ⟨_, _, _, rfl, by simp, rfl, rfl, rfl, rfl⟩
  rintro e T H ⟨rfl, h5, h6, rfl⟩
  simp (config := {decide := true}) only [h5, h6, V2, hl, ha, ha0, hs, hs0, ht, ht0, hh_push, eptr_itv, n1, n2, n3, n4, n5, n6, Nat.zero_le, Nat.le_refl, List.take_zero, plain_nil, plain_arr, plain_box, Pk.EVL, keepT, enum, ↓reduceIte, ev, act, appT, callee, toDs, toD, loadA, storeA, subA, subD, updA, Eff.on, resA, resVs, resV, lk, finish, frzR, frzVs, frzV, fznR, fzns, fzn, lts, lt, ltO, List.all, pairsOk, indep, reduceCtorEq, Nat.reduceEqDiff, Nat.reduceAdd, Nat.reduceLeDiff, stb, thaws, List.drop, intOfA, binD, binI, unD, mmL, buildA, mkAgg, allD, bslD, behind, behind0, takeAt, frzAs, frzA, adoptR, adopt, isD, isD0, trim, List.take, binS, sliceA, bnd, zOk, elems, Nat.reduceBNe, inpl, Nat.reduceLT, Nat.reduceBEq, Nat.reduceSub, Nat.reduceMul, Int.reduceLT, Int.reduceLE, Int.reduceEq, Int.reduceToNat, Int.reduceNeg, thaw, nodup, refsV, adopts]
end Go.Proofs.Ytmiionadkdfbdaa
