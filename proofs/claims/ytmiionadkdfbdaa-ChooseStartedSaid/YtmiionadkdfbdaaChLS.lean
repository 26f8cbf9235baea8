/- The law ChooseStarted. -/
import Derived.Test.YtmiionadkdfbdaaChP
import Derived.Test.YtmiionadkdfbdaaHsN
set_option linter.all false
namespace Go.Proofs.Ytmiionadkdfbdaa
open Pv Go Pk
set_option maxRecDepth 10000
set_option maxHeartbeats 4000000
theorem started_law (l : List Inc) (hok : ∀ x ∈ l, x.ok) (g : Int) (hg0 : 0 ≤ g ∧ g < 256) : evF C F_paddocklaw9_ChooseStarted [.d (.sl (l.map Inc.d)), .d (.i .u8 g)] [] = some (.d (.b true), []) := by
  obtain ⟨p, hP⟩ : ∃ p, ([] : Heap).length = p := ⟨_, rfl⟩
  obtain ⟨n, hn⟩ : ∃ n, p + 12 = n := ⟨_, rfl⟩
  have hPp : plain [] := fun _ => rfl
  have hnew := h_new hP
  have hl := hh_len hP hn
  have ha := hh_at hP hn
  have ha0 := hh_at0 hP hn
  have hs := hh_set hP hn
  have hs0 := hh_set0 hP hn
  have ht := hh_take hP hn
  have ht0 := hh_take0 hP hn
  have n1 : (p + 2 < n) = True := eq_true (by omega)
  have n2 : (p + 2 < n + 1) = True := eq_true (by omega)
  have n3 : (n < n + 1) = True := eq_true (by omega)
  have n4 : (n ≤ n + 1) = True := eq_true (by omega)
  have n5 : (n ≤ n + 2) = True := eq_true (by omega)
  have n6 : (n + 1 ≤ n + 2) = True := eq_true (by omega)
  have hlm : (l.map Inc.d).length = l.length := List.length_map _
  rw [evF_code (rfl : C F_paddocklaw9_ChooseStarted = some a_paddocklaw9_ChooseStarted) _ _ rfl]
  rcases Bool.eq_false_or_eq_true (decide (((l.length : Nat) : Int) > 25)) with c1 | c1
  · simp (config := {decide := true}) only [c_paddocklaw9_ChooseStarted, known9_at, hlm, c1, Pk.EVL, keepT, enum, ↓reduceIte, ev, act, appT, callee, toDs, toD, loadA, storeA, subA, subD, updA, Eff.on, resA, resVs, resV, lk, finish, frzR, frzVs, frzV, fznR, fzns, fzn, lts, lt, ltO, List.all, pairsOk, indep, reduceCtorEq, Nat.reduceEqDiff, Nat.reduceAdd, Nat.reduceLeDiff, stb, thaws, List.drop, intOfA, binD, binI, unD, mmL, buildA, mkAgg, allD, bslD, behind, behind0, takeAt, frzAs, frzA, adoptR, adopt, isD, isD0, trim, List.take, binS, sliceA, bnd, zOk, elems, Nat.reduceBNe, inpl, Nat.reduceLT, Nat.reduceBEq, Nat.reduceSub, Nat.reduceMul, Int.reduceLT, Int.reduceLE, Int.reduceEq, Int.reduceToNat, Int.reduceNeg, thaw, nodup, refsV, adopts]
  rcases Bool.eq_false_or_eq_true (decide (g ≥ 4)) with c2 | c2
  · simp (config := {decide := true}) only [c_paddocklaw9_ChooseStarted, known9_at, hlm, c1, c2, Pk.EVL, keepT, enum, ↓reduceIte, ev, act, appT, callee, toDs, toD, loadA, storeA, subA, subD, updA, Eff.on, resA, resVs, resV, lk, finish, frzR, frzVs, frzV, fznR, fzns, fzn, lts, lt, ltO, List.all, pairsOk, indep, reduceCtorEq, Nat.reduceEqDiff, Nat.reduceAdd, Nat.reduceLeDiff, stb, thaws, List.drop, intOfA, binD, binI, unD, mmL, buildA, mkAgg, allD, bslD, behind, behind0, takeAt, frzAs, frzA, adoptR, adopt, isD, isD0, trim, List.take, binS, sliceA, bnd, zOk, elems, Nat.reduceBNe, inpl, Nat.reduceLT, Nat.reduceBEq, Nat.reduceSub, Nat.reduceMul, Int.reduceLT, Int.reduceLE, Int.reduceEq, Int.reduceToNat, Int.reduceNeg, thaw, nodup, refsV, adopts]
  have hlen : l.length ≤ 25 := by have := of_decide_eq_false c1; omega
  have hg4 : 0 ≤ g ∧ g < 4 := by have := of_decide_eq_false c2; omega
  simp (config := {decide := true}) only [c_paddocklaw9_ChooseStarted, known9_at, hlm, c1, c2, hnew, thaws, thaw, hl, ha, ha0, hs, hs0, ht, ht0, hh_push, eptr_itv, n1, n2, n3, n4, n5, n6, Nat.zero_le, Nat.le_refl, List.take_zero, plain_nil, plain_arr, plain_box, Pk.EVL, keepT, enum, ↓reduceIte, ev, act, appT, callee, toDs, toD, loadA, storeA, subA, subD, updA, Eff.on, resA, resVs, resV, lk, finish, frzR, frzVs, frzV, fznR, fzns, fzn, lts, lt, ltO, List.all, pairsOk, indep, reduceCtorEq, Nat.reduceEqDiff, Nat.reduceAdd, Nat.reduceLeDiff, stb, thaws, List.drop, intOfA, binD, binI, unD, mmL, buildA, mkAgg, allD, bslD, behind, behind0, takeAt, frzAs, frzA, adoptR, adopt, isD, isD0, trim, List.take, binS, sliceA, bnd, zOk, elems, Nat.reduceBNe, inpl, Nat.reduceLT, Nat.reduceBEq, Nat.reduceSub, Nat.reduceMul, Int.reduceLT, Int.reduceLE, Int.reduceEq, Int.reduceToNat, Int.reduceNeg, thaw, nodup, refsV, adopts]
  simp only [Option.bind_assoc]
  refine bind_run (loop_run (fun i T H => lk T 0 = .d (.sl (l.map Inc.d)) ∧ lk T 1 = .d (.i .u8 g) ∧ lk T 5 = .ptr (p + 2) 0 ∧ lk T 6 = .d (.i .i64 (i : Nat)) ∧ H = hh [] p (takeAll (l.take i)) grb0 [])
    (fun e T H => e = .exit 0 ∧ lk T 0 = .d (.sl (l.map Inc.d)) ∧ lk T 1 = .d (.i .u8 g) ∧ lk T 5 = .ptr (p + 2) 0 ∧ H = hh [] p (takeAll l) grb0 []) l.length ?_ ?_ l.length 0 _ _ (by omega) ⟨rfl, rfl, rfl, rfl, rfl⟩) ?_
  · rintro i T H hi ⟨h0, g1, h5, h7, rfl⟩
    obtain ⟨x, hx⟩ : ∃ x, l[i]? = some x := ⟨l[i]'hi, List.getElem?_eq_getElem _⟩
    have hxd := list_idx Inc.d hx
    have hxo := hok x (List.mem_of_getElem? hx)
    have hg : goodI (takeAll (l.take i)) := takeAll_good fun y hy => hok y (List.mem_of_mem_take hy)
    have hnext : takeAll (l.take (i + 1)) = takeN (takeAll (l.take i)) x := by rw [take_succ' hx, takeAll_snoc]
    have hgl := hg.1
    rw [hnext]
    generalize takeAll (l.take i) = gg at *
    have L := @h_last _ _ hP hPp gg _ grb0_pl
    have A : ∀ X, plain X → evF C F_history_History_Add [.ptr (p + 2) 0, .d (.i .u32 ((gg.length : Int) + 2)), .d (.agg x.cs)] (hh [] p gg grb0 X) = some (.d (.i .i64 (codeN gg x)), hh [] p (takeN gg x) grb0 X) := fun X hX => h_add hP hPp hg grb0_pl hX ((gg.length : Int) + 2) (by omega) x hxo
    have hw1 : IntKind.u32.wrap (((gg.length : Int) + 1) + 1) = (gg.length : Int) + 2 := by rw [wu32 (by omega)]; omega
    have hd : decide ((i : Int) < ((l.length : Nat) : Int)) = true := by simp; omega
    have hw : IntKind.i64.wrap ((i : Int) + 1) = ((i + 1 : Nat) : Int) := wi64 (by omega)
    have b0 : (0 ≤ (i : Int)) = True := by simp
    have hall := @hh_all0 _ _ _ hP hn hPp gg _ grb0_pl [] (fun _ => rfl)
    simp (config := {decide := true}) only [K_paddocklaw9_ChooseStarted_0, l_paddocklaw9_ChooseStarted_0, h0, g1, h5, h7, hlm, hxd, L, A, hw1, hd, hw, b0, hall, ite_self, hl, ha, ha0, hs, hs0, ht, ht0, hh_push, eptr_itv, n1, n2, n3, n4, n5, n6, Nat.zero_le, Nat.le_refl, List.take_zero, plain_nil, plain_arr, plain_box, Pk.EVL, keepT, enum, ↓reduceIte, ev, act, appT, callee, toDs, toD, loadA, storeA, subA, subD, updA, Eff.on, resA, resVs, resV, lk, finish, frzR, frzVs, frzV, fznR, fzns, fzn, lts, lt, ltO, List.all, pairsOk, indep, reduceCtorEq, Nat.reduceEqDiff, Nat.reduceAdd, Nat.reduceLeDiff, stb, thaws, List.drop, intOfA, binD, binI, unD, mmL, buildA, mkAgg, allD, bslD, behind, behind0, takeAt, frzAs, frzA, adoptR, adopt, isD, isD0, trim, List.take, binS, sliceA, bnd, zOk, elems, Nat.reduceBNe, inpl, Nat.reduceLT, Nat.reduceBEq, Nat.reduceSub, Nat.reduceMul, Int.reduceLT, Int.reduceLE, Int.reduceEq, Int.reduceToNat, Int.reduceNeg, thaw, nodup, refsV, adopts, Pk.TY_Inc]
    exact ⟨_, _, _, rfl, .inl ⟨rfl, rfl, rfl, rfl, rfl, rfl⟩⟩
  · rintro T H ⟨h0, g1, h5, h7, rfl⟩
    rw [List.take_length]
    have hd : decide (((l.length : Nat) : Int) < ((l.length : Nat) : Int)) = false := by simp
    have hall := @hh_all0 _ _ _ hP hn hPp (takeAll l) _ grb0_pl [] (fun _ => rfl)
    simp (config := {decide := true}) only [K_paddocklaw9_ChooseStarted_0, l_paddocklaw9_ChooseStarted_0, h0, g1, h5, h7, hlm, hd, hall, ite_self, hl, ha, ha0, hs, hs0, ht, ht0, hh_push, eptr_itv, n1, n2, n3, n4, n5, n6, Nat.zero_le, Nat.le_refl, List.take_zero, plain_nil, plain_arr, plain_box, Pk.EVL, keepT, enum, ↓reduceIte, ev, act, appT, callee, toDs, toD, loadA, storeA, subA, subD, updA, Eff.on, resA, resVs, resV, lk, finish, frzR, frzVs, frzV, fznR, fzns, fzn, lts, lt, ltO, List.all, pairsOk, indep, reduceCtorEq, Nat.reduceEqDiff, Nat.reduceAdd, Nat.reduceLeDiff, stb, thaws, List.drop, intOfA, binD, binI, unD, mmL, buildA, mkAgg, allD, bslD, behind, behind0, takeAt, frzAs, frzA, adoptR, adopt, isD, isD0, trim, List.take, binS, sliceA, bnd, zOk, elems, Nat.reduceBNe, inpl, Nat.reduceLT, Nat.reduceBEq, Nat.reduceSub, Nat.reduceMul, Int.reduceLT, Int.reduceLE, Int.reduceEq, Int.reduceToNat, Int.reduceNeg, thaw, nodup, refsV, adopts, Pk.TY_Inc]
    exact ⟨_, _, _, rfl, by simp, rfl, rfl, rfl, rfl, rfl⟩
  rintro e T H ⟨rfl, h0, g1, h5, rfl⟩
  have hG : goodI (takeAll l) := takeAll_good hok
  clear h0
  generalize takeAll l = G at *
  have S := fun X (hX : plain X) => @h_since _ _ hP hPp G hG _ grb0_pl X hX g hg4.1
  have AC := fun X (hX : plain X) => @h_acting _ _ hP hPp G hG _ grb0_pl X hX g hg4.1
  have hla := lastI_len hG g
  have hlacks := lacks_since G g hg4 []
  have hen := enough_self G g hg4
  have hless := enough_less hG g hg4
  obtain ⟨r, hr, Z, fe, hfe, hZ, rfl⟩ := lacks_at hP hn hPp hG grb0_pl (X := []) (fun _ => rfl) (m := n) rfl g hg4 (hv := .nilS) (A := []) (.inr ⟨rfl, rfl⟩) (by decide) (lastI (ivL G g)).since
  rw [hlacks, hrh] at hr
  have hq1 := Grb.frz_pl grb0_pl g
  have hX1 : plain ([] ++ [.arr (([] ++ Z).map Itv.d) true, .box (fnM fe)]) := by
    rw [List.nil_append, plain_arr]
    exact plain_fn hfe [] (fun _ => rfl)
  have E1 := enough_at hP hn hPp hG hq1 hX1 (m := n + 2) rfl g hg4 (hv := .d (.sl ((lastI (ivL G g)).acting.map fun x => .i .i64 x))) (.inl rfl) (by omega) (lastI (ivL G g)).since
  have E2 := enough_at hP hn hPp hG (Grb.frz_pl hq1 g) hX1 (m := n + 2) rfl g hg4 (hv := .d (.sl (((lastI (ivL G g)).acting.drop 1).map fun x => .i .i64 x))) (.inl rfl) (by rw [List.length_drop]; omega) (lastI (ivL G g)).since
  rw [hen] at E1
  simp only [List.nil_append] at E1 E2 hr
  have hal : ((lastI (ivL G g)).acting.map fun x => DV.i .i64 x).length = (lastI (ivL G g)).acting.length := List.length_map _
  have z0 : ((([] : List Itv).length : Nat) : Int) = 0 := rfl
  by_cases ca : (lastI (ivL G g)).acting = []
  · have h00 : ((((lastI (ivL G g)).acting.length : Nat) : Int) == 0) = true := by rw [ca]; rfl
    simp (config := {decide := true}) only [g1, h5, S, AC, hr, E1, hal, h00, z0, guardR_und, hl, ha, ha0, hs, hs0, ht, ht0, hh_push, eptr_itv, n1, n2, n3, n4, n5, n6, Nat.zero_le, Nat.le_refl, List.take_zero, plain_nil, plain_arr, plain_box, Pk.EVL, keepT, enum, ↓reduceIte, ev, act, appT, callee, toDs, toD, loadA, storeA, subA, subD, updA, Eff.on, resA, resVs, resV, lk, finish, frzR, frzVs, frzV, fznR, fzns, fzn, lts, lt, ltO, List.all, pairsOk, indep, reduceCtorEq, Nat.reduceEqDiff, Nat.reduceAdd, Nat.reduceLeDiff, stb, thaws, List.drop, intOfA, binD, binI, unD, mmL, buildA, mkAgg, allD, bslD, behind, behind0, takeAt, frzAs, frzA, adoptR, adopt, isD, isD0, trim, List.take, binS, sliceA, bnd, zOk, elems, Nat.reduceBNe, inpl, Nat.reduceLT, Nat.reduceBEq, Nat.reduceSub, Nat.reduceMul, Int.reduceLT, Int.reduceLE, Int.reduceEq, Int.reduceToNat, Int.reduceNeg, thaw, nodup, refsV, adopts]
  · rw [hless ca] at E2
    have hpos : 0 < (lastI (ivL G g)).acting.length := List.length_pos_iff.2 ca
    have h00 : ((((lastI (ivL G g)).acting.length : Nat) : Int) == 0) = false := by rw [beq_eq_false_iff_ne]; omega
    have hdr : ((lastI (ivL G g)).acting.map fun x => DV.i .i64 x).drop 1 = ((lastI (ivL G g)).acting.drop 1).map fun x => .i .i64 x := by rw [List.map_drop]
    have htk : ∀ x : List DV, List.take x.length x = x := fun x => List.take_length
    have hc1 : ((1 : Int) ≤ (((lastI (ivL G g)).acting.length : Nat) : Int)) = True := eq_true (by omega)
    have htl : List.take (lastI (ivL G g)).acting.length ((lastI (ivL G g)).acting.map fun x => DV.i .i64 x) = (lastI (ivL G g)).acting.map fun x => DV.i .i64 x := List.take_of_length_le (by simp)
    have hce : (((lastI (ivL G g)).acting.map fun x => DV.i .i64 x).all fun e => e.cells.length == 1) = true := by simp [DV.cells]
    generalize (lastI (ivL G g)).acting.map (fun x => DV.i .i64 x) = ac at *
    generalize ((lastI (ivL G g)).acting.drop 1).map (fun x => DV.i .i64 x) = ac1 at *
    simp (config := {decide := true}) only [g1, h5, S, AC, hr, E1, E2, hal, h00, hdr, htl, hc1, hce, z0, guardR_und, ↓hdr, hl, ha, ha0, hs, hs0, ht, ht0, hh_push, eptr_itv, n1, n2, n3, n4, n5, n6, Nat.zero_le, Nat.le_refl, List.take_zero, plain_nil, plain_arr, plain_box, Pk.EVL, keepT, enum, ↓reduceIte, ev, act, appT, callee, toDs, toD, loadA, storeA, subA, subD, updA, Eff.on, resA, resVs, resV, lk, finish, frzR, frzVs, frzV, fznR, fzns, fzn, lts, lt, ltO, List.all, pairsOk, indep, reduceCtorEq, Nat.reduceEqDiff, Nat.reduceAdd, Nat.reduceLeDiff, stb, thaws, List.drop, intOfA, binD, binI, unD, mmL, buildA, mkAgg, allD, bslD, behind, behind0, takeAt, frzAs, frzA, adoptR, adopt, isD, isD0, trim, List.take, binS, sliceA, bnd, zOk, elems, Nat.reduceBNe, inpl, Nat.reduceLT, Nat.reduceBEq, Nat.reduceSub, Nat.reduceMul, Int.reduceLT, Int.reduceLE, Int.reduceEq, Int.reduceToNat, Int.reduceNeg, thaw, nodup, refsV, adopts]
end Go.Proofs.Ytmiionadkdfbdaa
