/- The law ChooseHears. -/
import Derived.Test.YtmiionadkdfbdaaChHp
import Derived.Test.YtmiionadkdfbdaaHsN
set_option linter.all false
namespace Go.Proofs.Ytmiionadkdfbdaa
open Pv Go Pk
set_option maxRecDepth 10000
set_option maxHeartbeats 4000000
theorem wg_ok (o : Int) (h : 0 ≤ o ∧ o < 5) : (wg0 o).ok := by unfold Inc.ok wg0; exact ⟨by show (0 : Int) ≤ 3 ∧ (3 : Int) < 256; omega, by show 0 ≤ o ∧ o < 256; omega, by show (-9223372036854775808 : Int) ≤ 0 ∧ (0 : Int) ≤ 9223372036854775807; omega⟩
theorem wg_is (o : Int) (h : 0 ≤ o ∧ o < 5) : isInc (wg0 o) = true := by unfold isInc wg0; simp; omega
theorem hears_law (gr a b st : Int) (hgr : 0 ≤ gr ∧ gr < 256) (hav : 0 ≤ a ∧ a < 256) (hbv : 0 ≤ b ∧ b < 256) (hst : 0 ≤ st ∧ st < 4294967296) : evF C F_paddocklaw9_ChooseHears [.d (.i .u8 gr), .d (.i .u8 a), .d (.i .u8 b), .d (.i .u32 st)] [] = some (.d (.b true), []) := by
  obtain ⟨p, hP⟩ : ∃ p, ([] : Heap).length = p := ⟨_, rfl⟩
  obtain ⟨n, hn⟩ : ∃ n, p + 12 = n := ⟨_, rfl⟩
  have hPp : plain [] := fun _ => rfl
  have hnew := h_new hP
  have hl := hh_len hP hn
  have ha := hh_at hP hn
  have ha0 := hh_at0 hP hn
  have hs := hh_set hP hn
  have hs0 := hh_set0 hP hn
  have ht := hh_take hP hn
  have ht0 := hh_take0 hP hn
  have n1 : (p + 2 < n) = True := eq_true (by omega)
  have n2 : (p + 2 < n + 1) = True := eq_true (by omega)
  have n3 : (n < n + 1) = True := eq_true (by omega)
  have n4 : (n ≤ n + 1) = True := eq_true (by omega)
  have n5 : (n ≤ n + 2) = True := eq_true (by omega)
  have n6 : (n + 1 ≤ n + 2) = True := eq_true (by omega)
  obtain ⟨an, rfl⟩ := Int.eq_ofNat_of_zero_le hav.1
  obtain ⟨bn, rfl⟩ := Int.eq_ofNat_of_zero_le hbv.1
  obtain ⟨g, hg⟩ : ∃ g, gr.tmod 4 = g := ⟨_, rfl⟩
  have hg4 : 0 ≤ g ∧ g < 4 := by
    obtain ⟨k, rfl⟩ := Int.eq_ofNat_of_zero_le hgr.1
    rw [← hg]
    show 0 ≤ ((k % 4 : Nat) : Int) ∧ ((k % 4 : Nat) : Int) < 4
    omega
  have hge : IntKind.u8.wrap g = g := wu8 (by omega)
  obtain ⟨s, hs4⟩ : ∃ s, st.tmod 4 = s := ⟨_, rfl⟩
  have hs04 : 0 ≤ s ∧ s < 4 := by
    obtain ⟨k, rfl⟩ := Int.eq_ofNat_of_zero_le hst.1
    rw [← hs4]
    show 0 ≤ ((k % 4 : Nat) : Int) ∧ ((k % 4 : Nat) : Int) < 4
    omega
  have hse : IntKind.u32.wrap s = s := wu32 (by omega)
  have hwa : IntKind.i64.wrap (an : Int) = (an : Int) := wi64 (by omega)
  have hwb : IntKind.i64.wrap (bn : Int) = (bn : Int) := wi64 (by omega)
  have hra : (an : Int).tmod ((3 : Nat) : Int) = ((an % 3 : Nat) : Int) := rfl
  have hrb : (bn : Int).tmod ((3 : Nat) : Int) = ((bn % 3 : Nat) : Int) := rfl
  have hwa3 : IntKind.i64.wrap ((an % 3 : Nat) : Int) = ((an % 3 : Nat) : Int) := wi64 (by omega)
  have hwb3 : IntKind.i64.wrap ((bn % 3 : Nat) : Int) = ((bn % 3 : Nat) : Int) := wi64 (by omega)
  have ha0' : (0 ≤ ((an % 3 : Nat) : Int)) = True := eq_true (Int.natCast_nonneg _)
  have hb0' : (0 ≤ ((bn % 3 : Nat) : Int)) = True := eq_true (Int.natCast_nonneg _)
  have ha3 : (((an % 3 : Nat) : Int) < ((3 : Nat) : Int)) = True := eq_true (by omega)
  have hb3 : (((bn % 3 : Nat) : Int) < ((3 : Nat) : Int)) = True := eq_true (by omega)
  have hF3 := act_len g hg4
  have hFin := actI_mem firstM g
  have hfirst := lacks_first g hg4
  have C0 := fun X (hX : plain X) => @h_acting _ _ hP hPp [] good_nil _ grb0_pl X hX g hg4.1
  have hl0 : (lastI (ivL [] g)).acting = actI firstM g := by rw [ivL_nil g hg4]; rfl
  rw [hl0] at C0
  obtain ⟨x, hx⟩ : ∃ x, (actI firstM g)[an % 3]? = some x := ⟨(actI firstM g)[an % 3]'(by omega), List.getElem?_eq_getElem _⟩
  obtain ⟨y, hy⟩ : ∃ y, (actI firstM g)[bn % 3]? = some y := ⟨(actI firstM g)[bn % 3]'(by omega), List.getElem?_eq_getElem _⟩
  have hx5 := hFin x (List.mem_of_getElem? hx)
  have hy5 := hFin y (List.mem_of_getElem? hy)
  have hfirst := fun s hs => hfirst x y (List.mem_of_getElem? hx) s hs
  generalize actI firstM g = F at *
  have hxd := list_idx (fun x : Int => DV.i .i64 x) hx
  have hyd := list_idx (fun x : Int => DV.i .i64 x) hy
  have hFl : (F.map fun x : Int => DV.i .i64 x).length = 3 := by rw [List.length_map]; exact hF3
  have h30 : (((3 : Nat) : Int) = 0) = False := by simp
  rw [evF_code (rfl : C F_paddocklaw9_ChooseHears = some a_paddocklaw9_ChooseHears) _ _ rfl]
  rcases Bool.eq_false_or_eq_true (x == y) with c | c
  · simp (config := {decide := true}) only [c_paddocklaw9_ChooseHears, known9_at, hnew, C0, hg, hge, hwa, hwb, hra, hrb, hwa3, hwb3, ha0', hb0', ha3, hb3, h30, hFl, hxd, hyd, c, guardR_und, Int.toNat_natCast, hl, ha, ha0, hs, hs0, ht, ht0, hh_push, eptr_itv, n1, n2, n3, n4, n5, n6, Nat.zero_le, Nat.le_refl, List.take_zero, plain_nil, plain_arr, plain_box, Pk.EVL, keepT, enum, ↓reduceIte, ev, act, appT, appW, callee, toDs, toD, loadA, storeA, subA, subD, updA, Eff.on, resA, resVs, resV, lk, finish, frzR, frzVs, frzV, fznR, fzns, fzn, lts, lt, ltO, List.all, pairsOk, indep, reduceCtorEq, Nat.reduceEqDiff, Nat.reduceAdd, Nat.reduceLeDiff, stb, thaws, List.drop, intOfA, binD, binI, unD, mmL, buildA, mkAgg, allD, bslD, behind, behind0, takeAt, frzAs, frzA, adoptR, adopt, isD, isD0, trim, List.take, binS, sliceA, bnd, zOk, elems, Nat.reduceBNe, inpl, Nat.reduceLT, Nat.reduceBEq, Nat.reduceSub, Nat.reduceMul, Int.reduceLT, Int.reduceLE, Int.reduceEq, Int.reduceToNat, Int.reduceNeg, thaw, nodup, refsV, adopts]
  have hwx : IntKind.u8.wrap x = x := wu8 (by omega)
  have hwy : IntKind.u8.wrap y = y := wu8 (by omega)
  have gd1 : goodI [wg0 x] := ⟨by simp, fun z hz => by simp at hz; subst hz; exact ⟨wg_is x hx5, hx5.1⟩⟩
  have gd2 : goodI [wg0 x, wg0 y] := ⟨by simp, fun z hz => by simp at hz; rcases hz with rfl | rfl; exact ⟨wg_is x hx5, hx5.1⟩; exact ⟨wg_is y hy5, hy5.1⟩⟩
  have A1 : ∀ X, plain X → evF C F_history_History_Add [.ptr (p + 2) 0, .d (.i .u32 2), .d (.agg (wg0 x).cs)] (hh [] p [] grb0 X) = some (.d (.i .i64 0), hh [] p [wg0 x] grb0 X) := fun X hX => by
    have := h_add hP hPp good_nil grb0_pl hX 2 (by decide) (wg0 x) (wg_ok x hx5)
    rwa [show addL [] 2 (wg0 x) = ([wg0 x], 0) by unfold addL; rw [if_neg (by simp), if_neg (by simp), if_pos ⟨wg_is x hx5, by simp⟩]; rfl] at this
  have A2 : ∀ X, plain X → evF C F_history_History_Add [.ptr (p + 2) 0, .d (.i .u32 3), .d (.agg (wg0 y).cs)] (hh [] p [wg0 x] grb0 X) = some (.d (.i .i64 0), hh [] p [wg0 x, wg0 y] grb0 X) := fun X hX => by
    have := h_add hP hPp gd1 grb0_pl hX 3 (by decide) (wg0 y) (wg_ok y hy5)
    rwa [show addL [wg0 x] 3 (wg0 y) = ([wg0 x, wg0 y], 0) by unfold addL; rw [if_neg (by simp), if_neg (by simp), if_pos ⟨wg_is y hy5, by simp⟩]; rfl] at this
  simp (config := {decide := true}) only [c_paddocklaw9_ChooseHears, known9_at, hnew, C0, hg, hge, hwa, hwb, hra, hrb, hwa3, hwb3, ha0', hb0', ha3, hb3, h30, hFl, hxd, hyd, c, hwx, hwy, wt_fold, A1, A2, guardR_und, thaws, thaw, Int.toNat_natCast, hl, ha, ha0, hs, hs0, ht, ht0, hh_push, eptr_itv, n1, n2, n3, n4, n5, n6, Nat.zero_le, Nat.le_refl, List.take_zero, plain_nil, plain_arr, plain_box, Pk.EVL, keepT, enum, ↓reduceIte, ev, act, appT, appW, callee, toDs, toD, loadA, storeA, subA, subD, updA, Eff.on, resA, resVs, resV, lk, finish, frzR, frzVs, frzV, fznR, fzns, fzn, lts, lt, ltO, List.all, pairsOk, indep, reduceCtorEq, Nat.reduceEqDiff, Nat.reduceAdd, Nat.reduceLeDiff, stb, thaws, List.drop, intOfA, binD, binI, unD, mmL, buildA, mkAgg, allD, bslD, behind, behind0, takeAt, frzAs, frzA, adoptR, adopt, isD, isD0, trim, List.take, binS, sliceA, bnd, zOk, elems, Nat.reduceBNe, inpl, Nat.reduceLT, Nat.reduceBEq, Nat.reduceSub, Nat.reduceMul, Int.reduceLT, Int.reduceLE, Int.reduceEq, Int.reduceToNat, Int.reduceNeg, thaw, nodup, refsV, adopts, Pk.TY_Inc]
  simp only [Option.bind_assoc]
  have hOl : ∀ i, ((othL F i).map fun x : Int => DV.i .i64 x).length = (othL F i).length := fun i => List.length_map _
  refine bind_run (loop_run (fun i T H => lk T 3 = .d (.i .u32 st) ∧ lk T 9 = .d (.i .u8 g) ∧ lk T 10 = .ptr (p + 2) 0 ∧ lk T 11 = .d (.sl (F.map fun x => .i .i64 x)) ∧ lk T 14 = .view n (othL F i).length 1 0 (othL F i).length ∧ lk T 15 = .d (.i .i64 (i : Nat)) ∧
      ∃ J, plain J ∧ H = hh [] p [wg0 x, wg0 y] grb0 (.arr ((othL F i).map fun x => .i .i64 x) true :: J))
    (fun e T H => e = .exit 0 ∧ lk T 3 = .d (.i .u32 st) ∧ lk T 9 = .d (.i .u8 g) ∧ lk T 10 = .ptr (p + 2) 0 ∧ lk T 14 = .view n (othL F 5).length 1 0 (othL F 5).length ∧ H = hh [] p [wg0 x, wg0 y] grb0 [.arr ((othL F 5).map fun x => .i .i64 x) true]) 5 ?_ ?_ 5 0 _ _ (by omega) ⟨rfl, rfl, rfl, rfl, rfl, rfl, [], fun _ => rfl, rfl⟩) ?_
  · rintro i T H hi ⟨h3, h9, h10, h11, h14, h15, J, hJ, rfl⟩
    have hd : decide ((i : Int) < 5) = true := by simp; omega
    have hw : IntKind.i64.wrap ((i : Int) + 1) = ((i + 1 : Nat) : Int) := wi64 (by omega)
    have hall := @hh_all _ _ _ hP hn hPp [wg0 x, wg0 y] _ grb0_pl [.arr ((othL F i).map fun x => .i .i64 x) true] (by rw [plain_arr]; exact fun _ => rfl) 1
    have hlen := othL_len F i
    have hlim : ((othL F i).length + 1 ≤ LIM) = True := eq_true (by unfold LIM; omega)
    have hstep := othL_step F i
    have en : (n + 1 != n) = true := by simp
    have hgm := hOl i
    simp (config := {decide := true}) only [K_paddocklaw9_ChooseHears_1, l_paddocklaw9_ChooseHears_1, h3, h9, h10, h11, h14, h15, hd, hall, thaws, ite_self, hl, ha, ha0, hs, hs0, ht, ht0, hh_push, eptr_itv, n1, n2, n3, n4, n5, n6, Nat.zero_le, Nat.le_refl, List.take_zero, plain_nil, plain_arr, plain_box, Pk.EVL, keepT, enum, ↓reduceIte, ev, act, appT, appW, callee, toDs, toD, loadA, storeA, subA, subD, updA, Eff.on, resA, resVs, resV, lk, finish, frzR, frzVs, frzV, fznR, fzns, fzn, lts, lt, ltO, List.all, pairsOk, indep, reduceCtorEq, Nat.reduceEqDiff, Nat.reduceAdd, Nat.reduceLeDiff, stb, thaws, List.drop, intOfA, binD, binI, unD, mmL, buildA, mkAgg, allD, bslD, behind, behind0, takeAt, frzAs, frzA, adoptR, adopt, isD, isD0, trim, List.take, binS, sliceA, bnd, zOk, elems, Nat.reduceBNe, inpl, Nat.reduceLT, Nat.reduceBEq, Nat.reduceSub, Nat.reduceMul, Int.reduceLT, Int.reduceLE, Int.reduceEq, Int.reduceToNat, Int.reduceNeg, thaw, nodup, refsV, adopts]
    simp only [Option.bind_assoc]
    have plA : plain [.arr ((othL F i).map fun x => .i .i64 x) true] := by rw [plain_arr]; exact fun _ => rfl
    refine ex_run (loop_run (fun k T H => lk T 3 = .d (.i .u32 st) ∧ lk T 9 = .d (.i .u8 g) ∧ lk T 10 = .ptr (p + 2) 0 ∧ lk T 11 = .d (.sl (F.map fun x => .i .i64 x)) ∧ lk T 14 = .view n (othL F i).length 1 0 (othL F i).length ∧ lk T 15 = .d (.i .i64 (i : Nat)) ∧ lk T 16 = .d (.b ((F.take k).any fun z => z == (i : Int))) ∧ lk T 17 = .d (.i .i64 (k : Nat)) ∧
        H = hh [] p [wg0 x, wg0 y] grb0 [.arr ((othL F i).map fun x => .i .i64 x) true])
      (fun e T H => e = .exit 2 ∧ lk T 3 = .d (.i .u32 st) ∧ lk T 9 = .d (.i .u8 g) ∧ lk T 10 = .ptr (p + 2) 0 ∧ lk T 11 = .d (.sl (F.map fun x => .i .i64 x)) ∧ lk T 14 = .view n (othL F i).length 1 0 (othL F i).length ∧ lk T 15 = .d (.i .i64 (i : Nat)) ∧ lk T 16 = .d (.b (F.any fun z => z == (i : Int))) ∧ H = hh [] p [wg0 x, wg0 y] grb0 [.arr ((othL F i).map fun x => .i .i64 x) true]) 3 ?_ ?_ 3 0 _ _ (by omega) ⟨rfl, rfl, rfl, rfl, rfl, rfl, rfl, rfl, rfl⟩) ?_
    · rintro k T H hk ⟨h3, h9, h10, h11, h14, h15, h16, h17, rfl⟩
      obtain ⟨z, hz⟩ : ∃ z, F[k]? = some z := ⟨F[k]'(by omega), List.getElem?_eq_getElem _⟩
      have hzd := list_idx (fun x : Int => DV.i .i64 x) hz
      have hdk : decide ((k : Int) < ((3 : Nat) : Int)) = true := by simp; omega
      have hwk : IntKind.i64.wrap ((k : Int) + 1) = ((k + 1 : Nat) : Int) := wi64 (by omega)
      have b0 : (0 ≤ (k : Int)) = True := eq_true (Int.natCast_nonneg _)
      have b1 : ((k : Int) < ((3 : Nat) : Int)) = True := eq_true (by omega)
      have hnext : ((F.take (k + 1)).any fun z => z == (i : Int)) = (((F.take k).any fun z => z == (i : Int)) || (z == (i : Int))) := by rw [take_succ' hz, List.any_append, List.any_cons, List.any_nil, Bool.or_false]
      rw [hnext]
      generalize (F.take k).any (fun z => z == (i : Int)) = bb at *
      cases bb <;>
      simp (config := {decide := true}) only [K_paddocklaw9_ChooseHears_0, l_paddocklaw9_ChooseHears_0, h3, h9, h10, h11, h14, h15, h16, h17, hFl, hzd, hdk, hwk, b0, b1, hall, guardR_und, Bool.true_or, Bool.false_or, Int.toNat_natCast, ite_self, hl, ha, ha0, hs, hs0, ht, ht0, hh_push, eptr_itv, n1, n2, n3, n4, n5, n6, Nat.zero_le, Nat.le_refl, List.take_zero, plain_nil, plain_arr, plain_box, Pk.EVL, keepT, enum, ↓reduceIte, ev, act, appT, appW, callee, toDs, toD, loadA, storeA, subA, subD, updA, Eff.on, resA, resVs, resV, lk, finish, frzR, frzVs, frzV, fznR, fzns, fzn, lts, lt, ltO, List.all, pairsOk, indep, reduceCtorEq, Nat.reduceEqDiff, Nat.reduceAdd, Nat.reduceLeDiff, stb, thaws, List.drop, intOfA, binD, binI, unD, mmL, buildA, mkAgg, allD, bslD, behind, behind0, takeAt, frzAs, frzA, adoptR, adopt, isD, isD0, trim, List.take, binS, sliceA, bnd, zOk, elems, Nat.reduceBNe, inpl, Nat.reduceLT, Nat.reduceBEq, Nat.reduceSub, Nat.reduceMul, Int.reduceLT, Int.reduceLE, Int.reduceEq, Int.reduceToNat, Int.reduceNeg, thaw, nodup, refsV, adopts] <;>
      exact ⟨_, _, _, rfl, .inl ⟨rfl, rfl, rfl, rfl, rfl, rfl, rfl, rfl, rfl, rfl⟩⟩
    · rintro T H ⟨h3, h9, h10, h11, h14, h15, h16, h17, rfl⟩
      rw [show F.take 3 = F by rw [← hF3]; exact List.take_length] at h16
      have hdk : decide (((3 : Nat) : Int) < ((3 : Nat) : Int)) = false := by simp
      simp (config := {decide := true}) only [K_paddocklaw9_ChooseHears_0, l_paddocklaw9_ChooseHears_0, h3, h9, h10, h11, h14, h15, h16, h17, hFl, hdk, hall, ite_self, hl, ha, ha0, hs, hs0, ht, ht0, hh_push, eptr_itv, n1, n2, n3, n4, n5, n6, Nat.zero_le, Nat.le_refl, List.take_zero, plain_nil, plain_arr, plain_box, Pk.EVL, keepT, enum, ↓reduceIte, ev, act, appT, appW, callee, toDs, toD, loadA, storeA, subA, subD, updA, Eff.on, resA, resVs, resV, lk, finish, frzR, frzVs, frzV, fznR, fzns, fzn, lts, lt, ltO, List.all, pairsOk, indep, reduceCtorEq, Nat.reduceEqDiff, Nat.reduceAdd, Nat.reduceLeDiff, stb, thaws, List.drop, intOfA, binD, binI, unD, mmL, buildA, mkAgg, allD, bslD, behind, behind0, takeAt, frzAs, frzA, adoptR, adopt, isD, isD0, trim, List.take, binS, sliceA, bnd, zOk, elems, Nat.reduceBNe, inpl, Nat.reduceLT, Nat.reduceBEq, Nat.reduceSub, Nat.reduceMul, Int.reduceLT, Int.reduceLE, Int.reduceEq, Int.reduceToNat, Int.reduceNeg, thaw, nodup, refsV, adopts]
      exact ⟨_, _, _, rfl, by simp, rfl, rfl, rfl, rfl, rfl, rfl, rfl, rfl, rfl⟩
    rintro e T H ⟨rfl, h3, h9, h10, h11, h14, h15, h16, rfl⟩
    rcases Bool.eq_false_or_eq_true (F.any fun z => z == (i : Int)) with cF | cF
    · rw [if_pos cF, List.append_nil] at hstep
      rw [cF] at h16
      rw [hstep]
      simp (config := {decide := true}) only [h3, h9, h10, h11, h14, h15, h16, hw, hall, ite_self, hl, ha, ha0, hs, hs0, ht, ht0, hh_push, eptr_itv, n1, n2, n3, n4, n5, n6, Nat.zero_le, Nat.le_refl, List.take_zero, plain_nil, plain_arr, plain_box, Pk.EVL, keepT, enum, ↓reduceIte, ev, act, appT, appW, callee, toDs, toD, loadA, storeA, subA, subD, updA, Eff.on, resA, resVs, resV, lk, finish, frzR, frzVs, frzV, fznR, fzns, fzn, lts, lt, ltO, List.all, pairsOk, indep, reduceCtorEq, Nat.reduceEqDiff, Nat.reduceAdd, Nat.reduceLeDiff, stb, thaws, List.drop, intOfA, binD, binI, unD, mmL, buildA, mkAgg, allD, bslD, behind, behind0, takeAt, frzAs, frzA, adoptR, adopt, isD, isD0, trim, List.take, binS, sliceA, bnd, zOk, elems, Nat.reduceBNe, inpl, Nat.reduceLT, Nat.reduceBEq, Nat.reduceSub, Nat.reduceMul, Int.reduceLT, Int.reduceLE, Int.reduceEq, Int.reduceToNat, Int.reduceNeg, thaw, nodup, refsV, adopts]
      exact ⟨_, _, _, rfl, .inl ⟨rfl, rfl, rfl, rfl, rfl, rfl, rfl, [], fun _ => rfl, rfl⟩⟩
    · rw [if_neg (by rw [cF]; decide)] at hstep
      rw [cF] at h16
      rw [hstep]
      simp (config := {decide := true}) only [h3, h9, h10, h11, h14, h15, h16, hw, hgm, hlim, en, hall, elems, ite_self, hl, ha, ha0, hs, hs0, ht, ht0, hh_push, eptr_itv, n1, n2, n3, n4, n5, n6, Nat.zero_le, Nat.le_refl, List.take_zero, plain_nil, plain_arr, plain_box, Pk.EVL, keepT, enum, ↓reduceIte, ev, act, appT, appW, callee, toDs, toD, loadA, storeA, subA, subD, updA, Eff.on, resA, resVs, resV, lk, finish, frzR, frzVs, frzV, fznR, fzns, fzn, lts, lt, ltO, List.all, pairsOk, indep, reduceCtorEq, Nat.reduceEqDiff, Nat.reduceAdd, Nat.reduceLeDiff, stb, thaws, List.drop, intOfA, binD, binI, unD, mmL, buildA, mkAgg, allD, bslD, behind, behind0, takeAt, frzAs, frzA, adoptR, adopt, isD, isD0, trim, List.take, binS, sliceA, bnd, zOk, elems, Nat.reduceBNe, inpl, Nat.reduceLT, Nat.reduceBEq, Nat.reduceSub, Nat.reduceMul, Int.reduceLT, Int.reduceLE, Int.reduceEq, Int.reduceToNat, Int.reduceNeg, thaw, nodup, refsV, adopts]
      refine ⟨_, _, _, rfl, .inl ⟨rfl, rfl, rfl, rfl, rfl, ?_, rfl, [.arr [.i .i64 (i : Int)] true], fun _ => rfl, ?_⟩⟩
      · rw [List.length_append]; rfl
      · rw [List.map_append]; rfl
  · rintro T H ⟨h3, h9, h10, h11, h14, h15, J, hJ, rfl⟩
    have hd : decide (((5 : Nat) : Int) < 5) = false := by simp
    have hall := @hh_all _ _ _ hP hn hPp [wg0 x, wg0 y] _ grb0_pl [.arr ((othL F 5).map fun x => .i .i64 x) true] (by rw [plain_arr]; exact fun _ => rfl) 1
    simp (config := {decide := true}) only [K_paddocklaw9_ChooseHears_1, l_paddocklaw9_ChooseHears_1, h3, h9, h10, h11, h14, h15, hall, ite_self, hl, ha, ha0, hs, hs0, ht, ht0, hh_push, eptr_itv, n1, n2, n3, n4, n5, n6, Nat.zero_le, Nat.le_refl, List.take_zero, plain_nil, plain_arr, plain_box, Pk.EVL, keepT, enum, ↓reduceIte, ev, act, appT, appW, callee, toDs, toD, loadA, storeA, subA, subD, updA, Eff.on, resA, resVs, resV, lk, finish, frzR, frzVs, frzV, fznR, fzns, fzn, lts, lt, ltO, List.all, pairsOk, indep, reduceCtorEq, Nat.reduceEqDiff, Nat.reduceAdd, Nat.reduceLeDiff, stb, thaws, List.drop, intOfA, binD, binI, unD, mmL, buildA, mkAgg, allD, bslD, behind, behind0, takeAt, frzAs, frzA, adoptR, adopt, isD, isD0, trim, List.take, binS, sliceA, bnd, zOk, elems, Nat.reduceBNe, inpl, Nat.reduceLT, Nat.reduceBEq, Nat.reduceSub, Nat.reduceMul, Int.reduceLT, Int.reduceLE, Int.reduceEq, Int.reduceToNat, Int.reduceNeg, thaw, nodup, refsV, adopts]
    exact ⟨_, _, _, rfl, by simp, rfl, rfl, rfl, rfl, rfl, rfl⟩
  rintro e T H ⟨rfl, h3, h9, h10, h14, rfl⟩
  have hOlen := othL_len F 5
  have hOm := hOl 5
  generalize othL F 5 = O at *
  have plO : plain [.arr (O.map fun x => .i .i64 x) false] := by rw [plain_arr]; exact fun _ => rfl
  have V1 := lacks_view (p + 2) n O.length O true (hh [] p [wg0 x, wg0 y] grb0 [.arr (O.map fun x => .i .i64 x) true]) g s (by rw [ha0]; rfl) rfl
  rw [hs0] at V1
  obtain ⟨r, hr, Z, fe, hfe, hZ, rfl⟩ := lacks_at hP hn hPp gd2 grb0_pl plO (m := n + 1) rfl g hg4 (hv := .d (.sl (O.map fun x => .i .i64 x))) (A := O) (.inl rfl) (by omega) s
  have V1 := V1.trans hr
  rw [hrh] at V1
  have hq1 := Grb.frz_pl grb0_pl g
  have hmem : ∀ w ∈ lacksL [wg0 x, wg0 y] g O s, 2 ≤ w.acting.length ∧ s ≤ w.since := fun w hw => lacks_two hw
  have hivl := ivL_len gd2 g hg4
  have hlast := lacks_all [wg0 x, wg0 y] g hg4 s
  have hlm : ((ivL [wg0 x, wg0 y] g).length : Nat) ≤ 3 := hivl
  generalize grb0.frz g = q1 at *
  have hXa : plain ([.arr (O.map fun x => .i .i64 x) false] ++ [.arr ((lacksL [wg0 x, wg0 y] g O s ++ Z).map Itv.d) true, .box (fnM fe)]) := by
    rw [plain_app]
    refine ⟨plO, ?_⟩
    rw [plain_arr]
    exact plain_fn hfe [] (fun _ => rfl)
  have hall2 := hh_all hP hn hPp [wg0 x, wg0 y] hq1 hXa
  obtain ⟨K, hK⟩ : ∃ K, lacksL [wg0 x, wg0 y] g O s = K := ⟨_, rfl⟩
  rw [hK] at hmem V1 hXa hall2 hZ
  have hKpos : (decide (((K.length : Nat) : Int) > 0) || decide (s > 1)) = true := by
    by_cases c1 : s > 1
    · rw [decide_eq_true c1, Bool.or_true]
    · have := hfirst s (by omega)
      rw [hK] at this
      rw [decide_eq_true (by omega), Bool.true_or]
  have hEl : ((K ++ Z).map Itv.d).length = (ivL [wg0 x, wg0 y] g).length := by rw [List.length_map, List.length_append]; exact hZ
  have nn1 : (n ≤ n + 3) = True := eq_true (by omega)
  have nn2 : (n + 1 ≤ n + 3) = True := eq_true (by omega)
  simp only [List.cons_append, List.nil_append, List.set_cons_zero] at V1 hXa hall2
  simp (config := {decide := true}) only [V1, h3, h9, h10, h14, hs4, hse, nn1, nn2, hl, ha, ha0, hs, hs0, ht, ht0, hh_push, eptr_itv, n1, n2, n3, n4, n5, n6, Nat.zero_le, Nat.le_refl, List.take_zero, plain_nil, plain_arr, plain_box, Pk.EVL, keepT, enum, ↓reduceIte, ev, act, appT, appW, callee, toDs, toD, loadA, storeA, subA, subD, updA, Eff.on, resA, resVs, resV, lk, finish, frzR, frzVs, frzV, fznR, fzns, fzn, lts, lt, ltO, List.all, pairsOk, indep, reduceCtorEq, Nat.reduceEqDiff, Nat.reduceAdd, Nat.reduceLeDiff, stb, thaws, List.drop, intOfA, binD, binI, unD, mmL, buildA, mkAgg, allD, bslD, behind, behind0, takeAt, frzAs, frzA, adoptR, adopt, isD, isD0, trim, List.take, binS, sliceA, bnd, zOk, elems, Nat.reduceBNe, inpl, Nat.reduceLT, Nat.reduceBEq, Nat.reduceSub, Nat.reduceMul, Int.reduceLT, Int.reduceLE, Int.reduceEq, Int.reduceToNat, Int.reduceNeg, thaw, nodup, refsV, adopts]
  simp only [Option.bind_assoc]
  refine bind_run (loop_run (fun i T H => lk T 9 = .d (.i .u8 g) ∧ lk T 10 = .ptr (p + 2) 0 ∧ lk T 18 = .d (.i .u32 s) ∧ lk T 19 = .view (n + 1) (ivL [wg0 x, wg0 y] g).length 2 0 K.length ∧ lk T 20 = .d (.i .i64 (i : Nat)) ∧ H = hh [] p [wg0 x, wg0 y] q1 [.arr (O.map fun x => .i .i64 x) false, .arr ((K ++ Z).map Itv.d) true, .box (fnM fe)])
    (fun e T H => e = .exit 4 ∧ lk T 9 = .d (.i .u8 g) ∧ lk T 10 = .ptr (p + 2) 0 ∧ lk T 18 = .d (.i .u32 s) ∧ lk T 19 = .view (n + 1) (ivL [wg0 x, wg0 y] g).length 2 0 K.length ∧ H = hh [] p [wg0 x, wg0 y] q1 [.arr (O.map fun x => .i .i64 x) false, .arr ((K ++ Z).map Itv.d) true, .box (fnM fe)]) K.length ?_ ?_ K.length 0 _ _ (by omega) ⟨rfl, rfl, rfl, rfl, rfl, rfl⟩) ?_
  · rintro i T H hi ⟨h9, h10, h18, h19, h20, rfl⟩
    obtain ⟨w, hw⟩ : ∃ w, K[i]? = some w := ⟨K[i]'hi, List.getElem?_eq_getElem _⟩
    have hwd : ((K ++ Z).map Itv.d)[i]? = some (Itv.d w) := list_idx Itv.d (by rw [List.getElem?_append_left hi]; exact hw)
    obtain ⟨hw2, hws⟩ := hmem w (List.mem_of_getElem? hw)
    have hal : (w.acting.map fun x => DV.i .i64 x).length = w.acting.length := List.length_map _
    have hlt2 : decide (((w.acting.length : Nat) : Int) < 2) = false := decide_eq_false (by omega)
    have hlts : decide (w.since < s) = false := decide_eq_false (by omega)
    have hd : decide ((i : Int) < ((K.length : Nat) : Int)) = true := by simp; omega
    have hw' : IntKind.i64.wrap ((i : Int) + 1) = ((i + 1 : Nat) : Int) := wi64 (by omega)
    have b0 : (0 ≤ (i : Int)) = True := eq_true (Int.natCast_nonneg _)
    have b1 : ((i : Int) < ((K.length : Nat) : Int)) = True := eq_true (by omega)
    simp (config := {decide := true}) only [K_paddocklaw9_ChooseHears_2, l_paddocklaw9_ChooseHears_2, h9, h10, h18, h19, h20, hwd, hEl, hal, hlt2, hlts, hd, hw', b0, b1, hall2, nn1, nn2, guardR_und, Nat.zero_add, Int.toNat_natCast, ite_self, hl, ha, ha0, hs, hs0, ht, ht0, hh_push, eptr_itv, n1, n2, n3, n4, n5, n6, Nat.zero_le, Nat.le_refl, List.take_zero, plain_nil, plain_arr, plain_box, Pk.EVL, keepT, enum, ↓reduceIte, ev, act, appT, appW, callee, toDs, toD, loadA, storeA, subA, subD, updA, Eff.on, resA, resVs, resV, lk, finish, frzR, frzVs, frzV, fznR, fzns, fzn, lts, lt, ltO, List.all, pairsOk, indep, reduceCtorEq, Nat.reduceEqDiff, Nat.reduceAdd, Nat.reduceLeDiff, stb, thaws, List.drop, intOfA, binD, binI, unD, mmL, buildA, mkAgg, allD, bslD, behind, behind0, takeAt, frzAs, frzA, adoptR, adopt, isD, isD0, trim, List.take, binS, sliceA, bnd, zOk, elems, Nat.reduceBNe, inpl, Nat.reduceLT, Nat.reduceBEq, Nat.reduceSub, Nat.reduceMul, Int.reduceLT, Int.reduceLE, Int.reduceEq, Int.reduceToNat, Int.reduceNeg, thaw, nodup, refsV, adopts, Pk.TY_Itv]
    exact ⟨_, _, _, rfl, .inl ⟨rfl, rfl, rfl, rfl, rfl, rfl, rfl⟩⟩
  · rintro T H ⟨h9, h10, h18, h19, h20, rfl⟩
    have hd : decide (((K.length : Nat) : Int) < ((K.length : Nat) : Int)) = false := by simp
    simp (config := {decide := true}) only [K_paddocklaw9_ChooseHears_2, l_paddocklaw9_ChooseHears_2, h9, h10, h18, h19, h20, hd, hall2, nn1, nn2, ite_self, hl, ha, ha0, hs, hs0, ht, ht0, hh_push, eptr_itv, n1, n2, n3, n4, n5, n6, Nat.zero_le, Nat.le_refl, List.take_zero, plain_nil, plain_arr, plain_box, Pk.EVL, keepT, enum, ↓reduceIte, ev, act, appT, appW, callee, toDs, toD, loadA, storeA, subA, subD, updA, Eff.on, resA, resVs, resV, lk, finish, frzR, frzVs, frzV, fznR, fzns, fzn, lts, lt, ltO, List.all, pairsOk, indep, reduceCtorEq, Nat.reduceEqDiff, Nat.reduceAdd, Nat.reduceLeDiff, stb, thaws, List.drop, intOfA, binD, binI, unD, mmL, buildA, mkAgg, allD, bslD, behind, behind0, takeAt, frzAs, frzA, adoptR, adopt, isD, isD0, trim, List.take, binS, sliceA, bnd, zOk, elems, Nat.reduceBNe, inpl, Nat.reduceLT, Nat.reduceBEq, Nat.reduceSub, Nat.reduceMul, Int.reduceLT, Int.reduceLE, Int.reduceEq, Int.reduceToNat, Int.reduceNeg, thaw, nodup, refsV, adopts, Pk.TY_Itv]
    exact ⟨_, _, _, rfl, by simp, rfl, rfl, rfl, rfl, rfl, rfl⟩
  rintro e T H ⟨rfl, h9, h10, h18, h19, rfl⟩
  have V2 := lacks_view (p + 2) (n + 3) 5 [0, 1, 2, 3, 4] true (hh [] p [wg0 x, wg0 y] q1 [.arr (O.map fun x => .i .i64 x) false, .arr ((K ++ Z).map Itv.d) true, .box (fnM fe), .arr ([0, 1, 2, 3, 4].map fun x => .i .i64 x) true]) g s (by rw [ha]; rfl) rfl
  rw [hs] at V2
  have hXb : plain [.arr (O.map fun x => .i .i64 x) false, .arr ((K ++ Z).map Itv.d) true, .box (fnM fe), .arr ([(0 : Int), 1, 2, 3, 4].map fun x => .i .i64 x) false] := by
    have := (plain_app _ [.arr ([(0 : Int), 1, 2, 3, 4].map fun x => .i .i64 x) false]).mpr ⟨hXa, by rw [plain_arr]; exact fun _ => rfl⟩
    exact this
  obtain ⟨r, hr2, Z2, fe2, hfe2, hZ2, rfl⟩ := lacks_at hP hn hPp gd2 hq1 hXb (m := n + 4) rfl g hg4 (hv := .d (.sl ([(0 : Int), 1, 2, 3, 4].map fun x => .i .i64 x))) (A := [0, 1, 2, 3, 4]) (.inl rfl) (by decide) s
  have V2 := V2.trans hr2
  rw [hrh, hlast] at V2
  simp only [List.cons_append, List.nil_append, List.map_cons, List.map_nil, List.length_nil] at V2
  have hsub5 : ∀ a b c d e : DV, subL [a, b, c, d, e] 0 5 = [a, b, c, d, e] := fun _ _ _ _ _ => rfl
  have nn3 : (n ≤ n + 4) = True := eq_true (by omega)
  have nn4 : (n + 3 ≤ n + 6) = True := eq_true (by omega)
  have z0 : ((((0 : Nat) : Int)) == 0) = true := rfl
  rcases Bool.eq_false_or_eq_true (decide (((K.length : Nat) : Int) > 0)) with d1 | d1
  · simp (config := {decide := true}) only [V2, h9, h10, h18, h19, d1, hsub5, nn1, nn2, nn3, nn4, z0, guardR_und, hl, ha, ha0, hs, hs0, ht, ht0, hh_push, eptr_itv, n1, n2, n3, n4, n5, n6, Nat.zero_le, Nat.le_refl, List.take_zero, plain_nil, plain_arr, plain_box, Pk.EVL, keepT, enum, ↓reduceIte, ev, act, appT, appW, callee, toDs, toD, loadA, storeA, subA, subD, updA, Eff.on, resA, resVs, resV, lk, finish, frzR, frzVs, frzV, fznR, fzns, fzn, lts, lt, ltO, List.all, pairsOk, indep, reduceCtorEq, Nat.reduceEqDiff, Nat.reduceAdd, Nat.reduceLeDiff, stb, thaws, List.drop, intOfA, binD, binI, unD, mmL, buildA, mkAgg, allD, bslD, behind, behind0, takeAt, frzAs, frzA, adoptR, adopt, isD, isD0, trim, List.take, binS, sliceA, bnd, zOk, elems, Nat.reduceBNe, inpl, Nat.reduceLT, Nat.reduceBEq, Nat.reduceSub, Nat.reduceMul, Int.reduceLT, Int.reduceLE, Int.reduceEq, Int.reduceToNat, Int.reduceNeg, thaw, nodup, refsV, adopts]
  · have d2 : decide (s > 1) = true := by rw [d1, Bool.false_or] at hKpos; exact hKpos
    simp (config := {decide := true}) only [V2, h9, h10, h18, h19, d1, d2, hsub5, nn1, nn2, nn3, nn4, z0, guardR_und, hl, ha, ha0, hs, hs0, ht, ht0, hh_push, eptr_itv, n1, n2, n3, n4, n5, n6, Nat.zero_le, Nat.le_refl, List.take_zero, plain_nil, plain_arr, plain_box, Pk.EVL, keepT, enum, ↓reduceIte, ev, act, appT, appW, callee, toDs, toD, loadA, storeA, subA, subD, updA, Eff.on, resA, resVs, resV, lk, finish, frzR, frzVs, frzV, fznR, fzns, fzn, lts, lt, ltO, List.all, pairsOk, indep, reduceCtorEq, Nat.reduceEqDiff, Nat.reduceAdd, Nat.reduceLeDiff, stb, thaws, List.drop, intOfA, binD, binI, unD, mmL, buildA, mkAgg, allD, bslD, behind, behind0, takeAt, frzAs, frzA, adoptR, adopt, isD, isD0, trim, List.take, binS, sliceA, bnd, zOk, elems, Nat.reduceBNe, inpl, Nat.reduceLT, Nat.reduceBEq, Nat.reduceSub, Nat.reduceMul, Int.reduceLT, Int.reduceLE, Int.reduceEq, Int.reduceToNat, Int.reduceNeg, thaw, nodup, refsV, adopts]
end Go.Proofs.Ytmiionadkdfbdaa
