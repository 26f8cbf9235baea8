/- The law HistoryFull. -/
import Derived.Test.YtckaebcljcpobaaHsK
set_option linter.all false
namespace Go.Proofs.Ytckaebcljcpobaa
open Pv Go Pk
set_option maxRecDepth 10000
set_option maxHeartbeats 4000000
theorem good_rep {x : Inc} (hx : isInc x = true) (h0 : 0 ≤ x.osd) (i : Nat) (hi : i ≤ 59) : goodI (List.replicate i x) :=
  ⟨by simp; omega, fun y hy => by rw [(List.mem_replicate.1 hy).2]; exact ⟨hx, h0⟩⟩
theorem full_law (x : Inc) (hx : x.ok) : evF C F_paddocklaw5_HistoryFull [.d (.agg x.cs)] [] = some (.d (.b true), []) := by
  obtain ⟨p, hP⟩ : ∃ p, ([.box (.d (.agg x.cs))] : Heap).length = p := ⟨_, rfl⟩
  obtain ⟨n, hn⟩ : ∃ n, p + 12 = n := ⟨_, rfl⟩
  have hp1 : p = 1 := hP.symm
  have hPp : plain [.box (.d (.agg x.cs))] := fun _ => rfl
  have hnew0 := h_new (P := []) rfl
  have hnew := h_new hP
  have hinc := isInc_at x
  have hl := hh_len hP hn
  have ha := hh_at hP hn
  have ha0 := hh_at0 hP hn
  have hs := hh_set hP hn
  have hs0 := hh_set0 hP hn
  have ht := hh_take hP hn
  have ht0 := hh_take0 hP hn
  have hr : ∀ l q Y, (hh [.box (.d (.agg x.cs))] p l q Y)[0]? = some (.box (.d (.agg x.cs))) := fun _ _ _ => rfl
  have l1 : (1 ≤ n) = True := eq_true (by omega)
  have l1' : (0 < n) = True := eq_true (by omega)
  have l2 : (p + 2 < n) = True := eq_true (by omega)
  rw [evF_code (rfl : C F_paddocklaw5_HistoryFull = some a_paddocklaw5_HistoryFull) _ _ rfl]
  cases c : isInc x with
  | false =>
    rw [c] at hinc
    have A : ∀ X, plain X → evF C F_history_History_Add [.ptr (p + 2) 0, .d (.i .u32 2), .d (.agg x.cs)] (hh [.box (.d (.agg x.cs))] p [] grb0 X) = some (.d (.i .i64 40), hh [.box (.d (.agg x.cs))] p [] grb0 X) := by
      intro X hX
      have := h_add hP hPp good_nil grb0_pl hX 2 (by decide) x hx
      rwa [show addL [] 2 x = ([], 40) by unfold addL; rw [if_neg (by simp), if_neg (by simp), if_neg (by rw [c]; simp)]] at this
    have tk1 : List.take 1 (hh [.box (.d (.agg x.cs))] p [] grb0 []) = [.box (.d (.agg x.cs))] := rfl
    have nn : (n == 1) = false := by rw [beq_eq_false_iff_ne]; omega
    simp (config := {decide := true}) only [c_paddocklaw5_HistoryFull, known5_at, hinc, hnew0, hnew, A, hl, ha, ha0, hs, hs0, ht, ht0, hh_push, hr, l1, tk1, nn, sameH_self, Nat.zero_le, Nat.le_refl, List.take_zero, plain_nil, plain_arr, plain_box, Pk.EVL, keepT, enum, ↓reduceIte, ev, act, appT, callee, toDs, toD, loadA, storeA, subA, subD, updA, Eff.on, resA, resVs, resV, lk, finish, frzR, frzVs, frzV, fznR, fzns, fzn, lts, lt, ltO, List.all, pairsOk, indep, reduceCtorEq, Nat.reduceEqDiff, Nat.reduceAdd, Nat.reduceLeDiff, stb, thaws, List.drop, intOfA, binD, binI, unD, mmL, buildA, mkAgg, allD, bslD, behind, behind0, takeAt, frzAs, frzA, adoptR, adopt, isD, isD0, trim, List.take, binS, sliceA, bnd, zOk, elems, Nat.reduceBNe, inpl, Nat.reduceLT, Nat.reduceBEq, Nat.reduceSub, Nat.reduceMul, Int.reduceLT, Int.reduceLE, Int.reduceEq, Int.reduceToNat, Int.reduceNeg, thaw, nodup, refsV, adopts, Pk.TY_Mp, Pk.TY_Inc, Pk.TY_Itv]
  | true =>
    rw [c] at hinc
    have h0 : 0 ≤ x.osd := by simp only [Inc.ok] at hx; omega
    have A : ∀ i, i < 59 → ∀ X, plain X → evF C F_history_History_Add [.ptr (p + 2) 0, .d (.i .u32 ((i + 2 : Nat) : Int)), .d (.agg x.cs)] (hh [.box (.d (.agg x.cs))] p (List.replicate i x) grb0 X) = some (.d (.i .i64 0), hh [.box (.d (.agg x.cs))] p (List.replicate (i + 1) x) grb0 X) := by
      intro i hi X hX
      have := h_add hP hPp (good_rep c h0 i (by omega)) grb0_pl hX ((i + 2 : Nat) : Int) (by omega) x hx
      rwa [show addL (List.replicate i x) ((i + 2 : Nat) : Int) x = (List.replicate (i + 1) x, 0) by
        unfold addL; rw [if_neg (by simp <;> omega), if_neg (by simp <;> omega), if_pos ⟨c, by simp; omega⟩, ← List.replicate_succ']] at this
    have hg := good_rep c h0 59 (by omega)
    have L : ∀ X, plain X → evF C F_history_History_Last [.ptr (p + 2) 0] (hh [.box (.d (.agg x.cs))] p (List.replicate 59 x) grb0 X) = some (.d (.i .u32 60), hh [.box (.d (.agg x.cs))] p (List.replicate 59 x) grb0 X) := fun X hX => by
      have := h_last hP hPp grb0_pl hX (l := List.replicate 59 x)
      rwa [show (((List.replicate 59 x).length : Nat) : Int) + 1 = 60 by simp] at this
    have A61 : ∀ X, plain X → evF C F_history_History_Add [.ptr (p + 2) 0, .d (.i .u32 61), .d (.agg x.cs)] (hh [.box (.d (.agg x.cs))] p (List.replicate 59 x) grb0 X) = some (.d (.i .i64 40), hh [.box (.d (.agg x.cs))] p (List.replicate 59 x) grb0 X) := by
      intro X hX
      have := h_add hP hPp hg grb0_pl hX 61 (by decide) x hx
      rwa [show addL (List.replicate 59 x) 61 x = (List.replicate 59 x, 40) by unfold addL; rw [if_neg (by simp), if_neg (by simp), if_neg (by simp)]] at this
    have A60 : ∀ X, plain X → evF C F_history_History_Add [.ptr (p + 2) 0, .d (.i .u32 60), .d (.agg x.cs)] (hh [.box (.d (.agg x.cs))] p (List.replicate 59 x) grb0 X) = some (.d (.i .i64 51), hh [.box (.d (.agg x.cs))] p (List.replicate 59 x) grb0 X) := by
      intro X hX
      have := h_add hP hPp hg grb0_pl hX 60 (by decide) x hx
      rwa [show addL (List.replicate 59 x) 60 x = (List.replicate 59 x, 51) by unfold addL; rw [if_pos (by simp)]] at this
    simp (config := {decide := true}) only [c_paddocklaw5_HistoryFull, known5_at, hinc, hnew0, hnew, hl, ha, ha0, hs, hs0, ht, ht0, hh_push, hr, l1, thaws, Nat.zero_le, Nat.le_refl, List.take_zero, plain_nil, plain_arr, plain_box, Pk.EVL, keepT, enum, ↓reduceIte, ev, act, appT, callee, toDs, toD, loadA, storeA, subA, subD, updA, Eff.on, resA, resVs, resV, lk, finish, frzR, frzVs, frzV, fznR, fzns, fzn, lts, lt, ltO, List.all, pairsOk, indep, reduceCtorEq, Nat.reduceEqDiff, Nat.reduceAdd, Nat.reduceLeDiff, stb, thaws, List.drop, intOfA, binD, binI, unD, mmL, buildA, mkAgg, allD, bslD, behind, behind0, takeAt, frzAs, frzA, adoptR, adopt, isD, isD0, trim, List.take, binS, sliceA, bnd, zOk, elems, Nat.reduceBNe, inpl, Nat.reduceLT, Nat.reduceBEq, Nat.reduceSub, Nat.reduceMul, Int.reduceLT, Int.reduceLE, Int.reduceEq, Int.reduceToNat, Int.reduceNeg, thaw, nodup, refsV, adopts, Pk.TY_Mp, Pk.TY_Inc, Pk.TY_Itv]
    simp only [Option.bind_assoc]
    refine bind_run (loop_run (fun i T H => lk T 1 = .ptr 0 0 ∧ lk T 3 = .ptr (p + 2) 0 ∧ lk T 4 = .d (.i .u32 ((i + 2 : Nat) : Int)) ∧ H = hh [.box (.d (.agg x.cs))] p (List.replicate i x) grb0 [])
      (fun e T H => e = .exit 0 ∧ lk T 1 = .ptr 0 0 ∧ lk T 3 = .ptr (p + 2) 0 ∧ H = hh [.box (.d (.agg x.cs))] p (List.replicate 59 x) grb0 []) 59 ?_ ?_ 59 0 _ _ (by omega) ⟨rfl, rfl, rfl, rfl⟩) ?_
    · rintro i T H hi ⟨h1, h3, h4, rfl⟩
      have A := A i hi
      have hd : decide (((i + 2 : Nat) : Int) ≤ 60) = true := decide_eq_true (by omega)
      have hw : IntKind.u32.wrap (((i + 2 : Nat) : Int) + 1) = ((i + 1 + 2 : Nat) : Int) := by rw [wu32 (by omega)]; omega
      have hall := @hh_all0 _ _ _ hP hn hPp (List.replicate i x) _ grb0_pl [] (fun _ => rfl)
      simp (config := {decide := true}) only [K_paddocklaw5_HistoryFull_0, l_paddocklaw5_HistoryFull_0, h1, h3, h4, hd, hw, hall, A, hl, ha, ha0, hs, hs0, ht, ht0, hh_push, hr, l1, l1', l2, ite_self, Nat.zero_le, Nat.le_refl, List.take_zero, plain_nil, plain_arr, plain_box, Pk.EVL, keepT, enum, ↓reduceIte, ev, act, appT, callee, toDs, toD, loadA, storeA, subA, subD, updA, Eff.on, resA, resVs, resV, lk, finish, frzR, frzVs, frzV, fznR, fzns, fzn, lts, lt, ltO, List.all, pairsOk, indep, reduceCtorEq, Nat.reduceEqDiff, Nat.reduceAdd, Nat.reduceLeDiff, stb, thaws, List.drop, intOfA, binD, binI, unD, mmL, buildA, mkAgg, allD, bslD, behind, behind0, takeAt, frzAs, frzA, adoptR, adopt, isD, isD0, trim, List.take, binS, sliceA, bnd, zOk, elems, Nat.reduceBNe, inpl, Nat.reduceLT, Nat.reduceBEq, Nat.reduceSub, Nat.reduceMul, Int.reduceLT, Int.reduceLE, Int.reduceEq, Int.reduceToNat, Int.reduceNeg, thaw, nodup, refsV, adopts, Pk.TY_Mp, Pk.TY_Inc, Pk.TY_Itv]
      exact ⟨_, _, _, rfl, .inl ⟨rfl, rfl, rfl, rfl, rfl⟩⟩
    · rintro T H ⟨h1, h3, h4, rfl⟩
      have hall := @hh_all0 _ _ _ hP hn hPp (List.replicate 59 x) _ grb0_pl [] (fun _ => rfl)
      have h4 : lk T 4 = .d (.i .u32 61) := h4
      simp (config := {decide := true}) only [K_paddocklaw5_HistoryFull_0, l_paddocklaw5_HistoryFull_0, h1, h3, h4, hall, hl, ha, ha0, hs, hs0, ht, ht0, hh_push, hr, l1, l1', l2, ite_self, Nat.zero_le, Nat.le_refl, List.take_zero, plain_nil, plain_arr, plain_box, Pk.EVL, keepT, enum, ↓reduceIte, ev, act, appT, callee, toDs, toD, loadA, storeA, subA, subD, updA, Eff.on, resA, resVs, resV, lk, finish, frzR, frzVs, frzV, fznR, fzns, fzn, lts, lt, ltO, List.all, pairsOk, indep, reduceCtorEq, Nat.reduceEqDiff, Nat.reduceAdd, Nat.reduceLeDiff, stb, thaws, List.drop, intOfA, binD, binI, unD, mmL, buildA, mkAgg, allD, bslD, behind, behind0, takeAt, frzAs, frzA, adoptR, adopt, isD, isD0, trim, List.take, binS, sliceA, bnd, zOk, elems, Nat.reduceBNe, inpl, Nat.reduceLT, Nat.reduceBEq, Nat.reduceSub, Nat.reduceMul, Int.reduceLT, Int.reduceLE, Int.reduceEq, Int.reduceToNat, Int.reduceNeg, thaw, nodup, refsV, adopts, Pk.TY_Mp, Pk.TY_Inc, Pk.TY_Itv]
      exact ⟨_, _, _, rfl, by simp, rfl, rfl, rfl, rfl⟩
    rintro e T H ⟨rfl, h1, h3, rfl⟩
    simp (config := {decide := true}) only [h1, h3, L, A61, A60, hl, ha, ha0, hs, hs0, ht, ht0, hh_push, hr, l1, l1', l2, Nat.zero_le, Nat.le_refl, List.take_zero, plain_nil, plain_arr, plain_box, Pk.EVL, keepT, enum, ↓reduceIte, ev, act, appT, callee, toDs, toD, loadA, storeA, subA, subD, updA, Eff.on, resA, resVs, resV, lk, finish, frzR, frzVs, frzV, fznR, fzns, fzn, lts, lt, ltO, List.all, pairsOk, indep, reduceCtorEq, Nat.reduceEqDiff, Nat.reduceAdd, Nat.reduceLeDiff, stb, thaws, List.drop, intOfA, binD, binI, unD, mmL, buildA, mkAgg, allD, bslD, behind, behind0, takeAt, frzAs, frzA, adoptR, adopt, isD, isD0, trim, List.take, binS, sliceA, bnd, zOk, elems, Nat.reduceBNe, inpl, Nat.reduceLT, Nat.reduceBEq, Nat.reduceSub, Nat.reduceMul, Int.reduceLT, Int.reduceLE, Int.reduceEq, Int.reduceToNat, Int.reduceNeg, thaw, nodup, refsV, adopts, Pk.TY_Mp, Pk.TY_Inc, Pk.TY_Itv]
end Go.Proofs.Ytckaebcljcpobaa
