/- One order: entries that weren't acknowledged may be replaced by a later start; those that were may not: the law OrderForks. -/
import Derived.Test.YtlihpaegaikoeaaDoorWtM
set_option linter.all false
namespace Go.Proofs.YtlihpaegaikoeaaDoor
open Pv Go Pk
set_option maxRecDepth 10000
set_option maxHeartbeats 4000000

theorem fit_sz {a : ByteArray} {n : Nat} (h : decide ((a.size : Int) > (n : Int)) = false) : a.size ≤ n := by simp at h; omega

theorem forks_law (g : Int) (a b : ByteArray) (acked : Bool) (hg : 0 ≤ g ∧ g < 256) : ∃ H, evF C F_paddocklaw23_OrderForks [.d (.i .u8 g), .d (.s a), .d (.s b), .d (.b acked)] [] = some (.d (.b true), H) := by
  obtain ⟨Hk, hkn⟩ := known_at
  rw [evF_code (rfl : C F_paddocklaw23_OrderForks = some a_paddocklaw23_OrderForks) _ _ rfl]
  rcases Bool.eq_false_or_eq_true (decide ((a.size : Int) > 16)) with c1 | c1
  · exact ⟨_, by simp (config := {decide := true}) only [c_paddocklaw23_OrderForks, hkn, c1, Pk.EVL, keepT, enum, ↓reduceIte, ev, act, appT, callee, toDs, toD, loadA, storeA, subA, subD, updA, Eff.on, resA, resVs, resV, lk, finish, frzR, frzVs, frzV, fznR, fzns, fzn, lts, lt, ltO, List.all, pairsOk, indep, reduceCtorEq, Nat.reduceEqDiff, Nat.reduceAdd, Nat.reduceLeDiff, stb, thaws, List.drop, intOfA, binD, binI, unD, mmL, buildA, mkAgg, allD, bslD, behind, behind0, takeAt, frzAs, frzA, adoptR, adopt, isD, isD0, trim, List.take, binS, sliceA, bnd, zOk, elems, Nat.reduceBNe, inpl, Nat.reduceLT, Nat.reduceBEq, Nat.reduceSub, Nat.reduceMul, Int.reduceLT, Int.reduceLE, Int.reduceEq, Int.reduceToNat, Int.reduceNeg, thaw, nodup, refsV, adopts]; rfl⟩
  rcases Bool.eq_false_or_eq_true (decide ((b.size : Int) > 16)) with c2 | c2
  · exact ⟨_, by simp (config := {decide := true}) only [c_paddocklaw23_OrderForks, hkn, c1, c2, Pk.EVL, keepT, enum, ↓reduceIte, ev, act, appT, callee, toDs, toD, loadA, storeA, subA, subD, updA, Eff.on, resA, resVs, resV, lk, finish, frzR, frzVs, frzV, fznR, fzns, fzn, lts, lt, ltO, List.all, pairsOk, indep, reduceCtorEq, Nat.reduceEqDiff, Nat.reduceAdd, Nat.reduceLeDiff, stb, thaws, List.drop, intOfA, binD, binI, unD, mmL, buildA, mkAgg, allD, bslD, behind, behind0, takeAt, frzAs, frzA, adoptR, adopt, isD, isD0, trim, List.take, binS, sliceA, bnd, zOk, elems, Nat.reduceBNe, inpl, Nat.reduceLT, Nat.reduceBEq, Nat.reduceSub, Nat.reduceMul, Int.reduceLT, Int.reduceLE, Int.reduceEq, Int.reduceToNat, Int.reduceNeg, thaw, nodup, refsV, adopts]; rfl⟩
  rcases Bool.eq_false_or_eq_true (decide (a = b)) with c3 | c3
  · exact ⟨_, by simp (config := {decide := true}) only [c_paddocklaw23_OrderForks, hkn, c1, c2, c3, Pk.EVL, keepT, enum, ↓reduceIte, ev, act, appT, callee, toDs, toD, loadA, storeA, subA, subD, updA, Eff.on, resA, resVs, resV, lk, finish, frzR, frzVs, frzV, fznR, fzns, fzn, lts, lt, ltO, List.all, pairsOk, indep, reduceCtorEq, Nat.reduceEqDiff, Nat.reduceAdd, Nat.reduceLeDiff, stb, thaws, List.drop, intOfA, binD, binI, unD, mmL, buildA, mkAgg, allD, bslD, behind, behind0, takeAt, frzAs, frzA, adoptR, adopt, isD, isD0, trim, List.take, binS, sliceA, bnd, zOk, elems, Nat.reduceBNe, inpl, Nat.reduceLT, Nat.reduceBEq, Nat.reduceSub, Nat.reduceMul, Int.reduceLT, Int.reduceLE, Int.reduceEq, Int.reduceToNat, Int.reduceNeg, thaw, nodup, refsV, adopts]; rfl⟩
  have ha := fit_sz (n := 16) c1
  have hb := fit_sz (n := 16) c2
  obtain ⟨k, hj, hk⟩ : ∃ k : Nat, g.tmod 4 = (k : Int) ∧ k < 4 := by
    have h1 := Int.tmod_nonneg 4 hg.1
    have h2 := Int.tmod_lt_of_pos g (show (0 : Int) < 4 by omega)
    exact ⟨(g.tmod 4).toNat, by omega, by omega⟩
  simp (config := {decide := true}) only [c_paddocklaw23_OrderForks, hkn, c1, c2, c3, hj, Pk.EVL, keepT, enum, ↓reduceIte, ev, act, appT, callee, toDs, toD, loadA, storeA, subA, subD, updA, Eff.on, resA, resVs, resV, lk, finish, frzR, frzVs, frzV, fznR, fzns, fzn, lts, lt, ltO, List.all, pairsOk, indep, reduceCtorEq, Nat.reduceEqDiff, Nat.reduceAdd, Nat.reduceLeDiff, stb, thaws, List.drop, intOfA, binD, binI, unD, mmL, buildA, mkAgg, allD, bslD, behind, behind0, takeAt, frzAs, frzA, adoptR, adopt, isD, isD0, trim, List.take, binS, sliceA, bnd, zOk, elems, Nat.reduceBNe, inpl, Nat.reduceLT, Nat.reduceBEq, Nat.reduceSub, Nat.reduceMul, Int.reduceLT, Int.reduceLE, Int.reduceEq, Int.reduceToNat, Int.reduceNeg, thaw, nodup, refsV, adopts]
  simp only [Option.bind_assoc]
  refine run_ex' (loop_run (fun i T H => lk T 1 = .d (.s a) ∧ lk T 2 = .d (.s b) ∧ lk T 3 = .d (.b acked) ∧ lk T 9 = .d (.i .u8 (k : Int)) ∧ lk T 10 = .d (.i .u8 (i : Nat)) ∧ H = [])
    (fun e T H => e = .exit 0 ∧ lk T 1 = .d (.s a) ∧ lk T 2 = .d (.s b) ∧ lk T 3 = .d (.b acked) ∧ lk T 9 = .d (.i .u8 (k : Int)) ∧ H = [] ∧ ∃ j : Nat, lk T 10 = .d (.i .u8 (j : Nat)) ∧ (j = 6 ∨ (j < 6 ∧ grpI j = (k : Int)))) 6 ?_ ?_ 6 0 _ _ (by omega) ⟨rfl, rfl, rfl, rfl, rfl, rfl⟩) ?_
  · rintro i T H hi ⟨h1, h2, h3, h9, h10, rfl⟩
    have hd : decide ((i : Int) < 6) = true := by simp; omega
    have hw : IntKind.u8.wrap ((i : Int) + 1) = ((i + 1 : Nat) : Int) := by rw [show (i : Int) + 1 = ((i + 1 : Nat) : Int) by omega]; exact wu8 (by omega)
    have hgr := group_at ((i : Nat) : Int)
    obtain ⟨hg1, hg2⟩ := grpN_eq ((i : Nat) : Int)
    rw [hg1] at hgr
    rcases Bool.eq_false_or_eq_true (((grpN ((i : Nat) : Int) : Nat) : Int) == (k : Int)) with c4 | c4
    · simp (config := {decide := true}) only [K_paddocklaw23_OrderForks_0, l_paddocklaw23_OrderForks_0, h1, h2, h3, h9, h10, hd, hgr, c4, Pk.EVL, keepT, enum, ↓reduceIte, ev, act, appT, callee, toDs, toD, loadA, storeA, subA, subD, updA, Eff.on, resA, resVs, resV, lk, finish, frzR, frzVs, frzV, fznR, fzns, fzn, lts, lt, ltO, List.all, pairsOk, indep, reduceCtorEq, Nat.reduceEqDiff, Nat.reduceAdd, Nat.reduceLeDiff, stb, thaws, List.drop, intOfA, binD, binI, unD, mmL, buildA, mkAgg, allD, bslD, behind, behind0, takeAt, frzAs, frzA, adoptR, adopt, isD, isD0, trim, List.take, binS, sliceA, bnd, zOk, elems, Nat.reduceBNe, inpl, Nat.reduceLT, Nat.reduceBEq, Nat.reduceSub, Nat.reduceMul, Int.reduceLT, Int.reduceLE, Int.reduceEq, Int.reduceToNat, Int.reduceNeg, thaw, nodup, refsV, adopts]
      refine ⟨_, _, _, rfl, .inr ⟨by simp, rfl, rfl, rfl, rfl, rfl, rfl, i, rfl, .inr ⟨hi, ?_⟩⟩⟩
      rw [hg1]
      simpa using c4
    · simp (config := {decide := true}) only [K_paddocklaw23_OrderForks_0, l_paddocklaw23_OrderForks_0, h1, h2, h3, h9, h10, hd, hw, hgr, c4, Pk.EVL, keepT, enum, ↓reduceIte, ev, act, appT, callee, toDs, toD, loadA, storeA, subA, subD, updA, Eff.on, resA, resVs, resV, lk, finish, frzR, frzVs, frzV, fznR, fzns, fzn, lts, lt, ltO, List.all, pairsOk, indep, reduceCtorEq, Nat.reduceEqDiff, Nat.reduceAdd, Nat.reduceLeDiff, stb, thaws, List.drop, intOfA, binD, binI, unD, mmL, buildA, mkAgg, allD, bslD, behind, behind0, takeAt, frzAs, frzA, adoptR, adopt, isD, isD0, trim, List.take, binS, sliceA, bnd, zOk, elems, Nat.reduceBNe, inpl, Nat.reduceLT, Nat.reduceBEq, Nat.reduceSub, Nat.reduceMul, Int.reduceLT, Int.reduceLE, Int.reduceEq, Int.reduceToNat, Int.reduceNeg, thaw, nodup, refsV, adopts]
      exact ⟨_, _, _, rfl, .inl ⟨rfl, rfl, rfl, rfl, rfl, rfl, rfl⟩⟩
  · rintro T H ⟨h1, h2, h3, h9, h10, rfl⟩
    have hd : decide (((6 : Nat) : Int) < 6) = false := by decide
    simp (config := {decide := true}) only [K_paddocklaw23_OrderForks_0, l_paddocklaw23_OrderForks_0, h1, h2, h3, h9, h10, hd, Pk.EVL, keepT, enum, ↓reduceIte, ev, act, appT, callee, toDs, toD, loadA, storeA, subA, subD, updA, Eff.on, resA, resVs, resV, lk, finish, frzR, frzVs, frzV, fznR, fzns, fzn, lts, lt, ltO, List.all, pairsOk, indep, reduceCtorEq, Nat.reduceEqDiff, Nat.reduceAdd, Nat.reduceLeDiff, stb, thaws, List.drop, intOfA, binD, binI, unD, mmL, buildA, mkAgg, allD, bslD, behind, behind0, takeAt, frzAs, frzA, adoptR, adopt, isD, isD0, trim, List.take, binS, sliceA, bnd, zOk, elems, Nat.reduceBNe, inpl, Nat.reduceLT, Nat.reduceBEq, Nat.reduceSub, Nat.reduceMul, Int.reduceLT, Int.reduceLE, Int.reduceEq, Int.reduceToNat, Int.reduceNeg, thaw, nodup, refsV, adopts]
    exact ⟨_, _, _, rfl, by simp, rfl, rfl, rfl, rfl, rfl, rfl, 6, rfl, .inl rfl⟩
  · rintro e T H ⟨rfl, h1, h2, h3, h9, rfl, j, h10, hjj⟩
    rcases hjj with rfl | ⟨hj6, hgj⟩
    · have c4 : (((6 : Nat) : Int) == 6) = true := by decide
      simp (config := {decide := true}) only [h1, h2, h3, h9, h10, c4, Pk.EVL, keepT, enum, ↓reduceIte, ev, act, appT, callee, toDs, toD, loadA, storeA, subA, subD, updA, Eff.on, resA, resVs, resV, lk, finish, frzR, frzVs, frzV, fznR, fzns, fzn, lts, lt, ltO, List.all, pairsOk, indep, reduceCtorEq, Nat.reduceEqDiff, Nat.reduceAdd, Nat.reduceLeDiff, stb, thaws, List.drop, intOfA, binD, binI, unD, mmL, buildA, mkAgg, allD, bslD, behind, behind0, takeAt, frzAs, frzA, adoptR, adopt, isD, isD0, trim, List.take, binS, sliceA, bnd, zOk, elems, Nat.reduceBNe, inpl, Nat.reduceLT, Nat.reduceBEq, Nat.reduceSub, Nat.reduceMul, Int.reduceLT, Int.reduceLE, Int.reduceEq, Int.reduceToNat, Int.reduceNeg, thaw, nodup, refsV, adopts]
      exact ⟨_, rfl⟩
    have c4 : (((j : Nat) : Int) == 6) = false := by simp; omega
    have ho : 0 ≤ ((j : Nat) : Int) ∧ ((j : Nat) : Int) < 6 := by omega
    have hgn : grpN ((j : Nat) : Int) = k := by have := (grpN_eq ((j : Nat) : Int)).1; rw [hgj] at this; omega
    have xok : Opr.ok (xO j a) := by have hml : (16 : Nat) ≤ maxLen := by decide
                                     simp [Opr.ok, xO]; omega
    have yok : Opr.ok (yO j b) := by have hml : (16 : Nat) ≤ maxLen := by decide
                                     simp [Opr.ok, yO]; omega
    generalize hob : ((j : Nat) : Int) = obj at *
    have s1ok : stOk (stN 1 [⟨1, 1, xO obj a⟩]) := stN_ok 1 (by intro e he; simp at he; rw [he]; exact xok)
    have s5ok : stOk (stN 5 [⟨5, 1, yO obj b⟩]) := stN_ok 5 (by intro e he; simp at he; rw [he]; exact yok)
    -- the first state is seen
    have hO0 : Ord [.box (.d (.agg (xO obj a).cs)), .box (.d (.agg (yO obj b).cs)), .box (.agg Wn.cs), .arr [.agg (Entry.mk 1 1 (xO obj a)).cs] false] 2 L0 (fun _ => True) := ord0 (by rfl) rfl _
    have hz1 : evF C F_witness_Order_See [.ptr 2 0, .d (.i .u8 (k : Int)), .agg ((stN 1 []).withV (.view 3 1 8 0 1))] [.box (.d (.agg (xO obj a).cs)), .box (.d (.agg (yO obj b).cs)), .box (.agg Wn.cs), .arr [.agg (Entry.mk 1 1 (xO obj a)).cs] true] =
        evF C F_witness_Order_See [.ptr 2 0, .d (.i .u8 (k : Int)), .d (.agg (stN 1 [⟨1, 1, xO obj a⟩]).cs)] [.box (.d (.agg (xO obj a).cs)), .box (.d (.agg (yO obj b).cs)), .box (.agg Wn.cs), .arr [.agg (Entry.mk 1 1 (xO obj a)).cs] false] :=
      see_frz ⟨_, rfl⟩ (stN_frz _ 1 [⟨1, 1, xO obj a⟩] 1 rfl 3 true rfl)
    obtain ⟨⟨v1, G1⟩, hs1, hv1, hO1, hf1⟩ := see_at hO0 L0_ok k (by omega) (stN 1 [⟨1, 1, xO obj a⟩]) s1ok
    obtain ⟨ok1, len1, -, -⟩ := seeL_ok (M := 0) L0_ok (g := k) s1ok (by omega) L0_len
    dsimp only at hv1 hO1 hf1
    rw [f_see1 hk ho ha] at hv1 hO1 ok1 len1
    dsimp only at hv1 hO1 ok1 len1
    subst hv1
    have hs1' := hz1.trans hs1
    have b1x := hf1.box (q := 0) (by omega) rfl
    have b1y := hf1.box (q := 1) (by omega) rfl
    have g1 : (4 ≤ G1.length) = True := eq_true hf1.1
    have hnew := new_at (H := [.box (.d (.agg (xO obj a).cs)), .box (.d (.agg (yO obj b).cs))]) rfl
    have hnew0 := new_at (H := []) rfl
    cases acked with
    | true =>
      obtain ⟨⟨v2, G2⟩, hs2, hv2, hO2, hf2⟩ := took_at hO1 ok1 ⟨xO obj a, ⟨0, ⟨#[]⟩⟩⟩ xok
      obtain ⟨ok2, len2, -, -⟩ := tookL_ok ok1 ⟨xO obj a, ⟨0, ⟨#[]⟩⟩⟩
      dsimp only at hv2 hO2 hf2
      rw [f_took1 ho hgn ha] at hv2 hO2 ok2
      dsimp only at hv2 hO2 ok2
      subst hv2
      have b2x := hf2.box (by omega) b1x
      have b2y := hf2.box (by omega) b1y
      have g2 : (G1.length ≤ G2.length) = True := eq_true hf2.1
      obtain ⟨n, hn⟩ : ∃ n, G2.length = n := ⟨_, rfl⟩
      have hok2 : okH (hf G2 [.arr [.agg (Entry.mk 5 1 (yO obj b)).cs] false]) := by rw [hf_ok rfl hO2.1]; rfl
      have hz5 : evF C F_witness_Order_See [.ptr 2 0, .d (.i .u8 (k : Int)), .agg ((stN 5 []).withV (.view n 1 8 0 1))] (hf G2 [.arr [.agg (Entry.mk 5 1 (yO obj b)).cs] true]) =
          evF C F_witness_Order_See [.ptr 2 0, .d (.i .u8 (k : Int)), .d (.agg (stN 5 [⟨5, 1, yO obj b⟩]).cs)] (hf G2 [.arr [.agg (Entry.mk 5 1 (yO obj b)).cs] false]) := by
        have := see_frz (o := 2) (g := .d (.i .u8 (k : Int))) ⟨_, rfl⟩ (stN_frz (hf G2 [.arr [.agg (Entry.mk 5 1 (yO obj b)).cs] true]) 5 [⟨5, 1, yO obj b⟩] 1 rfl n true (by rw [hf_at0 hn]; rfl))
        rw [hf_set0 hn] at this
        exact this
      obtain ⟨⟨v3, G3⟩, hs3, hv3, hO3, hf3⟩ := see_at (hO2.hf hok2) ok2 k (by omega) (stN 5 [⟨5, 1, yO obj b⟩]) s5ok
      dsimp only at hv3 hO3 hf3
      rw [f_see5a hk ho hb] at hv3 hO3
      dsimp only at hv3 hO3
      subst hv3
      have hs3' := hz5.trans hs3
      have b3x := hf3.box (by omega) (hf_old b2x _)
      have g3 : (n + 1 ≤ G3.length) = True := eq_true (by have := hf3.1; rw [hf_len hn] at this; exact this)
      have hat : evF C F_witness_Order_At [.ptr 2 0, .d (.i .u8 (k : Int)), .d (.i .u32 1)] G3 = some (.tup [.d (.agg (Entry.mk 1 1 (xO obj a)).cs), .d (.b true)], G3) := by
        have := at_at hO3 ok2 k 1 (by omega)
        rw [f_at1 hk] at this
        exact this
      obtain ⟨m, hm⟩ : ∃ m, G3.length = m := ⟨_, rfl⟩
      have R := hf_rules hm
      have h0m : 0 < m := hm ▸ (List.getElem?_eq_some_iff.1 b3x).1
      have O0 := o_rules h0m
      have f3x := hf_old b3x
      rw [hm] at g3
      rw [hn] at g2
      have pg2 : ∀ x, G2 ++ [x] = hf G2 [x] := fun _ => rfl
      have pg3 : ∀ x, G3 ++ [x] = hf G3 [x] := fun _ => rfl
      have ln2 := hf_len hn
      simp (config := {decide := true}) only [h1, h2, h3, h9, h10, c4, hnew, hnew0, stN_1, stN_2, stN_3, an_f0, show Opr.mk 1 1 1 obj 0 a = xO obj a from rfl, show Opr.mk 2 1 1 obj 0 b = yO obj b from rfl, hs1', hs2, hs3', hat, b1x, b2x, b2y, g1, g2, g3, hn, hm, pg2, pg3, ln2, R, O0, f3x, sameH_self, Pk.EVL, keepT, enum, ↓reduceIte, ev, act, appT, callee, toDs, toD, loadA, storeA, subA, subD, updA, Eff.on, resA, resVs, resV, lk, finish, frzR, frzVs, frzV, fznR, fzns, fzn, lts, lt, ltO, List.all, pairsOk, indep, reduceCtorEq, Nat.reduceEqDiff, Nat.reduceAdd, Nat.reduceLeDiff, stb, thaws, List.drop, intOfA, binD, binI, unD, mmL, buildA, mkAgg, allD, bslD, behind, behind0, takeAt, frzAs, frzA, adoptR, adopt, isD, isD0, trim, List.take, binS, sliceA, bnd, zOk, elems, Nat.reduceBNe, inpl, Nat.reduceLT, Nat.reduceBEq, Nat.reduceSub, Nat.reduceMul, Int.reduceLT, Int.reduceLE, Int.reduceEq, Int.reduceToNat, Int.reduceNeg, thaw, nodup, refsV, adopts, Pk.TY_Opr, Pk.TY_Entry, Pk.TY_State, Pk.TY_Ans, Pk.TY_Res]
      exact ⟨_, rfl⟩
    | false =>
      have b2x := b1x
      have b2y := b1y
      obtain ⟨n, hn⟩ : ∃ n, G1.length = n := ⟨_, rfl⟩
      have hok2 : okH (hf G1 [.arr [.agg (Entry.mk 5 1 (yO obj b)).cs] false]) := by rw [hf_ok rfl hO1.1]; rfl
      have hz5 : evF C F_witness_Order_See [.ptr 2 0, .d (.i .u8 (k : Int)), .agg ((stN 5 []).withV (.view n 1 8 0 1))] (hf G1 [.arr [.agg (Entry.mk 5 1 (yO obj b)).cs] true]) =
          evF C F_witness_Order_See [.ptr 2 0, .d (.i .u8 (k : Int)), .d (.agg (stN 5 [⟨5, 1, yO obj b⟩]).cs)] (hf G1 [.arr [.agg (Entry.mk 5 1 (yO obj b)).cs] false]) := by
        have := see_frz (o := 2) (g := .d (.i .u8 (k : Int))) ⟨_, rfl⟩ (stN_frz (hf G1 [.arr [.agg (Entry.mk 5 1 (yO obj b)).cs] true]) 5 [⟨5, 1, yO obj b⟩] 1 rfl n true (by rw [hf_at0 hn]; rfl))
        rw [hf_set0 hn] at this
        exact this
      obtain ⟨⟨v3, G3⟩, hs3, hv3, hO3, hf3⟩ := see_at (hO1.hf hok2) ok1 k (by omega) (stN 5 [⟨5, 1, yO obj b⟩]) s5ok
      obtain ⟨ok3, len3, -, -⟩ := seeL_ok (M := 6) ok1 (g := k) s5ok (by omega) len1
      dsimp only at hv3 hO3 hf3
      rw [f_see5b hk ho hb] at hv3 hO3 ok3 len3
      dsimp only at hv3 hO3 ok3 len3
      subst hv3
      have hs3' := hz5.trans hs3
      have b3x := hf3.box (by omega) (hf_old b2x _)
      have b3y := hf3.box (by omega) (hf_old b2y _)
      have g3 : (n + 1 ≤ G3.length) = True := eq_true (by have := hf3.1; rw [hf_len hn] at this; exact this)
      have hat : evF C F_witness_Order_At [.ptr 2 0, .d (.i .u8 (k : Int)), .d (.i .u32 1)] G3 = some (.tup [.d (.agg (Entry.mk 5 1 (yO obj b)).cs), .d (.b true)], G3) := by
        have := at_at hO3 ok3 k 1 (by omega)
        rw [f_at5 hk] at this
        exact this
      obtain ⟨m, hm⟩ : ∃ m, G3.length = m := ⟨_, rfl⟩
      have hok3 : okH (hf G3 [.box (.d (.agg (Entry.mk 5 1 (yO obj b)).cs))]) := by rw [hf_ok rfl hO3.1]; rfl
      obtain ⟨⟨v4, G4⟩, hs4, hv4, hO4, hf4⟩ := took_at (hO3.hf hok3) ok3 ⟨xO obj a, ⟨0, ⟨#[]⟩⟩⟩ xok
      dsimp only at hv4 hO4 hf4
      rw [f_took5 ho hgn ha] at hv4 hO4
      dsimp only at hv4 hO4
      subst hv4
      have g4 : (m + 1 ≤ G4.length) = True := eq_true (by have := hf4.1; rw [hf_len hm] at this; exact this)
      obtain ⟨⟨v5, G5⟩, hs5, hv5, hO5, hf5⟩ := see_at hO4 ok3 k (by omega) (stN 1 []) (stN_ok 1 (by simp))
      dsimp only at hv5 hO5 hf5
      rw [f_see0 hk] at hv5 hO5
      dsimp only at hv5 hO5
      subst hv5
      have hs5' : evF C F_witness_Order_See [.ptr 2 0, .d (.i .u8 (k : Int)), .agg ((stN 1 []).withV .nilS)] G4 = some (.d (.i .i64 0), G5) := (see_frz ⟨_, rfl⟩ (stN_frz0 G4 1)).trans hs5
      have g5 : (G4.length ≤ G5.length) = True := eq_true hf5.1
      have hln : evF C F_witness_Order_Len [.ptr 2 0, .d (.i .u8 (k : Int))] G5 = some (.d (.i .i64 1), G5) := by
        have := len_at hO5 k
        rw [if_pos hk, fD_k] at this
        exact this
      have R := hf_rules hm
      have h0m : 0 < m := hm ▸ (List.getElem?_eq_some_iff.1 b3x).1
      have h1m : 1 < m := hm ▸ (List.getElem?_eq_some_iff.1 b3y).1
      have O0 := o_rules h0m
      have O1 := o_rules h1m
      have f3x := hf_old b3x
      have f3y := hf_old b3y
      rw [hm] at g3
      rw [hn] at g1
      have pg2 : ∀ x, G1 ++ [x] = hf G1 [x] := fun _ => rfl
      have pg3 : ∀ x, G3 ++ [x] = hf G3 [x] := fun _ => rfl
      have ln2 := hf_len hn
      simp (config := {decide := true}) only [h1, h2, h3, h9, h10, c4, hnew, hnew0, stN_1, stN_2, stN_3, an_f0, show Opr.mk 1 1 1 obj 0 a = xO obj a from rfl, show Opr.mk 2 1 1 obj 0 b = yO obj b from rfl, hs1', hs3', hat, hs4, hs5', hln, b1x, b2x, b2y, g1, g3, g4, g5, hn, hm, pg2, pg3, ln2, R, O0, O1, f3x, f3y, sameH_self, Pk.EVL, keepT, enum, ↓reduceIte, ev, act, appT, callee, toDs, toD, loadA, storeA, subA, subD, updA, Eff.on, resA, resVs, resV, lk, finish, frzR, frzVs, frzV, fznR, fzns, fzn, lts, lt, ltO, List.all, pairsOk, indep, reduceCtorEq, Nat.reduceEqDiff, Nat.reduceAdd, Nat.reduceLeDiff, stb, thaws, List.drop, intOfA, binD, binI, unD, mmL, buildA, mkAgg, allD, bslD, behind, behind0, takeAt, frzAs, frzA, adoptR, adopt, isD, isD0, trim, List.take, binS, sliceA, bnd, zOk, elems, Nat.reduceBNe, inpl, Nat.reduceLT, Nat.reduceBEq, Nat.reduceSub, Nat.reduceMul, Int.reduceLT, Int.reduceLE, Int.reduceEq, Int.reduceToNat, Int.reduceNeg, thaw, nodup, refsV, adopts, Pk.TY_Opr, Pk.TY_Entry, Pk.TY_State, Pk.TY_Ans, Pk.TY_Res]
      exact ⟨_, rfl⟩
end Go.Proofs.YtlihpaegaikoeaaDoor
