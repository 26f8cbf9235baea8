/- What the laws of choices know. / The document's maps: which are maps (the reference's Is). -/
import Derived.Test.YtmiionadkdfbdaaChD
import Derived.Test.YtmiionadkdfbdaaHsN
set_option linter.all false
namespace Go.Proofs.Ytmiionadkdfbdaa
open Pv Go Pk
set_option maxRecDepth 10000
set_option maxHeartbeats 4000000
def stA (n : Int) : List AV := upd State.zeroA 0 [.d (.i .u32 n)]
def stS (n : Int) : State := { State.zero with started := n }
theorem stA_eq (n : Int) : upd State.zeroA 0 [.d (.i .u32 n)] = stA n := rfl
theorem stA_mk (n : Int) : allD (stA n) = none := rfl
theorem stA_toDs (n : Int) (H : Heap) : toDs H (stA n) = some ((stS n).cs, H) := rfl
theorem stA_isD (n : Int) : (stA n).all isD0 = true := rfl
theorem stA_len (n : Int) : (stA n).length = 49 := rfl
theorem bsl_zero : bslD [.agg State.zeroA, .agg State.zeroA] = some [.agg State.zero.cs, .agg State.zero.cs] := rfl
theorem bsl_st (m n : Int) : bslD [.agg (stA m), .agg (stA n)] = some [.agg (stS m).cs, .agg (stS n).cs] := rfl
theorem known9_at : evF C F_paddocklaw9_known [] [] = some (.d (.b true), []) := by
  obtain ⟨p, hP⟩ : ∃ p, ([] : Heap).length = p := ⟨_, rfl⟩
  obtain ⟨n, hn⟩ : ∃ n, p + 12 = n := ⟨_, rfl⟩
  have hPp : plain [] := fun _ => rfl
  have hnew := h_new hP
  have hl := hh_len hP hn
  have ha := hh_at hP hn
  have ha0 := hh_at0 hP hn
  have hs := hh_set hP hn
  have hs0 := hh_set0 hP hn
  have ht := hh_take hP hn
  have ht0 := hh_take0 hP hn
  have hac : (lastI (ivL [] 0)).acting = [4, 3, 2] := by decide +kernel
  have C0 := @h_acting _ _ hP hPp [] good_nil _ grb0_pl [] (fun _ => rfl) 0 (by decide)
  rw [hac] at C0
  have B1 : evF C F_choose_Best [.d (.sl [.i .i64 3, .i .i64 1]), .d (.sl [.agg State.zero.cs, .agg State.zero.cs])] [] = some (.d (.i .i64 1), []) := cbest_at [3, 1] [State.zero, State.zero] (by decide) (by decide)
  have B0 : evF C F_choose_Best [.d (.sl []), .d (.sl [])] [] = some (.d (.i .i64 (-1)), []) := cbest_at [] [] (by decide) (by decide)
  have ST : evF C F_choose_Started [.d (.sl [.agg (stS 4).cs, .agg (stS 2).cs])] [] = some (.d (.i .u32 4), []) := cstarted_at [stS 4, stS 2] (by decide)
  have q1 := Grb.frz_pl grb0_pl 0
  have q2 := Grb.frz_pl q1 0
  have X1 : plain [.arr [.i .i64 3, .i .i64 1] false, .arr [.agg State.zero.cs, .agg State.zero.cs] false] := fun _ => rfl
  have E1 := enough_at hP hn hPp good_nil grb0_pl X1 rfl 0 (by decide) (hv := .d (.sl [.i .i64 4, .i .i64 3, .i .i64 2])) (A := [4, 3, 2]) (.inl rfl) (by decide) 0
  have E2 := enough_at hP hn hPp good_nil q1 X1 rfl 0 (by decide) (hv := .d (.sl [.i .i64 3, .i .i64 2])) (A := [3, 2]) (.inl rfl) (by decide) 0
  rw [show enoughB [] 0 [4, 3, 2] 0 = true by decide +kernel] at E1
  rw [show enoughB [] 0 [3, 2] 0 = false by decide +kernel] at E2
  have SV := serves_at hP hn hPp good_nil q2 X1 rfl 0 (by decide)
  rw [hac] at SV
  obtain ⟨r, hr, Z, fe, hfe, hZ, rfl⟩ := lacks_at hP hn hPp good_nil q2 X1 (m := n + 2) rfl 0 (by decide) (hv := .nilS) (A := []) (.inr ⟨rfl, rfl⟩) (by decide) 0
  have hlk : (lacksL [] 0 [] 0).length = 0 := by decide +kernel
  rw [hlk, hrh] at hr
  have hlt := isEar_lt hfe
  have n5 : (n ≤ n + 2) = True := eq_true (by omega)
  have hns : ∀ x y : DV, subL [x, y] 0 2 = [x, y] := fun _ _ => rfl
  rw [evF_code (rfl : C F_paddocklaw9_known = some a_paddocklaw9_known) _ _ rfl]
  simp (config := {decide := true}) only [c_paddocklaw9_known, hnew, C0, B1, B0, ST, E1, E2, SV, hr, hns, n5, stA_eq, stA_mk, stA_len, stA_toDs, stA_isD, bsl_zero, bsl_st, hl, ha, ha0, hs, hs0, ht, ht0, hh_push, Nat.zero_le, Nat.le_refl, List.take_zero, plain_nil, plain_arr, plain_box, Pk.EVL, keepT, enum, ↓reduceIte, ev, act, appT, appW, callee, toDs, toD, loadA, storeA, subA, subD, updA, Eff.on, resA, resVs, resV, lk, finish, frzR, frzVs, frzV, fznR, fzns, fzn, lts, lt, ltO, List.all, pairsOk, indep, reduceCtorEq, Nat.reduceEqDiff, Nat.reduceAdd, Nat.reduceLeDiff, stb, thaws, List.drop, intOfA, binD, binI, unD, mmL, buildA, mkAgg, allD, bslD, behind, behind0, takeAt, frzAs, frzA, adoptR, adopt, isD, isD0, trim, List.take, binS, sliceA, bnd, zOk, elems, Nat.reduceBNe, inpl, Nat.reduceLT, Nat.reduceBEq, Nat.reduceSub, Nat.reduceMul, Int.reduceLT, Int.reduceLE, Int.reduceEq, Int.reduceToNat, Int.reduceNeg, thaw, nodup, refsV, adopts, sameH_self, Pk.TY_State]

end Go.Proofs.Ytmiionadkdfbdaa

namespace Go.Proofs.Ytmiionadkdfbdaa
open Pv Go Pk
set_option maxRecDepth 10000
set_option maxHeartbeats 2000000
def okOs (m : Pk.Mp) (i : Nat) : Bool := !(decide ((m.osds.get i).weight < 0) || (decide ((m.osds.get i).weight > 16) || decide ((m.osds.get i).host ≥ 8)))
theorem oks_allR (m : Pk.Mp) : (osL m).all Osd.ok = allN 5 (okOs m) := rfl
theorem refis_at (m : Pk.Mp) : evF C F_paddockref3_Is [.d (.agg m.cs)] [] = some (.d (.b (isM m.epoch (osL m))), []) := by
  rw [evF_code (rfl : C F_paddockref3_Is = some a_paddockref3_Is) _ _ rfl]
  unfold isM
  rw [oks_allR]
  simp (config := {decide := true}) only [c_paddockref3_Is, Pk.EVL, keepT, enum, ↓reduceIte, ev, act, appT, appW, callee, toDs, toD, loadA, storeA, subA, subD, updA, Eff.on, resA, resVs, resV, lk, finish, frzR, frzVs, frzV, fznR, fzns, fzn, lts, lt, ltO, List.all, pairsOk, indep, reduceCtorEq, Nat.reduceEqDiff, Nat.reduceAdd, Nat.reduceLeDiff, stb, thaws, List.drop, intOfA, binD, binI, unD, mmL, buildA, mkAgg, allD, bslD, behind, behind0, takeAt, frzAs, frzA, adoptR, adopt, isD, isD0, trim, List.take, binS, sliceA, bnd, zOk, elems, Nat.reduceBNe, inpl, Nat.reduceLT, Nat.reduceBEq, Nat.reduceSub, Nat.reduceMul, Int.reduceLT, Int.reduceLE, Int.reduceEq, Int.reduceToNat, Int.reduceNeg, thaw, nodup, refsV, adopts, sameH_self, Pk.TY_Mp, Pk.TY_Osd]
  simp only [Option.bind_assoc]
  refine bind_run (loop_run (fun i T H => lk T 1 = .ptr 0 0 ∧ lk T 3 = .d (.i .i64 (i : Nat)) ∧ (∃ J, H = .box (.d (.agg m.cs)) :: J) ∧ ∀ j < i, okOs m j = true)
    (fun e T H => (e = .exit 0 ∧ lk T 1 = .ptr 0 0 ∧ H = [.box (.d (.agg m.cs))] ∧ allN 5 (okOs m) = true) ∨ (e = .ret ∧ lk T 2 = .d (.b false) ∧ (∃ J, H = .box (.d (.agg m.cs)) :: J) ∧ allN 5 (okOs m) = false)) 5 ?_ ?_ 5 0 _ _ (by omega) ⟨rfl, rfl, ⟨[], rfl⟩, by omega⟩) ?_
  · rintro i T H hi ⟨h1, h3, ⟨J, rfl⟩, hj⟩
    have hd : decide ((i : Int) < 5) = true := by simp; omega
    have hw : IntKind.i64.wrap ((i : Int) + 1) = ((i + 1 : Nat) : Int) := wi64 (by omega)
    have b3 : ((i : Int) < ((5 : Nat) : Int)) = True := by simp; omega
    have b3' : (0 ≤ (i : Int)) = True := by simp
    have b4 : (1 + i * 3 + 3 ≤ 16) = True := by simp; omega
    have hok : okOs m i = !(decide ((m.osds.get i).weight < 0) || (decide ((m.osds.get i).weight > 16) || decide ((m.osds.get i).host ≥ 8))) := rfl
    have fin : okOs m i = true → ∀ j < i + 1, okOs m j = true := fun h j hj' => by
      by_cases e : j = i
      · rw [e]; exact h
      · exact hj j (by omega)
    have bad : okOs m i = false → allN 5 (okOs m) = false := fun h => allN_false fun hh => by rw [hh i hi] at h; simp at h
    have hzz : Osd.zero = (⟨false, 0, 0⟩ : Pk.Osd) := rfl
    rcases Bool.eq_false_or_eq_true (decide ((m.osds.get i).weight < 0)) with q1 | q1
    · simp (config := {decide := true}) only [K_paddockref3_Is_0, l_paddockref3_Is_0, h1, h3, hd, hw, b3, b3', b4, hi, q1, Pk.EVL, keepT, enum, ↓reduceIte, ev, act, appT, appW, callee, toDs, toD, loadA, storeA, subA, subD, updA, Eff.on, resA, resVs, resV, lk, finish, frzR, frzVs, frzV, fznR, fzns, fzn, lts, lt, ltO, List.all, pairsOk, indep, reduceCtorEq, Nat.reduceEqDiff, Nat.reduceAdd, Nat.reduceLeDiff, stb, thaws, List.drop, intOfA, binD, binI, unD, mmL, buildA, mkAgg, allD, bslD, behind, behind0, takeAt, frzAs, frzA, adoptR, adopt, isD, isD0, trim, List.take, binS, sliceA, bnd, zOk, elems, Nat.reduceBNe, inpl, Nat.reduceLT, Nat.reduceBEq, Nat.reduceSub, Nat.reduceMul, Int.reduceLT, Int.reduceLE, Int.reduceEq, Int.reduceToNat, Int.reduceNeg, thaw, nodup, refsV, adopts, sameH_self, Pk.TY_Mp, Pk.TY_Osd]
      refine ⟨_, _, _, rfl, ?_⟩
      exact .inr ⟨by simp, .inr ⟨rfl, rfl, ⟨_, rfl⟩, bad (by rw [hok, q1]; simp)⟩⟩
    rcases Bool.eq_false_or_eq_true (decide ((m.osds.get i).weight > 16)) with q2 | q2
    · simp (config := {decide := true}) only [K_paddockref3_Is_0, l_paddockref3_Is_0, h1, h3, hd, hw, b3, b3', b4, hi, q1, q2, Pk.EVL, keepT, enum, ↓reduceIte, ev, act, appT, appW, callee, toDs, toD, loadA, storeA, subA, subD, updA, Eff.on, resA, resVs, resV, lk, finish, frzR, frzVs, frzV, fznR, fzns, fzn, lts, lt, ltO, List.all, pairsOk, indep, reduceCtorEq, Nat.reduceEqDiff, Nat.reduceAdd, Nat.reduceLeDiff, stb, thaws, List.drop, intOfA, binD, binI, unD, mmL, buildA, mkAgg, allD, bslD, behind, behind0, takeAt, frzAs, frzA, adoptR, adopt, isD, isD0, trim, List.take, binS, sliceA, bnd, zOk, elems, Nat.reduceBNe, inpl, Nat.reduceLT, Nat.reduceBEq, Nat.reduceSub, Nat.reduceMul, Int.reduceLT, Int.reduceLE, Int.reduceEq, Int.reduceToNat, Int.reduceNeg, thaw, nodup, refsV, adopts, sameH_self, Pk.TY_Mp, Pk.TY_Osd]
      refine ⟨_, _, _, rfl, ?_⟩
      exact .inr ⟨by simp, .inr ⟨rfl, rfl, ⟨_, rfl⟩, bad (by rw [hok, q1, q2]; simp)⟩⟩
    rcases Bool.eq_false_or_eq_true (decide ((m.osds.get i).host ≥ 8)) with q3 | q3
    · simp (config := {decide := true}) only [K_paddockref3_Is_0, l_paddockref3_Is_0, h1, h3, hd, hw, b3, b3', b4, hi, q1, q2, q3, Pk.EVL, keepT, enum, ↓reduceIte, ev, act, appT, appW, callee, toDs, toD, loadA, storeA, subA, subD, updA, Eff.on, resA, resVs, resV, lk, finish, frzR, frzVs, frzV, fznR, fzns, fzn, lts, lt, ltO, List.all, pairsOk, indep, reduceCtorEq, Nat.reduceEqDiff, Nat.reduceAdd, Nat.reduceLeDiff, stb, thaws, List.drop, intOfA, binD, binI, unD, mmL, buildA, mkAgg, allD, bslD, behind, behind0, takeAt, frzAs, frzA, adoptR, adopt, isD, isD0, trim, List.take, binS, sliceA, bnd, zOk, elems, Nat.reduceBNe, inpl, Nat.reduceLT, Nat.reduceBEq, Nat.reduceSub, Nat.reduceMul, Int.reduceLT, Int.reduceLE, Int.reduceEq, Int.reduceToNat, Int.reduceNeg, thaw, nodup, refsV, adopts, sameH_self, Pk.TY_Mp, Pk.TY_Osd]
      refine ⟨_, _, _, rfl, ?_⟩
      exact .inr ⟨by simp, .inr ⟨rfl, rfl, ⟨_, rfl⟩, bad (by rw [hok, q1, q2, q3]; simp)⟩⟩
    simp (config := {decide := true}) only [K_paddockref3_Is_0, l_paddockref3_Is_0, h1, h3, hd, hw, b3, b3', b4, hi, q1, q2, q3, Pk.EVL, keepT, enum, ↓reduceIte, ev, act, appT, appW, callee, toDs, toD, loadA, storeA, subA, subD, updA, Eff.on, resA, resVs, resV, lk, finish, frzR, frzVs, frzV, fznR, fzns, fzn, lts, lt, ltO, List.all, pairsOk, indep, reduceCtorEq, Nat.reduceEqDiff, Nat.reduceAdd, Nat.reduceLeDiff, stb, thaws, List.drop, intOfA, binD, binI, unD, mmL, buildA, mkAgg, allD, bslD, behind, behind0, takeAt, frzAs, frzA, adoptR, adopt, isD, isD0, trim, List.take, binS, sliceA, bnd, zOk, elems, Nat.reduceBNe, inpl, Nat.reduceLT, Nat.reduceBEq, Nat.reduceSub, Nat.reduceMul, Int.reduceLT, Int.reduceLE, Int.reduceEq, Int.reduceToNat, Int.reduceNeg, thaw, nodup, refsV, adopts, sameH_self, Pk.TY_Mp, Pk.TY_Osd]
    refine ⟨_, _, _, rfl, ?_⟩
    exact .inl ⟨rfl, rfl, rfl, ⟨_, rfl⟩, fin (by rw [hok, q1, q2, q3]; rfl)⟩
  · rintro T H ⟨h1, h3, ⟨J, rfl⟩, hj⟩
    simp (config := {decide := true}) only [K_paddockref3_Is_0, l_paddockref3_Is_0, h1, h3, Pk.EVL, keepT, enum, ↓reduceIte, ev, act, appT, appW, callee, toDs, toD, loadA, storeA, subA, subD, updA, Eff.on, resA, resVs, resV, lk, finish, frzR, frzVs, frzV, fznR, fzns, fzn, lts, lt, ltO, List.all, pairsOk, indep, reduceCtorEq, Nat.reduceEqDiff, Nat.reduceAdd, Nat.reduceLeDiff, stb, thaws, List.drop, intOfA, binD, binI, unD, mmL, buildA, mkAgg, allD, bslD, behind, behind0, takeAt, frzAs, frzA, adoptR, adopt, isD, isD0, trim, List.take, binS, sliceA, bnd, zOk, elems, Nat.reduceBNe, inpl, Nat.reduceLT, Nat.reduceBEq, Nat.reduceSub, Nat.reduceMul, Int.reduceLT, Int.reduceLE, Int.reduceEq, Int.reduceToNat, Int.reduceNeg, thaw, nodup, refsV, adopts, sameH_self, Pk.TY_Mp, Pk.TY_Osd]
    refine ⟨_, _, _, rfl, ?_⟩
    exact ⟨by simp, .inl ⟨rfl, rfl, rfl, allN_true.2 hj⟩⟩
  rintro e T H (⟨rfl, h1, rfl, ha⟩ | ⟨rfl, h2, ⟨J, rfl⟩, ha⟩)
  · rw [ha]
    rcases Bool.eq_false_or_eq_true (decide (m.epoch ≥ 1)) with c | c <;>
      simp (config := {decide := true}) only [h1, c, Pk.EVL, keepT, enum, ↓reduceIte, ev, act, appT, appW, callee, toDs, toD, loadA, storeA, subA, subD, updA, Eff.on, resA, resVs, resV, lk, finish, frzR, frzVs, frzV, fznR, fzns, fzn, lts, lt, ltO, List.all, pairsOk, indep, reduceCtorEq, Nat.reduceEqDiff, Nat.reduceAdd, Nat.reduceLeDiff, stb, thaws, List.drop, intOfA, binD, binI, unD, mmL, buildA, mkAgg, allD, bslD, behind, behind0, takeAt, frzAs, frzA, adoptR, adopt, isD, isD0, trim, List.take, binS, sliceA, bnd, zOk, elems, Nat.reduceBNe, inpl, Nat.reduceLT, Nat.reduceBEq, Nat.reduceSub, Nat.reduceMul, Int.reduceLT, Int.reduceLE, Int.reduceEq, Int.reduceToNat, Int.reduceNeg, thaw, nodup, refsV, adopts, sameH_self, Pk.TY_Mp, Pk.TY_Osd]
  · rw [ha]
    simp (config := {decide := true}) only [h2, Pk.EVL, keepT, enum, ↓reduceIte, ev, act, appT, appW, callee, toDs, toD, loadA, storeA, subA, subD, updA, Eff.on, resA, resVs, resV, lk, finish, frzR, frzVs, frzV, fznR, fzns, fzn, lts, lt, ltO, List.all, pairsOk, indep, reduceCtorEq, Nat.reduceEqDiff, Nat.reduceAdd, Nat.reduceLeDiff, stb, thaws, List.drop, intOfA, binD, binI, unD, mmL, buildA, mkAgg, allD, bslD, behind, behind0, takeAt, frzAs, frzA, adoptR, adopt, isD, isD0, trim, List.take, binS, sliceA, bnd, zOk, elems, Nat.reduceBNe, inpl, Nat.reduceLT, Nat.reduceBEq, Nat.reduceSub, Nat.reduceMul, Int.reduceLT, Int.reduceLE, Int.reduceEq, Int.reduceToNat, Int.reduceNeg, thaw, nodup, refsV, adopts, sameH_self, Pk.TY_Mp, Pk.TY_Osd]

/-! picks -/
end Go.Proofs.Ytmiionadkdfbdaa
