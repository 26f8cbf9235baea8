/- What the laws of choices know. / Intervals and who acts (plain): epochs go up; who acts is one each. -/
import Derived.Test.YtmiionadkdfbdaaChD
import Derived.Test.YtmiionadkdfbdaaChC
set_option linter.all false
namespace Go.Proofs.Ytmiionadkdfbdaa
open Pv Go Pk
set_option maxRecDepth 10000
set_option maxHeartbeats 4000000
def stA (n : Int) : List AV := upd State.zeroA 0 [.d (.i .u32 n)]
def stS (n : Int) : State := { State.zero with started := n }
theorem stA_eq (n : Int) : upd State.zeroA 0 [.d (.i .u32 n)] = stA n := rfl
theorem stA_mk (n : Int) : allD (stA n) = none := rfl
theorem stA_toDs (n : Int) (H : Heap) : toDs H (stA n) = some ((stS n).cs, H) := rfl
theorem stA_isD (n : Int) : (stA n).all isD0 = true := rfl
theorem stA_len (n : Int) : (stA n).length = 49 := rfl
theorem bsl_zero : bslD [.agg State.zeroA, .agg State.zeroA] = some [.agg State.zero.cs, .agg State.zero.cs] := rfl
theorem bsl_st (m n : Int) : bslD [.agg (stA m), .agg (stA n)] = some [.agg (stS m).cs, .agg (stS n).cs] := rfl
theorem known9_at : evF C F_paddocklaw9_known [] [] = some (.d (.b true), []) := by
  obtain ⟨p, hP⟩ : ∃ p, ([] : Heap).length = p := ⟨_, rfl⟩
  obtain ⟨n, hn⟩ : ∃ n, p + 12 = n := ⟨_, rfl⟩
  have hPp : plain [] := fun _ => rfl
  have hnew := h_new hP
  have hl := hh_len hP hn
  have ha := hh_at hP hn
  have ha0 := hh_at0 hP hn
  have hs := hh_set hP hn
  have hs0 := hh_set0 hP hn
  have ht := hh_take hP hn
  have ht0 := hh_take0 hP hn
  have hac : (lastI (ivL [] 0)).acting = [4, 3, 2] := by decide +kernel
  have C0 := @h_acting _ _ hP hPp [] good_nil _ grb0_pl [] (fun _ => rfl) 0 (by decide)
  rw [hac] at C0
  have B1 : evF C F_choose_Best [.d (.sl [.i .i64 3, .i .i64 1]), .d (.sl [.agg State.zero.cs, .agg State.zero.cs])] [] = some (.d (.i .i64 1), []) := cbest_at [3, 1] [State.zero, State.zero] (by decide) (by decide)
  have B0 : evF C F_choose_Best [.d (.sl []), .d (.sl [])] [] = some (.d (.i .i64 (-1)), []) := cbest_at [] [] (by decide) (by decide)
  have ST : evF C F_choose_Started [.d (.sl [.agg (stS 4).cs, .agg (stS 2).cs])] [] = some (.d (.i .u32 4), []) := cstarted_at [stS 4, stS 2] (by decide)
  have q1 := Grb.frz_pl grb0_pl 0
  have q2 := Grb.frz_pl q1 0
  have X1 : plain [.arr [.i .i64 3, .i .i64 1] false, .arr [.agg State.zero.cs, .agg State.zero.cs] false] := fun _ => rfl
  have E1 := enough_at hP hn hPp good_nil grb0_pl X1 rfl 0 (by decide) (hv := .d (.sl [.i .i64 4, .i .i64 3, .i .i64 2])) (A := [4, 3, 2]) (.inl rfl) (by decide) 0
  have E2 := enough_at hP hn hPp good_nil q1 X1 rfl 0 (by decide) (hv := .d (.sl [.i .i64 3, .i .i64 2])) (A := [3, 2]) (.inl rfl) (by decide) 0
  rw [show enoughB [] 0 [4, 3, 2] 0 = true by decide +kernel] at E1
  rw [show enoughB [] 0 [3, 2] 0 = false by decide +kernel] at E2
  have SV := serves_at hP hn hPp good_nil q2 X1 rfl 0 (by decide)
  rw [hac] at SV
  obtain ⟨r, hr, Z, fe, hfe, hZ, rfl⟩ := lacks_at hP hn hPp good_nil q2 X1 (m := n + 2) rfl 0 (by decide) (hv := .nilS) (A := []) (.inr ⟨rfl, rfl⟩) (by decide) 0
  have hlk : (lacksL [] 0 [] 0).length = 0 := by decide +kernel
  rw [hlk, hrh] at hr
  have hlt := isEar_lt hfe
  have n5 : (n ≤ n + 2) = True := eq_true (by omega)
  have hns : ∀ x y : DV, subL [x, y] 0 2 = [x, y] := fun _ _ => rfl
  rw [evF_code (rfl : C F_paddocklaw9_known = some a_paddocklaw9_known) _ _ rfl]
  simp (config := {decide := true}) only [c_paddocklaw9_known, hnew, C0, B1, B0, ST, E1, E2, SV, hr, hns, n5, stA_eq, stA_mk, stA_len, stA_toDs, stA_isD, bsl_zero, bsl_st, hl, ha, ha0, hs, hs0, ht, ht0, hh_push, Nat.zero_le, Nat.le_refl, List.take_zero, plain_nil, plain_arr, plain_box, Pk.EVL, keepT, enum, ↓reduceIte, ev, act, appT, callee, toDs, toD, loadA, storeA, subA, subD, updA, Eff.on, resA, resVs, resV, lk, finish, frzR, frzVs, frzV, fznR, fzns, fzn, lts, lt, ltO, List.all, pairsOk, indep, reduceCtorEq, Nat.reduceEqDiff, Nat.reduceAdd, Nat.reduceLeDiff, stb, thaws, List.drop, intOfA, binD, binI, unD, mmL, buildA, mkAgg, allD, bslD, behind, behind0, takeAt, frzAs, frzA, adoptR, adopt, isD, isD0, trim, List.take, binS, sliceA, bnd, zOk, elems, Nat.reduceBNe, inpl, Nat.reduceLT, Nat.reduceBEq, Nat.reduceSub, Nat.reduceMul, Int.reduceLT, Int.reduceLE, Int.reduceEq, Int.reduceToNat, Int.reduceNeg, thaw, nodup, refsV, adopts, Pk.TY_State]

end Go.Proofs.Ytmiionadkdfbdaa

namespace Go.Proofs.Ytmiionadkdfbdaa
open Pv Go Pk
set_option maxRecDepth 10000
set_option maxHeartbeats 2000000
theorem pickGo_unlike (os : List Osd) (o : Nat → Nat) (P : List Nat) (hP : P.Pairwise fun p q => clash os q p = false) : ∀ n t, (pickGo os o P n t).Pairwise fun p q => clash os q p = false
  | 0, _ => hP
  | n + 1, t => by
    simp only [pickGo]
    split
    · exact pickGo_unlike os o P hP n _
    · rename_i h
      rw [List.pairwise_append]
      refine ⟨hP, by simp, fun p hp q hq => ?_⟩
      simp only [List.mem_singleton] at hq
      subst hq
      simp only [List.any_eq_true, not_exists, not_and, Bool.not_eq_true] at h
      exact h p hp
theorem pickP_nodup (e : Int) (os : List Osd) (g : Int) : (pickP e os g).Pairwise fun p q => p ≠ q := by
  have : (pickP e os g).Pairwise fun p q => clash os q p = false := by
    unfold pickP
    split
    · split
      · exact List.Pairwise.nil
      · exact pickGo_unlike os _ _ (pickGo_unlike os _ _ (by simp) 20 0) 20 0
    · exact List.Pairwise.nil
  refine this.imp ?_
  intro p q h he
  subst he
  simp [clash] at h
theorem actI_nodup (m : Mp) (g : Int) : (actI m g).Pairwise fun p q => p ≠ q := by
  unfold actI actP
  rw [List.pairwise_map]
  refine ((pickP_nodup _ _ _).filter _).imp ?_
  intro p q h he
  exact h (by omega)
theorem actI_mem (m : Mp) (g : Int) : ∀ x ∈ actI m g, 0 ≤ x ∧ x < 5 := by
  intro x hx
  unfold actI actP at hx
  obtain ⟨y, hy, rfl⟩ := List.mem_map.1 hx
  have := pickP_mem _ _ _ y (List.mem_filter.1 hy).1
  omega
theorem ivL_up (l : List Inc) (g : Int) (hg : 0 ≤ g ∧ g < 4) : (ivL l g).Pairwise (fun x y => x.since < y.since) ∧ ∀ x ∈ ivL l g, x.since ≤ (l.length : Int) + 1 := by
  refine list_snoc_ind (M := fun l => (ivL l g).Pairwise (fun x y => x.since < y.since) ∧ ∀ x ∈ ivL l g, x.since ≤ (l.length : Int) + 1) ?_ ?_ l
  · rw [ivL_nil g hg]
    exact ⟨by simp, fun x hx => by simp at hx; subst hx; show (1 : Int) ≤ 0 + 1; omega⟩
  · rintro l x ⟨h1, h2⟩
    rw [ivL_snoc _ _ _ hg]
    have hl : ((l ++ [x]).length : Int) = (l.length : Int) + 1 := by simp
    rw [hl]
    unfold ivAdd
    split
    · exact ⟨h1, fun y hy => by have := h2 y hy; omega⟩
    · refine ⟨?_, ?_⟩
      · rw [List.pairwise_append]
        refine ⟨h1, by simp, fun y hy z hz => ?_⟩
        simp at hz
        subst hz
        have := h2 y hy
        show y.since < (l.length : Int) + 2
        omega
      · intro y hy
        rcases List.mem_append.1 hy with hy | hy
        · have := h2 y hy; omega
        · simp at hy; subst hy; show (l.length : Int) + 2 ≤ _; omega
theorem ivL_split (l : List Inc) (g : Int) (hg : 0 ≤ g ∧ g < 4) : ivL l g = (ivL l g).take ((ivL l g).length - 1) ++ [lastI (ivL l g)] := by
  have h0 := ivL_ne l g hg
  have h := List.take_append_drop ((ivL l g).length - 1) (ivL l g)
  rw [List.drop_eq_getElem_cons (by omega), List.drop_eq_nil_of_le (by omega)] at h
  have hx := lastI_at h0
  rw [List.getElem?_eq_getElem (by omega)] at hx
  rw [Option.some.inj hx] at h
  exact h.symm
theorem ivL_before (l : List Inc) (g : Int) (hg : 0 ≤ g ∧ g < 4) : ∀ x ∈ (ivL l g).take ((ivL l g).length - 1), x.since < (lastI (ivL l g)).since := by
  have h := (ivL_up l g hg).1
  rw [ivL_split l g hg, List.pairwise_append] at h
  intro x hx
  exact h.2.2 x hx _ (by simp)
theorem lacks_since (l : List Inc) (g : Int) (hg : 0 ≤ g ∧ g < 4) (A : List Int) : lacksL l g A (lastI (ivL l g)).since = [] := by
  unfold lacksL
  rw [List.filter_eq_nil_iff]
  intro x hx
  have := ivL_before l g hg x hx
  unfold missB
  simp
  omega
theorem enough_self (l : List Inc) (g : Int) (hg : 0 ≤ g ∧ g < 4) : enoughB l g (lastI (ivL l g)).acting (lastI (ivL l g)).since = true := by
  unfold enoughB
  rw [lacks_since l g hg]
  simp
theorem enough_less {l : List Inc} (hl : goodI l) (g : Int) (hg : 0 ≤ g ∧ g < 4) (h : (lastI (ivL l g)).acting ≠ []) : enoughB l g ((lastI (ivL l g)).acting.drop 1) (lastI (ivL l g)).since = false := by
  unfold enoughB
  have hn := actI_nodup (mapAt l) g
  rw [← last_acting hl g hg] at hn
  cases ha : (lastI (ivL l g)).acting with
  | nil => exact absurd ha h
  | cons x r =>
    rw [ha] at hn
    have hx : x ∉ r := fun hx => (List.pairwise_cons.1 hn).1 x hx rfl
    simp [hx]
end Go.Proofs.Ytmiionadkdfbdaa
