/- What the laws of choices know. / Intervals and who acts (plain): epochs go up; who acts is one each. / Daemons that go down and come back (plain). -/
import Derived.Test.YtmiionadkdfbdaaChD
import Derived.Test.YtmiionadkdfbdaaChC
set_option linter.all false
namespace Go.Proofs.Ytmiionadkdfbdaa
open Pv Go Pk
set_option maxRecDepth 10000
set_option maxHeartbeats 4000000
def stA (n : Int) : List AV := upd State.zeroA 0 [.d (.i .u32 n)]
def stS (n : Int) : State := { State.zero with started := n }
theorem stA_eq (n : Int) : upd State.zeroA 0 [.d (.i .u32 n)] = stA n := rfl
theorem stA_mk (n : Int) : allD (stA n) = none := rfl
theorem stA_toDs (n : Int) (H : Heap) : toDs H (stA n) = some ((stS n).cs, H) := rfl
theorem stA_isD (n : Int) : (stA n).all isD0 = true := rfl
theorem stA_len (n : Int) : (stA n).length = 49 := rfl
theorem bsl_zero : bslD [.agg State.zeroA, .agg State.zeroA] = some [.agg State.zero.cs, .agg State.zero.cs] := rfl
theorem bsl_st (m n : Int) : bslD [.agg (stA m), .agg (stA n)] = some [.agg (stS m).cs, .agg (stS n).cs] := rfl
theorem known9_at : evF C F_paddocklaw9_known [] [] = some (.d (.b true), []) := by
  obtain ⟨p, hP⟩ : ∃ p, ([] : Heap).length = p := ⟨_, rfl⟩
  obtain ⟨n, hn⟩ : ∃ n, p + 12 = n := ⟨_, rfl⟩
  have hPp : plain [] := fun _ => rfl
  have hnew := h_new hP
  have hl := hh_len hP hn
  have ha := hh_at hP hn
  have ha0 := hh_at0 hP hn
  have hs := hh_set hP hn
  have hs0 := hh_set0 hP hn
  have ht := hh_take hP hn
  have ht0 := hh_take0 hP hn
  have hac : (lastI (ivL [] 0)).acting = [4, 3, 2] := by decide +kernel
  have C0 := @h_acting _ _ hP hPp [] good_nil _ grb0_pl [] (fun _ => rfl) 0 (by decide)
  rw [hac] at C0
  have B1 : evF C F_choose_Best [.d (.sl [.i .i64 3, .i .i64 1]), .d (.sl [.agg State.zero.cs, .agg State.zero.cs])] [] = some (.d (.i .i64 1), []) := cbest_at [3, 1] [State.zero, State.zero] (by decide) (by decide)
  have B0 : evF C F_choose_Best [.d (.sl []), .d (.sl [])] [] = some (.d (.i .i64 (-1)), []) := cbest_at [] [] (by decide) (by decide)
  have ST : evF C F_choose_Started [.d (.sl [.agg (stS 4).cs, .agg (stS 2).cs])] [] = some (.d (.i .u32 4), []) := cstarted_at [stS 4, stS 2] (by decide)
  have q1 := Grb.frz_pl grb0_pl 0
  have q2 := Grb.frz_pl q1 0
  have X1 : plain [.arr [.i .i64 3, .i .i64 1] false, .arr [.agg State.zero.cs, .agg State.zero.cs] false] := fun _ => rfl
  have E1 := enough_at hP hn hPp good_nil grb0_pl X1 rfl 0 (by decide) (hv := .d (.sl [.i .i64 4, .i .i64 3, .i .i64 2])) (A := [4, 3, 2]) (.inl rfl) (by decide) 0
  have E2 := enough_at hP hn hPp good_nil q1 X1 rfl 0 (by decide) (hv := .d (.sl [.i .i64 3, .i .i64 2])) (A := [3, 2]) (.inl rfl) (by decide) 0
  rw [show enoughB [] 0 [4, 3, 2] 0 = true by decide +kernel] at E1
  rw [show enoughB [] 0 [3, 2] 0 = false by decide +kernel] at E2
  have SV := serves_at hP hn hPp good_nil q2 X1 rfl 0 (by decide)
  rw [hac] at SV
  obtain ⟨r, hr, Z, fe, hfe, hZ, rfl⟩ := lacks_at hP hn hPp good_nil q2 X1 (m := n + 2) rfl 0 (by decide) (hv := .nilS) (A := []) (.inr ⟨rfl, rfl⟩) (by decide) 0
  have hlk : (lacksL [] 0 [] 0).length = 0 := by decide +kernel
  rw [hlk, hrh] at hr
  have hlt := isEar_lt hfe
  have n5 : (n ≤ n + 2) = True := eq_true (by omega)
  have hns : ∀ x y : DV, subL [x, y] 0 2 = [x, y] := fun _ _ => rfl
  rw [evF_code (rfl : C F_paddocklaw9_known = some a_paddocklaw9_known) _ _ rfl]
  simp (config := {decide := true}) only [c_paddocklaw9_known, hnew, C0, B1, B0, ST, E1, E2, SV, hr, hns, n5, stA_eq, stA_mk, stA_len, stA_toDs, stA_isD, bsl_zero, bsl_st, hl, ha, ha0, hs, hs0, ht, ht0, hh_push, Nat.zero_le, Nat.le_refl, List.take_zero, plain_nil, plain_arr, plain_box, Pk.EVL, keepT, enum, ↓reduceIte, ev, act, appT, callee, toDs, toD, loadA, storeA, subA, subD, updA, Eff.on, resA, resVs, resV, lk, finish, frzR, frzVs, frzV, fznR, fzns, fzn, lts, lt, ltO, List.all, pairsOk, indep, reduceCtorEq, Nat.reduceEqDiff, Nat.reduceAdd, Nat.reduceLeDiff, stb, thaws, List.drop, intOfA, binD, binI, unD, mmL, buildA, mkAgg, allD, bslD, behind, behind0, takeAt, frzAs, frzA, adoptR, adopt, isD, isD0, trim, List.take, binS, sliceA, bnd, zOk, elems, Nat.reduceBNe, inpl, Nat.reduceLT, Nat.reduceBEq, Nat.reduceSub, Nat.reduceMul, Int.reduceLT, Int.reduceLE, Int.reduceEq, Int.reduceToNat, Int.reduceNeg, thaw, nodup, refsV, adopts, Pk.TY_State]

end Go.Proofs.Ytmiionadkdfbdaa

namespace Go.Proofs.Ytmiionadkdfbdaa
open Pv Go Pk
set_option maxRecDepth 10000
set_option maxHeartbeats 2000000
end Go.Proofs.Ytmiionadkdfbdaa

namespace Go.Proofs.Ytmiionadkdfbdaa
open Pv Go Pk
set_option maxRecDepth 10000
set_option maxHeartbeats 4000000
def kd (k o : Int) : Inc := ⟨k, o, 0⟩
theorem kd_fold1 (o : Int) : Inc.cs ⟨1, o, 0⟩ = (kd 1 o).cs := rfl
theorem kd_fold2 (o : Int) : Inc.cs ⟨2, o, 0⟩ = (kd 2 o).cs := rfl
/-- An increment of a kind for each daemon that is marked. -/
def selN (k : Int) (O : List Bool) (i : Nat) : List Inc := (List.range i).flatMap fun j : Nat => if O[j]? = some true then [kd k (j : Int)] else []
theorem selN_zero (k : Int) (O : List Bool) : selN k O 0 = [] := rfl
theorem selN_step (k : Int) {O : List Bool} {i : Nat} {b : Bool} (h : O[i]? = some b) : selN k O (i + 1) = selN k O i ++ if b = true then [kd k (i : Int)] else [] := by
  unfold selN
  rw [List.range_succ, List.flatMap_append]
  simp [h]
theorem selN_len (k : Int) (O : List Bool) : ∀ i, (selN k O i).length ≤ i
  | 0 => Nat.le_refl _
  | i + 1 => by
    have := selN_len k O i
    unfold selN at *
    rw [List.range_succ, List.flatMap_append, List.length_append]
    simp only [List.flatMap_cons, List.flatMap_nil, List.append_nil]
    split
    · show _ + 1 ≤ _; omega
    · show _ + 0 ≤ _; omega
theorem selN_mem {k : Int} {O : List Bool} {i : Nat} {x : Inc} (h : x ∈ selN k O i) : ∃ j, j < i ∧ x = kd k (j : Int) ∧ O[j]? = some true := by
  unfold selN at h
  obtain ⟨j, hj, hx⟩ := List.mem_flatMap.1 h
  rw [List.mem_range] at hj
  split at hx
  · rename_i c
    simp at hx
    exact ⟨j, hj, hx, c⟩
  · simp at hx
theorem selN_is {k : Int} (hk : k = 1 ∨ k = 2) {O : List Bool} (hO : O.length = 5) {i : Nat} {x : Inc} (h : x ∈ selN k O i) : isInc x = true ∧ 0 ≤ x.osd := by
  obtain ⟨j, hj, rfl, hb⟩ := selN_mem h
  have := (List.getElem?_eq_some_iff.1 hb).1
  refine ⟨?_, by show (0 : Int) ≤ (j : Int); omega⟩
  unfold isInc kd
  rcases hk with rfl | rfl <;> simp <;> omega
theorem sel2_len (O : List Bool) (i : Nat) : (selN 2 O 5 ++ selN 1 O i).length ≤ 5 + i := by
  rw [List.length_append]
  have := selN_len 2 O 5
  have := selN_len 1 O i
  omega
theorem sel2_good {O : List Bool} (hO : O.length = 5) {i : Nat} (hi : i ≤ 5) : goodI (selN 2 O 5 ++ selN 1 O i) := by
  refine ⟨by have := sel2_len O i; omega, fun x hx => ?_⟩
  rcases List.mem_append.1 hx with hx | hx
  · exact selN_is (.inr rfl) hO hx
  · exact selN_is (.inl rfl) hO hx
theorem sel1_good {O : List Bool} (hO : O.length = 5) {i : Nat} (hi : i ≤ 5) : goodI (selN 2 O i) := ⟨by have := selN_len 2 O i; omega, fun x hx => selN_is (.inr rfl) hO hx⟩
theorem back_osds (O : List Bool) (hO : O.length = 5) : (mapAt (selN 2 O 5 ++ selN 1 O 5)).osds = firstM.osds := by
  match O, hO with
  | [a, b, c, d, e], _ => cases a <;> cases b <;> cases c <;> cases d <;> cases e <;> rfl
theorem back_act (O : List Bool) (hO : O.length = 5) (g : Int) (hg : 0 ≤ g ∧ g < 4) : (lastI (ivL (selN 2 O 5 ++ selN 1 O 5) g)).acting.length = 3 := by
  have hG := sel2_good hO (Nat.le_refl 5)
  rw [last_acting hG g hg, actI_congr (k := firstM) (back_osds O hO) (by rw [mapAt_is hG]; decide) g]
  obtain rfl | rfl | rfl | rfl : g = 0 ∨ g = 1 ∨ g = 2 ∨ g = 3 := by omega
  all_goals decide +kernel
theorem lacks_two {l : List Inc} {g : Int} {A : List Int} {st : Int} {x : Itv} (h : x ∈ lacksL l g A st) : 2 ≤ x.acting.length ∧ st ≤ x.since := by
  unfold lacksL at h
  have := (List.mem_filter.1 h).2
  unfold missB at this
  simp at this
  omega
end Go.Proofs.Ytmiionadkdfbdaa
