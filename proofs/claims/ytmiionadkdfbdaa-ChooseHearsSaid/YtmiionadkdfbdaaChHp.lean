/- What the laws of choices know. / Intervals and who acts (plain): epochs go up; who acts is one each. / Daemons that go down and come back (plain). / Whoever hears all lacks nothing; daemons taken out of an interval end it (plain). -/
import Derived.Test.YtmiionadkdfbdaaChD
import Derived.Test.YtmiionadkdfbdaaChC
set_option linter.all false
namespace Go.Proofs.Ytmiionadkdfbdaa
open Pv Go Pk
set_option maxRecDepth 10000
set_option maxHeartbeats 4000000
def stA (n : Int) : List AV := upd State.zeroA 0 [.d (.i .u32 n)]
def stS (n : Int) : State := { State.zero with started := n }
theorem stA_eq (n : Int) : upd State.zeroA 0 [.d (.i .u32 n)] = stA n := rfl
theorem stA_mk (n : Int) : allD (stA n) = none := rfl
theorem stA_toDs (n : Int) (H : Heap) : toDs H (stA n) = some ((stS n).cs, H) := rfl
theorem stA_isD (n : Int) : (stA n).all isD0 = true := rfl
theorem stA_len (n : Int) : (stA n).length = 49 := rfl
theorem bsl_zero : bslD [.agg State.zeroA, .agg State.zeroA] = some [.agg State.zero.cs, .agg State.zero.cs] := rfl
theorem bsl_st (m n : Int) : bslD [.agg (stA m), .agg (stA n)] = some [.agg (stS m).cs, .agg (stS n).cs] := rfl
theorem known9_at : evF C F_paddocklaw9_known [] [] = some (.d (.b true), []) := by
  obtain ⟨p, hP⟩ : ∃ p, ([] : Heap).length = p := ⟨_, rfl⟩
  obtain ⟨n, hn⟩ : ∃ n, p + 12 = n := ⟨_, rfl⟩
  have hPp : plain [] := fun _ => rfl
  have hnew := h_new hP
  have hl := hh_len hP hn
  have ha := hh_at hP hn
  have ha0 := hh_at0 hP hn
  have hs := hh_set hP hn
  have hs0 := hh_set0 hP hn
  have ht := hh_take hP hn
  have ht0 := hh_take0 hP hn
  have hac : (lastI (ivL [] 0)).acting = [4, 3, 2] := by decide +kernel
  have C0 := @h_acting _ _ hP hPp [] good_nil _ grb0_pl [] (fun _ => rfl) 0 (by decide)
  rw [hac] at C0
  have B1 : evF C F_choose_Best [.d (.sl [.i .i64 3, .i .i64 1]), .d (.sl [.agg State.zero.cs, .agg State.zero.cs])] [] = some (.d (.i .i64 1), []) := cbest_at [3, 1] [State.zero, State.zero] (by decide) (by decide)
  have B0 : evF C F_choose_Best [.d (.sl []), .d (.sl [])] [] = some (.d (.i .i64 (-1)), []) := cbest_at [] [] (by decide) (by decide)
  have ST : evF C F_choose_Started [.d (.sl [.agg (stS 4).cs, .agg (stS 2).cs])] [] = some (.d (.i .u32 4), []) := cstarted_at [stS 4, stS 2] (by decide)
  have q1 := Grb.frz_pl grb0_pl 0
  have q2 := Grb.frz_pl q1 0
  have X1 : plain [.arr [.i .i64 3, .i .i64 1] false, .arr [.agg State.zero.cs, .agg State.zero.cs] false] := fun _ => rfl
  have E1 := enough_at hP hn hPp good_nil grb0_pl X1 rfl 0 (by decide) (hv := .d (.sl [.i .i64 4, .i .i64 3, .i .i64 2])) (A := [4, 3, 2]) (.inl rfl) (by decide) 0
  have E2 := enough_at hP hn hPp good_nil q1 X1 rfl 0 (by decide) (hv := .d (.sl [.i .i64 3, .i .i64 2])) (A := [3, 2]) (.inl rfl) (by decide) 0
  rw [show enoughB [] 0 [4, 3, 2] 0 = true by decide +kernel] at E1
  rw [show enoughB [] 0 [3, 2] 0 = false by decide +kernel] at E2
  have SV := serves_at hP hn hPp good_nil q2 X1 rfl 0 (by decide)
  rw [hac] at SV
  obtain ⟨r, hr, Z, fe, hfe, hZ, rfl⟩ := lacks_at hP hn hPp good_nil q2 X1 (m := n + 2) rfl 0 (by decide) (hv := .nilS) (A := []) (.inr ⟨rfl, rfl⟩) (by decide) 0
  have hlk : (lacksL [] 0 [] 0).length = 0 := by decide +kernel
  rw [hlk, hrh] at hr
  have hlt := isEar_lt hfe
  have n5 : (n ≤ n + 2) = True := eq_true (by omega)
  have hns : ∀ x y : DV, subL [x, y] 0 2 = [x, y] := fun _ _ => rfl
  rw [evF_code (rfl : C F_paddocklaw9_known = some a_paddocklaw9_known) _ _ rfl]
  simp (config := {decide := true}) only [c_paddocklaw9_known, hnew, C0, B1, B0, ST, E1, E2, SV, hr, hns, n5, stA_eq, stA_mk, stA_len, stA_toDs, stA_isD, bsl_zero, bsl_st, hl, ha, ha0, hs, hs0, ht, ht0, hh_push, Nat.zero_le, Nat.le_refl, List.take_zero, plain_nil, plain_arr, plain_box, Pk.EVL, keepT, enum, ↓reduceIte, ev, act, appT, appW, callee, toDs, toD, loadA, storeA, subA, subD, updA, Eff.on, resA, resVs, resV, lk, finish, frzR, frzVs, frzV, fznR, fzns, fzn, lts, lt, ltO, List.all, pairsOk, indep, reduceCtorEq, Nat.reduceEqDiff, Nat.reduceAdd, Nat.reduceLeDiff, stb, thaws, List.drop, intOfA, binD, binI, unD, mmL, buildA, mkAgg, allD, bslD, behind, behind0, takeAt, frzAs, frzA, adoptR, adopt, isD, isD0, trim, List.take, binS, sliceA, bnd, zOk, elems, Nat.reduceBNe, inpl, Nat.reduceLT, Nat.reduceBEq, Nat.reduceSub, Nat.reduceMul, Int.reduceLT, Int.reduceLE, Int.reduceEq, Int.reduceToNat, Int.reduceNeg, thaw, nodup, refsV, adopts, Pk.TY_State]

end Go.Proofs.Ytmiionadkdfbdaa

namespace Go.Proofs.Ytmiionadkdfbdaa
open Pv Go Pk
set_option maxRecDepth 10000
set_option maxHeartbeats 2000000
theorem actI_mem (m : Mp) (g : Int) : ∀ x ∈ actI m g, 0 ≤ x ∧ x < 5 := by
  intro x hx
  unfold actI actP at hx
  obtain ⟨y, hy, rfl⟩ := List.mem_map.1 hx
  have := pickP_mem _ _ _ y (List.mem_filter.1 hy).1
  omega
end Go.Proofs.Ytmiionadkdfbdaa

namespace Go.Proofs.Ytmiionadkdfbdaa
open Pv Go Pk
set_option maxRecDepth 10000
set_option maxHeartbeats 4000000
def kd (k o : Int) : Inc := ⟨k, o, 0⟩
/-- An increment of a kind for each daemon that is marked. -/
def selN (k : Int) (O : List Bool) (i : Nat) : List Inc := (List.range i).flatMap fun j : Nat => if O[j]? = some true then [kd k (j : Int)] else []
theorem lacks_two {l : List Inc} {g : Int} {A : List Int} {st : Int} {x : Itv} (h : x ∈ lacksL l g A st) : 2 ≤ x.acting.length ∧ st ≤ x.since := by
  unfold lacksL at h
  have := (List.mem_filter.1 h).2
  unfold missB at this
  simp at this
  omega
end Go.Proofs.Ytmiionadkdfbdaa

namespace Go.Proofs.Ytmiionadkdfbdaa
open Pv Go Pk
set_option maxRecDepth 10000
set_option maxHeartbeats 4000000
theorem ivL_in5 (l : List Inc) (g : Int) (hg : 0 ≤ g ∧ g < 4) : ∀ x ∈ ivL l g, ∀ y ∈ x.acting, 0 ≤ y ∧ y < 5 := by
  refine list_snoc_ind (M := fun l => ∀ x ∈ ivL l g, ∀ y ∈ x.acting, 0 ≤ y ∧ y < 5) ?_ ?_ l
  · rw [ivL_nil g hg]
    intro x hx
    simp at hx
    subst hx
    exact actI_mem firstM g
  · intro l z ih
    rw [ivL_snoc _ _ _ hg]
    unfold ivAdd
    split
    · exact ih
    · intro x hx
      rcases List.mem_append.1 hx with hx | hx
      · exact ih x hx
      · simp at hx
        subst hx
        exact actI_mem _ g
theorem lacks_all (l : List Inc) (g : Int) (hg : 0 ≤ g ∧ g < 4) (st : Int) : lacksL l g [0, 1, 2, 3, 4] st = [] := by
  unfold lacksL
  rw [List.filter_eq_nil_iff]
  intro x hx
  have h5 := ivL_in5 l g hg x (List.mem_of_mem_take hx)
  unfold missB
  cases ha : x.acting with
  | nil => simp
  | cons y r =>
    have := h5 y (by rw [ha]; simp)
    have hy : y ∈ [(0 : Int), 1, 2, 3, 4] := by
      obtain rfl | rfl | rfl | rfl | rfl : y = 0 ∨ y = 1 ∨ y = 2 ∨ y = 3 ∨ y = 4 := by omega
      all_goals simp
    have hany : (y :: r).any (fun z => decide (z ∈ [(0 : Int), 1, 2, 3, 4])) = true := by
      rw [List.any_cons, decide_eq_true hy]; rfl
    simp only [hany]
    simp
def wg0 (o : Int) : Inc := ⟨3, o, 0⟩
theorem wt_fold (o : Int) : Inc.cs ⟨3, o, 0⟩ = (wg0 o).cs := rfl
theorem act_len (g : Int) (hg : 0 ≤ g ∧ g < 4) : (actI firstM g).length = 3 := by
  obtain rfl | rfl | rfl | rfl : g = 0 ∨ g = 1 ∨ g = 2 ∨ g = 3 := by omega
  all_goals decide +kernel
theorem act_out (g : Int) (hg : 0 ≤ g ∧ g < 4) : ∀ x ∈ actI firstM g, actI (mapAt [wg0 x]) g ≠ actI firstM g := by
  obtain rfl | rfl | rfl | rfl : g = 0 ∨ g = 1 ∨ g = 2 ∨ g = 3 := by omega
  all_goals decide +kernel
theorem iv_two (g : Int) (hg : 0 ≤ g ∧ g < 4) (x y : Int) (hx : x ∈ actI firstM g) : 2 ≤ (ivL [wg0 x, wg0 y] g).length := by
  have h1 : ivL [wg0 x] g = [⟨1, actI firstM g⟩, ⟨2, actI (mapAt [wg0 x]) g⟩] := by
    have := ivL_snoc [] (wg0 x) g hg
    rw [ivL_nil g hg] at this
    refine this.trans ?_
    unfold ivAdd
    rw [if_neg]
    · rfl
    · simp
      exact fun h => act_out g hg x hx h.symm
  have h2 := ivL_snoc [wg0 x] (wg0 y) g hg
  show 2 ≤ (ivL ([wg0 x] ++ [wg0 y]) g).length
  rw [h2, h1]
  unfold ivAdd
  split <;> simp
/-- The daemons that are not in a row, of the first i. -/
def othL (F : List Int) (i : Nat) : List Int := (List.range i).flatMap fun j : Nat => if F.any (fun z => z == (j : Int)) = true then [] else [(j : Int)]
theorem othL_step (F : List Int) (i : Nat) : othL F (i + 1) = othL F i ++ if F.any (fun z => z == (i : Int)) = true then [] else [(i : Int)] := by
  unfold othL
  rw [List.range_succ, List.flatMap_append]
  simp
theorem othL_len (F : List Int) : ∀ i, (othL F i).length ≤ i
  | 0 => Nat.le_refl _
  | i + 1 => by
    have := othL_len F i
    rw [othL_step, List.length_append]
    split
    · show _ + 0 ≤ _; omega
    · show _ + 1 ≤ _; omega
theorem othL_not {F : List Int} {i : Nat} {x : Int} (h : x ∈ othL F i) : x ∉ F := by
  unfold othL at h
  obtain ⟨j, _, hx⟩ := List.mem_flatMap.1 h
  split at hx
  · simp at hx
  · rename_i c
    simp at hx
    subst hx
    intro hm
    exact c (List.any_eq_true.2 ⟨_, hm, by simp⟩)
theorem lacks_first (g : Int) (hg : 0 ≤ g ∧ g < 4) (x y : Int) (hx : x ∈ actI firstM g) (s : Int) (hs : s ≤ 1) : 0 < (lacksL [wg0 x, wg0 y] g (othL (actI firstM g) 5) s).length := by
  have h2 := iv_two g hg x y hx
  have hf := ivL_first [wg0 x, wg0 y] g hg
  refine List.length_pos_of_mem (a := ⟨1, actI firstM g⟩) ?_
  unfold lacksL
  rw [List.mem_filter]
  constructor
  · refine List.mem_of_getElem? (i := 0) ?_
    rw [List.getElem?_take_of_lt (by omega)]
    exact hf
  · have hl := act_len g hg
    have hno : (actI firstM g).any (fun z => decide (z ∈ othL (actI firstM g) 5)) = false := by
      rw [List.any_eq_false]
      intro z hz
      simp only [decide_eq_true_eq]
      exact fun h => othL_not h hz
    unfold missB
    simp only [hno]
    simp [hl]
    omega
end Go.Proofs.Ytmiionadkdfbdaa
