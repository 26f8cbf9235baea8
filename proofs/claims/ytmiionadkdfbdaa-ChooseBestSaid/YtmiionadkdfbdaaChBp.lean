/- What the laws of choices know. / The best of states (plain): nobody counts more; the order plays no part. -/
import Derived.Test.YtmiionadkdfbdaaChD
set_option linter.all false
namespace Go.Proofs.Ytmiionadkdfbdaa
open Pv Go Pk
set_option maxRecDepth 10000
set_option maxHeartbeats 4000000
def stA (n : Int) : List AV := upd State.zeroA 0 [.d (.i .u32 n)]
def stS (n : Int) : State := { State.zero with started := n }
theorem stA_eq (n : Int) : upd State.zeroA 0 [.d (.i .u32 n)] = stA n := rfl
theorem stA_mk (n : Int) : allD (stA n) = none := rfl
theorem stA_toDs (n : Int) (H : Heap) : toDs H (stA n) = some ((stS n).cs, H) := rfl
theorem stA_isD (n : Int) : (stA n).all isD0 = true := rfl
theorem stA_len (n : Int) : (stA n).length = 49 := rfl
theorem bsl_zero : bslD [.agg State.zeroA, .agg State.zeroA] = some [.agg State.zero.cs, .agg State.zero.cs] := rfl
theorem bsl_st (m n : Int) : bslD [.agg (stA m), .agg (stA n)] = some [.agg (stS m).cs, .agg (stS n).cs] := rfl
theorem known9_at : evF C F_paddocklaw9_known [] [] = some (.d (.b true), []) := by
  obtain ⟨p, hP⟩ : ∃ p, ([] : Heap).length = p := ⟨_, rfl⟩
  obtain ⟨n, hn⟩ : ∃ n, p + 12 = n := ⟨_, rfl⟩
  have hPp : plain [] := fun _ => rfl
  have hnew := h_new hP
  have hl := hh_len hP hn
  have ha := hh_at hP hn
  have ha0 := hh_at0 hP hn
  have hs := hh_set hP hn
  have hs0 := hh_set0 hP hn
  have ht := hh_take hP hn
  have ht0 := hh_take0 hP hn
  have hac : (lastI (ivL [] 0)).acting = [4, 3, 2] := by decide +kernel
  have C0 := @h_acting _ _ hP hPp [] good_nil _ grb0_pl [] (fun _ => rfl) 0 (by decide)
  rw [hac] at C0
  have B1 : evF C F_choose_Best [.d (.sl [.i .i64 3, .i .i64 1]), .d (.sl [.agg State.zero.cs, .agg State.zero.cs])] [] = some (.d (.i .i64 1), []) := cbest_at [3, 1] [State.zero, State.zero] (by decide) (by decide)
  have B0 : evF C F_choose_Best [.d (.sl []), .d (.sl [])] [] = some (.d (.i .i64 (-1)), []) := cbest_at [] [] (by decide) (by decide)
  have ST : evF C F_choose_Started [.d (.sl [.agg (stS 4).cs, .agg (stS 2).cs])] [] = some (.d (.i .u32 4), []) := cstarted_at [stS 4, stS 2] (by decide)
  have q1 := Grb.frz_pl grb0_pl 0
  have q2 := Grb.frz_pl q1 0
  have X1 : plain [.arr [.i .i64 3, .i .i64 1] false, .arr [.agg State.zero.cs, .agg State.zero.cs] false] := fun _ => rfl
  have E1 := enough_at hP hn hPp good_nil grb0_pl X1 rfl 0 (by decide) (hv := .d (.sl [.i .i64 4, .i .i64 3, .i .i64 2])) (A := [4, 3, 2]) (.inl rfl) (by decide) 0
  have E2 := enough_at hP hn hPp good_nil q1 X1 rfl 0 (by decide) (hv := .d (.sl [.i .i64 3, .i .i64 2])) (A := [3, 2]) (.inl rfl) (by decide) 0
  rw [show enoughB [] 0 [4, 3, 2] 0 = true by decide +kernel] at E1
  rw [show enoughB [] 0 [3, 2] 0 = false by decide +kernel] at E2
  have SV := serves_at hP hn hPp good_nil q2 X1 rfl 0 (by decide)
  rw [hac] at SV
  obtain ⟨r, hr, Z, fe, hfe, hZ, rfl⟩ := lacks_at hP hn hPp good_nil q2 X1 (m := n + 2) rfl 0 (by decide) (hv := .nilS) (A := []) (.inr ⟨rfl, rfl⟩) (by decide) 0
  have hlk : (lacksL [] 0 [] 0).length = 0 := by decide +kernel
  rw [hlk, hrh] at hr
  have hlt := isEar_lt hfe
  have n5 : (n ≤ n + 2) = True := eq_true (by omega)
  have hns : ∀ x y : DV, subL [x, y] 0 2 = [x, y] := fun _ _ => rfl
  rw [evF_code (rfl : C F_paddocklaw9_known = some a_paddocklaw9_known) _ _ rfl]
  simp (config := {decide := true}) only [c_paddocklaw9_known, hnew, C0, B1, B0, ST, E1, E2, SV, hr, hns, n5, stA_eq, stA_mk, stA_len, stA_toDs, stA_isD, bsl_zero, bsl_st, hl, ha, ha0, hs, hs0, ht, ht0, hh_push, Nat.zero_le, Nat.le_refl, List.take_zero, plain_nil, plain_arr, plain_box, Pk.EVL, keepT, enum, ↓reduceIte, ev, act, appT, appW, callee, toDs, toD, loadA, storeA, subA, subD, updA, Eff.on, resA, resVs, resV, lk, finish, frzR, frzVs, frzV, fznR, fzns, fzn, lts, lt, ltO, List.all, pairsOk, indep, reduceCtorEq, Nat.reduceEqDiff, Nat.reduceAdd, Nat.reduceLeDiff, stb, thaws, List.drop, intOfA, binD, binI, unD, mmL, buildA, mkAgg, allD, bslD, behind, behind0, takeAt, frzAs, frzA, adoptR, adopt, isD, isD0, trim, List.take, binS, sliceA, bnd, zOk, elems, Nat.reduceBNe, inpl, Nat.reduceLT, Nat.reduceBEq, Nat.reduceSub, Nat.reduceMul, Int.reduceLT, Int.reduceLE, Int.reduceEq, Int.reduceToNat, Int.reduceNeg, thaw, nodup, refsV, adopts, Pk.TY_State]

end Go.Proofs.Ytmiionadkdfbdaa

namespace Go.Proofs.Ytmiionadkdfbdaa
open Pv Go Pk
set_option maxRecDepth 10000
set_option maxHeartbeats 2000000
theorem beats_iff (c d : Cand) : beats c d = true ↔ (c.started > d.started ∨ (c.started = d.started ∧ (c.since > d.since ∨ (c.since = d.since ∧ (c.n > d.n ∨ (c.n = d.n ∧ c.osd < d.osd)))))) := by
  unfold beats
  by_cases h1 : c.started = d.started <;> by_cases h2 : c.since = d.since <;> by_cases h3 : c.n = d.n <;> simp [h1, h2, h3] <;> omega
theorem beats_not {c d : Cand} : beats c d = false ↔ ¬ beats c d = true := by simp
theorem best_top (L : List State) : ∀ os : List Int, os.length = L.length → (L = [] ∧ (bestFold os L).1 = -1) ∨ ∃ (b : Nat) (o : Int) (s : State), (bestFold os L).1 = (b : Int) ∧ os[b]? = some o ∧ L[b]? = some s ∧ (bestFold os L).2 = candOf o s ∧
    ∀ (i : Nat) (o' : Int) (s' : State), os[i]? = some o' → L[i]? = some s' → beats (candOf o' s') (candOf o s) = false := by
  refine list_snoc_ind (M := fun L => ∀ os : List Int, os.length = L.length → (L = [] ∧ (bestFold os L).1 = -1) ∨ ∃ (b : Nat) (o : Int) (s : State), (bestFold os L).1 = (b : Int) ∧ os[b]? = some o ∧ L[b]? = some s ∧ (bestFold os L).2 = candOf o s ∧
    ∀ (i : Nat) (o' : Int) (s' : State), os[i]? = some o' → L[i]? = some s' → beats (candOf o' s') (candOf o s) = false) ?_ ?_ L
  · intro os h
    have : os = [] := List.eq_nil_of_length_eq_zero h
    subst this
    exact .inl ⟨rfl, rfl⟩
  · intro L s ih os h
    obtain ⟨o, os', rfl⟩ : ∃ o os', os = os' ++ [o] := by
      have hne : os ≠ [] := by intro hh; rw [hh] at h; simp at h
      exact ⟨os.getLast hne, os.dropLast, (List.dropLast_concat_getLast hne).symm⟩
    have hl : os'.length = L.length := by simp at h; exact h
    rw [bestFold_snoc _ _ _ _ hl]
    refine .inr ?_
    have hlast : ∀ (i : Nat) (o' : Int) (s' : State), (os' ++ [o])[i]? = some o' → (L ++ [s])[i]? = some s' → (os'[i]? = some o' ∧ L[i]? = some s') ∨ (o' = o ∧ s' = s) := by
      intro i o' s' h1 h2
      by_cases c : i < L.length
      · rw [List.getElem?_append_left (by omega)] at h1
        rw [List.getElem?_append_left c] at h2
        exact .inl ⟨h1, h2⟩
      · rw [List.getElem?_append_right (by omega)] at h1
        rw [List.getElem?_append_right (by omega)] at h2
        have hi := (List.getElem?_eq_some_iff.1 h2).1
        simp at hi
        have : i - L.length = 0 := by omega
        rw [hl, this] at h1
        rw [this] at h2
        simp at h1 h2
        exact .inr ⟨h1.symm, h2.symm⟩
    have hnew : (os' ++ [o])[L.length]? = some o ∧ (L ++ [s])[L.length]? = some s := by
      constructor
      · rw [← hl, List.getElem?_append_right (Nat.le_refl _), Nat.sub_self]; rfl
      · rw [List.getElem?_append_right (Nat.le_refl _), Nat.sub_self]; rfl
    have hself : beats (candOf o s) (candOf o s) = false := by rw [beats_not, beats_iff]; omega
    rcases ih os' hl with ⟨rfl, hf⟩ | ⟨b, o1, s1, hb, ho, hs, htop, hmax⟩
    · rw [if_pos (by rw [hf]; rfl)]
      refine ⟨0, o, s, rfl, hnew.1, hnew.2, rfl, ?_⟩
      intro i o' s' h1 h2
      rcases hlast i o' s' h1 h2 with ⟨_, h⟩ | ⟨rfl, rfl⟩
      · simp at h
      · exact hself
    · by_cases c : beats (candOf o s) (bestFold os' L).2 = true
      · rw [if_pos (by rw [c, Bool.or_true])]
        refine ⟨L.length, o, s, rfl, hnew.1, hnew.2, rfl, ?_⟩
        intro i o' s' h1 h2
        rcases hlast i o' s' h1 h2 with ⟨h1, h2⟩ | ⟨rfl, rfl⟩
        · have hm := hmax i o' s' h1 h2
          rw [htop, beats_iff] at c
          rw [beats_not, beats_iff] at hm ⊢
          omega
        · exact hself
      · rw [if_neg (by rw [hb]; simp [c])]
        refine ⟨b, o1, s1, hb, ?_, ?_, htop, ?_⟩
        · rw [List.getElem?_append_left (List.getElem?_eq_some_iff.1 ho).1]; exact ho
        · rw [List.getElem?_append_left (List.getElem?_eq_some_iff.1 hs).1]; exact hs
        · intro i o' s' h1 h2
          rcases hlast i o' s' h1 h2 with ⟨h1, h2⟩ | ⟨rfl, rfl⟩
          · exact hmax i o' s' h1 h2
          · rw [htop] at c
            exact eq_false_of_ne_true c
def rowN (n : Nat) : List Int := (List.range n).map fun i : Nat => (i : Int)
def turnN (n t k : Nat) : List Int := (List.range k).map fun i : Nat => (((i + t) % n : Nat) : Int)
def turnS (L : List State) (t k : Nat) : List State := (List.range k).map fun i : Nat => L.getD ((i + t) % L.length) State.zero
theorem rowN_succ (n : Nat) : rowN (n + 1) = rowN n ++ [(n : Int)] := by unfold rowN; rw [List.range_succ, List.map_append]; rfl
theorem turnN_succ (n t k : Nat) : turnN n t (k + 1) = turnN n t k ++ [(((k + t) % n : Nat) : Int)] := by unfold turnN; rw [List.range_succ, List.map_append]; rfl
theorem turnS_succ (L : List State) (t k : Nat) : turnS L t (k + 1) = turnS L t k ++ [L.getD ((k + t) % L.length) State.zero] := by unfold turnS; rw [List.range_succ, List.map_append]; rfl
theorem rowN_len (n : Nat) : (rowN n).length = n := by unfold rowN; rw [List.length_map, List.length_range]
theorem turnN_len (n t k : Nat) : (turnN n t k).length = k := by unfold turnN; rw [List.length_map, List.length_range]
theorem turnS_len (L : List State) (t k : Nat) : (turnS L t k).length = k := by unfold turnS; rw [List.length_map, List.length_range]
theorem rowN_at {n i : Nat} (h : i < n) : (rowN n)[i]? = some (i : Int) := by unfold rowN; rw [List.getElem?_map, List.getElem?_range h]; rfl
theorem turnN_at {n t k i : Nat} (h : i < k) : (turnN n t k)[i]? = some (((i + t) % n : Nat) : Int) := by unfold turnN; rw [List.getElem?_map, List.getElem?_range h]; rfl
theorem turnS_at {L : List State} {t k i : Nat} (h : i < k) : (turnS L t k)[i]? = some (L.getD ((i + t) % L.length) State.zero) := by unfold turnS; rw [List.getElem?_map, List.getElem?_range h]; rfl
theorem getD_at {L : List State} {i : Nat} (h : i < L.length) : L[i]? = some (L.getD i State.zero) := by rw [List.getD_eq_getElem?_getD, List.getElem?_eq_getElem h]; rfl
/-- Neither a later start nor more of the same start. -/
def noMore (s b : State) : Prop := s.started ≤ b.started ∧ (s.started = b.started → (headS s).1 ≤ (headS b).1 ∧ ((headS s).1 = (headS b).1 → (headS s).2 ≤ (headS b).2))
theorem best_turn (L : List State) (h0 : 0 < L.length) (t : Nat) : ∃ (b c : Nat) (sb : State), (bestFold (rowN L.length) L).1 = (b : Int) ∧ (bestFold (turnN L.length t L.length) (turnS L t L.length)).1 = (c : Int) ∧ (turnN L.length t L.length)[c]? = some (b : Int) ∧
    L[b]? = some sb ∧ ∀ (i : Nat) (s : State), L[i]? = some s → noMore s sb := by
  rcases best_top L (rowN L.length) (rowN_len _) with ⟨h, _⟩ | ⟨b, o, sb, hb, ho, hs, _, hmax⟩
  · rw [h] at h0; simp at h0
  rcases best_top (turnS L t L.length) (turnN L.length t L.length) (by rw [turnN_len, turnS_len]) with ⟨h, _⟩ | ⟨c, o2, s2, hc, ho2, hs2, _, hmax2⟩
  · have := turnS_len L t L.length; rw [h] at this; simp at this; omega
  have hbl := (List.getElem?_eq_some_iff.1 hs).1
  have hcl := (List.getElem?_eq_some_iff.1 ho2).1
  rw [turnN_len] at hcl
  rw [rowN_at hbl] at ho
  have hkl : (c + t) % L.length < L.length := Nat.mod_lt _ h0
  have ho2' := ho2
  rw [turnN_at hcl] at ho2
  rw [turnS_at hcl] at hs2
  have e1 : o = (b : Int) := (Option.some.inj ho).symm
  have e2 : o2 = (((c + t) % L.length : Nat) : Int) := (Option.some.inj ho2).symm
  have e3 : L[(c + t) % L.length]? = some s2 := by rw [getD_at hkl]; exact hs2
  have hj : ((b + L.length - t % L.length) % L.length + t) % L.length = b := by
    have hd := Nat.div_add_mod t L.length
    have hm : t % L.length < L.length := Nat.mod_lt _ h0
    rw [Nat.mod_add_mod, show b + L.length - t % L.length + t = b + L.length * (t / L.length) + L.length by omega, Nat.add_mod_right, Nat.add_mul_mod_self_left]
    exact Nat.mod_eq_of_lt hbl
  have hjl : (b + L.length - t % L.length) % L.length < L.length := Nat.mod_lt _ h0
  have m1 := hmax _ _ _ (rowN_at hkl) e3
  have m2 := hmax2 _ _ _ (turnN_at hjl) (turnS_at hjl)
  rw [hj] at m2
  have hsb : L.getD b State.zero = sb := by have := getD_at hbl; rw [hs] at this; exact (Option.some.inj this).symm
  rw [hsb] at m2
  have hosd : o2 = (b : Int) := by
    rw [e1, ← e2, beats_not, beats_iff] at m1
    rw [beats_not, beats_iff] at m2
    simp only [candOf] at m1 m2
    omega
  refine ⟨b, c, sb, hb, hc, by rw [ho2', hosd], hs, ?_⟩
  intro i s hi
  have m := hmax i _ s (rowN_at (List.getElem?_eq_some_iff.1 hi).1) hi
  rw [beats_not, beats_iff] at m
  simp only [candOf] at m
  unfold noMore
  omega
end Go.Proofs.Ytmiionadkdfbdaa
