/- StrawBest, StrawWeighs and StrawDraws answer true. -/
import Derived.Test.YtpbcjmgjdiiafaaStrawRest
import Derived.Test.YtpbcjmgjdiiafaaPvArgs
set_option linter.all false
namespace Go.Proofs.Ytpbcjmgjdiiafaa
open Pv Go
set_option maxRecDepth 10000
theorem wt_wt (a : Int) : wt (wt a : Int) = wt a := by
  have := (wt_ok a).2
  generalize wt a = v at this
  unfold wt mmI; simp; split <;> split <;> omega
theorem SV_mono (h : Nat) {a b : Int} (hab : a ≤ b) : SV h a ≤ SV h b := by
  have h1 : wt a ≤ wt b := by
    have ea := (wt_ok a).1
    have eb := (wt_ok b).1
    have la := (wt_ok a).2
    have lb := (wt_ok b).2
    generalize wt a = p at ea la ⊢
    generalize wt b = q at eb lb ⊢
    simp only [mmI, if_true, if_false, Bool.false_eq_true] at ea eb
    (repeat' split at ea) <;> (repeat' split at eb) <;> omega
  have h2 := (wt_ok a).2
  unfold SV
  have := Nat.div_le_div_left (a := (1048576 - LV (h % 65536 + 1)) * 4096) h1 (by omega)
  omega
theorem weighs_at (h a b : Int) (hh : 0 ≤ h ∧ h < 4294967296) : evF C 7 [.d (.i .u32 h), .d (.i .i64 a), .d (.i .i64 b)] [] = some (.d (.b true), []) := by
  rw [evF_code (rfl : C 7 = some a7) _ _ rfl]
  obtain ⟨h, rfl⟩ : ∃ n : Nat, h = n := ⟨h.toNat, by omega⟩
  have ha := wt_ok' a
  have hb := wt_ok' b
  have hsa : SV h (wt a : Int) = SV h a := by unfold SV; rw [wt_wt]
  have hsb : SV h (wt b : Int) = SV h b := by unfold SV; rw [wt_wt]
  have hr : Int.tmod (h : Int) 65536 = ((h % 65536 : Nat) : Int) := by rw [Int.tmod_eq_emod_of_nonneg (by omega)]; rfl
  have hsr : SV (h % 65536) 1 = SV h 1 := by unfold SV; rw [Nat.mod_mod]
  obtain ⟨hv1, hv2⟩ := HV_ok 3 1 2
  have hhash : evF C 17 [.d (.i .u32 3), .d (.i .u32 1), .d (.i .u32 2)] [] = some (.d (.i .u32 (HV 3 1 2 : Nat)), []) := by
    rw [← hv1]; exact hash_ok 3 1 2
  have hs2 := straw_at (HV 3 1 2) hv2
  have ba := SV_bound h a
  have bb := SV_bound h b
  have da : decide (SV h a ≤ 0) = true := decide_eq_true ba.2
  have db : decide (SV h b ≤ 0) = true := decide_eq_true bb.2
  by_cases hab : ((wt a : Int) > (wt b : Int))
  · have hd : decide ((wt a : Int) > (wt b : Int)) = true := decide_eq_true hab
    have m : decide (SV h b ≤ SV h a) = true := by
      refine decide_eq_true ?_
      have := SV_mono h (Int.le_of_lt hab)
      rw [hsa, hsb] at this
      exact this
    simp (config := {decide := true, maxSteps := 2000000}) only [c7, known_at, straw_at h (by omega), straw_at (h % 65536) (by omega), hhash, hs2, draw_at, ha, hb, hr, hsr, hsa, hsb, hd, m, da, db, evC_seq, evC_ret, evC_region, evC_skip, evC_exit, evC_scope, evC_cond, evC_block, condC_b, keepT, List.map_cons, List.map_nil, enum, evR_nil, evR_call, evR_guard, guardR_b, lk_cons, setT_some, setT_none, Option.bind_some, Option.bind_none, thenC_nrm, thenC_ret, thenC_exit, blockC_nrm, blockC_ret, blockC_exit, endR_nil, endR_cons, endF_ret, endF_nrm, List.length_cons, List.length_nil, if_true, if_false, reduceIte, ev, actR_some, act, callR_some, callR_none, calleeR_some, callee, toDs, toD, loadA, storeA, subA, subD, updA, Eff.on, resA, resVs, resV, lk, finish, fznR, fzns, fzn, trim, lts, lt, ltO, List.take, List.all, List.append_nil, List.nil_append, List.cons_append, DV.cells, AV.cells, pairsOk, indep, subL, upd, List.getElem?_cons_zero, List.getElem?_cons_succ, List.getElem?_nil, List.set_cons_zero, List.set_cons_succ, reduceCtorEq, Nat.reduceEqDiff, Nat.reduceAdd, Nat.reduceLeDiff, Nat.add_zero, Nat.zero_add, stb, and_true, true_and, and_self, againL_nrm, evC_loop, thaws, List.getD_cons_zero, List.getD_cons_succ, List.getD_nil, List.drop, intOfA, binD, binI, unD, mmL, Bool.and_true, Bool.true_and, decide_true, decide_false, buildA, mkAgg, allD, behind, adoptR, adopt, isD, beq_self_eq_true, evR_mv, evR_pick, evR_bin, evR_eq, evR_un, evR_conv, evR_convs, evR_box, evR_build, evR_bsl, evR_load, evR_store, evR_nilck, evR_slice, evR_faddr, evR_field, evR_iaddrA, evR_iaddrS, evR_idxA, evR_idxS, evR_mkfn, evR_ext, evR_len, evR_app, evR_mm, evR_mksl, evR_cpy, evR_clr, evR_b2s, evR_isnil]
  · have hd : decide ((wt a : Int) > (wt b : Int)) = false := decide_eq_false hab
    have m : decide (SV h a ≤ SV h b) = true := by
      refine decide_eq_true ?_
      have := SV_mono h (Int.not_lt.1 hab)
      rw [hsa, hsb] at this
      exact this
    simp (config := {decide := true, maxSteps := 2000000}) only [c7, known_at, straw_at h (by omega), straw_at (h % 65536) (by omega), hhash, hs2, draw_at, ha, hb, hr, hsr, hsa, hsb, hd, m, da, db, evC_seq, evC_ret, evC_region, evC_skip, evC_exit, evC_scope, evC_cond, evC_block, condC_b, keepT, List.map_cons, List.map_nil, enum, evR_nil, evR_call, evR_guard, guardR_b, lk_cons, setT_some, setT_none, Option.bind_some, Option.bind_none, thenC_nrm, thenC_ret, thenC_exit, blockC_nrm, blockC_ret, blockC_exit, endR_nil, endR_cons, endF_ret, endF_nrm, List.length_cons, List.length_nil, if_true, if_false, reduceIte, ev, actR_some, act, callR_some, callR_none, calleeR_some, callee, toDs, toD, loadA, storeA, subA, subD, updA, Eff.on, resA, resVs, resV, lk, finish, fznR, fzns, fzn, trim, lts, lt, ltO, List.take, List.all, List.append_nil, List.nil_append, List.cons_append, DV.cells, AV.cells, pairsOk, indep, subL, upd, List.getElem?_cons_zero, List.getElem?_cons_succ, List.getElem?_nil, List.set_cons_zero, List.set_cons_succ, reduceCtorEq, Nat.reduceEqDiff, Nat.reduceAdd, Nat.reduceLeDiff, Nat.add_zero, Nat.zero_add, stb, and_true, true_and, and_self, againL_nrm, evC_loop, thaws, List.getD_cons_zero, List.getD_cons_succ, List.getD_nil, List.drop, intOfA, binD, binI, unD, mmL, Bool.and_true, Bool.true_and, decide_true, decide_false, buildA, mkAgg, allD, behind, adoptR, adopt, isD, beq_self_eq_true, evR_mv, evR_pick, evR_bin, evR_eq, evR_un, evR_conv, evR_convs, evR_box, evR_build, evR_bsl, evR_load, evR_store, evR_nilck, evR_slice, evR_faddr, evR_field, evR_iaddrA, evR_iaddrS, evR_idxA, evR_idxS, evR_mkfn, evR_ext, evR_len, evR_app, evR_mm, evR_mksl, evR_cpy, evR_clr, evR_b2s, evR_isnil]

/-- What the best of a list is. -/
def isBest (l : List Int) (i : Nat) (b : Int) : Prop :=
  (i = 0 ∧ b = -1) ∨ (0 ≤ b ∧ b < i ∧ (∀ j : Nat, j < i → l.getD j 0 ≤ l.getD b.toNat 0) ∧ ∀ j : Nat, (j : Int) < b → l.getD j 0 < l.getD b.toNat 0)
theorem bestGo_spec (l : List Int) : ∀ (n i : Nat) (b : Int), isBest l i b → isBest l (i + n) (bestGo l n i b)
  | 0, i, b, h => h
  | n + 1, i, b, h => by
    simp only [bestGo]
    rw [show i + (n + 1) = (i + 1) + n by omega]
    apply bestGo_spec l n (i + 1)
    rcases h with ⟨rfl, rfl⟩ | ⟨h1, h2, h3, h4⟩
    · rw [if_pos (Or.inl (by omega))]
      exact Or.inr ⟨by omega, by omega, fun j hj => by rw [show j = 0 by omega]; simp, fun j hj => by omega⟩
    · by_cases hgt : l.getD i 0 > l.getD b.toNat 0
      · rw [if_pos (Or.inr hgt)]
        refine Or.inr ⟨by omega, by omega, fun j hj => ?_, fun j hj => ?_⟩
        · rw [Int.toNat_natCast]
          by_cases hji : j = i
          · rw [hji]; exact Int.le_refl _
          · have := h3 j (by omega); omega
        · rw [Int.toNat_natCast]
          have := h3 j (by omega); omega
      · rw [if_neg (fun h => h.elim (fun h => by omega) hgt)]
        refine Or.inr ⟨h1, by omega, fun j hj => ?_, h4⟩
        by_cases hji : j = i
        · rw [hji]; omega
        · exact h3 j (by omega)
theorem bestI_spec (l : List Int) : isBest l l.length (bestI l) := by
  have := bestGo_spec l l.length 0 (-1) (Or.inl ⟨rfl, rfl⟩)
  rw [Nat.zero_add] at this
  exact this

def loop4 : ACode := .seq (.seq (.region (some [0, 3, 4]) [⟨(some 25), .mv (.t 4), none⟩,
     ⟨(some 26), .mv (.t 0), none⟩,
     ⟨(some 27), .len false (.t 26), none⟩,
     ⟨(some 28), .bin .lss (.t 25) (.t 27), none⟩] [])
   (.cond (.t 28) (.skip) (.exit 0)))
   (.seq (.block 1 (.seq (.region (some [0, 3, 4]) [⟨(some 31), .mv (.t 0), none⟩,
      ⟨(some 32), .mv (.t 4), none⟩,
      ⟨(some 33), .iaddrS 1 (.t 31) (.t 32), none⟩,
      ⟨(some 34), .load false 1 (.t 33), none⟩,
      ⟨(some 35), .mv (.t 0), none⟩,
      ⟨(some 36), .mv (.t 3), none⟩,
      ⟨(some 37), .iaddrS 1 (.t 35) (.t 36), none⟩,
      ⟨(some 38), .load false 1 (.t 37), none⟩,
      ⟨(some 39), .bin .gtr (.t 34) (.t 38), none⟩,
      ⟨(some 40), .mv (.t 39), none⟩,
      ⟨(some 41), .mv (.t 4), some (40, false)⟩,
      ⟨(some 42), .mv (.t 3), some (40, false)⟩,
      ⟨(some 43), .bin .lss (.t 41) (.t 42), some (40, false)⟩,
      ⟨(some 44), .mv (.t 43), some (40, false)⟩,
      ⟨(some 45), .mv (.t 0), some (44, true)⟩,
      ⟨(some 46), .mv (.t 4), some (44, true)⟩,
      ⟨(some 47), .iaddrS 1 (.t 45) (.t 46), some (44, true)⟩,
      ⟨(some 48), .load false 1 (.t 47), some (44, true)⟩,
      ⟨(some 49), .mv (.t 0), some (44, true)⟩,
      ⟨(some 50), .mv (.t 3), some (44, true)⟩,
      ⟨(some 51), .iaddrS 1 (.t 49) (.t 50), some (44, true)⟩,
      ⟨(some 52), .load false 1 (.t 51), some (44, true)⟩,
      ⟨(some 53), .bin .eql (.t 48) (.t 52), some (44, true)⟩,
      ⟨(some 54), .pick (.t 44) (.t 53) (.c (.d (.b false))), some (40, false)⟩,
      ⟨(some 55), .pick (.t 40) (.c (.d (.b true))) (.t 54), none⟩] [(3, 7), (17, 21)])
    (.cond (.t 55) (.seq (.region (some []) [⟨(some 2), .mv (.c (.d (.b false))), none⟩] [])
     (.ret)) (.skip))))
   (.region (some [0, 3, 4]) [⟨(some 29), .mv (.t 4), none⟩,
     ⟨(some 30), .bin .add (.t 29) (.c (.d (.i .i64 1))), none⟩,
     ⟨(some 4), .mv (.t 30), none⟩] []))

theorem loop4_ok (l : List Int) (hlen : l.length ≤ 60) (c : Nat) (hc : c < l.length) (h1 : ∀ j : Nat, j < l.length → l.getD j 0 ≤ l.getD c 0) (h2 : ∀ j : Nat, j < c → l.getD j 0 < l.getD c 0) :
    ∀ (n i : Nat) (T : Tm), i + n = l.length → lk T 0 = .d (.sl (ints l)) → lk T 3 = .d (.i .i64 c) → lk T 4 = .d (.i .i64 i) →
    ∃ T', evL C (some [0, 3, 4]) loop4 0 T [] = some (.exit 0, T', []) ∧ lk T' 3 = .d (.i .i64 c)
  | 0, i, T, hi, k0, k3, k4 => by
    have hln : ((ints l).length : Int) = (l.length : Nat) := by simp [ints]
    have hd : decide ((i : Int) < (l.length : Nat)) = false := by simp; omega
    obtain ⟨g, hg⟩ : ∃ g, g = againL C (some [0, 3, 4]) loop4 0 := ⟨_, rfl⟩
    rw [evL_eq, ← hg]
    simp (config := {decide := true}) only [loop4, hln, hd, k0, k3, k4, evC_seq, evC_ret, evC_region, evC_skip, evC_exit, evC_scope, evC_cond, evC_block, condC_b, keepT, List.map_cons, List.map_nil, enum, evR_nil, evR_call, evR_guard, guardR_b, lk_cons, setT_some, setT_none, Option.bind_some, Option.bind_none, thenC_nrm, thenC_ret, thenC_exit, blockC_nrm, blockC_ret, blockC_exit, endR_nil, endR_cons, endF_ret, endF_nrm, List.length_cons, List.length_nil, if_true, if_false, reduceIte, ev, actR_some, act, callR_some, callR_none, calleeR_some, callee, toDs, toD, loadA, storeA, subA, subD, updA, Eff.on, resA, resVs, resV, lk, finish, fznR, fzns, fzn, trim, lts, lt, ltO, List.take, List.all, List.append_nil, List.nil_append, List.cons_append, DV.cells, AV.cells, pairsOk, indep, subL, upd, List.getElem?_cons_zero, List.getElem?_cons_succ, List.getElem?_nil, List.set_cons_zero, List.set_cons_succ, reduceCtorEq, Nat.reduceEqDiff, Nat.reduceAdd, Nat.reduceLeDiff, Nat.add_zero, Nat.zero_add, stb, and_true, true_and, and_self, againL_nrm, evC_loop, thaws, List.getD_cons_zero, List.getD_cons_succ, List.getD_nil, List.drop, intOfA, binD, binI, unD, mmL, Bool.and_true, Bool.true_and, decide_true, decide_false, buildA, mkAgg, allD, behind, adoptR, adopt, isD, beq_self_eq_true, evR_mv, evR_pick, evR_bin, evR_eq, evR_un, evR_conv, evR_convs, evR_box, evR_build, evR_bsl, evR_load, evR_store, evR_nilck, evR_slice, evR_faddr, evR_field, evR_iaddrA, evR_iaddrS, evR_idxA, evR_idxS, evR_mkfn, evR_ext, evR_len, evR_app, evR_mm, evR_mksl, evR_cpy, evR_clr, evR_b2s, evR_isnil]
    rw [hg]
    exact ⟨_, rfl, rfl⟩
  | n + 1, i, T, hi, k0, k3, k4 => by
    have hln : ((ints l).length : Int) = (l.length : Nat) := by simp [ints]
    have hd : decide ((i : Int) < (l.length : Nat)) = true := by simp; omega
    have hw : IntKind.i64.wrap ((i : Int) + 1) = ((i + 1 : Nat) : Int) := wi64 (by omega)
    have hp : (0 ≤ (i : Int)) = True := by simp
    have hp2 : (0 ≤ (c : Int)) = True := by simp
    have hx := ints_get l i (by omega)
    have hy := ints_get l c hc
    have hgt : decide (l.getD i 0 > l.getD c 0) = false := by
      have := h1 i (by omega)
      simp only [decide_eq_false_iff_not]; omega
    obtain ⟨g, hg⟩ : ∃ g, g = againL C (some [0, 3, 4]) loop4 0 := ⟨_, rfl⟩
    rw [evL_eq, ← hg]
    by_cases hic : i < c
    · have hd2 : decide ((i : Int) < (c : Int)) = true := by simp; omega
      have he : (l.getD i 0 == l.getD c 0) = false := by
        have := h2 i hic
        simp only [beq_eq_false_iff_ne]; omega
      simp (config := {decide := true}) only [loop4, hln, hd, hd2, he, hgt, hw, hp, hp2, hx, hy, k0, k3, k4, evC_seq, evC_ret, evC_region, evC_skip, evC_exit, evC_scope, evC_cond, evC_block, condC_b, keepT, List.map_cons, List.map_nil, enum, evR_nil, evR_call, evR_guard, guardR_b, lk_cons, setT_some, setT_none, Option.bind_some, Option.bind_none, thenC_nrm, thenC_ret, thenC_exit, blockC_nrm, blockC_ret, blockC_exit, endR_nil, endR_cons, endF_ret, endF_nrm, List.length_cons, List.length_nil, if_true, if_false, reduceIte, ev, actR_some, act, callR_some, callR_none, calleeR_some, callee, toDs, toD, loadA, storeA, subA, subD, updA, Eff.on, resA, resVs, resV, lk, finish, fznR, fzns, fzn, trim, lts, lt, ltO, List.take, List.all, List.append_nil, List.nil_append, List.cons_append, DV.cells, AV.cells, pairsOk, indep, subL, upd, List.getElem?_cons_zero, List.getElem?_cons_succ, List.getElem?_nil, List.set_cons_zero, List.set_cons_succ, reduceCtorEq, Nat.reduceEqDiff, Nat.reduceAdd, Nat.reduceLeDiff, Nat.add_zero, Nat.zero_add, stb, and_true, true_and, and_self, againL_nrm, evC_loop, thaws, List.getD_cons_zero, List.getD_cons_succ, List.getD_nil, List.drop, intOfA, binD, binI, unD, mmL, Bool.and_true, Bool.true_and, decide_true, decide_false, buildA, mkAgg, allD, behind, adoptR, adopt, isD, beq_self_eq_true, evR_mv, evR_pick, evR_bin, evR_eq, evR_un, evR_conv, evR_convs, evR_box, evR_build, evR_bsl, evR_load, evR_store, evR_nilck, evR_slice, evR_faddr, evR_field, evR_iaddrA, evR_iaddrS, evR_idxA, evR_idxS, evR_mkfn, evR_ext, evR_len, evR_app, evR_mm, evR_mksl, evR_cpy, evR_clr, evR_b2s, evR_isnil]
      rw [hg, againL_nrm]
      exact loop4_ok l hlen c hc h1 h2 n (i + 1) _ (by omega) rfl rfl rfl
    · have hd2 : decide ((i : Int) < (c : Int)) = false := by simp; omega
      simp (config := {decide := true}) only [loop4, hln, hd, hd2, hgt, hw, hp, hp2, hx, hy, k0, k3, k4, evC_seq, evC_ret, evC_region, evC_skip, evC_exit, evC_scope, evC_cond, evC_block, condC_b, keepT, List.map_cons, List.map_nil, enum, evR_nil, evR_call, evR_guard, guardR_b, lk_cons, setT_some, setT_none, Option.bind_some, Option.bind_none, thenC_nrm, thenC_ret, thenC_exit, blockC_nrm, blockC_ret, blockC_exit, endR_nil, endR_cons, endF_ret, endF_nrm, List.length_cons, List.length_nil, if_true, if_false, reduceIte, ev, actR_some, act, callR_some, callR_none, calleeR_some, callee, toDs, toD, loadA, storeA, subA, subD, updA, Eff.on, resA, resVs, resV, lk, finish, fznR, fzns, fzn, trim, lts, lt, ltO, List.take, List.all, List.append_nil, List.nil_append, List.cons_append, DV.cells, AV.cells, pairsOk, indep, subL, upd, List.getElem?_cons_zero, List.getElem?_cons_succ, List.getElem?_nil, List.set_cons_zero, List.set_cons_succ, reduceCtorEq, Nat.reduceEqDiff, Nat.reduceAdd, Nat.reduceLeDiff, Nat.add_zero, Nat.zero_add, stb, and_true, true_and, and_self, againL_nrm, evC_loop, thaws, List.getD_cons_zero, List.getD_cons_succ, List.getD_nil, List.drop, intOfA, binD, binI, unD, mmL, Bool.and_true, Bool.true_and, decide_true, decide_false, buildA, mkAgg, allD, behind, adoptR, adopt, isD, beq_self_eq_true, evR_mv, evR_pick, evR_bin, evR_eq, evR_un, evR_conv, evR_convs, evR_box, evR_build, evR_bsl, evR_load, evR_store, evR_nilck, evR_slice, evR_faddr, evR_field, evR_iaddrA, evR_iaddrS, evR_idxA, evR_idxS, evR_mkfn, evR_ext, evR_len, evR_app, evR_mm, evR_mksl, evR_cpy, evR_clr, evR_b2s, evR_isnil]
      rw [hg, againL_nrm]
      exact loop4_ok l hlen c hc h1 h2 n (i + 1) _ (by omega) rfl rfl rfl

theorem bestlaw_at (l : List Int) : evF C 4 [.d (.sl (ints l))] [] = some (.d (.b true), []) := by
  rw [evF_code (rfl : C 4 = some a4) _ _ rfl]
  have hln : ((ints l).length : Int) = (l.length : Nat) := by simp [ints]
  by_cases hbig : l.length > 60
  · have hd : decide (((l.length : Nat) : Int) > 60) = true := by simp; omega
    simp (config := {decide := true}) only [c4, known_at, hln, hd, evC_seq, evC_ret, evC_region, evC_skip, evC_exit, evC_scope, evC_cond, evC_block, condC_b, keepT, List.map_cons, List.map_nil, enum, evR_nil, evR_call, evR_guard, guardR_b, lk_cons, setT_some, setT_none, Option.bind_some, Option.bind_none, thenC_nrm, thenC_ret, thenC_exit, blockC_nrm, blockC_ret, blockC_exit, endR_nil, endR_cons, endF_ret, endF_nrm, List.length_cons, List.length_nil, if_true, if_false, reduceIte, ev, actR_some, act, callR_some, callR_none, calleeR_some, callee, toDs, toD, loadA, storeA, subA, subD, updA, Eff.on, resA, resVs, resV, lk, finish, fznR, fzns, fzn, trim, lts, lt, ltO, List.take, List.all, List.append_nil, List.nil_append, List.cons_append, DV.cells, AV.cells, pairsOk, indep, subL, upd, List.getElem?_cons_zero, List.getElem?_cons_succ, List.getElem?_nil, List.set_cons_zero, List.set_cons_succ, reduceCtorEq, Nat.reduceEqDiff, Nat.reduceAdd, Nat.reduceLeDiff, Nat.add_zero, Nat.zero_add, stb, and_true, true_and, and_self, againL_nrm, evC_loop, thaws, List.getD_cons_zero, List.getD_cons_succ, List.getD_nil, List.drop, intOfA, binD, binI, unD, mmL, Bool.and_true, Bool.true_and, decide_true, decide_false, buildA, mkAgg, allD, behind, adoptR, adopt, isD, beq_self_eq_true, evR_mv, evR_pick, evR_bin, evR_eq, evR_un, evR_conv, evR_convs, evR_box, evR_build, evR_bsl, evR_load, evR_store, evR_nilck, evR_slice, evR_faddr, evR_field, evR_iaddrA, evR_iaddrS, evR_idxA, evR_idxS, evR_mkfn, evR_ext, evR_len, evR_app, evR_mm, evR_mksl, evR_cpy, evR_clr, evR_b2s, evR_isnil]
  · have hd : decide (((l.length : Nat) : Int) > 60) = false := by simp; omega
    have hb := best_at l (by omega)
    have hsp := bestI_spec l
    rcases hsp with ⟨h0, h1⟩ | ⟨h1, h2, h3, h4⟩
    · have hd0 : (((l.length : Nat) : Int) == 0) = true := by rw [h0]; rfl
      rw [h1] at hb
      simp (config := {decide := true}) only [c4, known_at, hln, hd, hb, hd0, evC_seq, evC_ret, evC_region, evC_skip, evC_exit, evC_scope, evC_cond, evC_block, condC_b, keepT, List.map_cons, List.map_nil, enum, evR_nil, evR_call, evR_guard, guardR_b, lk_cons, setT_some, setT_none, Option.bind_some, Option.bind_none, thenC_nrm, thenC_ret, thenC_exit, blockC_nrm, blockC_ret, blockC_exit, endR_nil, endR_cons, endF_ret, endF_nrm, List.length_cons, List.length_nil, if_true, if_false, reduceIte, ev, actR_some, act, callR_some, callR_none, calleeR_some, callee, toDs, toD, loadA, storeA, subA, subD, updA, Eff.on, resA, resVs, resV, lk, finish, fznR, fzns, fzn, trim, lts, lt, ltO, List.take, List.all, List.append_nil, List.nil_append, List.cons_append, DV.cells, AV.cells, pairsOk, indep, subL, upd, List.getElem?_cons_zero, List.getElem?_cons_succ, List.getElem?_nil, List.set_cons_zero, List.set_cons_succ, reduceCtorEq, Nat.reduceEqDiff, Nat.reduceAdd, Nat.reduceLeDiff, Nat.add_zero, Nat.zero_add, stb, and_true, true_and, and_self, againL_nrm, evC_loop, thaws, List.getD_cons_zero, List.getD_cons_succ, List.getD_nil, List.drop, intOfA, binD, binI, unD, mmL, Bool.and_true, Bool.true_and, decide_true, decide_false, buildA, mkAgg, allD, behind, adoptR, adopt, isD, beq_self_eq_true, evR_mv, evR_pick, evR_bin, evR_eq, evR_un, evR_conv, evR_convs, evR_box, evR_build, evR_bsl, evR_load, evR_store, evR_nilck, evR_slice, evR_faddr, evR_field, evR_iaddrA, evR_iaddrS, evR_idxA, evR_idxS, evR_mkfn, evR_ext, evR_len, evR_app, evR_mm, evR_mksl, evR_cpy, evR_clr, evR_b2s, evR_isnil]
    · obtain ⟨c, hc⟩ : ∃ c : Nat, bestI l = c := ⟨(bestI l).toNat, by omega⟩
      rw [hc] at hb h2 h3 h4
      simp only [Int.toNat_natCast] at h3 h4
      have hd0 : (((l.length : Nat) : Int) == 0) = false := by simp only [beq_eq_false_iff_ne]; omega
      have hd1 : decide ((c : Int) < 0) = false := by simp
      have hd2 : decide ((c : Int) ≥ ((l.length : Nat) : Int)) = false := by simp; omega
      simp (config := {decide := true}) only [c4, known_at, hln, hd, hb, hd0, hd1, hd2, evC_seq, evC_ret, evC_region, evC_skip, evC_exit, evC_scope, evC_cond, evC_block, condC_b, keepT, List.map_cons, List.map_nil, enum, evR_nil, evR_call, evR_guard, guardR_b, lk_cons, setT_some, setT_none, Option.bind_some, Option.bind_none, thenC_nrm, thenC_ret, thenC_exit, blockC_nrm, blockC_ret, blockC_exit, endR_nil, endR_cons, endF_ret, endF_nrm, List.length_cons, List.length_nil, if_true, if_false, reduceIte, ev, actR_some, act, callR_some, callR_none, calleeR_some, callee, toDs, toD, loadA, storeA, subA, subD, updA, Eff.on, resA, resVs, resV, lk, finish, fznR, fzns, fzn, trim, lts, lt, ltO, List.take, List.all, List.append_nil, List.nil_append, List.cons_append, DV.cells, AV.cells, pairsOk, indep, subL, upd, List.getElem?_cons_zero, List.getElem?_cons_succ, List.getElem?_nil, List.set_cons_zero, List.set_cons_succ, reduceCtorEq, Nat.reduceEqDiff, Nat.reduceAdd, Nat.reduceLeDiff, Nat.add_zero, Nat.zero_add, stb, and_true, true_and, and_self, againL_nrm, evC_loop, thaws, List.getD_cons_zero, List.getD_cons_succ, List.getD_nil, List.drop, intOfA, binD, binI, unD, mmL, Bool.and_true, Bool.true_and, decide_true, decide_false, buildA, mkAgg, allD, behind, adoptR, adopt, isD, beq_self_eq_true, evR_mv, evR_pick, evR_bin, evR_eq, evR_un, evR_conv, evR_convs, evR_box, evR_build, evR_bsl, evR_load, evR_store, evR_nilck, evR_slice, evR_faddr, evR_field, evR_iaddrA, evR_iaddrS, evR_idxA, evR_idxS, evR_mkfn, evR_ext, evR_len, evR_app, evR_mm, evR_mksl, evR_cpy, evR_clr, evR_b2s, evR_isnil]
      simp only [Option.bind_assoc]
      refine bind_loop (loop4_ok l (by omega) c (by omega) h3 (fun j hj => h4 j (by omega)) l.length 0 _ (by omega) rfl rfl rfl) ?_
      intro T' _
      simp (config := {decide := true}) only [evC_seq, evC_ret, evC_region, evC_skip, evC_exit, evC_scope, evC_cond, evC_block, condC_b, keepT, List.map_cons, List.map_nil, enum, evR_nil, evR_call, evR_guard, guardR_b, lk_cons, setT_some, setT_none, Option.bind_some, Option.bind_none, thenC_nrm, thenC_ret, thenC_exit, blockC_nrm, blockC_ret, blockC_exit, endR_nil, endR_cons, endF_ret, endF_nrm, List.length_cons, List.length_nil, if_true, if_false, reduceIte, ev, actR_some, act, callR_some, callR_none, calleeR_some, callee, toDs, toD, loadA, storeA, subA, subD, updA, Eff.on, resA, resVs, resV, lk, finish, fznR, fzns, fzn, trim, lts, lt, ltO, List.take, List.all, List.append_nil, List.nil_append, List.cons_append, DV.cells, AV.cells, pairsOk, indep, subL, upd, List.getElem?_cons_zero, List.getElem?_cons_succ, List.getElem?_nil, List.set_cons_zero, List.set_cons_succ, reduceCtorEq, Nat.reduceEqDiff, Nat.reduceAdd, Nat.reduceLeDiff, Nat.add_zero, Nat.zero_add, stb, and_true, true_and, and_self, againL_nrm, evC_loop, thaws, List.getD_cons_zero, List.getD_cons_succ, List.getD_nil, List.drop, intOfA, binD, binI, unD, mmL, Bool.and_true, Bool.true_and, decide_true, decide_false, buildA, mkAgg, allD, behind, adoptR, adopt, isD, beq_self_eq_true, evR_mv, evR_pick, evR_bin, evR_eq, evR_un, evR_conv, evR_convs, evR_box, evR_build, evR_bsl, evR_load, evR_store, evR_nilck, evR_slice, evR_faddr, evR_field, evR_iaddrA, evR_iaddrS, evR_idxA, evR_idxS, evR_mkfn, evR_ext, evR_len, evR_app, evR_mm, evR_mksl, evR_cpy, evR_clr, evR_b2s, evR_isnil]
end Go.Proofs.Ytpbcjmgjdiiafaa
