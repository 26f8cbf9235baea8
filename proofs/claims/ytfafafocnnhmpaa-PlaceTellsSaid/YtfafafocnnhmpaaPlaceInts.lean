/- The laws' ints. -/
import Derived.Test.YtfafafocnnhmpaaPlaceWeight
set_option linter.all false
namespace Go.Proofs.Ytfafafocnnhmpaa
open Pv Go
set_option maxRecDepth 10000
set_option maxHeartbeats 1000000
theorem ints_loop (P Q : List Nat) (hPl : P.length ≤ 100) (hQ : Q.length = P.length) : ∀ (n i : Nat) (T : Tm), i + n = P.length → lk T 0 = .d (.sl (nats P)) → lk T 1 = .d (.sl (nats Q)) → lk T 5 = .d (.i .i64 (i : Int)) →
    (P.drop i = Q.drop i → ∃ T', evL C K_paddocklaw4_ints_0 l_paddocklaw4_ints_0 0 T [] = some (.exit 0, T', [])) ∧
    (P.drop i ≠ Q.drop i → ∃ T', evL C K_paddocklaw4_ints_0 l_paddocklaw4_ints_0 0 T [] = some (.ret, T', []) ∧ lk T' 4 = .d (.b false))
  | 0, i, T, hi, h0, h1, h5 => by
    have hd : decide ((i : Int) < (P.length : Int)) = false := by simp; omega
    have hdr : P.drop i = [] := List.drop_eq_nil_of_le (by omega)
    have hdq : Q.drop i = [] := List.drop_eq_nil_of_le (by omega)
    rw [hdr, hdq]
    refine ⟨fun _ => ?_, fun h => absurd rfl h⟩
    obtain ⟨G, hG⟩ : ∃ G, G = againL C K_paddocklaw4_ints_0 l_paddocklaw4_ints_0 0 := ⟨_, rfl⟩
    rw [evL_eq, ← hG]
    simp (config := {decide := true}) only [l_paddocklaw4_ints_0, K_paddocklaw4_ints_0, hd, nats_len, h0, h1, h5, ite_self, evC_seq, evC_ret, evC_region, evC_skip, evC_exit, evC_scope, evC_cond, evC_block, condC_b, keepT, List.map_cons, List.map_nil, enum, evR_nil, evR_call, evR_guard, guardR_b, lk_cons, setT_some, setT_none, Option.bind_some, Option.bind_none, thenC_nrm, thenC_ret, thenC_exit, blockC_nrm, blockC_ret, blockC_exit, endR_nil, endR_cons, endF_ret, endF_nrm, List.length_cons, List.length_nil, ↓reduceIte, if_true, if_false, ev, actR_some, act, callR_some, callR_none, calleeR_some, callee, toDs, toD, loadA, storeA, subA, subD, updA, Eff.on, resA, resVs, resV, lk, finish, finishR_tmp, finishR_cell, finishR_nil, finishR_dat, frzR, frzVs, frzV, fznR, fzns, fzn, trim, lts, lt, ltO, List.take, List.all, List.append_nil, List.nil_append, List.cons_append, DV.cells, AV.cells, pairsOk, indep, subL, upd, List.getElem?_cons_zero, List.getElem?_cons_succ, List.getElem?_nil, List.set_cons_zero, List.set_cons_succ, reduceCtorEq, Nat.reduceEqDiff, Nat.reduceAdd, Nat.reduceLeDiff, Nat.add_zero, Nat.zero_add, stb, and_true, true_and, and_self, againL_nrm, evC_loop, thaws, List.getD_cons_zero, List.getD_cons_succ, List.getD_nil, List.drop, intOfA, binD, binI, unD, mmL, Bool.and_true, Bool.true_and, decide_true, decide_false, buildA, mkAgg, allD, behind, frzAs, frzA, adoptR, adopt, isD, beq_self_eq_true, evR_mv, evR_pick, evR_bin, evR_eq, evR_un, evR_conv, evR_convs, evR_box, evR_build, evR_bsl, evR_load, evR_store, evR_nilck, evR_slice, evR_faddr, evR_field, evR_iaddrA, evR_iaddrS, evR_idxA, evR_idxS, evR_mkfn, evR_ext, evR_len, evR_app, evR_mm, evR_mksl, evR_cpy, evR_clr, evR_b2s, evR_isnil]
    rw [hG]
    exact ⟨_, rfl⟩
  | n + 1, i, T, hi, h0, h1, h5 => by
    have hd : decide ((i : Int) < (P.length : Int)) = true := by simp; omega
    have hw : IntKind.i64.wrap ((i : Int) + 1) = ((i + 1 : Nat) : Int) := wi64 (by omega)
    have hp0 : (0 ≤ (i : Int)) = True := by simp
    have hpl : ((i : Int) < ((P.length : Nat) : Int)) = True := by simp; omega
    have hpq : ((i : Int) < ((Q.length : Nat) : Int)) = True := by simp; omega
    obtain ⟨p, hp⟩ : ∃ p, P[i]? = some p := ⟨P[i]'(by omega), List.getElem?_eq_getElem _⟩
    obtain ⟨q, hq⟩ : ∃ q, Q[i]? = some q := ⟨Q[i]'(by omega), List.getElem?_eq_getElem _⟩
    have hdp : P.drop i = p :: P.drop (i + 1) := by
      rw [List.drop_eq_getElem_cons (by omega)]
      congr 1
      have := List.getElem?_eq_getElem (l := P) (i := i) (by omega)
      rw [hp] at this
      exact (Option.some.inj this).symm
    have hdq : Q.drop i = q :: Q.drop (i + 1) := by
      rw [List.drop_eq_getElem_cons (by omega)]
      congr 1
      have := List.getElem?_eq_getElem (l := Q) (i := i) (by omega)
      rw [hq] at this
      exact (Option.some.inj this).symm
    rw [hdp, hdq]
    have hx := nats_get P i p hp
    have hy := nats_get Q i q hq
    have hl := nats_len P
    have hl2 := nats_len Q
    have ih := fun T => ints_loop P Q hPl hQ n (i + 1) T (by omega)
    obtain ⟨G, hG⟩ : ∃ G, G = againL C K_paddocklaw4_ints_0 l_paddocklaw4_ints_0 0 := ⟨_, rfl⟩
    generalize nats P = N at *
    generalize nats Q = M at *
    have e1 := evL_eq (C := C) (T := T) (H := []) K_paddocklaw4_ints_0 l_paddocklaw4_ints_0 0
    rw [← hG] at e1
    rw [e1]
    by_cases c : p = q
    · subst c
      have hne : ((p : Int) != (p : Int)) = false := by simp
      simp only [List.cons.injEq, true_and, ne_eq]
      simp (config := {decide := true}) only [l_paddocklaw4_ints_0, K_paddocklaw4_ints_0, hd, hw, hp0, hpl, hpq, hx, hy, hl, hl2, hne, h0, h1, h5, ite_self, evC_seq, evC_ret, evC_region, evC_skip, evC_exit, evC_scope, evC_cond, evC_block, condC_b, keepT, List.map_cons, List.map_nil, enum, evR_nil, evR_call, evR_guard, guardR_b, lk_cons, setT_some, setT_none, Option.bind_some, Option.bind_none, thenC_nrm, thenC_ret, thenC_exit, blockC_nrm, blockC_ret, blockC_exit, endR_nil, endR_cons, endF_ret, endF_nrm, List.length_cons, List.length_nil, ↓reduceIte, if_true, if_false, ev, actR_some, act, callR_some, callR_none, calleeR_some, callee, toDs, toD, loadA, storeA, subA, subD, updA, Eff.on, resA, resVs, resV, lk, finish, finishR_tmp, finishR_cell, finishR_nil, finishR_dat, frzR, frzVs, frzV, fznR, fzns, fzn, trim, lts, lt, ltO, List.take, List.all, List.append_nil, List.nil_append, List.cons_append, DV.cells, AV.cells, pairsOk, indep, subL, upd, List.getElem?_cons_zero, List.getElem?_cons_succ, List.getElem?_nil, List.set_cons_zero, List.set_cons_succ, reduceCtorEq, Nat.reduceEqDiff, Nat.reduceAdd, Nat.reduceLeDiff, Nat.add_zero, Nat.zero_add, stb, and_true, true_and, and_self, againL_nrm, evC_loop, thaws, List.getD_cons_zero, List.getD_cons_succ, List.getD_nil, List.drop, intOfA, binD, binI, unD, mmL, Bool.and_true, Bool.true_and, decide_true, decide_false, buildA, mkAgg, allD, behind, frzAs, frzA, adoptR, adopt, isD, beq_self_eq_true, evR_mv, evR_pick, evR_bin, evR_eq, evR_un, evR_conv, evR_convs, evR_box, evR_build, evR_bsl, evR_load, evR_store, evR_nilck, evR_slice, evR_faddr, evR_field, evR_iaddrA, evR_iaddrS, evR_idxA, evR_idxS, evR_mkfn, evR_ext, evR_len, evR_app, evR_mm, evR_mksl, evR_cpy, evR_clr, evR_b2s, evR_isnil]
      rw [hG, againL_nrm]
      exact ih _ rfl rfl rfl
    · have hne : ((p : Int) != (q : Int)) = true := by simp; omega
      refine ⟨fun h => absurd (List.cons.inj h).1 c, fun _ => ?_⟩
      simp (config := {decide := true}) only [l_paddocklaw4_ints_0, K_paddocklaw4_ints_0, hd, hw, hp0, hpl, hpq, hx, hy, hl, hl2, hne, h0, h1, h5, ite_self, evC_seq, evC_ret, evC_region, evC_skip, evC_exit, evC_scope, evC_cond, evC_block, condC_b, keepT, List.map_cons, List.map_nil, enum, evR_nil, evR_call, evR_guard, guardR_b, lk_cons, setT_some, setT_none, Option.bind_some, Option.bind_none, thenC_nrm, thenC_ret, thenC_exit, blockC_nrm, blockC_ret, blockC_exit, endR_nil, endR_cons, endF_ret, endF_nrm, List.length_cons, List.length_nil, ↓reduceIte, if_true, if_false, ev, actR_some, act, callR_some, callR_none, calleeR_some, callee, toDs, toD, loadA, storeA, subA, subD, updA, Eff.on, resA, resVs, resV, lk, finish, finishR_tmp, finishR_cell, finishR_nil, finishR_dat, frzR, frzVs, frzV, fznR, fzns, fzn, trim, lts, lt, ltO, List.take, List.all, List.append_nil, List.nil_append, List.cons_append, DV.cells, AV.cells, pairsOk, indep, subL, upd, List.getElem?_cons_zero, List.getElem?_cons_succ, List.getElem?_nil, List.set_cons_zero, List.set_cons_succ, reduceCtorEq, Nat.reduceEqDiff, Nat.reduceAdd, Nat.reduceLeDiff, Nat.add_zero, Nat.zero_add, stb, and_true, true_and, and_self, againL_nrm, evC_loop, thaws, List.getD_cons_zero, List.getD_cons_succ, List.getD_nil, List.drop, intOfA, binD, binI, unD, mmL, Bool.and_true, Bool.true_and, decide_true, decide_false, buildA, mkAgg, allD, behind, frzAs, frzA, adoptR, adopt, isD, beq_self_eq_true, evR_mv, evR_pick, evR_bin, evR_eq, evR_un, evR_conv, evR_convs, evR_box, evR_build, evR_bsl, evR_load, evR_store, evR_nilck, evR_slice, evR_faddr, evR_field, evR_iaddrA, evR_iaddrS, evR_idxA, evR_idxS, evR_mkfn, evR_ext, evR_len, evR_app, evR_mm, evR_mksl, evR_cpy, evR_clr, evR_b2s, evR_isnil]
      rw [hG]
      exact ⟨_, rfl, rfl⟩
theorem ints_at (P Q : List Nat) (hPl : P.length ≤ 100) (hQl : Q.length ≤ 100) : evF C F_paddocklaw4_ints [.d (.sl (nats P)), .d (.sl (nats Q))] [] = some (.d (.b (decide (P = Q))), []) := by
  rw [evF_code (rfl : C F_paddocklaw4_ints = some a_paddocklaw4_ints) _ _ rfl]
  have hl := nats_len P
  have hl2 := nats_len Q
  by_cases c : Q.length = P.length
  · have hloop := ints_loop P Q hPl c P.length 0
    simp only [List.drop_zero] at hloop
    have hne : (((P.length : Nat) : Int) != ((P.length : Nat) : Int)) = false := by simp
    rw [c] at hl2
    generalize nats P = N at *
    generalize nats Q = M at *
    simp (config := {decide := true}) only [ite_self, c_paddocklaw4_ints, hl, hl2, hne, evC_seq, evC_ret, evC_region, evC_skip, evC_exit, evC_scope, evC_cond, evC_block, condC_b, keepT, List.map_cons, List.map_nil, enum, evR_nil, evR_call, evR_guard, guardR_b, lk_cons, setT_some, setT_none, Option.bind_some, Option.bind_none, thenC_nrm, thenC_ret, thenC_exit, blockC_nrm, blockC_ret, blockC_exit, endR_nil, endR_cons, endF_ret, endF_nrm, List.length_cons, List.length_nil, ↓reduceIte, if_true, if_false, ev, actR_some, act, callR_some, callR_none, calleeR_some, callee, toDs, toD, loadA, storeA, subA, subD, updA, Eff.on, resA, resVs, resV, lk, finish, finishR_tmp, finishR_cell, finishR_nil, finishR_dat, frzR, frzVs, frzV, fznR, fzns, fzn, trim, lts, lt, ltO, List.take, List.all, List.append_nil, List.nil_append, List.cons_append, DV.cells, AV.cells, pairsOk, indep, subL, upd, List.getElem?_cons_zero, List.getElem?_cons_succ, List.getElem?_nil, List.set_cons_zero, List.set_cons_succ, reduceCtorEq, Nat.reduceEqDiff, Nat.reduceAdd, Nat.reduceLeDiff, Nat.add_zero, Nat.zero_add, stb, and_true, true_and, and_self, againL_nrm, evC_loop, thaws, List.getD_cons_zero, List.getD_cons_succ, List.getD_nil, List.drop, intOfA, binD, binI, unD, mmL, Bool.and_true, Bool.true_and, decide_true, decide_false, buildA, mkAgg, allD, behind, frzAs, frzA, adoptR, adopt, isD, beq_self_eq_true, evR_mv, evR_pick, evR_bin, evR_eq, evR_un, evR_conv, evR_convs, evR_box, evR_build, evR_bsl, evR_load, evR_store, evR_nilck, evR_slice, evR_faddr, evR_field, evR_iaddrA, evR_iaddrS, evR_idxA, evR_idxS, evR_mkfn, evR_ext, evR_len, evR_app, evR_mm, evR_mksl, evR_cpy, evR_clr, evR_b2s, evR_isnil]
    simp only [Option.bind_assoc]
    by_cases e : P = Q
    · refine bind_exit ((hloop _ (by omega) rfl rfl rfl).1 e) ?_
      intro T'
      rw [decide_eq_true e]
      simp (config := {decide := true}) only [ite_self, evC_seq, evC_ret, evC_region, evC_skip, evC_exit, evC_scope, evC_cond, evC_block, condC_b, keepT, List.map_cons, List.map_nil, enum, evR_nil, evR_call, evR_guard, guardR_b, lk_cons, setT_some, setT_none, Option.bind_some, Option.bind_none, thenC_nrm, thenC_ret, thenC_exit, blockC_nrm, blockC_ret, blockC_exit, endR_nil, endR_cons, endF_ret, endF_nrm, List.length_cons, List.length_nil, ↓reduceIte, if_true, if_false, ev, actR_some, act, callR_some, callR_none, calleeR_some, callee, toDs, toD, loadA, storeA, subA, subD, updA, Eff.on, resA, resVs, resV, lk, finish, finishR_tmp, finishR_cell, finishR_nil, finishR_dat, frzR, frzVs, frzV, fznR, fzns, fzn, trim, lts, lt, ltO, List.take, List.all, List.append_nil, List.nil_append, List.cons_append, DV.cells, AV.cells, pairsOk, indep, subL, upd, List.getElem?_cons_zero, List.getElem?_cons_succ, List.getElem?_nil, List.set_cons_zero, List.set_cons_succ, reduceCtorEq, Nat.reduceEqDiff, Nat.reduceAdd, Nat.reduceLeDiff, Nat.add_zero, Nat.zero_add, stb, and_true, true_and, and_self, againL_nrm, evC_loop, thaws, List.getD_cons_zero, List.getD_cons_succ, List.getD_nil, List.drop, intOfA, binD, binI, unD, mmL, Bool.and_true, Bool.true_and, decide_true, decide_false, buildA, mkAgg, allD, behind, frzAs, frzA, adoptR, adopt, isD, beq_self_eq_true, evR_mv, evR_pick, evR_bin, evR_eq, evR_un, evR_conv, evR_convs, evR_box, evR_build, evR_bsl, evR_load, evR_store, evR_nilck, evR_slice, evR_faddr, evR_field, evR_iaddrA, evR_iaddrS, evR_idxA, evR_idxS, evR_mkfn, evR_ext, evR_len, evR_app, evR_mm, evR_mksl, evR_cpy, evR_clr, evR_b2s, evR_isnil]
    · refine bind_ret ((hloop _ (by omega) rfl rfl rfl).2 e) ?_
      intro T' h4
      rw [decide_eq_false e]
      simp (config := {decide := true}) only [ite_self, h4, evC_seq, evC_ret, evC_region, evC_skip, evC_exit, evC_scope, evC_cond, evC_block, condC_b, keepT, List.map_cons, List.map_nil, enum, evR_nil, evR_call, evR_guard, guardR_b, lk_cons, setT_some, setT_none, Option.bind_some, Option.bind_none, thenC_nrm, thenC_ret, thenC_exit, blockC_nrm, blockC_ret, blockC_exit, endR_nil, endR_cons, endF_ret, endF_nrm, List.length_cons, List.length_nil, ↓reduceIte, if_true, if_false, ev, actR_some, act, callR_some, callR_none, calleeR_some, callee, toDs, toD, loadA, storeA, subA, subD, updA, Eff.on, resA, resVs, resV, lk, finish, finishR_tmp, finishR_cell, finishR_nil, finishR_dat, frzR, frzVs, frzV, fznR, fzns, fzn, trim, lts, lt, ltO, List.take, List.all, List.append_nil, List.nil_append, List.cons_append, DV.cells, AV.cells, pairsOk, indep, subL, upd, List.getElem?_cons_zero, List.getElem?_cons_succ, List.getElem?_nil, List.set_cons_zero, List.set_cons_succ, reduceCtorEq, Nat.reduceEqDiff, Nat.reduceAdd, Nat.reduceLeDiff, Nat.add_zero, Nat.zero_add, stb, and_true, true_and, and_self, againL_nrm, evC_loop, thaws, List.getD_cons_zero, List.getD_cons_succ, List.getD_nil, List.drop, intOfA, binD, binI, unD, mmL, Bool.and_true, Bool.true_and, decide_true, decide_false, buildA, mkAgg, allD, behind, frzAs, frzA, adoptR, adopt, isD, beq_self_eq_true, evR_mv, evR_pick, evR_bin, evR_eq, evR_un, evR_conv, evR_convs, evR_box, evR_build, evR_bsl, evR_load, evR_store, evR_nilck, evR_slice, evR_faddr, evR_field, evR_iaddrA, evR_iaddrS, evR_idxA, evR_idxS, evR_mkfn, evR_ext, evR_len, evR_app, evR_mm, evR_mksl, evR_cpy, evR_clr, evR_b2s, evR_isnil]
  · have hne : (((P.length : Nat) : Int) != ((Q.length : Nat) : Int)) = true := by rw [bne_iff_ne]; omega
    have e : ¬ P = Q := by rintro rfl; exact c rfl
    rw [decide_eq_false e]
    generalize nats P = N at *
    generalize nats Q = M at *
    simp (config := {decide := true}) only [ite_self, c_paddocklaw4_ints, hl, hl2, hne, evC_seq, evC_ret, evC_region, evC_skip, evC_exit, evC_scope, evC_cond, evC_block, condC_b, keepT, List.map_cons, List.map_nil, enum, evR_nil, evR_call, evR_guard, guardR_b, lk_cons, setT_some, setT_none, Option.bind_some, Option.bind_none, thenC_nrm, thenC_ret, thenC_exit, blockC_nrm, blockC_ret, blockC_exit, endR_nil, endR_cons, endF_ret, endF_nrm, List.length_cons, List.length_nil, ↓reduceIte, if_true, if_false, ev, actR_some, act, callR_some, callR_none, calleeR_some, callee, toDs, toD, loadA, storeA, subA, subD, updA, Eff.on, resA, resVs, resV, lk, finish, finishR_tmp, finishR_cell, finishR_nil, finishR_dat, frzR, frzVs, frzV, fznR, fzns, fzn, trim, lts, lt, ltO, List.take, List.all, List.append_nil, List.nil_append, List.cons_append, DV.cells, AV.cells, pairsOk, indep, subL, upd, List.getElem?_cons_zero, List.getElem?_cons_succ, List.getElem?_nil, List.set_cons_zero, List.set_cons_succ, reduceCtorEq, Nat.reduceEqDiff, Nat.reduceAdd, Nat.reduceLeDiff, Nat.add_zero, Nat.zero_add, stb, and_true, true_and, and_self, againL_nrm, evC_loop, thaws, List.getD_cons_zero, List.getD_cons_succ, List.getD_nil, List.drop, intOfA, binD, binI, unD, mmL, Bool.and_true, Bool.true_and, decide_true, decide_false, buildA, mkAgg, allD, behind, frzAs, frzA, adoptR, adopt, isD, beq_self_eq_true, evR_mv, evR_pick, evR_bin, evR_eq, evR_un, evR_conv, evR_convs, evR_box, evR_build, evR_bsl, evR_load, evR_store, evR_nilck, evR_slice, evR_faddr, evR_field, evR_iaddrA, evR_iaddrS, evR_idxA, evR_idxS, evR_mkfn, evR_ext, evR_len, evR_app, evR_mm, evR_mksl, evR_cpy, evR_clr, evR_b2s, evR_isnil]
end Go.Proofs.Ytfafafocnnhmpaa
