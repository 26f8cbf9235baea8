/- The law PlaceRaw. -/
import Derived.Test.YtfafafocnnhmpaaPlaceD
set_option linter.all false
namespace Go.Proofs.Ytfafafocnnhmpaa
open Pv Go
set_option maxRecDepth 10000
set_option maxHeartbeats 1000000
theorem movN_self (e : Int) (os : List Osd) : ∀ n, movN e os e os n = 0
  | 0 => rfl
  | n + 1 => by simp [movN, movN_self e os n]
def osL (m : Pk.Mp) : List Osd := [⟨m.osds.a0.up, m.osds.a0.weight, m.osds.a0.host⟩, ⟨m.osds.a1.up, m.osds.a1.weight, m.osds.a1.host⟩, ⟨m.osds.a2.up, m.osds.a2.weight, m.osds.a2.host⟩, ⟨m.osds.a3.up, m.osds.a3.weight, m.osds.a3.host⟩, ⟨m.osds.a4.up, m.osds.a4.weight, m.osds.a4.host⟩]
theorem Mp_d (m : Pk.Mp) : m.d = mapD m.epoch (osL m) := rfl
theorem raw_at (e : Int) (os : List Osd) (hos : os.length = 5) (g : Int) : evF C F_paddocklaw4_PlaceRaw [.d (mapD e os), .d (.i .u8 g)] [] = some (.d (.b true), []) := by
  rw [evF_code (rfl : C F_paddocklaw4_PlaceRaw = some a_paddocklaw4_PlaceRaw) _ _ rfl]
  have hl := osds_len os
  rw [hos] at hl
  have h15 : List.take 15 (osds os) = osds os := List.take_of_length_le (by omega)
  have hk := known_at
  have hi := is_at e os hos
  have hm := moved_at e os hos e os hos
  rw [movN_self] at hm
  have h00 : (((0 : Nat) : Int) == 0) = true := by decide
  by_cases h : pickP e os g = []
  · have hp := (pick_at e os hos g _ rfl).1 h
    have ha := (acting_at e os hos g _ rfl).1 h
    have hpr := primary_at e os hos g
    rw [show primP e os g = -1 by simp [primP, actP, h]] at hpr
    unfold mapD at hi hm hp ha hpr ⊢
    by_cases c : isM e os = true
    · rw [c] at hi
      by_cases d : decide (g < 4) = true
      · simp (config := {decide := true}) only [guardR_und, ite_self, c_paddocklaw4_PlaceRaw, hl, h15, hk, hi, hm, hp, ha, hpr, h00, d, evC_seq, evC_ret, evC_region, evC_skip, evC_exit, evC_scope, evC_cond, evC_block, condC_b, keepT, List.map_cons, List.map_nil, enum, evR_nil, evR_call, evR_guard, guardR_b, lk_cons, setT_some, setT_none, Option.bind_some, Option.bind_none, thenC_nrm, thenC_ret, thenC_exit, blockC_nrm, blockC_ret, blockC_exit, endR_nil, endR_cons, endF_ret, endF_nrm, List.length_cons, List.length_nil, ↓reduceIte, if_true, if_false, ev, actR_some, act, callR_some, callR_none, calleeR_some, callee, toDs, toD, loadA, storeA, subA, subD, updA, Eff.on, resA, resVs, resV, lk, finish, fznR, fzns, fzn, trim, lts, lt, ltO, List.take, List.all, List.append_nil, List.nil_append, List.cons_append, DV.cells, AV.cells, pairsOk, indep, subL, upd, List.getElem?_cons_zero, List.getElem?_cons_succ, List.getElem?_nil, List.set_cons_zero, List.set_cons_succ, reduceCtorEq, Nat.reduceEqDiff, Nat.reduceAdd, Nat.reduceLeDiff, Nat.add_zero, Nat.zero_add, stb, and_true, true_and, and_self, againL_nrm, evC_loop, thaws, List.getD_cons_zero, List.getD_cons_succ, List.getD_nil, List.drop, intOfA, binD, binI, unD, mmL, Bool.and_true, Bool.true_and, decide_true, decide_false, buildA, mkAgg, allD, behind, frzAs, frzA, adoptR, adopt, isD, beq_self_eq_true, evR_mv, evR_pick, evR_bin, evR_eq, evR_un, evR_conv, evR_convs, evR_box, evR_build, evR_bsl, evR_load, evR_store, evR_nilck, evR_slice, evR_faddr, evR_field, evR_iaddrA, evR_iaddrS, evR_idxA, evR_idxS, evR_mkfn, evR_ext, evR_len, evR_app, evR_mm, evR_mksl, evR_cpy, evR_clr, evR_b2s, evR_isnil]
      · replace d := eq_false_of_ne_true d
        simp (config := {decide := true}) only [guardR_und, ite_self, c_paddocklaw4_PlaceRaw, hl, h15, hk, hi, hm, hp, ha, hpr, h00, d, evC_seq, evC_ret, evC_region, evC_skip, evC_exit, evC_scope, evC_cond, evC_block, condC_b, keepT, List.map_cons, List.map_nil, enum, evR_nil, evR_call, evR_guard, guardR_b, lk_cons, setT_some, setT_none, Option.bind_some, Option.bind_none, thenC_nrm, thenC_ret, thenC_exit, blockC_nrm, blockC_ret, blockC_exit, endR_nil, endR_cons, endF_ret, endF_nrm, List.length_cons, List.length_nil, ↓reduceIte, if_true, if_false, ev, actR_some, act, callR_some, callR_none, calleeR_some, callee, toDs, toD, loadA, storeA, subA, subD, updA, Eff.on, resA, resVs, resV, lk, finish, fznR, fzns, fzn, trim, lts, lt, ltO, List.take, List.all, List.append_nil, List.nil_append, List.cons_append, DV.cells, AV.cells, pairsOk, indep, subL, upd, List.getElem?_cons_zero, List.getElem?_cons_succ, List.getElem?_nil, List.set_cons_zero, List.set_cons_succ, reduceCtorEq, Nat.reduceEqDiff, Nat.reduceAdd, Nat.reduceLeDiff, Nat.add_zero, Nat.zero_add, stb, and_true, true_and, and_self, againL_nrm, evC_loop, thaws, List.getD_cons_zero, List.getD_cons_succ, List.getD_nil, List.drop, intOfA, binD, binI, unD, mmL, Bool.and_true, Bool.true_and, decide_true, decide_false, buildA, mkAgg, allD, behind, frzAs, frzA, adoptR, adopt, isD, beq_self_eq_true, evR_mv, evR_pick, evR_bin, evR_eq, evR_un, evR_conv, evR_convs, evR_box, evR_build, evR_bsl, evR_load, evR_store, evR_nilck, evR_slice, evR_faddr, evR_field, evR_iaddrA, evR_iaddrS, evR_idxA, evR_idxS, evR_mkfn, evR_ext, evR_len, evR_app, evR_mm, evR_mksl, evR_cpy, evR_clr, evR_b2s, evR_isnil]
    · replace c := eq_false_of_ne_true c
      rw [c] at hi
      simp (config := {decide := true}) only [guardR_und, ite_self, c_paddocklaw4_PlaceRaw, hl, h15, hk, hi, hm, hp, ha, hpr, h00, evC_seq, evC_ret, evC_region, evC_skip, evC_exit, evC_scope, evC_cond, evC_block, condC_b, keepT, List.map_cons, List.map_nil, enum, evR_nil, evR_call, evR_guard, guardR_b, lk_cons, setT_some, setT_none, Option.bind_some, Option.bind_none, thenC_nrm, thenC_ret, thenC_exit, blockC_nrm, blockC_ret, blockC_exit, endR_nil, endR_cons, endF_ret, endF_nrm, List.length_cons, List.length_nil, ↓reduceIte, if_true, if_false, ev, actR_some, act, callR_some, callR_none, calleeR_some, callee, toDs, toD, loadA, storeA, subA, subD, updA, Eff.on, resA, resVs, resV, lk, finish, fznR, fzns, fzn, trim, lts, lt, ltO, List.take, List.all, List.append_nil, List.nil_append, List.cons_append, DV.cells, AV.cells, pairsOk, indep, subL, upd, List.getElem?_cons_zero, List.getElem?_cons_succ, List.getElem?_nil, List.set_cons_zero, List.set_cons_succ, reduceCtorEq, Nat.reduceEqDiff, Nat.reduceAdd, Nat.reduceLeDiff, Nat.add_zero, Nat.zero_add, stb, and_true, true_and, and_self, againL_nrm, evC_loop, thaws, List.getD_cons_zero, List.getD_cons_succ, List.getD_nil, List.drop, intOfA, binD, binI, unD, mmL, Bool.and_true, Bool.true_and, decide_true, decide_false, buildA, mkAgg, allD, behind, frzAs, frzA, adoptR, adopt, isD, beq_self_eq_true, evR_mv, evR_pick, evR_bin, evR_eq, evR_un, evR_conv, evR_convs, evR_box, evR_build, evR_bsl, evR_load, evR_store, evR_nilck, evR_slice, evR_faddr, evR_field, evR_iaddrA, evR_iaddrS, evR_idxA, evR_idxS, evR_mkfn, evR_ext, evR_len, evR_app, evR_mm, evR_mksl, evR_cpy, evR_clr, evR_b2s, evR_isnil]
  · have cg : (isM e os && decide (g < 4)) = true := by
      by_cases cg : (isM e os && decide (g < 4)) = true
      · exact cg
      · exact absurd (by simp [pickP, eq_false_of_ne_true cg]) h
    obtain ⟨c, d⟩ := Bool.and_eq_true_iff.1 cg
    obtain ⟨X, ii, wi, cs, a, hp⟩ := (pick_at e os hos g _ rfl).2 h
    obtain ⟨X2, n, es, ha, a2, a3, a4⟩ := (acting_at e os hos g _ rfl).2 h
    have hle : ((actP e os g).length : Int) ≤ ((pickP e os g).length : Int) := by
      have : (actP e os g).length ≤ (pickP e os g).length := List.length_filter_le _ _
      omega
    have hled := decide_eq_true hle
    have hn1 := nats_len (pickP e os g)
    have ht1 : List.take (pickP e os g).length (nats (pickP e os g)) = nats (pickP e os g) := List.take_of_length_le (by omega)
    have hn2 := nats_len (actP e os g)
    rw [c] at hi
    generalize nats (pickP e os g) = N at *
    generalize nats (actP e os g) = M at *
    generalize (pickP e os g).length = x at *
    generalize (actP e os g).length = y at *
    unfold mapD at hi hm hp ha ⊢
    simp (config := {decide := true}) only [guardR_und, ite_self, c_paddocklaw4_PlaceRaw, hl, h15, hk, hi, hm, hp, ha, a2, a3, a4, hled, hn1, ht1, hn2, h00, d, Nat.le_refl, or_true, true_and, and_true, evC_seq, evC_ret, evC_region, evC_skip, evC_exit, evC_scope, evC_cond, evC_block, condC_b, keepT, List.map_cons, List.map_nil, enum, evR_nil, evR_call, evR_guard, guardR_b, lk_cons, setT_some, setT_none, Option.bind_some, Option.bind_none, thenC_nrm, thenC_ret, thenC_exit, blockC_nrm, blockC_ret, blockC_exit, endR_nil, endR_cons, endF_ret, endF_nrm, List.length_cons, List.length_nil, ↓reduceIte, if_true, if_false, ev, actR_some, act, callR_some, callR_none, calleeR_some, callee, toDs, toD, loadA, storeA, subA, subD, updA, Eff.on, resA, resVs, resV, lk, finish, fznR, fzns, fzn, trim, lts, lt, ltO, List.take, List.all, List.append_nil, List.nil_append, List.cons_append, DV.cells, AV.cells, pairsOk, indep, subL, upd, List.getElem?_cons_zero, List.getElem?_cons_succ, List.getElem?_nil, List.set_cons_zero, List.set_cons_succ, reduceCtorEq, Nat.reduceEqDiff, Nat.reduceAdd, Nat.reduceLeDiff, Nat.add_zero, Nat.zero_add, stb, and_true, true_and, and_self, againL_nrm, evC_loop, thaws, List.getD_cons_zero, List.getD_cons_succ, List.getD_nil, List.drop, intOfA, binD, binI, unD, mmL, Bool.and_true, Bool.true_and, decide_true, decide_false, buildA, mkAgg, allD, behind, frzAs, frzA, adoptR, adopt, isD, beq_self_eq_true, evR_mv, evR_pick, evR_bin, evR_eq, evR_un, evR_conv, evR_convs, evR_box, evR_build, evR_bsl, evR_load, evR_store, evR_nilck, evR_slice, evR_faddr, evR_field, evR_iaddrA, evR_iaddrS, evR_idxA, evR_idxS, evR_mkfn, evR_ext, evR_len, evR_app, evR_mm, evR_mksl, evR_cpy, evR_clr, evR_b2s, evR_isnil]
theorem raw_law (m : Pk.Mp) (g : Int) : evF C F_paddocklaw4_PlaceRaw [.d m.d, .d (.i .u8 g)] [] = some (.d (.b true), []) := raw_at m.epoch (osL m) rfl g
end Go.Proofs.Ytfafafocnnhmpaa
