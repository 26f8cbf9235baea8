/- The straw layer's laws answer true. -/
import Derived.Test.YtpbcjmgjdiiafaaStrawRest
import Derived.Test.YtpbcjmgjdiiafaaPvArgs
set_option linter.all false
namespace Go.Proofs.Ytpbcjmgjdiiafaa
open Pv Go
set_option maxRecDepth 10000

theorem SV_eq (h : Nat) (k : Nat) (hk : 1 ≤ k ∧ k ≤ 16) : SV h (k : Int) = -(((1048576 - LV (h % 65536 + 1)) * 4096 / k : Nat) : Int) := by
  have : wt (k : Int) = k := by unfold wt mmI; simp; split <;> split <;> omega
  unfold SV; rw [this]

theorem spans_facts (h : Nat) (k : Nat) (hk : 1 ≤ k ∧ k ≤ 8) :
    SV h (k : Int) ≥ IntKind.i64.wrap (0 - IntKind.i64.wrap (Int.tdiv 4294967296 (k : Int))) ∧ SV h (k : Int) ≤ 0 ∧
    IntKind.i64.wrap (SV h (k : Int) - IntKind.i64.wrap (2 * SV h ((2 * k : Nat) : Int))) ≤ 1 ∧ IntKind.i64.wrap (SV h (k : Int) - IntKind.i64.wrap (2 * SV h ((2 * k : Nat) : Int))) ≥ -1 := by
  rw [SV_eq h k (by omega), SV_eq h (2 * k) (by omega)]
  have hN : (1048576 - LV (h % 65536 + 1)) * 4096 ≤ 4294967296 := by omega
  generalize (1048576 - LV (h % 65536 + 1)) * 4096 = N at hN
  have e1 : Int.tdiv 4294967296 (k : Int) = ((4294967296 / k : Nat) : Int) := by
    rw [show (4294967296 : Int) = ((4294967296 : Nat) : Int) by rfl, Int.tdiv_eq_ediv_of_nonneg (by omega)]; rfl
  have h1 : N / k ≤ 4294967296 / k := Nat.div_le_div_right hN
  have h2 : 4294967296 / k ≤ 4294967296 := Nat.div_le_self _ _
  have h3 : N / (2 * k) = N / k / 2 := by rw [Nat.mul_comm, Nat.div_div_eq_div_mul]
  rw [e1, h3]
  generalize 4294967296 / k = M at h1 h2
  generalize N / k = q at h1
  rw [wi64 (n := (M : Int)) (by omega), wi64 (n := 0 - (M : Int)) (by omega), wi64 (n := 2 * -((q / 2 : Nat) : Int)) (by omega), wi64 (by omega)]
  omega

theorem spans_at (h w : Int) (hh : 0 ≤ h ∧ h < 4294967296) (hw : 0 ≤ w ∧ w < 256) : evF C 5 [.d (.i .u32 h), .d (.i .u8 w)] [] = some (.d (.b true), []) := by
  rw [evF_code (rfl : C 5 = some a5) _ _ rfl]
  obtain ⟨h, rfl⟩ : ∃ n : Nat, h = n := ⟨h.toNat, by omega⟩
  obtain ⟨w, rfl⟩ : ∃ n : Nat, w = n := ⟨w.toNat, by omega⟩
  have hk : IntKind.i64.wrap (IntKind.i64.wrap (Int.tmod (w : Int) 8) + 1) = ((w % 8 + 1 : Nat) : Int) := by
    rw [Int.tmod_eq_emod_of_nonneg (by omega), wi64 (n := (w : Int) % 8) (by omega), wi64 (by omega)]; omega
  have hk2 : 1 ≤ w % 8 + 1 ∧ w % 8 + 1 ≤ 8 := by omega
  generalize w % 8 + 1 = k at hk hk2
  have h2 : IntKind.i64.wrap (2 * (k : Int)) = ((2 * k : Nat) : Int) := by rw [wi64 (by omega)]; omega
  have hz : ((k : Int) = 0) = False := by simp; omega
  obtain ⟨f1, f2, f3, f4⟩ := spans_facts h k hk2
  have d1 := decide_eq_true f1
  have d2 := decide_eq_true f2
  have d3 := decide_eq_true f3
  have d4 := decide_eq_true f4
  simp (config := {decide := true, maxSteps := 2000000}) only [c5, known_at, straw_at h (by omega), hk, h2, hz, d1, d2, d3, d4, evC_seq, evC_ret, evC_region, evC_skip, evC_exit, evC_scope, evC_cond, evC_block, condC_b, keepT, List.map_cons, List.map_nil, enum, evR_nil, evR_call, evR_guard, guardR_b, lk_cons, setT_some, setT_none, Option.bind_some, Option.bind_none, thenC_nrm, thenC_ret, thenC_exit, blockC_nrm, blockC_ret, blockC_exit, endR_nil, endR_cons, endF_ret, endF_nrm, List.length_cons, List.length_nil, if_true, if_false, reduceIte, ev, actR_some, act, callR_some, callR_none, calleeR_some, callee, toDs, toD, loadA, storeA, subA, subD, updA, Eff.on, resA, resVs, resV, lk, finish, fznR, fzns, fzn, trim, lts, lt, ltO, List.take, List.all, List.append_nil, List.nil_append, List.cons_append, DV.cells, AV.cells, pairsOk, indep, subL, upd, List.getElem?_cons_zero, List.getElem?_cons_succ, List.getElem?_nil, List.set_cons_zero, List.set_cons_succ, reduceCtorEq, Nat.reduceEqDiff, Nat.reduceAdd, Nat.reduceLeDiff, Nat.add_zero, Nat.zero_add, stb, and_true, true_and, and_self, againL_nrm, evC_loop, thaws, List.getD_cons_zero, List.getD_cons_succ, List.getD_nil, List.drop, intOfA, binD, binI, unD, mmL, Bool.and_true, Bool.true_and, decide_true, decide_false, buildA, mkAgg, allD, behind, adoptR, adopt, isD, beq_self_eq_true, evR_mv, evR_pick, evR_bin, evR_eq, evR_un, evR_conv, evR_convs, evR_box, evR_build, evR_bsl, evR_load, evR_store, evR_nilck, evR_slice, evR_faddr, evR_field, evR_iaddrA, evR_iaddrS, evR_idxA, evR_idxS, evR_mkfn, evR_ext, evR_len, evR_app, evR_mm, evR_mksl, evR_cpy, evR_clr, evR_b2s, evR_isnil]

theorem grows_at (a b k : Int) (ha : 0 ≤ a ∧ a < 4294967296) (hb : 0 ≤ b ∧ b < 4294967296) (hk : 0 ≤ k ∧ k < 256) : evF C 3 [.d (.i .u32 a), .d (.i .u32 b), .d (.i .u8 k)] [] = some (.d (.b true), []) := by
  rw [evF_code (rfl : C 3 = some a3) _ _ rfl]
  obtain ⟨k, rfl⟩ : ∃ n : Nat, k = n := ⟨k.toNat, by omega⟩
  obtain ⟨x, hx, hx1⟩ : ∃ x : Nat, IntKind.u32.wrap (Int.tmod a 65536 + 1) = (x : Int) ∧ 1 ≤ x ∧ x ≤ 65536 := by
    refine ⟨(a % 65536 + 1).toNat, ?_, by omega, by omega⟩
    rw [Int.tmod_eq_emod_of_nonneg (by omega), wu32 (by omega)]; omega
  obtain ⟨y, hy, hy1⟩ : ∃ y : Nat, IntKind.u32.wrap (Int.tmod b 65536 + 1) = (y : Int) ∧ 1 ≤ y ∧ y ≤ 65536 := by
    refine ⟨(b % 65536 + 1).toNat, ?_, by omega, by omega⟩
    rw [Int.tmod_eq_emod_of_nonneg (by omega), wu32 (by omega)]; omega
  have hm : Int.tmod (k : Int) 17 = ((k % 17 : Nat) : Int) := by rw [Int.tmod_eq_emod_of_nonneg (by omega)]; rfl
  have hm1 : k % 17 ≤ 16 := by omega
  generalize k % 17 = j at hm hm1
  have hn : ((j : Int) < 0) = False := by simp
  have hp : IntKind.u32.wrap (1 * 2 ^ min (Int.toNat (j : Int)) IntKind.u32.bits) = ((2 ^ j : Nat) : Int) := by
    have e : min (Int.toNat (j : Int)) IntKind.u32.bits = j := by simp [IntKind.bits]; omega
    have h2 : 2 ^ j ≤ 2 ^ 16 := Nat.pow_le_pow_right (by omega) hm1
    rw [e, show (1 : Int) * 2 ^ j = ((2 ^ j : Nat) : Int) by simp]
    generalize 2 ^ j = q at h2
    exact wu32 (by omega)
  have hp1 : clamp ((2 ^ j : Nat) : Int) = 2 ^ j := clamp_id _ ⟨Nat.one_le_two_pow, Nat.pow_le_pow_right (n := 2) (by omega) hm1⟩
  have hL : ((LV (2 ^ j) : Nat) : Int) = ((j * 65536 : Nat) : Int) := by rw [LV_pow j hm1]
  have hw : IntKind.i64.wrap (j : Int) = j := wi64 (by omega)
  have hw2 : IntKind.i64.wrap ((j : Int) * 2 ^ min (Int.toNat 16) IntKind.i64.bits) = ((j * 65536 : Nat) : Int) := by
    show IntKind.i64.wrap ((j : Int) * 2 ^ 16) = _
    rw [wi64 (by omega)]; omega
  have l0 : LV (clamp 0) = 0 := by decide +kernel
  have l7 : LV (clamp 70000) = 1048576 := by decide +kernel
  have main : ∀ x y : Nat, 1 ≤ x → x ≤ y → y ≤ 65536 → decide (((LV x : Nat) : Int) > ((LV y : Nat) : Int)) = false := by
    intro x y h1 h2 h3
    have := LV_mono h1 h2 h3
    simp; omega
  have tail : ∀ x : Nat, 1 ≤ x ∧ x ≤ 32768 → IntKind.u32.wrap (2 * (x : Int)) = ((2 * x : Nat) : Int) ∧ clamp ((2 * x : Nat) : Int) = 2 * x ∧ ((LV (2 * x) : Nat) : Int) = ((LV x + 65536 : Nat) : Int) ∧
      IntKind.i64.wrap (((LV x : Nat) : Int) + 65536) = ((LV x + 65536 : Nat) : Int) := by
    intro x h
    have hle := LV_le (u := x) (by omega)
    exact ⟨by rw [wu32 (by omega)]; omega, clamp_id _ (by omega), by rw [LV_two h], by rw [wi64 (by omega)]; omega⟩
  have cx := clamp_id x hx1
  have cy := clamp_id y hy1
  have bne : ∀ z : Int, (z != z) = false := by simp
  by_cases hxy : x ≤ y
  · have hd : decide ((x : Int) > (y : Int)) = false := by simp; omega
    have m1 := main x y hx1.1 hxy hy1.2
    by_cases hbig : x ≤ 32768
    · have hd2 : decide ((x : Int) > 32768) = false := by simp; omega
      obtain ⟨t1, t2, t3, t4⟩ := tail x ⟨hx1.1, hbig⟩
      simp (config := {decide := true, maxSteps := 2000000}) only [c3, known_at, log_at, hx, hy, hm, hn, hp, hp1, hL, hw, hw2, l0, l7, cx, cy, hd, m1, hd2, t1, t2, t3, t4, bne, evC_seq, evC_ret, evC_region, evC_skip, evC_exit, evC_scope, evC_cond, evC_block, condC_b, keepT, List.map_cons, List.map_nil, enum, evR_nil, evR_call, evR_guard, guardR_b, lk_cons, setT_some, setT_none, Option.bind_some, Option.bind_none, thenC_nrm, thenC_ret, thenC_exit, blockC_nrm, blockC_ret, blockC_exit, endR_nil, endR_cons, endF_ret, endF_nrm, List.length_cons, List.length_nil, if_true, if_false, reduceIte, ev, actR_some, act, callR_some, callR_none, calleeR_some, callee, toDs, toD, loadA, storeA, subA, subD, updA, Eff.on, resA, resVs, resV, lk, finish, fznR, fzns, fzn, trim, lts, lt, ltO, List.take, List.all, List.append_nil, List.nil_append, List.cons_append, DV.cells, AV.cells, pairsOk, indep, subL, upd, List.getElem?_cons_zero, List.getElem?_cons_succ, List.getElem?_nil, List.set_cons_zero, List.set_cons_succ, reduceCtorEq, Nat.reduceEqDiff, Nat.reduceAdd, Nat.reduceLeDiff, Nat.add_zero, Nat.zero_add, stb, and_true, true_and, and_self, againL_nrm, evC_loop, thaws, List.getD_cons_zero, List.getD_cons_succ, List.getD_nil, List.drop, intOfA, binD, binI, unD, mmL, Bool.and_true, Bool.true_and, decide_true, decide_false, buildA, mkAgg, allD, behind, adoptR, adopt, isD, beq_self_eq_true, evR_mv, evR_pick, evR_bin, evR_eq, evR_un, evR_conv, evR_convs, evR_box, evR_build, evR_bsl, evR_load, evR_store, evR_nilck, evR_slice, evR_faddr, evR_field, evR_iaddrA, evR_iaddrS, evR_idxA, evR_idxS, evR_mkfn, evR_ext, evR_len, evR_app, evR_mm, evR_mksl, evR_cpy, evR_clr, evR_b2s, evR_isnil]
    · have hd2 : decide ((x : Int) > 32768) = true := by simp; omega
      simp (config := {decide := true, maxSteps := 2000000}) only [c3, known_at, log_at, hx, hy, hm, hn, hp, hp1, hL, hw, hw2, l0, l7, cx, cy, hd, m1, hd2, bne, evC_seq, evC_ret, evC_region, evC_skip, evC_exit, evC_scope, evC_cond, evC_block, condC_b, keepT, List.map_cons, List.map_nil, enum, evR_nil, evR_call, evR_guard, guardR_b, lk_cons, setT_some, setT_none, Option.bind_some, Option.bind_none, thenC_nrm, thenC_ret, thenC_exit, blockC_nrm, blockC_ret, blockC_exit, endR_nil, endR_cons, endF_ret, endF_nrm, List.length_cons, List.length_nil, if_true, if_false, reduceIte, ev, actR_some, act, callR_some, callR_none, calleeR_some, callee, toDs, toD, loadA, storeA, subA, subD, updA, Eff.on, resA, resVs, resV, lk, finish, fznR, fzns, fzn, trim, lts, lt, ltO, List.take, List.all, List.append_nil, List.nil_append, List.cons_append, DV.cells, AV.cells, pairsOk, indep, subL, upd, List.getElem?_cons_zero, List.getElem?_cons_succ, List.getElem?_nil, List.set_cons_zero, List.set_cons_succ, reduceCtorEq, Nat.reduceEqDiff, Nat.reduceAdd, Nat.reduceLeDiff, Nat.add_zero, Nat.zero_add, stb, and_true, true_and, and_self, againL_nrm, evC_loop, thaws, List.getD_cons_zero, List.getD_cons_succ, List.getD_nil, List.drop, intOfA, binD, binI, unD, mmL, Bool.and_true, Bool.true_and, decide_true, decide_false, buildA, mkAgg, allD, behind, adoptR, adopt, isD, beq_self_eq_true, evR_mv, evR_pick, evR_bin, evR_eq, evR_un, evR_conv, evR_convs, evR_box, evR_build, evR_bsl, evR_load, evR_store, evR_nilck, evR_slice, evR_faddr, evR_field, evR_iaddrA, evR_iaddrS, evR_idxA, evR_idxS, evR_mkfn, evR_ext, evR_len, evR_app, evR_mm, evR_mksl, evR_cpy, evR_clr, evR_b2s, evR_isnil]
  · have hd : decide ((x : Int) > (y : Int)) = true := by simp; omega
    have m1 := main y x hy1.1 (by omega) hx1.2
    by_cases hbig : y ≤ 32768
    · have hd2 : decide ((y : Int) > 32768) = false := by simp; omega
      obtain ⟨t1, t2, t3, t4⟩ := tail y ⟨hy1.1, hbig⟩
      simp (config := {decide := true, maxSteps := 2000000}) only [c3, known_at, log_at, hx, hy, hm, hn, hp, hp1, hL, hw, hw2, l0, l7, cx, cy, hd, m1, hd2, t1, t2, t3, t4, bne, evC_seq, evC_ret, evC_region, evC_skip, evC_exit, evC_scope, evC_cond, evC_block, condC_b, keepT, List.map_cons, List.map_nil, enum, evR_nil, evR_call, evR_guard, guardR_b, lk_cons, setT_some, setT_none, Option.bind_some, Option.bind_none, thenC_nrm, thenC_ret, thenC_exit, blockC_nrm, blockC_ret, blockC_exit, endR_nil, endR_cons, endF_ret, endF_nrm, List.length_cons, List.length_nil, if_true, if_false, reduceIte, ev, actR_some, act, callR_some, callR_none, calleeR_some, callee, toDs, toD, loadA, storeA, subA, subD, updA, Eff.on, resA, resVs, resV, lk, finish, fznR, fzns, fzn, trim, lts, lt, ltO, List.take, List.all, List.append_nil, List.nil_append, List.cons_append, DV.cells, AV.cells, pairsOk, indep, subL, upd, List.getElem?_cons_zero, List.getElem?_cons_succ, List.getElem?_nil, List.set_cons_zero, List.set_cons_succ, reduceCtorEq, Nat.reduceEqDiff, Nat.reduceAdd, Nat.reduceLeDiff, Nat.add_zero, Nat.zero_add, stb, and_true, true_and, and_self, againL_nrm, evC_loop, thaws, List.getD_cons_zero, List.getD_cons_succ, List.getD_nil, List.drop, intOfA, binD, binI, unD, mmL, Bool.and_true, Bool.true_and, decide_true, decide_false, buildA, mkAgg, allD, behind, adoptR, adopt, isD, beq_self_eq_true, evR_mv, evR_pick, evR_bin, evR_eq, evR_un, evR_conv, evR_convs, evR_box, evR_build, evR_bsl, evR_load, evR_store, evR_nilck, evR_slice, evR_faddr, evR_field, evR_iaddrA, evR_iaddrS, evR_idxA, evR_idxS, evR_mkfn, evR_ext, evR_len, evR_app, evR_mm, evR_mksl, evR_cpy, evR_clr, evR_b2s, evR_isnil]
    · have hd2 : decide ((y : Int) > 32768) = true := by simp; omega
      simp (config := {decide := true, maxSteps := 2000000}) only [c3, known_at, log_at, hx, hy, hm, hn, hp, hp1, hL, hw, hw2, l0, l7, cx, cy, hd, m1, hd2, bne, evC_seq, evC_ret, evC_region, evC_skip, evC_exit, evC_scope, evC_cond, evC_block, condC_b, keepT, List.map_cons, List.map_nil, enum, evR_nil, evR_call, evR_guard, guardR_b, lk_cons, setT_some, setT_none, Option.bind_some, Option.bind_none, thenC_nrm, thenC_ret, thenC_exit, blockC_nrm, blockC_ret, blockC_exit, endR_nil, endR_cons, endF_ret, endF_nrm, List.length_cons, List.length_nil, if_true, if_false, reduceIte, ev, actR_some, act, callR_some, callR_none, calleeR_some, callee, toDs, toD, loadA, storeA, subA, subD, updA, Eff.on, resA, resVs, resV, lk, finish, fznR, fzns, fzn, trim, lts, lt, ltO, List.take, List.all, List.append_nil, List.nil_append, List.cons_append, DV.cells, AV.cells, pairsOk, indep, subL, upd, List.getElem?_cons_zero, List.getElem?_cons_succ, List.getElem?_nil, List.set_cons_zero, List.set_cons_succ, reduceCtorEq, Nat.reduceEqDiff, Nat.reduceAdd, Nat.reduceLeDiff, Nat.add_zero, Nat.zero_add, stb, and_true, true_and, and_self, againL_nrm, evC_loop, thaws, List.getD_cons_zero, List.getD_cons_succ, List.getD_nil, List.drop, intOfA, binD, binI, unD, mmL, Bool.and_true, Bool.true_and, decide_true, decide_false, buildA, mkAgg, allD, behind, adoptR, adopt, isD, beq_self_eq_true, evR_mv, evR_pick, evR_bin, evR_eq, evR_un, evR_conv, evR_convs, evR_box, evR_build, evR_bsl, evR_load, evR_store, evR_nilck, evR_slice, evR_faddr, evR_field, evR_iaddrA, evR_iaddrS, evR_idxA, evR_idxS, evR_mkfn, evR_ext, evR_len, evR_app, evR_mm, evR_mksl, evR_cpy, evR_clr, evR_b2s, evR_isnil]
end Go.Proofs.Ytpbcjmgjdiiafaa
