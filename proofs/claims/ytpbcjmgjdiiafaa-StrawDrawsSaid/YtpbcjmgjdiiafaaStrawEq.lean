/- What the straw layer's functions compute, in plain terms. -/
import Derived.Test.YtpbcjmgjdiiafaaStrawCode
import Derived.Test.YtpbcjmgjdiiafaaPvMath
set_option linter.all false
namespace Go.Proofs.Ytpbcjmgjdiiafaa
open Pv Go
set_option maxRecDepth 10000

def mul31 (x : Int) : Int := (IntKind.u64.wrap (x * x)).fdiv (2 ^ min (Int.toNat 31) IntKind.u64.bits)
def dbl (b : Int) : Int := IntKind.i64.wrap (b * 2 ^ min (Int.toNat 1) IntKind.i64.bits)
def stepX (x : Int) : Int := if mul31 x ≥ 4294967296 then (mul31 x).fdiv (2 ^ min (Int.toNat 1) IntKind.u64.bits) else mul31 x
def stepB (x b : Int) : Int := if mul31 x ≥ 4294967296 then Pv.bits .i64 (fun x1 x2 => x1 ||| x2) (dbl b) 1 else dbl b

theorem step_ok (x : Int) (b : Int) : evF C 19 [.ptr 0 0] [.box (.d (.agg [.i .u64 x, .i .i64 b]))] = some (.tup [], [.box (.d (.agg [.i .u64 (stepX x), .i .i64 (stepB x b)]))]) := by
  rw [evF_code (rfl : C 19 = some a19) _ _ rfl]
  by_cases hc : mul31 x ≥ 4294967296
  · have hd : decide (mul31 x ≥ 4294967296) = true := decide_eq_true hc
    unfold stepX stepB
    rw [if_pos hc, if_pos hc]
    unfold mul31 dbl at *
    simp (config := {decide := true}) only [c19, hd, evC_seq, evC_ret, evC_region, evC_skip, evC_exit, evC_scope, evC_cond, evC_block, condC_b, keepT, List.map_cons, List.map_nil, enum, evR_nil, evR_call, evR_guard, guardR_b, lk_cons, setT_some, setT_none, Option.bind_some, Option.bind_none, thenC_nrm, thenC_ret, thenC_exit, blockC_nrm, blockC_ret, blockC_exit, endR_nil, endR_cons, endF_ret, endF_nrm, List.length_cons, List.length_nil, if_true, if_false, reduceIte, ev, actR_some, act, callR_some, callR_none, calleeR_some, callee, toDs, toD, loadA, storeA, subA, subD, updA, Eff.on, resA, resVs, resV, lk, finish, fznR, fzns, fzn, trim, lts, lt, ltO, List.take, List.all, List.append_nil, List.nil_append, List.cons_append, DV.cells, AV.cells, pairsOk, indep, subL, upd, List.getElem?_cons_zero, List.getElem?_cons_succ, List.getElem?_nil, List.set_cons_zero, List.set_cons_succ, reduceCtorEq, Nat.reduceEqDiff, Nat.reduceAdd, Nat.reduceLeDiff, Nat.add_zero, Nat.zero_add, stb, and_true, true_and, and_self, againL_nrm, evC_loop, thaws, List.getD_cons_zero, List.getD_cons_succ, List.getD_nil, List.drop, intOfA, binD, binI, unD, mmL, Bool.and_true, Bool.true_and, decide_true, decide_false, buildA, mkAgg, allD, behind, adoptR, adopt, isD, beq_self_eq_true, evR_mv, evR_pick, evR_bin, evR_eq, evR_un, evR_conv, evR_convs, evR_box, evR_build, evR_bsl, evR_load, evR_store, evR_nilck, evR_slice, evR_faddr, evR_field, evR_iaddrA, evR_iaddrS, evR_idxA, evR_idxS, evR_mkfn, evR_ext, evR_len, evR_app, evR_mm, evR_mksl, evR_cpy, evR_clr, evR_b2s, evR_isnil]
  · have hd : decide (mul31 x ≥ 4294967296) = false := decide_eq_false hc
    unfold stepX stepB
    rw [if_neg hc, if_neg hc]
    unfold mul31 dbl at *
    simp (config := {decide := true}) only [c19, hd, evC_seq, evC_ret, evC_region, evC_skip, evC_exit, evC_scope, evC_cond, evC_block, condC_b, keepT, List.map_cons, List.map_nil, enum, evR_nil, evR_call, evR_guard, guardR_b, lk_cons, setT_some, setT_none, Option.bind_some, Option.bind_none, thenC_nrm, thenC_ret, thenC_exit, blockC_nrm, blockC_ret, blockC_exit, endR_nil, endR_cons, endF_ret, endF_nrm, List.length_cons, List.length_nil, if_true, if_false, reduceIte, ev, actR_some, act, callR_some, callR_none, calleeR_some, callee, toDs, toD, loadA, storeA, subA, subD, updA, Eff.on, resA, resVs, resV, lk, finish, fznR, fzns, fzn, trim, lts, lt, ltO, List.take, List.all, List.append_nil, List.nil_append, List.cons_append, DV.cells, AV.cells, pairsOk, indep, subL, upd, List.getElem?_cons_zero, List.getElem?_cons_succ, List.getElem?_nil, List.set_cons_zero, List.set_cons_succ, reduceCtorEq, Nat.reduceEqDiff, Nat.reduceAdd, Nat.reduceLeDiff, Nat.add_zero, Nat.zero_add, stb, and_true, true_and, and_self, againL_nrm, evC_loop, thaws, List.getD_cons_zero, List.getD_cons_succ, List.getD_nil, List.drop, intOfA, binD, binI, unD, mmL, Bool.and_true, Bool.true_and, decide_true, decide_false, buildA, mkAgg, allD, behind, adoptR, adopt, isD, beq_self_eq_true, evR_mv, evR_pick, evR_bin, evR_eq, evR_un, evR_conv, evR_convs, evR_box, evR_build, evR_bsl, evR_load, evR_store, evR_nilck, evR_slice, evR_faddr, evR_field, evR_iaddrA, evR_iaddrS, evR_idxA, evR_idxS, evR_mkfn, evR_ext, evR_len, evR_app, evR_mm, evR_mksl, evR_cpy, evR_clr, evR_b2s, evR_isnil]

def mixR (x c : Int) : Int := IntKind.u64.wrap (Pv.bits .u64 (fun a b => a ^^^ b) x (x.fdiv (2 ^ min (Int.toNat 33) IntKind.u64.bits)) * c)
def mixI (x : Int) : Int :=
  Pv.bits .u64 (fun a b => a ^^^ b) (mixR (mixR x 18397679294719823053) 14181476777654086739) ((mixR (mixR x 18397679294719823053) 14181476777654086739).fdiv (2 ^ min (Int.toNat 33) IntKind.u64.bits))
theorem mix_ok (x : Int) : evF C 21 [.d (.i .u64 x)] [] = some (.d (.i .u64 (mixI x)), []) := by
  rw [evF_code (rfl : C 21 = some a21) _ _ rfl]
  simp (config := {decide := true}) only [c21, mixI, mixR, evC_seq, evC_ret, evC_region, evC_skip, evC_exit, evC_scope, evC_cond, evC_block, condC_b, keepT, List.map_cons, List.map_nil, enum, evR_nil, evR_call, evR_guard, guardR_b, lk_cons, setT_some, setT_none, Option.bind_some, Option.bind_none, thenC_nrm, thenC_ret, thenC_exit, blockC_nrm, blockC_ret, blockC_exit, endR_nil, endR_cons, endF_ret, endF_nrm, List.length_cons, List.length_nil, if_true, if_false, reduceIte, ev, actR_some, act, callR_some, callR_none, calleeR_some, callee, toDs, toD, loadA, storeA, subA, subD, updA, Eff.on, resA, resVs, resV, lk, finish, fznR, fzns, fzn, trim, lts, lt, ltO, List.take, List.all, List.append_nil, List.nil_append, List.cons_append, DV.cells, AV.cells, pairsOk, indep, subL, upd, List.getElem?_cons_zero, List.getElem?_cons_succ, List.getElem?_nil, List.set_cons_zero, List.set_cons_succ, reduceCtorEq, Nat.reduceEqDiff, Nat.reduceAdd, Nat.reduceLeDiff, Nat.add_zero, Nat.zero_add, stb, and_true, true_and, and_self, againL_nrm, evC_loop, thaws, List.getD_cons_zero, List.getD_cons_succ, List.getD_nil, List.drop, intOfA, binD, binI, unD, mmL, Bool.and_true, Bool.true_and, decide_true, decide_false, buildA, mkAgg, allD, behind, adoptR, adopt, isD, beq_self_eq_true, evR_mv, evR_pick, evR_bin, evR_eq, evR_un, evR_conv, evR_convs, evR_box, evR_build, evR_bsl, evR_load, evR_store, evR_nilck, evR_slice, evR_faddr, evR_field, evR_iaddrA, evR_iaddrS, evR_idxA, evR_idxS, evR_mkfn, evR_ext, evR_len, evR_app, evR_mm, evR_mksl, evR_cpy, evR_clr, evR_b2s, evR_isnil]
theorem mix'_ok (x : Int) : evF C 22 [.d (.i .u64 x)] [] = some (.d (.i .u64 (mixI x)), []) := by
  rw [evF_code (rfl : C 22 = some a22) _ _ rfl]
  simp (config := {decide := true}) only [c22, mixI, mixR, evC_seq, evC_ret, evC_region, evC_skip, evC_exit, evC_scope, evC_cond, evC_block, condC_b, keepT, List.map_cons, List.map_nil, enum, evR_nil, evR_call, evR_guard, guardR_b, lk_cons, setT_some, setT_none, Option.bind_some, Option.bind_none, thenC_nrm, thenC_ret, thenC_exit, blockC_nrm, blockC_ret, blockC_exit, endR_nil, endR_cons, endF_ret, endF_nrm, List.length_cons, List.length_nil, if_true, if_false, reduceIte, ev, actR_some, act, callR_some, callR_none, calleeR_some, callee, toDs, toD, loadA, storeA, subA, subD, updA, Eff.on, resA, resVs, resV, lk, finish, fznR, fzns, fzn, trim, lts, lt, ltO, List.take, List.all, List.append_nil, List.nil_append, List.cons_append, DV.cells, AV.cells, pairsOk, indep, subL, upd, List.getElem?_cons_zero, List.getElem?_cons_succ, List.getElem?_nil, List.set_cons_zero, List.set_cons_succ, reduceCtorEq, Nat.reduceEqDiff, Nat.reduceAdd, Nat.reduceLeDiff, Nat.add_zero, Nat.zero_add, stb, and_true, true_and, and_self, againL_nrm, evC_loop, thaws, List.getD_cons_zero, List.getD_cons_succ, List.getD_nil, List.drop, intOfA, binD, binI, unD, mmL, Bool.and_true, Bool.true_and, decide_true, decide_false, buildA, mkAgg, allD, behind, adoptR, adopt, isD, beq_self_eq_true, evR_mv, evR_pick, evR_bin, evR_eq, evR_un, evR_conv, evR_convs, evR_box, evR_build, evR_bsl, evR_load, evR_store, evR_nilck, evR_slice, evR_faddr, evR_field, evR_iaddrA, evR_iaddrS, evR_idxA, evR_idxS, evR_mkfn, evR_ext, evR_len, evR_app, evR_mm, evR_mksl, evR_cpy, evR_clr, evR_b2s, evR_isnil]
def hashI (a b c : Int) : Int := IntKind.u32.wrap (mixI (IntKind.u64.wrap (mixI (IntKind.u64.wrap (mixI (IntKind.u64.wrap a) + IntKind.u64.wrap b)) + IntKind.u64.wrap c)))
theorem hash_ok (a b c : Int) : evF C 17 [.d (.i .u32 a), .d (.i .u32 b), .d (.i .u32 c)] [] = some (.d (.i .u32 (hashI a b c)), []) := by
  rw [evF_code (rfl : C 17 = some a17) _ _ rfl]
  simp (config := {decide := true}) only [c17, hashI, mix_ok, evC_seq, evC_ret, evC_region, evC_skip, evC_exit, evC_scope, evC_cond, evC_block, condC_b, keepT, List.map_cons, List.map_nil, enum, evR_nil, evR_call, evR_guard, guardR_b, lk_cons, setT_some, setT_none, Option.bind_some, Option.bind_none, thenC_nrm, thenC_ret, thenC_exit, blockC_nrm, blockC_ret, blockC_exit, endR_nil, endR_cons, endF_ret, endF_nrm, List.length_cons, List.length_nil, if_true, if_false, reduceIte, ev, actR_some, act, callR_some, callR_none, calleeR_some, callee, toDs, toD, loadA, storeA, subA, subD, updA, Eff.on, resA, resVs, resV, lk, finish, fznR, fzns, fzn, trim, lts, lt, ltO, List.take, List.all, List.append_nil, List.nil_append, List.cons_append, DV.cells, AV.cells, pairsOk, indep, subL, upd, List.getElem?_cons_zero, List.getElem?_cons_succ, List.getElem?_nil, List.set_cons_zero, List.set_cons_succ, reduceCtorEq, Nat.reduceEqDiff, Nat.reduceAdd, Nat.reduceLeDiff, Nat.add_zero, Nat.zero_add, stb, and_true, true_and, and_self, againL_nrm, evC_loop, thaws, List.getD_cons_zero, List.getD_cons_succ, List.getD_nil, List.drop, intOfA, binD, binI, unD, mmL, Bool.and_true, Bool.true_and, decide_true, decide_false, buildA, mkAgg, allD, behind, adoptR, adopt, isD, beq_self_eq_true, evR_mv, evR_pick, evR_bin, evR_eq, evR_un, evR_conv, evR_convs, evR_box, evR_build, evR_bsl, evR_load, evR_store, evR_nilck, evR_slice, evR_faddr, evR_field, evR_iaddrA, evR_iaddrS, evR_idxA, evR_idxS, evR_mkfn, evR_ext, evR_len, evR_app, evR_mm, evR_mksl, evR_cpy, evR_clr, evR_b2s, evR_isnil]
theorem hash'_ok (a b c : Int) : evF C 20 [.d (.i .u32 a), .d (.i .u32 b), .d (.i .u32 c)] [] = some (.d (.i .u32 (hashI a b c)), []) := by
  rw [evF_code (rfl : C 20 = some a20) _ _ rfl]
  simp (config := {decide := true}) only [c20, hashI, mix'_ok, evC_seq, evC_ret, evC_region, evC_skip, evC_exit, evC_scope, evC_cond, evC_block, condC_b, keepT, List.map_cons, List.map_nil, enum, evR_nil, evR_call, evR_guard, guardR_b, lk_cons, setT_some, setT_none, Option.bind_some, Option.bind_none, thenC_nrm, thenC_ret, thenC_exit, blockC_nrm, blockC_ret, blockC_exit, endR_nil, endR_cons, endF_ret, endF_nrm, List.length_cons, List.length_nil, if_true, if_false, reduceIte, ev, actR_some, act, callR_some, callR_none, calleeR_some, callee, toDs, toD, loadA, storeA, subA, subD, updA, Eff.on, resA, resVs, resV, lk, finish, fznR, fzns, fzn, trim, lts, lt, ltO, List.take, List.all, List.append_nil, List.nil_append, List.cons_append, DV.cells, AV.cells, pairsOk, indep, subL, upd, List.getElem?_cons_zero, List.getElem?_cons_succ, List.getElem?_nil, List.set_cons_zero, List.set_cons_succ, reduceCtorEq, Nat.reduceEqDiff, Nat.reduceAdd, Nat.reduceLeDiff, Nat.add_zero, Nat.zero_add, stb, and_true, true_and, and_self, againL_nrm, evC_loop, thaws, List.getD_cons_zero, List.getD_cons_succ, List.getD_nil, List.drop, intOfA, binD, binI, unD, mmL, Bool.and_true, Bool.true_and, decide_true, decide_false, buildA, mkAgg, allD, behind, adoptR, adopt, isD, beq_self_eq_true, evR_mv, evR_pick, evR_bin, evR_eq, evR_un, evR_conv, evR_convs, evR_box, evR_build, evR_bsl, evR_load, evR_store, evR_nilck, evR_slice, evR_faddr, evR_field, evR_iaddrA, evR_iaddrS, evR_idxA, evR_idxS, evR_mkfn, evR_ext, evR_len, evR_app, evR_mm, evR_mksl, evR_cpy, evR_clr, evR_b2s, evR_isnil]

theorem tab_len : ∀ i < 256, 1 ≤ i → tab0[i]? = some (UInt8.ofNat (Nat.log2 i + 1)) ∧ (UInt8.ofNat (Nat.log2 i + 1)).toNat = Nat.log2 i + 1 := by decide +kernel

theorem tab_at (x : Nat) (h : 1 ≤ x ∧ x < 256) : ∃ c : UInt8, (if 0 ≤ (x : Int) then tab0[(x : Int).toNat]? else none) = some c ∧ (c.toNat : Int) = ((Nat.log2 x + 1 : Nat) : Int) ∧ Nat.log2 x < 8 := by
  obtain ⟨h1, h2⟩ := tab_len x h.2 h.1
  refine ⟨_, ?_, congrArg _ h2, (Nat.log2_lt (by omega)).2 h.2⟩
  rw [if_pos (by omega), Int.toNat_natCast, h1]

theorem len_ok (x : Nat) (h : 1 ≤ x ∧ x ≤ 65536) : evF C 18 [.d (.i .u32 (x : Int))] [] = some (.d (.i .i64 ((Nat.log2 x + 1 : Nat) : Int)), []) := by
  rw [evF_code (rfl : C 18 = some a18) _ _ rfl]
  by_cases h1 : x = 65536
  · subst h1
    have ht : tab0[(IntKind.u8.wrap (((65536 : Nat) : Int).fdiv (2 ^ min (Int.toNat 16) IntKind.u32.bits))).toNat]? = some 1 := by decide +kernel
    simp (config := {decide := true}) only [c18, ht, evC_seq, evC_ret, evC_region, evC_skip, evC_exit, evC_scope, evC_cond, evC_block, condC_b, keepT, List.map_cons, List.map_nil, enum, evR_nil, evR_call, evR_guard, guardR_b, lk_cons, setT_some, setT_none, Option.bind_some, Option.bind_none, thenC_nrm, thenC_ret, thenC_exit, blockC_nrm, blockC_ret, blockC_exit, endR_nil, endR_cons, endF_ret, endF_nrm, List.length_cons, List.length_nil, if_true, if_false, reduceIte, ev, actR_some, act, callR_some, callR_none, calleeR_some, callee, toDs, toD, loadA, storeA, subA, subD, updA, Eff.on, resA, resVs, resV, lk, finish, fznR, fzns, fzn, trim, lts, lt, ltO, List.take, List.all, List.append_nil, List.nil_append, List.cons_append, DV.cells, AV.cells, pairsOk, indep, subL, upd, List.getElem?_cons_zero, List.getElem?_cons_succ, List.getElem?_nil, List.set_cons_zero, List.set_cons_succ, reduceCtorEq, Nat.reduceEqDiff, Nat.reduceAdd, Nat.reduceLeDiff, Nat.add_zero, Nat.zero_add, stb, and_true, true_and, and_self, againL_nrm, evC_loop, thaws, List.getD_cons_zero, List.getD_cons_succ, List.getD_nil, List.drop, intOfA, binD, binI, unD, mmL, Bool.and_true, Bool.true_and, decide_true, decide_false, buildA, mkAgg, allD, behind, adoptR, adopt, isD, beq_self_eq_true, evR_mv, evR_pick, evR_bin, evR_eq, evR_un, evR_conv, evR_convs, evR_box, evR_build, evR_bsl, evR_load, evR_store, evR_nilck, evR_slice, evR_faddr, evR_field, evR_iaddrA, evR_iaddrS, evR_idxA, evR_idxS, evR_mkfn, evR_ext, evR_len, evR_app, evR_mm, evR_mksl, evR_cpy, evR_clr, evR_b2s, evR_isnil]
    rfl
  · by_cases h2 : x < 256
    · have hd1 : decide ((x : Int) ≥ 65536) = false := by simp; omega
      have hd2 : decide ((x : Int) ≥ 256) = false := by simp; omega
      have hw : IntKind.u8.wrap (x : Int) = x := wu8 (by omega)
      obtain ⟨c, hc, hcn, hl⟩ := tab_at x ⟨h.1, h2⟩
      simp (config := {decide := true}) only [c18, hd1, hd2, hw, hc, evC_seq, evC_ret, evC_region, evC_skip, evC_exit, evC_scope, evC_cond, evC_block, condC_b, keepT, List.map_cons, List.map_nil, enum, evR_nil, evR_call, evR_guard, guardR_b, lk_cons, setT_some, setT_none, Option.bind_some, Option.bind_none, thenC_nrm, thenC_ret, thenC_exit, blockC_nrm, blockC_ret, blockC_exit, endR_nil, endR_cons, endF_ret, endF_nrm, List.length_cons, List.length_nil, if_true, if_false, reduceIte, ev, actR_some, act, callR_some, callR_none, calleeR_some, callee, toDs, toD, loadA, storeA, subA, subD, updA, Eff.on, resA, resVs, resV, lk, finish, fznR, fzns, fzn, trim, lts, lt, ltO, List.take, List.all, List.append_nil, List.nil_append, List.cons_append, DV.cells, AV.cells, pairsOk, indep, subL, upd, List.getElem?_cons_zero, List.getElem?_cons_succ, List.getElem?_nil, List.set_cons_zero, List.set_cons_succ, reduceCtorEq, Nat.reduceEqDiff, Nat.reduceAdd, Nat.reduceLeDiff, Nat.add_zero, Nat.zero_add, stb, and_true, true_and, and_self, againL_nrm, evC_loop, thaws, List.getD_cons_zero, List.getD_cons_succ, List.getD_nil, List.drop, intOfA, binD, binI, unD, mmL, Bool.and_true, Bool.true_and, decide_true, decide_false, buildA, mkAgg, allD, behind, adoptR, adopt, isD, beq_self_eq_true, evR_mv, evR_pick, evR_bin, evR_eq, evR_un, evR_conv, evR_convs, evR_box, evR_build, evR_bsl, evR_load, evR_store, evR_nilck, evR_slice, evR_faddr, evR_field, evR_iaddrA, evR_iaddrS, evR_idxA, evR_idxS, evR_mkfn, evR_ext, evR_len, evR_app, evR_mm, evR_mksl, evR_cpy, evR_clr, evR_b2s, evR_isnil]
      rw [hcn, wi64 (n := ((Nat.log2 x + 1 : Nat) : Int)) (by omega), wi64 (by omega)]
      simp
    · have hd1 : decide ((x : Int) ≥ 65536) = false := by simp; omega
      have hd2 : decide ((x : Int) ≥ 256) = true := by simp; omega
      have hs : (x : Int).fdiv (2 ^ min (Int.toNat 8) IntKind.u32.bits) = ((x / 256 : Nat) : Int) := fdivN x 256
      have hy : 1 ≤ x / 256 ∧ x / 256 < 256 := by omega
      have hw : IntKind.u8.wrap ((x / 256 : Nat) : Int) = ((x / 256 : Nat) : Int) := wu8 (by omega)
      obtain ⟨c, hc, hcn, hl⟩ := tab_at (x / 256) hy
      have hlog : Nat.log2 x = Nat.log2 (x / 256) + 8 := log2_div x 8 (by omega)
      simp (config := {decide := true}) only [c18, hd1, hd2, hs, hw, hc, evC_seq, evC_ret, evC_region, evC_skip, evC_exit, evC_scope, evC_cond, evC_block, condC_b, keepT, List.map_cons, List.map_nil, enum, evR_nil, evR_call, evR_guard, guardR_b, lk_cons, setT_some, setT_none, Option.bind_some, Option.bind_none, thenC_nrm, thenC_ret, thenC_exit, blockC_nrm, blockC_ret, blockC_exit, endR_nil, endR_cons, endF_ret, endF_nrm, List.length_cons, List.length_nil, if_true, if_false, reduceIte, ev, actR_some, act, callR_some, callR_none, calleeR_some, callee, toDs, toD, loadA, storeA, subA, subD, updA, Eff.on, resA, resVs, resV, lk, finish, fznR, fzns, fzn, trim, lts, lt, ltO, List.take, List.all, List.append_nil, List.nil_append, List.cons_append, DV.cells, AV.cells, pairsOk, indep, subL, upd, List.getElem?_cons_zero, List.getElem?_cons_succ, List.getElem?_nil, List.set_cons_zero, List.set_cons_succ, reduceCtorEq, Nat.reduceEqDiff, Nat.reduceAdd, Nat.reduceLeDiff, Nat.add_zero, Nat.zero_add, stb, and_true, true_and, and_self, againL_nrm, evC_loop, thaws, List.getD_cons_zero, List.getD_cons_succ, List.getD_nil, List.drop, intOfA, binD, binI, unD, mmL, Bool.and_true, Bool.true_and, decide_true, decide_false, buildA, mkAgg, allD, behind, adoptR, adopt, isD, beq_self_eq_true, evR_mv, evR_pick, evR_bin, evR_eq, evR_un, evR_conv, evR_convs, evR_box, evR_build, evR_bsl, evR_load, evR_store, evR_nilck, evR_slice, evR_faddr, evR_field, evR_iaddrA, evR_iaddrS, evR_idxA, evR_idxS, evR_mkfn, evR_ext, evR_len, evR_app, evR_mm, evR_mksl, evR_cpy, evR_clr, evR_b2s, evR_isnil]
      rw [hcn, wi64 (n := ((Nat.log2 (x / 256) + 1 : Nat) : Int)) (by omega), wi64 (n := (0 + 8 : Int)) (by omega), wi64 (by omega)]
      simp
      omega

def iter : Nat → Int × Int → Int × Int
  | 0, p => p
  | n + 1, p => iter n (stepX p.1, stepB p.1 p.2)

def loop10 : ACode := .seq (.region (some [3, 4, 5, 21]) [⟨(some 22), .bin .lss (.t 21) (.c (.d (.i .i64 16))), none⟩] [])
   (.seq (.cond (.t 22) (.skip) (.exit 0))
   (.seq (.block 1 (.region (some [3, 4, 5, 21]) [⟨(some 23), .mv (.t 5), none⟩,
      ⟨(some 24), .call (.t 23) [], none⟩] []))
   (.region (some [3, 4, 5, 21]) [⟨(some 25), .bin .add (.t 21) (.c (.d (.i .i64 1))), none⟩,
     ⟨(some 21), .mv (.t 25), none⟩] [])))

theorem loop10_ok (k : Int) : ∀ (n i : Nat) (x b : Int) (T : Tm), i + n = 16 → lk T 3 = .d (.i .i64 k) → lk T 4 = .ptr 0 0 → lk T 5 = .fn 19 [.ptr 0 0] [] → lk T 21 = .d (.i .i64 i) →
    ∃ T', evL C (some [3, 4, 5, 21]) loop10 1 T [.box (.d (.agg [.i .u64 x, .i .i64 b]))] = some (.exit 0, T', [.box (.d (.agg [.i .u64 (iter n (x, b)).1, .i .i64 (iter n (x, b)).2]))]) ∧
      lk T' 3 = .d (.i .i64 k) ∧ lk T' 4 = .ptr 0 0
  | 0, i, x, b, T, hi, h3, h4, h5, h21 => by
    have hd : decide ((i : Int) < 16) = false := by simp; omega
    obtain ⟨g, hg⟩ : ∃ g, g = againL C (some [3, 4, 5, 21]) loop10 1 := ⟨_, rfl⟩
    rw [evL_eq, ← hg]
    simp (config := {decide := true}) only [loop10, hd, h3, h4, h5, h21, evC_seq, evC_ret, evC_region, evC_skip, evC_exit, evC_scope, evC_cond, evC_block, condC_b, keepT, List.map_cons, List.map_nil, enum, evR_nil, evR_call, evR_guard, guardR_b, lk_cons, setT_some, setT_none, Option.bind_some, Option.bind_none, thenC_nrm, thenC_ret, thenC_exit, blockC_nrm, blockC_ret, blockC_exit, endR_nil, endR_cons, endF_ret, endF_nrm, List.length_cons, List.length_nil, if_true, if_false, reduceIte, ev, actR_some, act, callR_some, callR_none, calleeR_some, callee, toDs, toD, loadA, storeA, subA, subD, updA, Eff.on, resA, resVs, resV, lk, finish, fznR, fzns, fzn, trim, lts, lt, ltO, List.take, List.all, List.append_nil, List.nil_append, List.cons_append, DV.cells, AV.cells, pairsOk, indep, subL, upd, List.getElem?_cons_zero, List.getElem?_cons_succ, List.getElem?_nil, List.set_cons_zero, List.set_cons_succ, reduceCtorEq, Nat.reduceEqDiff, Nat.reduceAdd, Nat.reduceLeDiff, Nat.add_zero, Nat.zero_add, stb, and_true, true_and, and_self, againL_nrm, evC_loop, thaws, List.getD_cons_zero, List.getD_cons_succ, List.getD_nil, List.drop, intOfA, binD, binI, unD, mmL, Bool.and_true, Bool.true_and, decide_true, decide_false, buildA, mkAgg, allD, behind, adoptR, adopt, isD, beq_self_eq_true, evR_mv, evR_pick, evR_bin, evR_eq, evR_un, evR_conv, evR_convs, evR_box, evR_build, evR_bsl, evR_load, evR_store, evR_nilck, evR_slice, evR_faddr, evR_field, evR_iaddrA, evR_iaddrS, evR_idxA, evR_idxS, evR_mkfn, evR_ext, evR_len, evR_app, evR_mm, evR_mksl, evR_cpy, evR_clr, evR_b2s, evR_isnil]
    rw [hg]
    exact ⟨_, rfl, rfl, rfl⟩
  | n + 1, i, x, b, T, hi, h3, h4, h5, h21 => by
    have hd : decide ((i : Int) < 16) = true := by simp; omega
    have hw : IntKind.i64.wrap ((i : Int) + 1) = ((i + 1 : Nat) : Int) := wi64 (by omega)
    obtain ⟨g, hg⟩ : ∃ g, g = againL C (some [3, 4, 5, 21]) loop10 1 := ⟨_, rfl⟩
    rw [evL_eq, ← hg]
    simp (config := {decide := true}) only [loop10, hd, hw, step_ok, h3, h4, h5, h21, evC_seq, evC_ret, evC_region, evC_skip, evC_exit, evC_scope, evC_cond, evC_block, condC_b, keepT, List.map_cons, List.map_nil, enum, evR_nil, evR_call, evR_guard, guardR_b, lk_cons, setT_some, setT_none, Option.bind_some, Option.bind_none, thenC_nrm, thenC_ret, thenC_exit, blockC_nrm, blockC_ret, blockC_exit, endR_nil, endR_cons, endF_ret, endF_nrm, List.length_cons, List.length_nil, if_true, if_false, reduceIte, ev, actR_some, act, callR_some, callR_none, calleeR_some, callee, toDs, toD, loadA, storeA, subA, subD, updA, Eff.on, resA, resVs, resV, lk, finish, fznR, fzns, fzn, trim, lts, lt, ltO, List.take, List.all, List.append_nil, List.nil_append, List.cons_append, DV.cells, AV.cells, pairsOk, indep, subL, upd, List.getElem?_cons_zero, List.getElem?_cons_succ, List.getElem?_nil, List.set_cons_zero, List.set_cons_succ, reduceCtorEq, Nat.reduceEqDiff, Nat.reduceAdd, Nat.reduceLeDiff, Nat.add_zero, Nat.zero_add, stb, and_true, true_and, and_self, againL_nrm, evC_loop, thaws, List.getD_cons_zero, List.getD_cons_succ, List.getD_nil, List.drop, intOfA, binD, binI, unD, mmL, Bool.and_true, Bool.true_and, decide_true, decide_false, buildA, mkAgg, allD, behind, adoptR, adopt, isD, beq_self_eq_true, evR_mv, evR_pick, evR_bin, evR_eq, evR_un, evR_conv, evR_convs, evR_box, evR_build, evR_bsl, evR_load, evR_store, evR_nilck, evR_slice, evR_faddr, evR_field, evR_iaddrA, evR_iaddrS, evR_idxA, evR_idxS, evR_mkfn, evR_ext, evR_len, evR_app, evR_mm, evR_mksl, evR_cpy, evR_clr, evR_b2s, evR_isnil]
    rw [hg, againL_nrm]
    exact loop10_ok k n (i + 1) _ _ _ (by omega) rfl rfl rfl rfl

def logV (u : Nat) : Int := IntKind.i64.wrap (IntKind.i64.wrap ((Nat.log2 u : Nat) * 2 ^ min (Int.toNat 16) IntKind.i64.bits) + (iter 16 (((u * 2 ^ (31 - Nat.log2 u) : Nat) : Int), 0)).2)

def clamp (u : Int) : Nat := (mmI false (mmI true u 1) 65536).toNat
theorem clamp_ok (u : Int) : mmI false (mmI true u 1) 65536 = (clamp u : Int) ∧ 1 ≤ clamp u ∧ clamp u ≤ 65536 := by
  unfold clamp
  have : 1 ≤ mmI false (mmI true u 1) 65536 ∧ mmI false (mmI true u 1) 65536 ≤ 65536 := by
    simp only [mmI]; simp; split <;> split <;> omega
  omega

theorem log2_le (u : Nat) (h : 1 ≤ u ∧ u ≤ 65536) : Nat.log2 u ≤ 16 := by
  have := (Nat.log2_lt (k := 17) (by omega : u ≠ 0)).2 (by omega)
  omega
theorem mant_lt (u : Nat) (h : 1 ≤ u ∧ u ≤ 65536) : 2147483648 ≤ u * 2 ^ (31 - Nat.log2 u) ∧ u * 2 ^ (31 - Nat.log2 u) < 4294967296 := by
  have hl := log2_le u h
  have h1 : 2 ^ Nat.log2 u ≤ u := (Nat.le_log2 (by omega)).1 (Nat.le_refl _)
  have h2 : u < 2 ^ (Nat.log2 u + 1) := (Nat.log2_lt (by omega)).1 (by omega)
  have e : 2 ^ Nat.log2 u * 2 ^ (31 - Nat.log2 u) = 2147483648 := by rw [← Nat.pow_add, show Nat.log2 u + (31 - Nat.log2 u) = 31 by omega]
  have e2 : 2 ^ (Nat.log2 u + 1) * 2 ^ (31 - Nat.log2 u) = 4294967296 := by rw [← Nat.pow_add, show Nat.log2 u + 1 + (31 - Nat.log2 u) = 32 by omega]
  exact ⟨by rw [← e]; exact Nat.mul_le_mul_right _ h1, by rw [← e2]; exact Nat.mul_lt_mul_of_pos_right h2 (Nat.two_pow_pos _)⟩

theorem log_ok (u : Int) : evF C 10 [.d (.i .u32 u)] [] = some (.d (.i .i64 (logV (clamp u))), []) := by
  rw [evF_code (rfl : C 10 = some a10) _ _ rfl]
  obtain ⟨hc, h1, h2⟩ := clamp_ok u
  generalize clamp u = v at hc h1 h2
  have hl := log2_le v ⟨h1, h2⟩
  have hm := mant_lt v ⟨h1, h2⟩
  have hlen := len_ok v ⟨h1, h2⟩
  have w1 : IntKind.i64.wrap (((Nat.log2 v + 1 : Nat) : Int) - 1) = (Nat.log2 v : Nat) := by rw [wi64 (by omega)]; omega
  have w2 : IntKind.u64.wrap (v : Int) = v := wu64 (by omega)
  have w3 : IntKind.i64.wrap (31 - (Nat.log2 v : Nat)) = ((31 - Nat.log2 v : Nat) : Int) := by rw [wi64 (by omega)]; omega
  have w4 : (((31 - Nat.log2 v : Nat) : Int) < 0) = False := by simp
  have w5 : IntKind.u64.wrap ((v : Int) * 2 ^ min (Int.toNat ((31 - Nat.log2 v : Nat) : Int)) IntKind.u64.bits) = ((v * 2 ^ (31 - Nat.log2 v) : Nat) : Int) := by
    have e : min (Int.toNat ((31 - Nat.log2 v : Nat) : Int)) IntKind.u64.bits = 31 - Nat.log2 v := by simp [IntKind.bits]; omega
    rw [e, show ((v : Int) * 2 ^ (31 - Nat.log2 v)) = ((v * 2 ^ (31 - Nat.log2 v) : Nat) : Int) by simp]
    exact wu64 (by omega)
  simp (config := {decide := true}) only [c10, hc, hlen, w1, w2, w3, w4, w5, evC_seq, evC_ret, evC_region, evC_skip, evC_exit, evC_scope, evC_cond, evC_block, condC_b, keepT, List.map_cons, List.map_nil, enum, evR_nil, evR_call, evR_guard, guardR_b, lk_cons, setT_some, setT_none, Option.bind_some, Option.bind_none, thenC_nrm, thenC_ret, thenC_exit, blockC_nrm, blockC_ret, blockC_exit, endR_nil, endR_cons, endF_ret, endF_nrm, List.length_cons, List.length_nil, if_true, if_false, reduceIte, ev, actR_some, act, callR_some, callR_none, calleeR_some, callee, toDs, toD, loadA, storeA, subA, subD, updA, Eff.on, resA, resVs, resV, lk, finish, fznR, fzns, fzn, trim, lts, lt, ltO, List.take, List.all, List.append_nil, List.nil_append, List.cons_append, DV.cells, AV.cells, pairsOk, indep, subL, upd, List.getElem?_cons_zero, List.getElem?_cons_succ, List.getElem?_nil, List.set_cons_zero, List.set_cons_succ, reduceCtorEq, Nat.reduceEqDiff, Nat.reduceAdd, Nat.reduceLeDiff, Nat.add_zero, Nat.zero_add, stb, and_true, true_and, and_self, againL_nrm, evC_loop, thaws, List.getD_cons_zero, List.getD_cons_succ, List.getD_nil, List.drop, intOfA, binD, binI, unD, mmL, Bool.and_true, Bool.true_and, decide_true, decide_false, buildA, mkAgg, allD, behind, adoptR, adopt, isD, beq_self_eq_true, evR_mv, evR_pick, evR_bin, evR_eq, evR_un, evR_conv, evR_convs, evR_box, evR_build, evR_bsl, evR_load, evR_store, evR_nilck, evR_slice, evR_faddr, evR_field, evR_iaddrA, evR_iaddrS, evR_idxA, evR_idxS, evR_mkfn, evR_ext, evR_len, evR_app, evR_mm, evR_mksl, evR_cpy, evR_clr, evR_b2s, evR_isnil]
  simp only [Option.bind_assoc]
  refine bind_loop (loop10_ok _ 16 0 _ _ _ rfl rfl rfl rfl rfl) ?_
  intro T' ⟨h3, h4⟩
  simp (config := {decide := true}) only [h3, h4, logV, evC_seq, evC_ret, evC_region, evC_skip, evC_exit, evC_scope, evC_cond, evC_block, condC_b, keepT, List.map_cons, List.map_nil, enum, evR_nil, evR_call, evR_guard, guardR_b, lk_cons, setT_some, setT_none, Option.bind_some, Option.bind_none, thenC_nrm, thenC_ret, thenC_exit, blockC_nrm, blockC_ret, blockC_exit, endR_nil, endR_cons, endF_ret, endF_nrm, List.length_cons, List.length_nil, if_true, if_false, reduceIte, ev, actR_some, act, callR_some, callR_none, calleeR_some, callee, toDs, toD, loadA, storeA, subA, subD, updA, Eff.on, resA, resVs, resV, lk, finish, fznR, fzns, fzn, trim, lts, lt, ltO, List.take, List.all, List.append_nil, List.nil_append, List.cons_append, DV.cells, AV.cells, pairsOk, indep, subL, upd, List.getElem?_cons_zero, List.getElem?_cons_succ, List.getElem?_nil, List.set_cons_zero, List.set_cons_succ, reduceCtorEq, Nat.reduceEqDiff, Nat.reduceAdd, Nat.reduceLeDiff, Nat.add_zero, Nat.zero_add, stb, and_true, true_and, and_self, againL_nrm, evC_loop, thaws, List.getD_cons_zero, List.getD_cons_succ, List.getD_nil, List.drop, intOfA, binD, binI, unD, mmL, Bool.and_true, Bool.true_and, decide_true, decide_false, buildA, mkAgg, allD, behind, adoptR, adopt, isD, beq_self_eq_true, evR_mv, evR_pick, evR_bin, evR_eq, evR_un, evR_conv, evR_convs, evR_box, evR_build, evR_bsl, evR_load, evR_store, evR_nilck, evR_slice, evR_faddr, evR_field, evR_iaddrA, evR_iaddrS, evR_idxA, evR_idxS, evR_mkfn, evR_ext, evR_len, evR_app, evR_mm, evR_mksl, evR_cpy, evR_clr, evR_b2s, evR_isnil]
end Go.Proofs.Ytpbcjmgjdiiafaa
