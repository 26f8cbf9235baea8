/- The document's logarithm, straws, draws; the best of a list. -/
import Derived.Test.YtpbcjmgjdiiafaaStrawNum
set_option linter.all false
namespace Go.Proofs.Ytpbcjmgjdiiafaa
open Pv Go
set_option maxRecDepth 10000

def loopA : ACode := .seq (.seq (.region (some [0, 3]) [⟨(some 10), .mv (.t 0), none⟩,
     ⟨(some 11), .mv (.t 3), none⟩,
     ⟨(some 12), .bin .add (.t 11) (.c (.d (.i .i64 1))), none⟩,
     ⟨(some 13), .conv .u64 (.t 12), none⟩,
     ⟨(some 14), .bin .shr (.t 10) (.t 13), none⟩,
     ⟨(some 15), .bin .gtr (.t 14) (.c (.d (.i .u32 0))), none⟩] [])
   (.cond (.t 15) (.skip) (.exit 0)))
   (.block 1 (.region (some [0, 3]) [⟨(some 16), .mv (.t 3), none⟩,
      ⟨(some 17), .bin .add (.t 16) (.c (.d (.i .i64 1))), none⟩,
      ⟨(some 3), .mv (.t 17), none⟩] []))

theorem shr_nat (u k : Nat) (h : k ≤ 32) : (u : Int).fdiv (2 ^ min (Int.toNat ((k : Nat) : Int)) IntKind.u32.bits) = ((u / 2 ^ k : Nat) : Int) := by
  have e : min (Int.toNat ((k : Nat) : Int)) IntKind.u32.bits = k := by simp [IntKind.bits]; omega
  rw [e]
  have := fdivN u (2 ^ k)
  rw [← this]
  congr 1

theorem loopA_ok (u : Nat) (hu : 1 ≤ u ∧ u ≤ 65536) : ∀ (n k : Nat) (T : Tm), k + n = Nat.log2 u → lk T 0 = .d (.i .u32 u) → lk T 3 = .d (.i .i64 k) →
    ∃ T', evL C (some [0, 3]) loopA 0 T [] = some (.exit 0, T', []) ∧ lk T' 0 = .d (.i .u32 u) ∧ lk T' 3 = .d (.i .i64 (Nat.log2 u : Nat))
  | 0, k, T, hk, h0, h3 => by
    have hl := log2_le u hu
    have w1 : IntKind.i64.wrap ((k : Int) + 1) = ((k + 1 : Nat) : Int) := wi64 (by omega)
    have w2 : IntKind.u64.wrap ((k + 1 : Nat) : Int) = ((k + 1 : Nat) : Int) := wu64 (by omega)
    have w3 := shr_nat u (k + 1) (by omega)
    have w4 : decide (((u / 2 ^ (k + 1) : Nat) : Int) > 0) = false := by
      have : u < 2 ^ (k + 1) := (Nat.log2_lt (by omega)).1 (by omega)
      rw [Nat.div_eq_of_lt this]; rfl
    have hn : (((k + 1 : Nat) : Int) < 0) = False := by simp; omega
    obtain ⟨g, hg⟩ : ∃ g, g = againL C (some [0, 3]) loopA 0 := ⟨_, rfl⟩
    rw [evL_eq, ← hg]
    simp (config := {decide := true}) only [loopA, w1, w2, w3, w4, hn, h0, h3, evC_seq, evC_ret, evC_region, evC_skip, evC_exit, evC_scope, evC_cond, evC_block, condC_b, keepT, List.map_cons, List.map_nil, enum, evR_nil, evR_call, evR_guard, guardR_b, lk_cons, setT_some, setT_none, Option.bind_some, Option.bind_none, thenC_nrm, thenC_ret, thenC_exit, blockC_nrm, blockC_ret, blockC_exit, endR_nil, endR_cons, endF_ret, endF_nrm, List.length_cons, List.length_nil, if_true, if_false, reduceIte, ev, actR_some, act, callR_some, callR_none, calleeR_some, callee, toDs, toD, loadA, storeA, subA, subD, updA, Eff.on, resA, resVs, resV, lk, finish, fznR, fzns, fzn, trim, lts, lt, ltO, List.take, List.all, List.append_nil, List.nil_append, List.cons_append, DV.cells, AV.cells, pairsOk, indep, subL, upd, List.getElem?_cons_zero, List.getElem?_cons_succ, List.getElem?_nil, List.set_cons_zero, List.set_cons_succ, reduceCtorEq, Nat.reduceEqDiff, Nat.reduceAdd, Nat.reduceLeDiff, Nat.add_zero, Nat.zero_add, stb, and_true, true_and, and_self, againL_nrm, evC_loop, thaws, List.getD_cons_zero, List.getD_cons_succ, List.getD_nil, List.drop, intOfA, binD, binI, unD, mmL, Bool.and_true, Bool.true_and, decide_true, decide_false, buildA, mkAgg, allD, behind, adoptR, adopt, isD, beq_self_eq_true, evR_mv, evR_pick, evR_bin, evR_eq, evR_un, evR_conv, evR_convs, evR_box, evR_build, evR_bsl, evR_load, evR_store, evR_nilck, evR_slice, evR_faddr, evR_field, evR_iaddrA, evR_iaddrS, evR_idxA, evR_idxS, evR_mkfn, evR_ext, evR_len, evR_app, evR_mm, evR_mksl, evR_cpy, evR_clr, evR_b2s, evR_isnil]
    rw [hg]
    exact ⟨_, rfl, rfl, by rw [show k = Nat.log2 u by omega]; rfl⟩
  | n + 1, k, T, hk, h0, h3 => by
    have hl := log2_le u hu
    have w1 : IntKind.i64.wrap ((k : Int) + 1) = ((k + 1 : Nat) : Int) := wi64 (by omega)
    have w2 : IntKind.u64.wrap ((k + 1 : Nat) : Int) = ((k + 1 : Nat) : Int) := wu64 (by omega)
    have w3 := shr_nat u (k + 1) (by omega)
    have w4 : decide (((u / 2 ^ (k + 1) : Nat) : Int) > 0) = true := by
      have : 2 ^ (k + 1) ≤ u := (Nat.le_log2 (by omega)).1 (by omega)
      have := Nat.div_pos this (Nat.two_pow_pos _)
      simp only [decide_eq_true_eq]
      omega
    have hn : (((k + 1 : Nat) : Int) < 0) = False := by simp; omega
    obtain ⟨g, hg⟩ : ∃ g, g = againL C (some [0, 3]) loopA 0 := ⟨_, rfl⟩
    rw [evL_eq, ← hg]
    simp (config := {decide := true}) only [loopA, w1, w2, w3, w4, hn, h0, h3, evC_seq, evC_ret, evC_region, evC_skip, evC_exit, evC_scope, evC_cond, evC_block, condC_b, keepT, List.map_cons, List.map_nil, enum, evR_nil, evR_call, evR_guard, guardR_b, lk_cons, setT_some, setT_none, Option.bind_some, Option.bind_none, thenC_nrm, thenC_ret, thenC_exit, blockC_nrm, blockC_ret, blockC_exit, endR_nil, endR_cons, endF_ret, endF_nrm, List.length_cons, List.length_nil, if_true, if_false, reduceIte, ev, actR_some, act, callR_some, callR_none, calleeR_some, callee, toDs, toD, loadA, storeA, subA, subD, updA, Eff.on, resA, resVs, resV, lk, finish, fznR, fzns, fzn, trim, lts, lt, ltO, List.take, List.all, List.append_nil, List.nil_append, List.cons_append, DV.cells, AV.cells, pairsOk, indep, subL, upd, List.getElem?_cons_zero, List.getElem?_cons_succ, List.getElem?_nil, List.set_cons_zero, List.set_cons_succ, reduceCtorEq, Nat.reduceEqDiff, Nat.reduceAdd, Nat.reduceLeDiff, Nat.add_zero, Nat.zero_add, stb, and_true, true_and, and_self, againL_nrm, evC_loop, thaws, List.getD_cons_zero, List.getD_cons_succ, List.getD_nil, List.drop, intOfA, binD, binI, unD, mmL, Bool.and_true, Bool.true_and, decide_true, decide_false, buildA, mkAgg, allD, behind, adoptR, adopt, isD, beq_self_eq_true, evR_mv, evR_pick, evR_bin, evR_eq, evR_un, evR_conv, evR_convs, evR_box, evR_build, evR_bsl, evR_load, evR_store, evR_nilck, evR_slice, evR_faddr, evR_field, evR_iaddrA, evR_iaddrS, evR_idxA, evR_idxS, evR_mkfn, evR_ext, evR_len, evR_app, evR_mm, evR_mksl, evR_cpy, evR_clr, evR_b2s, evR_isnil]
    rw [hg, againL_nrm]
    exact loopA_ok u hu n (k + 1) _ (by omega) rfl rfl

def stepO (x o : Int) : Int := if mul31 x ≥ 4294967296 then IntKind.i64.wrap (IntKind.i64.wrap (o * 2) + 1) else IntKind.i64.wrap (o * 2)
def iterO : Nat → Int × Int → Int × Int
  | 0, p => p
  | n + 1, p => iterO n (stepX p.1, stepO p.1 p.2)

def loopB : ACode := .seq (.seq (.region (some [4, 5, 6]) [⟨(some 25), .mv (.t 6), none⟩,
     ⟨(some 26), .bin .lss (.t 25) (.c (.d (.i .i64 16))), none⟩] [])
   (.cond (.t 26) (.skip) (.exit 2)))
   (.seq (.block 3 (.seq (.region (some [4, 5, 6]) [⟨(some 29), .mv (.t 4), none⟩,
      ⟨(some 30), .mv (.t 4), none⟩,
      ⟨(some 31), .bin .mul (.t 29) (.t 30), none⟩,
      ⟨(some 32), .bin .shr (.t 31) (.c (.d (.i .u64 31))), none⟩,
      ⟨(some 4), .mv (.t 32), none⟩] [])
    (.seq (.region (some [4, 5, 6]) [⟨(some 33), .mv (.t 5), none⟩,
      ⟨(some 34), .bin .mul (.t 33) (.c (.d (.i .i64 2))), none⟩,
      ⟨(some 5), .mv (.t 34), none⟩] [])
    (.seq (.region (some [4, 5, 6]) [⟨(some 35), .mv (.t 4), none⟩,
      ⟨(some 36), .bin .geq (.t 35) (.c (.d (.i .u64 4294967296))), none⟩] [])
    (.cond (.t 36) (.seq (.region (some [4, 5, 6]) [⟨(some 37), .mv (.t 4), none⟩,
       ⟨(some 38), .bin .shr (.t 37) (.c (.d (.i .u64 1))), none⟩,
       ⟨(some 4), .mv (.t 38), none⟩] [])
     (.region (some [4, 5, 6]) [⟨(some 39), .mv (.t 5), none⟩,
       ⟨(some 40), .bin .add (.t 39) (.c (.d (.i .i64 1))), none⟩,
       ⟨(some 5), .mv (.t 40), none⟩] [])) (.skip))))))
   (.region (some [4, 5, 6]) [⟨(some 27), .mv (.t 6), none⟩,
     ⟨(some 28), .bin .add (.t 27) (.c (.d (.i .i64 1))), none⟩,
     ⟨(some 6), .mv (.t 28), none⟩] []))

theorem loopB_ok : ∀ (n i : Nat) (x o : Int) (T : Tm), i + n = 16 → lk T 4 = .d (.i .u64 x) → lk T 5 = .d (.i .i64 o) → lk T 6 = .d (.i .i64 i) →
    ∃ T', evL C (some [4, 5, 6]) loopB 0 T [] = some (.exit 2, T', []) ∧ lk T' 5 = .d (.i .i64 (iterO n (x, o)).2)
  | 0, i, x, o, T, hi, h4, h5, h6 => by
    have hd : decide ((i : Int) < 16) = false := by simp; omega
    obtain ⟨g, hg⟩ : ∃ g, g = againL C (some [4, 5, 6]) loopB 0 := ⟨_, rfl⟩
    rw [evL_eq, ← hg]
    simp (config := {decide := true}) only [loopB, hd, h4, h5, h6, evC_seq, evC_ret, evC_region, evC_skip, evC_exit, evC_scope, evC_cond, evC_block, condC_b, keepT, List.map_cons, List.map_nil, enum, evR_nil, evR_call, evR_guard, guardR_b, lk_cons, setT_some, setT_none, Option.bind_some, Option.bind_none, thenC_nrm, thenC_ret, thenC_exit, blockC_nrm, blockC_ret, blockC_exit, endR_nil, endR_cons, endF_ret, endF_nrm, List.length_cons, List.length_nil, if_true, if_false, reduceIte, ev, actR_some, act, callR_some, callR_none, calleeR_some, callee, toDs, toD, loadA, storeA, subA, subD, updA, Eff.on, resA, resVs, resV, lk, finish, fznR, fzns, fzn, trim, lts, lt, ltO, List.take, List.all, List.append_nil, List.nil_append, List.cons_append, DV.cells, AV.cells, pairsOk, indep, subL, upd, List.getElem?_cons_zero, List.getElem?_cons_succ, List.getElem?_nil, List.set_cons_zero, List.set_cons_succ, reduceCtorEq, Nat.reduceEqDiff, Nat.reduceAdd, Nat.reduceLeDiff, Nat.add_zero, Nat.zero_add, stb, and_true, true_and, and_self, againL_nrm, evC_loop, thaws, List.getD_cons_zero, List.getD_cons_succ, List.getD_nil, List.drop, intOfA, binD, binI, unD, mmL, Bool.and_true, Bool.true_and, decide_true, decide_false, buildA, mkAgg, allD, behind, adoptR, adopt, isD, beq_self_eq_true, evR_mv, evR_pick, evR_bin, evR_eq, evR_un, evR_conv, evR_convs, evR_box, evR_build, evR_bsl, evR_load, evR_store, evR_nilck, evR_slice, evR_faddr, evR_field, evR_iaddrA, evR_iaddrS, evR_idxA, evR_idxS, evR_mkfn, evR_ext, evR_len, evR_app, evR_mm, evR_mksl, evR_cpy, evR_clr, evR_b2s, evR_isnil]
    rw [hg]
    exact ⟨_, rfl, rfl⟩
  | n + 1, i, x, o, T, hi, h4, h5, h6 => by
    have hd : decide ((i : Int) < 16) = true := by simp; omega
    have hw : IntKind.i64.wrap ((i : Int) + 1) = ((i + 1 : Nat) : Int) := wi64 (by omega)
    obtain ⟨g, hg⟩ : ∃ g, g = againL C (some [4, 5, 6]) loopB 0 := ⟨_, rfl⟩
    rw [evL_eq, ← hg]
    by_cases hc : mul31 x ≥ 4294967296
    · have hx : stepX x = (mul31 x).fdiv (2 ^ min (Int.toNat 1) IntKind.u64.bits) := if_pos hc
      have ho : stepO x o = IntKind.i64.wrap (IntKind.i64.wrap (o * 2) + 1) := if_pos hc
      have hd2 : decide (mul31 x ≥ 4294967296) = true := decide_eq_true hc
      simp only [iterO]
      rw [hx, ho]
      unfold mul31 at *
      simp (config := {decide := true}) only [loopB, hd, hd2, hw, h4, h5, h6, evC_seq, evC_ret, evC_region, evC_skip, evC_exit, evC_scope, evC_cond, evC_block, condC_b, keepT, List.map_cons, List.map_nil, enum, evR_nil, evR_call, evR_guard, guardR_b, lk_cons, setT_some, setT_none, Option.bind_some, Option.bind_none, thenC_nrm, thenC_ret, thenC_exit, blockC_nrm, blockC_ret, blockC_exit, endR_nil, endR_cons, endF_ret, endF_nrm, List.length_cons, List.length_nil, if_true, if_false, reduceIte, ev, actR_some, act, callR_some, callR_none, calleeR_some, callee, toDs, toD, loadA, storeA, subA, subD, updA, Eff.on, resA, resVs, resV, lk, finish, fznR, fzns, fzn, trim, lts, lt, ltO, List.take, List.all, List.append_nil, List.nil_append, List.cons_append, DV.cells, AV.cells, pairsOk, indep, subL, upd, List.getElem?_cons_zero, List.getElem?_cons_succ, List.getElem?_nil, List.set_cons_zero, List.set_cons_succ, reduceCtorEq, Nat.reduceEqDiff, Nat.reduceAdd, Nat.reduceLeDiff, Nat.add_zero, Nat.zero_add, stb, and_true, true_and, and_self, againL_nrm, evC_loop, thaws, List.getD_cons_zero, List.getD_cons_succ, List.getD_nil, List.drop, intOfA, binD, binI, unD, mmL, Bool.and_true, Bool.true_and, decide_true, decide_false, buildA, mkAgg, allD, behind, adoptR, adopt, isD, beq_self_eq_true, evR_mv, evR_pick, evR_bin, evR_eq, evR_un, evR_conv, evR_convs, evR_box, evR_build, evR_bsl, evR_load, evR_store, evR_nilck, evR_slice, evR_faddr, evR_field, evR_iaddrA, evR_iaddrS, evR_idxA, evR_idxS, evR_mkfn, evR_ext, evR_len, evR_app, evR_mm, evR_mksl, evR_cpy, evR_clr, evR_b2s, evR_isnil]
      rw [hg, againL_nrm]
      exact loopB_ok n (i + 1) _ _ _ (by omega) rfl rfl rfl
    · have hx : stepX x = mul31 x := if_neg hc
      have ho : stepO x o = IntKind.i64.wrap (o * 2) := if_neg hc
      have hd2 : decide (mul31 x ≥ 4294967296) = false := decide_eq_false hc
      simp only [iterO]
      rw [hx, ho]
      unfold mul31 at *
      simp (config := {decide := true}) only [loopB, hd, hd2, hw, h4, h5, h6, evC_seq, evC_ret, evC_region, evC_skip, evC_exit, evC_scope, evC_cond, evC_block, condC_b, keepT, List.map_cons, List.map_nil, enum, evR_nil, evR_call, evR_guard, guardR_b, lk_cons, setT_some, setT_none, Option.bind_some, Option.bind_none, thenC_nrm, thenC_ret, thenC_exit, blockC_nrm, blockC_ret, blockC_exit, endR_nil, endR_cons, endF_ret, endF_nrm, List.length_cons, List.length_nil, if_true, if_false, reduceIte, ev, actR_some, act, callR_some, callR_none, calleeR_some, callee, toDs, toD, loadA, storeA, subA, subD, updA, Eff.on, resA, resVs, resV, lk, finish, fznR, fzns, fzn, trim, lts, lt, ltO, List.take, List.all, List.append_nil, List.nil_append, List.cons_append, DV.cells, AV.cells, pairsOk, indep, subL, upd, List.getElem?_cons_zero, List.getElem?_cons_succ, List.getElem?_nil, List.set_cons_zero, List.set_cons_succ, reduceCtorEq, Nat.reduceEqDiff, Nat.reduceAdd, Nat.reduceLeDiff, Nat.add_zero, Nat.zero_add, stb, and_true, true_and, and_self, againL_nrm, evC_loop, thaws, List.getD_cons_zero, List.getD_cons_succ, List.getD_nil, List.drop, intOfA, binD, binI, unD, mmL, Bool.and_true, Bool.true_and, decide_true, decide_false, buildA, mkAgg, allD, behind, adoptR, adopt, isD, beq_self_eq_true, evR_mv, evR_pick, evR_bin, evR_eq, evR_un, evR_conv, evR_convs, evR_box, evR_build, evR_bsl, evR_load, evR_store, evR_nilck, evR_slice, evR_faddr, evR_field, evR_iaddrA, evR_iaddrS, evR_idxA, evR_idxS, evR_mkfn, evR_ext, evR_len, evR_app, evR_mm, evR_mksl, evR_cpy, evR_clr, evR_b2s, evR_isnil]
      rw [hg, againL_nrm]
      exact loopB_ok n (i + 1) _ _ _ (by omega) rfl rfl rfl

theorem iterO_nat : ∀ (n : Nat) {m b : Nat}, fine m → (b + 1) * 2 ^ n ≤ 1099511627776 → (iterO n ((m : Int), (b : Int))).2 = ((itb n m b : Nat) : Int)
  | 0, m, b, _, _ => rfl
  | n + 1, m, b, h, hb => by
    have hb' : b + 1 ≤ 1099511627776 := Nat.le_trans (Nat.le_mul_of_pos_right _ (Nat.two_pow_pos (n + 1))) hb
    have hbt := bt_le m
    have e : stepO (m : Int) (b : Int) = ((2 * b + bt m : Nat) : Int) := by
      unfold stepO bt
      rw [mul31_nat h, wi64 (n := (b : Int) * 2) (by omega)]
      by_cases hc : sq m ≥ 4294967296
      · rw [if_pos (by omega), if_pos hc, wi64 (by omega)]; omega
      · rw [if_neg (by omega), if_neg hc]; omega
    simp only [iterO, itb]
    rw [stepX_nat h, e]
    refine iterO_nat n (nx_fine h) (Nat.le_trans (Nat.mul_le_mul_right _ (show 2 * b + bt m + 1 ≤ 2 * (b + 1) by omega)) ?_)
    rw [Nat.pow_succ] at hb
    rw [show 2 * (b + 1) * 2 ^ n = (b + 1) * (2 ^ n * 2) by rw [Nat.mul_comm 2 (b + 1), Nat.mul_assoc, Nat.mul_comm 2]]
    exact hb

theorem clamp_ok' (u : Int) : mmI true 1 (mmI false u 65536) = (clamp u : Int) := by
  unfold clamp mmI; simp; split <;> split <;> (try split) <;> (try split) <;> omega

theorem ref_at (u : Int) : evF C 13 [.d (.i .u32 u)] [] = some (.d (.i .i64 (LV (clamp u) : Nat)), []) := by
  rw [evF_code (rfl : C 13 = some a13) _ _ rfl]
  have hc := clamp_ok' u
  obtain ⟨_, h1, h2⟩ := clamp_ok u
  generalize clamp u = v at hc h1 h2
  have hl := log2_le v ⟨h1, h2⟩
  have hm := mant_lt v ⟨h1, h2⟩
  simp (config := {decide := true}) only [c13, hc, evC_seq, evC_ret, evC_region, evC_skip, evC_exit, evC_scope, evC_cond, evC_block, condC_b, keepT, List.map_cons, List.map_nil, enum, evR_nil, evR_call, evR_guard, guardR_b, lk_cons, setT_some, setT_none, Option.bind_some, Option.bind_none, thenC_nrm, thenC_ret, thenC_exit, blockC_nrm, blockC_ret, blockC_exit, endR_nil, endR_cons, endF_ret, endF_nrm, List.length_cons, List.length_nil, if_true, if_false, reduceIte, ev, actR_some, act, callR_some, callR_none, calleeR_some, callee, toDs, toD, loadA, storeA, subA, subD, updA, Eff.on, resA, resVs, resV, lk, finish, fznR, fzns, fzn, trim, lts, lt, ltO, List.take, List.all, List.append_nil, List.nil_append, List.cons_append, DV.cells, AV.cells, pairsOk, indep, subL, upd, List.getElem?_cons_zero, List.getElem?_cons_succ, List.getElem?_nil, List.set_cons_zero, List.set_cons_succ, reduceCtorEq, Nat.reduceEqDiff, Nat.reduceAdd, Nat.reduceLeDiff, Nat.add_zero, Nat.zero_add, stb, and_true, true_and, and_self, againL_nrm, evC_loop, thaws, List.getD_cons_zero, List.getD_cons_succ, List.getD_nil, List.drop, intOfA, binD, binI, unD, mmL, Bool.and_true, Bool.true_and, decide_true, decide_false, buildA, mkAgg, allD, behind, adoptR, adopt, isD, beq_self_eq_true, evR_mv, evR_pick, evR_bin, evR_eq, evR_un, evR_conv, evR_convs, evR_box, evR_build, evR_bsl, evR_load, evR_store, evR_nilck, evR_slice, evR_faddr, evR_field, evR_iaddrA, evR_iaddrS, evR_idxA, evR_idxS, evR_mkfn, evR_ext, evR_len, evR_app, evR_mm, evR_mksl, evR_cpy, evR_clr, evR_b2s, evR_isnil]
  simp only [Option.bind_assoc]
  refine bind_loop (loopA_ok v ⟨h1, h2⟩ (Nat.log2 v) 0 _ (by omega) rfl rfl) ?_
  intro T' ⟨h0, h3⟩
  have w2 : IntKind.u64.wrap (v : Int) = v := wu64 (by omega)
  have w3 : IntKind.i64.wrap (31 - (Nat.log2 v : Nat)) = ((31 - Nat.log2 v : Nat) : Int) := by rw [wi64 (by omega)]; omega
  have w3' : IntKind.u64.wrap ((31 - Nat.log2 v : Nat) : Int) = ((31 - Nat.log2 v : Nat) : Int) := wu64 (by omega)
  have w4 : (((31 - Nat.log2 v : Nat) : Int) < 0) = False := by simp
  have w5 : IntKind.u64.wrap ((v : Int) * 2 ^ min (Int.toNat ((31 - Nat.log2 v : Nat) : Int)) IntKind.u64.bits) = ((mant v : Nat) : Int) := by
    have e : min (Int.toNat ((31 - Nat.log2 v : Nat) : Int)) IntKind.u64.bits = 31 - Nat.log2 v := by simp [IntKind.bits]; omega
    rw [e, show ((v : Int) * 2 ^ (31 - Nat.log2 v)) = ((mant v : Nat) : Int) by simp [mant]]
    exact wu64 (by unfold mant; omega)
  simp (config := {decide := true}) only [h0, h3, w2, w3, w3', w4, w5, evC_seq, evC_ret, evC_region, evC_skip, evC_exit, evC_scope, evC_cond, evC_block, condC_b, keepT, List.map_cons, List.map_nil, enum, evR_nil, evR_call, evR_guard, guardR_b, lk_cons, setT_some, setT_none, Option.bind_some, Option.bind_none, thenC_nrm, thenC_ret, thenC_exit, blockC_nrm, blockC_ret, blockC_exit, endR_nil, endR_cons, endF_ret, endF_nrm, List.length_cons, List.length_nil, if_true, if_false, reduceIte, ev, actR_some, act, callR_some, callR_none, calleeR_some, callee, toDs, toD, loadA, storeA, subA, subD, updA, Eff.on, resA, resVs, resV, lk, finish, fznR, fzns, fzn, trim, lts, lt, ltO, List.take, List.all, List.append_nil, List.nil_append, List.cons_append, DV.cells, AV.cells, pairsOk, indep, subL, upd, List.getElem?_cons_zero, List.getElem?_cons_succ, List.getElem?_nil, List.set_cons_zero, List.set_cons_succ, reduceCtorEq, Nat.reduceEqDiff, Nat.reduceAdd, Nat.reduceLeDiff, Nat.add_zero, Nat.zero_add, stb, and_true, true_and, and_self, againL_nrm, evC_loop, thaws, List.getD_cons_zero, List.getD_cons_succ, List.getD_nil, List.drop, intOfA, binD, binI, unD, mmL, Bool.and_true, Bool.true_and, decide_true, decide_false, buildA, mkAgg, allD, behind, adoptR, adopt, isD, beq_self_eq_true, evR_mv, evR_pick, evR_bin, evR_eq, evR_un, evR_conv, evR_convs, evR_box, evR_build, evR_bsl, evR_load, evR_store, evR_nilck, evR_slice, evR_faddr, evR_field, evR_iaddrA, evR_iaddrS, evR_idxA, evR_idxS, evR_mkfn, evR_ext, evR_len, evR_app, evR_mm, evR_mksl, evR_cpy, evR_clr, evR_b2s, evR_isnil]
  simp only [Option.bind_assoc]
  refine bind_loop (loopB_ok 16 0 _ _ _ rfl rfl rfl rfl) ?_
  intro T2 h5
  have hi : (iterO 16 (((mant v : Nat) : Int), ((Nat.log2 v : Nat) : Int))).2 = (LV v : Nat) := by
    rw [iterO_nat 16 (m := mant v) hm (Nat.le_trans (Nat.mul_le_mul_right (2 ^ 16) (show Nat.log2 v + 1 ≤ 17 by omega)) (by decide)), itb_lin]
    rfl
  simp (config := {decide := true}) only [h5, hi, evC_seq, evC_ret, evC_region, evC_skip, evC_exit, evC_scope, evC_cond, evC_block, condC_b, keepT, List.map_cons, List.map_nil, enum, evR_nil, evR_call, evR_guard, guardR_b, lk_cons, setT_some, setT_none, Option.bind_some, Option.bind_none, thenC_nrm, thenC_ret, thenC_exit, blockC_nrm, blockC_ret, blockC_exit, endR_nil, endR_cons, endF_ret, endF_nrm, List.length_cons, List.length_nil, if_true, if_false, reduceIte, ev, actR_some, act, callR_some, callR_none, calleeR_some, callee, toDs, toD, loadA, storeA, subA, subD, updA, Eff.on, resA, resVs, resV, lk, finish, fznR, fzns, fzn, trim, lts, lt, ltO, List.take, List.all, List.append_nil, List.nil_append, List.cons_append, DV.cells, AV.cells, pairsOk, indep, subL, upd, List.getElem?_cons_zero, List.getElem?_cons_succ, List.getElem?_nil, List.set_cons_zero, List.set_cons_succ, reduceCtorEq, Nat.reduceEqDiff, Nat.reduceAdd, Nat.reduceLeDiff, Nat.add_zero, Nat.zero_add, stb, and_true, true_and, and_self, againL_nrm, evC_loop, thaws, List.getD_cons_zero, List.getD_cons_succ, List.getD_nil, List.drop, intOfA, binD, binI, unD, mmL, Bool.and_true, Bool.true_and, decide_true, decide_false, buildA, mkAgg, allD, behind, adoptR, adopt, isD, beq_self_eq_true, evR_mv, evR_pick, evR_bin, evR_eq, evR_un, evR_conv, evR_convs, evR_box, evR_build, evR_bsl, evR_load, evR_store, evR_nilck, evR_slice, evR_faddr, evR_field, evR_iaddrA, evR_iaddrS, evR_idxA, evR_idxS, evR_mkfn, evR_ext, evR_len, evR_app, evR_mm, evR_mksl, evR_cpy, evR_clr, evR_b2s, evR_isnil]
end Go.Proofs.Ytpbcjmgjdiiafaa
