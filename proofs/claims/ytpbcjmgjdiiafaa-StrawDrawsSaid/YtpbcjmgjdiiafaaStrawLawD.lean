/- StrawDraws answers true. -/
import Derived.Test.YtpbcjmgjdiiafaaStrawLawB
set_option linter.all false
namespace Go.Proofs.Ytpbcjmgjdiiafaa
open Pv Go
set_option maxRecDepth 10000
def dr (g t : Int) (ws : List Int) (j : Nat) : Int := SV (HV g (j : Int) (IntKind.i64.wrap t)) (IntKind.i64.wrap (IntKind.i64.wrap (Int.tmod (ws.getD j 0) 16) + 1))
def drs (g t : Int) (ws : List Int) (n : Nat) : List Int := (List.range n).map (dr g t ws)
def u8s (ws : List Int) : List DV := ws.map (DV.i .u8)
theorem u8s_get (ws : List Int) (j : Nat) (h : j < ws.length) : (u8s ws)[((j : Nat) : Int).toNat * 1]? = some (.i .u8 (ws.getD j 0)) := by
  simp [u8s, h]
theorem drs_succ (g t : Int) (ws : List Int) (n : Nat) : ints (drs g t ws n) ++ [DV.i .i64 (dr g t ws n)] = ints (drs g t ws (n + 1)) := by
  simp [ints, drs, List.range_succ]
theorem drs_len (g t : Int) (ws : List Int) (n : Nat) : (ints (drs g t ws n)).length = n := by simp [ints, drs]
def loop8a : ACode := .seq (.seq (.region (some [0, 1, 5, 7, 8]) [⟨(some 13), .mv (.t 8), none⟩,
     ⟨(some 14), .bin .lss (.t 13) (.c (.d (.i .i64 5))), none⟩] [])
   (.cond (.t 14) (.skip) (.exit 0)))
   (.seq (.block 1 (.region (some [0, 1, 5, 7, 8]) [⟨(some 17), .mv (.t 7), none⟩,
      ⟨(some 18), .mv (.t 0), none⟩,
      ⟨(some 19), .mv (.t 8), none⟩,
      ⟨(some 20), .mv (.t 1), none⟩,
      ⟨(some 21), .conv .i64 (.t 20), none⟩,
      ⟨(some 22), .mv (.t 8), none⟩,
      ⟨(some 23), .iaddrA 5 1 (.t 5) (.t 22), none⟩,
      ⟨(some 24), .load false 1 (.t 23), none⟩,
      ⟨(some 25), .bin .rem (.t 24) (.c (.d (.i .u8 16))), none⟩,
      ⟨(some 26), .conv .i64 (.t 25), none⟩,
      ⟨(some 27), .bin .add (.t 26) (.c (.d (.i .i64 1))), none⟩,
      ⟨(some 28), .call (.f 15) [.t 18, .t 19, .t 21, .t 27], none⟩,
      ⟨(some 29), .bsl 1 [.t 28], none⟩,
      ⟨(some 30), .app 1 (.t 17) (.t 29), none⟩,
      ⟨(some 7), .mv (.t 30), none⟩] []))
   (.region (some [0, 1, 5, 7, 8]) [⟨(some 15), .mv (.t 8), none⟩,
     ⟨(some 16), .bin .add (.t 15) (.c (.d (.i .i64 1))), none⟩,
     ⟨(some 8), .mv (.t 16), none⟩] []))

theorem loop8a_ok (g t : Int) (ws : List Int) (hws : ws.length = 5) : ∀ (n i : Nat) (es : List DV) (J : Heap) (T : Tm), i + n = 5 → es = ints (drs g t ws i) → lk T 0 = .d (.i .u8 g) → lk T 1 = .d (.i .u8 t) → lk T 5 = .ptr 0 0 →
    lk T 7 = .view 1 i 1 0 i → lk T 8 = .d (.i .i64 i) →
    ∃ T', evL C (some [0, 1, 5, 7, 8]) loop8a 2 T (.box (.d (.agg (u8s ws))) :: .arr es true :: J) = some (.exit 0, T', [.box (.d (.agg (u8s ws))), .arr (ints (drs g t ws 5)) true]) ∧
      (lk T' 0 = .d (.i .u8 g) ∧ lk T' 1 = .d (.i .u8 t) ∧ lk T' 5 = .ptr 0 0 ∧ lk T' 7 = .view 1 5 1 0 5)
  | 0, i, es, J, T, hi, hes, h0, h1, h5, h7, h8 => by
    obtain rfl : i = 5 := by omega
    subst hes
    have hd : decide (((5 : Nat) : Int) < 5) = false := by decide
    obtain ⟨G, hg⟩ : ∃ G, G = againL C (some [0, 1, 5, 7, 8]) loop8a 2 := ⟨_, rfl⟩
    rw [evL_eq, ← hg]
    simp (config := {decide := true}) only [loop8a, hd, h0, h1, h5, h7, h8, evC_seq, evC_ret, evC_region, evC_skip, evC_exit, evC_scope, evC_cond, evC_block, condC_b, keepT, List.map_cons, List.map_nil, enum, evR_nil, evR_call, evR_guard, guardR_b, lk_cons, setT_some, setT_none, Option.bind_some, Option.bind_none, thenC_nrm, thenC_ret, thenC_exit, blockC_nrm, blockC_ret, blockC_exit, endR_nil, endR_cons, endF_ret, endF_nrm, List.length_cons, List.length_nil, if_true, if_false, reduceIte, ev, actR_some, act, callR_some, callR_none, calleeR_some, callee, toDs, toD, loadA, storeA, subA, subD, updA, Eff.on, resA, resVs, resV, lk, finish, fznR, fzns, fzn, trim, lts, lt, ltO, List.take, List.all, List.append_nil, List.nil_append, List.cons_append, DV.cells, AV.cells, pairsOk, indep, subL, upd, List.getElem?_cons_zero, List.getElem?_cons_succ, List.getElem?_nil, List.set_cons_zero, List.set_cons_succ, reduceCtorEq, Nat.reduceEqDiff, Nat.reduceAdd, Nat.reduceLeDiff, Nat.add_zero, Nat.zero_add, stb, and_true, true_and, and_self, againL_nrm, evC_loop, thaws, List.getD_cons_zero, List.getD_cons_succ, List.getD_nil, List.drop, intOfA, binD, binI, unD, mmL, Bool.and_true, Bool.true_and, decide_true, decide_false, buildA, mkAgg, allD, behind, adoptR, adopt, isD, beq_self_eq_true, evR_mv, evR_pick, evR_bin, evR_eq, evR_un, evR_conv, evR_convs, evR_box, evR_build, evR_bsl, evR_load, evR_store, evR_nilck, evR_slice, evR_faddr, evR_field, evR_iaddrA, evR_iaddrS, evR_idxA, evR_idxS, evR_mkfn, evR_ext, evR_len, evR_app, evR_mm, evR_mksl, evR_cpy, evR_clr, evR_b2s, evR_isnil]
    rw [hg]
    exact ⟨_, rfl, rfl, rfl, rfl, rfl⟩
  | n + 1, i, es, J, T, hi, hes, h0, h1, h5, h7, h8 => by
    have hd : decide ((i : Int) < 5) = true := by simp; omega
    have hw : IntKind.i64.wrap ((i : Int) + 1) = ((i + 1 : Nat) : Int) := wi64 (by omega)
    have hp : ((0 ≤ (i : Int)) ∧ (i : Int) < 5) = True := by simp; omega
    have hp5 : (i : Int) < (5 : Nat) := by omega
    have hp5' : ((i : Int) < ((5 : Nat) : Int)) = True := by simp; omega
    have hp0 : (0 ≤ (i : Int)) = True := by simp
    have hu := u8s_get ws i (by omega)
    have hl : es.length = i := by rw [hes]; exact drs_len g t ws i
    have hsz : (i + 1 ≤ LIM) = True := by have : i + 1 ≤ LIM := by unfold LIM; omega
                                          simp [this]
    obtain ⟨G, hg⟩ : ∃ G, G = againL C (some [0, 1, 5, 7, 8]) loop8a 2 := ⟨_, rfl⟩
    rw [evL_eq, ← hg]
    simp (config := {decide := true}) only [loop8a, hd, hw, hp, hp0, hp5', hu, hl, hsz, draw_at, h0, h1, h5, h7, h8, evC_seq, evC_ret, evC_region, evC_skip, evC_exit, evC_scope, evC_cond, evC_block, condC_b, keepT, List.map_cons, List.map_nil, enum, evR_nil, evR_call, evR_guard, guardR_b, lk_cons, setT_some, setT_none, Option.bind_some, Option.bind_none, thenC_nrm, thenC_ret, thenC_exit, blockC_nrm, blockC_ret, blockC_exit, endR_nil, endR_cons, endF_ret, endF_nrm, List.length_cons, List.length_nil, if_true, if_false, reduceIte, ev, actR_some, act, callR_some, callR_none, calleeR_some, callee, toDs, toD, loadA, storeA, subA, subD, updA, Eff.on, resA, resVs, resV, lk, finish, fznR, fzns, fzn, trim, lts, lt, ltO, List.take, List.all, List.append_nil, List.nil_append, List.cons_append, DV.cells, AV.cells, pairsOk, indep, subL, upd, List.getElem?_cons_zero, List.getElem?_cons_succ, List.getElem?_nil, List.set_cons_zero, List.set_cons_succ, reduceCtorEq, Nat.reduceEqDiff, Nat.reduceAdd, Nat.reduceLeDiff, Nat.add_zero, Nat.zero_add, stb, and_true, true_and, and_self, againL_nrm, evC_loop, thaws, List.getD_cons_zero, List.getD_cons_succ, List.getD_nil, List.drop, intOfA, binD, binI, unD, mmL, Bool.and_true, Bool.true_and, decide_true, decide_false, buildA, mkAgg, allD, behind, adoptR, adopt, isD, beq_self_eq_true, evR_mv, evR_pick, evR_bin, evR_eq, evR_un, evR_conv, evR_convs, evR_box, evR_build, evR_bsl, evR_load, evR_store, evR_nilck, evR_slice, evR_faddr, evR_field, evR_iaddrA, evR_iaddrS, evR_idxA, evR_idxS, evR_mkfn, evR_ext, evR_len, evR_app, evR_mm, evR_mksl, evR_cpy, evR_clr, evR_b2s, evR_isnil, elems]
    rw [hg, againL_nrm]
    exact loop8a_ok g t ws hws n (i + 1) _ _ _ (by omega) (by rw [hes]; exact drs_succ g t ws i) rfl rfl rfl rfl rfl

def loop8b : ACode := .seq (.seq (.region (some [0, 1, 5, 7, 9, 10]) [⟨(some 33), .mv (.t 10), none⟩,
     ⟨(some 34), .bin .lss (.t 33) (.c (.d (.i .i64 5))), none⟩] [])
   (.cond (.t 34) (.skip) (.exit 2)))
   (.seq (.block 3 (.seq (.region (some [0, 1, 5, 7, 9, 10]) [⟨(some 37), .mv (.t 7), none⟩,
      ⟨(some 38), .mv (.t 10), none⟩,
      ⟨(some 39), .iaddrS 1 (.t 37) (.t 38), none⟩,
      ⟨(some 40), .load false 1 (.t 39), none⟩,
      ⟨(some 41), .mv (.t 7), none⟩,
      ⟨(some 42), .mv (.t 9), none⟩,
      ⟨(some 43), .iaddrS 1 (.t 41) (.t 42), none⟩,
      ⟨(some 44), .load false 1 (.t 43), none⟩,
      ⟨(some 45), .bin .gtr (.t 40) (.t 44), none⟩,
      ⟨(some 46), .mv (.t 45), none⟩,
      ⟨(some 47), .mv (.t 0), some (46, false)⟩,
      ⟨(some 48), .mv (.t 10), some (46, false)⟩,
      ⟨(some 49), .mv (.t 1), some (46, false)⟩,
      ⟨(some 50), .conv .i64 (.t 49), some (46, false)⟩,
      ⟨(some 51), .mv (.t 10), some (46, false)⟩,
      ⟨(some 52), .iaddrA 5 1 (.t 5) (.t 51), some (46, false)⟩,
      ⟨(some 53), .load false 1 (.t 52), some (46, false)⟩,
      ⟨(some 54), .bin .rem (.t 53) (.c (.d (.i .u8 16))), some (46, false)⟩,
      ⟨(some 55), .conv .i64 (.t 54), some (46, false)⟩,
      ⟨(some 56), .bin .add (.t 55) (.c (.d (.i .i64 1))), some (46, false)⟩,
      ⟨(some 57), .call (.f 15) [.t 47, .t 48, .t 50, .t 56], some (46, false)⟩,
      ⟨(some 58), .mv (.t 7), some (46, false)⟩,
      ⟨(some 59), .mv (.t 10), some (46, false)⟩,
      ⟨(some 60), .iaddrS 1 (.t 58) (.t 59), some (46, false)⟩,
      ⟨(some 61), .load false 1 (.t 60), some (46, false)⟩,
      ⟨(some 62), .bin .neq (.t 57) (.t 61), some (46, false)⟩,
      ⟨(some 63), .pick (.t 46) (.c (.d (.b true))) (.t 62), none⟩] [(3, 7), (16, 24), (20, 24)])
    (.cond (.t 63) (.seq (.region (some []) [⟨(some 6), .mv (.c (.d (.b false))), none⟩] [])
     (.ret)) (.skip))))
   (.region (some [0, 1, 5, 7, 9, 10]) [⟨(some 35), .mv (.t 10), none⟩,
     ⟨(some 36), .bin .add (.t 35) (.c (.d (.i .i64 1))), none⟩,
     ⟨(some 10), .mv (.t 36), none⟩] []))

theorem map_get (f : Nat → Int) (n i : Nat) (h : i < n) : (ints ((List.range n).map f))[((i : Nat) : Int).toNat]? = some (.i .i64 (f i)) := by
  simp [ints, h]
theorem map_getD (f : Nat → Int) (n i : Nat) (h : i < n) : ((List.range n).map f).getD i 0 = f i := by
  simp [h]
theorem map_len (f : Nat → Int) (n : Nat) : ((List.range n).map f).length = n := by simp

set_option maxHeartbeats 4000000 in
theorem loop8b_ok (g t : Int) (ws : List Int) (hws : ws.length = 5) (f : Nat → Int) (es : List DV) (hes : ∀ i, i < 5 → es[((i : Nat) : Int).toNat]? = some (.i .i64 (f i))) (hl : es.length = 5)
    (hcall : ∀ i, i < 5 → evF C 15 [.d (.i .u8 g), .d (.i .i64 ((i : Nat) : Int)), .d (.i .i64 (IntKind.i64.wrap t)), .d (.i .i64 (IntKind.i64.wrap (IntKind.i64.wrap (Int.tmod (ws.getD i 0) 16) + 1)))] [] = some (.d (.i .i64 (f i)), []))
    (c : Nat) (hc : c < 5) (hb : ∀ j, j < 5 → f j ≤ f c) : ∀ (n i : Nat) (T : Tm), i + n = 5 → lk T 0 = .d (.i .u8 g) → lk T 1 = .d (.i .u8 t) → lk T 5 = .ptr 0 0 →
    lk T 7 = .view 1 5 1 0 5 → lk T 9 = .d (.i .i64 c) → lk T 10 = .d (.i .i64 i) →
    ∃ T', evL C (some [0, 1, 5, 7, 9, 10]) loop8b 2 T [.box (.d (.agg (u8s ws))), .arr es false] = some (.exit 2, T', [.box (.d (.agg (u8s ws))), .arr es false]) ∧ lk T' 9 = .d (.i .i64 c)
  | 0, i, T, hi, h0, h1, h5, h7, h9, h10 => by
    have hd : decide ((i : Int) < 5) = false := by simp; omega
    obtain ⟨G, hg⟩ : ∃ G, G = againL C (some [0, 1, 5, 7, 9, 10]) loop8b 2 := ⟨_, rfl⟩
    rw [evL_eq, ← hg]
    simp (config := {decide := true}) only [loop8b, hd, h0, h1, h5, h7, h9, h10, evC_seq, evC_ret, evC_region, evC_skip, evC_exit, evC_scope, evC_cond, evC_block, condC_b, keepT, List.map_cons, List.map_nil, enum, evR_nil, evR_call, evR_guard, guardR_b, lk_cons, setT_some, setT_none, Option.bind_some, Option.bind_none, thenC_nrm, thenC_ret, thenC_exit, blockC_nrm, blockC_ret, blockC_exit, endR_nil, endR_cons, endF_ret, endF_nrm, List.length_cons, List.length_nil, if_true, if_false, reduceIte, ev, actR_some, act, callR_some, callR_none, calleeR_some, callee, toDs, toD, loadA, storeA, subA, subD, updA, Eff.on, resA, resVs, resV, lk, finish, fznR, fzns, fzn, trim, lts, lt, ltO, List.take, List.all, List.append_nil, List.nil_append, List.cons_append, DV.cells, AV.cells, pairsOk, indep, subL, upd, List.getElem?_cons_zero, List.getElem?_cons_succ, List.getElem?_nil, List.set_cons_zero, List.set_cons_succ, reduceCtorEq, Nat.reduceEqDiff, Nat.reduceAdd, Nat.reduceLeDiff, Nat.add_zero, Nat.zero_add, stb, and_true, true_and, and_self, againL_nrm, evC_loop, thaws, List.getD_cons_zero, List.getD_cons_succ, List.getD_nil, List.drop, intOfA, binD, binI, unD, mmL, Bool.and_true, Bool.true_and, decide_true, decide_false, buildA, mkAgg, allD, behind, adoptR, adopt, isD, beq_self_eq_true, evR_mv, evR_pick, evR_bin, evR_eq, evR_un, evR_conv, evR_convs, evR_box, evR_build, evR_bsl, evR_load, evR_store, evR_nilck, evR_slice, evR_faddr, evR_field, evR_iaddrA, evR_iaddrS, evR_idxA, evR_idxS, evR_mkfn, evR_ext, evR_len, evR_app, evR_mm, evR_mksl, evR_cpy, evR_clr, evR_b2s, evR_isnil]
    rw [hg]
    exact ⟨_, rfl, rfl⟩
  | n + 1, i, T, hi, h0, h1, h5, h7, h9, h10 => by
    have hd : decide ((i : Int) < 5) = true := by simp; omega
    have hw : IntKind.i64.wrap ((i : Int) + 1) = ((i + 1 : Nat) : Int) := wi64 (by omega)
    have hp5' : ((i : Int) < ((5 : Nat) : Int)) = True := by simp; omega
    have hp0 : (0 ≤ (i : Int)) = True := by simp
    have hq5' : ((c : Int) < ((5 : Nat) : Int)) = True := by simp; omega
    have hq0 : (0 ≤ (c : Int)) = True := by simp
    have hu := u8s_get ws i (by omega)
    have hx := hes i (by omega)
    have hy := hes c hc
    have hcl := hcall i (by omega)
    have hgt : decide (f i > f c) = false := by
      have := hb i (by omega)
      simp only [decide_eq_false_iff_not]; omega
    have bne : ∀ z : Int, (z != z) = false := by simp
    obtain ⟨G, hg⟩ : ∃ G, G = againL C (some [0, 1, 5, 7, 9, 10]) loop8b 2 := ⟨_, rfl⟩
    rw [evL_eq, ← hg]
    simp (config := {decide := true, maxSteps := 2000000}) only [loop8b, hd, hw, hp0, hp5', hq0, hq5', hu, hl, hx, hy, hgt, bne, hcl, h0, h1, h5, h7, h9, h10, evC_seq, evC_ret, evC_region, evC_skip, evC_exit, evC_scope, evC_cond, evC_block, condC_b, keepT, List.map_cons, List.map_nil, enum, evR_nil, evR_call, evR_guard, guardR_b, lk_cons, setT_some, setT_none, Option.bind_some, Option.bind_none, thenC_nrm, thenC_ret, thenC_exit, blockC_nrm, blockC_ret, blockC_exit, endR_nil, endR_cons, endF_ret, endF_nrm, List.length_cons, List.length_nil, if_true, if_false, reduceIte, ev, actR_some, act, callR_some, callR_none, calleeR_some, callee, toDs, toD, loadA, storeA, subA, subD, updA, Eff.on, resA, resVs, resV, lk, finish, fznR, fzns, fzn, trim, lts, lt, ltO, List.take, List.all, List.append_nil, List.nil_append, List.cons_append, DV.cells, AV.cells, pairsOk, indep, subL, upd, List.getElem?_cons_zero, List.getElem?_cons_succ, List.getElem?_nil, List.set_cons_zero, List.set_cons_succ, reduceCtorEq, Nat.reduceEqDiff, Nat.reduceAdd, Nat.reduceLeDiff, Nat.add_zero, Nat.zero_add, stb, and_true, true_and, and_self, againL_nrm, evC_loop, thaws, List.getD_cons_zero, List.getD_cons_succ, List.getD_nil, List.drop, intOfA, binD, binI, unD, mmL, Bool.and_true, Bool.true_and, decide_true, decide_false, buildA, mkAgg, allD, behind, adoptR, adopt, isD, beq_self_eq_true, evR_mv, evR_pick, evR_bin, evR_eq, evR_un, evR_conv, evR_convs, evR_box, evR_build, evR_bsl, evR_load, evR_store, evR_nilck, evR_slice, evR_faddr, evR_field, evR_iaddrA, evR_iaddrS, evR_idxA, evR_idxS, evR_mkfn, evR_ext, evR_len, evR_app, evR_mm, evR_mksl, evR_cpy, evR_clr, evR_b2s, evR_isnil, elems]
    rw [hg, againL_nrm]
    exact loop8b_ok g t ws hws f es hes hl hcall c hc hb n (i + 1) _ (by omega) rfl rfl rfl rfl rfl rfl

theorem draws_at (g t : Int) (ws : List Int) (hws : ws.length = 5) : evF C 8 [.d (.i .u8 g), .d (.i .u8 t), .d (.agg (u8s ws))] [] = some (.d (.b true), []) := by
  rw [evF_code (rfl : C 8 = some a8) _ _ rfl]
  simp (config := {decide := true}) only [c8, known_at, thaw, evC_seq, evC_ret, evC_region, evC_skip, evC_exit, evC_scope, evC_cond, evC_block, condC_b, keepT, List.map_cons, List.map_nil, enum, evR_nil, evR_call, evR_guard, guardR_b, lk_cons, setT_some, setT_none, Option.bind_some, Option.bind_none, thenC_nrm, thenC_ret, thenC_exit, blockC_nrm, blockC_ret, blockC_exit, endR_nil, endR_cons, endF_ret, endF_nrm, List.length_cons, List.length_nil, if_true, if_false, reduceIte, ev, actR_some, act, callR_some, callR_none, calleeR_some, callee, toDs, toD, loadA, storeA, subA, subD, updA, Eff.on, resA, resVs, resV, lk, finish, fznR, fzns, fzn, trim, lts, lt, ltO, List.take, List.all, List.append_nil, List.nil_append, List.cons_append, DV.cells, AV.cells, pairsOk, indep, subL, upd, List.getElem?_cons_zero, List.getElem?_cons_succ, List.getElem?_nil, List.set_cons_zero, List.set_cons_succ, reduceCtorEq, Nat.reduceEqDiff, Nat.reduceAdd, Nat.reduceLeDiff, Nat.add_zero, Nat.zero_add, stb, and_true, true_and, and_self, againL_nrm, evC_loop, thaws, List.getD_cons_zero, List.getD_cons_succ, List.getD_nil, List.drop, intOfA, binD, binI, unD, mmL, Bool.and_true, Bool.true_and, decide_true, decide_false, buildA, mkAgg, allD, behind, adoptR, adopt, isD, beq_self_eq_true, evR_mv, evR_pick, evR_bin, evR_eq, evR_un, evR_conv, evR_convs, evR_box, evR_build, evR_bsl, evR_load, evR_store, evR_nilck, evR_slice, evR_faddr, evR_field, evR_iaddrA, evR_iaddrS, evR_idxA, evR_idxS, evR_mkfn, evR_ext, evR_len, evR_app, evR_mm, evR_mksl, evR_cpy, evR_clr, evR_b2s, evR_isnil]
  simp only [Option.bind_assoc]
  refine bind_loop (loop8a_ok g t ws hws 5 0 _ _ _ rfl rfl rfl rfl rfl rfl rfl) ?_
  intro T' ⟨h0, h1, h5, h7⟩
  have hcall : ∀ i, i < 5 → evF C 15 [.d (.i .u8 g), .d (.i .i64 ((i : Nat) : Int)), .d (.i .i64 (IntKind.i64.wrap t)), .d (.i .i64 (IntKind.i64.wrap (IntKind.i64.wrap (Int.tmod (ws.getD i 0) 16) + 1)))] [] = some (.d (.i .i64 (dr g t ws i)), []) :=
    fun i _ => draw_at g _ _ _
  unfold drs
  generalize dr g t ws = f at hcall ⊢
  have hlen := map_len f 5
  have hb := best_at ((List.range 5).map f) (by omega)
  have hsp := bestI_spec ((List.range 5).map f)
  have hes := fun i hi => map_get f 5 i hi
  have hgd := fun i hi => map_getD f 5 i hi
  have hl : (ints ((List.range 5).map f)).length = 5 := by rw [ints, List.length_map, hlen]
  rw [hlen] at hsp
  generalize (List.range 5).map f = L at hb hsp hes hgd hl hlen ⊢
  rcases hsp with ⟨h, _⟩ | ⟨k1, k2, k3, _⟩
  · omega
  · obtain ⟨c, hc⟩ : ∃ c : Nat, bestI L = c := ⟨(bestI L).toNat, by omega⟩
    rw [hc] at hb k2 k3
    have hsub : subL (ints L) 0 5 = ints L := by
      unfold subL; rw [List.drop_zero, List.take_of_length_le (by omega)]
    unfold subL at hsub
    simp only [List.drop_zero] at hsub
    simp (config := {decide := true}) only [h0, h1, h5, h7, hb, hl, hsub, evC_seq, evC_ret, evC_region, evC_skip, evC_exit, evC_scope, evC_cond, evC_block, condC_b, keepT, List.map_cons, List.map_nil, enum, evR_nil, evR_call, evR_guard, guardR_b, lk_cons, setT_some, setT_none, Option.bind_some, Option.bind_none, thenC_nrm, thenC_ret, thenC_exit, blockC_nrm, blockC_ret, blockC_exit, endR_nil, endR_cons, endF_ret, endF_nrm, List.length_cons, List.length_nil, if_true, if_false, reduceIte, ev, actR_some, act, callR_some, callR_none, calleeR_some, callee, toDs, toD, loadA, storeA, subA, subD, updA, Eff.on, resA, resVs, resV, lk, finish, fznR, fzns, fzn, trim, lts, lt, ltO, List.take, List.all, List.append_nil, List.nil_append, List.cons_append, DV.cells, AV.cells, pairsOk, indep, subL, upd, List.getElem?_cons_zero, List.getElem?_cons_succ, List.getElem?_nil, List.set_cons_zero, List.set_cons_succ, reduceCtorEq, Nat.reduceEqDiff, Nat.reduceAdd, Nat.reduceLeDiff, Nat.add_zero, Nat.zero_add, stb, and_true, true_and, and_self, againL_nrm, evC_loop, thaws, List.getD_cons_zero, List.getD_cons_succ, List.getD_nil, List.drop, intOfA, binD, binI, unD, mmL, Bool.and_true, Bool.true_and, decide_true, decide_false, buildA, mkAgg, allD, behind, adoptR, adopt, isD, beq_self_eq_true, evR_mv, evR_pick, evR_bin, evR_eq, evR_un, evR_conv, evR_convs, evR_box, evR_build, evR_bsl, evR_load, evR_store, evR_nilck, evR_slice, evR_faddr, evR_field, evR_iaddrA, evR_iaddrS, evR_idxA, evR_idxS, evR_mkfn, evR_ext, evR_len, evR_app, evR_mm, evR_mksl, evR_cpy, evR_clr, evR_b2s, evR_isnil]
    simp only [Option.bind_assoc]
    refine bind_loop (loop8b_ok g t ws hws f (ints L) hes hl hcall c (by omega) (fun j hj => ?_) 5 0 _ rfl rfl rfl rfl rfl rfl rfl) ?_
    · have := k3 j hj
      rw [Int.toNat_natCast, hgd j hj, hgd c (by omega)] at this
      exact this
    · intro T2 _
      simp (config := {decide := true}) only [evC_seq, evC_ret, evC_region, evC_skip, evC_exit, evC_scope, evC_cond, evC_block, condC_b, keepT, List.map_cons, List.map_nil, enum, evR_nil, evR_call, evR_guard, guardR_b, lk_cons, setT_some, setT_none, Option.bind_some, Option.bind_none, thenC_nrm, thenC_ret, thenC_exit, blockC_nrm, blockC_ret, blockC_exit, endR_nil, endR_cons, endF_ret, endF_nrm, List.length_cons, List.length_nil, if_true, if_false, reduceIte, ev, actR_some, act, callR_some, callR_none, calleeR_some, callee, toDs, toD, loadA, storeA, subA, subD, updA, Eff.on, resA, resVs, resV, lk, finish, fznR, fzns, fzn, trim, lts, lt, ltO, List.take, List.all, List.append_nil, List.nil_append, List.cons_append, DV.cells, AV.cells, pairsOk, indep, subL, upd, List.getElem?_cons_zero, List.getElem?_cons_succ, List.getElem?_nil, List.set_cons_zero, List.set_cons_succ, reduceCtorEq, Nat.reduceEqDiff, Nat.reduceAdd, Nat.reduceLeDiff, Nat.add_zero, Nat.zero_add, stb, and_true, true_and, and_self, againL_nrm, evC_loop, thaws, List.getD_cons_zero, List.getD_cons_succ, List.getD_nil, List.drop, intOfA, binD, binI, unD, mmL, Bool.and_true, Bool.true_and, decide_true, decide_false, buildA, mkAgg, allD, behind, adoptR, adopt, isD, beq_self_eq_true, evR_mv, evR_pick, evR_bin, evR_eq, evR_un, evR_conv, evR_convs, evR_box, evR_build, evR_bsl, evR_load, evR_store, evR_nilck, evR_slice, evR_faddr, evR_field, evR_iaddrA, evR_iaddrS, evR_idxA, evR_idxS, evR_mkfn, evR_ext, evR_len, evR_app, evR_mm, evR_mksl, evR_cpy, evR_clr, evR_b2s, evR_isnil]
end Go.Proofs.Ytpbcjmgjdiiafaa
