/- Straws, draws, the best of a list, what is known. -/
import Derived.Test.YtpbcjmgjdiiafaaStrawRef
set_option linter.all false
namespace Go.Proofs.Ytpbcjmgjdiiafaa
open Pv Go
set_option maxRecDepth 10000

def wt (w : Int) : Nat := (mmI false (mmI true w 1) 16).toNat
theorem wt_ok (w : Int) : mmI false (mmI true w 1) 16 = (wt w : Int) ∧ 1 ≤ wt w ∧ wt w ≤ 16 := by
  unfold wt
  have : 1 ≤ mmI false (mmI true w 1) 16 ∧ mmI false (mmI true w 1) 16 ≤ 16 := by
    simp only [mmI]; simp; split <;> split <;> omega
  omega
theorem wt_ok' (u : Int) : mmI true 1 (mmI false u 16) = (wt u : Int) := by
  unfold wt mmI; simp; split <;> split <;> (try split) <;> (try split) <;> omega

def SV (h : Nat) (w : Int) : Int := -(((1048576 - LV (h % 65536 + 1)) * 4096 / wt w : Nat) : Int)
theorem SV_bound (h : Nat) (w : Int) : -4294967296 ≤ SV h w ∧ SV h w ≤ 0 := by
  unfold SV
  have : (1048576 - LV (h % 65536 + 1)) * 4096 / wt w ≤ (1048576 - LV (h % 65536 + 1)) * 4096 := Nat.div_le_self _ _
  generalize (1048576 - LV (h % 65536 + 1)) * 4096 / wt w = q at this
  omega

theorem straw_parts (h : Nat) (hh : h < 4294967296) (v : Nat) (hv : 1 ≤ v ∧ v ≤ 16) :
    clamp (IntKind.u32.wrap (Int.tmod (h : Int) 65536 + 1)) = h % 65536 + 1 ∧
    IntKind.i64.wrap (0 - IntKind.i64.wrap ((IntKind.i64.wrap (IntKind.i64.wrap (1048576 - ((LV (h % 65536 + 1) : Nat) : Int)) * 4096)).tdiv (v : Int))) = -(((1048576 - LV (h % 65536 + 1)) * 4096 / v : Nat) : Int) := by
  have e1 : Int.tmod (h : Int) 65536 = ((h % 65536 : Nat) : Int) := by
    rw [Int.tmod_eq_emod_of_nonneg (by omega)]; rfl
  refine ⟨?_, ?_⟩
  · rw [e1, wu32 (by omega), show ((h % 65536 : Nat) : Int) + 1 = ((h % 65536 + 1 : Nat) : Int) by omega]
    exact clamp_id _ (by omega)
  · have hL := LV_le (u := h % 65536 + 1) (by omega)
    generalize LV (h % 65536 + 1) = L at hL
    rw [wi64 (n := 1048576 - (L : Int)) (by omega), wi64 (n := (1048576 - (L : Int)) * 4096) (by omega)]
    have e2 : (1048576 - (L : Int)) * 4096 = (((1048576 - L) * 4096 : Nat) : Int) := by omega
    have e3 : (((1048576 - L) * 4096 : Nat) : Int).tdiv (v : Int) = (((1048576 - L) * 4096 / v : Nat) : Int) := by
      rw [Int.tdiv_eq_ediv_of_nonneg (by omega)]; rfl
    have hle : (1048576 - L) * 4096 / v ≤ (1048576 - L) * 4096 := Nat.div_le_self _ _
    rw [e2, e3]
    generalize (1048576 - L) * 4096 / v = q at hle
    rw [wi64 (n := (q : Int)) (by omega), wi64 (by omega)]
    omega

theorem straw_at (h : Nat) (hh : h < 4294967296) (w : Int) : evF C 12 [.d (.i .u32 (h : Int)), .d (.i .i64 w)] [] = some (.d (.i .i64 (SV h w)), []) := by
  rw [evF_code (rfl : C 12 = some a12) _ _ rfl]
  obtain ⟨hw, h1, h2⟩ := wt_ok w
  unfold SV
  generalize wt w = v at hw h1 h2
  obtain ⟨p1, p2⟩ := straw_parts h hh v ⟨h1, h2⟩
  have hz : ((v : Int) = 0) = False := by simp; omega
  simp (config := {decide := true}) only [c12, hw, hz, log_at, p1, p2, evC_seq, evC_ret, evC_region, evC_skip, evC_exit, evC_scope, evC_cond, evC_block, condC_b, keepT, List.map_cons, List.map_nil, enum, evR_nil, evR_call, evR_guard, guardR_b, lk_cons, setT_some, setT_none, Option.bind_some, Option.bind_none, thenC_nrm, thenC_ret, thenC_exit, blockC_nrm, blockC_ret, blockC_exit, endR_nil, endR_cons, endF_ret, endF_nrm, List.length_cons, List.length_nil, if_true, if_false, reduceIte, ev, actR_some, act, callR_some, callR_none, calleeR_some, callee, toDs, toD, loadA, storeA, subA, subD, updA, Eff.on, resA, resVs, resV, lk, finish, fznR, fzns, fzn, trim, lts, lt, ltO, List.take, List.all, List.append_nil, List.nil_append, List.cons_append, DV.cells, AV.cells, pairsOk, indep, subL, upd, List.getElem?_cons_zero, List.getElem?_cons_succ, List.getElem?_nil, List.set_cons_zero, List.set_cons_succ, reduceCtorEq, Nat.reduceEqDiff, Nat.reduceAdd, Nat.reduceLeDiff, Nat.add_zero, Nat.zero_add, stb, and_true, true_and, and_self, againL_nrm, evC_loop, thaws, List.getD_cons_zero, List.getD_cons_succ, List.getD_nil, List.drop, intOfA, binD, binI, unD, mmL, Bool.and_true, Bool.true_and, decide_true, decide_false, buildA, mkAgg, allD, behind, adoptR, adopt, isD, beq_self_eq_true, evR_mv, evR_pick, evR_bin, evR_eq, evR_un, evR_conv, evR_convs, evR_box, evR_build, evR_bsl, evR_load, evR_store, evR_nilck, evR_slice, evR_faddr, evR_field, evR_iaddrA, evR_iaddrS, evR_idxA, evR_idxS, evR_mkfn, evR_ext, evR_len, evR_app, evR_mm, evR_mksl, evR_cpy, evR_clr, evR_b2s, evR_isnil]
theorem refstraw_at (h : Nat) (hh : h < 4294967296) (w : Int) : evF C 14 [.d (.i .u32 (h : Int)), .d (.i .i64 w)] [] = some (.d (.i .i64 (SV h w)), []) := by
  rw [evF_code (rfl : C 14 = some a14) _ _ rfl]
  have hw := wt_ok' w
  obtain ⟨_, h1, h2⟩ := wt_ok w
  unfold SV
  generalize wt w = v at hw h1 h2
  obtain ⟨p1, p2⟩ := straw_parts h hh v ⟨h1, h2⟩
  have hz : ((v : Int) = 0) = False := by simp; omega
  simp (config := {decide := true}) only [c14, hw, hz, ref_at, p1, p2, evC_seq, evC_ret, evC_region, evC_skip, evC_exit, evC_scope, evC_cond, evC_block, condC_b, keepT, List.map_cons, List.map_nil, enum, evR_nil, evR_call, evR_guard, guardR_b, lk_cons, setT_some, setT_none, Option.bind_some, Option.bind_none, thenC_nrm, thenC_ret, thenC_exit, blockC_nrm, blockC_ret, blockC_exit, endR_nil, endR_cons, endF_ret, endF_nrm, List.length_cons, List.length_nil, if_true, if_false, reduceIte, ev, actR_some, act, callR_some, callR_none, calleeR_some, callee, toDs, toD, loadA, storeA, subA, subD, updA, Eff.on, resA, resVs, resV, lk, finish, fznR, fzns, fzn, trim, lts, lt, ltO, List.take, List.all, List.append_nil, List.nil_append, List.cons_append, DV.cells, AV.cells, pairsOk, indep, subL, upd, List.getElem?_cons_zero, List.getElem?_cons_succ, List.getElem?_nil, List.set_cons_zero, List.set_cons_succ, reduceCtorEq, Nat.reduceEqDiff, Nat.reduceAdd, Nat.reduceLeDiff, Nat.add_zero, Nat.zero_add, stb, and_true, true_and, and_self, againL_nrm, evC_loop, thaws, List.getD_cons_zero, List.getD_cons_succ, List.getD_nil, List.drop, intOfA, binD, binI, unD, mmL, Bool.and_true, Bool.true_and, decide_true, decide_false, buildA, mkAgg, allD, behind, adoptR, adopt, isD, beq_self_eq_true, evR_mv, evR_pick, evR_bin, evR_eq, evR_un, evR_conv, evR_convs, evR_box, evR_build, evR_bsl, evR_load, evR_store, evR_nilck, evR_slice, evR_faddr, evR_field, evR_iaddrA, evR_iaddrS, evR_idxA, evR_idxS, evR_mkfn, evR_ext, evR_len, evR_app, evR_mm, evR_mksl, evR_cpy, evR_clr, evR_b2s, evR_isnil]

def HV (a b c : Int) : Nat := (hashI (IntKind.u32.wrap a) (IntKind.u32.wrap b) (IntKind.u32.wrap c)).toNat
theorem hash_range (a b c : Int) : 0 ≤ hashI a b c ∧ hashI a b c < 4294967296 := wrap_u32 _
theorem HV_ok (a b c : Int) : hashI (IntKind.u32.wrap a) (IntKind.u32.wrap b) (IntKind.u32.wrap c) = (HV a b c : Int) ∧ HV a b c < 4294967296 := by
  have := hash_range (IntKind.u32.wrap a) (IntKind.u32.wrap b) (IntKind.u32.wrap c)
  unfold HV; omega
theorem draw_at (g o t w : Int) : evF C 15 [.d (.i .u8 g), .d (.i .i64 o), .d (.i .i64 t), .d (.i .i64 w)] [] = some (.d (.i .i64 (SV (HV g o t) w)), []) := by
  rw [evF_code (rfl : C 15 = some a15) _ _ rfl]
  obtain ⟨h1, h2⟩ := HV_ok g o t
  simp (config := {decide := true}) only [c15, hash_ok, h1, straw_at _ h2, evC_seq, evC_ret, evC_region, evC_skip, evC_exit, evC_scope, evC_cond, evC_block, condC_b, keepT, List.map_cons, List.map_nil, enum, evR_nil, evR_call, evR_guard, guardR_b, lk_cons, setT_some, setT_none, Option.bind_some, Option.bind_none, thenC_nrm, thenC_ret, thenC_exit, blockC_nrm, blockC_ret, blockC_exit, endR_nil, endR_cons, endF_ret, endF_nrm, List.length_cons, List.length_nil, if_true, if_false, reduceIte, ev, actR_some, act, callR_some, callR_none, calleeR_some, callee, toDs, toD, loadA, storeA, subA, subD, updA, Eff.on, resA, resVs, resV, lk, finish, fznR, fzns, fzn, trim, lts, lt, ltO, List.take, List.all, List.append_nil, List.nil_append, List.cons_append, DV.cells, AV.cells, pairsOk, indep, subL, upd, List.getElem?_cons_zero, List.getElem?_cons_succ, List.getElem?_nil, List.set_cons_zero, List.set_cons_succ, reduceCtorEq, Nat.reduceEqDiff, Nat.reduceAdd, Nat.reduceLeDiff, Nat.add_zero, Nat.zero_add, stb, and_true, true_and, and_self, againL_nrm, evC_loop, thaws, List.getD_cons_zero, List.getD_cons_succ, List.getD_nil, List.drop, intOfA, binD, binI, unD, mmL, Bool.and_true, Bool.true_and, decide_true, decide_false, buildA, mkAgg, allD, behind, adoptR, adopt, isD, beq_self_eq_true, evR_mv, evR_pick, evR_bin, evR_eq, evR_un, evR_conv, evR_convs, evR_box, evR_build, evR_bsl, evR_load, evR_store, evR_nilck, evR_slice, evR_faddr, evR_field, evR_iaddrA, evR_iaddrS, evR_idxA, evR_idxS, evR_mkfn, evR_ext, evR_len, evR_app, evR_mm, evR_mksl, evR_cpy, evR_clr, evR_b2s, evR_isnil]
theorem refdraw_at (g o t w : Int) : evF C 16 [.d (.i .u8 g), .d (.i .i64 o), .d (.i .i64 t), .d (.i .i64 w)] [] = some (.d (.i .i64 (SV (HV g o t) w)), []) := by
  rw [evF_code (rfl : C 16 = some a16) _ _ rfl]
  obtain ⟨h1, h2⟩ := HV_ok g o t
  simp (config := {decide := true}) only [c16, hash'_ok, h1, refstraw_at _ h2, evC_seq, evC_ret, evC_region, evC_skip, evC_exit, evC_scope, evC_cond, evC_block, condC_b, keepT, List.map_cons, List.map_nil, enum, evR_nil, evR_call, evR_guard, guardR_b, lk_cons, setT_some, setT_none, Option.bind_some, Option.bind_none, thenC_nrm, thenC_ret, thenC_exit, blockC_nrm, blockC_ret, blockC_exit, endR_nil, endR_cons, endF_ret, endF_nrm, List.length_cons, List.length_nil, if_true, if_false, reduceIte, ev, actR_some, act, callR_some, callR_none, calleeR_some, callee, toDs, toD, loadA, storeA, subA, subD, updA, Eff.on, resA, resVs, resV, lk, finish, fznR, fzns, fzn, trim, lts, lt, ltO, List.take, List.all, List.append_nil, List.nil_append, List.cons_append, DV.cells, AV.cells, pairsOk, indep, subL, upd, List.getElem?_cons_zero, List.getElem?_cons_succ, List.getElem?_nil, List.set_cons_zero, List.set_cons_succ, reduceCtorEq, Nat.reduceEqDiff, Nat.reduceAdd, Nat.reduceLeDiff, Nat.add_zero, Nat.zero_add, stb, and_true, true_and, and_self, againL_nrm, evC_loop, thaws, List.getD_cons_zero, List.getD_cons_succ, List.getD_nil, List.drop, intOfA, binD, binI, unD, mmL, Bool.and_true, Bool.true_and, decide_true, decide_false, buildA, mkAgg, allD, behind, adoptR, adopt, isD, beq_self_eq_true, evR_mv, evR_pick, evR_bin, evR_eq, evR_un, evR_conv, evR_convs, evR_box, evR_build, evR_bsl, evR_load, evR_store, evR_nilck, evR_slice, evR_faddr, evR_field, evR_iaddrA, evR_iaddrS, evR_idxA, evR_idxS, evR_mkfn, evR_ext, evR_len, evR_app, evR_mm, evR_mksl, evR_cpy, evR_clr, evR_b2s, evR_isnil]

/-! the best -/
def ints (l : List Int) : List DV := l.map (DV.i .i64)
def bestGo (l : List Int) : Nat → Nat → Int → Int
  | 0, _, b => b
  | n + 1, i, b => bestGo l n (i + 1) (if b < 0 ∨ l.getD i 0 > l.getD b.toNat 0 then (i : Int) else b)
def bestI (l : List Int) : Int := bestGo l l.length 0 (-1)

def loop11 : ACode := .seq (.region (some [0, 3, 6, 7, 8]) [⟨(some 9), .bin .lss (.t 8) (.t 7), none⟩] [])
   (.seq (.cond (.t 9) (.skip) (.exit 0))
   (.seq (.block 1 (.seq (.region (some [0, 3, 6, 7, 8]) [⟨(some 10), .mv (.t 8), none⟩,
      ⟨(some 11), .iaddrS 1 (.t 6) (.t 8), none⟩,
      ⟨(some 12), .load false 1 (.t 11), none⟩,
      ⟨(some 4), .mv (.t 10), none⟩,
      ⟨(some 5), .mv (.t 12), none⟩] [])
    (.seq (.region (some [0, 3, 4, 5, 6, 7, 8]) [⟨(some 13), .mv (.t 3), none⟩,
      ⟨(some 14), .bin .lss (.t 13) (.c (.d (.i .i64 0))), none⟩,
      ⟨(some 15), .mv (.t 14), none⟩,
      ⟨(some 16), .mv (.t 5), some (15, false)⟩,
      ⟨(some 17), .mv (.t 0), some (15, false)⟩,
      ⟨(some 18), .mv (.t 3), some (15, false)⟩,
      ⟨(some 19), .iaddrS 1 (.t 17) (.t 18), some (15, false)⟩,
      ⟨(some 20), .load false 1 (.t 19), some (15, false)⟩,
      ⟨(some 21), .bin .gtr (.t 16) (.t 20), some (15, false)⟩,
      ⟨(some 22), .pick (.t 15) (.c (.d (.b true))) (.t 21), none⟩] [])
    (.cond (.t 22) (.region (some [0, 4, 6, 7, 8]) [⟨(some 23), .mv (.t 4), none⟩,
       ⟨(some 3), .mv (.t 23), none⟩] []) (.skip)))))
   (.region (some [0, 3, 6, 7, 8]) [⟨(some 24), .bin .add (.t 8) (.c (.d (.i .i64 1))), none⟩,
     ⟨(some 8), .mv (.t 24), none⟩] [])))

theorem ints_get (l : List Int) (j : Nat) (h : j < l.length) : (ints l)[((j : Nat) : Int).toNat]? = some (.i .i64 (l.getD j 0)) := by
  simp [ints, h]

theorem loop11_ok (l : List Int) (hlen : l.length ≤ 4611686018427387904) : ∀ (n i : Nat) (b : Int) (T : Tm), i + n = l.length → -1 ≤ b → b < i → lk T 0 = .d (.sl (ints l)) → lk T 3 = .d (.i .i64 b) → lk T 6 = .d (.sl (ints l)) →
    lk T 7 = .d (.i .i64 (l.length : Nat)) → lk T 8 = .d (.i .i64 i) →
    ∃ T', evL C (some [0, 3, 6, 7, 8]) loop11 0 T [] = some (.exit 0, T', []) ∧ lk T' 3 = .d (.i .i64 (bestGo l n i b))
  | 0, i, b, T, hi, hb1, hb2, h0, h3, h6, h7, h8 => by
    have hd : decide ((i : Int) < (l.length : Nat)) = false := by simp; omega
    obtain ⟨g, hg⟩ : ∃ g, g = againL C (some [0, 3, 6, 7, 8]) loop11 0 := ⟨_, rfl⟩
    rw [evL_eq, ← hg]
    simp (config := {decide := true}) only [loop11, hd, h0, h3, h6, h7, h8, evC_seq, evC_ret, evC_region, evC_skip, evC_exit, evC_scope, evC_cond, evC_block, condC_b, keepT, List.map_cons, List.map_nil, enum, evR_nil, evR_call, evR_guard, guardR_b, lk_cons, setT_some, setT_none, Option.bind_some, Option.bind_none, thenC_nrm, thenC_ret, thenC_exit, blockC_nrm, blockC_ret, blockC_exit, endR_nil, endR_cons, endF_ret, endF_nrm, List.length_cons, List.length_nil, if_true, if_false, reduceIte, ev, actR_some, act, callR_some, callR_none, calleeR_some, callee, toDs, toD, loadA, storeA, subA, subD, updA, Eff.on, resA, resVs, resV, lk, finish, fznR, fzns, fzn, trim, lts, lt, ltO, List.take, List.all, List.append_nil, List.nil_append, List.cons_append, DV.cells, AV.cells, pairsOk, indep, subL, upd, List.getElem?_cons_zero, List.getElem?_cons_succ, List.getElem?_nil, List.set_cons_zero, List.set_cons_succ, reduceCtorEq, Nat.reduceEqDiff, Nat.reduceAdd, Nat.reduceLeDiff, Nat.add_zero, Nat.zero_add, stb, and_true, true_and, and_self, againL_nrm, evC_loop, thaws, List.getD_cons_zero, List.getD_cons_succ, List.getD_nil, List.drop, intOfA, binD, binI, unD, mmL, Bool.and_true, Bool.true_and, decide_true, decide_false, buildA, mkAgg, allD, behind, adoptR, adopt, isD, beq_self_eq_true, evR_mv, evR_pick, evR_bin, evR_eq, evR_un, evR_conv, evR_convs, evR_box, evR_build, evR_bsl, evR_load, evR_store, evR_nilck, evR_slice, evR_faddr, evR_field, evR_iaddrA, evR_iaddrS, evR_idxA, evR_idxS, evR_mkfn, evR_ext, evR_len, evR_app, evR_mm, evR_mksl, evR_cpy, evR_clr, evR_b2s, evR_isnil]
    rw [hg]
    exact ⟨_, rfl, rfl⟩
  | n + 1, i, b, T, hi, hb1, hb2, h0, h3, h6, h7, h8 => by
    have hd : decide ((i : Int) < (l.length : Nat)) = true := by simp; omega
    have hw : IntKind.i64.wrap ((i : Int) + 1) = ((i + 1 : Nat) : Int) := wi64 (by omega)
    have hp : (0 ≤ (i : Int)) = True := by simp
    have hx := ints_get l i (by omega)
    obtain ⟨g, hg⟩ : ∃ g, g = againL C (some [0, 3, 6, 7, 8]) loop11 0 := ⟨_, rfl⟩
    simp only [bestGo]
    rw [evL_eq, ← hg]
    by_cases hneg : b < 0
    · have hd2 : decide (b < 0) = true := decide_eq_true hneg
      rw [if_pos (Or.inl hneg)]
      simp (config := {decide := true}) only [loop11, hd, hd2, hw, hp, hx, h0, h3, h6, h7, h8, evC_seq, evC_ret, evC_region, evC_skip, evC_exit, evC_scope, evC_cond, evC_block, condC_b, keepT, List.map_cons, List.map_nil, enum, evR_nil, evR_call, evR_guard, guardR_b, lk_cons, setT_some, setT_none, Option.bind_some, Option.bind_none, thenC_nrm, thenC_ret, thenC_exit, blockC_nrm, blockC_ret, blockC_exit, endR_nil, endR_cons, endF_ret, endF_nrm, List.length_cons, List.length_nil, if_true, if_false, reduceIte, ev, actR_some, act, callR_some, callR_none, calleeR_some, callee, toDs, toD, loadA, storeA, subA, subD, updA, Eff.on, resA, resVs, resV, lk, finish, fznR, fzns, fzn, trim, lts, lt, ltO, List.take, List.all, List.append_nil, List.nil_append, List.cons_append, DV.cells, AV.cells, pairsOk, indep, subL, upd, List.getElem?_cons_zero, List.getElem?_cons_succ, List.getElem?_nil, List.set_cons_zero, List.set_cons_succ, reduceCtorEq, Nat.reduceEqDiff, Nat.reduceAdd, Nat.reduceLeDiff, Nat.add_zero, Nat.zero_add, stb, and_true, true_and, and_self, againL_nrm, evC_loop, thaws, List.getD_cons_zero, List.getD_cons_succ, List.getD_nil, List.drop, intOfA, binD, binI, unD, mmL, Bool.and_true, Bool.true_and, decide_true, decide_false, buildA, mkAgg, allD, behind, adoptR, adopt, isD, beq_self_eq_true, evR_mv, evR_pick, evR_bin, evR_eq, evR_un, evR_conv, evR_convs, evR_box, evR_build, evR_bsl, evR_load, evR_store, evR_nilck, evR_slice, evR_faddr, evR_field, evR_iaddrA, evR_iaddrS, evR_idxA, evR_idxS, evR_mkfn, evR_ext, evR_len, evR_app, evR_mm, evR_mksl, evR_cpy, evR_clr, evR_b2s, evR_isnil]
      rw [hg, againL_nrm]
      exact loop11_ok l hlen n (i + 1) _ _ (by omega) (by omega) (by omega) rfl rfl rfl rfl rfl
    · have hd2 : decide (b < 0) = false := decide_eq_false hneg
      obtain ⟨c, rfl⟩ : ∃ c : Nat, b = c := ⟨b.toNat, by omega⟩
      have hy := ints_get l c (by omega)
      have hp2 : (0 ≤ (c : Int)) = True := by simp
      by_cases hgt : l.getD i 0 > l.getD c 0
      · have hd3 : decide (l.getD i 0 > l.getD c 0) = true := decide_eq_true hgt
        rw [if_pos (Or.inr (by simpa using hgt))]
        simp (config := {decide := true}) only [loop11, hd, hd2, hd3, hw, hp, hp2, hx, hy, h0, h3, h6, h7, h8, evC_seq, evC_ret, evC_region, evC_skip, evC_exit, evC_scope, evC_cond, evC_block, condC_b, keepT, List.map_cons, List.map_nil, enum, evR_nil, evR_call, evR_guard, guardR_b, lk_cons, setT_some, setT_none, Option.bind_some, Option.bind_none, thenC_nrm, thenC_ret, thenC_exit, blockC_nrm, blockC_ret, blockC_exit, endR_nil, endR_cons, endF_ret, endF_nrm, List.length_cons, List.length_nil, if_true, if_false, reduceIte, ev, actR_some, act, callR_some, callR_none, calleeR_some, callee, toDs, toD, loadA, storeA, subA, subD, updA, Eff.on, resA, resVs, resV, lk, finish, fznR, fzns, fzn, trim, lts, lt, ltO, List.take, List.all, List.append_nil, List.nil_append, List.cons_append, DV.cells, AV.cells, pairsOk, indep, subL, upd, List.getElem?_cons_zero, List.getElem?_cons_succ, List.getElem?_nil, List.set_cons_zero, List.set_cons_succ, reduceCtorEq, Nat.reduceEqDiff, Nat.reduceAdd, Nat.reduceLeDiff, Nat.add_zero, Nat.zero_add, stb, and_true, true_and, and_self, againL_nrm, evC_loop, thaws, List.getD_cons_zero, List.getD_cons_succ, List.getD_nil, List.drop, intOfA, binD, binI, unD, mmL, Bool.and_true, Bool.true_and, decide_true, decide_false, buildA, mkAgg, allD, behind, adoptR, adopt, isD, beq_self_eq_true, evR_mv, evR_pick, evR_bin, evR_eq, evR_un, evR_conv, evR_convs, evR_box, evR_build, evR_bsl, evR_load, evR_store, evR_nilck, evR_slice, evR_faddr, evR_field, evR_iaddrA, evR_iaddrS, evR_idxA, evR_idxS, evR_mkfn, evR_ext, evR_len, evR_app, evR_mm, evR_mksl, evR_cpy, evR_clr, evR_b2s, evR_isnil]
        rw [hg, againL_nrm]
        exact loop11_ok l hlen n (i + 1) _ _ (by omega) (by omega) (by omega) rfl rfl rfl rfl rfl
      · have hd3 : decide (l.getD i 0 > l.getD c 0) = false := decide_eq_false hgt
        rw [if_neg (fun h => h.elim (fun h => by omega) (fun h => hgt (by simpa using h)))]
        simp (config := {decide := true}) only [loop11, hd, hd2, hd3, hw, hp, hp2, hx, hy, h0, h3, h6, h7, h8, evC_seq, evC_ret, evC_region, evC_skip, evC_exit, evC_scope, evC_cond, evC_block, condC_b, keepT, List.map_cons, List.map_nil, enum, evR_nil, evR_call, evR_guard, guardR_b, lk_cons, setT_some, setT_none, Option.bind_some, Option.bind_none, thenC_nrm, thenC_ret, thenC_exit, blockC_nrm, blockC_ret, blockC_exit, endR_nil, endR_cons, endF_ret, endF_nrm, List.length_cons, List.length_nil, if_true, if_false, reduceIte, ev, actR_some, act, callR_some, callR_none, calleeR_some, callee, toDs, toD, loadA, storeA, subA, subD, updA, Eff.on, resA, resVs, resV, lk, finish, fznR, fzns, fzn, trim, lts, lt, ltO, List.take, List.all, List.append_nil, List.nil_append, List.cons_append, DV.cells, AV.cells, pairsOk, indep, subL, upd, List.getElem?_cons_zero, List.getElem?_cons_succ, List.getElem?_nil, List.set_cons_zero, List.set_cons_succ, reduceCtorEq, Nat.reduceEqDiff, Nat.reduceAdd, Nat.reduceLeDiff, Nat.add_zero, Nat.zero_add, stb, and_true, true_and, and_self, againL_nrm, evC_loop, thaws, List.getD_cons_zero, List.getD_cons_succ, List.getD_nil, List.drop, intOfA, binD, binI, unD, mmL, Bool.and_true, Bool.true_and, decide_true, decide_false, buildA, mkAgg, allD, behind, adoptR, adopt, isD, beq_self_eq_true, evR_mv, evR_pick, evR_bin, evR_eq, evR_un, evR_conv, evR_convs, evR_box, evR_build, evR_bsl, evR_load, evR_store, evR_nilck, evR_slice, evR_faddr, evR_field, evR_iaddrA, evR_iaddrS, evR_idxA, evR_idxS, evR_mkfn, evR_ext, evR_len, evR_app, evR_mm, evR_mksl, evR_cpy, evR_clr, evR_b2s, evR_isnil]
        rw [hg, againL_nrm]
        exact loop11_ok l hlen n (i + 1) _ _ (by omega) (by omega) (by omega) rfl rfl rfl rfl rfl

theorem best_at (l : List Int) (hlen : l.length ≤ 4611686018427387904) : evF C 11 [.d (.sl (ints l))] [] = some (.d (.i .i64 (bestI l)), []) := by
  rw [evF_code (rfl : C 11 = some a11) _ _ rfl]
  have hln : ((ints l).length : Int) = (l.length : Nat) := by simp [ints]
  simp (config := {decide := true}) only [c11, hln, evC_seq, evC_ret, evC_region, evC_skip, evC_exit, evC_scope, evC_cond, evC_block, condC_b, keepT, List.map_cons, List.map_nil, enum, evR_nil, evR_call, evR_guard, guardR_b, lk_cons, setT_some, setT_none, Option.bind_some, Option.bind_none, thenC_nrm, thenC_ret, thenC_exit, blockC_nrm, blockC_ret, blockC_exit, endR_nil, endR_cons, endF_ret, endF_nrm, List.length_cons, List.length_nil, if_true, if_false, reduceIte, ev, actR_some, act, callR_some, callR_none, calleeR_some, callee, toDs, toD, loadA, storeA, subA, subD, updA, Eff.on, resA, resVs, resV, lk, finish, fznR, fzns, fzn, trim, lts, lt, ltO, List.take, List.all, List.append_nil, List.nil_append, List.cons_append, DV.cells, AV.cells, pairsOk, indep, subL, upd, List.getElem?_cons_zero, List.getElem?_cons_succ, List.getElem?_nil, List.set_cons_zero, List.set_cons_succ, reduceCtorEq, Nat.reduceEqDiff, Nat.reduceAdd, Nat.reduceLeDiff, Nat.add_zero, Nat.zero_add, stb, and_true, true_and, and_self, againL_nrm, evC_loop, thaws, List.getD_cons_zero, List.getD_cons_succ, List.getD_nil, List.drop, intOfA, binD, binI, unD, mmL, Bool.and_true, Bool.true_and, decide_true, decide_false, buildA, mkAgg, allD, behind, adoptR, adopt, isD, beq_self_eq_true, evR_mv, evR_pick, evR_bin, evR_eq, evR_un, evR_conv, evR_convs, evR_box, evR_build, evR_bsl, evR_load, evR_store, evR_nilck, evR_slice, evR_faddr, evR_field, evR_iaddrA, evR_iaddrS, evR_idxA, evR_idxS, evR_mkfn, evR_ext, evR_len, evR_app, evR_mm, evR_mksl, evR_cpy, evR_clr, evR_b2s, evR_isnil]
  simp only [Option.bind_assoc]
  refine bind_loop (loop11_ok l hlen l.length 0 (-1) _ (by omega) (by omega) (by omega) rfl rfl rfl rfl rfl) ?_
  intro T' h3
  simp (config := {decide := true}) only [h3, bestI, evC_seq, evC_ret, evC_region, evC_skip, evC_exit, evC_scope, evC_cond, evC_block, condC_b, keepT, List.map_cons, List.map_nil, enum, evR_nil, evR_call, evR_guard, guardR_b, lk_cons, setT_some, setT_none, Option.bind_some, Option.bind_none, thenC_nrm, thenC_ret, thenC_exit, blockC_nrm, blockC_ret, blockC_exit, endR_nil, endR_cons, endF_ret, endF_nrm, List.length_cons, List.length_nil, if_true, if_false, reduceIte, ev, actR_some, act, callR_some, callR_none, calleeR_some, callee, toDs, toD, loadA, storeA, subA, subD, updA, Eff.on, resA, resVs, resV, lk, finish, fznR, fzns, fzn, trim, lts, lt, ltO, List.take, List.all, List.append_nil, List.nil_append, List.cons_append, DV.cells, AV.cells, pairsOk, indep, subL, upd, List.getElem?_cons_zero, List.getElem?_cons_succ, List.getElem?_nil, List.set_cons_zero, List.set_cons_succ, reduceCtorEq, Nat.reduceEqDiff, Nat.reduceAdd, Nat.reduceLeDiff, Nat.add_zero, Nat.zero_add, stb, and_true, true_and, and_self, againL_nrm, evC_loop, thaws, List.getD_cons_zero, List.getD_cons_succ, List.getD_nil, List.drop, intOfA, binD, binI, unD, mmL, Bool.and_true, Bool.true_and, decide_true, decide_false, buildA, mkAgg, allD, behind, adoptR, adopt, isD, beq_self_eq_true, evR_mv, evR_pick, evR_bin, evR_eq, evR_un, evR_conv, evR_convs, evR_box, evR_build, evR_bsl, evR_load, evR_store, evR_nilck, evR_slice, evR_faddr, evR_field, evR_iaddrA, evR_iaddrS, evR_idxA, evR_idxS, evR_mkfn, evR_ext, evR_len, evR_app, evR_mm, evR_mksl, evR_cpy, evR_clr, evR_b2s, evR_isnil]

theorem known_at : evF C 9 [] [] = some (.d (.b true), []) := by
  rw [evF_code (rfl : C 9 = some a9) _ _ rfl]
  have l1 : LV (clamp 1) = 0 := by decide +kernel
  have l2 : LV (clamp 65536) = 1048576 := by decide +kernel
  have l3 : LV (clamp 2) = 65536 := by decide +kernel
  have s1 : evF C 12 [.d (.i .u32 65535), .d (.i .i64 1)] [] = some (.d (.i .i64 0), []) := by
    have := straw_at 65535 (by decide) 1
    rw [show SV 65535 1 = 0 by decide +kernel] at this
    exact this
  have b1 : evF C 11 [.d (.sl [.i .i64 3, .i .i64 5, .i .i64 5])] [] = some (.d (.i .i64 1), []) := best_at [3, 5, 5] (by decide)
  have b2 : evF C 11 [.d (.sl [])] [] = some (.d (.i .i64 (-1)), []) := best_at [] (by decide)
  simp (config := {decide := true}) only [c9, log_at, l1, l2, l3, s1, b1, b2, evC_seq, evC_ret, evC_region, evC_skip, evC_exit, evC_scope, evC_cond, evC_block, condC_b, keepT, List.map_cons, List.map_nil, enum, evR_nil, evR_call, evR_guard, guardR_b, lk_cons, setT_some, setT_none, Option.bind_some, Option.bind_none, thenC_nrm, thenC_ret, thenC_exit, blockC_nrm, blockC_ret, blockC_exit, endR_nil, endR_cons, endF_ret, endF_nrm, List.length_cons, List.length_nil, if_true, if_false, reduceIte, ev, actR_some, act, callR_some, callR_none, calleeR_some, callee, toDs, toD, loadA, storeA, subA, subD, updA, Eff.on, resA, resVs, resV, lk, finish, fznR, fzns, fzn, trim, lts, lt, ltO, List.take, List.all, List.append_nil, List.nil_append, List.cons_append, DV.cells, AV.cells, pairsOk, indep, subL, upd, List.getElem?_cons_zero, List.getElem?_cons_succ, List.getElem?_nil, List.set_cons_zero, List.set_cons_succ, reduceCtorEq, Nat.reduceEqDiff, Nat.reduceAdd, Nat.reduceLeDiff, Nat.add_zero, Nat.zero_add, stb, and_true, true_and, and_self, againL_nrm, evC_loop, thaws, List.getD_cons_zero, List.getD_cons_succ, List.getD_nil, List.drop, intOfA, binD, binI, unD, mmL, Bool.and_true, Bool.true_and, decide_true, decide_false, buildA, mkAgg, allD, behind, adoptR, adopt, isD, beq_self_eq_true, evR_mv, evR_pick, evR_bin, evR_eq, evR_un, evR_conv, evR_convs, evR_box, evR_build, evR_bsl, evR_load, evR_store, evR_nilck, evR_slice, evR_faddr, evR_field, evR_iaddrA, evR_iaddrS, evR_idxA, evR_idxS, evR_mkfn, evR_ext, evR_len, evR_app, evR_mm, evR_mksl, evR_cpy, evR_clr, evR_b2s, evR_isnil]
end Go.Proofs.Ytpbcjmgjdiiafaa
