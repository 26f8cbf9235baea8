/- The law PlaceWeight. -/
import Derived.Test.YtfafafocnnhmpaaPlaceWt
set_option linter.all false
namespace Go.Proofs.Ytfafafocnnhmpaa
open Pv Go Pk
set_option maxRecDepth 10000
set_option maxHeartbeats 2000000
theorem SV_mono (h : Nat) {a b : Int} (hab : a ≤ b) : SV h a ≤ SV h b := by
  have h1 : wt a ≤ wt b := by
    have ea := (wt_ok a).1
    have eb := (wt_ok b).1
    have la := (wt_ok a).2
    have lb := (wt_ok b).2
    generalize wt a = p at ea la ⊢
    generalize wt b = q at eb lb ⊢
    simp only [mmI, if_true, if_false, Bool.false_eq_true] at ea eb
    (repeat' split at ea) <;> (repeat' split at eb) <;> omega
  have h2 := (wt_ok a).2
  unfold SV
  have := Nat.div_le_div_left (a := (1048576 - LV (h % 65536 + 1)) * 4096) h1 (by omega)
  omega
def setW (m : Pk.Mp) (i : Nat) (w : Int) : Pk.Mp := { m with osds := m.osds.set i { m.osds.get i with weight := w } }
theorem wOf_osL (m : Pk.Mp) (i : Nat) (h : i < 5) : wOf (osL m) i = (m.osds.get i).weight := match i, h with
  | 0, _ => rfl | 1, _ => rfl | 2, _ => rfl | 3, _ => rfl | 4, _ => rfl | _ + 5, h => absurd h (by omega)
theorem wOf_set (m : Pk.Mp) (i : Nat) (h : i < 5) (w : Int) (j : Nat) : wOf (osL (setW m i w)) j = if j = i then w else wOf (osL m) j := by
  have hi : i = 0 ∨ i = 1 ∨ i = 2 ∨ i = 3 ∨ i = 4 := by omega
  have hj : j = 0 ∨ j = 1 ∨ j = 2 ∨ j = 3 ∨ j = 4 ∨ 5 ≤ j := by omega
  rcases hj with rfl | rfl | rfl | rfl | rfl | hj
  case inr.inr.inr.inr.inr =>
    have h1 : ∀ m, (osL m)[j]? = none := fun m => List.getElem?_eq_none (by exact hj)
    rw [if_neg (by omega)]
    simp only [wOf, h1]
  all_goals rcases hi with rfl | rfl | rfl | rfl | rfl <;> rfl
theorem isM_set (m : Pk.Mp) (i : Nat) (h : i < 5) (w : Int) (h0 : 0 ≤ w ∧ w ≤ 16) (hm : isM m.epoch (osL m) = true) : isM (setW m i w).epoch (osL (setW m i w)) = true := by
  have hw : decide (w < 0) = false := by simp; omega
  have hw2 : decide (w > 16) = false := by simp; omega
  have hi : i = 0 ∨ i = 1 ∨ i = 2 ∨ i = 3 ∨ i = 4 := by omega
  unfold isM at hm ⊢
  rw [Bool.and_eq_true_iff] at hm ⊢
  refine ⟨?_, hm.2⟩
  have h1 := hm.1
  simp only [osL, List.all_cons, List.all_nil, Bool.and_true, Bool.and_eq_true_iff, Osd.ok] at h1
  rcases hi with rfl | rfl | rfl | rfl | rfl <;>
  · simp only [osL, setW, R5.set, R5.get, List.all_cons, List.all_nil, Bool.and_true, Bool.and_eq_true_iff, Osd.ok, hw, hw2, Bool.false_or]
    simp_all
theorem osW (m : Pk.Mp) (hm : isM m.epoch (osL m) = true) (i : Nat) (h : i < 5) : 0 ≤ wOf (osL m) i ∧ wOf (osL m) i ≤ 16 := by
  unfold isM at hm
  rw [Bool.and_eq_true_iff] at hm
  have h1 := hm.1
  simp only [osL, List.all_cons, List.all_nil, Bool.and_true, Bool.and_eq_true_iff, Osd.ok] at h1
  have hi : i = 0 ∨ i = 1 ∨ i = 2 ∨ i = 3 ∨ i = 4 := by omega
  rcases hi with rfl | rfl | rfl | rfl | rfl <;>
  · simp [wOf, osL]
    simp at h1
    omega
/-- The first of a pick stays first when its weight grows. -/
theorem first_grows (m : Pk.Mp) (g : Int) (hp : pickP m.epoch (osL m) g ≠ []) (o : Nat) (R : List Nat) (hR : pickP m.epoch (osL m) g = o :: R) (w : Int) (hw : (m.osds.get o).weight ≤ w ∧ w ≤ 16) :
    o < 5 ∧ ∃ R', pickP m.epoch (osL (setW m o w)) g = o :: R' := by
  obtain ⟨c, hn⟩ := pick_ne hp
  obtain ⟨c1, c2⟩ := Bool.and_eq_true_iff.1 c
  obtain ⟨R0, h0⟩ := pick_cons c hn
  rw [h0] at hR
  obtain ⟨rfl, rfl⟩ := List.cons.inj hR
  have hl : 0 < (inN (osL m) 5).length := List.length_pos_iff.2 hn
  have hmem := drawn_mem _ hl (strawOf (osL m) g (0 + 0 * 3))
  have ho : drawOf (osL m) g 0 0 < 5 := inN_lt _ 5 _ hmem
  have hpos := inN_pos _ 5 _ hmem
  refine ⟨ho, ?_⟩
  have hdef : drawn (inN (osL m) 5) (strawOf (osL m) g (0 + 0 * 3)) = drawOf (osL m) g 0 0 := rfl
  rw [hdef] at hpos
  have hwo := wOf_osL m _ ho
  have hset := fun j => wOf_set m _ ho w j
  have hin : inN (osL m) 5 = inN (osL (setW m (drawOf (osL m) g 0 0) w)) 5 := by
    refine inN_congr (fun i => ?_) 5
    rw [hset i]
    split
    · rename_i e; subst e; omega
    · exact Iff.rfl
  have hd : drawOf (osL (setW m (drawOf (osL m) g 0 0) w)) g 0 0 = drawOf (osL m) g 0 0 := by
    show drawn (inN (osL (setW m (drawOf (osL m) g 0 0) w)) 5) _ = _
    rw [← hin]
    refine drawn_grows _ (inN_sorted _ 5) hl _ _ ?_ (fun q _ hq => ?_)
    · rw [hdef]
      unfold strawOf
      refine SV_mono _ ?_
      rw [hset, if_pos rfl]
      omega
    · rw [hdef] at hq
      unfold strawOf
      rw [hset, if_neg hq]
      exact Int.le_refl _
  obtain ⟨R', h'⟩ := pick_cons (e := (setW m (drawOf (osL m) g 0 0) w).epoch) (os := osL (setW m (drawOf (osL m) g 0 0) w)) (g := g) (by rw [isM_set m _ ho w (by omega) c1, c2]; rfl) (by rw [← hin]; exact hn)
  rw [hd] at h'
  exact ⟨R', h'⟩
theorem weight_at (m : Pk.Mp) (g : Int) (x : Int) (hx : 0 ≤ x ∧ x < 256) : evF C F_paddocklaw4_PlaceWeight [.d (.agg m.cs), .d (.i .u8 g), .d (.i .u8 x)] [] = some (.d (.b true), []) := by
  rw [evF_code (rfl : C F_paddocklaw4_PlaceWeight = some a_paddocklaw4_PlaceWeight) _ _ rfl]
  obtain ⟨v, H, hpi, hv⟩ := pick_res m.epoch (osL m) rfl g
  rw [← Mp_d] at hpi
  rw [show m.d = .agg m.cs from rfl] at hpi
  have d0 : (((0 : Nat) : Int) == 0) = true := by decide
  rcases hv with ⟨rfl, hv⟩ | ⟨rfl, hv⟩
  · simp (config := {decide := true}) only [c_paddocklaw4_PlaceWeight, known_at, hpi, d0, evC_seq, evC_ret, evC_region, evC_skip, evC_exit, evC_scope, evC_cond, evC_block, condC_b, keepT, List.map_cons, List.map_nil, enum, evR_nil, evR_call, evR_guard, guardR_b, lk_cons, setT_some, setT_none, Option.bind_some, Option.bind_none, thenC_nrm, thenC_ret, thenC_exit, blockC_nrm, blockC_ret, blockC_exit, endR_nil, endR_cons, endF_ret, endF_nrm, List.length_cons, List.length_nil, ↓reduceIte, ev, actR_some, act, callR_some, callR_none, calleeR_some, callee, toDs, toD, loadA, storeA, subA, subD, updA, Eff.on, resA, resVs, resV, lk, finish, finishR_tmp, finishR_cell, finishR_nil, finishR_dat, frzR, frzVs, frzV, fznR, fzns, fzn, lts, lt, ltO, List.all, List.append_nil, List.nil_append, List.cons_append, DV.cells, AV.cells, pairsOk, indep, Pk.bne_eq, Pk.subL_cons, Pk.subL_td, List.drop_zero, Pk.upd_cons, Pk.upd_map, Pk.upd_map1, Pk.allD_map, Pk.allD_map', List.length_map, Option.map_some, List.getElem?_cons_zero, List.getElem?_cons_succ, List.getElem?_nil, List.set_cons_zero, List.set_cons_succ, reduceCtorEq, Nat.reduceEqDiff, Nat.reduceAdd, Nat.reduceLeDiff, Nat.add_zero, Nat.zero_add, stb, and_true, true_and, and_self, againL_nrm, evC_loop, thaws, List.getD_cons_zero, List.getD_cons_succ, List.getD_nil, List.drop, intOfA, binD, binI, unD, mmL, Bool.and_true, Bool.true_and, decide_true, decide_false, buildA, mkAgg, allD, behind, frzAs, frzA, adoptR, adopt, isD, beq_self_eq_true, evR_mv, evR_pick, evR_bin, evR_eq, evR_un, evR_conv, evR_convs, evR_box, evR_build, evR_bsl, evR_load, evR_store, evR_nilck, evR_slice, evR_faddr, evR_field, evR_iaddrA, evR_iaddrS, evR_idxA, evR_idxS, evR_mkfn, evR_ext, evR_len, evR_app, evR_mm, evR_mksl, evR_cpy, evR_clr, evR_b2s, evR_isnil, trim, List.take, binS, sliceA, bnd, zOk, elems, evR_b2s, Bool.or_eq_true, Bool.and_eq_true, List.singleton_append, List.append_assoc, Option.map_none, Int.lt_irrefl, Nat.reduceBNe, Nat.mul_one, guardR_und, inpl, Int.toNat_natCast, Nat.reduceLT, Nat.reduceBEq, Nat.reduceSub, Nat.reduceMul, Int.reduceLT, Int.reduceLE, Int.reduceEq, Int.reduceToNat, Int.reduceNeg, Bool.false_eq_true, Bool.true_eq_false, not_true_eq_false, not_false_eq_true, false_and, and_false, eq_self, Nat.not_lt_zero, Nat.le_refl, Nat.lt_irrefl, Bool.and_self, Bool.or_true, Bool.true_or, Bool.or_false, Bool.false_or, Bool.not_true, Bool.not_false, Bool.false_and, Bool.and_false, Int.toNat_zero, Int.toNat_one, true_or, or_true, false_or, or_false, thaw, nodup, refsV, adopts, List.flatMap_cons, List.flatMap_nil, evR_ext, Pk.Mp.len, Pk.Mp.d_eq, Pk.Mp.t_all, Pk.Mp.eta, Pk.Mp.r_all, Pk.Mp.r_epoch, Pk.Mp.r_osds, Pk.Mp.r_osds_i, Pk.Mp.r_osds_i_up, Pk.Mp.r_osds_i_weight, Pk.Mp.r_osds_i_host, Pk.Mp_osds_len, Pk.Mp_osds_i, Pk.Mp.w_all, Pk.Mp.w_epoch, Pk.Mp.w_osds, Pk.Mp.w_osds_i, Pk.Mp.w_osds_i_up, Pk.Mp.w_osds_i_weight, Pk.Mp.w_osds_i_host, Pk.Mp_osds_eq, Pk.Mp.eq, Pk.Mp.fold, Pk.Mp.foldc, Pk.Osd.len, Pk.Osd.d_eq, Pk.Osd.t_all, Pk.Osd.eta, Pk.Osd.r_all, Pk.Osd.r_up, Pk.Osd.r_weight, Pk.Osd.p_weight, Pk.Osd.r_host, Pk.Osd.p_host, Pk.Osd.w_all, Pk.Osd.w_up, Pk.Osd.w_weight, Pk.Osd.w_host, Pk.Osd.eq, Pk.Osd.fold]
  cases hR : pickP m.epoch (osL m) g with
  | nil =>
    rw [hR] at hpi hv
    simp only [nats, ints, List.map_nil, List.length_nil] at hpi hv
    simp (config := {decide := true}) only [c_paddocklaw4_PlaceWeight, known_at, hpi, hv, d0, evC_seq, evC_ret, evC_region, evC_skip, evC_exit, evC_scope, evC_cond, evC_block, condC_b, keepT, List.map_cons, List.map_nil, enum, evR_nil, evR_call, evR_guard, guardR_b, lk_cons, setT_some, setT_none, Option.bind_some, Option.bind_none, thenC_nrm, thenC_ret, thenC_exit, blockC_nrm, blockC_ret, blockC_exit, endR_nil, endR_cons, endF_ret, endF_nrm, List.length_cons, List.length_nil, ↓reduceIte, ev, actR_some, act, callR_some, callR_none, calleeR_some, callee, toDs, toD, loadA, storeA, subA, subD, updA, Eff.on, resA, resVs, resV, lk, finish, finishR_tmp, finishR_cell, finishR_nil, finishR_dat, frzR, frzVs, frzV, fznR, fzns, fzn, lts, lt, ltO, List.all, List.append_nil, List.nil_append, List.cons_append, DV.cells, AV.cells, pairsOk, indep, Pk.bne_eq, Pk.subL_cons, Pk.subL_td, List.drop_zero, Pk.upd_cons, Pk.upd_map, Pk.upd_map1, Pk.allD_map, Pk.allD_map', List.length_map, Option.map_some, List.getElem?_cons_zero, List.getElem?_cons_succ, List.getElem?_nil, List.set_cons_zero, List.set_cons_succ, reduceCtorEq, Nat.reduceEqDiff, Nat.reduceAdd, Nat.reduceLeDiff, Nat.add_zero, Nat.zero_add, stb, and_true, true_and, and_self, againL_nrm, evC_loop, thaws, List.getD_cons_zero, List.getD_cons_succ, List.getD_nil, List.drop, intOfA, binD, binI, unD, mmL, Bool.and_true, Bool.true_and, decide_true, decide_false, buildA, mkAgg, allD, behind, frzAs, frzA, adoptR, adopt, isD, beq_self_eq_true, evR_mv, evR_pick, evR_bin, evR_eq, evR_un, evR_conv, evR_convs, evR_box, evR_build, evR_bsl, evR_load, evR_store, evR_nilck, evR_slice, evR_faddr, evR_field, evR_iaddrA, evR_iaddrS, evR_idxA, evR_idxS, evR_mkfn, evR_ext, evR_len, evR_app, evR_mm, evR_mksl, evR_cpy, evR_clr, evR_b2s, evR_isnil, trim, List.take, binS, sliceA, bnd, zOk, elems, evR_b2s, Bool.or_eq_true, Bool.and_eq_true, List.singleton_append, List.append_assoc, Option.map_none, Int.lt_irrefl, Nat.reduceBNe, Nat.mul_one, guardR_und, inpl, Int.toNat_natCast, Nat.reduceLT, Nat.reduceBEq, Nat.reduceSub, Nat.reduceMul, Int.reduceLT, Int.reduceLE, Int.reduceEq, Int.reduceToNat, Int.reduceNeg, Bool.false_eq_true, Bool.true_eq_false, not_true_eq_false, not_false_eq_true, false_and, and_false, eq_self, Nat.not_lt_zero, Nat.le_refl, Nat.lt_irrefl, Bool.and_self, Bool.or_true, Bool.true_or, Bool.or_false, Bool.false_or, Bool.not_true, Bool.not_false, Bool.false_and, Bool.and_false, Int.toNat_zero, Int.toNat_one, true_or, or_true, false_or, or_false, thaw, nodup, refsV, adopts, List.flatMap_cons, List.flatMap_nil, evR_ext, Pk.Mp.len, Pk.Mp.d_eq, Pk.Mp.t_all, Pk.Mp.eta, Pk.Mp.r_all, Pk.Mp.r_epoch, Pk.Mp.r_osds, Pk.Mp.r_osds_i, Pk.Mp.r_osds_i_up, Pk.Mp.r_osds_i_weight, Pk.Mp.r_osds_i_host, Pk.Mp_osds_len, Pk.Mp_osds_i, Pk.Mp.w_all, Pk.Mp.w_epoch, Pk.Mp.w_osds, Pk.Mp.w_osds_i, Pk.Mp.w_osds_i_up, Pk.Mp.w_osds_i_weight, Pk.Mp.w_osds_i_host, Pk.Mp_osds_eq, Pk.Mp.eq, Pk.Mp.fold, Pk.Mp.foldc, Pk.Osd.len, Pk.Osd.d_eq, Pk.Osd.t_all, Pk.Osd.eta, Pk.Osd.r_all, Pk.Osd.r_up, Pk.Osd.r_weight, Pk.Osd.p_weight, Pk.Osd.r_host, Pk.Osd.p_host, Pk.Osd.w_all, Pk.Osd.w_up, Pk.Osd.w_weight, Pk.Osd.w_host, Pk.Osd.eq, Pk.Osd.fold]
  | cons o R =>
    have hne : pickP m.epoch (osL m) g ≠ [] := by rw [hR]; simp
    obtain ⟨r, hr, r8⟩ : ∃ r : Nat, x.tmod 8 = r ∧ r < 8 := ⟨(x % 8).toNat, by rw [Int.tmod_eq_emod_of_nonneg hx.1]; omega, by omega⟩
    obtain ⟨c, _⟩ := pick_ne hne
    have ho5 := pickP_mem m.epoch (osL m) g o (by rw [hR]; simp)
    have hw := osW m (Bool.and_eq_true_iff.1 c).1 o ho5
    rw [wOf_osL m o ho5] at hw
    have hlen := pickP_len m.epoch (osL m) g
    rw [hR] at hlen hpi hv
    have w1 : IntKind.i64.wrap (r : Int) = (r : Int) := wi64 (by omega)
    have w2 : IntKind.i64.wrap ((m.osds.get o).weight + (r : Int)) = (m.osds.get o).weight + (r : Int) := wi64 (by omega)
    have hmm : ∃ w, mmI false 16 ((m.osds.get o).weight + (r : Int)) = w ∧ (m.osds.get o).weight ≤ w ∧ w ≤ 16 := by
      refine ⟨_, rfl, ?_⟩
      simp only [mmI]; simp; split <;> omega
    obtain ⟨w, hmm, hw'⟩ := hmm
    obtain ⟨_, R', hR'⟩ := first_grows m g hne o R hR w hw'
    rw [show m.epoch = (setW m o w).epoch from rfl] at hR'
    obtain ⟨v, H', hpi', hv'⟩ := pick_res (setW m o w).epoch (osL (setW m o w)) rfl g
    rw [← Mp_d] at hpi'
    rw [show (setW m o w).d = .agg (setW m o w).cs from rfl] at hpi'
    have hlen' := pickP_len (setW m o w).epoch (osL (setW m o w)) g
    rw [hR'] at hv' hlen'
    rcases hv' with ⟨_, hv'⟩ | ⟨rfl, hv'⟩
    · simp at hv'
    have hx1 : (nats (o :: R))[0]? = some (.i .i64 (o : Int)) := rfl
    have hx2 : (nats (o :: R'))[0]? = some (.i .i64 (o : Int)) := rfl
    have hn1 := nats_len (o :: R)
    have hn2 := nats_len (o :: R')
    have e1 : ((((o :: R).length : Nat) : Int) == 0) = false := by rw [beq_eq_false_iff_ne]; simp only [List.length_cons]; omega
    have e2 : decide ((((o :: R').length : Nat) : Int) > 0) = true := by simp only [List.length_cons, decide_eq_true_eq]; omega
    have e3 : ((0 : Int) < (((o :: R).length : Nat) : Int)) = True := by simp only [List.length_cons, eq_iff_iff, iff_true]; omega
    have e4 : ((0 : Int) < (((o :: R').length : Nat) : Int)) = True := by simp only [List.length_cons, eq_iff_iff, iff_true]; omega
    have ht1 : List.take (o :: R).length (nats (o :: R)) = nats (o :: R) := List.take_of_length_le (by omega)
    have ht2 : List.take (o :: R').length (nats (o :: R')) = nats (o :: R') := List.take_of_length_le (by omega)
    have b3 : ((o : Int) < ((5 : Nat) : Int)) = True := by simp; omega
    have b3' : (0 ≤ (o : Int)) = True := by simp
    have b5 : (1 + o * 3 + 1 + 1 ≤ 16) = True := by simp; omega
    have he : ((o : Int) == (o : Int)) = true := by simp
    have hset : Mp.cs { m with osds := m.osds.set o { m.osds.get o with weight := w } } = (setW m o w).cs := rfl
    generalize nats (o :: R) = N at *
    generalize nats (o :: R') = N' at *
    generalize (o :: R).length = a at *
    generalize (o :: R').length = b at *
    generalize setW m o w = m' at *
    simp (config := {decide := true}) only [c_paddocklaw4_PlaceWeight, known_at, hpi, hv, hpi', hv', hx1, hx2, hn1, hn2, e1, e2, e3, e4, ht1, ht2, b3, b3', b5, he, hr, w1, w2, hmm, hset, ho5, Nat.le_refl, or_true, true_and, and_true, guardR_und, evC_seq, evC_ret, evC_region, evC_skip, evC_exit, evC_scope, evC_cond, evC_block, condC_b, keepT, List.map_cons, List.map_nil, enum, evR_nil, evR_call, evR_guard, guardR_b, lk_cons, setT_some, setT_none, Option.bind_some, Option.bind_none, thenC_nrm, thenC_ret, thenC_exit, blockC_nrm, blockC_ret, blockC_exit, endR_nil, endR_cons, endF_ret, endF_nrm, List.length_cons, List.length_nil, ↓reduceIte, ev, actR_some, act, callR_some, callR_none, calleeR_some, callee, toDs, toD, loadA, storeA, subA, subD, updA, Eff.on, resA, resVs, resV, lk, finish, finishR_tmp, finishR_cell, finishR_nil, finishR_dat, frzR, frzVs, frzV, fznR, fzns, fzn, lts, lt, ltO, List.all, List.append_nil, List.nil_append, List.cons_append, DV.cells, AV.cells, pairsOk, indep, Pk.bne_eq, Pk.subL_cons, Pk.subL_td, List.drop_zero, Pk.upd_cons, Pk.upd_map, Pk.upd_map1, Pk.allD_map, Pk.allD_map', List.length_map, Option.map_some, List.getElem?_cons_zero, List.getElem?_cons_succ, List.getElem?_nil, List.set_cons_zero, List.set_cons_succ, reduceCtorEq, Nat.reduceEqDiff, Nat.reduceAdd, Nat.reduceLeDiff, Nat.add_zero, Nat.zero_add, stb, and_true, true_and, and_self, againL_nrm, evC_loop, thaws, List.getD_cons_zero, List.getD_cons_succ, List.getD_nil, List.drop, intOfA, binD, binI, unD, mmL, Bool.and_true, Bool.true_and, decide_true, decide_false, buildA, mkAgg, allD, behind, frzAs, frzA, adoptR, adopt, isD, beq_self_eq_true, evR_mv, evR_pick, evR_bin, evR_eq, evR_un, evR_conv, evR_convs, evR_box, evR_build, evR_bsl, evR_load, evR_store, evR_nilck, evR_slice, evR_faddr, evR_field, evR_iaddrA, evR_iaddrS, evR_idxA, evR_idxS, evR_mkfn, evR_ext, evR_len, evR_app, evR_mm, evR_mksl, evR_cpy, evR_clr, evR_b2s, evR_isnil, trim, List.take, binS, sliceA, bnd, zOk, elems, evR_b2s, Bool.or_eq_true, Bool.and_eq_true, List.singleton_append, List.append_assoc, Option.map_none, Int.lt_irrefl, Nat.reduceBNe, Nat.mul_one, guardR_und, inpl, Int.toNat_natCast, Nat.reduceLT, Nat.reduceBEq, Nat.reduceSub, Nat.reduceMul, Int.reduceLT, Int.reduceLE, Int.reduceEq, Int.reduceToNat, Int.reduceNeg, Bool.false_eq_true, Bool.true_eq_false, not_true_eq_false, not_false_eq_true, false_and, and_false, eq_self, Nat.not_lt_zero, Nat.le_refl, Nat.lt_irrefl, Bool.and_self, Bool.or_true, Bool.true_or, Bool.or_false, Bool.false_or, Bool.not_true, Bool.not_false, Bool.false_and, Bool.and_false, Int.toNat_zero, Int.toNat_one, true_or, or_true, false_or, or_false, thaw, nodup, refsV, adopts, List.flatMap_cons, List.flatMap_nil, evR_ext, Pk.Mp.len, Pk.Mp.d_eq, Pk.Mp.t_all, Pk.Mp.eta, Pk.Mp.r_all, Pk.Mp.r_epoch, Pk.Mp.r_osds, Pk.Mp.r_osds_i, Pk.Mp.r_osds_i_up, Pk.Mp.r_osds_i_weight, Pk.Mp.r_osds_i_host, Pk.Mp_osds_len, Pk.Mp_osds_i, Pk.Mp.w_all, Pk.Mp.w_epoch, Pk.Mp.w_osds, Pk.Mp.w_osds_i, Pk.Mp.w_osds_i_up, Pk.Mp.w_osds_i_weight, Pk.Mp.w_osds_i_host, Pk.Mp_osds_eq, Pk.Mp.eq, Pk.Mp.fold, Pk.Mp.foldc, Pk.Osd.len, Pk.Osd.d_eq, Pk.Osd.t_all, Pk.Osd.eta, Pk.Osd.r_all, Pk.Osd.r_up, Pk.Osd.r_weight, Pk.Osd.p_weight, Pk.Osd.r_host, Pk.Osd.p_host, Pk.Osd.w_all, Pk.Osd.w_up, Pk.Osd.w_weight, Pk.Osd.w_host, Pk.Osd.eq, Pk.Osd.fold]
end Go.Proofs.Ytfafafocnnhmpaa
