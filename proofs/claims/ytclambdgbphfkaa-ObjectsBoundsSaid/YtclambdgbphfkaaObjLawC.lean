/- More of the objects layer's laws: bounds. -/
import Derived.Test.YtclambdgbphfkaaObjLaw
set_option linter.all false
namespace Go.Proofs.Ytclambdgbphfkaa
open Pv Go Pk
set_option maxRecDepth 10000
set_option maxHeartbeats 2000000

theorem bytes_nul (n : Nat) : bytesOf (List.replicate n (.i .u8 0)) = some (List.replicate n 0) := by
  induction n with
  | zero => rfl
  | succ n ih => simp only [List.replicate_succ, bytesOf, ih]; rfl

theorem splice_size (s : ByteArray) (a : Nat) (d : ByteArray) : (splice s a d).size = max s.size (a + d.size) := by
  unfold splice
  have := grown_size s (a + d.size)
  simp [this]
  omega

def kB : Opr := ⟨1, 1, 1, 0, 0, ⟨#[97, 98]⟩⟩
def bB : Base := (doOp Base.zero kB).1

theorem bound_do (k a : Int) (d : ByteArray) (hw : writes ⟨1, 2, k, 0, a, d⟩ = true) : doOp bB ⟨1, 2, k, 0, a, d⟩ =
    ({ objs := bB.objs.set 0 (doO (bB.objs.get 0) ⟨1, 2, k, 0, a, d⟩).1, last := bB.last.set 0 ⟨2, ⟨(doO (bB.objs.get 0) ⟨1, 2, k, 0, a, d⟩).2, ⟨#[]⟩⟩⟩ }, ⟨(doO (bB.objs.get 0) ⟨1, 2, k, 0, a, d⟩).2, ⟨#[]⟩⟩) := by
  have hs : (seen bB ⟨1, 2, k, 0, a, d⟩).2 = false := by
    unfold seen
    rw [if_neg (by simp [hw])]
    have : (bB.last.get ((1 : Int) - 1).toNat).seq = 1 := by decide +kernel
    have c : (bB.last.get ((1 : Int) - 1).toNat).seq < 2 := by rw [this]; decide
    exact congrArg Prod.snd (if_pos c)
  unfold doOp
  rw [if_neg (by simp [hw]), if_neg (by simp [hs])]
  rfl

theorem bound_size (x : Objt) (k : Int) (a : Nat) (d : ByteArray) (hk : k = 1 ∨ (k = 2 ∧ d = ⟨#[]⟩)) (ht : x.there = true) (hx : x.data.size = 2) :
    (((a : Int) + (d.size : Int) > 16 → doO x ⟨1, 2, k, 0, a, d⟩ = (x, 2)) ∧ (¬ ((a : Int) + (d.size : Int) > 16) → (doO x ⟨1, 2, k, 0, a, d⟩).2 = 0 ∧ (doO x ⟨1, 2, k, 0, a, d⟩).1.data.size = if k = 1 then max 2 (a + d.size) else a)) := by
  rcases hk with rfl | ⟨rfl, rfl⟩
  · unfold doO writeO
    refine ⟨fun h => by simp [h], fun h => ?_⟩
    simp only [if_true, h, if_false]
    refine ⟨by first | rfl | trivial, ?_⟩
    show (splice x.data _ _).size = _
    rw [splice_size, hx]
    simp
  · have h0 : (ByteArray.mk #[]).size = 0 := rfl
    unfold doO truncO
    refine ⟨fun h => ?_, fun h => ?_⟩
    · have : (a : Int) > 16 := by rw [h0] at h; omega
      simp [ht, this]
    · have h' : ¬ ((a : Int) > 16) := by rw [h0] at h; omega
      have hg := grown_size x.data a
      simp [ht, h', hg]
      omega

theorem bounds_at (a l : Int) (trunc : Bool) (ha : 0 ≤ a ∧ a < 256) (hl : 0 ≤ l ∧ l < 256) : evF C F_paddocklaw6_ObjectsBounds [.d (.i .u8 a), .d (.i .u8 l), .d (.b trunc)] [] = some (.d (.b true), []) := by
  rw [evF_code (rfl : C F_paddocklaw6_ObjectsBounds = some a_paddocklaw6_ObjectsBounds) _ _ rfl]
  obtain ⟨a, rfl⟩ : ∃ n : Nat, a = n := ⟨a.toNat, by omega⟩
  obtain ⟨l, rfl⟩ : ∃ n : Nat, l = n := ⟨l.toNat, by omega⟩
  have w0 : IntKind.i64.wrap ((l : Int).tmod 17) = ((l % 17 : Nat) : Int) := by
    have e : (l : Int).tmod 17 = ((l % 17 : Nat) : Int) := rfl
    rw [e, wi64 (by omega)]
  generalize hn : l % 17 = n at w0
  have hn17 : n < 17 := by omega
  have p0 : (0 ≤ (n : Int)) = True := by simp
  have pl : ((n : Int) ≤ ((LIM : Nat) : Int)) = True := by simp [LIM]; omega
  have hby := bytes_nul n
  have hsub : subL (List.replicate n (DV.i .u8 0)) 0 n = List.replicate n (DV.i .u8 0) := by simp [subL]
  have w1 : IntKind.i64.wrap (a : Int) = a := wi64 (by omega)
  have h1 := doOp_at Base.zero kB zero_fit (by simp [Opr.ok, kB]; decide)
  have fB : Base.fit bB := doOp_fit zero_fit (by simp [Opr.ok, kB]; decide)
  have kBe : (⟨1, 1, 1, 0, 0, ⟨#[97, 98]⟩⟩ : Opr) = kB := rfl
  have bBe : (doOp Base.zero kB).1 = bB := rfl
  have x1 : (bB.objs.get 0).there = true := by decide +kernel
  have x2 : (bB.objs.get 0).data.size = 2 := by decide +kernel
  have r1 : ∀ b : Base, b.cs[1]? = some (.s (b.objs.get 0).data) := fun _ => rfl
  have r30 : ∀ b : Base, b.cs[30]? = some (.i .u32 (b.last.get 0).seq) := fun _ => rfl
  have r31 : ∀ b : Base, subL b.cs 31 2 = (b.last.get 0).r.cs := fun _ => rfl
  have main : ∀ (k : Int) (d : ByteArray) (m : Nat), (k = 1 ∨ (k = 2 ∧ d = ⟨#[]⟩)) → d.size = m → m ≤ 16 → ∃ p : Base × Res, evF C F_objects_Do [.d (.agg bB.cs), .d (.agg (Opr.cs ⟨1, 2, k, 0, a, d⟩))] [] = some (.tup [.d (.agg p.1.cs), .d (.agg p.2.cs)], []) ∧
      ((a : Int) + (m : Int) > 16 → p.2 = ⟨2, ⟨#[]⟩⟩ ∧ p.1.objs = bB.objs ∧ p.1.last.get 0 = ⟨2, ⟨2, ⟨#[]⟩⟩⟩) ∧ (¬ ((a : Int) + (m : Int) > 16) → p.2.code = 0 ∧ (p.1.objs.get 0).data.size = if k = 1 then max 2 (a + m) else a) := by
    intro k d m hk hd hm
    have hw : writes ⟨1, 2, k, 0, a, d⟩ = true := by
      unfold writes isOp
      rcases hk with rfl | ⟨rfl, rfl⟩
      · simp; omega
      · have : (ByteArray.mk #[]).size = 0 := rfl
        simp [this]
    have ok : Opr.ok ⟨1, 2, k, 0, a, d⟩ := by
      simp only [Opr.ok, maxLen]
      rcases hk with rfl | ⟨rfl, rfl⟩ <;> omega
    refine ⟨_, doOp_at bB _ fB ok, ?_⟩
    rw [bound_do k a d hw]
    have hb := bound_size (bB.objs.get 0) k a d hk x1 x2
    rw [hd] at hb
    refine ⟨fun h => ?_, fun h => ?_⟩
    · rw [hb.1 h]
      refine ⟨rfl, ?_, rfl⟩
      show bB.objs.set 0 (bB.objs.get 0) = bB.objs
      rfl
    · obtain ⟨e1, e2⟩ := hb.2 h
      exact ⟨e1, e2⟩
  cases trunc with
  | false =>
    obtain ⟨p, hp, q1, q2⟩ := main 1 (nul n) n (.inl rfl) (nul_size n) (by omega)
    have w2 : IntKind.i64.wrap ((a : Int) + (n : Int)) = ((a + n : Nat) : Int) := by rw [wi64 (by omega)]; omega
    have hnl : (⟨(List.replicate n (0 : UInt8)).toArray⟩ : ByteArray) = nul n := rfl
    by_cases c : (a : Int) + (n : Int) > 16
    · have hd : decide (((a + n : Nat) : Int) > 16) = true := by simp; omega
      obtain ⟨e1, e2, e3⟩ := q1 c
      simp (config := {decide := true}) only [c_paddocklaw6_ObjectsBounds, known_at, w0, p0, pl, hby, hsub, hnl, w1, w2, hd, kBe, bBe, h1, hp, e1, e2, e3, r1, r30, r31, Nat.zero_mul, List.length_replicate, evC_seq, evC_ret, evC_region, evC_skip, evC_exit, evC_scope, evC_cond, evC_block, condC_b, keepT, List.map_cons, List.map_nil, enum, evR_nil, evR_call, evR_guard, guardR_b, lk_cons, setT_some, setT_none, Option.bind_some, Option.bind_none, thenC_nrm, thenC_ret, thenC_exit, blockC_nrm, blockC_ret, blockC_exit, endR_nil, endR_cons, endF_ret, endF_nrm, List.length_cons, List.length_nil, ↓reduceIte, ev, actR_some, act, callR_some, callR_none, calleeR_some, callee, toDs, toD, loadA, storeA, subA, subD, updA, Eff.on, resA, resVs, resV, lk, finish, fznR, fzns, fzn, lts, lt, ltO, List.all, List.append_nil, List.nil_append, List.cons_append, DV.cells, AV.cells, pairsOk, indep, Pk.bne_eq, Pk.subL_cons, Pk.subL_td, List.drop_zero, Pk.upd_cons, Pk.upd_map, Pk.upd_map1, Pk.allD_map, Pk.allD_map', List.length_map, Option.map_some, List.getElem?_cons_zero, List.getElem?_cons_succ, List.getElem?_nil, List.set_cons_zero, List.set_cons_succ, reduceCtorEq, Nat.reduceEqDiff, Nat.reduceAdd, Nat.reduceLeDiff, Nat.add_zero, Nat.zero_add, stb, and_true, true_and, and_self, againL_nrm, evC_loop, thaws, List.getD_cons_zero, List.getD_cons_succ, List.getD_nil, List.drop, intOfA, binD, binI, unD, mmL, Bool.and_true, Bool.true_and, decide_true, decide_false, buildA, mkAgg, allD, behind, frzAs, frzA, adoptR, adopt, isD, beq_self_eq_true, evR_mv, evR_pick, evR_bin, evR_eq, evR_un, evR_conv, evR_convs, evR_box, evR_build, evR_bsl, evR_load, evR_store, evR_nilck, evR_slice, evR_faddr, evR_field, evR_iaddrA, evR_iaddrS, evR_idxA, evR_idxS, evR_mkfn, evR_ext, evR_len, evR_app, evR_mm, evR_mksl, evR_cpy, evR_clr, evR_b2s, evR_isnil, trim, List.take, binS, sliceA, bnd, zOk, elems, evR_b2s, Bool.or_eq_true, Bool.and_eq_true, List.singleton_append, List.append_assoc, Option.map_none, Int.lt_irrefl, Nat.reduceBNe, Nat.mul_one, guardR_und, inpl, Int.toNat_natCast, Nat.reduceLT, Nat.reduceBEq, Nat.reduceSub, Nat.reduceMul, Int.reduceLT, Int.reduceLE, Int.reduceEq, Int.reduceToNat, Int.reduceNeg, Bool.false_eq_true, Bool.true_eq_false, not_true_eq_false, not_false_eq_true, false_and, and_false, eq_self, Nat.not_lt_zero, Nat.le_refl, Nat.lt_irrefl, Bool.and_self, Bool.or_true, Bool.true_or, Bool.or_false, Bool.false_or, Bool.not_true, Bool.not_false, Bool.false_and, Bool.and_false, Int.toNat_zero, Int.toNat_one, true_or, or_true, false_or, or_false, thaw, nodup, refsV, adopts, List.flatMap_cons, List.flatMap_nil, evR_ext, Pk.Opr.len, Pk.Opr.d_eq, Pk.Opr.t_all, Pk.Opr.eta, Pk.Opr.r_all, Pk.Opr.r_client, Pk.Opr.r_seq, Pk.Opr.p_seq, Pk.Opr.r_kind, Pk.Opr.p_kind, Pk.Opr.r_obj, Pk.Opr.p_obj, Pk.Opr.r_at_, Pk.Opr.p_at_, Pk.Opr.r_data, Pk.Opr.p_data, Pk.Opr.w_all, Pk.Opr.w_client, Pk.Opr.w_seq, Pk.Opr.w_kind, Pk.Opr.w_obj, Pk.Opr.w_at_, Pk.Opr.w_data, Pk.Opr.eq, Pk.Opr.fold, Pk.Base.len, Pk.Base.d_eq, Pk.Base.t_all, Pk.Base.eta, Pk.Base.r_all, Pk.Base.r_objs, Pk.Base.r_objs_i, Pk.Base.r_objs_i_there, Pk.Base.r_objs_i_data, Pk.Base.r_objs_i_attr, Pk.Base.r_last, Pk.Base.r_last_i, Pk.Base.r_last_i_seq, Pk.Base.r_last_i_r, Pk.Base.r_last_i_r_code, Pk.Base.r_last_i_r_data, Pk.Base_objs_len, Pk.Base_objs_i, Pk.Base_last_len, Pk.Base_last_i, Pk.Base.w_all, Pk.Base.w_objs, Pk.Base.w_objs_i, Pk.Base.w_objs_i_there, Pk.Base.w_objs_i_data, Pk.Base.w_objs_i_attr, Pk.Base.w_last, Pk.Base.w_last_i, Pk.Base.w_last_i_seq, Pk.Base.w_last_i_r, Pk.Base.w_last_i_r_code, Pk.Base.w_last_i_r_data, Pk.Base_objs_eq, Pk.Base_last_eq, Pk.Base.eq, Pk.Base.foldc, Pk.Res.len, Pk.Res.d_eq, Pk.Res.t_all, Pk.Res.eta, Pk.Res.r_all, Pk.Res.r_code, Pk.Res.r_data, Pk.Res.p_data, Pk.Res.w_all, Pk.Res.w_code, Pk.Res.w_data, Pk.Res.eq, Pk.Res.fold, Pk.Last.len, Pk.Last.d_eq, Pk.Last.t_all, Pk.Last.eta, Pk.Last.r_all, Pk.Last.r_seq, Pk.Last.r_r, Pk.Last.r_r_code, Pk.Last.p_r_code, Pk.Last.r_r_data, Pk.Last.p_r_data, Pk.Last.w_all, Pk.Last.w_seq, Pk.Last.w_r, Pk.Last.w_r_code, Pk.Last.w_r_data, Pk.Last.eq, Pk.Last.fold, Pk.Last.foldc]
    · have hd : decide (((a + n : Nat) : Int) > 16) = false := by simp; omega
      obtain ⟨e1, e2⟩ := q2 c
      have e2' : ((p.1.objs.get 0).data.size : Int) = mmI true 2 ((a + n : Nat) : Int) := by
        rw [e2, if_pos rfl]; simp only [mmI]; simp; split <;> omega
      simp (config := {decide := true}) only [c_paddocklaw6_ObjectsBounds, known_at, w0, p0, pl, hby, hsub, hnl, w1, w2, hd, kBe, bBe, h1, hp, e1, e2', r1, r30, r31, Nat.zero_mul, List.length_replicate, evC_seq, evC_ret, evC_region, evC_skip, evC_exit, evC_scope, evC_cond, evC_block, condC_b, keepT, List.map_cons, List.map_nil, enum, evR_nil, evR_call, evR_guard, guardR_b, lk_cons, setT_some, setT_none, Option.bind_some, Option.bind_none, thenC_nrm, thenC_ret, thenC_exit, blockC_nrm, blockC_ret, blockC_exit, endR_nil, endR_cons, endF_ret, endF_nrm, List.length_cons, List.length_nil, ↓reduceIte, ev, actR_some, act, callR_some, callR_none, calleeR_some, callee, toDs, toD, loadA, storeA, subA, subD, updA, Eff.on, resA, resVs, resV, lk, finish, fznR, fzns, fzn, lts, lt, ltO, List.all, List.append_nil, List.nil_append, List.cons_append, DV.cells, AV.cells, pairsOk, indep, Pk.bne_eq, Pk.subL_cons, Pk.subL_td, List.drop_zero, Pk.upd_cons, Pk.upd_map, Pk.upd_map1, Pk.allD_map, Pk.allD_map', List.length_map, Option.map_some, List.getElem?_cons_zero, List.getElem?_cons_succ, List.getElem?_nil, List.set_cons_zero, List.set_cons_succ, reduceCtorEq, Nat.reduceEqDiff, Nat.reduceAdd, Nat.reduceLeDiff, Nat.add_zero, Nat.zero_add, stb, and_true, true_and, and_self, againL_nrm, evC_loop, thaws, List.getD_cons_zero, List.getD_cons_succ, List.getD_nil, List.drop, intOfA, binD, binI, unD, mmL, Bool.and_true, Bool.true_and, decide_true, decide_false, buildA, mkAgg, allD, behind, frzAs, frzA, adoptR, adopt, isD, beq_self_eq_true, evR_mv, evR_pick, evR_bin, evR_eq, evR_un, evR_conv, evR_convs, evR_box, evR_build, evR_bsl, evR_load, evR_store, evR_nilck, evR_slice, evR_faddr, evR_field, evR_iaddrA, evR_iaddrS, evR_idxA, evR_idxS, evR_mkfn, evR_ext, evR_len, evR_app, evR_mm, evR_mksl, evR_cpy, evR_clr, evR_b2s, evR_isnil, trim, List.take, binS, sliceA, bnd, zOk, elems, evR_b2s, Bool.or_eq_true, Bool.and_eq_true, List.singleton_append, List.append_assoc, Option.map_none, Int.lt_irrefl, Nat.reduceBNe, Nat.mul_one, guardR_und, inpl, Int.toNat_natCast, Nat.reduceLT, Nat.reduceBEq, Nat.reduceSub, Nat.reduceMul, Int.reduceLT, Int.reduceLE, Int.reduceEq, Int.reduceToNat, Int.reduceNeg, Bool.false_eq_true, Bool.true_eq_false, not_true_eq_false, not_false_eq_true, false_and, and_false, eq_self, Nat.not_lt_zero, Nat.le_refl, Nat.lt_irrefl, Bool.and_self, Bool.or_true, Bool.true_or, Bool.or_false, Bool.false_or, Bool.not_true, Bool.not_false, Bool.false_and, Bool.and_false, Int.toNat_zero, Int.toNat_one, true_or, or_true, false_or, or_false, thaw, nodup, refsV, adopts, List.flatMap_cons, List.flatMap_nil, evR_ext, Pk.Opr.len, Pk.Opr.d_eq, Pk.Opr.t_all, Pk.Opr.eta, Pk.Opr.r_all, Pk.Opr.r_client, Pk.Opr.r_seq, Pk.Opr.p_seq, Pk.Opr.r_kind, Pk.Opr.p_kind, Pk.Opr.r_obj, Pk.Opr.p_obj, Pk.Opr.r_at_, Pk.Opr.p_at_, Pk.Opr.r_data, Pk.Opr.p_data, Pk.Opr.w_all, Pk.Opr.w_client, Pk.Opr.w_seq, Pk.Opr.w_kind, Pk.Opr.w_obj, Pk.Opr.w_at_, Pk.Opr.w_data, Pk.Opr.eq, Pk.Opr.fold, Pk.Base.len, Pk.Base.d_eq, Pk.Base.t_all, Pk.Base.eta, Pk.Base.r_all, Pk.Base.r_objs, Pk.Base.r_objs_i, Pk.Base.r_objs_i_there, Pk.Base.r_objs_i_data, Pk.Base.r_objs_i_attr, Pk.Base.r_last, Pk.Base.r_last_i, Pk.Base.r_last_i_seq, Pk.Base.r_last_i_r, Pk.Base.r_last_i_r_code, Pk.Base.r_last_i_r_data, Pk.Base_objs_len, Pk.Base_objs_i, Pk.Base_last_len, Pk.Base_last_i, Pk.Base.w_all, Pk.Base.w_objs, Pk.Base.w_objs_i, Pk.Base.w_objs_i_there, Pk.Base.w_objs_i_data, Pk.Base.w_objs_i_attr, Pk.Base.w_last, Pk.Base.w_last_i, Pk.Base.w_last_i_seq, Pk.Base.w_last_i_r, Pk.Base.w_last_i_r_code, Pk.Base.w_last_i_r_data, Pk.Base_objs_eq, Pk.Base_last_eq, Pk.Base.eq, Pk.Base.foldc, Pk.Res.len, Pk.Res.d_eq, Pk.Res.t_all, Pk.Res.eta, Pk.Res.r_all, Pk.Res.r_code, Pk.Res.r_data, Pk.Res.p_data, Pk.Res.w_all, Pk.Res.w_code, Pk.Res.w_data, Pk.Res.eq, Pk.Res.fold, Pk.Last.len, Pk.Last.d_eq, Pk.Last.t_all, Pk.Last.eta, Pk.Last.r_all, Pk.Last.r_seq, Pk.Last.r_r, Pk.Last.r_r_code, Pk.Last.p_r_code, Pk.Last.r_r_data, Pk.Last.p_r_data, Pk.Last.w_all, Pk.Last.w_seq, Pk.Last.w_r, Pk.Last.w_r_code, Pk.Last.w_r_data, Pk.Last.eq, Pk.Last.fold, Pk.Last.foldc]
  | true =>
    obtain ⟨p, hp, q1, q2⟩ := main 2 ⟨#[]⟩ 0 (.inr ⟨rfl, rfl⟩) rfl (by omega)
    have w2 : IntKind.i64.wrap ((a : Int) + 0) = ((a : Nat) : Int) := by rw [wi64 (by omega)]; omega
    have hnl : (⟨(List.replicate n (0 : UInt8)).toArray⟩ : ByteArray) = nul n := rfl
    have wk : ∀ d, Opr.mk 1 2 2 0 a d = Opr.mk 1 2 2 0 a d := fun _ => rfl
    by_cases c : (a : Int) + ((0 : Nat) : Int) > 16
    · have hd : decide ((a : Int) > 16) = true := by simp; omega
      obtain ⟨e1, e2, e3⟩ := q1 c
      simp (config := {decide := true}) only [c_paddocklaw6_ObjectsBounds, known_at, w0, p0, pl, hby, hsub, hnl, w1, w2, hd, kBe, bBe, h1, hp, e1, e2, e3, r1, r30, r31, Nat.zero_mul, List.length_replicate, evC_seq, evC_ret, evC_region, evC_skip, evC_exit, evC_scope, evC_cond, evC_block, condC_b, keepT, List.map_cons, List.map_nil, enum, evR_nil, evR_call, evR_guard, guardR_b, lk_cons, setT_some, setT_none, Option.bind_some, Option.bind_none, thenC_nrm, thenC_ret, thenC_exit, blockC_nrm, blockC_ret, blockC_exit, endR_nil, endR_cons, endF_ret, endF_nrm, List.length_cons, List.length_nil, ↓reduceIte, ev, actR_some, act, callR_some, callR_none, calleeR_some, callee, toDs, toD, loadA, storeA, subA, subD, updA, Eff.on, resA, resVs, resV, lk, finish, fznR, fzns, fzn, lts, lt, ltO, List.all, List.append_nil, List.nil_append, List.cons_append, DV.cells, AV.cells, pairsOk, indep, Pk.bne_eq, Pk.subL_cons, Pk.subL_td, List.drop_zero, Pk.upd_cons, Pk.upd_map, Pk.upd_map1, Pk.allD_map, Pk.allD_map', List.length_map, Option.map_some, List.getElem?_cons_zero, List.getElem?_cons_succ, List.getElem?_nil, List.set_cons_zero, List.set_cons_succ, reduceCtorEq, Nat.reduceEqDiff, Nat.reduceAdd, Nat.reduceLeDiff, Nat.add_zero, Nat.zero_add, stb, and_true, true_and, and_self, againL_nrm, evC_loop, thaws, List.getD_cons_zero, List.getD_cons_succ, List.getD_nil, List.drop, intOfA, binD, binI, unD, mmL, Bool.and_true, Bool.true_and, decide_true, decide_false, buildA, mkAgg, allD, behind, frzAs, frzA, adoptR, adopt, isD, beq_self_eq_true, evR_mv, evR_pick, evR_bin, evR_eq, evR_un, evR_conv, evR_convs, evR_box, evR_build, evR_bsl, evR_load, evR_store, evR_nilck, evR_slice, evR_faddr, evR_field, evR_iaddrA, evR_iaddrS, evR_idxA, evR_idxS, evR_mkfn, evR_ext, evR_len, evR_app, evR_mm, evR_mksl, evR_cpy, evR_clr, evR_b2s, evR_isnil, trim, List.take, binS, sliceA, bnd, zOk, elems, evR_b2s, Bool.or_eq_true, Bool.and_eq_true, List.singleton_append, List.append_assoc, Option.map_none, Int.lt_irrefl, Nat.reduceBNe, Nat.mul_one, guardR_und, inpl, Int.toNat_natCast, Nat.reduceLT, Nat.reduceBEq, Nat.reduceSub, Nat.reduceMul, Int.reduceLT, Int.reduceLE, Int.reduceEq, Int.reduceToNat, Int.reduceNeg, Bool.false_eq_true, Bool.true_eq_false, not_true_eq_false, not_false_eq_true, false_and, and_false, eq_self, Nat.not_lt_zero, Nat.le_refl, Nat.lt_irrefl, Bool.and_self, Bool.or_true, Bool.true_or, Bool.or_false, Bool.false_or, Bool.not_true, Bool.not_false, Bool.false_and, Bool.and_false, Int.toNat_zero, Int.toNat_one, true_or, or_true, false_or, or_false, thaw, nodup, refsV, adopts, List.flatMap_cons, List.flatMap_nil, evR_ext, Pk.Opr.len, Pk.Opr.d_eq, Pk.Opr.t_all, Pk.Opr.eta, Pk.Opr.r_all, Pk.Opr.r_client, Pk.Opr.r_seq, Pk.Opr.p_seq, Pk.Opr.r_kind, Pk.Opr.p_kind, Pk.Opr.r_obj, Pk.Opr.p_obj, Pk.Opr.r_at_, Pk.Opr.p_at_, Pk.Opr.r_data, Pk.Opr.p_data, Pk.Opr.w_all, Pk.Opr.w_client, Pk.Opr.w_seq, Pk.Opr.w_kind, Pk.Opr.w_obj, Pk.Opr.w_at_, Pk.Opr.w_data, Pk.Opr.eq, Pk.Opr.fold, Pk.Base.len, Pk.Base.d_eq, Pk.Base.t_all, Pk.Base.eta, Pk.Base.r_all, Pk.Base.r_objs, Pk.Base.r_objs_i, Pk.Base.r_objs_i_there, Pk.Base.r_objs_i_data, Pk.Base.r_objs_i_attr, Pk.Base.r_last, Pk.Base.r_last_i, Pk.Base.r_last_i_seq, Pk.Base.r_last_i_r, Pk.Base.r_last_i_r_code, Pk.Base.r_last_i_r_data, Pk.Base_objs_len, Pk.Base_objs_i, Pk.Base_last_len, Pk.Base_last_i, Pk.Base.w_all, Pk.Base.w_objs, Pk.Base.w_objs_i, Pk.Base.w_objs_i_there, Pk.Base.w_objs_i_data, Pk.Base.w_objs_i_attr, Pk.Base.w_last, Pk.Base.w_last_i, Pk.Base.w_last_i_seq, Pk.Base.w_last_i_r, Pk.Base.w_last_i_r_code, Pk.Base.w_last_i_r_data, Pk.Base_objs_eq, Pk.Base_last_eq, Pk.Base.eq, Pk.Base.foldc, Pk.Res.len, Pk.Res.d_eq, Pk.Res.t_all, Pk.Res.eta, Pk.Res.r_all, Pk.Res.r_code, Pk.Res.r_data, Pk.Res.p_data, Pk.Res.w_all, Pk.Res.w_code, Pk.Res.w_data, Pk.Res.eq, Pk.Res.fold, Pk.Last.len, Pk.Last.d_eq, Pk.Last.t_all, Pk.Last.eta, Pk.Last.r_all, Pk.Last.r_seq, Pk.Last.r_r, Pk.Last.r_r_code, Pk.Last.p_r_code, Pk.Last.r_r_data, Pk.Last.p_r_data, Pk.Last.w_all, Pk.Last.w_seq, Pk.Last.w_r, Pk.Last.w_r_code, Pk.Last.w_r_data, Pk.Last.eq, Pk.Last.fold, Pk.Last.foldc]
    · have hd : decide ((a : Int) > 16) = false := by simp; omega
      obtain ⟨e1, e2⟩ := q2 c
      have e2' : ((p.1.objs.get 0).data.size : Int) = (a : Int) := by rw [e2, if_neg (by decide)]
      simp (config := {decide := true}) only [c_paddocklaw6_ObjectsBounds, known_at, w0, p0, pl, hby, hsub, hnl, w1, w2, hd, kBe, bBe, h1, hp, e1, e2', r1, r30, r31, Nat.zero_mul, List.length_replicate, evC_seq, evC_ret, evC_region, evC_skip, evC_exit, evC_scope, evC_cond, evC_block, condC_b, keepT, List.map_cons, List.map_nil, enum, evR_nil, evR_call, evR_guard, guardR_b, lk_cons, setT_some, setT_none, Option.bind_some, Option.bind_none, thenC_nrm, thenC_ret, thenC_exit, blockC_nrm, blockC_ret, blockC_exit, endR_nil, endR_cons, endF_ret, endF_nrm, List.length_cons, List.length_nil, ↓reduceIte, ev, actR_some, act, callR_some, callR_none, calleeR_some, callee, toDs, toD, loadA, storeA, subA, subD, updA, Eff.on, resA, resVs, resV, lk, finish, fznR, fzns, fzn, lts, lt, ltO, List.all, List.append_nil, List.nil_append, List.cons_append, DV.cells, AV.cells, pairsOk, indep, Pk.bne_eq, Pk.subL_cons, Pk.subL_td, List.drop_zero, Pk.upd_cons, Pk.upd_map, Pk.upd_map1, Pk.allD_map, Pk.allD_map', List.length_map, Option.map_some, List.getElem?_cons_zero, List.getElem?_cons_succ, List.getElem?_nil, List.set_cons_zero, List.set_cons_succ, reduceCtorEq, Nat.reduceEqDiff, Nat.reduceAdd, Nat.reduceLeDiff, Nat.add_zero, Nat.zero_add, stb, and_true, true_and, and_self, againL_nrm, evC_loop, thaws, List.getD_cons_zero, List.getD_cons_succ, List.getD_nil, List.drop, intOfA, binD, binI, unD, mmL, Bool.and_true, Bool.true_and, decide_true, decide_false, buildA, mkAgg, allD, behind, frzAs, frzA, adoptR, adopt, isD, beq_self_eq_true, evR_mv, evR_pick, evR_bin, evR_eq, evR_un, evR_conv, evR_convs, evR_box, evR_build, evR_bsl, evR_load, evR_store, evR_nilck, evR_slice, evR_faddr, evR_field, evR_iaddrA, evR_iaddrS, evR_idxA, evR_idxS, evR_mkfn, evR_ext, evR_len, evR_app, evR_mm, evR_mksl, evR_cpy, evR_clr, evR_b2s, evR_isnil, trim, List.take, binS, sliceA, bnd, zOk, elems, evR_b2s, Bool.or_eq_true, Bool.and_eq_true, List.singleton_append, List.append_assoc, Option.map_none, Int.lt_irrefl, Nat.reduceBNe, Nat.mul_one, guardR_und, inpl, Int.toNat_natCast, Nat.reduceLT, Nat.reduceBEq, Nat.reduceSub, Nat.reduceMul, Int.reduceLT, Int.reduceLE, Int.reduceEq, Int.reduceToNat, Int.reduceNeg, Bool.false_eq_true, Bool.true_eq_false, not_true_eq_false, not_false_eq_true, false_and, and_false, eq_self, Nat.not_lt_zero, Nat.le_refl, Nat.lt_irrefl, Bool.and_self, Bool.or_true, Bool.true_or, Bool.or_false, Bool.false_or, Bool.not_true, Bool.not_false, Bool.false_and, Bool.and_false, Int.toNat_zero, Int.toNat_one, true_or, or_true, false_or, or_false, thaw, nodup, refsV, adopts, List.flatMap_cons, List.flatMap_nil, evR_ext, Pk.Opr.len, Pk.Opr.d_eq, Pk.Opr.t_all, Pk.Opr.eta, Pk.Opr.r_all, Pk.Opr.r_client, Pk.Opr.r_seq, Pk.Opr.p_seq, Pk.Opr.r_kind, Pk.Opr.p_kind, Pk.Opr.r_obj, Pk.Opr.p_obj, Pk.Opr.r_at_, Pk.Opr.p_at_, Pk.Opr.r_data, Pk.Opr.p_data, Pk.Opr.w_all, Pk.Opr.w_client, Pk.Opr.w_seq, Pk.Opr.w_kind, Pk.Opr.w_obj, Pk.Opr.w_at_, Pk.Opr.w_data, Pk.Opr.eq, Pk.Opr.fold, Pk.Base.len, Pk.Base.d_eq, Pk.Base.t_all, Pk.Base.eta, Pk.Base.r_all, Pk.Base.r_objs, Pk.Base.r_objs_i, Pk.Base.r_objs_i_there, Pk.Base.r_objs_i_data, Pk.Base.r_objs_i_attr, Pk.Base.r_last, Pk.Base.r_last_i, Pk.Base.r_last_i_seq, Pk.Base.r_last_i_r, Pk.Base.r_last_i_r_code, Pk.Base.r_last_i_r_data, Pk.Base_objs_len, Pk.Base_objs_i, Pk.Base_last_len, Pk.Base_last_i, Pk.Base.w_all, Pk.Base.w_objs, Pk.Base.w_objs_i, Pk.Base.w_objs_i_there, Pk.Base.w_objs_i_data, Pk.Base.w_objs_i_attr, Pk.Base.w_last, Pk.Base.w_last_i, Pk.Base.w_last_i_seq, Pk.Base.w_last_i_r, Pk.Base.w_last_i_r_code, Pk.Base.w_last_i_r_data, Pk.Base_objs_eq, Pk.Base_last_eq, Pk.Base.eq, Pk.Base.foldc, Pk.Res.len, Pk.Res.d_eq, Pk.Res.t_all, Pk.Res.eta, Pk.Res.r_all, Pk.Res.r_code, Pk.Res.r_data, Pk.Res.p_data, Pk.Res.w_all, Pk.Res.w_code, Pk.Res.w_data, Pk.Res.eq, Pk.Res.fold, Pk.Last.len, Pk.Last.d_eq, Pk.Last.t_all, Pk.Last.eta, Pk.Last.r_all, Pk.Last.r_seq, Pk.Last.r_r, Pk.Last.r_r_code, Pk.Last.p_r_code, Pk.Last.r_r_data, Pk.Last.p_r_data, Pk.Last.w_all, Pk.Last.w_seq, Pk.Last.w_r, Pk.Last.w_r_code, Pk.Last.w_r_data, Pk.Last.eq, Pk.Last.fold, Pk.Last.foldc]
end Go.Proofs.Ytclambdgbphfkaa
