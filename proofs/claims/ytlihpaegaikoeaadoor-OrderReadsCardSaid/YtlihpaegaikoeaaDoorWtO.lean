/- One order: a read is taken, if at some number it tells that; else not: the law OrderReads. -/
import Derived.Test.YtlihpaegaikoeaaDoorObjR
set_option linter.all false
namespace Go.Proofs.YtlihpaegaikoeaaDoor
open Pv Go Pk
set_option maxRecDepth 10000
set_option maxHeartbeats 4000000

/-- The three entries of the law. -/
def e1O (a : ByteArray) : Opr := ⟨1, 1, 1, 0, 0, a⟩
def e2O : Opr := ⟨1, 2, 4, 0, 0, ⟨#[]⟩⟩
def e3O (b : ByteArray) : Opr := ⟨1, 3, 1, 0, 0, b⟩
def rL (a b : ByteArray) : List Entry := [⟨1, 1, e1O a⟩, ⟨1, 2, e2O⟩, ⟨1, 3, e3O b⟩]
def rdQ : Opr := ⟨2, 1, 5, 0, 0, ⟨#[]⟩⟩
theorem splice0 (a : ByteArray) : splice ⟨#[]⟩ 0 a = a := by
  apply ba_list
  unfold splice grown
  have hz : (ByteArray.mk #[]).size = 0 := rfl
  simp only [ba_append, ba_extract, ba_nul, hz, Nat.zero_add, Nat.sub_zero]
  simp
  omega
section
variable {a b : ByteArray} (ha : a.size ≤ 8) (hb : b.size ≤ 8)
theorem w2 : writes e2O = true := by decide +kernel
def rX (s : Int) (d : ByteArray) : Base := { objs := Base.zero.objs.set 0 ⟨true, d, ⟨⟨#[]⟩, ⟨#[]⟩, ⟨#[]⟩⟩⟩, last := Base.zero.last.set 0 ⟨s, ⟨0, ⟨#[]⟩⟩⟩ }
def rN (s : Int) : Base := { objs := Base.zero.objs, last := Base.zero.last.set 0 ⟨s, ⟨0, ⟨#[]⟩⟩⟩ }
include ha in
theorem r_1 : doOp Base.zero (e1O a) = (rX 1 a, ⟨0, ⟨#[]⟩⟩) := by
  have q : (16 < (a.size : Int)) = False := eq_false (by omega)
  have hz : Last.zero = ⟨0, ⟨0, ⟨#[]⟩⟩⟩ := rfl
  simp [doOp, writes, isOp, seen, doO, writeO, e1O, q, hz, splice0, Base.zero, rX, R6.set, R6.get, R3.set, R3.get, Objt.zero]
theorem r_2 : doOp (rX 1 a) e2O = (rN 2, ⟨0, ⟨#[]⟩⟩) := by
  have hz : Last.zero = ⟨0, ⟨0, ⟨#[]⟩⟩⟩ := rfl
  have hs : (ByteArray.mk #[]).size = 0 := rfl
  simp [doOp, writes, isOp, seen, doO, removeO, e2O, hz, hs, Base.zero, rX, rN, R6.set, R6.get, R3.set, R3.get, Objt.zero]
include hb in
theorem r_3 : doOp (rN 2) (e3O b) = (rX 3 b, ⟨0, ⟨#[]⟩⟩) := by
  have q : (16 < (b.size : Int)) = False := eq_false (by omega)
  have hz : Last.zero = ⟨0, ⟨0, ⟨#[]⟩⟩⟩ := rfl
  simp [doOp, writes, isOp, seen, doO, writeO, e3O, q, hz, splice0, Base.zero, rX, rN, R6.set, R6.get, R3.set, R3.get, Objt.zero]
include ha in
theorem rB1 : baseOf ((rL a b).take 1) = rX 1 a := by
  show (allOps Base.zero [e1O a]).1 = _
  simp only [allOps, r_1 ha]
include ha in
theorem rB2 : baseOf ((rL a b).take 2) = rN 2 := by
  show (allOps Base.zero [e1O a, e2O]).1 = _
  simp only [allOps, r_1 ha, r_2]
include ha hb in
theorem rB3 : baseOf ((rL a b).take 3) = rX 3 b := by
  show (allOps Base.zero [e1O a, e2O, e3O b]).1 = _
  simp only [allOps, r_1 ha, r_2, r_3 hb]
theorem rq_is : isOp rdQ = true := by decide +kernel
theorem rq_w : writes rdQ = false := by decide +kernel
theorem rq_X (s : Int) (d : ByteArray) : readO (rX s d) rdQ = ⟨0, d⟩ := by
  unfold readO
  rw [if_neg (by simp [rq_is]), if_neg (by simp [rdQ]), if_neg (by simp [rdQ, rX, R6.set, R6.get])]
  rfl
theorem rq_N (s : Int) : readO (rN s) rdQ = ⟨1, ⟨#[]⟩⟩ := by
  unfold readO
  have h : ((rN s).objs.get rdQ.obj.toNat).there = false := rfl
  rw [if_neg (by simp [rq_is]), if_neg (by simp [rdQ]), if_pos h]
theorem rq_0 : readO Base.zero rdQ = ⟨1, ⟨#[]⟩⟩ := by decide +kernel
include ha hb in
theorem r_reads (r : Res) : readsL (rL a b) rdQ r 4 = (decide ((⟨1, ⟨#[]⟩⟩ : Res) = r) || (decide ((⟨0, a⟩ : Res) = r) || (decide ((⟨1, ⟨#[]⟩⟩ : Res) = r) || decide ((⟨0, b⟩ : Res) = r)))) := by
  have h0 : baseOf ((rL a b).take 0) = Base.zero := rfl
  unfold readsL
  have hr : List.range 4 = [0, 1, 2, 3] := by decide
  rw [hr]
  simp only [List.any_cons, List.any_nil, h0, rB1 ha, rB2 ha, rB3 ha hb, rq_0, rq_X, rq_N, Bool.or_false]
def gR (a b : ByteArray) : Nat → Lr := updL L0 0 ⟨rL a b, 0, 1⟩
include ha hb in
theorem r_is : isSt (stN 1 (rL a b)) = true := by
  have e1 : okBase Base.zero = true := base_zero_ok
  have w1 : IntKind.u32.wrap 1 = 1 := by decide
  have w2' : IntKind.u32.wrap 2 = 2 := by decide
  have w3 : IntKind.u32.wrap 3 = 3 := by decide
  have h1 : writes (e1O a) = true := opW (by omega) (by omega) (by omega) (by omega)
  have h3 : writes (e3O b) = true := opW (by omega) (by omega) (by omega) (by omega)
  simp [isSt, stN, rL, chainE, nextE, e1, h1, h3, w2, Entry.zero, Opr.zero, w1, w2', w3]
include ha hb in
theorem r_see : seeL L0 0 (stN 1 (rL a b)) = (gR a b, 0) := by
  have his := r_is ha hb
  unfold seeL
  rw [if_neg (by rw [his]; simp), if_neg (by show ¬ ((1 : Int) < 0); omega)]
  have hf : fitsL (L0 0).l ((L0 0).acked : Int) (stN 1 (rL a b)) = true := by
    unfold fitsL headS
    rw [if_pos his]
    have p1 : ∀ e : Entry, 1 ≤ e.n → partE [] 0 e = false := by
      intro e he
      unfold partE
      rw [decide_eq_false (by omega)]
      rfl
    have hn : idxE (partE [] 0) (rL a b) = none := idxE_none (by
      intro e he
      simp only [rL, List.mem_cons, List.not_mem_nil, or_false] at he
      rcases he with rfl | rfl | rfl <;> exact p1 _ (by dsimp only; omega))
    show (!(decide ((3 : Int) < 0) || (decide ((0 : Int) > ((0 : Nat) : Int)) || !decide (Base.zero = Base.zero))) && !(idxE (partE [] 0) (rL a b)).isSome) = true
    rw [hn]
    simp
  rw [if_neg (by rw [hf]; simp)]
  rfl
include ha hb in
theorem r_took (r : Res) : tookL (gR a b) ⟨rdQ, r⟩ = (gR a b, if (decide ((⟨1, ⟨#[]⟩⟩ : Res) = r) || (decide ((⟨0, a⟩ : Res) = r) || (decide ((⟨1, ⟨#[]⟩⟩ : Res) = r) || decide ((⟨0, b⟩ : Res) = r)))) = true then 0 else 220) := by
  have hg : grpN rdQ.obj = 0 := by
    show (grpI 0).toNat = 0
    rw [grp0]
    rfl
  unfold tookL
  show tookG _ (grpN rdQ.obj) _ = _
  rw [hg]
  unfold tookG
  rw [if_neg (by simp [rq_is]), if_pos rq_w, ← r_reads ha hb r]
  rfl
end

/-- A read that is taken leaves all as it was. -/
theorem took_read {H : Heap} {o : Nat} {L : Nat → Lr} {V : Nat → Prop} (hO : Ord H o L V) (hv : ∀ k, k < 4 → LrOk (L k)) (a : Ans) (ha : a.op.ok) (c1 : isOp a.op = true) (c2 : writes a.op = false) :
    evF C F_witness_Order_Took [.ptr o 0, .d (.agg a.cs)] H = some (.d (.i .i64 (tookL L a).2), H) := by
  obtain ⟨hok, W, ho, hnd, hrows⟩ := hO
  obtain ⟨n, hn⟩ : ∃ n, H.length = n := ⟨_, rfl⟩
  have hlt : o < n := hn ▸ (List.getElem?_eq_some_iff.1 ho).1
  have R := hf_rules hn
  have K := ok_rules hn hok
  have N := n_rules n
  have O := o_rules hlt
  have fo := hf_old ho
  have hio := isOp_at a.op
  have hwr := writes_at a.op
  have e1 : (tookL L a).2 = if readsL (L (grpN a.op.obj)).l a.op a.r ((L (grpN a.op.obj)).l.length + 1) = true then 0 else 220 := by
    unfold tookL tookG
    rw [if_neg (by simp [c1]), if_pos c2]
  have key : ∀ g : Nat, g < 4 → evF C F_bits_Group [.d (.i .u8 a.op.obj)] [] = some (.d (.i .u8 (g : Int)), []) →
      evF C F_witness_Order_Took [.ptr o 0, .d (.agg a.cs)] (hf H []) = some (.d (.i .i64 (if readsL (L g).l a.op a.r ((L g).l.length + 1) = true then 0 else 220)), hf H []) := by
    intro g hg hgr
    have D := W4.rds hg
    have F := W4.fits hg
    obtain ⟨hrow, hra, hrs, hrv⟩ := hrows g hg
    obtain ⟨hl, hlo, hacl⟩ := hv g hg
    have rr : ∀ Y : Heap, okH (hf H Y) → evF C F_witness_row_read [.ptr o (g * 4), .d (.agg a.cs)] (hf H Y) = some (.d (.i .i64 (if readsL (L g).l a.op a.r ((L g).l.length + 1) = true then 0 else 220)), hf H Y) :=
      fun Y hY => rread_at hY (fo Y) hg hrow.l (hrow.b.hf Y) (by omega) hlo a ha
    rw [evF_code (rfl : C F_witness_Order_Took = some a_witness_Order_Took) _ _ rfl]
    simp (config := {decide := true}) only [c_witness_Order_Took, R, K, N, O, D, F, fo, hio, hwr, hgr, c1, c2, rr, sameH_self, Int.toNat_natCast, Pk.EVL, keepT, enum, ↓reduceIte, ev, act, appT, callee, toDs, toD, loadA, storeA, subA, subD, updA, Eff.on, resA, resVs, resV, lk, finish, frzR, frzVs, frzV, fznR, fzns, fzn, lts, lt, ltO, List.all, pairsOk, indep, reduceCtorEq, Nat.reduceEqDiff, Nat.reduceAdd, Nat.reduceLeDiff, stb, thaws, List.drop, intOfA, binD, binI, unD, mmL, buildA, mkAgg, allD, bslD, behind, behind0, takeAt, frzAs, frzA, adoptR, adopt, isD, isD0, trim, List.take, binS, sliceA, bnd, zOk, elems, Nat.reduceBNe, inpl, Nat.reduceLT, Nat.reduceBEq, Nat.reduceSub, Nat.reduceMul, Int.reduceLT, Int.reduceLE, Int.reduceEq, Int.reduceToNat, Int.reduceNeg, thaw, nodup, refsV, adopts, Pk.TY_Ans]
  rw [e1]
  have := key (grpN a.op.obj) (grpN_eq a.op.obj).2 (by rw [← (grpN_eq a.op.obj).1]; exact group_at a.op.obj)
  rwa [hf_nil] at this

theorem reads23_law (a b c : ByteArray) (attr : Bool) : ∃ H, evF C F_paddocklaw23_OrderReads [.d (.s a), .d (.s b), .d (.s c), .d (.b attr)] [] = some (.d (.b true), H) := by
  obtain ⟨Hk, hkn⟩ := known_at
  rw [evF_code (rfl : C F_paddocklaw23_OrderReads = some a_paddocklaw23_OrderReads) _ _ rfl]
  rcases Bool.eq_false_or_eq_true (decide ((a.size : Int) > 8)) with c1 | c1
  · exact ⟨_, by simp (config := {decide := true}) only [c_paddocklaw23_OrderReads, hkn, c1, Pk.EVL, keepT, enum, ↓reduceIte, ev, act, appT, callee, toDs, toD, loadA, storeA, subA, subD, updA, Eff.on, resA, resVs, resV, lk, finish, frzR, frzVs, frzV, fznR, fzns, fzn, lts, lt, ltO, List.all, pairsOk, indep, reduceCtorEq, Nat.reduceEqDiff, Nat.reduceAdd, Nat.reduceLeDiff, stb, thaws, List.drop, intOfA, binD, binI, unD, mmL, buildA, mkAgg, allD, bslD, behind, behind0, takeAt, frzAs, frzA, adoptR, adopt, isD, isD0, trim, List.take, binS, sliceA, bnd, zOk, elems, Nat.reduceBNe, inpl, Nat.reduceLT, Nat.reduceBEq, Nat.reduceSub, Nat.reduceMul, Int.reduceLT, Int.reduceLE, Int.reduceEq, Int.reduceToNat, Int.reduceNeg, thaw, nodup, refsV, adopts]; rfl⟩
  rcases Bool.eq_false_or_eq_true (decide ((b.size : Int) > 8)) with c2 | c2
  · exact ⟨_, by simp (config := {decide := true}) only [c_paddocklaw23_OrderReads, hkn, c1, c2, Pk.EVL, keepT, enum, ↓reduceIte, ev, act, appT, callee, toDs, toD, loadA, storeA, subA, subD, updA, Eff.on, resA, resVs, resV, lk, finish, frzR, frzVs, frzV, fznR, fzns, fzn, lts, lt, ltO, List.all, pairsOk, indep, reduceCtorEq, Nat.reduceEqDiff, Nat.reduceAdd, Nat.reduceLeDiff, stb, thaws, List.drop, intOfA, binD, binI, unD, mmL, buildA, mkAgg, allD, bslD, behind, behind0, takeAt, frzAs, frzA, adoptR, adopt, isD, isD0, trim, List.take, binS, sliceA, bnd, zOk, elems, Nat.reduceBNe, inpl, Nat.reduceLT, Nat.reduceBEq, Nat.reduceSub, Nat.reduceMul, Int.reduceLT, Int.reduceLE, Int.reduceEq, Int.reduceToNat, Int.reduceNeg, thaw, nodup, refsV, adopts]; rfl⟩
  rcases Bool.eq_false_or_eq_true (decide ((c.size : Int) > 30)) with c3 | c3
  · exact ⟨_, by simp (config := {decide := true}) only [c_paddocklaw23_OrderReads, hkn, c1, c2, c3, Pk.EVL, keepT, enum, ↓reduceIte, ev, act, appT, callee, toDs, toD, loadA, storeA, subA, subD, updA, Eff.on, resA, resVs, resV, lk, finish, frzR, frzVs, frzV, fznR, fzns, fzn, lts, lt, ltO, List.all, pairsOk, indep, reduceCtorEq, Nat.reduceEqDiff, Nat.reduceAdd, Nat.reduceLeDiff, stb, thaws, List.drop, intOfA, binD, binI, unD, mmL, buildA, mkAgg, allD, bslD, behind, behind0, takeAt, frzAs, frzA, adoptR, adopt, isD, isD0, trim, List.take, binS, sliceA, bnd, zOk, elems, Nat.reduceBNe, inpl, Nat.reduceLT, Nat.reduceBEq, Nat.reduceSub, Nat.reduceMul, Int.reduceLT, Int.reduceLE, Int.reduceEq, Int.reduceToNat, Int.reduceNeg, thaw, nodup, refsV, adopts]; rfl⟩
  have ha := fit_sz (n := 8) c1
  have hb := fit_sz (n := 8) c2
  have hg0 := group_at 0
  rw [grp0] at hg0
  have hml : (8 : Nat) ≤ maxLen := by decide
  have hz : (ByteArray.mk #[]).size = 0 := rfl
  have rok : Opr.ok rdQ := by simp [Opr.ok, rdQ, hz]
  have sok : stOk (stN 1 (rL a b)) := stN_ok 1 (by
    intro e he
    simp only [rL, List.mem_cons, List.not_mem_nil, or_false] at he
    rcases he with rfl | rfl | rfl <;> simp [Opr.ok, e1O, e2O, e3O, hz] <;> omega)
  have hO0 : Ord [.box (.agg Wn.cs), .arr [.agg (Entry.mk 1 1 (e1O a)).cs, .agg (Entry.mk 1 2 e2O).cs, .agg (Entry.mk 1 3 (e3O b)).cs] false] 0 L0 (fun _ => True) := ord0 (by rfl) rfl _
  have hz1 : evF C F_witness_Order_See [.ptr 0 0, .d (.i .u8 0), .agg ((stN 1 []).withV (.view 1 3 8 0 3))] [.box (.agg Wn.cs), .arr [.agg (Entry.mk 1 1 (e1O a)).cs, .agg (Entry.mk 1 2 e2O).cs, .agg (Entry.mk 1 3 (e3O b)).cs] true] =
      evF C F_witness_Order_See [.ptr 0 0, .d (.i .u8 0), .d (.agg (stN 1 (rL a b)).cs)] [.box (.agg Wn.cs), .arr [.agg (Entry.mk 1 1 (e1O a)).cs, .agg (Entry.mk 1 2 e2O).cs, .agg (Entry.mk 1 3 (e3O b)).cs] false] :=
    see_frz ⟨_, rfl⟩ (stN_frz _ 1 (rL a b) 3 rfl 1 true rfl)
  obtain ⟨⟨v1, G1⟩, hs1, hv1, hO1, hf1⟩ := see_at hO0 L0_ok 0 (by omega) (stN 1 (rL a b)) sok
  obtain ⟨ok1, len1, -, -⟩ := seeL_ok (M := 0) L0_ok (g := 0) sok (by omega) L0_len
  dsimp only at hv1 hO1 hf1
  rw [r_see ha hb] at hv1 hO1 ok1 len1
  dsimp only at hv1 hO1 ok1 len1
  subst hv1
  have hs1' := hz1.trans hs1
  have g1 : (2 ≤ G1.length) = True := eq_true hf1.1
  obtain ⟨n, hn⟩ : ∃ n, G1.length = n := ⟨_, rfl⟩
  rw [hn] at g1
  have hokG : okH (hf G1 [.box (.d (.agg rdQ.cs))]) := by rw [hf_ok rfl hO1.1]; rfl
  have hOG := hO1.hf hokG
  have t1 := took_read hOG ok1 ⟨rdQ, ⟨1, ⟨#[]⟩⟩⟩ rok rq_is rq_w
  have t2 := took_read hOG ok1 ⟨rdQ, ⟨0, a⟩⟩ rok rq_is rq_w
  have t3 := took_read hOG ok1 ⟨rdQ, ⟨0, b⟩⟩ rok rq_is rq_w
  have t4 := took_read hOG ok1 ⟨rdQ, ⟨0, c⟩⟩ rok rq_is rq_w
  rw [r_took ha hb] at t1 t2 t3 t4
  have v1 : (decide ((⟨1, ⟨#[]⟩⟩ : Res) = ⟨1, ⟨#[]⟩⟩) || (decide ((⟨0, a⟩ : Res) = ⟨1, ⟨#[]⟩⟩) || (decide ((⟨1, ⟨#[]⟩⟩ : Res) = ⟨1, ⟨#[]⟩⟩) || decide ((⟨0, b⟩ : Res) = ⟨1, ⟨#[]⟩⟩)))) = true := by simp
  have v2 : (decide ((⟨1, ⟨#[]⟩⟩ : Res) = ⟨0, a⟩) || (decide ((⟨0, a⟩ : Res) = ⟨0, a⟩) || (decide ((⟨1, ⟨#[]⟩⟩ : Res) = ⟨0, a⟩) || decide ((⟨0, b⟩ : Res) = ⟨0, a⟩)))) = true := by simp
  have v3 : (decide ((⟨1, ⟨#[]⟩⟩ : Res) = ⟨0, b⟩) || (decide ((⟨0, a⟩ : Res) = ⟨0, b⟩) || (decide ((⟨1, ⟨#[]⟩⟩ : Res) = ⟨0, b⟩) || decide ((⟨0, b⟩ : Res) = ⟨0, b⟩)))) = true := by simp
  have v4 : (decide ((⟨1, ⟨#[]⟩⟩ : Res) = ⟨0, c⟩) || (decide ((⟨0, a⟩ : Res) = ⟨0, c⟩) || (decide ((⟨1, ⟨#[]⟩⟩ : Res) = ⟨0, c⟩) || decide ((⟨0, b⟩ : Res) = ⟨0, c⟩)))) = (decide (c = a) || decide (c = b)) := by
    have q : ∀ x : ByteArray, decide ((⟨0, x⟩ : Res) = ⟨0, c⟩) = decide (c = x) := fun x => decide_eq_decide.2 ⟨fun h => by injection h with _ h; exact h.symm, fun h => by rw [h]⟩
    have q0 : decide ((⟨1, ⟨#[]⟩⟩ : Res) = ⟨0, c⟩) = false := decide_eq_false fun h => by injection h with h _; exact absurd h (by omega)
    rw [q a, q b, q0]
    simp
  rw [v1] at t1
  rw [v2] at t2
  rw [v3] at t3
  rw [v4] at t4
  simp only [if_pos] at t1 t2 t3
  have hln : evF C F_witness_Order_Len [.ptr 0 0, .d (.i .u8 0)] (hf G1 [.box (.d (.agg rdQ.cs))]) = some (.d (.i .i64 3), hf G1 [.box (.d (.agg rdQ.cs))]) := by
    have := len_at hOG 0
    rw [if_pos (by omega)] at this
    exact this
  have hak : evF C F_witness_Order_Acked [.ptr 0 0, .d (.i .u8 0)] (hf G1 [.box (.d (.agg rdQ.cs))]) = some (.d (.i .u32 0), hf G1 [.box (.d (.agg rdQ.cs))]) := by
    have := acked_at hOG 0
    rw [if_pos (by omega)] at this
    exact this
  have hnew := new_at (H := []) rfl
  have R := hf_rules hn
  have K := ok_rules hn hO1.1
  have N := n_rules n
  have h0n : 0 < n := by have := hf1.1; simp only [List.length_cons, List.length_nil] at this; omega
  have O0 := o_rules h0n
  have pg : ∀ x, G1 ++ [x] = hf G1 [x] := fun _ => rfl
  have e0 : ∀ x y : Bool, eqV .sb (.b x) (.b y) = some (x == y) := fun _ _ => rfl
  have an : ∀ (o : Opr) (r : Res), o.cs ++ r.cs = (Ans.mk o r).cs := fun _ _ => rfl
  rcases Bool.eq_false_or_eq_true (decide (c = a)) with d1 | d1 <;> rcases Bool.eq_false_or_eq_true (decide (c = b)) with d2 | d2
  all_goals
    rw [d1, d2] at t4
    simp only [Bool.or_true, Bool.true_or, Bool.or_false, Bool.or_self, if_pos, Bool.false_eq_true, if_false] at t4
    simp (config := {decide := true}) only [c_paddocklaw23_OrderReads, hkn, c1, c2, c3, hg0, hnew, stN_1, stN_2, stN_3, an_f0, an_f1, an, show Opr.mk 1 1 1 0 0 a = e1O a from rfl, show Opr.mk 1 2 4 0 0 ⟨#[]⟩ = e2O from rfl, show Opr.mk 1 3 1 0 0 b = e3O b from rfl, show Opr.mk 2 1 5 0 0 ⟨#[]⟩ = rdQ from rfl, hs1', t1, t2, t3, t4, hln, hak, d1, d2, g1, hn, pg, R, K, N, O0, e0, sameH_self, Pk.EVL, keepT, enum, ↓reduceIte, ev, act, appT, callee, toDs, toD, loadA, storeA, subA, subD, updA, Eff.on, resA, resVs, resV, lk, finish, frzR, frzVs, frzV, fznR, fzns, fzn, lts, lt, ltO, List.all, pairsOk, indep, reduceCtorEq, Nat.reduceEqDiff, Nat.reduceAdd, Nat.reduceLeDiff, stb, thaws, List.drop, intOfA, binD, binI, unD, mmL, buildA, mkAgg, allD, bslD, behind, behind0, takeAt, frzAs, frzA, adoptR, adopt, isD, isD0, trim, List.take, binS, sliceA, bnd, zOk, elems, Nat.reduceBNe, inpl, Nat.reduceLT, Nat.reduceBEq, Nat.reduceSub, Nat.reduceMul, Int.reduceLT, Int.reduceLE, Int.reduceEq, Int.reduceToNat, Int.reduceNeg, thaw, nodup, refsV, adopts, Pk.TY_Opr, Pk.TY_Entry, Pk.TY_State, Pk.TY_Ans, Pk.TY_Res]
    exact ⟨_, rfl⟩
end Go.Proofs.YtlihpaegaikoeaaDoor
