/- The objects layer: what is told is the document's; a read tells what is there; attributes are what was set last. -/
import Derived.Test.YtclambdgbphfkaaDoorObjF
import Derived.Test.YtclambdgbphfkaaDoorObjLaw
set_option linter.all false
namespace Go.Proofs.YtclambdgbphfkaaDoor
open Pv Go Pk
set_option maxRecDepth 10000
set_option maxHeartbeats 2000000

theorem tell_law (b : Base) (o : Opr) (hb : smallL reachBytes b.cs) (ho : o.ok) : evF C F_paddocklaw6_ObjectsTell [.d (.agg b.cs), .d (.agg o.cs)] [] = some (.d (.b true), []) := by
  rw [evF_code (rfl : C F_paddocklaw6_ObjectsTell = some a_paddocklaw6_ObjectsTell) _ _ rfl]
  have hbig := big_at b hb
  rcases Bool.eq_false_or_eq_true (bigB b) with c1 | c1
  · simp (config := {decide := true}) only [c_paddocklaw6_ObjectsTell, known_at, hbig, c1, Pk.EVL, keepT, enum, ↓reduceIte, ev, act, appT, callee, toDs, toD, loadA, storeA, subA, subD, updA, Eff.on, resA, resVs, resV, lk, finish, frzR, frzVs, frzV, fznR, fzns, fzn, lts, lt, ltO, List.all, pairsOk, indep, reduceCtorEq, Nat.reduceEqDiff, Nat.reduceAdd, Nat.reduceLeDiff, stb, thaws, List.drop, intOfA, binD, binI, unD, mmL, buildA, mkAgg, allD, bslD, behind, behind0, takeAt, frzAs, frzA, adoptR, adopt, isD, isD0, trim, List.take, binS, sliceA, bnd, zOk, elems, Nat.reduceBNe, inpl, Nat.reduceLT, Nat.reduceBEq, Nat.reduceSub, Nat.reduceMul, Int.reduceLT, Int.reduceLE, Int.reduceEq, Int.reduceToNat, Int.reduceNeg, thaw, nodup, refsV, adopts, Pk.TY_Base, Pk.TY_Opr]
  · have fb := bigB_fit c1
    have h1 := doOp_at b o fb ho
    have h2 := refDo_at b o fb ho
    have h3 := seen_at b o
    have h4 := refSeen_at b o ho
    have h5 := read_at b o fb ho
    have h6 := refRead_at b o fb ho
    have h7 := refIsOp_at o ho
    have h8 := refWrites_at o ho
    have h9 := isOp_at o
    have h10 := writes_at o
    generalize doOp b o = p at *
    generalize seen b o = q at *
    generalize readO b o = r at *
    generalize isOp o = i at *
    generalize writes o = w at *
    have e0 : ∀ x y : Bool, eqV .sb (.b x) (.b y) = some (x == y) := fun _ _ => rfl
    simp (config := {decide := true}) only [c_paddocklaw6_ObjectsTell, known_at, hbig, c1, e0, h1, h2, h3, h4, h5, h6, h7, h8, h9, h10, Pk.EVL, keepT, enum, ↓reduceIte, ev, act, appT, callee, toDs, toD, loadA, storeA, subA, subD, updA, Eff.on, resA, resVs, resV, lk, finish, frzR, frzVs, frzV, fznR, fzns, fzn, lts, lt, ltO, List.all, pairsOk, indep, reduceCtorEq, Nat.reduceEqDiff, Nat.reduceAdd, Nat.reduceLeDiff, stb, thaws, List.drop, intOfA, binD, binI, unD, mmL, buildA, mkAgg, allD, bslD, behind, behind0, takeAt, frzAs, frzA, adoptR, adopt, isD, isD0, trim, List.take, binS, sliceA, bnd, zOk, elems, Nat.reduceBNe, inpl, Nat.reduceLT, Nat.reduceBEq, Nat.reduceSub, Nat.reduceMul, Int.reduceLT, Int.reduceLE, Int.reduceEq, Int.reduceToNat, Int.reduceNeg, thaw, nodup, refsV, adopts, Pk.TY_Base, Pk.TY_Opr, Pk.TY_Res]

/-- How long a text is. -/
def cntN (x : Objt) : Nat → Nat
  | 0 => x.data.size
  | n + 1 => if x.attr.get n = ⟨#[]⟩ then cntN x n else cntN x n + 3 + (x.attr.get n).size
theorem text_size (x : Objt) : ∀ n, (textN x n).size = cntN x n
  | 0 => rfl
  | n + 1 => by
    show (addA (textN x n) n (x.attr.get n)).size = _
    unfold addA cntN
    split
    · exact text_size x n
    · simp only [ByteArray.size_append, fig_size, text_size x n]
      show _ + (1 + 1 + 1 + _) = _
      omega
theorem text_list (x : Objt) : ∀ n, ∃ r, (textN x n).data.toList = x.data.data.toList ++ r
  | 0 => ⟨[], by simp [textN]⟩
  | n + 1 => by
    obtain ⟨r, h⟩ := text_list x n
    show ∃ r, (addA (textN x n) n (x.attr.get n)).data.toList = _
    unfold addA
    split
    · exact ⟨r, h⟩
    · simp only [ba_append, h, List.append_assoc]
      exact ⟨_, rfl⟩
theorem text_pre (x : Objt) (n : Nat) : (textN x n).extract 0 x.data.size = x.data := by
  obtain ⟨r, h⟩ := text_list x n
  apply ba_list
  rw [ba_extract, h, List.drop_zero, ← ba_len, List.take_left]
theorem cnt_ge (x : Objt) : ∀ n, x.data.size ≤ cntN x n
  | 0 => Nat.le_refl _
  | n + 1 => by have := cnt_ge x n; unfold cntN; split <;> omega

theorem reads_law (l : List Opr) (obj : Int) (hl : ∀ x ∈ l, x.ok) (hob : 0 ≤ obj ∧ obj < 256) : evF C F_paddocklaw6_ObjectsReads [.d (.sl (l.map Opr.d)), .d (.i .u8 obj)] [] = some (.d (.b true), []) := by
  rw [evF_code (rfl : C F_paddocklaw6_ObjectsReads = some a_paddocklaw6_ObjectsReads) _ _ rfl]
  rcases Bool.eq_false_or_eq_true (decide ((l.length : Int) > 30)) with c1 | c1
  · simp (config := {decide := true}) only [c_paddocklaw6_ObjectsReads, known_at, c1, Pk.EVL, keepT, enum, ↓reduceIte, ev, act, appT, callee, toDs, toD, loadA, storeA, subA, subD, updA, Eff.on, resA, resVs, resV, lk, finish, frzR, frzVs, frzV, fznR, fzns, fzn, lts, lt, ltO, List.all, pairsOk, indep, reduceCtorEq, Nat.reduceEqDiff, Nat.reduceAdd, Nat.reduceLeDiff, stb, thaws, List.drop, intOfA, binD, binI, unD, mmL, buildA, mkAgg, allD, bslD, behind, behind0, takeAt, frzAs, frzA, adoptR, adopt, isD, isD0, trim, List.take, binS, sliceA, bnd, zOk, elems, Nat.reduceBNe, inpl, Nat.reduceLT, Nat.reduceBEq, Nat.reduceSub, Nat.reduceMul, Int.reduceLT, Int.reduceLE, Int.reduceEq, Int.reduceToNat, Int.reduceNeg, thaw, nodup, refsV, adopts, Pk.TY_Opr]
  have hlen := few (n := 30) c1
  have ha := all_at Base.zero l (by omega) zero_fit hl
  have fb := allOps_fit (l := l) zero_fit hl
  have hrl := allOps_len Base.zero l
  generalize (allOps Base.zero l).1 = b at *
  generalize (allOps Base.zero l).2 = rs at *
  have hr0 := hob
  obtain ⟨j, hj, hj6⟩ : ∃ j : Nat, obj.tmod 6 = (j : Int) ∧ j < 6 := by
    have h1 := Int.tmod_nonneg 6 hr0.1
    have h2 := Int.tmod_lt_of_pos obj (show (0 : Int) < 6 by omega)
    exact ⟨(obj.tmod 6).toNat, by omega, by omega⟩
  have hio : isOp ⟨1, 1, 5, (j : Int), 0, ⟨#[]⟩⟩ = true := by
    have : (j : Int) < 6 := by omega
    have hsz : (ByteArray.mk #[]).size = 0 := rfl
    simp [isOp, hsz]
    omega
  have hok : Opr.ok ⟨1, 1, 5, (j : Int), 0, ⟨#[]⟩⟩ := by have hsz : (ByteArray.mk #[]).size = 0 := rfl; simp [Opr.ok, hsz]; omega
  have hrd := read_at b ⟨1, 1, 5, (j : Int), 0, ⟨#[]⟩⟩ fb hok
  have e1 : readO b ⟨1, 1, 5, (j : Int), 0, ⟨#[]⟩⟩ = if (b.objs.get j).there = false then ⟨1, ⟨#[]⟩⟩ else ⟨0, textN (b.objs.get j) 3⟩ := by
    unfold readO
    rw [if_neg (by simp [hio]), if_neg (by simp)]
    rfl
  rw [e1] at hrd
  have b3 : (0 ≤ (j : Int) ∧ (j : Int) < ((6 : Nat) : Int)) = True := by simp; omega
  have b4 : (j * 5 + 5 ≤ 39) = True := by simp; omega
  have hx := fb j hj6
  have htk : List.take l.length (rs.map Res.d) = rs.map Res.d := List.take_of_length_le (by simp [hrl])
  rcases Bool.eq_false_or_eq_true (b.objs.get j).there with ht | ht
  · rw [if_neg (by simp [ht])] at hrd
    generalize hxx : b.objs.get j = x at *
    have hts := text_size x 3
    have hpre := text_pre x 3
    have hge := cnt_ge x 3
    have hle := textN_le hx 3 (by omega)
    have hlt : decide (((textN x 3).size : Int) < (x.data.size : Int)) = false := by rw [hts]; simp; omega
    have q1 : (0 ≤ (x.data.size : Int) ∧ (x.data.size : Int) ≤ ((textN x 3).size : Int)) = True := by rw [hts]; simp; omega
    generalize textN x 3 = tx at *
    simp (config := {decide := true}) only [c_paddocklaw6_ObjectsReads, known_at, c1, ha, htk, hrl, hj, hj6, hrd, b3, b4, ht, hxx, hlt, q1, hpre, Int.toNat_natCast, Pk.EVL, keepT, enum, ↓reduceIte, ev, act, appT, callee, toDs, toD, loadA, storeA, subA, subD, updA, Eff.on, resA, resVs, resV, lk, finish, frzR, frzVs, frzV, fznR, fzns, fzn, lts, lt, ltO, List.all, pairsOk, indep, reduceCtorEq, Nat.reduceEqDiff, Nat.reduceAdd, Nat.reduceLeDiff, stb, thaws, List.drop, intOfA, binD, binI, unD, mmL, buildA, mkAgg, allD, bslD, behind, behind0, takeAt, frzAs, frzA, adoptR, adopt, isD, isD0, trim, List.take, binS, sliceA, bnd, zOk, elems, Nat.reduceBNe, inpl, Nat.reduceLT, Nat.reduceBEq, Nat.reduceSub, Nat.reduceMul, Int.reduceLT, Int.reduceLE, Int.reduceEq, Int.reduceToNat, Int.reduceNeg, thaw, nodup, refsV, adopts, Pk.TY_Opr, Pk.TY_Base, Pk.TY_Res, Pk.TY_Objt]
    simp only [Option.bind_assoc]
    have hdat := hx.1
    refine bind_run (loop_run (fun i T H => lk T 8 = .ptr 1 0 ∧ lk T 9 = .ptr 2 0 ∧ lk T 10 = .d (.i .i64 (cntN x i : Nat)) ∧ lk T 11 = .d (.i .i64 (i : Nat)) ∧ H = [.box (.d (.agg b.cs)), .box (.d (.agg (Res.cs ⟨0, tx⟩))), .box (.d (.agg x.cs))])
      (fun e T H => e = .exit 0 ∧ lk T 8 = .ptr 1 0 ∧ lk T 10 = .d (.i .i64 (cntN x 3 : Nat)) ∧ H = [.box (.d (.agg b.cs)), .box (.d (.agg (Res.cs ⟨0, tx⟩))), .box (.d (.agg x.cs))]) 3 ?_ ?_ 3 0 _ _ (by omega) ⟨rfl, rfl, rfl, rfl, rfl⟩) ?_
    · rintro i T H hi ⟨h8, h9, h10, h11, rfl⟩
      have hd : decide ((i : Int) < 3) = true := by simp; omega
      have hw : IntKind.i64.wrap ((i : Int) + 1) = ((i + 1 : Nat) : Int) := wi64 (by omega)
      have hb1 : (0 ≤ (i : Int) ∧ (i : Int) < ((3 : Nat) : Int)) = True := by simp; omega
      have hb2 : (2 + i + 1 ≤ 5) = True := by simp; omega
      have hal := hx.2 i hi
      have hci : cntN x i ≤ 300 + 303 * i := by rw [← text_size]; exact textN_le hx i (by omega)
      by_cases ha : x.attr.get i = ⟨#[]⟩
      · have ha' : (!decide (x.attr.get i = ⟨#[]⟩)) = false := by simp [ha]
        have hct : cntN x (i + 1) = cntN x i := by show (if _ then _ else _) = _; rw [if_pos ha]
        simp (config := {decide := true}) only [K_paddocklaw6_ObjectsReads_0, l_paddocklaw6_ObjectsReads_0, h8, h9, h10, h11, hd, hw, hb1, hb2, hi, ha, ha', Int.toNat_natCast, Pk.EVL, keepT, enum, ↓reduceIte, ev, act, appT, callee, toDs, toD, loadA, storeA, subA, subD, updA, Eff.on, resA, resVs, resV, lk, finish, frzR, frzVs, frzV, fznR, fzns, fzn, lts, lt, ltO, List.all, pairsOk, indep, reduceCtorEq, Nat.reduceEqDiff, Nat.reduceAdd, Nat.reduceLeDiff, stb, thaws, List.drop, intOfA, binD, binI, unD, mmL, buildA, mkAgg, allD, bslD, behind, behind0, takeAt, frzAs, frzA, adoptR, adopt, isD, isD0, trim, List.take, binS, sliceA, bnd, zOk, elems, Nat.reduceBNe, inpl, Nat.reduceLT, Nat.reduceBEq, Nat.reduceSub, Nat.reduceMul, Int.reduceLT, Int.reduceLE, Int.reduceEq, Int.reduceToNat, Int.reduceNeg, thaw, nodup, refsV, adopts, Pk.TY_Objt, Pk.TY_Res]
        refine ⟨_, _, _, rfl, .inl ⟨rfl, rfl, rfl, by rw [hct]; rfl, rfl, rfl⟩⟩
      · have ha' : (!decide (x.attr.get i = ⟨#[]⟩)) = true := by simp [ha]
        have hct : cntN x (i + 1) = cntN x i + 3 + (x.attr.get i).size := by show (if _ then _ else _) = _; rw [if_neg ha]
        have w1 : IntKind.i64.wrap ((cntN x i : Int) + 3) = ((cntN x i + 3 : Nat) : Int) := wi64 (by omega)
        have w2 : IntKind.i64.wrap (((cntN x i + 3 : Nat) : Int) + ((x.attr.get i).size : Int)) = ((cntN x (i + 1) : Nat) : Int) := by rw [hct, wi64 (by omega)]; omega
        simp (config := {decide := true}) only [K_paddocklaw6_ObjectsReads_0, l_paddocklaw6_ObjectsReads_0, h8, h9, h10, h11, hd, hw, hb1, hb2, hi, ha, ha', w1, w2, Int.toNat_natCast, Pk.EVL, keepT, enum, ↓reduceIte, ev, act, appT, callee, toDs, toD, loadA, storeA, subA, subD, updA, Eff.on, resA, resVs, resV, lk, finish, frzR, frzVs, frzV, fznR, fzns, fzn, lts, lt, ltO, List.all, pairsOk, indep, reduceCtorEq, Nat.reduceEqDiff, Nat.reduceAdd, Nat.reduceLeDiff, stb, thaws, List.drop, intOfA, binD, binI, unD, mmL, buildA, mkAgg, allD, bslD, behind, behind0, takeAt, frzAs, frzA, adoptR, adopt, isD, isD0, trim, List.take, binS, sliceA, bnd, zOk, elems, Nat.reduceBNe, inpl, Nat.reduceLT, Nat.reduceBEq, Nat.reduceSub, Nat.reduceMul, Int.reduceLT, Int.reduceLE, Int.reduceEq, Int.reduceToNat, Int.reduceNeg, thaw, nodup, refsV, adopts, Pk.TY_Objt, Pk.TY_Res]
        refine ⟨_, _, _, rfl, .inl ⟨rfl, rfl, rfl, rfl, rfl, rfl⟩⟩
    · rintro T H ⟨h8, h9, h10, h11, rfl⟩
      have hd : decide (((3 : Nat) : Int) < 3) = false := by simp
      simp (config := {decide := true}) only [K_paddocklaw6_ObjectsReads_0, l_paddocklaw6_ObjectsReads_0, h8, h9, h10, h11, hd, Pk.EVL, keepT, enum, ↓reduceIte, ev, act, appT, callee, toDs, toD, loadA, storeA, subA, subD, updA, Eff.on, resA, resVs, resV, lk, finish, frzR, frzVs, frzV, fznR, fzns, fzn, lts, lt, ltO, List.all, pairsOk, indep, reduceCtorEq, Nat.reduceEqDiff, Nat.reduceAdd, Nat.reduceLeDiff, stb, thaws, List.drop, intOfA, binD, binI, unD, mmL, buildA, mkAgg, allD, bslD, behind, behind0, takeAt, frzAs, frzA, adoptR, adopt, isD, isD0, trim, List.take, binS, sliceA, bnd, zOk, elems, Nat.reduceBNe, inpl, Nat.reduceLT, Nat.reduceBEq, Nat.reduceSub, Nat.reduceMul, Int.reduceLT, Int.reduceLE, Int.reduceEq, Int.reduceToNat, Int.reduceNeg, thaw, nodup, refsV, adopts]
      exact ⟨_, _, _, rfl, by simp, rfl, rfl, rfl, rfl⟩
    · rintro e T H ⟨rfl, h8, h10, rfl⟩
      have hfin : (((tx.size : Nat) : Int) == ((cntN x 3 : Nat) : Int)) = true := by simp [hts]
      simp (config := {decide := true}) only [h8, h10, hfin, Pk.EVL, keepT, enum, ↓reduceIte, ev, act, appT, callee, toDs, toD, loadA, storeA, subA, subD, updA, Eff.on, resA, resVs, resV, lk, finish, frzR, frzVs, frzV, fznR, fzns, fzn, lts, lt, ltO, List.all, pairsOk, indep, reduceCtorEq, Nat.reduceEqDiff, Nat.reduceAdd, Nat.reduceLeDiff, stb, thaws, List.drop, intOfA, binD, binI, unD, mmL, buildA, mkAgg, allD, bslD, behind, behind0, takeAt, frzAs, frzA, adoptR, adopt, isD, isD0, trim, List.take, binS, sliceA, bnd, zOk, elems, Nat.reduceBNe, inpl, Nat.reduceLT, Nat.reduceBEq, Nat.reduceSub, Nat.reduceMul, Int.reduceLT, Int.reduceLE, Int.reduceEq, Int.reduceToNat, Int.reduceNeg, thaw, nodup, refsV, adopts, Pk.TY_Res]
  · rw [if_pos ht] at hrd
    simp (config := {decide := true}) only [c_paddocklaw6_ObjectsReads, known_at, c1, ha, htk, hrl, hj, hj6, hrd, b3, b4, ht, Int.toNat_natCast, Pk.EVL, keepT, enum, ↓reduceIte, ev, act, appT, callee, toDs, toD, loadA, storeA, subA, subD, updA, Eff.on, resA, resVs, resV, lk, finish, frzR, frzVs, frzV, fznR, fzns, fzn, lts, lt, ltO, List.all, pairsOk, indep, reduceCtorEq, Nat.reduceEqDiff, Nat.reduceAdd, Nat.reduceLeDiff, stb, thaws, List.drop, intOfA, binD, binI, unD, mmL, buildA, mkAgg, allD, bslD, behind, behind0, takeAt, frzAs, frzA, adoptR, adopt, isD, isD0, trim, List.take, binS, sliceA, bnd, zOk, elems, Nat.reduceBNe, inpl, Nat.reduceLT, Nat.reduceBEq, Nat.reduceSub, Nat.reduceMul, Int.reduceLT, Int.reduceLE, Int.reduceEq, Int.reduceToNat, Int.reduceNeg, thaw, nodup, refsV, adopts, Pk.TY_Opr, Pk.TY_Base, Pk.TY_Res, Pk.TY_Objt]

theorem op_at (n kind at_ : Int) (d : ByteArray) : evF C F_paddocklaw6_op [.d (.i .u32 n), .d (.i .u8 kind), .d (.i .u8 at_), .d (.s d)] [] = some (.d (.agg (Opr.mk 1 n kind 3 at_ d).cs), []) := by
  rw [evF_code (rfl : C F_paddocklaw6_op = some a_paddocklaw6_op) _ _ rfl]
  simp (config := {decide := true}) only [c_paddocklaw6_op, Pk.EVL, keepT, enum, ↓reduceIte, ev, act, appT, callee, toDs, toD, loadA, storeA, subA, subD, updA, Eff.on, resA, resVs, resV, lk, finish, frzR, frzVs, frzV, fznR, fzns, fzn, lts, lt, ltO, List.all, pairsOk, indep, reduceCtorEq, Nat.reduceEqDiff, Nat.reduceAdd, Nat.reduceLeDiff, stb, thaws, List.drop, intOfA, binD, binI, unD, mmL, buildA, mkAgg, allD, bslD, behind, behind0, takeAt, frzAs, frzA, adoptR, adopt, isD, isD0, trim, List.take, binS, sliceA, bnd, zOk, elems, Nat.reduceBNe, inpl, Nat.reduceLT, Nat.reduceBEq, Nat.reduceSub, Nat.reduceMul, Int.reduceLT, Int.reduceLE, Int.reduceEq, Int.reduceToNat, Int.reduceNeg, thaw, nodup, refsV, adopts, Pk.TY_Opr]

def eB : ByteArray := ⟨#[]⟩
def objX (at_ : Int) (b : ByteArray) : Objt := ⟨true, ⟨#[113]⟩, R3.set ⟨⟨#[]⟩, ⟨#[]⟩, ⟨#[]⟩⟩ at_.toNat b⟩
def baseX (at_ : Int) (b : ByteArray) : Base := { objs := Base.zero.objs.set 3 (objX at_ b), last := Base.zero.last.set 0 ⟨4, ⟨0, ⟨#[]⟩⟩⟩ }
theorem attrs_plain {at_ : Int} (hi : at_ = 0 ∨ at_ = 1 ∨ at_ = 2) {a b : ByteArray} (ha : a.size ≤ 16) (hb : b.size ≤ 16) :
    allOps Base.zero [⟨1, 1, 3, 3, at_, a⟩, ⟨1, 2, 1, 3, 0, ⟨#[113]⟩⟩, ⟨1, 3, 3, 3, at_, a⟩, ⟨1, 4, 3, 3, at_, b⟩] = (baseX at_ b, [⟨1, ⟨#[]⟩⟩, ⟨0, ⟨#[]⟩⟩, ⟨0, ⟨#[]⟩⟩, ⟨0, ⟨#[]⟩⟩]) := by
  have q1 : (16 < (a.size : Int)) = False := eq_false (by omega)
  have q2 : (16 < (b.size : Int)) = False := eq_false (by omega)
  have hs : splice ⟨#[]⟩ 0 ⟨#[113]⟩ = ⟨#[113]⟩ := by decide +kernel
  have hq : (ByteArray.mk #[113]).size = 1 := rfl
  have hz : Last.zero = ⟨0, ⟨0, ⟨#[]⟩⟩⟩ := rfl
  rcases hi with rfl | rfl | rfl <;>
    simp [allOps, doOp, writes, isOp, seen, doO, attrO, writeO, hq, hz, q1, q2, hs, Base.zero, baseX, objX, R6.set, R6.get, R3.set, R3.get, Objt.zero]

def baseY : Base := { objs := Base.zero.objs.set 3 ⟨true, ⟨#[122]⟩, ⟨⟨#[]⟩, ⟨#[]⟩, ⟨#[]⟩⟩⟩, last := Base.zero.last.set 0 ⟨6, ⟨0, ⟨#[]⟩⟩⟩ }
theorem attrs_plain2 (at_ : Int) (b : ByteArray) : allOps (baseX at_ b) [⟨1, 5, 4, 3, 0, ⟨#[]⟩⟩, ⟨1, 6, 1, 3, 0, ⟨#[122]⟩⟩] = (baseY, [⟨0, ⟨#[]⟩⟩, ⟨0, ⟨#[]⟩⟩]) := by
  have hs : splice ⟨#[]⟩ 0 ⟨#[122]⟩ = ⟨#[122]⟩ := by decide +kernel
  have hq : (ByteArray.mk #[122]).size = 1 := rfl
  have hz : (ByteArray.mk #[]).size = 0 := rfl
  simp [allOps, doOp, writes, isOp, seen, doO, removeO, writeO, hq, hz, hs, Base.zero, baseX, baseY, objX, R6.set, R6.get, R3.set, R3.get, Objt.zero]
def rdO : Opr := ⟨2, 1, 5, 3, 0, ⟨#[]⟩⟩
theorem rd_is : isOp rdO = true := by decide +kernel
theorem rd_ok : Opr.ok rdO := by have hz : (ByteArray.mk #[]).size = 0 := rfl; simp [Opr.ok, rdO, hz]
theorem read_X (at_ : Int) (hi : at_ = 0 ∨ at_ = 1 ∨ at_ = 2) (b : ByteArray) : readO (baseX at_ b) rdO = ⟨0, if b = ⟨#[]⟩ then ⟨#[113]⟩ else ⟨#[113]⟩ ++ ⟨#[59]⟩ ++ fig at_.toNat ++ ⟨#[61]⟩ ++ b⟩ := by
  unfold readO
  rw [if_neg (by simp [rd_is]), if_neg (by simp [rdO]), if_neg (by simp [rdO, baseX, R6.set, R6.get, objX])]
  show Res.mk 0 (textN (objX at_ b) 3) = _
  congr 1
  by_cases hb : b = ⟨#[]⟩
  · subst hb
    rcases hi with rfl | rfl | rfl <;> rfl
  · rw [if_neg hb, ← addA_left _ _ _ hb]
    rcases hi with rfl | rfl | rfl <;> simp [textN, addA, objX, R3.set, R3.get, hb]
theorem read_Y : readO baseY rdO = ⟨0, ⟨#[122]⟩⟩ := by decide +kernel

theorem attrs_law (k : Int) (a b : ByteArray) (hk : 0 ≤ k ∧ k < 256) : evF C F_paddocklaw6_ObjectsAttrs [.d (.i .u8 k), .d (.s a), .d (.s b)] [] = some (.d (.b true), []) := by
  rw [evF_code (rfl : C F_paddocklaw6_ObjectsAttrs = some a_paddocklaw6_ObjectsAttrs) _ _ rfl]
  rcases Bool.eq_false_or_eq_true (decide ((a.size : Int) > 16)) with c1 | c1
  · simp (config := {decide := true}) only [c_paddocklaw6_ObjectsAttrs, known_at, c1, Pk.EVL, keepT, enum, ↓reduceIte, ev, act, appT, callee, toDs, toD, loadA, storeA, subA, subD, updA, Eff.on, resA, resVs, resV, lk, finish, frzR, frzVs, frzV, fznR, fzns, fzn, lts, lt, ltO, List.all, pairsOk, indep, reduceCtorEq, Nat.reduceEqDiff, Nat.reduceAdd, Nat.reduceLeDiff, stb, thaws, List.drop, intOfA, binD, binI, unD, mmL, buildA, mkAgg, allD, bslD, behind, behind0, takeAt, frzAs, frzA, adoptR, adopt, isD, isD0, trim, List.take, binS, sliceA, bnd, zOk, elems, Nat.reduceBNe, inpl, Nat.reduceLT, Nat.reduceBEq, Nat.reduceSub, Nat.reduceMul, Int.reduceLT, Int.reduceLE, Int.reduceEq, Int.reduceToNat, Int.reduceNeg, thaw, nodup, refsV, adopts]
  rcases Bool.eq_false_or_eq_true (decide ((b.size : Int) > 16)) with c2 | c2
  · simp (config := {decide := true}) only [c_paddocklaw6_ObjectsAttrs, known_at, c1, c2, Pk.EVL, keepT, enum, ↓reduceIte, ev, act, appT, callee, toDs, toD, loadA, storeA, subA, subD, updA, Eff.on, resA, resVs, resV, lk, finish, frzR, frzVs, frzV, fznR, fzns, fzn, lts, lt, ltO, List.all, pairsOk, indep, reduceCtorEq, Nat.reduceEqDiff, Nat.reduceAdd, Nat.reduceLeDiff, stb, thaws, List.drop, intOfA, binD, binI, unD, mmL, buildA, mkAgg, allD, bslD, behind, behind0, takeAt, frzAs, frzA, adoptR, adopt, isD, isD0, trim, List.take, binS, sliceA, bnd, zOk, elems, Nat.reduceBNe, inpl, Nat.reduceLT, Nat.reduceBEq, Nat.reduceSub, Nat.reduceMul, Int.reduceLT, Int.reduceLE, Int.reduceEq, Int.reduceToNat, Int.reduceNeg, thaw, nodup, refsV, adopts]
  have ha := few (l := List.replicate a.size kO1) (n := 16) (by simpa using c1)
  have hb := few (l := List.replicate b.size kO1) (n := 16) (by simpa using c2)
  simp only [List.length_replicate] at ha hb
  have hr0 := hk
  obtain ⟨j, hj, hj3⟩ : ∃ j : Nat, k.tmod 3 = (j : Int) ∧ j < 3 := by
    have h1 := Int.tmod_nonneg 3 hr0.1
    have h2 := Int.tmod_lt_of_pos k (show (0 : Int) < 3 by omega)
    exact ⟨(k.tmod 3).toNat, by omega, by omega⟩
  have hi : (j : Int) = 0 ∨ (j : Int) = 1 ∨ (j : Int) = 2 := by omega
  have hml : (16 : Nat) ≤ maxLen := by decide
  have e0 : (ByteArray.mk #[]).size = 0 := rfl
  have eq1 : (ByteArray.mk #[113]).size = 1 := rfl
  have eq2 : (ByteArray.mk #[122]).size = 1 := rfl
  have hok1 : ∀ o ∈ [(⟨1, 1, 3, 3, (j : Int), a⟩ : Opr), ⟨1, 2, 1, 3, 0, ⟨#[113]⟩⟩, ⟨1, 3, 3, 3, (j : Int), a⟩, ⟨1, 4, 3, 3, (j : Int), b⟩], o.ok := by
    intro o ho
    simp only [List.mem_cons, List.not_mem_nil, or_false] at ho
    rcases ho with rfl | rfl | rfl | rfl <;> simp [Opr.ok, eq1] <;> omega
  have h1 := all_at Base.zero _ (by simp) zero_fit hok1
  have f1 := allOps_fit zero_fit hok1
  rw [attrs_plain hi ha hb] at h1 f1
  have hok2 : ∀ o ∈ [(⟨1, 5, 4, 3, 0, ⟨#[]⟩⟩ : Opr), ⟨1, 6, 1, 3, 0, ⟨#[122]⟩⟩], o.ok := by
    intro o ho
    simp only [List.mem_cons, List.not_mem_nil, or_false] at ho
    rcases ho with rfl | rfl <;> simp [Opr.ok, e0, eq2]; omega
  have h2 := all_at (baseX (j : Int) b) _ (by simp) f1 hok2
  have f2 := allOps_fit f1 hok2
  rw [attrs_plain2] at h2 f2
  have r1 := read_at _ rdO f1 rd_ok
  have r2 := read_at _ rdO f2 rd_ok
  rw [read_X _ hi b] at r1
  rw [read_Y] at r2
  have e3 : ∀ x : Res, AV.eptr x.cs = .eptr (.i .u8 x.code :: x.cs.tail) := fun _ => rfl
  simp only [List.map_cons, List.map_nil, Opr.d_eq, Res.d_eq] at h1 h2
  dsimp only at r1 r2
  have b3 : (0 ≤ (j : Int) ∧ (j : Int) < ((3 : Nat) : Int)) = True := by simp; omega
  have b4 : (17 + j + 1 ≤ 39) = True := by simp; omega
  have g1 : (baseX (j : Int) b).cs[17 + j]? = some (.s b) := by
    rcases (by omega : j = 0 ∨ j = 1 ∨ j = 2) with rfl | rfl | rfl <;> rfl
  have g2 : decide (b = b) = true := by simp
  have w1 : IntKind.u8.wrap (48 + (j : Int)) = ((48 + j : Nat) : Int) := by rw [wu8 (by omega)]; omega
  have hby : bytesOf [.i .u8 ((48 + j : Nat) : Int)] = some [UInt8.ofNat (48 + j)] := by simp only [bytesOf, Int.toNat_natCast]
  have hfg : (⟨[UInt8.ofNat (48 + j)].toArray⟩ : ByteArray) = fig j := rfl
  have l1 : ((ByteArray.mk #[113]).size + (ByteArray.mk #[59]).size ≤ LIM) = True := by simp [LIM]; show 1 + 1 ≤ _; omega
  have l2 : ((ByteArray.mk #[113] ++ ByteArray.mk #[59]).size + (fig j).size ≤ LIM) = True := by simp [LIM, fig_size]; show 1 + 1 ≤ _; omega
  have l3 : ((ByteArray.mk #[113] ++ ByteArray.mk #[59] ++ fig j).size + (ByteArray.mk #[61]).size ≤ LIM) = True := by simp [LIM, fig_size]; show 1 + 1 + 1 + 1 ≤ _; omega
  have l4 : ((ByteArray.mk #[113] ++ ByteArray.mk #[59] ++ fig j ++ ByteArray.mk #[61]).size + b.size ≤ LIM) = True := by simp [LIM, fig_size]; show 1 + 1 + 1 + 1 + _ ≤ _; omega
  have y1 : baseY.cs[15]? = some (.b true) := rfl
  have y2 : subL baseY.cs 17 3 = R3.cs (fun x => [DV.s x]) ⟨⟨#[]⟩, ⟨#[]⟩, ⟨#[]⟩⟩ := rfl
  have y3 : baseY.cs.length = 39 := rfl
  have y4 : eqV Objt_attr_ety (.agg (R3.cs (fun x => [DV.s x]) ⟨⟨#[]⟩, ⟨#[]⟩, ⟨#[]⟩⟩)) (.agg [.s ⟨#[]⟩, .s ⟨#[]⟩, .s ⟨#[]⟩]) = some true := (Objt_attr_eq ⟨⟨#[]⟩, ⟨#[]⟩, ⟨#[]⟩⟩ ⟨⟨#[]⟩, ⟨#[]⟩, ⟨#[]⟩⟩).trans (by simp)
  rw [show (j : Int).toNat = j by simp] at r1
  by_cases hb0 : b = ⟨#[]⟩
  · rw [if_pos hb0] at r1
    have c3 : (!decide (b = ⟨#[]⟩)) = false := by simp [hb0]
    simp (config := {decide := true}) only [c_paddocklaw6_ObjectsAttrs, known_at, c1, c2, c3, hj, hj3, b3, b4, op_at, show Opr.mk 2 1 5 3 0 ⟨#[]⟩ = rdO from rfl, h1, h2, r1, r2, g1, g2, e3, y1, y2, y3, y4, Int.toNat_natCast, Pk.EVL, keepT, enum, ↓reduceIte, ev, act, appT, callee, toDs, toD, loadA, storeA, subA, subD, updA, Eff.on, resA, resVs, resV, lk, finish, frzR, frzVs, frzV, fznR, fzns, fzn, lts, lt, ltO, List.all, pairsOk, indep, reduceCtorEq, Nat.reduceEqDiff, Nat.reduceAdd, Nat.reduceLeDiff, stb, thaws, List.drop, intOfA, binD, binI, unD, mmL, buildA, mkAgg, allD, bslD, behind, behind0, takeAt, frzAs, frzA, adoptR, adopt, isD, isD0, trim, List.take, binS, sliceA, bnd, zOk, elems, Nat.reduceBNe, inpl, Nat.reduceLT, Nat.reduceBEq, Nat.reduceSub, Nat.reduceMul, Int.reduceLT, Int.reduceLE, Int.reduceEq, Int.reduceToNat, Int.reduceNeg, thaw, nodup, refsV, adopts, Pk.TY_Opr, Pk.TY_Base, Pk.TY_Res, Pk.TY_Objt]
  · rw [if_neg hb0] at r1
    have c3 : (!decide (b = ⟨#[]⟩)) = true := by simp [hb0]
    simp (config := {decide := true}) only [c_paddocklaw6_ObjectsAttrs, known_at, c1, c2, c3, hj, hj3, b3, b4, op_at, show Opr.mk 2 1 5 3 0 ⟨#[]⟩ = rdO from rfl, h1, h2, r1, r2, g1, g2, e3, w1, hby, hfg, l1, l2, l3, l4, y1, y2, y3, y4, Int.toNat_natCast, Pk.EVL, keepT, enum, ↓reduceIte, ev, act, appT, callee, toDs, toD, loadA, storeA, subA, subD, updA, Eff.on, resA, resVs, resV, lk, finish, frzR, frzVs, frzV, fznR, fzns, fzn, lts, lt, ltO, List.all, pairsOk, indep, reduceCtorEq, Nat.reduceEqDiff, Nat.reduceAdd, Nat.reduceLeDiff, stb, thaws, List.drop, intOfA, binD, binI, unD, mmL, buildA, mkAgg, allD, bslD, behind, behind0, takeAt, frzAs, frzA, adoptR, adopt, isD, isD0, trim, List.take, binS, sliceA, bnd, zOk, elems, Nat.reduceBNe, inpl, Nat.reduceLT, Nat.reduceBEq, Nat.reduceSub, Nat.reduceMul, Int.reduceLT, Int.reduceLE, Int.reduceEq, Int.reduceToNat, Int.reduceNeg, thaw, nodup, refsV, adopts, Pk.TY_Opr, Pk.TY_Base, Pk.TY_Res, Pk.TY_Objt]
end Go.Proofs.YtclambdgbphfkaaDoor
