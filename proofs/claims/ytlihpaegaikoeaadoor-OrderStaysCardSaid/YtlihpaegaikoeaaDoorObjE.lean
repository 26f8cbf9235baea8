/- Operations on objects: what a read tells. -/
import Derived.Test.YtlihpaegaikoeaaDoorObjPlain
set_option linter.all false
namespace Go.Proofs.YtlihpaegaikoeaaDoor
open Pv Go Pk
set_option maxRecDepth 10000
set_option maxHeartbeats 1000000

def addA (s : ByteArray) (k : Nat) (a : ByteArray) : ByteArray := if a = ⟨#[]⟩ then s else s ++ (⟨#[59]⟩ ++ fig k ++ ⟨#[61]⟩ ++ a)
def textN (x : Objt) : Nat → ByteArray
  | 0 => x.data
  | n + 1 => addA (textN x n) n (x.attr.get n)
def readO (b : Base) (o : Opr) : Res :=
  if isOp o = false then ⟨3, ⟨#[]⟩⟩ else if o.kind ≠ 5 then ⟨3, ⟨#[]⟩⟩
  else if (b.objs.get o.obj.toNat).there = false then ⟨1, ⟨#[]⟩⟩ else ⟨0, textN (b.objs.get o.obj.toNat) 3⟩

theorem fig_size (k : Nat) : (fig k).size = 1 := rfl
theorem addA_le (s : ByteArray) (k : Nat) (a : ByteArray) : (addA s k a).size ≤ s.size + 3 + a.size := by
  unfold addA
  split
  · omega
  · simp only [ByteArray.size_append, fig_size]; show s.size + (1 + 1 + 1 + _) ≤ _; omega
theorem textN_le {x : Objt} (hx : Objt.fit x) : ∀ n ≤ 3, (textN x n).size ≤ 300 + 303 * n
  | 0, _ => by have := hx.1; simpa [textN] using this
  | n + 1, h => by
    have h1 := textN_le hx n (by omega)
    have h2 := addA_le (textN x n) n (x.attr.get n)
    have h3 := hx.2 n (by omega)
    show (addA _ _ _).size ≤ _
    omega

theorem read_at (b : Base) (o : Opr) (hb : Base.fit b) (ho : o.ok) : evF C F_objects_Read [.d (.agg b.cs), .d (.agg o.cs)] [] = some (.d (.agg (readO b o).cs), []) := by
  rw [evF_code (rfl : C F_objects_Read = some a_objects_Read) _ _ rfl]
  unfold readO
  rcases Bool.eq_false_or_eq_true (isOp o) with h | h
  · by_cases hk : o.kind = 5
    · have hk' : (o.kind != 5) = false := by simp [hk]
      obtain ⟨j, hj, hj', hj6⟩ : ∃ k : Nat, o.obj = (k : Int) ∧ k = o.obj.toNat ∧ k < 6 := by
        have := isOp_le h
        have := ho
        simp only [Opr.ok] at this
        exact ⟨o.obj.toNat, by omega, rfl, by omega⟩
      rw [← hj']
      have b3 : (0 ≤ (j : Int) ∧ (j : Int) < ((6 : Nat) : Int)) = True := by simp; omega
      have b4 : (j * 5 + 5 ≤ 39) = True := by simp; omega
      have hx := hb j hj6
      rcases Bool.eq_false_or_eq_true (b.objs.get j).there with ht | ht
      · simp (config := {decide := true}) only [c_objects_Read, isOp_at, h, hk, hk', hj, hj6, b3, b4, ht, Int.toNat_natCast, Pk.EVL, keepT, enum, ↓reduceIte, ev, act, appT, callee, toDs, toD, loadA, storeA, subA, subD, updA, Eff.on, resA, resVs, resV, lk, finish, frzR, frzVs, frzV, fznR, fzns, fzn, lts, lt, ltO, List.all, pairsOk, indep, reduceCtorEq, Nat.reduceEqDiff, Nat.reduceAdd, Nat.reduceLeDiff, stb, thaws, List.drop, intOfA, binD, binI, unD, mmL, buildA, mkAgg, allD, bslD, behind, behind0, takeAt, frzAs, frzA, adoptR, adopt, isD, isD0, trim, List.take, binS, sliceA, bnd, zOk, elems, Nat.reduceBNe, inpl, Nat.reduceLT, Nat.reduceBEq, Nat.reduceSub, Nat.reduceMul, Int.reduceLT, Int.reduceLE, Int.reduceEq, Int.reduceToNat, Int.reduceNeg, thaw, nodup, refsV, adopts, Pk.TY_Opr, Pk.TY_Base, Pk.TY_Res, Pk.TY_Objt]
        simp only [Option.bind_assoc]
        generalize b.objs.get j = x at *
        refine bind_run (loop_run (fun i T H => lk T 4 = .ptr 2 0 ∧ lk T 6 = .d (.s (textN x i)) ∧ lk T 30 = .d (.agg (R3.cs (fun x => [DV.s x]) x.attr)) ∧ lk T 31 = .d (.i .i64 (i : Nat)) ∧ H = [.box (.d (.agg b.cs)), .box (.d (.agg o.cs)), .box (.d (.agg (Res.cs ⟨0, ⟨#[]⟩⟩))), .box (.d (.agg x.cs))]) (fun e T H => e = .exit 0 ∧ lk T 4 = .ptr 2 0 ∧ lk T 6 = .d (.s (textN x 3)) ∧ H = [.box (.d (.agg b.cs)), .box (.d (.agg o.cs)), .box (.d (.agg (Res.cs ⟨0, ⟨#[]⟩⟩))), .box (.d (.agg x.cs))]) 3 ?_ ?_ 3 0 _ _ (by omega) ⟨rfl, rfl, rfl, rfl, rfl⟩) ?_
        · rintro i T H hi ⟨h4, h6, h30, h31, rfl⟩
          have hd : decide ((i : Int) < 3) = true := by simp; omega
          have hw : IntKind.i64.wrap ((i : Int) + 1) = ((i + 1 : Nat) : Int) := wi64 (by omega)
          have hb1 : (0 ≤ (i : Int) ∧ (i : Int) < ((3 : Nat) : Int)) = True := by simp; omega
          have hit := itoa_at (rfl : C F_strconv_Itoa = some _) i (by omega)
          have hle := textN_le hx i (by omega)
          have hal := hx.2 i hi
          by_cases ha : x.attr.get i = ⟨#[]⟩
          · have ha' : (!decide (x.attr.get i = ⟨#[]⟩)) = false := by simp [ha]
            have ht : textN x (i + 1) = textN x i := by show addA _ _ _ = _; rw [addA, if_pos ha]
            simp (config := {decide := true}) only [K_objects_Read_0, l_objects_Read_0, h4, h6, h30, h31, hd, hw, hb1, hi, ha, ha', Pk.EVL, keepT, enum, ↓reduceIte, ev, act, appT, callee, toDs, toD, loadA, storeA, subA, subD, updA, Eff.on, resA, resVs, resV, lk, finish, frzR, frzVs, frzV, fznR, fzns, fzn, lts, lt, ltO, List.all, pairsOk, indep, reduceCtorEq, Nat.reduceEqDiff, Nat.reduceAdd, Nat.reduceLeDiff, stb, thaws, List.drop, intOfA, binD, binI, unD, mmL, buildA, mkAgg, allD, bslD, behind, behind0, takeAt, frzAs, frzA, adoptR, adopt, isD, isD0, trim, List.take, binS, sliceA, bnd, zOk, elems, Nat.reduceBNe, inpl, Nat.reduceLT, Nat.reduceBEq, Nat.reduceSub, Nat.reduceMul, Int.reduceLT, Int.reduceLE, Int.reduceEq, Int.reduceToNat, Int.reduceNeg, thaw, nodup, refsV, adopts, Pk.TY_Objt, Pk.TY_Res]
            refine ⟨_, _, _, rfl, ?_⟩
            exact .inl ⟨rfl, rfl, by rw [ht]; rfl, rfl, rfl, rfl⟩
          · have ha' : (!decide (x.attr.get i = ⟨#[]⟩)) = true := by simp [ha]
            have ht : textN x (i + 1) = textN x i ++ (⟨#[59]⟩ ++ fig i ++ ⟨#[61]⟩ ++ x.attr.get i) := by show addA _ _ _ = _; rw [addA, if_neg ha]
            have l1 : ((ByteArray.mk #[59]).size + (fig i).size ≤ LIM) = True := by simp [LIM, fig_size]; show 1 ≤ _; omega
            have l2 : ((ByteArray.mk #[59] ++ fig i).size + (ByteArray.mk #[61]).size ≤ LIM) = True := by simp [LIM, fig_size]; show 1 + 1 + 1 ≤ _; omega
            have l3 : ((ByteArray.mk #[59] ++ fig i ++ ByteArray.mk #[61]).size + (x.attr.get i).size ≤ LIM) = True := by simp [LIM, fig_size]; show 1 + 1 + 1 + _ ≤ _; omega
            have l4 : ((textN x i).size + (ByteArray.mk #[59] ++ fig i ++ ByteArray.mk #[61] ++ x.attr.get i).size ≤ LIM) = True := by simp [LIM, fig_size]; show _ + (1 + 1 + 1 + _) ≤ _; omega
            simp (config := {decide := true}) only [K_objects_Read_0, l_objects_Read_0, h4, h6, h30, h31, hd, hw, hb1, hi, ha, ha', hit, l1, l2, l3, l4, Pk.EVL, keepT, enum, ↓reduceIte, ev, act, appT, callee, toDs, toD, loadA, storeA, subA, subD, updA, Eff.on, resA, resVs, resV, lk, finish, frzR, frzVs, frzV, fznR, fzns, fzn, lts, lt, ltO, List.all, pairsOk, indep, reduceCtorEq, Nat.reduceEqDiff, Nat.reduceAdd, Nat.reduceLeDiff, stb, thaws, List.drop, intOfA, binD, binI, unD, mmL, buildA, mkAgg, allD, bslD, behind, behind0, takeAt, frzAs, frzA, adoptR, adopt, isD, isD0, trim, List.take, binS, sliceA, bnd, zOk, elems, Nat.reduceBNe, inpl, Nat.reduceLT, Nat.reduceBEq, Nat.reduceSub, Nat.reduceMul, Int.reduceLT, Int.reduceLE, Int.reduceEq, Int.reduceToNat, Int.reduceNeg, thaw, nodup, refsV, adopts, Pk.TY_Objt, Pk.TY_Res]
            refine ⟨_, _, _, rfl, ?_⟩
            exact .inl ⟨rfl, rfl, by rw [ht]; rfl, rfl, rfl, rfl⟩
        · rintro T H ⟨h4, h6, h30, h31, rfl⟩
          have hd : decide (((3 : Nat) : Int) < 3) = false := by simp
          simp (config := {decide := true}) only [K_objects_Read_0, l_objects_Read_0, h4, h6, h30, h31, hd, Pk.EVL, keepT, enum, ↓reduceIte, ev, act, appT, callee, toDs, toD, loadA, storeA, subA, subD, updA, Eff.on, resA, resVs, resV, lk, finish, frzR, frzVs, frzV, fznR, fzns, fzn, lts, lt, ltO, List.all, pairsOk, indep, reduceCtorEq, Nat.reduceEqDiff, Nat.reduceAdd, Nat.reduceLeDiff, stb, thaws, List.drop, intOfA, binD, binI, unD, mmL, buildA, mkAgg, allD, bslD, behind, behind0, takeAt, frzAs, frzA, adoptR, adopt, isD, isD0, trim, List.take, binS, sliceA, bnd, zOk, elems, Nat.reduceBNe, inpl, Nat.reduceLT, Nat.reduceBEq, Nat.reduceSub, Nat.reduceMul, Int.reduceLT, Int.reduceLE, Int.reduceEq, Int.reduceToNat, Int.reduceNeg, thaw, nodup, refsV, adopts, Pk.TY_Objt, Pk.TY_Res]
          refine ⟨_, _, _, rfl, ?_⟩
          exact ⟨by simp, rfl, rfl, rfl, rfl⟩
        · rintro e T H ⟨rfl, h4, h6, rfl⟩
          simp (config := {decide := true}) only [h4, h6, Pk.EVL, keepT, enum, ↓reduceIte, ev, act, appT, callee, toDs, toD, loadA, storeA, subA, subD, updA, Eff.on, resA, resVs, resV, lk, finish, frzR, frzVs, frzV, fznR, fzns, fzn, lts, lt, ltO, List.all, pairsOk, indep, reduceCtorEq, Nat.reduceEqDiff, Nat.reduceAdd, Nat.reduceLeDiff, stb, thaws, List.drop, intOfA, binD, binI, unD, mmL, buildA, mkAgg, allD, bslD, behind, behind0, takeAt, frzAs, frzA, adoptR, adopt, isD, isD0, trim, List.take, binS, sliceA, bnd, zOk, elems, Nat.reduceBNe, inpl, Nat.reduceLT, Nat.reduceBEq, Nat.reduceSub, Nat.reduceMul, Int.reduceLT, Int.reduceLE, Int.reduceEq, Int.reduceToNat, Int.reduceNeg, thaw, nodup, refsV, adopts, Pk.TY_Res]
      · simp (config := {decide := true}) only [c_objects_Read, isOp_at, h, hk, hk', hj, hj6, b3, b4, ht, Int.toNat_natCast, Pk.EVL, keepT, enum, ↓reduceIte, ev, act, appT, callee, toDs, toD, loadA, storeA, subA, subD, updA, Eff.on, resA, resVs, resV, lk, finish, frzR, frzVs, frzV, fznR, fzns, fzn, lts, lt, ltO, List.all, pairsOk, indep, reduceCtorEq, Nat.reduceEqDiff, Nat.reduceAdd, Nat.reduceLeDiff, stb, thaws, List.drop, intOfA, binD, binI, unD, mmL, buildA, mkAgg, allD, bslD, behind, behind0, takeAt, frzAs, frzA, adoptR, adopt, isD, isD0, trim, List.take, binS, sliceA, bnd, zOk, elems, Nat.reduceBNe, inpl, Nat.reduceLT, Nat.reduceBEq, Nat.reduceSub, Nat.reduceMul, Int.reduceLT, Int.reduceLE, Int.reduceEq, Int.reduceToNat, Int.reduceNeg, thaw, nodup, refsV, adopts, Pk.TY_Opr, Pk.TY_Base, Pk.TY_Res, Pk.TY_Objt]
    · have hk' : (o.kind != 5) = true := by simp [hk]
      simp (config := {decide := true}) only [c_objects_Read, isOp_at, h, hk, hk', Pk.EVL, keepT, enum, ↓reduceIte, ev, act, appT, callee, toDs, toD, loadA, storeA, subA, subD, updA, Eff.on, resA, resVs, resV, lk, finish, frzR, frzVs, frzV, fznR, fzns, fzn, lts, lt, ltO, List.all, pairsOk, indep, reduceCtorEq, Nat.reduceEqDiff, Nat.reduceAdd, Nat.reduceLeDiff, stb, thaws, List.drop, intOfA, binD, binI, unD, mmL, buildA, mkAgg, allD, bslD, behind, behind0, takeAt, frzAs, frzA, adoptR, adopt, isD, isD0, trim, List.take, binS, sliceA, bnd, zOk, elems, Nat.reduceBNe, inpl, Nat.reduceLT, Nat.reduceBEq, Nat.reduceSub, Nat.reduceMul, Int.reduceLT, Int.reduceLE, Int.reduceEq, Int.reduceToNat, Int.reduceNeg, thaw, nodup, refsV, adopts, Pk.TY_Opr, Pk.TY_Base, Pk.TY_Res]
      rw [if_pos hk]
  · simp (config := {decide := true}) only [c_objects_Read, isOp_at, h, Pk.EVL, keepT, enum, ↓reduceIte, ev, act, appT, callee, toDs, toD, loadA, storeA, subA, subD, updA, Eff.on, resA, resVs, resV, lk, finish, frzR, frzVs, frzV, fznR, fzns, fzn, lts, lt, ltO, List.all, pairsOk, indep, reduceCtorEq, Nat.reduceEqDiff, Nat.reduceAdd, Nat.reduceLeDiff, stb, thaws, List.drop, intOfA, binD, binI, unD, mmL, buildA, mkAgg, allD, bslD, behind, behind0, takeAt, frzAs, frzA, adoptR, adopt, isD, isD0, trim, List.take, binS, sliceA, bnd, zOk, elems, Nat.reduceBNe, inpl, Nat.reduceLT, Nat.reduceBEq, Nat.reduceSub, Nat.reduceMul, Int.reduceLT, Int.reduceLE, Int.reduceEq, Int.reduceToNat, Int.reduceNeg, thaw, nodup, refsV, adopts, Pk.TY_Opr, Pk.TY_Base, Pk.TY_Res]
end Go.Proofs.YtlihpaegaikoeaaDoor
