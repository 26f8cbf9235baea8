/- The document's Read; whether a base is too great to be looked at. -/
import Derived.Test.YtclambdgbphfkaaDoorObjE
import Derived.Test.YtclambdgbphfkaaDoorObjR
import Derived.Test.YtclambdgbphfkaaDoorPvSmall
set_option linter.all false
namespace Go.Proofs.YtclambdgbphfkaaDoor
open Pv Go Pk
set_option maxRecDepth 10000
set_option maxHeartbeats 1000000

theorem ba_assoc (a b c : ByteArray) : a ++ b ++ c = a ++ (b ++ c) := ba_list (by simp only [ba_append, List.append_assoc])
theorem addA_left (s : ByteArray) (k : Nat) (a : ByteArray) (h : a ≠ ⟨#[]⟩) : addA s k a = s ++ ⟨#[59]⟩ ++ fig k ++ ⟨#[61]⟩ ++ a := by
  unfold addA
  rw [if_neg h]
  simp only [ba_assoc]

theorem refRead_at (b : Base) (o : Opr) (hb : Base.fit b) (ho : o.ok) : evF C F_paddockref6_Read [.d (.agg b.cs), .d (.agg o.cs)] [] = some (.d (.agg (readO b o).cs), []) := by
  rw [evF_code (rfl : C F_paddockref6_Read = some a_paddockref6_Read) _ _ rfl]
  have hio := refIsOp_at o ho
  unfold readO
  rcases Bool.eq_false_or_eq_true (isOp o) with h | h
  · by_cases hk : o.kind = 5
    · have hk' : (o.kind != 5) = false := by simp [hk]
      obtain ⟨j, hj, hj', hj6⟩ : ∃ k : Nat, o.obj = (k : Int) ∧ k = o.obj.toNat ∧ k < 6 := by
        have := isOp_le h
        have := ho
        simp only [Opr.ok] at this
        exact ⟨o.obj.toNat, by omega, rfl, by omega⟩
      rw [← hj']
      have b3 : (0 ≤ (j : Int) ∧ (j : Int) < ((6 : Nat) : Int)) = True := by simp; omega
      have b4 : (j * 5 + 5 ≤ 39) = True := by simp; omega
      have hx := hb j hj6
      rcases Bool.eq_false_or_eq_true (b.objs.get j).there with ht | ht
      · simp (config := {decide := true}) only [c_paddockref6_Read, hio, h, hk, hk', hj, hj6, b3, b4, ht, Int.toNat_natCast, Pk.EVL, keepT, enum, ↓reduceIte, ev, act, appT, callee, toDs, toD, loadA, storeA, subA, subD, updA, Eff.on, resA, resVs, resV, lk, finish, frzR, frzVs, frzV, fznR, fzns, fzn, lts, lt, ltO, List.all, pairsOk, indep, reduceCtorEq, Nat.reduceEqDiff, Nat.reduceAdd, Nat.reduceLeDiff, stb, thaws, List.drop, intOfA, binD, binI, unD, mmL, buildA, mkAgg, allD, bslD, behind, behind0, takeAt, frzAs, frzA, adoptR, adopt, isD, isD0, trim, List.take, binS, sliceA, bnd, zOk, elems, Nat.reduceBNe, inpl, Nat.reduceLT, Nat.reduceBEq, Nat.reduceSub, Nat.reduceMul, Int.reduceLT, Int.reduceLE, Int.reduceEq, Int.reduceToNat, Int.reduceNeg, thaw, nodup, refsV, adopts, Pk.TY_Opr, Pk.TY_Base, Pk.TY_Res, Pk.TY_Objt]
        simp only [Option.bind_assoc]
        generalize b.objs.get j = x at *
        refine bind_run (loop_run (fun i T H => lk T 4 = .ptr 2 0 ∧ lk T 5 = .ptr 3 0 ∧ lk T 6 = .d (.s (textN x i)) ∧ lk T 7 = .d (.i .i64 (i : Nat)) ∧ ∃ J, H = .box (.d (.agg b.cs)) :: .box (.d (.agg o.cs)) :: .box (.d (.agg (Res.cs ⟨0, ⟨#[]⟩⟩))) :: .box (.d (.agg x.cs)) :: J) (fun e T H => e = .exit 0 ∧ lk T 4 = .ptr 2 0 ∧ lk T 6 = .d (.s (textN x 3)) ∧ H = [.box (.d (.agg b.cs)), .box (.d (.agg o.cs)), .box (.d (.agg (Res.cs ⟨0, ⟨#[]⟩⟩))), .box (.d (.agg x.cs))]) 3 ?_ ?_ 3 0 _ _ (by omega) ⟨rfl, rfl, rfl, rfl, _, rfl⟩) ?_
        · rintro i T H hi ⟨h4, h5, h6, h7, J, rfl⟩
          have hd : decide ((i : Int) < 3) = true := by simp; omega
          have hw : IntKind.i64.wrap ((i : Int) + 1) = ((i + 1 : Nat) : Int) := wi64 (by omega)
          have hb1 : (0 ≤ (i : Int) ∧ (i : Int) < ((3 : Nat) : Int)) = True := by simp; omega
          have hb2 : (2 + i + 1 ≤ 5) = True := by simp; omega
          have hle := textN_le hx i (by omega)
          have hal := hx.2 i hi
          by_cases ha : x.attr.get i = ⟨#[]⟩
          · have ha' : (!decide (x.attr.get i = ⟨#[]⟩)) = false := by simp [ha]
            have ht : textN x (i + 1) = textN x i := by show addA _ _ _ = _; rw [addA, if_pos ha]
            simp (config := {decide := true}) only [K_paddockref6_Read_0, l_paddockref6_Read_0, h4, h5, h6, h7, hd, hw, hb1, hb2, hi, ha, ha', Pk.EVL, keepT, enum, ↓reduceIte, ev, act, appT, callee, toDs, toD, loadA, storeA, subA, subD, updA, Eff.on, resA, resVs, resV, lk, finish, frzR, frzVs, frzV, fznR, fzns, fzn, lts, lt, ltO, List.all, pairsOk, indep, reduceCtorEq, Nat.reduceEqDiff, Nat.reduceAdd, Nat.reduceLeDiff, stb, thaws, List.drop, intOfA, binD, binI, unD, mmL, buildA, mkAgg, allD, bslD, behind, behind0, takeAt, frzAs, frzA, adoptR, adopt, isD, isD0, trim, List.take, binS, sliceA, bnd, zOk, elems, Nat.reduceBNe, inpl, Nat.reduceLT, Nat.reduceBEq, Nat.reduceSub, Nat.reduceMul, Int.reduceLT, Int.reduceLE, Int.reduceEq, Int.reduceToNat, Int.reduceNeg, thaw, nodup, refsV, adopts, Pk.TY_Objt, Pk.TY_Res]
            refine ⟨_, _, _, rfl, ?_⟩
            exact .inl ⟨rfl, rfl, rfl, by rw [ht]; rfl, rfl, _, rfl⟩
          · have ha' : (!decide (x.attr.get i = ⟨#[]⟩)) = true := by simp [ha]
            have ht : textN x (i + 1) = textN x i ++ ⟨#[59]⟩ ++ fig i ++ ⟨#[61]⟩ ++ x.attr.get i := by show addA _ _ _ = _; rw [addA_left _ _ _ ha]
            have w1 : IntKind.i64.wrap (48 + (i : Int)) = ((48 + i : Nat) : Int) := by rw [wi64 (by omega)]; omega
            have w2 : IntKind.u8.wrap ((48 + i : Nat) : Int) = ((48 + i : Nat) : Int) := wu8 (by omega)
            have hby : bytesOf [.i .u8 ((48 + i : Nat) : Int)] = some [UInt8.ofNat (48 + i)] := by simp only [bytesOf, Int.toNat_natCast]
            have hfg : (⟨[UInt8.ofNat (48 + i)].toArray⟩ : ByteArray) = fig i := rfl
            have l1 : ((textN x i).size + (ByteArray.mk #[59]).size ≤ LIM) = True := by simp [LIM]; show _ + 1 ≤ _; omega
            have l2 : ((textN x i ++ ByteArray.mk #[59]).size + (fig i).size ≤ LIM) = True := by simp [LIM, fig_size]; show _ + 1 ≤ _; omega
            have l3 : ((textN x i ++ ByteArray.mk #[59] ++ fig i).size + (ByteArray.mk #[61]).size ≤ LIM) = True := by simp [LIM, fig_size]; show _ + 1 + 1 + 1 ≤ _; omega
            have l4 : ((textN x i ++ ByteArray.mk #[59] ++ fig i ++ ByteArray.mk #[61]).size + (x.attr.get i).size ≤ LIM) = True := by simp [LIM, fig_size]; show _ + 1 + 1 + 1 + _ ≤ _; omega
            simp (config := {decide := true}) only [K_paddockref6_Read_0, l_paddockref6_Read_0, h4, h5, h6, h7, hd, hw, hb1, hb2, hi, ha, ha', w1, w2, hby, hfg, l1, l2, l3, l4, Pk.EVL, keepT, enum, ↓reduceIte, ev, act, appT, callee, toDs, toD, loadA, storeA, subA, subD, updA, Eff.on, resA, resVs, resV, lk, finish, frzR, frzVs, frzV, fznR, fzns, fzn, lts, lt, ltO, List.all, pairsOk, indep, reduceCtorEq, Nat.reduceEqDiff, Nat.reduceAdd, Nat.reduceLeDiff, stb, thaws, List.drop, intOfA, binD, binI, unD, mmL, buildA, mkAgg, allD, bslD, behind, behind0, takeAt, frzAs, frzA, adoptR, adopt, isD, isD0, trim, List.take, binS, sliceA, bnd, zOk, elems, Nat.reduceBNe, inpl, Nat.reduceLT, Nat.reduceBEq, Nat.reduceSub, Nat.reduceMul, Int.reduceLT, Int.reduceLE, Int.reduceEq, Int.reduceToNat, Int.reduceNeg, thaw, nodup, refsV, adopts, Pk.TY_Objt, Pk.TY_Res]
            refine ⟨_, _, _, rfl, ?_⟩
            exact .inl ⟨rfl, rfl, rfl, by rw [ht]; rfl, rfl, _, rfl⟩
        · rintro T H ⟨h4, h5, h6, h7, J, rfl⟩
          have hd : decide (((3 : Nat) : Int) < 3) = false := by simp
          simp (config := {decide := true}) only [K_paddockref6_Read_0, l_paddockref6_Read_0, h4, h5, h6, h7, hd, Pk.EVL, keepT, enum, ↓reduceIte, ev, act, appT, callee, toDs, toD, loadA, storeA, subA, subD, updA, Eff.on, resA, resVs, resV, lk, finish, frzR, frzVs, frzV, fznR, fzns, fzn, lts, lt, ltO, List.all, pairsOk, indep, reduceCtorEq, Nat.reduceEqDiff, Nat.reduceAdd, Nat.reduceLeDiff, stb, thaws, List.drop, intOfA, binD, binI, unD, mmL, buildA, mkAgg, allD, bslD, behind, behind0, takeAt, frzAs, frzA, adoptR, adopt, isD, isD0, trim, List.take, binS, sliceA, bnd, zOk, elems, Nat.reduceBNe, inpl, Nat.reduceLT, Nat.reduceBEq, Nat.reduceSub, Nat.reduceMul, Int.reduceLT, Int.reduceLE, Int.reduceEq, Int.reduceToNat, Int.reduceNeg, thaw, nodup, refsV, adopts, Pk.TY_Objt, Pk.TY_Res]
          refine ⟨_, _, _, rfl, ?_⟩
          exact ⟨by simp, rfl, rfl, rfl, rfl⟩
        · rintro e T H ⟨rfl, h4, h6, rfl⟩
          simp (config := {decide := true}) only [h4, h6, Pk.EVL, keepT, enum, ↓reduceIte, ev, act, appT, callee, toDs, toD, loadA, storeA, subA, subD, updA, Eff.on, resA, resVs, resV, lk, finish, frzR, frzVs, frzV, fznR, fzns, fzn, lts, lt, ltO, List.all, pairsOk, indep, reduceCtorEq, Nat.reduceEqDiff, Nat.reduceAdd, Nat.reduceLeDiff, stb, thaws, List.drop, intOfA, binD, binI, unD, mmL, buildA, mkAgg, allD, bslD, behind, behind0, takeAt, frzAs, frzA, adoptR, adopt, isD, isD0, trim, List.take, binS, sliceA, bnd, zOk, elems, Nat.reduceBNe, inpl, Nat.reduceLT, Nat.reduceBEq, Nat.reduceSub, Nat.reduceMul, Int.reduceLT, Int.reduceLE, Int.reduceEq, Int.reduceToNat, Int.reduceNeg, thaw, nodup, refsV, adopts, Pk.TY_Res]
      · simp (config := {decide := true}) only [c_paddockref6_Read, hio, h, hk, hk', hj, hj6, b3, b4, ht, Int.toNat_natCast, Pk.EVL, keepT, enum, ↓reduceIte, ev, act, appT, callee, toDs, toD, loadA, storeA, subA, subD, updA, Eff.on, resA, resVs, resV, lk, finish, frzR, frzVs, frzV, fznR, fzns, fzn, lts, lt, ltO, List.all, pairsOk, indep, reduceCtorEq, Nat.reduceEqDiff, Nat.reduceAdd, Nat.reduceLeDiff, stb, thaws, List.drop, intOfA, binD, binI, unD, mmL, buildA, mkAgg, allD, bslD, behind, behind0, takeAt, frzAs, frzA, adoptR, adopt, isD, isD0, trim, List.take, binS, sliceA, bnd, zOk, elems, Nat.reduceBNe, inpl, Nat.reduceLT, Nat.reduceBEq, Nat.reduceSub, Nat.reduceMul, Int.reduceLT, Int.reduceLE, Int.reduceEq, Int.reduceToNat, Int.reduceNeg, thaw, nodup, refsV, adopts, Pk.TY_Opr, Pk.TY_Base, Pk.TY_Res, Pk.TY_Objt]
    · have hk' : (o.kind != 5) = true := by simp [hk]
      simp (config := {decide := true}) only [c_paddockref6_Read, hio, h, hk, hk', Pk.EVL, keepT, enum, ↓reduceIte, ev, act, appT, callee, toDs, toD, loadA, storeA, subA, subD, updA, Eff.on, resA, resVs, resV, lk, finish, frzR, frzVs, frzV, fznR, fzns, fzn, lts, lt, ltO, List.all, pairsOk, indep, reduceCtorEq, Nat.reduceEqDiff, Nat.reduceAdd, Nat.reduceLeDiff, stb, thaws, List.drop, intOfA, binD, binI, unD, mmL, buildA, mkAgg, allD, bslD, behind, behind0, takeAt, frzAs, frzA, adoptR, adopt, isD, isD0, trim, List.take, binS, sliceA, bnd, zOk, elems, Nat.reduceBNe, inpl, Nat.reduceLT, Nat.reduceBEq, Nat.reduceSub, Nat.reduceMul, Int.reduceLT, Int.reduceLE, Int.reduceEq, Int.reduceToNat, Int.reduceNeg, thaw, nodup, refsV, adopts, Pk.TY_Opr, Pk.TY_Base, Pk.TY_Res]
      rw [if_pos hk]
  · simp (config := {decide := true}) only [c_paddockref6_Read, hio, h, Pk.EVL, keepT, enum, ↓reduceIte, ev, act, appT, callee, toDs, toD, loadA, storeA, subA, subD, updA, Eff.on, resA, resVs, resV, lk, finish, frzR, frzVs, frzV, fznR, fzns, fzn, lts, lt, ltO, List.all, pairsOk, indep, reduceCtorEq, Nat.reduceEqDiff, Nat.reduceAdd, Nat.reduceLeDiff, stb, thaws, List.drop, intOfA, binD, binI, unD, mmL, buildA, mkAgg, allD, bslD, behind, behind0, takeAt, frzAs, frzA, adoptR, adopt, isD, isD0, trim, List.take, binS, sliceA, bnd, zOk, elems, Nat.reduceBNe, inpl, Nat.reduceLT, Nat.reduceBEq, Nat.reduceSub, Nat.reduceMul, Int.reduceLT, Int.reduceLE, Int.reduceEq, Int.reduceToNat, Int.reduceNeg, thaw, nodup, refsV, adopts, Pk.TY_Opr, Pk.TY_Base, Pk.TY_Res]

/-- The strings' lengths of an object, added up as far as i attributes. -/
def wgt (x : Objt) : Nat → Nat
  | 0 => x.data.size
  | n + 1 => wgt x n + (x.attr.get n).size
def bigB (b : Base) : Bool := (List.range 6).any fun i => decide (wgt (b.objs.get i) 3 > 300)
theorem bigB_fit {b : Base} (h : bigB b = false) : Base.fit b := by
  intro i hi
  have h1 : ¬ wgt (b.objs.get i) 3 > 300 := by
    unfold bigB at h
    rw [List.any_eq_false] at h
    have := h i (by simp; omega)
    simpa using this
  simp only [wgt] at h1
  refine ⟨by omega, fun k hk => ?_⟩
  match k, hk with
  | 0, _ => omega
  | 1, _ => omega
  | 2, _ => omega
/-- No string of a base is longer than what an argument may be. -/
theorem small_get {B : Nat} {b : Base} (h : smallL B b.cs) : ∀ i < 6, (b.objs.get i).data.size ≤ B ∧ (b.objs.get i).attr.a0.size ≤ B ∧ (b.objs.get i).attr.a1.size ≤ B ∧ (b.objs.get i).attr.a2.size ≤ B
  | 0, _ => ⟨h _ (List.mem_of_getElem? (i := 1) rfl), h _ (List.mem_of_getElem? (i := 2) rfl), h _ (List.mem_of_getElem? (i := 3) rfl), h _ (List.mem_of_getElem? (i := 4) rfl)⟩
  | 1, _ => ⟨h _ (List.mem_of_getElem? (i := 6) rfl), h _ (List.mem_of_getElem? (i := 7) rfl), h _ (List.mem_of_getElem? (i := 8) rfl), h _ (List.mem_of_getElem? (i := 9) rfl)⟩
  | 2, _ => ⟨h _ (List.mem_of_getElem? (i := 11) rfl), h _ (List.mem_of_getElem? (i := 12) rfl), h _ (List.mem_of_getElem? (i := 13) rfl), h _ (List.mem_of_getElem? (i := 14) rfl)⟩
  | 3, _ => ⟨h _ (List.mem_of_getElem? (i := 16) rfl), h _ (List.mem_of_getElem? (i := 17) rfl), h _ (List.mem_of_getElem? (i := 18) rfl), h _ (List.mem_of_getElem? (i := 19) rfl)⟩
  | 4, _ => ⟨h _ (List.mem_of_getElem? (i := 21) rfl), h _ (List.mem_of_getElem? (i := 22) rfl), h _ (List.mem_of_getElem? (i := 23) rfl), h _ (List.mem_of_getElem? (i := 24) rfl)⟩
  | 5, _ => ⟨h _ (List.mem_of_getElem? (i := 26) rfl), h _ (List.mem_of_getElem? (i := 27) rfl), h _ (List.mem_of_getElem? (i := 28) rfl), h _ (List.mem_of_getElem? (i := 29) rfl)⟩
theorem wgt_le {B : Nat} {b : Base} (h : smallL B b.cs) {i : Nat} (hi : i < 6) : ∀ n ≤ 3, wgt (b.objs.get i) n ≤ B * (n + 1) := by
  obtain ⟨h1, h2, h3, h4⟩ := small_get h i hi
  intro n hn
  match n, hn with
  | 0, _ => simp only [wgt]; omega
  | 1, _ => simp only [wgt]; show _ + (b.objs.get i).attr.a0.size ≤ _; omega
  | 2, _ => simp only [wgt]; show _ + (b.objs.get i).attr.a0.size + (b.objs.get i).attr.a1.size ≤ _; omega
  | 3, _ => simp only [wgt]; show _ + (b.objs.get i).attr.a0.size + (b.objs.get i).attr.a1.size + (b.objs.get i).attr.a2.size ≤ _; omega
theorem bigB_false {b : Base} (h : ∀ i < 6, ¬ wgt (b.objs.get i) 3 > 300) : bigB b = false := by
  unfold bigB
  rw [List.any_eq_false]
  intro i hi
  have := h i (by simpa using hi)
  simpa using this
theorem bigB_true {b : Base} {i : Nat} (hi : i < 6) (h : wgt (b.objs.get i) 3 > 300) : bigB b = true := by
  unfold bigB
  rw [List.any_eq_true]
  exact ⟨i, by simpa using hi, by simpa using h⟩

theorem attr_read (b : Base) : ∀ i k : Nat, i < 6 → k < 3 → b.cs[i * 5 + 2 + k]? = some (.s ((b.objs.get i).attr.get k))
  | 0, 0, _, _ => rfl
  | 0, 1, _, _ => rfl
  | 0, 2, _, _ => rfl
  | 1, 0, _, _ => rfl
  | 1, 1, _, _ => rfl
  | 1, 2, _, _ => rfl
  | 2, 0, _, _ => rfl
  | 2, 1, _, _ => rfl
  | 2, 2, _, _ => rfl
  | 3, 0, _, _ => rfl
  | 3, 1, _, _ => rfl
  | 3, 2, _, _ => rfl
  | 4, 0, _, _ => rfl
  | 4, 1, _, _ => rfl
  | 4, 2, _, _ => rfl
  | 5, 0, _, _ => rfl
  | 5, 1, _, _ => rfl
  | 5, 2, _, _ => rfl
theorem big_at (b : Base) (hb : smallL reachBytes b.cs) : evF C F_paddocklaw6_big [.d (.agg b.cs)] [] = some (.d (.b (bigB b)), []) := by
  rw [evF_code (rfl : C F_paddocklaw6_big = some a_paddocklaw6_big) _ _ rfl]
  simp (config := {decide := true}) only [c_paddocklaw6_big, Pk.EVL, keepT, enum, ↓reduceIte, ev, act, appT, callee, toDs, toD, loadA, storeA, subA, subD, updA, Eff.on, resA, resVs, resV, lk, finish, frzR, frzVs, frzV, fznR, fzns, fzn, lts, lt, ltO, List.all, pairsOk, indep, reduceCtorEq, Nat.reduceEqDiff, Nat.reduceAdd, Nat.reduceLeDiff, stb, thaws, List.drop, intOfA, binD, binI, unD, mmL, buildA, mkAgg, allD, bslD, behind, behind0, takeAt, frzAs, frzA, adoptR, adopt, isD, isD0, trim, List.take, binS, sliceA, bnd, zOk, elems, Nat.reduceBNe, inpl, Nat.reduceLT, Nat.reduceBEq, Nat.reduceSub, Nat.reduceMul, Int.reduceLT, Int.reduceLE, Int.reduceEq, Int.reduceToNat, Int.reduceNeg, thaw, nodup, refsV, adopts, Pk.TY_Base]
  simp only [Option.bind_assoc]
  refine bind_run (loop_run (fun i T H => lk T 1 = .ptr 0 0 ∧ lk T 3 = .d (.i .i64 (i : Nat)) ∧ H = [.box (.d (.agg b.cs))] ∧ ∀ j < i, ¬ wgt (b.objs.get j) 3 > 300)
    (fun e T H => H = [.box (.d (.agg b.cs))] ∧ ((e = .ret ∧ bigB b = true ∧ lk T 2 = .d (.b true)) ∨ (e = .exit 0 ∧ bigB b = false))) 6 ?_ ?_ 6 0 _ _ (by omega) ⟨rfl, rfl, rfl, fun j hj => absurd hj (by omega)⟩) ?_
  · rintro i T H hi ⟨h1, h3, rfl, hall⟩
    have hd : decide ((i : Int) < 6) = true := by simp; omega
    have hw : IntKind.i64.wrap ((i : Int) + 1) = ((i + 1 : Nat) : Int) := wi64 (by omega)
    have b3 : (0 ≤ (i : Int) ∧ (i : Int) < ((6 : Nat) : Int)) = True := by simp; omega
    have b4 : (i * 5 + 1 + 1 ≤ 39) = True := by simp; omega
    have hok := wgt_le hb hi
    simp (config := {decide := true}) only [K_paddocklaw6_big_1, l_paddocklaw6_big_1, h1, h3, hd, hw, hi, b3, b4, Int.toNat_natCast, Pk.EVL, keepT, enum, ↓reduceIte, ev, act, appT, callee, toDs, toD, loadA, storeA, subA, subD, updA, Eff.on, resA, resVs, resV, lk, finish, frzR, frzVs, frzV, fznR, fzns, fzn, lts, lt, ltO, List.all, pairsOk, indep, reduceCtorEq, Nat.reduceEqDiff, Nat.reduceAdd, Nat.reduceLeDiff, stb, thaws, List.drop, intOfA, binD, binI, unD, mmL, buildA, mkAgg, allD, bslD, behind, behind0, takeAt, frzAs, frzA, adoptR, adopt, isD, isD0, trim, List.take, binS, sliceA, bnd, zOk, elems, Nat.reduceBNe, inpl, Nat.reduceLT, Nat.reduceBEq, Nat.reduceSub, Nat.reduceMul, Int.reduceLT, Int.reduceLE, Int.reduceEq, Int.reduceToNat, Int.reduceNeg, thaw, nodup, refsV, adopts, Pk.TY_Base, Pk.TY_Objt]
    simp only [Option.bind_assoc]
    obtain ⟨e1, T1, H1, hrun, hq⟩ := loop_run (C := C) (keep := K_paddocklaw6_big_0) (body := l_paddocklaw6_big_0) (n := 1)
      (fun k T H => lk T 1 = .ptr 0 0 ∧ lk T 3 = .d (.i .i64 (i : Nat)) ∧ lk T 4 = .d (.i .i64 ((wgt (b.objs.get i) k : Nat) : Int)) ∧ lk T 5 = .d (.i .i64 (k : Nat)) ∧ H = [.box (.d (.agg b.cs))])
      (fun e T H => e = .exit 2 ∧ lk T 1 = .ptr 0 0 ∧ lk T 3 = .d (.i .i64 (i : Nat)) ∧ lk T 4 = .d (.i .i64 ((wgt (b.objs.get i) 3 : Nat) : Int)) ∧ H = [.box (.d (.agg b.cs))]) 3
      (by
        rintro k T H hk ⟨h1, h3, h4, h5, rfl⟩
        have hd : decide ((k : Int) < 3) = true := by simp; omega
        have hw : IntKind.i64.wrap ((k : Int) + 1) = ((k + 1 : Nat) : Int) := wi64 (by omega)
        have c3 : (0 ≤ (k : Int) ∧ (k : Int) < ((3 : Nat) : Int)) = True := by simp; omega
        have c4 : (i * 5 + 2 + k + 1 ≤ 39) = True := by simp; omega
        have hsum := hok (k + 1) (by omega)
        have har := attr_read b i k hi hk
        have hml : reachBytes * (k + 1 + 1) ≤ reachBytes * 4 := Nat.mul_le_mul (Nat.le_refl _) (by omega)
        have hm4 : reachBytes * 4 < 9223372036854775807 := by decide
        have hw2 : IntKind.i64.wrap (((wgt (b.objs.get i) k : Nat) : Int) + (((b.objs.get i).attr.get k).size : Int)) = ((wgt (b.objs.get i) (k + 1) : Nat) : Int) := by
          have : wgt (b.objs.get i) (k + 1) = wgt (b.objs.get i) k + ((b.objs.get i).attr.get k).size := rfl
          rw [wi64 (by omega)]
          omega
        simp (config := {decide := true}) only [K_paddocklaw6_big_0, l_paddocklaw6_big_0, h1, h3, h4, h5, hd, hw, hw2, hk, hi, b3, c3, c4, har, Int.toNat_natCast, Pk.EVL, keepT, enum, ↓reduceIte, ev, act, appT, callee, toDs, toD, loadA, storeA, subA, subD, updA, Eff.on, resA, resVs, resV, lk, finish, frzR, frzVs, frzV, fznR, fzns, fzn, lts, lt, ltO, List.all, pairsOk, indep, reduceCtorEq, Nat.reduceEqDiff, Nat.reduceAdd, Nat.reduceLeDiff, stb, thaws, List.drop, intOfA, binD, binI, unD, mmL, buildA, mkAgg, allD, bslD, behind, behind0, takeAt, frzAs, frzA, adoptR, adopt, isD, isD0, trim, List.take, binS, sliceA, bnd, zOk, elems, Nat.reduceBNe, inpl, Nat.reduceLT, Nat.reduceBEq, Nat.reduceSub, Nat.reduceMul, Int.reduceLT, Int.reduceLE, Int.reduceEq, Int.reduceToNat, Int.reduceNeg, thaw, nodup, refsV, adopts, Pk.TY_Base, Pk.TY_Objt]
        refine ⟨_, _, _, rfl, ?_⟩
        exact .inl ⟨rfl, rfl, rfl, rfl, rfl, rfl⟩)
      (by
        rintro T H ⟨h1, h3, h4, h5, rfl⟩
        have hd : decide (((3 : Nat) : Int) < 3) = false := by simp
        simp (config := {decide := true}) only [K_paddocklaw6_big_0, l_paddocklaw6_big_0, h1, h3, h4, h5, hd, Pk.EVL, keepT, enum, ↓reduceIte, ev, act, appT, callee, toDs, toD, loadA, storeA, subA, subD, updA, Eff.on, resA, resVs, resV, lk, finish, frzR, frzVs, frzV, fznR, fzns, fzn, lts, lt, ltO, List.all, pairsOk, indep, reduceCtorEq, Nat.reduceEqDiff, Nat.reduceAdd, Nat.reduceLeDiff, stb, thaws, List.drop, intOfA, binD, binI, unD, mmL, buildA, mkAgg, allD, bslD, behind, behind0, takeAt, frzAs, frzA, adoptR, adopt, isD, isD0, trim, List.take, binS, sliceA, bnd, zOk, elems, Nat.reduceBNe, inpl, Nat.reduceLT, Nat.reduceBEq, Nat.reduceSub, Nat.reduceMul, Int.reduceLT, Int.reduceLE, Int.reduceEq, Int.reduceToNat, Int.reduceNeg, thaw, nodup, refsV, adopts, Pk.TY_Base]
        refine ⟨_, _, _, rfl, ?_⟩
        exact ⟨by simp, rfl, rfl, rfl, rfl, rfl⟩) 3 0 [(5, .d (.i .i64 0)), (1, .ptr 0 0), (3, .d (.i .i64 (i : Nat))), (4, .d (.i .i64 ((b.objs.get i).data.size : Nat)))] [.box (.d (.agg b.cs))] (by omega) ⟨rfl, rfl, rfl, rfl, rfl⟩
    obtain ⟨rfl, g1, g3, g4, rfl⟩ := hq
    rw [hrun]
    by_cases hb300 : wgt (b.objs.get i) 3 > 300
    · have hd2 : decide (((wgt (b.objs.get i) 3 : Nat) : Int) > 300) = true := by simp; omega
      have hbt := bigB_true hi hb300
      simp (config := {decide := true}) only [g1, g3, g4, hd2, Pk.EVL, keepT, enum, ↓reduceIte, ev, act, appT, callee, toDs, toD, loadA, storeA, subA, subD, updA, Eff.on, resA, resVs, resV, lk, finish, frzR, frzVs, frzV, fznR, fzns, fzn, lts, lt, ltO, List.all, pairsOk, indep, reduceCtorEq, Nat.reduceEqDiff, Nat.reduceAdd, Nat.reduceLeDiff, stb, thaws, List.drop, intOfA, binD, binI, unD, mmL, buildA, mkAgg, allD, bslD, behind, behind0, takeAt, frzAs, frzA, adoptR, adopt, isD, isD0, trim, List.take, binS, sliceA, bnd, zOk, elems, Nat.reduceBNe, inpl, Nat.reduceLT, Nat.reduceBEq, Nat.reduceSub, Nat.reduceMul, Int.reduceLT, Int.reduceLE, Int.reduceEq, Int.reduceToNat, Int.reduceNeg, thaw, nodup, refsV, adopts]
      exact ⟨_, _, _, rfl, .inr ⟨by simp, rfl, .inl ⟨rfl, hbt, rfl⟩⟩⟩
    · have hd2 : decide (((wgt (b.objs.get i) 3 : Nat) : Int) > 300) = false := by simp; omega
      simp (config := {decide := true}) only [g1, g3, g4, hd2, hw, Pk.EVL, keepT, enum, ↓reduceIte, ev, act, appT, callee, toDs, toD, loadA, storeA, subA, subD, updA, Eff.on, resA, resVs, resV, lk, finish, frzR, frzVs, frzV, fznR, fzns, fzn, lts, lt, ltO, List.all, pairsOk, indep, reduceCtorEq, Nat.reduceEqDiff, Nat.reduceAdd, Nat.reduceLeDiff, stb, thaws, List.drop, intOfA, binD, binI, unD, mmL, buildA, mkAgg, allD, bslD, behind, behind0, takeAt, frzAs, frzA, adoptR, adopt, isD, isD0, trim, List.take, binS, sliceA, bnd, zOk, elems, Nat.reduceBNe, inpl, Nat.reduceLT, Nat.reduceBEq, Nat.reduceSub, Nat.reduceMul, Int.reduceLT, Int.reduceLE, Int.reduceEq, Int.reduceToNat, Int.reduceNeg, thaw, nodup, refsV, adopts]
      refine ⟨_, _, _, rfl, .inl ⟨rfl, rfl, rfl, rfl, fun j hj => ?_⟩⟩
      rcases Nat.lt_succ_iff_lt_or_eq.1 hj with h | rfl
      · exact hall j h
      · exact hb300
  · rintro T H ⟨h1, h3, rfl, hall⟩
    have hd : decide (((6 : Nat) : Int) < 6) = false := by simp
    have hf := bigB_false hall
    simp (config := {decide := true}) only [K_paddocklaw6_big_1, l_paddocklaw6_big_1, h1, h3, hd, Pk.EVL, keepT, enum, ↓reduceIte, ev, act, appT, callee, toDs, toD, loadA, storeA, subA, subD, updA, Eff.on, resA, resVs, resV, lk, finish, frzR, frzVs, frzV, fznR, fzns, fzn, lts, lt, ltO, List.all, pairsOk, indep, reduceCtorEq, Nat.reduceEqDiff, Nat.reduceAdd, Nat.reduceLeDiff, stb, thaws, List.drop, intOfA, binD, binI, unD, mmL, buildA, mkAgg, allD, bslD, behind, behind0, takeAt, frzAs, frzA, adoptR, adopt, isD, isD0, trim, List.take, binS, sliceA, bnd, zOk, elems, Nat.reduceBNe, inpl, Nat.reduceLT, Nat.reduceBEq, Nat.reduceSub, Nat.reduceMul, Int.reduceLT, Int.reduceLE, Int.reduceEq, Int.reduceToNat, Int.reduceNeg, thaw, nodup, refsV, adopts, Pk.TY_Base]
    refine ⟨_, _, _, rfl, by simp, rfl, .inr ⟨rfl, hf⟩⟩
  · rintro e T H ⟨rfl, ⟨rfl, hb, h2⟩ | ⟨rfl, hb⟩⟩
    · simp (config := {decide := true}) only [h2, hb, Pk.EVL, keepT, enum, ↓reduceIte, ev, act, appT, callee, toDs, toD, loadA, storeA, subA, subD, updA, Eff.on, resA, resVs, resV, lk, finish, frzR, frzVs, frzV, fznR, fzns, fzn, lts, lt, ltO, List.all, pairsOk, indep, reduceCtorEq, Nat.reduceEqDiff, Nat.reduceAdd, Nat.reduceLeDiff, stb, thaws, List.drop, intOfA, binD, binI, unD, mmL, buildA, mkAgg, allD, bslD, behind, behind0, takeAt, frzAs, frzA, adoptR, adopt, isD, isD0, trim, List.take, binS, sliceA, bnd, zOk, elems, Nat.reduceBNe, inpl, Nat.reduceLT, Nat.reduceBEq, Nat.reduceSub, Nat.reduceMul, Int.reduceLT, Int.reduceLE, Int.reduceEq, Int.reduceToNat, Int.reduceNeg, thaw, nodup, refsV, adopts]
    · simp (config := {decide := true}) only [hb, Pk.EVL, keepT, enum, ↓reduceIte, ev, act, appT, callee, toDs, toD, loadA, storeA, subA, subD, updA, Eff.on, resA, resVs, resV, lk, finish, frzR, frzVs, frzV, fznR, fzns, fzn, lts, lt, ltO, List.all, pairsOk, indep, reduceCtorEq, Nat.reduceEqDiff, Nat.reduceAdd, Nat.reduceLeDiff, stb, thaws, List.drop, intOfA, binD, binI, unD, mmL, buildA, mkAgg, allD, bslD, behind, behind0, takeAt, frzAs, frzA, adoptR, adopt, isD, isD0, trim, List.take, binS, sliceA, bnd, zOk, elems, Nat.reduceBNe, inpl, Nat.reduceLT, Nat.reduceBEq, Nat.reduceSub, Nat.reduceMul, Int.reduceLT, Int.reduceLE, Int.reduceEq, Int.reduceToNat, Int.reduceNeg, thaw, nodup, refsV, adopts]
end Go.Proofs.YtclambdgbphfkaaDoor
