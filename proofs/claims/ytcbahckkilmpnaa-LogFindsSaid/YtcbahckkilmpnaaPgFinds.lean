/- The law LogFinds. -/
import Derived.Test.YtcbahckkilmpnaaPgRows
set_option linter.all false
namespace Go.Proofs.Ytcbahckkilmpnaa
open Pv Go Pk
set_option maxRecDepth 10000
set_option maxHeartbeats 2000000
theorem seen_iff {b : Base} {o : Opr} (hw : writes o = true) : (seen b o).2 = true ↔ o.seq ≤ (b.last.get (o.client - 1).toNat).seq := by
  unfold seen
  rw [if_neg (by rw [hw]; simp)]
  split
  · rename_i h; exact ⟨fun hh => by simp at hh, fun hh => absurd h (by omega)⟩
  · rename_i h
    split
    · exact ⟨fun _ => by omega, fun _ => rfl⟩
    · exact ⟨fun _ => by omega, fun _ => rfl⟩
theorem doOp_mono (b : Base) (o : Opr) (i : Nat) (hi : i < 3) : (b.last.get i).seq ≤ ((doOp b o).1.last.get i).seq := by
  rw [doOp_getL hi]
  split
  · rename_i h
    obtain ⟨hw, hs, rfl⟩ := h
    have : ¬ o.seq ≤ (b.last.get (o.client - 1).toNat).seq := fun hh => by rw [(seen_iff hw).2 hh] at hs; simp at hs
    show _ ≤ o.seq
    omega
  · exact Int.le_refl _
theorem allOps_mono (i : Nat) (hi : i < 3) : ∀ (l : List Opr) (b : Base), (b.last.get i).seq ≤ ((allOps b l).1.last.get i).seq
  | [], b => Int.le_refl _
  | o :: l, b => Int.le_trans (doOp_mono b o i hi) (allOps_mono i hi l _)
theorem seen_all {D : List Opr} {k : Nat} {o : Opr} (hk : D[k]? = some o) (hw : writes o = true) (b : Base) : (seen (allOps b D).1 o).2 = true := by
  have hd : D = D.take k ++ (o :: D.drop (k + 1)) := by
    obtain ⟨h1, h2⟩ := List.getElem?_eq_some_iff.1 hk
    rw [← h2, ← List.drop_eq_getElem_cons h1, List.take_append_drop]
  rw [hd, allOps_append]
  simp only [allOps]
  generalize (allOps b (D.take k)).1 = c
  rw [seen_iff hw]
  refine Int.le_trans ?_ (allOps_mono _ (cl_lt hw) (D.drop (k + 1)) _)
  have := seen_do (b := c) hw
  have h2 : (seen (doOp c o).1 o).2 = true := by rw [this]
  exact (seen_iff hw).1 h2
theorem finds_law (l : List Opr) (ho : ∀ o ∈ l, o.ok) (x : Int) (hx0 : 0 ≤ x ∧ x < 4294967296) : evF C F_paddocklaw7_LogFinds [.d (.sl (l.map Opr.d)), .d (.i .u32 x)] [] = some (.d (.b true), []) := by
  rw [evF_code (rfl : C F_paddocklaw7_LogFinds = some a_paddocklaw7_LogFinds) _ _ rfl]
  rcases Bool.eq_false_or_eq_true (decide (((l.length : Nat) : Int) > 40)) with cl | cl
  · simp (config := {decide := true}) only [c_paddocklaw7_LogFinds, known_at, cl, Pk.EVL, keepT, enum, ↓reduceIte, ev, act, appT, callee, toDs, toD, loadA, storeA, subA, subD, updA, Eff.on, resA, resVs, resV, lk, finish, frzR, frzVs, frzV, fznR, fzns, fzn, lts, lt, ltO, List.all, pairsOk, indep, reduceCtorEq, Nat.reduceEqDiff, Nat.reduceAdd, Nat.reduceLeDiff, stb, thaws, List.drop, intOfA, binD, binI, unD, mmL, buildA, mkAgg, allD, behind, behind0, takeAt, frzAs, frzA, adoptR, adopt, isD, isD0, trim, List.take, binS, sliceA, bnd, zOk, elems, Nat.reduceBNe, inpl, Nat.reduceLT, Nat.reduceBEq, Nat.reduceSub, Nat.reduceMul, Int.reduceLT, Int.reduceLE, Int.reduceEq, Int.reduceToNat, Int.reduceNeg, thaw, nodup, refsV, adopts, Pk.TY_State]
  have hl : l.length ≤ 40 := by have := of_decide_eq_false cl; omega
  have hrow := row_at l (by omega) ho 3 (by omega)
  rw [show Int.tmod 3 60 + 1 = 4 by decide] at hrow
  have f := rowF (S := 4) (by omega) (by omega : l.length ≤ 60) ho
  have hle : (rowE 4 l).length ≤ 40 := Nat.le_trans f.le hl
  have hg := f.good
  have hk : (rowE 4 l).length - 6 ≤ (rowE 4 l).length := by omega
  have hk6 : (rowE 4 l).length - ((rowE 4 l).length - 6) ≤ 6 := by omega
  have hfind := fun n : Int => find_at (rowS 4 l) n f.stok
  have hfs : ∀ n : Int, findS (rowS 4 l) n = if (((rowE 4 l).length - 6 : Nat) : Int) < n then (match (rowE 4 l)[(n - 1).toNat]? with | some e => (e, true) | none => (Entry.zero, false)) else (Entry.zero, false) := fun n => mk_find 0 hg hk hk6 (by omega) n
  have hfold := fold_at (rowS 4 l) f.stok.log
  have hb := baseOf_ops 4 l (rowE 4 l).length
  rw [List.take_length, f.len, List.take_length] at hb
  rw [f.fold, hb] at hfold
  have ht := f.tailn
  have hops := rowE_ops 4 l
  have hnum := hg.nums.1
  have hlen := f.len
  have hwD : ∀ o ∈ l.filter writes, writes o = true := fun o h => (List.mem_filter.1 h).2
  have hseen := fun (k : Nat) (o : Opr) (h : (l.filter writes)[k]? = some o) => seen_all h (hwD o (List.mem_of_getElem? h)) Base.zero
  have hz : Res.zero = (⟨0, ⟨#[]⟩⟩ : Res) := rfl
  clear f hb
  generalize rowE 4 l = E at *
  generalize rowS 4 l = s at *
  generalize l.filter writes = D at *
  generalize (allOps Base.zero D).1 = B at *
  simp (config := {decide := true}) only [c_paddocklaw7_LogFinds, known_at, cl, hrow, Pk.EVL, keepT, enum, ↓reduceIte, ev, act, appT, callee, toDs, toD, loadA, storeA, subA, subD, updA, Eff.on, resA, resVs, resV, lk, finish, frzR, frzVs, frzV, fznR, fzns, fzn, lts, lt, ltO, List.all, pairsOk, indep, reduceCtorEq, Nat.reduceEqDiff, Nat.reduceAdd, Nat.reduceLeDiff, stb, thaws, List.drop, intOfA, binD, binI, unD, mmL, buildA, mkAgg, allD, behind, behind0, takeAt, frzAs, frzA, adoptR, adopt, isD, isD0, trim, List.take, binS, sliceA, bnd, zOk, elems, Nat.reduceBNe, inpl, Nat.reduceLT, Nat.reduceBEq, Nat.reduceSub, Nat.reduceMul, Int.reduceLT, Int.reduceLE, Int.reduceEq, Int.reduceToNat, Int.reduceNeg, thaw, nodup, refsV, adopts, Pk.TY_State, Pk.TY_Opr]
  simp only [Option.bind_assoc]
  refine bind_run (loop_run (fun i T H => lk T 1 = .d (.i .u32 x) ∧ lk T 5 = .ptr 0 0 ∧ lk T 6 = .d (.sl (D.map Opr.d)) ∧ lk T 7 = .d (.i .i64 ((i + 1 : Nat) : Int)) ∧ ∃ J, H = .box (.d (.agg s.cs)) :: J)
    (fun e T H => e = .exit 0 ∧ lk T 1 = .d (.i .u32 x) ∧ lk T 5 = .ptr 0 0 ∧ lk T 6 = .d (.sl (D.map Opr.d)) ∧ H = [.box (.d (.agg s.cs))]) D.length ?_ ?_ D.length 0 _ _ (by omega) ⟨rfl, rfl, rfl, rfl, [], rfl⟩) ?_
  · rintro i T H hi ⟨h1, h5, h6, h7, J, rfl⟩
    obtain ⟨o, hio⟩ : ∃ o, D[i]? = some o := ⟨D[i]'hi, List.getElem?_eq_getElem _⟩
    obtain ⟨e, hie⟩ : ∃ e, E[i]? = some e := ⟨E[i]'(by omega), List.getElem?_eq_getElem _⟩
    have heo : e.op = o := by
      have : (E.map (·.op))[i]? = some e.op := by simp [hie]
      rw [hops, hio] at this
      simpa using this.symm
    have hen := hnum i e hie
    have hx := list_idx Opr.d hio
    have hsn := hseen i o hio
    have hsa := seen_at B o
    rw [hsn] at hsa
    have hd : decide (((i + 1 : Nat) : Int) ≤ ((D.length : Nat) : Int)) = true := by simp; omega
    have hw : IntKind.i64.wrap (((i + 1 : Nat) : Int) + 1) = ((i + 1 + 1 : Nat) : Int) := by rw [show ((i + 1 : Nat) : Int) + 1 = ((i + 1 + 1 : Nat) : Int) by omega]; exact wi64 (by omega)
    have hw1 : IntKind.u32.wrap ((i + 1 : Nat) : Int) = ((i + 1 : Nat) : Int) := wu32 (by omega)
    have hw2 : IntKind.i64.wrap (((i + 1 : Nat) : Int) - 1) = (i : Int) := by rw [show ((i + 1 : Nat) : Int) - 1 = (i : Int) by omega]; exact wi64 (by omega)
    have hw3 : IntKind.i64.wrap ((E.length - 6 : Nat) : Int) = ((E.length - 6 : Nat) : Int) := wi64 (by omega)
    have b0 : (0 ≤ (i : Int)) = True := by simp
    have hf := hfind ((i + 1 : Nat) : Int)
    rw [hfs, show (((i + 1 : Nat) : Int) - 1).toNat = i by omega, hie] at hf
    have eqb : ∀ p q : Bool, eqV .sb (.b p) (.b q) = some (p == q) := fun p q => by simp only [eqV]
    have e2 : ∀ x : Opr, decide (x = x) = true := fun x => by simp
    have bt : (true == true) = true := rfl
    have bf : (false == false) = true := rfl
    by_cases c : ((E.length - 6 : Nat) : Int) < ((i + 1 : Nat) : Int)
    · rw [if_pos c] at hf
      have hgt : decide (((i + 1 : Nat) : Int) > ((E.length - 6 : Nat) : Int)) = true := by simp; omega
      have hne : (((i + 1 : Nat) : Int) != ((i + 1 : Nat) : Int)) = false := by simp
      have hnn : e.n = ((i + 1 : Nat) : Int) := by omega
      simp only at hf
      simp (config := {decide := true}) only [K_paddocklaw7_LogFinds_0, l_paddocklaw7_LogFinds_0, h1, h5, h6, h7, hd, hw, hw1, hw2, hw3, b0, hf, ht, hgt, eqb, bt, heo, hnn, hx, e2, hne, hfold, hsa, guardR_und, Bool.not_true, Pk.EVL, keepT, enum, ↓reduceIte, ev, act, appT, callee, toDs, toD, loadA, storeA, subA, subD, updA, Eff.on, resA, resVs, resV, lk, finish, frzR, frzVs, frzV, fznR, fzns, fzn, lts, lt, ltO, List.all, pairsOk, indep, reduceCtorEq, Nat.reduceEqDiff, Nat.reduceAdd, Nat.reduceLeDiff, stb, thaws, List.drop, intOfA, binD, binI, unD, mmL, buildA, mkAgg, allD, behind, behind0, takeAt, frzAs, frzA, adoptR, adopt, isD, isD0, trim, List.take, binS, sliceA, bnd, zOk, elems, Nat.reduceBNe, inpl, Nat.reduceLT, Nat.reduceBEq, Nat.reduceSub, Nat.reduceMul, Int.reduceLT, Int.reduceLE, Int.reduceEq, Int.reduceToNat, Int.reduceNeg, thaw, nodup, refsV, adopts, Pk.TY_State, Pk.TY_Entry, Pk.TY_Opr, Pk.TY_Res, Pk.TY_Base]
      refine ⟨_, _, _, rfl, ?_⟩
      exact .inl ⟨rfl, rfl, rfl, rfl, rfl, _, rfl⟩
    · rw [if_neg c] at hf
      have hgt : decide (((i + 1 : Nat) : Int) > ((E.length - 6 : Nat) : Int)) = false := by simp; omega
      simp only at hf
      simp (config := {decide := true}) only [K_paddocklaw7_LogFinds_0, l_paddocklaw7_LogFinds_0, h1, h5, h6, h7, hd, hw, hw1, hw2, hw3, b0, hf, ht, hgt, eqb, bf, hx, hfold, hsa, guardR_und, Bool.not_true, Pk.EVL, keepT, enum, ↓reduceIte, ev, act, appT, callee, toDs, toD, loadA, storeA, subA, subD, updA, Eff.on, resA, resVs, resV, lk, finish, frzR, frzVs, frzV, fznR, fzns, fzn, lts, lt, ltO, List.all, pairsOk, indep, reduceCtorEq, Nat.reduceEqDiff, Nat.reduceAdd, Nat.reduceLeDiff, stb, thaws, List.drop, intOfA, binD, binI, unD, mmL, buildA, mkAgg, allD, behind, behind0, takeAt, frzAs, frzA, adoptR, adopt, isD, isD0, trim, List.take, binS, sliceA, bnd, zOk, elems, Nat.reduceBNe, inpl, Nat.reduceLT, Nat.reduceBEq, Nat.reduceSub, Nat.reduceMul, Int.reduceLT, Int.reduceLE, Int.reduceEq, Int.reduceToNat, Int.reduceNeg, thaw, nodup, refsV, adopts, Pk.TY_State, Pk.TY_Entry, Pk.TY_Opr, Pk.TY_Res, Pk.TY_Base]
      refine ⟨_, _, _, rfl, ?_⟩
      exact .inl ⟨rfl, rfl, rfl, rfl, rfl, _, rfl⟩
  · rintro T H ⟨h1, h5, h6, h7, J, rfl⟩
    have hd : decide (((D.length + 1 : Nat) : Int) ≤ ((D.length : Nat) : Int)) = false := by simp; omega
    simp (config := {decide := true}) only [K_paddocklaw7_LogFinds_0, l_paddocklaw7_LogFinds_0, h1, h5, h6, h7, hd, Pk.EVL, keepT, enum, ↓reduceIte, ev, act, appT, callee, toDs, toD, loadA, storeA, subA, subD, updA, Eff.on, resA, resVs, resV, lk, finish, frzR, frzVs, frzV, fznR, fzns, fzn, lts, lt, ltO, List.all, pairsOk, indep, reduceCtorEq, Nat.reduceEqDiff, Nat.reduceAdd, Nat.reduceLeDiff, stb, thaws, List.drop, intOfA, binD, binI, unD, mmL, buildA, mkAgg, allD, behind, behind0, takeAt, frzAs, frzA, adoptR, adopt, isD, isD0, trim, List.take, binS, sliceA, bnd, zOk, elems, Nat.reduceBNe, inpl, Nat.reduceLT, Nat.reduceBEq, Nat.reduceSub, Nat.reduceMul, Int.reduceLT, Int.reduceLE, Int.reduceEq, Int.reduceToNat, Int.reduceNeg, thaw, nodup, refsV, adopts, Pk.TY_State, Pk.TY_Opr]
    refine ⟨_, _, _, rfl, ?_⟩
    exact ⟨by simp, rfl, rfl, rfl, rfl, rfl⟩
  rintro e T H ⟨rfl, h1, h5, h6, rfl⟩
  have hw1 : IntKind.u32.wrap ((D.length : Nat) : Int) = ((D.length : Nat) : Int) := wu32 (by omega)
  have hw2 : IntKind.u32.wrap (((D.length : Nat) : Int) + 1) = ((D.length + 1 : Nat) : Int) := by rw [show ((D.length : Nat) : Int) + 1 = ((D.length + 1 : Nat) : Int) by omega]; exact wu32 (by omega)
  have hm : 0 ≤ x.tmod 100 ∧ x.tmod 100 < 100 := by rw [Int.tmod_eq_emod_of_nonneg hx0.1]; omega
  have hw3 : IntKind.u32.wrap (((D.length + 1 : Nat) : Int) + x.tmod 100) = ((D.length + 1 : Nat) : Int) + x.tmod 100 := by
    generalize x.tmod 100 = y at *
    unfold IntKind.wrap; simp [IntKind.signed, IntKind.bits]; omega
  have hf := hfind (((D.length + 1 : Nat) : Int) + x.tmod 100)
  rw [hfs, List.getElem?_eq_none (by omega)] at hf
  simp only [ite_self] at hf
  simp (config := {decide := true}) only [h1, h5, h6, hw1, hw2, hw3, hf, Pk.EVL, keepT, enum, ↓reduceIte, ev, act, appT, callee, toDs, toD, loadA, storeA, subA, subD, updA, Eff.on, resA, resVs, resV, lk, finish, frzR, frzVs, frzV, fznR, fzns, fzn, lts, lt, ltO, List.all, pairsOk, indep, reduceCtorEq, Nat.reduceEqDiff, Nat.reduceAdd, Nat.reduceLeDiff, stb, thaws, List.drop, intOfA, binD, binI, unD, mmL, buildA, mkAgg, allD, behind, behind0, takeAt, frzAs, frzA, adoptR, adopt, isD, isD0, trim, List.take, binS, sliceA, bnd, zOk, elems, Nat.reduceBNe, inpl, Nat.reduceLT, Nat.reduceBEq, Nat.reduceSub, Nat.reduceMul, Int.reduceLT, Int.reduceLE, Int.reduceEq, Int.reduceToNat, Int.reduceNeg, thaw, nodup, refsV, adopts, Pk.TY_State, Pk.TY_Entry]
end Go.Proofs.Ytcbahckkilmpnaa
