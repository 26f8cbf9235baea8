/- The law MergeRefuses. -/
import Derived.Test.YtfajplmkfpdhfaaMgL
set_option linter.all false
namespace Go.Proofs.Ytfajplmkfpdhfaa
open Pv Go Pk
set_option maxRecDepth 10000
set_option maxHeartbeats 2000000
def tailW (t : Entry) : State := ⟨0, Base.zero, t, []⟩
def mkF (k f : Int) (v : AV) (w : State) : List AV := .d (.i .i64 k) :: .d (.i .u32 f) :: v :: State.withV w .nilS
theorem mkF_t (t : Entry) : upd State.zeroA 40 (List.map AV.d t.cs) = State.withV (tailW t) .nilS := rfl
theorem mkF_t1 (w : State) : allD (State.withV w .nilS) = none := rfl
theorem mkF_1 (k f : Int) (w : State) : upd (upd (upd Diff.zeroA 0 [.d (.i .i64 k)]) 1 [.d (.i .u32 f)]) 3 (State.withV w .nilS) = mkF k f .nilS w := rfl
theorem mkF_2 (k f : Int) (v : AV) (w : State) : upd (upd (upd (upd Diff.zeroA 0 [.d (.i .i64 k)]) 1 [.d (.i .u32 f)]) 2 [v]) 3 (State.withV w .nilS) = mkF k f v w := rfl
theorem mkF_3 (k f : Int) : upd (upd Diff.zeroA 0 [.d (.i .i64 k)]) 1 [.d (.i .u32 f)] = mkF k f .nilS State.zero := rfl
theorem mkF_4 (k : Int) (w : State) : upd (upd Diff.zeroA 0 [.d (.i .i64 k)]) 3 (State.withV w .nilS) = mkF k 0 .nilS w := rfl
theorem mkF_l1 (x : AV) : (upd Diff.zeroA 0 [x]).length = 52 := rfl
theorem mkF_l3 (x y z : AV) : (upd (upd (upd Diff.zeroA 0 [x]) 1 [y]) 2 [z]).length = 52 := rfl
theorem mkF_l2 (k f : Int) (v : AV) (w : State) : (mkF k f v w).length = 52 := rfl
theorem mkF_s (k f : Int) (w : State) : upd (mkF k f .nilS State.zero) 3 (State.withV w .nilS) = mkF k f .nilS w := rfl
theorem mkF_v (k f : Int) (v : AV) : upd (mkF k f .nilS State.zero) 2 [v] = mkF k f v State.zero := rfl
theorem mkF_vs (k f : Int) (v : AV) (w : State) : upd (mkF k f v State.zero) 3 (State.withV w .nilS) = mkF k f v w := rfl
theorem mkF_n (k f : Int) (w : State) : allD (mkF k f .nilS w) = none := rfl
theorem mkF_nv (k f : Int) (o g z a l : Nat) (w : State) : allD (mkF k f (.view o g z a l) w) = none := rfl
theorem mkF_toDs (H : Heap) (k f : Int) (v : AV) (w : State) : toDs H (mkF k f v w) = (toD H v).map fun p => (.i .i64 k :: .i .u32 f :: p.1 :: (w.cs.take 48 ++ [.sl []]), p.2) := by
  unfold mkF
  simp only [toDs, toD, State.withV_toDs]
  cases toD H v <;> rfl
theorem mkF_h (t : Entry) : (State.cs (tailW t)).take 48 ++ [.sl []] = State.cs (tailW t) := rfl
theorem mkF_z : (State.cs State.zero).take 48 ++ [.sl []] = State.cs State.zero := rfl
theorem mkF_fold (k f : Int) (e : Entry) (w : State) : (DV.i .i64 k :: DV.i .u32 f :: DV.sl [.agg e.cs] :: w.cs : List DV) = Diff.cs ⟨k, f, [e], w⟩ := rfl
theorem mkF_lts (n : Nat) (k f : Int) (v : AV) (w : State) : lts n (mkF k f v w) = lt n v := by
  unfold mkF
  simp only [lts, lt, State.withV_lts, Bool.true_and, Bool.and_true]
theorem mkF_isD (k f : Int) (v : AV) (w : State) : (mkF k f v w).all isD0 = isD0 v := by
  unfold mkF
  simp only [List.all_cons, State.withV_isD]
  cases isD0 v <;> rfl
theorem tailW_t (t : Entry) : (tailW t).tail = t := rfl
theorem ref1 {E : List Entry} {k : Nat} (hE : goodE E) (hk : k ≤ E.length) (h6 : E.length - k ≤ 6) (x : Int) (hx : 0 ≤ x) :
    ((applyM (mkSt 1 E k) ⟨1, x, [], tailW (mkSt 1 E k).tail⟩).2 == 0) = (decide (x ≥ (k : Int)) && decide (x ≤ (E.length : Int))) := by
  have i1 := mk_is 1 hE hk h6 (by omega)
  unfold applyM
  rw [i1, form_1, if_pos (by rfl), if_neg (by show ¬ (1 : Int) = 2; decide)]
  have hcut := mk_cut 1 hE hk h6 (by omega) x
  by_cases c : (k : Int) ≤ x ∧ x ≤ (E.length : Int)
  · rw [if_pos c] at hcut
    have hmid : midM (mkSt 1 E k) ⟨1, x, [], tailW (mkSt 1 E k).tail⟩ = (mkSt 1 (E.take x.toNat) k, 0) := by
      unfold midM
      rw [if_pos rfl, hcut, if_pos rfl]
      rfl
    have hl : (E.take x.toNat).length = x.toNat := by rw [List.length_take]; omega
    have hts : tailS (mkSt 1 (E.take x.toNat) k) (k : Nat) = (mkSt 1 (E.take x.toNat) k, 0) := by
      rw [mk_tailS 1 (hE.take _) (by omega) (by omega) (by omega), if_neg (by omega), if_pos (by omega)]
      rw [show (k : Int).toNat = k by omega]
    have htn : (tailW (mkSt 1 E k).tail).tail.n = (k : Int) := mk_tail_n 1 hE hk
    have htt : (mkSt 1 (E.take x.toNat) k).tail = (mkSt 1 E k).tail := by
      show tailOf ((E.take x.toNat).take k) = tailOf (E.take k)
      rw [List.take_take, Nat.min_eq_left (by omega)]
    have i2 : isSt { mkSt 1 (E.take x.toNat) k with started := 0 } = true := mk_is 0 (hE.take _) (by omega) (by omega) (by omega)
    rw [hmid, if_pos rfl]
    simp only [htn, hts]
    rw [if_pos ⟨trivial, by rw [htt]; rfl, i2⟩]
    have d1 : decide (x ≥ (k : Int)) = true := by simp; omega
    have d2 : decide (x ≤ (E.length : Int)) = true := by simp; omega
    rw [d1, d2]
    rfl
  · rw [if_neg c] at hcut
    have hmid : midM (mkSt 1 E k) ⟨1, x, [], tailW (mkSt 1 E k).tail⟩ = (State.zero, 10) := by
      unfold midM
      rw [if_pos rfl, hcut, if_neg (by decide)]
    rw [hmid, if_neg (by decide)]
    by_cases d1 : (k : Int) ≤ x
    · have d2 : decide (x ≤ (E.length : Int)) = false := by simp; omega
      rw [d2, Bool.and_false]; rfl
    · have d2 : decide (x ≥ (k : Int)) = false := by simp; omega
      rw [d2, Bool.false_and]; rfl
theorem ref2 {E : List Entry} {k : Nat} (hE : goodE E) (hk : k ≤ E.length) (h6 : E.length - k ≤ 6) (hl : E.length < 1000) (o : Opr) (w : State) :
    applyM (mkSt 1 E k) ⟨1, (E.length : Int), [⟨40, ((E.length + 2 : Nat) : Int), o⟩], w⟩ = (State.zero, 80) := by
  have i1 := mk_is 1 hE hk h6 (by omega)
  unfold applyM
  rw [i1, form_1, if_pos (by rfl), if_neg (by show ¬ (1 : Int) = 2; decide)]
  have hcut := mk_cut 1 hE hk h6 (by omega) (E.length : Int)
  rw [if_pos (by omega), show (E.length : Int).toNat = E.length by omega, List.take_length] at hcut
  have hadd := mk_add 1 hE hk h6 (by omega) ⟨40, ((E.length + 2 : Nat) : Int), o⟩
  have hnx : nextE (lastOf E) ⟨40, ((E.length + 2 : Nat) : Int), o⟩ = false := by
    have h1 := hE.nums.2.1
    unfold nextE
    simp only
    rw [h1]
    have hw : IntKind.u32.wrap ((E.length : Int) + 1) = ((E.length + 1 : Nat) : Int) := by rw [show (E.length : Int) + 1 = ((E.length + 1 : Nat) : Int) by omega]; exact wu32 (by omega)
    rw [hw]
    have b1 : (((E.length + 2 : Nat) : Int) == ((E.length + 1 : Nat) : Int)) = false := by rw [beq_eq_false_iff_ne]; omega
    rw [b1]
    simp
  rw [hnx, if_neg (by simp)] at hadd
  have hmid : midM (mkSt 1 E k) ⟨1, (E.length : Int), [⟨40, ((E.length + 2 : Nat) : Int), o⟩], w⟩ = (State.zero, 10) := by
    unfold midM
    rw [if_pos rfl, hcut, if_pos rfl]
    simp only [addedM]
    rw [hadd, if_neg (by decide)]
  rw [hmid, if_neg (by decide)]
theorem ref3 {E : List Entry} {k : Nat} (hE : goodE E) (hk : k ≤ E.length) (h6 : E.length - k ≤ 6) (kind : Int) :
    applyM (mkSt 1 E k) ⟨kind, ((E.length + 1 : Nat) : Int), [], State.zero⟩ = (State.zero, 80) := by
  have i1 := mk_is 1 hE hk h6 (by omega)
  unfold applyM
  by_cases c : kind = 1
  · subst c
    rw [i1, form_1, if_pos (by rfl), if_neg (by show ¬ (1 : Int) = 2; decide)]
    have hcut := mk_cut 1 hE hk h6 (by omega) ((E.length + 1 : Nat) : Int)
    rw [if_neg (by omega)] at hcut
    have hmid : midM (mkSt 1 E k) ⟨1, ((E.length + 1 : Nat) : Int), [], State.zero⟩ = (State.zero, 10) := by
      unfold midM
      rw [if_pos rfl, hcut, if_neg (by decide)]
    rw [hmid, if_neg (by decide)]
  · have hf : formD ⟨kind, ((E.length + 1 : Nat) : Int), [], State.zero⟩ = false := by
      unfold formD
      have h1 : (kind != 1) = true := by simp [c]
      have h2 : (((E.length + 1 : Nat) : Int) != 0) = true := by simp; omega
      simp only [h1, h2]
      simp
    rw [hf, Bool.and_false, if_neg (by simp)]
theorem ref4 {E : List Entry} {k : Nat} (hE : goodE E) (hk : k ≤ E.length) (h6 : E.length - k ≤ 6) (o : Opr) :
    applyM (mkSt 1 E k) ⟨0, 0, [], tailW ⟨0, ((E.length + 1 : Nat) : Int), o⟩⟩ = (State.zero, 80) := by
  have i1 := mk_is 1 hE hk h6 (by omega)
  unfold applyM
  have hmid : midM (mkSt 1 E k) ⟨0, 0, [], tailW ⟨0, ((E.length + 1 : Nat) : Int), o⟩⟩ = (mkSt 1 E k, 0) := rfl
  have hts : tailS (mkSt 1 E k) ((E.length + 1 : Nat) : Int) = (State.zero, 141) := by
    rw [mk_tailS 1 hE hk h6 (by omega), if_neg (by omega), if_neg (by omega)]
  rw [i1, form_0, if_pos (by rfl), if_neg (by show ¬ (0 : Int) = 2; decide), hmid, if_pos rfl]
  simp only [tailW_t, hts]
  rw [if_neg (by simp)]
theorem refuses_law (l : List Opr) (hl : ∀ o ∈ l, o.ok) (o : Opr) (ho : o.ok) (x : Int) (hx : 0 ≤ x) (kind : Int) :
    evF C F_paddocklaw8_MergeRefuses [.d (.sl (l.map Opr.d)), .d (.agg o.cs), .d (.i .u32 x), .d (.i .i64 kind)] [] = some (.d (.b true), []) := by
  rw [evF_code (rfl : C F_paddocklaw8_MergeRefuses = some a_paddocklaw8_MergeRefuses) _ _ rfl]
  rcases Bool.eq_false_or_eq_true (decide (((l.length : Nat) : Int) > 20)) with q1 | q1
  · simp (config := {decide := true}) only [c_paddocklaw8_MergeRefuses, known8_at, q1, guardR_und, Pk.EVL, keepT, enum, ↓reduceIte, ev, act, appT, callee, toDs, toD, loadA, storeA, subA, subD, updA, Eff.on, resA, resVs, resV, lk, finish, frzR, frzVs, frzV, fznR, fzns, fzn, lts, lt, ltO, List.all, pairsOk, indep, reduceCtorEq, Nat.reduceEqDiff, Nat.reduceAdd, Nat.reduceLeDiff, stb, thaws, List.drop, intOfA, binD, binI, unD, mmL, buildA, mkAgg, allD, behind, behind0, takeAt, frzAs, frzA, adoptR, adopt, isD, isD0, trim, List.take, binS, sliceA, bnd, zOk, elems, Nat.reduceBNe, inpl, Nat.reduceLT, Nat.reduceBEq, Nat.reduceSub, Nat.reduceMul, Int.reduceLT, Int.reduceLE, Int.reduceEq, Int.reduceToNat, Int.reduceNeg, thaw, nodup, refsV, adopts, Pk.TY_State, Pk.TY_Opr]
  have l1 : l.length ≤ 20 := by have := of_decide_eq_false q1; omega
  have hnil : ∀ o ∈ ([] : List Opr), o.ok := by simp
  have s1 := state8_at l [] (by simp; omega) hl hnil 0 0 1 (by omega) (by omega) (by omega)
  have p1 := st8_is l [] hl hnil 0 0 1 (by omega)
  obtain ⟨E, k, hE, hk, h6, hll, hS⟩ : ∃ E k, goodE E ∧ k ≤ E.length ∧ E.length - k ≤ 6 ∧ E.length < 1000 ∧ st8 l [] 0 0 1 = mkSt 1 E k := by
    refine ⟨_, _, runE_good (ops8_ok _ hl hnil), ?_, ?_, ?_, by unfold st8; rw [jOf_0]; rfl⟩
    · omega
    · omega
    · exact Nat.lt_of_le_of_lt (runE_len _) (by rw [ops8_len]; simp; omega)
  rw [hS] at s1 p1
  clear hS
  have hh := head_at (mkSt 1 E k)
  rw [mk_head 1 hE hk h6 (by omega)] at hh
  have htn : (mkSt 1 E k).tail.n = (k : Int) := mk_tail_n 1 hE hk
  have r1 := ref1 hE hk h6 x hx
  have a1 := apply_at (mkSt 1 E k) ⟨1, x, [], tailW (mkSt 1 E k).tail⟩ p1.ok (by intro e he; simp at he) (fun _ => trivial) (by simp)
  have a2 := apply_at (mkSt 1 E k) ⟨1, (E.length : Int), [⟨40, ((E.length + 2 : Nat) : Int), o⟩], tailW (mkSt 1 E k).tail⟩ p1.ok (by intro e he; simp only [List.mem_singleton] at he; rw [he]; exact ho) (fun _ => trivial) (by simp)
  rw [ref2 hE hk h6 hll] at a2
  have a3 := apply_at (mkSt 1 E k) ⟨kind, ((E.length + 1 : Nat) : Int), [], State.zero⟩ p1.ok (by intro e he; simp at he) (fun _ => trivial) (by simp)
  rw [ref3 hE hk h6] at a3
  have a4 := apply_at (mkSt 1 E k) ⟨0, 0, [], tailW ⟨0, ((E.length + 1 : Nat) : Int), ⟨0, 0, 0, 0, 0, ⟨#[]⟩⟩⟩⟩ p1.ok (by intro e he; simp at he) (fun _ => trivial) (by simp)
  rw [ref4 hE hk h6] at a4
  have w1 : IntKind.u32.wrap ((E.length : Int) + 2) = ((E.length + 2 : Nat) : Int) := by rw [show (E.length : Int) + 2 = ((E.length + 2 : Nat) : Int) by omega]; exact wu32 (by omega)
  have w2 : IntKind.u32.wrap ((E.length : Int) + 1) = ((E.length + 1 : Nat) : Int) := by rw [show (E.length : Int) + 1 = ((E.length + 1 : Nat) : Int) by omega]; exact wu32 (by omega)
  simp only at a2 a3 a4
  clear hE hk h6 hl ho p1
  generalize applyM (mkSt 1 E k) ⟨1, x, [], tailW (mkSt 1 E k).tail⟩ = A at *
  obtain ⟨A1, A2⟩ := A
  simp only at a1 r1
  generalize (lastOf E).since = sn at *
  generalize mkSt 1 E k = s at *
  generalize E.length = n at *
  have en : (List.map Opr.d []) = [] := rfl
  rw [en] at s1
  have v8 : ((80 : Int) == 80) = true := by decide
  have eb : ∀ x : Bool, (x == x) = true := fun x => by simp
  have eqb : ∀ p q : Bool, eqV .sb (.b p) (.b q) = some (p == q) := fun p q => by simp only [eqV]
  have e1 : ([⟨40, ((n + 2 : Nat) : Int), o⟩] : List Entry).map Entry.d = [.agg (Entry.cs ⟨40, ((n + 2 : Nat) : Int), o⟩)] := rfl
  rcases Bool.eq_false_or_eq_true (decide (x ≥ (k : Int))) with d1 | d1
  · rcases Bool.eq_false_or_eq_true (decide (x ≤ (n : Int))) with d2 | d2 <;>
    · rw [d1, d2] at r1
      simp (config := {decide := true}) only [c_paddocklaw8_MergeRefuses, known8_at, q1, s1, hh, htn, a1, a2, a3, a4, w1, w2, r1, d1, d2, v8, eb, eqb, mkF_t, mkF_t1, mkF_1, mkF_2, mkF_3, mkF_4, mkF_l1, mkF_l2, mkF_l3, mkF_s, mkF_v, mkF_vs, mkF_n, mkF_nv, mkF_toDs, mkF_h, mkF_z, mkF_fold, mkF_lts, mkF_isD, mkD_fold0, elems, guardR_und, Pk.EVL, keepT, enum, ↓reduceIte, ev, act, appT, callee, toDs, toD, loadA, storeA, subA, subD, updA, Eff.on, resA, resVs, resV, lk, finish, frzR, frzVs, frzV, fznR, fzns, fzn, lts, lt, ltO, List.all, pairsOk, indep, reduceCtorEq, Nat.reduceEqDiff, Nat.reduceAdd, Nat.reduceLeDiff, stb, thaws, List.drop, intOfA, binD, binI, unD, mmL, buildA, mkAgg, allD, behind, behind0, takeAt, frzAs, frzA, adoptR, adopt, isD, isD0, trim, List.take, binS, sliceA, bnd, zOk, elems, Nat.reduceBNe, inpl, Nat.reduceLT, Nat.reduceBEq, Nat.reduceSub, Nat.reduceMul, Int.reduceLT, Int.reduceLE, Int.reduceEq, Int.reduceToNat, Int.reduceNeg, thaw, nodup, refsV, adopts, Pk.TY_State, Pk.TY_Diff, Pk.TY_Entry, Pk.TY_Opr]
  · rw [d1] at r1
    simp (config := {decide := true}) only [c_paddocklaw8_MergeRefuses, known8_at, q1, s1, hh, htn, a1, a2, a3, a4, w1, w2, r1, d1, v8, eb, eqb, mkF_t, mkF_t1, mkF_1, mkF_2, mkF_3, mkF_4, mkF_l1, mkF_l2, mkF_l3, mkF_s, mkF_v, mkF_vs, mkF_n, mkF_nv, mkF_toDs, mkF_h, mkF_z, mkF_fold, mkF_lts, mkF_isD, mkD_fold0, elems, guardR_und, Pk.EVL, keepT, enum, ↓reduceIte, ev, act, appT, callee, toDs, toD, loadA, storeA, subA, subD, updA, Eff.on, resA, resVs, resV, lk, finish, frzR, frzVs, frzV, fznR, fzns, fzn, lts, lt, ltO, List.all, pairsOk, indep, reduceCtorEq, Nat.reduceEqDiff, Nat.reduceAdd, Nat.reduceLeDiff, stb, thaws, List.drop, intOfA, binD, binI, unD, mmL, buildA, mkAgg, allD, behind, behind0, takeAt, frzAs, frzA, adoptR, adopt, isD, isD0, trim, List.take, binS, sliceA, bnd, zOk, elems, Nat.reduceBNe, inpl, Nat.reduceLT, Nat.reduceBEq, Nat.reduceSub, Nat.reduceMul, Int.reduceLT, Int.reduceLE, Int.reduceEq, Int.reduceToNat, Int.reduceNeg, thaw, nodup, refsV, adopts, Pk.TY_State, Pk.TY_Diff, Pk.TY_Entry, Pk.TY_Opr]
end Go.Proofs.Ytfajplmkfpdhfaa
