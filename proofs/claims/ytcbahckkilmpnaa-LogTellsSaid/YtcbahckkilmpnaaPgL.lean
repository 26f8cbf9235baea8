/- The laws' own functions: known, row. -/
import Derived.Test.YtcbahckkilmpnaaPgE
set_option linter.all false
namespace Go.Proofs.Ytcbahckkilmpnaa
open Pv Go Pk
set_option maxRecDepth 10000
set_option maxHeartbeats 2000000
theorem wu32 {n : Nat} (h : n < 4294967296) : IntKind.u32.wrap (n : Int) = (n : Int) := by unfold IntKind.wrap; simp [IntKind.signed, IntKind.bits]; omega
/-- What a variable of a state's kind holds. -/
def stV (s : State) (z : AV) : Prop := z = .d (.agg s.cs) ∨ (z = .agg State.zeroA ∧ s = State.zero)
theorem mk_zero : mkSt 0 [] 0 = State.zero := rfl

def ke (i : Nat) : Entry := ⟨1, ((i + 1 : Nat) : Int), ⟨1, ((i + 1 : Nat) : Int), 1, 0, 0, ⟨#[97]⟩⟩⟩
def kE (n : Nat) : List Entry := (List.range n).map ke
theorem kE_succ (n : Nat) : kE (n + 1) = kE n ++ [ke n] := by unfold kE; rw [List.range_succ, List.map_append]; rfl
theorem kE_len (n : Nat) : (kE n).length = n := by simp [kE]
theorem ke_ok {i : Nat} (h : i < 100) : (ke i).op.ok := by
  have h1 : (⟨#[97]⟩ : ByteArray).size ≤ maxLen := by decide
  have h2 : (0 : Int) ≤ ((i + 1 : Nat) : Int) ∧ ((i + 1 : Nat) : Int) < 4294967296 := by omega
  have h3 : (0 : Int) ≤ 1 ∧ (1 : Int) < 256 := by decide
  have h4 : (0 : Int) ≤ 0 ∧ (0 : Int) < 256 := by decide
  exact ⟨h3, h2, h3, h4, h4, h1⟩
theorem kE_next : ∀ i < 7, nextE (lastOf (kE i)) (ke i) = true := by decide
theorem kE_good : ∀ i, i ≤ 7 → goodE (kE i)
  | 0, _ => goodE_nil
  | i + 1, h => by rw [kE_succ]; exact (kE_good i (by omega)).snoc (kE_next i (by omega)) (ke_ok (by omega))
theorem kE_add (i : Nat) (h : i < 7) : addS (mkSt 0 (kE i) (i - 6)) (ke i) = (mkSt 0 (kE (i + 1)) (i + 1 - 6), 0) := by
  rw [mk_add 0 (kE_good i (by omega)) (by rw [kE_len]; omega) (by rw [kE_len]; omega) (by omega), kE_next i h, if_pos rfl, kE_len, ← kE_succ]
  congr 2
  omega
theorem kE_data : ((baseOf (kE 7)).objs.get 0).data = ⟨#[97]⟩ := by decide +kernel
theorem known_at : evF C F_paddocklaw7_known [] [] = some (.d (.b true), []) := by
  rw [evF_code (rfl : C F_paddocklaw7_known = some a_paddocklaw7_known) _ _ rfl]
  simp (config := {decide := true}) only [c_paddocklaw7_known, Pk.EVL, keepT, enum, ↓reduceIte, ev, act, appT, callee, toDs, toD, loadA, storeA, subA, subD, updA, Eff.on, resA, resVs, resV, lk, finish, frzR, frzVs, frzV, fznR, fzns, fzn, lts, lt, ltO, List.all, pairsOk, indep, reduceCtorEq, Nat.reduceEqDiff, Nat.reduceAdd, Nat.reduceLeDiff, stb, thaws, List.drop, intOfA, binD, binI, unD, mmL, buildA, mkAgg, allD, behind, behind0, takeAt, frzAs, frzA, adoptR, adopt, isD, isD0, trim, List.take, binS, sliceA, bnd, zOk, elems, Nat.reduceBNe, inpl, Nat.reduceLT, Nat.reduceBEq, Nat.reduceSub, Nat.reduceMul, Int.reduceLT, Int.reduceLE, Int.reduceEq, Int.reduceToNat, Int.reduceNeg, thaw, nodup, refsV, adopts, Pk.TY_State]
  simp only [Option.bind_assoc]
  refine bind_run (loop_run (fun i T H => lk T 1 = .ptr 0 0 ∧ lk T 2 = .d (.i .u32 ((i + 1 : Nat) : Int)) ∧ ∃ z J, H = .box z :: J ∧ stV (mkSt 0 (kE i) (i - 6)) z)
    (fun e T H => e = .exit 0 ∧ lk T 1 = .ptr 0 0 ∧ H = [.box (.d (.agg (mkSt 0 (kE 7) 1).cs))]) 7 ?_ ?_ 7 0 _ _ (by omega) ⟨rfl, rfl, _, [], rfl, .inr ⟨rfl, rfl⟩⟩) ?_
  · rintro i T H hi ⟨h1, h2, z, J, rfl, hz⟩
    have hd : decide (((i + 1 : Nat) : Int) ≤ 7) = true := by simp; omega
    have hw : IntKind.u32.wrap (((i + 1 : Nat) : Int) + 1) = ((i + 1 + 1 : Nat) : Int) := by rw [show ((i + 1 : Nat) : Int) + 1 = ((i + 1 + 1 : Nat) : Int) by omega]; exact wu32 (by omega)
    have hok : okLog (mkSt 0 (kE i) (i - 6)) := (mk_ok 0 (kE_good i (by omega)) (by rw [kE_len]; omega)).log
    have ha := add_at _ (ke i) hok (ke_ok (by omega))
    rw [kE_add i hi] at ha
    have hke : Entry.cs ⟨1, ((i + 1 : Nat) : Int), ⟨1, ((i + 1 : Nat) : Int), 1, 0, 0, ⟨#[97]⟩⟩⟩ = (ke i).cs := rfl
    have ne0 : ((0 : Int) != 0) = false := by decide
    rcases hz with rfl | ⟨rfl, hz⟩
    · generalize mkSt 0 (kE i) (i - 6) = s at *
      generalize mkSt 0 (kE (i + 1)) (i + 1 - 6) = s' at *
      simp (config := {decide := true}) only [K_paddocklaw7_known_0, l_paddocklaw7_known_0, h1, h2, hd, hw, hke, ha, ne0, Pk.EVL, keepT, enum, ↓reduceIte, ev, act, appT, callee, toDs, toD, loadA, storeA, subA, subD, updA, Eff.on, resA, resVs, resV, lk, finish, frzR, frzVs, frzV, fznR, fzns, fzn, lts, lt, ltO, List.all, pairsOk, indep, reduceCtorEq, Nat.reduceEqDiff, Nat.reduceAdd, Nat.reduceLeDiff, stb, thaws, List.drop, intOfA, binD, binI, unD, mmL, buildA, mkAgg, allD, behind, behind0, takeAt, frzAs, frzA, adoptR, adopt, isD, isD0, trim, List.take, binS, sliceA, bnd, zOk, elems, Nat.reduceBNe, inpl, Nat.reduceLT, Nat.reduceBEq, Nat.reduceSub, Nat.reduceMul, Int.reduceLT, Int.reduceLE, Int.reduceEq, Int.reduceToNat, Int.reduceNeg, thaw, nodup, refsV, adopts, Pk.TY_State, Pk.TY_Entry, Pk.TY_Opr]
      refine ⟨_, _, _, rfl, ?_⟩
      exact .inl ⟨rfl, rfl, rfl, _, _, rfl, .inl rfl⟩
    · rw [hz] at ha
      generalize mkSt 0 (kE i) (i - 6) = s at *
      generalize mkSt 0 (kE (i + 1)) (i + 1 - 6) = s' at *
      simp (config := {decide := true}) only [K_paddocklaw7_known_0, l_paddocklaw7_known_0, h1, h2, hd, hw, hke, ha, ne0, Pk.EVL, keepT, enum, ↓reduceIte, ev, act, appT, callee, toDs, toD, loadA, storeA, subA, subD, updA, Eff.on, resA, resVs, resV, lk, finish, frzR, frzVs, frzV, fznR, fzns, fzn, lts, lt, ltO, List.all, pairsOk, indep, reduceCtorEq, Nat.reduceEqDiff, Nat.reduceAdd, Nat.reduceLeDiff, stb, thaws, List.drop, intOfA, binD, binI, unD, mmL, buildA, mkAgg, allD, behind, behind0, takeAt, frzAs, frzA, adoptR, adopt, isD, isD0, trim, List.take, binS, sliceA, bnd, zOk, elems, Nat.reduceBNe, inpl, Nat.reduceLT, Nat.reduceBEq, Nat.reduceSub, Nat.reduceMul, Int.reduceLT, Int.reduceLE, Int.reduceEq, Int.reduceToNat, Int.reduceNeg, thaw, nodup, refsV, adopts, Pk.TY_State, Pk.TY_Entry, Pk.TY_Opr]
      refine ⟨_, _, _, rfl, ?_⟩
      exact .inl ⟨rfl, rfl, rfl, _, _, rfl, .inl rfl⟩
  · rintro T H ⟨h1, h2, z, J, rfl, hz⟩
    rcases hz with rfl | ⟨rfl, hz⟩
    · rw [show (7 - 6 : Nat) = 1 by decide]
      generalize mkSt 0 (kE 7) 1 = s at *
      simp (config := {decide := true}) only [K_paddocklaw7_known_0, l_paddocklaw7_known_0, h1, h2, Pk.EVL, keepT, enum, ↓reduceIte, ev, act, appT, callee, toDs, toD, loadA, storeA, subA, subD, updA, Eff.on, resA, resVs, resV, lk, finish, frzR, frzVs, frzV, fznR, fzns, fzn, lts, lt, ltO, List.all, pairsOk, indep, reduceCtorEq, Nat.reduceEqDiff, Nat.reduceAdd, Nat.reduceLeDiff, stb, thaws, List.drop, intOfA, binD, binI, unD, mmL, buildA, mkAgg, allD, behind, behind0, takeAt, frzAs, frzA, adoptR, adopt, isD, isD0, trim, List.take, binS, sliceA, bnd, zOk, elems, Nat.reduceBNe, inpl, Nat.reduceLT, Nat.reduceBEq, Nat.reduceSub, Nat.reduceMul, Int.reduceLT, Int.reduceLE, Int.reduceEq, Int.reduceToNat, Int.reduceNeg, thaw, nodup, refsV, adopts, Pk.TY_State]
      refine ⟨_, _, _, rfl, ?_⟩
      exact ⟨by simp, rfl, rfl, rfl⟩
    · exact absurd (congrArg (fun s => s.tail.n) hz) (by decide)
  rintro e T H ⟨rfl, h1, rfl⟩
  have hg := kE_good 7 (by omega)
  have hok := mk_ok 0 hg (k := 1) (by rw [kE_len]; omega)
  have ha := add_at (mkSt 0 (kE 7) 1) ⟨1, 9, ⟨1, 9, 4, 0, 0, ⟨#[]⟩⟩⟩ hok.log (by unfold Opr.ok; refine ⟨by decide, by decide, by decide, by decide, by decide, by decide⟩)
  rw [mk_add 0 hg (by rw [kE_len]; omega) (by rw [kE_len]; omega) (by omega), show nextE (lastOf (kE 7)) ⟨1, 9, ⟨1, 9, 4, 0, 0, ⟨#[]⟩⟩⟩ = false by decide, if_neg (by simp)] at ha
  have hh := head_at (mkSt 0 (kE 7) 1)
  rw [mk_head 0 hg (by rw [kE_len]; omega) (by rw [kE_len]; omega) (by omega)] at hh
  have hh2 : ((lastOf (kE 7)).since, ((kE 7).length : Int)) = (1, 7) := by decide
  rw [hh2] at hh
  have hi := is_st (mkSt 0 (kE 7) 1)
  rw [mk_is 0 hg (by rw [kE_len]; omega) (by rw [kE_len]; omega) (by omega)] at hi
  have hf := fold_at (mkSt 0 (kE 7) 1) hok.log
  rw [mk_fold 0 hg (by rw [kE_len]; omega) (by rw [kE_len]; omega) (by omega)] at hf
  have hl : (mkSt 0 (kE 7) 1).log.length = 6 := by decide
  have ht : (mkSt 0 (kE 7) 1).tail.n = 1 := by decide
  have hdt := kE_data
  have hdd : ((baseOf (kE 7)).objs.a0).data = ⟨#[97]⟩ := hdt
  have hs0 : ∀ r : R6 Objt, subL (R6.cs Objt.cs r) 0 5 = r.a0.cs := fun r => rfl
  generalize mkSt 0 (kE 7) 1 = s at *
  generalize baseOf (kE 7) = b at *
  have e6 : (((6 : Nat) : Int) == 6) = true := by decide
  have e1 : ((1 : Int) == 1) = true := by decide
  have e7 : ((7 : Int) == 7) = true := by decide
  have e10 : ((10 : Int) == 10) = true := by decide
  have i0 : ((0 : Int) < ((6 : Nat) : Int)) = True := by simp
  simp (config := {decide := true}) only [h1, ha, hh, hi, hf, hl, ht, hdt, hdd, hs0, e6, e1, e7, e10, i0, guardR_und, Pk.EVL, keepT, enum, ↓reduceIte, ev, act, appT, callee, toDs, toD, loadA, storeA, subA, subD, updA, Eff.on, resA, resVs, resV, lk, finish, frzR, frzVs, frzV, fznR, fzns, fzn, lts, lt, ltO, List.all, pairsOk, indep, reduceCtorEq, Nat.reduceEqDiff, Nat.reduceAdd, Nat.reduceLeDiff, stb, thaws, List.drop, intOfA, binD, binI, unD, mmL, buildA, mkAgg, allD, behind, behind0, takeAt, frzAs, frzA, adoptR, adopt, isD, isD0, trim, List.take, binS, sliceA, bnd, zOk, elems, Nat.reduceBNe, inpl, Nat.reduceLT, Nat.reduceBEq, Nat.reduceSub, Nat.reduceMul, Int.reduceLT, Int.reduceLE, Int.reduceEq, Int.reduceToNat, Int.reduceNeg, thaw, nodup, refsV, adopts, Pk.TY_State, Pk.TY_Base, Pk.TY_Objt, Pk.TY_Entry, Pk.TY_Opr]

/-! rows of operations -/
def rowE (S : Int) (l : List Opr) : List Entry := l.foldl (fun E o => if writes o = true then E ++ [⟨S, ((E.length + 1 : Nat) : Int), o⟩] else E) []
theorem rowE_snoc (S : Int) (l : List Opr) (o : Opr) : rowE S (l ++ [o]) = if writes o = true then rowE S l ++ [⟨S, (((rowE S l).length + 1 : Nat) : Int), o⟩] else rowE S l := by
  unfold rowE; rw [List.foldl_append]; rfl
theorem rowE_ops (S : Int) (l : List Opr) : (rowE S l).map (·.op) = l.filter writes := by
  induction l using snoc_ind with
  | h0 => rfl
  | hs l o ih =>
    rw [rowE_snoc, List.filter_append]
    by_cases c : writes o = true
    · rw [if_pos c, List.map_append, ih]; simp [c]
    · rw [if_neg c, ih]; simp [c]
theorem rowE_len (S : Int) (l : List Opr) : (rowE S l).length = (l.filter writes).length := by rw [← rowE_ops S l, List.length_map]
theorem rowE_since (S : Int) (l : List Opr) : ∀ e ∈ rowE S l, e.since = S := by
  induction l using snoc_ind with
  | h0 => simp [rowE]
  | hs l o ih =>
    rw [rowE_snoc]
    split
    · intro e he
      rcases List.mem_append.1 he with he | he
      · exact ih e he
      · simp only [List.mem_singleton] at he; rw [he]
    · exact ih
theorem lastOf_since (S : Int) (E : List Entry) (h : ∀ e ∈ E, e.since = S) : (lastOf E).since = if E = [] then 0 else S := by
  induction E using snoc_ind with
  | h0 => rfl
  | hs E e ih => rw [lastOf_snoc, h e (by simp), if_neg (by simp)]
theorem nextE_row {E : List Entry} (hE : goodE E) {S S' : Int} (hS : 1 ≤ S' ∧ S' ≤ 60) (hs : ∀ e ∈ E, e.since = S) (hSS : S ≤ S') (hlen : E.length < 1000) (o : Opr) (n : Int) (hn : 0 ≤ n ∧ n < 4294967296) : nextE (lastOf E) ⟨S', n, o⟩ = (writes o && decide (n = (E.length : Int) + 1)) := by
  have h1 := hE.nums.2.1
  have h2 := lastOf_since S E hs
  have hsn : (lastOf E).since ≤ S' := by rw [h2]; split <;> omega
  unfold nextE
  simp only
  rw [h1]
  have hw : IntKind.u32.wrap ((E.length : Int) + 1) = ((E.length + 1 : Nat) : Int) := by rw [show (E.length : Int) + 1 = ((E.length + 1 : Nat) : Int) by omega]; exact wu32 (by omega)
  rw [hw]
  have a1 : decide (S' ≥ (lastOf E).since) = true := by simp; omega
  have a2 : decide (S' ≤ 60) = true := by simp; omega
  rw [a1, a2, Bool.and_true, Bool.and_true]
  by_cases c : n = (E.length : Int) + 1
  · have b1 : (n == ((E.length + 1 : Nat) : Int)) = true := by simp; omega
    have b2 : decide (n > (E.length : Int)) = true := by simp; omega
    rw [b1, b2, decide_eq_true c, Bool.and_true]
  · have b1 : (n == ((E.length + 1 : Nat) : Int)) = false := by rw [beq_eq_false_iff_ne]; omega
    rw [b1, decide_eq_false c, Bool.and_false, Bool.false_and]
theorem rowE_good {S : Int} (hS : 1 ≤ S ∧ S ≤ 60) {l : List Opr} (hl : l.length < 1000) (ho : ∀ o ∈ l, o.ok) : goodE (rowE S l) := by
  induction l using snoc_ind with
  | h0 => exact goodE_nil
  | hs l o ih =>
    rw [rowE_snoc]
    have hl' : l.length < 1000 := by simp only [List.length_append, List.length_cons, List.length_nil] at hl; omega
    have ih := ih hl' (fun x hx => ho x (by simp [hx]))
    have hlr : (rowE S l).length ≤ l.length := by rw [rowE_len]; exact List.length_filter_le _ _
    split
    · rename_i c
      refine ih.snoc ?_ (ho o (by simp))
      rw [nextE_row ih hS (rowE_since S l) (Int.le_refl _) (by omega) o _ (by omega), c, Bool.true_and, decide_eq_true_eq]
      omega
    · exact ih
/-- The state that a row makes. -/
def rowS (S : Int) (l : List Opr) : State := mkSt 0 (rowE S l) ((rowE S l).length - 6)
theorem row_at (l : List Opr) (hl : l.length ≤ 60) (ho : ∀ o ∈ l, o.ok) (since : Int) (hs : 0 ≤ since) : evF C F_paddocklaw7_row [.d (.sl (l.map Opr.d)), .d (.i .u32 since)] [] = some (.tup [.d (.agg (rowS (since.tmod 60 + 1) l).cs), .d (.sl ((l.filter writes).map Opr.d))], []) := by
  rw [evF_code (rfl : C F_paddocklaw7_row = some a_paddocklaw7_row) _ _ rfl]
  have hS : 1 ≤ since.tmod 60 + 1 ∧ since.tmod 60 + 1 ≤ 60 := by rw [Int.tmod_eq_emod_of_nonneg hs]; omega
  have hw1 : IntKind.u32.wrap (since.tmod 60 + 1) = since.tmod 60 + 1 := by
    generalize since.tmod 60 + 1 = x at *
    unfold IntKind.wrap; simp [IntKind.signed, IntKind.bits]; omega
  generalize hr : since.tmod 60 = r at *
  have hge : ∀ i, goodE (rowE (r + 1) (l.take i)) := fun i => rowE_good hS (by rw [List.length_take]; omega) fun o h => ho o (List.mem_of_mem_take h)
  have hln : ∀ i, (rowE (r + 1) (l.take i)).length ≤ 60 := fun i => by
    rw [rowE_len]
    exact Nat.le_trans (List.length_filter_le _ _) (by rw [List.length_take]; omega)
  simp (config := {decide := true}) only [c_paddocklaw7_row, thaws, thaw, Pk.EVL, keepT, enum, ↓reduceIte, ev, act, appT, callee, toDs, toD, loadA, storeA, subA, subD, updA, Eff.on, resA, resVs, resV, lk, finish, frzR, frzVs, frzV, fznR, fzns, fzn, lts, lt, ltO, List.all, pairsOk, indep, reduceCtorEq, Nat.reduceEqDiff, Nat.reduceAdd, Nat.reduceLeDiff, stb, thaws, List.drop, intOfA, binD, binI, unD, mmL, buildA, mkAgg, allD, behind, behind0, takeAt, frzAs, frzA, adoptR, adopt, isD, isD0, trim, List.take, binS, sliceA, bnd, zOk, elems, Nat.reduceBNe, inpl, Nat.reduceLT, Nat.reduceBEq, Nat.reduceSub, Nat.reduceMul, Int.reduceLT, Int.reduceLE, Int.reduceEq, Int.reduceToNat, Int.reduceNeg, thaw, nodup, refsV, adopts, Pk.TY_State]
  simp only [Option.bind_assoc]
  refine bind_run (loop_run (fun i T H => lk T 0 = .d (.sl (l.map Opr.d)) ∧ lk T 1 = .d (.i .u32 since) ∧ lk T 4 = .ptr 0 0 ∧ lk T 6 = .ptr 1 0 ∧ lk T 7 = .view 2 ((l.take i).filter writes).length 6 0 ((l.take i).filter writes).length ∧ lk T 8 = .d (.i .i64 (i : Nat)) ∧
      ∃ z J, H = .box (.agg State.zeroA) :: .box z :: .arr (((l.take i).filter writes).map Opr.d) true :: J ∧ stV (rowS (r + 1) (l.take i)) z)
    (fun e T H => e = .exit 0 ∧ lk T 4 = .ptr 0 0 ∧ lk T 6 = .ptr 1 0 ∧ lk T 7 = .view 2 (l.filter writes).length 6 0 (l.filter writes).length ∧
      ∃ z, H = [.box (.agg State.zeroA), .box z, .arr ((l.filter writes).map Opr.d) true] ∧ stV (rowS (r + 1) l) z) l.length ?_ ?_ l.length 0 _ _ (by omega) ⟨rfl, rfl, rfl, rfl, rfl, rfl, _, [], rfl, .inr ⟨rfl, rfl⟩⟩) ?_
  · rintro i T H hi ⟨h0, h1, h4, h6, h7, h8, z, J, rfl, hz⟩
    obtain ⟨o, ho'⟩ : ∃ o, l[i]? = some o := ⟨l[i]'hi, List.getElem?_eq_getElem _⟩
    have hx := list_idx Opr.d ho'
    have hoo : o.ok := ho o (List.mem_of_getElem? ho')
    have htk := take_succ' ho'
    have hlE := hln i
    have hgE := hge i
    have hlf : (rowE (r + 1) (l.take i)).length = ((l.take i).filter writes).length := rowE_len _ _
    have hk : (rowE (r + 1) (l.take i)).length - 6 ≤ (rowE (r + 1) (l.take i)).length := by omega
    have hk6 : (rowE (r + 1) (l.take i)).length - ((rowE (r + 1) (l.take i)).length - 6) ≤ 6 := by omega
    have hh := head_at (rowS (r + 1) (l.take i))
    have hhd : headS (rowS (r + 1) (l.take i)) = ((lastOf (rowE (r + 1) (l.take i))).since, ((rowE (r + 1) (l.take i)).length : Int)) := mk_head 0 hgE hk hk6 (by omega)
    rw [hhd] at hh
    have hw2 : IntKind.u32.wrap (((rowE (r + 1) (l.take i)).length : Int) + 1) = (((rowE (r + 1) (l.take i)).length + 1 : Nat) : Int) := by
      rw [show ((rowE (r + 1) (l.take i)).length : Int) + 1 = (((rowE (r + 1) (l.take i)).length + 1 : Nat) : Int) by omega]; exact wu32 (by omega)
    have hok : okLog (rowS (r + 1) (l.take i)) := (mk_ok 0 hgE hk).log
    have ha := add_at (rowS (r + 1) (l.take i)) ⟨r + 1, (((rowE (r + 1) (l.take i)).length + 1 : Nat) : Int), o⟩ hok hoo
    have had : addS (rowS (r + 1) (l.take i)) ⟨r + 1, (((rowE (r + 1) (l.take i)).length + 1 : Nat) : Int), o⟩ = if writes o = true then (rowS (r + 1) (l.take (i + 1)), 0) else (State.zero, 10) := by
      have h1 := mk_add 0 hgE hk hk6 (by omega) ⟨r + 1, (((rowE (r + 1) (l.take i)).length + 1 : Nat) : Int), o⟩
      rw [nextE_row hgE hS (rowE_since _ _) (Int.le_refl _) (by omega) o _ (by omega)] at h1
      have h2 : decide ((((rowE (r + 1) (l.take i)).length + 1 : Nat) : Int) = ((rowE (r + 1) (l.take i)).length : Int) + 1) = true := by simp
      rw [h2, Bool.and_true] at h1
      refine h1.trans ?_
      by_cases c : writes o = true
      · rw [if_pos c, if_pos c]
        unfold rowS
        rw [htk, rowE_snoc, if_pos c]
        congr 2
        simp only [List.length_append, List.length_cons, List.length_nil]
        omega
      · rw [if_neg c, if_neg c]
    rw [had] at ha
    have hd : decide ((i : Int) < ((l.length : Nat) : Int)) = true := by simp; omega
    have hw : IntKind.i64.wrap ((i : Int) + 1) = ((i + 1 : Nat) : Int) := wi64 (by omega)
    have b0 : (0 ≤ (i : Int)) = True := by simp
    have hflt : (l.take (i + 1)).filter writes = (l.take i).filter writes ++ (if writes o = true then [o] else []) := by
      rw [htk, List.filter_append]
      by_cases c : writes o = true <;> simp [c]
    have e0 : ((0 : Int) == 0) = true := by decide
    have e10 : ((10 : Int) == 0) = false := by decide
    rw [hflt]
    by_cases c : writes o = true
    · rw [if_pos c] at ha
      rw [if_pos c, List.map_append, List.length_append]
      have hap : ∀ L : List Opr, List.map Opr.d L ++ List.map Opr.d [o] = List.map Opr.d L ++ [.agg o.cs] := fun L => rfl
      have hlim : (((l.take i).filter writes).length + 1 ≤ LIM) = True := by
        have : ((l.take i).filter writes).length + 1 ≤ LIM := by rw [← hlf]; unfold LIM; omega
        simp [this]
      rw [hap]
      generalize rowS (r + 1) (l.take (i + 1)) = s' at *
      generalize (lastOf (rowE (r + 1) (l.take i))).since = sn at *
      generalize (rowE (r + 1) (l.take i)).length = n at *
      rcases hz with rfl | ⟨rfl, hz⟩
      · generalize rowS (r + 1) (l.take i) = s at *
        generalize (l.take i).filter writes = D at *
        simp (config := {decide := true}) only [K_paddocklaw7_row_0, l_paddocklaw7_row_0, h0, h1, h4, h6, h7, h8, hd, hw, hr, hw1, hw2, b0, hx, hh, ha, e0, hlim, elems, Pk.EVL, keepT, enum, ↓reduceIte, ev, act, appT, callee, toDs, toD, loadA, storeA, subA, subD, updA, Eff.on, resA, resVs, resV, lk, finish, frzR, frzVs, frzV, fznR, fzns, fzn, lts, lt, ltO, List.all, pairsOk, indep, reduceCtorEq, Nat.reduceEqDiff, Nat.reduceAdd, Nat.reduceLeDiff, stb, thaws, List.drop, intOfA, binD, binI, unD, mmL, buildA, mkAgg, allD, behind, behind0, takeAt, frzAs, frzA, adoptR, adopt, isD, isD0, trim, List.take, binS, sliceA, bnd, zOk, elems, Nat.reduceBNe, inpl, Nat.reduceLT, Nat.reduceBEq, Nat.reduceSub, Nat.reduceMul, Int.reduceLT, Int.reduceLE, Int.reduceEq, Int.reduceToNat, Int.reduceNeg, thaw, nodup, refsV, adopts, Pk.TY_State, Pk.TY_Opr, Pk.TY_Entry]
        refine ⟨_, _, _, rfl, ?_⟩
        exact .inl ⟨rfl, rfl, rfl, rfl, rfl, rfl, rfl, _, _, rfl, .inl rfl⟩
      · rw [hz] at hh ha
        generalize rowS (r + 1) (l.take i) = s at *
        generalize (l.take i).filter writes = D at *
        simp (config := {decide := true}) only [K_paddocklaw7_row_0, l_paddocklaw7_row_0, h0, h1, h4, h6, h7, h8, hd, hw, hr, hw1, hw2, b0, hx, hh, ha, e0, hlim, elems, Pk.EVL, keepT, enum, ↓reduceIte, ev, act, appT, callee, toDs, toD, loadA, storeA, subA, subD, updA, Eff.on, resA, resVs, resV, lk, finish, frzR, frzVs, frzV, fznR, fzns, fzn, lts, lt, ltO, List.all, pairsOk, indep, reduceCtorEq, Nat.reduceEqDiff, Nat.reduceAdd, Nat.reduceLeDiff, stb, thaws, List.drop, intOfA, binD, binI, unD, mmL, buildA, mkAgg, allD, behind, behind0, takeAt, frzAs, frzA, adoptR, adopt, isD, isD0, trim, List.take, binS, sliceA, bnd, zOk, elems, Nat.reduceBNe, inpl, Nat.reduceLT, Nat.reduceBEq, Nat.reduceSub, Nat.reduceMul, Int.reduceLT, Int.reduceLE, Int.reduceEq, Int.reduceToNat, Int.reduceNeg, thaw, nodup, refsV, adopts, Pk.TY_State, Pk.TY_Opr, Pk.TY_Entry]
        refine ⟨_, _, _, rfl, ?_⟩
        exact .inl ⟨rfl, rfl, rfl, rfl, rfl, rfl, rfl, _, _, rfl, .inl rfl⟩
    · rw [if_neg c] at ha
      rw [if_neg c, List.append_nil]
      have hsame : rowS (r + 1) (l.take (i + 1)) = rowS (r + 1) (l.take i) := by unfold rowS; rw [htk, rowE_snoc, if_neg c]
      rw [hsame]
      generalize (lastOf (rowE (r + 1) (l.take i))).since = sn at *
      generalize (rowE (r + 1) (l.take i)).length = n at *
      rcases hz with rfl | ⟨rfl, hz⟩
      · generalize rowS (r + 1) (l.take i) = s at *
        generalize (l.take i).filter writes = D at *
        simp (config := {decide := true}) only [K_paddocklaw7_row_0, l_paddocklaw7_row_0, h0, h1, h4, h6, h7, h8, hd, hw, hr, hw1, hw2, b0, hx, hh, ha, e10, Pk.EVL, keepT, enum, ↓reduceIte, ev, act, appT, callee, toDs, toD, loadA, storeA, subA, subD, updA, Eff.on, resA, resVs, resV, lk, finish, frzR, frzVs, frzV, fznR, fzns, fzn, lts, lt, ltO, List.all, pairsOk, indep, reduceCtorEq, Nat.reduceEqDiff, Nat.reduceAdd, Nat.reduceLeDiff, stb, thaws, List.drop, intOfA, binD, binI, unD, mmL, buildA, mkAgg, allD, behind, behind0, takeAt, frzAs, frzA, adoptR, adopt, isD, isD0, trim, List.take, binS, sliceA, bnd, zOk, elems, Nat.reduceBNe, inpl, Nat.reduceLT, Nat.reduceBEq, Nat.reduceSub, Nat.reduceMul, Int.reduceLT, Int.reduceLE, Int.reduceEq, Int.reduceToNat, Int.reduceNeg, thaw, nodup, refsV, adopts, Pk.TY_State, Pk.TY_Opr, Pk.TY_Entry]
        refine ⟨_, _, _, rfl, ?_⟩
        exact .inl ⟨rfl, rfl, rfl, rfl, rfl, rfl, rfl, _, _, rfl, .inl rfl⟩
      · rw [hz] at hh ha
        generalize rowS (r + 1) (l.take i) = s at *
        generalize (l.take i).filter writes = D at *
        simp (config := {decide := true}) only [K_paddocklaw7_row_0, l_paddocklaw7_row_0, h0, h1, h4, h6, h7, h8, hd, hw, hr, hw1, hw2, b0, hx, hh, ha, e10, Pk.EVL, keepT, enum, ↓reduceIte, ev, act, appT, callee, toDs, toD, loadA, storeA, subA, subD, updA, Eff.on, resA, resVs, resV, lk, finish, frzR, frzVs, frzV, fznR, fzns, fzn, lts, lt, ltO, List.all, pairsOk, indep, reduceCtorEq, Nat.reduceEqDiff, Nat.reduceAdd, Nat.reduceLeDiff, stb, thaws, List.drop, intOfA, binD, binI, unD, mmL, buildA, mkAgg, allD, behind, behind0, takeAt, frzAs, frzA, adoptR, adopt, isD, isD0, trim, List.take, binS, sliceA, bnd, zOk, elems, Nat.reduceBNe, inpl, Nat.reduceLT, Nat.reduceBEq, Nat.reduceSub, Nat.reduceMul, Int.reduceLT, Int.reduceLE, Int.reduceEq, Int.reduceToNat, Int.reduceNeg, thaw, nodup, refsV, adopts, Pk.TY_State, Pk.TY_Opr, Pk.TY_Entry]
        refine ⟨_, _, _, rfl, ?_⟩
        exact .inl ⟨rfl, rfl, rfl, rfl, rfl, rfl, rfl, _, _, rfl, .inr ⟨rfl, hz⟩⟩
  · rintro T H ⟨h0, h1, h4, h6, h7, h8, z, J, rfl, hz⟩
    rw [List.take_length] at h7 hz
    rw [List.take_length]
    have hd : decide (((l.length : Nat) : Int) < ((l.length : Nat) : Int)) = false := by simp
    generalize rowS (r + 1) l = s at *
    generalize l.filter writes = D at *
    rcases hz with rfl | ⟨rfl, hz⟩ <;>
    · simp (config := {decide := true}) only [K_paddocklaw7_row_0, l_paddocklaw7_row_0, h0, h1, h4, h6, h7, h8, hd, Pk.EVL, keepT, enum, ↓reduceIte, ev, act, appT, callee, toDs, toD, loadA, storeA, subA, subD, updA, Eff.on, resA, resVs, resV, lk, finish, frzR, frzVs, frzV, fznR, fzns, fzn, lts, lt, ltO, List.all, pairsOk, indep, reduceCtorEq, Nat.reduceEqDiff, Nat.reduceAdd, Nat.reduceLeDiff, stb, thaws, List.drop, intOfA, binD, binI, unD, mmL, buildA, mkAgg, allD, behind, behind0, takeAt, frzAs, frzA, adoptR, adopt, isD, isD0, trim, List.take, binS, sliceA, bnd, zOk, elems, Nat.reduceBNe, inpl, Nat.reduceLT, Nat.reduceBEq, Nat.reduceSub, Nat.reduceMul, Int.reduceLT, Int.reduceLE, Int.reduceEq, Int.reduceToNat, Int.reduceNeg, thaw, nodup, refsV, adopts, Pk.TY_State, Pk.TY_Opr]
      refine ⟨_, _, _, rfl, ?_⟩
      first | exact ⟨by simp, rfl, rfl, rfl, rfl, _, rfl, .inl rfl⟩ | exact ⟨by simp, rfl, rfl, rfl, rfl, _, rfl, .inr ⟨rfl, hz⟩⟩
  rintro e T H ⟨rfl, h4, h6, h7, z, rfl, hz⟩
  generalize rowS (r + 1) l = s at *
  generalize l.filter writes = D at *
  have htk : List.take D.length (D.map Opr.d) = D.map Opr.d := List.take_of_length_le (by simp)
  have hsb : subL (D.map Opr.d) 0 D.length = D.map Opr.d := htk
  rcases hz with rfl | ⟨rfl, rfl⟩ <;>
    simp (config := {decide := true}) only [h4, h6, h7, htk, hsb, Pk.EVL, keepT, enum, ↓reduceIte, ev, act, appT, callee, toDs, toD, loadA, storeA, subA, subD, updA, Eff.on, resA, resVs, resV, lk, finish, frzR, frzVs, frzV, fznR, fzns, fzn, lts, lt, ltO, List.all, pairsOk, indep, reduceCtorEq, Nat.reduceEqDiff, Nat.reduceAdd, Nat.reduceLeDiff, stb, thaws, List.drop, intOfA, binD, binI, unD, mmL, buildA, mkAgg, allD, behind, behind0, takeAt, frzAs, frzA, adoptR, adopt, isD, isD0, trim, List.take, binS, sliceA, bnd, zOk, elems, Nat.reduceBNe, inpl, Nat.reduceLT, Nat.reduceBEq, Nat.reduceSub, Nat.reduceMul, Int.reduceLT, Int.reduceLE, Int.reduceEq, Int.reduceToNat, Int.reduceNeg, thaw, nodup, refsV, adopts, Pk.TY_State, Pk.TY_Opr]
end Go.Proofs.Ytcbahckkilmpnaa
