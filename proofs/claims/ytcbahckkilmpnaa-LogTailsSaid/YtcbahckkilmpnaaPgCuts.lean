/- The law LogCuts. -/
import Derived.Test.YtcbahckkilmpnaaPgRows
set_option linter.all false
namespace Go.Proofs.Ytcbahckkilmpnaa
open Pv Go Pk
set_option maxRecDepth 10000
set_option maxHeartbeats 2000000
theorem wu32i {x : Int} (h : 0 ≤ x ∧ x < 4294967296) : IntKind.u32.wrap x = x := by unfold IntKind.wrap; simp [IntKind.signed, IntKind.bits]; omega
/-- A number in reach of a state's log. -/
theorem span_at {k n : Nat} (hk : k ≤ n) (hn : n < 1000) (a : Int) (ha : 0 ≤ a ∧ a < 256) : ∃ j : Nat, k ≤ j ∧ j ≤ n ∧ (n ≠ 0 → True) ∧
    IntKind.u32.wrap ((n : Int) - (k : Int)) = ((n - k : Nat) : Int) ∧ IntKind.u32.wrap (((n - k : Nat) : Int) + 1) = ((n - k + 1 : Nat) : Int) ∧ IntKind.u32.wrap a = a ∧ (((n - k + 1 : Nat) : Int) = 0) = False ∧ IntKind.u32.wrap ((k : Int) + a.tmod ((n - k + 1 : Nat) : Int)) = ((j : Nat) : Int) := by
  have h1 : a.tmod ((n - k + 1 : Nat) : Int) = a % ((n - k + 1 : Nat) : Int) := Int.tmod_eq_emod_of_nonneg ha.1
  have h2 : 0 ≤ a % ((n - k + 1 : Nat) : Int) := Int.emod_nonneg _ (by omega)
  have h3 : a % ((n - k + 1 : Nat) : Int) < ((n - k + 1 : Nat) : Int) := Int.emod_lt_of_pos _ (by omega)
  refine ⟨k + (a % ((n - k + 1 : Nat) : Int)).toNat, by omega, by omega, fun _ => trivial, ?_, ?_, wu32i (by omega), by simp; omega, ?_⟩
  · rw [show (n : Int) - (k : Int) = ((n - k : Nat) : Int) by omega]; exact wu32 (by omega)
  · rw [show ((n - k : Nat) : Int) + 1 = ((n - k + 1 : Nat) : Int) by omega]; exact wu32 (by omega)
  · rw [h1, wu32i (by omega)]; omega
theorem cuts_law (l : List Opr) (ho : ∀ o ∈ l, o.ok) (a : Int) (ha : 0 ≤ a ∧ a < 256) : evF C F_paddocklaw7_LogCuts [.d (.sl (l.map Opr.d)), .d (.i .u8 a)] [] = some (.d (.b true), []) := by
  rw [evF_code (rfl : C F_paddocklaw7_LogCuts = some a_paddocklaw7_LogCuts) _ _ rfl]
  rcases Bool.eq_false_or_eq_true (decide (((l.length : Nat) : Int) > 40)) with cl | cl
  · simp (config := {decide := true}) only [c_paddocklaw7_LogCuts, known_at, cl, Pk.EVL, keepT, enum, ↓reduceIte, ev, act, appT, callee, toDs, toD, loadA, storeA, subA, subD, updA, Eff.on, resA, resVs, resV, lk, finish, frzR, frzVs, frzV, fznR, fzns, fzn, lts, lt, ltO, List.all, pairsOk, indep, reduceCtorEq, Nat.reduceEqDiff, Nat.reduceAdd, Nat.reduceLeDiff, stb, thaws, List.drop, intOfA, binD, binI, unD, mmL, buildA, mkAgg, allD, behind, behind0, takeAt, frzAs, frzA, adoptR, adopt, isD, isD0, trim, List.take, binS, sliceA, bnd, zOk, elems, Nat.reduceBNe, inpl, Nat.reduceLT, Nat.reduceBEq, Nat.reduceSub, Nat.reduceMul, Int.reduceLT, Int.reduceLE, Int.reduceEq, Int.reduceToNat, Int.reduceNeg, thaw, nodup, refsV, adopts, Pk.TY_State]
  have hl : l.length ≤ 40 := by have := of_decide_eq_false cl; omega
  have hrow := row_at l (by omega) ho 1 (by omega)
  rw [show Int.tmod 1 60 + 1 = 2 by decide] at hrow
  have hS : (1 : Int) ≤ 2 ∧ (2 : Int) ≤ 60 := by omega
  have f := rowF hS (by omega : l.length ≤ 60) ho
  have hle : (rowE 2 l).length ≤ 40 := Nat.le_trans f.le hl
  have hg := f.good
  have hk : (rowE 2 l).length - 6 ≤ (rowE 2 l).length := by omega
  have hk6 : (rowE 2 l).length - ((rowE 2 l).length - 6) ≤ 6 := by omega
  obtain ⟨j, hj1, hj2, -, w1, w2, w3, z1, w4⟩ := span_at hk (by omega) a ha
  -- what the calls answer
  have hst := f.stok
  have hh := head_at (rowS 2 l)
  have hcut := cut_at (rowS 2 l) j hst
  have htl := tail_at (rowS 2 l) j hst
  have hup := upto_at (rowS 2 l) j hst
  have hcut2 := cut_at (rowS 2 l) (((rowE 2 l).length + 1 : Nat) : Int) hst
  have htl2 := tail_at (rowS 2 l) (((rowE 2 l).length + 1 : Nat) : Int) hst
  have hfs := fold_at (rowS 2 l) hst.log
  rw [f.head] at hh
  rw [f.fold] at hfs
  have q1 : cutS (rowS 2 l) (j : Nat) = (mkSt 0 ((rowE 2 l).take j) ((rowE 2 l).length - 6), 0) := by
    refine (mk_cut 0 hg hk hk6 (by omega) _).trans ?_
    rw [if_pos (by omega)]; rfl
  have q2 : tailS (rowS 2 l) (j : Nat) = (mkSt 0 (rowE 2 l) j, 0) := by
    refine (mk_tailS 0 hg hk hk6 (by omega) _).trans ?_
    rw [if_neg (by omega), if_pos (by omega)]; rfl
  have q3 : uptoS (rowS 2 l) (j : Nat) = (baseOf ((rowE 2 l).take j), true) := by
    refine (mk_upto 0 hg hk hk6 (by omega) _).trans ?_
    rw [if_pos (by omega)]; rfl
  have q4 : cutS (rowS 2 l) (((rowE 2 l).length + 1 : Nat) : Int) = (State.zero, 141) := by
    refine (mk_cut 0 hg hk hk6 (by omega) _).trans ?_
    rw [if_neg (by omega)]
  have q5 : tailS (rowS 2 l) (((rowE 2 l).length + 1 : Nat) : Int) = (State.zero, 141) := by
    refine (mk_tailS 0 hg hk hk6 (by omega) _).trans ?_
    rw [if_neg (by omega), if_neg (by omega)]
  rw [q1] at hcut
  rw [q2] at htl
  rw [q3] at hup
  rw [q4] at hcut2
  rw [q5] at htl2
  have hgt := hg.take j
  have hlt : ((rowE 2 l).take j).length = j := by rw [List.length_take]; omega
  have hha := head_at (mkSt 0 ((rowE 2 l).take j) ((rowE 2 l).length - 6))
  rw [mk_head 0 hgt (by omega) (by omega) (by omega), hlt] at hha
  have hhb := head_at (mkSt 0 (rowE 2 l) j)
  rw [mk_head 0 hg (by omega) (by omega) (by omega)] at hhb
  have hfa := fold_at (mkSt 0 ((rowE 2 l).take j) ((rowE 2 l).length - 6)) (mk_ok 0 hgt (by omega)).log
  rw [mk_fold 0 hgt (by omega) (by omega) (by omega)] at hfa
  have hfb := fold_at (mkSt 0 (rowE 2 l) j) (mk_ok 0 hg (by omega)).log
  rw [mk_fold 0 hg (by omega) (by omega) (by omega)] at hfb
  have hia := is_st (mkSt 0 ((rowE 2 l).take j) ((rowE 2 l).length - 6))
  rw [mk_is 0 hgt (by omega) (by omega) (by omega)] at hia
  have hib := is_st (mkSt 0 (rowE 2 l) j)
  rw [mk_is 0 hg (by omega) (by omega) (by omega)] at hib
  have htb : (mkSt 0 (rowE 2 l) j).tail.n = (j : Int) := mk_tail_n 0 hg (by omega)
  have hbb : (mkSt 0 (rowE 2 l) j).base = baseOf ((rowE 2 l).take j) := rfl
  have hall := all_at Base.zero ((l.filter writes).take j) (by rw [List.length_take]; omega) zero_fit (fun o h => f.ok o (List.mem_of_mem_take h))
  rw [← baseOf_ops 2] at hall
  have ht := f.tailn
  have wn1 : IntKind.u32.wrap (((rowE 2 l).length : Int) + 1) = (((rowE 2 l).length + 1 : Nat) : Int) := by rw [show ((rowE 2 l).length : Int) + 1 = (((rowE 2 l).length + 1 : Nat) : Int) by omega]; exact wu32 (by omega)
  have hmap : List.take j ((l.filter writes).map Opr.d) = ((l.filter writes).take j).map Opr.d := by rw [List.map_take]
  have hjl : ((j : Int) ≤ (((l.filter writes).length : Nat) : Int)) = True := by have := f.len; simp; omega
  generalize (lastOf (rowE 2 l)).since = sn at *
  generalize (lastOf ((rowE 2 l).take j)).since = sm at *
  generalize hB : baseOf ((rowE 2 l).take j) = B at *
  generalize baseOf (rowE 2 l) = B' at *
  generalize mkSt 0 ((rowE 2 l).take j) ((rowE 2 l).length - 6) = A1 at *
  generalize mkSt 0 (rowE 2 l) j = A2 at *
  clear f q1 q2 q3 q4 q5 hst hg hgt
  generalize rowS 2 l = s at *
  generalize (rowE 2 l).length = n at *
  generalize l.filter writes = D at *
  have b0 : (0 ≤ (j : Int)) = True := by simp
  have e1 : ∀ x : Int, (x == x) = true := fun x => by simp
  have e1' : ∀ x : Int, (x != x) = false := fun x => by simp
  have e2 : ∀ x : Base, decide (x = x) = true := fun x => by simp
  simp (config := {decide := true}) only [c_paddocklaw7_LogCuts, known_at, cl, hrow, hh, ht, w1, w2, w3, w4, z1, hcut, htl, hup, hall, hmap, hjl, b0, hha, hhb, hfa, hfb, hfs, htb, hbb, hcut2, htl2, wn1, hia, hib, e1, e1', e2, Bool.not_true, guardR_und, Pk.EVL, keepT, enum, ↓reduceIte, ev, act, appT, callee, toDs, toD, loadA, storeA, subA, subD, updA, Eff.on, resA, resVs, resV, lk, finish, frzR, frzVs, frzV, fznR, fzns, fzn, lts, lt, ltO, List.all, pairsOk, indep, reduceCtorEq, Nat.reduceEqDiff, Nat.reduceAdd, Nat.reduceLeDiff, stb, thaws, List.drop, intOfA, binD, binI, unD, mmL, buildA, mkAgg, allD, behind, behind0, takeAt, frzAs, frzA, adoptR, adopt, isD, isD0, trim, List.take, binS, sliceA, bnd, zOk, elems, Nat.reduceBNe, inpl, Nat.reduceLT, Nat.reduceBEq, Nat.reduceSub, Nat.reduceMul, Int.reduceLT, Int.reduceLE, Int.reduceEq, Int.reduceToNat, Int.reduceNeg, thaw, nodup, refsV, adopts, Pk.TY_State, Pk.TY_Base, Pk.TY_Opr, Pk.TY_Res, Pk.TY_Entry]
end Go.Proofs.Ytcbahckkilmpnaa
