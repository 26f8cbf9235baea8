/- The laws LogRows, LogBounds. -/
import Derived.Test.YtcbahckkilmpnaaPgF
set_option linter.all false
namespace Go.Proofs.Ytcbahckkilmpnaa
open Pv Go Pk
set_option maxRecDepth 10000
set_option maxHeartbeats 2000000
/-- What is known of a row's state. -/
structure RowF (S : Int) (l : List Opr) : Prop where
  good : goodE (rowE S l)
  len : (rowE S l).length = (l.filter writes).length
  le : (rowE S l).length ≤ l.length
  ok : ∀ o ∈ l.filter writes, o.ok
  is : isSt (rowS S l) = true
  stok : stOk (rowS S l)
  head : headS (rowS S l) = ((lastOf (rowE S l)).since, ((rowE S l).length : Int))
  fold : foldS (rowS S l) = baseOf (rowE S l)
  tailn : (rowS S l).tail.n = (((rowE S l).length - 6 : Nat) : Int)
  log : (rowS S l).log.length = min (rowE S l).length 6
theorem rowF {S : Int} (hS : 1 ≤ S ∧ S ≤ 60) {l : List Opr} (hl : l.length ≤ 60) (ho : ∀ o ∈ l, o.ok) : RowF S l := by
  have hg := rowE_good hS (l := l) (by omega) ho
  have hk : (rowE S l).length - 6 ≤ (rowE S l).length := by omega
  have hk6 : (rowE S l).length - ((rowE S l).length - 6) ≤ 6 := by omega
  refine ⟨hg, rowE_len S l, by rw [rowE_len]; exact List.length_filter_le _ _, fun o h => ho o (List.mem_filter.1 h).1, mk_is 0 hg hk hk6 (by omega), mk_ok 0 hg hk, mk_head 0 hg hk hk6 (by omega), mk_fold 0 hg hk hk6 (by omega), mk_tail_n 0 hg hk, ?_⟩
  show ((rowE S l).drop _).length = _
  rw [List.length_drop]
  omega
theorem tmod_S {since : Int} (hs : 0 ≤ since) : 1 ≤ since.tmod 60 + 1 ∧ since.tmod 60 + 1 ≤ 60 := by rw [Int.tmod_eq_emod_of_nonneg hs]; omega
theorem baseOf_ops (S : Int) (l : List Opr) (k : Nat) : baseOf ((rowE S l).take k) = (allOps Base.zero ((l.filter writes).take k)).1 := by
  unfold baseOf; rw [List.map_take, rowE_ops]
theorem rows_law (l : List Opr) (ho : ∀ o ∈ l, o.ok) (since : Int) (hs : 0 ≤ since) : evF C F_paddocklaw7_LogRows [.d (.sl (l.map Opr.d)), .d (.i .u32 since)] [] = some (.d (.b true), []) := by
  rw [evF_code (rfl : C F_paddocklaw7_LogRows = some a_paddocklaw7_LogRows) _ _ rfl]
  rcases Bool.eq_false_or_eq_true (decide (((l.length : Nat) : Int) > 60)) with cl | cl
  · simp (config := {decide := true}) only [c_paddocklaw7_LogRows, known_at, cl, Pk.EVL, keepT, enum, ↓reduceIte, ev, act, appT, callee, toDs, toD, loadA, storeA, subA, subD, updA, Eff.on, resA, resVs, resV, lk, finish, frzR, frzVs, frzV, fznR, fzns, fzn, lts, lt, ltO, List.all, pairsOk, indep, reduceCtorEq, Nat.reduceEqDiff, Nat.reduceAdd, Nat.reduceLeDiff, stb, thaws, List.drop, intOfA, binD, binI, unD, mmL, buildA, mkAgg, allD, behind, behind0, takeAt, frzAs, frzA, adoptR, adopt, isD, isD0, trim, List.take, binS, sliceA, bnd, zOk, elems, Nat.reduceBNe, inpl, Nat.reduceLT, Nat.reduceBEq, Nat.reduceSub, Nat.reduceMul, Int.reduceLT, Int.reduceLE, Int.reduceEq, Int.reduceToNat, Int.reduceNeg, thaw, nodup, refsV, adopts, Pk.TY_State]
  have hl : l.length ≤ 60 := by have := of_decide_eq_false cl; omega
  have hrow := row_at l hl ho since hs
  have f := rowF (tmod_S hs) hl ho
  generalize since.tmod 60 + 1 = S at *
  have hn : (l.filter writes).length ≤ 60 := by rw [← f.len]; exact Nat.le_trans f.le hl
  have h1 := all_at Base.zero (l.filter writes) (by omega) zero_fit f.ok
  have h2 := all_at Base.zero ((l.filter writes).take ((l.filter writes).length - 6)) (by rw [List.length_take]; omega) zero_fit (fun o h => f.ok o (List.mem_of_mem_take h))
  have hh := head_at (rowS S l)
  have hi := is_st (rowS S l)
  have hf := fold_at (rowS S l) f.stok.log
  rw [f.head] at hh
  rw [f.is] at hi
  have b1 := baseOf_ops S l (rowE S l).length
  rw [List.take_length, f.len, List.take_length] at b1
  rw [f.fold, b1] at hf
  have b2 : (rowS S l).base = (allOps Base.zero ((l.filter writes).take ((l.filter writes).length - 6))).1 := by rw [← baseOf_ops S l, ← f.len]; rfl
  have ht := f.tailn
  have hlg := f.log
  rw [f.len] at hh ht hlg
  generalize (lastOf (rowE S l)).since = sn at *
  clear f b1
  generalize rowS S l = s at *
  have hmap : List.take ((l.filter writes).length - 6) ((l.filter writes).map Opr.d) = ((l.filter writes).take ((l.filter writes).length - 6)).map Opr.d := by rw [List.map_take]
  generalize l.filter writes = D at *
  have hw : IntKind.i64.wrap (((D.length : Nat) : Int) - 6) = (D.length : Int) - 6 := by unfold IntKind.wrap; simp [IntKind.signed, IntKind.bits]; omega
  have hmx : mmI true 0 ((D.length : Int) - 6) = ((D.length - 6 : Nat) : Int) := by unfold mmI; rw [if_pos rfl]; split <;> omega
  have k1 : (0 ≤ ((D.length - 6 : Nat) : Int)) = True := by simp
  have k2 : (((D.length - 6 : Nat) : Int) ≤ ((D.length : Nat) : Int)) = True := by simp
  have w1 : IntKind.i64.wrap ((D.length : Nat) : Int) = ((D.length : Nat) : Int) := wi64 (by omega)
  have w2 : IntKind.i64.wrap (((D.length - 6 : Nat) : Int)) = ((D.length - 6 : Nat) : Int) := wi64 (by omega)
  have e1 : ∀ x : Int, (x == x) = true := fun x => by simp
  have e2 : ∀ x : Base, decide (x = x) = true := fun x => by simp
  have m1 : mmI false ((D.length : Nat) : Int) 6 = ((min D.length 6 : Nat) : Int) := by unfold mmI; rw [if_neg (by simp)]; split <;> omega
  generalize (allOps Base.zero D) = B1 at *
  generalize (allOps Base.zero (D.take (D.length - 6))) = B2 at *
  simp (config := {decide := true}) only [c_paddocklaw7_LogRows, known_at, cl, hrow, h1, h2, hh, hi, hf, b2, ht, hlg, hmap, hw, hmx, k1, k2, w1, w2, m1, e1, e2, guardR_und, Pk.EVL, keepT, enum, ↓reduceIte, ev, act, appT, callee, toDs, toD, loadA, storeA, subA, subD, updA, Eff.on, resA, resVs, resV, lk, finish, frzR, frzVs, frzV, fznR, fzns, fzn, lts, lt, ltO, List.all, pairsOk, indep, reduceCtorEq, Nat.reduceEqDiff, Nat.reduceAdd, Nat.reduceLeDiff, stb, thaws, List.drop, intOfA, binD, binI, unD, mmL, buildA, mkAgg, allD, behind, behind0, takeAt, frzAs, frzA, adoptR, adopt, isD, isD0, trim, List.take, binS, sliceA, bnd, zOk, elems, Nat.reduceBNe, inpl, Nat.reduceLT, Nat.reduceBEq, Nat.reduceSub, Nat.reduceMul, Int.reduceLT, Int.reduceLE, Int.reduceEq, Int.reduceToNat, Int.reduceNeg, thaw, nodup, refsV, adopts, Pk.TY_State, Pk.TY_Base, Pk.TY_Opr, Pk.TY_Res]
end Go.Proofs.Ytcbahckkilmpnaa
