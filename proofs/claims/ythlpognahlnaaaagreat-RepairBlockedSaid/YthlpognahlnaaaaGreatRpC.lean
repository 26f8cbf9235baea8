/- The reference's states: alike, found, cut, folded, added. / What the laws of repairs use: plans of rows in arrays, who is in a row, the rows in order. -/
import Derived.Test.YthlpognahlnaaaaGreatPkEvd
import Derived.Test.YthlpognahlnaaaaGreatPgR
import Derived.Test.YthlpognahlnaaaaGreatMgG
import Derived.Test.YthlpognahlnaaaaGreatRpP
set_option linter.all false
namespace Go.Proofs.YthlpognahlnaaaaGreat
open Pv Go Pk
set_option maxRecDepth 10000
set_option maxHeartbeats 2000000
/-! folding, one by one -/
def popS (s : State) (e : Entry) (l : List Entry) : State := { s with base := (doOp s.base e.op).1, tail := ⟨e.since, e.n, ⟨0, 0, 0, 0, 0, ⟨#[]⟩⟩⟩, log := l }
/-! up to a number -/
end Go.Proofs.YthlpognahlnaaaaGreat

namespace Go.Proofs.YthlpognahlnaaaaGreat
open Pv Go Pk
set_option maxRecDepth 10000
set_option maxHeartbeats 4000000
theorem frz2_view (h g : AV) (j1 j2 k : Nat) (hne : j1 ≠ j2) (es ls : List DV) (w1 w2 : Bool) (H : Heap) (h1 : H[j1]? = some (.arr es w1)) (h2 : H[j2]? = some (.arr ls w2)) (k1 : es.length = k) (k2 : ls.length = k) :
  frzL [false, false, true, true] H [h, g, .view j1 k 1 0 k, .view j2 k 49 0 k] = ([h, g, .d (.sl es), .d (.sl ls)], (H.set j1 (.arr es false)).set j2 (.arr ls false)) := by
 have s1 : subL es 0 k = es := by unfold subL; rw [List.drop_zero]; exact List.take_of_length_le (by omega)
 have s2 : subL ls 0 k = ls := by unfold subL; rw [List.drop_zero]; exact List.take_of_length_le (by omega)
 have h2' : (H.set j1 (.arr es false))[j2]? = some (.arr ls w2) := by rw [List.getElem?_set_ne hne]; exact h2
 simp [frzL, frzV, toD, h1, h2', k1, k2, s1, s2]
theorem rmake_view (o j1 j2 k : Nat) (hne : j1 ≠ j2) (os : List Int) (L : List State) (w1 w2 : Bool) (H : Heap) (g : Int) (h1 : H[j1]? = some (.arr (os.map fun x => .i .i64 x) w1)) (h2 : H[j2]? = some (.arr (L.map State.d) w2)) (k1 : os.length = k) (k2 : L.length = k) :
  evF C F_q3l [.ptr o 0, .d (.i .u8 g), .view j1 k 1 0 k, .view j2 k 49 0 k] H = evF C F_q3l [.ptr o 0, .d (.i .u8 g), .d (.sl (os.map fun x => .i .i64 x)), .d (.sl (L.map State.d))] ((H.set j1 (.arr (os.map fun x => .i .i64 x) false)).set j2 (.arr (L.map State.d) false)) := by
 rw [evF_codef (rfl : C F_q3l = some f_q3l) _ _ _ _ (frz2_view _ _ j1 j2 k hne _ _ w1 w2 H h1 h2 (by rw [List.length_map]; exact k1) (by rw [List.length_map]; exact k2)) rfl,
  evF_codef (rfl : C F_q3l = some f_q3l) _ _ [.ptr o 0, .d (.i .u8 g), .d (.sl (os.map fun x => .i .i64 x)), .d (.sl (L.map State.d))] ((H.set j1 (.arr (os.map fun x => .i .i64 x) false)).set j2 (.arr (L.map State.d) false)) rfl rfl]
theorem refin_at (A : List Int) (x : Int) (hA : A.length ≤ 1000) : evF C F_q27 [.d (.sl (A.map fun x => .i .i64 x)), .d (.i .i64 x)] [] = some (.d (.b (decide (x ∈ A))), []) := by
 have hl : (A.map fun x : Int => DV.i .i64 x).length = A.length := List.length_map _
 rw [evF_code (rfl : C F_q27 = some a_q27) _ _ rfl]
 simp +decide only [c_q27, hl, thaws, Pk.EVL, Pk.EVD, ↓reduceIte, reduceCtorEq, Nat.reduceEqDiff, Nat.reduceAdd, Nat.reduceLeDiff, Nat.reduceBNe, Nat.reduceLT, Nat.reduceBEq, Nat.reduceSub, Nat.reduceMul, Int.reduceLT, Int.reduceLE, Int.reduceEq, Int.reduceToNat, Int.reduceNeg]
 simp only [Option.bind_assoc]
 refine bind_run (loop_run (fun i T H => lk T 0 = .d (.sl (A.map fun x => .i .i64 x)) ∧ lk T 1 = .d (.i .i64 x) ∧ lk T 5 = .d (.i .i64 (i : Nat)) ∧ H = [] ∧ decide (x ∈ A) = decide (x ∈ A.drop i))
  (fun e T H => H = [] ∧ ((e = .exit 0 ∧ decide (x ∈ A) = false) ∨ (e = .ret ∧ lk T 4 = .d (.b true) ∧ decide (x ∈ A) = true))) A.length ?_ ?_ A.length 0 _ _ (by omega) ⟨rfl, rfl, rfl, rfl, rfl⟩) ?_
 ·rintro i T H hi ⟨h0, h1, h5, rfl, hc⟩
  obtain ⟨y, hy⟩ : ∃ y, A[i]? = some y := ⟨A[i]'hi, List.getElem?_eq_getElem _⟩
  have hyd := list_idx (fun x : Int => DV.i .i64 x) hy
  have hdr : A.drop i = y :: A.drop (i + 1) := by
   rw [List.drop_eq_getElem_cons hi]
   congr 1
   exact (List.getElem?_eq_some_iff.1 hy).2
  have hd : decide ((i : Int) < ((A.length : Nat) : Int)) = true := by simp; omega
  have hw : IntKind.i64.wrap ((i : Int) + 1) = ((i + 1 : Nat) : Int) := wi64 (by omega)
  have b0 : (0 ≤ (i : Int)) = True := by simp
  have b1 : ((i : Int) < ((A.length : Nat) : Int)) = True := eq_true (by omega)
  rcases Bool.eq_false_or_eq_true (y == x) with c | c
  ·have e1 : decide (x ∈ A) = true := by rw [hc, hdr]; simp at c; simp [c]
   simp +decide only [K_q27_0, l_q27_0, h0, h1, h5, hl, hyd, hd, hw, b0, b1, c, Int.toNat_natCast, Pk.EVL, Pk.EVD, ↓reduceIte, reduceCtorEq, Nat.reduceEqDiff, Nat.reduceAdd, Nat.reduceLeDiff, Nat.reduceBNe, Nat.reduceLT, Nat.reduceBEq, Nat.reduceSub, Nat.reduceMul, Int.reduceLT, Int.reduceLE, Int.reduceEq, Int.reduceToNat, Int.reduceNeg]
   exact ⟨_, _, _, rfl, .inr ⟨by simp, rfl, .inr ⟨rfl, rfl, e1⟩⟩⟩
  ·have e1 : decide (x ∈ A) = decide (x ∈ A.drop (i + 1)) := by
    rw [hc, hdr]
    have : ¬ x = y := by intro h; simp [h] at c
    simp [this]
   simp +decide only [K_q27_0, l_q27_0, h0, h1, h5, hl, hyd, hd, hw, b0, b1, c, Int.toNat_natCast, Pk.EVL, Pk.EVD, ↓reduceIte, reduceCtorEq, Nat.reduceEqDiff, Nat.reduceAdd, Nat.reduceLeDiff, Nat.reduceBNe, Nat.reduceLT, Nat.reduceBEq, Nat.reduceSub, Nat.reduceMul, Int.reduceLT, Int.reduceLE, Int.reduceEq, Int.reduceToNat, Int.reduceNeg]
   exact ⟨_, _, _, rfl, .inl ⟨rfl, rfl, rfl, rfl, rfl, e1⟩⟩
 ·rintro T H ⟨h0, h1, h5, rfl, hc⟩
  rw [List.drop_length] at hc
  have hd : decide (((A.length : Nat) : Int) < ((A.length : Nat) : Int)) = false := by simp
  have e1 : decide (x ∈ A) = false := by rw [hc]; simp
  simp +decide only [K_q27_0, l_q27_0, h0, h1, h5, hl, hd, Pk.EVL, Pk.EVD, ↓reduceIte, reduceCtorEq, Nat.reduceEqDiff, Nat.reduceAdd, Nat.reduceLeDiff, Nat.reduceBNe, Nat.reduceLT, Nat.reduceBEq, Nat.reduceSub, Nat.reduceMul, Int.reduceLT, Int.reduceLE, Int.reduceEq, Int.reduceToNat, Int.reduceNeg]
  exact ⟨_, _, _, rfl, by simp, rfl, .inl ⟨rfl, e1⟩⟩
 rintro e T H ⟨rfl, ⟨rfl, h⟩ | ⟨rfl, h4, h⟩⟩
 ·simp +decide only [h, Pk.EVL, Pk.EVD, ↓reduceIte, reduceCtorEq, Nat.reduceEqDiff, Nat.reduceAdd, Nat.reduceLeDiff, Nat.reduceBNe, Nat.reduceLT, Nat.reduceBEq, Nat.reduceSub, Nat.reduceMul, Int.reduceLT, Int.reduceLE, Int.reduceEq, Int.reduceToNat, Int.reduceNeg]
 ·simp +decide only [h4, h, Pk.EVL, Pk.EVD, ↓reduceIte, reduceCtorEq, Nat.reduceEqDiff, Nat.reduceAdd, Nat.reduceLeDiff, Nat.reduceBNe, Nat.reduceLT, Nat.reduceBEq, Nat.reduceSub, Nat.reduceMul, Int.reduceLT, Int.reduceLE, Int.reduceEq, Int.reduceToNat, Int.reduceNeg]
/-- The daemons of a row, in order. -/
def inO (A : List Int) (k : Nat) : List Int := ((List.range k).map fun i : Nat => (i : Int)).filter fun x => decide (x ∈ A)
theorem inO_succ (A : List Int) (k : Nat) : inO A (k + 1) = inO A k ++ (if decide ((k : Int) ∈ A) = true then [(k : Int)] else []) := by
 unfold inO
 rw [List.range_succ, List.map_append, List.filter_append]
 congr 1
 by_cases c : (k : Int) ∈ A <;> simp [c]
theorem inO_len (A : List Int) (k : Nat) : (inO A k).length ≤ k := by
 unfold inO
 exact Nat.le_trans (List.length_filter_le _ _) (by rw [List.length_map, List.length_range]; exact Nat.le_refl _)
theorem sorted_at (A : List Int) (hA : A.length ≤ 1000) : evF C F_q1t [.d (.sl (A.map fun x => .i .i64 x))] [] = some (.view 0 (inO A 5).length 1 0 (inO A 5).length, [.arr ((inO A 5).map fun x => .i .i64 x) true]) := by
 rw [evF_code (rfl : C F_q1t = some a_q1t) _ _ rfl]
 simp +decide only [c_q1t, thaws, thaw, Pk.EVL, Pk.EVD, ↓reduceIte, reduceCtorEq, Nat.reduceEqDiff, Nat.reduceAdd, Nat.reduceLeDiff, Nat.reduceBNe, Nat.reduceLT, Nat.reduceBEq, Nat.reduceSub, Nat.reduceMul, Int.reduceLT, Int.reduceLE, Int.reduceEq, Int.reduceToNat, Int.reduceNeg]
 simp only [Option.bind_assoc]
 refine bind_run (loop_run (fun i T H => lk T 0 = .d (.sl (A.map fun x => .i .i64 x)) ∧ lk T 3 = .view 0 (inO A i).length 1 0 (inO A i).length ∧ lk T 4 = .d (.i .i64 (i : Nat)) ∧ ∃ J, H = .arr ((inO A i).map fun x => .i .i64 x) true :: J)
  (fun e T H => e = .exit 0 ∧ lk T 3 = .view 0 (inO A 5).length 1 0 (inO A 5).length ∧ H = [.arr ((inO A 5).map fun x => .i .i64 x) true]) 5 ?_ ?_ 5 0 _ _ (by omega) ⟨rfl, rfl, rfl, [], rfl⟩) ?_
 ·rintro i T H hi ⟨h0, h3, h4, J, rfl⟩
  have hin := refin_at A (i : Int) hA
  have hle := inO_len A i
  have hsu := inO_succ A i
  have hEl : ((inO A i).map fun x : Int => DV.i .i64 x).length = (inO A i).length := List.length_map _
  have hd : decide ((i : Int) < 5) = true := by simp; omega
  have hw : IntKind.i64.wrap ((i : Int) + 1) = ((i + 1 : Nat) : Int) := wi64 (by omega)
  have hlim : ((inO A i).length + 1 ≤ LIM) = True := eq_true (by unfold LIM; omega)
  rcases Bool.eq_false_or_eq_true (decide ((i : Int) ∈ A)) with c | c
  ·rw [c, if_pos rfl] at hsu
   rw [c] at hin
   rw [hsu]
   generalize inO A i = E at *
   simp +decide only [K_q1t_0, l_q1t_0, h0, h3, h4, hin, hEl, hd, hw, hlim, elems, ite_self, Nat.zero_le, Nat.le_refl, Pk.EVL, Pk.EVD, ↓reduceIte, reduceCtorEq, Nat.reduceEqDiff, Nat.reduceAdd, Nat.reduceLeDiff, Nat.reduceBNe, Nat.reduceLT, Nat.reduceBEq, Nat.reduceSub, Nat.reduceMul, Int.reduceLT, Int.reduceLE, Int.reduceEq, Int.reduceToNat, Int.reduceNeg]
   refine ⟨_, _, _, rfl, .inl ⟨rfl, rfl, ?_, rfl, ?_⟩⟩
   ·rw [List.length_append]; rfl
   ·rw [List.map_append]; exact ⟨_, rfl⟩
  ·rw [c, if_neg (by decide), List.append_nil] at hsu
   rw [c] at hin
   rw [hsu]
   generalize inO A i = E at *
   simp +decide only [K_q1t_0, l_q1t_0, h0, h3, h4, hin, hEl, hd, hw, hlim, elems, ite_self, Nat.zero_le, Nat.le_refl, Pk.EVL, Pk.EVD, ↓reduceIte, reduceCtorEq, Nat.reduceEqDiff, Nat.reduceAdd, Nat.reduceLeDiff, Nat.reduceBNe, Nat.reduceLT, Nat.reduceBEq, Nat.reduceSub, Nat.reduceMul, Int.reduceLT, Int.reduceLE, Int.reduceEq, Int.reduceToNat, Int.reduceNeg]
   exact ⟨_, _, _, rfl, .inl ⟨rfl, rfl, rfl, rfl, _, rfl⟩⟩
 ·rintro T H ⟨h0, h3, h4, J, rfl⟩
  simp +decide only [K_q1t_0, l_q1t_0, h0, h3, h4, ite_self, Pk.EVL, Pk.EVD, ↓reduceIte, reduceCtorEq, Nat.reduceEqDiff, Nat.reduceAdd, Nat.reduceLeDiff, Nat.reduceBNe, Nat.reduceLT, Nat.reduceBEq, Nat.reduceSub, Nat.reduceMul, Int.reduceLT, Int.reduceLE, Int.reduceEq, Int.reduceToNat, Int.reduceNeg]
  exact ⟨_, _, _, rfl, by simp, rfl, rfl, rfl⟩
 rintro e T H ⟨rfl, h3, rfl⟩
 simp +decide only [h3, ite_self, Pk.EVL, Pk.EVD, ↓reduceIte, reduceCtorEq, Nat.reduceEqDiff, Nat.reduceAdd, Nat.reduceLeDiff, Nat.reduceBNe, Nat.reduceLT, Nat.reduceBEq, Nat.reduceSub, Nat.reduceMul, Int.reduceLT, Int.reduceLE, Int.reduceEq, Int.reduceToNat, Int.reduceNeg]
def few25 (L : List State) : Bool := L.all (fun s => !decide ((s.log.length : Int) > 10) && isSt s) && decide ((L.length : Int) ≤ 5)
theorem few25_at (L : List State) (hL : L.length ≤ maxLen) (hf : ∀ s ∈ L, stFull s) : evF C F_q1r [.d (.sl (L.map State.d))] [] = some (.d (.b (few25 L)), []) := by
 have hLl : (L.map State.d).length = L.length := List.length_map _
 have hmx : maxLen ≤ 9223372036854775807 := by decide
 rw [evF_code (rfl : C F_q1r = some a_q1r) _ _ rfl]
 simp +decide only [c_q1r, hLl, thaws, Pk.EVL, Pk.EVD, ↓reduceIte, reduceCtorEq, Nat.reduceEqDiff, Nat.reduceAdd, Nat.reduceLeDiff, Nat.reduceBNe, Nat.reduceLT, Nat.reduceBEq, Nat.reduceSub, Nat.reduceMul, Int.reduceLT, Int.reduceLE, Int.reduceEq, Int.reduceToNat, Int.reduceNeg]
 simp only [Option.bind_assoc]
 refine bind_run (loop_run (fun i T H => lk T 0 = .d (.sl (L.map State.d)) ∧ lk T 3 = .d (.i .i64 (i : Nat)) ∧ H = [] ∧ (L.take i).all (fun s => !decide ((s.log.length : Int) > 10) && isSt s) = true)
  (fun e T H => (e = .exit 0 ∧ lk T 0 = .d (.sl (L.map State.d)) ∧ H = [] ∧ L.all (fun s => !decide ((s.log.length : Int) > 10) && isSt s) = true) ∨ (e = .ret ∧ lk T 2 = .d (.b false) ∧ H = [] ∧ L.all (fun s => !decide ((s.log.length : Int) > 10) && isSt s) = false)) L.length ?_ ?_ L.length 0 _ _ (by omega) ⟨rfl, rfl, rfl, rfl⟩) ?_
 ·rintro i T H hi ⟨h0, h3, rfl, ha⟩
  obtain ⟨s, hs⟩ : ∃ s, L[i]? = some s := ⟨L[i]'hi, List.getElem?_eq_getElem _⟩
  have hsd := list_idx State.d hs
  have his := refis_st s (hf s (List.mem_of_getElem? hs))
  have hd : decide ((i : Int) < ((L.length : Nat) : Int)) = true := by simp; omega
  have hw : IntKind.i64.wrap ((i : Int) + 1) = ((i + 1 : Nat) : Int) := wi64 (by omega)
  have b0 : (0 ≤ (i : Int)) = True := by simp
  have b1 : ((i : Int) < ((L.length : Nat) : Int)) = True := eq_true (by omega)
  have hll : (s.log.map Entry.d).length = s.log.length := List.length_map _
  have hbad : (!decide ((s.log.length : Int) > 10) && isSt s) = false → L.all (fun s => !decide ((s.log.length : Int) > 10) && isSt s) = false := fun h => by
   rw [List.all_eq_false]
   exact ⟨s, List.mem_of_getElem? hs, by rw [h]; decide⟩
  rcases Bool.eq_false_or_eq_true (decide ((s.log.length : Int) > 10)) with c | c
  ·have hf := hbad (by rw [c]; rfl)
   simp +decide only [K_q1r_0, l_q1r_0, h0, h3, hLl, hsd, hll, hd, hw, b0, b1, c, Int.toNat_natCast, guardR_und, Pk.EVL, Pk.EVD, ↓reduceIte, reduceCtorEq, Nat.reduceEqDiff, Nat.reduceAdd, Nat.reduceLeDiff, Nat.reduceBNe, Nat.reduceLT, Nat.reduceBEq, Nat.reduceSub, Nat.reduceMul, Int.reduceLT, Int.reduceLE, Int.reduceEq, Int.reduceToNat, Int.reduceNeg, Pk.TY_State]
   exact ⟨_, _, _, rfl, .inr ⟨by simp, .inr ⟨rfl, rfl, rfl, hf⟩⟩⟩
  rcases Bool.eq_false_or_eq_true (isSt s) with c2 | c2
  ·rw [c2] at his
   have ht : (L.take (i + 1)).all (fun s => !decide ((s.log.length : Int) > 10) && isSt s) = true := by
    rw [take_succ' hs, List.all_append, ha, List.all_cons, c, c2]; rfl
   simp +decide only [K_q1r_0, l_q1r_0, h0, h3, hLl, hsd, his, hll, hd, hw, b0, b1, c, Int.toNat_natCast, guardR_und, Pk.EVL, Pk.EVD, ↓reduceIte, reduceCtorEq, Nat.reduceEqDiff, Nat.reduceAdd, Nat.reduceLeDiff, Nat.reduceBNe, Nat.reduceLT, Nat.reduceBEq, Nat.reduceSub, Nat.reduceMul, Int.reduceLT, Int.reduceLE, Int.reduceEq, Int.reduceToNat, Int.reduceNeg, Pk.TY_State]
   exact ⟨_, _, _, rfl, .inl ⟨rfl, rfl, rfl, rfl, ht⟩⟩
  ·have hf := hbad (by rw [c, c2]; rfl)
   rw [c2] at his
   simp +decide only [K_q1r_0, l_q1r_0, h0, h3, hLl, hsd, his, hll, hd, hw, b0, b1, c, Int.toNat_natCast, guardR_und, Pk.EVL, Pk.EVD, ↓reduceIte, reduceCtorEq, Nat.reduceEqDiff, Nat.reduceAdd, Nat.reduceLeDiff, Nat.reduceBNe, Nat.reduceLT, Nat.reduceBEq, Nat.reduceSub, Nat.reduceMul, Int.reduceLT, Int.reduceLE, Int.reduceEq, Int.reduceToNat, Int.reduceNeg, Pk.TY_State]
   exact ⟨_, _, _, rfl, .inr ⟨by simp, .inr ⟨rfl, rfl, rfl, hf⟩⟩⟩
 ·rintro T H ⟨h0, h3, rfl, ha⟩
  rw [List.take_length] at ha
  have hd : decide (((L.length : Nat) : Int) < ((L.length : Nat) : Int)) = false := by simp
  simp +decide only [K_q1r_0, l_q1r_0, h0, h3, hLl, hd, Pk.EVL, Pk.EVD, ↓reduceIte, reduceCtorEq, Nat.reduceEqDiff, Nat.reduceAdd, Nat.reduceLeDiff, Nat.reduceBNe, Nat.reduceLT, Nat.reduceBEq, Nat.reduceSub, Nat.reduceMul, Int.reduceLT, Int.reduceLE, Int.reduceEq, Int.reduceToNat, Int.reduceNeg]
  exact ⟨_, _, _, rfl, by simp, .inl ⟨rfl, rfl, rfl, ha⟩⟩
 rintro e T H (⟨rfl, h0, rfl, ha⟩ | ⟨rfl, h2, rfl, ha⟩)
 ·unfold few25
  rw [ha, Bool.true_and]
  simp +decide only [h0, hLl, Pk.EVL, Pk.EVD, ↓reduceIte, reduceCtorEq, Nat.reduceEqDiff, Nat.reduceAdd, Nat.reduceLeDiff, Nat.reduceBNe, Nat.reduceLT, Nat.reduceBEq, Nat.reduceSub, Nat.reduceMul, Int.reduceLT, Int.reduceLE, Int.reduceEq, Int.reduceToNat, Int.reduceNeg]
 ·unfold few25
  rw [ha, Bool.false_and]
  simp +decide only [h2, Pk.EVL, Pk.EVD, ↓reduceIte, reduceCtorEq, Nat.reduceEqDiff, Nat.reduceAdd, Nat.reduceLeDiff, Nat.reduceBNe, Nat.reduceLT, Nat.reduceBEq, Nat.reduceSub, Nat.reduceMul, Int.reduceLT, Int.reduceLE, Int.reduceEq, Int.reduceToNat, Int.reduceNeg]
end Go.Proofs.YthlpognahlnaaaaGreat
