/- The reference's states: alike, found, cut, folded, added. -/
import Derived.Test.YthlpognahlnaaaaGreatPkEvd
import Derived.Test.YthlpognahlnaaaaGreatPgR
set_option linter.all false
namespace Go.Proofs.YthlpognahlnaaaaGreat
open Pv Go Pk
set_option maxRecDepth 10000
set_option maxHeartbeats 2000000
theorem refsame_at (s t : State) (hl : s.log.length ≤ 1000) : evF C F_q2i [.d (.agg s.cs), .d (.agg t.cs)] [] = some (.d (.b (decide (s = t))), []) := by
 rw [evF_code (rfl : C F_q2i = some a_q2i) _ _ rfl]
 have fin : ∀ {r : Bool}, (s = t ↔ r = true) → decide (s = t) = r := fun {r} h => by
  cases r with
  | true => exact decide_eq_true (h.2 rfl)
  | false => exact decide_eq_false fun hh => by simpa using h.1 hh
 have ext : s = t ↔ s.started = t.started ∧ s.base = t.base ∧ s.tail = t.tail ∧ s.log = t.log := by cases s; cases t; simp
 have nb : ∀ a b : Int, (a != b) = !(a == b) := fun _ _ => rfl
 rcases Bool.eq_false_or_eq_true (s.started == t.started) with c1 | c1
 case inr =>
  have k1 : ¬ s.started = t.started := by simpa using c1
  rw [fin (r := false) (by rw [ext]; simp [k1])]
  simp +decide only [c_q2i, nb, c1, guardR_und, Bool.not_false, Pk.EVL, Pk.EVD, ↓reduceIte, reduceCtorEq, Nat.reduceEqDiff, Nat.reduceAdd, Nat.reduceLeDiff, Nat.reduceBNe, Nat.reduceLT, Nat.reduceBEq, Nat.reduceSub, Nat.reduceMul, Int.reduceLT, Int.reduceLE, Int.reduceEq, Int.reduceToNat, Int.reduceNeg, Pk.TY_State, Pk.TY_Base, Pk.TY_Entry]
 have k1 : s.started = t.started := by simpa using c1
 rcases Bool.eq_false_or_eq_true (decide (s.base = t.base)) with c2 | c2
 case inr =>
  rw [fin (r := false) (by rw [ext]; simp [of_decide_eq_false c2])]
  simp +decide only [c_q2i, nb, c1, c2, guardR_und, Bool.not_false, Bool.not_true, Pk.EVL, Pk.EVD, ↓reduceIte, reduceCtorEq, Nat.reduceEqDiff, Nat.reduceAdd, Nat.reduceLeDiff, Nat.reduceBNe, Nat.reduceLT, Nat.reduceBEq, Nat.reduceSub, Nat.reduceMul, Int.reduceLT, Int.reduceLE, Int.reduceEq, Int.reduceToNat, Int.reduceNeg, Pk.TY_State, Pk.TY_Base, Pk.TY_Entry]
 rcases Bool.eq_false_or_eq_true (decide (s.tail = t.tail)) with c3 | c3
 case inr =>
  rw [fin (r := false) (by rw [ext]; simp [of_decide_eq_false c3])]
  simp +decide only [c_q2i, nb, c1, c2, c3, guardR_und, Bool.not_false, Bool.not_true, Pk.EVL, Pk.EVD, ↓reduceIte, reduceCtorEq, Nat.reduceEqDiff, Nat.reduceAdd, Nat.reduceLeDiff, Nat.reduceBNe, Nat.reduceLT, Nat.reduceBEq, Nat.reduceSub, Nat.reduceMul, Int.reduceLT, Int.reduceLE, Int.reduceEq, Int.reduceToNat, Int.reduceNeg, Pk.TY_State, Pk.TY_Base, Pk.TY_Entry]
 have hred : ∀ {r : Bool}, (s.log = t.log ↔ r = true) → decide (s = t) = r := fun {r} h => fin (by rw [ext]; simp only [k1, of_decide_eq_true c2, of_decide_eq_true c3, true_and]; exact h)
 by_cases c : s.log.length = t.log.length
 case neg =>
  have hne : (((s.log.length : Nat) : Int) == ((t.log.length : Nat) : Int)) = false := by rw [beq_eq_false_iff_ne]; omega
  rw [hred (r := false) (by simp; intro h; exact c (by rw [h]))]
  simp +decide only [c_q2i, nb, c1, c2, c3, hne, guardR_und, Bool.not_false, Bool.not_true, Pk.EVL, Pk.EVD, ↓reduceIte, reduceCtorEq, Nat.reduceEqDiff, Nat.reduceAdd, Nat.reduceLeDiff, Nat.reduceBNe, Nat.reduceLT, Nat.reduceBEq, Nat.reduceSub, Nat.reduceMul, Int.reduceLT, Int.reduceLE, Int.reduceEq, Int.reduceToNat, Int.reduceNeg, Pk.TY_State, Pk.TY_Base, Pk.TY_Entry]
 have hne : (((s.log.length : Nat) : Int) == ((t.log.length : Nat) : Int)) = true := by simp; omega
 simp +decide only [c_q2i, nb, c1, c2, c3, hne, guardR_und, Bool.not_false, Bool.not_true, Pk.EVL, Pk.EVD, ↓reduceIte, reduceCtorEq, Nat.reduceEqDiff, Nat.reduceAdd, Nat.reduceLeDiff, Nat.reduceBNe, Nat.reduceLT, Nat.reduceBEq, Nat.reduceSub, Nat.reduceMul, Int.reduceLT, Int.reduceLE, Int.reduceEq, Int.reduceToNat, Int.reduceNeg, Pk.TY_State, Pk.TY_Base, Pk.TY_Entry]
 simp only [Option.bind_assoc]
 refine bind_run (loop_run (fun i T H => lk T 2 = .ptr 0 0 ∧ lk T 3 = .ptr 1 0 ∧ lk T 5 = .d (.i .i64 (i : Nat)) ∧ H = [.box (.d (.agg s.cs)), .box (.d (.agg t.cs))] ∧ s.log.take i = t.log.take i)
  (fun e T H => H = [.box (.d (.agg s.cs)), .box (.d (.agg t.cs))] ∧ ((e = .exit 0 ∧ s.log = t.log) ∨ (e = .ret ∧ lk T 4 = .d (.b false) ∧ s.log ≠ t.log))) s.log.length ?_ ?_ s.log.length 0 _ _ (by omega) ⟨rfl, rfl, rfl, rfl, rfl⟩) ?_
 ·rintro i T H hi ⟨h2, h3, h5, rfl, ht⟩
  obtain ⟨x, hx⟩ : ∃ x, s.log[i]? = some x := ⟨s.log[i]'hi, List.getElem?_eq_getElem _⟩
  obtain ⟨y, hy⟩ : ∃ y, t.log[i]? = some y := ⟨t.log[i]'(by omega), List.getElem?_eq_getElem _⟩
  have kx := list_idx Entry.d hx
  have ky := list_idx Entry.d hy
  have hd : decide ((i : Int) < ((s.log.length : Nat) : Int)) = true := by simp; omega
  have hw : IntKind.i64.wrap ((i : Int) + 1) = ((i + 1 : Nat) : Int) := wi64 (by omega)
  have b0 : (0 ≤ (i : Int)) = True := by simp
  by_cases e : x = y
  ·have hde := decide_eq_true e
   simp +decide only [K_q2i_0, l_q2i_0, h2, h3, h5, hd, hw, b0, kx, ky, hde, Pk.EVL, Pk.EVD, ↓reduceIte, reduceCtorEq, Nat.reduceEqDiff, Nat.reduceAdd, Nat.reduceLeDiff, Nat.reduceBNe, Nat.reduceLT, Nat.reduceBEq, Nat.reduceSub, Nat.reduceMul, Int.reduceLT, Int.reduceLE, Int.reduceEq, Int.reduceToNat, Int.reduceNeg, Pk.TY_State, Pk.TY_Entry]
   refine ⟨_, _, _, rfl, ?_⟩
   exact .inl ⟨rfl, rfl, rfl, rfl, rfl, (take_eq_succ hx hy).2 ⟨ht, e⟩⟩
  ·have hde := decide_eq_false e
   simp +decide only [K_q2i_0, l_q2i_0, h2, h3, h5, hd, hw, b0, kx, ky, hde, Bool.not_false, Pk.EVL, Pk.EVD, ↓reduceIte, reduceCtorEq, Nat.reduceEqDiff, Nat.reduceAdd, Nat.reduceLeDiff, Nat.reduceBNe, Nat.reduceLT, Nat.reduceBEq, Nat.reduceSub, Nat.reduceMul, Int.reduceLT, Int.reduceLE, Int.reduceEq, Int.reduceToNat, Int.reduceNeg, Pk.TY_State, Pk.TY_Entry]
   refine ⟨_, _, _, rfl, ?_⟩
   refine .inr ⟨by simp, rfl, .inr ⟨rfl, rfl, fun h => ?_⟩⟩
   rw [h, hy] at hx
   exact e (by simpa using hx.symm)
 ·rintro T H ⟨h2, h3, h5, rfl, ht⟩
  have hd : decide (((s.log.length : Nat) : Int) < ((s.log.length : Nat) : Int)) = false := by simp
  simp +decide only [K_q2i_0, l_q2i_0, h2, h3, h5, hd, Pk.EVL, Pk.EVD, ↓reduceIte, reduceCtorEq, Nat.reduceEqDiff, Nat.reduceAdd, Nat.reduceLeDiff, Nat.reduceBNe, Nat.reduceLT, Nat.reduceBEq, Nat.reduceSub, Nat.reduceMul, Int.reduceLT, Int.reduceLE, Int.reduceEq, Int.reduceToNat, Int.reduceNeg, Pk.TY_State, Pk.TY_Entry]
  refine ⟨_, _, _, rfl, ?_⟩
  rw [List.take_length, c, List.take_length] at ht
  exact ⟨by simp, rfl, .inl ⟨rfl, ht⟩⟩
 rintro e T H ⟨rfl, ⟨rfl, h⟩ | ⟨rfl, h4, h⟩⟩
 ·rw [hred (r := true) (by simp [h])]
  simp +decide only [Pk.EVL, Pk.EVD, ↓reduceIte, reduceCtorEq, Nat.reduceEqDiff, Nat.reduceAdd, Nat.reduceLeDiff, Nat.reduceBNe, Nat.reduceLT, Nat.reduceBEq, Nat.reduceSub, Nat.reduceMul, Int.reduceLT, Int.reduceLE, Int.reduceEq, Int.reduceToNat, Int.reduceNeg]
 ·rw [hred (r := false) (by simp [h])]
  simp +decide only [h4, Pk.EVL, Pk.EVD, ↓reduceIte, reduceCtorEq, Nat.reduceEqDiff, Nat.reduceAdd, Nat.reduceLeDiff, Nat.reduceBNe, Nat.reduceLT, Nat.reduceBEq, Nat.reduceSub, Nat.reduceMul, Int.reduceLT, Int.reduceLE, Int.reduceEq, Int.reduceToNat, Int.reduceNeg]

/-! folding, one by one -/
def popS (s : State) (e : Entry) (l : List Entry) : State := { s with base := (doOp s.base e.op).1, tail := ⟨e.since, e.n, ⟨0, 0, 0, 0, 0, ⟨#[]⟩⟩⟩, log := l }
theorem folded_succ (s : State) (j : Nat) (e : Entry) (h : s.log[j]? = some e) : foldedS s (j + 1) = popS (foldedS s j) e (s.log.drop (j + 1)) := by
 unfold foldedS popS
 rw [take_succ' h, List.foldl_append]
 rfl
theorem folded_fit {s : State} (ho : stOk s) (h : isSt s = true) (j : Nat) : Base.fit (foldedS s j).base :=
 foldl_fit (isSt_fit h) fun e he => ho.log e (List.mem_of_mem_take he)
/-! up to a number -/
theorem refupto_at (s : State) (hs : stFull s) (n : Int) : evF C F_q2k [.d (.agg s.cs), .d (.i .u32 n)] [] = some (.tup [.d (.agg (uptoS s n).1.cs), .d (.b (uptoS s n).2)], []) := by
 rw [evF_code (rfl : C F_q2k = some a_q2k) _ _ rfl]
 have hi := refis_st s hs
 have hh := refhead_at s hs
 unfold uptoS plS
 by_cases c : isSt s = true
 case neg =>
  rw [if_neg c]
  have c := eq_false_of_ne_true c
  simp +decide only [c_q2k, hi, hh, c, guardR_und, Pk.EVL, Pk.EVD, ↓reduceIte, reduceCtorEq, Nat.reduceEqDiff, Nat.reduceAdd, Nat.reduceLeDiff, Nat.reduceBNe, Nat.reduceLT, Nat.reduceBEq, Nat.reduceSub, Nat.reduceMul, Int.reduceLT, Int.reduceLE, Int.reduceEq, Int.reduceToNat, Int.reduceNeg, Pk.TY_State, Pk.TY_Base]
 rw [if_pos c]
 have hhs : headS s = ((lastE s).since, (lastE s).n) := by unfold headS; rw [if_pos c]
 rw [hhs] at hh
 cases hk : placeS s n with
 | none =>
  unfold placeS at hk
  by_cases h1 : n < s.tail.n
  ·have h1 := decide_eq_true h1
   simp +decide only [c_q2k, hi, hh, c, h1, guardR_und, Pk.EVL, Pk.EVD, ↓reduceIte, reduceCtorEq, Nat.reduceEqDiff, Nat.reduceAdd, Nat.reduceLeDiff, Nat.reduceBNe, Nat.reduceLT, Nat.reduceBEq, Nat.reduceSub, Nat.reduceMul, Int.reduceLT, Int.reduceLE, Int.reduceEq, Int.reduceToNat, Int.reduceNeg, Pk.TY_State, Pk.TY_Base, Pk.TY_Entry]
  ·by_cases h2 : n > (lastE s).n
   ·have h1 := decide_eq_false h1
    have h2 := decide_eq_true h2
    simp +decide only [c_q2k, hi, hh, c, h1, h2, guardR_und, Pk.EVL, Pk.EVD, ↓reduceIte, reduceCtorEq, Nat.reduceEqDiff, Nat.reduceAdd, Nat.reduceLeDiff, Nat.reduceBNe, Nat.reduceLT, Nat.reduceBEq, Nat.reduceSub, Nat.reduceMul, Int.reduceLT, Int.reduceLE, Int.reduceEq, Int.reduceToNat, Int.reduceNeg, Pk.TY_State, Pk.TY_Base, Pk.TY_Entry]
   ·rw [if_neg (by omega)] at hk
    simp at hk
 | some k =>
  obtain ⟨hn, hkl⟩ := place_some hs.ok c hk
  have hll := isSt_len c
  have hlast := last_n hs.ok c
  have h1 : decide (n < s.tail.n) = false := by simp; omega
  have h2 : decide (n > (lastE s).n) = false := by simp; omega
  have hnum := (chain_n hs.n (isSt_chain c)).1
  have hfit := fun j => folded_fit hs.ok c j
  have hbase : ∀ (j : Nat) (e : Entry), s.log[j]? = some e → (foldedS s (j + 1)).base = (doOp (foldedS s j).base e.op).1 := fun j e h => by rw [folded_succ s j e h]; rfl
  have hb0 : (foldedS s 0).base = s.base := rfl
  simp +decide only [c_q2k, hi, hh, c, h1, h2, guardR_und, Pk.EVL, Pk.EVD, ↓reduceIte, reduceCtorEq, Nat.reduceEqDiff, Nat.reduceAdd, Nat.reduceLeDiff, Nat.reduceBNe, Nat.reduceLT, Nat.reduceBEq, Nat.reduceSub, Nat.reduceMul, Int.reduceLT, Int.reduceLE, Int.reduceEq, Int.reduceToNat, Int.reduceNeg, Pk.TY_State, Pk.TY_Base, Pk.TY_Entry]
  simp only [Option.bind_assoc]
  refine bind_run (loop_run (fun i T H => lk T 1 = .d (.i .u32 n) ∧ lk T 2 = .ptr 0 0 ∧ lk T 4 = .ptr 1 0 ∧ lk T 8 = .ptr 2 0 ∧ lk T 9 = .d (.i .i64 (i : Nat)) ∧ H = [.box (.d (.agg s.cs)), .box (.d (.agg Base.zero.cs)), .box (.d (.agg (foldedS s i).base.cs))])
   (fun e T H => e = .exit 0 ∧ lk T 4 = .ptr 1 0 ∧ lk T 8 = .ptr 2 0 ∧ H = [.box (.d (.agg s.cs)), .box (.d (.agg Base.zero.cs)), .box (.d (.agg (foldedS s k).base.cs))]) k ?_ ?_ k 0 _ _ (by omega) ⟨rfl, rfl, rfl, rfl, rfl, by rw [hb0]⟩) ?_
  ·rintro i T H hik ⟨g1, g2, g4, g8, g9, rfl⟩
   obtain ⟨e, he⟩ : ∃ e, s.log[i]? = some e := ⟨s.log[i]'(by omega), List.getElem?_eq_getElem _⟩
   have hx := list_idx Entry.d he
   have heo := hs.log e (List.mem_of_getElem? he)
   have hen := hnum i e he
   have hd : decide ((i : Int) < ((s.log.length : Nat) : Int)) = true := by simp; omega
   have hle : decide (e.n ≤ n) = true := by simp; omega
   have hw : IntKind.i64.wrap ((i : Int) + 1) = ((i + 1 : Nat) : Int) := wi64 (by omega)
   have b0 : (0 ≤ (i : Int)) = True := by simp
   have hdo := refDo_at (foldedS s i).base e.op (hfit i) heo.2.2
   have hdl : (List.drop 2 e.cs).length = 6 := rfl
   rw [hbase i e he]
   generalize (foldedS s i).base = b at *
   simp +decide only [K_q2k_0, l_q2k_0, g1, g2, g4, g8, g9, hd, hle, hw, b0, hx, hdo, hdl, guardR_und, Pk.EVL, Pk.EVD, ↓reduceIte, reduceCtorEq, Nat.reduceEqDiff, Nat.reduceAdd, Nat.reduceLeDiff, Nat.reduceBNe, Nat.reduceLT, Nat.reduceBEq, Nat.reduceSub, Nat.reduceMul, Int.reduceLT, Int.reduceLE, Int.reduceEq, Int.reduceToNat, Int.reduceNeg, Pk.TY_State, Pk.TY_Base, Pk.TY_Entry, Pk.TY_Opr]
   refine ⟨_, _, _, rfl, ?_⟩
   exact .inl ⟨rfl, rfl, rfl, rfl, rfl, rfl, rfl⟩
  ·rintro T H ⟨g1, g2, g4, g8, g9, rfl⟩
   generalize (foldedS s k).base = b at *
   rcases Bool.eq_false_or_eq_true (decide ((k : Int) < ((s.log.length : Nat) : Int))) with hd | hd
   ·obtain ⟨e, he⟩ : ∃ e, s.log[k]? = some e := ⟨s.log[k]'(by have := of_decide_eq_true hd; omega), List.getElem?_eq_getElem _⟩
    have hx := list_idx Entry.d he
    have hen := hnum k e he
    have hle : decide (e.n ≤ n) = false := by simp; omega
    have b0 : (0 ≤ (k : Int)) = True := by simp
    simp +decide only [K_q2k_0, l_q2k_0, g1, g2, g4, g8, g9, hd, hle, b0, hx, guardR_und, Pk.EVL, Pk.EVD, ↓reduceIte, reduceCtorEq, Nat.reduceEqDiff, Nat.reduceAdd, Nat.reduceLeDiff, Nat.reduceBNe, Nat.reduceLT, Nat.reduceBEq, Nat.reduceSub, Nat.reduceMul, Int.reduceLT, Int.reduceLE, Int.reduceEq, Int.reduceToNat, Int.reduceNeg, Pk.TY_State, Pk.TY_Base, Pk.TY_Entry]
    refine ⟨_, _, _, rfl, ?_⟩
    exact ⟨by simp, rfl, rfl, rfl, rfl⟩
   ·simp +decide only [K_q2k_0, l_q2k_0, g1, g2, g4, g8, g9, hd, guardR_und, Pk.EVL, Pk.EVD, ↓reduceIte, reduceCtorEq, Nat.reduceEqDiff, Nat.reduceAdd, Nat.reduceLeDiff, Nat.reduceBNe, Nat.reduceLT, Nat.reduceBEq, Nat.reduceSub, Nat.reduceMul, Int.reduceLT, Int.reduceLE, Int.reduceEq, Int.reduceToNat, Int.reduceNeg, Pk.TY_State, Pk.TY_Base, Pk.TY_Entry]
    refine ⟨_, _, _, rfl, ?_⟩
    exact ⟨by simp, rfl, rfl, rfl, rfl⟩
  rintro e T H ⟨rfl, g4, g8, rfl⟩
  generalize (foldedS s k).base = b at *
  simp +decide only [g4, g8, Pk.EVL, Pk.EVD, ↓reduceIte, reduceCtorEq, Nat.reduceEqDiff, Nat.reduceAdd, Nat.reduceLeDiff, Nat.reduceBNe, Nat.reduceLT, Nat.reduceBEq, Nat.reduceSub, Nat.reduceMul, Int.reduceLT, Int.reduceLE, Int.reduceEq, Int.reduceToNat, Int.reduceNeg, Pk.TY_State, Pk.TY_Base, Pk.TY_Entry]
theorem reffold_at (s : State) (hs : stFull s) : evF C F_q2e [.d (.agg s.cs)] [] = some (.d (.agg (foldS s).cs), []) := by
 rw [evF_code (rfl : C F_q2e = some a_q2e) _ _ rfl]
 have hh := refhead_at s hs
 have hu := refupto_at s hs (headS s).2
 have hf : (uptoS s (headS s).2).1 = foldS s := by
  unfold uptoS plS foldS headS
  by_cases c : isSt s = true
  ·rw [if_pos c, if_pos c, if_pos c]
   simp only
   rw [(last_n hs.ok c).1, place_is hs.ok c (Nat.le_refl _)]
  ·rw [if_neg c, if_neg c]
 rw [hf] at hu
 generalize headS s = h at *
 simp +decide only [c_q2e, hh, hu, Pk.EVL, Pk.EVD, ↓reduceIte, reduceCtorEq, Nat.reduceEqDiff, Nat.reduceAdd, Nat.reduceLeDiff, Nat.reduceBNe, Nat.reduceLT, Nat.reduceBEq, Nat.reduceSub, Nat.reduceMul, Int.reduceLT, Int.reduceLE, Int.reduceEq, Int.reduceToNat, Int.reduceNeg, Pk.TY_State, Pk.TY_Base]
end Go.Proofs.YthlpognahlnaaaaGreat
