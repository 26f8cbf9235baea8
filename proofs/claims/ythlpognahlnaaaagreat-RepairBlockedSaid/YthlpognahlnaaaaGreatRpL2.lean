/- The law RepairBlocked. -/
import Derived.Test.YthlpognahlnaaaaGreatPkEvd
import Derived.Test.YthlpognahlnaaaaGreatRpQ
set_option linter.all false
namespace Go.Proofs.YthlpognahlnaaaaGreat
open Pv Go Pk
set_option maxRecDepth 10000
set_option maxHeartbeats 4000000
/-- Who was heard, of the first ones; their states. -/
def selO (O : List Bool) : Nat → List Int
 | 0 => []
 | i + 1 => selO O i ++ (if O.getD i false = true then [(i : Int)] else [])
def selL (O : List Bool) (L : List State) : Nat → List State
 | 0 => []
 | i + 1 => selL O L i ++ (if O.getD i false = true then [L.getD i State.zero] else [])
theorem sel_len (O : List Bool) (L : List State) : ∀ i, (selL O L i).length = (selO O i).length ∧ (selO O i).length ≤ i
 | 0 => ⟨rfl, Nat.le_refl _⟩
 | i + 1 => by
  obtain ⟨h1, h2⟩ := sel_len O L i
  unfold selO selL
  by_cases c : O.getD i false = true
  ·rw [if_pos c, if_pos c]
   simp only [List.length_append, List.length_cons, List.length_nil]
   omega
  ·rw [if_neg c, if_neg c, List.append_nil, List.append_nil]
   omega
theorem selO_lt (O : List Bool) : ∀ i, ∀ x ∈ selO O i, x < (i : Int)
 | 0, x, h => by simp [selO] at h
 | i + 1, x, h => by
  unfold selO at h
  rcases List.mem_append.1 h with h | h
  ·have := selO_lt O i x h; omega
  ·split at h
   ·simp at h; omega
   ·simp at h
def ascI (l : List Int) : Prop := ∀ (i : Nat) (a b : Int), l[i]? = some a → l[i + 1]? = some b → a < b
theorem asc_snoc {l : List Int} (h : ascI l) {y : Int} (hy : ∀ x ∈ l, x < y) : ascI (l ++ [y]) := by
 intro i a b h1 h2
 by_cases c : i + 1 < l.length
 ·rw [List.getElem?_append_left (by omega)] at h1
  rw [List.getElem?_append_left c] at h2
  exact h i a b h1 h2
 ·by_cases c2 : i + 1 = l.length
  ·rw [List.getElem?_append_left (by omega)] at h1
   rw [c2, List.getElem?_concat_length] at h2
   cases h2
   exact hy a (List.mem_of_getElem? h1)
  ·rw [List.getElem?_eq_none (by simp; omega)] at h2
   simp at h2
theorem selO_asc (O : List Bool) : ∀ i, ascI (selO O i)
 | 0 => by intro i a b h1 _; simp [selO] at h1
 | i + 1 => by
  unfold selO
  split
  ·exact asc_snoc (selO_asc O i) (selO_lt O i)
  ·rw [List.append_nil]; exact selO_asc O i
theorem selO_mem (O : List Bool) (j : Nat) : ∀ i, ((j : Int) ∈ selO O i ↔ j < i ∧ O.getD j false = true)
 | 0 => by simp [selO]
 | i + 1 => by
  unfold selO
  rw [List.mem_append, selO_mem O j i]
  by_cases c : O.getD i false = true
  ·rw [if_pos c, List.mem_singleton]
   constructor
   ·rintro (⟨h1, h2⟩ | h)
    ·exact ⟨by omega, h2⟩
    ·have : j = i := by omega
     subst this
     exact ⟨by omega, c⟩
   ·rintro ⟨h1, h2⟩
    by_cases h : j < i
    ·exact .inl ⟨h, h2⟩
    ·exact .inr (by omega)
  ·rw [if_neg c]
   constructor
   ·rintro (⟨h1, h2⟩ | h)
    ·exact ⟨by omega, h2⟩
    ·simp at h
   ·rintro ⟨h1, h2⟩
    by_cases h : j < i
    ·exact .inl ⟨h, h2⟩
    ·have : j = i := by omega
     subst this
     exact absurd h2 c
theorem selL_mem {O : List Bool} {L : List State} : ∀ i, i ≤ L.length → ∀ s ∈ selL O L i, s ∈ L
 | 0, _, s, h => by simp [selL] at h
 | i + 1, hi, s, h => by
  unfold selL at h
  rcases List.mem_append.1 h with h | h
  ·exact selL_mem i (by omega) s h
  ·split at h
   ·simp only [List.mem_singleton] at h
    rw [h, List.getD_eq_getElem?_getD, List.getElem?_eq_getElem (by omega)]
    exact List.getElem_mem _
   ·simp at h
theorem acts0 : ((lastI (ivL [] 0)).acting.all fun x => decide (0 ≤ x ∧ x < 5)) = true ∧ ((lastI (ivL [] 1)).acting.all fun x => decide (0 ≤ x ∧ x < 5)) = true ∧ ((lastI (ivL [] 2)).acting.all fun x => decide (0 ≤ x ∧ x < 5)) = true ∧ ((lastI (ivL [] 3)).acting.all fun x => decide (0 ≤ x ∧ x < 5)) = true ∧
  (lastI (ivL [] 0)).acting.length = 3 ∧ (lastI (ivL [] 1)).acting.length = 3 ∧ (lastI (ivL [] 2)).acting.length = 3 ∧ (lastI (ivL [] 3)).acting.length = 3 := by decide +kernel
theorem act_of (g : Int) (hg : 0 ≤ g ∧ g < 4) : (lastI (ivL [] g)).acting.length = 3 ∧ ∀ x ∈ (lastI (ivL [] g)).acting, ∃ j : Nat, x = (j : Int) ∧ j < 5 := by
 have key : ((lastI (ivL [] g)).acting.all fun x => decide (0 ≤ x ∧ x < 5)) = true ∧ (lastI (ivL [] g)).acting.length = 3 := by
  obtain ⟨a, b, c, d, e, f, h, i⟩ := acts0
  obtain rfl | rfl | rfl | rfl : g = 0 ∨ g = 1 ∨ g = 2 ∨ g = 3 := by omega
  ·exact ⟨a, e⟩
  ·exact ⟨b, f⟩
  ·exact ⟨c, h⟩
  ·exact ⟨d, i⟩
 refine ⟨key.2, fun x hx => ?_⟩
 have := List.all_eq_true.1 key.1 x hx
 simp only [decide_eq_true_eq] at this
 exact ⟨x.toNat, by omega, by omega⟩
def allO (O : List Bool) (A : List Int) : Bool := A.all fun x => O.getD x.toNat false
theorem allO_enough (O : List Bool) {A : List Int} (hA : ∀ x ∈ A, ∃ j : Nat, x = (j : Int) ∧ j < 5) : (A.all fun x => decide (x ∈ selO O 5)) = allO O A := by
 unfold allO
 rw [Bool.eq_iff_iff, List.all_eq_true, List.all_eq_true]
 constructor
 ·intro h x hx
  obtain ⟨j, rfl, hj⟩ := hA x hx
  have := of_decide_eq_true (h _ hx)
  rw [selO_mem] at this
  rw [Int.toNat_natCast]
  exact this.2
 ·intro h x hx
  obtain ⟨j, rfl, hj⟩ := hA x hx
  have := h _ hx
  rw [Int.toNat_natCast] at this
  exact decide_eq_true ((selO_mem O j 5).2 ⟨hj, this⟩)
theorem sel_view (O : List Bool) (L : List State) (i : Nat) : ((selO O i).map fun x : Int => DV.i .i64 x).length = (selO O i).length ∧ ((selL O L i).map State.d).length = (selO O i).length := by
 rw [List.length_map, List.length_map, (sel_len O L i).1]
 exact ⟨rfl, rfl⟩
theorem blocked_law (gr : Int) (hgr : 0 ≤ gr ∧ gr < 256) (O : List Bool) (hO : O.length = 5) (L : List State) (hL : L.length ≤ maxLen) (hf : ∀ x ∈ L, stFull x) : evF C F_q1n [.d (.i .u8 gr), .d (.agg (O.map .b)), .d (.sl (L.map State.d))] [] = some (.d (.b true), []) := by
 have hLl : (L.map State.d).length = L.length := List.length_map _
 have hfew := few25_at L hL hf
 have hkn := known25_at
 rw [evF_code (rfl : C F_q1n = some a_q1n) _ _ rfl]
 rcases (Bool.eq_false_or_eq_true (few25 L)).symm with c1 | c1
 ·simp +decide only [c_q1n, hkn, hfew, hLl, c1, guardR_und, Pk.EVL, Pk.EVD, ↓reduceIte, reduceCtorEq, Nat.reduceEqDiff, Nat.reduceAdd, Nat.reduceLeDiff, Nat.reduceBNe, Nat.reduceLT, Nat.reduceBEq, Nat.reduceSub, Nat.reduceMul, Int.reduceLT, Int.reduceLE, Int.reduceEq, Int.reduceToNat, Int.reduceNeg]
 rcases Bool.eq_false_or_eq_true (decide (((L.length : Nat) : Int) < 5)) with c2 | c2
 ·simp +decide only [c_q1n, hkn, hfew, hLl, c1, c2, guardR_und, Pk.EVL, Pk.EVD, ↓reduceIte, reduceCtorEq, Nat.reduceEqDiff, Nat.reduceAdd, Nat.reduceLeDiff, Nat.reduceBNe, Nat.reduceLT, Nat.reduceBEq, Nat.reduceSub, Nat.reduceMul, Int.reduceLT, Int.reduceLE, Int.reduceEq, Int.reduceToNat, Int.reduceNeg]
 have hL5 : L.length = 5 := by
  have h1 := of_decide_eq_false c2
  have h2 := c1
  unfold few25 at h2
  rw [Bool.and_eq_true] at h2
  have := of_decide_eq_true h2.2
  omega
 have hst : ∀ s ∈ L, stOk s ∧ isSt s = true := fun s hs => by
  refine ⟨(hf s hs).ok, ?_⟩
  have h2 := c1
  unfold few25 at h2
  rw [Bool.and_eq_true, List.all_eq_true] at h2
  have := h2.1 s hs
  rw [Bool.and_eq_true] at this
  exact this.2
 obtain ⟨p, hP⟩ : ∃ p, ([.box (.d (.agg (O.map .b)))] : Heap).length = p := ⟨_, rfl⟩
 obtain ⟨n, hn⟩ : ∃ n, p + 12 = n := ⟨_, rfl⟩
 have hPp : plain [.box (.d (.agg (O.map .b)))] := by rw [plain_box]; exact fun _ => rfl
 have hnew := h_new hP
 have hnew0 := h_new (P := []) rfl
 have hl := hh_len hP hn
 have ha := hh_at hP hn
 have ha0 := hh_at0 hP hn
 have hs := hh_set hP hn
 have hs0 := hh_set0 hP hn
 have ht := hh_take hP hn
 have ht0 := hh_take0 hP hn
 have hat : ∀ l q Y, (hh [.box (.d (.agg (O.map .b)))] p l q Y)[0]? = some (.box (.d (.agg (O.map .b)))) := fun _ _ _ => rfl
 have hOl : (O.map DV.b).length = 5 := by rw [List.length_map]; exact hO
 obtain ⟨g, hg⟩ : ∃ g, gr.tmod 4 = g := ⟨_, rfl⟩
 have hg4 : 0 ≤ g ∧ g < 4 := by
  obtain ⟨k, rfl⟩ := Int.eq_ofNat_of_zero_le hgr.1
  rw [← hg]
  show 0 ≤ ((k % 4 : Nat) : Int) ∧ ((k % 4 : Nat) : Int) < 4
  omega
 have hge : IntKind.u8.wrap g = g := wu8 (by omega)
 have C0 := fun X (hX : plain X) => @h_acting _ _ hP hPp [] good_nil _ grb0_pl X hX g hg4.1
 obtain ⟨hA3, hAj⟩ := act_of g hg4
 have hEN := fun st => enough0 g hg4 (selO O 5) st
 rw [allO_enough O hAj] at hEN
 generalize (lastI (ivL [] g)).acting = A at *
 have hAl : (A.map fun x => DV.i .i64 x).length = A.length := List.length_map _
 have m1 : (1 ≤ n) = True := eq_true (by omega)
 have m2 : (0 < n) = True := eq_true (by omega)
 have m3 : (p + 2 < n) = True := eq_true (by omega)
 simp +decide only [c_q1n, hkn, hfew, hLl, c1, c2, hg, hge, hnew0, hnew, C0, m1, m2, thaws, thaw, hl, ha, ha0, hs, hs0, ht, ht0, hh_push, Nat.zero_le, Nat.le_refl, List.take_zero, plain_nil, plain_arr, plain_box, guardR_und, Pk.EVL, Pk.EVD, ↓reduceIte, reduceCtorEq, Nat.reduceEqDiff, Nat.reduceAdd, Nat.reduceLeDiff, Nat.reduceBNe, Nat.reduceLT, Nat.reduceBEq, Nat.reduceSub, Nat.reduceMul, Int.reduceLT, Int.reduceLE, Int.reduceEq, Int.reduceToNat, Int.reduceNeg]
 simp only [Option.bind_assoc]
 refine bind_run (loop_run (fun i T H => lk T 2 = .d (.sl (L.map State.d)) ∧ lk T 4 = .ptr 0 0 ∧ lk T 7 = .d (.i .u8 g) ∧ lk T 8 = .ptr (p + 2) 0 ∧ lk T 9 = .d (.sl (A.map fun x => .i .i64 x)) ∧ lk T 10 = .d (.b (allO O (A.take i))) ∧ lk T 11 = .d (.i .i64 (i : Nat)) ∧ H = hh [.box (.d (.agg (O.map .b)))] p [] grb0 [])
  (fun e T H => e = .exit 0 ∧ lk T 2 = .d (.sl (L.map State.d)) ∧ lk T 4 = .ptr 0 0 ∧ lk T 7 = .d (.i .u8 g) ∧ lk T 8 = .ptr (p + 2) 0 ∧ lk T 10 = .d (.b (allO O A)) ∧ H = hh [.box (.d (.agg (O.map .b)))] p [] grb0 []) A.length ?_ ?_ A.length 0 _ _ (by omega) ⟨rfl, rfl, rfl, rfl, rfl, rfl, rfl, rfl⟩) ?_
 ·rintro i T H hi ⟨h2, h4, h7, h8, h9, h10, h11, rfl⟩
  obtain ⟨x, hx⟩ : ∃ x, A[i]? = some x := ⟨A[i]'hi, List.getElem?_eq_getElem _⟩
  have hxd := list_idx (fun x : Int => DV.i .i64 x) hx
  obtain ⟨j, rfl, hj⟩ := hAj x (List.mem_of_getElem? hx)
  obtain ⟨b, hb⟩ : ∃ b, O[j]? = some b := ⟨O[j]'(by omega), List.getElem?_eq_getElem _⟩
  have hbd := list_idx DV.b hb
  have hbg : O.getD j false = b := by rw [List.getD_eq_getElem?_getD, hb]; rfl
  have hnx : allO O (A.take (i + 1)) = (allO O (A.take i) && b) := by
   unfold allO
   rw [take_succ' hx, List.all_append]
   simp only [List.all_cons, List.all_nil, Bool.and_true, Int.toNat_natCast, hbg]
  rw [hnx]
  have hd : decide ((i : Int) < ((A.length : Nat) : Int)) = true := by simp; omega
  have hw : IntKind.i64.wrap ((i : Int) + 1) = ((i + 1 : Nat) : Int) := wi64 (by omega)
  have x0 : (0 ≤ (i : Int)) = True := by simp
  have x1 : ((i : Int) < ((A.length : Nat) : Int)) = True := eq_true (by omega)
  have y0 : (0 ≤ (j : Int)) = True := by simp
  have y1 : ((j : Int) < ((5 : Nat) : Int)) = True := eq_true (by omega)
  have y2 : (j * 1 + 1 ≤ 5) = True := eq_true (by omega)
  have y3 : (j + 1 ≤ 5) = True := eq_true (by omega)
  have hall := @hh_all0 _ _ _ hP hn hPp [] _ grb0_pl [] (fun _ => rfl)
  generalize allO O (A.take i) = w at *
  cases w with
  | true =>
   simp +decide only [K_q1n_0, l_q1n_0, h2, h4, h7, h8, h9, h10, h11, hAl, hOl, hat, hxd, hbd, hd, hw, x0, x1, y0, y1, y2, y3, hall, m2, m3, ht, ht0, Nat.zero_add, Nat.mul_one, Int.toNat_natCast, ite_self, guardR_und, Pk.EVL, Pk.EVD, ↓reduceIte, reduceCtorEq, Nat.reduceEqDiff, Nat.reduceAdd, Nat.reduceLeDiff, Nat.reduceBNe, Nat.reduceLT, Nat.reduceBEq, Nat.reduceSub, Nat.reduceMul, Int.reduceLT, Int.reduceLE, Int.reduceEq, Int.reduceToNat, Int.reduceNeg]
   exact ⟨_, _, _, rfl, .inl ⟨rfl, rfl, rfl, rfl, rfl, rfl, rfl, rfl, rfl⟩⟩
  | false =>
   simp +decide only [K_q1n_0, l_q1n_0, h2, h4, h7, h8, h9, h10, h11, hAl, hOl, hat, hxd, hbd, hd, hw, x0, x1, y0, y1, y2, y3, hall, m2, m3, ht, ht0, Nat.zero_add, Nat.mul_one, Int.toNat_natCast, ite_self, guardR_und, Pk.EVL, Pk.EVD, ↓reduceIte, reduceCtorEq, Nat.reduceEqDiff, Nat.reduceAdd, Nat.reduceLeDiff, Nat.reduceBNe, Nat.reduceLT, Nat.reduceBEq, Nat.reduceSub, Nat.reduceMul, Int.reduceLT, Int.reduceLE, Int.reduceEq, Int.reduceToNat, Int.reduceNeg]
   exact ⟨_, _, _, rfl, .inl ⟨rfl, rfl, rfl, rfl, rfl, rfl, rfl, rfl, rfl⟩⟩
 ·rintro T H ⟨h2, h4, h7, h8, h9, h10, h11, rfl⟩
  rw [List.take_length] at h10
  have hd : decide (((A.length : Nat) : Int) < ((A.length : Nat) : Int)) = false := by simp
  have hall := @hh_all0 _ _ _ hP hn hPp [] _ grb0_pl [] (fun _ => rfl)
  simp +decide only [K_q1n_0, l_q1n_0, h2, h4, h7, h8, h9, h10, h11, hAl, hd, hall, m2, m3, ht, ht0, ite_self, Pk.EVL, Pk.EVD, ↓reduceIte, reduceCtorEq, Nat.reduceEqDiff, Nat.reduceAdd, Nat.reduceLeDiff, Nat.reduceBNe, Nat.reduceLT, Nat.reduceBEq, Nat.reduceSub, Nat.reduceMul, Int.reduceLT, Int.reduceLE, Int.reduceEq, Int.reduceToNat, Int.reduceNeg]
  exact ⟨_, _, _, rfl, by simp, rfl, rfl, rfl, rfl, rfl, rfl, rfl⟩
 rintro e T H ⟨rfl, h2, h4, h7, h8, h10, rfl⟩
 simp +decide only [h2, h4, h7, h8, h10, thaws, thaw, hl, ha, ha0, hs, hs0, ht, ht0, hh_push, Nat.zero_le, Nat.le_refl, List.take_zero, plain_nil, plain_arr, plain_box, Pk.EVL, Pk.EVD, ↓reduceIte, reduceCtorEq, Nat.reduceEqDiff, Nat.reduceAdd, Nat.reduceLeDiff, Nat.reduceBNe, Nat.reduceLT, Nat.reduceBEq, Nat.reduceSub, Nat.reduceMul, Int.reduceLT, Int.reduceLE, Int.reduceEq, Int.reduceToNat, Int.reduceNeg]
 simp only [Option.bind_assoc]
 have X0 : ∀ a b : List DV, plain [.arr a true, .arr b true] := fun _ _ _ => rfl
 refine bind_run (loop_run (fun i T H => lk T 2 = .d (.sl (L.map State.d)) ∧ lk T 4 = .ptr 0 0 ∧ lk T 7 = .d (.i .u8 g) ∧ lk T 8 = .ptr (p + 2) 0 ∧ lk T 10 = .d (.b (allO O A)) ∧ lk T 12 = .view n (selO O i).length 1 0 (selO O i).length ∧ lk T 13 = .view (n + 1) (selO O i).length 49 0 (selO O i).length ∧ lk T 14 = .d (.i .i64 (i : Nat)) ∧
   ∃ J, H = hh [.box (.d (.agg (O.map .b)))] p [] grb0 (.arr ((selO O i).map fun x => .i .i64 x) true :: .arr ((selL O L i).map State.d) true :: J))
  (fun e T H => e = .exit 2 ∧ lk T 7 = .d (.i .u8 g) ∧ lk T 8 = .ptr (p + 2) 0 ∧ lk T 10 = .d (.b (allO O A)) ∧ lk T 12 = .view n (selO O 5).length 1 0 (selO O 5).length ∧ lk T 13 = .view (n + 1) (selO O 5).length 49 0 (selO O 5).length ∧
   H = hh [.box (.d (.agg (O.map .b)))] p [] grb0 [.arr ((selO O 5).map fun x => .i .i64 x) true, .arr ((selL O L 5).map State.d) true]) 5 ?_ ?_ 5 0 _ _ (by omega) ⟨rfl, rfl, rfl, rfl, rfl, rfl, rfl, rfl, [], rfl⟩) ?_
 ·rintro i T H hi ⟨h2, h4, h7, h8, h10, h12, h13, h14, J, rfl⟩
  obtain ⟨b, hb⟩ : ∃ b, O[i]? = some b := ⟨O[i]'(by omega), List.getElem?_eq_getElem _⟩
  have hbd := list_idx DV.b hb
  have hbg : O.getD i false = b := by rw [List.getD_eq_getElem?_getD, hb]; rfl
  obtain ⟨s, hs'⟩ : ∃ s, L[i]? = some s := ⟨L[i]'(by omega), List.getElem?_eq_getElem _⟩
  have hsd := list_idx State.d hs'
  have hsg : L.getD i State.zero = s := by rw [List.getD_eq_getElem?_getD, hs']; rfl
  obtain ⟨v1, v2⟩ := sel_view O L i
  have hle := (sel_len O L i).2
  have n1 : selO O (i + 1) = selO O i ++ (if b = true then [(i : Int)] else []) := by rw [← hbg]; rfl
  have n2 : selL O L (i + 1) = selL O L i ++ (if b = true then [s] else []) := by rw [← hbg, ← hsg]; rfl
  rw [n1, n2]
  have hd : decide ((i : Int) < 5) = true := by simp; omega
  have hw : IntKind.i64.wrap ((i : Int) + 1) = ((i + 1 : Nat) : Int) := wi64 (by omega)
  have y0 : (0 ≤ (i : Int)) = True := by simp
  have y1 : ((i : Int) < ((5 : Nat) : Int)) = True := eq_true (by omega)
  have y2 : (i * 1 + 1 ≤ 5) = True := eq_true (by omega)
  have y3 : (i + 1 ≤ 5) = True := eq_true (by omega)
  have y4 : ((i : Int) < ((L.length : Nat) : Int)) = True := eq_true (by omega)
  have hlim : ((selO O i).length + 1 ≤ LIM) = True := eq_true (by unfold LIM; omega)
  generalize selO O i = A1 at *
  generalize selL O L i = A2 at *
  have hal := fun a b : List DV => hh_all hP hn hPp [] grb0_pl (X0 a b) 2
  have p1 : (p + 2 < n + 2) = True := eq_true (by omega)
  have p2 : (n < n + 2) = True := eq_true (by omega)
  have p3 : (n + 1 < n + 2) = True := eq_true (by omega)
  have p4 : (0 < n + 2) = True := eq_true (by omega)
  have e1 : (n + 2 != n) = true := by simp
  have e2 : (n + 2 != n + 1) = true := by simp
  have e3 : (n + 3 != n) = true := by simp
  have e4 : (n + 2 != n + 3) = true := by simp
  have e5 : (n != n + 3) = true := by simp
  have e6 : ((appW (.view (n + 2) 1 1 0 1)).contains (n + 3)) = false := by simp [appW]
  cases b with
  | true =>
   simp +decide only [K_q1n_1, l_q1n_1, h2, h4, h7, h8, h10, h12, h13, h14, hLl, hOl, hat, hbd, hsd, v1, v2, hd, hw, y0, y1, y2, y3, y4, hlim, hal, p1, p2, p3, p4, e1, e2, e3, e4, e5, e6, hl, ha, ha0, hs, hs0, ht, ht0, hh_push, elems, Nat.zero_add, Nat.mul_one, Nat.zero_le, Nat.le_refl, Int.toNat_natCast, ite_self, Pk.EVL, Pk.EVD, ↓reduceIte, reduceCtorEq, Nat.reduceEqDiff, Nat.reduceAdd, Nat.reduceLeDiff, Nat.reduceBNe, Nat.reduceLT, Nat.reduceBEq, Nat.reduceSub, Nat.reduceMul, Int.reduceLT, Int.reduceLE, Int.reduceEq, Int.reduceToNat, Int.reduceNeg, Pk.TY_State]
   have l1 : (A1 ++ [(i : Int)]).length = A1.length + 1 := by rw [List.length_append]; rfl
   rw [List.map_append, List.map_append, l1]
   exact ⟨_, _, _, rfl, .inl ⟨rfl, rfl, rfl, rfl, rfl, rfl, rfl, rfl, rfl, _, rfl⟩⟩
  | false =>
   simp +decide only [K_q1n_1, l_q1n_1, h2, h4, h7, h8, h10, h12, h13, h14, hLl, hOl, hat, hbd, hsd, v1, v2, hd, hw, y0, y1, y2, y3, y4, hlim, hal, p1, p2, p3, p4, e1, e2, e3, e4, e5, e6, hl, ha, ha0, hs, hs0, ht, ht0, hh_push, elems, Nat.zero_add, Nat.mul_one, Nat.zero_le, Nat.le_refl, Int.toNat_natCast, List.append_nil, ite_self, Pk.EVL, Pk.EVD, ↓reduceIte, reduceCtorEq, Nat.reduceEqDiff, Nat.reduceAdd, Nat.reduceLeDiff, Nat.reduceBNe, Nat.reduceLT, Nat.reduceBEq, Nat.reduceSub, Nat.reduceMul, Int.reduceLT, Int.reduceLE, Int.reduceEq, Int.reduceToNat, Int.reduceNeg, Pk.TY_State]
   exact ⟨_, _, _, rfl, .inl ⟨rfl, rfl, rfl, rfl, rfl, rfl, rfl, rfl, rfl, _, rfl⟩⟩
 ·rintro T H ⟨h2, h4, h7, h8, h10, h12, h13, h14, J, rfl⟩
  have hal := fun a b : List DV => hh_all hP hn hPp [] grb0_pl (X0 a b) 2
  have p1 : (p + 2 < n + 2) = True := eq_true (by omega)
  have p2 : (n < n + 2) = True := eq_true (by omega)
  have p3 : (n + 1 < n + 2) = True := eq_true (by omega)
  have p4 : (0 < n + 2) = True := eq_true (by omega)
  simp +decide only [K_q1n_1, l_q1n_1, h2, h4, h7, h8, h10, h12, h13, h14, hal, p1, p2, p3, p4, hl, ha, ha0, hs, hs0, ht, ht0, ite_self, Pk.EVL, Pk.EVD, ↓reduceIte, reduceCtorEq, Nat.reduceEqDiff, Nat.reduceAdd, Nat.reduceLeDiff, Nat.reduceBNe, Nat.reduceLT, Nat.reduceBEq, Nat.reduceSub, Nat.reduceMul, Int.reduceLT, Int.reduceLE, Int.reduceEq, Int.reduceToNat, Int.reduceNeg]
  exact ⟨_, _, _, rfl, by simp, rfl, rfl, rfl, rfl, rfl, rfl, rfl⟩
 rintro e T H ⟨rfl, h7, h8, h10, h12, h13, rfl⟩
 obtain ⟨S1, hS1⟩ : ∃ S1, selO O 5 = S1 := ⟨_, rfl⟩
 obtain ⟨S2, hS2⟩ : ∃ S2, selL O L 5 = S2 := ⟨_, rfl⟩
 have hlen := sel_len O L 5
 have hmem := fun s (h : s ∈ S2) => hst s (selL_mem 5 (by omega) s (by rw [hS2]; exact h))
 have hasc := selO_asc O 5
 rw [hS1, hS2] at hlen
 rw [hS1] at hasc
 have hEN' : ∀ st, enoughB [] g S1 st = allO O A := fun st => by rw [← hS1]; exact hEN st
 rw [hS1] at h12 h13 ⊢
 rw [hS2]
 have X1 : plain [.arr (S1.map fun x => .i .i64 x) false, .arr (S2.map State.d) false] := fun _ => rfl
 have MK : evF C F_q3l [.ptr (p + 2) 0, .d (.i .u8 g), .view n S1.length 1 0 S1.length, .view (n + 1) S1.length 49 0 S1.length] (hh [.box (.d (.agg (O.map .b)))] p [] grb0 [.arr (S1.map fun x => .i .i64 x) true, .arr (S2.map State.d) true]) =
   some (.d (.agg (planOf [] g S1 S2).cs), hh [.box (.d (.agg (O.map .b)))] p [] (grb0.frz g) [.arr (S1.map fun x => .i .i64 x) false, .arr (S2.map State.d) false]) := by
  rw [rmake_view (p + 2) n (n + 1) S1.length (by omega) S1 S2 true true _ g (by rw [ha0]; rfl) (by rw [ha]; rfl) rfl hlen.1, hs0, hs]
  exact rmake_at hP hn hPp good_nil grb0_pl X1 (m := n + 2) rfl g hg4 S1 S2 (by omega) hlen.1.symm hasc hmem
 have hbl : (planOf [] g S1 S2).blocked = !allO O A := by show (!enoughB [] g S1 _) = _; rw [hEN']
 have G0 : ∀ k, ([] : Heap).all (ltO (0 + k)) = true := fun _ => rfl
 have hO1 : (S1.map fun x : Int => DV.i .i64 x).length = S1.length := List.length_map _
 have hO2 : (S2.map State.d).length = S1.length := by rw [List.length_map]; exact hlen.1
 have sb1 : subL (S1.map fun x : Int => DV.i .i64 x) 0 S1.length = S1.map fun x => .i .i64 x := by unfold subL; rw [List.drop_zero]; exact List.take_of_length_le (by omega)
 have sb2 : subL (S2.map State.d) 0 S1.length = S2.map State.d := by unfold subL; rw [List.drop_zero]; exact List.take_of_length_le (by omega)
 by_cases call : allO O A = true
 ·rw [call] at hbl h10
  have h0 : 0 < S2.length := by
   rw [hlen.1]
   have hA0 : ∃ x, x ∈ A := by
    cases A with
    | nil => simp at hA3
    | cons x l => exact ⟨x, by simp⟩
   obtain ⟨x, hx⟩ := hA0
   obtain ⟨j, rfl, hj⟩ := hAj x hx
   have h1 := List.all_eq_true.1 call _ hx
   rw [Int.toNat_natCast] at h1
   exact List.length_pos_of_mem (a := (j : Int)) (by rw [← hS1]; exact (selO_mem O j 5).2 ⟨hj, h1⟩)
  obtain ⟨b, t, hb, htt⟩ := best_some hlen.1.symm h0 fun s hs => (hmem s hs).2
  have hpl := plan_some (l := []) (g := g) hb htt
  have DN := done_plan (G := []) (m := 0) rfl G0 (planOf [] g S1 S2) S1 S2 1 (by omega) hlen.1.symm t (by rw [hpl]) (by rw [hbl]; rfl) hmem (hmem t (List.mem_of_getElem? htt))
  generalize planOf [] g S1 S2 = PL at *
  have hbl : PL.blocked = false := hbl
  have g0 : decide (((S1.length : Nat) : Int) > 0) = true := by simp; omega
  have e0 : ∀ c : Bool, eqV ETy.sb (.b c) (.b c) = some true := fun c => by cases c <;> rfl
  have z0 : ((0 : Int) == 0) = true := rfl
  simp +decide only [h7, h8, h10, h12, h13, MK, DN, hbl, sb1, sb2, hO1, hO2, g0, e0, z0, hl, ha, ha0, hs, hs0, ht, ht0, hh_push, Bool.not_false, Bool.not_true, Nat.zero_le, Nat.le_refl, List.take_zero, plain_nil, plain_arr, plain_box, guardR_und, Pk.EVL, Pk.EVD, ↓reduceIte, reduceCtorEq, Nat.reduceEqDiff, Nat.reduceAdd, Nat.reduceLeDiff, Nat.reduceBNe, Nat.reduceLT, Nat.reduceBEq, Nat.reduceSub, Nat.reduceMul, Int.reduceLT, Int.reduceLE, Int.reduceEq, Int.reduceToNat, Int.reduceNeg, Pk.TY_Plan]
 ·have call : allO O A = false := by simpa using call
  rw [call] at hbl h10
  have DN := rdone_no (G := []) (m := 0) rfl G0 (planOf [] g S1 S2) S1 S2 1 (.inr (.inr (by rw [hbl]; rfl)))
  have hbest : S1.length = 0 → (planOf [] g S1 S2).best = -1 := by
   intro h
   have h1 : S1 = [] := List.length_eq_zero_iff.1 h
   have h2 : S2 = [] := List.length_eq_zero_iff.1 (by omega)
   rw [h1, h2]
   rfl
  generalize planOf [] g S1 S2 = PL at *
  have hbl : PL.blocked = true := hbl
  have e0 : ∀ c : Bool, eqV ETy.sb (.b c) (.b c) = some true := fun c => by cases c <;> rfl
  have z0 : ((80 : Int) == 0) = false := rfl
  rcases Bool.eq_false_or_eq_true (decide (((S1.length : Nat) : Int) > 0)) with g0 | g0
  ·simp +decide only [h7, h8, h10, h12, h13, MK, DN, hbl, sb1, sb2, hO1, hO2, g0, e0, z0, hl, ha, ha0, hs, hs0, ht, ht0, hh_push, Bool.not_false, Bool.not_true, Nat.zero_le, Nat.le_refl, List.take_zero, plain_nil, plain_arr, plain_box, guardR_und, Pk.EVL, Pk.EVD, ↓reduceIte, reduceCtorEq, Nat.reduceEqDiff, Nat.reduceAdd, Nat.reduceLeDiff, Nat.reduceBNe, Nat.reduceLT, Nat.reduceBEq, Nat.reduceSub, Nat.reduceMul, Int.reduceLT, Int.reduceLE, Int.reduceEq, Int.reduceToNat, Int.reduceNeg, Pk.TY_Plan]
  ·have hb1 := hbest (by have := of_decide_eq_false g0; omega)
   have z1 : ((-1 : Int) == -1) = true := rfl
   simp +decide only [h7, h8, h10, h12, h13, MK, DN, hbl, hb1, z1, sb1, sb2, hO1, hO2, g0, e0, z0, hl, ha, ha0, hs, hs0, ht, ht0, hh_push, Bool.not_false, Bool.not_true, Nat.zero_le, Nat.le_refl, List.take_zero, plain_nil, plain_arr, plain_box, guardR_und, Pk.EVL, Pk.EVD, ↓reduceIte, reduceCtorEq, Nat.reduceEqDiff, Nat.reduceAdd, Nat.reduceLeDiff, Nat.reduceBNe, Nat.reduceLT, Nat.reduceBEq, Nat.reduceSub, Nat.reduceMul, Int.reduceLT, Int.reduceLE, Int.reduceEq, Int.reduceToNat, Int.reduceNeg, Pk.TY_Plan]
end Go.Proofs.YthlpognahlnaaaaGreat
