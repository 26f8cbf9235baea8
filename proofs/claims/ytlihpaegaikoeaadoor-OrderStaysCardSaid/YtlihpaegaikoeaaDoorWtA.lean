/- One order: how its rows lie in memory; what a walk over objects of any shape needs. -/
import Derived.Test.YtlihpaegaikoeaaDoorPgE
import Derived.Test.YtlihpaegaikoeaaDoorPgB
import Derived.Test.YtlihpaegaikoeaaDoorPkClone
import Derived.Test.YtlihpaegaikoeaaDoorObjE
set_option linter.all false
namespace Go.Proofs.YtlihpaegaikoeaaDoor
open Pv Go Pk
set_option maxRecDepth 10000
set_option maxHeartbeats 2000000

/-! Objects H, others behind them. -/
def okH (H : Heap) : Prop := H.all (ltO H.length) = true
def hf (H Y : Heap) : Heap := H ++ Y
theorem hf_nil (H : Heap) : hf H [] = H := by simp [hf]
theorem hf_push (H Y Z : Heap) : hf H Y ++ Z = hf H (Y ++ Z) := by simp [hf]
mutual
theorem lt_mono {n m : Nat} (h : n ≤ m) : ∀ x : AV, lt n x = true → lt m x = true
  | .d _, _ => rfl
  | .nilS, _ => rfl
  | .e0 _, _ => rfl
  | .z0, _ => rfl
  | .junk, _ => rfl
  | .und, _ => rfl
  | .one, _ => rfl
  | .eptr _, _ => rfl
  | .view o _ _ _ _, hx => by simp only [lt, decide_eq_true_eq] at hx ⊢; omega
  | .ptr o _, hx => by simp only [lt, decide_eq_true_eq] at hx ⊢; omega
  | .mp o, hx => by simp only [lt, decide_eq_true_eq] at hx ⊢; omega
  | .vptr o _ _ _ _, hx => by simp only [lt, decide_eq_true_eq] at hx ⊢; omega
  | .fn _ a b, hx => by simp only [lt, Bool.and_eq_true] at hx ⊢; exact ⟨lts_mono h a hx.1, lts_mono h b hx.2⟩
  | .agg cs, hx => by simp only [lt] at hx ⊢; exact lts_mono h cs hx
  | .tup cs, hx => by simp only [lt] at hx ⊢; exact lts_mono h cs hx
theorem lts_mono {n m : Nat} (h : n ≤ m) : ∀ x : List AV, lts n x = true → lts m x = true
  | [], _ => rfl
  | x :: r, hx => by simp only [lts, Bool.and_eq_true] at hx ⊢; exact ⟨lt_mono h x hx.1, lts_mono h r hx.2⟩
end
theorem ltO_mono {n m : Nat} (h : n ≤ m) (c : Ob) (hc : ltO n c = true) : ltO m c = true := by
  cases c with
  | box x => exact lt_mono h x hc
  | _ => rfl
theorem all_mono {n m : Nat} (h : n ≤ m) {H : Heap} (hH : H.all (ltO n) = true) : H.all (ltO m) = true := by
  rw [List.all_eq_true] at hH ⊢
  exact fun c hc => ltO_mono h c (hH c hc)
section
variable {H : Heap} {n : Nat} (hn : H.length = n)
include hn in
theorem hf_len (Y : Heap) : (hf H Y).length = n + Y.length := by unfold hf; rw [List.length_append, hn]
include hn in
theorem hf_at (Y : Heap) (j : Nat) : (hf H Y)[n + j]? = Y[j]? := by
  unfold hf
  rw [List.getElem?_append_right (by omega), hn]
  congr 1
  omega
include hn in
theorem hf_at0 (Y : Heap) : (hf H Y)[n]? = Y[0]? := hf_at hn Y 0
include hn in
theorem hf_set (Y : Heap) (j : Nat) (y : Ob) : (hf H Y).set (n + j) y = hf H (Y.set j y) := by
  unfold hf
  rw [List.set_append_right _ _ (by omega), hn]
  congr 2
  omega
include hn in
theorem hf_set0 (Y : Heap) (y : Ob) : (hf H Y).set n y = hf H (Y.set 0 y) := hf_set hn Y 0 y
include hn in
theorem hf_take (Y : Heap) (j : Nat) : List.take (n + j) (hf H Y) = hf H (Y.take j) := by
  unfold hf
  rw [List.take_append, List.take_of_length_le (by omega), hn]
  congr 2
  omega
include hn in
theorem hf_take0 (Y : Heap) : List.take n (hf H Y) = hf H [] := by
  have := hf_take hn Y 0
  simpa using this
include hn in
theorem hf_rules : (∀ Y : Heap, (hf H Y).length = n + Y.length) ∧ (∀ (Y : Heap) (j : Nat), (hf H Y)[n + j]? = Y[j]?) ∧ (∀ Y : Heap, (hf H Y)[n]? = Y[0]?) ∧ (∀ (Y : Heap) (j : Nat) (y : Ob), (hf H Y).set (n + j) y = hf H (Y.set j y)) ∧
    (∀ (Y : Heap) (y : Ob), (hf H Y).set n y = hf H (Y.set 0 y)) ∧ (∀ (Y : Heap) (j : Nat), List.take (n + j) (hf H Y) = hf H (Y.take j)) ∧ (∀ Y : Heap, List.take n (hf H Y) = hf H []) ∧ (∀ Y Z : Heap, hf H Y ++ Z = hf H (Y ++ Z)) :=
  ⟨hf_len hn, hf_at hn, hf_at0 hn, hf_set hn, hf_set0 hn, hf_take hn, hf_take0 hn, hf_push H⟩
theorem hf_old {o : Nat} {x : Ob} (ho : H[o]? = some x) (Y : Heap) : (hf H Y)[o]? = some x := by
  unfold hf
  rw [List.getElem?_append_left (List.getElem?_eq_some_iff.1 ho).1]
  exact ho
include hn in
theorem hf_setO {o : Nat} (ho : o < n) (Y : Heap) (x : Ob) : (hf H Y).set o x = hf (H.set o x) Y := by
  unfold hf
  rw [List.set_append_left _ _ (by omega)]
include hn in
theorem hf_all (hok : okH H) (Y : Heap) (k : Nat) : (hf H Y).all (ltO (n + k)) = Y.all (ltO (n + k)) := by
  unfold hf
  rw [List.all_append, all_mono (by omega) hok, Bool.true_and]
include hn in
theorem hf_all0 (hok : okH H) (Y : Heap) : (hf H Y).all (ltO n) = Y.all (ltO n) := hf_all hn hok Y 0
include hn in
theorem hf_ok (hok : okH H) (Y : Heap) : okH (hf H Y) = (Y.all (ltO (n + Y.length)) = true) := by
  unfold okH
  rw [hf_len hn, hf_all hn hok]
include hn in
theorem ok_rules (hok : okH H) : (∀ (Y : Heap) (k : Nat), (hf H Y).all (ltO (n + k)) = Y.all (ltO (n + k))) ∧ (∀ Y : Heap, (hf H Y).all (ltO n) = Y.all (ltO n)) ∧ (∀ Y : Heap, okH (hf H Y) = (Y.all (ltO (n + Y.length)) = true)) :=
  ⟨hf_all hn hok, hf_all0 hn hok, hf_ok hn hok⟩
end
/-- Places counted from n on. -/
theorem n_rules (n : Nat) : (∀ a b : Nat, (n + a != n + b) = (a != b)) ∧ (∀ b : Nat, (n != n + b) = (0 != b)) ∧ (∀ a : Nat, (n + a != n) = (a != 0)) ∧ (∀ a b : Nat, (n + a < n + b) = (a < b)) ∧ (∀ b : Nat, (n < n + b) = (0 < b)) ∧
    (∀ a b : Nat, (n + a ≤ n + b) = (a ≤ b)) ∧ (∀ b : Nat, (n ≤ n + b) = True) ∧ (∀ a b : Nat, (n + a == n + b) = (a == b)) ∧ (∀ a b : Nat, n + a + b = n + (a + b)) := by
  refine ⟨fun a b => ?_, fun b => ?_, fun a => ?_, fun a b => ?_, fun b => ?_, fun a b => ?_, fun b => ?_, fun a b => ?_, fun a b => ?_⟩
  · by_cases h : a = b
    · subst h; simp
    · have : n + a ≠ n + b := by omega
      rw [bne_iff_ne.2 this, bne_iff_ne.2 h]
  · by_cases h : 0 = b
    · subst h; simp
    · have : n ≠ n + b := by omega
      rw [bne_iff_ne.2 this, bne_iff_ne.2 h]
  · by_cases h : a = 0
    · subst h; simp
    · have : n + a ≠ n := by omega
      rw [bne_iff_ne.2 this, bne_iff_ne.2 h]
  · exact propext (by omega)
  · exact propext (by omega)
  · exact propext (by omega)
  · exact eq_true (by omega)
  · by_cases h : a = b
    · subst h; simp
    · have h1 : (n + a == n + b) = false := by simp; omega
      have h2 : (a == b) = false := by simp; omega
      rw [h1, h2]
  · omega
theorem o_rules {o n : Nat} (h : o < n) : (∀ k : Nat, (o < n + k) = True) ∧ ((o < n) = True) ∧ ((n != o) = true) ∧ ((o != n) = true) ∧ (∀ k : Nat, (n + k != o) = true) ∧ (∀ k : Nat, (o != n + k) = true) ∧ (∀ k : Nat, (n + k ≤ o) = False) ∧ ((n ≤ o) = False) := by
  refine ⟨fun k => eq_true (by omega), eq_true h, by simp; omega, by simp; omega, fun k => by simp; omega, fun k => by simp; omega, fun k => eq_false (by omega), eq_false (by omega)⟩

/-! Rows. -/
structure Wr where
  l : AV
  b : AV
  acked : Int
  started : Int
def Wr.cs (r : Wr) : List AV := [r.l, r.b, .d (.i .u32 r.acked), .d (.i .u32 r.started)]
structure W4 where
  a0 : Wr
  a1 : Wr
  a2 : Wr
  a3 : Wr
def W4.cs (w : W4) : List AV := w.a0.cs ++ (w.a1.cs ++ (w.a2.cs ++ w.a3.cs))
def W4.get (w : W4) : Nat → Wr
  | 0 => w.a0
  | 1 => w.a1
  | 2 => w.a2
  | _ => w.a3
def W4.set (w : W4) (g : Nat) (r : Wr) : W4 := match g with
  | 0 => { w with a0 := r }
  | 1 => { w with a1 := r }
  | 2 => { w with a2 := r }
  | _ => { w with a3 := r }
def W4.setL (w : W4) (g : Nat) (x : AV) : W4 := w.set g { w.get g with l := x }
def W4.setB (w : W4) (g : Nat) (x : AV) : W4 := w.set g { w.get g with b := x }
def W4.setA (w : W4) (g : Nat) (x : Int) : W4 := w.set g { w.get g with acked := x }
def W4.setS (w : W4) (g : Nat) (x : Int) : W4 := w.set g { w.get g with started := x }
theorem W4.get_set (w : W4) (g h : Nat) (r : Wr) (hg : g < 4) (hh : h < 4) : (w.set g r).get h = if h = g then r else w.get h := by
  rcases (by omega : g = 0 ∨ g = 1 ∨ g = 2 ∨ g = 3) with rfl | rfl | rfl | rfl <;> rcases (by omega : h = 0 ∨ h = 1 ∨ h = 2 ∨ h = 3) with rfl | rfl | rfl | rfl <;> rfl
theorem W4.len (w : W4) : w.cs.length = 16 := rfl
theorem W4.rds {g : Nat} (hg : g < 4) : (∀ w : W4, w.cs[g * 4]? = some (w.get g).l) ∧ (∀ w : W4, w.cs[g * 4 + 1]? = some (w.get g).b) ∧ (∀ w : W4, w.cs[g * 4 + 2]? = some (.d (.i .u32 (w.get g).acked))) ∧ (∀ w : W4, w.cs[g * 4 + 3]? = some (.d (.i .u32 (w.get g).started))) := by
  rcases (by omega : g = 0 ∨ g = 1 ∨ g = 2 ∨ g = 3) with rfl | rfl | rfl | rfl <;> exact ⟨fun _ => rfl, fun _ => rfl, fun _ => rfl, fun _ => rfl⟩
theorem W4.wrs {g : Nat} (hg : g < 4) : (∀ (w : W4) (x : AV), upd w.cs (g * 4) [x] = (w.setL g x).cs) ∧ (∀ (w : W4) (x : AV), upd w.cs (g * 4 + 1) [x] = (w.setB g x).cs) ∧
    (∀ (w : W4) (x : Int), upd w.cs (g * 4 + 2) [.d (.i .u32 x)] = (w.setA g x).cs) ∧ (∀ (w : W4) (x : Int), upd w.cs (g * 4 + 3) [.d (.i .u32 x)] = (w.setS g x).cs) := by
  rcases (by omega : g = 0 ∨ g = 1 ∨ g = 2 ∨ g = 3) with rfl | rfl | rfl | rfl <;> exact ⟨fun _ _ => rfl, fun _ _ => rfl, fun _ _ => rfl, fun _ _ => rfl⟩
theorem W4.fits {g : Nat} (hg : g < 4) : ((g * 4 + 1 ≤ 16) = True) ∧ ((g * 4 + 1 + 1 ≤ 16) = True) ∧ ((g * 4 + 2 + 1 ≤ 16) = True) ∧ ((g * 4 + 3 + 1 ≤ 16) = True) ∧ ((0 ≤ (g : Int) ∧ (g : Int) < ((4 : Nat) : Int)) = True) ∧ (decide ((g : Int) ≥ 4) = false) := by
  refine ⟨eq_true (by omega), eq_true (by omega), eq_true (by omega), eq_true (by omega), eq_true (by omega), by simp; omega⟩
theorem W4.sets {g : Nat} (hg : g < 4) : (∀ (w : W4) (x : AV), (w.setL g x).get g = { w.get g with l := x }) ∧ (∀ (w : W4) (x : AV), (w.setB g x).get g = { w.get g with b := x }) ∧
    (∀ (w : W4) (x : Int), (w.setA g x).get g = { w.get g with acked := x }) ∧ (∀ (w : W4) (x : Int), (w.setS g x).get g = { w.get g with started := x }) := by
  rcases (by omega : g = 0 ∨ g = 1 ∨ g = 2 ∨ g = 3) with rfl | rfl | rfl | rfl <;> exact ⟨fun _ _ => rfl, fun _ _ => rfl, fun _ _ => rfl, fun _ _ => rfl⟩
/-- A value that is no data. -/
def ndA : AV → Bool
  | .d _ => false
  | _ => true
def W4.nd (w : W4) : Bool := ndA w.a0.b && (ndA w.a1.b && (ndA w.a2.b && ndA w.a3.b))
theorem W4.nd_L {w : W4} (h : w.nd = true) (g : Nat) (x : AV) : (w.setL g x).nd = true := by
  match g with
  | 0 | 1 | 2 => exact h
  | g + 3 => exact h
theorem W4.nd_A {w : W4} (h : w.nd = true) (g : Nat) (x : Int) : (w.setA g x).nd = true := by
  match g with
  | 0 | 1 | 2 => exact h
  | g + 3 => exact h
theorem W4.nd_S {w : W4} (h : w.nd = true) (g : Nat) (x : Int) : (w.setS g x).nd = true := by
  match g with
  | 0 | 1 | 2 => exact h
  | g + 3 => exact h
theorem W4.nd_B {w : W4} (h : w.nd = true) (g : Nat) {x : AV} (hx : ndA x = true) : (w.setB g x).nd = true := by
  unfold W4.nd at h ⊢
  simp only [Bool.and_eq_true] at h ⊢
  obtain ⟨h0, h1, h2, h3⟩ := h
  match g with
  | 0 => exact ⟨hx, h1, h2, h3⟩
  | 1 => exact ⟨h0, hx, h2, h3⟩
  | 2 => exact ⟨h0, h1, hx, h3⟩
  | g + 3 => exact ⟨h0, h1, h2, hx⟩
theorem allD_nd : ∀ (l : List AV) (x : AV) (r : List AV), ndA x = true → allD (l ++ x :: r) = none
  | [], x, r, h => by cases x <;> first | rfl | simp [ndA] at h
  | y :: l, x, r, h => by
    have := allD_nd l x r h
    cases y <;> simp [allD, this]
theorem W4.allD {w : W4} (h : w.nd = true) : Pv.allD w.cs = none := by
  unfold W4.nd at h
  rw [Bool.and_eq_true] at h
  rw [show w.cs = [w.a0.l] ++ w.a0.b :: w.cs.drop 2 from rfl, allD_nd _ _ _ h.1]
def W4.lt (w : W4) (n : Nat) : Bool := lts n w.cs
theorem W4.lt_iff (w : W4) (n : Nat) : w.lt n = true ↔ ∀ g < 4, Pv.lt n (w.get g).l = true ∧ Pv.lt n (w.get g).b = true := by
  have e : w.lt n = (Pv.lt n w.a0.l && (Pv.lt n w.a0.b && (true && (true && (Pv.lt n w.a1.l && (Pv.lt n w.a1.b && (true && (true && (Pv.lt n w.a2.l && (Pv.lt n w.a2.b && (true && (true && (Pv.lt n w.a3.l && (Pv.lt n w.a3.b && (true && (true && true)))))))))))))))) := rfl
  rw [e]
  simp only [Bool.and_eq_true, and_true, true_and]
  constructor
  · rintro ⟨h0, h1, h2, h3, h4, h5, h6, h7⟩ g hg
    rcases (by omega : g = 0 ∨ g = 1 ∨ g = 2 ∨ g = 3) with rfl | rfl | rfl | rfl
    · exact ⟨h0, h1⟩
    · exact ⟨h2, h3⟩
    · exact ⟨h4, h5⟩
    · exact ⟨h6, h7⟩
  · intro h
    exact ⟨(h 0 (by omega)).1, (h 0 (by omega)).2, (h 1 (by omega)).1, (h 1 (by omega)).2, (h 2 (by omega)).1, (h 2 (by omega)).2, (h 3 (by omega)).1, (h 3 (by omega)).2⟩
theorem okH_at {H : Heap} (h : okH H) {o : Nat} {x : Ob} (ho : H[o]? = some x) : ltO H.length x = true := by
  unfold okH at h
  rw [List.all_eq_true] at h
  exact h x (List.mem_of_getElem? ho)
theorem okH_set {H : Heap} (h : okH H) (o : Nat) {x : Ob} (hx : ltO H.length x = true) : okH (H.set o x) := by
  unfold okH at h ⊢
  rw [List.length_set]
  rw [List.all_eq_true] at h ⊢
  intro c hc
  rcases List.mem_or_eq_of_mem_set hc with hc | rfl
  · exact h c hc
  · exact hx

/-- A row's base behind some entries. -/
theorem rbase_at {H : Heap} (hok : okH H) {o : Nat} {W : W4} (ho : H[o]? = some (.box (.agg W.cs))) {g : Nat} (hg : g < 4) (m : Nat) (hm : m < 4294967296) (B : Base)
    (hB : (m = 0 ∧ B = Base.zero) ∨ (0 < m ∧ ∃ p es wr, (W.get g).b = .view p es.length 39 0 es.length ∧ H[p]? = some (.arr es wr) ∧ es[m - 1]? = some B.d)) :
    evF C F_witness_row_base [.ptr o (g * 4), .d (.i .u32 (m : Nat))] H = some (.d (.agg B.cs), H) := by
  obtain ⟨n, hn⟩ : ∃ n, H.length = n := ⟨_, rfl⟩
  have hlt : o < n := hn ▸ (List.getElem?_eq_some_iff.1 ho).1
  have key : evF C F_witness_row_base [.ptr o (g * 4), .d (.i .u32 (m : Nat))] (hf H []) = some (.d (.agg B.cs), hf H []) := by
    have R := hf_rules hn
    have K := ok_rules hn hok
    have N := n_rules n
    have O := o_rules hlt
    have ho' := hf_old ho
    have D := W4.rds hg
    rw [evF_code (rfl : C F_witness_row_base = some a_witness_row_base) _ _ rfl]
    rcases hB with ⟨rfl, rfl⟩ | ⟨h0, p, es, wr, hb, hp, he⟩
    · simp (config := {decide := true}) only [c_witness_row_base, R, K, N, O, ho', D, Pk.EVL, keepT, enum, ↓reduceIte, ev, act, appT, callee, toDs, toD, loadA, storeA, subA, subD, updA, Eff.on, resA, resVs, resV, lk, finish, frzR, frzVs, frzV, fznR, fzns, fzn, lts, lt, ltO, List.all, pairsOk, indep, reduceCtorEq, Nat.reduceEqDiff, Nat.reduceAdd, Nat.reduceLeDiff, stb, thaws, List.drop, intOfA, binD, binI, unD, mmL, buildA, mkAgg, allD, bslD, behind, behind0, takeAt, frzAs, frzA, adoptR, adopt, isD, isD0, trim, List.take, binS, sliceA, bnd, zOk, elems, Nat.reduceBNe, inpl, Nat.reduceLT, Nat.reduceBEq, Nat.reduceSub, Nat.reduceMul, Int.reduceLT, Int.reduceLE, Int.reduceEq, Int.reduceToNat, Int.reduceNeg, thaw, nodup, refsV, adopts, Pk.TY_Base]
    · have c1 : (((m : Nat) : Int) == 0) = false := by simp; omega
      have w1 : IntKind.u32.wrap ((m : Int) - 1) = ((m - 1 : Nat) : Int) := by rw [show (m : Int) - 1 = ((m - 1 : Nat) : Int) by omega]; exact wu32 (by omega)
      have hp' := hf_old hp
      have hlm : m - 1 < es.length := (List.getElem?_eq_some_iff.1 he).1
      have b1 : (((m - 1 : Nat) : Int) < ((es.length : Nat) : Int)) = True := eq_true (by omega)
      have b2 : (0 ≤ ((m - 1 : Nat) : Int)) = True := eq_true (by omega)
      simp (config := {decide := true}) only [c_witness_row_base, R, K, N, O, ho', hp', D, hb, c1, w1, b1, b2, he, Int.toNat_natCast, Pk.EVL, keepT, enum, ↓reduceIte, ev, act, appT, callee, toDs, toD, loadA, storeA, subA, subD, updA, Eff.on, resA, resVs, resV, lk, finish, frzR, frzVs, frzV, fznR, fzns, fzn, lts, lt, ltO, List.all, pairsOk, indep, reduceCtorEq, Nat.reduceEqDiff, Nat.reduceAdd, Nat.reduceLeDiff, stb, thaws, List.drop, intOfA, binD, binI, unD, mmL, buildA, mkAgg, allD, bslD, behind, behind0, takeAt, frzAs, frzA, adoptR, adopt, isD, isD0, trim, List.take, binS, sliceA, bnd, zOk, elems, Nat.reduceBNe, inpl, Nat.reduceLT, Nat.reduceBEq, Nat.reduceSub, Nat.reduceMul, Int.reduceLT, Int.reduceLE, Int.reduceEq, Int.reduceToNat, Int.reduceNeg, thaw, nodup, refsV, adopts, Pk.TY_Base]
  rwa [hf_nil] at key
end Go.Proofs.YtlihpaegaikoeaaDoor
