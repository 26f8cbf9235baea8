/- A history and its copy behind it. -/
import Derived.Test.YtckaebcljcpobaaHsW
import Derived.Test.YtckaebcljcpobaaHsM
set_option linter.all false
namespace Go.Proofs.Ytckaebcljcpobaa
open Pv Go Pk
set_option maxRecDepth 10000
set_option maxHeartbeats 4000000
/-- A history, its copy, Y behind both. -/
def kk (p n : Nat) (G1 G2 : List Inc) (q g : Grb) (Y : Heap) : Heap := hq [] (hobs p (hsOf G1) q) (cobs n (hsOf G2) g ++ Y)
theorem kk_push (p n : Nat) (G1 G2 : List Inc) (q g : Grb) (Y Z : Heap) : kk p n G1 G2 q g Y ++ Z = kk p n G1 G2 q g (Y ++ Z) := by simp [kk, hq]
theorem cobs_len (n : Nat) (s : Hst) (g : Grb) : (cobs n s g).length = 7 := rfl
theorem cobs_ltO (n k : Nat) (s : Hst) (g : Grb) : (cobs n s g).all (ltO (n + 7 + k)) = true := by
  unfold cobs cbox
  simp [ltO, lt, lts]
  omega
section
variable {p n : Nat} (hP : ([] : Heap).length = p) (hn : p + 12 = n)
include hP hn
theorem kk_len (G1 G2 : List Inc) (q g : Grb) (Y : Heap) : (kk p n G1 G2 q g Y).length = n + 7 + Y.length := by
  unfold kk hq
  simp only [List.length_append, List.length_nil, hobs_len, cobs_len] at hP ⊢
  omega
theorem kk_at (G1 G2 : List Inc) (q g : Grb) (Y : Heap) (j : Nat) : (kk p n G1 G2 q g Y)[n + 7 + j]? = Y[j]? := by
  unfold kk
  rw [show n + 7 + j = p + (12 + (7 + j)) by omega, hq_at hP, List.getElem?_append_right (by rw [hobs_len]; omega), hobs_len, List.getElem?_append_right (by rw [cobs_len]; omega), cobs_len]
  congr 1
  omega
theorem kk_at0 (G1 G2 : List Inc) (q g : Grb) (Y : Heap) : (kk p n G1 G2 q g Y)[n + 7]? = Y[0]? := kk_at hP hn G1 G2 q g Y 0
theorem kk_set (G1 G2 : List Inc) (q g : Grb) (Y : Heap) (j : Nat) (y : Ob) : (kk p n G1 G2 q g Y).set (n + 7 + j) y = kk p n G1 G2 q g (Y.set j y) := by
  unfold kk hq
  simp only [List.length_nil] at hP
  rw [List.nil_append, List.nil_append, List.set_append_right _ _ (by rw [hobs_len]; omega), hobs_len, List.set_append_right _ _ (by rw [cobs_len]; omega), cobs_len]
  congr 3
  omega
theorem kk_set0 (G1 G2 : List Inc) (q g : Grb) (Y : Heap) (y : Ob) : (kk p n G1 G2 q g Y).set (n + 7) y = kk p n G1 G2 q g (Y.set 0 y) := kk_set hP hn G1 G2 q g Y 0 y
theorem kk_h {q : Grb} (G1 G2 : List Inc) (g : Grb) {Y : Heap} (hY : plain Y) : p + 12 + (cobs n (hsOf G2) g ++ Y).length = n + 7 + Y.length ∧ (cobs n (hsOf G2) g ++ Y).all (ltO (n + 7 + Y.length)) = true := by
  refine ⟨by simp only [List.length_append, cobs_len]; omega, ?_⟩
  rw [List.all_append, cobs_ltO, hY]
  rfl
theorem kk_c {q : Grb} (hq : q.pl) (G1 G2 : List Inc) (g : Grb) (Y : Heap) (k : Nat) : (hobs p (hsOf G1) q).length = n ∧ (hobs p (hsOf G1) q).all (ltO (n + k)) = true ∧ kk p n G1 G2 q g Y = Go.Proofs.Ytckaebcljcpobaa.hq (hobs p (hsOf G1) q) (cobs n (hsOf G2) g) Y := by
  refine ⟨by rw [hobs_len]; simp only [List.length_nil] at hP; omega, hobs_ltO hP hn _ hq k, ?_⟩
  unfold kk Go.Proofs.Ytckaebcljcpobaa.hq
  rw [List.nil_append]
variable {q g : Grb} (hq : q.pl) (hg : g.pl)
include hq hg
theorem kh_last (G1 G2 : List Inc) {Y : Heap} (hY : plain Y) : evF C F_history_History_Last [.ptr (p + 2) 0] (kk p n G1 G2 q g Y) = some (.d (.i .u32 ((G1.length : Int) + 1)), kk p n G1 G2 q g Y) := by
  obtain ⟨h1, h2⟩ := kk_h hP hn (q := q) G1 G2 g hY
  have := hlast_at hP h1 rfl h2 (hq _) (hsOf G1)
  rwa [hsOf_last] at this
theorem kh_add {G1 : List Inc} (hl : goodI G1) (G2 : List Inc) {Y : Heap} (hY : plain Y) (e : Int) (he : 0 ≤ e ∧ e < 4294967296) (x : Inc) (hx : x.ok) : evF C F_history_History_Add [.ptr (p + 2) 0, .d (.i .u32 e), .d (.agg x.cs)] (kk p n G1 G2 q g Y) = some (.d (.i .i64 (addL G1 e x).2), kk p n (addL G1 e x).1 G2 q g Y) := by
  obtain ⟨h1, h2⟩ := kk_h hP hn (q := q) G1 G2 g hY
  exact hadd_at hP h1 rfl h2 (hq _) G1 hl e he x hx
theorem kh_inc (G1 G2 : List Inc) {Y : Heap} (hY : plain Y) (e : Int) : evF C F_history_History_Inc [.ptr (p + 2) 0, .d (.i .u32 e)] (kk p n G1 G2 q g Y) = some (.tup [.d (.agg (incAt G1 e).cs), .d (.b (decide (2 ≤ e ∧ e ≤ (G1.length : Int) + 1)))], kk p n G1 G2 q g Y) := by
  obtain ⟨h1, h2⟩ := kk_h hP hn (q := q) G1 G2 g hY
  by_cases h : 2 ≤ e ∧ e ≤ (G1.length : Int) + 1
  · obtain ⟨x, hx⟩ : ∃ x, G1[(e - 2).toNat]? = some x := ⟨G1[(e - 2).toNat]'(by omega), List.getElem?_eq_getElem _⟩
    have hi : incAt G1 e = x := by unfold incAt; rw [if_pos h, hx]; rfl
    have := hinc_at hP h1 rfl h2 (hq _) (hsOf G1) e x true (by rw [hsOf_xs, if_pos h, hx]; rfl)
    rw [hi, decide_eq_true h]
    exact this
  · have hi : incAt G1 e = ⟨0, 0, 0⟩ := by unfold incAt; rw [if_neg h]
    have := hinc_at hP h1 rfl h2 (hq _) (hsOf G1) e ⟨0, 0, 0⟩ false (by rw [hsOf_xs, if_neg h]; rfl)
    rw [hi, decide_eq_false h]
    exact this
theorem kc_last (G1 G2 : List Inc) {Y : Heap} (hY : plain Y) : evF C F_history_History_Last [.ptr (n + 2) 0] (kk p n G1 G2 q g Y) = some (.d (.i .u32 ((G2.length : Int) + 1)), kk p n G1 G2 q g Y) := by
  obtain ⟨h1, h2, h3⟩ := kk_c hP hn hq G1 G2 g Y (7 + Y.length)
  rw [h3]
  have := clast_at h1 (n := n + 7 + Y.length) rfl (by rw [Nat.add_assoc]; exact h2) (hY _) (hg _) (hsOf G2)
  rwa [hsOf_last] at this
theorem kc_add (G1 : List Inc) {G2 : List Inc} (hl : goodI G2) {Y : Heap} (hY : plain Y) (e : Int) (he : 0 ≤ e ∧ e < 4294967296) (x : Inc) (hx : x.ok) : evF C F_history_History_Add [.ptr (n + 2) 0, .d (.i .u32 e), .d (.agg x.cs)] (kk p n G1 G2 q g Y) = some (.d (.i .i64 (addL G2 e x).2), kk p n G1 (addL G2 e x).1 q g Y) := by
  obtain ⟨h1, h2, h3⟩ := kk_c hP hn hq G1 G2 g Y (7 + Y.length)
  obtain ⟨_, _, h4⟩ := kk_c hP hn hq G1 (addL G2 e x).1 g Y 0
  rw [h3, h4]
  exact cadd_at h1 (n := n + 7 + Y.length) rfl (by rw [Nat.add_assoc]; exact h2) (hY _) (hg _) G2 hl e he x hx
theorem kc_inc (G1 G2 : List Inc) {Y : Heap} (hY : plain Y) (e : Int) : evF C F_history_History_Inc [.ptr (n + 2) 0, .d (.i .u32 e)] (kk p n G1 G2 q g Y) = some (.tup [.d (.agg (incAt G2 e).cs), .d (.b (decide (2 ≤ e ∧ e ≤ (G2.length : Int) + 1)))], kk p n G1 G2 q g Y) := by
  obtain ⟨h1, h2, h3⟩ := kk_c hP hn hq G1 G2 g Y (7 + Y.length)
  rw [h3]
  by_cases h : 2 ≤ e ∧ e ≤ (G2.length : Int) + 1
  · obtain ⟨x, hx⟩ : ∃ x, G2[(e - 2).toNat]? = some x := ⟨G2[(e - 2).toNat]'(by omega), List.getElem?_eq_getElem _⟩
    have hi : incAt G2 e = x := by unfold incAt; rw [if_pos h, hx]; rfl
    have := cinc_at h1 (n := n + 7 + Y.length) rfl (by rw [Nat.add_assoc]; exact h2) (hY _) (hg _) (hsOf G2) e x true (by rw [hsOf_xs, if_pos h, hx]; rfl)
    rw [hi, decide_eq_true h]
    exact this
  · have hi : incAt G2 e = ⟨0, 0, 0⟩ := by unfold incAt; rw [if_neg h]
    have := cinc_at h1 (n := n + 7 + Y.length) rfl (by rw [Nat.add_assoc]; exact h2) (hY _) (hg _) (hsOf G2) e ⟨0, 0, 0⟩ false (by rw [hsOf_xs, if_neg h]; rfl)
    rw [hi, decide_eq_false h]
    exact this
omit hg in
theorem k_copy {G : List Inc} (hG : goodI G) : evF C F_history_History_Copy [.ptr (p + 2) 0] (hh [] p G q []) = some (.ptr (n + 2) 0, kk p n G G (q.frzN 4) grb0 []) := by
  have := hcopy_at (S := []) hP (n := n) hn rfl rfl (hq _) (hsOf G) (hsOf_ok hG)
  unfold kk
  rw [List.append_nil]
  exact this
end
end Go.Proofs.Ytckaebcljcpobaa
