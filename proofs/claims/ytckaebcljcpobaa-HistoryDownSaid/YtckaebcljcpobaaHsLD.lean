/- The law HistoryDown. -/
import Derived.Test.YtckaebcljcpobaaHsN
set_option linter.all false
namespace Go.Proofs.Ytckaebcljcpobaa
open Pv Go Pk
set_option maxRecDepth 10000
set_option maxHeartbeats 4000000
theorem itv_eq {a b : List Itv} (h : a.map (fun x => (x.since, x.acting)) = b.map fun x => (x.since, x.acting)) : a = b := by
  induction a generalizing b with
  | nil => cases b with
    | nil => rfl
    | cons y r => simp at h
  | cons x r ih => cases b with
    | nil => simp at h
    | cons y s =>
      simp only [List.map_cons, List.cons.injEq, Prod.mk.injEq] at h
      obtain ⟨⟨h1, h2⟩, h3⟩ := h
      obtain ⟨a1, a2⟩ := x
      obtain ⟨b1, b2⟩ := y
      simp only at h1 h2
      rw [h1, h2, ih h3]
def dn (o : Int) : Inc := ⟨2, o, 0⟩
def upi (o : Int) : Inc := ⟨1, o, 0⟩
theorem dn_fold (o : Int) : Inc.cs ⟨2, o, 0⟩ = (dn o).cs := rfl
theorem up_fold (o : Int) : Inc.cs ⟨1, o, 0⟩ = (upi o).cs := rfl
theorem down_walk (gr wh g o : Int) (w : Nat) (a b : List Int) (hgr : 0 ≤ gr ∧ gr < 256) (hwh : 0 ≤ wh ∧ wh < 256) (hg : gr.tmod 4 = g) (hg4 : 0 ≤ g ∧ g < 4) (ho : 0 ≤ o ∧ o < 5) (hw : wh.tmod 3 = (w : Int)) (hao : a[w]? = some o) (hal : a.length = 3) (hbl : b.length = 2)
    (h1 : ivL [] g = [⟨1, a⟩]) (h2 : ivL [dn o] g = [⟨1, a⟩, ⟨2, b⟩]) (h3 : ivL [dn o, x4] g = [⟨1, a⟩, ⟨2, b⟩]) (h4 : ivL [dn o, x4, upi o] g = [⟨1, a⟩, ⟨2, b⟩, ⟨4, a⟩]) :
    evF C F_paddocklaw5_HistoryDown [.d (.i .u8 gr), .d (.i .u8 wh)] [] = some (.d (.b true), []) := by
  obtain ⟨p, hP⟩ : ∃ p, ([] : Heap).length = p := ⟨_, rfl⟩
  obtain ⟨n, hn⟩ : ∃ n, p + 12 = n := ⟨_, rfl⟩
  have hPp : plain [] := fun _ => rfl
  have hnew := h_new hP
  have hl := hh_len hP hn
  have ha := hh_at hP hn
  have ha0 := hh_at0 hP hn
  have hs := hh_set hP hn
  have hs0 := hh_set0 hP hn
  have ht := hh_take hP hn
  have ht0 := hh_take0 hP hn
  have n1 : (p + 2 < n) = True := eq_true (by omega)
  have n2 : (p + 2 < n + 1) = True := eq_true (by omega)
  have n3 : (n < n + 1) = True := eq_true (by omega)
  have n4 : (n ≤ n + 1) = True := eq_true (by omega)
  have n5 : (n ≤ n + 2) = True := eq_true (by omega)
  have n6 : (n + 1 ≤ n + 2) = True := eq_true (by omega)
  have od : (dn o).ok := by unfold Inc.ok dn; exact ⟨by show (0 : Int) ≤ 2 ∧ (2 : Int) < 256; omega, by show 0 ≤ o ∧ o < 256; omega, by show (-9223372036854775808 : Int) ≤ 0 ∧ (0 : Int) ≤ 9223372036854775807; omega⟩
  have ou : (upi o).ok := by unfold Inc.ok upi; exact ⟨by show (0 : Int) ≤ 1 ∧ (1 : Int) < 256; omega, by show 0 ≤ o ∧ o < 256; omega, by show (-9223372036854775808 : Int) ≤ 0 ∧ (0 : Int) ≤ 9223372036854775807; omega⟩
  have idn : isInc (dn o) = true := by unfold isInc dn; simp; omega
  have iup : isInc (upi o) = true := by unfold isInc upi; simp; omega
  have gd1 : goodI [dn o] := ⟨by simp, fun x hx => by simp at hx; subst hx; exact ⟨idn, ho.1⟩⟩
  have gd2 : goodI [dn o, x4] := ⟨by simp, fun x hx => by simp at hx; rcases hx with rfl | rfl; exact ⟨idn, ho.1⟩; exact ⟨by decide, by decide⟩⟩
  have gd3 : goodI [dn o, x4, upi o] := ⟨by simp, fun x hx => by simp at hx; rcases hx with rfl | rfl | rfl; exact ⟨idn, ho.1⟩; exact ⟨by decide, by decide⟩; exact ⟨iup, ho.1⟩⟩
  have A1 : ∀ X, plain X → evF C F_history_History_Add [.ptr (p + 2) 0, .d (.i .u32 2), .d (.agg (dn o).cs)] (hh [] p [] grb0 X) = some (.d (.i .i64 0), hh [] p [dn o] grb0 X) := fun X hX => by
    have := h_add hP hPp good_nil grb0_pl hX 2 (by decide) (dn o) od
    rwa [show addL [] 2 (dn o) = ([dn o], 0) by unfold addL; rw [if_neg (by simp), if_neg (by simp), if_pos ⟨idn, by simp⟩]; rfl] at this
  have A2 : ∀ X, plain X → evF C F_history_History_Add [.ptr (p + 2) 0, .d (.i .u32 3), .d (.agg x4.cs)] (hh [] p [dn o] grb0 X) = some (.d (.i .i64 0), hh [] p [dn o, x4] grb0 X) := fun X hX => h_add hP hPp gd1 grb0_pl hX 3 (by decide) x4 x4_ok
  have A3 : ∀ X, plain X → evF C F_history_History_Add [.ptr (p + 2) 0, .d (.i .u32 4), .d (.agg (upi o).cs)] (hh [] p [dn o, x4] grb0 X) = some (.d (.i .i64 0), hh [] p [dn o, x4, upi o] grb0 X) := fun X hX => by
    have := h_add hP hPp gd2 grb0_pl hX 4 (by decide) (upi o) ou
    rwa [show addL [dn o, x4] 4 (upi o) = ([dn o, x4, upi o], 0) by unfold addL; rw [if_neg (by simp), if_neg (by simp), if_pos ⟨iup, by simp⟩]; rfl] at this
  have C0 := fun X (hX : plain X) => @h_acting _ _ hP hPp [] good_nil _ grb0_pl X hX g hg4.1
  have S1 := fun X (hX : plain X) => @h_since _ _ hP hPp _ gd1 _ grb0_pl X hX g hg4.1
  have C1 := fun X (hX : plain X) => @h_acting _ _ hP hPp _ gd1 _ grb0_pl X hX g hg4.1
  have S2 := fun X (hX : plain X) => @h_since _ _ hP hPp _ gd2 _ grb0_pl X hX g hg4.1
  have I3 := fun X (hX : plain X) => @h_intervals _ _ hP hPp _ gd3 _ grb0_pl X hX g hg4.1
  have hq := Grb.frz_pl grb0_pl g
  generalize grb0.frz g = q at *
  have C3 := fun X (hX : plain X) => @h_acting _ _ hP hPp _ gd3 _ hq X hX g hg4.1
  rw [h1] at C0
  rw [h2] at S1 C1
  rw [h3] at S2
  rw [h4] at I3 C3
  simp only [lastI, List.getLast?_singleton, List.getLast?_cons_cons, Option.getD_some] at C0 S1 C1 S2 C3
  have IS := ints5_at a a (by omega)
  rw [decide_eq_true rfl] at IS
  have hx := list_idx (fun x : Int => DV.i .i64 x) hao
  have hal' : (a.map fun x : Int => DV.i .i64 x).length = 3 := by rw [List.length_map]; exact hal
  have hbl' : (b.map fun x : Int => DV.i .i64 x).length = 2 := by rw [List.length_map]; exact hbl
  have hwo : IntKind.u8.wrap o = o := wu8 (by omega)
  have hww : IntKind.i64.wrap wh = wh := wi64 (by omega)
  have hb0 : (0 ≤ (w : Int)) = True := eq_true (by omega)
  have hw2 : IntKind.i64.wrap 2 = 2 := by decide
  have hw3 : IntKind.i64.wrap (3 - 1) = 2 := by decide
  have hw3' : IntKind.i64.wrap (((3 : Nat) : Int) - 1) = 2 := by decide
  have h33 : wh.tmod ((3 : Nat) : Int) = (w : Int) := hw
  have ne22 : ((((2 : Nat) : Int)) != 2) = false := by decide
  have n30 : (((3 : Nat) : Int) = 0) = False := by simp
  rw [evF_code (rfl : C F_paddocklaw5_HistoryDown = some a_paddocklaw5_HistoryDown) _ _ rfl]
  simp (config := {decide := true}) only [c_paddocklaw5_HistoryDown, known5_at, hnew, hg, hw, h33, hx, hal', hbl', hwo, hww, hb0, hw2, hw3, hw3', ne22, n30, A1, A2, A3, C0, S1, C1, S2, I3, C3, IS, x4_fold, dn_fold, up_fold, Int.toNat_natCast, hl, ha, ha0, hs, hs0, ht, ht0, hh_push, eptr_itv, n1, n2, n3, n4, n5, n6, Nat.zero_le, Nat.le_refl, List.take_zero, plain_nil, plain_arr, plain_box, Pk.EVL, keepT, enum, ↓reduceIte, ev, act, appT, callee, toDs, toD, loadA, storeA, subA, subD, updA, Eff.on, resA, resVs, resV, lk, finish, frzR, frzVs, frzV, fznR, fzns, fzn, lts, lt, ltO, List.all, pairsOk, indep, reduceCtorEq, Nat.reduceEqDiff, Nat.reduceAdd, Nat.reduceLeDiff, stb, thaws, List.drop, intOfA, binD, binI, unD, mmL, buildA, mkAgg, allD, behind, behind0, takeAt, frzAs, frzA, adoptR, adopt, isD, isD0, trim, List.take, binS, sliceA, bnd, zOk, elems, Nat.reduceBNe, inpl, Nat.reduceLT, Nat.reduceBEq, Nat.reduceSub, Nat.reduceMul, Int.reduceLT, Int.reduceLE, Int.reduceEq, Int.reduceToNat, Int.reduceNeg, thaw, nodup, refsV, adopts, Pk.TY_Inc, Pk.TY_Itv]
  trace_state
theorem down_law (gr wh : Int) (hgr : 0 ≤ gr ∧ gr < 256) (hwh : 0 ≤ wh ∧ wh < 256) : evF C F_paddocklaw5_HistoryDown [.d (.i .u8 gr), .d (.i .u8 wh)] [] = some (.d (.b true), []) := by
  obtain ⟨gn, rfl⟩ := Int.eq_ofNat_of_zero_le hgr.1
  obtain ⟨wn, rfl⟩ := Int.eq_ofNat_of_zero_le hwh.1
  have hg : (gn : Int).tmod 4 = ((gn % 4 : Nat) : Int) := rfl
  have hw : (wn : Int).tmod 3 = ((wn % 3 : Nat) : Int) := rfl
  have h4 : gn % 4 < 4 := Nat.mod_lt _ (by omega)
  have h3 : wn % 3 < 3 := Nat.mod_lt _ (by omega)
  generalize gn % 4 = g at *
  generalize wn % 3 = w at *
  obtain rfl | rfl | rfl | rfl : g = 0 ∨ g = 1 ∨ g = 2 ∨ g = 3 := by omega
  · obtain rfl | rfl | rfl : w = 0 ∨ w = 1 ∨ w = 2 := by omega
    · exact down_walk gn wn 0 4 0 [4, 3, 2] [3, 2] hgr hwh hg (by decide) (by decide) hw rfl rfl rfl (itv_eq (by decide +kernel)) (itv_eq (by decide +kernel)) (itv_eq (by decide +kernel)) (itv_eq (by decide +kernel))
    · exact down_walk gn wn 0 3 1 [4, 3, 2] [4, 2] hgr hwh hg (by decide) (by decide) hw rfl rfl rfl (itv_eq (by decide +kernel)) (itv_eq (by decide +kernel)) (itv_eq (by decide +kernel)) (itv_eq (by decide +kernel))
    · exact down_walk gn wn 0 2 2 [4, 3, 2] [4, 3] hgr hwh hg (by decide) (by decide) hw rfl rfl rfl (itv_eq (by decide +kernel)) (itv_eq (by decide +kernel)) (itv_eq (by decide +kernel)) (itv_eq (by decide +kernel))
  · obtain rfl | rfl | rfl : w = 0 ∨ w = 1 ∨ w = 2 := by omega
    · exact down_walk gn wn 1 2 0 [2, 3, 0] [3, 0] hgr hwh hg (by decide) (by decide) hw rfl rfl rfl (itv_eq (by decide +kernel)) (itv_eq (by decide +kernel)) (itv_eq (by decide +kernel)) (itv_eq (by decide +kernel))
    · exact down_walk gn wn 1 3 1 [2, 3, 0] [2, 0] hgr hwh hg (by decide) (by decide) hw rfl rfl rfl (itv_eq (by decide +kernel)) (itv_eq (by decide +kernel)) (itv_eq (by decide +kernel)) (itv_eq (by decide +kernel))
    · exact down_walk gn wn 1 0 2 [2, 3, 0] [2, 3] hgr hwh hg (by decide) (by decide) hw rfl rfl rfl (itv_eq (by decide +kernel)) (itv_eq (by decide +kernel)) (itv_eq (by decide +kernel)) (itv_eq (by decide +kernel))
  · obtain rfl | rfl | rfl : w = 0 ∨ w = 1 ∨ w = 2 := by omega
    · exact down_walk gn wn 2 4 0 [4, 2, 3] [2, 3] hgr hwh hg (by decide) (by decide) hw rfl rfl rfl (itv_eq (by decide +kernel)) (itv_eq (by decide +kernel)) (itv_eq (by decide +kernel)) (itv_eq (by decide +kernel))
    · exact down_walk gn wn 2 2 1 [4, 2, 3] [4, 3] hgr hwh hg (by decide) (by decide) hw rfl rfl rfl (itv_eq (by decide +kernel)) (itv_eq (by decide +kernel)) (itv_eq (by decide +kernel)) (itv_eq (by decide +kernel))
    · exact down_walk gn wn 2 3 2 [4, 2, 3] [4, 2] hgr hwh hg (by decide) (by decide) hw rfl rfl rfl (itv_eq (by decide +kernel)) (itv_eq (by decide +kernel)) (itv_eq (by decide +kernel)) (itv_eq (by decide +kernel))
  · obtain rfl | rfl | rfl : w = 0 ∨ w = 1 ∨ w = 2 := by omega
    · exact down_walk gn wn 3 3 0 [3, 2, 4] [2, 4] hgr hwh hg (by decide) (by decide) hw rfl rfl rfl (itv_eq (by decide +kernel)) (itv_eq (by decide +kernel)) (itv_eq (by decide +kernel)) (itv_eq (by decide +kernel))
    · exact down_walk gn wn 3 2 1 [3, 2, 4] [3, 4] hgr hwh hg (by decide) (by decide) hw rfl rfl rfl (itv_eq (by decide +kernel)) (itv_eq (by decide +kernel)) (itv_eq (by decide +kernel)) (itv_eq (by decide +kernel))
    · exact down_walk gn wn 3 4 2 [3, 2, 4] [3, 2] hgr hwh hg (by decide) (by decide) hw rfl rfl rfl (itv_eq (by decide +kernel)) (itv_eq (by decide +kernel)) (itv_eq (by decide +kernel)) (itv_eq (by decide +kernel))
end Go.Proofs.Ytckaebcljcpobaa
