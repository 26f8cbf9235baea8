/- What the laws of histories know. / The fold of increments that were taken; which increments are taken. -/
import Derived.Test.YtckaebcljcpobaaHsH
set_option linter.all false
namespace Go.Proofs.Ytckaebcljcpobaa
open Pv Go Pk
set_option maxRecDepth 10000
set_option maxHeartbeats 4000000
def x4 : Inc := ⟨4, 0, 0⟩
theorem eptr_itv (x : Itv) : AV.eptr x.cs = .eptr [.i .u32 x.since, .sl (x.acting.map fun x => .i .i64 x)] := rfl
theorem x4_fold : Inc.cs ⟨4, 0, 0⟩ = x4.cs := rfl
theorem x4_ok : x4.ok := by unfold Inc.ok x4; refine ⟨?_, ?_, ?_⟩ <;> decide
theorem iv_none {l : List Inc} (hl : goodI (l ++ [x4])) (g : Int) (h : (lastI (ivL l g)).acting = actI (mapAt l) g) (hg : 0 ≤ g ∧ g < 4) : ivL (l ++ [x4]) g = ivL l g := by
  have hm : isMp (mapAt (l ++ [x4])) = isMp (mapAt l) := by rw [mapAt_is hl, mapAt_is (goodI_snoc hl)]
  have ho : (mapAt (l ++ [x4])).osds = (mapAt l).osds := by rw [mapAt_snoc]; rfl
  have ha := fun g => actI_congr ho hm g
  obtain ⟨h0, h1, h2, h3⟩ := hsOf_ok (goodI_snoc hl)
  have key : ∀ (iv : List Itv) (g : Int), okI iv → (lastI iv).acting = actI (mapAt l) g → ivAdd iv (mapAt (l ++ [x4])).epoch (actI (mapAt (l ++ [x4])) g) = iv := by
    intro iv g hi he
    obtain ⟨x, hx, _⟩ := okI_last hi
    unfold ivAdd
    rw [hx, if_pos]
    unfold lastI at he
    rw [hx] at he
    rw [ha g, ← he]
    rfl
  unfold ivL ivOf at h ⊢
  rw [hsOf_snoc]
  obtain rfl | rfl | rfl | rfl : g = 0 ∨ g = 1 ∨ g = 2 ∨ g = 3 := by omega
  · exact key _ 0 h0 h
  · exact key _ 1 h1 h
  · exact key _ 2 h2 h
  · exact key _ 3 h3 h
/-- The last interval's daemons are those that act by the last map. -/
theorem last_acting {l : List Inc} (hl : goodI l) (g : Int) (hg : 0 ≤ g ∧ g < 4) : (lastI (ivL l g)).acting = actI (mapAt l) g := by
  revert hl
  refine list_snoc_ind (M := fun l => goodI l → (lastI (ivL l g)).acting = actI (mapAt l) g) ?_ ?_ l
  · intro _
    obtain rfl | rfl | rfl | rfl : g = 0 ∨ g = 1 ∨ g = 2 ∨ g = 3 := by omega
    all_goals rfl
  · intro l x ih hl
    have key : ∀ (iv : List Itv) (e : Int) (a : List Int), (lastI (ivAdd iv e a)).acting = a := by
      intro iv e a
      unfold ivAdd
      split
      · rename_i h
        unfold lastI
        cases hx : iv.getLast? with
        | none => rw [hx] at h; simp at h
        | some x => rw [hx] at h; exact Option.some.inj h
      · unfold lastI; simp
    unfold ivL ivOf
    rw [hsOf_snoc]
    obtain rfl | rfl | rfl | rfl : g = 0 ∨ g = 1 ∨ g = 2 ∨ g = 3 := by omega
    · exact key _ _ _
    · exact key _ _ _
    · exact key _ _ _
    · exact key _ _ _
theorem good4 : goodI [x4] := ⟨by simp, fun x hx => by simp at hx; subst hx; exact ⟨by decide, by decide⟩⟩
theorem known5_at : evF C F_paddocklaw5_known [] [] = some (.d (.b true), []) := by
  obtain ⟨p, hP⟩ : ∃ p, ([] : Heap).length = p := ⟨_, rfl⟩
  obtain ⟨n, hn⟩ : ∃ n, p + 12 = n := ⟨_, rfl⟩
  have hPp : plain [] := fun _ => rfl
  have hnew := h_new hP
  have L0 : ∀ X, plain X → evF C F_history_History_Last [.ptr (p + 2) 0] (hh [] p [] grb0 X) = some (.d (.i .u32 1), hh [] p [] grb0 X) := fun X hX => h_last hP hPp grb0_pl hX
  have A0 : ∀ X, plain X → evF C F_history_History_Add [.ptr (p + 2) 0, .d (.i .u32 3), .d (.agg x4.cs)] (hh [] p [] grb0 X) = some (.d (.i .i64 50), hh [] p [] grb0 X) := fun X hX => h_add hP hPp good_nil grb0_pl hX 3 (by decide) x4 x4_ok
  have A1 : ∀ X, plain X → evF C F_history_History_Add [.ptr (p + 2) 0, .d (.i .u32 1), .d (.agg x4.cs)] (hh [] p [] grb0 X) = some (.d (.i .i64 51), hh [] p [] grb0 X) := fun X hX => h_add hP hPp good_nil grb0_pl hX 1 (by decide) x4 x4_ok
  have A2 : ∀ X, plain X → evF C F_history_History_Add [.ptr (p + 2) 0, .d (.i .u32 2), .d (.agg x4.cs)] (hh [] p [] grb0 X) = some (.d (.i .i64 0), hh [] p [x4] grb0 X) := fun X hX => h_add hP hPp good_nil grb0_pl hX 2 (by decide) x4 x4_ok
  have hq1 := Grb.frz_pl grb0_pl 0
  have hiv : ivL [x4] 0 = [⟨1, actI firstM 0⟩] := iv_none (l := []) good4 0 (last_acting good_nil 0 (by decide)) (by decide)
  have hiv4 : ivL [x4] 4 = [] := rfl
  have I0 := fun X (hX : plain X) => @h_intervals _ _ hP hPp [x4] good4 _ grb0_pl X hX 0 (by decide)
  rw [hiv] at I0
  have M2 : ∀ X, plain X → evF C F_history_History_Map [.ptr (p + 2) 0, .d (.i .u32 2)] (hh [] p [x4] (grb0.frz 0) X) = some (.tup [.d (.agg (mapAt [x4]).cs), .d (.b true)], hh [] p [x4] (grb0.frz 0) X) := fun X hX => h_map hP hPp hq1 hX 2
  have M3 : ∀ X, plain X → evF C F_history_History_Map [.ptr (p + 2) 0, .d (.i .u32 3)] (hh [] p [x4] (grb0.frz 0) X) = some (.tup [.d (.agg Mp.zero.cs), .d (.b false)], hh [] p [x4] (grb0.frz 0) X) := fun X hX => h_map hP hPp hq1 hX 3
  have S0 : ∀ X, plain X → evF C F_history_History_Since [.ptr (p + 2) 0, .d (.i .u8 0)] (hh [] p [x4] (grb0.frz 0) X) = some (.d (.i .u32 1), hh [] p [x4] (grb0.frz 0) X) := by
    intro X hX
    have := h_since hP hPp good4 hq1 hX 0 (by decide)
    rwa [hiv] at this
  have S4 : ∀ X, plain X → evF C F_history_History_Since [.ptr (p + 2) 0, .d (.i .u8 4)] (hh [] p [x4] (grb0.frz 0) X) = some (.d (.i .u32 0), hh [] p [x4] (grb0.frz 0) X) := fun X hX => h_since hP hPp good4 hq1 hX 4 (by decide)
  have he2 : (mapAt [x4]).epoch = 2 := rfl
  have hl := hh_len hP hn
  have ha := hh_at hP hn
  have ha0 := hh_at0 hP hn
  have hs := hh_set hP hn
  have hs0 := hh_set0 hP hn
  have ht := hh_take hP hn
  have ht0 := hh_take0 hP hn
  rw [evF_code (rfl : C F_paddocklaw5_known = some a_paddocklaw5_known) _ _ rfl]
  simp (config := {decide := true}) only [c_paddocklaw5_known, hnew, L0, A0, A1, A2, I0, M2, M3, S0, S4, hl, ha, ha0, hs, hs0, ht, ht0, hh_push, x4_fold, eptr_itv, he2, Nat.zero_le, Nat.le_refl, List.take_zero, plain_nil, plain_arr, plain_box, Pk.EVL, keepT, enum, ↓reduceIte, ev, act, appT, callee, toDs, toD, loadA, storeA, subA, subD, updA, Eff.on, resA, resVs, resV, lk, finish, frzR, frzVs, frzV, fznR, fzns, fzn, lts, lt, ltO, List.all, pairsOk, indep, reduceCtorEq, Nat.reduceEqDiff, Nat.reduceAdd, Nat.reduceLeDiff, stb, thaws, List.drop, intOfA, binD, binI, unD, mmL, buildA, mkAgg, allD, bslD, behind, behind0, takeAt, frzAs, frzA, adoptR, adopt, isD, isD0, trim, List.take, binS, sliceA, bnd, zOk, elems, Nat.reduceBNe, inpl, Nat.reduceLT, Nat.reduceBEq, Nat.reduceSub, Nat.reduceMul, Int.reduceLT, Int.reduceLE, Int.reduceEq, Int.reduceToNat, Int.reduceNeg, thaw, nodup, refsV, adopts, Pk.TY_Mp, Pk.TY_Inc, Pk.TY_Itv]
end Go.Proofs.Ytckaebcljcpobaa

namespace Go.Proofs.Ytckaebcljcpobaa
open Pv Go Pk
set_option maxRecDepth 10000
set_option maxHeartbeats 4000000
/-- What is taken of a row of increments, each coming as the next one. -/
def takeN (g : List Inc) (x : Inc) : List Inc := (addL g ((g.length : Int) + 2) x).1
def codeN (g : List Inc) (x : Inc) : Int := (addL g ((g.length : Int) + 2) x).2
def takeAll (l : List Inc) : List Inc := l.foldl takeN []
theorem takeAll_snoc (l : List Inc) (x : Inc) : takeAll (l ++ [x]) = takeN (takeAll l) x := by unfold takeAll; rw [List.foldl_append]; rfl
theorem addL_next (g : List Inc) (x : Inc) : addL g ((g.length : Int) + 2) x = if isInc x = true ∧ g.length < 59 then (g ++ [x], 0) else (g, 40) := by
  unfold addL
  rw [if_neg (by omega), if_neg (by omega)]
theorem takeAll_good {l : List Inc} (h : ∀ x ∈ l, x.ok) : goodI (takeAll l) := by
  revert h
  refine list_snoc_ind (M := fun l => (∀ x ∈ l, x.ok) → goodI (takeAll l)) (fun _ => good_nil) ?_ l
  intro l x ih h
  rw [takeAll_snoc]
  exact addL_good (ih fun y hy => h y (by simp [hy])) (h x (by simp))
theorem takeAll_len (l : List Inc) : (takeAll l).length ≤ l.length := by
  refine list_snoc_ind (M := fun l => (takeAll l).length ≤ l.length) (by simp [takeAll]) ?_ l
  intro l x ih
  rw [takeAll_snoc]
  unfold takeN
  rw [addL_next]
  split <;> simp <;> omega
end Go.Proofs.Ytckaebcljcpobaa
