/- strconv.Itoa of one figure as an outside function. / slices.Grow of nil as an outside function of the evaluator: an empty row of its own. / slices.Clone as an outside function of the evaluator: the same row, in an array of its own (or as data), whether what is cloned is nil or empty. -/
import Derived.Test.YtlihpaegaikoeaaDoorPkCodA
import Derived.Test.YtlihpaegaikoeaaDoorPkEv
import Derived.Test.YtlihpaegaikoeaaDoorPvSound
import Derived.Shelf.Strconv.Itoa3
import Derived.Shelf.Spec.SlicesGrow
set_option linter.all false
namespace Pk
open Pv Go Go.RowKit

/-- A figure's text. -/
def fig (n : Nat) : ByteArray := ⟨#[UInt8.ofNat (48 + n)]⟩
/-- strconv.Itoa of one figure. -/
def itoaX : List AV → Option (AV × Heap)
  | [.d (.i .i64 c)] => if 0 ≤ c ∧ c < 10 then some (.d (.s (fig c.toNat)), []) else none
  | _ => none
theorem dec_fig : ∀ i < 10, (⟨(Lib.decDigits i).toArray⟩ : ByteArray) = fig i := by decide +kernel
theorem itoaX_ok {P : Program} {f : FuncId} (hc : Callable P f) (h : ∀ (i : Nat) (w : World), i < 100 →
    Calls P f #[.int .i64 i] w fun e w' => e = .returned (.string ⟨(Lib.decDigits i).toArray⟩) ∧ w' = w) :
    ∀ args r, itoaX args = some r → SRet P f args [] r := by
  intro args r hr
  unfold itoaX at hr
  split at hr
  · split at hr
    · rename_i c hcond
      obtain ⟨h0, h1⟩ := hcond
      injection hr with hr
      subst hr
      refine sret_lib hc fun γ w vs hvs hH => ?_
      obtain ⟨v1, rfl, a⟩ : ∃ v1, vs = [v1] ∧ RV γ w (.d (.i .i64 c)) v1 := by
        cases hvs with
        | cons a hvs => cases hvs; exact ⟨_, rfl, a⟩
      cases a with
      | d a => cases a with
        | i k x =>
          obtain ⟨n, rfl⟩ : ∃ n : Nat, c = n := ⟨c.toNat, by omega⟩
          refine (h n w (by omega)).mono ?_
          rintro e w' ⟨he, rfl⟩
          refine ⟨_, he, fun γ w => ?_, Below.refl _ _⟩
          rw [dec_fig n (by omega), show Int.toNat (n : Int) = n by simp]
          exact .s _
    · simp at hr
  · simp at hr
theorem itoa_at {C : FuncId → Option AFn} {f : FuncId} (h : C f = some (.ext itoaX)) (n : Nat) (hn : n < 10) : evF C f [.d (.i .i64 (n : Int))] [] = some (.d (.s (fig n)), []) := by
  rw [evF_ext h]
  show (if _ then _ else _) = _
  rw [if_pos ⟨by omega, by omega⟩]
  simp
end Pk

namespace Pk
open Pv Go
/-- What slices.Grow answers of nil. -/
def growX (z : Nat) : List AV → Heap → Option (AV × Heap)
  | [.nilS, .d (.i .i64 n)], H => if 0 ≤ n ∧ n ≤ LIM then some (.view H.length 0 z 0 0, H ++ [.arr [] true]) else none
  | _, _ => none
theorem growX_ok {P : Program} {f : FuncId} {z : Nat} {zv : Value} {el : TypeId} (hf : Callable P f) (hz : 0 < z) (hzv : zv.cells.size = z)
    (h0 : ∀ w : World, Calls P f #[.slice none 0 0, .int .i64 0] w fun e w' => e = .returned (.slice none 0 0) ∧ w' = w)
    (h1 : ∀ (n : Nat) (w : World), 0 < n → n ≤ LIM → Calls P f #[.slice none 0 0, .int .i64 n] w fun e w' => e = .returned (.slice (some { block := w.heap.size, off := 0 }) 0 (grownCap w (0 + n) 0 el)) ∧
      w' = w.drew.alloc (.cells (([] : List Value).toArray ++ Builtin.zeroCells zv.cells (0 + n - 0) ++ Builtin.zeroCells zv.cells (grownCap w (0 + n) 0 el - (0 + n))) el)) :
    ∀ args H r, growX z args H = some r → SRet P f args H r := by
  intro args H r hr
  unfold growX at hr
  split at hr
  · rename_i n
    split at hr
    · rename_i hc
      obtain ⟨hn0, hn1⟩ := hc
      injection hr with hr
      subst hr
      refine ⟨hf, fun γ w vs hvs hH => ?_⟩
      obtain ⟨v1, v2, rfl, a, b⟩ : ∃ v1 v2, vs = [v1, v2] ∧ RV γ w .nilS v1 ∧ RV γ w (.d (.i .i64 n)) v2 := by
        cases hvs with
        | cons a hvs => cases hvs with
          | cons b hvs => cases hvs; exact ⟨_, _, rfl, a, b⟩
      obtain ⟨m, rfl⟩ : ∃ m : Nat, n = m := ⟨n.toNat, by omega⟩
      cases a
      cases b with
      | d b => cases b with
        | i k x =>
          by_cases hm : m = 0
          · subst hm
            refine (h0 w).mono ?_
            rintro e w' ⟨rfl, rfl⟩
            have hgw : w'.grownBy w' none := ⟨rfl, rfl, rfl, Nat.le_refl _, fun _ _ _ => rfl⟩
            have hown : ∀ b, (Pl.arr (.slice none 0 0) z 0).own = some b → w'.heap.size ≤ b := fun b hb => by simp [Pl.own, Value.ownBlock] at hb
            have hro : RArr (γ.put H.length (.arr (.slice none 0 0) z 0)) w' (.slice none 0 0) z 0 [] true :=
              ⟨rfl, by simp, by omega, ⟨[], 0, .nil, by simp [ones], World.ownsRow_nil ..⟩, fun _ g hg => by simp [Value.ownBlock] at hg, fun hw => by simp at hw⟩
            exact ⟨_, _, rfl, RV.full (γ.put_same _ _) hro, RH.push hH hgw hown hro, Stp.new hH hgw hown⟩
          · refine (h1 m w (by omega) (by omega)).mono ?_
            rintro e w' ⟨rfl, rfl⟩
            have hge := grownCap_ge w (0 + m) 0 el
            have hle := grownCap_le_maxLen w (0 + m) 0 el (by simp only [LIM] at hn1; simp only [maxLen]; omega)
            generalize grownCap w (0 + m) 0 el = cap at *
            generalize hcur : (([] : List Value).toArray ++ Builtin.zeroCells zv.cells (0 + m - 0) ++ Builtin.zeroCells zv.cells (cap - (0 + m))) = cur
            have hcs : cur.size = cap * z := by
              subst hcur
              simp only [Array.size_append, size_zeroCells, hzv, List.size_toArray, List.length_nil, Nat.zero_add, Nat.sub_zero, ← Nat.add_mul]
              congr 1
              omega
            have hgw : w.grownBy (w.drew.alloc (.cells cur el)) none := ⟨rfl, rfl, rfl, by simp, fun k hk _ => heap_alloc_old w.drew _ hk⟩
            have hown : ∀ b, (Pl.arr (.slice (some { block := w.heap.size, off := 0 }) 0 cap) z 0).own = some b → w.heap.size ≤ b := fun b hb => by simp [Pl.own, Value.ownBlock] at hb; omega
            have hstp := Stp.new hH hgw hown
            have hro : RArr (γ.put H.length (.arr (.slice (some { block := w.heap.size, off := 0 }) 0 cap) z 0)) (w.drew.alloc (.cells cur el)) (.slice (some { block := w.heap.size, off := 0 }) 0 cap) z 0 [] true :=
              ⟨rfl, by simp, by omega, ⟨[], el, .nil, by simp [ones], by simp, .inr ⟨w.heap.size, cap, cur, rfl, Nat.zero_le _, heap_alloc_new w.drew _, by simp, hle, hcs, by simp⟩⟩, fun _ g hg j hj => by
                simp [Value.ownBlock] at hg
                have := hH.fixb g j hj
                omega, fun hw => by simp at hw⟩
            exact ⟨_, _, rfl, RV.full (γ.put_same _ _) hro, RH.push hH hgw hown hro, hstp⟩
    · simp at hr
  · simp at hr
theorem grow_at {C : FuncId → Option AFn} {f : FuncId} {z : Nat} (h : C f = some (.exth (growX z))) (n : Nat) (hn : n ≤ LIM) (H : Heap) : evF C f [.nilS, .d (.i .i64 (n : Int))] H = some (.view H.length 0 z 0 0, H ++ [.arr [] true]) := by
  rw [evF.eq_def]
  simp only [h]
  show (if _ then _ else _) = _
  rw [if_pos ⟨by omega, by omega⟩]
end Pk

namespace Pk
open Pv Go
set_option maxRecDepth 10000

def cloneC (z : Nat) : ACode :=
  .seq (.region (some [0]) [⟨(some 2), .mv (.c (.nilS)), none⟩] [])
  (.seq (.seq (.region (some [0]) [⟨(some 3), .mv (.t 0), none⟩, ⟨(some 4), .isnil false (.t 3), none⟩] [])
  (.cond (.t 4) (.seq (.region (some []) [⟨(some 2), .mv (.c (.nilS)), none⟩] []) (.ret)) (.skip)))
  (.seq (.region (some [0]) [⟨(some 5), .bsl z [], none⟩, ⟨(some 6), .mv (.t 0), none⟩, ⟨(some 7), .app z (.t 5) (.t 6), none⟩, ⟨(some 2), .mv (.t 7), none⟩] [])
  (.ret)))
def cloneF (z : Nat) : AFn := .code 1 (cloneC z) [.tmp 2]
def cloneT (f : FuncId) (z : Nat) : FuncId → Option AFn := fun g => if g = f then some (cloneF z) else none
theorem cloneT_rel {P : Program} {f : FuncId} {z : Nat} (h : ∃ h, compF P h f = some (cloneF z)) : CRel P (cloneT f z) := by
  intro g fn hg
  unfold cloneT at hg
  split at hg
  · rename_i e
    subst e
    injection hg with hg
    subst hg
    exact h
  · simp at hg
theorem clone_some (f : FuncId) (z : Nat) (e : DV) (es : List DV) (hl : es.length + 1 ≤ LIM) (hz : (e :: es).all (fun x => x.cells.length == z) = true) :
    evF (cloneT f z) f [.d (.sl (e :: es))] [] = some (.view 0 (e :: es).length z 0 (e :: es).length, [.arr (e :: es) true]) := by
  have hC : cloneT f z f = some (.code 1 (cloneC z) [.tmp 2]) := by simp [cloneT, cloneF]
  have hl' : 0 + (e :: es).length ≤ LIM := by simp only [List.length_cons]; omega
  rw [evF_code hC _ _ rfl]
  simp (config := {decide := true}) only [cloneC, Pk.EVL, keepT, enum, ↓reduceIte, ev, act, appT, callee, toDs, toD, loadA, storeA, subA, subD, updA, Eff.on, resA, resVs, resV, lk, finish, frzR, frzVs, frzV, fznR, fzns, fzn, lts, lt, ltO, List.all, pairsOk, indep, reduceCtorEq, Nat.reduceEqDiff, Nat.reduceAdd, Nat.reduceLeDiff, stb, thaws, List.drop, intOfA, binD, binI, unD, mmL, buildA, mkAgg, allD, bslD, behind, behind0, takeAt, frzAs, frzA, adoptR, adopt, isD, isD0, trim, List.take, binS, sliceA, bnd, zOk, elems, Nat.reduceBNe, inpl, Nat.reduceLT, Nat.reduceBEq, Nat.reduceSub, Nat.reduceMul, Int.reduceLT, Int.reduceLE, Int.reduceEq, Int.reduceToNat, Int.reduceNeg, thaw, nodup, refsV, adopts]
  simp only [List.all_cons, Bool.and_eq_true, List.all_eq_true, beq_iff_eq, DV.cells] at hz
  simp only [elems, act, ev, lk, Nat.reduceEqDiff, ↓reduceIte, List.all_cons, Bool.and_eq_true, List.all_eq_true, beq_iff_eq, DV.cells, List.getElem?_cons_zero, List.length_nil, true_and, Nat.zero_add, List.length_cons, List.nil_append, List.set_cons_zero]
  rw [if_pos hz, if_pos hl]
  simp (config := {decide := true}) only [Pk.EVL, keepT, enum, ↓reduceIte, ev, act, appT, callee, toDs, toD, loadA, storeA, subA, subD, updA, Eff.on, resA, resVs, resV, lk, finish, frzR, frzVs, frzV, fznR, fzns, fzn, lts, lt, ltO, List.all, pairsOk, indep, reduceCtorEq, Nat.reduceEqDiff, Nat.reduceAdd, Nat.reduceLeDiff, stb, thaws, List.drop, intOfA, binD, binI, unD, mmL, buildA, mkAgg, allD, bslD, behind, behind0, takeAt, frzAs, frzA, adoptR, adopt, isD, isD0, trim, List.take, binS, sliceA, bnd, zOk, elems, Nat.reduceBNe, inpl, Nat.reduceLT, Nat.reduceBEq, Nat.reduceSub, Nat.reduceMul, Int.reduceLT, Int.reduceLE, Int.reduceEq, Int.reduceToNat, Int.reduceNeg, thaw, nodup, refsV, adopts]
theorem clone_nil (f : FuncId) (z : Nat) : evF (cloneT f z) f [.e0 true] [] = some (.nilS, []) := by
  have hC : cloneT f z f = some (.code 1 (cloneC z) [.tmp 2]) := by simp [cloneT, cloneF]
  rw [evF_code hC _ _ rfl]
  simp (config := {decide := true}) only [cloneC, Pk.EVL, keepT, enum, ↓reduceIte, ev, act, appT, callee, toDs, toD, loadA, storeA, subA, subD, updA, Eff.on, resA, resVs, resV, lk, finish, frzR, frzVs, frzV, fznR, fzns, fzn, lts, lt, ltO, List.all, pairsOk, indep, reduceCtorEq, Nat.reduceEqDiff, Nat.reduceAdd, Nat.reduceLeDiff, stb, thaws, List.drop, intOfA, binD, binI, unD, mmL, buildA, mkAgg, allD, bslD, behind, behind0, takeAt, frzAs, frzA, adoptR, adopt, isD, isD0, trim, List.take, binS, sliceA, bnd, zOk, elems, Nat.reduceBNe, inpl, Nat.reduceLT, Nat.reduceBEq, Nat.reduceSub, Nat.reduceMul, Int.reduceLT, Int.reduceLE, Int.reduceEq, Int.reduceToNat, Int.reduceNeg, thaw, nodup, refsV, adopts]
theorem clone_emp (f : FuncId) (z : Nat) : evF (cloneT f z) f [.e0 false] [] = some (.view 0 0 z 0 0, [.arr [] true]) := by
  have hC : cloneT f z f = some (.code 1 (cloneC z) [.tmp 2]) := by simp [cloneT, cloneF]
  rw [evF_code hC _ _ rfl]
  simp (config := {decide := true}) only [cloneC, Pk.EVL, keepT, enum, ↓reduceIte, ev, act, appT, callee, toDs, toD, loadA, storeA, subA, subD, updA, Eff.on, resA, resVs, resV, lk, finish, frzR, frzVs, frzV, fznR, fzns, fzn, lts, lt, ltO, List.all, pairsOk, indep, reduceCtorEq, Nat.reduceEqDiff, Nat.reduceAdd, Nat.reduceLeDiff, stb, thaws, List.drop, intOfA, binD, binI, unD, mmL, buildA, mkAgg, allD, bslD, behind, behind0, takeAt, frzAs, frzA, adoptR, adopt, isD, isD0, trim, List.take, binS, sliceA, bnd, zOk, elems, Nat.reduceBNe, inpl, Nat.reduceLT, Nat.reduceBEq, Nat.reduceSub, Nat.reduceMul, Int.reduceLT, Int.reduceLE, Int.reduceEq, Int.reduceToNat, Int.reduceNeg, thaw, nodup, refsV, adopts]
/-- What slices.Clone answers, of elements of z cells. -/
def cloneX (z : Nat) : List AV → Option (AV × Heap)
  | [.d (.sl es)] => if es.length ≤ LIM ∧ es.all (fun x => x.cells.length == z) = true then some (.view 0 es.length z 0 es.length, [.arr es true]) else none
  | _ => none
def cloneD (z : Nat) : List AV → Option (AV × Heap)
  | [.d (.sl es)] => if es.length ≤ LIM ∧ es.all (fun x => x.cells.length == z) = true then some (.d (.sl es), []) else none
  | _ => none
theorem cloneX_ok {P : Program} {f : FuncId} {z : Nat} (hz : 0 < z) (h : ∃ h, compF P h f = some (cloneF z)) : ∀ args r, cloneX z args = some r → SRet P f args [] r := by
  intro args r hr
  have hs := (sound (cloneT f z) (cloneT_rel h)).1
  unfold cloneX at hr
  split at hr
  · rename_i es
    split at hr
    · rename_i hc
      obtain ⟨hl, ha⟩ := hc
      injection hr with hr
      subst hr
      cases es with
      | cons e es => exact hs _ _ _ _ (clone_some f z e es (by simpa using hl) ha)
      | nil =>
        have h1 := hs _ _ _ _ (clone_nil f z)
        have h2 := hs _ _ _ _ (clone_emp f z)
        refine ⟨h1.1, fun γ w vs hvs hH => ?_⟩
        cases hvs with
        | cons a hvs =>
          cases hvs
          cases a with
          | d a =>
            cases a with
            | nil a cap =>
              cases a with
              | none =>
                refine (h1.2 γ w _ (.cons (.e0t cap) .nil) hH).mono ?_
                rintro e w' ⟨v, γ', rfl, hv, hH', hst⟩
                cases hv
                have hgw : w'.grownBy w' none := ⟨rfl, rfl, rfl, Nat.le_refl _, fun _ _ _ => rfl⟩
                have hown : ∀ b, (Pl.arr (.slice none 0 0) z 0).own = some b → w'.heap.size ≤ b := fun b hb => by simp [Pl.own, Value.ownBlock] at hb
                have hro : RArr (γ'.put ([] : Heap).length (.arr (.slice none 0 0) z 0)) w' (.slice none 0 0) z 0 [] true :=
                  ⟨rfl, by simp, by omega, ⟨[], 0, .nil, by simp [ones], World.ownsRow_nil ..⟩, fun _ g hg => by simp [Value.ownBlock] at hg, fun hw => by simp at hw⟩
                exact ⟨_, _, rfl, RV.full (γ'.put_same _ _) hro, RH.push hH' hgw hown hro, hst.trans (Stp.new hH' hgw hown)⟩
              | some a => exact h2.2 γ w _ (.cons (.e0f a cap) .nil) hH
            | sl h' h1' hz' hc' hf' => exact h2.2 γ w _ (.cons (.e0f _ _) .nil) hH
    · simp at hr
  · simp at hr
end Pk
