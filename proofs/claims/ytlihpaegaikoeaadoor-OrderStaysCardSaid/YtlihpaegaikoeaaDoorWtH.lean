/- One order: Acked, Len, At, Base, Took. -/
import Derived.Test.YtlihpaegaikoeaaDoorWtG
set_option linter.all false
namespace Go.Proofs.YtlihpaegaikoeaaDoor
open Pv Go Pk
set_option maxRecDepth 10000
set_option maxHeartbeats 2000000

section
variable {H : Heap} {o : Nat} {L : Nat → Lr} {V : Nat → Prop} (hO : Ord H o L V)
include hO
theorem acked_at (g : Nat) : evF C F_witness_Order_Acked [.ptr o 0, .d (.i .u8 (g : Int))] H = some (.d (.i .u32 (if g < 4 then ((L g).acked : Int) else 0)), H) := by
  obtain ⟨hok, W, ho, hnd, hrows⟩ := hO
  have hlt : o < H.length := (List.getElem?_eq_some_iff.1 ho).1
  have tk : List.take H.length H = H := List.take_length
  unfold okH at hok
  rw [evF_code (rfl : C F_witness_Order_Acked = some a_witness_Order_Acked) _ _ rfl]
  by_cases hg : g < 4
  · have D := W4.rds hg
    have F := W4.fits hg
    obtain ⟨-, k2, -⟩ := hrows g hg
    rw [if_pos hg, ← k2]
    simp (config := {decide := true}) only [c_witness_Order_Acked, ho, D, F, tk, hok, Int.toNat_natCast, Pk.EVL, keepT, enum, ↓reduceIte, ev, act, appT, callee, toDs, toD, loadA, storeA, subA, subD, updA, Eff.on, resA, resVs, resV, lk, finish, frzR, frzVs, frzV, fznR, fzns, fzn, lts, lt, ltO, List.all, pairsOk, indep, reduceCtorEq, Nat.reduceEqDiff, Nat.reduceAdd, Nat.reduceLeDiff, stb, thaws, List.drop, intOfA, binD, binI, unD, mmL, buildA, mkAgg, allD, bslD, behind, behind0, takeAt, frzAs, frzA, adoptR, adopt, isD, isD0, trim, List.take, binS, sliceA, bnd, zOk, elems, Nat.reduceBNe, inpl, Nat.reduceLT, Nat.reduceBEq, Nat.reduceSub, Nat.reduceMul, Int.reduceLT, Int.reduceLE, Int.reduceEq, Int.reduceToNat, Int.reduceNeg, thaw, nodup, refsV, adopts]
  · have c1 : decide ((g : Int) ≥ 4) = true := by simp; omega
    rw [if_neg hg]
    simp (config := {decide := true}) only [c_witness_Order_Acked, c1, tk, hok, Pk.EVL, keepT, enum, ↓reduceIte, ev, act, appT, callee, toDs, toD, loadA, storeA, subA, subD, updA, Eff.on, resA, resVs, resV, lk, finish, frzR, frzVs, frzV, fznR, fzns, fzn, lts, lt, ltO, List.all, pairsOk, indep, reduceCtorEq, Nat.reduceEqDiff, Nat.reduceAdd, Nat.reduceLeDiff, stb, thaws, List.drop, intOfA, binD, binI, unD, mmL, buildA, mkAgg, allD, bslD, behind, behind0, takeAt, frzAs, frzA, adoptR, adopt, isD, isD0, trim, List.take, binS, sliceA, bnd, zOk, elems, Nat.reduceBNe, inpl, Nat.reduceLT, Nat.reduceBEq, Nat.reduceSub, Nat.reduceMul, Int.reduceLT, Int.reduceLE, Int.reduceEq, Int.reduceToNat, Int.reduceNeg, thaw, nodup, refsV, adopts]
theorem len_at (g : Nat) : evF C F_witness_Order_Len [.ptr o 0, .d (.i .u8 (g : Int))] H = some (.d (.i .i64 (if g < 4 then ((L g).l.length : Int) else 0)), H) := by
  obtain ⟨hok, W, ho, hnd, hrows⟩ := hO
  have hlt : o < H.length := (List.getElem?_eq_some_iff.1 ho).1
  have tk : List.take H.length H = H := List.take_length
  unfold okH at hok
  rw [evF_code (rfl : C F_witness_Order_Len = some a_witness_Order_Len) _ _ rfl]
  by_cases hg : g < 4
  · have D := W4.rds hg
    have F := W4.fits hg
    obtain ⟨k1, -, -⟩ := hrows g hg
    rw [if_pos hg]
    rcases k1.l with ⟨hx, hl⟩ | hx
    · rw [hl]
      simp (config := {decide := true}) only [c_witness_Order_Len, ho, D, F, hx, tk, hok, Int.toNat_natCast, Pk.EVL, keepT, enum, ↓reduceIte, ev, act, appT, callee, toDs, toD, loadA, storeA, subA, subD, updA, Eff.on, resA, resVs, resV, lk, finish, frzR, frzVs, frzV, fznR, fzns, fzn, lts, lt, ltO, List.all, pairsOk, indep, reduceCtorEq, Nat.reduceEqDiff, Nat.reduceAdd, Nat.reduceLeDiff, stb, thaws, List.drop, intOfA, binD, binI, unD, mmL, buildA, mkAgg, allD, bslD, behind, behind0, takeAt, frzAs, frzA, adoptR, adopt, isD, isD0, trim, List.take, binS, sliceA, bnd, zOk, elems, Nat.reduceBNe, inpl, Nat.reduceLT, Nat.reduceBEq, Nat.reduceSub, Nat.reduceMul, Int.reduceLT, Int.reduceLE, Int.reduceEq, Int.reduceToNat, Int.reduceNeg, thaw, nodup, refsV, adopts]
      rfl
    · simp (config := {decide := true}) only [c_witness_Order_Len, ho, D, F, hx, tk, hok, Int.toNat_natCast, Pk.EVL, keepT, enum, ↓reduceIte, ev, act, appT, callee, toDs, toD, loadA, storeA, subA, subD, updA, Eff.on, resA, resVs, resV, lk, finish, frzR, frzVs, frzV, fznR, fzns, fzn, lts, lt, ltO, List.all, pairsOk, indep, reduceCtorEq, Nat.reduceEqDiff, Nat.reduceAdd, Nat.reduceLeDiff, stb, thaws, List.drop, intOfA, binD, binI, unD, mmL, buildA, mkAgg, allD, bslD, behind, behind0, takeAt, frzAs, frzA, adoptR, adopt, isD, isD0, trim, List.take, binS, sliceA, bnd, zOk, elems, Nat.reduceBNe, inpl, Nat.reduceLT, Nat.reduceBEq, Nat.reduceSub, Nat.reduceMul, Int.reduceLT, Int.reduceLE, Int.reduceEq, Int.reduceToNat, Int.reduceNeg, thaw, nodup, refsV, adopts, Pk.TY_Entry]
  · have c1 : decide ((g : Int) ≥ 4) = true := by simp; omega
    rw [if_neg hg]
    simp (config := {decide := true}) only [c_witness_Order_Len, c1, tk, hok, Pk.EVL, keepT, enum, ↓reduceIte, ev, act, appT, callee, toDs, toD, loadA, storeA, subA, subD, updA, Eff.on, resA, resVs, resV, lk, finish, frzR, frzVs, frzV, fznR, fzns, fzn, lts, lt, ltO, List.all, pairsOk, indep, reduceCtorEq, Nat.reduceEqDiff, Nat.reduceAdd, Nat.reduceLeDiff, stb, thaws, List.drop, intOfA, binD, binI, unD, mmL, buildA, mkAgg, allD, bslD, behind, behind0, takeAt, frzAs, frzA, adoptR, adopt, isD, isD0, trim, List.take, binS, sliceA, bnd, zOk, elems, Nat.reduceBNe, inpl, Nat.reduceLT, Nat.reduceBEq, Nat.reduceSub, Nat.reduceMul, Int.reduceLT, Int.reduceLE, Int.reduceEq, Int.reduceToNat, Int.reduceNeg, thaw, nodup, refsV, adopts]
end
/-- An order stays one where other objects are laid behind. -/
theorem Ord.hf {H : Heap} {o : Nat} {L : Nat → Lr} {V : Nat → Prop} (hO : Ord H o L V) {Y : Heap} (hY : okH (hf H Y)) : Ord (hf H Y) o L V := by
  obtain ⟨hok, W, ho, hnd, hrows⟩ := hO
  exact ⟨hY, W, hf_old ho Y, hnd, fun g hg => ⟨isRow_hf (hrows g hg).1 Y, (hrows g hg).2⟩⟩
theorem Ord.fr {H G : Heap} {o : Nat} {L : Nat → Lr} {V : Nat → Prop} (hO : Ord H o L V) (hG : okH G) (hf : Fr o H G) (hb : G[o]? = H[o]?) : Ord G o L V := by
  obtain ⟨hok, W, ho, hnd, hrows⟩ := hO
  exact ⟨hG, W, hb ▸ ho, hnd, fun g hg => ⟨isRow_fr ho hf (hrows g hg).1, (hrows g hg).2⟩⟩
def atL (L : Nat → Lr) (g m : Nat) : Entry × Bool := if m < 1 ∨ ¬ g < 4 ∨ (L g).l.length < m then (Entry.zero, false) else (((L g).l[m - 1]?).getD Entry.zero, true)
def baseL (L : Nat → Lr) (g m : Nat) : Base × Bool := if ¬ g < 4 ∨ (L g).l.length < m then (Base.zero, false) else (baseOf ((L g).l.take m), true)
theorem wu64 {n : Nat} (h : n < 18446744073709551616) : IntKind.u64.wrap (n : Int) = (n : Int) := by unfold IntKind.wrap; simp [IntKind.signed, IntKind.bits]; omega

theorem at_at {H : Heap} {o : Nat} {L : Nat → Lr} {V : Nat → Prop} (hO : Ord H o L V) (hv : ∀ k, k < 4 → LrOk (L k)) (g m : Nat) (hm : m < 4294967296) :
    evF C F_witness_Order_At [.ptr o 0, .d (.i .u8 (g : Int)), .d (.i .u32 (m : Int))] H = some (.tup [.d (.agg (atL L g m).1.cs), .d (.b (atL L g m).2)], H) := by
  have hO0 := hO
  obtain ⟨hok, W, ho, hnd, hrows⟩ := hO
  obtain ⟨n, hn⟩ : ∃ n, H.length = n := ⟨_, rfl⟩
  have hlt : o < n := hn ▸ (List.getElem?_eq_some_iff.1 ho).1
  have R := hf_rules hn
  have K := ok_rules hn hok
  have N := n_rules n
  have O := o_rules hlt
  have fo := hf_old ho
  suffices key : evF C F_witness_Order_At [.ptr o 0, .d (.i .u8 (g : Int)), .d (.i .u32 (m : Int))] (hf H []) = some (.tup [.d (.agg (atL L g m).1.cs), .d (.b (atL L g m).2)], hf H []) by rwa [hf_nil] at key
  rw [evF_code (rfl : C F_witness_Order_At = some a_witness_Order_At) _ _ rfl]
  have w1 : IntKind.u64.wrap (m : Int) = (m : Int) := wu64 (by omega)
  have ln : ∀ Y : Heap, okH (hf H Y) → evF C F_witness_Order_Len [.ptr o 0, .d (.i .u8 (g : Int))] (hf H Y) = some (.d (.i .i64 (if g < 4 then ((L g).l.length : Int) else 0)), hf H Y) := fun Y hY => len_at (hO0.hf hY) g
  have ez : ([.i .u32 0, .i .u32 0, .i .u8 0, .i .u32 0, .i .u8 0, .i .u8 0, .i .u8 0, .s ⟨#[]⟩] : List DV) = Entry.zero.cs := rfl
  unfold atL
  by_cases c1 : m < 1
  · have c1' : decide ((m : Int) < 1) = true := by simp; omega
    rw [if_pos (.inl c1)]
    simp (config := {decide := true}) only [c_witness_Order_At, R, K, N, O, fo, c1', ez, Pk.EVL, keepT, enum, ↓reduceIte, ev, act, appT, callee, toDs, toD, loadA, storeA, subA, subD, updA, Eff.on, resA, resVs, resV, lk, finish, frzR, frzVs, frzV, fznR, fzns, fzn, lts, lt, ltO, List.all, pairsOk, indep, reduceCtorEq, Nat.reduceEqDiff, Nat.reduceAdd, Nat.reduceLeDiff, stb, thaws, List.drop, intOfA, binD, binI, unD, mmL, buildA, mkAgg, allD, bslD, behind, behind0, takeAt, frzAs, frzA, adoptR, adopt, isD, isD0, trim, List.take, binS, sliceA, bnd, zOk, elems, Nat.reduceBNe, inpl, Nat.reduceLT, Nat.reduceBEq, Nat.reduceSub, Nat.reduceMul, Int.reduceLT, Int.reduceLE, Int.reduceEq, Int.reduceToNat, Int.reduceNeg, thaw, nodup, refsV, adopts, Pk.TY_Entry]
    try rfl
  have c1' : decide ((m : Int) < 1) = false := by simp; omega
  by_cases hg : g < 4
  · obtain ⟨k1, -, -⟩ := hrows g hg
    have hl := (hv g hg).1
    rw [if_pos hg] at ln
    have w2 : IntKind.u64.wrap (((L g).l.length : Nat) : Int) = (((L g).l.length : Nat) : Int) := wu64 (by omega)
    by_cases c2 : (L g).l.length < m
    · have c2' : decide ((m : Int) > (((L g).l.length : Nat) : Int)) = true := by simp; omega
      rw [if_pos (.inr (.inr c2))]
      simp (config := {decide := true}) only [c_witness_Order_At, R, K, N, O, fo, c1', c2', w1, w2, ln, ez, sameH_self, Pk.EVL, keepT, enum, ↓reduceIte, ev, act, appT, callee, toDs, toD, loadA, storeA, subA, subD, updA, Eff.on, resA, resVs, resV, lk, finish, frzR, frzVs, frzV, fznR, fzns, fzn, lts, lt, ltO, List.all, pairsOk, indep, reduceCtorEq, Nat.reduceEqDiff, Nat.reduceAdd, Nat.reduceLeDiff, stb, thaws, List.drop, intOfA, binD, binI, unD, mmL, buildA, mkAgg, allD, bslD, behind, behind0, takeAt, frzAs, frzA, adoptR, adopt, isD, isD0, trim, List.take, binS, sliceA, bnd, zOk, elems, Nat.reduceBNe, inpl, Nat.reduceLT, Nat.reduceBEq, Nat.reduceSub, Nat.reduceMul, Int.reduceLT, Int.reduceLE, Int.reduceEq, Int.reduceToNat, Int.reduceNeg, thaw, nodup, refsV, adopts, Pk.TY_Entry]
      try rfl
    · have c2' : decide ((m : Int) > (((L g).l.length : Nat) : Int)) = false := by simp; omega
      rw [if_neg (by omega)]
      have D := W4.rds hg
      have F := W4.fits hg
      obtain ⟨e, he⟩ : ∃ e, (L g).l[m - 1]? = some e := ⟨(L g).l[m - 1]'(by omega), List.getElem?_eq_getElem _⟩
      have hx : (W.get g).l = .d (.sl ((L g).l.map Entry.d)) := by
        rcases k1.l with ⟨_, h⟩ | h
        · rw [h] at he; simp at he
        · exact h
      have hxe := list_idx Entry.d he
      have w3 : IntKind.u32.wrap ((m : Int) - 1) = ((m - 1 : Nat) : Int) := by rw [show (m : Int) - 1 = ((m - 1 : Nat) : Int) by omega]; exact wu32 (by omega)
      have b0 : (0 ≤ ((m - 1 : Nat) : Int)) = True := eq_true (by omega)
      simp (config := {decide := true}) only [c_witness_Order_At, R, K, N, O, D, F, fo, c1', c2', w1, w2, w3, b0, ln, hx, hxe, he, ez, Option.getD_some, sameH_self, Int.toNat_natCast, Pk.EVL, keepT, enum, ↓reduceIte, ev, act, appT, callee, toDs, toD, loadA, storeA, subA, subD, updA, Eff.on, resA, resVs, resV, lk, finish, frzR, frzVs, frzV, fznR, fzns, fzn, lts, lt, ltO, List.all, pairsOk, indep, reduceCtorEq, Nat.reduceEqDiff, Nat.reduceAdd, Nat.reduceLeDiff, stb, thaws, List.drop, intOfA, binD, binI, unD, mmL, buildA, mkAgg, allD, bslD, behind, behind0, takeAt, frzAs, frzA, adoptR, adopt, isD, isD0, trim, List.take, binS, sliceA, bnd, zOk, elems, Nat.reduceBNe, inpl, Nat.reduceLT, Nat.reduceBEq, Nat.reduceSub, Nat.reduceMul, Int.reduceLT, Int.reduceLE, Int.reduceEq, Int.reduceToNat, Int.reduceNeg, thaw, nodup, refsV, adopts, Pk.TY_Entry]
      try rfl
  · rw [if_neg hg] at ln
    rw [if_pos (.inr (.inl hg))]
    have w2 : IntKind.u64.wrap 0 = 0 := by decide
    have c2' : decide ((m : Int) > 0) = true := by simp; omega
    simp (config := {decide := true}) only [c_witness_Order_At, R, K, N, O, fo, c1', c2', w1, w2, ln, ez, sameH_self, Pk.EVL, keepT, enum, ↓reduceIte, ev, act, appT, callee, toDs, toD, loadA, storeA, subA, subD, updA, Eff.on, resA, resVs, resV, lk, finish, frzR, frzVs, frzV, fznR, fzns, fzn, lts, lt, ltO, List.all, pairsOk, indep, reduceCtorEq, Nat.reduceEqDiff, Nat.reduceAdd, Nat.reduceLeDiff, stb, thaws, List.drop, intOfA, binD, binI, unD, mmL, buildA, mkAgg, allD, bslD, behind, behind0, takeAt, frzAs, frzA, adoptR, adopt, isD, isD0, trim, List.take, binS, sliceA, bnd, zOk, elems, Nat.reduceBNe, inpl, Nat.reduceLT, Nat.reduceBEq, Nat.reduceSub, Nat.reduceMul, Int.reduceLT, Int.reduceLE, Int.reduceEq, Int.reduceToNat, Int.reduceNeg, thaw, nodup, refsV, adopts, Pk.TY_Entry]
    try rfl

end Go.Proofs.YtlihpaegaikoeaaDoor
