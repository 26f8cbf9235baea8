/- One order: what See, Took and the rest tell: an order in plain terms; groups; New, See. -/
import Derived.Test.YtlihpaegaikoeaaDoorWtF
set_option linter.all false
namespace Go.Proofs.YtlihpaegaikoeaaDoor
open Pv Go Pk
set_option maxRecDepth 10000
set_option maxHeartbeats 2000000

def mixR (x c : Int) : Int := IntKind.u64.wrap (Pv.bits .u64 (fun a b => a ^^^ b) x (x.fdiv (2 ^ min (Int.toNat 33) IntKind.u64.bits)) * c)
def mixI (x : Int) : Int :=
  Pv.bits .u64 (fun a b => a ^^^ b) (mixR (mixR x 18397679294719823053) 14181476777654086739) ((mixR (mixR x 18397679294719823053) 14181476777654086739).fdiv (2 ^ min (Int.toNat 33) IntKind.u64.bits))
theorem mix_at (x : Int) : evF C F_bits_Mix [.d (.i .u64 x)] [] = some (.d (.i .u64 (mixI x)), []) := by
  rw [evF_code (rfl : C F_bits_Mix = some a_bits_Mix) _ _ rfl]
  simp (config := {decide := true}) only [c_bits_Mix, mixI, mixR, Pk.EVL, keepT, enum, ↓reduceIte, ev, act, appT, callee, toDs, toD, loadA, storeA, subA, subD, updA, Eff.on, resA, resVs, resV, lk, finish, frzR, frzVs, frzV, fznR, fzns, fzn, lts, lt, ltO, List.all, pairsOk, indep, reduceCtorEq, Nat.reduceEqDiff, Nat.reduceAdd, Nat.reduceLeDiff, stb, thaws, List.drop, intOfA, binD, binI, unD, mmL, buildA, mkAgg, allD, bslD, behind, behind0, takeAt, frzAs, frzA, adoptR, adopt, isD, isD0, trim, List.take, binS, sliceA, bnd, zOk, elems, Nat.reduceBNe, inpl, Nat.reduceLT, Nat.reduceBEq, Nat.reduceSub, Nat.reduceMul, Int.reduceLT, Int.reduceLE, Int.reduceEq, Int.reduceToNat, Int.reduceNeg, thaw, nodup, refsV, adopts]
theorem mix'_at (x : Int) : evF C F_paddockref1_Mix [.d (.i .u64 x)] [] = some (.d (.i .u64 (mixI x)), []) := by
  rw [evF_code (rfl : C F_paddockref1_Mix = some a_paddockref1_Mix) _ _ rfl]
  simp (config := {decide := true}) only [c_paddockref1_Mix, mixI, mixR, Pk.EVL, keepT, enum, ↓reduceIte, ev, act, appT, callee, toDs, toD, loadA, storeA, subA, subD, updA, Eff.on, resA, resVs, resV, lk, finish, frzR, frzVs, frzV, fznR, fzns, fzn, lts, lt, ltO, List.all, pairsOk, indep, reduceCtorEq, Nat.reduceEqDiff, Nat.reduceAdd, Nat.reduceLeDiff, stb, thaws, List.drop, intOfA, binD, binI, unD, mmL, buildA, mkAgg, allD, bslD, behind, behind0, takeAt, frzAs, frzA, adoptR, adopt, isD, isD0, trim, List.take, binS, sliceA, bnd, zOk, elems, Nat.reduceBNe, inpl, Nat.reduceLT, Nat.reduceBEq, Nat.reduceSub, Nat.reduceMul, Int.reduceLT, Int.reduceLE, Int.reduceEq, Int.reduceToNat, Int.reduceNeg, thaw, nodup, refsV, adopts]
def grpI (x : Int) : Int := IntKind.u8.wrap ((mixI (IntKind.u64.wrap x)).tmod 4)
theorem group_at (x : Int) : evF C F_bits_Group [.d (.i .u8 x)] [] = some (.d (.i .u8 (grpI x)), []) := by
  rw [evF_code (rfl : C F_bits_Group = some a_bits_Group) _ _ rfl]
  simp (config := {decide := true}) only [c_bits_Group, mix_at, grpI, Pk.EVL, keepT, enum, ↓reduceIte, ev, act, appT, callee, toDs, toD, loadA, storeA, subA, subD, updA, Eff.on, resA, resVs, resV, lk, finish, frzR, frzVs, frzV, fznR, fzns, fzn, lts, lt, ltO, List.all, pairsOk, indep, reduceCtorEq, Nat.reduceEqDiff, Nat.reduceAdd, Nat.reduceLeDiff, stb, thaws, List.drop, intOfA, binD, binI, unD, mmL, buildA, mkAgg, allD, bslD, behind, behind0, takeAt, frzAs, frzA, adoptR, adopt, isD, isD0, trim, List.take, binS, sliceA, bnd, zOk, elems, Nat.reduceBNe, inpl, Nat.reduceLT, Nat.reduceBEq, Nat.reduceSub, Nat.reduceMul, Int.reduceLT, Int.reduceLE, Int.reduceEq, Int.reduceToNat, Int.reduceNeg, thaw, nodup, refsV, adopts]
theorem group'_at (x : Int) : evF C F_paddockref1_Group [.d (.i .u8 x)] [] = some (.d (.i .u8 (grpI x)), []) := by
  rw [evF_code (rfl : C F_paddockref1_Group = some a_paddockref1_Group) _ _ rfl]
  simp (config := {decide := true}) only [c_paddockref1_Group, mix'_at, grpI, Pk.EVL, keepT, enum, ↓reduceIte, ev, act, appT, callee, toDs, toD, loadA, storeA, subA, subD, updA, Eff.on, resA, resVs, resV, lk, finish, frzR, frzVs, frzV, fznR, fzns, fzn, lts, lt, ltO, List.all, pairsOk, indep, reduceCtorEq, Nat.reduceEqDiff, Nat.reduceAdd, Nat.reduceLeDiff, stb, thaws, List.drop, intOfA, binD, binI, unD, mmL, buildA, mkAgg, allD, bslD, behind, behind0, takeAt, frzAs, frzA, adoptR, adopt, isD, isD0, trim, List.take, binS, sliceA, bnd, zOk, elems, Nat.reduceBNe, inpl, Nat.reduceLT, Nat.reduceBEq, Nat.reduceSub, Nat.reduceMul, Int.reduceLT, Int.reduceLE, Int.reduceEq, Int.reduceToNat, Int.reduceNeg, thaw, nodup, refsV, adopts]
theorem wrap_u64_nn (x : Int) : 0 ≤ IntKind.u64.wrap x := by
  unfold IntKind.wrap; simp [IntKind.signed, IntKind.bits]; omega
theorem grpI_nat (x : Int) : ∃ g : Nat, grpI x = (g : Int) ∧ g < 4 := by
  have h0 : 0 ≤ mixI (IntKind.u64.wrap x) := wrap_u64_nn _
  have h1 := Int.tmod_nonneg 4 h0
  have h2 := Int.tmod_lt_of_pos (mixI (IntKind.u64.wrap x)) (show (0 : Int) < 4 by omega)
  refine ⟨((mixI (IntKind.u64.wrap x)).tmod 4).toNat, ?_, by omega⟩
  unfold grpI
  generalize (mixI (IntKind.u64.wrap x)).tmod 4 = y at *
  rw [show y = ((y.toNat : Nat) : Int) by omega, Int.toNat_natCast]
  exact wu8 (by omega)
def grpN (x : Int) : Nat := (grpI x).toNat
theorem grpN_eq (x : Int) : grpI x = (grpN x : Int) ∧ grpN x < 4 := by
  obtain ⟨g, h1, h2⟩ := grpI_nat x
  unfold grpN
  rw [h1]
  simp [h2]

/-- A row in plain terms. -/
structure Lr where
  l : List Entry
  acked : Nat
  started : Int
def LrOk (r : Lr) : Prop := r.l.length ≤ 990 ∧ (∀ e ∈ r.l, e.op.ok) ∧ r.acked ≤ r.l.length
/-- An order, in objects H, its box at o; its arrays' places fulfil V. -/
def Ord (H : Heap) (o : Nat) (L : Nat → Lr) (V : Nat → Prop) : Prop := okH H ∧ ∃ W : W4, H[o]? = some (.box (.agg W.cs)) ∧ W.nd = true ∧
  ∀ g, g < 4 → isRow H (W.get g) (L g).l ∧ (W.get g).acked = ((L g).acked : Int) ∧ (W.get g).started = (L g).started ∧ ∀ p g' z off len, (W.get g).b = .view p g' z off len → V p
def L0 : Nat → Lr := fun _ => ⟨[], 0, 0⟩
def updL (L : Nat → Lr) (g : Nat) (r : Lr) : Nat → Lr := fun k => if k = g then r else L k
def seeL (L : Nat → Lr) (g : Nat) (s : State) : (Nat → Lr) × Int :=
  if 4 ≤ g ∨ isSt s = false then (L, 10) else if s.started < (L g).started then (L, 0) else if fitsL (L g).l (L g).acked s = false then (L, 220)
  else (updL L g ⟨(L g).l.take s.tail.n.toNat ++ s.log, (L g).acked, s.started⟩, 0)

def Wn : W4 := ⟨⟨.nilS, .nilS, 0, 0⟩, ⟨.nilS, .nilS, 0, 0⟩, ⟨.nilS, .nilS, 0, 0⟩, ⟨.nilS, .nilS, 0, 0⟩⟩
theorem new_at {H : Heap} (hok : okH H) : evF C F_witness_New [] H = some (.ptr H.length 0, H ++ [.box (.agg Wn.cs)]) := by
  have h : okH H := hok
  unfold okH at hok
  have nl : ∀ (X : Ob), (H.length < H.length) = False := fun _ => eq_false (by omega)
  have tk : List.take H.length (H ++ [.box (.agg Wn.cs)]) = H := List.take_left
  have hlt : decide (H.length < H.length) = false := by simp
  have e : [AV.nilS, .nilS, .d (.i .u32 0), .d (.i .u32 0), .nilS, .nilS, .d (.i .u32 0), .d (.i .u32 0), .nilS, .nilS, .d (.i .u32 0), .d (.i .u32 0), .nilS, .nilS, .d (.i .u32 0), .d (.i .u32 0)] = Wn.cs := rfl
  rw [evF_code (rfl : C F_witness_New = some a_witness_New) _ _ rfl]
  have e2 : allD Wn.cs = none := rfl
  simp (config := {decide := true}) only [c_witness_New, e, e2, hlt, tk, Pk.EVL, keepT, enum, ↓reduceIte, ev, act, appT, callee, toDs, toD, loadA, storeA, subA, subD, updA, Eff.on, resA, resVs, resV, lk, finish, frzR, frzVs, frzV, fznR, fzns, fzn, lts, lt, ltO, List.all, pairsOk, indep, reduceCtorEq, Nat.reduceEqDiff, Nat.reduceAdd, Nat.reduceLeDiff, stb, thaws, List.drop, intOfA, binD, binI, unD, mmL, buildA, mkAgg, allD, bslD, behind, behind0, takeAt, frzAs, frzA, adoptR, adopt, isD, isD0, trim, List.take, binS, sliceA, bnd, zOk, elems, Nat.reduceBNe, inpl, Nat.reduceLT, Nat.reduceBEq, Nat.reduceSub, Nat.reduceMul, Int.reduceLT, Int.reduceLE, Int.reduceEq, Int.reduceToNat, Int.reduceNeg, thaw, nodup, refsV, adopts]

theorem ord_mono {H : Heap} {o : Nat} {L : Nat → Lr} {V V' : Nat → Prop} (h : Ord H o L V) (hv : ∀ p, V p → V' p) : Ord H o L V' := by
  obtain ⟨h1, W, h2, h3, h4⟩ := h
  exact ⟨h1, W, h2, h3, fun g hg => ⟨(h4 g hg).1, (h4 g hg).2.1, (h4 g hg).2.2.1, fun p g' z off len hb => hv p ((h4 g hg).2.2.2 p g' z off len hb)⟩⟩
theorem isRow_view {H : Heap} {r : Wr} {l : List Entry} (h : isRow H r l) {p g z off len : Nat} (hb : r.b = .view p g z off len) : ∃ wr, H[p]? = some (.arr ((basesL l).map Base.d) wr) := by
  rcases h with ⟨_, h, _⟩ | ⟨_, p', wr, h1, h2⟩
  · rw [hb] at h; cases h
  · rw [hb] at h1
    injection h1 with h1
    subst h1
    exact ⟨wr, h2⟩
/-- A row's arrays lie not at the order's box. -/
theorem isRow_set {H : Heap} {o : Nat} {x y : AV} (ho : H[o]? = some (.box x)) {r : Wr} {l : List Entry} (h : isRow H r l) : isRow (H.set o (.box y)) r l := by
  rcases h with h | ⟨h1, p, wr, h2, h3⟩
  · exact .inl h
  · refine .inr ⟨h1, p, wr, h2, ?_⟩
    rw [List.getElem?_set_ne (by rintro rfl; rw [ho] at h3; cases h3)]
    exact h3
theorem isRow_fr {H G : Heap} {o : Nat} {x : AV} (ho : H[o]? = some (.box x)) (hf : Fr o H G) {r : Wr} {l : List Entry} (h : isRow H r l) : isRow G r l := by
  rcases h with h | ⟨h1, p, wr, h2, h3⟩
  · exact .inl h
  · obtain ⟨w', k⟩ := hf.arr (q := p) (by rintro rfl; rw [ho] at h3; cases h3) h3
    exact .inr ⟨h1, p, w', h2, k⟩
theorem isRow_hf {H : Heap} {r : Wr} {l : List Entry} (h : isRow H r l) (Y : Heap) : isRow (hf H Y) r l := by
  rcases h with h | ⟨h1, p, wr, h2, h3⟩
  · exact .inl h
  · exact .inr ⟨h1, p, wr, h2, hf_old h3 Y⟩
theorem W4.sets_ne {g k : Nat} (hg : g < 4) (hk : k < 4) (hne : k ≠ g) : (∀ (w : W4) (x : AV), (w.setL g x).get k = w.get k) ∧ (∀ (w : W4) (x : AV), (w.setB g x).get k = w.get k) ∧
    (∀ (w : W4) (x : Int), (w.setA g x).get k = w.get k) ∧ (∀ (w : W4) (x : Int), (w.setS g x).get k = w.get k) := by
  refine ⟨fun w x => ?_, fun w x => ?_, fun w x => ?_, fun w x => ?_⟩
  all_goals
    first
    | exact (W4.get_set _ _ _ _ hg hk).trans (if_neg hne)

theorem not_trim2 {G : Heap} {n o p g : Nat} (hlo : o < n) (hp : n ≤ p) {W : W4} (hg : g < 4) {g' z off k : Nat} (ho : G[o]? = some (.box (.agg W.cs))) (hb : (W.get g).b = .view p g' z off k) : (List.take n G).all (ltO n) = false := by
  rw [Bool.eq_false_iff]
  intro h
  rw [List.all_eq_true] at h
  have := h _ (List.mem_of_getElem? (i := o) (by rw [List.getElem?_take_of_lt hlo]; exact ho))
  have h1 : W.lt n = true := this
  have h2 := ((W4.lt_iff _ _).1 h1 g hg).2
  rw [hb] at h2
  simp [Pv.lt] at h2
  omega
theorem fr_set {H : Heap} (o : Nat) (x : Ob) : Fr o H (H.set o x) := by
  refine ⟨by rw [List.length_set]; exact Nat.le_refl _, fun q hq y hy => .inl ?_⟩
  rw [List.getElem?_set_ne (Ne.symm hq)]
  exact hy
theorem fr_hf (o : Nat) (H Y : Heap) : Fr o H (hf H Y) := ⟨by unfold hf; rw [List.length_append]; omega, fun _ _ _ hx => .inl (hf_old hx Y)⟩

theorem see_at {H : Heap} {o : Nat} {L : Nat → Lr} {V : Nat → Prop} (hO : Ord H o L V) (hv : ∀ k, k < 4 → LrOk (L k)) (g : Nat) (hg8 : g < 256) (s : State) (hso : stOk s) :
    ∃ r : AV × Heap, evF C F_witness_Order_See [.ptr o 0, .d (.i .u8 (g : Int)), .d (.agg s.cs)] H = some r ∧ r.1 = .d (.i .i64 (seeL L g s).2) ∧ Ord r.2 o (seeL L g s).1 (fun p => V p ∨ H.length ≤ p) ∧ Fr o H r.2 := by
  have hO0 := hO
  obtain ⟨hok, W, ho, hnd, hrows⟩ := hO
  obtain ⟨n, hn⟩ : ∃ n, H.length = n := ⟨_, rfl⟩
  have hlt : o < n := hn ▸ (List.getElem?_eq_some_iff.1 ho).1
  have R := hf_rules hn
  have K := ok_rules hn hok
  have N := n_rules n
  have O := o_rules hlt
  have fo := hf_old ho
  have his := is_st s
  suffices hkey : ∃ r : AV × Heap, evF C F_witness_Order_See [.ptr o 0, .d (.i .u8 (g : Int)), .d (.agg s.cs)] (hf H []) = some r ∧ r.1 = .d (.i .i64 (seeL L g s).2) ∧ Ord r.2 o (seeL L g s).1 (fun p => V p ∨ H.length ≤ p) ∧ Fr o H r.2 by
    rwa [hf_nil] at hkey
  have hOm : Ord (hf H []) o L (fun p => V p ∨ H.length ≤ p) := by rw [hf_nil]; exact ord_mono hO0 fun p hp => .inl hp
  have hFm : Fr o H (hf H []) := fr_hf o H []
  rw [evF_codef (rfl : C F_witness_Order_See = some f_witness_Order_See) _ _ [.ptr o 0, .d (.i .u8 (g : Int)), .d (.agg s.cs)] (hf H []) (by simp [frzL, frzV, toD]) rfl]
  unfold seeL
  by_cases hg : g < 4
  case neg =>
    have c1 : decide ((g : Int) ≥ 4) = true := by simp; omega
    rw [if_pos (.inl (by omega))]
    simp (config := {decide := true}) only [c_witness_Order_See, R, K, N, O, fo, c1, Pk.EVL, keepT, enum, ↓reduceIte, ev, act, appT, callee, toDs, toD, loadA, storeA, subA, subD, updA, Eff.on, resA, resVs, resV, lk, finish, frzR, frzVs, frzV, fznR, fzns, fzn, lts, lt, ltO, List.all, pairsOk, indep, reduceCtorEq, Nat.reduceEqDiff, Nat.reduceAdd, Nat.reduceLeDiff, stb, thaws, List.drop, intOfA, binD, binI, unD, mmL, buildA, mkAgg, allD, bslD, behind, behind0, takeAt, frzAs, frzA, adoptR, adopt, isD, isD0, trim, List.take, binS, sliceA, bnd, zOk, elems, Nat.reduceBNe, inpl, Nat.reduceLT, Nat.reduceBEq, Nat.reduceSub, Nat.reduceMul, Int.reduceLT, Int.reduceLE, Int.reduceEq, Int.reduceToNat, Int.reduceNeg, thaw, nodup, refsV, adopts, Pk.TY_State]
    exact ⟨_, rfl, rfl, hOm, hFm⟩
  have D := W4.rds hg
  have U := W4.wrs hg
  have F := W4.fits hg
  obtain ⟨hrow, hra, hrs, hrv⟩ := hrows g hg
  obtain ⟨hl, hlo, hacl⟩ := hv g hg
  rcases Bool.eq_false_or_eq_true (isSt s) with c2 | c2
  case inr =>
    rw [if_pos (.inr c2)]
    simp (config := {decide := true}) only [c_witness_Order_See, R, K, N, O, F, fo, his, c2, Pk.EVL, keepT, enum, ↓reduceIte, ev, act, appT, callee, toDs, toD, loadA, storeA, subA, subD, updA, Eff.on, resA, resVs, resV, lk, finish, frzR, frzVs, frzV, fznR, fzns, fzn, lts, lt, ltO, List.all, pairsOk, indep, reduceCtorEq, Nat.reduceEqDiff, Nat.reduceAdd, Nat.reduceLeDiff, stb, thaws, List.drop, intOfA, binD, binI, unD, mmL, buildA, mkAgg, allD, bslD, behind, behind0, takeAt, frzAs, frzA, adoptR, adopt, isD, isD0, trim, List.take, binS, sliceA, bnd, zOk, elems, Nat.reduceBNe, inpl, Nat.reduceLT, Nat.reduceBEq, Nat.reduceSub, Nat.reduceMul, Int.reduceLT, Int.reduceLE, Int.reduceEq, Int.reduceToNat, Int.reduceNeg, thaw, nodup, refsV, adopts, Pk.TY_State]
    exact ⟨_, rfl, rfl, hOm, hFm⟩
  rw [if_neg (by simp [c2]; omega)]
  by_cases c3 : s.started < (L g).started
  · rw [if_pos c3]
    have c3' : decide (s.started < (W.get g).started) = true := by rw [hrs]; exact decide_eq_true c3
    simp (config := {decide := true}) only [c_witness_Order_See, R, K, N, O, D, F, fo, his, c2, c3', Int.toNat_natCast, Pk.EVL, keepT, enum, ↓reduceIte, ev, act, appT, callee, toDs, toD, loadA, storeA, subA, subD, updA, Eff.on, resA, resVs, resV, lk, finish, frzR, frzVs, frzV, fznR, fzns, fzn, lts, lt, ltO, List.all, pairsOk, indep, reduceCtorEq, Nat.reduceEqDiff, Nat.reduceAdd, Nat.reduceLeDiff, stb, thaws, List.drop, intOfA, binD, binI, unD, mmL, buildA, mkAgg, allD, bslD, behind, behind0, takeAt, frzAs, frzA, adoptR, adopt, isD, isD0, trim, List.take, binS, sliceA, bnd, zOk, elems, Nat.reduceBNe, inpl, Nat.reduceLT, Nat.reduceBEq, Nat.reduceSub, Nat.reduceMul, Int.reduceLT, Int.reduceLE, Int.reduceEq, Int.reduceToNat, Int.reduceNeg, thaw, nodup, refsV, adopts, Pk.TY_State]
    exact ⟨_, rfl, rfl, hOm, hFm⟩
  rw [if_neg c3]
  have c3' : decide (s.started < (W.get g).started) = false := by rw [hrs]; exact decide_eq_false c3
  have ft : ∀ Y : Heap, okH (hf H Y) → evF C F_witness_row_fits [.ptr o (g * 4), .d (.agg s.cs)] (hf H Y) = some (.d (.b (fitsL (L g).l (L g).acked s)), hf H Y) := by
    intro Y hY
    rw [← hra]
    exact fits_at hY (fo Y) hg hrow.l (hrow.b.hf Y) (by omega) (by rw [hra]; omega) s c2 hso
  rcases Bool.eq_false_or_eq_true (fitsL (L g).l (L g).acked s) with c4 | c4
  case inr =>
    rw [if_pos c4]
    simp (config := {decide := true}) only [c_witness_Order_See, R, K, N, O, D, F, fo, his, c2, c3', ft, c4, sameH_self, Int.toNat_natCast, Pk.EVL, keepT, enum, ↓reduceIte, ev, act, appT, callee, toDs, toD, loadA, storeA, subA, subD, updA, Eff.on, resA, resVs, resV, lk, finish, frzR, frzVs, frzV, fznR, fzns, fzn, lts, lt, ltO, List.all, pairsOk, indep, reduceCtorEq, Nat.reduceEqDiff, Nat.reduceAdd, Nat.reduceLeDiff, stb, thaws, List.drop, intOfA, binD, binI, unD, mmL, buildA, mkAgg, allD, bslD, behind, behind0, takeAt, frzAs, frzA, adoptR, adopt, isD, isD0, trim, List.take, binS, sliceA, bnd, zOk, elems, Nat.reduceBNe, inpl, Nat.reduceLT, Nat.reduceBEq, Nat.reduceSub, Nat.reduceMul, Int.reduceLT, Int.reduceLE, Int.reduceEq, Int.reduceToNat, Int.reduceNeg, thaw, nodup, refsV, adopts, Pk.TY_State]
    exact ⟨_, rfl, rfl, hOm, hFm⟩
  rw [if_neg (by simp [c4])]
  obtain ⟨tn, htn⟩ : ∃ tn : Nat, s.tail.n = (tn : Int) := ⟨s.tail.n.toNat, by have := hso.1; omega⟩
  have htl : tn ≤ (L g).l.length := by
    unfold fitsL at c4
    simp only [Bool.and_eq_true, Bool.not_eq_true', Bool.or_eq_false_iff, decide_eq_false_iff_not] at c4
    omega
  have hlog := isSt_len c2
  have hlg : s.log.length ≤ 1000 := by omega
  rw [htn, Int.toNat_natCast]
  have hs1 : ∀ Y : Heap, okH (hf H Y) → evF C F_witness_row_has [.ptr o (g * 4), .d (.i .u32 s.tail.n), .d (.sl (s.log.map Entry.d))] (hf H Y) = some (.d (.b (decide (tn + s.log.length = (L g).l.length) && decide ((L g).l.drop tn = s.log))), hf H Y) := by
    intro Y hY
    rw [htn]
    exact has_at hY (fo Y) hg hrow.l tn s.log (by omega) htl hlg
  rcases Bool.eq_false_or_eq_true (decide (tn + s.log.length = (L g).l.length) && decide ((L g).l.drop tn = s.log)) with c5 | c5
  · -- it stands just so
    have e5 : (L g).l.take tn ++ s.log = (L g).l := by
      simp only [Bool.and_eq_true, decide_eq_true_eq] at c5
      rw [← c5.2, List.take_append_drop]
    rw [e5]
    have so1 : ∀ (Y : Heap) (y : Ob), (hf H Y).set o y = hf (H.set o y) Y := fun Y y => hf_setO hn hlt Y y
    have hA : ∀ x : Ob, (H.set o x).length = n := fun x => by rw [List.length_set, hn]
    have lt1 : (W.setS g s.started).lt n = true := W4.lt_S (by have := okH_at hok ho; rw [hn] at this; exact this) hg _
    have ok2 : okH (H.set o (.box (.agg (W.setS g s.started).cs))) := okH_set hok o (by rw [hn]; exact lt1)
    have R2 := hf_take0 (hA (.box (.agg (W.setS g s.started).cs)))
    have K2 := hf_all0 (hA (.box (.agg (W.setS g s.started).cs))) ok2
    have mk := W4.allD (W4.nd_S hnd g s.started)
    simp (config := {decide := true}) only [c_witness_Order_See, R, K, N, O, D, U, F, fo, so1, R2, K2, his, c2, c3', ft, c4, hs1, c5, mk, W4.len, sameH_self, Int.toNat_natCast, Pk.EVL, keepT, enum, ↓reduceIte, ev, act, appT, callee, toDs, toD, loadA, storeA, subA, subD, updA, Eff.on, resA, resVs, resV, lk, finish, frzR, frzVs, frzV, fznR, fzns, fzn, lts, lt, ltO, List.all, pairsOk, indep, reduceCtorEq, Nat.reduceEqDiff, Nat.reduceAdd, Nat.reduceLeDiff, stb, thaws, List.drop, intOfA, binD, binI, unD, mmL, buildA, mkAgg, allD, bslD, behind, behind0, takeAt, frzAs, frzA, adoptR, adopt, isD, isD0, trim, List.take, binS, sliceA, bnd, zOk, elems, Nat.reduceBNe, inpl, Nat.reduceLT, Nat.reduceBEq, Nat.reduceSub, Nat.reduceMul, Int.reduceLT, Int.reduceLE, Int.reduceEq, Int.reduceToNat, Int.reduceNeg, thaw, nodup, refsV, adopts, Pk.TY_State]
    refine ⟨_, rfl, rfl, ?_, ?_⟩
    · rw [hf_nil]
      refine ⟨ok2, _, List.getElem?_set_self (by omega), W4.nd_S hnd g _, fun k hk => ?_⟩
      obtain ⟨k1, k2, k3, k4⟩ := hrows k hk
      unfold updL
      by_cases hkg : k = g
      · subst hkg
        rw [(W4.sets hk).2.2.2, if_pos rfl]
        exact ⟨isRow_set ho k1, k2, rfl, fun p g' z off len hb => .inl (k4 p g' z off len hb)⟩
      · rw [(W4.sets_ne hg hk hkg).2.2.2, if_neg hkg]
        exact ⟨isRow_set ho k1, k2, k3, fun p g' z off len hb => .inl (k4 p g' z off len hb)⟩
    · rw [hf_nil]
      exact fr_set o _
  · -- it is laid
    have hokY : okH (hf H [.box (.d (.agg s.cs))]) := by rw [hf_ok hn hok]; rfl
    obtain ⟨⟨v, G⟩, hly, hv0, hGok, hGfr, p, hp, hGo, hGp⟩ := lays_at hokY (fo [.box (.d (.agg s.cs))]) hnd hg (isRow_hf hrow _) (by omega) hlo hlg hso.log tn htl
    dsimp only at hv0 hGok hGfr hGo hGp
    subst hv0
    rw [← htn] at hly
    have hYl : (hf H [.box (.d (.agg s.cs))]).length = n + 1 := hf_len hn _
    rw [hYl] at hp
    have hGlen : (n + 1 ≤ G.length) = True := eq_true (by have := hGfr.1; omega)
    have hGs : G[n]? = some (.box (.d (.agg s.cs))) := hGfr.box (by omega) (by rw [hf_at0 hn]; rfl)
    have hGl2 : o < G.length := by have := hGfr.1; omega
    have hE : ∀ e ∈ (L g).l.take tn ++ s.log, e.op.ok := by
      intro e he
      rcases List.mem_append.1 he with h | h
      · exact hlo e (List.mem_of_mem_take h)
      · exact hso.log e h
    generalize (L g).l.take tn ++ s.log = E at *
    have hW2 : (∀ k, k < 4 → k ≠ g → ((W.setL g (.d (.sl (E.map Entry.d)))).setB g (.view p E.length 39 0 E.length)).get k = W.get k) := fun k hk hkg => by rw [(W4.sets_ne hg hk hkg).2.1, (W4.sets_ne hg hk hkg).1]
    have hW3 : ((W.setL g (.d (.sl (E.map Entry.d)))).setB g (.view p E.length 39 0 E.length)).get g = ⟨.d (.sl (E.map Entry.d)), .view p E.length 39 0 E.length, (W.get g).acked, (W.get g).started⟩ := by rw [(W4.sets hg).2.1, (W4.sets hg).1]
    have hnd2 : ((W.setL g (.d (.sl (E.map Entry.d)))).setB g (.view p E.length 39 0 E.length)).nd = true := W4.nd_B (W4.nd_L hnd g _) g rfl
    generalize (W.setL g (.d (.sl (E.map Entry.d)))).setB g (.view p E.length 39 0 E.length) = W2 at *
    have mk := W4.allD (W4.nd_S hnd2 g s.started)
    have hbb : ((W2.setS g s.started).get g).b = .view p E.length 39 0 E.length := by rw [(W4.sets hg).2.2.2, hW3]
    have hGo2 : (G.set o (.box (.agg (W2.setS g s.started).cs)))[o]? = some (.box (.agg (W2.setS g s.started).cs)) := List.getElem?_set_self hGl2
    have nt := not_trim2 hlt (show n ≤ p by omega) hg hGo2 hbb
    simp (config := {decide := true}) only [c_witness_Order_See, R, K, N, O, D, U, F, fo, his, c2, c3', ft, c4, hs1, c5, hly, hGlen, hGs, hGo, nt, mk, W4.len, sameH_self, Int.toNat_natCast, Pk.EVL, keepT, enum, ↓reduceIte, ev, act, appT, callee, toDs, toD, loadA, storeA, subA, subD, updA, Eff.on, resA, resVs, resV, lk, finish, frzR, frzVs, frzV, fznR, fzns, fzn, lts, lt, ltO, List.all, pairsOk, indep, reduceCtorEq, Nat.reduceEqDiff, Nat.reduceAdd, Nat.reduceLeDiff, stb, thaws, List.drop, intOfA, binD, binI, unD, mmL, buildA, mkAgg, allD, bslD, behind, behind0, takeAt, frzAs, frzA, adoptR, adopt, isD, isD0, trim, List.take, binS, sliceA, bnd, zOk, elems, Nat.reduceBNe, inpl, Nat.reduceLT, Nat.reduceBEq, Nat.reduceSub, Nat.reduceMul, Int.reduceLT, Int.reduceLE, Int.reduceEq, Int.reduceToNat, Int.reduceNeg, thaw, nodup, refsV, adopts, Pk.TY_State]
    refine ⟨_, rfl, rfl, ?_, ?_⟩
    · refine ⟨okH_set hGok o ?_, _, hGo2, W4.nd_S hnd2 g _, fun k hk => ?_⟩
      · have := okH_at hGok hGo
        exact W4.lt_S this hg _
      · obtain ⟨k1, k2, k3, k4⟩ := hrows k hk
        unfold updL
        by_cases hkg : k = g
        · subst hkg
          rw [if_pos rfl]
          refine ⟨.inr ⟨?_, p, true, hbb, ?_⟩, ?_, ?_, fun p' g' z off len hb => ?_⟩
          · rw [(W4.sets hk).2.2.2, hW3]
          · rw [List.getElem?_set_ne (by omega)]; exact hGp
          · rw [(W4.sets hk).2.2.2, hW3]; exact k2
          · rw [(W4.sets hk).2.2.2]
          · rw [hbb] at hb
            injection hb with hb
            exact .inr (by omega)
        · rw [(W4.sets_ne hg hk hkg).2.2.2, if_neg hkg, hW2 k hk hkg]
          exact ⟨isRow_set hGo (isRow_fr (fo _) hGfr (isRow_hf k1 _)), k2, k3, fun p g' z off len hb => .inl (k4 p g' z off len hb)⟩
    · exact (fr_hf o H _).trans (hGfr.trans (fr_set o _))
end Go.Proofs.YtlihpaegaikoeaaDoor
