/- One order: Took. / One order: what stays in order whatever is seen or taken: plain laws. -/
import Derived.Test.YtlihpaegaikoeaaDoorWtI
set_option linter.all false
namespace Go.Proofs.YtlihpaegaikoeaaDoor
open Pv Go Pk
set_option maxRecDepth 10000
set_option maxHeartbeats 2000000

theorem idxE_some {P : Entry → Bool} : ∀ {l : List Entry} {i : Nat}, idxE P l = some i → ∃ e, l[i]? = some e ∧ P e = true
  | [], i, h => by simp [idxE] at h
  | x :: l, i, h => by
    unfold idxE at h
    split at h
    · rename_i hp
      injection h with h
      subst h
      exact ⟨x, rfl, hp⟩
    · simp only [Option.map_eq_some_iff] at h
      obtain ⟨j, hj, rfl⟩ := h
      obtain ⟨e, h1, h2⟩ := idxE_some hj
      exact ⟨e, by simpa using h1, h2⟩

theorem tookG_at {H : Heap} {o : Nat} {L : Nat → Lr} {V : Nat → Prop} (hO : Ord H o L V) (hv : ∀ k, k < 4 → LrOk (L k)) (a : Ans) (ha : a.op.ok) {g : Nat} (hg : g < 4)
    (hgr : evF C F_bits_Group [.d (.i .u8 a.op.obj)] [] = some (.d (.i .u8 (g : Int)), [])) :
    ∃ r : AV × Heap, evF C F_witness_Order_Took [.ptr o 0, .d (.agg a.cs)] H = some r ∧ r.1 = .d (.i .i64 (tookG L g a).2) ∧ Ord r.2 o (tookG L g a).1 V ∧ Fr o H r.2 := by
  have hO0 := hO
  obtain ⟨hok, W, ho, hnd, hrows⟩ := hO
  obtain ⟨n, hn⟩ : ∃ n, H.length = n := ⟨_, rfl⟩
  have hlt : o < n := hn ▸ (List.getElem?_eq_some_iff.1 ho).1
  have R := hf_rules hn
  have K := ok_rules hn hok
  have N := n_rules n
  have O := o_rules hlt
  have fo := hf_old ho
  suffices hkey : ∃ r : AV × Heap, evF C F_witness_Order_Took [.ptr o 0, .d (.agg a.cs)] (hf H []) = some r ∧ r.1 = .d (.i .i64 (tookG L g a).2) ∧ Ord r.2 o (tookG L g a).1 V ∧ Fr o H r.2 by
    rwa [hf_nil] at hkey
  have hOm : Ord (hf H []) o L V := by rw [hf_nil]; exact hO0
  have hFm : Fr o H (hf H []) := fr_hf o H []
  have hio := isOp_at a.op
  have hwr := writes_at a.op
  rw [evF_code (rfl : C F_witness_Order_Took = some a_witness_Order_Took) _ _ rfl]
  unfold tookG
  have D := W4.rds hg
  have U := W4.wrs hg
  have F := W4.fits hg
  obtain ⟨hrow, hra, hrs, hrv⟩ := hrows g hg
  obtain ⟨hl, hlo, hacl⟩ := hv g hg
  rcases Bool.eq_false_or_eq_true (isOp a.op) with c1 | c1
  case inr =>
    rw [if_pos c1]
    simp (config := {decide := true}) only [c_witness_Order_Took, R, K, N, O, fo, hio, c1, Pk.EVL, keepT, enum, ↓reduceIte, ev, act, appT, callee, toDs, toD, loadA, storeA, subA, subD, updA, Eff.on, resA, resVs, resV, lk, finish, frzR, frzVs, frzV, fznR, fzns, fzn, lts, lt, ltO, List.all, pairsOk, indep, reduceCtorEq, Nat.reduceEqDiff, Nat.reduceAdd, Nat.reduceLeDiff, stb, thaws, List.drop, intOfA, binD, binI, unD, mmL, buildA, mkAgg, allD, bslD, behind, behind0, takeAt, frzAs, frzA, adoptR, adopt, isD, isD0, trim, List.take, binS, sliceA, bnd, zOk, elems, Nat.reduceBNe, inpl, Nat.reduceLT, Nat.reduceBEq, Nat.reduceSub, Nat.reduceMul, Int.reduceLT, Int.reduceLE, Int.reduceEq, Int.reduceToNat, Int.reduceNeg, thaw, nodup, refsV, adopts, Pk.TY_Ans]
    exact ⟨_, rfl, rfl, hOm, hFm⟩
  rw [if_neg (by simp [c1])]
  rcases Bool.eq_false_or_eq_true (writes a.op) with c2 | c2
  case inr =>
    rw [if_pos c2]
    have rr : ∀ Y : Heap, okH (hf H Y) → evF C F_witness_row_read [.ptr o (g * 4), .d (.agg a.cs)] (hf H Y) = some (.d (.i .i64 (if readsL (L g).l a.op a.r ((L g).l.length + 1) = true then 0 else 220)), hf H Y) :=
      fun Y hY => rread_at hY (fo Y) hg hrow.l (hrow.b.hf Y) (by omega) hlo a ha
    generalize readsL (L g).l a.op a.r ((L g).l.length + 1) = b at *
    simp (config := {decide := true}) only [c_witness_Order_Took, R, K, N, O, D, F, fo, hio, hwr, hgr, c1, c2, rr, sameH_self, Int.toNat_natCast, Pk.EVL, keepT, enum, ↓reduceIte, ev, act, appT, callee, toDs, toD, loadA, storeA, subA, subD, updA, Eff.on, resA, resVs, resV, lk, finish, frzR, frzVs, frzV, fznR, fzns, fzn, lts, lt, ltO, List.all, pairsOk, indep, reduceCtorEq, Nat.reduceEqDiff, Nat.reduceAdd, Nat.reduceLeDiff, stb, thaws, List.drop, intOfA, binD, binI, unD, mmL, buildA, mkAgg, allD, bslD, behind, behind0, takeAt, frzAs, frzA, adoptR, adopt, isD, isD0, trim, List.take, binS, sliceA, bnd, zOk, elems, Nat.reduceBNe, inpl, Nat.reduceLT, Nat.reduceBEq, Nat.reduceSub, Nat.reduceMul, Int.reduceLT, Int.reduceLE, Int.reduceEq, Int.reduceToNat, Int.reduceNeg, thaw, nodup, refsV, adopts, Pk.TY_Ans]
    exact ⟨_, rfl, rfl, hOm, hFm⟩
  rw [if_neg (by simp [c2])]
  have hid : ∀ Y : Heap, okH (hf H Y) → Y[0]? = some (.box (.d (.agg a.cs))) → ∀ x, isL x (L g).l → evF C F_slices_IndexFunc_sapi_Entry_api_Entry [x, .fn F_witness_Order_Took_1 [] [.ptr n 0]] (hf H Y) = some (.d (.i .i64 (idxI (idxE (sameO a.op) (L g).l))), hf H Y) := by
    intro Y hY h0 x hx
    have hq : (hf H Y)[n]? = some (.box (.d (.agg a.cs))) := by rw [hf_at0 hn, h0]
    exact idxf_at hY hx (by omega) (List.getElem?_eq_some_iff.1 hq).1 fun e _ => took1_at hY a hq e
  cases hI : idxE (sameO a.op) (L g).l with
  | none =>
    rw [hI] at hid
    have m1 : idxI none = -1 := rfl
    rw [m1] at hid
    rcases hrow.l with ⟨hx, hl0⟩ | hx
    · have hid' := fun Y hY h0 => hid Y hY h0 .nilS (.inl ⟨rfl, hl0⟩)
      simp (config := {decide := true}) only [c_witness_Order_Took, R, K, N, O, D, F, fo, hio, hwr, hgr, c1, c2, hx, hid', sameH_self, Int.toNat_natCast, Pk.EVL, keepT, enum, ↓reduceIte, ev, act, appT, callee, toDs, toD, loadA, storeA, subA, subD, updA, Eff.on, resA, resVs, resV, lk, finish, frzR, frzVs, frzV, fznR, fzns, fzn, lts, lt, ltO, List.all, pairsOk, indep, reduceCtorEq, Nat.reduceEqDiff, Nat.reduceAdd, Nat.reduceLeDiff, stb, thaws, List.drop, intOfA, binD, binI, unD, mmL, buildA, mkAgg, allD, bslD, behind, behind0, takeAt, frzAs, frzA, adoptR, adopt, isD, isD0, trim, List.take, binS, sliceA, bnd, zOk, elems, Nat.reduceBNe, inpl, Nat.reduceLT, Nat.reduceBEq, Nat.reduceSub, Nat.reduceMul, Int.reduceLT, Int.reduceLE, Int.reduceEq, Int.reduceToNat, Int.reduceNeg, thaw, nodup, refsV, adopts, Pk.TY_Ans]
      exact ⟨_, rfl, rfl, hOm, hFm⟩
    · have hid' := fun Y hY h0 => hid Y hY h0 _ (.inr rfl)
      simp (config := {decide := true}) only [c_witness_Order_Took, R, K, N, O, D, F, fo, hio, hwr, hgr, c1, c2, hx, hid', sameH_self, Int.toNat_natCast, Pk.EVL, keepT, enum, ↓reduceIte, ev, act, appT, callee, toDs, toD, loadA, storeA, subA, subD, updA, Eff.on, resA, resVs, resV, lk, finish, frzR, frzVs, frzV, fznR, fzns, fzn, lts, lt, ltO, List.all, pairsOk, indep, reduceCtorEq, Nat.reduceEqDiff, Nat.reduceAdd, Nat.reduceLeDiff, stb, thaws, List.drop, intOfA, binD, binI, unD, mmL, buildA, mkAgg, allD, bslD, behind, behind0, takeAt, frzAs, frzA, adoptR, adopt, isD, isD0, trim, List.take, binS, sliceA, bnd, zOk, elems, Nat.reduceBNe, inpl, Nat.reduceLT, Nat.reduceBEq, Nat.reduceSub, Nat.reduceMul, Int.reduceLT, Int.reduceLE, Int.reduceEq, Int.reduceToNat, Int.reduceNeg, thaw, nodup, refsV, adopts, Pk.TY_Ans]
      exact ⟨_, rfl, rfl, hOm, hFm⟩
  | some i =>
    rw [hI] at hid
    have m1 : idxI (some i) = (i : Int) := rfl
    rw [m1] at hid
    obtain ⟨e, he, _⟩ := idxE_some hI
    have hil : i < (L g).l.length := (List.getElem?_eq_some_iff.1 he).1
    have hx : (W.get g).l = .d (.sl ((L g).l.map Entry.d)) := by
      rcases hrow.l with ⟨_, h⟩ | h
      · rw [h] at he; simp at he
      · exact h
    have hid' := fun Y hY h0 => hid Y hY h0 _ (.inr rfl)
    have hxe := list_idx Entry.d he
    have b0 : (0 ≤ ((i : Nat) : Int)) = True := eq_true (by omega)
    have d0 : decide (((i : Nat) : Int) < 0) = false := by simp
    have w1 : IntKind.u32.wrap ((i : Nat) : Int) = ((i : Nat) : Int) := wu32 (by omega)
    have w2 : IntKind.u32.wrap (((i : Nat) : Int) + 1) = ((i + 1 : Nat) : Int) := by rw [show ((i : Nat) : Int) + 1 = ((i + 1 : Nat) : Int) by omega]; exact wu32 (by omega)
    have rb : ∀ Y : Heap, okH (hf H Y) → evF C F_witness_row_base [.ptr o (g * 4), .d (.i .u32 (i : Int))] (hf H Y) = some (.d (.agg (baseOf ((L g).l.take i)).cs), hf H Y) :=
      fun Y hY => rb_at hY (fo Y) hg (hrow.b.hf Y) i (by omega) (by omega)
    have hdo := doOp_at (baseOf ((L g).l.take i)) e.op (base_fit fun e he => hlo e (List.mem_of_mem_take he)) (hlo e (List.mem_of_getElem? he))
    have hfo : ([.i .u8 e.op.client, .i .u32 e.op.seq, .i .u8 e.op.kind, .i .u8 e.op.obj, .i .u8 e.op.at_, .s e.op.data] : List DV) = e.op.cs := rfl
    simp only [he, Option.getD_some]
    rcases Bool.eq_false_or_eq_true (decide ((doOp (baseOf ((L g).l.take i)) e.op).2 = a.r)) with c3 | c3
    · rw [if_pos (of_decide_eq_true c3)]
      have so1 : ∀ (Y : Heap) (y : Ob), (hf H Y).set o y = hf (H.set o y) Y := fun Y y => hf_setO hn hlt Y y
      have hA : ∀ x : Ob, (H.set o x).length = n := fun x => by rw [List.length_set, hn]
      have hmm : mmI true (W.get g).acked ((i + 1 : Nat) : Int) = ((max (L g).acked (i + 1) : Nat) : Int) := by
        rw [hra]
        unfold mmI
        rw [if_pos rfl]
        split <;> omega
      generalize max (L g).acked (i + 1) = A at *
      have lt1 : (W.setA g (A : Int)).lt n = true := W4.lt_A (by have := okH_at hok ho; rw [hn] at this; exact this) hg _
      have ok2 : okH (H.set o (.box (.agg (W.setA g (A : Int)).cs))) := okH_set hok o (by rw [hn]; exact lt1)
      have R2 := hf_take0 (hA (.box (.agg (W.setA g (A : Int)).cs)))
      have K2 := hf_all0 (hA (.box (.agg (W.setA g (A : Int)).cs))) ok2
      have mk := W4.allD (W4.nd_A hnd g (A : Int))
      simp (config := {decide := true}) only [c_witness_Order_Took, R, K, N, O, D, U, F, fo, so1, R2, K2, hio, hwr, hgr, c1, c2, c3, hx, hid', hxe, b0, d0, w1, w2, rb, hfo, hdo, hmm, mk, W4.len, sameH_self, Int.toNat_natCast, Pk.EVL, keepT, enum, ↓reduceIte, ev, act, appT, callee, toDs, toD, loadA, storeA, subA, subD, updA, Eff.on, resA, resVs, resV, lk, finish, frzR, frzVs, frzV, fznR, fzns, fzn, lts, lt, ltO, List.all, pairsOk, indep, reduceCtorEq, Nat.reduceEqDiff, Nat.reduceAdd, Nat.reduceLeDiff, stb, thaws, List.drop, intOfA, binD, binI, unD, mmL, buildA, mkAgg, allD, bslD, behind, behind0, takeAt, frzAs, frzA, adoptR, adopt, isD, isD0, trim, List.take, binS, sliceA, bnd, zOk, elems, Nat.reduceBNe, inpl, Nat.reduceLT, Nat.reduceBEq, Nat.reduceSub, Nat.reduceMul, Int.reduceLT, Int.reduceLE, Int.reduceEq, Int.reduceToNat, Int.reduceNeg, thaw, nodup, refsV, adopts, Pk.TY_Ans, Pk.TY_Entry, Pk.TY_Base, Pk.TY_Res]
      refine ⟨_, rfl, rfl, ?_, ?_⟩
      · rw [hf_nil]
        refine ⟨ok2, _, List.getElem?_set_self (by omega), W4.nd_A hnd g _, fun k hk => ?_⟩
        obtain ⟨k1, k2, k3, k4⟩ := hrows k hk
        unfold updL
        by_cases hkg : k = g
        · subst hkg
          rw [(W4.sets hk).2.2.1, if_pos rfl]
          exact ⟨isRow_set ho k1, rfl, k3, k4⟩
        · rw [(W4.sets_ne hg hk hkg).2.2.1, if_neg hkg]
          exact ⟨isRow_set ho k1, k2, k3, k4⟩
      · rw [hf_nil]
        exact fr_set o _
    · rw [if_neg (of_decide_eq_false c3)]
      simp (config := {decide := true}) only [c_witness_Order_Took, R, K, N, O, D, F, fo, hio, hwr, hgr, c1, c2, c3, hx, hid', hxe, b0, d0, w1, rb, hfo, hdo, sameH_self, Int.toNat_natCast, Pk.EVL, keepT, enum, ↓reduceIte, ev, act, appT, callee, toDs, toD, loadA, storeA, subA, subD, updA, Eff.on, resA, resVs, resV, lk, finish, frzR, frzVs, frzV, fznR, fzns, fzn, lts, lt, ltO, List.all, pairsOk, indep, reduceCtorEq, Nat.reduceEqDiff, Nat.reduceAdd, Nat.reduceLeDiff, stb, thaws, List.drop, intOfA, binD, binI, unD, mmL, buildA, mkAgg, allD, bslD, behind, behind0, takeAt, frzAs, frzA, adoptR, adopt, isD, isD0, trim, List.take, binS, sliceA, bnd, zOk, elems, Nat.reduceBNe, inpl, Nat.reduceLT, Nat.reduceBEq, Nat.reduceSub, Nat.reduceMul, Int.reduceLT, Int.reduceLE, Int.reduceEq, Int.reduceToNat, Int.reduceNeg, thaw, nodup, refsV, adopts, Pk.TY_Ans, Pk.TY_Entry, Pk.TY_Base, Pk.TY_Res]
      exact ⟨_, rfl, rfl, hOm, hFm⟩

theorem took_at {H : Heap} {o : Nat} {L : Nat → Lr} {V : Nat → Prop} (hO : Ord H o L V) (hv : ∀ k, k < 4 → LrOk (L k)) (a : Ans) (ha : a.op.ok) :
    ∃ r : AV × Heap, evF C F_witness_Order_Took [.ptr o 0, .d (.agg a.cs)] H = some r ∧ r.1 = .d (.i .i64 (tookL L a).2) ∧ Ord r.2 o (tookL L a).1 V ∧ Fr o H r.2 :=
  tookG_at hO hv a ha (grpN_eq a.op.obj).2 (by rw [← (grpN_eq a.op.obj).1]; exact group_at a.op.obj)
end Go.Proofs.YtlihpaegaikoeaaDoor

namespace Go.Proofs.YtlihpaegaikoeaaDoor
open Pv Go Pk
set_option maxRecDepth 10000
set_option maxHeartbeats 2000000

theorem fitsL_parts {l : List Entry} {acked : Int} {s : State} (h : fitsL l acked s = true) : acked ≤ (headS s).2 ∧ s.tail.n ≤ l.length ∧ baseOf (l.take s.tail.n.toNat) = s.base ∧ idxE (partE l acked) s.log = none := by
  unfold fitsL at h
  simp only [Bool.and_eq_true, Bool.not_eq_true', Bool.or_eq_false_iff, decide_eq_false_iff_not, Option.isSome_eq_false_iff, Option.isNone_iff_eq_none] at h
  obtain ⟨⟨h1, h2, h3⟩, h4⟩ := h
  refine ⟨by omega, by omega, ?_, h4⟩
  simpa using h3
theorem idxE_none' {P : Entry → Bool} : ∀ {l : List Entry}, idxE P l = none → ∀ x ∈ l, P x = false
  | [], _ => by simp
  | x :: l, h => by
    unfold idxE at h
    split at h
    · simp at h
    · rename_i hp
      simp only [Option.map_eq_none_iff] at h
      intro y hy
      rcases List.mem_cons.1 hy with rfl | hy
      · simpa using hp
      · exact idxE_none' h y hy

/-- What See makes of a row: its cases. -/
theorem seeL_cases (L : Nat → Lr) (g : Nat) (s : State) : ((seeL L g s).1 = L ∧ ((seeL L g s).2 = 10 ∨ (seeL L g s).2 = 0 ∨ (seeL L g s).2 = 220)) ∨
    (g < 4 ∧ isSt s = true ∧ fitsL (L g).l (L g).acked s = true ∧ seeL L g s = (updL L g ⟨(L g).l.take s.tail.n.toNat ++ s.log, (L g).acked, s.started⟩, 0)) := by
  unfold seeL
  split
  · exact .inl ⟨rfl, .inl rfl⟩
  · rename_i h1
    split
    · exact .inl ⟨rfl, .inr (.inl rfl)⟩
    · split
      · exact .inl ⟨rfl, .inr (.inr rfl)⟩
      · rename_i h3
        refine .inr ⟨by omega, ?_, by simpa using h3, rfl⟩
        rcases Bool.eq_false_or_eq_true (isSt s) with h | h
        · exact h
        · exact absurd (.inr h) h1

theorem see_new_len {l : List Entry} {acked : Nat} {s : State} (hso : stOk s) (hs : isSt s = true) (hf : fitsL l acked s = true) : (l.take s.tail.n.toNat ++ s.log).length = s.tail.n.toNat + s.log.length ∧ (acked : Int) ≤ s.tail.n.toNat + s.log.length := by
  obtain ⟨h1, h2, h3, h4⟩ := fitsL_parts hf
  have h5 := hso.n
  have h6 := (last_n hso hs).1
  have h7 : (headS s).2 = (lastE s).n := by unfold headS; rw [if_pos hs]
  refine ⟨by rw [List.length_append, List.length_take]; omega, by omega⟩
/-- What is acknowledged stays. -/
theorem see_stays {l : List Entry} {acked : Nat} {s : State} (hso : stOk s) (hs : isSt s = true) (hf : fitsL l acked s = true) (ha : acked ≤ l.length) : (l.take s.tail.n.toNat ++ s.log).take acked = l.take acked := by
  obtain ⟨h1, h2, h3, h4⟩ := fitsL_parts hf
  obtain ⟨k1, k2⟩ := see_new_len hso hs hf
  have h5 := hso.n
  have h6 := (chain_n hso.n (isSt_chain hs)).1
  have h7 := idxE_none' h4
  obtain ⟨tn, htn⟩ : ∃ tn : Nat, s.tail.n = (tn : Int) := ⟨s.tail.n.toNat, by omega⟩
  rw [htn] at h2 h6 k1 k2 ⊢
  simp only [Int.toNat_natCast] at k1 k2 ⊢
  apply List.ext_getElem?
  intro i
  rw [List.getElem?_take, List.getElem?_take]
  split
  · rename_i hi
    by_cases hit : i < tn
    · rw [List.getElem?_append_left (by rw [List.length_take]; omega), List.getElem?_take, if_pos hit]
    · have hlt : (l.take tn).length = tn := by rw [List.length_take]; omega
      rw [List.getElem?_append_right (by omega), hlt]
      have hil : i - tn < s.log.length := by omega
      obtain ⟨e, he⟩ : ∃ e, s.log[i - tn]? = some e := ⟨s.log[i - tn], List.getElem?_eq_getElem hil⟩
      have hn := h6 _ e he
      have hp := h7 e (List.mem_of_getElem? he)
      unfold partE at hp
      rw [decide_eq_true (by omega), Bool.true_and, Bool.not_eq_false', decide_eq_true_eq] at hp
      rw [show (e.n - 1).toNat = i by omega] at hp
      have hil2 : i < l.length := by omega
      rw [List.getElem?_eq_getElem hil2, Option.getD_some] at hp
      rw [he, List.getElem?_eq_getElem hil2, hp]
  · rfl

theorem seeL_ok {L : Nat → Lr} (hv : ∀ k, k < 4 → LrOk (L k)) {g : Nat} {s : State} (hso : stOk s) {M : Nat} (hM : M + 6 ≤ 990) (hl : ∀ k, k < 4 → (L k).l.length ≤ M) :
    (∀ k, k < 4 → LrOk ((seeL L g s).1 k)) ∧ (∀ k, k < 4 → ((seeL L g s).1 k).l.length ≤ M + 6) ∧ (∀ k, k < 4 → (L k).acked ≤ ((seeL L g s).1 k).acked ∧ ((seeL L g s).1 k).l.take (L k).acked = (L k).l.take (L k).acked) ∧
    ((seeL L g s).2 = 10 ∨ (seeL L g s).2 = 0 ∨ (seeL L g s).2 = 220) := by
  rcases seeL_cases L g s with ⟨h1, h2⟩ | ⟨hg, hs, hf, h1⟩
  · rw [h1]
    exact ⟨hv, fun k hk => by have := hl k hk; omega, fun k hk => ⟨Nat.le_refl _, rfl⟩, h2⟩
  · obtain ⟨k1, k2⟩ := see_new_len hso hs hf
    have hlog := isSt_len hs
    obtain ⟨_, ht, _⟩ := fitsL_parts hf
    have hM2 := hl g hg
    obtain ⟨v1, v2, v3⟩ := hv g hg
    rw [h1]
    refine ⟨fun k hk => ?_, fun k hk => ?_, fun k hk => ?_, .inr (.inl rfl)⟩
    · dsimp only [updL]
      split
      · refine ⟨?_, fun e he => ?_, ?_⟩
        · dsimp only; omega
        · rcases List.mem_append.1 he with h | h
          · exact v2 e (List.mem_of_mem_take h)
          · exact hso.log e h
        · dsimp only; omega
      · exact hv k hk
    · dsimp only [updL]
      split
      · dsimp only; omega
      · have := hl k hk; omega
    · dsimp only [updL]
      split
      · rename_i hkg
        subst hkg
        exact ⟨Nat.le_refl _, see_stays hso hs hf v3⟩
      · exact ⟨Nat.le_refl _, rfl⟩

theorem tookL_ok {L : Nat → Lr} (hv : ∀ k, k < 4 → LrOk (L k)) (a : Ans) :
    (∀ k, k < 4 → LrOk ((tookL L a).1 k)) ∧ (∀ k, ((tookL L a).1 k).l = (L k).l) ∧ (∀ k, k < 4 → (L k).acked ≤ ((tookL L a).1 k).acked) ∧
    ((tookL L a).2 = 10 ∨ (tookL L a).2 = 0 ∨ (tookL L a).2 = 220) := by
  unfold tookL
  have hg := (grpN_eq a.op.obj).2
  revert hg
  generalize hgg : grpN a.op.obj = g
  clear hgg
  intro hg
  have same : (∀ k, k < 4 → LrOk (L k)) ∧ (∀ k, (L k).l = (L k).l) ∧ (∀ k, k < 4 → (L k).acked ≤ (L k).acked) := ⟨hv, fun _ => rfl, fun _ _ => Nat.le_refl _⟩
  unfold tookG
  split
  · exact ⟨same.1, same.2.1, same.2.2, .inl rfl⟩
  · split
    · refine ⟨same.1, same.2.1, same.2.2, ?_⟩
      dsimp only
      split
      · exact .inr (.inl rfl)
      · exact .inr (.inr rfl)
    · split
      · exact ⟨same.1, same.2.1, same.2.2, .inr (.inr rfl)⟩
      · rename_i i hI
        obtain ⟨e, he, _⟩ := idxE_some hI
        have hil : i < (L g).l.length := (List.getElem?_eq_some_iff.1 he).1
        split
        · refine ⟨fun k hk => ?_, fun k => ?_, fun k hk => ?_, .inr (.inl rfl)⟩
          · dsimp only [updL]
            split
            · obtain ⟨v1, v2, v3⟩ := hv g hg
              exact ⟨v1, v2, by dsimp only; omega⟩
            · exact hv k hk
          · dsimp only [updL]
            split
            · rename_i h; rw [h]
            · rfl
          · dsimp only [updL]
            split
            · rename_i h; rw [h]; dsimp only; omega
            · exact Nat.le_refl _
        · exact ⟨same.1, same.2.1, same.2.2, .inr (.inr rfl)⟩

theorem see_frz {o : Nat} {g : AV} {x : AV} {y : DV} {H H1 : Heap} (hg : ∃ d, g = .d d) (h : frzV H x = (.d y, H1)) : evF C F_witness_Order_See [.ptr o 0, g, x] H = evF C F_witness_Order_See [.ptr o 0, g, .d y] H1 := by
  obtain ⟨d, rfl⟩ := hg
  rw [evF_codef (rfl : C F_witness_Order_See = some f_witness_Order_See) _ _ [.ptr o 0, .d d, .d y] H1 (by simp [frzL, h]) rfl,
    evF_codef (rfl : C F_witness_Order_See = some f_witness_Order_See) _ _ [.ptr o 0, .d d, .d y] H1 (by simp [frzL, frzV, toD]) rfl]
end Go.Proofs.YtlihpaegaikoeaaDoor
