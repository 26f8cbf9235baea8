/- One order: what a row's entries are asked: has, fits, the search for an entry. -/
import Derived.Test.YtlihpaegaikoeaaDoorWtA
import Derived.Test.YtlihpaegaikoeaaDoorPgF
set_option linter.all false
namespace Go.Proofs.YtlihpaegaikoeaaDoor
open Pv Go Pk
set_option maxRecDepth 10000
set_option maxHeartbeats 2000000

/-- A row's entries as they are held: nil, or data. -/
def isL (x : AV) (l : List Entry) : Prop := (x = .nilS ∧ l = []) ∨ x = .d (.sl (l.map Entry.d))
def idxE (P : Entry → Bool) : List Entry → Option Nat
  | [] => none
  | e :: r => if P e = true then some 0 else (idxE P r).map (· + 1)
theorem idxE_hit {P : Entry → Bool} : ∀ {l : List Entry} {i : Nat} {e : Entry}, l[i]? = some e → P e = true → (∀ x ∈ l.take i, P x = false) → idxE P l = some i
  | [], _, _, h, _, _ => by simp at h
  | x :: l, 0, e, h, hp, _ => by simp at h; subst h; simp [idxE, hp]
  | x :: l, i + 1, e, h, hp, ha => by
    have h0 := ha x (by simp)
    have := idxE_hit (l := l) (i := i) (by simpa using h) hp (fun y hy => ha y (by simp [hy]))
    simp [idxE, h0, this]
theorem idxE_none {P : Entry → Bool} : ∀ {l : List Entry}, (∀ x ∈ l, P x = false) → idxE P l = none
  | [], _ => rfl
  | x :: l, ha => by simp [idxE, ha x (by simp), idxE_none (l := l) (fun y hy => ha y (by simp [hy]))]
def idxI : Option Nat → Int
  | some i => (i : Int)
  | none => -1

theorem idxf_at {H : Heap} (hok : okH H) {x : AV} {l : List Entry} (hx : isL x l) (hl : l.length ≤ 1000) {f : FuncId} {q : Nat} (hq : q < H.length) {P : Entry → Bool}
    (hP : ∀ e ∈ l, evF C f [.d (.agg e.cs), .ptr q 0] H = some (.d (.b (P e)), H)) :
    evF C F_slices_IndexFunc_sapi_Entry_api_Entry [x, .fn f [] [.ptr q 0]] H = some (.d (.i .i64 (idxI (idxE P l))), H) := by
  have tk : List.take H.length H = H := List.take_length
  have hq' : decide (q < H.length) = true := decide_eq_true hq
  unfold okH at hok
  rw [evF_code (rfl : C F_slices_IndexFunc_sapi_Entry_api_Entry = some a_slices_IndexFunc_sapi_Entry_api_Entry) _ _ rfl]
  have main : ∀ x : AV, ((x = .nilS ∧ l = []) ∨ x = .d (.sl (l.map Entry.d))) → ∀ T : Tm, lk T 0 = x → lk T 1 = .fn f [] [.ptr q 0] → lk T 7 = .d (.i .i64 (l.length : Nat)) → lk T 8 = .d (.i .i64 0) →
      ∃ e T' H', evL C K_slices_IndexFunc_sapi_Entry_api_Entry_0 l_slices_IndexFunc_sapi_Entry_api_Entry_0 H.length T H = some (e, T', H') ∧ (H' = H ∧ ((e = .ret ∧ lk T' 4 = .d (.i .i64 (idxI (idxE P l)))) ∨ (e = .exit 0 ∧ idxE P l = none))) := by
    intro x hx T g0 g1 g7 g8
    refine loop_run (fun i T H' => lk T 0 = x ∧ lk T 1 = .fn f [] [.ptr q 0] ∧ lk T 7 = .d (.i .i64 (l.length : Nat)) ∧ lk T 8 = .d (.i .i64 (i : Nat)) ∧ H' = H ∧ ∀ e ∈ l.take i, P e = false)
      (fun e T' H' => H' = H ∧ ((e = .ret ∧ lk T' 4 = .d (.i .i64 (idxI (idxE P l)))) ∨ (e = .exit 0 ∧ idxE P l = none))) l.length ?_ ?_ l.length 0 T H (by omega) ⟨g0, g1, g7, g8, rfl, by simp⟩
    · rintro i T H' hi ⟨h0, h1, h7, h8, rfl, hall⟩
      have hd : decide ((i : Int) < ((l.length : Nat) : Int)) = true := by simp; omega
      have hw : IntKind.i64.wrap ((i : Int) + 1) = ((i + 1 : Nat) : Int) := wi64 (by omega)
      have b0 : (0 ≤ (i : Int)) = True := by simp
      obtain ⟨e, he⟩ : ∃ e, l[i]? = some e := ⟨l[i], List.getElem?_eq_getElem hi⟩
      have hx' : x = .d (.sl (l.map Entry.d)) := by
        rcases hx with ⟨_, rfl⟩ | h
        · simp at hi
        · exact h
      subst hx'
      have hxe := list_idx Entry.d he
      have hPe := hP e (List.mem_of_getElem? he)
      rcases Bool.eq_false_or_eq_true (P e) with hp | hp
      · have hI := idxE_hit he hp hall
        rw [hp] at hPe
        simp (config := {decide := true}) only [K_slices_IndexFunc_sapi_Entry_api_Entry_0, l_slices_IndexFunc_sapi_Entry_api_Entry_0, h0, h1, h7, h8, hd, hw, b0, hxe, hPe, hq', tk, hok, sameH_self, Nat.le_refl, Pk.EVL, keepT, enum, ↓reduceIte, ev, act, appT, callee, toDs, toD, loadA, storeA, subA, subD, updA, Eff.on, resA, resVs, resV, lk, finish, frzR, frzVs, frzV, fznR, fzns, fzn, lts, lt, ltO, List.all, pairsOk, indep, reduceCtorEq, Nat.reduceEqDiff, Nat.reduceAdd, Nat.reduceLeDiff, stb, thaws, List.drop, intOfA, binD, binI, unD, mmL, buildA, mkAgg, allD, bslD, behind, behind0, takeAt, frzAs, frzA, adoptR, adopt, isD, isD0, trim, List.take, binS, sliceA, bnd, zOk, elems, Nat.reduceBNe, inpl, Nat.reduceLT, Nat.reduceBEq, Nat.reduceSub, Nat.reduceMul, Int.reduceLT, Int.reduceLE, Int.reduceEq, Int.reduceToNat, Int.reduceNeg, thaw, nodup, refsV, adopts, Pk.TY_Entry]
        refine ⟨_, _, _, rfl, .inr ⟨by simp, rfl, .inl ⟨rfl, by rw [hI]; rfl⟩⟩⟩
      · rw [hp] at hPe
        simp (config := {decide := true}) only [K_slices_IndexFunc_sapi_Entry_api_Entry_0, l_slices_IndexFunc_sapi_Entry_api_Entry_0, h0, h1, h7, h8, hd, hw, b0, hxe, hPe, hq', tk, hok, sameH_self, Nat.le_refl, Pk.EVL, keepT, enum, ↓reduceIte, ev, act, appT, callee, toDs, toD, loadA, storeA, subA, subD, updA, Eff.on, resA, resVs, resV, lk, finish, frzR, frzVs, frzV, fznR, fzns, fzn, lts, lt, ltO, List.all, pairsOk, indep, reduceCtorEq, Nat.reduceEqDiff, Nat.reduceAdd, Nat.reduceLeDiff, stb, thaws, List.drop, intOfA, binD, binI, unD, mmL, buildA, mkAgg, allD, bslD, behind, behind0, takeAt, frzAs, frzA, adoptR, adopt, isD, isD0, trim, List.take, binS, sliceA, bnd, zOk, elems, Nat.reduceBNe, inpl, Nat.reduceLT, Nat.reduceBEq, Nat.reduceSub, Nat.reduceMul, Int.reduceLT, Int.reduceLE, Int.reduceEq, Int.reduceToNat, Int.reduceNeg, thaw, nodup, refsV, adopts, Pk.TY_Entry]
        refine ⟨_, _, _, rfl, .inl ⟨rfl, rfl, rfl, rfl, rfl, rfl, fun y hy => ?_⟩⟩
        rw [take_succ' he, List.mem_append] at hy
        rcases hy with hy | hy
        · exact hall y hy
        · simp at hy; rw [hy]; exact hp
    · rintro T H' ⟨h0, h1, h7, h8, rfl, hall⟩
      have hd : decide (((l.length : Nat) : Int) < ((l.length : Nat) : Int)) = false := by simp
      have hlx : ∀ k, Pv.lt k x = true := by rcases hx with ⟨rfl, _⟩ | rfl <;> intro k <;> rfl
      have hI := idxE_none (P := P) (l := l) (by rw [List.take_length] at hall; exact hall)
      simp (config := {decide := true}) only [K_slices_IndexFunc_sapi_Entry_api_Entry_0, l_slices_IndexFunc_sapi_Entry_api_Entry_0, h0, h1, h7, h8, hd, hlx, hq', tk, hok, Pk.EVL, keepT, enum, ↓reduceIte, ev, act, appT, callee, toDs, toD, loadA, storeA, subA, subD, updA, Eff.on, resA, resVs, resV, lk, finish, frzR, frzVs, frzV, fznR, fzns, fzn, lts, lt, ltO, List.all, pairsOk, indep, reduceCtorEq, Nat.reduceEqDiff, Nat.reduceAdd, Nat.reduceLeDiff, stb, thaws, List.drop, intOfA, binD, binI, unD, mmL, buildA, mkAgg, allD, bslD, behind, behind0, takeAt, frzAs, frzA, adoptR, adopt, isD, isD0, trim, List.take, binS, sliceA, bnd, zOk, elems, Nat.reduceBNe, inpl, Nat.reduceLT, Nat.reduceBEq, Nat.reduceSub, Nat.reduceMul, Int.reduceLT, Int.reduceLE, Int.reduceEq, Int.reduceToNat, Int.reduceNeg, thaw, nodup, refsV, adopts]
      exact ⟨_, _, _, rfl, by simp, rfl, .inr ⟨rfl, hI⟩⟩
  rcases hx with ⟨rfl, rfl⟩ | rfl
  · simp (config := {decide := true}) only [c_slices_IndexFunc_sapi_Entry_api_Entry, tk, hok, Pk.EVL, keepT, enum, ↓reduceIte, ev, act, appT, callee, toDs, toD, loadA, storeA, subA, subD, updA, Eff.on, resA, resVs, resV, lk, finish, frzR, frzVs, frzV, fznR, fzns, fzn, lts, lt, ltO, List.all, pairsOk, indep, reduceCtorEq, Nat.reduceEqDiff, Nat.reduceAdd, Nat.reduceLeDiff, stb, thaws, List.drop, intOfA, binD, binI, unD, mmL, buildA, mkAgg, allD, bslD, behind, behind0, takeAt, frzAs, frzA, adoptR, adopt, isD, isD0, trim, List.take, binS, sliceA, bnd, zOk, elems, Nat.reduceBNe, inpl, Nat.reduceLT, Nat.reduceBEq, Nat.reduceSub, Nat.reduceMul, Int.reduceLT, Int.reduceLE, Int.reduceEq, Int.reduceToNat, Int.reduceNeg, thaw, nodup, refsV, adopts]
    simp only [Option.bind_assoc]
    refine bind_run (main .nilS (.inl ⟨rfl, rfl⟩) _ rfl rfl rfl rfl) ?_
    rintro e T H' ⟨rfl, ⟨rfl, h4⟩ | ⟨rfl, hI⟩⟩
    · simp (config := {decide := true}) only [h4, tk, hok, Pk.EVL, keepT, enum, ↓reduceIte, ev, act, appT, callee, toDs, toD, loadA, storeA, subA, subD, updA, Eff.on, resA, resVs, resV, lk, finish, frzR, frzVs, frzV, fznR, fzns, fzn, lts, lt, ltO, List.all, pairsOk, indep, reduceCtorEq, Nat.reduceEqDiff, Nat.reduceAdd, Nat.reduceLeDiff, stb, thaws, List.drop, intOfA, binD, binI, unD, mmL, buildA, mkAgg, allD, bslD, behind, behind0, takeAt, frzAs, frzA, adoptR, adopt, isD, isD0, trim, List.take, binS, sliceA, bnd, zOk, elems, Nat.reduceBNe, inpl, Nat.reduceLT, Nat.reduceBEq, Nat.reduceSub, Nat.reduceMul, Int.reduceLT, Int.reduceLE, Int.reduceEq, Int.reduceToNat, Int.reduceNeg, thaw, nodup, refsV, adopts]
    · simp (config := {decide := true}) only [hI, idxI, tk, hok, Pk.EVL, keepT, enum, ↓reduceIte, ev, act, appT, callee, toDs, toD, loadA, storeA, subA, subD, updA, Eff.on, resA, resVs, resV, lk, finish, frzR, frzVs, frzV, fznR, fzns, fzn, lts, lt, ltO, List.all, pairsOk, indep, reduceCtorEq, Nat.reduceEqDiff, Nat.reduceAdd, Nat.reduceLeDiff, stb, thaws, List.drop, intOfA, binD, binI, unD, mmL, buildA, mkAgg, allD, bslD, behind, behind0, takeAt, frzAs, frzA, adoptR, adopt, isD, isD0, trim, List.take, binS, sliceA, bnd, zOk, elems, Nat.reduceBNe, inpl, Nat.reduceLT, Nat.reduceBEq, Nat.reduceSub, Nat.reduceMul, Int.reduceLT, Int.reduceLE, Int.reduceEq, Int.reduceToNat, Int.reduceNeg, thaw, nodup, refsV, adopts]
  · simp (config := {decide := true}) only [c_slices_IndexFunc_sapi_Entry_api_Entry, tk, hok, Pk.EVL, keepT, enum, ↓reduceIte, ev, act, appT, callee, toDs, toD, loadA, storeA, subA, subD, updA, Eff.on, resA, resVs, resV, lk, finish, frzR, frzVs, frzV, fznR, fzns, fzn, lts, lt, ltO, List.all, pairsOk, indep, reduceCtorEq, Nat.reduceEqDiff, Nat.reduceAdd, Nat.reduceLeDiff, stb, thaws, List.drop, intOfA, binD, binI, unD, mmL, buildA, mkAgg, allD, bslD, behind, behind0, takeAt, frzAs, frzA, adoptR, adopt, isD, isD0, trim, List.take, binS, sliceA, bnd, zOk, elems, Nat.reduceBNe, inpl, Nat.reduceLT, Nat.reduceBEq, Nat.reduceSub, Nat.reduceMul, Int.reduceLT, Int.reduceLE, Int.reduceEq, Int.reduceToNat, Int.reduceNeg, thaw, nodup, refsV, adopts, Pk.TY_Entry]
    simp only [Option.bind_assoc]
    refine bind_run (main _ (.inr rfl) _ rfl rfl rfl rfl) ?_
    rintro e T H' ⟨rfl, ⟨rfl, h4⟩ | ⟨rfl, hI⟩⟩
    · simp (config := {decide := true}) only [h4, tk, hok, Pk.EVL, keepT, enum, ↓reduceIte, ev, act, appT, callee, toDs, toD, loadA, storeA, subA, subD, updA, Eff.on, resA, resVs, resV, lk, finish, frzR, frzVs, frzV, fznR, fzns, fzn, lts, lt, ltO, List.all, pairsOk, indep, reduceCtorEq, Nat.reduceEqDiff, Nat.reduceAdd, Nat.reduceLeDiff, stb, thaws, List.drop, intOfA, binD, binI, unD, mmL, buildA, mkAgg, allD, bslD, behind, behind0, takeAt, frzAs, frzA, adoptR, adopt, isD, isD0, trim, List.take, binS, sliceA, bnd, zOk, elems, Nat.reduceBNe, inpl, Nat.reduceLT, Nat.reduceBEq, Nat.reduceSub, Nat.reduceMul, Int.reduceLT, Int.reduceLE, Int.reduceEq, Int.reduceToNat, Int.reduceNeg, thaw, nodup, refsV, adopts]
    · simp (config := {decide := true}) only [hI, idxI, tk, hok, Pk.EVL, keepT, enum, ↓reduceIte, ev, act, appT, callee, toDs, toD, loadA, storeA, subA, subD, updA, Eff.on, resA, resVs, resV, lk, finish, frzR, frzVs, frzV, fznR, fzns, fzn, lts, lt, ltO, List.all, pairsOk, indep, reduceCtorEq, Nat.reduceEqDiff, Nat.reduceAdd, Nat.reduceLeDiff, stb, thaws, List.drop, intOfA, binD, binI, unD, mmL, buildA, mkAgg, allD, bslD, behind, behind0, takeAt, frzAs, frzA, adoptR, adopt, isD, isD0, trim, List.take, binS, sliceA, bnd, zOk, elems, Nat.reduceBNe, inpl, Nat.reduceLT, Nat.reduceBEq, Nat.reduceSub, Nat.reduceMul, Int.reduceLT, Int.reduceLE, Int.reduceEq, Int.reduceToNat, Int.reduceNeg, thaw, nodup, refsV, adopts]

theorem contf_at {H : Heap} (hok : okH H) {x : AV} {l : List Entry} (hx : isL x l) (hl : l.length ≤ 1000) {f : FuncId} {q : Nat} (hq : q < H.length) {P : Entry → Bool}
    (hP : ∀ e ∈ l, evF C f [.d (.agg e.cs), .ptr q 0] H = some (.d (.b (P e)), H)) :
    evF C F_slices_ContainsFunc_sapi_Entry_api_Entry [x, .fn f [] [.ptr q 0]] H = some (.d (.b (idxE P l).isSome), H) := by
  have h1 := idxf_at hok hx hl hq hP
  have tk : List.take H.length H = H := List.take_length
  unfold okH at hok
  rw [evF_code (rfl : C F_slices_ContainsFunc_sapi_Entry_api_Entry = some a_slices_ContainsFunc_sapi_Entry_api_Entry) _ _ rfl]
  have hd : decide (idxI (idxE P l) ≥ 0) = (idxE P l).isSome := by
    cases idxE P l with
    | none => rfl
    | some i => simp [idxI]
  rcases hx with ⟨rfl, rfl⟩ | rfl
  · simp (config := {decide := true}) only [c_slices_ContainsFunc_sapi_Entry_api_Entry, h1, hd, tk, hok, Pk.EVL, keepT, enum, ↓reduceIte, ev, act, appT, callee, toDs, toD, loadA, storeA, subA, subD, updA, Eff.on, resA, resVs, resV, lk, finish, frzR, frzVs, frzV, fznR, fzns, fzn, lts, lt, ltO, List.all, pairsOk, indep, reduceCtorEq, Nat.reduceEqDiff, Nat.reduceAdd, Nat.reduceLeDiff, stb, thaws, List.drop, intOfA, binD, binI, unD, mmL, buildA, mkAgg, allD, bslD, behind, behind0, takeAt, frzAs, frzA, adoptR, adopt, isD, isD0, trim, List.take, binS, sliceA, bnd, zOk, elems, Nat.reduceBNe, inpl, Nat.reduceLT, Nat.reduceBEq, Nat.reduceSub, Nat.reduceMul, Int.reduceLT, Int.reduceLE, Int.reduceEq, Int.reduceToNat, Int.reduceNeg, thaw, nodup, refsV, adopts]
  · simp (config := {decide := true}) only [c_slices_ContainsFunc_sapi_Entry_api_Entry, h1, hd, tk, hok, Pk.EVL, keepT, enum, ↓reduceIte, ev, act, appT, callee, toDs, toD, loadA, storeA, subA, subD, updA, Eff.on, resA, resVs, resV, lk, finish, frzR, frzVs, frzV, fznR, fzns, fzn, lts, lt, ltO, List.all, pairsOk, indep, reduceCtorEq, Nat.reduceEqDiff, Nat.reduceAdd, Nat.reduceLeDiff, stb, thaws, List.drop, intOfA, binD, binI, unD, mmL, buildA, mkAgg, allD, bslD, behind, behind0, takeAt, frzAs, frzA, adoptR, adopt, isD, isD0, trim, List.take, binS, sliceA, bnd, zOk, elems, Nat.reduceBNe, inpl, Nat.reduceLT, Nat.reduceBEq, Nat.reduceSub, Nat.reduceMul, Int.reduceLT, Int.reduceLE, Int.reduceEq, Int.reduceToNat, Int.reduceNeg, thaw, nodup, refsV, adopts]

/-- Does an entry of a state part from one that is acknowledged? -/
def partE (l : List Entry) (acked : Int) (e : Entry) : Bool := decide (e.n ≤ acked) && !decide ((l[(e.n - 1).toNat]?).getD Entry.zero = e)

theorem fits1_at {H : Heap} (hok : okH H) {o : Nat} {W : W4} (ho : H[o]? = some (.box (.agg W.cs))) {g : Nat} (hg : g < 4) {q : Nat} (hq : H[q]? = some (.box (.ptr o (g * 4)))) {l : List Entry} (hL : isL (W.get g).l l)
    (e : Entry) (h1 : 1 ≤ e.n ∧ e.n < 4294967296) (hle : (W.get g).acked ≤ l.length) (hn4 : l.length ≤ 1000) :
    evF C F_witness_row_fits_1 [.d (.agg e.cs), .ptr q 0] H = some (.d (.b (partE l (W.get g).acked e)), H) := by
  obtain ⟨n, hn⟩ : ∃ n, H.length = n := ⟨_, rfl⟩
  have hlt : o < n := hn ▸ (List.getElem?_eq_some_iff.1 ho).1
  have hlq : q < n := hn ▸ (List.getElem?_eq_some_iff.1 hq).1
  have key : evF C F_witness_row_fits_1 [.d (.agg e.cs), .ptr q 0] (hf H []) = some (.d (.b (partE l (W.get g).acked e)), hf H []) := by
    have R := hf_rules hn
    have K := ok_rules hn hok
    have N := n_rules n
    have O := o_rules hlt
    have Q := o_rules hlq
    have ho' := hf_old ho
    have hq' := hf_old hq
    have D := W4.rds hg
    rw [evF_code (rfl : C F_witness_row_fits_1 = some a_witness_row_fits_1) _ _ rfl]
    unfold partE
    rcases Bool.eq_false_or_eq_true (decide (e.n ≤ (W.get g).acked)) with c1 | c1
    · have c1' : e.n ≤ (W.get g).acked := by simpa using c1
      have w1 : IntKind.u32.wrap (e.n - 1) = e.n - 1 := by
        have : e.n - 1 = ((e.n - 1).toNat : Int) := by omega
        rw [this]; exact wu32 (by omega)
      obtain ⟨y, hy⟩ : ∃ y, l[(e.n - 1).toNat]? = some y := ⟨l[(e.n - 1).toNat]'(by omega), List.getElem?_eq_getElem _⟩
      have hx : (W.get g).l = .d (.sl (l.map Entry.d)) := by
        rcases hL with ⟨_, rfl⟩ | h
        · simp at hy
        · exact h
      have hxe := list_idx Entry.d hy
      have b0 : (0 ≤ e.n - 1) = True := eq_true (by omega)
      simp (config := {decide := true}) only [c_witness_row_fits_1, R, K, N, O, Q, ho', hq', D, c1, w1, hx, hxe, hy, b0, Option.getD_some, Pk.EVL, keepT, enum, ↓reduceIte, ev, act, appT, callee, toDs, toD, loadA, storeA, subA, subD, updA, Eff.on, resA, resVs, resV, lk, finish, frzR, frzVs, frzV, fznR, fzns, fzn, lts, lt, ltO, List.all, pairsOk, indep, reduceCtorEq, Nat.reduceEqDiff, Nat.reduceAdd, Nat.reduceLeDiff, stb, thaws, List.drop, intOfA, binD, binI, unD, mmL, buildA, mkAgg, allD, bslD, behind, behind0, takeAt, frzAs, frzA, adoptR, adopt, isD, isD0, trim, List.take, binS, sliceA, bnd, zOk, elems, Nat.reduceBNe, inpl, Nat.reduceLT, Nat.reduceBEq, Nat.reduceSub, Nat.reduceMul, Int.reduceLT, Int.reduceLE, Int.reduceEq, Int.reduceToNat, Int.reduceNeg, thaw, nodup, refsV, adopts, Pk.TY_Entry]
    · simp (config := {decide := true}) only [c_witness_row_fits_1, R, K, N, O, Q, ho', hq', D, c1, Pk.EVL, keepT, enum, ↓reduceIte, ev, act, appT, callee, toDs, toD, loadA, storeA, subA, subD, updA, Eff.on, resA, resVs, resV, lk, finish, frzR, frzVs, frzV, fznR, fzns, fzn, lts, lt, ltO, List.all, pairsOk, indep, reduceCtorEq, Nat.reduceEqDiff, Nat.reduceAdd, Nat.reduceLeDiff, stb, thaws, List.drop, intOfA, binD, binI, unD, mmL, buildA, mkAgg, allD, bslD, behind, behind0, takeAt, frzAs, frzA, adoptR, adopt, isD, isD0, trim, List.take, binS, sliceA, bnd, zOk, elems, Nat.reduceBNe, inpl, Nat.reduceLT, Nat.reduceBEq, Nat.reduceSub, Nat.reduceMul, Int.reduceLT, Int.reduceLE, Int.reduceEq, Int.reduceToNat, Int.reduceNeg, thaw, nodup, refsV, adopts, Pk.TY_Entry]
  rwa [hf_nil] at key

theorem has_at {H : Heap} (hok : okH H) {o : Nat} {W : W4} (ho : H[o]? = some (.box (.agg W.cs))) {g : Nat} (hg : g < 4) {l : List Entry} (hL : isL (W.get g).l l) (m : Nat) (s : List Entry) (hl : l.length ≤ 1000) (hm : m ≤ l.length) (hs : s.length ≤ 1000) :
    evF C F_witness_row_has [.ptr o (g * 4), .d (.i .u32 (m : Nat)), .d (.sl (s.map Entry.d))] H = some (.d (.b (decide (m + s.length = l.length) && decide (l.drop m = s))), H) := by
  have tk : List.take H.length H = H := List.take_length
  have hlt : o < H.length := (List.getElem?_eq_some_iff.1 ho).1
  have D := W4.rds hg
  unfold okH at hok
  have he := entries_eq (l.drop m) s (by rw [List.length_drop]; omega)
  have w1 : IntKind.i64.wrap ((m : Nat) : Int) = ((m : Nat) : Int) := wi64 (by omega)
  have w2 : IntKind.i64.wrap (((m : Nat) : Int) + ((s.length : Nat) : Int)) = ((m + s.length : Nat) : Int) := by rw [wi64 (by omega)]; omega
  have c0 : (((m + s.length : Nat) : Int) == ((l.length : Nat) : Int)) = decide (m + s.length = l.length) := by
    by_cases h : m + s.length = l.length
    · rw [h]; simp
    · rw [decide_eq_false h]; simp; omega
  have b1 : (0 ≤ ((m : Nat) : Int) ∧ ((m : Nat) : Int) ≤ ((l.length : Nat) : Int)) = True := eq_true (by omega)
  have hmd : List.drop m (l.map Entry.d) = (l.drop m).map Entry.d := List.map_drop.symm
  have htl : List.take l.length (l.map Entry.d) = l.map Entry.d := List.take_of_length_le (by simp)
  rw [evF_code (rfl : C F_witness_row_has = some a_witness_row_has) _ _ rfl]
  rcases hL with ⟨hx, rfl⟩ | hx
  · obtain rfl : m = 0 := by simpa using hm
    have w3 : IntKind.i64.wrap (((0 : Nat) : Int) + ((s.length : Nat) : Int)) = ((s.length : Nat) : Int) := by rw [wi64 (by omega)]; omega
    simp only [List.drop_nil, List.map_nil] at he
    by_cases c1 : s.length = 0
    · obtain rfl : s = [] := List.eq_nil_of_length_eq_zero c1
      have w4 : IntKind.i64.wrap (((0 : Nat) : Int) + ((0 : Nat) : Int)) = 0 := by decide
      simp only [List.map_nil] at he
      simp (config := {decide := true}) only [c_witness_row_has, ho, D, hx, w1, w4, he, tk, hok, Pk.EVL, keepT, enum, ↓reduceIte, ev, act, appT, callee, toDs, toD, loadA, storeA, subA, subD, updA, Eff.on, resA, resVs, resV, lk, finish, frzR, frzVs, frzV, fznR, fzns, fzn, lts, lt, ltO, List.all, pairsOk, indep, reduceCtorEq, Nat.reduceEqDiff, Nat.reduceAdd, Nat.reduceLeDiff, stb, thaws, List.drop, intOfA, binD, binI, unD, mmL, buildA, mkAgg, allD, bslD, behind, behind0, takeAt, frzAs, frzA, adoptR, adopt, isD, isD0, trim, List.take, binS, sliceA, bnd, zOk, elems, Nat.reduceBNe, inpl, Nat.reduceLT, Nat.reduceBEq, Nat.reduceSub, Nat.reduceMul, Int.reduceLT, Int.reduceLE, Int.reduceEq, Int.reduceToNat, Int.reduceNeg, thaw, nodup, refsV, adopts]
    · have c2 : (((s.length : Nat) : Int) == 0) = false := by simp; exact fun h => c1 (by rw [h]; rfl)
      have c3 : decide (0 + s.length = ([] : List Entry).length) = false := by simp; exact fun h => c1 (by rw [h]; rfl)
      rw [c3]
      simp (config := {decide := true}) only [c_witness_row_has, ho, D, hx, w1, w3, c2, tk, hok, Pk.EVL, keepT, enum, ↓reduceIte, ev, act, appT, callee, toDs, toD, loadA, storeA, subA, subD, updA, Eff.on, resA, resVs, resV, lk, finish, frzR, frzVs, frzV, fznR, fzns, fzn, lts, lt, ltO, List.all, pairsOk, indep, reduceCtorEq, Nat.reduceEqDiff, Nat.reduceAdd, Nat.reduceLeDiff, stb, thaws, List.drop, intOfA, binD, binI, unD, mmL, buildA, mkAgg, allD, bslD, behind, behind0, takeAt, frzAs, frzA, adoptR, adopt, isD, isD0, trim, List.take, binS, sliceA, bnd, zOk, elems, Nat.reduceBNe, inpl, Nat.reduceLT, Nat.reduceBEq, Nat.reduceSub, Nat.reduceMul, Int.reduceLT, Int.reduceLE, Int.reduceEq, Int.reduceToNat, Int.reduceNeg, thaw, nodup, refsV, adopts]
  · rcases Bool.eq_false_or_eq_true (decide (m + s.length = l.length)) with c1 | c1
    · rw [c1] at c0
      simp (config := {decide := true}) only [c_witness_row_has, ho, D, hx, w1, w2, c0, c1, b1, he, hmd, htl, tk, hok, Entry.all_cells, Pk.EVL, keepT, enum, ↓reduceIte, ev, act, appT, callee, toDs, toD, loadA, storeA, subA, subD, updA, Eff.on, resA, resVs, resV, lk, finish, frzR, frzVs, frzV, fznR, fzns, fzn, lts, lt, ltO, List.all, pairsOk, indep, reduceCtorEq, Nat.reduceEqDiff, Nat.reduceAdd, Nat.reduceLeDiff, stb, thaws, List.drop, intOfA, binD, binI, unD, mmL, buildA, mkAgg, allD, bslD, behind, behind0, takeAt, frzAs, frzA, adoptR, adopt, isD, isD0, trim, List.take, binS, sliceA, bnd, zOk, elems, Nat.reduceBNe, inpl, Nat.reduceLT, Nat.reduceBEq, Nat.reduceSub, Nat.reduceMul, Int.reduceLT, Int.reduceLE, Int.reduceEq, Int.reduceToNat, Int.reduceNeg, thaw, nodup, refsV, adopts, Pk.TY_Entry]
    · rw [c1] at c0
      simp (config := {decide := true}) only [c_witness_row_has, ho, D, hx, w1, w2, c0, c1, tk, hok, Pk.EVL, keepT, enum, ↓reduceIte, ev, act, appT, callee, toDs, toD, loadA, storeA, subA, subD, updA, Eff.on, resA, resVs, resV, lk, finish, frzR, frzVs, frzV, fznR, fzns, fzn, lts, lt, ltO, List.all, pairsOk, indep, reduceCtorEq, Nat.reduceEqDiff, Nat.reduceAdd, Nat.reduceLeDiff, stb, thaws, List.drop, intOfA, binD, binI, unD, mmL, buildA, mkAgg, allD, bslD, behind, behind0, takeAt, frzAs, frzA, adoptR, adopt, isD, isD0, trim, List.take, binS, sliceA, bnd, zOk, elems, Nat.reduceBNe, inpl, Nat.reduceLT, Nat.reduceBEq, Nat.reduceSub, Nat.reduceMul, Int.reduceLT, Int.reduceLE, Int.reduceEq, Int.reduceToNat, Int.reduceNeg, thaw, nodup, refsV, adopts, Pk.TY_Entry]
end Go.Proofs.YtlihpaegaikoeaaDoor
