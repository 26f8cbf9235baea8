/- One order: entries laid behind the first ones. -/
import Derived.Test.YtlihpaegaikoeaaDoorWtE
set_option linter.all false
namespace Go.Proofs.YtlihpaegaikoeaaDoor
open Pv Go Pk
set_option maxRecDepth 10000
set_option maxHeartbeats 2000000

theorem run_ex {β : Type} {x : Option (AExit × Tm × Heap)} {Q : AExit → Tm → Heap → Prop} {f : AExit × Tm × Heap → Option β} {Φ : β → Prop} (h : ∃ e T' H', x = some (e, T', H') ∧ Q e T' H') (hf : ∀ e T' H', Q e T' H' → ∃ r, f (e, T', H') = some r ∧ Φ r) : ∃ r, x.bind f = some r ∧ Φ r := by
  obtain ⟨e, T', H', rfl, hp⟩ := h
  exact hf e T' H' hp
theorem run_ex' {β γ : Type} {x : Option (AExit × Tm × Heap)} {Q : AExit → Tm → Heap → Prop} {f : AExit × Tm × Heap → Option β} {v : γ → β} (h : ∃ e T' H', x = some (e, T', H') ∧ Q e T' H') (hf : ∀ e T' H', Q e T' H' → ∃ r, f (e, T', H') = some (v r)) : ∃ r, x.bind f = some (v r) := by
  obtain ⟨e, T', H', rfl, hp⟩ := h
  exact hf e T' H' hp
/-- A row: never laid, or its entries as data, and their bases. -/
def isRow (H : Heap) (r : Wr) (l : List Entry) : Prop := (r.l = .nilS ∧ r.b = .nilS ∧ l = []) ∨ (r.l = .d (.sl (l.map Entry.d)) ∧ ∃ p wr, r.b = .view p l.length 39 0 l.length ∧ H[p]? = some (.arr ((basesL l).map Base.d) wr))
theorem isRow.l {H : Heap} {r : Wr} {l : List Entry} (h : isRow H r l) : isL r.l l := by
  rcases h with ⟨h1, _, h3⟩ | ⟨h1, _⟩
  · exact .inl ⟨h1, h3⟩
  · exact .inr h1
theorem isRow.b {H : Heap} {r : Wr} {l : List Entry} (h : isRow H r l) : isB H r.b l := by
  rcases h with ⟨_, h2, h3⟩ | ⟨_, h2⟩
  · exact .inl ⟨h2, h3⟩
  · exact .inr h2
/-- What else there was is as it was, but that rows may be fixed. -/
def Fr (o : Nat) (H H' : Heap) : Prop := H.length ≤ H'.length ∧ ∀ q, q ≠ o → ∀ x, H[q]? = some x → H'[q]? = some x ∨ ∃ es w w', x = .arr es w ∧ H'[q]? = some (.arr es w')
theorem Fr.refl (o : Nat) (H : Heap) : Fr o H H := ⟨Nat.le_refl _, fun _ _ _ h => .inl h⟩
theorem Fr.trans {o : Nat} {A B D : Heap} (h1 : Fr o A B) (h2 : Fr o B D) : Fr o A D := by
  refine ⟨Nat.le_trans h1.1 h2.1, fun q hq x hx => ?_⟩
  rcases h1.2 q hq x hx with h | ⟨es, w, w', rfl, h⟩
  · exact h2.2 q hq x h
  · rcases h2.2 q hq _ h with k | ⟨es', w1, w2, k1, k2⟩
    · exact .inr ⟨es, w, w', rfl, k⟩
    · injection k1 with k1 k3
      subst k1
      exact .inr ⟨es, w, w2, rfl, k2⟩
theorem Fr.box {o : Nat} {A B : Heap} (h : Fr o A B) {q : Nat} (hq : q ≠ o) {x : AV} (hx : A[q]? = some (.box x)) : B[q]? = some (.box x) := by
  rcases h.2 q hq _ hx with k | ⟨_, _, _, k, _⟩
  · exact k
  · cases k
theorem Fr.arr {o : Nat} {A B : Heap} (h : Fr o A B) {q : Nat} (hq : q ≠ o) {es : List DV} {w : Bool} (hx : A[q]? = some (.arr es w)) : ∃ w', B[q]? = some (.arr es w') := by
  rcases h.2 q hq _ hx with k | ⟨es', w1, w2, k1, k2⟩
  · exact ⟨w, k⟩
  · injection k1 with k1 k3
    subst k1
    exact ⟨w2, k2⟩
theorem Fr.isRow {o : Nat} {A B : Heap} (h : Fr o A B) {b : AV} {l : List Entry} (hb : isB A b l) (hbo : ∀ p g' z off len, b = .view p g' z off len → p ≠ o) : isB B b l := by
  rcases hb with hb | ⟨p, wr, h1, h2⟩
  · exact .inl hb
  · obtain ⟨w', k⟩ := h.arr (hbo p _ _ _ _ h1) h2
    exact .inr ⟨p, w', h1, k⟩

theorem not_trim {G : Heap} {n o p g : Nat} (hlo : o < n) (hp : n ≤ p) {W : W4} (hg : g < 4) {z k : Nat} (ho : G[o]? = some (.box (.agg (W.setB g (.view p k z 0 k)).cs))) : (List.take n G).all (ltO n) = false := by
  rw [Bool.eq_false_iff]
  intro h
  rw [List.all_eq_true] at h
  have := h _ (List.mem_of_getElem? (i := o) (by rw [List.getElem?_take_of_lt hlo]; exact ho))
  have h1 : (W.setB g (.view p k z 0 k)).lt n = true := this
  have h2 := ((W4.lt_iff _ _).1 h1 g hg).2
  rw [(W4.sets hg).2.1] at h2
  simp [Pv.lt] at h2
  omega

theorem lays_at {H : Heap} (hok : okH H) {o : Nat} {W : W4} (ho : H[o]? = some (.box (.agg W.cs))) (hnd : W.nd = true) {g : Nat} (hg : g < 4) {l : List Entry} (hR : isRow H (W.get g) l) (hl : l.length ≤ 1000) (hlo : ∀ e ∈ l, e.op.ok)
    {s : List Entry} (hs : s.length ≤ 1000) (hso : ∀ e ∈ s, e.op.ok) (m : Nat) (hm : m ≤ l.length) :
    ∃ r : AV × Heap, evF C F_witness_row_lays [.ptr o (g * 4), .d (.i .u32 (m : Nat)), .d (.sl (s.map Entry.d))] H = some r ∧ r.1 = .tup [] ∧ okH r.2 ∧ Fr o H r.2 ∧ ∃ p, H.length ≤ p ∧
      r.2[o]? = some (.box (.agg ((W.setL g (.d (.sl ((l.take m ++ s).map Entry.d)))).setB g (.view p (l.take m ++ s).length 39 0 (l.take m ++ s).length)).cs)) ∧ r.2[p]? = some (.arr ((basesL (l.take m ++ s)).map Base.d) true) := by
  obtain ⟨n, hn⟩ : ∃ n, H.length = n := ⟨_, rfl⟩
  have hlt : o < n := hn ▸ (List.getElem?_eq_some_iff.1 ho).1
  have R := hf_rules hn
  have K := ok_rules hn hok
  have N := n_rules n
  have O := o_rules hlt
  have D := W4.rds hg
  have U := W4.wrs hg
  have F := W4.fits hg
  have fo := hf_old ho
  have hE : ∀ e ∈ l.take m, e.op.ok := fun e he => hlo e (List.mem_of_mem_take he)
  have hElen : (l.take m).length = m := by rw [List.length_take]; omega
  have lt0 : W.lt n = true := by have := okH_at hok ho; rw [hn] at this; exact this
  -- from where the rows lie as they should to the end
  have fin : ∀ (A : Heap) (a2 : Ob) (T : Tm), A.length = n → (∀ q, q ≠ o → ∀ x, H[q]? = some x → A[q]? = some x ∨ ∃ es w w', x = .arr es w ∧ A[q]? = some (.arr es w')) → A.all (ltO n) = true → (∃ es w, a2 = .arr es w) →
      lk T 0 = .ptr o (g * 4) → lk T 32 = .d (.sl (s.map Entry.d)) → lk T 33 = .d (.i .i64 (s.length : Nat)) → lk T 34 = .d (.i .i64 0) →
      ∀ J : Heap, J = hf (A.set o (.box (.agg ((W.setL g (.d (.sl ((l.take m ++ s).map Entry.d)))).setB g (.view (n + 1) m 39 0 m)).cs))) [a2, .arr ((basesL (l.take m)).map Base.d) true] →
      ∃ e T' H', evL C K_witness_row_lays_0 l_witness_row_lays_0 (n + 2) T J = some (e, T', H') ∧ (e = .exit 0 ∧ LG J o (n + 1) g (W.setL g (.d (.sl ((l.take m ++ s).map Entry.d)))) (l.take m ++ s) H') := by
    rintro A a2 T hA hAq hAok ⟨ea, wa, rfl⟩ t0 t32 t33 t34 J rfl
    generalize hx : W.setL g (.d (.sl ((l.take m ++ s).map Entry.d))) = W2
    have hlt2 : W2.lt (n + 2) = true := by rw [← hx]; exact W4.lt_L (lts_mono (by omega) _ lt0) hg rfl
    have hset : (A.set o (.box (.agg (W2.setB g (.view (n + 1) m 39 0 m)).cs))).length = n := by rw [List.length_set, hA]
    have hJl : (hf (A.set o (.box (.agg (W2.setB g (.view (n + 1) m 39 0 m)).cs))) [.arr ea wa, .arr ((basesL (l.take m)).map Base.d) true]).length = n + 2 := by rw [hf_len hset]; rfl
    rw [← hJl]
    refine lays_loop (by omega) hg (by rw [← hx]; exact W4.nd_L hnd g _) ⟨rfl, ?_, ?_, ?_, fun _ _ _ => rfl⟩ hE hso (by omega) T t0 t32 t33 t34
    · unfold okH
      rw [hJl]
      unfold hf
      rw [List.all_append, Bool.and_eq_true]
      refine ⟨?_, rfl⟩
      rw [List.all_eq_true]
      intro c hc
      rcases List.mem_or_eq_of_mem_set hc with hc | rfl
      · exact ltO_mono (by omega) c (List.all_eq_true.1 hAok c hc)
      · exact W4.lt_B hlt2 hg (by simp [Pv.lt])
    · rw [hElen]
      exact hf_old (List.getElem?_set_self (by omega)) _
    · rw [hf_at hset]
      rfl
  have post : ∀ (A : Heap) (a2 : Ob) (J G : Heap), A.length = n → (∀ q, q ≠ o → ∀ x, H[q]? = some x → A[q]? = some x ∨ ∃ es w w', x = .arr es w ∧ A[q]? = some (.arr es w')) →
      J = hf (A.set o (.box (.agg ((W.setL g (.d (.sl ((l.take m ++ s).map Entry.d)))).setB g (.view (n + 1) m 39 0 m)).cs))) [a2, .arr ((basesL (l.take m)).map Base.d) true] →
      LG J o (n + 1) g (W.setL g (.d (.sl ((l.take m ++ s).map Entry.d)))) (l.take m ++ s) G → okH G ∧ Fr o H G ∧ ∃ p, H.length ≤ p ∧
      G[o]? = some (.box (.agg ((W.setL g (.d (.sl ((l.take m ++ s).map Entry.d)))).setB g (.view p (l.take m ++ s).length 39 0 (l.take m ++ s).length)).cs)) ∧ G[p]? = some (.arr ((basesL (l.take m ++ s)).map Base.d) true) := by
    rintro A a2 J G hA hAq rfl hG
    refine ⟨hG.ok, ⟨?_, fun q hq x hx => ?_⟩, n + 1, by omega, hG.box, hG.arr⟩
    · rw [hG.len, hf_len (n := n) (by rw [List.length_set, hA])]
      omega
    · have hqn : q < n := hn ▸ (List.getElem?_eq_some_iff.1 hx).1
      have e1 : G[q]? = A[q]? := by
        rw [hG.rest q hq (by omega)]
        unfold hf
        rw [List.getElem?_append_left (by rw [List.length_set]; omega), List.getElem?_set_ne (Ne.symm hq)]
      rw [e1]
      exact hAq q hq x hx
  have hcat := concat_at (l.take m) s (by omega) hs
  have hcl := cloneB_at (basesL (l.take m)) (by rw [basesL_len]; omega)
  rw [basesL_len, hElen] at hcl
  suffices hkey : ∃ r : AV × Heap, evF C F_witness_row_lays [.ptr o (g * 4), .d (.i .u32 (m : Nat)), .d (.sl (s.map Entry.d))] (hf H []) = some r ∧ r.1 = .tup [] ∧ okH r.2 ∧ Fr o H r.2 ∧ ∃ p, H.length ≤ p ∧
      r.2[o]? = some (.box (.agg ((W.setL g (.d (.sl ((l.take m ++ s).map Entry.d)))).setB g (.view p (l.take m ++ s).length 39 0 (l.take m ++ s).length)).cs)) ∧ r.2[p]? = some (.arr ((basesL (l.take m ++ s)).map Base.d) true) by
    rwa [hf_nil] at hkey
  rw [evF_code (rfl : C F_witness_row_lays = some a_witness_row_lays) _ _ rfl]
  rcases hR with ⟨hx, hb, rfl⟩ | ⟨hx, p0, wr, hb, hp0⟩
  · obtain rfl : m = 0 := by simpa using hm
    have so1 : ∀ (Y : Heap) (y : Ob), (hf H Y).set o y = hf (H.set o y) Y := fun Y y => hf_setO hn hlt Y y
    have hA : ∀ x : Ob, (H.set o x).length = n := fun x => by rw [List.length_set, hn]
    have fo3 : ∀ (Y : Heap) (y : Ob), (hf (H.set o y) Y)[o]? = some y := fun Y y => hf_old (List.getElem?_set_self (by rw [hn]; exact hlt)) Y
    have so3 : ∀ (Y : Heap) (y z : Ob), (hf (H.set o y) Y).set o z = hf (H.set o z) Y := fun Y y z => by rw [hf_setO (hA y) hlt Y z, List.set_set]
    have ln2 : ∀ (Y : Heap) (y : Ob), (hf (H.set o y) Y).length = n + Y.length := fun Y y => hf_len (hA y) Y
    have pu : ∀ (X Y Z : Heap), hf X Y ++ Z = hf X (Y ++ Z) := hf_push
    have cn : ([n] : List Nat).contains o = false := by simp; omega
    have mk1 := W4.allD (W4.nd_L hnd g (.d (.sl (s.map Entry.d))))
    have mk2 := W4.allD (W4.nd_B (W4.nd_L hnd g (.d (.sl (s.map Entry.d)))) g (x := .view (n + 1) 0 39 0 0) rfl)
    have e0 : (basesL []).map Base.d = [] := rfl
    simp only [List.take_nil, List.map_nil, List.nil_append, e0] at hcat hcl
    simp (config := {decide := true}) only [c_witness_row_lays, R, N, O, D, U, F, fo, so1, fo3, so3, pu, ln2, hx, hb, hcat, hcl, mk1, mk2, W4.len, Nat.sub_zero, cn, Entry.all_cells, List.take_nil, Pk.EVL, keepT, enum, ↓reduceIte, ev, act, appT, callee, toDs, toD, loadA, storeA, subA, subD, updA, Eff.on, resA, resVs, resV, lk, finish, frzR, frzVs, frzV, fznR, fzns, fzn, lts, lt, ltO, List.all, pairsOk, indep, reduceCtorEq, Nat.reduceEqDiff, Nat.reduceAdd, Nat.reduceLeDiff, stb, thaws, List.drop, intOfA, binD, binI, unD, mmL, buildA, mkAgg, allD, bslD, behind, behind0, takeAt, frzAs, frzA, adoptR, adopt, isD, isD0, trim, List.take, binS, sliceA, bnd, zOk, elems, Nat.reduceBNe, inpl, Nat.reduceLT, Nat.reduceBEq, Nat.reduceSub, Nat.reduceMul, Int.reduceLT, Int.reduceLE, Int.reduceEq, Int.reduceToNat, Int.reduceNeg, thaw, nodup, refsV, adopts, Pk.TY_Entry, Pk.TY_Base]
    simp only [Option.bind_assoc]
    have hAq : ∀ q, q ≠ o → ∀ x, H[q]? = some x → H[q]? = some x ∨ ∃ es w w', x = .arr es w ∧ H[q]? = some (.arr es w') := fun q _ x hx => .inl hx
    have hAok : H.all (ltO n) = true := by have := hok; unfold okH at this; rwa [hn] at this
    refine run_ex (fin H _ _ hn hAq hAok ⟨_, _, rfl⟩ rfl rfl rfl rfl _ rfl) ?_
    rintro e T' G ⟨rfl, hG⟩
    have hps := post H _ _ G hn hAq rfl hG
    have hnt := not_trim hlt (show n ≤ n + 1 by omega) hg hG.box
    simp (config := {decide := true}) only [hnt, Pk.EVL, keepT, enum, ↓reduceIte, ev, act, appT, callee, toDs, toD, loadA, storeA, subA, subD, updA, Eff.on, resA, resVs, resV, lk, finish, frzR, frzVs, frzV, fznR, fzns, fzn, lts, lt, ltO, List.all, pairsOk, indep, reduceCtorEq, Nat.reduceEqDiff, Nat.reduceAdd, Nat.reduceLeDiff, stb, thaws, List.drop, intOfA, binD, binI, unD, mmL, buildA, mkAgg, allD, bslD, behind, behind0, takeAt, frzAs, frzA, adoptR, adopt, isD, isD0, trim, List.take, binS, sliceA, bnd, zOk, elems, Nat.reduceBNe, inpl, Nat.reduceLT, Nat.reduceBEq, Nat.reduceSub, Nat.reduceMul, Int.reduceLT, Int.reduceLE, Int.reduceEq, Int.reduceToNat, Int.reduceNeg, thaw, nodup, refsV, adopts]
    exact ⟨_, rfl, rfl, hps⟩
  · have hlp : p0 < n := hn ▸ (List.getElem?_eq_some_iff.1 hp0).1
    have hpo : p0 ≠ o := by rintro rfl; rw [ho] at hp0; cases hp0
    have hbl := basesL_len l
    have Q := o_rules hlp
    have fp := hf_old hp0
    have sp : ∀ (Y : Heap) (x : Ob), (hf H Y).set p0 x = hf (H.set p0 x) Y := fun Y x => hf_setO hn hlp Y x
    have hA : ∀ x : Ob, (H.set p0 x).length = n := fun x => by rw [List.length_set, hn]
    have hA2 : ∀ x y : Ob, ((H.set p0 x).set o y).length = n := fun x y => by rw [List.length_set, List.length_set, hn]
    have fo2 : ∀ (Y : Heap) (x : Ob), (hf (H.set p0 x) Y)[o]? = some (.box (.agg W.cs)) := fun Y x => hf_old (by rw [List.getElem?_set_ne hpo]; exact ho) Y
    have so2 : ∀ (Y : Heap) (x y : Ob), (hf (H.set p0 x) Y).set o y = hf ((H.set p0 x).set o y) Y := fun Y x y => hf_setO (hA x) hlt Y y
    have fo3 : ∀ (Y : Heap) (x y : Ob), (hf ((H.set p0 x).set o y) Y)[o]? = some y := fun Y x y => hf_old (List.getElem?_set_self (by rw [hA]; exact hlt)) Y
    have so3 : ∀ (Y : Heap) (x y z : Ob), (hf ((H.set p0 x).set o y) Y).set o z = hf ((H.set p0 x).set o z) Y := fun Y x y z => by rw [hf_setO (hA2 x y) hlt Y z, List.set_set]
    have pu : ∀ (X Y Z : Heap), hf X Y ++ Z = hf X (Y ++ Z) := hf_push
    have cn : ([n] : List Nat).contains o = false := by simp; omega
    have ln : ∀ (Y : Heap) (x : Ob), (hf (H.set p0 x) Y).length = n + Y.length := fun Y x => hf_len (hA x) Y
    have ln2 : ∀ (Y : Heap) (x y : Ob), (hf ((H.set p0 x).set o y) Y).length = n + Y.length := fun Y x y => hf_len (hA2 x y) Y
    have b1 : (0 ≤ ((m : Nat) : Int) ∧ ((m : Nat) : Int) ≤ ((l.length : Nat) : Int)) = True := eq_true (by omega)
    have e1 : List.take m (l.map Entry.d) = (l.take m).map Entry.d := List.map_take.symm
    have htl : List.take l.length (l.map Entry.d) = l.map Entry.d := List.take_of_length_le (by simp)
    have e2 : subL ((basesL l).map Base.d) 0 m = (basesL (l.take m)).map Base.d := by
      unfold subL
      rw [List.drop_zero, ← List.map_take, basesL_take l m hm]
    have e3 : List.take m ((basesL (l.take m)).map Base.d) = (basesL (l.take m)).map Base.d := List.take_of_length_le (by rw [List.length_map, basesL_len, hElen]; exact Nat.le_refl _)
    have hbl2 := basesL_len (l.take m)
    rw [hElen] at hbl2
    have mk1 := W4.allD (W4.nd_L hnd g (.d (.sl ((l.take m ++ s).map Entry.d))))
    have mk2 := W4.allD (W4.nd_B (W4.nd_L hnd g (.d (.sl ((l.take m ++ s).map Entry.d)))) g (x := .view (n + 1) m 39 0 m) rfl)
    simp (config := {decide := true}) only [c_witness_row_lays, R, N, O, Q, D, U, F, fo, fp, sp, fo2, so2, fo3, so3, pu, ln, ln2, hx, hb, hbl, hbl2, b1, e1, e2, e3, htl, hcat, hcl, mk1, mk2, W4.len, Nat.sub_zero, cn, Entry.all_cells, Pk.EVL, keepT, enum, ↓reduceIte, ev, act, appT, callee, toDs, toD, loadA, storeA, subA, subD, updA, Eff.on, resA, resVs, resV, lk, finish, frzR, frzVs, frzV, fznR, fzns, fzn, lts, lt, ltO, List.all, pairsOk, indep, reduceCtorEq, Nat.reduceEqDiff, Nat.reduceAdd, Nat.reduceLeDiff, stb, thaws, List.drop, intOfA, binD, binI, unD, mmL, buildA, mkAgg, allD, bslD, behind, behind0, takeAt, frzAs, frzA, adoptR, adopt, isD, isD0, trim, List.take, binS, sliceA, bnd, zOk, elems, Nat.reduceBNe, inpl, Nat.reduceLT, Nat.reduceBEq, Nat.reduceSub, Nat.reduceMul, Int.reduceLT, Int.reduceLE, Int.reduceEq, Int.reduceToNat, Int.reduceNeg, thaw, nodup, refsV, adopts, Pk.TY_Entry, Pk.TY_Base]
    simp only [Option.bind_assoc]
    have hAq : ∀ q, q ≠ o → ∀ x, H[q]? = some x → (H.set p0 (.arr ((basesL l).map Base.d) false))[q]? = some x ∨ ∃ es w w', x = .arr es w ∧ (H.set p0 (.arr ((basesL l).map Base.d) false))[q]? = some (.arr es w') := by
      intro q hq x hx
      by_cases hqp : q = p0
      · subst hqp
        rw [hp0] at hx
        injection hx with hx
        subst hx
        exact .inr ⟨_, wr, false, rfl, List.getElem?_set_self (by omega)⟩
      · rw [List.getElem?_set_ne (Ne.symm hqp)]
        exact .inl hx
    have hAok : (H.set p0 (.arr ((basesL l).map Base.d) false)).all (ltO n) = true := by
      have := okH_set hok p0 (x := .arr ((basesL l).map Base.d) false) rfl
      unfold okH at this
      rwa [hA] at this
    refine run_ex (fin (H.set p0 (.arr ((basesL l).map Base.d) false)) _ _ (hA _) hAq hAok ⟨_, _, rfl⟩ rfl rfl rfl rfl _ rfl) ?_
    rintro e T' G ⟨rfl, hG⟩
    have hps := post (H.set p0 (.arr ((basesL l).map Base.d) false)) _ _ G (hA _) hAq rfl hG
    have hnt := not_trim hlt (show n ≤ n + 1 by omega) hg hG.box
    simp (config := {decide := true}) only [hnt, Pk.EVL, keepT, enum, ↓reduceIte, ev, act, appT, callee, toDs, toD, loadA, storeA, subA, subD, updA, Eff.on, resA, resVs, resV, lk, finish, frzR, frzVs, frzV, fznR, fzns, fzn, lts, lt, ltO, List.all, pairsOk, indep, reduceCtorEq, Nat.reduceEqDiff, Nat.reduceAdd, Nat.reduceLeDiff, stb, thaws, List.drop, intOfA, binD, binI, unD, mmL, buildA, mkAgg, allD, bslD, behind, behind0, takeAt, frzAs, frzA, adoptR, adopt, isD, isD0, trim, List.take, binS, sliceA, bnd, zOk, elems, Nat.reduceBNe, inpl, Nat.reduceLT, Nat.reduceBEq, Nat.reduceSub, Nat.reduceMul, Int.reduceLT, Int.reduceLE, Int.reduceEq, Int.reduceToNat, Int.reduceNeg, thaw, nodup, refsV, adopts]
    exact ⟨_, rfl, rfl, hps⟩
end Go.Proofs.YtlihpaegaikoeaaDoor
