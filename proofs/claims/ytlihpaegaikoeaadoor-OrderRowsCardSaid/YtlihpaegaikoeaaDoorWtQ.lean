/- One order: states that go on from one another: the law OrderRows. -/
import Derived.Test.YtlihpaegaikoeaaDoorWtP
set_option linter.all false
namespace Go.Proofs.YtlihpaegaikoeaaDoor
open Pv Go Pk
set_option maxRecDepth 10000
set_option maxHeartbeats 4000000

theorem trim_cases (n : Nat) (vs : List AV) (H : Heap) : trim n vs H = H ∨ (trim n vs H = H.take n ∧ (H.take n).all (ltO n) = true) := by
  unfold trim
  split
  · rename_i h
    rw [Bool.and_eq_true] at h
    exact .inr ⟨rfl, h.2⟩
  · exact .inl rfl
theorem Ord.take {H : Heap} {o : Nat} {L : Nat → Lr} {V : Nat → Prop} (hO : Ord H o L V) {n : Nat} (hn : o < n) (hl : n ≤ H.length) (hall : (H.take n).all (ltO n) = true) : Ord (H.take n) o L V := by
  obtain ⟨hok, W, ho, hnd, hrows⟩ := hO
  have hlen : (H.take n).length = n := by rw [List.length_take]; omega
  have ho' : (H.take n)[o]? = some (.box (.agg W.cs)) := by rw [List.getElem?_take_of_lt hn]; exact ho
  have hok' : okH (H.take n) := by unfold okH; rw [hlen]; exact hall
  refine ⟨hok', W, ho', hnd, fun g hg => ⟨?_, (hrows g hg).2⟩⟩
  rcases (hrows g hg).1 with h | ⟨h1, p, wr, h2, h3⟩
  · exact .inl h
  · refine .inr ⟨h1, p, wr, h2, ?_⟩
    have hlt : W.lt n = true := by have := okH_at hok' ho'; rw [hlen] at this; exact this
    have h4 := ((W4.lt_iff _ _).1 hlt g hg).2
    rw [h2] at h4
    simp only [Pv.lt, decide_eq_true_eq] at h4
    rw [List.getElem?_take_of_lt h4]
    exact h3
theorem Ord.setbox {H : Heap} {o : Nat} {L : Nat → Lr} {V : Nat → Prop} (hO : Ord H o L V) {q : Nat} (hq : q ≠ o) {x y : AV} (hx : H[q]? = some (.box x)) (hy : Pv.lt H.length y = true) : Ord (H.set q (.box y)) o L V := by
  obtain ⟨hok, W, ho, hnd, hrows⟩ := hO
  refine ⟨okH_set hok q hy, W, by rw [List.getElem?_set_ne hq]; exact ho, hnd, fun g hg => ⟨isRow_set hx (hrows g hg).1, (hrows g hg).2⟩⟩

/-- The state's box. -/
def isSv (x : AV) (s : State) : Prop := x = .d (.agg s.cs) ∨ (x = .agg ((stN 1 []).withV .nilS) ∧ s = stN 1 [])
structure RInv (k : Nat) (G : Heap) (E : List Entry) (kk : Nat) : Prop where
  ri : RI E kk
  ord : ∃ L V, Ord G 0 L V ∧ (∀ j, j < 4 → LrOk (L j)) ∧ (∀ j, j < 4 → (L j).l.length ≤ 100) ∧ (∃ st, st ≤ 1 ∧ L k = ⟨E, E.length, st⟩) ∧ ∀ j, j ≠ k → (L j).acked = 0
  s : ∃ x, isSv x (mkSt 1 E kk) ∧ G[1]? = some (.box x)
  b : G[2]? = some (.box (.d (.agg (baseOf E).cs)))
theorem RInv.trim {k : Nat} {H : Heap} {E : List Entry} {kk : Nat} (h : RInv k H E kk) {n : Nat} (hn : 3 ≤ n) (hl : n ≤ H.length) (vs : List AV) : RInv k (trim n vs H) E kk := by
  rcases trim_cases n vs H with e | ⟨e, hall⟩
  · rw [e]; exact h
  · rw [e]
    obtain ⟨h1, ⟨L, V, hO, h2⟩, ⟨x, hx, h3⟩, h4⟩ := h
    exact ⟨h1, ⟨L, V, hO.take (by omega) hl hall, h2⟩, ⟨x, hx, by rw [List.getElem?_take_of_lt (by omega)]; exact h3⟩, by rw [List.getElem?_take_of_lt (by omega)]; exact h4⟩

theorem rows_round {k : Nat} (hk : k < 4) {G : Heap} {E : List Entry} {kk : Nat} (hI : RInv k G E kk) (hE : E.length ≤ 50) {l : List Opr} (hl : ∀ x ∈ l, x.ok) (wrong : Int) (hwr : 0 ≤ wrong ∧ wrong < 256) {i : Nat} (hi : i < l.length) (h25 : l.length ≤ 25) :
    ∃ e T' H', evC C l_paddocklaw23_OrderRows_0 [(1, .d (.sl (l.map Opr.d))), (2, .d (.i .u8 wrong)), (7, .d (.i .u8 (k : Int))), (8, .ptr 0 0), (9, .ptr 1 0), (10, .ptr 2 0), (11, .d (.i .u32 (E.length : Int))), (12, .d (.i .i64 (i : Int)))] G = some (e, T', H') ∧
      e = .nrm ∧ lk T' 1 = .d (.sl (l.map Opr.d)) ∧ lk T' 2 = .d (.i .u8 wrong) ∧ lk T' 7 = .d (.i .u8 (k : Int)) ∧ lk T' 8 = .ptr 0 0 ∧ lk T' 9 = .ptr 1 0 ∧ lk T' 10 = .ptr 2 0 ∧ lk T' 12 = .d (.i .i64 ((i + 1 : Nat) : Int)) ∧ G.length ≤ H'.length ∧
      ∃ E' kk', RInv k H' E' kk' ∧ E'.length ≤ E.length + 1 ∧ lk T' 11 = .d (.i .u32 (E'.length : Int)) := by
  have hI0 := hI
  obtain ⟨hri, ⟨L, V, hO, hLok, hLl, ⟨st, hst, hLk⟩, hLj⟩, ⟨x, hx, hGs⟩, hGb⟩ := hI
  obtain ⟨o, ho⟩ : ∃ o, l[i]? = some o := ⟨l[i], List.getElem?_eq_getElem hi⟩
  have hoo := hl o (List.mem_of_getElem? ho)
  have hd : decide ((i : Int) < ((l.length : Nat) : Int)) = true := by simp; omega
  have hw : IntKind.i64.wrap ((i : Int) + 1) = ((i + 1 : Nat) : Int) := wi64 (by omega)
  have b0 : (0 ≤ (i : Int)) = True := by simp
  have hxo := list_idx Opr.d ho
  have hwt := writes_at o
  have hgr := group_at o.obj
  obtain ⟨hg1, hg2⟩ := grpN_eq o.obj
  rw [hg1] at hgr
  rcases Bool.eq_false_or_eq_true (writes o) with c1 | c1
  case inr =>
    simp (config := {decide := true}) only [l_paddocklaw23_OrderRows_0, hd, hw, b0, hxo, hwt, c1, Pk.EVL, keepT, enum, ↓reduceIte, ev, act, appT, callee, toDs, toD, loadA, storeA, subA, subD, updA, Eff.on, resA, resVs, resV, lk, finish, frzR, frzVs, frzV, fznR, fzns, fzn, lts, lt, ltO, List.all, pairsOk, indep, reduceCtorEq, Nat.reduceEqDiff, Nat.reduceAdd, Nat.reduceLeDiff, stb, thaws, List.drop, intOfA, binD, binI, unD, mmL, buildA, mkAgg, allD, bslD, behind, behind0, takeAt, frzAs, frzA, adoptR, adopt, isD, isD0, trim, List.take, binS, sliceA, bnd, zOk, elems, Nat.reduceBNe, inpl, Nat.reduceLT, Nat.reduceBEq, Nat.reduceSub, Nat.reduceMul, Int.reduceLT, Int.reduceLE, Int.reduceEq, Int.reduceToNat, Int.reduceNeg, thaw, nodup, refsV, adopts, Pk.TY_Opr]
    exact ⟨_, _, _, rfl, rfl, rfl, rfl, rfl, rfl, rfl, rfl, rfl, Nat.le_refl _, E, kk, hI0, by omega, rfl⟩
  rcases Bool.eq_false_or_eq_true (((grpN o.obj : Nat) : Int) == (k : Int)) with c2 | c2
  case inr =>
    simp (config := {decide := true}) only [l_paddocklaw23_OrderRows_0, hd, hw, b0, hxo, hwt, hgr, c1, c2, Pk.EVL, keepT, enum, ↓reduceIte, ev, act, appT, callee, toDs, toD, loadA, storeA, subA, subD, updA, Eff.on, resA, resVs, resV, lk, finish, frzR, frzVs, frzV, fznR, fzns, fzn, lts, lt, ltO, List.all, pairsOk, indep, reduceCtorEq, Nat.reduceEqDiff, Nat.reduceAdd, Nat.reduceLeDiff, stb, thaws, List.drop, intOfA, binD, binI, unD, mmL, buildA, mkAgg, allD, bslD, behind, behind0, takeAt, frzAs, frzA, adoptR, adopt, isD, isD0, trim, List.take, binS, sliceA, bnd, zOk, elems, Nat.reduceBNe, inpl, Nat.reduceLT, Nat.reduceBEq, Nat.reduceSub, Nat.reduceMul, Int.reduceLT, Int.reduceLE, Int.reduceEq, Int.reduceToNat, Int.reduceNeg, thaw, nodup, refsV, adopts, Pk.TY_Opr]
    exact ⟨_, _, _, rfl, rfl, rfl, rfl, rfl, rfl, rfl, rfl, rfl, Nat.le_refl _, E, kk, hI0, by omega, rfl⟩
  have hgk : grpN o.obj = k := by have : ((grpN o.obj : Nat) : Int) = (k : Int) := by simpa using c2
                                  omega
  -- an operation of the group that writes
  have hl100 : E.length ≤ 100 := by omega
  obtain ⟨n, hn⟩ : ∃ n, G.length = n := ⟨_, rfl⟩
  have R := hf_rules hn
  have N := n_rules n
  have h0n : 0 < n := by have := (List.getElem?_eq_some_iff.1 hGb).1; omega
  have h1n : 1 < n := by have := (List.getElem?_eq_some_iff.1 hGb).1; omega
  have h2n : 2 < n := by have := (List.getElem?_eq_some_iff.1 hGb).1; omega
  have O0 := o_rules h0n
  have O1 := o_rules h1n
  have O2 := o_rules h2n
  have fs := hf_old hGs
  have fb := hf_old hGb
  have pg : ∀ x, G ++ [x] = hf G [x] := fun _ => rfl
  have wn : IntKind.u32.wrap ((E.length : Int) + 1) = ((E.length + 1 : Nat) : Int) := by rw [show (E.length : Int) + 1 = ((E.length + 1 : Nat) : Int) by omega]; exact wu32 (by omega)
  have hnok := nextO_ok hl100 (E := E) hoo
  have hdo := doOp_at (baseOf E) (nextO E o) (base_fit hri.good.ok) hnok
  have hcode := rows_code hri c1
  have hres := rows_res hri c1
  have hadd := add_at (mkSt 1 E kk) (nextEn E o) (mk_ok 1 hri.good hri.le).log hnok
  rw [rows_add hri hl100 c1] at hadd
  have hN := RI_next hri hl100 c1 hoo
  have sok := mk_ok 1 hN.good hN.le
  have bOf : baseOf (E ++ [nextEn E o]) = (doOp (baseOf E) (nextO E o)).1 := by rw [baseOf_snoc]; rfl
  have hsee := rows_see hri hl100 c1 hoo hk rfl hst hLk
  have htook := fun r => rows_took hri hl100 c1 hoo (L := updL L k ⟨E ++ [nextEn E o], E.length, 1⟩) hgk rfl (st := 1) (if_pos rfl) r
  have hE1 : (E ++ [nextEn E o]).length = E.length + 1 := by rw [List.length_append]; rfl
  have hO0 := hO
  generalize hP : doOp (baseOf E) (nextO E o) = P at *
  generalize hT : mkSt 1 (E ++ [nextEn E o]) (nextK E kk) = t at *
  have hY : okH (hf G [.box (.d (.agg (nextO E o).cs)), .box (.d (.agg P.1.cs)), .box (.d (.agg P.2.cs)), .box (.d (.agg t.cs))]) := by rw [hf_ok hn hO.1]; rfl
  obtain ⟨⟨v1, G1⟩, hs1, hv1, hO1, hf1⟩ := see_at (hO.hf hY) hLok k (by omega) t sok
  obtain ⟨ok1, len1, -, -⟩ := seeL_ok (M := 100) hLok (g := k) sok (by omega) hLl
  dsimp only at hv1 hO1 hf1
  rw [hsee] at hv1 hO1 ok1
  dsimp only at hv1 hO1 ok1
  have len1' : ∀ j, j < 4 → ((updL L k ⟨E ++ [nextEn E o], E.length, 1⟩) j).l.length ≤ 100 := fun j hj => by
    dsimp only [updL]
    split
    · dsimp only; omega
    · exact hLl j hj
  subst hv1
  have g1 : (n + 4 ≤ G1.length) = True := eq_true (by have := hf1.1; rw [hf_len hn] at this; exact this)
  have b1s := hf1.box (by omega) (fs [.box (.d (.agg (nextO E o).cs)), .box (.d (.agg P.1.cs)), .box (.d (.agg P.2.cs)), .box (.d (.agg t.cs))])
  have b1b := hf1.box (by omega) (fb [.box (.d (.agg (nextO E o).cs)), .box (.d (.agg P.1.cs)), .box (.d (.agg P.2.cs)), .box (.d (.agg t.cs))])
  have b1o : G1[n]? = some (.box (.d (.agg (nextO E o).cs))) := hf1.box (by omega) (by rw [hf_at0 hn]; rfl)
  have b1c : G1[n + 1]? = some (.box (.d (.agg P.1.cs))) := hf1.box (by omega) (by rw [hf_at hn]; rfl)
  have b1r : G1[n + 2]? = some (.box (.d (.agg P.2.cs))) := hf1.box (by omega) (by rw [hf_at hn]; rfl)
  have b1t : G1[n + 3]? = some (.box (.d (.agg t.cs))) := hf1.box (by omega) (by rw [hf_at hn]; rfl)
  obtain ⟨m, hm⟩ : ∃ m, G1.length = m := ⟨_, rfl⟩
  rw [hm] at g1
  have hmn : n + 4 ≤ m := of_eq_true g1
  -- the state and the base are stored
  have hO2 := (hO1.setbox (q := 1) (by omega) b1s (y := .d (.agg t.cs)) rfl).setbox (q := 2) (by omega) (by rw [List.getElem?_set_ne (by omega)]; exact b1b) (y := .d (.agg P.1.cs)) rfl
  have b2s : ((G1.set 1 (.box (.d (.agg t.cs)))).set 2 (.box (.d (.agg P.1.cs))))[1]? = some (.box (.d (.agg t.cs))) := by rw [List.getElem?_set_ne (by omega)]; exact List.getElem?_set_self (by omega)
  have b2b : ((G1.set 1 (.box (.d (.agg t.cs)))).set 2 (.box (.d (.agg P.1.cs))))[2]? = some (.box (.d (.agg P.1.cs))) := List.getElem?_set_self (by rw [List.length_set]; omega)
  have b2o : ((G1.set 1 (.box (.d (.agg t.cs)))).set 2 (.box (.d (.agg P.1.cs))))[n]? = some (.box (.d (.agg (nextO E o).cs))) := by rw [List.getElem?_set_ne (by omega), List.getElem?_set_ne (by omega)]; exact b1o
  have b2r : ((G1.set 1 (.box (.d (.agg t.cs)))).set 2 (.box (.d (.agg P.1.cs))))[n + 2]? = some (.box (.d (.agg P.2.cs))) := by rw [List.getElem?_set_ne (by omega), List.getElem?_set_ne (by omega)]; exact b1r
  have hset1 : ∀ y, (G1.set 1 y)[2]? = some (.box (.d (.agg (baseOf E).cs))) := fun y => by rw [List.getElem?_set_ne (by omega)]; exact b1b
  have hm2 : ((G1.set 1 (.box (.d (.agg t.cs)))).set 2 (.box (.d (.agg P.1.cs)))).length = m := by rw [List.length_set, List.length_set, hm]
  generalize hG2 : (G1.set 1 (.box (.d (.agg t.cs)))).set 2 (.box (.d (.agg P.1.cs))) = G2 at *
  -- the wrong answer
  obtain ⟨w3, hw3, hw30⟩ : ∃ w3 : Int, wrong.tmod 3 = w3 ∧ (0 ≤ w3 ∧ w3 ≤ 2) := by
    have h1 := Int.tmod_nonneg 3 hwr.1
    have h2 := Int.tmod_lt_of_pos wrong (show (0 : Int) < 3 by omega)
    exact ⟨_, rfl, by omega⟩
  have q1 : IntKind.u8.wrap (P.2.code + 1) = P.2.code + 1 := by rw [show P.2.code + 1 = (((P.2.code + 1).toNat : Nat) : Int) by omega]; exact wu8 (by omega)
  have q2 : IntKind.u8.wrap (P.2.code + 1 + w3) = P.2.code + 1 + w3 := by rw [show P.2.code + 1 + w3 = (((P.2.code + 1 + w3).toNat : Nat) : Int) by omega]; exact wu8 (by omega)
  obtain ⟨bc, hbc, hne⟩ : ∃ bc : Int, (P.2.code + 1 + w3).tmod 4 = bc ∧ bc ≠ P.2.code := by
    refine ⟨_, rfl, ?_⟩
    rw [Int.tmod_eq_emod_of_nonneg (by omega)]
    omega
  have hbad := htook ⟨bc, P.2.data⟩
  rw [if_neg (by intro h; exact hne (by rw [h]))] at hbad
  have hgood := htook P.2
  rw [if_pos rfl] at hgood
  have hY2 : okH (hf G2 [.box (.d (.agg (Res.mk bc P.2.data).cs))]) := by rw [hf_ok hm2 hO2.1]; rfl
  obtain ⟨⟨v3, G3⟩, hs3, hv3, hO3, hf3⟩ := took_at (hO2.hf hY2) ok1 ⟨nextO E o, ⟨bc, P.2.data⟩⟩ hnok
  dsimp only at hv3 hO3 hf3
  rw [hbad] at hv3 hO3
  dsimp only at hv3 hO3
  subst hv3
  have g3 : (m + 1 ≤ G3.length) = True := eq_true (by have := hf3.1; rw [hf_len hm2] at this; exact this)
  have b3s := hf3.box (by omega) (hf_old b2s _)
  have b3b := hf3.box (by omega) (hf_old b2b _)
  have b3o := hf3.box (by omega) (hf_old b2o _)
  have b3r := hf3.box (by omega) (hf_old b2r _)
  obtain ⟨⟨v4, G4⟩, hs4, hv4, hO4, hf4⟩ := took_at hO3 ok1 ⟨nextO E o, P.2⟩ hnok
  obtain ⟨ok4, len4, -, -⟩ := tookL_ok ok1 ⟨nextO E o, P.2⟩
  dsimp only at hv4 hO4 hf4
  rw [hgood] at hv4 hO4 ok4 len4
  dsimp only at hv4 hO4 ok4 len4
  subst hv4
  have g4 : (G3.length ≤ G4.length) = True := eq_true hf4.1
  have b4s := hf4.box (by omega) b3s
  have b4b := hf4.box (by omega) b3b
  have hak : evF C F_witness_Order_Acked [.ptr 0 0, .d (.i .u8 (k : Int))] G4 = some (.d (.i .u32 ((E.length + 1 : Nat) : Int)), G4) := by
    have := acked_at hO4 k
    rw [if_pos hk] at this
    have e1 : updL (updL L k ⟨E ++ [nextEn E o], E.length, 1⟩) k ⟨E ++ [nextEn E o], E.length + 1, 1⟩ k = ⟨E ++ [nextEn E o], E.length + 1, 1⟩ := if_pos rfl
    rw [e1] at this
    exact this
  have R2 := hf_rules hm2
  have h0m : 0 < m := by omega
  have hnm : n < m := by omega
  have hn2m : n + 2 < m := by omega
  have Om := o_rules hnm
  have Om2 := o_rules hn2m
  have pg2 : ∀ x, G2 ++ [x] = hf G2 [x] := fun _ => rfl
  have f2o := hf_old b2o
  have f2r := hf_old b2r
  have an : ∀ (o : Opr) (r : Res), upd (List.map AV.d o.cs ++ [.d (.i .u8 0), .d (.s ⟨#[]⟩)]) 6 (List.map AV.d r.cs) = List.map AV.d (Ans.mk o r).cs := fun _ _ => rfl
  have anl : ∀ (o : Opr), (List.map AV.d o.cs ++ [AV.d (.i .u8 0), AV.d (.s ⟨#[]⟩)]).length = 8 := fun _ => rfl
  have eno : ({ client := 1, seq := ((E.length + 1 : Nat) : Int), kind := o.kind, obj := o.obj, at_ := o.at_, data := o.data } : Opr) = nextO E o := rfl
  have eno2 : ({ o with client := 1, seq := ((E.length + 1 : Nat) : Int) } : Opr) = nextO E o := rfl
  have een : (Entry.mk 1 ((E.length + 1 : Nat) : Int) (nextO E o)) = nextEn E o := rfl
  have wV : upd ((stN 1 []).withV .nilS) 0 (t.cs.map .d) = t.cs.map .d := rfl
  have tk48 : (stN 1 []).cs.take 48 ++ [.sl []] = (stN 1 []).cs := rfl
  have cbase : (((E.length + 1 : Nat) : Int) != ((E.length + 1 : Nat) : Int)) = false := by simp
  have fin : RInv k G4 (E ++ [nextEn E o]) (nextK E kk) := by
    refine ⟨hN, ⟨_, _, hO4, ok4, fun j hj => ?_, ⟨1, by omega, ?_⟩, fun j hj => ?_⟩, ⟨.d (.agg t.cs), .inl (by rw [hT]), b4s⟩, by rw [bOf]; exact b4b⟩
    · rw [len4]
      exact (len1' j hj)
    · rw [hE1]
      exact if_pos rfl
    · dsimp only [updL]
      rw [if_neg hj, if_neg hj]
      exact hLj j hj
  have hlen : n ≤ G4.length := by have := of_eq_true g4; have := of_eq_true g3; omega
  rcases hx with rfl | ⟨rfl, hx2⟩
  · simp (config := {decide := true}) only [l_paddocklaw23_OrderRows_0, hd, hw, b0, hxo, hwt, hgr, c1, c2, R, N, O0, O1, O2, fs, fb, pg, wn, hdo, hadd, eno, eno2, een, hs1, g1, b1s, b1b, b1o, b1c, b1r, b1t, hset1, hG2, hn, hm2, b2o, b2r, q1, q2, hw3, hbc, pg2, f2o, f2r, R2, Om, Om2, an_f0, an, anl, hs3, hs4, g3, g4, b3o, b3r, hak, hm, Pk.EVL, keepT, enum, ↓reduceIte, ev, act, appT, callee, toDs, toD, loadA, storeA, subA, subD, updA, Eff.on, resA, resVs, resV, lk, finish, frzR, frzVs, frzV, fznR, fzns, fzn, lts, lt, ltO, List.all, pairsOk, indep, reduceCtorEq, Nat.reduceEqDiff, Nat.reduceAdd, Nat.reduceLeDiff, stb, thaws, List.drop, intOfA, binD, binI, unD, mmL, buildA, mkAgg, allD, bslD, behind, behind0, takeAt, frzAs, frzA, adoptR, adopt, isD, isD0, trim, List.take, binS, sliceA, bnd, zOk, elems, Nat.reduceBNe, inpl, Nat.reduceLT, Nat.reduceBEq, Nat.reduceSub, Nat.reduceMul, Int.reduceLT, Int.reduceLE, Int.reduceEq, Int.reduceToNat, Int.reduceNeg, thaw, nodup, refsV, adopts, Pk.TY_Opr, Pk.TY_Entry, Pk.TY_State, Pk.TY_Res, Pk.TY_Base, Pk.TY_Ans]
    exact ⟨_, _, _, rfl, rfl, rfl, rfl, rfl, rfl, rfl, rfl, rfl, hlen, _, _, fin, by omega, by rw [hE1]; rfl⟩
  · rw [hx2] at hadd
    simp (config := {decide := true}) only [l_paddocklaw23_OrderRows_0, hd, hw, b0, hxo, hwt, hgr, c1, c2, R, N, O0, O1, O2, fs, fb,  pg, wn, hdo, hadd, stN_3, wV, tk48,  eno, eno2, een, hs1, g1, b1s, b1b, b1o, b1c, b1r, b1t, hset1, hG2, hn, hm2, b2o, b2r, q1, q2, hw3, hbc, pg2, f2o, f2r, R2, Om, Om2, an_f0, an, anl, hs3, hs4, g3, g4, b3o, b3r, hak, hm, Pk.EVL, keepT, enum, ↓reduceIte, ev, act, appT, callee, toDs, toD, loadA, storeA, subA, subD, updA, Eff.on, resA, resVs, resV, lk, finish, frzR, frzVs, frzV, fznR, fzns, fzn, lts, lt, ltO, List.all, pairsOk, indep, reduceCtorEq, Nat.reduceEqDiff, Nat.reduceAdd, Nat.reduceLeDiff, stb, thaws, List.drop, intOfA, binD, binI, unD, mmL, buildA, mkAgg, allD, bslD, behind, behind0, takeAt, frzAs, frzA, adoptR, adopt, isD, isD0, trim, List.take, binS, sliceA, bnd, zOk, elems, Nat.reduceBNe, inpl, Nat.reduceLT, Nat.reduceBEq, Nat.reduceSub, Nat.reduceMul, Int.reduceLT, Int.reduceLE, Int.reduceEq, Int.reduceToNat, Int.reduceNeg, thaw, nodup, refsV, adopts, Pk.TY_Opr, Pk.TY_Entry, Pk.TY_State, Pk.TY_Res, Pk.TY_Base, Pk.TY_Ans]
    exact ⟨_, _, _, rfl, rfl, rfl, rfl, rfl, rfl, rfl, rfl, rfl, hlen, _, _, fin, by omega, by rw [hE1]; rfl⟩
end Go.Proofs.YtlihpaegaikoeaaDoor
