/- The law ObjectsBytes (UNFINISHED: the round of the outer loop holds a sorry). -/
import Derived.Test.YtclambdgbphfkaaObjLaw
import Derived.Test.YtclambdgbphfkaaObjBytesR
set_option linter.all false
namespace Go.Proofs.Ytclambdgbphfkaa
open Pv Go Pk
set_option maxRecDepth 10000
set_option maxHeartbeats 2000000
/-- What the law's own slice is in the heap. -/
def sliceAt (H : Heap) (v : AV) (d : ByteArray) : Prop := (v = .nilS ∧ d = ⟨#[]⟩) ∨ ∃ p, 0 < p ∧ v = .view p d.size 1 0 d.size ∧ H[p]? = some (.arr (bsD d) true)
theorem lts_mem {n : Nat} : ∀ {vs : List AV} {v : AV}, v ∈ vs → lts n vs = true → lt n v = true
  | x :: r, v, h, hl => by
    simp only [lts, Bool.and_eq_true] at hl
    rcases List.mem_cons.1 h with rfl | h
    · exact hl.1
    · exact lts_mem h hl.2
theorem trim_slice {n : Nat} {vs : List AV} {x : Ob} {J : Heap} {v : AV} {d : ByteArray} (hn : 0 < n) (hv : v ∈ vs) (h : sliceAt (x :: J) v d) : ∃ J', trim n vs (x :: J) = x :: J' ∧ sliceAt (x :: J') v d := by
  obtain ⟨m, rfl⟩ : ∃ m, n = m + 1 := ⟨n - 1, by omega⟩
  unfold trim
  split
  · rename_i hc
    rw [Bool.and_eq_true] at hc
    refine ⟨J.take m, rfl, ?_⟩
    rcases h with h | ⟨p, h0, h1, h2⟩
    · exact .inl h
    · have := lts_mem hv hc.1
      rw [h1] at this
      have hp : p < m + 1 := by simpa [lt] using this
      refine .inr ⟨p, h0, h1, ?_⟩
      show ((x :: J).take (m + 1))[p]? = _
      rw [List.getElem?_take_of_lt hp]
      exact h2
  · exact ⟨J, rfl, h⟩
theorem slice_app {x : Ob} {J : Heap} {v : AV} {d : ByteArray} (h : sliceAt (x :: J) v d) (X : Heap) : sliceAt (x :: (J ++ X)) v d := by
  rcases h with h | ⟨p, h0, h1, h2⟩
  · exact .inl h
  · refine .inr ⟨p, h0, h1, ?_⟩
    show ((x :: J) ++ X)[p]? = _
    rw [List.getElem?_append_left (List.getElem?_eq_some_iff.1 h2).1]
    exact h2
theorem tail_facts {K0 J2 : Heap} {q n : Nat} {d e : List DV} {x y : Ob} (hq : K0[q]? = some (.arr d true)) (h1 : K0[n]? = some x) (h2 : K0[n + 1]? = some y) (n1 : q ≠ n) (n2 : q ≠ n + 1) :
    (K0.set q (.arr e true) ++ J2)[q]? = some (.arr e true) ∧ (K0.set q (.arr e true) ++ J2)[n]? = some x ∧ (∀ z, ((K0.set q (.arr e true) ++ J2).set q z)[n + 1]? = some y) ∧ (∀ z, ((K0.set q (.arr e true) ++ J2).set q z)[q]? = some z) ∧ (K0.set q (.arr e true) ++ J2)[n + 1]? = some y := by
  have hl : q < K0.length := (List.getElem?_eq_some_iff.1 hq).1
  have hl1 : n < K0.length := (List.getElem?_eq_some_iff.1 h1).1
  have hl2 : n + 1 < K0.length := (List.getElem?_eq_some_iff.1 h2).1
  have e5 : (K0.set q (.arr e true) ++ J2)[n + 1]? = some y := by rw [List.getElem?_append_left (by simpa using hl2), List.getElem?_set_ne n2]; exact h2
  refine ⟨?_, ?_, fun z => ?_, fun z => ?_, e5⟩
  · rw [List.getElem?_append_left (by simpa using hl), List.getElem?_set_self hl]
  · rw [List.getElem?_append_left (by simpa using hl1), List.getElem?_set_ne n1]; exact h1
  · rw [List.getElem?_set_ne n2]; exact e5
  · rw [List.getElem?_set_self (by simp; omega)]
theorem bytes_law (l : List Opr) (hl : ∀ o ∈ l, o.ok) : evF C F_paddocklaw6_ObjectsBytes [.d (.sl (l.map Opr.d))] [] = some (.d (.b true), []) := by
  rw [evF_code (rfl : C F_paddocklaw6_ObjectsBytes = some a_paddocklaw6_ObjectsBytes) _ _ rfl]
  rcases Bool.eq_false_or_eq_true (decide (((l.length : Nat) : Int) > 40)) with cl | cl
  · simp (config := {decide := true}) only [c_paddocklaw6_ObjectsBytes, known_at, cl, Pk.EVL, keepT, enum, ↓reduceIte, ev, act, appT, callee, toDs, toD, loadA, storeA, subA, subD, updA, Eff.on, resA, resVs, resV, lk, finish, frzR, frzVs, frzV, fznR, fzns, fzn, lts, lt, ltO, List.all, pairsOk, indep, reduceCtorEq, Nat.reduceEqDiff, Nat.reduceAdd, Nat.reduceLeDiff, stb, thaws, List.drop, intOfA, binD, binI, unD, mmL, buildA, mkAgg, allD, behind, behind0, takeAt, frzAs, frzA, adoptR, adopt, isD, isD0, trim, List.take, binS, sliceA, bnd, zOk, elems, Nat.reduceBNe, inpl, Nat.reduceLT, Nat.reduceBEq, Nat.reduceSub, Nat.reduceMul, Int.reduceLT, Int.reduceLE, Int.reduceEq, Int.reduceToNat, Int.reduceNeg, thaw, nodup, refsV, adopts, Pk.TY_Base]
  have hlen : l.length ≤ 40 := by have := of_decide_eq_false cl; omega
  simp (config := {decide := true}) only [c_paddocklaw6_ObjectsBytes, known_at, cl, thaws, thaw, Pk.EVL, keepT, enum, ↓reduceIte, ev, act, appT, callee, toDs, toD, loadA, storeA, subA, subD, updA, Eff.on, resA, resVs, resV, lk, finish, frzR, frzVs, frzV, fznR, fzns, fzn, lts, lt, ltO, List.all, pairsOk, indep, reduceCtorEq, Nat.reduceEqDiff, Nat.reduceAdd, Nat.reduceLeDiff, stb, thaws, List.drop, intOfA, binD, binI, unD, mmL, buildA, mkAgg, allD, behind, behind0, takeAt, frzAs, frzA, adoptR, adopt, isD, isD0, trim, List.take, binS, sliceA, bnd, zOk, elems, Nat.reduceBNe, inpl, Nat.reduceLT, Nat.reduceBEq, Nat.reduceSub, Nat.reduceMul, Int.reduceLT, Int.reduceLE, Int.reduceEq, Int.reduceToNat, Int.reduceNeg, thaw, nodup, refsV, adopts, Pk.TY_Base]
  simp only [Option.bind_assoc]
  refine bind_run (loop_run (fun i T H => lk T 0 = .d (.sl (l.map Opr.d)) ∧ lk T 3 = .ptr 0 0 ∧ lk T 6 = .d (.i .i64 (i : Nat)) ∧ ∃ b th d J, lk T 5 = .d (.b th) ∧ H = .box (.d (.agg (Base.cs b))) :: J ∧ sliceAt H (lk T 4) d ∧ Base.fit b ∧ (b.last.get 0).seq ≤ (i : Int) ∧ (b.objs.get 2).there = th ∧ (b.objs.get 2).data = d ∧ (th = false → d = ⟨#[]⟩))
    (fun e T H => e = .exit 0) l.length ?_ ?_ l.length 0 _ _ (by omega) ⟨rfl, rfl, rfl, Base.zero, false, ⟨#[]⟩, [.arr [] true], rfl, rfl, .inr ⟨1, by omega, rfl, rfl⟩, zero_fit, by decide, rfl, rfl, fun _ => rfl⟩) ?_
  · rintro i T H hi ⟨h0, h3, h6, b, th, d, J, h5, rfl, hsl, hbf, hq, hth, hda, hem⟩
    obtain ⟨J', hJ, hsl'⟩ := trim_slice (n := 2) (vs := (keepT K_paddocklaw6_ObjectsBytes_2 T).map (·.2)) (by omega) (by simp [keepT, K_paddocklaw6_ObjectsBytes_2]) hsl
    rw [hJ]
    clear hJ hsl
    obtain ⟨o, ho'⟩ : ∃ o, l[i]? = some o := ⟨l[i]'hi, List.getElem?_eq_getElem _⟩
    have hx := list_idx Opr.d ho'
    have hoo : o.ok := hl o (List.mem_of_getElem? ho')
    have hd : decide ((i : Int) < ((l.length : Nat) : Int)) = true := by simp; omega
    have hw : IntKind.i64.wrap ((i : Int) + 1) = ((i + 1 : Nat) : Int) := wi64 (by omega)
    have hw1 : IntKind.u32.wrap (i : Int) = (i : Int) := wu32 (by omega)
    have hw2 : IntKind.u32.wrap ((i : Int) + 1) = ((i + 1 : Nat) : Int) := wu32 (by omega)
    have b0 : (0 ≤ (i : Int)) = True := by simp
    have hio := isOp_at (bOp o i)
    have hbo : bOp o i = ⟨1, ((i + 1 : Nat) : Int), o.kind, 2, o.at_, o.data⟩ := rfl
    rw [hbo] at hio
    have nb : ∀ x y : Int, (x != y) = !(x == y) := fun _ _ => rfl
    have hq' : (b.last.get 0).seq ≤ ((i + 1 : Nat) : Int) := by omega
    have yl : ∀ x : Ob, (J' ++ [x])[J'.length]? = some x := fun x => by simp
    have ys : ∀ x y : Ob, (J' ++ [x]).set J'.length y = J' ++ [y] := fun x y => by simp
    rcases Bool.eq_false_or_eq_true (o.kind == 1 || (o.kind == 2 || o.kind == 4)) with ck | ck
    case inr =>
      simp only [Bool.or_eq_false_iff] at ck
      obtain ⟨k1, k2, k4⟩ := ck
      simp (config := {decide := true}) only [K_paddocklaw6_ObjectsBytes_2, l_paddocklaw6_ObjectsBytes_2, h0, h3, h5, h6, hx, hd, hw, hw1, hw2, b0, nb, k1, k2, k4, yl, ys, Bool.not_false, guardR_und, Pk.EVL, keepT, enum, ↓reduceIte, ev, act, appT, callee, toDs, toD, loadA, storeA, subA, subD, updA, Eff.on, resA, resVs, resV, lk, finish, frzR, frzVs, frzV, fznR, fzns, fzn, lts, lt, ltO, List.all, pairsOk, indep, reduceCtorEq, Nat.reduceEqDiff, Nat.reduceAdd, Nat.reduceLeDiff, stb, thaws, List.drop, intOfA, binD, binI, unD, mmL, buildA, mkAgg, allD, behind, behind0, takeAt, frzAs, frzA, adoptR, adopt, isD, isD0, trim, List.take, binS, sliceA, bnd, zOk, elems, Nat.reduceBNe, inpl, Nat.reduceLT, Nat.reduceBEq, Nat.reduceSub, Nat.reduceMul, Int.reduceLT, Int.reduceLE, Int.reduceEq, Int.reduceToNat, Int.reduceNeg, thaw, nodup, refsV, adopts, Pk.TY_Base, Pk.TY_Opr]
      refine ⟨_, _, _, rfl, ?_⟩
      exact .inl ⟨rfl, rfl, rfl, rfl, b, th, d, _, rfl, rfl, slice_app hsl' _, hbf, hq', hth, hda, hem⟩
    have hkk : o.kind = 1 ∨ o.kind = 2 ∨ o.kind = 4 := by simpa using ck
    clear ck
    rcases Bool.eq_false_or_eq_true (isOp ⟨1, ((i + 1 : Nat) : Int), o.kind, 2, o.at_, o.data⟩) with co | co
    case inr =>
      rw [co] at hio
      rcases hkk with h | h | h
      · have k1 : (o.kind == 1) = true := by rw [h]; rfl
        simp (config := {decide := true}) only [K_paddocklaw6_ObjectsBytes_2, l_paddocklaw6_ObjectsBytes_2, h0, h3, h5, h6, hx, hd, hw, hw1, hw2, b0, nb, k1, hio, yl, ys, Bool.not_false, Bool.not_true, guardR_und, Pk.EVL, keepT, enum, ↓reduceIte, ev, act, appT, callee, toDs, toD, loadA, storeA, subA, subD, updA, Eff.on, resA, resVs, resV, lk, finish, frzR, frzVs, frzV, fznR, fzns, fzn, lts, lt, ltO, List.all, pairsOk, indep, reduceCtorEq, Nat.reduceEqDiff, Nat.reduceAdd, Nat.reduceLeDiff, stb, thaws, List.drop, intOfA, binD, binI, unD, mmL, buildA, mkAgg, allD, behind, behind0, takeAt, frzAs, frzA, adoptR, adopt, isD, isD0, trim, List.take, binS, sliceA, bnd, zOk, elems, Nat.reduceBNe, inpl, Nat.reduceLT, Nat.reduceBEq, Nat.reduceSub, Nat.reduceMul, Int.reduceLT, Int.reduceLE, Int.reduceEq, Int.reduceToNat, Int.reduceNeg, thaw, nodup, refsV, adopts, Pk.TY_Base, Pk.TY_Opr]
        refine ⟨_, _, _, rfl, ?_⟩
        exact .inl ⟨rfl, rfl, rfl, rfl, b, th, d, _, rfl, rfl, slice_app hsl' _, hbf, hq', hth, hda, hem⟩
      · have k1 : (o.kind == 1) = false := by rw [h]; rfl
        have k2 : (o.kind == 2) = true := by rw [h]; rfl
        simp (config := {decide := true}) only [K_paddocklaw6_ObjectsBytes_2, l_paddocklaw6_ObjectsBytes_2, h0, h3, h5, h6, hx, hd, hw, hw1, hw2, b0, nb, k1, k2, hio, yl, ys, Bool.not_false, Bool.not_true, guardR_und, Pk.EVL, keepT, enum, ↓reduceIte, ev, act, appT, callee, toDs, toD, loadA, storeA, subA, subD, updA, Eff.on, resA, resVs, resV, lk, finish, frzR, frzVs, frzV, fznR, fzns, fzn, lts, lt, ltO, List.all, pairsOk, indep, reduceCtorEq, Nat.reduceEqDiff, Nat.reduceAdd, Nat.reduceLeDiff, stb, thaws, List.drop, intOfA, binD, binI, unD, mmL, buildA, mkAgg, allD, behind, behind0, takeAt, frzAs, frzA, adoptR, adopt, isD, isD0, trim, List.take, binS, sliceA, bnd, zOk, elems, Nat.reduceBNe, inpl, Nat.reduceLT, Nat.reduceBEq, Nat.reduceSub, Nat.reduceMul, Int.reduceLT, Int.reduceLE, Int.reduceEq, Int.reduceToNat, Int.reduceNeg, thaw, nodup, refsV, adopts, Pk.TY_Base, Pk.TY_Opr]
        refine ⟨_, _, _, rfl, ?_⟩
        exact .inl ⟨rfl, rfl, rfl, rfl, b, th, d, _, rfl, rfl, slice_app hsl' _, hbf, hq', hth, hda, hem⟩
      · have k1 : (o.kind == 1) = false := by rw [h]; rfl
        have k2 : (o.kind == 2) = false := by rw [h]; rfl
        have k4 : (o.kind == 4) = true := by rw [h]; rfl
        simp (config := {decide := true}) only [K_paddocklaw6_ObjectsBytes_2, l_paddocklaw6_ObjectsBytes_2, h0, h3, h5, h6, hx, hd, hw, hw1, hw2, b0, nb, k1, k2, k4, hio, yl, ys, Bool.not_false, Bool.not_true, guardR_und, Pk.EVL, keepT, enum, ↓reduceIte, ev, act, appT, callee, toDs, toD, loadA, storeA, subA, subD, updA, Eff.on, resA, resVs, resV, lk, finish, frzR, frzVs, frzV, fznR, fzns, fzn, lts, lt, ltO, List.all, pairsOk, indep, reduceCtorEq, Nat.reduceEqDiff, Nat.reduceAdd, Nat.reduceLeDiff, stb, thaws, List.drop, intOfA, binD, binI, unD, mmL, buildA, mkAgg, allD, behind, behind0, takeAt, frzAs, frzA, adoptR, adopt, isD, isD0, trim, List.take, binS, sliceA, bnd, zOk, elems, Nat.reduceBNe, inpl, Nat.reduceLT, Nat.reduceBEq, Nat.reduceSub, Nat.reduceMul, Int.reduceLT, Int.reduceLE, Int.reduceEq, Int.reduceToNat, Int.reduceNeg, thaw, nodup, refsV, adopts, Pk.TY_Base, Pk.TY_Opr]
        refine ⟨_, _, _, rfl, ?_⟩
        exact .inl ⟨rfl, rfl, rfl, rfl, b, th, d, _, rfl, rfl, slice_app hsl' _, hbf, hq', hth, hda, hem⟩
    have hok : (bOp o i).ok := by
      have := hoo
      simp only [Opr.ok] at this ⊢
      refine ⟨by show (0 : Int) ≤ 1 ∧ (1 : Int) < 256; omega, by show (0 : Int) ≤ ((i + 1 : Nat) : Int) ∧ ((i + 1 : Nat) : Int) < 4294967296; omega, this.2.2.1, by show (0 : Int) ≤ 2 ∧ (2 : Int) < 256; omega, this.2.2.2.2.1, this.2.2.2.2.2⟩
    have hdo := doOp_at b (bOp o i) hbf hok
    have hfit := doOp_fit hbf hok
    have hst := bytes_step (p := (th, d)) hkk (by rw [hbo]; exact co) hq ⟨hth, hda⟩
    have hcd := bytes_code (p := (th, d)) hkk (by rw [hbo]; exact co) hq hth
    rw [hbo] at hdo hfit hst hcd
    generalize doOp b ⟨1, ((i + 1 : Nat) : Int), o.kind, 2, o.at_, o.data⟩ = R at *
    obtain ⟨c, r⟩ := R
    simp only at hdo hfit hst hcd
    rw [co] at hio
    have yn : ∀ X : Heap, (J' ++ X).length = J'.length + X.length := fun X => List.length_append
    have z0 : ∀ (x : Ob) (X : Heap), (J' ++ x :: X)[J'.length]? = some x := fun x X => by simp
    have z1 : ∀ (x y : Ob) (X : Heap), (J' ++ x :: y :: X)[J'.length + 1]? = some y := fun x y X => by rw [List.getElem?_append_right (by omega)]; simp
    have z2 : ∀ (x y z : Ob) (X : Heap), (J' ++ x :: y :: z :: X)[J'.length + 1 + 1]? = some z := fun x y z X => by rw [List.getElem?_append_right (by omega), show J'.length + 1 + 1 - J'.length = 2 by omega]; rfl
    have z2' : ∀ (x y z : Ob) (X : Heap), (J' ++ x :: y :: z :: X)[J'.length + 2]? = some z := fun x y z X => by rw [List.getElem?_append_right (by omega), show J'.length + 2 - J'.length = 2 by omega]; rfl
    have t0 : ∀ (x v : Ob) (X : Heap), (J' ++ x :: X).set J'.length v = J' ++ v :: X := fun x v X => by simp
    have t1 : ∀ (x y v : Ob) (X : Heap), (J' ++ x :: y :: X).set (J'.length + 1) v = J' ++ x :: v :: X := fun x y v X => by rw [List.set_append_right _ _ (by omega)]; simp
    have t2 : ∀ (x y z v : Ob) (X : Heap), (J' ++ x :: y :: z :: X).set (J'.length + 1 + 1) v = J' ++ x :: y :: v :: X := fun x y z v X => by rw [List.set_append_right _ _ (by omega), show J'.length + 1 + 1 - J'.length = 2 by omega]; rfl
    have t2' : ∀ (x y z v : Ob) (X : Heap), (J' ++ x :: y :: z :: X).set (J'.length + 2) v = J' ++ x :: y :: v :: X := fun x y z v X => by rw [List.set_append_right _ _ (by omega), show J'.length + 2 - J'.length = 2 by omega]; rfl
    have eqb : ∀ p q : Bool, eqV .sb (.b p) (.b q) = some (p == q) := fun p q => by simp only [eqV]
    have hse : ∀ x : ByteArray, decide (x = x) = true := fun x => by simp
    have r10 : ∀ x : Base, x.cs[10]? = some (.b (x.objs.get 2).there) := fun _ => rfl
    have r11 : ∀ x : Base, x.cs[11]? = some (.s (x.objs.get 2).data) := fun _ => rfl
    rcases hkk with h | h | h
    · have k1 : (o.kind == 1) = true := by rw [h]; rfl
      have k2 : (o.kind == 2) = false := by rw [h]; rfl
      have k4 : (o.kind == 4) = false := by rw [h]; rfl
      have ha0 : 0 ≤ o.at_ ∧ o.at_ < 256 := by have := hoo; simp only [Opr.ok] at this; exact this.2.2.2.2.1
      have hsz : o.data.size ≤ 16 := (isOp_le co).1
      have hwc : IntKind.i64.wrap o.at_ = o.at_ := wi64 (by omega)
      have hwm : IntKind.i64.wrap (o.at_ + (o.data.size : Int)) = o.at_ + (o.data.size : Int) := wi64 (by omega)
      have n2 : ∀ q : Prop, ¬ (o.kind = 2 ∧ q) := fun q hh => by have := hh.1; omega
      have n3 : ∀ q : Prop, ¬ (o.kind = 4 ∧ q) := fun q hh => by have := hh.1; omega
      unfold stepB at hst
      by_cases cf : o.at_ + (o.data.size : Int) ≤ 16
      · rw [if_pos ⟨h, cf⟩] at hst
        obtain ⟨m, hm⟩ : ∃ m : Nat, (m : Int) = o.at_ + o.data.size := ⟨(o.at_ + o.data.size).toNat, by omega⟩
        have hcf := decide_eq_true cf
        have hd3 : d.size ≤ 300 := by rw [← hda]; exact (hbf 2 (by omega)).1
        rcases hsl' with ⟨h4, hd0⟩ | ⟨p, hp0, h4, hpj⟩
        · subst hd0
          simp (config := {decide := true}) only [K_paddocklaw6_ObjectsBytes_2, l_paddocklaw6_ObjectsBytes_2, h0, h3, h4, h5, h6, hx, hd, hw, hw1, hw2, b0, nb, k1, k2, k4, hwc, hwm, hcf, hio, hdo, yn, z0, z1, z2, z2', t0, t1, t2, t2', Bool.not_false, Bool.not_true, guardR_und, Pk.EVL, keepT, enum, ↓reduceIte, ev, act, appT, callee, toDs, toD, loadA, storeA, subA, subD, updA, Eff.on, resA, resVs, resV, lk, finish, frzR, frzVs, frzV, fznR, fzns, fzn, lts, lt, ltO, List.all, pairsOk, indep, reduceCtorEq, Nat.reduceEqDiff, Nat.reduceAdd, Nat.reduceLeDiff, stb, thaws, List.drop, intOfA, binD, binI, unD, mmL, buildA, mkAgg, allD, behind, behind0, takeAt, frzAs, frzA, adoptR, adopt, isD, isD0, trim, List.take, binS, sliceA, bnd, zOk, elems, Nat.reduceBNe, inpl, Nat.reduceLT, Nat.reduceBEq, Nat.reduceSub, Nat.reduceMul, Int.reduceLT, Int.reduceLE, Int.reduceEq, Int.reduceToNat, Int.reduceNeg, thaw, nodup, refsV, adopts, Pk.TY_Base, Pk.TY_Opr, Pk.TY_Res]
          have hK0q : (J' ++ [Ob.box (.d (.agg (Opr.cs ⟨1, ((i + 1 : Nat) : Int), o.kind, 2, o.at_, o.data⟩))), .box (.d (.agg (Base.cs c))), .box (.d (.agg (Res.cs r))), Ob.arr [] true])[(J'.length + 3)]? = some (.arr (bsD ⟨#[]⟩) true) := by rw [List.getElem?_append_right (by omega), show J'.length + 3 - J'.length = 3 by omega]; rfl
          have hK01 : (J' ++ [Ob.box (.d (.agg (Opr.cs ⟨1, ((i + 1 : Nat) : Int), o.kind, 2, o.at_, o.data⟩))), .box (.d (.agg (Base.cs c))), .box (.d (.agg (Res.cs r))), Ob.arr [] true])[J'.length]? = some (.box (.d (.agg (Opr.cs ⟨1, ((i + 1 : Nat) : Int), o.kind, 2, o.at_, o.data⟩)))) := z0 _ _
          have hK02 : (J' ++ [Ob.box (.d (.agg (Opr.cs ⟨1, ((i + 1 : Nat) : Int), o.kind, 2, o.at_, o.data⟩))), .box (.d (.agg (Base.cs c))), .box (.d (.agg (Res.cs r))), Ob.arr [] true])[J'.length + 1]? = some (.box (.d (.agg (Base.cs c)))) := z1 _ _ _
          have hql : (J'.length + 3) ≠ J'.length ∧ (J'.length + 3) ≠ J'.length + 1 := by omega
          have hpad := fun (T : Tm) h7 h4 => pad_run ⟨1, ((i + 1 : Nat) : Int), o.kind, 2, o.at_, o.data⟩ ⟨#[]⟩ m ((J'.length + 3) + 1) (J'.length + 1) T (.box (.d (.agg (Base.cs b))) :: (J' ++ [Ob.box (.d (.agg (Opr.cs ⟨1, ((i + 1 : Nat) : Int), o.kind, 2, o.at_, o.data⟩))), .box (.d (.agg (Base.cs c))), .box (.d (.agg (Res.cs r))), Ob.arr [] true])) (by show 0 ≤ o.at_ ∧ o.at_ ≤ 300; omega) (by first | exact hd3 | decide) (by show o.data.size ≤ 300; omega) hm h7 hK01 h4 hK0q
          rw [show (Ob.box (.d (.agg (Base.cs b))) :: (J' ++ [Ob.box (.d (.agg (Opr.cs ⟨1, ((i + 1 : Nat) : Int), o.kind, 2, o.at_, o.data⟩))), .box (.d (.agg (Base.cs c))), .box (.d (.agg (Res.cs r))), Ob.arr [] true])).length = J'.length + 4 + 1 by simp] at hpad
          simp only [Option.bind_assoc]
          refine ex_run (hpad _ rfl rfl) ?_
          rintro e T' H' ⟨rfl, g0, g3, g5, g6, g7, g8, g4, J2, rfl⟩
          clear hpad
          simp (config := {decide := true}) only [lk, ↓reduceIte] at g0 g3 g5 g6 g7 g8
          rw [List.set_cons_succ, List.cons_append]
          obtain ⟨f1, f2, f3, f4, f5⟩ := tail_facts (J2 := J2) (e := bsD (grown ⟨#[]⟩ m)) hK0q hK01 hK02 hql.1 hql.2
          generalize (J' ++ [Ob.box (.d (.agg (Opr.cs ⟨1, ((i + 1 : Nat) : Int), o.kind, 2, o.at_, o.data⟩))), .box (.d (.agg (Base.cs c))), .box (.d (.agg (Res.cs r))), Ob.arr [] true]).set (J'.length + 3) (.arr (bsD (grown ⟨#[]⟩ m)) true) ++ J2 = K at *
          have hbl : (bsD (grown ⟨#[]⟩ m)).length = max (ByteArray.size ⟨#[]⟩) m := by rw [bsD_len, grown_size]
          obtain ⟨a, ha⟩ : ∃ a : Nat, o.at_ = (a : Int) := ⟨o.at_.toNat, by omega⟩
          have hmm : m = a + o.data.size := by omega
          have hup : upd (bsD (grown ⟨#[]⟩ m)) a ((bsD o.data).take (min (bsD o.data).length (max (ByteArray.size ⟨#[]⟩) m - a))) = bsD (splice ⟨#[]⟩ a o.data) := by
            rw [bsD_len, Nat.min_eq_left (by omega), List.take_of_length_le (by rw [bsD_len]; omega), hmm, bsD_splice]
          have hbl2 : (bsD (splice ⟨#[]⟩ a o.data)).length = max (ByteArray.size ⟨#[]⟩) m := by
            rw [bsD_splice, length_upd _ _ _ (by rw [bsD_len, bsD_len, grown_size]; omega), ← hmm, hbl]
          have hsz : (splice ⟨#[]⟩ a o.data).size = max (ByteArray.size ⟨#[]⟩) m := by rw [← bsD_len]; exact hbl2
          have hel : List.map (fun c : UInt8 => DV.i .u8 (c.toNat : Int)) o.data.data.toList = bsD o.data := rfl
          have hsub : subL (bsD (splice ⟨#[]⟩ a o.data)) 0 (max (ByteArray.size ⟨#[]⟩) m) = bsD (splice ⟨#[]⟩ a o.data) := by unfold subL; rw [List.drop_zero]; exact List.take_of_length_le (by omega)
          have hby := bytesOf_bsD (splice ⟨#[]⟩ a o.data)
          have hbk := bsD_back (splice ⟨#[]⟩ a o.data)
          have hall := bsD_cells o.data
          have c1 : (0 ≤ (a : Int) ∧ (a : Int) ≤ ((max (ByteArray.size ⟨#[]⟩) m : Nat) : Int)) = True := eq_true ⟨by omega, by omega⟩
          have c2 : (a + (max (ByteArray.size ⟨#[]⟩) m - a) ≤ max (ByteArray.size ⟨#[]⟩) m) = True := eq_true (by omega)
          rw [show o.at_.toNat = a by omega] at hst
          simp (config := {decide := true}) only [h0, h3, h4, h5, h6, hw, nb, g0, g3, g5, g6, g7, g8, g4, f1, f2, f3, f4, ha, hbl, c1, c2, hup, hel, hall, hbl2, hsub, hby, hbk, r10, r11, hst.1, hst.2.1, eqb, hse, Int.toNat_natCast, List.set_cons_zero, elems, Bool.not_false, Bool.not_true, guardR_und, Pk.EVL, keepT, enum, ↓reduceIte, ev, act, appT, callee, toDs, toD, loadA, storeA, subA, subD, updA, Eff.on, resA, resVs, resV, lk, finish, frzR, frzVs, frzV, fznR, fzns, fzn, lts, lt, ltO, List.all, pairsOk, indep, reduceCtorEq, Nat.reduceEqDiff, Nat.reduceAdd, Nat.reduceLeDiff, stb, thaws, List.drop, intOfA, binD, binI, unD, mmL, buildA, mkAgg, allD, behind, behind0, takeAt, frzAs, frzA, adoptR, adopt, isD, isD0, trim, List.take, binS, sliceA, bnd, zOk, elems, Nat.reduceBNe, inpl, Nat.reduceLT, Nat.reduceBEq, Nat.reduceSub, Nat.reduceMul, Int.reduceLT, Int.reduceLE, Int.reduceEq, Int.reduceToNat, Int.reduceNeg, thaw, nodup, refsV, adopts, Pk.TY_Base, Pk.TY_Opr, Pk.TY_Res]
          refine ⟨_, _, _, rfl, ?_⟩
          exact .inl ⟨rfl, rfl, rfl, rfl, c, true, splice ⟨#[]⟩ a o.data, _, rfl, rfl, .inr ⟨(J'.length + 3) + 1, by omega, by rw [hsz]; rfl, f4 _⟩, hfit, by omega, hst.1, hst.2.1, fun h => by simp at h⟩
        · obtain ⟨q, rfl⟩ : ∃ q, p = q + 1 := ⟨p - 1, by omega⟩
          have hpj : J'[q]? = some (.arr (bsD d) true) := hpj
          have zq : ∀ X : Heap, (J' ++ X)[q]? = some (.arr (bsD d) true) := fun X => by rw [List.getElem?_append_left (List.getElem?_eq_some_iff.1 hpj).1]; exact hpj
          simp (config := {decide := true}) only [K_paddocklaw6_ObjectsBytes_2, l_paddocklaw6_ObjectsBytes_2, h0, h3, h4, h5, h6, hx, hd, hw, hw1, hw2, b0, nb, k1, k2, k4, hwc, hwm, hcf, hio, hdo, yn, z0, z1, z2, z2', t0, t1, t2, t2', Bool.not_false, Bool.not_true, guardR_und, Pk.EVL, keepT, enum, ↓reduceIte, ev, act, appT, callee, toDs, toD, loadA, storeA, subA, subD, updA, Eff.on, resA, resVs, resV, lk, finish, frzR, frzVs, frzV, fznR, fzns, fzn, lts, lt, ltO, List.all, pairsOk, indep, reduceCtorEq, Nat.reduceEqDiff, Nat.reduceAdd, Nat.reduceLeDiff, stb, thaws, List.drop, intOfA, binD, binI, unD, mmL, buildA, mkAgg, allD, behind, behind0, takeAt, frzAs, frzA, adoptR, adopt, isD, isD0, trim, List.take, binS, sliceA, bnd, zOk, elems, Nat.reduceBNe, inpl, Nat.reduceLT, Nat.reduceBEq, Nat.reduceSub, Nat.reduceMul, Int.reduceLT, Int.reduceLE, Int.reduceEq, Int.reduceToNat, Int.reduceNeg, thaw, nodup, refsV, adopts, Pk.TY_Base, Pk.TY_Opr, Pk.TY_Res]
          have hK0q : (J' ++ [Ob.box (.d (.agg (Opr.cs ⟨1, ((i + 1 : Nat) : Int), o.kind, 2, o.at_, o.data⟩))), .box (.d (.agg (Base.cs c))), .box (.d (.agg (Res.cs r)))])[q]? = some (.arr (bsD d) true) := zq _
          have hK01 : (J' ++ [Ob.box (.d (.agg (Opr.cs ⟨1, ((i + 1 : Nat) : Int), o.kind, 2, o.at_, o.data⟩))), .box (.d (.agg (Base.cs c))), .box (.d (.agg (Res.cs r)))])[J'.length]? = some (.box (.d (.agg (Opr.cs ⟨1, ((i + 1 : Nat) : Int), o.kind, 2, o.at_, o.data⟩)))) := z0 _ _
          have hK02 : (J' ++ [Ob.box (.d (.agg (Opr.cs ⟨1, ((i + 1 : Nat) : Int), o.kind, 2, o.at_, o.data⟩))), .box (.d (.agg (Base.cs c))), .box (.d (.agg (Res.cs r)))])[J'.length + 1]? = some (.box (.d (.agg (Base.cs c)))) := z1 _ _ _
          have hql : q ≠ J'.length ∧ q ≠ J'.length + 1 := by have := (List.getElem?_eq_some_iff.1 hpj).1; omega
          have hpad := fun (T : Tm) h7 h4 => pad_run ⟨1, ((i + 1 : Nat) : Int), o.kind, 2, o.at_, o.data⟩ d m (q + 1) (J'.length + 1) T (.box (.d (.agg (Base.cs b))) :: (J' ++ [Ob.box (.d (.agg (Opr.cs ⟨1, ((i + 1 : Nat) : Int), o.kind, 2, o.at_, o.data⟩))), .box (.d (.agg (Base.cs c))), .box (.d (.agg (Res.cs r)))])) (by show 0 ≤ o.at_ ∧ o.at_ ≤ 300; omega) (by first | exact hd3 | decide) (by show o.data.size ≤ 300; omega) hm h7 hK01 h4 hK0q
          rw [show (Ob.box (.d (.agg (Base.cs b))) :: (J' ++ [Ob.box (.d (.agg (Opr.cs ⟨1, ((i + 1 : Nat) : Int), o.kind, 2, o.at_, o.data⟩))), .box (.d (.agg (Base.cs c))), .box (.d (.agg (Res.cs r)))])).length = J'.length + 3 + 1 by simp] at hpad
          simp only [Option.bind_assoc]
          refine ex_run (hpad _ rfl rfl) ?_
          rintro e T' H' ⟨rfl, g0, g3, g5, g6, g7, g8, g4, J2, rfl⟩
          clear hpad
          simp (config := {decide := true}) only [lk, ↓reduceIte] at g0 g3 g5 g6 g7 g8
          rw [List.set_cons_succ, List.cons_append]
          obtain ⟨f1, f2, f3, f4, f5⟩ := tail_facts (J2 := J2) (e := bsD (grown d m)) hK0q hK01 hK02 hql.1 hql.2
          generalize (J' ++ [Ob.box (.d (.agg (Opr.cs ⟨1, ((i + 1 : Nat) : Int), o.kind, 2, o.at_, o.data⟩))), .box (.d (.agg (Base.cs c))), .box (.d (.agg (Res.cs r)))]).set q (.arr (bsD (grown d m)) true) ++ J2 = K at *
          have hbl : (bsD (grown d m)).length = max (ByteArray.size d) m := by rw [bsD_len, grown_size]
          obtain ⟨a, ha⟩ : ∃ a : Nat, o.at_ = (a : Int) := ⟨o.at_.toNat, by omega⟩
          have hmm : m = a + o.data.size := by omega
          have hup : upd (bsD (grown d m)) a ((bsD o.data).take (min (bsD o.data).length (max (ByteArray.size d) m - a))) = bsD (splice d a o.data) := by
            rw [bsD_len, Nat.min_eq_left (by omega), List.take_of_length_le (by rw [bsD_len]; omega), hmm, bsD_splice]
          have hbl2 : (bsD (splice d a o.data)).length = max (ByteArray.size d) m := by
            rw [bsD_splice, length_upd _ _ _ (by rw [bsD_len, bsD_len, grown_size]; omega), ← hmm, hbl]
          have hsz : (splice d a o.data).size = max (ByteArray.size d) m := by rw [← bsD_len]; exact hbl2
          have hel : List.map (fun c : UInt8 => DV.i .u8 (c.toNat : Int)) o.data.data.toList = bsD o.data := rfl
          have hsub : subL (bsD (splice d a o.data)) 0 (max (ByteArray.size d) m) = bsD (splice d a o.data) := by unfold subL; rw [List.drop_zero]; exact List.take_of_length_le (by omega)
          have hby := bytesOf_bsD (splice d a o.data)
          have hbk := bsD_back (splice d a o.data)
          have hall := bsD_cells o.data
          have c1 : (0 ≤ (a : Int) ∧ (a : Int) ≤ ((max (ByteArray.size d) m : Nat) : Int)) = True := eq_true ⟨by omega, by omega⟩
          have c2 : (a + (max (ByteArray.size d) m - a) ≤ max (ByteArray.size d) m) = True := eq_true (by omega)
          rw [show o.at_.toNat = a by omega] at hst
          simp (config := {decide := true}) only [h0, h3, h4, h5, h6, hw, nb, g0, g3, g5, g6, g7, g8, g4, f1, f2, f3, f4, ha, hbl, c1, c2, hup, hel, hall, hbl2, hsub, hby, hbk, r10, r11, hst.1, hst.2.1, eqb, hse, Int.toNat_natCast, List.set_cons_zero, elems, Bool.not_false, Bool.not_true, guardR_und, Pk.EVL, keepT, enum, ↓reduceIte, ev, act, appT, callee, toDs, toD, loadA, storeA, subA, subD, updA, Eff.on, resA, resVs, resV, lk, finish, frzR, frzVs, frzV, fznR, fzns, fzn, lts, lt, ltO, List.all, pairsOk, indep, reduceCtorEq, Nat.reduceEqDiff, Nat.reduceAdd, Nat.reduceLeDiff, stb, thaws, List.drop, intOfA, binD, binI, unD, mmL, buildA, mkAgg, allD, behind, behind0, takeAt, frzAs, frzA, adoptR, adopt, isD, isD0, trim, List.take, binS, sliceA, bnd, zOk, elems, Nat.reduceBNe, inpl, Nat.reduceLT, Nat.reduceBEq, Nat.reduceSub, Nat.reduceMul, Int.reduceLT, Int.reduceLE, Int.reduceEq, Int.reduceToNat, Int.reduceNeg, thaw, nodup, refsV, adopts, Pk.TY_Base, Pk.TY_Opr, Pk.TY_Res]
          refine ⟨_, _, _, rfl, ?_⟩
          exact .inl ⟨rfl, rfl, rfl, rfl, c, true, splice d a o.data, _, rfl, rfl, .inr ⟨q + 1, by omega, by rw [hsz]; rfl, f4 _⟩, hfit, by omega, hst.1, hst.2.1, fun h => by simp at h⟩
      · have n1 : ¬ (o.kind = 1 ∧ o.at_ + (o.data.size : Int) ≤ 16) := fun hh => cf hh.2
        rw [if_neg n1, if_neg (n2 _), if_neg (n3 _)] at hst
        have hcf := decide_eq_false cf
        have hc0 : (r.code == 0) = false := by rw [beq_eq_false_iff_ne]; exact hcd n1 (n2 _) (n3 _)
        rcases hsl' with ⟨h4, hd0⟩ | ⟨p, hp0, h4, hpj⟩
        · subst hd0
          simp (config := {decide := true}) only [K_paddocklaw6_ObjectsBytes_2, l_paddocklaw6_ObjectsBytes_2, h0, h3, h4, h5, h6, hx, hd, hw, hw1, hw2, b0, nb, k1, k2, k4, hwc, hwm, hcf, hc0, hio, hdo, yn, z0, z1, z2, z2', t0, t1, t2, t2', r10, r11, hst.1, hst.2.1, eqb, hse, elems, bytesOf, Bool.not_false, Bool.not_true, guardR_und, Pk.EVL, keepT, enum, ↓reduceIte, ev, act, appT, callee, toDs, toD, loadA, storeA, subA, subD, updA, Eff.on, resA, resVs, resV, lk, finish, frzR, frzVs, frzV, fznR, fzns, fzn, lts, lt, ltO, List.all, pairsOk, indep, reduceCtorEq, Nat.reduceEqDiff, Nat.reduceAdd, Nat.reduceLeDiff, stb, thaws, List.drop, intOfA, binD, binI, unD, mmL, buildA, mkAgg, allD, behind, behind0, takeAt, frzAs, frzA, adoptR, adopt, isD, isD0, trim, List.take, binS, sliceA, bnd, zOk, elems, Nat.reduceBNe, inpl, Nat.reduceLT, Nat.reduceBEq, Nat.reduceSub, Nat.reduceMul, Int.reduceLT, Int.reduceLE, Int.reduceEq, Int.reduceToNat, Int.reduceNeg, thaw, nodup, refsV, adopts, Pk.TY_Base, Pk.TY_Opr, Pk.TY_Res]
          refine ⟨_, _, _, rfl, ?_⟩
          exact .inl ⟨rfl, rfl, rfl, rfl, c, th, ⟨#[]⟩, _, rfl, rfl, .inl ⟨rfl, rfl⟩, hfit, by omega, hst.1, hst.2.1, fun _ => rfl⟩
        · obtain ⟨q, rfl⟩ : ∃ q, p = q + 1 := ⟨p - 1, by omega⟩
          have hpj : J'[q]? = some (.arr (bsD d) true) := hpj
          have zq : ∀ X : Heap, (J' ++ X)[q]? = some (.arr (bsD d) true) := fun X => by rw [List.getElem?_append_left (List.getElem?_eq_some_iff.1 hpj).1]; exact hpj
          have hbl := bsD_len d
          have hsub : subL (bsD d) 0 d.size = bsD d := by unfold subL; rw [List.drop_zero]; exact List.take_of_length_le (by omega)
          have hby := bytesOf_bsD d
          have hbk := bsD_back d
          simp (config := {decide := true}) only [K_paddocklaw6_ObjectsBytes_2, l_paddocklaw6_ObjectsBytes_2, h0, h3, h4, h5, h6, hx, hd, hw, hw1, hw2, b0, nb, k1, k2, k4, hwc, hwm, hcf, hc0, hio, hdo, yn, z0, z1, z2, z2', t0, t1, t2, t2', r10, r11, hst.1, hst.2.1, eqb, hse, zq, hbl, hsub, hby, hbk, elems, Bool.not_false, Bool.not_true, guardR_und, Pk.EVL, keepT, enum, ↓reduceIte, ev, act, appT, callee, toDs, toD, loadA, storeA, subA, subD, updA, Eff.on, resA, resVs, resV, lk, finish, frzR, frzVs, frzV, fznR, fzns, fzn, lts, lt, ltO, List.all, pairsOk, indep, reduceCtorEq, Nat.reduceEqDiff, Nat.reduceAdd, Nat.reduceLeDiff, stb, thaws, List.drop, intOfA, binD, binI, unD, mmL, buildA, mkAgg, allD, behind, behind0, takeAt, frzAs, frzA, adoptR, adopt, isD, isD0, trim, List.take, binS, sliceA, bnd, zOk, elems, Nat.reduceBNe, inpl, Nat.reduceLT, Nat.reduceBEq, Nat.reduceSub, Nat.reduceMul, Int.reduceLT, Int.reduceLE, Int.reduceEq, Int.reduceToNat, Int.reduceNeg, thaw, nodup, refsV, adopts, Pk.TY_Base, Pk.TY_Opr, Pk.TY_Res]
          refine ⟨_, _, _, rfl, ?_⟩
          exact .inl ⟨rfl, rfl, rfl, rfl, c, th, d, _, rfl, rfl, .inr ⟨q + 1, by omega, rfl, zq _⟩, hfit, by omega, hst.1, hst.2.1, hem⟩
    · have k1 : (o.kind == 1) = false := by rw [h]; rfl
      have k2 : (o.kind == 2) = true := by rw [h]; rfl
      have k4 : (o.kind == 4) = false := by rw [h]; rfl
      have ha0 : 0 ≤ o.at_ ∧ o.at_ < 256 := by have := hoo; simp only [Opr.ok] at this; exact this.2.2.2.2.1
      have hwc : IntKind.i64.wrap o.at_ = o.at_ := wi64 (by omega)
      have n1 : ∀ q : Prop, ¬ (o.kind = 1 ∧ q) := fun q hh => by have := hh.1; omega
      have n3 : ∀ q : Prop, ¬ (o.kind = 4 ∧ q) := fun q hh => by have := hh.1; omega
      unfold stepB at hst
      cases th with
      | false =>
        have n2 : ¬ (o.kind = 2 ∧ ((false, d) : Bool × ByteArray).1 = true ∧ o.at_ ≤ 16) := fun hh => by simp at hh
        rw [if_neg (n1 _), if_neg n2, if_neg (n3 _)] at hst
        have hc0 : (r.code == 0) = false := by rw [beq_eq_false_iff_ne]; exact hcd (n1 _) n2 (n3 _)
        rcases hsl' with ⟨h4, hd0⟩ | ⟨p, hp0, h4, hpj⟩
        · subst hd0
          simp (config := {decide := true}) only [K_paddocklaw6_ObjectsBytes_2, l_paddocklaw6_ObjectsBytes_2, h0, h3, h4, h5, h6, hx, hd, hw, hw1, hw2, b0, nb, k1, k2, k4, hwc, hc0, hio, hdo, yn, z0, z1, z2, z2', t0, t1, t2, t2', r10, r11, hst.1, hst.2.1, eqb, hse, elems, bytesOf, Bool.not_false, Bool.not_true, guardR_und, Pk.EVL, keepT, enum, ↓reduceIte, ev, act, appT, callee, toDs, toD, loadA, storeA, subA, subD, updA, Eff.on, resA, resVs, resV, lk, finish, frzR, frzVs, frzV, fznR, fzns, fzn, lts, lt, ltO, List.all, pairsOk, indep, reduceCtorEq, Nat.reduceEqDiff, Nat.reduceAdd, Nat.reduceLeDiff, stb, thaws, List.drop, intOfA, binD, binI, unD, mmL, buildA, mkAgg, allD, behind, behind0, takeAt, frzAs, frzA, adoptR, adopt, isD, isD0, trim, List.take, binS, sliceA, bnd, zOk, elems, Nat.reduceBNe, inpl, Nat.reduceLT, Nat.reduceBEq, Nat.reduceSub, Nat.reduceMul, Int.reduceLT, Int.reduceLE, Int.reduceEq, Int.reduceToNat, Int.reduceNeg, thaw, nodup, refsV, adopts, Pk.TY_Base, Pk.TY_Opr, Pk.TY_Res]
          refine ⟨_, _, _, rfl, ?_⟩
          exact .inl ⟨rfl, rfl, rfl, rfl, c, false, ⟨#[]⟩, _, rfl, rfl, .inl ⟨rfl, rfl⟩, hfit, by omega, hst.1, hst.2.1, fun _ => rfl⟩
        · obtain ⟨q, rfl⟩ : ∃ q, p = q + 1 := ⟨p - 1, by omega⟩
          have hpj : J'[q]? = some (.arr (bsD d) true) := hpj
          have zq : ∀ X : Heap, (J' ++ X)[q]? = some (.arr (bsD d) true) := fun X => by rw [List.getElem?_append_left (List.getElem?_eq_some_iff.1 hpj).1]; exact hpj
          have hbl := bsD_len d
          have hsub : subL (bsD d) 0 d.size = bsD d := by unfold subL; rw [List.drop_zero]; exact List.take_of_length_le (by omega)
          have hby := bytesOf_bsD d
          have hbk := bsD_back d
          simp (config := {decide := true}) only [K_paddocklaw6_ObjectsBytes_2, l_paddocklaw6_ObjectsBytes_2, h0, h3, h4, h5, h6, hx, hd, hw, hw1, hw2, b0, nb, k1, k2, k4, hwc, hc0, hio, hdo, yn, z0, z1, z2, z2', t0, t1, t2, t2', r10, r11, hst.1, hst.2.1, eqb, hse, zq, hbl, hsub, hby, hbk, elems, Bool.not_false, Bool.not_true, guardR_und, Pk.EVL, keepT, enum, ↓reduceIte, ev, act, appT, callee, toDs, toD, loadA, storeA, subA, subD, updA, Eff.on, resA, resVs, resV, lk, finish, frzR, frzVs, frzV, fznR, fzns, fzn, lts, lt, ltO, List.all, pairsOk, indep, reduceCtorEq, Nat.reduceEqDiff, Nat.reduceAdd, Nat.reduceLeDiff, stb, thaws, List.drop, intOfA, binD, binI, unD, mmL, buildA, mkAgg, allD, behind, behind0, takeAt, frzAs, frzA, adoptR, adopt, isD, isD0, trim, List.take, binS, sliceA, bnd, zOk, elems, Nat.reduceBNe, inpl, Nat.reduceLT, Nat.reduceBEq, Nat.reduceSub, Nat.reduceMul, Int.reduceLT, Int.reduceLE, Int.reduceEq, Int.reduceToNat, Int.reduceNeg, thaw, nodup, refsV, adopts, Pk.TY_Base, Pk.TY_Opr, Pk.TY_Res]
          refine ⟨_, _, _, rfl, ?_⟩
          exact .inl ⟨rfl, rfl, rfl, rfl, c, false, d, _, rfl, rfl, .inr ⟨q + 1, by omega, rfl, zq _⟩, hfit, by omega, hst.1, hst.2.1, hem⟩
      | true =>
        by_cases cf : o.at_ ≤ 16
        · rw [if_neg (n1 _), if_pos ⟨h, rfl, cf⟩] at hst
          obtain ⟨m, hm⟩ : ∃ m : Nat, (m : Int) = o.at_ := ⟨o.at_.toNat, by omega⟩
          have hsz1 : o.data.size ≤ 16 := (isOp_le co).1
          have hcf := decide_eq_true cf
          have hd3 : d.size ≤ 300 := by rw [← hda]; exact (hbf 2 (by omega)).1
          rcases hsl' with ⟨h4, hd0⟩ | ⟨p, hp0, h4, hpj⟩
          · subst hd0
            simp (config := {decide := true}) only [K_paddocklaw6_ObjectsBytes_2, l_paddocklaw6_ObjectsBytes_2, h0, h3, h4, h5, h6, hx, hd, hw, hw1, hw2, b0, nb, k1, k2, k4, hwc, hcf, hio, hdo, yn, z0, z1, z2, z2', t0, t1, t2, t2', Bool.not_false, Bool.not_true, guardR_und, Pk.EVL, keepT, enum, ↓reduceIte, ev, act, appT, callee, toDs, toD, loadA, storeA, subA, subD, updA, Eff.on, resA, resVs, resV, lk, finish, frzR, frzVs, frzV, fznR, fzns, fzn, lts, lt, ltO, List.all, pairsOk, indep, reduceCtorEq, Nat.reduceEqDiff, Nat.reduceAdd, Nat.reduceLeDiff, stb, thaws, List.drop, intOfA, binD, binI, unD, mmL, buildA, mkAgg, allD, behind, behind0, takeAt, frzAs, frzA, adoptR, adopt, isD, isD0, trim, List.take, binS, sliceA, bnd, zOk, elems, Nat.reduceBNe, inpl, Nat.reduceLT, Nat.reduceBEq, Nat.reduceSub, Nat.reduceMul, Int.reduceLT, Int.reduceLE, Int.reduceEq, Int.reduceToNat, Int.reduceNeg, thaw, nodup, refsV, adopts, Pk.TY_Base, Pk.TY_Opr, Pk.TY_Res]
            have hK0q : (J' ++ [Ob.box (.d (.agg (Opr.cs ⟨1, ((i + 1 : Nat) : Int), o.kind, 2, o.at_, o.data⟩))), .box (.d (.agg (Base.cs c))), .box (.d (.agg (Res.cs r))), Ob.arr [] true])[(J'.length + 3)]? = some (.arr (bsD ⟨#[]⟩) true) := by rw [List.getElem?_append_right (by omega), show J'.length + 3 - J'.length = 3 by omega]; rfl
            have hK01 : (J' ++ [Ob.box (.d (.agg (Opr.cs ⟨1, ((i + 1 : Nat) : Int), o.kind, 2, o.at_, o.data⟩))), .box (.d (.agg (Base.cs c))), .box (.d (.agg (Res.cs r))), Ob.arr [] true])[J'.length]? = some (.box (.d (.agg (Opr.cs ⟨1, ((i + 1 : Nat) : Int), o.kind, 2, o.at_, o.data⟩)))) := z0 _ _
            have hK02 : (J' ++ [Ob.box (.d (.agg (Opr.cs ⟨1, ((i + 1 : Nat) : Int), o.kind, 2, o.at_, o.data⟩))), .box (.d (.agg (Base.cs c))), .box (.d (.agg (Res.cs r))), Ob.arr [] true])[J'.length + 1]? = some (.box (.d (.agg (Base.cs c)))) := z1 _ _ _
            have hql : (J'.length + 3) ≠ J'.length ∧ (J'.length + 3) ≠ J'.length + 1 := by omega
            have hpad := fun (T : Tm) h7 h4 => pad_run1 ⟨1, ((i + 1 : Nat) : Int), o.kind, 2, o.at_, o.data⟩ ⟨#[]⟩ m ((J'.length + 3) + 1) (J'.length + 1) T (.box (.d (.agg (Base.cs b))) :: (J' ++ [Ob.box (.d (.agg (Opr.cs ⟨1, ((i + 1 : Nat) : Int), o.kind, 2, o.at_, o.data⟩))), .box (.d (.agg (Base.cs c))), .box (.d (.agg (Res.cs r))), Ob.arr [] true])) (by show 0 ≤ o.at_ ∧ o.at_ ≤ 300; omega) (by first | exact hd3 | decide) (by show o.data.size ≤ 300; omega) hm h7 hK01 h4 hK0q
            rw [show (Ob.box (.d (.agg (Base.cs b))) :: (J' ++ [Ob.box (.d (.agg (Opr.cs ⟨1, ((i + 1 : Nat) : Int), o.kind, 2, o.at_, o.data⟩))), .box (.d (.agg (Base.cs c))), .box (.d (.agg (Res.cs r))), Ob.arr [] true])).length = J'.length + 4 + 1 by simp] at hpad
            simp only [Option.bind_assoc]
            refine ex_run (hpad _ rfl rfl) ?_
            rintro e T' H' ⟨rfl, g0, g3, g5, g6, g7, g8, g4, J2, rfl⟩
            clear hpad
            simp (config := {decide := true}) only [lk, ↓reduceIte] at g0 g3 g5 g6 g7 g8
            rw [List.set_cons_succ, List.cons_append]
            obtain ⟨f1, f2, f3, f4, f5⟩ := tail_facts (J2 := J2) (e := bsD (grown ⟨#[]⟩ m)) hK0q hK01 hK02 hql.1 hql.2
            generalize (J' ++ [Ob.box (.d (.agg (Opr.cs ⟨1, ((i + 1 : Nat) : Int), o.kind, 2, o.at_, o.data⟩))), .box (.d (.agg (Base.cs c))), .box (.d (.agg (Res.cs r))), Ob.arr [] true]).set (J'.length + 3) (.arr (bsD (grown ⟨#[]⟩ m)) true) ++ J2 = K at *
            have hbl : (bsD (grown ⟨#[]⟩ m)).length = max (ByteArray.size ⟨#[]⟩) m := by rw [bsD_len, grown_size]
            obtain ⟨a, ha⟩ : ∃ a : Nat, o.at_ = (a : Int) := ⟨o.at_.toNat, by omega⟩
            have hmm : m = a := by omega
            have hsub : subL (bsD (grown ⟨#[]⟩ m)) (0 + 0) (a - 0) = bsD ((grown ⟨#[]⟩ a).extract 0 a) := by rw [bsD_cut, hmm]; rfl
            have hsub0 : subL (bsD (grown ⟨#[]⟩ m)) 0 a = bsD ((grown ⟨#[]⟩ a).extract 0 a) := by rw [bsD_cut, hmm]
            have hsz : ((grown ⟨#[]⟩ a).extract 0 a).size = a := by rw [ByteArray.size_extract, grown_size]; omega
            have hbl2 : (bsD ((grown ⟨#[]⟩ a).extract 0 a)).length = a := by rw [bsD_len]; exact hsz
            have hsub2 : subL (bsD ((grown ⟨#[]⟩ a).extract 0 a)) 0 a = bsD ((grown ⟨#[]⟩ a).extract 0 a) := by unfold subL; rw [List.drop_zero]; exact List.take_of_length_le (by omega)
            have hby := bytesOf_bsD ((grown ⟨#[]⟩ a).extract 0 a)
            have hbk := bsD_back ((grown ⟨#[]⟩ a).extract 0 a)
            have hall := bsD_cells ((grown ⟨#[]⟩ a).extract 0 a)
            have c1 : (0 ≤ (a : Int) ∧ (a : Int) ≤ ((max (ByteArray.size ⟨#[]⟩) m : Nat) : Int)) = True := eq_true ⟨by omega, by omega⟩
            have c2 : (a ≤ LIM) = True := eq_true (by unfold LIM; omega)
            have klen : ∀ x : Ob, (K ++ [x])[K.length]? = some x := fun x => by simp
            have f5' : ∀ X : Heap, (K ++ X)[J'.length + 1]? = some (.box (.d (.agg (Base.cs c)))) := fun X => by rw [List.getElem?_append_left (List.getElem?_eq_some_iff.1 f5).1]; exact f5
            rw [show o.at_.toNat = a by omega] at hst
            simp (config := {decide := true}) only [h0, h3, h4, h5, h6, hw, nb, g0, g3, g5, g6, g7, g8, g4, f1, f2, f5', klen, ha, hbl, c1, c2, hsub, hsub0, hall, hbl2, hsub2, hby, hbk, r10, r11, hst.1, hst.2.1, eqb, hse, Int.toNat_natCast, Nat.sub_zero, List.set_cons_zero, elems, Bool.not_false, Bool.not_true, guardR_und, Pk.EVL, keepT, enum, ↓reduceIte, ev, act, appT, callee, toDs, toD, loadA, storeA, subA, subD, updA, Eff.on, resA, resVs, resV, lk, finish, frzR, frzVs, frzV, fznR, fzns, fzn, lts, lt, ltO, List.all, pairsOk, indep, reduceCtorEq, Nat.reduceEqDiff, Nat.reduceAdd, Nat.reduceLeDiff, stb, thaws, List.drop, intOfA, binD, binI, unD, mmL, buildA, mkAgg, allD, behind, behind0, takeAt, frzAs, frzA, adoptR, adopt, isD, isD0, trim, List.take, binS, sliceA, bnd, zOk, elems, Nat.reduceBNe, inpl, Nat.reduceLT, Nat.reduceBEq, Nat.reduceSub, Nat.reduceMul, Int.reduceLT, Int.reduceLE, Int.reduceEq, Int.reduceToNat, Int.reduceNeg, thaw, nodup, refsV, adopts, Pk.TY_Base, Pk.TY_Opr, Pk.TY_Res]
            refine ⟨_, _, _, rfl, ?_⟩
            exact .inl ⟨rfl, rfl, rfl, rfl, c, true, (grown ⟨#[]⟩ a).extract 0 a, _, rfl, rfl, .inr ⟨K.length + 1, by omega, by rw [hsz]; rfl, klen _⟩, hfit, by omega, hst.1, hst.2.1, fun h => by simp at h⟩
          · obtain ⟨q, rfl⟩ : ∃ q, p = q + 1 := ⟨p - 1, by omega⟩
            have hpj : J'[q]? = some (.arr (bsD d) true) := hpj
            have zq : ∀ X : Heap, (J' ++ X)[q]? = some (.arr (bsD d) true) := fun X => by rw [List.getElem?_append_left (List.getElem?_eq_some_iff.1 hpj).1]; exact hpj
            simp (config := {decide := true}) only [K_paddocklaw6_ObjectsBytes_2, l_paddocklaw6_ObjectsBytes_2, h0, h3, h4, h5, h6, hx, hd, hw, hw1, hw2, b0, nb, k1, k2, k4, hwc, hcf, hio, hdo, yn, z0, z1, z2, z2', t0, t1, t2, t2', Bool.not_false, Bool.not_true, guardR_und, Pk.EVL, keepT, enum, ↓reduceIte, ev, act, appT, callee, toDs, toD, loadA, storeA, subA, subD, updA, Eff.on, resA, resVs, resV, lk, finish, frzR, frzVs, frzV, fznR, fzns, fzn, lts, lt, ltO, List.all, pairsOk, indep, reduceCtorEq, Nat.reduceEqDiff, Nat.reduceAdd, Nat.reduceLeDiff, stb, thaws, List.drop, intOfA, binD, binI, unD, mmL, buildA, mkAgg, allD, behind, behind0, takeAt, frzAs, frzA, adoptR, adopt, isD, isD0, trim, List.take, binS, sliceA, bnd, zOk, elems, Nat.reduceBNe, inpl, Nat.reduceLT, Nat.reduceBEq, Nat.reduceSub, Nat.reduceMul, Int.reduceLT, Int.reduceLE, Int.reduceEq, Int.reduceToNat, Int.reduceNeg, thaw, nodup, refsV, adopts, Pk.TY_Base, Pk.TY_Opr, Pk.TY_Res]
            have hK0q : (J' ++ [Ob.box (.d (.agg (Opr.cs ⟨1, ((i + 1 : Nat) : Int), o.kind, 2, o.at_, o.data⟩))), .box (.d (.agg (Base.cs c))), .box (.d (.agg (Res.cs r)))])[q]? = some (.arr (bsD d) true) := zq _
            have hK01 : (J' ++ [Ob.box (.d (.agg (Opr.cs ⟨1, ((i + 1 : Nat) : Int), o.kind, 2, o.at_, o.data⟩))), .box (.d (.agg (Base.cs c))), .box (.d (.agg (Res.cs r)))])[J'.length]? = some (.box (.d (.agg (Opr.cs ⟨1, ((i + 1 : Nat) : Int), o.kind, 2, o.at_, o.data⟩)))) := z0 _ _
            have hK02 : (J' ++ [Ob.box (.d (.agg (Opr.cs ⟨1, ((i + 1 : Nat) : Int), o.kind, 2, o.at_, o.data⟩))), .box (.d (.agg (Base.cs c))), .box (.d (.agg (Res.cs r)))])[J'.length + 1]? = some (.box (.d (.agg (Base.cs c)))) := z1 _ _ _
            have hql : q ≠ J'.length ∧ q ≠ J'.length + 1 := by have := (List.getElem?_eq_some_iff.1 hpj).1; omega
            have hpad := fun (T : Tm) h7 h4 => pad_run1 ⟨1, ((i + 1 : Nat) : Int), o.kind, 2, o.at_, o.data⟩ d m (q + 1) (J'.length + 1) T (.box (.d (.agg (Base.cs b))) :: (J' ++ [Ob.box (.d (.agg (Opr.cs ⟨1, ((i + 1 : Nat) : Int), o.kind, 2, o.at_, o.data⟩))), .box (.d (.agg (Base.cs c))), .box (.d (.agg (Res.cs r)))])) (by show 0 ≤ o.at_ ∧ o.at_ ≤ 300; omega) (by first | exact hd3 | decide) (by show o.data.size ≤ 300; omega) hm h7 hK01 h4 hK0q
            rw [show (Ob.box (.d (.agg (Base.cs b))) :: (J' ++ [Ob.box (.d (.agg (Opr.cs ⟨1, ((i + 1 : Nat) : Int), o.kind, 2, o.at_, o.data⟩))), .box (.d (.agg (Base.cs c))), .box (.d (.agg (Res.cs r)))])).length = J'.length + 3 + 1 by simp] at hpad
            simp only [Option.bind_assoc]
            refine ex_run (hpad _ rfl rfl) ?_
            rintro e T' H' ⟨rfl, g0, g3, g5, g6, g7, g8, g4, J2, rfl⟩
            clear hpad
            simp (config := {decide := true}) only [lk, ↓reduceIte] at g0 g3 g5 g6 g7 g8
            rw [List.set_cons_succ, List.cons_append]
            obtain ⟨f1, f2, f3, f4, f5⟩ := tail_facts (J2 := J2) (e := bsD (grown d m)) hK0q hK01 hK02 hql.1 hql.2
            generalize (J' ++ [Ob.box (.d (.agg (Opr.cs ⟨1, ((i + 1 : Nat) : Int), o.kind, 2, o.at_, o.data⟩))), .box (.d (.agg (Base.cs c))), .box (.d (.agg (Res.cs r)))]).set q (.arr (bsD (grown d m)) true) ++ J2 = K at *
            have hbl : (bsD (grown d m)).length = max (ByteArray.size d) m := by rw [bsD_len, grown_size]
            obtain ⟨a, ha⟩ : ∃ a : Nat, o.at_ = (a : Int) := ⟨o.at_.toNat, by omega⟩
            have hmm : m = a := by omega
            have hsub : subL (bsD (grown d m)) (0 + 0) (a - 0) = bsD ((grown d a).extract 0 a) := by rw [bsD_cut, hmm]; rfl
            have hsub0 : subL (bsD (grown d m)) 0 a = bsD ((grown d a).extract 0 a) := by rw [bsD_cut, hmm]
            have hsz : ((grown d a).extract 0 a).size = a := by rw [ByteArray.size_extract, grown_size]; omega
            have hbl2 : (bsD ((grown d a).extract 0 a)).length = a := by rw [bsD_len]; exact hsz
            have hsub2 : subL (bsD ((grown d a).extract 0 a)) 0 a = bsD ((grown d a).extract 0 a) := by unfold subL; rw [List.drop_zero]; exact List.take_of_length_le (by omega)
            have hby := bytesOf_bsD ((grown d a).extract 0 a)
            have hbk := bsD_back ((grown d a).extract 0 a)
            have hall := bsD_cells ((grown d a).extract 0 a)
            have c1 : (0 ≤ (a : Int) ∧ (a : Int) ≤ ((max (ByteArray.size d) m : Nat) : Int)) = True := eq_true ⟨by omega, by omega⟩
            have c2 : (a ≤ LIM) = True := eq_true (by unfold LIM; omega)
            have klen : ∀ x : Ob, (K ++ [x])[K.length]? = some x := fun x => by simp
            have f5' : ∀ X : Heap, (K ++ X)[J'.length + 1]? = some (.box (.d (.agg (Base.cs c)))) := fun X => by rw [List.getElem?_append_left (List.getElem?_eq_some_iff.1 f5).1]; exact f5
            rw [show o.at_.toNat = a by omega] at hst
            simp (config := {decide := true}) only [h0, h3, h4, h5, h6, hw, nb, g0, g3, g5, g6, g7, g8, g4, f1, f2, f5', klen, ha, hbl, c1, c2, hsub, hsub0, hall, hbl2, hsub2, hby, hbk, r10, r11, hst.1, hst.2.1, eqb, hse, Int.toNat_natCast, Nat.sub_zero, List.set_cons_zero, elems, Bool.not_false, Bool.not_true, guardR_und, Pk.EVL, keepT, enum, ↓reduceIte, ev, act, appT, callee, toDs, toD, loadA, storeA, subA, subD, updA, Eff.on, resA, resVs, resV, lk, finish, frzR, frzVs, frzV, fznR, fzns, fzn, lts, lt, ltO, List.all, pairsOk, indep, reduceCtorEq, Nat.reduceEqDiff, Nat.reduceAdd, Nat.reduceLeDiff, stb, thaws, List.drop, intOfA, binD, binI, unD, mmL, buildA, mkAgg, allD, behind, behind0, takeAt, frzAs, frzA, adoptR, adopt, isD, isD0, trim, List.take, binS, sliceA, bnd, zOk, elems, Nat.reduceBNe, inpl, Nat.reduceLT, Nat.reduceBEq, Nat.reduceSub, Nat.reduceMul, Int.reduceLT, Int.reduceLE, Int.reduceEq, Int.reduceToNat, Int.reduceNeg, thaw, nodup, refsV, adopts, Pk.TY_Base, Pk.TY_Opr, Pk.TY_Res]
            refine ⟨_, _, _, rfl, ?_⟩
            exact .inl ⟨rfl, rfl, rfl, rfl, c, true, (grown d a).extract 0 a, _, rfl, rfl, .inr ⟨K.length + 1, by omega, by rw [hsz]; rfl, klen _⟩, hfit, by omega, hst.1, hst.2.1, fun h => by simp at h⟩
        · have n2 : ¬ (o.kind = 2 ∧ ((true, d) : Bool × ByteArray).1 = true ∧ o.at_ ≤ 16) := fun hh => cf hh.2.2
          rw [if_neg (n1 _), if_neg n2, if_neg (n3 _)] at hst
          have hcf := decide_eq_false cf
          have hc0 : (r.code == 0) = false := by rw [beq_eq_false_iff_ne]; exact hcd (n1 _) n2 (n3 _)
          rcases hsl' with ⟨h4, hd0⟩ | ⟨p, hp0, h4, hpj⟩
          · subst hd0
            simp (config := {decide := true}) only [K_paddocklaw6_ObjectsBytes_2, l_paddocklaw6_ObjectsBytes_2, h0, h3, h4, h5, h6, hx, hd, hw, hw1, hw2, b0, nb, k1, k2, k4, hwc, hcf, hc0, hio, hdo, yn, z0, z1, z2, z2', t0, t1, t2, t2', r10, r11, hst.1, hst.2.1, eqb, hse, elems, bytesOf, Bool.not_false, Bool.not_true, guardR_und, Pk.EVL, keepT, enum, ↓reduceIte, ev, act, appT, callee, toDs, toD, loadA, storeA, subA, subD, updA, Eff.on, resA, resVs, resV, lk, finish, frzR, frzVs, frzV, fznR, fzns, fzn, lts, lt, ltO, List.all, pairsOk, indep, reduceCtorEq, Nat.reduceEqDiff, Nat.reduceAdd, Nat.reduceLeDiff, stb, thaws, List.drop, intOfA, binD, binI, unD, mmL, buildA, mkAgg, allD, behind, behind0, takeAt, frzAs, frzA, adoptR, adopt, isD, isD0, trim, List.take, binS, sliceA, bnd, zOk, elems, Nat.reduceBNe, inpl, Nat.reduceLT, Nat.reduceBEq, Nat.reduceSub, Nat.reduceMul, Int.reduceLT, Int.reduceLE, Int.reduceEq, Int.reduceToNat, Int.reduceNeg, thaw, nodup, refsV, adopts, Pk.TY_Base, Pk.TY_Opr, Pk.TY_Res]
            refine ⟨_, _, _, rfl, ?_⟩
            exact .inl ⟨rfl, rfl, rfl, rfl, c, true, ⟨#[]⟩, _, rfl, rfl, .inl ⟨rfl, rfl⟩, hfit, by omega, hst.1, hst.2.1, fun _ => rfl⟩
          · obtain ⟨q, rfl⟩ : ∃ q, p = q + 1 := ⟨p - 1, by omega⟩
            have hpj : J'[q]? = some (.arr (bsD d) true) := hpj
            have zq : ∀ X : Heap, (J' ++ X)[q]? = some (.arr (bsD d) true) := fun X => by rw [List.getElem?_append_left (List.getElem?_eq_some_iff.1 hpj).1]; exact hpj
            have hbl := bsD_len d
            have hsub : subL (bsD d) 0 d.size = bsD d := by unfold subL; rw [List.drop_zero]; exact List.take_of_length_le (by omega)
            have hby := bytesOf_bsD d
            have hbk := bsD_back d
            simp (config := {decide := true}) only [K_paddocklaw6_ObjectsBytes_2, l_paddocklaw6_ObjectsBytes_2, h0, h3, h4, h5, h6, hx, hd, hw, hw1, hw2, b0, nb, k1, k2, k4, hwc, hcf, hc0, hio, hdo, yn, z0, z1, z2, z2', t0, t1, t2, t2', r10, r11, hst.1, hst.2.1, eqb, hse, zq, hbl, hsub, hby, hbk, elems, Bool.not_false, Bool.not_true, guardR_und, Pk.EVL, keepT, enum, ↓reduceIte, ev, act, appT, callee, toDs, toD, loadA, storeA, subA, subD, updA, Eff.on, resA, resVs, resV, lk, finish, frzR, frzVs, frzV, fznR, fzns, fzn, lts, lt, ltO, List.all, pairsOk, indep, reduceCtorEq, Nat.reduceEqDiff, Nat.reduceAdd, Nat.reduceLeDiff, stb, thaws, List.drop, intOfA, binD, binI, unD, mmL, buildA, mkAgg, allD, behind, behind0, takeAt, frzAs, frzA, adoptR, adopt, isD, isD0, trim, List.take, binS, sliceA, bnd, zOk, elems, Nat.reduceBNe, inpl, Nat.reduceLT, Nat.reduceBEq, Nat.reduceSub, Nat.reduceMul, Int.reduceLT, Int.reduceLE, Int.reduceEq, Int.reduceToNat, Int.reduceNeg, thaw, nodup, refsV, adopts, Pk.TY_Base, Pk.TY_Opr, Pk.TY_Res]
            refine ⟨_, _, _, rfl, ?_⟩
            exact .inl ⟨rfl, rfl, rfl, rfl, c, true, d, _, rfl, rfl, .inr ⟨q + 1, by omega, rfl, zq _⟩, hfit, by omega, hst.1, hst.2.1, hem⟩
    · have k1 : (o.kind == 1) = false := by rw [h]; rfl
      have k2 : (o.kind == 2) = false := by rw [h]; rfl
      have k4 : (o.kind == 4) = true := by rw [h]; rfl
      have n1 : ¬ (o.kind = 1 ∧ o.at_ + (o.data.size : Int) ≤ 16) := fun hh => by have := hh.1; omega
      have n2 : ∀ q : Prop, ¬ (o.kind = 2 ∧ q) := fun q hh => by have := hh.1; omega
      unfold stepB at hst
      rw [if_neg n1, if_neg (n2 _)] at hst
      cases th with
      | true =>
        rw [if_pos ⟨h, rfl⟩] at hst
        simp (config := {decide := true}) only [K_paddocklaw6_ObjectsBytes_2, l_paddocklaw6_ObjectsBytes_2, h0, h3, h5, h6, hx, hd, hw, hw1, hw2, b0, nb, k1, k2, k4, hio, hdo, yn, z0, z1, z2, z2', t0, t1, t2, t2', r10, r11, hst.1, hst.2.1, eqb, hse, elems, bytesOf, Bool.not_false, Bool.not_true, guardR_und, Pk.EVL, keepT, enum, ↓reduceIte, ev, act, appT, callee, toDs, toD, loadA, storeA, subA, subD, updA, Eff.on, resA, resVs, resV, lk, finish, frzR, frzVs, frzV, fznR, fzns, fzn, lts, lt, ltO, List.all, pairsOk, indep, reduceCtorEq, Nat.reduceEqDiff, Nat.reduceAdd, Nat.reduceLeDiff, stb, thaws, List.drop, intOfA, binD, binI, unD, mmL, buildA, mkAgg, allD, behind, behind0, takeAt, frzAs, frzA, adoptR, adopt, isD, isD0, trim, List.take, binS, sliceA, bnd, zOk, elems, Nat.reduceBNe, inpl, Nat.reduceLT, Nat.reduceBEq, Nat.reduceSub, Nat.reduceMul, Int.reduceLT, Int.reduceLE, Int.reduceEq, Int.reduceToNat, Int.reduceNeg, thaw, nodup, refsV, adopts, Pk.TY_Base, Pk.TY_Opr, Pk.TY_Res]
        refine ⟨_, _, _, rfl, ?_⟩
        exact .inl ⟨rfl, rfl, rfl, rfl, c, false, ⟨#[]⟩, _, rfl, rfl, .inl ⟨rfl, rfl⟩, hfit, by omega, hst.1, hst.2.1, fun _ => rfl⟩
      | false =>
        have n3 : ¬ (o.kind = 4 ∧ ((false, d) : Bool × ByteArray).1 = true) := fun hh => by simp at hh
        rw [if_neg n3] at hst
        have hc0 : (r.code == 0) = false := by rw [beq_eq_false_iff_ne]; exact hcd n1 (n2 _) n3
        rcases hsl' with ⟨h4, hd0⟩ | ⟨p, hp0, h4, hpj⟩
        · subst hd0
          simp (config := {decide := true}) only [K_paddocklaw6_ObjectsBytes_2, l_paddocklaw6_ObjectsBytes_2, h0, h3, h4, h5, h6, hx, hd, hw, hw1, hw2, b0, nb, k1, k2, k4, hc0, hio, hdo, yn, z0, z1, z2, z2', t0, t1, t2, t2', r10, r11, hst.1, hst.2.1, eqb, hse, elems, bytesOf, Bool.not_false, Bool.not_true, guardR_und, Pk.EVL, keepT, enum, ↓reduceIte, ev, act, appT, callee, toDs, toD, loadA, storeA, subA, subD, updA, Eff.on, resA, resVs, resV, lk, finish, frzR, frzVs, frzV, fznR, fzns, fzn, lts, lt, ltO, List.all, pairsOk, indep, reduceCtorEq, Nat.reduceEqDiff, Nat.reduceAdd, Nat.reduceLeDiff, stb, thaws, List.drop, intOfA, binD, binI, unD, mmL, buildA, mkAgg, allD, behind, behind0, takeAt, frzAs, frzA, adoptR, adopt, isD, isD0, trim, List.take, binS, sliceA, bnd, zOk, elems, Nat.reduceBNe, inpl, Nat.reduceLT, Nat.reduceBEq, Nat.reduceSub, Nat.reduceMul, Int.reduceLT, Int.reduceLE, Int.reduceEq, Int.reduceToNat, Int.reduceNeg, thaw, nodup, refsV, adopts, Pk.TY_Base, Pk.TY_Opr, Pk.TY_Res]
          refine ⟨_, _, _, rfl, ?_⟩
          exact .inl ⟨rfl, rfl, rfl, rfl, c, false, ⟨#[]⟩, _, rfl, rfl, .inl ⟨rfl, rfl⟩, hfit, by omega, hst.1, hst.2.1, fun _ => rfl⟩
        · obtain ⟨q, rfl⟩ : ∃ q, p = q + 1 := ⟨p - 1, by omega⟩
          have hpj : J'[q]? = some (.arr (bsD d) true) := hpj
          have zq : ∀ X : Heap, (J' ++ X)[q]? = some (.arr (bsD d) true) := fun X => by rw [List.getElem?_append_left (List.getElem?_eq_some_iff.1 hpj).1]; exact hpj
          have hbl := bsD_len d
          have hsub : subL (bsD d) 0 d.size = bsD d := by unfold subL; rw [List.drop_zero]; exact List.take_of_length_le (by omega)
          have hby := bytesOf_bsD d
          have hbk := bsD_back d
          simp (config := {decide := true}) only [K_paddocklaw6_ObjectsBytes_2, l_paddocklaw6_ObjectsBytes_2, h0, h3, h4, h5, h6, hx, hd, hw, hw1, hw2, b0, nb, k1, k2, k4, hc0, hio, hdo, yn, z0, z1, z2, z2', t0, t1, t2, t2', r10, r11, hst.1, hst.2.1, eqb, hse, zq, hbl, hsub, hby, hbk, elems, Bool.not_false, Bool.not_true, guardR_und, Pk.EVL, keepT, enum, ↓reduceIte, ev, act, appT, callee, toDs, toD, loadA, storeA, subA, subD, updA, Eff.on, resA, resVs, resV, lk, finish, frzR, frzVs, frzV, fznR, fzns, fzn, lts, lt, ltO, List.all, pairsOk, indep, reduceCtorEq, Nat.reduceEqDiff, Nat.reduceAdd, Nat.reduceLeDiff, stb, thaws, List.drop, intOfA, binD, binI, unD, mmL, buildA, mkAgg, allD, behind, behind0, takeAt, frzAs, frzA, adoptR, adopt, isD, isD0, trim, List.take, binS, sliceA, bnd, zOk, elems, Nat.reduceBNe, inpl, Nat.reduceLT, Nat.reduceBEq, Nat.reduceSub, Nat.reduceMul, Int.reduceLT, Int.reduceLE, Int.reduceEq, Int.reduceToNat, Int.reduceNeg, thaw, nodup, refsV, adopts, Pk.TY_Base, Pk.TY_Opr, Pk.TY_Res]
          refine ⟨_, _, _, rfl, ?_⟩
          exact .inl ⟨rfl, rfl, rfl, rfl, c, false, d, _, rfl, rfl, .inr ⟨q + 1, by omega, rfl, zq _⟩, hfit, by omega, hst.1, hst.2.1, hem⟩
  · rintro T H ⟨h0, h3, h6, b, th, d, J, h5, rfl, hsl, hbf, hq, hth, hda, hem⟩
    have hd : decide (((l.length : Nat) : Int) < ((l.length : Nat) : Int)) = false := by simp
    simp (config := {decide := true}) only [K_paddocklaw6_ObjectsBytes_2, l_paddocklaw6_ObjectsBytes_2, h0, h3, h5, h6, hd, Pk.EVL, keepT, enum, ↓reduceIte, ev, act, appT, callee, toDs, toD, loadA, storeA, subA, subD, updA, Eff.on, resA, resVs, resV, lk, finish, frzR, frzVs, frzV, fznR, fzns, fzn, lts, lt, ltO, List.all, pairsOk, indep, reduceCtorEq, Nat.reduceEqDiff, Nat.reduceAdd, Nat.reduceLeDiff, stb, thaws, List.drop, intOfA, binD, binI, unD, mmL, buildA, mkAgg, allD, behind, behind0, takeAt, frzAs, frzA, adoptR, adopt, isD, isD0, trim, List.take, binS, sliceA, bnd, zOk, elems, Nat.reduceBNe, inpl, Nat.reduceLT, Nat.reduceBEq, Nat.reduceSub, Nat.reduceMul, Int.reduceLT, Int.reduceLE, Int.reduceEq, Int.reduceToNat, Int.reduceNeg, thaw, nodup, refsV, adopts, Pk.TY_Base]
    refine ⟨_, _, _, rfl, ?_⟩
    exact ⟨by simp, rfl⟩
  rintro e T H rfl
  simp (config := {decide := true}) only [Pk.EVL, keepT, enum, ↓reduceIte, ev, act, appT, callee, toDs, toD, loadA, storeA, subA, subD, updA, Eff.on, resA, resVs, resV, lk, finish, frzR, frzVs, frzV, fznR, fzns, fzn, lts, lt, ltO, List.all, pairsOk, indep, reduceCtorEq, Nat.reduceEqDiff, Nat.reduceAdd, Nat.reduceLeDiff, stb, thaws, List.drop, intOfA, binD, binI, unD, mmL, buildA, mkAgg, allD, behind, behind0, takeAt, frzAs, frzA, adoptR, adopt, isD, isD0, trim, List.take, binS, sliceA, bnd, zOk, elems, Nat.reduceBNe, inpl, Nat.reduceLT, Nat.reduceBEq, Nat.reduceSub, Nat.reduceMul, Int.reduceLT, Int.reduceLE, Int.reduceEq, Int.reduceToNat, Int.reduceNeg, thaw, nodup, refsV, adopts]
end Go.Proofs.Ytclambdgbphfkaa
