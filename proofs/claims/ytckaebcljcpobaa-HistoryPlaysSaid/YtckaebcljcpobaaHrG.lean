/- Two histories, one behind the other. / The two histories told apart by nothing (paddocklaw5.alike). / A history and the document's one behind it: an increment added to the latter. -/
import Derived.Test.YtckaebcljcpobaaPlaceFst
import Derived.Test.YtckaebcljcpobaaHrE
set_option linter.all false
namespace Go.Proofs.Ytckaebcljcpobaa
open Pv Go Pk
set_option maxRecDepth 10000
set_option maxHeartbeats 4000000
/-- A history, another one behind it, and Y. -/
def h2 (p : Nat) (l : List Inc) (q : Grb) (p2 : Nat) (l2 : List Inc) (q2 : Grb) (Y : Heap) : Heap := hobs p (hsOf l) q ++ (hobs p2 (hsOf l2) q2 ++ Y)
section
variable {p p2 n : Nat} (hp : p = 0) (hp2 : p2 = 12) (hn : n = 24)
variable {l : List Inc} {q : Grb} (hq : q.pl) {l2 : List Inc} {q2 : Grb} (hq2 : q2.pl) {X : Heap} (hX : plain X)
include hp hp2 hq hq2 hX
end
/-- Rows of intervals, alike. -/
theorem intervals5_self (V : List Itv) (hV : V.length ≤ 1000) (ha : ∀ x ∈ V, x.acting.length ≤ 1000) : evF C F_paddocklaw5_intervals [.d (.sl (V.map Itv.d)), .d (.sl (V.map Itv.d))] [] = some (.d (.b true), []) := by
  rw [evF_code (rfl : C F_paddocklaw5_intervals = some a_paddocklaw5_intervals) _ _ rfl]
  have hVm : (V.map Itv.d).length = V.length := List.length_map _
  have hne : (((V.length : Nat) : Int) != ((V.length : Nat) : Int)) = false := by simp
  simp (config := {decide := true}) only [c_paddocklaw5_intervals, hVm, hne, thaws, Pk.EVL, keepT, enum, ↓reduceIte, ev, act, appT, callee, toDs, toD, loadA, storeA, subA, subD, updA, Eff.on, resA, resVs, resV, lk, finish, frzR, frzVs, frzV, fznR, fzns, fzn, lts, lt, ltO, List.all, pairsOk, indep, reduceCtorEq, Nat.reduceEqDiff, Nat.reduceAdd, Nat.reduceLeDiff, stb, thaws, List.drop, intOfA, binD, binI, unD, mmL, buildA, mkAgg, allD, bslD, behind, behind0, takeAt, frzAs, frzA, adoptR, adopt, isD, isD0, trim, List.take, binS, sliceA, bnd, zOk, elems, Nat.reduceBNe, inpl, Nat.reduceLT, Nat.reduceBEq, Nat.reduceSub, Nat.reduceMul, Int.reduceLT, Int.reduceLE, Int.reduceEq, Int.reduceToNat, Int.reduceNeg, thaw, nodup, refsV, adopts]
  simp only [Option.bind_assoc]
  refine bind_run (loop_run (fun i T H => lk T 0 = .d (.sl (V.map Itv.d)) ∧ lk T 1 = .d (.sl (V.map Itv.d)) ∧ lk T 5 = .d (.i .i64 (i : Nat)) ∧ H = []) (fun e T H => e = .exit 0 ∧ H = []) V.length ?_ ?_ V.length 0 _ _ (by omega) ⟨rfl, rfl, rfl, rfl⟩) ?_
  · rintro i T H hi ⟨h0, h1, h5, rfl⟩
    obtain ⟨x, hx⟩ : ∃ x, V[i]? = some x := ⟨V[i]'hi, List.getElem?_eq_getElem _⟩
    have hxd := list_idx Itv.d hx
    have hd : decide ((i : Int) < ((V.length : Nat) : Int)) = true := by simp; omega
    have hw : IntKind.i64.wrap ((i : Int) + 1) = ((i + 1 : Nat) : Int) := wi64 (by omega)
    have b0 : (0 ≤ (i : Int)) = True := by simp
    have hs : (x.since != x.since) = false := by simp
    have IS := ints5_at x.acting x.acting (ha x (List.mem_of_getElem? hx))
    rw [decide_eq_true rfl] at IS
    simp (config := {decide := true}) only [K_paddocklaw5_intervals_0, l_paddocklaw5_intervals_0, h0, h1, h5, hVm, hd, hw, b0, hxd, hs, IS, eptr_itv, Pk.EVL, keepT, enum, ↓reduceIte, ev, act, appT, callee, toDs, toD, loadA, storeA, subA, subD, updA, Eff.on, resA, resVs, resV, lk, finish, frzR, frzVs, frzV, fznR, fzns, fzn, lts, lt, ltO, List.all, pairsOk, indep, reduceCtorEq, Nat.reduceEqDiff, Nat.reduceAdd, Nat.reduceLeDiff, stb, thaws, List.drop, intOfA, binD, binI, unD, mmL, buildA, mkAgg, allD, bslD, behind, behind0, takeAt, frzAs, frzA, adoptR, adopt, isD, isD0, trim, List.take, binS, sliceA, bnd, zOk, elems, Nat.reduceBNe, inpl, Nat.reduceLT, Nat.reduceBEq, Nat.reduceSub, Nat.reduceMul, Int.reduceLT, Int.reduceLE, Int.reduceEq, Int.reduceToNat, Int.reduceNeg, thaw, nodup, refsV, adopts, Pk.TY_Itv]
    exact ⟨_, _, _, rfl, .inl ⟨rfl, rfl, rfl, rfl, rfl⟩⟩
  · rintro T H ⟨h0, h1, h5, rfl⟩
    have hd : decide (((V.length : Nat) : Int) < ((V.length : Nat) : Int)) = false := by simp
    simp (config := {decide := true}) only [K_paddocklaw5_intervals_0, l_paddocklaw5_intervals_0, h0, h1, h5, hVm, hd, Pk.EVL, keepT, enum, ↓reduceIte, ev, act, appT, callee, toDs, toD, loadA, storeA, subA, subD, updA, Eff.on, resA, resVs, resV, lk, finish, frzR, frzVs, frzV, fznR, fzns, fzn, lts, lt, ltO, List.all, pairsOk, indep, reduceCtorEq, Nat.reduceEqDiff, Nat.reduceAdd, Nat.reduceLeDiff, stb, thaws, List.drop, intOfA, binD, binI, unD, mmL, buildA, mkAgg, allD, bslD, behind, behind0, takeAt, frzAs, frzA, adoptR, adopt, isD, isD0, trim, List.take, binS, sliceA, bnd, zOk, elems, Nat.reduceBNe, inpl, Nat.reduceLT, Nat.reduceBEq, Nat.reduceSub, Nat.reduceMul, Int.reduceLT, Int.reduceLE, Int.reduceEq, Int.reduceToNat, Int.reduceNeg, thaw, nodup, refsV, adopts]
    exact ⟨_, _, _, rfl, by simp, rfl, rfl⟩
  rintro e T H ⟨rfl, rfl⟩
  simp (config := {decide := true}) only [Pk.EVL, keepT, enum, ↓reduceIte, ev, act, appT, callee, toDs, toD, loadA, storeA, subA, subD, updA, Eff.on, resA, resVs, resV, lk, finish, frzR, frzVs, frzV, fznR, fzns, fzn, lts, lt, ltO, List.all, pairsOk, indep, reduceCtorEq, Nat.reduceEqDiff, Nat.reduceAdd, Nat.reduceLeDiff, stb, thaws, List.drop, intOfA, binD, binI, unD, mmL, buildA, mkAgg, allD, bslD, behind, behind0, takeAt, frzAs, frzA, adoptR, adopt, isD, isD0, trim, List.take, binS, sliceA, bnd, zOk, elems, Nat.reduceBNe, inpl, Nat.reduceLT, Nat.reduceBEq, Nat.reduceSub, Nat.reduceMul, Int.reduceLT, Int.reduceLE, Int.reduceEq, Int.reduceToNat, Int.reduceNeg, thaw, nodup, refsV, adopts]
end Go.Proofs.Ytckaebcljcpobaa

namespace Go.Proofs.Ytckaebcljcpobaa
open Pv Go Pk
set_option maxRecDepth 10000
set_option maxHeartbeats 4000000
def frzI (q : Grb) : Nat → Grb
  | 0 => q
  | i + 1 => (frzI q i).frz (i : Int)
theorem frzI_pl {q : Grb} (h : q.pl) : ∀ i, (frzI q i).pl
  | 0 => h
  | i + 1 => Grb.frz_pl (frzI_pl h i) i
theorem frz_out (q : Grb) (g : Int) (hg : ¬ (0 ≤ g ∧ g < 4)) : q.frz g = q := by
  unfold Grb.frz
  rw [if_neg (by omega), if_neg (by omega), if_neg (by omega), if_neg (by omega)]
section
variable {P S : Heap} {p n n0 : Nat} (hP : P.length = p) (hn : p + 12 + S.length = n) (hPp : plain P) (hS : ∀ k, S.all (ltO (n + k)) = true)
variable (hn0 : p + 12 = n0) {R W : Heap} {G : List Inc} (hSe : S = R ++ W) (hR : rOk n0 R G) (hG : goodI G)
include hP hn hPp hS hn0 hSe hR hG
theorem alike_at {q : Grb} (hq : q.pl) (gr : Int) (hgr : 0 ≤ gr ∧ gr < 256) : evF C F_paddocklaw5_alike [.ptr (p + 2) 0, .ptr n0 0, .d (.i .u8 gr)] (hz P S p G q []) = some (.d (.b true), hz P S p G (frzI q 4) []) := by
  have hRp := rOk_pos hR
  have hSl : S.length = R.length + W.length := by rw [hSe, List.length_append]
  have hn0n : n0 < n := by omega
  have kl := hz_len hP hn
  have ka := hz_at hP hn
  have ka0 := hz_at0 hP hn
  have ks := hz_set hP hn
  have ks0 := hz_set0 hP hn
  have kt := hz_take hP hn
  have kt0 := hz_take0 hP hn
  have L1 := fun q (hq : Grb.pl q) X (hX : plain X) => @z_last _ _ _ _ hP hn hPp hS G q hq X hX
  have L2 := fun q (hq : Grb.pl q) X (hX : plain X) => @zq_last _ _ _ _ _ hP hn hPp hS hn0 _ _ _ hSe hR hG G q hq X hX
  have M1 := fun X (hX : plain X) => @z_map _ _ _ _ hP hn hPp hS G q hq X hX ((G.length : Int) + 1)
  have M2 := fun X (hX : plain X) => @zq_map _ _ _ _ _ hP hn hPp hS hn0 _ _ _ hSe hR hG G q hq X hX G.length (Nat.le_refl _)
  have hm : decide (1 ≤ ((G.length : Int) + 1) ∧ ((G.length : Int) + 1) ≤ (G.length : Int) + 1) = true := decide_eq_true (by omega)
  rw [hm, if_pos rfl, show ((G.length : Int) + 1 - 1).toNat = G.length by omega, List.take_length] at M1
  rw [List.take_length] at M2
  have hzb : ∀ (q : Grb), q.pl → ∀ (Y : Heap), plain Y → ∀ k, (hz P S p G q Y).all (ltO (n + k)) = true := fun q hq Y hY k => hz_all hP hn hPp hS G hq hY k
  have a0 := fun (Y : Heap) (hY : plain Y) => hzb q hq Y hY 0
  have a1 := fun (Y : Heap) (hY : plain Y) => hzb q hq Y hY 1
  have a4 := fun (Y : Heap) (hY : plain Y) => hzb (frzI q 4) (frzI_pl hq 4) Y hY 0
  have a5 := fun (Y : Heap) (hY : plain Y) => hzb (frzI q 4) (frzI_pl hq 4) Y hY 1
  simp only [Nat.add_zero] at a0 a4
  have n1 : (p + 2 < n) = True := eq_true (by omega)
  have n2 : (n0 < n) = True := eq_true hn0n
  have n3 : (p + 2 < n + 1) = True := eq_true (by omega)
  have n4 : (n0 < n + 1) = True := eq_true (by omega)
  have v0 : (((G.length : Int) + 1) != ((G.length : Int) + 1)) = false := by simp
  rw [evF_code (rfl : C F_paddocklaw5_alike = some a_paddocklaw5_alike) _ _ rfl]
  generalize mapAt G = M at *
  have L1q := L1 q hq
  have L2q := L2 q hq
  simp (config := {decide := true}) only [c_paddocklaw5_alike, L1q, L2q, M1, M2, v0, kl, ka, ka0, ks, ks0, kt, kt0, hz_push, a0, a1, n1, n2, n3, n4, sameH_self, thaws, ite_self, Nat.zero_le, Nat.le_refl, List.take_zero, plain_nil, plain_arr, plain_box, guardR_und, Pk.EVL, keepT, enum, ↓reduceIte, ev, act, appT, callee, toDs, toD, loadA, storeA, subA, subD, updA, Eff.on, resA, resVs, resV, lk, finish, frzR, frzVs, frzV, fznR, fzns, fzn, lts, lt, ltO, List.all, pairsOk, indep, reduceCtorEq, Nat.reduceEqDiff, Nat.reduceAdd, Nat.reduceLeDiff, stb, thaws, List.drop, intOfA, binD, binI, unD, mmL, buildA, mkAgg, allD, bslD, behind, behind0, takeAt, frzAs, frzA, adoptR, adopt, isD, isD0, trim, List.take, binS, sliceA, bnd, zOk, elems, Nat.reduceBNe, inpl, Nat.reduceLT, Nat.reduceBEq, Nat.reduceSub, Nat.reduceMul, Int.reduceLT, Int.reduceLE, Int.reduceEq, Int.reduceToNat, Int.reduceNeg, thaw, nodup, refsV, adopts, Pk.TY_Mp]
  simp only [Option.bind_assoc]
  have pb : plain [.box (.d (.agg M.cs))] := by rw [plain_box]; exact fun _ => rfl
  have I1 := fun q (hq : Grb.pl q) g (h0 : 0 ≤ g) => @z_ivs _ _ _ _ hP hn hPp hS G hG q hq _ pb g h0
  have I2 := fun q (hq : Grb.pl q) g (h0 : 0 ≤ g) => @zq_ivs _ _ _ _ _ hP hn hPp hS hn0 _ _ _ hSe hR hG G q hq _ pb g h0
  have C1 := fun q (hq : Grb.pl q) g (h0 : 0 ≤ g) => @z_acting _ _ _ _ hP hn hPp hS G hG q hq _ pb g h0
  have N2 := fun q (hq : Grb.pl q) g (h0 : 0 ≤ g) => @zq_now _ _ _ _ _ hP hn hPp hS hn0 _ _ _ hSe hR hG G q hq _ pb g h0
  have S1 := fun q (hq : Grb.pl q) g (h0 : 0 ≤ g) => @z_since _ _ _ _ hP hn hPp hS G hG q hq _ pb g h0
  refine bind_run (loop_run (fun i T H => lk T 0 = .ptr (p + 2) 0 ∧ lk T 1 = .ptr n0 0 ∧ lk T 2 = .d (.i .u8 gr) ∧ lk T 9 = .d (.i .u8 (i : Nat)) ∧ H = hz P S p G (frzI q i) [.box (.d (.agg M.cs))])
    (fun e T H => e = .exit 0 ∧ lk T 0 = .ptr (p + 2) 0 ∧ lk T 2 = .d (.i .u8 gr) ∧ H = hz P S p G (frzI q 4) [.box (.d (.agg M.cs))]) 4 ?_ ?_ 4 0 _ _ (by omega) ⟨rfl, rfl, rfl, rfl, rfl⟩) ?_
  · rintro i T H hi ⟨h0, h1, h2, h9, rfl⟩
    have hqi := frzI_pl hq i
    have hqj := frzI_pl hq (i + 1)
    have hz0 : (frzI q i).frz (i : Int) = frzI q (i + 1) := rfl
    have I1i := I1 (frzI q i) hqi (i : Int) (by omega)
    rw [hz0] at I1i
    have I2i := I2 (frzI q (i + 1)) hqj (i : Int) (by omega)
    have C1i := C1 (frzI q (i + 1)) hqj (i : Int) (by omega)
    have N2i := N2 (frzI q (i + 1)) hqj (i : Int) (by omega)
    have S1i := S1 (frzI q (i + 1)) hqj (i : Int) (by omega)
    have IS := intervals5_self (ivL G i) (by have := ivL_len hG i (by omega); have := hG.1; omega) (fun x hx => by have := ivL_mem hG i x hx; omega)
    have AC := ints5_at (lastI (ivL G i)).acting (lastI (ivL G i)).acting (by have := lastI_len hG i; omega)
    rw [decide_eq_true rfl] at AC
    have ai := hzb (frzI q i) hqi _ pb 1
    have tki := kt G (frzI q i) [.box (.d (.agg M.cs))] 1
    have hd : decide ((i : Int) < 4) = true := by simp; omega
    have hw : IntKind.u8.wrap ((i : Int) + 1) = ((i + 1 : Nat) : Int) := by rw [show (i : Int) + 1 = ((i + 1 : Nat) : Int) by omega]; exact wu8 (by omega)
    have se : ((lastI (ivL G i)).since != (lastI (ivL G i)).since) = false := by simp
    generalize lastI (ivL G i) = w at *
    generalize ivL G i = IV at *
    simp (config := {decide := true}) only [K_paddocklaw5_alike_0, l_paddocklaw5_alike_0, h0, h1, h2, h9, I1i, I2i, C1i, N2i, S1i, IS, AC, se, hd, hw, ai, tki, n3, n4, kl, ka, ka0, ks, ks0, kt, kt0, hz_push, ite_self, Nat.zero_le, Nat.le_refl, List.take_zero, guardR_und, Pk.EVL, keepT, enum, ↓reduceIte, ev, act, appT, callee, toDs, toD, loadA, storeA, subA, subD, updA, Eff.on, resA, resVs, resV, lk, finish, frzR, frzVs, frzV, fznR, fzns, fzn, lts, lt, ltO, List.all, pairsOk, indep, reduceCtorEq, Nat.reduceEqDiff, Nat.reduceAdd, Nat.reduceLeDiff, stb, thaws, List.drop, intOfA, binD, binI, unD, mmL, buildA, mkAgg, allD, bslD, behind, behind0, takeAt, frzAs, frzA, adoptR, adopt, isD, isD0, trim, List.take, binS, sliceA, bnd, zOk, elems, Nat.reduceBNe, inpl, Nat.reduceLT, Nat.reduceBEq, Nat.reduceSub, Nat.reduceMul, Int.reduceLT, Int.reduceLE, Int.reduceEq, Int.reduceToNat, Int.reduceNeg, thaw, nodup, refsV, adopts, Pk.TY_Itv]
    exact ⟨_, _, _, rfl, .inl ⟨rfl, rfl, rfl, rfl, rfl, rfl⟩⟩
  · rintro T H ⟨h0, h1, h2, h9, rfl⟩
    have h9 : lk T 9 = .d (.i .u8 4) := h9
    have ai := hzb (frzI q 4) (frzI_pl hq 4) _ pb 1
    have tki := kt G (frzI q 4) [.box (.d (.agg M.cs))] 1
    simp (config := {decide := true}) only [K_paddocklaw5_alike_0, l_paddocklaw5_alike_0, h0, h1, h2, h9, ai, tki, n3, n4, ite_self, Pk.EVL, keepT, enum, ↓reduceIte, ev, act, appT, callee, toDs, toD, loadA, storeA, subA, subD, updA, Eff.on, resA, resVs, resV, lk, finish, frzR, frzVs, frzV, fznR, fzns, fzn, lts, lt, ltO, List.all, pairsOk, indep, reduceCtorEq, Nat.reduceEqDiff, Nat.reduceAdd, Nat.reduceLeDiff, stb, thaws, List.drop, intOfA, binD, binI, unD, mmL, buildA, mkAgg, allD, bslD, behind, behind0, takeAt, frzAs, frzA, adoptR, adopt, isD, isD0, trim, List.take, binS, sliceA, bnd, zOk, elems, Nat.reduceBNe, inpl, Nat.reduceLT, Nat.reduceBEq, Nat.reduceSub, Nat.reduceMul, Int.reduceLT, Int.reduceLE, Int.reduceEq, Int.reduceToNat, Int.reduceNeg, thaw, nodup, refsV, adopts]
    exact ⟨_, _, _, rfl, by simp, rfl, rfl, rfl, rfl⟩
  rintro e T H ⟨rfl, h0, h2, rfl⟩
  have hq4 := frzI_pl hq 4
  have a40 := hzb (frzI q 4) hq4 [] (fun _ => rfl) 0
  rw [Nat.add_zero] at a40
  by_cases hg : gr < 4
  · have hgd := decide_eq_true hg
    generalize frzI q 4 = q4 at *
    simp (config := {decide := true}) only [h0, h2, hgd, a40, n1, n2, n3, n4, kl, ka, ka0, ks, ks0, kt, kt0, hz_push, ite_self, Nat.zero_le, Nat.le_refl, List.take_zero, guardR_und, Pk.EVL, keepT, enum, ↓reduceIte, ev, act, appT, callee, toDs, toD, loadA, storeA, subA, subD, updA, Eff.on, resA, resVs, resV, lk, finish, frzR, frzVs, frzV, fznR, fzns, fzn, lts, lt, ltO, List.all, pairsOk, indep, reduceCtorEq, Nat.reduceEqDiff, Nat.reduceAdd, Nat.reduceLeDiff, stb, thaws, List.drop, intOfA, binD, binI, unD, mmL, buildA, mkAgg, allD, bslD, behind, behind0, takeAt, frzAs, frzA, adoptR, adopt, isD, isD0, trim, List.take, binS, sliceA, bnd, zOk, elems, Nat.reduceBNe, inpl, Nat.reduceLT, Nat.reduceBEq, Nat.reduceSub, Nat.reduceMul, Int.reduceLT, Int.reduceLE, Int.reduceEq, Int.reduceToNat, Int.reduceNeg, thaw, nodup, refsV, adopts]
  · have hgd := decide_eq_false hg
    have I1i := I1 (frzI q 4) hq4 gr hgr.1
    rw [frz_out _ gr (by omega)] at I1i
    have C1i := C1 (frzI q 4) hq4 gr hgr.1
    have S1i := S1 (frzI q 4) hq4 gr hgr.1
    rw [ivL_out G gr (by omega)] at I1i C1i S1i
    rw [show lastI [] = (⟨0, []⟩ : Itv) from rfl] at C1i S1i
    simp only [List.map_nil] at I1i C1i
    have v00 : (((0 : Nat) : Int) == 0) = true := rfl
    have v01 : ((0 : Int) == 0) = true := rfl
    generalize frzI q 4 = q4 at *
    simp (config := {decide := true}) only [h0, h2, hgd, I1i, C1i, S1i, v00, v01, a40, n1, n2, n3, n4, kl, ka, ka0, ks, ks0, kt, kt0, hz_push, List.length_nil, ite_self, Nat.zero_le, Nat.le_refl, List.take_zero, guardR_und, Pk.EVL, keepT, enum, ↓reduceIte, ev, act, appT, callee, toDs, toD, loadA, storeA, subA, subD, updA, Eff.on, resA, resVs, resV, lk, finish, frzR, frzVs, frzV, fznR, fzns, fzn, lts, lt, ltO, List.all, pairsOk, indep, reduceCtorEq, Nat.reduceEqDiff, Nat.reduceAdd, Nat.reduceLeDiff, stb, thaws, List.drop, intOfA, binD, binI, unD, mmL, buildA, mkAgg, allD, bslD, behind, behind0, takeAt, frzAs, frzA, adoptR, adopt, isD, isD0, trim, List.take, binS, sliceA, bnd, zOk, elems, Nat.reduceBNe, inpl, Nat.reduceLT, Nat.reduceBEq, Nat.reduceSub, Nat.reduceMul, Int.reduceLT, Int.reduceLE, Int.reduceEq, Int.reduceToNat, Int.reduceNeg, thaw, nodup, refsV, adopts]
end
end Go.Proofs.Ytckaebcljcpobaa

namespace Go.Proofs.Ytckaebcljcpobaa
open Pv Go Pk
set_option maxRecDepth 10000
set_option maxHeartbeats 4000000
theorem hz_hr (P S : Heap) (p : Nat) (l : List Inc) (q : Grb) : hz P S p l q [] = hr (P ++ hobs p (hsOf l) q) S := by simp [hz, hq, hr]
section
variable {P : Heap} {p n0 : Nat} (hP : P.length = p) (hn0 : p + 12 = n0) (hPp : plain P) {S : Heap} {G : List Inc} (hS : rOk n0 S G) (hG : goodI G) {q : Grb} (hq : q.pl) (G2 : List Inc)
include hP hn0 in
theorem zr_len : (P ++ hobs p (hsOf G2) q).length = n0 := by rw [List.length_append, hobs_len, hP, hn0]
include hP hn0 hPp hq in
theorem zr_all (k : Nat) : (P ++ hobs p (hsOf G2) q).all (ltO (n0 + k)) = true := by
  have := hobs_ltO (n := n0) hP hn0 (hsOf G2) hq k
  rw [List.all_append, hPp, this]; rfl
include hP hn0 hPp hS hG hq in
theorem zr_last : evF C F_paddockref3_History_Last [.ptr n0 0] (hz P S p G2 q []) = some (.d (.i .u32 ((G.length : Int) + 1)), hz P S p G2 q []) := by
  have hSp := rOk_pos hS
  have hSa := rOk_all hS
  have hA := zr_all hP hn0 hPp hq G2
  have hl := zr_len hP hn0 (q := q) G2
  rw [hz_hr]
  obtain ⟨v, T, hLe, hT, hv⟩ := hS
  refine reflast_at (m := n0 + S.length) (by rw [hr_len hl]) (by omega) (fun k => by rw [hr_all, hSa k, Nat.add_assoc, hA]; rfl) (v := v) ?_ (by rw [hr_at0 hl, hLe]; rfl) hG
  rcases hv with ⟨h1, h2, _⟩ | ⟨j, h1, hj⟩
  · exact .inl ⟨h1, h2⟩
  · have hjl := (List.getElem?_eq_some_iff.1 hj).1
    have hl2 : S.length = T.length + 1 := by rw [hLe]; rfl
    exact .inr ⟨n0 + 1 + j, h1, by omega, by rw [show n0 + 1 + j = n0 + (j + 1) by omega, hr_at hl, hLe]; exact hj⟩
include hP hn0 hPp hS hG hq in
theorem zr_add (x : Inc) (hx : x.ok) : ∃ S', rOk n0 S' (takeN G x) ∧ S.length ≤ S'.length ∧ evF C F_paddockref3_History_Add [.ptr n0 0, .d (.i .u32 ((G.length : Int) + 2)), .d (.agg x.cs)] (hz P S p G2 q []) = some (.d (.i .i64 (codeN G x)), hz P S' p G2 q []) := by
  obtain ⟨S', h1, hle, h2⟩ := refadd_at (zr_len hP hn0 (q := q) G2) (zr_all hP hn0 hPp hq G2) hS hG x hx
  exact ⟨S', h1, hle, by rw [hz_hr, hz_hr]; exact h2⟩
include hP hn0 hS in
theorem zr_trim : (if ((List.take (n0 + 1) (hz P S p G2 q [])).all (ltO (n0 + 1))) = true then List.take (n0 + 1) (hz P S p G2 q []) else hz P S p G2 q []) = hz P S p G2 q [] := by
  have hl := zr_len hP hn0 (q := q) G2
  rw [hz_hr]
  obtain ⟨v, T, hLe, hT, hv⟩ := hS
  rcases hv with ⟨h1, h2, h3⟩ | ⟨j, h1, hj⟩
  · rw [List.take_of_length_le (by rw [hr_len hl, hLe, h3]; exact Nat.le_refl _), ite_self]
  · rw [if_neg]
    rw [hr_take hl, hr_all, hLe, h1]
    simp [ltO, lt, lts]
end
end Go.Proofs.Ytckaebcljcpobaa
