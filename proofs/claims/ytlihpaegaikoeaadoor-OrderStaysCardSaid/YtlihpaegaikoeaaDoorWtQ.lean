/- One order: what the laws know. / One order: entries that weren't acknowledged may be replaced by a later start: plain laws, and the search for an object. / One order: entries that weren't acknowledged may be replaced by a later start; those that were may not: the law OrderForks. / The document's operations on objects compute the same. / One order: a read is taken, if at some number it tells that; else not: the law OrderReads. / One order: states that go on from one another: plain laws for OrderRows. / One order: states that go on from one another: the law OrderRows. -/
import Derived.Test.YtlihpaegaikoeaaDoorWtK
import Derived.Test.YtlihpaegaikoeaaDoorObjPlain
set_option linter.all false
namespace Go.Proofs.YtlihpaegaikoeaaDoor
open Pv Go Pk
set_option maxRecDepth 10000
set_option maxHeartbeats 2000000

theorem grp0 : grpI 0 = 0 := by decide +kernel
def stN (n : Int) (l : List Entry) : State := ⟨n, Base.zero, Entry.zero, l⟩
theorem an_f0 (o : Opr) : o.cs ++ [.i .u8 0, .s ⟨#[]⟩] = (Ans.mk o ⟨0, ⟨#[]⟩⟩).cs := rfl
theorem stN_1 (n : Int) : upd State.zeroA 0 [.d (.i .u32 n)] = State.withV (stN n []) .nilS := rfl
theorem stN_2 (n : Int) (o g z a l : Nat) : upd (State.withV (stN n []) .nilS) 48 [.view o g z a l] = State.withV (stN n []) (.view o g z a l) := rfl
theorem stN_3 (n : Int) (l : List Entry) : allD (State.withV (stN n l) .nilS) = none := rfl
theorem stN_frz0 (H : Heap) (n : Int) : frzV H (.agg (State.withV (stN n []) .nilS)) = (.d (.agg (stN n []).cs), H) := by
  unfold frzV
  simp only [toD, State.withV_toDs, Option.map_some]
  rfl
theorem stN_frzz (H : Heap) : frzV H (.agg State.zeroA) = (.d (.agg (stN 0 []).cs), H) := by
  unfold frzV
  simp only [toD, State.zeroA_toDs]
  rfl
theorem stN_frz (H : Heap) (n : Int) (l : List Entry) (k : Nat) (hk : k = l.length) (o : Nat) (wr : Bool) (ho : H[o]? = some (.arr (l.map Entry.d) wr)) : frzV H (.agg (State.withV (stN n []) (.view o k 8 0 k))) = (.d (.agg (stN n l).cs), H.set o (.arr (l.map Entry.d) false)) := by
  subst hk
  unfold frzV
  have e : subL (l.map Entry.d) 0 l.length = l.map Entry.d := by unfold subL; rw [List.drop_zero]; exact List.take_of_length_le (by simp)
  simp only [toD, State.withV_toDs, ho, List.length_map, if_pos, e, Option.map_some]
  rfl
def kO : Opr := ⟨1, 1, 1, 0, 0, ⟨#[97]⟩⟩
def kE : Entry := ⟨1, 1, kO⟩

theorem ord0 {H : Heap} (hok : okH H) {o : Nat} (ho : H[o]? = some (.box (.agg Wn.cs))) (V : Nat → Prop) : Ord H o L0 V := by
  refine ⟨hok, Wn, ho, rfl, fun g hg => ?_⟩
  rcases (by omega : g = 0 ∨ g = 1 ∨ g = 2 ∨ g = 3) with rfl | rfl | rfl | rfl <;> exact ⟨.inl ⟨rfl, rfl, rfl⟩, rfl, rfl, fun p g' z off len h => by cases h⟩
theorem L0_ok : ∀ k, k < 4 → LrOk (L0 k) := fun k _ => ⟨by simp [L0], by simp [L0], by simp [L0]⟩
theorem L0_len : ∀ k, k < 4 → (L0 k).l.length ≤ 0 := fun k _ => by simp [L0]
theorem kO_ok : Opr.ok kO := by have hsz : (ByteArray.mk #[97]).size = 1 := rfl; simp [Opr.ok, kO, hsz]; decide
theorem kO2_ok : Opr.ok ⟨2, 1, 1, 0, 0, ⟨#[]⟩⟩ := by have hsz : (ByteArray.mk #[]).size = 0 := rfl; simp [Opr.ok, hsz]
theorem kO0_ok : Opr.ok ⟨0, 0, 0, 0, 0, ⟨#[]⟩⟩ := by have hsz : (ByteArray.mk #[]).size = 0 := rfl; simp [Opr.ok, hsz]
theorem stN_ok (n : Int) {l : List Entry} (h : ∀ e ∈ l, e.op.ok) : stOk (stN n l) := ⟨by show (0 : Int) ≤ 0 ∧ (0 : Int) < 4294967296; omega, h⟩
def kL1 : Nat → Lr := (seeL L0 0 (stN 1 [kE])).1
def kL2 : Nat → Lr := (tookL kL1 ⟨kO, ⟨0, ⟨#[]⟩⟩⟩).1
def kL3 : Nat → Lr := (seeL kL2 0 (stN 1 [])).1
def kL4 : Nat → Lr := (seeL kL3 0 (stN 0 [])).1
def kL5 : Nat → Lr := (tookL kL4 ⟨⟨2, 1, 1, 0, 0, ⟨#[]⟩⟩, ⟨0, ⟨#[]⟩⟩⟩).1
def kL6 : Nat → Lr := (tookL kL5 ⟨⟨0, 0, 0, 0, 0, ⟨#[]⟩⟩, ⟨0, ⟨#[]⟩⟩⟩).1
theorem kv1 : (seeL L0 0 (stN 1 [kE])).2 = 0 := by decide +kernel
theorem kv2 : (tookL kL1 ⟨kO, ⟨0, ⟨#[]⟩⟩⟩).2 = 0 := by decide +kernel
theorem kv3 : (seeL kL2 0 (stN 1 [])).2 = 220 := by decide +kernel
theorem kv4 : (seeL kL3 0 (stN 0 [])).2 = 0 := by decide +kernel
theorem kv5 : (tookL kL4 ⟨⟨2, 1, 1, 0, 0, ⟨#[]⟩⟩, ⟨0, ⟨#[]⟩⟩⟩).2 = 220 := by decide +kernel
theorem kv6 : (tookL kL5 ⟨⟨0, 0, 0, 0, 0, ⟨#[]⟩⟩, ⟨0, ⟨#[]⟩⟩⟩).2 = 10 := by decide +kernel
theorem kv7 : (seeL kL6 4 (stN 1 [kE])).2 = 10 := by decide +kernel
theorem kvA : atL kL4 0 1 = (kE, true) := by decide +kernel
theorem kvL : (kL4 0).l.length = 1 := by decide +kernel
theorem kvK : (kL4 0).acked = 1 := by decide +kernel

theorem known_at : ∃ H, evF C F_paddocklaw23_known [] [] = some (.d (.b true), H) := by
  have hnew := new_at (H := []) rfl
  have hg0 := group'_at 0
  rw [grp0] at hg0
  have hsE : stOk (stN 1 [kE]) := stN_ok 1 (by intro e he; simp at he; rw [he]; exact kO_ok)
  have hs0 : ∀ n, stOk (stN n []) := fun n => stN_ok n (by simp)
  -- 1
  have hO0 : Ord [.box (.agg Wn.cs), .box (.d (.agg kO.cs)), .arr [.agg kE.cs] false, .box (.agg ((stN 1 []).withV (.view 2 1 8 0 1)))] 0 L0 (fun _ => True) := ord0 (by rfl) rfl _
  have hz1 : evF C F_witness_Order_See [.ptr 0 0, .d (.i .u8 0), .agg ((stN 1 []).withV (.view 2 1 8 0 1))] [.box (.agg Wn.cs), .box (.d (.agg kO.cs)), .arr [.agg kE.cs] true, .box (.agg ((stN 1 []).withV (.view 2 1 8 0 1)))] =
      evF C F_witness_Order_See [.ptr 0 0, .d (.i .u8 0), .d (.agg (stN 1 [kE]).cs)] [.box (.agg Wn.cs), .box (.d (.agg kO.cs)), .arr [.agg kE.cs] false, .box (.agg ((stN 1 []).withV (.view 2 1 8 0 1)))] :=
    see_frz ⟨_, rfl⟩ (stN_frz _ 1 [kE] 1 rfl 2 true rfl)
  obtain ⟨⟨v1, G1⟩, hs1, hv1, hO1, hf1⟩ := see_at hO0 L0_ok 0 (by omega) (stN 1 [kE]) hsE
  obtain ⟨ok1, len1, -, -⟩ := seeL_ok (M := 0) L0_ok (g := 0) hsE (by omega) L0_len
  dsimp only at hv1 hO1 hf1
  rw [kv1] at hv1
  subst hv1
  have hs1' := hz1.trans hs1
  have b1o := hf1.box (q := 1) (by omega) rfl
  have b1s := hf1.box (q := 3) (by omega) rfl
  have b1a := hf1.arr (q := 2) (by omega) rfl
  have g1 : (4 ≤ G1.length) = True := eq_true hf1.1
  change Ord G1 0 kL1 _ at hO1
  change ∀ k, k < 4 → LrOk (kL1 k) at ok1
  change ∀ k, k < 4 → (kL1 k).l.length ≤ 6 at len1
  -- 2
  obtain ⟨⟨v2, G2⟩, hs2, hv2, hO2, hf2⟩ := took_at hO1 ok1 ⟨kO, ⟨0, ⟨#[]⟩⟩⟩ kO_ok
  obtain ⟨ok2, len2, -, -⟩ := tookL_ok ok1 ⟨kO, ⟨0, ⟨#[]⟩⟩⟩
  dsimp only at hv2 hO2 hf2
  rw [kv2] at hv2
  subst hv2
  have b2o := hf2.box (by omega) b1o
  have b2s := hf2.box (by omega) b1s
  have b2a := (b1a.elim fun _ h => hf2.arr (by omega) h)
  have g2 : (G1.length ≤ G2.length) = True := eq_true hf2.1
  change Ord G2 0 kL2 _ at hO2
  change ∀ k, k < 4 → LrOk (kL2 k) at ok2
  have len2' : ∀ k, k < 4 → (kL2 k).l.length ≤ 6 := fun k hk => by show ((tookL kL1 ⟨kO, ⟨0, ⟨#[]⟩⟩⟩).1 k).l.length ≤ 6; rw [len2]; exact len1 k hk
  -- 3
  obtain ⟨⟨v3, G3⟩, hs3, hv3, hO3, hf3⟩ := see_at hO2 ok2 0 (by omega) (stN 1 []) (hs0 1)
  obtain ⟨ok3, len3, -, -⟩ := seeL_ok (M := 6) ok2 (g := 0) (hs0 1) (by omega) len2'
  dsimp only at hv3 hO3 hf3
  rw [kv3] at hv3
  subst hv3
  have hs3' : evF C F_witness_Order_See [.ptr 0 0, .d (.i .u8 0), .agg ((stN 1 []).withV .nilS)] G2 = some (.d (.i .i64 220), G3) := (see_frz ⟨_, rfl⟩ (stN_frz0 G2 1)).trans hs3
  have b3o := hf3.box (by omega) b2o
  have b3s := hf3.box (by omega) b2s
  have b3a := (b2a.elim fun _ h => hf3.arr (by omega) h)
  have g3 : (G2.length ≤ G3.length) = True := eq_true hf3.1
  change Ord G3 0 kL3 _ at hO3
  change ∀ k, k < 4 → LrOk (kL3 k) at ok3
  change ∀ k, k < 4 → (kL3 k).l.length ≤ 12 at len3
  -- 4
  obtain ⟨⟨v4, G4⟩, hs4, hv4, hO4, hf4⟩ := see_at hO3 ok3 0 (by omega) (stN 0 []) (hs0 0)
  obtain ⟨ok4, len4, -, -⟩ := seeL_ok (M := 12) ok3 (g := 0) (hs0 0) (by omega) len3
  dsimp only at hv4 hO4 hf4
  rw [kv4] at hv4
  subst hv4
  have hs4' : evF C F_witness_Order_See [.ptr 0 0, .d (.i .u8 0), .agg State.zeroA] G3 = some (.d (.i .i64 0), G4) := (see_frz ⟨_, rfl⟩ (stN_frzz G3)).trans hs4
  have b4o := hf4.box (by omega) b3o
  have b4s := hf4.box (by omega) b3s
  have b4a := (b3a.elim fun _ h => hf4.arr (by omega) h)
  have g4 : (G3.length ≤ G4.length) = True := eq_true hf4.1
  change Ord G4 0 kL4 _ at hO4
  change ∀ k, k < 4 → LrOk (kL4 k) at ok4
  -- At
  have hat : evF C F_witness_Order_At [.ptr 0 0, .d (.i .u8 0), .d (.i .u32 1)] G4 = some (.tup [.d (.agg kE.cs), .d (.b true)], G4) := by
    have := at_at hO4 ok4 0 1 (by omega)
    rw [kvA] at this
    exact this
  have hokE : okH (hf G4 [.box (.d (.agg kE.cs))]) := by rw [hf_ok rfl hO4.1]; rfl
  have hO4' := hO4.hf hokE
  have hln : evF C F_witness_Order_Len [.ptr 0 0, .d (.i .u8 0)] (hf G4 [.box (.d (.agg kE.cs))]) = some (.d (.i .i64 1), hf G4 [.box (.d (.agg kE.cs))]) := by
    have := len_at hO4' 0
    rw [if_pos (by omega), kvL] at this
    exact this
  have hak : evF C F_witness_Order_Acked [.ptr 0 0, .d (.i .u8 0)] (hf G4 [.box (.d (.agg kE.cs))]) = some (.d (.i .u32 1), hf G4 [.box (.d (.agg kE.cs))]) := by
    have := acked_at hO4' 0
    rw [if_pos (by omega), kvK] at this
    exact this
  -- 5
  obtain ⟨⟨v5, G5⟩, hs5, hv5, hO5, hf5⟩ := took_at hO4' ok4 ⟨⟨2, 1, 1, 0, 0, ⟨#[]⟩⟩, ⟨0, ⟨#[]⟩⟩⟩ kO2_ok
  obtain ⟨ok5, -, -, -⟩ := tookL_ok ok4 ⟨⟨2, 1, 1, 0, 0, ⟨#[]⟩⟩, ⟨0, ⟨#[]⟩⟩⟩
  dsimp only at hv5 hO5 hf5
  rw [kv5] at hv5
  subst hv5
  have b5s := hf5.box (by omega) (hf_old b4s _)
  have b5a := (b4a.elim fun _ h => hf5.arr (by omega) (hf_old h _))
  have g5 : ((hf G4 [.box (.d (.agg kE.cs))]).length ≤ G5.length) = True := eq_true hf5.1
  rw [hf_len rfl] at g5
  change Ord G5 0 kL5 _ at hO5
  change ∀ k, k < 4 → LrOk (kL5 k) at ok5
  -- 6
  obtain ⟨⟨v6, G6⟩, hs6, hv6, hO6, hf6⟩ := took_at hO5 ok5 ⟨⟨0, 0, 0, 0, 0, ⟨#[]⟩⟩, ⟨0, ⟨#[]⟩⟩⟩ kO0_ok
  obtain ⟨ok6, -, -, -⟩ := tookL_ok ok5 ⟨⟨0, 0, 0, 0, 0, ⟨#[]⟩⟩, ⟨0, ⟨#[]⟩⟩⟩
  dsimp only at hv6 hO6 hf6
  rw [kv6] at hv6
  subst hv6
  have b6s := hf6.box (by omega) b5s
  obtain ⟨w6, b6a⟩ := (b5a.elim fun _ h => hf6.arr (by omega) h)
  have g6 : (G5.length ≤ G6.length) = True := eq_true hf6.1
  change Ord G6 0 kL6 _ at hO6
  change ∀ k, k < 4 → LrOk (kL6 k) at ok6
  -- 7
  have hz7 : evF C F_witness_Order_See [.ptr 0 0, .d (.i .u8 4), .agg ((stN 1 []).withV (.view 2 1 8 0 1))] G6 = evF C F_witness_Order_See [.ptr 0 0, .d (.i .u8 4), .d (.agg (stN 1 [kE]).cs)] (G6.set 2 (.arr [.agg kE.cs] false)) :=
    see_frz ⟨_, rfl⟩ (stN_frz _ 1 [kE] 1 rfl 2 w6 b6a)
  have hO6' : Ord (G6.set 2 (.arr [.agg kE.cs] false)) 0 kL6 (fun _ => True) := by
    refine (ord_mono hO6 (fun _ _ => trivial)).fr (okH_set hO6.1 2 rfl) ⟨by rw [List.length_set]; exact Nat.le_refl _, fun q hq x hx => ?_⟩ (List.getElem?_set_ne (by omega))
    by_cases h2 : q = 2
    · subst h2
      rw [b6a] at hx
      injection hx with hx
      subst hx
      exact .inr ⟨_, w6, false, rfl, List.getElem?_set_self (List.getElem?_eq_some_iff.1 b6a).1⟩
    · exact .inl (by rw [List.getElem?_set_ne (Ne.symm h2)]; exact hx)
  obtain ⟨⟨v7, G7⟩, hs7, hv7, hO7, hf7⟩ := see_at hO6' ok6 4 (by omega) (stN 1 [kE]) hsE
  dsimp only at hv7 hf7
  rw [kv7] at hv7
  subst hv7
  have hs7' := hz7.trans hs7
  have g7 : (G6.length ≤ G7.length) = True := eq_true (by have := hf7.1; rw [List.length_set] at this; exact this)
  obtain ⟨n, hn⟩ : ∃ n, G4.length = n := ⟨_, rfl⟩
  have R := hf_rules hn
  have K := ok_rules hn hO4.1
  have N := n_rules n
  have h1n : 1 < n := by rw [← hn]; exact (List.getElem?_eq_some_iff.1 b4o).1
  have h0n : 0 < n := by omega
  have O1 := o_rules h1n
  have O0 := o_rules h0n
  have f1 := hf_old b4o
  have pg : ∀ x, G4 ++ [x] = hf G4 [x] := fun _ => rfl
  have eO : ([.i .u8 0, .i .u32 0, .i .u8 0, .i .u8 0, .i .u8 0, .s ⟨#[]⟩] : List DV) = (Opr.mk 0 0 0 0 0 ⟨#[]⟩).cs := rfl
  rw [hn] at g4 g5
  change (n + 1 ≤ G5.length) = True at g5
  rw [evF_code (rfl : C F_paddocklaw23_known = some a_paddocklaw23_known) _ _ rfl]
  simp (config := {decide := true}) only [c_paddocklaw23_known, hnew, hg0, an_f0, stN_1, stN_2, stN_3, show Opr.mk 1 1 1 0 0 ⟨#[97]⟩ = kO from rfl, show Entry.mk 1 1 kO = kE from rfl, hs1', hs2, hs3', hs4', hat, hln, hak, hs5, hs6, hs7', b1o, b2o, b3o, b4o, b6s, f1, g1, g2, g3, g4, g5, g6, g7, pg, hn, R, K, N, O1, O0, sameH_self, Pk.EVL, keepT, enum, ↓reduceIte, ev, act, appT, callee, toDs, toD, loadA, storeA, subA, subD, updA, Eff.on, resA, resVs, resV, lk, finish, frzR, frzVs, frzV, fznR, fzns, fzn, lts, lt, ltO, List.all, pairsOk, indep, reduceCtorEq, Nat.reduceEqDiff, Nat.reduceAdd, Nat.reduceLeDiff, stb, thaws, List.drop, intOfA, binD, binI, unD, mmL, buildA, mkAgg, allD, bslD, behind, behind0, takeAt, frzAs, frzA, adoptR, adopt, isD, isD0, trim, List.take, binS, sliceA, bnd, zOk, elems, Nat.reduceBNe, inpl, Nat.reduceLT, Nat.reduceBEq, Nat.reduceSub, Nat.reduceMul, Int.reduceLT, Int.reduceLE, Int.reduceEq, Int.reduceToNat, Int.reduceNeg, thaw, nodup, refsV, adopts, Pk.TY_Opr, Pk.TY_Entry, Pk.TY_State, Pk.TY_Ans, Pk.TY_Res]
  exact ⟨_, rfl⟩
end Go.Proofs.YtlihpaegaikoeaaDoor

namespace Go.Proofs.YtlihpaegaikoeaaDoor
open Pv Go Pk
set_option maxRecDepth 10000
set_option maxHeartbeats 2000000

/-- The two operations of the law. -/
def xO (obj : Int) (a : ByteArray) : Opr := ⟨1, 1, 1, obj, 0, a⟩
def yO (obj : Int) (b : ByteArray) : Opr := ⟨2, 1, 1, obj, 0, b⟩
section
variable {k : Nat} {obj : Int} {a b : ByteArray} (hk : k < 4) (ho : 0 ≤ obj ∧ obj < 6) (hg : grpN obj = k) (ha : a.size ≤ 16) (hb : b.size ≤ 16)
def fA (k : Nat) (obj : Int) (a : ByteArray) : Nat → Lr := updL L0 k ⟨[⟨1, 1, xO obj a⟩], 0, 1⟩
def fB (k : Nat) (obj : Int) (a : ByteArray) : Nat → Lr := updL (fA k obj a) k ⟨[⟨1, 1, xO obj a⟩], 1, 1⟩
def fD (k : Nat) (obj : Int) (a b : ByteArray) : Nat → Lr := updL (fA k obj a) k ⟨[⟨5, 1, yO obj b⟩], 0, 5⟩
end
end Go.Proofs.YtlihpaegaikoeaaDoor

namespace Go.Proofs.YtlihpaegaikoeaaDoor
open Pv Go Pk
set_option maxRecDepth 10000
set_option maxHeartbeats 4000000

end Go.Proofs.YtlihpaegaikoeaaDoor

namespace Go.Proofs.YtlihpaegaikoeaaDoor
open Pv Go Pk
set_option maxRecDepth 10000
set_option maxHeartbeats 1000000

def refIsOp (o : Opr) : Bool :=
  if (decide (o.client < 1) || decide (o.client > 3) || decide (o.seq < 1) || decide (o.kind < 1) || decide (o.kind > 5) || decide (o.obj ≥ 6) || decide ((o.data.size : Int) > 16)) = true then false
  else if (!(o.kind == 1) && !(o.kind == 3) && !decide (o.data = ⟨#[]⟩)) = true then false
  else (!(o.kind == 4) && !(o.kind == 5)) || (o.at_ == 0)

def pad (s : ByteArray) (a : Nat) : ByteArray := if s.size < a then s ++ nul (a - s.size) else s
def refSplice (s : ByteArray) (a : Nat) (d : ByteArray) : ByteArray :=
  (pad s a).extract 0 a ++ d ++ (if (pad s a).size > a + d.size then (pad s a).extract (a + d.size) (pad s a).size else ⟨#[]⟩)

end Go.Proofs.YtlihpaegaikoeaaDoor

namespace Go.Proofs.YtlihpaegaikoeaaDoor
open Pv Go Pk
set_option maxRecDepth 10000
set_option maxHeartbeats 4000000

/-- The three entries of the law. -/
def e1O (a : ByteArray) : Opr := ⟨1, 1, 1, 0, 0, a⟩
def e2O : Opr := ⟨1, 2, 4, 0, 0, ⟨#[]⟩⟩
def e3O (b : ByteArray) : Opr := ⟨1, 3, 1, 0, 0, b⟩
def rL (a b : ByteArray) : List Entry := [⟨1, 1, e1O a⟩, ⟨1, 2, e2O⟩, ⟨1, 3, e3O b⟩]
def rdQ : Opr := ⟨2, 1, 5, 0, 0, ⟨#[]⟩⟩
section
variable {a b : ByteArray} (ha : a.size ≤ 8) (hb : b.size ≤ 8)
theorem w2 : writes e2O = true := by decide +kernel
def rX (s : Int) (d : ByteArray) : Base := { objs := Base.zero.objs.set 0 ⟨true, d, ⟨⟨#[]⟩, ⟨#[]⟩, ⟨#[]⟩⟩⟩, last := Base.zero.last.set 0 ⟨s, ⟨0, ⟨#[]⟩⟩⟩ }
def rN (s : Int) : Base := { objs := Base.zero.objs, last := Base.zero.last.set 0 ⟨s, ⟨0, ⟨#[]⟩⟩⟩ }
def gR (a b : ByteArray) : Nat → Lr := updL L0 0 ⟨rL a b, 0, 1⟩
end

end Go.Proofs.YtlihpaegaikoeaaDoor

namespace Go.Proofs.YtlihpaegaikoeaaDoor
open Pv Go Pk
set_option maxRecDepth 10000
set_option maxHeartbeats 2000000

/-- The entries of one client, one by one. -/
structure RI (E : List Entry) (kk : Nat) : Prop where
  good : goodE E
  six : E.length - kk ≤ 6
  le : kk ≤ E.length
  ops : ∀ (i : Nat) (e : Entry), E[i]? = some e → e.since = 1 ∧ e.op.client = 1 ∧ e.op.seq = i + 1
  seq : ((baseOf E).last.get 0).seq ≤ E.length

def nextO (E : List Entry) (o : Opr) : Opr := { o with client := 1, seq := ((E.length + 1 : Nat) : Int) }
def nextEn (E : List Entry) (o : Opr) : Entry := ⟨1, ((E.length + 1 : Nat) : Int), nextO E o⟩
def nextK (E : List Entry) (kk : Nat) : Nat := kk + (E.length - kk + 1 - 6)
section
variable {E : List Entry} {kk : Nat} (h : RI E kk) (hl : E.length ≤ 100) {o : Opr} (hw : writes o = true) (ho : o.ok)
end
end Go.Proofs.YtlihpaegaikoeaaDoor

namespace Go.Proofs.YtlihpaegaikoeaaDoor
open Pv Go Pk
set_option maxRecDepth 10000
set_option maxHeartbeats 4000000

theorem trim_cases (n : Nat) (vs : List AV) (H : Heap) : trim n vs H = H ∨ (trim n vs H = H.take n ∧ (H.take n).all (ltO n) = true) := by
  unfold trim
  split
  · rename_i h
    rw [Bool.and_eq_true] at h
    exact .inr ⟨rfl, h.2⟩
  · exact .inl rfl
theorem Ord.take {H : Heap} {o : Nat} {L : Nat → Lr} {V : Nat → Prop} (hO : Ord H o L V) {n : Nat} (hn : o < n) (hl : n ≤ H.length) (hall : (H.take n).all (ltO n) = true) : Ord (H.take n) o L V := by
  obtain ⟨hok, W, ho, hnd, hrows⟩ := hO
  have hlen : (H.take n).length = n := by rw [List.length_take]; omega
  have ho' : (H.take n)[o]? = some (.box (.agg W.cs)) := by rw [List.getElem?_take_of_lt hn]; exact ho
  have hok' : okH (H.take n) := by unfold okH; rw [hlen]; exact hall
  refine ⟨hok', W, ho', hnd, fun g hg => ⟨?_, (hrows g hg).2⟩⟩
  rcases (hrows g hg).1 with h | ⟨h1, p, wr, h2, h3⟩
  · exact .inl h
  · refine .inr ⟨h1, p, wr, h2, ?_⟩
    have hlt : W.lt n = true := by have := okH_at hok' ho'; rw [hlen] at this; exact this
    have h4 := ((W4.lt_iff _ _).1 hlt g hg).2
    rw [h2] at h4
    simp only [Pv.lt, decide_eq_true_eq] at h4
    rw [List.getElem?_take_of_lt h4]
    exact h3
theorem Ord.setbox {H : Heap} {o : Nat} {L : Nat → Lr} {V : Nat → Prop} (hO : Ord H o L V) {q : Nat} (hq : q ≠ o) {x y : AV} (hx : H[q]? = some (.box x)) (hy : Pv.lt H.length y = true) : Ord (H.set q (.box y)) o L V := by
  obtain ⟨hok, W, ho, hnd, hrows⟩ := hO
  refine ⟨okH_set hok q hy, W, by rw [List.getElem?_set_ne hq]; exact ho, hnd, fun g hg => ⟨isRow_set hx (hrows g hg).1, (hrows g hg).2⟩⟩

/-- The state's box. -/
def isSv (x : AV) (s : State) : Prop := x = .d (.agg s.cs) ∨ (x = .agg ((stN 1 []).withV .nilS) ∧ s = stN 1 [])
structure RInv (k : Nat) (G : Heap) (E : List Entry) (kk : Nat) : Prop where
  ri : RI E kk
  ord : ∃ L V, Ord G 0 L V ∧ (∀ j, j < 4 → LrOk (L j)) ∧ (∀ j, j < 4 → (L j).l.length ≤ 100) ∧ (∃ st, st ≤ 1 ∧ L k = ⟨E, E.length, st⟩) ∧ ∀ j, j ≠ k → (L j).acked = 0
  s : ∃ x, isSv x (mkSt 1 E kk) ∧ G[1]? = some (.box x)
  b : G[2]? = some (.box (.d (.agg (baseOf E).cs)))
theorem RInv.trim {k : Nat} {H : Heap} {E : List Entry} {kk : Nat} (h : RInv k H E kk) {n : Nat} (hn : 3 ≤ n) (hl : n ≤ H.length) (vs : List AV) : RInv k (trim n vs H) E kk := by
  rcases trim_cases n vs H with e | ⟨e, hall⟩
  · rw [e]; exact h
  · rw [e]
    obtain ⟨h1, ⟨L, V, hO, h2⟩, ⟨x, hx, h3⟩, h4⟩ := h
    exact ⟨h1, ⟨L, V, hO.take (by omega) hl hall, h2⟩, ⟨x, hx, by rw [List.getElem?_take_of_lt (by omega)]; exact h3⟩, by rw [List.getElem?_take_of_lt (by omega)]; exact h4⟩

end Go.Proofs.YtlihpaegaikoeaaDoor
