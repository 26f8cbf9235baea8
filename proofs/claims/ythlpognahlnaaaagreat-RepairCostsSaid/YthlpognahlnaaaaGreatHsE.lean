/- A history's state; a map is laid as the last one. / A history by the increments that were taken (plain). / A new history; an increment added. -/
import Derived.Test.YthlpognahlnaaaaGreatPkEvd
import Derived.Test.YthlpognahlnaaaaGreatChA
set_option linter.all false
namespace Go.Proofs.YthlpognahlnaaaaGreat
open Pv Go Pk
set_option maxRecDepth 10000
set_option maxHeartbeats 4000000
/-- A history: its last epoch, the maps and the increments by epochs, each group's intervals. -/
structure Hst where
 last : Int
 ms : List (Int × DV)
 xs : List (Int × DV)
 iv : R4 (List Itv)
/-- What lies between a history's objects, and which rows are not written any more. -/
structure Grb where
 g0 : Ob
 g1 : Ob
 g2 : Ob
 g3 : Ob
 g4 : Ob
 w0 : Bool
 w1 : Bool
 w2 : Bool
 w3 : Bool
def Grb.ok (n : Nat) (q : Grb) : Prop := ltO n q.g0 = true ∧ ltO n q.g1 = true ∧ ltO n q.g2 = true ∧ ltO n q.g3 = true ∧ ltO n q.g4 = true
def hbox (p : Nat) (s : Hst) : AV := .agg [.mp p, .mp (p + 1), .d (.i .u32 s.last), .view (p + 5) s.iv.a0.length 2 0 s.iv.a0.length, .view (p + 7) s.iv.a1.length 2 0 s.iv.a1.length, .view (p + 9) s.iv.a2.length 2 0 s.iv.a2.length, .view (p + 11) s.iv.a3.length 2 0 s.iv.a3.length]
def hobs (p : Nat) (s : Hst) (q : Grb) : Heap := [.map .u32 s.ms, .map .u32 s.xs, .box (hbox p s), q.g0, q.g1, .arr (s.iv.a0.map Itv.d) q.w0, q.g2, .arr (s.iv.a1.map Itv.d) q.w1, q.g3, .arr (s.iv.a2.map Itv.d) q.w2, q.g4, .arr (s.iv.a3.map Itv.d) q.w3]
def actI (m : Mp) (g : Int) : List Int := (actP m.epoch (osL m) g).map fun n : Nat => (n : Int)
theorem actI_nats (m : Mp) (g : Int) : nats (actP m.epoch (osL m) g) = (actI m g).map fun x => .i .i64 x := by
 rfl
theorem actI_len (m : Mp) (g : Int) : (actI m g).length ≤ 3 := by
 unfold actI actP
 rw [List.length_map]
 exact Nat.le_trans (List.length_filter_le _ _) (pickP_len _ _ _)
theorem acting_ev (m : Mp) (g : Int) : evF C F_q3c [.d (.agg m.cs), .d (.i .u8 g)] [] = some (.d (.sl ((actI m g).map fun x => .i .i64 x)), []) := by
 rw [← actI_nats]
 exact acting_at m.epoch (osL m) rfl g
def ivAdd (l : List Itv) (e : Int) (a : List Int) : List Itv := if (l.getLast?.map Itv.acting) = some a then l else l ++ [⟨e, a⟩]
theorem ivAdd_ne {l : List Itv} (h : l ≠ []) (e : Int) (a : List Int) : ivAdd l e a ≠ [] := by
 unfold ivAdd
 split
 ·exact h
 ·simp
theorem ivAdd_len (l : List Itv) (e : Int) (a : List Int) : (ivAdd l e a).length ≤ l.length + 1 := by
 unfold ivAdd
 split
 ·omega
 ·simp
def layI (iv : R4 (List Itv)) (m : Mp) (k : Nat) : R4 (List Itv) :=
 ⟨if 0 < k then ivAdd iv.a0 m.epoch (actI m 0) else iv.a0, if 1 < k then ivAdd iv.a1 m.epoch (actI m 1) else iv.a1, if 2 < k then ivAdd iv.a2 m.epoch (actI m 2) else iv.a2, if 3 < k then ivAdd iv.a3 m.epoch (actI m 3) else iv.a3⟩
def laysS (s : Hst) (m : Mp) : Hst := { s with last := m.epoch, ms := setM s.ms m.epoch m.d, iv := layI s.iv m 4 }
/-- Rows that are there, none too long, their daemons few. -/
def okI (l : List Itv) : Prop := l ≠ [] ∧ l.length ≤ 1000 ∧ ∀ x ∈ l, x.acting.length ≤ 3
def Hst.ok (s : Hst) : Prop := okI s.iv.a0 ∧ okI s.iv.a1 ∧ okI s.iv.a2 ∧ okI s.iv.a3
section
variable {P S : Heap} {p n : Nat} (hP : P.length = p) (hn : p + 12 + S.length = n) (hPa : P.all (ltO n) = true) (hSa : S.all (ltO n) = true) {q : Grb} (hg : q.ok n)
theorem ltO_more {n : Nat} {o : Ob} (h : ltO n o = true) : ltO (n + 1) o = true := by
 have key : ∀ {n : Nat}, (∀ x : AV, lt n x = true → lt (n + 1) x = true) ∧ (∀ l : List AV, lts n l = true → lts (n + 1) l = true) := by
  intro n
  refine ⟨fun x => ?_, fun l => ?_⟩
  ·exact AV.rec (motive_1 := fun x => lt n x = true → lt (n + 1) x = true) (motive_2 := fun l => lts n l = true → lts (n + 1) l = true)
    (fun _ h => h) (fun h => h) (fun _ h => h) (fun h => h) (fun o g z off len h => by simp [lt] at h ⊢; omega) (fun o off h => by simp [lt] at h ⊢; omega) (fun o h => by simp [lt] at h ⊢; omega)
    (fun _ h => h) (fun o g z i off h => by simp [lt] at h ⊢; omega) (fun f a b ha hb h => by simp [lt] at h ⊢; exact ⟨ha h.1, hb h.2⟩) (fun cs hc h => by simp [lt] at h ⊢; exact hc h) (fun cs hc h => by simp [lt] at h ⊢; exact hc h)
    (fun h => h) (fun h => h) (fun h => h) (fun h => h) (fun x r hx hr h => by simp [lts] at h ⊢; exact ⟨hx h.1, hr h.2⟩) x
  ·induction l with
   | nil => intro _; rfl
   | cons x r ih =>
    intro h
    simp only [lts, Bool.and_eq_true] at h ⊢
    refine ⟨?_, ih h.2⟩
    exact AV.rec (motive_1 := fun x => lt n x = true → lt (n + 1) x = true) (motive_2 := fun l => lts n l = true → lts (n + 1) l = true)
     (fun _ h => h) (fun h => h) (fun _ h => h) (fun h => h) (fun o g z off len h => by simp [lt] at h ⊢; omega) (fun o off h => by simp [lt] at h ⊢; omega) (fun o h => by simp [lt] at h ⊢; omega)
     (fun _ h => h) (fun o g z i off h => by simp [lt] at h ⊢; omega) (fun f a b ha hb h => by simp [lt] at h ⊢; exact ⟨ha h.1, hb h.2⟩) (fun cs hc h => by simp [lt] at h ⊢; exact hc h) (fun cs hc h => by simp [lt] at h ⊢; exact hc h)
     (fun h => h) (fun h => h) (fun h => h) (fun h => h) (fun x r hx hr h => by simp [lts] at h ⊢; exact ⟨hx h.1, hr h.2⟩) x h.1
 cases o with
 | box x => exact key.1 x h
 | arr es wr => rfl
 | map k kvs => rfl
 | hole => rfl
theorem all_more {n : Nat} {L : Heap} (h : L.all (ltO n) = true) : L.all (ltO (n + 1)) = true := by
 rw [List.all_eq_true] at h ⊢
 exact fun x hx => ltO_more (h x hx)
theorem Grb.more {n : Nat} {q : Grb} (h : q.ok n) : q.ok (n + 1) := ⟨ltO_more h.1, ltO_more h.2.1, ltO_more h.2.2.1, ltO_more h.2.2.2.1, ltO_more h.2.2.2.2⟩
theorem okI_last {l : List Itv} (h : okI l) : ∃ x, l.getLast? = some x ∧ (l.map Itv.d)[l.length - 1]? = some x.d ∧ x.acting.length ≤ 3 ∧ 0 < l.length := by
 obtain ⟨h1, _, h3⟩ := h
 cases hl : l.getLast? with
 | none => rw [List.getLast?_eq_none_iff] at hl; exact absurd hl h1
 | some x =>
  refine ⟨x, rfl, ?_, h3 x (List.mem_of_getLast? hl), List.length_pos_iff.2 h1⟩
  rw [List.getLast?_eq_getElem?] at hl
  rw [List.getElem?_map, hl]
  rfl
theorem okI_add {l : List Itv} (h : okI l) (hl : l.length ≤ 999) (e : Int) {a : List Int} (ha : a.length ≤ 3) : okI (ivAdd l e a) := by
 refine ⟨ivAdd_ne h.1 e a, by have := ivAdd_len l e a; omega, ?_⟩
 unfold ivAdd
 split
 ·exact h.2.2
 ·intro x hx
  rcases List.mem_append.1 hx with hx | hx
  ·exact h.2.2 x hx
  ·simp at hx; subst hx; exact ha
end
end Go.Proofs.YthlpognahlnaaaaGreat

namespace Go.Proofs.YthlpognahlnaaaaGreat
open Pv Go Pk
set_option maxRecDepth 10000
set_option maxHeartbeats 2000000
theorem list_snoc_ind {α : Type} {M : List α → Prop} (h0 : M []) (hs : ∀ l x, M l → M (l ++ [x])) : ∀ l, M l := by
 have key : ∀ l : List α, M l.reverse := by
  intro l
  induction l with
  | nil => exact h0
  | cons x r ih => rw [List.reverse_cons]; exact hs _ _ ih
 intro l
 have := key l.reverse
 rwa [List.reverse_reverse] at this
def mapAt (l : List Inc) : Mp := l.foldl nextM firstM
theorem mapAt_snoc (l : List Inc) (x : Inc) : mapAt (l ++ [x]) = nextM (mapAt l) x := by unfold mapAt; rw [List.foldl_append]; rfl
theorem mapAt_epoch (l : List Inc) : (mapAt l).epoch = (l.length : Int) + 1 := by
 refine list_snoc_ind (M := fun l => (mapAt l).epoch = (l.length : Int) + 1) rfl ?_ l
 intro l x h
 rw [mapAt_snoc]
 show (mapAt l).epoch + 1 = _
 rw [h, List.length_append]
 simp
def goodI (l : List Inc) : Prop := l.length ≤ 59 ∧ ∀ x ∈ l, isInc x = true ∧ 0 ≤ x.osd
theorem goodI_snoc {l : List Inc} {x : Inc} (h : goodI (l ++ [x])) : goodI l := ⟨by have := h.1; simp at this; omega, fun y hy => h.2 y (by simp [hy])⟩
def okO (o : Pk.Osd) : Bool := Osd.ok ⟨o.up, o.weight, o.host⟩
/-- The history behind the increments that were taken. -/
def hs0 : Hst := { last := 1, ms := [(1, firstM.d)], xs := [], iv := ⟨[⟨1, actI firstM 0⟩], [⟨1, actI firstM 1⟩], [⟨1, actI firstM 2⟩], [⟨1, actI firstM 3⟩]⟩ }
def stepS (s : Hst) (m : Mp) (x : Inc) : Hst := laysS { s with xs := setM s.xs m.epoch x.d } m
def hsGo (p : Hst × Mp) (x : Inc) : Hst × Mp := (stepS p.1 (nextM p.2 x) x, nextM p.2 x)
def hsP (l : List Inc) : Hst × Mp := l.foldl hsGo (hs0, firstM)
def hsOf (l : List Inc) : Hst := (hsP l).1
theorem hsP_map (l : List Inc) : (hsP l).2 = mapAt l := by
 refine list_snoc_ind (M := fun l => (hsP l).2 = mapAt l) rfl ?_ l
 intro l x h
 rw [mapAt_snoc, ← h]
 unfold hsP
 rw [List.foldl_append]
 rfl
theorem hsOf_snoc (l : List Inc) (x : Inc) : hsOf (l ++ [x]) = stepS (hsOf l) (mapAt (l ++ [x])) x := by
 rw [mapAt_snoc, ← hsP_map l]
 unfold hsOf hsP
 rw [List.foldl_append]
 rfl
def okL (k : Nat) (l : List Itv) : Prop := okI l ∧ l.length ≤ k + 1
theorem okL_add {k : Nat} {l : List Itv} (h : okL k l) (hk : k ≤ 900) (e : Int) {a : List Int} (ha : a.length ≤ 3) : okL (k + 1) (ivAdd l e a) :=
 ⟨okI_add h.1 (by have := h.2; omega) e ha, by have := ivAdd_len l e a; have := h.2; omega⟩
theorem okI_one (a : List Int) (h : a.length ≤ 3) : okI [⟨1, a⟩] := ⟨by simp, by simp, fun x hx => by simp at hx; subst hx; exact h⟩
theorem hsOf_okL {l : List Inc} (h : goodI l) : okL l.length (hsOf l).iv.a0 ∧ okL l.length (hsOf l).iv.a1 ∧ okL l.length (hsOf l).iv.a2 ∧ okL l.length (hsOf l).iv.a3 := by
 revert h
 refine list_snoc_ind (M := fun l => goodI l → okL l.length (hsOf l).iv.a0 ∧ okL l.length (hsOf l).iv.a1 ∧ okL l.length (hsOf l).iv.a2 ∧ okL l.length (hsOf l).iv.a3) ?_ ?_ l
 ·intro _
  exact ⟨⟨okI_one _ (actI_len _ _), by simp [hsOf, hsP, hs0]⟩, ⟨okI_one _ (actI_len _ _), by simp [hsOf, hsP, hs0]⟩, ⟨okI_one _ (actI_len _ _), by simp [hsOf, hsP, hs0]⟩, ⟨okI_one _ (actI_len _ _), by simp [hsOf, hsP, hs0]⟩⟩
 ·intro l x ih h
  obtain ⟨i0, i1, i2, i3⟩ := ih (goodI_snoc h)
  have hk : l.length ≤ 900 := by have := (goodI_snoc h).1; omega
  rw [hsOf_snoc, List.length_append]
  exact ⟨okL_add i0 hk _ (actI_len _ _), okL_add i1 hk _ (actI_len _ _), okL_add i2 hk _ (actI_len _ _), okL_add i3 hk _ (actI_len _ _)⟩
theorem hsOf_ok {l : List Inc} (h : goodI l) : (hsOf l).ok := ⟨(hsOf_okL h).1.1, (hsOf_okL h).2.1.1, (hsOf_okL h).2.2.1.1, (hsOf_okL h).2.2.2.1⟩
/-- What becomes of the increments when one comes for an epoch, and what is told. -/
def addL (l : List Inc) (e : Int) (x : Inc) : List Inc × Int :=
 if e ≤ (l.length : Int) + 1 then (l, 51) else if e > (l.length : Int) + 2 then (l, 50) else if isInc x = true ∧ l.length < 59 then (l ++ [x], 0) else (l, 40)
theorem good_nil : goodI [] := ⟨by simp, fun x hx => by simp at hx⟩
end Go.Proofs.YthlpognahlnaaaaGreat

namespace Go.Proofs.YthlpognahlnaaaaGreat
open Pv Go Pk
set_option maxRecDepth 10000
set_option maxHeartbeats 4000000
/-- Objects behind P. -/
def hr (P L : Heap) : Heap := P ++ L
section
variable {P : Heap} {p : Nat} (hP : P.length = p)
include hP in
theorem hr_at (L : Heap) (i : Nat) : (hr P L)[p + i]? = L[i]? := by
 unfold hr
 rw [List.getElem?_append_right (by omega)]
 congr 1
 omega
include hP in
theorem hr_at0 (L : Heap) : (hr P L)[p]? = L[0]? := hr_at hP L 0
include hP in
theorem hr_set (L : Heap) (i : Nat) (y : Ob) : (hr P L).set (p + i) y = hr P (L.set i y) := by
 unfold hr
 rw [List.set_append_right _ _ (by omega), show p + i - P.length = i by omega]
include hP in
theorem hr_set0 (L : Heap) (y : Ob) : (hr P L).set p y = hr P (L.set 0 y) := hr_set hP L 0 y
include hP in
theorem hr_len (L : Heap) : (hr P L).length = p + L.length := by
 unfold hr
 rw [List.length_append, hP]
theorem hr_push (L Z : Heap) : hr P L ++ Z = hr P (L ++ Z) := by simp [hr]
include hP in
theorem hr_take (L : Heap) (i : Nat) : List.take (p + i) (hr P L) = hr P (L.take i) := by
 unfold hr
 rw [List.take_append, List.take_of_length_le (by omega), show p + i - P.length = i by omega]
theorem hr_all (f : Ob → Bool) (L : Heap) : (hr P L).all f = (P.all f && L.all f) := by
 unfold hr
 rw [List.all_append]
end
def grb0 : Grb := { g0 := .box (.d (.agg firstM.cs)), g1 := .arr [Itv.d ⟨1, actI firstM 0⟩] true, g2 := .arr [Itv.d ⟨1, actI firstM 1⟩] true, g3 := .arr [Itv.d ⟨1, actI firstM 2⟩] true, g4 := .arr [Itv.d ⟨1, actI firstM 3⟩] true, w0 := true, w1 := true, w2 := true, w3 := true }
theorem grb0_ok (n : Nat) : grb0.ok n := ⟨rfl, rfl, rfl, rfl, rfl⟩
theorem lays_new {P : Heap} {p : Nat} (hP : P.length = p) : evF C F_q0k [.ptr (p + 2) 0, .d (.agg firstM.cs)] (hr P [.map .u32 [], .map .u32 [], .box (.agg [.mp p, .mp (p + 1), .d (.i .u32 0), .nilS, .nilS, .nilS, .nilS])]) = some (.tup [], hq P (hobs p hs0 grb0) []) := by
 have g := hr_at hP
 have g0 := hr_at0 hP
 have st := hr_set hP
 have st0 := hr_set0 hP
 have ln := hr_len hP
 have tk := hr_take hP
 have A0 := acting_ev firstM 0
 have A1 := acting_ev firstM 1
 have A2 := acting_ev firstM 2
 have A3 := acting_ev firstM 3
 have u0 : IntKind.u8.wrap 0 = 0 := by decide
 have u1 : IntKind.u8.wrap 1 = 1 := by decide
 have u2 : IntKind.u8.wrap 2 = 2 := by decide
 have u3 : IntKind.u8.wrap 3 = 3 := by decide
 have i1 : IntKind.i64.wrap 1 = 1 := by decide
 have i0' : IntKind.i64.wrap (0 + 1) = 1 := by decide
 have i1' : IntKind.i64.wrap (1 + 1) = 2 := by decide
 have i2' : IntKind.i64.wrap (2 + 1) = 3 := by decide
 have i3' : IntKind.i64.wrap (3 + 1) = 4 := by decide
 have zU : ∀ v : Int, upd Itv.zeroA 0 [.d (.i .u32 v)] = [.d (.i .u32 v), .nilS] := fun _ => rfl
 have zV : ∀ x y z : AV, upd [x, y] 1 [z] = [x, z] := fun _ _ _ => rfl
 have hf : firstM.epoch = 1 := rfl
 have l1 : (1 ≤ LIM) = True := eq_true (by decide)
 have e0 : ((0 : Int) == 0) = true := rfl
 rw [evF_code (rfl : C F_q0k = some a_q0k) _ _ rfl]
 simp +decide only [c_q0k, g, g0, st, st0, ln, tk, hr_push, hr_all, setM, thaws, Pk.EVL, Pk.EVD, ↓reduceIte, reduceCtorEq, Nat.reduceEqDiff, Nat.reduceAdd, Nat.reduceLeDiff, Nat.reduceBNe, Nat.reduceLT, Nat.reduceBEq, Nat.reduceSub, Nat.reduceMul, Int.reduceLT, Int.reduceLE, Int.reduceEq, Int.reduceToNat, Int.reduceNeg, Pk.TY_Mp]
 rw [evL_eq]
 simp +decide only [K_q0k_0, l_q0k_0, g, g0, st, st0, ln, tk, hr_push, hr_all, A0, A1, A2, A3, u0, u1, u2, u3, i1, i0', i1', i2', i3', zU, zV, hf, l1, e0, ite_self, againL_exit, Nat.add_lt_add_iff_left, List.all_append, Pk.EVL, Pk.EVD, ↓reduceIte, reduceCtorEq, Nat.reduceEqDiff, Nat.reduceAdd, Nat.reduceLeDiff, Nat.reduceBNe, Nat.reduceLT, Nat.reduceBEq, Nat.reduceSub, Nat.reduceMul, Int.reduceLT, Int.reduceLE, Int.reduceEq, Int.reduceToNat, Int.reduceNeg, Pk.TY_Mp, Pk.TY_Itv]
 rw [evL_eq]
 simp +decide only [K_q0k_0, l_q0k_0, g, g0, st, st0, ln, tk, hr_push, hr_all, A0, A1, A2, A3, u0, u1, u2, u3, i1, i0', i1', i2', i3', zU, zV, hf, l1, e0, ite_self, againL_exit, Nat.add_lt_add_iff_left, List.all_append, Pk.EVL, Pk.EVD, ↓reduceIte, reduceCtorEq, Nat.reduceEqDiff, Nat.reduceAdd, Nat.reduceLeDiff, Nat.reduceBNe, Nat.reduceLT, Nat.reduceBEq, Nat.reduceSub, Nat.reduceMul, Int.reduceLT, Int.reduceLE, Int.reduceEq, Int.reduceToNat, Int.reduceNeg, Pk.TY_Mp, Pk.TY_Itv]
 rw [evL_eq]
 simp +decide only [K_q0k_0, l_q0k_0, g, g0, st, st0, ln, tk, hr_push, hr_all, A0, A1, A2, A3, u0, u1, u2, u3, i1, i0', i1', i2', i3', zU, zV, hf, l1, e0, ite_self, againL_exit, Nat.add_lt_add_iff_left, List.all_append, Pk.EVL, Pk.EVD, ↓reduceIte, reduceCtorEq, Nat.reduceEqDiff, Nat.reduceAdd, Nat.reduceLeDiff, Nat.reduceBNe, Nat.reduceLT, Nat.reduceBEq, Nat.reduceSub, Nat.reduceMul, Int.reduceLT, Int.reduceLE, Int.reduceEq, Int.reduceToNat, Int.reduceNeg, Pk.TY_Mp, Pk.TY_Itv]
 rw [evL_eq]
 simp +decide only [K_q0k_0, l_q0k_0, g, g0, st, st0, ln, tk, hr_push, hr_all, A0, A1, A2, A3, u0, u1, u2, u3, i1, i0', i1', i2', i3', zU, zV, hf, l1, e0, ite_self, againL_exit, Nat.add_lt_add_iff_left, List.all_append, Pk.EVL, Pk.EVD, ↓reduceIte, reduceCtorEq, Nat.reduceEqDiff, Nat.reduceAdd, Nat.reduceLeDiff, Nat.reduceBNe, Nat.reduceLT, Nat.reduceBEq, Nat.reduceSub, Nat.reduceMul, Int.reduceLT, Int.reduceLE, Int.reduceEq, Int.reduceToNat, Int.reduceNeg, Pk.TY_Mp, Pk.TY_Itv]
 rw [evL_eq]
 simp +decide only [K_q0k_0, l_q0k_0, g, g0, st, st0, ln, tk, hr_push, hr_all, A0, A1, A2, A3, u0, u1, u2, u3, i1, i0', i1', i2', i3', zU, zV, hf, l1, e0, ite_self, againL_exit, Nat.add_lt_add_iff_left, List.all_append, Pk.EVL, Pk.EVD, ↓reduceIte, reduceCtorEq, Nat.reduceEqDiff, Nat.reduceAdd, Nat.reduceLeDiff, Nat.reduceBNe, Nat.reduceLT, Nat.reduceBEq, Nat.reduceSub, Nat.reduceMul, Int.reduceLT, Int.reduceLE, Int.reduceEq, Int.reduceToNat, Int.reduceNeg, Pk.TY_Mp, Pk.TY_Itv]
 rfl
end Go.Proofs.YthlpognahlnaaaaGreat
