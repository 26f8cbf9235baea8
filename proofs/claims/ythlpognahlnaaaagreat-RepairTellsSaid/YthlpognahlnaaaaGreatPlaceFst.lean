/- The document's histories: Add (the reference's),amid other objects. / The law PlaceFew. / What a pick hangs on: weights,hosts; the first one of it. / The law PlaceWeight. / The laws' ints. / The first one drawn,told by the straws; picks hang on weights and hosts alone. -/
import Derived.Test.YthlpognahlnaaaaGreatPkEvd
import Derived.Test.YthlpognahlnaaaaGreatHrB
import Derived.Test.YthlpognahlnaaaaGreatHsB
set_option linter.all false
namespace Go.Proofs.YthlpognahlnaaaaGreat
open Pv Go Pk
set_option maxRecDepth 10000
set_option maxHeartbeats 4000000
/-- The objects of a reference's history: its box,others,and the array of its row. -/
def rOk (n0 : Nat) (L : Heap) (l : List Inc) : Prop:=∃ (v : AV) (T : Heap),L = .box (.agg [v]) :: T ∧ plain T ∧ ((v = .nilS ∧ l = [] ∧ T = []) ∨ ∃ j : Nat,v = .view (n0 + 1 + j) l.length 3 0 l.length ∧ T[j]? = some (.arr (l.map Inc.d) true))
theorem rOk_new (n0 : Nat) : rOk n0 [.box (.agg [.nilS])] []:=⟨.nilS,[],rfl,fun _ => rfl,.inl ⟨rfl,rfl,rfl⟩⟩
theorem zho {n0 : Nat} {L : Heap} {l : List Inc} (h : rOk n0 L l) : 0 < L.length:=by
 obtain ⟨v,T,rfl,_⟩:=h
 simp
theorem zme {n0 : Nat} {L : Heap} {l : List Inc} (h : rOk n0 L l) (k : Nat) : L.all (ltO (n0 + L.length + k)) = true:=by
 obtain ⟨v,T,rfl,hT,h⟩:=h
 rw [List.all_cons,hT]
 rcases h with ⟨rfl,rfl,_⟩ | ⟨j,rfl,hj⟩
 ·rfl
 ·have := (List.getElem?_eq_some_iff.1 hj).1
  simp [ltO,lt,lts]
  omega
theorem znq {l : List Inc} (hl : goodI l) (x : Inc) : (refNext (mapAt l) x).2 = decide (isInc x = true ∧ l.length < 59):=by
 unfold refNext
 rw [zgk hl,za8,Bool.true_and]
 by_cases h1 : isInc x = true
 ·rw [h1, Bool.true_and]
  by_cases h2 : l.length < 59
  ·rw [decide_eq_false (by omega),decide_eq_true (by exact ⟨rfl,h2⟩)]; rfl
  ·rw [decide_eq_true (by omega),decide_eq_false (by omega)]; rfl
 ·rw [eq_false_of_ne_true h1]; rfl
theorem r3add_at {P0 : Heap} {n0 : Nat} (hP : P0.length = n0) (hPa : ∀ k,P0.all (ltO (n0 + k)) = true) {L : Heap} {l : List Inc} (hL : rOk n0 L l) (hl : goodI l) (x : Inc) (hx : x.ok) :
  ∃ L',rOk n0 L' (takeN l x) ∧ L.length ≤ L'.length ∧ evF C F_q22 [.ptr n0 0,.d (.i .u32 ((l.length : Int) + 2)),.d (.agg x.cs)] (hr P0 L) = some (.d (.i .i64 (codeN l x)),hr P0 L'):=by
 have hLp:=zho hL
 have hLa:=zme hL
 obtain ⟨m,hm⟩ : ∃ m,n0 + L.length = m:=⟨_,rfl⟩
 obtain ⟨Q,hQe⟩ : ∃ Q,hr P0 L = Q:=⟨_,rfl⟩
 have hQ : Q.length = m:=by rw [← hQe,zbb hP,hm]
 have hQa : ∀ k,Q.all (ltO (m + k)) = true:=fun k => by
  rw [← hQe,zaw,← hm,hLa k,Nat.add_assoc,hPa]; rfl
 have hQ1 : (hr Q [.box (.d (.agg x.cs))]).length = m + 1:=by rw [zbb hQ]; rfl
 have hQ1a : ∀ k,(hr Q [.box (.d (.agg x.cs))]).all (ltO (m + 1 + k)) = true:=fun k => by rw [zaw,Nat.add_assoc,hQa]; rfl
 obtain ⟨v,T,hLe,hT,hv⟩:=hL
 have hb : Q[n0]? = some (.box (.agg [v])):=by rw [← hQe,hLe,zbm hP]; rfl
 have hb1 : ∀ X,(hr Q X)[n0]? = some (.box (.agg [v])):=fun X => by unfold hr; rw [List.getElem?_append_left (by omega)]; exact hb
 have hrow : isRow (hr Q [.box (.d (.agg x.cs))]) (m + 1) v l:=by
  rcases hv with ⟨h1,h2,_⟩ | ⟨j,h1,hj⟩
  ·exact .inl ⟨h1,h2⟩
  ·have hjl := (List.getElem?_eq_some_iff.1 hj).1
   have hl2 : L.length = T.length + 1:=by rw [hLe]; rfl
   refine .inr ⟨n0 + 1 + j,h1,by omega,?_⟩
   unfold hr
   rw [List.getElem?_append_left (by omega),← hQe,show n0 + 1 + j = n0 + (j + 1) by omega,hr_at hP,hLe]
   exact hj
 have h59:=hl.1
 have LA:=zje hQ1 (by omega) hQ1a hrow (hb1 _) hl
 have MA:=refmap_at hQ1 (by omega) hQ1a hrow (hb1 _) hl l.length (Nat.le_refl _)
 rw [List.take_length] at MA
 have AP:=ze8 (mapAt l) x hx
 have hgo:=znq hl x
 have had:=addL_next l x
 have hw1 : IntKind.u32.wrap (((l.length : Int) + 1) + 1) = (l.length : Int) + 2:=by rw [wu32 (by omega)]; omega
 have d1 : decide ((l.length : Int) + 2 ≤ (l.length : Int) + 1) = false:=decide_eq_false (by omega)
 have d2 : decide ((l.length : Int) + 2 > (l.length : Int) + 2) = false:=decide_eq_false (by omega)
 have hq1:=hr_at hQ
 have hq0:=zbm hQ
 have hs1:=zb2 hQ
 have hs0:=zbc hQ
 have hln:=zbb hQ
 have htk:=za9 hQ
 have hpush : ∀ Z,Q ++ Z = hr Q Z:=fun _ => rfl
 have htk0 : ∀ X,List.take m (hr Q X) = Q:=fun X => by unfold hr; exact List.take_left' hQ
 have hall0:=hQa 0
 rw [Nat.add_zero] at hall0
 have hQ1a' : ∀ X,plain X → ∀ k,(hr Q X).all (ltO (m + k)) = true:=fun X hX k => by rw [zaw,hQa,hX]; rfl
 have hall1 : (hr Q [.box (.d (.agg x.cs))]).all (ltO (m + 1)) = true:=hQ1a 0
 have em : (m + 1 != m) = true:=by simp
 have em0 : (n0 != m + 1) = true:=by simp; omega
 have em2 : (m + 2 != n0) = true:=by simp; omega
 have e1 : (n0 < m + 1) = True:=eq_true (by omega)
 have e2 : (m < m + 1) = True:=eq_true (by omega)
 have e3 : (m ≤ m + 1) = True:=eq_true (by omega)
 have en0 : (n0 == m) = false:=by rw [beq_eq_false_iff_ne]; omega
 rw [zaa (rfl : C F_q22 = some a_q22) _ _ rfl]
 unfold takeN codeN
 by_cases c : isInc x = true ∧ l.length < 59
 case neg =>
  rw [decide_eq_false c] at hgo
  rw [if_neg c] at had
  rw [had]
  refine ⟨L,⟨v,T,hLe,hT,hv⟩,Nat.le_refl _,?_⟩
  rw [hQe]
  simp +decide only [c_q22,LA,MA,AP,hgo,hw1,d1,hpush,hQ,zao,hq1,hq0,hs1,hln,htk0,hall0,hall1,em,e1,zb9,Pk.EVL,Pk.EVD,↓reduceIte,Nat.reduceAdd,Pk.TY_Mp,Pk.TY_Inc]
 rw [decide_eq_true c] at hgo
 rw [if_pos c] at had
 rw [had,hQe]
 have hset0 : ∀ (X : Heap) (b : Ob),(hr Q X).set n0 b = hr (Q.set n0 b) X:=fun X b => by unfold hr; rw [List.set_append_left _ _ (by omega)]
 have hlen0 : ∀ (X : Heap) (b : Ob),(hr (Q.set n0 b) X).length = m + X.length:=fun X b => by unfold hr; rw [List.length_append,List.length_set,hQ]
 have htk2 : ∀ (Q2 X : Heap),Q2.length = m → List.take m (hr Q2 X) = Q2:=fun Q2 X h => by unfold hr; exact List.take_left' h
 rcases hv with ⟨rfl,hl0,rfl⟩ | ⟨j,rfl,hj⟩
 ·have hm1 : m = n0 + 1 := by rw [← hm, hLe]; rfl
  have hQ0 : ∀ b,Q.set n0 b = hr P0 [b]:=fun b => by rw [← hQe,hLe,zbc hP]; rfl
  have hlim : (1 ≤ LIM) = True:=eq_true (by unfold LIM; omega)
  have hnall : ∀ (X : Heap) a,((List.take m (hr (Q.set n0 (.box (.agg [.view (m + 3) a 3 0 a]))) X)).all (ltO m)) = false:=fun X a => by
   rw [htk2 _ _ (by rw [List.length_set,hQ]),hQ0,zaw]
   have : ([.box (.agg [.view (m + 3) a 3 0 a])] : Heap).all (ltO m) = false:=by simp [ltO,lt,lts]
   rw [this,Bool.and_false]
  refine ⟨[.box (.agg [.view (m + 3) 1 3 0 1]),.box (.d (.agg x.cs)),.box (.d (.agg (refNext (mapAt l) x).1.cs)),.arr [.agg x.cs] true,.arr [.agg x.cs] true],?_,by rw [hLe]; simp,?_⟩
  ·refine ⟨.view (m + 3) 1 3 0 1, _, rfl, fun _ => rfl, .inr ⟨3, ?_, ?_⟩⟩
   ·rw [hl0,hm1]; rfl
   ·rw [hl0]; rfl
  have hfin : ∀ b X,hr (Q.set n0 b) X = hr P0 (b :: X):=fun b X => by rw [hQ0]; unfold hr; rw [List.append_assoc]; rfl
  rw [← hfin]
  simp +decide only [c_q22,LA,MA,AP,hgo,hw1,d1,hb1,hset0,hlen0,hnall,hlim,hpush,hQ,zao,hq1,hq0,hs1,hln,hall1,em,em2,e1,elems,zb9,Pk.EVL,Pk.EVD,↓reduceIte,Nat.reduceAdd,Pk.TY_Mp,Pk.TY_Inc]
 ·have hjl := (List.getElem?_eq_some_iff.1 hj).1
  have hmT : m = n0 + (T.length + 1):=by rw [← hm,hLe]; rfl
  generalize ho : n0 + 1 + j = o at *
  have hom : o < m:=by omega
  have hon : o ≠ n0:=by omega
  have hlim : (l.length + 1 ≤ LIM) = True:=eq_true (by unfold LIM; omega)
  have hEl : (l.map Inc.d).length = l.length:=List.length_map _
  have hato : ∀ X,(hr Q X)[o]? = some (.arr (l.map Inc.d) true):=fun X => by
   unfold hr
   rw [List.getElem?_append_left (by omega),← hQe,← ho,show n0 + 1 + j = n0 + (j + 1) by omega,hr_at hP,hLe]
   exact hj
  have hseto : ∀ (X : Heap) (b : Ob),(hr Q X).set o b = hr (Q.set o b) X:=fun X b => by unfold hr; rw [List.set_append_left _ _ (by omega)]
  have hb2 : ∀ X c,(hr (Q.set o c) X)[n0]? = some (.box (.agg [.view o l.length 3 0 l.length])):=fun X c => by
   unfold hr
   rw [List.getElem?_append_left (by rw [List.length_set]; omega),List.getElem?_set_ne hon,hb]
  have hset2 : ∀ X c b,(hr (Q.set o c) X).set n0 b = hr ((Q.set o c).set n0 b) X:=fun X c b => by unfold hr; rw [List.set_append_left _ _ (by rw [List.length_set]; omega)]
  have hlen2 : ∀ c b X,(hr ((Q.set o c).set n0 b) X).length = m + X.length:=fun c b X => by unfold hr; rw [List.length_append,List.length_set,List.length_set,hQ]
  have hlen1 : ∀ c X,(hr (Q.set o c) X).length = m + X.length:=fun c X => by unfold hr; rw [List.length_append,List.length_set,hQ]
  have hQ2 : ∀ c b,(Q.set o c).set n0 b = hr P0 (b :: T.set j c):=fun c b => by
   rw [← hQe,hLe,← ho,show n0 + 1 + j = n0 + (j + 1) by omega,zb2 hP,zbc hP]
   rfl
  have htk3 : ∀ c b X,List.take m (hr ((Q.set o c).set n0 b) X) = (Q.set o c).set n0 b:=fun c b X => htk2 _ _ (by rw [List.length_set,List.length_set,hQ])
  have hTs : ∀ es,plain (T.set j (.arr es true)):=fun es k => by
   rw [List.all_eq_true]
   intro y hy
   rcases List.mem_or_eq_of_mem_set hy with h | rfl
   ·exact (List.all_eq_true.1 (hT k)) y h
   ·rfl
  have hall3 : ∀ es a,((Q.set o (.arr es true)).set n0 (.box (.agg [.view o a 3 0 a]))).all (ltO m) = true:=fun es a => by
   rw [hQ2,zaw,List.all_cons,hTs,hmT,hPa]
   simp [ltO,lt,lts]
   omega
  refine ⟨.box (.agg [.view o (l.length + 1) 3 0 (l.length + 1)]) :: T.set j (.arr (l.map Inc.d ++ [.agg x.cs]) true),?_,by rw [hLe]; simp,?_⟩
  ·refine ⟨_, _, rfl, hTs _, .inr ⟨j, ?_, ?_⟩⟩
   ·rw [List.length_append,← ho]; rfl
   ·rw [List.getElem?_set_self hjl,List.map_append]; rfl
  rw [← hQ2]
  simp +decide only [c_q22,LA,MA,AP,hgo,hw1,d1,hb1,hato,hseto,hb2,hset2,hlen2,htk3,hall3,hEl,hlim,hpush,hQ,zao,hq1,hq0,hs1,hln,hall1,em,em2,e1,elems,zb9,Pk.EVL,Pk.EVD,↓reduceIte,Nat.reduceAdd,Pk.TY_Mp,Pk.TY_Inc]
end Go.Proofs.YthlpognahlnaaaaGreat

namespace Go.Proofs.YthlpognahlnaaaaGreat
open Pv Go Pk
set_option maxRecDepth 10000
set_option maxHeartbeats 2000000
def firstP : Pk.Mp:=⟨1,⟨⟨true,8,0⟩,⟨true,8,1⟩,⟨true,8,2⟩,⟨true,8,3⟩,⟨true,8,0⟩⟩⟩
/-- The first map,changed: all on one host; or all but one without weight. -/
def fewM (host : Bool) (k : Nat) : Nat → Pk.Mp
 | 0 => firstP
 | i + 1 => let m:=fewM host k i
  if host = true then { m with osds:=m.osds.set i { m.osds.get i with host:=5 } }
  else if i = k then m else { m with osds:=m.osds.set i { m.osds.get i with weight:=0 } }
def noneM : Nat → Pk.Mp
 | 0 => firstP
 | i + 1 => let m:=noneM i
  { m with osds:=m.osds.set i { m.osds.get i with weight:=0 } }
end Go.Proofs.YthlpognahlnaaaaGreat

namespace Go.Proofs.YthlpognahlnaaaaGreat
open Pv Go Pk
set_option maxRecDepth 10000
theorem zmw (os : List Osd) (i : Nat) : inN os (i + 1) = inN os i ++ (if wOf os i > 0 then [i] else []):=by
 rcases h : os[i]? with _ | o
 ·simp [inN,wOf,h]
 ·simp [inN,wOf,h]
theorem zi6 (os : List Osd) : ∀ n,(inN os n).Pairwise (· < ·)
 | 0 => .nil
 | n + 1 => by
  rw [zmw,List.pairwise_append]
  refine ⟨zi6 os n,?_,fun a ha b hb => ?_⟩
  ·split
   ·exact List.pairwise_singleton _ _
   ·exact .nil
  ·have := zep os n a ha
   split at hb
   ·simp at hb; omega
   ·simp at hb
end Go.Proofs.YthlpognahlnaaaaGreat

namespace Go.Proofs.YthlpognahlnaaaaGreat
open Pv Go Pk
set_option maxRecDepth 10000
set_option maxHeartbeats 2000000
def setW (m : Pk.Mp) (i : Nat) (w : Int) : Pk.Mp:={ m with osds:=m.osds.set i { m.osds.get i with weight:=w } }
theorem wOf_osL (m : Pk.Mp) (i : Nat) (h : i < 5) : wOf (osL m) i = (m.osds.get i).weight:=match i,h with
 | 0,_ => rfl | 1,_ => rfl | 2,_ => rfl | 3,_ => rfl | 4,_ => rfl | _ + 5,h => absurd h (by omega)
end Go.Proofs.YthlpognahlnaaaaGreat

namespace Go.Proofs.YthlpognahlnaaaaGreat
open Pv Go
set_option maxRecDepth 10000
set_option maxHeartbeats 1000000
end Go.Proofs.YthlpognahlnaaaaGreat

namespace Go.Proofs.YthlpognahlnaaaaGreat
open Pv Go Pk
set_option maxRecDepth 10000
/-- o is the first of those with the longest straw. -/
def isDrawn (L : List Nat) (f : Nat → Int) (o : Nat) : Prop:=o ∈ L ∧ (∀ q ∈ L,f q ≤ f o) ∧ ∀ q ∈ L,q < o → f q < f o
theorem zi0 {L : List Nat} {f : Nat → Int} {a b : Nat} (ha : isDrawn L f a) (hb : isDrawn L f b) : a = b:=by
 obtain ⟨a1,a2,a3⟩:=ha
 obtain ⟨b1,b2,b3⟩:=hb
 rcases Nat.lt_trichotomy a b with h | h | h
 ·have:=b3 a a1 h; have:=a2 b b1; omega
 ·exact h
 ·have:=a3 b b1 h; have:=b2 a a1; omega
theorem zlg (L : List Nat) (hs : L.Pairwise (· < ·)) (h0 : 0 < L.length) (f : Nat → Int) : isDrawn L f (drawn L f):=by
 have hsp:=zi8 (L.map f)
 obtain ⟨b0,b1⟩:=zmu (L.map f) (by simpa using h0)
 rw [List.length_map] at hsp b1
 have hb : (bestI (L.map f)).toNat < L.length:=by omega
 have hg : ∀ (j : Nat) (hj : j < L.length),(L.map f).getD j 0 = f (L[j]'hj):=by
  intro j hj
  simp [List.getD_eq_getElem?_getD,hj]
 have hd : drawn L f = L[(bestI (L.map f)).toNat]'hb:=by
  unfold drawn
  rw [List.getD_eq_getElem?_getD,List.getElem?_eq_getElem hb]; rfl
 rcases hsp with ⟨h,_⟩ | ⟨_,_,c2,c3⟩
 ·omega
 rw [hg _ hb] at c2 c3
 refine ⟨zdh L h0 f,fun q hq => ?_,fun q hq hlt => ?_⟩
 ·obtain ⟨j, hj, rfl⟩ := List.getElem_of_mem hq
  have:=c2 j hj
  rw [hg j hj] at this
  rw [hd]; exact this
 ·obtain ⟨j, hj, rfl⟩ := List.getElem_of_mem hq
  rw [hd] at hlt ⊢
  have hjb : j < (bestI (L.map f)).toNat:=by
   rcases Nat.lt_trichotomy j (bestI (L.map f)).toNat with h | h | h
   ·exact h
   ·subst h; omega
   ·have:=List.pairwise_iff_getElem.1 hs _ j hb hj h; omega
  have:=c3 j (by omega)
  rw [hg j hj] at this
  exact this
theorem mem_inN (os : List Osd) (n i : Nat) : i ∈ inN os n ↔ i < n ∧ wOf os i > 0:=by
 induction n with
 | zero => simp [inN]
 | succ n ih =>
  rw [zmw,List.mem_append,ih]
  constructor
  ·rintro (⟨h1, h2⟩ | h)
   ·exact ⟨by omega,h2⟩
   ·split at h
    ·simp at h; subst h; exact ⟨by omega,by assumption⟩
    ·simp at h
  ·rintro ⟨h1, h2⟩
   by_cases c : i < n
   ·exact .inl ⟨c,h2⟩
   ·have : i = n := by omega
    subst this
    exact .inr (by rw [if_pos h2]; simp)
end Go.Proofs.YthlpognahlnaaaaGreat
