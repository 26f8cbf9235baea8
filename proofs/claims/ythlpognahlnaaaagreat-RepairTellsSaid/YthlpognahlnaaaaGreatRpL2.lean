/- The best of states (plain): nobody counts more; the order plays no part. / Plans of states that may be: what they come to. Plain laws; plans of a row in an array and a row. / A history and the document's one behind it: what both tell. / The document's choice: Best,Started (layer 8's reference). / The document's choice: Lacks,Enough (layer 8's reference),amid other objects. / The law RepairBlocked. -/
import Derived.Test.YthlpognahlnaaaaGreatRpA
import Derived.Test.YthlpognahlnaaaaGreatRpD
import Derived.Test.YthlpognahlnaaaaGreatPkEvd
import Derived.Test.YthlpognahlnaaaaGreatHrD
import Derived.Test.YthlpognahlnaaaaGreatObjB
import Derived.Test.YthlpognahlnaaaaGreatMgD
import Derived.Test.YthlpognahlnaaaaGreatHrB
set_option linter.all false
namespace Go.Proofs.YthlpognahlnaaaaGreat
open Pv Go Pk
set_option maxRecDepth 10000
set_option maxHeartbeats 2000000
theorem zh7 (c d : Cand) : beats c d = true ↔ (c.started > d.started ∨ (c.started = d.started ∧ (c.since > d.since ∨ (c.since = d.since ∧ (c.n > d.n ∨ (c.n = d.n ∧ c.osd < d.osd)))))):=by
 unfold beats
 by_cases h1 : c.started = d.started <;> by_cases h2 : c.since = d.since <;> by_cases h3 : c.n = d.n <;> simp [h1,h2,h3] <;> omega
theorem zom {c d : Cand} : beats c d = false ↔ ¬ beats c d = true:=by simp
theorem zrs (L : List State) : ∀ os : List Int,os.length = L.length → (L = [] ∧ (bestFold os L).1 = -1) ∨ ∃ (b : Nat) (o : Int) (s : State),(bestFold os L).1 = (b : Int) ∧ os[b]? = some o ∧ L[b]? = some s ∧ (bestFold os L).2 = candOf o s ∧
  ∀ (i : Nat) (o' : Int) (s' : State),os[i]? = some o' → L[i]? = some s' → beats (candOf o' s') (candOf o s) = false:=by
 refine zap (M:=fun L => ∀ os : List Int,os.length = L.length → (L = [] ∧ (bestFold os L).1 = -1) ∨ ∃ (b : Nat) (o : Int) (s : State),(bestFold os L).1 = (b : Int) ∧ os[b]? = some o ∧ L[b]? = some s ∧ (bestFold os L).2 = candOf o s ∧
  ∀ (i : Nat) (o' : Int) (s' : State),os[i]? = some o' → L[i]? = some s' → beats (candOf o' s') (candOf o s) = false) ?_ ?_ L
 ·intro os h
  have : os = []:=List.eq_nil_of_length_eq_zero h
  subst this
  exact .inl ⟨rfl,rfl⟩
 ·intro L s ih os h
  obtain ⟨o,os',rfl⟩ : ∃ o os',os = os' ++ [o]:=by
   have hne : os ≠ []:=by intro hh; rw [hh] at h; simp at h
   exact ⟨os.getLast hne,os.dropLast,(List.dropLast_concat_getLast hne).symm⟩
  have hl : os'.length = L.length:=by simp at h; exact h
  rw [zb5 _ _ _ _ hl]
  refine .inr ?_
  have hlast : ∀ (i : Nat) (o' : Int) (s' : State),(os' ++ [o])[i]? = some o' → (L ++ [s])[i]? = some s' → (os'[i]? = some o' ∧ L[i]? = some s') ∨ (o' = o ∧ s' = s):=by
   intro i o' s' h1 h2
   by_cases c : i < L.length
   ·rw [List.getElem?_append_left (by omega)] at h1
    rw [List.getElem?_append_left c] at h2
    exact .inl ⟨h1,h2⟩
   ·rw [List.getElem?_append_right (by omega)] at h1
    rw [List.getElem?_append_right (by omega)] at h2
    have hi:=(List.getElem?_eq_some_iff.1 h2).1
    simp at hi
    have : i - L.length = 0:=by omega
    rw [hl,this] at h1
    rw [this] at h2
    simp at h1 h2
    exact .inr ⟨h1.symm,h2.symm⟩
  have hnew : (os' ++ [o])[L.length]? = some o ∧ (L ++ [s])[L.length]? = some s:=by
   constructor
   ·rw [← hl,List.getElem?_append_right (Nat.le_refl _),Nat.sub_self]; rfl
   ·rw [List.getElem?_append_right (Nat.le_refl _),Nat.sub_self]; rfl
  have hself : beats (candOf o s) (candOf o s) = false:=by rw [zom,zh7]; omega
  rcases ih os' hl with ⟨rfl,hf⟩ | ⟨b,o1,s1,hb,ho,hs,htop,hmax⟩
  ·rw [if_pos (by rw [hf]; rfl)]
   refine ⟨0,o,s,rfl,hnew.1,hnew.2,rfl,?_⟩
   intro i o' s' h1 h2
   rcases hlast i o' s' h1 h2 with ⟨_,h⟩ | ⟨rfl,rfl⟩
   ·simp at h
   ·exact hself
  ·by_cases c : beats (candOf o s) (bestFold os' L).2 = true
   ·rw [if_pos (by rw [c, Bool.or_true])]
    refine ⟨L.length,o,s,rfl,hnew.1,hnew.2,rfl,?_⟩
    intro i o' s' h1 h2
    rcases hlast i o' s' h1 h2 with ⟨h1,h2⟩ | ⟨rfl,rfl⟩
    ·have hm := hmax i o' s' h1 h2
     rw [htop,zh7] at c
     rw [zom,zh7] at hm ⊢
     omega
    ·exact hself
   ·rw [if_neg (by rw [hb]; simp [c])]
    refine ⟨b,o1,s1,hb,?_,?_,htop,?_⟩
    ·rw [List.getElem?_append_left (List.getElem?_eq_some_iff.1 ho).1]; exact ho
    ·rw [List.getElem?_append_left (List.getElem?_eq_some_iff.1 hs).1]; exact hs
    ·intro i o' s' h1 h2
     rcases hlast i o' s' h1 h2 with ⟨h1,h2⟩ | ⟨rfl,rfl⟩
     ·exact hmax i o' s' h1 h2
     ·rw [htop] at c
      exact eq_false_of_ne_true c
def rowN (n : Nat) : List Int:=(List.range n).map fun i : Nat => (i : Int)
def turnN (n t k : Nat) : List Int:=(List.range k).map fun i : Nat => (((i + t) % n : Nat) : Int)
def turnS (L : List State) (t k : Nat) : List State:=(List.range k).map fun i : Nat => L.getD ((i + t) % L.length) State.zero
/-- Neither a later start nor more of the same start. -/
def noMore (s b : State) : Prop:=s.started ≤ b.started ∧ (s.started = b.started → (headS s).1 ≤ (headS b).1 ∧ ((headS s).1 = (headS b).1 → (headS s).2 ≤ (headS b).2))
end Go.Proofs.YthlpognahlnaaaaGreat

namespace Go.Proofs.YthlpognahlnaaaaGreat
open Pv Go Pk
set_option maxRecDepth 10000
set_option maxHeartbeats 4000000
/-- Of some states that may be,one is the best. -/
theorem best_some {os : List Int} {L : List State} (h : os.length = L.length) (h0 : 0 < L.length) (hst : ∀ s ∈ L,isSt s = true) : ∃ (b : Nat) (t : State),bestS os L = (b : Int) ∧ L[b]? = some t:=by
 have hany : (L.any fun s => !isSt s) = false:=by
  rw [List.any_eq_false]
  intro x hx
  rw [hst x hx]
  decide
 rcases zrs L os h with ⟨h1,_⟩ | ⟨b,o,s,h1,_,h3,_⟩
 ·rw [h1] at h0; simp at h0
 ·refine ⟨b, s, ?_, h3⟩
  unfold bestS
  rw [if_neg (by rw [hany]; simp [h]),h1]
theorem plan_some {l : List Inc} {g : Int} {os : List Int} {L : List State} {b : Nat} {t : State} (hb : bestS os L = (b : Int)) (ht : L[b]? = some t) : planOf l g os L = ⟨(b : Int),!enoughB l g os (startedS L),L.map fun s => makeM s t⟩:=by
 unfold planOf
 rw [hb,if_neg (by omega)]
 have : L.getD ((b : Int)).toNat State.zero = t:=by rw [Int.toNat_natCast,List.getD_eq_getElem?_getD,ht]; rfl
 rw [this]
def O5 : List Int:=[0,1,2,3,4]
end Go.Proofs.YthlpognahlnaaaaGreat

namespace Go.Proofs.YthlpognahlnaaaaGreat
open Pv Go Pk
set_option maxRecDepth 10000
set_option maxHeartbeats 4000000
section
variable {P S : Heap} {p n n0 : Nat} (hP : P.length = p) (hn : p + 12 + S.length = n) (hPp : plain P) (hS : ∀ k,S.all (ltO (n + k)) = true)
variable (hn0 : p + 12 = n0) {R W : Heap} {G : List Inc} (hSe : S = R ++ W) (hR : rOk n0 R G) (hG : goodI G)
include hP hn hPp hS hn0 hSe hR in
theorem zr_row (G1 : List Inc) {q : Grb} (hq : q.pl) {Y : Heap} (hY : plain Y) : (hz P S p G1 q Y).length = n + Y.length ∧ n0 < n + Y.length ∧ (∀ k,(hz P S p G1 q Y).all (ltO (n + Y.length + k)) = true) ∧
  ∃ v,isRow (hz P S p G1 q Y) (n + Y.length) v G ∧ (hz P S p G1 q Y)[n0]? = some (.box (.agg [v])):=by
 have hRp:=zho hR
 have hSl : S.length = R.length + W.length:=by rw [hSe,List.length_append]
 refine ⟨zcj hP hn _ _ _,by omega,fun k => by rw [Nat.add_assoc]; exact zf4 hP hn hPp hS G1 hq hY _,?_⟩
 obtain ⟨v,T,hRe,hT,hv⟩:=hR
 have hget : ∀ i : Nat,i < R.length → (hz P S p G1 q Y)[n0 + i]? = R[i]?:=fun i hi => by
  unfold hz
  rw [← hn0,show p + 12 + i = p + (12 + i) by omega,hq_at hP,List.getElem?_append_right (by rw [zaz]; omega),zaz,hSe,List.append_assoc,List.getElem?_append_left (by omega)]
  congr 1
  omega
 refine ⟨v,?_,?_⟩
 ·rcases hv with ⟨h1, h2, _⟩ | ⟨j, h1, hj⟩
  ·exact .inl ⟨h1,h2⟩
  ·have hjl := (List.getElem?_eq_some_iff.1 hj).1
   have hl2 : R.length = T.length + 1:=by rw [hRe]; rfl
   refine .inr ⟨n0 + 1 + j,h1,by omega,?_⟩
   rw [show n0 + 1 + j = n0 + (j + 1) by omega,hget _ (by omega),hRe]
   exact hj
 ·have := hget 0 hRp
  rw [Nat.add_zero] at this
  rw [this,hRe]
  rfl
include hP hn hPp hS hn0 hSe hR hG
end
end Go.Proofs.YthlpognahlnaaaaGreat

namespace Go.Proofs.YthlpognahlnaaaaGreat
open Pv Go Pk
set_option maxRecDepth 10000
set_option maxHeartbeats 4000000
theorem eptrS (s : State) : AV.eptr s.cs = .eptr (.i .u32 s.started :: s.cs.tail):=rfl
theorem zqm (i : Int) (a : State) (k : Int) (b : State) (ha : stFull a) (hb : stFull b) : evF C F_q2v [.d (.i .i64 i),.d (.agg a.cs),.d (.i .i64 k),.d (.agg b.cs)] [] = some (.d (.b (beats (candOf i a) (candOf k b))),[]):=by
 have h1:=zft a ha
 have h2:=zft b hb
 rw [zaa (rfl : C F_q2v = some a_q2v) _ _ rfl]
 unfold beats candOf
 simp only
 generalize (headS a).1 = s1 at *
 generalize (headS a).2 = n1 at *
 generalize (headS b).1 = s2 at *
 generalize (headS b).2 = n2 at *
 rcases Bool.eq_false_or_eq_true (a.started != b.started) with c1 | c1
 ·simp +decide only [c_q2v,h1,h2,c1,Pk.EVL,Pk.EVD,↓reduceIte,Nat.reduceAdd,Pk.TY_State]
 rcases Bool.eq_false_or_eq_true (s1 != s2) with c2 | c2
 ·simp +decide only [c_q2v,h1,h2,c1,c2,Pk.EVL,Pk.EVD,↓reduceIte,Nat.reduceAdd,Pk.TY_State]
 rcases Bool.eq_false_or_eq_true (n1 != n2) with c3 | c3
 ·simp +decide only [c_q2v,h1,h2,c1,c2,c3,Pk.EVL,Pk.EVD,↓reduceIte,Nat.reduceAdd,Pk.TY_State]
 ·simp +decide only [c_q2v,h1,h2,c1,c2,c3,Pk.EVL,Pk.EVD,↓reduceIte,Nat.reduceAdd,Pk.TY_State]
theorem znd (L : List State) (hL : L.length ≤ 1000) : evF C F_q2u [.d (.sl (L.map State.d))] [] = some (.d (.i .u32 (startedS L)),[]):=by
 have hLl : (L.map State.d).length = L.length:=List.length_map _
 have hsn : ∀ (A : List State) (s : State),startedS (A ++ [s]) = mmI true (startedS A) s.started:=fun A s => by unfold startedS; rw [List.foldl_append]; rfl
 rw [zaa (rfl : C F_q2u = some a_q2u) _ _ rfl]
 simp +decide only [c_q2u,thaws,Pk.EVL,Pk.EVD,↓reduceIte]
 simp only [Option.bind_assoc]
 refine zaf (zac (fun i T H => lk T 0 = .d (.sl (L.map State.d)) ∧ lk T 3 = .d (.i .u32 (startedS (L.take i))) ∧ lk T 4 = .d (.i .i64 (i : Nat)) ∧ H = [])
  (fun e T H => e = .exit 0 ∧ lk T 3 = .d (.i .u32 (startedS L)) ∧ H = []) L.length ?_ ?_ L.length 0 _ _ (by omega) ⟨rfl,rfl,rfl,rfl⟩) ?_
 ·rintro i T H hi ⟨h0, h3, h4, rfl⟩
  obtain ⟨s,hs⟩ : ∃ s,L[i]? = some s:=⟨L[i]'hi,List.getElem?_eq_getElem _⟩
  have hsd:=zae State.d hs
  rw [zag hs,hsn]
  have hd : decide ((i : Int) < ((L.length : Nat) : Int)) = true:=by simp; omega
  have hw : IntKind.i64.wrap ((i : Int) + 1) = ((i + 1 : Nat) : Int):=wi64 (by omega)
  have b0 : (0 ≤ (i : Int)) = True:=by simp
  have b1 : ((i : Int) < ((L.length : Nat) : Int)) = True:=eq_true (by omega)
  generalize startedS (L.take i) = t at *
  simp +decide only [zo6,zo9,h0,h3,h4,hLl,hsd,eptrS,hw,b0,b1,Int.toNat_natCast,Pk.EVL,Pk.EVD,↓reduceIte,Pk.TY_State]
  exact ⟨_,_,_,rfl,.inl ⟨rfl,rfl,rfl,rfl,rfl⟩⟩
 ·rintro T H ⟨h0, h3, h4, rfl⟩
  rw [List.take_length] at h3
  have hd : decide (((L.length : Nat) : Int) < ((L.length : Nat) : Int)) = false:=by simp
  simp +decide only [zo6,zo9,h0,h3,h4,hLl,Pk.EVL,Pk.EVD,↓reduceIte]
  exact ⟨_,_,_,rfl,by simp,rfl,rfl,rfl⟩
 rintro e T H ⟨rfl,h3,rfl⟩
 simp +decide only [h3,Pk.EVL,Pk.EVD,↓reduceIte]
theorem r8best_at (os : List Int) (L : List State) (hL : L.length ≤ 1000) (hne : os.length = L.length) (hst : ∀ s ∈ L,isSt s = true) (hf : ∀ s ∈ L,stFull s) : evF C F_q2p [.d (.sl (os.map fun x => .i .i64 x)),.d (.sl (L.map State.d))] [] = some (.d (.i .i64 (bestS os L)),[]):=by
 have hol : (os.map fun x : Int => DV.i .i64 x).length = os.length:=List.length_map _
 have hLl : (L.map State.d).length = L.length:=List.length_map _
 have hany : (L.any fun s => !isSt s) = false:=by
  rw [List.any_eq_false]
  intro x hx
  rw [hst x hx]
  decide
 have hbs : bestS os L = (bestFold os L).1:=by unfold bestS; rw [if_neg (by rw [hany]; simp [hne])]
 rw [hbs]
 have h1 : (((os.length : Nat) : Int) != ((L.length : Nat) : Int)) = false:=by simp; omega
 rw [zaa (rfl : C F_q2p = some a_q2p) _ _ rfl]
 simp +decide only [c_q2p,hol,hLl,h1,thaws,Pk.EVL,Pk.EVD,↓reduceIte,Nat.reduceAdd,Int.reduceNeg]
 simp only [Option.bind_assoc]
 refine zaf (zac (fun i T H => lk T 0 = .d (.sl (os.map fun x => .i .i64 x)) ∧ lk T 1 = .d (.sl (L.map State.d)) ∧ lk T 5 = .d (.i .i64 (bestFold (os.take i) (L.take i)).1) ∧ lk T 6 = .d (.i .i64 (i : Nat)) ∧ H = [])
  (fun e T H => e = .exit 0 ∧ lk T 5 = .d (.i .i64 (bestFold os L).1) ∧ H = []) L.length ?_ ?_ L.length 0 _ _ (by omega) ⟨rfl,rfl,rfl,rfl,rfl⟩) ?_
 ·rintro i T H hi ⟨h0, h1', h5, h6, rfl⟩
  obtain ⟨s,hs⟩ : ∃ s,L[i]? = some s:=⟨L[i]'hi,List.getElem?_eq_getElem _⟩
  obtain ⟨o,ho⟩ : ∃ o,os[i]? = some o:=⟨os[i]'(by omega),List.getElem?_eq_getElem _⟩
  have hsd:=zae State.d hs
  have hod:=zae (fun x : Int => DV.i .i64 x) ho
  have his:=zcy s (hf s (List.mem_of_getElem? hs))
  rw [hst s (List.mem_of_getElem? hs)] at his
  have hlt : (os.take i).length = (L.take i).length:=by rw [List.length_take,List.length_take]; omega
  have hil : (L.take i).length = i:=by rw [List.length_take]; omega
  rw [zag hs,zag ho,zb5 _ _ _ _ hlt,hil]
  have hd : decide ((i : Int) < ((L.length : Nat) : Int)) = true:=by simp; omega
  have hw : IntKind.i64.wrap ((i : Int) + 1) = ((i + 1 : Nat) : Int):=wi64 (by omega)
  have b0 : (0 ≤ (i : Int)) = True:=by simp
  have b1 : ((i : Int) < ((L.length : Nat) : Int)) = True:=eq_true (by omega)
  have b2 : ((i : Int) < ((os.length : Nat) : Int)) = True:=eq_true (by omega)
  rcases zrs (L.take i) (os.take i) hlt with ⟨hz,hb⟩ | ⟨b,o2,s2,hb,hob,hsb,hcand,_⟩
  ·rw [hb] at h5
   have hneg : decide ((-1 : Int) < 0) = true:=by decide
   rw [hb,hneg,Bool.true_or,if_pos rfl]
   simp +decide only [zid,zg6,h0,h1',h5,h6,hLl,hsd,his,hw,b0,b1,Int.toNat_natCast,Pk.EVL,Pk.EVD,↓reduceIte,Int.reduceNeg,Pk.TY_State]
   exact ⟨_,_,_,rfl,.inl ⟨rfl,rfl,rfl,rfl,rfl,rfl⟩⟩
  ·have hbi : b < i := by have := (List.getElem?_eq_some_iff.1 hsb).1; omega
   have hob' : os[b]? = some o2:=by rw [List.getElem?_take_of_lt hbi] at hob; exact hob
   have hsb' : L[b]? = some s2:=by rw [List.getElem?_take_of_lt hbi] at hsb; exact hsb
   have hobd:=zae (fun x : Int => DV.i .i64 x) hob'
   have hsbd:=zae State.d hsb'
   have BT:=zqm o s o2 s2 (hf s (List.mem_of_getElem? hs)) (hf s2 (List.mem_of_getElem? hsb'))
   rw [hb] at h5
   have hneg : decide ((b : Int) < 0) = false:=decide_eq_false (by omega)
   rw [hb,hcand,hneg,Bool.false_or]
   have c0 : (0 ≤ (b : Int)) = True:=by simp
   have c1 : ((b : Int) < ((L.length : Nat) : Int)) = True:=eq_true (by omega)
   have c2 : ((b : Int) < ((os.length : Nat) : Int)) = True:=eq_true (by omega)
   cases c : beats (candOf o s) (candOf o2 s2) with
   | true =>
    rw [c] at BT
    rw [if_pos rfl]
    simp +decide only [zid,zg6,h0,h1',h5,h6,hLl,hsd,hod,hobd,hsbd,his,BT,hw,b0,b1,c0,hneg,Int.toNat_natCast,Pk.EVL,Pk.EVD,↓reduceIte,Int.reduceNeg,Pk.TY_State]
    exact ⟨_,_,_,rfl,.inl ⟨rfl,rfl,rfl,rfl,rfl,rfl⟩⟩
   | false =>
    rw [c] at BT
    rw [if_neg (by decide),hb]
    simp +decide only [zid,zg6,h0,h1',h5,h6,hLl,hsd,hod,hobd,hsbd,his,BT,hw,b0,b1,c0,hneg,Int.toNat_natCast,Pk.EVL,Pk.EVD,↓reduceIte,Int.reduceNeg,Pk.TY_State]
    exact ⟨_,_,_,rfl,.inl ⟨rfl,rfl,rfl,rfl,rfl,rfl⟩⟩
 ·rintro T H ⟨h0, h1', h5, h6, rfl⟩
  rw [List.take_length,show os.take L.length = os by rw [← hne]; exact List.take_length] at h5
  have hd : decide (((L.length : Nat) : Int) < ((L.length : Nat) : Int)) = false:=by simp
  simp +decide only [zid,zg6,h0,h1',h5,h6,hLl,Pk.EVL,Pk.EVD,↓reduceIte,Int.reduceNeg]
  exact ⟨_,_,_,rfl,by simp,rfl,rfl,rfl⟩
 rintro e T H ⟨rfl,h5,rfl⟩
 simp +decide only [h5,Pk.EVL,Pk.EVD,↓reduceIte]
end Go.Proofs.YthlpognahlnaaaaGreat

namespace Go.Proofs.YthlpognahlnaaaaGreat
open Pv Go Pk
set_option maxRecDepth 10000
set_option maxHeartbeats 4000000
theorem zlo (o j k : Nat) (A : List Int) (wr : Bool) (H : Heap) (g st : Int) (hj : H[j]? = some (.arr (A.map fun x => .i .i64 x) wr)) (hk : A.length = k) :
  evF C F_q2r [.ptr o 0,.d (.i .u8 g),.view j k 1 0 k,.d (.i .u32 st)] H = evF C F_q2r [.ptr o 0,.d (.i .u8 g),.d (.sl (A.map fun x => .i .i64 x)),.d (.i .u32 st)] (H.set j (.arr (A.map fun x => .i .i64 x) false)):=by
 rw [za3 (rfl : C F_q2r = some f_q2r) _ _ _ _ (frz_view o j k _ wr H g st hj (by rw [List.length_map]; exact hk)) rfl,za3 (rfl : C F_q2r = some f_q2r) _ _ _ _ (zoh (.inl rfl) _ o g st) rfl]
section
variable {Q : Heap} {m n0 : Nat} (hQ : Q.length = m) (hn : n0 < m) (hall : ∀ k,Q.all (ltO (m + k)) = true) {v : AV} {l : List Inc} (hv : isRow Q m v l) (hb : Q[n0]? = some (.box (.agg [v]))) (hl : goodI l)
include hQ hn hall hv hb hl
theorem zr9 (g : Int) (hg : 0 ≤ g ∧ g < 4) (A : List Int) (hA : A.length ≤ 1000) (st : Int) : evF C F_q2s [.ptr n0 0,.d (.i .u8 g),.d (.sl (A.map fun x => .i .i64 x)),.d (.i .u32 st)] Q = some (.d (.sl ((lacksL l g A st).map Itv.d)),Q):=by
 have IV:=zny hQ hn hall hv hb hl g hg.1
 have hN:=zr2 l g hg
 have hN2:=zlb hl g hg
 have h59:=hl.1
 have hmem:=zq2 hl g
 have hlk : lacksL l g A st = ((ivL l g).take ((ivL l g).length - 1)).filter (missB A st):=rfl
 rw [hlk]
 have hq1:=hr_at hQ
 have hq0:=zbm hQ
 have hs1:=zb2 hQ
 have hs0:=zbc hQ
 have hln:=zbb hQ
 have htk:=za9 hQ
 have hpush : ∀ Z,Q ++ Z = hr Q Z:=fun _ => rfl
 have htk0 : ∀ X,List.take m (hr Q X) = Q:=fun X => by unfold hr; exact List.take_left' hQ
 have hall0:=hall 0
 rw [Nat.add_zero] at hall0
 have htQ : List.take m Q = Q:=by rw [← hQ]; exact List.take_length
 have hall1 : ∀ es,(hr Q [.arr es true]).all (ltO (m + 1)) = true:=fun es => by rw [zaw,hall 1]; rfl
 have n1 : (n0 < m + 1) = True:=eq_true (by omega)
 have n2 : (m < m + 1) = True:=eq_true (by omega)
 generalize ivL l g = V at *
 have hVl : (V.map Itv.d).length = V.length:=List.length_map _
 rw [za3 (rfl : C F_q2s = some f_q2s) _ _ _ _ (zoh (.inl rfl) Q n0 g st) rfl]
 simp +decide only [c_q2s,IV,hQ,htQ,hall0,hpush,hln,thaws,thaw,Pk.EVL,Pk.EVD,↓reduceIte,Nat.reduceAdd]
 simp only [Option.bind_assoc]
 refine zaf (zac (fun i T H => lk T 2 = .d (.sl (A.map fun x => .i .i64 x)) ∧ lk T 3 = .d (.i .u32 st) ∧ lk T 9 = .d (.sl (V.map Itv.d)) ∧ lk T 10 = .view m ((V.take i).filter (missB A st)).length 2 0 ((V.take i).filter (missB A st)).length ∧ lk T 11 = .d (.i .i64 (i : Nat)) ∧ ∃ J,H = hr Q (.arr (((V.take i).filter (missB A st)).map Itv.d) true :: J))
  (fun e T H => e = .exit 0 ∧ lk T 10 = .view m ((V.take (V.length - 1)).filter (missB A st)).length 2 0 ((V.take (V.length - 1)).filter (missB A st)).length ∧ H = hr Q [.arr (((V.take (V.length - 1)).filter (missB A st)).map Itv.d) true]) (V.length - 1) ?_ ?_ (V.length - 1) 0 _ _ (by omega) ⟨rfl,rfl,rfl,rfl,rfl,[],rfl⟩) ?_
 ·rintro i T H hi ⟨h2, h3, h9, h10, h11, J, rfl⟩
  obtain ⟨x,hx⟩ : ∃ x,V[i]? = some x:=⟨V[i]'(by omega),List.getElem?_eq_getElem _⟩
  have hxd:=zae Itv.d hx
  have hx3:=hmem x (List.mem_of_getElem? hx)
  have hnx : (V.take (i + 1)).filter (missB A st) = (V.take i).filter (missB A st) ++ (if missB A st x = true then [x] else []):=by
   rw [zag hx,List.filter_append]
   congr 1
   cases c : missB A st x <;> simp [c]
  have hfl : ((V.take i).filter (missB A st)).length ≤ 60:=Nat.le_trans (List.length_filter_le _ _) (by rw [List.length_take]; omega)
  rw [hnx]
  have hEl : (((V.take i).filter (missB A st)).map Itv.d).length = ((V.take i).filter (missB A st)).length:=List.length_map _
  generalize (V.take i).filter (missB A st) = E at *
  have hal : (x.acting.map fun x => DV.i .i64 x).length = x.acting.length:=List.length_map _
  have hw : IntKind.i64.wrap ((i : Int) + 1) = ((i + 1 : Nat) : Int):=wi64 (by omega)
  have hd : decide (((i + 1 : Nat) : Int) < ((V.length : Nat) : Int)) = true:=by simp; omega
  have b0 : (0 ≤ (i : Int)) = True:=by simp
  have b1 : ((i : Int) < ((V.length : Nat) : Int)) = True:=eq_true (by omega)
  have hlim : (E.length + 1 ≤ LIM) = True:=eq_true (by unfold LIM; omega)
  rcases Bool.eq_false_or_eq_true (decide (((x.acting.length : Nat) : Int) < 2)) with c1 | c1
  ·have hm : missB A st x = false := by unfold missB; rw [decide_eq_false (by have := of_decide_eq_true c1; omega)]; rfl
   rw [hm,if_neg (by decide),List.append_nil]
   simp +decide only [zhx,ziw,h2,h3,h9,h10,h11,hVl,hxd,hal,c1,hw,hd,b0,htk,hall1,n2,hln,zcw,Int.toNat_natCast,Pk.EVL,Pk.EVD,↓reduceIte,Pk.TY_Itv]
   exact ⟨_,_,_,rfl,.inl ⟨rfl,rfl,rfl,rfl,rfl,rfl,_,rfl⟩⟩
  rcases Bool.eq_false_or_eq_true (decide (x.since < st)) with c2 | c2
  ·have hm : missB A st x = false := by unfold missB; rw [decide_eq_false (show ¬ x.since ≥ st by have := of_decide_eq_true c2; omega), Bool.false_and, Bool.and_false]
   rw [hm,if_neg (by decide),List.append_nil]
   simp +decide only [zhx,ziw,h2,h3,h9,h10,h11,hVl,hxd,hal,c1,c2,hw,hd,b0,htk,hall1,n2,hln,zcw,Int.toNat_natCast,Pk.EVL,Pk.EVD,↓reduceIte,Pk.TY_Itv]
   exact ⟨_,_,_,rfl,.inl ⟨rfl,rfl,rfl,rfl,rfl,rfl,_,rfl⟩⟩
  have hm : missB A st x = !(x.acting.any fun y => decide (y ∈ A)):=by
   unfold missB
   rw [decide_eq_true (show x.acting.length ≥ 2 by have:=of_decide_eq_false c1; omega),decide_eq_true (show x.since ≥ st by have:=of_decide_eq_false c2; omega)]
   rfl
  simp +decide only [zhx,ziw,h2,h3,h9,h10,h11,hVl,hxd,hal,c1,c2,hw,hd,b0,htk,hall1,n2,hln,zcw,Int.toNat_natCast,Pk.EVL,Pk.EVD,↓reduceIte,Pk.TY_Itv]
  simp only [Option.bind_assoc]
  have t1:=htk [.arr (E.map Itv.d) true] 1
  refine zgy (zac (fun k T H => lk T 2 = .d (.sl (A.map fun x => .i .i64 x)) ∧ lk T 3 = .d (.i .u32 st) ∧ lk T 9 = .d (.sl (V.map Itv.d)) ∧ lk T 10 = .view m E.length 2 0 E.length ∧ lk T 11 = .d (.i .i64 (i : Nat)) ∧ lk T 12 = .d (.b ((x.acting.take k).any fun y => decide (y ∈ A))) ∧ lk T 13 = .d (.i .i64 (k : Nat)) ∧ H = hr Q [.arr (E.map Itv.d) true])
   (fun e T H => e = .exit 2 ∧ lk T 2 = .d (.sl (A.map fun x => .i .i64 x)) ∧ lk T 3 = .d (.i .u32 st) ∧ lk T 9 = .d (.sl (V.map Itv.d)) ∧ lk T 10 = .view m E.length 2 0 E.length ∧ lk T 11 = .d (.i .i64 (i : Nat)) ∧ lk T 12 = .d (.b (x.acting.any fun y => decide (y ∈ A))) ∧ H = hr Q [.arr (E.map Itv.d) true]) x.acting.length ?_ ?_ x.acting.length 0 _ _ (by omega) ⟨rfl,rfl,rfl,rfl,rfl,rfl,rfl,rfl⟩) ?_
  ·rintro k T H hk ⟨g2, g3, g9, g10, g11, g12, g13, rfl⟩
   obtain ⟨y,hy⟩ : ∃ y,x.acting[k]? = some y:=⟨x.acting[k]'hk,List.getElem?_eq_getElem _⟩
   have hyd:=zae (fun x : Int => DV.i .i64 x) hy
   have hin:=zkz A y hA
   have hnk : ((x.acting.take (k + 1)).any fun y => decide (y ∈ A)) = (((x.acting.take k).any fun y => decide (y ∈ A)) || decide (y ∈ A)):=by rw [zag hy,List.any_append]; simp
   rw [hnk]
   have hdk : decide ((k : Int) < ((x.acting.length : Nat) : Int)) = true:=by simp; omega
   have hwk : IntKind.i64.wrap ((k : Int) + 1) = ((k + 1 : Nat) : Int):=wi64 (by omega)
   have z0 : (0 ≤ (k : Int)) = True:=by simp
   have z1 : ((k : Int) < ((x.acting.length : Nat) : Int)) = True:=eq_true (by omega)
   generalize ((x.acting.take k).any fun y => decide (y ∈ A)) = w at *
   cases w with
   | true =>
    simp +decide only [zj6,zmm,g2,g3,g9,g10,g11,g12,g13,hxd,hal,hwk,b0,z1,t1,hall1,n2,hln,zcw,Int.toNat_natCast,Pk.EVL,Pk.EVD,↓reduceIte,Pk.TY_Itv]
    exact ⟨_,_,_,rfl,.inl ⟨rfl,rfl,rfl,rfl,rfl,rfl,rfl,rfl,rfl⟩⟩
   | false =>
    simp +decide only [zj6,zmm,g2,g3,g9,g10,g11,g12,g13,hxd,hyd,hin,hal,hwk,b0,z0,z1,t1,hall1,n2,hln,zcw,Int.toNat_natCast,Bool.false_or,Pk.EVL,Pk.EVD,↓reduceIte,Pk.TY_Itv]
    exact ⟨_,_,_,rfl,.inl ⟨rfl,rfl,rfl,rfl,rfl,rfl,rfl,rfl,rfl⟩⟩
  ·rintro T H ⟨g2, g3, g9, g10, g11, g12, g13, rfl⟩
   rw [List.take_length] at g12
   have hdk : decide (((x.acting.length : Nat) : Int) < ((x.acting.length : Nat) : Int)) = false:=by simp
   simp +decide only [zj6,zmm,g2,g3,g9,g10,g11,g12,g13,hxd,hal,b0,t1,hall1,n2,hln,zcw,Int.toNat_natCast,Pk.EVL,Pk.EVD,↓reduceIte,Pk.TY_Itv]
   exact ⟨_,_,_,rfl,by simp,rfl,rfl,rfl,rfl,rfl,rfl,rfl,rfl⟩
  rintro e T H ⟨rfl,g2,g3,g9,g10,g11,g12,rfl⟩
  generalize (x.acting.any fun y => decide (y ∈ A)) = w at *
  rw [hm]
  cases w with
  | true =>
   rw [if_neg (by decide),List.append_nil]
   simp +decide only [g2,g3,g9,g10,g11,g12,hw,hln,Pk.EVL,Pk.EVD,↓reduceIte]
   exact ⟨_,_,_,rfl,.inl ⟨rfl,rfl,rfl,rfl,rfl,rfl,_,rfl⟩⟩
  | false =>
   rw [if_pos (by decide)]
   have e1 : (E ++ [x]).length = E.length + 1:=by rw [List.length_append]; rfl
   rw [e1,List.map_append]
   simp +decide only [g2,g3,g9,g10,g11,g12,hxd,hw,hEl,hlim,b0,hq1,hq0,hs0,hln,zao,elems,Int.toNat_natCast,Pk.EVL,Pk.EVD,↓reduceIte,Nat.reduceAdd,Pk.TY_Itv]
   exact ⟨_,_,_,rfl,.inl ⟨rfl,rfl,rfl,rfl,rfl,rfl,_,rfl⟩⟩
 ·rintro T H ⟨h2, h3, h9, h10, h11, J, rfl⟩
  have hw : IntKind.i64.wrap (((V.length - 1 : Nat) : Int) + 1) = ((V.length : Nat) : Int):=by rw [show ((V.length - 1 : Nat) : Int) + 1 = ((V.length : Nat) : Int) by omega]; exact wi64 (by omega)
  have hd : decide (((V.length : Nat) : Int) < ((V.length : Nat) : Int)) = false:=by simp
  simp +decide only [zhx,ziw,h2,h3,h9,h10,h11,hVl,hw,htk,hall1,n2,Pk.EVL,Pk.EVD,↓reduceIte]
  exact ⟨_,_,_,rfl,by simp,rfl,rfl,rfl⟩
 rintro e T H ⟨rfl,h10,rfl⟩
 generalize (V.take (V.length - 1)).filter (missB A st) = E at *
 have hEl : (E.map Itv.d).length = E.length:=List.length_map _
 have k0 : List.take E.length (E.map Itv.d) = E.map Itv.d:=List.take_of_length_le (by omega)
 have s0 : subL (E.map Itv.d) 0 E.length = E.map Itv.d:=by unfold subL; rw [List.drop_zero]; exact k0
 simp +decide only [h10,hEl,s0,hq0,hs0,hln,htk0,hall0,Nat.zero_add,Pk.EVL,Pk.EVD,↓reduceIte]
theorem zqq (g : Int) (hg : 0 ≤ g ∧ g < 4) (A : List Int) (hA : A.length ≤ 1000) (st : Int) : evF C F_q2r [.ptr n0 0,.d (.i .u8 g),.d (.sl (A.map fun x => .i .i64 x)),.d (.i .u32 st)] Q = some (.d (.b (enoughB l g A st)),Q):=by
 have LK:=zr9 hQ hn hall hv hb hl g hg A hA st
 have NW:=refnow_at hQ hn hall hv hb hl g hg.1
 have hl3:=zdl hl g
 have hall0:=hall 0
 rw [Nat.add_zero] at hall0
 have htQ : List.take m Q = Q:=by rw [← hQ]; exact List.take_length
 have hLl : ((lacksL l g A st).map Itv.d).length = (lacksL l g A st).length:=List.length_map _
 rw [za3 (rfl : C F_q2r = some f_q2r) _ _ _ _ (zoh (.inl rfl) Q n0 g st) rfl]
 unfold enoughB
 rcases Bool.eq_false_or_eq_true (decide (((lacksL l g A st).length : Int) > 0)) with c | c
 ·have hz : decide ((lacksL l g A st).length = 0) = false := decide_eq_false (by have := of_decide_eq_true c; omega)
  rw [hz,Bool.false_and]
  simp +decide only [c_q2r,LK,hLl,c,hQ,htQ,hall0,Pk.EVL,Pk.EVD,↓reduceIte,Nat.reduceAdd]
 have hz : decide ((lacksL l g A st).length = 0) = true:=decide_eq_true (by have:=of_decide_eq_false c; omega)
 rw [hz,Bool.true_and]
 have f1 : ∀ x : Itv,x.cs[1]? = some (.sl (x.acting.map fun x => .i .i64 x)):=fun _ => rfl
 generalize lastI (ivL l g) = w at *
 have hal : (w.acting.map fun x => DV.i .i64 x).length = w.acting.length:=List.length_map _
 simp +decide only [c_q2r,LK,NW,hLl,c,hQ,htQ,hall0,f1,thaws,Pk.EVL,Pk.EVD,↓reduceIte,Nat.reduceAdd]
 simp only [Option.bind_assoc]
 refine zaf (zac (fun i T H => lk T 2 = .d (.sl (A.map fun x => .i .i64 x)) ∧ lk T 9 = .d (.sl (w.acting.map fun x => .i .i64 x)) ∧ lk T 10 = .d (.i .i64 (i : Nat)) ∧ H = Q ∧ ((w.acting.take i).any fun x => !decide (x ∈ A)) = false)
  (fun e T H => H = Q ∧ ((e = .exit 0 ∧ (w.acting.any fun x => !decide (x ∈ A)) = false) ∨ (e = .ret ∧ lk T 8 = .d (.b false) ∧ (w.acting.any fun x => !decide (x ∈ A)) = true))) w.acting.length ?_ ?_ w.acting.length 0 _ _ (by omega) ⟨rfl,rfl,rfl,rfl,rfl⟩) ?_
 ·rintro i T H hi ⟨h2, h9, h10, rfl, ha⟩
  obtain ⟨y,hy⟩ : ∃ y,w.acting[i]? = some y:=⟨w.acting[i]'hi,List.getElem?_eq_getElem _⟩
  have hyd:=zae (fun x : Int => DV.i .i64 x) hy
  have hin:=zkz A y hA
  have hd : decide ((i : Int) < ((w.acting.length : Nat) : Int)) = true:=by simp; omega
  have hw : IntKind.i64.wrap ((i : Int) + 1) = ((i + 1 : Nat) : Int):=wi64 (by omega)
  have b0 : (0 ≤ (i : Int)) = True:=by simp
  have b1 : ((i : Int) < ((w.acting.length : Nat) : Int)) = True:=eq_true (by omega)
  rcases Bool.eq_false_or_eq_true (decide (y ∈ A)) with c2 | c2
  ·rw [c2] at hin
   have hnx : ((w.acting.take (i + 1)).any fun x => !decide (x ∈ A)) = false:=by rw [zag hy,List.any_append,ha]; simp only [List.any_cons,List.any_nil,c2]; rfl
   simp +decide only [zmp,zlx,h2,h9,h10,hal,hyd,hin,hw,b0,b1,hQ,htQ,hall0,Int.toNat_natCast,Pk.EVL,Pk.EVD,↓reduceIte]
   exact ⟨_,_,_,rfl,.inl ⟨rfl,rfl,rfl,rfl,rfl,hnx⟩⟩
  ·rw [c2] at hin
   have hnx : (w.acting.any fun x => !decide (x ∈ A)) = true:=by
    rw [List.any_eq_true]
    exact ⟨y,List.mem_of_getElem? hy,by rw [c2]; rfl⟩
   simp +decide only [zmp,zlx,h2,h9,h10,hal,hyd,hin,b0,b1,hQ,htQ,hall0,Int.toNat_natCast,Pk.EVL,Pk.EVD,↓reduceIte]
   exact ⟨_,_,_,rfl,.inr ⟨by simp,rfl,.inr ⟨rfl,rfl,hnx⟩⟩⟩
 ·rintro T H ⟨h2, h9, h10, rfl, ha⟩
  rw [List.take_length] at ha
  have hd : decide (((w.acting.length : Nat) : Int) < ((w.acting.length : Nat) : Int)) = false:=by simp
  simp +decide only [zmp,zlx,h2,h9,h10,hal,hQ,htQ,hall0,Pk.EVL,Pk.EVD,↓reduceIte]
  exact ⟨_,_,_,rfl,by simp,rfl,.inl ⟨rfl,ha⟩⟩
 rintro e T H ⟨rfl,⟨rfl,h⟩ | ⟨rfl,h8,h⟩⟩
 ·simp +decide only [h,hQ,htQ,hall0,Pk.EVL,Pk.EVD,↓reduceIte]
 ·simp +decide only [h,h8,htQ,hall0,Pk.EVL,Pk.EVD,↓reduceIte]
end
end Go.Proofs.YthlpognahlnaaaaGreat

namespace Go.Proofs.YthlpognahlnaaaaGreat
open Pv Go Pk
set_option maxRecDepth 10000
set_option maxHeartbeats 4000000
/-- Who was heard,of the first ones; their states. -/
def selO (O : List Bool) : Nat → List Int
 | 0 => []
 | i + 1 => selO O i ++ (if O.getD i false = true then [(i : Int)] else [])
def selL (O : List Bool) (L : List State) : Nat → List State
 | 0 => []
 | i + 1 => selL O L i ++ (if O.getD i false = true then [L.getD i State.zero] else [])
theorem zmz (O : List Bool) (L : List State) : ∀ i,(selL O L i).length = (selO O i).length ∧ (selO O i).length ≤ i
 | 0 => ⟨rfl,Nat.le_refl _⟩
 | i + 1 => by
  obtain ⟨h1,h2⟩:=zmz O L i
  unfold selO selL
  by_cases c : O.getD i false = true
  ·rw [if_pos c, if_pos c]
   simp only [List.length_append,List.length_cons,List.length_nil]
   omega
  ·rw [if_neg c, if_neg c, List.append_nil, List.append_nil]
   omega
theorem selO_lt (O : List Bool) : ∀ i,∀ x ∈ selO O i,x < (i : Int)
 | 0,x,h => by simp [selO] at h
 | i + 1, x, h => by
  unfold selO at h
  rcases List.mem_append.1 h with h | h
  ·have:=selO_lt O i x h; omega
  ·split at h
   ·simp at h; omega
   ·simp at h
def ascI (l : List Int) : Prop:=∀ (i : Nat) (a b : Int),l[i]? = some a → l[i + 1]? = some b → a < b
theorem asc_snoc {l : List Int} (h : ascI l) {y : Int} (hy : ∀ x ∈ l,x < y) : ascI (l ++ [y]):=by
 intro i a b h1 h2
 by_cases c : i + 1 < l.length
 ·rw [List.getElem?_append_left (by omega)] at h1
  rw [List.getElem?_append_left c] at h2
  exact h i a b h1 h2
 ·by_cases c2 : i + 1 = l.length
  ·rw [List.getElem?_append_left (by omega)] at h1
   rw [c2,List.getElem?_concat_length] at h2
   cases h2
   exact hy a (List.mem_of_getElem? h1)
  ·rw [List.getElem?_eq_none (by simp; omega)] at h2
   simp at h2
theorem zl9 (O : List Bool) : ∀ i,ascI (selO O i)
 | 0 => by intro i a b h1 _; simp [selO] at h1
 | i + 1 => by
  unfold selO
  split
  ·exact asc_snoc (zl9 O i) (selO_lt O i)
  ·rw [List.append_nil]; exact zl9 O i
theorem zrb {O : List Bool} {L : List State} : ∀ i,i ≤ L.length → ∀ s ∈ selL O L i,s ∈ L
 | 0,_,s,h => by simp [selL] at h
 | i + 1, hi, s, h => by
  unfold selL at h
  rcases List.mem_append.1 h with h | h
  ·exact zrb i (by omega) s h
  ·split at h
   ·simp only [List.mem_singleton] at h
    rw [h,List.getD_eq_getElem?_getD,List.getElem?_eq_getElem (by omega)]
    exact List.getElem_mem _
   ·simp at h
def allO (O : List Bool) (A : List Int) : Bool:=A.all fun x => O.getD x.toNat false
theorem sel_view (O : List Bool) (L : List State) (i : Nat) : ((selO O i).map fun x : Int => DV.i .i64 x).length = (selO O i).length ∧ ((selL O L i).map State.d).length = (selO O i).length:=by
 rw [List.length_map,List.length_map,(zmz O L i).1]
 exact ⟨rfl,rfl⟩
end Go.Proofs.YthlpognahlnaaaaGreat
