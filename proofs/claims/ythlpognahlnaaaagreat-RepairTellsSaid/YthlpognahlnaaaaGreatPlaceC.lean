/- place.Pick. -/
import Derived.Test.YthlpognahlnaaaaGreatPkEvd
import Derived.Test.YthlpognahlnaaaaGreatPlaceB
set_option linter.all false
namespace Go.Proofs.YthlpognahlnaaaaGreat
open Pv Go
section
/-! One pick. -/
set_option maxRecDepth 10000
set_option maxHeartbeats 1000000

theorem znp {e g : Int} {os : List Osd} {inn pk : AV} (hos : os.length = 5) (v : AV) : upd (cells e os g inn pk) 18 [v] = cells e os g inn v:=by
 unfold cells upd
 have hl : ((DV.i .u32 e :: osds os).map AV.d).length = 16:=by simp [zat,hos]
 rw [List.take_append,List.drop_append,hl]
 have e1 : List.take 18 ((DV.i .u32 e :: osds os).map AV.d) = (DV.i .u32 e :: osds os).map AV.d:=List.take_of_length_le (by omega)
 have e2 : List.drop (18 + [v].length) ((DV.i .u32 e :: osds os).map AV.d) = []:=List.drop_eq_nil_of_le (by simp [zat,hos])
 rw [e1,e2]
 simp
theorem zh4 : ∀ (a b : List AV),allD b = none → allD (a ++ b) = none
 | [],b,h => h
 | x :: r,b,h => by
  have:=zh4 r b h
  cases x <;> simp [allD,this]
theorem zfg {e g : Int} {os : List Osd} {inn pk : AV} (h : allD [inn,pk] = none) : allD (cells e os g inn pk) = none:=by
 unfold cells
 apply zh4
 simp only [allD] at h ⊢
 simp [h]

/-- The first pick: the first draw fits. -/
theorem pick_none {e g : Int} {os : List Osd} (hos : os.length = 5) (X : DV) (wi : Bool) (L : List Nat) (hL : ∀ o ∈ L,o < 5) (hLl : L.length ≤ 100) (hL0 : 0 < L.length) (r : Nat) (hr : r < 3) (w f : Nat → Int)
  (hwt : ∀ o,o ∈ L → (cells e os g (.view 1 L.length 1 0 L.length) .nilS)[1 + ((o : Nat) : Int).toNat * 3 + 1]? = some (.d (.i .i64 (w o))))
  (hcall : ∀ o,o ∈ L → evF C F_q4f [.d (.i .u8 g),.d (.i .i64 ((o : Nat) : Int)),.d (.i .i64 (r : Int)),.d (.i .i64 (w o))] [] = some (.d (.i .i64 (f o)),[])) :
  evF C F_q3i [.ptr 2 0,.d (.i .i64 (r : Int))] [.box (.d X),.arr (nats L) wi,.box (.agg (cells e os g (.view 1 L.length 1 0 L.length) .nilS))] =
   some (.tup [],[.box (.d X),.arr (nats L) wi,.box (.agg (cells e os g (.view 1 L.length 1 0 L.length) (.view 4 1 1 0 1))),.arr (nats [drawn L f]) true,.arr (nats [drawn L f]) true]):=by
 have hlt3:=zcm (n:=3) (e:=e) (g:=g) (os:=os) (inn:=.view 1 L.length 1 0 L.length) (pk:=.nilS) rfl rfl
 have hlt4:=zcm (n:=4) (e:=e) (g:=g) (os:=os) (inn:=.view 1 L.length 1 0 L.length) (pk:=.nilS) rfl rfl
 have hd:=draw_none X _ hlt3 hlt4 g (r : Int) wi L hL hLl hL0 w f (zrw hos) (zgf hos) hwt hcall
 have hf:=fits_none (e:=e) (g:=g) hos X (nats L) wi L.length ((drawn L f : Nat) : Int)
 have c18:=zdx (e:=e) (g:=g) (inn:=.view 1 L.length 1 0 L.length) (pk:=.nilS) hos
 have hup:=znp (e:=e) (g:=g) (inn:=.view 1 L.length 1 0 L.length) (pk:=.nilS) hos (.view 4 1 1 0 1)
 have hal:=zfg (e:=e) (g:=g) (os:=os) (inn:=.view 1 L.length 1 0 L.length) (pk:=.view 4 1 1 0 1) rfl
 have hneg : lts 3 (cells e os g (.view 1 L.length 1 0 L.length) (.view 4 1 1 0 1)) = false:=by
  unfold cells
  rw [zdu,zdo]
  rfl
 have hlen:=zno (e:=e) (g:=g) (inn:=.view 1 L.length 1 0 L.length) (pk:=.nilS) hos
 have hr0 : IntKind.i64.wrap ((r : Int) + IntKind.i64.wrap (0 * 3)) = (r : Int):=by
  rw [wi64 (n:=(0 * 3 : Int)) (by omega),wi64 (by omega)]; omega
 have hn : nats [drawn L f] = [DV.i .i64 ((drawn L f : Nat) : Int)]:=rfl
 have hlim : (1 ≤ LIM) = True:=by simp [LIM]
 rw [hn]
 generalize cells e os g (.view 1 L.length 1 0 L.length) .nilS = cs at *
 generalize cells e os g (.view 1 L.length 1 0 L.length) (.view 4 1 1 0 1) = cs' at *
 have hup' : List.take 18 cs ++ AV.view 4 1 1 0 1 :: List.drop 19 cs = cs':=hup
 rw [zaa (rfl : C F_q3i = some a_q3i) _ _ rfl]
 simp +decide only [c_q3i,zqk,zqa,zam,againL,hd,hf,c18,hup',hal,hlen,hr0,hlim,hlt3,hneg,Pk.EVO,Pk.EVDO,↓reduceIte,reduceCtorEq,Nat.reduceAdd,Nat.reduceLeDiff,elems]
end

section
/-! A pick beside those picked already. -/
set_option maxRecDepth 10000
set_option maxHeartbeats 1000000

/-- The picks behind tries t,t + 1,.. -/
def pickGo (os : List Osd) (o : Nat → Nat) (P : List Nat) : Nat → Nat → List Nat
 | 0,_ => P
 | n + 1,t => if P.any (clash os (o t)) = true then pickGo os o P n (t + 1) else P ++ [o t]

def zjt : ACode:=.seq (.region (some [0,1,4,7]) [⟨some 8,.bin .lss (.t 7) (.c (.d (.i .i64 20))),none⟩] [])
  (.seq (.cond (.t 8) (.skip) (.exit 0))
  (.seq (.block 1 (.seq (.region (some [0, 1, 4, 7]) [⟨some 9, .mv (.t 7), none⟩,
   ⟨some 5,.mv (.t 9),none⟩] [])
  (.seq (.region (some [0, 1, 4, 5, 7]) [⟨some 10, .mv (.t 4), none⟩,
   ⟨some 11,.mv (.t 0),none⟩,
   ⟨some 12,.mv (.t 1),none⟩,
   ⟨some 13,.mv (.t 5),none⟩,
   ⟨some 14,.bin .mul (.t 13) (.c (.d (.i .i64 3))),none⟩,
   ⟨some 15,.bin .add (.t 12) (.t 14),none⟩,
   ⟨some 16,.call (.t 10) [.t 11,.t 15],none⟩,
   ⟨some 6,.mv (.t 16),none⟩] [])
  (.seq (.region (some [0, 1, 4, 6, 7]) [⟨some 17, .mv (.t 0), none⟩,
   ⟨some 18,.mv (.t 6),none⟩,
   ⟨some 19,.call (.f F_q3g) [.t 17,.t 18],none⟩] [])
  (.cond (.t 19) (.seq (.region (some [0, 6]) [⟨some 20, .mv (.t 0), none⟩,
    ⟨some 21,.mv (.t 0),none⟩,
    ⟨some 22,.nilck (.t 21),none⟩,
    ⟨some 23,.faddr 18 (.t 22),none⟩,
    ⟨some 24,.load false 1 (.t 23),none⟩,
    ⟨some 25,.mv (.t 6),none⟩,
    ⟨some 26,.bsl 1 [.t 25],none⟩,
    ⟨some 27,.app 1 (.t 24) (.t 26),none⟩,
    ⟨some 28,.nilck (.t 20),none⟩,
    ⟨some 29,.faddr 18 (.t 28),none⟩,
    ⟨none,.store 1 (.t 29) (.t 27),none⟩] [])
   (.ret)) (.skip))))))
  (.region (some [0, 1, 4, 7]) [⟨some 30, .bin .add (.t 7) (.c (.d (.i .i64 1))), none⟩,
   ⟨some 7,.mv (.t 30),none⟩] [])))

/-- The heap of a choice with these picked. -/
def heapP (X : DV) (ii x3 : List DV) (wi w3 : Bool) (e g : Int) (os : List Osd) (inn : AV) (P : List Nat) : Heap :=
 [.box (.d X),.arr ii wi,.box (.agg (cells e os g inn (.view 4 P.length 1 0 P.length))),.arr x3 w3,.arr (nats P) true]

theorem zok {e g : Int} {os : List Osd} {inn : AV} (hos : os.length = 5) (hinn : lt 5 inn = true) (hinn1 : lt 3 inn = true) (X : DV) (ii x3 : List DV) (wi w3 : Bool) (P : List Nat) (hPl : P.length ≤ 50) (r : Nat) (hr : r < 3) (o : Nat → Nat)
  (hd : ∀ t,t < 20 → evF C F_q3f [.ptr 2 0,.d (.i .i64 ((r + t * 3 : Nat) : Int))] (heapP X ii x3 wi w3 e g os inn P) = some (.d (.i .i64 (o t : Nat)),heapP X ii x3 wi w3 e g os inn P))
  (hf : ∀ t,t < 20 → evF C F_q3g [.ptr 2 0,.d (.i .i64 (o t : Nat))] (heapP X ii x3 wi w3 e g os inn P) = some (.d (.b (!P.any (clash os (o t)))),heapP X ii x3 wi w3 e g os inn P)) :
  ∀ (n t : Nat) (T : Tm),t + n = 20 → lk T 0 = .ptr 2 0 → lk T 1 = .d (.i .i64 (r : Int)) → lk T 4 = .fn F_q3f [] [] → lk T 7 = .d (.i .i64 (t : Int)) →
  ∃ ex T' J,evL C (some [0,1,4,7]) zjt 5 T (heapP X ii x3 wi w3 e g os inn P) = some (ex,T',heapP X ii x3 wi w3 e g os inn (pickGo os o P n t) ++ J) ∧ (ex = .exit 0 ∨ ex = .ret)
 | 0,t,T,hi,h0,h1,h4,h7 => by
  have hdd : decide ((t : Int) < 20) = false:=by simp; omega
  obtain ⟨G,hG⟩ : ∃ G,G = againL C (some [0,1,4,7]) zjt 5:=⟨_,rfl⟩
  rw [zam,← hG]
  unfold heapP
  simp +decide only [zjt,hdd,h0,h1,h4,h7,ite_self,pickGo,Pk.EVO,Pk.EVDO,↓reduceIte,Nat.reduceAdd]
  rw [hG]
  exact ⟨_,_,[],rfl,Or.inl rfl⟩
 | n + 1, t, T, hi, h0, h1, h4, h7 => by
  have hdd : decide ((t : Int) < 20) = true:=by simp; omega
  have hw : IntKind.i64.wrap ((t : Int) + 1) = ((t + 1 : Nat) : Int):=wi64 (by omega)
  have hw2 : IntKind.i64.wrap ((r : Int) + IntKind.i64.wrap ((t : Int) * 3)) = ((r + t * 3 : Nat) : Int):=by
   rw [wi64 (n:=(t : Int) * 3) (by omega),wi64 (by omega)]; omega
  have hdt:=hd t (by omega)
  have hft:=hf t (by omega)
  have ih:=zok hos hinn hinn1 X ii x3 wi w3 P hPl r hr o hd hf n (t + 1)
  obtain ⟨G,hG⟩ : ∃ G,G = againL C (some [0,1,4,7]) zjt 5:=⟨_,rfl⟩
  rw [zam,← hG]
  by_cases hany : P.any (clash os (o t)) = true
  ·have hp : pickGo os o P (n + 1) t = pickGo os o P n (t + 1) := by simp only [pickGo]; rw [if_pos hany]
   rw [hp]
   rw [hany] at hft
   unfold heapP at hdt hft ⊢
   simp +decide only [zjt,hdd,hw,hw2,hdt,hft,h0,h1,h4,h7,ite_self,Bool.not_true,Pk.EVO,Pk.EVDO,↓reduceIte,Nat.reduceAdd,Nat.reduceLeDiff]
   rw [hG,zah]
   exact ih _ (by omega) rfl rfl rfl rfl
  ·replace hany := eq_false_of_ne_true hany
   have hp : pickGo os o P (n + 1) t = P ++ [o t]:=by simp only [pickGo]; rw [if_neg (by rw [hany]; simp)]
   rw [hp]
   rw [hany] at hft
   have c18:=zdx (e:=e) (g:=g) (inn:=inn) (pk:=.view 4 P.length 1 0 P.length) hos
   have hup : List.take 18 (cells e os g inn (.view 4 P.length 1 0 P.length)) ++ AV.view 4 (P.length + 1) 1 0 (P.length + 1) :: List.drop 19 (cells e os g inn (.view 4 P.length 1 0 P.length)) = cells e os g inn (.view 4 (P.length + 1) 1 0 (P.length + 1)) :=
    znp hos _
   have hal : allD (cells e os g inn (.view 4 (P.length + 1) 1 0 (P.length + 1))) = none:=zfg (by cases inn <;> rfl)
   have hlen:=zno (e:=e) (g:=g) (inn:=inn) (pk:=.view 4 P.length 1 0 P.length) hos
   have hl:=zal P
   have hlim : (P.length + 1 ≤ LIM) = True:=by
    have : P.length + 1 ≤ LIM:=by unfold LIM; omega
    simp [this]
   have hn : nats (P ++ [o t]) = nats P ++ [DV.i .i64 ((o t : Nat) : Int)]:=by simp [nats,ints]
   have hln : (P ++ [o t]).length = P.length + 1:=by simp
   unfold heapP at hdt hft ⊢
   rw [hn,hln]
   generalize cells e os g inn (.view 4 P.length 1 0 P.length) = cs at *
   generalize cells e os g inn (.view 4 (P.length + 1) 1 0 (P.length + 1)) = cs' at *
   generalize nats P = es at *
   simp +decide only [zjt,hdd,hw2,hdt,hft,c18,hup,hal,hlen,hl,hlim,h0,h1,h4,h7,ite_self,Bool.not_false,Pk.EVO,Pk.EVDO,↓reduceIte,Nat.reduceAdd,Nat.reduceLeDiff,elems]
   rw [hG]
   exact ⟨_,_,_,rfl,Or.inr rfl⟩
end

section
/-! A pick beside those picked already: the whole of it. -/
set_option maxRecDepth 10000
set_option maxHeartbeats 1000000
theorem zsx {β : Type} {x : Option (AExit × Tm × Heap)} {H' : Heap} {f : AExit × Tm × Heap → Option β} {r : Option β} (h : ∃ ex T' J,x = some (ex,T',H' ++ J) ∧ (ex = .exit 0 ∨ ex = .ret))
  (hf : ∀ T' J,f (.exit 0,T',H' ++ J) = r ∧ f (.ret,T',H' ++ J) = r) : x.bind f = r:=by
 obtain ⟨ex,T',J,rfl,h | h⟩:=h
 ·subst h; exact (hf T' J).1
 ·subst h; exact (hf T' J).2
theorem pick_some {e g : Int} {os : List Osd} {inn : AV} (hos : os.length = 5) (hinn : lt 5 inn = true) (hinn1 : lt 3 inn = true) (X : DV) (ii x3 : List DV) (wi w3 : Bool) (P : List Nat) (hPl : P.length ≤ 50) (r : Nat) (hr : r < 3) (o : Nat → Nat)
  (hd : ∀ t,t < 20 → evF C F_q3f [.ptr 2 0,.d (.i .i64 ((r + t * 3 : Nat) : Int))] (heapP X ii x3 wi w3 e g os inn P) = some (.d (.i .i64 (o t : Nat)),heapP X ii x3 wi w3 e g os inn P))
  (hf : ∀ t,t < 20 → evF C F_q3g [.ptr 2 0,.d (.i .i64 (o t : Nat))] (heapP X ii x3 wi w3 e g os inn P) = some (.d (.b (!P.any (clash os (o t)))),heapP X ii x3 wi w3 e g os inn P)) :
  evF C F_q3i [.ptr 2 0,.d (.i .i64 (r : Int))] (heapP X ii x3 wi w3 e g os inn P) = some (.tup [],heapP X ii x3 wi w3 e g os inn (pickGo os o P 20 0)):=by
 have hloop:=fun T => zok hos hinn hinn1 X ii x3 wi w3 P hPl r hr o hd hf 20 0 T (by omega)
 have hfin : ∀ (Q : List Nat) (J : Heap),trim 5 [AV.tup []] (heapP X ii x3 wi w3 e g os inn Q ++ J) = heapP X ii x3 wi w3 e g os inn Q:=by
  intro Q J
  have hc:=zcm (n:=5) (e:=e) (g:=g) (os:=os) (inn:=inn) (pk:=.view 4 Q.length 1 0 Q.length) hinn rfl
  unfold heapP trim
  simp [lts,lt,ltO,hc]
 have hlen : (heapP X ii x3 wi w3 e g os inn P).length = 5:=rfl
 rw [zaa (rfl : C F_q3i = some a_q3i) _ _ rfl]
 generalize hQ : pickGo os o P 20 0 = Q at *
 have hfin':=hfin Q
 generalize heapP X ii x3 wi w3 e g os inn P = HP at *
 generalize heapP X ii x3 wi w3 e g os inn Q = HQ at *
 simp +decide only [c_q3i,zqk,zqa,hlen,Pk.EVX,Pk.EVDX,↓reduceIte,Nat.reduceAdd]
 simp only [Option.bind_assoc]
 refine zsx (hloop _ rfl rfl rfl rfl) ?_
 intro T' J
 have hfin2:=hfin' J
 constructor
 ·simp +decide only [zge, Pk.EVX, Pk.EVDX, ↓reduceIte]
  rw [hfin2]
 ·simp +decide only [zgh, Pk.EVX, Pk.EVDX]
  rw [hfin2]
end

section
/-! The whole pick. -/
set_option maxRecDepth 10000
set_option maxHeartbeats 1000000

/-- Those that are in. -/
def inN (os : List Osd) : Nat → List Nat
 | 0 => []
 | i + 1 => inN os i ++ (match os[i]? with
  | some o => if o.w > 0 then [i] else []
  | none => [])
theorem inN_idx (os : List Osd) : ∀ i,inIdx os i = (inN os i).map fun (j : Nat) => (j : Int)
 | 0 => rfl
 | i + 1 => by
  simp only [inIdx,inN,List.map_append,inN_idx os i]
  congr 1
  cases os[i]? with
  | none => rfl
  | some o => by_cases c : o.w > 0 <;> simp only [c,if_true,if_false] <;> rfl
theorem zep (os : List Osd) : ∀ i,∀ o ∈ inN os i,o < i
 | 0,o,h => by simp [inN] at h
 | i + 1, o, h => by
  simp only [inN,List.mem_append] at h
  rcases h with h | h
  ·have:=zep os i o h; omega
  ·split at h
   ·split at h
    ·simp at h; omega
    ·simp at h
   ·simp at h
theorem zpn (os : List Osd) : ∀ i,(inN os i).length ≤ i
 | 0 => by simp [inN]
 | i + 1 => by
  have:=zpn os i
  simp only [inN,List.length_append]
  split
  ·split <;> simp <;> omega
  ·simp; omega
def wOf (os : List Osd) (i : Nat) : Int:=match os[i]? with
 | some o => o.w
 | none => 0
def strawOf (os : List Osd) (g : Int) (t : Nat) (o : Nat) : Int:=SV (HV g o t) (wOf os o)
def drawOf (os : List Osd) (g : Int) (r t : Nat) : Nat:=drawn (inN os 5) (strawOf os g (r + t * 3))
/-- Who is picked of a map's group -/
def pickP (e : Int) (os : List Osd) (g : Int) : List Nat :=
 if (isM e os && decide (g < 4)) = true then
  (match inN os 5 with
   | [] => []
   | _ => pickGo os (drawOf os g 2) (pickGo os (drawOf os g 1) [drawOf os g 0 0] 20 0) 20 0)
 else []

theorem pround (r : Nat) (hr : r < 3) (T : Tm) (X : DV) (ii : List DV) (wi : Bool) (cs cs' : List AV) (R : Heap) (a b : Ob) (n : Nat) (hn : 0 < n) (h17 : cs[17]? = some (.view 1 n 1 0 n)) (h5 : lk T 5 = .ptr 2 0) (h6 : lk T 6 = .d (.i .i64 (r : Int)))
  (hneg : lts 3 cs = true ∧ R = [] ∨ lts 3 cs = false ∧ ∃ a' b',R = [a',b']) (hneg' : lts 3 cs' = false)
  (hp : evF C F_q3i [.ptr 2 0,.d (.i .i64 (r : Int))] (.box (.d X) :: .arr ii wi :: .box (.agg cs) :: R) = some (.tup [],[.box (.d X),.arr ii wi,.box (.agg cs'),a,b])) :
  ∃ T',evL C zbl zbk 3 T (.box (.d X) :: .arr ii wi :: .box (.agg cs) :: R) = evL C zbl zbk 3 T' [.box (.d X),.arr ii wi,.box (.agg cs'),a,b] ∧ lk T' 5 = .ptr 2 0 ∧ lk T' 6 = .d (.i .i64 ((r + 1 : Nat) : Int)):=by
 have hd : decide ((r : Int) < 3) = true:=by simp; omega
 have hdn : decide (((n : Nat) : Int) > 0) = true:=by simp; omega
 have hw : IntKind.i64.wrap ((r : Int) + 1) = ((r + 1 : Nat) : Int):=wi64 (by omega)
 obtain ⟨G,hG⟩ : ∃ G,G = againL C zbl zbk 3:=⟨_,rfl⟩
 have e1:=zam (C:=C) (T:=T) (H:=.box (.d X) :: .arr ii wi :: .box (.agg cs) :: R) zbl zbk 3
 rw [← hG] at e1
 rw [e1]
 rcases hneg with ⟨hneg,rfl⟩ | ⟨hneg,a',b',rfl⟩ <;>
 ·simp +decide only [zbk, zbl, hd, hdn, hw, h17, hp, hneg, h5, h6, Pk.EVO, Pk.EVDO, ↓reduceIte, reduceCtorEq, Nat.reduceAdd, Nat.reduceLeDiff]
  rw [hG,zah]
  exact ⟨_,rfl,rfl,rfl⟩
theorem pend (T : Tm) (X : DV) (ii : List DV) (wi : Bool) (cs : List AV) (R : Heap) (n : Nat) (h17 : cs[17]? = some (.view 1 n 1 0 n)) (h5 : lk T 5 = .ptr 2 0) (r : Nat) (h6 : lk T 6 = .d (.i .i64 (r : Int))) (h : r = 3 ∨ n = 0)
  (hneg : lts 3 cs = true ∧ R = [] ∨ lts 3 cs = false ∧ ∃ a' b',R = [a',b']) :
  ∃ T',evL C zbl zbk 3 T (.box (.d X) :: .arr ii wi :: .box (.agg cs) :: R) = some (.exit 0,T',.box (.d X) :: .arr ii wi :: .box (.agg cs) :: R) ∧ lk T' 5 = .ptr 2 0:=by
 obtain ⟨G,hG⟩ : ∃ G,G = againL C zbl zbk 3:=⟨_,rfl⟩
 rw [zam,← hG]
 rcases hneg with ⟨hneg,rfl⟩ | ⟨hneg,a',b',rfl⟩ <;>
 ·by_cases c : r = 3
  ·subst c
   have hd : decide (((3 : Nat) : Int) < 3) = false:=by decide
   simp +decide only [zbk,zbl,hneg,h5,h6,Pk.EVO,Pk.EVDO,↓reduceIte,reduceCtorEq,Nat.reduceAdd]
   rw [hG]
   exact ⟨_,rfl,rfl⟩
  ·have hn : n = 0 := by omega
   subst hn
   have hd : decide (((0 : Nat) : Int) > 0) = false:=by decide
   by_cases c3 : decide ((r : Int) < 3) = true
   ·simp +decide only [zbk, zbl, c3, h17, hneg, h5, h6, Pk.EVO, Pk.EVDO, ↓reduceIte, reduceCtorEq, Nat.reduceAdd]
    rw [hG]
    exact ⟨_,rfl,rfl⟩
   ·replace c3 := eq_false_of_ne_true c3
    simp +decide only [zbk,zbl,c3,hneg,h5,h6,Pk.EVO,Pk.EVDO,↓reduceIte,reduceCtorEq,Nat.reduceAdd]
    rw [hG]
    exact ⟨_,rfl,rfl⟩
end

section
/-! The whole pick: place.Pick. -/
set_option maxRecDepth 10000
set_option maxHeartbeats 1000000

theorem pick_bad (e : Int) (os : List Osd) (hos : os.length = 5) (g : Int) (h : (isM e os && decide (g < 4)) = false) :
  evF C F_q3e [.d (mapD e os),.d (.i .u8 g)] [] = some (.nilS,[]):=by
 rw [zaa (rfl : C F_q3e = some a_q3e) _ _ rfl]
 have hl:=zat os
 rw [hos] at hl
 have h15 : List.take 15 (osds os) = osds os:=List.take_of_length_le (by omega)
 have hi:=is_at e os hos
 unfold mapD at hi ⊢
 by_cases c : isM e os = true
 ·rw [c] at hi h
  have hg : decide (g ≥ 4) = true:=by
   simp at h ⊢; exact h
  simp +decide only [c_q3e,zbl,zbk,hl,h15,hi,hg,Bool.not_true,Pk.EVO,Pk.EVDO,↓reduceIte,Nat.reduceAdd,Nat.reduceLeDiff]
 ·replace c := eq_false_of_ne_true c
  rw [c] at hi
  simp +decide only [c_q3e,zbl,zbk,hl,h15,hi,Bool.not_false,Pk.EVO,Pk.EVDO,↓reduceIte,Nat.reduceAdd,Nat.reduceLeDiff]
theorem zoa (e : Int) (os : List Osd) (hos : os.length = 5) (g : Int) (c : isM e os = true) (hg : decide (g < 4) = true) (L : List Nat) (hL : inN os 5 = L) (r : AV) (H : Heap)
  (hloop : ∀ T,lk T 5 = .ptr 2 0 → lk T 6 = .d (.i .i64 0) → ∃ T' H' cs pk,evL C zbl zbk 3 T [.box (.d (mapD e os)),.arr (nats L) true,.box (.agg (cells e os g (.view 1 L.length 1 0 L.length) .nilS))] = some (.exit 0,T',H') ∧ lk T' 5 = .ptr 2 0 ∧ H'[2]? = some (.box (.agg cs)) ∧ cs[18]? = some pk ∧ finish 0 pk H' = (r,H)) :
  evF C F_q3e [.d (mapD e os),.d (.i .u8 g)] [] = some (r,H):=by
 rw [zaa (rfl : C F_q3e = some a_q3e) _ _ rfl]
 have hl:=zat os
 rw [hos] at hl
 have h15 : List.take 15 (osds os) = osds os:=List.take_of_length_le (by omega)
 have hi:=is_at e os hos
 have hin:=in_at e os hos
 rw [inN_idx,hL,show ints (L.map fun (j : Nat) => (j : Int)) = nats L from rfl,zal] at hin
 rw [c] at hi
 have hg : decide (g ≥ 4) = false:=by
   simp at hg ⊢; exact hg
 obtain ⟨M,hM⟩ : ∃ M,M = List.map AV.d (osds os):=⟨_,rfl⟩
 have hM':=hM.symm
 have hML : M.length = 15:=by rw [hM]; simp [hl]
 have ht : ∀ X,List.take 15 (M ++ X) = M:=fun X => List.take_left' hML
 have hd5 : ∀ X,List.drop 15 (M ++ X) = X:=fun X => List.drop_left' hML
 have hd6 : ∀ X,List.drop 16 (M ++ X) = X.drop 1:=fun X => by rw [show 16 = 15 + 1 from rfl,← List.drop_drop,hd5]
 have hd7 : ∀ X,List.drop 17 (M ++ X) = X.drop 2:=fun X => by rw [show 17 = 15 + 2 from rfl,← List.drop_drop,hd5]
 have ht6 : ∀ x X,List.take 16 (M ++ x :: X) = M ++ [x]:=fun x X => by rw [List.take_append,hML,List.take_of_length_le (by omega)]; rfl
 have hcells : AV.d (DV.i .u32 e) :: (M ++ [.d (.i .u8 g),.view 1 L.length 1 0 L.length,.nilS]) = cells e os g (.view 1 L.length 1 0 L.length) .nilS:=by rw [hM]; rfl
 have hal : allD (cells e os g (.view 1 L.length 1 0 L.length) .nilS) = none:=zfg rfl
 have hnl:=zal L
 have hnt : List.take L.length (nats L) = nats L:=List.take_of_length_le (by omega)
 generalize hcs : cells e os g (.view 1 L.length 1 0 L.length) .nilS = cs at *
 generalize nats L = N at *
 unfold mapD at hi hin hloop ⊢
 simp +decide only [hl,c_q3e,h15,hi,hin,hg,hM',hML,ht,hd6,hd7,ht6,hcells,hal,hnl,hnt,Nat.le_refl,List.drop_succ_cons,List.drop_zero,List.append_assoc,List.cons_append,List.nil_append,List.length_append,Bool.not_true,Pk.EVO,Pk.EVDO,↓reduceIte,Nat.reduceAdd,Nat.reduceLeDiff]
 simp only [Option.bind_assoc]
 obtain ⟨T',H',cs',pk,e1,e2,e3,e4,e5⟩:=hloop [(6,AV.d (DV.i IntKind.i64 0)),(5,AV.ptr 2 0)] rfl rfl
 rw [e1,← e5]
 simp +decide only [e2,e3,e4,Pk.EVO,Pk.EVDO,↓reduceIte]
theorem zdh (L : List Nat) (h : 0 < L.length) (f : Nat → Int) : drawn L f ∈ L:=by
 obtain ⟨b0,b1⟩:=zmu (L.map f) (by simpa using h)
 have : (bestI (L.map f)).toNat < L.length:=by
  rw [List.length_map] at b1
  omega
 unfold drawn
 rw [List.getD_eq_getElem?_getD,List.getElem?_eq_getElem this]
 exact List.getElem_mem this
theorem zcq (os : List Osd) (o : Nat → Nat) (P : List Nat) (h : ∀ t,o t < 5) (hP : ∀ p ∈ P,p < 5) : ∀ n t,∀ p ∈ pickGo os o P n t,p < 5
 | 0,_,p,hp => hP p hp
 | n + 1, t, p, hp => by
  simp only [pickGo] at hp
  split at hp
  ·exact zcq os o P h hP n _ p hp
  ·rcases List.mem_append.1 hp with hp | hp
   ·exact hP p hp
   ·simp at hp; rw [hp]; exact h t
theorem zb8 (os : List Osd) (o : Nat → Nat) (P : List Nat) : ∀ n t,P.length ≤ (pickGo os o P n t).length ∧ (pickGo os o P n t).length ≤ P.length + 1
 | 0,_ => by simp [pickGo]
 | n + 1,t => by
  simp only [pickGo]
  split
  ·exact zb8 os o P n _
  ·simp
theorem zm1 {e g : Int} {os : List Osd} (hos : os.length = 5) (X : DV) (x3 : List DV) (w3 : Bool) (P : List Nat) (hPl : P.length ≤ 50) (hP : ∀ p ∈ P,p < 5) (h0 : 0 < (inN os 5).length) (r : Nat) (hr : r < 3) :
  evF C F_q3i [.ptr 2 0,.d (.i .i64 (r : Int))] (heapP X (nats (inN os 5)) x3 true w3 e g os (.view 1 (inN os 5).length 1 0 (inN os 5).length) P) = some (.tup [],heapP X (nats (inN os 5)) x3 true w3 e g os (.view 1 (inN os 5).length 1 0 (inN os 5).length) (pickGo os (drawOf os g r) P 20 0)):=by
 have hm:=fun t => zep os 5 _ (zdh _ h0 (strawOf os g (r + t * 3)))
 refine pick_some hos rfl rfl X _ x3 true w3 P hPl r hr (drawOf os g r) (fun t ht => ?_) (fun t ht => ?_)
 ·refine draw_some X x3 (nats P) w3 true _ (zcm rfl rfl) (zcm rfl rfl) g ((r + t * 3 : Nat) : Int) true (inN os 5) (zep os 5) (by have := zpn os 5; omega) h0 (wOf os) (strawOf os g (r + t * 3)) (zrw hos) (zgf hos) (fun o ho => ?_) (fun o ho => ?_)
  ·have h5 := zep os 5 o ho
   have hge : os[o]? = some (os[o]'(by omega)):=List.getElem?_eq_getElem (by omega)
   rw [Int.toNat_natCast,cells_w hos hge]
   simp only [wOf,hge]
  ·exact draw_at g o _ _
 ·exact fits_some hos X _ x3 true w3 _ P _ (hm t) hP (by omega)
theorem pick_at (e : Int) (os : List Osd) (hos : os.length = 5) (g : Int) (P : List Nat) (hP : pickP e os g = P) :
  (P = [] → evF C F_q3e [.d (mapD e os),.d (.i .u8 g)] [] = some (.nilS,[])) ∧
  (P ≠ [] → ∃ X ii wi cs a,evF C F_q3e [.d (mapD e os),.d (.i .u8 g)] [] = some (.view 4 P.length 1 0 P.length,[.box (.d X),.arr ii wi,.box (.agg cs),a,.arr (nats P) true])):=by
 by_cases cg : (isM e os && decide (g < 4)) = true
 case neg =>
  replace cg:=eq_false_of_ne_true cg
  have : pickP e os g = []:=by simp [pickP,cg]
  rw [this] at hP
  subst hP
  exact ⟨fun _ => pick_bad e os hos g cg,fun h => absurd rfl h⟩
 obtain ⟨c,hg⟩:=Bool.and_eq_true_iff.1 cg
 have hlt:=zcm (n:=3) (e:=e) (g:=g) (os:=os) (inn:=.view 1 (inN os 5).length 1 0 (inN os 5).length) (pk:=.nilS) rfl rfl
 have h17:=zgf (e:=e) (g:=g) (inn:=.view 1 (inN os 5).length 1 0 (inN os 5).length) (pk:=.nilS) hos
 have h18:=zdx (e:=e) (g:=g) (inn:=.view 1 (inN os 5).length 1 0 (inN os 5).length) (pk:=.nilS) hos
 cases hL : inN os 5 with
 | nil =>
  have : pickP e os g = []:=by simp [pickP,cg,hL]
  rw [this] at hP
  subst hP
  rw [hL] at hlt h17 h18
  refine ⟨fun _ => ?_,fun h => absurd rfl h⟩
  refine zoa e os hos g c hg _ hL _ _ fun T h5 h6 => ?_
  obtain ⟨T',e1,e2⟩:=pend T (mapD e os) (nats []) true _ [] 0 h17 h5 0 h6 (.inr rfl) (.inl ⟨hlt,rfl⟩)
  exact ⟨T',_,_,_,e1,e2,rfl,h18,rfl⟩
 | cons x xs =>
  have h0 : 0 < (inN os 5).length:=by rw [hL]; simp
  have hPe : pickP e os g = pickGo os (drawOf os g 2) (pickGo os (drawOf os g 1) [drawOf os g 0 0] 20 0) 20 0:=by simp only [pickP,cg,if_true,hL]
  have hn:=pick_none (e:=e) (g:=g) hos (mapD e os) true (inN os 5) (zep os 5) (by have:=zpn os 5; omega) h0 0 (by omega) (wOf os) (strawOf os g 0) (fun o ho => by
   have h5:=zep os 5 o ho
   have hge : os[o]? = some (os[o]'(by omega)):=List.getElem?_eq_getElem (by omega)
   rw [Int.toNat_natCast,cells_w hos hge]
   simp only [wOf,hge]) (fun o ho => draw_at g o _ _)
  have hm:=fun r t => zep os 5 _ (zdh _ h0 (strawOf os g (r + t * 3)))
  have hm0 : ∀ p ∈ [drawOf os g 0 0],p < 5:=fun p hp => by simp at hp; rw [hp]; exact hm 0 0
  have hm1:=zcq os (drawOf os g 1) _ (hm 1) hm0 20 0
  have hl1:=zb8 os (drawOf os g 1) [drawOf os g 0 0] 20 0
  have hl2:=zb8 os (drawOf os g 2) (pickGo os (drawOf os g 1) [drawOf os g 0 0] 20 0) 20 0
  have s1:=zm1 (e:=e) (g:=g) hos (mapD e os) (nats [drawOf os g 0 0]) true [drawOf os g 0 0] (by simp) hm0 h0 1 (by omega)
  have s2:=zm1 (e:=e) (g:=g) hos (mapD e os) (nats [drawOf os g 0 0]) true _ (by simp only [List.length_cons,List.length_nil] at hl1; omega) hm1 h0 2 (by omega)
  rw [← hPe,hP] at s2 hl2
  have hne : P ≠ []:=by
   rintro rfl
   have q1:=hl1.1
   have q2:=hl2.1
   simp only [List.length_cons,List.length_nil] at q1 q2
   omega
  refine ⟨fun h => absurd h hne,fun _ => ?_⟩
  have neg : ∀ k,lts 3 (cells e os g (.view 1 (inN os 5).length 1 0 (inN os 5).length) (.view 4 k 1 0 k)) = false:=by
   intro k
   unfold cells
   rw [zdu,zdo]
   rfl
  have c17:=fun k => zgf (e:=e) (g:=g) (inn:=.view 1 (inN os 5).length 1 0 (inN os 5).length) (pk:=.view 4 k 1 0 k) hos
  refine ⟨mapD e os,nats (inN os 5),true,cells e os g (.view 1 (inN os 5).length 1 0 (inN os 5).length) (.view 4 P.length 1 0 P.length),.arr (nats [drawOf os g 0 0]) true,?_⟩
  refine zoa e os hos g c hg _ rfl _ _ fun T h5 h6 => ?_
  obtain ⟨T1,a1,a2,a3⟩:=pround 0 (by omega) T (mapD e os) (nats (inN os 5)) true _ _ [] _ _ _ h0 h17 h5 h6 (.inl ⟨hlt,rfl⟩) (neg 1) hn
  obtain ⟨T2,b1,b2,b3⟩:=pround 1 (by omega) T1 (mapD e os) (nats (inN os 5)) true _ _ _ _ _ _ h0 (c17 1) a2 a3 (.inr ⟨neg 1,_,_,rfl⟩) (neg _) s1
  obtain ⟨T3,d1,d2,d3⟩:=pround 2 (by omega) T2 (mapD e os) (nats (inN os 5)) true _ _ _ _ _ _ h0 (c17 _) b2 b3 (.inr ⟨neg _,_,_,rfl⟩) (neg _) s2
  obtain ⟨T4,f1,f2⟩:=pend T3 (mapD e os) (nats (inN os 5)) true _ _ _ (c17 P.length) d2 3 d3 (.inl rfl) (.inr ⟨neg _,_,_,rfl⟩)
  refine ⟨T4,_,_,_,(a1.trans (b1.trans (d1.trans f1))),f2,rfl,zdx hos,rfl⟩
end
end Go.Proofs.YthlpognahlnaaaaGreat
