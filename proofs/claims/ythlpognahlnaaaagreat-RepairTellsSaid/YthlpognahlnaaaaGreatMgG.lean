/- repair.Make: the plan of a repair,amid objects that may hold references. / repair.Make: the plan of a repair. / The states that the laws make. -/
import Derived.Test.YthlpognahlnaaaaGreatPkEvd
import Derived.Test.YthlpognahlnaaaaGreatRpA
import Derived.Test.YthlpognahlnaaaaGreatHrB
import Derived.Test.YthlpognahlnaaaaGreatMgA
set_option linter.all false
namespace Go.Proofs.YthlpognahlnaaaaGreat
open Pv Go Pk
set_option maxRecDepth 10000
set_option maxHeartbeats 4000000
theorem make1_at (s : State) : evF C F_q3m [.d (.agg s.cs)] [] = some (.d (.b (!isSt s)),[]):=by
 have h:=is_st s
 rw [zaa (rfl : C F_q3m = some a_q3m) _ _ rfl]
 simp +decide only [c_q3m,h,Pk.EVL,Pk.EVD,↓reduceIte,Pk.TY_State]
theorem rdiff_at (s t : State) (hs : stOk s) (ht : stOk t) : evF C F_q3n [.d (.agg t.cs),.d (.agg s.cs)] [] = some (.d (.agg (makeM s t).cs),[]):=by
 have h:=make_at s t hs ht
 rw [zaa (rfl : C F_q3n = some a_q3n) _ _ rfl]
 simp +decide only [c_q3n,h,Pk.EVL,Pk.EVD,↓reduceIte,Nat.reduceAdd,Pk.TY_State,Pk.TY_Diff]
/-- The plan of a repair,of states that may be,of daemons in order. -/
def planOf (l : List Inc) (g : Int) (os : List Int) (L : List State) : Plan :=
 ⟨bestS os L,!enoughB l g os (startedS L),if bestS os L < 0 then [] else L.map fun s => makeM s (L.getD (bestS os L).toNat State.zero)⟩
def blkA : List AV:=[.d (.i .i64 (-1)),.d (.b true),.nilS]
def plA (b : Int) (k : Bool) (v : AV) : List AV:=[.d (.i .i64 b),.d (.b k),v]
theorem plA_new (b : Int) (k : Bool) : upd (upd Plan.zeroA 0 [.d (.i .i64 b)]) 1 [.d (.b k)] = plA b k .nilS:=rfl
theorem plA_l1 (x : AV) : (upd Plan.zeroA 0 [x]).length = 3:=rfl
theorem plA_w (b : Int) (k : Bool) (v : AV) : upd Plan.zeroA 0 (plA b k v) = plA b k v:=rfl
theorem plA_d (b : Int) (k : Bool) (v w : AV) : upd (plA b k v) 2 [w] = plA b k w:=rfl
theorem plA_get (b : Int) (k : Bool) (v : AV) : (plA b k v)[2]? = some v:=rfl
theorem zhn (b : Int) (k : Bool) (v : AV) : (plA b k v).length = 3:=rfl
theorem plA_all (b : Int) (k : Bool) (v : AV) : subL (plA b k v) 0 3 = plA b k v:=rfl
theorem plA_n (b : Int) (k : Bool) : allD (plA b k .nilS) = none:=rfl
theorem plA_v (b : Int) (k : Bool) (o g z a l : Nat) : allD (plA b k (.view o g z a l)) = none:=rfl
theorem plA_lts (n : Nat) (b : Int) (k : Bool) (v : AV) : lts n (plA b k v) = lt n v:=by simp [plA,lts,lt]
theorem zq9 (H : Heap) (b : Int) (k : Bool) (v : AV) : toDs H (plA b k v) = (toD H v).map fun p => ([.i .i64 b,.b k,p.1],p.2):=by
 unfold plA
 simp only [toDs,toD]
 cases toD H v <;> rfl
theorem plA_fold (b : Int) (k : Bool) (D : List Diff) : ([.i .i64 b,.b k,.sl (D.map Diff.d)] : List DV) = Plan.cs ⟨b,k,D⟩:=rfl
theorem plA_fold0 (b : Int) (k : Bool) : ([.i .i64 b,.b k,.sl []] : List DV) = Plan.cs ⟨b,k,[]⟩:=rfl
section
variable {P S : Heap} {p n : Nat} (hP : P.length = p) (hn : p + 12 + S.length = n) (hPp : plain P) (hS : ∀ k,S.all (ltO (n + k)) = true)
include hP hn hPp hS
theorem zow {l : List Inc} (hl : goodI l) {q : Grb} (hq : q.pl) {X : Heap} (hX : plain X) {m : Nat} (hm : n + X.length = m) (g : Int) (hg : 0 ≤ g ∧ g < 4) (os : List Int) (L : List State) (hL : L.length ≤ 1000) (hne : os.length = L.length)
  (hasc : ∀ (i : Nat) (a b : Int),os[i]? = some a → os[i + 1]? = some b → a < b) (hst : ∀ s ∈ L,stOk s ∧ isSt s = true) :
  evF C F_q3l [.ptr (p + 2) 0,.d (.i .u8 g),.d (.sl (os.map fun x => .i .i64 x)),.d (.sl (L.map State.d))] (hz P S p l q X) = some (.d (.agg (planOf l g os L).cs),hz P S p l (q.frz g) X):=by
 have hol : (os.map fun x : Int => DV.i .i64 x).length = os.length:=List.length_map _
 have hLl : (L.map State.d).length = L.length:=List.length_map _
 rw [za3 (rfl : C F_q3l = some f_q3l) _ _ [.ptr (p + 2) 0,.d (.i .u8 g),.d (.sl (os.map fun x => .i .i64 x)),.d (.sl (L.map State.d))] (hz P S p l q X) rfl rfl]
 have hX1 : plain (X ++ [.box (.agg Plan.zeroA),.box (.agg blkA)]):=by rw [zg0]; exact ⟨hX,fun _ => rfl⟩
 have EN:=zsn hP hn hPp hS hl hq hX1 (m:=m + 2) (by simp only [List.length_append,List.length_cons,List.length_nil]; omega) g hg (hv:=.d (.sl (os.map fun x => .i .i64 x))) (A:=os) (.inl rfl) (by omega) (startedS L)
 rw [← hrz,← hrz] at EN
 have hq':=Grb.frz_pl hq g
 have hlen0 : (hz P S p l q X).length = m:=by rw [zcj hP hn,hm]
 have hlen : (hz P S p l (q.frz g) X).length = m:=by rw [zcj hP hn,hm]
 have hall : ∀ k,(hz P S p l (q.frz g) X).all (ltO (m + k)) = true:=fun k => by
  have:=zf4 hP hn hPp hS l hq' hX (X.length + k)
  rwa [show n + (X.length + k) = m + k by omega] at this
 have hall0 : (hz P S p l (q.frz g) X).all (ltO m) = true:=hall 0
 have a1:=hr_at hlen0
 have a0:=zbm hlen0
 have b1:=zb2 hlen0
 have b0:=zbc hlen0
 have l0:=zbb hlen0
 have p0 : ∀ Z,hz P S p l q X ++ Z = hr (hz P S p l q X) Z:=fun _ => rfl
 have a1':=hr_at hlen
 have a0':=zbm hlen
 have b1':=zb2 hlen
 have b0':=zbc hlen
 have l0':=zbb hlen
 have t0' : ∀ Z,List.take m (hr (hz P S p l (q.frz g) X) Z) = hz P S p l (q.frz g) X:=fun Z => by unfold hr; exact List.take_left' hlen
 have hcf:=fun H => zoj F_q3m (fun s => !isSt s) L hL H (fun s _ => make1_at s)
 have hany : (L.any fun s => !isSt s) = false:=by
  rw [List.any_eq_false]
  intro x hx
  rw [(hst x hx).2]
  decide
 rw [hany] at hcf
 have c1 : (((os.length : Nat) : Int) != ((L.length : Nat) : Int)) = false:=by rw [bne_eq_false_iff_eq]; omega
 have BE:=cbest_at os L hL (by omega)
 have ST:=zqr L hL
 have hbs : bestS os L = (bestFold os L).1:=by unfold bestS; rw [if_neg (by rw [hany]; simp [hne])]
 have hbr:=zm8 os L hne
 rw [← hbs] at hbr
 have u1 : upd (upd Plan.zeroA 0 [.d (.i .i64 (-1))]) 1 [.d (.b true)] = blkA:=rfl
 have u2 : allD blkA = none:=rfl
 have u3 : blkA.length = 3:=rfl
 have u4 : upd Plan.zeroA 0 blkA = blkA:=rfl
 simp +decide only [c_q3l,hol,hLl,hlen0,a1,b1,l0,p0,zao,hcf,c1,u1,u2,u3,u4,thaws,Pk.EVL,Pk.EVD,↓reduceIte,Nat.reduceAdd,Int.reduceNeg]
 simp only [Option.bind_assoc]
 refine zaf (zac (fun i T H => lk T 0 = .ptr (p + 2) 0 ∧ lk T 1 = .d (.i .u8 g) ∧ lk T 2 = .d (.sl (os.map fun x => .i .i64 x)) ∧ lk T 3 = .d (.sl (L.map State.d)) ∧ lk T 8 = .ptr m 0 ∧ lk T 9 = .ptr (m + 1) 0 ∧ lk T 10 = .d (.i .i64 ((i + 1 : Nat) : Int)) ∧ H = hr (hz P S p l q X) [.box (.agg Plan.zeroA),.box (.agg blkA)])
  (fun e T H => e = .exit 0 ∧ lk T 0 = .ptr (p + 2) 0 ∧ lk T 1 = .d (.i .u8 g) ∧ lk T 2 = .d (.sl (os.map fun x => .i .i64 x)) ∧ lk T 3 = .d (.sl (L.map State.d)) ∧ lk T 8 = .ptr m 0 ∧ H = hr (hz P S p l q X) [.box (.agg Plan.zeroA),.box (.agg blkA)]) (os.length - 1) ?_ ?_ (os.length - 1) 0 _ _ (by omega) ⟨rfl,rfl,rfl,rfl,rfl,rfl,rfl,rfl⟩) ?_
 ·rintro i T H hi ⟨h0, h1, h2, h3, h8, h9, h10, rfl⟩
  obtain ⟨a,ha⟩ : ∃ a,os[i]? = some a:=⟨os[i]'(by omega),List.getElem?_eq_getElem _⟩
  obtain ⟨b,hb⟩ : ∃ b,os[i + 1]? = some b:=⟨os[i + 1]'(by omega),List.getElem?_eq_getElem _⟩
  have hab:=hasc i a b ha hb
  have had:=zae (fun x : Int => DV.i .i64 x) ha
  have hbd:=zae (fun x : Int => DV.i .i64 x) hb
  have hd : decide (((i + 1 : Nat) : Int) < ((os.length : Nat) : Int)) = true:=by simp; omega
  have hw : IntKind.i64.wrap (((i + 1 : Nat) : Int) + 1) = ((i + 1 + 1 : Nat) : Int):=wi64 (by omega)
  have hw2 : IntKind.i64.wrap (((i + 1 : Nat) : Int) - 1) = ((i : Nat) : Int):=by rw [show ((i + 1 : Nat) : Int) - 1 = ((i : Nat) : Int) by omega]; exact wi64 (by omega)
  have x0 : (0 ≤ (i : Int)) = True:=by simp
  have x1 : ((i : Int) < ((os.length : Nat) : Int)) = True:=eq_true (by omega)
  have x2 : (0 ≤ ((i + 1 : Nat) : Int)) = True:=eq_true (by omega)
  have x3 : (((i + 1 : Nat) : Int) < ((os.length : Nat) : Int)) = True:=eq_true (by omega)
  have hge : decide (a ≥ b) = false:=decide_eq_false (by omega)
  have ht2:=za9 hlen0 [Ob.box (.agg Plan.zeroA),.box (.agg blkA)] 2
  simp +decide only [zqn,zq6,h0,h1,h2,h3,h8,h9,h10,hol,had,hbd,hw,hw2,x0,x2,x3,hge,ht2,Int.toNat_natCast,ite_self,Pk.EVL,Pk.EVD,↓reduceIte]
  exact ⟨_,_,_,rfl,.inl ⟨rfl,rfl,rfl,rfl,rfl,rfl,rfl,rfl,rfl⟩⟩
 ·rintro T H ⟨h0, h1, h2, h3, h8, h9, h10, rfl⟩
  have hd : decide (((os.length - 1 + 1 : Nat) : Int) < ((os.length : Nat) : Int)) = false:=by simp; omega
  have ht2:=za9 hlen0 [Ob.box (.agg Plan.zeroA),.box (.agg blkA)] 2
  simp +decide only [zqn,zq6,h0,h1,h2,h3,h8,h9,h10,hol,hd,ht2,ite_self,Pk.EVL,Pk.EVD,↓reduceIte]
  exact ⟨_,_,_,rfl,by simp,rfl,rfl,rfl,rfl,rfl,rfl,rfl⟩
 rintro e T H ⟨rfl,h0,h1,h2,h3,h8,rfl⟩
 unfold planOf
 by_cases cb : bestS os L < 0
 ·have cbd := decide_eq_true cb
  rw [if_pos cb]
  generalize hz P S p l (q.frz g) X = Q at *
  simp +decide only [h0,h1,h2,h3,h8,BE,ST,EN,cbd,plA_new,plA_l1,plA_w,zhn,plA_all,plA_n,zq9,plA_fold0,l0,a1',a0',b1',b0',l0',t0',hall0,zao,Pk.EVL,Pk.EVD,↓reduceIte,Nat.reduceAdd,Nat.reduceLeDiff,Pk.TY_Plan]
 rw [if_neg cb]
 have cbd:=decide_eq_false cb
 obtain ⟨t,htt⟩ : ∃ t,L[(bestS os L).toNat]? = some t:=⟨L[(bestS os L).toNat]'(by omega),List.getElem?_eq_getElem _⟩
 have htD : L.getD (bestS os L).toNat State.zero = t:=by rw [List.getD_eq_getElem?_getD,htt]; rfl
 have htd:=zae State.d htt
 have hto:=(hst t (List.mem_of_getElem? htt)).1
 have x0 : (0 ≤ bestS os L) = True:=eq_true (by omega)
 have x1 : (bestS os L < ((L.length : Nat) : Int)) = True:=eq_true (by omega)
 rw [htD]
 generalize hz P S p l (q.frz g) X = Q at *
 simp +decide only [h0,h1,h2,h3,h8,BE,ST,EN,cbd,x0,htd,hLl,plA_new,plA_l1,plA_w,zhn,plA_n,l0,a1',b1',l0',zao,thaws,Pk.EVL,Pk.EVD,↓reduceIte,Nat.reduceAdd,Nat.reduceLeDiff,Pk.TY_Plan,Pk.TY_State]
 simp only [Option.bind_assoc]
 generalize (!enoughB l g os (startedS L)) = bl at *
 generalize bestS os L = bs at *
 have hL0 : 0 < L.length:=by have:=(List.getElem?_eq_some_iff.1 htt).1; omega
 have hall3 : ∀ v,(hr Q [Ob.box (.agg Plan.zeroA),.box (.agg blkA),.box (.agg (plA bs bl v))]).all (ltO (m + 3)) = lt (m + 3) v:=fun v => by
  rw [zaw,hall 3]
  simp only [List.all_cons,List.all_nil,ltO,lt,plA_lts,Bool.and_true,Bool.true_and]
  rfl
 refine zaf (zac (fun i T H => lk T 8 = .ptr m 0 ∧ lk T 12 = .ptr (m + 2) 0 ∧ lk T 13 = .fn F_q3n [.d (.agg t.cs)] [] ∧ lk T 65 = .d (.sl (L.map State.d)) ∧ lk T 66 = .d (.i .i64 (L.length : Nat)) ∧ lk T 67 = .d (.i .i64 (i : Nat)) ∧
   ∃ v J,H = hr Q (.box (.agg Plan.zeroA) :: .box (.agg blkA) :: .box (.agg (plA bs bl v)) :: J) ∧ ((i = 0 ∧ v = .nilS ∧ J = []) ∨ (v = .view (m + 5) i 52 0 i ∧ ∃ x y J',J = x :: y :: .arr (((L.take i).map fun s => makeM s t).map Diff.d) true :: J')))
  (fun e T H => e = .exit 2 ∧ lk T 8 = .ptr m 0 ∧ lk T 12 = .ptr (m + 2) 0 ∧ ∃ x y J',H = hr Q (.box (.agg Plan.zeroA) :: .box (.agg blkA) :: .box (.agg (plA bs bl (.view (m + 5) L.length 52 0 L.length))) :: x :: y :: .arr ((L.map fun s => makeM s t).map Diff.d) true :: J'))
  L.length ?_ ?_ L.length 0 _ _ (by omega) ⟨rfl,rfl,rfl,rfl,rfl,rfl,_,[],rfl,.inl ⟨rfl,rfl,rfl⟩⟩) ?_
 ·rintro i T H hi ⟨h8, h12, h13, h65, h66, h67, v, J, rfl, hJ⟩
  obtain ⟨s,hs⟩ : ∃ s,L[i]? = some s:=⟨L[i]'hi,List.getElem?_eq_getElem _⟩
  have hsd:=zae State.d hs
  have DI:=rdiff_at s t (hst s (List.mem_of_getElem? hs)).1 hto
  have hd : decide ((i : Int) < ((L.length : Nat) : Int)) = true:=by simp; omega
  have hw : IntKind.i64.wrap ((i : Int) + 1) = ((i + 1 : Nat) : Int):=wi64 (by omega)
  have y0 : (0 ≤ (i : Int)) = True:=by simp
  have y1 : ((i : Int) < ((L.length : Nat) : Int)) = True:=eq_true (by omega)
  have hlim : (i + 1 ≤ LIM) = True:=eq_true (by unfold LIM; omega)
  rcases hJ with ⟨rfl,rfl,rfl⟩ | ⟨rfl,x,y,J',rfl⟩
  ·have e1 : (m + 4 != m + 2) = true := by simp
   have e2 : (m + 2 != m + 4) = true:=by simp
   have ht3:=za9 hlen [Ob.box (.agg Plan.zeroA),.box (.agg blkA),.box (.agg (plA bs bl .nilS))] 3
   simp +decide only [zlu,zl6,h8,h12,h13,h65,h66,h67,hsd,DI,hw,y1,e1,hlim,ht3,hall3,plA_d,plA_get,zhn,plA_v,a1',b1',l0',zao,elems,Int.toNat_natCast,ite_self,Pk.EVL,Pk.EVD,↓reduceIte,Nat.reduceAdd,Pk.TY_State,Pk.TY_Diff]
   refine ⟨_,_,_,rfl,.inl ⟨rfl,rfl,rfl,rfl,rfl,rfl,rfl,_,_,rfl,rfl,?_⟩⟩
   rw [zag hs]
   exact ⟨_,_,[],rfl⟩
  ·obtain ⟨E, hE⟩ : ∃ E, ((L.take i).map fun s => makeM s t) = E := ⟨_, rfl⟩
   have hEl : (E.map Diff.d).length = i:=by rw [← hE,List.length_map,List.length_map,List.length_take]; omega
   have hEn : ((L.take (i + 1)).map fun s => makeM s t) = E ++ [makeM s t]:=by rw [zag hs,List.map_append,hE]; rfl
   rw [hE,hEn]
   have hnall : (List.take (m + 3) (hr Q (Ob.box (.agg Plan.zeroA) :: .box (.agg blkA) :: .box (.agg (plA bs bl (.view (m + 5) i 52 0 i))) :: x :: y :: .arr (E.map Diff.d) true :: J'))).all (ltO (m + 3)) = false:=by
    rw [za9 hlen]
    show (hr Q [_,_,_]).all _ = false
    rw [hall3]
    simp [lt]
   obtain ⟨Hm,hHm⟩ : ∃ Hm,hr Q (Ob.box (.agg Plan.zeroA) :: .box (.agg blkA) :: .box (.agg (plA bs bl (.view (m + 5) i 52 0 i))) :: x :: y :: .arr (E.map Diff.d) true :: J') = Hm:=⟨_,rfl⟩
   obtain ⟨M,hM⟩ : ∃ M,m + (J'.length + 6) = M:=⟨_,rfl⟩
   have hHl : Hm.length = M:=by rw [← hHm,l0',← hM]; rfl
   have hB : Hm[m + 2]? = some (.box (.agg (plA bs bl (.view (m + 5) i 52 0 i)))):=by rw [← hHm,a1']; rfl
   have hA : Hm[m + 5]? = some (.arr (E.map Diff.d) true):=by rw [← hHm,a1']; rfl
   have hBr : ∀ Z,(hr Hm Z)[m + 2]? = some (.box (.agg (plA bs bl (.view (m + 5) i 52 0 i)))):=fun Z => by unfold hr; rw [List.getElem?_append_left (by omega)]; exact hB
   have hAr : ∀ Z,(hr Hm Z)[m + 5]? = some (.arr (E.map Diff.d) true):=fun Z => by unfold hr; rw [List.getElem?_append_left (by omega)]; exact hA
   have hsA : ∀ Z c,(hr Hm Z).set (m + 5) c = hr (Hm.set (m + 5) c) Z:=fun Z c => by unfold hr; rw [List.set_append_left _ _ (by omega)]
   have hB2 : ∀ Z c,(hr (Hm.set (m + 5) c) Z)[m + 2]? = some (.box (.agg (plA bs bl (.view (m + 5) i 52 0 i)))):=fun Z c => by
    unfold hr
    rw [List.getElem?_append_left (by rw [List.length_set]; omega),List.getElem?_set_ne (by omega),hB]
   have hsB : ∀ Z c d,(hr (Hm.set (m + 5) c) Z).set (m + 2) d = hr ((Hm.set (m + 5) c).set (m + 2) d) Z:=fun Z c d => by unfold hr; rw [List.set_append_left _ _ (by rw [List.length_set]; omega)]
   have hfin : ∀ c d Z,hr ((Hm.set (m + 5) c).set (m + 2) d) Z = hr Q (Ob.box (.agg Plan.zeroA) :: .box (.agg blkA) :: d :: x :: y :: c :: (J' ++ Z)):=fun c d Z => by
    rw [← hHm,b1',b1']
    unfold hr
    rw [List.append_assoc]
    rfl
   have q1:=hr_at hHl
   have q0:=zbm hHl
   have r1:=zb2 hHl
   have r0:=zbc hHl
   have ql:=zbb hHl
   have qp : ∀ Z,Hm ++ Z = hr Hm Z:=fun _ => rfl
   have ql2 : ∀ c Z,(hr (Hm.set (m + 5) c) Z).length = M + Z.length:=fun c Z => by unfold hr; rw [List.length_append,List.length_set,hHl]
   have e1 : (M + 1 != m + 2) = true:=by simp; omega
   have e2 : (m + 2 != M + 1) = true:=by simp; omega
   rw [hHm] at hnall ⊢
   simp +decide only [zlu,zl6,h8,h12,h13,h65,h66,h67,hsd,DI,hw,y0,y1,e1,hlim,hnall,hHl,hBr,hAr,hsA,hB2,hsB,hEl,q1,q0,r0,ql,qp,plA_d,plA_get,zhn,plA_v,zao,elems,Int.toNat_natCast,Pk.EVL,Pk.EVD,↓reduceIte,reduceCtorEq,Nat.reduceAdd,Pk.TY_State,Pk.TY_Diff]
   refine ⟨_,_,_,rfl,.inl ⟨rfl,rfl,rfl,rfl,rfl,rfl,rfl,.view (m + 5) (i + 1) 52 0 (i + 1),_,hfin _ _ _,rfl,?_⟩⟩
   rw [List.map_append]
   exact ⟨_,_,_,rfl⟩
 ·rintro T H ⟨h8, h12, h13, h65, h66, h67, v, J, rfl, hJ⟩
  have hd : decide (((L.length : Nat) : Int) < ((L.length : Nat) : Int)) = false:=by simp
  rcases hJ with ⟨h,_⟩ | ⟨rfl,x,y,J',rfl⟩
  ·omega
  rw [List.take_length]
  have hnall : (List.take (m + 3) (hr Q (Ob.box (.agg Plan.zeroA) :: .box (.agg blkA) :: .box (.agg (plA bs bl (.view (m + 5) L.length 52 0 L.length))) :: x :: y :: .arr ((L.map fun s => makeM s t).map Diff.d) true :: J'))).all (ltO (m + 3)) = false:=by
   rw [za9 hlen]
   show (hr Q [_,_,_]).all _ = false
   rw [hall3]
   simp [lt]
  simp +decide only [zlu,zl6,h8,h12,h13,h65,h66,h67,hnall,Pk.EVL,Pk.EVD,↓reduceIte]
  exact ⟨_,_,_,rfl,by simp,rfl,rfl,rfl,_,_,_,rfl⟩
 rintro e T H ⟨rfl,h8,h12,x,y,J',rfl⟩
 have hEl : ((L.map fun s => makeM s t).map Diff.d).length = L.length:=by rw [List.length_map,List.length_map]
 generalize (L.map fun s => makeM s t) = E at *
 have k0 : List.take L.length (E.map Diff.d) = E.map Diff.d:=List.take_of_length_le (by omega)
 have s0 : subL (E.map Diff.d) 0 L.length = E.map Diff.d:=by unfold subL; rw [List.drop_zero]; exact k0
 simp +decide only [h8,h12,hEl,s0,plA_w,zhn,plA_all,plA_v,zq9,plA_fold,a1',a0',b1',b0',l0',t0',hall0,Nat.zero_add,Pk.EVL,Pk.EVD,↓reduceIte,Pk.TY_Plan]
end
end Go.Proofs.YthlpognahlnaaaaGreat

namespace Go.Proofs.YthlpognahlnaaaaGreat
open Pv Go Pk
set_option maxRecDepth 10000
set_option maxHeartbeats 4000000
section
variable {P : Heap} {p n : Nat} (hP : P.length = p) (hn : p + 12 = n) (hPp : plain P)
include hP hn hPp
theorem zrm {l : List Inc} (hl : goodI l) {q : Grb} (hq : q.pl) {X : Heap} (hX : plain X) {m : Nat} (hm : n + X.length = m) (g : Int) (hg : 0 ≤ g ∧ g < 4) (os : List Int) (L : List State) (hL : L.length ≤ 1000) (hne : os.length = L.length)
  (hasc : ∀ (i : Nat) (a b : Int),os[i]? = some a → os[i + 1]? = some b → a < b) (hst : ∀ s ∈ L,stOk s ∧ isSt s = true) :
  evF C F_q3l [.ptr (p + 2) 0,.d (.i .u8 g),.d (.sl (os.map fun x => .i .i64 x)),.d (.sl (L.map State.d))] (hh P p l q X) = some (.d (.agg (planOf l g os L).cs),hh P p l (q.frz g) X) :=
 zow (S:=[]) hP hn hPp (fun _ => rfl) hl hq hX hm g hg os L hL hne hasc hst
end
end Go.Proofs.YthlpognahlnaaaaGreat

namespace Go.Proofs.YthlpognahlnaaaaGreat
open Pv Go Pk
set_option maxRecDepth 10000
set_option maxHeartbeats 2000000
def stepE (E : List Entry) (p : Int × Opr) : List Entry:=if nextE (lastOf E) ⟨p.1,((E.length + 1 : Nat) : Int),p.2⟩ = true then E ++ [⟨p.1,((E.length + 1 : Nat) : Int),p.2⟩] else E
def runE (L : List (Int × Opr)) : List Entry:=L.foldl stepE []
def S8 (st : Int) (L : List (Int × Opr)) : State:=mkSt st (runE L) ((runE L).length - 6)
def ops8 (l own : List Opr) (at_ : Int) : List (Int × Opr):=l.map (fun o => (1,o)) ++ own.map (fun o => (at_,o))
/-! a state that has but a number -/
def stZ (x : Int) : State:=⟨x,Base.zero,Entry.zero,[]⟩
def Zx (x : Int) : List AV:=State.withV (stZ x) .nilS
def stX (x : Int) (s : State) (z : AV) : Prop:=z = .d (.agg s.cs) ∨ (z = .agg (Zx x) ∧ s = stZ x)
theorem wu32j {x : Int} (h : 0 ≤ x ∧ x < 4294967296) : IntKind.u32.wrap x = x:=by unfold IntKind.wrap; simp [IntKind.signed,IntKind.bits]; omega
def jOf (n : Nat) (f : Int) : Nat:=n - 6 + (f % ((n - (n - 6) + 1 : Nat) : Int)).toNat
/-- The state that is made. -/
def st8 (l own : List Opr) (since f started : Int) : State:=mkSt (started.tmod 60) (runE (ops8 l own (since.tmod 20 + 2))) (jOf (runE (ops8 l own (since.tmod 20 + 2))).length f)
theorem form_0 (w : State) : formD ⟨0,0,[],w⟩ = true:=rfl
theorem form_2 (w : State) : formD ⟨2,0,[],w⟩ = true:=rfl
theorem form_1 (f : Int) (l : List Entry) (w : State) : formD ⟨1,f,l,w⟩ = true:=by
 unfold formD
 simp
end Go.Proofs.YthlpognahlnaaaaGreat
