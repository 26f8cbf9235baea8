/- The document's intervals of a group: all,and the last one (the reference's),amid other objects. -/
import Derived.Test.YthlpognahlnaaaaGreatPkEvd
import Derived.Test.YthlpognahlnaaaaGreatPlaceFst
import Derived.Test.YthlpognahlnaaaaGreatObjB
import Derived.Test.YthlpognahlnaaaaGreatPlaceRef
set_option linter.all false
namespace Go.Proofs.YthlpognahlnaaaaGreat
open Pv Go Pk
set_option maxRecDepth 10000
set_option maxHeartbeats 4000000
theorem zod (m : Mp) (g : Int) : evF C F_q1z [.d (.agg m.cs),.d (.i .u8 g)] [] = some (.d (.sl ((actI m g).map fun x => .i .i64 x)),[]):=by
 rw [← zn6]
 exact zop m g
theorem ivL_out (l : List Inc) (g : Int) (hg : ¬ (0 ≤ g ∧ g < 4)) : ivL l g = []:=by
 unfold ivL ivOf
 rw [if_neg (by omega),if_neg (by omega),if_neg (by omega),if_neg (by omega)]
/-- The intervals of the first i maps. -/
def ivPre (l : List Inc) (g : Int) : Nat → List Itv
 | 0 => []
 | i + 1 => ivL (l.take i) g
/-- The map that a round begins with. -/
def mpPre (l : List Inc) : Nat → Mp
 | 0 => firstM
 | i + 1 => mapAt (l.take i)
theorem ivPre_len {l : List Inc} (hl : goodI l) (g : Int) (hg : 0 ≤ g ∧ g < 4) : ∀ i,(ivPre l g i).length ≤ 60
 | 0 => by simp [ivPre]
 | i + 1 => by
  have:=zlb (zcv hl i) g hg
  have:=(zcv hl i).1
  show (ivL (l.take i) g).length ≤ 60
  omega
theorem zcw (x : Itv) : AV.eptr x.cs = .eptr [.i .u32 x.since,.sl (x.acting.map fun x => .i .i64 x)]:=rfl
section
variable {Q : Heap} {m n0 : Nat} (hQ : Q.length = m) (hn : n0 < m) (hall : ∀ k,Q.all (ltO (m + k)) = true) {v : AV} {l : List Inc} (hv : isRow Q m v l) (hb : Q[n0]? = some (.box (.agg [v]))) (hl : goodI l)
include hQ hn hall hv hb hl
theorem zny (g : Int) (h0 : 0 ≤ g) : evF C F_q23 [.ptr n0 0,.d (.i .u8 g)] Q = some (.d (.sl ((ivL l g).map Itv.d)),Q):=by
 have h59:=hl.1
 have hat : ∀ X,(hr Q X)[n0]? = some (.box (.agg [v])):=fun X => by unfold hr; rw [List.getElem?_append_left (by omega)]; exact hb
 have hq1:=hr_at hQ
 have hq0:=zbm hQ
 have hs1:=zb2 hQ
 have hs0:=zbc hQ
 have hln:=zbb hQ
 have htk:=za9 hQ
 have hpush : ∀ Z,Q ++ Z = hr Q Z:=fun _ => rfl
 have htk0 : ∀ X,List.take m (hr Q X) = Q:=fun X => by unfold hr; exact List.take_left' hQ
 have hall0:=hall 0
 rw [Nat.add_zero] at hall0
 have htQ : List.take m Q = Q:=by rw [← hQ]; exact List.take_length
 rw [zaa (rfl : C F_q23 = some a_q23) _ _ rfl]
 by_cases hg : 0 ≤ g ∧ g < 4
 case neg =>
  have hge : decide (g ≥ 4) = true:=decide_eq_true (by omega)
  rw [ivL_out l g hg]
  simp +decide only [c_q23,hge,hQ,htQ,hall0,List.map_nil,Pk.EVL,Pk.EVD,↓reduceIte,Nat.reduceAdd]
 have hge : decide (g ≥ 4) = false:=decide_eq_false (by omega)
 simp +decide only [c_q23,hge,zhi,hpush,hQ,zao,hq0,hs0,hln,thaws,thaw,Pk.EVL,Pk.EVD,↓reduceIte,Nat.reduceAdd,Pk.TY_Mp]
 simp only [Option.bind_assoc]
 have hall2 : ∀ a es,(hr Q [.box (.d a),.arr es true]).all (ltO (m + 2)) = true:=fun a es => by rw [zaw,hall 2]; rfl
 have n2 : (n0 < m + 2) = True:=eq_true (by omega)
 have n3 : (m < m + 2) = True:=eq_true (by omega)
 have n4 : (m + 1 < m + 2) = True:=eq_true (by omega)
 have hpl:=ivPre_len hl g hg
 refine zaf (zac (fun i T H => lk T 0 = .ptr n0 0 ∧ lk T 1 = .d (.i .u8 g) ∧ lk T 5 = .view (m + 1) (ivPre l g i).length 2 0 (ivPre l g i).length ∧ lk T 6 = .ptr m 0 ∧ lk T 7 = .d (.i .i64 (i : Nat)) ∧ ∃ J,H = hr Q (.box (.d (.agg (mpPre l i).cs)) :: .arr ((ivPre l g i).map Itv.d) true :: J))
  (fun e T H => e = .exit 0 ∧ lk T 5 = .view (m + 1) (ivL l g).length 2 0 (ivL l g).length ∧ ∃ M : Mp,H = hr Q [.box (.d (.agg M.cs)),.arr ((ivL l g).map Itv.d) true]) (l.length + 1) ?_ ?_ (l.length + 1) 0 _ _ (by omega) ⟨rfl,rfl,rfl,rfl,rfl,[],rfl⟩) ?_
 ·rintro i T H hi ⟨h0, h1, h5, h6, h7, J, rfl⟩
  have hEl : ((ivPre l g i).map Itv.d).length = (ivPre l g i).length:=List.length_map _
  have hle:=hpl i
  have hd : decide ((i : Int) ≤ ((l.length : Nat) : Int)) = true:=by simp; omega
  have hw : IntKind.i64.wrap ((i : Int) + 1) = ((i + 1 : Nat) : Int):=wi64 (by omega)
  have hlim : ((ivPre l g i).length + 1 ≤ LIM) = True:=eq_true (by unfold LIM; omega)
  have z0 : ∀ e : Int,(upd Itv.zeroA 0 [.d (.i .u32 e)]).length = 2:=fun _ => rfl
  have z1 : ∀ (e : Int) (x : DV),upd (upd Itv.zeroA 0 [.d (.i .u32 e)]) 1 [.d x] = [.d (.i .u32 e),.d x]:=fun _ _ => rfl
  cases i with
  | zero =>
   have hA:=zod firstM g
   have hiv : ivPre l g (0 + 1) = [⟨firstM.epoch,actI firstM g⟩]:=by show ivL (l.take 0) g = _; rw [List.take_zero,zpo g hg]; rfl
   have hmp : mpPre l (0 + 1) = firstM:=rfl
   have hmp0 : mpPre l 0 = firstM:=rfl
   have hi0 : ivPre l g 0 = []:=rfl
   have g0 : decide (((0 : Nat) : Int) > 0) = false:=by decide
   have g1 : (((0 : Nat) : Int) == 0) = true:=by decide
   rw [hiv,hmp]
   rw [hmp0]
   rw [hi0] at h5 hEl hlim ⊢
   have hfold : (DV.agg [.i .u32 firstM.epoch,.sl ((actI firstM g).map fun x => .i .i64 x)]) = Itv.d ⟨firstM.epoch,actI firstM g⟩:=rfl
   generalize firstM = M at *
   rcases hv with ⟨rfl,rfl⟩ | ⟨o,rfl,ho,hQo⟩
   ·simp +decide only [zeb, zd7, h0, h1, h5, h6, h7, hat, hA, hw, g1, n2, n3, n4, hall2, z0, z1, zao, hq1, hq0, hs1, hln, htk, elems, List.map_nil, List.length_nil, Pk.EVL, Pk.EVD, ↓reduceIte, Nat.reduceAdd, Pk.TY_Mp, Pk.TY_Itv]
    exact ⟨_,_,_,rfl,.inl ⟨rfl,rfl,rfl,rfl,rfl,rfl,_,rfl⟩⟩
   ·have hato : ∀ X, (hr Q X)[o]? = some (.arr (l.map Inc.d) true) := fun X => by unfold hr; rw [List.getElem?_append_left (by omega)]; exact hQo
    simp +decide only [zeb,zd7,h0,h1,h5,h6,h7,hat,hA,hd,hw,g1,n2,n3,n4,hall2,z0,z1,zao,hq1,hq0,hs1,hln,htk,elems,List.map_nil,List.length_nil,Pk.EVL,Pk.EVD,↓reduceIte,Nat.reduceAdd,Pk.TY_Mp,Pk.TY_Itv]
    exact ⟨_,_,_,rfl,.inl ⟨rfl,rfl,rfl,rfl,rfl,rfl,_,rfl⟩⟩
  | succ j =>
   have hj : j < l.length:=by omega
   rcases hv with ⟨rfl,rfl⟩ | ⟨o,rfl,ho,hQo⟩
   ·simp at hj
   have hato : ∀ X,(hr Q X)[o]? = some (.arr (l.map Inc.d) true):=fun X => by unfold hr; rw [List.getElem?_append_left (by omega)]; exact hQo
   obtain ⟨x,hx⟩ : ∃ x,l[j]? = some x:=⟨l[j]'hj,List.getElem?_eq_getElem _⟩
   have hxd:=zae Inc.d hx
   have hgood:=zcv hl (j + 1)
   rw [zag hx] at hgood
   have hxo : x.ok:=zrx (hl.2 x (List.mem_of_getElem? hx))
   have hap:=ze8 (mapAt (l.take j)) x hxo
   rw [zjy,zi3 hgood] at hap
   have hA:=zod (mapAt (l.take j ++ [x])) g
   have hme:=za8 (l.take j ++ [x])
   have htl : (l.take j).length = j:=by rw [List.length_take]; omega
   have hnx : ivPre l g (j + 1 + 1) = ivAdd (ivL (l.take j) g) ((mapAt (l.take j ++ [x])).epoch) (actI (mapAt (l.take j ++ [x])) g):=by
    show ivL (l.take (j + 1)) g = _
    rw [zag hx,zrz _ _ _ hg,hme,List.length_append,htl]
    congr 1
   have hmx : mpPre l (j + 1 + 1) = mapAt (l.take j ++ [x]):=by show mapAt (l.take (j + 1)) = _; rw [zag hx]
   have hm0 : mpPre l (j + 1) = mapAt (l.take j):=rfl
   have hi0 : ivPre l g (j + 1) = ivL (l.take j) g:=rfl
   have hne:=zr2 (l.take j) g hg
   have hlast:=zmy hne
   have hw3 : (lastI (ivL (l.take j) g)).acting.length ≤ 3:=zdl (zcv hl j) g
   rw [hnx,hmx]
   rw [hm0]
   rw [hi0] at h5 hEl hlim hle ⊢
   have hgl : (ivL (l.take j) g).getLast? = some (lastI (ivL (l.take j) g)):=by rw [List.getLast?_eq_getElem?]; exact hlast
   have hla:=zae Itv.d hlast
   generalize lastI (ivL (l.take j) g) = w at *
   generalize ivL (l.take j) g = IV at *
   have hSM:=same3_at w.acting (actI (mapAt (l.take j ++ [x])) g) (by omega)
   have hb0:=mapAt (l.take j)
   have hall2':=hall2
   generalize mapAt (l.take j ++ [x]) = M2 at *
   generalize mapAt (l.take j) = M1 at *
   have g0 : decide (((j + 1 : Nat) : Int) > 0) = true:=decide_eq_true (by omega)
   have g1 : (((j + 1 : Nat) : Int) == 0) = false:=by rw [beq_eq_false_iff_ne]; omega
   have wj : IntKind.i64.wrap (((j + 1 : Nat) : Int) - 1) = (j : Int):=by rw [show ((j + 1 : Nat) : Int) - 1 = (j : Int) by omega]; exact wi64 (by omega)
   have wl : IntKind.i64.wrap (((IV.length : Nat) : Int) - 1) = ((IV.length - 1 : Nat) : Int):=by rw [show ((IV.length : Nat) : Int) - 1 = ((IV.length - 1 : Nat) : Int) by omega]; exact wi64 (by omega)
   have b0 : (0 ≤ (j : Int)) = True:=by simp
   have b1 : ((j : Int) < ((l.length : Nat) : Int)) = True:=eq_true (by omega)
   have b2 : (0 ≤ ((IV.length - 1 : Nat) : Int)) = True:=eq_true (Int.natCast_nonneg _)
   have b3 : (((IV.length - 1 : Nat) : Int) < ((IV.length : Nat) : Int)) = True:=eq_true (by omega)
   have hLl : (l.map Inc.d).length = l.length:=List.length_map _
   by_cases c : w.acting = actI M2 g
   ·have hadd : ivAdd IV M2.epoch (actI M2 g) = IV := by unfold ivAdd; rw [hgl, if_pos (by rw [← c]; rfl)]
    rw [hadd]
    rw [decide_eq_true c] at hSM
    simp +decide only [zeb,zd7,h0,h1,h5,h6,h7,hat,hato,hxd,hap,hA,hSM,hla,hd,hw,g0,g1,wj,wl,b0,b1,b2,b3,hLl,hEl,n2,n3,n4,hall2,hq1,hq0,hs0,hln,htk,Int.toNat_natCast,Nat.zero_add,Pk.EVL,Pk.EVD,↓reduceIte,Nat.reduceAdd,Pk.TY_Mp,Pk.TY_Inc,Pk.TY_Itv]
    exact ⟨_,_,_,rfl,.inl ⟨rfl,rfl,rfl,rfl,rfl,rfl,_,rfl⟩⟩
   ·have hadd : ivAdd IV M2.epoch (actI M2 g) = IV ++ [⟨M2.epoch, actI M2 g⟩] := by unfold ivAdd; rw [hgl, if_neg (by intro h; exact c (Option.some.inj h))]
    rw [hadd]
    rw [decide_eq_false c] at hSM
    simp +decide only [zeb,zd7,h0,h1,h5,h6,h7,hat,hato,hxd,hap,hA,hSM,hla,hd,hw,g0,g1,wj,wl,b0,b1,b2,b3,hLl,hEl,hlim,n2,n3,n4,hall2,z0,z1,zao,hq1,hq0,hs1,hs0,hln,htk,elems,Int.toNat_natCast,Nat.zero_add,Pk.EVL,Pk.EVD,↓reduceIte,Nat.reduceAdd,Pk.TY_Mp,Pk.TY_Inc,Pk.TY_Itv]
    have e1 : (IV ++ [(⟨M2.epoch,actI M2 g⟩ : Itv)]).length = IV.length + 1:=by rw [List.length_append]; rfl
    rw [e1,List.map_append]
    exact ⟨_,_,_,rfl,.inl ⟨rfl,rfl,rfl,rfl,rfl,rfl,_,rfl⟩⟩
 ·rintro T H ⟨h0, h1, h5, h6, h7, J, rfl⟩
  have hiv : ivPre l g (l.length + 1) = ivL l g:=by show ivL (l.take l.length) g = _; rw [List.take_length]
  rw [hiv] at h5 ⊢
  have hd : decide (((l.length + 1 : Nat) : Int) ≤ ((l.length : Nat) : Int)) = false:=by simp; omega
  rcases hv with ⟨rfl,rfl⟩ | ⟨o,rfl,ho,hQo⟩
  ·have hd : decide (((0 + 1 : Nat) : Int) ≤ ((0 : Nat) : Int)) = false := by decide
   simp +decide only [zeb,zd7,h0,h1,h5,h6,h7,hat,n2,n3,n4,hall2,hln,htk,List.length_nil,Pk.EVL,Pk.EVD,↓reduceIte,Nat.reduceAdd]
   exact ⟨_,_,_,rfl,by simp,rfl,rfl,_,rfl⟩
  ·simp +decide only [zeb, zd7, h0, h1, h5, h6, h7, hat, hd, n2, n3, n4, hall2, hln, htk, Pk.EVL, Pk.EVD, ↓reduceIte, Nat.reduceAdd]
   exact ⟨_,_,_,rfl,by simp,rfl,rfl,_,rfl⟩
 rintro e T H ⟨rfl,h5,M,rfl⟩
 have hEl : ((ivL l g).map Itv.d).length = (ivL l g).length:=List.length_map _
 have k0 : List.take (ivL l g).length ((ivL l g).map Itv.d) = (ivL l g).map Itv.d:=List.take_of_length_le (by omega)
 have s0 : subL ((ivL l g).map Itv.d) 0 (ivL l g).length = (ivL l g).map Itv.d:=by unfold subL; rw [List.drop_zero]; exact k0
 simp +decide only [h5,hEl,s0,hq1,hs1,hln,htk0,hall0,Nat.zero_add,Pk.EVL,Pk.EVD,↓reduceIte,Nat.reduceAdd]
theorem refnow_at (g : Int) (h0 : 0 ≤ g) : evF C F_q26 [.ptr n0 0,.d (.i .u8 g)] Q = some (.d (.agg (lastI (ivL l g)).cs),Q):=by
 have hat : ∀ X,(hr Q X)[n0]? = some (.box (.agg [v])):=fun X => by unfold hr; rw [List.getElem?_append_left (by omega)]; exact hb
 have hq1:=hr_at hQ
 have hq0:=zbm hQ
 have hs1:=zb2 hQ
 have hs0:=zbc hQ
 have hln:=zbb hQ
 have hpush : ∀ Z,Q ++ Z = hr Q Z:=fun _ => rfl
 have htk0 : ∀ X,List.take m (hr Q X) = Q:=fun X => by unfold hr; exact List.take_left' hQ
 have hall0:=hall 0
 rw [Nat.add_zero] at hall0
 have hrow : isRow (hr Q [.box (.agg Itv.zeroA)]) (m + 1) v l:=by
  rcases hv with h | ⟨o,h1,h2,h3⟩
  ·exact .inl h
  ·exact .inr ⟨o,h1,by omega,by unfold hr; rw [List.getElem?_append_left (by omega)]; exact h3⟩
 have IV:=zny (Q:=hr Q [.box (.agg Itv.zeroA)]) (m:=m + 1) (by rw [hln]; rfl) (by omega) (fun k => by rw [zaw,Nat.add_assoc,hall]; rfl) hrow (hat _) hl g h0
 have hEl : ((ivL l g).map Itv.d).length = (ivL l g).length:=List.length_map _
 rw [zaa (rfl : C F_q26 = some a_q26) _ _ rfl]
 rcases Bool.eq_false_or_eq_true ((((ivL l g).length : Nat) : Int) == 0) with c | c
 ·have hz : ivL l g = [] := List.length_eq_zero_iff.1 (by simpa using c)
  have hli : lastI (ivL l g) = Itv.zero:=by rw [hz]; rfl
  rw [hli]
  rw [hz] at IV
  have v0 : (((0 : Nat) : Int) == 0) = true:=rfl
  simp +decide only [c_q26,IV,v0,List.map_nil,List.length_nil,hpush,hQ,hq0,hs0,hln,htk0,hall0,Pk.EVL,Pk.EVD,↓reduceIte,Nat.reduceAdd,Pk.TY_Itv]
 ·have h0l : 0 < (ivL l g).length := by
   rcases Nat.eq_zero_or_pos (ivL l g).length with h | h
   ·rw [h] at c; simp at c
   ·exact h
  have hla:=zae Itv.d (zmy h0l)
  have hlen : (ivL l g).length ≤ 1000:=by
   by_cases hg : 0 ≤ g ∧ g < 4
   ·have:=zlb hl g hg; have:=hl.1; omega
   ·rw [ivL_out l g hg] at h0l; simp at h0l
  have wl : IntKind.i64.wrap ((((ivL l g).length : Nat) : Int) - 1) = (((ivL l g).length - 1 : Nat) : Int):=by rw [show (((ivL l g).length : Nat) : Int) - 1 = (((ivL l g).length - 1 : Nat) : Int) by omega]; exact wi64 (by omega)
  have b2 : (0 ≤ (((ivL l g).length - 1 : Nat) : Int)) = True:=eq_true (Int.natCast_nonneg _)
  have b3 : ((((ivL l g).length - 1 : Nat) : Int) < (((ivL l g).length : Nat) : Int)) = True:=eq_true (by omega)
  generalize lastI (ivL l g) = w at *
  generalize (ivL l g).length = k at *
  simp +decide only [c_q26,IV,c,hEl,hla,wl,b2,hpush,hQ,hq0,hs0,hln,htk0,hall0,Int.toNat_natCast,Pk.EVL,Pk.EVD,↓reduceIte,Nat.reduceAdd,Pk.TY_Itv]
end
end Go.Proofs.YthlpognahlnaaaaGreat
