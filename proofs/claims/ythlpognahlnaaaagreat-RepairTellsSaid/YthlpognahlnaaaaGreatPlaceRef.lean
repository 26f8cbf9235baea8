/- The reference's maps,picks,acting daemons: the same as the program's. -/
import Derived.Test.YthlpognahlnaaaaGreatPkEvd
import Derived.Test.YthlpognahlnaaaaGreatPlaceFst
import Derived.Test.YthlpognahlnaaaaGreatHrB
set_option linter.all false
namespace Go.Proofs.YthlpognahlnaaaaGreat
open Pv Go Pk
set_option maxRecDepth 10000
set_option maxHeartbeats 2000000
theorem zjx (m : Pk.Mp) (i : Nat) (h : i < 5) : hostOf (osL m) i = (m.osds.get i).host:=match i,h with
 | 0,_ => rfl | 1,_ => rfl | 2,_ => rfl | 3,_ => rfl | 4,_ => rfl | _ + 5,h => absurd h (by omega)
theorem upOf_osL (m : Pk.Mp) (i : Nat) (h : i < 5) : upOf (osL m) i = (m.osds.get i).up:=match i,h with
 | 0,_ => rfl | 1,_ => rfl | 2,_ => rfl | 3,_ => rfl | 4,_ => rfl | _ + 5,h => absurd h (by omega)
def fw (m : Pk.Mp) (g : Int) (t : Nat) (i : Nat) : Int:=SV (HV g i t) (m.osds.get i).weight
def rb (m : Pk.Mp) (g : Int) (t : Nat) : Nat → Int × Int
 | 0 => (-1,0)
 | i + 1 => if (m.osds.get i).weight < 1 then rb m g t i else if (rb m g t i).1 < 0 ∨ fw m g t i > (rb m g t i).2 then ((i : Int),fw m g t i) else rb m g t i
theorem zo5 (m : Pk.Mp) (g : Int) (t : Nat) : ∀ i,i ≤ 5 → (inN (osL m) i = [] ∧ rb m g t i = (-1,0)) ∨ (∃ b : Nat,rb m g t i = ((b : Int),strawOf (osL m) g t b) ∧ isDrawn (inN (osL m) i) (strawOf (osL m) g t) b)
 | 0,_ => .inl ⟨rfl,rfl⟩
 | i + 1, hi => by
  have hs : strawOf (osL m) g t i = fw m g t i:=by unfold strawOf fw; rw [wOf_osL m i (by omega)]
  rw [zmw,wOf_osL m i (by omega)]
  simp only [rb]
  by_cases c : (m.osds.get i).weight < 1
  ·rw [if_pos c, if_neg (by omega), List.append_nil]
   exact zo5 m g t i (by omega)
  ·rw [if_neg c, if_pos (by omega)]
   rcases zo5 m g t i (by omega) with ⟨h1,h2⟩ | ⟨b,h1,h2⟩
   ·rw [h1, h2, if_pos (.inl (by omega))]
    refine .inr ⟨i,by rw [hs],?_⟩
    refine ⟨by simp,fun q hq => ?_,fun q hq hl => ?_⟩
    ·simp only [List.nil_append,List.mem_singleton] at hq; rw [hq]; exact Int.le_refl _
    ·simp only [List.nil_append,List.mem_singleton] at hq; omega
   ·rw [h1]
    have hlt : ∀ q ∈ inN (osL m) i,q < i:=fun q hq => ((mem_inN _ _ _).1 hq).1
    obtain ⟨d1,d2,d3⟩:=h2
    by_cases c2 : fw m g t i > strawOf (osL m) g t b
    ·rw [if_pos (.inr c2)]
     refine .inr ⟨i,by rw [hs],by simp,fun q hq => ?_,fun q hq hl => ?_⟩
     ·rcases List.mem_append.1 hq with hq | hq
      ·have:=d2 q hq; rw [hs]; omega
      ·simp only [List.mem_singleton] at hq; rw [hq]; exact Int.le_refl _
     ·rcases List.mem_append.1 hq with hq | hq
      ·have:=d2 q hq; rw [hs]; omega
      ·simp only [List.mem_singleton] at hq; omega
    ·rw [if_neg (by omega)]
     refine .inr ⟨b,rfl,List.mem_append_left _ d1,fun q hq => ?_,fun q hq hl => ?_⟩
     ·rcases List.mem_append.1 hq with hq | hq
      ·exact d2 q hq
      ·simp only [List.mem_singleton] at hq; rw [hq,hs]; omega
     ·rcases List.mem_append.1 hq with hq | hq
      ·exact d3 q hq hl
      ·simp only [List.mem_singleton] at hq; have:=hlt b d1; omega
theorem rb_all (m : Pk.Mp) (g : Int) (r t : Nat) : (inN (osL m) 5 = [] ∧ (rb m g (r + t * 3) 5).1 = -1) ∨ (inN (osL m) 5 ≠ [] ∧ (rb m g (r + t * 3) 5).1 = (drawOf (osL m) g r t : Nat)):=by
 rcases zo5 m g (r + t * 3) 5 (by omega) with ⟨h1,h2⟩ | ⟨b,h1,h2⟩
 ·exact .inl ⟨h1,by rw [h2]⟩
 ·have hl : 0 < (inN (osL m) 5).length := List.length_pos_of_mem h2.1
  refine .inr ⟨List.length_pos_iff.1 hl,?_⟩
  rw [h1]
  have:=zi0 h2 (zlg _ (zi6 _ 5) hl _)
  unfold drawOf
  rw [← this]
theorem zm3 (m : Pk.Mp) (g : Int) (r t : Nat) (hr : r < 3) (ht : t < 20) (H : Heap) (n : Nat) (hn : n = H.length + 1) (T : Tm)
  (h1 : lk T 1 = .d (.i .u8 g)) (h2 : lk T 2 = .ptr 0 0) (h6 : lk T 6 = .d (.i .i64 (r : Nat))) (h7 : lk T 7 = .d (.i .i64 (t : Nat))) (h8 : lk T 8 = .d (.i .i64 (-1))) (h9 : lk T 9 = .d (.i .i64 0)) (h10 : lk T 10 = .d (.i .i64 0)) :
  ∃ e T' H',evL C zd2 zd4 n T (.box (.d (.agg m.cs)) :: H) = some (e,T',H') ∧ e = .exit 4 ∧ H' = .box (.d (.agg m.cs)) :: H ∧ lk T' 1 = lk T 1 ∧ lk T' 2 = lk T 2 ∧ lk T' 5 = lk T 5 ∧ lk T' 6 = lk T 6 ∧ lk T' 7 = lk T 7 ∧ lk T' 8 = .d (.i .i64 (rb m g (r + t * 3) 5).1):=by
 subst hn
 have tr : ∀ vs,trim (H.length + 1) vs (.box (.d (.agg m.cs)) :: H) = .box (.d (.agg m.cs)) :: H:=fun vs => zr6 vs (.box (.d (.agg m.cs)) :: H)
 refine zac (fun i T' H' => lk T' 1 = .d (.i .u8 g) ∧ lk T' 2 = .ptr 0 0 ∧ lk T' 5 = lk T 5 ∧ lk T' 6 = .d (.i .i64 (r : Nat)) ∧ lk T' 7 = .d (.i .i64 (t : Nat)) ∧ lk T' 8 = .d (.i .i64 (rb m g (r + t * 3) i).1) ∧ lk T' 9 = .d (.i .i64 (rb m g (r + t * 3) i).2) ∧ lk T' 10 = .d (.i .i64 (i : Nat)) ∧ H' = .box (.d (.agg m.cs)) :: H)
  (fun e T' H' => e = .exit 4 ∧ H' = .box (.d (.agg m.cs)) :: H ∧ lk T' 1 = lk T 1 ∧ lk T' 2 = lk T 2 ∧ lk T' 5 = lk T 5 ∧ lk T' 6 = lk T 6 ∧ lk T' 7 = lk T 7 ∧ lk T' 8 = .d (.i .i64 (rb m g (r + t * 3) 5).1)) 5 ?_ ?_ 5 0 _ _ (by omega) ⟨h1,h2,rfl,h6,h7,h8,h9,h10,rfl⟩
 ·rintro i T1 H1 hi ⟨g1, g2, g5, g6, g7, g8, g9, g10, rfl⟩
  rw [tr]
  have hd : decide ((i : Int) < 5) = true:=by simp; omega
  have hw : IntKind.i64.wrap ((i : Int) + 1) = ((i + 1 : Nat) : Int):=wi64 (by omega)
  have w3 : IntKind.i64.wrap ((t : Int) * 3) = ((t * 3 : Nat) : Int):=by rw [show (t : Int) * 3 = ((t * 3 : Nat) : Int) by omega]; exact wi64 (by omega)
  have w4 : IntKind.i64.wrap ((r : Int) + ((t * 3 : Nat) : Int)) = ((r + t * 3 : Nat) : Int):=wi64 (by omega)
  have b3 : ((i : Int) < ((5 : Nat) : Int)) = True:=by simp; omega
  have b3' : (0 ≤ (i : Int)) = True:=by simp
  have hdr:=zsr g (i : Nat) ((r + t * 3 : Nat) : Int) (m.osds.get i).weight
  have hfw : SV (HV g (i : Nat) ((r + t * 3 : Nat) : Int)) (m.osds.get i).weight = fw m g (r + t * 3) i:=rfl
  rw [hfw] at hdr
  have hstep : rb m g (r + t * 3) (i + 1) = if (m.osds.get i).weight < 1 then rb m g (r + t * 3) i else if (rb m g (r + t * 3) i).1 < 0 ∨ fw m g (r + t * 3) i > (rb m g (r + t * 3) i).2 then ((i : Int),fw m g (r + t * 3) i) else rb m g (r + t * 3) i:=rfl
  generalize rb m g (r + t * 3) i = X at *
  generalize rb m g (r + t * 3) (i + 1) = Y at *
  generalize fw m g (r + t * 3) i = fx at *
  rcases Bool.eq_false_or_eq_true (decide ((m.osds.get i).weight < 1)) with c | c
  ·rw [if_pos (of_decide_eq_true c)] at hstep
   subst hstep
   simp +decide only [zd2,zd4,g1,g2,g5,g6,g7,g8,g9,g10,hd,hw,b3,b3',hi,c,Pk.EVL,Pk.EVD,↓reduceIte,Pk.TY_Mp]
   refine ⟨_,_,_,rfl,?_⟩
   exact .inl ⟨rfl,rfl,rfl,rfl,rfl,rfl,rfl,rfl,rfl,rfl⟩
  ·rw [if_neg (of_decide_eq_false c)] at hstep
   rcases Bool.eq_false_or_eq_true (decide (X.1 < 0)) with c1 | c1
   ·rw [if_pos (.inl (of_decide_eq_true c1))] at hstep
    subst hstep
    simp +decide only [zd2,zd4,g1,g2,g5,g6,g7,g8,g9,g10,hd,hw,w3,w4,b3,b3',hi,c,c1,hdr,Pk.EVL,Pk.EVD,↓reduceIte,Pk.TY_Mp]
    refine ⟨_,_,_,rfl,?_⟩
    exact .inl ⟨rfl,rfl,rfl,rfl,rfl,rfl,rfl,rfl,rfl,rfl⟩
   ·rcases Bool.eq_false_or_eq_true (decide (fx > X.2)) with c2 | c2
    ·rw [if_pos (.inr (of_decide_eq_true c2))] at hstep
     subst hstep
     simp +decide only [zd2,zd4,g1,g2,g5,g6,g7,g8,g9,g10,hd,hw,w3,w4,b3,b3',hi,c,c1,c2,hdr,Pk.EVL,Pk.EVD,↓reduceIte,Pk.TY_Mp]
     refine ⟨_,_,_,rfl,?_⟩
     exact .inl ⟨rfl,rfl,rfl,rfl,rfl,rfl,rfl,rfl,rfl,rfl⟩
    ·rw [if_neg (fun h => h.elim (of_decide_eq_false c1) (of_decide_eq_false c2))] at hstep
     subst hstep
     simp +decide only [zd2,zd4,g1,g2,g5,g6,g7,g8,g9,g10,hd,hw,w3,w4,b3,b3',hi,c,c1,c2,hdr,Pk.EVL,Pk.EVD,↓reduceIte,Pk.TY_Mp]
     refine ⟨_,_,_,rfl,?_⟩
     exact .inl ⟨rfl,rfl,rfl,rfl,rfl,rfl,rfl,rfl,rfl,rfl⟩
 ·rintro T1 H1 ⟨g1, g2, g5, g6, g7, g8, g9, g10, rfl⟩
  rw [tr]
  generalize rb m g (r + t * 3) 5 = X at *
  simp +decide only [zd2,zd4,g1,g2,g5,g6,g7,g8,g9,g10,Pk.EVL,Pk.EVD,↓reduceIte]
  refine ⟨_,_,_,rfl,?_⟩
  exact ⟨by simp,rfl,rfl,h1.symm,h2.symm,rfl,h6.symm,h7.symm,rfl⟩

def okP (os : List Osd) (ok0 : Bool) (b : Nat) (P : List Nat) (k : Nat) : Bool:=ok0 && (P.take k).all fun p => !clash os b p
theorem okP_false {os : List Osd} {ok0 : Bool} {b : Nat} {P : List Nat} {k : Nat} (h : okP os ok0 b P k = false) : okP os ok0 b P P.length = false:=by
 unfold okP at h ⊢
 rw [Bool.and_eq_false_iff] at h ⊢
 rcases h with h | h
 ·exact .inl h
 ·right
  rw [List.take_length]
  rw [List.all_eq_false] at h ⊢
  obtain ⟨x,hx,h⟩:=h
  exact ⟨x,List.mem_of_mem_take hx,h⟩
theorem zjn (m : Pk.Mp) (P : List Nat) (hl : P.length ≤ 3) (hP : ∀ p ∈ P,p < 5) (ok0 : Bool) (b : Nat) (H : Heap) (n : Nat) (hn : n = H.length + 2) (T : Tm)
  (h2 : lk T 2 = .ptr 0 0) (h5 : lk T 5 = .view 1 P.length 1 0 P.length) (h8 : ok0 = true → lk T 8 = .d (.i .i64 (b : Nat)) ∧ b < 5) (h12 : lk T 12 = .d (.b ok0)) (h13 : lk T 13 = .d (.i .i64 0)) :
  ∃ e T' H',evL C zdd zdf n T (.box (.d (.agg m.cs)) :: .arr (nats P) true :: H) = some (e,T',H') ∧ e = .exit 6 ∧ H' = .box (.d (.agg m.cs)) :: .arr (nats P) true :: H ∧ lk T' 1 = lk T 1 ∧ lk T' 2 = lk T 2 ∧ lk T' 5 = lk T 5 ∧ lk T' 6 = lk T 6 ∧ lk T' 7 = lk T 7 ∧ lk T' 8 = lk T 8 ∧ lk T' 12 = .d (.b (okP (osL m) ok0 b P P.length)):=by
 subst hn
 have tr : ∀ vs,trim (H.length + 2) vs (.box (.d (.agg m.cs)) :: .arr (nats P) true :: H) = .box (.d (.agg m.cs)) :: .arr (nats P) true :: H:=fun vs => zr6 vs (.box (.d (.agg m.cs)) :: .arr (nats P) true :: H)
 have hnb:=zal P
 have h0 : okP (osL m) ok0 b P 0 = ok0:=by simp [okP]
 refine zac (fun k T' H' => lk T' 1 = lk T 1 ∧ lk T' 2 = .ptr 0 0 ∧ lk T' 5 = .view 1 P.length 1 0 P.length ∧ lk T' 6 = lk T 6 ∧ lk T' 7 = lk T 7 ∧ lk T' 8 = lk T 8 ∧ lk T' 12 = .d (.b (okP (osL m) ok0 b P k)) ∧ lk T' 13 = .d (.i .i64 (k : Nat)) ∧ H' = .box (.d (.agg m.cs)) :: .arr (nats P) true :: H)
  (fun e T' H' => e = .exit 6 ∧ H' = .box (.d (.agg m.cs)) :: .arr (nats P) true :: H ∧ lk T' 1 = lk T 1 ∧ lk T' 2 = lk T 2 ∧ lk T' 5 = lk T 5 ∧ lk T' 6 = lk T 6 ∧ lk T' 7 = lk T 7 ∧ lk T' 8 = lk T 8 ∧ lk T' 12 = .d (.b (okP (osL m) ok0 b P P.length))) P.length ?_ ?_ P.length 0 _ _ (by omega) ⟨rfl,h2,h5,rfl,rfl,rfl,by rw [h0]; exact h12,h13,rfl⟩
 ·rintro k T1 H1 hk ⟨g1, g2, g5, g6, g7, g8, g12, g13, rfl⟩
  rw [tr]
  rcases Bool.eq_false_or_eq_true (okP (osL m) ok0 b P k) with c | c
  ·have hk0 : ok0 = true := by unfold okP at c; exact (Bool.and_eq_true_iff.1 c).1
   obtain ⟨h8,hb⟩:=h8 hk0
   obtain ⟨p,hp⟩ : ∃ p,P[k]? = some p:=⟨P[k]'hk,List.getElem?_eq_getElem _⟩
   have hx:=zbs P k p hp
   rw [Int.toNat_natCast] at hx
   have hp5:=hP p (List.mem_of_getElem? hp)
   have hst : okP (osL m) ok0 b P (k + 1) = !clash (osL m) b p:=by
    unfold okP at c ⊢
    rw [List.take_add_one,hp,List.all_append]
    rw [Bool.and_eq_true_iff] at c
    rw [c.1,c.2]
    simp
   rw [hst]
   unfold clash
   rw [zjx m p hp5,zjx m b hb]
   rw [c] at g12
   rw [h8] at g8
   have hd : decide ((k : Int) < ((P.length : Nat) : Int)) = true:=by simp; omega
   have hw : IntKind.i64.wrap ((k : Int) + 1) = ((k + 1 : Nat) : Int):=wi64 (by omega)
   have b1 : ((k : Int) < ((P.length : Nat) : Int)) = True:=by simp; omega
   have b3 : ((b : Int) < ((5 : Nat) : Int)) = True:=by simp; omega
   have b4 : ((p : Int) < ((5 : Nat) : Int)) = True:=by simp; omega
   have b0 : ∀ j : Nat,(0 ≤ (j : Int)) = True:=by simp
   have hne : ((p : Int) != (b : Int)) = !((p : Int) == (b : Int)):=rfl
   have hnh : ((m.osds.get p).host != (m.osds.get b).host) = !((m.osds.get p).host == (m.osds.get b).host):=rfl
   rcases Bool.eq_false_or_eq_true ((p : Int) == (b : Int)) with c1 | c1
   ·rw [c1] at hne ⊢
    simp +decide only [zdd,zdf,g1,g2,g5,g6,g7,g8,g12,g13,hw,b0,b1,hx,hnb,c1,Bool.not_true,Nat.zero_add,Pk.EVL,Pk.EVD,↓reduceIte]
    refine ⟨_,_,_,rfl,?_⟩
    exact .inl ⟨rfl,rfl,rfl,rfl,rfl,rfl,h8.symm,rfl,rfl,rfl⟩
   ·rw [c1] at hne ⊢
    rcases Bool.eq_false_or_eq_true ((m.osds.get p).host == (m.osds.get b).host) with c2 | c2
    ·rw [c2] at hnh ⊢
     simp +decide only [zdd,zdf,g1,g2,g5,g6,g7,g8,g12,g13,hw,b0,b1,b3,b4,hx,hnb,c1,c2,hp5,hb,Bool.not_true,Bool.not_false,Nat.zero_add,Pk.EVL,Pk.EVD,↓reduceIte,Pk.TY_Mp]
     refine ⟨_,_,_,rfl,?_⟩
     exact .inl ⟨rfl,rfl,rfl,rfl,rfl,rfl,h8.symm,rfl,rfl,rfl⟩
    ·rw [c2] at hnh ⊢
     simp +decide only [zdd,zdf,g1,g2,g5,g6,g7,g8,g12,g13,hw,b0,b1,b3,b4,hx,hnb,c1,c2,hp5,hb,Bool.not_false,Nat.zero_add,Pk.EVL,Pk.EVD,↓reduceIte,Pk.TY_Mp]
     refine ⟨_,_,_,rfl,?_⟩
     exact .inl ⟨rfl,rfl,rfl,rfl,rfl,rfl,h8.symm,rfl,rfl,rfl⟩
  ·rw [okP_false c]
   rw [c] at g12
   simp +decide only [zdd,zdf,g1,g2,g5,g6,g7,g8,g12,g13,Pk.EVL,Pk.EVD,↓reduceIte]
   refine ⟨_,_,_,rfl,?_⟩
   exact .inr ⟨by simp,rfl,rfl,rfl,h2.symm,h5.symm,rfl,rfl,rfl,rfl⟩
 ·rintro T1 H1 ⟨g1, g2, g5, g6, g7, g8, g12, g13, rfl⟩
  rw [tr]
  have hd : decide (((P.length : Nat) : Int) < ((P.length : Nat) : Int)) = false:=by simp
  rcases Bool.eq_false_or_eq_true (okP (osL m) ok0 b P P.length) with c | c
  ·rw [c] at g12 ⊢
   simp +decide only [zdd,zdf,g1,g2,g5,g6,g7,g8,g12,g13,Pk.EVL,Pk.EVD,↓reduceIte]
   refine ⟨_,_,_,rfl,?_⟩
   exact ⟨by simp,rfl,rfl,rfl,h2.symm,h5.symm,rfl,rfl,rfl,rfl⟩
  ·rw [c] at g12 ⊢
   simp +decide only [zdd,zdf,g1,g2,g5,g6,g7,g8,g12,g13,Pk.EVL,Pk.EVD,↓reduceIte]
   refine ⟨_,_,_,rfl,?_⟩
   exact ⟨by simp,rfl,rfl,rfl,h2.symm,h5.symm,rfl,rfl,rfl,rfl⟩

/-- What a round of the reference's outer loop makes of those picked so far. -/
def roundP (os : List Osd) (g : Int) (r : Nat) (P : List Nat) : List Nat:=match inN os 5 with
 | [] => P
 | _ => pickGo os (drawOf os g r) P 20 0
theorem zng (m : Pk.Mp) (g : Int) (r t : Nat) (h : inN (osL m) 5 ≠ []) : drawOf (osL m) g r t < 5 :=
 ((mem_inN _ _ _).1 (zdh _ (List.length_pos_iff.2 h) _)).1
theorem zsi (m : Pk.Mp) (g : Int) (r : Nat) (P : List Nat) (hP : ∀ p ∈ P,p < 5) : ∀ p ∈ roundP (osL m) g r P,p < 5:=by
 unfold roundP
 split
 ·exact hP
 ·rename_i h
  exact zcq _ _ _ (fun t => zng m g r t h) hP 20 0
theorem zte (os : List Osd) (g : Int) (r : Nat) (P : List Nat) : (roundP os g r P).length ≤ P.length + 1:=by
 unfold roundP
 split
 ·omega
 ·exact (zb8 os _ P 20 0).2
theorem zq0 (m : Pk.Mp) (g : Int) (r : Nat) (hr : r < 3) (P : List Nat) (hl : P.length ≤ 2) (hP : ∀ p ∈ P,p < 5) (T : Tm)
  (h1 : lk T 1 = .d (.i .u8 g)) (h2 : lk T 2 = .ptr 0 0) (h5 : lk T 5 = .view 1 P.length 1 0 P.length) (h6 : lk T 6 = .d (.i .i64 (r : Nat))) (h7 : lk T 7 = .d (.i .i64 0)) :
  ∃ e T' H',evL C zl3 zmv 2 T [.box (.d (.agg m.cs)),.arr (nats P) true] = some (e,T',H') ∧ e = .exit 2 ∧ (∃ J,H' = .box (.d (.agg m.cs)) :: .arr (nats (roundP (osL m) g r P)) true :: J) ∧ lk T' 1 = lk T 1 ∧ lk T' 2 = lk T 2 ∧ lk T' 5 = .view 1 (roundP (osL m) g r P).length 1 0 (roundP (osL m) g r P).length ∧ lk T' 6 = lk T 6:=by
 have hnb:=zal P
 have hR : ∀ Q,(inN (osL m) 5 = [] → Q = P) → (inN (osL m) 5 ≠ [] → Q = pickGo (osL m) (drawOf (osL m) g r) P 20 0) → roundP (osL m) g r P = Q:=by
  intro Q q1 q2
  unfold roundP
  split
  ·rename_i h; exact (q1 h).symm
  ·rename_i h; exact (q2 h).symm
 generalize roundP (osL m) g r P = R at *
 refine zac (fun t T' H' => lk T' 1 = .d (.i .u8 g) ∧ lk T' 2 = .ptr 0 0 ∧ lk T' 5 = .view 1 P.length 1 0 P.length ∧ lk T' 6 = .d (.i .i64 (r : Nat)) ∧ lk T' 7 = .d (.i .i64 (t : Nat)) ∧ (∃ J,H' = .box (.d (.agg m.cs)) :: .arr (nats P) true :: J) ∧ (inN (osL m) 5 ≠ [] → pickGo (osL m) (drawOf (osL m) g r) P 20 0 = pickGo (osL m) (drawOf (osL m) g r) P (20 - t) t))
  (fun e T' H' => e = .exit 2 ∧ (∃ J,H' = .box (.d (.agg m.cs)) :: .arr (nats R) true :: J) ∧ lk T' 1 = lk T 1 ∧ lk T' 2 = lk T 2 ∧ lk T' 5 = .view 1 R.length 1 0 R.length ∧ lk T' 6 = lk T 6) 20 ?_ ?_ 20 0 _ _ (by omega) ⟨h1,h2,h5,h6,h7,⟨[],rfl⟩,fun _ => rfl⟩
 ·rintro t T1 H1 ht ⟨g1, g2, g5, g6, g7, ⟨J, rfl⟩, hgo⟩
  have hd : decide ((t : Int) < 20) = true:=by simp; omega
  have hw : IntKind.i64.wrap ((t : Int) + 1) = ((t + 1 : Nat) : Int):=wi64 (by omega)
  have htp : List.take 1 (nats P) = List.take 1 (nats P):=rfl
  simp +decide only [zl3,zmv,g1,g2,g5,g6,g7,hd,Pk.EVL,Pk.EVD,↓reduceIte,Nat.reduceAdd,Int.reduceNeg]
  simp only [Option.bind_assoc]
  refine zgy (zm3 m g r t hr ht [.arr (nats P) true] _ ?_ _ ?_ ?_ ?_ ?_ ?_ ?_ ?_) ?_
  ·rfl
  ·rfl
  ·rfl
  ·rfl
  ·rfl
  ·rfl
  ·rfl
  ·rfl
  rintro e T2 H2 ⟨rfl,rfl,k1,k2,k5,k6,k7,k8⟩
  simp only [lk,reduceIte,Nat.reduceEqDiff] at k1 k2 k5 k6 k7
  rcases rb_all m g r t with ⟨hin,hb⟩ | ⟨hin,hb⟩
  ·rw [hb] at k8
   have hf : okP (osL m) false 0 P P.length = false:=rfl
   simp +decide only [k1,k2,k5,k6,k7,k8,Pk.EVL,Pk.EVD,↓reduceIte,Nat.reduceAdd,Int.reduceNeg]
   simp only [Option.bind_assoc]
   refine zgy (zjn m P (by omega) hP false 0 [] _ ?_ _ ?_ ?_ (by simp) ?_ ?_) ?_
   ·rfl
   ·rfl
   ·rfl
   ·rfl
   ·rfl
   rintro e T3 H3 ⟨rfl,rfl,j1,j2,j5,j6,j7,j8,j12⟩
   simp only [lk,reduceIte,Nat.reduceEqDiff] at j1 j2 j5 j6 j7 j8
   rw [hf] at j12
   simp +decide only [j1,j2,j5,j6,j7,j8,j12,hw,Pk.EVL,Pk.EVD,↓reduceIte,Nat.reduceAdd,Int.reduceNeg]
   refine ⟨_,_,_,rfl,?_⟩
   exact .inl ⟨rfl,rfl,rfl,rfl,rfl,rfl,⟨_,rfl⟩,fun h => absurd hin h⟩
  ·rw [hb] at k8
   have hb5:=zng m g r t hin
   have hgo:=hgo hin
   have hge : decide (((drawOf (osL m) g r t : Nat) : Int) ≥ 0) = true:=by simp
   have hst : pickGo (osL m) (drawOf (osL m) g r) P (20 - t) t = if P.any (clash (osL m) (drawOf (osL m) g r t)) = true then pickGo (osL m) (drawOf (osL m) g r) P (20 - (t + 1)) (t + 1) else P ++ [drawOf (osL m) g r t]:=by
    rw [show 20 - t = (20 - (t + 1)) + 1 by omega]
    rfl
   have hokP : okP (osL m) true (drawOf (osL m) g r t) P P.length = !P.any (clash (osL m) (drawOf (osL m) g r t)):=by
    unfold okP
    rw [List.take_length,Bool.true_and,List.not_any_eq_all_not]
   generalize drawOf (osL m) g r t = b at *
   simp +decide only [k1,k2,k5,k6,k7,k8,hge,Pk.EVL,Pk.EVD,↓reduceIte,Nat.reduceAdd]
   simp only [Option.bind_assoc]
   refine zgy (zjn m P (by omega) hP true b [] _ ?_ _ ?_ ?_ ?_ ?_ ?_) ?_
   ·rfl
   ·rfl
   ·rfl
   ·exact fun _ => ⟨rfl,hb5⟩
   ·rfl
   ·rfl
   rintro e T3 H3 ⟨rfl,rfl,j1,j2,j5,j6,j7,j8,j12⟩
   simp only [lk,reduceIte,Nat.reduceEqDiff] at j1 j2 j5 j6 j7 j8
   rw [hokP] at j12
   rcases Bool.eq_false_or_eq_true (P.any (clash (osL m) b)) with c | c
   ·rw [c] at j12 hst
    rw [if_pos rfl] at hst
    simp +decide only [j1,j2,j5,j6,j7,j8,j12,hw,Bool.not_true,Pk.EVL,Pk.EVD,↓reduceIte,Nat.reduceAdd]
    refine ⟨_,_,_,rfl,?_⟩
    exact .inl ⟨rfl,rfl,rfl,rfl,rfl,rfl,⟨_,rfl⟩,fun _ => by rw [hgo,hst]⟩
   ·rw [c] at j12 hst
    rw [if_neg (by simp)] at hst
    have hRR:=hR (P ++ [b]) (fun h => absurd h hin) (fun _ => by rw [hgo,hst])
    have hsn : nats (P ++ [b]) = nats P ++ [.i .i64 (b : Int)]:=by simp [nats,ints]
    have hlim : (P.length + 1 ≤ LIM) = True:=by
     have : P.length + 1 ≤ LIM:=by unfold LIM; omega
     simp [this]
    rw [hRR,hsn,List.length_append]
    simp +decide only [j1,j2,j5,j6,j7,j8,j12,hnb,hlim,elems,Bool.not_false,Pk.EVL,Pk.EVD,↓reduceIte,Nat.reduceAdd]
    refine ⟨_,_,_,rfl,?_⟩
    exact .inr ⟨by simp,rfl,⟨_,rfl⟩,h1.symm,h2.symm,rfl,h6.symm⟩
 ·rintro T1 H1 ⟨g1, g2, g5, g6, g7, ⟨J, rfl⟩, hgo⟩
  have hRR:=hR P (fun _ => rfl) (fun h => (hgo h).symm)
  rw [hRR]
  simp +decide only [zl3,zmv,g1,g2,g5,g6,g7,Pk.EVL,Pk.EVD,↓reduceIte,Nat.reduceAdd,Int.reduceNeg]
  refine ⟨_,_,_,rfl,?_⟩
  exact ⟨by simp,rfl,⟨_,rfl⟩,h1.symm,h2.symm,rfl,h6.symm⟩

def roundsP (os : List Osd) (g : Int) : Nat → List Nat
 | 0 => []
 | r + 1 => roundP os g r (roundsP os g r)
theorem zie (os : List Osd) (g : Int) : ∀ r,(roundsP os g r).length ≤ r
 | 0 => Nat.le_refl _
 | r + 1 => by
  have:=zie os g r
  have:=zte os g r (roundsP os g r)
  simp only [roundsP]
  omega
theorem zh9 (m : Pk.Mp) (g : Int) : ∀ r,∀ p ∈ roundsP (osL m) g r,p < 5
 | 0 => by simp [roundsP]
 | r + 1 => zsi m g r _ (zh9 m g r)
theorem zor (e : Int) (os : List Osd) (g : Int) (h : (isM e os && decide (g < 4)) = true) : pickP e os g = roundsP os g 3:=by
 unfold pickP
 rw [if_pos h]
 simp only [roundsP]
 unfold roundP
 cases inN os 5 with
 | nil => rfl
 | cons a L => rfl
theorem zsa (m : Pk.Mp) (g : Int) : evF C F_q2a [.d (.agg m.cs),.d (.i .u8 g)] [] = some (.d (.sl (nats (pickP m.epoch (osL m) g))),[]):=by
 rw [zaa (rfl : C F_q2a = some a_q2a) _ _ rfl]
 have hi:=zrf m
 have z0 : nats [] = []:=rfl
 by_cases h : (isM m.epoch (osL m) && decide (g < 4)) = true
 case neg =>
  have hp : pickP m.epoch (osL m) g = []:=by unfold pickP; rw [if_neg h]
  rw [hp,z0]
  rcases Bool.eq_false_or_eq_true (isM m.epoch (osL m)) with c | c
  ·rw [c] at hi h
   have hg : decide (g ≥ 4) = true:=by simp at h; simp; omega
   simp +decide only [c_q2a,hi,hg,Pk.EVL,Pk.EVD,↓reduceIte,Nat.reduceAdd,Pk.TY_Mp]
  ·rw [c] at hi
   simp +decide only [c_q2a,hi,Pk.EVL,Pk.EVD,↓reduceIte,Nat.reduceAdd,Pk.TY_Mp]
 rw [zor _ _ _ h]
 obtain ⟨c,hg⟩:=Bool.and_eq_true_iff.1 h
 rw [c] at hi
 have hg : decide (g ≥ 4) = false:=by have:=of_decide_eq_true hg; simp; omega
 simp +decide only [c_q2a,hi,hg,thaws,thaw,Pk.EVL,Pk.EVD,↓reduceIte,Nat.reduceAdd,Pk.TY_Mp]
 simp only [Option.bind_assoc]
 refine zaf (zac (fun r T H => lk T 1 = .d (.i .u8 g) ∧ lk T 2 = .ptr 0 0 ∧ lk T 5 = .view 1 (roundsP (osL m) g r).length 1 0 (roundsP (osL m) g r).length ∧ lk T 6 = .d (.i .i64 (r : Nat)) ∧ ∃ J,H = .box (.d (.agg m.cs)) :: .arr (nats (roundsP (osL m) g r)) true :: J)
  (fun e T H => e = .exit 0 ∧ lk T 5 = .view 1 (roundsP (osL m) g 3).length 1 0 (roundsP (osL m) g 3).length ∧ H = [.box (.d (.agg m.cs)),.arr (nats (roundsP (osL m) g 3)) true]) 3 ?_ ?_ 3 0 _ _ (by omega) ⟨rfl,rfl,rfl,rfl,[],rfl⟩) ?_
 ·rintro r T H hr ⟨g1, g2, g5, g6, ⟨J, rfl⟩⟩
  have hd : decide ((r : Int) < 3) = true:=by simp; omega
  have hw : IntKind.i64.wrap ((r : Int) + 1) = ((r + 1 : Nat) : Int):=wi64 (by omega)
  have hlen:=zie (osL m) g r
  have hmem:=zh9 m g r
  have hst : roundsP (osL m) g (r + 1) = roundP (osL m) g r (roundsP (osL m) g r):=rfl
  rw [hst]
  generalize roundsP (osL m) g r = P at *
  simp +decide only [zpp,zqi,g1,g2,g5,g6,hd,thaws,thaw,Pk.EVL,Pk.EVD,↓reduceIte,Nat.reduceAdd]
  simp only [Option.bind_assoc]
  refine zgy (zq0 m g r hr P (by omega) hmem _ ?_ ?_ ?_ ?_ ?_) ?_
  ·rfl
  ·rfl
  ·rfl
  ·rfl
  ·rfl
  rintro e T2 H2 ⟨rfl,⟨J2,rfl⟩,k1,k2,k5,k6⟩
  simp only [lk,reduceIte,Nat.reduceEqDiff] at k1 k2 k6
  simp +decide only [k1,k2,k5,k6,hw,Pk.EVL,Pk.EVD,↓reduceIte]
  refine ⟨_,_,_,rfl,?_⟩
  exact .inl ⟨rfl,rfl,rfl,rfl,rfl,_,rfl⟩
 ·rintro T H ⟨g1, g2, g5, g6, ⟨J, rfl⟩⟩
  generalize roundsP (osL m) g 3 = P at *
  simp +decide only [zpp,zqi,g1,g2,g5,g6,Pk.EVL,Pk.EVD,↓reduceIte,Nat.reduceAdd]
  refine ⟨_,_,_,rfl,?_⟩
  exact ⟨by simp,rfl,rfl,rfl⟩
 rintro e T H ⟨rfl,g5,rfl⟩
 generalize roundsP (osL m) g 3 = P at *
 have hnb:=zal P
 have htp : List.take P.length (nats P) = nats P:=List.take_of_length_le (by omega)
 have hsp : subL (nats P) 0 P.length = nats P:=htp
 simp +decide only [g5,hnb,hsp,Pk.EVL,Pk.EVD,↓reduceIte,Nat.reduceAdd]
theorem zop (m : Pk.Mp) (g : Int) : evF C F_q1z [.d (.agg m.cs),.d (.i .u8 g)] [] = some (.d (.sl (nats (actP m.epoch (osL m) g))),[]):=by
 rw [zaa (rfl : C F_q1z = some a_q1z) _ _ rfl]
 have hp:=zsa m g
 have hlen:=zhf m.epoch (osL m) g
 have hmem:=znc m.epoch (osL m) g
 have hA : actP m.epoch (osL m) g = (pickP m.epoch (osL m) g).filter fun q => (m.osds.get q).up:=by
  unfold actP
  exact List.filter_congr fun q hq => upOf_osL m q (hmem q hq)
 rw [hA]
 generalize pickP m.epoch (osL m) g = P at *
 clear hA
 have hnb:=zal P
 simp +decide only [c_q1z,hp,thaws,thaw,Pk.EVL,Pk.EVD,↓reduceIte,Nat.reduceAdd,Pk.TY_Mp]
 simp only [Option.bind_assoc]
 refine zaf (zac (fun i T H => lk T 2 = .ptr 0 0 ∧ lk T 5 = .d (.sl (nats P)) ∧ lk T 6 = .view 1 ((P.take i).filter fun q => (m.osds.get q).up).length 1 0 ((P.take i).filter fun q => (m.osds.get q).up).length ∧ lk T 7 = .d (.i .i64 (i : Nat)) ∧ ∃ J,H = .box (.d (.agg m.cs)) :: .arr (nats ((P.take i).filter fun q => (m.osds.get q).up)) true :: J)
  (fun e T H => e = .exit 0 ∧ lk T 6 = .view 1 (P.filter fun q => (m.osds.get q).up).length 1 0 (P.filter fun q => (m.osds.get q).up).length ∧ H = [.box (.d (.agg m.cs)),.arr (nats (P.filter fun q => (m.osds.get q).up)) true]) P.length ?_ ?_ P.length 0 _ _ (by omega) ⟨rfl,rfl,rfl,rfl,[],rfl⟩) ?_
 ·rintro i T H hi ⟨g2, g5, g6, g7, ⟨J, rfl⟩⟩
  obtain ⟨q,hq⟩ : ∃ q,P[i]? = some q:=⟨P[i]'hi,List.getElem?_eq_getElem _⟩
  have hx:=zbs P i q hq
  rw [Int.toNat_natCast] at hx
  have hq5:=hmem q (List.mem_of_getElem? hq)
  have htk : P.take (i + 1) = P.take i ++ [q]:=by rw [List.take_add_one,hq]; rfl
  have hd : decide ((i : Int) < ((P.length : Nat) : Int)) = true:=by simp; omega
  have hw : IntKind.i64.wrap ((i : Int) + 1) = ((i + 1 : Nat) : Int):=wi64 (by omega)
  have b2 : ((i : Int) < ((P.length : Nat) : Int)) = True:=by simp; omega
  have b3 : ((q : Int) < ((5 : Nat) : Int)) = True:=by simp; omega
  have b0 : ∀ j : Nat,(0 ≤ (j : Int)) = True:=by simp
  have hlf : ((P.take i).filter fun q => (m.osds.get q).up).length ≤ 3:=Nat.le_trans (List.length_filter_le _ _) (by rw [List.length_take]; omega)
  have hlim : (((P.take i).filter fun q => (m.osds.get q).up).length + 1 ≤ LIM) = True:=by
   have : ((P.take i).filter fun q => (m.osds.get q).up).length + 1 ≤ LIM:=by unfold LIM; omega
   simp [this]
  have hnl:=zal ((P.take i).filter fun q => (m.osds.get q).up)
  have hsn : ∀ (a : List Nat) (q : Nat),nats (a ++ [q]) = nats a ++ [.i .i64 (q : Int)]:=fun a q => by simp [nats,ints]
  rw [htk,List.filter_append]
  rcases Bool.eq_false_or_eq_true (m.osds.get q).up with hu | hu
  ·have hf : ([q].filter fun q => (m.osds.get q).up) = [q] := by simp [hu]
   rw [hf,hsn,List.length_append]
   generalize (P.take i).filter (fun q => (m.osds.get q).up) = w at *
   simp +decide only [zle,zkf,g2,g5,g6,g7,hw,b0,b2,b3,hx,hnb,hnl,hlim,hu,hq5,elems,Nat.zero_add,Pk.EVL,Pk.EVD,↓reduceIte,Nat.reduceAdd,Pk.TY_Mp]
   refine ⟨_,_,_,rfl,?_⟩
   exact .inl ⟨rfl,rfl,rfl,rfl,rfl,_,rfl⟩
  ·have hf : ([q].filter fun q => (m.osds.get q).up) = [] := by simp [hu]
   rw [hf,List.append_nil]
   generalize (P.take i).filter (fun q => (m.osds.get q).up) = w at *
   simp +decide only [zle,zkf,g2,g5,g6,g7,hw,b0,b2,b3,hx,hnb,hu,hq5,Nat.zero_add,Pk.EVL,Pk.EVD,↓reduceIte,Nat.reduceAdd,Pk.TY_Mp]
   refine ⟨_,_,_,rfl,?_⟩
   exact .inl ⟨rfl,rfl,rfl,rfl,rfl,_,rfl⟩
 ·rintro T H ⟨g2, g5, g6, g7, ⟨J, rfl⟩⟩
  rw [List.take_length] at g6
  rw [List.take_length]
  have hd : decide (((P.length : Nat) : Int) < ((P.length : Nat) : Int)) = false:=by simp
  generalize P.filter (fun q => (m.osds.get q).up) = w at *
  simp +decide only [zle,zkf,g2,g5,g6,g7,hnb,Pk.EVL,Pk.EVD,↓reduceIte,Nat.reduceAdd]
  refine ⟨_,_,_,rfl,?_⟩
  exact ⟨by simp,rfl,rfl,rfl⟩
 rintro e T H ⟨rfl,g6,rfl⟩
 have hnl:=zal (P.filter fun q => (m.osds.get q).up)
 generalize P.filter (fun q => (m.osds.get q).up) = w at *
 have htp : List.take w.length (nats w) = nats w:=List.take_of_length_le (by omega)
 have hsp : subL (nats w) 0 w.length = nats w:=htp
 simp +decide only [g6,hnl,hsp,Pk.EVL,Pk.EVD,↓reduceIte,Nat.reduceAdd]
end Go.Proofs.YthlpognahlnaaaaGreat
