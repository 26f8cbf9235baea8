/- A history and the document's one behind it: an increment added to the latter. / The law RepairTells. -/
import Derived.Test.YthlpognahlnaaaaGreatPlaceFst
import Derived.Test.YthlpognahlnaaaaGreatObjB
import Derived.Test.YthlpognahlnaaaaGreatPkEvd
import Derived.Test.YthlpognahlnaaaaGreatRpL2
import Derived.Test.YthlpognahlnaaaaGreatMgG
import Derived.Test.YthlpognahlnaaaaGreatMgD
set_option linter.all false
namespace Go.Proofs.YthlpognahlnaaaaGreat
open Pv Go Pk
set_option maxRecDepth 10000
set_option maxHeartbeats 4000000
theorem hz_hr (P S : Heap) (p : Nat) (l : List Inc) (q : Grb) : hz P S p l q [] = hr (P ++ hobs p (hsOf l) q) S:=by simp [hz,hq,hr]
section
variable {P : Heap} {p n0 : Nat} (hP : P.length = p) (hn0 : p + 12 = n0) (hPp : plain P) {S : Heap} {G : List Inc} (hS : rOk n0 S G) (hG : goodI G) {q : Grb} (hq : q.pl) (G2 : List Inc)
include hP hn0 in
theorem zr_len : (P ++ hobs p (hsOf G2) q).length = n0:=by rw [List.length_append,zaz,hP,hn0]
include hP hn0 hPp hq in
theorem zr_all (k : Nat) : (P ++ hobs p (hsOf G2) q).all (ltO (n0 + k)) = true:=by
 have:=hobs_ltO (n:=n0) hP hn0 (hsOf G2) hq k
 rw [List.all_append,hPp,this]; rfl
include hP hn0 hPp hS hG hq in
theorem zr_last : evF C F_q24 [.ptr n0 0] (hz P S p G2 q []) = some (.d (.i .u32 ((G.length : Int) + 1)),hz P S p G2 q []):=by
 have hSp:=zho hS
 have hSa:=zme hS
 have hA:=zr_all hP hn0 hPp hq G2
 have hl:=zr_len hP hn0 (q:=q) G2
 rw [hz_hr]
 obtain ⟨v,T,hLe,hT,hv⟩:=hS
 refine zje (m:=n0 + S.length) (by rw [zbb hl]) (by omega) (fun k => by rw [zaw,hSa k,Nat.add_assoc,hA]; rfl) (v:=v) ?_ (by rw [zbm hl,hLe]; rfl) hG
 rcases hv with ⟨h1,h2,_⟩ | ⟨j,h1,hj⟩
 ·exact .inl ⟨h1,h2⟩
 ·have hjl := (List.getElem?_eq_some_iff.1 hj).1
  have hl2 : S.length = T.length + 1:=by rw [hLe]; rfl
  exact .inr ⟨n0 + 1 + j,h1,by omega,by rw [show n0 + 1 + j = n0 + (j + 1) by omega,hr_at hl,hLe]; exact hj⟩
include hP hn0 hPp hS hG hq in
theorem zr_add (x : Inc) (hx : x.ok) : ∃ S',rOk n0 S' (takeN G x) ∧ S.length ≤ S'.length ∧ evF C F_q22 [.ptr n0 0,.d (.i .u32 ((G.length : Int) + 2)),.d (.agg x.cs)] (hz P S p G2 q []) = some (.d (.i .i64 (codeN G x)),hz P S' p G2 q []):=by
 obtain ⟨S',h1,hle,h2⟩:=r3add_at (zr_len hP hn0 (q:=q) G2) (zr_all hP hn0 hPp hq G2) hS hG x hx
 exact ⟨S',h1,hle,by rw [hz_hr,hz_hr]; exact h2⟩
include hP hn0 hS in
theorem zr_trim : (if ((List.take (n0 + 1) (hz P S p G2 q [])).all (ltO (n0 + 1))) = true then List.take (n0 + 1) (hz P S p G2 q []) else hz P S p G2 q []) = hz P S p G2 q []:=by
 have hl:=zr_len hP hn0 (q:=q) G2
 rw [hz_hr]
 obtain ⟨v,T,hLe,hT,hv⟩:=hS
 rcases hv with ⟨h1,h2,h3⟩ | ⟨j,h1,hj⟩
 ·rw [List.take_of_length_le (by rw [zbb hl,hLe,h3]; exact Nat.le_refl _),ite_self]
 ·rw [if_neg]
  rw [za9 hl,zaw,hLe,h1]
  simp [ltO,lt,lts]
end
end Go.Proofs.YthlpognahlnaaaaGreat

namespace Go.Proofs.YthlpognahlnaaaaGreat
open Pv Go Pk
set_option maxRecDepth 10000
set_option maxHeartbeats 8000000
theorem first3 : (actI firstM 0).length = 3 ∧ (actI firstM 1).length = 3 ∧ (actI firstM 2).length = 3 ∧ (actI firstM 3).length = 3:=by decide +kernel
/-- Where nobody was heard it isn't enough. -/
theorem zpq (G : List Inc) (g : Int) (hg : 0 ≤ g ∧ g < 4) : enoughB G g [] 0 = false:=by
 have h3 : (actI firstM g).length = 3:=by
  obtain ⟨a,b,c,d⟩:=first3
  obtain rfl | rfl | rfl | rfl : g = 0 ∨ g = 1 ∨ g = 2 ∨ g = 3:=by omega
  ·exact a
  ·exact b
  ·exact c
  ·exact d
 have h1:=ivL_first G g hg
 have hne:=zr2 G g hg
 unfold enoughB
 by_cases c : (ivL G g).length = 1
 ·have hl := zmy hne
  rw [c,h1] at hl
  have hw : (lastI (ivL G g)) = ⟨1,actI firstM g⟩:=(Option.some.inj hl).symm
  rw [hw]
  have : ((actI firstM g).any fun x => !decide (x ∈ ([] : List Int))) = true:=by
   cases ha : actI firstM g with
   | nil => rw [ha] at h3; simp at h3
   | cons a r => simp
  show (_ && !((actI firstM g).any fun x => !decide (x ∈ ([] : List Int)))) = false
  rw [this,Bool.not_true,Bool.and_false]
 ·have hm : (⟨1, actI firstM g⟩ : Itv) ∈ lacksL G g [] 0 := by
   unfold lacksL
   rw [List.mem_filter]
   refine ⟨List.mem_of_getElem? (i:=0) ?_,?_⟩
   ·rw [List.getElem?_take_of_lt (by omega)]; exact h1
   ·unfold missB
    have : ((actI firstM g).any fun y => decide (y ∈ ([] : List Int))) = false:=by simp
    show (decide ((actI firstM g).length ≥ 2) && (decide ((1 : Int) ≥ 0) && !((actI firstM g).any fun y => decide (y ∈ ([] : List Int))))) = true
    rw [this,h3]
    rfl
  have : decide ((lacksL G g [] 0).length = 0) = false:=decide_eq_false (by have:=List.length_pos_of_mem hm; omega)
  rw [this,Bool.false_and]
theorem zpx (l : List Inc) (hok : ∀ x ∈ l,x.ok) (g : Int) (hg0 : 0 ≤ g ∧ g < 256) (O : List Bool) (hO : O.length = 5) (L : List State) (hL : L.length ≤ maxLen) (hf : ∀ x ∈ L,stFull x) (si : Int) (hsi : 0 ≤ si ∧ si < 4294967296) :
  evF C F_q1q [.d (.sl (l.map Inc.d)),.d (.i .u8 g),.d (.agg (O.map .b)),.d (.sl (L.map State.d)),.d (.i .u32 si)] [] = some (.d (.b true),[]):=by
 have hlm : (l.map Inc.d).length = l.length:=List.length_map _
 have hLl : (L.map State.d).length = L.length:=List.length_map _
 have hfew:=few25_at L hL hf
 have hkn:=zsj
 rw [zaa (rfl : C F_q1q = some a_q1q) _ _ rfl]
 rcases Bool.eq_false_or_eq_true (decide (((l.length : Nat) : Int) > 20)) with c1 | c1
 ·simp +decide only [c_q1q,hkn,hlm,c1,Pk.EVL,Pk.EVD,↓reduceIte,Nat.reduceAdd]
 rcases (Bool.eq_false_or_eq_true (few25 L)).symm with c2 | c2
 ·simp +decide only [c_q1q,hkn,hfew,hlm,c1,c2,Pk.EVL,Pk.EVD,↓reduceIte,Nat.reduceAdd]
 rcases Bool.eq_false_or_eq_true (decide (((L.length : Nat) : Int) < 5)) with c3 | c3
 ·simp +decide only [c_q1q,hkn,hfew,hlm,hLl,c1,c2,c3,Pk.EVL,Pk.EVD,↓reduceIte,Nat.reduceAdd]
 rcases Bool.eq_false_or_eq_true (decide (g ≥ 4)) with c4 | c4
 ·simp +decide only [c_q1q,hkn,hfew,hlm,hLl,c1,c2,c3,c4,Pk.EVL,Pk.EVD,↓reduceIte,Nat.reduceAdd]
 have hlen : l.length ≤ 20:=by have:=of_decide_eq_false c1; omega
 have hg4 : 0 ≤ g ∧ g < 4:=by have:=of_decide_eq_false c4; omega
 have hL5 : L.length = 5:=by
  have h1:=of_decide_eq_false c3
  have h2:=c2
  unfold few25 at h2
  rw [Bool.and_eq_true] at h2
  have:=of_decide_eq_true h2.2
  omega
 have hst : ∀ s ∈ L,stOk s ∧ isSt s = true:=fun s hs => by
  refine ⟨(hf s hs).ok,?_⟩
  have h2:=c2
  unfold few25 at h2
  rw [Bool.and_eq_true,List.all_eq_true] at h2
  have:=h2.1 s hs
  rw [Bool.and_eq_true] at this
  exact this.2
 obtain ⟨p,hP⟩ : ∃ p,([.box (.d (.agg (O.map .b)))] : Heap).length = p:=⟨_,rfl⟩
 obtain ⟨n0,hn0⟩ : ∃ n0,p + 12 = n0:=⟨_,rfl⟩
 have hPp : plain [.box (.d (.agg (O.map .b)))]:=by rw [plain_box]; exact fun _ => rfl
 have hnil : plain []:=fun _ => rfl
 have hnew:=h_new hP
 have hnew0:=h_new (P:=[]) rfl
 have hl0:=hh_len hP hn0
 have n1 : (p + 2 < n0 + 1) = True:=eq_true (by omega)
 have n2 : (n0 < n0 + 1) = True:=eq_true (by omega)
 have n0' : (0 < n0 + 1) = True:=eq_true (by omega)
 have m1 : (1 ≤ n0) = True:=eq_true (by omega)
 have hl1 : ∀ R,(hz [.box (.d (.agg (O.map .b)))] [R] p [] grb0 []).length = n0 + 1:=fun R => zcj hP (S:=[R]) (n:=n0 + 1) (by show p + 12 + 1 = n0 + 1; omega) _ _ []
 have hz0 : ∀ R,hh [.box (.d (.agg (O.map .b)))] p [] grb0 [R] = hz [.box (.d (.agg (O.map .b)))] [R] p [] grb0 []:=fun _ => rfl
 have hat : ∀ S l q Y,(hz [.box (.d (.agg (O.map .b)))] S p l q Y)[0]? = some (.box (.d (.agg (O.map .b)))):=fun _ _ _ _ => rfl
 have hOl : (O.map DV.b).length = 5:=by rw [List.length_map]; exact hO
 simp +decide only [c_q1q,hkn,hfew,hlm,hLl,c1,c2,c3,c4,hnew0,hnew,hl0,hl1,hh_push,hz0,m1,thaws,Pk.EVL,Pk.EVD,↓reduceIte,Nat.reduceAdd]
 simp only [Option.bind_assoc]
 refine zaf (zac (fun i T H => lk T 0 = .d (.sl (l.map Inc.d)) ∧ lk T 1 = .d (.i .u8 g) ∧ lk T 3 = .d (.sl (L.map State.d)) ∧ lk T 4 = .d (.i .u32 si) ∧ lk T 7 = .ptr 0 0 ∧ lk T 11 = .ptr (p + 2) 0 ∧ lk T 12 = .ptr n0 0 ∧ lk T 13 = .d (.i .i64 (i : Nat)) ∧ ∃ S,rOk n0 S (takeAll (l.take i)) ∧ H = hz [.box (.d (.agg (O.map .b)))] S p (takeAll (l.take i)) grb0 [])
  (fun e T H => e = .exit 0 ∧ lk T 1 = .d (.i .u8 g) ∧ lk T 3 = .d (.sl (L.map State.d)) ∧ lk T 4 = .d (.i .u32 si) ∧ lk T 7 = .ptr 0 0 ∧ lk T 11 = .ptr (p + 2) 0 ∧ lk T 12 = .ptr n0 0 ∧ ∃ S,rOk n0 S (takeAll l) ∧ H = hz [.box (.d (.agg (O.map .b)))] S p (takeAll l) grb0 []) l.length ?_ ?_ l.length 0 _ _ (by omega) ⟨rfl,rfl,rfl,rfl,rfl,rfl,rfl,rfl,_,rOk_new n0,rfl⟩) ?_
 ·rintro i T H hi ⟨h0, h1, h3, h4, h7, h11, h12, h13, S, hS, rfl⟩
  obtain ⟨x,hx⟩ : ∃ x,l[i]? = some x:=⟨l[i]'hi,List.getElem?_eq_getElem _⟩
  have hxd:=zae Inc.d hx
  have hxo:=hok x (List.mem_of_getElem? hx)
  have hG : goodI (takeAll (l.take i)):=zfz fun y hy => hok y (List.mem_of_mem_take hy)
  have hnext : takeAll (l.take (i + 1)) = takeN (takeAll (l.take i)) x:=by rw [zag hx,zf0]
  have hGl:=hG.1
  rw [hnext]
  generalize takeAll (l.take i) = G at *
  have hSp:=zho hS
  have hSa:=zme hS
  obtain ⟨m,hm⟩ : ∃ m,p + 12 + S.length = m:=⟨_,rfl⟩
  have hSm : ∀ k,S.all (ltO (m + k)) = true:=fun k => by rw [← hm,hn0]; exact hSa k
  have TR:=fun G2 => zr_trim hP hn0 hS (q:=grb0) G2
  have LN:=zcj hP hm
  have L1:=z_last hP hm hPp hSm (l:=G) zcg hnil
  have A1 : evF C F_q0g [.ptr (p + 2) 0,.d (.i .u32 ((G.length : Int) + 2)),.d (.agg x.cs)] (hz [.box (.d (.agg (O.map .b)))] S p G grb0 []) = some (.d (.i .i64 (codeN G x)),hz [.box (.d (.agg (O.map .b)))] S p (takeN G x) grb0 []):=z_add hP hm hPp hSm hG zcg hnil ((G.length : Int) + 2) (by omega) x hxo
  have L2:=zr_last hP hn0 hPp hS hG zcg (takeN G x)
  obtain ⟨S',hS',hSS,A2⟩:=zr_add hP hn0 hPp hS hG zcg (takeN G x) x hxo
  have AL:=fun G => hz_all0 hP hm hPp hSm G zcg hnil
  have LN2:=zcj (S:=S') hP rfl
  have hle : m ≤ p + 12 + S'.length:=by omega
  have hle' : (m ≤ p + 12 + S'.length) = True:=eq_true hle
  have hw1 : IntKind.u32.wrap (((G.length : Int) + 1) + 1) = (G.length : Int) + 2:=by rw [wu32j (by omega)]; omega
  have hd : decide ((i : Int) < ((l.length : Nat) : Int)) = true:=by simp; omega
  have hw : IntKind.i64.wrap ((i : Int) + 1) = ((i + 1 : Nat) : Int):=wi64 (by omega)
  have b0 : (0 ≤ (i : Int)) = True:=eq_true (Int.natCast_nonneg _)
  have b1 : ((i : Int) < ((l.length : Nat) : Int)) = True:=eq_true (by omega)
  have n3 : (p + 2 < m) = True:=eq_true (by omega)
  have n4 : (n0 < m) = True:=eq_true (by omega)
  simp +decide only [zql,zqg,h0,h1,h3,h4,h7,h11,h12,h13,hlm,hxd,TR,AL,LN,LN2,L1,A1,L2,A2,hle',hw1,hw,b0,b1,n0',n1,n2,n3,n4,zb9,List.length_nil,Nat.add_zero,Int.toNat_natCast,Pk.EVL,Pk.EVD,↓reduceIte,Pk.TY_Inc]
  exact ⟨_,_,_,rfl,.inl ⟨rfl,rfl,rfl,rfl,rfl,rfl,rfl,rfl,rfl,S',hS',rfl⟩⟩
 ·rintro T H ⟨h0, h1, h3, h4, h7, h11, h12, h13, S, hS, rfl⟩
  rw [List.take_length] at *
  have TR:=fun G2 => zr_trim hP hn0 hS (q:=grb0) G2
  have hd : decide (((l.length : Nat) : Int) < ((l.length : Nat) : Int)) = false:=by simp
  simp +decide only [zql,zqg,h0,h1,h3,h4,h7,h11,h12,h13,hlm,TR,n0',n1,n2,Pk.EVL,Pk.EVD,↓reduceIte]
  exact ⟨_,_,_,rfl,by simp,rfl,rfl,rfl,rfl,rfl,rfl,rfl,S,hS,rfl⟩
 rintro e T H ⟨rfl,h1,h3,h4,h7,h11,h12,S,hS,rfl⟩
 have hG : goodI (takeAll l):=zfz hok
 generalize takeAll l = G at *
 have hSp:=zho hS
 have hSa:=zme hS
 obtain ⟨n,hm⟩ : ∃ m,p + 12 + S.length = m:=⟨_,rfl⟩
 have hSm : ∀ k,S.all (ltO (n + k)) = true:=fun k => by rw [← hm,hn0]; exact hSa k
 have hl:=zcj hP hm
 have ha:=hz_at hP hm
 have ha0:=hz_at0 hP hm
 have hs:=hz_set hP hm
 have hs0:=hz_set0 hP hm
 have ht:=zq1 hP hm
 have ht0:=hz_take0 hP hm
 simp +decide only [h1,h3,h4,h7,h11,h12,thaws,thaw,hl,zdk,Pk.EVL,Pk.EVD,↓reduceIte,Nat.reduceAdd]
 simp only [Option.bind_assoc]
 have X0 : ∀ a b : List DV,plain [.arr a true,.arr b true]:=fun _ _ _ => rfl
 have hal:=fun a b : List DV => zf4 hP hm hPp hSm G zcg (X0 a b) 2
 have p1 : (p + 2 < n + 2) = True:=eq_true (by omega)
 have p2 : (n < n + 2) = True:=eq_true (by omega)
 have p3 : (n + 1 < n + 2) = True:=eq_true (by omega)
 have p4 : (0 < n + 2) = True:=eq_true (by omega)
 have p5 : (n0 < n + 2) = True:=eq_true (by omega)
 have p6 : (n0 < n + 3) = True:=eq_true (by omega)
 refine zaf (zac (fun i T H => lk T 1 = .d (.i .u8 g) ∧ lk T 3 = .d (.sl (L.map State.d)) ∧ lk T 4 = .d (.i .u32 si) ∧ lk T 7 = .ptr 0 0 ∧ lk T 11 = .ptr (p + 2) 0 ∧ lk T 12 = .ptr n0 0 ∧ lk T 14 = .view n (selO O i).length 1 0 (selO O i).length ∧ lk T 15 = .view (n + 1) (selO O i).length 49 0 (selO O i).length ∧ lk T 16 = .d (.i .i64 (i : Nat)) ∧
   ∃ J,H = hz [.box (.d (.agg (O.map .b)))] S p G grb0 (.arr ((selO O i).map fun x => .i .i64 x) true :: .arr ((selL O L i).map State.d) true :: J))
  (fun e T H => e = .exit 2 ∧ lk T 1 = .d (.i .u8 g) ∧ lk T 4 = .d (.i .u32 si) ∧ lk T 11 = .ptr (p + 2) 0 ∧ lk T 12 = .ptr n0 0 ∧ lk T 14 = .view n (selO O 5).length 1 0 (selO O 5).length ∧ lk T 15 = .view (n + 1) (selO O 5).length 49 0 (selO O 5).length ∧
   H = hz [.box (.d (.agg (O.map .b)))] S p G grb0 [.arr ((selO O 5).map fun x => .i .i64 x) true,.arr ((selL O L 5).map State.d) true]) 5 ?_ ?_ 5 0 _ _ (by omega) ⟨rfl,rfl,rfl,rfl,rfl,rfl,rfl,rfl,rfl,[],rfl⟩) ?_
 ·rintro i T H hi ⟨h1, h3, h4, h7, h11, h12, h14, h15, h16, J, rfl⟩
  obtain ⟨b,hb⟩ : ∃ b,O[i]? = some b:=⟨O[i]'(by omega),List.getElem?_eq_getElem _⟩
  have hbd:=zae DV.b hb
  have hbg : O.getD i false = b:=by rw [List.getD_eq_getElem?_getD,hb]; rfl
  obtain ⟨s,hs'⟩ : ∃ s,L[i]? = some s:=⟨L[i]'(by omega),List.getElem?_eq_getElem _⟩
  have hsd:=zae State.d hs'
  have hsg : L.getD i State.zero = s:=by rw [List.getD_eq_getElem?_getD,hs']; rfl
  obtain ⟨v1,v2⟩:=sel_view O L i
  have hle:=(zmz O L i).2
  have n1 : selO O (i + 1) = selO O i ++ (if b = true then [(i : Int)] else []):=by rw [← hbg]; rfl
  have n2 : selL O L (i + 1) = selL O L i ++ (if b = true then [s] else []):=by rw [← hbg,← hsg]; rfl
  rw [n1,n2]
  have hd : decide ((i : Int) < 5) = true:=by simp; omega
  have hw : IntKind.i64.wrap ((i : Int) + 1) = ((i + 1 : Nat) : Int):=wi64 (by omega)
  have y0 : (0 ≤ (i : Int)) = True:=by simp
  have y1 : ((i : Int) < ((5 : Nat) : Int)) = True:=eq_true (by omega)
  have y2 : (i * 1 + 1 ≤ 5) = True:=eq_true (by omega)
  have y3 : (i + 1 ≤ 5) = True:=eq_true (by omega)
  have y4 : ((i : Int) < ((L.length : Nat) : Int)) = True:=eq_true (by omega)
  have hlim : ((selO O i).length + 1 ≤ LIM) = True:=eq_true (by unfold LIM; omega)
  generalize selO O i = A1 at *
  generalize selL O L i = A2 at *
  have e1 : (n + 2 != n) = true:=by simp
  have e2 : (n + 2 != n + 1) = true:=by simp
  have e3 : (n + 3 != n) = true:=by simp
  have e4 : (n + 2 != n + 3) = true:=by simp
  have e5 : (n != n + 3) = true:=by simp
  have e6 : ((appW (.view (n + 2) 1 1 0 1)).contains (n + 3)) = false:=by simp [appW]
  cases b with
  | true =>
   simp +decide only [zk3,zlr,h1,h3,h4,h7,h11,h12,h14,h15,h16,hat,hbd,hsd,v1,v2,hd,hw,y0,y1,hlim,hal,p1,p2,p3,p4,p5,e4,e5,e6,hl,ha,ha0,hs,hs0,ht,zdk,elems,Nat.zero_add,Nat.mul_one,Int.toNat_natCast,Pk.EVL,Pk.EVD,↓reduceIte,Nat.reduceAdd,Pk.TY_State]
   have l1 : (A1 ++ [(i : Int)]).length = A1.length + 1:=by rw [List.length_append]; rfl
   rw [List.map_append,List.map_append,l1]
   exact ⟨_,_,_,rfl,.inl ⟨rfl,rfl,rfl,rfl,rfl,rfl,rfl,rfl,rfl,rfl,_,rfl⟩⟩
  | false =>
   simp +decide only [zk3,zlr,h1,h3,h4,h7,h11,h12,h14,h15,h16,hat,hbd,hd,hw,y0,y1,hal,p1,p2,p3,p4,p5,hl,ht,Nat.zero_add,Nat.mul_one,Int.toNat_natCast,List.append_nil,Pk.EVL,Pk.EVD,↓reduceIte,Nat.reduceAdd]
   exact ⟨_,_,_,rfl,.inl ⟨rfl,rfl,rfl,rfl,rfl,rfl,rfl,rfl,rfl,rfl,_,rfl⟩⟩
 ·rintro T H ⟨h1, h3, h4, h7, h11, h12, h14, h15, h16, J, rfl⟩
  simp +decide only [zk3,zlr,h1,h3,h4,h7,h11,h12,h14,h15,h16,hal,p1,p2,p3,p4,p5,hl,ht,Pk.EVL,Pk.EVD,↓reduceIte,Nat.reduceAdd]
  exact ⟨_,_,_,rfl,by simp,rfl,rfl,rfl,rfl,rfl,rfl,rfl,rfl⟩
 rintro e T H ⟨rfl,h1,h4,h11,h12,h14,h15,rfl⟩
 obtain ⟨S1,hS1⟩ : ∃ S1,selO O 5 = S1:=⟨_,rfl⟩
 obtain ⟨S2,hS2⟩ : ∃ S2,selL O L 5 = S2:=⟨_,rfl⟩
 have hlen2:=zmz O L 5
 have hinL:=fun s (h : s ∈ S2) => zrb (O:=O) (L:=L) 5 (by omega) s (by rw [hS2]; exact h)
 have hmem:=fun s (h : s ∈ S2) => hst s (hinL s h)
 have hful:=fun s (h : s ∈ S2) => hf s (hinL s h)
 have hasc:=zl9 O 5
 rw [hS1,hS2] at hlen2
 rw [hS1] at hasc h14 h15 ⊢
 rw [hS2]
 have hq1:=Grb.frz_pl zcg g
 have X1 : plain [.arr (S1.map fun x => .i .i64 x) false,.arr (S2.map State.d) false]:=fun _ => rfl
 have MK : evF C F_q3l [.ptr (p + 2) 0,.d (.i .u8 g),.view n S1.length 1 0 S1.length,.view (n + 1) S1.length 49 0 S1.length] (hz [.box (.d (.agg (O.map .b)))] S p G grb0 [.arr (S1.map fun x => .i .i64 x) true,.arr (S2.map State.d) true]) =
   some (.d (.agg (planOf G g S1 S2).cs),hz [.box (.d (.agg (O.map .b)))] S p G (grb0.frz g) [.arr (S1.map fun x => .i .i64 x) false,.arr (S2.map State.d) false]):=by
  rw [zjc (p + 2) n (n + 1) S1.length (by omega) S1 S2 true true _ g (by rw [ha0]; rfl) (by rw [ha]; rfl) rfl hlen2.1,hs0,hs]
  exact zow hP hm hPp hSm hG zcg X1 (m:=n + 2) rfl g hg4 S1 S2 (by omega) hlen2.1.symm hasc hmem
 have X2 : ∀ d : DV,plain [.arr (S1.map fun x => .i .i64 x) false,.arr (S2.map State.d) false,.box (.d d)]:=fun _ _ => rfl
 have EN : ∀ d : DV,evF C F_q2r [.ptr n0 0,.d (.i .u8 g),.view n S1.length 1 0 S1.length,.d (.i .u32 (startedS S2))] (hz [.box (.d (.agg (O.map .b)))] S p G (grb0.frz g) [.arr (S1.map fun x => .i .i64 x) false,.arr (S2.map State.d) false,.box (.d d)]) =
   some (.d (.b (enoughB G g S1 (startedS S2))),hz [.box (.d (.agg (O.map .b)))] S p G (grb0.frz g) [.arr (S1.map fun x => .i .i64 x) false,.arr (S2.map State.d) false,.box (.d d)]):=fun d => by
  rw [zlo n0 n S1.length S1 false _ g _ (by rw [ha0]; rfl) rfl,hs0]
  obtain ⟨k1,k2,k3,v,k4,k5⟩:=zr_row hP hm hPp hSm hn0 (W:=[]) (List.append_nil S).symm hS G hq1 (X2 d)
  exact zqq k1 k2 k3 k4 k5 hG g hg4 S1 (by omega) _
 have BE:=r8best_at S1 S2 (by omega) hlen2.1.symm (fun s hs => (hmem s hs).2) hful
 have ST:=znd S2 (by omega)
 have G0 : ∀ k,([] : Heap).all (ltO (0 + k)) = true:=fun _ => rfl
 have hO1 : (S1.map fun x : Int => DV.i .i64 x).length = S1.length:=List.length_map _
 have hO2 : (S2.map State.d).length = S1.length:=by rw [List.length_map]; exact hlen2.1
 have sb1 : subL (S1.map fun x : Int => DV.i .i64 x) 0 S1.length = S1.map fun x => .i .i64 x:=by unfold subL; rw [List.drop_zero]; exact List.take_of_length_le (by omega)
 have sb2 : subL (S2.map State.d) 0 S1.length = S2.map State.d:=by unfold subL; rw [List.drop_zero]; exact List.take_of_length_le (by omega)
 obtain ⟨PL,hPL⟩ : ∃ PL,planOf G g S1 S2 = PL:=⟨_,rfl⟩
 have hPb : PL.best = bestS S1 S2:=by rw [← hPL]; rfl
 have hPk : PL.blocked = !enoughB G g S1 (startedS S2):=by rw [← hPL]; rfl
 obtain ⟨sn,hsn⟩ : ∃ sn,si.tmod 60 = sn:=⟨_,rfl⟩
 have hsn60 : 0 ≤ sn ∧ sn < 60:=by
  obtain ⟨k,rfl⟩:=Int.eq_ofNat_of_zero_le hsi.1
  rw [← hsn]
  show 0 ≤ ((k % 60 : Nat) : Int) ∧ ((k % 60 : Nat) : Int) < 60
  omega
 have hwn : IntKind.u32.wrap sn = sn:=wu32j (by omega)
 have hwn1 : IntKind.u32.wrap (sn + 1) = sn + 1:=wu32j (by omega)
 have vne : (bestS S1 S2 != bestS S1 S2) = false:=by simp
 have e0 : ∀ c : Bool,eqV ETy.sb (.b c) (.b c) = some true:=fun c => by cases c <;> rfl
 have q2 : (n0 < n + 3) = True:=eq_true (by omega)
 have q3 : (n < n + 3) = True:=eq_true (by omega)
 have al3 : ∀ d : DV,(hz [.box (.d (.agg (O.map .b)))] S p G (grb0.frz g) [.arr (S1.map fun x => .i .i64 x) false,.arr (S2.map State.d) false,.box (.d d)]).all (ltO (n + 3)) = true:=fun d => zf4 hP hm hPp hSm G hq1 (X2 d) 3
 have cc : ([n + 1].contains (n + 2)) = false:=by simp
 rw [hPL] at MK
 by_cases cb : enoughB G g S1 (startedS S2) = true
 case neg =>
  have cb:=eq_false_of_ne_true cb
  rw [cb] at EN hPk
  have hPk : PL.blocked = true:=hPk
  have DN:=zq8 (G:=[]) (m:=0) rfl G0 PL S1 S2 (sn + 1) (.inr (.inr hPk))
  have v80 : ((80 : Int) == 80) = true:=rfl
  have v00 : (((0 : Nat) : Int) == 0) = true:=rfl
  simp +decide only [h1,h4,h11,h12,h14,h15,MK,BE,ST,EN,DN,hPb,hPk,vne,e0,hsn,hwn1,v80,v00,cc,sb1,sb2,hO1,hO2,q2,q3,al3,hl,ha,ha0,hs,hs0,ht,zdk,zb9,Bool.not_false,Bool.not_true,List.length_nil,List.take_zero,Pk.EVL,Pk.EVD,↓reduceIte,Nat.reduceAdd,Pk.TY_Plan]
 have h0S : 0 < S2.length:=by
  rcases Nat.eq_zero_or_pos S2.length with h | h
  ·have e1 : S1 = [] := List.length_eq_zero_iff.1 (by omega)
   have e2 : S2 = []:=List.length_eq_zero_iff.1 h
   rw [e1,e2] at cb
   rw [show startedS [] = 0 from rfl,zpq G g hg4] at cb
   simp at cb
  ·exact h
 obtain ⟨b,t,hb,htt⟩:=best_some hlen2.1.symm h0S fun s hs => (hmem s hs).2
 have hpl:=plan_some (l:=G) (g:=g) hb htt
 have htm:=hmem t (List.mem_of_getElem? htt)
 have htf:=hful t (List.mem_of_getElem? htt)
 rw [cb] at EN hPk
 have hPk : PL.blocked = false:=hPk
 have hPd : PL.diffs = S2.map fun s => makeM s t:=by rw [← hPL,hpl]
 rw [hb] at BE vne hPb
 have DN:=zns (G:=[]) (m:=0) rfl G0 PL S1 S2 (sn + 1) (by omega) hlen2.1.symm t hPd hPk hmem htm
 obtain ⟨T1,hT1⟩ : ∃ T1,({ t with started:=sn + 1 } : State) = T1:=⟨_,rfl⟩
 obtain ⟨LD,hLD⟩ : ∃ LD,List.replicate S2.length T1 = LD:=⟨_,rfl⟩
 rw [hT1,hLD] at DN
 have hLDl : (LD.map State.d).length = S1.length:=by rw [List.length_map,← hLD,List.length_replicate]; exact hlen2.1
 have hPdl : (PL.diffs.map Diff.d).length = S1.length:=by rw [List.length_map,hPd,List.length_map]; exact hlen2.1
 have htd:=zae State.d htt
 have hbl : b < S1.length:=by have:=(List.getElem?_eq_some_iff.1 htt).1; omega
 have b0 : (0 ≤ (b : Int)) = True:=by simp
 have b1 : ((b : Int) < ((S1.length : Nat) : Int)) = True:=eq_true (by omega)
 have bn : decide ((b : Int) < 0) = false:=decide_eq_false (by omega)
 have vl : (((S1.length : Nat) : Int) != ((S1.length : Nat) : Int)) = false:=by simp
 have v0 : ((0 : Int) != 0) = false:=rfl
 have hw0 : State.cs ⟨sn + 1,t.base,t.tail,t.log⟩ = T1.cs:=by rw [← hT1]
 simp +decide only [h1,h4,h11,h12,h14,h15,MK,BE,ST,EN,DN,hPb,hPk,vne,e0,hsn,hwn1,cc,sb1,sb2,hO1,hO2,hLDl,hPdl,htd,b0,b1,bn,vl,v0,hw0,q2,q3,al3,hl,ha,ha0,hs,hs0,ht,zdk,zb9,thaws,Bool.not_false,Bool.not_true,List.length_nil,Int.toNat_natCast,Nat.zero_add,List.take_zero,Pk.EVL,Pk.EVD,↓reduceIte,Nat.reduceAdd,Nat.reduceLeDiff,Pk.TY_Plan,Pk.TY_State]
 simp only [Option.bind_assoc]
 have X4 : plain [.arr (S1.map fun x => .i .i64 x) false,.arr (S2.map State.d) false,.box (.d (.agg PL.cs)),.box (.d (.agg T1.cs))]:=fun _ => rfl
 have al4:=zf4 hP hm hPp hSm G hq1 X4 4
 have tk4:=ht G (grb0.frz g) [.arr (S1.map fun x => .i .i64 x) false,.arr (S2.map State.d) false,.box (.d (.agg PL.cs)),.box (.d (.agg T1.cs))] 4
 have r1 : (n + 1 < n + 4) = True:=eq_true (by omega)
 have r2 : (n + 2 < n + 4) = True:=eq_true (by omega)
 have r3 : (n + 3 < n + 4) = True:=eq_true (by omega)
 have t6:=zay htm.2
 have hT1l : T1.log.length ≤ 1000:=by rw [← hT1]; show t.log.length ≤ 1000; omega
 have SM:=zjl T1 T1 hT1l
 rw [decide_eq_true rfl] at SM
 have hml : ∀ s : State,(makeM s t).log.length ≤ 1000 ∧ (makeM s t).whole.log.length ≤ 1000:=fun s => by
  have:=zn2 s t (by omega)
  omega
 refine zaf (zac (fun i T H => lk T 15 = .view (n + 1) S1.length 49 0 S1.length ∧ lk T 17 = .ptr (n + 2) 0 ∧ lk T 18 = .d (.i .i64 (b : Nat)) ∧ lk T 19 = .d (.sl (LD.map State.d)) ∧ lk T 21 = .ptr (n + 3) 0 ∧ lk T 22 = .d (.i .i64 (costD ((S2.take i).map fun s => makeM s t) : Nat)) ∧ lk T 23 = .d (.i .i64 (i : Nat)) ∧ H = hz [.box (.d (.agg (O.map .b)))] S p G (grb0.frz g) [.arr (S1.map fun x => .i .i64 x) false,.arr (S2.map State.d) false,.box (.d (.agg PL.cs)),.box (.d (.agg T1.cs))])
  (fun e T H => e = .exit 4 ∧ lk T 17 = .ptr (n + 2) 0 ∧ lk T 22 = .d (.i .i64 (costD (S2.map fun s => makeM s t) : Nat)) ∧ H = hz [.box (.d (.agg (O.map .b)))] S p G (grb0.frz g) [.arr (S1.map fun x => .i .i64 x) false,.arr (S2.map State.d) false,.box (.d (.agg PL.cs)),.box (.d (.agg T1.cs))]) S1.length ?_ ?_ S1.length 0 _ _ (by omega) ⟨rfl,rfl,rfl,rfl,rfl,rfl,rfl,rfl⟩) ?_
 ·rintro i T H hi ⟨g15, g17, g18, g19, g21, g22, g23, rfl⟩
  obtain ⟨s,hs2⟩ : ∃ s,S2[i]? = some s:=⟨S2[i]'(by omega),List.getElem?_eq_getElem _⟩
  have hsd:=zae State.d hs2
  have hsf:=hful s (List.mem_of_getElem? hs2)
  have hs6:=zay (hmem s (List.mem_of_getElem? hs2)).2
  have hLi : LD[i]? = some T1:=by rw [← hLD]; exact List.getElem?_replicate_of_lt (by omega)
  have hLd:=zae State.d hLi
  have RM:=ztj s t hsf htf (shared_at s t hsf (by omega))
  have RB:=zpu (makeM s t) (hml s).1 (hml s).2
  have hcl:=zlc (l:=(S2.take i).map fun s => makeM s t) (fun d hd => by
   obtain ⟨s,_,rfl⟩:=List.mem_map.1 hd
   exact hml s)
  have hbl2:=zhz (hml s)
  have htl : ((S2.take i).map fun s => makeM s t).length ≤ 5:=by rw [List.length_map,List.length_take]; omega
  have hnx : ((S2.take (i + 1)).map fun s => makeM s t) = ((S2.take i).map fun s => makeM s t) ++ [makeM s t]:=by rw [zag hs2,List.map_append]; rfl
  rw [hnx,zi9]
  generalize ((S2.take i).map fun s => makeM s t) = E at *
  have hd : decide ((i : Int) < ((S1.length : Nat) : Int)) = true:=by simp; omega
  have hw : IntKind.i64.wrap ((i : Int) + 1) = ((i + 1 : Nat) : Int):=wi64 (by omega)
  have hw2 : IntKind.i64.wrap (((costD E : Nat) : Int) + ((bytesD (makeM s t) : Nat) : Int)) = ((costD E + bytesD (makeM s t) : Nat) : Int):=wi64 (by omega)
  have y0 : (0 ≤ (i : Int)) = True:=by simp
  have y1 : ((i : Int) < ((S1.length : Nat) : Int)) = True:=eq_true (by omega)
  simp +decide only [zpi,zo2,g15,g17,g18,g19,g21,g22,g23,hO2,hLDl,hsd,htd,hLd,RM,RB,SM,hw,hw2,y0,y1,b0,b1,al4,tk4,r1,r2,r3,hl,ha,Int.toNat_natCast,Nat.zero_add,Pk.EVL,Pk.EVD,↓reduceIte,Nat.reduceAdd,Pk.TY_State]
  exact ⟨_,_,_,rfl,.inl ⟨rfl,rfl,rfl,rfl,rfl,rfl,rfl,rfl,rfl⟩⟩
 ·rintro T H ⟨g15, g17, g18, g19, g21, g22, g23, rfl⟩
  rw [← hlen2.1,List.take_length] at g22
  have hd : decide (((S1.length : Nat) : Int) < ((S1.length : Nat) : Int)) = false:=by simp
  simp +decide only [zpi,zo2,g15,g17,g18,g19,g21,g22,g23,hLDl,al4,tk4,r1,r2,r3,Pk.EVL,Pk.EVD,↓reduceIte]
  exact ⟨_,_,_,rfl,by simp,rfl,rfl,rfl,rfl⟩
 rintro e T H ⟨rfl,g17,g22,rfl⟩
 have CO:=zr7 PL (by rw [hPd,List.length_map]; omega) (fun d hd => by
  rw [hPd] at hd
  obtain ⟨s,_,rfl⟩:=List.mem_map.1 hd
  exact hml s)
 rw [← hPd] at g22
 have ve : (((costD PL.diffs : Nat) : Int) == ((costD PL.diffs : Nat) : Int)) = true:=by simp
 simp +decide only [g17,g22,CO,ve,hl,ha,List.take_zero,Pk.EVL,Pk.EVD,↓reduceIte,Nat.reduceAdd,Pk.TY_Plan]
end Go.Proofs.YthlpognahlnaaaaGreat
