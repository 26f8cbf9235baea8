/- Who was heard: a daemon among them; an interval that may have served and of which nobody was heard. / The intervals of which nobody was heard: slices.DeleteFunc over intervals. -/
import Derived.Test.YthlpognahlnaaaaGreatPkEvd
import Derived.Test.YthlpognahlnaaaaGreatHsB
import Derived.Test.YthlpognahlnaaaaGreatHsF
set_option linter.all false
namespace Go.Proofs.YthlpognahlnaaaaGreat
open Pv Go Pk
set_option maxRecDepth 10000
set_option maxHeartbeats 2000000
def intsD (A : List Int) : List DV:=A.map fun x => .i .i64 x
/-- The place of the first one of which it holds. -/
def ixI (pr : Int → Bool) : List Int → Nat → Int
 | [],_ => -1
 | x :: r,i => if pr x then (i : Int) else ixI pr r (i + 1)
theorem zmb (pr : Int → Bool) : ∀ (A : List Int) (i : Nat),decide (ixI pr A i ≥ 0) = A.any pr
 | [],_ => rfl
 | x :: r,i => by
  rw [List.any_cons]
  unfold ixI
  cases h : pr x with
  | true => simp
  | false => simpa using zmb pr r (i + 1)
theorem zmi {pr : Int → Bool} {A : List Int} {i : Nat} {y : Int} (hy : A[i]? = some y) : ixI pr (A.drop i) i = if pr y then (i : Int) else ixI pr (A.drop (i + 1)) (i + 1):=by
 have hi:=(List.getElem?_eq_some_iff.1 hy).1
 rw [List.drop_eq_getElem_cons hi,(List.getElem?_eq_some_iff.1 hy).2]
 rfl
theorem index_at (A : List Int) (x : Int) (hA : A.length ≤ 1000) : evF C F_q4d [.d (.sl (A.map fun x => .i .i64 x)),.d (.i .i64 x)] [] = some (.d (.i .i64 (ixI (fun y => decide (x = y)) A 0)),[]):=by
 have hl : (A.map fun x : Int => DV.i .i64 x).length = A.length:=List.length_map _
 rw [zaa (rfl : C F_q4d = some a_q4d) _ _ rfl]
 simp +decide only [c_q4d,hl,thaws,Pk.EVL,Pk.EVD,↓reduceIte,Nat.reduceAdd,Int.reduceNeg]
 simp only [Option.bind_assoc]
 refine zaf (zac (fun i T H => lk T 0 = .d (.sl (A.map fun x => .i .i64 x)) ∧ lk T 1 = .d (.i .i64 x) ∧ lk T 7 = .d (.i .i64 (A.length : Nat)) ∧ lk T 8 = .d (.i .i64 (i : Nat)) ∧ H = [] ∧ ixI (fun y => decide (x = y)) (A.drop i) i = ixI (fun y => decide (x = y)) A 0)
  (fun e T H => H = [] ∧ ((e = .exit 0 ∧ ixI (fun y => decide (x = y)) A 0 = -1) ∨ (e = .ret ∧ lk T 4 = .d (.i .i64 (ixI (fun y => decide (x = y)) A 0))))) A.length ?_ ?_ A.length 0 _ _ (by omega) ⟨rfl,rfl,rfl,rfl,rfl,rfl⟩) ?_
 ·rintro i T H hi ⟨h0, h1, h7, h8, rfl, hni⟩
  obtain ⟨y,hy⟩ : ∃ y,A[i]? = some y:=⟨A[i]'hi,List.getElem?_eq_getElem _⟩
  have hyd:=zae (fun x : Int => DV.i .i64 x) hy
  rw [zmi hy] at hni
  have hd : decide ((i : Int) < ((A.length : Nat) : Int)) = true:=by simp; omega
  have hw : IntKind.i64.wrap ((i : Int) + 1) = ((i + 1 : Nat) : Int):=wi64 (by omega)
  have b0 : (0 ≤ (i : Int)) = True:=by simp
  by_cases c : x = y
  ·have hc : (x == y) = true := by simp [c]
   rw [if_pos (by simp [c])] at hni
   rw [← hni]
   simp +decide only [zli,zko,h0,h1,h7,h8,hyd,hd,b0,hc,Pk.EVL,Pk.EVD,↓reduceIte,reduceCtorEq,Int.reduceNeg]
   exact ⟨_,_,_,rfl,.inr ⟨by simp,rfl,rfl,rfl⟩⟩
  ·have hc : (x == y) = false := by simp [c]
   rw [if_neg (by simp [c])] at hni
   simp +decide only [zli,zko,h0,h1,h7,h8,hyd,hd,hw,b0,hc,Pk.EVL,Pk.EVD,↓reduceIte,Int.reduceNeg]
   exact ⟨_,_,_,rfl,.inl ⟨rfl,rfl,rfl,rfl,rfl,rfl,hni⟩⟩
 ·rintro T H ⟨h0, h1, h7, h8, rfl, hni⟩
  rw [List.drop_length] at hni
  have hd : decide (((A.length : Nat) : Int) < ((A.length : Nat) : Int)) = false:=by simp
  simp +decide only [zli,zko,h0,h1,h7,h8,Pk.EVL,Pk.EVD,↓reduceIte,Int.reduceNeg]
  exact ⟨_,_,_,rfl,by simp,rfl,.inl ⟨rfl,hni.symm⟩⟩
 rintro e T H ⟨rfl,⟨rfl,h⟩ | ⟨rfl,h4⟩⟩
 ·simp +decide only [h,Pk.EVL,Pk.EVD,↓reduceIte,Int.reduceNeg]
 ·simp +decide only [h4,Pk.EVL,Pk.EVD,↓reduceIte,Int.reduceNeg]
theorem zih (A : List Int) (x : Int) (hA : A.length ≤ 1000) : evF C F_q45 [.d (.sl (A.map fun x => .i .i64 x)),.d (.i .i64 x)] [] = some (.d (.b (decide (x ∈ A))),[]):=by
 have hev:=index_at A x hA
 have hj:=zmb (fun y => decide (x = y)) A 0
 have hany : (A.any fun y => decide (x = y)) = decide (x ∈ A):=by
  rw [Bool.eq_iff_iff]
  simp
 rw [hany] at hj
 rw [zaa (rfl : C F_q45 = some a_q45) _ _ rfl]
 simp +decide only [c_q45,hev,hj,Pk.EVL,Pk.EVD,↓reduceIte,Nat.reduceAdd]
def earD (A : List Int) (st : Int) : List DV:=[.sl (A.map fun x => .i .i64 x),.i .u32 st]
theorem hears_at (A : List Int) (st x : Int) (hA : A.length ≤ 1000) : evF C F_q0b [.d (.agg (earD A st)),.d (.i .i64 x)] [] = some (.d (.b (decide (x ∈ A))),[]):=by
 have hc:=zih A x hA
 rw [zaa (rfl : C F_q0b = some a_q0b) _ _ rfl]
 simp +decide only [c_q0b,earD,hc,Pk.EVL,Pk.EVD,↓reduceIte,Nat.reduceAdd]
/-- slices.ContainsFunc over whole numbers,of a function that bears data,among whatever objects. -/
theorem cfunc_at (F : FuncId) (e : DV) (pr : Int → Bool) (B : List Int) (hB : B.length ≤ 1000) (hcall : ∀ x ∈ B,evF C F [.d e,.d (.i .i64 x)] [] = some (.d (.b (pr x)),[])) (H : Heap) :
  evF C F_q44 [.d (.sl (B.map fun x => .i .i64 x)),.fn F [.d e] []] H = some (.d (.b (B.any pr)),H):=by
 have hidx : evF C F_q4c [.d (.sl (B.map fun x => .i .i64 x)),.fn F [.d e] []] H = some (.d (.i .i64 (ixI pr B 0)),H):=by
  have hl : (B.map fun x : Int => DV.i .i64 x).length = B.length:=List.length_map _
  rw [zaa (rfl : C F_q4c = some a_q4c) _ _ rfl]
  simp +decide only [c_q4c,hl,thaws,Pk.EVL,Pk.EVD,↓reduceIte,Nat.reduceAdd,Int.reduceNeg]
  simp only [Option.bind_assoc]
  refine zaf (zac (fun i T G => lk T 0 = .d (.sl (B.map fun x => .i .i64 x)) ∧ lk T 1 = .fn F [.d e] [] ∧ lk T 7 = .d (.i .i64 (B.length : Nat)) ∧ lk T 8 = .d (.i .i64 (i : Nat)) ∧ G = H ∧ ixI pr (B.drop i) i = ixI pr B 0)
   (fun x T G => G = H ∧ ((x = .exit 0 ∧ ixI pr B 0 = -1) ∨ (x = .ret ∧ lk T 4 = .d (.i .i64 (ixI pr B 0))))) B.length ?_ ?_ B.length 0 _ _ (by omega) ⟨rfl,rfl,rfl,rfl,rfl,rfl⟩) ?_
  ·rintro i T G hi ⟨h0, h1, h7, h8, rfl, hni⟩
   obtain ⟨y,hy⟩ : ∃ y,B[i]? = some y:=⟨B[i]'hi,List.getElem?_eq_getElem _⟩
   have hyd:=zae (fun x : Int => DV.i .i64 x) hy
   have hcl:=hcall y (List.mem_of_getElem? hy)
   rw [zmi hy] at hni
   have hd : decide ((i : Int) < ((B.length : Nat) : Int)) = true:=by simp; omega
   have hw : IntKind.i64.wrap ((i : Int) + 1) = ((i + 1 : Nat) : Int):=wi64 (by omega)
   have b0 : (0 ≤ (i : Int)) = True:=by simp
   cases c : pr y with
   | true =>
    rw [c] at hcl
    rw [if_pos c] at hni
    rw [← hni]
    simp +decide only [za7,za6,h0,h1,h7,h8,hyd,hcl,hd,b0,ite_self,List.take_length,Pk.EVL,Pk.EVD,↓reduceIte,reduceCtorEq,Int.reduceNeg]
    exact ⟨_,_,_,rfl,.inr ⟨by simp,rfl,rfl,rfl⟩⟩
   | false =>
    rw [c] at hcl
    rw [if_neg (by simp [c])] at hni
    simp +decide only [za7,za6,h0,h1,h7,h8,hyd,hcl,hd,hw,b0,ite_self,List.take_length,Pk.EVL,Pk.EVD,↓reduceIte,Int.reduceNeg]
    exact ⟨_,_,_,rfl,.inl ⟨rfl,rfl,rfl,rfl,rfl,rfl,hni⟩⟩
  ·rintro T G ⟨h0, h1, h7, h8, rfl, hni⟩
   rw [List.drop_length] at hni
   have hd : decide (((B.length : Nat) : Int) < ((B.length : Nat) : Int)) = false:=by simp
   simp +decide only [za7,za6,h0,h1,h7,h8,ite_self,List.take_length,Pk.EVL,Pk.EVD,↓reduceIte,Int.reduceNeg]
   exact ⟨_,_,_,rfl,by simp,rfl,.inl ⟨rfl,hni.symm⟩⟩
  rintro x T G ⟨rfl,⟨rfl,h⟩ | ⟨rfl,h4⟩⟩
  ·simp +decide only [h,ite_self,List.take_length,Pk.EVL,Pk.EVD,↓reduceIte,Int.reduceNeg]
  ·simp +decide only [h4,ite_self,List.take_length,Pk.EVL,Pk.EVD,Int.reduceNeg]
 have hj:=zmb pr B 0
 rw [zaa (rfl : C F_q44 = some a_q44) _ _ rfl]
 simp +decide only [c_q44,hidx,hj,ite_self,List.take_length,Pk.EVL,Pk.EVD,↓reduceIte,Nat.reduceAdd]
def missB (A : List Int) (st : Int) (x : Itv) : Bool:=decide (x.acting.length ≥ 2) && (decide (x.since ≥ st) && !(x.acting.any fun y => decide (y ∈ A)))
theorem zoc (A : List Int) (st : Int) (x : Itv) (hA : A.length ≤ 1000) (hx : x.acting.length ≤ 1000) : evF C F_q0c [.d (.agg (earD A st)),.d (.agg x.cs)] [] = some (.d (.b (missB A st x)),[]):=by
 have hc:=cfunc_at F_q0b (.agg (earD A st)) (fun y => decide (y ∈ A)) x.acting hx (fun y _ => hears_at A st y hA) [.box (.d (.agg (earD A st))),.box (.d (.agg x.cs))]
 have hl : (x.acting.map fun x : Int => DV.i .i64 x).length = x.acting.length:=List.length_map _
 have he1 : (earD A st)[1]? = some (.i .u32 st):=rfl
 have he2 : subL (earD A st) 0 2 = earD A st:=rfl
 have he3 : (earD A st).length = 2:=rfl
 rw [zaa (rfl : C F_q0c = some a_q0c) _ _ rfl]
 unfold missB
 rcases Bool.eq_false_or_eq_true (decide (x.acting.length ≥ 2)) with c1 | c1 <;> rcases Bool.eq_false_or_eq_true (decide (x.since ≥ st)) with c2 | c2 <;> rcases Bool.eq_false_or_eq_true (x.acting.any fun y => decide (y ∈ A)) with c3 | c3 <;>
  (have c1' : decide (((x.acting.length : Nat) : Int) ≥ 2) = decide (x.acting.length ≥ 2):=by (congr 1; exact propext (by omega))) <;>
  simp +decide only [c_q0c,hl,he1,he2,he3,hc,c1,c1',c2,c3,Pk.EVL,Pk.EVD,↓reduceIte,Nat.reduceAdd,Pk.TY_Itv]
end Go.Proofs.YthlpognahlnaaaaGreat

namespace Go.Proofs.YthlpognahlnaaaaGreat
open Pv Go Pk
set_option maxRecDepth 10000
set_option maxHeartbeats 4000000
def fnM (fe : AV) : AV:=.fn F_q0c [fe] []
/-- How a function bears who was heard: as data,or a struct whose slice is nil. -/
def isEar (fe : AV) (A : List Int) (st : Int) : Prop:=fe = .d (.agg (earD A st)) ∨ (fe = .agg [.nilS,.d (.i .u32 st)] ∧ A = [])
theorem zem {fe : AV} {A : List Int} {st : Int} (h : isEar fe A st) (n : Nat) : lt n fe = true:=by
 rcases h with rfl | ⟨rfl,_⟩ <;> rfl
/-- The place of the first interval of which it holds. -/
def ixV (pr : Itv → Bool) : List Itv → Nat → Int
 | [],_ => -1
 | x :: r,i => if pr x then (i : Int) else ixV pr r (i + 1)
theorem ixV_drop {pr : Itv → Bool} {A : List Itv} {i : Nat} {y : Itv} (hy : A[i]? = some y) : ixV pr (A.drop i) i = if pr y then (i : Int) else ixV pr (A.drop (i + 1)) (i + 1):=by
 have hi:=(List.getElem?_eq_some_iff.1 hy).1
 rw [List.drop_eq_getElem_cons hi,(List.getElem?_eq_some_iff.1 hy).2]
 rfl
theorem zri (p : Itv → Bool) : ∀ (P : List Itv) (i : Nat),(ixV p P i = -1 ∧ P.filter (fun q => !p q) = P) ∨ ∃ j : Nat,j < P.length ∧ ixV p P i = ((i + j : Nat) : Int) ∧ (P.take j).filter (fun q => !p q) = P.take j ∧ ∃ x,P[j]? = some x ∧ p x = true
 | [],_ => .inl ⟨rfl,rfl⟩
 | x :: r, i => by
  cases h : p x with
  | true => exact .inr ⟨0,by simp,by simp [ixV,h],by simp,x,rfl,h⟩
  | false =>
   rcases zri p r (i + 1) with ⟨h1,h2⟩ | ⟨j,h1,h2,h3,y,h4,h5⟩
   ·exact .inl ⟨by simp [ixV,h,h1],by simp [h,h2]⟩
   ·exact .inr ⟨j + 1,by simp; omega,by simp only [ixV,h,Bool.false_eq_true,if_false,h2]; congr 1; omega,by simp [h,h3],y,by simpa using h4,h5⟩
theorem bind_ex {β : Type} {x : Option (AExit × Tm × Heap)} {Q : AExit → Tm → Heap → Prop} {f : AExit × Tm × Heap → Option β} {R : β → Prop} (h : ∃ e T' H',x = some (e,T',H') ∧ Q e T' H') (hf : ∀ e T' H',Q e T' H' → ∃ r,f (e,T',H') = some r ∧ R r) : ∃ r,x.bind f = some r ∧ R r:=by
 obtain ⟨e,T',H',rfl,hp⟩:=h
 exact hf e T' H' hp
theorem earN (st : Int) : (DV.agg [.sl [],.i .u32 st]) = .agg (earD [] st):=rfl
section
variable {G0 : Heap} {m : Nat} (hm : G0.length = m) (hG : ∀ k,G0.all (ltO (m + k)) = true) {A : List Int} {st : Int} (hA : A.length ≤ 1000) {fe : AV} (hfe : isEar fe A st)
include hm hG hA hfe
theorem ztl (x : Itv) (hx : x.acting.length ≤ 1000) (es : List DV) : evF C F_q08 [.d (.agg x.cs),.ptr (m + 1) 0] (hr G0 [.arr es true,.box (fnM fe)]) = some (.d (.b (!missB A st x)),hr G0 [.arr es true,.box (fnM fe)]):=by
 have hc:=zoc A st x hA hx
 have g:=hr_at hm
 have ln:=zbb hm
 have tk:=za9 hm
 have hG2:=hG 2
 have hfl:=zem hfe
 rw [zaa (rfl : C F_q08 = some a_q08) _ _ rfl]
 rcases hfe with rfl | ⟨rfl,rfl⟩ <;>
 simp +decide only [c_q08,earN,fnM,g,ln,tk,zao,zaw,hG2,hfl,hc,Pk.EVL,Pk.EVD,↓reduceIte,Nat.reduceAdd,Pk.TY_Itv]
theorem zsl (x : Itv) (hx : x.acting.length ≤ 1000) (es : List DV) (d : DV) : evF C F_q08 [.d (.agg x.cs),.ptr (m + 1) 0] (hr G0 [.arr es true,.box (fnM fe),.box (.d d)]) = some (.d (.b (!missB A st x)),hr G0 [.arr es true,.box (fnM fe),.box (.d d)]):=by
 have hc:=zoc A st x hA hx
 have g:=hr_at hm
 have ln:=zbb hm
 have tk:=za9 hm
 have hG3:=hG 3
 rw [zaa (rfl : C F_q08 = some a_q08) _ _ rfl]
 rcases hfe with rfl | ⟨rfl,rfl⟩ <;>
 simp +decide only [c_q08,earN,fnM,g,ln,tk,zao,zaw,hG3,hc,Pk.EVL,Pk.EVD,↓reduceIte,Nat.reduceAdd,Pk.TY_Itv]
theorem ixV_at (V W : List Itv) (hV : V.length ≤ 1000) (hx : ∀ x ∈ V,x.acting.length ≤ 1000) : evF C F_q4a [.view m (V ++ W).length 2 0 V.length,.fn F_q08 [] [.ptr (m + 1) 0]] (hr G0 [.arr ((V ++ W).map Itv.d) true,.box (fnM fe)]) =
  some (.d (.i .i64 (ixV (fun x => !missB A st x) V 0)),hr G0 [.arr ((V ++ W).map Itv.d) true,.box (fnM fe)]):=by
 have g:=hr_at hm
 have g0:=zbm hm
 have ln:=zbb hm
 have tk:=za9 hm
 have hG2:=hG 2
 have hfl:=zem hfe
 have hlen : ((V ++ W).map Itv.d).length = (V ++ W).length:=List.length_map _
 rw [zaa (rfl : C F_q4a = some a_q4a) _ _ rfl]
 simp +decide only [c_q4a,ln,thaws,Pk.EVL,Pk.EVD,↓reduceIte,Nat.reduceAdd,Int.reduceNeg]
 simp only [Option.bind_assoc]
 refine zaf (zac (fun i T G => lk T 0 = .view m (V ++ W).length 2 0 V.length ∧ lk T 1 = .fn F_q08 [] [.ptr (m + 1) 0] ∧ lk T 7 = .d (.i .i64 (V.length : Nat)) ∧ lk T 8 = .d (.i .i64 (i : Nat)) ∧ G = hr G0 [.arr ((V ++ W).map Itv.d) true,.box (fnM fe)] ∧ ixV (fun x => !missB A st x) (V.drop i) i = ixV (fun x => !missB A st x) V 0)
  (fun x T G => G = hr G0 [.arr ((V ++ W).map Itv.d) true,.box (fnM fe)] ∧ ((x = .exit 0 ∧ ixV (fun x => !missB A st x) V 0 = -1) ∨ (x = .ret ∧ lk T 4 = .d (.i .i64 (ixV (fun x => !missB A st x) V 0))))) V.length ?_ ?_ V.length 0 _ _ (by omega) ⟨rfl,rfl,rfl,rfl,rfl,rfl⟩) ?_
 ·rintro i T G hi ⟨h0, h1, h7, h8, rfl, hni⟩
  obtain ⟨y,hy⟩ : ∃ y,V[i]? = some y:=⟨V[i]'hi,List.getElem?_eq_getElem _⟩
  have hyE : (V ++ W)[i]? = some y:=by rw [List.getElem?_append_left hi]; exact hy
  have hyd:=zae Itv.d hyE
  have hcl:=ztl hm hG hA hfe y (hx y (List.mem_of_getElem? hy)) ((V ++ W).map Itv.d)
  rw [ixV_drop hy] at hni
  have hd : decide ((i : Int) < ((V.length : Nat) : Int)) = true:=by simp; omega
  have hd' : ((i : Int) < ((V.length : Nat) : Int)) = True:=eq_true (by omega)
  have hw : IntKind.i64.wrap ((i : Int) + 1) = ((i + 1 : Nat) : Int):=wi64 (by omega)
  have b0 : (0 ≤ (i : Int)) = True:=by simp
  simp only [fnM] at hcl ⊢
  generalize (V ++ W).map Itv.d = E at *
  generalize (V ++ W).length = N at *
  cases c : missB A st y with
  | false =>
   rw [c] at hcl
   rw [if_pos (by simp [c])] at hni
   rw [← hni]
   simp +decide only [zj3,zkn,h0,h1,h7,h8,g0,ln,tk,zaw,hG2,hfl,hlen,hyd,hcl,hd',b0,ite_self,Int.toNat_natCast,Pk.EVL,Pk.EVD,↓reduceIte,reduceCtorEq,Nat.reduceAdd,Int.reduceNeg,Pk.TY_Itv]
   exact ⟨_,_,_,rfl,.inr ⟨by simp,rfl,rfl,rfl⟩⟩
  | true =>
   rw [c] at hcl
   rw [if_neg (by simp [c])] at hni
   simp +decide only [zj3,zkn,h0,h1,h7,h8,g0,ln,tk,zaw,hG2,hfl,hlen,hyd,hcl,hd',hw,b0,ite_self,Int.toNat_natCast,Pk.EVL,Pk.EVD,↓reduceIte,Nat.reduceAdd,Int.reduceNeg,Pk.TY_Itv]
   exact ⟨_,_,_,rfl,.inl ⟨rfl,rfl,rfl,rfl,rfl,rfl,hni⟩⟩
 ·rintro T G ⟨h0, h1, h7, h8, rfl, hni⟩
  rw [List.drop_length] at hni
  have hd : decide (((V.length : Nat) : Int) < ((V.length : Nat) : Int)) = false:=by simp
  generalize (V ++ W).map Itv.d = E at *
  generalize (V ++ W).length = N at *
  simp +decide only [zj3,zkn,h0,h1,h7,h8,ln,tk,zaw,hG2,ite_self,Pk.EVL,Pk.EVD,↓reduceIte,Nat.reduceAdd,Int.reduceNeg]
  exact ⟨_,_,_,rfl,by simp,rfl,.inl ⟨rfl,hni.symm⟩⟩
 rintro x T G ⟨rfl,⟨rfl,h⟩ | ⟨rfl,h4⟩⟩
 ·simp +decide only [h,ln,tk,zaw,hG2,ite_self,Pk.EVL,Pk.EVD,↓reduceIte,Nat.reduceAdd,Int.reduceNeg]
 ·simp +decide only [h4,tk,zaw,hG2,ite_self,Pk.EVL,Pk.EVD,Int.reduceNeg]
/-- What the rounds of slices.DeleteFunc make of the row. -/
def DelI (A : List Int) (st : Int) (V : List Itv) (j : Nat) (K Z : List Itv) : Prop:=K = (V.take j).filter (missB A st) ∧ K.length + Z.length = j ∧ Z ≠ []
theorem del_loopV (V W : List Itv) (hV : V.length ≤ 1000) (hx : ∀ x ∈ V,x.acting.length ≤ 1000) (i0 : Nat) (hi0 : i0 < V.length) (K0 : List Itv) (T : Tm) (hD : DelI A st V (i0 + 1) K0 [V[i0]]) (hT0 : lk T 0 = .view m (V ++ W).length 2 0 V.length) (hT1 : lk T 1 = .fn F_q08 [] [.ptr (m + 1) 0]) (hT5 : lk T 5 = .d (.i .i64 (i0 : Nat))) (hK0 : K0.length = i0) (hT6 : lk T 6 = .d (.i .i64 ((i0 + 1 : Nat) : Int))) (hE0 : V = K0 ++ ([V[i0]] ++ V.drop (i0 + 1))) :
  ∃ e T' H',evL C zhw zhe (m + 2) T (hr G0 [.arr ((V ++ W).map Itv.d) true,.box (fnM fe)]) = some (e,T',H') ∧
   e = .exit 0 ∧ ∃ Z,DelI A st V V.length (V.filter (missB A st)) Z ∧ lk T' 0 = .view m (V ++ W).length 2 0 V.length ∧ lk T' 5 = .d (.i .i64 ((V.filter (missB A st)).length : Nat)) ∧ H' = hr G0 [.arr ((V.filter (missB A st) ++ (Z ++ W)).map Itv.d) true,.box (fnM fe)]:=by
 have g:=hr_at hm
 have g0:=zbm hm
 have st_:=zb2 hm
 have st0:=zbc hm
 have ln:=zbb hm
 have tk:=za9 hm
 have hG2:=hG 2
 have hfl:=zem hfe
 have m1 : (m < m + 2) = True:=eq_true (by omega)
 have m2 : (m + 1 < m + 2) = True:=eq_true (by omega)
 refine zac (fun j T H => lk T 0 = .view m (V ++ W).length 2 0 V.length ∧ lk T 1 = .fn F_q08 [] [.ptr (m + 1) 0] ∧ lk T 6 = .d (.i .i64 (j : Nat)) ∧ j ≤ V.length ∧ ∃ K Z J,DelI A st V j K Z ∧ lk T 5 = .d (.i .i64 (K.length : Nat)) ∧ H = hr G0 (.arr ((K ++ (Z ++ (V.drop j ++ W))).map Itv.d) true :: .box (fnM fe) :: J))
  (fun e T H => e = .exit 0 ∧ ∃ Z,DelI A st V V.length (V.filter (missB A st)) Z ∧ lk T 0 = .view m (V ++ W).length 2 0 V.length ∧ lk T 5 = .d (.i .i64 ((V.filter (missB A st)).length : Nat)) ∧ H = hr G0 [.arr ((V.filter (missB A st) ++ (Z ++ W)).map Itv.d) true,.box (fnM fe)]) V.length ?_ ?_ (V.length - (i0 + 1)) (i0 + 1) _ _ (by omega) ⟨hT0,hT1,hT6,by omega,K0,[V[i0]],[],hD,by rw [hK0]; exact hT5,?_⟩
 ·rintro j T H hj ⟨h0, h1, h6, _, K, Z, J, ⟨hK, hKZ, hZ⟩, h5, rfl⟩
  obtain ⟨y,hy⟩ : ∃ y,V[j]? = some y:=⟨V[j]'hj,List.getElem?_eq_getElem _⟩
  have hdrop : V.drop j = y :: V.drop (j + 1):=by rw [List.drop_eq_getElem_cons hj,(List.getElem?_eq_some_iff.1 hy).2]
  have hgood:=hx y (List.mem_of_getElem? hy)
  obtain ⟨z,Z1,rfl⟩ : ∃ z Z1,Z = z :: Z1:=by
   cases Z with
   | nil => exact absurd rfl hZ
   | cons z Z1 => exact ⟨z,Z1,rfl⟩
  have hNl : ((K ++ (z :: Z1 ++ (V.drop j ++ W))).map Itv.d).length = (V ++ W).length:=by
   simp only [List.length_map,List.length_append,List.length_cons,List.length_drop] at hKZ ⊢
   omega
  have hyd : ((K ++ (z :: Z1 ++ (V.drop j ++ W))).map Itv.d)[j]? = some y.d:=by
   rw [List.getElem?_map,List.getElem?_append_right (by omega),List.getElem?_append_right (by omega),hdrop]
   rw [show j - K.length - (z :: Z1).length = 0 by omega]
   rfl
  have hzd : ((K ++ (z :: Z1 ++ (V.drop j ++ W))).map Itv.d)[K.length]? = some z.d:=by
   rw [List.getElem?_map,List.getElem?_append_right (by omega),Nat.sub_self]
   rfl
  have hup : ((K ++ (z :: Z1 ++ (V.drop j ++ W))).map Itv.d).set K.length (.agg y.cs) = ((K ++ [y]) ++ ((Z1 ++ [y]) ++ (V.drop (j + 1) ++ W))).map Itv.d:=by
   rw [hdrop]
   simp only [List.map_append,List.map_cons,List.append_assoc,List.cons_append,List.nil_append]
   rw [List.set_append_right _ _ (by simp)]
   simp [Itv.d_eq]
  have hkeep : ((K ++ (z :: Z1 ++ (V.drop j ++ W))).map Itv.d) = (K ++ ((z :: Z1 ++ [y]) ++ (V.drop (j + 1) ++ W))).map Itv.d:=by
   rw [hdrop]; simp
  have hcl:=zsl hm hG hA hfe y hgood ((K ++ (z :: Z1 ++ (V.drop j ++ W))).map Itv.d) (.agg y.cs)
  have hKl : K.length ≤ V.length:=by rw [hK]; exact Nat.le_trans (List.length_filter_le _ _) (by rw [List.length_take]; omega)
  have hd : decide ((j : Int) < ((V.length : Nat) : Int)) = true:=by simp; omega
  have hd' : ((j : Int) < ((V.length : Nat) : Int)) = True:=eq_true (by omega)
  have hw : IntKind.i64.wrap ((j : Int) + 1) = ((j + 1 : Nat) : Int):=wi64 (by omega)
  have hwk : IntKind.i64.wrap ((K.length : Int) + 1) = ((K.length + 1 : Nat) : Int):=wi64 (by omega)
  have hkd : ((K.length : Int) < ((V.length : Nat) : Int)) = True:=eq_true (by simp at hKZ; omega)
  have b0 : ∀ k : Nat,(0 ≤ (k : Int)) = True:=fun k => by simp
  have hu : upd Itv.zeroA 0 (List.map AV.d y.cs) = List.map AV.d y.cs:=rfl
  have htake : V.take (j + 1) = V.take j ++ [y]:=zag hy
  simp only [fnM] at hcl ⊢
  cases c : missB A st y with
  | true =>
   rw [c] at hcl
   have hup':=hup
   generalize ((K ++ (z :: Z1 ++ (V.drop j ++ W))).map Itv.d) = E at *
   generalize (V ++ W).length = N at *
   simp +decide only [zhw,zhe,h0,h1,h5,h6,g,g0,st_,st0,ln,tk,zao,zaw,hG2,hfl,m1,m2,hNl,hyd,hzd,hup,hcl,hd',hw,hwk,hkd,b0,hu,Int.toNat_natCast,Bool.not_true,Bool.not_false,Pk.EVL,Pk.EVD,↓reduceIte,Nat.reduceAdd,Pk.TY_Itv]
   refine ⟨_,_,_,rfl,.inl ⟨rfl,rfl,rfl,rfl,by omega,K ++ [y],Z1 ++ [y],[.box (.d (.agg y.cs))],⟨?_,?_,by simp⟩,?_,by simp⟩⟩
   ·rw [htake,List.filter_append,← hK]; simp [c]
   ·simp at hKZ ⊢; omega
   ·rw [List.length_append]; rfl
  | false =>
   rw [c] at hcl
   clear hup
   generalize ((K ++ (z :: Z1 ++ (V.drop j ++ W))).map Itv.d) = E at *
   generalize (V ++ W).length = N at *
   simp +decide only [zhw,zhe,h0,h1,h5,h6,g,g0,st_,ln,tk,zao,zaw,hG2,hfl,m1,m2,hNl,hyd,hcl,hd',hw,b0,hu,Int.toNat_natCast,Bool.not_true,Bool.not_false,Pk.EVL,Pk.EVD,↓reduceIte,Nat.reduceAdd,Pk.TY_Itv]
   refine ⟨_,_,_,rfl,?_⟩
   refine .inl ⟨rfl,rfl,rfl,rfl,by omega,K,z :: Z1 ++ [y],[.box (.d (.agg y.cs))],⟨?_,?_,by simp⟩,rfl,by rw [hkeep]⟩
   ·rw [htake,List.filter_append,← hK]; simp [c]
   ·simp at hKZ ⊢; omega
 ·rintro T H ⟨h0, h1, h6, _, K, Z, J, ⟨hK, hKZ, hZ⟩, h5, rfl⟩
  have hd : decide (((V.length : Nat) : Int) < ((V.length : Nat) : Int)) = false:=by simp
  rw [List.take_length] at hK
  subst hK
  rw [List.drop_length,List.nil_append]
  generalize hE : ((V.filter (missB A st) ++ (Z ++ W)).map Itv.d) = E
  simp only [fnM]
  simp +decide only [zhw,zhe,h0,h1,h5,h6,ln,tk,zaw,hG2,hfl,m1,m2,Pk.EVL,Pk.EVD,↓reduceIte,Nat.reduceAdd]
  exact ⟨_,_,_,rfl,by simp,rfl,Z,⟨by rw [List.take_length],hKZ,hZ⟩,rfl,rfl,by rw [hE]⟩
 ·rw [← List.append_assoc [V[i0]],← List.append_assoc K0,← hE0]
theorem delV_at (V W : List Itv) (hV : V.length ≤ 1000) (hx : ∀ x ∈ V,x.acting.length ≤ 1000) : ∃ r,evF C F_q46 [.view m (V ++ W).length 2 0 V.length,.fn F_q08 [] [.ptr (m + 1) 0]] (hr G0 [.arr ((V ++ W).map Itv.d) true,.box (fnM fe)]) = some r ∧
  ∃ Z,(V.filter (missB A st)).length + Z.length = V.length ∧ r = (.view m (V ++ W).length 2 0 (V.filter (missB A st)).length,hr G0 [.arr ((V.filter (missB A st) ++ (Z ++ W)).map Itv.d) true,.box (fnM fe)]):=by
 have hix:=ixV_at hm hG hA hfe V W hV hx
 have g:=hr_at hm
 have g0:=zbm hm
 have st_:=zb2 hm
 have st0:=zbc hm
 have ln:=zbb hm
 have tk:=za9 hm
 have hG2:=hG 2
 have hfl:=zem hfe
 have m1 : (m < m + 2) = True:=eq_true (by omega)
 have m2 : (m + 1 < m + 2) = True:=eq_true (by omega)
 have hnn : (fun q => !(!missB A st q)) = missB A st:=by funext q; simp
 rw [zaa (rfl : C F_q46 = some a_q46) _ _ rfl]
 rcases zri (fun x => !missB A st x) V 0 with ⟨h1,h2⟩ | ⟨j,h1,h2,h3,x,h4,h5⟩
 ·rw [hnn] at h2
  rw [h1] at hix
  rw [h2]
  refine ⟨_,?_,[],by simp,rfl⟩
  simp only [List.nil_append]
  have hlen : ((V ++ W).map Itv.d).length = (V ++ W).length:=List.length_map _
  generalize hE : (V ++ W).map Itv.d = E at *
  generalize (V ++ W).length = N at *
  simp only [fnM] at hix ⊢
  simp +decide only [c_q46,hix,g0,st0,hlen,ln,tk,zaw,hG2,hfl,m1,m2,Pk.EVL,Pk.EVD,↓reduceIte,Nat.reduceAdd,Int.reduceNeg]
 ·rw [hnn] at h3
  rw [h2,Nat.zero_add] at hix
  have hxj : V[j] = x:=(List.getElem?_eq_some_iff.1 h4).2
  have hm0 : missB A st x = false:=by simpa using h5
  have hE0 : V = V.take j ++ ([V[j]] ++ V.drop (j + 1)):=by
   conv => lhs; rw [← List.take_append_drop j V,List.drop_eq_getElem_cons h1]
   rfl
  have hD : DelI A st V (j + 1) (V.take j) [V[j]]:=by
   refine ⟨?_,by rw [List.length_take]; simp; omega,by simp⟩
   rw [zag h4,List.filter_append,h3]
   simp [hm0]
  have htl : (V.take j).length = j:=by rw [List.length_take]; omega
  have hw : IntKind.i64.wrap ((j : Int) + 1) = ((j + 1 : Nat) : Int):=wi64 (by omega)
  have hne : ((j : Int) == -1) = false:=by rw [beq_eq_false_iff_ne]; omega
  have hlen : ((V ++ W).map Itv.d).length = (V ++ W).length:=List.length_map _
  simp only [fnM] at hix
  simp +decide only [c_q46,fnM,hix,g0,st0,hlen,ln,zaw,hG2,hfl,m1,m2,hw,hne,thaws,Pk.EVL,Pk.EVD,↓reduceIte,Nat.reduceAdd,Int.reduceNeg]
  simp only [Option.bind_assoc]
  refine bind_ex (del_loopV hm hG hA hfe V W hV hx j h1 (V.take j) _ hD rfl rfl rfl htl rfl hE0) ?_
  rintro e T' H' ⟨rfl,Z,⟨_,hZl,_⟩,h0,h5,rfl⟩
  have hfl : (V.filter (missB A st)).length ≤ V.length:=List.length_filter_le _ _
  refine ⟨_,?_,List.replicate Z.length Itv.zero,by rw [List.length_replicate]; exact hZl,rfl⟩
  have hNl : ((V.filter (missB A st) ++ (Z ++ W)).map Itv.d).length = (V ++ W).length:=by
   simp only [List.length_map,List.length_append]; omega
  have hup : upd ((V.filter (missB A st) ++ (Z ++ W)).map Itv.d) (V.filter (missB A st)).length (List.replicate (V.length - (V.filter (missB A st)).length) (.agg [.i .u32 0,.sl []])) = (V.filter (missB A st) ++ (List.replicate Z.length Itv.zero ++ W)).map Itv.d:=by
   rw [show V.length - (V.filter (missB A st)).length = Z.length by omega]
   unfold upd
   rw [List.map_append,List.map_append,List.take_left' (by simp),List.drop_append,List.drop_eq_nil_of_le (by simp)]
   simp [Itv.d,Itv.cs,Itv.zero]
  have hk0 : (0 ≤ ((V.filter (missB A st)).length : Int)) = True:=by simp
  have hkn : (((V.filter (missB A st)).length : Int) ≤ (V.length : Int)) = True:=eq_true (by omega)
  have hoff : ((V.filter (missB A st)).length + (V.length - (V.filter (missB A st)).length) ≤ (V ++ W).length) = True:=eq_true (by rw [List.length_append]; omega)
  generalize (V.filter (missB A st) ++ (Z ++ W)).map Itv.d = E at *
  generalize (V.filter (missB A st) ++ (List.replicate Z.length Itv.zero ++ W)).map Itv.d = E' at *
  generalize (V.filter (missB A st)).length = k at *
  generalize (V ++ W).length = N at *
  simp +decide only [fnM,h0,h5,g0,st0,ln,tk,zaw,hG2,m1,hNl,hup,hk0,hkn,hoff,ite_self,Nat.sub_zero,Int.toNat_natCast,Pk.EVL,Pk.EVD,↓reduceIte,Nat.reduceAdd,Nat.reduceBNe]
end
end Go.Proofs.YthlpognahlnaaaaGreat
