/- choose.Lacks,choose.Enough,choose.Serves. / choose.Lacks,choose.Enough,choose.Serves,with objects behind the history that may hold references. / The document's maps: which are maps (the reference's Is). / The document's increments and histories (layer 3 to 5's reference). / The document's histories: Last,Map,Add (the reference's),amid other objects. -/
import Derived.Test.YthlpognahlnaaaaGreatPkEvd
import Derived.Test.YthlpognahlnaaaaGreatChB
import Derived.Test.YthlpognahlnaaaaGreatObjB
import Derived.Test.YthlpognahlnaaaaGreatHsB
set_option linter.all false
namespace Go.Proofs.YthlpognahlnaaaaGreat
open Pv Go Pk
set_option maxRecDepth 10000
set_option maxHeartbeats 4000000
/-- The intervals of which nobody was heard. -/
def lacksL (l : List Inc) (g : Int) (A : List Int) (st : Int) : List Itv:=((ivL l g).take ((ivL l g).length - 1)).filter (missB A st)
theorem plain_fn {fe : AV} {A : List Int} {st : Int} (h : isEar fe A st) (X : Heap) (hX : plain X) : plain (.box (fnM fe) :: X):=fun n => by
 rw [List.all_cons,hX n]
 simp [ltO,fnM,lt,lts,zem h]
/-- How who was heard is handed over: a row,or nil. -/
def isHv (hv : AV) (A : List Int) : Prop:=hv = .d (.sl (A.map fun x => .i .i64 x)) ∨ (hv = .nilS ∧ A = [])
theorem zoh {hv : AV} {A : List Int} (h : isHv hv A) (H : Heap) (o : Nat) (g st : Int) :
  frzL [false,false,true,false] H [.ptr o 0,.d (.i .u8 g),hv,.d (.i .u32 st)] = ([.ptr o 0,.d (.i .u8 g),.d (.sl (A.map fun x => .i .i64 x)),.d (.i .u32 st)],H):=by
 rcases h with rfl | ⟨rfl,rfl⟩ <;> rfl
/-- Who was heard,handed over as an array that is written no more. -/
theorem frz_view (o j k : Nat) (es : List DV) (wr : Bool) (H : Heap) (g st : Int) (hj : H[j]? = some (.arr es wr)) (hk : es.length = k) :
  frzL [false,false,true,false] H [.ptr o 0,.d (.i .u8 g),.view j k 1 0 k,.d (.i .u32 st)] = ([.ptr o 0,.d (.i .u8 g),.d (.sl es),.d (.i .u32 st)],H.set j (.arr es false)):=by
 have : subL es 0 k = es:=by unfold subL; rw [List.drop_zero]; exact List.take_of_length_le (by omega)
 simp [frzL,frzV,toD,hj,hk,this]
section
variable {P : Heap} {p n : Nat} (hP : P.length = p) (hn : p + 12 = n) (hPp : plain P)
include hP hn hPp
omit hP hn hPp in
theorem plain_hv {hv : AV} {A : List Int} (h : isHv hv A) : plain [.box hv]:=by
 rcases h with rfl | ⟨rfl,_⟩
 ·exact fun _ => rfl
 ·exact fun _ => rfl
omit hP hn hPp in
theorem silent_at {hv : AV} {A : List Int} (hhv : isHv hv A) (hA : A.length ≤ 1000) (x : Int) (H : Heap) (m : Nat) (hb : H[m]? = some (.box hv)) : evF C F_q06 [.d (.i .i64 x),.ptr m 0] H = some (.d (.b (!decide (x ∈ A))),H):=by
 have hc:=zih A x hA
 rw [zaa (rfl : C F_q06 = some a_q06) _ _ rfl]
 rcases hhv with rfl | ⟨rfl,rfl⟩
 ·simp +decide only [c_q06,hb,hc,ite_self,List.take_length,Pk.EVL,Pk.EVD,↓reduceIte,Nat.reduceAdd]
 ·have hc : evF C F_q45 [.d (.sl []), .d (.i .i64 x)] [] = some (.d (.b (decide (x ∈ ([] : List Int)))), []) := hc
  simp +decide only [c_q06,hb,hc,ite_self,List.take_length,Pk.EVL,Pk.EVD,↓reduceIte,Nat.reduceAdd]
omit hP hn hPp in
/-- slices.ContainsFunc over whole numbers,of a function that looks at a variable. -/
theorem cfuncP_at (F : FuncId) (m : Nat) (pr : Int → Bool) (B : List Int) (hB : B.length ≤ 1000) (H : Heap) (hcall : ∀ x ∈ B,evF C F [.d (.i .i64 x),.ptr m 0] H = some (.d (.b (pr x)),H)) :
  evF C F_q44 [.d (.sl (B.map fun x => .i .i64 x)),.fn F [] [.ptr m 0]] H = some (.d (.b (B.any pr)),H):=by
 have hidx : evF C F_q4c [.d (.sl (B.map fun x => .i .i64 x)),.fn F [] [.ptr m 0]] H = some (.d (.i .i64 (ixI pr B 0)),H):=by
  have hl : (B.map fun x : Int => DV.i .i64 x).length = B.length:=List.length_map _
  rw [zaa (rfl : C F_q4c = some a_q4c) _ _ rfl]
  simp +decide only [c_q4c,hl,thaws,Pk.EVL,Pk.EVD,↓reduceIte,Nat.reduceAdd,Int.reduceNeg]
  simp only [Option.bind_assoc]
  refine zaf (zac (fun i T G => lk T 0 = .d (.sl (B.map fun x => .i .i64 x)) ∧ lk T 1 = .fn F [] [.ptr m 0] ∧ lk T 7 = .d (.i .i64 (B.length : Nat)) ∧ lk T 8 = .d (.i .i64 (i : Nat)) ∧ G = H ∧ ixI pr (B.drop i) i = ixI pr B 0)
   (fun x T G => G = H ∧ ((x = .exit 0 ∧ ixI pr B 0 = -1) ∨ (x = .ret ∧ lk T 4 = .d (.i .i64 (ixI pr B 0))))) B.length ?_ ?_ B.length 0 _ _ (by omega) ⟨rfl,rfl,rfl,rfl,rfl,rfl⟩) ?_
  ·rintro i T G hi ⟨h0, h1, h7, h8, rfl, hni⟩
   obtain ⟨y,hy⟩ : ∃ y,B[i]? = some y:=⟨B[i]'hi,List.getElem?_eq_getElem _⟩
   have hyd:=zae (fun x : Int => DV.i .i64 x) hy
   have hcl:=hcall y (List.mem_of_getElem? hy)
   rw [zmi hy] at hni
   have hd : decide ((i : Int) < ((B.length : Nat) : Int)) = true:=by simp; omega
   have hw : IntKind.i64.wrap ((i : Int) + 1) = ((i + 1 : Nat) : Int):=wi64 (by omega)
   have b0 : (0 ≤ (i : Int)) = True:=by simp
   cases c : pr y with
   | true =>
    rw [c] at hcl
    rw [if_pos c] at hni
    rw [← hni]
    simp +decide only [za7,za6,h0,h1,h7,h8,hyd,hcl,hd,b0,ite_self,List.take_length,Pk.EVL,Pk.EVD,↓reduceIte,reduceCtorEq,Int.reduceNeg]
    exact ⟨_,_,_,rfl,.inr ⟨by simp,rfl,rfl,rfl⟩⟩
   | false =>
    rw [c] at hcl
    rw [if_neg (by simp [c])] at hni
    simp +decide only [za7,za6,h0,h1,h7,h8,hyd,hcl,hd,hw,b0,ite_self,List.take_length,Pk.EVL,Pk.EVD,↓reduceIte,Int.reduceNeg]
    exact ⟨_,_,_,rfl,.inl ⟨rfl,rfl,rfl,rfl,rfl,rfl,hni⟩⟩
  ·rintro T G ⟨h0, h1, h7, h8, rfl, hni⟩
   rw [List.drop_length] at hni
   have hd : decide (((B.length : Nat) : Int) < ((B.length : Nat) : Int)) = false:=by simp
   simp +decide only [za7,za6,h0,h1,h7,h8,ite_self,List.take_length,Pk.EVL,Pk.EVD,↓reduceIte,Int.reduceNeg]
   exact ⟨_,_,_,rfl,by simp,rfl,.inl ⟨rfl,hni.symm⟩⟩
  rintro x T G ⟨rfl,⟨rfl,h⟩ | ⟨rfl,h4⟩⟩
  ·simp +decide only [h,ite_self,List.take_length,Pk.EVL,Pk.EVD,↓reduceIte,Int.reduceNeg]
  ·simp +decide only [h4,ite_self,List.take_length,Pk.EVL,Pk.EVD,Int.reduceNeg]
 have hj:=zmb pr B 0
 rw [zaa (rfl : C F_q44 = some a_q44) _ _ rfl]
 simp +decide only [c_q44,hidx,hj,ite_self,List.take_length,Pk.EVL,Pk.EVD,↓reduceIte,Nat.reduceAdd]
def enoughB (l : List Inc) (g : Int) (A : List Int) (st : Int) : Bool:=decide ((lacksL l g A st).length = 0) && !((lastI (ivL l g)).acting.any fun x => !decide (x ∈ A))
end
end Go.Proofs.YthlpognahlnaaaaGreat

namespace Go.Proofs.YthlpognahlnaaaaGreat
open Pv Go Pk
set_option maxRecDepth 10000
set_option maxHeartbeats 4000000
theorem hrz (P S : Heap) (p : Nat) (l : List Inc) (q : Grb) (X L : Heap) : hr (hz P S p l q X) L = hz P S p l q (X ++ L):=zdk _ _ _ _ _ _ _
section
variable {P S : Heap} {p n : Nat} (hP : P.length = p) (hn : p + 12 + S.length = n) (hPp : plain P) (hS : ∀ k,S.all (ltO (n + k)) = true)
include hP hn hPp hS
theorem zlacks_at {l : List Inc} (hl : goodI l) {q : Grb} (hq : q.pl) {X : Heap} (hX : plain X) {m : Nat} (hm : n + X.length = m) (g : Int) (hg : 0 ≤ g ∧ g < 4) {hv : AV} {A : List Int} (hhv : isHv hv A) (hA : A.length ≤ 1000) (st : Int) :
  ∃ r,evF C F_q07 [.ptr (p + 2) 0,.d (.i .u8 g),hv,.d (.i .u32 st)] (hz P S p l q X) = some r ∧ ∃ Z fe,isEar fe A st ∧ (lacksL l g A st).length + Z.length = (ivL l g).length ∧
   r = (.view m (ivL l g).length 2 0 (lacksL l g A st).length,hr (hz P S p l (q.frz g) X) [.arr ((lacksL l g A st ++ Z).map Itv.d) true,.box (fnM fe)]):=by
 have hI:=zm0 hP hn hPp hS hl hq hX hm g hg
 rw [← hrz] at hI
 have hq':=Grb.frz_pl hq g
 generalize q.frz g = q' at *
 have hN:=zr2 l g hg
 have hN2:=zlb hl g hg
 have hl59:=hl.1
 have hlen : (hz P S p l q X).length = m:=by rw [zcj hP hn,hm]
 have hmG : (hz P S p l q' X).length = m:=by rw [zcj hP hn,hm]
 have hG : ∀ k,(hz P S p l q' X).all (ltO (m + k)) = true:=fun k => by
  have:=zf4 hP hn hPp hS l hq' hX (X.length + k)
  rwa [show n + (X.length + k) = m + k by omega] at this
 obtain ⟨w,hw⟩ : ∃ w,ivL l g = (ivL l g).take ((ivL l g).length - 1) ++ [w]:=by
  refine ⟨(ivL l g)[(ivL l g).length - 1]'(by omega),?_⟩
  have h:=List.take_append_drop ((ivL l g).length - 1) (ivL l g)
  rw [List.drop_eq_getElem_cons (by omega),List.drop_eq_nil_of_le (by omega)] at h
  exact h.symm
 have hmem : ∀ x ∈ (ivL l g).take ((ivL l g).length - 1),x.acting.length ≤ 1000:=fun x hx => by have:=zq2 hl g x (List.mem_of_mem_take hx); omega
 have hVl : ((ivL l g).take ((ivL l g).length - 1)).length = (ivL l g).length - 1:=by rw [List.length_take]; omega
 have g1:=hr_at hmG
 have g0:=zbm hmG
 have s1:=zb2 hmG
 have s0:=zbc hmG
 have ln:=zbb hmG
 have hw1 : IntKind.i64.wrap (((ivL l g).length : Int) - 1) = (((ivL l g).length - 1 : Nat) : Int):=by rw [wi64 (by omega)]; omega
 have hzl : ((((ivL l g).length : Nat) : Int) == 0) = false:=by rw [beq_eq_false_iff_ne]; omega
 have hb0 : (0 ≤ (((ivL l g).length - 1 : Nat) : Int)) = True:=eq_true (by omega)
 have hb1 : ((((ivL l g).length - 1 : Nat) : Int) ≤ (((ivL l g).length : Nat) : Int)) = True:=eq_true (by omega)
 have mf : (m < m) = False:=eq_false (Nat.lt_irrefl m)
 have ml : (m ≤ m + 1) = True:=eq_true (by omega)
 have hEl : ((ivL l g).map Itv.d).length = (ivL l g).length:=List.length_map _
 have fin : ∀ fe,isEar fe A st → (∀ D : AV × Heap,evF C F_q46 [.view m (ivL l g).length 2 0 ((ivL l g).length - 1),.fn F_q08 [] [.ptr (m + 1) 0]] (hr (hz P S p l q' X) [.arr ((ivL l g).map Itv.d) true,.box (fnM fe)]) = some D →
   (∃ k E,D = (.view m (ivL l g).length 2 0 k,hr (hz P S p l q' X) [.arr E true,.box (fnM fe)])) → evF C F_q07 [.ptr (p + 2) 0,.d (.i .u8 g),hv,.d (.i .u32 st)] (hz P S p l q X) = some D) →
   ∃ r,evF C F_q07 [.ptr (p + 2) 0,.d (.i .u8 g),hv,.d (.i .u32 st)] (hz P S p l q X) = some r ∧ ∃ Z fe,isEar fe A st ∧ (lacksL l g A st).length + Z.length = (ivL l g).length ∧
   r = (.view m (ivL l g).length 2 0 (lacksL l g A st).length,hr (hz P S p l q' X) [.arr ((lacksL l g A st ++ Z).map Itv.d) true,.box (fnM fe)]):=by
  intro fe hfe h
  obtain ⟨r,hr,Z,hZ,rfl⟩:=delV_at hmG hG hA hfe ((ivL l g).take ((ivL l g).length - 1)) [w] (by omega) hmem
  rw [← hw,hVl] at hr
  rw [hVl] at hZ
  refine ⟨_,h _ hr ⟨_,_,rfl⟩,Z ++ [w],fe,hfe,?_,rfl⟩
  show (lacksL l g A st).length + (Z ++ [w]).length = _
  rw [List.length_append]
  show _ + (_ + 1) = _
  unfold lacksL
  omega
 have hAe : ∀ A : List Int,(DV.agg [.sl (A.map fun x => .i .i64 x),.i .u32 st]) = .agg (earD A st):=fun _ => rfl
 have hz:=zoh hhv (hz P S p l q X) (p + 2) g st
 refine fin (.d (.agg (earD A st))) (.inl rfl) ?_
 rintro D hD ⟨k,E,rfl⟩
 rw [za3 (rfl : C F_q07 = some f_q07) _ _ _ _ hz rfl]
 simp only [fnM] at hD ⊢
 simp +decide only [c_q07,hI,hD,hlen,g1,g0,s1,s0,ln,zao,hw1,hzl,hb0,hb1,mf,ml,hEl,hAe,Nat.sub_zero,Int.toNat_natCast,Pk.EVL,Pk.EVD,↓reduceIte,Nat.reduceAdd,Nat.reduceBNe]
theorem zsn {l : List Inc} (hl : goodI l) {q : Grb} (hq : q.pl) {X : Heap} (hX : plain X) {m : Nat} (hm : n + X.length = m) (g : Int) (hg : 0 ≤ g ∧ g < 4) {hv : AV} {A : List Int} (hhv : isHv hv A) (hA : A.length ≤ 1000) (st : Int) :
  evF C F_q05 [.ptr (p + 2) 0,.d (.i .u8 g),hv,.d (.i .u32 st)] (hz P S p l q X) = some (.d (.b (enoughB l g A st)),hz P S p l (q.frz g) X):=by
 have hz:=zoh hhv (hz P S p l q X) (p + 2) g st
 rw [za3 (rfl : C F_q05 = some f_q05) _ _ _ _ hz rfl]
 clear hz hhv
 obtain ⟨hv,hve⟩ : ∃ hv,hv = AV.d (.sl (A.map fun x => .i .i64 x)):=⟨_,rfl⟩
 have hhv : isHv hv A:=.inl hve
 rw [← hve]
 have hX1 : plain (X ++ [.box hv]):=by rw [zg0]; exact ⟨hX,plain_hv hhv⟩
 obtain ⟨r,hr,Z,fe,hfe,hZ,rfl⟩:=zlacks_at hP hn hPp hS hl hq hX1 (m:=m + 1) (by rw [List.length_append]; simp; omega) g hg hhv hA st
 have hq':=Grb.frz_pl hq g
 generalize q.frz g = q' at *
 rw [hrz] at hr
 have hX2 : plain (X ++ [.box hv] ++ [.arr ((lacksL l g A st ++ Z).map Itv.d) true,.box (fnM fe)]):=by
  rw [zg0]
  refine ⟨hX1,?_⟩
  rw [plain_arr]
  exact plain_fn hfe [] (fun _ => rfl)
 have AC:=z_acting hP hn hPp hS hl hq' hX2 g hg.1
 have hlen : (hz P S p l q X).length = m:=by rw [zcj hP hn,hm]
 have hx0 : (hz P S p l q X ++ [.box hv])[m]? = some (.box hv):=by rw [List.getElem?_append_right (by omega),hlen,Nat.sub_self]; rfl
 have hx1 : (hz P S p l q' (X ++ [.box hv] ++ [.arr ((lacksL l g A st ++ Z).map Itv.d) true,.box (fnM fe)]))[m]? = some (.box hv):=by
  rw [← zdk,← zdk,List.append_assoc,List.getElem?_append_right (by rw [zcj hP hn]; omega),zcj hP hn,hm,Nat.sub_self]
  rfl
 have hlen2 : (hz P S p l q' (X ++ [.box hv] ++ [.arr ((lacksL l g A st ++ Z).map Itv.d) true,.box (fnM fe)])).length = m + 3:=by
  rw [zcj hP hn]; simp only [List.length_append,List.length_cons,List.length_nil]; omega
 have htk : List.take m (hz P S p l q' (X ++ [.box hv] ++ [.arr ((lacksL l g A st ++ Z).map Itv.d) true,.box (fnM fe)])) = hz P S p l q' X:=by
  rw [← hm,zq1 hP hn,List.append_assoc,List.take_left' rfl]
 have hall : (hz P S p l q' X).all (ltO m) = true:=by have:=zf4 hP hn hPp hS l hq' hX X.length; rwa [hm] at this
 have hlast:=zdl hl g
 have CF:=cfuncP_at F_q06 m (fun x => !decide (x ∈ A)) (lastI (ivL l g)).acting (by omega) _ (fun x _ => silent_at hhv hA x _ m hx1)
 have hpush : hz P S p l q X ++ [.box hv] = hz P S p l q (X ++ [.box hv]):=zdk _ _ _ _ _ _ _
 rw [hpush] at hx0
 have hlen1 : (hz P S p l q (X ++ [.box hv])).length = m + 1:=by rw [zcj hP hn]; simp only [List.length_append,List.length_cons,List.length_nil]; omega
 have ml : (m + 1 ≤ m + 3) = True:=eq_true (by omega)
 unfold enoughB
 generalize hz P S p l q' (X ++ [.box hv] ++ [.arr ((lacksL l g A st ++ Z).map Itv.d) true,.box (fnM fe)]) = G2 at *
 generalize (lastI (ivL l g)).acting = ac at *
 by_cases c : (lacksL l g A st).length = 0
 ·have hz : ((((lacksL l g A st).length : Nat) : Int) == 0) = true := by simp [c]
  have hz':=decide_eq_true c
  subst hve
  simp +decide only [c_q05,hpush,hlen,hlen1,hlen2,hx0,hr,AC,CF,htk,hall,hz,hz',ml,Pk.EVL,Pk.EVD,↓reduceIte,Nat.reduceAdd]
 ·have hz : ((((lacksL l g A st).length : Nat) : Int) == 0) = false := by rw [beq_eq_false_iff_ne]; omega
  have hz':=decide_eq_false c
  subst hve
  simp +decide only [c_q05,hpush,hlen,hlen1,hlen2,hx0,hr,htk,hall,hz,hz',ml,Pk.EVL,Pk.EVD,↓reduceIte,Nat.reduceAdd]
end
end Go.Proofs.YthlpognahlnaaaaGreat

namespace Go.Proofs.YthlpognahlnaaaaGreat
open Pv Go Pk
set_option maxRecDepth 10000
set_option maxHeartbeats 2000000
def okOs (m : Pk.Mp) (i : Nat) : Bool:=!(decide ((m.osds.get i).weight < 0) || (decide ((m.osds.get i).weight > 16) || decide ((m.osds.get i).host ≥ 8)))
theorem oks_allR (m : Pk.Mp) : (osL m).all Osd.ok = allN 5 (okOs m):=rfl
theorem zrf (m : Pk.Mp) : evF C F_q28 [.d (.agg m.cs)] [] = some (.d (.b (isM m.epoch (osL m))),[]):=by
 rw [zaa (rfl : C F_q28 = some a_q28) _ _ rfl]
 unfold isM
 rw [oks_allR]
 simp +decide only [c_q28,Pk.EVL,Pk.EVD,↓reduceIte]
 simp only [Option.bind_assoc]
 refine zaf (zac (fun i T H => lk T 1 = .ptr 0 0 ∧ lk T 3 = .d (.i .i64 (i : Nat)) ∧ (∃ J,H = .box (.d (.agg m.cs)) :: J) ∧ ∀ j < i,okOs m j = true)
  (fun e T H => (e = .exit 0 ∧ lk T 1 = .ptr 0 0 ∧ H = [.box (.d (.agg m.cs))] ∧ allN 5 (okOs m) = true) ∨ (e = .ret ∧ lk T 2 = .d (.b false) ∧ (∃ J,H = .box (.d (.agg m.cs)) :: J) ∧ allN 5 (okOs m) = false)) 5 ?_ ?_ 5 0 _ _ (by omega) ⟨rfl,rfl,⟨[],rfl⟩,by omega⟩) ?_
 ·rintro i T H hi ⟨h1, h3, ⟨J, rfl⟩, hj⟩
  have hd : decide ((i : Int) < 5) = true:=by simp; omega
  have hw : IntKind.i64.wrap ((i : Int) + 1) = ((i + 1 : Nat) : Int):=wi64 (by omega)
  have b3 : ((i : Int) < ((5 : Nat) : Int)) = True:=by simp; omega
  have b3' : (0 ≤ (i : Int)) = True:=by simp
  have b4 : (1 + i * 3 + 3 ≤ 16) = True:=by simp; omega
  have hok : okOs m i = !(decide ((m.osds.get i).weight < 0) || (decide ((m.osds.get i).weight > 16) || decide ((m.osds.get i).host ≥ 8))):=rfl
  have fin : okOs m i = true → ∀ j < i + 1,okOs m j = true:=fun h j hj' => by
   by_cases e : j = i
   ·rw [e]; exact h
   ·exact hj j (by omega)
  have bad : okOs m i = false → allN 5 (okOs m) = false:=fun h => zbn fun hh => by rw [hh i hi] at h; simp at h
  have hzz : Osd.zero = (⟨false,0,0⟩ : Pk.Osd):=rfl
  rcases Bool.eq_false_or_eq_true (decide ((m.osds.get i).weight < 0)) with q1 | q1
  ·simp +decide only [zfs, ze7, h1, h3, hd, b3, b3', b4, hi, q1, Pk.EVL, Pk.EVD, ↓reduceIte, Nat.reduceAdd, Pk.TY_Mp, Pk.TY_Osd]
   refine ⟨_,_,_,rfl,?_⟩
   exact .inr ⟨by simp,.inr ⟨rfl,rfl,⟨_,rfl⟩,bad (by rw [hok,q1]; simp)⟩⟩
  rcases Bool.eq_false_or_eq_true (decide ((m.osds.get i).weight > 16)) with q2 | q2
  ·simp +decide only [zfs, ze7, h1, h3, hd, b3, b3', b4, hi, q1, q2, Pk.EVL, Pk.EVD, ↓reduceIte, Nat.reduceAdd, Pk.TY_Mp, Pk.TY_Osd]
   refine ⟨_,_,_,rfl,?_⟩
   exact .inr ⟨by simp,.inr ⟨rfl,rfl,⟨_,rfl⟩,bad (by rw [hok,q1,q2]; simp)⟩⟩
  rcases Bool.eq_false_or_eq_true (decide ((m.osds.get i).host ≥ 8)) with q3 | q3
  ·simp +decide only [zfs, ze7, h1, h3, hd, b3, b3', b4, hi, q1, q2, q3, Pk.EVL, Pk.EVD, ↓reduceIte, Nat.reduceAdd, Pk.TY_Mp, Pk.TY_Osd]
   refine ⟨_,_,_,rfl,?_⟩
   exact .inr ⟨by simp,.inr ⟨rfl,rfl,⟨_,rfl⟩,bad (by rw [hok,q1,q2,q3]; simp)⟩⟩
  simp +decide only [zfs,ze7,h1,h3,hd,hw,b3,b3',b4,hi,q1,q2,q3,Pk.EVL,Pk.EVD,↓reduceIte,Nat.reduceAdd,Pk.TY_Mp,Pk.TY_Osd]
  refine ⟨_,_,_,rfl,?_⟩
  exact .inl ⟨rfl,rfl,rfl,⟨_,rfl⟩,fin (by rw [hok,q1,q2,q3]; rfl)⟩
 ·rintro T H ⟨h1, h3, ⟨J, rfl⟩, hj⟩
  simp +decide only [zfs,ze7,h1,h3,Pk.EVL,Pk.EVD,↓reduceIte,Pk.TY_Osd]
  refine ⟨_,_,_,rfl,?_⟩
  exact ⟨by simp,.inl ⟨rfl,rfl,rfl,za1.2 hj⟩⟩
 rintro e T H (⟨rfl,h1,rfl,ha⟩ | ⟨rfl,h2,⟨J,rfl⟩,ha⟩)
 ·rw [ha]
  rcases Bool.eq_false_or_eq_true (decide (m.epoch ≥ 1)) with c | c <;>
   simp +decide only [h1,c,Pk.EVL,Pk.EVD,↓reduceIte,Pk.TY_Mp]
 ·rw [ha]
  simp +decide only [h2,Pk.EVL,Pk.EVD,↓reduceIte]

/-! picks -/
end Go.Proofs.YthlpognahlnaaaaGreat

namespace Go.Proofs.YthlpognahlnaaaaGreat
open Pv Go Pk
set_option maxRecDepth 10000
set_option maxHeartbeats 4000000
def refIncB (x : Inc) : Bool :=
 if ((x.kind == 1) || (x.kind == 2)) = true then decide (x.osd < 5) && (x.n == 0)
 else if (x.kind == 3) = true then decide (x.osd < 5) && (decide (x.n ≥ 0) && decide (x.n ≤ 16))
 else if (x.kind == 4) = true then (x.osd == 0) && (x.n == 0) else false
theorem zst (x : Inc) : refIncB x = isInc x:=by
 obtain ⟨a,b,c⟩:=x
 unfold refIncB isInc
 by_cases h1 : a = 1 <;> by_cases h2 : a = 2 <;> by_cases h3 : a = 3 <;> by_cases h4 : a = 4 <;> by_cases h5 : b = 0 <;> by_cases h6 : c = 0 <;> simp [h1,h2,h3,h4,h5,h6]
theorem refinc_at (x : Inc) : evF C F_q29 [.d (.agg x.cs)] [] = some (.d (.b (isInc x)),[]):=by
 rw [← zst,zaa (rfl : C F_q29 = some a_q29) _ _ rfl]
 unfold refIncB
 rcases Bool.eq_false_or_eq_true (x.kind == 1) with h1 | h1 <;> rcases Bool.eq_false_or_eq_true (x.kind == 2) with h2 | h2 <;> rcases Bool.eq_false_or_eq_true (x.kind == 3) with h3 | h3 <;> rcases Bool.eq_false_or_eq_true (x.kind == 4) with h4 | h4 <;>
  rcases Bool.eq_false_or_eq_true (decide (x.osd < 5)) with h5 | h5 <;> rcases Bool.eq_false_or_eq_true (decide (x.n ≥ 0)) with h6 | h6 <;> rcases Bool.eq_false_or_eq_true (x.osd == 0) with h7 | h7 <;>
  simp +decide only [c_q29,h1,h2,h3,h4,h5,h6,h7,Pk.EVL,Pk.EVD,↓reduceIte,Pk.TY_Inc]
/-- A map after an increment; whether it could. -/
def refNext (m : Mp) (x : Inc) : Mp × Bool:=if (isMp m && (isInc x && !decide (m.epoch ≥ 60))) = true then (nextM m x,true) else (Mp.zero,false)
theorem zjy (m : Mp) (x : Inc) : refNext m x = ((nextOf m x).1,decide ((nextOf m x).2 = 0)):=by
 unfold refNext nextOf
 rcases Bool.eq_false_or_eq_true (isMp m) with h | h
 ·have he := zfx h
  have : (decide (m.epoch ≥ 60)) = (m.epoch == 60):=by
   by_cases c : m.epoch = 60
   ·rw [c]; rfl
   ·rw [decide_eq_false (by omega)]
    symm
    rw [beq_eq_false_iff_ne]
    exact c
  rw [this]
  split <;> rfl
 ·rw [h]; rfl
theorem ze8 (m : Mp) (x : Inc) (hx : x.ok) : evF C F_q20 [.d (.agg m.cs),.d (.agg x.cs)] [] = some (.tup [.d (.agg (refNext m x).1.cs),.d (.b (refNext m x).2)],[]):=by
 have hm : evF C F_q28 [.d (.agg m.cs)] [] = some (.d (.b (isMp m)),[]):=zrf m
 have hi:=refinc_at x
 rw [zaa (rfl : C F_q20 = some a_q20) _ _ rfl]
 unfold refNext
 rcases Bool.eq_false_or_eq_true (isMp m) with h1 | h1
 rotate_left
 ·simp +decide only [c_q20,hm,h1,Pk.EVL,Pk.EVD,↓reduceIte,Nat.reduceAdd,Pk.TY_Mp]
 rcases Bool.eq_false_or_eq_true (isInc x) with h2 | h2
 rotate_left
 ·simp +decide only [c_q20,hm,hi,h1,h2,Pk.EVL,Pk.EVD,↓reduceIte,Nat.reduceAdd,Pk.TY_Mp,Pk.TY_Inc]
 rcases Bool.eq_false_or_eq_true (decide (m.epoch ≥ 60)) with h3 | h3
 ·simp +decide only [c_q20,hm,hi,h1,h2,h3,Pk.EVL,Pk.EVD,↓reduceIte,Nat.reduceAdd,Pk.TY_Mp,Pk.TY_Inc]
 have ho:=zeq h2
 have he:=zfx h1
 have hw : IntKind.u32.wrap (m.epoch + 1) = m.epoch + 1:=wu32 (by omega)
 have o0 : (0 ≤ x.osd) = True:=eq_true (by have:=hx; simp only [Inc.ok] at this; omega)
 have o1 : (x.osd < ((5 : Nat) : Int)) = True:=eq_true ho
 have o2 : x.osd.toNat < 5:=by omega
 have o3 : (1 + x.osd.toNat * 3 ≤ 15) = True:=eq_true (by omega)
 have o4 : (1 + x.osd.toNat * 3 + 1 ≤ 15) = True:=eq_true (by omega)
 have o5 : (1 + x.osd.toNat * 3 ≤ 14) = True:=eq_true (by omega)
 unfold nextM
 rcases Bool.eq_false_or_eq_true (x.kind == 1) with k1 | k1
 ·simp +decide only [c_q20, hm, hi, h1, h2, h3, k1, hw, o0, o1, o2, o3, Pk.EVL, Pk.EVD, ↓reduceIte, Nat.reduceAdd, Nat.reduceLeDiff, Pk.TY_Mp, Pk.TY_Inc]
  try simp
 rcases Bool.eq_false_or_eq_true (x.kind == 2) with k2 | k2
 ·simp +decide only [c_q20, hm, hi, h1, h2, h3, k1, k2, hw, o0, o1, o2, o3, Pk.EVL, Pk.EVD, ↓reduceIte, Nat.reduceAdd, Nat.reduceLeDiff, Pk.TY_Mp, Pk.TY_Inc]
  try simp
 rcases Bool.eq_false_or_eq_true (x.kind == 3) with k3 | k3
 ·simp +decide only [c_q20, hm, hi, h1, h2, h3, k1, k2, k3, hw, o0, o1, o2, o5, Pk.EVL, Pk.EVD, ↓reduceIte, Nat.reduceAdd, Nat.reduceLeDiff, Pk.TY_Mp, Pk.TY_Inc]
  try simp
 ·simp +decide only [c_q20, hm, hi, h1, h2, h3, k1, k2, k3, hw, Pk.EVL, Pk.EVD, ↓reduceIte, Nat.reduceAdd, Nat.reduceLeDiff, Pk.TY_Mp, Pk.TY_Inc]
  try simp
theorem zhi : evF C F_q21 [] [] = some (.d (.agg firstM.cs),[]):=by
 rw [zaa (rfl : C F_q21 = some a_q21) _ _ rfl]
 simp +decide only [c_q21,Pk.EVL,Pk.EVD,↓reduceIte,Nat.reduceAdd,Pk.TY_Mp]
 simp only [Option.bind_assoc]
 refine zaf (zac (fun i T H => lk T 0 = .ptr 0 0 ∧ lk T 1 = .ptr 1 0 ∧ lk T 2 = .d (.i .i64 (i : Nat)) ∧
   H = [.box (.d (.agg Mp.zero.cs)),.box (.d (.agg (Mp.cs ⟨1,⟨if 0 < i then firstM.osds.a0 else ⟨false,0,0⟩,if 1 < i then firstM.osds.a1 else ⟨false,0,0⟩,if 2 < i then firstM.osds.a2 else ⟨false,0,0⟩,if 3 < i then firstM.osds.a3 else ⟨false,0,0⟩,if 4 < i then firstM.osds.a4 else ⟨false,0,0⟩⟩⟩)))])
  (fun e T H => e = .exit 0 ∧ lk T 0 = .ptr 0 0 ∧ lk T 1 = .ptr 1 0 ∧ H = [.box (.d (.agg Mp.zero.cs)),.box (.d (.agg firstM.cs))]) 5 ?_ ?_ 5 0 _ _ (by omega) ⟨rfl,rfl,rfl,rfl⟩) ?_
 ·rintro i T H hi ⟨h0, h1, h2, rfl⟩
  obtain rfl | rfl | rfl | rfl | rfl : i = 0 ∨ i = 1 ∨ i = 2 ∨ i = 3 ∨ i = 4:=by omega
  all_goals
   simp +decide only [zp1,zqw,h0,h1,h2,Pk.EVL,Pk.EVD,↓reduceIte,Nat.reduceAdd,Nat.reduceMul,Pk.TY_Osd]
   exact ⟨_,_,_,rfl,.inl ⟨rfl,rfl,rfl,rfl,rfl⟩⟩
 ·rintro T H ⟨h0, h1, h2, rfl⟩
  simp +decide only [zp1,zqw,h0,h1,h2,Pk.EVL,Pk.EVD,↓reduceIte,Nat.reduceAdd]
  exact ⟨_,_,_,rfl,by simp,rfl,rfl,rfl,rfl⟩
 rintro e T H ⟨rfl,h0,h1,rfl⟩
 simp +decide only [h0,h1,Pk.EVL,Pk.EVD,↓reduceIte,Nat.reduceAdd,Pk.TY_Mp]
end Go.Proofs.YthlpognahlnaaaaGreat

namespace Go.Proofs.YthlpognahlnaaaaGreat
open Pv Go Pk
set_option maxRecDepth 10000
set_option maxHeartbeats 4000000
/-- A history's row as it is held: nil,or an array at place o. -/
def isRow (Q : Heap) (m : Nat) (v : AV) (l : List Inc) : Prop:=(v = .nilS ∧ l = []) ∨ ∃ o,v = .view o l.length 3 0 l.length ∧ o < m ∧ Q[o]? = some (.arr (l.map Inc.d) true)
theorem zrx {x : Inc} (h : isInc x = true ∧ 0 ≤ x.osd) : x.ok:=by
 obtain ⟨a,b,c⟩:=x
 obtain ⟨h,h0⟩:=h
 have hk:=zs9 h
 have ho:=zeq h
 simp only at hk ho h0
 have hn : 0 ≤ c ∧ c ≤ 16:=by
  unfold isInc at h
  split at h
  ·simp at h; omega
  ·split at h
   ·simp at h; exact h.2
   ·simp at h; omega
 unfold Inc.ok
 simp only
 omega
section
variable {Q : Heap} {m n0 : Nat} (hQ : Q.length = m) (hn : n0 < m) (hall : ∀ k,Q.all (ltO (m + k)) = true) {v : AV} {l : List Inc} (hv : isRow Q m v l) (hb : Q[n0]? = some (.box (.agg [v]))) (hl : goodI l)
include hQ hn hall hv hb hl
theorem zje : evF C F_q24 [.ptr n0 0] Q = some (.d (.i .u32 ((l.length : Int) + 1)),Q):=by
 have h59:=hl.1
 have hw : IntKind.u32.wrap (l.length : Int) = (l.length : Int):=wu32 (by omega)
 have hw1 : IntKind.u32.wrap ((l.length : Int) + 1) = (l.length : Int) + 1:=wu32 (by omega)
 have htk : List.take m Q = Q:=by rw [← hQ]; exact List.take_length
 have hall0:=hall 0
 rw [Nat.add_zero] at hall0
 rw [zaa (rfl : C F_q24 = some a_q24) _ _ rfl]
 rcases hv with ⟨rfl,rfl⟩ | ⟨o,rfl,ho,hQo⟩
 ·have hw0 : IntKind.u32.wrap 0 = 0 := by decide
  have hw2 : IntKind.u32.wrap (0 + 1) = (((0 : Nat) : Int) + 1):=by decide
  simp +decide only [c_q24,hb,hQ,hw0,hw2,htk,hall0,List.length_nil,Pk.EVL,Pk.EVD,↓reduceIte]
 ·simp +decide only [c_q24,hb,hQ,hw,hw1,htk,hall0,Pk.EVL,Pk.EVD,↓reduceIte]
theorem refmap_at (k : Nat) (hk : k ≤ l.length) : evF C F_q25 [.ptr n0 0,.d (.i .u32 ((k : Int) + 1))] Q = some (.d (.agg (mapAt (l.take k)).cs),Q):=by
 have h59:=hl.1
 have hat : ∀ X,(hr Q X)[n0]? = some (.box (.agg [v])):=fun X => by unfold hr; rw [List.getElem?_append_left (by omega)]; exact hb
 have hq1:=hr_at hQ
 have hq0:=zbm hQ
 have hs1:=zb2 hQ
 have hs0:=zbc hQ
 have hln:=zbb hQ
 have htk:=za9 hQ
 have hpush : ∀ Z,Q ++ Z = hr Q Z:=fun _ => rfl
 have hwk : IntKind.i64.wrap ((k : Int) + 1) = (k : Int) + 1:=wi64 (by omega)
 have m1 : (m ≤ m + 2) = True:=eq_true (by omega)
 have htk0 : ∀ X,List.take m (hr Q X) = Q:=fun X => by unfold hr; exact List.take_left' hQ
 have hall0:=hall 0
 rw [Nat.add_zero] at hall0
 rw [zaa (rfl : C F_q25 = some a_q25) _ _ rfl]
 simp +decide only [c_q25,zhi,hpush,hQ,zao,hq1,hs1,hln,thaws,Pk.EVL,Pk.EVD,↓reduceIte,Nat.reduceAdd,Pk.TY_Mp]
 simp only [Option.bind_assoc]
 have hall2 : ∀ a b : DV,(hr Q [.box (.d a),.box (.d b)]).all (ltO (m + 2)) = true:=fun a b => by rw [zaw,hall 2]; rfl
 refine zaf (zac (fun i T H => lk T 0 = .ptr n0 0 ∧ lk T 1 = .d (.i .u32 ((k : Int) + 1)) ∧ lk T 4 = .ptr m 0 ∧ lk T 5 = .ptr (m + 1) 0 ∧ lk T 6 = .d (.i .i64 (i : Nat)) ∧ H = hr Q [.box (.d (.agg Mp.zero.cs)),.box (.d (.agg (mapAt (l.take i)).cs))])
  (fun e T H => e = .exit 0 ∧ lk T 4 = .ptr m 0 ∧ lk T 5 = .ptr (m + 1) 0 ∧ H = hr Q [.box (.d (.agg Mp.zero.cs)),.box (.d (.agg (mapAt (l.take k)).cs))]) k ?_ ?_ k 0 _ _ (by omega) ⟨rfl,rfl,rfl,rfl,rfl,rfl⟩) ?_
 ·rintro i T H hi ⟨h0, h1, h4, h5, h6, rfl⟩
  obtain ⟨x,hx⟩ : ∃ x,l[i]? = some x:=⟨l[i]'(by omega),List.getElem?_eq_getElem _⟩
  have hxd:=zae Inc.d hx
  have hgood:=zcv hl (i + 1)
  rw [zag hx] at hgood
  have hxo : x.ok:=zrx (hl.2 x (List.mem_of_getElem? hx))
  have hap:=ze8 (mapAt (l.take i)) x hxo
  rw [zjy,zi3 hgood,← zag hx] at hap
  have hd : decide ((i : Int) + 2 ≤ (k : Int) + 1) = true:=by simp; omega
  have hd2 : decide ((i : Int) < ((l.length : Nat) : Int)) = true:=by simp; omega
  have hw2 : IntKind.i64.wrap ((i : Int) + 2) = (i : Int) + 2:=wi64 (by omega)
  have hw : IntKind.i64.wrap ((i : Int) + 1) = ((i + 1 : Nat) : Int):=wi64 (by omega)
  have b0 : (0 ≤ (i : Int)) = True:=eq_true (Int.natCast_nonneg _)
  have b1 : ((i : Int) < ((l.length : Nat) : Int)) = True:=eq_true (by omega)
  have hEl : (l.map Inc.d).length = l.length:=List.length_map _
  have n2 : (n0 < m + 2) = True:=eq_true (by omega)
  have n3 : (m < m + 2) = True:=eq_true (by omega)
  have n4 : (m + 1 < m + 2) = True:=eq_true (by omega)
  rcases hv with ⟨rfl,rfl⟩ | ⟨o,rfl,ho,hQo⟩
  ·simp at hx
  have hato : ∀ X,(hr Q X)[o]? = some (.arr (l.map Inc.d) true):=fun X => by unfold hr; rw [List.getElem?_append_left (by omega)]; exact hQo
  simp +decide only [zqd,zph,h0,h1,h4,h5,h6,hat,hato,hxd,hap,hd,hw,hw2,hwk,b0,b1,hEl,n2,n3,n4,hall2,hq1,hs1,hln,htk,Nat.zero_add,Int.toNat_natCast,Pk.EVL,Pk.EVD,↓reduceIte,Nat.reduceAdd,Pk.TY_Mp,Pk.TY_Inc]
  exact ⟨_,_,_,rfl,.inl ⟨rfl,rfl,rfl,rfl,rfl,rfl,rfl⟩⟩
 ·rintro T H ⟨h0, h1, h4, h5, h6, rfl⟩
  have hd : decide ((k : Int) + 2 ≤ (k : Int) + 1) = false:=decide_eq_false (by omega)
  have hw2 : IntKind.i64.wrap ((k : Int) + 2) = (k : Int) + 2:=wi64 (by omega)
  have n2 : (n0 < m + 2) = True:=eq_true (by omega)
  have n3 : (m < m + 2) = True:=eq_true (by omega)
  have n4 : (m + 1 < m + 2) = True:=eq_true (by omega)
  simp +decide only [zqd,zph,h0,h1,h4,h5,h6,hd,hw2,hwk,n2,n3,n4,hall2,hln,htk,Pk.EVL,Pk.EVD,↓reduceIte,Nat.reduceAdd]
  exact ⟨_,_,_,rfl,by simp,rfl,rfl,rfl,rfl⟩
 rintro e T H ⟨rfl,h4,h5,rfl⟩
 simp +decide only [h4,h5,hq1,hq0,hs0,hln,htk0,hall0,Pk.EVL,Pk.EVD,↓reduceIte,Nat.reduceAdd,Pk.TY_Mp]
end
end Go.Proofs.YthlpognahlnaaaaGreat
