/- Maps: Is,First,In; a choice's cells; fits,draw. -/
import Derived.Test.YthlpognahlnaaaaGreatPkEvd
import Derived.Test.YthlpognahlnaaaaGreatCode
import Derived.Test.YthlpognahlnaaaaGreatPkRow
import Derived.Test.YthlpognahlnaaaaGreatPlaceA
set_option linter.all false
namespace Go.Proofs.YthlpognahlnaaaaGreat
open Pv Go
section
/-! Cluster maps: what Is,First and In compute. -/
set_option maxRecDepth 10000

structure Osd where
 u : Bool
 w : Int
 h : Int

def Osd.d (o : Osd) : List DV:=[.b o.u,.i .i64 o.w,.i .u8 o.h]
def osds (os : List Osd) : List DV:=os.flatMap Osd.d
def mapD (e : Int) (os : List Osd) : DV:=.agg (.i .u32 e :: osds os)
def Osd.ok (o : Osd) : Bool:=!(decide (o.w < 0) || (decide (o.w > 16) || decide (o.h ≥ 8)))
def isM (e : Int) (os : List Osd) : Bool:=os.all Osd.ok && (decide (e ≥ 1) && decide (e ≤ 60))

theorem zs1 {β : Type} {x : Option (AExit × Tm × Heap)} {e : AExit} {P : Tm → Prop} {f : AExit × Tm × Heap → Option β} {r : Option β} (h : ∃ T' H',x = some (e,T',H') ∧ P T') (hf : ∀ T' H',P T' → f (e,T',H') = r) : x.bind f = r:=by
 obtain ⟨T',H',rfl,hp⟩:=h
 exact hf T' H' hp

theorem zat (os : List Osd) : (osds os).length = os.length * 3:=by
 induction os with
 | nil => rfl
 | cons o r ih => simp only [osds,List.flatMap_cons,List.length_append] at ih ⊢; rw [ih]; simp [Osd.d]; omega
theorem zgc : ∀ (os : List Osd) (i : Nat) (o : Osd),os[i]? = some o → subL (osds os) (i * 3) 3 = o.d
 | [],_,_,h => by simp at h
 | x :: r,0,o,h => by simp at h; subst h; rfl
 | x :: r,i + 1,o,h => by
  have:=zgc r i o (by simpa using h)
  rw [← this]
  unfold subL osds
  rw [List.flatMap_cons,show (i + 1) * 3 = x.d.length + i * 3 by simp [Osd.d]; omega,← List.drop_drop,List.drop_left]

def zet : ACode:=.seq (.region (some [1,6,7]) [⟨some 8,.bin .lss (.t 7) (.c (.d (.i .i64 5))),none⟩] [])
  (.seq (.cond (.t 8) (.skip) (.exit 0))
  (.seq (.block 1 (.seq (.region (some [1, 6, 7]) [⟨some 9, .idxA true 5 3 (.t 6) (.t 7), none⟩,
   ⟨some 4,.box (.c (.d (.agg [.b false,.i .i64 0,.i .u8 0]))),none⟩,
   ⟨none,.store 3 (.t 4) (.t 9),none⟩] [])
  (.seq (.region (some [1, 4, 6, 7]) [⟨some 10, .faddr 1 (.t 4), none⟩,
   ⟨some 11,.load false 1 (.t 10),none⟩,
   ⟨some 12,.bin .lss (.t 11) (.c (.d (.i .i64 0))),none⟩,
   ⟨some 13,.mv (.t 12),none⟩,
   ⟨some 14,.faddr 1 (.t 4),some (13,false)⟩,
   ⟨some 15,.load false 1 (.t 14),some (13,false)⟩,
   ⟨some 16,.bin .gtr (.t 15) (.c (.d (.i .i64 16))),some (13,false)⟩,
   ⟨some 17,.pick (.t 13) (.c (.d (.b true))) (.t 16),none⟩,
   ⟨some 18,.mv (.t 17),none⟩,
   ⟨some 19,.faddr 2 (.t 4),some (18,false)⟩,
   ⟨some 20,.load false 1 (.t 19),some (18,false)⟩,
   ⟨some 21,.bin .geq (.t 20) (.c (.d (.i .u8 8))),some (18,false)⟩,
   ⟨some 22,.pick (.t 18) (.c (.d (.b true))) (.t 21),none⟩] [])
  (.cond (.t 22) (.seq (.region (some []) [⟨some 2, .mv (.c (.d (.b false))), none⟩] [])
   (.ret)) (.skip)))))
  (.region (some [1, 6, 7]) [⟨some 23, .bin .add (.t 7) (.c (.d (.i .i64 1))), none⟩,
   ⟨some 7,.mv (.t 23),none⟩] [])))

theorem zio (X : DV) (os : List Osd) (hos : os.length = 5) : ∀ (n i : Nat) (J : Heap) (T : Tm),i + n = 5 → lk T 1 = .ptr 0 0 → lk T 6 = .d (.agg (osds os)) → lk T 7 = .d (.i .i64 i) →
  ((os.drop i).all Osd.ok = true → ∃ T',evL C (some [1,6,7]) zet 1 T (.box (.d X) :: J) = some (.exit 0,T',[.box (.d X)]) ∧ lk T' 1 = .ptr 0 0) ∧
  ((os.drop i).all Osd.ok = false → ∃ T' H',evL C (some [1,6,7]) zet 1 T (.box (.d X) :: J) = some (.ret,T',H') ∧ lk T' 2 = .d (.b false))
 | 0,i,J,T,hi,h1,h6,h7 => by
  have hd : decide ((i : Int) < 5) = false:=by simp; omega
  have hdr : os.drop i = []:=List.drop_eq_nil_of_le (by omega)
  rw [hdr]
  refine ⟨fun _ => ?_,fun h => by simp at h⟩
  obtain ⟨G,hg⟩ : ∃ G,G = againL C (some [1,6,7]) zet 1:=⟨_,rfl⟩
  rw [zam,← hg]
  simp +decide only [zet,hd,h1,h6,h7,Pk.EVO,Pk.EVDO,↓reduceIte]
  rw [hg]
  exact ⟨_,rfl,rfl⟩
 | n + 1, i, J, T, hi, h1, h6, h7 => by
  have hd : decide ((i : Int) < 5) = true:=by simp; omega
  have hw : IntKind.i64.wrap ((i : Int) + 1) = ((i + 1 : Nat) : Int):=wi64 (by omega)
  have hp0 : (0 ≤ (i : Int)) = True:=by simp
  have hp5 : ((i : Int) < ((5 : Nat) : Int)) = True:=by simp; omega
  obtain ⟨o,ho⟩ : ∃ o,os[i]? = some o:=⟨os[i]'(by omega),List.getElem?_eq_getElem _⟩
  have hsub:=zgc os i o ho
  have hlen : (((i : Int).toNat * 3 + 3) ≤ (osds os).length) = True:=by
   rw [zat,hos]; simp; omega
  have hdr : os.drop i = o :: os.drop (i + 1):=by
   rw [List.drop_eq_getElem_cons (by omega)]
   congr 1
   have:=List.getElem?_eq_getElem (l:=os) (i:=i) (by omega)
   rw [ho] at this
   exact (Option.some.inj this).symm
  rw [hdr]
  simp only [List.all_cons]
  obtain ⟨u,w,h⟩:=o
  have hsub' : subL (osds os) ((i : Int).toNat * 3) 3 = [.b u,.i .i64 w,.i .u8 h]:=hsub
  unfold subL at hsub'
  obtain ⟨G,hg⟩ : ∃ G,G = againL C (some [1,6,7]) zet 1:=⟨_,rfl⟩
  rw [zam,← hg]
  have ih:=fun J T => zio X os hos n (i + 1) J T (by omega)
  by_cases c1 : decide (w < 0) = true
  ·have hok : Osd.ok ⟨u, w, h⟩ = false := by simp [Osd.ok, c1]
   rw [hok]
   simp only [Bool.false_and]
   refine ⟨fun h => by simp at h,fun _ => ?_⟩
   simp +decide only [zet,hd,hp0,hp5,hlen,hsub',c1,h1,h6,h7,Pk.EVO,Pk.EVDO,↓reduceIte,Nat.reduceAdd,Nat.reduceLeDiff]
   rw [hg]
   exact ⟨_,_,rfl,rfl⟩
  ·replace c1 := eq_false_of_ne_true c1
   by_cases c2 : decide (w > 16) = true
   ·have hok : Osd.ok ⟨u, w, h⟩ = false := by simp [Osd.ok, c1, c2]
    rw [hok]
    simp only [Bool.false_and]
    refine ⟨fun h => by simp at h,fun _ => ?_⟩
    simp +decide only [zet,hd,hp0,hp5,hlen,hsub',c1,c2,h1,h6,h7,Pk.EVO,Pk.EVDO,↓reduceIte,Nat.reduceAdd,Nat.reduceLeDiff]
    rw [hg]
    exact ⟨_,_,rfl,rfl⟩
   ·replace c2 := eq_false_of_ne_true c2
    by_cases c3 : decide (h ≥ 8) = true
    ·have hok : Osd.ok ⟨u, w, h⟩ = false := by simp only [Osd.ok, c1, c2, c3]; rfl
     rw [hok]
     simp only [Bool.false_and]
     refine ⟨fun h => by simp at h,fun _ => ?_⟩
     simp +decide only [zet,hd,hp0,hp5,hlen,hsub',c1,c2,c3,h1,h6,h7,Pk.EVO,Pk.EVDO,↓reduceIte,Nat.reduceAdd,Nat.reduceLeDiff]
     rw [hg]
     exact ⟨_,_,rfl,rfl⟩
    ·replace c3 := eq_false_of_ne_true c3
     have hok : Osd.ok ⟨u,w,h⟩ = true:=by simp only [Osd.ok,c1,c2,c3]; rfl
     rw [hok]
     simp only [Bool.true_and]
     simp +decide only [zet,hd,hw,hp0,hp5,hlen,hsub',c1,c2,c3,h1,h6,h7,Pk.EVO,Pk.EVDO,↓reduceIte,Nat.reduceAdd,Nat.reduceLeDiff]
     rw [hg,zah]
     exact ih _ _ rfl rfl rfl

theorem is_at (e : Int) (os : List Osd) (hos : os.length = 5) : evF C F_q0y [.d (mapD e os)] [] = some (.d (.b (isM e os)),[]):=by
 rw [zaa (rfl : C F_q0y = some a_q0y) _ _ rfl]
 have hl:=zat os
 rw [hos] at hl
 have h15 : List.take 15 (osds os) = osds os:=List.take_of_length_le (by omega)
 unfold mapD isM
 generalize hX : DV.agg (.i .u32 e :: osds os) = X
 have hc : (1 + 15 ≤ (DV.i .u32 e :: osds os).length) = True:=by simp [hl]
 subst hX
 simp +decide only [c_q0y,K_q0y_0,l_q0y_0,hl,h15,Pk.EVO,Pk.EVDO,↓reduceIte,Nat.reduceAdd,Nat.reduceLeDiff]
 simp only [Option.bind_assoc]
 by_cases hall : os.all Osd.ok = true
 ·refine zbd ((zio _ os hos 5 0 [] _ rfl rfl rfl rfl).1 (by rw [List.drop_zero]; exact hall)) ?_
  intro T' h1
  by_cases c1 : decide (e ≥ 1) = true
  ·simp +decide only [hall,h1,c1,Pk.EVO,Pk.EVDO,↓reduceIte]
  ·replace c1 := eq_false_of_ne_true c1
   simp +decide only [hall,h1,c1,Bool.false_and,Bool.and_false,Pk.EVO,Pk.EVDO,↓reduceIte]
 ·replace hall := eq_false_of_ne_true hall
  refine zs1 ((zio _ os hos 5 0 [] _ rfl rfl rfl rfl).2 (by rw [List.drop_zero]; exact hall)) ?_
  intro T' H' h2
  simp +decide only [hall,h2,Bool.false_and,Pk.EVO,Pk.EVDO,↓reduceIte]
end

section
/-! The first map; the daemons that are in. -/
set_option maxRecDepth 10000

def firstO : List Osd:=[⟨true,8,0⟩,⟨true,8,1⟩,⟨true,8,2⟩,⟨true,8,3⟩,⟨true,8,0⟩]
theorem zee (C : FuncId → Option AFn) (k : Option (List Nat)) (a : ACode) (n i : Nat) (T : Tm) (H : Heap) : againL C k a n (.exit i,T,H) = some (.exit i,T,H):=rfl
theorem pos_at (u : Bool) (w h : Int) : evF C F_q0x [.d (.agg [.b u,.i .i64 w,.i .u8 h])] [] = some (.d (.b (decide (w > 0))),[]):=by
 rw [zaa (rfl : C F_q0x = some a_q0x) _ _ rfl]
 simp +decide only [c_q0x,Pk.EVO,Pk.EVDO,↓reduceIte]

def inIdx (os : List Osd) : Nat → List Int
 | 0 => []
 | i + 1 => inIdx os i ++ (match os[i]? with
  | some o => if o.w > 0 then [(i : Int)] else []
  | none => [])
theorem zne (os : List Osd) : ∀ i,(inIdx os i).length ≤ i
 | 0 => by simp [inIdx]
 | i + 1 => by
  have:=zne os i
  simp only [inIdx,List.length_append]
  split
  ·split <;> simp <;> omega
  ·simp; omega

def zja : ACode:=.seq (.region (some [1,5,9,10]) [⟨some 11,.bin .lss (.t 10) (.c (.d (.i .i64 5))),none⟩] [])
  (.seq (.cond (.t 11) (.skip) (.exit 0))
  (.seq (.block 1 (.seq (.region (some [1, 5, 9, 10]) [⟨some 12, .mv (.t 10), none⟩,
   ⟨some 13,.idxA true 5 3 (.t 9) (.t 10),none⟩,
   ⟨some 7,.box (.c (.d (.agg [.b false,.i .i64 0,.i .u8 0]))),none⟩,
   ⟨some 6,.mv (.t 12),none⟩,
   ⟨none,.store 3 (.t 7) (.t 13),none⟩] [])
  (.seq (.region (some [1, 5, 6, 7, 9, 10]) [⟨some 14, .mv (.t 1), none⟩,
   ⟨some 15,.load true 3 (.t 7),none⟩,
   ⟨some 16,.call (.t 14) [.t 15],none⟩] [])
  (.cond (.t 16) (.region (some [1,5,6,9,10]) [⟨some 17,.mv (.t 5),none⟩,
    ⟨some 18,.mv (.t 6),none⟩,
    ⟨some 19,.bsl 1 [.t 18],none⟩,
    ⟨some 20,.app 1 (.t 17) (.t 19),none⟩,
    ⟨some 5,.mv (.t 20),none⟩] []) (.skip)))))
  (.region (some [1, 5, 9, 10]) [⟨some 21, .bin .add (.t 10) (.c (.d (.i .i64 1))), none⟩,
   ⟨some 10,.mv (.t 21),none⟩] [])))

theorem zh6 (X Y : DV) (os : List Osd) (hos : os.length = 5) : ∀ (n i k : Nat) (es : List DV) (J : Heap) (T : Tm),i + n = 5 → es = ints (inIdx os i) → es.length = k → lk T 1 = .fn F_q0x [] [] → lk T 5 = .view 2 k 1 0 k → lk T 9 = .d (.agg (osds os)) →
  lk T 10 = .d (.i .i64 i) →
  ∃ T',evL C (some [1,5,9,10]) zja 3 T (.box (.d X) :: .box (.d Y) :: .arr es true :: J) = some (.exit 0,T',[.box (.d X),.box (.d Y),.arr (ints (inIdx os 5)) true]) ∧
   lk T' 5 = .view 2 (ints (inIdx os 5)).length 1 0 (ints (inIdx os 5)).length
 | 0,i,k,es,J,T,hi,hes,hk,h1,h5,h9,h10 => by
  obtain rfl : i = 5:=by omega
  subst hk
  subst hes
  have hd : decide (((5 : Nat) : Int) < 5) = false:=by decide
  obtain ⟨G,hg⟩ : ∃ G,G = againL C (some [1,5,9,10]) zja 3:=⟨_,rfl⟩
  generalize hE : ints (inIdx os 5) = E at *
  rw [zam,← hg]
  simp +decide only [zja,h1,h5,h9,h10,Pk.EVO,Pk.EVDO,↓reduceIte,Nat.reduceAdd]
  rw [hg]
  exact ⟨_,rfl,rfl⟩
 | n + 1, i, k, es, J, T, hi, hes, hk, h1, h5, h9, h10 => by
  have hd : decide ((i : Int) < 5) = true:=by simp; omega
  have hw : IntKind.i64.wrap ((i : Int) + 1) = ((i + 1 : Nat) : Int):=wi64 (by omega)
  have hp0 : (0 ≤ (i : Int)) = True:=by simp
  have hp5 : ((i : Int) < ((5 : Nat) : Int)) = True:=by simp; omega
  obtain ⟨o,ho⟩ : ∃ o,os[i]? = some o:=⟨os[i]'(by omega),List.getElem?_eq_getElem _⟩
  have hsub:=zgc os i o ho
  have hlen : (((i : Int).toNat * 3 + 3) ≤ (osds os).length) = True:=by
   rw [zat,hos]; simp; omega
  have hkl : k ≤ i:=by
   rw [← hk,hes]
   have:=zne os i
   simpa [ints] using this
  have hsz : (k + 1 ≤ LIM) = True:=by
   have : k + 1 ≤ LIM:=by unfold LIM; omega
   simp [this]
  obtain ⟨u,w,h⟩:=o
  have hsub' : subL (osds os) ((i : Int).toNat * 3) 3 = [.b u,.i .i64 w,.i .u8 h]:=hsub
  unfold subL at hsub'
  have hnext : inIdx os (i + 1) = inIdx os i ++ (if w > 0 then [(i : Int)] else []):=by
   simp only [inIdx,ho]
  obtain ⟨G,hg⟩ : ∃ G,G = againL C (some [1,5,9,10]) zja 3:=⟨_,rfl⟩
  rw [zam,← hg]
  by_cases c : w > 0
  ·have hc : decide (w > 0) = true := decide_eq_true c
   rw [if_pos c] at hnext
   simp +decide only [zja,hd,hw,hp0,hp5,hlen,hsub',hc,pos_at,hk,hsz,h1,h5,h9,h10,Pk.EVO,Pk.EVDO,↓reduceIte,Nat.reduceAdd,Nat.reduceLeDiff,elems]
   rw [hg,zah]
   exact zh6 X Y os hos n (i + 1) (k + 1) _ _ _ (by omega) (by rw [hnext,hes]; simp [ints]) (by simp [hk]) rfl rfl rfl rfl
  ·have hc : decide (w > 0) = false := decide_eq_false c
   rw [if_neg c,List.append_nil] at hnext
   simp +decide only [zja,hd,hw,hp0,hp5,hlen,hsub',hc,pos_at,h1,h5,h9,h10,Pk.EVO,Pk.EVDO,↓reduceIte,Nat.reduceAdd,Nat.reduceLeDiff]
   rw [hg,zah]
   exact zh6 X Y os hos n (i + 1) k _ _ _ (by omega) (by rw [hnext,hes]) hk rfl rfl rfl rfl

theorem in_at (e : Int) (os : List Osd) (hos : os.length = 5) : evF C F_q0w [.d (mapD e os)] [] =
  some (.view 2 (ints (inIdx os 5)).length 1 0 (ints (inIdx os 5)).length,[.box (.d (mapD e os)),.box (.d (mapD e os)),.arr (ints (inIdx os 5)) true]):=by
 have those : evF C F_q10 [.d (mapD e os),.fn F_q0x [] []] [.box (.d (mapD e os))] =
   some (.view 2 (ints (inIdx os 5)).length 1 0 (ints (inIdx os 5)).length,[.box (.d (mapD e os)),.box (.d (mapD e os)),.arr (ints (inIdx os 5)) true]):=by
  rw [zaa (rfl : C F_q10 = some a_q10) _ _ rfl]
  have hl:=zat os
  rw [hos] at hl
  have h15 : List.take 15 (osds os) = osds os:=List.take_of_length_le (by omega)
  unfold mapD
  simp +decide only [c_q10,K_q10_0,l_q10_0,List.map_cons,List.map_nil,hl,h15,thaw,Pk.EVO,Pk.EVDO,↓reduceIte,Nat.reduceAdd,Nat.reduceLeDiff]
  simp only [Option.bind_assoc]
  refine zbd (zh6 _ _ os hos 5 0 0 _ _ _ rfl rfl rfl rfl rfl rfl rfl) ?_
  intro T' h5
  generalize hE : ints (inIdx os 5) = E at *
  simp +decide only [h5,Pk.EVO,Pk.EVDO,↓reduceIte,reduceCtorEq,Nat.reduceAdd]
 rw [zaa (rfl : C F_q0w = some a_q0w) _ _ rfl]
 have hl:=zat os
 rw [hos] at hl
 have h15 : List.take 15 (osds os) = osds os:=List.take_of_length_le (by omega)
 generalize hE : ints (inIdx os 5) = E at *
 unfold mapD at *
 simp +decide only [c_q0w,List.map_cons,List.map_nil,hl,h15,those,Pk.EVO,Pk.EVDO,↓reduceIte,reduceCtorEq,Nat.reduceAdd,Nat.reduceLeDiff]
end

section
/-! The cells of a choice: its map,its group,the daemons that are in,those picked. -/
set_option maxRecDepth 10000

def cells (e : Int) (os : List Osd) (g : Int) (inn pk : AV) : List AV:=(DV.i .u32 e :: osds os).map .d ++ [.d (.i .u8 g),inn,pk]

section
variable {e g : Int} {os : List Osd} {inn pk : AV}
theorem zno (hos : os.length = 5) : (cells e os g inn pk).length = 19:=by
 simp [cells,zat,hos]
theorem zrw (hos : os.length = 5) : (cells e os g inn pk)[16]? = some (.d (.i .u8 g)):=by
 unfold cells
 rw [List.getElem?_append_right (by simp [zat,hos])]
 simp [zat,hos]
theorem zgf (hos : os.length = 5) : (cells e os g inn pk)[17]? = some inn:=by
 unfold cells
 rw [List.getElem?_append_right (by simp [zat,hos])]
 simp [zat,hos]
theorem zdx (hos : os.length = 5) : (cells e os g inn pk)[18]? = some pk:=by
 unfold cells
 rw [List.getElem?_append_right (by simp [zat,hos])]
 simp [zat,hos]
theorem zo8 {i : Nat} {o : Osd} (h : os[i]? = some o) (k : Nat) (hk : k < 3) : (osds os)[i * 3 + k]? = o.d[k]?:=by
 have:=zgc os i o h
 unfold subL at this
 rw [← this,List.getElem?_take_of_lt hk,List.getElem?_drop]
theorem cells_w (hos : os.length = 5) {i : Nat} {o : Osd} (h : os[i]? = some o) : (cells e os g inn pk)[1 + i * 3 + 1]? = some (.d (.i .i64 o.w)):=by
 have hi : i < 5:=by rw [← hos]; exact (List.getElem?_eq_some_iff.1 h).1
 unfold cells
 rw [List.getElem?_append_left (by simp [zat,hos]; omega),List.getElem?_map,show 1 + i * 3 + 1 = (i * 3 + 1) + 1 by omega,List.getElem?_cons_succ,zo8 h 1 (by omega)]
 rfl
theorem cells_h (hos : os.length = 5) {i : Nat} {o : Osd} (h : os[i]? = some o) : (cells e os g inn pk)[1 + i * 3 + 2]? = some (.d (.i .u8 o.h)):=by
 have hi : i < 5:=by rw [← hos]; exact (List.getElem?_eq_some_iff.1 h).1
 unfold cells
 rw [List.getElem?_append_left (by simp [zat,hos]; omega),List.getElem?_map,show 1 + i * 3 + 2 = (i * 3 + 2) + 1 by omega,List.getElem?_cons_succ,zo8 h 2 (by omega)]
 rfl
end
end

section
/-! Whether a daemon fits beside those picked. -/
set_option maxRecDepth 10000
set_option maxHeartbeats 1000000

theorem fit38 {e g : Int} {os : List Osd} {inn pk : AV} (hos : os.length = 5) (M I X3 X4 : Ob) (p q : Nat) (op oq : Osd) (hp : os[p]? = some op) (hq : os[q]? = some oq) :
  evF C F_q3h [.d (.i .i64 (p : Int)),.ptr 6 0,.ptr 5 0] [M,I,.box (.agg (cells e os g inn pk)),X3,X4,.box (.ptr 2 0),.box (.d (.i .i64 (q : Int)))] =
   some (.d (.b ((p : Int) == (q : Int) || op.h == oq.h)),[M,I,.box (.agg (cells e os g inn pk)),X3,X4,.box (.ptr 2 0),.box (.d (.i .i64 (q : Int)))]):=by
 have hp5 : ((p : Int) < ((5 : Nat) : Int)) = True:=by
  have : p < 5:=by rw [← hos]; exact (List.getElem?_eq_some_iff.1 hp).1
  simp; omega
 have hq5 : ((q : Int) < ((5 : Nat) : Int)) = True:=by
  have : q < 5:=by rw [← hos]; exact (List.getElem?_eq_some_iff.1 hq).1
  simp; omega
 have hp0 : (0 ≤ (p : Int)) = True:=by simp
 have hq0 : (0 ≤ (q : Int)) = True:=by simp
 have cp:=cells_h (e:=e) (g:=g) (inn:=inn) (pk:=pk) hos hp
 have cq:=cells_h (e:=e) (g:=g) (inn:=inn) (pk:=pk) hos hq
 have cp' : (cells e os g inn pk)[1 + (p : Int).toNat * 3 + 2]? = some (.d (.i .u8 op.h)):=cp
 have cq' : (cells e os g inn pk)[1 + (q : Int).toNat * 3 + 2]? = some (.d (.i .u8 oq.h)):=cq
 rw [zaa (rfl : C F_q3h = some a_q3h) _ _ rfl]
 by_cases hpq : ((p : Int) == (q : Int)) = true
 ·simp +decide only [c_q3h,hpq,ite_self,Bool.true_or,Pk.EVO,Pk.EVDO,↓reduceIte,Nat.reduceAdd]
 ·replace hpq := eq_false_of_ne_true hpq
  simp +decide only [c_q3h,hpq,hp0,hq0,hp5,hq5,cp',cq',ite_self,Bool.false_or,Pk.EVO,Pk.EVDO,↓reduceIte,Nat.reduceAdd]
end

section
/-! Fits: none of those picked is the same daemon or on the same host. -/
set_option maxRecDepth 10000
set_option maxHeartbeats 1000000

def hostOf (os : List Osd) (i : Nat) : Int:=match os[i]? with
 | some o => o.h
 | none => 0
def clash (os : List Osd) (q p : Nat) : Bool:=(p : Int) == (q : Int) || hostOf os p == hostOf os q
def nats (P : List Nat) : List DV:=ints (P.map fun (j : Nat) => (j : Int))
theorem zbs (P : List Nat) (i p : Nat) (h : P[i]? = some p) : (nats P)[((i : Nat) : Int).toNat]? = some (.i .i64 (p : Int)):=by
 simp [nats,ints,h]
theorem zal (P : List Nat) : (nats P).length = P.length:=by simp [nats,ints]

def zhp : ACode:=.seq (.region (some [0,1,7,8]) [⟨some 9,.bin .lss (.t 8) (.t 7),none⟩] [])
  (.seq (.cond (.t 9) (.skip) (.exit 0))
  (.seq (.block 1 (.seq (.region (some [0, 1, 7, 8]) [⟨some 10, .mv (.t 8), none⟩,
   ⟨some 5,.mv (.t 10),none⟩] [])
  (.seq (.region (some [0, 1, 5, 7, 8]) [⟨some 11, .mv (.t 1), none⟩,
   ⟨some 12,.mv (.t 0),none⟩,
   ⟨some 13,.mv (.t 5),none⟩,
   ⟨some 14,.iaddrS 1 (.t 12) (.t 13),none⟩,
   ⟨some 15,.load false 1 (.t 14),none⟩,
   ⟨some 16,.call (.t 11) [.t 15],none⟩] [])
  (.cond (.t 16) (.seq (.region (some [5]) [⟨some 17, .mv (.t 5), none⟩,
    ⟨some 4,.mv (.t 17),none⟩] [])
   (.ret)) (.skip)))))
  (.region (some [0, 1, 7, 8]) [⟨some 18, .bin .add (.t 8) (.c (.d (.i .i64 1))), none⟩,
   ⟨some 8,.mv (.t 18),none⟩] [])))

theorem fit_clash {e g : Int} {os : List Osd} {inn pk : AV} (hos : os.length = 5) (M I X3 X4 : Ob) (p q : Nat) (hp : p < 5) (hq : q < 5) :
  evF C F_q3h [.d (.i .i64 (p : Int)),.ptr 6 0,.ptr 5 0] [M,I,.box (.agg (cells e os g inn pk)),X3,X4,.box (.ptr 2 0),.box (.d (.i .i64 (q : Int)))] =
   some (.d (.b (clash os q p)),[M,I,.box (.agg (cells e os g inn pk)),X3,X4,.box (.ptr 2 0),.box (.d (.i .i64 (q : Int)))]):=by
 have h1 : os[p]? = some (os[p]'(by omega)):=List.getElem?_eq_getElem _
 have h2 : os[q]? = some (os[q]'(by omega)):=List.getElem?_eq_getElem _
 have:=fit38 (e:=e) (g:=g) (inn:=inn) (pk:=pk) hos M I X3 X4 p q _ _ h1 h2
 rw [this]
 simp only [clash,hostOf,h1,h2]

theorem zn3 (Cx M I X3 : Ob) (os : List Osd) (P : List Nat) (q : Nat)
  (hcall : ∀ p, p ∈ P → evF C F_q3h [.d (.i .i64 (p : Int)), .ptr 6 0, .ptr 5 0] [M, I, Cx, X3, .arr (nats P) true, .box (.ptr 2 0), .box (.d (.i .i64 (q : Int)))] =
   some (.d (.b (clash os q p)),[M,I,Cx,X3,.arr (nats P) true,.box (.ptr 2 0),.box (.d (.i .i64 (q : Int)))])) (hP : P.length ≤ 100) :
  ∀ (n i : Nat) (T : Tm),i + n = P.length → lk T 0 = .view 4 P.length 1 0 P.length → lk T 1 = .fn F_q3h [] [.ptr 6 0,.ptr 5 0] → lk T 7 = .d (.i .i64 (P.length : Nat)) → lk T 8 = .d (.i .i64 i) →
  ((P.drop i).any (clash os q) = false → ∃ T', evL C (some [0, 1, 7, 8]) zhp 7 T [M, I, Cx, X3, .arr (nats P) true, .box (.ptr 2 0), .box (.d (.i .i64 (q : Int)))] =
    some (.exit 0,T',[M,I,Cx,X3,.arr (nats P) true,.box (.ptr 2 0),.box (.d (.i .i64 (q : Int)))]) ∧ lk T' 0 = .view 4 P.length 1 0 P.length) ∧
  ((P.drop i).any (clash os q) = true → ∃ T', evL C (some [0, 1, 7, 8]) zhp 7 T [M, I, Cx, X3, .arr (nats P) true, .box (.ptr 2 0), .box (.d (.i .i64 (q : Int)))] =
    some (.ret,T',[M,I,Cx,X3,.arr (nats P) true,.box (.ptr 2 0),.box (.d (.i .i64 (q : Int)))]) ∧ lk T' 4 = .d (.i .i64 ((i + (P.drop i).findIdx (clash os q) : Nat) : Int)))
 | 0,i,T,hi,h0,h1,h7,h8 => by
  have hd : decide ((i : Int) < ((P.length : Nat) : Int)) = false:=by simp; omega
  have hdr : P.drop i = []:=List.drop_eq_nil_of_le (by omega)
  rw [hdr]
  refine ⟨fun _ => ?_,fun h => by simp at h⟩
  obtain ⟨G,hg⟩ : ∃ G,G = againL C (some [0,1,7,8]) zhp 7:=⟨_,rfl⟩
  rw [zam,← hg]
  simp +decide only [zhp,hd,ite_self,h0,h1,h7,h8,Pk.EVO,Pk.EVDO,↓reduceIte,Nat.reduceAdd]
  rw [hg]
  exact ⟨_,rfl,rfl⟩
 | n + 1, i, T, hi, h0, h1, h7, h8 => by
  have hd : decide ((i : Int) < ((P.length : Nat) : Int)) = true:=by simp; omega
  have hw : IntKind.i64.wrap ((i : Int) + 1) = ((i + 1 : Nat) : Int):=wi64 (by omega)
  have hp0 : (0 ≤ (i : Int)) = True:=by simp
  have hpk : ((i : Int) < ((P.length : Nat) : Int)) = True:=by simp; omega
  obtain ⟨p,hp⟩ : ∃ p,P[i]? = some p:=⟨P[i]'(by omega),List.getElem?_eq_getElem _⟩
  have hx:=zbs P i p hp
  have hl:=zal P
  have hcl:=hcall p (List.mem_of_getElem? hp)
  have hdr : P.drop i = p :: P.drop (i + 1):=by
   rw [List.drop_eq_getElem_cons (by omega)]
   congr 1
   have:=List.getElem?_eq_getElem (l:=P) (i:=i) (by omega)
   rw [hp] at this
   exact (Option.some.inj this).symm
  rw [hdr]
  simp only [List.any_cons,List.findIdx_cons]
  have ih:=fun T => zn3 Cx M I X3 os P q hcall hP n (i + 1) T (by omega)
  obtain ⟨G,hg⟩ : ∃ G,G = againL C (some [0,1,7,8]) zhp 7:=⟨_,rfl⟩
  rw [zam,← hg]
  generalize nats P = es at *
  by_cases c : clash os q p = true
  ·rw [c] at hcl ⊢
   simp only [Bool.true_or,cond_true]
   refine ⟨fun h => by simp at h,fun _ => ?_⟩
   simp +decide only [zhp,hp0,hpk,hx,hl,hcl,ite_self,h0,h1,h7,h8,Pk.EVO,Pk.EVDO,↓reduceIte,Nat.reduceAdd,Nat.reduceLeDiff]
   rw [hg]
   exact ⟨_,rfl,rfl⟩
  ·replace c := eq_false_of_ne_true c
   rw [c] at hcl ⊢
   simp only [Bool.false_or,cond_false]
   rw [show i + (List.findIdx (clash os q) (P.drop (i + 1)) + 1) = (i + 1) + List.findIdx (clash os q) (P.drop (i + 1)) by omega]
   simp +decide only [zhp,hw,hp0,hpk,hx,hl,hcl,ite_self,h0,h1,h7,h8,Pk.EVO,Pk.EVDO,↓reduceIte,Nat.reduceAdd,Nat.reduceLeDiff]
   rw [hg,zah]
   exact ih _ rfl rfl rfl rfl

theorem zdu (n : Nat) : ∀ (a b : List AV),lts n (a ++ b) = (lts n a && lts n b)
 | [],b => by simp [lts]
 | x :: r,b => by simp only [List.cons_append,lts,zdu n r b,Bool.and_assoc]
theorem zcm {n : Nat} {e g : Int} {os : List Osd} {inn pk : AV} (h1 : lt n inn = true) (h2 : lt n pk = true) : lts n (cells e os g inn pk) = true:=by
 unfold cells
 rw [zdu,zdo]
 simp [lts,h1,h2,lt]

/-- fits,daemons picked already. -/
theorem fits_some {e g : Int} {os : List Osd} (hos : os.length = 5) (X : DV) (ii jj : List DV) (wi wj : Bool) (k : Nat) (P : List Nat) (q : Nat) (hq : q < 5) (hP : ∀ p ∈ P,p < 5) (hPl : P.length ≤ 100) :
  evF C F_q3g [.ptr 2 0,.d (.i .i64 (q : Int))] [.box (.d X),.arr ii wi,.box (.agg (cells e os g (.view 1 k 1 0 k) (.view 4 P.length 1 0 P.length))),.arr jj wj,.arr (nats P) true] =
   some (.d (.b (!P.any (clash os q))),[.box (.d X),.arr ii wi,.box (.agg (cells e os g (.view 1 k 1 0 k) (.view 4 P.length 1 0 P.length))),.arr jj wj,.arr (nats P) true]):=by
 have c18:=zdx (e:=e) (g:=g) (inn:=.view 1 k 1 0 k) (pk:=.view 4 P.length 1 0 P.length) hos
 generalize hCx : Ob.box (.agg (cells e os g (.view 1 k 1 0 k) (.view 4 P.length 1 0 P.length))) = Cx
 have hcall : ∀ p,p ∈ P → evF C F_q3h [.d (.i .i64 (p : Int)),.ptr 6 0,.ptr 5 0] [.box (.d X),.arr ii wi,Cx,.arr jj wj,.arr (nats P) true,.box (.ptr 2 0),.box (.d (.i .i64 (q : Int)))] =
   some (.d (.b (clash os q p)),[.box (.d X),.arr ii wi,Cx,.arr jj wj,.arr (nats P) true,.box (.ptr 2 0),.box (.d (.i .i64 (q : Int)))]):=by
  intro p hp
  rw [← hCx]
  exact fit_clash hos _ _ _ _ p q (hP p hp) hq
 have hl:=zal P
 have hloop:=zn3 Cx (.box (.d X)) (.arr ii wi) (.arr jj wj) os P q hcall hPl P.length 0
 rw [List.drop_zero] at hloop
 have h32 : evF C F_q4c [.view 4 P.length 1 0 P.length,.fn F_q3h [] [.ptr 6 0,.ptr 5 0]] [.box (.d X),.arr ii wi,Cx,.arr jj wj,.arr (nats P) true,.box (.ptr 2 0),.box (.d (.i .i64 (q : Int)))] =
   some (.d (.i .i64 (if P.any (clash os q) = true then ((P.findIdx (clash os q) : Nat) : Int) else -1)),[.box (.d X),.arr ii wi,Cx,.arr jj wj,.arr (nats P) true,.box (.ptr 2 0),.box (.d (.i .i64 (q : Int)))]):=by
  rw [zaa (rfl : C F_q4c = some a_q4c) _ _ rfl]
  generalize nats P = es at *
  simp +decide only [c_q4c,za7,za6,Pk.EVO,Pk.EVDO,↓reduceIte,Nat.reduceAdd]
  simp only [Option.bind_assoc]
  by_cases hany : P.any (clash os q) = true
  ·rw [if_pos hany]
   refine zbd ((hloop _ (by omega) rfl rfl rfl rfl).2 hany) ?_
   intro T' h4
   rw [Nat.zero_add] at h4
   simp +decide only [h4,ite_self,Pk.EVO,Pk.EVDO]
  ·replace hany := eq_false_of_ne_true hany
   rw [if_neg (by rw [hany]; simp)]
   refine zbd ((hloop _ (by omega) rfl rfl rfl rfl).1 hany) ?_
   intro T' h0
   simp +decide only [ite_self,Pk.EVO,Pk.EVDO,↓reduceIte,Nat.reduceAdd]
 have h37 : evF C F_q44 [.view 4 P.length 1 0 P.length,.fn F_q3h [] [.ptr 6 0,.ptr 5 0]] [.box (.d X),.arr ii wi,Cx,.arr jj wj,.arr (nats P) true,.box (.ptr 2 0),.box (.d (.i .i64 (q : Int)))] =
   some (.d (.b (P.any (clash os q))),[.box (.d X),.arr ii wi,Cx,.arr jj wj,.arr (nats P) true,.box (.ptr 2 0),.box (.d (.i .i64 (q : Int)))]):=by
  rw [zaa (rfl : C F_q44 = some a_q44) _ _ rfl]
  have hk : decide ((if P.any (clash os q) = true then ((P.findIdx (clash os q) : Nat) : Int) else -1) ≥ 0) = P.any (clash os q):=by
   by_cases hany : P.any (clash os q) = true
   ·rw [if_pos hany,hany]; exact decide_eq_true (by omega)
   ·replace hany := eq_false_of_ne_true hany
    rw [if_neg (by rw [hany]; simp),hany]; rfl
  generalize (if P.any (clash os q) = true then ((P.findIdx (clash os q) : Nat) : Int) else -1) = kk at h32 hk
  generalize nats P = es at *
  simp +decide only [c_q44,h32,hk,hl,ite_self,Pk.EVO,Pk.EVDO,↓reduceIte,Nat.reduceAdd,Nat.reduceLeDiff]
 rw [zaa (rfl : C F_q3g = some a_q3g) _ _ rfl]
 generalize nats P = es at *
 have hlt:=zcm (n:=5) (e:=e) (g:=g) (os:=os) (inn:=.view 1 k 1 0 k) (pk:=.view 4 P.length 1 0 P.length) rfl rfl
 rw [← hCx] at h37 ⊢
 generalize cells e os g (.view 1 k 1 0 k) (.view 4 P.length 1 0 P.length) = cs at *
 simp +decide only [c_q3g,c18,h37,hl,hlt,Pk.EVO,Pk.EVDO,↓reduceIte,Nat.reduceAdd,Nat.reduceLeDiff]
end

section
/-! fits when none is picked; a draw. -/
set_option maxRecDepth 10000
set_option maxHeartbeats 1000000

theorem fits_none {e g : Int} {os : List Osd} (hos : os.length = 5) (X : DV) (ii : List DV) (wi : Bool) (k : Nat) (q : Int) :
  evF C F_q3g [.ptr 2 0,.d (.i .i64 q)] [.box (.d X),.arr ii wi,.box (.agg (cells e os g (.view 1 k 1 0 k) .nilS))] =
   some (.d (.b true),[.box (.d X),.arr ii wi,.box (.agg (cells e os g (.view 1 k 1 0 k) .nilS))]):=by
 have c18:=zdx (e:=e) (g:=g) (inn:=.view 1 k 1 0 k) (pk:=.nilS) hos
 have hlt:=zcm (n:=3) (e:=e) (g:=g) (os:=os) (inn:=.view 1 k 1 0 k) (pk:=.nilS) rfl rfl
 generalize cells e os g (.view 1 k 1 0 k) .nilS = cs at *
 have h32 : evF C F_q4c [.nilS,.fn F_q3h [] [.ptr 4 0,.ptr 3 0]] [.box (.d X),.arr ii wi,.box (.agg cs),.box (.ptr 2 0),.box (.d (.i .i64 q))] =
   some (.d (.i .i64 (-1)),[.box (.d X),.arr ii wi,.box (.agg cs),.box (.ptr 2 0),.box (.d (.i .i64 q))]):=by
  rw [zaa (rfl : C F_q4c = some a_q4c) _ _ rfl]
  simp +decide only [c_q4c,za7,za6,zam,zee,ite_self,Pk.EVO,Pk.EVDO,↓reduceIte,Nat.reduceAdd]
 have h37 : evF C F_q44 [.nilS,.fn F_q3h [] [.ptr 4 0,.ptr 3 0]] [.box (.d X),.arr ii wi,.box (.agg cs),.box (.ptr 2 0),.box (.d (.i .i64 q))] =
   some (.d (.b false),[.box (.d X),.arr ii wi,.box (.agg cs),.box (.ptr 2 0),.box (.d (.i .i64 q))]):=by
  rw [zaa (rfl : C F_q44 = some a_q44) _ _ rfl]
  simp +decide only [c_q44,h32,ite_self,Pk.EVO,Pk.EVDO,↓reduceIte,Nat.reduceAdd,Nat.reduceLeDiff]
 rw [zaa (rfl : C F_q3g = some a_q3g) _ _ rfl]
 simp +decide only [c_q3g,c18,h37,hlt,Bool.not_false,Pk.EVO,Pk.EVDO,↓reduceIte,Nat.reduceAdd,Nat.reduceLeDiff]

/-- What the best of a list is. -/
def isBest (l : List Int) (i : Nat) (b : Int) : Prop :=
 (i = 0 ∧ b = -1) ∨ (0 ≤ b ∧ b < i ∧ (∀ j : Nat,j < i → l.getD j 0 ≤ l.getD b.toNat 0) ∧ ∀ j : Nat,(j : Int) < b → l.getD j 0 < l.getD b.toNat 0)
theorem zgo (l : List Int) : ∀ (n i : Nat) (b : Int),isBest l i b → isBest l (i + n) (bestGo l n i b)
 | 0,i,b,h => h
 | n + 1, i, b, h => by
  simp only [bestGo]
  rw [show i + (n + 1) = (i + 1) + n by omega]
  apply zgo l n (i + 1)
  rcases h with ⟨rfl,rfl⟩ | ⟨h1,h2,h3,h4⟩
  ·rw [if_pos (Or.inl (by omega))]
   exact Or.inr ⟨by omega,by omega,fun j hj => by rw [show j = 0 by omega]; simp,fun j hj => by omega⟩
  ·by_cases hgt : l.getD i 0 > l.getD b.toNat 0
   ·rw [if_pos (Or.inr hgt)]
    refine Or.inr ⟨by omega,by omega,fun j hj => ?_,fun j hj => ?_⟩
    ·rw [Int.toNat_natCast]
     by_cases hji : j = i
     ·rw [hji]; exact Int.le_refl _
     ·have:=h3 j (by omega); omega
    ·rw [Int.toNat_natCast]
     have:=h3 j (by omega); omega
   ·rw [if_neg (fun h => h.elim (fun h => by omega) hgt)]
    refine Or.inr ⟨h1,by omega,fun j hj => ?_,h4⟩
    by_cases hji : j = i
    ·rw [hji]; omega
    ·exact h3 j (by omega)
theorem zi8 (l : List Int) : isBest l l.length (bestI l):=by
 have:=zgo l l.length 0 (-1) (Or.inl ⟨rfl,rfl⟩)
 rw [Nat.zero_add] at this
 exact this


def zdy : ACode:=.seq (.region (some [0,1,5,11,12,13]) [⟨some 14,.bin .lss (.t 13) (.t 12),none⟩] [])
  (.seq (.cond (.t 14) (.skip) (.exit 0))
  (.seq (.block 1 (.seq (.region (some [0, 1, 5, 11, 12, 13]) [⟨some 15, .iaddrS 1 (.t 11) (.t 13), none⟩,
   ⟨some 16,.load false 1 (.t 15),none⟩,
   ⟨some 7,.mv (.t 16),none⟩] [])
  (.region (some [0, 1, 5, 7, 11, 12, 13]) [⟨some 17, .mv (.t 5), none⟩,
   ⟨some 18,.mv (.t 0),none⟩,
   ⟨some 19,.nilck (.t 18),none⟩,
   ⟨some 20,.faddr 16 (.t 19),none⟩,
   ⟨some 21,.load false 1 (.t 20),none⟩,
   ⟨some 22,.mv (.t 7),none⟩,
   ⟨some 23,.mv (.t 1),none⟩,
   ⟨some 24,.mv (.t 0),none⟩,
   ⟨some 25,.mv (.t 7),none⟩,
   ⟨some 26,.nilck (.t 24),none⟩,
   ⟨some 27,.faddr 0 (.t 26),none⟩,
   ⟨some 28,.faddr 1 (.t 27),none⟩,
   ⟨some 29,.iaddrA 5 3 (.t 28) (.t 25),none⟩,
   ⟨some 30,.faddr 1 (.t 29),none⟩,
   ⟨some 31,.load false 1 (.t 30),none⟩,
   ⟨some 32,.call (.f F_q4f) [.t 21,.t 22,.t 23,.t 31],none⟩,
   ⟨some 33,.bsl 1 [.t 32],none⟩,
   ⟨some 34,.app 1 (.t 17) (.t 33),none⟩,
   ⟨some 5,.mv (.t 34),none⟩] [(4,14)])))
  (.region (some [0, 1, 5, 11, 12, 13]) [⟨some 35, .bin .add (.t 13) (.c (.d (.i .i64 1))), none⟩,
   ⟨some 13,.mv (.t 35),none⟩] [])))

theorem zn4 (X : DV) (cs : List AV) (hcs : lts 4 cs = true) (g t : Int) (wi : Bool) (L : List Nat) (hL : ∀ o ∈ L,o < 5) (hLl : L.length ≤ 100) (w f : Nat → Int) (hg : cs[16]? = some (.d (.i .u8 g)))
  (hwt : ∀ o,o ∈ L → cs[1 + ((o : Nat) : Int).toNat * 3 + 1]? = some (.d (.i .i64 (w o))))
  (hcall : ∀ o,o ∈ L → evF C F_q4f [.d (.i .u8 g),.d (.i .i64 ((o : Nat) : Int)),.d (.i .i64 t),.d (.i .i64 (w o))] [] = some (.d (.i .i64 (f o)),[])) :
  ∀ (n i : Nat) (es : List DV) (J : Heap) (T : Tm),i + n = L.length → es = ints ((L.take i).map f) → es.length = i → lk T 0 = .ptr 2 0 → lk T 1 = .d (.i .i64 t) → lk T 5 = .view 3 i 1 0 i → lk T 11 = .view 1 L.length 1 0 L.length →
  lk T 12 = .d (.i .i64 (L.length : Nat)) → lk T 13 = .d (.i .i64 i) →
  ∃ T',evL C (some [0,1,5,11,12,13]) zdy 4 T (.box (.d X) :: .arr (nats L) wi :: .box (.agg cs) :: .arr es true :: J) = some (.exit 0,T',[.box (.d X),.arr (nats L) wi,.box (.agg cs),.arr (ints (L.map f)) true]) ∧
   (lk T' 0 = .ptr 2 0 ∧ lk T' 5 = .view 3 L.length 1 0 L.length)
 | 0,i,es,J,T,hi,hes,hk,h0,h1,h5,h11,h12,h13 => by
  obtain rfl : i = L.length:=by omega
  rw [List.take_length] at hes
  subst hes
  have hd : decide (((L.length : Nat) : Int) < ((L.length : Nat) : Int)) = false:=by simp
  obtain ⟨G,hG⟩ : ∃ G,G = againL C (some [0,1,5,11,12,13]) zdy 4:=⟨_,rfl⟩
  generalize ints (L.map f) = E at *
  generalize nats L = N at *
  rw [zam,← hG]
  simp +decide only [zdy,hd,hcs,h0,h1,h5,h11,h12,h13,Pk.EVO,Pk.EVDO,↓reduceIte,Nat.reduceAdd]
  rw [hG]
  exact ⟨_,rfl,rfl,rfl⟩
 | n + 1, i, es, J, T, hi, hes, hk, h0, h1, h5, h11, h12, h13 => by
  have hd : decide ((i : Int) < ((L.length : Nat) : Int)) = true:=by simp; omega
  have hw : IntKind.i64.wrap ((i : Int) + 1) = ((i + 1 : Nat) : Int):=wi64 (by omega)
  have hp0 : (0 ≤ (i : Int)) = True:=by simp
  have hpl : ((i : Int) < ((L.length : Nat) : Int)) = True:=by simp; omega
  obtain ⟨o,ho⟩ : ∃ o,L[i]? = some o:=⟨L[i]'(by omega),List.getElem?_eq_getElem _⟩
  have hmem:=List.mem_of_getElem? ho
  have ho5:=hL o hmem
  have hq0 : (0 ≤ (o : Int)) = True:=by simp
  have hq5 : ((o : Int) < ((5 : Nat) : Int)) = True:=by simp; omega
  have hx:=zbs L i o ho
  have hl:=zal L
  have hww:=hwt o hmem
  have hcl:=hcall o hmem
  have hsz : (i + 1 ≤ LIM) = True:=by
   have : i + 1 ≤ LIM:=by unfold LIM; omega
   simp [this]
  have hnext : ints ((L.take (i + 1)).map f) = es ++ [DV.i .i64 (f o)]:=by
   rw [hes,List.take_add_one,ho]; simp [ints]
  obtain ⟨G,hG⟩ : ∃ G,G = againL C (some [0,1,5,11,12,13]) zdy 4:=⟨_,rfl⟩
  have ih:=zn4 X cs hcs g t wi L hL hLl w f hg hwt hcall n (i + 1) (es ++ [DV.i .i64 (f o)])
  generalize ints (L.map f) = E at *
  generalize nats L = N at *
  rw [zam,← hG]
  simp +decide only [zdy,hw,hp0,hpl,hq0,hq5,hx,hl,hww,hcl,hg,hcs,hk,hsz,h0,h1,h5,h11,h12,h13,Pk.EVO,Pk.EVDO,↓reduceIte,Nat.reduceAdd,elems]
  rw [hG,zah]
  exact ih _ _ (by omega) hnext.symm (by simp [hk]) rfl rfl rfl rfl rfl rfl

/-- What a draw picks. -/
def drawn (L : List Nat) (f : Nat → Int) : Nat:=L.getD (bestI (L.map f)).toNat 0

theorem zmu (l : List Int) (h : 0 < l.length) : 0 ≤ bestI l ∧ bestI l < (l.length : Nat):=by
 rcases zi8 l with ⟨h0,_⟩ | ⟨h1,h2,_⟩
 ·omega
 ·exact ⟨h1,h2⟩

theorem draw_none (X : DV) (cs : List AV) (hcs : lts 3 cs = true) (hcs4 : lts 4 cs = true) (g t : Int) (wi : Bool) (L : List Nat) (hL : ∀ o ∈ L,o < 5) (hLl : L.length ≤ 100) (hL0 : 0 < L.length) (w f : Nat → Int) (hg : cs[16]? = some (.d (.i .u8 g)))
  (hin : cs[17]? = some (.view 1 L.length 1 0 L.length))
  (hwt : ∀ o,o ∈ L → cs[1 + ((o : Nat) : Int).toNat * 3 + 1]? = some (.d (.i .i64 (w o))))
  (hcall : ∀ o,o ∈ L → evF C F_q4f [.d (.i .u8 g),.d (.i .i64 ((o : Nat) : Int)),.d (.i .i64 t),.d (.i .i64 (w o))] [] = some (.d (.i .i64 (f o)),[])) :
  evF C F_q3f [.ptr 2 0,.d (.i .i64 t)] [.box (.d X),.arr (nats L) wi,.box (.agg cs)] = some (.d (.i .i64 (drawn L f : Nat)),[.box (.d X),.arr (nats L) wi,.box (.agg cs)]):=by
 rw [zaa (rfl : C F_q3f = some a_q3f) _ _ rfl]
 simp +decide only [c_q3f,zp2,zqf,hin,thaw,Pk.EVO,Pk.EVDO,↓reduceIte,Nat.reduceAdd]
 simp only [Option.bind_assoc]
 refine zbd (zn4 X cs hcs4 g t wi L hL hLl w f hg hwt hcall L.length 0 [] _ _ (by omega) rfl rfl rfl rfl rfl rfl rfl rfl) ?_
 intro T' ⟨h0,h5⟩
 have hbl : (L.map f).length = L.length:=by simp
 have hb:=best_at (L.map f) (by omega)
 obtain ⟨b0,b1⟩:=zmu (L.map f) (by omega)
 rw [hbl] at b1
 have hl:=zal L
 have hl2 : (ints (L.map f)).length = L.length:=by simp [ints]
 have hsub : List.take L.length (ints (L.map f)) = ints (L.map f):=List.take_of_length_le (by omega)
 obtain ⟨c,hc⟩ : ∃ c : Nat,bestI (L.map f) = c:=⟨(bestI (L.map f)).toNat,by omega⟩
 have hdr : drawn L f = L.getD c 0:=by unfold drawn; rw [hc,Int.toNat_natCast]
 rw [hdr]
 rw [hc] at hb b1
 have hcl : c < L.length:=by omega
 have hx:=zbs L c (L[c]'hcl) (List.getElem?_eq_getElem hcl)
 have hgd : L.getD c 0 = L[c]'hcl:=by simp [hcl]
 rw [hgd]
 generalize L[c]'hcl = r at hx ⊢
 have hp0 : (0 ≤ (c : Int)) = True:=by simp
 have hpl : ((c : Int) < ((L.length : Nat) : Int)) = True:=by simp; omega
 generalize ints (L.map f) = E at *
 generalize nats L = N at *
 simp +decide only [h0,h5,hin,hb,hl,hl2,hsub,hp0,hpl,hx,hcs,Pk.EVO,Pk.EVDO,↓reduceIte,Nat.reduceAdd]
end

section
/-! A draw,daemons picked already. -/
set_option maxRecDepth 10000
set_option maxHeartbeats 1000000

theorem zjo (X : DV) (x3 pk : List DV) (w3 wp : Bool) (cs : List AV) (hcs : lts 6 cs = true) (g t : Int) (wi : Bool) (L : List Nat) (hL : ∀ o ∈ L,o < 5) (hLl : L.length ≤ 100) (w f : Nat → Int) (hg : cs[16]? = some (.d (.i .u8 g)))
  (hwt : ∀ o,o ∈ L → cs[1 + ((o : Nat) : Int).toNat * 3 + 1]? = some (.d (.i .i64 (w o))))
  (hcall : ∀ o,o ∈ L → evF C F_q4f [.d (.i .u8 g),.d (.i .i64 ((o : Nat) : Int)),.d (.i .i64 t),.d (.i .i64 (w o))] [] = some (.d (.i .i64 (f o)),[])) :
  ∀ (n i : Nat) (es : List DV) (J : Heap) (T : Tm),i + n = L.length → es = ints ((L.take i).map f) → es.length = i → lk T 0 = .ptr 2 0 → lk T 1 = .d (.i .i64 t) → lk T 5 = .view 5 i 1 0 i → lk T 11 = .view 1 L.length 1 0 L.length →
  lk T 12 = .d (.i .i64 (L.length : Nat)) → lk T 13 = .d (.i .i64 i) →
  ∃ T',evL C (some [0,1,5,11,12,13]) zdy 6 T (.box (.d X) :: .arr (nats L) wi :: .box (.agg cs) :: .arr x3 w3 :: .arr pk wp :: .arr es true :: J) = some (.exit 0,T',[.box (.d X),.arr (nats L) wi,.box (.agg cs),.arr x3 w3,.arr pk wp,.arr (ints (L.map f)) true]) ∧
   (lk T' 0 = .ptr 2 0 ∧ lk T' 5 = .view 5 L.length 1 0 L.length)
 | 0,i,es,J,T,hi,hes,hk,h0,h1,h5,h11,h12,h13 => by
  obtain rfl : i = L.length:=by omega
  rw [List.take_length] at hes
  subst hes
  have hd : decide (((L.length : Nat) : Int) < ((L.length : Nat) : Int)) = false:=by simp
  obtain ⟨G,hG⟩ : ∃ G,G = againL C (some [0,1,5,11,12,13]) zdy 6:=⟨_,rfl⟩
  generalize ints (L.map f) = E at *
  generalize nats L = N at *
  rw [zam,← hG]
  simp +decide only [zdy,hd,hcs,h0,h1,h5,h11,h12,h13,Pk.EVO,Pk.EVDO,↓reduceIte,Nat.reduceAdd]
  rw [hG]
  exact ⟨_,rfl,rfl,rfl⟩
 | n + 1, i, es, J, T, hi, hes, hk, h0, h1, h5, h11, h12, h13 => by
  have hd : decide ((i : Int) < ((L.length : Nat) : Int)) = true:=by simp; omega
  have hw : IntKind.i64.wrap ((i : Int) + 1) = ((i + 1 : Nat) : Int):=wi64 (by omega)
  have hp0 : (0 ≤ (i : Int)) = True:=by simp
  have hpl : ((i : Int) < ((L.length : Nat) : Int)) = True:=by simp; omega
  obtain ⟨o,ho⟩ : ∃ o,L[i]? = some o:=⟨L[i]'(by omega),List.getElem?_eq_getElem _⟩
  have hmem:=List.mem_of_getElem? ho
  have ho5:=hL o hmem
  have hq0 : (0 ≤ (o : Int)) = True:=by simp
  have hq5 : ((o : Int) < ((5 : Nat) : Int)) = True:=by simp; omega
  have hx:=zbs L i o ho
  have hl:=zal L
  have hww:=hwt o hmem
  have hcl:=hcall o hmem
  have hsz : (i + 1 ≤ LIM) = True:=by
   have : i + 1 ≤ LIM:=by unfold LIM; omega
   simp [this]
  have hnext : ints ((L.take (i + 1)).map f) = es ++ [DV.i .i64 (f o)]:=by
   rw [hes,List.take_add_one,ho]; simp [ints]
  obtain ⟨G,hG⟩ : ∃ G,G = againL C (some [0,1,5,11,12,13]) zdy 6:=⟨_,rfl⟩
  have ih:=zjo X x3 pk w3 wp cs hcs g t wi L hL hLl w f hg hwt hcall n (i + 1) (es ++ [DV.i .i64 (f o)])
  generalize ints (L.map f) = E at *
  generalize nats L = N at *
  rw [zam,← hG]
  simp +decide only [zdy,hw,hp0,hpl,hq0,hq5,hx,hl,hww,hcl,hg,hcs,hk,hsz,h0,h1,h5,h11,h12,h13,Pk.EVO,Pk.EVDO,↓reduceIte,Nat.reduceAdd,elems]
  rw [hG,zah]
  exact ih _ _ (by omega) hnext.symm (by simp [hk]) rfl rfl rfl rfl rfl rfl

theorem draw_some (X : DV) (x3 pk : List DV) (w3 wp : Bool) (cs : List AV) (hcs : lts 5 cs = true) (hcs4 : lts 6 cs = true) (g t : Int) (wi : Bool) (L : List Nat) (hL : ∀ o ∈ L,o < 5) (hLl : L.length ≤ 100) (hL0 : 0 < L.length) (w f : Nat → Int) (hg : cs[16]? = some (.d (.i .u8 g)))
  (hin : cs[17]? = some (.view 1 L.length 1 0 L.length))
  (hwt : ∀ o,o ∈ L → cs[1 + ((o : Nat) : Int).toNat * 3 + 1]? = some (.d (.i .i64 (w o))))
  (hcall : ∀ o,o ∈ L → evF C F_q4f [.d (.i .u8 g),.d (.i .i64 ((o : Nat) : Int)),.d (.i .i64 t),.d (.i .i64 (w o))] [] = some (.d (.i .i64 (f o)),[])) :
  evF C F_q3f [.ptr 2 0,.d (.i .i64 t)] [.box (.d X),.arr (nats L) wi,.box (.agg cs),.arr x3 w3,.arr pk wp] = some (.d (.i .i64 (drawn L f : Nat)),[.box (.d X),.arr (nats L) wi,.box (.agg cs),.arr x3 w3,.arr pk wp]):=by
 rw [zaa (rfl : C F_q3f = some a_q3f) _ _ rfl]
 simp +decide only [c_q3f,zp2,zqf,hin,thaw,Pk.EVO,Pk.EVDO,↓reduceIte,Nat.reduceAdd]
 simp only [Option.bind_assoc]
 refine zbd (zjo X x3 pk w3 wp cs hcs4 g t wi L hL hLl w f hg hwt hcall L.length 0 [] _ _ (by omega) rfl rfl rfl rfl rfl rfl rfl rfl) ?_
 intro T' ⟨h0,h5⟩
 have hbl : (L.map f).length = L.length:=by simp
 have hb:=best_at (L.map f) (by omega)
 obtain ⟨b0,b1⟩:=zmu (L.map f) (by omega)
 rw [hbl] at b1
 have hl:=zal L
 have hl2 : (ints (L.map f)).length = L.length:=by simp [ints]
 have hsub : List.take L.length (ints (L.map f)) = ints (L.map f):=List.take_of_length_le (by omega)
 obtain ⟨c,hc⟩ : ∃ c : Nat,bestI (L.map f) = c:=⟨(bestI (L.map f)).toNat,by omega⟩
 have hdr : drawn L f = L.getD c 0:=by unfold drawn; rw [hc,Int.toNat_natCast]
 rw [hdr]
 rw [hc] at hb b1
 have hcl : c < L.length:=by omega
 have hx:=zbs L c (L[c]'hcl) (List.getElem?_eq_getElem hcl)
 have hgd : L.getD c 0 = L[c]'hcl:=by simp [hcl]
 rw [hgd]
 generalize L[c]'hcl = r at hx ⊢
 have hp0 : (0 ≤ (c : Int)) = True:=by simp
 have hpl : ((c : Int) < ((L.length : Nat) : Int)) = True:=by simp; omega
 generalize ints (L.map f) = E at *
 generalize nats L = N at *
 simp +decide only [h0,h5,hin,hb,hl,hl2,hsub,hp0,hpl,hx,hcs,Pk.EVO,Pk.EVDO,↓reduceIte,Nat.reduceAdd]
end
end Go.Proofs.YthlpognahlnaaaaGreat
