/- What the laws of repairs use: plans of rows in arrays,who is in a row,the rows in order. / What the laws of repairs know; a plan is done. -/
import Derived.Test.YthlpognahlnaaaaGreatPkEvd
import Derived.Test.YthlpognahlnaaaaGreatMgG
import Derived.Test.YthlpognahlnaaaaGreatRpP
import Derived.Test.YthlpognahlnaaaaGreatMgD
import Derived.Test.YthlpognahlnaaaaGreatObjB
set_option linter.all false
namespace Go.Proofs.YthlpognahlnaaaaGreat
open Pv Go Pk
set_option maxRecDepth 10000
set_option maxHeartbeats 4000000
theorem frz2_view (h g : AV) (j1 j2 k : Nat) (hne : j1 ≠ j2) (es ls : List DV) (w1 w2 : Bool) (H : Heap) (h1 : H[j1]? = some (.arr es w1)) (h2 : H[j2]? = some (.arr ls w2)) (k1 : es.length = k) (k2 : ls.length = k) :
  frzL [false,false,true,true] H [h,g,.view j1 k 1 0 k,.view j2 k 49 0 k] = ([h,g,.d (.sl es),.d (.sl ls)],(H.set j1 (.arr es false)).set j2 (.arr ls false)):=by
 have s1 : subL es 0 k = es:=by unfold subL; rw [List.drop_zero]; exact List.take_of_length_le (by omega)
 have s2 : subL ls 0 k = ls:=by unfold subL; rw [List.drop_zero]; exact List.take_of_length_le (by omega)
 have h2' : (H.set j1 (.arr es false))[j2]? = some (.arr ls w2):=by rw [List.getElem?_set_ne hne]; exact h2
 simp [frzL,frzV,toD,h1,h2',k1,k2,s1,s2]
theorem zjc (o j1 j2 k : Nat) (hne : j1 ≠ j2) (os : List Int) (L : List State) (w1 w2 : Bool) (H : Heap) (g : Int) (h1 : H[j1]? = some (.arr (os.map fun x => .i .i64 x) w1)) (h2 : H[j2]? = some (.arr (L.map State.d) w2)) (k1 : os.length = k) (k2 : L.length = k) :
  evF C F_q3l [.ptr o 0,.d (.i .u8 g),.view j1 k 1 0 k,.view j2 k 49 0 k] H = evF C F_q3l [.ptr o 0,.d (.i .u8 g),.d (.sl (os.map fun x => .i .i64 x)),.d (.sl (L.map State.d))] ((H.set j1 (.arr (os.map fun x => .i .i64 x) false)).set j2 (.arr (L.map State.d) false)):=by
 rw [za3 (rfl : C F_q3l = some f_q3l) _ _ _ _ (frz2_view _ _ j1 j2 k hne _ _ w1 w2 H h1 h2 (by rw [List.length_map]; exact k1) (by rw [List.length_map]; exact k2)) rfl,
  za3 (rfl : C F_q3l = some f_q3l) _ _ [.ptr o 0,.d (.i .u8 g),.d (.sl (os.map fun x => .i .i64 x)),.d (.sl (L.map State.d))] ((H.set j1 (.arr (os.map fun x => .i .i64 x) false)).set j2 (.arr (L.map State.d) false)) rfl rfl]
theorem zkz (A : List Int) (x : Int) (hA : A.length ≤ 1000) : evF C F_q27 [.d (.sl (A.map fun x => .i .i64 x)),.d (.i .i64 x)] [] = some (.d (.b (decide (x ∈ A))),[]):=by
 have hl : (A.map fun x : Int => DV.i .i64 x).length = A.length:=List.length_map _
 rw [zaa (rfl : C F_q27 = some a_q27) _ _ rfl]
 simp +decide only [c_q27,thaws,Pk.EVL,Pk.EVD,↓reduceIte,Nat.reduceAdd]
 simp only [Option.bind_assoc]
 refine zaf (zac (fun i T H => lk T 0 = .d (.sl (A.map fun x => .i .i64 x)) ∧ lk T 1 = .d (.i .i64 x) ∧ lk T 5 = .d (.i .i64 (i : Nat)) ∧ H = [] ∧ decide (x ∈ A) = decide (x ∈ A.drop i))
  (fun e T H => H = [] ∧ ((e = .exit 0 ∧ decide (x ∈ A) = false) ∨ (e = .ret ∧ lk T 4 = .d (.b true) ∧ decide (x ∈ A) = true))) A.length ?_ ?_ A.length 0 _ _ (by omega) ⟨rfl,rfl,rfl,rfl,rfl⟩) ?_
 ·rintro i T H hi ⟨h0, h1, h5, rfl, hc⟩
  obtain ⟨y,hy⟩ : ∃ y,A[i]? = some y:=⟨A[i]'hi,List.getElem?_eq_getElem _⟩
  have hyd:=zae (fun x : Int => DV.i .i64 x) hy
  have hdr : A.drop i = y :: A.drop (i + 1):=by
   rw [List.drop_eq_getElem_cons hi]
   congr 1
   exact (List.getElem?_eq_some_iff.1 hy).2
  have hd : decide ((i : Int) < ((A.length : Nat) : Int)) = true:=by simp; omega
  have hw : IntKind.i64.wrap ((i : Int) + 1) = ((i + 1 : Nat) : Int):=wi64 (by omega)
  have b0 : (0 ≤ (i : Int)) = True:=by simp
  have b1 : ((i : Int) < ((A.length : Nat) : Int)) = True:=eq_true (by omega)
  rcases Bool.eq_false_or_eq_true (y == x) with c | c
  ·have e1 : decide (x ∈ A) = true := by rw [hc, hdr]; simp at c; simp [c]
   simp +decide only [zl7,zmn,h0,h1,h5,hl,hyd,b0,b1,c,Int.toNat_natCast,Pk.EVL,Pk.EVD,↓reduceIte]
   exact ⟨_,_,_,rfl,.inr ⟨by simp,rfl,.inr ⟨rfl,rfl,e1⟩⟩⟩
  ·have e1 : decide (x ∈ A) = decide (x ∈ A.drop (i + 1)) := by
    rw [hc,hdr]
    have : ¬ x = y:=by intro h; simp [h] at c
    simp [this]
   simp +decide only [zl7,zmn,h0,h1,h5,hl,hyd,hw,b0,b1,c,Int.toNat_natCast,Pk.EVL,Pk.EVD,↓reduceIte]
   exact ⟨_,_,_,rfl,.inl ⟨rfl,rfl,rfl,rfl,rfl,e1⟩⟩
 ·rintro T H ⟨h0, h1, h5, rfl, hc⟩
  rw [List.drop_length] at hc
  have hd : decide (((A.length : Nat) : Int) < ((A.length : Nat) : Int)) = false:=by simp
  have e1 : decide (x ∈ A) = false:=by rw [hc]; simp
  simp +decide only [zl7,zmn,h0,h1,h5,hl,Pk.EVL,Pk.EVD,↓reduceIte]
  exact ⟨_,_,_,rfl,by simp,rfl,.inl ⟨rfl,e1⟩⟩
 rintro e T H ⟨rfl,⟨rfl,h⟩ | ⟨rfl,h4,h⟩⟩
 ·simp +decide only [h,Pk.EVL,Pk.EVD,↓reduceIte]
 ·simp +decide only [h4,h,Pk.EVL,Pk.EVD,↓reduceIte]
/-- The daemons of a row,in order. -/
def inO (A : List Int) (k : Nat) : List Int:=((List.range k).map fun i : Nat => (i : Int)).filter fun x => decide (x ∈ A)
theorem inO_succ (A : List Int) (k : Nat) : inO A (k + 1) = inO A k ++ (if decide ((k : Int) ∈ A) = true then [(k : Int)] else []):=by
 unfold inO
 rw [List.range_succ,List.map_append,List.filter_append]
 congr 1
 by_cases c : (k : Int) ∈ A <;> simp [c]
theorem inO_len (A : List Int) (k : Nat) : (inO A k).length ≤ k:=by
 unfold inO
 exact Nat.le_trans (List.length_filter_le _ _) (by rw [List.length_map,List.length_range]; exact Nat.le_refl _)
theorem sorted_at (A : List Int) (hA : A.length ≤ 1000) : evF C F_q1t [.d (.sl (A.map fun x => .i .i64 x))] [] = some (.view 0 (inO A 5).length 1 0 (inO A 5).length,[.arr ((inO A 5).map fun x => .i .i64 x) true]):=by
 rw [zaa (rfl : C F_q1t = some a_q1t) _ _ rfl]
 simp +decide only [c_q1t,thaws,thaw,Pk.EVL,Pk.EVD,↓reduceIte]
 simp only [Option.bind_assoc]
 refine zaf (zac (fun i T H => lk T 0 = .d (.sl (A.map fun x => .i .i64 x)) ∧ lk T 3 = .view 0 (inO A i).length 1 0 (inO A i).length ∧ lk T 4 = .d (.i .i64 (i : Nat)) ∧ ∃ J,H = .arr ((inO A i).map fun x => .i .i64 x) true :: J)
  (fun e T H => e = .exit 0 ∧ lk T 3 = .view 0 (inO A 5).length 1 0 (inO A 5).length ∧ H = [.arr ((inO A 5).map fun x => .i .i64 x) true]) 5 ?_ ?_ 5 0 _ _ (by omega) ⟨rfl,rfl,rfl,[],rfl⟩) ?_
 ·rintro i T H hi ⟨h0, h3, h4, J, rfl⟩
  have hin:=zkz A (i : Int) hA
  have hle:=inO_len A i
  have hsu:=inO_succ A i
  have hEl : ((inO A i).map fun x : Int => DV.i .i64 x).length = (inO A i).length:=List.length_map _
  have hd : decide ((i : Int) < 5) = true:=by simp; omega
  have hw : IntKind.i64.wrap ((i : Int) + 1) = ((i + 1 : Nat) : Int):=wi64 (by omega)
  have hlim : ((inO A i).length + 1 ≤ LIM) = True:=eq_true (by unfold LIM; omega)
  rcases Bool.eq_false_or_eq_true (decide ((i : Int) ∈ A)) with c | c
  ·rw [c, if_pos rfl] at hsu
   rw [c] at hin
   rw [hsu]
   generalize inO A i = E at *
   simp +decide only [zln,zk8,h0,h3,h4,hin,hEl,hd,hw,hlim,elems,Pk.EVL,Pk.EVD,↓reduceIte,Nat.reduceAdd]
   refine ⟨_,_,_,rfl,.inl ⟨rfl,rfl,?_,rfl,?_⟩⟩
   ·rw [List.length_append]; rfl
   ·rw [List.map_append]; exact ⟨_,rfl⟩
  ·rw [c, if_neg (by decide), List.append_nil] at hsu
   rw [c] at hin
   rw [hsu]
   generalize inO A i = E at *
   simp +decide only [zln,zk8,h0,h3,h4,hin,hd,hw,Pk.EVL,Pk.EVD,↓reduceIte]
   exact ⟨_,_,_,rfl,.inl ⟨rfl,rfl,rfl,rfl,_,rfl⟩⟩
 ·rintro T H ⟨h0, h3, h4, J, rfl⟩
  simp +decide only [zln,zk8,h0,h3,h4,Pk.EVL,Pk.EVD,↓reduceIte]
  exact ⟨_,_,_,rfl,by simp,rfl,rfl,rfl⟩
 rintro e T H ⟨rfl,h3,rfl⟩
 simp +decide only [h3,Pk.EVL,Pk.EVD,↓reduceIte]
def few25 (L : List State) : Bool:=L.all (fun s => !decide ((s.log.length : Int) > 10) && isSt s) && decide ((L.length : Int) ≤ 5)
theorem few25_at (L : List State) (hL : L.length ≤ maxLen) (hf : ∀ s ∈ L,stFull s) : evF C F_q1r [.d (.sl (L.map State.d))] [] = some (.d (.b (few25 L)),[]):=by
 have hLl : (L.map State.d).length = L.length:=List.length_map _
 have hmx : maxLen ≤ 9223372036854775807:=by decide
 rw [zaa (rfl : C F_q1r = some a_q1r) _ _ rfl]
 simp +decide only [c_q1r,thaws,Pk.EVL,Pk.EVD,↓reduceIte]
 simp only [Option.bind_assoc]
 refine zaf (zac (fun i T H => lk T 0 = .d (.sl (L.map State.d)) ∧ lk T 3 = .d (.i .i64 (i : Nat)) ∧ H = [] ∧ (L.take i).all (fun s => !decide ((s.log.length : Int) > 10) && isSt s) = true)
  (fun e T H => (e = .exit 0 ∧ lk T 0 = .d (.sl (L.map State.d)) ∧ H = [] ∧ L.all (fun s => !decide ((s.log.length : Int) > 10) && isSt s) = true) ∨ (e = .ret ∧ lk T 2 = .d (.b false) ∧ H = [] ∧ L.all (fun s => !decide ((s.log.length : Int) > 10) && isSt s) = false)) L.length ?_ ?_ L.length 0 _ _ (by omega) ⟨rfl,rfl,rfl,rfl⟩) ?_
 ·rintro i T H hi ⟨h0, h3, rfl, ha⟩
  obtain ⟨s,hs⟩ : ∃ s,L[i]? = some s:=⟨L[i]'hi,List.getElem?_eq_getElem _⟩
  have hsd:=zae State.d hs
  have his:=zcy s (hf s (List.mem_of_getElem? hs))
  have hd : decide ((i : Int) < ((L.length : Nat) : Int)) = true:=by simp; omega
  have hw : IntKind.i64.wrap ((i : Int) + 1) = ((i + 1 : Nat) : Int):=wi64 (by omega)
  have b0 : (0 ≤ (i : Int)) = True:=by simp
  have b1 : ((i : Int) < ((L.length : Nat) : Int)) = True:=eq_true (by omega)
  have hll : (s.log.map Entry.d).length = s.log.length:=List.length_map _
  have hbad : (!decide ((s.log.length : Int) > 10) && isSt s) = false → L.all (fun s => !decide ((s.log.length : Int) > 10) && isSt s) = false:=fun h => by
   rw [List.all_eq_false]
   exact ⟨s,List.mem_of_getElem? hs,by rw [h]; decide⟩
  rcases Bool.eq_false_or_eq_true (decide ((s.log.length : Int) > 10)) with c | c
  ·have hf := hbad (by rw [c]; rfl)
   simp +decide only [zh8,zic,h0,h3,hLl,hsd,hll,b0,b1,c,Int.toNat_natCast,Pk.EVL,Pk.EVD,↓reduceIte,Pk.TY_State]
   exact ⟨_,_,_,rfl,.inr ⟨by simp,.inr ⟨rfl,rfl,rfl,hf⟩⟩⟩
  rcases Bool.eq_false_or_eq_true (isSt s) with c2 | c2
  ·rw [c2] at his
   have ht : (L.take (i + 1)).all (fun s => !decide ((s.log.length : Int) > 10) && isSt s) = true:=by
    rw [zag hs,List.all_append,ha,List.all_cons,c,c2]; rfl
   simp +decide only [zh8,zic,h0,h3,hLl,hsd,his,hll,hw,b0,b1,c,Int.toNat_natCast,Pk.EVL,Pk.EVD,↓reduceIte,Pk.TY_State]
   exact ⟨_,_,_,rfl,.inl ⟨rfl,rfl,rfl,rfl,ht⟩⟩
  ·have hf := hbad (by rw [c, c2]; rfl)
   rw [c2] at his
   simp +decide only [zh8,zic,h0,h3,hLl,hsd,his,hll,b0,b1,c,Int.toNat_natCast,Pk.EVL,Pk.EVD,↓reduceIte,Pk.TY_State]
   exact ⟨_,_,_,rfl,.inr ⟨by simp,.inr ⟨rfl,rfl,rfl,hf⟩⟩⟩
 ·rintro T H ⟨h0, h3, rfl, ha⟩
  rw [List.take_length] at ha
  have hd : decide (((L.length : Nat) : Int) < ((L.length : Nat) : Int)) = false:=by simp
  simp +decide only [zh8,zic,h0,h3,hLl,Pk.EVL,Pk.EVD,↓reduceIte]
  exact ⟨_,_,_,rfl,by simp,.inl ⟨rfl,rfl,rfl,ha⟩⟩
 rintro e T H (⟨rfl,h0,rfl,ha⟩ | ⟨rfl,h2,rfl,ha⟩)
 ·unfold few25
  rw [ha,Bool.true_and]
  simp +decide only [h0,hLl,Pk.EVL,Pk.EVD,↓reduceIte]
 ·unfold few25
  rw [ha,Bool.false_and]
  simp +decide only [h2,Pk.EVL,Pk.EVD,↓reduceIte]
end Go.Proofs.YthlpognahlnaaaaGreat

namespace Go.Proofs.YthlpognahlnaaaaGreat
open Pv Go Pk
set_option maxRecDepth 10000
set_option maxHeartbeats 4000000
theorem makeM_log {a b : State} {e : Entry} (h : e ∈ (makeM a b).log) : e ∈ b.log:=by
 unfold makeM at h
 split at h
 ·split at h
  ·simp at h
  ·split at h
   ·exact List.mem_of_mem_drop h
   ·simp at h
 ·simp [Diff.zero] at h
/-- A plan that isn't blocked,of states that may be,comes to what all have. -/
theorem zns {G : Heap} {m : Nat} (hG : G.length = m) (hGa : ∀ k,G.all (ltO (m + k)) = true) (p : Plan) (os : List Int) (L : List State) (since : Int) (hL : L.length ≤ 1000) (h1 : os.length = L.length) (t : State) (hp : p.diffs = L.map fun s => makeM s t) (h3 : p.blocked = false)
  (hst : ∀ s ∈ L,stOk s ∧ isSt s = true) (ht : stOk t ∧ isSt t = true) :
  evF C F_q3k [.d (.agg p.cs),.d (.sl (os.map fun x => .i .i64 x)),.d (.sl (L.map State.d)),.d (.i .u32 since)] G = some (.tup [.d (.sl ((List.replicate L.length { t with started:=since }).map State.d)),.d (.i .i64 0)],G):=by
 have hd : doneL since L p.diffs = List.replicate L.length { t with started:=since }:=by
  rw [hp]
  unfold doneL
  apply List.ext_getElem?
  intro i
  by_cases hi : i < L.length
  ·rw [List.getElem?_replicate_of_lt hi, List.getElem?_zipWith, List.getElem?_map]
   obtain ⟨s,hs⟩ : ∃ s,L[i]? = some s:=⟨L[i],List.getElem?_eq_getElem hi⟩
   have:=hst s (List.mem_of_getElem? hs)
   rw [hs]
   show some _ = some _
   rw [zrv this.1 ht.1 this.2 ht.2]
  ·rw [List.getElem?_eq_none (by rw [List.length_zipWith,List.length_map]; omega),List.getElem?_eq_none (by rw [List.length_replicate]; omega)]
 rw [← hd]
 refine rdone_at hG hGa p os L since hL h1 (by rw [hp,List.length_map]) h3 (fun s hs => (hst s hs).1) ?_ ?_
 ·intro d hd
  rw [hp] at hd
  obtain ⟨s,hs,rfl⟩:=List.mem_map.1 hd
  refine ⟨fun e he => ht.1.log e (makeM_log he),?_⟩
  have h6:=zay ht.2
  have:=(zn2 s t (by omega)).1
  omega
 ·intro i s d hs hd
  rw [hp,List.getElem?_map,hs] at hd
  have:=hst s (List.mem_of_getElem? hs)
  cases hd
  rw [zrv this.1 ht.1 this.2 ht.2]
theorem frz2_sub (h g : AV) (j1 j2 g1 g2 k : Nat) (hne : j1 ≠ j2) (es ls : List DV) (w1 w2 : Bool) (H : Heap) (h1 : H[j1]? = some (.arr es w1)) (h2 : H[j2]? = some (.arr ls w2)) (k1 : es.length = g1) (k2 : ls.length = g2) (l1 : k ≤ g1) (l2 : k ≤ g2) :
  frzL [false,false,true,true] H [h,g,.view j1 g1 1 0 k,.view j2 g2 49 0 k] = ([h,g,.d (.sl (es.take k)),.d (.sl (ls.take k))],(H.set j1 (.arr es false)).set j2 (.arr ls false)):=by
 have h2' : (H.set j1 (.arr es false))[j2]? = some (.arr ls w2):=by rw [List.getElem?_set_ne hne]; exact h2
 simp [frzL,frzV,toD,h1,h2',k1,k2,subL]
theorem rmake_sub (o j1 j2 g1 g2 k : Nat) (hne : j1 ≠ j2) (os : List Int) (L : List State) (w1 w2 : Bool) (H : Heap) (g : Int) (h1 : H[j1]? = some (.arr (os.map fun x => .i .i64 x) w1)) (h2 : H[j2]? = some (.arr (L.map State.d) w2)) (k1 : os.length = g1) (k2 : L.length = g2) (l1 : k ≤ g1) (l2 : k ≤ g2) :
  evF C F_q3l [.ptr o 0,.d (.i .u8 g),.view j1 g1 1 0 k,.view j2 g2 49 0 k] H = evF C F_q3l [.ptr o 0,.d (.i .u8 g),.d (.sl ((os.take k).map fun x => .i .i64 x)),.d (.sl ((L.take k).map State.d))] ((H.set j1 (.arr (os.map fun x => .i .i64 x) false)).set j2 (.arr (L.map State.d) false)):=by
 rw [za3 (rfl : C F_q3l = some f_q3l) _ _ _ _ (frz2_sub _ _ j1 j2 g1 g2 k hne _ _ w1 w2 H h1 h2 (by rw [List.length_map]; exact k1) (by rw [List.length_map]; exact k2) l1 l2) rfl,List.map_take,List.map_take,
  za3 (rfl : C F_q3l = some f_q3l) _ _ [.ptr o 0,.d (.i .u8 g),.d (.sl ((os.map fun x => .i .i64 x).take k)),.d (.sl ((L.map State.d).take k))] ((H.set j1 (.arr (os.map fun x => .i .i64 x) false)).set j2 (.arr (L.map State.d) false)) rfl rfl]
def sK : State:=⟨0,Base.zero,Entry.zero,[⟨1,1,⟨1,1,1,0,0,⟨#[]⟩⟩⟩]⟩
def LK : List State:=[State.zero,State.zero,sK]
def pK : Plan:=planOf [] 0 [2,3,4] LK
def pK1 : Plan:=planOf [] 0 [2] [State.zero]
theorem sK_ok : stOk sK ∧ isSt sK = true:=⟨⟨by decide,fun e he => by
 have : e = ⟨1,1,⟨1,1,1,0,0,⟨#[]⟩⟩⟩:=by simpa [sK] using he
 rw [this]
 unfold Opr.ok
 refine ⟨by decide,by decide,by decide,by decide,by decide,by decide⟩⟩,by decide +kernel⟩
theorem sz_ok : stOk State.zero ∧ isSt State.zero = true:=⟨⟨by decide,zcr⟩,by decide +kernel⟩
theorem LK_ok : ∀ s ∈ LK,stOk s ∧ isSt s = true:=by
 intro s hs
 simp [LK] at hs
 rcases hs with rfl | rfl
 ·exact sz_ok
 ·exact sK_ok
theorem pK_best : pK.best = 2:=by decide +kernel
theorem zjs : pK.blocked = false:=by decide +kernel
theorem pK_diffs : pK.diffs = LK.map fun s => makeM s sK:=by decide +kernel
theorem pK_cost : costD pK.diffs = 2:=by decide +kernel
theorem zo7 : pK1.blocked = true:=by decide +kernel
theorem eptr_st (s : State) : AV.eptr s.cs = .eptr (.i .u32 s.started :: s.cs.tail):=rfl
theorem tail_log (s : State) : List.drop 47 s.cs.tail = [.sl (s.log.map Entry.d)]:=rfl
theorem wvK (v : AV) : upd State.zeroA 48 [v] = State.withV State.zero v:=rfl
theorem zsj : evF C F_q1s [] [] = some (.d (.b true),[]):=by
 obtain ⟨p,hP⟩ : ∃ p,([] : Heap).length = p:=⟨_,rfl⟩
 obtain ⟨n,hn⟩ : ∃ n,p + 12 = n:=⟨_,rfl⟩
 have hPp : plain []:=fun _ => rfl
 have hnew:=h_new hP
 have hl:=hh_len hP hn
 have ha:=hh_at hP hn
 have ha0:=hh_at0 hP hn
 have hs:=hh_set hP hn
 have hs0:=hh_set0 hP hn
 have ht:=hh_take hP hn
 have ht0:=hh_take0 hP hn
 have hac : (lastI (ivL [] 0)).acting = [4,3,2]:=by decide +kernel
 have C0:=@h_acting _ _ hP hPp [] zgm _ zcg [] (fun _ => rfl) 0 (by decide)
 have SO : evF C F_q1t [.d (.sl [.i .i64 4,.i .i64 3,.i .i64 2])] [] = some (.view 0 3 1 0 3,[.arr [.i .i64 2,.i .i64 3,.i .i64 4] true]):=sorted_at [4,3,2] (by decide)
 have fK : (List.take 48 State.zero.cs ++ [DV.sl [DV.agg (Entry.cs ⟨1,1,⟨1,1,1,0,0,⟨#[]⟩⟩⟩)]]) = sK.cs:=rfl
 obtain ⟨E,hE⟩ : ∃ E : List DV,E = [DV.agg (Entry.cs ⟨1,1,⟨1,1,1,0,0,⟨#[]⟩⟩⟩)]:=⟨_,rfl⟩
 have q1:=Grb.frz_pl zcg 0
 have q2:=Grb.frz_pl q1 0
 have X1 : plain [.arr E false,.arr (LK.map State.d) false,.arr [.i .i64 2,.i .i64 3,.i .i64 4] false]:=fun _ => rfl
 have X2 : plain [.arr E false,.arr (LK.map State.d) false,.arr [.i .i64 2,.i .i64 3,.i .i64 4] false,.box (.d (.agg pK.cs))]:=fun _ => rfl
 have MK1 : evF C F_q3l [.ptr (p + 2) 0,.d (.i .u8 0),.view (n + 2) 3 1 0 3,.view (n + 1) 3 49 0 3] (hh [] p [] grb0 [.arr E false,.arr [.agg State.zero.cs,.agg State.zero.cs,.agg sK.cs] true,.arr [.i .i64 2,.i .i64 3,.i .i64 4] true]) =
   some (.d (.agg pK.cs),hh [] p [] (grb0.frz 0) [.arr E false,.arr (LK.map State.d) false,.arr [.i .i64 2,.i .i64 3,.i .i64 4] false]):=by
  rw [zjc (p + 2) (n + 2) (n + 1) 3 (by omega) [2,3,4] LK true true _ 0 (by rw [ha]; rfl) (by rw [ha]; rfl) rfl rfl,hs,hs]
  exact zrm hP hn hPp zgm zcg X1 (m:=n + 3) rfl 0 (by decide) [2,3,4] LK (by decide) rfl (by
   intro i a b h1 h2
   match i,h1,h2 with
   | 0,h1,h2 => cases h1; cases h2; decide
   | 1,h1,h2 => cases h1; cases h2; decide
   | i + 2,h1,h2 => simp at h2) LK_ok
 obtain ⟨LD,hLD⟩ : ∃ LD : List State,List.replicate LK.length { sK with started:=1 } = LD:=⟨_,rfl⟩
 have G0 : ∀ k,([] : Heap).all (ltO (0 + k)) = true:=fun _ => rfl
 have DN1 : evF C F_q3k [.d (.agg pK.cs),.d (.sl [.i .i64 2,.i .i64 3,.i .i64 4]),.d (.sl (LK.map State.d)),.d (.i .u32 1)] [] = some (.tup [.d (.sl (LD.map State.d)),.d (.i .i64 0)],[]):=by
  rw [← hLD]
  exact zns (G:=[]) (m:=0) rfl G0 pK [2,3,4] LK 1 (by decide) rfl sK pK_diffs zjs LK_ok sK_ok
 have MK2 : evF C F_q3l [.ptr (p + 2) 0,.d (.i .u8 0),.view (n + 2) 3 1 0 1,.view (n + 1) 3 49 0 1] (hh [] p [] (grb0.frz 0) [.arr E false,.arr (LK.map State.d) false,.arr [.i .i64 2,.i .i64 3,.i .i64 4] false,.box (.d (.agg pK.cs))]) =
   some (.d (.agg pK1.cs),hh [] p [] ((grb0.frz 0).frz 0) [.arr E false,.arr (LK.map State.d) false,.arr [.i .i64 2,.i .i64 3,.i .i64 4] false,.box (.d (.agg pK.cs))]):=by
  rw [rmake_sub (p + 2) (n + 2) (n + 1) 3 3 1 (by omega) [2,3,4] LK false false _ 0 (by rw [ha]; rfl) (by rw [ha]; rfl) rfl rfl (by decide) (by decide),hs,hs]
  exact zrm hP hn hPp zgm q1 X2 (m:=n + 4) rfl 0 (by decide) [2] [State.zero] (by decide) rfl (by intro i a b h1 h2; simp at h2) (by intro s hs; simp at hs; subst hs; exact sz_ok)
 have DN2 : evF C F_q3k [.d (.agg pK1.cs),.d (.sl [.i .i64 2]),.d (.sl [.agg State.zero.cs]),.d (.i .u32 1)] [] = some (.tup [.d (.sl []),.d (.i .i64 80)],[]) :=
  zq8 (G:=[]) (m:=0) rfl G0 pK1 [2] [State.zero] 1 (.inr (.inr zo7))
 have sb1 : subL (LK.map State.d) 0 3 = LK.map State.d:=rfl
 have sb2 : subL (LK.map State.d) 0 1 = [.agg State.zero.cs]:=rfl
 have sb3 : ∀ a b c : DV,subL [a,b,c] 0 1 = [a]:=fun _ _ _ => rfl
 have sb4 : ∀ a b c : DV,subL [a,b,c] 0 3 = [a,b,c]:=fun _ _ _ => rfl
 have v1 : (((1 : Nat) : Int) == 1) = true:=rfl
 have v2 : (((2 : Nat) : Int) == 2) = true:=rfl
 have v3 : (((3 : Nat) : Int) == 3) = true:=rfl
 have v4 : (((3 : Nat) : Int) != 3) = false:=rfl
 have v5 : ((1 : Int) == 1) = true:=rfl
 have LKl : (LK.map State.d).length = 3:=rfl
 have CO:=zr7 pK (by decide +kernel) (by decide +kernel)
 rw [pK_cost] at CO
 have pb:=pK_best
 have pbl:=zjs
 have hLK : ([.agg State.zero.cs,.agg State.zero.cs,.agg sK.cs] : List DV) = LK.map State.d:=rfl
 have LDl : (LD.map State.d).length = 3:=by rw [← hLD]; rfl
 have LD0 : (LD.map State.d)[0]? = some (State.d { sK with started:=1 }):=by rw [← hLD]; rfl
 have LD1 : (LD.map State.d)[1]? = some (State.d { sK with started:=1 }):=by rw [← hLD]; rfl
 have LDo : (({ sK with started:=1 } : State).log.map Entry.d).length = 1:=rfl
 have LDs : ({ sK with started:=1 } : State).started = 1:=rfl
 subst hE
 generalize pK = PK at *
 generalize pK1 = PK1 at *
 rw [zaa (rfl : C F_q1s = some a_q1s) _ _ rfl]
 simp +decide only [c_q1s,hnew,C0,hac,SO,List.map_cons,List.map_nil,fK,MK1,DN1,MK2,DN2,CO,pb,pbl,sb1,sb2,sb3,sb4,v1,v2,v3,v4,v5,eptr_st,tail_log,LDl,LD0,LD1,LDo,wvK,hl,ha,ha0,hs,hs0,ht,ht0,hh_push,Nat.zero_le,List.take_zero,Pk.EVL,Pk.EVD,↓reduceIte,Nat.reduceAdd,Nat.reduceBNe,Nat.reduceSub,Pk.TY_State,Pk.TY_Entry,Pk.TY_Opr,Pk.TY_Plan]
end Go.Proofs.YthlpognahlnaaaaGreat
