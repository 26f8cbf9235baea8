/- place.Acting,Primary,Moved; the laws' known. -/
import Derived.Test.YthlpognahlnaaaaGreatPkEvd
import Derived.Test.YthlpognahlnaaaaGreatPlaceC
set_option linter.all false
namespace Go.Proofs.YthlpognahlnaaaaGreat
open Pv Go
section
/-! slices.IndexFunc,slices.DeleteFunc over the picked; place.Acting. -/
set_option maxRecDepth 10000
set_option maxHeartbeats 1000000

def upOf (os : List Osd) (i : Nat) : Bool:=match os[i]? with
 | some o => o.u
 | none => false
theorem down_at (e : Int) (os : List Osd) (hos : os.length = 5) (q : Nat) (hq : q < 5) (Y : Ob) :
  evF C F_q3d [.d (.i .i64 (q : Int)),.ptr 0 0] [.box (.d (mapD e os)),Y] = some (.d (.b (!upOf os q)),[.box (.d (mapD e os)),Y]):=by
 rw [zaa (rfl : C F_q3d = some a_q3d) _ _ rfl]
 have h0 : (0 ≤ (q : Int)) = True:=by simp
 have h5 : ((q : Int) < ((5 : Nat) : Int)) = True:=by simp; omega
 have hl:=zat os
 rw [hos] at hl
 have hc : (DV.i .u32 e :: osds os)[1 + (q : Int).toNat * 3]? = some (.b (upOf os q)):=by
  have ho : os[q]? = some (os[q]'(by omega)):=List.getElem?_eq_getElem (by omega)
  rw [Int.toNat_natCast,Nat.add_comm,List.getElem?_cons_succ,show q * 3 = q * 3 + 0 from rfl,zo8 ho 0 (by omega)]
  simp only [upOf,ho]
  rfl
 have hc' : (List.map AV.d (DV.i .u32 e :: osds os))[1 + (q : Int).toNat * 3]? = some (.d (.b (upOf os q))):=by
  rw [List.getElem?_map,hc]; rfl
 unfold mapD
 generalize DV.i .u32 e :: osds os = D at *
 simp +decide only [c_q3d,h0,h5,hc,ite_self,Pk.EVO,Pk.EVDO,↓reduceIte,Nat.reduceAdd]

/-- The first one of which it holds -/
def firstIx (p : Nat → Bool) : List Nat → Nat → Int
 | [],_ => -1
 | x :: r,i => if p x then i else firstIx p r (i + 1)

theorem ix_loop (X : Ob) (P : List Nat) (hPl : P.length ≤ 100) (p : Nat → Bool) (F : FuncId) (wr : Bool)
  (hcall : ∀ q ∈ P,evF C F [.d (.i .i64 (q : Int)),.ptr 0 0] [X,.arr (nats P) wr] = some (.d (.b (p q)),[X,.arr (nats P) wr])) :
  ∀ (n i : Nat) (T : Tm),i + n = P.length → lk T 0 = .view 1 P.length 1 0 P.length → lk T 1 = .fn F [] [.ptr 0 0] → lk T 7 = .d (.i .i64 (P.length : Int)) → lk T 8 = .d (.i .i64 (i : Int)) →
  (firstIx p (P.drop i) i = -1 → ∃ T',evL C za7 za6 2 T [X,.arr (nats P) wr] = some (.exit 0,T',[X,.arr (nats P) wr])) ∧
  (firstIx p (P.drop i) i ≠ -1 → ∃ T',evL C za7 za6 2 T [X,.arr (nats P) wr] = some (.ret,T',[X,.arr (nats P) wr]) ∧ lk T' 4 = .d (.i .i64 (firstIx p (P.drop i) i)))
 | 0,i,T,hi,h0,h1,h7,h8 => by
  have hd : decide ((i : Int) < (P.length : Int)) = false:=by simp; omega
  have hdr : P.drop i = []:=List.drop_eq_nil_of_le (by omega)
  rw [hdr]
  refine ⟨fun _ => ?_,fun h => absurd rfl h⟩
  obtain ⟨G,hG⟩ : ∃ G,G = againL C za7 za6 2:=⟨_,rfl⟩
  rw [zam,← hG]
  simp +decide only [za6,za7,hd,h0,h1,h7,h8,ite_self,Pk.EVO,Pk.EVDO,↓reduceIte,Nat.reduceAdd]
  rw [hG]
  exact ⟨_,rfl⟩
 | n + 1, i, T, hi, h0, h1, h7, h8 => by
  have hd : decide ((i : Int) < (P.length : Int)) = true:=by simp; omega
  have hw : IntKind.i64.wrap ((i : Int) + 1) = ((i + 1 : Nat) : Int):=wi64 (by omega)
  have hp0 : (0 ≤ (i : Int)) = True:=by simp
  have hpl : ((i : Int) < ((P.length : Nat) : Int)) = True:=by simp; omega
  obtain ⟨q,hq⟩ : ∃ q,P[i]? = some q:=⟨P[i]'(by omega),List.getElem?_eq_getElem _⟩
  have hmem:=List.mem_of_getElem? hq
  have hdr : P.drop i = q :: P.drop (i + 1):=by
   rw [List.drop_eq_getElem_cons (by omega)]
   congr 1
   have:=List.getElem?_eq_getElem (l:=P) (i:=i) (by omega)
   rw [hq] at this
   exact (Option.some.inj this).symm
  rw [hdr]
  have hx:=zbs P i q hq
  have hl:=zal P
  have hc:=hcall q hmem
  have ih:=fun T => ix_loop X P hPl p F wr hcall n (i + 1) T (by omega)
  obtain ⟨G,hG⟩ : ∃ G,G = againL C za7 za6 2:=⟨_,rfl⟩
  generalize nats P = N at *
  have e1:=zam (C:=C) (T:=T) (H:=[X,.arr N wr]) za7 za6 2
  rw [← hG] at e1
  rw [e1]
  cases hpq : p q with
  | true =>
   rw [hpq] at hc
   simp only [firstIx,hpq,if_true]
   refine ⟨fun h => absurd h (by omega),fun _ => ?_⟩
   simp +decide only [za6,za7,hp0,hpl,hx,hl,hc,h0,h1,h7,h8,ite_self,Pk.EVO,Pk.EVDO,↓reduceIte,Nat.reduceAdd,Nat.reduceLeDiff]
   rw [hG]
   exact ⟨_,rfl,rfl⟩
  | false =>
   rw [hpq] at hc
   simp only [firstIx,hpq,Bool.false_eq_true,if_false]
   simp +decide only [za6,za7,hw,hp0,hpl,hx,hl,hc,h0,h1,h7,h8,ite_self,Pk.EVO,Pk.EVDO,↓reduceIte,Nat.reduceAdd,Nat.reduceLeDiff]
   rw [hG,zah]
   exact ih _ rfl rfl rfl rfl
theorem bind_exit {β : Type} {x : Option (AExit × Tm × Heap)} {e : AExit} {H' : Heap} {f : AExit × Tm × Heap → Option β} {r : Option β} (h : ∃ T',x = some (e,T',H')) (hf : ∀ T',f (e,T',H') = r) : x.bind f = r:=by
 obtain ⟨T',rfl⟩:=h
 exact hf T'
theorem bind_ret {β : Type} {x : Option (AExit × Tm × Heap)} {e : AExit} {H' : Heap} {P : Tm → Prop} {f : AExit × Tm × Heap → Option β} {r : Option β} (h : ∃ T',x = some (e,T',H') ∧ P T') (hf : ∀ T',P T' → f (e,T',H') = r) : x.bind f = r:=by
 obtain ⟨T',rfl,hp⟩:=h
 exact hf T' hp
theorem ix_at (X : Ob) (P : List Nat) (hPl : P.length ≤ 100) (p : Nat → Bool) (F : FuncId) (wr : Bool)
  (hcall : ∀ q ∈ P,evF C F [.d (.i .i64 (q : Int)),.ptr 0 0] [X,.arr (nats P) wr] = some (.d (.b (p q)),[X,.arr (nats P) wr])) :
  evF C F_q4c [.view 1 P.length 1 0 P.length,.fn F [] [.ptr 0 0]] [X,.arr (nats P) wr] = some (.d (.i .i64 (firstIx p P 0)),[X,.arr (nats P) wr]):=by
 rw [zaa (rfl : C F_q4c = some a_q4c) _ _ rfl]
 have hl:=ix_loop X P hPl p F wr hcall P.length 0
 rw [List.drop_zero] at hl
 generalize nats P = N at *
 simp +decide only [c_q4c,Pk.EVO,Pk.EVDO,↓reduceIte,Nat.reduceAdd]
 simp only [Option.bind_assoc]
 by_cases c : firstIx p P 0 = -1
 ·rw [c]
  refine bind_exit ((hl _ (by omega) rfl rfl rfl rfl).1 c) ?_
  intro T'
  simp +decide only [ite_self,Pk.EVO,Pk.EVDO,↓reduceIte,Nat.reduceAdd]
 ·refine bind_ret ((hl _ (by omega) rfl rfl rfl rfl).2 c) ?_
  intro T' h4
  simp +decide only [ite_self,h4,Pk.EVO,Pk.EVDO]

theorem zr0 (X : Ob) (n : Nat) (hn : n ≤ 100) (p : Nat → Bool) (F : FuncId) : ∀ (R K Z : List Nat) (T : Tm),(K ++ (Z ++ R)).length = n → Z ≠ [] →
  (∀ q ∈ R,∀ Y,evF C F [.d (.i .i64 (q : Int)),.ptr 0 0] [X,Y] = some (.d (.b (p q)),[X,Y])) →
  lk T 0 = .view 1 n 1 0 n → lk T 1 = .fn F [] [.ptr 0 0] → lk T 5 = .d (.i .i64 (K.length : Int)) → lk T 6 = .d (.i .i64 ((K.length + Z.length : Nat) : Int)) →
  ∃ T' Z',evL C zd8 zd5 2 T [X,.arr (nats (K ++ (Z ++ R))) true] = some (.exit 0,T',[X,.arr (nats ((K ++ R.filter fun q => !p q) ++ Z')) true]) ∧
   lk T' 0 = .view 1 n 1 0 n ∧ lk T' 5 = .d (.i .i64 ((K ++ R.filter fun q => !p q).length : Int)) ∧ ((K ++ R.filter fun q => !p q) ++ Z').length = n
 | [],K,Z,T,hln,hZ,hcall,h0,h1,h5,h6 => by
  simp only [List.append_nil,List.length_append] at hln
  have hd : decide (((K.length + Z.length : Nat) : Int) < (n : Int)) = false:=by rw [hln]; simp
  obtain ⟨G,hG⟩ : ∃ G,G = againL C zd8 zd5 2:=⟨_,rfl⟩
  rw [zam,← hG]
  simp only [List.filter_nil,List.append_nil]
  generalize hN : nats (K ++ Z) = N
  simp +decide only [zd5,zd8,hd,h0,h1,h5,h6,ite_self,Pk.EVO,Pk.EVDO,↓reduceIte,Nat.reduceAdd]
  rw [hG]
  exact ⟨_,Z,(by rw [hN]; rfl),rfl,rfl,(by simp [hln])⟩
 | q :: R, K, Z, T, hln, hZ, hcall, h0, h1, h5, h6 => by
  have hln':=hln
  simp only [List.length_append,List.length_cons] at hln'
  have hd : decide (((K.length + Z.length : Nat) : Int) < (n : Int)) = true:=by simp; omega
  have hw : IntKind.i64.wrap (((K.length + Z.length : Nat) : Int) + 1) = ((K.length + Z.length + 1 : Nat) : Int):=wi64 (by omega)
  have hwk : IntKind.i64.wrap ((K.length : Int) + 1) = ((K.length + 1 : Nat) : Int):=wi64 (by omega)
  have hp0 : (0 ≤ ((K.length + Z.length : Nat) : Int)) = True:=by simp; omega
  have hpl : (((K.length + Z.length : Nat) : Int) < ((n : Nat) : Int)) = True:=by simp; omega
  have hk0 : (0 ≤ (K.length : Int)) = True:=by simp
  have hkl : ((K.length : Int) < ((n : Nat) : Int)) = True:=by simp; omega
  have hx : (nats (K ++ (Z ++ q :: R)))[((K.length + Z.length : Nat) : Int).toNat]? = some (.i .i64 (q : Int)):=by
   refine zbs _ _ q ?_
   rw [← List.append_assoc,List.getElem?_append_right (by simp)]
   simp
  have hl:=zal (K ++ (Z ++ q :: R))
  rw [hln] at hl
  have hc:=hcall q (by simp)
  have ih:=zr0 X n hn p F R
  obtain ⟨G,hG⟩ : ∃ G,G = againL C zd8 zd5 2:=⟨_,rfl⟩
  cases hpq : p q with
  | true =>
   rw [hpq] at hc
   have ih':=fun T => ih K (Z ++ [q]) T (by simp at hln ⊢; omega) (by simp) (fun q' h => hcall q' (by simp [h]))
   rw [show (Z ++ [q]) ++ R = Z ++ q :: R by simp] at ih'
   have hf : (q :: R).filter (fun q => !p q) = R.filter fun q => !p q:=by simp [hpq]
   rw [hf]
   generalize nats (K ++ (Z ++ q :: R)) = N at *
   rw [zam,← hG]
   simp +decide only [zd5,zd8,hw,hp0,hpl,hx,hl,hc,h0,h1,h5,h6,ite_self,Bool.not_true,Pk.EVO,Pk.EVDO,↓reduceIte,Nat.reduceAdd,Nat.reduceLeDiff]
   rw [hG,zah]
   exact ih' _ rfl rfl rfl (by simp [lk,Nat.add_assoc])
  | false =>
   rw [hpq] at hc
   obtain ⟨z,Z1,rfl⟩ : ∃ z Z1,Z = z :: Z1:=by
    cases Z with
    | nil => exact absurd rfl hZ
    | cons z Z1 => exact ⟨z,Z1,rfl⟩
   have ih':=fun T => ih (K ++ [q]) (Z1 ++ [q]) T (by simp at hln ⊢; omega) (by simp) (fun q' h => hcall q' (by simp [h]))
   have hf : (q :: R).filter (fun q => !p q) = q :: R.filter fun q => !p q:=by simp [hpq]
   rw [hf]
   rw [show K ++ q :: R.filter (fun q => !p q) = K ++ [q] ++ R.filter (fun q => !p q) by simp]
   have hz : (nats (K ++ (z :: Z1 ++ q :: R)))[(K.length : Int).toNat]? = some (.i .i64 (z : Int)):=by
    refine zbs _ _ z ?_
    rw [List.getElem?_append_right (by simp)]
    simp
   have hup : (nats (K ++ (z :: Z1 ++ q :: R))).set (K.length : Int).toNat (.i .i64 (q : Int)) = nats (K ++ [q] ++ (Z1 ++ [q] ++ R)):=by
    rw [Int.toNat_natCast]
    unfold nats ints
    simp only [List.map_append,List.map_cons,List.append_assoc,List.cons_append,List.nil_append]
    rw [List.set_append_right _ _ (by simp)]
    simp
   generalize nats (K ++ [q] ++ (Z1 ++ [q] ++ R)) = N' at *
   generalize nats (K ++ (z :: Z1 ++ q :: R)) = N at *
   generalize hm : K.length + (z :: Z1).length = m at *
   have hm' : (K ++ [q]).length + (Z1 ++ [q]).length = m + 1:=by rw [← hm]; simp; omega
   rw [hm'] at ih'
   rw [zam,← hG]
   simp +decide only [zd5,zd8,hw,hwk,hp0,hpl,hk0,hkl,hx,hl,hc,hup,hz,h0,h1,h5,h6,ite_self,Bool.not_false,Pk.EVO,Pk.EVDO,↓reduceIte,Nat.reduceAdd,Nat.reduceLeDiff]
   rw [hG,zah]
   exact ih' _ rfl rfl (by simp [lk]) rfl
end

section
/-! slices.DeleteFunc; place.Acting. -/
set_option maxRecDepth 10000
set_option maxHeartbeats 1000000
theorem zf5 (p : Nat → Bool) : ∀ (P : List Nat) (i : Nat),(firstIx p P i = -1 ∧ P.filter (fun q => !p q) = P) ∨ ∃ K q R,P = K ++ q :: R ∧ p q = true ∧ K.filter (fun q => !p q) = K ∧ firstIx p P i = ((i + K.length : Nat) : Int)
 | [],_ => .inl ⟨rfl,rfl⟩
 | x :: r, i => by
  cases h : p x with
  | true => exact .inr ⟨[],x,r,rfl,h,rfl,by simp [firstIx,h]⟩
  | false =>
   rcases zf5 p r (i + 1) with ⟨h1,h2⟩ | ⟨K,q,R,h1,h2,h3,h4⟩
   ·exact .inl ⟨by simp [firstIx,h,h1],by simp [h,h2]⟩
   ·exact .inr ⟨x :: K,q,R,by rw [h1]; rfl,h2,by simp [h,h3],by simp only [firstIx,h,Bool.false_eq_true,if_false,h4,List.length_cons]; congr 1; omega⟩
theorem del_at (X : Ob) (P : List Nat) (hPl : P.length ≤ 100) (p : Nat → Bool) (F : FuncId)
  (hcall : ∀ q ∈ P,∀ Y,evF C F [.d (.i .i64 (q : Int)),.ptr 0 0] [X,Y] = some (.d (.b (p q)),[X,Y])) :
  ∃ es,evF C F_q47 [.view 1 P.length 1 0 P.length,.fn F [] [.ptr 0 0]] [X,.arr (nats P) true] = some (.view 1 P.length 1 0 (P.filter fun q => !p q).length,[X,.arr es true]) ∧
   es.length = P.length ∧ es.take (P.filter fun q => !p q).length = nats (P.filter fun q => !p q):=by
 have hix:=ix_at X P hPl p F true (fun q hq => hcall q hq _)
 have hnl:=zal P
 rcases zf5 p P 0 with ⟨h1,h2⟩ | ⟨K,q,R,h1,h2,h3,h4⟩
 ·rw [h1] at hix
  rw [h2]
  refine ⟨nats P,?_,hnl,List.take_of_length_le (by omega)⟩
  rw [zaa (rfl : C F_q47 = some a_q47) _ _ rfl]
  generalize nats P = N at *
  simp +decide only [ite_self,c_q47,hix,hnl,Pk.EVO,Pk.EVDO,↓reduceIte,Nat.reduceAdd,Nat.reduceLeDiff]
 ·have hf : P.filter (fun q => !p q) = K ++ R.filter (fun q => !p q) := by rw [h1]; simp [h2, h3]
  have hle : K.length < P.length:=by rw [h1]; simp
  rw [h4,Nat.zero_add] at hix
  have hloop:=zr0 X P.length hPl p F R K [q] 
  rw [show K ++ ([q] ++ R) = P by rw [h1]; rfl] at hloop
  rw [← hf] at hloop
  have hw : IntKind.i64.wrap ((K.length : Int) + 1) = ((K.length + 1 : Nat) : Int):=wi64 (by omega)
  have hne : ((K.length : Int) == -1) = false:=by rw [beq_eq_false_iff_ne]; omega
  have fin : ∀ (Z' : List Nat),(P.filter (fun q => !p q) ++ Z').length = P.length → True:=fun _ _ => trivial
  have hfl : (P.filter (fun q => !p q)).length ≤ P.length:=List.length_filter_le _ _
  obtain ⟨T',Z',e1,e2,e3,e4⟩:=hloop [(6,AV.d (.i .i64 ((K.length + 1 : Nat) : Int))),(15,AV.d (.i .i64 ((K.length + 1 : Nat) : Int))),(14,AV.d (.i .i64 (K.length : Int))),(0,.view 1 P.length 1 0 P.length),(1,.fn F [] [.ptr 0 0]),(5,.d (.i .i64 (K.length : Int)))] rfl (by simp) (fun q' h => hcall q' (by rw [h1]; simp [h])) rfl rfl rfl rfl
  refine ⟨upd (nats (P.filter (fun q => !p q) ++ Z')) (P.filter fun q => !p q).length (List.replicate (P.length - (P.filter fun q => !p q).length) (.i .i64 0)),?_,?_,?_⟩
  ·rw [zaa (rfl : C F_q47 = some a_q47) _ _ rfl]
   generalize nats P = N at *
   have hl2:=zal (P.filter (fun q => !p q) ++ Z')
   rw [e4] at hl2
   generalize nats (P.filter (fun q => !p q) ++ Z') = N' at *
   generalize (P.filter fun q => !p q).length = k at *
   generalize hn : P.length = n at *
   generalize K.length = j at *
   have hk0 : (0 ≤ (k : Int)) = True:=by simp
   have hkn : ((k : Int) ≤ (n : Int)) = True:=by simp; omega
   have hkn' : (k ≤ n) = True:=by simp; omega
   have hkk : k + (n - k) = n:=by omega
   simp +decide only [c_q47,hix,hnl,hw,hne,Pk.EVO,Pk.EVDO,↓reduceIte,Nat.reduceAdd,Nat.reduceLeDiff]
   simp only [Option.bind_assoc]
   rw [e1]
   simp +decide only [ite_self,e2,e3,hl2,hk0,hkn,sliceA,bnd,zOk,intOfA,Nat.zero_add,Nat.sub_zero,Int.toNat_natCast,hkk,Nat.le_refl,Pk.EVO,Pk.EVDO,↓reduceIte,Nat.reduceAdd]

  ·have hl2 := zal (P.filter (fun q => !p q) ++ Z')
   rw [e4] at hl2
   unfold upd
   simp only [List.length_append,List.length_take,List.length_drop,List.length_replicate,hl2]
   omega
  ·have hl2 := zal (P.filter (fun q => !p q))
   unfold upd
   rw [List.take_left' (by rw [List.length_take,zal,e4]; omega)]
   unfold nats ints
   rw [List.map_append,List.map_append,List.take_left' (by simp)]
end

section
/-! place.Acting,place.Primary. -/
set_option maxRecDepth 10000
set_option maxHeartbeats 1000000

theorem ix_nil (X : Ob) (F : FuncId) : evF C F_q4c [.nilS,.fn F [] [.ptr 0 0]] [X] = some (.d (.i .i64 (-1)),[X]):=by
 rw [zaa (rfl : C F_q4c = some a_q4c) _ _ rfl]
 have hd : decide ((0 : Int) < 0) = false:=by decide
 simp +decide only [c_q4c,za7,za6,zam,againL,ite_self,Pk.EVO,Pk.EVDO,↓reduceIte,Nat.reduceAdd]
theorem del_nil (X : Ob) (F : FuncId) : evF C F_q47 [.nilS,.fn F [] [.ptr 0 0]] [X] = some (.nilS,[X]):=by
 rw [zaa (rfl : C F_q47 = some a_q47) _ _ rfl]
 have hix:=ix_nil X F
 simp +decide only [ite_self,c_q47,hix,Pk.EVO,Pk.EVDO,↓reduceIte,Nat.reduceAdd,Nat.reduceLeDiff]

/-- Who acts. -/
def actP (e : Int) (os : List Osd) (g : Int) : List Nat:=(pickP e os g).filter (upOf os)

theorem znc (e : Int) (os : List Osd) (g : Int) : ∀ q ∈ pickP e os g,q < 5:=by
 unfold pickP
 split
 ·cases hL : inN os 5 with
  | nil => intro q hq; simp at hq
  | cons x xs =>
   simp only
   have h0 : 0 < (inN os 5).length:=by rw [hL]; simp
   have hm:=fun r t => zep os 5 _ (zdh _ h0 (strawOf os g (r + t * 3)))
   have hm0 : ∀ p ∈ [drawOf os g 0 0],p < 5:=fun p hp => by simp at hp; rw [hp]; exact hm 0 0
   have hm1:=zcq os (drawOf os g 1) _ (hm 1) hm0 20 0
   exact zcq os (drawOf os g 2) _ (hm 2) hm1 20 0
 ·intro q hq; simp at hq
theorem zhf (e : Int) (os : List Osd) (g : Int) : (pickP e os g).length ≤ 3:=by
 unfold pickP
 split
 ·split
  ·simp
  ·have hl1 := (zb8 os (drawOf os g 1) [drawOf os g 0 0] 20 0).2
   have hl2:=(zb8 os (drawOf os g 2) (pickGo os (drawOf os g 1) [drawOf os g 0 0] 20 0) 20 0).2
   simp only [List.length_cons,List.length_nil] at hl1
   omega
 ·simp

theorem acting_at (e : Int) (os : List Osd) (hos : os.length = 5) (g : Int) : evF C F_q3c [.d (mapD e os),.d (.i .u8 g)] [] = some (.d (.sl (nats (actP e os g))),[]):=by
 generalize hA : actP e os g = A
 have hl:=zat os
 rw [hos] at hl
 have h15 : List.take 15 (osds os) = osds os:=List.take_of_length_le (by omega)
 have hp:=pick_at e os hos g _ rfl
 by_cases h : pickP e os g = []
 ·have hp := hp.1 h
  have hA' : A = []:=by rw [← hA,actP,h]; rfl
  rw [hA']
  have hd:=del_nil (.box (.d (mapD e os))) F_q3d
  rw [zaa (rfl : C F_q3c = some a_q3c) _ _ rfl]
  unfold mapD at hp hd ⊢
  have z0 : nats [] = []:=rfl
  simp +decide only [c_q3c,hl,h15,hp,hd,z0,Pk.EVO,Pk.EVDO,↓reduceIte,Nat.reduceAdd,Nat.reduceLeDiff]
 ·obtain ⟨X, ii, wi, cs, a, hp⟩ := hp.2 h
  obtain ⟨es,d1,d2,d3⟩:=del_at (.box (.d (mapD e os))) (pickP e os g) (by have:=zhf e os g; omega) (fun q => !upOf os q) F_q3d (fun q hq Y => down_at e os hos q (znc e os g q hq) Y)
  have hfl : ((pickP e os g).filter fun q => !!upOf os q) = A:=by rw [← hA]; unfold actP; congr 1; funext q; simp
  rw [hfl] at d1 d3
  have hle : A.length ≤ (pickP e os g).length:=by rw [← hA]; exact List.length_filter_le _ _
  have hnl:=zal (pickP e os g)
  have hnt : List.take (pickP e os g).length (nats (pickP e os g)) = nats (pickP e os g):=List.take_of_length_le (by omega)
  rw [zaa (rfl : C F_q3c = some a_q3c) _ _ rfl]
  generalize nats (pickP e os g) = N at *
  generalize (pickP e os g).length = n at *
  unfold mapD at hp d1 ⊢
  simp +decide only [c_q3c,hl,h15,hp,d1,d2,d3,hnl,hnt,Nat.le_refl,List.drop_zero,Pk.EVO,Pk.EVDO,↓reduceIte,Nat.reduceAdd]
def primP (e : Int) (os : List Osd) (g : Int) : Int:=match actP e os g with
 | [] => -1
 | x :: _ => (x : Int)
end

section
/-! slices.Equal over ints; place.Moved. -/
set_option maxRecDepth 10000
set_option maxHeartbeats 1000000

end

section
/-! place.Moved. -/
set_option maxRecDepth 10000
set_option maxHeartbeats 1000000
/-- How many groups below n moved. -/
def movN (e : Int) (os : List Osd) (e' : Int) (os' : List Osd) : Nat → Nat
 | 0 => 0
 | n + 1 => movN e os e' os' n + (if pickP e os (n : Int) = pickP e' os' (n : Int) then 0 else 1)
end

section
/-! The laws' known: the first map's groups. -/
set_option maxRecDepth 10000
set_option maxHeartbeats 1000000
def zeroO : List Osd:=[⟨false,0,0⟩,⟨false,0,0⟩,⟨false,0,0⟩,⟨false,0,0⟩,⟨false,0,0⟩]
end
end Go.Proofs.YthlpognahlnaaaaGreat
