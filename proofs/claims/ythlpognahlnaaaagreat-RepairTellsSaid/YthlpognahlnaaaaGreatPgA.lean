/- Operations on objects: Seen,Do,All. / Operations on objects: All. / What operations on objects come to: plain laws,no program in sight. / States: which objects,bases,entries,states may be. -/
import Derived.Test.YthlpognahlnaaaaGreatPkEvd
import Derived.Test.YthlpognahlnaaaaGreatObjB
set_option linter.all false
namespace Go.Proofs.YthlpognahlnaaaaGreat
open Pv Go Pk
set_option maxRecDepth 10000
set_option maxHeartbeats 1000000

def Base.fit (b : Base) : Prop:=∀ i < 6,Objt.fit (b.objs.get i)
def seen (b : Base) (o : Opr) : Res × Bool :=
 if writes o = false then (⟨0,⟨#[]⟩⟩,false)
 else if (b.last.get (o.client - 1).toNat).seq < o.seq then (⟨0,⟨#[]⟩⟩,false)
 else if (b.last.get (o.client - 1).toNat).seq = o.seq then ((b.last.get (o.client - 1).toNat).r,true)
 else (⟨3,⟨#[]⟩⟩,true)
def doO (x : Objt) (o : Opr) : Objt × Int :=
 if o.kind = 1 then writeO x o else if o.kind = 2 then truncO x o else if o.kind = 3 then attrO x o else removeO x
def doOp (b : Base) (o : Opr) : Base × Res :=
 if writes o = false then (b,⟨3,⟨#[]⟩⟩)
 else if (seen b o).2 = true then (b,(seen b o).1)
 else ({ objs:=b.objs.set o.obj.toNat (doO (b.objs.get o.obj.toNat) o).1,last:=b.last.set (o.client - 1).toNat ⟨o.seq,⟨(doO (b.objs.get o.obj.toNat) o).2,⟨#[]⟩⟩⟩ },⟨(doO (b.objs.get o.obj.toNat) o).2,⟨#[]⟩⟩)

theorem zbg {o : Opr} (h : writes o = true) : isOp o = true:=by unfold writes at h; simp at h; exact h.1

theorem zds {o : Opr} (h : writes o = true) : ∃ k : Nat,IntKind.u8.wrap (o.client - 1) = (k : Int) ∧ k = (o.client - 1).toNat ∧ k < 3:=by
 have:=zei (zbg h)
 exact ⟨(o.client - 1).toNat,by rw [wu8 (by omega)]; omega,rfl,by omega⟩
theorem zks {o : Opr} (ho : o.ok) (h : writes o = true) : ∃ k : Nat,o.obj = (k : Int) ∧ k = o.obj.toNat ∧ k < 6:=by
 have:=zei (zbg h)
 have:=ho
 simp only [Opr.ok] at this
 exact ⟨o.obj.toNat,by omega,rfl,by omega⟩

theorem seen_at (b : Base) (o : Opr) : evF C F_q1f [.d (.agg b.cs),.d (.agg o.cs)] [] = some (.tup [.d (.agg (seen b o).1.cs),.d (.b (seen b o).2)],[]):=by
 rw [zaa (rfl : C F_q1f = some a_q1f) _ _ rfl]
 unfold seen
 rcases Bool.eq_false_or_eq_true (writes o) with hw | hw
 ·obtain ⟨k, hk, hk', hk3⟩ := zds hw
  rw [← hk']
  have b1 : (0 ≤ (k : Int) ∧ (k : Int) < ((3 : Nat) : Int)) = True:=by simp; omega
  have b2 : (30 + k * 3 + 3 ≤ 39) = True:=by simp; omega
  by_cases c1 : (b.last.get k).seq < o.seq
  ·simp +decide only [c_q1f,zbv,hw,hk,hk3,b1,c1,Int.toNat_natCast,Pk.EVL,Pk.EVD,↓reduceIte,Nat.reduceAdd,Pk.TY_Opr,Pk.TY_Base,Pk.TY_Res,Pk.TY_Last]
  ·by_cases c2 : (b.last.get k).seq = o.seq
   ·simp +decide only [c_q1f,zbv,hw,hk,hk3,b1,b2,c2,Int.toNat_natCast,Pk.EVL,Pk.EVD,↓reduceIte,Nat.reduceAdd,Pk.TY_Opr,Pk.TY_Base,Pk.TY_Res,Pk.TY_Last]
   ·have c2' : ((b.last.get k).seq == o.seq) = false := by simp [c2]
    simp +decide only [c_q1f,zbv,hw,hk,hk3,b1,b2,c1,c2,c2',Int.toNat_natCast,Pk.EVL,Pk.EVD,↓reduceIte,Nat.reduceAdd,Pk.TY_Opr,Pk.TY_Base,Pk.TY_Res,Pk.TY_Last]
 ·simp +decide only [c_q1f,zbv,hw,Pk.EVL,Pk.EVD,↓reduceIte,Nat.reduceAdd,Pk.TY_Opr,Pk.TY_Res,Pk.TY_Last]

theorem does_at (k : Int) : evF C F_q1l [.d (.i .u8 k)] [] = some (.fn (if k = 1 then F_q1k else if k = 2 then F_q1j else if k = 3 then F_q1h else F_q1i) [] [],[]):=by
 rw [zaa (rfl : C F_q1l = some a_q1l) _ _ rfl]
 by_cases h1 : k = 1
 ·simp +decide only [c_q1l,h1,Pk.EVL,Pk.EVD,↓reduceIte]
 ·have h1' : (k == 1) = false := by simp [h1]
  by_cases h2 : k = 2
  ·simp +decide only [c_q1l,h2,Pk.EVL,Pk.EVD,↓reduceIte,Int.reduceEq]
  ·have h2' : (k == 2) = false := by simp [h2]
   by_cases h3 : k = 3
   ·simp +decide only [c_q1l,h3,Pk.EVL,Pk.EVD,↓reduceIte,Int.reduceEq]
   ·have h3' : (k == 3) = false := by simp [h3]
    simp +decide only [c_q1l,h1,h2,h3,h1',h2',h3',Pk.EVL,Pk.EVD,↓reduceIte]

theorem doO_at (x : Objt) (o : Opr) (ho : o.ok) (hx : x.data.size ≤ 300) (hd : o.data.size ≤ 16) (B0 B1 B2 B3 B4 : DV) :
  evF C (if o.kind = 1 then F_q1k else if o.kind = 2 then F_q1j else if o.kind = 3 then F_q1h else F_q1i) [.ptr 5 0,.d (.agg o.cs)]
   [.box (.d B0),.box (.d B1),.box (.d B2),.box (.d B3),.box (.d B4),.box (.d (.agg x.cs))] =
  some (.d (.i .u8 (doO x o).2),[.box (.d B0),.box (.d B1),.box (.d B2),.box (.d B3),.box (.d B4),.box (.d (.agg (doO x o).1.cs))]):=by
 unfold doO
 by_cases h1 : o.kind = 1
 ·simp only [h1,if_true]; exact write_at x o _ _ _ _ _ ho hx hd
 ·by_cases h2 : o.kind = 2
  ·simp only [h2,if_true,if_neg (by decide : ¬ (2 : Int) = 1)]; exact trunc_at x o _ _ _ _ _ ho hx
  ·by_cases h3 : o.kind = 3
   ·simp only [h3,if_true,if_neg (by decide : ¬ (3 : Int) = 1),if_neg (by decide : ¬ (3 : Int) = 2)]; exact attr_at x o _ _ _ _ _ ho
   ·simp only [h1,h2,h3,if_false]; exact remove_at x o _ _ _ _ _

theorem doOp_at (b : Base) (o : Opr) (hb : Base.fit b) (ho : o.ok) : evF C F_q1d [.d (.agg b.cs),.d (.agg o.cs)] [] = some (.tup [.d (.agg (doOp b o).1.cs),.d (.agg (doOp b o).2.cs)],[]):=by
 rw [zaa (rfl : C F_q1d = some a_q1d) _ _ rfl]
 unfold doOp
 rcases Bool.eq_false_or_eq_true (writes o) with hw | hw
 ·obtain ⟨k, hk, hk', hk3⟩ := zds hw
  obtain ⟨j,hj,hj',hj6⟩:=zks ho hw
  rw [← hk',← hj']
  have b1 : (0 ≤ (k : Int) ∧ (k : Int) < ((3 : Nat) : Int)) = True:=by simp; omega
  have b2 : (30 + k * 3 + 3 ≤ 39) = True:=by simp; omega
  have b3 : (0 ≤ (j : Int) ∧ (j : Int) < ((6 : Nat) : Int)) = True:=by simp; omega
  have b4 : (j * 5 + 5 ≤ 39) = True:=by simp; omega
  rcases Bool.eq_false_or_eq_true (seen b o).2 with hs | hs
  ·simp +decide only [c_q1d,zbv,seen_at,hw,hs,Pk.EVL,Pk.EVD,↓reduceIte,Nat.reduceAdd,Pk.TY_Opr,Pk.TY_Base,Pk.TY_Res]
  ·have hdo := doO_at (b.objs.get j) o ho (hb j hj6).1 (zei (zbg hw)).1 (.agg b.cs) (.agg o.cs) (.agg Base.zero.cs) (.agg (Res.cs ⟨0, ⟨#[]⟩⟩)) (.agg (seen b o).1.cs)
   simp +decide only [c_q1d,zbv,seen_at,does_at,hdo,hw,hs,hk,hk3,hj,hj6,b1,b2,b3,b4,Int.toNat_natCast,Pk.EVL,Pk.EVD,↓reduceIte,Nat.reduceAdd,Nat.reduceBNe,Pk.TY_Opr,Pk.TY_Base,Pk.TY_Res,Pk.TY_Last,Pk.TY_Objt]
 ·simp +decide only [c_q1d,zbv,hw,Pk.EVL,Pk.EVD,↓reduceIte,Nat.reduceAdd,Pk.TY_Opr,Pk.TY_Base,Pk.TY_Res]
end Go.Proofs.YthlpognahlnaaaaGreat

namespace Go.Proofs.YthlpognahlnaaaaGreat
open Pv Go Pk
set_option maxRecDepth 10000
set_option maxHeartbeats 1000000

def allOps (b : Base) : List Opr → Base × List Res
 | [] => (b,[])
 | o :: r => ((allOps (doOp b o).1 r).1,(doOp b o).2 :: (allOps (doOp b o).1 r).2)
theorem ze3 (b : Base) : ∀ (l r : List Opr),allOps b (l ++ r) = ((allOps (allOps b l).1 r).1,(allOps b l).2 ++ (allOps (allOps b l).1 r).2)
 | [],r => rfl
 | o :: l,r => by simp only [List.cons_append,allOps,ze3 _ l r]
theorem zpr (b : Base) (l : List Opr) (o : Opr) : allOps b (l ++ [o]) = ((doOp (allOps b l).1 o).1,(allOps b l).2 ++ [(doOp (allOps b l).1 o).2]):=by
 rw [ze3]; rfl
theorem zn0 {x : Objt} (h : Objt.fit x) {i : Nat} {d : ByteArray} (hd : d.size ≤ 16) : Objt.fit { x with attr:=x.attr.set i d }:=by
 refine ⟨h.1,fun j hj => ?_⟩
 by_cases hi : i < 3
 ·show ((x.attr.set i d).get j).size ≤ 300
  rw [R3.get_set _ _ _ _ hi hj]
  split
  ·omega
  ·exact h.2 j hj
 ·have : x.attr.set i d = x.attr := by
   match i,hi with
   | 0,hi => exact absurd (by omega) hi
   | 1,hi => exact absurd (by omega) hi
   | 2,hi => exact absurd (by omega) hi
   | n + 3,_ => rfl
  show ((x.attr.set i d).get j).size ≤ 300
  rw [this]
  exact h.2 j hj

theorem doO_fit {x : Objt} {o : Opr} (hx : Objt.fit x) (h0 : 0 ≤ o.at_) (hd : o.data.size ≤ 16) : Objt.fit (doO x o).1:=by
 unfold doO
 split
 ·unfold writeO
  split
  ·exact hx
  ·refine ⟨?_, hx.2⟩
   have hg:=zba x.data (o.at_.toNat + o.data.size)
   have:=hx.1
   show (splice x.data o.at_.toNat o.data).size ≤ 300
   unfold splice
   simp [hg]
   omega
 ·split
  ·unfold truncO
   split
   ·exact hx
   ·split
    ·exact hx
    ·refine ⟨?_, hx.2⟩
     have hg:=zba x.data o.at_.toNat
     have:=hx.1
     show ((grown x.data o.at_.toNat).extract 0 o.at_.toNat).size ≤ 300
     simp
     omega
  ·split
   ·unfold attrO
    split
    ·exact hx
    ·split
     ·exact hx
     ·exact zn0 hx hd
   ·unfold removeO
    split
    ·exact hx
    ·exact ⟨by decide,by decide⟩

theorem doOp_fit {b : Base} {o : Opr} (hb : Base.fit b) (ho : o.ok) : Base.fit (doOp b o).1:=by
 unfold doOp
 split
 ·exact hb
 ·split
  ·exact hb
  ·rename_i hw _
   obtain ⟨j,hj,hj',hj6⟩:=zks ho (by simpa using hw)
   have h0 : 0 ≤ o.at_:=by have:=ho; simp only [Opr.ok] at this; omega
   have hd:=(zei (zbg (o:=o) (by simpa using hw))).1
   intro i hi
   show Objt.fit ((b.objs.set o.obj.toNat _).get i)
   rw [R6.get_set _ _ _ _ (by omega) hi]
   split
   ·exact doO_fit (hb _ (by omega)) h0 hd
   ·exact hb i hi

end Go.Proofs.YthlpognahlnaaaaGreat

namespace Go.Proofs.YthlpognahlnaaaaGreat
open Pv Go Pk

theorem cl_lt {o : Opr} (h : writes o = true) : (o.client - 1).toNat < 3:=by have:=zei (zbg h); omega
end Go.Proofs.YthlpognahlnaaaaGreat

namespace Go.Proofs.YthlpognahlnaaaaGreat
open Pv Go Pk
set_option maxRecDepth 10000
set_option maxHeartbeats 2000000

def okObj (x : Objt) : Bool:=if x.there = true then allN 3 (fun j => decide ((x.attr.get j).size ≤ 16)) && decide (x.data.size ≤ 16) else decide (x = Objt.zero)

theorem object_at (x : Objt) : evF C F_q3a [.d (.agg x.cs)] [] = some (.d (.b (okObj x)),[]):=by
 rw [zaa (rfl : C F_q3a = some a_q3a) _ _ rfl]
 unfold okObj
 rcases Bool.eq_false_or_eq_true x.there with ht | ht
 ·rw [if_pos ht]
  simp +decide only [c_q3a,ht,Pk.EVL,Pk.EVD,↓reduceIte,Nat.reduceAdd,Pk.TY_Objt]
  simp only [Option.bind_assoc]
  refine zaf (zac (fun i T H => lk T 1 = .ptr 0 0 ∧ lk T 12 = .d (.agg (R3.cs (fun x => [.s x]) x.attr)) ∧ lk T 13 = .d (.i .i64 (i : Nat)) ∧ H = [.box (.d (.agg x.cs))] ∧ ∀ j < i,(x.attr.get j).size ≤ 16)
   (fun e T H => (e = .exit 0 ∧ lk T 1 = .ptr 0 0 ∧ H = [.box (.d (.agg x.cs))] ∧ ∀ j < 3,(x.attr.get j).size ≤ 16) ∨ (e = .ret ∧ lk T 2 = .d (.b false) ∧ H = [.box (.d (.agg x.cs))] ∧ ¬ ∀ j < 3,(x.attr.get j).size ≤ 16)) 3 ?_ ?_ 3 0 _ _ (by omega) ⟨rfl,rfl,rfl,rfl,by omega⟩) ?_
  ·rintro i T H hi ⟨h1, h12, h13, rfl, hj⟩
   have hd : decide ((i : Int) < 3) = true:=by simp; omega
   have hw : IntKind.i64.wrap ((i : Int) + 1) = ((i + 1 : Nat) : Int):=wi64 (by omega)
   have b3 : ((i : Int) < ((3 : Nat) : Int)) = True:=by simp; omega
   have b3' : (0 ≤ (i : Int)) = True:=by simp
   by_cases hs : (x.attr.get i).size ≤ 16
   ·have hc : decide (((x.attr.get i).size : Int) > 16) = false := by simp; omega
    simp +decide only [zlf,zlw,h1,h12,h13,hd,hw,b3,b3',hi,hc,Pk.EVL,Pk.EVD,↓reduceIte,Pk.TY_Objt]
    refine ⟨_,_,_,rfl,?_⟩
    refine .inl ⟨rfl,rfl,rfl,rfl,rfl,fun j hji => ?_⟩
    by_cases h : j = i
    ·rw [h]; exact hs
    ·exact hj j (by omega)
   ·have hc : decide (((x.attr.get i).size : Int) > 16) = true := by simp; omega
    simp +decide only [zlf,zlw,h1,h12,h13,hd,b3,b3',hi,hc,Pk.EVL,Pk.EVD,↓reduceIte,Pk.TY_Objt]
    refine ⟨_,_,_,rfl,?_⟩
    exact .inr ⟨by simp,.inr ⟨rfl,rfl,rfl,fun h => hs (h i hi)⟩⟩
  ·rintro T H ⟨h1, h12, h13, rfl, hj⟩
   simp +decide only [zlf,zlw,h1,h12,h13,Pk.EVL,Pk.EVD,↓reduceIte]
   refine ⟨_,_,_,rfl,?_⟩
   exact ⟨by simp,.inl ⟨rfl,rfl,rfl,hj⟩⟩
  ·rintro e T H (⟨rfl, h1, rfl, ha⟩ | ⟨rfl, h2, rfl, ha⟩)
   ·have hc : decide ((x.data.size : Int) ≤ 16) = decide (x.data.size ≤ 16) := by simp; omega
    have he : allN 3 (fun j => decide ((x.attr.get j).size ≤ 16)) = true:=za1.2 fun j hj => decide_eq_true (ha j hj)
    simp +decide only [h1,hc,he,Pk.EVL,Pk.EVD,↓reduceIte,Pk.TY_Objt]
   ·have he : allN 3 (fun j => decide ((x.attr.get j).size ≤ 16)) = false := zbn fun h => ha fun j hj => of_decide_eq_true (h j hj)
    simp +decide only [h2,he,Pk.EVL,Pk.EVD,↓reduceIte]
 ·rw [if_neg (by simp [ht])]
  simp +decide only [c_q3a,ht,Pk.EVL,Pk.EVD,↓reduceIte,Pk.TY_Objt]
  rfl

def okLast (l : Last) : Bool:=!(!decide (l.r.data = ⟨#[]⟩) || decide (l.r.code > 3) || ((l.seq == 0) && !decide (l = Last.zero)))
def okBase (b : Base) : Bool:=allN 6 (fun j => okObj (b.objs.get j)) && allN 3 (fun j => okLast (b.last.get j))

theorem base_at (b : Base) : evF C F_q36 [.d (.agg b.cs)] [] = some (.d (.b (okBase b)),[]):=by
 rw [zaa (rfl : C F_q36 = some a_q36) _ _ rfl]
 unfold okBase
 simp +decide only [c_q36,Pk.EVL,Pk.EVD,↓reduceIte,Nat.reduceLeDiff,Pk.TY_Base]
 simp only [Option.bind_assoc]
 refine zaf (zac (fun i T H => lk T 1 = .ptr 0 0 ∧ lk T 8 = .d (.agg (R6.cs Objt.cs b.objs)) ∧ lk T 9 = .d (.i .i64 (i : Nat)) ∧ (∃ J,H = .box (.d (.agg b.cs)) :: J) ∧ ∀ j < i,okObj (b.objs.get j) = true)
  (fun e T H => (e = .exit 0 ∧ lk T 1 = .ptr 0 0 ∧ H = [.box (.d (.agg b.cs))] ∧ ∀ j < 6,okObj (b.objs.get j) = true) ∨ (e = .ret ∧ lk T 2 = .d (.b false) ∧ (∃ J,H = .box (.d (.agg b.cs)) :: J) ∧ ¬ ∀ j < 6,okObj (b.objs.get j) = true)) 6 ?_ ?_ 6 0 _ _ (by omega) ⟨rfl,rfl,rfl,⟨[],rfl⟩,by omega⟩) ?_
 ·rintro i T H hi ⟨h1, h8, h9, ⟨J, rfl⟩, hj⟩
  have hd : decide ((i : Int) < 6) = true:=by simp; omega
  have hw : IntKind.i64.wrap ((i : Int) + 1) = ((i + 1 : Nat) : Int):=wi64 (by omega)
  have b3 : ((i : Int) < ((6 : Nat) : Int)) = True:=by simp; omega
  have b3' : (0 ≤ (i : Int)) = True:=by simp
  have b4 : (i * 5 + 5 ≤ 30) = True:=by simp; omega
  have hob:=object_at (b.objs.get i)
  rcases Bool.eq_false_or_eq_true (okObj (b.objs.get i)) with hs | hs
  ·simp +decide only [zml, zj7, h1, h8, h9, hd, hw, b3, b3', b4, hi, hob, hs, Pk.EVL, Pk.EVD, ↓reduceIte, Nat.reduceAdd, Pk.TY_Base, Pk.TY_Objt]
   refine ⟨_,_,_,rfl,?_⟩
   refine .inl ⟨rfl,rfl,rfl,rfl,⟨_,rfl⟩,fun j hji => ?_⟩
   by_cases h : j = i
   ·rw [h]; exact hs
   ·exact hj j (by omega)
  ·simp +decide only [zml, zj7, h1, h8, h9, hd, b3, b3', b4, hi, hob, hs, Pk.EVL, Pk.EVD, ↓reduceIte, Nat.reduceAdd, Pk.TY_Base, Pk.TY_Objt]
   refine ⟨_,_,_,rfl,?_⟩
   refine .inr ⟨by simp,.inr ⟨rfl,rfl,⟨_,rfl⟩,fun h => ?_⟩⟩
   rw [h i hi] at hs
   simp at hs
 ·rintro T H ⟨h1, h8, h9, ⟨J, rfl⟩, hj⟩
  simp +decide only [zml,zj7,h1,h8,h9,Pk.EVL,Pk.EVD,↓reduceIte,Pk.TY_Objt]
  refine ⟨_,_,_,rfl,?_⟩
  exact ⟨by simp,.inl ⟨rfl,rfl,rfl,hj⟩⟩
 rintro e T H (⟨rfl,h1,rfl,ha⟩ | ⟨rfl,h2,⟨J,rfl⟩,ha⟩)
 ·have he : allN 6 (fun j => okObj (b.objs.get j)) = true := za1.2 ha
  simp +decide only [h1,he,Pk.EVL,Pk.EVD,↓reduceIte,Nat.reduceAdd,Pk.TY_Base]
  simp only [Option.bind_assoc]
  refine zaf (zac (fun i T H => lk T 17 = .d (.agg (R3.cs Last.cs b.last)) ∧ lk T 18 = .d (.i .i64 (i : Nat)) ∧ (∃ J,H = .box (.d (.agg b.cs)) :: J) ∧ ∀ j < i,okLast (b.last.get j) = true)
   (fun e T H => (e = .exit 2 ∧ H = [.box (.d (.agg b.cs))] ∧ ∀ j < 3,okLast (b.last.get j) = true) ∨ (e = .ret ∧ lk T 2 = .d (.b false) ∧ (∃ J,H = .box (.d (.agg b.cs)) :: J) ∧ ¬ ∀ j < 3,okLast (b.last.get j) = true)) 3 ?_ ?_ 3 0 _ _ (by omega) ⟨rfl,rfl,⟨[],rfl⟩,by omega⟩) ?_
  ·rintro i T H hi ⟨h8, h9, ⟨J, rfl⟩, hj⟩
   have hd : decide ((i : Int) < 3) = true:=by simp; omega
   have hw : IntKind.i64.wrap ((i : Int) + 1) = ((i + 1 : Nat) : Int):=wi64 (by omega)
   have b3 : ((i : Int) < ((3 : Nat) : Int)) = True:=by simp; omega
   have b3' : (0 ≤ (i : Int)) = True:=by simp
   have b4 : (i * 3 + 3 ≤ 9) = True:=by simp; omega
   have fin : ∀ (r : Bool),okLast (b.last.get i) = r → (r = true → ∀ j < i + 1,okLast (b.last.get j) = true) ∧ (r = false → ¬ ∀ j < 3,okLast (b.last.get j) = true):=by
    intro r hr
    refine ⟨fun h j hji => ?_,fun h hh => ?_⟩
    ·by_cases e : j = i
     ·rw [e,hr,h]
     ·exact hj j (by omega)
    ·rw [hh i hi,h] at hr; simp at hr
   unfold okLast at fin
   generalize hl : b.last.get i = l at fin
   have z0 : Last.zero = (⟨0,⟨0,⟨#[]⟩⟩⟩ : Last):=rfl
   rw [z0] at fin
   by_cases c1 : l.r.data = ⟨#[]⟩
   ·rcases Bool.eq_false_or_eq_true (decide (l.r.code > 3)) with c2 | c2
    ·have f := fin false (by rw [c2]; simp)
     simp +decide only [zek,zeh,h8,h9,hd,b3,b3',b4,hi,hl,c1,c2,Pk.EVL,Pk.EVD,↓reduceIte,Nat.reduceAdd,Pk.TY_Base,Pk.TY_Last]
     refine ⟨_,_,_,rfl,?_⟩
     exact .inr ⟨by simp,.inr ⟨rfl,rfl,⟨_,rfl⟩,f.2 rfl⟩⟩
    ·rcases Bool.eq_false_or_eq_true (l.seq == 0) with c3 | c3
     ·by_cases c4 : l = (⟨0, ⟨0, ⟨#[]⟩⟩⟩ : Last)
      ·have f := fin true (by rw [c2, c3]; simp [c1, ← c4])
       have c4' : decide (l = (⟨0,⟨0,⟨#[]⟩⟩⟩ : Last)) = true:=decide_eq_true c4
       simp +decide only [zek,zeh,h8,h9,hd,hw,b3,b3',b4,hi,hl,c1,c2,c3,c4',Pk.EVL,Pk.EVD,↓reduceIte,Nat.reduceAdd,Pk.TY_Base,Pk.TY_Last]
       refine ⟨_,_,_,rfl,?_⟩
       exact .inl ⟨rfl,rfl,rfl,⟨_,rfl⟩,f.1 rfl⟩
      ·have c4' : decide (l = (⟨0, ⟨0, ⟨#[]⟩⟩⟩ : Last)) = false := decide_eq_false c4
       have f:=fin false (by rw [c2,c3,c4']; simp)
       simp +decide only [zek,zeh,h8,h9,hd,b3,b3',b4,hi,hl,c1,c2,c3,c4',Pk.EVL,Pk.EVD,↓reduceIte,Nat.reduceAdd,Pk.TY_Base,Pk.TY_Last]
       refine ⟨_,_,_,rfl,?_⟩
       exact .inr ⟨by simp,.inr ⟨rfl,rfl,⟨_,rfl⟩,f.2 rfl⟩⟩
     ·have f := fin true (by rw [c2, c3]; simp [c1])
      simp +decide only [zek,zeh,h8,h9,hd,hw,b3,b3',b4,hi,hl,c1,c2,c3,Pk.EVL,Pk.EVD,↓reduceIte,Nat.reduceAdd,Pk.TY_Base,Pk.TY_Last]
      refine ⟨_,_,_,rfl,?_⟩
      exact .inl ⟨rfl,rfl,rfl,⟨_,rfl⟩,f.1 rfl⟩
   ·have f := fin false (by simp [c1])
    simp +decide only [zek,zeh,h8,h9,hd,b3,b3',b4,hi,hl,c1,Pk.EVL,Pk.EVD,↓reduceIte,Nat.reduceAdd,Pk.TY_Base,Pk.TY_Last]
    refine ⟨_,_,_,rfl,?_⟩
    exact .inr ⟨by simp,.inr ⟨rfl,rfl,⟨_,rfl⟩,f.2 rfl⟩⟩
  ·rintro T H ⟨h8, h9, ⟨J, rfl⟩, hj⟩
   simp +decide only [zek,zeh,h8,h9,Pk.EVL,Pk.EVD,↓reduceIte,Pk.TY_Last]
   refine ⟨_,_,_,rfl,?_⟩
   exact ⟨by simp,.inl ⟨rfl,rfl,hj⟩⟩
  ·rintro e T H (⟨rfl, rfl, ha⟩ | ⟨rfl, h2, ⟨J, rfl⟩, ha⟩)
   ·have he : allN 3 (fun j => okLast (b.last.get j)) = true := za1.2 ha
    simp +decide only [he,Pk.EVL,Pk.EVD,↓reduceIte]
   ·have he : allN 3 (fun j => okLast (b.last.get j)) = false := zbn ha
    simp +decide only [h2,he,Pk.EVL,Pk.EVD,↓reduceIte]
 ·have he : allN 6 (fun j => okObj (b.objs.get j)) = false := zbn ha
  simp +decide only [h2,he,Pk.EVL,Pk.EVD,↓reduceIte]

def nextE (last e : Entry) : Bool:=writes e.op && (e.n == IntKind.u32.wrap (last.n + 1)) && decide (e.n > last.n) && decide (e.since ≥ last.since) && decide (e.since ≤ 60)
theorem next_at (last e : Entry) : evF C F_q39 [.d (.agg last.cs),.d (.agg e.cs)] [] = some (.d (.b (nextE last e)),[]):=by
 rw [zaa (rfl : C F_q39 = some a_q39) _ _ rfl]
 unfold nextE
 have hw:=zbv e.op
 rcases Bool.eq_false_or_eq_true (!writes e.op) with h1 | h1
 ·simp only [Bool.not_eq_true'] at *
  simp +decide only [c_q39,hw,h1,Pk.EVL,Pk.EVD,↓reduceIte,Nat.reduceAdd,Pk.TY_Entry]
  try simp
 ·rcases Bool.eq_false_or_eq_true (!(e.n == IntKind.u32.wrap (last.n + 1))) with h2 | h2
  ·simp only [Bool.not_eq_true', Bool.not_eq_false'] at *
   simp +decide only [c_q39,hw,h1,h2,Pk.EVL,Pk.EVD,↓reduceIte,Nat.reduceAdd,Pk.TY_Entry]
   try simp
  ·rcases Bool.eq_false_or_eq_true (!decide (e.n > last.n)) with h3 | h3
   ·simp only [Bool.not_eq_true', Bool.not_eq_false'] at *
    simp +decide only [c_q39,hw,h1,h2,h3,Pk.EVL,Pk.EVD,↓reduceIte,Nat.reduceAdd,Pk.TY_Entry]
    try simp
   ·rcases Bool.eq_false_or_eq_true (!decide (e.since ≥ last.since)) with h4 | h4
    ·simp only [Bool.not_eq_true', Bool.not_eq_false'] at *
     simp +decide only [c_q39,hw,h1,h2,h3,h4,Pk.EVL,Pk.EVD,↓reduceIte,Nat.reduceAdd,Pk.TY_Entry]
     try simp
    ·simp only [Bool.not_eq_false'] at *
     simp +decide only [c_q39,hw,h1,h2,h3,h4,Pk.EVL,Pk.EVD,↓reduceIte,Nat.reduceAdd,Pk.TY_Entry]
     try simp
end Go.Proofs.YthlpognahlnaaaaGreat
