/- States made of entries from nothing: one list,folded up to some number. Plain laws,no code. / States alike. -/
import Derived.Test.YthlpognahlnaaaaGreatPgD
import Derived.Test.YthlpognahlnaaaaGreatPkEvd
set_option linter.all false
namespace Go.Proofs.YthlpognahlnaaaaGreat
open Pv Go Pk
set_option maxRecDepth 10000

/-! what an operation leaves may be -/
def ObjP (x : Objt) : Prop:=x.data.size ≤ 16 ∧ (∀ j < 3,(x.attr.get j).size ≤ 16) ∧ (x.there = false → x = Objt.zero)
theorem znh (x : Objt) : okObj x = true ↔ ObjP x:=by
 unfold okObj ObjP
 by_cases h : x.there = true
 ·rw [if_pos h, Bool.and_eq_true, za1]
  simp only [decide_eq_true_eq]
  exact ⟨fun ⟨a,b⟩ => ⟨b,a,fun hh => by rw [h] at hh; simp at hh⟩,fun ⟨a,b,_⟩ => ⟨b,a⟩⟩
 ·rw [if_neg h, decide_eq_true_eq]
  constructor
  ·rintro rfl
   exact ⟨by decide,by decide,fun _ => rfl⟩
  ·rintro ⟨_, _, h3⟩
   exact h3 (by simpa using h)
theorem doO_ok {x : Objt} {o : Opr} (hx : ObjP x) (h0 : 0 ≤ o.at_) (hd : o.data.size ≤ 16) : ObjP (doO x o).1 ∧ 0 ≤ (doO x o).2 ∧ (doO x o).2 ≤ 3:=by
 unfold doO
 split
 ·unfold writeO
  split
  ·exact ⟨hx,by simp,by simp⟩
  ·rename_i hc
   refine ⟨⟨?_,hx.2.1,fun h => by simp at h⟩,by simp,by simp⟩
   have hg:=zba x.data (o.at_.toNat + o.data.size)
   have:=hx.1
   show (splice x.data o.at_.toNat o.data).size ≤ 16
   unfold splice
   simp [hg]
   omega
 ·split
  ·unfold truncO
   split
   ·exact ⟨hx,by simp,by simp⟩
   ·rename_i ht
    split
    ·exact ⟨hx,by simp,by simp⟩
    ·refine ⟨⟨?_, hx.2.1, fun h => absurd h ht⟩, by simp, by simp⟩
     have hg:=zba x.data o.at_.toNat
     have:=hx.1
     show ((grown x.data o.at_.toNat).extract 0 o.at_.toNat).size ≤ 16
     simp
     omega
  ·split
   ·unfold attrO
    split
    ·exact ⟨hx,by simp,by simp⟩
    ·rename_i ha
     split
     ·exact ⟨hx,by simp,by simp⟩
     ·rename_i ht
      refine ⟨⟨hx.1,fun j hj => ?_,fun h => absurd h ht⟩,by simp,by simp⟩
      show ((x.attr.set o.at_.toNat o.data).get j).size ≤ 16
      rw [R3.get_set _ _ _ _ (by omega) hj]
      split
      ·exact hd
      ·exact hx.2.1 j hj
   ·unfold removeO
    split
    ·exact ⟨hx,by simp,by simp⟩
    ·exact ⟨⟨by decide,by decide,fun _ => rfl⟩,by simp,by simp⟩
theorem okBase_do {b : Base} {o : Opr} (hb : okBase b = true) (ho : o.ok) : okBase (doOp b o).1 = true:=by
 unfold doOp
 split
 ·exact hb
 ·split
  ·exact hb
  ·rename_i hw _
   have hw : writes o = true:=by simpa using hw
   obtain ⟨j,hj,hj',hj6⟩:=zks ho hw
   have hcl:=cl_lt hw
   have h0 : 0 ≤ o.at_:=by have:=ho; simp only [Opr.ok] at this; omega
   obtain ⟨hd,_,_,_,hsq⟩:=zei (zbg (o:=o) hw)
   unfold okBase at hb ⊢
   rw [Bool.and_eq_true,za1,za1] at hb ⊢
   have hx:=doO_ok ((znh _).1 (hb.1 o.obj.toNat (by omega))) h0 hd
   refine ⟨fun i hi => ?_,fun i hi => ?_⟩
   ·show okObj ((b.objs.set o.obj.toNat _).get i) = true
    rw [R6.get_set _ _ _ _ (by omega) hi]
    split
    ·exact (znh _).2 hx.1
    ·exact hb.1 i hi
   ·show okLast ((b.last.set (o.client - 1).toNat _).get i) = true
    rw [R3.get_set _ _ _ _ hcl hi]
    split
    ·unfold okLast
     have h1 : decide ((doO (b.objs.get o.obj.toNat) o).2 > 3) = false:=by simp; omega
     have h2 : (o.seq == 0) = false:=by simpa using hsq
     simp [h1,h2]
    ·exact hb.2 i hi

/-! one list of entries -/
def baseOf (E : List Entry) : Base:=(allOps Base.zero (E.map (·.op))).1
theorem zl0 {α : Type} {p : List α → Prop} (h0 : p []) (hs : ∀ l x,p l → p (l ++ [x])) (l : List α) : p l:=by
 have : ∀ n (l : List α),l.length = n → p l:=by
  intro n
  induction n with
  | zero => intro l hl; rw [List.length_eq_zero_iff.1 hl]; exact h0
  | succ n ih =>
   intro l hl
   have hne : l ≠ []:=by intro h; rw [h] at hl; simp at hl
   rw [← List.dropLast_concat_getLast hne]
   exact hs _ _ (ih _ (by simp [hl]))
 exact this _ l rfl
def lastOf (E : List Entry) : Entry:=match E.getLast? with
 | some e => e
 | none => Entry.zero
def tailOf (E : List Entry) : Entry:=⟨(lastOf E).since,(lastOf E).n,⟨0,0,0,0,0,⟨#[]⟩⟩⟩
theorem zqu (E : List Entry) (e : Entry) : lastOf (E ++ [e]) = e:=by simp [lastOf]
/-- A state made of these entries,the first k folded. -/
def mkSt (st : Int) (E : List Entry) (k : Nat) : State:=⟨st,baseOf (E.take k),tailOf (E.take k),E.drop k⟩
structure goodE (E : List Entry) : Prop where
 ch : chainE Entry.zero E = true
 ok : ∀ e ∈ E,e.op.ok
theorem zcl : ∀ (l : List Entry) (last e : Entry),chainE last (l ++ [e]) = (chainE last l && nextE (match l.getLast? with | some x => x | none => last) e)
 | [],last,e => by simp [chainE]
 | x :: l, last, e => by
  simp only [List.cons_append,chainE,zcl l x e,Bool.and_assoc]
  cases l with
  | nil => rfl
  | cons y l =>
   rw [List.getLast?_cons_cons]
   have : ∃ z,(y :: l).getLast? = some z:=⟨_,List.getLast?_eq_some_getLast (by simp)⟩
   obtain ⟨z,hz⟩:=this
   simp only [hz]
theorem zbo : ∀ (l r : List Entry) (last : Entry),chainE last (l ++ r) = (chainE last l && chainE (match l.getLast? with | some x => x | none => last) r)
 | [],r,last => by simp [chainE]
 | x :: l, r, last => by
  simp only [List.cons_append,chainE,zbo l r x,Bool.and_assoc]
  cases l with
  | nil => rfl
  | cons y l =>
   rw [List.getLast?_cons_cons]
   obtain ⟨z,hz⟩ : ∃ z,(y :: l).getLast? = some z:=⟨_,List.getLast?_eq_some_getLast (by simp)⟩
   simp only [hz]
theorem zim {a b : Entry} (h1 : a.n = b.n) (h2 : a.since = b.since) (e : Entry) : nextE a e = nextE b e:=by unfold nextE; rw [h1,h2]
theorem zdb {a b : Entry} (h1 : a.n = b.n) (h2 : a.since = b.since) (l : List Entry) : chainE a l = chainE b l:=by
 cases l with
 | nil => rfl
 | cons e l => simp only [chainE,zim h1 h2]
theorem goodE.take {E : List Entry} (h : goodE E) (k : Nat) : goodE (E.take k):=by
 refine ⟨?_,fun e he => h.ok e (List.mem_of_mem_take he)⟩
 have:=h.ch
 rw [← List.take_append_drop k E,zbo,Bool.and_eq_true] at this
 exact this.1
theorem goodE.drop {E : List Entry} (h : goodE E) (k : Nat) : chainE (tailOf (E.take k)) (E.drop k) = true:=by
 have:=h.ch
 rw [← List.take_append_drop k E,zbo,Bool.and_eq_true] at this
 have h2:=this.2
 rw [← h2]
 refine zdb ?_ ?_ _ <;> unfold tailOf lastOf <;> cases (E.take k).getLast? <;> rfl
theorem goodE.nums {E : List Entry} (h : goodE E) : (∀ (i : Nat) (e : Entry),E[i]? = some e → e.n = i + 1) ∧ (lastOf E).n = E.length ∧ (E.length : Int) < 4294967296:=by
 obtain ⟨h1,h2,h3⟩:=zb0 (last:=Entry.zero) ⟨by decide,by decide⟩ h.ch
 have z : Entry.zero.n = 0:=rfl
 rw [z] at h1 h2 h3
 refine ⟨fun i e he => by have:=h1 i e he; omega,?_,by omega⟩
 unfold lastOf
 revert h2
 cases E.getLast? with
 | none => intro h2; simp only at h2 ⊢; rw [h2]; rfl
 | some e => intro h2; simp only at h2 ⊢; omega
theorem goodE.sinces {E : List Entry} (h : goodE E) : 0 ≤ (lastOf E).since ∧ (lastOf E).since ≤ 60:=by
 induction E using zl0 with
 | h0 => exact ⟨by decide,by decide⟩
 | hs E e ih =>
  have hh:=h.take E.length
  rw [List.take_left] at hh
  have:=ih hh
  have hc:=h.ch
  rw [zcl,Bool.and_eq_true] at hc
  rw [zqu]
  have hn : nextE (lastOf E) e = true:=by
   have:=hc.2
   unfold lastOf
   revert this
   cases E.getLast? <;> exact id
  unfold nextE at hn
  simp only [Bool.and_eq_true,decide_eq_true_eq] at hn
  omega
theorem wu32 {n : Nat} (h : n < 4294967296) : IntKind.u32.wrap (n : Int) = (n : Int):=by unfold IntKind.wrap; simp [IntKind.signed,IntKind.bits]; omega
/-- What a variable of a state's kind holds. -/
def stV (s : State) (z : AV) : Prop:=z = .d (.agg s.cs) ∨ (z = .agg State.zeroA ∧ s = State.zero)
end Go.Proofs.YthlpognahlnaaaaGreat

namespace Go.Proofs.YthlpognahlnaaaaGreat
open Pv Go Pk
set_option maxRecDepth 10000
set_option maxHeartbeats 2000000
theorem zf9 {α : Type} {a b : List α} {i : Nat} {x y : α} (ha : a[i]? = some x) (hb : b[i]? = some y) : a.take (i + 1) = b.take (i + 1) ↔ a.take i = b.take i ∧ x = y:=by
 rw [zag ha,zag hb]
 have hl : (a.take i).length = (b.take i).length:=by
  have:=(List.getElem?_eq_some_iff.1 ha).1
  have:=(List.getElem?_eq_some_iff.1 hb).1
  rw [List.length_take,List.length_take]; omega
 constructor
 ·intro h
  have:=List.append_inj h hl
  exact ⟨this.1,by simpa using this.2⟩
 ·rintro ⟨h1,h2⟩; rw [h1,h2]
theorem zti (a b : List Entry) (hl : a.length ≤ 1000) : evF C F_q48 [.d (.sl (a.map Entry.d)),.d (.sl (b.map Entry.d))] [] = some (.d (.b (decide (a = b))),[]):=by
 rw [zaa (rfl : C F_q48 = some a_q48) _ _ rfl]
 by_cases c : a.length = b.length
 case neg =>
  have hne : (((a.length : Nat) : Int) != ((b.length : Nat) : Int)) = true:=by simp; omega
  have hd : decide (a = b) = false:=by simp; intro h; exact c (by rw [h])
  rw [hd]
  simp +decide only [c_q48,hne,Pk.EVL,Pk.EVD,↓reduceIte,Nat.reduceAdd]
 have hne : (((a.length : Nat) : Int) != ((b.length : Nat) : Int)) = false:=by simp; omega
 simp +decide only [c_q48,hne,Pk.EVL,Pk.EVD,↓reduceIte,Nat.reduceAdd]
 simp only [Option.bind_assoc]
 refine zaf (zac (fun i T H => lk T 0 = .d (.sl (a.map Entry.d)) ∧ lk T 1 = .d (.sl (b.map Entry.d)) ∧ lk T 12 = .d (.i .i64 (a.length : Nat)) ∧ lk T 13 = .d (.i .i64 (i : Nat)) ∧ H = [] ∧ a.take i = b.take i)
  (fun e T H => (e = .exit 0 ∧ H = [] ∧ a = b) ∨ (e = .ret ∧ lk T 4 = .d (.b false) ∧ H = [] ∧ a ≠ b)) a.length ?_ ?_ a.length 0 _ _ (by omega) ⟨rfl,rfl,rfl,rfl,rfl,rfl⟩) ?_
 ·rintro i T H hi ⟨h0, h1, h12, h13, rfl, ht⟩
  obtain ⟨x,hx⟩ : ∃ x,a[i]? = some x:=⟨a[i]'hi,List.getElem?_eq_getElem _⟩
  obtain ⟨y,hy⟩ : ∃ y,b[i]? = some y:=⟨b[i]'(by omega),List.getElem?_eq_getElem _⟩
  have kx:=zae Entry.d hx
  have ky:=zae Entry.d hy
  have hd : decide ((i : Int) < ((a.length : Nat) : Int)) = true:=by simp; omega
  have hw : IntKind.i64.wrap ((i : Int) + 1) = ((i + 1 : Nat) : Int):=wi64 (by omega)
  have b0 : (0 ≤ (i : Int)) = True:=by simp
  by_cases e : x = y
  ·have hde := decide_eq_true e
   simp +decide only [zkc,zma,h0,h1,h12,h13,hd,hw,b0,kx,ky,hde,Pk.EVL,Pk.EVD,↓reduceIte,Pk.TY_Entry]
   refine ⟨_,_,_,rfl,?_⟩
   exact .inl ⟨rfl,rfl,rfl,rfl,rfl,rfl,(zf9 hx hy).2 ⟨ht,e⟩⟩
  ·have hde := decide_eq_false e
   simp +decide only [zkc,zma,h0,h1,h12,h13,hd,b0,kx,ky,hde,Pk.EVL,Pk.EVD,↓reduceIte,Pk.TY_Entry]
   refine ⟨_,_,_,rfl,?_⟩
   refine .inr ⟨by simp,.inr ⟨rfl,rfl,rfl,?_⟩⟩
   rintro rfl
   rw [hx] at hy
   exact e (by simpa using hy)
 ·rintro T H ⟨h0, h1, h12, h13, rfl, ht⟩
  have hd : decide (((a.length : Nat) : Int) < ((a.length : Nat) : Int)) = false:=by simp
  simp +decide only [zkc,zma,h0,h1,h12,h13,Pk.EVL,Pk.EVD,↓reduceIte]
  refine ⟨_,_,_,rfl,?_⟩
  rw [List.take_length,c,List.take_length] at ht
  exact ⟨by simp,.inl ⟨rfl,rfl,ht⟩⟩
 rintro e T H (⟨rfl,rfl,h⟩ | ⟨rfl,h4,rfl,h⟩)
 ·rw [decide_eq_true h]
  simp +decide only [Pk.EVL,Pk.EVD,↓reduceIte]
 ·rw [decide_eq_false h]
  simp +decide only [h4,Pk.EVL,Pk.EVD,↓reduceIte]
theorem same_at (s t : State) (hl : s.log.length ≤ 1000) : evF C F_q33 [.d (.agg s.cs),.d (.agg t.cs)] [] = some (.d (.b (decide (s = t))),[]):=by
 rw [zaa (rfl : C F_q33 = some a_q33) _ _ rfl]
 have hq:=zti s.log t.log hl
 have fin : ∀ {r : Bool},(s = t ↔ r = true) → decide (s = t) = r:=fun {r} h => by
  cases r with
  | true => exact decide_eq_true (h.2 rfl)
  | false => exact decide_eq_false fun hh => by simpa using h.1 hh
 have ext : s = t ↔ s.started = t.started ∧ s.base = t.base ∧ s.tail = t.tail ∧ s.log = t.log:=by cases s; cases t; simp
 rcases Bool.eq_false_or_eq_true (s.started == t.started) with c1 | c1
 ·have k1 : s.started = t.started := by simpa using c1
  rcases Bool.eq_false_or_eq_true (decide (s.base = t.base)) with c2 | c2
  ·rcases Bool.eq_false_or_eq_true (decide (s.tail = t.tail)) with c3 | c3
   ·rw [fin (r := decide (s.log = t.log)) (by rw [ext, decide_eq_true_eq]; simp [k1, of_decide_eq_true c2, of_decide_eq_true c3])]
    simp +decide only [c_q33,c1,c2,c3,hq,Pk.EVL,Pk.EVD,↓reduceIte,Nat.reduceAdd,Nat.reduceLeDiff,Pk.TY_State,Pk.TY_Base,Pk.TY_Entry]
   ·rw [fin (r := false) (by rw [ext]; simp [of_decide_eq_false c3])]
    simp +decide only [c_q33,c1,c2,c3,Pk.EVL,Pk.EVD,↓reduceIte,Nat.reduceAdd,Nat.reduceLeDiff,Pk.TY_State,Pk.TY_Base,Pk.TY_Entry]
  ·rw [fin (r := false) (by rw [ext]; simp [of_decide_eq_false c2])]
   simp +decide only [c_q33,c1,c2,Pk.EVL,Pk.EVD,↓reduceIte,Nat.reduceAdd,Nat.reduceLeDiff,Pk.TY_State,Pk.TY_Base]
 ·have k1 : ¬ s.started = t.started := by simpa using c1
  rw [fin (r:=false) (by rw [ext]; simp [k1])]
  simp +decide only [c_q33,c1,Pk.EVL,Pk.EVD,↓reduceIte,Nat.reduceAdd,Pk.TY_State]
end Go.Proofs.YthlpognahlnaaaaGreat
