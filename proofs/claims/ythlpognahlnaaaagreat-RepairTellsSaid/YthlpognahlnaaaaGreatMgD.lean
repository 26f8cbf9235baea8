/- The reference's states: alike,found,cut,folded,added. / The reference's difference. -/
import Derived.Test.YthlpognahlnaaaaGreatPkEvd
import Derived.Test.YthlpognahlnaaaaGreatPgR
import Derived.Test.YthlpognahlnaaaaGreatObjR
set_option linter.all false
namespace Go.Proofs.YthlpognahlnaaaaGreat
open Pv Go Pk
set_option maxRecDepth 10000
set_option maxHeartbeats 2000000
theorem zjl (s t : State) (hl : s.log.length ≤ 1000) : evF C F_q2i [.d (.agg s.cs),.d (.agg t.cs)] [] = some (.d (.b (decide (s = t))),[]):=by
 rw [zaa (rfl : C F_q2i = some a_q2i) _ _ rfl]
 have fin : ∀ {r : Bool},(s = t ↔ r = true) → decide (s = t) = r:=fun {r} h => by
  cases r with
  | true => exact decide_eq_true (h.2 rfl)
  | false => exact decide_eq_false fun hh => by simpa using h.1 hh
 have ext : s = t ↔ s.started = t.started ∧ s.base = t.base ∧ s.tail = t.tail ∧ s.log = t.log:=by cases s; cases t; simp
 have nb : ∀ a b : Int,(a != b) = !(a == b):=fun _ _ => rfl
 rcases Bool.eq_false_or_eq_true (s.started == t.started) with c1 | c1
 case inr =>
  have k1 : ¬ s.started = t.started:=by simpa using c1
  rw [fin (r:=false) (by rw [ext]; simp [k1])]
  simp +decide only [c_q2i,nb,c1,Bool.not_false,Pk.EVL,Pk.EVD,↓reduceIte,Nat.reduceAdd,Pk.TY_State]
 have k1 : s.started = t.started:=by simpa using c1
 rcases Bool.eq_false_or_eq_true (decide (s.base = t.base)) with c2 | c2
 case inr =>
  rw [fin (r:=false) (by rw [ext]; simp [of_decide_eq_false c2])]
  simp +decide only [c_q2i,nb,c1,c2,Bool.not_false,Bool.not_true,Pk.EVL,Pk.EVD,↓reduceIte,Nat.reduceAdd,Nat.reduceLeDiff,Pk.TY_State,Pk.TY_Base]
 rcases Bool.eq_false_or_eq_true (decide (s.tail = t.tail)) with c3 | c3
 case inr =>
  rw [fin (r:=false) (by rw [ext]; simp [of_decide_eq_false c3])]
  simp +decide only [c_q2i,nb,c1,c2,c3,Bool.not_false,Bool.not_true,Pk.EVL,Pk.EVD,↓reduceIte,Nat.reduceAdd,Nat.reduceLeDiff,Pk.TY_State,Pk.TY_Base,Pk.TY_Entry]
 have hred : ∀ {r : Bool},(s.log = t.log ↔ r = true) → decide (s = t) = r:=fun {r} h => fin (by rw [ext]; simp only [k1,of_decide_eq_true c2,of_decide_eq_true c3,true_and]; exact h)
 by_cases c : s.log.length = t.log.length
 case neg =>
  have hne : (((s.log.length : Nat) : Int) == ((t.log.length : Nat) : Int)) = false:=by rw [beq_eq_false_iff_ne]; omega
  rw [hred (r:=false) (by simp; intro h; exact c (by rw [h]))]
  simp +decide only [c_q2i,nb,c1,c2,c3,hne,Bool.not_false,Bool.not_true,Pk.EVL,Pk.EVD,↓reduceIte,Nat.reduceAdd,Nat.reduceLeDiff,Pk.TY_State,Pk.TY_Base,Pk.TY_Entry]
 have hne : (((s.log.length : Nat) : Int) == ((t.log.length : Nat) : Int)) = true:=by simp; omega
 simp +decide only [c_q2i,nb,c1,c2,c3,hne,Bool.not_true,Pk.EVL,Pk.EVD,↓reduceIte,Nat.reduceAdd,Nat.reduceLeDiff,Pk.TY_State,Pk.TY_Base,Pk.TY_Entry]
 simp only [Option.bind_assoc]
 refine zaf (zac (fun i T H => lk T 2 = .ptr 0 0 ∧ lk T 3 = .ptr 1 0 ∧ lk T 5 = .d (.i .i64 (i : Nat)) ∧ H = [.box (.d (.agg s.cs)),.box (.d (.agg t.cs))] ∧ s.log.take i = t.log.take i)
  (fun e T H => H = [.box (.d (.agg s.cs)),.box (.d (.agg t.cs))] ∧ ((e = .exit 0 ∧ s.log = t.log) ∨ (e = .ret ∧ lk T 4 = .d (.b false) ∧ s.log ≠ t.log))) s.log.length ?_ ?_ s.log.length 0 _ _ (by omega) ⟨rfl,rfl,rfl,rfl,rfl⟩) ?_
 ·rintro i T H hi ⟨h2, h3, h5, rfl, ht⟩
  obtain ⟨x,hx⟩ : ∃ x,s.log[i]? = some x:=⟨s.log[i]'hi,List.getElem?_eq_getElem _⟩
  obtain ⟨y,hy⟩ : ∃ y,t.log[i]? = some y:=⟨t.log[i]'(by omega),List.getElem?_eq_getElem _⟩
  have kx:=zae Entry.d hx
  have ky:=zae Entry.d hy
  have hd : decide ((i : Int) < ((s.log.length : Nat) : Int)) = true:=by simp; omega
  have hw : IntKind.i64.wrap ((i : Int) + 1) = ((i + 1 : Nat) : Int):=wi64 (by omega)
  have b0 : (0 ≤ (i : Int)) = True:=by simp
  by_cases e : x = y
  ·have hde := decide_eq_true e
   simp +decide only [zjz,zlt,h2,h3,h5,hd,hw,b0,kx,ky,hde,Pk.EVL,Pk.EVD,↓reduceIte,Nat.reduceAdd,Pk.TY_State,Pk.TY_Entry]
   refine ⟨_,_,_,rfl,?_⟩
   exact .inl ⟨rfl,rfl,rfl,rfl,rfl,(zf9 hx hy).2 ⟨ht,e⟩⟩
  ·have hde := decide_eq_false e
   simp +decide only [zjz,zlt,h2,h3,h5,hd,b0,kx,ky,hde,Bool.not_false,Pk.EVL,Pk.EVD,↓reduceIte,Nat.reduceAdd,Pk.TY_State,Pk.TY_Entry]
   refine ⟨_,_,_,rfl,?_⟩
   refine .inr ⟨by simp,rfl,.inr ⟨rfl,rfl,fun h => ?_⟩⟩
   rw [h,hy] at hx
   exact e (by simpa using hx.symm)
 ·rintro T H ⟨h2, h3, h5, rfl, ht⟩
  have hd : decide (((s.log.length : Nat) : Int) < ((s.log.length : Nat) : Int)) = false:=by simp
  simp +decide only [zjz,zlt,h2,h3,h5,Pk.EVL,Pk.EVD,↓reduceIte,Nat.reduceAdd,Pk.TY_State]
  refine ⟨_,_,_,rfl,?_⟩
  rw [List.take_length,c,List.take_length] at ht
  exact ⟨by simp,rfl,.inl ⟨rfl,ht⟩⟩
 rintro e T H ⟨rfl,⟨rfl,h⟩ | ⟨rfl,h4,h⟩⟩
 ·rw [hred (r := true) (by simp [h])]
  simp +decide only [Pk.EVL,Pk.EVD,↓reduceIte,Nat.reduceAdd]
 ·rw [hred (r := false) (by simp [h])]
  simp +decide only [h4,Pk.EVL,Pk.EVD,↓reduceIte]

/-! folding,one by one -/
def popS (s : State) (e : Entry) (l : List Entry) : State:={ s with base:=(doOp s.base e.op).1,tail:=⟨e.since,e.n,⟨0,0,0,0,0,⟨#[]⟩⟩⟩,log:=l }
theorem zpm (s : State) (j : Nat) (e : Entry) (h : s.log[j]? = some e) : foldedS s (j + 1) = popS (foldedS s j) e (s.log.drop (j + 1)):=by
 unfold foldedS popS
 rw [zag h,List.foldl_append]
 rfl
theorem zse {s : State} (ho : stOk s) (h : isSt s = true) (j : Nat) : Base.fit (foldedS s j).base :=
 znj (zgg h) fun e he => ho.log e (List.mem_of_mem_take he)
theorem zsg (s : State) (hs : stFull s) (n : Int) (hn : 0 ≤ n ∧ n < 4294967296) (hl : s.log.length ≤ 1000) : evF C F_q2d [.d (.agg s.cs),.d (.i .u32 n)] [] = some (.tup [.d (.agg (findS s n).1.cs),.d (.b (findS s n).2)],[]):=by
 rw [zaa (rfl : C F_q2d = some a_q2d) _ _ rfl]
 have hi:=zcy s hs
 have hz : Entry.zero = (⟨0,0,⟨0,0,0,0,0,⟨#[]⟩⟩⟩ : Entry):=rfl
 -- who is found
 have hnone : (isSt s = false ∨ ∀ e ∈ s.log,e.n ≠ n) → findS s n = (Entry.zero,false):=by
  intro h
  unfold findS plS
  by_cases c : isSt s = true
  ·rw [if_pos c]
   have h:=h.resolve_left (by rw [c]; simp)
   cases hp : placeS s n with
   | none => rfl
   | some k =>
    obtain ⟨h1,h2⟩:=zbp hs.ok c hp
    cases k with
    | zero => rfl
    | succ k =>
     exfalso
     obtain ⟨e,he⟩ : ∃ e,s.log[k]? = some e:=⟨s.log[k]'(by omega),List.getElem?_eq_getElem _⟩
     have:=(zb0 hs.n (za2 c)).1 k e he
     exact h e (List.mem_of_getElem? he) (by omega)
  ·rw [if_neg c]
 have hsome : ∀ (i : Nat) (e : Entry),isSt s = true → s.log[i]? = some e → e.n = n → findS s n = (e,true):=by
  intro i e c he hen
  have h1:=(zb0 hs.n (za2 c)).1 i e he
  have hi' : i < s.log.length:=(List.getElem?_eq_some_iff.1 he).1
  unfold findS plS
  rw [if_pos c,← hen,h1,show s.tail.n + (i : Int) + 1 = s.tail.n + ((i + 1 : Nat) : Int) by omega,place_is hs.ok c (by omega)]
  simp only [he]
 simp +decide only [c_q2d,Pk.EVL,Pk.EVD,↓reduceIte,Nat.reduceAdd,Pk.TY_Entry]
 simp only [Option.bind_assoc]
 refine zaf (zac (fun i T H => lk T 1 = .d (.i .u32 n) ∧ lk T 2 = .ptr 0 0 ∧ lk T 4 = .ptr 1 0 ∧ lk T 6 = .d (.i .i64 (i : Nat)) ∧ H = [.box (.d (.agg s.cs)),.box (.d (.agg Entry.zero.cs))] ∧ (isSt s = true ∨ i = 0) ∧ ∀ j e,j < i → s.log[j]? = some e → e.n ≠ n)
  (fun e T H => (e = .exit 0 ∧ lk T 4 = .ptr 1 0 ∧ H = [.box (.d (.agg s.cs)),.box (.d (.agg Entry.zero.cs))] ∧ findS s n = (Entry.zero,false)) ∨ (e = .ret ∧ lk T 4 = .ptr 1 0 ∧ lk T 5 = .d (.b true) ∧ ∃ x,H = [.box (.d (.agg s.cs)),.box (.d (.agg (Entry.cs x)))] ∧ findS s n = (x,true))) s.log.length ?_ ?_ s.log.length 0 _ _ (by omega) ⟨rfl,rfl,rfl,rfl,rfl,.inr rfl,by omega⟩) ?_
 ·rintro i T H hi' ⟨h1, h2, h4, h6, rfl, hc, hj⟩
  have hd : decide ((i : Int) < ((s.log.length : Nat) : Int)) = true:=by simp; omega
  have hw : IntKind.i64.wrap ((i : Int) + 1) = ((i + 1 : Nat) : Int):=wi64 (by omega)
  have b0 : (0 ≤ (i : Int)) = True:=by simp
  obtain ⟨e,he⟩ : ∃ e,s.log[i]? = some e:=⟨s.log[i]'hi',List.getElem?_eq_getElem _⟩
  have hx:=zae Entry.d he
  rcases Bool.eq_false_or_eq_true (isSt s) with c | c
  ·by_cases en : e.n = n
   ·have hen : (e.n == n) = true := by simpa using en
    simp +decide only [zis,zik,h1,h2,h4,h6,hd,b0,hi,c,hx,hen,Pk.EVL,Pk.EVD,↓reduceIte,reduceCtorEq,Nat.reduceAdd,Pk.TY_State,Pk.TY_Entry]
    refine ⟨_,_,_,rfl,?_⟩
    exact .inr ⟨by simp,.inr ⟨rfl,rfl,rfl,_,rfl,hsome i e c he en⟩⟩
   ·have hen : (e.n == n) = false := by rw [beq_eq_false_iff_ne]; exact en
    simp +decide only [zis,zik,h1,h2,h4,h6,hd,hw,b0,hi,c,hx,hen,Pk.EVL,Pk.EVD,↓reduceIte,reduceCtorEq,Nat.reduceAdd,Pk.TY_State,Pk.TY_Entry]
    refine ⟨_,_,_,rfl,?_⟩
    refine .inl ⟨rfl,rfl,rfl,rfl,rfl,rfl,fun j x hj' hx' => ?_⟩
    by_cases e2 : j = i
    ·subst e2; rw [he] at hx'; injection hx' with hx'; rw [← hx']; exact en
    ·exact hj j x (by omega) hx'
  ·simp +decide only [zis, zik, h1, h2, h4, h6, hd, hi, c, Pk.EVL, Pk.EVD, ↓reduceIte, reduceCtorEq, Nat.reduceAdd, Pk.TY_State]
   refine ⟨_,_,_,rfl,?_⟩
   first | exact .inr ⟨by simp,.inl ⟨rfl,rfl,rfl,hnone (.inl c)⟩⟩ | exact ⟨by simp,.inl ⟨rfl,rfl,rfl,hnone (.inl c)⟩⟩
 ·rintro T H ⟨h1, h2, h4, h6, rfl, hc, hj⟩
  have hd : decide (((s.log.length : Nat) : Int) < ((s.log.length : Nat) : Int)) = false:=by simp
  simp +decide only [zis,zik,h1,h2,h4,h6,Pk.EVL,Pk.EVD,↓reduceIte,Nat.reduceAdd,Pk.TY_State]
  refine ⟨_,_,_,rfl,?_⟩
  refine ⟨by simp,.inl ⟨rfl,rfl,rfl,hnone (.inr fun e he => ?_)⟩⟩
  obtain ⟨j,hj',hje⟩:=List.mem_iff_getElem.1 he
  exact hj j e hj' (by rw [List.getElem?_eq_getElem hj',hje])
 rintro e T H (⟨rfl,h4,rfl,hf⟩ | ⟨rfl,h4,h5,x,rfl,hf⟩)
 ·rw [hf, hz]
  simp +decide only [h4,Pk.EVL,Pk.EVD,↓reduceIte,Nat.reduceAdd,Pk.TY_Entry]
 ·rw [hf]
  simp +decide only [h4,h5,Pk.EVL,Pk.EVD,↓reduceIte,Pk.TY_Entry]

/-! up to a number -/
theorem zsc (s : State) (hs : stFull s) (n : Int) : evF C F_q2k [.d (.agg s.cs),.d (.i .u32 n)] [] = some (.tup [.d (.agg (uptoS s n).1.cs),.d (.b (uptoS s n).2)],[]):=by
 rw [zaa (rfl : C F_q2k = some a_q2k) _ _ rfl]
 have hi:=zcy s hs
 have hh:=zft s hs
 unfold uptoS plS
 by_cases c : isSt s = true
 case neg =>
  rw [if_neg c]
  have c:=eq_false_of_ne_true c
  simp +decide only [c_q2k,hi,hh,c,Pk.EVL,Pk.EVD,↓reduceIte,Nat.reduceAdd,Pk.TY_State,Pk.TY_Base]
 rw [if_pos c]
 have hhs : headS s = ((lastE s).since,(lastE s).n):=by unfold headS; rw [if_pos c]
 rw [hhs] at hh
 cases hk : placeS s n with
 | none =>
  unfold placeS at hk
  by_cases h1 : n < s.tail.n
  ·have h1 := decide_eq_true h1
   simp +decide only [c_q2k,hi,hh,c,h1,Pk.EVL,Pk.EVD,↓reduceIte,Nat.reduceAdd,Pk.TY_State,Pk.TY_Base]
  ·by_cases h2 : n > (lastE s).n
   ·have h1 := decide_eq_false h1
    have h2:=decide_eq_true h2
    simp +decide only [c_q2k,hi,hh,c,h1,h2,Pk.EVL,Pk.EVD,↓reduceIte,Nat.reduceAdd,Pk.TY_State,Pk.TY_Base]
   ·rw [if_neg (by omega)] at hk
    simp at hk
 | some k =>
  obtain ⟨hn,hkl⟩:=zbp hs.ok c hk
  have hll:=zay c
  have hlast:=zjh hs.ok c
  have h1 : decide (n < s.tail.n) = false:=by simp; omega
  have h2 : decide (n > (lastE s).n) = false:=by simp; omega
  have hnum:=(zb0 hs.n (za2 c)).1
  have hfit:=fun j => zse hs.ok c j
  have hbase : ∀ (j : Nat) (e : Entry),s.log[j]? = some e → (foldedS s (j + 1)).base = (doOp (foldedS s j).base e.op).1:=fun j e h => by rw [zpm s j e h]; rfl
  have hb0 : (foldedS s 0).base = s.base:=rfl
  simp +decide only [c_q2k,hi,hh,c,h1,h2,Pk.EVL,Pk.EVD,↓reduceIte,Nat.reduceAdd,Nat.reduceLeDiff,Pk.TY_State,Pk.TY_Base]
  simp only [Option.bind_assoc]
  refine zaf (zac (fun i T H => lk T 1 = .d (.i .u32 n) ∧ lk T 2 = .ptr 0 0 ∧ lk T 4 = .ptr 1 0 ∧ lk T 8 = .ptr 2 0 ∧ lk T 9 = .d (.i .i64 (i : Nat)) ∧ H = [.box (.d (.agg s.cs)),.box (.d (.agg Base.zero.cs)),.box (.d (.agg (foldedS s i).base.cs))])
   (fun e T H => e = .exit 0 ∧ lk T 4 = .ptr 1 0 ∧ lk T 8 = .ptr 2 0 ∧ H = [.box (.d (.agg s.cs)),.box (.d (.agg Base.zero.cs)),.box (.d (.agg (foldedS s k).base.cs))]) k ?_ ?_ k 0 _ _ (by omega) ⟨rfl,rfl,rfl,rfl,rfl,by rw [hb0]⟩) ?_
  ·rintro i T H hik ⟨g1, g2, g4, g8, g9, rfl⟩
   obtain ⟨e,he⟩ : ∃ e,s.log[i]? = some e:=⟨s.log[i]'(by omega),List.getElem?_eq_getElem _⟩
   have hx:=zae Entry.d he
   have heo:=hs.log e (List.mem_of_getElem? he)
   have hen:=hnum i e he
   have hd : decide ((i : Int) < ((s.log.length : Nat) : Int)) = true:=by simp; omega
   have hle : decide (e.n ≤ n) = true:=by simp; omega
   have hw : IntKind.i64.wrap ((i : Int) + 1) = ((i + 1 : Nat) : Int):=wi64 (by omega)
   have b0 : (0 ≤ (i : Int)) = True:=by simp
   have hdo:=refDo_at (foldedS s i).base e.op (hfit i) heo.2.2
   have hdl : (List.drop 2 e.cs).length = 6:=rfl
   rw [hbase i e he]
   generalize (foldedS s i).base = b at *
   simp +decide only [zld,zkp,g1,g2,g4,g8,g9,hd,hle,hw,b0,hx,hdo,Pk.EVL,Pk.EVD,↓reduceIte,Nat.reduceAdd,Nat.reduceLeDiff,Pk.TY_State,Pk.TY_Base,Pk.TY_Entry,Pk.TY_Opr]
   refine ⟨_,_,_,rfl,?_⟩
   exact .inl ⟨rfl,rfl,rfl,rfl,rfl,rfl,rfl⟩
  ·rintro T H ⟨g1, g2, g4, g8, g9, rfl⟩
   generalize (foldedS s k).base = b at *
   rcases Bool.eq_false_or_eq_true (decide ((k : Int) < ((s.log.length : Nat) : Int))) with hd | hd
   ·obtain ⟨e, he⟩ : ∃ e, s.log[k]? = some e := ⟨s.log[k]'(by have := of_decide_eq_true hd; omega), List.getElem?_eq_getElem _⟩
    have hx:=zae Entry.d he
    have hen:=hnum k e he
    have hle : decide (e.n ≤ n) = false:=by simp; omega
    have b0 : (0 ≤ (k : Int)) = True:=by simp
    simp +decide only [zld,zkp,g1,g2,g4,g8,g9,hd,hle,b0,hx,Pk.EVL,Pk.EVD,↓reduceIte,Nat.reduceAdd,Pk.TY_State,Pk.TY_Entry]
    refine ⟨_,_,_,rfl,?_⟩
    exact ⟨by simp,rfl,rfl,rfl,rfl⟩
   ·simp +decide only [zld, zkp, g1, g2, g4, g8, g9, hd, Pk.EVL, Pk.EVD, ↓reduceIte, Nat.reduceAdd, Pk.TY_State]
    refine ⟨_,_,_,rfl,?_⟩
    exact ⟨by simp,rfl,rfl,rfl,rfl⟩
  rintro e T H ⟨rfl,g4,g8,rfl⟩
  generalize (foldedS s k).base = b at *
  simp +decide only [g4,g8,Pk.EVL,Pk.EVD,↓reduceIte,Nat.reduceAdd,Pk.TY_Base]
end Go.Proofs.YthlpognahlnaaaaGreat

namespace Go.Proofs.YthlpognahlnaaaaGreat
open Pv Go Pk
set_option maxRecDepth 10000
set_option maxHeartbeats 2000000
def inM (a b : State) (i : Nat) : Bool:=decide (a.tail = b.tail) || (a.log.take i).any (fun e => (e.since == b.tail.since) && (e.n == b.tail.n))
theorem inM_succ (a b : State) {i : Nat} {e : Entry} (h : a.log[i]? = some e) : inM a b (i + 1) = (inM a b i || ((e.since == b.tail.since) && (e.n == b.tail.n))):=by
 unfold inM
 rw [zag h,List.any_append,Bool.or_assoc]
 simp
theorem tail_op {b : State} (h : isSt b = true) : b.tail.op = ⟨0,0,0,0,0,⟨#[]⟩⟩:=by
 unfold isSt at h
 simp only [Bool.and_eq_true,decide_eq_true_eq] at h
 exact h.2.2.1
def findK (a : State) : Nat → Entry × Bool
 | k + 1 => match a.log[k]? with
  | some e => (e,true)
  | none => (Entry.zero,false)
 | 0 => (Entry.zero,false)
theorem find_of {a : State} {n : Int} {k : Nat} (ca : isSt a = true) (hp : placeS a n = some k) : findS a n = findK a k:=by
 unfold findS plS
 rw [if_pos ca,hp]
 cases k <;> rfl
theorem shared_eq {a b : State} (ha : stOk a) (ca : isSt a = true) (cb : isSt b = true) : (inM a b a.log.length && ((uptoS a b.tail.n).2 && decide ((uptoS a b.tail.n).1 = b.base))) = standsM a b:=by
 have hop:=tail_op cb
 have hoa:=tail_op ca
 unfold standsM
 have key : (uptoS a b.tail.n).2 = true → inM a b a.log.length = decide ((if (findS a b.tail.n).2 = true then (⟨(findS a b.tail.n).1.since,(findS a b.tail.n).1.n,⟨0,0,0,0,0,⟨#[]⟩⟩⟩ : Entry) else a.tail) = b.tail):=by
  intro hu
  unfold uptoS plS at hu
  rw [if_pos ca] at hu
  cases hp : placeS a b.tail.n with
  | none => rw [hp] at hu; simp at hu
  | some k =>
   obtain ⟨hn,hk⟩:=zbp ha ca hp
   have hnum:=(zb0 ha.n (za2 ca)).1
   unfold inM
   rw [List.take_length]
   have hfind:=find_of ca hp
   cases k with
   | zero =>
    simp only [findK] at hfind
    rw [hfind,if_neg (by simp)]
    have : (a.log.any fun e => (e.since == b.tail.since) && (e.n == b.tail.n)) = false:=by
     rw [List.any_eq_false]
     intro e he
     obtain ⟨j,hj,hje⟩:=List.mem_iff_getElem.1 he
     have:=hnum j e (by rw [List.getElem?_eq_getElem hj,hje])
     have h2 : ¬ e.n = b.tail.n:=by omega
     simp [h2]
    rw [this,Bool.or_false]
   | succ k =>
    obtain ⟨e,he⟩ : ∃ e,a.log[k]? = some e:=⟨a.log[k]'(by omega),List.getElem?_eq_getElem _⟩
    simp only [findK,he] at hfind
    rw [hfind,if_pos rfl]
    have hen:=hnum k e he
    have h1 : ¬ a.tail = b.tail:=fun h => by have:=congrArg Entry.n h; omega
    have hbt : b.tail = ⟨b.tail.since,b.tail.n,⟨0,0,0,0,0,⟨#[]⟩⟩⟩:=by
     cases hb : b.tail with
     | mk s n o => rw [hb] at hop; simp only at hop; rw [hop]
    rw [decide_eq_false h1,Bool.false_or]
    by_cases hs : e.since = b.tail.since
    ·have h3 : (a.log.any fun e => (e.since == b.tail.since) && (e.n == b.tail.n)) = true := by
      rw [List.any_eq_true]
      refine ⟨e,List.mem_of_getElem? he,?_⟩
      have : e.n = b.tail.n:=by omega
      simp [hs,this]
     rw [h3]
     symm
     rw [decide_eq_true_eq,hbt]
     have : e.n = b.tail.n:=by omega
     simp only [hs,this]
    ·have h3 : (a.log.any fun e => (e.since == b.tail.since) && (e.n == b.tail.n)) = false := by
      rw [List.any_eq_false]
      intro x hx
      obtain ⟨j,hj,hje⟩:=List.mem_iff_getElem.1 hx
      have hxj : a.log[j]? = some x:=by rw [List.getElem?_eq_getElem hj,hje]
      have:=hnum j x hxj
      by_cases e2 : x.n = b.tail.n
      ·have : j = k := by omega
       rw [this,he] at hxj
       injection hxj with hxj
       simp [← hxj,hs]
      ·simp [e2]
     rw [h3]
     symm
     rw [decide_eq_false_iff_not]
     intro h
     have h:=congrArg Entry.since h
     exact hs h
 cases hu : (uptoS a b.tail.n).2 with
 | false => simp
 | true =>
  rw [key hu]
  cases decide ((if (findS a b.tail.n).2 = true then (⟨(findS a b.tail.n).1.since,(findS a b.tail.n).1.n,⟨0,0,0,0,0,⟨#[]⟩⟩⟩ : Entry) else a.tail) = b.tail) <;> cases decide ((uptoS a b.tail.n).1 = b.base) <;> rfl
theorem shared_at (a b : State) (ha : stFull a) (hl : a.log.length ≤ 1000) : evF C F_q2w [.d (.agg a.cs),.d (.agg b.cs)] [] = some (.d (.b (inM a b a.log.length && ((uptoS a b.tail.n).2 && decide ((uptoS a b.tail.n).1 = b.base)))),[]):=by
 rw [zaa (rfl : C F_q2w = some a_q2w) _ _ rfl]
 have h2:=zsc a ha b.tail.n
 generalize uptoS a b.tail.n = U at *
 obtain ⟨u,uo⟩:=U
 simp only at h2 ⊢
 have hi0 : inM a b 0 = decide (a.tail = b.tail):=by unfold inM; simp
 simp +decide only [c_q2w,Pk.EVL,Pk.EVD,↓reduceIte,Nat.reduceAdd,Nat.reduceLeDiff,Pk.TY_State,Pk.TY_Entry]
 simp only [Option.bind_assoc]
 refine zaf (zac (fun i T H => lk T 2 = .ptr 0 0 ∧ lk T 3 = .ptr 1 0 ∧ lk T 5 = .d (.b (inM a b i)) ∧ lk T 6 = .d (.i .i64 (i : Nat)) ∧ H = [.box (.d (.agg a.cs)),.box (.d (.agg b.cs))])
  (fun e T H => e = .exit 0 ∧ lk T 2 = .ptr 0 0 ∧ lk T 3 = .ptr 1 0 ∧ lk T 5 = .d (.b (inM a b a.log.length)) ∧ H = [.box (.d (.agg a.cs)),.box (.d (.agg b.cs))]) a.log.length ?_ ?_ a.log.length 0 _ _ (by omega) ⟨rfl,rfl,by rw [hi0]; rfl,rfl,rfl⟩) ?_
 ·rintro i T H hi ⟨g2, g3, g5, g6, rfl⟩
  obtain ⟨e,he⟩ : ∃ e,a.log[i]? = some e:=⟨a.log[i]'hi,List.getElem?_eq_getElem _⟩
  have hx:=zae Entry.d he
  have hd : decide ((i : Int) < ((a.log.length : Nat) : Int)) = true:=by simp; omega
  have hw : IntKind.i64.wrap ((i : Int) + 1) = ((i + 1 : Nat) : Int):=wi64 (by omega)
  have b0 : (0 ≤ (i : Int)) = True:=by simp
  have hs:=inM_succ a b he
  have hE2 : e.op.cs.length = 6:=rfl
  have hE : e.cs = .i .u32 e.since :: .i .u32 e.n :: e.op.cs:=rfl
  rcases Bool.eq_false_or_eq_true (inM a b i) with r | r
  ·rw [r, Bool.true_or] at hs
   simp +decide only [ze5,zfq,g2,g3,g5,g6,r,hd,hw,zau,Pk.EVL,Pk.EVD,↓reduceIte,Nat.reduceAdd,Pk.TY_State]
   refine ⟨_,_,_,rfl,?_⟩
   exact .inl ⟨rfl,rfl,rfl,by rw [hs]; rfl,rfl,rfl⟩
  ·rw [r, Bool.false_or] at hs
   rcases Bool.eq_false_or_eq_true (e.since == b.tail.since) with c1 | c1
   ·rcases Bool.eq_false_or_eq_true (e.n == b.tail.n) with c2 | c2
    ·rw [c1, c2] at hs
     simp +decide only [ze5,zfq,g2,g3,g5,g6,r,c1,c2,hd,hw,b0,hx,hE,hE2,Pk.EVL,Pk.EVD,↓reduceIte,Nat.reduceAdd,Pk.TY_State,Pk.TY_Entry]
     refine ⟨_,_,_,rfl,?_⟩
     exact .inl ⟨rfl,rfl,rfl,by rw [hs]; rfl,rfl,rfl⟩
    ·rw [c1, c2] at hs
     simp +decide only [ze5,zfq,g2,g3,g5,g6,r,c1,c2,hd,hw,b0,hx,hE,hE2,Pk.EVL,Pk.EVD,↓reduceIte,Nat.reduceAdd,Pk.TY_State,Pk.TY_Entry]
     refine ⟨_,_,_,rfl,?_⟩
     exact .inl ⟨rfl,rfl,rfl,by rw [hs]; rfl,rfl,rfl⟩
   ·rw [c1, Bool.false_and] at hs
    simp +decide only [ze5,zfq,g2,g3,g5,g6,r,c1,hd,hw,b0,hx,hE,hE2,Pk.EVL,Pk.EVD,↓reduceIte,Nat.reduceAdd,Pk.TY_State,Pk.TY_Entry]
    refine ⟨_,_,_,rfl,?_⟩
    exact .inl ⟨rfl,rfl,rfl,by rw [hs]; rfl,rfl,rfl⟩
 ·rintro T H ⟨g2, g3, g5, g6, rfl⟩
  have hd : decide (((a.log.length : Nat) : Int) < ((a.log.length : Nat) : Int)) = false:=by simp
  simp +decide only [ze5,zfq,g2,g3,g5,g6,Pk.EVL,Pk.EVD,↓reduceIte,Nat.reduceAdd,Pk.TY_State]
  refine ⟨_,_,_,rfl,?_⟩
  exact ⟨by simp,rfl,rfl,rfl,rfl,rfl⟩
 rintro e T H ⟨rfl,g2,g3,g5,rfl⟩
 rcases Bool.eq_false_or_eq_true (inM a b a.log.length) with r | r
 case inr =>
  rw [r,Bool.false_and]
  simp +decide only [g2,g3,g5,r,Pk.EVL,Pk.EVD,↓reduceIte,Nat.reduceAdd]
 rw [r,Bool.true_and]
 cases uo with
 | false => simp +decide only [g2,g3,g5,r,h2,Pk.EVL,Pk.EVD,↓reduceIte,Nat.reduceAdd,Pk.TY_State,Pk.TY_Base]
 | true => simp +decide only [g2,g3,g5,r,h2,Pk.EVL,Pk.EVD,↓reduceIte,Nat.reduceAdd,Nat.reduceLeDiff,Pk.TY_State,Pk.TY_Base]

/-! the reference's difference -/
def mkE (k f : Int) (v : AV) (w : State) : List AV:=.d (.i .i64 k) :: .d (.i .u32 f) :: v :: State.withV w .nilS
theorem mkE_0 (s : State) : upd (upd State.zeroA 0 [.d (.i .u32 s.started)]) 40 (List.map AV.d s.tail.cs) = State.withV (headM s) .nilS:=rfl
theorem mkE_00 (x : AV) : (upd State.zeroA 0 [x]).length = 49:=rfl
theorem mkE_1 (w : State) : allD (State.withV w .nilS) = none:=rfl
theorem mkE_b (w : State) : upd Diff.zeroA 3 (State.withV w .nilS) = mkE 0 0 .nilS w:=rfl
theorem zg5 (k f : Int) (v : AV) (w : State) : (mkE k f v w).length = 52:=rfl
theorem mkE_w (k f : Int) (v : AV) (w : State) : upd Diff.zeroA 0 (mkE k f v w) = mkE k f v w:=rfl
theorem mkE_all (k f : Int) (v : AV) (w : State) : subL (mkE k f v w) 0 52 = mkE k f v w:=rfl
theorem mkE_n (k f : Int) (w : State) : allD (mkE k f .nilS w) = none:=rfl
theorem mkE_v (k f : Int) (o g z a l : Nat) (w : State) : allD (mkE k f (.view o g z a l) w) = none:=rfl
theorem mkE_k (k f k' : Int) (v : AV) (w : State) : upd (mkE k f v w) 0 [.d (.i .i64 k')] = mkE k' f v w:=rfl
theorem mkE_f (k f f' : Int) (v : AV) (w : State) : upd (mkE k f v w) 1 [.d (.i .u32 f')] = mkE k f' v w:=rfl
theorem mkE_l (k f : Int) (v v' : AV) (w : State) : upd (mkE k f v w) 2 [v'] = mkE k f v' w:=rfl
theorem mkE_s (k f : Int) (v : AV) (w s : State) : upd (mkE k f v w) 3 (s.cs.map .d) = mkD k f v s:=rfl
theorem zr5 (H : Heap) (k f : Int) (v : AV) (w : State) : toDs H (mkE k f v w) = (toD H v).map fun p => (.i .i64 k :: .i .u32 f :: p.1 :: (w.cs.take 48 ++ [.sl []]),p.2):=by
 unfold mkE
 simp only [toDs,toD,State.withV_toDs]
 cases toD H v <;> rfl
theorem mkE_h (s : State) : (State.cs (headM s)).take 48 ++ [.sl []] = State.cs (headM s):=rfl
theorem zfh (n : Nat) (k f : Int) (v : AV) (w : State) : lts n (mkE k f v w) = lt n v:=by
 unfold mkE
 simp only [lts,lt,State.withV_lts,Bool.true_and,Bool.and_true]
theorem ztj (a b : State) (ha : stFull a) (hb : stFull b) (hsh : evF C F_q2w [.d (.agg a.cs),.d (.agg b.cs)] [] = some (.d (.b (inM a b a.log.length && ((uptoS a b.tail.n).2 && decide ((uptoS a b.tail.n).1 = b.base)))),[])) : evF C F_q2t [.d (.agg a.cs),.d (.agg b.cs)] [] = some (.d (.agg (makeM a b).cs),[]):=by
 rw [zaa (rfl : C F_q2t = some a_q2t) _ _ rfl]
 have h1:=zcy a ha
 have h2:=zcy b hb
 unfold makeM
 rcases Bool.eq_false_or_eq_true (isSt a) with c1 | c1
 case inr =>
  rw [if_neg (by rw [c1]; simp)]
  simp +decide only [c_q2t,h1,c1,Pk.EVL,Pk.EVD,↓reduceIte,Nat.reduceAdd,Pk.TY_State,Pk.TY_Diff]
 rcases Bool.eq_false_or_eq_true (isSt b) with c2 | c2
 case inr =>
  rw [if_neg (by rw [c2]; simp)]
  simp +decide only [c_q2t,h1,h2,c1,c2,Pk.EVL,Pk.EVD,↓reduceIte,Nat.reduceAdd,Pk.TY_State,Pk.TY_Diff]
 rw [if_pos (by rw [c1,c2]; rfl)]
 have l1:=zay c1
 have l2:=zay c2
 have hsm:=zjl { a with started:=b.started } b (by show a.log.length ≤ 1000; omega)
 by_cases c3 : ({ a with started:=b.started } : State) = b
 ·rw [if_pos c3]
  rw [decide_eq_true c3] at hsm
  simp +decide only [c_q2t,h1,h2,c1,c2,hsm,mkE_00,mkE_0,mkE_1,mkE_b,zg5,mkE_w,mkE_all,mkE_n,zr5,mkE_h,zfh,zew,Pk.EVL,Pk.EVD,↓reduceIte,Nat.reduceAdd,Nat.reduceLeDiff,Pk.TY_State,Pk.TY_Diff,Pk.TY_Entry]
 rw [if_neg c3]
 rw [decide_eq_false c3] at hsm
 have hst:=hsh
 rw [shared_eq ha.ok c1 c2] at hst
 rcases Bool.eq_false_or_eq_true (standsM a b) with c4 | c4
 case inr =>
  rw [if_neg (by rw [c4]; simp)]
  simp +decide only [c_q2t,h1,h2,c1,c2,hsm,hst,c4,mkE_00,mkE_0,mkE_1,mkE_b,zg5,mkE_w,mkE_n,mkE_k,mkE_s,zfh,zj8,mkD_w,zj4,mkD_n,zgd,zew,Pk.EVL,Pk.EVD,↓reduceIte,Nat.reduceAdd,Nat.reduceLeDiff,Pk.TY_State,Pk.TY_Diff,Pk.TY_Entry]
 rw [if_pos c4]
 have hnum:=(zb0 hb.ok.n (za2 c2)).1
 simp +decide only [c_q2t,h1,h2,c1,c2,hsm,hst,c4,mkE_00,mkE_0,mkE_1,mkE_b,zg5,mkE_w,mkE_n,mkE_k,mkE_f,Pk.EVL,Pk.EVD,↓reduceIte,Nat.reduceAdd,Nat.reduceLeDiff,Pk.TY_State,Pk.TY_Diff,Pk.TY_Entry]
 simp only [Option.bind_assoc]
 refine zaf (zac (fun i T H => lk T 2 = .ptr 0 0 ∧ lk T 3 = .ptr 1 0 ∧ lk T 4 = .ptr 2 0 ∧ lk T 5 = .ptr 3 0 ∧ lk T 7 = .d (.i .i64 (i : Nat)) ∧ (∃ J,H = .box (.d (.agg a.cs)) :: .box (.d (.agg b.cs)) :: .box (.agg Diff.zeroA) :: .box (.agg (mkE 1 (b.tail.n + i) .nilS (headM b))) :: .box (.d (.agg { a with started:=b.started }.cs)) :: J) ∧ commonL a b.tail.n b.log = commonL a (b.tail.n + i) (b.log.drop i))
  (fun e T H => e = .exit 1 ∧ lk T 3 = .ptr 1 0 ∧ lk T 4 = .ptr 2 0 ∧ lk T 5 = .ptr 3 0 ∧ ∃ j : Nat,j ≤ b.log.length ∧ lk T 7 = .d (.i .i64 (j : Nat)) ∧ (∃ J,H = .box (.d (.agg a.cs)) :: .box (.d (.agg b.cs)) :: .box (.agg Diff.zeroA) :: .box (.agg (mkE 1 (b.tail.n + j) .nilS (headM b))) :: .box (.d (.agg { a with started:=b.started }.cs)) :: J) ∧ commonL a b.tail.n b.log = b.tail.n + j) b.log.length ?_ ?_ b.log.length 0 _ _ (by omega) ⟨rfl,rfl,rfl,rfl,rfl,⟨[],by rw [Int.natCast_zero,Int.add_zero]⟩,by simp⟩) ?_
 ·rintro i T H hi ⟨g2, g3, g4, g5, g7, ⟨J, rfl⟩, hc⟩
  obtain ⟨e,he⟩ : ∃ e,b.log[i]? = some e:=⟨b.log[i]'hi,List.getElem?_eq_getElem _⟩
  have hx:=zae Entry.d he
  have hen:=hnum i e he
  have hd : decide ((i : Int) < ((b.log.length : Nat) : Int)) = true:=by simp; omega
  have hw : IntKind.i64.wrap ((i : Int) + 1) = ((i + 1 : Nat) : Int):=wi64 (by omega)
  have b0 : (0 ≤ (i : Int)) = True:=by simp
  have hdr : b.log.drop i = e :: b.log.drop (i + 1):=by
   rw [List.drop_eq_getElem_cons hi]
   congr 1
   exact (List.getElem?_eq_some_iff.1 he).2
  rw [hdr] at hc
  simp only [commonL] at hc
  have hf:=zsg a ha e.n (hb.log e (List.mem_of_getElem? he)).2.1 (by omega)
  have hh : hasE a e = ((findS a e.n).2 && decide ((findS a e.n).1 = e)):=rfl
  generalize hFF : findS a e.n = F at *
  obtain ⟨f,fo⟩:=F
  simp only at hf hh
  clear hFF
  cases fo with
  | false =>
   rw [hh,if_neg (by simp)] at hc
   simp +decide only [zig,zgt,g2,g3,g4,g5,g7,hd,b0,hx,hf,zfh,Pk.EVL,Pk.EVD,↓reduceIte,Nat.reduceAdd,Pk.TY_State,Pk.TY_Entry]
   refine ⟨_,_,_,rfl,?_⟩
   exact .inr ⟨by simp,rfl,rfl,rfl,rfl,i,by omega,rfl,⟨_,rfl⟩,hc⟩
  | true =>
   rcases Bool.eq_false_or_eq_true (decide (f = e)) with c | c
   ·rw [hh, c, if_pos (show (true && true) = true from rfl)] at hc
    have hfe:=of_decide_eq_true c
    subst hfe
    have hn2 : f.n = b.tail.n + ((i + 1 : Nat) : Int):=by omega
    simp +decide only [zig,zgt,g2,g3,g4,g5,g7,hd,hw,b0,hx,hf,zfh,zg5,mkE_f,mkE_n,Pk.EVL,Pk.EVD,↓reduceIte,Nat.reduceAdd,Nat.reduceLeDiff,Pk.TY_State,Pk.TY_Entry]
    refine ⟨_,_,_,rfl,?_⟩
    exact .inl ⟨rfl,rfl,rfl,rfl,rfl,rfl,⟨_,by rw [hn2]⟩,by rw [hc,hn2]⟩
   ·rw [hh, c, if_neg (by simp)] at hc
    simp +decide only [zig,zgt,g2,g3,g4,g5,g7,hd,b0,hx,hf,zfh,c,Pk.EVL,Pk.EVD,↓reduceIte,Nat.reduceAdd,Pk.TY_State,Pk.TY_Entry]
    refine ⟨_,_,_,rfl,?_⟩
    exact .inr ⟨by simp,rfl,rfl,rfl,rfl,i,by omega,rfl,⟨_,rfl⟩,hc⟩
 ·rintro T H ⟨g2, g3, g4, g5, g7, ⟨J, rfl⟩, hc⟩
  rw [List.drop_length] at hc
  simp only [commonL] at hc
  have hd : decide (((b.log.length : Nat) : Int) < ((b.log.length : Nat) : Int)) = false:=by simp
  simp +decide only [zig,zgt,g2,g3,g4,g5,g7,zfh,Pk.EVL,Pk.EVD,↓reduceIte,Nat.reduceAdd,Pk.TY_State,Pk.TY_Entry]
  refine ⟨_,_,_,rfl,?_⟩
  exact ⟨by simp,rfl,rfl,rfl,rfl,b.log.length,by omega,rfl,⟨_,rfl⟩,hc⟩
 rintro e T H ⟨rfl,g3,g4,g5,j,hj,g7,⟨J,rfl⟩,hc⟩
 have hJ : ∀ x : Ob,(J ++ [x])[J.length]? = some x:=fun x => by simp
 have hto : (commonL a b.tail.n b.log - b.tail.n).toNat = j:=by rw [hc]; omega
 rw [hto,hc]
 have b0 : (0 ≤ (j : Int)) = True:=by simp
 have b1 : ((j : Int) ≤ ((b.log.length : Nat) : Int)) = True:=by simp; omega
 have htl : List.take b.log.length (b.log.map Entry.d) = b.log.map Entry.d:=List.take_of_length_le (by simp)
 have hdr : List.drop j (b.log.map Entry.d) = (b.log.drop j).map Entry.d:=by rw [List.map_drop]
 have hdl : (b.log.drop j).length = b.log.length - j:=List.length_drop
 have htk : List.take (b.log.length - j) ((b.log.drop j).map Entry.d) = (b.log.drop j).map Entry.d:=List.take_of_length_le (by simp)
 have hsb : subL ((b.log.drop j).map Entry.d) 0 (b.log.length - j) = (b.log.drop j).map Entry.d:=htk
 have hlim : (b.log.length - j ≤ LIM) = True:=by
  have : b.log.length - j ≤ LIM:=by unfold LIM; omega
  simp [this]
 simp +decide only [g3,g4,g5,g7,hJ,b0,b1,htl,hdr,hdl,hsb,hlim,elems,zg5,mkE_w,mkE_all,mkE_v,mkE_l,zr5,mkE_h,zrc,Pk.EVL,Pk.EVD,↓reduceIte,Nat.reduceAdd,Nat.reduceLeDiff,Nat.reduceBNe,Pk.TY_State,Pk.TY_Diff,Pk.TY_Entry]
theorem zpu (d : Diff) (h1 : d.log.length ≤ 1000) (h2 : d.whole.log.length ≤ 1000) : evF C F_q2q [.d (.agg d.cs)] [] = some (.d (.i .i64 (bytesD d : Nat)),[]):=by
 rw [zaa (rfl : C F_q2q = some a_q2q) _ _ rfl]
 have hw0 : IntKind.i64.wrap (((d.log.length : Nat) : Int) + ((d.whole.log.length : Nat) : Int)) = ((d.log.length + d.whole.log.length : Nat) : Int):=wi64 (by omega)
 unfold bytesD
 simp +decide only [c_q2q,hw0,Pk.EVL,Pk.EVD,↓reduceIte,Nat.reduceAdd,Pk.TY_Diff]
 simp only [Option.bind_assoc]
 generalize hm : d.log.length + d.whole.log.length = m
 refine zaf (zac (fun i T H => lk T 1 = .ptr 0 0 ∧ lk T 3 = .d (.i .i64 ((m + thereN d.whole.base i : Nat) : Int)) ∧ lk T 4 = .d (.i .i64 (i : Nat)) ∧ H = [.box (.d (.agg d.cs))])
  (fun e T H => e = .exit 0 ∧ lk T 3 = .d (.i .i64 ((m + thereN d.whole.base 6 : Nat) : Int)) ∧ H = [.box (.d (.agg d.cs))]) 6 ?_ ?_ 6 0 _ _ (by omega) ⟨rfl,rfl,rfl,rfl⟩) ?_
 ·rintro i T H hi ⟨g1, g3, g4, rfl⟩
  have hd : decide ((i : Int) < 6) = true:=by simp; omega
  have hw : IntKind.i64.wrap ((i : Int) + 1) = ((i + 1 : Nat) : Int):=wi64 (by omega)
  have b3 : ((i : Int) < ((6 : Nat) : Int)) = True:=by simp; omega
  have b3' : (0 ≤ (i : Int)) = True:=by simp
  have hx : ∀ (d : Diff) (i : Nat),i < 6 → d.cs[4 + i * 5]? = some (.b (d.whole.base.objs.get i).there):=fun s i h => match i,h with
   | 0,_ => rfl | 1,_ => rfl | 2,_ => rfl | 3,_ => rfl | 4,_ => rfl | 5,_ => rfl | _ + 6,h => absurd h (by omega)
  have hx:=hx d i hi
  have hle:=ze0 d.whole.base i
  have hs : thereN d.whole.base (i + 1) = thereN d.whole.base i + (if (d.whole.base.objs.get i).there = true then 1 else 0):=rfl
  rcases Bool.eq_false_or_eq_true (d.whole.base.objs.get i).there with c | c
  ·rw [c] at hx
   rw [c,if_pos rfl] at hs
   have hw2 : IntKind.i64.wrap (((m + thereN d.whole.base i : Nat) : Int) + 1) = ((m + thereN d.whole.base (i + 1) : Nat) : Int):=by rw [hs,show ((m + thereN d.whole.base i : Nat) : Int) + 1 = ((m + (thereN d.whole.base i + 1) : Nat) : Int) by omega]; exact wi64 (by omega)
   simp +decide only [zkl,zlq,g1,g3,g4,hd,hw,hw2,b3,b3',hx,Pk.EVL,Pk.EVD,↓reduceIte,Nat.reduceAdd]
   refine ⟨_,_,_,rfl,?_⟩
   exact .inl ⟨rfl,rfl,rfl,rfl,rfl⟩
  ·rw [c] at hx
   rw [c,if_neg (by simp),Nat.add_zero] at hs
   simp +decide only [zkl,zlq,g1,g3,g4,hd,hw,b3,b3',hx,Pk.EVL,Pk.EVD,↓reduceIte,Nat.reduceAdd]
   refine ⟨_,_,_,rfl,?_⟩
   refine .inl ⟨rfl,rfl,?_,rfl,rfl⟩
   rw [hs]
   rfl
 ·rintro T H ⟨g1, g3, g4, rfl⟩
  simp +decide only [zkl,zlq,g1,g3,g4,Pk.EVL,Pk.EVD,↓reduceIte]
  refine ⟨_,_,_,rfl,?_⟩
  exact ⟨by simp,rfl,rfl,rfl⟩
 rintro e T H ⟨rfl,g3,rfl⟩
 simp +decide only [g3,Pk.EVL,Pk.EVD,↓reduceIte]
end Go.Proofs.YthlpognahlnaaaaGreat
