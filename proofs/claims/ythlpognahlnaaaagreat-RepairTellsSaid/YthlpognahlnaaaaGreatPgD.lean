/- States of groups: which may be,their heads,folding. / States of groups: adding,cutting,folding up to a number,finding. / States of groups: up to a number,cut,tail,same,find. -/
import Derived.Test.YthlpognahlnaaaaGreatPkEvd
import Derived.Test.YthlpognahlnaaaaGreatPgA
set_option linter.all false
namespace Go.Proofs.YthlpognahlnaaaaGreat
open Pv Go Pk
set_option maxRecDepth 10000
set_option maxHeartbeats 2000000

def chainE : Entry → List Entry → Bool
 | _,[] => true
 | last,e :: l => nextE last e && chainE e l
def isSt (s : State) : Bool:=!decide (s.started > 60) && (!decide (s.tail.since > 60) && (decide (s.tail.op = (⟨0,0,0,0,0,⟨#[]⟩⟩ : Opr)) && (!decide ((s.log.length : Int) > 6) && (okBase s.base && chainE s.tail s.log))))

theorem is_st (s : State) : evF C F_q32 [.d (.agg s.cs)] [] = some (.d (.b (isSt s)),[]):=by
 rw [zaa (rfl : C F_q32 = some a_q32) _ _ rfl]
 unfold isSt
 have hb:=base_at s.base
 rcases Bool.eq_false_or_eq_true (decide (s.started > 60)) with q1 | q1
 ·simp +decide only [c_q32,q1,Pk.EVL,Pk.EVD,↓reduceIte,Pk.TY_State,Pk.TY_Entry]
 rcases Bool.eq_false_or_eq_true (decide (s.tail.since > 60)) with q2 | q2
 ·simp +decide only [c_q32,q1,q2,Pk.EVL,Pk.EVD,↓reduceIte,Pk.TY_State,Pk.TY_Entry]
 rcases (Bool.eq_false_or_eq_true (decide (s.tail.op = (⟨0,0,0,0,0,⟨#[]⟩⟩ : Opr)))).symm with q3 | q3
 ·simp +decide only [c_q32,q1,q2,q3,Pk.EVL,Pk.EVD,↓reduceIte,Nat.reduceAdd,Nat.reduceLeDiff,Pk.TY_State,Pk.TY_Opr,Pk.TY_Entry]
 rcases Bool.eq_false_or_eq_true (decide ((s.log.length : Int) > 6)) with q4 | q4
 ·simp +decide only [c_q32,q1,q2,q3,q4,Pk.EVL,Pk.EVD,↓reduceIte,Nat.reduceAdd,Nat.reduceLeDiff,Pk.TY_State,Pk.TY_Opr,Pk.TY_Entry]
 rcases (Bool.eq_false_or_eq_true (okBase s.base)).symm with q5 | q5
 ·simp +decide only [c_q32,q1,q2,q3,q4,q5,hb,Pk.EVL,Pk.EVD,↓reduceIte,Nat.reduceAdd,Nat.reduceLeDiff,Pk.TY_State,Pk.TY_Opr,Pk.TY_Entry]
 have hl : s.log.length ≤ 6:=by have:=of_decide_eq_false q4; omega
 simp +decide only [c_q32,q1,q2,q3,q4,q5,hb,Pk.EVL,Pk.EVD,↓reduceIte,Nat.reduceAdd,Nat.reduceLeDiff,Pk.TY_State,Pk.TY_Opr,Pk.TY_Entry]
 simp only [Option.bind_assoc]
 refine zaf (zac (fun i T H => lk T 3 = .ptr 1 0 ∧ lk T 37 = .d (.sl (s.log.map Entry.d)) ∧ lk T 38 = .d (.i .i64 (s.log.length : Nat)) ∧ lk T 39 = .d (.i .i64 (i : Nat)) ∧ ∃ last J,H = .box (.d (.agg s.cs)) :: .box (.d (.agg last.cs)) :: J ∧ chainE s.tail s.log = chainE last (s.log.drop i))
  (fun e T H => (e = .exit 0 ∧ (∃ last,H = [.box (.d (.agg s.cs)),.box (.d (.agg (Entry.cs last)))]) ∧ chainE s.tail s.log = true) ∨ (e = .ret ∧ lk T 2 = .d (.b false) ∧ (∃ x J,H = .box (.d x) :: J) ∧ chainE s.tail s.log = false)) s.log.length ?_ ?_ s.log.length 0 _ _ (by omega) ⟨rfl,rfl,rfl,rfl,s.tail,[],rfl,rfl⟩) ?_
 ·rintro i T H hi ⟨h3, h37, h38, h39, last, J, rfl, hc⟩
  have hd : decide ((i : Int) < ((s.log.length : Nat) : Int)) = true:=by simp; omega
  have hw : IntKind.i64.wrap ((i : Int) + 1) = ((i + 1 : Nat) : Int):=wi64 (by omega)
  have b3' : (0 ≤ (i : Int)) = True:=by simp
  obtain ⟨e,he⟩ : ∃ e,s.log[i]? = some e:=⟨s.log[i]'hi,List.getElem?_eq_getElem _⟩
  have hx:=zae Entry.d he
  have hdr : s.log.drop i = e :: s.log.drop (i + 1):=by
   rw [List.drop_eq_getElem_cons hi]
   congr 1
   exact (List.getElem?_eq_some_iff.1 he).2
  rw [hdr] at hc
  have hn:=next_at last e
  rcases Bool.eq_false_or_eq_true (nextE last e) with c | c
  ·simp +decide only [zku, zmc, h3, h37, h38, h39, hd, hw, b3', hx, hn, c, Pk.EVL, Pk.EVD, ↓reduceIte, Nat.reduceAdd, Pk.TY_Entry]
   refine ⟨_,_,_,rfl,?_⟩
   refine .inl ⟨rfl,rfl,rfl,rfl,rfl,e,_,rfl,?_⟩
   rw [hc,chainE,c,Bool.true_and]
  ·simp +decide only [zku, zmc, h3, h37, h38, h39, hd, b3', hx, hn, c, Pk.EVL, Pk.EVD, ↓reduceIte, Nat.reduceAdd, Pk.TY_Entry]
   refine ⟨_,_,_,rfl,?_⟩
   refine .inr ⟨by simp,.inr ⟨rfl,rfl,⟨_,_,rfl⟩,?_⟩⟩
   rw [hc,chainE,c,Bool.false_and]
 ·rintro T H ⟨h3, h37, h38, h39, last, J, rfl, hc⟩
  have hd : decide (((s.log.length : Nat) : Int) < ((s.log.length : Nat) : Int)) = false:=by simp
  simp +decide only [zku,zmc,h3,h37,h38,h39,Pk.EVL,Pk.EVD,↓reduceIte,Nat.reduceAdd,Pk.TY_Entry]
  refine ⟨_,_,_,rfl,?_⟩
  rw [List.drop_length] at hc
  exact ⟨by simp,.inl ⟨rfl,⟨_,rfl⟩,by rw [hc]; rfl⟩⟩
 rintro e T H (⟨rfl,⟨last,rfl⟩,hc⟩ | ⟨rfl,h2,⟨x,J,rfl⟩,hc⟩)
 ·rw [hc]
  simp +decide only [Pk.EVL,Pk.EVD,↓reduceIte,Nat.reduceAdd]
 ·rw [hc]
  simp +decide only [h2,Pk.EVL,Pk.EVD,↓reduceIte]

def lastE (s : State) : Entry:=match s.log.getLast? with
 | some e => e
 | none => s.tail
theorem zqj (s : State) (hl : s.log.length ≤ 100) : evF C F_q38 [.d (.agg s.cs)] [] = some (.d (.agg (lastE s).cs),[]):=by
 rw [zaa (rfl : C F_q38 = some a_q38) _ _ rfl]
 unfold lastE
 rcases Bool.eq_false_or_eq_true (((s.log.length : Nat) : Int) == 0) with c | c
 ·have : s.log = [] := List.length_eq_zero_iff.1 (by simp at c; simpa using c)
  rw [this]
  simp only [List.getLast?_nil]
  simp +decide only [c_q38,c,Pk.EVL,Pk.EVD,↓reduceIte,Nat.reduceAdd,Nat.reduceLeDiff,Pk.TY_State,Pk.TY_Entry]
 ·have hn : 0 < s.log.length := by rw [beq_eq_false_iff_ne] at c; omega
  have hw : IntKind.i64.wrap (((s.log.length : Nat) : Int) - 1) = ((s.log.length - 1 : Nat) : Int):=by rw [show ((s.log.length : Nat) : Int) - 1 = ((s.log.length - 1 : Nat) : Int) by omega]; exact wi64 (by omega)
  obtain ⟨e,he⟩ : ∃ e,s.log[s.log.length - 1]? = some e:=⟨s.log[s.log.length - 1]'(by omega),List.getElem?_eq_getElem _⟩
  have hx:=zae Entry.d he
  rw [List.getLast?_eq_getElem?,he]
  have b3' : (0 ≤ ((s.log.length - 1 : Nat) : Int)) = True:=by simp
  simp +decide only [c_q38,c,hw,b3',hx,Pk.EVL,Pk.EVD,↓reduceIte,Nat.reduceAdd,Pk.TY_State,Pk.TY_Entry]
def headS (s : State) : Int × Int:=if isSt s = true then ((lastE s).since,(lastE s).n) else (0,0)
theorem zay {s : State} (h : isSt s = true) : s.log.length ≤ 6:=by
 unfold isSt at h
 simp only [Bool.and_eq_true,Bool.not_eq_true'] at h
 have:=of_decide_eq_false h.2.2.2.1
 omega
theorem head_at (s : State) : evF C F_q31 [.d (.agg s.cs)] [] = some (.tup [.d (.i .u32 (headS s).1),.d (.i .u32 (headS s).2)],[]):=by
 rw [zaa (rfl : C F_q31 = some a_q31) _ _ rfl]
 have hi:=is_st s
 unfold headS
 by_cases c : isSt s = true
 ·rw [if_pos c]
  have hla:=zqj s (by have:=zay c; omega)
  simp +decide only [c_q31,hi,c,hla,Pk.EVL,Pk.EVD,↓reduceIte,Nat.reduceAdd,Pk.TY_State,Pk.TY_Entry]
 ·rw [if_neg c]
  have c:=eq_false_of_ne_true c
  simp +decide only [c_q31,hi,c,Pk.EVL,Pk.EVD,↓reduceIte,Pk.TY_State,Pk.TY_Entry]

/-! folding -/
def foldE (s : State) (e : Entry) : State:={ s with base:=(doOp s.base e.op).1,tail:=⟨e.since,e.n,⟨0,0,0,0,0,⟨#[]⟩⟩⟩ }
def foldedS (s : State) (n : Nat) : State:={ (s.log.take n).foldl foldE s with log:=s.log.drop n }
theorem foldl_log (l : List Entry) (s : State) : (l.foldl foldE s).log = s.log ∧ (l.foldl foldE s).started = s.started:=by
 induction l generalizing s with
 | nil => exact ⟨rfl,rfl⟩
 | cons e l ih => exact ih _
theorem znj {l : List Entry} {s : State} (hb : Base.fit s.base) (ho : ∀ e ∈ l,e.op.ok) : Base.fit (l.foldl foldE s).base:=by
 induction l generalizing s with
 | nil => exact hb
 | cons e l ih => exact ih (s:=foldE s e) (doOp_fit hb (ho e (by simp))) fun x hx => ho x (by simp [hx])
theorem zgj (l : List Entry) (hl : l.length ≤ LIM) : evF C F_q40 [.d (.sl (l.map Entry.d))] [] = some (.view 0 l.length 8 0 l.length,[.arr (l.map Entry.d) true]):=by
 rw [zl8 (rfl : C F_q40 = some (.ext (cloneX 8)))]
 show (if _ then _ else _) = _
 rw [if_pos ⟨by simpa using hl,Entry.all_cells l⟩,List.length_map]
theorem ziu (s : State) (n : Nat) (hn : n ≤ s.log.length) (hl : s.log.length ≤ 100) (hb : Base.fit s.base) (ho : ∀ e ∈ s.log,e.op.ok) : evF C F_q37 [.d (.agg s.cs),.d (.i .i64 (n : Nat))] [] = some (.d (.agg (foldedS s n).cs),[]):=by
 rw [zaa (rfl : C F_q37 = some a_q37) _ _ rfl]
 have b1 : (0 ≤ (n : Int)) = True:=by simp
 have b2 : ((n : Int) ≤ ((s.log.length : Nat) : Int)) = True:=by simp; omega
 have htk : List.take n (s.log.map Entry.d) = (s.log.take n).map Entry.d:=by rw [List.map_take]
 have hlt : (s.log.take n).length = n:=by rw [List.length_take]; omega
 have hln : min n s.log.length = n:=by omega
 simp +decide only [c_q37,b1,b2,htk,hlt,Pk.EVL,Pk.EVD,↓reduceIte,Nat.reduceAdd,Nat.reduceBNe,Pk.TY_State,Pk.TY_Entry]
 simp only [Option.bind_assoc]
 refine zaf (zac (fun i T H => lk T 1 = .d (.i .i64 (n : Nat)) ∧ lk T 2 = .ptr 0 0 ∧ lk T 4 = .ptr 1 0 ∧ lk T 10 = .d (.sl ((s.log.take n).map Entry.d)) ∧ lk T 11 = .d (.i .i64 (n : Nat)) ∧ lk T 12 = .d (.i .i64 (i : Nat)) ∧ ∃ J,H = .box (.d (.agg (((s.log.take n).take i).foldl foldE s).cs)) :: .box (.agg State.zeroA) :: J)
  (fun e T H => e = .exit 0 ∧ lk T 1 = .d (.i .i64 (n : Nat)) ∧ lk T 2 = .ptr 0 0 ∧ lk T 4 = .ptr 1 0 ∧ H = [.box (.d (.agg ((s.log.take n).foldl foldE s).cs)),.box (.agg State.zeroA)]) n ?_ ?_ n 0 _ _ (by omega) ⟨rfl,rfl,rfl,rfl,rfl,rfl,[],rfl⟩) ?_
 ·rintro i T H hi ⟨h1, h2, h4, h10, h11, h12, J, rfl⟩
  have hd : decide ((i : Int) < ((n : Nat) : Int)) = true:=by simp; omega
  have hw : IntKind.i64.wrap ((i : Int) + 1) = ((i + 1 : Nat) : Int):=wi64 (by omega)
  have b3' : (0 ≤ (i : Int)) = True:=by simp
  obtain ⟨e,he⟩ : ∃ e,(s.log.take n)[i]? = some e:=⟨(s.log.take n)[i]'(by omega),List.getElem?_eq_getElem _⟩
  have hx:=zae Entry.d he
  rw [zag he,List.foldl_append]
  have hfit:=znj (l:=(s.log.take n).take i) hb (fun x hx => ho x (List.mem_of_mem_take (List.mem_of_mem_take hx)))
  have hdo:=doOp_at (((s.log.take n).take i).foldl foldE s).base e.op hfit (ho e (List.mem_of_mem_take (List.mem_of_getElem? he)))
  generalize ((s.log.take n).take i).foldl foldE s = t at *
  have hfe : List.foldl foldE t [e] = { t with base:=(doOp t.base e.op).1,tail:=⟨e.since,e.n,⟨0,0,0,0,0,⟨#[]⟩⟩⟩ }:=rfl
  rw [hfe]
  simp +decide only [zqx,zpa,h1,h2,h4,h10,h11,h12,hd,hw,b3',hx,hdo,Pk.EVL,Pk.EVD,↓reduceIte,Nat.reduceAdd,Nat.reduceLeDiff,Pk.TY_State,Pk.TY_Entry,Pk.TY_Base]
  refine ⟨_,_,_,rfl,?_⟩
  exact .inl ⟨rfl,rfl,rfl,rfl,rfl,rfl,rfl,_,rfl⟩
 ·rintro T H ⟨h1, h2, h4, h10, h11, h12, J, rfl⟩
  have hd : decide (((n : Nat) : Int) < ((n : Nat) : Int)) = false:=by simp
  rw [show (s.log.take n).take n = s.log.take n by rw [List.take_take,Nat.min_self]]
  generalize (s.log.take n).foldl foldE s = t at *
  simp +decide only [zqx,zpa,h1,h2,h4,h10,h11,h12,Pk.EVL,Pk.EVD,↓reduceIte,Nat.reduceAdd,Pk.TY_State,Pk.TY_Entry]
  refine ⟨_,_,_,rfl,?_⟩
  exact ⟨by simp,rfl,rfl,rfl,rfl,rfl⟩
 rintro e T H ⟨rfl,h1,h2,h4,rfl⟩
 have hlg:=(foldl_log (s.log.take n) s).1
 unfold foldedS
 generalize (s.log.take n).foldl foldE s = t at *
 have hdr : List.drop n (s.log.map Entry.d) = (s.log.drop n).map Entry.d:=by rw [List.map_drop]
 have htl : List.take s.log.length (s.log.map Entry.d) = s.log.map Entry.d:=List.take_of_length_le (by simp)
 have hldr : (s.log.drop n).length = s.log.length - n:=List.length_drop
 have hcl:=zgj (s.log.drop n) (by unfold LIM; omega)
 rw [hldr] at hcl
 have htk2 : List.take (s.log.length - n) ((s.log.drop n).map Entry.d) = (s.log.drop n).map Entry.d:=List.take_of_length_le (by simp)
 have hsb2 : subL ((s.log.drop n).map Entry.d) 0 (s.log.length - n) = (s.log.drop n).map Entry.d:=htk2
 simp +decide only [h1,h2,h4,hlg,b1,b2,hdr,htl,hldr,hcl,htk2,hsb2,or_true,Pk.EVL,Pk.EVD,↓reduceIte,Nat.reduceAdd,Nat.reduceBNe,Pk.TY_State,Pk.TY_Entry]
end Go.Proofs.YthlpognahlnaaaaGreat

namespace Go.Proofs.YthlpognahlnaaaaGreat
open Pv Go Pk
set_option maxRecDepth 10000
set_option maxHeartbeats 2000000

theorem ztc {b : Base} (h : okBase b = true) : Base.fit b:=by
 unfold okBase at h
 rw [Bool.and_eq_true] at h
 intro i hi
 have:=za1.1 h.1 i hi
 unfold okObj at this
 split at this
 ·rw [Bool.and_eq_true] at this
  refine ⟨by have:=of_decide_eq_true this.2; omega,fun j hj => ?_⟩
  have:=of_decide_eq_true (za1.1 this.1 j hj)
  omega
 ·rw [of_decide_eq_true this]
  exact ⟨by decide,fun j hj => by rcases (by omega : j = 0 ∨ j = 1 ∨ j = 2) with rfl | rfl | rfl <;> decide⟩
theorem zgg {s : State} (h : isSt s = true) : Base.fit s.base:=by
 unfold isSt at h
 simp only [Bool.and_eq_true] at h
 exact ztc h.2.2.2.2.1
/-- The entries' operations are of Go's kinds. -/
def okLog (s : State) : Prop:=∀ e ∈ s.log,e.op.ok
def addS (s : State) (e : Entry) : State × Int:=if (isSt s && nextE (lastE s) e) = true then (foldedS { s with log:=s.log ++ [e] } (s.log.length + 1 - 6),0) else (State.zero,10)
theorem add_at (s : State) (e : Entry) (hs : okLog s) (he : e.op.ok) : evF C F_q2x [.d (.agg s.cs),.d (.agg e.cs)] [] = some (.tup [.d (.agg (addS s e).1.cs),.d (.i .i64 (addS s e).2)],[]):=by
 rw [zaa (rfl : C F_q2x = some a_q2x) _ _ rfl]
 have hi:=is_st s
 unfold addS
 rcases Bool.eq_false_or_eq_true (isSt s) with c | c
 ·have hl := zay c
  have hla:=zqj s (by omega)
  have hn:=next_at (lastE s) e
  rcases Bool.eq_false_or_eq_true (nextE (lastE s) e) with c2 | c2
  ·rw [if_pos (by rw [c, c2]; rfl)]
   have hcl:=zgj s.log (by unfold LIM; omega)
   have hfo:=ziu { s with log:=s.log ++ [e] } (s.log.length + 1 - 6) (by simp only [List.length_append,List.length_cons,List.length_nil]; omega) (by simp only [List.length_append,List.length_cons,List.length_nil]; omega) (show Base.fit s.base from zgg c)
    (fun x hx => by
     rcases List.mem_append.1 hx with hx | hx
     ·exact hs x hx
     ·simp only [List.mem_singleton] at hx; rw [hx]; exact he)
   have hap : List.map Entry.d s.log ++ [DV.agg e.cs] = (s.log ++ [e]).map Entry.d:=by simp [Entry.d]
   have htk : List.take s.log.length (s.log.map Entry.d) = s.log.map Entry.d:=List.take_of_length_le (by simp)
   have htk1 : List.take (s.log.length + 1) ((s.log ++ [e]).map Entry.d) = (s.log ++ [e]).map Entry.d:=List.take_of_length_le (by simp)
   have hsb1 : subL ((s.log ++ [e]).map Entry.d) 0 (s.log.length + 1) = (s.log ++ [e]).map Entry.d:=htk1
   have hlim : (s.log.length + 1 ≤ LIM) = True:=by
    have : s.log.length + 1 ≤ LIM:=by unfold LIM; omega
    simp [this]
   have hlen : (s.log ++ [e]).length = s.log.length + 1:=by simp
   have hwd : IntKind.i64.wrap (((s.log.length + 1 : Nat) : Int) - 6) = (s.log.length : Int) + 1 - 6:=by unfold IntKind.wrap; simp [IntKind.signed,IntKind.bits]; omega
   have hmx : mmI true ((s.log.length : Int) + 1 - 6) 0 = ((s.log.length + 1 - 6 : Nat) : Int):=by unfold mmI; rw [if_pos rfl]; split <;> omega
   simp +decide only [c_q2x,hi,c,hla,hn,c2,hcl,hfo,hap,htk,hsb1,hlim,hlen,hwd,hmx,elems,or_true,Pk.EVL,Pk.EVD,↓reduceIte,Nat.reduceAdd,Pk.TY_State,Pk.TY_Entry]
  ·rw [if_neg (by rw [c, c2]; simp)]
   simp +decide only [c_q2x,hi,c,hla,hn,c2,Pk.EVL,Pk.EVD,↓reduceIte,Nat.reduceAdd,Pk.TY_State,Pk.TY_Entry]
 ·rw [if_neg (by rw [c]; simp)]
  simp +decide only [c_q2x,hi,c,Pk.EVL,Pk.EVD,↓reduceIte,Nat.reduceAdd,Pk.TY_State]
def foldS (s : State) : Base:=if isSt s = true then (foldedS s s.log.length).base else Base.zero
/-- How many entries up to a number; none: not there. -/
def placeS (s : State) (n : Int) : Option Nat:=if n < s.tail.n ∨ n > (lastE s).n then none else some (IntKind.u32.wrap (n - s.tail.n)).toNat
def optI : Option Nat → Int
 | none => -1
 | some k => (k : Int)
theorem zgl (s : State) (n : Int) (hl : s.log.length ≤ 100) : evF C F_q3b [.d (.agg s.cs),.d (.i .u32 n)] [] = some (.d (.i .i64 (optI (placeS s n))),[]):=by
 rw [zaa (rfl : C F_q3b = some a_q3b) _ _ rfl]
 have hla:=zqj s hl
 unfold placeS
 rcases Bool.eq_false_or_eq_true (decide (n < s.tail.n)) with c | c
 ·rw [if_pos (.inl (of_decide_eq_true c))]
  simp +decide only [c_q3b,c,optI,Pk.EVL,Pk.EVD,↓reduceIte,Nat.reduceAdd,Int.reduceNeg,Pk.TY_State]
 ·rcases Bool.eq_false_or_eq_true (decide (n > (lastE s).n)) with c2 | c2
  ·rw [if_pos (.inr (of_decide_eq_true c2))]
   simp +decide only [c_q3b,c,c2,hla,optI,Pk.EVL,Pk.EVD,↓reduceIte,Nat.reduceAdd,Int.reduceNeg,Pk.TY_State,Pk.TY_Entry]
  ·rw [if_neg (fun h => h.elim (of_decide_eq_false c) (of_decide_eq_false c2))]
   have hr:=zmt (n - s.tail.n)
   have hw : IntKind.i64.wrap (IntKind.u32.wrap (n - s.tail.n)) = ((IntKind.u32.wrap (n - s.tail.n)).toNat : Int):=by
    rw [Int.toNat_of_nonneg hr.1]
    generalize IntKind.u32.wrap (n - s.tail.n) = y at *
    unfold IntKind.wrap; simp [IntKind.signed,IntKind.bits]; omega
   simp +decide only [c_q3b,c,c2,hla,hw,optI,Pk.EVL,Pk.EVD,↓reduceIte,Nat.reduceAdd,Int.reduceNeg,Pk.TY_State,Pk.TY_Entry]
end Go.Proofs.YthlpognahlnaaaaGreat

namespace Go.Proofs.YthlpognahlnaaaaGreat
open Pv Go Pk
set_option maxRecDepth 10000
set_option maxHeartbeats 2000000

/-- What a caller must know of a state: its numbers and operations are of Go's kinds. -/
structure stOk (s : State) : Prop where
 n : 0 ≤ s.tail.n ∧ s.tail.n < 4294967296
 log : okLog s
theorem next_n {last e : Entry} (h0 : 0 ≤ last.n ∧ last.n < 4294967296) (h : nextE last e = true) : e.n = last.n + 1 ∧ (0 ≤ e.n ∧ e.n < 4294967296):=by
 unfold nextE at h
 simp only [Bool.and_eq_true,beq_iff_eq,decide_eq_true_eq] at h
 obtain ⟨⟨⟨⟨_,h1⟩,h2⟩,_⟩,_⟩:=h
 have hr:=zmt (last.n + 1)
 rw [← h1] at hr
 refine ⟨?_,hr⟩
 rcases Int.lt_or_le (last.n + 1) 4294967296 with h3 | h3
 ·rw [h1]; unfold IntKind.wrap; simp [IntKind.signed,IntKind.bits]; omega
 ·have : last.n + 1 = 4294967296 := by omega
  rw [this] at h1
  have : IntKind.u32.wrap 4294967296 = 0:=by decide
  omega
theorem zb0 : ∀ {l : List Entry} {last : Entry},(0 ≤ last.n ∧ last.n < 4294967296) → chainE last l = true → (∀ (i : Nat) (e : Entry),l[i]? = some e → e.n = last.n + i + 1) ∧ (match l.getLast? with | some e => e.n = last.n + l.length | none => l.length = 0) ∧ last.n + l.length < 4294967296
 | [],last,h0,_ => ⟨by simp,rfl,by simp; omega⟩
 | e :: l, last, h0, h => by
  simp only [chainE,Bool.and_eq_true] at h
  obtain ⟨h1,h2⟩:=next_n h0 h.1
  obtain ⟨i1,i2,i3⟩:=zb0 h2 h.2
  refine ⟨fun i x hx => ?_,?_,by simp only [List.length_cons]; omega⟩
  ·cases i with
   | zero => simp only [List.getElem?_cons_zero,Option.some.injEq] at hx; subst hx; simp; omega
   | succ i => simp only [List.getElem?_cons_succ] at hx; have:=i1 i x hx; rw [this]; simp; omega
  ·cases l with
   | nil => simp; omega
   | cons y l =>
    rw [List.getLast?_cons_cons]
    revert i2
    cases (y :: l).getLast? with
    | none => simp
    | some z => simp only [List.length_cons]; intro i2; omega
theorem za2 {s : State} (h : isSt s = true) : chainE s.tail s.log = true:=by
 unfold isSt at h
 simp only [Bool.and_eq_true] at h
 exact h.2.2.2.2.2
theorem zjh {s : State} (ho : stOk s) (h : isSt s = true) : (lastE s).n = s.tail.n + s.log.length ∧ (lastE s).n < 4294967296:=by
 obtain ⟨_,h2,h3⟩:=zb0 ho.n (za2 h)
 unfold lastE
 revert h2
 cases hg : s.log.getLast? with
 | none =>
  intro h2
  simp only at h2 ⊢
  have:=ho.n
  omega
 | some e => intro h2; simp only at h2 ⊢; omega
theorem zbp {s : State} (ho : stOk s) (h : isSt s = true) {n : Int} {k : Nat} (hp : placeS s n = some k) : n = s.tail.n + k ∧ k ≤ s.log.length:=by
 unfold placeS at hp
 have hl:=zjh ho h
 split at hp
 ·simp at hp
 ·rename_i hc
  simp only [not_or,Int.not_lt] at hc
  injection hp with hp
  have : IntKind.u32.wrap (n - s.tail.n) = n - s.tail.n:=by have:=ho.n; unfold IntKind.wrap; simp [IntKind.signed,IntKind.bits]; omega
  rw [this] at hp
  omega
theorem place_is {s : State} (ho : stOk s) (h : isSt s = true) {k : Nat} (hk : k ≤ s.log.length) : placeS s (s.tail.n + k) = some k:=by
 unfold placeS
 have hl:=zjh ho h
 rw [if_neg (by omega)]
 have:=ho.n
 have hl6:=zay h
 congr 1
 have : IntKind.u32.wrap (s.tail.n + k - s.tail.n) = (k : Int):=by unfold IntKind.wrap; simp [IntKind.signed,IntKind.bits]; omega
 rw [this]; omega

/-- The place of a number in a state that may be. -/
def plS (s : State) (n : Int) : Option Nat:=if isSt s = true then placeS s n else none
def uptoS (s : State) (n : Int) : Base × Bool:=match plS s n with
 | some k => ((foldedS s k).base,true)
 | none => (Base.zero,false)
theorem upto_at (s : State) (n : Int) (ho : stOk s) : evF C F_q35 [.d (.agg s.cs),.d (.i .u32 n)] [] = some (.tup [.d (.agg (uptoS s n).1.cs),.d (.b (uptoS s n).2)],[]):=by
 rw [zaa (rfl : C F_q35 = some a_q35) _ _ rfl]
 have hi:=is_st s
 unfold uptoS plS
 by_cases c : isSt s = true
 case neg =>
  rw [if_neg c]
  have c:=eq_false_of_ne_true c
  simp +decide only [c_q35,hi,c,Pk.EVL,Pk.EVD,↓reduceIte,Nat.reduceAdd,Pk.TY_State,Pk.TY_Base]
 rw [if_pos c]
 have hl:=zay c
 have hp:=zgl s n (by omega)
 cases hk : placeS s n with
 | none =>
  rw [hk] at hp
  simp only [optI] at hp
  simp +decide only [c_q35,hi,c,hp,Pk.EVL,Pk.EVD,↓reduceIte,Nat.reduceAdd,Int.reduceNeg,Pk.TY_State,Pk.TY_Base]
 | some k =>
  rw [hk] at hp
  simp only [optI] at hp
  obtain ⟨_,hkl⟩:=zbp ho c hk
  have hfo:=ziu s k hkl (by omega) (zgg c) ho.log
  have h0 : decide ((k : Int) < 0) = false:=by simp
  simp +decide only [c_q35,hi,c,hp,hfo,h0,Pk.EVL,Pk.EVD,↓reduceIte,Nat.reduceAdd,Nat.reduceLeDiff,Pk.TY_State,Pk.TY_Base]
def cutS (s : State) (n : Int) : State × Int:=if isSt s = true then (match placeS s n with
 | some k => ({ s with log:=s.log.take k },0)
 | none => (State.zero,141)) else (State.zero,10)
theorem cut_at (s : State) (n : Int) (ho : stOk s) : evF C F_q2z [.d (.agg s.cs),.d (.i .u32 n)] [] = some (.tup [.d (.agg (cutS s n).1.cs),.d (.i .i64 (cutS s n).2)],[]):=by
 rw [zaa (rfl : C F_q2z = some a_q2z) _ _ rfl]
 have hi:=is_st s
 unfold cutS
 by_cases c : isSt s = true
 case neg =>
  rw [if_neg c]
  have c:=eq_false_of_ne_true c
  simp +decide only [c_q2z,hi,c,Pk.EVL,Pk.EVD,↓reduceIte,Nat.reduceAdd,Pk.TY_State]
 rw [if_pos c]
 have hl:=zay c
 have hp:=zgl s n (by omega)
 cases hk : placeS s n with
 | none =>
  rw [hk] at hp
  simp only [optI] at hp
  simp +decide only [c_q2z,hi,c,hp,Pk.EVL,Pk.EVD,↓reduceIte,Nat.reduceAdd,Int.reduceNeg,Pk.TY_State]
 | some k =>
  rw [hk] at hp
  simp only [optI] at hp
  obtain ⟨_,hkl⟩:=zbp ho c hk
  have h0 : decide ((k : Int) < 0) = false:=by simp
  have b1 : (0 ≤ (k : Int)) = True:=by simp
  have b2 : ((k : Int) ≤ ((s.log.length : Nat) : Int)) = True:=by simp; omega
  have htk : List.take k (s.log.map Entry.d) = (s.log.take k).map Entry.d:=by rw [List.map_take]
  have hlk : (s.log.take k).length = k:=by rw [List.length_take]; omega
  have hcl:=zgj (s.log.take k) (by unfold LIM; omega)
  rw [hlk] at hcl
  have htk2 : List.take k ((s.log.take k).map Entry.d) = (s.log.take k).map Entry.d:=List.take_of_length_le (by simp; omega)
  have hsb2 : subL ((s.log.take k).map Entry.d) 0 k = (s.log.take k).map Entry.d:=htk2
  simp +decide only [c_q2z,hi,c,hp,h0,b1,b2,htk,hlk,hcl,htk2,hsb2,or_true,Pk.EVL,Pk.EVD,↓reduceIte,Nat.reduceAdd,Nat.reduceBNe,Pk.TY_State,Pk.TY_Entry]
def tailS (s : State) (n : Int) : State × Int:=if isSt s = true then (if n < s.tail.n then (State.zero,80) else match placeS s n with
 | some k => (foldedS s k,0)
 | none => (State.zero,141)) else (State.zero,10)
theorem tail_at (s : State) (n : Int) (ho : stOk s) : evF C F_q34 [.d (.agg s.cs),.d (.i .u32 n)] [] = some (.tup [.d (.agg (tailS s n).1.cs),.d (.i .i64 (tailS s n).2)],[]):=by
 rw [zaa (rfl : C F_q34 = some a_q34) _ _ rfl]
 have hi:=is_st s
 unfold tailS
 by_cases c : isSt s = true
 case neg =>
  rw [if_neg c]
  have c:=eq_false_of_ne_true c
  simp +decide only [c_q34,hi,c,Pk.EVL,Pk.EVD,↓reduceIte,Nat.reduceAdd,Pk.TY_State]
 rw [if_pos c]
 by_cases cn : n < s.tail.n
 ·rw [if_pos cn]
  have cn:=decide_eq_true cn
  simp +decide only [c_q34,hi,c,cn,Pk.EVL,Pk.EVD,↓reduceIte,Nat.reduceAdd,Pk.TY_State]
 rw [if_neg cn]
 have cn:=decide_eq_false cn
 have hl:=zay c
 have hp:=zgl s n (by omega)
 cases hk : placeS s n with
 | none =>
  rw [hk] at hp
  simp only [optI] at hp
  simp +decide only [c_q34,hi,c,cn,hp,Pk.EVL,Pk.EVD,↓reduceIte,Nat.reduceAdd,Int.reduceNeg,Pk.TY_State]
 | some k =>
  rw [hk] at hp
  simp only [optI] at hp
  obtain ⟨_,hkl⟩:=zbp ho c hk
  have hfo:=ziu s k hkl (by omega) (zgg c) ho.log
  have h0 : decide ((k : Int) < 0) = false:=by simp
  simp +decide only [c_q34,hi,c,cn,hp,hfo,h0,Pk.EVL,Pk.EVD,↓reduceIte,Nat.reduceAdd,Pk.TY_State]
def findS (s : State) (n : Int) : Entry × Bool:=match plS s n with
 | some (k + 1) => match s.log[k]? with
  | some e => (e,true)
  | none => (Entry.zero,false)
 | _ => (Entry.zero,false)
theorem find_at (s : State) (n : Int) (ho : stOk s) : evF C F_q30 [.d (.agg s.cs),.d (.i .u32 n)] [] = some (.tup [.d (.agg (findS s n).1.cs),.d (.b (findS s n).2)],[]):=by
 rw [zaa (rfl : C F_q30 = some a_q30) _ _ rfl]
 have hi:=is_st s
 have hz : Entry.zero = (⟨0,0,⟨0,0,0,0,0,⟨#[]⟩⟩⟩ : Entry):=rfl
 unfold findS plS
 by_cases c : isSt s = true
 case neg =>
  rw [if_neg c]
  have c:=eq_false_of_ne_true c
  simp +decide only [c_q30,hi,c,hz,Pk.EVL,Pk.EVD,↓reduceIte,Nat.reduceAdd,Pk.TY_State,Pk.TY_Entry]
 rw [if_pos c]
 have hl:=zay c
 have hp:=zgl s n (by omega)
 have hln:=zjh ho c
 cases hk : placeS s n with
 | none =>
  rw [hk] at hp
  simp only [optI] at hp
  have hi1 : decide ((-1 : Int) < 1) = true:=by decide
  rcases Bool.eq_false_or_eq_true (decide (n ≤ s.tail.n)) with cn | cn <;>
   simp +decide only [c_q30,hi,c,cn,hp,hz,Pk.EVL,Pk.EVD,↓reduceIte,Nat.reduceAdd,Int.reduceNeg,Pk.TY_State,Pk.TY_Entry]
 | some k =>
  rw [hk] at hp
  simp only [optI] at hp
  obtain ⟨hnk,hkl⟩:=zbp ho c hk
  cases k with
  | zero =>
   have cn : decide (n ≤ s.tail.n) = true:=by simp; omega
   simp +decide only [c_q30,hi,c,cn,hz,Pk.EVL,Pk.EVD,↓reduceIte,Nat.reduceAdd,Pk.TY_State,Pk.TY_Entry]
  | succ k =>
   have cn : decide (n ≤ s.tail.n) = false:=by simp; omega
   have h0 : decide (((k + 1 : Nat) : Int) < 1) = false:=by simp; omega
   have hw : IntKind.i64.wrap (((k + 1 : Nat) : Int) - 1) = (k : Int):=by rw [show ((k + 1 : Nat) : Int) - 1 = (k : Int) by omega]; exact wi64 (by omega)
   obtain ⟨e,he⟩ : ∃ e,s.log[k]? = some e:=⟨s.log[k]'(by omega),List.getElem?_eq_getElem _⟩
   have hx:=zae Entry.d he
   have b1 : (0 ≤ (k : Int)) = True:=by simp
   simp only [he]
   simp +decide only [c_q30,hi,c,cn,hp,h0,hw,hx,b1,Pk.EVL,Pk.EVD,↓reduceIte,Nat.reduceAdd,Pk.TY_State,Pk.TY_Entry]
end Go.Proofs.YthlpognahlnaaaaGreat
