/- choose.Best,choose.Started. / What a plan costs; what all become by it. -/
import Derived.Test.YthlpognahlnaaaaGreatPkEvd
import Derived.Test.YthlpognahlnaaaaGreatHrB
import Derived.Test.YthlpognahlnaaaaGreatPgD
import Derived.Test.YthlpognahlnaaaaGreatObjR
set_option linter.all false
namespace Go.Proofs.YthlpognahlnaaaaGreat
open Pv Go Pk
set_option maxRecDepth 10000
set_option maxHeartbeats 4000000
/-- The place of the first state of which it holds. -/
def ixS (pr : State → Bool) : List State → Nat → Int
 | [],_ => -1
 | x :: r,i => if pr x then (i : Int) else ixS pr r (i + 1)
theorem ixS_any (pr : State → Bool) : ∀ (A : List State) (i : Nat),decide (ixS pr A i ≥ 0) = A.any pr
 | [],_ => rfl
 | x :: r,i => by
  rw [List.any_cons]
  unfold ixS
  cases h : pr x with
  | true => simp
  | false => simpa using ixS_any pr r (i + 1)
theorem ixS_drop {pr : State → Bool} {A : List State} {i : Nat} {y : State} (hy : A[i]? = some y) : ixS pr (A.drop i) i = if pr y then (i : Int) else ixS pr (A.drop (i + 1)) (i + 1):=by
 have hi:=(List.getElem?_eq_some_iff.1 hy).1
 rw [List.drop_eq_getElem_cons hi,(List.getElem?_eq_some_iff.1 hy).2]
 rfl
theorem zoj (F : FuncId) (pr : State → Bool) (B : List State) (hB : B.length ≤ 1000) (H : Heap) (hcall : ∀ x ∈ B,evF C F [.d (.agg x.cs)] [] = some (.d (.b (pr x)),[])) :
  evF C F_q43 [.d (.sl (B.map State.d)),.fn F [] []] H = some (.d (.b (B.any pr)),H):=by
 have hidx : evF C F_q4b [.d (.sl (B.map State.d)),.fn F [] []] H = some (.d (.i .i64 (ixS pr B 0)),H):=by
  have hl : (B.map State.d).length = B.length:=List.length_map _
  rw [zaa (rfl : C F_q4b = some a_q4b) _ _ rfl]
  simp +decide only [c_q4b,hl,thaws,Pk.EVL,Pk.EVD,↓reduceIte,Nat.reduceAdd,Int.reduceNeg]
  simp only [Option.bind_assoc]
  refine zaf (zac (fun i T G => lk T 0 = .d (.sl (B.map State.d)) ∧ lk T 1 = .fn F [] [] ∧ lk T 7 = .d (.i .i64 (B.length : Nat)) ∧ lk T 8 = .d (.i .i64 (i : Nat)) ∧ G = H ∧ ixS pr (B.drop i) i = ixS pr B 0)
   (fun x T G => G = H ∧ ((x = .exit 0 ∧ ixS pr B 0 = -1) ∨ (x = .ret ∧ lk T 4 = .d (.i .i64 (ixS pr B 0))))) B.length ?_ ?_ B.length 0 _ _ (by omega) ⟨rfl,rfl,rfl,rfl,rfl,rfl⟩) ?_
  ·rintro i T G hi ⟨h0, h1, h7, h8, rfl, hni⟩
   obtain ⟨y,hy⟩ : ∃ y,B[i]? = some y:=⟨B[i]'hi,List.getElem?_eq_getElem _⟩
   have hyd:=zae State.d hy
   have hcl:=hcall y (List.mem_of_getElem? hy)
   rw [ixS_drop hy] at hni
   have hd : decide ((i : Int) < ((B.length : Nat) : Int)) = true:=by simp; omega
   have hw : IntKind.i64.wrap ((i : Int) + 1) = ((i + 1 : Nat) : Int):=wi64 (by omega)
   have b0 : (0 ≤ (i : Int)) = True:=by simp
   cases c : pr y with
   | true =>
    rw [c] at hcl
    rw [if_pos c] at hni
    rw [← hni]
    simp +decide only [zkd,zl2,h0,h1,h7,h8,hyd,hcl,hd,b0,ite_self,List.take_length,Pk.EVL,Pk.EVD,↓reduceIte,reduceCtorEq,Int.reduceNeg,Pk.TY_State]
    exact ⟨_,_,_,rfl,.inr ⟨by simp,rfl,rfl,rfl⟩⟩
   | false =>
    rw [c] at hcl
    rw [if_neg (by simp [c])] at hni
    simp +decide only [zkd,zl2,h0,h1,h7,h8,hyd,hcl,hd,hw,b0,ite_self,List.take_length,Pk.EVL,Pk.EVD,↓reduceIte,Int.reduceNeg,Pk.TY_State]
    exact ⟨_,_,_,rfl,.inl ⟨rfl,rfl,rfl,rfl,rfl,rfl,hni⟩⟩
  ·rintro T G ⟨h0, h1, h7, h8, rfl, hni⟩
   rw [List.drop_length] at hni
   have hd : decide (((B.length : Nat) : Int) < ((B.length : Nat) : Int)) = false:=by simp
   simp +decide only [zkd,zl2,h0,h1,h7,h8,ite_self,List.take_length,Pk.EVL,Pk.EVD,↓reduceIte,Int.reduceNeg]
   exact ⟨_,_,_,rfl,by simp,rfl,.inl ⟨rfl,hni.symm⟩⟩
  rintro x T G ⟨rfl,⟨rfl,h⟩ | ⟨rfl,h4⟩⟩
  ·simp +decide only [h,ite_self,List.take_length,Pk.EVL,Pk.EVD,↓reduceIte,Int.reduceNeg]
  ·simp +decide only [h4,ite_self,List.take_length,Pk.EVL,Pk.EVD,Int.reduceNeg]
 have hj:=ixS_any pr B 0
 rw [zaa (rfl : C F_q43 = some a_q43) _ _ rfl]
 simp +decide only [c_q43,hidx,hj,ite_self,List.take_length,Pk.EVL,Pk.EVD,↓reduceIte,Nat.reduceAdd]
theorem best1_at (s : State) : evF C F_q04 [.d (.agg s.cs)] [] = some (.d (.b (!isSt s)),[]):=by
 have hi:=is_st s
 rw [zaa (rfl : C F_q04 = some a_q04) _ _ rfl]
 simp +decide only [c_q04,hi,Pk.EVL,Pk.EVD,↓reduceIte,Pk.TY_State]
/-- A daemon's state as it counts: the daemon,when it started,the last entry's interval and number. -/
structure Cand where
 osd : Int
 started : Int
 since : Int
 n : Int
 deriving DecidableEq
def Cand.cs (c : Cand) : List DV:=[.i .i64 c.osd,.i .u32 c.started,.i .u32 c.since,.i .u32 c.n]
def beats (c d : Cand) : Bool :=
 if (c.started != d.started) = true then decide (c.started > d.started) else if (c.since != d.since) = true then decide (c.since > d.since) else if (c.n != d.n) = true then decide (c.n > d.n) else decide (c.osd < d.osd)
theorem beats_at (c d : Cand) : evF C F_q0a [.d (.agg c.cs),.d (.agg d.cs)] [] = some (.d (.b (beats c d)),[]):=by
 rw [zaa (rfl : C F_q0a = some a_q0a) _ _ rfl]
 unfold beats
 rcases Bool.eq_false_or_eq_true (c.started != d.started) with h1 | h1 <;> rcases Bool.eq_false_or_eq_true (c.since != d.since) with h2 | h2 <;> rcases Bool.eq_false_or_eq_true (c.n != d.n) with h3 | h3 <;>
  simp +decide only [c_q0a,Cand.cs,h1,h2,h3,Pk.EVL,Pk.EVD,↓reduceIte,Nat.reduceAdd]
def candOf (o : Int) (s : State) : Cand:=⟨o,s.started,(headS s).1,(headS s).2⟩
/-- The best so far: its place,and how it counts. -/
def bestFold (os : List Int) (L : List State) : Int × Cand:=((os.zip L).zipIdx).foldl (fun b x => if b.1 < 0 || beats (candOf x.1.1 x.1.2) b.2 then ((x.2 : Int),candOf x.1.1 x.1.2) else b) (-1,⟨0,0,0,0⟩)
def bestS (os : List Int) (L : List State) : Int:=if os.length ≠ L.length ∨ L.any (fun s => !isSt s) then -1 else (bestFold os L).1
theorem zb5 (os : List Int) (L : List State) (o : Int) (s : State) (h : os.length = L.length) : bestFold (os ++ [o]) (L ++ [s]) = if (bestFold os L).1 < 0 || beats (candOf o s) (bestFold os L).2 then ((L.length : Int),candOf o s) else bestFold os L:=by
 unfold bestFold
 rw [List.zip_append h,List.zipIdx_append,List.foldl_append]
 have : (os.zip L).length = L.length:=by rw [List.length_zip]; omega
 simp [this]
theorem zm8 (os : List Int) (L : List State) (h : os.length = L.length) : -1 ≤ (bestFold os L).1 ∧ (bestFold os L).1 < (L.length : Int):=by
 revert os
 refine zap (M:=fun L => ∀ os : List Int,os.length = L.length → -1 ≤ (bestFold os L).1 ∧ (bestFold os L).1 < (L.length : Int)) ?_ ?_ L
 ·intro os h
  have : os = []:=List.eq_nil_of_length_eq_zero h
  subst this
  decide
 ·intro L s ih os h
  obtain ⟨o,os',rfl⟩ : ∃ o os',os = os' ++ [o]:=by
   have hne : os ≠ []:=by intro hh; rw [hh] at h; simp at h
   exact ⟨os.getLast hne,os.dropLast,(List.dropLast_concat_getLast hne).symm⟩
  have hl : os'.length = L.length:=by simp at h; exact h
  rw [zb5 _ _ _ _ hl]
  have:=ih os' hl
  split
  ·rw [List.length_append]; simp; omega
  ·rw [List.length_append]; simp; omega
theorem cbest_at (os : List Int) (L : List State) (hL : L.length ≤ 1000) (ho : os.length ≤ 1000) : evF C F_q03 [.d (.sl (os.map fun x => .i .i64 x)),.d (.sl (L.map State.d))] [] = some (.d (.i .i64 (bestS os L)),[]):=by
 have hol : (os.map fun x : Int => DV.i .i64 x).length = os.length:=List.length_map _
 have hLl : (L.map State.d).length = L.length:=List.length_map _
 have hcf:=fun H => zoj F_q04 (fun s => !isSt s) L hL H (fun s _ => best1_at s)
 rw [zaa (rfl : C F_q03 = some a_q03) _ _ rfl]
 unfold bestS
 by_cases hne : os.length = L.length
 case neg =>
  have h1 : (((os.length : Nat) : Int) != ((L.length : Nat) : Int)) = true:=by simp; omega
  rw [if_pos (.inl hne)]
  simp +decide only [c_q03,hol,hLl,h1,Pk.EVL,Pk.EVD,↓reduceIte,Nat.reduceAdd,Int.reduceNeg]
 have h1 : (((os.length : Nat) : Int) != ((L.length : Nat) : Int)) = false:=by simp; omega
 cases ha : (L.any fun s => !isSt s) with
 | true =>
  rw [ha] at hcf
  rw [if_pos (.inr rfl)]
  simp +decide only [c_q03,hol,hLl,h1,hcf,Pk.EVL,Pk.EVD,↓reduceIte,Nat.reduceAdd,Int.reduceNeg]
 | false =>
  rw [ha] at hcf
  rw [if_neg (by simp [hne])]
  simp +decide only [c_q03,hol,hLl,h1,hcf,thaws,Pk.EVL,Pk.EVD,↓reduceIte,Nat.reduceAdd,Int.reduceNeg]
  simp only [Option.bind_assoc]
  refine zaf (zac (fun i T H => lk T 0 = .d (.sl (os.map fun x => .i .i64 x)) ∧ lk T 5 = .d (.i .i64 (bestFold (os.take i) (L.take i)).1) ∧ lk T 6 = .ptr 0 0 ∧ lk T 21 = .d (.sl (L.map State.d)) ∧ lk T 22 = .d (.i .i64 (L.length : Nat)) ∧ lk T 23 = .d (.i .i64 (i : Nat)) ∧ ∃ J,H = .box (.d (.agg (bestFold (os.take i) (L.take i)).2.cs)) :: J)
   (fun e T H => e = .exit 0 ∧ lk T 5 = .d (.i .i64 (bestFold os L).1)) L.length ?_ ?_ L.length 0 _ _ (by omega) ⟨rfl,rfl,rfl,rfl,rfl,rfl,[],rfl⟩) ?_
  ·rintro i T H hi ⟨h0, h5, h6, h21, h22, h23, J, rfl⟩
   obtain ⟨s,hs⟩ : ∃ s,L[i]? = some s:=⟨L[i]'hi,List.getElem?_eq_getElem _⟩
   obtain ⟨o,ho'⟩ : ∃ o,os[i]? = some o:=⟨os[i]'(by omega),List.getElem?_eq_getElem _⟩
   have hsd:=zae State.d hs
   have hod:=zae (fun x : Int => DV.i .i64 x) ho'
   have hh:=head_at s
   have hlt : (os.take i).length = (L.take i).length:=by rw [List.length_take,List.length_take]; omega
   have hil : (L.take i).length = i:=by rw [List.length_take]; omega
   rw [zag hs,zag ho',zb5 _ _ _ _ hlt,hil]
   have hb:=beats_at (candOf o s) (bestFold (os.take i) (L.take i)).2
   generalize bestFold (os.take i) (L.take i) = bb at *
   obtain ⟨b1,b2⟩:=bb
   simp only at hb h5 ⊢
   have hd : decide ((i : Int) < ((L.length : Nat) : Int)) = true:=by simp; omega
   have hw : IntKind.i64.wrap ((i : Int) + 1) = ((i + 1 : Nat) : Int):=wi64 (by omega)
   have b0 : (0 ≤ (i : Int)) = True:=by simp
   have hcc : ([.i .i64 o,.i .u32 s.started,.i .u32 (headS s).1,.i .u32 (headS s).2] : List DV) = (candOf o s).cs:=rfl
   have hcl : (candOf o s).cs.length = 4:=rfl
   have hcl2 : b2.cs.length = 4:=rfl
   have hsub : ∀ c : Cand,subL c.cs 0 4 = c.cs:=fun _ => rfl
   have hupd : ∀ c d : Cand,upd c.cs 0 d.cs = d.cs:=fun _ _ => rfl
   have hz4 : ([.i .i64 0,.i .u32 0,.i .u32 0,.i .u32 0] : List DV) = (Cand.mk 0 0 0 0).cs:=rfl
   have hcl4 : ∀ c : Cand,c.cs.length = 4:=fun _ => rfl
   rcases Bool.eq_false_or_eq_true (decide (b1 < 0)) with c1 | c1 <;> rcases Bool.eq_false_or_eq_true (beats (candOf o s) b2) with c2 | c2 <;>
    simp +decide only [zo3,zpz,h0,h5,h6,h21,h22,h23,hsd,hod,hh,hb,hd,hw,b0,hcc,hsub,hupd,hz4,hcl4,c1,c2,Pk.EVL,Pk.EVD,↓reduceIte,Nat.reduceAdd,Nat.reduceLeDiff,Pk.TY_State] <;>
    exact ⟨_,_,_,rfl,.inl ⟨rfl,rfl,rfl,rfl,rfl,rfl,rfl,_,rfl⟩⟩
  ·rintro T H ⟨h0, h5, h6, h21, h22, h23, J, rfl⟩
   rw [List.take_length,show os.take L.length = os by rw [← hne]; exact List.take_length] at h5
   have hd : decide (((L.length : Nat) : Int) < ((L.length : Nat) : Int)) = false:=by simp
   simp +decide only [zo3,zpz,h0,h5,h6,h21,h22,h23,Pk.EVL,Pk.EVD,↓reduceIte]
   exact ⟨_,_,_,rfl,by simp,rfl,rfl⟩
  rintro e T H ⟨rfl,h5⟩
  simp +decide only [h5,List.take_zero,Pk.EVL,Pk.EVD,↓reduceIte]
def startedS (L : List State) : Int:=L.foldl (fun n s => mmI true n s.started) 0
theorem zqr (L : List State) (hL : L.length ≤ 1000) : evF C F_q09 [.d (.sl (L.map State.d))] [] = some (.d (.i .u32 (startedS L)),[]):=by
 have hLl : (L.map State.d).length = L.length:=List.length_map _
 rw [zaa (rfl : C F_q09 = some a_q09) _ _ rfl]
 simp +decide only [c_q09,hLl,thaws,Pk.EVL,Pk.EVD,↓reduceIte]
 simp only [Option.bind_assoc]
 refine zaf (zac (fun i T H => lk T 3 = .d (.i .u32 (startedS (L.take i))) ∧ lk T 6 = .d (.sl (L.map State.d)) ∧ lk T 7 = .d (.i .i64 (L.length : Nat)) ∧ lk T 8 = .d (.i .i64 (i : Nat)))
  (fun e T H => e = .exit 0 ∧ lk T 3 = .d (.i .u32 (startedS L))) L.length ?_ ?_ L.length 0 _ _ (by omega) ⟨rfl,rfl,rfl,rfl⟩) ?_
 ·rintro i T H hi ⟨h3, h6, h7, h8⟩
  obtain ⟨s,hs⟩ : ∃ s,L[i]? = some s:=⟨L[i]'hi,List.getElem?_eq_getElem _⟩
  have hsd:=zae State.d hs
  have hd : decide ((i : Int) < ((L.length : Nat) : Int)) = true:=by simp; omega
  have hw : IntKind.i64.wrap ((i : Int) + 1) = ((i + 1 : Nat) : Int):=wi64 (by omega)
  have b0 : (0 ≤ (i : Int)) = True:=by simp
  have hst : startedS (L.take (i + 1)) = mmI true (startedS (L.take i)) s.started:=by rw [zag hs]; unfold startedS; rw [List.foldl_append]; rfl
  rw [hst]
  have tr : trim 0 (List.map (fun x => x.2) (keepT zkv T)) H = [] ∨ True:=.inr trivial
  generalize startedS (L.take i) = n at *
  simp +decide only [zkv,zqt,h3,h6,h7,h8,hsd,hd,hw,b0,List.take_zero,Pk.EVL,Pk.EVD,↓reduceIte,Pk.TY_State]
  exact ⟨_,_,_,rfl,.inl ⟨rfl,rfl,rfl,rfl,rfl⟩⟩
 ·rintro T H ⟨h3, h6, h7, h8⟩
  rw [List.take_length] at h3
  have hd : decide (((L.length : Nat) : Int) < ((L.length : Nat) : Int)) = false:=by simp
  simp +decide only [zkv,zqt,h3,h6,h7,h8,List.take_zero,Pk.EVL,Pk.EVD,↓reduceIte]
  exact ⟨_,_,_,rfl,by simp,rfl,rfl⟩
 rintro e T H ⟨rfl,h3⟩
 simp +decide only [h3,List.take_zero,Pk.EVL,Pk.EVD,↓reduceIte]
end Go.Proofs.YthlpognahlnaaaaGreat

namespace Go.Proofs.YthlpognahlnaaaaGreat
open Pv Go Pk
set_option maxRecDepth 10000
set_option maxHeartbeats 4000000
def costD (l : List Diff) : Nat:=(l.map bytesD).sum
theorem zi9 (l : List Diff) (d : Diff) : costD (l ++ [d]) = costD l + bytesD d:=by unfold costD; simp
theorem zhz {d : Diff} (h : d.log.length ≤ 1000 ∧ d.whole.log.length ≤ 1000) : bytesD d ≤ 2006:=by
 have:=ze0 d.whole.base 6
 unfold bytesD
 omega
theorem zlc : ∀ {l : List Diff},(∀ d ∈ l,d.log.length ≤ 1000 ∧ d.whole.log.length ≤ 1000) → costD l ≤ 2006 * l.length
 | [],_ => Nat.le_refl _
 | d :: l,h => by
  have h1:=zhz (h d (by simp))
  have h2:=zlc (l:=l) fun x hx => h x (by simp [hx])
  have : costD (d :: l) = bytesD d + costD l:=by unfold costD; simp
  rw [this,List.length_cons]
  omega
theorem zr7 (p : Plan) (hl : p.diffs.length ≤ 1000) (hd : ∀ d ∈ p.diffs,d.log.length ≤ 1000 ∧ d.whole.log.length ≤ 1000) : evF C F_q3j [.d (.agg p.cs)] [] = some (.d (.i .i64 (costD p.diffs : Nat)),[]):=by
 have hDl : (p.diffs.map Diff.d).length = p.diffs.length:=List.length_map _
 rw [zaa (rfl : C F_q3j = some a_q3j) _ _ rfl]
 simp +decide only [c_q3j,hDl,Pk.EVL,Pk.EVD,↓reduceIte,Pk.TY_Plan]
 simp only [Option.bind_assoc]
 refine zaf (zac (fun i T H => lk T 3 = .d (.i .i64 (costD (p.diffs.take i) : Nat)) ∧ lk T 7 = .d (.sl (p.diffs.map Diff.d)) ∧ lk T 8 = .d (.i .i64 (p.diffs.length : Nat)) ∧ lk T 9 = .d (.i .i64 (i : Nat)) ∧ ∃ J,H = .box (.d (.agg p.cs)) :: J)
  (fun e T H => e = .exit 0 ∧ lk T 3 = .d (.i .i64 (costD p.diffs : Nat))) p.diffs.length ?_ ?_ p.diffs.length 0 _ _ (by omega) ⟨rfl,rfl,rfl,rfl,[],rfl⟩) ?_
 ·rintro i T H hi ⟨h3, h7, h8, h9, J, rfl⟩
  obtain ⟨d,hdi⟩ : ∃ d,p.diffs[i]? = some d:=⟨p.diffs[i]'hi,List.getElem?_eq_getElem _⟩
  have hx:=zae Diff.d hdi
  have hm:=hd d (List.mem_of_getElem? hdi)
  have hb:=bytes_at d hm.1 hm.2
  have hle:=zlc (l:=p.diffs.take i) fun x hx => hd x (List.mem_of_mem_take hx)
  have htl : (p.diffs.take i).length = i:=by rw [List.length_take]; omega
  have hble:=zhz hm
  rw [zag hdi,zi9]
  have hdl : decide ((i : Int) < ((p.diffs.length : Nat) : Int)) = true:=by simp; omega
  have hw : IntKind.i64.wrap ((i : Int) + 1) = ((i + 1 : Nat) : Int):=wi64 (by omega)
  have hw2 : IntKind.i64.wrap (((costD (p.diffs.take i) : Nat) : Int) + ((bytesD d : Nat) : Int)) = ((costD (p.diffs.take i) + bytesD d : Nat) : Int):=wi64 (by omega)
  have b0 : (0 ≤ (i : Int)) = True:=by simp
  simp +decide only [zq7,zqp,h3,h7,h8,h9,hx,hb,hdl,hw,hw2,b0,List.take_zero,Pk.EVL,Pk.EVD,↓reduceIte,Nat.reduceAdd,Pk.TY_Diff]
  exact ⟨_,_,_,rfl,.inl ⟨rfl,rfl,rfl,rfl,rfl,_,rfl⟩⟩
 ·rintro T H ⟨h3, h7, h8, h9, J, rfl⟩
  rw [List.take_length] at h3
  have hdl : decide (((p.diffs.length : Nat) : Int) < ((p.diffs.length : Nat) : Int)) = false:=by simp
  simp +decide only [zq7,zqp,h3,h7,h8,h9,List.take_zero,Pk.EVL,Pk.EVD,↓reduceIte]
  exact ⟨_,_,_,rfl,by simp,rfl,rfl⟩
 rintro e T H ⟨rfl,h3⟩
 simp +decide only [h3,List.take_zero,Pk.EVL,Pk.EVD,↓reduceIte]
/-- What all become,where all differences fit. -/
def doneL (since : Int) (L : List State) (D : List Diff) : List State:=List.zipWith (fun s d => { (applyM s d).1 with started:=since }) L D
theorem znb (since : Int) (L : List State) (D : List Diff) (h : D.length = L.length) : (doneL since L D).length = L.length:=by unfold doneL; rw [List.length_zipWith]; omega
theorem zs3 (since : Int) {L : List State} {D : List Diff} {i : Nat} {s : State} {d : Diff} (hs : L[i]? = some s) (hd : D[i]? = some d) :
  doneL since (L.take (i + 1)) (D.take (i + 1)) = doneL since (L.take i) (D.take i) ++ [{ (applyM s d).1 with started:=since }]:=by
 have hi1:=(List.getElem?_eq_some_iff.1 hs).1
 have hi2:=(List.getElem?_eq_some_iff.1 hd).1
 rw [zag hs,zag hd]
 unfold doneL
 rw [List.zipWith_append (by rw [List.length_take,List.length_take]; omega)]
 rfl
section
variable {G : Heap} {m : Nat} (hG : G.length = m) (hGa : ∀ k,G.all (ltO (m + k)) = true)
include hG hGa
theorem zq8 (p : Plan) (os : List Int) (L : List State) (since : Int) (hno : os.length ≠ L.length ∨ p.diffs.length ≠ L.length ∨ p.blocked = true) :
  evF C F_q3k [.d (.agg p.cs),.d (.sl (os.map fun x => .i .i64 x)),.d (.sl (L.map State.d)),.d (.i .u32 since)] G = some (.tup [.d (.sl []),.d (.i .i64 80)],G):=by
 have hDl : (p.diffs.map Diff.d).length = p.diffs.length:=List.length_map _
 have hol : (os.map fun x : Int => DV.i .i64 x).length = os.length:=List.length_map _
 have hLl : (L.map State.d).length = L.length:=List.length_map _
 have a1:=hr_at hG
 have a0:=zbm hG
 have b1:=zb2 hG
 have b0:=zbc hG
 have l0:=zbb hG
 have p0 : ∀ Z,G ++ Z = hr G Z:=fun _ => rfl
 have t0 : ∀ Z,List.take m (hr G Z) = G:=fun Z => by unfold hr; exact List.take_left' hG
 have al0 : G.all (ltO m) = true:=hGa 0
 rw [za3 (rfl : C F_q3k = some f_q3k) _ _ [.d (.agg p.cs),.d (.sl (os.map fun x => .i .i64 x)),.d (.sl (L.map State.d)),.d (.i .u32 since)] G rfl rfl]
 rcases Bool.eq_false_or_eq_true (((os.length : Nat) : Int) != ((L.length : Nat) : Int)) with c1 | c1
 ·simp +decide only [c_q3k,hol,hLl,c1,hG,l0,p0,t0,al0,Pk.EVL,Pk.EVD,↓reduceIte,Nat.reduceAdd]
 have d1 : os.length = L.length:=by have:=(bne_eq_false_iff_eq).1 c1; omega
 rcases Bool.eq_false_or_eq_true (((p.diffs.length : Nat) : Int) != ((L.length : Nat) : Int)) with c2 | c2
 ·simp +decide only [c_q3k,hDl,hol,hLl,c1,c2,hG,a0,l0,p0,t0,al0,Pk.EVL,Pk.EVD,↓reduceIte,Nat.reduceAdd,Pk.TY_Plan]
 have d2 : p.diffs.length = L.length:=by have:=(bne_eq_false_iff_eq).1 c2; omega
 rcases hno with h | h | h
 ·exact absurd d1 h
 ·exact absurd d2 h
 ·simp +decide only [c_q3k,hDl,hol,hLl,c1,c2,h,hG,a0,l0,p0,t0,al0,Pk.EVL,Pk.EVD,↓reduceIte,Nat.reduceAdd,Pk.TY_Plan]
theorem rdone_at (p : Plan) (os : List Int) (L : List State) (since : Int) (hL : L.length ≤ 1000) (h1 : os.length = L.length) (h2 : p.diffs.length = L.length) (h3 : p.blocked = false)
  (ha : ∀ s ∈ L,stOk s) (hd : ∀ d ∈ p.diffs,(∀ e ∈ d.log,e.op.ok) ∧ d.log.length ≤ 1000)
  (hok : ∀ (i : Nat) (s : State) (d : Diff),L[i]? = some s → p.diffs[i]? = some d → (applyM s d).2 = 0) :
  evF C F_q3k [.d (.agg p.cs),.d (.sl (os.map fun x => .i .i64 x)),.d (.sl (L.map State.d)),.d (.i .u32 since)] G = some (.tup [.d (.sl ((doneL since L p.diffs).map State.d)),.d (.i .i64 0)],G):=by
 have hDl : (p.diffs.map Diff.d).length = p.diffs.length:=List.length_map _
 have hol : (os.map fun x : Int => DV.i .i64 x).length = os.length:=List.length_map _
 have hLl : (L.map State.d).length = L.length:=List.length_map _
 have c1 : (((os.length : Nat) : Int) != ((L.length : Nat) : Int)) = false:=by rw [bne_eq_false_iff_eq]; omega
 have c2 : (((p.diffs.length : Nat) : Int) != ((L.length : Nat) : Int)) = false:=by rw [bne_eq_false_iff_eq]; omega
 have a1:=hr_at hG
 have a0:=zbm hG
 have b1:=zb2 hG
 have b0:=zbc hG
 have l0:=zbb hG
 have p0 : ∀ Z,G ++ Z = hr G Z:=fun _ => rfl
 have t0 : ∀ Z,List.take m (hr G Z) = G:=fun Z => by unfold hr; exact List.take_left' hG
 have al0 : G.all (ltO m) = true:=hGa 0
 have t2:=za9 hG
 have m1 : (m < m + 2) = True:=eq_true (by omega)
 have m2 : (m + 1 < m + 2) = True:=eq_true (by omega)
 have m3 : (m + 3 != m + 2) = true:=by simp
 have m4 : (m + 3 != m) = true:=by simp
 have al2 : ∀ b es,(hr G [.box (.d b),.arr es true]).all (ltO (m + 2)) = true:=fun b es => by rw [zaw,hGa]; rfl
 rw [za3 (rfl : C F_q3k = some f_q3k) _ _ [.d (.agg p.cs),.d (.sl (os.map fun x => .i .i64 x)),.d (.sl (L.map State.d)),.d (.i .u32 since)] G rfl rfl]
 simp +decide only [c_q3k,hDl,hol,hLl,c1,c2,h3,hG,a0,l0,p0,zao,thaws,thaw,Pk.EVL,Pk.EVD,↓reduceIte,Nat.reduceAdd,Pk.TY_Plan]
 simp only [Option.bind_assoc]
 refine zaf (zac (fun i T H => lk T 3 = .d (.i .u32 since) ∧ lk T 4 = .ptr m 0 ∧ lk T 10 = .view (m + 1) i 49 0 i ∧ lk T 32 = .d (.sl (L.map State.d)) ∧ lk T 33 = .d (.i .i64 (L.length : Nat)) ∧ lk T 34 = .d (.i .i64 (i : Nat)) ∧ ∃ J,H = hr G (.box (.d (.agg p.cs)) :: .arr ((doneL since (L.take i) (p.diffs.take i)).map State.d) true :: J))
  (fun e T H => e = .exit 0 ∧ lk T 10 = .view (m + 1) L.length 49 0 L.length ∧ H = hr G [.box (.d (.agg p.cs)),.arr ((doneL since L p.diffs).map State.d) true]) L.length ?_ ?_ L.length 0 _ _ (by omega) ⟨rfl,rfl,rfl,rfl,rfl,rfl,[],rfl⟩) ?_
 ·rintro i T H hi ⟨g3, g4, g10, g32, g33, g34, J, rfl⟩
  obtain ⟨s,hs⟩ : ∃ s,L[i]? = some s:=⟨L[i]'hi,List.getElem?_eq_getElem _⟩
  obtain ⟨d,hdi⟩ : ∃ d,p.diffs[i]? = some d:=⟨p.diffs[i]'(by omega),List.getElem?_eq_getElem _⟩
  have hx:=zae Diff.d hdi
  have hsd:=zae State.d hs
  have hm:=hd d (List.mem_of_getElem? hdi)
  have hap:=apply_at s d (ha s (List.mem_of_getElem? hs)) hm.1 (fun _ => trivial) (by omega)
  rw [hok i s d hs hdi] at hap
  rw [zs3 since hs hdi]
  have hel : ((doneL since (L.take i) (p.diffs.take i)).map State.d).length = i:=by
   rw [List.length_map,znb _ _ _ (by rw [List.length_take,List.length_take]; omega),List.length_take]; omega
  generalize doneL since (L.take i) (p.diffs.take i) = E at *
  generalize (applyM s d).1 = R at *
  have hdl : decide ((i : Int) < ((L.length : Nat) : Int)) = true:=by simp; omega
  have hw : IntKind.i64.wrap ((i : Int) + 1) = ((i + 1 : Nat) : Int):=wi64 (by omega)
  have x0 : (0 ≤ (i : Int)) = True:=by simp
  have x1 : ((i : Int) < ((L.length : Nat) : Int)) = True:=eq_true (by omega)
  have hlim : (i + 1 ≤ LIM) = True:=eq_true (by unfold LIM; omega)
  have n0 : ((0 : Int) != 0) = false:=by decide
  simp +decide only [zqo,zq3,g3,g4,g10,g32,g33,g34,hx,hsd,hap,hel,hw,x0,x1,hlim,n0,a1,a0,b1,l0,t2,al2,m1,m2,m3,m4,zao,elems,Int.toNat_natCast,Pk.EVL,Pk.EVD,↓reduceIte,Nat.reduceAdd,Nat.reduceLeDiff,Pk.TY_Plan,Pk.TY_State,Pk.TY_Diff]
  refine ⟨_,_,_,rfl,.inl ⟨rfl,rfl,rfl,rfl,rfl,rfl,rfl,?_⟩⟩
  rw [List.map_append]
  exact ⟨_,rfl⟩
 ·rintro T H ⟨g3, g4, g10, g32, g33, g34, J, rfl⟩
  rw [List.take_length,show p.diffs.take L.length = p.diffs by rw [← h2]; exact List.take_length]
  have hdl : decide (((L.length : Nat) : Int) < ((L.length : Nat) : Int)) = false:=by simp
  simp +decide only [zqo,zq3,g3,g4,g10,g32,g33,g34,t2,al2,m1,m2,Pk.EVL,Pk.EVD,↓reduceIte]
  exact ⟨_,_,_,rfl,by simp,rfl,rfl,rfl⟩
 rintro e T H ⟨rfl,g10,rfl⟩
 have hel : ((doneL since L p.diffs).map State.d).length = L.length:=by rw [List.length_map,znb _ _ _ h2]
 generalize (doneL since L p.diffs).map State.d = E at *
 have k0 : List.take L.length E = E:=List.take_of_length_le (by omega)
 have s0 : subL E 0 L.length = E:=by unfold subL; rw [List.drop_zero]; exact k0
 simp +decide only [g10,hel,s0,a1,b1,l0,t0,al0,Nat.zero_add,Pk.EVL,Pk.EVD,↓reduceIte,Nat.reduceAdd]
end
end Go.Proofs.YthlpognahlnaaaaGreat
