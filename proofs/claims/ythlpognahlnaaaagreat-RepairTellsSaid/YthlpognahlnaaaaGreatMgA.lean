/- Differences of states: what makes one state of another. -/
import Derived.Test.YthlpognahlnaaaaGreatPkEvd
import Derived.Test.YthlpognahlnaaaaGreatPgF
set_option linter.all false
namespace Go.Proofs.YthlpognahlnaaaaGreat
open Pv Go Pk
set_option maxRecDepth 10000
set_option maxHeartbeats 2000000
def headM (s : State) : State:=⟨s.started,Base.zero,s.tail,[]⟩
theorem mhead_at (s : State) : evF C F_q1b [.d (.agg s.cs)] [] = some (.d (.agg (headM s).cs),[]):=by
 rw [zaa (rfl : C F_q1b = some a_q1b) _ _ rfl]
 have h1 : ∀ x : AV,(upd State.zeroA 0 [x]).length = 49:=fun x => rfl
 have h2 : upd (upd State.zeroA 0 [.d (.i .u32 s.started)]) 40 (List.map AV.d s.tail.cs) = State.withV (headM s) .nilS:=rfl
 have h3 : allD (State.withV (headM s) .nilS) = none:=rfl
 have h4 : (State.cs (headM s)).take 48 ++ [.sl []] = State.cs (headM s):=rfl
 simp +decide only [c_q1b,h1,h2,h3,h4,Pk.EVL,Pk.EVD,↓reduceIte,Nat.reduceAdd,Nat.reduceLeDiff,Pk.TY_State,Pk.TY_Entry]
theorem copy_at (s : State) (hl : s.log.length ≤ 1000) : evF C F_q2y [.d (.agg s.cs)] [] = some (.d (.agg s.cs),[]):=by
 rw [zaa (rfl : C F_q2y = some a_q2y) _ _ rfl]
 have b0 : (0 ≤ ((s.log.length : Nat) : Int)) = True:=by simp
 have b1 : (((s.log.length : Nat) : Int) ≤ ((LIM : Nat) : Int)) = True:=by
  have : ((s.log.length : Nat) : Int) ≤ ((LIM : Nat) : Int):=by unfold LIM; omega
  simp [this]
 have hrl : ∀ z : DV,(List.replicate s.log.length z).length = s.log.length:=fun z => List.length_replicate
 have hall:=Entry.all_cells s.log
 have htk : List.take s.log.length (s.log.map Entry.d) = s.log.map Entry.d:=List.take_of_length_le (by simp)
 have hsb : subL (s.log.map Entry.d) 0 s.log.length = s.log.map Entry.d:=htk
 have hup : ∀ z : DV,upd (List.replicate s.log.length z) 0 (s.log.map Entry.d) = s.log.map Entry.d:=fun z => by
  unfold upd
  simp
 have heta : ({ s with log:=s.log } : State) = s:=rfl
 simp +decide only [c_q2y,b0,b1,hrl,hall,htk,hsb,hup,Nat.min_self,elems,Pk.EVL,Pk.EVD,↓reduceIte,Nat.reduceAdd,Pk.TY_State,Pk.TY_Entry]
/-- Whether one state has another one's tail,with its base. -/
def standsM (a b : State) : Bool :=
 (uptoS a b.tail.n).2 && (decide ((if (findS a b.tail.n).2 = true then (⟨(findS a b.tail.n).1.since,(findS a b.tail.n).1.n,⟨0,0,0,0,0,⟨#[]⟩⟩⟩ : Entry) else a.tail) = b.tail) && decide ((uptoS a b.tail.n).1 = b.base))
theorem stands_at (a b : State) (ha : stOk a) : evF C F_q1c [.d (.agg a.cs),.d (.agg b.cs)] [] = some (.d (.b (standsM a b)),[]):=by
 rw [zaa (rfl : C F_q1c = some a_q1c) _ _ rfl]
 have h1:=find_at a b.tail.n ha
 have h2:=upto_at a b.tail.n ha
 unfold standsM
 generalize findS a b.tail.n = F at *
 generalize uptoS a b.tail.n = U at *
 obtain ⟨f,fo⟩:=F
 obtain ⟨u,uo⟩:=U
 simp only at h1 h2 ⊢
 cases fo with
 | true =>
  rw [if_pos rfl]
  cases uo with
  | true =>
   rcases Bool.eq_false_or_eq_true (decide ((⟨f.since,f.n,⟨0,0,0,0,0,⟨#[]⟩⟩⟩ : Entry) = b.tail)) with c | c
   ·simp +decide only [c_q1c,h1,h2,c,Pk.EVL,Pk.EVD,↓reduceIte,Nat.reduceAdd,Nat.reduceLeDiff,Pk.TY_State,Pk.TY_Entry,Pk.TY_Base]
   ·simp +decide only [c_q1c,h1,h2,c,Pk.EVL,Pk.EVD,↓reduceIte,Nat.reduceAdd,Nat.reduceLeDiff,Pk.TY_State,Pk.TY_Entry,Pk.TY_Base]
  | false => simp +decide only [c_q1c,h1,h2,Pk.EVL,Pk.EVD,↓reduceIte,Nat.reduceAdd,Nat.reduceLeDiff,Pk.TY_State,Pk.TY_Entry,Pk.TY_Base]
 | false =>
  rw [if_neg (by simp)]
  cases uo with
  | true =>
   rcases Bool.eq_false_or_eq_true (decide (a.tail = b.tail)) with c | c
   ·simp +decide only [c_q1c,h1,h2,c,Pk.EVL,Pk.EVD,↓reduceIte,Nat.reduceAdd,Nat.reduceLeDiff,Pk.TY_State,Pk.TY_Entry,Pk.TY_Base]
   ·simp +decide only [c_q1c,h1,h2,c,Pk.EVL,Pk.EVD,↓reduceIte,Nat.reduceAdd,Nat.reduceLeDiff,Pk.TY_State,Pk.TY_Entry,Pk.TY_Base]
  | false => simp +decide only [c_q1c,h1,h2,Pk.EVL,Pk.EVD,↓reduceIte,Nat.reduceAdd,Nat.reduceLeDiff,Pk.TY_State,Pk.TY_Entry,Pk.TY_Base]
/-- The number up to which a state has these entries. -/
def hasE (a : State) (e : Entry) : Bool:=(findS a e.n).2 && decide ((findS a e.n).1 = e)
def commonL (a : State) : Int → List Entry → Int
 | n,[] => n
 | n,e :: l => if hasE a e = true then commonL a e.n l else n
theorem common_at (a b : State) (ha : stOk a) (hl : b.log.length ≤ 1000) : evF C F_q1a [.d (.agg a.cs),.d (.agg b.cs)] [] = some (.d (.i .u32 (commonL a b.tail.n b.log)),[]):=by
 rw [zaa (rfl : C F_q1a = some a_q1a) _ _ rfl]
 simp +decide only [c_q1a,Pk.EVL,Pk.EVD,↓reduceIte,Nat.reduceAdd,Pk.TY_State]
 simp only [Option.bind_assoc]
 refine zaf (zac (fun i T H => lk T 2 = .ptr 0 0 ∧ lk T 14 = .d (.sl (b.log.map Entry.d)) ∧ lk T 15 = .d (.i .i64 (b.log.length : Nat)) ∧ lk T 16 = .d (.i .i64 (i : Nat)) ∧ (∃ J,H = .box (.d (.agg a.cs)) :: .box (.d (.agg b.cs)) :: J) ∧ ∃ n,lk T 5 = .d (.i .u32 n) ∧ commonL a b.tail.n b.log = commonL a n (b.log.drop i))
  (fun e T H => (∃ J,H = .box (.d (.agg a.cs)) :: .box (.d (.agg b.cs)) :: J) ∧ ((e = .exit 0 ∧ lk T 5 = .d (.i .u32 (commonL a b.tail.n b.log))) ∨ (e = .ret ∧ lk T 4 = .d (.i .u32 (commonL a b.tail.n b.log))))) b.log.length ?_ ?_ b.log.length 0 _ _ (by omega) ⟨rfl,rfl,rfl,rfl,⟨[],rfl⟩,_,rfl,rfl⟩) ?_
 ·rintro i T H hi ⟨h2, h14, h15, h16, ⟨J, rfl⟩, n, h5, hc⟩
  have hd : decide ((i : Int) < ((b.log.length : Nat) : Int)) = true:=by simp; omega
  have hw : IntKind.i64.wrap ((i : Int) + 1) = ((i + 1 : Nat) : Int):=wi64 (by omega)
  have b0 : (0 ≤ (i : Int)) = True:=by simp
  obtain ⟨e,he⟩ : ∃ e,b.log[i]? = some e:=⟨b.log[i]'hi,List.getElem?_eq_getElem _⟩
  have hx:=zae Entry.d he
  have hdr : b.log.drop i = e :: b.log.drop (i + 1):=by
   rw [List.drop_eq_getElem_cons hi]
   congr 1
   exact (List.getElem?_eq_some_iff.1 he).2
  rw [hdr] at hc
  simp only [commonL] at hc
  have hf:=find_at a e.n ha
  have hh : hasE a e = ((findS a e.n).2 && decide ((findS a e.n).1 = e)):=rfl
  generalize findS a e.n = F at *
  generalize hC : commonL a b.tail.n b.log = cc at *
  obtain ⟨f,fo⟩:=F
  simp only at hf hh
  cases fo with
  | false =>
   rw [hh,if_neg (by simp)] at hc
   simp +decide only [zg8,zhq,h2,h5,h14,h15,h16,hd,b0,hx,hf,Bool.not_false,Pk.EVL,Pk.EVD,↓reduceIte,Nat.reduceAdd,Pk.TY_State,Pk.TY_Entry]
   refine ⟨_,_,_,rfl,?_⟩
   exact .inr ⟨by simp,⟨_,rfl⟩,.inr ⟨rfl,by rw [hc]; rfl⟩⟩
  | true =>
   rcases Bool.eq_false_or_eq_true (decide (f = e)) with c | c
   ·rw [hh, c, if_pos (show (true && true) = true from rfl)] at hc
    simp +decide only [zg8,zhq,h2,h5,h14,h15,h16,hd,hw,b0,hx,hf,c,Bool.not_true,Pk.EVL,Pk.EVD,↓reduceIte,Nat.reduceAdd,Pk.TY_State,Pk.TY_Entry]
    refine ⟨_,_,_,rfl,?_⟩
    exact .inl ⟨rfl,rfl,rfl,rfl,rfl,⟨_,rfl⟩,_,rfl,hc⟩
   ·rw [hh, c, if_neg (by simp)] at hc
    simp +decide only [zg8,zhq,h2,h5,h14,h15,h16,hd,b0,hx,hf,c,Bool.not_true,Bool.not_false,Pk.EVL,Pk.EVD,↓reduceIte,Nat.reduceAdd,Pk.TY_State,Pk.TY_Entry]
    refine ⟨_,_,_,rfl,?_⟩
    exact .inr ⟨by simp,⟨_,rfl⟩,.inr ⟨rfl,by rw [hc]; rfl⟩⟩
 ·rintro T H ⟨h2, h14, h15, h16, ⟨J, rfl⟩, n, h5, hc⟩
  rw [List.drop_length] at hc
  simp only [commonL] at hc
  have hd : decide (((b.log.length : Nat) : Int) < ((b.log.length : Nat) : Int)) = false:=by simp
  simp +decide only [zg8,zhq,h2,h5,h14,h15,h16,Pk.EVL,Pk.EVD,↓reduceIte,Nat.reduceAdd,Pk.TY_Entry]
  refine ⟨_,_,_,rfl,?_⟩
  exact ⟨by simp,⟨_,rfl⟩,.inl ⟨rfl,by rw [hc]; rfl⟩⟩
 rintro e T H ⟨⟨J,rfl⟩,⟨rfl,h5⟩ | ⟨rfl,h4⟩⟩
 ·generalize commonL a b.tail.n b.log = cc at *
  simp +decide only [h5,Pk.EVL,Pk.EVD,↓reduceIte]
 ·generalize commonL a b.tail.n b.log = cc at *
  simp +decide only [h4,Pk.EVL,Pk.EVD,↓reduceIte]

/-! the difference -/
def mkD (k f : Int) (v : AV) (w : State) : List AV:=.d (.i .i64 k) :: .d (.i .u32 f) :: v :: w.cs.map .d
theorem zgd (H : Heap) (k f : Int) (v : AV) (w : State) : toDs H (mkD k f v w) = (toD H v).map fun p => (.i .i64 k :: .i .u32 f :: p.1 :: w.cs,p.2):=by
 have gen : ∀ (H : Heap) (l : List DV),toDs H (l.map .d) = some (l,H):=by
  intro H l
  induction l with
  | nil => rfl
  | cons x l ih => simp only [List.map_cons,toDs,toD,ih]
 unfold mkD
 simp only [toDs,toD,gen]
 cases toD H v <;> rfl
theorem zrc (k f : Int) (l : List Entry) (w : State) : (DV.i .i64 k :: DV.i .u32 f :: DV.sl (l.map Entry.d) :: w.cs : List DV) = Diff.cs ⟨k,f,l,w⟩:=rfl
theorem zew (k f : Int) (w : State) : (DV.i .i64 k :: DV.i .u32 f :: DV.sl [] :: w.cs : List DV) = Diff.cs ⟨k,f,[],w⟩:=rfl
theorem mkD_2 (x y : AV) : (upd (upd Diff.zeroA 0 [x]) 1 [y]).length = 52:=rfl
theorem mkD_3 (x y z : AV) : (upd (upd (upd Diff.zeroA 0 [x]) 1 [y]) 2 [z]).length = 52:=rfl
theorem mkD_a (k : Int) (w : State) : upd (upd Diff.zeroA 0 [.d (.i .i64 k)]) 3 (w.cs.map .d) = mkD k 0 .nilS w:=rfl
theorem mkD_b (k f : Int) (v : AV) (w : State) : upd (upd (upd (upd Diff.zeroA 0 [.d (.i .i64 k)]) 1 [.d (.i .u32 f)]) 2 [v]) 3 (w.cs.map .d) = mkD k f v w:=rfl
theorem zj8 (k f : Int) (v : AV) (w : State) : (mkD k f v w).length = 52:=rfl
theorem mkD_w (k f : Int) (v : AV) (w : State) : upd Diff.zeroA 0 (mkD k f v w) = mkD k f v w:=rfl
theorem zj4 (k f : Int) (v : AV) (w : State) : subL (mkD k f v w) 0 52 = mkD k f v w:=rfl
theorem mkD_n (k f : Int) (w : State) : allD (mkD k f .nilS w) = none:=rfl
theorem mkD_v (k f : Int) (o g z a l : Nat) (w : State) : allD (mkD k f (.view o g z a l) w) = none:=rfl
/-- What makes one state of another. -/
def makeM (a b : State) : Diff :=
 if (isSt a && isSt b) = true then
  (if { a with started := b.started } = b then ⟨0, 0, [], headM b⟩
   else if standsM a b = true then ⟨1,commonL a b.tail.n b.log,b.log.drop (commonL a b.tail.n b.log - b.tail.n).toNat,headM b⟩
   else ⟨2,0,[],b⟩)
 else Diff.zero
theorem znr {a b : State} (hb : stOk b) (h : isSt b = true) : ∃ j : Nat,j ≤ b.log.length ∧ commonL a b.tail.n b.log = b.tail.n + j:=by
 have gen : ∀ (l : List Entry) (n : Int),(∀ (i : Nat) (e : Entry),l[i]? = some e → e.n = n + i + 1) → ∃ j : Nat,j ≤ l.length ∧ commonL a n l = n + j:=by
  intro l
  induction l with
  | nil => intro n _; exact ⟨0,Nat.le_refl _,by simp [commonL]⟩
  | cons e l ih =>
   intro n hn
   simp only [commonL]
   split
   ·have h0 := hn 0 e rfl
    obtain ⟨j,h1,h2⟩:=ih e.n (fun i x hx => by have:=hn (i + 1) x (by simpa using hx); omega)
    exact ⟨j + 1,by simp; omega,by rw [h2]; omega⟩
   ·exact ⟨0,Nat.zero_le _,by simp⟩
 exact gen _ _ (zb0 hb.n (za2 h)).1
theorem make_at (a b : State) (ha : stOk a) (hb : stOk b) : evF C F_q18 [.d (.agg a.cs),.d (.agg b.cs)] [] = some (.d (.agg (makeM a b).cs),[]):=by
 rw [zaa (rfl : C F_q18 = some a_q18) _ _ rfl]
 have h1:=is_st a
 have h2:=is_st b
 unfold makeM
 rcases Bool.eq_false_or_eq_true (isSt a) with c1 | c1
 case inr =>
  rw [if_neg (by rw [c1]; simp)]
  simp +decide only [c_q18,h1,c1,Pk.EVL,Pk.EVD,↓reduceIte,Nat.reduceAdd,Pk.TY_State,Pk.TY_Diff]
 rcases Bool.eq_false_or_eq_true (isSt b) with c2 | c2
 case inr =>
  rw [if_neg (by rw [c2]; simp)]
  simp +decide only [c_q18,h1,h2,c1,c2,Pk.EVL,Pk.EVD,↓reduceIte,Nat.reduceAdd,Pk.TY_State,Pk.TY_Diff]
 rw [if_pos (by rw [c1,c2]; rfl)]
 have l1:=zay c1
 have l2:=zay c2
 have hsm:=same_at { a with started:=b.started } b (by show a.log.length ≤ 1000; omega)
 have hmh:=mhead_at b
 by_cases c3 : ({ a with started:=b.started } : State) = b
 ·rw [if_pos c3]
  rw [decide_eq_true c3] at hsm
  simp +decide only [c_q18,h1,h2,c1,c2,hsm,hmh,mkD_a,zj8,mkD_w,zj4,mkD_n,zgd,zew,Pk.EVL,Pk.EVD,↓reduceIte,Nat.reduceAdd,Nat.reduceLeDiff,Pk.TY_State,Pk.TY_Diff]
 rw [if_neg c3]
 rw [decide_eq_false c3] at hsm
 have hst:=stands_at a b ha
 rcases Bool.eq_false_or_eq_true (standsM a b) with c4 | c4
 ·rw [if_pos c4]
  have hco:=common_at a b ha (by omega)
  obtain ⟨j,hj,hcj⟩:=znr (a:=a) hb c2
  have hbn:=hb.n
  have hln:=zjh hb c2
  have hw : IntKind.u32.wrap (commonL a b.tail.n b.log - b.tail.n) = (j : Int):=by rw [hcj,show b.tail.n + (j : Int) - b.tail.n = (j : Int) by omega]; exact wu32 (by omega)
  have hto : (commonL a b.tail.n b.log - b.tail.n).toNat = j:=by rw [hcj]; omega
  rw [hto]
  generalize commonL a b.tail.n b.log = cc at *
  have b0 : (0 ≤ (j : Int)) = True:=by simp
  have b1 : ((j : Int) ≤ ((b.log.length : Nat) : Int)) = True:=by simp; omega
  have htl : List.take b.log.length (b.log.map Entry.d) = b.log.map Entry.d:=List.take_of_length_le (by simp)
  have hdr : List.drop j (b.log.map Entry.d) = (b.log.drop j).map Entry.d:=by rw [List.map_drop]
  have hcl:=zgj (b.log.drop j) (by rw [List.length_drop]; unfold LIM; omega)
  have hdl : (b.log.drop j).length = b.log.length - j:=List.length_drop
  rw [hdl] at hcl
  have htk : List.take (b.log.length - j) ((b.log.drop j).map Entry.d) = (b.log.drop j).map Entry.d:=List.take_of_length_le (by simp)
  have hsb : subL ((b.log.drop j).map Entry.d) 0 (b.log.length - j) = (b.log.drop j).map Entry.d:=htk
  simp +decide only [c_q18,h1,h2,c1,c2,hsm,hst,c4,hmh,hco,hw,b0,b1,htl,hdr,hcl,hdl,htk,hsb,or_true,mkD_2,mkD_3,mkD_b,zj8,mkD_w,zj4,mkD_v,zgd,zrc,Pk.EVL,Pk.EVD,↓reduceIte,Nat.reduceAdd,Nat.reduceLeDiff,Nat.reduceBNe,Pk.TY_State,Pk.TY_Diff,Pk.TY_Entry]
 ·rw [if_neg (by rw [c4]; simp)]
  have hcp:=copy_at b (by omega)
  simp +decide only [c_q18,h1,h2,c1,c2,hsm,hst,c4,hcp,mkD_a,zj8,mkD_w,zj4,mkD_n,zgd,zew,Pk.EVL,Pk.EVD,↓reduceIte,Nat.reduceAdd,Nat.reduceLeDiff,Pk.TY_State,Pk.TY_Diff]
def addedM : State → List Entry → State × Int
 | s,[] => (s,0)
 | s,e :: l => if (addS s e).2 = 0 then addedM (addS s e).1 l else (State.zero,10)
theorem addS_code (s : State) (e : Entry) : ((addS s e).2 = 0 ∧ isSt s = true ∧ nextE (lastE s) e = true) ∨ ((addS s e).2 = 10 ∧ (addS s e).1 = State.zero):=by
 unfold addS
 split
 ·rename_i h
  rw [Bool.and_eq_true] at h
  exact .inl ⟨rfl,h⟩
 ·exact .inr ⟨rfl,rfl⟩
theorem zcr : okLog State.zero:=by intro e he; simp [State.zero] at he
theorem addS_ok {s : State} {e : Entry} (hs : okLog s) (he : e.op.ok) : okLog (addS s e).1:=by
 unfold addS
 split
 ·intro x hx
  have : x ∈ s.log ++ [e]:=List.mem_of_mem_drop hx
  rcases List.mem_append.1 this with h | h
  ·exact hs x h
  ·simp only [List.mem_singleton] at h; rw [h]; exact he
 ·exact zcr
theorem added_at (s : State) (l : List Entry) (hl : l.length ≤ 100000) (hs : okLog s) (ho : ∀ e ∈ l,e.op.ok) : evF C F_q19 [.d (.agg s.cs),.d (.sl (l.map Entry.d))] [] = some (.tup [.d (.agg (addedM s l).1.cs),.d (.i .i64 (addedM s l).2)],[]):=by
 rw [zaa (rfl : C F_q19 = some a_q19) _ _ rfl]
 simp +decide only [c_q19,Pk.EVL,Pk.EVD,↓reduceIte,Nat.reduceAdd]
 simp only [Option.bind_assoc]
 refine zaf (zac (fun i T H => lk T 2 = .ptr 0 0 ∧ lk T 4 = .ptr 1 0 ∧ lk T 10 = .d (.sl (l.map Entry.d)) ∧ lk T 11 = .d (.i .i64 (l.length : Nat)) ∧ lk T 12 = .d (.i .i64 (i : Nat)) ∧ ∃ t J,H = .box (.d (.agg (State.cs t))) :: .box (.agg State.zeroA) :: J ∧ okLog t ∧ addedM s l = addedM t (l.drop i))
  (fun e T H => (e = .exit 0 ∧ lk T 2 = .ptr 0 0 ∧ lk T 4 = .ptr 1 0 ∧ H = [.box (.d (.agg (addedM s l).1.cs)), .box (.agg State.zeroA)] ∧ (addedM s l).2 = 0) ∨
   (e = .ret ∧ lk T 4 = .ptr 1 0 ∧ lk T 5 = .d (.i .i64 10) ∧ (∃ x J,H = x :: .box (.agg State.zeroA) :: J) ∧ addedM s l = (State.zero,10))) l.length ?_ ?_ l.length 0 _ _ (by omega) ⟨rfl,rfl,rfl,rfl,rfl,s,[],rfl,hs,rfl⟩) ?_
 ·rintro i T H hi ⟨h2, h4, h10, h11, h12, t, J, rfl, hok, hc⟩
  have hd : decide ((i : Int) < ((l.length : Nat) : Int)) = true:=by simp; omega
  have hw : IntKind.i64.wrap ((i : Int) + 1) = ((i + 1 : Nat) : Int):=wi64 (by omega)
  have b0 : (0 ≤ (i : Int)) = True:=by simp
  obtain ⟨e,he⟩ : ∃ e,l[i]? = some e:=⟨l[i]'hi,List.getElem?_eq_getElem _⟩
  have hx:=zae Entry.d he
  have heo:=ho e (List.mem_of_getElem? he)
  have hdr : l.drop i = e :: l.drop (i + 1):=by
   rw [List.drop_eq_getElem_cons hi]
   congr 1
   exact (List.getElem?_eq_some_iff.1 he).2
  rw [hdr] at hc
  simp only [addedM] at hc
  have ha:=add_at t e hok heo
  have hao:=addS_ok (s:=t) hok heo
  have hres:=addS_code t e
  generalize addS t e = A at *
  obtain ⟨A1,A2⟩:=A
  simp only at ha hao hres hc
  generalize hAA : addedM s l = R at *
  rcases hres with ⟨rfl,_⟩ | ⟨rfl,rfl⟩
  ·rw [if_pos rfl] at hc
   have n0 : ((0 : Int) != 0) = false:=by decide
   simp +decide only [zla,zj2,h2,h4,h10,h11,h12,hd,hw,b0,hx,ha,n0,Pk.EVL,Pk.EVD,↓reduceIte,Nat.reduceAdd,Pk.TY_State,Pk.TY_Entry]
   refine ⟨_,_,_,rfl,?_⟩
   exact .inl ⟨rfl,rfl,rfl,rfl,rfl,rfl,_,_,rfl,hao,hc⟩
  ·rw [if_neg (by decide)] at hc
   have n0 : ((10 : Int) != 0) = true:=by decide
   simp +decide only [zla,zj2,h2,h4,h10,h11,h12,hd,b0,hx,ha,n0,Pk.EVL,Pk.EVD,↓reduceIte,Nat.reduceAdd,Pk.TY_State,Pk.TY_Entry]
   refine ⟨_,_,_,rfl,?_⟩
   exact .inr ⟨by simp,.inr ⟨rfl,rfl,rfl,⟨_,_,rfl⟩,hc⟩⟩
 ·rintro T H ⟨h2, h4, h10, h11, h12, t, J, rfl, hok, hc⟩
  rw [List.drop_length] at hc
  simp only [addedM] at hc
  have hd : decide (((l.length : Nat) : Int) < ((l.length : Nat) : Int)) = false:=by simp
  rw [hc]
  simp +decide only [zla,zj2,h2,h4,h10,h11,h12,Pk.EVL,Pk.EVD,↓reduceIte,Nat.reduceAdd,Pk.TY_State,Pk.TY_Entry]
  refine ⟨_,_,_,rfl,?_⟩
  first | exact ⟨by simp,.inl ⟨rfl,rfl,rfl,rfl,rfl⟩⟩ | exact ⟨by simp,.inl ⟨rfl,rfl,rfl,rfl⟩⟩
 rintro e T H (⟨rfl,h2,h4,rfl,hr⟩ | ⟨rfl,h4,h5,⟨x,J,rfl⟩,hr⟩)
 ·generalize addedM s l = R at *
  obtain ⟨R1,R2⟩:=R
  simp only at hr
  subst hr
  simp +decide only [h2,h4,Pk.EVL,Pk.EVD,↓reduceIte,Nat.reduceAdd,Pk.TY_State]
 ·rw [hr]
  simp +decide only [h4,h5,Pk.EVL,Pk.EVD,↓reduceIte,Pk.TY_State]
/-- A difference that may be one. -/
def formD (d : Diff) : Bool:=!(decide (d.kind < 0) || (decide (d.kind > 2) || ((d.kind != 1) && (decide ((d.log.length : Int) > 0) || (d.from_ != 0)))))
/-- What a state is ahead of folding. -/
def midM (a : State) (d : Diff) : State × Int :=
 if d.kind = 1 then (if (cutS a d.from_).2 = 0 then addedM (cutS a d.from_).1 d.log else (State.zero,10)) else (a,0)
def applyM (a : State) (d : Diff) : State × Int :=
 if (isSt a && formD d) = true then
  (if d.kind = 2 then (if isSt d.whole = true then (d.whole, 0) else (State.zero, 80))
   else if (midM a d).2 = 0 then
    (if ((tailS (midM a d).1 d.whole.tail.n).2 = 0 ∧ (tailS (midM a d).1 d.whole.tail.n).1.tail.since = d.whole.tail.since ∧ isSt { (tailS (midM a d).1 d.whole.tail.n).1 with started := d.whole.started } = true) then
     ({ (tailS (midM a d).1 d.whole.tail.n).1 with started:=d.whole.started },0)
    else (State.zero,80))
   else (State.zero,80))
 else (State.zero,80)
theorem bad_at : evF C F_q16 [] [] = some (.tup [.d (.agg State.zero.cs),.d (.i .i64 80)],[]):=by
 rw [zaa (rfl : C F_q16 = some a_q16) _ _ rfl]
 simp +decide only [c_q16,Pk.EVL,Pk.EVD,↓reduceIte,Pk.TY_State]
theorem cutS_ok {s : State} (n : Int) (hs : stOk s) : stOk (cutS s n).1:=by
 have hz : stOk State.zero:=⟨by decide,zcr⟩
 unfold cutS
 split
 ·split
  ·exact ⟨hs.n,fun e he => hs.log e (List.mem_of_mem_take he)⟩
  ·exact hz
 ·exact hz
theorem addS_stok {s : State} {e : Entry} (hs : stOk s) (he : e.op.ok) : stOk (addS s e).1:=by
 refine ⟨?_,addS_ok hs.log he⟩
 unfold addS
 split
 ·rename_i h
  rw [Bool.and_eq_true] at h
  unfold foldedS
  have hl:=zay h.1
  have hge : ∀ x ∈ s.log ++ [e],0 ≤ x.n ∧ x.n < 4294967296:=by
   intro x hx
   rcases List.mem_append.1 hx with hx | hx
   ·obtain ⟨j, hj, hje⟩ := List.mem_iff_getElem.1 hx
    have h1:=(zb0 hs.n (za2 h.1)).1 j x (by rw [List.getElem?_eq_getElem hj,hje])
    have h2:=(zb0 hs.n (za2 h.1)).2.2
    have:=hs.n
    omega
   ·simp only [List.mem_singleton] at hx
    subst hx
    have:=zjh hs h.1
    have h3:=hs.n
    exact (next_n (by omega) h.2).2
  have gen : ∀ (l : List Entry) (t : State),(0 ≤ t.tail.n ∧ t.tail.n < 4294967296) → (∀ x ∈ l,0 ≤ x.n ∧ x.n < 4294967296) → 0 ≤ (l.foldl foldE t).tail.n ∧ (l.foldl foldE t).tail.n < 4294967296:=by
   intro l
   induction l with
   | nil => intro t h _; exact h
   | cons x l ih => intro t _ hx; exact ih (foldE t x) (hx x (by simp)) fun y hy => hx y (by simp [hy])
  exact gen _ _ hs.n fun x hx => hge x (List.mem_of_mem_take hx)
 ·exact ⟨by decide,by decide⟩
theorem zm5 : ∀ {l : List Entry} {s : State},stOk s → (∀ e ∈ l,e.op.ok) → stOk (addedM s l).1
 | [],s,hs,_ => hs
 | e :: l,s,hs,ho => by
  simp only [addedM]
  split
  ·exact zm5 (addS_stok hs (ho e (by simp))) fun x hx => ho x (by simp [hx])
  ·exact ⟨by decide,zcr⟩
theorem midM_ok {a : State} {d : Diff} (ha : stOk a) (hd : ∀ e ∈ d.log,e.op.ok) : stOk (midM a d).1:=by
 unfold midM
 split
 ·split
  ·exact zm5 (cutS_ok _ ha) hd
  ·exact ⟨by decide,zcr⟩
 ·exact ha
theorem apply_at (a : State) (d : Diff) (ha : stOk a) (hd : ∀ e ∈ d.log,e.op.ok) (hw : isSt d.whole = true → True) (hl : d.log.length ≤ 100000) : evF C F_q15 [.d (.agg a.cs),.d (.agg d.cs)] [] = some (.tup [.d (.agg (applyM a d).1.cs),.d (.i .i64 (applyM a d).2)],[]):=by
 rw [zaa (rfl : C F_q15 = some a_q15) _ _ rfl]
 have h1:=is_st a
 have hb:=bad_at
 have nb : ∀ x y : Int,(x != y) = !(x == y):=fun _ _ => rfl
 unfold applyM
 have hf : formD d = !(decide (d.kind < 0) || (decide (d.kind > 2) || ((!(d.kind == 1)) && (decide ((d.log.length : Int) > 0) || !(d.from_ == 0))))):=rfl
 -- what is no difference,or no state
 have bad : (isSt a && formD d) = false → evF C F_q15 [.d (.agg a.cs),.d (.agg d.cs)] [] = some (.tup [.d (.agg State.zero.cs),.d (.i .i64 80)],[]):=by
  intro h
  rw [zaa (rfl : C F_q15 = some a_q15) _ _ rfl]
  rcases Bool.eq_false_or_eq_true (isSt a) with c1 | c1
  case inr => simp +decide only [c_q15,h1,c1,hb,zau,Pk.EVL,Pk.EVD,↓reduceIte,Nat.reduceAdd,Pk.TY_State]
  rw [c1,Bool.true_and,hf] at h
  rcases Bool.eq_false_or_eq_true (decide (d.kind < 0)) with q1 | q1
  ·simp +decide only [c_q15,h1,c1,hb,q1,zau,Pk.EVL,Pk.EVD,↓reduceIte,Nat.reduceAdd,Pk.TY_State,Pk.TY_Diff]
  rcases Bool.eq_false_or_eq_true (decide (d.kind > 2)) with q2 | q2
  ·simp +decide only [c_q15,h1,c1,hb,q1,q2,zau,Pk.EVL,Pk.EVD,↓reduceIte,Nat.reduceAdd,Pk.TY_State,Pk.TY_Diff]
  rw [q1,q2] at h
  rcases Bool.eq_false_or_eq_true (d.kind == 1) with c3 | c3
  ·rw [c3] at h; simp at h
  ·rcases Bool.eq_false_or_eq_true (decide ((d.log.length : Int) > 0)) with c4 | c4
   ·simp +decide only [c_q15,h1,c1,hb,nb,q1,q2,c3,c4,Bool.not_false,Pk.EVL,Pk.EVD,↓reduceIte,Nat.reduceAdd,Pk.TY_State,Pk.TY_Diff]
   ·rcases Bool.eq_false_or_eq_true (d.from_ == 0) with c5 | c5
    ·rw [c3,c4,c5] at h; simp at h
    ·simp +decide only [c_q15,h1,c1,hb,nb,q1,q2,c3,c4,c5,Bool.not_false,Pk.EVL,Pk.EVD,↓reduceIte,Nat.reduceAdd,Pk.TY_State,Pk.TY_Diff]
 by_cases hc : (isSt a && formD d) = true
 case neg =>
  rw [if_neg hc]
  have:=bad (eq_false_of_ne_true hc)
  rw [zaa (rfl : C F_q15 = some a_q15) _ _ rfl] at this
  exact this
 rw [if_pos hc]
 clear bad
 rw [Bool.and_eq_true] at hc
 obtain ⟨c1,hc⟩:=hc
 rw [hf] at hc
 simp only [Bool.not_eq_true',Bool.or_eq_false_iff] at hc
 obtain ⟨q1,q2,q3⟩:=hc
 have htl:=tail_at (midM a d).1 d.whole.tail.n (midM_ok ha hd)
 -- behind the folding
 by_cases k2 : d.kind = 2
 ·rw [if_pos k2]
  have e1 : (d.kind == 1) = false:=by rw [k2]; decide
  have e2 : (d.kind == 2) = true:=by rw [k2]; decide
  rw [e1] at q3
  simp only [Bool.not_false,Bool.true_and,Bool.or_eq_false_iff,Bool.not_eq_false'] at q3
  have hi:=is_st d.whole
  by_cases cw : isSt d.whole = true
  ·rw [if_pos cw]
   have hcp:=copy_at d.whole (by have:=zay cw; omega)
   simp +decide only [c_q15,h1,c1,nb,q1,q2,q3.1,q3.2,e1,e2,hi,cw,hcp,Bool.not_false,Bool.not_true,Pk.EVL,Pk.EVD,↓reduceIte,Nat.reduceAdd,Pk.TY_State,Pk.TY_Diff]
  ·rw [if_neg cw]
   have cw:=eq_false_of_ne_true cw
   simp +decide only [c_q15,h1,c1,nb,q1,q2,q3.1,q3.2,e1,e2,hi,cw,hb,Bool.not_false,Bool.not_true,Pk.EVL,Pk.EVD,↓reduceIte,Nat.reduceAdd,Pk.TY_State,Pk.TY_Diff]
 rw [if_neg k2]
 have e2 : (d.kind == 2) = false:=by rw [beq_eq_false_iff_ne]; exact k2
 have n0 : ((0 : Int) == 0) = true:=by decide
 have hTc : ∀ s n,(tailS s n).2 = 0 ∨ (tailS s n).2 ≠ 0:=fun s n => by omega
 have hits:=is_st { (tailS (midM a d).1 d.whole.tail.n).1 with started:=d.whole.started }
 have fin : ∀ T2 : State,∀ r : Int,tailS (midM a d).1 d.whole.tail.n = (T2,r) →
   (if ((tailS (midM a d).1 d.whole.tail.n).2 = 0 ∧ (tailS (midM a d).1 d.whole.tail.n).1.tail.since = d.whole.tail.since ∧ isSt { (tailS (midM a d).1 d.whole.tail.n).1 with started := d.whole.started } = true) then
     (({ (tailS (midM a d).1 d.whole.tail.n).1 with started:=d.whole.started } : State),(0 : Int))
    else (State.zero,80)) = if (r == 0) = true then (if (T2.tail.since == d.whole.tail.since) = true then (if isSt { T2 with started:=d.whole.started } = true then ({ T2 with started:=d.whole.started },0) else (State.zero,80)) else (State.zero,80)) else (State.zero,80):=by
  intro T2 r h
  rw [h]
  by_cases x1 : r = 0 <;> by_cases x2 : T2.tail.since = d.whole.tail.since <;> by_cases x3 : isSt { T2 with started:=d.whole.started } = true <;> simp [x1,x2,x3]
 generalize hT : tailS (midM a d).1 d.whole.tail.n = TT at *
 obtain ⟨T2,r⟩:=TT
 rw [fin T2 r rfl]
 simp only at htl hits
 clear fin hTc
 by_cases k1 : d.kind = 1
 ·have e1 : (d.kind == 1) = true := by rw [k1]; decide
  have hcut:=cut_at a d.from_ ha
  have hadd:=added_at (cutS a d.from_).1 d.log hl (cutS_ok d.from_ ha).log hd
  have hmid : midM a d = if (cutS a d.from_).2 = 0 then addedM (cutS a d.from_).1 d.log else (State.zero,10):=by unfold midM; rw [if_pos k1]
  rw [hmid] at htl ⊢
  generalize cutS a d.from_ = CC at *
  obtain ⟨C1,cr⟩:=CC
  simp only at hcut hadd htl ⊢
  rcases Bool.eq_false_or_eq_true (cr == 0) with x0 | x0
  case inr =>
   have : ¬ cr = 0:=by simpa using x0
   rw [if_neg this,if_neg (by decide)]
   simp +decide only [c_q15,h1,c1,nb,q1,q2,e1,e2,hcut,x0,hb,zau,Bool.not_false,Bool.not_true,Pk.EVL,Pk.EVD,↓reduceIte,Nat.reduceAdd,Pk.TY_State,Pk.TY_Diff]
  have x0' : cr = 0:=by simpa using x0
  rw [if_pos x0'] at htl ⊢
  generalize addedM C1 d.log = AA at *
  obtain ⟨A1,ar⟩:=AA
  simp only at hadd htl ⊢
  rcases Bool.eq_false_or_eq_true (ar == 0) with y0 | y0
  case inr =>
   have : ¬ ar = 0:=by simpa using y0
   rw [if_neg this]
   simp +decide only [c_q15,h1,c1,nb,q1,q2,e1,e2,hcut,x0,hadd,y0,hb,zau,Bool.not_false,Bool.not_true,Pk.EVL,Pk.EVD,↓reduceIte,Nat.reduceAdd,Pk.TY_State,Pk.TY_Diff]
  have y0' : ar = 0:=by simpa using y0
  rw [if_pos y0']
  rcases Bool.eq_false_or_eq_true (r == 0) with z0 | z0
  case inr =>
   rw [z0,if_neg (by simp)]
   simp +decide only [c_q15,h1,c1,nb,q1,q2,e1,e2,hcut,x0,hadd,y0,htl,z0,hb,zau,Bool.not_false,Bool.not_true,Pk.EVL,Pk.EVD,↓reduceIte,Nat.reduceAdd,Nat.reduceLeDiff,Pk.TY_State,Pk.TY_Diff]
  rw [z0,if_pos rfl]
  rcases Bool.eq_false_or_eq_true (T2.tail.since == d.whole.tail.since) with z1 | z1
  case inr =>
   rw [z1,if_neg (by simp)]
   simp +decide only [c_q15,h1,c1,nb,q1,q2,e1,e2,hcut,x0,hadd,y0,htl,z0,z1,hb,zau,Bool.not_false,Bool.not_true,Pk.EVL,Pk.EVD,↓reduceIte,Nat.reduceAdd,Nat.reduceLeDiff,Pk.TY_State,Pk.TY_Diff]
  rw [z1,if_pos rfl]
  rcases Bool.eq_false_or_eq_true (isSt { T2 with started:=d.whole.started }) with z2 | z2
  case inr =>
   rw [z2] at hits
   rw [z2,if_neg (by simp)]
   simp +decide only [c_q15,h1,c1,nb,q1,q2,e1,e2,hcut,x0,hadd,y0,htl,z0,z1,hits,hb,zau,Bool.not_false,Bool.not_true,Pk.EVL,Pk.EVD,↓reduceIte,Nat.reduceAdd,Nat.reduceLeDiff,Pk.TY_State,Pk.TY_Diff]
  rw [z2] at hits
  rw [z2,if_pos rfl]
  simp +decide only [c_q15,h1,c1,nb,q1,q2,e1,e2,hcut,x0,hadd,y0,htl,z0,z1,hits,zau,Bool.not_true,Pk.EVL,Pk.EVD,↓reduceIte,Nat.reduceAdd,Nat.reduceLeDiff,Pk.TY_State,Pk.TY_Diff]
 ·have e1 : (d.kind == 1) = false := by rw [beq_eq_false_iff_ne]; exact k1
  rw [e1] at q3
  simp only [Bool.not_false,Bool.true_and,Bool.or_eq_false_iff,Bool.not_eq_false'] at q3
  have hmid : midM a d = (a,0):=by unfold midM; rw [if_neg k1]
  rw [hmid] at htl ⊢
  rw [if_pos rfl]
  simp only at htl
  rcases Bool.eq_false_or_eq_true (r == 0) with z0 | z0
  case inr =>
   rw [z0,if_neg (by simp)]
   simp +decide only [c_q15,h1,c1,nb,q1,q2,q3.1,q3.2,e1,e2,htl,z0,hb,Bool.not_false,Bool.not_true,Pk.EVL,Pk.EVD,↓reduceIte,Nat.reduceAdd,Nat.reduceLeDiff,Pk.TY_State,Pk.TY_Diff]
  rw [z0,if_pos rfl]
  rcases Bool.eq_false_or_eq_true (T2.tail.since == d.whole.tail.since) with z1 | z1
  case inr =>
   rw [z1,if_neg (by simp)]
   simp +decide only [c_q15,h1,c1,nb,q1,q2,q3.1,q3.2,e1,e2,htl,z0,z1,hb,Bool.not_false,Bool.not_true,Pk.EVL,Pk.EVD,↓reduceIte,Nat.reduceAdd,Nat.reduceLeDiff,Pk.TY_State,Pk.TY_Diff]
  rw [z1,if_pos rfl]
  rcases Bool.eq_false_or_eq_true (isSt { T2 with started:=d.whole.started }) with z2 | z2
  case inr =>
   rw [z2] at hits
   rw [z2,if_neg (by simp)]
   simp +decide only [c_q15,h1,c1,nb,q1,q2,q3.1,q3.2,e1,e2,htl,z0,z1,hits,hb,Bool.not_false,Bool.not_true,Pk.EVL,Pk.EVD,↓reduceIte,Nat.reduceAdd,Nat.reduceLeDiff,Pk.TY_State,Pk.TY_Diff]
  rw [z2] at hits
  rw [z2,if_pos rfl]
  simp +decide only [c_q15,h1,c1,nb,q1,q2,q3.1,q3.2,e1,e2,htl,z0,z1,hits,Bool.not_false,Bool.not_true,Pk.EVL,Pk.EVD,↓reduceIte,Nat.reduceAdd,Nat.reduceLeDiff,Pk.TY_State,Pk.TY_Diff]
end Go.Proofs.YthlpognahlnaaaaGreat
