/- States of any start: what is made of them,applied,comes to the other. Plain laws,no code. -/
import Derived.Test.YthlpognahlnaaaaGreatMgG
set_option linter.all false
namespace Go.Proofs.YthlpognahlnaaaaGreat
open Pv Go Pk
set_option maxRecDepth 10000
set_option maxHeartbeats 2000000
def bOf (B : Base) (E : List Entry) : Base:=(allOps B (E.map (·.op))).1
theorem zr1 (B : Base) (E : List Entry) (e : Entry) : bOf B (E ++ [e]) = (doOp (bOf B E) e.op).1:=by
 unfold bOf
 rw [List.map_append,List.map_cons,List.map_nil,zpr]
theorem bOf_ok {B : Base} (hB : okBase B = true) {E : List Entry} (h : ∀ e ∈ E,e.op.ok) : okBase (bOf B E) = true:=by
 induction E using zl0 with
 | h0 => exact hB
 | hs E e ih => rw [zr1]; exact okBase_do (ih fun x hx => h x (by simp [hx])) (h e (by simp))
def lastG (T : Entry) (E : List Entry) : Entry:=match E.getLast? with
 | some e => e
 | none => T
def tailG (T : Entry) (E : List Entry) : Entry:=⟨(lastG T E).since,(lastG T E).n,⟨0,0,0,0,0,⟨#[]⟩⟩⟩
theorem zfa (T : Entry) (E : List Entry) (e : Entry) : lastG T (E ++ [e]) = e:=by simp [lastG]
/-- A state that begins somewhere,with these entries,the first k folded. -/
def gSt (st : Int) (B : Base) (T : Entry) (E : List Entry) (k : Nat) : State:=⟨st,bOf B (E.take k),tailG T (E.take k),E.drop k⟩
structure goodG (B : Base) (T : Entry) (E : List Entry) : Prop where
 ch : chainE T E = true
 ok : ∀ e ∈ E,e.op.ok
 n : 0 ≤ T.n ∧ T.n < 4294967296
 s : T.since ≤ 60
 b : okBase B = true
theorem goodG.take {B : Base} {T : Entry} {E : List Entry} (h : goodG B T E) (k : Nat) : goodG B T (E.take k):=by
 refine ⟨?_,fun e he => h.ok e (List.mem_of_mem_take he),h.n,h.s,h.b⟩
 have:=h.ch
 rw [← List.take_append_drop k E,zbo,Bool.and_eq_true] at this
 exact this.1
theorem goodG.drop {B : Base} {T : Entry} {E : List Entry} (h : goodG B T E) (k : Nat) : chainE (tailG T (E.take k)) (E.drop k) = true:=by
 have:=h.ch
 rw [← List.take_append_drop k E,zbo,Bool.and_eq_true] at this
 have h2:=this.2
 rw [← h2]
 refine zdb ?_ ?_ _ <;> unfold tailG lastG <;> cases (E.take k).getLast? <;> rfl
theorem goodG.nums {B : Base} {T : Entry} {E : List Entry} (h : goodG B T E) : (∀ (i : Nat) (e : Entry),E[i]? = some e → e.n = T.n + i + 1) ∧ (lastG T E).n = T.n + E.length ∧ T.n + (E.length : Int) < 4294967296:=by
 obtain ⟨h1,h2,h3⟩:=zb0 h.n h.ch
 refine ⟨h1,?_,?_⟩
 ·unfold lastG
  revert h2
  cases hg : E.getLast? with
  | none => intro h2; rw [List.getLast?_eq_none_iff] at hg; simp [hg]
  | some e => intro h2; exact h2
 ·have := h.n
  omega
theorem goodG.sinces {B : Base} {T : Entry} {E : List Entry} (h : goodG B T E) : (lastG T E).since ≤ 60:=by
 induction E using zl0 with
 | h0 => exact h.s
 | hs E e ih =>
  have hc:=h.ch
  rw [zcl,Bool.and_eq_true] at hc
  rw [zfa]
  have hn:=hc.2
  unfold nextE at hn
  simp only [Bool.and_eq_true,decide_eq_true_eq] at hn
  omega
theorem zrq (st : Int) {B : Base} {T : Entry} {E : List Entry} (h : goodG B T E) {k : Nat} (hk : k ≤ E.length) : (gSt st B T E k).tail.n = T.n + k:=by
 show (lastG T (E.take k)).n = T.n + k
 rw [(h.take k).nums.2.1,List.length_take]
 omega
theorem g_is (st : Int) {B : Base} {T : Entry} {E : List Entry} (h : goodG B T E) {k : Nat} (h6 : E.length - k ≤ 6) (hst : st ≤ 60) : isSt (gSt st B T E k) = true:=by
 unfold isSt
 have h1 : decide ((gSt st B T E k).started > 60) = false:=by simp [gSt]; omega
 have h2 : decide ((gSt st B T E k).tail.since > 60) = false:=by
  have:=(h.take k).sinces
  show decide ((lastG T (E.take k)).since > 60) = false
  simp; omega
 have h3 : decide ((gSt st B T E k).tail.op = (⟨0,0,0,0,0,⟨#[]⟩⟩ : Opr)) = true:=by simp [gSt,tailG]
 have h4 : decide (((gSt st B T E k).log.length : Int) > 6) = false:=by simp [gSt]; omega
 have h5 : okBase (gSt st B T E k).base = true:=bOf_ok h.b fun e he => h.ok e (List.mem_of_mem_take he)
 have h6 : chainE (gSt st B T E k).tail (gSt st B T E k).log = true:=h.drop k
 rw [h1,h2,h3,h4,h5,h6]
 rfl
theorem g_last (st : Int) {B : Base} {T : Entry} {E : List Entry} {k : Nat} (hk : k ≤ E.length) : (lastE (gSt st B T E k)).n = (lastG T E).n ∧ (lastE (gSt st B T E k)).since = (lastG T E).since:=by
 unfold lastE
 by_cases c : k = E.length
 ·subst c
  have h1 : (gSt st B T E E.length).log = []:=by simp [gSt]
  rw [h1]
  simp [gSt,tailG]
 ·have h1 : (gSt st B T E k).log.getLast? = E.getLast? := by
   show (E.drop k).getLast? = _
   rw [List.getLast?_drop,if_neg (by omega)]
  rw [h1]
  unfold lastG
  have hne : E ≠ []:=by intro hh; subst hh; simp only [List.length_nil] at hk c; omega
  rw [List.getLast?_eq_some_getLast hne]
  exact ⟨rfl,rfl⟩
theorem g_foldl (st : Int) (B : Base) (T : Entry) (E : List Entry) : ∀ (j k : Nat),k + j ≤ E.length → List.foldl foldE (gSt st B T E k) ((E.drop k).take j) = { gSt st B T E (k + j) with log:=E.drop k }
 | 0,k,_ => rfl
 | j + 1, k, h => by
  have hk : k < E.length:=by omega
  rw [List.drop_eq_getElem_cons hk,List.take_succ_cons,List.foldl_cons]
  have hst : ∀ (L : List Entry),foldE { gSt st B T E k with log:=L } E[k] = { gSt st B T E (k + 1) with log:=L }:=by
   intro L
   have ht : E.take (k + 1) = E.take k ++ [E[k]]:=by rw [List.take_succ_eq_append_getElem hk]
   unfold foldE gSt
   simp only
   rw [ht,zr1]
   unfold tailG
   rw [zfa]
  have e1:=hst (E.drop k)
  have e2 : ({ gSt st B T E k with log:=E.drop k } : State) = gSt st B T E k:=rfl
  rw [e2] at e1
  rw [e1]
  have gen : ∀ (l : List Entry) (s : State) (L : List Entry),List.foldl foldE { s with log:=L } l = { List.foldl foldE s l with log:=L }:=by
   intro l
   induction l with
   | nil => intro s L; rfl
   | cons x l ih => intro s L; exact ih (foldE s x) L
  rw [gen,g_foldl st B T E j (k + 1) (by omega)]
  have : k + 1 + j = k + (j + 1):=by omega
  rw [this]
  simp only [List.drop_eq_getElem_cons hk]
theorem zj0 (st : Int) (B : Base) (T : Entry) (E : List Entry) (j k : Nat) (h : k + j ≤ E.length) : foldedS (gSt st B T E k) j = gSt st B T E (k + j):=by
 unfold foldedS
 have:=g_foldl st B T E j k h
 show ({ List.foldl foldE (gSt st B T E k) ((E.drop k).take j) with log:=(E.drop k).drop j } : State) = _
 rw [this,List.drop_drop]
 rfl
theorem g_add (st : Int) {B : Base} {T : Entry} {E : List Entry} (h : goodG B T E) {k : Nat} (hk : k ≤ E.length) (h6 : E.length - k ≤ 6) (hst : st ≤ 60) (e : Entry) :
  addS (gSt st B T E k) e = if nextE (lastG T E) e = true then (gSt st B T (E ++ [e]) (k + (E.length - k + 1 - 6)),0) else (State.zero,10):=by
 unfold addS
 rw [g_is st h h6 hst,Bool.true_and,zim (g_last st hk).1 (g_last st hk).2]
 split
 ·have hl : (gSt st B T E k).log.length = E.length - k := by simp [gSt]
  have e1 : ({ gSt st B T E k with log:=(gSt st B T E k).log ++ [e] } : State) = gSt st B T (E ++ [e]) k:=by
   unfold gSt
   simp only
   rw [List.take_append_of_le_length hk,List.drop_append_of_le_length hk]
  rw [e1,hl,zj0 st B T (E ++ [e]) _ k (by simp; omega)]
 ·rfl
theorem zp9 (st : Int) {B : Base} {T : Entry} {E : List Entry} (h : goodG B T E) {k : Nat} (hk : k ≤ E.length) (n : Int) : placeS (gSt st B T E k) n = if T.n + (k : Int) ≤ n ∧ n ≤ T.n + (E.length : Int) then some (n - T.n - k).toNat else none:=by
 unfold placeS
 rw [zrq st h hk,(g_last st hk).1,h.nums.2.1]
 by_cases c : T.n + (k : Int) ≤ n ∧ n ≤ T.n + (E.length : Int)
 ·rw [if_neg (by omega), if_pos c]
  have:=h.nums.2.2
  have:=h.n
  have hw : IntKind.u32.wrap (n - (T.n + k)) = n - T.n - k:=by unfold IntKind.wrap; simp [IntKind.signed,IntKind.bits]; omega
  rw [hw]
 ·rw [if_pos (by omega),if_neg c]
theorem g_pl (st : Int) {B : Base} {T : Entry} {E : List Entry} (h : goodG B T E) {k : Nat} (hk : k ≤ E.length) (h6 : E.length - k ≤ 6) (hst : st ≤ 60) (n : Int) : plS (gSt st B T E k) n = if T.n + (k : Int) ≤ n ∧ n ≤ T.n + (E.length : Int) then some (n - T.n - k).toNat else none:=by
 unfold plS
 rw [if_pos (g_is st h h6 hst),zp9 st h hk]
theorem g_cut (st : Int) {B : Base} {T : Entry} {E : List Entry} (h : goodG B T E) {k : Nat} (hk : k ≤ E.length) (h6 : E.length - k ≤ 6) (hst : st ≤ 60) {j : Nat} (h1 : k ≤ j) (h2 : j ≤ E.length) : cutS (gSt st B T E k) (T.n + j) = (gSt st B T (E.take j) k,0):=by
 unfold cutS
 rw [if_pos (g_is st h h6 hst),zp9 st h hk,if_pos (by omega)]
 simp only
 congr 1
 unfold gSt
 simp only [State.mk.injEq,true_and]
 rw [List.take_take,Nat.min_eq_left (by omega),List.drop_take]
 refine ⟨rfl,rfl,?_⟩
 congr 1
 omega
theorem g_tailS (st : Int) {B : Base} {T : Entry} {E : List Entry} (h : goodG B T E) {k : Nat} (hk : k ≤ E.length) (h6 : E.length - k ≤ 6) (hst : st ≤ 60) {j : Nat} (h1 : k ≤ j) (h2 : j ≤ E.length) : tailS (gSt st B T E k) (T.n + j) = (gSt st B T E j,0):=by
 unfold tailS
 rw [if_pos (g_is st h h6 hst),zp9 st h hk,zrq st h hk,if_neg (by omega),if_pos (by omega)]
 simp only
 rw [zj0 st B T E _ k (by omega)]
 congr 2
 omega
theorem g_upto (st : Int) {B : Base} {T : Entry} {E : List Entry} (h : goodG B T E) {k : Nat} (hk : k ≤ E.length) (h6 : E.length - k ≤ 6) (hst : st ≤ 60) (n : Int) : uptoS (gSt st B T E k) n = if T.n + (k : Int) ≤ n ∧ n ≤ T.n + (E.length : Int) then (bOf B (E.take (n - T.n).toNat),true) else (Base.zero,false):=by
 unfold uptoS
 rw [g_pl st h hk h6 hst]
 split
 ·rename_i c
  split at c
  ·rename_i j c2
   injection c with c
   subst c
   rw [if_pos c2,zj0 st B T E _ k (by omega)]
   have : k + (n - T.n - k).toNat = (n - T.n).toNat:=by omega
   rw [this]
   rfl
  ·simp at c
 ·rename_i c
  split at c
  ·simp at c
  ·rename_i c2
   rw [if_neg c2]
theorem g_find (st : Int) {B : Base} {T : Entry} {E : List Entry} (h : goodG B T E) {k : Nat} (hk : k ≤ E.length) (h6 : E.length - k ≤ 6) (hst : st ≤ 60) (n : Int) : findS (gSt st B T E k) n = if T.n + (k : Int) < n then (match E[(n - T.n - 1).toNat]? with | some e => (e,true) | none => (Entry.zero,false)) else (Entry.zero,false):=by
 unfold findS
 rw [g_pl st h hk h6 hst]
 by_cases c : T.n + (k : Int) ≤ n ∧ n ≤ T.n + (E.length : Int)
 ·rw [if_pos c]
  by_cases c2 : T.n + (k : Int) < n
  ·obtain ⟨j, hj⟩ : ∃ j, (n - T.n - k).toNat = j + 1 := ⟨(n - T.n - k).toNat - 1, by omega⟩
   rw [hj,if_pos c2]
   simp only
   show (match (E.drop k)[j]? with | some e => (e,true) | none => (Entry.zero,false)) = _
   rw [List.getElem?_drop]
   have : k + j = (n - T.n - 1).toNat:=by omega
   rw [this]
  ·have : (n - T.n - k).toNat = 0 := by omega
   rw [this,if_neg c2]
 ·rw [if_neg c]
  by_cases c2 : T.n + (k : Int) < n
  ·rw [if_pos c2,List.getElem?_eq_none (by omega)]
  ·rw [if_neg c2]
theorem zhk {T : Entry} (h : T.op = ⟨0,0,0,0,0,⟨#[]⟩⟩) : tailG T [] = T:=by
 obtain ⟨a,b,c⟩:=T
 simp only at h
 subst h
 rfl
theorem zfj {s : State} (h : isSt s = true) : s.started ≤ 60 ∧ s.tail.since ≤ 60 ∧ s.tail.op = ⟨0,0,0,0,0,⟨#[]⟩⟩ ∧ s.log.length ≤ 6 ∧ okBase s.base = true:=by
 unfold isSt at h
 simp only [Bool.and_eq_true,Bool.not_eq_true',decide_eq_false_iff_not,decide_eq_true_eq] at h
 obtain ⟨h1,h2,h3,h4,h5,_⟩:=h
 exact ⟨by omega,by omega,h3,by omega,h5⟩
theorem g_self {s : State} (ho : stOk s) (h : isSt s = true) : s = gSt s.started s.base s.tail s.log 0 ∧ goodG s.base s.tail s.log:=by
 obtain ⟨h1,h2,h3,h4,h5⟩:=zfj h
 refine ⟨?_,za2 h,ho.log,ho.n,h2,h5⟩
 unfold gSt
 rw [List.take_zero,List.drop_zero,zhk h3]
 rfl
theorem g_tail_eq {T : Entry} {E : List Entry} {k : Nat} {e : Entry} (h : E[k]? = some e) : tailG T (E.take (k + 1)) = ⟨e.since,e.n,⟨0,0,0,0,0,⟨#[]⟩⟩⟩:=by
 unfold tailG
 rw [zag h,zfa]
theorem stands_g {st : Int} {B : Base} {T : Entry} {E : List Entry} (hE : goodG B T E) (hT : T.op = ⟨0,0,0,0,0,⟨#[]⟩⟩) (h6 : E.length ≤ 6) (hst : st ≤ 60) {b : State}
  (h : standsM (gSt st B T E 0) b = true) : ∃ j : Nat,j ≤ E.length ∧ b.tail.n = T.n + j ∧ b.base = bOf B (E.take j) ∧ b.tail = tailG T (E.take j):=by
 unfold standsM at h
 rw [g_upto st hE (Nat.zero_le _) (by omega) hst] at h
 by_cases c : T.n + ((0 : Nat) : Int) ≤ b.tail.n ∧ b.tail.n ≤ T.n + (E.length : Int)
 case neg => rw [if_neg c] at h; simp at h
 rw [if_pos c] at h
 simp only [Bool.true_and,Bool.and_eq_true,decide_eq_true_eq] at h
 obtain ⟨h1,h2⟩:=h
 refine ⟨(b.tail.n - T.n).toNat,by omega,by omega,h2.symm,?_⟩
 have hfd:=g_find st hE (Nat.zero_le _) (by omega) hst b.tail.n
 by_cases c2 : T.n < b.tail.n
 ·rw [if_pos (by omega)] at hfd
  obtain ⟨j,hj⟩ : ∃ j,(b.tail.n - T.n).toNat = j + 1:=⟨(b.tail.n - T.n).toNat - 1,by omega⟩
  have hj2 : (b.tail.n - T.n - 1).toNat = j:=by omega
  obtain ⟨e,he⟩ : ∃ e,E[j]? = some e:=⟨E[j]'(by omega),List.getElem?_eq_getElem _⟩
  rw [hj2,he] at hfd
  simp only at hfd
  rw [hfd,if_pos (show ((e,true) : Entry × Bool).2 = true from rfl)] at h1
  rw [hj,g_tail_eq he]
  exact h1.symm
 ·rw [if_neg (by omega)] at hfd
  rw [hfd,if_neg (show ¬ ((Entry.zero,false) : Entry × Bool).2 = true by simp)] at h1
  have : (b.tail.n - T.n).toNat = 0:=by omega
  rw [this,List.take_zero,zhk hT,← h1]
  exact zhk hT
theorem has_g {st : Int} {B : Base} {T : Entry} {E : List Entry} (hE : goodG B T E) (h6 : E.length ≤ 6) (hst : st ≤ 60) {e : Entry} {n : Nat} (hn : e.n = T.n + ((n + 1 : Nat) : Int)) (h : hasE (gSt st B T E 0) e = true) : E[n]? = some e:=by
 unfold hasE at h
 rw [g_find st hE (Nat.zero_le _) (by omega) hst,hn,if_pos (by omega),show (T.n + ((n + 1 : Nat) : Int) - T.n - 1).toNat = n by omega] at h
 cases hx : E[n]? with
 | none => rw [hx] at h; simp at h
 | some x => rw [hx] at h; simp only [Bool.true_and,decide_eq_true_eq] at h; rw [h]
theorem common_g {st : Int} {B : Base} {T : Entry} {E : List Entry} (hE : goodG B T E) (h6 : E.length ≤ 6) (hst : st ≤ 60) :
  ∀ (l : List Entry) (n : Nat),n ≤ E.length → (∀ (i : Nat) (e : Entry),l[i]? = some e → e.n = T.n + ((n + i + 1 : Nat) : Int)) → ∃ c : Nat,c ≤ l.length ∧ n + c ≤ E.length ∧ commonL (gSt st B T E 0) (T.n + n) l = T.n + ((n + c : Nat) : Int) ∧ E.take (n + c) = E.take n ++ l.take c:=by
 intro l
 induction l with
 | nil => intro n hn _; exact ⟨0,Nat.le_refl _,hn,rfl,by simp⟩
 | cons e l ih =>
  intro n hn hl
  simp only [commonL]
  split
  ·rename_i hh
   have h0:=hl 0 e rfl
   have hx:=has_g hE h6 hst (n:=n) (by rw [h0,Nat.add_zero]) hh
   have hlt : n < E.length:=(List.getElem?_eq_some_iff.1 hx).1
   obtain ⟨c,h1,h2,h3,h4⟩:=ih (n + 1) (by omega) (fun i x hi => by have:=hl (i + 1) x (by simpa using hi); omega)
   refine ⟨c + 1,by simp; omega,by omega,?_,?_⟩
   ·rw [h0,show T.n + ((n + 0 + 1 : Nat) : Int) = T.n + ((n + 1 : Nat) : Int) by omega,h3,show n + (c + 1) = n + 1 + c by omega]
   ·rw [show n + (c + 1) = n + 1 + c by omega,h4,zag hx]; simp
  ·exact ⟨0,Nat.zero_le _,hn,rfl,by simp⟩
theorem next_g {B : Base} {T : Entry} {G : List Entry} (hG : goodG B T G) {m : Nat} {e : Entry} (h : G[m]? = some e) : nextE (lastG T (G.take m)) e = true:=by
 have h1:=(hG.take (m + 1)).ch
 rw [zag h,zcl,Bool.and_eq_true] at h1
 exact h1.2
theorem added_g (st : Int) (hst : st ≤ 60) {B : Base} {T : Entry} {G : List Entry} (hG : goodG B T G) : ∀ (d m k : Nat),m + d = G.length → k ≤ m → m - k ≤ 6 → ∃ k',k ≤ k' ∧ (k' = k ∨ k' ≤ G.length - 6) ∧ k' ≤ G.length ∧ G.length - k' ≤ 6 ∧ addedM (gSt st B T (G.take m) k) (G.drop m) = (gSt st B T G k',0):=by
 intro d
 induction d with
 | zero =>
  intro m k hm hk h6
  have : m = G.length:=by omega
  subst this
  rw [List.take_length,List.drop_length]
  exact ⟨k,Nat.le_refl _,.inl rfl,hk,h6,rfl⟩
 | succ d ih =>
  intro m k hm hk h6
  obtain ⟨e,he⟩ : ∃ e,G[m]? = some e:=⟨G[m]'(by omega),List.getElem?_eq_getElem _⟩
  have hdr : G.drop m = e :: G.drop (m + 1):=by
   rw [List.drop_eq_getElem_cons (by omega)]
   congr 1
   exact (List.getElem?_eq_some_iff.1 he).2
  have hlt : (G.take m).length = m:=by rw [List.length_take]; omega
  have ha:=g_add st (hG.take m) (k:=k) (by omega) (by omega) hst e
  rw [next_g hG he,if_pos rfl,← zag he,hlt] at ha
  rw [hdr]
  simp only [addedM]
  rw [ha,if_pos rfl]
  obtain ⟨k',h1,h2,h3,h4,h5⟩:=ih (m + 1) (k + (m - k + 1 - 6)) (by omega) (by omega) (by omega)
  exact ⟨k',by omega,by omega,h3,h4,h5⟩
/-- What was made of two states,applied to the one,comes to the other. -/
theorem zrv {a b : State} (ha : stOk a) (hb : stOk b) (ca : isSt a = true) (cb : isSt b = true) : applyM a (makeM a b) = (b,0):=by
 obtain ⟨a1,a2,a3,a4,a5⟩:=zfj ca
 obtain ⟨b1,b2,b3,b4,b5⟩:=zfj cb
 obtain ⟨ea,hE⟩:=g_self ha ca
 have hhb : (headM b).tail = b.tail:=rfl
 have hhs : (headM b).started = b.started:=rfl
 unfold makeM
 rw [if_pos (by rw [ca,cb]; rfl)]
 by_cases c3 : ({ a with started:=b.started } : State) = b
 ·rw [if_pos c3]
  unfold applyM
  have hmid : midM a ⟨0,0,[],headM b⟩ = (a,0):=rfl
  have htl : a.tail = b.tail:=by have:=congrArg State.tail c3; exact this
  have hts : tailS a b.tail.n = (a,0):=by
   have h:=g_tailS a.started hE (Nat.zero_le _) (by omega) a1 (Nat.le_refl 0) (Nat.zero_le _)
   rw [← ea,show a.tail.n + ((0 : Nat) : Int) = b.tail.n by rw [htl]; omega] at h
   exact h
  rw [ca,form_0,if_pos (by rfl),if_neg (by show ¬ (0 : Int) = 2; decide),hmid,if_pos rfl]
  simp only [hhb,hhs,hts]
  rw [c3,if_pos ⟨trivial,by rw [htl],cb⟩]
 rw [if_neg c3]
 by_cases c4 : standsM a b = true
 case neg =>
  rw [if_neg c4]
  unfold applyM
  rw [ca,form_2,if_pos (by rfl),if_pos (by rfl)]
  simp only
  rw [if_pos cb]
 rw [if_pos c4]
 have hst0 : standsM (gSt a.started a.base a.tail a.log 0) b = true:=by rw [← ea]; exact c4
 obtain ⟨j,hjE,hjn,hjb,hjt⟩:=stands_g hE a3 a4 a1 hst0
 obtain ⟨eb,hF⟩:=g_self hb cb
 have hFn : ∀ (i : Nat) (e : Entry),b.log[i]? = some e → e.n = a.tail.n + ((j + i + 1 : Nat) : Int):=fun i e he => by
  have:=hF.nums.1 i e he
  omega
 obtain ⟨c,hc1,hc2,hc3,hc4⟩:=common_g hE a4 a1 b.log j hjE hFn
 rw [← ea,← hjn] at hc3
 rw [hc3,hjn,show ((a.tail.n + ((j + c : Nat) : Int)) - (a.tail.n + (j : Int))).toNat = c by omega]
 have hlk : (a.log.take j).length = j:=by rw [List.length_take]; omega
 have hG : goodG a.base a.tail (a.log.take j ++ b.log):=by
  refine ⟨?_,fun e he => ?_,hE.n,hE.s,hE.b⟩
  ·rw [zbo, (hE.take j).ch, Bool.true_and, ← za2 cb, hjt]
   refine zdb ?_ ?_ _ <;> unfold tailG lastG <;> cases (a.log.take j).getLast? <;> rfl
  ·rcases List.mem_append.1 he with he | he
   ·exact hE.ok e (List.mem_of_mem_take he)
   ·exact hF.ok e he
 have hGt : ∀ i,(a.log.take j ++ b.log).take (j + i) = a.log.take j ++ b.log.take i:=fun i => by
  rw [List.take_append,hlk,List.take_of_length_le (by omega),show j + i - j = i by omega]
 have hGd : ∀ i,(a.log.take j ++ b.log).drop (j + i) = b.log.drop i:=fun i => by
  rw [List.drop_append,hlk,List.drop_eq_nil_of_le (by omega),List.nil_append,show j + i - j = i by omega]
 have hGl : (a.log.take j ++ b.log).length = j + b.log.length:=by rw [List.length_append,hlk]
 have hGm : ∀ x,gSt x a.base a.tail (a.log.take j ++ b.log) j = { b with started:=x }:=fun x => by
  have g0:=hGt 0
  have g1:=hGd 0
  simp only [Nat.add_zero,List.take_zero,List.append_nil,List.drop_zero] at g0 g1
  unfold gSt
  rw [g0,g1,← hjb,← hjt]
 rw [← hGd c]
 have hEc : a.log.take (j + c) = (a.log.take j ++ b.log).take (j + c):=by rw [hc4,hGt]
 generalize a.log.take j ++ b.log = G at *
 obtain ⟨kk,k1,k2,k3,k4,k5⟩:=added_g a.started a1 hG (G.length - (j + c)) (j + c) 0 (by omega) (by omega) (by omega)
 have hcut : cutS a (a.tail.n + ((j + c : Nat) : Int)) = (gSt a.started a.base a.tail (G.take (j + c)) 0,0):=by
  have h:=g_cut a.started hE (Nat.zero_le _) (by omega) a1 (Nat.zero_le (j + c)) hc2
  rw [← ea,hEc] at h
  exact h
 have hmid : midM a ⟨1,a.tail.n + ((j + c : Nat) : Int),G.drop (j + c),headM b⟩ = (gSt a.started a.base a.tail G kk,0):=by
  unfold midM
  rw [if_pos rfl,hcut,if_pos rfl]
  exact k5
 have hts : tailS (gSt a.started a.base a.tail G kk) b.tail.n = ({ b with started:=a.started },0):=by
  rw [hjn,g_tailS a.started hG k3 k4 a1 (by omega) (by omega),hGm]
 unfold applyM
 rw [ca,form_1,if_pos (by rfl),if_neg (by show ¬ (1 : Int) = 2; decide),hmid,if_pos rfl]
 simp only [hhb,hhs,hts]
 rw [if_pos ⟨trivial,trivial,cb⟩]
end Go.Proofs.YthlpognahlnaaaaGreat
