/- The pure evaluator: from a law's evaluation to its statement: arguments read as data,opened; memory below the call's own stays. / The pure evaluator: a law that evaluates to true,whatever its arguments: its row's step. / A law's arguments,one by one. / Numbers: wraps that do nothing; shifts as quotients. / Rows of a fixed length (Go's arrays) as structures; cells; small facts for the evaluator. -/
import Derived.Test.YthlpognahlnaaaaGreatPvSound
import Derived.ProofKit
import Derived.OpenShut
set_option linter.all false
namespace Pv
open Go Go.RowKit Go.ChangeShapes

def tiles (P : Program) (pl : TypeId → Bool) : Nat → List Field → Nat → Bool
 | o,[],e => o == e
 | o,f :: r,e => f.offset == o && pl f.type && tiles P pl (o + P.cellsOf f.type) r e

/-- Types of plain data,laid out as their fields follow one another. -/
def plain (P : Program) : Nat → TypeId → Bool
 | 0,_ => false
 | n + 1,t => match P.underlying t with
  | some .bool | some .string | some (.int _) => true
  | some (.slice e) => plain P n e && decide (0 < P.cellsOf e)
  | some (.struct fs) => tiles P (plain P n) 0 fs.toList (P.cellsOf t)
  | some (.array m e) => P.cellsOf t == m * P.cellsOf e && plain P n e
  | _ => false

/-- Cells packed into one element. -/
def pack (P : Program) (t : TypeId) (cs : List DV) : DV:=match P.underlying t with
 | some (.struct _) | some (.array _ _) => .agg cs
 | _ => cs.headD (.b false)

def ShapeFs (sh : TypeId → List DV → Prop) : List Field → List DV → Prop
 | [],ds => ds = []
 | f :: r,ds => ∃ a b,ds = a ++ b ∧ sh f.type a ∧ ShapeFs sh r b

/-- What data of a type looks like. -/
def Shape (P : Program) : Nat → TypeId → List DV → Prop
 | 0,_,_ => False
 | n + 1,t,ds => match P.underlying t with
  | some .bool => ∃ b,ds = [.b b]
  | some (.int k) => ∃ x,ds = [.i k x] ∧ (Lit.int k x).wf = true
  | some .string => ∃ s : ByteArray,ds = [.s s] ∧ s.size ≤ maxLen
  | some (.slice e) => ∃ es : List (List DV),ds = [.sl (es.map (pack P e))] ∧ es.length ≤ maxLen ∧ ∀ x ∈ es,Shape P n e x
  | some (.struct fs) => ShapeFs (Shape P n) fs.toList ds
  | some (.array m e) => ∃ es : List (List DV),ds = es.flatten ∧ es.length = m ∧ ∀ x ∈ es,Shape P n e x
  | _ => False

theorem zjp {P : Program} {n : Nat} {t : TypeId} {ds : List DV} (h : Shape P n t ds) : (pack P t ds).cells = ds:=by
 cases n with
 | zero => exact h.elim
 | succ n =>
  unfold Shape at h
  unfold pack
  split at h
  ·rename_i e; obtain ⟨b,rfl⟩:=h; simp [e,DV.cells]
  ·rename_i e; obtain ⟨x,rfl,_⟩:=h; simp [e,DV.cells]
  ·rename_i e; obtain ⟨s,rfl,_⟩:=h; simp [e,DV.cells]
  ·rename_i e; obtain ⟨es,rfl,_⟩:=h; simp [e,DV.cells]
  ·rename_i e; simp [e,DV.cells]
  ·rename_i e; simp [e,DV.cells]
  ·exact h.elim

def fixAll (w : World) (b _ : Nat) : Prop:=b < w.heap.size

/-- A reading opened. -/
def Opened (P : Program) (w : World) (n : Nat) (t : TypeId) (cs : List Value) : Prop:=∃ ds,RDs (fixAll w) w ds cs ∧ ones cs ∧ Shape P n t ds

theorem zrt : ones []:=fun _ h => by simp at h
theorem zdw {v : Value} (h : v.oneCell' = true) : ones [v]:=fun x hx => by simp at hx; subst hx; exact h
theorem zhh {a b : List Value} (ha : ones a) (hb : ones b) : ones (a ++ b):=fun x hx => by
 rcases List.mem_append.1 hx with h | h
 ·exact ha x h
 ·exact hb x h

section
variable {H : Type} {enc : TypeId × Value → H} {P : Program} {w : World} {base : Nat} {spare : Nat → Bool} {held : Bool}

theorem zi7 {n : Nat} {cs : List Value} : ∀ (l : List Field) (o e : Nat),tiles P (plain P n) o l e = true → e = cs.length →
  (∀ f ∈ l,plain P n f.type = true → Opened P w n f.type ((cs.drop f.offset).take (P.cellsOf f.type))) →
  o ≤ e ∧ ∃ ds,RDs (fixAll w) w ds (cs.drop o) ∧ ones (cs.drop o) ∧ ShapeFs (Shape P n) l ds
 | [],o,e,h,he,_ => by
  simp [tiles] at h
  subst h
  refine ⟨Nat.le_refl _,[],?_,?_,rfl⟩
  ·rw [he,List.drop_length]; exact .nil
  ·rw [he,List.drop_length]; exact zrt
 | f :: r, o, e, h, he, hop => by
  simp only [tiles,Bool.and_eq_true,beq_iff_eq] at h
  obtain ⟨⟨rfl,hpl⟩,ht⟩:=h
  obtain ⟨hle,ds,h1,h2,h3⟩:=zi7 r _ e ht he (fun g hg => hop g (by simp [hg]))
  obtain ⟨d0,k1,k2,k3⟩:=hop f (by simp) hpl
  have e1 : cs.drop f.offset = (cs.drop f.offset).take (P.cellsOf f.type) ++ cs.drop (f.offset + P.cellsOf f.type):=by
   rw [← List.drop_drop,List.take_append_drop]
  refine ⟨by omega,d0 ++ ds,?_,?_,d0,ds,rfl,k3,h3⟩
  ·rw [e1]; exact k1.append h1
  ·rw [e1]; exact zhh k2 h2

theorem zmo {n : Nat} {e : TypeId} {z : Nat} : ∀ (m : Nat) (cs : List Value),cs.length = m * z → (∀ i,i < m → Opened P w n e ((cs.drop (i * z)).take z)) →
  ∃ es : List (List DV),RDs (fixAll w) w es.flatten cs ∧ ones cs ∧ es.length = m ∧ (∀ x ∈ es,Shape P n e x) ∧ ∀ x ∈ es,x.length = z
 | 0,cs,hl,_ => by
  have : cs = []:=List.eq_nil_of_length_eq_zero (by omega)
  subst this
  exact ⟨[],.nil,zrt,rfl,by simp,by simp⟩
 | m + 1, cs, hl, hop => by
  obtain ⟨d0,k1,k2,k3⟩:=hop 0 (by omega)
  have hzl : z ≤ cs.length:=by rw [hl,Nat.succ_mul]; omega
  obtain ⟨es,h1,h2,h3,h4,h5⟩:=zmo (z:=z) m (cs.drop z) (by rw [List.length_drop,hl,Nat.succ_mul]; omega) (fun i hi => by
   rw [List.drop_drop]
   have:=hop (i + 1) (by omega)
   rw [Nat.succ_mul,Nat.add_comm] at this
   exact this)
  simp only [Nat.zero_mul,List.drop_zero] at k1 k2
  have e1 : cs = cs.take z ++ cs.drop z:=(List.take_append_drop z cs).symm
  refine ⟨d0 :: es,?_,?_,by simp [h3],?_,?_⟩
  ·rw [e1,List.flatten_cons]; exact k1.append h1
  ·rw [e1]; exact zhh k2 h2
  ·intro x hx
   rcases List.mem_cons.1 hx with rfl | hx
   ·exact k3
   ·exact h4 x hx
  ·intro x hx
   rcases List.mem_cons.1 hx with rfl | hx
   ·have := k1.length
    simp at this
    omega
   ·exact h5 x hx

theorem znk {n : Nat} {e : TypeId} : ∀ {es : List (List DV)},(∀ x ∈ es,Shape P n e x) → flat (es.map (pack P e)) = es.flatten
 | [],_ => rfl
 | x :: r,h => by
  have:=znk (es:=r) (fun y hy => h y (by simp [hy]))
  simp only [flat,List.map_cons,List.flatMap_cons,List.flatten_cons] at this ⊢
  rw [zjp (h x (by simp)),this]

theorem openD : ∀ (n : Nat) {t : TypeId},plain P n t = true → ∀ {fuel : Nat} {cs : List Value} {x : DataW H × List MemPlace},DataW.trod enc P w base spare held fuel t cs = some x → Opened P w n t cs
 | 0,t,hp,_,_,_,_ => by simp [plain] at hp
 | n + 1, t, hp, fuel, cs, x, hx => by
  unfold plain at hp
  split at hp
  ·rename_i ht
   obtain ⟨b,rfl,_⟩:=DataW.trod_bool ht hx
   exact ⟨[.b b],.cons (.b b) .nil,zdw rfl,by simp [Shape,ht]⟩
  ·rename_i ht
   obtain ⟨s,rfl,_,hs⟩:=DataW.trod_string ht hx
   exact ⟨[.s s],.cons (.s s) .nil,zdw rfl,by simp [Shape,ht,hs]⟩
  ·rename_i k ht
   obtain ⟨i,rfl,_,hw⟩:=DataW.trod_int ht hx
   exact ⟨[.i k i],.cons (.i k i) .nil,zdw rfl,by simp [Shape,ht,hw]⟩
  ·rename_i e ht
   simp only [Bool.and_eq_true,decide_eq_true_eq] at hp
   obtain ⟨hpe,hz⟩:=hp
   rcases DataW.trod_slice ht hx with ⟨rfl,_⟩ | ⟨a,len,cap,elems,rest,m,_,rfl,_,hb,hl,hm,hlen,hel,_⟩
   ·exact ⟨[.sl []],.cons (.nil none 0) .nil,zdw rfl,by simp only [Shape,ht]; exact ⟨[],rfl,by simp,by simp⟩⟩
   ·have one : ∀ i, i < len → ∃ ci, w.cells? base (a.add (i * P.cellsOf e)) (P.cellsOf e) = some ci ∧ Opened P w n e ci := by
     intro i hi
     have hy : elems[i]? = some (elems[i]'(by omega)):=List.getElem?_eq_getElem (by omega)
     have:=hel i hi
     rw [hy,Option.bind_eq_some_iff] at this
     obtain ⟨ci,h1,h2⟩:=this
     exact ⟨ci,h1,openD n hpe h2⟩
    cases hl0 : len with
    | zero =>
     exact ⟨[.sl []],.cons (.nil (some a) cap) .nil,zdw rfl,by simp only [Shape,ht]; exact ⟨[],rfl,by simp,by simp⟩⟩
    | succ l0 =>
     have hspot : a.spot = none ∧ a.block < w.heap.size:=by
      obtain ⟨ci,h1,_⟩:=one 0 (by omega)
      obtain ⟨_,h2,h3⟩:=World.cells?_some h1
      have h4:=h3 0 hz
      simp only [Nat.zero_mul,Addr.add,if_true] at h4
      have : ci[0]? = some (ci[0]'(by omega)):=List.getElem?_eq_getElem (by omega)
      rw [this] at h4
      unfold World.cell? at h4
      split at h4
      ·rename_i hh
       refine ⟨?_,(Array.getElem?_eq_some_iff.1 hh).1⟩
       split at h4
       ·simp at h4
       ·rename_i hs; simpa using hs
      ·simp at h4
     obtain ⟨blk,off,spot⟩:=a
     simp only at hspot
     obtain ⟨rfl,hblk⟩:=hspot
     have cell : ∀ i,i < len → ∀ j,j < P.cellsOf e → ∃ ci : List Value,w.cells? base (Addr.add ⟨blk,off,none⟩ (i * P.cellsOf e)) (P.cellsOf e) = some ci ∧ w.cell? ⟨blk,off + (i * P.cellsOf e + j),none⟩ = ci[j]?:=by
      intro i hi j hj
      obtain ⟨ci,h1,_⟩:=one i hi
      refine ⟨ci,h1,?_⟩
      obtain ⟨_,h2,h3⟩:=World.cells?_some h1
      have h4:=h3 j hj
      rw [← h4]
      congr 1
      simp only [Addr.add]
      split <;> split <;> simp_all <;> omega
     have rows : ∀ m,m ≤ len → ∃ vs : List Value,vs.length = m * P.cellsOf e ∧ (∀ j v,vs[j]? = some v → w.cell? ⟨blk,off + j,none⟩ = some v) ∧ ∀ i,i < m → Opened P w n e ((vs.drop (i * P.cellsOf e)).take (P.cellsOf e)):=by
      intro m
      induction m with
      | zero => intro _; exact ⟨[],by simp,by simp,by simp⟩
      | succ m ih =>
       intro hm'
       obtain ⟨vs,h1,h2,h3⟩:=ih (by omega)
       obtain ⟨ci,k1,k2⟩:=one m (by omega)
       have hcl:=(World.cells?_some k1).2.1
       refine ⟨vs ++ ci,by simp [h1,hcl,Nat.succ_mul],?_,?_⟩
       ·intro j v hj
        by_cases hjl : j < vs.length
        ·rw [List.getElem?_append_left hjl] at hj
         exact h2 j v hj
        ·rw [List.getElem?_append_right (by omega)] at hj
         have hlt:=(List.getElem?_eq_some_iff.1 hj).1
         obtain ⟨ci',q1,q2⟩:=cell m (by omega) (j - vs.length) (by omega)
         rw [k1] at q1
         simp only [Option.some.injEq] at q1
         subst q1
         rw [hj,← h1,show vs.length + (j - vs.length) = j by omega] at q2
         exact q2
       ·intro i hi
        by_cases him : i < m
        ·have hle : i * P.cellsOf e + P.cellsOf e ≤ vs.length := by
          rw [h1,← Nat.succ_mul]; exact Nat.mul_le_mul_right _ him
         rw [List.drop_append_of_le_length (by omega),List.take_append_of_le_length (by rw [List.length_drop]; omega)]
         exact h3 i him
        ·have : i = m := by omega
         subst this
         rw [← h1,List.drop_left,← hcl,List.take_length]
         exact k2
     obtain ⟨vs,h1,h2,h3⟩:=rows len (Nat.le_refl _)
     obtain ⟨es,q1,q2,q3,q4,q5⟩:=zmo len vs h1 h3
     refine ⟨[.sl (es.map (pack P e))],.cons ?_ .nil,zdw rfl,?_⟩
     ·have hel : (es.map (pack P e)).length = len := by simp [q3]
      rw [← hl0,← hel]
      refine .sl (vs:=vs) (z:=P.cellsOf e) ?_ q2 ?_ (by rw [hel]; exact hl) ?_
      ·rw [znk q4]; exact q1
      ·intro x hx
       obtain ⟨y,hy,rfl⟩:=List.mem_map.1 hx
       rw [zjp (q4 y hy)]
       exact q5 y hy
      ·intro j v hj
       exact ⟨hblk,h2 j v hj⟩
     ·simp only [Shape, ht]
      exact ⟨es,rfl,by rw [q3]; omega,q4⟩
  ·rename_i fs ht
   obtain ⟨xs,m,_,_,hl,hxl,hf⟩:=DataW.trod_struct ht hx
   obtain ⟨_,ds,h1,h2,h3⟩:=zi7 (w:=w) (cs:=cs) fs.toList 0 _ hp hl.symm (by
    intro f hfm hpf
    obtain ⟨i,hi⟩:=List.getElem?_of_mem hfm
    have hi' : fs[i]? = some f:=by simpa using hi
    have hlt : i < fs.size:=(Array.getElem?_eq_some_iff.1 hi').1
    have hxi : xs[i]? = some (xs[i]'(by omega)):=List.getElem?_eq_getElem (by omega)
    have:=hf i f hi'
    rw [hxi] at this
    exact openD n hpf this)
   exact ⟨ds,by simpa using h1,by simpa using h2,by simp only [Shape,ht]; exact h3⟩
  ·rename_i m e ht
   simp only [Bool.and_eq_true,beq_iff_eq] at hp
   obtain ⟨hc,hpe⟩:=hp
   obtain ⟨xs,m',_,_,hl,hxl,hf⟩:=DataW.trod_array ht hx
   obtain ⟨es,h1,h2,h3,h4,_⟩:=zmo (P:=P) (w:=w) (n:=n) (e:=e) (z:=P.cellsOf e) m cs (by rw [hl,hc]) (by
    intro i hi
    have hxi : xs[i]? = some (xs[i]'(by omega)):=List.getElem?_eq_getElem (by omega)
    have:=hf i hi
    rw [hxi] at this
    exact openD n hpe this)
   exact ⟨es.flatten,h1,h2,by simp only [Shape,ht]; exact ⟨es,rfl,h3,h4⟩⟩
  ·simp at hp

end
end Pv

namespace Pv
open Go Go.RowKit Go.ChangeShapes Go.WideShapes

def gh0 (w : World) : Gh:={ fix:=fixAll w,pl:=fun _ => .no }

theorem RH.empty (w : World) : RH (gh0 w) w [] where
 ob o b h:=by simp at h
 out _ _:=rfl
 inj _ _ _ h:=by simp [gh0,Pl.own] at h
 fixb _ _ h:=h

theorem Stp.below {w w' : World} {γ' : Gh} (h : Stp (gh0 w) w γ' w') : Below w.heap.size w w' :=
 ⟨h.os,h.tape,h.output,h.size,fun k hk => h.other k hk (fun o ho => by simp [gh0,Pl.own] at ho)⟩

/-- Arguments: data of these types. -/
def ArgsOk (P : Program) (n : Nat) : List TypeId → List AV → Prop
 | [],xs => xs = []
 | t :: r,xs => ∃ ds ys,xs = .d (pack P t ds) :: ys ∧ Shape P n t ds ∧ ArgsOk P n r ys

section
variable {H : Type} {enc : TypeId × Value → H} {P : Program} {w : World} {base : Nat} {spare : Nat → Bool} {held : Bool}

theorem open_arg {n : Nat} {t : TypeId} (hp : plain P n t = true) {b0 : Nat} {v : Value} {d : DataW H} {ps : List MemPlace} (hval : Value.okWide P w .any b0 t v) (hd : DataW.Trod enc P w base spare held t v d ps) :
  ∃ ds,Shape P n t ds ∧ RD (fixAll w) w (pack P t ds) v:=by
 obtain ⟨fuel,hf⟩:=hd
 obtain ⟨ds,h1,h2,h3⟩:=openD n hp hf
 refine ⟨ds,h3,?_⟩
 have single : ∀ (h : v.cells.toList = [v]) (_ : ds.length = 1),RD (fixAll w) w (ds.headD (.b false)) v:=by
  intro h hl
  rw [h] at h1
  cases h1 with
  | cons hx ht => exact hx
 have hlen:=h1.length
 cases n with
 | zero => exact h3.elim
 | succ n =>
  unfold pack
  unfold Shape at h3
  split at h3
  ·rename_i ht; obtain ⟨b,rfl⟩:=okWide_bool ht hval; obtain ⟨_,rfl⟩:=h3; simp only [ht]; exact single rfl rfl
  ·rename_i ht; obtain ⟨b,rfl⟩:=okWide_int ht hval; obtain ⟨_,rfl,_⟩:=h3; simp only [ht]; exact single rfl rfl
  ·rename_i ht; obtain ⟨b,rfl⟩:=okWide_string ht hval; obtain ⟨_,rfl,_⟩:=h3; simp only [ht]; exact single rfl rfl
  ·rename_i ht; obtain ⟨a,l,c,rfl⟩:=okWide_slice ht hval; obtain ⟨_,rfl,_⟩:=h3; simp only [ht]; exact single rfl rfl
  ·rename_i ht
   simp only [ht]
   unfold Value.okWide at hval
   simp only [ht] at hval
   obtain ⟨cs,rfl,_⟩:=hval
   exact .agg (vs:=cs.toList) h1 h2
  ·rename_i ht
   simp only [ht]
   unfold Value.okWide at hval
   simp only [ht] at hval
   obtain ⟨cs,rfl,_⟩:=hval
   exact .agg (vs:=cs.toList) h1 h2
  ·exact h3.elim

theorem zm7 {n : Nat} {b0 : Nat} : ∀ {ts : List TypeId} {vs : List Value} {ds : List (DataW H)} {ps : List MemPlace},ts.all (plain P n) = true →
  (∀ (j : Nat) t v,ts[j]? = some t → vs[j]? = some v → Value.okWide P w .any b0 t v) → DataW.TrodAll enc P w base spare held ts vs ds ps →
  ∃ xs,ArgsOk P n ts xs ∧ RVs (gh0 w) w xs vs ∧ ds.length = ts.length
 | [],vs,ds,ps,_,_,h => by
  obtain ⟨rfl,rfl,_⟩:=trodAll_nil h
  exact ⟨[],rfl,.nil,rfl⟩
 | t :: r,vs,ds,ps,hp,hv,h => by
  obtain ⟨v,vs',d,ds',p,q,rfl,rfl,rfl,h0,h1⟩:=trodAll_cons h
  simp only [List.all_cons,Bool.and_eq_true] at hp
  obtain ⟨xs,k1,k2,k3⟩:=zm7 hp.2 (fun j t v ht hv' => hv (j + 1) t v (by simpa using ht) (by simpa using hv')) h1
  obtain ⟨dd,q1,q2⟩:=open_arg hp.1 (hv 0 t v rfl rfl) h0
  exact ⟨_,⟨dd,xs,rfl,q1,k1⟩,.cons (.d q2) k2,by simp [k3]⟩

theorem zn1 (hl : laidOutB P = true) {W W' : World} {sp : Nat → Bool} (hb : Below W.heap.size W W') : ∀ {ts : List TypeId} {vs : List Value} {ds : List (DataW H)} {ps : List MemPlace},
  ts.all (fun t => P.readableRec t && decide (t < P.types.size)) = true → DataW.TrodAll enc P W 0 (fun _ => true) true ts vs ds ps → (∀ p ∈ ps,p.block < W.heap.size) → (∀ p ∈ ps,sp p.block = true) →
  DataW.TrodAll enc P W' 0 sp true ts vs ds ps
 | [],vs,ds,ps,_,h,_,_ => by
  obtain ⟨rfl,rfl,rfl⟩:=trodAll_nil h
  exact rfl
 | t :: r,vs,ds,ps,hp,h,hlt,hsp => by
  obtain ⟨v,vs',d,ds',p,q,rfl,rfl,rfl,h0,h1⟩:=trodAll_cons h
  simp only [List.all_cons,Bool.and_eq_true,decide_eq_true_eq] at hp
  refine ⟨p,q,?_,zn1 hl hb hp.2 h1 (fun x hx => hlt x (by simp [hx])) (fun x hx => hsp x (by simp [hx])),rfl⟩
  exact WideElems.Trod_stays hl hp.1.1 hp.1.2 h0 (fun x hx => hb.same (hlt x (by simp [hx]))) (fun x hx => hsp x (by simp [hx]))

end

/-- THE ROW's STEP: for a law that evaluates to true. -/
theorem lifted_of {H : Type} {enc : TypeId × Value → H} {C : Checked} {os : Os} {f : FuncId} {F : Func} {s : ChangeSpec} {conds : List PathCond} {tb : TypeId} {T : FuncId → Option AFn} (n : Nat)
  (own : ownKnob C.prog.godebug = none) (started : os.Started) (noInit : C.prog.inits.idxOf? f = none) (hfn : C.prog.funcs[f]? = some F)
  (witness : ∃ (w : World) (tape : Tape) (i : Input), w.os = os ∧ (w.forCall tape i).Shaped C.prog ∧ i.vars = [] ∧ Input.okWide C.prog (w.forCall tape i) .any w.heap.size f i ∧
   s.pre6 enc C.prog F conds false (w.forCall tape i).memory i.args ∧ Assume.holds {} C.prog (lone (Frame.enter C.prog f i.args .normal) [] (w.forCall tape i)))
  (hC : CRel C.prog T) (hl : laidOutB C.prog = true) (hpl : F.params.toList.all (plain C.prog n) = true) (hrd : F.params.toList.all (fun t => C.prog.readableRec t && decide (t < C.prog.types.size)) = true)
  (hres : F.resultTypes = #[tb]) (htb : C.prog.underlying tb = some .bool) (hvars : s.vars = [])
  (hs : ∀ (ds : List (DataW H)),ds.length = F.params.toList.length → s.fn H ds = { results:=[.lit (.bool true)],args:=ds })
  (hev : ∀ xs,ArgsOk C.prog n F.params.toList xs → ∃ H',evF T f xs [] = some (.d (.b true),H')) :
  ReturnsInHanded {} C os f .any (s.pre6 enc C.prog F conds false) (s.post enc C.prog F false true false false):=by
 refine returnsInHanded_of_change (C:=C) own started noInit hfn witness ?_
 intro W base args ds gs before hval hW _ _
 have hW':=hW
 obtain ⟨p,q,hA,hV,rfl,hfz,hnd⟩:=hW
 rw [hvars] at hV
 obtain ⟨rfl,rfl⟩:=trodVars_none hV
 obtain ⟨xs,hok,hxs,hlen⟩:=zm7 hpl (fun j t v h1 h2 => hval j t v (by simpa using h1) (by simpa using h2)) hA
 obtain ⟨H',he⟩:=hev xs hok
 have hS:=((sound T hC).1 f xs [] _ he).2 (gh0 W) W args.toList hxs (RH.empty W)
 have e0 : args.toList.toArray = args:=rfl
 rw [e0] at hS
 refine hS.mono fun e W' ⟨v,γ',he',hv,_,hstp⟩ => ?_
 have hb:=hstp.below
 have hv' : v = .bool true:=by
  cases hv with
  | d h => cases h; rfl
 subst hv'
 have hfn' : s.fn H (ds ++ []) = { results:=[.lit (.bool true)],args:=ds }:=by rw [List.append_nil]; exact hs ds hlen
 have hold : ∀ x ∈ p ++ [],(fun b => decide (b < W.heap.size)) x.block = true:=fun x hx => by simpa using hW'.lt x hx
 refine ⟨_,he',ds,[],p ++ [],[],p,[],hW',?_,?_,?_,World.keptBut_mono (fun x hx => ⟨hx,?_⟩) (hb.frame (· ∈ p ++ [])),fun h => by cases h⟩
 ·rw [hfn', hres]
  exact trodAll_cons_mk (shut_bool htb true) rfl
 ·rw [hfn']
  exact zn1 hl hb hrd hA (fun x hx => hW'.lt x (by simp [hx])) (fun x hx => hold x (by simp [hx]))
 ·rw [hfn', hvars]
  rfl
 ·rw [List.mem_append] at hx
  exact Or.inr hx
end Pv

namespace Pv
open Go
section
variable {P : Program} {n : Nat} {t e : TypeId} {r : List TypeId} {xs : List AV} {k : IntKind}
theorem arg_none (h : ArgsOk P n [] xs) : xs = []:=h
end
end Pv

namespace Pv
open Go
theorem wi64 {n : Int} (h : -9223372036854775808 ≤ n ∧ n ≤ 9223372036854775807) : IntKind.i64.wrap n = n:=by
 simp only [IntKind.wrap,IntKind.bits,IntKind.signed]; simp; omega
theorem wu64 {n : Int} (h : 0 ≤ n ∧ n < 18446744073709551616) : IntKind.u64.wrap n = n:=by
 simp only [IntKind.wrap,IntKind.bits,IntKind.signed]; simp; omega
theorem wu32 {n : Int} (h : 0 ≤ n ∧ n < 4294967296) : IntKind.u32.wrap n = n:=by
 simp only [IntKind.wrap,IntKind.bits,IntKind.signed]; simp; omega
theorem wu8 {n : Int} (h : 0 ≤ n ∧ n < 256) : IntKind.u8.wrap n = n:=by
 simp only [IntKind.wrap,IntKind.bits,IntKind.signed]; simp; omega
theorem zmt (n : Int) : 0 ≤ IntKind.u32.wrap n ∧ IntKind.u32.wrap n < 4294967296:=by
 simp only [IntKind.wrap,IntKind.bits,IntKind.signed]; simp; omega
theorem wf_u32 {n : Int} (h : (Lit.int .u32 n).wf = true) : 0 ≤ n ∧ n < 4294967296:=by
 simp [Lit.wf,IntKind.min,IntKind.max,IntKind.signed,IntKind.bits] at h; omega
theorem wf_u8 {n : Int} (h : (Lit.int .u8 n).wf = true) : 0 ≤ n ∧ n < 256:=by
 simp [Lit.wf,IntKind.min,IntKind.max,IntKind.signed,IntKind.bits] at h; omega
theorem wf_i64 {n : Int} (h : (Lit.int .i64 n).wf = true) : -9223372036854775808 ≤ n ∧ n ≤ 9223372036854775807:=by
 simp [Lit.wf,IntKind.min,IntKind.max,IntKind.signed,IntKind.bits] at h; omega
theorem fdivN (a : Nat) (b : Nat) : (a : Int).fdiv (b : Int) = ((a / b : Nat) : Int):=by
 rw [Int.fdiv_eq_ediv_of_nonneg _ (by omega)]; rfl
theorem log2_div (x : Nat) (k : Nat) (h : 2 ^ k ≤ x) : Nat.log2 x = Nat.log2 (x / 2 ^ k) + k:=by
 have hp : 0 < 2 ^ k:=Nat.two_pow_pos k
 have hx : x ≠ 0:=by omega
 have hy : x / 2 ^ k ≠ 0:=by
  have:=(Nat.le_div_iff_mul_le hp (x:=1) (y:=x)).2 (by omega)
  omega
 apply Nat.le_antisymm
 ·have h1 : x / 2 ^ k < 2 ^ (Nat.log2 (x / 2 ^ k) + 1) := (Nat.log2_lt hy).1 (by omega)
  have h2 : x < 2 ^ (Nat.log2 (x / 2 ^ k) + 1 + k):=by
   rw [Nat.pow_add]
   exact (Nat.div_lt_iff_lt_mul hp).1 h1
  have:=(Nat.log2_lt hx).2 h2
  omega
 ·have h1 : 2 ^ (Nat.log2 (x / 2 ^ k)) ≤ x / 2 ^ k := (Nat.le_log2 hy).1 (Nat.le_refl _)
  refine (Nat.le_log2 hx).2 ?_
  rw [Nat.pow_add]
  exact (Nat.le_div_iff_mul_le hp).1 h1
end Pv
namespace Pv
/-- What comes behind a loop. -/
theorem zbd {β : Type} {x : Option (AExit × Tm × Heap)} {e : AExit} {H' : Heap} {P : Tm → Prop} {f : AExit × Tm × Heap → Option β} {r : Option β} (h : ∃ T',x = some (e,T',H') ∧ P T') (hf : ∀ T',P T' → f (e,T',H') = r) : x.bind f = r:=by
 obtain ⟨T',rfl,hp⟩:=h
 exact hf T' hp
end Pv

namespace Pk
open Pv Go

structure R3 (α : Type) where
 a0 : α
 a1 : α
 a2 : α
 deriving DecidableEq
structure R4 (α : Type) where
 a0 : α
 a1 : α
 a2 : α
 a3 : α
 deriving DecidableEq
structure R5 (α : Type) where
 a0 : α
 a1 : α
 a2 : α
 a3 : α
 a4 : α
 deriving DecidableEq
structure R6 (α : Type) where
 a0 : α
 a1 : α
 a2 : α
 a3 : α
 a4 : α
 a5 : α
 deriving DecidableEq

section
variable {α : Type}
def R3.l (r : R3 α) : List α:=[r.a0,r.a1,r.a2]
def R4.l (r : R4 α) : List α:=[r.a0,r.a1,r.a2,r.a3]
def R5.l (r : R5 α) : List α:=[r.a0,r.a1,r.a2,r.a3,r.a4]
def R6.l (r : R6 α) : List α:=[r.a0,r.a1,r.a2,r.a3,r.a4,r.a5]
def R3.cs (f : α → List DV) (r : R3 α) : List DV:=f r.a0 ++ (f r.a1 ++ f r.a2)
def R4.cs (f : α → List DV) (r : R4 α) : List DV:=f r.a0 ++ (f r.a1 ++ (f r.a2 ++ f r.a3))
def R5.cs (f : α → List DV) (r : R5 α) : List DV:=f r.a0 ++ (f r.a1 ++ (f r.a2 ++ (f r.a3 ++ f r.a4)))
def R6.cs (f : α → List DV) (r : R6 α) : List DV:=f r.a0 ++ (f r.a1 ++ (f r.a2 ++ (f r.a3 ++ (f r.a4 ++ f r.a5))))
def R3.get (r : R3 α) : Nat → α
 | 0 => r.a0
 | 1 => r.a1
 | _ => r.a2
def R4.get (r : R4 α) : Nat → α
 | 0 => r.a0
 | 1 => r.a1
 | 2 => r.a2
 | _ => r.a3
def R5.get (r : R5 α) : Nat → α
 | 0 => r.a0
 | 1 => r.a1
 | 2 => r.a2
 | 3 => r.a3
 | _ => r.a4
def R6.get (r : R6 α) : Nat → α
 | 0 => r.a0
 | 1 => r.a1
 | 2 => r.a2
 | 3 => r.a3
 | 4 => r.a4
 | _ => r.a5
def R3.set (r : R3 α) (i : Nat) (x : α) : R3 α:=match i with
 | 0 => { r with a0:=x }
 | 1 => { r with a1:=x }
 | 2 => { r with a2:=x }
 | _ => r
def R4.set (r : R4 α) (i : Nat) (x : α) : R4 α:=match i with
 | 0 => { r with a0:=x }
 | 1 => { r with a1:=x }
 | 2 => { r with a2:=x }
 | 3 => { r with a3:=x }
 | _ => r
def R5.set (r : R5 α) (i : Nat) (x : α) : R5 α:=match i with
 | 0 => { r with a0:=x }
 | 1 => { r with a1:=x }
 | 2 => { r with a2:=x }
 | 3 => { r with a3:=x }
 | 4 => { r with a4:=x }
 | _ => r
def R6.set (r : R6 α) (i : Nat) (x : α) : R6 α:=match i with
 | 0 => { r with a0:=x }
 | 1 => { r with a1:=x }
 | 2 => { r with a2:=x }
 | 3 => { r with a3:=x }
 | 4 => { r with a4:=x }
 | 5 => { r with a5:=x }
 | _ => r
theorem R3.get_set (r : R3 α) (i j : Nat) (x : α) (hi : i < 3) (hj : j < 3) : (r.set i x).get j = if j = i then x else r.get j:=by
 rcases (by omega : i = 0 ∨ i = 1 ∨ i = 2) with rfl | rfl | rfl <;> rcases (by omega : j = 0 ∨ j = 1 ∨ j = 2) with rfl | rfl | rfl <;> rfl
theorem R5.get_set (r : R5 α) (i j : Nat) (x : α) (hi : i < 5) (hj : j < 5) : (r.set i x).get j = if j = i then x else r.get j:=by
 rcases (by omega : i = 0 ∨ i = 1 ∨ i = 2 ∨ i = 3 ∨ i = 4) with rfl | rfl | rfl | rfl | rfl <;> rcases (by omega : j = 0 ∨ j = 1 ∨ j = 2 ∨ j = 3 ∨ j = 4) with rfl | rfl | rfl | rfl | rfl <;> rfl
theorem R6.get_set (r : R6 α) (i j : Nat) (x : α) (hi : i < 6) (hj : j < 6) : (r.set i x).get j = if j = i then x else r.get j:=by
 rcases (by omega : i = 0 ∨ i = 1 ∨ i = 2 ∨ i = 3 ∨ i = 4 ∨ i = 5) with rfl | rfl | rfl | rfl | rfl | rfl <;> rcases (by omega : j = 0 ∨ j = 1 ∨ j = 2 ∨ j = 3 ∨ j = 4 ∨ j = 5) with rfl | rfl | rfl | rfl | rfl | rfl <;> rfl
theorem R6.set_comm (r : R6 α) (i j : Nat) (x y : α) (hi : i < 6) (hj : j < 6) (h : i ≠ j) : (r.set i x).set j y = (r.set j y).set i x:=by
 rcases (by omega : i = 0 ∨ i = 1 ∨ i = 2 ∨ i = 3 ∨ i = 4 ∨ i = 5) with rfl | rfl | rfl | rfl | rfl | rfl <;> rcases (by omega : j = 0 ∨ j = 1 ∨ j = 2 ∨ j = 3 ∨ j = 4 ∨ j = 5) with rfl | rfl | rfl | rfl | rfl | rfl <;> first | rfl | exact absurd rfl h
theorem R3.set_comm (r : R3 α) (i j : Nat) (x y : α) (hi : i < 3) (hj : j < 3) (h : i ≠ j) : (r.set i x).set j y = (r.set j y).set i x:=by
 rcases (by omega : i = 0 ∨ i = 1 ∨ i = 2) with rfl | rfl | rfl <;> rcases (by omega : j = 0 ∨ j = 1 ∨ j = 2) with rfl | rfl | rfl <;> first | rfl | exact absurd rfl h
end

/-- All below n. -/
def allN (n : Nat) (f : Nat → Bool) : Bool:=(List.range n).all f
theorem za1 {n : Nat} {f : Nat → Bool} : allN n f = true ↔ ∀ j < n,f j = true:=by simp [allN]
theorem zbn {n : Nat} {f : Nat → Bool} (h : ¬ ∀ j < n,f j = true) : allN n f = false:=by
 cases hc : allN n f with
 | false => rfl
 | true => exact absurd (za1.1 hc) h
def isAgg : ETy → Bool
 | .agg _ => true
 | _ => false
/-- A comparison's next step. -/
theorem zad {off n : Nat} {t : ETy} {ps : List (Nat × Nat × ETy)} {xs ys : List DV} {x y : DV} {b : Bool} (hx : subD (.agg xs) (isAgg t) off n = some x) (hy : subD (.agg ys) (isAgg t) off n = some y) (h : eqV t x y = some b) :
  eqVs ((off,n,t) :: ps) xs ys = if b = true then eqVs ps xs ys else some false:=by
 cases t <;> simp only [isAgg] at hx hy <;> simp only [eqVs,hx,hy,h] <;> cases b <;> rfl
theorem za5 (xs ys : List DV) : eqVs [] xs ys = some true:=by rw [eqVs]
theorem eqV_b (x y : Bool) : eqV .sb (.b x) (.b y) = some (decide (x = y)):=by simp only [eqV]; cases x <;> cases y <;> rfl
theorem eqV_i (k : IntKind) (x y : Int) : eqV .si (.i k x) (.i k y) = some (decide (x = y)):=by simp only [eqV,if_true]; congr 1
theorem eqV_s (x y : ByteArray) : eqV .ss (.s x) (.s y) = some (decide (x = y)):=by simp only [eqV]
theorem zbf (ps : List (Nat × Nat × ETy)) (xs ys : List DV) : eqV (.agg ps) (.agg xs) (.agg ys) = eqVs ps xs ys:=by simp only [eqV]
theorem bne_eq (a b : Int) : (a != b) = !(a == b):=rfl
theorem subL_cons (x : DV) (xs : List DV) (o n : Nat) : subL (x :: xs) o n = ((x :: xs).drop o).take n:=rfl
theorem subL_td (o n : Nat) (l : List DV) : (l.drop o).take n = subL l o n:=rfl
theorem upd_cons {α : Type} (x : α) (xs : List α) (o : Nat) (ys : List α) : upd (x :: xs) o ys = (x :: xs).take o ++ (ys ++ (x :: xs).drop (o + ys.length)):=rfl
theorem allD_d (x : DV) (r : List AV) : allD (.d x :: r) = (allD r).map (x :: ·):=by
 simp only [allD]; cases allD r <;> rfl
theorem zgi (l : List DV) (r : List AV) : allD (l.map .d ++ r) = (allD r).map (l ++ ·):=by
 induction l with
 | nil => simp
 | cons x l ih => simp only [List.map_cons,List.cons_append,allD_d,ih,Option.map_map]; rfl
theorem allD_map' (l : List DV) : allD (l.map .d) = some l:=by
 have:=zgi l []
 simpa [allD] using this
theorem upd_map (l : List DV) (o : Nat) (ys : List DV) : upd (l.map AV.d) o (ys.map .d) = (upd l o ys).map .d:=by
 simp [upd,List.map_append,List.map_take,List.map_drop]
theorem upd_map1 (l : List DV) (o : Nat) (y : DV) : upd (l.map AV.d) o [.d y] = (upd l o [y]).map .d:=upd_map l o [y]
theorem dc_agg (cs : List DV) : (DV.agg cs).cells = cs:=rfl
theorem dc_b (x : Bool) : (DV.b x).cells = [.b x]:=rfl
theorem dc_i (k : IntKind) (x : Int) : (DV.i k x).cells = [.i k x]:=rfl
theorem dc_s (x : ByteArray) : (DV.s x).cells = [.s x]:=rfl
theorem dc_sl (x : List DV) : (DV.sl x).cells = [.sl x]:=rfl
theorem ac_dagg (cs : List DV) : (AV.d (.agg cs)).cells = cs.map .d:=rfl
theorem ac_db (x : Bool) : (AV.d (.b x)).cells = [.d (.b x)]:=rfl
theorem ac_di (k : IntKind) (x : Int) : (AV.d (.i k x)).cells = [.d (.i k x)]:=rfl
theorem ac_ds (x : ByteArray) : (AV.d (.s x)).cells = [.d (.s x)]:=rfl
theorem ac_dsl (x : List DV) : (AV.d (.sl x)).cells = [.d (.sl x)]:=rfl
theorem ac_agg (cs : List AV) : (AV.agg cs).cells = cs:=rfl
theorem ac_nilS  : (AV.nilS).cells = [.nilS]:=rfl
theorem ac_view (o g z a l : Nat) : (AV.view o g z a l).cells = [.view o g z a l]:=rfl
theorem ac_ptr (o a : Nat) : (AV.ptr o a).cells = [.ptr o a]:=rfl
theorem ac_mp (o : Nat) : (AV.mp o).cells = [.mp o]:=rfl
theorem ac_fn (f : FuncId) (a b : List AV) : (AV.fn f a b).cells = [.fn f a b]:=rfl
theorem ac_z0  : (AV.z0).cells = [.z0]:=rfl
theorem ac_e0 (b : Bool) : (AV.e0 b).cells = [.e0 b]:=rfl
theorem ac_one  : (AV.one).cells = [.one]:=rfl
theorem ac_eptr (cs : List DV) : (AV.eptr cs).cells = [.eptr cs]:=rfl
theorem ac_vptr (o g z a l : Nat) : (AV.vptr o g z a l).cells = [.vptr o g z a l]:=rfl
end Pk
