/- Calls of Go's library as the evaluator's outside functions: a contract that leaves memory below as it was is an answer. / The evaluator's rewriting rules as one theorem. Printed by gen_ev.py. / The evaluator's definitions as rules: one name each for the lists. Printed by program. -/
import Derived.Test.YthlpognahlnaaaaGreatPkTypes
import Derived.Lib.Repeat
set_option linter.all false
namespace Pk
open Pv Go Go.RowKit

/-- n noughts. -/
def nul (n : Nat) : ByteArray:=⟨(List.replicate n (0 : UInt8)).toArray⟩
theorem zcz (n : Nat) : (nul n).size = n:=by simp [nul,ByteArray.size]

theorem Stp.of_below {γ : Gh} {w w' : World} (hH : RH γ w []) (h : Below w.heap.size w w') : Stp γ w γ w' where
 os:=h.os
 tape:=h.tape
 output:=h.output
 size:=h.size
 fix b j hf:=by
  refine ⟨hf,?_⟩
  have:=h.block b (hH.fixb b j hf)
  simp only [World.cell?,this]
 nfix b j hf:=.inl hf
 pl o:=.refl _
 other b hb _:=h.block b hb
 own o b ho:=.inl ⟨o,ho⟩

/-- A call of the library that answers data and leaves memory below. -/
theorem sret_lib {P : Program} {f : FuncId} {args : List AV} {x : DV} (hc : Callable P f) (h : ∀ (γ : Gh) (w : World) (vs : List Value),RVs γ w args vs → RH γ w [] →
  Calls P f vs.toArray w fun e w' => ∃ v,e = .returned v ∧ (∀ γ w,RD γ w x v) ∧ Below w.heap.size w w') : SRet P f args [] (.d x,[]):=by
 refine ⟨hc,fun γ w vs hvs hH => (h γ w vs hvs hH).mono ?_⟩
 rintro e w' ⟨v,rfl,hv,hb⟩
 have hs:=Stp.of_below hH hb
 exact ⟨v,γ,rfl,.d (hv _ _),⟨by simp,hH.out,hH.inj,fun b j hf => Nat.lt_of_lt_of_le (hH.fixb b j hf) hb.size⟩,hs⟩

/-- strings.Repeat of one nought. -/
def repeatX : List AV → Option (AV × Heap)
 | [.d (.s s),.d (.i .i64 c)] => if s = ⟨#[0]⟩ ∧ 0 ≤ c ∧ c ≤ 1000000 then some (.d (.s (nul c.toNat)),[]) else none
 | _ => none

theorem repeatX_ok {P : Program} {f : FuncId} (hc : Callable P f) (h : ∀ (s : ByteArray) (c : Nat) (w : World),c ≤ 9223372036854775807 → s.size * c ≤ 140737488355328 →
  Calls P f #[.string s,.int .i64 c] w fun e w' => e = .returned (.string ⟨(Lib.repeatL s.data.toList c).toArray⟩) ∧ Below w.heap.size w w') :
  ∀ args r,repeatX args = some r → SRet P f args [] r:=by
 intro args r hr
 unfold repeatX at hr
 split at hr
 ·split at hr
  ·rename_i s c hcond
   obtain ⟨rfl,h0,h1⟩:=hcond
   injection hr with hr
   subst hr
   refine sret_lib hc fun γ w vs hvs hH => ?_
   obtain ⟨v1,v2,rfl,a,b⟩ : ∃ v1 v2,vs = [v1,v2] ∧ RV γ w (.d (.s ⟨#[0]⟩)) v1 ∧ RV γ w (.d (.i .i64 c)) v2:=by
    cases hvs with
    | cons a hvs => cases hvs with
     | cons b hvs => cases hvs; exact ⟨_,_,rfl,a,b⟩
   cases a with
   | d a => cases a with
    | s x =>
     cases b with
     | d b => cases b with
      | i k x =>
       obtain ⟨n,rfl⟩ : ∃ n : Nat,c = n:=⟨c.toNat,by omega⟩
       have:=h ⟨#[0]⟩ n w (by omega) (by show 1 * n ≤ _; omega)
       refine this.mono ?_
       rintro e w' ⟨he,hb⟩
       refine ⟨_,he,fun γ w => ?_,hb⟩
       have e : Lib.repeatL (ByteArray.mk #[0]).data.toList n = List.replicate n 0:=by
        have:=Lib.repeatL_replicate 0 1 n
        simpa using this
       rw [e]
       have : nul (Int.toNat (n : Int)) = ⟨(List.replicate n (0 : UInt8)).toArray⟩:=by simp [nul]
       rw [this]
       exact .s _
  ·simp at hr
 ·simp at hr
/-- A loop of N rounds at most,by what holds ahead of each. -/
theorem zac {C : FuncId → Option AFn} {keep : Option (List Nat)} {body : ACode} {n : Nat} (I : Nat → Tm → Heap → Prop) (Q : AExit → Tm → Heap → Prop) (N : Nat)
  (hstep : ∀ i T H,i < N → I i T H → ∃ e T' H',evC C body (keepT keep T) (trim n ((keepT keep T).map (·.2)) H) = some (e,T',H') ∧ ((e = .nrm ∧ I (i + 1) T' H') ∨ (e ≠ .nrm ∧ Q e T' H')))
  (hlast : ∀ T H,I N T H → ∃ e T' H',evC C body (keepT keep T) (trim n ((keepT keep T).map (·.2)) H) = some (e,T',H') ∧ e ≠ .nrm ∧ Q e T' H') :
  ∀ (k i : Nat) (T : Tm) (H : Heap),i + k = N → I i T H → ∃ e T' H',evL C keep body n T H = some (e,T',H') ∧ Q e T' H'
 | 0,i,T,H,hi,h => by
  obtain ⟨e,T',H',h1,h2,h3⟩:=hlast T H (by rwa [show N = i by omega])
  refine ⟨e,T',H',?_,h3⟩
  rw [zam,h1,Option.bind_some]
  cases e with
  | nrm => exact absurd rfl h2
  | ret => rfl
  | exit i => rfl
 | k + 1, i, T, H, hi, h => by
  obtain ⟨e,T',H',h1,h2⟩:=hstep i T H (by omega) h
  rcases h2 with ⟨rfl,h2⟩ | ⟨h2,h3⟩
  ·obtain ⟨e, T2, H2, h4, h5⟩ := zac I Q N hstep hlast k (i + 1) T' H' (by omega) h2
   exact ⟨e,T2,H2,by rw [zam,h1,Option.bind_some,zah,h4],h5⟩
  ·refine ⟨e, T', H', ?_, h3⟩
   rw [zam,h1,Option.bind_some]
   cases e with
   | nrm => exact absurd rfl h2
   | ret => rfl
   | exit i => rfl
theorem zaf {β : Type} {x : Option (AExit × Tm × Heap)} {Q : AExit → Tm → Heap → Prop} {f : AExit × Tm × Heap → Option β} {r : Option β} (h : ∃ e T' H',x = some (e,T',H') ∧ Q e T' H') (hf : ∀ e T' H',Q e T' H' → f (e,T',H') = r) : x.bind f = r:=by
 obtain ⟨e,T',H',rfl,hp⟩:=h
 exact hf e T' H' hp
theorem zgy {x : Option (AExit × Tm × Heap)} {Q : AExit → Tm → Heap → Prop} {f : AExit × Tm × Heap → Option (AExit × Tm × Heap)} {R : AExit → Tm → Heap → Prop} (h : ∃ e T' H',x = some (e,T',H') ∧ Q e T' H') (hf : ∀ e T' H',Q e T' H' → ∃ e2 T2 H2,f (e,T',H') = some (e2,T2,H2) ∧ R e2 T2 H2) : ∃ e2 T2 H2,x.bind f = some (e2,T2,H2) ∧ R e2 T2 H2:=by
 obtain ⟨e,T',H',rfl,hp⟩:=h
 exact hf e T' H' hp
theorem zr6 (vs : List AV) (H : Heap) : trim H.length vs H = H:=by
 unfold trim
 split
 ·exact List.take_length
 ·rfl
theorem zae {α : Type} (f : α → DV) {l : List α} {i : Nat} {x : α} (h : l[i]? = some x) : (l.map f)[i]? = some (f x):=by simp [h]
theorem zag {α : Type} {l : List α} {i : Nat} {x : α} (h : l[i]? = some x) : l.take (i + 1) = l.take i ++ [x]:=by rw [List.take_succ,h]; rfl

theorem zl8 {C : FuncId → Option AFn} {f : FuncId} {g : List AV → Option (AV × Heap)} (h : C f = some (.ext g)) (args : List AV) : evF C f args [] = g args:=by
 rw [evF.eq_def]
 simp only [h]
theorem repeat_at {C : FuncId → Option AFn} {f : FuncId} (h : C f = some (.ext repeatX)) (n : Nat) (hn : n ≤ 1000000) : evF C f [.d (.s ⟨#[0]⟩),.d (.i .i64 (n : Int))] [] = some (.d (.s (nul n)),[]):=by
 rw [zl8 h]
 show (if _ then _ else _) = _
 rw [if_pos ⟨rfl,by omega,by omega⟩]
 simp
end Pk

namespace Pk
open Pv Go
def EVL:=(And.intro (And.intro (And.intro (And.intro (And.intro (And.intro (And.intro @zo0 @zpv) (And.intro @ze6 (And.intro @zj5 @zll))) (And.intro (And.intro @zhr @zkj) (And.intro @zgw (And.intro @zp8 @List.map_cons.{0,0})))) (And.intro (And.intro (And.intro @List.map_nil.{0,0} @zqh) (And.intro @zk0 (And.intro @ziq @zke))) (And.intro (And.intro @zbz @zby) (And.intro @zhb (And.intro @Option.bind_some.{0,0} @Option.bind_none.{0,0}))))) (And.intro (And.intro (And.intro (And.intro @zij @zhc) (And.intro @zfw (And.intro @zfm @zfr))) (And.intro (And.intro @zd6 @zly) (And.intro @zgv (And.intro @zgh @zge)))) (And.intro (And.intro (And.intro @List.length_cons.{0} @List.length_nil.{0}) (And.intro @zh2 (And.intro @ze4 @zfu))) (And.intro (And.intro @zdc (And.intro @zej @zdn)) (And.intro @zeg (And.intro @zd1 @List.append_nil.{0})))))) (And.intro (And.intro (And.intro (And.intro (And.intro @List.nil_append.{0} @List.cons_append.{0}) (And.intro @Pk.dc_agg (And.intro @Pk.dc_b @Pk.dc_i))) (And.intro (And.intro @Pk.dc_s @Pk.dc_sl) (And.intro @Pk.ac_dagg (And.intro @Pk.ac_db @Pk.ac_di)))) (And.intro (And.intro (And.intro @Pk.ac_ds @Pk.ac_dsl) (And.intro @Pk.ac_agg (And.intro @Pk.ac_nilS @Pk.ac_view))) (And.intro (And.intro @Pk.ac_ptr @Pk.ac_mp) (And.intro @Pk.ac_fn (And.intro @Pk.ac_z0 @Pk.ac_e0))))) (And.intro (And.intro (And.intro (And.intro @Pk.ac_one @Pk.ac_eptr) (And.intro @Pk.ac_vptr (And.intro @Pk.bne_eq @Pk.subL_cons))) (And.intro (And.intro @Pk.subL_td @List.drop_zero.{0}) (And.intro @Pk.upd_cons (And.intro @Pk.upd_map @Pk.upd_map1)))) (And.intro (And.intro (And.intro @Pk.zgi @Pk.allD_map') (And.intro @List.length_map.{0,0} (And.intro @Option.map_some.{0,0} @List.getElem?_cons_zero.{0}))) (And.intro (And.intro @List.getElem?_cons_succ.{0} (And.intro @List.getElem?_nil.{0} @List.set_cons_zero.{0})) (And.intro @List.set_cons_succ.{0} (And.intro @Nat.add_zero @Nat.zero_add))))))) (And.intro (And.intro (And.intro (And.intro (And.intro (And.intro @and_true @true_and) (And.intro @and_self (And.intro @zah @zmh))) (And.intro (And.intro @List.getD_cons_zero.{0} @List.getD_cons_succ.{0}) (And.intro @List.getD_nil.{0} (And.intro @Bool.and_true @Bool.true_and)))) (And.intro (And.intro (And.intro @Bool.false_and @Bool.and_false) (And.intro @Bool.and_self (And.intro @decide_true @decide_false))) (And.intro (And.intro @beq_self_eq_true.{0} @evR_mv) (And.intro @zls (And.intro @zqs @evR_eq))))) (And.intro (And.intro (And.intro (And.intro @evR_un @zkk) (And.intro @zh0 (And.intro @zpy @zht))) (And.intro (And.intro @zpj @zkr) (And.intro @zhm (And.intro @zg9 @zhd)))) (And.intro (And.intro (And.intro @zh5 @zhy) (And.intro @zfc (And.intro @zff @zlp))) (And.intro (And.intro @zkg (And.intro @zmj @zpb)) (And.intro @zpf (And.intro @zp6 @evR_mm)))))) (And.intro (And.intro (And.intro (And.intro (And.intro @zkh @zp3) (And.intro @zqz (And.intro @zpt @zhu))) (And.intro (And.intro @zk1 @zhv) (And.intro @zj9 (And.intro @zk4 @Bool.or_eq_true)))) (And.intro (And.intro (And.intro @Bool.and_eq_true @List.singleton_append.{0}) (And.intro @List.append_assoc.{0} (And.intro @Option.map_none.{0,0} @Int.lt_irrefl))) (And.intro (And.intro @Nat.mul_one (And.intro @zau @Int.toNat_natCast)) (And.intro @Bool.false_eq_true (And.intro @Bool.true_eq_false @not_true_eq_false))))) (And.intro (And.intro (And.intro (And.intro @not_false_eq_true @false_and) (And.intro @and_false (And.intro @eq_self.{1} @Nat.not_lt_zero))) (And.intro (And.intro @Nat.le_refl @Nat.lt_irrefl) (And.intro @Bool.or_true (And.intro @Bool.true_or @Bool.or_false)))) (And.intro (And.intro (And.intro @Bool.false_or @Bool.not_true) (And.intro @Bool.not_false (And.intro @Int.toNat_zero @Int.toNat_one))) (And.intro (And.intro @true_or (And.intro @or_true @false_or)) (And.intro @or_false (And.intro @List.flatMap_cons.{0,0} @List.flatMap_nil.{0,0}))))))))
def EVO:=(And.intro (And.intro (And.intro (And.intro (And.intro (And.intro @zo0 (And.intro @zpv @ze6)) (And.intro @zj5 (And.intro @zll @zhr))) (And.intro (And.intro @zkj (And.intro @zgw @zp8)) (And.intro @List.map_cons.{0,0} (And.intro @List.map_nil.{0,0} @zqh)))) (And.intro (And.intro (And.intro @zk0 (And.intro @ziq @zke)) (And.intro @zbz (And.intro @zby @zhb))) (And.intro (And.intro @Option.bind_some.{0,0} (And.intro @Option.bind_none.{0,0} @zij)) (And.intro (And.intro @zhc @zfw) (And.intro @zfm @zfr))))) (And.intro (And.intro (And.intro (And.intro @zd6 (And.intro @zly @zgv)) (And.intro @zgh (And.intro @zge @List.length_cons.{0}))) (And.intro (And.intro @List.length_nil.{0} (And.intro @if_true.{1} @if_false.{1})) (And.intro (And.intro @zh2 @ze4) (And.intro @zfu @zdc)))) (And.intro (And.intro (And.intro @zej (And.intro @zdn @zeg)) (And.intro @zd1 (And.intro @List.append_nil.{0} @List.nil_append.{0}))) (And.intro (And.intro @List.cons_append.{0} (And.intro @List.getElem?_cons_zero.{0} @List.getElem?_cons_succ.{0})) (And.intro (And.intro @List.getElem?_nil.{0} @List.set_cons_zero.{0}) (And.intro @List.set_cons_succ.{0} @Nat.add_zero)))))) (And.intro (And.intro (And.intro (And.intro (And.intro @Nat.zero_add (And.intro @and_true @true_and)) (And.intro @and_self (And.intro @zah @zmh))) (And.intro (And.intro @List.getD_cons_zero.{0} (And.intro @List.getD_cons_succ.{0} @List.getD_nil.{0})) (And.intro @Bool.and_true (And.intro @Bool.true_and @Bool.false_and)))) (And.intro (And.intro (And.intro @Bool.and_false (And.intro @Bool.and_self @decide_true)) (And.intro @decide_false (And.intro @beq_self_eq_true.{0} @evR_mv))) (And.intro (And.intro @zls (And.intro @zqs @evR_eq)) (And.intro (And.intro @evR_un @zkk) (And.intro @zh0 @zpy))))) (And.intro (And.intro (And.intro (And.intro @zht (And.intro @zpj @zkr)) (And.intro @zhm (And.intro @zg9 @zhd))) (And.intro (And.intro @zh5 (And.intro @zhy @zfc)) (And.intro (And.intro @zff @zlp) (And.intro @zkg @zmj)))) (And.intro (And.intro (And.intro @zpb (And.intro @zpf @zp6)) (And.intro @evR_mm (And.intro @zkh @zp3))) (And.intro (And.intro @zqz (And.intro @zpt @zhu)) (And.intro (And.intro @zk1 @zhv) (And.intro @zj9 @zk4)))))))
def EVX:=(And.intro (And.intro (And.intro (And.intro (And.intro (And.intro @zo0 (And.intro @zpv @ze6)) (And.intro @zj5 (And.intro @zll @zhr))) (And.intro (And.intro @zkj (And.intro @zgw @zp8)) (And.intro @List.map_cons.{0,0} (And.intro @List.map_nil.{0,0} @zqh)))) (And.intro (And.intro (And.intro @zk0 (And.intro @ziq @zke)) (And.intro @zbz (And.intro @zby @zhb))) (And.intro (And.intro @Option.bind_some.{0,0} (And.intro @Option.bind_none.{0,0} @zij)) (And.intro (And.intro @zhc @zfw) (And.intro @zfm @zfr))))) (And.intro (And.intro (And.intro (And.intro @zd6 (And.intro @zly @zgv)) (And.intro @zgh (And.intro @zge @List.length_cons.{0}))) (And.intro (And.intro @List.length_nil.{0} (And.intro @if_true.{1} @if_false.{1})) (And.intro (And.intro @zh2 @ze4) (And.intro @zfu @zdc)))) (And.intro (And.intro (And.intro @zej (And.intro @zdn @zeg)) (And.intro @zd1 (And.intro @List.append_nil.{0} @List.nil_append.{0}))) (And.intro (And.intro @List.cons_append.{0} (And.intro @List.getElem?_cons_zero.{0} @List.getElem?_cons_succ.{0})) (And.intro (And.intro @List.getElem?_nil.{0} @List.set_cons_zero.{0}) (And.intro @List.set_cons_succ.{0} @Nat.add_zero)))))) (And.intro (And.intro (And.intro (And.intro (And.intro @Nat.zero_add (And.intro @and_true @true_and)) (And.intro @and_self (And.intro @zah @zmh))) (And.intro (And.intro @List.getD_cons_zero.{0} (And.intro @List.getD_cons_succ.{0} @List.getD_nil.{0})) (And.intro @Bool.and_true (And.intro @Bool.true_and @Bool.false_and)))) (And.intro (And.intro (And.intro @Bool.and_false (And.intro @Bool.and_self @decide_true)) (And.intro @decide_false (And.intro @beq_self_eq_true.{0} @evR_mv))) (And.intro (And.intro @zls (And.intro @zqs @evR_eq)) (And.intro (And.intro @evR_un @zkk) (And.intro @zh0 @zpy))))) (And.intro (And.intro (And.intro (And.intro @zht (And.intro @zpj @zkr)) (And.intro @zhm (And.intro @zg9 @zhd))) (And.intro (And.intro @zh5 (And.intro @zhy @zfc)) (And.intro (And.intro @zff @zlp) (And.intro @zkg @zmj)))) (And.intro (And.intro (And.intro @zpb (And.intro @zpf @zp6)) (And.intro @evR_mm (And.intro @zkh @zp3))) (And.intro (And.intro @zqz (And.intro @zpt @zhu)) (And.intro (And.intro @zk1 @zhv) (And.intro @zj9 @zk4)))))))
def TY_Osd:=(And.intro (And.intro @Osd.len @Osd.r_weight) (And.intro @Osd.r_host (And.intro @Osd.w_all @Osd.fold)))
def TY_Mp:=(And.intro (And.intro (And.intro @Mp.len (And.intro @Mp.d_eq @Mp.r_all)) (And.intro @Mp.r_epoch (And.intro @Mp.r_osds_i @Mp.r_osds_i_up))) (And.intro (And.intro @Mp.r_osds_i_weight (And.intro @Mp.r_osds_i_host @Mp.w_all)) (And.intro @Mp.w_epoch (And.intro @Mp.w_osds_i_up @Mp.w_osds_i_weight))))
def TY_Inc:=(And.intro (And.intro (And.intro @Inc.len @Inc.d_eq) (And.intro @Inc.t_all @Inc.r_all)) (And.intro (And.intro @Inc.r_kind @Inc.r_osd) (And.intro @Inc.r_n (And.intro @Inc.eq @Inc.fold))))
def TY_Opr:=(And.intro (And.intro (And.intro (And.intro @Opr.all_cells (And.intro @Opr.len @Opr.d_eq)) (And.intro @Opr.t_all (And.intro @Opr.eta @Opr.r_all))) (And.intro (And.intro @Opr.r_client (And.intro @Opr.r_seq @Opr.p_seq)) (And.intro (And.intro @Opr.r_kind @Opr.p_kind) (And.intro @Opr.r_obj @Opr.p_obj)))) (And.intro (And.intro (And.intro @Opr.r_at_ (And.intro @Opr.p_at_ @Opr.r_data)) (And.intro @Opr.p_data (And.intro @Opr.w_all @Opr.w_client))) (And.intro (And.intro @Opr.w_seq (And.intro @Opr.w_kind @Opr.w_obj)) (And.intro (And.intro @Opr.w_at_ @Opr.w_data) (And.intro @Opr.eq @Opr.fold)))))
def TY_Res:=(And.intro (And.intro @Res.len @Res.r_all) (And.intro @Res.w_all @Res.fold))
def TY_Objt:=(And.intro (And.intro (And.intro @Objt.len (And.intro @Objt.r_all @Objt.r_there)) (And.intro @Objt.r_data (And.intro @Objt.r_attr @Objt.r_attr_i))) (And.intro (And.intro @zpc (And.intro @Objt.w_all @Objt.w_there)) (And.intro (And.intro @Objt.w_data @Objt.w_attr_i) (And.intro @Objt.eq @Objt.fold))))
def TY_Last:=(And.intro (And.intro (And.intro @Last.len @Last.r_all) (And.intro @Last.r_seq (And.intro @Last.r_r @Last.r_r_code))) (And.intro (And.intro @Last.r_r_data @Last.w_all) (And.intro @Last.eq (And.intro @Last.fold @Last.foldc))))
def TY_Base:=(And.intro (And.intro (And.intro (And.intro @Base.len @Base.r_all) (And.intro @Base.r_objs @Base.r_objs_i)) (And.intro (And.intro @Base.r_last @Base.r_last_i) (And.intro @Base.r_last_i_seq @Base.r_last_i_r_code))) (And.intro (And.intro (And.intro @Base.r_last_i_r_data @zmq) (And.intro @zqb @zmg)) (And.intro (And.intro @zpl @Base.w_all) (And.intro @Base.w_objs_i (And.intro @Base.w_last_i @Base.eq)))))
def TY_Entry:=(And.intro (And.intro (And.intro (And.intro @Entry.all_cells @Entry.len) (And.intro @Entry.d_eq (And.intro @Entry.t_all @Entry.eta))) (And.intro (And.intro @Entry.r_all @Entry.r_since) (And.intro @Entry.r_n (And.intro @Entry.p_n @Entry.r_op)))) (And.intro (And.intro (And.intro @Entry.p_op_client @Entry.p_op_seq) (And.intro @Entry.p_op_kind (And.intro @Entry.p_op_obj @Entry.p_op_at_))) (And.intro (And.intro @Entry.p_op_data @Entry.w_all) (And.intro @Entry.eq (And.intro @Entry.fold @Entry.foldc)))))
def TY_State:=(And.intro (And.intro (And.intro (And.intro (And.intro @State.len @State.d_eq) (And.intro @State.t_all @State.eta)) (And.intro (And.intro @State.r_all @State.r_started) (And.intro @State.r_base @State.r_tail))) (And.intro (And.intro (And.intro @State.r_tail_since @State.r_tail_n) (And.intro @State.r_tail_op @State.r_log)) (And.intro (And.intro @State.p_log @State.zeroA_len) (And.intro @State.zeroA_mk (And.intro @State.zeroA_all @State.zeroA_toDs))))) (And.intro (And.intro (And.intro (And.intro @State.zeroA_isD @State.zeroA_lts) (And.intro @State.withV_len @State.withV_mk)) (And.intro (And.intro @State.withV_all @State.withV_get) (And.intro @State.withV_toDs (And.intro @State.withV_lts @State.withV_isD)))) (And.intro (And.intro (And.intro @State.withV_fold @State.w_all) (And.intro @State.w_started @State.w_base)) (And.intro (And.intro @State.w_tail @State.zeroA_w) (And.intro @State.zeroA_z (And.intro @State.withV_w @State.withV_w0))))))
def TY_Diff:=(And.intro (And.intro (And.intro (And.intro @Diff.len @Diff.d_eq) (And.intro @Diff.t_all (And.intro @Diff.r_all @Diff.r_kind))) (And.intro (And.intro @Diff.r_from_ @Diff.r_log) (And.intro @Diff.r_whole (And.intro @Diff.r_whole_started @Diff.r_whole_base_objs)))) (And.intro (And.intro (And.intro @Diff.r_whole_tail_since @Diff.r_whole_tail_n) (And.intro @Diff.r_whole_log (And.intro @Diff.zeroA_len @Diff.zeroA_mk))) (And.intro (And.intro @Diff.zeroA_all @Diff.zeroA_toDs) (And.intro @Diff.zeroA_lts (And.intro @Diff.zeroA_w @Diff.zeroA_z)))))
def TY_Itv:=(And.intro (And.intro (And.intro (And.intro @Itv.len @Itv.d_eq) (And.intro @Itv.t_all @Itv.eta)) (And.intro (And.intro @Itv.r_all @Itv.r_since) (And.intro @Itv.r_acting @Itv.zeroA_len))) (And.intro (And.intro (And.intro @Itv.zeroA_mk @Itv.zeroA_all) (And.intro @Itv.zeroA_toDs @Itv.w_all)) (And.intro (And.intro @Itv.w_acting @Itv.zeroA_w) (And.intro @Itv.zeroA_z @Itv.fold))))
def TY_Plan:=(And.intro (And.intro @Plan.len (And.intro @Plan.r_all @Plan.r_best)) (And.intro (And.intro @Plan.r_blocked @Plan.r_diffs) (And.intro @Plan.zeroA_len @Plan.zeroA_w)))
end Pk

namespace Pk
open Pv Go
def i (d : Nat) (o : AOp) : AOper:=⟨some d,o,none⟩
def w (d n : Nat) : AOper:=⟨some d,.mv (.t n),none⟩
def j (d g : Nat) (b : Bool) (o : AOp) : AOper:=⟨some d,o,some (g,b)⟩
def k (n : Int) : Opn:=.c (.d (.i .i64 n))
def kb (b : Bool) : Opn:=.c (.d (.b b))
def EVC:=And.intro @w.eq_1 <| And.intro @j.eq_1 <| And.intro @k.eq_1 <| And.intro @kb.eq_1 <| And.intro @i.eq_1 (And.intro (And.intro (And.intro (And.intro (And.intro (And.intro (And.intro @keepT.eq_1 (And.intro @keepT.eq_2 @enum.eq_1)) (And.intro @enum.eq_2 (And.intro @ev.eq_1 @ev.eq_2))) (And.intro (And.intro @ev.eq_3 (And.intro @act.eq_1 @act.eq_2)) (And.intro (And.intro @act.eq_3 @act.eq_4) (And.intro @act.eq_5 @act.eq_6)))) (And.intro (And.intro (And.intro @act.eq_7 (And.intro @act.eq_8 @act.eq_9)) (And.intro (And.intro @act.eq_10 @act.eq_11) (And.intro @act.eq_12 @act.eq_13))) (And.intro (And.intro @act.eq_14 (And.intro @act.eq_15 @act.eq_16)) (And.intro (And.intro @act.eq_17 @act.eq_18) (And.intro @act.eq_19 @act.eq_20))))) (And.intro (And.intro (And.intro (And.intro @act.eq_21 (And.intro @act.eq_22 @act.eq_23)) (And.intro (And.intro @act.eq_24 @act.eq_25) (And.intro @act.eq_26 @act.eq_27))) (And.intro (And.intro @act.eq_28 (And.intro @act.eq_29 @act.eq_30)) (And.intro (And.intro @act.eq_31 @act.eq_32) (And.intro @act.eq_33 @act.eq_34)))) (And.intro (And.intro (And.intro @act.eq_35 (And.intro @act.eq_36 @act.eq_37)) (And.intro (And.intro @appT.eq_1 @appT.eq_2) (And.intro @callee.eq_1 @toDs.eq_1))) (And.intro (And.intro @toDs.eq_2 (And.intro @toD.eq_1 @toD.eq_2)) (And.intro (And.intro @toD.eq_3 @toD.eq_4) (And.intro @toD.eq_5 @toD.eq_6)))))) (And.intro (And.intro (And.intro (And.intro (And.intro @toD.eq_7 (And.intro @loadA.eq_1 @loadA.eq_2)) (And.intro @loadA.eq_3 (And.intro @loadA.eq_4 @loadA.eq_5))) (And.intro (And.intro @loadA.eq_6 (And.intro @storeA.eq_1 @storeA.eq_2)) (And.intro (And.intro @storeA.eq_3 @subA.eq_1) (And.intro @subA.eq_2 @subA.eq_3)))) (And.intro (And.intro (And.intro @subA.eq_4 (And.intro @subA.eq_5 @subD.eq_1)) (And.intro (And.intro @subD.eq_2 @subD.eq_3) (And.intro @subD.eq_4 @updA.eq_1))) (And.intro (And.intro @updA.eq_2 (And.intro @updA.eq_3 @updA.eq_4)) (And.intro (And.intro @Eff.on.eq_1 @Eff.on.eq_2) (And.intro @Eff.on.eq_3 @Eff.on.eq_4))))) (And.intro (And.intro (And.intro (And.intro @resA.eq_1 (And.intro @resVs.eq_1 @resVs.eq_2)) (And.intro (And.intro @resV.eq_1 @resV.eq_2) (And.intro @resV.eq_3 @lk.eq_1))) (And.intro (And.intro @lk.eq_2 (And.intro @finish.eq_1 @frzR.eq_1)) (And.intro (And.intro @frzR.eq_2 @frzVs.eq_1) (And.intro @frzVs.eq_2 @frzV.eq_1)))) (And.intro (And.intro (And.intro @fznR.eq_1 (And.intro @fznR.eq_2 @fzns.eq_1)) (And.intro (And.intro @fzns.eq_2 @fzn.eq_1) (And.intro @fzn.eq_2 @lts.eq_1))) (And.intro (And.intro @lts.eq_2 (And.intro @lt.eq_1 @lt.eq_2)) (And.intro (And.intro @lt.eq_3 @lt.eq_4) (And.intro @lt.eq_5 @lt.eq_6))))))) (And.intro (And.intro (And.intro (And.intro (And.intro (And.intro @lt.eq_7 (And.intro @lt.eq_8 @lt.eq_9)) (And.intro @lt.eq_10 (And.intro @lt.eq_11 @lt.eq_12))) (And.intro (And.intro @lt.eq_13 (And.intro @lt.eq_14 @lt.eq_15)) (And.intro (And.intro @ltO.eq_1 @ltO.eq_2) (And.intro @ltO.eq_3 @ltO.eq_4)))) (And.intro (And.intro (And.intro @List.all.eq_1.{0} (And.intro @List.all.eq_2.{0} @pairsOk.eq_1)) (And.intro (And.intro @pairsOk.eq_2 @indep.eq_1) (And.intro @indep.eq_2 @indep.eq_3))) (And.intro (And.intro @indep.eq_4 (And.intro @indep.eq_5 @indep.eq_6)) (And.intro (And.intro @indep.eq_7 @indep.eq_8) (And.intro @indep.eq_9 @indep.eq_10))))) (And.intro (And.intro (And.intro (And.intro @indep.eq_11 (And.intro @indep.eq_12 @indep.eq_13)) (And.intro (And.intro @indep.eq_14 @indep.eq_15) (And.intro @indep.eq_16 @indep.eq_17))) (And.intro (And.intro @indep.eq_18 (And.intro @indep.eq_19 @indep.eq_20)) (And.intro (And.intro @indep.eq_21 @indep.eq_22) (And.intro @indep.eq_23 @indep.eq_24)))) (And.intro (And.intro (And.intro @stb.eq_1 (And.intro @stb.eq_2 @stb.eq_3)) (And.intro (And.intro @stb.eq_4 @thaws.eq_1) (And.intro @thaws.eq_2 @List.drop.eq_1.{0}))) (And.intro (And.intro @List.drop.eq_2.{0} (And.intro @List.drop.eq_3.{0} @intOfA.eq_1)) (And.intro (And.intro @intOfA.eq_2 @binD.eq_1) (And.intro @binD.eq_2 @binD.eq_3)))))) (And.intro (And.intro (And.intro (And.intro (And.intro @binD.eq_4 (And.intro @binD.eq_5 @binI.eq_1)) (And.intro (And.intro @binI.eq_2 @binI.eq_3) (And.intro @binI.eq_4 @binI.eq_5))) (And.intro (And.intro @binI.eq_6 (And.intro @binI.eq_7 @binI.eq_8)) (And.intro (And.intro @binI.eq_9 @binI.eq_10) (And.intro @binI.eq_11 @binI.eq_12)))) (And.intro (And.intro (And.intro @binI.eq_13 (And.intro @binI.eq_14 @binI.eq_15)) (And.intro (And.intro @binI.eq_16 @unD.eq_1) (And.intro @unD.eq_2 @unD.eq_3))) (And.intro (And.intro @mmL.eq_1 (And.intro @mmL.eq_2 @mmL.eq_3)) (And.intro (And.intro @buildA.eq_1 @buildA.eq_2) (And.intro @mkAgg.eq_1 @allD.eq_1))))) (And.intro (And.intro (And.intro (And.intro @allD.eq_2 (And.intro @allD.eq_3 @bslD.eq_1)) (And.intro (And.intro @behind.eq_1 @behind.eq_2) (And.intro @zcn.eq_1 @takeAt.eq_1))) (And.intro (And.intro @takeAt.eq_2 (And.intro @frzAs.eq_1 @frzAs.eq_2)) (And.intro (And.intro @frzA.eq_1 @frzA.eq_2) (And.intro @frzA.eq_3 @adoptR.eq_1)))) (And.intro (And.intro (And.intro @adoptR.eq_2 (And.intro @adopt.eq_1 @adopt.eq_2)) (And.intro (And.intro @adopt.eq_3 @adopt.eq_4) (And.intro @adopt.eq_5 @adopt.eq_6))) (And.intro (And.intro @isD.eq_1 (And.intro @isD.eq_2 @isD0.eq_1)) (And.intro (And.intro @isD0.eq_2 @isD0.eq_3) (And.intro @isD0.eq_4 @isD0.eq_5))))))))
def EVD:=And.intro EVC (And.intro (And.intro (And.intro (And.intro (And.intro @trim.eq_1 @List.take.eq_1.{0}) (And.intro @List.take.eq_2.{0} (And.intro @List.take.eq_3.{0} @binS.eq_1))) (And.intro (And.intro @binS.eq_2 @binS.eq_3) (And.intro @binS.eq_4 (And.intro @sliceA.eq_1 @sliceA.eq_2)))) (And.intro (And.intro (And.intro @sliceA.eq_3 @sliceA.eq_4) (And.intro @sliceA.eq_5 (And.intro @sliceA.eq_6 @sliceA.eq_7))) (And.intro (And.intro @sliceA.eq_8 (And.intro @sliceA.eq_9 @sliceA.eq_10)) (And.intro @sliceA.eq_11 (And.intro @bnd.eq_1 @bnd.eq_2))))) (And.intro (And.intro (And.intro (And.intro @zOk.eq_1 @zOk.eq_2) (And.intro @zOk.eq_3 (And.intro @zOk.eq_4 @zOk.eq_5))) (And.intro (And.intro @zOk.eq_6 @elems.eq_1) (And.intro @elems.eq_2 (And.intro @elems.eq_3 @elems.eq_4)))) (And.intro (And.intro (And.intro @elems.eq_5 @elems.eq_6) (And.intro @elems.eq_7 (And.intro @inpl.eq_1 @thaw.eq_1))) (And.intro (And.intro @nodup.eq_1 (And.intro @nodup.eq_2 @refsV.eq_1)) (And.intro @refsV.eq_2 (And.intro @adopts.eq_1 @adopts.eq_2))))))
def EVDO:=And.intro EVC (And.intro (And.intro (And.intro @trim.eq_1 @List.take.eq_1.{0}) (And.intro @List.take.eq_2.{0} (And.intro @List.take.eq_3.{0} @DV.cells.eq_1))) (And.intro (And.intro @DV.cells.eq_2 (And.intro @AV.cells.eq_1 @AV.cells.eq_2)) (And.intro @AV.cells.eq_3 (And.intro @subL.eq_1 @upd.eq_1))))
def EVDX:=And.intro EVC (And.intro (And.intro @DV.cells.eq_1 (And.intro @DV.cells.eq_2 @AV.cells.eq_1)) (And.intro (And.intro @AV.cells.eq_2 @AV.cells.eq_3) (And.intro @subL.eq_1 @upd.eq_1)))
end Pk
