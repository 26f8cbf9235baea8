/- The pure evaluator: stores into variables and into the elements of an array of the walk's own. / The pure evaluator: arrays of the walk's own: made,appended to,copied into,cleared; bytes read as a string. / The pure evaluator: append. -/
import Derived.Test.YthlpognahlnaaaaGreatPvHeap
set_option linter.all false
namespace Pv
open Go

section
variable {P : Program} {γ : Gh} {w : World} {T : Tm} {a : Act} {H : Heap} {o : Oper} {v : AV} {e : Eff} {t : Tch}

theorem RH.set' {γ' : Gh} {w' : World} (hH : RH γ w H) (hs : Stp γ w γ' w') {ob : Nat} (hob : ob < H.length) (hpl : ∀ i,i ≠ ob → γ'.pl i = γ.pl i)
  (hblk : ∀ i,i ≠ ob → ∀ b,(γ.pl i).own = some b → w'.heap[b]? = w.heap[b]? ∧ ∀ j,γ'.fix b j → γ.fix b j)
  (hown : ∀ b,(γ'.pl ob).own = some b → (γ.pl ob).own = some b ∨ w.heap.size ≤ b) (hfx : ∀ b j,γ'.fix b j → b < w'.heap.size) {c : Ob} (hc : RO γ' w' (γ'.pl ob) c) :
  RH γ' w' (H.set ob c) where
 ob i b hi:=by
  by_cases he : i = ob
  ·subst he
   rw [List.getElem?_set_self hob] at hi
   simp at hi
   subst hi
   exact hc
  ·rw [List.getElem?_set_ne (by omega)] at hi
   rw [hpl i he]
   exact (hH.ob i b hi).keep hs (fun b hb => (hblk i he b hb).1) (fun b hb => (hblk i he b hb).2)
 out i hi:=by
  simp at hi
  rw [hpl i (by omega)]
  exact hH.out i hi
 inj i i' b h1 h2:=by
  by_cases e1 : i = ob <;> by_cases e2 : i' = ob
  ·omega
  ·subst e1
   rw [hpl i' e2] at h2
   rcases hown b h1 with h3 | h3
   ·exact hH.inj _ _ b h3 h2
   ·have:=hH.own_lt h2; omega
  ·subst e2
   rw [hpl i e1] at h1
   rcases hown b h2 with h3 | h3
   ·exact hH.inj _ _ b h1 h3
   ·have:=hH.own_lt h1; omega
  ·rw [hpl i e1] at h1
   rw [hpl i' e2] at h2
   exact hH.inj _ _ b h1 h2
 fixb:=hfx

theorem zch (g : Nat) (cs : Array Value) : (w.setRow g cs).heap.size = w.heap.size:=by simp [World.setRow]

theorem Stp.setRow {g : Nat} {cs : Array Value} {ob : Nat} (hown : (γ.pl ob).own = some g) (hnf : ∀ j,¬ γ.fix g j) : Stp γ w γ (w.setRow g cs) where
 os:=rfl
 tape:=rfl
 output:=rfl
 size:=by rw [zch]; exact Nat.le_refl _
 fix b j hf:=by
  refine ⟨hf,zcu (setRow_other w g b cs ?_)⟩
  rintro rfl
  exact hnf j hf
 nfix b j hf:=.inl hf
 pl i:=.refl _
 other b hb hn:=setRow_other w g b cs (fun he => hn ob (he ▸ hown))
 own i b hb:=.inl ⟨i,hb⟩

theorem RH.setRow (hH : RH γ w H) {g : Nat} {cs : Array Value} {ob : Nat} (hob : ob < H.length) (hown : (γ.pl ob).own = some g) (hnf : ∀ j,¬ γ.fix g j) {c : Ob} (hc : RO γ (w.setRow g cs) (γ.pl ob) c) :
  RH γ (w.setRow g cs) (H.set ob c) :=
 hH.set' (.setRow hown hnf) hob (fun _ _ => rfl) (fun i hi b hb => ⟨setRow_other w g b cs (fun he => hi (hH.inj i ob g (he ▸ hb) hown)),fun j hj => hj⟩)
  (fun b hb => .inl hb) (fun b j hf => by rw [zch]; exact hH.fixb b j hf) hc

theorem zp0 (l : List AV) : (mkAgg l).cells = l:=by
 unfold mkAgg
 split
 ·rename_i ds hd
  rw [zgi hd]
  rfl
 ·rfl

theorem ztd {x : AV} {cur : List Value} (h : RVs γ w x.cells cur) {val : Value} (hv : RV γ w v val) (hst : stb v = true) {off : Nat} {y : AV} (hu : updA x off v = some y) :
  off + val.cells.size ≤ cur.length ∧ RVs γ w y.cells (upd cur off val.cells.toList):=by
 have hc:=hv.one_cells hst
 have hvl:=hc.1.length
 have hl:=h.length
 simp only [Array.length_toList] at hvl
 have one : ∀ x,(∀ cs,x ≠ .agg cs) → (∀ cs,x ≠ .d (.agg cs)) → RVs γ w x.cells cur → updA x off v = some y → off + val.cells.size ≤ cur.length ∧ RVs γ w y.cells (upd cur off val.cells.toList):=by
  intro x h1 h2 h hu
  have hcell : x.cells = [x]:=by
   cases x with
   | d d => cases d <;> first | rfl | exact absurd rfl (h2 _)
   | agg cs => exact absurd rfl (h1 _)
   | _ => rfl
  have hu' : off = 0 ∧ v.cells.length = 1 ∧ v = y:=by
   cases x with
   | d d => cases d <;> simp [updA] at hu <;> first | exact absurd rfl (h2 _) | exact ⟨hu.1.1,hu.1.2,hu.2⟩
   | agg cs => exact absurd rfl (h1 _)
   | _ => simp [updA] at hu; exact ⟨hu.1.1,hu.1.2,hu.2⟩
  obtain ⟨rfl,h3,rfl⟩:=hu'
  rw [hcell] at h
  have hcl:=h.length
  simp at hcl
  refine ⟨by omega,?_⟩
  have : upd cur 0 val.cells.toList = val.cells.toList:=by
   simp [upd]
   omega
  rw [this]
  exact hc.1
 have aggc : ∀ cs,RVs γ w cs cur → off + v.cells.length ≤ cs.length → off + val.cells.size ≤ cur.length ∧ RVs γ w (mkAgg (upd cs off v.cells)).cells (upd cur off val.cells.toList):=by
  intro cs h hle
  have:=h.length
  exact ⟨by omega,by rw [zp0]; exact h.upd hc.1 _⟩
 cases x with
 | d d =>
  cases d with
  | agg cs =>
   simp only [AV.cells] at h
   simp only [updA] at hu
   split at hu
   ·rename_i yy
    split at hu
    ·rename_i hle
     simp at hu
     subst hu
     cases hv with
     | d hv =>
      have hd:=h.to_d
      have hdv:=hv.one_cells
      have:=hd.length
      have:=hdv.1.length
      simp only [Array.length_toList] at this
      refine ⟨by omega,?_⟩
      simp only [AV.cells]
      exact .of_d (hd.upd hdv.1 _)
    ·simp at hu
   ·split at hu
    ·rename_i hle
     simp at hu
     subst hu
     exact aggc _ h (by simpa using hle)
    ·simp at hu
  | _ => exact one _ (by simp) (by simp) h hu
 | agg cs =>
  simp only [AV.cells] at h
  simp only [updA] at hu
  split at hu
  ·rename_i hle
   simp at hu
   subst hu
   exact aggc _ h hle
  ·simp at hu
 | _ => exact one _ (by simp) (by simp) h hu

theorem zf6 {ty : TypeId} {i : TypeInfo} (hi : P.info? ty = some i) {val : Value} (hsz : val.cells.size = i.size) (h1 : ones val.cells.toList) {b off : Nat} {cur : Array Value} {tt : TypeId}
  (hb : w.heap[b]? = some (.cells cur tt (0,0))) (hle : off + val.cells.size ≤ cur.size) :
  (storeVar ty ⟨b,off,none⟩ val).run P w = .ok () (w.setRow b (upd cur.toList off val.cells.toList).toArray):=by
 have:=run_storeCells_at P b off tt val.cells.toList 0 cur w hb (by simpa using hle) h1
 simp [storeVar,zaj hi,hsz,this,upd]

theorem flat_set {es : List DV} {z : Nat} (hz : ∀ e ∈ es,e.cells.length = z) : ∀ {i off : Nat} {x : DV} {cs ys : List DV},es[i]? = some x → x.cells = cs → off + ys.length ≤ z → (y : DV) → y.cells = upd cs off ys →
  flat (es.set i y) = upd (flat es) (i * z + off) ys:=by
 induction es with
 | nil => intro i off x cs ys h; simp at h
 | cons e0 r ih =>
  intro i off x cs ys h hx hle y hy
  have he0 : e0.cells.length = z:=hz e0 (by simp)
  cases i with
  | zero =>
   simp at h
   subst h
   simp only [List.set_cons_zero,flat,List.flatMap_cons,hy,upd,Nat.zero_mul,Nat.zero_add]
   subst hx
   rw [List.take_append_of_le_length (by omega),List.drop_append_of_le_length (by omega)]
   simp
  | succ i =>
   simp at h
   have ih':=ih (fun e he => hz e (by simp [he])) h hx hle y hy
   simp only [flat] at ih'
   have a1 : (i + 1) * z + off = e0.cells.length + (i * z + off):=by rw [he0,Nat.add_mul]; omega
   have a2 : (i + 1) * z + off + ys.length = e0.cells.length + (i * z + off + ys.length):=by omega
   simp only [List.set_cons_succ,flat,List.flatMap_cons,ih',upd]
   rw [a2,a1,List.take_length_add_append,List.drop_length_add_append]
   simp

theorem zrn {α : Type} {A B C : List α} {x y m : Nat} (h1 : A.length = x) (h2 : B.length = y) : (A ++ (B ++ C)).take (x + (y + m)) = A ++ (B ++ C.take m):=by
 subst h1; subst h2
 rw [List.take_length_add_append,List.take_length_add_append]

theorem zrl {α : Type} {cur ys : List α} {n off : Nat} (h : off + ys.length ≤ n) (hn : n ≤ cur.length) : (upd cur off ys).take n = upd (cur.take n) off ys:=by
 obtain ⟨m,rfl⟩ : ∃ m,n = off + (ys.length + m):=⟨n - off - ys.length,by omega⟩
 simp only [upd]
 rw [zrn (by simp; omega) rfl,List.take_take,Nat.min_eq_left (by omega),List.drop_take]
 congr 3
 omega

theorem zsq {ty : TypeId} {x y : Operand} (ho : o.op = .store ty x y) (hT : RT γ w T a) (hH : RH γ w H) {x' y' : Opn} (hx : opn x = some x') (hy : opn y = some y') {n : Nat} {c : Bool} (ht : tyL P ty = some (n,c))
  (h : act (.store n x' y') T H = some (v,e,t)) : Does P γ w a o v (e.on H):=by
 have h1:=zab hT hx
 have h2:=zab hT hy
 obtain ⟨⟨i,hi,hn⟩,_,_⟩:=zcb ht
 simp only [act] at h
 split at h
 ·rename_i hst
  obtain ⟨hst,hlen⟩:=hst
  have hc2:=h2.one_cells hst
  have hvl:=hc2.1.length
  simp only [Array.length_toList] at hvl
  split at h
  ·rename_i ob cc hs
   simp at h
   obtain ⟨rfl,rfl,rfl⟩:=h
   generalize hp : ev T x' = px at h1 hs
   generalize hv : ev T y' = pv at h2 hs hst hlen hc2 hvl
   generalize hvalx : a.eval x = vx at h1
   generalize hvaly : a.eval y = vy at h2 hc2 hvl
   cases px with
   | ptr ob' off =>
    simp only [storeA] at hs
    split at hs
    ·rename_i xx hob
     split at hs
     ·rename_i yy hupd
      simp at hs
      obtain ⟨rfl,rfl⟩:=hs
      cases h1 with
      | @ptr _ _ b hpl =>
       have hro:=hH.ob _ _ hob
       rw [hpl] at hro
       obtain ⟨⟨vs,tt,hb,hr,hone⟩,hnf⟩:=hro
       obtain ⟨hle,hr'⟩:=ztd hr h2 hst hupd
       simp only [Array.length_toList] at hle
       have hrun:=zf6 (P:=P) (w:=w) hi (val:=vy) (by omega) hc2.2 hb hle
       have hown : (γ.pl ob').own = some b:=by rw [hpl]; rfl
       have hstp:=Stp.setRow (w:=w) (cs:=(upd vs.toList off vy.cells.toList).toArray) hown hnf
       refine ⟨undef,_,γ,.inr ⟨by simp [execOp,ho,Instr.storeAt,hvalx,hvaly,Instr.sureAddr,hrun],rfl⟩,.junk _,hH.setRow (List.getElem?_eq_some_iff.1 hob).1 hown hnf ?_,hstp⟩
       rw [hpl]
       exact ⟨⟨_,tt,setRow_heap w b vs _ tt _ hb,by simpa using hr'.mono hstp,by simpa using hone.upd hc2.2 _⟩,hnf⟩
     ·simp at hs
    ·simp at hs
   | vptr ob' g z idx off =>
    simp only [storeA] at hs
    split at hs
    ·rename_i es hob
     split at hs
     ·rename_i hg0
      split at hs
      ·rename_i e0 yd he0
       split at hs
       ·rename_i hz0
        obtain ⟨hz0,hfit⟩:=hz0
        cases h1 with
        | @vptr _ _ _ _ _ blk p u yy g' hpl hg hh =>
         have hro:=hH.ob _ _ hob
         rw [hpl] at hro
         have hro : RArr γ w u yy g' es true:=hro
         obtain ⟨rfl,hidx,hob',rfl⟩:=hh (by rw [hro.hw]; omega)
         obtain ⟨cap,cur,vs,ee,rfl,hblk,hle,hm,hcs,htk,hr,hone⟩:=hro.block hob'
         have hnf:=hro.mu rfl blk rfl
         have hown : (γ.pl ob').own = some blk:=by rw [hpl]; rfl
         have hfl:=zkt hro.sz he0
         have hflen:=zak hro.sz
         have hrl:=hr.length
         have hyl : vy.cells.size = yd.cells.length:=by simpa [AV.cells] using hvl.trans (by cases yd <;> simp [AV.cells,DV.cells])
         cases h2 with
         | d h2 =>
          have hyd:=h2.one_cells
          have hcap : es.length * yy ≤ cap * yy:=Nat.mul_le_mul_right _ hle
          have hbound : idx * yy + yy ≤ es.length * yy:=by rw [← hflen]; exact hfl.2
          have hrun:=zf6 (P:=P) (w:=w) hi (val:=vy) (by omega) hc2.2 hblk (off:=idx * yy + off) (by omega)
          have hstp:=Stp.setRow (w:=w) (cs:=(upd cur.toList (idx * yy + off) vy.cells.toList).toArray) hown hnf
          have main : ∀ e1 : DV,e1.cells = upd e0.cells off yd.cells → e1.cells.length = yy →
            RO γ (w.setRow blk (upd cur.toList (idx * yy + off) vy.cells.toList).toArray) (γ.pl ob') (.arr (es.set idx e1) true):=by
           intro e1 hc1 hl1
           rw [hpl]
           refine ⟨by rw [hro.hw]; simp,?_,hro.zp,⟨upd vs (idx * yy + off) vy.cells.toList,ee,?_,hone.upd hc2.2 _,?_,?_⟩,?_,?_⟩
           ·intro x hx
            rcases List.mem_or_eq_of_mem_set hx with hx | rfl
            ·exact hro.sz x hx
            ·exact hl1
           ·rw [flat_set hro.sz he0 rfl hfit e1 hc1]
            exact (hr.upd hyd.1 _).mono hstp.fix
           ·rw [zbr _ _ _ (by simp; omega)]
            simp
            omega
           ·refine .inr ⟨blk, cap, _, by simp, Nat.zero_le _, setRow_heap w blk cur _ ee _ hblk, by simpa using hle, hm, ?_, ?_⟩
            ·simp
             rw [zbr _ _ _ (by simp; omega)]
             simpa using hcs
            ·simp only [List.length_set]
             rw [zrl (by simp; omega) (by simp; omega),htk]
           ·intro _ g hg j
            simp [Value.ownBlock] at hg
            subst hg
            exact hnf j
           ·intro hw; simp at hw
          have fin : ∀ e1 : DV,e1.cells = upd e0.cells off yd.cells → e1.cells.length = yy → ob = ob' → cc = .arr (es.set idx e1) true → Does P γ w a o .junk ((Eff.set ob cc).on H):=by
           intro e1 hc1 hl1 hob2 hcc
           subst hob2; subst hcc
           exact ⟨undef,_,γ,.inr ⟨by simp [execOp,ho,Instr.storeAt,hvalx,hvaly,Instr.sureAddr,hrun],rfl⟩,.junk _,hH.setRow (List.getElem?_eq_some_iff.1 hob).1 hown hnf (main e1 hc1 hl1),hstp⟩
          have hlu : (upd e0.cells off yd.cells).length = yy:=by rw [zbr _ _ _ (by omega)]; exact hz0
          split at hs
          ·rename_i cs
           simp at hs
           obtain ⟨rfl,rfl⟩:=hs
           exact fin (.agg (upd cs off yd.cells)) rfl hlu rfl rfl
          ·rename_i hna
           have h1c : e0.cells = [e0]:=by cases e0 <;> first | rfl | exact absurd rfl (hna _)
           split at hs
           ·simp at hs
           ·rename_i hnya
            simp at hs
            obtain ⟨rfl,rfl⟩:=hs
            have h2c : yd.cells = [yd]:=by cases yd <;> first | rfl | exact absurd rfl (hnya _)
            rw [h1c] at hz0
            rw [h2c] at hfit
            simp at hz0 hfit
            have h0 : off = 0:=by omega
            subst h0
            exact fin yd (by rw [h1c,h2c]; simp [upd]) (by rw [h2c]; simpa using hz0) rfl rfl
       ·simp at hs
      ·simp at hs
     ·simp at hs
    ·simp at hs
   | _ => simp [storeA] at hs
  ·simp at h
 ·simp at h

end
end Pv

namespace Pv
open Go

section
variable {P : Program} {γ : Gh} {w : World} {T : Tm} {a : Act} {H : Heap} {o : Oper} {v : AV} {e : Eff} {t : Tch}

theorem zel (xs ys : List DV) : flat (xs ++ ys) = flat xs ++ flat ys:=by simp [flat]

theorem zcf (z n l c : Nat) (w : World) : (Builtin.firstCells z n (.slice none l c)).run P w = .ok #[] w:=by simp [Builtin.firstCells]
theorem zc9 (z : Nat) (b : Option Addr) (l c : Nat) (w : World) : (Builtin.firstCells z 0 (.slice b l c)).run P w = .ok #[] w:=by
 cases b with
 | none => exact zcf ..
 | some ad => simp [Builtin.firstCells,loadCells,loadCellsFrom]

/-- What stands behind a slice or a string that is read: its elements' cells. -/
structure ElemsAt (P : Program) (γ : Gh) (w : World) (z : Nat) (ys : List DV) (xv : Value) : Prop where
 len : ∀ w',(Builtin.lenOf xv).run P w' = .ok ys.length w'
 at_ : ∃ news,RDs γ.fix w (flat ys) news ∧ ones news ∧ ∀ w',w'.heap = w.heap → ∀ m,m ≤ ys.length → (Builtin.firstCells z m xv).run P w' = .ok (news.take (m * z)).toArray w'

theorem zc5 (hH : RH γ w H) {y : AV} {xv : Value} (hy : RV γ w y xv) {ys : List DV} (h : elems H y = some ys) {z : Nat} (hz : ys.all (fun e => e.cells.length == z) = true) (hzp : 0 < z) :
  ElemsAt P γ w z ys xv:=by
 have hz' : ∀ e ∈ ys,e.cells.length = z:=by simpa using hz
 have hfl:=zak hz'
 have nilCase : ∀ b c,xv = .slice b 0 c → ys = [] → ElemsAt P γ w z ys xv:=by
  intro b c h1 h2
  subst h1; subst h2
  refine ⟨fun w' => by simp [Builtin.lenOf],[],.nil,by simp [ones],fun w' _ m hm => ?_⟩
  simp at hm
  subst hm
  rw [zc9]
  simp
 cases y with
 | d d =>
  cases d with
  | sl es =>
   simp [elems] at h
   subst h
   cases hy with
   | d hy =>
    cases hy with
    | nil b c => exact nilCase b c rfl rfl
    | @sl _ vs z' blk off cap g g1 hzz hc hf =>
     refine ⟨fun w' => by simp [Builtin.lenOf],vs,g,g1,fun w' hw m hm => ?_⟩
     have hvl:=g.length
     simp only [Builtin.firstCells]
     have hcells : ∀ j u,(vs.take (m * z))[j]? = some u → w'.cell? ((⟨blk,off,none⟩ : Addr).add j) = some u:=by
      intro j u hj
      rw [Addr.add_lit]
      have:=(zdv hf (m * z) j u hj).2
      simp only [World.cell?,hw] at this ⊢
      exact this
     have hrun:=run_loadCells_list (P:=P) w' ⟨blk,off,none⟩ (vs.take (m * z)) hcells
     have hml : m * z ≤ vs.length:=by rw [hvl,hfl]; exact Nat.mul_le_mul_right _ hm
     rw [List.length_take,Nat.min_eq_left hml] at hrun
     exact hrun
  | s x =>
   simp [elems] at h
   cases hy with
   | d hy =>
    cases hy
    have hlen : ys.length = x.size:=by rw [← h]; simp
    have hflat : flat ys = ys:=by
     rw [← h]
     simp only [flat]
     generalize x.data.toList = l
     induction l with
     | nil => rfl
     | cons c r ih => simp only [List.map_cons,List.flatMap_cons,ih]; rfl
    have hz1 : ys ≠ [] → z = 1:=by
     intro hne
     cases ys with
     | nil => exact absurd rfl hne
     | cons y0 r =>
      have h0:=hz' y0 (by simp)
      cases hl : x.data.toList with
      | nil => rw [hl] at h; simp at h
      | cons c r' =>
       rw [hl] at h
       simp at h
       rw [← h.1] at h0
       simpa [DV.cells] using h0.symm
    refine ⟨fun w' => by simp [Builtin.lenOf,hlen],x.data.toList.map (fun c => .int .u8 (c.toNat : Int)),?_,?_,fun w' hw m hm => ?_⟩
    ·rw [hflat, ← h]
     generalize x.data.toList = l
     induction l with
     | nil => exact .nil
     | cons c r ih => exact .cons (.i _ _) ih
    ·intro u hu
     simp at hu
     obtain ⟨c,_,rfl⟩:=hu
     rfl
    ·by_cases hne : ys = []
     ·subst hne
      simp at hm
      subst hm
      simp [Builtin.firstCells]
     ·rw [hz1 hne]
      simp only [Builtin.firstCells,Sem.run_pure,Nat.mul_one]
      congr 1
      apply Array.ext'
      simp [ByteArray.data_extract,Array.toList_extract,List.extract,List.map_take]
  | _ => simp [elems] at h
 | nilS =>
  simp [elems] at h
  cases hy
  exact nilCase none 0 rfl h
 | z0 =>
  simp [elems] at h
  cases hy
  exact nilCase _ _ rfl h
 | e0 b =>
  simp [elems] at h
  cases hy
  ·exact nilCase _ _ rfl h
  ·exact nilCase _ _ rfl h
 | view ob g zz off len =>
  simp only [elems] at h
  split at h
  ·rename_i es wr hob
   split at h
   ·rename_i hg0
    simp at h
    subst h
    cases hy with
    | @view _ _ _ _ _ b cap u yy g' hpl hg hc hb hh =>
     have hro:=hH.ob _ _ hob
     rw [hpl] at hro
     have hro : RArr γ w u yy g' es wr:=hro
     have hv:=hh (by rw [hro.hw]; omega)
     have hfit:=hv.fit
     have hsl : (subL es off len).length = len:=by simp [subL]; omega
     by_cases hl0 : len = 0
     ·subst hl0
      exact nilCase b cap rfl (List.eq_nil_of_length_eq_zero hsl)
     ·obtain ⟨blk, hob', rfl⟩ := hv.sl _ _ _ rfl (by omega)
      obtain ⟨cap',cur,vs,ee,rfl,hblk,hle,hm,hcs,htk,hr,hone⟩:=hro.block hob'
      have hzz:=hv.zz
      subst hzz
      have hzeq : z = yy:=by
       have hne : subL es off len ≠ []:=by intro h0; rw [h0] at hsl; simp at hsl; omega
       obtain ⟨x0,hx0⟩:=List.exists_mem_of_ne_nil _ hne
       rw [← hz' x0 hx0]
       exact hro.sz x0 (List.mem_of_mem_drop (List.mem_of_mem_take hx0))
      subst hzeq
      have hflr:=zak hro.sz
      have hvl:=hr.length
      refine ⟨fun w' => by simp [Builtin.lenOf,hsl],(vs.drop (off * z)).take (len * z),?_,(hone.drop _).take _,fun w' hw m hm' => ?_⟩
      ·unfold subL
       rw [zcc (fun e' he' => hro.sz e' (List.mem_of_mem_drop he')),zex hro.sz]
       exact (hr.drop _).take _
      ·simp only [Builtin.firstCells]
       rw [hsl] at hm'
       have hmz : m * z ≤ len * z:=Nat.mul_le_mul_right _ hm'
       have hend : off * z + len * z ≤ vs.length:=by rw [hvl,hflr,← Nat.add_mul]; exact Nat.mul_le_mul_right _ (by omega)
       have hcells : ∀ j u,(((vs.drop (off * z)).take (len * z)).take (m * z))[j]? = some u → w'.cell? ((⟨blk,off * z,none⟩ : Addr).add j) = some u:=by
        intro j u hj
        rw [Addr.add_lit,cell_of_row w' blk _ cur ee _ (by rw [hw]; exact hblk)]
        rw [List.getElem?_take] at hj
        split at hj
        ·rw [List.getElem?_take] at hj
         split at hj
         ·rw [List.getElem?_drop, ← htk, List.getElem?_take] at hj
          split at hj
          ·simpa using hj
          ·simp at hj
         ·simp at hj
        ·simp at hj
       have hrun:=run_loadCells_list (P:=P) w' ⟨blk,off * z,none⟩ _ hcells
       rw [List.length_take,List.length_take,List.length_drop,Nat.min_eq_left (by omega)] at hrun
       exact hrun
   ·simp at h
  ·simp at h
 | _ => simp [elems] at h

end
end Pv

namespace Pv
open Go

section
variable {P : Program} {γ : Gh} {w : World} {T : Tm} {a : Act} {H : Heap} {o : Oper} {v : AV} {e : Eff} {t : Tch}

theorem zco {ty u rt el el' : TypeId} {i : TypeInfo} {zv : Value} {d : TypeDesc} (ht : P.underlying ty = some (.slice el)) (hu : P.underlying u = some d) (hd : ∀ k,d ≠ .int k) (hi : P.info? el = some i) (hz : i.zero = some zv)
  {val : Value} {n : Nat} {xs : List Value} (hown : w.ownsRow 0 el' i.size val n xs) {xv : Value} {m : Nat} {news : List Value} (hl : news.length = m * i.size) (h1 : ones news)
  (hlen : ∀ w',(Builtin.lenOf xv).run P w' = .ok m w') (hf : ∀ w' : World,w'.heap = w.heap → (Builtin.firstCells i.size m xv).run P w' = .ok news.toArray w')
  (hlim : n + m ≤ LIM) (hby : i.bytes ≤ 4096) :
  (∃ g cap cur, val = .slice (some ⟨g, 0, none⟩) n cap ∧ n + m ≤ cap ∧ cap ≤ maxLen ∧ w.heap[g]? = some (.cells cur el' (0, 0)) ∧ cur.size = cap * i.size ∧ cur.toList.take (n * i.size) = xs ∧
   (Builtin.append_ #[ty,u] rt #[val,xv]).run P w = .ok (.slice (some ⟨g,0,none⟩) (n + m) cap) (w.setRow g (upd cur.toList (n * i.size) news).toArray)) ∨
  (n = 0 ∧ m = 0 ∧ val = .slice none 0 0 ∧ (Builtin.append_ #[ty,u] rt #[val,xv]).run P w = .ok val w) ∨
  (∃ cap, 0 < m ∧ n + m ≤ cap ∧ cap ≤ maxLen ∧
   (Builtin.append_ #[ty,u] rt #[val,xv]).run P w = .ok (.slice (some ⟨w.heap.size,0,none⟩) (n + m) cap) (w.drew.alloc (.cells (xs.toArray ++ news.toArray ++ Builtin.zeroCells zv.cells (cap - (n + m))) el))):=by
 have hzeros' : (match d with | .int _ => true | _ => false) = false:=by cases d <;> first | rfl | exact absurd rfl (hd _)
 have small : ∀ old,old < n + m → ¬ (281474976710656 < Builtin.nextslicecap (n + m) old * i.bytes):=by
  intro old ho
  have h1:=nextslicecap_le ho
  have h2 : Builtin.nextslicecap (n + m) old * i.bytes ≤ 2 * (n + m) * 4096:=Nat.mul_le_mul h1 hby
  simp only [LIM] at hlim
  omega
 have h63 : ¬ (9223372036854775807 < ((n : Int) + (m : Int))):=by simp only [LIM] at hlim; omega
 have capm : ∀ old,grownCap w (n + m) old el ≤ maxLen:=fun old => grownCap_le_maxLen w (n + m) old el (by simp only [LIM,maxLen] at hlim ⊢; omega)
 rcases hown.2 with ⟨rfl,rfl⟩ | ⟨g,cap,cur,rfl,_,hg,hle,hm,hcs,htk⟩
 ·have hx : xs = [] := List.eq_nil_of_length_eq_zero (by simpa using hown.1)
  subst hx
  by_cases hm0 : m = 0
  ·subst hm0
   refine .inr (.inl ⟨rfl,rfl,rfl,?_⟩)
   have hn : news = []:=List.eq_nil_of_length_eq_zero (by simpa using hl)
   simp [Builtin.append_,run_underlying ht,run_underlying hu,hzeros',Go.sizeOf,typeInfo,hi,hlen,hf w rfl]
  ·refine .inr (.inr ⟨grownCap w (0 + m) 0 el, by omega, ?_, capm 0, ?_⟩)
   ·exact grownCap_ge w (0 + m) 0 el
   ·have hs := small 0 (by omega)
    simp only [Nat.zero_add] at hs h63 ⊢
    have h63' : ¬ (9223372036854775807 < (m : Int)):=by omega
    have hdr:=hf w.drew rfl
    simp [Builtin.append_,run_underlying ht,run_underlying hu,hzeros',Go.sizeOf,typeInfo,zeroValue,hi,hz,hlen,hm0,h63',hs,Question.forced,zcf,hdr,newRow,grownCap]
 ·by_cases hroom : n + m ≤ cap
  ·refine .inl ⟨g, cap, cur, rfl, hroom, hm, hg, hcs, htk, ?_⟩
   have hst:=run_storeCells_at P g (n * i.size) el' news 0 cur w hg (by
    rw [hcs,hl]
    have:=Nat.mul_le_mul_right i.size hroom
    rw [Nat.add_mul] at this
    omega) h1
   simp only [Nat.add_zero] at hst
   have he : (upd cur.toList (n * i.size) news).toArray = (cur.toList.take (n * i.size) ++ news ++ cur.toList.drop (n * i.size + news.length)).toArray:=by simp [upd]
   rw [he]
   simp [Builtin.append_,run_underlying ht,run_underlying hu,hzeros',Go.sizeOf,typeInfo,hi,hlen,hroom,hf w rfl,Addr.add_lit,hst]
  ·refine .inr (.inr ⟨grownCap w (n + m) cap el, by omega, grownCap_ge w (n + m) cap el, capm cap, ?_⟩)
   have hs:=small cap (by omega)
   have hdr:=hf w.drew rfl
   have holds : ∀ j u,xs[j]? = some u → w.drew.cell? ((⟨g,0,none⟩ : Addr).add j) = some u:=by
    intro j u hj
    have:=hown.cells (g:=g) rfl j u hj
    exact this
   have hfo:=run_firstCells_some (P:=P) w.drew i.size n ⟨g,0,none⟩ n cap xs hown.1 holds
   simp [Builtin.append_,run_underlying ht,run_underlying hu,hzeros',Go.sizeOf,typeInfo,zeroValue,hi,hz,hlen,hroom,h63,hs,Question.forced,hfo,hdr,newRow,grownCap]
   congr 2
   apply Array.ext'
   simp [List.append_assoc]

theorem zk6 {ty u rt el : TypeId} {i : TypeInfo} {zv : Value} {d : TypeDesc} (ht : P.underlying ty = some (.slice el)) (hu : P.underlying u = some d) (hd : ∀ k,d ≠ .int k) (hi : P.info? el = some i) (hz : i.zero = some zv)
  (b : Option Addr) {xv : Value} {m : Nat} {news : List Value} (hl : news.length = m * i.size)
  (hlen : ∀ w',(Builtin.lenOf xv).run P w' = .ok m w') (hf : ∀ w' : World,w'.heap = w.heap → (Builtin.firstCells i.size m xv).run P w' = .ok news.toArray w')
  (hlim : m ≤ LIM) (hby : i.bytes ≤ 4096) (h0 : 0 < m) :
  ∃ cap,m ≤ cap ∧ cap ≤ maxLen ∧ (Builtin.append_ #[ty,u] rt #[.slice b 0 0,xv]).run P w = .ok (.slice (some ⟨w.heap.size,0,none⟩) m cap) (w.drew.alloc (.cells (#[] ++ news.toArray ++ Builtin.zeroCells zv.cells (cap - m)) el)):=by
 have hzeros' : (match d with | .int _ => true | _ => false) = false:=by cases d <;> first | rfl | exact absurd rfl (hd _)
 have hs : ¬ (281474976710656 < Builtin.nextslicecap m 0 * i.bytes):=by
  have h1:=nextslicecap_le (need:=m) (old:=0) h0
  have h2 : Builtin.nextslicecap m 0 * i.bytes ≤ 2 * m * 4096:=Nat.mul_le_mul h1 hby
  simp only [LIM] at hlim
  omega
 have h63' : ¬ (9223372036854775807 < (m : Int)):=by simp only [LIM] at hlim; omega
 have hm0 : m ≠ 0:=by omega
 have hdr:=hf w.drew rfl
 refine ⟨grownCap w m 0 el,grownCap_ge w m 0 el,grownCap_le_maxLen w m 0 el (by simp only [LIM,maxLen] at hlim ⊢; omega),?_⟩
 simp [Builtin.append_,run_underlying ht,run_underlying hu,hzeros',Go.sizeOf,typeInfo,zeroValue,hi,hz,hlen,hm0,h63',hs,Question.forced,zc9,hdr,newRow,grownCap]

theorem zi1 {ty u rt el : TypeId} {i : TypeInfo} {d : TypeDesc} (ht : P.underlying ty = some (.slice el)) (hu : P.underlying u = some d) (hd : ∀ k,d ≠ .int k) (hi : P.info? el = some i)
  (b : Option Addr) {xv : Value} (hlen : ∀ w',(Builtin.lenOf xv).run P w' = .ok 0 w') (hf : ∀ w' : World,w'.heap = w.heap → (Builtin.firstCells i.size 0 xv).run P w' = .ok #[] w') :
  (Builtin.append_ #[ty,u] rt #[.slice b 0 0,xv]).run P w = .ok (.slice b 0 0) w:=by
 have hzeros' : (match d with | .int _ => true | _ => false) = false:=by cases d <;> first | rfl | exact absurd rfl (hd _)
 cases b with
 | none => simp [Builtin.append_,run_underlying ht,run_underlying hu,hzeros',Go.sizeOf,typeInfo,hi,hlen,hf w rfl]
 | some ad => simp [Builtin.append_,run_underlying ht,run_underlying hu,hzeros',Go.sizeOf,typeInfo,hi,hlen,hf w rfl,storeCells]

end
end Pv
