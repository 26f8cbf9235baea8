/- slices.Clone as an outside function of the evaluator: the same row,in an array of its own (or as data),whether what is cloned is nil or empty. -/
import Derived.Test.YthlpognahlnaaaaGreatPkEvd
import Derived.Test.YthlpognahlnaaaaGreatPvSound
set_option linter.all false
namespace Pk
open Pv Go
set_option maxRecDepth 10000

def cloneC (z : Nat) : ACode :=
 .seq (.region (some [0]) [⟨some 2,.mv (.c (.nilS)),none⟩] [])
 (.seq (.seq (.region (some [0]) [⟨some 3,.mv (.t 0),none⟩,⟨some 4,.isnil false (.t 3),none⟩] [])
 (.cond (.t 4) (.seq (.region (some []) [⟨some 2,.mv (.c (.nilS)),none⟩] []) (.ret)) (.skip)))
 (.seq (.region (some [0]) [⟨some 5,.bsl z [],none⟩,⟨some 6,.mv (.t 0),none⟩,⟨some 7,.app z (.t 5) (.t 6),none⟩,⟨some 2,.mv (.t 7),none⟩] [])
 (.ret)))
def cloneF (z : Nat) : AFn:=.code 1 (cloneC z) [.tmp 2]
def cloneT (f : FuncId) (z : Nat) : FuncId → Option AFn:=fun g => if g = f then some (cloneF z) else none
theorem zsv {P : Program} {f : FuncId} {z : Nat} (h : ∃ h,compF P h f = some (cloneF z)) : CRel P (cloneT f z):=by
 intro g fn hg
 unfold cloneT at hg
 split at hg
 ·rename_i e
  subst e
  injection hg with hg
  subst hg
  exact h
 ·simp at hg
theorem zsd (f : FuncId) (z : Nat) (e : DV) (es : List DV) (hl : es.length + 1 ≤ LIM) (hz : (e :: es).all (fun x => x.cells.length == z) = true) :
  evF (cloneT f z) f [.d (.sl (e :: es))] [] = some (.view 0 (e :: es).length z 0 (e :: es).length,[.arr (e :: es) true]):=by
 have hC : cloneT f z f = some (.code 1 (cloneC z) [.tmp 2]):=by simp [cloneT,cloneF]
 have hl' : 0 + (e :: es).length ≤ LIM:=by simp only [List.length_cons]; omega
 rw [zaa hC _ _ rfl]
 simp +decide only [cloneC,Pk.EVL,Pk.EVD,↓reduceIte]
 simp only [List.all_cons,Bool.and_eq_true,List.all_eq_true,beq_iff_eq,DV.cells] at hz
 simp only [List.all_eq_true,beq_iff_eq,DV.cells]
 rw [if_pos hz,if_pos hl]
 simp +decide only [Pk.EVL,Pk.EVD,↓reduceIte]
theorem clone_nil (f : FuncId) (z : Nat) : evF (cloneT f z) f [.e0 true] [] = some (.nilS,[]):=by
 have hC : cloneT f z f = some (.code 1 (cloneC z) [.tmp 2]):=by simp [cloneT,cloneF]
 rw [zaa hC _ _ rfl]
 simp +decide only [cloneC,Pk.EVL,Pk.EVD,↓reduceIte]
theorem clone_emp (f : FuncId) (z : Nat) : evF (cloneT f z) f [.e0 false] [] = some (.view 0 0 z 0 0,[.arr [] true]):=by
 have hC : cloneT f z f = some (.code 1 (cloneC z) [.tmp 2]):=by simp [cloneT,cloneF]
 rw [zaa hC _ _ rfl]
 simp +decide only [cloneC,Pk.EVL,Pk.EVD,↓reduceIte]
/-- What slices.Clone answers,of elements of z cells. -/
def cloneX (z : Nat) : List AV → Option (AV × Heap)
 | [.d (.sl es)] => if es.length ≤ LIM ∧ es.all (fun x => x.cells.length == z) = true then some (.view 0 es.length z 0 es.length,[.arr es true]) else none
 | _ => none
def cloneD (z : Nat) : List AV → Option (AV × Heap)
 | [.d (.sl es)] => if es.length ≤ LIM ∧ es.all (fun x => x.cells.length == z) = true then some (.d (.sl es),[]) else none
 | _ => none
theorem cloneX_ok {P : Program} {f : FuncId} {z : Nat} (hz : 0 < z) (h : ∃ h,compF P h f = some (cloneF z)) : ∀ args r,cloneX z args = some r → SRet P f args [] r:=by
 intro args r hr
 have hs:=(sound (cloneT f z) (zsv h)).1
 unfold cloneX at hr
 split at hr
 ·rename_i es
  split at hr
  ·rename_i hc
   obtain ⟨hl,ha⟩:=hc
   injection hr with hr
   subst hr
   cases es with
   | cons e es => exact hs _ _ _ _ (zsd f z e es (by simpa using hl) ha)
   | nil =>
    have h1:=hs _ _ _ _ (clone_nil f z)
    have h2:=hs _ _ _ _ (clone_emp f z)
    refine ⟨h1.1,fun γ w vs hvs hH => ?_⟩
    cases hvs with
    | cons a hvs =>
     cases hvs
     cases a with
     | d a =>
      cases a with
      | nil a cap =>
       cases a with
       | none =>
        refine (h1.2 γ w _ (.cons (.e0t cap) .nil) hH).mono ?_
        rintro e w' ⟨v,γ',rfl,hv,hH',hst⟩
        cases hv
        have hgw : w'.grownBy w' none:=⟨rfl,rfl,rfl,Nat.le_refl _,fun _ _ _ => rfl⟩
        have hown : ∀ b,(Pl.arr (.slice none 0 0) z 0).own = some b → w'.heap.size ≤ b:=fun b hb => by simp [Pl.own,Value.ownBlock] at hb
        have hro : RArr (γ'.put ([] : Heap).length (.arr (.slice none 0 0) z 0)) w' (.slice none 0 0) z 0 [] true :=
         ⟨rfl,by simp,by omega,⟨[],0,.nil,by simp [ones],World.ownsRow_nil ..⟩,fun _ g hg => by simp [Value.ownBlock] at hg,fun hw => by simp at hw⟩
        exact ⟨_,_,rfl,RV.full (γ'.put_same _ _) hro,RH.push hH' hgw hown hro,hst.trans (Stp.new hH' hgw hown)⟩
       | some a => exact h2.2 γ w _ (.cons (.e0f a cap) .nil) hH
      | sl h' h1' hz' hc' hf' => exact h2.2 γ w _ (.cons (.e0f _ _) .nil) hH
  ·simp at hr
 ·simp at hr
theorem cloneD_ok {P : Program} {f : FuncId} {z : Nat} (hz : 0 < z) (h : ∃ h,compF P h f = some (cloneF z)) : ∀ args r,cloneD z args = some r → SRet P f args [] r:=by
 intro args r hr
 unfold cloneD at hr
 split at hr
 ·rename_i es
  split at hr
  ·rename_i hc
   injection hr with hr
   subst hr
   have h1:=cloneX_ok hz h [.d (.sl es)] (.view 0 es.length z 0 es.length,[.arr es true]) (by simp only [cloneX]; rw [if_pos hc])
   refine ⟨h1.1,fun γ w vs hvs hH => (h1.2 γ w vs hvs hH).mono ?_⟩
   rintro e w' ⟨v,γ',rfl,hv,hH',hst⟩
   obtain ⟨γ2,h2,h3,h4,h5⟩:=zgr hH' hv (es:=es) (wr:=true) rfl rfl
   have e1 : subL es 0 es.length = es:=by simp [subL]
   rw [e1] at h2
   exact ⟨v,γ2.cut 0,rfl,.d h2,h3.cut (Nat.zero_le _) rfl,(hst.trans h4).cut hH.out⟩
  ·simp at hr
 ·simp at hr
end Pk
