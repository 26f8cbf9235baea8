/- The pure evaluator: the other operations that touch no object. -/
import Derived.Test.YtlihpaegaikoeaaDoorPvOps
set_option linter.all false
namespace Pv
open Go

section
variable {P : Program} {γ : Gh} {w : World} {T : Tm} {a : Act} {H : Heap} {o : Oper} {v : AV} {e : Eff} {t : Tch}

/-- What an operation that touches no object does. -/
def Quiet (P : Program) (γ : Gh) (w : World) (a : Act) (o : Oper) (v : AV) : Prop :=
  ∃ v', (execOp a.eval o).run P w = .ok (.value v') w ∧ RV γ w v v'

theorem q_mv {x : Operand} (ho : o.op = .move x ∨ o.op = .assign x) (hT : RT γ w T a) {y : Opn} (hx : opn x = some y) (h : act (.mv y) T H = some (v, e, t)) :
    Quiet P γ w a o v ∧ e = .none ∧ t = .none := by
  simp [act] at h
  obtain ⟨rfl, rfl, rfl⟩ := h
  refine ⟨⟨a.eval x, ?_, opn_sound hT hx⟩, rfl, rfl⟩
  rcases ho with ho | ho <;> simp [execOp, ho]

theorem q_const {x : DV} {val : Value} (hr : RD γ.fix w x val) (hrun : (execOp a.eval o).run P w = .ok (.value val) w) (h : act (.mv (.c (.d x))) T H = some (v, e, t)) :
    Quiet P γ w a o v ∧ e = .none ∧ t = .none := by
  simp [act, ev] at h
  obtain ⟨rfl, rfl, rfl⟩ := h
  exact ⟨⟨val, hrun, .d hr⟩, rfl, rfl⟩

theorem q_pick {c x y : Operand} (ho : o.op = .pick c x y) (hT : RT γ w T a) {c' x' y' : Opn} (hc : opn c = some c') (hx : opn x = some x') (hy : opn y = some y')
    (h : act (.pick c' x' y') T H = some (v, e, t)) : Quiet P γ w a o v ∧ e = .none ∧ t = .none := by
  have h1 := opn_sound hT hc
  simp only [act] at h
  split at h
  · rename_i b hb
    rw [hb] at h1
    cases h1 with
    | d h1 =>
      generalize hval : a.eval c = val at h1
      cases h1
      simp at h
      obtain ⟨rfl, rfl, rfl⟩ := h
      refine ⟨⟨if b then a.eval x else a.eval y, ?_, ?_⟩, rfl, rfl⟩
      · simp [execOp, ho, hval, asBool]
      · cases b
        · exact opn_sound hT hy
        · exact opn_sound hT hx
  · simp at h

theorem eqGuard_plain {op : BinOp} {ty : TypeId} {x y : Operand} {vx vy : Value} (h1 : ∀ cs, vx ≠ .agg cs) (h2 : vx ≠ .nilIface) : (eqGuard op ty x y vx vy).run P w = .ok () w := by
  unfold eqGuard
  cases op <;> simp <;> (cases vx <;> simp_all)

theorem RD.noIface {fx : Nat → Nat → Prop} {x : DV} {v : Value} (h : RD fx w x v) : v ≠ .nilIface := by
  cases h <;> simp

theorem q_bin {op : BinOp} {ty ty' : TypeId} {x y : Operand} (ho : o.op = .binOp op ty x y ty') (hT : RT γ w T a) {x' y' : Opn} (hx : opn x = some x') (hy : opn y = some y')
    (h : act (.bin op x' y') T H = some (v, e, t)) : Quiet P γ w a o v ∧ e = .none ∧ t = .none := by
  have h1 := opn_sound hT hx
  have h2 := opn_sound hT hy
  simp only [act] at h
  split at h
  · rename_i p q hp hq
    rw [hp] at h1
    rw [hq] at h2
    split at h
    · rename_i r hr
      simp at h
      obtain ⟨rfl, rfl, rfl⟩ := h
      cases h1 with
      | d h1 =>
        cases h2 with
        | d h2 =>
          obtain ⟨v', hrun, hv⟩ := binD_sound (P := P) h1 h2 hr ty w
          refine ⟨⟨v', ?_, .d hv⟩, rfl, rfl⟩
          have hg : (eqGuard op ty x y (a.eval x) (a.eval y)).run P w = .ok () w := by
            refine eqGuard_plain ?_ h1.noIface
            intro cs hcs
            rw [hcs] at h1
            cases h1
            simp [binD] at hr
          simp [execOp, ho, hg, hrun]
    · simp at h
  · simp at h

theorem q_eq {op : BinOp} {ty ty' : TypeId} {x y : Operand} (ho : o.op = .binOp op ty x y ty') (hT : RT γ w T a) {x' y' : Opn} (hx : opn x = some x') (hy : opn y = some y') {et : ETy} {k : Nat}
    (het : ety P k ty = some et) (hk : k ≤ 10000) (hg : ∀ xs ys, (eqGuard op ty x y (.agg xs) (.agg ys)).run P w = .ok () w) (hop : op = .eql ∨ op = .neq) (hsc : et = .sb ∨ et.isAgg = true)
    (h : act (.eq (op == .neq) et x' y') T H = some (v, e, t)) : Quiet P γ w a o v ∧ e = .none ∧ t = .none := by
  have h1 := opn_sound hT hx
  have h2 := opn_sound hT hy
  simp only [act] at h
  split at h
  · rename_i p q hp hq
    rw [hp] at h1
    rw [hq] at h2
    split at h
    · rename_i r hr
      simp only [Option.some.injEq, Prod.mk.injEq] at h
      obtain ⟨rfl, rfl, rfl⟩ := h
      cases h1 with
      | d h1 =>
        cases h2 with
        | d h2 =>
          have hrun := eqV_sound k 10000 ty et het hk p q _ _ r w h1 h2 hr
          have hrun' : (Op.equal ty (a.eval x) (a.eval y)).run P w = .ok r w := hrun
          have hg' : (eqGuard op ty x y (a.eval x) (a.eval y)).run P w = .ok () w := by
            generalize a.eval x = vx at h1 ⊢
            generalize a.eval y = vy at h2 ⊢
            cases h1 with
            | agg g1 =>
              cases h2 with
              | agg g2 => exact hg _ _
              | _ => cases op <;> simp [eqGuard]
            | _ => exact eqGuard_plain (by simp) (by simp)
          have hb : (binOp op ty (a.eval x) (a.eval y)).run P w = .ok (.bool (if (op == .neq) = true then !r else r)) w := by
            generalize a.eval x = vx at h1 hrun' ⊢
            generalize a.eval y = vy at h2 hrun' ⊢
            rcases hsc with rfl | hag
            · cases h1 <;> cases h2 <;> simp [eqV] at hr
              rcases hop with rfl | rfl
              · simp only [binOp, Sem.run_bind, hrun', Result.andThen_ok, Sem.run_pure]; rfl
              · simp only [binOp, Sem.run_bind, hrun', Result.andThen_ok, Sem.run_pure]; rfl
            · cases et with
              | agg ps =>
                cases h1 <;> cases h2 <;> simp [eqV] at hr
                rcases hop with rfl | rfl
                · rw [run_eql_struct]
                  have := hrun
                  have e2 : ∀ xs ys : Array Value, (Op.equalIn 10000 ty (.agg xs) (.agg ys)) = Op.equal ty (.agg xs) (.agg ys) := fun _ _ => rfl
                  rw [e2, hrun']; rfl
                · rw [run_neq_struct]
                  have e2 : ∀ xs ys : Array Value, (Op.equalIn 10000 ty (.agg xs) (.agg ys)) = Op.equal ty (.agg xs) (.agg ys) := fun _ _ => rfl
                  rw [e2, hrun']; rfl
              | _ => simp [ETy.isAgg] at hag
          refine ⟨⟨.bool (if (op == .neq) = true then !r else r), ?_, .d (.b _)⟩, rfl, rfl⟩
          simp [execOp, ho, hg', hb]
    · simp at h
  · simp at h

theorem q_un {op : UnOp} {ty : TypeId} {x : Operand} (ho : o.op = .unOp op ty x) (hT : RT γ w T a) {x' : Opn} (hx : opn x = some x')
    (h : act (.un op x') T H = some (v, e, t)) : Quiet P γ w a o v ∧ e = .none ∧ t = .none := by
  have h1 := opn_sound hT hx
  simp only [act] at h
  split at h
  · rename_i p hp
    rw [hp] at h1
    split at h
    · rename_i r hr
      simp at h
      obtain ⟨rfl, rfl, rfl⟩ := h
      cases h1 with
      | d h1 =>
        generalize hval : a.eval x = vx at h1
        cases h1 <;> cases op <;> simp [unD] at hr
        · subst hr; exact ⟨⟨_, by simp [execOp, ho, hval, Op.unary], .d (.b _)⟩, rfl, rfl⟩
        · subst hr; exact ⟨⟨_, by simp [execOp, ho, hval, Op.unary, Op.intArith], .d (.i _ _)⟩, rfl, rfl⟩
    · simp at h
  · simp at h

theorem q_conv {src dst : TypeId} {x : Operand} (ho : o.op = .convert src dst x) (hT : RT γ w T a) {x' : Opn} (hx : opn x = some x') {k k' : IntKind} (hs : P.underlying src = some (.int k')) (hd : P.underlying dst = some (.int k))
    (h : act (.conv k x') T H = some (v, e, t)) : Quiet P γ w a o v ∧ e = .none ∧ t = .none := by
  have h1 := opn_sound hT hx
  simp only [act] at h
  split at h
  · rename_i kk n hp
    rw [hp] at h1
    simp at h
    obtain ⟨rfl, rfl, rfl⟩ := h
    cases h1 with
    | d h1 =>
      generalize hval : a.eval x = vx at h1
      cases h1
      exact ⟨⟨_, by simp [execOp, ho, hval, convert, run_underlying hs, run_underlying hd, Conv.intToInt], .d (.i _ _)⟩, rfl, rfl⟩
  · simp at h

theorem q_convs {src dst : TypeId} {x : Operand} (ho : o.op = .convert src dst x) (hT : RT γ w T a) {x' : Opn} (hx : opn x = some x') (hs : P.underlying src = some .string) (hd : P.underlying dst = some .string)
    (h : act (.convs x') T H = some (v, e, t)) : Quiet P γ w a o v ∧ e = .none ∧ t = .none := by
  have h1 := opn_sound hT hx
  simp only [act] at h
  split at h
  · rename_i n hp
    rw [hp] at h1
    simp at h
    obtain ⟨rfl, rfl, rfl⟩ := h
    cases h1 with
    | d h1 =>
      generalize hval : a.eval x = vx at h1
      cases h1
      exact ⟨⟨_, by simp [execOp, ho, hval, convert, run_underlying hs, run_underlying hd], .d (.s _)⟩, rfl, rfl⟩
  · simp at h

theorem q_mkfn {f : FuncId} {first cap : Array Operand} (ho : o.op = .makeFunc (.func f) first cap) (hT : RT γ w T a) {p q : List Opn} (hp : opns first.toList = some p) (hq : opns cap.toList = some q)
    (h : act (.mkfn f p q) T H = some (v, e, t)) : Quiet P γ w a o v ∧ e = .none ∧ t = .none := by
  simp [act] at h
  obtain ⟨rfl, rfl, rfl⟩ := h
  refine ⟨⟨_, by simp [execOp, ho, Instr.makeFunc]; rfl, ?_⟩, rfl, rfl⟩
  have h1 := RV.fn (f := f) (opns_sound hT hp) (opns_sound hT hq)
  have e1 : ∀ xs : Array Operand, (xs.toList.map a.eval).toArray = xs.map a.eval := fun xs => by
    apply Array.ext'; simp
  rw [e1, e1] at h1
  exact h1

theorem q_ext {x : Operand} {i : Nat} (ho : o.op = .extract x i) (hT : RT γ w T a) {x' : Opn} (hx : opn x = some x')
    (h : act (.ext x' i) T H = some (v, e, t)) : Quiet P γ w a o v ∧ e = .none ∧ t = .none := by
  have h1 := opn_sound hT hx
  simp only [act] at h
  split at h
  · rename_i vs hp
    rw [hp] at h1
    split at h
    · rename_i r hr
      simp at h
      obtain ⟨rfl, rfl, rfl⟩ := h
      generalize hval : a.eval x = vx at h1
      cases h1 with
      | tup h1 =>
        obtain ⟨u, hu, hru⟩ := h1.get hr
        refine ⟨⟨u, ?_, hru⟩, rfl, rfl⟩
        simp [execOp, ho, hval, Instr.extract, hu]
    · simp at h
  · simp at h

end
end Pv
