/- The pure evaluator: structs and arrays put together; constants of a type's zero. -/
import Derived.Test.YtlihpaegaikoeaaDoorPvOps4
import Derived.Laws.Tables
set_option linter.all false
namespace Pv
open Go

section
variable {P : Program} {γ : Gh} {w : World} {T : Tm} {a : Act} {H : Heap} {o : Oper} {v : AV} {e : Eff} {t : Tch}

theorem fold_upd : ∀ (vs : List Value) (off k : Nat) (cells : Array Value), off + k + vs.length ≤ cells.size →
    ((vs.zipIdx k).foldl (fun cs p => cs.setIfInBounds (off + p.2) p.1) cells).toList = upd cells.toList (off + k) vs
  | [], off, k, cells, _ => by simp [upd]
  | x :: vs, off, k, cells, h => by
    simp only [List.length_cons] at h
    rw [List.zipIdx_cons, List.foldl_cons]
    have ih := fold_upd vs off (k + 1) (cells.setIfInBounds (off + k) x) (by simp; omega)
    rw [ih]
    simp only [upd, Array.toList_setIfInBounds]
    have hlen : off + k + 1 + vs.length ≤ cells.toList.length := by simp; omega
    generalize cells.toList = l at hlen
    have e1 : (l.set (off + k) x).take (off + (k + 1)) = l.take (off + k) ++ [x] := by
      rw [show off + (k + 1) = (off + k) + 1 by omega, List.take_succ_eq_append_getElem (by simp; omega), List.take_set_of_le (by omega)]
      simp
    have e2 : (l.set (off + k) x).drop (off + (k + 1) + vs.length) = l.drop (off + k + (x :: vs).length) := by
      rw [List.drop_set_of_lt (by omega)]
      congr 1
      simp; omega
    rw [e1, e2]
    simp

theorem RVs.upd {cs ys : List AV} {vs us : List Value} (h : RVs γ w cs vs) (k : RVs γ w ys us) (off : Nat) : RVs γ w (upd cs off ys) (upd vs off us) := by
  unfold Pv.upd
  have hl := k.length
  rw [hl]
  exact (h.take _).append (k.append (h.drop _))
theorem RDs.upd {fx : Nat → Nat → Prop} {cs ys : List DV} {vs us : List Value} (h : RDs fx w cs vs) (k : RDs fx w ys us) (off : Nat) : RDs fx w (upd cs off ys) (upd vs off us) := by
  unfold Pv.upd
  have hl := k.length
  rw [hl]
  exact (h.take _).append (k.append (h.drop _))
theorem ones.upd {vs us : List Value} (h : ones vs) (k : ones us) (off : Nat) : ones (upd vs off us) := by
  unfold Pv.upd
  exact (h.take _).append (k.append (h.drop _))

theorem length_upd {α : Type} (cs ys : List α) (off : Nat) (h : off + ys.length ≤ cs.length) : (upd cs off ys).length = cs.length := by
  simp [upd]; omega

theorem fill_sound (hT : RT γ w T a) {place : Nat → Option (Nat × Nat)} : ∀ {parts : List (Nat × Operand)} {l : List (Nat × Nat × Opn)} {cs cs' : List AV} {cells : Array Value},
    bldF P place parts = some l → buildA cs (l.map fun p => (p.1, p.2.1, ev T p.2.2)) = some cs' → RVs γ w cs cells.toList → ones cells.toList →
    ∃ cells', Instr.fill place cells (parts.map fun p => (p.1, a.eval p.2)) = some cells' ∧ RVs γ w cs' cells'.toList ∧ ones cells'.toList
  | [], l, cs, cs', cells, hb, h, hr, h1 => by
    simp [bldF] at hb; subst hb
    simp [buildA] at h; subst h
    exact ⟨cells, rfl, hr, h1⟩
  | (i, x) :: parts, l, cs, cs', cells, hb, h, hr, h1 => by
    simp only [bldF] at hb
    split at hb
    · rename_i off n y l' hpl hx hl
      simp at hb
      subst hb
      simp only [List.map_cons, buildA] at h
      split at h
      · rename_i hc
        obtain ⟨hst, hlen, hfit⟩ := hc
        have hv := (opn_sound hT hx).one_cells hst
        have hvl := hv.1.length
        have hcl := hr.length
        simp only [Array.length_toList] at hcl hvl
        have hu := fold_upd (a.eval x).cells.toList off 0 cells (by simp; omega)
        obtain ⟨cells', h2, h3, h4⟩ := fill_sound hT (cells := ((a.eval x).cells.zipIdx.foldl (fun cs p => cs.setIfInBounds (off + p.2) p.1) cells)) hl h (by
          rw [← Array.foldl_toList, Array.toList_zipIdx, hu]
          exact hr.upd hv.1 _) (by
          rw [← Array.foldl_toList, Array.toList_zipIdx, hu]
          exact h1.upd hv.2 _)
        refine ⟨cells', ?_, h3, h4⟩
        simp only [List.map_cons, Instr.fill, hpl]
        rw [if_neg (by simp; omega)]
        exact h2
      · simp at h
    · simp at hb

theorem zeroOf_sound {t : TypeId} {z : AV} (h : zeroOf P t = some z) : ∃ i zv, P.info? t = some i ∧ i.zero = some zv ∧ cvA zv = some z := by
  unfold zeroOf at h
  split at h
  · rename_i i hi
    split at h
    · rename_i zv hz
      exact ⟨i, zv, hi, hz, h⟩
    · simp at h
  · simp at h

theorem cvA_stb {zv : Value} {z : AV} (h : cvA zv = some z) : stb z = true := by
  have hC : ∀ {u : Value} {y : AV}, cvC u = some y → stb y = true := by
    intro u y hy
    unfold cvC at hy
    split at hy <;> simp at hy <;> subst hy <;> rfl
  cases zv with
  | agg cs =>
    cases hl : cvL cs.toList with
    | none => simp [cvA, hl] at h
    | some l =>
      simp [cvA, hl] at h
      subst h
      unfold mkAgg
      split <;> rfl
  | tuple vs => simp [cvA] at h
  | _ => simp only [cvA] at h; exact hC h

theorem cvA_cells {zv : Value} {z : AV} (h : cvA zv = some z) : RVs γ w z.cells zv.cells.toList ∧ ones zv.cells.toList :=
  (cvA_sound h).one_cells (cvA_stb h)

theorem places_sound : ∀ {fs : List Field}, allInfo P fs = true → ∃ places : List (Nat × Nat), fs.mapM (fun f => (P.info? f.type).map fun i => (f.offset, i.size)) = some places ∧ ∀ j : Nat, places[j]? = (fs[j]?).bind (fun (f : Field) => (P.info? f.type).map fun i => (f.offset, i.size))
  | [], _ => ⟨[], by simp, by simp⟩
  | f :: fs, h => by
    simp only [allInfo, Bool.and_eq_true] at h
    obtain ⟨i, hi⟩ := Option.isSome_iff_exists.1 h.1
    obtain ⟨pl, hp, hj⟩ := places_sound h.2
    refine ⟨(f.offset, i.size) :: pl, by simp [List.mapM_cons, hi, hp], ?_⟩
    intro j
    cases j with
    | zero => simp [hi]
    | succ j => simpa using hj j

theorem bldF_congr {p q : Nat → Option (Nat × Nat)} (h : ∀ i, p i = q i) : ∀ parts, bldF P p parts = bldF P q parts
  | [] => rfl
  | (i, x) :: r => by simp only [bldF, h, bldF_congr h r]

theorem q_build {ty : TypeId} {parts : Array (Nat × Operand)} (ho : o.op = .build ty parts) (hT : RT γ w T a) {z : AV} (hz : zeroOf P ty = some z) {l : List (Nat × Nat × Opn)}
    (hu : (∃ fs, P.underlying ty = some (.struct fs) ∧ allInfo P fs.toList = true ∧ bldF P (fplace P fs) parts.toList = some l) ∨
      (∃ n el i, P.underlying ty = some (.array n el) ∧ P.info? el = some i ∧ bldF P (fun k => some (k * i.size, i.size)) parts.toList = some l))
    (h : act (.build z.cells l) T H = some (v, e, t)) : Quiet P γ w a o v ∧ e = .none ∧ t = .none := by
  obtain ⟨i, zv, hi, hzv, hcv⟩ := zeroOf_sound hz
  have hzc := cvA_cells (γ := γ) (w := w) hcv
  simp only [act] at h
  split at h
  · rename_i cs hcs
    simp at h
    obtain ⟨rfl, rfl, rfl⟩ := h
    refine ⟨?_, rfl, rfl⟩
    have hparts : (parts.map fun (i, x) => (i, a.eval x)).toList = parts.toList.map fun p => (p.1, a.eval p.2) := by simp
    rcases hu with ⟨fs, hus, hai, hb⟩ | ⟨n, el, ie, hua, hie, hb⟩
    · obtain ⟨places, hpl, hplj⟩ := places_sound hai
      have hb' : bldF P (places.toArray[·]?) parts.toList = some l := by
        rw [← hb]
        apply bldF_congr
        intro k
        simp only [List.getElem?_toArray, hplj, fplace]
        cases hk : fs[k]? with
        | none => simp [hk]
        | some fd =>
          have : fs.toList[k]? = some fd := by simpa using hk
          simp only [this, Option.bind_some]
          cases hin : P.info? fd.type <;> simp [hin]
      obtain ⟨cells', h2, h3, h4⟩ := fill_sound hT hb' hcs hzc.1 hzc.2
      refine ⟨.agg cells', ?_, ?_⟩
      · have hbt : P.built ty (parts.map fun (i, x) => (i, a.eval x)).toList = some cells' := by
          simp only [Program.built, hi, hus, hzv, hpl, hparts]
          exact h2
        simp only [execOp, ho, Sem.run_bind, run_build w ty _ cells' hbt, Result.andThen_ok, Sem.run_pure]
      · have := RV.mkAgg h3 h4
        simpa using this
    · obtain ⟨cells', h2, h3, h4⟩ := fill_sound hT hb hcs hzc.1 hzc.2
      refine ⟨.agg cells', ?_, ?_⟩
      · have hbt : P.built ty (parts.map fun (i, x) => (i, a.eval x)).toList = some cells' := by
          simp only [Program.built, hi, hua, hzv, hie, hparts]
          exact h2
        simp only [execOp, ho, Sem.run_bind, run_build w ty _ cells' hbt, Result.andThen_ok, Sem.run_pure]
      · have := RV.mkAgg h3 h4
        simpa using this
  · simp at h

end
end Pv
