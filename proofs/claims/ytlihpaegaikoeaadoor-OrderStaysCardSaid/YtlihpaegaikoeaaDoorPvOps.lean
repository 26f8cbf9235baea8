/- The pure evaluator: operations that touch no object: what the model does at them is what the evaluation tells. -/
import Derived.Test.YtlihpaegaikoeaaDoorPvRel
import Derived.Laws.Rows
import Derived.Laws.Strings
import Derived.Laws.StructEq
import Derived.ChangeKeysEq
set_option linter.all false
namespace Pv
open Go

/-- The slots of a walk. -/
def RT (γ : Gh) (w : World) (T : Tm) (a : Act) : Prop := ∀ i, RV γ w (lk T i) (a.tmps.getD i undef)

/-- An operation told: a value, or nothing. -/
def Told (P : Program) (s : Sem Next) (w : World) (v : Value) (w' : World) : Prop :=
  s.run P w = .ok (.value v) w' ∨ (s.run P w = .ok .skip w' ∧ v = undef)

section
variable {P : Program} {γ : Gh} {w : World}

theorem cvC_sound {v : Value} {x : AV} (h : cvC v = some x) : RV γ w x v ∧ v.oneCell' = true := by
  unfold cvC at h
  split at h <;> simp at h <;> subst h <;> refine ⟨?_, rfl⟩
  · exact .d (.b _)
  · exact .d (.i _ _)
  · exact .d (.s _)
  · exact .nilS
  · exact .one _ rfl
  · exact .one _ rfl
  · exact .one _ rfl

theorem cvL_sound : ∀ {vs : List Value} {l : List AV}, cvL vs = some l → RVs γ w l vs ∧ ones vs
  | [], l, h => by simp [cvL] at h; subst h; exact ⟨.nil, by simp [ones]⟩
  | v :: r, l, h => by
    cases hx : cvC v with
    | none => simp [cvL, hx] at h
    | some x =>
      cases hl : cvL r with
      | none => simp [cvL, hx, hl] at h
      | some l' =>
        simp [cvL, hx, hl] at h
        subst h
        have h1 := cvC_sound (γ := γ) (w := w) hx
        have h2 := cvL_sound hl
        refine ⟨.cons h1.1 h2.1, fun u hu => ?_⟩
        rcases List.mem_cons.1 hu with rfl | hu
        · exact h1.2
        · exact h2.2 u hu

theorem cvA_sound {v : Value} {x : AV} (h : cvA v = some x) : RV γ w x v := by
  cases v with
  | agg cs =>
    cases hl : cvL cs.toList with
    | none => simp [cvA, hl] at h
    | some l =>
      simp [cvA, hl] at h
      subst h
      have h1 := cvL_sound (γ := γ) (w := w) hl
      have := RV.mkAgg h1.1 h1.2
      simpa using this
  | tuple vs => simp [cvA] at h
  | _ => simp only [cvA] at h; exact (cvC_sound h).1

theorem opn_sound {T : Tm} {a : Act} (hT : RT γ w T a) {x : Operand} {y : Opn} (h : opn x = some y) : RV γ w (ev T y) (a.eval x) := by
  cases x with
  | tmp t => simp [opn] at h; subst h; exact hT t
  | const v =>
    cases hx : cvA v with
    | none => simp [opn, hx] at h
    | some x => simp [opn, hx] at h; subst h; exact cvA_sound hx
  | func f => simp [opn] at h; subst h; exact .fn .nil .nil
  | global g => simp [opn] at h

theorem opns_sound {T : Tm} {a : Act} (hT : RT γ w T a) : ∀ {xs : List Operand} {ys : List Opn}, opns xs = some ys → RVs γ w (ys.map (ev T)) (xs.map a.eval)
  | [], ys, h => by simp [opns] at h; subst h; exact .nil
  | x :: r, ys, h => by
    cases hy : opn x with
    | none => simp [opns, hy] at h
    | some y =>
      cases hl : opns r with
      | none => simp [opns, hy, hl] at h
      | some l => simp [opns, hy, hl] at h; subst h; exact .cons (opn_sound hT hy) (opns_sound hT hl)

/-! types -/

theorem tyS_sound {t : TypeId} {n : Nat} {c : Bool} (h : tyS P t = some (n, c)) :
    (∃ i, P.info? t = some i ∧ i.size = n) ∧ ∀ w : World, (isAgg t).run P w = .ok c w := by
  unfold tyS at h
  split at h <;> simp at h <;> obtain ⟨h1, h2⟩ := h
  · rename_i i fs hi hu
    exact ⟨⟨i, hi, h1⟩, fun w => by simp [isAgg, run_underlying hu, h2]⟩
  · rename_i i a b hi hu
    exact ⟨⟨i, hi, h1⟩, fun w => by simp [isAgg, run_underlying hu, h2]⟩
  · rename_i i d hns hna hi hu
    refine ⟨⟨i, hi, h1⟩, fun w => ?_⟩
    subst h2
    cases d <;> simp [isAgg, run_underlying hu] <;> simp_all

theorem tyL_sound {t : TypeId} {n : Nat} {c : Bool} (h : tyL P t = some (n, c)) :
    (∃ i, P.info? t = some i ∧ i.size = n) ∧ (∀ w : World, (isAgg t).run P w = .ok c w) ∧ (c = false → n = 1) := by
  unfold tyL at h
  split at h <;> simp at h <;> obtain ⟨rfl, rfl⟩ := h
  · rename_i hs
    have := tyS_sound hs
    exact ⟨this.1, this.2, by simp⟩
  · rename_i hs
    have := tyS_sound hs
    exact ⟨this.1, this.2, fun _ => rfl⟩

theorem run_sizeOf' {t : TypeId} {i : TypeInfo} (h : P.info? t = some i) (w : World) : (Go.sizeOf t).run P w = .ok i.size w := by
  simp [Go.sizeOf, typeInfo, h]

theorem extract_toArray (vs : List Value) (off n : Nat) : vs.toArray.extract off (off + n) = ((vs.drop off).take n).toArray := by
  apply Array.ext'
  simp [Array.toList_extract, List.extract]

theorem part_sound {t : TypeId} {n : Nat} {c : Bool} (ht : tyL P t = some (n, c)) {cs : List DV} {vs : List Value} {fx : Nat → Nat → Prop} {off : Nat} {y : DV} (h : RDs fx w cs vs) (h1 : ones vs)
    (hs : subD (.agg cs) c off n = some y) (w' : World) : ∃ u, (part t vs.toArray off).run P w' = .ok u w' ∧ RD fx w y u := by
  obtain ⟨⟨i, hi, hn⟩, ha, hc⟩ := tyL_sound ht
  cases c with
  | true =>
    simp only [subD] at hs
    split at hs <;> simp at hs
    subst hs
    refine ⟨.agg ((vs.drop off).take n).toArray, ?_, .agg ((h.drop off).take n) ((h1.drop off).take n)⟩
    simp [part, ha, run_sizeOf' hi, hn, extract_toArray]
  | false =>
    simp only [subD] at hs
    obtain ⟨u, hu, hr⟩ := h.get hs
    refine ⟨u, ?_, hr⟩
    simp [part, ha, hu]

theorem partA_sound {t : TypeId} {n : Nat} {c : Bool} (ht : tyL P t = some (n, c)) {cs : List AV} {vs : List Value} {off : Nat} {y : AV} (h : RVs γ w cs vs) (h1 : ones vs)
    (hs : subA (.agg cs) c off n = some y) (w' : World) : ∃ u, (part t vs.toArray off).run P w' = .ok u w' ∧ RV γ w y u := by
  obtain ⟨⟨i, hi, hn⟩, ha, hc⟩ := tyL_sound ht
  cases c with
  | true =>
    simp only [subA] at hs
    split at hs <;> simp at hs
    subst hs
    refine ⟨.agg ((vs.drop off).take n).toArray, ?_, .mkAgg ((h.drop off).take n) ((h1.drop off).take n)⟩
    simp [part, ha, run_sizeOf' hi, hn, extract_toArray]
  | false =>
    simp only [subA] at hs
    obtain ⟨u, hu, hr⟩ := h.get hs
    refine ⟨u, ?_, hr⟩
    simp [part, ha, hu]


end
theorem toList_data (x : ByteArray) : x.toList = x.data.toList := by
  obtain ⟨⟨l⟩⟩ := x
  exact ByteArray.toList_mk l
theorem toList_inj {x y : ByteArray} : (x.toList == y.toList) = decide (x = y) := by
  rw [toList_data, toList_data, Bool.eq_iff_iff]
  simp only [beq_iff_eq, decide_eq_true_eq]
  constructor
  · intro h
    exact ByteArray.ext (Array.ext' h)
  · rintro rfl; rfl
section
variable {P : Program} {γ : Gh} {w : World} {fx : Nat → Nat → Prop}
theorem binI_sound {op : BinOp} {k : IntKind} {x y : Int} {r : DV} (h : binI op k x y = some r) (t : TypeId) (w' : World) (hn : op ≠ .shl) (hn' : op ≠ .shr) :
    ∃ v', (binOp op t (.int k x) (.int k y)).run P w' = .ok v' w' ∧ RD fx w r v' := by
  cases op <;> simp [binI] at h <;> (try (exact absurd rfl hn)) <;> (try (exact absurd rfl hn'))
  case quo => obtain ⟨h0, rfl⟩ := h; exact ⟨_, by simp [binOp, Op.intDiv, h0], .i _ _⟩
  case rem => obtain ⟨h0, rfl⟩ := h; exact ⟨_, by simp [binOp, Op.intDiv, h0], .i _ _⟩
  all_goals subst h
  case add => exact ⟨_, by simp [binOp, Op.intArith], .i _ _⟩
  case sub => exact ⟨_, by simp [binOp, Op.intArith], .i _ _⟩
  case mul => exact ⟨_, by simp [binOp, Op.intArith], .i _ _⟩
  case and => exact ⟨_, by simp [binOp]; rfl, .i _ _⟩
  case or => exact ⟨_, by simp [binOp]; rfl, .i _ _⟩
  case xor => exact ⟨_, by simp [binOp]; rfl, .i _ _⟩
  case andNot => exact ⟨_, by simp [binOp]; rfl, .i _ _⟩
  all_goals exact ⟨_, by simp [binOp, Op.intCmp], .b _⟩
theorem binS_sound {op : BinOp} {x y : ByteArray} {r : DV} (h : binS op x y = some r) (t : TypeId) (w' : World) :
    ∃ v', (binOp op t (.string x) (.string y)).run P w' = .ok v' w' ∧ RD fx w r v' := by
  cases op <;> simp [binS] at h
  case add =>
    obtain ⟨h0, rfl⟩ := h
    have : ¬ (IntKind.i64.max < ((x.size : Int) + (y.size : Int))) := by
      have : IntKind.i64.max = 9223372036854775807 := by decide
      rw [this]; simp only [LIM] at h0; omega
    refine ⟨_, ?_, .s _⟩
    simp only [binOp, Op.stringOp, Int.natCast_add]
    rw [if_neg this]
    rfl
  case eql => subst h; exact ⟨_, by simp only [binOp, Op.stringOp, toList_inj]; rfl, .b _⟩
  case neq => subst h; exact ⟨_, by simp only [binOp, Op.stringOp, toList_inj]; rfl, .b _⟩
theorem binD_sound {op : BinOp} {x y r : DV} {v u : Value} (hx : RD fx w x v) (hy : RD fx w y u) (h : binD op x y = some r) (t : TypeId) (w' : World) :
    ∃ v', (binOp op t v u).run P w' = .ok v' w' ∧ RD fx w r v' := by
  cases hx with
  | i k n =>
    cases hy with
    | i k' m =>
      cases op <;> simp only [binD] at h
      case shl =>
        split at h
        · simp at h
        · rename_i h0
          simp at h; subst h
          exact ⟨_, by simp [binOp, Op.shift, h0], .i _ _⟩
      case shr =>
        split at h
        · simp at h
        · rename_i h0
          simp at h; subst h
          exact ⟨_, by simp [binOp, Op.shift, h0], .i _ _⟩
      all_goals
        split at h
        · rename_i hk
          subst hk
          exact binI_sound h t w' (by simp) (by simp)
        · simp at h
    | _ => simp [binD] at h
  | s n =>
    cases hy with
    | s m => simp only [binD] at h; exact binS_sound h t w'
    | _ => simp [binD] at h
  | _ => simp [binD] at h

def ETy.isAgg : ETy → Bool
  | .agg _ => true
  | _ => false

theorem ety_isAgg {k : Nat} {t : TypeId} {e : ETy} (h : ety P k t = some e) (w : World) : (isAgg t).run P w = .ok e.isAgg w := by
  cases k with
  | zero => simp [ety] at h
  | succ k =>
    simp only [ety] at h
    split at h
    · rename_i hu; simp at h; subst h; simp [isAgg, run_underlying hu, ETy.isAgg]
    · rename_i hu; simp at h; subst h; simp [isAgg, run_underlying hu, ETy.isAgg]
    · rename_i hu; simp at h; subst h; simp [isAgg, run_underlying hu, ETy.isAgg]
    · rename_i fs hu
      split at h
      · simp at h
      · split at h
        · simp at h; subst h; simp [isAgg, run_underlying hu, ETy.isAgg]
        · simp at h
    · rename_i n el hu
      split at h
      · split at h
        · simp at h; subst h; simp [isAgg, run_underlying hu, ETy.isAgg]
        · simp at h
      · simp at h
    · simp at h

theorem part_ety {k : Nat} {t : TypeId} {e : ETy} {i : TypeInfo} (ht : ety P k t = some e) (hi : P.info? t = some i) {cs : List DV} {vs : List Value} {off : Nat} {y : DV} (h : RDs fx w cs vs) (h1 : ones vs)
    (hs : subD (.agg cs) e.isAgg off i.size = some y) (w' : World) : ∃ u, (part t vs.toArray off).run P w' = .ok u w' ∧ RD fx w y u := by
  have ha := ety_isAgg ht
  cases hc : e.isAgg with
  | true =>
    rw [hc] at hs ha
    simp only [subD] at hs
    split at hs <;> simp at hs
    subst hs
    refine ⟨.agg ((vs.drop off).take i.size).toArray, ?_, .agg ((h.drop off).take _) ((h1.drop off).take _)⟩
    simp [part, ha, run_sizeOf' hi, extract_toArray]
  | false =>
    rw [hc] at hs ha
    simp only [subD] at hs
    obtain ⟨u, hu, hr⟩ := h.get hs
    refine ⟨u, ?_, hr⟩
    simp [part, ha, hu]

def EqOk (P : Program) (fx : Nat → Nat → Prop) (w : World) (d : Nat) (t : TypeId) (e : ETy) : Prop :=
  ∀ (x y : DV) (v u : Value) (r : Bool) (w' : World), RD fx w x v → RD fx w y u → eqV e x y = some r → (Op.equalIn d t v u).run P w' = .ok r w'

theorem eqVs_cons (off n : Nat) (t : ETy) (ps : List (Nat × Nat × ETy)) (xs ys : List DV) :
    eqVs ((off, n, t) :: ps) xs ys = match subD (.agg xs) t.isAgg off n, subD (.agg ys) t.isAgg off n with
    | some x, some y => match eqV t x y with
      | some true => eqVs ps xs ys
      | some false => some false
      | none => none
    | _, _ => none := by
  simp only [eqVs]
  cases t <;> rfl

theorem eqF_sound {k d : Nat} (ih : ∀ t e, ety P k t = some e → EqOk P fx w d t e) {cs ds : List DV} {vs us : List Value} (hx : RDs fx w cs vs) (hx1 : ones vs) (hy : RDs fx w ds us) (hy1 : ones us) (w' : World) :
    ∀ (fs : List Field) (ps : List (Nat × Nat × ETy)) (r : Bool), etyF (ety P k) P fs = some ps → eqVs ps cs ds = some r → (Op.eqFields d vs.toArray us.toArray fs).run P w' = .ok r w'
  | [], ps, r, h, hr => by simp [etyF] at h; subst h; simp [eqVs] at hr; subst hr; simp [Op.eqFields]
  | fd :: fs, ps, r, h, hr => by
    simp only [etyF] at h
    split at h
    · simp at h
    · rename_i hn
      split at h
      · rename_i i e l hi he hl
        simp at h
        subst h
        rw [eqVs_cons] at hr
        have hn' : fd.name ≠ "_" := by simpa using hn
        cases hsx : subD (.agg cs) e.isAgg fd.offset i.size with
        | none => simp [hsx] at hr
        | some x =>
          cases hsy : subD (.agg ds) e.isAgg fd.offset i.size with
          | none => simp [hsx, hsy] at hr
          | some y =>
            obtain ⟨u1, p1, r1⟩ := part_ety he hi hx hx1 hsx w'
            obtain ⟨u2, p2, r2⟩ := part_ety he hi hy hy1 hsy w'
            cases hev : eqV e x y with
            | none => simp [hsx, hsy, hev] at hr
            | some b =>
              have he2 := ih _ _ he x y u1 u2 b w' r1 r2 hev
              cases b with
              | true =>
                simp [hsx, hsy, hev] at hr
                have := eqF_sound ih hx hx1 hy hy1 w' fs l r hl hr
                simp [Op.eqFields, hn', p1, p2, he2, this]
              | false =>
                simp [hsx, hsy, hev] at hr
                subst hr
                simp [Op.eqFields, hn', p1, p2, he2]
      · simp at h

theorem eqL_sound {k d : Nat} {el : TypeId} {i : TypeInfo} (hi : P.info? el = some i) (ih : ∀ t e, ety P k t = some e → EqOk P fx w d t e) {cs ds : List DV} {vs us : List Value} (hx : RDs fx w cs vs) (hx1 : ones vs) (hy : RDs fx w ds us) (hy1 : ones us) (w' : World) :
    ∀ (n s : Nat) (ps : List (Nat × Nat × ETy)) (r : Bool), etyL (ety P k) P i.size el n s = some ps → eqVs ps cs ds = some r → (Op.eqItems d el i.size vs.toArray us.toArray (List.range' s n)).run P w' = .ok r w'
  | 0, s, ps, r, h, hr => by simp [etyL] at h; subst h; simp [eqVs] at hr; subst hr; simp [Op.eqItems]
  | n + 1, s, ps, r, h, hr => by
    simp only [etyL] at h
    split at h
    · rename_i e l he hl
      simp at h
      subst h
      rw [eqVs_cons] at hr
      cases hsx : subD (.agg cs) e.isAgg (s * i.size) i.size with
      | none => simp [hsx] at hr
      | some x =>
        cases hsy : subD (.agg ds) e.isAgg (s * i.size) i.size with
        | none => simp [hsx, hsy] at hr
        | some y =>
          obtain ⟨u1, p1, r1⟩ := part_ety he hi hx hx1 hsx w'
          obtain ⟨u2, p2, r2⟩ := part_ety he hi hy hy1 hsy w'
          cases hev : eqV e x y with
          | none => simp [hsx, hsy, hev] at hr
          | some b =>
            have he2 := ih _ _ he x y u1 u2 b w' r1 r2 hev
            cases b with
            | true =>
              simp [hsx, hsy, hev] at hr
              have := eqL_sound hi ih hx hx1 hy hy1 w' n (s + 1) l r hl hr
              simp [List.range'_succ, Op.eqItems, p1, p2, he2, this]
            | false =>
              simp [hsx, hsy, hev] at hr
              subst hr
              simp [List.range'_succ, Op.eqItems, p1, p2, he2]
    · simp at h

theorem eqV_sound : ∀ (k : Nat) (d : Nat) (t : TypeId) (e : ETy), ety P k t = some e → k ≤ d → EqOk P fx w d t e
  | 0, d, t, e, h, _ => by simp [ety] at h
  | k + 1, d, t, e, h, hd => by
    obtain ⟨d, rfl⟩ : ∃ m, d = m + 1 := ⟨d - 1, by omega⟩
    intro x y v u r w' hx hy hr
    simp only [ety] at h
    split at h
    · rename_i hu; simp at h; subst h
      cases hx <;> cases hy <;> simp [eqV] at hr
      subst hr; exact run_equalIn_bool w' d t _ _ hu
    · rename_i hu; simp at h; subst h
      cases hx <;> cases hy <;> simp [eqV] at hr
      obtain ⟨rfl, rfl⟩ := hr
      exact run_equalIn_int w' d t _ _ _ _ hu
    · rename_i hu; simp at h; subst h
      cases hx <;> cases hy <;> simp [eqV] at hr
      subst hr
      rw [← toList_inj]
      exact run_equalIn_string w' d t _ _ hu
    · rename_i fs hu
      split at h
      · simp at h
      · rename_i hst
        split at h
        · rename_i l hl
          simp at h; subst h
          cases hx <;> cases hy <;> simp [eqV] at hr
          rename_i cs vs hx hx1 ds us hy hy1
          have hf : P.fieldsOf t = fs := by simp [Program.fieldsOf, hu]
          rw [run_equalIn_struct w' d t _ _ (by rw [hf]; exact hu) (by simpa using hst), hf]
          exact eqF_sound (fun t e h => eqV_sound k d t e h (by omega)) hx hx1 hy hy1 w' _ _ _ hl hr
        · simp at h
    · rename_i n el hu
      split at h
      · rename_i i hi
        split at h
        · rename_i l hl
          simp at h; subst h
          cases hx <;> cases hy <;> simp [eqV] at hr
          rename_i cs vs hx hx1 ds us hy hy1
          rw [run_equalIn_array w' d _ _ hu hi, List.range_eq_range']
          have hc : P.cellsOf el = i.size := by simp [Program.cellsOf, hi]
          rw [hc]
          exact eqL_sound hi (fun t e h => eqV_sound k d t e h (by omega)) hx hx1 hy hy1 w' _ _ _ _ hl hr
        · simp at h
      · simp at h
    · simp at h
end

end Pv
