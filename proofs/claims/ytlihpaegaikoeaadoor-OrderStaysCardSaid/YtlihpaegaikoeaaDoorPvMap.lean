/- The pure evaluator: maps from whole numbers to data; a variable's address held against nil. -/
import Derived.Test.YtlihpaegaikoeaaDoorPvArr4
set_option linter.all false

namespace Pv
open Go

section
variable {P : Program} {γ : Gh} {w : World} {T : Tm} {a : Act} {H : Heap} {o : Oper} {v : AV} {e : Eff} {t : Tch}

theorem q_pnil {op : BinOp} {ty ty' : TypeId} {x : Operand} (ho : o.op = .binOp op ty x (.const (.pointer none)) ty') (hop : op = .eql ∨ op = .neq) (hT : RT γ w T a) {x' : Opn} (hx : opn x = some x') {el : TypeId} (hs : P.underlying ty = some (.pointer el))
    (h : act (.pnil (op == .neq) x') T H = some (v, e, t)) : Quiet P γ w a o v ∧ e = .none ∧ t = .none := by
  have h1 := opn_sound hT hx
  simp only [act] at h
  split at h
  · rename_i oo off hp
    rw [hp] at h1
    simp only [Option.some.injEq, Prod.mk.injEq] at h
    obtain ⟨rfl, rfl, rfl⟩ := h
    generalize hval : a.eval x = vx at h1
    cases h1 with
    | @ptr _ _ b hpl =>
      refine ⟨⟨.bool (op == .neq), ?_, .d (.b _)⟩, rfl, rfl⟩
      have hg : (eqGuard op ty x (.const (.pointer none)) (.pointer (some ⟨b, off, none⟩)) (.pointer none)).run P w = .ok () w := eqGuard_plain (by simp) (by simp)
      have he : (Op.equal ty (.pointer (some ⟨b, off, none⟩)) (.pointer none)).run P w = .ok false w := by
        have e1 : ∀ d, (Op.equalIn (d + 1) ty (.pointer (some ⟨b, off, none⟩)) (.pointer none)).run P w = .ok false w := by
          intro d
          simp [Op.equalIn, run_underlying hs]
        exact e1 9999
      have hc2 : a.eval (.const (.pointer none)) = .pointer none := rfl
      rcases hop with rfl | rfl
      · simp only [execOp, ho, hval, hc2, Sem.run_bind, hg, Result.andThen_ok, binOp, he, Sem.run_pure]; rfl
      · simp only [execOp, ho, hval, hc2, Sem.run_bind, hg, Result.andThen_ok, binOp, he, Sem.run_pure]; rfl
  · simp at h

theorem n_mkmap {ty : TypeId} (ho : o.op = .makeMap ty none) (hH : RH γ w H) {kd : IntKind} {k : Nat} {c : Ob} (hk : freeAt H k) (h : newAt (.mkmap kd) T k = some (v, c)) : Does P γ w a o v (putAt H k c) := by
  simp [newAt] at h
  obtain ⟨rfl, rfl⟩ := h
  have hg : w.grownBy (w.alloc (.map #[] 0)) none := World.grownBy_alloc w _ none
  have hown : ∀ b, (Pl.map w.heap.size).own = some b → w.heap.size ≤ b := by intro b hb; simp [Pl.own] at hb; omega
  have hst := Stp.newAt hH hk hg hown
  refine ⟨.map (some w.heap.size), _, _, .inl ?_, .mp (γ.put_same _ _), RH.putAt hH hk hg hown ?_, hst⟩
  · simp [execOp, ho, Instr.makeMap]
  · refine ⟨⟨#[], 0, heap_alloc_new w _, .nil⟩, ?_⟩
    intro j hj
    have := hH.fixb _ j hj
    omega

theorem act_mkmap (kd : IntKind) : act (.mkmap kd) T H = (newAt (.mkmap kd) T H.length).map fun p => (p.1, .push p.2, .new H.length) := rfl

theorem findNow_none {fx : Nat → Nat → Prop} {k k0 : IntKind} : ∀ {kvs : List (Int × DV)} {es : List MapEntry}, RM fx w k kvs es → ∀ {n : Int}, getM kvs n = none → ∀ i : Nat, Instr.findNow (.int k0) (.int k n) es i = some none
  | _, _, .nil, n, h, i => rfl
  | _, _, .cons (n := m) hk hv ht, n, h, i => by
    simp only [getM] at h
    split at h
    · simp at h
    · rename_i hne
      have hb : (n == m) = false := by simpa using hne
      simp only [Instr.findNow, hk, Instr.sameNow, if_true, hb]
      exact findNow_none ht h (i + 1)

theorem findNow_some {fx : Nat → Nat → Prop} {k k0 : IntKind} : ∀ {kvs : List (Int × DV)} {es : List MapEntry}, RM fx w k kvs es → ∀ {n : Int} {x : DV}, getM kvs n = some x → ∀ i : Nat,
    ∃ (j : Nat) (e : MapEntry), Instr.findNow (.int k0) (.int k n) es i = some (some (i + j, e.val)) ∧ RD fx w x e.val ∧ es[j]? = some e ∧ e.key = .int k n ∧
      ∀ (y : DV) (uy : Value), RD fx w y uy → RM fx w k (setM kvs n y) (es.modify j fun e => { e with key := .int k n, val := uy })
  | _, _, .nil, n, x, h, i => by simp [getM] at h
  | (m, x0) :: kvs, e :: es, .cons hk hv ht, n, x, h, i => by
    simp only [getM] at h
    split at h
    · rename_i heq
      simp at h
      subst h
      subst heq
      refine ⟨0, e, ?_, hv, rfl, hk, ?_⟩
      · simp [Instr.findNow, hk, Instr.sameNow]
      · intro y uy hy
        simp only [setM, if_true]
        exact .cons rfl hy ht
    · rename_i hne
      have hb : (n == m) = false := by simpa using hne
      obtain ⟨j, e', h1, h2, h3, h4, h5⟩ := findNow_some (k0 := k0) ht h (i + 1)
      refine ⟨j + 1, e', ?_, h2, by simpa using h3, h4, ?_⟩
      · simp only [Instr.findNow, hk, Instr.sameNow, if_true, hb]
        rw [h1]
        congr 3
        omega
      · intro y uy hy
        simp only [setM, if_neg hne]
        exact .cons hk hv (h5 y uy hy)

theorem setM_none {kvs : List (Int × DV)} {n : Int} {y : DV} (h : getM kvs n = none) : setM kvs n y = kvs ++ [(n, y)] := by
  induction kvs with
  | nil => rfl
  | cons p r ih =>
    obtain ⟨m, x⟩ := p
    simp only [getM] at h
    split at h
    · simp at h
    · rename_i hne
      simp only [setM, if_neg hne, ih h, List.cons_append]

theorem RM.push {fx : Nat → Nat → Prop} {k : IntKind} {n : Int} {y : DV} {e : MapEntry} (hk : e.key = .int k n) (hy : RD fx w y e.val) : ∀ {kvs : List (Int × DV)} {es : List MapEntry}, RM fx w k kvs es → RM fx w k (kvs ++ [(n, y)]) (es ++ [e])
  | _, _, .nil => .cons hk hy .nil
  | _, _, .cons h1 h2 t => .cons h1 h2 (RM.push hk hy t)

theorem run_checkKey_int {P : Program} {w : World} {key : TypeId} {k0 k : IntKind} {n : Int} (hu : P.underlying key = some (.int k0)) (em : Bool) : (Instr.checkKey em 10000 key (.int k n)).run P w = .ok () w := by
  have : ∀ d, (Instr.checkKey em (d + 1) key (.int k n)).run P w = .ok () w := by
    intro d
    simp [Instr.checkKey, run_underlying hu]
  exact this 9999

theorem zeroD_sound {el : TypeId} {zd : DV} (hz : zeroD P el = some zd) (fx : Nat → Nat → Prop) (w : World) : ∃ zv, (zeroValue el).run P w = .ok zv w ∧ RD fx w zd zv := by
  obtain ⟨zav, hza, H2, hzd⟩ : ∃ zav, zeroOf P el = some zav ∧ ∃ H2, toD [] zav = some (zd, H2) := by
    unfold zeroD at hz
    split at hz
    · rename_i z hzz
      split at hz
      · rename_i x H2 hx
        simp at hz
        subst hz
        exact ⟨z, hzz, H2, hx⟩
      · simp at hz
    · simp at hz
  obtain ⟨i, zv, hi, hzv, hcv⟩ := zeroOf_sound hza
  exact ⟨zv, by simp [zeroValue, typeInfo, hi, hzv], toD_const hcv hzd fx w⟩

theorem q_mget {ty : TypeId} {x i : Operand} {ok : Bool} (ho : o.op = .lookup ty x i ok) (hT : RT γ w T a) (hH : RH γ w H) {x' i' : Opn} (hx : opn x = some x') (hi : opn i = some i') {key el : TypeId} {k : IntKind} {zd : DV}
    (ht : P.underlying ty = some (.map key el)) (hu : P.underlying key = some (.int k)) (hz : zeroD P el = some zd) (h : act (.mget k zd ok x' i') T H = some (v, e, t)) : Quiet P γ w a o v ∧ e = .none := by
  have h1 := opn_sound hT hx
  have h2 := opn_sound hT hi
  obtain ⟨zv, hzr, hzd⟩ := zeroD_sound hz γ.fix w
  simp only [act] at h
  split at h
  · rename_i oo k' n hp hq
    rw [hp] at h1
    rw [hq] at h2
    split at h
    · rename_i k'' kvs hob
      split at h
      · rename_i hkk
        obtain ⟨rfl, rfl⟩ := hkk
        simp only [Option.some.injEq, Prod.mk.injEq] at h
        obtain ⟨rfl, rfl, rfl⟩ := h
        generalize hvx : a.eval x = vx at h1
        generalize hvi : a.eval i = vi at h2
        cases h1 with
        | @mp _ b hpl =>
          cases h2 with
          | d h2 =>
            cases h2
            have hro := hH.ob _ _ hob
            rw [hpl] at hro
            obtain ⟨⟨es, clock, hb, hm⟩, hnf⟩ := hro
            have hget : (getObj b).run P w = .ok (.map es clock) w := by simp [getObj, Sem.run, hb]
            have hchk := fun em => run_checkKey_int (P := P) (w := w) (k := k'') (n := n) hu em
            have hlk : ∃ u, (Instr.lookup ty (.map (some b)) (.int k'' n) ok).run P w = .ok (if ok then .tuple #[u, .bool (getM kvs n).isSome] else u) w ∧ RD γ.fix w ((getM kvs n).getD zd) u := by
              cases hg : getM kvs n with
              | none =>
                have hf := findNow_none (k0 := k'') hm hg 0
                refine ⟨zv, ?_, hzd⟩
                simp only [Instr.lookup, Sem.run_bind, run_underlying ht, run_underlying hu, Result.andThen_ok, hget, Sem.run_pure, hchk, Instr.findKey, hf, hzr]
                cases ok <;> rfl
              | some y =>
                obtain ⟨j, e0, hf, hy, _, _, _⟩ := findNow_some (k0 := k'') hm hg 0
                refine ⟨e0.val, ?_, hy⟩
                simp only [Instr.lookup, Sem.run_bind, run_underlying ht, run_underlying hu, Result.andThen_ok, hget, Sem.run_pure, hchk, Instr.findKey, hf]
                cases ok <;> rfl
            obtain ⟨u, hrun, hru⟩ := hlk
            refine ⟨⟨if ok then .tuple #[u, .bool (getM kvs n).isSome] else u, ?_, ?_⟩, rfl⟩
            · simp [execOp, ho, hvx, hvi, hrun]
            · cases ok with
              | false => exact .d hru
              | true => exact .tup (.cons (.d hru) (.cons (.d (.b _)) .nil))
      · simp at h
    · simp at h
  · simp at h

theorem Stp.setMap {b : Nat} {ob : Nat} (obj : Obj) (hown : (γ.pl ob).own = some b) (hnf : ∀ j, ¬ γ.fix b j) : Stp γ w γ { w with heap := w.heap.setIfInBounds b obj } where
  os := rfl
  tape := rfl
  output := rfl
  size := by simp
  fix j i hf := by
    refine ⟨hf, cell_same ?_⟩
    have : j ≠ b := by rintro rfl; exact hnf i hf
    show (w.heap.setIfInBounds b obj)[j]? = _
    rw [Array.getElem?_setIfInBounds_ne (Ne.symm this)]
  nfix b j hf := .inl hf
  pl i := .refl _
  other j hb hn := by
    have : j ≠ b := fun he => hn ob (he ▸ hown)
    show (w.heap.setIfInBounds b obj)[j]? = _
    rw [Array.getElem?_setIfInBounds_ne (Ne.symm this)]
  own i b hb := .inl ⟨i, hb⟩

theorem does_mset {ty : TypeId} {x i y : Operand} (ho : o.op = .mapUpdate ty x i y) (hT : RT γ w T a) (hH : RH γ w H) {x' i' y' : Opn} (hx : opn x = some x') (hi : opn i = some i') (hy : opn y = some y') {key el : TypeId} {k : IntKind}
    (ht : P.underlying ty = some (.map key el)) (hu : P.underlying key = some (.int k)) (h : act (.mset k x' i' y') T H = some (v, e, t)) : Does P γ w a o v (e.on H) := by
  have h1 := opn_sound hT hx
  have h2 := opn_sound hT hi
  have h3 := opn_sound hT hy
  simp only [act] at h
  split at h
  · rename_i oo k' n yd hp hq hr
    rw [hp] at h1
    rw [hq] at h2
    rw [hr] at h3
    split at h
    · rename_i k'' kvs hob
      split at h
      · rename_i hkk
        obtain ⟨rfl, rfl⟩ := hkk
        simp only [Option.some.injEq, Prod.mk.injEq] at h
        obtain ⟨rfl, rfl, rfl⟩ := h
        generalize hvx : a.eval x = vx at h1
        generalize hvi : a.eval i = vi at h2
        generalize hvy : a.eval y = vy at h3
        cases h1 with
        | @mp _ b hpl =>
          cases h2 with
          | d h2 =>
            cases h2
            cases h3 with
            | d h3 =>
              have hro := hH.ob _ _ hob
              rw [hpl] at hro
              obtain ⟨⟨es, clock, hb, hm⟩, hnf⟩ := hro
              have hown : (γ.pl oo).own = some b := by rw [hpl]; rfl
              have hget : (getObj b).run P w = .ok (.map es clock) w := by simp [getObj, Sem.run, hb]
              have hchk := fun em => run_checkKey_int (P := P) (w := w) (k := k'') (n := n) hu em
              have hbl : b < w.heap.size := (Array.getElem?_eq_some_iff.1 hb).1
              have fin : ∀ (es' : Array MapEntry) (ck : Nat), (Instr.mapUpdate ty (.map (some b)) (.int k'' n) vy).run P w = .ok () { w with heap := w.heap.setIfInBounds b (.map es' ck) } → RM γ.fix w k'' (setM kvs n yd) es'.toList →
                  Does P γ w a o .junk ((Eff.set oo (.map k'' (setM kvs n yd))).on H) := by
                intro es' ck hrun hm'
                have hstp := Stp.setMap (γ := γ) (w := w) (Obj.map es' ck) hown hnf
                refine ⟨undef, _, γ, .inr ⟨by simp [execOp, ho, hvx, hvi, hvy, hrun], rfl⟩, .junk _, ?_, hstp⟩
                refine hH.set' hstp (List.getElem?_eq_some_iff.1 hob).1 (fun _ _ => rfl) ?_ (fun b hb => .inl hb) (fun c j hf => by have := hH.fixb c j hf; simpa using this) ?_
                · intro i hi c hc
                  refine ⟨?_, fun j hj => hj⟩
                  have : c ≠ b := fun he => hi (hH.inj i oo b (he ▸ hc) hown)
                  show (w.heap.setIfInBounds b _)[c]? = _
                  rw [Array.getElem?_setIfInBounds_ne (Ne.symm this)]
                · rw [hpl]
                  refine ⟨⟨es', ck, ?_, hm'.mono hstp.fix⟩, hnf⟩
                  show (w.heap.setIfInBounds b _)[b]? = _
                  rw [Array.getElem?_setIfInBounds_self_of_lt hbl]
              cases hg : getM kvs n with
              | none =>
                have hf := findNow_none (k0 := k'') hm hg 0
                refine fin (es.push { key := .int k'' n, val := vy, born := clock }) (clock + 1) ?_ ?_
                · simp only [Instr.mapUpdate, Sem.run_bind, run_underlying ht, run_underlying hu, Result.andThen_ok, hget, Sem.run_pure, hchk, Instr.findKey, hf]
                  simp [setObj, Sem.run, hb]
                · rw [setM_none hg, Array.toList_push]
                  exact RM.push rfl h3 hm
              | some y0 =>
                obtain ⟨j, e0, hf, hy0, hj, hk0, hset⟩ := findNow_some (k0 := k'') hm hg 0
                rw [Nat.zero_add] at hf
                have hj' : es[j]? = some e0 := by rw [← Array.getElem?_toList]; exact hj
                have hstay : (Instr.keyThatStays (.int k'' n) (.int k'' n)).run P w = .ok (.int k'' n) w := by
                  have hsb : ∀ d, Instr.sameBits (d + 1) (.int k'' n) (.int k'' n) = true := by intro d; simp [Instr.sameBits]
                  unfold Instr.keyThatStays
                  rw [if_pos (hsb 9999)]
                  rfl
                refine fin (es.modify j fun e => { e with key := .int k'' n, val := vy }) clock ?_ ?_
                · simp only [Instr.mapUpdate, Sem.run_bind, run_underlying ht, run_underlying hu, Result.andThen_ok, hget, Sem.run_pure, hchk, Instr.findKey, hf, hj', Option.map_some, Option.getD_some, hk0, hstay]
                  simp [setObj, Sem.run, hb]
                · rw [Array.toList_modify]
                  exact hset yd vy h3
      · simp at h
    · simp at h
  · simp at h

end
end Pv
