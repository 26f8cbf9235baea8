/- The pure evaluator: what it answers, Go's code does: for any program. -/
import Derived.Test.YtlihpaegaikoeaaDoorPvRegion
import Derived.Scope
set_option linter.all false
namespace Pv
open Go

/-! objects that nobody refers to any more are forgotten -/

section
variable {P : Program} {γ : Gh} {w : World} {n : Nat}

/-- Trimmed or not: the values that are kept still read the same. -/
theorem trim_sound {γ0 : Gh} {w0 : World} (hs : Stp γ0 w0 γ w) (h0 : ∀ o, n ≤ o → γ0.pl o = .no) {H : Heap} (hn : n ≤ H.length) (hH : RH γ w H) (vs : List AV) :
    ∃ γ', RH γ' w (trim n vs H) ∧ Stp γ0 w0 γ' w ∧ n ≤ (trim n vs H).length ∧ ∀ x ∈ vs, ∀ v, RV γ w x v → RV γ' w x v := by
  unfold trim
  split
  · rename_i hc
    simp only [Bool.and_eq_true] at hc
    refine ⟨γ.cut n, hH.cut hn hc.2, hs.cut h0, by simp; omega, ?_⟩
    intro x hx v hv
    have : ∀ {l : List AV}, lts n l = true → x ∈ l → lt n x = true := by
      intro l
      induction l with
      | nil => intro _ h; simp at h
      | cons y r ih =>
        intro hl hm
        simp only [lts, Bool.and_eq_true] at hl
        rcases List.mem_cons.1 hm with rfl | hm
        · exact hl.1
        · exact ih hl.2 hm
    exact RV.cut x (this hc.1 hx) hv
  · exact ⟨γ, hH, hs, hn, fun _ _ _ h => h⟩

/-! a result handed back -/

theorem fzn_sound {H : Heap} (hH : RH γ w H) {x : AV} {v : Value} (hv : RV γ w x v) : ∃ γ', RV γ' w (fzn H x).1 v ∧ RH γ' w (fzn H x).2 ∧ Stp γ w γ' w ∧ (fzn H x).2.length = H.length := by
  cases x with
  | agg cs =>
    simp only [fzn]
    split
    · rename_i ds H2 hds
      cases hv with
      | agg hc h1 =>
        obtain ⟨γ', h2, h3, h4, h5⟩ := toDs_sound cs hH hc hds
        exact ⟨γ', .d (.agg h2 h1), h3, h4, toDs_len _ hds⟩
    · exact ⟨γ, hv, hH, .refl _ _, rfl⟩
  | _ => exact ⟨γ, hv, hH, .refl _ _, rfl⟩

theorem fzns_sound : ∀ {xs : List AV} {γ : Gh} {H : Heap} {vs : List Value}, RH γ w H → RVs γ w xs vs → ∃ γ', RVs γ' w (fzns H xs).1 vs ∧ RH γ' w (fzns H xs).2 ∧ Stp γ w γ' w ∧ (fzns H xs).2.length = H.length
  | [], γ, H, _, hH, .nil => ⟨γ, .nil, hH, .refl _ _, rfl⟩
  | x :: r, γ, H, _, hH, .cons hx ht => by
    obtain ⟨γ1, h1, h2, h3, h4⟩ := fzn_sound hH hx
    obtain ⟨γ2, k1, k2, k3, k4⟩ := fzns_sound h2 (ht.mono h3)
    simp only [fzns]
    exact ⟨γ2, .cons (h1.mono k3) k1, k2, h3.trans k3, k4.trans h4⟩

theorem fznR_sound {H : Heap} (hH : RH γ w H) {x : AV} {v : Value} (hv : RV γ w x v) : ∃ γ', RV γ' w (fznR H x).1 v ∧ RH γ' w (fznR H x).2 ∧ Stp γ w γ' w ∧ (fznR H x).2.length = H.length := by
  cases x with
  | tup vs =>
    cases hv with
    | tup hv =>
      obtain ⟨γ', h1, h2, h3, h4⟩ := fzns_sound hH hv
      exact ⟨γ', .tup h1, h2, h3, h4⟩
  | _ => exact fzn_sound hH hv

theorem frzV_sound {H : Heap} (hH : RH γ w H) {x : AV} {v : Value} (hv : RV γ w x v) : ∃ γ', RV γ' w (frzV H x).1 v ∧ RH γ' w (frzV H x).2 ∧ Stp γ w γ' w ∧ (frzV H x).2.length = H.length := by
  unfold frzV
  split
  · rename_i d H2 hd
    obtain ⟨γ', h2, h3, h4, h5⟩ := toD_sound x hH hv hd
    exact ⟨γ', .d h2, h3, h4, toD_len _ hd⟩
  · exact ⟨γ, hv, hH, .refl _ _, rfl⟩

theorem frzVs_sound : ∀ {xs : List AV} {γ : Gh} {H : Heap} {vs : List Value}, RH γ w H → RVs γ w xs vs → ∃ γ', RVs γ' w (frzVs H xs).1 vs ∧ RH γ' w (frzVs H xs).2 ∧ Stp γ w γ' w ∧ (frzVs H xs).2.length = H.length
  | [], γ, H, _, hH, .nil => ⟨γ, .nil, hH, .refl _ _, rfl⟩
  | x :: r, γ, H, _, hH, .cons hx ht => by
    obtain ⟨γ1, h1, h2, h3, h4⟩ := frzV_sound hH hx
    obtain ⟨γ2, k1, k2, k3, k4⟩ := frzVs_sound h2 (ht.mono h3)
    simp only [frzVs]
    exact ⟨γ2, .cons (h1.mono k3) k1, k2, h3.trans k3, k4.trans h4⟩

theorem frzL_sound : ∀ {fz : List Bool} {xs : List AV} {γ : Gh} {H : Heap} {vs : List Value}, RH γ w H → RVs γ w xs vs → ∃ γ', RVs γ' w (frzL fz H xs).1 vs ∧ RH γ' w (frzL fz H xs).2 ∧ Stp γ w γ' w ∧ (frzL fz H xs).2.length = H.length
  | [], _, γ, H, _, hH, h => ⟨γ, h, hH, .refl _ _, rfl⟩
  | _ :: _, [], γ, H, _, hH, h => ⟨γ, h, hH, .refl _ _, rfl⟩
  | b :: bs, x :: r, γ, H, _, hH, .cons hx ht => by
    cases b with
    | true =>
      obtain ⟨γ1, h1, h2, h3, h4⟩ := frzV_sound hH hx
      obtain ⟨γ2, k1, k2, k3, k4⟩ := frzL_sound (fz := bs) h2 (ht.mono h3)
      simp only [frzL, if_true]
      exact ⟨γ2, .cons (h1.mono k3) k1, k2, h3.trans k3, k4.trans h4⟩
    | false =>
      obtain ⟨γ2, k1, k2, k3, k4⟩ := frzL_sound (fz := bs) hH ht
      simp only [frzL, Bool.false_eq_true, if_false]
      exact ⟨γ2, .cons (hx.mono k3) k1, k2, k3, k4⟩

theorem frzR_sound {H : Heap} (hH : RH γ w H) {x : AV} {v : Value} (hv : RV γ w x v) : ∃ γ', RV γ' w (frzR H x).1 v ∧ RH γ' w (frzR H x).2 ∧ Stp γ w γ' w ∧ (frzR H x).2.length = H.length := by
  cases x with
  | tup vs =>
    cases hv with
    | tup hv =>
      obtain ⟨γ', h1, h2, h3, h4⟩ := frzVs_sound hH hv
      exact ⟨γ', .tup h1, h2, h3, h4⟩
  | _ => exact frzV_sound hH hv

theorem preF_sound (res : List ARes) {H : Heap} (hH : RH γ w H) {x : AV} {v : Value} (hv : RV γ w x v) : ∃ γ', RV γ' w (preF res x H).1 v ∧ RH γ' w (preF res x H).2 ∧ Stp γ w γ' w ∧ (preF res x H).2.length = H.length := by
  unfold preF
  split
  · exact frzR_sound hH hv
  · exact ⟨γ, hv, hH, .refl _ _, rfl⟩

theorem finish_sound {γ0 : Gh} {w0 : World} (hs : Stp γ0 w0 γ w) (h0 : ∀ o, n ≤ o → γ0.pl o = .no) {H : Heap} (hn : n ≤ H.length) (hH : RH γ w H) {x : AV} {v : Value} (hv : RV γ w x v) :
    ∃ γ', RV γ' w (finish n x H).1 v ∧ RH γ' w (finish n x H).2 ∧ Stp γ0 w0 γ' w := by
  obtain ⟨γ1, h1, h2, h3, h4⟩ := fznR_sound hH hv
  obtain ⟨γ2, k1, k2, k3, k4⟩ := trim_sound (hs.trans h3) h0 (by rw [h4]; exact hn) h2 [(fznR H x).1]
  have := k4 (fznR H x).1 (by simp) v h1
  exact ⟨γ2, this, k1, k2⟩

theorem finishR_sound (res : List ARes) {γ0 : Gh} {w0 : World} (hs : Stp γ0 w0 γ w) (h0 : ∀ o, n ≤ o → γ0.pl o = .no) {H : Heap} (hn : n ≤ H.length) (hH : RH γ w H) {x : AV} {v : Value} (hv : RV γ w x v) :
    ∃ γ', RV γ' w (finishR res n x H).1 v ∧ RH γ' w (finishR res n x H).2 ∧ Stp γ0 w0 γ' w := by
  obtain ⟨γ1, h1, h2, h3, h4⟩ := preF_sound res hH hv
  exact finish_sound (hs.trans h3) h0 (by rw [h4]; exact hn) h2 h1

/-! slots kept, slots made arrays -/

theorem lk_keep (ks : List Nat) (T : Tm) (i : Nat) : lk (ks.map fun i => (i, lk T i)) i = if i ∈ ks then lk T i else .junk := by
  induction ks with
  | nil => rfl
  | cons k r ih =>
    rw [List.map_cons, lk_cons, ih]
    by_cases h : i = k
    · subst h; simp
    · simp [h]

theorem RT.keep {T : Tm} {a : Act} (h : RT γ w T a) (k : Option (List Nat)) : RT γ w (keepT k T) a := by
  cases k with
  | none => exact h
  | some ks =>
    intro i
    rw [keepT_some, lk_keep]
    split
    · exact h i
    · exact .junk _

theorem keep_mem {T : Tm} {k : Option (List Nat)} {i : Nat} : lk (keepT k T) i = .junk ∨ lk (keepT k T) i ∈ (keepT k T).map (·.2) := by
  have : ∀ T : Tm, lk T i = .junk ∨ lk T i ∈ T.map (·.2) := by
    intro T
    induction T with
    | nil => exact .inl rfl
    | cons p r ih =>
      obtain ⟨j, v⟩ := p
      rw [lk_cons]
      by_cases h : i = j
      · rw [if_pos h]; exact .inr (by simp)
      · rw [if_neg h]
        rcases ih with ih | ih
        · exact .inl ih
        · exact .inr (by simp only [List.map_cons, List.mem_cons]; exact .inr ih)
  exact this _

theorem thaw_sound {T : Tm} {H : Heap} {a : Act} (hT : RT γ w T a) (hH : RH γ w H) (z t : Nat) : ∃ γ', RT γ' w (thaw z T H t).1 a ∧ RH γ' w (thaw z T H t).2 ∧ Stp γ w γ' w := by
  unfold thaw
  split
  · rename_i hn
    split
    · exact ⟨γ, hT, hH, .refl _ _⟩
    · rename_i hz
      have hgw : w.grownBy w none := ⟨rfl, rfl, rfl, Nat.le_refl _, fun _ _ _ => rfl⟩
      have hown : ∀ b, (Pl.arr (.slice none 0 0) z 0).own = some b → w.heap.size ≤ b := fun b hb => by simp [Pl.own, Value.ownBlock] at hb
      have hro : RArr (γ.put H.length (.arr (.slice none 0 0) z 0)) w (.slice none 0 0) z 0 [] true :=
        ⟨rfl, by simp, by omega, ⟨[], 0, .nil, by simp [ones], World.ownsRow_nil ..⟩, fun _ g hg => by simp [Value.ownBlock] at hg, fun hw => by simp at hw⟩
      have hs := Stp.new hH hgw hown
      refine ⟨_, ?_, RH.push hH hgw hown hro, hs⟩
      intro i
      rw [lk_cons]
      by_cases hi : i = t
      · subst hi
        rw [if_pos rfl]
        have := hT i
        rw [hn] at this
        generalize a.tmps.getD i undef = v at this
        cases this
        exact RV.full (γ.put_same _ _) hro
      · rw [if_neg hi]; exact (hT i).mono hs
  · exact ⟨γ, hT, hH, .refl _ _⟩

theorem thaws_sound : ∀ (l : List Nat) {γ : Gh} {T : Tm} {H : Heap} {a : Act}, RT γ w T a → RH γ w H → ∃ γ', RT γ' w (thaws l T H).1 a ∧ RH γ' w (thaws l T H).2 ∧ Stp γ w γ' w
  | [], γ, T, H, a, hT, hH => ⟨γ, hT, hH, .refl _ _⟩
  | [_], γ, T, H, a, hT, hH => ⟨γ, hT, hH, .refl _ _⟩
  | t :: z :: r, γ, T, H, a, hT, hH => by
    obtain ⟨γ1, h1, h2, h3⟩ := thaw_sound hT hH z t
    obtain ⟨γ2, k1, k2, k3⟩ := thaws_sound r h1 h2
    simp only [thaws]
    exact ⟨γ2, k1, k2, h3.trans k3⟩

/-! results -/

theorem resVs_dat (T : Tm) (H : Heap) : ∀ l : List ARes, resVs T H (l.map .dat) = resVs T H l
  | [] => rfl
  | x :: r => by simp only [List.map_cons, resVs, resV, resVs_dat T H r]
theorem resA_dat {T : Tm} {H : Heap} {res res0 : List ARes} {v : AV} (h : res = res0 ∨ res = res0.map .dat) (hv : resA T H res = some v) : resA T H res0 = some v := by
  rcases h with rfl | rfl
  · exact hv
  · unfold resA at hv ⊢
    rwa [resVs_dat] at hv

theorem resV_sound {T : Tm} {H : Heap} {a : Act} (hT : RT γ w T a) (hH : RH γ w H) : ∀ {rs : List ResultVar} {as : List ARes} {vs : List AV}, compRes P rs = some as → resVs T H as = some vs →
    ∃ us, (rs.mapM fun | .tmp t => pure (a.tmps.getD t undef) | .cell ad t => do loadVar t (← asAddr (a.tmps.getD ad undef)) : Sem (List Value)).run P w = .ok us w ∧ RVs γ w vs us
  | [], as, vs, h, hr => by
    simp [compRes] at h; subst h
    simp [resVs] at hr; subst hr
    exact ⟨[], by simp, .nil⟩
  | .tmp t :: r, as, vs, h, hr => by
    simp only [compRes] at h
    split at h
    · rename_i l hl
      simp at h; subst h
      simp only [resVs, resV] at hr
      split at hr
      · rename_i vs' hvs
        simp at hr; subst hr
        obtain ⟨us, h1, h2⟩ := resV_sound hT hH hl hvs
        refine ⟨a.tmps.getD t undef :: us, ?_, .cons (hT t) h2⟩
        simp only [List.mapM_cons, Sem.run_bind, Sem.run_pure, Result.andThen_ok, h1]
      · simp at hr
    · simp at h
  | .cell ad ty :: r, as, vs, h, hr => by
    simp only [compRes] at h
    split at h
    · rename_i n c l ht hl
      simp at h; subst h
      simp only [resVs, resV] at hr
      split at hr
      · rename_i v hv
        split at hv
        · rename_i y tc hla
          simp at hv; subst hv
          split at hr
          · rename_i vs' hvs
            simp at hr; subst hr
            obtain ⟨us, h1, h2⟩ := resV_sound hT hH hl hvs
            obtain ⟨adr, u, hval, hrun, hru⟩ := loadA_sound (P := P) hH (hT ad) hla ht
            refine ⟨u :: us, ?_, .cons hru h2⟩
            have hasa : ∀ w, (asAddr (a.tmps.getD ad undef)).run P w = .ok adr w := by intro w; rw [hval]; rfl
            simp only [List.mapM_cons, Sem.run_bind, hasa, Result.andThen_ok, hrun, h1, Sem.run_pure]
          · simp at hr
        · simp at hv
      · simp at hr
    · simp at h

theorem results_sound {F : Func} {T : Tm} {H : Heap} {a : Act} (hT : RT γ w T a) (hH : RH γ w H) {as : List ARes} (hc : compRes P F.results.toList = some as) {v : AV} (hr : resA T H as = some v) :
    ∃ u, (results F a.tmps).run P w = .ok u w ∧ RV γ w v u := by
  unfold resA at hr
  have key : ∀ {vs : List AV}, resVs T H as = some vs → ∃ us : List Value, RVs γ w vs us ∧ (results F a.tmps).run P w = .ok (if h : us.toArray.size = 1 then us.toArray[0] else .tuple us.toArray) w := by
    intro vs hvs
    obtain ⟨us, h1, h2⟩ := resV_sound (P := P) hT hH hc hvs
    refine ⟨us, h2, ?_⟩
    unfold results
    rw [Array.mapM_eq_mapM_toList]
    simp only [Sem.run_bind, Sem.run_map]
    have h1' : ∀ f, f = (List.mapM (fun x => match x with | .tmp t => pure (a.tmps.getD t undef) | .cell ad t => do loadVar t (← asAddr (a.tmps.getD ad undef)) : ResultVar → Sem Value) F.results.toList) → Sem.run P f w = .ok us w := by
      intro f hf; rw [hf]; exact h1
    rw [h1' _ (by rfl)]
    simp only [Result.andThen_ok, Sem.run_pure]
  split at hr
  · rename_i v' hvs
    simp at hr; subst hr
    obtain ⟨us, h2, h3⟩ := key hvs
    cases h2 with
    | cons hx ht =>
      cases ht
      exact ⟨_, h3, by simpa using hx⟩
  · rename_i vs hns hvs
    simp at hr; subst hr
    obtain ⟨us, h2, h3⟩ := key hvs
    have hne : ¬ (us.toArray.size = 1) := by
      intro h1
      have hl := h2.length
      simp at h1
      rw [h1] at hl
      cases vs with
      | nil => simp at hl
      | cons x r =>
        cases r with
        | nil => exact hns x rfl
        | cons y r => simp at hl
    rw [dif_neg hne] at h3
    exact ⟨_, h3, .tup h2⟩
  · simp at hr

theorem enum_lk : ∀ (l : List AV) (k i : Nat), lk (enum k l) i = if k ≤ i ∧ i < k + l.length then l.getD (i - k) .junk else .junk
  | [], k, i => by
    simp only [enum, lk, List.length_nil]
    rw [if_neg (by omega)]
  | x :: r, k, i => by
    simp only [enum, lk_cons, List.length_cons]
    by_cases h : i = k
    · subst h
      rw [if_pos rfl, if_pos (by omega), Nat.sub_self]; rfl
    · rw [if_neg h, enum_lk r (k + 1) i]
      by_cases h2 : k + 1 ≤ i ∧ i < k + 1 + r.length
      · rw [if_pos h2, if_pos (by omega)]
        obtain ⟨m, rfl⟩ : ∃ m, i = k + 1 + m := ⟨i - (k + 1), by omega⟩
        rw [show k + 1 + m - (k + 1) = m by omega, show k + 1 + m - k = m + 1 by omega]
        simp
      · rw [if_neg h2, if_neg (by omega)]

end

/-! loops -/

section
variable {P : Program}

/-- From a loop's round on. -/
def LoopWp (P : Program) (c : Code) (Q : Exit → Act → World → Prop) (a : Act) (w : World) : Prop :=
  ∀ (b : Frame) (k : List Item) (cs : List Frame), ∃ e a' w', Q e a' w' ∧ Arrives P (lone (b.at a (.code c :: .inLoop c :: k)) cs w) b k cs e a' w'

theorem LoopWp.loop {c : Code} {Q : Exit → Act → World → Prop} {a : Act} {w : World} (h : LoopWp P c Q a w) : (Code.loop c).wp P Q a w := by
  intro b k cs
  obtain ⟨e, a', w', hq, harr⟩ := h b k cs
  exact ⟨e, a', w', hq, .of_steps (.one step_loop) harr⟩

theorem LoopWp.round {c : Code} {Q : Exit → Act → World → Prop} {a : Act} {w : World} (h : c.wp P (Exit.then (LoopWp P c Q) Q) a w) : LoopWp P c Q a w := by
  intro b k cs
  obtain ⟨e, a₁, w₁, hq, harr⟩ := h b (.inLoop c :: k) cs
  cases e with
  | normal =>
    obtain ⟨e₂, a₂, w₂, hq₂, harr₂⟩ := hq b k cs
    exact ⟨e₂, a₂, w₂, hq₂, .of_steps (Steps.trans harr (.one step_inLoop)) harr₂⟩
  | exit id => exact ⟨_, a₁, w₁, hq, .pass (x := .inLoop c) rfl (fun _ _ => .inl (by simp)) harr⟩
  | goto l => exact ⟨_, a₁, w₁, hq, .pass (x := .inLoop c) rfl (fun _ _ => .inl (by simp)) harr⟩
  | ret => exact ⟨_, a₁, w₁, hq, .pass (x := .inLoop c) rfl (fun _ _ => .inl (by simp)) harr⟩
  | panic ch => exact ⟨_, a₁, w₁, hq, .pass (x := .inLoop c) rfl (fun _ _ => .inl (by simp)) harr⟩
  | outgrown => exact ⟨_, a₁, w₁, hq, .pass (x := .inLoop c) rfl (fun _ _ => .inl (by simp)) harr⟩

def exOf : AExit → Exit
  | .nrm => .normal
  | .ret => .ret
  | .exit i => .exit i

/-- The table of compiled functions, held against the program. -/
def CRel (P : Program) (C : FuncId → Option AFn) : Prop := ∀ f fn, C f = some fn → match fn with
  | .code np b res => ∃ h, compF P h f = some (.code np b res)
  | .codef fz np b res => ∃ h, compF P h f = some (.code np b res)
  | .ext g => ∀ args r, g args = some r → SRet P f args [] r
  | .exth g => ∀ args H r, g args H = some r → SRet P f args H r

theorem compF_spec {h : Hints} {f : FuncId} {np : Nat} {b : ACode} {res : List ARes} (hc : compF P h f = some (.code np b res)) :
    ∃ F c res0, P.funcs[f]? = some F ∧ F.body = some c ∧ compC P h F.ntmps c = some b ∧ compRes P F.results.toList = some res0 ∧ (res = res0 ∨ res = res0.map .dat) ∧ np ≤ F.ntmps ∧ (F.name == "runtime.NumGoroutine") = false := by
  unfold compF at hc
  split at hc
  · rename_i F hF
    split at hc
    · rename_i c hb
      split at hc
      · rename_i b' r' h1 h2
        split at hc
        · rename_i hcond
          simp at hc
          obtain ⟨rfl, rfl, rfl⟩ := hc
          refine ⟨F, c, r', hF, hb, h1, h2, ?_, hcond.1, hcond.2⟩
          split
          · exact .inr rfl
          · exact .inl rfl
        · simp at hc
      · simp at hc
    · simp at hc
  · simp at hc

theorem SRet.frzL {f : FuncId} {fz : List Bool} {args : List AV} {H : Heap} {r : AV × Heap} (h : SRet P f (Pv.frzL fz H args).1 (Pv.frzL fz H args).2 r) : SRet P f args H r := by
  refine ⟨h.1, ?_⟩
  intro γ w vs hvs hH
  obtain ⟨γ1, k1, k2, k3, _⟩ := frzL_sound (fz := fz) hH hvs
  refine (h.2 γ1 w vs k1 k2).mono ?_
  rintro e w' ⟨v', γ', rfl, hv, hH', hs⟩
  exact ⟨v', γ', rfl, hv, hH', k3.trans hs⟩

/-- What the evaluation of code says of Go's code. -/
def CodeOk (P : Program) (c : ACode) (T : Tm) (H : Heap) (r : AExit × Tm × Heap) : Prop :=
  ∀ (h : Hints) (nt : Nat) (code : Code), compC P h nt code = some c → ∀ (γ : Gh) (w : World) (a : Act), RS γ w nt T H a → ∀ Q : Exit → Act → World → Prop,
    (∀ γ' a' w', RS γ' w' nt r.2.1 r.2.2 a' → Stp γ w γ' w' → Q (exOf r.1) a' w') → code.wp P Q a w

def LoopOk (P : Program) (keep : Option (List Nat)) (c : ACode) (n : Nat) (T : Tm) (H : Heap) (r : AExit × Tm × Heap) : Prop :=
  ∀ (h : Hints) (nt : Nat) (code : Code), compC P h nt code = some c → ∀ (γ0 γ : Gh) (w0 w : World) (a : Act), RS γ w nt T H a → Stp γ0 w0 γ w → (∀ o, n ≤ o → γ0.pl o = .no) → n ≤ H.length → ∀ Q : Exit → Act → World → Prop,
    (∀ γ' a' w', RS γ' w' nt r.2.1 r.2.2 a' → Stp γ0 w0 γ' w' → Q (exOf r.1) a' w') → LoopWp P code Q a w

theorem behind_step {f : FuncId} {as : List AV} {H H1 : Heap} {ds : List DV} {p : AV × Heap} (htd : toDs H as = some (ds, H1)) (hsr : SRet P f (ds.map .d) [] p) {v : AV} {H' : Heap} {t : Tch} (hb : behind (frzAs as) (as.all isD) H1 p.2 p.1 = some (v, H', t)) :
    (∃ ds H1 p, toDs H as = some (ds, H1) ∧ SRet P f (ds.map .d) [] p ∧ behind0 (frzAs as) (as.all isD) H1 p.2 p.1 = some (v, H', t)) ∨
     (SRet P f as H (v, H') ∧ ((∃ s, t = .keep H.length s ∧ (s = true → H'.take H.length = H)) ∨ ∃ s A A' Y, t = .loc A.length s ∧ A'.length = A.length ∧ H = A ++ Y ∧ H' = A' ++ Y ∧ (s = true → A' = A) ∧ ∀ X, SRet P f as (A ++ X) (v, A' ++ X)) ∧ H.length ≤ H'.length) ∨
     (∃ ds p k c, as.all isD = true ∧ toDs H as = some (ds, H) ∧ SRet P f (ds.map .d) [] p ∧ takeAt k p.2 p.1 = some (v, c) ∧ freeAt H k ∧ H' = putAt H k c ∧ t = .new k) := by
  obtain ⟨r, H2⟩ := p
  simp only at hb
  by_cases hD : as.all isD = true
  · rw [hD] at hb
    cases r with
    | view o g z off len =>
      simp only [behind] at hb
      split at hb
      · rename_i v' c htk
        simp only [Option.some.injEq, Prod.mk.injEq] at hb
        obtain ⟨rfl, rfl, rfl⟩ := hb
        obtain ⟨ds', hd'⟩ := toDs_isD hD
        have he := hd' H
        rw [htd] at he
        simp at he
        obtain ⟨rfl, rfl⟩ := he
        exact .inr (.inr ⟨ds, _, _, c, hD, htd, hsr, htk, freeAt_end _, (putAt_end _ _).symm, rfl⟩)
      · simp at hb
    | _ => exact .inl ⟨ds, H1, _, htd, hsr, by rw [hD]; exact hb⟩
  · refine .inl ⟨ds, H1, _, htd, hsr, ?_⟩
    have := eq_false_of_ne_true hD
    rw [this] at hb ⊢
    exact hb

theorem sound (C : FuncId → Option AFn) (hC : CRel P C) :
    (∀ f args H r, evF C f args H = some r → SRet P f args H r) ∧ (∀ c T H r, evC C c T H = some r → CodeOk P c T H r ∧ H.length ≤ r.2.2.length) ∧
      (∀ keep c n T H r, evL C keep c n T H = some r → LoopOk P keep c n T H r ∧ (n ≤ H.length → n ≤ r.2.2.length)) ∧ (∀ ops T H tl r, evR C ops T H tl = some r → RunR P ops T H tl r ∧ H.length ≤ r.2.1.length) := by
  refine evF.mutual_partial_correctness C (SRet P) (fun c T H r => CodeOk P c T H r ∧ H.length ≤ r.2.2.length) (fun keep c n T H r => LoopOk P keep c n T H r ∧ (n ≤ H.length → n ≤ r.2.2.length)) (fun ops T H tl r => RunR P ops T H tl r ∧ H.length ≤ r.2.1.length) ?_ ?_ ?_ ?_
  · -- a function
    intro evC ih f args H r h
    have key : ∀ {hints : Hints} {np : Nat} {b : ACode} {res : List ARes} {args : List AV} {H : Heap} {r : AV × Heap}, compF P hints f = some (.code np b res) → (if args.length = np then
      (evC b (enum 0 args) H) >>= fun r => match r.1 with
        | .exit _ => none
        | _ => match resA r.2.1 r.2.2 res with
          | some v => some (finishR res H.length v r.2.2)
          | none => none
    else none) = some r → SRet P f args H r := by
      intro hints np b res args H r hcf h
      obtain ⟨F, c, res0, hF, hb, hcc, hcr0, hres, hnp, hname⟩ := compF_spec hcf
      split at h
      · rename_i hlen
        simp only [bind, Option.bind_eq_some_iff] at h
        obtain ⟨r0, hr0, h⟩ := h
        obtain ⟨hok, hle⟩ := ih _ _ _ _ hr0
        refine ⟨⟨F, c, hF, hb, hname⟩, ?_⟩
        intro γ w vs hvs hH
        have hvl := hvs.length
        refine calls_of_wp hF hb ?_
        have hS : RS γ w F.ntmps (enum 0 args) H { tmps := vs.toArray ++ Array.replicate (F.ntmps - vs.toArray.size) undef, defers := [] } := by
          refine ⟨?_, hH, by simp; omega, rfl⟩
          intro i
          rw [enum_lk]
          split
          · rename_i hi
            have hi' : i < args.length := by omega
            obtain ⟨u, hu, hru⟩ := hvs.get (List.getElem?_eq_getElem hi')
            have e1 : args.getD (i - 0) .junk = args[i] := by simp [hi']
            rw [e1]
            have e2 : (vs.toArray ++ Array.replicate (F.ntmps - vs.toArray.size) undef).getD i undef = u := by
              have : i < vs.length := by omega
              rw [Array.getD_eq_getD_getElem?, Array.getElem?_append_left (by simpa using this)]
              simp [hu]
            rw [e2]
            exact hru
          · exact .junk _
        have hfin : ∀ v, resA r0.2.1 r0.2.2 res = some v → r = finishR res H.length v r0.2.2 → (∀ i, r0.1 ≠ .exit i) → Code.wp P c (bodyPost P F fun e w' => ∃ v γ', e = .returned v ∧ RV γ' w' r.1 v ∧ RH γ' w' r.2 ∧ Stp γ w γ' w')
            { tmps := vs.toArray ++ Array.replicate (F.ntmps - vs.toArray.size) undef, defers := [] } w := by
          intro v hv hr hne
          subst hr
          refine hok hints F.ntmps c hcc γ w _ hS _ ?_
          intro γ' a' w' hS' hs
          obtain ⟨u, hu, hru⟩ := results_sound hS'.t hS'.h hcr0 (resA_dat hres hv)
          obtain ⟨γ'', k1, k2, k3⟩ := finishR_sound res hs (n := H.length) hH.out hle hS'.h hru
          have post : a'.defers = [] ∧ ∃ v_1, (results F a'.tmps).run P w' = .ok v_1 w' ∧ ∃ v_2 γ', Ending.returned v_1 = .returned v_2 ∧ RV γ' w' (finishR res H.length v r0.2.2).1 v_2 ∧ RH γ' w' (finishR res H.length v r0.2.2).2 ∧ Stp γ w γ' w' :=
            ⟨hS'.d, u, hu, u, γ'', rfl, k1, k2, k3⟩
          cases hex : r0.1 with
          | nrm => exact post
          | ret => exact post
          | exit i => exact absurd hex (hne i)
        split at h
        · simp at h
        · rename_i hne
          split at h
          · rename_i v hv
            simp at h
            exact hfin v hv h.symm (fun i hi => hne i hi)
          · simp at h
      · simp at h
    split at h
    · simp at h
    · rename_i g hCf
      have := hC f _ hCf
      split at h
      · exact this args r h
      · simp at h
    · rename_i g hCf
      have := hC f _ hCf
      exact this args H r h
    · rename_i np b res hCf
      obtain ⟨hints, hcf⟩ := hC f _ hCf
      exact key hcf h
    · rename_i fz np b res hCf
      obtain ⟨hints, hcf⟩ := hC f _ hCf
      exact SRet.frzL (key hcf h)
  · -- code
    intro evC evL evR ihC ihL ihR c T H r h
    split at h
    · -- skip
      simp at h; subst h
      refine ⟨?_, Nat.le_refl _⟩
      intro hints nt code hc γ w a hS Q hQ
      cases code <;> simp only [compC] at hc <;> try (exfalso; revert hc; (repeat' split) <;> simp; done)
      exact wp_skip (hQ γ a w hS (.refl _ _))
    · -- region
      rename_i keep ops pairs
      simp only [bind, Option.bind_eq_some_iff] at h
      obtain ⟨r0, hr0, h⟩ := h
      split at h
      · rename_i hok
        simp at h; subst h
        obtain ⟨hrun, hle⟩ := ihR _ _ _ _ _ hr0
        refine ⟨?_, hle⟩
        intro hints nt code hc γ w a hS Q hQ
        cases code <;> simp only [compC] at hc <;> try (exfalso; revert hc; (repeat' split) <;> simp; done)
        rename_i id gops draw
        split at hc
        · rename_i l hl
          split at hc
          · rename_i ps hps
            simp at hc
            obtain ⟨rfl, rfl, rfl⟩ := hc
            exact region_sound hl hps hrun hok ⟨hS.t.keep _, hS.h, hS.n, hS.d⟩ hQ
          · simp at hc
        · simp at hc
      · simp at h
    · -- seq
      rename_i x y
      simp only [bind, Option.bind_eq_some_iff] at h
      obtain ⟨r0, hr0, h⟩ := h
      obtain ⟨hx, hlx⟩ := ihC _ _ _ _ hr0
      have hcomp : ∀ (hints : Hints) (nt : Nat) (code : Code), compC P hints nt code = some (.seq x y) → ∃ cx cy, code = .seq cx cy ∧ compC P hints nt cx = some x ∧ compC P hints nt cy = some y := by
        intro hints nt code hc
        cases code <;> simp only [compC] at hc <;> try (exfalso; revert hc; (repeat' split) <;> simp; done)
        rename_i cx cy
        split at hc
        · rename_i x' y' h1 h2
          simp at hc
          obtain ⟨rfl, rfl⟩ := hc
          exact ⟨cx, cy, rfl, h1, h2⟩
        · simp at hc
      split at h
      · rename_i he
        obtain ⟨hy, hly⟩ := ihC _ _ _ _ h
        refine ⟨?_, Nat.le_trans hlx hly⟩
        intro hints nt code hc γ w a hS Q hQ
        obtain ⟨cx, cy, rfl, h1, h2⟩ := hcomp hints nt code hc
        refine wp_seq (hx hints nt cx h1 γ w a hS _ ?_)
        intro γ' a' w' hS' hs
        rw [he]
        exact hy hints nt cy h2 γ' w' a' hS' Q (fun γ'' a'' w'' h3 h4 => hQ γ'' a'' w'' h3 (hs.trans h4))
      · rename_i he
        simp at h; subst h
        refine ⟨?_, hlx⟩
        intro hints nt code hc γ w a hS Q hQ
        obtain ⟨cx, cy, rfl, h1, h2⟩ := hcomp hints nt code hc
        refine wp_seq (hx hints nt cx h1 γ w a hS _ ?_)
        intro γ' a' w' hS' hs
        have := hQ γ' a' w' hS' hs
        cases hex : r0.1 with
        | nrm => exact absurd hex he
        | ret => rw [hex] at this; exact this
        | exit i => rw [hex] at this; exact this
    · -- cond
      rename_i cnd x y
      split at h
      · rename_i b hb
        have hle : H.length ≤ r.2.2.length := by
          split at h
          · exact (ihC _ _ _ _ h).2
          · exact (ihC _ _ _ _ h).2
        refine ⟨?_, hle⟩
        intro hints nt code hc γ w a hS Q hQ
        cases code <;> simp only [compC] at hc <;> try (exfalso; revert hc; (repeat' split) <;> simp; done)
        rename_i c0 cx cy
        split at hc
        · rename_i c' x' y' h0 h1 h2
          simp at hc
          obtain ⟨rfl, rfl, rfl⟩ := hc
          have hr := opn_sound hS.t h0
          rw [hb] at hr
          have hev : a.eval c0 = .bool b := by
            generalize a.eval c0 = v at hr
            cases hr with
            | d hr => cases hr; rfl
          refine wp_cond hev ?_
          cases b with
          | true =>
            rw [if_pos rfl] at h ⊢
            exact (ihC _ _ _ _ h).1 hints nt cx h1 γ w a hS Q hQ
          | false =>
            rw [if_neg (by simp)] at h ⊢
            exact (ihC _ _ _ _ h).1 hints nt cy h2 γ w a hS Q hQ
        · simp at hc
      · simp at h
    · -- block
      rename_i id x
      simp only [bind, Option.bind_eq_some_iff] at h
      obtain ⟨r0, hr0, h⟩ := h
      obtain ⟨hx, hlx⟩ := ihC _ _ _ _ hr0
      have main : ∀ hints nt code, compC P hints nt code = some (.block id x) → ∃ cx, code = .block id cx ∧ compC P hints nt cx = some x := by
        intro hints nt code hc
        cases code <;> simp only [compC] at hc <;> try (exfalso; revert hc; (repeat' split) <;> simp; done)
        rename_i id' cx
        split at hc
        · rename_i x' h1
          simp at hc
          obtain ⟨rfl, rfl⟩ := hc
          exact ⟨cx, rfl, h1⟩
        · simp at hc
      have hle : H.length ≤ r.2.2.length ∧ (∀ (Q : Exit → Act → World → Prop) a' w', Q (exOf r.1) a' w' → Exit.inBlock id Q (exOf r0.1) a' w') ∧ r.2 = r0.2 := by
        split at h
        · rename_i i hi
          split at h
          · rename_i hid
            simp at h; subst h
            refine ⟨hlx, fun Q a' w' hq => ?_, rfl⟩
            rw [hi]
            simp only [exOf, Exit.inBlock, if_pos hid]
            exact hq
          · rename_i hid
            simp at h; subst h
            refine ⟨hlx, fun Q a' w' hq => ?_, rfl⟩
            rw [hi]
            simp only [exOf, Exit.inBlock, if_neg hid]
            exact hq
        · rename_i hne
          simp at h; subst h
          refine ⟨hlx, fun Q a' w' hq => ?_, rfl⟩
          cases hex : r0.1 with
          | nrm => rw [hex] at hq; exact hq
          | ret => rw [hex] at hq; exact hq
          | exit i => exact absurd hex (hne i)
      refine ⟨?_, hle.1⟩
      intro hints nt code hc γ w a hS Q hQ
      obtain ⟨cx, rfl, h1⟩ := main hints nt code hc
      refine wp_block (hx hints nt cx h1 γ w a hS _ ?_)
      intro γ' a' w' hS' hs
      refine hle.2.1 Q a' w' (hQ γ' a' w' ?_ hs)
      rw [hle.2.2]
      exact hS'
    · -- loop
      rename_i keep th x
      obtain ⟨hl, hle⟩ := ihL _ _ _ _ _ _ h
      have hth : H.length ≤ (thaws th T H).2.length := by
        have : ∀ (l : List Nat) (T : Tm) (H : Heap), H.length ≤ (thaws l T H).2.length := by
          have one : ∀ z t (T : Tm) (H : Heap), H.length ≤ (thaw z T H t).2.length := by
            intro z t T H
            unfold thaw
            split
            · split <;> simp
            · simp
          have gen : ∀ (k : Nat) (l : List Nat), l.length ≤ k → ∀ (T : Tm) (H : Heap), H.length ≤ (thaws l T H).2.length := by
            intro k
            induction k with
            | zero => intro l hl T H; have : l = [] := List.eq_nil_of_length_eq_zero (by omega); subst this; simp [thaws]
            | succ k ih =>
              intro l hl T H
              cases l with
              | nil => simp [thaws]
              | cons t r =>
                cases r with
                | nil => simp [thaws]
                | cons z r =>
                  simp only [thaws]
                  exact Nat.le_trans (one z t T H) (ih r (by simp at hl; omega) _ _)
          exact fun l T H => gen l.length l (Nat.le_refl _) T H
        exact this _ _ _
      refine ⟨?_, Nat.le_trans hth (hle (Nat.le_refl _))⟩
      intro hints nt code hc γ w a hS Q hQ
      cases code <;> simp only [compC] at hc <;> try (exfalso; revert hc; (repeat' split) <;> simp; done)
      rename_i cx
      split at hc
      · rename_i x' h1
        simp at hc
        obtain ⟨_, rfl, rfl⟩ := hc
        obtain ⟨γ1, k1, k2, k3⟩ := thaws_sound _ hS.t hS.h
        refine LoopWp.loop (hl hints nt cx h1 γ1 γ1 w w a ⟨k1, k2, hS.n, hS.d⟩ (.refl _ _) k2.out (Nat.le_refl _) Q ?_)
        intro γ' a' w' hS' hs
        exact hQ γ' a' w' hS' (k3.trans hs)
      · simp at hc
    · -- exit
      simp at h; subst h
      refine ⟨?_, Nat.le_refl _⟩
      intro hints nt code hc γ w a hS Q hQ
      cases code <;> simp only [compC] at hc <;> try (exfalso; revert hc; (repeat' split) <;> simp; done)
      simp at hc; subst hc
      exact wp_exit (hQ γ a w hS (.refl _ _))
    · -- scope
      rename_i x
      obtain ⟨hx, hlx⟩ := ihC _ _ _ _ h
      refine ⟨?_, hlx⟩
      intro hints nt code hc γ w a hS Q hQ
      cases code <;> simp only [compC] at hc <;> try (exfalso; revert hc; (repeat' split) <;> simp; done)
      rename_i cx
      split at hc
      · rename_i x' h1
        simp at hc; subst hc
        refine wp_scope_straight (hx hints nt cx h1 γ w a hS _ ?_)
        intro γ' a' w' hS' hs
        have := hQ γ' a' w' hS' hs
        cases hex : r.1 with
        | nrm => rw [hex] at this; exact this
        | ret => rw [hex] at this; exact this
        | exit i => rw [hex] at this; exact this
      · simp at hc
    · -- ret
      simp at h; subst h
      refine ⟨?_, Nat.le_refl _⟩
      intro hints nt code hc γ w a hS Q hQ
      cases code <;> simp only [compC] at hc <;> try (exfalso; revert hc; (repeat' split) <;> simp; done)
      exact wp_ret (hQ γ a w hS (.refl _ _))
  · -- a loop's rounds
    intro evC evL ihC ihL keep c n T H r h
    simp only [bind, Option.bind_eq_some_iff] at h
    obtain ⟨r0, hr0, h⟩ := h
    obtain ⟨hx, hlx⟩ := ihC _ _ _ _ hr0
    have htl : n ≤ H.length → n ≤ (trim n ((keepT keep T).map (·.2)) H).length := by
      intro hn
      unfold trim
      split
      · simp; omega
      · exact hn
    have start : ∀ (γ0 γ : Gh) (w0 w : World) (nt : Nat) (a : Act), RS γ w nt T H a → Stp γ0 w0 γ w → (∀ o, n ≤ o → γ0.pl o = .no) → n ≤ H.length →
        ∃ γ1, RS γ1 w nt (keepT keep T) (trim n ((keepT keep T).map (·.2)) H) a ∧ Stp γ0 w0 γ1 w := by
      intro γ0 γ w0 w nt a hS hs h0 hn
      obtain ⟨γ1, k1, k2, k3, k4⟩ := trim_sound hs h0 hn hS.h ((keepT keep T).map (·.2))
      refine ⟨γ1, ⟨?_, k1, hS.n, hS.d⟩, k2⟩
      intro i
      rcases keep_mem (T := T) (k := keep) (i := i) with hj | hm
      · rw [hj]; exact .junk _
      · exact k4 _ hm _ (hS.t.keep keep i)
    split at h
    · rename_i he
      obtain ⟨hL, hlL⟩ := ihL _ _ _ _ _ _ h
      refine ⟨?_, fun hn => hlL (Nat.le_trans (htl hn) hlx)⟩
      intro hints nt code hc γ0 γ w0 w a hS hs h0 hn Q hQ
      obtain ⟨γ1, hS1, hs1⟩ := start γ0 γ w0 w nt a hS hs h0 hn
      refine LoopWp.round (hx hints nt code hc γ1 w a hS1 _ ?_)
      intro γ' a' w' hS' hs'
      rw [he]
      exact hL hints nt code hc γ0 γ' w0 w' a' hS' (hs1.trans hs') h0 (Nat.le_trans (htl hn) hlx) Q hQ
    · rename_i he
      simp at h; subst h
      refine ⟨?_, fun hn => Nat.le_trans (htl hn) hlx⟩
      intro hints nt code hc γ0 γ w0 w a hS hs h0 hn Q hQ
      obtain ⟨γ1, hS1, hs1⟩ := start γ0 γ w0 w nt a hS hs h0 hn
      refine LoopWp.round (hx hints nt code hc γ1 w a hS1 _ ?_)
      intro γ' a' w' hS' hs'
      have := hQ γ' a' w' hS' (hs1.trans hs')
      cases hex : r0.1 with
      | nrm => exact absurd hex he
      | ret => rw [hex] at this; exact this
      | exit i => rw [hex] at this; exact this
  · -- a region's operations
    intro evF evR ihF ihR ops T H tl r h
    split at h
    · simp at h; subst h; exact ⟨.nil, Nat.le_refl _⟩
    · rename_i o rest
      split at h
      · simp at h
      · rename_i hg
        obtain ⟨h1, h2⟩ := ihR _ _ _ _ _ h
        exact ⟨.skip hg h1, h2⟩
      · rename_i hg
        split at h
        · rename_i g args hop
          split at h
          · simp at h
          · rename_i f as hcl
            split at h
            · rename_i ds H1 htd
              simp only [bind, Option.bind_eq_some_iff] at h
              obtain ⟨p, hp, h⟩ := h
              split at h
              · rename_i v H3 t hb
                obtain ⟨h1, h2⟩ := ihR _ _ _ _ _ h
                have hstep : StepR P o T H v H3 t := .inl ⟨g, args, f, as, hop, hcl, behind_step (argD_toDs htd) (ihF _ _ _ _ hp) hb⟩
                refine ⟨.step hg hstep h1, Nat.le_trans ?_ h2⟩
                exact (Op1.len (P := P) (o := o) (.inr ⟨hg, hstep⟩))
              · simp only [Option.bind_eq_some_iff] at h
                obtain ⟨p, hp, h⟩ := h
                split at h
                · rename_i hle
                  obtain ⟨h1, h2⟩ := ihR _ _ _ _ _ h
                  exact ⟨.step hg (.inl ⟨g, args, f, as, hop, hcl, .inr (.inl ⟨ihF _ _ _ _ hp, SRet.loc' (ihF _ _ _ _ hp), hle⟩)⟩) h1, Nat.le_trans hle h2⟩
                · simp at h
            · simp only [bind, Option.bind_eq_some_iff] at h
              obtain ⟨p, hp, h⟩ := h
              split at h
              · rename_i hle
                obtain ⟨h1, h2⟩ := ihR _ _ _ _ _ h
                exact ⟨.step hg (.inl ⟨g, args, f, as, hop, hcl, .inr (.inl ⟨ihF _ _ _ _ hp, SRet.loc' (ihF _ _ _ _ hp), hle⟩)⟩) h1, Nat.le_trans hle h2⟩
              · simp at h
        · rename_i hnc
          split at h
          · rename_i v e t ha
            obtain ⟨h1, h2⟩ := ihR _ _ _ _ _ h
            have hstep : StepR P o T H v (e.on H) t := .inr (.inl ⟨fun g args hop => hnc g args hop, e, ha, rfl⟩)
            exact ⟨.step hg hstep h1, Nat.le_trans (Op1.len (P := P) (o := o) (.inr ⟨hg, hstep⟩)) h2⟩
          · simp at h

end
end Pv
