/- The pure evaluator: every operation that is no call of a function: as it was compiled, so it is done. -/
import Derived.Test.YtlihpaegaikoeaaDoorPvFreeze
set_option linter.all false
namespace Pv
open Go

section
variable {P : Program} {γ : Gh} {w : World} {T : Tm} {a : Act} {H : Heap} {o : Oper} {v : AV} {e : Eff} {t : Tch}

theorem Quiet.doesE (h : Quiet P γ w a o v ∧ e = .none) (hH : RH γ w H) : Does P γ w a o v (e.on H) := by
  obtain ⟨h1, rfl⟩ := h
  exact h1.does hH
theorem Quiet.doesE3 (h : Quiet P γ w a o v ∧ e = .none ∧ t = .none) (hH : RH γ w H) : Does P γ w a o v (e.on H) := Quiet.doesE ⟨h.1, h.2.1⟩ hH

theorem call_eq {c : Call} {b : Builtin} {tl : List TypeId} {al : List Operand} (hc : c.callee = .builtin b) (h1 : c.argTypes.toList = tl) (h2 : c.args.toList = al) : c = { callee := .builtin b, args := al.toArray, argTypes := tl.toArray } := by
  obtain ⟨k, ar, at_⟩ := c
  simp only at hc h1 h2
  subst hc; subst h1; subst h2
  simp

theorem call_sound {c : Call} (ho : o.op = .call c) {ao : AOp} (hcomp : compCall P c = some ao) (hnc : ∀ g as, ao ≠ .call g as) (hT : RT γ w T a) (hH : RH γ w H) (ha : act ao T H = some (v, e, t)) : Does P γ w a o v (e.on H) := by
  unfold compCall at hcomp
  split at hcomp
  · split at hcomp
    · simp at hcomp; subst hcomp; exact absurd rfl (hnc _ _)
    · simp at hcomp
  · -- len
    rename_i hc
    split at hcomp
    · rename_i ty x hat har
      have hce := call_eq hc hat har
      have ho' : o.op = .call { callee := .builtin .len, args := #[x], argTypes := #[ty] } := by rw [ho, hce]
      split at hcomp
      · rename_i x' hu hx
        simp at hcomp; subst hcomp
        exact Quiet.doesE3 (q_lenS ho' hT hx hu ha) hH
      · rename_i el x' hu hx
        simp at hcomp; subst hcomp
        exact Quiet.doesE3 (q_len ho' hT hx hu ha) hH
      · rename_i n el x' hu hx
        simp at hcomp; subst hcomp
        refine Quiet.doesE3 (q_const (val := .int .i64 (n : Int)) (.i _ _) ?_ ha) hH
        refine run_lenOp (ty := 0) ho' rfl ?_
        simp [Builtin.len_, run_underlying hu, goInt]
      · simp at hcomp
    · simp at hcomp
  · -- append
    rename_i hc
    split at hcomp
    · rename_i ty u x y hat har
      split at hcomp
      · rename_i el d x' y' hu hu2 hx hy
        split at hcomp
        · simp at hcomp
        · rename_i hd
          split at hcomp
          · rename_i i zv hi hz
            split at hcomp
            · rename_i hcond
              simp at hcomp; subst hcomp
              exact does_app ho hc hat har hT hH hx hy hu hu2 (fun k hk => hd k hk) hi hz hcond.1 hcond.2.1 hcond.2.2 ha
            · simp at hcomp
          · simp at hcomp
      · simp at hcomp
    · simp at hcomp
  · -- copy
    rename_i hc
    split at hcomp
    · rename_i ty u x y hat har
      split at hcomp
      · rename_i el x' y' hu hx hy
        split at hcomp
        · rename_i i hi
          split at hcomp
          · rename_i hsz
            simp at hcomp; subst hcomp
            exact does_cpy ho hc hat har hT hH hx hy hu hi hsz ha
          · simp at hcomp
        · simp at hcomp
      · simp at hcomp
    · simp at hcomp
  · -- clear
    rename_i hc
    split at hcomp
    · rename_i ty x hat har
      split at hcomp
      · rename_i el x' hu hx
        split at hcomp
        · rename_i i zd hi hz
          split at hcomp
          · rename_i hcond
            simp at hcomp; subst hcomp
            exact does_clr ho hc hat har hT hH hx hu hi hz hcond.1 hcond.2 ha
          · simp at hcomp
        · simp at hcomp
      · simp at hcomp
    · simp at hcomp
  · rename_i hc
    split at hcomp
    · rename_i l hl
      simp at hcomp; subst hcomp
      exact Quiet.doesE3 (q_mm (mx := true) ho hc hT hl ha) hH
    · simp at hcomp
  · rename_i hc
    split at hcomp
    · rename_i l hl
      simp at hcomp; subst hcomp
      exact Quiet.doesE3 (q_mm (mx := false) ho hc hT hl ha) hH
    · simp at hcomp
  · simp at hcomp

theorem act_sound {ao : AOp} (hcomp : compOp1 P o.op = some ao) (hnc : ∀ g as, ao ≠ .call g as) (hT : RT γ w T a) (hH : RH γ w H) (ha : act ao T H = some (v, e, t)) : Does P γ w a o v (e.on H) := by
  generalize hop : o.op = op at hcomp
  cases op <;> simp only [compOp1] at hcomp <;> try (simp at hcomp; done)
  case move x =>
    cases hx : opn x <;> simp [hx] at hcomp
    subst hcomp
    exact Quiet.doesE3 (q_mv (.inl hop) hT hx ha) hH
  case assign x =>
    cases hx : opn x <;> simp [hx] at hcomp
    subst hcomp
    exact Quiet.doesE3 (q_mv (.inr hop) hT hx ha) hH
  case pick c x y =>
    split at hcomp
    · rename_i c' x' y' hc hx hy
      simp at hcomp; subst hcomp
      exact Quiet.doesE3 (q_pick hop hT hc hx hy ha) hH
    · simp at hcomp
  case alloc el =>
    cases hz : zeroOf P el <;> simp [hz] at hcomp
    subst hcomp
    exact d_alloc hop hH hz ha
  case box el x =>
    cases hx : opn x <;> simp [hx] at hcomp
    subst hcomp
    exact d_box hop hT hH hx ha
  case build ty parts =>
    split at hcomp
    · rename_i z fs hz hu
      split at hcomp
      · rename_i hai
        split at hcomp
        · rename_i l hl
          simp at hcomp; subst hcomp
          exact Quiet.doesE3 (q_build hop hT hz (.inl ⟨fs, hu, hai, hl⟩) ha) hH
        · simp at hcomp
      · simp at hcomp
    · rename_i z n el hz hu
      split at hcomp
      · rename_i i hi
        split at hcomp
        · rename_i l hl
          simp at hcomp; subst hcomp
          exact Quiet.doesE3 (q_build hop hT hz (.inr ⟨n, el, i, hu, hi, hl⟩) ha) hH
        · simp at hcomp
      · simp at hcomp
    · simp at hcomp
  case buildSlice ty len parts =>
    split at hcomp
    · rename_i el hu
      split at hcomp
      · rename_i i z l hi hz hl
        split at hcomp
        · rename_i hcond
          simp at hcomp; subst hcomp
          rcases act_bsl (T := T) (H := H) i.size l with hact | ⟨_, hact⟩
          · exact Does.of_new (fun _ _ _ hn hk => n_bsl hop hT hH hl hu hi hz hcond.1 hcond.2.1 hcond.2.2.1 hcond.2.2.2 hk hn) hact ha
          · rw [hact] at ha
            split at ha
            · rename_i es H1 htd
              split at ha
              · rename_i hall
                simp only [Option.some.injEq, Prod.mk.injEq] at ha
                obtain ⟨rfl, rfl, rfl⟩ := ha
                obtain ⟨γ1, hds, hH1, hs1, _⟩ := toDs_sound _ hH (opns_sound hT hl) htd
                obtain ⟨v', w', γ', h1, h2, h3, h4⟩ := bsl_core hop hH1 hu hi hz hcond.1 hcond.2.1 hcond.2.2.1 hcond.2.2.2 (freeAt_end H1) hds (by simpa using hall)
                rw [putAt_end] at h3
                exact ⟨v', w', γ', h1, h2, h3, hs1.trans h4⟩
              · simp at ha
            · simp at ha
        · simp at hcomp
      · simp at hcomp
    · simp at hcomp
  case load ty x =>
    split at hcomp
    · rename_i n c x' ht hx
      simp at hcomp; subst hcomp
      exact Quiet.doesE (q_load hop hT hH hx ht ha) hH
    · simp at hcomp
  case store ty x y =>
    split at hcomp
    · rename_i n c x' y' ht hx hy
      simp at hcomp; subst hcomp
      exact does_store hop hT hH hx hy ht ha
    · simp at hcomp
  case nilCheck x =>
    cases hx : opn x <;> simp [hx] at hcomp
    subst hcomp
    exact Quiet.doesE3 (q_nilck hop hT hx ha) hH
  case binOp op ty x y ty' =>
    split at hcomp
    · rename_i x' y' hx hy
      split at hcomp
      · rename_i hcmp
        have hcmp' : op = .eql ∨ op = .neq := by cases op <;> simp [isCmp] at hcmp ⊢
        split at hcomp
        · rename_i hu
          simp at hcomp; subst hcomp
          refine Quiet.doesE3 (q_eq hop hT hx hy (k := 1) (et := .sb) (by simp [ety, hu]) (by omega) ?_ hcmp' (.inl rfl) ha) hH
          intro xs ys
          have hgt : P.eqGuardType P.depth ty = false := by
            have : ∀ d, P.eqGuardType (d + 1) ty = false := fun d => by simp [Program.eqGuardType, hu]
            exact this (2 * (P.types.size + Made.depth) + 1)
          exact run_eqGuard_agg w op ty x y xs ys hgt
        · simp at hcomp; subst hcomp
          exact Quiet.doesE3 (q_bin hop hT hx hy ha) hH
        · simp at hcomp; subst hcomp
          exact Quiet.doesE3 (q_bin hop hT hx hy ha) hH
        · rename_i el hu
          split at hcomp
          · rename_i hnil
            simp at hcomp; subst hcomp
            have : ∃ n c, y = .const (.slice none n c) := by
              unfold isNilC at hnil
              split at hnil
              · exact ⟨_, _, rfl⟩
              · simp at hnil
            obtain ⟨n, c, rfl⟩ := this
            exact Quiet.doesE3 (q_isnil hop hcmp' hT hx hu ha) hH
          · simp at hcomp
        · rename_i el hu
          split at hcomp
          · rename_i hnil
            simp at hcomp; subst hcomp
            have : y = .const (.pointer none) := by
              unfold isNilP at hnil
              split at hnil
              · rfl
              · simp at hnil
            subst this
            exact Quiet.doesE3 (q_pnil hop hcmp' hT hx hu ha) hH
          · simp at hcomp
        · rename_i fs hu
          split at hcomp
          · simp at hcomp
          · rename_i hg
            cases het : ety P 64 ty <;> simp [het] at hcomp
            rename_i et
            subst hcomp
            refine Quiet.doesE3 (q_eq hop hT hx hy het (by omega) (fun xs ys => run_eqGuard_agg w op ty x y xs ys (by simpa using hg)) hcmp' ?_ ha) hH
            have hagg := ety_isAgg het w
            have : (isAgg ty).run P w = .ok true w := by simp [isAgg, run_underlying hu]
            rw [this] at hagg
            injection hagg with hagg
            exact .inr hagg.symm
        · rename_i n el hu
          split at hcomp
          · simp at hcomp
          · rename_i hg
            cases het : ety P 64 ty <;> simp [het] at hcomp
            rename_i et
            subst hcomp
            refine Quiet.doesE3 (q_eq hop hT hx hy het (by omega) (fun xs ys => run_eqGuard_agg w op ty x y xs ys (by simpa using hg)) hcmp' ?_ ha) hH
            have hagg := ety_isAgg het w
            have : (isAgg ty).run P w = .ok true w := by simp [isAgg, run_underlying hu]
            rw [this] at hagg
            injection hagg with hagg
            exact .inr hagg.symm
        · simp at hcomp
      · simp at hcomp; subst hcomp
        exact Quiet.doesE3 (q_bin hop hT hx hy ha) hH
    · simp at hcomp
  case unOp op ty x =>
    cases hx : opn x <;> simp [hx] at hcomp
    subst hcomp
    exact Quiet.doesE3 (q_un hop hT hx ha) hH
  case convert src dst x =>
    split at hcomp
    · rename_i k' k x' hs hd hx
      simp at hcomp; subst hcomp
      exact Quiet.doesE3 (q_conv hop hT hx hs hd ha) hH
    · rename_i x' hs hd hx
      simp at hcomp; subst hcomp
      exact Quiet.doesE3 (q_convs hop hT hx hs hd ha) hH
    · rename_i el x' hs hd hx
      split at hcomp
      · rename_i he
        simp at hcomp; subst hcomp
        exact Quiet.doesE (q_b2s hop hT hH hx hs he hd ha) hH
      · simp at hcomp
    · simp at hcomp
  case makeFunc fn first cap =>
    split at hcomp
    · rename_i f p q hp hq
      simp at hcomp; subst hcomp
      exact Quiet.doesE3 (q_mkfn hop hT hp hq ha) hH
    · simp at hcomp
  case makeSlice ty n c =>
    split at hcomp
    · rename_i el n' c' hu hn hc
      split at hcomp
      · rename_i i zd hi hz
        split at hcomp
        · rename_i hcond
          simp at hcomp; subst hcomp
          exact Does.of_new (fun _ _ _ hn2 hk => n_mksl hop hT hH hn hc hu hi hz hcond.1 hcond.2.1 hcond.2.2 hk hn2) (act_mksl _ _ _ _) ha
        · simp at hcomp
      · simp at hcomp
    · simp at hcomp
  case slice ty x lo hi mx =>
    split at hcomp
    · rename_i x' lo' hi' hu hx hlo hhi hmx
      simp at hcomp; subst hcomp
      have hm : mx = none := by
        cases mx with
        | none => rfl
        | some y =>
          simp only [opnO] at hmx
          split at hmx <;> simp at hmx
      subst hm
      exact Quiet.doesE3 (q_sliceS hop hT hx hlo hhi hu ha) hH
    · rename_i el x' lo' hi' mx' hu hx hlo hhi hmx
      split at hcomp
      · rename_i i hi0
        split at hcomp
        · rename_i hsz
          simp at hcomp; subst hcomp
          cases mx' with
          | some m => exact Quiet.doesE3 (q_slice3 hop hT hx hlo hhi hmx hu hi0 hsz ha) hH
          | none =>
            have hm : mx = none := by
              cases mx with
              | none => rfl
              | some y =>
                simp only [opnO] at hmx
                split at hmx <;> simp at hmx
            subst hm
            exact Quiet.doesE3 (q_slice hop hT hx hlo hhi hu hi0 hsz ha) hH
        · simp at hcomp
      · simp at hcomp
    · simp at hcomp
  case fieldAddr s x f =>
    split at hcomp
    · rename_i fs x' hu hx
      split at hcomp
      · rename_i off n hf
        split at hcomp
        · simp at hcomp
        · rename_i hn
          simp at hcomp; subst hcomp
          exact Quiet.doesE3 (q_faddr hop hT hx hu hf hn ha) hH
      · simp at hcomp
    · simp at hcomp
  case field ty x f =>
    split at hcomp
    · rename_i fs x' hu hx
      split at hcomp
      · rename_i fd hfd
        split at hcomp
        · rename_i n c ht
          simp at hcomp; subst hcomp
          exact Quiet.doesE3 (q_field hop hT hx hu hfd ht ha) hH
        · simp at hcomp
      · simp at hcomp
    · simp at hcomp
  case indexAddr ty x i =>
    split at hcomp
    · rename_i len el x' i' hu hx hi
      split at hcomp
      · rename_i k hk
        simp at hcomp; subst hcomp
        exact Quiet.doesE3 (q_iaddrA hop hT hx hi hu hk ha) hH
      · simp at hcomp
    · rename_i el x' i' hu hx hi
      split at hcomp
      · rename_i k hk
        simp at hcomp; subst hcomp
        exact Quiet.doesE3 (q_iaddrS hop hT hx hi hu hk ha) hH
      · simp at hcomp
    · simp at hcomp
  case index ty x i =>
    split at hcomp
    · rename_i len el x' i' hu hx hi
      split at hcomp
      · rename_i n c ht
        simp at hcomp; subst hcomp
        exact Quiet.doesE3 (q_idxA hop hT hx hi hu ht ha) hH
      · simp at hcomp
    · rename_i x' i' hu hx hi
      simp at hcomp; subst hcomp
      exact Quiet.doesE3 (q_idxS hop hT hx hi hu ha) hH
    · simp at hcomp
  case extract x i =>
    cases hx : opn x <;> simp [hx] at hcomp
    subst hcomp
    exact Quiet.doesE3 (q_ext hop hT hx ha) hH
  case makeMap ty r =>
    cases r with
    | some r => simp at hcomp
    | none =>
      simp only at hcomp
      split at hcomp
      · split at hcomp
        · simp at hcomp; subst hcomp
          exact Does.of_new (fun _ _ _ hn hk => n_mkmap hop hH hk hn) (act_mkmap _) ha
        · simp at hcomp
      · simp at hcomp
  case lookup ty x i ok =>
    split at hcomp
    · rename_i key el x' i' hu hx hi
      split at hcomp
      · rename_i k z hk hz
        simp at hcomp; subst hcomp
        exact Quiet.doesE (q_mget hop hT hH hx hi hu hk hz ha) hH
      · simp at hcomp
    · simp at hcomp
  case mapUpdate ty x i y =>
    split at hcomp
    · rename_i key el x' i' y' hu hx hi hy
      split at hcomp
      · rename_i k hk
        simp at hcomp; subst hcomp
        exact does_mset hop hT hH hx hi hy hu hk ha
      · simp at hcomp
    · simp at hcomp
  case call c => exact call_sound hop hcomp hnc hT hH ha

/-- What lays a new object, wherever. -/
theorem newAt_sound {ao : AOp} (hcomp : compOp1 P o.op = some ao) (hT : RT γ w T a) (hH : RH γ w H) {k : Nat} {c : Ob} (hk : freeAt H k) (hn : newAt ao T k = some (v, c)) : Does P γ w a o v (putAt H k c) := by
  generalize hop : o.op = op at hcomp
  cases op <;> simp only [compOp1] at hcomp <;> try (simp at hcomp; done)
  case alloc el =>
    cases hz : zeroOf P el <;> simp [hz] at hcomp
    subst hcomp
    exact n_alloc hop hH hz hk hn
  case box el x =>
    cases hx : opn x <;> simp [hx] at hcomp
    subst hcomp
    exact n_box hop hT hH hx hk hn
  case buildSlice ty len parts =>
    split at hcomp
    · rename_i el hu
      split at hcomp
      · rename_i i z l hi hz hl
        split at hcomp
        · rename_i hcond
          simp at hcomp; subst hcomp
          exact n_bsl hop hT hH hl hu hi hz hcond.1 hcond.2.1 hcond.2.2.1 hcond.2.2.2 hk hn
        · simp at hcomp
      · simp at hcomp
    · simp at hcomp
  case makeSlice ty n c =>
    split at hcomp
    · rename_i el n' c' hu hn' hc
      split at hcomp
      · rename_i i zd hi hz
        split at hcomp
        · rename_i hcond
          simp at hcomp; subst hcomp
          exact n_mksl hop hT hH hn' hc hu hi hz hcond.1 hcond.2.1 hcond.2.2 hk hn
        · simp at hcomp
      · simp at hcomp
    · simp at hcomp
  case makeMap ty r =>
    cases r with
    | some r => simp at hcomp
    | none =>
      simp only at hcomp
      split at hcomp
      · split at hcomp
        · simp at hcomp; subst hcomp
          exact n_mkmap hop hH hk hn
        · simp at hcomp
      · simp at hcomp
  case call c =>
    unfold compCall at hcomp
    (repeat' split at hcomp) <;> simp at hcomp <;> subst hcomp <;> try (simp [newAt] at hn; done)
    rename_i hc _ _ _ _ _ _ hat har _ _ _ _ _ _ _ _ hu hu2 hx hy _ hd _ _ _ _ hi hz hcond
    exact n_app hop hc hat har hT hH hx hy hu hu2 (fun k hk => hd k hk) hi hz hcond.1 hcond.2.1 hcond.2.2 hk hn
  all_goals
    first
    | (simp only [Option.map_eq_some_iff] at hcomp; obtain ⟨_, _, rfl⟩ := hcomp; simp [newAt] at hn; done)
    | ((repeat' split at hcomp) <;> simp at hcomp <;> (try subst hcomp) <;> (try (simp [newAt] at hn; done)) <;> (try (obtain ⟨_, _, rfl⟩ := hcomp; simp [newAt] at hn; done)))

end
end Pv
