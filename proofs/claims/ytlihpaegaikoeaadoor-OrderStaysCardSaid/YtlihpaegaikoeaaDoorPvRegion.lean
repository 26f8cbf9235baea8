/- The pure evaluator: a region, in the text's order or in any order that its edges allow. -/
import Derived.Test.YtlihpaegaikoeaaDoorPvSwap
set_option linter.all false
namespace Pv
open Go

section
variable {P : Program} {aops : List AOper} {τ : Nat → Tch} {ops : Array Oper} {nt : Nat}

theorem RS.congr {γ : Gh} {w : World} {T T' : Tm} {H : Heap} {a : Act} (h : RS γ w nt T H a) (he : Teq T T') : RS γ w nt T' H a :=
  ⟨fun i => by rw [← he i]; exact h.t i, h.h, h.n, h.d⟩

theorem compOper_dst {o : Oper} {ao : AOper} (h : compOper P ops nt o = some ao) : ao.dst = o.dst ∧ compGuard ops o.guard = some ao.guard := by
  unfold compOper at h
  split at h
  · rename_i g hg
    split at h
    · simp at h; subst h; exact ⟨rfl, hg⟩
    · simp at h
  · simp at h

theorem wanted_sound {γ : Gh} {w : World} {T : Tm} {a : Act} (hT : RT γ w T a) {o : Oper} {g : Option (Nat × Bool)} (hg : compGuard ops o.guard = some g) {b : Bool} (h : guardOk T g = some b) :
    Region.wanted o (yielded ops a.tmps) = b := by
  unfold Region.wanted
  cases hog : o.guard with
  | none =>
    rw [hog] at hg
    simp [compGuard] at hg
    subst hg
    simp [guardOk] at h
    simpa using h
  | some p =>
    obtain ⟨j, want⟩ := p
    rw [hog] at hg
    simp only [compGuard] at hg
    split at hg
    · rename_i oj hoj
      split at hg
      · rename_i d hd
        simp at hg
        subst hg
        simp only [guardOk] at h
        split at h
        · rename_i x hx
          simp at h
          have hr := hT d
          rw [hx] at hr
          generalize hv : a.tmps.getD d undef = v at hr
          cases hr with
          | d hr =>
            cases hr
            have hv' : a.tmps[d]? = some (.bool x) := by
              rw [Array.getD_eq_getD_getElem?] at hv
              cases hq : a.tmps[d]? with
              | none => rw [hq] at hv; simp [undef] at hv
              | some u => rw [hq] at hv; simp at hv; rw [hv]
            have hy : yielded ops a.tmps j = some x := by
              unfold yielded
              simp [hoj, hd, hv']
            simp only [hy]
            subst h
            cases x <;> cases want <;> rfl
        · rename_i hx
          simp at h
          subst h
          have hr := hT d
          rw [hx] at hr
          generalize hv : a.tmps.getD d undef = v at hr
          cases hr
          have hy : yielded ops a.tmps j = none := by
            unfold yielded
            simp only [hoj, hd, Option.bind_some]
            rw [Array.getD_eq_getD_getElem?] at hv
            cases hq : a.tmps[d]? with
            | none => rfl
            | some u => rw [hq] at hv; simp at hv; rw [hv]; rfl
          simp only [hy]
          cases want <;> rfl
        · simp at h
      · simp at hg
    · simp at hg

theorem op1_sound {γ : Gh} {w : World} {T : Tm} {H : Heap} {a : Act} {i : Nat} {og : Oper} {o : AOper} (hi : ops[i]? = some og) (hc : compOper P ops nt og = some o) (hS : RS γ w nt T H a) {t : Tch} {v : AV} {H' : Heap} (h : Op1 P o t T H v H')
    {K : Act → World → Prop} {Q : Exit → Act → World → Prop} (hK : ∀ γ' a' w', RS γ' w' nt (setT T o.dst v) H' a' → Stp γ w γ' w' → K a' w') : wpOp P ops Q i K a w := by
  obtain ⟨hd, hg⟩ := compOper_dst hc
  unfold wpOp
  rw [hi]
  simp only
  rcases h with ⟨hgd, rfl, rfl, _⟩ | ⟨hgd, h⟩
  · rw [if_neg (by rw [wanted_sound hS.t hg hgd]; simp)]
    refine hK γ _ w ?_ (.refl _ _)
    rw [← hd]
    have hdst : dstOk nt o.dst = true := by
      unfold compOper at hc
      split at hc
      · split at hc
        · rename_i hh; simp at hc; subst hc; exact hh
        · simp at hc
      · simp at hc
    exact hS.set (.refl _ _) .und hS.h hdst
  · rw [if_pos (wanted_sound hS.t hg hgd)]
    refine .inl (step_sound hc hS h ?_)
    intro v' w' γ' hS' hs
    exact hK γ' _ w' hS' hs

theorem compOpers_get : ∀ {l : List Oper} {al : List AOper}, compOpers P ops nt l = some al → al.length = l.length ∧ ∀ (i : Nat) (og : Oper), l[i]? = some og → ∃ o, al[i]? = some o ∧ compOper P ops nt og = some o
  | [], al, h => by simp [compOpers] at h; subst h; simp
  | o :: r, al, h => by
    simp only [compOpers] at h
    split at h
    · rename_i ao hao
      split at h
      · rename_i l hl
        simp at h
        subst h
        have ih := compOpers_get hl
        refine ⟨by simp [ih.1], ?_⟩
        intro i og hi
        cases i with
        | zero => simp at hi; subst hi; exact ⟨ao, rfl, hao⟩
        | succ i => simp at hi ⊢; exact ih.2 i og hi
      · simp at h
    · simp at h

theorem op_at (hc : compOpers P ops nt ops.toList = some aops) {i : Nat} {o : AOper} (h : aops[i]? = some o) : ∃ og, ops[i]? = some og ∧ compOper P ops nt og = some o := by
  obtain ⟨hl, hg⟩ := compOpers_get hc
  have hlt : i < ops.size := by
    have := (List.getElem?_eq_some_iff.1 h).1
    simp at hl
    omega
  obtain ⟨o', h1, h2⟩ := hg i ops[i] (by simp [hlt])
  rw [h] at h1
  injection h1 with h1
  subst h1
  exact ⟨ops[i], by simp [hlt], h2⟩

theorem runI_wpOps (hc : compOpers P ops nt ops.toList = some aops) {Q : Exit → Act → World → Prop} : ∀ {L : List Nat} {γ : Gh} {w : World} {T : Tm} {H : Heap} {a : Act} {res : Tm × Heap}, RunI P aops τ L T H res → RS γ w nt T H a →
    (∀ γ' a' w', RS γ' w' nt res.1 res.2 a' → Stp γ w γ' w' → Q .normal a' w') → wpOps P ops Q L a w
  | _, γ, w, T, H, a, _, .nil, hS, hQ => by
    simp only [wpOps]
    exact hQ γ a w hS (.refl _ _)
  | _, γ, w, T, H, a, _, .cons (i := i) ho h1 h, hS, hQ => by
    obtain ⟨og, hog, hco⟩ := op_at hc ho
    rw [wpOps_cons]
    refine op1_sound hog hco hS h1 ?_
    intro γ' a' w' hS' hs
    exact runI_wpOps hc h hS' fun γ'' a'' w'' hS'' hs' => hQ γ'' a'' w'' hS'' (hs.trans hs')

/-! from the evaluation's run to the run by places -/

theorem RunR.pre : ∀ {l : List AOper} {T : Tm} {H : Heap} {tl : List Tch} {res : Tm × Heap × List Tch}, RunR P l T H tl res → ∃ ext, res.2.2 = tl ++ ext
  | _, _, _, tl, _, .nil => ⟨[], by simp⟩
  | _, _, _, tl, _, .skip hg h => by obtain ⟨ext, he⟩ := h.pre; exact ⟨.none :: ext, by rw [he]; simp⟩
  | _, _, _, tl, _, .step (t := t) hg hs h => by obtain ⟨ext, he⟩ := h.pre; exact ⟨t :: ext, by rw [he]; simp⟩

theorem RunR.toI : ∀ {l : List AOper} {k : Nat} {T : Tm} {H : Heap} {tl : List Tch} {res : Tm × Heap × List Tch}, RunR P l T H tl res → aops.drop k = l → tl.length = k →
    RunI P aops (fun i => res.2.2.getD i .glob) (List.range' k l.length) T H (res.1, res.2.1)
  | _, k, _, _, tl, _, .nil, _, _ => .nil
  | _, k, T, H, tl, res, .skip (o := o) (r := r) hg h, hd, hl => by
    obtain ⟨ext, he⟩ := h.pre
    have ho : aops[k]? = some o := by
      have := congrArg (·[0]?) hd
      simpa using this
    have hr : aops.drop (k + 1) = r := by
      have := congrArg (List.drop 1) hd
      simpa [List.drop_drop, Nat.add_comm] using this
    have ih := h.toI (k := k + 1) hr (by simp [hl])
    simp only [List.length_cons, List.range'_succ]
    refine .cons ho (.inl ⟨hg, rfl, rfl, ?_⟩) ih
    show res.2.2.getD k .glob = .none
    rw [he, ← hl]
    simp
  | _, k, T, H, tl, res, .step (o := o) (r := r) (v := v) (H' := H') (t := t) hg hs h, hd, hl => by
    obtain ⟨ext, he⟩ := h.pre
    have ho : aops[k]? = some o := by
      have := congrArg (·[0]?) hd
      simpa using this
    have hr : aops.drop (k + 1) = r := by
      have := congrArg (List.drop 1) hd
      simpa [List.drop_drop, Nat.add_comm] using this
    have ih := h.toI (k := k + 1) hr (by simp [hl])
    have ht : res.2.2.getD k .glob = t := by
      rw [he, ← hl]
      simp
    simp only [List.length_cons, List.range'_succ]
    refine .cons ho (.inr ⟨hg, ?_⟩) ih
    show StepR P o T H v H' (res.2.2.getD k .glob)
    rw [ht]
    exact hs

/-! what comes ahead of what -/

def Good (X : Nat → Prop) (acc : List Nat) : Prop := ∀ k i, k < acc.length → X k → (acc.getD k 0).testBit i = true → X i

theorem mask_good {X : Nat → Prop} {acc : List Nat} (hg : Good X acc) : ∀ {es : List Edge}, (∀ e ∈ es, Region.binds .any e = true → X e.on) → ∀ i, (mask acc es).testBit i = true → X i
  | [], _, i, h => by simp [mask] at h
  | e :: r, he, i, h => by
    simp only [mask] at h
    split at h
    · rename_i hb
      rw [Nat.testBit_or, Nat.testBit_or, Nat.testBit_two_pow] at h
      simp only [Bool.or_eq_true, decide_eq_true_eq] at h
      rcases h with h | h | h
      · rw [← h]; exact he e (by simp) hb
      · by_cases hlt : e.on < acc.length
        · exact hg e.on i hlt (he e (by simp) hb) h
        · rw [List.getD_eq_getElem?_getD, List.getElem?_eq_none (by omega)] at h
          simp at h
      · exact mask_good hg (fun e' he' => he e' (by simp [he'])) i h
    · exact mask_good hg (fun e' he' => he e' (by simp [he'])) i h

theorem masks_good {X : Nat → Prop} : ∀ {l : List Oper} {acc : List Nat}, Good X acc → (∀ (k : Nat) (o : Oper), l[k]? = some o → X (acc.length + k) → ∀ e ∈ o.after, Region.binds .any e = true → X e.on) → Good X (masks l acc)
  | [], acc, hg, _ => hg
  | o :: r, acc, hg, h => by
    simp only [masks]
    refine masks_good ?_ ?_
    · intro k i hk hX hb
      simp at hk
      by_cases hlt : k < acc.length
      · rw [List.getD_eq_getElem?_getD, List.getElem?_append_left hlt, ← List.getD_eq_getElem?_getD] at hb
        exact hg k i hlt hX hb
      · have hke : k = acc.length := by omega
        subst hke
        have hval : (acc ++ [mask acc o.after.toList]).getD acc.length 0 = mask acc o.after.toList := by simp
        rw [hval] at hb
        exact mask_good hg (fun e he hbd => h 0 o (by simp) (by simpa using hX) e (by simpa using he) hbd) i hb
    · intro k o' hk hX e he hb
      simp at hX
      exact h (k + 1) o' (by simpa using hk) (by rwa [show acc.length + (k + 1) = acc.length + 1 + k by omega]) e he hb

theorem edgesOk_spec : ∀ {l : List Oper} {k : Nat}, edgesOk k l = true → ∀ (i : Nat) (o : Oper), l[i]? = some o → ∀ e ∈ o.after, Region.binds .any e = true → e.on < k + i
  | [], k, _, i, o, h, _, _, _ => by simp at h
  | o0 :: r, k, h, i, o, hi, e, he, hb => by
    simp only [edgesOk, Bool.and_eq_true] at h
    cases i with
    | zero =>
      simp at hi
      subst hi
      have := Array.all_eq_true_iff_forall_mem.1 h.1 e he
      simp [hb] at this
      omega
    | succ i =>
      simp at hi
      have := edgesOk_spec h.2 i o hi e he hb
      omega

theorem openPairs_spec {b : List Nat} : ∀ {ps l : List (Nat × Nat)}, openPairs aops b ps = some l → ∀ i j, (i, j) ∈ ps → ∃ oi oj, aops[i]? = some oi ∧ aops[j]? = some oj ∧
    ((b.getD j 0).testBit i = true ∨ (apartA oi oj = true ∧ ((heapyA oi.op && heapyA oj.op) = true → (i, j) ∈ l)))
  | [], l, _, i, j, hm => by simp at hm
  | (i0, j0) :: r, l, h, i, j, hm => by
    simp only [openPairs] at h
    split at h
    · rename_i oi oj l' hoi hoj hl
      have ih := openPairs_spec hl
      have up : ∀ {l2 : List (Nat × Nat)}, (∀ p, p ∈ l' → p ∈ l2) → (i, j) ∈ r → ∃ oi oj, aops[i]? = some oi ∧ aops[j]? = some oj ∧ ((b.getD j 0).testBit i = true ∨ (apartA oi oj = true ∧ ((heapyA oi.op && heapyA oj.op) = true → (i, j) ∈ l2))) := by
        intro l2 hsub hr
        obtain ⟨a, c, h1, h2, h3⟩ := ih i j hr
        exact ⟨a, c, h1, h2, h3.imp id fun ⟨h4, h5⟩ => ⟨h4, fun h6 => hsub _ (h5 h6)⟩⟩
      split at h
      · rename_i hbit
        simp at h
        subst h
        rcases List.mem_cons.1 hm with he | hr
        · injection he with e1 e2
          subst e1; subst e2
          exact ⟨oi, oj, hoi, hoj, .inl hbit⟩
        · exact up (fun _ h => h) hr
      · split at h
        · rename_i hap
          split at h
          · simp at h
            subst h
            rcases List.mem_cons.1 hm with he | hr
            · injection he with e1 e2
              subst e1; subst e2
              exact ⟨oi, oj, hoi, hoj, .inr ⟨hap, fun _ => by simp⟩⟩
            · exact up (fun p hp => by simp [hp]) hr
          · rename_i hhp
            simp at h
            subst h
            rcases List.mem_cons.1 hm with he | hr
            · injection he with e1 e2
              subst e1; subst e2
              exact ⟨oi, oj, hoi, hoj, .inr ⟨hap, fun h6 => absurd h6 hhp⟩⟩
            · exact up (fun _ h => h) hr
        · simp at h
    · simp at h

theorem mem_pairsUpto {n i j : Nat} (h1 : i < j) (h2 : j < n) : (i, j) ∈ pairsUpto n := by
  simp only [pairsUpto, List.mem_flatMap, List.mem_range, List.mem_map]
  exact ⟨j, h2, i, h1, rfl⟩

theorem pairsOk_spec {n : Nat} {tl : List Tch} : ∀ {ps : List (Nat × Nat)}, pairsOk n tl ps = true → ∀ i j, (i, j) ∈ ps → indep n (tl.getD i .glob) (tl.getD j .glob) = true
  | [], _, i, j, hm => by simp at hm
  | (i0, j0) :: r, h, i, j, hm => by
    simp only [pairsOk, Bool.and_eq_true] at h
    rcases List.mem_cons.1 hm with he | hr
    · injection he with e1 e2
      subst e1; subst e2
      exact h.1
    · exact pairsOk_spec h.2 i j hr

theorem act_quiet {op : AOp} (hq : heapyA op = false) {T : Tm} {H : Heap} {v : AV} {e : Eff} {t : Tch} (h : act op T H = some (v, e, t)) : t = .none := by
  cases op <;> simp [heapyA] at hq
  case mv x => simp [act] at h; exact h.2.2.symm
  case mkfn f a b => simp [act] at h; exact h.2.2.symm
  case bad => simp [act] at h
  case len s x =>
    cases s <;> simp only [act] at h <;> generalize ev T x = p at h <;> cases p <;> first
      | (simp at h; done)
      | (simp at h; exact h.2.2.symm)
      | (rename_i d; cases d <;> first | (simp at h; done) | (simp at h; exact h.2.2.symm))
  case isnil ne x =>
    simp only [act] at h
    generalize ev T x = p at h
    cases p <;> first
      | (simp at h; done)
      | (simp at h; exact h.2.2.symm)
      | (rename_i d; cases d <;> first | (simp at h; done) | (rename_i es; cases es <;> first | (simp at h; done) | (simp at h; exact h.2.2.symm)))
      | (rename_i n; cases n <;> first | (simp at h; done) | (simp at h; exact h.2.2.symm))
  all_goals
    simp only [act] at h
    (repeat' split at h) <;> simp at h <;> exact h.2.2.symm

theorem RunI.quiet : ∀ {L : List Nat} {T : Tm} {H : Heap} {res : Tm × Heap}, RunI P aops τ L T H res → ∀ i ∈ L, ∀ o, aops[i]? = some o → heapyA o.op = false → τ i = .none
  | _, _, _, _, .nil, i, hi, _, _, _ => by simp at hi
  | _, T, H, _, .cons (i := i0) (o := o0) ho h1 h, i, hi, o, hoi, hq => by
    rcases List.mem_cons.1 hi with rfl | hi
    · rw [ho] at hoi
      injection hoi with hoi
      subst hoi
      rcases h1 with ⟨_, _, _, ht⟩ | ⟨_, hs⟩
      · exact ht
      · rcases hs with ⟨g, args, f, as, hop, _⟩ | ⟨hnc, e, ha, _⟩ | ⟨k, c, hn, _⟩
        · rw [hop] at hq; simp [heapyA] at hq
        · exact act_quiet hq ha
        · exfalso
          generalize o0.op = op at hq hn
          cases op <;> simp [heapyA] at hq <;> simp [newAt] at hn
    · exact h.quiet i hi o hoi hq

/-! any order -/

theorem runI_wpAny (hc : compOpers P ops nt ops.toList = some aops) (hed : edgesOk 0 ops.toList = true) {n0 : Nat} (hfree : ∀ i j, i < j → j < ops.size → ((masks ops.toList []).getD j 0).testBit i = false → Free aops τ n0 i j) {Q : Exit → Act → World → Prop} :
    ∀ (fuel : Nat) {L : List Nat} {listed : Array Bool} {γ : Gh} {w : World} {T : Tm} {H : Heap} {a : Act} {res : Tm × Heap}, RunI P aops τ L T H res → L.Pairwise (· < ·) → (∀ i, i ∈ L ↔ i < ops.size ∧ listed.getD i false = false) → listed.size = ops.size → L.length ≤ fuel →
      (∀ k o, ops[k]? = some o → listed.getD k false = true → ∀ e ∈ o.after, Region.binds .any e = true → listed.getD e.on false = true) → n0 ≤ H.length → RS γ w nt T H a →
      (∀ γ' a' w', RS γ' w' nt res.1 res.2 a' → Stp γ w γ' w' → Q .normal a' w') → wpAny P .any ops Q fuel listed a w := by
  have sized : ∀ {listed : Array Bool} {i : Nat}, i < listed.size → listed.getD i true = listed.getD i false := by
    intro listed i h; simp [h]
  have hready : ∀ {listed : Array Bool} {L : List Nat}, (∀ i, i ∈ L ↔ i < ops.size ∧ listed.getD i false = false) → listed.size = ops.size → L.Pairwise (· < ·) → Region.ready .any ops listed = [] → L = [] := by
    intro listed L hL hsz hp hr
    cases L with
    | nil => rfl
    | cons m r =>
      exfalso
      have hm := (hL m).1 (by simp)
      have : m ∈ Region.ready .any ops listed := by
        rw [mem_ready]
        refine ⟨by rw [sized (by omega)]; exact hm.2, ops[m], by simp [hm.1], ?_⟩
        intro e he hb
        have hlt := edgesOk_spec hed m ops[m] (by simp [hm.1]) e he hb
        cases hq : listed.getD e.on false with
        | true => rfl
        | false =>
          have hin := (hL e.on).2 ⟨by omega, hq⟩
          rcases List.mem_cons.1 hin with h1 | h1
          · omega
          · have := (List.pairwise_cons.1 hp).1 e.on h1
            omega
      rw [hr] at this
      simp at this
  intro fuel
  induction fuel with
  | zero =>
    intro L listed γ w T H a res h hp hL hsz hfu hcl hn hS hQ
    have hL0 : L = [] := List.eq_nil_of_length_eq_zero (by omega)
    subst hL0
    cases h
    refine ⟨?_, hQ γ a w hS (.refl _ _)⟩
    cases hr : Region.ready .any ops listed with
    | nil => rfl
    | cons j r =>
      have hj : j ∈ Region.ready .any ops listed := by rw [hr]; simp
      rw [mem_ready] at hj
      obtain ⟨h0, o, ho, _⟩ := hj
      have hlt := (Array.getElem?_eq_some_iff.1 ho).1
      have := (hL j).2 ⟨hlt, by rw [← sized (by omega)]; exact h0⟩
      simp at this
  | succ fuel ih =>
    intro L listed γ w T H a res h hp hL hsz hfu hcl hn hS hQ
    refine ⟨?_, ?_⟩
    · intro hr
      have hL0 := hready hL hsz hp hr
      subst hL0
      cases h
      exact hQ γ a w hS (.refl _ _)
    · intro j hj
      rw [mem_ready] at hj
      obtain ⟨h0, oj, hoj, hed'⟩ := hj
      have hlt := (Array.getElem?_eq_some_iff.1 hoj).1
      have hjL : j ∈ L := (hL j).2 ⟨hlt, by rw [← sized (by omega)]; exact h0⟩
      obtain ⟨pre, post, rfl⟩ := List.append_of_mem hjL
      rw [List.pairwise_append] at hp
      obtain ⟨hp1, hp2, hp3⟩ := hp
      have hpre : ∀ i ∈ pre, Free aops τ n0 i j := by
        intro i hi
        have hij := hp3 i hi j (by simp)
        refine hfree i j hij hlt ?_
        cases hbit : ((masks ops.toList []).getD j 0).testBit i with
        | false => rfl
        | true =>
          exfalso
          have hi2 := (hL i).1 (by simp [hi])
          have hgood : Good (fun k => listed.getD k false = true ∨ k = j) (masks ops.toList []) := by
            refine masks_good (fun k i hk => by simp at hk) ?_
            intro k o hk hX e he hb
            simp at hX
            have hk' : ops[k]? = some o := by simpa using hk
            rcases hX with hX | rfl
            · refine .inl (hcl k o hk' ?_ e he hb)
              simpa using hX
            · rw [hoj] at hk'
              injection hk' with hk'
              subst hk'
              exact .inl (hed' e he hb)
          have hjl : j < (masks ops.toList []).length := by
            cases hq : decide (j < (masks ops.toList []).length) with
            | true => simpa using hq
            | false =>
              simp at hq
              rw [List.getD_eq_getElem?_getD, List.getElem?_eq_none hq] at hbit
              simp at hbit
          rcases hgood j i hjl (.inr rfl) hbit with h1 | h1
          · rw [hi2.2] at h1; simp at h1
          · omega
      obtain ⟨res', e1, e2, hrun⟩ := bubble hpre hn h
      cases hrun with
      | @cons _ ao _ _ _ v H1 _ hao h1 hrest =>
        obtain ⟨og, hog, hco⟩ := op_at hc hao
        refine op1_sound hog hco hS h1 ?_
        intro γ' a' w' hS' hs
        refine ih hrest ?_ ?_ (by simp [hsz]) (by simp at hfu ⊢; omega) ?_ (Nat.le_trans hn h1.len) hS' ?_
        · rw [List.pairwise_append]
          exact ⟨hp1, (List.pairwise_cons.1 hp2).2, fun x hx y hy => hp3 x hx y (by simp [hy])⟩
        · intro i
          have hLi := hL i
          by_cases hij : i = j
          · subst hij
            have : ¬ (i ∈ pre ++ post) := by
              intro hm
              rcases List.mem_append.1 hm with hm | hm
              · have := hp3 i hm i (by simp); omega
              · have := (List.pairwise_cons.1 hp2).1 i hm; omega
            simp only [this, false_iff]
            simp [hsz, hlt]
          · have e3 : (listed.setIfInBounds j true).getD i false = listed.getD i false := getD_set_ne false (Ne.symm hij)
            rw [e3, ← hLi]
            simp [hij]
        · intro k o hk hX e he hb
          by_cases hkj : k = j
          · subst hkj
            rw [hoj] at hk
            injection hk with hk
            subst hk
            exact getD_set_true (hed' e he hb)
          · rw [getD_set_ne false (Ne.symm hkj)] at hX
            exact getD_set_true (hcl k o hk hX e he hb)
        · intro γ'' a'' w'' hS'' hs'
          refine hQ γ'' a'' w'' ?_ (hs.trans hs')
          have := hS''.congr (fun i => (e1 i).symm)
          rw [← e2] at this
          exact this

/-- A region. -/
theorem region_sound {id : Nat} {draw : Bool} {ps : List (Nat × Nat)} (hc : compOpers P ops nt ops.toList = some aops) (hp : compPairs P ops aops draw = some ps) {γ : Gh} {w : World} {T : Tm} {H : Heap} {a : Act} {res : Tm × Heap × List Tch} (h : RunR P aops T H [] res)
    (hok : pairsOk H.length res.2.2 ps = true) (hS : RS γ w nt T H a) {Q : Exit → Act → World → Prop} (hQ : ∀ γ' a' w', RS γ' w' nt res.1 res.2.1 a' → Stp γ w γ' w' → Q .normal a' w') : (Code.region id ops draw).wp P Q a w := by
  have hI := RunR.toI h (k := 0) (rfl : aops.drop 0 = aops) rfl
  have hlen : aops.length = ops.size := by simpa using (compOpers_get hc).1
  cases draw with
  | false =>
    refine wp_region ?_
    have : List.range ops.size = List.range' 0 aops.length := by rw [hlen, List.range_eq_range']
    rw [this]
    exact runI_wpOps hc hI hS hQ
  | true =>
    simp only [compPairs, if_true] at hp
    split at hp
    · rename_i hcond
      simp only [Bool.and_eq_true] at hcond
      refine wp_region_any hcond.1 ?_
      have hS' : RS γ { w with drawn := w.drawn + 1 } nt T H a := by
        have hs : Stp γ w γ { w with drawn := w.drawn + 1 } := ⟨rfl, rfl, rfl, Nat.le_refl _, fun _ _ h => ⟨h, rfl⟩, fun _ _ h => .inl h, fun _ => .refl _, fun _ _ _ => rfl, fun o _ h => .inl ⟨o, h⟩⟩
        exact ⟨hS.t.mono hs, ⟨fun o b hb => (hS.h.ob o b hb).keep hs (fun _ _ => rfl) (fun _ _ _ h => h), hS.h.out, hS.h.inj, hS.h.fixb⟩, hS.n, hS.d⟩
      have hst : Stp γ w γ { w with drawn := w.drawn + 1 } := ⟨rfl, rfl, rfl, Nat.le_refl _, fun _ _ h => ⟨h, rfl⟩, fun _ _ h => .inl h, fun _ => .refl _, fun _ _ _ => rfl, fun o _ h => .inl ⟨o, h⟩⟩
      refine runI_wpAny hc hcond.2 (n0 := H.length) ?_ ops.size hI ?_ ?_ (by simp) (by simp [hlen]) ?_ (Nat.le_refl _) hS' (fun γ' a' w' h1 h2 => hQ γ' a' w' h1 (hst.trans h2))
      · intro i j hij hj hbit
        obtain ⟨oi, oj, hoi, hoj, hor⟩ := openPairs_spec hp i j (mem_pairsUpto hij hj)
        rcases hor with hb | ⟨hap, hin⟩
        · rw [hbit] at hb; simp at hb
        · refine ⟨oi, oj, hoi, hoj, hap, ?_⟩
          by_cases hh : (heapyA oi.op && heapyA oj.op) = true
          · exact pairsOk_spec hok i j (hin hh)
          · have mem : ∀ k, k < ops.size → k ∈ List.range' 0 aops.length := fun k hk => by simp [hlen, hk]
            cases h1 : heapyA oi.op with
            | false =>
              have := hI.quiet i (mem i (by omega)) oi hoi h1
              simp only [this, indep]
            | true =>
              cases h2 : heapyA oj.op with
              | false =>
                have := hI.quiet j (mem j hj) oj hoj h2
                simp only [this]
                cases (res.2.2.getD i .glob) <;> rfl
              | true => rw [h1, h2] at hh; exact absurd rfl hh
      · exact List.pairwise_lt_range' ..
      · have rep : ∀ k, (Array.replicate ops.size false).getD k false = false := fun k => by
          by_cases hk : k < ops.size <;> simp [hk]
        intro i
        rw [rep i]
        simp [hlen]
      · have rep : ∀ k, (Array.replicate ops.size false).getD k false = false := fun k => by
          by_cases hk : k < ops.size <;> simp [hk]
        intro k o hk hX
        rw [rep k] at hX
        simp at hX
    · simp at hp

end
end Pv
