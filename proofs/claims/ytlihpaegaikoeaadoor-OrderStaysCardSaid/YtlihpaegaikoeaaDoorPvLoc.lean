/- The pure evaluator: of what an operation's outcome hangs: on the slots that it names, on the object that it touches. -/
import Derived.Test.YtlihpaegaikoeaaDoorPvStep
set_option linter.all false
namespace Pv
open Go

section
variable {P : Program} {T T' : Tm} {H : Heap}

theorem ev_loc {x : Opn} (h : ∀ t ∈ opT x, lk T t = lk T' t) : ev T x = ev T' x := by
  cases x <;> simp [ev, opT] at h ⊢
  exact h
theorem ev_locs {l : List Opn} (h : ∀ t ∈ l.flatMap opT, lk T t = lk T' t) : l.map (ev T) = l.map (ev T') :=
  List.map_congr_left fun x hx => ev_loc fun t ht => h t (List.mem_flatMap.2 ⟨x, hx, ht⟩)
theorem bnd_loc {x : Option Opn} (h : ∀ t ∈ opTo x, lk T t = lk T' t) (m d : Nat) : bnd T x m d = bnd T' x m d := by
  cases x with
  | none => rfl
  | some y => simp only [bnd, ev_loc (T := T) (T' := T') (x := y) h]

theorem act_loc {op : AOp} (h : ∀ t ∈ tmpsA op, lk T t = lk T' t) : act op T H = act op T' H := by
  have two : ∀ {x y : Opn}, (∀ t ∈ opT x ++ opT y, lk T t = lk T' t) → ev T x = ev T' x ∧ ev T y = ev T' y := fun h =>
    ⟨ev_loc fun t ht => h t (by simp [ht]), ev_loc fun t ht => h t (by simp [ht])⟩
  cases op with
  | mv x => simp only [act, ev_loc h]
  | pick c a b =>
    have h1 : ev T c = ev T' c := ev_loc fun t ht => h t (by simp [tmpsA, ht])
    have h2 : ev T a = ev T' a := ev_loc fun t ht => h t (by simp [tmpsA, ht])
    have h3 : ev T b = ev T' b := ev_loc fun t ht => h t (by simp [tmpsA, ht])
    simp only [act, h1, h2, h3]
  | bin op x y => obtain ⟨h1, h2⟩ := two h; simp only [act, h1, h2]
  | eq ne t x y => obtain ⟨h1, h2⟩ := two h; simp only [act, h1, h2]
  | un op x => simp only [act, ev_loc (x := x) h]
  | conv k x => simp only [act, ev_loc (x := x) h]
  | convs x => simp only [act, ev_loc (x := x) h]
  | box x => simp only [act, ev_loc (x := x) h]
  | build z ps =>
    have : (ps.map fun p => (p.1, p.2.1, ev T p.2.2)) = (ps.map fun p => (p.1, p.2.1, ev T' p.2.2)) :=
      List.map_congr_left fun p hp => by rw [ev_loc (T := T) (T' := T') fun t ht => h t (List.mem_flatMap.2 ⟨p, hp, ht⟩)]
    simp only [act, this]
  | bsl z ps => simp only [act, ev_locs (l := ps) h]
  | load c n a => simp only [act, ev_loc (x := a) h]
  | store n a x => obtain ⟨h1, h2⟩ := two h; simp only [act, h1, h2]
  | nilck x => simp only [act, ev_loc (x := x) h]
  | slice z x lo hi mx =>
    have h1 : ev T x = ev T' x := ev_loc fun t ht => h t (by simp [tmpsA, ht])
    have h2 : ∀ m d, bnd T lo m d = bnd T' lo m d := bnd_loc fun t ht => h t (by simp [tmpsA, ht])
    have h3 : ∀ m d, bnd T hi m d = bnd T' hi m d := bnd_loc fun t ht => h t (by simp [tmpsA, ht])
    have : sliceA T (ev T' x) lo hi mx = sliceA T' (ev T' x) lo hi mx := by
      cases mx with
      | none => simp only [sliceA, h2, h3]
      | some m =>
        have h4 : ev T m = ev T' m := ev_loc fun t ht => h t (by simp [tmpsA, opTo, ht])
        cases hi with
        | none =>
          simp only [sliceA, h4]
          generalize intOfA (ev T' m) = q
          cases q with
          | none => cases lo <;> rfl
          | some n =>
            by_cases hn : n = 0
            · subst hn; cases lo <;> rfl
            · have e : ∀ (U : Tm), (match some n, lo, (none : Option Opn) with
                  | some 0, none, some h => match intOfA (ev U h), ev T' x with
                    | some 0, .d (.sl _) => some AV.z0
                    | some 0, .nilS => some .nilS
                    | some 0, .z0 => some .z0
                    | some 0, .view _ _ _ _ _ => some .z0
                    | _, _ => none
                  | _, _, _ => none) = none := by intro U; split <;> simp_all
              exact (e T).trans (e T').symm
        | some y =>
          have h5 : ev T y = ev T' y := ev_loc fun t ht => h t (by simp [tmpsA, opTo, ht])
          simp only [sliceA, h4]
          cases lo with
          | some l => split <;> simp_all
          | none =>
            generalize intOfA (ev T' m) = q
            cases q with
            | none => rfl
            | some n =>
              by_cases hn : n = 0
              · subst hn; simp only [h5]
              · split <;> simp_all
    simp only [act, h1, this]
  | faddr off x => simp only [act, ev_loc (x := x) h]
  | field c off n x => simp only [act, ev_loc (x := x) h]
  | iaddrA len z x i => obtain ⟨h1, h2⟩ := two h; simp only [act, h1, h2]
  | iaddrS z x i => obtain ⟨h1, h2⟩ := two h; simp only [act, h1, h2]
  | idxA c len z x i => obtain ⟨h1, h2⟩ := two h; simp only [act, h1, h2]
  | idxS x i => obtain ⟨h1, h2⟩ := two h; simp only [act, h1, h2]
  | mkfn f a b =>
    have h1 := ev_locs (l := a) (T := T) (T' := T') fun t ht => h t (by simp only [tmpsA, List.mem_append]; exact .inl ht)
    have h2 := ev_locs (l := b) (T := T) (T' := T') fun t ht => h t (by simp only [tmpsA, List.mem_append]; exact .inr ht)
    simp only [act, h1, h2]
  | ext x i => simp only [act, ev_loc (x := x) h]
  | call g args => rfl
  | len s x => cases s <;> simp only [act, ev_loc (x := x) h]
  | app z x y => obtain ⟨h1, h2⟩ := two h; simp only [act, h1, h2]
  | mm mx args => simp only [act, ev_locs (l := args) h]
  | mksl z zero n c => obtain ⟨h1, h2⟩ := two h; simp only [act, h1, h2]
  | cpy z x y => obtain ⟨h1, h2⟩ := two h; simp only [act, h1, h2]
  | clr z x => simp only [act, ev_loc (x := x) h]
  | b2s x => simp only [act, ev_loc (x := x) h]
  | isnil ne x => simp only [act, ev_loc (x := x) h]
  | pnil ne x => simp only [act, ev_loc (x := x) h]
  | mkmap k => rfl
  | mget k z ok x i => obtain ⟨h1, h2⟩ := two h; simp only [act, h1, h2]
  | mset k x i y =>
    have h1 : ev T x = ev T' x := ev_loc fun t ht => h t (by simp [tmpsA, ht])
    have h2 : ev T i = ev T' i := ev_loc fun t ht => h t (by simp [tmpsA, ht])
    have h3 : ev T y = ev T' y := ev_loc fun t ht => h t (by simp [tmpsA, ht])
    simp only [act, h1, h2, h3]
  | bad => rfl

theorem newAt_loc {op : AOp} (h : ∀ t ∈ tmpsA op, lk T t = lk T' t) {k : Nat} : newAt op T k = newAt op T' k := by
  cases op with
  | box x => simp only [newAt, ev_loc (x := x) h]
  | bsl z ps => simp only [newAt, ev_locs (l := ps) h]
  | mksl z zero n c =>
    have h1 : ev T n = ev T' n := ev_loc fun t ht => h t (by simp [tmpsA, ht])
    have h2 : ev T c = ev T' c := ev_loc fun t ht => h t (by simp [tmpsA, ht])
    simp only [newAt, h1, h2]
  | app z x y =>
    have h1 : ev T x = ev T' x := ev_loc fun t ht => h t (by simp [tmpsA, ht])
    have h2 : ev T y = ev T' y := ev_loc fun t ht => h t (by simp [tmpsA, ht])
    simp only [newAt, h1, h2]
  | _ => rfl

theorem callee_loc {g : Opn} {args : List Opn} (h : ∀ t ∈ opT g ++ args.flatMap opT, lk T t = lk T' t) : callee T g args = callee T' g args := by
  have h1 : ev T g = ev T' g := ev_loc fun t ht => h t (by simp [ht])
  have h2 := ev_locs (l := args) (T := T) (T' := T') fun t ht => h t (List.mem_append.2 (.inr ht))
  simp only [callee, h1, h2]

/-- One operation, done or passed by. -/
def Op1 (P : Program) (o : AOper) (τ : Tch) (T : Tm) (H : Heap) (v : AV) (H' : Heap) : Prop :=
  (guardOk T o.guard = some false ∧ v = .und ∧ H' = H ∧ τ = .none) ∨ (guardOk T o.guard = some true ∧ StepR P o T H v H' τ)

theorem guard_loc {g : Option (Nat × Bool)} (h : ∀ t ∈ (match g with | some (t, _) => [t] | none => ([] : List Nat)), lk T t = lk T' t) : guardOk T g = guardOk T' g := by
  cases g with
  | none => rfl
  | some p =>
    obtain ⟨t, w⟩ := p
    simp only [guardOk, h t (by simp)]

theorem Op1.locT {o : AOper} {τ : Tch} {v : AV} {H' : Heap} (h : Op1 P o τ T H v H') (hl : ∀ t ∈ looksA o, lk T t = lk T' t) : Op1 P o τ T' H v H' := by
  have hg : guardOk T o.guard = guardOk T' o.guard := guard_loc fun t ht => hl t (by simp only [looksA, List.mem_append]; exact .inr ht)
  have ho : ∀ t ∈ tmpsA o.op, lk T t = lk T' t := fun t ht => hl t (by simp only [looksA, List.mem_append]; exact .inl ht)
  rcases h with ⟨h1, h2, h3, h4⟩ | ⟨h1, h2⟩
  · exact .inl ⟨by rw [← hg]; exact h1, h2, h3, h4⟩
  · refine .inr ⟨by rw [← hg]; exact h1, ?_⟩
    rcases h2 with ⟨g, args, f, as, hop, hcl, hr⟩ | ⟨hnc, e, ha, he⟩ | ⟨k, c, hn, hf, he, ht⟩
    · refine .inl ⟨g, args, f, as, hop, ?_, hr⟩
      rw [← hcl]
      exact (callee_loc (fun t ht => ho t (by rw [hop]; exact ht))).symm
    · exact .inr (.inl ⟨hnc, e, by rw [← ha]; exact (act_loc ho).symm, he⟩)
    · exact .inr (.inr ⟨k, c, by rw [← hn]; exact (newAt_loc ho).symm, hf, he, ht⟩)

/-! of the objects -/

/-- There is an object at this place. -/
def Full (H : Heap) (k : Nat) : Prop := ∃ ob, H[k]? = some ob ∧ ob ≠ .hole
theorem Full.lt {H : Heap} {k : Nat} (h : Full H k) : k < H.length := by
  obtain ⟨ob, h, _⟩ := h
  exact (List.getElem?_eq_some_iff.1 h).1

/-- How an operation's outcome hangs on the objects, by what it touches. -/
def ActLoc (op : AOp) (T : Tm) (H : Heap) (v : AV) (e : Eff) : Tch → Prop
  | .none => e = .none ∧ ∀ H2, act op T H2 = some (v, .none, .none)
  | .rd k => e = .none ∧ Full H k ∧ ∀ H2 : Heap, H2[k]? = H[k]? → act op T H2 = some (v, .none, .rd k)
  | .wr k => ∃ c, e = .set k c ∧ Full H k ∧ ∀ H2 : Heap, H2[k]? = H[k]? → act op T H2 = some (v, .set k c, .wr k)
  | .wrs k os => ∃ c, e = .set k c ∧ Full H k ∧ (∀ j ∈ os, Full H j) ∧ ∀ H2 : Heap, H2[k]? = H[k]? → (∀ j ∈ os, H2[j]? = H[j]?) → act op T H2 = some (v, .set k c, .wrs k os)
  | .new k => ∃ c, k = H.length ∧ e = .push c ∧ newAt op T k = some (v, c)
  | .glob => H.length ≤ (e.on H).length
  | .frz _ => False
  | .loc _ _ => False
  | .keep _ _ => False
  | .grow => False

theorem loadA_loc {x : AV} {c : Bool} {n : Nat} {y : AV} {t : Tch} (h : loadA H x c n = some (y, t)) :
    (t = .none ∧ ∀ H2, loadA H2 x c n = some (y, .none)) ∨ (∃ k, t = .rd k ∧ ∀ H2 : Heap, H2[k]? = H[k]? → loadA H2 x c n = some (y, .rd k)) := by
  cases x with
  | ptr o off =>
    refine .inr ⟨o, ?_, ?_⟩
    · simp only [loadA] at h
      split at h
      · split at h
        · simp at h; exact h.2.symm
        · simp at h
      · simp at h
    · intro H2 h2
      have ht : t = .rd o := by
        simp only [loadA] at h
        split at h
        · split at h
          · simp at h; exact h.2.symm
          · simp at h
        · simp at h
      subst ht
      simp only [loadA, h2] at h ⊢
      exact h
  | eptr cs =>
    refine .inl ?_
    have : ∀ H2, loadA H2 (.eptr cs) c n = loadA H (.eptr cs) c n := fun _ => rfl
    have ht : t = .none := by
      simp only [loadA] at h
      split at h
      · split at h
        · simp at h; exact h.2.symm
        · simp at h
      · split at h
        · simp at h; exact h.2.symm
        · simp at h
    subst ht
    exact ⟨rfl, fun H2 => by rw [this]; exact h⟩
  | vptr o g z idx off =>
    have ht : t = .rd o := by
      simp only [loadA] at h
      (repeat' split at h) <;> simp at h
      exact h.2.symm
    subst ht
    refine .inr ⟨o, rfl, ?_⟩
    intro H2 h2
    simp only [loadA, h2] at h ⊢
    exact h
  | _ => simp [loadA] at h

theorem storeA_loc {x v : AV} {k : Nat} {c : Ob} (h : storeA H x v = some (k, c)) : k < H.length ∧ ∀ H2 : Heap, H2[k]? = H[k]? → storeA H2 x v = some (k, c) := by
  have get : ∀ {o : Nat} {b : Ob}, H[o]? = some b → o < H.length := fun h => (List.getElem?_eq_some_iff.1 h).1
  cases x with
  | ptr o off =>
    have hk : k = o ∧ o < H.length := by
      simp only [storeA] at h
      split at h
      · rename_i hb
        split at h
        · simp at h; exact ⟨h.1.symm, get hb⟩
        · simp at h
      · simp at h
    obtain ⟨rfl, hlt⟩ := hk
    refine ⟨hlt, fun H2 h2 => ?_⟩
    simp only [storeA, h2] at h ⊢
    exact h
  | vptr o g z idx off =>
    have hk : k = o ∧ o < H.length := by
      simp only [storeA] at h
      split at h
      · rename_i hb
        refine ⟨?_, get hb⟩
        (repeat' split at h) <;> simp at h <;> exact h.1.symm
      · simp at h
    obtain ⟨rfl, hlt⟩ := hk
    refine ⟨hlt, fun H2 h2 => ?_⟩
    simp only [storeA, h2] at h ⊢
    exact h
  | _ => simp [storeA] at h

theorem loadA_full {x : AV} {c : Bool} {n : Nat} {y : AV} {k : Nat} (h : loadA H x c n = some (y, .rd k)) : Full H k := by
  cases x with
  | ptr o off =>
    simp only [loadA] at h
    split at h
    · rename_i hb
      split at h
      · simp at h; rw [← h.2]; exact ⟨_, hb, by simp⟩
      · simp at h
    · simp at h
  | vptr o g z idx off =>
    simp only [loadA] at h
    split at h
    · rename_i hb
      have : o = k := by (repeat' split at h) <;> simp at h; exact h.2
      subst this
      exact ⟨_, hb, by simp⟩
    · simp at h
  | eptr cs => simp only [loadA] at h; (repeat' split at h) <;> simp at h
  | _ => simp [loadA] at h
theorem storeA_full {x v : AV} {k : Nat} {c : Ob} (h : storeA H x v = some (k, c)) : Full H k := by
  cases x with
  | ptr o off =>
    simp only [storeA] at h
    split at h
    · rename_i hb
      split at h
      · simp at h; rw [← h.1]; exact ⟨_, hb, by simp⟩
      · simp at h
    · simp at h
  | vptr o g z idx off =>
    simp only [storeA] at h
    split at h
    · rename_i hb
      have : o = k := by (repeat' split at h) <;> simp at h <;> exact h.1
      subst this
      exact ⟨_, hb, by simp⟩
    · simp at h
  | _ => simp [storeA] at h

mutual
theorem toD_len : ∀ (x : AV) {H H' : Heap} {d : DV}, toD H x = some (d, H') → H'.length = H.length
  | .d _, H, H', d, h => by simp [toD] at h; obtain ⟨_, rfl⟩ := h; rfl
  | .nilS, H, H', d, h => by simp [toD] at h; obtain ⟨_, rfl⟩ := h; rfl
  | .z0, H, H', d, h => by simp [toD] at h; obtain ⟨_, rfl⟩ := h; rfl
  | .e0 _, H, H', d, h => by simp [toD] at h; obtain ⟨_, rfl⟩ := h; rfl
  | .view o g z off len, H, H', d, h => by
    simp only [toD] at h
    (repeat' split at h) <;> simp at h
    obtain ⟨_, rfl⟩ := h
    simp
  | .agg cs, H, H', d, h => by
    simp only [toD] at h
    split at h
    · rename_i ds H2 hds
      simp at h
      obtain ⟨_, rfl⟩ := h
      exact toDs_len cs hds
    · simp at h
  | .ptr _ _, _, _, _, h => by simp [toD] at h
  | .mp _, _, _, _, h => by simp [toD] at h
  | .eptr _, _, _, _, h => by simp [toD] at h
  | .vptr _ _ _ _ _, _, _, _, h => by simp [toD] at h
  | .fn _ _ _, _, _, _, h => by simp [toD] at h
  | .tup _, _, _, _, h => by simp [toD] at h
  | .one, _, _, _, h => by simp [toD] at h
  | .junk, _, _, _, h => by simp [toD] at h
  | .und, _, _, _, h => by simp [toD] at h
theorem toDs_len : ∀ (xs : List AV) {H H' : Heap} {ds : List DV}, toDs H xs = some (ds, H') → H'.length = H.length
  | [], H, H', ds, h => by simp [toDs] at h; obtain ⟨_, rfl⟩ := h; rfl
  | x :: r, H, H', ds, h => by
    simp only [toDs] at h
    split at h
    · rename_i y H1 h1
      split at h
      · rename_i ys H2 h2
        simp at h
        obtain ⟨_, rfl⟩ := h
        rw [toDs_len r h2, toD_len x h1]
      · simp at h
    · simp at h
end

theorem act_heap {op : AOp} {v : AV} {e : Eff} {t : Tch} (h : act op T H = some (v, e, t)) : ActLoc op T H v e t := by
  have quiet : (∀ H2, act op T H2 = act op T H) → (e = .none ∧ t = .none) → ActLoc op T H v e t := by
    rintro h1 ⟨rfl, rfl⟩
    exact ⟨rfl, fun H2 => by rw [h1 H2]; exact h⟩
  cases op with
  | load c n a =>
    simp only [act] at h
    split at h
    · rename_i y tc hl
      simp at h
      obtain ⟨rfl, rfl, rfl⟩ := h
      rcases loadA_loc hl with ⟨rfl, h2⟩ | ⟨k, rfl, h2⟩
      · exact ⟨rfl, fun H2 => by simp [act, h2 H2]⟩
      · exact ⟨rfl, loadA_full hl, fun H2 hk => by simp [act, h2 H2 hk]⟩
    · simp at h
  | store n a x =>
    simp only [act] at h
    split at h
    · rename_i hc
      split at h
      · rename_i k c hs
        simp at h
        obtain ⟨rfl, rfl, rfl⟩ := h
        obtain ⟨h1, h2⟩ := storeA_loc hs
        exact ⟨c, rfl, storeA_full hs, fun H2 hk => by simp [act, hc, h2 H2 hk]⟩
      · simp at h
    · simp at h
  | box x =>
    simp only [act] at h
    split at h
    · rename_i hs
      simp at h
      obtain ⟨rfl, rfl, rfl⟩ := h
      exact ⟨_, rfl, rfl, by simp [newAt, hs]⟩
    · simp at h
  | bsl z ps =>
    rcases act_bsl (T := T) (H := H) z ps with hact | ⟨_, hact⟩
    · rw [hact] at h
      cases hn : newAt (.bsl z ps) T H.length with
      | none => rw [hn] at h; simp at h
      | some p =>
        rw [hn] at h
        simp at h
        obtain ⟨rfl, rfl, rfl⟩ := h
        exact ⟨_, rfl, rfl, hn⟩
    · rw [hact] at h
      split at h
      · rename_i es H1 htd
        split at h
        · simp only [Option.some.injEq, Prod.mk.injEq] at h
          obtain ⟨rfl, rfl, rfl⟩ := h
          have := toDs_len _ htd
          show H.length ≤ (H1 ++ [_]).length
          rw [List.length_append]
          omega
        · simp at h
      · simp at h
  | mksl z zero n c =>
    simp only [act] at h
    split at h
    · rename_i m k hm hk
      split at h
      · rename_i hc
        simp at h
        obtain ⟨rfl, rfl, rfl⟩ := h
        exact ⟨_, rfl, rfl, by simp only [newAt, hm, hk]; rw [if_pos hc]⟩
      · simp at h
    · simp at h
  | app z x y =>
    simp only [act] at h
    split at h
    · rename_i ys hys
      split at h
      · rename_i hall
        split at h
        · rename_i hx
          split at h
          · rename_i hlim
            simp only [Option.some.injEq, Prod.mk.injEq] at h
            obtain ⟨rfl, rfl, rfl⟩ := h
            have other : appT H.length (ev T y) = .glob → ActLoc (.app z x y) T H (.view H.length ys.length z 0 ys.length) (.push (.arr ys true)) (appT H.length (ev T y)) := by
              intro ht; rw [ht]; simp [ActLoc, Eff.on]
            cases hy : ev T y with
            | d d =>
              cases d with
              | sl zs =>
                rw [hy] at hys
                simp only [elems, Option.some.injEq] at hys
                subst hys
                exact ⟨_, rfl, rfl, by simp only [newAt, hx, hy]; rw [if_pos ⟨hall, hlim⟩]⟩
              | _ => rw [hy] at other; exact other rfl
            | _ => rw [hy] at other; exact other rfl
          · simp at h
        · (repeat' split at h) <;> simp at h <;> obtain ⟨rfl, rfl, rfl⟩ := h <;> simp [ActLoc, Eff.on]
        · rename_i o g z' off len hx
          split at h
          · rename_i es wr hob
            split at h
            · rename_i hc
              simp only [Option.some.injEq, Prod.mk.injEq] at h
              obtain ⟨rfl, rfl, rfl⟩ := h
              refine ⟨_, rfl, ⟨_, hob, by simp⟩, ?_, ?_⟩
              · intro j hj
                cases hy : ev T y <;> rw [hy] at hj <;> simp [appW] at hj
                rw [hy] at hys
                simp only [elems] at hys
                split at hys
                · rename_i es2 wr2 hob2
                  subst hj
                  exact ⟨_, hob2, by simp⟩
                · simp at hys
              · intro H2 hk hj
                have he : elems H2 (ev T y) = some ys := by
                  rw [← hys]
                  generalize ev T y = q at hj
                  cases q with
                  | view o2 g2 z2 off2 len2 =>
                    simp only [elems]
                    rw [hj o2 (by simp [appW])]
                  | d q => cases q <;> rfl
                  | _ => rfl
                simp only [act, he, hall, hx, hk, hob, if_true]
                rw [if_pos hc]
            · simp at h
          · simp at h
        · simp at h
      · simp at h
    · simp at h
  | cpy z x y =>
    simp only [act] at h
    (repeat' split at h) <;> simp at h <;> obtain ⟨rfl, rfl, rfl⟩ := h <;> simp [ActLoc, Eff.on]
  | clr z x =>
    simp only [act] at h
    (repeat' split at h) <;> simp at h <;> obtain ⟨rfl, rfl, rfl⟩ := h <;> simp [ActLoc, Eff.on]
  | b2s x =>
    simp only [act] at h
    split at h
    · simp at h
    · rename_i hns
      split at h
      · rename_i ys hys
        split at h
        · rename_i l hl
          simp only [Option.some.injEq, Prod.mk.injEq] at h
          obtain ⟨rfl, rfl, rfl⟩ := h
          cases hy : ev T x with
          | view o2 g2 z2 off2 len2 =>
            rw [hy] at hys
            have hf : Full H o2 := by
              simp only [elems] at hys
              split at hys
              · rename_i hob
                exact ⟨_, hob, by simp⟩
              · simp at hys
            refine ⟨rfl, hf, fun H2 h2 => ?_⟩
            have he : elems H2 (.view o2 g2 z2 off2 len2) = some ys := by rw [← hys]; simp only [elems, h2]
            simp only [act, hy, he, hl, rdT]
          | d q =>
            rw [hy] at hys
            cases q with
            | s c => exact absurd hy (hns c)
            | _ =>
              refine ⟨rfl, fun H2 => ?_⟩
              have he := hys
              simp only [elems] at he
              simp only [act, hy, elems, he, hl, rdT]
          | _ =>
            rw [hy] at hys
            refine ⟨rfl, fun H2 => ?_⟩
            have he := hys
            simp only [elems] at he
            simp only [act, hy, elems, he, hl, rdT]
        · simp at h
      · simp at h
  | mkmap k =>
    simp [act] at h
    obtain ⟨rfl, rfl, rfl⟩ := h
    exact ⟨_, rfl, rfl, rfl⟩
  | mget k z ok x i =>
    simp only [act] at h
    split at h
    · rename_i oo k' n hp hq
      split at h
      · rename_i k'' kvs hob
        split at h
        · rename_i hkk
          simp only [Option.some.injEq, Prod.mk.injEq] at h
          obtain ⟨rfl, rfl, rfl⟩ := h
          exact ⟨rfl, ⟨_, hob, by simp⟩, fun H2 h2 => by simp only [act, hp, hq, h2, hob]; rw [if_pos hkk]⟩
        · simp at h
      · simp at h
    · simp at h
  | mset k x i y =>
    simp only [act] at h
    split at h
    · rename_i oo k' n yd hp hq hr
      split at h
      · rename_i k'' kvs hob
        split at h
        · rename_i hkk
          simp only [Option.some.injEq, Prod.mk.injEq] at h
          obtain ⟨rfl, rfl, rfl⟩ := h
          exact ⟨_, rfl, ⟨_, hob, by simp⟩, fun H2 h2 => by simp only [act, hp, hq, hr, h2, hob]; rw [if_pos hkk]⟩
        · simp at h
      · simp at h
    · simp at h
  | call g a => simp [act] at h
  | bad => simp [act] at h
  | len s x =>
    refine quiet (fun _ => by cases s <;> rfl) ?_
    cases s <;> simp only [act] at h <;> (repeat' split at h) <;> simp at h <;> exact ⟨h.2.1.symm, h.2.2.symm⟩
  | mv x => refine quiet (fun _ => rfl) ?_; simp [act] at h; exact ⟨h.2.1.symm, h.2.2.symm⟩
  | mkfn f a b => refine quiet (fun _ => rfl) ?_; simp [act] at h; exact ⟨h.2.1.symm, h.2.2.symm⟩
  | _ =>
    refine quiet (fun _ => rfl) ?_
    simp only [act] at h
    (repeat' split at h) <;> simp at h <;> exact ⟨h.2.1.symm, h.2.2.symm⟩

theorem toDs_isD0 : ∀ {as : List AV}, as.all isD0 = true → ∃ ds, ∀ H, toDs H as = some (ds, H)
  | [], _ => ⟨[], fun _ => rfl⟩
  | x :: r, h => by
    simp only [List.all_cons, Bool.and_eq_true] at h
    obtain ⟨ds, hd⟩ := toDs_isD0 h.2
    cases x <;> simp [isD0] at h
    · rename_i d; exact ⟨d :: ds, fun H => by simp [toDs, toD, hd]⟩
    · exact ⟨.sl [] :: ds, fun H => by simp [toDs, toD, hd]⟩
    · exact ⟨.sl [] :: ds, fun H => by simp [toDs, toD, hd]⟩
    · exact ⟨.sl [] :: ds, fun H => by simp [toDs, toD, hd]⟩
theorem toDs_isD : ∀ {as : List AV}, as.all isD = true → ∃ ds, ∀ H, toDs H as = some (ds, H)
  | [], _ => ⟨[], fun _ => rfl⟩
  | x :: r, h => by
    simp only [List.all_cons, Bool.and_eq_true] at h
    obtain ⟨ds, hd⟩ := toDs_isD h.2
    have h1 := h.1
    cases x <;> simp only [isD, isD0] at h1 <;> try (simp at h1; done)
    · rename_i d; exact ⟨d :: ds, fun H => by simp [toDs, toD, hd]⟩
    · exact ⟨.sl [] :: ds, fun H => by simp [toDs, toD, hd]⟩
    · exact ⟨.sl [] :: ds, fun H => by simp [toDs, toD, hd]⟩
    · exact ⟨.sl [] :: ds, fun H => by simp [toDs, toD, hd]⟩
    · rename_i cs
      obtain ⟨es, he⟩ := toDs_isD0 h1
      exact ⟨.agg es :: ds, fun H => by simp [toDs, toD, hd, he]⟩

theorem adopt_len {H2 : Heap} {x y : AV} {H' : Heap} (h : adopt H H2 x = some (y, H')) : H.length ≤ H'.length ∧ (H'.length = H.length → H' = H ∧ ∀ H3 : Heap, adopt H3 H2 x = some (y, H3)) := by
  cases x with
  | d d => simp [adopt] at h; obtain ⟨rfl, rfl⟩ := h; exact ⟨Nat.le_refl _, fun _ => ⟨rfl, fun _ => rfl⟩⟩
  | nilS => simp [adopt] at h; obtain ⟨rfl, rfl⟩ := h; exact ⟨Nat.le_refl _, fun _ => ⟨rfl, fun _ => rfl⟩⟩
  | z0 => simp [adopt] at h; obtain ⟨rfl, rfl⟩ := h; exact ⟨Nat.le_refl _, fun _ => ⟨rfl, fun _ => rfl⟩⟩
  | fn f a b =>
    cases a <;> cases b <;> simp [adopt] at h
    obtain ⟨rfl, rfl⟩ := h
    exact ⟨Nat.le_refl _, fun _ => ⟨rfl, fun _ => rfl⟩⟩
  | view o g z off len =>
    simp only [adopt] at h
    (repeat' split at h) <;> simp at h
    obtain ⟨rfl, rfl⟩ := h
    exact ⟨by simp, fun hl => by simp at hl⟩
  | _ => simp [adopt] at h

theorem adopts_len {H2 : Heap} : ∀ {xs ys : List AV} {H H' : Heap}, adopts H H2 xs = some (ys, H') → H.length ≤ H'.length ∧ (H'.length = H.length → H' = H ∧ ∀ H3 : Heap, adopts H3 H2 xs = some (ys, H3))
  | [], ys, H, H', h => by simp [adopts] at h; obtain ⟨rfl, rfl⟩ := h; exact ⟨Nat.le_refl _, fun _ => ⟨rfl, fun _ => rfl⟩⟩
  | x :: r, ys, H, H', h => by
    simp only [adopts] at h
    split at h
    · rename_i y H1 h1
      split at h
      · rename_i ys' H3 h3
        simp at h
        obtain ⟨rfl, rfl⟩ := h
        have a1 := adopt_len h1
        have a3 := adopts_len h3
        refine ⟨Nat.le_trans a1.1 a3.1, fun hl => ?_⟩
        obtain ⟨rfl, b1⟩ := a1.2 (by omega)
        obtain ⟨rfl, b3⟩ := a3.2 (by omega)
        exact ⟨rfl, fun H4 => by simp [adopts, b1, b3]⟩
      · simp at h
    · simp at h

theorem adoptR_len {H2 : Heap} {x y : AV} {H' : Heap} (h : adoptR H H2 x = some (y, H')) : H.length ≤ H'.length ∧ (H'.length = H.length → H' = H ∧ ∀ H3 : Heap, adoptR H3 H2 x = some (y, H3)) := by
  cases x with
  | tup vs =>
    simp only [adoptR] at h
    split at h
    · rename_i hn
      split at h
      · rename_i ys H3 h3
        simp at h
        obtain ⟨rfl, rfl⟩ := h
        have a3 := adopts_len h3
        refine ⟨a3.1, fun hl => ?_⟩
        obtain ⟨rfl, b3⟩ := a3.2 hl
        exact ⟨rfl, fun H4 => by simp [adoptR, hn, b3]⟩
      · simp at h
    · simp at h
  | _ => simp only [adoptR] at h ⊢; exact adopt_len h

theorem adopt_grow {H H2 : Heap} {x y : AV} {H' : Heap} (h : adopt H H2 x = some (y, H')) : ∃ Z, H' = H ++ Z ∧ ∀ H3 : Heap, H3.length = H.length → adopt H3 H2 x = some (y, H3 ++ Z) := by
  unfold adopt at h
  split at h
  case h_5 o g z off len =>
    split at h
    · rename_i es wr he
      split at h
      · rename_i hc
        simp at h
        obtain ⟨rfl, rfl⟩ := h
        refine ⟨_, rfl, fun H3 hl => ?_⟩
        unfold adopt
        simp only [he, if_pos hc, hl]
      · simp at h
    · simp at h
  all_goals
    first
    | (simp at h; done)
    | (simp at h
       obtain ⟨rfl, rfl⟩ := h
       exact ⟨[], by simp, fun H3 _ => by simp [adopt]⟩)
theorem adopts_grow {H2 : Heap} : ∀ {xs ys : List AV} {H H' : Heap}, adopts H H2 xs = some (ys, H') → ∃ Z, H' = H ++ Z ∧ ∀ H3 : Heap, H3.length = H.length → adopts H3 H2 xs = some (ys, H3 ++ Z)
  | [], ys, H, H', h => by
    simp [adopts] at h
    obtain ⟨rfl, rfl⟩ := h
    exact ⟨[], by simp, fun H3 _ => by simp [adopts]⟩
  | x :: r, ys, H, H', h => by
    simp only [adopts] at h
    split at h
    · rename_i y H1 h1
      split at h
      · rename_i zs H3 h3
        simp at h
        obtain ⟨rfl, rfl⟩ := h
        obtain ⟨Z1, rfl, a1⟩ := adopt_grow h1
        obtain ⟨Z2, rfl, a2⟩ := adopts_grow h3
        refine ⟨Z1 ++ Z2, by simp, fun H4 hl => ?_⟩
        simp only [adopts, a1 H4 hl]
        rw [a2 (H4 ++ Z1) (by simp [hl])]
        simp
      · simp at h
    · simp at h
theorem adoptR_grow {H H2 : Heap} {x y : AV} {H' : Heap} (h : adoptR H H2 x = some (y, H')) : ∃ Z, H' = H ++ Z ∧ ∀ H3 : Heap, H3.length = H.length → adoptR H3 H2 x = some (y, H3 ++ Z) := by
  cases x with
  | tup vs =>
    simp only [adoptR] at h
    split at h
    · rename_i hn
      split at h
      · rename_i ys H3 h3
        simp at h
        obtain ⟨rfl, rfl⟩ := h
        obtain ⟨Z, rfl, a⟩ := adopts_grow h3
        exact ⟨Z, rfl, fun H4 hl => by simp [adoptR, hn, a H4 hl]⟩
      · simp at h
    · simp at h
  | _ => simp only [adoptR] at h ⊢; exact adopt_grow h

theorem putAt_get_ne {H : Heap} {k i : Nat} {c : Ob} (h : i ≠ k) (hf : i < H.length) : (putAt H k c)[i]? = H[i]? := by
  rw [putAt_get, if_neg h, if_pos hf]
theorem putAt_set {H : Heap} {k i : Nat} {c d : Ob} (hne : i ≠ k) (hi : i < H.length) : (putAt H k c).set i d = putAt (H.set i d) k c := by
  apply List.ext_getElem?
  intro j
  rw [List.getElem?_set, putAt_get, putAt_get, putAt_len, List.length_set, List.getElem?_set]
  by_cases h1 : i = j
  · subst h1
    rw [if_pos rfl, if_pos rfl, if_neg hne, if_pos hi, if_pos hi, if_pos (by omega)]
  · rw [if_neg h1, if_neg h1]
theorem freeAt_set {H : Heap} {k i : Nat} {d : Ob} (hne : i ≠ k) (h : freeAt H k) : freeAt (H.set i d) k := by
  unfold freeAt at h ⊢
  rw [List.length_set, List.getElem?_set_ne hne]
  exact h
mutual
theorem toD_frz : ∀ (x : AV) {H H' : Heap} {d : DV}, toD H x = some (d, H') → ∀ k, k ∉ frzA x → H'[k]? = H[k]?
  | .d _, H, H', d, h, k, _ => by simp [toD] at h; obtain ⟨_, rfl⟩ := h; rfl
  | .nilS, H, H', d, h, k, _ => by simp [toD] at h; obtain ⟨_, rfl⟩ := h; rfl
  | .z0, H, H', d, h, k, _ => by simp [toD] at h; obtain ⟨_, rfl⟩ := h; rfl
  | .e0 _, H, H', d, h, k, _ => by simp [toD] at h; obtain ⟨_, rfl⟩ := h; rfl
  | .view o g z off len, H, H', d, h, k, hk => by
    simp only [frzA, List.mem_singleton] at hk
    simp only [toD] at h
    (repeat' split at h) <;> simp at h
    obtain ⟨_, rfl⟩ := h
    rw [List.getElem?_set_ne (Ne.symm hk)]
  | .agg cs, H, H', d, h, k, hk => by
    simp only [frzA] at hk
    simp only [toD] at h
    split at h
    · rename_i ds H1 h1
      simp at h
      obtain ⟨_, rfl⟩ := h
      exact toDs_frz cs h1 k hk
    · simp at h
  | .ptr _ _, H, H', d, h, k, _ => by simp [toD] at h
  | .mp _, H, H', d, h, k, _ => by simp [toD] at h
  | .eptr _, H, H', d, h, k, _ => by simp [toD] at h
  | .vptr _ _ _ _ _, H, H', d, h, k, _ => by simp [toD] at h
  | .fn _ _ _, H, H', d, h, k, _ => by simp [toD] at h
  | .tup _, H, H', d, h, k, _ => by simp [toD] at h
  | .one, H, H', d, h, k, _ => by simp [toD] at h
  | .junk, H, H', d, h, k, _ => by simp [toD] at h
  | .und, H, H', d, h, k, _ => by simp [toD] at h
theorem toDs_frz : ∀ (xs : List AV) {H H' : Heap} {ds : List DV}, toDs H xs = some (ds, H') → ∀ k, k ∉ frzAs xs → H'[k]? = H[k]?
  | [], H, H', ds, h, k, _ => by simp [toDs] at h; obtain ⟨_, rfl⟩ := h; rfl
  | x :: r, H, H', ds, h, k, hk => by
    simp only [frzAs, List.mem_append, not_or] at hk
    simp only [toDs] at h
    split at h
    · rename_i y H1 h1
      split at h
      · rename_i ys H2 h2
        simp at h
        obtain ⟨_, rfl⟩ := h
        exact (toDs_frz r h2 k hk.2).trans (toD_frz x h1 k hk.1)
      · simp at h
    · simp at h
end

mutual
/-- What becomes data isn't touched by an object laid elsewhere. -/
theorem toD_put {k : Nat} {c : Ob} : ∀ (x : AV) {H H' : Heap} {d : DV}, toD H x = some (d, H') → k ∉ frzA x → freeAt H k → toD (putAt H k c) x = some (d, putAt H' k c) ∧ freeAt H' k
  | .d x, H, H', d, h, _, hf => by
    simp only [toD, Option.some.injEq, Prod.mk.injEq] at h ⊢
    obtain ⟨rfl, rfl⟩ := h
    exact ⟨⟨rfl, rfl⟩, hf⟩
  | .nilS, H, H', d, h, _, hf => by
    simp only [toD, Option.some.injEq, Prod.mk.injEq] at h ⊢
    obtain ⟨rfl, rfl⟩ := h
    exact ⟨⟨rfl, rfl⟩, hf⟩
  | .e0 b, H, H', d, h, _, hf => by
    simp only [toD, Option.some.injEq, Prod.mk.injEq] at h ⊢
    obtain ⟨rfl, rfl⟩ := h
    exact ⟨⟨rfl, rfl⟩, hf⟩
  | .z0, H, H', d, h, _, hf => by
    simp only [toD, Option.some.injEq, Prod.mk.injEq] at h ⊢
    obtain ⟨rfl, rfl⟩ := h
    exact ⟨⟨rfl, rfl⟩, hf⟩
  | .view o g z off len, H, H', d, h, hk, hf => by
    simp only [frzA, List.mem_singleton] at hk
    simp only [toD] at h ⊢
    split at h
    · rename_i es wr hob
      have hlt := (List.getElem?_eq_some_iff.1 hob).1
      rw [putAt_get_ne (Ne.symm hk) hlt, hob]
      split at h
      · rename_i hg
        simp only [Option.some.injEq, Prod.mk.injEq] at h
        obtain ⟨rfl, rfl⟩ := h
        refine ⟨?_, freeAt_set (Ne.symm hk) hf⟩
        simp only [if_pos hg, putAt_set (Ne.symm hk) hlt]
      · simp at h
    · simp at h
  | .agg cs, H, H', d, h, hk, hf => by
    simp only [frzA] at hk
    simp only [toD] at h ⊢
    split at h
    · rename_i ds H1 h1
      simp only [Option.some.injEq, Prod.mk.injEq] at h
      obtain ⟨rfl, rfl⟩ := h
      obtain ⟨e1, e2⟩ := toDs_put cs h1 hk hf
      rw [e1]
      exact ⟨rfl, e2⟩
    · simp at h
  | .ptr _ _, _, _, _, h, _, _ => by simp [toD] at h
  | .mp _, _, _, _, h, _, _ => by simp [toD] at h
  | .eptr _, _, _, _, h, _, _ => by simp [toD] at h
  | .vptr _ _ _ _ _, _, _, _, h, _, _ => by simp [toD] at h
  | .fn _ _ _, _, _, _, h, _, _ => by simp [toD] at h
  | .tup _, _, _, _, h, _, _ => by simp [toD] at h
  | .one, _, _, _, h, _, _ => by simp [toD] at h
  | .und, _, _, _, h, _, _ => by simp [toD] at h
  | .junk, _, _, _, h, _, _ => by simp [toD] at h
theorem toDs_put {k : Nat} {c : Ob} : ∀ (xs : List AV) {H H' : Heap} {ds : List DV}, toDs H xs = some (ds, H') → k ∉ frzAs xs → freeAt H k → toDs (putAt H k c) xs = some (ds, putAt H' k c) ∧ freeAt H' k
  | [], H, H', ds, h, _, hf => by
    simp only [toDs, Option.some.injEq, Prod.mk.injEq] at h ⊢
    obtain ⟨rfl, rfl⟩ := h
    exact ⟨⟨rfl, rfl⟩, hf⟩
  | x :: r, H, H', ds, h, hk, hf => by
    simp only [frzAs, List.mem_append, not_or] at hk
    simp only [toDs] at h ⊢
    split at h
    · rename_i y H1 h1
      obtain ⟨e1, e2⟩ := toD_put x h1 hk.1 hf
      split at h
      · rename_i ys H2 h2
        simp only [Option.some.injEq, Prod.mk.injEq] at h
        obtain ⟨rfl, rfl⟩ := h
        obtain ⟨e3, e4⟩ := toDs_put r h2 hk.2 e2
        rw [e1]
        refine ⟨?_, e4⟩
        show (match toDs (putAt H1 k c) r with | some (ys, H) => some (y :: ys, H) | none => none) = _
        rw [e3]
      · simp at h
    · simp at h
end

/-- How a whole operation's outcome hangs on the objects. -/
def OpLoc (P : Program) (o : AOper) (T : Tm) (H : Heap) (v : AV) (H' : Heap) : Tch → Prop
  | .none => H' = H ∧ ∀ H2, Op1 P o .none T H2 v H2
  | .rd k => H' = H ∧ Full H k ∧ ∀ H2 : Heap, H2[k]? = H[k]? → Op1 P o (.rd k) T H2 v H2
  | .wr k => ∃ c, H' = H.set k c ∧ Full H k ∧ ∀ H2 : Heap, H2[k]? = H[k]? → Op1 P o (.wr k) T H2 v (H2.set k c)
  | .wrs k os => ∃ c, H' = H.set k c ∧ Full H k ∧ (∀ j ∈ os, Full H j) ∧ ∀ H2 : Heap, H2[k]? = H[k]? → (∀ j ∈ os, H2[j]? = H[j]?) → Op1 P o (.wrs k os) T H2 v (H2.set k c)
  | .new k => ∃ c, freeAt H k ∧ H' = putAt H k c ∧ ∀ H2 : Heap, freeAt H2 k → Op1 P o (.new k) T H2 v (putAt H2 k c)
  | .glob => True
  | .loc m s => ∃ A A' Y, m = A.length ∧ A'.length = A.length ∧ H = A ++ Y ∧ H' = A' ++ Y ∧ (s = true → A' = A) ∧ ∀ Y2, Op1 P o (.loc m s) T (A ++ Y2) v (A' ++ Y2)
  | .frz os => H'.length = H.length ∧ (∀ k, k ∉ os → H'[k]? = H[k]?) ∧ ∀ k c, k ∉ os → freeAt H k → Op1 P o (.frz os) T (putAt H k c) v (putAt H' k c)
  | .keep n s => n = H.length ∧ H.length ≤ H'.length ∧ (s = true → H'.take n = H)
  | .grow => ∃ Z, H' = H ++ Z ∧ ∀ H2 : Heap, H2.length = H.length → Op1 P o .grow T H2 v (H2 ++ Z)

theorem Op1.loc {o : AOper} {τ : Tch} {v : AV} {H' : Heap} (h : Op1 P o τ T H v H') : OpLoc P o T H v H' τ := by
  rcases h with ⟨hg, rfl, rfl, rfl⟩ | ⟨hg, h⟩
  · exact ⟨rfl, fun H2 => .inl ⟨hg, rfl, rfl, rfl⟩⟩
  · rcases h with ⟨g, args, f, as, hop, hcl, hr⟩ | ⟨hnc, e, ha, rfl⟩ | ⟨k, c, hn, hf, rfl, rfl⟩
    · rcases hr with ⟨ds, H1, p, htd, hsr, hb⟩ | ⟨_, ⟨s, rfl, hks⟩ | ⟨s, A, A', Y, rfl, hln, rfl, rfl, hsm, hX⟩, hle⟩ | ⟨ds, p, k, c, hD, htd, hsr, htk, hfk, rfl, rfl⟩
      · have hl := toDs_len _ htd
        unfold behind0 at hb
        split at hb
        · rename_i y H3 had
          simp only [Option.some.injEq, Prod.mk.injEq] at hb
          obtain ⟨rfl, rfl, rfl⟩ := hb
          by_cases hlen : (H3.length == H1.length) = true
          · rw [if_pos hlen]
            simp only [beq_iff_eq] at hlen
            by_cases hp1 : as.all isD = true
            case neg =>
              rw [if_neg hp1]
              obtain ⟨rfl, hal⟩ := (adoptR_len had).2 hlen
              refine ⟨toDs_len _ htd, toDs_frz _ htd, fun k c hk hf => .inr ⟨hg, .inl ⟨g, args, f, as, hop, hcl, .inl ⟨ds, putAt H3 k c, p, (toDs_put _ htd hk hf).1, hsr, ?_⟩⟩⟩⟩
              unfold behind0
              rw [hal (putAt H3 k c)]
              simp [hp1]
            rw [if_pos hp1]
            have hpure : as.all isD = true ∧ H3.length = H1.length := ⟨hp1, hlen⟩
            obtain ⟨ds', hd'⟩ := toDs_isD hpure.1
            have he := hd' H
            rw [htd] at he
            simp at he
            obtain ⟨rfl, rfl⟩ := he
            obtain ⟨rfl, hal⟩ := (adoptR_len had).2 hpure.2
            refine ⟨rfl, fun H2 => .inr ⟨hg, .inl ⟨g, args, f, as, hop, hcl, .inl ⟨ds, H2, p, hd' H2, hsr, ?_⟩⟩⟩⟩
            unfold behind0
            rw [hal H2]
            simp [hpure.1]
          · rw [if_neg hlen]
            by_cases hp1 : as.all isD = true
            case neg => rw [if_neg hp1]; trivial
            rw [if_pos hp1]
            obtain ⟨ds', hd'⟩ := toDs_isD hp1
            have he := hd' H
            rw [htd] at he
            simp at he
            obtain ⟨rfl, rfl⟩ := he
            obtain ⟨Z, rfl, hz⟩ := adoptR_grow had
            refine ⟨Z, rfl, fun H2 hl2 => .inr ⟨hg, .inl ⟨g, args, f, as, hop, hcl, .inl ⟨ds, H2, p, hd' H2, hsr, ?_⟩⟩⟩⟩
            have hlen2 : ¬ (((H2 ++ Z).length == H2.length) = true) := by
              simp only [List.length_append, beq_iff_eq] at hlen ⊢
              omega
            unfold behind0
            rw [hz H2 hl2]
            simp only [if_neg hlen2, if_pos hp1]
        · simp at hb
      · exact ⟨rfl, hle, hks⟩
      · exact ⟨A, A', Y, rfl, hln, rfl, rfl, hsm, fun Y2 => .inr ⟨hg, .inl ⟨g, args, f, as, hop, hcl, .inr (.inl ⟨hX Y2, .inr ⟨s, A, A', Y2, rfl, hln, rfl, rfl, hsm, hX⟩, by simp [hln]⟩)⟩⟩⟩
      · refine ⟨c, hfk, rfl, fun H2 hk2 => .inr ⟨hg, .inl ⟨g, args, f, as, hop, hcl, .inr (.inr ⟨ds, p, k, c, hD, ?_, hsr, htk, hk2, rfl, rfl⟩)⟩⟩⟩
        obtain ⟨ds', hd'⟩ := toDs_isD hD
        have he := hd' H
        rw [htd] at he
        simp at he
        subst he
        exact hd' H2
    · have hl := act_heap ha
      have mk : ∀ H2 e2 t2, act o.op T H2 = some (v, e2, t2) → Op1 P o t2 T H2 v (e2.on H2) := fun H2 e2 t2 h2 => .inr ⟨hg, .inr (.inl ⟨hnc, e2, h2, rfl⟩)⟩
      cases τ with
      | none => obtain ⟨rfl, h2⟩ := hl; exact ⟨rfl, fun H2 => mk H2 _ _ (h2 H2)⟩
      | rd k => obtain ⟨rfl, hfl, h2⟩ := hl; exact ⟨rfl, hfl, fun H2 hk => mk H2 _ _ (h2 H2 hk)⟩
      | wr k => obtain ⟨c, rfl, hlt, h2⟩ := hl; exact ⟨c, rfl, hlt, fun H2 hk => mk H2 _ _ (h2 H2 hk)⟩
      | wrs k os => obtain ⟨c, rfl, hlt, hos, h2⟩ := hl; exact ⟨c, rfl, hlt, hos, fun H2 hk hj => mk H2 _ _ (h2 H2 hk hj)⟩
      | new k =>
        obtain ⟨c, rfl, rfl, h2⟩ := hl
        exact ⟨c, freeAt_end H, (putAt_end H c).symm, fun H2 hk => .inr ⟨hg, .inr (.inr ⟨_, c, h2, hk, rfl, rfl⟩)⟩⟩
      | glob => trivial
      | frz os => exact hl.elim
      | loc m s => exact hl.elim
      | keep n s => exact hl.elim
      | grow => exact hl.elim
    · exact ⟨c, hf, rfl, fun H2 hk => .inr ⟨hg, .inr (.inr ⟨k, c, hn, hk, rfl, rfl⟩)⟩⟩

end
end Pv
