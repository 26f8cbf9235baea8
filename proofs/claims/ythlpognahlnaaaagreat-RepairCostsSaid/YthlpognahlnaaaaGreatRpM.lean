/- The best of states (plain): nobody counts more; the order plays no part. / Plans of states that may be: what they come to. Plain laws; plans of a row in an array and a row. / Who lacks a few entries costs just these. Plain laws, no code. -/
import Derived.Test.YthlpognahlnaaaaGreatChD
import Derived.Test.YthlpognahlnaaaaGreatRpD
import Derived.Test.YthlpognahlnaaaaGreatMgG
set_option linter.all false
namespace Go.Proofs.YthlpognahlnaaaaGreat
open Pv Go Pk
set_option maxRecDepth 10000
set_option maxHeartbeats 2000000
theorem beats_iff (c d : Cand) : beats c d = true ↔ (c.started > d.started ∨ (c.started = d.started ∧ (c.since > d.since ∨ (c.since = d.since ∧ (c.n > d.n ∨ (c.n = d.n ∧ c.osd < d.osd)))))) := by
 unfold beats
 by_cases h1 : c.started = d.started <;> by_cases h2 : c.since = d.since <;> by_cases h3 : c.n = d.n <;> simp [h1, h2, h3] <;> omega
theorem beats_not {c d : Cand} : beats c d = false ↔ ¬ beats c d = true := by simp
theorem best_top (L : List State) : ∀ os : List Int, os.length = L.length → (L = [] ∧ (bestFold os L).1 = -1) ∨ ∃ (b : Nat) (o : Int) (s : State), (bestFold os L).1 = (b : Int) ∧ os[b]? = some o ∧ L[b]? = some s ∧ (bestFold os L).2 = candOf o s ∧
  ∀ (i : Nat) (o' : Int) (s' : State), os[i]? = some o' → L[i]? = some s' → beats (candOf o' s') (candOf o s) = false := by
 refine list_snoc_ind (M := fun L => ∀ os : List Int, os.length = L.length → (L = [] ∧ (bestFold os L).1 = -1) ∨ ∃ (b : Nat) (o : Int) (s : State), (bestFold os L).1 = (b : Int) ∧ os[b]? = some o ∧ L[b]? = some s ∧ (bestFold os L).2 = candOf o s ∧
  ∀ (i : Nat) (o' : Int) (s' : State), os[i]? = some o' → L[i]? = some s' → beats (candOf o' s') (candOf o s) = false) ?_ ?_ L
 ·intro os h
  have : os = [] := List.eq_nil_of_length_eq_zero h
  subst this
  exact .inl ⟨rfl, rfl⟩
 ·intro L s ih os h
  obtain ⟨o, os', rfl⟩ : ∃ o os', os = os' ++ [o] := by
   have hne : os ≠ [] := by intro hh; rw [hh] at h; simp at h
   exact ⟨os.getLast hne, os.dropLast, (List.dropLast_concat_getLast hne).symm⟩
  have hl : os'.length = L.length := by simp at h; exact h
  rw [bestFold_snoc _ _ _ _ hl]
  refine .inr ?_
  have hlast : ∀ (i : Nat) (o' : Int) (s' : State), (os' ++ [o])[i]? = some o' → (L ++ [s])[i]? = some s' → (os'[i]? = some o' ∧ L[i]? = some s') ∨ (o' = o ∧ s' = s) := by
   intro i o' s' h1 h2
   by_cases c : i < L.length
   ·rw [List.getElem?_append_left (by omega)] at h1
    rw [List.getElem?_append_left c] at h2
    exact .inl ⟨h1, h2⟩
   ·rw [List.getElem?_append_right (by omega)] at h1
    rw [List.getElem?_append_right (by omega)] at h2
    have hi := (List.getElem?_eq_some_iff.1 h2).1
    simp at hi
    have : i - L.length = 0 := by omega
    rw [hl, this] at h1
    rw [this] at h2
    simp at h1 h2
    exact .inr ⟨h1.symm, h2.symm⟩
  have hnew : (os' ++ [o])[L.length]? = some o ∧ (L ++ [s])[L.length]? = some s := by
   constructor
   ·rw [← hl, List.getElem?_append_right (Nat.le_refl _), Nat.sub_self]; rfl
   ·rw [List.getElem?_append_right (Nat.le_refl _), Nat.sub_self]; rfl
  have hself : beats (candOf o s) (candOf o s) = false := by rw [beats_not, beats_iff]; omega
  rcases ih os' hl with ⟨rfl, hf⟩ | ⟨b, o1, s1, hb, ho, hs, htop, hmax⟩
  ·rw [if_pos (by rw [hf]; rfl)]
   refine ⟨0, o, s, rfl, hnew.1, hnew.2, rfl, ?_⟩
   intro i o' s' h1 h2
   rcases hlast i o' s' h1 h2 with ⟨_, h⟩ | ⟨rfl, rfl⟩
   ·simp at h
   ·exact hself
  ·by_cases c : beats (candOf o s) (bestFold os' L).2 = true
   ·rw [if_pos (by rw [c, Bool.or_true])]
    refine ⟨L.length, o, s, rfl, hnew.1, hnew.2, rfl, ?_⟩
    intro i o' s' h1 h2
    rcases hlast i o' s' h1 h2 with ⟨h1, h2⟩ | ⟨rfl, rfl⟩
    ·have hm := hmax i o' s' h1 h2
     rw [htop, beats_iff] at c
     rw [beats_not, beats_iff] at hm ⊢
     omega
    ·exact hself
   ·rw [if_neg (by rw [hb]; simp [c])]
    refine ⟨b, o1, s1, hb, ?_, ?_, htop, ?_⟩
    ·rw [List.getElem?_append_left (List.getElem?_eq_some_iff.1 ho).1]; exact ho
    ·rw [List.getElem?_append_left (List.getElem?_eq_some_iff.1 hs).1]; exact hs
    ·intro i o' s' h1 h2
     rcases hlast i o' s' h1 h2 with ⟨h1, h2⟩ | ⟨rfl, rfl⟩
     ·exact hmax i o' s' h1 h2
     ·rw [htop] at c
      exact eq_false_of_ne_true c
def rowN (n : Nat) : List Int := (List.range n).map fun i : Nat => (i : Int)
def turnN (n t k : Nat) : List Int := (List.range k).map fun i : Nat => (((i + t) % n : Nat) : Int)
def turnS (L : List State) (t k : Nat) : List State := (List.range k).map fun i : Nat => L.getD ((i + t) % L.length) State.zero
theorem rowN_succ (n : Nat) : rowN (n + 1) = rowN n ++ [(n : Int)] := by unfold rowN; rw [List.range_succ, List.map_append]; rfl
theorem rowN_len (n : Nat) : (rowN n).length = n := by unfold rowN; rw [List.length_map, List.length_range]
/-- Neither a later start nor more of the same start. -/
def noMore (s b : State) : Prop := s.started ≤ b.started ∧ (s.started = b.started → (headS s).1 ≤ (headS b).1 ∧ ((headS s).1 = (headS b).1 → (headS s).2 ≤ (headS b).2))
end Go.Proofs.YthlpognahlnaaaaGreat

namespace Go.Proofs.YthlpognahlnaaaaGreat
open Pv Go Pk
set_option maxRecDepth 10000
set_option maxHeartbeats 4000000
theorem plan_some {l : List Inc} {g : Int} {os : List Int} {L : List State} {b : Nat} {t : State} (hb : bestS os L = (b : Int)) (ht : L[b]? = some t) : planOf l g os L = ⟨(b : Int), !enoughB l g os (startedS L), L.map fun s => makeM s t⟩ := by
 unfold planOf
 rw [hb, if_neg (by omega)]
 have : L.getD ((b : Int)).toNat State.zero = t := by rw [Int.toNat_natCast, List.getD_eq_getElem?_getD, ht]; rfl
 rw [this]
theorem iv0 : (ivL [] 0).length = 1 ∧ (ivL [] 1).length = 1 ∧ (ivL [] 2).length = 1 ∧ (ivL [] 3).length = 1 := by decide +kernel
theorem lacks0 (g : Int) (hg : 0 ≤ g ∧ g < 4) (A : List Int) (st : Int) : lacksL [] g A st = [] := by
 have h : (ivL [] g).length = 1 := by
  obtain ⟨a, b, c, d⟩ := iv0
  obtain rfl | rfl | rfl | rfl : g = 0 ∨ g = 1 ∨ g = 2 ∨ g = 3 := by omega
  ·exact a
  ·exact b
  ·exact c
  ·exact d
 unfold lacksL
 rw [h]
 rfl
theorem enough0 (g : Int) (hg : 0 ≤ g ∧ g < 4) (A : List Int) (st : Int) : enoughB [] g A st = (lastI (ivL [] g)).acting.all fun x => decide (x ∈ A) := by
 unfold enoughB
 rw [lacks0 g hg, List.all_eq_not_any_not]
 rfl
def O5 : List Int := [0, 1, 2, 3, 4]
theorem O5_asc : ∀ (i : Nat) (a b : Int), O5[i]? = some a → O5[i + 1]? = some b → a < b := by
 intro i a b h1 h2
 match i, h1, h2 with
 | 0, h1, h2 => cases h1; cases h2; decide
 | 1, h1, h2 => cases h1; cases h2; decide
 | 2, h1, h2 => cases h1; cases h2; decide
 | 3, h1, h2 => cases h1; cases h2; decide
 | i + 4, h1, h2 => simp [O5] at h2
theorem enough5 (g : Int) (hg : g = 0 ∨ g = 1) (st : Int) : enoughB [] g O5 st = true := by
 rcases hg with rfl | rfl
 ·rw [enough0 0 (by decide)]; decide +kernel
 ·rw [enough0 1 (by decide)]; decide +kernel
end Go.Proofs.YthlpognahlnaaaaGreat

namespace Go.Proofs.YthlpognahlnaaaaGreat
open Pv Go Pk
set_option maxRecDepth 10000
set_option maxHeartbeats 4000000
theorem runE_take (L : List (Int × Opr)) : ∀ (j k : Nat), j ≤ k → ∃ n, runE (L.take j) = (runE (L.take k)).take n := by
 intro j k h
 obtain ⟨d, rfl⟩ : ∃ d, k = j + d := ⟨k - j, by omega⟩
 clear h
 induction d with
 | zero => exact ⟨(runE (L.take j)).length, by rw [Nat.add_zero, List.take_length]⟩
 | succ d ih =>
  obtain ⟨n, hn⟩ := ih
  by_cases c : j + d < L.length
  ·obtain ⟨p, hp⟩ : ∃ p, L[j + d]? = some p := ⟨L[j + d], List.getElem?_eq_getElem c⟩
   rw [show j + (d + 1) = j + d + 1 by omega, take_succ' hp, runE_snoc]
   unfold stepE
   split
   ·refine ⟨min n (runE (L.take (j + d))).length, ?_⟩
    rw [List.take_append_of_le_length (by omega), hn]
    by_cases c2 : n ≤ (runE (L.take (j + d))).length
    ·rw [Nat.min_eq_left c2]
    ·rw [Nat.min_eq_right (by omega), List.take_length, List.take_of_length_le (by omega)]
   ·exact ⟨n, hn⟩
  ·rw [List.take_of_length_le (show L.length ≤ j + (d + 1) by omega)]
   rw [List.take_of_length_le (show L.length ≤ j + d by omega)] at hn
   exact ⟨n, hn⟩
/-- Of two such lists one is the other's beginning. -/
theorem runE_pre (L : List (Int × Opr)) (j k : Nat) (h : (runE (L.take j)).length ≤ (runE (L.take k)).length) : runE (L.take j) = (runE (L.take k)).take (runE (L.take j)).length := by
 by_cases c : j ≤ k
 ·obtain ⟨n, hn⟩ := runE_take L j k c
  rw [hn, List.length_take]
  by_cases c2 : n ≤ (runE (L.take k)).length
  ·rw [Nat.min_eq_left c2]
  ·rw [Nat.min_eq_right (by omega), List.take_length, List.take_of_length_le (by omega)]
 ·obtain ⟨n, hn⟩ := runE_take L k j (by omega)
  have hl : (runE (L.take k)).length = (runE (L.take j)).length := by
   have : (runE (L.take k)).length ≤ (runE (L.take j)).length := by rw [hn, List.length_take]; omega
   omega
  have : runE (L.take k) = runE (L.take j) := by
   rw [hn]
   rw [hn, List.length_take] at hl
   exact List.take_of_length_le (by omega)
  rw [this, List.take_length]
theorem common_all {st : Int} (hst : st ≤ 60) {E : List Entry} (hE : goodE E) (h6 : E.length ≤ 6) {k : Nat} (hk : k ≤ E.length) : ∀ (d n : Nat), n + d = k → commonL (mkSt st (E.take k) 0) (n : Nat) (E.drop n) = (k : Nat)
 | 0, n, h => by
  have hn : n = k := by omega
  subst hn
  by_cases c : n < E.length
  ·rw [List.drop_eq_getElem_cons c]
   simp only [commonL]
   rw [if_neg]
   intro hh
   have hen := hE.nums.1 n E[n] (List.getElem?_eq_getElem c)
   have := has_mk (hE.take n) (Nat.zero_le _) (by rw [List.length_take]; omega) hst (n := n) (by rw [hen]; omega) hh
   rw [List.getElem?_eq_none (by rw [List.length_take]; omega)] at this
   simp at this
  ·rw [List.drop_eq_nil_of_le (by omega)]
   rfl
 | d + 1, n, h => by
  have c : n < E.length := by omega
  have hen := hE.nums.1 n E[n] (List.getElem?_eq_getElem c)
  rw [List.drop_eq_getElem_cons c]
  simp only [commonL]
  rw [if_pos]
  ·rw [hen, show ((n : Int) + 1) = ((n + 1 : Nat) : Int) by omega]
   exact common_all hst hE h6 hk d (n + 1) (by omega)
  ·unfold hasE
   rw [mk_find st (hE.take k) (Nat.zero_le _) (by rw [List.length_take]; omega) hst, hen, if_pos (by omega), show ((n : Int) + 1 - 1).toNat = n by omega,
    List.getElem?_take_of_lt (by omega), List.getElem?_eq_getElem c]
   simp
theorem bytes_take {st : Int} (hst : st ≤ 60) {E : List Entry} (hE : goodE E) (h6 : E.length ≤ 6) {k : Nat} (hk : k ≤ E.length) : bytesD (makeM (mkSt st (E.take k) 0) (mkSt st E 0)) = E.length - k := by
 have hz : ∀ s : State, thereN (headM s).base 6 = 0 := fun s => by show thereN Base.zero 6 = 0; decide +kernel
 have i1 := mk_is st (hE.take k) (Nat.zero_le _) (by rw [List.length_take]; omega) hst
 have i2 := mk_is st hE (Nat.zero_le _) (by omega) hst
 have ht : (mkSt st E 0).tail = Entry.zero := by show tailOf (E.take 0) = _; rw [List.take_zero]; rfl
 have hl : (mkSt st E 0).log = E := by show E.drop 0 = E; exact List.drop_zero
 unfold makeM
 rw [if_pos (by rw [i1, i2]; rfl)]
 by_cases c : ({ mkSt st (E.take k) 0 with started := (mkSt st E 0).started } : State) = mkSt st E 0
 ·rw [if_pos c]
  have h1 : E.take k = E := by
   have := congrArg State.log c
   rw [hl] at this
   have h2 : (mkSt st (E.take k) 0).log = E.take k := by show (E.take k).drop 0 = _; exact List.drop_zero
   rw [← h2]
   exact this
  have h2 : E.length = k := by have := congrArg List.length h1; rw [List.length_take] at this; omega
  unfold bytesD
  show 0 + 0 + thereN (headM (mkSt st E 0)).base 6 = _
  rw [hz]
  omega
 ·rw [if_neg c, if_pos]
  ·unfold bytesD
   show (List.drop _ _).length + 0 + thereN (headM (mkSt st E 0)).base 6 = _
   have hn : (mkSt st E 0).tail.n = ((0 : Nat) : Int) := by rw [ht]; rfl
   have := common_all hst hE h6 hk k 0 (by omega)
   rw [List.drop_zero] at this
   rw [hz, hl, hn, this, List.length_drop]
   omega
  ·unfold standsM
   have hn : (mkSt st E 0).tail.n = ((0 : Nat) : Int) := by rw [ht]; rfl
   rw [hn, mk_upto st (hE.take k) (Nat.zero_le _) (by rw [List.length_take]; omega) hst, if_pos ⟨Int.le_refl _, Int.ofNat_le.2 (Nat.zero_le _)⟩, mk_find st (hE.take k) (Nat.zero_le _) (by rw [List.length_take]; omega) hst, if_neg (Int.lt_irrefl _)]
   simp only [Bool.true_and, Bool.and_eq_true, decide_eq_true_eq]
   refine ⟨?_, ?_⟩
   ·show tailOf _ = tailOf _
    rw [List.take_zero, List.take_zero]
   ·show baseOf _ = baseOf _
    simp
def sinceE (E : List Entry) : Prop := ∀ e ∈ E, e.since = 1
theorem runE_since {L : List (Int × Opr)} (h : ∀ p ∈ L, p.1 = 1) : sinceE (runE L) := by
 induction L using snoc_ind with
 | h0 => intro e he; simp [runE] at he
 | hs L p ih =>
  rw [runE_snoc]
  unfold stepE
  have ih := ih fun x hx => h x (by simp [hx])
  split
  ·intro e he
   rcases List.mem_append.1 he with he | he
   ·exact ih e he
   ·simp at he
    subst he
    exact h p (by simp)
  ·exact ih
theorem last_since {E : List Entry} (h : sinceE E) : (lastOf E).since = if E.length = 0 then 0 else 1 := by
 unfold lastOf
 cases hg : E.getLast? with
 | none => rw [List.getLast?_eq_none_iff] at hg; subst hg; rfl
 | some e =>
  have hm := List.mem_of_getLast? hg
  rw [if_neg (by intro hl; rw [List.length_eq_zero_iff] at hl; rw [hl] at hm; simp at hm)]
  exact h e hm
end Go.Proofs.YthlpognahlnaaaaGreat
