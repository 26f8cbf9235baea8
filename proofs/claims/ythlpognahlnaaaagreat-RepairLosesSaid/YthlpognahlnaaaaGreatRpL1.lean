/- The best of states (plain): nobody counts more; the order plays no part. / Plans of states that may be: what they come to. Plain laws; plans of a row in an array and a row. / The law RepairLoses. -/
import Derived.Test.YthlpognahlnaaaaGreatChD
import Derived.Test.YthlpognahlnaaaaGreatRpD
import Derived.Test.YthlpognahlnaaaaGreatPkEvd
set_option linter.all false
namespace Go.Proofs.YthlpognahlnaaaaGreat
open Pv Go Pk
set_option maxRecDepth 10000
set_option maxHeartbeats 2000000
theorem beats_iff (c d : Cand) : beats c d = true ↔ (c.started > d.started ∨ (c.started = d.started ∧ (c.since > d.since ∨ (c.since = d.since ∧ (c.n > d.n ∨ (c.n = d.n ∧ c.osd < d.osd)))))) := by
 unfold beats
 by_cases h1 : c.started = d.started <;> by_cases h2 : c.since = d.since <;> by_cases h3 : c.n = d.n <;> simp [h1, h2, h3] <;> omega
theorem beats_not {c d : Cand} : beats c d = false ↔ ¬ beats c d = true := by simp
theorem best_top (L : List State) : ∀ os : List Int, os.length = L.length → (L = [] ∧ (bestFold os L).1 = -1) ∨ ∃ (b : Nat) (o : Int) (s : State), (bestFold os L).1 = (b : Int) ∧ os[b]? = some o ∧ L[b]? = some s ∧ (bestFold os L).2 = candOf o s ∧
  ∀ (i : Nat) (o' : Int) (s' : State), os[i]? = some o' → L[i]? = some s' → beats (candOf o' s') (candOf o s) = false := by
 refine list_snoc_ind (M := fun L => ∀ os : List Int, os.length = L.length → (L = [] ∧ (bestFold os L).1 = -1) ∨ ∃ (b : Nat) (o : Int) (s : State), (bestFold os L).1 = (b : Int) ∧ os[b]? = some o ∧ L[b]? = some s ∧ (bestFold os L).2 = candOf o s ∧
  ∀ (i : Nat) (o' : Int) (s' : State), os[i]? = some o' → L[i]? = some s' → beats (candOf o' s') (candOf o s) = false) ?_ ?_ L
 ·intro os h
  have : os = [] := List.eq_nil_of_length_eq_zero h
  subst this
  exact .inl ⟨rfl, rfl⟩
 ·intro L s ih os h
  obtain ⟨o, os', rfl⟩ : ∃ o os', os = os' ++ [o] := by
   have hne : os ≠ [] := by intro hh; rw [hh] at h; simp at h
   exact ⟨os.getLast hne, os.dropLast, (List.dropLast_concat_getLast hne).symm⟩
  have hl : os'.length = L.length := by simp at h; exact h
  rw [bestFold_snoc _ _ _ _ hl]
  refine .inr ?_
  have hlast : ∀ (i : Nat) (o' : Int) (s' : State), (os' ++ [o])[i]? = some o' → (L ++ [s])[i]? = some s' → (os'[i]? = some o' ∧ L[i]? = some s') ∨ (o' = o ∧ s' = s) := by
   intro i o' s' h1 h2
   by_cases c : i < L.length
   ·rw [List.getElem?_append_left (by omega)] at h1
    rw [List.getElem?_append_left c] at h2
    exact .inl ⟨h1, h2⟩
   ·rw [List.getElem?_append_right (by omega)] at h1
    rw [List.getElem?_append_right (by omega)] at h2
    have hi := (List.getElem?_eq_some_iff.1 h2).1
    simp at hi
    have : i - L.length = 0 := by omega
    rw [hl, this] at h1
    rw [this] at h2
    simp at h1 h2
    exact .inr ⟨h1.symm, h2.symm⟩
  have hnew : (os' ++ [o])[L.length]? = some o ∧ (L ++ [s])[L.length]? = some s := by
   constructor
   ·rw [← hl, List.getElem?_append_right (Nat.le_refl _), Nat.sub_self]; rfl
   ·rw [List.getElem?_append_right (Nat.le_refl _), Nat.sub_self]; rfl
  have hself : beats (candOf o s) (candOf o s) = false := by rw [beats_not, beats_iff]; omega
  rcases ih os' hl with ⟨rfl, hf⟩ | ⟨b, o1, s1, hb, ho, hs, htop, hmax⟩
  ·rw [if_pos (by rw [hf]; rfl)]
   refine ⟨0, o, s, rfl, hnew.1, hnew.2, rfl, ?_⟩
   intro i o' s' h1 h2
   rcases hlast i o' s' h1 h2 with ⟨_, h⟩ | ⟨rfl, rfl⟩
   ·simp at h
   ·exact hself
  ·by_cases c : beats (candOf o s) (bestFold os' L).2 = true
   ·rw [if_pos (by rw [c, Bool.or_true])]
    refine ⟨L.length, o, s, rfl, hnew.1, hnew.2, rfl, ?_⟩
    intro i o' s' h1 h2
    rcases hlast i o' s' h1 h2 with ⟨h1, h2⟩ | ⟨rfl, rfl⟩
    ·have hm := hmax i o' s' h1 h2
     rw [htop, beats_iff] at c
     rw [beats_not, beats_iff] at hm ⊢
     omega
    ·exact hself
   ·rw [if_neg (by rw [hb]; simp [c])]
    refine ⟨b, o1, s1, hb, ?_, ?_, htop, ?_⟩
    ·rw [List.getElem?_append_left (List.getElem?_eq_some_iff.1 ho).1]; exact ho
    ·rw [List.getElem?_append_left (List.getElem?_eq_some_iff.1 hs).1]; exact hs
    ·intro i o' s' h1 h2
     rcases hlast i o' s' h1 h2 with ⟨h1, h2⟩ | ⟨rfl, rfl⟩
     ·exact hmax i o' s' h1 h2
     ·rw [htop] at c
      exact eq_false_of_ne_true c
def rowN (n : Nat) : List Int := (List.range n).map fun i : Nat => (i : Int)
def turnN (n t k : Nat) : List Int := (List.range k).map fun i : Nat => (((i + t) % n : Nat) : Int)
def turnS (L : List State) (t k : Nat) : List State := (List.range k).map fun i : Nat => L.getD ((i + t) % L.length) State.zero
/-- Neither a later start nor more of the same start. -/
def noMore (s b : State) : Prop := s.started ≤ b.started ∧ (s.started = b.started → (headS s).1 ≤ (headS b).1 ∧ ((headS s).1 = (headS b).1 → (headS s).2 ≤ (headS b).2))
end Go.Proofs.YthlpognahlnaaaaGreat

namespace Go.Proofs.YthlpognahlnaaaaGreat
open Pv Go Pk
set_option maxRecDepth 10000
set_option maxHeartbeats 4000000
theorem frz2_mix (h g : AV) (j1 k : Nat) (es ls : List DV) (w1 : Bool) (H : Heap) (h1 : H[j1]? = some (.arr es w1)) (k1 : es.length = k) :
  frzL [false, false, true, true] H [h, g, .view j1 k 1 0 k, .d (.sl ls)] = ([h, g, .d (.sl es), .d (.sl ls)], H.set j1 (.arr es false)) := by
 have s1 : subL es 0 k = es := by unfold subL; rw [List.drop_zero]; exact List.take_of_length_le (by omega)
 simp [frzL, frzV, toD, h1, k1, s1]
theorem rmake_mix (o j1 k : Nat) (os : List Int) (L : List State) (w1 : Bool) (H : Heap) (g : Int) (h1 : H[j1]? = some (.arr (os.map fun x => .i .i64 x) w1)) (k1 : os.length = k) :
  evF C F_q3l [.ptr o 0, .d (.i .u8 g), .view j1 k 1 0 k, .d (.sl (L.map State.d))] H = evF C F_q3l [.ptr o 0, .d (.i .u8 g), .d (.sl (os.map fun x => .i .i64 x)), .d (.sl (L.map State.d))] (H.set j1 (.arr (os.map fun x => .i .i64 x) false)) := by
 rw [evF_codef (rfl : C F_q3l = some f_q3l) _ _ _ _ (frz2_mix _ _ j1 k _ _ w1 H h1 (by rw [List.length_map]; exact k1)) rfl,
  evF_codef (rfl : C F_q3l = some f_q3l) _ _ [.ptr o 0, .d (.i .u8 g), .d (.sl (os.map fun x => .i .i64 x)), .d (.sl (L.map State.d))] (H.set j1 (.arr (os.map fun x => .i .i64 x) false)) rfl rfl]
/-- Of some states that may be, one is the best. -/
theorem best_some {os : List Int} {L : List State} (h : os.length = L.length) (h0 : 0 < L.length) (hst : ∀ s ∈ L, isSt s = true) : ∃ (b : Nat) (t : State), bestS os L = (b : Int) ∧ L[b]? = some t := by
 have hany : (L.any fun s => !isSt s) = false := by
  rw [List.any_eq_false]
  intro x hx
  rw [hst x hx]
  decide
 rcases best_top L os h with ⟨h1, _⟩ | ⟨b, o, s, h1, _, h3, _⟩
 ·rw [h1] at h0; simp at h0
 ·refine ⟨b, s, ?_, h3⟩
  unfold bestS
  rw [if_neg (by rw [hany]; simp [h]), h1]
theorem plan_some {l : List Inc} {g : Int} {os : List Int} {L : List State} {b : Nat} {t : State} (hb : bestS os L = (b : Int)) (ht : L[b]? = some t) : planOf l g os L = ⟨(b : Int), !enoughB l g os (startedS L), L.map fun s => makeM s t⟩ := by
 unfold planOf
 rw [hb, if_neg (by omega)]
 have : L.getD ((b : Int)).toNat State.zero = t := by rw [Int.toNat_natCast, List.getD_eq_getElem?_getD, ht]; rfl
 rw [this]
theorem iv0 : (ivL [] 0).length = 1 ∧ (ivL [] 1).length = 1 ∧ (ivL [] 2).length = 1 ∧ (ivL [] 3).length = 1 := by decide +kernel
theorem lacks0 (g : Int) (hg : 0 ≤ g ∧ g < 4) (A : List Int) (st : Int) : lacksL [] g A st = [] := by
 have h : (ivL [] g).length = 1 := by
  obtain ⟨a, b, c, d⟩ := iv0
  obtain rfl | rfl | rfl | rfl : g = 0 ∨ g = 1 ∨ g = 2 ∨ g = 3 := by omega
  ·exact a
  ·exact b
  ·exact c
  ·exact d
 unfold lacksL
 rw [h]
 rfl
theorem enough0 (g : Int) (hg : 0 ≤ g ∧ g < 4) (A : List Int) (st : Int) : enoughB [] g A st = (lastI (ivL [] g)).acting.all fun x => decide (x ∈ A) := by
 unfold enoughB
 rw [lacks0 g hg, List.all_eq_not_any_not]
 rfl
theorem started_is {s : State} (ho : stOk s) (h : isSt s = true) {x : Int} (hx : x ≤ 60) : stOk { s with started := x } ∧ isSt { s with started := x } = true := by
 refine ⟨⟨ho.n, ho.log⟩, ?_⟩
 unfold isSt at h ⊢
 simp only [Bool.and_eq_true] at h ⊢
 exact ⟨by simp; omega, h.2⟩
theorem foldl_started (x : Int) : ∀ (l : List Entry) (s : State), (l.foldl foldE { s with started := x }).base = (l.foldl foldE s).base
 | [], _ => rfl
 | e :: l, s => foldl_started x l (foldE s e)
theorem fold_started {s : State} (ho : stOk s) (h : isSt s = true) {x : Int} (hx : x ≤ 60) : foldS { s with started := x } = foldS s := by
 unfold foldS
 rw [if_pos h, if_pos (started_is ho h hx).2]
 exact foldl_started x _ s
theorem makeM_self {s : State} (h : isSt s = true) : (makeM s s).kind = 0 := by
 unfold makeM
 rw [if_pos (by rw [h]; rfl), if_pos rfl]
def O5 : List Int := [0, 1, 2, 3, 4]
theorem O5_asc : ∀ (i : Nat) (a b : Int), O5[i]? = some a → O5[i + 1]? = some b → a < b := by
 intro i a b h1 h2
 match i, h1, h2 with
 | 0, h1, h2 => cases h1; cases h2; decide
 | 1, h1, h2 => cases h1; cases h2; decide
 | 2, h1, h2 => cases h1; cases h2; decide
 | 3, h1, h2 => cases h1; cases h2; decide
 | i + 4, h1, h2 => simp [O5] at h2
theorem enough5 (g : Int) (hg : g = 0 ∨ g = 1) (st : Int) : enoughB [] g O5 st = true := by
 rcases hg with rfl | rfl
 ·rw [enough0 0 (by decide)]; decide +kernel
 ·rw [enough0 1 (by decide)]; decide +kernel
end Go.Proofs.YthlpognahlnaaaaGreat

namespace Go.Proofs.YthlpognahlnaaaaGreat
open Pv Go Pk
set_option maxRecDepth 10000
set_option maxHeartbeats 4000000
theorem loses_law (L : List State) (hL : L.length ≤ maxLen) (hf : ∀ x ∈ L, stFull x) : evF C F_q1p [.d (.sl (L.map State.d))] [] = some (.d (.b true), []) := by
 have hLl : (L.map State.d).length = L.length := List.length_map _
 have hfew := few25_at L hL hf
 have hkn := known25_at
 rw [evF_code (rfl : C F_q1p = some a_q1p) _ _ rfl]
 rcases (Bool.eq_false_or_eq_true (few25 L)).symm with c1 | c1
 ·simp +decide only [c_q1p, hkn, hfew, hLl, c1, guardR_und, Pk.EVL, Pk.EVD, ↓reduceIte, reduceCtorEq, Nat.reduceEqDiff, Nat.reduceAdd, Nat.reduceLeDiff, Nat.reduceBNe, Nat.reduceLT, Nat.reduceBEq, Nat.reduceSub, Nat.reduceMul, Int.reduceLT, Int.reduceLE, Int.reduceEq, Int.reduceToNat, Int.reduceNeg]
 rcases Bool.eq_false_or_eq_true (decide (((L.length : Nat) : Int) < 5)) with c2 | c2
 ·simp +decide only [c_q1p, hkn, hfew, hLl, c1, c2, guardR_und, Pk.EVL, Pk.EVD, ↓reduceIte, reduceCtorEq, Nat.reduceEqDiff, Nat.reduceAdd, Nat.reduceLeDiff, Nat.reduceBNe, Nat.reduceLT, Nat.reduceBEq, Nat.reduceSub, Nat.reduceMul, Int.reduceLT, Int.reduceLE, Int.reduceEq, Int.reduceToNat, Int.reduceNeg]
 have hL5 : L.length = 5 := by
  have h1 := of_decide_eq_false c2
  have h2 := c1
  unfold few25 at h2
  rw [Bool.and_eq_true] at h2
  have := of_decide_eq_true h2.2
  omega
 have hst : ∀ s ∈ L, stOk s ∧ isSt s = true := fun s hs => by
  refine ⟨(hf s hs).ok, ?_⟩
  have h2 := c1
  unfold few25 at h2
  rw [Bool.and_eq_true, List.all_eq_true] at h2
  have := h2.1 s hs
  rw [Bool.and_eq_true] at this
  exact this.2
 obtain ⟨p, hP⟩ : ∃ p, ([] : Heap).length = p := ⟨_, rfl⟩
 obtain ⟨n, hn⟩ : ∃ n, p + 12 = n := ⟨_, rfl⟩
 have hPp : plain [] := fun _ => rfl
 have hnew := h_new hP
 have hl := hh_len hP hn
 have ha := hh_at hP hn
 have ha0 := hh_at0 hP hn
 have hs := hh_set hP hn
 have hs0 := hh_set0 hP hn
 have ht := hh_take hP hn
 have ht0 := hh_take0 hP hn
 obtain ⟨b, t, hb, htt⟩ := best_some (os := O5) (by rw [hL5]; rfl) (by omega) fun s hs => (hst s hs).2
 have htm := hst t (List.mem_of_getElem? htt)
 have htf := hf t (List.mem_of_getElem? htt)
 have hpl := plan_some (l := []) (g := 0) hb htt
 rw [enough5 0 (.inl rfl)] at hpl
 obtain ⟨PL, hPL⟩ : ∃ PL, planOf [] 0 O5 L = PL := ⟨_, rfl⟩
 have hPLb : PL.blocked = false := by rw [← hPL, hpl]; rfl
 have hPLd : PL.diffs = L.map fun s => makeM s t := by rw [← hPL, hpl]
 have hPLbest : PL.best = (b : Int) := by rw [← hPL, hpl]
 have q1 := Grb.frz_pl grb0_pl 0
 have q2 := Grb.frz_pl q1 0
 have hO : ([.i .i64 0, .i .i64 1, .i .i64 2, .i .i64 3, .i .i64 4] : List DV) = O5.map fun x => .i .i64 x := rfl
 have X1 : plain [.arr (O5.map fun x => .i .i64 x) false] := fun _ => rfl
 have X2 : plain [.arr (O5.map fun x => .i .i64 x) false, .box (.d (.agg PL.cs))] := fun _ => rfl
 have MK1 : evF C F_q3l [.ptr (p + 2) 0, .d (.i .u8 0), .view n 5 1 0 5, .d (.sl (L.map State.d))] (hh [] p [] grb0 [.arr (O5.map fun x => .i .i64 x) true]) = some (.d (.agg PL.cs), hh [] p [] (grb0.frz 0) [.arr (O5.map fun x => .i .i64 x) false]) := by
  rw [rmake_mix (p + 2) n 5 O5 L true _ 0 (by rw [ha0]; rfl) rfl, hs0, ← hPL]
  exact rmake_at hP hn hPp good_nil grb0_pl X1 (m := n + 1) rfl 0 (by decide) O5 L (by omega) (by rw [hL5]; rfl) O5_asc hst
 have G0 : ∀ k, ([] : Heap).all (ltO (0 + k)) = true := fun _ => rfl
 obtain ⟨t1, ht1⟩ : ∃ t1, ({ t with started := 1 } : State) = t1 := ⟨_, rfl⟩
 have ht1m : stOk t1 ∧ isSt t1 = true := by rw [← ht1]; exact started_is htm.1 htm.2 (by decide)
 have ht1f : stFull t1 := by rw [← ht1]; exact ⟨htf.n, htf.log⟩
 obtain ⟨L2, hL2⟩ : ∃ L2, List.replicate 5 t1 = L2 := ⟨_, rfl⟩
 have hL2l : L2.length = 5 := by rw [← hL2]; exact List.length_replicate
 have hL2m : ∀ s ∈ L2, s = t1 := fun s hs => by rw [← hL2] at hs; exact (List.mem_replicate.1 hs).2
 have DN1 : evF C F_q3k [.d (.agg PL.cs), .d (.sl (O5.map fun x => .i .i64 x)), .d (.sl (L.map State.d)), .d (.i .u32 1)] [] = some (.tup [.d (.sl (L2.map State.d)), .d (.i .i64 0)], []) := by
  rw [← hL2, ← ht1, ← hL5]
  exact done_plan (G := []) (m := 0) rfl G0 PL O5 L 1 (by omega) (by rw [hL5]; rfl) t hPLd hPLb hst htm
 obtain ⟨b2, t2, hb2, htt2⟩ := best_some (os := O5) (L := L2) (by rw [hL2l]; rfl) (by omega) fun s hs => by rw [hL2m s hs]; exact ht1m.2
 have ht2 : t2 = t1 := hL2m t2 (List.mem_of_getElem? htt2)
 subst ht2
 have hpl2 := plan_some (l := []) (g := 0) hb2 htt2
 rw [enough5 0 (.inl rfl)] at hpl2
 obtain ⟨PM, hPM⟩ : ∃ PM, planOf [] 0 O5 L2 = PM := ⟨_, rfl⟩
 have hPMb : PM.blocked = false := by rw [← hPM, hpl2]; rfl
 have hPMd : PM.diffs = L2.map fun s => makeM s t2 := by rw [← hPM, hpl2]
 have hst2 : ∀ s ∈ L2, stOk s ∧ isSt s = true := fun s hs => by rw [hL2m s hs]; exact ht1m
 have MK2 : evF C F_q3l [.ptr (p + 2) 0, .d (.i .u8 0), .view n 5 1 0 5, .d (.sl (L2.map State.d))] (hh [] p [] (grb0.frz 0) [.arr (O5.map fun x => .i .i64 x) false, .box (.d (.agg PL.cs))]) = some (.d (.agg PM.cs), hh [] p [] ((grb0.frz 0).frz 0) [.arr (O5.map fun x => .i .i64 x) false, .box (.d (.agg PL.cs))]) := by
  rw [rmake_mix (p + 2) n 5 O5 L2 false _ 0 (by rw [ha0]; rfl) rfl, hs0, ← hPM]
  exact rmake_at hP hn hPp good_nil q1 X2 (m := n + 2) rfl 0 (by decide) O5 L2 (by omega) (by rw [hL2l]; rfl) O5_asc hst2
 have DN2 : evF C F_q3k [.d (.agg PM.cs), .d (.sl (O5.map fun x => .i .i64 x)), .d (.sl (L2.map State.d)), .d (.i .u32 1)] [] = some (.tup [.d (.sl (L2.map State.d)), .d (.i .i64 0)], []) := by
  have h := done_plan (G := []) (m := 0) rfl G0 PM O5 L2 1 (by omega) (by rw [hL2l]; rfl) t2 hPMd hPMb hst2 ht1m
  rw [hL2l, show ({ t2 with started := 1 } : State) = t2 by rw [← ht1], hL2] at h
  exact h
 have hac := State.all_cells L
 have hOl : (O5.map fun x : Int => DV.i .i64 x).length = 5 := rfl
 have hOs : subL (O5.map fun x : Int => DV.i .i64 x) 0 5 = O5.map fun x => .i .i64 x := rfl
 have hLs : List.take 5 (L.map State.d) = L.map State.d := List.take_of_length_le (by rw [hLl]; omega)
 have hLs' : subL (L.map State.d) 0 5 = L.map State.d := hLs
 have hLn : ((5 : Int) ≤ ((L.length : Nat) : Int)) = True := eq_true (by omega)
 simp +decide only [c_q1p, hkn, hfew, c1, c2, hLl, hO, hnew, MK1, DN1, MK2, DN2, hPLb, hPMb, hOl, hOs, hLs, hLs', hLn, hac, hl, ha, ha0, hs, hs0, ht, ht0, hh_push, Nat.zero_le, Nat.le_refl, List.take_zero, plain_nil, plain_arr, plain_box, thaws, thaw, guardR_und, Pk.EVL, Pk.EVD, ↓reduceIte, reduceCtorEq, Nat.reduceEqDiff, Nat.reduceAdd, Nat.reduceLeDiff, Nat.reduceBNe, Nat.reduceLT, Nat.reduceBEq, Nat.reduceSub, Nat.reduceMul, Int.reduceLT, Int.reduceLE, Int.reduceEq, Int.reduceToNat, Int.reduceNeg, Pk.TY_Plan]
 simp only [Option.bind_assoc]
 have F1 := reffold_at t2 ht1f
 have F2 := reffold_at t htf
 have hfe : foldS t2 = foldS t := by rw [← ht1]; exact fold_started htm.1 htm.2 (by decide)
 rw [hfe] at F1
 have SM := refsame_at t2 t2 (by have := isSt_len ht1m.2; omega)
 rw [decide_eq_true rfl] at SM
 have MS := makeM_self ht1m.2
 have MD : AV.eptr (makeM t2 t2).cs = .eptr (.i .i64 0 :: (makeM t2 t2).cs.tail) := by rw [← MS]; rfl
 have hPMl : (PM.diffs.map Diff.d).length = 5 := by rw [hPMd, List.length_map, List.length_map, hL2l]
 have hL2dl : (L2.map State.d).length = 5 := by rw [List.length_map, hL2l]
 have hbl : b < 5 := by have := (List.getElem?_eq_some_iff.1 htt).1; omega
 have htd := list_idx State.d htt
 have hat2 : ∀ Y, hh [] p [] ((grb0.frz 0).frz 0) Y = hh [] p [] ((grb0.frz 0).frz 0) Y := fun _ => rfl
 refine bind_run (loop_run (fun i T H => lk T 0 = .d (.sl (L.map State.d)) ∧ lk T 5 = .ptr (n + 1) 0 ∧ lk T 6 = .d (.sl (L2.map State.d)) ∧ lk T 8 = .ptr (n + 2) 0 ∧ lk T 9 = .d (.sl (L2.map State.d)) ∧ lk T 11 = .d (.i .i64 (i : Nat)) ∧ H = hh [] p [] ((grb0.frz 0).frz 0) [.arr (O5.map fun x => .i .i64 x) false, .box (.d (.agg PL.cs)), .box (.d (.agg PM.cs))])
  (fun e T H => e = .exit 0) 5 ?_ ?_ 5 0 _ _ (by omega) ⟨rfl, rfl, rfl, rfl, rfl, rfl, rfl⟩) ?_
 ·rintro i T H hi ⟨h0, h5, h6, h8, h9, h11, rfl⟩
  have hs2 : L2[i]? = some t2 := by rw [← hL2]; exact List.getElem?_replicate_of_lt hi
  have hsd := list_idx State.d hs2
  have hdi : PM.diffs[i]? = some (makeM t2 t2) := by rw [hPMd, List.getElem?_map, hs2]; rfl
  have hdd := list_idx Diff.d hdi
  have hd : decide ((i : Int) < 5) = true := by simp; omega
  have hw : IntKind.i64.wrap ((i : Int) + 1) = ((i + 1 : Nat) : Int) := wi64 (by omega)
  have b0 : (0 ≤ (i : Int)) = True := by simp
  have b1 : ((i : Int) < ((5 : Nat) : Int)) = True := eq_true (by omega)
  have b2 : (0 ≤ (b : Int)) = True := by simp
  have b3 : ((b : Int) < ((L.length : Nat) : Int)) = True := eq_true (by omega)
  have bn : (foldS t) = foldS t := rfl
  have htk := ht [] ((grb0.frz 0).frz 0) [.arr (O5.map fun x => .i .i64 x) false, .box (.d (.agg PL.cs)), .box (.d (.agg PM.cs))] 3
  have hal := hh_all hP hn hPp [] q2 (Y := [.arr (O5.map fun x => .i .i64 x) false, .box (.d (.agg PL.cs)), .box (.d (.agg PM.cs))]) (fun _ => rfl) 3
  have ne0 : ((0 : Int) != 0) = false := rfl
  simp +decide only [K_q1p_0, l_q1p_0, h0, h5, h6, h8, h9, h11, hLl, hL2dl, hPMl, hPLbest, hsd, hdd, htd, F1, F2, SM, MS, MD, hd, hw, b0, b1, b2, b3, htk, hal, ne0, ite_self, Int.toNat_natCast, hl, ha, ha0, hs, hs0, guardR_und, Pk.EVL, Pk.EVD, ↓reduceIte, reduceCtorEq, Nat.reduceEqDiff, Nat.reduceAdd, Nat.reduceLeDiff, Nat.reduceBNe, Nat.reduceLT, Nat.reduceBEq, Nat.reduceSub, Nat.reduceMul, Int.reduceLT, Int.reduceLE, Int.reduceEq, Int.reduceToNat, Int.reduceNeg, Pk.TY_Plan, Pk.TY_State, Pk.TY_Diff, Pk.TY_Base]
  exact ⟨_, _, _, rfl, .inl ⟨rfl, rfl, rfl, rfl, rfl, rfl, rfl, rfl⟩⟩
 ·rintro T H ⟨h0, h5, h6, h8, h9, h11, rfl⟩
  have htk := ht [] ((grb0.frz 0).frz 0) [.arr (O5.map fun x => .i .i64 x) false, .box (.d (.agg PL.cs)), .box (.d (.agg PM.cs))] 3
  have hal := hh_all hP hn hPp [] q2 (Y := [.arr (O5.map fun x => .i .i64 x) false, .box (.d (.agg PL.cs)), .box (.d (.agg PM.cs))]) (fun _ => rfl) 3
  simp +decide only [K_q1p_0, l_q1p_0, h0, h5, h6, h8, h9, h11, htk, hal, ite_self, Pk.EVL, Pk.EVD, ↓reduceIte, reduceCtorEq, Nat.reduceEqDiff, Nat.reduceAdd, Nat.reduceLeDiff, Nat.reduceBNe, Nat.reduceLT, Nat.reduceBEq, Nat.reduceSub, Nat.reduceMul, Int.reduceLT, Int.reduceLE, Int.reduceEq, Int.reduceToNat, Int.reduceNeg]
  exact ⟨_, _, _, rfl, by simp, rfl⟩
 rintro e T H rfl
 simp +decide only [List.take_zero, Pk.EVL, Pk.EVD, ↓reduceIte, reduceCtorEq, Nat.reduceEqDiff, Nat.reduceAdd, Nat.reduceLeDiff, Nat.reduceBNe, Nat.reduceLT, Nat.reduceBEq, Nat.reduceSub, Nat.reduceMul, Int.reduceLT, Int.reduceLE, Int.reduceEq, Int.reduceToNat, Int.reduceNeg]
end Go.Proofs.YthlpognahlnaaaaGreat
