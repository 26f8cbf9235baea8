/- What the laws of repairs know; a plan is done. / The best of states (plain): nobody counts more; the order plays no part. / Plans of states that may be: what they come to. Plain laws; plans of a row in an array and a row. -/
import Derived.Test.YthlpognahlnaaaaGreatPkEvd
import Derived.Test.YthlpognahlnaaaaGreatRpC
import Derived.Test.YthlpognahlnaaaaGreatChC
import Derived.Test.YthlpognahlnaaaaGreatChD
set_option linter.all false
namespace Go.Proofs.YthlpognahlnaaaaGreat
open Pv Go Pk
set_option maxRecDepth 10000
set_option maxHeartbeats 4000000
theorem makeM_log {a b : State} {e : Entry} (h : e ∈ (makeM a b).log) : e ∈ b.log := by
 unfold makeM at h
 split at h
 ·split at h
  ·simp at h
  ·split at h
   ·exact List.mem_of_mem_drop h
   ·simp at h
 ·simp [Diff.zero] at h
/-- A plan that isn't blocked, of states that may be, comes to what all have. -/
theorem done_plan {G : Heap} {m : Nat} (hG : G.length = m) (hGa : ∀ k, G.all (ltO (m + k)) = true) (p : Plan) (os : List Int) (L : List State) (since : Int) (hL : L.length ≤ 1000) (h1 : os.length = L.length) (t : State) (hp : p.diffs = L.map fun s => makeM s t) (h3 : p.blocked = false)
  (hst : ∀ s ∈ L, stOk s ∧ isSt s = true) (ht : stOk t ∧ isSt t = true) :
  evF C F_q3k [.d (.agg p.cs), .d (.sl (os.map fun x => .i .i64 x)), .d (.sl (L.map State.d)), .d (.i .u32 since)] G = some (.tup [.d (.sl ((List.replicate L.length { t with started := since }).map State.d)), .d (.i .i64 0)], G) := by
 have hd : doneL since L p.diffs = List.replicate L.length { t with started := since } := by
  rw [hp]
  unfold doneL
  apply List.ext_getElem?
  intro i
  by_cases hi : i < L.length
  ·rw [List.getElem?_replicate_of_lt hi, List.getElem?_zipWith, List.getElem?_map]
   obtain ⟨s, hs⟩ : ∃ s, L[i]? = some s := ⟨L[i], List.getElem?_eq_getElem hi⟩
   have := hst s (List.mem_of_getElem? hs)
   rw [hs]
   show some _ = some _
   rw [back_gen this.1 ht.1 this.2 ht.2]
  ·rw [List.getElem?_eq_none (by rw [List.length_zipWith, List.length_map]; omega), List.getElem?_eq_none (by rw [List.length_replicate]; omega)]
 rw [← hd]
 refine rdone_at hG hGa p os L since hL h1 (by rw [hp, List.length_map]) h3 (fun s hs => (hst s hs).1) ?_ ?_
 ·intro d hd
  rw [hp] at hd
  obtain ⟨s, hs, rfl⟩ := List.mem_map.1 hd
  refine ⟨fun e he => ht.1.log e (makeM_log he), ?_⟩
  have h6 := isSt_len ht.2
  have := (makeM_len s t (by omega)).1
  omega
 ·intro i s d hs hd
  rw [hp, List.getElem?_map, hs] at hd
  have := hst s (List.mem_of_getElem? hs)
  cases hd
  rw [back_gen this.1 ht.1 this.2 ht.2]
theorem frz2_sub (h g : AV) (j1 j2 g1 g2 k : Nat) (hne : j1 ≠ j2) (es ls : List DV) (w1 w2 : Bool) (H : Heap) (h1 : H[j1]? = some (.arr es w1)) (h2 : H[j2]? = some (.arr ls w2)) (k1 : es.length = g1) (k2 : ls.length = g2) (l1 : k ≤ g1) (l2 : k ≤ g2) :
  frzL [false, false, true, true] H [h, g, .view j1 g1 1 0 k, .view j2 g2 49 0 k] = ([h, g, .d (.sl (es.take k)), .d (.sl (ls.take k))], (H.set j1 (.arr es false)).set j2 (.arr ls false)) := by
 have h2' : (H.set j1 (.arr es false))[j2]? = some (.arr ls w2) := by rw [List.getElem?_set_ne hne]; exact h2
 simp [frzL, frzV, toD, h1, h2', k1, k2, l1, l2, subL]
theorem rmake_sub (o j1 j2 g1 g2 k : Nat) (hne : j1 ≠ j2) (os : List Int) (L : List State) (w1 w2 : Bool) (H : Heap) (g : Int) (h1 : H[j1]? = some (.arr (os.map fun x => .i .i64 x) w1)) (h2 : H[j2]? = some (.arr (L.map State.d) w2)) (k1 : os.length = g1) (k2 : L.length = g2) (l1 : k ≤ g1) (l2 : k ≤ g2) :
  evF C F_q3l [.ptr o 0, .d (.i .u8 g), .view j1 g1 1 0 k, .view j2 g2 49 0 k] H = evF C F_q3l [.ptr o 0, .d (.i .u8 g), .d (.sl ((os.take k).map fun x => .i .i64 x)), .d (.sl ((L.take k).map State.d))] ((H.set j1 (.arr (os.map fun x => .i .i64 x) false)).set j2 (.arr (L.map State.d) false)) := by
 rw [evF_codef (rfl : C F_q3l = some f_q3l) _ _ _ _ (frz2_sub _ _ j1 j2 g1 g2 k hne _ _ w1 w2 H h1 h2 (by rw [List.length_map]; exact k1) (by rw [List.length_map]; exact k2) l1 l2) rfl, List.map_take, List.map_take,
  evF_codef (rfl : C F_q3l = some f_q3l) _ _ [.ptr o 0, .d (.i .u8 g), .d (.sl ((os.map fun x => .i .i64 x).take k)), .d (.sl ((L.map State.d).take k))] ((H.set j1 (.arr (os.map fun x => .i .i64 x) false)).set j2 (.arr (L.map State.d) false)) rfl rfl]
def sK : State := ⟨0, Base.zero, Entry.zero, [⟨1, 1, ⟨1, 1, 1, 0, 0, ⟨#[]⟩⟩⟩]⟩
def LK : List State := [State.zero, State.zero, sK]
def pK : Plan := planOf [] 0 [2, 3, 4] LK
def pK1 : Plan := planOf [] 0 [2] [State.zero]
theorem sK_ok : stOk sK ∧ isSt sK = true := ⟨⟨by decide, fun e he => by
 have : e = ⟨1, 1, ⟨1, 1, 1, 0, 0, ⟨#[]⟩⟩⟩ := by simpa [sK] using he
 rw [this]
 unfold Opr.ok
 refine ⟨by decide, by decide, by decide, by decide, by decide, by decide⟩⟩, by decide +kernel⟩
theorem sz_ok : stOk State.zero ∧ isSt State.zero = true := ⟨⟨by decide, okLog_zero⟩, by decide +kernel⟩
theorem LK_ok : ∀ s ∈ LK, stOk s ∧ isSt s = true := by
 intro s hs
 simp [LK] at hs
 rcases hs with rfl | rfl
 ·exact sz_ok
 ·exact sK_ok
theorem pK_best : pK.best = 2 := by decide +kernel
theorem pK_blocked : pK.blocked = false := by decide +kernel
theorem pK_diffs : pK.diffs = LK.map fun s => makeM s sK := by decide +kernel
theorem pK_cost : costD pK.diffs = 2 := by decide +kernel
theorem pK1_blocked : pK1.blocked = true := by decide +kernel
theorem eptr_st (s : State) : AV.eptr s.cs = .eptr (.i .u32 s.started :: s.cs.tail) := rfl
theorem tail_len (s : State) : (48 ≤ s.cs.tail.length) = True := eq_true (show 48 ≤ s.cs.tail.length from Nat.le_refl 48)
theorem tail_cs (s : State) : DV.i .u32 s.started :: List.take 48 s.cs.tail = s.cs := rfl
theorem tail_log (s : State) : List.drop 47 s.cs.tail = [.sl (s.log.map Entry.d)] := rfl
theorem wvK (v : AV) : upd State.zeroA 48 [v] = State.withV State.zero v := rfl
theorem known25_at : evF C F_q1s [] [] = some (.d (.b true), []) := by
 obtain ⟨p, hP⟩ : ∃ p, ([] : Heap).length = p := ⟨_, rfl⟩
 obtain ⟨n, hn⟩ : ∃ n, p + 12 = n := ⟨_, rfl⟩
 have hPp : plain [] := fun _ => rfl
 have hnew := h_new hP
 have hl := hh_len hP hn
 have ha := hh_at hP hn
 have ha0 := hh_at0 hP hn
 have hs := hh_set hP hn
 have hs0 := hh_set0 hP hn
 have ht := hh_take hP hn
 have ht0 := hh_take0 hP hn
 have hac : (lastI (ivL [] 0)).acting = [4, 3, 2] := by decide +kernel
 have C0 := @h_acting _ _ hP hPp [] good_nil _ grb0_pl [] (fun _ => rfl) 0 (by decide)
 have SO : evF C F_q1t [.d (.sl [.i .i64 4, .i .i64 3, .i .i64 2])] [] = some (.view 0 3 1 0 3, [.arr [.i .i64 2, .i .i64 3, .i .i64 4] true]) := sorted_at [4, 3, 2] (by decide)
 have fK : (List.take 48 State.zero.cs ++ [DV.sl [DV.agg (Entry.cs ⟨1, 1, ⟨1, 1, 1, 0, 0, ⟨#[]⟩⟩⟩)]]) = sK.cs := rfl
 obtain ⟨E, hE⟩ : ∃ E : List DV, E = [DV.agg (Entry.cs ⟨1, 1, ⟨1, 1, 1, 0, 0, ⟨#[]⟩⟩⟩)] := ⟨_, rfl⟩
 have q1 := Grb.frz_pl grb0_pl 0
 have q2 := Grb.frz_pl q1 0
 have X1 : plain [.arr E false, .arr (LK.map State.d) false, .arr [.i .i64 2, .i .i64 3, .i .i64 4] false] := fun _ => rfl
 have X2 : plain [.arr E false, .arr (LK.map State.d) false, .arr [.i .i64 2, .i .i64 3, .i .i64 4] false, .box (.d (.agg pK.cs))] := fun _ => rfl
 have MK1 : evF C F_q3l [.ptr (p + 2) 0, .d (.i .u8 0), .view (n + 2) 3 1 0 3, .view (n + 1) 3 49 0 3] (hh [] p [] grb0 [.arr E false, .arr [.agg State.zero.cs, .agg State.zero.cs, .agg sK.cs] true, .arr [.i .i64 2, .i .i64 3, .i .i64 4] true]) =
   some (.d (.agg pK.cs), hh [] p [] (grb0.frz 0) [.arr E false, .arr (LK.map State.d) false, .arr [.i .i64 2, .i .i64 3, .i .i64 4] false]) := by
  rw [rmake_view (p + 2) (n + 2) (n + 1) 3 (by omega) [2, 3, 4] LK true true _ 0 (by rw [ha]; rfl) (by rw [ha]; rfl) rfl rfl, hs, hs]
  exact rmake_at hP hn hPp good_nil grb0_pl X1 (m := n + 3) rfl 0 (by decide) [2, 3, 4] LK (by decide) rfl (by
   intro i a b h1 h2
   match i, h1, h2 with
   | 0, h1, h2 => cases h1; cases h2; decide
   | 1, h1, h2 => cases h1; cases h2; decide
   | i + 2, h1, h2 => simp at h2) LK_ok
 obtain ⟨LD, hLD⟩ : ∃ LD : List State, List.replicate LK.length { sK with started := 1 } = LD := ⟨_, rfl⟩
 have G0 : ∀ k, ([] : Heap).all (ltO (0 + k)) = true := fun _ => rfl
 have DN1 : evF C F_q3k [.d (.agg pK.cs), .d (.sl [.i .i64 2, .i .i64 3, .i .i64 4]), .d (.sl (LK.map State.d)), .d (.i .u32 1)] [] = some (.tup [.d (.sl (LD.map State.d)), .d (.i .i64 0)], []) := by
  rw [← hLD]
  exact done_plan (G := []) (m := 0) rfl G0 pK [2, 3, 4] LK 1 (by decide) rfl sK pK_diffs pK_blocked LK_ok sK_ok
 have MK2 : evF C F_q3l [.ptr (p + 2) 0, .d (.i .u8 0), .view (n + 2) 3 1 0 1, .view (n + 1) 3 49 0 1] (hh [] p [] (grb0.frz 0) [.arr E false, .arr (LK.map State.d) false, .arr [.i .i64 2, .i .i64 3, .i .i64 4] false, .box (.d (.agg pK.cs))]) =
   some (.d (.agg pK1.cs), hh [] p [] ((grb0.frz 0).frz 0) [.arr E false, .arr (LK.map State.d) false, .arr [.i .i64 2, .i .i64 3, .i .i64 4] false, .box (.d (.agg pK.cs))]) := by
  rw [rmake_sub (p + 2) (n + 2) (n + 1) 3 3 1 (by omega) [2, 3, 4] LK false false _ 0 (by rw [ha]; rfl) (by rw [ha]; rfl) rfl rfl (by decide) (by decide), hs, hs]
  exact rmake_at hP hn hPp good_nil q1 X2 (m := n + 4) rfl 0 (by decide) [2] [State.zero] (by decide) rfl (by intro i a b h1 h2; simp at h2) (by intro s hs; simp at hs; subst hs; exact sz_ok)
 have DN2 : evF C F_q3k [.d (.agg pK1.cs), .d (.sl [.i .i64 2]), .d (.sl [.agg State.zero.cs]), .d (.i .u32 1)] [] = some (.tup [.d (.sl []), .d (.i .i64 80)], []) :=
  rdone_no (G := []) (m := 0) rfl G0 pK1 [2] [State.zero] 1 (.inr (.inr pK1_blocked))
 have sb1 : subL (LK.map State.d) 0 3 = LK.map State.d := rfl
 have sb2 : subL (LK.map State.d) 0 1 = [.agg State.zero.cs] := rfl
 have sb3 : ∀ a b c : DV, subL [a, b, c] 0 1 = [a] := fun _ _ _ => rfl
 have sb4 : ∀ a b c : DV, subL [a, b, c] 0 3 = [a, b, c] := fun _ _ _ => rfl
 have v1 : (((1 : Nat) : Int) == 1) = true := rfl
 have v2 : (((2 : Nat) : Int) == 2) = true := rfl
 have v3 : (((3 : Nat) : Int) == 3) = true := rfl
 have v4 : (((3 : Nat) : Int) != 3) = false := rfl
 have v5 : ((1 : Int) == 1) = true := rfl
 have LKl : (LK.map State.d).length = 3 := rfl
 have CO := rcost_at pK (by decide +kernel) (by decide +kernel)
 rw [pK_cost] at CO
 have pb := pK_best
 have pbl := pK_blocked
 have hLK : ([.agg State.zero.cs, .agg State.zero.cs, .agg sK.cs] : List DV) = LK.map State.d := rfl
 have LDl : (LD.map State.d).length = 3 := by rw [← hLD]; rfl
 have LD0 : (LD.map State.d)[0]? = some (State.d { sK with started := 1 }) := by rw [← hLD]; rfl
 have LD1 : (LD.map State.d)[1]? = some (State.d { sK with started := 1 }) := by rw [← hLD]; rfl
 have LDo : (({ sK with started := 1 } : State).log.map Entry.d).length = 1 := rfl
 have LDs : ({ sK with started := 1 } : State).started = 1 := rfl
 subst hE
 generalize pK = PK at *
 generalize pK1 = PK1 at *
 rw [evF_code (rfl : C F_q1s = some a_q1s) _ _ rfl]
 simp +decide only [c_q1s, hnew, C0, hac, SO, List.map_cons, List.map_nil, fK, MK1, DN1, MK2, DN2, CO, pb, pbl, sb1, sb2, sb3, sb4, v1, v2, v3, v4, v5, eptr_st, tail_len, tail_cs, tail_log, LKl, LDl, LD0, LD1, LDo, LDs, wvK, hl, ha, ha0, hs, hs0, ht, ht0, hh_push, Nat.zero_le, Nat.le_refl, List.take_zero, plain_nil, plain_arr, plain_box, Pk.EVL, Pk.EVD, ↓reduceIte, reduceCtorEq, Nat.reduceEqDiff, Nat.reduceAdd, Nat.reduceLeDiff, Nat.reduceBNe, Nat.reduceLT, Nat.reduceBEq, Nat.reduceSub, Nat.reduceMul, Int.reduceLT, Int.reduceLE, Int.reduceEq, Int.reduceToNat, Int.reduceNeg, Pk.TY_State, Pk.TY_Entry, Pk.TY_Opr, Pk.TY_Plan]
end Go.Proofs.YthlpognahlnaaaaGreat

namespace Go.Proofs.YthlpognahlnaaaaGreat
open Pv Go Pk
set_option maxRecDepth 10000
set_option maxHeartbeats 2000000
theorem beats_iff (c d : Cand) : beats c d = true ↔ (c.started > d.started ∨ (c.started = d.started ∧ (c.since > d.since ∨ (c.since = d.since ∧ (c.n > d.n ∨ (c.n = d.n ∧ c.osd < d.osd)))))) := by
 unfold beats
 by_cases h1 : c.started = d.started <;> by_cases h2 : c.since = d.since <;> by_cases h3 : c.n = d.n <;> simp [h1, h2, h3] <;> omega
theorem beats_not {c d : Cand} : beats c d = false ↔ ¬ beats c d = true := by simp
theorem best_top (L : List State) : ∀ os : List Int, os.length = L.length → (L = [] ∧ (bestFold os L).1 = -1) ∨ ∃ (b : Nat) (o : Int) (s : State), (bestFold os L).1 = (b : Int) ∧ os[b]? = some o ∧ L[b]? = some s ∧ (bestFold os L).2 = candOf o s ∧
  ∀ (i : Nat) (o' : Int) (s' : State), os[i]? = some o' → L[i]? = some s' → beats (candOf o' s') (candOf o s) = false := by
 refine list_snoc_ind (M := fun L => ∀ os : List Int, os.length = L.length → (L = [] ∧ (bestFold os L).1 = -1) ∨ ∃ (b : Nat) (o : Int) (s : State), (bestFold os L).1 = (b : Int) ∧ os[b]? = some o ∧ L[b]? = some s ∧ (bestFold os L).2 = candOf o s ∧
  ∀ (i : Nat) (o' : Int) (s' : State), os[i]? = some o' → L[i]? = some s' → beats (candOf o' s') (candOf o s) = false) ?_ ?_ L
 ·intro os h
  have : os = [] := List.eq_nil_of_length_eq_zero h
  subst this
  exact .inl ⟨rfl, rfl⟩
 ·intro L s ih os h
  obtain ⟨o, os', rfl⟩ : ∃ o os', os = os' ++ [o] := by
   have hne : os ≠ [] := by intro hh; rw [hh] at h; simp at h
   exact ⟨os.getLast hne, os.dropLast, (List.dropLast_concat_getLast hne).symm⟩
  have hl : os'.length = L.length := by simp at h; exact h
  rw [bestFold_snoc _ _ _ _ hl]
  refine .inr ?_
  have hlast : ∀ (i : Nat) (o' : Int) (s' : State), (os' ++ [o])[i]? = some o' → (L ++ [s])[i]? = some s' → (os'[i]? = some o' ∧ L[i]? = some s') ∨ (o' = o ∧ s' = s) := by
   intro i o' s' h1 h2
   by_cases c : i < L.length
   ·rw [List.getElem?_append_left (by omega)] at h1
    rw [List.getElem?_append_left c] at h2
    exact .inl ⟨h1, h2⟩
   ·rw [List.getElem?_append_right (by omega)] at h1
    rw [List.getElem?_append_right (by omega)] at h2
    have hi := (List.getElem?_eq_some_iff.1 h2).1
    simp at hi
    have : i - L.length = 0 := by omega
    rw [hl, this] at h1
    rw [this] at h2
    simp at h1 h2
    exact .inr ⟨h1.symm, h2.symm⟩
  have hnew : (os' ++ [o])[L.length]? = some o ∧ (L ++ [s])[L.length]? = some s := by
   constructor
   ·rw [← hl, List.getElem?_append_right (Nat.le_refl _), Nat.sub_self]; rfl
   ·rw [List.getElem?_append_right (Nat.le_refl _), Nat.sub_self]; rfl
  have hself : beats (candOf o s) (candOf o s) = false := by rw [beats_not, beats_iff]; omega
  rcases ih os' hl with ⟨rfl, hf⟩ | ⟨b, o1, s1, hb, ho, hs, htop, hmax⟩
  ·rw [if_pos (by rw [hf]; rfl)]
   refine ⟨0, o, s, rfl, hnew.1, hnew.2, rfl, ?_⟩
   intro i o' s' h1 h2
   rcases hlast i o' s' h1 h2 with ⟨_, h⟩ | ⟨rfl, rfl⟩
   ·simp at h
   ·exact hself
  ·by_cases c : beats (candOf o s) (bestFold os' L).2 = true
   ·rw [if_pos (by rw [c, Bool.or_true])]
    refine ⟨L.length, o, s, rfl, hnew.1, hnew.2, rfl, ?_⟩
    intro i o' s' h1 h2
    rcases hlast i o' s' h1 h2 with ⟨h1, h2⟩ | ⟨rfl, rfl⟩
    ·have hm := hmax i o' s' h1 h2
     rw [htop, beats_iff] at c
     rw [beats_not, beats_iff] at hm ⊢
     omega
    ·exact hself
   ·rw [if_neg (by rw [hb]; simp [c])]
    refine ⟨b, o1, s1, hb, ?_, ?_, htop, ?_⟩
    ·rw [List.getElem?_append_left (List.getElem?_eq_some_iff.1 ho).1]; exact ho
    ·rw [List.getElem?_append_left (List.getElem?_eq_some_iff.1 hs).1]; exact hs
    ·intro i o' s' h1 h2
     rcases hlast i o' s' h1 h2 with ⟨h1, h2⟩ | ⟨rfl, rfl⟩
     ·exact hmax i o' s' h1 h2
     ·rw [htop] at c
      exact eq_false_of_ne_true c
def rowN (n : Nat) : List Int := (List.range n).map fun i : Nat => (i : Int)
def turnN (n t k : Nat) : List Int := (List.range k).map fun i : Nat => (((i + t) % n : Nat) : Int)
def turnS (L : List State) (t k : Nat) : List State := (List.range k).map fun i : Nat => L.getD ((i + t) % L.length) State.zero
/-- Neither a later start nor more of the same start. -/
def noMore (s b : State) : Prop := s.started ≤ b.started ∧ (s.started = b.started → (headS s).1 ≤ (headS b).1 ∧ ((headS s).1 = (headS b).1 → (headS s).2 ≤ (headS b).2))
end Go.Proofs.YthlpognahlnaaaaGreat

namespace Go.Proofs.YthlpognahlnaaaaGreat
open Pv Go Pk
set_option maxRecDepth 10000
set_option maxHeartbeats 4000000
/-- Of some states that may be, one is the best. -/
theorem best_some {os : List Int} {L : List State} (h : os.length = L.length) (h0 : 0 < L.length) (hst : ∀ s ∈ L, isSt s = true) : ∃ (b : Nat) (t : State), bestS os L = (b : Int) ∧ L[b]? = some t := by
 have hany : (L.any fun s => !isSt s) = false := by
  rw [List.any_eq_false]
  intro x hx
  rw [hst x hx]
  decide
 rcases best_top L os h with ⟨h1, _⟩ | ⟨b, o, s, h1, _, h3, _⟩
 ·rw [h1] at h0; simp at h0
 ·refine ⟨b, s, ?_, h3⟩
  unfold bestS
  rw [if_neg (by rw [hany]; simp [h]), h1]
theorem plan_some {l : List Inc} {g : Int} {os : List Int} {L : List State} {b : Nat} {t : State} (hb : bestS os L = (b : Int)) (ht : L[b]? = some t) : planOf l g os L = ⟨(b : Int), !enoughB l g os (startedS L), L.map fun s => makeM s t⟩ := by
 unfold planOf
 rw [hb, if_neg (by omega)]
 have : L.getD ((b : Int)).toNat State.zero = t := by rw [Int.toNat_natCast, List.getD_eq_getElem?_getD, ht]; rfl
 rw [this]
theorem iv0 : (ivL [] 0).length = 1 ∧ (ivL [] 1).length = 1 ∧ (ivL [] 2).length = 1 ∧ (ivL [] 3).length = 1 := by decide +kernel
theorem lacks0 (g : Int) (hg : 0 ≤ g ∧ g < 4) (A : List Int) (st : Int) : lacksL [] g A st = [] := by
 have h : (ivL [] g).length = 1 := by
  obtain ⟨a, b, c, d⟩ := iv0
  obtain rfl | rfl | rfl | rfl : g = 0 ∨ g = 1 ∨ g = 2 ∨ g = 3 := by omega
  ·exact a
  ·exact b
  ·exact c
  ·exact d
 unfold lacksL
 rw [h]
 rfl
theorem enough0 (g : Int) (hg : 0 ≤ g ∧ g < 4) (A : List Int) (st : Int) : enoughB [] g A st = (lastI (ivL [] g)).acting.all fun x => decide (x ∈ A) := by
 unfold enoughB
 rw [lacks0 g hg, List.all_eq_not_any_not]
 rfl
def O5 : List Int := [0, 1, 2, 3, 4]
end Go.Proofs.YthlpognahlnaaaaGreat
