/- How much a difference bears; whether one goes on where another ends; what is known. / What a plan costs; what all become by it. -/
import Derived.Test.YthlpognahlnaaaaGreatPkEvd
import Derived.Test.YthlpognahlnaaaaGreatMgA
import Derived.Test.YthlpognahlnaaaaGreatChD
set_option linter.all false
namespace Go.Proofs.YthlpognahlnaaaaGreat
open Pv Go Pk
set_option maxRecDepth 10000
set_option maxHeartbeats 2000000
def thereN (b : Base) : Nat → Nat
 | 0 => 0
 | i + 1 => thereN b i + (if (b.objs.get i).there = true then 1 else 0)
theorem thereN_le (b : Base) : ∀ i, thereN b i ≤ i
 | 0 => Nat.le_refl _
 | i + 1 => by have := thereN_le b i; simp only [thereN]; split <;> omega
def bytesD (d : Diff) : Nat := d.log.length + d.whole.log.length + thereN d.whole.base 6
theorem bytes_at (d : Diff) (h1 : d.log.length ≤ 1000) (h2 : d.whole.log.length ≤ 1000) : evF C F_q17 [.d (.agg d.cs)] [] = some (.d (.i .i64 (bytesD d : Nat)), []) := by
 rw [evF_code (rfl : C F_q17 = some a_q17) _ _ rfl]
 have hw0 : IntKind.i64.wrap (((d.log.length : Nat) : Int) + ((d.whole.log.length : Nat) : Int)) = ((d.log.length + d.whole.log.length : Nat) : Int) := wi64 (by omega)
 unfold bytesD
 simp +decide only [c_q17, hw0, Pk.EVL, Pk.EVD, ↓reduceIte, reduceCtorEq, Nat.reduceEqDiff, Nat.reduceAdd, Nat.reduceLeDiff, Nat.reduceBNe, Nat.reduceLT, Nat.reduceBEq, Nat.reduceSub, Nat.reduceMul, Int.reduceLT, Int.reduceLE, Int.reduceEq, Int.reduceToNat, Int.reduceNeg, Pk.TY_Diff, Pk.TY_State]
 simp only [Option.bind_assoc]
 generalize hm : d.log.length + d.whole.log.length = m
 refine bind_run (loop_run (fun i T H => lk T 3 = .d (.i .i64 ((m + thereN d.whole.base i : Nat) : Int)) ∧ lk T 17 = .d (.agg (R6.cs Objt.cs d.whole.base.objs)) ∧ lk T 18 = .d (.i .i64 (i : Nat)) ∧ ∃ J, H = .box (.d (.agg d.cs)) :: J)
  (fun e T H => e = .exit 0 ∧ lk T 3 = .d (.i .i64 ((m + thereN d.whole.base 6 : Nat) : Int)) ∧ ∃ J, H = .box (.d (.agg d.cs)) :: J) 6 ?_ ?_ 6 0 _ _ (by omega) ⟨rfl, rfl, rfl, [], rfl⟩) ?_
 ·rintro i T H hi ⟨g3, g17, g18, J, rfl⟩
  have hd : decide ((i : Int) < 6) = true := by simp; omega
  have hw : IntKind.i64.wrap ((i : Int) + 1) = ((i + 1 : Nat) : Int) := wi64 (by omega)
  have b3 : ((i : Int) < ((6 : Nat) : Int)) = True := by simp; omega
  have b3' : (0 ≤ (i : Int)) = True := by simp
  have b4 : (i * 5 + 5 ≤ 30) = True := by simp; omega
  have hle := thereN_le d.whole.base i
  have hs : thereN d.whole.base (i + 1) = thereN d.whole.base i + (if (d.whole.base.objs.get i).there = true then 1 else 0) := rfl
  rcases Bool.eq_false_or_eq_true (d.whole.base.objs.get i).there with c | c
  ·rw [c, if_pos rfl] at hs
   have hw2 : IntKind.i64.wrap (((m + thereN d.whole.base i : Nat) : Int) + 1) = ((m + thereN d.whole.base (i + 1) : Nat) : Int) := by rw [hs, show ((m + thereN d.whole.base i : Nat) : Int) + 1 = ((m + (thereN d.whole.base i + 1) : Nat) : Int) by omega]; exact wi64 (by omega)
   simp +decide only [K_q17_0, l_q17_0, g3, g17, g18, hd, hw, hw2, b3, b3', b4, hi, c, Pk.EVL, Pk.EVD, ↓reduceIte, reduceCtorEq, Nat.reduceEqDiff, Nat.reduceAdd, Nat.reduceLeDiff, Nat.reduceBNe, Nat.reduceLT, Nat.reduceBEq, Nat.reduceSub, Nat.reduceMul, Int.reduceLT, Int.reduceLE, Int.reduceEq, Int.reduceToNat, Int.reduceNeg, Pk.TY_Base, Pk.TY_Objt]
   refine ⟨_, _, _, rfl, ?_⟩
   exact .inl ⟨rfl, rfl, rfl, rfl, _, rfl⟩
  ·rw [c, if_neg (by simp), Nat.add_zero] at hs
   simp +decide only [K_q17_0, l_q17_0, g3, g17, g18, hd, hw, b3, b3', b4, hi, c, Pk.EVL, Pk.EVD, ↓reduceIte, reduceCtorEq, Nat.reduceEqDiff, Nat.reduceAdd, Nat.reduceLeDiff, Nat.reduceBNe, Nat.reduceLT, Nat.reduceBEq, Nat.reduceSub, Nat.reduceMul, Int.reduceLT, Int.reduceLE, Int.reduceEq, Int.reduceToNat, Int.reduceNeg, Pk.TY_Base, Pk.TY_Objt]
   refine ⟨_, _, _, rfl, ?_⟩
   refine .inl ⟨rfl, ?_, rfl, rfl, _, rfl⟩
   rw [hs]
   rfl
 ·rintro T H ⟨g3, g17, g18, J, rfl⟩
  simp +decide only [K_q17_0, l_q17_0, g3, g17, g18, Pk.EVL, Pk.EVD, ↓reduceIte, reduceCtorEq, Nat.reduceEqDiff, Nat.reduceAdd, Nat.reduceLeDiff, Nat.reduceBNe, Nat.reduceLT, Nat.reduceBEq, Nat.reduceSub, Nat.reduceMul, Int.reduceLT, Int.reduceLE, Int.reduceEq, Int.reduceToNat, Int.reduceNeg, Pk.TY_Base]
  refine ⟨_, _, _, rfl, ?_⟩
  exact ⟨by simp, rfl, rfl, _, rfl⟩
 rintro e T H ⟨rfl, g3, J, rfl⟩
 simp +decide only [g3, Pk.EVL, Pk.EVD, ↓reduceIte, reduceCtorEq, Nat.reduceEqDiff, Nat.reduceAdd, Nat.reduceLeDiff, Nat.reduceBNe, Nat.reduceLT, Nat.reduceBEq, Nat.reduceSub, Nat.reduceMul, Int.reduceLT, Int.reduceLE, Int.reduceEq, Int.reduceToNat, Int.reduceNeg]
def extendsM (a b : State) : Bool :=
 (isSt a && isSt b) && (decide ((headS b).2 ≥ (headS a).2) && ((makeM a b).kind == 0 || ((makeM a b).kind == 1 && (makeM a b).from_ == (headS a).2)))
def e81 : Entry := ⟨1, 1, ⟨1, 1, 1, 0, 0, ⟨#[97]⟩⟩⟩
def s81 : State := ⟨0, Base.zero, Entry.zero, [e81]⟩
def D81 : Diff := ⟨1, 0, [e81], headM s81⟩
def Z81 : Diff := ⟨0, 0, [], headM s81⟩
def N81 : Diff := ⟨9, 0, [], State.zero⟩
theorem makeM_len (a b : State) (hb : b.log.length ≤ 100) : (makeM a b).log.length ≤ 100 ∧ (makeM a b).whole.log.length ≤ 100 := by
 unfold makeM
 split
 ·split
  ·exact ⟨by simp, by simp [headM]⟩
  ·split
   ·exact ⟨by show (b.log.drop _).length ≤ 100; rw [List.length_drop]; omega, by simp [headM]⟩
   ·exact ⟨by simp, hb⟩
 ·exact ⟨by decide, by decide⟩
end Go.Proofs.YthlpognahlnaaaaGreat

namespace Go.Proofs.YthlpognahlnaaaaGreat
open Pv Go Pk
set_option maxRecDepth 10000
set_option maxHeartbeats 4000000
def costD (l : List Diff) : Nat := (l.map bytesD).sum
theorem costD_snoc (l : List Diff) (d : Diff) : costD (l ++ [d]) = costD l + bytesD d := by unfold costD; simp
theorem bytesD_le {d : Diff} (h : d.log.length ≤ 1000 ∧ d.whole.log.length ≤ 1000) : bytesD d ≤ 2006 := by
 have := thereN_le d.whole.base 6
 unfold bytesD
 omega
theorem costD_le : ∀ {l : List Diff}, (∀ d ∈ l, d.log.length ≤ 1000 ∧ d.whole.log.length ≤ 1000) → costD l ≤ 2006 * l.length
 | [], _ => Nat.le_refl _
 | d :: l, h => by
  have h1 := bytesD_le (h d (by simp))
  have h2 := costD_le (l := l) fun x hx => h x (by simp [hx])
  have : costD (d :: l) = bytesD d + costD l := by unfold costD; simp
  rw [this, List.length_cons]
  omega
theorem rcost_at (p : Plan) (hl : p.diffs.length ≤ 1000) (hd : ∀ d ∈ p.diffs, d.log.length ≤ 1000 ∧ d.whole.log.length ≤ 1000) : evF C F_q3j [.d (.agg p.cs)] [] = some (.d (.i .i64 (costD p.diffs : Nat)), []) := by
 have hDl : (p.diffs.map Diff.d).length = p.diffs.length := List.length_map _
 rw [evF_code (rfl : C F_q3j = some a_q3j) _ _ rfl]
 simp +decide only [c_q3j, hDl, Pk.EVL, Pk.EVD, ↓reduceIte, reduceCtorEq, Nat.reduceEqDiff, Nat.reduceAdd, Nat.reduceLeDiff, Nat.reduceBNe, Nat.reduceLT, Nat.reduceBEq, Nat.reduceSub, Nat.reduceMul, Int.reduceLT, Int.reduceLE, Int.reduceEq, Int.reduceToNat, Int.reduceNeg, Pk.TY_Plan]
 simp only [Option.bind_assoc]
 refine bind_run (loop_run (fun i T H => lk T 3 = .d (.i .i64 (costD (p.diffs.take i) : Nat)) ∧ lk T 7 = .d (.sl (p.diffs.map Diff.d)) ∧ lk T 8 = .d (.i .i64 (p.diffs.length : Nat)) ∧ lk T 9 = .d (.i .i64 (i : Nat)) ∧ ∃ J, H = .box (.d (.agg p.cs)) :: J)
  (fun e T H => e = .exit 0 ∧ lk T 3 = .d (.i .i64 (costD p.diffs : Nat))) p.diffs.length ?_ ?_ p.diffs.length 0 _ _ (by omega) ⟨rfl, rfl, rfl, rfl, [], rfl⟩) ?_
 ·rintro i T H hi ⟨h3, h7, h8, h9, J, rfl⟩
  obtain ⟨d, hdi⟩ : ∃ d, p.diffs[i]? = some d := ⟨p.diffs[i]'hi, List.getElem?_eq_getElem _⟩
  have hx := list_idx Diff.d hdi
  have hm := hd d (List.mem_of_getElem? hdi)
  have hb := bytes_at d hm.1 hm.2
  have hle := costD_le (l := p.diffs.take i) fun x hx => hd x (List.mem_of_mem_take hx)
  have htl : (p.diffs.take i).length = i := by rw [List.length_take]; omega
  have hble := bytesD_le hm
  rw [take_succ' hdi, costD_snoc]
  have hdl : decide ((i : Int) < ((p.diffs.length : Nat) : Int)) = true := by simp; omega
  have hw : IntKind.i64.wrap ((i : Int) + 1) = ((i + 1 : Nat) : Int) := wi64 (by omega)
  have hw2 : IntKind.i64.wrap (((costD (p.diffs.take i) : Nat) : Int) + ((bytesD d : Nat) : Int)) = ((costD (p.diffs.take i) + bytesD d : Nat) : Int) := wi64 (by omega)
  have b0 : (0 ≤ (i : Int)) = True := by simp
  simp +decide only [K_q3j_0, l_q3j_0, h3, h7, h8, h9, hx, hb, hdl, hw, hw2, b0, List.take_zero, Pk.EVL, Pk.EVD, ↓reduceIte, reduceCtorEq, Nat.reduceEqDiff, Nat.reduceAdd, Nat.reduceLeDiff, Nat.reduceBNe, Nat.reduceLT, Nat.reduceBEq, Nat.reduceSub, Nat.reduceMul, Int.reduceLT, Int.reduceLE, Int.reduceEq, Int.reduceToNat, Int.reduceNeg, Pk.TY_Diff]
  exact ⟨_, _, _, rfl, .inl ⟨rfl, rfl, rfl, rfl, rfl, _, rfl⟩⟩
 ·rintro T H ⟨h3, h7, h8, h9, J, rfl⟩
  rw [List.take_length] at h3
  have hdl : decide (((p.diffs.length : Nat) : Int) < ((p.diffs.length : Nat) : Int)) = false := by simp
  simp +decide only [K_q3j_0, l_q3j_0, h3, h7, h8, h9, hdl, List.take_zero, Pk.EVL, Pk.EVD, ↓reduceIte, reduceCtorEq, Nat.reduceEqDiff, Nat.reduceAdd, Nat.reduceLeDiff, Nat.reduceBNe, Nat.reduceLT, Nat.reduceBEq, Nat.reduceSub, Nat.reduceMul, Int.reduceLT, Int.reduceLE, Int.reduceEq, Int.reduceToNat, Int.reduceNeg]
  exact ⟨_, _, _, rfl, by simp, rfl, rfl⟩
 rintro e T H ⟨rfl, h3⟩
 simp +decide only [h3, List.take_zero, Pk.EVL, Pk.EVD, ↓reduceIte, reduceCtorEq, Nat.reduceEqDiff, Nat.reduceAdd, Nat.reduceLeDiff, Nat.reduceBNe, Nat.reduceLT, Nat.reduceBEq, Nat.reduceSub, Nat.reduceMul, Int.reduceLT, Int.reduceLE, Int.reduceEq, Int.reduceToNat, Int.reduceNeg]
/-- What all become, where all differences fit. -/
def doneL (since : Int) (L : List State) (D : List Diff) : List State := List.zipWith (fun s d => { (applyM s d).1 with started := since }) L D
theorem doneL_len (since : Int) (L : List State) (D : List Diff) (h : D.length = L.length) : (doneL since L D).length = L.length := by unfold doneL; rw [List.length_zipWith]; omega
theorem doneL_take (since : Int) {L : List State} {D : List Diff} {i : Nat} {s : State} {d : Diff} (hs : L[i]? = some s) (hd : D[i]? = some d) :
  doneL since (L.take (i + 1)) (D.take (i + 1)) = doneL since (L.take i) (D.take i) ++ [{ (applyM s d).1 with started := since }] := by
 have hi1 := (List.getElem?_eq_some_iff.1 hs).1
 have hi2 := (List.getElem?_eq_some_iff.1 hd).1
 rw [take_succ' hs, take_succ' hd]
 unfold doneL
 rw [List.zipWith_append (by rw [List.length_take, List.length_take]; omega)]
 rfl
section
variable {G : Heap} {m : Nat} (hG : G.length = m) (hGa : ∀ k, G.all (ltO (m + k)) = true)
include hG hGa
theorem rdone_no (p : Plan) (os : List Int) (L : List State) (since : Int) (hno : os.length ≠ L.length ∨ p.diffs.length ≠ L.length ∨ p.blocked = true) :
  evF C F_q3k [.d (.agg p.cs), .d (.sl (os.map fun x => .i .i64 x)), .d (.sl (L.map State.d)), .d (.i .u32 since)] G = some (.tup [.d (.sl []), .d (.i .i64 80)], G) := by
 have hDl : (p.diffs.map Diff.d).length = p.diffs.length := List.length_map _
 have hol : (os.map fun x : Int => DV.i .i64 x).length = os.length := List.length_map _
 have hLl : (L.map State.d).length = L.length := List.length_map _
 have a1 := hr_at hG
 have a0 := hr_at0 hG
 have b1 := hr_set hG
 have b0 := hr_set0 hG
 have l0 := hr_len hG
 have p0 : ∀ Z, G ++ Z = hr G Z := fun _ => rfl
 have t0 : ∀ Z, List.take m (hr G Z) = G := fun Z => by unfold hr; exact List.take_left' hG
 have al0 : G.all (ltO m) = true := hGa 0
 rw [evF_codef (rfl : C F_q3k = some f_q3k) _ _ [.d (.agg p.cs), .d (.sl (os.map fun x => .i .i64 x)), .d (.sl (L.map State.d)), .d (.i .u32 since)] G rfl rfl]
 rcases Bool.eq_false_or_eq_true (((os.length : Nat) : Int) != ((L.length : Nat) : Int)) with c1 | c1
 ·simp +decide only [c_q3k, hDl, hol, hLl, c1, hG, a1, a0, b1, b0, l0, p0, t0, al0, hr_push, ite_self, guardR_und, Pk.EVL, Pk.EVD, ↓reduceIte, reduceCtorEq, Nat.reduceEqDiff, Nat.reduceAdd, Nat.reduceLeDiff, Nat.reduceBNe, Nat.reduceLT, Nat.reduceBEq, Nat.reduceSub, Nat.reduceMul, Int.reduceLT, Int.reduceLE, Int.reduceEq, Int.reduceToNat, Int.reduceNeg, Pk.TY_Plan]
 have d1 : os.length = L.length := by have := (bne_eq_false_iff_eq).1 c1; omega
 rcases Bool.eq_false_or_eq_true (((p.diffs.length : Nat) : Int) != ((L.length : Nat) : Int)) with c2 | c2
 ·simp +decide only [c_q3k, hDl, hol, hLl, c1, c2, hG, a1, a0, b1, b0, l0, p0, t0, al0, hr_push, ite_self, guardR_und, Pk.EVL, Pk.EVD, ↓reduceIte, reduceCtorEq, Nat.reduceEqDiff, Nat.reduceAdd, Nat.reduceLeDiff, Nat.reduceBNe, Nat.reduceLT, Nat.reduceBEq, Nat.reduceSub, Nat.reduceMul, Int.reduceLT, Int.reduceLE, Int.reduceEq, Int.reduceToNat, Int.reduceNeg, Pk.TY_Plan]
 have d2 : p.diffs.length = L.length := by have := (bne_eq_false_iff_eq).1 c2; omega
 rcases hno with h | h | h
 ·exact absurd d1 h
 ·exact absurd d2 h
 ·simp +decide only [c_q3k, hDl, hol, hLl, c1, c2, h, hG, a1, a0, b1, b0, l0, p0, t0, al0, hr_push, ite_self, guardR_und, Pk.EVL, Pk.EVD, ↓reduceIte, reduceCtorEq, Nat.reduceEqDiff, Nat.reduceAdd, Nat.reduceLeDiff, Nat.reduceBNe, Nat.reduceLT, Nat.reduceBEq, Nat.reduceSub, Nat.reduceMul, Int.reduceLT, Int.reduceLE, Int.reduceEq, Int.reduceToNat, Int.reduceNeg, Pk.TY_Plan]
theorem rdone_at (p : Plan) (os : List Int) (L : List State) (since : Int) (hL : L.length ≤ 1000) (h1 : os.length = L.length) (h2 : p.diffs.length = L.length) (h3 : p.blocked = false)
  (ha : ∀ s ∈ L, stOk s) (hd : ∀ d ∈ p.diffs, (∀ e ∈ d.log, e.op.ok) ∧ d.log.length ≤ 1000)
  (hok : ∀ (i : Nat) (s : State) (d : Diff), L[i]? = some s → p.diffs[i]? = some d → (applyM s d).2 = 0) :
  evF C F_q3k [.d (.agg p.cs), .d (.sl (os.map fun x => .i .i64 x)), .d (.sl (L.map State.d)), .d (.i .u32 since)] G = some (.tup [.d (.sl ((doneL since L p.diffs).map State.d)), .d (.i .i64 0)], G) := by
 have hDl : (p.diffs.map Diff.d).length = p.diffs.length := List.length_map _
 have hol : (os.map fun x : Int => DV.i .i64 x).length = os.length := List.length_map _
 have hLl : (L.map State.d).length = L.length := List.length_map _
 have c1 : (((os.length : Nat) : Int) != ((L.length : Nat) : Int)) = false := by rw [bne_eq_false_iff_eq]; omega
 have c2 : (((p.diffs.length : Nat) : Int) != ((L.length : Nat) : Int)) = false := by rw [bne_eq_false_iff_eq]; omega
 have a1 := hr_at hG
 have a0 := hr_at0 hG
 have b1 := hr_set hG
 have b0 := hr_set0 hG
 have l0 := hr_len hG
 have p0 : ∀ Z, G ++ Z = hr G Z := fun _ => rfl
 have t0 : ∀ Z, List.take m (hr G Z) = G := fun Z => by unfold hr; exact List.take_left' hG
 have al0 : G.all (ltO m) = true := hGa 0
 have t2 := hr_take hG
 have m1 : (m < m + 2) = True := eq_true (by omega)
 have m2 : (m + 1 < m + 2) = True := eq_true (by omega)
 have m3 : (m + 3 != m + 2) = true := by simp
 have m4 : (m + 3 != m) = true := by simp
 have al2 : ∀ b es, (hr G [.box (.d b), .arr es true]).all (ltO (m + 2)) = true := fun b es => by rw [hr_all, hGa]; rfl
 rw [evF_codef (rfl : C F_q3k = some f_q3k) _ _ [.d (.agg p.cs), .d (.sl (os.map fun x => .i .i64 x)), .d (.sl (L.map State.d)), .d (.i .u32 since)] G rfl rfl]
 simp +decide only [c_q3k, hDl, hol, hLl, c1, c2, h3, hG, a1, a0, b1, b0, l0, p0, hr_push, thaws, thaw, Pk.EVL, Pk.EVD, ↓reduceIte, reduceCtorEq, Nat.reduceEqDiff, Nat.reduceAdd, Nat.reduceLeDiff, Nat.reduceBNe, Nat.reduceLT, Nat.reduceBEq, Nat.reduceSub, Nat.reduceMul, Int.reduceLT, Int.reduceLE, Int.reduceEq, Int.reduceToNat, Int.reduceNeg, Pk.TY_Plan]
 simp only [Option.bind_assoc]
 refine bind_run (loop_run (fun i T H => lk T 3 = .d (.i .u32 since) ∧ lk T 4 = .ptr m 0 ∧ lk T 10 = .view (m + 1) i 49 0 i ∧ lk T 32 = .d (.sl (L.map State.d)) ∧ lk T 33 = .d (.i .i64 (L.length : Nat)) ∧ lk T 34 = .d (.i .i64 (i : Nat)) ∧ ∃ J, H = hr G (.box (.d (.agg p.cs)) :: .arr ((doneL since (L.take i) (p.diffs.take i)).map State.d) true :: J))
  (fun e T H => e = .exit 0 ∧ lk T 10 = .view (m + 1) L.length 49 0 L.length ∧ H = hr G [.box (.d (.agg p.cs)), .arr ((doneL since L p.diffs).map State.d) true]) L.length ?_ ?_ L.length 0 _ _ (by omega) ⟨rfl, rfl, rfl, rfl, rfl, rfl, [], rfl⟩) ?_
 ·rintro i T H hi ⟨g3, g4, g10, g32, g33, g34, J, rfl⟩
  obtain ⟨s, hs⟩ : ∃ s, L[i]? = some s := ⟨L[i]'hi, List.getElem?_eq_getElem _⟩
  obtain ⟨d, hdi⟩ : ∃ d, p.diffs[i]? = some d := ⟨p.diffs[i]'(by omega), List.getElem?_eq_getElem _⟩
  have hx := list_idx Diff.d hdi
  have hsd := list_idx State.d hs
  have hm := hd d (List.mem_of_getElem? hdi)
  have hap := apply_at s d (ha s (List.mem_of_getElem? hs)) hm.1 (fun _ => trivial) (by omega)
  rw [hok i s d hs hdi] at hap
  rw [doneL_take since hs hdi]
  have hel : ((doneL since (L.take i) (p.diffs.take i)).map State.d).length = i := by
   rw [List.length_map, doneL_len _ _ _ (by rw [List.length_take, List.length_take]; omega), List.length_take]; omega
  generalize doneL since (L.take i) (p.diffs.take i) = E at *
  generalize (applyM s d).1 = R at *
  have hdl : decide ((i : Int) < ((L.length : Nat) : Int)) = true := by simp; omega
  have hw : IntKind.i64.wrap ((i : Int) + 1) = ((i + 1 : Nat) : Int) := wi64 (by omega)
  have x0 : (0 ≤ (i : Int)) = True := by simp
  have x1 : ((i : Int) < ((L.length : Nat) : Int)) = True := eq_true (by omega)
  have hlim : (i + 1 ≤ LIM) = True := eq_true (by unfold LIM; omega)
  have n0 : ((0 : Int) != 0) = false := by decide
  simp +decide only [K_q3k_0, l_q3k_0, g3, g4, g10, g32, g33, g34, hx, hsd, hap, hel, hdl, hw, x0, x1, hlim, n0, a1, a0, b1, b0, l0, t2, al2, m1, m2, m3, m4, hr_push, elems, ite_self, Int.toNat_natCast, Nat.zero_le, Nat.le_refl, Pk.EVL, Pk.EVD, ↓reduceIte, reduceCtorEq, Nat.reduceEqDiff, Nat.reduceAdd, Nat.reduceLeDiff, Nat.reduceBNe, Nat.reduceLT, Nat.reduceBEq, Nat.reduceSub, Nat.reduceMul, Int.reduceLT, Int.reduceLE, Int.reduceEq, Int.reduceToNat, Int.reduceNeg, Pk.TY_Plan, Pk.TY_State, Pk.TY_Diff]
  refine ⟨_, _, _, rfl, .inl ⟨rfl, rfl, rfl, rfl, rfl, rfl, rfl, ?_⟩⟩
  rw [List.map_append]
  exact ⟨_, rfl⟩
 ·rintro T H ⟨g3, g4, g10, g32, g33, g34, J, rfl⟩
  rw [List.take_length, show p.diffs.take L.length = p.diffs by rw [← h2]; exact List.take_length]
  have hdl : decide (((L.length : Nat) : Int) < ((L.length : Nat) : Int)) = false := by simp
  simp +decide only [K_q3k_0, l_q3k_0, g3, g4, g10, g32, g33, g34, hdl, t2, al2, m1, m2, m3, m4, ite_self, Pk.EVL, Pk.EVD, ↓reduceIte, reduceCtorEq, Nat.reduceEqDiff, Nat.reduceAdd, Nat.reduceLeDiff, Nat.reduceBNe, Nat.reduceLT, Nat.reduceBEq, Nat.reduceSub, Nat.reduceMul, Int.reduceLT, Int.reduceLE, Int.reduceEq, Int.reduceToNat, Int.reduceNeg]
  exact ⟨_, _, _, rfl, by simp, rfl, rfl, rfl⟩
 rintro e T H ⟨rfl, g10, rfl⟩
 have hel : ((doneL since L p.diffs).map State.d).length = L.length := by rw [List.length_map, doneL_len _ _ _ h2]
 generalize (doneL since L p.diffs).map State.d = E at *
 have k0 : List.take L.length E = E := List.take_of_length_le (by omega)
 have s0 : subL E 0 L.length = E := by unfold subL; rw [List.drop_zero]; exact k0
 simp +decide only [g10, hel, k0, s0, a1, a0, b1, b0, l0, t0, al0, Nat.zero_add, Nat.le_refl, List.take_zero, ite_self, Pk.EVL, Pk.EVD, ↓reduceIte, reduceCtorEq, Nat.reduceEqDiff, Nat.reduceAdd, Nat.reduceLeDiff, Nat.reduceBNe, Nat.reduceLT, Nat.reduceBEq, Nat.reduceSub, Nat.reduceMul, Int.reduceLT, Int.reduceLE, Int.reduceEq, Int.reduceToNat, Int.reduceNeg]
end
end Go.Proofs.YthlpognahlnaaaaGreat
