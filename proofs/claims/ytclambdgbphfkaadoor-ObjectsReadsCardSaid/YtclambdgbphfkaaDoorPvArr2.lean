/- The pure evaluator: append. -/
import Derived.Test.YtclambdgbphfkaaDoorPvArr
set_option linter.all false
namespace Pv
open Go

section
variable {P : Program} {γ : Gh} {w : World} {T : Tm} {a : Act} {H : Heap} {o : Oper} {v : AV} {e : Eff} {t : Tch}

theorem run_append_gen {ty u rt el el' : TypeId} {i : TypeInfo} {zv : Value} {d : TypeDesc} (ht : P.underlying ty = some (.slice el)) (hu : P.underlying u = some d) (hd : ∀ k, d ≠ .int k) (hi : P.info? el = some i) (hz : i.zero = some zv)
    {val : Value} {n : Nat} {xs : List Value} (hown : w.ownsRow 0 el' i.size val n xs) {xv : Value} {m : Nat} {news : List Value} (hl : news.length = m * i.size) (h1 : ones news)
    (hlen : ∀ w', (Builtin.lenOf xv).run P w' = .ok m w') (hf : ∀ w' : World, w'.heap = w.heap → (Builtin.firstCells i.size m xv).run P w' = .ok news.toArray w')
    (hlim : n + m ≤ LIM) (hby : i.bytes ≤ 4096) :
    (∃ g cap cur, val = .slice (some ⟨g, 0, none⟩) n cap ∧ n + m ≤ cap ∧ cap ≤ maxLen ∧ w.heap[g]? = some (.cells cur el' (0, 0)) ∧ cur.size = cap * i.size ∧ cur.toList.take (n * i.size) = xs ∧
      (Builtin.append_ #[ty, u] rt #[val, xv]).run P w = .ok (.slice (some ⟨g, 0, none⟩) (n + m) cap) (w.setRow g (upd cur.toList (n * i.size) news).toArray)) ∨
    (n = 0 ∧ m = 0 ∧ val = .slice none 0 0 ∧ (Builtin.append_ #[ty, u] rt #[val, xv]).run P w = .ok val w) ∨
    (∃ cap, 0 < m ∧ n + m ≤ cap ∧ cap ≤ maxLen ∧
      (Builtin.append_ #[ty, u] rt #[val, xv]).run P w = .ok (.slice (some ⟨w.heap.size, 0, none⟩) (n + m) cap) (w.drew.alloc (.cells (xs.toArray ++ news.toArray ++ Builtin.zeroCells zv.cells (cap - (n + m))) el))) := by
  have hzeros' : (match d with | .int _ => true | _ => false) = false := by cases d <;> first | rfl | exact absurd rfl (hd _)
  have small : ∀ old, old < n + m → ¬ (281474976710656 < Builtin.nextslicecap (n + m) old * i.bytes) := by
    intro old ho
    have h1 := nextslicecap_le ho
    have h2 : Builtin.nextslicecap (n + m) old * i.bytes ≤ 2 * (n + m) * 4096 := Nat.mul_le_mul h1 hby
    simp only [LIM] at hlim
    omega
  have h63 : ¬ (9223372036854775807 < ((n : Int) + (m : Int))) := by simp only [LIM] at hlim; omega
  have capm : ∀ old, grownCap w (n + m) old el ≤ maxLen := fun old => grownCap_le_maxLen w (n + m) old el (by simp only [LIM, maxLen] at hlim ⊢; omega)
  rcases hown.2 with ⟨rfl, rfl⟩ | ⟨g, cap, cur, rfl, _, hg, hle, hm, hcs, htk⟩
  · have hx : xs = [] := List.eq_nil_of_length_eq_zero (by simpa using hown.1)
    subst hx
    by_cases hm0 : m = 0
    · subst hm0
      refine .inr (.inl ⟨rfl, rfl, rfl, ?_⟩)
      have hn : news = [] := List.eq_nil_of_length_eq_zero (by simpa using hl)
      simp [Builtin.append_, run_underlying ht, run_underlying hu, hzeros', Go.sizeOf, typeInfo, hi, hlen, hf w rfl]
    · refine .inr (.inr ⟨grownCap w (0 + m) 0 el, by omega, ?_, capm 0, ?_⟩)
      · exact grownCap_ge w (0 + m) 0 el
      · have hs := small 0 (by omega)
        simp only [Nat.zero_add] at hs h63 ⊢
        have h63' : ¬ (9223372036854775807 < (m : Int)) := by omega
        have hdr := hf w.drew rfl
        simp [Builtin.append_, run_underlying ht, run_underlying hu, hzeros', Go.sizeOf, typeInfo, zeroValue, hi, hz, hlen, hm0, h63', hs, Question.forced, firstCells_none, hdr, newRow, grownCap]
  · by_cases hroom : n + m ≤ cap
    · refine .inl ⟨g, cap, cur, rfl, hroom, hm, hg, hcs, htk, ?_⟩
      have hst := run_storeCells_at P g (n * i.size) el' news 0 cur w hg (by
        rw [hcs, hl]
        have := Nat.mul_le_mul_right i.size hroom
        rw [Nat.add_mul] at this
        omega) h1
      simp only [Nat.add_zero] at hst
      have he : (upd cur.toList (n * i.size) news).toArray = (cur.toList.take (n * i.size) ++ news ++ cur.toList.drop (n * i.size + news.length)).toArray := by simp [upd]
      rw [he]
      simp [Builtin.append_, run_underlying ht, run_underlying hu, hzeros', Go.sizeOf, typeInfo, hi, hlen, hroom, hf w rfl, Addr.add_lit, hst]
    · refine .inr (.inr ⟨grownCap w (n + m) cap el, by omega, grownCap_ge w (n + m) cap el, capm cap, ?_⟩)
      have hs := small cap (by omega)
      have hdr := hf w.drew rfl
      have holds : ∀ j u, xs[j]? = some u → w.drew.cell? ((⟨g, 0, none⟩ : Addr).add j) = some u := by
        intro j u hj
        have := hown.cells (g := g) rfl j u hj
        exact this
      have hfo := run_firstCells_some (P := P) w.drew i.size n ⟨g, 0, none⟩ n cap xs hown.1 holds
      simp [Builtin.append_, run_underlying ht, run_underlying hu, hzeros', Go.sizeOf, typeInfo, zeroValue, hi, hz, hlen, hroom, h63, hs, Question.forced, hfo, hdr, newRow, grownCap]
      congr 2
      apply Array.ext'
      simp [List.append_assoc]

theorem run_append_z0 {ty u rt el : TypeId} {i : TypeInfo} {zv : Value} {d : TypeDesc} (ht : P.underlying ty = some (.slice el)) (hu : P.underlying u = some d) (hd : ∀ k, d ≠ .int k) (hi : P.info? el = some i) (hz : i.zero = some zv)
    (b : Option Addr) {xv : Value} {m : Nat} {news : List Value} (hl : news.length = m * i.size)
    (hlen : ∀ w', (Builtin.lenOf xv).run P w' = .ok m w') (hf : ∀ w' : World, w'.heap = w.heap → (Builtin.firstCells i.size m xv).run P w' = .ok news.toArray w')
    (hlim : m ≤ LIM) (hby : i.bytes ≤ 4096) (h0 : 0 < m) :
    ∃ cap, m ≤ cap ∧ cap ≤ maxLen ∧ (Builtin.append_ #[ty, u] rt #[.slice b 0 0, xv]).run P w = .ok (.slice (some ⟨w.heap.size, 0, none⟩) m cap) (w.drew.alloc (.cells (#[] ++ news.toArray ++ Builtin.zeroCells zv.cells (cap - m)) el)) := by
  have hzeros' : (match d with | .int _ => true | _ => false) = false := by cases d <;> first | rfl | exact absurd rfl (hd _)
  have hs : ¬ (281474976710656 < Builtin.nextslicecap m 0 * i.bytes) := by
    have h1 := nextslicecap_le (need := m) (old := 0) h0
    have h2 : Builtin.nextslicecap m 0 * i.bytes ≤ 2 * m * 4096 := Nat.mul_le_mul h1 hby
    simp only [LIM] at hlim
    omega
  have h63' : ¬ (9223372036854775807 < (m : Int)) := by simp only [LIM] at hlim; omega
  have hm0 : m ≠ 0 := by omega
  have hdr := hf w.drew rfl
  refine ⟨grownCap w m 0 el, grownCap_ge w m 0 el, grownCap_le_maxLen w m 0 el (by simp only [LIM, maxLen] at hlim ⊢; omega), ?_⟩
  simp [Builtin.append_, run_underlying ht, run_underlying hu, hzeros', Go.sizeOf, typeInfo, zeroValue, hi, hz, hlen, hm0, h63', hs, Question.forced, firstCells_zero, hdr, newRow, grownCap]

theorem run_append_z0' {ty u rt el : TypeId} {i : TypeInfo} {d : TypeDesc} (ht : P.underlying ty = some (.slice el)) (hu : P.underlying u = some d) (hd : ∀ k, d ≠ .int k) (hi : P.info? el = some i)
    (b : Option Addr) {xv : Value} (hlen : ∀ w', (Builtin.lenOf xv).run P w' = .ok 0 w') (hf : ∀ w' : World, w'.heap = w.heap → (Builtin.firstCells i.size 0 xv).run P w' = .ok #[] w') :
    (Builtin.append_ #[ty, u] rt #[.slice b 0 0, xv]).run P w = .ok (.slice b 0 0) w := by
  have hzeros' : (match d with | .int _ => true | _ => false) = false := by cases d <;> first | rfl | exact absurd rfl (hd _)
  cases b with
  | none => simp [Builtin.append_, run_underlying ht, run_underlying hu, hzeros', Go.sizeOf, typeInfo, hi, hlen, hf w rfl]
  | some ad => simp [Builtin.append_, run_underlying ht, run_underlying hu, hzeros', Go.sizeOf, typeInfo, hi, hlen, hf w rfl, storeCells]

end
end Pv
