/- The pure evaluator: arrays of the walk's own: made, appended to, copied into, cleared; bytes read as a string. / The pure evaluator: append. -/
import Derived.Test.YtlihpaegaikoeaaDoorPvStore
set_option linter.all false
namespace Pv
open Go

section
variable {P : Program} {γ : Gh} {w : World} {T : Tm} {a : Act} {H : Heap} {o : Oper} {v : AV} {e : Eff} {t : Tch}

theorem flat_append (xs ys : List DV) : flat (xs ++ ys) = flat xs ++ flat ys := by simp [flat]

theorem firstCells_none (z n l c : Nat) (w : World) : (Builtin.firstCells z n (.slice none l c)).run P w = .ok #[] w := by simp [Builtin.firstCells]
theorem firstCells_zero (z : Nat) (b : Option Addr) (l c : Nat) (w : World) : (Builtin.firstCells z 0 (.slice b l c)).run P w = .ok #[] w := by
  cases b with
  | none => exact firstCells_none ..
  | some ad => simp [Builtin.firstCells, loadCells, loadCellsFrom]

/-- What stands behind a slice or a string that is read: its elements' cells. -/
structure ElemsAt (P : Program) (γ : Gh) (w : World) (z : Nat) (ys : List DV) (xv : Value) : Prop where
  len : ∀ w', (Builtin.lenOf xv).run P w' = .ok ys.length w'
  at_ : ∃ news, RDs γ.fix w (flat ys) news ∧ ones news ∧ ∀ w', w'.heap = w.heap → ∀ m, m ≤ ys.length → (Builtin.firstCells z m xv).run P w' = .ok (news.take (m * z)).toArray w'

theorem elems_sound (hH : RH γ w H) {y : AV} {xv : Value} (hy : RV γ w y xv) {ys : List DV} (h : elems H y = some ys) {z : Nat} (hz : ys.all (fun e => e.cells.length == z) = true) (hzp : 0 < z) :
    ElemsAt P γ w z ys xv := by
  have hz' : ∀ e ∈ ys, e.cells.length = z := by simpa using hz
  have hfl := flat_length hz'
  have nilCase : ∀ b c, xv = .slice b 0 c → ys = [] → ElemsAt P γ w z ys xv := by
    intro b c h1 h2
    subst h1; subst h2
    refine ⟨fun w' => by simp [Builtin.lenOf], [], .nil, by simp [ones], fun w' _ m hm => ?_⟩
    simp at hm
    subst hm
    rw [firstCells_zero]
    simp
  cases y with
  | d d =>
    cases d with
    | sl es =>
      simp [elems] at h
      subst h
      cases hy with
      | d hy =>
        cases hy with
        | nil b c => exact nilCase b c rfl rfl
        | @sl _ vs z' blk off cap g g1 hzz hc hf =>
          refine ⟨fun w' => by simp [Builtin.lenOf], vs, g, g1, fun w' hw m hm => ?_⟩
          have hvl := g.length
          simp only [Builtin.firstCells]
          have hcells : ∀ j u, (vs.take (m * z))[j]? = some u → w'.cell? ((⟨blk, off, none⟩ : Addr).add j) = some u := by
            intro j u hj
            rw [Addr.add_lit]
            have := (take_cells hf (m * z) j u hj).2
            simp only [World.cell?, hw] at this ⊢
            exact this
          have hrun := run_loadCells_list (P := P) w' ⟨blk, off, none⟩ (vs.take (m * z)) hcells
          have hml : m * z ≤ vs.length := by rw [hvl, hfl]; exact Nat.mul_le_mul_right _ hm
          rw [List.length_take, Nat.min_eq_left hml] at hrun
          exact hrun
    | s x =>
      simp [elems] at h
      cases hy with
      | d hy =>
        cases hy
        have hlen : ys.length = x.size := by rw [← h]; simp
        have hflat : flat ys = ys := by
          rw [← h]
          simp only [flat]
          generalize x.data.toList = l
          induction l with
          | nil => rfl
          | cons c r ih => simp only [List.map_cons, List.flatMap_cons, ih]; rfl
        have hz1 : ys ≠ [] → z = 1 := by
          intro hne
          cases ys with
          | nil => exact absurd rfl hne
          | cons y0 r =>
            have h0 := hz' y0 (by simp)
            cases hl : x.data.toList with
            | nil => rw [hl] at h; simp at h
            | cons c r' =>
              rw [hl] at h
              simp at h
              rw [← h.1] at h0
              simpa [DV.cells] using h0.symm
        refine ⟨fun w' => by simp [Builtin.lenOf, hlen], x.data.toList.map (fun c => .int .u8 (c.toNat : Int)), ?_, ?_, fun w' hw m hm => ?_⟩
        · rw [hflat, ← h]
          generalize x.data.toList = l
          induction l with
          | nil => exact .nil
          | cons c r ih => exact .cons (.i _ _) ih
        · intro u hu
          simp at hu
          obtain ⟨c, _, rfl⟩ := hu
          rfl
        · by_cases hne : ys = []
          · subst hne
            simp at hm
            subst hm
            simp [Builtin.firstCells]
          · rw [hz1 hne]
            simp only [Builtin.firstCells, Sem.run_pure, Nat.mul_one]
            congr 1
            apply Array.ext'
            simp [ByteArray.data_extract, Array.toList_extract, List.extract, List.map_take]
    | _ => simp [elems] at h
  | nilS =>
    simp [elems] at h
    cases hy
    exact nilCase none 0 rfl h
  | z0 =>
    simp [elems] at h
    cases hy
    exact nilCase _ _ rfl h
  | e0 b =>
    simp [elems] at h
    cases hy
    · exact nilCase _ _ rfl h
    · exact nilCase _ _ rfl h
  | view ob g zz off len =>
    simp only [elems] at h
    split at h
    · rename_i es wr hob
      split at h
      · rename_i hg0
        simp at h
        subst h
        cases hy with
        | @view _ _ _ _ _ b cap u yy g' hpl hg hc hb hh =>
          have hro := hH.ob _ _ hob
          rw [hpl] at hro
          have hro : RArr γ w u yy g' es wr := hro
          have hv := hh (by rw [hro.hw]; omega)
          have hfit := hv.fit
          have hsl : (subL es off len).length = len := by simp [subL]; omega
          by_cases hl0 : len = 0
          · subst hl0
            exact nilCase b cap rfl (List.eq_nil_of_length_eq_zero hsl)
          · obtain ⟨blk, hob', rfl⟩ := hv.sl _ _ _ rfl (by omega)
            obtain ⟨cap', cur, vs, ee, rfl, hblk, hle, hm, hcs, htk, hr, hone⟩ := hro.block hob'
            have hzz := hv.zz
            subst hzz
            have hzeq : z = yy := by
              have hne : subL es off len ≠ [] := by intro h0; rw [h0] at hsl; simp at hsl; omega
              obtain ⟨x0, hx0⟩ := List.exists_mem_of_ne_nil _ hne
              rw [← hz' x0 hx0]
              exact hro.sz x0 (List.mem_of_mem_drop (List.mem_of_mem_take hx0))
            subst hzeq
            have hflr := flat_length hro.sz
            have hvl := hr.length
            refine ⟨fun w' => by simp [Builtin.lenOf, hsl], (vs.drop (off * z)).take (len * z), ?_, (hone.drop _).take _, fun w' hw m hm' => ?_⟩
            · unfold subL
              rw [flat_take (fun e' he' => hro.sz e' (List.mem_of_mem_drop he')), flat_drop hro.sz]
              exact (hr.drop _).take _
            · simp only [Builtin.firstCells]
              rw [hsl] at hm'
              have hmz : m * z ≤ len * z := Nat.mul_le_mul_right _ hm'
              have hend : off * z + len * z ≤ vs.length := by rw [hvl, hflr, ← Nat.add_mul]; exact Nat.mul_le_mul_right _ (by omega)
              have hcells : ∀ j u, (((vs.drop (off * z)).take (len * z)).take (m * z))[j]? = some u → w'.cell? ((⟨blk, off * z, none⟩ : Addr).add j) = some u := by
                intro j u hj
                rw [Addr.add_lit, cell_of_row w' blk _ cur ee _ (by rw [hw]; exact hblk)]
                rw [List.getElem?_take] at hj
                split at hj
                · rw [List.getElem?_take] at hj
                  split at hj
                  · rw [List.getElem?_drop, ← htk, List.getElem?_take] at hj
                    split at hj
                    · simpa using hj
                    · simp at hj
                  · simp at hj
                · simp at hj
              have hrun := run_loadCells_list (P := P) w' ⟨blk, off * z, none⟩ _ hcells
              rw [List.length_take, List.length_take, List.length_drop, Nat.min_eq_left (by omega)] at hrun
              exact hrun
      · simp at h
    · simp at h
  | _ => simp [elems] at h

end
end Pv

namespace Pv
open Go

section
variable {P : Program} {γ : Gh} {w : World} {T : Tm} {a : Act} {H : Heap} {o : Oper} {v : AV} {e : Eff} {t : Tch}

theorem run_append_gen {ty u rt el el' : TypeId} {i : TypeInfo} {zv : Value} {d : TypeDesc} (ht : P.underlying ty = some (.slice el)) (hu : P.underlying u = some d) (hd : ∀ k, d ≠ .int k) (hi : P.info? el = some i) (hz : i.zero = some zv)
    {val : Value} {n : Nat} {xs : List Value} (hown : w.ownsRow 0 el' i.size val n xs) {xv : Value} {m : Nat} {news : List Value} (hl : news.length = m * i.size) (h1 : ones news)
    (hlen : ∀ w', (Builtin.lenOf xv).run P w' = .ok m w') (hf : ∀ w' : World, w'.heap = w.heap → (Builtin.firstCells i.size m xv).run P w' = .ok news.toArray w')
    (hlim : n + m ≤ LIM) (hby : i.bytes ≤ 4096) :
    (∃ g cap cur, val = .slice (some ⟨g, 0, none⟩) n cap ∧ n + m ≤ cap ∧ cap ≤ maxLen ∧ w.heap[g]? = some (.cells cur el' (0, 0)) ∧ cur.size = cap * i.size ∧ cur.toList.take (n * i.size) = xs ∧
      (Builtin.append_ #[ty, u] rt #[val, xv]).run P w = .ok (.slice (some ⟨g, 0, none⟩) (n + m) cap) (w.setRow g (upd cur.toList (n * i.size) news).toArray)) ∨
    (n = 0 ∧ m = 0 ∧ val = .slice none 0 0 ∧ (Builtin.append_ #[ty, u] rt #[val, xv]).run P w = .ok val w) ∨
    (∃ cap, 0 < m ∧ n + m ≤ cap ∧ cap ≤ maxLen ∧
      (Builtin.append_ #[ty, u] rt #[val, xv]).run P w = .ok (.slice (some ⟨w.heap.size, 0, none⟩) (n + m) cap) (w.drew.alloc (.cells (xs.toArray ++ news.toArray ++ Builtin.zeroCells zv.cells (cap - (n + m))) el))) := by
  have hzeros' : (match d with | .int _ => true | _ => false) = false := by cases d <;> first | rfl | exact absurd rfl (hd _)
  have small : ∀ old, old < n + m → ¬ (281474976710656 < Builtin.nextslicecap (n + m) old * i.bytes) := by
    intro old ho
    have h1 := nextslicecap_le ho
    have h2 : Builtin.nextslicecap (n + m) old * i.bytes ≤ 2 * (n + m) * 4096 := Nat.mul_le_mul h1 hby
    simp only [LIM] at hlim
    omega
  have h63 : ¬ (9223372036854775807 < ((n : Int) + (m : Int))) := by simp only [LIM] at hlim; omega
  have capm : ∀ old, grownCap w (n + m) old el ≤ maxLen := fun old => grownCap_le_maxLen w (n + m) old el (by simp only [LIM, maxLen] at hlim ⊢; omega)
  rcases hown.2 with ⟨rfl, rfl⟩ | ⟨g, cap, cur, rfl, _, hg, hle, hm, hcs, htk⟩
  · have hx : xs = [] := List.eq_nil_of_length_eq_zero (by simpa using hown.1)
    subst hx
    by_cases hm0 : m = 0
    · subst hm0
      refine .inr (.inl ⟨rfl, rfl, rfl, ?_⟩)
      have hn : news = [] := List.eq_nil_of_length_eq_zero (by simpa using hl)
      simp [Builtin.append_, run_underlying ht, run_underlying hu, hzeros', Go.sizeOf, typeInfo, hi, hlen, hf w rfl]
    · refine .inr (.inr ⟨grownCap w (0 + m) 0 el, by omega, ?_, capm 0, ?_⟩)
      · exact grownCap_ge w (0 + m) 0 el
      · have hs := small 0 (by omega)
        simp only [Nat.zero_add] at hs h63 ⊢
        have h63' : ¬ (9223372036854775807 < (m : Int)) := by omega
        have hdr := hf w.drew rfl
        simp [Builtin.append_, run_underlying ht, run_underlying hu, hzeros', Go.sizeOf, typeInfo, zeroValue, hi, hz, hlen, hm0, h63', hs, Question.forced, firstCells_none, hdr, newRow, grownCap]
  · by_cases hroom : n + m ≤ cap
    · refine .inl ⟨g, cap, cur, rfl, hroom, hm, hg, hcs, htk, ?_⟩
      have hst := run_storeCells_at P g (n * i.size) el' news 0 cur w hg (by
        rw [hcs, hl]
        have := Nat.mul_le_mul_right i.size hroom
        rw [Nat.add_mul] at this
        omega) h1
      simp only [Nat.add_zero] at hst
      have he : (upd cur.toList (n * i.size) news).toArray = (cur.toList.take (n * i.size) ++ news ++ cur.toList.drop (n * i.size + news.length)).toArray := by simp [upd]
      rw [he]
      simp [Builtin.append_, run_underlying ht, run_underlying hu, hzeros', Go.sizeOf, typeInfo, hi, hlen, hroom, hf w rfl, Addr.add_lit, hst]
    · refine .inr (.inr ⟨grownCap w (n + m) cap el, by omega, grownCap_ge w (n + m) cap el, capm cap, ?_⟩)
      have hs := small cap (by omega)
      have hdr := hf w.drew rfl
      have holds : ∀ j u, xs[j]? = some u → w.drew.cell? ((⟨g, 0, none⟩ : Addr).add j) = some u := by
        intro j u hj
        have := hown.cells (g := g) rfl j u hj
        exact this
      have hfo := run_firstCells_some (P := P) w.drew i.size n ⟨g, 0, none⟩ n cap xs hown.1 holds
      simp [Builtin.append_, run_underlying ht, run_underlying hu, hzeros', Go.sizeOf, typeInfo, zeroValue, hi, hz, hlen, hroom, h63, hs, Question.forced, hfo, hdr, newRow, grownCap]
      congr 2
      apply Array.ext'
      simp [List.append_assoc]

theorem run_append_z0 {ty u rt el : TypeId} {i : TypeInfo} {zv : Value} {d : TypeDesc} (ht : P.underlying ty = some (.slice el)) (hu : P.underlying u = some d) (hd : ∀ k, d ≠ .int k) (hi : P.info? el = some i) (hz : i.zero = some zv)
    (b : Option Addr) {xv : Value} {m : Nat} {news : List Value} (hl : news.length = m * i.size)
    (hlen : ∀ w', (Builtin.lenOf xv).run P w' = .ok m w') (hf : ∀ w' : World, w'.heap = w.heap → (Builtin.firstCells i.size m xv).run P w' = .ok news.toArray w')
    (hlim : m ≤ LIM) (hby : i.bytes ≤ 4096) (h0 : 0 < m) :
    ∃ cap, m ≤ cap ∧ cap ≤ maxLen ∧ (Builtin.append_ #[ty, u] rt #[.slice b 0 0, xv]).run P w = .ok (.slice (some ⟨w.heap.size, 0, none⟩) m cap) (w.drew.alloc (.cells (#[] ++ news.toArray ++ Builtin.zeroCells zv.cells (cap - m)) el)) := by
  have hzeros' : (match d with | .int _ => true | _ => false) = false := by cases d <;> first | rfl | exact absurd rfl (hd _)
  have hs : ¬ (281474976710656 < Builtin.nextslicecap m 0 * i.bytes) := by
    have h1 := nextslicecap_le (need := m) (old := 0) h0
    have h2 : Builtin.nextslicecap m 0 * i.bytes ≤ 2 * m * 4096 := Nat.mul_le_mul h1 hby
    simp only [LIM] at hlim
    omega
  have h63' : ¬ (9223372036854775807 < (m : Int)) := by simp only [LIM] at hlim; omega
  have hm0 : m ≠ 0 := by omega
  have hdr := hf w.drew rfl
  refine ⟨grownCap w m 0 el, grownCap_ge w m 0 el, grownCap_le_maxLen w m 0 el (by simp only [LIM, maxLen] at hlim ⊢; omega), ?_⟩
  simp [Builtin.append_, run_underlying ht, run_underlying hu, hzeros', Go.sizeOf, typeInfo, zeroValue, hi, hz, hlen, hm0, h63', hs, Question.forced, firstCells_zero, hdr, newRow, grownCap]

theorem run_append_z0' {ty u rt el : TypeId} {i : TypeInfo} {d : TypeDesc} (ht : P.underlying ty = some (.slice el)) (hu : P.underlying u = some d) (hd : ∀ k, d ≠ .int k) (hi : P.info? el = some i)
    (b : Option Addr) {xv : Value} (hlen : ∀ w', (Builtin.lenOf xv).run P w' = .ok 0 w') (hf : ∀ w' : World, w'.heap = w.heap → (Builtin.firstCells i.size 0 xv).run P w' = .ok #[] w') :
    (Builtin.append_ #[ty, u] rt #[.slice b 0 0, xv]).run P w = .ok (.slice b 0 0) w := by
  have hzeros' : (match d with | .int _ => true | _ => false) = false := by cases d <;> first | rfl | exact absurd rfl (hd _)
  cases b with
  | none => simp [Builtin.append_, run_underlying ht, run_underlying hu, hzeros', Go.sizeOf, typeInfo, hi, hlen, hf w rfl]
  | some ad => simp [Builtin.append_, run_underlying ht, run_underlying hu, hzeros', Go.sizeOf, typeInfo, hi, hlen, hf w rfl, storeCells]

end
end Pv
