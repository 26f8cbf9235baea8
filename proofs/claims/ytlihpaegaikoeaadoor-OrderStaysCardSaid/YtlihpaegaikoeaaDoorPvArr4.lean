/- The pure evaluator: slices made by a literal or by make; copy, clear; bytes as a string. -/
import Derived.Test.YtlihpaegaikoeaaDoorPvArr3
import Derived.IntWalk
import Derived.Laws.BytesString
set_option linter.all false
namespace Pv
open Go

section
variable {P : Program} {γ : Gh} {w : World} {T : Tm} {a : Act} {H : Heap} {o : Oper} {v : AV} {e : Eff} {t : Tch}

/-- A new array object whose row is a new block. -/
theorem does_new (hH : RH γ w H) {k : Nat} (hk : freeAt H k) {el : TypeId} {z : Nat} (hz : 0 < z) {es : List DV} (hes : ∀ x ∈ es, x.cells.length = z) {cells : List Value} (hr : RDs γ.fix w (flat es) cells) (h1 : ones cells)
    (hlen : es.length ≤ maxLen) (hrun : (execOp a.eval o).run P w = .ok (.value (.slice (some ⟨w.heap.size, 0, none⟩) es.length es.length)) (w.alloc (.cells cells.toArray el))) :
    Does P γ w a o (.view k es.length z 0 es.length) (putAt H k (.arr es true)) := by
  have hg : w.grownBy (w.alloc (.cells cells.toArray el)) none := World.grownBy_alloc w _ none
  have hown : ∀ b, (Pl.arr (.slice (some ⟨w.heap.size, 0, none⟩) es.length es.length) z es.length).own = some b → w.heap.size ≤ b := fun b hb => by simp [Pl.own, Value.ownBlock] at hb; omega
  have hst := Stp.newAt hH hk hg hown
  have hcl : cells.length = es.length * z := by rw [hr.length, flat_length hes]
  have hro : RArr (γ.put k (.arr (.slice (some ⟨w.heap.size, 0, none⟩) es.length es.length) z es.length)) (w.alloc (.cells cells.toArray el)) (.slice (some ⟨w.heap.size, 0, none⟩) es.length es.length) z es.length es true := by
    refine ⟨rfl, hes, hz, ⟨cells, el, hr.mono hst.fix, h1, hcl, .inr ⟨w.heap.size, es.length, cells.toArray, rfl, Nat.zero_le _, heap_alloc_new w _, Nat.le_refl _, hlen, by simpa using hcl, ?_⟩⟩, ?_, fun hw => by simp at hw⟩
    · rw [← hcl]; simp
    · intro _ g hg j hj
      simp [Value.ownBlock] at hg
      have := hH.fixb g j hj
      omega
  exact ⟨_, _, _, .inl hrun, RV.full (γ.put_same _ _) hro, RH.putAt hH hk hg hown hro, hst⟩

/-- A literal's elements filled in, one behind the other. -/
theorem fill_seq {z : Nat} (hz : 0 < z) : ∀ (parts : List (Nat × Operand)) (k : Nat) (vals : List Value) (pre rest : List Value), inOrder k parts = true → parts.map (fun p => a.eval p.2) = vals →
    (∀ v ∈ vals, v.cells.size = z) → pre.length = k * z → rest.length = parts.length * z →
    Instr.fill (fun i => some (i * z, z)) (pre ++ rest).toArray (parts.map fun p => (p.1, a.eval p.2)) = some (pre ++ vals.flatMap (fun v => v.cells.toList)).toArray
  | [], k, vals, pre, rest, _, hv, _, _, hr => by
    subst hv
    have : rest = [] := List.eq_nil_of_length_eq_zero (by simpa using hr)
    subst this
    simp [Instr.fill]
  | (i, x) :: parts, k, vals, pre, rest, ho, hv, hs, hp, hr => by
    subst hv
    simp only [inOrder, Bool.and_eq_true, beq_iff_eq] at ho
    obtain ⟨rfl, ho⟩ := ho
    have hsx : (a.eval x).cells.size = z := hs _ (by simp)
    simp only [List.length_cons, Nat.add_mul, Nat.one_mul] at hr
    simp only [List.map_cons, Instr.fill]
    rw [if_neg (by simp [hsx, hp, hr])]
    have hu := fold_upd (a.eval x).cells.toList (i * z) 0 (pre ++ rest).toArray (by simp [hsx, hp, hr])
    have he : ((a.eval x).cells.zipIdx.foldl (fun cs (p : Value × Nat) => cs.setIfInBounds (i * z + p.2) p.1) (pre ++ rest).toArray) = ((pre ++ (a.eval x).cells.toList) ++ rest.drop z).toArray := by
      apply Array.ext'
      rw [← Array.foldl_toList, Array.toList_zipIdx, hu]
      simp only [upd, Nat.add_zero, Array.length_toList, hsx]
      rw [← hp, List.take_left]
      rw [hp, show i * z + z = pre.length + z by omega, List.drop_length_add_append]
      simp
    rw [he]
    have ih := fill_seq hz parts (i + 1) _ (pre ++ (a.eval x).cells.toList) (rest.drop z) ho rfl (fun v hv => hs v (by simp at hv ⊢; exact .inr hv)) (by simp [hsx, hp, Nat.add_mul]) (by simp; omega)
    rw [ih]
    simp

theorem RVs.flat_cells : ∀ {es : List DV} {vals : List Value}, RVs γ w (es.map .d) vals → RDs γ.fix w (flat es) (vals.flatMap fun v => v.cells.toList) ∧ ones (vals.flatMap fun v => v.cells.toList)
  | [], _, h => by cases h; exact ⟨.nil, by simp [ones]⟩
  | x :: es, _, h => by
    cases h with
    | cons hx ht =>
      cases hx with
      | d hx =>
        have h1 := hx.one_cells
        have h2 := RVs.flat_cells ht
        exact ⟨by simpa [flat] using h1.1.append h2.1, by simpa using h1.2.append h2.2⟩

theorem RVs.cells_size {z : Nat} : ∀ {es : List DV} {vals : List Value}, RVs γ w (es.map .d) vals → (∀ x ∈ es, x.cells.length = z) → ∀ v ∈ vals, v.cells.size = z
  | [], _, h, _, v, hv => by cases h; simp at hv
  | x :: es, _, h, hz, v, hv => by
    cases h with
    | cons hx ht =>
      rcases List.mem_cons.1 hv with rfl | hv
      · cases hx with
        | d hx =>
          have := hx.one_cells.1.length
          simp at this
          rw [this]
          exact hz x (by simp)
      · exact RVs.cells_size ht (fun y hy => hz y (by simp [hy])) v hv

theorem run_buildSlice {ty el : TypeId} {i : TypeInfo} {zv : Value} (ht : P.underlying ty = some (.slice el)) (hi : P.info? el = some i) (hzv : i.zero = some zv) {len : Nat} (hbd : len * i.size ≤ 65536) {parts : Array (Nat × Value)} {cells : Array Value}
    (hfill : ∀ zc : Array Value, zc.size = len * i.size → Instr.fill (fun k => some (k * i.size, i.size)) zc parts.toList = some cells) :
    (Instr.buildSlice ty len parts).run P w = .ok (.slice (some ⟨w.heap.size, 0, none⟩) len len) (w.alloc (.cells cells el)) := by
  have hb24 : ¬ (16777216 < len * i.size) := by omega
  by_cases h0 : len * i.size = 0
  · have hf := hfill ((Array.range (len * i.size)).map (fun k => (#[] : Array Value)[k % (#[] : Array Value).size]!)) (by simp)
    unfold Instr.buildSlice
    simp only [run_underlying ht, Sem.run_bind, Result.andThen_ok, run_sizeOf' hi, Sem.run_ite]
    rw [if_neg (by simpa using hb24), if_pos h0]
    simp only [Sem.run_pure, Result.andThen_ok, hf]
    simp [newRow]
  · have hf := hfill ((Array.range (len * i.size)).map (fun k => zv.cells[k % zv.cells.size]!)) (by simp)
    unfold Instr.buildSlice
    simp only [run_underlying ht, Sem.run_bind, Result.andThen_ok, run_sizeOf' hi, Sem.run_ite]
    rw [if_neg (by simpa using hb24), if_neg h0]
    simp only [zeroValue, typeInfo, Sem.run_bind, run_program, Result.andThen_ok, hi, hzv, Sem.run_pure, hf]
    simp [newRow]


/-! make -/

mutual
theorem toD_nil {γ : Gh} {w : World} : ∀ (x : AV) {v : Value} {d : DV} {H' : Heap}, RV γ w x v → toD [] x = some (d, H') → RD γ.fix w d v ∧ H' = []
  | .d y, v, d, H', hr, h => by
    simp [toD] at h
    obtain ⟨rfl, rfl⟩ := h
    cases hr with
    | d hr => exact ⟨hr, rfl⟩
  | .nilS, v, d, H', hr, h => by
    simp [toD] at h
    obtain ⟨rfl, rfl⟩ := h
    cases hr
    exact ⟨.nil _ _, rfl⟩
  | .z0, v, d, H', hr, h => by
    simp [toD] at h
    obtain ⟨rfl, rfl⟩ := h
    cases hr
    exact ⟨.nil _ _, rfl⟩
  | .e0 b, v, d, H', hr, h => by
    simp [toD] at h
    obtain ⟨rfl, rfl⟩ := h
    cases hr <;> exact ⟨.nil _ _, rfl⟩
  | .view o g z off len, v, d, H', hr, h => by simp [toD] at h
  | .agg cs, v, d, H', hr, h => by
    simp only [toD] at h
    split at h
    · rename_i ds H2 hds
      simp at h
      obtain ⟨rfl, rfl⟩ := h
      cases hr with
      | agg hr h1 =>
        have := toDs_nil cs hr hds
        exact ⟨.agg this.1 h1, this.2⟩
    · simp at h
  | .ptr _ _, _, _, _, _, h => by simp [toD] at h
  | .mp _, _, _, _, _, h => by simp [toD] at h
  | .eptr _, _, _, _, _, h => by simp [toD] at h
  | .vptr _ _ _ _ _, _, _, _, _, h => by simp [toD] at h
  | .fn _ _ _, _, _, _, _, h => by simp [toD] at h
  | .tup _, _, _, _, _, h => by simp [toD] at h
  | .one, _, _, _, _, h => by simp [toD] at h
  | .junk, _, _, _, _, h => by simp [toD] at h
  | .und, _, _, _, _, h => by simp [toD] at h
theorem toDs_nil {γ : Gh} {w : World} : ∀ (xs : List AV) {vs : List Value} {ds : List DV} {H' : Heap}, RVs γ w xs vs → toDs [] xs = some (ds, H') → RDs γ.fix w ds vs ∧ H' = []
  | [], vs, ds, H', hr, h => by
    simp [toDs] at h
    obtain ⟨rfl, rfl⟩ := h
    cases hr
    exact ⟨.nil, rfl⟩
  | x :: r, vs, ds, H', hr, h => by
    cases hr with
    | cons hx ht =>
      simp only [toDs] at h
      split at h
      · rename_i y H1 h1
        have e1 := toD_nil x hx h1
        obtain ⟨hy, rfl⟩ := e1
        split at h
        · rename_i ys H2 h2
          simp at h
          obtain ⟨rfl, rfl⟩ := h
          have e2 := toDs_nil r ht h2
          exact ⟨.cons hy e2.1, e2.2⟩
        · simp at h
      · simp at h
end

theorem bslD_sound {γ : Gh} {w : World} {l : List AV} {vs : List Value} {es : List DV} (h : RVs γ w l vs) (hb : bslD l = some es) : RDs γ.fix w es vs := by
  unfold bslD at hb
  split at hb
  · rename_i es' hes
    simp at hb
    subst hb
    exact h.allD hes
  · split at hb
    · split at hb
      · rename_i es' H' hes
        simp at hb
        subst hb
        exact (toDs_nil _ h hes).1
      · simp at hb
    · simp at hb

theorem bsl_core {ty : TypeId} {len : Nat} {parts : Array (Nat × Operand)} (ho : o.op = .buildSlice ty len parts) (hH : RH γ w H) {el : TypeId} {i : TypeInfo} {zav : AV}
    (ht : P.underlying ty = some (.slice el)) (hi : P.info? el = some i) (hz : zeroOf P el = some zav) (hord : inOrder 0 parts.toList = true) (hlen : parts.size = len) (hsz : 0 < i.size) (hbd : len * i.size ≤ 65536)
    {k : Nat} (hk : freeAt H k) {es : List DV} (hds : RDs γ.fix w es ((parts.toList.map (·.2)).map a.eval)) (hez : ∀ x ∈ es, x.cells.length = i.size) : Does P γ w a o (.view k es.length i.size 0 es.length) (putAt H k (.arr es true)) := by
  obtain ⟨i2, zv, hi2, hzv, hcv⟩ := zeroOf_sound hz
  have h1 := RVs.of_d hds
  have hfc := RVs.flat_cells h1
  have hcs := RVs.cells_size h1 hez
  have hel : es.length = len := by
    have := h1.length
    simp at this
    omega
  have hll : es.length ≤ 65536 := by
    rw [hel]
    have := Nat.le_mul_of_pos_right len hsz
    omega
  refine does_new (el := el) hH hk hsz hez hfc.1 hfc.2 (by simp only [maxLen]; omega) ?_
  rw [hi] at hi2
  injection hi2 with hi2
  subst hi2
  have hmap : ∀ zc : Array Value, zc.size = len * i.size → Instr.fill (fun k' => some (k' * i.size, i.size)) zc (parts.map fun (i, x) => (i, a.eval x)).toList = some ((parts.toList.map (·.2)).map a.eval |>.flatMap fun v => v.cells.toList).toArray := by
    intro zc hzc
    have hparts : (parts.map fun (i, x) => (i, a.eval x)).toList = parts.toList.map fun p => (p.1, a.eval p.2) := by simp
    rw [hparts]
    have := fill_seq (a := a) hsz parts.toList 0 ((parts.toList.map (·.2)).map a.eval) [] zc.toList hord (by simp) hcs (by simp) (by simp [hzc, hlen])
    simpa using this
  have hrun := run_buildSlice (P := P) (w := w) ht hi hzv hbd hmap
  rw [hel]
  simp only [execOp, ho, Sem.run_bind, hrun, Result.andThen_ok, Sem.run_pure]


theorem n_bsl {ty : TypeId} {len : Nat} {parts : Array (Nat × Operand)} (ho : o.op = .buildSlice ty len parts) (hT : RT γ w T a) (hH : RH γ w H) {l : List Opn} (hl : opns (parts.toList.map (·.2)) = some l) {el : TypeId} {i : TypeInfo} {zav : AV}
    (ht : P.underlying ty = some (.slice el)) (hi : P.info? el = some i) (hz : zeroOf P el = some zav) (hord : inOrder 0 parts.toList = true) (hlen : parts.size = len) (hsz : 0 < i.size) (hbd : len * i.size ≤ 65536)
    {k : Nat} {c : Ob} (hk : freeAt H k) (h : newAt (.bsl i.size l) T k = some (v, c)) : Does P γ w a o v (putAt H k c) := by
  have h1 := opns_sound hT hl
  simp only [newAt] at h
  split at h
  · rename_i es hes
    split at h
    · rename_i hall
      simp at h
      obtain ⟨rfl, rfl⟩ := h
      have hez : ∀ x ∈ es, x.cells.length = i.size := by simpa using hall
      exact bsl_core ho hH ht hi hz hord hlen hsz hbd hk (bslD_sound h1 hes) hez
    · simp at h
  · simp at h

theorem act_bsl (z : Nat) (l : List Opn) : act (.bsl z l) T H = (newAt (.bsl z l) T H.length).map (fun p => (p.1, .push p.2, .new H.length)) ∨ (bslD (l.map (ev T)) = none ∧ act (.bsl z l) T H = (match toDs H (l.map (ev T)) with
      | some (es, H1) => if es.all (fun e => e.cells.length == z) then some (.view H1.length es.length z 0 es.length, .rep (H1 ++ [.arr es true]), .glob) else none
      | none => none)) := by
  cases hb : bslD (l.map (ev T)) with
  | some es =>
    refine .inl ?_
    simp only [act, newAt, hb]
    split <;> rfl
  | none =>
    refine .inr ⟨rfl, ?_⟩
    simp only [act, hb]
    cases toDs H (l.map (ev T)) with
    | none => rfl
    | some p => rfl

theorem toD_const {z : AV} {zv : Value} (hcv : cvA zv = some z) {d : DV} {H' : Heap} (h : toD [] z = some (d, H')) (fx : Nat → Nat → Prop) (w : World) : RD fx w d zv :=
  (toD_nil (γ := ⟨fx, fun _ => .no⟩) z (cvA_sound hcv) h).1

theorem flat_rep (zd : DV) : ∀ n, flat (List.replicate n zd) = (List.replicate n zd.cells).flatten
  | 0 => rfl
  | n + 1 => by
    have := flat_rep zd n
    simp only [flat] at this
    simp [List.replicate_succ, flat, this]

theorem rep_RDs {fx : Nat → Nat → Prop} {cs : List DV} {vs : List Value} (h : RDs fx w cs vs) (h1 : ones vs) : ∀ n, RDs fx w (List.replicate n cs).flatten (List.replicate n vs).flatten ∧ ones (List.replicate n vs).flatten
  | 0 => ⟨.nil, by simp [ones]⟩
  | n + 1 => by
    have := rep_RDs h h1 n
    simp only [List.replicate_succ, List.flatten_cons]
    exact ⟨h.append this.1, h1.append this.2⟩

theorem range_rep (z : Array Value) (hz : 0 < z.size) : ∀ n, ((Array.range (n * z.size)).map fun k => z[k % z.size]!).toList = (List.replicate n z.toList).flatten
  | 0 => by simp
  | n + 1 => by
    have ih := range_rep z hz n
    simp only [Array.toList_map, Array.toList_range] at ih ⊢
    rw [Nat.add_mul, Nat.one_mul, List.range_add, List.map_append, ih, List.map_map]
    rw [List.replicate_succ', List.flatten_concat]
    congr 1
    apply List.ext_getElem
    · simp
    · intro j h1 h2
      simp at h1
      simp only [List.getElem_map, List.getElem_range, Function.comp]
      have : (n * z.size + j) % z.size = j := by
        rw [Nat.add_comm, Nat.add_mul_mod_self_right]
        exact Nat.mod_eq_of_lt h1
      rw [this]
      simp [h1]

theorem run_makeSlice {ty el : TypeId} {i : TypeInfo} {zv : Value} (ht : P.underlying ty = some (.slice el)) (hi : P.info? el = some i) (hzv : i.zero = some zv) (hzs : zv.cells.size = i.size) (hsz : 0 < i.size) (hby : i.bytes ≤ 4096) {q : Nat} (hq : q ≤ LIM) :
    (Instr.makeSlice ty (.int .i64 (q : Int)) (.int .i64 (q : Int))).run P w = .ok (.slice (some ⟨w.heap.size, 0, none⟩) q q) (w.alloc (.cells (List.replicate q zv.cells.toList).flatten.toArray el)) := by
  have hq' : (q : Int) ≤ 4294967296 := by simp only [LIM] at hq; omega
  have hw1 : IntKind.i64.wrap (q : Int) = (q : Int) := IntWalk.i64_in _ (by omega)
  have hby2 : i.bytes * q ≤ 4096 * 4294967296 := Nat.mul_le_mul hby (by simpa [LIM] using hq)
  have hbi : ¬ (281474976710656 < (i.bytes : Int) * (q : Int)) := by
    have : ((i.bytes * q : Nat) : Int) = (i.bytes : Int) * (q : Int) := by simp
    omega
  have hneg : ¬ ((q : Int) < 0) := by omega
  have hrr := range_rep zv.cells (by omega) q
  have hrr' : (Array.range (q * i.size)).map (fun k => zv.cells[k % zv.cells.size]!) = (List.replicate q zv.cells.toList).flatten.toArray := by
    apply Array.ext'
    rw [← hzs]
    simpa using hrr
  unfold Instr.makeSlice
  simp only [run_underlying ht, Sem.run_bind, Result.andThen_ok, asInt, asIntOf, Sem.run_pure, typeInfo, run_program, hi, hw1]
  simp only [hneg, hbi, decide_false, Bool.or_false, Bool.false_or, Bool.false_eq_true, if_false, gt_iff_lt, Int.lt_irrefl]
  have h48 : ¬ ((2 : Int) ^ 48 < (i.bytes : Int) * (q : Int)) := by omega
  rw [if_neg (by simp only [h48, decide_false]; simp)]
  simp only [Sem.run_bind, run_askRoom, Result.andThen_ok, run_sizeOf' hi, Int.toNat_natCast, Sem.run_ite]
  by_cases h0 : q * i.size = 0
  · rw [if_pos h0]
    have hq0 : q = 0 := by
      rcases Nat.mul_eq_zero.1 h0 with h | h <;> omega
    subst hq0
    have hr0 : Array.map (fun _ : Nat => (default : Value)) (Array.range 0) = #[] := by apply Array.ext'; simp
    simp [newRow, hr0]
  · rw [if_neg h0]
    simp only [zeroValue, typeInfo, Sem.run_bind, run_program, Result.andThen_ok, hi, hzv, Sem.run_pure, newRow, run_newObj, hrr']
    rfl

theorem n_mksl {ty : TypeId} {n c : Operand} (ho : o.op = .makeSlice ty n c) (hT : RT γ w T a) (hH : RH γ w H) {n' c' : Opn} (hn : opn n = some n') (hc : opn c = some c') {el : TypeId} {i : TypeInfo} {zd : DV}
    (ht : P.underlying ty = some (.slice el)) (hi : P.info? el = some i) (hz : zeroD P el = some zd) (hsz : 0 < i.size) (hby : i.bytes ≤ 4096) (hzl : zd.cells.length = i.size)
    {k : Nat} {cc : Ob} (hfk : freeAt H k) (h : newAt (.mksl i.size zd n' c') T k = some (v, cc)) : Does P γ w a o v (putAt H k cc) := by
  have h1 := opn_sound hT hn
  have h2 := opn_sound hT hc
  obtain ⟨zav, hza, H2, hzd⟩ : ∃ zav, zeroOf P el = some zav ∧ ∃ H2, toD [] zav = some (zd, H2) := by
    unfold zeroD at hz
    split at hz
    · rename_i z hzz
      split at hz
      · rename_i x H2 hx
        simp at hz
        subst hz
        exact ⟨z, hzz, H2, hx⟩
      · simp at hz
    · simp at hz
  obtain ⟨i2, zv, hi2, hzv, hcv⟩ := zeroOf_sound hza
  rw [hi] at hi2
  injection hi2 with hi2
  subst hi2
  have hzr := toD_const hcv hzd γ.fix w
  have hzc := hzr.one_cells
  have hzs : zv.cells.size = i.size := by have := hzc.1.length; simp at this; omega
  simp only [newAt] at h
  split at h
  · rename_i m k' hm hk
    rw [hm] at h1
    rw [hk] at h2
    split at h
    · rename_i hcond
      obtain ⟨rfl, h0, hlim, _⟩ := hcond
      simp at h
      obtain ⟨rfl, rfl⟩ := h
      generalize hvn : a.eval n = vn at h1
      generalize hvc : a.eval c = vc at h2
      cases h1 with
      | d h1 =>
        cases h1
        cases h2 with
        | d h2 =>
          cases h2
          obtain ⟨q, rfl⟩ := Int.eq_ofNat_of_zero_le h0
          simp only [Int.toNat_natCast]
          have hq : q ≤ LIM := by omega
          have hrep := rep_RDs (w := w) hzc.1 hzc.2 q
          have hlen : (List.replicate q zd).length = q := by simp
          have hnew := does_new (P := P) (γ := γ) (w := w) (a := a) (o := o) (H := H) (el := el) hH hfk (z := i.size) hsz (es := List.replicate q zd) (fun x hx => by rw [List.eq_of_mem_replicate hx]; exact hzl)
            (cells := (List.replicate q zv.cells.toList).flatten) (by rw [flat_rep]; exact hrep.1) hrep.2 (by simp only [List.length_replicate, maxLen]; simp only [LIM] at hq; omega)
            (by
              rw [hlen]
              have hrun := run_makeSlice (P := P) (w := w) ht hi hzv hzs hsz hby hq
              simp only [execOp, ho, hvn, hvc, Sem.run_bind, hrun, Result.andThen_ok, Sem.run_pure])
          rw [hlen] at hnew
          exact hnew
    · simp at h
  · simp at h

/-! writing elements of an array of one's own -/

theorem act_mksl (z : Nat) (zd : DV) (n c : Opn) : act (.mksl z zd n c) T H = (newAt (.mksl z zd n c) T H.length).map fun p => (p.1, .push p.2, .new H.length) := by
  simp only [act, newAt]
  split
  · split <;> rfl
  · rfl

theorem flat_upd {es ys : List DV} {z off : Nat} (hz : ∀ e ∈ es, e.cells.length = z) (hy : ∀ e ∈ ys, e.cells.length = z) : flat (upd es off ys) = upd (flat es) (off * z) (flat ys) := by
  simp only [upd, flat_append]
  rw [flat_take hz, flat_drop hz, flat_length hy, Nat.add_mul]

theorem write_elems (hH : RH γ w H) {ob : Nat} {es : List DV} (hob : H[ob]? = some (.arr es true)) {u : Value} {z g' : Nat} (hpl : γ.pl ob = .arr u z g') {blk cap : Nat} {cur : Array Value} {el : TypeId}
    (hu : u = .slice (some ⟨blk, 0, none⟩) es.length cap) (hblk : w.heap[blk]? = some (.cells cur el (0, 0))) {ys : List DV} {off : Nat} (hfit : off + ys.length ≤ es.length) (hyz : ∀ e ∈ ys, e.cells.length = z)
    {news : List Value} (hr : RDs γ.fix w (flat ys) news) (h1 : ones news) :
    RH γ (w.setRow blk (upd cur.toList (off * z) news).toArray) (H.set ob (.arr (upd es off ys) true)) ∧ Stp γ w γ (w.setRow blk (upd cur.toList (off * z) news).toArray) ∧ off * z + news.length ≤ cur.size := by
  have hro := hH.ob _ _ hob
  rw [hpl] at hro
  have hro : RArr γ w u z g' es true := hro
  have hob' : u.ownBlock = some blk := by rw [hu]; rfl
  obtain ⟨cap', cur', vs, el', he, hblk', hle, hm, hcs, htk, hrr, hone⟩ := hro.block hob'
  rw [hu] at he
  injection he with _ _ hcap
  subst hcap
  rw [hblk] at hblk'
  injection hblk' with hblk'
  injection hblk' with hcc hee
  subst hcc; subst hee
  have hnf := hro.mu rfl blk hob'
  have hown : (γ.pl ob).own = some blk := by rw [hpl]; exact hob'
  have hfl := flat_length hro.sz
  have hfy := flat_length hyz
  have hnl : news.length = ys.length * z := by rw [hr.length, hfy]
  have hb1 : (off + ys.length) * z ≤ es.length * z := Nat.mul_le_mul_right _ hfit
  have hb2 : es.length * z ≤ cap * z := Nat.mul_le_mul_right _ hle
  rw [Nat.add_mul] at hb1
  have hcl : cur.toList.length = cap * z := by simpa using hcs
  have hfitc : off * z + news.length ≤ cur.toList.length := by rw [hcl, hnl]; omega
  have hstp := Stp.setRow (w := w) (cs := (upd cur.toList (off * z) news).toArray) hown hnf
  refine ⟨hH.setRow (List.getElem?_eq_some_iff.1 hob).1 hown hnf ?_, hstp, by simpa using hfitc⟩
  rw [hpl]
  have hul : (upd es off ys).length = es.length := length_upd _ _ _ hfit
  have hvl : vs.length = es.length * z := by rw [hrr.length, hfl]
  refine ⟨by rw [hul]; exact hro.hw, ?_, hro.zp, ⟨upd vs (off * z) news, el, ?_, hone.upd h1 _, ?_⟩, ?_, fun hw => by simp at hw⟩
  · intro x hx
    simp only [upd] at hx
    rcases List.mem_append.1 hx with hx | hx
    · exact hro.sz x (List.mem_of_mem_take hx)
    · rcases List.mem_append.1 hx with hx | hx
      · exact hyz x hx
      · exact hro.sz x (List.mem_of_mem_drop hx)
  · rw [flat_upd hro.sz hyz]
    exact (hrr.upd hr _).mono hstp.fix
  · refine ⟨by rw [length_upd _ _ _ (by rw [hvl, hnl]; omega), hul, hvl], .inr ⟨blk, cap, _, by rw [hul]; exact hu, Nat.zero_le _, setRow_heap w blk cur _ el _ hblk, by rw [hul]; exact hle, hm, ?_, ?_⟩⟩
    · simp
      rw [length_upd _ _ _ hfitc]
      exact hcl
    · rw [hul]
      show (upd cur.toList (off * z) news).take (es.length * z) = _
      rw [upd_take (by rw [hnl]; omega) (by rw [hcl]; exact hb2), htk]
  · intro _ g hg j
    rw [hob'] at hg
    injection hg with hg
    subst hg
    exact hnf j

theorem upd_nil {α : Type} (l : List α) (off : Nat) : upd l off [] = l := by simp [upd]

theorem set_same {α : Type} {l : List α} {i : Nat} {x : α} (h : l[i]? = some x) : l.set i x = l := by
  apply List.ext_getElem?
  intro k
  by_cases hk : k = i
  · subst hk
    rw [List.getElem?_set_self (List.getElem?_eq_some_iff.1 h).1, h]
  · rw [List.getElem?_set_ne (by omega)]

theorem does_cpy {c : Call} (ho : o.op = .call c) (hc : c.callee = .builtin .copy) {ty u : TypeId} (hat : c.argTypes.toList = [ty, u]) {x y : Operand} (har : c.args.toList = [x, y]) (hT : RT γ w T a) (hH : RH γ w H)
    {x' y' : Opn} (hx : opn x = some x') (hy : opn y = some y') {el : TypeId} {i : TypeInfo} (ht : P.underlying ty = some (.slice el)) (hi : P.info? el = some i) (hsz : 0 < i.size)
    (h : act (.cpy i.size x' y') T H = some (v, e, t)) : Does P γ w a o v (e.on H) := by
  have h1 := opn_sound hT hx
  have h2 := opn_sound hT hy
  have hat' : c.argTypes = #[ty, u] := by apply Array.ext'; simpa using hat
  have har' : c.args = #[x, y] := by apply Array.ext'; simpa using har
  have hrunOf : ∀ {r w'}, (Builtin.copy_ #[ty, u] o.type #[a.eval x, a.eval y]).run P w = .ok r w' → (execOp a.eval o).run P w = .ok (.value r) w' := by
    intro r w' hr
    refine run_builtin (f := Builtin.copy_) ho hc (fun _ _ _ _ => rfl) ?_
    rw [hat', har']
    simpa using hr
  simp only [act] at h
  split at h
  · rename_i ys ob g z off len hys hp
    rw [hp] at h1
    split at h
    · rename_i es hob
      split at h
      · rename_i hcond
        obtain ⟨hg0, hz0, hfit, hall⟩ := hcond
        subst hz0
        simp only [Option.some.injEq, Prod.mk.injEq] at h
        obtain ⟨rfl, rfl, rfl⟩ := h
        have hyz : ∀ e ∈ ys, e.cells.length = i.size := by simpa using hall
        obtain ⟨hlen, news, hnr, hn1, hfc⟩ := elems_sound (P := P) hH h2 hys hall hsz
        generalize hval : a.eval x = vx at h1 hrunOf
        cases h1 with
        | @view _ _ _ _ _ b cap u0 yy g' hpl hg hcc hb hh =>
          have hro := hH.ob _ _ hob
          rw [hpl] at hro
          have hro : RArr γ w u0 yy g' es true := hro
          have hv := hh (by rw [hro.hw]; omega)
          have hzz := hv.zz
          subst hzz
          have hnl : news.length = ys.length * i.size := by rw [hnr.length, flat_length hyz]
          have hfcn := hfc w rfl (min ys.length len) (Nat.min_le_left _ _)
          have hmin : Nat.min ys.length len = min ys.length len := rfl
          by_cases hn0 : min ys.length len = 0
          · refine ⟨goInt 0, w, γ, .inl (hrunOf ?_), ?_, ?_, .refl _ _⟩
            · rw [hn0] at hfcn
              cases b with
              | none => simp [Builtin.copy_, run_underlying ht, hlen, hmin, hn0, run_sizeOf' hi, hfcn]
              | some ad => simp [Builtin.copy_, run_underlying ht, hlen, hmin, hn0, run_sizeOf' hi, hfcn, storeCells]
            · rw [hn0]; exact .d (.i _ _)
            · rw [hn0]
              simp only [List.take_zero, upd_nil, Eff.on]
              rw [set_same hob]
              exact hH
          · have hlp : 0 < len := by omega
            obtain ⟨blk, hob', rfl⟩ := hv.sl _ _ _ rfl hlp
            obtain ⟨cap', cur, vs, el', hu0, hblk, hle, hm, hcs, htk, hrr, hone⟩ := hro.block hob'
            have hty : ∀ e ∈ ys.take (min ys.length len), e.cells.length = i.size := fun e he => hyz e (List.mem_of_mem_take he)
            have hW := write_elems hH hob hpl hu0 hblk (ys := ys.take (min ys.length len)) (off := off) (by simp; omega) hty (news := news.take (min ys.length len * i.size)) (by rw [flat_take hyz]; exact hnr.take _) (hn1.take _)
            refine ⟨goInt (min ys.length len : Nat), _, γ, .inl (hrunOf ?_), .d (.i _ _), hW.1, hW.2.1⟩
            have hst := run_storeCells_at P blk (off * i.size) el' (news.take (min ys.length len * i.size)) 0 cur w hblk (by simpa using hW.2.2) (hn1.take _)
            simp only [Nat.add_zero] at hst
            have he : (upd cur.toList (off * i.size) (news.take (min ys.length len * i.size))).toArray = (cur.toList.take (off * i.size) ++ news.take (min ys.length len * i.size) ++ cur.toList.drop (off * i.size + (news.take (min ys.length len * i.size)).length)).toArray := by simp [upd]
            rw [he]
            simp [Builtin.copy_, run_underlying ht, hlen, hmin, run_sizeOf' hi, hfcn, hst]
      · simp at h
    · simp at h
  · simp at h

theorem does_clr {c : Call} (ho : o.op = .call c) (hc : c.callee = .builtin .clear) {ty : TypeId} (hat : c.argTypes.toList = [ty]) {x : Operand} (har : c.args.toList = [x]) (hT : RT γ w T a) (hH : RH γ w H)
    {x' : Opn} (hx : opn x = some x') {el : TypeId} {i : TypeInfo} {zd : DV} (ht : P.underlying ty = some (.slice el)) (hi : P.info? el = some i) (hz : zeroD P el = some zd) (hsz : 0 < i.size) (hzl : zd.cells.length = i.size)
    (h : act (.clr zd x') T H = some (v, e, t)) : Does P γ w a o v (e.on H) := by
  have h1 := opn_sound hT hx
  obtain ⟨zav, hza, H2, hzd⟩ : ∃ zav, zeroOf P el = some zav ∧ ∃ H2, toD [] zav = some (zd, H2) := by
    unfold zeroD at hz
    split at hz
    · rename_i z hzz
      split at hz
      · rename_i x H2 hx
        simp at hz
        subst hz
        exact ⟨z, hzz, H2, hx⟩
      · simp at hz
    · simp at hz
  obtain ⟨i2, zv, hi2, hzv, hcv⟩ := zeroOf_sound hza
  rw [hi] at hi2
  injection hi2 with hi2
  subst hi2
  have hzr := toD_const hcv hzd γ.fix w
  have hzc := hzr.one_cells
  have hzs : zv.cells.size = i.size := by have := hzc.1.length; simp at this; omega
  have hat' : c.argTypes = #[ty] := by apply Array.ext'; simpa using hat
  have har' : c.args = #[x] := by apply Array.ext'; simpa using har
  have hrunOf : ∀ {r w'}, (Builtin.clear_ #[ty] o.type #[a.eval x]).run P w = .ok r w' → (execOp a.eval o).run P w = .ok (.value r) w' := by
    intro r w' hr
    refine run_builtin (f := Builtin.clear_) ho hc (fun _ _ _ _ => rfl) ?_
    rw [hat', har']
    simpa using hr
  simp only [act] at h
  split at h
  · rename_i ob g z off len hp
    rw [hp] at h1
    split at h
    · rename_i es hob
      split at h
      · rename_i hcond
        obtain ⟨hg0, hfit, hzl'⟩ := hcond
        simp only [Option.some.injEq, Prod.mk.injEq] at h
        obtain ⟨rfl, rfl, rfl⟩ := h
        generalize hval : a.eval x = vx at h1 hrunOf
        cases h1 with
        | @view _ _ _ _ _ b cap u0 yy g' hpl hg hcc hb hh =>
          have hro := hH.ob _ _ hob
          rw [hpl] at hro
          have hro : RArr γ w u0 yy g' es true := hro
          have hv := hh (by rw [hro.hw]; omega)
          have hzz := hv.zz
          subst hzz
          by_cases hn0 : len = 0
          · subst hn0
            refine ⟨.tuple #[], w, γ, .inl (hrunOf ?_), .junk _, ?_, .refl _ _⟩
            · cases b <;> simp [Builtin.clear_, run_underlying ht]
            · simp only [List.replicate_zero, upd_nil, Eff.on]
              rw [set_same hob]
              exact hH
          · have hlp : 0 < len := by omega
            obtain ⟨blk, hob', rfl⟩ := hv.sl _ _ _ rfl hlp
            obtain ⟨cap', cur, vs, el', hu0, hblk, hle, hm, hcs, htk, hrr, hone⟩ := hro.block hob'
            have hyi : yy = i.size := by omega
            subst hyi
            have hrep := rep_RDs (w := w) hzc.1 hzc.2 len
            have hW := write_elems hH hob hpl hu0 hblk (ys := List.replicate len zd) (off := off) (by simp; omega) (fun e he => by rw [List.eq_of_mem_replicate he]; exact hzl) (news := (List.replicate len zv.cells.toList).flatten) (by rw [flat_rep]; exact hrep.1) hrep.2
            refine ⟨.tuple #[], _, γ, .inl (hrunOf ?_), .junk _, hW.1, hW.2.1⟩
            have hst := run_storeCells_at P blk (off * i.size) el' (List.replicate len zv.cells.toList).flatten 0 cur w hblk (by simpa using hW.2.2) hrep.2
            simp only [Nat.add_zero] at hst
            have he : (upd cur.toList (off * i.size) (List.replicate len zv.cells.toList).flatten).toArray = (cur.toList.take (off * i.size) ++ (List.replicate len zv.cells.toList).flatten ++ cur.toList.drop (off * i.size + ((List.replicate len zv.cells.toList).flatten).length)).toArray := by simp [upd]
            rw [he]
            have hzc2 : (Builtin.zeroCells zv.cells len).toList = (List.replicate len zv.cells.toList).flatten := by
              have := range_rep zv.cells (by omega) len
              simpa [Builtin.zeroCells] using this
            obtain ⟨k, rfl⟩ : ∃ k, len = k + 1 := ⟨len - 1, by omega⟩
            simp only [Builtin.clear_, run_underlying ht, Sem.run_bind, Result.andThen_ok]
            simp [run_underlying ht, zeroValue, typeInfo, hi, hzv, hzc2, hst]
      · simp at h
    · simp at h
  · simp at h

theorem bytesOf_sound {fx : Nat → Nat → Prop} : ∀ {ys : List DV} {l : List UInt8} {news : List Value}, bytesOf ys = some l → RDs fx w (flat ys) news → ∃ ns : List Int, news = ns.map (Value.int .u8) ∧ ns.map (fun n => UInt8.ofNat n.toNat) = l
  | [], l, news, h, hr => by
    simp [bytesOf] at h
    subst h
    cases hr
    exact ⟨[], rfl, rfl⟩
  | y :: ys, l, news, h, hr => by
    cases y with
    | i k n =>
      cases k <;> simp only [bytesOf] at h <;> try (simp at h; done)
      split at h
      · rename_i l' hl
        simp at h
        subst h
        simp only [flat, List.flatMap_cons, DV.cells, List.singleton_append] at hr
        cases hr with
        | cons hx ht =>
          cases hx
          obtain ⟨ns, h1, h2⟩ := bytesOf_sound hl ht
          exact ⟨n :: ns, by simp [h1], by simp [h2]⟩
      · simp at h
    | _ => simp [bytesOf] at h

theorem foldl_push (ns : List Int) : ∀ s : ByteArray, ns.foldl (fun r n => r.push (UInt8.ofNat n.toNat)) s = ⟨s.data ++ (ns.map fun n => UInt8.ofNat n.toNat).toArray⟩ := by
  induction ns with
  | nil => intro s; obtain ⟨d⟩ := s; simp
  | cons n ns ih =>
    intro s
    rw [List.foldl_cons, ih]
    obtain ⟨d⟩ := s
    simp [ByteArray.push]

theorem q_b2s {src dst : TypeId} {x : Operand} (ho : o.op = .convert src dst x) (hT : RT γ w T a) (hH : RH γ w H) {x' : Opn} (hx : opn x = some x') {el : TypeId} (hs : P.underlying src = some (.slice el)) (he : P.underlying el = some (.int .u8)) (hd : P.underlying dst = some .string)
    (h : act (.b2s x') T H = some (v, e, t)) : Quiet P γ w a o v ∧ e = .none := by
  have h1 := opn_sound hT hx
  simp only [act] at h
  split at h
  · simp at h
  · rename_i hns
    split at h
    · rename_i ys hys
      split at h
      · rename_i l hl
        simp only [Option.some.injEq, Prod.mk.injEq] at h
        obtain ⟨rfl, rfl, rfl⟩ := h
        refine ⟨?_, rfl⟩
        have hall : ys.all (fun e => e.cells.length == 1) = true := by
          have : ∀ {ys : List DV} {l : List UInt8}, bytesOf ys = some l → ys.all (fun e => e.cells.length == 1) = true := by
            intro ys
            induction ys with
            | nil => intro l _; rfl
            | cons y ys ih =>
              intro l h
              cases y with
              | i k n =>
                cases k <;> simp only [bytesOf] at h <;> try (simp at h; done)
                split at h
                · rename_i l' hl'
                  rw [List.all_cons, ih hl']
                  rfl
                · simp at h
              | _ => simp [bytesOf] at h
          exact this hl
        obtain ⟨hlen, news, hnr, hn1, hfc⟩ := elems_sound (P := P) hH h1 hys hall (by omega)
        obtain ⟨ns, hns1, hns2⟩ := bytesOf_sound hl hnr
        have hnl : news.length = ys.length := by
          rw [hnr.length, flat_length (z := 1) (by simpa using hall)]
          omega
        have hf := hfc w rfl ys.length (Nat.le_refl _)
        rw [Nat.mul_one, List.take_of_length_le (by omega)] at hf
        have fin : ∀ b n c, a.eval x = .slice b n c → Quiet P γ w a o (.d (.s ⟨l.toArray⟩)) := by
          intro b n c hval
          rw [hval] at hlen hf
          have hn : n = ys.length := by
            have := hlen w
            simp [Builtin.lenOf] at this
            exact this
          subst hn
          have hconv := run_convert_bytes_string (P := P) w src dst el b ys.length c hs he hd
          have hbs : (Conv.bytesToString (.slice b ys.length c)).run P w = .ok (.string ⟨l.toArray⟩) w := by
            cases b with
            | none =>
              rw [firstCells_none] at hf
              simp at hf
              have : ns = [] := by
                have : news = [] := by simpa using hf.symm
                rw [this] at hns1
                simpa using hns1.symm
              subst this
              simp at hns2
              subst hns2
              simp [Conv.bytesToString]
              rfl
            | some ad =>
              simp only [Builtin.firstCells, Nat.mul_one] at hf
              rw [hns1] at hf
              rw [run_bytesToString w ad ys.length c ns hf, foldl_push, hns2]
              congr 2
              simp
          exact ⟨.string ⟨l.toArray⟩, by simp [execOp, ho, hval, hconv, hbs], .d (.s _)⟩
        generalize hvx : a.eval x = vx at h1 fin
        generalize hpx : ev T x' = px at h1 hys hns
        cases px with
        | d d =>
          cases d with
          | sl es =>
            cases h1 with
            | d h1 => cases h1 <;> exact fin _ _ _ rfl
          | s s => exact absurd rfl (hns s)
          | _ => simp [elems] at hys
        | nilS => cases h1; exact fin _ _ _ rfl
        | e0 b => cases h1 <;> exact fin _ _ _ rfl
        | z0 => cases h1; exact fin _ _ _ rfl
        | view ob g z off len => cases h1; exact fin _ _ _ rfl
        | _ => simp [elems] at hys
      · simp at h
    · simp at h

end
end Pv
