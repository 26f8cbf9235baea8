/- The pure evaluator: its equations, one for each kind of code and operation; small lemmas on slots and parts. -/
import Derived.Test.YtlihpaegaikoeaaDoorPvComp
import Derived.KernelRfl
set_option linter.all false
namespace Pv
open Go

section
variable (C : FuncId → Option AFn) (T : Tm) (H : Heap)

theorem evC_skip : evC C .skip T H = some (.nrm, T, H) := by rw [evC.eq_def]
theorem evC_ret : evC C .ret T H = some (.ret, T, H) := by rw [evC.eq_def]
theorem evC_exit (i : Nat) : evC C (.exit i) T H = some (.exit i, T, H) := by rw [evC.eq_def]
theorem evC_scope (a : ACode) : evC C (.scope a) T H = evC C a T H := by rw [evC.eq_def]
noncomputable def thenC (C : FuncId → Option AFn) (b : ACode) (r : AExit × Tm × Heap) : Option (AExit × Tm × Heap) := match r with
  | (.nrm, T, H) => evC C b T H
  | (e, T, H) => some (e, T, H)
theorem evC_seq (a b : ACode) : evC C (.seq a b) T H = (evC C a T H).bind (thenC C b) := by
  rw [evC.eq_def]
  show Option.bind _ _ = _
  congr 1
  funext r
  obtain ⟨e, T, H⟩ := r
  cases e <;> rfl
theorem thenC_nrm (b : ACode) : thenC C b (.nrm, T, H) = evC C b T H := rfl
theorem thenC_ret (b : ACode) : thenC C b (.ret, T, H) = some (.ret, T, H) := rfl
theorem thenC_exit (b : ACode) (i : Nat) : thenC C b (.exit i, T, H) = some (.exit i, T, H) := rfl
noncomputable def blockC (id : Nat) (r : AExit × Tm × Heap) : Option (AExit × Tm × Heap) := match r with
  | (.exit i, T, H) => if i = id then some (.nrm, T, H) else some (.exit i, T, H)
  | (e, T, H) => some (e, T, H)
theorem evC_block (id : Nat) (a : ACode) : evC C (.block id a) T H = (evC C a T H).bind (blockC id) := by
  rw [evC.eq_def]
  show Option.bind _ _ = _
  congr 1
  funext r
  obtain ⟨e, T, H⟩ := r
  cases e <;> rfl
theorem blockC_nrm (id : Nat) : blockC id (.nrm, T, H) = some (.nrm, T, H) := rfl
theorem blockC_ret (id : Nat) : blockC id (.ret, T, H) = some (.ret, T, H) := rfl
theorem blockC_exit (id i : Nat) : blockC id (.exit i, T, H) = if i = id then some (.nrm, T, H) else some (.exit i, T, H) := rfl
noncomputable def condC (C : FuncId → Option AFn) (a b : ACode) (T : Tm) (H : Heap) : AV → Option (AExit × Tm × Heap)
  | .d (.b x) => if x = true then evC C a T H else evC C b T H
  | _ => none
theorem evC_cond (c : Opn) (a b : ACode) : evC C (.cond c a b) T H = condC C a b T H (ev T c) := by
  rw [evC.eq_def]
  dsimp only
  generalize ev T c = v
  cases v with
  | d x => cases x <;> rfl
  | _ => rfl
theorem condC_b (a b : ACode) (x : Bool) : condC C a b T H (.d (.b x)) = if x = true then evC C a T H else evC C b T H := rfl
noncomputable def endR (n : Nat) (ps : List (Nat × Nat)) (r : Tm × Heap × List Tch) : Option (AExit × Tm × Heap) := match r with
  | (T, H, tl) => if pairsOk n tl ps then some (.nrm, T, H) else none
theorem evC_region (k : Option (List Nat)) (ops : List AOper) (ps : List (Nat × Nat)) :
    evC C (.region k ops ps) T H = (evR C ops (keepT k T) H []).bind (endR H.length ps) := by
  rw [evC.eq_def]; rfl
theorem endR_nil (n : Nat) (tl : List Tch) : endR n [] (T, H, tl) = some (.nrm, T, H) := rfl
theorem endR_cons (n : Nat) (tl : List Tch) (i j : Nat) (r : List (Nat × Nat)) :
    endR n ((i, j) :: r) (T, H, tl) = if indep n (tl.getD i .glob) (tl.getD j .glob) && pairsOk n tl r then some (.nrm, T, H) else none := rfl
theorem evC_loop (k : Option (List Nat)) (th : List Nat) (a : ACode) :
    evC C (.loop k th a) T H = evL C k a (thaws th T H).2.length (thaws th T H).1 (thaws th T H).2 := by rw [evC.eq_def]
noncomputable def againL (C : FuncId → Option AFn) (k : Option (List Nat)) (a : ACode) (n : Nat) (r : AExit × Tm × Heap) : Option (AExit × Tm × Heap) := match r with
  | (.nrm, T, H) => evL C k a n T H
  | (e, T, H) => some (e, T, H)
theorem evL_eq (k : Option (List Nat)) (a : ACode) (n : Nat) :
    evL C k a n T H = (evC C a (keepT k T) (trim n ((keepT k T).map (·.2)) H)).bind (againL C k a n) := by
  rw [evL.eq_def]
  show Option.bind _ _ = _
  congr 1
  funext r
  obtain ⟨e, T, H⟩ := r
  cases e <;> rfl
theorem againL_nrm (k : Option (List Nat)) (a : ACode) (n : Nat) : againL C k a n (.nrm, T, H) = evL C k a n T H := rfl
theorem evR_nil (tl : List Tch) : evR C [] T H tl = some (T, H, tl) := by rw [evR.eq_def]

/-- A region's operation, its guard asked. -/
noncomputable def stepR (C : FuncId → Option AFn) (o : AOper) (r : List AOper) (T : Tm) (H : Heap) (tl : List Tch) : Option Bool → Option (Tm × Heap × List Tch)
  | none => none
  | some false => evR C r (setT T o.dst .und) H (tl ++ [.none])
  | some true => match o.op with
      | .call g args => match callee T g args with
        | none => none
        | some (f, as) => match argD args H as with
          | some (ds, H1) => (evF C f (ds.map .d) []).bind fun p => match behind (frzAs as) (as.all isD) H1 p.2 p.1 with
            | some (v, H3, t) => evR C r (setT T o.dst v) H3 (tl ++ [t])
            | none => (evF C f as H).bind fun p => if H.length ≤ p.2.length then evR C r (setT T o.dst p.1) p.2 (tl ++ [inpl H as p.2]) else none
          | none => (evF C f as H).bind fun p => if H.length ≤ p.2.length then evR C r (setT T o.dst p.1) p.2 (tl ++ [inpl H as p.2]) else none
      | op => match act op T H with
        | some (v, e, t) => evR C r (setT T o.dst v) (e.on H) (tl ++ [t])
        | none => none

theorem evR_cons (o : AOper) (r : List AOper) (tl : List Tch) :
    evR C (o :: r) T H tl = stepR C o r T H tl (guardOk T o.guard) := by
  rw [evR.eq_def]
  dsimp only
  unfold stepR
  cases guardOk T o.guard with
  | none => rfl
  | some b => cases b <;> rfl

/-- A call's arguments looked at. -/
noncomputable def callR (C : FuncId → Option AFn) (dst : Option Nat) (r : List AOper) (T : Tm) (H : Heap) (tl : List Tch) (f : FuncId) (as : List AV) :
    Option (List DV × Heap) → Option (Tm × Heap × List Tch)
  | some (ds, H1) => (evF C f (ds.map .d) []).bind fun p => match behind (frzAs as) (as.all isD) H1 p.2 p.1 with
            | some (v, H3, t) => evR C r (setT T dst v) H3 (tl ++ [t])
            | none => (evF C f as H).bind fun p => if H.length ≤ p.2.length then evR C r (setT T dst p.1) p.2 (tl ++ [inpl H as p.2]) else none
  | none => (evF C f as H).bind fun p => if H.length ≤ p.2.length then evR C r (setT T dst p.1) p.2 (tl ++ [inpl H as p.2]) else none
noncomputable def calleeR (C : FuncId → Option AFn) (dst : Option Nat) (r : List AOper) (T : Tm) (H : Heap) (tl : List Tch) (args : List Opn) :
    Option (FuncId × List AV) → Option (Tm × Heap × List Tch)
  | none => none
  | some (f, as) => callR C dst r T H tl f as (argD args H as)
noncomputable def actR (C : FuncId → Option AFn) (dst : Option Nat) (r : List AOper) (T : Tm) (H : Heap) (tl : List Tch) :
    Option (AV × Eff × Tch) → Option (Tm × Heap × List Tch)
  | some (v, e, t) => evR C r (setT T dst v) (e.on H) (tl ++ [t])
  | none => none

theorem evR_op (dst : Option Nat) (op : AOp) (r : List AOper) (tl : List Tch) (h : ∀ g a, op ≠ .call g a) :
    evR C (⟨dst, op, none⟩ :: r) T H tl = actR C dst r T H tl (act op T H) := by
  rw [evR_cons]
  cases op <;> first | rfl | exact absurd rfl (h _ _)
theorem evR_mv (dst : Option Nat) (x : Opn) (r : List AOper) (tl : List Tch) :
    evR C (⟨dst, .mv x, none⟩ :: r) T H tl = actR C dst r T H tl (act (.mv x) T H) := evR_op C T H dst _ r tl (by intros; simp)
theorem evR_pick (dst : Option Nat) (c a b : Opn) (r : List AOper) (tl : List Tch) :
    evR C (⟨dst, .pick c a b, none⟩ :: r) T H tl = actR C dst r T H tl (act (.pick c a b) T H) := evR_op C T H dst _ r tl (by intros; simp)
theorem evR_bin (dst : Option Nat) (op : BinOp) (x y : Opn) (r : List AOper) (tl : List Tch) :
    evR C (⟨dst, .bin op x y, none⟩ :: r) T H tl = actR C dst r T H tl (act (.bin op x y) T H) := evR_op C T H dst _ r tl (by intros; simp)
theorem evR_eq (dst : Option Nat) (ne : Bool) (t : ETy) (x y : Opn) (r : List AOper) (tl : List Tch) :
    evR C (⟨dst, .eq ne t x y, none⟩ :: r) T H tl = actR C dst r T H tl (act (.eq ne t x y) T H) := evR_op C T H dst _ r tl (by intros; simp)
theorem evR_un (dst : Option Nat) (op : UnOp) (x : Opn) (r : List AOper) (tl : List Tch) :
    evR C (⟨dst, .un op x, none⟩ :: r) T H tl = actR C dst r T H tl (act (.un op x) T H) := evR_op C T H dst _ r tl (by intros; simp)
theorem evR_conv (dst : Option Nat) (k : IntKind) (x : Opn) (r : List AOper) (tl : List Tch) :
    evR C (⟨dst, .conv k x, none⟩ :: r) T H tl = actR C dst r T H tl (act (.conv k x) T H) := evR_op C T H dst _ r tl (by intros; simp)
theorem evR_convs (dst : Option Nat) (x : Opn) (r : List AOper) (tl : List Tch) :
    evR C (⟨dst, .convs x, none⟩ :: r) T H tl = actR C dst r T H tl (act (.convs x) T H) := evR_op C T H dst _ r tl (by intros; simp)
theorem evR_box (dst : Option Nat) (x : Opn) (r : List AOper) (tl : List Tch) :
    evR C (⟨dst, .box x, none⟩ :: r) T H tl = actR C dst r T H tl (act (.box x) T H) := evR_op C T H dst _ r tl (by intros; simp)
theorem evR_build (dst : Option Nat) (zero : List AV) (parts : List (Nat × Nat × Opn)) (r : List AOper) (tl : List Tch) :
    evR C (⟨dst, .build zero parts, none⟩ :: r) T H tl = actR C dst r T H tl (act (.build zero parts) T H) := evR_op C T H dst _ r tl (by intros; simp)
theorem evR_bsl (dst : Option Nat) (z : Nat) (parts : List Opn) (r : List AOper) (tl : List Tch) :
    evR C (⟨dst, .bsl z parts, none⟩ :: r) T H tl = actR C dst r T H tl (act (.bsl z parts) T H) := evR_op C T H dst _ r tl (by intros; simp)
theorem evR_load (dst : Option Nat) (comp : Bool) (n : Nat) (a : Opn) (r : List AOper) (tl : List Tch) :
    evR C (⟨dst, .load comp n a, none⟩ :: r) T H tl = actR C dst r T H tl (act (.load comp n a) T H) := evR_op C T H dst _ r tl (by intros; simp)
theorem evR_store (dst : Option Nat) (n : Nat) (a x : Opn) (r : List AOper) (tl : List Tch) :
    evR C (⟨dst, .store n a x, none⟩ :: r) T H tl = actR C dst r T H tl (act (.store n a x) T H) := evR_op C T H dst _ r tl (by intros; simp)
theorem evR_nilck (dst : Option Nat) (x : Opn) (r : List AOper) (tl : List Tch) :
    evR C (⟨dst, .nilck x, none⟩ :: r) T H tl = actR C dst r T H tl (act (.nilck x) T H) := evR_op C T H dst _ r tl (by intros; simp)
theorem evR_slice (dst : Option Nat) (z : Nat) (x : Opn) (lo hi mx : Option Opn) (r : List AOper) (tl : List Tch) :
    evR C (⟨dst, .slice z x lo hi mx, none⟩ :: r) T H tl = actR C dst r T H tl (act (.slice z x lo hi mx) T H) := evR_op C T H dst _ r tl (by intros; simp)
theorem evR_faddr (dst : Option Nat) (off : Nat) (x : Opn) (r : List AOper) (tl : List Tch) :
    evR C (⟨dst, .faddr off x, none⟩ :: r) T H tl = actR C dst r T H tl (act (.faddr off x) T H) := evR_op C T H dst _ r tl (by intros; simp)
theorem evR_field (dst : Option Nat) (comp : Bool) (off n : Nat) (x : Opn) (r : List AOper) (tl : List Tch) :
    evR C (⟨dst, .field comp off n x, none⟩ :: r) T H tl = actR C dst r T H tl (act (.field comp off n x) T H) := evR_op C T H dst _ r tl (by intros; simp)
theorem evR_iaddrA (dst : Option Nat) (len z : Nat) (x i : Opn) (r : List AOper) (tl : List Tch) :
    evR C (⟨dst, .iaddrA len z x i, none⟩ :: r) T H tl = actR C dst r T H tl (act (.iaddrA len z x i) T H) := evR_op C T H dst _ r tl (by intros; simp)
theorem evR_iaddrS (dst : Option Nat) (z : Nat) (x i : Opn) (r : List AOper) (tl : List Tch) :
    evR C (⟨dst, .iaddrS z x i, none⟩ :: r) T H tl = actR C dst r T H tl (act (.iaddrS z x i) T H) := evR_op C T H dst _ r tl (by intros; simp)
theorem evR_idxA (dst : Option Nat) (comp : Bool) (len z : Nat) (x i : Opn) (r : List AOper) (tl : List Tch) :
    evR C (⟨dst, .idxA comp len z x i, none⟩ :: r) T H tl = actR C dst r T H tl (act (.idxA comp len z x i) T H) := evR_op C T H dst _ r tl (by intros; simp)
theorem evR_idxS (dst : Option Nat) (x i : Opn) (r : List AOper) (tl : List Tch) :
    evR C (⟨dst, .idxS x i, none⟩ :: r) T H tl = actR C dst r T H tl (act (.idxS x i) T H) := evR_op C T H dst _ r tl (by intros; simp)
theorem evR_mkfn (dst : Option Nat) (f : FuncId) (first cap : List Opn) (r : List AOper) (tl : List Tch) :
    evR C (⟨dst, .mkfn f first cap, none⟩ :: r) T H tl = actR C dst r T H tl (act (.mkfn f first cap) T H) := evR_op C T H dst _ r tl (by intros; simp)
theorem evR_ext (dst : Option Nat) (x : Opn) (i : Nat) (r : List AOper) (tl : List Tch) :
    evR C (⟨dst, .ext x i, none⟩ :: r) T H tl = actR C dst r T H tl (act (.ext x i) T H) := evR_op C T H dst _ r tl (by intros; simp)
theorem evR_len (dst : Option Nat) (str : Bool) (x : Opn) (r : List AOper) (tl : List Tch) :
    evR C (⟨dst, .len str x, none⟩ :: r) T H tl = actR C dst r T H tl (act (.len str x) T H) := evR_op C T H dst _ r tl (by intros; simp)
theorem evR_app (dst : Option Nat) (z : Nat) (x y : Opn) (r : List AOper) (tl : List Tch) :
    evR C (⟨dst, .app z x y, none⟩ :: r) T H tl = actR C dst r T H tl (act (.app z x y) T H) := evR_op C T H dst _ r tl (by intros; simp)
theorem evR_mm (dst : Option Nat) (mx : Bool) (args : List Opn) (r : List AOper) (tl : List Tch) :
    evR C (⟨dst, .mm mx args, none⟩ :: r) T H tl = actR C dst r T H tl (act (.mm mx args) T H) := evR_op C T H dst _ r tl (by intros; simp)
theorem evR_mksl (dst : Option Nat) (z : Nat) (zero : DV) (n c : Opn) (r : List AOper) (tl : List Tch) :
    evR C (⟨dst, .mksl z zero n c, none⟩ :: r) T H tl = actR C dst r T H tl (act (.mksl z zero n c) T H) := evR_op C T H dst _ r tl (by intros; simp)
theorem evR_cpy (dst : Option Nat) (z : Nat) (x y : Opn) (r : List AOper) (tl : List Tch) :
    evR C (⟨dst, .cpy z x y, none⟩ :: r) T H tl = actR C dst r T H tl (act (.cpy z x y) T H) := evR_op C T H dst _ r tl (by intros; simp)
theorem evR_clr (dst : Option Nat) (zero : DV) (x : Opn) (r : List AOper) (tl : List Tch) :
    evR C (⟨dst, .clr zero x, none⟩ :: r) T H tl = actR C dst r T H tl (act (.clr zero x) T H) := evR_op C T H dst _ r tl (by intros; simp)
theorem evR_b2s (dst : Option Nat) (x : Opn) (r : List AOper) (tl : List Tch) :
    evR C (⟨dst, .b2s x, none⟩ :: r) T H tl = actR C dst r T H tl (act (.b2s x) T H) := evR_op C T H dst _ r tl (by intros; simp)
theorem evR_isnil (dst : Option Nat) (ne : Bool) (x : Opn) (r : List AOper) (tl : List Tch) :
    evR C (⟨dst, .isnil ne x, none⟩ :: r) T H tl = actR C dst r T H tl (act (.isnil ne x) T H) := evR_op C T H dst _ r tl (by intros; simp)
theorem evR_pnil (dst : Option Nat) (ne : Bool) (x : Opn) (r : List AOper) (tl : List Tch) :
    evR C (⟨dst, .pnil ne x, none⟩ :: r) T H tl = actR C dst r T H tl (act (.pnil ne x) T H) := evR_op C T H dst _ r tl (by intros; simp)
theorem evR_mkmap (dst : Option Nat) (k : IntKind) (r : List AOper) (tl : List Tch) :
    evR C (⟨dst, .mkmap k, none⟩ :: r) T H tl = actR C dst r T H tl (act (.mkmap k) T H) := evR_op C T H dst _ r tl (by intros; simp)
theorem evR_mget (dst : Option Nat) (k : IntKind) (zero : DV) (ok : Bool) (x i : Opn) (r : List AOper) (tl : List Tch) :
    evR C (⟨dst, .mget k zero ok x i, none⟩ :: r) T H tl = actR C dst r T H tl (act (.mget k zero ok x i) T H) := evR_op C T H dst _ r tl (by intros; simp)
theorem evR_mset (dst : Option Nat) (k : IntKind) (x i v : Opn) (r : List AOper) (tl : List Tch) :
    evR C (⟨dst, .mset k x i v, none⟩ :: r) T H tl = actR C dst r T H tl (act (.mset k x i v) T H) := evR_op C T H dst _ r tl (by intros; simp)
theorem evR_call (dst : Option Nat) (g : Opn) (args : List Opn) (r : List AOper) (tl : List Tch) :
    evR C (⟨dst, .call g args, none⟩ :: r) T H tl = calleeR C dst r T H tl args (callee T g args) := by
  rw [evR_cons]
  show (match callee T g args with | none => none | some (f, as) => _) = _
  cases callee T g args with
  | none => rfl
  | some p => obtain ⟨f, as⟩ := p; simp only [calleeR]; cases argD args H as <;> rfl
noncomputable def guardR (C : FuncId → Option AFn) (dst : Option Nat) (op : AOp) (r : List AOper) (T : Tm) (H : Heap) (tl : List Tch) (w : Bool) :
    AV → Option (Tm × Heap × List Tch)
  | .d (.b x) => if x = w then evR C (⟨dst, op, none⟩ :: r) T H tl else evR C r (setT T dst .und) H (tl ++ [.none])
  | .und => evR C r (setT T dst .und) H (tl ++ [.none])
  | _ => none
theorem evR_guard (dst : Option Nat) (op : AOp) (t : Nat) (w : Bool) (r : List AOper) (tl : List Tch) :
    evR C (⟨dst, op, some (t, w)⟩ :: r) T H tl = guardR C dst op r T H tl w (lk T t) := by
  rw [evR_cons]
  simp only [guardOk]
  cases lk T t <;> try rfl
  rename_i x
  cases x <;> try rfl
  rename_i b
  simp only [guardR]
  cases b <;> cases w <;> first | rfl | (simp only [evR_cons, guardOk]; rfl)
end

theorem lk_cons (j i : Nat) (v : AV) (r : Tm) : lk ((j, v) :: r) i = if i = j then v else lk r i := rfl
theorem setT_some (T : Tm) (d : Nat) (v : AV) : setT T (some d) v = (d, v) :: T := rfl
theorem setT_none (T : Tm) (v : AV) : setT T none v = T := rfl
theorem keepT_some (ks : List Nat) (T : Tm) : keepT (some ks) T = ks.map fun i => (i, lk T i) := rfl


theorem actR_some (C : FuncId → Option AFn) (T : Tm) (H : Heap) (dst : Option Nat) (r : List AOper) (tl : List Tch) (v : AV) (e : Eff) (t : Tch) :
    actR C dst r T H tl (some (v, e, t)) = evR C r (setT T dst v) (e.on H) (tl ++ [t]) := rfl
theorem callR_some (C : FuncId → Option AFn) (T : Tm) (H : Heap) (dst : Option Nat) (r : List AOper) (tl : List Tch) (f : FuncId) (as : List AV) (ds : List DV) (H1 : Heap) :
    callR C dst r T H tl f as (some (ds, H1)) = (evF C f (ds.map .d) []).bind fun p => match behind (frzAs as) (as.all isD) H1 p.2 p.1 with
            | some (v, H3, t) => evR C r (setT T dst v) H3 (tl ++ [t])
            | none => (evF C f as H).bind fun p => if H.length ≤ p.2.length then evR C r (setT T dst p.1) p.2 (tl ++ [inpl H as p.2]) else none := rfl
theorem callR_none (C : FuncId → Option AFn) (T : Tm) (H : Heap) (dst : Option Nat) (r : List AOper) (tl : List Tch) (f : FuncId) (as : List AV) :
    callR C dst r T H tl f as none = (evF C f as H).bind fun p => if H.length ≤ p.2.length then evR C r (setT T dst p.1) p.2 (tl ++ [inpl H as p.2]) else none := rfl
theorem calleeR_some (C : FuncId → Option AFn) (T : Tm) (H : Heap) (dst : Option Nat) (r : List AOper) (tl : List Tch) (args : List Opn) (f : FuncId) (as : List AV) :
    calleeR C dst r T H tl args (some (f, as)) = callR C dst r T H tl f as (argD args H as) := rfl
theorem rdT_view (o g z off len : Nat) : rdT (.view o g z off len) = .rd o := rfl
theorem rdT_d (x : DV) : rdT (.d x) = .none := rfl
theorem rdT_nilS : rdT .nilS = .none := rfl
theorem rdT_z0 : rdT .z0 = .none := rfl
theorem rdT_e0 (b : Bool) : rdT (.e0 b) = .none := rfl
theorem argD_nil (H : Heap) (as : List AV) : argD [] H as = toDs H as := rfl
theorem argD_t (t : Nat) (l : List Opn) (H : Heap) (as : List AV) : argD (.t t :: l) H as = toDs H as := rfl
theorem argD_f (g : FuncId) (l : List Opn) (H : Heap) (as : List AV) : argD (.f g :: l) H as = toDs H as := rfl
theorem argD_nilS (l : List Opn) (H : Heap) (as : List AV) : argD (.c .nilS :: l) H as = none := rfl
theorem argD_d (x : DV) (l : List Opn) (H : Heap) (as : List AV) : argD (.c (.d x) :: l) H as = toDs H as := rfl
theorem argD_agg (x : List AV) (l : List Opn) (H : Heap) (as : List AV) : argD (.c (.agg x) :: l) H as = toDs H as := rfl
theorem argD_one (l : List Opn) (H : Heap) (as : List AV) : argD (.c .one :: l) H as = toDs H as := rfl
theorem argD_fn (f : FuncId) (a b : List AV) (l : List Opn) (H : Heap) (as : List AV) : argD (.c (.fn f a b) :: l) H as = toDs H as := rfl
theorem guardR_b (C : FuncId → Option AFn) (dst : Option Nat) (op : AOp) (r : List AOper) (T : Tm) (H : Heap) (tl : List Tch) (w x : Bool) :
    guardR C dst op r T H tl w (.d (.b x)) = if x = w then evR C (⟨dst, op, none⟩ :: r) T H tl else evR C r (setT T dst .und) H (tl ++ [.none]) := rfl

theorem guardR_und (C : FuncId → Option AFn) (dst : Option Nat) (op : AOp) (r : List AOper) (T : Tm) (H : Heap) (tl : List Tch) (w : Bool) :
    guardR C dst op r T H tl w .und = evR C r (setT T dst .und) H (tl ++ [.none]) := rfl

/-- What a call's end tells. -/
noncomputable def endF (n : Nat) (res : List ARes) (r : AExit × Tm × Heap) : Option (AV × Heap) := match r with
  | (.exit _, _, _) => none
  | (_, T, H) => match resA T H res with
    | some v => some (finishR res n v H)
    | none => none
theorem endF_ret (n : Nat) (res : List ARes) (T : Tm) (H : Heap) : endF n res (.ret, T, H) = match resA T H res with
    | some v => some (finishR res n v H)
    | none => none := rfl
theorem endF_nrm (n : Nat) (res : List ARes) (T : Tm) (H : Heap) : endF n res (.nrm, T, H) = match resA T H res with
    | some v => some (finishR res n v H)
    | none => none := rfl
theorem finishR_tmp (t : Nat) (l : List ARes) (n : Nat) (v : AV) (H : Heap) : finishR (.tmp t :: l) n v H = finish n v H := rfl
theorem finishR_cell (c : Bool) (k t : Nat) (l : List ARes) (n : Nat) (v : AV) (H : Heap) : finishR (.cell c k t :: l) n v H = finish n v H := rfl
theorem finishR_nil (n : Nat) (v : AV) (H : Heap) : finishR [] n v H = finish n v H := rfl
theorem finishR_dat (r : ARes) (l : List ARes) (n : Nat) (v : AV) (H : Heap) : finishR (.dat r :: l) n v H = finish n (frzR H v).1 (frzR H v).2 := rfl
theorem evF_code {C : FuncId → Option AFn} {f : FuncId} {np : Nat} {b : ACode} {res : List ARes} (h : C f = some (.code np b res)) (args : List AV) (H : Heap) (hn : args.length = np) :
    evF C f args H = (evC C b (enum 0 args) H).bind (endF H.length res) := by
  rw [evF.eq_def]
  simp only [h, hn, if_true]
  show Option.bind _ _ = _
  congr 1
  funext r
  obtain ⟨e, T, H⟩ := r
  cases e <;> rfl
theorem evF_codef {C : FuncId → Option AFn} {f : FuncId} {fz : List Bool} {np : Nat} {b : ACode} {res : List ARes} (h : C f = some (.codef fz np b res)) (args : List AV) (H : Heap) (args2 : List AV) (H2 : Heap) (hz : frzL fz H args = (args2, H2)) (hn : args2.length = np) :
    evF C f args H = (evC C b (enum 0 args2) H2).bind (endF H2.length res) := by
  rw [evF.eq_def]
  simp only [h, hz, hn, if_true]
  show Option.bind _ _ = _
  congr 1
  funext r
  obtain ⟨e, T, H⟩ := r
  cases e <;> rfl

end Pv
