/- The program's data as Lean structures: their cells, and how the evaluator reads, writes, compares and builds them. Printed by gen_types.py. -/
import Derived.Test.YtlihpaegaikoeaaDoorPkRow
set_option linter.all false
namespace Pk
open Pv Go
set_option maxRecDepth 10000
theorem all_cells_of {α : Type} (f : α → DV) (z : Nat) (l : List α) (h : ∀ x, (f x).cells.length = z) : (l.map f).all (fun e => e.cells.length == z) = true := by
  rw [List.all_map, List.all_eq_true]
  intro x _
  simp [h x]
theorem toDs_snoc (H : Heap) (l : List DV) (v : AV) : toDs H (l.map .d ++ [v]) = (toD H v).map fun p => (l ++ [p.1], p.2) := by
  induction l with
  | nil => simp only [List.map_nil, List.nil_append, toDs]; cases toD H v <;> rfl
  | cons x l ih => simp only [List.map_cons, List.cons_append, toDs, toD, ih]; cases toD H v <;> rfl
theorem all_snoc (l : List DV) (v : AV) : (l.map AV.d ++ [v]).all isD0 = isD0 v := by
  rw [List.all_append, List.all_map]
  have : l.all (isD0 ∘ AV.d) = true := by simp [isD0]
  rw [this]
  simp
theorem lts_snoc (n : Nat) (l : List DV) (v : AV) : lts n (l.map .d ++ [v]) = lt n v := by
  induction l with
  | nil => simp [lts]
  | cons x l ih => simp only [List.map_cons, List.cons_append, lts, lt, ih, Bool.true_and]

/-! Osd -/
structure Osd where
  up : Bool
  weight : Int
  host : Int
  deriving DecidableEq
def Osd.cs (x : Osd) : List DV := .b x.up :: .i .i64 x.weight :: .i .u8 x.host :: []
def Osd.d (x : Osd) : DV := .agg x.cs
def Osd.zero : Osd := ⟨false, 0, 0⟩
instance : Inhabited Osd := ⟨Osd.zero⟩
def Osd.ok (x : Osd) : Prop := (-9223372036854775808 ≤ x.weight ∧ x.weight ≤ 9223372036854775807) ∧ (0 ≤ x.host ∧ x.host < 256)
theorem Osd.all_cells (l : List Osd) : (l.map Osd.d).all (fun e => e.cells.length == 3) = true := all_cells_of _ _ _ fun _ => rfl
theorem Osd.len (x : Osd) : x.cs.length = 3 := rfl
theorem Osd.d_eq (x : Osd) : x.d = .agg x.cs := rfl
theorem Osd.t_all (x : Osd) : List.take 3 x.cs = x.cs := rfl
theorem Osd.eta (x : Osd) : (Osd.mk x.up x.weight x.host : Osd) = x := rfl
theorem Osd.r_all (x : Osd) : subL x.cs 0 3 = x.cs := rfl
theorem Osd.w_all (x y : Osd) : upd x.cs 0 y.cs = y.cs := rfl
def Osd.ety : ETy := .agg [(0, 1, .sb), (1, 1, .si), (2, 1, .si)]
theorem Osd.eq (x y : Osd) : eqV Osd.ety (.agg x.cs) (.agg y.cs) = some (decide (x = y)) := by
  unfold Osd.ety
  obtain ⟨a0, a1, a2⟩ := x
  obtain ⟨b0, b1, b2⟩ := y
  rw [eqV_agg, eqVs_step (x := .b a0) (y := .b b0) rfl rfl (eqV_b _ _), eqVs_step (x := .i .i64 a1) (y := .i .i64 b1) rfl rfl (eqV_i _ _ _), eqVs_step (x := .i .u8 a2) (y := .i .u8 b2) rfl rfl (eqV_i _ _ _), eqVs_nil]
  simp only [decide_eq_true_eq, Osd.mk.injEq]
  by_cases g0 : a0 = b0 <;> by_cases g1 : a1 = b1 <;> by_cases g2 : a2 = b2 <;> simp [g0, g1, g2]
theorem Osd.fold (y_up : Bool) (y_weight : Int) (y_host : Int) : (DV.agg [.b y_up, .i .i64 y_weight, .i .u8 y_host] : DV) = .agg (Osd.cs ⟨y_up, y_weight, y_host⟩) := rfl

/-! Mp -/
structure Mp where
  epoch : Int
  osds : R5 Osd
  deriving DecidableEq
def Mp.cs (x : Mp) : List DV := .i .u32 x.epoch :: R5.cs Osd.cs x.osds
def Mp.d (x : Mp) : DV := .agg x.cs
def Mp.zero : Mp := ⟨0, ⟨Osd.zero, Osd.zero, Osd.zero, Osd.zero, Osd.zero⟩⟩
instance : Inhabited Mp := ⟨Mp.zero⟩
def Mp.ok (x : Mp) : Prop := (0 ≤ x.epoch ∧ x.epoch < 4294967296) ∧ (Osd.ok x.osds.a0 ∧ Osd.ok x.osds.a1 ∧ Osd.ok x.osds.a2 ∧ Osd.ok x.osds.a3 ∧ Osd.ok x.osds.a4)
theorem Mp.all_cells (l : List Mp) : (l.map Mp.d).all (fun e => e.cells.length == 16) = true := all_cells_of _ _ _ fun _ => rfl
theorem Mp.len (x : Mp) : x.cs.length = 16 := rfl
theorem Mp.d_eq (x : Mp) : x.d = .agg x.cs := rfl
theorem Mp.t_all (x : Mp) : List.take 16 x.cs = x.cs := rfl
theorem Mp.eta (x : Mp) : (Mp.mk x.epoch x.osds : Mp) = x := rfl
theorem Mp.r_all (x : Mp) : subL x.cs 0 16 = x.cs := rfl
theorem Mp.w_all (x y : Mp) : upd x.cs 0 y.cs = y.cs := rfl
def Mp_osds_ety : ETy := .agg [(0, 3, Osd.ety), (3, 3, Osd.ety), (6, 3, Osd.ety), (9, 3, Osd.ety), (12, 3, Osd.ety)]
theorem Mp_osds_eq (x y : R5 Osd) : eqV Mp_osds_ety (.agg (R5.cs Osd.cs x)) (.agg (R5.cs Osd.cs y)) = some (decide (x = y)) := by
  unfold Mp_osds_ety
  obtain ⟨a0, a1, a2, a3, a4⟩ := x
  obtain ⟨b0, b1, b2, b3, b4⟩ := y
  rw [eqV_agg, eqVs_step (x := .agg (Osd.cs a0)) (y := .agg (Osd.cs b0)) rfl rfl (Osd.eq _ _), eqVs_step (x := .agg (Osd.cs a1)) (y := .agg (Osd.cs b1)) rfl rfl (Osd.eq _ _), eqVs_step (x := .agg (Osd.cs a2)) (y := .agg (Osd.cs b2)) rfl rfl (Osd.eq _ _), eqVs_step (x := .agg (Osd.cs a3)) (y := .agg (Osd.cs b3)) rfl rfl (Osd.eq _ _), eqVs_step (x := .agg (Osd.cs a4)) (y := .agg (Osd.cs b4)) rfl rfl (Osd.eq _ _), eqVs_nil]
  simp only [decide_eq_true_eq, R5.mk.injEq]
  by_cases g0 : a0 = b0 <;> by_cases g1 : a1 = b1 <;> by_cases g2 : a2 = b2 <;> by_cases g3 : a3 = b3 <;> by_cases g4 : a4 = b4 <;> simp [g0, g1, g2, g3, g4]
def Mp.ety : ETy := .agg [(0, 1, .si), (1, 15, Mp_osds_ety)]
theorem Mp.eq (x y : Mp) : eqV Mp.ety (.agg x.cs) (.agg y.cs) = some (decide (x = y)) := by
  unfold Mp.ety
  obtain ⟨a0, a1⟩ := x
  obtain ⟨b0, b1⟩ := y
  rw [eqV_agg, eqVs_step (x := .i .u32 a0) (y := .i .u32 b0) rfl rfl (eqV_i _ _ _), eqVs_step (x := .agg (R5.cs Osd.cs a1)) (y := .agg (R5.cs Osd.cs b1)) rfl rfl (Mp_osds_eq _ _), eqVs_nil]
  simp only [decide_eq_true_eq, Mp.mk.injEq]
  by_cases g0 : a0 = b0 <;> by_cases g1 : a1 = b1 <;> simp [g0, g1]
theorem Mp.fold (y_epoch : Int) (y_osds0up : Bool) (y_osds0weight : Int) (y_osds0host : Int) (y_osds1up : Bool) (y_osds1weight : Int) (y_osds1host : Int) (y_osds2up : Bool) (y_osds2weight : Int) (y_osds2host : Int) (y_osds3up : Bool) (y_osds3weight : Int) (y_osds3host : Int) (y_osds4up : Bool) (y_osds4weight : Int) (y_osds4host : Int) : (DV.agg [.i .u32 y_epoch, .b y_osds0up, .i .i64 y_osds0weight, .i .u8 y_osds0host, .b y_osds1up, .i .i64 y_osds1weight, .i .u8 y_osds1host, .b y_osds2up, .i .i64 y_osds2weight, .i .u8 y_osds2host, .b y_osds3up, .i .i64 y_osds3weight, .i .u8 y_osds3host, .b y_osds4up, .i .i64 y_osds4weight, .i .u8 y_osds4host] : DV) = .agg (Mp.cs ⟨y_epoch, ⟨⟨y_osds0up, y_osds0weight, y_osds0host⟩, ⟨y_osds1up, y_osds1weight, y_osds1host⟩, ⟨y_osds2up, y_osds2weight, y_osds2host⟩, ⟨y_osds3up, y_osds3weight, y_osds3host⟩, ⟨y_osds4up, y_osds4weight, y_osds4host⟩⟩⟩) := rfl
theorem Mp.foldc (y_epoch : Int) (y_osds : R5 Osd) : (DV.agg (.i .u32 y_epoch :: R5.cs Osd.cs y_osds) : DV) = .agg (Mp.cs ⟨y_epoch, y_osds⟩) := rfl

/-! Inc -/
structure Inc where
  kind : Int
  osd : Int
  n : Int
  deriving DecidableEq
def Inc.cs (x : Inc) : List DV := .i .u8 x.kind :: .i .u8 x.osd :: .i .i64 x.n :: []
def Inc.d (x : Inc) : DV := .agg x.cs
def Inc.zero : Inc := ⟨0, 0, 0⟩
instance : Inhabited Inc := ⟨Inc.zero⟩
def Inc.ok (x : Inc) : Prop := (0 ≤ x.kind ∧ x.kind < 256) ∧ (0 ≤ x.osd ∧ x.osd < 256) ∧ (-9223372036854775808 ≤ x.n ∧ x.n ≤ 9223372036854775807)
theorem Inc.all_cells (l : List Inc) : (l.map Inc.d).all (fun e => e.cells.length == 3) = true := all_cells_of _ _ _ fun _ => rfl
theorem Inc.len (x : Inc) : x.cs.length = 3 := rfl
theorem Inc.d_eq (x : Inc) : x.d = .agg x.cs := rfl
theorem Inc.t_all (x : Inc) : List.take 3 x.cs = x.cs := rfl
theorem Inc.eta (x : Inc) : (Inc.mk x.kind x.osd x.n : Inc) = x := rfl
theorem Inc.r_all (x : Inc) : subL x.cs 0 3 = x.cs := rfl
theorem Inc.w_all (x y : Inc) : upd x.cs 0 y.cs = y.cs := rfl
theorem Inc.r_kind (x : Inc) : x.cs[0]? = some (.i .u8 x.kind) := rfl
theorem Inc.w_kind (x : Inc) (v : Int) : upd x.cs 0 ([.i .u8 v]) = Inc.cs { x with kind := v } := rfl
theorem Inc.r_n (x : Inc) : x.cs[2]? = some (.i .i64 x.n) := rfl
theorem Inc.p_n (x : Inc) : x.cs.drop 2 = (.i .i64 x.n) :: x.cs.drop 3 := rfl
theorem Inc.w_n (x : Inc) (v : Int) : upd x.cs 2 ([.i .i64 v]) = Inc.cs { x with n := v } := rfl
def Inc.ety : ETy := .agg [(0, 1, .si), (1, 1, .si), (2, 1, .si)]
theorem Inc.eq (x y : Inc) : eqV Inc.ety (.agg x.cs) (.agg y.cs) = some (decide (x = y)) := by
  unfold Inc.ety
  obtain ⟨a0, a1, a2⟩ := x
  obtain ⟨b0, b1, b2⟩ := y
  rw [eqV_agg, eqVs_step (x := .i .u8 a0) (y := .i .u8 b0) rfl rfl (eqV_i _ _ _), eqVs_step (x := .i .u8 a1) (y := .i .u8 b1) rfl rfl (eqV_i _ _ _), eqVs_step (x := .i .i64 a2) (y := .i .i64 b2) rfl rfl (eqV_i _ _ _), eqVs_nil]
  simp only [decide_eq_true_eq, Inc.mk.injEq]
  by_cases g0 : a0 = b0 <;> by_cases g1 : a1 = b1 <;> by_cases g2 : a2 = b2 <;> simp [g0, g1, g2]
theorem Inc.fold (y_kind : Int) (y_osd : Int) (y_n : Int) : (DV.agg [.i .u8 y_kind, .i .u8 y_osd, .i .i64 y_n] : DV) = .agg (Inc.cs ⟨y_kind, y_osd, y_n⟩) := rfl

/-! Opr -/
structure Opr where
  client : Int
  seq : Int
  kind : Int
  obj : Int
  at_ : Int
  data : ByteArray
  deriving DecidableEq
def Opr.cs (x : Opr) : List DV := .i .u8 x.client :: .i .u32 x.seq :: .i .u8 x.kind :: .i .u8 x.obj :: .i .u8 x.at_ :: .s x.data :: []
def Opr.d (x : Opr) : DV := .agg x.cs
def Opr.zero : Opr := ⟨0, 0, 0, 0, 0, ⟨#[]⟩⟩
instance : Inhabited Opr := ⟨Opr.zero⟩
def Opr.ok (x : Opr) : Prop := (0 ≤ x.client ∧ x.client < 256) ∧ (0 ≤ x.seq ∧ x.seq < 4294967296) ∧ (0 ≤ x.kind ∧ x.kind < 256) ∧ (0 ≤ x.obj ∧ x.obj < 256) ∧ (0 ≤ x.at_ ∧ x.at_ < 256) ∧ (x.data.size ≤ maxLen)
theorem Opr.all_cells (l : List Opr) : (l.map Opr.d).all (fun e => e.cells.length == 6) = true := all_cells_of _ _ _ fun _ => rfl
theorem Opr.len (x : Opr) : x.cs.length = 6 := rfl
theorem Opr.d_eq (x : Opr) : x.d = .agg x.cs := rfl
theorem Opr.t_all (x : Opr) : List.take 6 x.cs = x.cs := rfl
theorem Opr.eta (x : Opr) : (Opr.mk x.client x.seq x.kind x.obj x.at_ x.data : Opr) = x := rfl
theorem Opr.r_all (x : Opr) : subL x.cs 0 6 = x.cs := rfl
theorem Opr.w_all (x y : Opr) : upd x.cs 0 y.cs = y.cs := rfl
theorem Opr.r_client (x : Opr) : x.cs[0]? = some (.i .u8 x.client) := rfl
theorem Opr.w_client (x : Opr) (v : Int) : upd x.cs 0 ([.i .u8 v]) = Opr.cs { x with client := v } := rfl
theorem Opr.r_seq (x : Opr) : x.cs[1]? = some (.i .u32 x.seq) := rfl
theorem Opr.p_seq (x : Opr) : x.cs.drop 1 = (.i .u32 x.seq) :: x.cs.drop 2 := rfl
theorem Opr.w_seq (x : Opr) (v : Int) : upd x.cs 1 ([.i .u32 v]) = Opr.cs { x with seq := v } := rfl
theorem Opr.r_kind (x : Opr) : x.cs[2]? = some (.i .u8 x.kind) := rfl
theorem Opr.p_kind (x : Opr) : x.cs.drop 2 = (.i .u8 x.kind) :: x.cs.drop 3 := rfl
theorem Opr.w_kind (x : Opr) (v : Int) : upd x.cs 2 ([.i .u8 v]) = Opr.cs { x with kind := v } := rfl
theorem Opr.r_obj (x : Opr) : x.cs[3]? = some (.i .u8 x.obj) := rfl
theorem Opr.p_obj (x : Opr) : x.cs.drop 3 = (.i .u8 x.obj) :: x.cs.drop 4 := rfl
theorem Opr.w_obj (x : Opr) (v : Int) : upd x.cs 3 ([.i .u8 v]) = Opr.cs { x with obj := v } := rfl
theorem Opr.r_at_ (x : Opr) : x.cs[4]? = some (.i .u8 x.at_) := rfl
theorem Opr.p_at_ (x : Opr) : x.cs.drop 4 = (.i .u8 x.at_) :: x.cs.drop 5 := rfl
theorem Opr.w_at_ (x : Opr) (v : Int) : upd x.cs 4 ([.i .u8 v]) = Opr.cs { x with at_ := v } := rfl
theorem Opr.r_data (x : Opr) : x.cs[5]? = some (.s x.data) := rfl
theorem Opr.p_data (x : Opr) : x.cs.drop 5 = (.s x.data) :: x.cs.drop 6 := rfl
theorem Opr.w_data (x : Opr) (v : ByteArray) : upd x.cs 5 ([.s v]) = Opr.cs { x with data := v } := rfl
def Opr.ety : ETy := .agg [(0, 1, .si), (1, 1, .si), (2, 1, .si), (3, 1, .si), (4, 1, .si), (5, 1, .ss)]
theorem Opr.eq (x y : Opr) : eqV Opr.ety (.agg x.cs) (.agg y.cs) = some (decide (x = y)) := by
  unfold Opr.ety
  obtain ⟨a0, a1, a2, a3, a4, a5⟩ := x
  obtain ⟨b0, b1, b2, b3, b4, b5⟩ := y
  rw [eqV_agg, eqVs_step (x := .i .u8 a0) (y := .i .u8 b0) rfl rfl (eqV_i _ _ _), eqVs_step (x := .i .u32 a1) (y := .i .u32 b1) rfl rfl (eqV_i _ _ _), eqVs_step (x := .i .u8 a2) (y := .i .u8 b2) rfl rfl (eqV_i _ _ _), eqVs_step (x := .i .u8 a3) (y := .i .u8 b3) rfl rfl (eqV_i _ _ _), eqVs_step (x := .i .u8 a4) (y := .i .u8 b4) rfl rfl (eqV_i _ _ _), eqVs_step (x := .s a5) (y := .s b5) rfl rfl (eqV_s _ _), eqVs_nil]
  simp only [decide_eq_true_eq, Opr.mk.injEq]
  by_cases g0 : a0 = b0 <;> by_cases g1 : a1 = b1 <;> by_cases g2 : a2 = b2 <;> by_cases g3 : a3 = b3 <;> by_cases g4 : a4 = b4 <;> by_cases g5 : a5 = b5 <;> simp [g0, g1, g2, g3, g4, g5]
theorem Opr.fold (y_client : Int) (y_seq : Int) (y_kind : Int) (y_obj : Int) (y_at_ : Int) (y_data : ByteArray) : (DV.agg [.i .u8 y_client, .i .u32 y_seq, .i .u8 y_kind, .i .u8 y_obj, .i .u8 y_at_, .s y_data] : DV) = .agg (Opr.cs ⟨y_client, y_seq, y_kind, y_obj, y_at_, y_data⟩) := rfl

/-! Res -/
structure Res where
  code : Int
  data : ByteArray
  deriving DecidableEq
def Res.cs (x : Res) : List DV := .i .u8 x.code :: .s x.data :: []
def Res.d (x : Res) : DV := .agg x.cs
def Res.zero : Res := ⟨0, ⟨#[]⟩⟩
instance : Inhabited Res := ⟨Res.zero⟩
def Res.ok (x : Res) : Prop := (0 ≤ x.code ∧ x.code < 256) ∧ (x.data.size ≤ maxLen)
theorem Res.all_cells (l : List Res) : (l.map Res.d).all (fun e => e.cells.length == 2) = true := all_cells_of _ _ _ fun _ => rfl
theorem Res.len (x : Res) : x.cs.length = 2 := rfl
theorem Res.d_eq (x : Res) : x.d = .agg x.cs := rfl
theorem Res.t_all (x : Res) : List.take 2 x.cs = x.cs := rfl
theorem Res.eta (x : Res) : (Res.mk x.code x.data : Res) = x := rfl
theorem Res.r_all (x : Res) : subL x.cs 0 2 = x.cs := rfl
theorem Res.w_all (x y : Res) : upd x.cs 0 y.cs = y.cs := rfl
theorem Res.r_code (x : Res) : x.cs[0]? = some (.i .u8 x.code) := rfl
theorem Res.w_code (x : Res) (v : Int) : upd x.cs 0 ([.i .u8 v]) = Res.cs { x with code := v } := rfl
theorem Res.r_data (x : Res) : x.cs[1]? = some (.s x.data) := rfl
theorem Res.p_data (x : Res) : x.cs.drop 1 = (.s x.data) :: x.cs.drop 2 := rfl
theorem Res.w_data (x : Res) (v : ByteArray) : upd x.cs 1 ([.s v]) = Res.cs { x with data := v } := rfl
def Res.ety : ETy := .agg [(0, 1, .si), (1, 1, .ss)]
theorem Res.eq (x y : Res) : eqV Res.ety (.agg x.cs) (.agg y.cs) = some (decide (x = y)) := by
  unfold Res.ety
  obtain ⟨a0, a1⟩ := x
  obtain ⟨b0, b1⟩ := y
  rw [eqV_agg, eqVs_step (x := .i .u8 a0) (y := .i .u8 b0) rfl rfl (eqV_i _ _ _), eqVs_step (x := .s a1) (y := .s b1) rfl rfl (eqV_s _ _), eqVs_nil]
  simp only [decide_eq_true_eq, Res.mk.injEq]
  by_cases g0 : a0 = b0 <;> by_cases g1 : a1 = b1 <;> simp [g0, g1]
theorem Res.fold (y_code : Int) (y_data : ByteArray) : (DV.agg [.i .u8 y_code, .s y_data] : DV) = .agg (Res.cs ⟨y_code, y_data⟩) := rfl

/-! Objt -/
structure Objt where
  there : Bool
  data : ByteArray
  attr : R3 ByteArray
  deriving DecidableEq
def Objt.cs (x : Objt) : List DV := .b x.there :: .s x.data :: R3.cs (fun x => [.s x]) x.attr
def Objt.d (x : Objt) : DV := .agg x.cs
def Objt.zero : Objt := ⟨false, ⟨#[]⟩, ⟨⟨#[]⟩, ⟨#[]⟩, ⟨#[]⟩⟩⟩
instance : Inhabited Objt := ⟨Objt.zero⟩
def Objt.ok (x : Objt) : Prop := (x.data.size ≤ maxLen) ∧ ((x.attr.a0.size ≤ maxLen) ∧ (x.attr.a1.size ≤ maxLen) ∧ (x.attr.a2.size ≤ maxLen))
theorem Objt.all_cells (l : List Objt) : (l.map Objt.d).all (fun e => e.cells.length == 5) = true := all_cells_of _ _ _ fun _ => rfl
theorem Objt.len (x : Objt) : x.cs.length = 5 := rfl
theorem Objt.d_eq (x : Objt) : x.d = .agg x.cs := rfl
theorem Objt.t_all (x : Objt) : List.take 5 x.cs = x.cs := rfl
theorem Objt.eta (x : Objt) : (Objt.mk x.there x.data x.attr : Objt) = x := rfl
theorem Objt.r_all (x : Objt) : subL x.cs 0 5 = x.cs := rfl
theorem Objt.w_all (x y : Objt) : upd x.cs 0 y.cs = y.cs := rfl
theorem Objt.r_there (x : Objt) : x.cs[0]? = some (.b x.there) := rfl
theorem Objt.w_there (x : Objt) (v : Bool) : upd x.cs 0 ([.b v]) = Objt.cs { x with there := v } := rfl
theorem Objt.r_data (x : Objt) : x.cs[1]? = some (.s x.data) := rfl
theorem Objt.p_data (x : Objt) : x.cs.drop 1 = (.s x.data) :: x.cs.drop 2 := rfl
theorem Objt.w_data (x : Objt) (v : ByteArray) : upd x.cs 1 ([.s v]) = Objt.cs { x with data := v } := rfl
theorem Objt.r_attr (x : Objt) : subL x.cs 2 3 = R3.cs (fun x => [.s x]) x.attr := rfl
theorem Objt.w_attr (x : Objt) (v : R3 ByteArray) : upd x.cs 2 (R3.cs (fun x => [.s x]) v) = Objt.cs { x with attr := v } := rfl
theorem Objt.r_attr_i (x : Objt) {i : Nat} (h : i < 3) : x.cs[2 + i]? = some (.s ((x.attr.get i))) := match i, h with | 0, _ => rfl | 1, _ => rfl | 2, _ => rfl | _ + 3, h => absurd h (by omega)
theorem Objt.w_attr_i (x : Objt) {i : Nat} (h : i < 3) (v : ByteArray) : upd x.cs (2 + i) ([.s v]) = Objt.cs { x with attr := x.attr.set i v } := match i, h with | 0, _ => rfl | 1, _ => rfl | 2, _ => rfl | _ + 3, h => absurd h (by omega)
theorem Objt_attr_len (x : R3 ByteArray) : (R3.cs (fun x => [.s x]) x).length = 3 := rfl
theorem Objt_attr_i (x : R3 ByteArray) {i : Nat} (h : i < 3) : (R3.cs (fun x => [.s x]) x)[i]? = some (.s ((x.get i))) := match i, h with | 0, _ => rfl | 1, _ => rfl | 2, _ => rfl | _ + 3, h => absurd h (by omega)
def Objt_attr_ety : ETy := .agg [(0, 1, .ss), (1, 1, .ss), (2, 1, .ss)]
theorem Objt_attr_eq (x y : R3 ByteArray) : eqV Objt_attr_ety (.agg (R3.cs (fun x => [.s x]) x)) (.agg (R3.cs (fun x => [.s x]) y)) = some (decide (x = y)) := by
  unfold Objt_attr_ety
  obtain ⟨a0, a1, a2⟩ := x
  obtain ⟨b0, b1, b2⟩ := y
  rw [eqV_agg, eqVs_step (x := .s a0) (y := .s b0) rfl rfl (eqV_s _ _), eqVs_step (x := .s a1) (y := .s b1) rfl rfl (eqV_s _ _), eqVs_step (x := .s a2) (y := .s b2) rfl rfl (eqV_s _ _), eqVs_nil]
  simp only [decide_eq_true_eq, R3.mk.injEq]
  by_cases g0 : a0 = b0 <;> by_cases g1 : a1 = b1 <;> by_cases g2 : a2 = b2 <;> simp [g0, g1, g2]
def Objt.ety : ETy := .agg [(0, 1, .sb), (1, 1, .ss), (2, 3, Objt_attr_ety)]
theorem Objt.eq (x y : Objt) : eqV Objt.ety (.agg x.cs) (.agg y.cs) = some (decide (x = y)) := by
  unfold Objt.ety
  obtain ⟨a0, a1, a2⟩ := x
  obtain ⟨b0, b1, b2⟩ := y
  rw [eqV_agg, eqVs_step (x := .b a0) (y := .b b0) rfl rfl (eqV_b _ _), eqVs_step (x := .s a1) (y := .s b1) rfl rfl (eqV_s _ _), eqVs_step (x := .agg (R3.cs (fun x => [.s x]) a2)) (y := .agg (R3.cs (fun x => [.s x]) b2)) rfl rfl (Objt_attr_eq _ _), eqVs_nil]
  simp only [decide_eq_true_eq, Objt.mk.injEq]
  by_cases g0 : a0 = b0 <;> by_cases g1 : a1 = b1 <;> by_cases g2 : a2 = b2 <;> simp [g0, g1, g2]
theorem Objt.fold (y_there : Bool) (y_data : ByteArray) (y_attr0 : ByteArray) (y_attr1 : ByteArray) (y_attr2 : ByteArray) : (DV.agg [.b y_there, .s y_data, .s y_attr0, .s y_attr1, .s y_attr2] : DV) = .agg (Objt.cs ⟨y_there, y_data, ⟨y_attr0, y_attr1, y_attr2⟩⟩) := rfl
theorem Objt.foldc (y_there : Bool) (y_data : ByteArray) (y_attr : R3 ByteArray) : (DV.agg (.b y_there :: .s y_data :: R3.cs (fun x => [.s x]) y_attr) : DV) = .agg (Objt.cs ⟨y_there, y_data, y_attr⟩) := rfl

/-! Last -/
structure Last where
  seq : Int
  r : Res
  deriving DecidableEq
def Last.cs (x : Last) : List DV := .i .u32 x.seq :: Res.cs x.r
def Last.d (x : Last) : DV := .agg x.cs
def Last.zero : Last := ⟨0, Res.zero⟩
instance : Inhabited Last := ⟨Last.zero⟩
def Last.ok (x : Last) : Prop := (0 ≤ x.seq ∧ x.seq < 4294967296) ∧ Res.ok x.r
theorem Last.all_cells (l : List Last) : (l.map Last.d).all (fun e => e.cells.length == 3) = true := all_cells_of _ _ _ fun _ => rfl
theorem Last.len (x : Last) : x.cs.length = 3 := rfl
theorem Last.d_eq (x : Last) : x.d = .agg x.cs := rfl
theorem Last.t_all (x : Last) : List.take 3 x.cs = x.cs := rfl
theorem Last.eta (x : Last) : (Last.mk x.seq x.r : Last) = x := rfl
theorem Last.r_all (x : Last) : subL x.cs 0 3 = x.cs := rfl
theorem Last.w_all (x y : Last) : upd x.cs 0 y.cs = y.cs := rfl
theorem Last.r_seq (x : Last) : x.cs[0]? = some (.i .u32 x.seq) := rfl
theorem Last.w_seq (x : Last) (v : Int) : upd x.cs 0 ([.i .u32 v]) = Last.cs { x with seq := v } := rfl
theorem Last.r_r (x : Last) : subL x.cs 1 2 = Res.cs x.r := rfl
theorem Last.w_r (x : Last) (v : Res) : upd x.cs 1 (Res.cs v) = Last.cs { x with r := v } := rfl
theorem Last.r_r_code (x : Last) : x.cs[1]? = some (.i .u8 x.r.code) := rfl
theorem Last.p_r_code (x : Last) : x.cs.drop 1 = (.i .u8 x.r.code) :: x.cs.drop 2 := rfl
theorem Last.w_r_code (x : Last) (v : Int) : upd x.cs 1 ([.i .u8 v]) = Last.cs { x with r := { x.r with code := v } } := rfl
theorem Last.r_r_data (x : Last) : x.cs[2]? = some (.s x.r.data) := rfl
theorem Last.p_r_data (x : Last) : x.cs.drop 2 = (.s x.r.data) :: x.cs.drop 3 := rfl
theorem Last.w_r_data (x : Last) (v : ByteArray) : upd x.cs 2 ([.s v]) = Last.cs { x with r := { x.r with data := v } } := rfl
def Last.ety : ETy := .agg [(0, 1, .si), (1, 2, Res.ety)]
theorem Last.eq (x y : Last) : eqV Last.ety (.agg x.cs) (.agg y.cs) = some (decide (x = y)) := by
  unfold Last.ety
  obtain ⟨a0, a1⟩ := x
  obtain ⟨b0, b1⟩ := y
  rw [eqV_agg, eqVs_step (x := .i .u32 a0) (y := .i .u32 b0) rfl rfl (eqV_i _ _ _), eqVs_step (x := .agg (Res.cs a1)) (y := .agg (Res.cs b1)) rfl rfl (Res.eq _ _), eqVs_nil]
  simp only [decide_eq_true_eq, Last.mk.injEq]
  by_cases g0 : a0 = b0 <;> by_cases g1 : a1 = b1 <;> simp [g0, g1]
theorem Last.fold (y_seq : Int) (y_rcode : Int) (y_rdata : ByteArray) : (DV.agg [.i .u32 y_seq, .i .u8 y_rcode, .s y_rdata] : DV) = .agg (Last.cs ⟨y_seq, ⟨y_rcode, y_rdata⟩⟩) := rfl
theorem Last.foldc (y_seq : Int) (y_r : Res) : (DV.agg (.i .u32 y_seq :: Res.cs y_r) : DV) = .agg (Last.cs ⟨y_seq, y_r⟩) := rfl

/-! Base -/
structure Base where
  objs : R6 Objt
  last : R3 Last
  deriving DecidableEq
def Base.cs (x : Base) : List DV := R6.cs Objt.cs x.objs ++ (R3.cs Last.cs x.last)
def Base.d (x : Base) : DV := .agg x.cs
def Base.zero : Base := ⟨⟨Objt.zero, Objt.zero, Objt.zero, Objt.zero, Objt.zero, Objt.zero⟩, ⟨Last.zero, Last.zero, Last.zero⟩⟩
instance : Inhabited Base := ⟨Base.zero⟩
def Base.ok (x : Base) : Prop := (Objt.ok x.objs.a0 ∧ Objt.ok x.objs.a1 ∧ Objt.ok x.objs.a2 ∧ Objt.ok x.objs.a3 ∧ Objt.ok x.objs.a4 ∧ Objt.ok x.objs.a5) ∧ (Last.ok x.last.a0 ∧ Last.ok x.last.a1 ∧ Last.ok x.last.a2)
theorem Base.all_cells (l : List Base) : (l.map Base.d).all (fun e => e.cells.length == 39) = true := all_cells_of _ _ _ fun _ => rfl
theorem Base.len (x : Base) : x.cs.length = 39 := rfl
theorem Base.d_eq (x : Base) : x.d = .agg x.cs := rfl
theorem Base.t_all (x : Base) : List.take 39 x.cs = x.cs := rfl
theorem Base.eta (x : Base) : (Base.mk x.objs x.last : Base) = x := rfl
theorem Base.r_all (x : Base) : subL x.cs 0 39 = x.cs := rfl
theorem Base.w_all (x y : Base) : upd x.cs 0 y.cs = y.cs := rfl
theorem Base.r_objs (x : Base) : subL x.cs 0 30 = R6.cs Objt.cs x.objs := rfl
theorem Base.w_objs (x : Base) (v : R6 Objt) : upd x.cs 0 (R6.cs Objt.cs v) = Base.cs { x with objs := v } := rfl
theorem Base.r_objs_i (x : Base) {i : Nat} (h : i < 6) : subL x.cs (i * 5) 5 = Objt.cs ((x.objs.get i)) := match i, h with | 0, _ => rfl | 1, _ => rfl | 2, _ => rfl | 3, _ => rfl | 4, _ => rfl | 5, _ => rfl | _ + 6, h => absurd h (by omega)
theorem Base.w_objs_i (x : Base) {i : Nat} (h : i < 6) (v : Objt) : upd x.cs (i * 5) (Objt.cs v) = Base.cs { x with objs := x.objs.set i v } := match i, h with | 0, _ => rfl | 1, _ => rfl | 2, _ => rfl | 3, _ => rfl | 4, _ => rfl | 5, _ => rfl | _ + 6, h => absurd h (by omega)
theorem Base.r_objs_i_there (x : Base) {i : Nat} (h : i < 6) : x.cs[i * 5]? = some (.b ((x.objs.get i).there)) := match i, h with | 0, _ => rfl | 1, _ => rfl | 2, _ => rfl | 3, _ => rfl | 4, _ => rfl | 5, _ => rfl | _ + 6, h => absurd h (by omega)
theorem Base.w_objs_i_there (x : Base) {i : Nat} (h : i < 6) (v : Bool) : upd x.cs (i * 5) ([.b v]) = Base.cs { x with objs := x.objs.set i { (x.objs.get i) with there := v } } := match i, h with | 0, _ => rfl | 1, _ => rfl | 2, _ => rfl | 3, _ => rfl | 4, _ => rfl | 5, _ => rfl | _ + 6, h => absurd h (by omega)
theorem Base.r_objs_i_data (x : Base) {i : Nat} (h : i < 6) : x.cs[i * 5 + 1]? = some (.s ((x.objs.get i).data)) := match i, h with | 0, _ => rfl | 1, _ => rfl | 2, _ => rfl | 3, _ => rfl | 4, _ => rfl | 5, _ => rfl | _ + 6, h => absurd h (by omega)
theorem Base.w_objs_i_data (x : Base) {i : Nat} (h : i < 6) (v : ByteArray) : upd x.cs (i * 5 + 1) ([.s v]) = Base.cs { x with objs := x.objs.set i { (x.objs.get i) with data := v } } := match i, h with | 0, _ => rfl | 1, _ => rfl | 2, _ => rfl | 3, _ => rfl | 4, _ => rfl | 5, _ => rfl | _ + 6, h => absurd h (by omega)
theorem Base.r_objs_i_attr (x : Base) {i : Nat} (h : i < 6) : subL x.cs (i * 5 + 2) 3 = R3.cs (fun x => [.s x]) ((x.objs.get i).attr) := match i, h with | 0, _ => rfl | 1, _ => rfl | 2, _ => rfl | 3, _ => rfl | 4, _ => rfl | 5, _ => rfl | _ + 6, h => absurd h (by omega)
theorem Base.w_objs_i_attr (x : Base) {i : Nat} (h : i < 6) (v : R3 ByteArray) : upd x.cs (i * 5 + 2) (R3.cs (fun x => [.s x]) v) = Base.cs { x with objs := x.objs.set i { (x.objs.get i) with attr := v } } := match i, h with | 0, _ => rfl | 1, _ => rfl | 2, _ => rfl | 3, _ => rfl | 4, _ => rfl | 5, _ => rfl | _ + 6, h => absurd h (by omega)
theorem Base.r_last (x : Base) : subL x.cs 30 9 = R3.cs Last.cs x.last := rfl
theorem Base.w_last (x : Base) (v : R3 Last) : upd x.cs 30 (R3.cs Last.cs v) = Base.cs { x with last := v } := rfl
theorem Base.r_last_i (x : Base) {i : Nat} (h : i < 3) : subL x.cs (30 + i * 3) 3 = Last.cs ((x.last.get i)) := match i, h with | 0, _ => rfl | 1, _ => rfl | 2, _ => rfl | _ + 3, h => absurd h (by omega)
theorem Base.w_last_i (x : Base) {i : Nat} (h : i < 3) (v : Last) : upd x.cs (30 + i * 3) (Last.cs v) = Base.cs { x with last := x.last.set i v } := match i, h with | 0, _ => rfl | 1, _ => rfl | 2, _ => rfl | _ + 3, h => absurd h (by omega)
theorem Base.r_last_i_seq (x : Base) {i : Nat} (h : i < 3) : x.cs[30 + i * 3]? = some (.i .u32 ((x.last.get i).seq)) := match i, h with | 0, _ => rfl | 1, _ => rfl | 2, _ => rfl | _ + 3, h => absurd h (by omega)
theorem Base.w_last_i_seq (x : Base) {i : Nat} (h : i < 3) (v : Int) : upd x.cs (30 + i * 3) ([.i .u32 v]) = Base.cs { x with last := x.last.set i { (x.last.get i) with seq := v } } := match i, h with | 0, _ => rfl | 1, _ => rfl | 2, _ => rfl | _ + 3, h => absurd h (by omega)
theorem Base.r_last_i_r (x : Base) {i : Nat} (h : i < 3) : subL x.cs (30 + i * 3 + 1) 2 = Res.cs ((x.last.get i).r) := match i, h with | 0, _ => rfl | 1, _ => rfl | 2, _ => rfl | _ + 3, h => absurd h (by omega)
theorem Base.w_last_i_r (x : Base) {i : Nat} (h : i < 3) (v : Res) : upd x.cs (30 + i * 3 + 1) (Res.cs v) = Base.cs { x with last := x.last.set i { (x.last.get i) with r := v } } := match i, h with | 0, _ => rfl | 1, _ => rfl | 2, _ => rfl | _ + 3, h => absurd h (by omega)
theorem Base.r_last_i_r_code (x : Base) {i : Nat} (h : i < 3) : x.cs[30 + i * 3 + 1]? = some (.i .u8 ((x.last.get i).r.code)) := match i, h with | 0, _ => rfl | 1, _ => rfl | 2, _ => rfl | _ + 3, h => absurd h (by omega)
theorem Base.w_last_i_r_code (x : Base) {i : Nat} (h : i < 3) (v : Int) : upd x.cs (30 + i * 3 + 1) ([.i .u8 v]) = Base.cs { x with last := x.last.set i { (x.last.get i) with r := { (x.last.get i).r with code := v } } } := match i, h with | 0, _ => rfl | 1, _ => rfl | 2, _ => rfl | _ + 3, h => absurd h (by omega)
theorem Base.r_last_i_r_data (x : Base) {i : Nat} (h : i < 3) : x.cs[30 + i * 3 + 2]? = some (.s ((x.last.get i).r.data)) := match i, h with | 0, _ => rfl | 1, _ => rfl | 2, _ => rfl | _ + 3, h => absurd h (by omega)
theorem Base.w_last_i_r_data (x : Base) {i : Nat} (h : i < 3) (v : ByteArray) : upd x.cs (30 + i * 3 + 2) ([.s v]) = Base.cs { x with last := x.last.set i { (x.last.get i) with r := { (x.last.get i).r with data := v } } } := match i, h with | 0, _ => rfl | 1, _ => rfl | 2, _ => rfl | _ + 3, h => absurd h (by omega)
theorem Base_objs_len (x : R6 Objt) : (R6.cs Objt.cs x).length = 30 := rfl
theorem Base_objs_i (x : R6 Objt) {i : Nat} (h : i < 6) : subL (R6.cs Objt.cs x) (i * 5) 5 = Objt.cs ((x.get i)) := match i, h with | 0, _ => rfl | 1, _ => rfl | 2, _ => rfl | 3, _ => rfl | 4, _ => rfl | 5, _ => rfl | _ + 6, h => absurd h (by omega)
def Base_objs_ety : ETy := .agg [(0, 5, Objt.ety), (5, 5, Objt.ety), (10, 5, Objt.ety), (15, 5, Objt.ety), (20, 5, Objt.ety), (25, 5, Objt.ety)]
theorem Base_objs_eq (x y : R6 Objt) : eqV Base_objs_ety (.agg (R6.cs Objt.cs x)) (.agg (R6.cs Objt.cs y)) = some (decide (x = y)) := by
  unfold Base_objs_ety
  obtain ⟨a0, a1, a2, a3, a4, a5⟩ := x
  obtain ⟨b0, b1, b2, b3, b4, b5⟩ := y
  rw [eqV_agg, eqVs_step (x := .agg (Objt.cs a0)) (y := .agg (Objt.cs b0)) rfl rfl (Objt.eq _ _), eqVs_step (x := .agg (Objt.cs a1)) (y := .agg (Objt.cs b1)) rfl rfl (Objt.eq _ _), eqVs_step (x := .agg (Objt.cs a2)) (y := .agg (Objt.cs b2)) rfl rfl (Objt.eq _ _), eqVs_step (x := .agg (Objt.cs a3)) (y := .agg (Objt.cs b3)) rfl rfl (Objt.eq _ _), eqVs_step (x := .agg (Objt.cs a4)) (y := .agg (Objt.cs b4)) rfl rfl (Objt.eq _ _), eqVs_step (x := .agg (Objt.cs a5)) (y := .agg (Objt.cs b5)) rfl rfl (Objt.eq _ _), eqVs_nil]
  simp only [decide_eq_true_eq, R6.mk.injEq]
  by_cases g0 : a0 = b0 <;> by_cases g1 : a1 = b1 <;> by_cases g2 : a2 = b2 <;> by_cases g3 : a3 = b3 <;> by_cases g4 : a4 = b4 <;> by_cases g5 : a5 = b5 <;> simp [g0, g1, g2, g3, g4, g5]
theorem Base_last_len (x : R3 Last) : (R3.cs Last.cs x).length = 9 := rfl
theorem Base_last_i (x : R3 Last) {i : Nat} (h : i < 3) : subL (R3.cs Last.cs x) (i * 3) 3 = Last.cs ((x.get i)) := match i, h with | 0, _ => rfl | 1, _ => rfl | 2, _ => rfl | _ + 3, h => absurd h (by omega)
def Base_last_ety : ETy := .agg [(0, 3, Last.ety), (3, 3, Last.ety), (6, 3, Last.ety)]
theorem Base_last_eq (x y : R3 Last) : eqV Base_last_ety (.agg (R3.cs Last.cs x)) (.agg (R3.cs Last.cs y)) = some (decide (x = y)) := by
  unfold Base_last_ety
  obtain ⟨a0, a1, a2⟩ := x
  obtain ⟨b0, b1, b2⟩ := y
  rw [eqV_agg, eqVs_step (x := .agg (Last.cs a0)) (y := .agg (Last.cs b0)) rfl rfl (Last.eq _ _), eqVs_step (x := .agg (Last.cs a1)) (y := .agg (Last.cs b1)) rfl rfl (Last.eq _ _), eqVs_step (x := .agg (Last.cs a2)) (y := .agg (Last.cs b2)) rfl rfl (Last.eq _ _), eqVs_nil]
  simp only [decide_eq_true_eq, R3.mk.injEq]
  by_cases g0 : a0 = b0 <;> by_cases g1 : a1 = b1 <;> by_cases g2 : a2 = b2 <;> simp [g0, g1, g2]
def Base.ety : ETy := .agg [(0, 30, Base_objs_ety), (30, 9, Base_last_ety)]
theorem Base.eq (x y : Base) : eqV Base.ety (.agg x.cs) (.agg y.cs) = some (decide (x = y)) := by
  unfold Base.ety
  obtain ⟨a0, a1⟩ := x
  obtain ⟨b0, b1⟩ := y
  rw [eqV_agg, eqVs_step (x := .agg (R6.cs Objt.cs a0)) (y := .agg (R6.cs Objt.cs b0)) rfl rfl (Base_objs_eq _ _), eqVs_step (x := .agg (R3.cs Last.cs a1)) (y := .agg (R3.cs Last.cs b1)) rfl rfl (Base_last_eq _ _), eqVs_nil]
  simp only [decide_eq_true_eq, Base.mk.injEq]
  by_cases g0 : a0 = b0 <;> by_cases g1 : a1 = b1 <;> simp [g0, g1]
theorem Base.foldc (y_objs : R6 Objt) (y_last : R3 Last) : (DV.agg (R6.cs Objt.cs y_objs ++ (R3.cs Last.cs y_last)) : DV) = .agg (Base.cs ⟨y_objs, y_last⟩) := rfl

/-! Entry -/
structure Entry where
  since : Int
  n : Int
  op : Opr
  deriving DecidableEq
def Entry.cs (x : Entry) : List DV := .i .u32 x.since :: .i .u32 x.n :: Opr.cs x.op
def Entry.d (x : Entry) : DV := .agg x.cs
def Entry.zero : Entry := ⟨0, 0, Opr.zero⟩
instance : Inhabited Entry := ⟨Entry.zero⟩
def Entry.ok (x : Entry) : Prop := (0 ≤ x.since ∧ x.since < 4294967296) ∧ (0 ≤ x.n ∧ x.n < 4294967296) ∧ Opr.ok x.op
theorem Entry.all_cells (l : List Entry) : (l.map Entry.d).all (fun e => e.cells.length == 8) = true := all_cells_of _ _ _ fun _ => rfl
theorem Entry.len (x : Entry) : x.cs.length = 8 := rfl
theorem Entry.d_eq (x : Entry) : x.d = .agg x.cs := rfl
theorem Entry.t_all (x : Entry) : List.take 8 x.cs = x.cs := rfl
theorem Entry.eta (x : Entry) : (Entry.mk x.since x.n x.op : Entry) = x := rfl
theorem Entry.r_all (x : Entry) : subL x.cs 0 8 = x.cs := rfl
theorem Entry.w_all (x y : Entry) : upd x.cs 0 y.cs = y.cs := rfl
theorem Entry.r_since (x : Entry) : x.cs[0]? = some (.i .u32 x.since) := rfl
theorem Entry.w_since (x : Entry) (v : Int) : upd x.cs 0 ([.i .u32 v]) = Entry.cs { x with since := v } := rfl
theorem Entry.r_n (x : Entry) : x.cs[1]? = some (.i .u32 x.n) := rfl
theorem Entry.p_n (x : Entry) : x.cs.drop 1 = (.i .u32 x.n) :: x.cs.drop 2 := rfl
theorem Entry.w_n (x : Entry) (v : Int) : upd x.cs 1 ([.i .u32 v]) = Entry.cs { x with n := v } := rfl
theorem Entry.r_op (x : Entry) : subL x.cs 2 6 = Opr.cs x.op := rfl
theorem Entry.w_op (x : Entry) (v : Opr) : upd x.cs 2 (Opr.cs v) = Entry.cs { x with op := v } := rfl
theorem Entry.r_op_client (x : Entry) : x.cs[2]? = some (.i .u8 x.op.client) := rfl
theorem Entry.p_op_client (x : Entry) : x.cs.drop 2 = (.i .u8 x.op.client) :: x.cs.drop 3 := rfl
theorem Entry.w_op_client (x : Entry) (v : Int) : upd x.cs 2 ([.i .u8 v]) = Entry.cs { x with op := { x.op with client := v } } := rfl
theorem Entry.r_op_seq (x : Entry) : x.cs[3]? = some (.i .u32 x.op.seq) := rfl
theorem Entry.p_op_seq (x : Entry) : x.cs.drop 3 = (.i .u32 x.op.seq) :: x.cs.drop 4 := rfl
theorem Entry.w_op_seq (x : Entry) (v : Int) : upd x.cs 3 ([.i .u32 v]) = Entry.cs { x with op := { x.op with seq := v } } := rfl
theorem Entry.r_op_kind (x : Entry) : x.cs[4]? = some (.i .u8 x.op.kind) := rfl
theorem Entry.p_op_kind (x : Entry) : x.cs.drop 4 = (.i .u8 x.op.kind) :: x.cs.drop 5 := rfl
theorem Entry.w_op_kind (x : Entry) (v : Int) : upd x.cs 4 ([.i .u8 v]) = Entry.cs { x with op := { x.op with kind := v } } := rfl
theorem Entry.r_op_obj (x : Entry) : x.cs[5]? = some (.i .u8 x.op.obj) := rfl
theorem Entry.p_op_obj (x : Entry) : x.cs.drop 5 = (.i .u8 x.op.obj) :: x.cs.drop 6 := rfl
theorem Entry.w_op_obj (x : Entry) (v : Int) : upd x.cs 5 ([.i .u8 v]) = Entry.cs { x with op := { x.op with obj := v } } := rfl
theorem Entry.r_op_at_ (x : Entry) : x.cs[6]? = some (.i .u8 x.op.at_) := rfl
theorem Entry.p_op_at_ (x : Entry) : x.cs.drop 6 = (.i .u8 x.op.at_) :: x.cs.drop 7 := rfl
theorem Entry.w_op_at_ (x : Entry) (v : Int) : upd x.cs 6 ([.i .u8 v]) = Entry.cs { x with op := { x.op with at_ := v } } := rfl
theorem Entry.r_op_data (x : Entry) : x.cs[7]? = some (.s x.op.data) := rfl
theorem Entry.p_op_data (x : Entry) : x.cs.drop 7 = (.s x.op.data) :: x.cs.drop 8 := rfl
theorem Entry.w_op_data (x : Entry) (v : ByteArray) : upd x.cs 7 ([.s v]) = Entry.cs { x with op := { x.op with data := v } } := rfl
def Entry.ety : ETy := .agg [(0, 1, .si), (1, 1, .si), (2, 6, Opr.ety)]
theorem Entry.eq (x y : Entry) : eqV Entry.ety (.agg x.cs) (.agg y.cs) = some (decide (x = y)) := by
  unfold Entry.ety
  obtain ⟨a0, a1, a2⟩ := x
  obtain ⟨b0, b1, b2⟩ := y
  rw [eqV_agg, eqVs_step (x := .i .u32 a0) (y := .i .u32 b0) rfl rfl (eqV_i _ _ _), eqVs_step (x := .i .u32 a1) (y := .i .u32 b1) rfl rfl (eqV_i _ _ _), eqVs_step (x := .agg (Opr.cs a2)) (y := .agg (Opr.cs b2)) rfl rfl (Opr.eq _ _), eqVs_nil]
  simp only [decide_eq_true_eq, Entry.mk.injEq]
  by_cases g0 : a0 = b0 <;> by_cases g1 : a1 = b1 <;> by_cases g2 : a2 = b2 <;> simp [g0, g1, g2]
theorem Entry.fold (y_since : Int) (y_n : Int) (y_opclient : Int) (y_opseq : Int) (y_opkind : Int) (y_opobj : Int) (y_opat_ : Int) (y_opdata : ByteArray) : (DV.agg [.i .u32 y_since, .i .u32 y_n, .i .u8 y_opclient, .i .u32 y_opseq, .i .u8 y_opkind, .i .u8 y_opobj, .i .u8 y_opat_, .s y_opdata] : DV) = .agg (Entry.cs ⟨y_since, y_n, ⟨y_opclient, y_opseq, y_opkind, y_opobj, y_opat_, y_opdata⟩⟩) := rfl
theorem Entry.foldc (y_since : Int) (y_n : Int) (y_op : Opr) : (DV.agg (.i .u32 y_since :: .i .u32 y_n :: Opr.cs y_op) : DV) = .agg (Entry.cs ⟨y_since, y_n, y_op⟩) := rfl

/-! State -/
structure State where
  started : Int
  base : Base
  tail : Entry
  log : List Entry
  deriving DecidableEq
def State.cs (x : State) : List DV := .i .u32 x.started :: Base.cs x.base ++ (Entry.cs x.tail ++ (.sl (x.log.map Entry.d) :: []))
def State.d (x : State) : DV := .agg x.cs
def State.zero : State := ⟨0, Base.zero, Entry.zero, []⟩
instance : Inhabited State := ⟨State.zero⟩
def State.ok (x : State) : Prop := (0 ≤ x.started ∧ x.started < 4294967296) ∧ Base.ok x.base ∧ Entry.ok x.tail ∧ (x.log.length ≤ maxLen ∧ ∀ y ∈ x.log, Entry.ok y)
theorem State.all_cells (l : List State) : (l.map State.d).all (fun e => e.cells.length == 49) = true := all_cells_of _ _ _ fun _ => rfl
theorem State.len (x : State) : x.cs.length = 49 := rfl
theorem State.d_eq (x : State) : x.d = .agg x.cs := rfl
theorem State.t_all (x : State) : List.take 49 x.cs = x.cs := rfl
theorem State.eta (x : State) : (State.mk x.started x.base x.tail x.log : State) = x := rfl
theorem State.r_all (x : State) : subL x.cs 0 49 = x.cs := rfl
theorem State.w_all (x y : State) : upd x.cs 0 y.cs = y.cs := rfl
theorem State.r_started (x : State) : x.cs[0]? = some (.i .u32 x.started) := rfl
theorem State.w_started (x : State) (v : Int) : upd x.cs 0 ([.i .u32 v]) = State.cs { x with started := v } := rfl
theorem State.r_base (x : State) : subL x.cs 1 39 = Base.cs x.base := rfl
theorem State.w_base (x : State) (v : Base) : upd x.cs 1 (Base.cs v) = State.cs { x with base := v } := rfl
theorem State.r_base_objs (x : State) : subL x.cs 1 30 = R6.cs Objt.cs x.base.objs := rfl
theorem State.w_base_objs (x : State) (v : R6 Objt) : upd x.cs 1 (R6.cs Objt.cs v) = State.cs { x with base := { x.base with objs := v } } := rfl
theorem State.r_base_objs_i (x : State) {i : Nat} (h : i < 6) : subL x.cs (1 + i * 5) 5 = Objt.cs ((x.base.objs.get i)) := match i, h with | 0, _ => rfl | 1, _ => rfl | 2, _ => rfl | 3, _ => rfl | 4, _ => rfl | 5, _ => rfl | _ + 6, h => absurd h (by omega)
theorem State.w_base_objs_i (x : State) {i : Nat} (h : i < 6) (v : Objt) : upd x.cs (1 + i * 5) (Objt.cs v) = State.cs { x with base := { x.base with objs := x.base.objs.set i v } } := match i, h with | 0, _ => rfl | 1, _ => rfl | 2, _ => rfl | 3, _ => rfl | 4, _ => rfl | 5, _ => rfl | _ + 6, h => absurd h (by omega)
theorem State.r_base_objs_i_there (x : State) {i : Nat} (h : i < 6) : x.cs[1 + i * 5]? = some (.b ((x.base.objs.get i).there)) := match i, h with | 0, _ => rfl | 1, _ => rfl | 2, _ => rfl | 3, _ => rfl | 4, _ => rfl | 5, _ => rfl | _ + 6, h => absurd h (by omega)
theorem State.w_base_objs_i_there (x : State) {i : Nat} (h : i < 6) (v : Bool) : upd x.cs (1 + i * 5) ([.b v]) = State.cs { x with base := { x.base with objs := x.base.objs.set i { (x.base.objs.get i) with there := v } } } := match i, h with | 0, _ => rfl | 1, _ => rfl | 2, _ => rfl | 3, _ => rfl | 4, _ => rfl | 5, _ => rfl | _ + 6, h => absurd h (by omega)
theorem State.r_base_objs_i_data (x : State) {i : Nat} (h : i < 6) : x.cs[1 + i * 5 + 1]? = some (.s ((x.base.objs.get i).data)) := match i, h with | 0, _ => rfl | 1, _ => rfl | 2, _ => rfl | 3, _ => rfl | 4, _ => rfl | 5, _ => rfl | _ + 6, h => absurd h (by omega)
theorem State.w_base_objs_i_data (x : State) {i : Nat} (h : i < 6) (v : ByteArray) : upd x.cs (1 + i * 5 + 1) ([.s v]) = State.cs { x with base := { x.base with objs := x.base.objs.set i { (x.base.objs.get i) with data := v } } } := match i, h with | 0, _ => rfl | 1, _ => rfl | 2, _ => rfl | 3, _ => rfl | 4, _ => rfl | 5, _ => rfl | _ + 6, h => absurd h (by omega)
theorem State.r_base_objs_i_attr (x : State) {i : Nat} (h : i < 6) : subL x.cs (1 + i * 5 + 2) 3 = R3.cs (fun x => [.s x]) ((x.base.objs.get i).attr) := match i, h with | 0, _ => rfl | 1, _ => rfl | 2, _ => rfl | 3, _ => rfl | 4, _ => rfl | 5, _ => rfl | _ + 6, h => absurd h (by omega)
theorem State.w_base_objs_i_attr (x : State) {i : Nat} (h : i < 6) (v : R3 ByteArray) : upd x.cs (1 + i * 5 + 2) (R3.cs (fun x => [.s x]) v) = State.cs { x with base := { x.base with objs := x.base.objs.set i { (x.base.objs.get i) with attr := v } } } := match i, h with | 0, _ => rfl | 1, _ => rfl | 2, _ => rfl | 3, _ => rfl | 4, _ => rfl | 5, _ => rfl | _ + 6, h => absurd h (by omega)
theorem State.r_base_last (x : State) : subL x.cs 31 9 = R3.cs Last.cs x.base.last := rfl
theorem State.w_base_last (x : State) (v : R3 Last) : upd x.cs 31 (R3.cs Last.cs v) = State.cs { x with base := { x.base with last := v } } := rfl
theorem State.r_base_last_i (x : State) {i : Nat} (h : i < 3) : subL x.cs (31 + i * 3) 3 = Last.cs ((x.base.last.get i)) := match i, h with | 0, _ => rfl | 1, _ => rfl | 2, _ => rfl | _ + 3, h => absurd h (by omega)
theorem State.w_base_last_i (x : State) {i : Nat} (h : i < 3) (v : Last) : upd x.cs (31 + i * 3) (Last.cs v) = State.cs { x with base := { x.base with last := x.base.last.set i v } } := match i, h with | 0, _ => rfl | 1, _ => rfl | 2, _ => rfl | _ + 3, h => absurd h (by omega)
theorem State.r_base_last_i_seq (x : State) {i : Nat} (h : i < 3) : x.cs[31 + i * 3]? = some (.i .u32 ((x.base.last.get i).seq)) := match i, h with | 0, _ => rfl | 1, _ => rfl | 2, _ => rfl | _ + 3, h => absurd h (by omega)
theorem State.w_base_last_i_seq (x : State) {i : Nat} (h : i < 3) (v : Int) : upd x.cs (31 + i * 3) ([.i .u32 v]) = State.cs { x with base := { x.base with last := x.base.last.set i { (x.base.last.get i) with seq := v } } } := match i, h with | 0, _ => rfl | 1, _ => rfl | 2, _ => rfl | _ + 3, h => absurd h (by omega)
theorem State.r_base_last_i_r (x : State) {i : Nat} (h : i < 3) : subL x.cs (31 + i * 3 + 1) 2 = Res.cs ((x.base.last.get i).r) := match i, h with | 0, _ => rfl | 1, _ => rfl | 2, _ => rfl | _ + 3, h => absurd h (by omega)
theorem State.w_base_last_i_r (x : State) {i : Nat} (h : i < 3) (v : Res) : upd x.cs (31 + i * 3 + 1) (Res.cs v) = State.cs { x with base := { x.base with last := x.base.last.set i { (x.base.last.get i) with r := v } } } := match i, h with | 0, _ => rfl | 1, _ => rfl | 2, _ => rfl | _ + 3, h => absurd h (by omega)
theorem State.r_base_last_i_r_code (x : State) {i : Nat} (h : i < 3) : x.cs[31 + i * 3 + 1]? = some (.i .u8 ((x.base.last.get i).r.code)) := match i, h with | 0, _ => rfl | 1, _ => rfl | 2, _ => rfl | _ + 3, h => absurd h (by omega)
theorem State.w_base_last_i_r_code (x : State) {i : Nat} (h : i < 3) (v : Int) : upd x.cs (31 + i * 3 + 1) ([.i .u8 v]) = State.cs { x with base := { x.base with last := x.base.last.set i { (x.base.last.get i) with r := { (x.base.last.get i).r with code := v } } } } := match i, h with | 0, _ => rfl | 1, _ => rfl | 2, _ => rfl | _ + 3, h => absurd h (by omega)
theorem State.r_base_last_i_r_data (x : State) {i : Nat} (h : i < 3) : x.cs[31 + i * 3 + 2]? = some (.s ((x.base.last.get i).r.data)) := match i, h with | 0, _ => rfl | 1, _ => rfl | 2, _ => rfl | _ + 3, h => absurd h (by omega)
theorem State.w_base_last_i_r_data (x : State) {i : Nat} (h : i < 3) (v : ByteArray) : upd x.cs (31 + i * 3 + 2) ([.s v]) = State.cs { x with base := { x.base with last := x.base.last.set i { (x.base.last.get i) with r := { (x.base.last.get i).r with data := v } } } } := match i, h with | 0, _ => rfl | 1, _ => rfl | 2, _ => rfl | _ + 3, h => absurd h (by omega)
theorem State.r_tail (x : State) : subL x.cs 40 8 = Entry.cs x.tail := rfl
theorem State.w_tail (x : State) (v : Entry) : upd x.cs 40 (Entry.cs v) = State.cs { x with tail := v } := rfl
theorem State.r_tail_since (x : State) : x.cs[40]? = some (.i .u32 x.tail.since) := rfl
theorem State.p_tail_since (x : State) : x.cs.drop 40 = (.i .u32 x.tail.since) :: x.cs.drop 41 := rfl
theorem State.w_tail_since (x : State) (v : Int) : upd x.cs 40 ([.i .u32 v]) = State.cs { x with tail := { x.tail with since := v } } := rfl
theorem State.r_tail_n (x : State) : x.cs[41]? = some (.i .u32 x.tail.n) := rfl
theorem State.p_tail_n (x : State) : x.cs.drop 41 = (.i .u32 x.tail.n) :: x.cs.drop 42 := rfl
theorem State.w_tail_n (x : State) (v : Int) : upd x.cs 41 ([.i .u32 v]) = State.cs { x with tail := { x.tail with n := v } } := rfl
theorem State.r_tail_op (x : State) : subL x.cs 42 6 = Opr.cs x.tail.op := rfl
theorem State.w_tail_op (x : State) (v : Opr) : upd x.cs 42 (Opr.cs v) = State.cs { x with tail := { x.tail with op := v } } := rfl
theorem State.r_tail_op_client (x : State) : x.cs[42]? = some (.i .u8 x.tail.op.client) := rfl
theorem State.p_tail_op_client (x : State) : x.cs.drop 42 = (.i .u8 x.tail.op.client) :: x.cs.drop 43 := rfl
theorem State.w_tail_op_client (x : State) (v : Int) : upd x.cs 42 ([.i .u8 v]) = State.cs { x with tail := { x.tail with op := { x.tail.op with client := v } } } := rfl
theorem State.r_tail_op_seq (x : State) : x.cs[43]? = some (.i .u32 x.tail.op.seq) := rfl
theorem State.p_tail_op_seq (x : State) : x.cs.drop 43 = (.i .u32 x.tail.op.seq) :: x.cs.drop 44 := rfl
theorem State.w_tail_op_seq (x : State) (v : Int) : upd x.cs 43 ([.i .u32 v]) = State.cs { x with tail := { x.tail with op := { x.tail.op with seq := v } } } := rfl
theorem State.r_tail_op_kind (x : State) : x.cs[44]? = some (.i .u8 x.tail.op.kind) := rfl
theorem State.p_tail_op_kind (x : State) : x.cs.drop 44 = (.i .u8 x.tail.op.kind) :: x.cs.drop 45 := rfl
theorem State.w_tail_op_kind (x : State) (v : Int) : upd x.cs 44 ([.i .u8 v]) = State.cs { x with tail := { x.tail with op := { x.tail.op with kind := v } } } := rfl
theorem State.r_tail_op_obj (x : State) : x.cs[45]? = some (.i .u8 x.tail.op.obj) := rfl
theorem State.p_tail_op_obj (x : State) : x.cs.drop 45 = (.i .u8 x.tail.op.obj) :: x.cs.drop 46 := rfl
theorem State.w_tail_op_obj (x : State) (v : Int) : upd x.cs 45 ([.i .u8 v]) = State.cs { x with tail := { x.tail with op := { x.tail.op with obj := v } } } := rfl
theorem State.r_tail_op_at_ (x : State) : x.cs[46]? = some (.i .u8 x.tail.op.at_) := rfl
theorem State.p_tail_op_at_ (x : State) : x.cs.drop 46 = (.i .u8 x.tail.op.at_) :: x.cs.drop 47 := rfl
theorem State.w_tail_op_at_ (x : State) (v : Int) : upd x.cs 46 ([.i .u8 v]) = State.cs { x with tail := { x.tail with op := { x.tail.op with at_ := v } } } := rfl
theorem State.r_tail_op_data (x : State) : x.cs[47]? = some (.s x.tail.op.data) := rfl
theorem State.p_tail_op_data (x : State) : x.cs.drop 47 = (.s x.tail.op.data) :: x.cs.drop 48 := rfl
theorem State.w_tail_op_data (x : State) (v : ByteArray) : upd x.cs 47 ([.s v]) = State.cs { x with tail := { x.tail with op := { x.tail.op with data := v } } } := rfl
theorem State.r_log (x : State) : x.cs[48]? = some (.sl (x.log.map Entry.d)) := rfl
theorem State.p_log (x : State) : x.cs.drop 48 = (.sl (x.log.map Entry.d)) :: x.cs.drop 49 := rfl
theorem State.w_log (x : State) (v : List Entry) : upd x.cs 48 ([.sl (v.map Entry.d)]) = State.cs { x with log := v } := rfl
def State.zeroA : List AV := [.d (.i .u32 0), .d (.b false), .d (.s ⟨#[]⟩), .d (.s ⟨#[]⟩), .d (.s ⟨#[]⟩), .d (.s ⟨#[]⟩), .d (.b false), .d (.s ⟨#[]⟩), .d (.s ⟨#[]⟩), .d (.s ⟨#[]⟩), .d (.s ⟨#[]⟩), .d (.b false), .d (.s ⟨#[]⟩), .d (.s ⟨#[]⟩), .d (.s ⟨#[]⟩), .d (.s ⟨#[]⟩), .d (.b false), .d (.s ⟨#[]⟩), .d (.s ⟨#[]⟩), .d (.s ⟨#[]⟩), .d (.s ⟨#[]⟩), .d (.b false), .d (.s ⟨#[]⟩), .d (.s ⟨#[]⟩), .d (.s ⟨#[]⟩), .d (.s ⟨#[]⟩), .d (.b false), .d (.s ⟨#[]⟩), .d (.s ⟨#[]⟩), .d (.s ⟨#[]⟩), .d (.s ⟨#[]⟩), .d (.i .u32 0), .d (.i .u8 0), .d (.s ⟨#[]⟩), .d (.i .u32 0), .d (.i .u8 0), .d (.s ⟨#[]⟩), .d (.i .u32 0), .d (.i .u8 0), .d (.s ⟨#[]⟩), .d (.i .u32 0), .d (.i .u32 0), .d (.i .u8 0), .d (.i .u32 0), .d (.i .u8 0), .d (.i .u8 0), .d (.i .u8 0), .d (.s ⟨#[]⟩), .nilS]
theorem State.zeroA_len : State.zeroA.length = 49 := rfl
theorem State.zeroA_w (x : State) : upd State.zeroA 0 (x.cs.map .d) = x.cs.map .d := rfl
theorem State.zeroA_z : upd State.zeroA 0 State.zeroA = State.zeroA := rfl
theorem State.zeroA_mk : allD State.zeroA = none := rfl
theorem State.zeroA_all : subL State.zeroA 0 49 = State.zeroA := rfl
theorem State.zeroA_toDs (H : Heap) : toDs H State.zeroA = some (State.zero.cs, H) := rfl
theorem State.zeroA_isD : State.zeroA.all isD0 = true := rfl
theorem State.zeroA_frz : frzAs State.zeroA = [] := rfl
theorem State.zeroA_lts (n : Nat) : lts n State.zeroA = true := rfl
def State.withV (x : State) (v : AV) : List AV := (x.cs.take 48).map .d ++ [v]
theorem State.withV_w (x : State) (o g z a l : Nat) : upd (x.cs.map .d) 48 [.view o g z a l] = State.withV x (.view o g z a l) := rfl
theorem State.withV_len (x : State) (v : AV) : (State.withV x v).length = 49 := rfl
theorem State.withV_mk (x : State) (o g z a l : Nat) : allD (State.withV x (.view o g z a l)) = none := rfl
theorem State.withV_w0 (x : State) (v : AV) : upd State.zeroA 0 (State.withV x v) = State.withV x v := rfl
theorem State.withV_all (x : State) (v : AV) : subL (State.withV x v) 0 49 = State.withV x v := rfl
theorem State.withV_get (x : State) (v : AV) : (State.withV x v)[48]? = some v := rfl
theorem State.withV_toDs (H : Heap) (x : State) (v : AV) : toDs H (State.withV x v) = (toD H v).map fun p => (x.cs.take 48 ++ [p.1], p.2) := toDs_snoc H _ v
theorem State.withV_lts (n : Nat) (x : State) (v : AV) : lts n (State.withV x v) = lt n v := lts_snoc n _ v
theorem State.withV_isD (x : State) (v : AV) : (State.withV x v).all isD0 = isD0 v := all_snoc _ v
theorem State.withV_fold (x : State) (l : List Entry) : (x.cs.take 48 ++ [.sl (l.map Entry.d)] : List DV) = State.cs { x with log := l } := rfl
theorem State.foldc (y_started : Int) (y_base : Base) (y_tail : Entry) (y_log : List Entry) : (DV.agg (.i .u32 y_started :: Base.cs y_base ++ (Entry.cs y_tail ++ (.sl (y_log.map Entry.d) :: []))) : DV) = .agg (State.cs ⟨y_started, y_base, y_tail, y_log⟩) := rfl

/-! Diff -/
structure Diff where
  kind : Int
  from_ : Int
  log : List Entry
  whole : State
  deriving DecidableEq
def Diff.cs (x : Diff) : List DV := .i .i64 x.kind :: .i .u32 x.from_ :: .sl (x.log.map Entry.d) :: State.cs x.whole
def Diff.d (x : Diff) : DV := .agg x.cs
def Diff.zero : Diff := ⟨0, 0, [], State.zero⟩
instance : Inhabited Diff := ⟨Diff.zero⟩
def Diff.ok (x : Diff) : Prop := (-9223372036854775808 ≤ x.kind ∧ x.kind ≤ 9223372036854775807) ∧ (0 ≤ x.from_ ∧ x.from_ < 4294967296) ∧ (x.log.length ≤ maxLen ∧ ∀ y ∈ x.log, Entry.ok y) ∧ State.ok x.whole
theorem Diff.all_cells (l : List Diff) : (l.map Diff.d).all (fun e => e.cells.length == 52) = true := all_cells_of _ _ _ fun _ => rfl
theorem Diff.len (x : Diff) : x.cs.length = 52 := rfl
theorem Diff.d_eq (x : Diff) : x.d = .agg x.cs := rfl
theorem Diff.t_all (x : Diff) : List.take 52 x.cs = x.cs := rfl
theorem Diff.eta (x : Diff) : (Diff.mk x.kind x.from_ x.log x.whole : Diff) = x := rfl
theorem Diff.r_all (x : Diff) : subL x.cs 0 52 = x.cs := rfl
theorem Diff.w_all (x y : Diff) : upd x.cs 0 y.cs = y.cs := rfl
theorem Diff.r_kind (x : Diff) : x.cs[0]? = some (.i .i64 x.kind) := rfl
theorem Diff.w_kind (x : Diff) (v : Int) : upd x.cs 0 ([.i .i64 v]) = Diff.cs { x with kind := v } := rfl
theorem Diff.r_log (x : Diff) : x.cs[2]? = some (.sl (x.log.map Entry.d)) := rfl
theorem Diff.p_log (x : Diff) : x.cs.drop 2 = (.sl (x.log.map Entry.d)) :: x.cs.drop 3 := rfl
theorem Diff.w_log (x : Diff) (v : List Entry) : upd x.cs 2 ([.sl (v.map Entry.d)]) = Diff.cs { x with log := v } := rfl
def Diff.zeroA : List AV := [.d (.i .i64 0), .d (.i .u32 0), .nilS, .d (.i .u32 0), .d (.b false), .d (.s ⟨#[]⟩), .d (.s ⟨#[]⟩), .d (.s ⟨#[]⟩), .d (.s ⟨#[]⟩), .d (.b false), .d (.s ⟨#[]⟩), .d (.s ⟨#[]⟩), .d (.s ⟨#[]⟩), .d (.s ⟨#[]⟩), .d (.b false), .d (.s ⟨#[]⟩), .d (.s ⟨#[]⟩), .d (.s ⟨#[]⟩), .d (.s ⟨#[]⟩), .d (.b false), .d (.s ⟨#[]⟩), .d (.s ⟨#[]⟩), .d (.s ⟨#[]⟩), .d (.s ⟨#[]⟩), .d (.b false), .d (.s ⟨#[]⟩), .d (.s ⟨#[]⟩), .d (.s ⟨#[]⟩), .d (.s ⟨#[]⟩), .d (.b false), .d (.s ⟨#[]⟩), .d (.s ⟨#[]⟩), .d (.s ⟨#[]⟩), .d (.s ⟨#[]⟩), .d (.i .u32 0), .d (.i .u8 0), .d (.s ⟨#[]⟩), .d (.i .u32 0), .d (.i .u8 0), .d (.s ⟨#[]⟩), .d (.i .u32 0), .d (.i .u8 0), .d (.s ⟨#[]⟩), .d (.i .u32 0), .d (.i .u32 0), .d (.i .u8 0), .d (.i .u32 0), .d (.i .u8 0), .d (.i .u8 0), .d (.i .u8 0), .d (.s ⟨#[]⟩), .nilS]
theorem Diff.zeroA_len : Diff.zeroA.length = 52 := rfl
theorem Diff.zeroA_w (x : Diff) : upd Diff.zeroA 0 (x.cs.map .d) = x.cs.map .d := rfl
theorem Diff.zeroA_z : upd Diff.zeroA 0 Diff.zeroA = Diff.zeroA := rfl
theorem Diff.zeroA_mk : allD Diff.zeroA = none := rfl
theorem Diff.zeroA_all : subL Diff.zeroA 0 52 = Diff.zeroA := rfl
theorem Diff.zeroA_toDs (H : Heap) : toDs H Diff.zeroA = some (Diff.zero.cs, H) := rfl
theorem Diff.zeroA_isD : Diff.zeroA.all isD0 = true := rfl
theorem Diff.zeroA_frz : frzAs Diff.zeroA = [] := rfl
theorem Diff.zeroA_lts (n : Nat) : lts n Diff.zeroA = true := rfl
theorem Diff.foldc (y_kind : Int) (y_from_ : Int) (y_log : List Entry) (y_whole : State) : (DV.agg (.i .i64 y_kind :: .i .u32 y_from_ :: .sl (y_log.map Entry.d) :: State.cs y_whole) : DV) = .agg (Diff.cs ⟨y_kind, y_from_, y_log, y_whole⟩) := rfl

/-! Itv -/
structure Itv where
  since : Int
  acting : List Int
  deriving DecidableEq
def Itv.cs (x : Itv) : List DV := .i .u32 x.since :: .sl (x.acting.map (fun x => .i .i64 x)) :: []
def Itv.d (x : Itv) : DV := .agg x.cs
def Itv.zero : Itv := ⟨0, []⟩
instance : Inhabited Itv := ⟨Itv.zero⟩
def Itv.ok (x : Itv) : Prop := (0 ≤ x.since ∧ x.since < 4294967296) ∧ (x.acting.length ≤ maxLen ∧ ∀ y ∈ x.acting, (-9223372036854775808 ≤ y ∧ y ≤ 9223372036854775807))
theorem Itv.all_cells (l : List Itv) : (l.map Itv.d).all (fun e => e.cells.length == 2) = true := all_cells_of _ _ _ fun _ => rfl
theorem Itv.len (x : Itv) : x.cs.length = 2 := rfl
theorem Itv.d_eq (x : Itv) : x.d = .agg x.cs := rfl
theorem Itv.t_all (x : Itv) : List.take 2 x.cs = x.cs := rfl
theorem Itv.eta (x : Itv) : (Itv.mk x.since x.acting : Itv) = x := rfl
theorem Itv.r_all (x : Itv) : subL x.cs 0 2 = x.cs := rfl
theorem Itv.w_all (x y : Itv) : upd x.cs 0 y.cs = y.cs := rfl
theorem Itv.r_since (x : Itv) : x.cs[0]? = some (.i .u32 x.since) := rfl
theorem Itv.w_since (x : Itv) (v : Int) : upd x.cs 0 ([.i .u32 v]) = Itv.cs { x with since := v } := rfl
def Itv.zeroA : List AV := [.d (.i .u32 0), .nilS]
theorem Itv.zeroA_len : Itv.zeroA.length = 2 := rfl
theorem Itv.zeroA_w (x : Itv) : upd Itv.zeroA 0 (x.cs.map .d) = x.cs.map .d := rfl
theorem Itv.zeroA_z : upd Itv.zeroA 0 Itv.zeroA = Itv.zeroA := rfl
theorem Itv.zeroA_mk : allD Itv.zeroA = none := rfl
theorem Itv.zeroA_all : subL Itv.zeroA 0 2 = Itv.zeroA := rfl
theorem Itv.zeroA_toDs (H : Heap) : toDs H Itv.zeroA = some (Itv.zero.cs, H) := rfl
theorem Itv.zeroA_isD : Itv.zeroA.all isD0 = true := rfl
theorem Itv.zeroA_frz : frzAs Itv.zeroA = [] := rfl
theorem Itv.zeroA_lts (n : Nat) : lts n Itv.zeroA = true := rfl
def Itv.withV (x : Itv) (v : AV) : List AV := (x.cs.take 1).map .d ++ [v]
theorem Itv.withV_w (x : Itv) (o g z a l : Nat) : upd (x.cs.map .d) 1 [.view o g z a l] = Itv.withV x (.view o g z a l) := rfl
theorem Itv.withV_len (x : Itv) (v : AV) : (Itv.withV x v).length = 2 := rfl
theorem Itv.withV_mk (x : Itv) (o g z a l : Nat) : allD (Itv.withV x (.view o g z a l)) = none := rfl
theorem Itv.withV_w0 (x : Itv) (v : AV) : upd Itv.zeroA 0 (Itv.withV x v) = Itv.withV x v := rfl
theorem Itv.withV_all (x : Itv) (v : AV) : subL (Itv.withV x v) 0 2 = Itv.withV x v := rfl
theorem Itv.withV_get (x : Itv) (v : AV) : (Itv.withV x v)[1]? = some v := rfl
theorem Itv.withV_toDs (H : Heap) (x : Itv) (v : AV) : toDs H (Itv.withV x v) = (toD H v).map fun p => (x.cs.take 1 ++ [p.1], p.2) := toDs_snoc H _ v
theorem Itv.withV_lts (n : Nat) (x : Itv) (v : AV) : lts n (Itv.withV x v) = lt n v := lts_snoc n _ v
theorem Itv.withV_isD (x : Itv) (v : AV) : (Itv.withV x v).all isD0 = isD0 v := all_snoc _ v
theorem Itv.withV_fold (x : Itv) (l : List Int) : (x.cs.take 1 ++ [.sl (l.map (fun x => .i .i64 x))] : List DV) = Itv.cs { x with acting := l } := rfl
theorem Itv.fold (y_since : Int) (y_acting : List Int) : (DV.agg [.i .u32 y_since, .sl (y_acting.map (fun x => .i .i64 x))] : DV) = .agg (Itv.cs ⟨y_since, y_acting⟩) := rfl

/-! Plan -/
structure Plan where
  best : Int
  blocked : Bool
  diffs : List Diff
  deriving DecidableEq
def Plan.cs (x : Plan) : List DV := .i .i64 x.best :: .b x.blocked :: .sl (x.diffs.map Diff.d) :: []
def Plan.d (x : Plan) : DV := .agg x.cs
def Plan.zero : Plan := ⟨0, false, []⟩
instance : Inhabited Plan := ⟨Plan.zero⟩
def Plan.ok (x : Plan) : Prop := (-9223372036854775808 ≤ x.best ∧ x.best ≤ 9223372036854775807) ∧ (x.diffs.length ≤ maxLen ∧ ∀ y ∈ x.diffs, Diff.ok y)
theorem Plan.all_cells (l : List Plan) : (l.map Plan.d).all (fun e => e.cells.length == 3) = true := all_cells_of _ _ _ fun _ => rfl
theorem Plan.len (x : Plan) : x.cs.length = 3 := rfl
theorem Plan.d_eq (x : Plan) : x.d = .agg x.cs := rfl
theorem Plan.t_all (x : Plan) : List.take 3 x.cs = x.cs := rfl
theorem Plan.eta (x : Plan) : (Plan.mk x.best x.blocked x.diffs : Plan) = x := rfl
theorem Plan.r_all (x : Plan) : subL x.cs 0 3 = x.cs := rfl
theorem Plan.w_all (x y : Plan) : upd x.cs 0 y.cs = y.cs := rfl
def Plan.zeroA : List AV := [.d (.i .i64 0), .d (.b false), .nilS]
theorem Plan.zeroA_len : Plan.zeroA.length = 3 := rfl
theorem Plan.zeroA_w (x : Plan) : upd Plan.zeroA 0 (x.cs.map .d) = x.cs.map .d := rfl
theorem Plan.zeroA_z : upd Plan.zeroA 0 Plan.zeroA = Plan.zeroA := rfl
theorem Plan.zeroA_mk : allD Plan.zeroA = none := rfl
theorem Plan.zeroA_all : subL Plan.zeroA 0 3 = Plan.zeroA := rfl
theorem Plan.zeroA_toDs (H : Heap) : toDs H Plan.zeroA = some (Plan.zero.cs, H) := rfl
theorem Plan.zeroA_isD : Plan.zeroA.all isD0 = true := rfl
theorem Plan.zeroA_frz : frzAs Plan.zeroA = [] := rfl
theorem Plan.zeroA_lts (n : Nat) : lts n Plan.zeroA = true := rfl
def Plan.withV (x : Plan) (v : AV) : List AV := (x.cs.take 2).map .d ++ [v]
theorem Plan.withV_w (x : Plan) (o g z a l : Nat) : upd (x.cs.map .d) 2 [.view o g z a l] = Plan.withV x (.view o g z a l) := rfl
theorem Plan.withV_len (x : Plan) (v : AV) : (Plan.withV x v).length = 3 := rfl
theorem Plan.withV_mk (x : Plan) (o g z a l : Nat) : allD (Plan.withV x (.view o g z a l)) = none := rfl
theorem Plan.withV_w0 (x : Plan) (v : AV) : upd Plan.zeroA 0 (Plan.withV x v) = Plan.withV x v := rfl
theorem Plan.withV_all (x : Plan) (v : AV) : subL (Plan.withV x v) 0 3 = Plan.withV x v := rfl
theorem Plan.withV_get (x : Plan) (v : AV) : (Plan.withV x v)[2]? = some v := rfl
theorem Plan.withV_toDs (H : Heap) (x : Plan) (v : AV) : toDs H (Plan.withV x v) = (toD H v).map fun p => (x.cs.take 2 ++ [p.1], p.2) := toDs_snoc H _ v
theorem Plan.withV_lts (n : Nat) (x : Plan) (v : AV) : lts n (Plan.withV x v) = lt n v := lts_snoc n _ v
theorem Plan.withV_isD (x : Plan) (v : AV) : (Plan.withV x v).all isD0 = isD0 v := all_snoc _ v
theorem Plan.withV_fold (x : Plan) (l : List Diff) : (x.cs.take 2 ++ [.sl (l.map Diff.d)] : List DV) = Plan.cs { x with diffs := l } := rfl
theorem Plan.fold (y_best : Int) (y_blocked : Bool) (y_diffs : List Diff) : (DV.agg [.i .i64 y_best, .b y_blocked, .sl (y_diffs.map Diff.d)] : DV) = .agg (Plan.cs ⟨y_best, y_blocked, y_diffs⟩) := rfl

/-! Ans -/
structure Ans where
  op : Opr
  r : Res
  deriving DecidableEq
def Ans.cs (x : Ans) : List DV := Opr.cs x.op ++ (Res.cs x.r)
def Ans.d (x : Ans) : DV := .agg x.cs
def Ans.zero : Ans := ⟨Opr.zero, Res.zero⟩
instance : Inhabited Ans := ⟨Ans.zero⟩
def Ans.ok (x : Ans) : Prop := Opr.ok x.op ∧ Res.ok x.r
theorem Ans.all_cells (l : List Ans) : (l.map Ans.d).all (fun e => e.cells.length == 8) = true := all_cells_of _ _ _ fun _ => rfl
theorem Ans.len (x : Ans) : x.cs.length = 8 := rfl
theorem Ans.d_eq (x : Ans) : x.d = .agg x.cs := rfl
theorem Ans.t_all (x : Ans) : List.take 8 x.cs = x.cs := rfl
theorem Ans.eta (x : Ans) : (Ans.mk x.op x.r : Ans) = x := rfl
theorem Ans.r_all (x : Ans) : subL x.cs 0 8 = x.cs := rfl
theorem Ans.w_all (x y : Ans) : upd x.cs 0 y.cs = y.cs := rfl
theorem Ans.r_op (x : Ans) : subL x.cs 0 6 = Opr.cs x.op := rfl
theorem Ans.w_op (x : Ans) (v : Opr) : upd x.cs 0 (Opr.cs v) = Ans.cs { x with op := v } := rfl
theorem Ans.r_op_client (x : Ans) : x.cs[0]? = some (.i .u8 x.op.client) := rfl
theorem Ans.w_op_client (x : Ans) (v : Int) : upd x.cs 0 ([.i .u8 v]) = Ans.cs { x with op := { x.op with client := v } } := rfl
theorem Ans.r_op_seq (x : Ans) : x.cs[1]? = some (.i .u32 x.op.seq) := rfl
theorem Ans.p_op_seq (x : Ans) : x.cs.drop 1 = (.i .u32 x.op.seq) :: x.cs.drop 2 := rfl
theorem Ans.w_op_seq (x : Ans) (v : Int) : upd x.cs 1 ([.i .u32 v]) = Ans.cs { x with op := { x.op with seq := v } } := rfl
theorem Ans.r_op_kind (x : Ans) : x.cs[2]? = some (.i .u8 x.op.kind) := rfl
theorem Ans.p_op_kind (x : Ans) : x.cs.drop 2 = (.i .u8 x.op.kind) :: x.cs.drop 3 := rfl
theorem Ans.w_op_kind (x : Ans) (v : Int) : upd x.cs 2 ([.i .u8 v]) = Ans.cs { x with op := { x.op with kind := v } } := rfl
theorem Ans.r_op_obj (x : Ans) : x.cs[3]? = some (.i .u8 x.op.obj) := rfl
theorem Ans.p_op_obj (x : Ans) : x.cs.drop 3 = (.i .u8 x.op.obj) :: x.cs.drop 4 := rfl
theorem Ans.w_op_obj (x : Ans) (v : Int) : upd x.cs 3 ([.i .u8 v]) = Ans.cs { x with op := { x.op with obj := v } } := rfl
theorem Ans.r_op_at_ (x : Ans) : x.cs[4]? = some (.i .u8 x.op.at_) := rfl
theorem Ans.p_op_at_ (x : Ans) : x.cs.drop 4 = (.i .u8 x.op.at_) :: x.cs.drop 5 := rfl
theorem Ans.w_op_at_ (x : Ans) (v : Int) : upd x.cs 4 ([.i .u8 v]) = Ans.cs { x with op := { x.op with at_ := v } } := rfl
theorem Ans.r_op_data (x : Ans) : x.cs[5]? = some (.s x.op.data) := rfl
theorem Ans.p_op_data (x : Ans) : x.cs.drop 5 = (.s x.op.data) :: x.cs.drop 6 := rfl
theorem Ans.w_op_data (x : Ans) (v : ByteArray) : upd x.cs 5 ([.s v]) = Ans.cs { x with op := { x.op with data := v } } := rfl
theorem Ans.r_r (x : Ans) : subL x.cs 6 2 = Res.cs x.r := rfl
theorem Ans.w_r (x : Ans) (v : Res) : upd x.cs 6 (Res.cs v) = Ans.cs { x with r := v } := rfl
theorem Ans.r_r_code (x : Ans) : x.cs[6]? = some (.i .u8 x.r.code) := rfl
theorem Ans.p_r_code (x : Ans) : x.cs.drop 6 = (.i .u8 x.r.code) :: x.cs.drop 7 := rfl
theorem Ans.w_r_code (x : Ans) (v : Int) : upd x.cs 6 ([.i .u8 v]) = Ans.cs { x with r := { x.r with code := v } } := rfl
theorem Ans.r_r_data (x : Ans) : x.cs[7]? = some (.s x.r.data) := rfl
theorem Ans.p_r_data (x : Ans) : x.cs.drop 7 = (.s x.r.data) :: x.cs.drop 8 := rfl
theorem Ans.w_r_data (x : Ans) (v : ByteArray) : upd x.cs 7 ([.s v]) = Ans.cs { x with r := { x.r with data := v } } := rfl
def Ans.ety : ETy := .agg [(0, 6, Opr.ety), (6, 2, Res.ety)]
theorem Ans.eq (x y : Ans) : eqV Ans.ety (.agg x.cs) (.agg y.cs) = some (decide (x = y)) := by
  unfold Ans.ety
  obtain ⟨a0, a1⟩ := x
  obtain ⟨b0, b1⟩ := y
  rw [eqV_agg, eqVs_step (x := .agg (Opr.cs a0)) (y := .agg (Opr.cs b0)) rfl rfl (Opr.eq _ _), eqVs_step (x := .agg (Res.cs a1)) (y := .agg (Res.cs b1)) rfl rfl (Res.eq _ _), eqVs_nil]
  simp only [decide_eq_true_eq, Ans.mk.injEq]
  by_cases g0 : a0 = b0 <;> by_cases g1 : a1 = b1 <;> simp [g0, g1]
theorem Ans.fold (y_opclient : Int) (y_opseq : Int) (y_opkind : Int) (y_opobj : Int) (y_opat_ : Int) (y_opdata : ByteArray) (y_rcode : Int) (y_rdata : ByteArray) : (DV.agg [.i .u8 y_opclient, .i .u32 y_opseq, .i .u8 y_opkind, .i .u8 y_opobj, .i .u8 y_opat_, .s y_opdata, .i .u8 y_rcode, .s y_rdata] : DV) = .agg (Ans.cs ⟨⟨y_opclient, y_opseq, y_opkind, y_opobj, y_opat_, y_opdata⟩, ⟨y_rcode, y_rdata⟩⟩) := rfl
theorem Ans.foldc (y_op : Opr) (y_r : Res) : (DV.agg (Opr.cs y_op ++ (Res.cs y_r)) : DV) = .agg (Ans.cs ⟨y_op, y_r⟩) := rfl

/-! HStep -/
structure HStep where
  next : Bool
  epoch : Int
  x : Inc
  deriving DecidableEq
def HStep.cs (x : HStep) : List DV := .b x.next :: .i .u32 x.epoch :: Inc.cs x.x
def HStep.d (x : HStep) : DV := .agg x.cs
def HStep.zero : HStep := ⟨false, 0, Inc.zero⟩
instance : Inhabited HStep := ⟨HStep.zero⟩
def HStep.ok (x : HStep) : Prop := (0 ≤ x.epoch ∧ x.epoch < 4294967296) ∧ Inc.ok x.x
theorem HStep.all_cells (l : List HStep) : (l.map HStep.d).all (fun e => e.cells.length == 5) = true := all_cells_of _ _ _ fun _ => rfl
theorem HStep.len (x : HStep) : x.cs.length = 5 := rfl
theorem HStep.d_eq (x : HStep) : x.d = .agg x.cs := rfl
theorem HStep.t_all (x : HStep) : List.take 5 x.cs = x.cs := rfl
theorem HStep.eta (x : HStep) : (HStep.mk x.next x.epoch x.x : HStep) = x := rfl
theorem HStep.r_all (x : HStep) : subL x.cs 0 5 = x.cs := rfl
theorem HStep.w_all (x y : HStep) : upd x.cs 0 y.cs = y.cs := rfl
def HStep.ety : ETy := .agg [(0, 1, .sb), (1, 1, .si), (2, 3, Inc.ety)]
theorem HStep.eq (x y : HStep) : eqV HStep.ety (.agg x.cs) (.agg y.cs) = some (decide (x = y)) := by
  unfold HStep.ety
  obtain ⟨a0, a1, a2⟩ := x
  obtain ⟨b0, b1, b2⟩ := y
  rw [eqV_agg, eqVs_step (x := .b a0) (y := .b b0) rfl rfl (eqV_b _ _), eqVs_step (x := .i .u32 a1) (y := .i .u32 b1) rfl rfl (eqV_i _ _ _), eqVs_step (x := .agg (Inc.cs a2)) (y := .agg (Inc.cs b2)) rfl rfl (Inc.eq _ _), eqVs_nil]
  simp only [decide_eq_true_eq, HStep.mk.injEq]
  by_cases g0 : a0 = b0 <;> by_cases g1 : a1 = b1 <;> by_cases g2 : a2 = b2 <;> simp [g0, g1, g2]
theorem HStep.fold (y_next : Bool) (y_epoch : Int) (y_xkind : Int) (y_xosd : Int) (y_xn : Int) : (DV.agg [.b y_next, .i .u32 y_epoch, .i .u8 y_xkind, .i .u8 y_xosd, .i .i64 y_xn] : DV) = .agg (HStep.cs ⟨y_next, y_epoch, ⟨y_xkind, y_xosd, y_xn⟩⟩) := rfl
theorem HStep.foldc (y_next : Bool) (y_epoch : Int) (y_x : Inc) : (DV.agg (.b y_next :: .i .u32 y_epoch :: Inc.cs y_x) : DV) = .agg (HStep.cs ⟨y_next, y_epoch, y_x⟩) := rfl

/-! WStep -/
structure WStep where
  what : Int
  group : Int
  s : State
  a : Ans
  deriving DecidableEq
def WStep.cs (x : WStep) : List DV := .i .i64 x.what :: .i .u8 x.group :: State.cs x.s ++ (Ans.cs x.a)
def WStep.d (x : WStep) : DV := .agg x.cs
def WStep.zero : WStep := ⟨0, 0, State.zero, Ans.zero⟩
instance : Inhabited WStep := ⟨WStep.zero⟩
def WStep.ok (x : WStep) : Prop := (-9223372036854775808 ≤ x.what ∧ x.what ≤ 9223372036854775807) ∧ (0 ≤ x.group ∧ x.group < 256) ∧ State.ok x.s ∧ Ans.ok x.a
theorem WStep.all_cells (l : List WStep) : (l.map WStep.d).all (fun e => e.cells.length == 59) = true := all_cells_of _ _ _ fun _ => rfl
theorem WStep.len (x : WStep) : x.cs.length = 59 := rfl
theorem WStep.d_eq (x : WStep) : x.d = .agg x.cs := rfl
theorem WStep.t_all (x : WStep) : List.take 59 x.cs = x.cs := rfl
theorem WStep.eta (x : WStep) : (WStep.mk x.what x.group x.s x.a : WStep) = x := rfl
theorem WStep.r_all (x : WStep) : subL x.cs 0 59 = x.cs := rfl
theorem WStep.w_all (x y : WStep) : upd x.cs 0 y.cs = y.cs := rfl
theorem WStep.r_what (x : WStep) : x.cs[0]? = some (.i .i64 x.what) := rfl
theorem WStep.w_what (x : WStep) (v : Int) : upd x.cs 0 ([.i .i64 v]) = WStep.cs { x with what := v } := rfl
theorem WStep.r_group (x : WStep) : x.cs[1]? = some (.i .u8 x.group) := rfl
theorem WStep.p_group (x : WStep) : x.cs.drop 1 = (.i .u8 x.group) :: x.cs.drop 2 := rfl
theorem WStep.w_group (x : WStep) (v : Int) : upd x.cs 1 ([.i .u8 v]) = WStep.cs { x with group := v } := rfl
theorem WStep.r_s (x : WStep) : subL x.cs 2 49 = State.cs x.s := rfl
theorem WStep.w_s (x : WStep) (v : State) : upd x.cs 2 (State.cs v) = WStep.cs { x with s := v } := rfl
theorem WStep.r_s_started (x : WStep) : x.cs[2]? = some (.i .u32 x.s.started) := rfl
theorem WStep.p_s_started (x : WStep) : x.cs.drop 2 = (.i .u32 x.s.started) :: x.cs.drop 3 := rfl
theorem WStep.w_s_started (x : WStep) (v : Int) : upd x.cs 2 ([.i .u32 v]) = WStep.cs { x with s := { x.s with started := v } } := rfl
theorem WStep.r_s_base (x : WStep) : subL x.cs 3 39 = Base.cs x.s.base := rfl
theorem WStep.w_s_base (x : WStep) (v : Base) : upd x.cs 3 (Base.cs v) = WStep.cs { x with s := { x.s with base := v } } := rfl
theorem WStep.r_s_base_objs (x : WStep) : subL x.cs 3 30 = R6.cs Objt.cs x.s.base.objs := rfl
theorem WStep.w_s_base_objs (x : WStep) (v : R6 Objt) : upd x.cs 3 (R6.cs Objt.cs v) = WStep.cs { x with s := { x.s with base := { x.s.base with objs := v } } } := rfl
theorem WStep.r_s_base_objs_i (x : WStep) {i : Nat} (h : i < 6) : subL x.cs (3 + i * 5) 5 = Objt.cs ((x.s.base.objs.get i)) := match i, h with | 0, _ => rfl | 1, _ => rfl | 2, _ => rfl | 3, _ => rfl | 4, _ => rfl | 5, _ => rfl | _ + 6, h => absurd h (by omega)
theorem WStep.w_s_base_objs_i (x : WStep) {i : Nat} (h : i < 6) (v : Objt) : upd x.cs (3 + i * 5) (Objt.cs v) = WStep.cs { x with s := { x.s with base := { x.s.base with objs := x.s.base.objs.set i v } } } := match i, h with | 0, _ => rfl | 1, _ => rfl | 2, _ => rfl | 3, _ => rfl | 4, _ => rfl | 5, _ => rfl | _ + 6, h => absurd h (by omega)
theorem WStep.r_s_base_objs_i_there (x : WStep) {i : Nat} (h : i < 6) : x.cs[3 + i * 5]? = some (.b ((x.s.base.objs.get i).there)) := match i, h with | 0, _ => rfl | 1, _ => rfl | 2, _ => rfl | 3, _ => rfl | 4, _ => rfl | 5, _ => rfl | _ + 6, h => absurd h (by omega)
theorem WStep.w_s_base_objs_i_there (x : WStep) {i : Nat} (h : i < 6) (v : Bool) : upd x.cs (3 + i * 5) ([.b v]) = WStep.cs { x with s := { x.s with base := { x.s.base with objs := x.s.base.objs.set i { (x.s.base.objs.get i) with there := v } } } } := match i, h with | 0, _ => rfl | 1, _ => rfl | 2, _ => rfl | 3, _ => rfl | 4, _ => rfl | 5, _ => rfl | _ + 6, h => absurd h (by omega)
theorem WStep.r_s_base_objs_i_data (x : WStep) {i : Nat} (h : i < 6) : x.cs[3 + i * 5 + 1]? = some (.s ((x.s.base.objs.get i).data)) := match i, h with | 0, _ => rfl | 1, _ => rfl | 2, _ => rfl | 3, _ => rfl | 4, _ => rfl | 5, _ => rfl | _ + 6, h => absurd h (by omega)
theorem WStep.w_s_base_objs_i_data (x : WStep) {i : Nat} (h : i < 6) (v : ByteArray) : upd x.cs (3 + i * 5 + 1) ([.s v]) = WStep.cs { x with s := { x.s with base := { x.s.base with objs := x.s.base.objs.set i { (x.s.base.objs.get i) with data := v } } } } := match i, h with | 0, _ => rfl | 1, _ => rfl | 2, _ => rfl | 3, _ => rfl | 4, _ => rfl | 5, _ => rfl | _ + 6, h => absurd h (by omega)
theorem WStep.r_s_base_objs_i_attr (x : WStep) {i : Nat} (h : i < 6) : subL x.cs (3 + i * 5 + 2) 3 = R3.cs (fun x => [.s x]) ((x.s.base.objs.get i).attr) := match i, h with | 0, _ => rfl | 1, _ => rfl | 2, _ => rfl | 3, _ => rfl | 4, _ => rfl | 5, _ => rfl | _ + 6, h => absurd h (by omega)
theorem WStep.w_s_base_objs_i_attr (x : WStep) {i : Nat} (h : i < 6) (v : R3 ByteArray) : upd x.cs (3 + i * 5 + 2) (R3.cs (fun x => [.s x]) v) = WStep.cs { x with s := { x.s with base := { x.s.base with objs := x.s.base.objs.set i { (x.s.base.objs.get i) with attr := v } } } } := match i, h with | 0, _ => rfl | 1, _ => rfl | 2, _ => rfl | 3, _ => rfl | 4, _ => rfl | 5, _ => rfl | _ + 6, h => absurd h (by omega)
theorem WStep.r_s_base_last (x : WStep) : subL x.cs 33 9 = R3.cs Last.cs x.s.base.last := rfl
theorem WStep.w_s_base_last (x : WStep) (v : R3 Last) : upd x.cs 33 (R3.cs Last.cs v) = WStep.cs { x with s := { x.s with base := { x.s.base with last := v } } } := rfl
theorem WStep.r_s_base_last_i (x : WStep) {i : Nat} (h : i < 3) : subL x.cs (33 + i * 3) 3 = Last.cs ((x.s.base.last.get i)) := match i, h with | 0, _ => rfl | 1, _ => rfl | 2, _ => rfl | _ + 3, h => absurd h (by omega)
theorem WStep.w_s_base_last_i (x : WStep) {i : Nat} (h : i < 3) (v : Last) : upd x.cs (33 + i * 3) (Last.cs v) = WStep.cs { x with s := { x.s with base := { x.s.base with last := x.s.base.last.set i v } } } := match i, h with | 0, _ => rfl | 1, _ => rfl | 2, _ => rfl | _ + 3, h => absurd h (by omega)
theorem WStep.r_s_base_last_i_seq (x : WStep) {i : Nat} (h : i < 3) : x.cs[33 + i * 3]? = some (.i .u32 ((x.s.base.last.get i).seq)) := match i, h with | 0, _ => rfl | 1, _ => rfl | 2, _ => rfl | _ + 3, h => absurd h (by omega)
theorem WStep.w_s_base_last_i_seq (x : WStep) {i : Nat} (h : i < 3) (v : Int) : upd x.cs (33 + i * 3) ([.i .u32 v]) = WStep.cs { x with s := { x.s with base := { x.s.base with last := x.s.base.last.set i { (x.s.base.last.get i) with seq := v } } } } := match i, h with | 0, _ => rfl | 1, _ => rfl | 2, _ => rfl | _ + 3, h => absurd h (by omega)
theorem WStep.r_s_base_last_i_r (x : WStep) {i : Nat} (h : i < 3) : subL x.cs (33 + i * 3 + 1) 2 = Res.cs ((x.s.base.last.get i).r) := match i, h with | 0, _ => rfl | 1, _ => rfl | 2, _ => rfl | _ + 3, h => absurd h (by omega)
theorem WStep.w_s_base_last_i_r (x : WStep) {i : Nat} (h : i < 3) (v : Res) : upd x.cs (33 + i * 3 + 1) (Res.cs v) = WStep.cs { x with s := { x.s with base := { x.s.base with last := x.s.base.last.set i { (x.s.base.last.get i) with r := v } } } } := match i, h with | 0, _ => rfl | 1, _ => rfl | 2, _ => rfl | _ + 3, h => absurd h (by omega)
theorem WStep.r_s_base_last_i_r_code (x : WStep) {i : Nat} (h : i < 3) : x.cs[33 + i * 3 + 1]? = some (.i .u8 ((x.s.base.last.get i).r.code)) := match i, h with | 0, _ => rfl | 1, _ => rfl | 2, _ => rfl | _ + 3, h => absurd h (by omega)
theorem WStep.w_s_base_last_i_r_code (x : WStep) {i : Nat} (h : i < 3) (v : Int) : upd x.cs (33 + i * 3 + 1) ([.i .u8 v]) = WStep.cs { x with s := { x.s with base := { x.s.base with last := x.s.base.last.set i { (x.s.base.last.get i) with r := { (x.s.base.last.get i).r with code := v } } } } } := match i, h with | 0, _ => rfl | 1, _ => rfl | 2, _ => rfl | _ + 3, h => absurd h (by omega)
theorem WStep.r_s_base_last_i_r_data (x : WStep) {i : Nat} (h : i < 3) : x.cs[33 + i * 3 + 2]? = some (.s ((x.s.base.last.get i).r.data)) := match i, h with | 0, _ => rfl | 1, _ => rfl | 2, _ => rfl | _ + 3, h => absurd h (by omega)
theorem WStep.w_s_base_last_i_r_data (x : WStep) {i : Nat} (h : i < 3) (v : ByteArray) : upd x.cs (33 + i * 3 + 2) ([.s v]) = WStep.cs { x with s := { x.s with base := { x.s.base with last := x.s.base.last.set i { (x.s.base.last.get i) with r := { (x.s.base.last.get i).r with data := v } } } } } := match i, h with | 0, _ => rfl | 1, _ => rfl | 2, _ => rfl | _ + 3, h => absurd h (by omega)
theorem WStep.r_s_tail (x : WStep) : subL x.cs 42 8 = Entry.cs x.s.tail := rfl
theorem WStep.w_s_tail (x : WStep) (v : Entry) : upd x.cs 42 (Entry.cs v) = WStep.cs { x with s := { x.s with tail := v } } := rfl
theorem WStep.r_s_tail_since (x : WStep) : x.cs[42]? = some (.i .u32 x.s.tail.since) := rfl
theorem WStep.p_s_tail_since (x : WStep) : x.cs.drop 42 = (.i .u32 x.s.tail.since) :: x.cs.drop 43 := rfl
theorem WStep.w_s_tail_since (x : WStep) (v : Int) : upd x.cs 42 ([.i .u32 v]) = WStep.cs { x with s := { x.s with tail := { x.s.tail with since := v } } } := rfl
theorem WStep.r_s_tail_n (x : WStep) : x.cs[43]? = some (.i .u32 x.s.tail.n) := rfl
theorem WStep.p_s_tail_n (x : WStep) : x.cs.drop 43 = (.i .u32 x.s.tail.n) :: x.cs.drop 44 := rfl
theorem WStep.w_s_tail_n (x : WStep) (v : Int) : upd x.cs 43 ([.i .u32 v]) = WStep.cs { x with s := { x.s with tail := { x.s.tail with n := v } } } := rfl
theorem WStep.r_s_tail_op (x : WStep) : subL x.cs 44 6 = Opr.cs x.s.tail.op := rfl
theorem WStep.w_s_tail_op (x : WStep) (v : Opr) : upd x.cs 44 (Opr.cs v) = WStep.cs { x with s := { x.s with tail := { x.s.tail with op := v } } } := rfl
theorem WStep.r_s_tail_op_client (x : WStep) : x.cs[44]? = some (.i .u8 x.s.tail.op.client) := rfl
theorem WStep.p_s_tail_op_client (x : WStep) : x.cs.drop 44 = (.i .u8 x.s.tail.op.client) :: x.cs.drop 45 := rfl
theorem WStep.w_s_tail_op_client (x : WStep) (v : Int) : upd x.cs 44 ([.i .u8 v]) = WStep.cs { x with s := { x.s with tail := { x.s.tail with op := { x.s.tail.op with client := v } } } } := rfl
theorem WStep.r_s_tail_op_seq (x : WStep) : x.cs[45]? = some (.i .u32 x.s.tail.op.seq) := rfl
theorem WStep.p_s_tail_op_seq (x : WStep) : x.cs.drop 45 = (.i .u32 x.s.tail.op.seq) :: x.cs.drop 46 := rfl
theorem WStep.w_s_tail_op_seq (x : WStep) (v : Int) : upd x.cs 45 ([.i .u32 v]) = WStep.cs { x with s := { x.s with tail := { x.s.tail with op := { x.s.tail.op with seq := v } } } } := rfl
theorem WStep.r_s_tail_op_kind (x : WStep) : x.cs[46]? = some (.i .u8 x.s.tail.op.kind) := rfl
theorem WStep.p_s_tail_op_kind (x : WStep) : x.cs.drop 46 = (.i .u8 x.s.tail.op.kind) :: x.cs.drop 47 := rfl
theorem WStep.w_s_tail_op_kind (x : WStep) (v : Int) : upd x.cs 46 ([.i .u8 v]) = WStep.cs { x with s := { x.s with tail := { x.s.tail with op := { x.s.tail.op with kind := v } } } } := rfl
theorem WStep.r_s_tail_op_obj (x : WStep) : x.cs[47]? = some (.i .u8 x.s.tail.op.obj) := rfl
theorem WStep.p_s_tail_op_obj (x : WStep) : x.cs.drop 47 = (.i .u8 x.s.tail.op.obj) :: x.cs.drop 48 := rfl
theorem WStep.w_s_tail_op_obj (x : WStep) (v : Int) : upd x.cs 47 ([.i .u8 v]) = WStep.cs { x with s := { x.s with tail := { x.s.tail with op := { x.s.tail.op with obj := v } } } } := rfl
theorem WStep.r_s_tail_op_at_ (x : WStep) : x.cs[48]? = some (.i .u8 x.s.tail.op.at_) := rfl
theorem WStep.p_s_tail_op_at_ (x : WStep) : x.cs.drop 48 = (.i .u8 x.s.tail.op.at_) :: x.cs.drop 49 := rfl
theorem WStep.w_s_tail_op_at_ (x : WStep) (v : Int) : upd x.cs 48 ([.i .u8 v]) = WStep.cs { x with s := { x.s with tail := { x.s.tail with op := { x.s.tail.op with at_ := v } } } } := rfl
theorem WStep.r_s_tail_op_data (x : WStep) : x.cs[49]? = some (.s x.s.tail.op.data) := rfl
theorem WStep.p_s_tail_op_data (x : WStep) : x.cs.drop 49 = (.s x.s.tail.op.data) :: x.cs.drop 50 := rfl
theorem WStep.w_s_tail_op_data (x : WStep) (v : ByteArray) : upd x.cs 49 ([.s v]) = WStep.cs { x with s := { x.s with tail := { x.s.tail with op := { x.s.tail.op with data := v } } } } := rfl
theorem WStep.r_s_log (x : WStep) : x.cs[50]? = some (.sl (x.s.log.map Entry.d)) := rfl
theorem WStep.p_s_log (x : WStep) : x.cs.drop 50 = (.sl (x.s.log.map Entry.d)) :: x.cs.drop 51 := rfl
theorem WStep.w_s_log (x : WStep) (v : List Entry) : upd x.cs 50 ([.sl (v.map Entry.d)]) = WStep.cs { x with s := { x.s with log := v } } := rfl
theorem WStep.r_a (x : WStep) : subL x.cs 51 8 = Ans.cs x.a := rfl
theorem WStep.w_a (x : WStep) (v : Ans) : upd x.cs 51 (Ans.cs v) = WStep.cs { x with a := v } := rfl
theorem WStep.r_a_op (x : WStep) : subL x.cs 51 6 = Opr.cs x.a.op := rfl
theorem WStep.w_a_op (x : WStep) (v : Opr) : upd x.cs 51 (Opr.cs v) = WStep.cs { x with a := { x.a with op := v } } := rfl
theorem WStep.r_a_op_client (x : WStep) : x.cs[51]? = some (.i .u8 x.a.op.client) := rfl
theorem WStep.p_a_op_client (x : WStep) : x.cs.drop 51 = (.i .u8 x.a.op.client) :: x.cs.drop 52 := rfl
theorem WStep.w_a_op_client (x : WStep) (v : Int) : upd x.cs 51 ([.i .u8 v]) = WStep.cs { x with a := { x.a with op := { x.a.op with client := v } } } := rfl
theorem WStep.r_a_op_seq (x : WStep) : x.cs[52]? = some (.i .u32 x.a.op.seq) := rfl
theorem WStep.p_a_op_seq (x : WStep) : x.cs.drop 52 = (.i .u32 x.a.op.seq) :: x.cs.drop 53 := rfl
theorem WStep.w_a_op_seq (x : WStep) (v : Int) : upd x.cs 52 ([.i .u32 v]) = WStep.cs { x with a := { x.a with op := { x.a.op with seq := v } } } := rfl
theorem WStep.r_a_op_kind (x : WStep) : x.cs[53]? = some (.i .u8 x.a.op.kind) := rfl
theorem WStep.p_a_op_kind (x : WStep) : x.cs.drop 53 = (.i .u8 x.a.op.kind) :: x.cs.drop 54 := rfl
theorem WStep.w_a_op_kind (x : WStep) (v : Int) : upd x.cs 53 ([.i .u8 v]) = WStep.cs { x with a := { x.a with op := { x.a.op with kind := v } } } := rfl
theorem WStep.r_a_op_obj (x : WStep) : x.cs[54]? = some (.i .u8 x.a.op.obj) := rfl
theorem WStep.p_a_op_obj (x : WStep) : x.cs.drop 54 = (.i .u8 x.a.op.obj) :: x.cs.drop 55 := rfl
theorem WStep.w_a_op_obj (x : WStep) (v : Int) : upd x.cs 54 ([.i .u8 v]) = WStep.cs { x with a := { x.a with op := { x.a.op with obj := v } } } := rfl
theorem WStep.r_a_op_at_ (x : WStep) : x.cs[55]? = some (.i .u8 x.a.op.at_) := rfl
theorem WStep.p_a_op_at_ (x : WStep) : x.cs.drop 55 = (.i .u8 x.a.op.at_) :: x.cs.drop 56 := rfl
theorem WStep.w_a_op_at_ (x : WStep) (v : Int) : upd x.cs 55 ([.i .u8 v]) = WStep.cs { x with a := { x.a with op := { x.a.op with at_ := v } } } := rfl
theorem WStep.r_a_op_data (x : WStep) : x.cs[56]? = some (.s x.a.op.data) := rfl
theorem WStep.p_a_op_data (x : WStep) : x.cs.drop 56 = (.s x.a.op.data) :: x.cs.drop 57 := rfl
theorem WStep.w_a_op_data (x : WStep) (v : ByteArray) : upd x.cs 56 ([.s v]) = WStep.cs { x with a := { x.a with op := { x.a.op with data := v } } } := rfl
theorem WStep.r_a_r (x : WStep) : subL x.cs 57 2 = Res.cs x.a.r := rfl
theorem WStep.w_a_r (x : WStep) (v : Res) : upd x.cs 57 (Res.cs v) = WStep.cs { x with a := { x.a with r := v } } := rfl
theorem WStep.r_a_r_code (x : WStep) : x.cs[57]? = some (.i .u8 x.a.r.code) := rfl
theorem WStep.p_a_r_code (x : WStep) : x.cs.drop 57 = (.i .u8 x.a.r.code) :: x.cs.drop 58 := rfl
theorem WStep.w_a_r_code (x : WStep) (v : Int) : upd x.cs 57 ([.i .u8 v]) = WStep.cs { x with a := { x.a with r := { x.a.r with code := v } } } := rfl
theorem WStep.r_a_r_data (x : WStep) : x.cs[58]? = some (.s x.a.r.data) := rfl
theorem WStep.p_a_r_data (x : WStep) : x.cs.drop 58 = (.s x.a.r.data) :: x.cs.drop 59 := rfl
theorem WStep.w_a_r_data (x : WStep) (v : ByteArray) : upd x.cs 58 ([.s v]) = WStep.cs { x with a := { x.a with r := { x.a.r with data := v } } } := rfl
def WStep.zeroA : List AV := [.d (.i .i64 0), .d (.i .u8 0), .d (.i .u32 0), .d (.b false), .d (.s ⟨#[]⟩), .d (.s ⟨#[]⟩), .d (.s ⟨#[]⟩), .d (.s ⟨#[]⟩), .d (.b false), .d (.s ⟨#[]⟩), .d (.s ⟨#[]⟩), .d (.s ⟨#[]⟩), .d (.s ⟨#[]⟩), .d (.b false), .d (.s ⟨#[]⟩), .d (.s ⟨#[]⟩), .d (.s ⟨#[]⟩), .d (.s ⟨#[]⟩), .d (.b false), .d (.s ⟨#[]⟩), .d (.s ⟨#[]⟩), .d (.s ⟨#[]⟩), .d (.s ⟨#[]⟩), .d (.b false), .d (.s ⟨#[]⟩), .d (.s ⟨#[]⟩), .d (.s ⟨#[]⟩), .d (.s ⟨#[]⟩), .d (.b false), .d (.s ⟨#[]⟩), .d (.s ⟨#[]⟩), .d (.s ⟨#[]⟩), .d (.s ⟨#[]⟩), .d (.i .u32 0), .d (.i .u8 0), .d (.s ⟨#[]⟩), .d (.i .u32 0), .d (.i .u8 0), .d (.s ⟨#[]⟩), .d (.i .u32 0), .d (.i .u8 0), .d (.s ⟨#[]⟩), .d (.i .u32 0), .d (.i .u32 0), .d (.i .u8 0), .d (.i .u32 0), .d (.i .u8 0), .d (.i .u8 0), .d (.i .u8 0), .d (.s ⟨#[]⟩), .nilS, .d (.i .u8 0), .d (.i .u32 0), .d (.i .u8 0), .d (.i .u8 0), .d (.i .u8 0), .d (.s ⟨#[]⟩), .d (.i .u8 0), .d (.s ⟨#[]⟩)]
theorem WStep.zeroA_len : WStep.zeroA.length = 59 := rfl
theorem WStep.zeroA_w (x : WStep) : upd WStep.zeroA 0 (x.cs.map .d) = x.cs.map .d := rfl
theorem WStep.zeroA_z : upd WStep.zeroA 0 WStep.zeroA = WStep.zeroA := rfl
theorem WStep.zeroA_mk : allD WStep.zeroA = none := rfl
theorem WStep.zeroA_all : subL WStep.zeroA 0 59 = WStep.zeroA := rfl
theorem WStep.zeroA_toDs (H : Heap) : toDs H WStep.zeroA = some (WStep.zero.cs, H) := rfl
theorem WStep.zeroA_isD : WStep.zeroA.all isD0 = true := rfl
theorem WStep.zeroA_frz : frzAs WStep.zeroA = [] := rfl
theorem WStep.zeroA_lts (n : Nat) : lts n WStep.zeroA = true := rfl
theorem WStep.foldc (y_what : Int) (y_group : Int) (y_s : State) (y_a : Ans) : (DV.agg (.i .i64 y_what :: .i .u8 y_group :: State.cs y_s ++ (Ans.cs y_a)) : DV) = .agg (WStep.cs ⟨y_what, y_group, y_s, y_a⟩) := rfl
end Pk
