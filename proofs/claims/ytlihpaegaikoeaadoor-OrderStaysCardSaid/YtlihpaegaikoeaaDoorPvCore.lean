/- A pure evaluator for Go code: what the abstract values, the abstract code, and its evaluation are. No program in sight; nothing is proved here. -/
import Derived.Orders
import Derived.Below
set_option linter.all false
namespace Pv
open Go

/-- Data: what a value is, memory forgotten: a slice is the list of its elements; a struct or an array the list of its cells. -/
inductive DV where
  | b (x : Bool)
  | i (k : IntKind) (n : Int)
  | s (x : ByteArray)
  | agg (cs : List DV)
  | sl (es : List DV)
  deriving Inhabited

def DV.cells : DV → List DV
  | .agg cs => cs
  | x => [x]

/-- Values while a function runs. 'nilS': the nil slice; 'e0': an empty slice, nil or surely not; 'z0': one without capacity; 'one': some value of one cell; 'view o g z off len': the slice [off, off + len) of the array object o, told when o had g elements of z cells. -/
inductive AV where
  | d (x : DV)
  | nilS
  | e0 (isnil : Bool)
  | z0
  | view (o g z off len : Nat)
  | ptr (o off : Nat)
  | mp (o : Nat)
  | eptr (cs : List DV)
  | vptr (o g z idx off : Nat)
  | fn (f : FuncId) (first cap : List AV)
  | agg (cs : List AV)
  | tup (vs : List AV)
  | one
  | und
  | junk
  deriving Inhabited

inductive Ob where
  | box (x : AV)
  | arr (es : List DV) (wr : Bool)
  | map (k : IntKind) (kvs : List (Int × DV))
  | hole
  deriving Inhabited

abbrev Heap := List Ob
abbrev Tm := List (Nat × AV)

def lk : Tm → Nat → AV
  | [], _ => .junk
  | (j, v) :: r, i => if i = j then v else lk r i

def allD : List AV → Option (List DV)
  | [] => some []
  | .d x :: r => match allD r with
    | some l => some (x :: l)
    | none => none
  | _ :: _ => none

def mkAgg (l : List AV) : AV := match allD l with
  | some ds => .d (.agg ds)
  | none => .agg l

def AV.cells : AV → List AV
  | .d (.agg cs) => cs.map .d
  | .agg cs => cs
  | x => [x]

/-- May it be stored? -/
def stb : AV → Bool
  | .tup _ => false
  | .junk => false
  | .und => false
  | _ => true

inductive Opn where
  | t (n : Nat)
  | c (x : AV)
  | f (g : FuncId)
  deriving Inhabited

def ev (T : Tm) : Opn → AV
  | .t n => lk T n
  | .c x => x
  | .f g => .fn g [] []

/-- How two values are compared: one cell; or parts, each at its place. -/
inductive ETy where
  | sb
  | si
  | ss
  | agg (ps : List (Nat × Nat × ETy))
  deriving Inhabited

inductive AOp where
  | mv (x : Opn)
  | pick (c a b : Opn)
  | bin (op : BinOp) (x y : Opn)
  | eq (ne : Bool) (t : ETy) (x y : Opn)
  | un (op : UnOp) (x : Opn)
  | conv (k : IntKind) (x : Opn)
  | convs (x : Opn)
  | box (x : Opn)
  | build (zero : List AV) (parts : List (Nat × Nat × Opn))
  | bsl (z : Nat) (parts : List Opn)
  | load (comp : Bool) (n : Nat) (a : Opn)
  | store (n : Nat) (a x : Opn)
  | nilck (x : Opn)
  | slice (z : Nat) (x : Opn) (lo hi mx : Option Opn)
  | faddr (off : Nat) (x : Opn)
  | field (comp : Bool) (off n : Nat) (x : Opn)
  | iaddrA (len z : Nat) (x i : Opn)
  | iaddrS (z : Nat) (x i : Opn)
  | idxA (comp : Bool) (len z : Nat) (x i : Opn)
  | idxS (x i : Opn)
  | mkfn (f : FuncId) (first cap : List Opn)
  | ext (x : Opn) (i : Nat)
  | call (g : Opn) (args : List Opn)
  | len (str : Bool) (x : Opn)
  | app (z : Nat) (x y : Opn)
  | mm (mx : Bool) (args : List Opn)
  | mksl (z : Nat) (zero : DV) (len cap : Opn)
  | cpy (z : Nat) (x y : Opn)
  | clr (zero : DV) (x : Opn)
  | b2s (x : Opn)
  | isnil (ne : Bool) (x : Opn)
  | pnil (ne : Bool) (x : Opn)
  | mkmap (k : IntKind)
  | mget (k : IntKind) (zero : DV) (ok : Bool) (x i : Opn)
  | mset (k : IntKind) (x i v : Opn)
  | bad
  deriving Inhabited

structure AOper where
  dst : Option Nat
  op : AOp
  guard : Option (Nat × Bool) := none
  deriving Inhabited

inductive ACode where
  | skip
  | region (keep : Option (List Nat)) (ops : List AOper) (pairs : List (Nat × Nat))
  | seq (a b : ACode)
  | cond (c : Opn) (a b : ACode)
  | block (id : Nat) (a : ACode)
  | loop (keep : Option (List Nat)) (th : List Nat) (a : ACode)
  | exit (id : Nat)
  | scope (a : ACode)
  | ret
  deriving Inhabited

inductive ARes where
  | tmp (t : Nat)
  | cell (comp : Bool) (n : Nat) (t : Nat)
  | dat (r : ARes)
  deriving Inhabited

inductive AFn where
  | code (np : Nat) (body : ACode) (res : List ARes)
  | codef (fz : List Bool) (np : Nat) (body : ACode) (res : List ARes)
  | ext (g : List AV → Option (AV × Heap))
  | exth (g : List AV → Heap → Option (AV × Heap))

inductive AExit where
  | nrm | ret | exit (id : Nat)
  deriving DecidableEq, Inhabited

def subL {α : Type} (cs : List α) (off n : Nat) : List α := (cs.drop off).take n
def upd {α : Type} (cs : List α) (off : Nat) (ys : List α) : List α := cs.take off ++ (ys ++ cs.drop (off + ys.length))

/-- A part of a value: 'comp': a struct or an array of n cells; else one cell. -/
def subD (x : DV) (comp : Bool) (off n : Nat) : Option DV := match comp with
  | true => match x with
    | .agg cs => if off + n ≤ cs.length then some (.agg (subL cs off n)) else none
    | _ => none
  | false => match x with
    | .agg cs => cs[off]?
    | x => if off = 0 then some x else none

def subA (x : AV) (comp : Bool) (off n : Nat) : Option AV := match x with
  | .d x => match subD x comp off n with
    | some y => some (.d y)
    | none => none
  | .agg cs => match comp with
    | true => if off + n ≤ cs.length then some (mkAgg (subL cs off n)) else none
    | false => cs[off]?
  | x => match comp with
    | true => none
    | false => if off = 0 then some x else none

def updA (x : AV) (off : Nat) (v : AV) : Option AV := match x with
  | .d (.agg cs) => match v with
    | .d y => if off + y.cells.length ≤ cs.length then some (.d (.agg (upd cs off y.cells))) else none
    | v => if off + v.cells.length ≤ cs.length then some (mkAgg (upd (cs.map .d) off v.cells)) else none
  | .agg cs => if off + v.cells.length ≤ cs.length then some (mkAgg (upd cs off v.cells)) else none
  | _ => if off = 0 ∧ v.cells.length = 1 then some v else none

inductive Eff where
  | none
  | set (o : Nat) (c : Ob)
  | push (c : Ob)
  | rep (H : List Ob)
  deriving Inhabited

def Eff.on : Eff → Heap → Heap
  | .none, H => H
  | .set o c, H => H.set o c
  | .push c, H => H ++ [c]
  | .rep H, _ => H

/-- What of the objects an operation touches. -/
inductive Tch where
  | none | rd (o : Nat) | wr (o : Nat) | new (k : Nat) | glob | frz (os : List Nat) | loc (m : Nat) (s : Bool) | grow | wrs (o : Nat) (os : List Nat) | keep (n : Nat) (s : Bool)
  deriving DecidableEq, Inhabited

def indep (n : Nat) : Tch → Tch → Bool
  | .none, _ => true
  | _, .none => true
  | .rd _, .rd _ => true
  | .rd o, .wr o' => o != o'
  | .wr o, .rd o' => o != o'
  | .wr o, .wr o' => o != o'
  | .new k, .rd o => k != o
  | .rd o, .new k => k != o
  | .new k, .wr o => k != o
  | .wr o, .new k => k != o
  | .new k, .new k' => k != k'
  | .rd o, .frz os => !os.contains o
  | .frz os, .rd o => !os.contains o
  | .frz os, .new k => !os.contains k
  | .loc m _, .new k => decide (m ≤ k)
  | .loc _ s, .rd _ => s
  | .rd _, .loc _ s => s
  | .rd _, .grow => true
  | .wr _, .grow => true
  | .grow, .rd o => decide (o < n)
  | .grow, .wr o => decide (o < n)
  | .wrs o os, .new k => o != k && !os.contains k
  | .keep n s, .rd o => s && decide (o < n)
  | .rd o, .keep n s => s && decide (o < n)
  | _, _ => false

def LIM : Nat := 4294967296

def bits (k : IntKind) (f : BitVec k.bits → BitVec k.bits → BitVec k.bits) (a b : Int) : Int :=
  k.wrap (f (BitVec.ofInt k.bits a) (BitVec.ofInt k.bits b)).toNat

def binI (op : BinOp) (k : IntKind) (a b : Int) : Option DV := match op with
  | .add => some (.i k (k.wrap (a + b)))
  | .sub => some (.i k (k.wrap (a - b)))
  | .mul => some (.i k (k.wrap (a * b)))
  | .quo => if b = 0 then none else some (.i k (k.wrap (a.tdiv b)))
  | .rem => if b = 0 then none else some (.i k (a.tmod b))
  | .and => some (.i k (bits k (· &&& ·) a b))
  | .or => some (.i k (bits k (· ||| ·) a b))
  | .xor => some (.i k (bits k (· ^^^ ·) a b))
  | .andNot => some (.i k (bits k (fun x y => x &&& ~~~y) a b))
  | .eql => some (.b (a == b))
  | .neq => some (.b (a != b))
  | .lss => some (.b (decide (a < b)))
  | .leq => some (.b (decide (a ≤ b)))
  | .gtr => some (.b (decide (a > b)))
  | .geq => some (.b (decide (a ≥ b)))
  | _ => none

def binS (op : BinOp) (x y : ByteArray) : Option DV := match op with
  | .add => if x.size + y.size ≤ LIM then some (.s (x ++ y)) else none
  | .eql => some (.b (decide (x = y)))
  | .neq => some (.b (!decide (x = y)))
  | _ => none

def binD (op : BinOp) (x y : DV) : Option DV := match x, y with
  | .i k a, .i k' b => match op with
    | .shl => if b < 0 then none else some (.i k (k.wrap (a * 2 ^ (min b.toNat k.bits))))
    | .shr => if b < 0 then none else some (.i k (a.fdiv (2 ^ (min b.toNat k.bits))))
    | op => if k = k' then binI op k a b else none
  | .s x, .s y => binS op x y
  | _, _ => none

mutual
def eqV : ETy → DV → DV → Option Bool
  | .sb, x, y => match x, y with
    | .b x, .b y => some (x == y)
    | _, _ => none
  | .si, x, y => match x, y with
    | .i k x, .i k' y => if k = k' then some (x == y) else none
    | _, _ => none
  | .ss, x, y => match x, y with
    | .s x, .s y => some (decide (x = y))
    | _, _ => none
  | .agg ps, x, y => match x, y with
    | .agg xs, .agg ys => eqVs ps xs ys
    | _, _ => none
def eqVs : List (Nat × Nat × ETy) → List DV → List DV → Option Bool
  | [], _, _ => some true
  | (off, n, t) :: ps, xs, ys =>
    match subD (.agg xs) (match t with | .agg _ => true | _ => false) off n, subD (.agg ys) (match t with | .agg _ => true | _ => false) off n with
    | some x, some y => match eqV t x y with
      | some true => eqVs ps xs ys
      | some false => some false
      | none => none
    | _, _ => none
end

def unD (op : UnOp) (x : DV) : Option DV := match op, x with
  | .neg, .i k n => some (.i k (k.wrap (0 - n)))
  | .not, .b x => some (.b (!x))
  | _, _ => none

def intOfA : AV → Option Int
  | .d (.i _ n) => some n
  | _ => none

/-- A bound of a slice expression: a number from 0 to m. -/
def bnd (T : Tm) (x : Option Opn) (m dflt : Nat) : Option Nat := match x with
  | none => some dflt
  | some x => match intOfA (ev T x) with
    | some n => if 0 ≤ n ∧ n ≤ (m : Int) then some n.toNat else none
    | none => none

def sliceA (T : Tm) (x : AV) (lo hi mx : Option Opn) : Option AV := match mx with
  | some m => match intOfA (ev T m), lo, hi with
    | some 0, none, some h => match intOfA (ev T h), x with
      | some 0, .d (.sl _) => some .z0
      | some 0, .nilS => some .nilS
      | some 0, .z0 => some .z0
      | some 0, .view _ _ _ _ _ => some .z0
      | _, _ => none
    | _, _, _ => none
  | none => match x with
    | .d (.s s) => match bnd T hi s.size s.size with
      | some h => match bnd T lo h 0 with
        | some l => some (.d (.s (s.extract l h)))
        | none => none
      | none => none
    | .d (.sl es) => match bnd T hi es.length es.length with
      | some h => match bnd T lo h 0 with
        | some l => some (.d (.sl ((es.take h).drop l)))
        | none => none
      | none => none
    | .view o g z off len => match bnd T hi len len with
      | some h => match bnd T lo h 0 with
        | some l => some (.view o g z (off + l) (h - l))
        | none => none
      | none => none
    | .nilS => match bnd T hi 0 0 with
      | some h => match bnd T lo h 0 with
        | some _ => some .nilS
        | none => none
      | none => none
    | _ => none

/-- The elements' size is the type's. -/
def zOk (z : Nat) : AV → Bool
  | .d (.s _) => z == 0
  | .d (.sl es) => z != 0 && es.all (fun e => e.cells.length == z)
  | .view _ _ y _ _ => z != 0 && y == z
  | .nilS => z != 0
  | .z0 => z != 0
  | _ => false

def buildA : List AV → List (Nat × Nat × AV) → Option (List AV)
  | cs, [] => some cs
  | cs, (off, n, v) :: r => if stb v = true ∧ v.cells.length = n ∧ off + n ≤ cs.length then buildA (upd cs off v.cells) r else none

/-- The elements that a slice's value (or a string's) stands for. -/
def elems (H : Heap) : AV → Option (List DV)
  | .d (.sl es) => some es
  | .d (.s x) => some (x.data.toList.map fun c => .i .u8 (c.toNat : Int))
  | .nilS => some []
  | .e0 _ => some []
  | .z0 => some []
  | .view o g _ off len => match H[o]? with
    | some (.arr es _) => if es.length = g then some (subL es off len) else none
    | _ => none
  | _ => none

/-- Bytes as a string. -/
def bytesOf : List DV → Option (List UInt8)
  | [] => some []
  | .i .u8 n :: r => match bytesOf r with
    | some l => some (UInt8.ofNat n.toNat :: l)
    | none => none
  | _ :: _ => none

def mmI (mx : Bool) (a b : Int) : Int := if mx then (if b > a then b else a) else (if b < a then b else a)

def mmL (mx : Bool) : IntKind → Int → List AV → Option Int
  | _, a, [] => some a
  | k, a, .d (.i k' b) :: r => if k = k' then mmL mx k (mmI mx a b) r else none
  | _, _, _ :: _ => none

def loadA (H : Heap) (a : AV) (comp : Bool) (n : Nat) : Option (AV × Tch) := match a with
  | .ptr o off => match H[o]? with
    | some (.box x) => match subA x comp off n with
      | some y => some (y, .rd o)
      | none => none
    | _ => none
  | .eptr cs => match comp with
    | true => if n ≤ cs.length then some (.d (.agg (cs.take n)), .none) else none
    | false => match cs with
      | c :: _ => some (.d c, .none)
      | [] => none
  | .vptr o g z idx off => match H[o]? with
    | some (.arr es _) => if es.length = g then (match es[idx]? with
      | some e => if e.cells.length = z then (match subD (.agg e.cells) comp off n with
        | some y => some (.d y, .rd o)
        | none => none) else none
      | none => none) else none
    | _ => none
  | _ => none

def storeA (H : Heap) (a : AV) (v : AV) : Option (Nat × Ob) := match a with
  | .ptr o off => match H[o]? with
    | some (.box x) => match updA x off v with
      | some y => some (o, .box y)
      | none => none
    | _ => none
  | .vptr o g z idx off => match H[o]? with
    | some (.arr es true) => if es.length = g then (match es[idx]?, v with
      | some e, .d y => if e.cells.length = z ∧ off + y.cells.length ≤ z then
          (match e with
           | .agg cs => some (o, .arr (es.set idx (.agg (upd cs off y.cells))) true)
           | _ => match y with
             | .agg _ => none
             | y => some (o, .arr (es.set idx y) true))
          else none
      | _, _ => none) else none
    | _ => none
  | _ => none

/-- A map's entries, in the order in which their keys came. -/
def getM : List (Int × DV) → Int → Option DV
  | [], _ => none
  | (j, v) :: r, n => if n = j then some v else getM r n
def setM : List (Int × DV) → Int → DV → List (Int × DV)
  | [], n, v => [(n, v)]
  | (j, u) :: r, n, v => if n = j then (n, v) :: r else (j, u) :: setM r n v

mutual
/-- A value as data: what is in array objects is read, and these are not written any more. -/
def toD (H : Heap) : AV → Option (DV × Heap)
  | .d x => some (x, H)
  | .nilS => some (.sl [], H)
  | .e0 _ => some (.sl [], H)
  | .z0 => some (.sl [], H)
  | .view o g _ off len => match H[o]? with
    | some (.arr es _) => if es.length = g then some (.sl (subL es off len), H.set o (.arr es false)) else none
    | _ => none
  | .agg cs => match toDs H cs with
    | some (ds, H) => some (.agg ds, H)
    | none => none
  | _ => none
def toDs (H : Heap) : List AV → Option (List DV × Heap)
  | [] => some ([], H)
  | x :: r => match toD H x with
    | some (y, H) => match toDs H r with
      | some (ys, H) => some (y :: ys, H)
      | none => none
    | none => none
end

def isD0 : AV → Bool
  | .d _ => true
  | .nilS => true
  | .e0 _ => true
  | .z0 => true
  | _ => false

def isD : AV → Bool
  | .agg cs => cs.all isD0
  | x => isD0 x

/-- Elements of a slice that is written out: data, or what is data but for slices that are nil. -/
def bslD (l : List AV) : Option (List DV) := match allD l with
  | some es => some es
  | none => if l.all isD then (match toDs [] l with
    | some (es, _) => some es
    | none => none) else none

/-- The array that a row of values is read from. -/
def appW : AV → List Nat
  | .view o _ _ _ _ => [o]
  | _ => []

/-- What appending to nil touches. -/
def appT (k : Nat) : AV → Tch
  | .d (.sl _) => .new k
  | _ => .glob

/-- What reading a row touches. -/
def rdT : AV → Tch
  | .view o _ _ _ _ => .rd o
  | _ => .none

/-- What an operation that is no call tells: the value, what becomes of the objects, what it touches. -/
def act (op : AOp) (T : Tm) (H : Heap) : Option (AV × Eff × Tch) := match op with
  | .mv x => some (ev T x, .none, .none)
  | .pick c a b => match ev T c with
    | .d (.b x) => some (if x then ev T a else ev T b, .none, .none)
    | _ => none
  | .bin op x y => match ev T x, ev T y with
    | .d a, .d b => match binD op a b with
      | some r => some (.d r, .none, .none)
      | none => none
    | _, _ => none
  | .eq ne t x y => match ev T x, ev T y with
    | .d a, .d b => match eqV t a b with
      | some r => some (.d (.b (if ne then !r else r)), .none, .none)
      | none => none
    | _, _ => none
  | .un op x => match ev T x with
    | .d a => match unD op a with
      | some r => some (.d r, .none, .none)
      | none => none
    | _ => none
  | .conv k x => match ev T x with
    | .d (.i _ n) => some (.d (.i k (k.wrap n)), .none, .none)
    | _ => none
  | .convs x => match ev T x with
    | .d (.s n) => some (.d (.s n), .none, .none)
    | _ => none
  | .box x => if stb (ev T x) = true then some (.ptr H.length 0, .push (.box (ev T x)), .new H.length) else none
  | .build zero parts => match buildA zero (parts.map fun p => (p.1, p.2.1, ev T p.2.2)) with
    | some cs => some (mkAgg cs, .none, .none)
    | none => none
  | .bsl z parts => match bslD (parts.map (ev T)) with
    | some es => if es.all (fun e => e.cells.length == z) then some (.view H.length es.length z 0 es.length, .push (.arr es true), .new H.length) else none
    | none => match toDs H (parts.map (ev T)) with
      | some (es, H1) => if es.all (fun e => e.cells.length == z) then some (.view H1.length es.length z 0 es.length, .rep (H1 ++ [.arr es true]), .glob) else none
      | none => none
  | .load comp n a => match loadA H (ev T a) comp n with
    | some (v, t) => some (v, .none, t)
    | none => none
  | .store n a x => if stb (ev T x) = true ∧ (ev T x).cells.length = n then (match storeA H (ev T a) (ev T x) with
    | some (o, c) => some (.junk, .set o c, .wr o)
    | none => none) else none
  | .nilck x => match ev T x with
    | .ptr o off => some (.ptr o off, .none, .none)
    | .eptr cs => some (.eptr cs, .none, .none)
    | .vptr o g z idx off => some (.vptr o g z idx off, .none, .none)
    | .fn f a b => some (.fn f a b, .none, .none)
    | _ => none
  | .slice z x lo hi mx => match sliceA T (ev T x) lo hi mx with
    | some v => if zOk z (ev T x) then some (v, .none, .none) else none
    | none => none
  | .faddr off x => match ev T x with
    | .ptr o p => some (.ptr o (p + off), .none, .none)
    | .eptr cs => some (.eptr (cs.drop off), .none, .none)
    | .vptr o g z idx p => some (.vptr o g z idx (p + off), .none, .none)
    | _ => none
  | .field comp off n x => match ev T x with
    | .d (.agg cs) => match subD (.agg cs) comp off n with
      | some v => some (.d v, .none, .none)
      | none => none
    | .agg cs => match subA (.agg cs) comp off n with
      | some v => some (v, .none, .none)
      | none => none
    | _ => none
  | .iaddrA len z x i => match intOfA (ev T i) with
    | some n => if 0 ≤ n ∧ n < (len : Int) then (match ev T x with
      | .ptr o p => some (.ptr o (p + n.toNat * z), .none, .none)
      | .eptr cs => some (.eptr (cs.drop (n.toNat * z)), .none, .none)
      | .vptr o g y idx p => some (.vptr o g y idx (p + n.toNat * z), .none, .none)
      | _ => none) else none
    | none => none
  | .iaddrS z x i => match intOfA (ev T i) with
    | some n => match ev T x with
      | .d (.sl es) => if 0 ≤ n then (match es[n.toNat]? with
        | some e => if e.cells.length = z then some (.eptr e.cells, .none, .none) else none
        | none => none) else none
      | .view o g y off len => if y = z ∧ 0 ≤ n ∧ n < (len : Int) then some (.vptr o g y (off + n.toNat) 0, .none, .none) else none
      | _ => none
    | none => none
  | .idxA comp len z x i => match intOfA (ev T i) with
    | some n => if 0 ≤ n ∧ n < (len : Int) then (match ev T x with
      | .d (.agg cs) => match subD (.agg cs) comp (n.toNat * z) z with
        | some v => some (.d v, .none, .none)
        | none => none
      | .agg cs => match subA (.agg cs) comp (n.toNat * z) z with
        | some v => some (v, .none, .none)
        | none => none
      | _ => none) else none
    | none => none
  | .idxS x i => match ev T x, intOfA (ev T i) with
    | .d (.s s), some n => match (if 0 ≤ n then s[n.toNat]? else none) with
      | some c => some (.d (.i .u8 (c.toNat : Int)), .none, .none)
      | none => none
    | _, _ => none
  | .mkfn f first cap => some (.fn f (first.map (ev T)) (cap.map (ev T)), .none, .none)
  | .ext x i => match ev T x with
    | .tup vs => match vs[i]? with
      | some v => some (v, .none, .none)
      | none => none
    | _ => none
  | .len true x => match ev T x with
    | .d (.s s) => some (.d (.i .i64 (s.size : Int)), .none, .none)
    | _ => none
  | .len false x => match ev T x with
    | .d (.sl es) => some (.d (.i .i64 (es.length : Int)), .none, .none)
    | .nilS => some (.d (.i .i64 0), .none, .none)
    | .e0 _ => some (.d (.i .i64 0), .none, .none)
    | .z0 => some (.d (.i .i64 0), .none, .none)
    | .view _ _ _ _ len => some (.d (.i .i64 (len : Int)), .none, .none)
    | _ => none
  | .app z x y => match elems H (ev T y) with
    | some ys => if ys.all (fun e => e.cells.length == z) then
        (match ev T x with
         | .nilS => if ys.length ≤ LIM then some (.view H.length ys.length z 0 ys.length, .push (.arr ys true), appT H.length (ev T y)) else none
         | .z0 => match ys with
           | [] => some (.z0, .none, .glob)
           | _ :: _ => if ys.length ≤ LIM then some (.view H.length ys.length z 0 ys.length, .push (.arr ys true), .glob) else none
         | .view o g z' off len => match H[o]? with
           | some (.arr es wr) => if es.length = g ∧ z' = z ∧ off = 0 ∧ len = g ∧ es.length + ys.length ≤ LIM then
               some (.view o (es.length + ys.length) z 0 (es.length + ys.length), .set o (.arr (es ++ ys) wr), .wrs o (appW (ev T y))) else none
           | _ => none
         | _ => none) else none
    | none => none
  | .mm mx args => match args.map (ev T) with
    | .d (.i k a) :: r => match mmL mx k a r with
      | some n => some (.d (.i k n), .none, .none)
      | none => none
    | _ => none
  | .call _ _ => none
  | .mksl z zero n c => match ev T n, ev T c with
    | .d (.i .i64 n), .d (.i .i64 c) => if n = c ∧ 0 ≤ n ∧ n ≤ (LIM : Int) ∧ zero.cells.length = z then
        some (.view H.length n.toNat z 0 n.toNat, .push (.arr (List.replicate n.toNat zero) true), .new H.length) else none
    | _, _ => none
  | .cpy z x y => match elems H (ev T y), ev T x with
    | some ys, .view o g z' off len => match H[o]? with
      | some (.arr es true) => if es.length = g ∧ z' = z ∧ off + len ≤ g ∧ ys.all (fun e => e.cells.length == z) then
          some (.d (.i .i64 ((min ys.length len : Nat) : Int)), .set o (.arr (upd es off (ys.take (min ys.length len))) true), .glob) else none
      | _ => none
    | _, _ => none
  | .clr zero x => match ev T x with
    | .view o g z off len => match H[o]? with
      | some (.arr es true) => if es.length = g ∧ off + len ≤ g ∧ zero.cells.length = z then
          some (.junk, .set o (.arr (upd es off (List.replicate len zero)) true), .glob) else none
      | _ => none
    | _ => none
  | .b2s x => match ev T x with
    | .d (.s _) => none
    | y => match elems H y with
      | some ys => match bytesOf ys with
        | some l => some (.d (.s ⟨l.toArray⟩), .none, rdT y)
        | none => none
      | none => none
  | .isnil ne x => match ev T x with
    | .e0 b => some (.d (.b (if ne then !b else b)), .none, .none)
    | .nilS => some (.d (.b (!ne)), .none, .none)
    | .d (.sl (_ :: _)) => some (.d (.b ne), .none, .none)
    | .view _ _ _ _ (_ + 1) => some (.d (.b ne), .none, .none)
    | _ => none
  | .pnil ne x => match ev T x with
    | .ptr _ _ => some (.d (.b ne), .none, .none)
    | _ => none
  | .mkmap k => some (.mp H.length, .push (.map k []), .new H.length)
  | .mget k zero ok x i => match ev T x, ev T i with
    | .mp o, .d (.i k' n) => match H[o]? with
      | some (.map k'' kvs) => if k' = k ∧ k'' = k then
          some (if ok then .tup [.d ((getM kvs n).getD zero), .d (.b (getM kvs n).isSome)] else .d ((getM kvs n).getD zero), .none, .rd o) else none
      | _ => none
    | _, _ => none
  | .mset k x i v => match ev T x, ev T i, ev T v with
    | .mp o, .d (.i k' n), .d y => match H[o]? with
      | some (.map k'' kvs) => if k' = k ∧ k'' = k then some (.junk, .set o (.map k (setM kvs n y)), .wr o) else none
      | _ => none
    | _, _, _ => none
  | .bad => none

/-- An object laid at a place that is free. -/
def putAt (H : Heap) (k : Nat) (c : Ob) : Heap := if k < H.length then H.set k c else H ++ (List.replicate (k - H.length) .hole ++ [c])
def freeAt (H : Heap) (k : Nat) : Prop := H.length ≤ k ∨ H[k]? = some .hole

/-- An operation that lays a new object, at place k: its value, the object. -/
def newAt (op : AOp) (T : Tm) (k : Nat) : Option (AV × Ob) := match op with
  | .box x => if stb (ev T x) = true then some (.ptr k 0, .box (ev T x)) else none
  | .bsl z parts => match bslD (parts.map (ev T)) with
    | some es => if es.all (fun e => e.cells.length == z) then some (.view k es.length z 0 es.length, .arr es true) else none
    | none => none
  | .mksl z zero n c => match ev T n, ev T c with
    | .d (.i .i64 n), .d (.i .i64 c) => if n = c ∧ 0 ≤ n ∧ n ≤ (LIM : Int) ∧ zero.cells.length = z then
        some (.view k n.toNat z 0 n.toNat, .arr (List.replicate n.toNat zero) true) else none
    | _, _ => none
  | .app z x y => match ev T x, ev T y with
    | .nilS, .d (.sl ys) => if ys.all (fun e => e.cells.length == z) = true ∧ ys.length ≤ LIM then some (.view k ys.length z 0 ys.length, .arr ys true) else none
    | _, _ => none
  | .mkmap kd => some (.mp k, .map kd [])
  | _ => none

mutual
/-- The arrays that become data. -/
def frzA : AV → List Nat
  | .view o _ _ _ _ => [o]
  | .agg cs => frzAs cs
  | _ => []
def frzAs : List AV → List Nat
  | [] => []
  | x :: r => frzA x ++ frzAs r
end

mutual
/-- No reference to an object from n on. -/
def lt (n : Nat) : AV → Bool
  | .d _ => true
  | .nilS => true
  | .e0 _ => true
  | .z0 => true
  | .junk => true
  | .und => true
  | .one => true
  | .eptr _ => true
  | .view o _ _ _ _ => decide (o < n)
  | .ptr o _ => decide (o < n)
  | .mp o => decide (o < n)
  | .vptr o _ _ _ _ => decide (o < n)
  | .fn _ a b => lts n a && lts n b
  | .agg cs => lts n cs
  | .tup cs => lts n cs
def lts (n : Nat) : List AV → Bool
  | [] => true
  | x :: r => lt n x && lts n r
end

def ltO (n : Nat) : Ob → Bool
  | .box x => lt n x
  | .arr _ _ => true
  | .map _ _ => true
  | .hole => true

def trim (n : Nat) (vs : List AV) (H : Heap) : Heap :=
  if lts n vs && (H.take n).all (ltO n) then H.take n else H

/-- A result as the caller may have it: structs as data, where they can be. -/
def fzn (H : Heap) : AV → AV × Heap
  | .agg cs => match toDs H cs with
    | some (ds, H) => (.d (.agg ds), H)
    | none => (.agg cs, H)
  | x => (x, H)

def fzns (H : Heap) : List AV → List AV × Heap
  | [] => ([], H)
  | x :: r => let p := fzn H x; let q := fzns p.2 r; (p.1 :: q.1, q.2)

def fznR (H : Heap) : AV → AV × Heap
  | .tup vs => let p := fzns H vs; (.tup p.1, p.2)
  | x => fzn H x

def finish (n : Nat) (r : AV) (H : Heap) : AV × Heap :=
  let p := fznR H r
  (p.1, trim n [p.1] p.2)

/-- A result of a call whose objects were its own (H2), taken into the caller's (H). -/
def adopt (H H2 : Heap) : AV → Option (AV × Heap)
  | .d x => some (.d x, H)
  | .nilS => some (.nilS, H)
  | .z0 => some (.z0, H)
  | .fn f [] [] => some (.fn f [] [], H)
  | .view o g z off len => match H2[o]? with
    | some (.arr es wr) => if es.length = g ∧ off = 0 ∧ len ≤ g ∧ (len = g ∨ wr = true) then some (.view H.length len z 0 len, H ++ [.arr (es.take len) wr]) else none
    | _ => none
  | _ => none

def adopts (H H2 : Heap) : List AV → Option (List AV × Heap)
  | [] => some ([], H)
  | x :: r => match adopt H H2 x with
    | some (y, H) => match adopts H H2 r with
      | some (ys, H) => some (y :: ys, H)
      | none => none
    | none => none

def refsV : AV → List Nat
  | .view o _ _ _ _ => [o]
  | _ => []

def nodup : List Nat → Bool
  | [] => true
  | x :: r => !r.contains x && nodup r

def adoptR (H H2 : Heap) : AV → Option (AV × Heap)
  | .tup vs => if nodup (vs.flatMap refsV) then (match adopts H H2 vs with
    | some (ys, H) => some (.tup ys, H)
    | none => none) else none
  | x => adopt H H2 x

def resV (T : Tm) (H : Heap) : ARes → Option AV
  | .tmp t => some (lk T t)
  | .cell comp n t => match loadA H (lk T t) comp n with
    | some (v, _) => some v
    | none => none
  | .dat r => resV T H r

def resVs (T : Tm) (H : Heap) : List ARes → Option (List AV)
  | [] => some []
  | r :: rs => match resV T H r with
    | some v => match resVs T H rs with
      | some vs => some (v :: vs)
      | none => none
    | none => none

def resA (T : Tm) (H : Heap) (rs : List ARes) : Option AV := match resVs T H rs with
  | some [v] => some v
  | some vs => some (.tup vs)
  | none => none

/-- A result as data, where it can be. -/
def frzV (H : Heap) (x : AV) : AV × Heap := match toD H x with
  | some (d, H) => (.d d, H)
  | none => (x, H)

def frzVs (H : Heap) : List AV → List AV × Heap
  | [] => ([], H)
  | x :: r => let p := frzV H x; let q := frzVs p.2 r; (p.1 :: q.1, q.2)

def frzR (H : Heap) : AV → AV × Heap
  | .tup vs => let p := frzVs H vs; (.tup p.1, p.2)
  | x => frzV H x

/-- The marked ones of a function's arguments as data, where they can be. -/
def frzL : List Bool → Heap → List AV → List AV × Heap
  | b :: bs, H, x :: r => let p := if b = true then frzV H x else (x, H); let q := frzL bs p.2 r; (p.1 :: q.1, q.2)
  | [], H, l => (l, H)
  | _ :: _, H, [] => ([], H)

/-- A function whose marked arguments become data. -/
def AFn.frz (fz : List Bool) : AFn → AFn
  | .code np body res => .codef fz np body res
  | x => x

/-- What a function's results are made of: if so marked, data. -/
def preF (res : List ARes) (v : AV) (H : Heap) : AV × Heap := match res with
  | .dat _ :: _ => frzR H v
  | _ => (v, H)

def finishR (res : List ARes) (n : Nat) (r : AV) (H : Heap) : AV × Heap := finish n (preF res r H).1 (preF res r H).2

def enum : Nat → List AV → Tm
  | _, [] => []
  | n, x :: r => (n, x) :: enum (n + 1) r

def keepT (k : Option (List Nat)) (T : Tm) : Tm := match k with
  | none => T
  | some ks => ks.map fun i => (i, lk T i)

def setT (T : Tm) (dst : Option Nat) (v : AV) : Tm := match dst with
  | some d => (d, v) :: T
  | none => T

def guardOk (T : Tm) : Option (Nat × Bool) → Option Bool
  | none => some true
  | some (t, want) => match lk T t with
    | .d (.b x) => some (x == want)
    | .und => some false
    | _ => none

def callee (T : Tm) (g : Opn) (args : List Opn) : Option (FuncId × List AV) := match ev T g with
  | .fn f first cap => some (f, first ++ (args.map (ev T) ++ cap))
  | _ => none

/-- What stands behind a call whose arguments are data. -/
def behind0 (fs : List Nat) (pure : Bool) (H H2 : Heap) (r : AV) : Option (AV × Heap × Tch) := match adoptR H H2 r with
  | some (v, H3) => some (v, H3, if H3.length == H.length then (if pure then .none else .frz fs) else (if pure then .grow else .glob))
  | none => none

/-- An array that a call of data alone answers, laid at place k. -/
def takeAt (k : Nat) (H2 : Heap) : AV → Option (AV × Ob)
  | .view o g z off len => match H2[o]? with
    | some (.arr es wr) => if es.length = g ∧ off = 0 ∧ len ≤ g ∧ (len = g ∨ wr = true) then some (.view k len z 0 len, .arr (es.take len) wr) else none
    | _ => none
  | _ => none

def behind (fs : List Nat) (pure : Bool) (H H2 : Heap) (r : AV) : Option (AV × Heap × Tch) := match pure, r with
  | true, .view o g z off len => match takeAt H.length H2 (.view o g z off len) with
    | some (v, c) => some (v, H ++ [c], .new H.length)
    | none => none
  | pure, r => behind0 fs pure H H2 r

/-- A call made among the walk's objects: what it touches. -/
noncomputable def sameH (A B : Heap) : Bool := @decide (A = B) (Classical.propDecidable _)
theorem sameH_self (A : Heap) : sameH A A = true := @decide_eq_true _ (Classical.propDecidable _) rfl
theorem sameH_eq {A B : Heap} (h : sameH A B = true) : A = B := @of_decide_eq_true _ (Classical.propDecidable _) h
noncomputable def inpl (H : Heap) (as : List AV) (H2 : Heap) : Tch := if (H2.length == H.length && (lts H.length as && H.all (ltO H.length))) = true then .loc H.length (sameH H2 H) else .keep H.length (sameH (H2.take H.length) H)

def pairsOk (n : Nat) (tl : List Tch) : List (Nat × Nat) → Bool
  | [] => true
  | (i, j) :: r => indep n (tl.getD i .glob) (tl.getD j .glob) && pairsOk n tl r

def thaw (z : Nat) (T : Tm) (H : Heap) (t : Nat) : Tm × Heap := match lk T t with
  | .nilS => if z = 0 then (T, H) else ((t, .view H.length 0 z 0 0) :: T, H ++ [.arr [] true])
  | _ => (T, H)

/-- Slots with their elements' sizes, two numbers each. -/
def thaws : List Nat → Tm → Heap → Tm × Heap
  | t :: z :: r, T, H => let p := thaw z T H t; thaws r p.1 p.2
  | _, T, H => (T, H)

/-- A call whose first argument is written out as nil is made in place. -/
def nilA : List Opn → Bool
  | .c .nilS :: _ => true
  | _ => false
def argD (args : List Opn) (H : Heap) (as : List AV) : Option (List DV × Heap) := if nilA args = true then none else toDs H as
theorem argD_toDs {args : List Opn} {H : Heap} {as : List AV} {r : List DV × Heap} (h : argD args H as = some r) : toDs H as = some r := by
  unfold argD at h
  split at h
  · simp at h
  · exact h

mutual
noncomputable def evF (C : FuncId → Option AFn) (f : FuncId) (args : List AV) (H : Heap) : Option (AV × Heap) :=
  match C f with
  | none => none
  | some (.ext g) => match H with
    | [] => g args
    | _ :: _ => none
  | some (.exth g) => g args H
  | some (.code np body res) => if args.length = np then
      (evC C body (enum 0 args) H) >>= fun r => match r.1 with
        | .exit _ => none
        | _ => match resA r.2.1 r.2.2 res with
          | some v => some (finishR res H.length v r.2.2)
          | none => none
    else none
  | some (.codef fz np body res) => if (frzL fz H args).1.length = np then
      (evC C body (enum 0 (frzL fz H args).1) (frzL fz H args).2) >>= fun r => match r.1 with
        | .exit _ => none
        | _ => match resA r.2.1 r.2.2 res with
          | some v => some (finishR res (frzL fz H args).2.length v r.2.2)
          | none => none
    else none
  partial_fixpoint
noncomputable def evR (C : FuncId → Option AFn) (ops : List AOper) (T : Tm) (H : Heap) (tl : List Tch) : Option (Tm × Heap × List Tch) :=
  match ops with
  | [] => some (T, H, tl)
  | o :: r => match guardOk T o.guard with
    | none => none
    | some false => evR C r (setT T o.dst .und) H (tl ++ [.none])
    | some true => match o.op with
      | .call g args => match callee T g args with
        | none => none
        | some (f, as) => match argD args H as with
          | some (ds, H1) => (evF C f (ds.map .d) []) >>= fun p => match behind (frzAs as) (as.all isD) H1 p.2 p.1 with
            | some (v, H3, t) => evR C r (setT T o.dst v) H3 (tl ++ [t])
            | none => (evF C f as H) >>= fun p => if H.length ≤ p.2.length then evR C r (setT T o.dst p.1) p.2 (tl ++ [inpl H as p.2]) else none
          | none => (evF C f as H) >>= fun p => if H.length ≤ p.2.length then evR C r (setT T o.dst p.1) p.2 (tl ++ [inpl H as p.2]) else none
      | op => match act op T H with
        | some (v, e, t) => evR C r (setT T o.dst v) (e.on H) (tl ++ [t])
        | none => none
  partial_fixpoint
noncomputable def evC (C : FuncId → Option AFn) (c : ACode) (T : Tm) (H : Heap) : Option (AExit × Tm × Heap) :=
  match c with
  | .skip => some (.nrm, T, H)
  | .region keep ops pairs => (evR C ops (keepT keep T) H []) >>= fun r => if pairsOk H.length r.2.2 pairs then some (.nrm, r.1, r.2.1) else none
  | .seq a b => (evC C a T H) >>= fun r => match r.1 with
    | .nrm => evC C b r.2.1 r.2.2
    | e => some (e, r.2.1, r.2.2)
  | .cond c a b => match ev T c with
    | .d (.b x) => if x = true then evC C a T H else evC C b T H
    | _ => none
  | .block id a => (evC C a T H) >>= fun r => match r.1 with
    | .exit i => if i = id then some (.nrm, r.2.1, r.2.2) else some (.exit i, r.2.1, r.2.2)
    | e => some (e, r.2.1, r.2.2)
  | .loop keep th a => evL C keep a (thaws th T H).2.length (thaws th T H).1 (thaws th T H).2
  | .exit id => some (.exit id, T, H)
  | .scope a => evC C a T H
  | .ret => some (.ret, T, H)
  partial_fixpoint
noncomputable def evL (C : FuncId → Option AFn) (keep : Option (List Nat)) (a : ACode) (n : Nat) (T : Tm) (H : Heap) : Option (AExit × Tm × Heap) :=
  (evC C a (keepT keep T) (trim n ((keepT keep T).map (·.2)) H)) >>= fun r => match r.1 with
    | .nrm => evL C keep a n r.2.1 r.2.2
    | e => some (e, r.2.1, r.2.2)
  partial_fixpoint
end

end Pv
