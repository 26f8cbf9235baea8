/- The pure evaluator: Go's code, as the program holds it, turned into the abstract code. No program in sight; nothing is proved here. -/
import Derived.Test.YtlihpaegaikoeaaDoorPvCore
set_option linter.all false
namespace Pv
open Go

/-- A constant's cell. -/
def cvC : Value → Option AV
  | .bool x => some (.d (.b x))
  | .int k n => some (.d (.i k n))
  | .string x => some (.d (.s x))
  | .slice none 0 0 => some .nilS
  | .nilFunc => some .one
  | .pointer none => some .one
  | .map none => some .one
  | _ => none

def cvL : List Value → Option (List AV)
  | [] => some []
  | v :: r => match cvC v with
    | some x => match cvL r with
      | some l => some (x :: l)
      | none => none
    | none => none

def cvA : Value → Option AV
  | .agg cs => match cvL cs.toList with
    | some l => some (mkAgg l)
    | none => none
  | .tuple _ => none
  | v => cvC v

def opn : Operand → Option Opn
  | .tmp t => some (.t t)
  | .const v => match cvA v with
    | some x => some (.c x)
    | none => none
  | .func f => some (.f f)
  | .global _ => none

def opns : List Operand → Option (List Opn)
  | [] => some []
  | x :: r => match opn x with
    | some y => match opns r with
      | some l => some (y :: l)
      | none => none
    | none => none

def opnO : Option Operand → Option (Option Opn)
  | none => some none
  | some x => match opn x with
    | some y => some (some y)
    | none => none

/-- A type's cells, and whether it is a struct or an array. -/
def tyS (P : Program) (t : TypeId) : Option (Nat × Bool) := match P.info? t, P.underlying t with
  | some i, some (.struct _) => some (i.size, true)
  | some i, some (.array _ _) => some (i.size, true)
  | some i, some _ => some (i.size, false)
  | _, _ => none

/-- As tyS, for one-celled types that are no structs: exactly one cell. -/
def tyL (P : Program) (t : TypeId) : Option (Nat × Bool) := match tyS P t with
  | some (n, true) => some (n, true)
  | some (1, false) => some (1, false)
  | _ => none

def zeroOf (P : Program) (t : TypeId) : Option AV := match P.info? t with
  | some i => match i.zero with
    | some v => cvA v
    | none => none
  | none => none

/-- A type's zero as data. -/
def zeroD (P : Program) (t : TypeId) : Option DV := match zeroOf P t with
  | some z => match toD [] z with
    | some (x, _) => some x
    | none => none
  | none => none

def isNilC : Operand → Bool
  | .const (.slice none _ _) => true
  | _ => false

def isNilP : Operand → Bool
  | .const (.pointer none) => true
  | _ => false

def etyL (f : TypeId → Option ETy) (P : Program) (z : Nat) (e : TypeId) : Nat → Nat → Option (List (Nat × Nat × ETy))
  | 0, _ => some []
  | n + 1, i => match f e, etyL f P z e n (i + 1) with
    | some t, some r => some ((i * z, z, t) :: r)
    | _, _ => none

def etyF (f : TypeId → Option ETy) (P : Program) : List Field → Option (List (Nat × Nat × ETy))
  | [] => some []
  | fd :: r => if fd.name == "_" then none else match P.info? fd.type, f fd.type, etyF f P r with
    | some i, some t, some l => some ((fd.offset, i.size, t) :: l)
    | _, _, _ => none

def ety (P : Program) : Nat → TypeId → Option ETy
  | 0, _ => none
  | d + 1, t => match P.underlying t with
    | some .bool => some .sb
    | some (.int _) => some .si
    | some .string => some .ss
    | some (.struct fs) => if P.stoodInHeld t then none else match etyF (ety P d) P fs.toList with
      | some l => some (.agg l)
      | none => none
    | some (.array n e) => match P.info? e with
      | some i => match etyL (ety P d) P i.size e n 0 with
        | some l => some (.agg l)
        | none => none
      | none => none
    | _ => none

def bldF (P : Program) (place : Nat → Option (Nat × Nat)) : List (Nat × Operand) → Option (List (Nat × Nat × Opn))
  | [] => some []
  | (i, x) :: r => match place i, opn x, bldF P place r with
    | some (off, n), some y, some l => some ((off, n, y) :: l)
    | _, _, _ => none

/-- Where field i of a struct lies. -/
def fplace (P : Program) (fs : Array Field) (i : Nat) : Option (Nat × Nat) := match fs[i]? with
  | some fd => match P.info? fd.type with
    | some k => some (fd.offset, k.size)
    | none => none
  | none => none

def allInfo (P : Program) : List Field → Bool
  | [] => true
  | fd :: r => (P.info? fd.type).isSome && allInfo P r

def inOrder : Nat → List (Nat × Operand) → Bool
  | _, [] => true
  | n, (i, _) :: r => i == n && inOrder (n + 1) r

def isCmp : BinOp → Bool
  | .eql => true
  | .neq => true
  | _ => false

def compCall (P : Program) (c : Call) : Option AOp := match c.callee with
  | .value g => match opn g, opns c.args.toList with
    | some g, some args => some (.call g args)
    | _, _ => none
  | .builtin .len => match c.argTypes.toList, c.args.toList with
    | [t], [x] => match P.underlying t, opn x with
      | some .string, some x => some (.len true x)
      | some (.slice _), some x => some (.len false x)
      | some (.array n _), some _ => some (.mv (.c (.d (.i .i64 (n : Int)))))
      | _, _ => none
    | _, _ => none
  | .builtin .append => match c.argTypes.toList, c.args.toList with
    | [t, u], [x, y] => match P.underlying t, P.underlying u, opn x, opn y with
      | some (.slice e), some d, some x, some y => match d with
        | .int _ => none
        | _ => match P.info? e, zeroOf P e with
          | some i, some zv => if 0 < i.size ∧ i.bytes ≤ 4096 ∧ zv.cells.length = i.size then some (.app i.size x y) else none
          | _, _ => none
      | _, _, _, _ => none
    | _, _ => none
  | .builtin .copy => match c.argTypes.toList, c.args.toList with
    | [t, _], [x, y] => match P.underlying t, opn x, opn y with
      | some (.slice e), some x, some y => match P.info? e with
        | some i => if 0 < i.size then some (.cpy i.size x y) else none
        | none => none
      | _, _, _ => none
    | _, _ => none
  | .builtin .clear => match c.argTypes.toList, c.args.toList with
    | [t], [x] => match P.underlying t, opn x with
      | some (.slice e), some x => match P.info? e, zeroD P e with
        | some i, some zv => if 0 < i.size ∧ zv.cells.length = i.size then some (.clr zv x) else none
        | _, _ => none
      | _, _ => none
    | _, _ => none
  | .builtin .max => match opns c.args.toList with
    | some l => some (.mm true l)
    | none => none
  | .builtin .min => match opns c.args.toList with
    | some l => some (.mm false l)
    | none => none
  | _ => none

def compOp1 (P : Program) (op : Op) : Option AOp := match op with
  | .move x => (opn x).map .mv
  | .assign x => (opn x).map .mv
  | .pick c a b => match opn c, opn a, opn b with
    | some c, some a, some b => some (.pick c a b)
    | _, _, _ => none
  | .alloc e => (zeroOf P e).map fun z => .box (.c z)
  | .box _ x => (opn x).map .box
  | .build t parts => match zeroOf P t, P.underlying t with
    | some z, some (.struct fs) => if allInfo P fs.toList then (match bldF P (fplace P fs) parts.toList with
      | some l => some (.build z.cells l)
      | none => none) else none
    | some z, some (.array _ e) => match P.info? e with
      | some i => match bldF P (fun k => some (k * i.size, i.size)) parts.toList with
        | some l => some (.build z.cells l)
        | none => none
      | none => none
    | _, _ => none
  | .buildSlice t len parts => match P.underlying t with
    | some (.slice e) => match P.info? e, zeroOf P e, opns (parts.toList.map (·.2)) with
      | some i, some _, some l => if inOrder 0 parts.toList ∧ parts.size = len ∧ 0 < i.size ∧ len * i.size ≤ 65536 then some (.bsl i.size l) else none
      | _, _, _ => none
    | _ => none
  | .load t a => match tyL P t, opn a with
    | some (n, c), some a => some (.load c n a)
    | _, _ => none
  | .store t a x => match tyL P t, opn a, opn x with
    | some (n, _), some a, some x => some (.store n a x)
    | _, _, _ => none
  | .nilCheck x => (opn x).map .nilck
  | .makeSlice t n c => match P.underlying t, opn n, opn c with
    | some (.slice e), some n, some c => match P.info? e, zeroD P e with
      | some i, some zv => if 0 < i.size ∧ i.bytes ≤ 4096 ∧ zv.cells.length = i.size then some (.mksl i.size zv n c) else none
      | _, _ => none
    | _, _, _ => none
  | .binOp op t xo yo _ => match opn xo, opn yo with
    | some x, some y => if isCmp op then (match P.underlying t with
      | some .bool => some (.eq (op == .neq) .sb x y)
      | some (.int _) => some (.bin op x y)
      | some .string => some (.bin op x y)
      | some (.slice _) => match isNilC yo, x with
        | true, x => some (.isnil (op == .neq) x)
        | false, _ => none
      | some (.pointer _) => match isNilP yo, x with
        | true, x => some (.pnil (op == .neq) x)
        | false, _ => none
      | some (.struct _) => if P.eqGuardType P.depth t then none else (ety P 64 t).map fun e => .eq (op == .neq) e x y
      | some (.array _ _) => if P.eqGuardType P.depth t then none else (ety P 64 t).map fun e => .eq (op == .neq) e x y
      | _ => none) else some (.bin op x y)
    | _, _ => none
  | .unOp op _ x => (opn x).map (.un op)
  | .convert src dst x => match P.underlying src, P.underlying dst, opn x with
    | some (.int _), some (.int k), some x => some (.conv k x)
    | some .string, some .string, some x => some (.convs x)
    | some (.slice e), some .string, some x => match P.underlying e with
      | some (.int .u8) => some (.b2s x)
      | _ => none
    | _, _, _ => none
  | .makeFunc fn first cap => match fn, opns first.toList, opns cap.toList with
    | .func f, some a, some b => some (.mkfn f a b)
    | _, _, _ => none
  | .slice t x lo hi mx => match P.underlying t, opn x, opnO lo, opnO hi, opnO mx with
    | some .string, some x, some lo, some hi, some none => some (.slice 0 x lo hi none)
    | some (.slice e), some x, some lo, some hi, some mx => match P.info? e with
      | some i => if 0 < i.size then some (.slice i.size x lo hi mx) else none
      | none => none
    | _, _, _, _, _ => none
  | .fieldAddr s x f => match P.underlying s, opn x with
    | some (.struct fs), some x => match fplace P fs f with
      | some (off, n) => if n = 0 then none else some (.faddr off x)
      | none => none
    | _, _ => none
  | .field s x f => match P.underlying s, opn x with
    | some (.struct fs), some x => match fs[f]? with
      | some fd => match tyL P fd.type with
        | some (n, c) => some (.field c fd.offset n x)
        | none => none
      | none => none
    | _, _ => none
  | .indexAddr t x i => match P.underlying t, opn x, opn i with
    | some (.array len e), some x, some i => match P.info? e with
      | some k => some (.iaddrA len k.size x i)
      | none => none
    | some (.slice e), some x, some i => match P.info? e with
      | some k => some (.iaddrS k.size x i)
      | none => none
    | _, _, _ => none
  | .index t x i => match P.underlying t, opn x, opn i with
    | some (.array len e), some x, some i => match tyL P e with
      | some (n, c) => some (.idxA c len n x i)
      | none => none
    | some .string, some x, some i => some (.idxS x i)
    | _, _, _ => none
  | .extract x i => (opn x).map fun x => .ext x i
  | .makeMap t none => match P.underlying t with
    | some (.map key _) => match P.underlying key with
      | some (.int k) => some (.mkmap k)
      | _ => none
    | _ => none
  | .lookup t x i ok => match P.underlying t, opn x, opn i with
    | some (.map key el), some x, some i => match P.underlying key, zeroD P el with
      | some (.int k), some z => some (.mget k z ok x i)
      | _, _ => none
    | _, _, _ => none
  | .mapUpdate t x i v => match P.underlying t, opn x, opn i, opn v with
    | some (.map key _), some x, some i, some v => match P.underlying key with
      | some (.int k) => some (.mset k x i v)
      | _ => none
    | _, _, _, _ => none
  | .call c => compCall P c
  | _ => none

/-- What is not taken is 'bad': no evaluation goes through it. -/
def compOp (P : Program) (op : Op) : AOp := (compOp1 P op).getD .bad

def compGuard (ops : Array Oper) : Option (Nat × Bool) → Option (Option (Nat × Bool))
  | none => some none
  | some (j, want) => match ops[j]? with
    | some o => match o.dst with
      | some d => some (some (d, want))
      | none => none
    | none => none

/-- A slot that the frame has. -/
def dstOk (nt : Nat) : Option Nat → Bool
  | some d => decide (d < nt)
  | none => true

def compOper (P : Program) (ops : Array Oper) (nt : Nat) (o : Oper) : Option AOper := match compGuard ops o.guard with
  | some g => if dstOk nt o.dst = true then some { dst := o.dst, op := compOp P o.op, guard := g } else none
  | none => none

def compOpers (P : Program) (ops : Array Oper) (nt : Nat) : List Oper → Option (List AOper)
  | [] => some []
  | o :: r => match compOper P ops nt o with
    | some a => match compOpers P ops nt r with
      | some l => some (a :: l)
      | none => none
    | none => none

def edgesOk : Nat → List Oper → Bool
  | _, [] => true
  | j, o :: r => o.after.all (fun e => !Region.binds .any e || decide (e.on < j)) && edgesOk (j + 1) r

/-- The slots that an operand names. -/
def opT : Opn → List Nat
  | .t n => [n]
  | _ => []
def opTo : Option Opn → List Nat
  | some x => opT x
  | none => []
def tmpsA : AOp → List Nat
  | .mv x => opT x
  | .pick c a b => opT c ++ (opT a ++ opT b)
  | .bin _ x y => opT x ++ opT y
  | .eq _ _ x y => opT x ++ opT y
  | .un _ x => opT x
  | .conv _ x => opT x
  | .convs x => opT x
  | .box x => opT x
  | .build _ ps => ps.flatMap fun p => opT p.2.2
  | .bsl _ ps => ps.flatMap opT
  | .load _ _ a => opT a
  | .store _ a x => opT a ++ opT x
  | .nilck x => opT x
  | .slice _ x lo hi mx => opT x ++ (opTo lo ++ (opTo hi ++ opTo mx))
  | .faddr _ x => opT x
  | .field _ _ _ x => opT x
  | .iaddrA _ _ x i => opT x ++ opT i
  | .iaddrS _ x i => opT x ++ opT i
  | .idxA _ _ _ x i => opT x ++ opT i
  | .idxS x i => opT x ++ opT i
  | .mkfn _ a b => a.flatMap opT ++ b.flatMap opT
  | .ext x _ => opT x
  | .call g args => opT g ++ args.flatMap opT
  | .len _ x => opT x
  | .app _ x y => opT x ++ opT y
  | .mm _ args => args.flatMap opT
  | .mksl _ _ n c => opT n ++ opT c
  | .cpy _ x y => opT x ++ opT y
  | .clr _ x => opT x
  | .b2s x => opT x
  | .isnil _ x => opT x
  | .pnil _ x => opT x
  | .mkmap _ => []
  | .mget _ _ _ x i => opT x ++ opT i
  | .mset _ x i v => opT x ++ (opT i ++ opT v)
  | .bad => []
def looksA (o : AOper) : List Nat := tmpsA o.op ++ (match o.guard with
  | some (t, _) => [t]
  | none => [])
/-- Neither of two operations writes what the other one looks at, nor what it writes. -/
def apartA (x y : AOper) : Bool := match x.dst with
  | some d => !(looksA y).contains d && (match y.dst with
    | some d' => !(looksA x).contains d' && d != d'
    | none => true)
  | none => match y.dst with
    | some d' => !(looksA x).contains d'
    | none => true

/-- What comes ahead of an operation, as a mask of bits. -/
def mask (acc : List Nat) : List Edge → Nat
  | [] => 0
  | e :: r => if Region.binds .any e then 2 ^ e.on ||| (acc.getD e.on 0 ||| mask acc r) else mask acc r
def masks : List Oper → List Nat → List Nat
  | [], acc => acc
  | o :: r, acc => masks r (acc ++ [mask acc o.after.toList])

/-- May an operation touch objects? -/
def heapyA : AOp → Bool
  | .box _ => true
  | .bsl _ _ => true
  | .load _ _ _ => true
  | .store _ _ _ => true
  | .call _ _ => true
  | .app _ _ _ => true
  | .mksl _ _ _ _ => true
  | .cpy _ _ _ => true
  | .clr _ _ => true
  | .b2s _ => true
  | .mkmap _ => true
  | .mget _ _ _ _ _ => true
  | .mset _ _ _ _ => true
  | _ => false

/-- The pairs of a region whose order is open: 'none' where two of them look at one another's slots; else those that both may touch objects. -/
def openPairs (aops : List AOper) (b : List Nat) : List (Nat × Nat) → Option (List (Nat × Nat))
  | [] => some []
  | (i, j) :: r => match aops[i]?, aops[j]?, openPairs aops b r with
    | some oi, some oj, some l =>
      if (b.getD j 0).testBit i then some l
      else if apartA oi oj then (if heapyA oi.op && heapyA oj.op then some ((i, j) :: l) else some l)
      else none
    | _, _, _ => none

def pairsUpto (n : Nat) : List (Nat × Nat) := (List.range n).flatMap fun j => (List.range j).map fun i => (i, j)

def compPairs (P : Program) (ops : Array Oper) (aops : List AOper) (draw : Bool) : Option (List (Nat × Nat)) :=
  if draw then
    if P.follows .mixedOrders && edgesOk 0 ops.toList then openPairs aops (masks ops.toList []) (pairsUpto ops.size) else none
  else some []

def assoc (h : List (Nat × List Nat)) (i : Nat) : Option (List Nat) := match h with
  | [] => none
  | (j, l) :: r => if j = i then some l else assoc r i

/-- A code's first region: by it a loop is named. -/
def firstR : Code → Option Nat
  | .region id _ _ => some id
  | .seq a b => match firstR a with
    | some i => some i
    | none => firstR b
  | .cond _ a b => match firstR a with
    | some i => some i
    | none => firstR b
  | .block _ a => firstR a
  | .loop a => firstR a
  | .scope a => firstR a
  | _ => none

/-- Hints: kp: which slots are kept at a region; lkp: at a loop; lth: which slots are made arrays ahead of a loop. They change nothing that is proved. -/
structure Hints where
  kp : List (Nat × List Nat) := []
  lkp : List (Nat × List Nat) := []
  lth : List (Nat × List Nat) := []
  dat : Bool := false

def compC (P : Program) (h : Hints) (nt : Nat) : Code → Option ACode
  | .skip => some .skip
  | .region id ops draw => match compOpers P ops nt ops.toList with
    | some l => match compPairs P ops l draw with
      | some ps => some (.region (assoc h.kp id) l ps)
      | none => none
    | none => none
  | .seq a b => match compC P h nt a, compC P h nt b with
    | some a, some b => some (.seq a b)
    | _, _ => none
  | .cond c a b => match opn c, compC P h nt a, compC P h nt b with
    | some c, some a, some b => some (.cond c a b)
    | _, _, _ => none
  | .block id a => match compC P h nt a with
    | some a => some (.block id a)
    | none => none
  | .loop a => match compC P h nt a with
    | some b => some (.loop ((firstR a).bind (assoc h.lkp)) (((firstR a).bind (assoc h.lth)).getD []) b)
    | none => none
  | .exit id => some (.exit id)
  | .scope a => match compC P h nt a with
    | some a => some (.scope a)
    | none => none
  | .ret => some .ret
  | _ => none

def compRes (P : Program) : List ResultVar → Option (List ARes)
  | [] => some []
  | .tmp t :: r => match compRes P r with
    | some l => some (.tmp t :: l)
    | none => none
  | .cell a t :: r => match tyL P t, compRes P r with
    | some (n, c), some l => some (.cell c n a :: l)
    | _, _ => none

def compF (P : Program) (h : Hints) (f : FuncId) : Option AFn := match P.funcs[f]? with
  | some F => match F.body with
    | some c => match compC P h F.ntmps c, compRes P F.results.toList with
      | some b, some r => if F.params.size + F.nfree ≤ F.ntmps ∧ (F.name == "runtime.NumGoroutine") = false then some (.code (F.params.size + F.nfree) b (if h.dat = true then r.map .dat else r)) else none
      | _, _ => none
    | none => none
  | none => none

end Pv
