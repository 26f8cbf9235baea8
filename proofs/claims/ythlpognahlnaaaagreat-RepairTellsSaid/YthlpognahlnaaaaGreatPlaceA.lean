/- Straws: what Log,Straw,Hash,Draw,Best compute,and the reference's. -/
import Derived.Test.YthlpognahlnaaaaGreatPkEvd
import Derived.Test.YthlpognahlnaaaaGreatCode
import Derived.Test.YthlpognahlnaaaaGreatPkRow
set_option linter.all false
namespace Go.Proofs.YthlpognahlnaaaaGreat
open Pv Go
section
/-! What the straw layer's functions compute,in plain terms. -/
set_option maxRecDepth 10000

def mul31 (x : Int) : Int:=(IntKind.u64.wrap (x * x)).fdiv (2 ^ min (Int.toNat 31) IntKind.u64.bits)
def dbl (b : Int) : Int:=IntKind.i64.wrap (b * 2 ^ min (Int.toNat 1) IntKind.i64.bits)
def stepX (x : Int) : Int:=if mul31 x ≥ 4294967296 then (mul31 x).fdiv (2 ^ min (Int.toNat 1) IntKind.u64.bits) else mul31 x
def stepB (x b : Int) : Int:=if mul31 x ≥ 4294967296 then Pv.bits .i64 (fun x1 x2 => x1 ||| x2) (dbl b) 1 else dbl b

theorem step_ok (x : Int) (b : Int) : evF C F_q4i [.ptr 0 0] [.box (.d (.agg [.i .u64 x,.i .i64 b]))] = some (.tup [],[.box (.d (.agg [.i .u64 (stepX x),.i .i64 (stepB x b)]))]):=by
 rw [zaa (rfl : C F_q4i = some a_q4i) _ _ rfl]
 by_cases hc : mul31 x ≥ 4294967296
 ·have hd : decide (mul31 x ≥ 4294967296) = true := decide_eq_true hc
  unfold stepX stepB
  rw [if_pos hc,if_pos hc]
  unfold mul31 dbl at *
  simp +decide only [c_q4i,hd,Pk.EVO,Pk.EVDO,↓reduceIte,Nat.reduceAdd,Nat.reduceLeDiff]
 ·have hd : decide (mul31 x ≥ 4294967296) = false := decide_eq_false hc
  unfold stepX stepB
  rw [if_neg hc,if_neg hc]
  unfold mul31 dbl at *
  simp +decide only [c_q4i,hd,Pk.EVO,Pk.EVDO,↓reduceIte,Nat.reduceAdd,Nat.reduceLeDiff]

def mixR (x c : Int) : Int:=IntKind.u64.wrap (Pv.bits .u64 (fun a b => a ^^^ b) x (x.fdiv (2 ^ min (Int.toNat 33) IntKind.u64.bits)) * c)
def mixI (x : Int) : Int :=
 Pv.bits .u64 (fun a b => a ^^^ b) (mixR (mixR x 18397679294719823053) 14181476777654086739) ((mixR (mixR x 18397679294719823053) 14181476777654086739).fdiv (2 ^ min (Int.toNat 33) IntKind.u64.bits))
theorem mix_ok (x : Int) : evF C F_q02 [.d (.i .u64 x)] [] = some (.d (.i .u64 (mixI x)),[]):=by
 rw [zaa (rfl : C F_q02 = some a_q02) _ _ rfl]
 simp +decide only [c_q02,mixI,mixR,Pk.EVO,Pk.EVDO,↓reduceIte]
theorem mix'_ok (x : Int) : evF C F_q1v [.d (.i .u64 x)] [] = some (.d (.i .u64 (mixI x)),[]):=by
 rw [zaa (rfl : C F_q1v = some a_q1v) _ _ rfl]
 simp +decide only [c_q1v,mixI,mixR,Pk.EVO,Pk.EVDO,↓reduceIte]
def hashI (a b c : Int) : Int:=IntKind.u32.wrap (mixI (IntKind.u64.wrap (mixI (IntKind.u64.wrap (mixI (IntKind.u64.wrap a) + IntKind.u64.wrap b)) + IntKind.u64.wrap c)))
theorem hash_ok (a b c : Int) : evF C F_q01 [.d (.i .u32 a),.d (.i .u32 b),.d (.i .u32 c)] [] = some (.d (.i .u32 (hashI a b c)),[]):=by
 rw [zaa (rfl : C F_q01 = some a_q01) _ _ rfl]
 simp +decide only [c_q01,hashI,mix_ok,Pk.EVO,Pk.EVDO,↓reduceIte,Nat.reduceAdd,Nat.reduceLeDiff]
theorem hash'_ok (a b c : Int) : evF C F_q1u [.d (.i .u32 a),.d (.i .u32 b),.d (.i .u32 c)] [] = some (.d (.i .u32 (hashI a b c)),[]):=by
 rw [zaa (rfl : C F_q1u = some a_q1u) _ _ rfl]
 simp +decide only [c_q1u,hashI,mix'_ok,Pk.EVO,Pk.EVDO,↓reduceIte,Nat.reduceAdd,Nat.reduceLeDiff]

theorem tab_len : ∀ i < 256,1 ≤ i → tab0[i]? = some (UInt8.ofNat (Nat.log2 i + 1)) ∧ (UInt8.ofNat (Nat.log2 i + 1)).toNat = Nat.log2 i + 1:=by decide +kernel

theorem tab_at (x : Nat) (h : 1 ≤ x ∧ x < 256) : ∃ c : UInt8,(if 0 ≤ (x : Int) then tab0[(x : Int).toNat]? else none) = some c ∧ (c.toNat : Int) = ((Nat.log2 x + 1 : Nat) : Int) ∧ Nat.log2 x < 8:=by
 obtain ⟨h1,h2⟩:=tab_len x h.2 h.1
 refine ⟨_,?_,congrArg _ h2,(Nat.log2_lt (by omega)).2 h.2⟩
 rw [if_pos (by omega),Int.toNat_natCast,h1]

theorem len_ok (x : Nat) (h : 1 ≤ x ∧ x ≤ 65536) : evF C F_q11 [.d (.i .u32 (x : Int))] [] = some (.d (.i .i64 ((Nat.log2 x + 1 : Nat) : Int)),[]):=by
 rw [zaa (rfl : C F_q11 = some a_q11) _ _ rfl]
 by_cases h1 : x = 65536
 ·subst h1
  have ht : tab0[(IntKind.u8.wrap (((65536 : Nat) : Int).fdiv (2 ^ min (Int.toNat 16) IntKind.u32.bits))).toNat]? = some 1:=by decide +kernel
  simp +decide only [c_q11,ht,Pk.EVO,Pk.EVDO,↓reduceIte]
  rfl
 ·by_cases h2 : x < 256
  ·have hd1 : decide ((x : Int) ≥ 65536) = false := by simp; omega
   have hd2 : decide ((x : Int) ≥ 256) = false:=by simp; omega
   have hw : IntKind.u8.wrap (x : Int) = x:=wu8 (by omega)
   obtain ⟨c,hc,hcn,hl⟩:=tab_at x ⟨h.1,h2⟩
   simp +decide only [c_q11,hd1,hd2,hw,hc,Pk.EVO,Pk.EVDO,↓reduceIte]
   rw [hcn,wi64 (n:=((Nat.log2 x + 1 : Nat) : Int)) (by omega),wi64 (by omega)]
   simp
  ·have hd1 : decide ((x : Int) ≥ 65536) = false := by simp; omega
   have hd2 : decide ((x : Int) ≥ 256) = true:=by simp; omega
   have hs : (x : Int).fdiv (2 ^ min (Int.toNat 8) IntKind.u32.bits) = ((x / 256 : Nat) : Int):=fdivN x 256
   have hy : 1 ≤ x / 256 ∧ x / 256 < 256:=by omega
   have hw : IntKind.u8.wrap ((x / 256 : Nat) : Int) = ((x / 256 : Nat) : Int):=wu8 (by omega)
   obtain ⟨c,hc,hcn,hl⟩:=tab_at (x / 256) hy
   have hlog : Nat.log2 x = Nat.log2 (x / 256) + 8:=log2_div x 8 (by omega)
   simp +decide only [c_q11,hd1,hd2,hs,hw,hc,Pk.EVO,Pk.EVDO,↓reduceIte]
   rw [hcn,wi64 (n:=((Nat.log2 (x / 256) + 1 : Nat) : Int)) (by omega),wi64 (n:=(0 + 8 : Int)) (by omega),wi64 (by omega)]
   simp
   omega

def iter : Nat → Int × Int → Int × Int
 | 0,p => p
 | n + 1,p => iter n (stepX p.1,stepB p.1 p.2)

def zni : ACode:=.seq (.region (some [3,4,5,21]) [⟨some 22,.bin .lss (.t 21) (.c (.d (.i .i64 16))),none⟩] [])
  (.seq (.cond (.t 22) (.skip) (.exit 0))
  (.seq (.block 1 (.region (some [3, 4, 5, 21]) [⟨some 23, .mv (.t 5), none⟩,
   ⟨some 24,.call (.t 23) [],none⟩] []))
  (.region (some [3, 4, 5, 21]) [⟨some 25, .bin .add (.t 21) (.c (.d (.i .i64 1))), none⟩,
   ⟨some 21,.mv (.t 25),none⟩] [])))

theorem zn5 (k : Int) : ∀ (n i : Nat) (x b : Int) (T : Tm),i + n = 16 → lk T 3 = .d (.i .i64 k) → lk T 4 = .ptr 0 0 → lk T 5 = .fn F_q4i [.ptr 0 0] [] → lk T 21 = .d (.i .i64 i) →
  ∃ T',evL C (some [3,4,5,21]) zni 1 T [.box (.d (.agg [.i .u64 x,.i .i64 b]))] = some (.exit 0,T',[.box (.d (.agg [.i .u64 (iter n (x,b)).1,.i .i64 (iter n (x,b)).2]))]) ∧
   lk T' 3 = .d (.i .i64 k) ∧ lk T' 4 = .ptr 0 0
 | 0,i,x,b,T,hi,h3,h4,h5,h21 => by
  have hd : decide ((i : Int) < 16) = false:=by simp; omega
  obtain ⟨g,hg⟩ : ∃ g,g = againL C (some [3,4,5,21]) zni 1:=⟨_,rfl⟩
  rw [zam,← hg]
  simp +decide only [zni,hd,h3,h4,h5,h21,Pk.EVO,Pk.EVDO,↓reduceIte]
  rw [hg]
  exact ⟨_,rfl,rfl,rfl⟩
 | n + 1,i,x,b,T,hi,h3,h4,h5,h21 => by
  have hd : decide ((i : Int) < 16) = true:=by simp; omega
  have hw : IntKind.i64.wrap ((i : Int) + 1) = ((i + 1 : Nat) : Int):=wi64 (by omega)
  obtain ⟨g,hg⟩ : ∃ g,g = againL C (some [3,4,5,21]) zni 1:=⟨_,rfl⟩
  rw [zam,← hg]
  simp +decide only [zni,hd,hw,step_ok,h3,h4,h5,h21,Pk.EVO,Pk.EVDO,↓reduceIte,Nat.reduceLeDiff]
  rw [hg,zah]
  exact zn5 k n (i + 1) _ _ _ (by omega) rfl rfl rfl rfl

def logV (u : Nat) : Int:=IntKind.i64.wrap (IntKind.i64.wrap ((Nat.log2 u : Nat) * 2 ^ min (Int.toNat 16) IntKind.i64.bits) + (iter 16 (((u * 2 ^ (31 - Nat.log2 u) : Nat) : Int),0)).2)

def clamp (u : Int) : Nat:=(mmI false (mmI true u 1) 65536).toNat
theorem zmd (u : Int) : mmI false (mmI true u 1) 65536 = (clamp u : Int) ∧ 1 ≤ clamp u ∧ clamp u ≤ 65536:=by
 unfold clamp
 have : 1 ≤ mmI false (mmI true u 1) 65536 ∧ mmI false (mmI true u 1) 65536 ≤ 65536:=by
  simp only [mmI]; simp; split <;> split <;> omega
 omega

theorem zd9 (u : Nat) (h : 1 ≤ u ∧ u ≤ 65536) : Nat.log2 u ≤ 16:=by
 have:=(Nat.log2_lt (k:=17) (by omega : u ≠ 0)).2 (by omega)
 omega
theorem zqe (u : Nat) (h : 1 ≤ u ∧ u ≤ 65536) : 2147483648 ≤ u * 2 ^ (31 - Nat.log2 u) ∧ u * 2 ^ (31 - Nat.log2 u) < 4294967296:=by
 have hl:=zd9 u h
 have h1 : 2 ^ Nat.log2 u ≤ u:=(Nat.le_log2 (by omega)).1 (Nat.le_refl _)
 have h2 : u < 2 ^ (Nat.log2 u + 1):=(Nat.log2_lt (by omega)).1 (by omega)
 have e : 2 ^ Nat.log2 u * 2 ^ (31 - Nat.log2 u) = 2147483648:=by rw [← Nat.pow_add,show Nat.log2 u + (31 - Nat.log2 u) = 31 by omega]
 have e2 : 2 ^ (Nat.log2 u + 1) * 2 ^ (31 - Nat.log2 u) = 4294967296:=by rw [← Nat.pow_add,show Nat.log2 u + 1 + (31 - Nat.log2 u) = 32 by omega]
 exact ⟨by rw [← e]; exact Nat.mul_le_mul_right _ h1,by rw [← e2]; exact Nat.mul_lt_mul_of_pos_right h2 (Nat.two_pow_pos _)⟩

theorem log_ok (u : Int) : evF C F_q4g [.d (.i .u32 u)] [] = some (.d (.i .i64 (logV (clamp u))),[]):=by
 rw [zaa (rfl : C F_q4g = some a_q4g) _ _ rfl]
 obtain ⟨hc,h1,h2⟩:=zmd u
 generalize clamp u = v at hc h1 h2
 have hl:=zd9 v ⟨h1,h2⟩
 have hm:=zqe v ⟨h1,h2⟩
 have hlen:=len_ok v ⟨h1,h2⟩
 have w1 : IntKind.i64.wrap (((Nat.log2 v + 1 : Nat) : Int) - 1) = (Nat.log2 v : Nat):=by rw [wi64 (by omega)]; omega
 have w2 : IntKind.u64.wrap (v : Int) = v:=wu64 (by omega)
 have w3 : IntKind.i64.wrap (31 - (Nat.log2 v : Nat)) = ((31 - Nat.log2 v : Nat) : Int):=by rw [wi64 (by omega)]; omega
 have w4 : (((31 - Nat.log2 v : Nat) : Int) < 0) = False:=by simp
 have w5 : IntKind.u64.wrap ((v : Int) * 2 ^ min (Int.toNat ((31 - Nat.log2 v : Nat) : Int)) IntKind.u64.bits) = ((v * 2 ^ (31 - Nat.log2 v) : Nat) : Int):=by
  have e : min (Int.toNat ((31 - Nat.log2 v : Nat) : Int)) IntKind.u64.bits = 31 - Nat.log2 v:=by simp [IntKind.bits]; omega
  rw [e,show ((v : Int) * 2 ^ (31 - Nat.log2 v)) = ((v * 2 ^ (31 - Nat.log2 v) : Nat) : Int) by simp]
  exact wu64 (by omega)
 simp +decide only [c_q4g,K_q4g_0,l_q4g_0,hc,hlen,w1,w2,w3,w4,w5,Pk.EVO,Pk.EVDO,↓reduceIte,Nat.reduceLeDiff]
 simp only [Option.bind_assoc]
 refine zbd (zn5 _ 16 0 _ _ _ rfl rfl rfl rfl rfl) ?_
 intro T' ⟨h3,h4⟩
 simp +decide only [h3,h4,logV,Pk.EVO,Pk.EVDO,↓reduceIte]
end

section
/-! The straw layer's logarithm,in plain numbers. -/
set_option maxRecDepth 10000

def sq (m : Nat) : Nat:=m * m / 2147483648
def nx (m : Nat) : Nat:=if sq m ≥ 4294967296 then sq m / 2 else sq m
def bt (m : Nat) : Nat:=if sq m ≥ 4294967296 then 1 else 0
def itb : Nat → Nat → Nat → Nat
 | 0,_,b => b
 | n + 1,m,b => itb n (nx m) (2 * b + bt m)

def fine (m : Nat) : Prop:=2147483648 ≤ m ∧ m < 4294967296

theorem sq_fine {m : Nat} (h : fine m) : 2147483648 ≤ sq m ∧ sq m < 8589934592:=by
 obtain ⟨h1,h2⟩:=h
 unfold sq
 have a : 2147483648 * 2147483648 ≤ m * m:=Nat.mul_le_mul h1 h1
 have b : m * m ≤ 4294967295 * 4294967295:=Nat.mul_le_mul (by omega) (by omega)
 omega
theorem nx_fine {m : Nat} (h : fine m) : fine (nx m):=by
 have:=sq_fine h
 unfold nx fine
 split <;> omega
theorem zii {m : Nat} (h : fine m) : mul31 (m : Int) = (sq m : Nat):=by
 unfold mul31
 have hb : m * m ≤ 4294967295 * 4294967295:=Nat.mul_le_mul (by have:=h.2; omega) (by have:=h.2; omega)
 rw [show (m : Int) * m = ((m * m : Nat) : Int) by simp,wu64 (by omega)]
 exact fdivN (m * m) 2147483648
theorem zoo {m : Nat} (h : fine m) : stepX (m : Int) = (nx m : Nat):=by
 unfold stepX nx
 rw [zii h]
 by_cases hc : sq m ≥ 4294967296
 ·rw [if_pos (by omega), if_pos hc]
  exact fdivN (sq m) 2
 ·rw [if_neg (by omega),if_neg hc]
theorem or_one (b : Nat) (h : b < 1099511627776) : Pv.bits .i64 (fun x1 x2 => x1 ||| x2) ((2 * b : Nat) : Int) 1 = ((2 * b + 1 : Nat) : Int):=by
 unfold Pv.bits
 have e : ((BitVec.ofInt IntKind.i64.bits ((2 * b : Nat) : Int)) ||| (BitVec.ofInt IntKind.i64.bits 1)).toNat = 2 * b + 1:=by
  show ((BitVec.ofInt 64 ((2 * b : Nat) : Int)) ||| (BitVec.ofInt 64 1)).toNat = 2 * b + 1
  have e1 : (BitVec.ofInt 64 ((2 * b : Nat) : Int)) = BitVec.ofNat 64 (2 * b):=BitVec.ofInt_natCast _ _
  have e2 : (BitVec.ofInt 64 1) = BitVec.ofNat 64 1:=by rfl
  rw [e1,e2,BitVec.toNat_or,BitVec.toNat_ofNat,BitVec.toNat_ofNat,Nat.mod_eq_of_lt (by omega),Nat.mod_eq_of_lt (by omega)]
  rw [show 2 * b = b <<< 1 by rw [Nat.shiftLeft_eq]; omega]
  rw [← Nat.shiftLeft_add_eq_or_of_lt (b:=1) (i:=1) (by omega)]
 show IntKind.i64.wrap (((BitVec.ofInt IntKind.i64.bits ((2 * b : Nat) : Int)) ||| (BitVec.ofInt IntKind.i64.bits 1)).toNat : Int) = _
 rw [e]
 exact wi64 (by omega)
theorem dbl_nat {b : Nat} (h : b < 1099511627776) : dbl (b : Int) = ((2 * b : Nat) : Int):=by
 unfold dbl
 rw [show (b : Int) * 2 ^ min (Int.toNat 1) IntKind.i64.bits = ((2 * b : Nat) : Int) by
  show (b : Int) * 2 ^ 1 = _
  omega]
 exact wi64 (by omega)
theorem stepB_nat {m b : Nat} (h : fine m) (hb : b < 1099511627776) : stepB (m : Int) (b : Int) = ((2 * b + bt m : Nat) : Int):=by
 unfold stepB bt
 rw [zii h,dbl_nat hb]
 by_cases hc : sq m ≥ 4294967296
 ·rw [if_pos (by omega),if_pos hc,or_one b hb]
 ·rw [if_neg (by omega),if_neg hc]; rfl
theorem bt_le (m : Nat) : bt m ≤ 1:=by unfold bt; split <;> omega

theorem zrg : ∀ (n : Nat) {m b : Nat},fine m → (b + 1) * 2 ^ n ≤ 1099511627776 → (iter n ((m : Int),(b : Int))).2 = ((itb n m b : Nat) : Int)
 | 0,m,b,_,_ => rfl
 | n + 1,m,b,h,hb => by
  have hp : 0 < 2 ^ n:=Nat.two_pow_pos n
  have hb' : b + 1 ≤ 1099511627776:=Nat.le_trans (Nat.le_mul_of_pos_right _ (Nat.two_pow_pos (n + 1))) hb
  have hbt:=bt_le m
  simp only [iter,itb]
  rw [zoo h,stepB_nat h (by omega)]
  refine zrg n (nx_fine h) (Nat.le_trans (Nat.mul_le_mul_right _ (show 2 * b + bt m + 1 ≤ 2 * (b + 1) by omega)) ?_)
  rw [Nat.pow_succ] at hb
  rw [show 2 * (b + 1) * 2 ^ n = (b + 1) * (2 ^ n * 2) by rw [Nat.mul_comm 2 (b + 1),Nat.mul_assoc,Nat.mul_comm 2]]
  exact hb

theorem zk7 : ∀ (n m b : Nat),itb n m b = b * 2 ^ n + itb n m 0
 | 0,m,b => by simp [itb]
 | n + 1,m,b => by
  simp only [itb]
  rw [zk7 n (nx m) (2 * b + bt m),zk7 n (nx m) (2 * 0 + bt m),Nat.pow_succ,Nat.add_mul,Nat.mul_zero,Nat.zero_add,Nat.mul_comm 2 b,Nat.mul_assoc,Nat.mul_comm 2]
  omega
theorem itb_lt : ∀ (n m : Nat),itb n m 0 < 2 ^ n
 | 0,m => by simp [itb]
 | n + 1,m => by
  simp only [itb]
  rw [zk7 n]
  have h1:=itb_lt n (nx m)
  have h2:=bt_le m
  rw [Nat.pow_succ]
  have : (2 * 0 + bt m) * 2 ^ n ≤ 1 * 2 ^ n:=Nat.mul_le_mul_right _ (by omega)
  omega
theorem itb_top : ∀ n,itb n 2147483648 0 = 0
 | 0 => rfl
 | n + 1 => by
  have h : sq 2147483648 = 2147483648:=by decide +kernel
  have h1 : nx 2147483648 = 2147483648:=by unfold nx; rw [h]; rfl
  have h2 : bt 2147483648 = 0:=by unfold bt; rw [h]; rfl
  simp only [itb,h1,h2]
  exact itb_top n

def mant (u : Nat) : Nat:=u * 2 ^ (31 - Nat.log2 u)
def LV (u : Nat) : Nat:=Nat.log2 u * 65536 + itb 16 (mant u) 0

theorem logV_eq {u : Nat} (h : 1 ≤ u ∧ u ≤ 65536) : logV u = (LV u : Nat):=by
 have hl:=zd9 u h
 have hm:=zqe u h
 have hi:=itb_lt 16 (mant u)
 unfold logV
 have e:=zrg 16 (m:=mant u) (b:=0) hm (by decide)
 show IntKind.i64.wrap (IntKind.i64.wrap ((Nat.log2 u : Int) * 2 ^ 16) + (iter 16 (((mant u : Nat) : Int),((0 : Nat) : Int))).2) = _
 rw [e,wi64 (n:=(Nat.log2 u : Int) * 2 ^ 16) (by omega),wi64 (by omega)]
 unfold LV
 omega

theorem log_at (u : Int) : evF C F_q4g [.d (.i .u32 u)] [] = some (.d (.i .i64 (LV (clamp u) : Nat)),[]):=by
 rw [log_ok,logV_eq (zmd u).2]

theorem clamp_id (u : Nat) (h : 1 ≤ u ∧ u ≤ 65536) : clamp (u : Int) = u:=by
 unfold clamp mmI; simp; split <;> split <;> omega

theorem LV_le {u : Nat} (h : 1 ≤ u ∧ u ≤ 65536) : LV u ≤ 1048576:=by
 have hl:=zd9 u h
 have hi:=itb_lt 16 (mant u)
 by_cases h16 : Nat.log2 u = 16
 ·have hu : u = 65536 := by
   have : 2 ^ 16 ≤ u:=by rw [← h16]; exact (Nat.le_log2 (by omega)).1 (Nat.le_refl _)
   omega
  subst hu
  unfold LV
  rw [show mant 65536 = 2147483648 by decide +kernel,itb_top,h16]
  decide
 ·unfold LV; omega
end

section
/-! The document's logarithm,straws,draws; the best of a list. -/
set_option maxRecDepth 10000

def loopA : ACode:=.seq (.seq (.region (some [0,3]) [⟨some 10,.mv (.t 0),none⟩,
   ⟨some 11,.mv (.t 3),none⟩,
   ⟨some 12,.bin .add (.t 11) (.c (.d (.i .i64 1))),none⟩,
   ⟨some 13,.conv .u64 (.t 12),none⟩,
   ⟨some 14,.bin .shr (.t 10) (.t 13),none⟩,
   ⟨some 15,.bin .gtr (.t 14) (.c (.d (.i .u32 0))),none⟩] [])
  (.cond (.t 15) (.skip) (.exit 0)))
  (.block 1 (.region (some [0, 3]) [⟨some 16, .mv (.t 3), none⟩,
   ⟨some 17,.bin .add (.t 16) (.c (.d (.i .i64 1))),none⟩,
   ⟨some 3,.mv (.t 17),none⟩] []))

theorem shr_nat (u k : Nat) (h : k ≤ 32) : (u : Int).fdiv (2 ^ min (Int.toNat ((k : Nat) : Int)) IntKind.u32.bits) = ((u / 2 ^ k : Nat) : Int):=by
 have e : min (Int.toNat ((k : Nat) : Int)) IntKind.u32.bits = k:=by simp [IntKind.bits]; omega
 rw [e]
 have:=fdivN u (2 ^ k)
 rw [← this]
 congr 1

theorem zra (u : Nat) (hu : 1 ≤ u ∧ u ≤ 65536) : ∀ (n k : Nat) (T : Tm),k + n = Nat.log2 u → lk T 0 = .d (.i .u32 u) → lk T 3 = .d (.i .i64 k) →
  ∃ T',evL C (some [0,3]) loopA 0 T [] = some (.exit 0,T',[]) ∧ lk T' 0 = .d (.i .u32 u) ∧ lk T' 3 = .d (.i .i64 (Nat.log2 u : Nat))
 | 0, k, T, hk, h0, h3 => by
  have hl:=zd9 u hu
  have w1 : IntKind.i64.wrap ((k : Int) + 1) = ((k + 1 : Nat) : Int):=wi64 (by omega)
  have w2 : IntKind.u64.wrap ((k + 1 : Nat) : Int) = ((k + 1 : Nat) : Int):=wu64 (by omega)
  have w3:=shr_nat u (k + 1) (by omega)
  have w4 : decide (((u / 2 ^ (k + 1) : Nat) : Int) > 0) = false:=by
   have : u < 2 ^ (k + 1):=(Nat.log2_lt (by omega)).1 (by omega)
   rw [Nat.div_eq_of_lt this]; rfl
  have hn : (((k + 1 : Nat) : Int) < 0) = False:=by simp; omega
  obtain ⟨g,hg⟩ : ∃ g,g = againL C (some [0,3]) loopA 0:=⟨_,rfl⟩
  rw [zam,← hg]
  simp +decide only [loopA,w1,w2,w3,w4,hn,h0,h3,Pk.EVO,Pk.EVDO,↓reduceIte]
  rw [hg]
  exact ⟨_,rfl,rfl,by rw [show k = Nat.log2 u by omega]; rfl⟩
 | n + 1, k, T, hk, h0, h3 => by
  have hl:=zd9 u hu
  have w1 : IntKind.i64.wrap ((k : Int) + 1) = ((k + 1 : Nat) : Int):=wi64 (by omega)
  have w2 : IntKind.u64.wrap ((k + 1 : Nat) : Int) = ((k + 1 : Nat) : Int):=wu64 (by omega)
  have w3:=shr_nat u (k + 1) (by omega)
  have w4 : decide (((u / 2 ^ (k + 1) : Nat) : Int) > 0) = true:=by
   have : 2 ^ (k + 1) ≤ u:=(Nat.le_log2 (by omega)).1 (by omega)
   have:=Nat.div_pos this (Nat.two_pow_pos _)
   simp only [decide_eq_true_eq]
   omega
  have hn : (((k + 1 : Nat) : Int) < 0) = False:=by simp; omega
  obtain ⟨g,hg⟩ : ∃ g,g = againL C (some [0,3]) loopA 0:=⟨_,rfl⟩
  rw [zam,← hg]
  simp +decide only [loopA,w1,w2,w3,w4,hn,h0,h3,Pk.EVO,Pk.EVDO,↓reduceIte]
  rw [hg,zah]
  exact zra u hu n (k + 1) _ (by omega) rfl rfl

def stepO (x o : Int) : Int:=if mul31 x ≥ 4294967296 then IntKind.i64.wrap (IntKind.i64.wrap (o * 2) + 1) else IntKind.i64.wrap (o * 2)
def iterO : Nat → Int × Int → Int × Int
 | 0,p => p
 | n + 1,p => iterO n (stepX p.1,stepO p.1 p.2)

def loopB : ACode:=.seq (.seq (.region (some [4,5,6]) [⟨some 25,.mv (.t 6),none⟩,
   ⟨some 26,.bin .lss (.t 25) (.c (.d (.i .i64 16))),none⟩] [])
  (.cond (.t 26) (.skip) (.exit 2)))
  (.seq (.block 3 (.seq (.region (some [4, 5, 6]) [⟨some 29, .mv (.t 4), none⟩,
   ⟨some 30,.mv (.t 4),none⟩,
   ⟨some 31,.bin .mul (.t 29) (.t 30),none⟩,
   ⟨some 32,.bin .shr (.t 31) (.c (.d (.i .u64 31))),none⟩,
   ⟨some 4,.mv (.t 32),none⟩] [])
  (.seq (.region (some [4, 5, 6]) [⟨some 33, .mv (.t 5), none⟩,
   ⟨some 34,.bin .mul (.t 33) (.c (.d (.i .i64 2))),none⟩,
   ⟨some 5,.mv (.t 34),none⟩] [])
  (.seq (.region (some [4, 5, 6]) [⟨some 35, .mv (.t 4), none⟩,
   ⟨some 36,.bin .geq (.t 35) (.c (.d (.i .u64 4294967296))),none⟩] [])
  (.cond (.t 36) (.seq (.region (some [4, 5, 6]) [⟨some 37, .mv (.t 4), none⟩,
    ⟨some 38,.bin .shr (.t 37) (.c (.d (.i .u64 1))),none⟩,
    ⟨some 4,.mv (.t 38),none⟩] [])
   (.region (some [4, 5, 6]) [⟨some 39, .mv (.t 5), none⟩,
    ⟨some 40,.bin .add (.t 39) (.c (.d (.i .i64 1))),none⟩,
    ⟨some 5,.mv (.t 40),none⟩] [])) (.skip))))))
  (.region (some [4, 5, 6]) [⟨some 27, .mv (.t 6), none⟩,
   ⟨some 28,.bin .add (.t 27) (.c (.d (.i .i64 1))),none⟩,
   ⟨some 6,.mv (.t 28),none⟩] []))

theorem zl4 : ∀ (n i : Nat) (x o : Int) (T : Tm),i + n = 16 → lk T 4 = .d (.i .u64 x) → lk T 5 = .d (.i .i64 o) → lk T 6 = .d (.i .i64 i) →
  ∃ T',evL C (some [4,5,6]) loopB 0 T [] = some (.exit 2,T',[]) ∧ lk T' 5 = .d (.i .i64 (iterO n (x,o)).2)
 | 0,i,x,o,T,hi,h4,h5,h6 => by
  have hd : decide ((i : Int) < 16) = false:=by simp; omega
  obtain ⟨g,hg⟩ : ∃ g,g = againL C (some [4,5,6]) loopB 0:=⟨_,rfl⟩
  rw [zam,← hg]
  simp +decide only [loopB,hd,h4,h5,h6,Pk.EVO,Pk.EVDO,↓reduceIte]
  rw [hg]
  exact ⟨_,rfl,rfl⟩
 | n + 1, i, x, o, T, hi, h4, h5, h6 => by
  have hd : decide ((i : Int) < 16) = true:=by simp; omega
  have hw : IntKind.i64.wrap ((i : Int) + 1) = ((i + 1 : Nat) : Int):=wi64 (by omega)
  obtain ⟨g,hg⟩ : ∃ g,g = againL C (some [4,5,6]) loopB 0:=⟨_,rfl⟩
  rw [zam,← hg]
  by_cases hc : mul31 x ≥ 4294967296
  ·have hx : stepX x = (mul31 x).fdiv (2 ^ min (Int.toNat 1) IntKind.u64.bits) := if_pos hc
   have ho : stepO x o = IntKind.i64.wrap (IntKind.i64.wrap (o * 2) + 1):=if_pos hc
   have hd2 : decide (mul31 x ≥ 4294967296) = true:=decide_eq_true hc
   simp only [iterO]
   rw [hx,ho]
   unfold mul31 at *
   simp +decide only [loopB,hd,hd2,hw,h4,h5,h6,Pk.EVO,Pk.EVDO,↓reduceIte]
   rw [hg,zah]
   exact zl4 n (i + 1) _ _ _ (by omega) rfl rfl rfl
  ·have hx : stepX x = mul31 x := if_neg hc
   have ho : stepO x o = IntKind.i64.wrap (o * 2):=if_neg hc
   have hd2 : decide (mul31 x ≥ 4294967296) = false:=decide_eq_false hc
   simp only [iterO]
   rw [hx,ho]
   unfold mul31 at *
   simp +decide only [loopB,hd,hd2,hw,h4,h5,h6,Pk.EVO,Pk.EVDO,↓reduceIte]
   rw [hg,zah]
   exact zl4 n (i + 1) _ _ _ (by omega) rfl rfl rfl

theorem znx : ∀ (n : Nat) {m b : Nat},fine m → (b + 1) * 2 ^ n ≤ 1099511627776 → (iterO n ((m : Int),(b : Int))).2 = ((itb n m b : Nat) : Int)
 | 0,m,b,_,_ => rfl
 | n + 1, m, b, h, hb => by
  have hb' : b + 1 ≤ 1099511627776:=Nat.le_trans (Nat.le_mul_of_pos_right _ (Nat.two_pow_pos (n + 1))) hb
  have hbt:=bt_le m
  have e : stepO (m : Int) (b : Int) = ((2 * b + bt m : Nat) : Int):=by
   unfold stepO bt
   rw [zii h,wi64 (n:=(b : Int) * 2) (by omega)]
   by_cases hc : sq m ≥ 4294967296
   ·rw [if_pos (by omega),if_pos hc,wi64 (by omega)]; omega
   ·rw [if_neg (by omega),if_neg hc]; omega
  simp only [iterO,itb]
  rw [zoo h,e]
  refine znx n (nx_fine h) (Nat.le_trans (Nat.mul_le_mul_right _ (show 2 * b + bt m + 1 ≤ 2 * (b + 1) by omega)) ?_)
  rw [Nat.pow_succ] at hb
  rw [show 2 * (b + 1) * 2 ^ n = (b + 1) * (2 ^ n * 2) by rw [Nat.mul_comm 2 (b + 1),Nat.mul_assoc,Nat.mul_comm 2]]
  exact hb

theorem clamp_ok' (u : Int) : mmI true 1 (mmI false u 65536) = (clamp u : Int):=by
 unfold clamp mmI; simp; split <;> split <;> (try split) <;> (try split) <;> omega

theorem ref_at (u : Int) : evF C F_q1x [.d (.i .u32 u)] [] = some (.d (.i .i64 (LV (clamp u) : Nat)),[]):=by
 rw [zaa (rfl : C F_q1x = some a_q1x) _ _ rfl]
 have hc:=clamp_ok' u
 obtain ⟨_,h1,h2⟩:=zmd u
 generalize clamp u = v at hc h1 h2
 have hl:=zd9 v ⟨h1,h2⟩
 have hm:=zqe v ⟨h1,h2⟩
 simp +decide only [c_q1x,K_q1x_0,l_q1x_0,K_q1x_1,l_q1x_1,hc,Pk.EVO,Pk.EVDO,↓reduceIte]
 simp only [Option.bind_assoc]
 refine zbd (zra v ⟨h1,h2⟩ (Nat.log2 v) 0 _ (by omega) rfl rfl) ?_
 intro T' ⟨h0,h3⟩
 have w2 : IntKind.u64.wrap (v : Int) = v:=wu64 (by omega)
 have w3 : IntKind.i64.wrap (31 - (Nat.log2 v : Nat)) = ((31 - Nat.log2 v : Nat) : Int):=by rw [wi64 (by omega)]; omega
 have w3' : IntKind.u64.wrap ((31 - Nat.log2 v : Nat) : Int) = ((31 - Nat.log2 v : Nat) : Int):=wu64 (by omega)
 have w4 : (((31 - Nat.log2 v : Nat) : Int) < 0) = False:=by simp
 have w5 : IntKind.u64.wrap ((v : Int) * 2 ^ min (Int.toNat ((31 - Nat.log2 v : Nat) : Int)) IntKind.u64.bits) = ((mant v : Nat) : Int):=by
  have e : min (Int.toNat ((31 - Nat.log2 v : Nat) : Int)) IntKind.u64.bits = 31 - Nat.log2 v:=by simp [IntKind.bits]; omega
  rw [e,show ((v : Int) * 2 ^ (31 - Nat.log2 v)) = ((mant v : Nat) : Int) by simp [mant]]
  exact wu64 (by unfold mant; omega)
 simp +decide only [h0,h3,w2,w3,w3',w4,w5,Pk.EVO,Pk.EVDO,↓reduceIte]
 simp only [Option.bind_assoc]
 refine zbd (zl4 16 0 _ _ _ rfl rfl rfl rfl) ?_
 intro T2 h5
 have hi : (iterO 16 (((mant v : Nat) : Int),((Nat.log2 v : Nat) : Int))).2 = (LV v : Nat):=by
  rw [znx 16 (m:=mant v) hm (Nat.le_trans (Nat.mul_le_mul_right (2 ^ 16) (show Nat.log2 v + 1 ≤ 17 by omega)) (by decide)),zk7]
  rfl
 simp +decide only [h5,hi,Pk.EVO,Pk.EVDO,↓reduceIte]
end

section
/-! Straws,draws,the best of a list,what is known. -/
set_option maxRecDepth 10000

def wt (w : Int) : Nat:=(mmI false (mmI true w 1) 16).toNat
theorem wt_ok (w : Int) : mmI false (mmI true w 1) 16 = (wt w : Int) ∧ 1 ≤ wt w ∧ wt w ≤ 16:=by
 unfold wt
 have : 1 ≤ mmI false (mmI true w 1) 16 ∧ mmI false (mmI true w 1) 16 ≤ 16:=by
  simp only [mmI]; simp; split <;> split <;> omega
 omega
theorem wt_ok' (u : Int) : mmI true 1 (mmI false u 16) = (wt u : Int):=by
 unfold wt mmI; simp; split <;> split <;> (try split) <;> (try split) <;> omega

def SV (h : Nat) (w : Int) : Int:=-(((1048576 - LV (h % 65536 + 1)) * 4096 / wt w : Nat) : Int)
theorem zha (h : Nat) (hh : h < 4294967296) (v : Nat) (hv : 1 ≤ v ∧ v ≤ 16) :
  clamp (IntKind.u32.wrap (Int.tmod (h : Int) 65536 + 1)) = h % 65536 + 1 ∧
  IntKind.i64.wrap (0 - IntKind.i64.wrap ((IntKind.i64.wrap (IntKind.i64.wrap (1048576 - ((LV (h % 65536 + 1) : Nat) : Int)) * 4096)).tdiv (v : Int))) = -(((1048576 - LV (h % 65536 + 1)) * 4096 / v : Nat) : Int):=by
 have e1 : Int.tmod (h : Int) 65536 = ((h % 65536 : Nat) : Int):=by
  rw [Int.tmod_eq_emod_of_nonneg (by omega)]; rfl
 refine ⟨?_,?_⟩
 ·rw [e1, wu32 (by omega), show ((h % 65536 : Nat) : Int) + 1 = ((h % 65536 + 1 : Nat) : Int) by omega]
  exact clamp_id _ (by omega)
 ·have hL := LV_le (u := h % 65536 + 1) (by omega)
  generalize LV (h % 65536 + 1) = L at hL
  rw [wi64 (n:=1048576 - (L : Int)) (by omega),wi64 (n:=(1048576 - (L : Int)) * 4096) (by omega)]
  have e2 : (1048576 - (L : Int)) * 4096 = (((1048576 - L) * 4096 : Nat) : Int):=by omega
  have e3 : (((1048576 - L) * 4096 : Nat) : Int).tdiv (v : Int) = (((1048576 - L) * 4096 / v : Nat) : Int):=by
   rw [Int.tdiv_eq_ediv_of_nonneg (by omega)]; rfl
  have hle : (1048576 - L) * 4096 / v ≤ (1048576 - L) * 4096:=Nat.div_le_self _ _
  rw [e2,e3]
  generalize (1048576 - L) * 4096 / v = q at hle
  rw [wi64 (n:=(q : Int)) (by omega),wi64 (by omega)]
  omega

theorem straw_at (h : Nat) (hh : h < 4294967296) (w : Int) : evF C F_q4h [.d (.i .u32 (h : Int)),.d (.i .i64 w)] [] = some (.d (.i .i64 (SV h w)),[]):=by
 rw [zaa (rfl : C F_q4h = some a_q4h) _ _ rfl]
 obtain ⟨hw,h1,h2⟩:=wt_ok w
 unfold SV
 generalize wt w = v at hw h1 h2
 obtain ⟨p1,p2⟩:=zha h hh v ⟨h1,h2⟩
 have hz : ((v : Int) = 0) = False:=by simp; omega
 simp +decide only [c_q4h,hw,hz,log_at,p1,p2,Pk.EVO,Pk.EVDO,↓reduceIte,Nat.reduceAdd,Nat.reduceLeDiff]
theorem zo4 (h : Nat) (hh : h < 4294967296) (w : Int) : evF C F_q1y [.d (.i .u32 (h : Int)),.d (.i .i64 w)] [] = some (.d (.i .i64 (SV h w)),[]):=by
 rw [zaa (rfl : C F_q1y = some a_q1y) _ _ rfl]
 have hw:=wt_ok' w
 obtain ⟨_,h1,h2⟩:=wt_ok w
 unfold SV
 generalize wt w = v at hw h1 h2
 obtain ⟨p1,p2⟩:=zha h hh v ⟨h1,h2⟩
 have hz : ((v : Int) = 0) = False:=by simp; omega
 simp +decide only [c_q1y,hw,hz,ref_at,p1,p2,Pk.EVO,Pk.EVDO,↓reduceIte,Nat.reduceAdd,Nat.reduceLeDiff]

def HV (a b c : Int) : Nat:=(hashI (IntKind.u32.wrap a) (IntKind.u32.wrap b) (IntKind.u32.wrap c)).toNat
theorem zs8 (a b c : Int) : 0 ≤ hashI a b c ∧ hashI a b c < 4294967296:=zmt _
theorem HV_ok (a b c : Int) : hashI (IntKind.u32.wrap a) (IntKind.u32.wrap b) (IntKind.u32.wrap c) = (HV a b c : Int) ∧ HV a b c < 4294967296:=by
 have:=zs8 (IntKind.u32.wrap a) (IntKind.u32.wrap b) (IntKind.u32.wrap c)
 unfold HV; omega
theorem draw_at (g o t w : Int) : evF C F_q4f [.d (.i .u8 g),.d (.i .i64 o),.d (.i .i64 t),.d (.i .i64 w)] [] = some (.d (.i .i64 (SV (HV g o t) w)),[]):=by
 rw [zaa (rfl : C F_q4f = some a_q4f) _ _ rfl]
 obtain ⟨h1,h2⟩:=HV_ok g o t
 simp +decide only [c_q4f,hash_ok,h1,straw_at _ h2,Pk.EVO,Pk.EVDO,↓reduceIte,Nat.reduceAdd,Nat.reduceLeDiff]
theorem zsr (g o t w : Int) : evF C F_q1w [.d (.i .u8 g),.d (.i .i64 o),.d (.i .i64 t),.d (.i .i64 w)] [] = some (.d (.i .i64 (SV (HV g o t) w)),[]):=by
 rw [zaa (rfl : C F_q1w = some a_q1w) _ _ rfl]
 obtain ⟨h1,h2⟩:=HV_ok g o t
 simp +decide only [c_q1w,hash'_ok,h1,zo4 _ h2,Pk.EVO,Pk.EVDO,↓reduceIte,Nat.reduceAdd,Nat.reduceLeDiff]

/-! the best -/
def ints (l : List Int) : List DV:=l.map (DV.i .i64)
def bestGo (l : List Int) : Nat → Nat → Int → Int
 | 0,_,b => b
 | n + 1,i,b => bestGo l n (i + 1) (if b < 0 ∨ l.getD i 0 > l.getD b.toNat 0 then (i : Int) else b)
def bestI (l : List Int) : Int:=bestGo l l.length 0 (-1)

def zil : ACode:=.seq (.region (some [0,3,6,7,8]) [⟨some 9,.bin .lss (.t 8) (.t 7),none⟩] [])
  (.seq (.cond (.t 9) (.skip) (.exit 0))
  (.seq (.block 1 (.seq (.region (some [0, 3, 6, 7, 8]) [⟨some 10, .mv (.t 8), none⟩,
   ⟨some 11,.iaddrS 1 (.t 6) (.t 8),none⟩,
   ⟨some 12,.load false 1 (.t 11),none⟩,
   ⟨some 4,.mv (.t 10),none⟩,
   ⟨some 5,.mv (.t 12),none⟩] [])
  (.seq (.region (some [0, 3, 4, 5, 6, 7, 8]) [⟨some 13, .mv (.t 3), none⟩,
   ⟨some 14,.bin .lss (.t 13) (.c (.d (.i .i64 0))),none⟩,
   ⟨some 15,.mv (.t 14),none⟩,
   ⟨some 16,.mv (.t 5),some (15,false)⟩,
   ⟨some 17,.mv (.t 0),some (15,false)⟩,
   ⟨some 18,.mv (.t 3),some (15,false)⟩,
   ⟨some 19,.iaddrS 1 (.t 17) (.t 18),some (15,false)⟩,
   ⟨some 20,.load false 1 (.t 19),some (15,false)⟩,
   ⟨some 21,.bin .gtr (.t 16) (.t 20),some (15,false)⟩,
   ⟨some 22,.pick (.t 15) (.c (.d (.b true))) (.t 21),none⟩] [])
  (.cond (.t 22) (.region (some [0,4,6,7,8]) [⟨some 23,.mv (.t 4),none⟩,
    ⟨some 3,.mv (.t 23),none⟩] []) (.skip)))))
  (.region (some [0, 3, 6, 7, 8]) [⟨some 24, .bin .add (.t 8) (.c (.d (.i .i64 1))), none⟩,
   ⟨some 8,.mv (.t 24),none⟩] [])))

theorem zrj (l : List Int) (j : Nat) (h : j < l.length) : (ints l)[((j : Nat) : Int).toNat]? = some (.i .i64 (l.getD j 0)):=by
 simp [ints,h]

theorem zes (l : List Int) (hlen : l.length ≤ 4611686018427387904) : ∀ (n i : Nat) (b : Int) (T : Tm),i + n = l.length → -1 ≤ b → b < i → lk T 0 = .d (.sl (ints l)) → lk T 3 = .d (.i .i64 b) → lk T 6 = .d (.sl (ints l)) →
  lk T 7 = .d (.i .i64 (l.length : Nat)) → lk T 8 = .d (.i .i64 i) →
  ∃ T',evL C (some [0,3,6,7,8]) zil 0 T [] = some (.exit 0,T',[]) ∧ lk T' 3 = .d (.i .i64 (bestGo l n i b))
 | 0,i,b,T,hi,hb1,hb2,h0,h3,h6,h7,h8 => by
  have hd : decide ((i : Int) < (l.length : Nat)) = false:=by simp; omega
  obtain ⟨g,hg⟩ : ∃ g,g = againL C (some [0,3,6,7,8]) zil 0:=⟨_,rfl⟩
  rw [zam,← hg]
  simp +decide only [zil,hd,h0,h3,h6,h7,h8,Pk.EVO,Pk.EVDO,↓reduceIte]
  rw [hg]
  exact ⟨_,rfl,rfl⟩
 | n + 1, i, b, T, hi, hb1, hb2, h0, h3, h6, h7, h8 => by
  have hd : decide ((i : Int) < (l.length : Nat)) = true:=by simp; omega
  have hw : IntKind.i64.wrap ((i : Int) + 1) = ((i + 1 : Nat) : Int):=wi64 (by omega)
  have hp : (0 ≤ (i : Int)) = True:=by simp
  have hx:=zrj l i (by omega)
  obtain ⟨g,hg⟩ : ∃ g,g = againL C (some [0,3,6,7,8]) zil 0:=⟨_,rfl⟩
  simp only [bestGo]
  rw [zam,← hg]
  by_cases hneg : b < 0
  ·have hd2 : decide (b < 0) = true := decide_eq_true hneg
   rw [if_pos (Or.inl hneg)]
   simp +decide only [zil,hd,hd2,hw,hp,hx,h0,h3,h6,h7,h8,Pk.EVO,Pk.EVDO,↓reduceIte]
   rw [hg,zah]
   exact zes l hlen n (i + 1) _ _ (by omega) (by omega) (by omega) rfl rfl rfl rfl rfl
  ·have hd2 : decide (b < 0) = false := decide_eq_false hneg
   obtain ⟨c,rfl⟩ : ∃ c : Nat,b = c:=⟨b.toNat,by omega⟩
   have hy:=zrj l c (by omega)
   have hp2 : (0 ≤ (c : Int)) = True:=by simp
   by_cases hgt : l.getD i 0 > l.getD c 0
   ·have hd3 : decide (l.getD i 0 > l.getD c 0) = true := decide_eq_true hgt
    rw [if_pos (Or.inr (by simpa using hgt))]
    simp +decide only [zil,hd,hd2,hd3,hw,hp,hp2,hx,hy,h0,h3,h6,h7,h8,Pk.EVO,Pk.EVDO,↓reduceIte]
    rw [hg,zah]
    exact zes l hlen n (i + 1) _ _ (by omega) (by omega) (by omega) rfl rfl rfl rfl rfl
   ·have hd3 : decide (l.getD i 0 > l.getD c 0) = false := decide_eq_false hgt
    rw [if_neg (fun h => h.elim (fun h => by omega) (fun h => hgt (by simpa using h)))]
    simp +decide only [zil,hd,hd2,hd3,hw,hp,hp2,hx,hy,h0,h3,h6,h7,h8,Pk.EVO,Pk.EVDO,↓reduceIte]
    rw [hg,zah]
    exact zes l hlen n (i + 1) _ _ (by omega) (by omega) (by omega) rfl rfl rfl rfl rfl

theorem best_at (l : List Int) (hlen : l.length ≤ 4611686018427387904) : evF C F_q4e [.d (.sl (ints l))] [] = some (.d (.i .i64 (bestI l)),[]):=by
 rw [zaa (rfl : C F_q4e = some a_q4e) _ _ rfl]
 have hln : ((ints l).length : Int) = (l.length : Nat):=by simp [ints]
 simp +decide only [c_q4e,K_q4e_0,l_q4e_0,hln,Pk.EVO,Pk.EVDO,↓reduceIte]
 simp only [Option.bind_assoc]
 refine zbd (zes l hlen l.length 0 (-1) _ (by omega) (by omega) (by omega) rfl rfl rfl rfl rfl) ?_
 intro T' h3
 simp +decide only [h3,bestI,Pk.EVO,Pk.EVDO,↓reduceIte]
end
end Go.Proofs.YthlpognahlnaaaaGreat
