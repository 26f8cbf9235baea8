/- The program's structures as arguments. Printed by gen_types.py. -/
import Derived.Test.YtlihpaegaikoeaaDoorPkCodA
set_option linter.all false
namespace Pk
open Pv Go
theorem Osd.cod {P : Program} {n : Nat} {t t0 t1 t2 : TypeId} {fs : Array Field} (ht : P.underlying t = some (.struct fs)) (hf : fs.toList.map (·.type) = [t0, t1, t2])
    (c0 : Cod P n t0 (fun x : Bool => .b x) (fun x : Bool => [.b x]) (fun x : Bool => True))
    (c1 : Cod P n t1 (fun x : Int => .i .i64 x) (fun x : Int => [.i .i64 x]) (fun x : Int => (-9223372036854775808 ≤ x ∧ x ≤ 9223372036854775807)))
    (c2 : Cod P n t2 (fun x : Int => .i .u8 x) (fun x : Int => [.i .u8 x]) (fun x : Int => (0 ≤ x ∧ x < 256))) :
    Cod P (n + 1) t Osd.d Osd.cs Osd.ok := by
  intro ds h
  have hp : pack P t ds = .agg ds := by simp [pack, ht]
  have h' : ShapeT (Shape P n) [t0, t1, t2] ds := by rw [← hf]; exact shapeT_of (by simpa [Shape, ht] using h)
  clear h
  obtain ⟨a0, b0, rfl, h0, a1, b1, rfl, h1, a2, b2, rfl, h2, rfl⟩ := h'
  obtain ⟨x0, rfl, -, o0⟩ := c0 _ h0
  obtain ⟨x1, rfl, -, o1⟩ := c1 _ h1
  obtain ⟨x2, rfl, -, o2⟩ := c2 _ h2
  have e : [.b x0] ++ ([.i .i64 x1] ++ ([.i .u8 x2] ++ [])) = Osd.cs ⟨x0, x1, x2⟩ := by simp [Osd.cs]
  exact ⟨⟨x0, x1, x2⟩, e, by rw [hp, e]; rfl, ⟨o1, o2⟩⟩

theorem Mp.cod {P : Program} {n : Nat} {t t0 t1 : TypeId} {fs : Array Field} (ht : P.underlying t = some (.struct fs)) (hf : fs.toList.map (·.type) = [t0, t1])
    (c0 : Cod P n t0 (fun x : Int => .i .u32 x) (fun x : Int => [.i .u32 x]) (fun x : Int => (0 ≤ x ∧ x < 4294967296)))
    (c1 : Cod P n t1 (fun x : R5 Osd => .agg (R5.cs Osd.cs x)) (fun x : R5 Osd => R5.cs Osd.cs x) (fun x : R5 Osd => (Osd.ok x.a0 ∧ Osd.ok x.a1 ∧ Osd.ok x.a2 ∧ Osd.ok x.a3 ∧ Osd.ok x.a4))) :
    Cod P (n + 1) t Mp.d Mp.cs Mp.ok := by
  intro ds h
  have hp : pack P t ds = .agg ds := by simp [pack, ht]
  have h' : ShapeT (Shape P n) [t0, t1] ds := by rw [← hf]; exact shapeT_of (by simpa [Shape, ht] using h)
  clear h
  obtain ⟨a0, b0, rfl, h0, a1, b1, rfl, h1, rfl⟩ := h'
  obtain ⟨x0, rfl, -, o0⟩ := c0 _ h0
  obtain ⟨x1, rfl, -, o1⟩ := c1 _ h1
  have e : [.i .u32 x0] ++ (R5.cs Osd.cs x1 ++ []) = Mp.cs ⟨x0, x1⟩ := by simp [Mp.cs]
  exact ⟨⟨x0, x1⟩, e, by rw [hp, e]; rfl, ⟨o0, o1⟩⟩

theorem Inc.cod {P : Program} {n : Nat} {t t0 t1 t2 : TypeId} {fs : Array Field} (ht : P.underlying t = some (.struct fs)) (hf : fs.toList.map (·.type) = [t0, t1, t2])
    (c0 : Cod P n t0 (fun x : Int => .i .u8 x) (fun x : Int => [.i .u8 x]) (fun x : Int => (0 ≤ x ∧ x < 256)))
    (c1 : Cod P n t1 (fun x : Int => .i .u8 x) (fun x : Int => [.i .u8 x]) (fun x : Int => (0 ≤ x ∧ x < 256)))
    (c2 : Cod P n t2 (fun x : Int => .i .i64 x) (fun x : Int => [.i .i64 x]) (fun x : Int => (-9223372036854775808 ≤ x ∧ x ≤ 9223372036854775807))) :
    Cod P (n + 1) t Inc.d Inc.cs Inc.ok := by
  intro ds h
  have hp : pack P t ds = .agg ds := by simp [pack, ht]
  have h' : ShapeT (Shape P n) [t0, t1, t2] ds := by rw [← hf]; exact shapeT_of (by simpa [Shape, ht] using h)
  clear h
  obtain ⟨a0, b0, rfl, h0, a1, b1, rfl, h1, a2, b2, rfl, h2, rfl⟩ := h'
  obtain ⟨x0, rfl, -, o0⟩ := c0 _ h0
  obtain ⟨x1, rfl, -, o1⟩ := c1 _ h1
  obtain ⟨x2, rfl, -, o2⟩ := c2 _ h2
  have e : [.i .u8 x0] ++ ([.i .u8 x1] ++ ([.i .i64 x2] ++ [])) = Inc.cs ⟨x0, x1, x2⟩ := by simp [Inc.cs]
  exact ⟨⟨x0, x1, x2⟩, e, by rw [hp, e]; rfl, ⟨o0, o1, o2⟩⟩

theorem Opr.cod {P : Program} {n : Nat} {t t0 t1 t2 t3 t4 t5 : TypeId} {fs : Array Field} (ht : P.underlying t = some (.struct fs)) (hf : fs.toList.map (·.type) = [t0, t1, t2, t3, t4, t5])
    (c0 : Cod P n t0 (fun x : Int => .i .u8 x) (fun x : Int => [.i .u8 x]) (fun x : Int => (0 ≤ x ∧ x < 256)))
    (c1 : Cod P n t1 (fun x : Int => .i .u32 x) (fun x : Int => [.i .u32 x]) (fun x : Int => (0 ≤ x ∧ x < 4294967296)))
    (c2 : Cod P n t2 (fun x : Int => .i .u8 x) (fun x : Int => [.i .u8 x]) (fun x : Int => (0 ≤ x ∧ x < 256)))
    (c3 : Cod P n t3 (fun x : Int => .i .u8 x) (fun x : Int => [.i .u8 x]) (fun x : Int => (0 ≤ x ∧ x < 256)))
    (c4 : Cod P n t4 (fun x : Int => .i .u8 x) (fun x : Int => [.i .u8 x]) (fun x : Int => (0 ≤ x ∧ x < 256)))
    (c5 : Cod P n t5 (fun x : ByteArray => .s x) (fun x : ByteArray => [.s x]) (fun x : ByteArray => (x.size ≤ maxLen))) :
    Cod P (n + 1) t Opr.d Opr.cs Opr.ok := by
  intro ds h
  have hp : pack P t ds = .agg ds := by simp [pack, ht]
  have h' : ShapeT (Shape P n) [t0, t1, t2, t3, t4, t5] ds := by rw [← hf]; exact shapeT_of (by simpa [Shape, ht] using h)
  clear h
  obtain ⟨a0, b0, rfl, h0, a1, b1, rfl, h1, a2, b2, rfl, h2, a3, b3, rfl, h3, a4, b4, rfl, h4, a5, b5, rfl, h5, rfl⟩ := h'
  obtain ⟨x0, rfl, -, o0⟩ := c0 _ h0
  obtain ⟨x1, rfl, -, o1⟩ := c1 _ h1
  obtain ⟨x2, rfl, -, o2⟩ := c2 _ h2
  obtain ⟨x3, rfl, -, o3⟩ := c3 _ h3
  obtain ⟨x4, rfl, -, o4⟩ := c4 _ h4
  obtain ⟨x5, rfl, -, o5⟩ := c5 _ h5
  have e : [.i .u8 x0] ++ ([.i .u32 x1] ++ ([.i .u8 x2] ++ ([.i .u8 x3] ++ ([.i .u8 x4] ++ ([.s x5] ++ []))))) = Opr.cs ⟨x0, x1, x2, x3, x4, x5⟩ := by simp [Opr.cs]
  exact ⟨⟨x0, x1, x2, x3, x4, x5⟩, e, by rw [hp, e]; rfl, ⟨o0, o1, o2, o3, o4, o5⟩⟩

theorem Res.cod {P : Program} {n : Nat} {t t0 t1 : TypeId} {fs : Array Field} (ht : P.underlying t = some (.struct fs)) (hf : fs.toList.map (·.type) = [t0, t1])
    (c0 : Cod P n t0 (fun x : Int => .i .u8 x) (fun x : Int => [.i .u8 x]) (fun x : Int => (0 ≤ x ∧ x < 256)))
    (c1 : Cod P n t1 (fun x : ByteArray => .s x) (fun x : ByteArray => [.s x]) (fun x : ByteArray => (x.size ≤ maxLen))) :
    Cod P (n + 1) t Res.d Res.cs Res.ok := by
  intro ds h
  have hp : pack P t ds = .agg ds := by simp [pack, ht]
  have h' : ShapeT (Shape P n) [t0, t1] ds := by rw [← hf]; exact shapeT_of (by simpa [Shape, ht] using h)
  clear h
  obtain ⟨a0, b0, rfl, h0, a1, b1, rfl, h1, rfl⟩ := h'
  obtain ⟨x0, rfl, -, o0⟩ := c0 _ h0
  obtain ⟨x1, rfl, -, o1⟩ := c1 _ h1
  have e : [.i .u8 x0] ++ ([.s x1] ++ []) = Res.cs ⟨x0, x1⟩ := by simp [Res.cs]
  exact ⟨⟨x0, x1⟩, e, by rw [hp, e]; rfl, ⟨o0, o1⟩⟩

theorem Objt.cod {P : Program} {n : Nat} {t t0 t1 t2 : TypeId} {fs : Array Field} (ht : P.underlying t = some (.struct fs)) (hf : fs.toList.map (·.type) = [t0, t1, t2])
    (c0 : Cod P n t0 (fun x : Bool => .b x) (fun x : Bool => [.b x]) (fun x : Bool => True))
    (c1 : Cod P n t1 (fun x : ByteArray => .s x) (fun x : ByteArray => [.s x]) (fun x : ByteArray => (x.size ≤ maxLen)))
    (c2 : Cod P n t2 (fun x : R3 ByteArray => .agg (R3.cs (fun x => [.s x]) x)) (fun x : R3 ByteArray => R3.cs (fun x => [.s x]) x) (fun x : R3 ByteArray => ((x.a0.size ≤ maxLen) ∧ (x.a1.size ≤ maxLen) ∧ (x.a2.size ≤ maxLen)))) :
    Cod P (n + 1) t Objt.d Objt.cs Objt.ok := by
  intro ds h
  have hp : pack P t ds = .agg ds := by simp [pack, ht]
  have h' : ShapeT (Shape P n) [t0, t1, t2] ds := by rw [← hf]; exact shapeT_of (by simpa [Shape, ht] using h)
  clear h
  obtain ⟨a0, b0, rfl, h0, a1, b1, rfl, h1, a2, b2, rfl, h2, rfl⟩ := h'
  obtain ⟨x0, rfl, -, o0⟩ := c0 _ h0
  obtain ⟨x1, rfl, -, o1⟩ := c1 _ h1
  obtain ⟨x2, rfl, -, o2⟩ := c2 _ h2
  have e : [.b x0] ++ ([.s x1] ++ (R3.cs (fun x => [.s x]) x2 ++ [])) = Objt.cs ⟨x0, x1, x2⟩ := by simp [Objt.cs]
  exact ⟨⟨x0, x1, x2⟩, e, by rw [hp, e]; rfl, ⟨o1, o2⟩⟩

theorem Last.cod {P : Program} {n : Nat} {t t0 t1 : TypeId} {fs : Array Field} (ht : P.underlying t = some (.struct fs)) (hf : fs.toList.map (·.type) = [t0, t1])
    (c0 : Cod P n t0 (fun x : Int => .i .u32 x) (fun x : Int => [.i .u32 x]) (fun x : Int => (0 ≤ x ∧ x < 4294967296)))
    (c1 : Cod P n t1 Res.d Res.cs Res.ok) :
    Cod P (n + 1) t Last.d Last.cs Last.ok := by
  intro ds h
  have hp : pack P t ds = .agg ds := by simp [pack, ht]
  have h' : ShapeT (Shape P n) [t0, t1] ds := by rw [← hf]; exact shapeT_of (by simpa [Shape, ht] using h)
  clear h
  obtain ⟨a0, b0, rfl, h0, a1, b1, rfl, h1, rfl⟩ := h'
  obtain ⟨x0, rfl, -, o0⟩ := c0 _ h0
  obtain ⟨x1, rfl, -, o1⟩ := c1 _ h1
  have e : [.i .u32 x0] ++ (Res.cs x1 ++ []) = Last.cs ⟨x0, x1⟩ := by simp [Last.cs]
  exact ⟨⟨x0, x1⟩, e, by rw [hp, e]; rfl, ⟨o0, o1⟩⟩

theorem Base.cod {P : Program} {n : Nat} {t t0 t1 : TypeId} {fs : Array Field} (ht : P.underlying t = some (.struct fs)) (hf : fs.toList.map (·.type) = [t0, t1])
    (c0 : Cod P n t0 (fun x : R6 Objt => .agg (R6.cs Objt.cs x)) (fun x : R6 Objt => R6.cs Objt.cs x) (fun x : R6 Objt => (Objt.ok x.a0 ∧ Objt.ok x.a1 ∧ Objt.ok x.a2 ∧ Objt.ok x.a3 ∧ Objt.ok x.a4 ∧ Objt.ok x.a5)))
    (c1 : Cod P n t1 (fun x : R3 Last => .agg (R3.cs Last.cs x)) (fun x : R3 Last => R3.cs Last.cs x) (fun x : R3 Last => (Last.ok x.a0 ∧ Last.ok x.a1 ∧ Last.ok x.a2))) :
    Cod P (n + 1) t Base.d Base.cs Base.ok := by
  intro ds h
  have hp : pack P t ds = .agg ds := by simp [pack, ht]
  have h' : ShapeT (Shape P n) [t0, t1] ds := by rw [← hf]; exact shapeT_of (by simpa [Shape, ht] using h)
  clear h
  obtain ⟨a0, b0, rfl, h0, a1, b1, rfl, h1, rfl⟩ := h'
  obtain ⟨x0, rfl, -, o0⟩ := c0 _ h0
  obtain ⟨x1, rfl, -, o1⟩ := c1 _ h1
  have e : R6.cs Objt.cs x0 ++ (R3.cs Last.cs x1 ++ []) = Base.cs ⟨x0, x1⟩ := by simp [Base.cs]
  exact ⟨⟨x0, x1⟩, e, by rw [hp, e]; rfl, ⟨o0, o1⟩⟩

theorem Entry.cod {P : Program} {n : Nat} {t t0 t1 t2 : TypeId} {fs : Array Field} (ht : P.underlying t = some (.struct fs)) (hf : fs.toList.map (·.type) = [t0, t1, t2])
    (c0 : Cod P n t0 (fun x : Int => .i .u32 x) (fun x : Int => [.i .u32 x]) (fun x : Int => (0 ≤ x ∧ x < 4294967296)))
    (c1 : Cod P n t1 (fun x : Int => .i .u32 x) (fun x : Int => [.i .u32 x]) (fun x : Int => (0 ≤ x ∧ x < 4294967296)))
    (c2 : Cod P n t2 Opr.d Opr.cs Opr.ok) :
    Cod P (n + 1) t Entry.d Entry.cs Entry.ok := by
  intro ds h
  have hp : pack P t ds = .agg ds := by simp [pack, ht]
  have h' : ShapeT (Shape P n) [t0, t1, t2] ds := by rw [← hf]; exact shapeT_of (by simpa [Shape, ht] using h)
  clear h
  obtain ⟨a0, b0, rfl, h0, a1, b1, rfl, h1, a2, b2, rfl, h2, rfl⟩ := h'
  obtain ⟨x0, rfl, -, o0⟩ := c0 _ h0
  obtain ⟨x1, rfl, -, o1⟩ := c1 _ h1
  obtain ⟨x2, rfl, -, o2⟩ := c2 _ h2
  have e : [.i .u32 x0] ++ ([.i .u32 x1] ++ (Opr.cs x2 ++ [])) = Entry.cs ⟨x0, x1, x2⟩ := by simp [Entry.cs]
  exact ⟨⟨x0, x1, x2⟩, e, by rw [hp, e]; rfl, ⟨o0, o1, o2⟩⟩

theorem State.cod {P : Program} {n : Nat} {t t0 t1 t2 t3 : TypeId} {fs : Array Field} (ht : P.underlying t = some (.struct fs)) (hf : fs.toList.map (·.type) = [t0, t1, t2, t3])
    (c0 : Cod P n t0 (fun x : Int => .i .u32 x) (fun x : Int => [.i .u32 x]) (fun x : Int => (0 ≤ x ∧ x < 4294967296)))
    (c1 : Cod P n t1 Base.d Base.cs Base.ok)
    (c2 : Cod P n t2 Entry.d Entry.cs Entry.ok)
    (c3 : Cod P n t3 (fun x : List Entry => .sl (x.map Entry.d)) (fun x : List Entry => [.sl (x.map Entry.d)]) (fun x : List Entry => (x.length ≤ maxLen ∧ ∀ y ∈ x, Entry.ok y))) :
    Cod P (n + 1) t State.d State.cs State.ok := by
  intro ds h
  have hp : pack P t ds = .agg ds := by simp [pack, ht]
  have h' : ShapeT (Shape P n) [t0, t1, t2, t3] ds := by rw [← hf]; exact shapeT_of (by simpa [Shape, ht] using h)
  clear h
  obtain ⟨a0, b0, rfl, h0, a1, b1, rfl, h1, a2, b2, rfl, h2, a3, b3, rfl, h3, rfl⟩ := h'
  obtain ⟨x0, rfl, -, o0⟩ := c0 _ h0
  obtain ⟨x1, rfl, -, o1⟩ := c1 _ h1
  obtain ⟨x2, rfl, -, o2⟩ := c2 _ h2
  obtain ⟨x3, rfl, -, o3⟩ := c3 _ h3
  have e : [.i .u32 x0] ++ (Base.cs x1 ++ (Entry.cs x2 ++ ([.sl (x3.map Entry.d)] ++ []))) = State.cs ⟨x0, x1, x2, x3⟩ := by simp [State.cs]
  exact ⟨⟨x0, x1, x2, x3⟩, e, by rw [hp, e]; rfl, ⟨o0, o1, o2, o3⟩⟩

theorem Diff.cod {P : Program} {n : Nat} {t t0 t1 t2 t3 : TypeId} {fs : Array Field} (ht : P.underlying t = some (.struct fs)) (hf : fs.toList.map (·.type) = [t0, t1, t2, t3])
    (c0 : Cod P n t0 (fun x : Int => .i .i64 x) (fun x : Int => [.i .i64 x]) (fun x : Int => (-9223372036854775808 ≤ x ∧ x ≤ 9223372036854775807)))
    (c1 : Cod P n t1 (fun x : Int => .i .u32 x) (fun x : Int => [.i .u32 x]) (fun x : Int => (0 ≤ x ∧ x < 4294967296)))
    (c2 : Cod P n t2 (fun x : List Entry => .sl (x.map Entry.d)) (fun x : List Entry => [.sl (x.map Entry.d)]) (fun x : List Entry => (x.length ≤ maxLen ∧ ∀ y ∈ x, Entry.ok y)))
    (c3 : Cod P n t3 State.d State.cs State.ok) :
    Cod P (n + 1) t Diff.d Diff.cs Diff.ok := by
  intro ds h
  have hp : pack P t ds = .agg ds := by simp [pack, ht]
  have h' : ShapeT (Shape P n) [t0, t1, t2, t3] ds := by rw [← hf]; exact shapeT_of (by simpa [Shape, ht] using h)
  clear h
  obtain ⟨a0, b0, rfl, h0, a1, b1, rfl, h1, a2, b2, rfl, h2, a3, b3, rfl, h3, rfl⟩ := h'
  obtain ⟨x0, rfl, -, o0⟩ := c0 _ h0
  obtain ⟨x1, rfl, -, o1⟩ := c1 _ h1
  obtain ⟨x2, rfl, -, o2⟩ := c2 _ h2
  obtain ⟨x3, rfl, -, o3⟩ := c3 _ h3
  have e : [.i .i64 x0] ++ ([.i .u32 x1] ++ ([.sl (x2.map Entry.d)] ++ (State.cs x3 ++ []))) = Diff.cs ⟨x0, x1, x2, x3⟩ := by simp [Diff.cs]
  exact ⟨⟨x0, x1, x2, x3⟩, e, by rw [hp, e]; rfl, ⟨o0, o1, o2, o3⟩⟩

theorem Itv.cod {P : Program} {n : Nat} {t t0 t1 : TypeId} {fs : Array Field} (ht : P.underlying t = some (.struct fs)) (hf : fs.toList.map (·.type) = [t0, t1])
    (c0 : Cod P n t0 (fun x : Int => .i .u32 x) (fun x : Int => [.i .u32 x]) (fun x : Int => (0 ≤ x ∧ x < 4294967296)))
    (c1 : Cod P n t1 (fun x : List Int => .sl (x.map (fun x => .i .i64 x))) (fun x : List Int => [.sl (x.map (fun x => .i .i64 x))]) (fun x : List Int => (x.length ≤ maxLen ∧ ∀ y ∈ x, (-9223372036854775808 ≤ y ∧ y ≤ 9223372036854775807)))) :
    Cod P (n + 1) t Itv.d Itv.cs Itv.ok := by
  intro ds h
  have hp : pack P t ds = .agg ds := by simp [pack, ht]
  have h' : ShapeT (Shape P n) [t0, t1] ds := by rw [← hf]; exact shapeT_of (by simpa [Shape, ht] using h)
  clear h
  obtain ⟨a0, b0, rfl, h0, a1, b1, rfl, h1, rfl⟩ := h'
  obtain ⟨x0, rfl, -, o0⟩ := c0 _ h0
  obtain ⟨x1, rfl, -, o1⟩ := c1 _ h1
  have e : [.i .u32 x0] ++ ([.sl (x1.map (fun x => .i .i64 x))] ++ []) = Itv.cs ⟨x0, x1⟩ := by simp [Itv.cs]
  exact ⟨⟨x0, x1⟩, e, by rw [hp, e]; rfl, ⟨o0, o1⟩⟩

theorem Plan.cod {P : Program} {n : Nat} {t t0 t1 t2 : TypeId} {fs : Array Field} (ht : P.underlying t = some (.struct fs)) (hf : fs.toList.map (·.type) = [t0, t1, t2])
    (c0 : Cod P n t0 (fun x : Int => .i .i64 x) (fun x : Int => [.i .i64 x]) (fun x : Int => (-9223372036854775808 ≤ x ∧ x ≤ 9223372036854775807)))
    (c1 : Cod P n t1 (fun x : Bool => .b x) (fun x : Bool => [.b x]) (fun x : Bool => True))
    (c2 : Cod P n t2 (fun x : List Diff => .sl (x.map Diff.d)) (fun x : List Diff => [.sl (x.map Diff.d)]) (fun x : List Diff => (x.length ≤ maxLen ∧ ∀ y ∈ x, Diff.ok y))) :
    Cod P (n + 1) t Plan.d Plan.cs Plan.ok := by
  intro ds h
  have hp : pack P t ds = .agg ds := by simp [pack, ht]
  have h' : ShapeT (Shape P n) [t0, t1, t2] ds := by rw [← hf]; exact shapeT_of (by simpa [Shape, ht] using h)
  clear h
  obtain ⟨a0, b0, rfl, h0, a1, b1, rfl, h1, a2, b2, rfl, h2, rfl⟩ := h'
  obtain ⟨x0, rfl, -, o0⟩ := c0 _ h0
  obtain ⟨x1, rfl, -, o1⟩ := c1 _ h1
  obtain ⟨x2, rfl, -, o2⟩ := c2 _ h2
  have e : [.i .i64 x0] ++ ([.b x1] ++ ([.sl (x2.map Diff.d)] ++ [])) = Plan.cs ⟨x0, x1, x2⟩ := by simp [Plan.cs]
  exact ⟨⟨x0, x1, x2⟩, e, by rw [hp, e]; rfl, ⟨o0, o2⟩⟩

theorem Ans.cod {P : Program} {n : Nat} {t t0 t1 : TypeId} {fs : Array Field} (ht : P.underlying t = some (.struct fs)) (hf : fs.toList.map (·.type) = [t0, t1])
    (c0 : Cod P n t0 Opr.d Opr.cs Opr.ok)
    (c1 : Cod P n t1 Res.d Res.cs Res.ok) :
    Cod P (n + 1) t Ans.d Ans.cs Ans.ok := by
  intro ds h
  have hp : pack P t ds = .agg ds := by simp [pack, ht]
  have h' : ShapeT (Shape P n) [t0, t1] ds := by rw [← hf]; exact shapeT_of (by simpa [Shape, ht] using h)
  clear h
  obtain ⟨a0, b0, rfl, h0, a1, b1, rfl, h1, rfl⟩ := h'
  obtain ⟨x0, rfl, -, o0⟩ := c0 _ h0
  obtain ⟨x1, rfl, -, o1⟩ := c1 _ h1
  have e : Opr.cs x0 ++ (Res.cs x1 ++ []) = Ans.cs ⟨x0, x1⟩ := by simp [Ans.cs]
  exact ⟨⟨x0, x1⟩, e, by rw [hp, e]; rfl, ⟨o0, o1⟩⟩

theorem HStep.cod {P : Program} {n : Nat} {t t0 t1 t2 : TypeId} {fs : Array Field} (ht : P.underlying t = some (.struct fs)) (hf : fs.toList.map (·.type) = [t0, t1, t2])
    (c0 : Cod P n t0 (fun x : Bool => .b x) (fun x : Bool => [.b x]) (fun x : Bool => True))
    (c1 : Cod P n t1 (fun x : Int => .i .u32 x) (fun x : Int => [.i .u32 x]) (fun x : Int => (0 ≤ x ∧ x < 4294967296)))
    (c2 : Cod P n t2 Inc.d Inc.cs Inc.ok) :
    Cod P (n + 1) t HStep.d HStep.cs HStep.ok := by
  intro ds h
  have hp : pack P t ds = .agg ds := by simp [pack, ht]
  have h' : ShapeT (Shape P n) [t0, t1, t2] ds := by rw [← hf]; exact shapeT_of (by simpa [Shape, ht] using h)
  clear h
  obtain ⟨a0, b0, rfl, h0, a1, b1, rfl, h1, a2, b2, rfl, h2, rfl⟩ := h'
  obtain ⟨x0, rfl, -, o0⟩ := c0 _ h0
  obtain ⟨x1, rfl, -, o1⟩ := c1 _ h1
  obtain ⟨x2, rfl, -, o2⟩ := c2 _ h2
  have e : [.b x0] ++ ([.i .u32 x1] ++ (Inc.cs x2 ++ [])) = HStep.cs ⟨x0, x1, x2⟩ := by simp [HStep.cs]
  exact ⟨⟨x0, x1, x2⟩, e, by rw [hp, e]; rfl, ⟨o1, o2⟩⟩

theorem WStep.cod {P : Program} {n : Nat} {t t0 t1 t2 t3 : TypeId} {fs : Array Field} (ht : P.underlying t = some (.struct fs)) (hf : fs.toList.map (·.type) = [t0, t1, t2, t3])
    (c0 : Cod P n t0 (fun x : Int => .i .i64 x) (fun x : Int => [.i .i64 x]) (fun x : Int => (-9223372036854775808 ≤ x ∧ x ≤ 9223372036854775807)))
    (c1 : Cod P n t1 (fun x : Int => .i .u8 x) (fun x : Int => [.i .u8 x]) (fun x : Int => (0 ≤ x ∧ x < 256)))
    (c2 : Cod P n t2 State.d State.cs State.ok)
    (c3 : Cod P n t3 Ans.d Ans.cs Ans.ok) :
    Cod P (n + 1) t WStep.d WStep.cs WStep.ok := by
  intro ds h
  have hp : pack P t ds = .agg ds := by simp [pack, ht]
  have h' : ShapeT (Shape P n) [t0, t1, t2, t3] ds := by rw [← hf]; exact shapeT_of (by simpa [Shape, ht] using h)
  clear h
  obtain ⟨a0, b0, rfl, h0, a1, b1, rfl, h1, a2, b2, rfl, h2, a3, b3, rfl, h3, rfl⟩ := h'
  obtain ⟨x0, rfl, -, o0⟩ := c0 _ h0
  obtain ⟨x1, rfl, -, o1⟩ := c1 _ h1
  obtain ⟨x2, rfl, -, o2⟩ := c2 _ h2
  obtain ⟨x3, rfl, -, o3⟩ := c3 _ h3
  have e : [.i .i64 x0] ++ ([.i .u8 x1] ++ (State.cs x2 ++ (Ans.cs x3 ++ []))) = WStep.cs ⟨x0, x1, x2, x3⟩ := by simp [WStep.cs]
  exact ⟨⟨x0, x1, x2, x3⟩, e, by rw [hp, e]; rfl, ⟨o0, o1, o2, o3⟩⟩

end Pk
