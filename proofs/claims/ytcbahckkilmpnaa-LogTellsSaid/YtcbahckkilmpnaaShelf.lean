/-
  DERIVED: THE SHELF's CONTRACTS AT THIS DUMP, IN PLAIN WORDS (tools/lay-plain.mjs out of 'TryShelf.lean', which tools/lay-shelf.mjs wrote): THE SAME DECLARATIONS UNDER THE SAME NAMES: 'import', 'namespace', 'open', 'def', 'theorem' AND NOTHING ELSE: no command of the shelf's: FOR A HAND-IN. Each laying: the table of numbers ('.._ren') and one theorem, a field a fact of the dump's own or the kernel's comparison; each contract: ONE APPLICATION.
-/
import Derived.Shelf.Strings.Builder1
import Derived.Shelf.Strings.Builder2
import Derived.Shelf.Strings.BuilderF
import Derived.Shelf.Strings.Prefix
import Derived.Shelf.Bits.Mul64
import Derived.Shelf.Strings.Repeat
import Derived.Test.YtcbahckkilmpnaaProg
set_option linter.all false
namespace Go.Proofs
open Go.Shelf
def Try.lays105_ren : Go.Shelf.Ren := ⟨fun | 105 => 59 | 212 => 60 | 99 => 61 | 165 => 62 | 166 => 63 | 170 => 64 | 169 => 65 | 263 => 66 | 264 => 67 | 206 => 68 | 240 => 69 | 241 => 70 | 276 => 71 | 277 => 72 | n => n, fun | 9 => 9 | 3 => 3 | 4 => 4 | 20 => 20 | 0 => 0 | 46 => 96 | 109 => 97 | 5 => 5 | 72 => 102 | 76 => 106 | 51 => 23 | 146 => 48 | 53 => 111 | 148 => 112 | 70 => 100 | 37 => 59 | 75 => 105 | 127 => 114 | 164 => 115 | 80 => 109 | n => n, fun | n => n⟩
theorem Try.lays105 : Go.Proofs.Lays.n105 Try.prog Try.lays105_ren := {
  mixed := by kernel_rfl
  f99 := Try.func61.trans (congrArg some (by kernel_rfl))
  f105 := Try.func59.trans (congrArg some (by kernel_rfl))
  f165 := Try.func62.trans (congrArg some (by kernel_rfl))
  f166 := Try.func63.trans (congrArg some (by kernel_rfl))
  f169 := Try.func65.trans (congrArg some (by kernel_rfl))
  f170 := Try.func64.trans (congrArg some (by kernel_rfl))
  f206 := Try.func68.trans (congrArg some (by kernel_rfl))
  f212 := Try.func60.trans (congrArg some (by kernel_rfl))
  f240 := Try.func69.trans (congrArg some (by kernel_rfl))
  f241 := Try.func70.trans (congrArg some (by kernel_rfl))
  f263 := Try.func66.trans (congrArg some (by kernel_rfl))
  f264 := Try.func67.trans (congrArg some (by kernel_rfl))
  f276 := Try.func71.trans (congrArg some (by kernel_rfl))
  f277 := Try.func72.trans (congrArg some (by kernel_rfl))
  t0 := Try.underlying0
  a0 := Try.isAgg0
  z0 := Try.sizeOf0
  v0 := Try.zeroValue0
  t3 := Try.underlying3
  a3 := Try.isAgg3
  z3 := Try.sizeOf3
  v3 := Try.zeroValue3
  t4 := Try.underlying4
  a4 := Try.isAgg4
  z4 := Try.sizeOf4
  v4 := Try.zeroValue4
  t5 := Try.underlying5
  a5 := Try.isAgg5
  z5 := Try.sizeOf5
  v5 := Try.zeroValue5
  t9 := Try.underlying9
  a9 := Try.isAgg9
  z9 := Try.sizeOf9
  v9 := Try.zeroValue9
  t20 := Try.underlying20
  a20 := Try.isAgg20
  z20 := Try.sizeOf20
  v20 := Try.zeroValue20
  t37 := Try.underlying59
  a37 := Try.isAgg59
  z37 := Try.sizeOf59
  v37 := Try.zeroValue59
  t46 := Try.underlying96
  a46 := Try.isAgg96
  z46 := Try.sizeOf96
  v46 := Try.zeroValue96
  t51 := Try.underlying23
  a51 := Try.isAgg23
  z51 := Try.sizeOf23
  v51 := Try.zeroValue23
  t53 := Try.underlying111
  a53 := Try.isAgg111
  z53 := Try.sizeOf111
  v53 := Try.zeroValue111
  t70 := Try.underlying100
  a70 := Try.isAgg100
  z70 := Try.sizeOf100
  v70 := Try.zeroValue100
  t72 := Try.underlying102
  a72 := Try.isAgg102
  z72 := Try.sizeOf102
  v72 := Try.zeroValue102
  t75 := Try.underlying105
  a75 := Try.isAgg105
  z75 := Try.sizeOf105
  v75 := Try.zeroValue105
  t76 := Try.underlying106
  a76 := Try.isAgg106
  z76 := Try.sizeOf106
  v76 := Try.zeroValue106
  t109 := Try.underlying97
  a109 := Try.isAgg97
  z109 := Try.sizeOf97
  v109 := Try.zeroValue97
  t127 := Try.underlying114
  a127 := Try.isAgg114
  z127 := Try.sizeOf114
  v127 := Try.zeroValue114
  t146 := Try.underlying48
  a146 := Try.isAgg48
  z146 := Try.sizeOf48
  v146 := Try.zeroValue48
  t148 := Try.underlying112
  a148 := Try.isAgg112
  z148 := Try.sizeOf112
  v148 := Try.zeroValue112
  t164 := Try.underlying115
  a164 := Try.isAgg115
  z164 := Try.sizeOf115
  v164 := Try.zeroValue115 }
theorem Try.Builder_Extra_105 : Builder.Extra Try.prog Try.lays105_ren := {
  sizeBuilder := by kernel_rfl
  liesBuilder := by kernel_rfl
  t5 := Try.underlying5
  a5 := Try.isAgg5
  z5 := Try.sizeOf5
  v5 := Try.zeroValue5
  infoByte := by kernel_rfl
  cellsByte := by kernel_rfl
  sizeByte := by kernel_rfl
  neB5 := by decide }
open Go.RowKit Go.Lib in
/-- **strings.Repeat: count ≥ 0, the result within one allocation: count copies of s.** (LAID: no walk: one application.) -/
theorem Try.strings_Repeat (s : ByteArray) (c : Nat) (w : World) (hc : c ≤ 9223372036854775807) (hlen : s.size * c ≤ 140737488355328) :
    Calls Try.prog 59 #[.string s, .int .i64 c] w fun e w' => e = .returned (.string ⟨(Lib.repeatL s.data.toList c).toArray⟩) ∧ Below w.heap.size w w' := Any.strings_Repeat Try.lays105 Try.Builder_Extra_105 s c w hc hlen
end Go.Proofs
