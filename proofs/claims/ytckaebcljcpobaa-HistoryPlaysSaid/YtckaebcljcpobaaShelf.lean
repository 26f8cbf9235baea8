/- maps.Clone's contract at this program. -/
import Derived.Shelf.SlMaps.Clone
import Derived.Test.YtckaebcljcpobaaProg
set_option linter.all false
namespace Go.Proofs.Ytckaebcljcpobaa
open Go Go.Shelf
def ren38 : Ren := ⟨fun | 5 => 38 | 7 => 49 | n => n, fun | 23 => 68 | 25 => 28 | 3 => 38 | 4 => 4 | 20 => 20 | n => n, fun n => n⟩
theorem lay38 : Go.Proofs.SlLaysW.n5 Try.prog ren38 :=
  { mixed := by kernel_rfl
    f5 := ⟨Try.f38.name, by decide, Try.func38.trans (congrArg some (by kernel_rfl))⟩
    f7 := Try.func49.trans (congrArg some (by kernel_rfl))
    t4 := Try.underlying4, a4 := Try.isAgg4, z4 := Try.sizeOf4, v4 := Try.zeroValue4
    t20 := Try.underlying20, a20 := Try.isAgg20, z20 := Try.sizeOf20, v20 := Try.zeroValue20
    t23 := Try.underlying68, a23 := Try.isAgg68, z23 := Try.sizeOf68, v23 := Try.zeroValue68 }
def ren39 : Ren := ⟨fun | 5 => 39 | 7 => 49 | n => n, fun | 23 => 69 | 25 => 28 | 3 => 31 | 4 => 4 | 20 => 20 | n => n, fun n => n⟩
theorem lay39 : Go.Proofs.SlLaysW.n5 Try.prog ren39 :=
  { mixed := by kernel_rfl
    f5 := ⟨Try.f39.name, by decide, Try.func39.trans (congrArg some (by kernel_rfl))⟩
    f7 := Try.func49.trans (congrArg some (by kernel_rfl))
    t4 := Try.underlying4, a4 := Try.isAgg4, z4 := Try.sizeOf4, v4 := Try.zeroValue4
    t20 := Try.underlying20, a20 := Try.isAgg20, z20 := Try.sizeOf20, v20 := Try.zeroValue20
    t23 := Try.underlying69, a23 := Try.isAgg69, z23 := Try.sizeOf69, v23 := Try.zeroValue69 }
end Go.Proofs.Ytckaebcljcpobaa
