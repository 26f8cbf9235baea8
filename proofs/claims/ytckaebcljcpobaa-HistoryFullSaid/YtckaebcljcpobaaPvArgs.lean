/- A law's arguments, one by one. -/
import Derived.Test.YtckaebcljcpobaaPvBridge2
set_option linter.all false
namespace Pv
open Go
section
variable {P : Program} {n : Nat} {t e : TypeId} {r : List TypeId} {xs : List AV} {k : IntKind}
theorem arg_none (h : ArgsOk P n [] xs) : xs = [] := h
end
end Pv
