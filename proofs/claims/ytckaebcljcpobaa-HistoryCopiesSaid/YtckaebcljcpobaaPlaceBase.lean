/- Maps as lists of daemons; none moves of itself. -/
import Derived.Test.YtckaebcljcpobaaPlaceD
set_option linter.all false
namespace Go.Proofs.Ytckaebcljcpobaa
open Pv Go
set_option maxRecDepth 10000
set_option maxHeartbeats 1000000
def osL (m : Pk.Mp) : List Osd := [⟨m.osds.a0.up, m.osds.a0.weight, m.osds.a0.host⟩, ⟨m.osds.a1.up, m.osds.a1.weight, m.osds.a1.host⟩, ⟨m.osds.a2.up, m.osds.a2.weight, m.osds.a2.host⟩, ⟨m.osds.a3.up, m.osds.a3.weight, m.osds.a3.host⟩, ⟨m.osds.a4.up, m.osds.a4.weight, m.osds.a4.host⟩]
end Go.Proofs.Ytckaebcljcpobaa
