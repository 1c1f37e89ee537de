/- Room, Rot, Lasting. -/
import Derived.Test.YtgigigchjnnonaaGreatDoorVFsE
import Derived.Test.YtgigigchjnnonaaGreatDoorVByt
set_option linter.unusedSimpArgs false
set_option linter.unusedVariables false
set_option maxRecDepth 20000
namespace Go.V
open Go
def lastD (s : St) (n : Nm) : List Int := match s.last n with | some x => (s.dat x).take (s.syn x) | none => []
end Go.V
namespace Go.Proofs.YtgigigchjnnonaaGreatDoor
open Go Go.V
end Go.Proofs.YtgigigchjnnonaaGreatDoor
