import Derived.Test.YtkeeboomikkojaaGreatDoorSxCore
import Derived.KernelRfl
import Derived.Test.YtkeeboomikkojaaGreatDoorProg
set_option linter.unusedVariables false
set_option maxRecDepth 100000
namespace Go.Proofs.YtkeeboomikkojaaGreatDoor.Sx
open Go Go.Sx Go.Proofs
end Go.Proofs.YtkeeboomikkojaaGreatDoor.Sx
