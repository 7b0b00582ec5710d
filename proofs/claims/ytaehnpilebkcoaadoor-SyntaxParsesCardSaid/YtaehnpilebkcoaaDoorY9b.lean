/- Formulas of the functions' texts, written by a program of ours; each is checked by the kernel. -/
import Derived.Test.YtaehnpilebkcoaaDoorSxCore
import Derived.KernelRfl
import Derived.Test.YtaehnpilebkcoaaDoorProg
set_option linter.unusedVariables false
set_option maxRecDepth 100000
namespace Go.Proofs.YtaehnpilebkcoaaDoor.Sx
open Go Go.Sx Go.Proofs

end Go.Proofs.YtaehnpilebkcoaaDoor.Sx
