/- The library, over this program: tables of numbers, and each body compared by the kernel. -/
import Derived.Shelf.Strconv.Itoa4
import Derived.Shelf.Strings.BuilderK
import Derived.Shelf.Strings.Repeat
import Derived.KernelRfl
import Derived.Test.YtaehnpilebkcoaaDoorProg
set_option maxRecDepth 100000
namespace Go.Proofs.YtaehnpilebkcoaaDoor
open Go Go.Shelf Go.Proofs
end Go.Proofs.YtaehnpilebkcoaaDoor
