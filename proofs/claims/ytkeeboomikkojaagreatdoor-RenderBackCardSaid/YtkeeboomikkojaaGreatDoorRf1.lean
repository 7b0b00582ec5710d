/- What is parsed has the shape of what may be printed: expressions, types, names. -/
import Derived.Test.YtkeeboomikkojaaGreatDoorRi1
import Derived.Test.YtkeeboomikkojaaGreatDoorRy2
import Derived.Test.YtkeeboomikkojaaGreatDoorRy1
import Derived.Test.YtkeeboomikkojaaGreatDoorRx4
namespace Go.Proofs.YtkeeboomikkojaaGreatDoor
open Go Go.Sx Go.Sx.Tk Go.Sx.Rn Go.Proofs.YtkeeboomikkojaaGreatDoor.Sx

/-- tokens as Scan tells them -/
def TsOk (l : List Tok) : Prop := ∀ t ∈ l, TkOk t
theorem TsOk.tail {l : List Tok} (h : TsOk l) : TsOk l.tail := fun t ht => h t (List.mem_of_mem_tail ht)
/-! ### statements -/
end Go.Proofs.YtkeeboomikkojaaGreatDoor

namespace Go.Proofs.YtkeeboomikkojaaGreatDoor
open Go Go.Sx Go.Sx.Tk Go.Sx.Rn Go.Proofs.YtkeeboomikkojaaGreatDoor.Sx

/-! ### a program that was parsed is not great -/
end Go.Proofs.YtkeeboomikkojaaGreatDoor
