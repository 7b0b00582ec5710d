import Derived.Test.YtkeeboomikkojaaGreatDoorRf1
import Derived.Test.YtkeeboomikkojaaGreatDoorRy2
import Derived.Test.YtkeeboomikkojaaGreatDoorRi1
import Derived.Test.YtkeeboomikkojaaGreatDoorRn7
import Derived.Test.YtkeeboomikkojaaGreatDoorYl
namespace Go.Proofs.YtkeeboomikkojaaGreatDoor
open Go Go.Sx Go.Sx.Tk Go.Sx.Rn Go.Proofs.YtkeeboomikkojaaGreatDoor.Sx
theorem Nf {s:ByteArray}{p:List Sg}(h:PsO s (.ok p)):Small p∧∃n,bX p=.ok n:=by
 obtain ⟨_,ts,hsc,hpt,ho⟩:=h.okk;exact FC (fun t ht=>O8 hsc ts rfl t ht) ho.len hpt
theorem GR {p:List Sg}{n:Int}(h:bX p=.ok n):dF p=if 12000 < (pgT p).length then (1,-1) else (0,0):=by
 unfold dF;rw [h];exact if_pos rfl
section
variable  {ω:Amb}
end
end Go.Proofs.YtkeeboomikkojaaGreatDoor
