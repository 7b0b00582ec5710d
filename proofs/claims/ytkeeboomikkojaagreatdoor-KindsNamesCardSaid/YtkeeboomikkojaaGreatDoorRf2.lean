import Derived.Test.YtkeeboomikkojaaGreatDoorRf1
import Derived.Test.YtkeeboomikkojaaGreatDoorRy2
import Derived.Test.YtkeeboomikkojaaGreatDoorRi1
import Derived.Test.YtkeeboomikkojaaGreatDoorRn7
import Derived.Test.YtkeeboomikkojaaGreatDoorYl
namespace Go.Proofs.YtkeeboomikkojaaGreatDoor
open Go Go.Sx Go.Sx.Tk Go.Sx.Rn Go.Proofs.YtkeeboomikkojaaGreatDoor.Sx
theorem OA {s:ByteArray}{p:List Sg}(h:PsO s (.ok p)):Small p∧∃n,bC p=.ok n:=by
 obtain ⟨_,ts,hsc,hpt,ho⟩:=h.okk;exact GF (fun t ht=>PU hsc ts rfl t ht) ho.len hpt
theorem EE {p:List Sg}(h:(cI p).1=0):∃n,bC p=.ok n:=by
 have h1:(ji (bC p)).1=0:=by
  unfold cI at h
  split at h
  ·assumption
  ·exact h
 exact (sH h1).2.2
theorem Gn {p:List Sg}{n:Int}(h:bC p=.ok n):cI p=if 12000 < (pgT p).length then (1,-1) else (0,0):=by
 unfold cI;rw [h];exact if_pos rfl
theorem Oi {p:List Sg}(h:(cI p).1=0):prS p=bs (pgT p):=by
 unfold prS;rw [if_pos h]
theorem L1 {p:List Sg}(h:(cI p).1=0):(prS p).size≤12000:=by
 rw [Oi h,←aH,aF];exact (x3 h).2.1
theorem Fp {p:List Sg}(h:(cI p).1=0):∃q,PsO (prS p) (.ok q)∧uk false q=uk false p:=by
 obtain ⟨n,hn⟩:=EE h;obtain ⟨ts,q,h1,h2,h3⟩:=Bm ((prS p).size:Int) hn;refine ⟨q,⟨ts,0,0,.inr (.inl ⟨L1 h,?_,rfl,rfl⟩),by rw [if_pos rfl,h2]⟩,h3⟩
 rw [Oi h,aF];exact h1
section
variable  {ω:Amb}
end
end Go.Proofs.YtkeeboomikkojaaGreatDoor
