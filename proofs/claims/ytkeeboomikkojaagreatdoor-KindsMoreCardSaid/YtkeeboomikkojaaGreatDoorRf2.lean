import Derived.Test.YtkeeboomikkojaaGreatDoorRf1
import Derived.Test.YtkeeboomikkojaaGreatDoorRy2
import Derived.Test.YtkeeboomikkojaaGreatDoorRi1
import Derived.Test.YtkeeboomikkojaaGreatDoorRn7
import Derived.Test.YtkeeboomikkojaaGreatDoorYl
namespace Go.Proofs.YtkeeboomikkojaaGreatDoor
open Go Go.Sx Go.Sx.Tk Go.Sx.Rn Go.Proofs.YtkeeboomikkojaaGreatDoor.Sx
theorem Ic {s:ByteArray}{p:List Sg}(h:PsO s (.ok p)):Small p∧∃n,aV p=.ok n:=by
 obtain ⟨_,ts,hsc,hpt,ho⟩:=h.okk;exact Dk (fun t ht=>JE hsc ts rfl t ht) ho.len hpt
theorem BE {p:List Sg}(h:(bH p).1=0):∃n,aV p=.ok n:=by
 have h1:(gY (aV p)).1=0:=by
  unfold bH at h
  split at h
  ·assumption
  ·exact h
 exact (qI h1).2.2
theorem Bv {p:List Sg}{n:Int}(h:aV p=.ok n):bH p=if 12000 < (pgT p).length then (1,-1) else (0,0):=by
 unfold bH;rw [h];exact if_pos rfl
theorem Ig {p:List Sg}(h:(bH p).1=0):prS p=bs (pgT p):=by
 unfold prS;rw [if_pos h]
theorem Hf {p:List Sg}(h:(bH p).1=0):(prS p).size≤12000:=by
 rw [Ig h,←aC,aB];exact (yw h).2.1
theorem CP {p:List Sg}(h:(bH p).1=0):∃q,PsO (prS p) (.ok q)∧rT false q=rT false p:=by
 obtain ⟨n,hn⟩:=BE h;obtain ⟨ts,q,h1,h2,h3⟩:=yJ ((prS p).size:Int) hn;refine ⟨q,⟨ts,0,0,.inr (.inl ⟨Hf h,?_,rfl,rfl⟩),by rw [if_pos rfl,h2]⟩,h3⟩
 rw [Ig h,aB];exact h1
section
variable  {ω:Amb}
end
end Go.Proofs.YtkeeboomikkojaaGreatDoor
