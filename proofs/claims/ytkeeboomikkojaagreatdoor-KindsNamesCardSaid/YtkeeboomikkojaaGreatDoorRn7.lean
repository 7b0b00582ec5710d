import Derived.Test.YtkeeboomikkojaaGreatDoorRn6
namespace Go.Proofs.YtkeeboomikkojaaGreatDoor
open Go Go.Sx Go.Sx.Tk Go.Sx.Rn Go.Proofs.YtkeeboomikkojaaGreatDoor.Sx
theorem eqB (a b:ByteArray):(a.toList==b.toList)=decide (a=b):=by
 rw [eqS,Qz];simp only [decide_eq_true_eq];exact ⟨bG,fun h=>by rw [h]⟩
section
variable  {ω:Amb}
end
mutual
def stZ (pl:Bool):St→St
 |.mk d at_ a b t n e body els=>.mk d (if pl then at_ else 0) a b t n e (pd pl body) (pd pl els)
def pd (pl:Bool):List St→List St
 |[]=>[]
 |x::r=>stZ pl x::pd pl r
end
section
variable  {ω:Amb}
end
section
variable  {ω:Amb}
end
def sgZ (pl:Bool)(s:Sg):Sg:=⟨s.nm,if pl then s.at_ else 0,s.ps,pd pl s.body⟩
def uk (pl:Bool)(p:List Sg):List Sg:=p.map (sgZ pl)
theorem Mc {pl:Bool}{x y:Sg}:sgZ pl x=sgZ pl y↔x.nm=y.nm∧(pl=true→x.at_=y.at_)∧x.ps=y.ps∧pd pl x.body=pd pl y.body:=by
 cases x;cases y;simp only [sgZ,Sg.mk.injEq]
 constructor
 ·rintro ⟨h1,h2,h3,h4⟩;exact ⟨h1,fun hp=>by rw [hp] at h2;exact h2,h3,h4⟩
 ·rintro ⟨h1,h2,h3,h4⟩;refine ⟨h1,?_,h3,h4⟩;cases pl with
  |false=>rfl
  |true=>exact h2 rfl
section
variable  {ω:Amb}
end
def prS (p:List Sg):ByteArray:=if (cI p).1=0 then bs (pgT p) else ⟨#[]⟩
section
variable  {ω:Amb}
end
section
variable  {ω:Amb}
end
section
variable  {ω:Amb}
end
theorem SgS.max {h:Hp}{v:Value}{l:List Sg}(hs:SgS h v l):l.length≤9223372036854775807:=by
 obtain ⟨us,h1,_⟩:=hs;exact h1.2
section
variable  {ω:Amb}
end
end Go.Proofs.YtkeeboomikkojaaGreatDoor
