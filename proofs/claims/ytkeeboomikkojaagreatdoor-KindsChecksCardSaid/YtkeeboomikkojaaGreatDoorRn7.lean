import Derived.Test.YtkeeboomikkojaaGreatDoorRn6
namespace Go.Proofs.YtkeeboomikkojaaGreatDoor
open Go Go.Sx Go.Sx.Tk Go.Sx.Rn Go.Proofs.YtkeeboomikkojaaGreatDoor.Sx
theorem FM {x y:Ex}:x=y↔x.op=y.op∧x.nm=y.nm∧x.n=y.n∧x.l=y.l:=by
 cases x;cases y;simp [Ex.op,Ex.nm,Ex.n,Ex.l]
theorem eqB (a b:ByteArray):(a.toList==b.toList)=decide (a=b):=by
 rw [eqS,Qz];simp only [decide_eq_true_eq];exact ⟨bW,fun h=>by rw [h]⟩
theorem xU {α:Type}{l m:List α}{k:Nat}{x y:α}(hx:l[k]?=some x)(hy:m[k]?=some y)(hne:x≠y):l≠m:=fun h=>by
 rw [h,hy] at hx;exact hne (Z2 hx).symm
section
variable  {ω:Amb}
end
mutual
def stZ (pl:Bool):St→St
 |.mk d at_ a b t n e body els=>.mk d (if pl then at_ else 0) a b t n e (er pl body) (er pl els)
def er (pl:Bool):List St→List St
 |[]=>[]
 |x::r=>stZ pl x::er pl r
end
theorem sZ (pl:Bool):∀l:List St,er pl l=l.map (stZ pl)
 |[]=>rfl
 |x::r=>by simp only [er,List.map_cons,sZ pl r]
theorem uz {pl:Bool}{x y:St}:stZ pl x=stZ pl y↔x.d=y.d∧x.a=y.a∧x.b=y.b∧x.t=y.t∧x.n=y.n∧(pl=true→x.at_=y.at_)∧x.e=y.e∧er pl x.body=er pl y.body∧er pl x.els=er pl y.els:=by
 cases x;cases y;simp only [stZ,St.mk.injEq,St.d,St.a,St.b,St.t,St.n,St.at_,St.e,St.body,St.els]
 constructor
 ·rintro ⟨h1,h2,h3,h4,h5,h6,h7,h8,h9⟩;exact ⟨h1,h3,h4,h5,h6,fun hp=>by rw [hp] at h2;exact h2,h7,h8,h9⟩
 ·rintro ⟨h1,h3,h4,h5,h6,h2,h7,h8,h9⟩;refine ⟨h1,?_,h3,h4,h5,h6,h7,h8,h9⟩;cases pl with
  |false=>rfl
  |true=>exact h2 rfl
section
variable  {ω:Amb}
end
section
variable  {ω:Amb}
end
def sgZ (pl:Bool)(s:Sg):Sg:=⟨s.nm,if pl then s.at_ else 0,s.ps,er pl s.body⟩
def ml (pl:Bool)(p:List Sg):List Sg:=p.map (sgZ pl)
theorem yf {pl:Bool}{x y:Sg}:sgZ pl x=sgZ pl y↔x.nm=y.nm∧(pl=true→x.at_=y.at_)∧x.ps=y.ps∧er pl x.body=er pl y.body:=by
 cases x;cases y;simp only [sgZ,Sg.mk.injEq]
 constructor
 ·rintro ⟨h1,h2,h3,h4⟩;exact ⟨h1,fun hp=>by rw [hp] at h2;exact h2,h3,h4⟩
 ·rintro ⟨h1,h2,h3,h4⟩;refine ⟨h1,?_,h3,h4⟩;cases pl with
  |false=>rfl
  |true=>exact h2 rfl
theorem LO {a b:ByteArray×ByteArray}:(a.1.toList==b.1.toList&&(a.2.toList==b.2.toList&&true))=decide (a=b):=by
 rw [eqB,eqB,Qz];cases a;cases b;simp
section
variable  {ω:Amb}
end
theorem Small.nps {p:List Sg}(hs:Small p):∀s∈p,s.ps.length≤1000:=fun s h=>by have:=(hs.nm s h).2.1;omega
section
variable  {ω:Amb}
end
section
variable  {ω:Amb}
end
section
variable  {ω:Amb}
end
theorem SgS.max {h:Hp}{v:Value}{l:List Sg}(hs:SgS h v l):l.length≤9223372036854775807:=by
 obtain ⟨us,h1,_⟩:=hs;exact h1.2
section
variable  {ω:Amb}
end
end Go.Proofs.YtkeeboomikkojaaGreatDoor
