import Derived.Test.YtkeeboomikkojaaGreatDoorVb
import Derived.Test.YtkeeboomikkojaaGreatDoorYk
import Derived.Test.YtkeeboomikkojaaGreatDoorExA
namespace Go.Proofs.YtkeeboomikkojaaGreatDoor
open Go Go.Sx Go.Sx.Tk Go.Sx.Rn Go.Proofs.YtkeeboomikkojaaGreatDoor.Sx
section
variable  {ω:Amb}{T:TypeId}{h0:Hp}{C:Nat}{pv nv bv:Value}{st a:Int}
end
section
variable  {ω:Amb}{T:TypeId}{h0:Hp}{C:Nat}{pv nv bv:Value}{st a:Int}
end
section
variable  {ω:Amb}{T:TypeId}{h0:Hp}{C:Nat}{pv nv bv:Value}{st a:Int}
theorem xz {f:Int×Int}(h:f.1≠0)(env:List Vr)(at_:Int):(∀x:Ex,u6 env at_ x f=f)∧∀l:List Ex,jo env at_ l f=f:=by
 have hH:∀x:Ex,nt env at_ x f=f:=fun x=>by
  unfold nt
  split
  ·exact Bv h _ _ _ _
  ·rfl
 have:∀N,(∀x:Ex,exN x < N→u6 env at_ x f=f)∧∀l:List Ex,cw l < N→jo env at_ l f=f:=by
  intro N
  induction N with
  |zero=>exact ⟨fun x hN=>absurd hN (Nat.not_lt_zero _),fun x hN=>absurd hN (Nat.not_lt_zero _)⟩
  |succ N ih =>
   have h1:∀x:Ex,exN x < N+1→u6 env at_ x f=f:=fun x hN=>by
    have:=gA x;rw [uP,hH];exact ih.2 x.l (by omega)
   refine ⟨h1,fun l=>?_⟩
   induction l with
   |nil=>intro _;unfold jo;rfl
   |cons y r ihr =>
    intro hN;unfold cw at hN;unfold jo;rw [h1 y (by omega)]
    exact ihr (by omega)
 exact ⟨fun x=>(this (exN x+1)).1 x (Qw _),fun l=>(this (cw l+1)).2 l (Qw _)⟩
end
section
variable  {ω:Amb}{T:TypeId}{h0:Hp}{C:Nat}{pv nv bv:Value}{a:Int}
end
section
variable  {ω:Amb}{T:TypeId}{h0:Hp}{C:Nat}{pv nv bv:Value}{st a:Int}
end
mutual
theorem Mg (ab:List Sg):∀(x:St) {env bd:List Vr} {m:Int} {q:List Vr×Int},kst ab x env bd m=.ok q→∃t,q.1=bd++t
 |.mk d at_ a b t n e body els,env,bd,m,q,h=>by
  unfold kst at h
  split at h
  ·cases h
  split at h
  ·cases h
  obtain ⟨b1,m1,h1,h2⟩:=dv h;obtain ⟨t1,e1⟩:=eL ab body h1;obtain ⟨t2,e2⟩:=eL ab els h2;have e1:b1=_:=e1;exact ⟨_,by rw [e2,e1,Qk,Qk]⟩
theorem eL (ab:List Sg):∀(l:List St) {env bd:List Vr} {m:Int} {q:List Vr×Int},gX ab l env bd m=.ok q→∃t,q.1=bd++t
 |[],_,_,_,_,h=>by
  unfold gX at h;cases h;exact ⟨[],by simp⟩
 |x::r,env,bd,m,q,h=>by
  unfold gX at h;obtain ⟨b1,m1,h1,h2⟩:=dv h;obtain ⟨t1,e1⟩:=Mg ab x h1;obtain ⟨t2,e2⟩:=eL ab r h2;have e1:b1=_:=e1;exact ⟨_,by rw [e2,e1,Qk]⟩
end
section
variable  {ω:Amb}{T:TypeId}{h0:Hp}{C:Nat}{pv nv bv:Value}{st a:Int}
end
end Go.Proofs.YtkeeboomikkojaaGreatDoor
