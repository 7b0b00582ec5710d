import Derived.Test.YtkeeboomikkojaaGreatDoorVb
import Derived.Test.YtkeeboomikkojaaGreatDoorYk
import Derived.Test.YtkeeboomikkojaaGreatDoorExA
namespace Go.Proofs.YtkeeboomikkojaaGreatDoor
open Go Go.Sx Go.Sx.Tk Go.Sx.Rn Go.Proofs.YtkeeboomikkojaaGreatDoor.Sx
section
variable  {ω:Amb}{T:TypeId}{h0:Hp}{C:Nat}{pv nv bv:Value}{st a:Int}
end
section
variable  {ω:Amb}{T:TypeId}{h0:Hp}{C:Nat}{pv nv bv:Value}{st a:Int}
end
section
variable  {ω:Amb}{T:TypeId}{h0:Hp}{C:Nat}{pv nv bv:Value}{st a:Int}
theorem uI {f:Int×Int}(h:f.1≠0)(env:List Vr)(at_:Int):(∀x:Ex,sU env at_ x f=f)∧∀l:List Ex,ir env at_ l f=f:=by
 have hH:∀x:Ex,lF env at_ x f=f:=fun x=>by
  unfold lF
  split
  ·exact yQ h _ _ _ _
  ·rfl
 have:∀N,(∀x:Ex,exN x < N→sU env at_ x f=f)∧∀l:List Ex,bV l < N→ir env at_ l f=f:=by
  intro N
  induction N with
  |zero=>exact ⟨fun x hN=>absurd hN (Nat.not_lt_zero _),fun x hN=>absurd hN (Nat.not_lt_zero _)⟩
  |succ N ih =>
   have h1:∀x:Ex,exN x < N+1→sU env at_ x f=f:=fun x hN=>by
    have:=fZ x;rw [sy,hH];exact ih.2 x.l (by omega)
   refine ⟨h1,fun l=>?_⟩
   induction l with
   |nil=>intro _;unfold ir;rfl
   |cons y r ihr =>
    intro hN;unfold bV at hN;unfold ir;rw [h1 y (by omega)]
    exact ihr (by omega)
 exact ⟨fun x=>(this (exN x+1)).1 x (Nat.lt_succ_self _),fun l=>(this (bV l+1)).2 l (Nat.lt_succ_self _)⟩
end
section
variable  {ω:Amb}{T:TypeId}{h0:Hp}{C:Nat}{pv nv bv:Value}{a:Int}
end
section
variable  {ω:Amb}{T:TypeId}{h0:Hp}{C:Nat}{pv nv bv:Value}{st a:Int}
end
mutual
theorem Hs (ab:List Sg):∀(x:St) {env bd:List Vr} {m:Int} {q:List Vr×Int},kst ab x env bd m=.ok q→∃t,q.1=bd++t
 |.mk d at_ a b t n e body els,env,bd,m,q,h=>by
  unfold kst at h
  split at h
  ·cases h
  split at h
  ·cases h
  obtain ⟨b1,m1,h1,h2⟩:=fg h;obtain ⟨t1,e1⟩:=gm ab body h1;obtain ⟨t2,e2⟩:=gm ab els h2;have e1:b1=_:=e1;exact ⟨_,by rw [e2,e1,List.append_assoc,List.append_assoc]⟩
theorem gm (ab:List Sg):∀(l:List St) {env bd:List Vr} {m:Int} {q:List Vr×Int},fW ab l env bd m=.ok q→∃t,q.1=bd++t
 |[],_,_,_,_,h=>by
  unfold fW at h;cases h;exact ⟨[],by simp⟩
 |x::r,env,bd,m,q,h=>by
  unfold fW at h;obtain ⟨b1,m1,h1,h2⟩:=fg h;obtain ⟨t1,e1⟩:=Hs ab x h1;obtain ⟨t2,e2⟩:=gm ab r h2;have e1:b1=_:=e1;exact ⟨_,by rw [e2,e1,List.append_assoc]⟩
end
section
variable  {ω:Amb}{T:TypeId}{h0:Hp}{C:Nat}{pv nv bv:Value}{st a:Int}
end
end Go.Proofs.YtkeeboomikkojaaGreatDoor
