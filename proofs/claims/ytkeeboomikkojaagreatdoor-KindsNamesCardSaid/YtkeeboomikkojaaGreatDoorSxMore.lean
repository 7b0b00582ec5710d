import Derived.Test.YtkeeboomikkojaaGreatDoorSxStr
namespace Go.Sx
theorem ak {h:Hp}{b n:Nat}{cs:List Value}{t:TypeId}{f:Nat×Nat}(hb:h[b]?=some (.cells cs.toArray t f))(hl:cs.length=n):aj h ⟨b,0,none⟩ n cs :=
 ⟨hl,fun j v hv=>by rw [aP,Zc,bi hb];simpa using hv⟩
theorem lx {h:Hp}{b j:Nat}{cs:List Value}{t:TypeId}{f:Nat×Nat}(hb:h[b]?=some (.cells cs.toArray t f)){u:Value}(hu:cs[j]?=some u){K:Value→Prop}(hk:K u) :
  ∃v,af h (Addr.add ⟨b,0,none⟩ j)=some v∧K v :=
 ⟨u,by rw [aP,Zc,bi hb];simpa using hu,hk⟩
theorem lx' {h:Hp}{b j:Nat}{cs:List Value}{t:TypeId}{f:Nat×Nat}(hb:h[b]?=some (.cells cs.toArray t f)){u:Value}(hu:cs[j]?=some u) :
 af h (Addr.add ⟨b,0,none⟩ j)=some u:=by rw [aP,Zc,bi hb];simpa using hu
theorem gT {α:Type}{xs:List α}{j:Nat}{x:α}(hx:xs[j]?=some x):xs.drop j=x::xs.drop (j+1):=by
 obtain ⟨hl,rfl⟩:=Q6.1 hx;exact Q4 hl
theorem EU {α:Type}{l:List α}{i j:Nat}{a x:α}(h:(l.set i a)[j]?=some x):(i=j∧x=a∧i < l.length)∨(i≠j∧l[j]?=some x):=by
 by_cases hij:i=j
 ·subst hij;have hl:=(Q6.1 h).1;rw [Z5] at hl;rw [List.getElem?_set_self hl] at h;cases h;exact .inl ⟨rfl,rfl,hl⟩
 ·rw [List.getElem?_set_ne hij] at h;exact .inr ⟨hij,h⟩
theorem tX {h:Hp}{base n sz:Nat}{t:TypeId}{v:Value}{ys:List Value}(ho:bX h base t sz v n ys):one v:=by
 rcases ho.shape with ⟨rfl,_,_⟩|⟨_,_,_,rfl,_⟩<;>rfl
theorem B0 {h:Hp}{base n sz:Nat}{t:TypeId}{v:Value}{ys:List Value}(ho:bX h base t sz v n ys):v=.slice none 0 0∨∃a l c,v=.slice (some a) l c:=by
 rcases ho.2 with ⟨rfl,_⟩|⟨_,_,_,_,rfl,_⟩
 ·exact .inl rfl
 ·exact .inr ⟨_,_,_,rfl⟩
theorem bX.more {h h':Hp}{base n sz:Nat}{t:TypeId}{v:Value}{ys:List Value}(ho:bX h base t sz v n ys)(hk:KF h h'):bX h' base t sz v n ys :=
 ho.aC fun k _ hlt=>hk.block k hlt (by simp)
def EA (h:Hp)(S:Nat→Prop)(T:TypeId→Prop):Prop:=∀k,S k→∃c t,h[k]?=some (.cells c t (0,0))∧T t
theorem EA.own {h:Hp}{base n sz:Nat}{t:TypeId}{v:Value}{ys:List Value}(ho:bX h base t sz v n ys):EA h (fun k=>v.ownBlock=some k) (fun t'=>t'=t):=fun k hk=>by
 obtain ⟨c,hc⟩:=ho.blk hk;exact ⟨c,t,hc,rfl⟩
theorem EA.blk {h:Hp}{b:Nat}{c:Array Value}{t:TypeId}(hb:h[b]?=some (.cells c t (0,0))):EA h (fun k=>k=b) (fun t'=>t'=t):=fun k hk=>by
 subst hk;exact ⟨c,t,hb,rfl⟩
theorem EA.not {h:Hp}{S:Nat→Prop}{T:TypeId→Prop}(a:EA h S T){k:Nat}{c:Array Value}{t:TypeId}{f:Nat×Nat}(hb:h[k]?=some (.cells c t f))(hn:¬T t):¬S k:=fun hk=>by
 obtain ⟨c',t',h1,h2⟩:=a k hk;rw [hb] at h1;cases h1;exact hn h2
theorem bX.Gb {h h':Hp}{base n sz:Nat}{t:TypeId}{v:Value}{ys:List Value}(ho:bX h base t sz v n ys){S:Nat→Prop}{T:TypeId→Prop}(hk:ar S h h')(hT:EA h S T)(hn:¬T t):bX h' base t sz v n ys :=
 ho.aC fun k hk' hlt=>hk.block k hlt (by
  obtain ⟨c,hc⟩:=ho.blk hk';exact hT.not hc hn)
theorem bm.rdTa {α:Type}{f:α→List Value}{sz:Nat}{h:Hp}{v:Value}{es:List α}(hs:bm h sz v es.length (es.flatMap f))(hf:∀e,(f e).length=sz){i o:Nat}{e:α}(hi:es[i]?=some e){u:Value}(hu:(f e)[o]?=some u){K:Addr→Value→Prop}
  (hk:∀a,af h (Addr.add (Addr.add a (Int.toNat (i:Int)*sz)) o)=some u→K a u) :
  aI v fun a l _=>0≤(i:Int)∧(i:Int) < (l:Int)∧∃w,af h (Addr.add (Addr.add a (Int.toNat (i:Int)*sz)) o)=some w∧K a w:=by
 have hl:=(Q6.1 hi).1;have ho:o < sz:=by rw [←hf e];exact (Q6.1 hu).1
 rcases hs.2 with ⟨h0,_⟩|⟨b,p,cap,rfl,hc⟩
 ·omega
 ·have:af h (Addr.add (Addr.add ⟨b,p,none⟩ (Int.toNat (i:Int)*sz)) o)=some u:=by
   rw [aP,aP,Qm,Nat.add_assoc];exact hc _ u (by rw [xS hf hi ho];exact hu)
  exact ⟨by omega,by omega,u,this,hk _ this⟩
theorem KV (ω:Amb)(h:Hp)(d n:Nat):({ heap:=h,tape:=ω.tape,drawn:=ω.low+d+n,os:=ω.os,output:=ω.output }:World)=W ω h (d+n):=by
 unfold W;rw [Nat.add_assoc]
end Go.Sx
