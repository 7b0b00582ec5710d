import Derived.Test.YtkeeboomikkojaaGreatDoorSxStr
namespace Go.Sx
theorem aq {h:Hp}{b n:Nat}{cs:List Value}{t:TypeId}{f:Nat×Nat}(hb:h[b]?=some (.cells cs.toArray t f))(hl:cs.length=n):ak h ⟨b,0,none⟩ n cs :=
 ⟨hl,fun j v hv=>by rw [aT,Zb,br hb];simpa using hv⟩
theorem lx {h:Hp}{b j:Nat}{cs:List Value}{t:TypeId}{f:Nat×Nat}(hb:h[b]?=some (.cells cs.toArray t f)){u:Value}(hu:cs[j]?=some u){K:Value→Prop}(hk:K u) :
  ∃v,af h (Addr.add ⟨b,0,none⟩ j)=some v∧K v :=
 ⟨u,by rw [aT,Zb,br hb];simpa using hu,hk⟩
theorem lx' {h:Hp}{b j:Nat}{cs:List Value}{t:TypeId}{f:Nat×Nat}(hb:h[b]?=some (.cells cs.toArray t f)){u:Value}(hu:cs[j]?=some u) :
 af h (Addr.add ⟨b,0,none⟩ j)=some u:=by rw [aT,Zb,br hb];simpa using hu
theorem iS {α:Type}{xs:List α}{j:Nat}{x:α}(hx:xs[j]?=some x):xs.drop j=x::xs.drop (j+1):=by
 obtain ⟨hl,rfl⟩:=Q6.1 hx;exact Q4 hl
theorem rp {h:Hp}{base n sz:Nat}{t:TypeId}{v:Value}{ys:List Value}(ho:cI h base t sz v n ys):one v:=by
 rcases ho.shape with ⟨rfl,_,_⟩|⟨_,_,_,rfl,_⟩<;>rfl
theorem CK {h:Hp}{base n sz:Nat}{t:TypeId}{v:Value}{ys:List Value}(ho:cI h base t sz v n ys):v=.slice none 0 0∨∃a l c,v=.slice (some a) l c:=by
 rcases ho.2 with ⟨rfl,_⟩|⟨_,_,_,_,rfl,_⟩
 ·exact .inl rfl
 ·exact .inr ⟨_,_,_,rfl⟩
theorem cI.more {h h':Hp}{base n sz:Nat}{t:TypeId}{v:Value}{ys:List Value}(ho:cI h base t sz v n ys)(hk:KF h h'):cI h' base t sz v n ys :=
 ho.aE fun k _ hlt=>hk.block k hlt (by simp)
def DJ (h:Hp)(S:Nat→Prop)(T:TypeId→Prop):Prop:=∀k,S k→∃c t,h[k]?=some (.cells c t (0,0))∧T t
theorem DJ.own {h:Hp}{base n sz:Nat}{t:TypeId}{v:Value}{ys:List Value}(ho:cI h base t sz v n ys):DJ h (fun k=>v.ownBlock=some k) (fun t'=>t'=t):=fun k hk=>by
 obtain ⟨c,hc⟩:=ho.blk hk;exact ⟨c,t,hc,rfl⟩
theorem DJ.blk {h:Hp}{b:Nat}{c:Array Value}{t:TypeId}(hb:h[b]?=some (.cells c t (0,0))):DJ h (fun k=>k=b) (fun t'=>t'=t):=fun k hk=>by
 subst hk;exact ⟨c,t,hb,rfl⟩
theorem DJ.not {h:Hp}{S:Nat→Prop}{T:TypeId→Prop}(a:DJ h S T){k:Nat}{c:Array Value}{t:TypeId}{f:Nat×Nat}(hb:h[k]?=some (.cells c t f))(hn:¬T t):¬S k:=fun hk=>by
 obtain ⟨c',t',h1,h2⟩:=a k hk;rw [hb] at h1;cases h1;exact hn h2
theorem cI.DC {h h':Hp}{base n sz:Nat}{t:TypeId}{v:Value}{ys:List Value}(ho:cI h base t sz v n ys){S:Nat→Prop}{T:TypeId→Prop}(hk:ay S h h')(hT:DJ h S T)(hn:¬T t):cI h' base t sz v n ys :=
 ho.aE fun k hk' hlt=>hk.block k hlt (by
  obtain ⟨c,hc⟩:=ho.blk hk';exact hT.not hc hn)
theorem bP.rdTa {α:Type}{f:α→List Value}{sz:Nat}{h:Hp}{v:Value}{es:List α}(hs:bP h sz v es.length (es.flatMap f))(hf:∀e,(f e).length=sz){i o:Nat}{e:α}(hi:es[i]?=some e){u:Value}(hu:(f e)[o]?=some u){K:Addr→Value→Prop}
  (hk:∀a,af h (Addr.add (Addr.add a (Int.toNat (i:Int)*sz)) o)=some u→K a u) :
  aO v fun a l _=>0≤(i:Int)∧(i:Int) < (l:Int)∧∃w,af h (Addr.add (Addr.add a (Int.toNat (i:Int)*sz)) o)=some w∧K a w:=by
 have hl:=(Q6.1 hi).1;have ho:o < sz:=by rw [←hf e];exact (Q6.1 hu).1
 rcases hs.2 with ⟨h0,_⟩|⟨b,p,cap,rfl,hc⟩
 ·omega
 ·have:af h (Addr.add (Addr.add ⟨b,p,none⟩ (Int.toNat (i:Int)*sz)) o)=some u:=by
   rw [aT,aT,Qm,Nat.add_assoc];exact hc _ u (by rw [yu hf hi ho];exact hu)
  exact ⟨by omega,by omega,u,this,hk _ this⟩
theorem Ka (ω:Amb)(h:Hp)(d n:Nat):({ heap:=h,tape:=ω.tape,drawn:=ω.low+d+n,os:=ω.os,output:=ω.output }:World)=W ω h (d+n):=by
 unfold W;rw [Nat.add_assoc]
end Go.Sx
