import Derived.Test.YtkeeboomikkojaaGreatDoorSxUse
import Derived.ProofKit
import Derived.OpenShut
import Derived.Below
namespace Go.Sx
open Go.RowKit
theorem bm.H4 {h:Hp}{a:Addr}{n cap:Nat}{size:Nat}{xs:List Value}(hl:xs.length=n*size)(hs:0 < size)(hc:∀j u,xs[j]?=some u→af h (a.add j)=some u) :
  bm h size (.slice (some a) n cap) n xs:=by
 cases hn:n with
 |zero=>exact ⟨by rw [hl,hn],.inl ⟨rfl,_,_,rfl⟩⟩
 |succ m =>
  have hpos:0 < xs.length:=by rw [hl,hn];exact Nat.mul_pos (by omega) hs
  have h0:=hc 0 xs[0] (Q7 hpos);have hsp:a.spot=none:=by
   unfold af at h0;have ha:a.add 0=a:=by simp [Addr.add]
   rw [ha] at h0
   split at h0
   ·split at h0
    ·cases h0
    ·rename_i hsp;simpa using hsp
   ·cases h0
  obtain ⟨b,o,sp⟩:=a;simp only at hsp;subst hsp;refine ⟨by rw [hl,hn],.inr ⟨b,o,cap,rfl,fun j u hu=>?_⟩⟩
  have:=hc j u hu
  rwa [aP] at this
open Go.ChangeShapes in
theorem Bn {P:Program}{f:FuncId}{args:List Value}{w:World}
  (hc:∀ω:Amb,ω.low=0→aa P ω f args w.heap (fun v h'=>v=.bool true∧KF w.heap h') (fun _ _=>False)) :
  Calls P f args.toArray w fun e w'=>e=.returned (.bool true)∧Below w.heap.size w w':=by
 have:=hc ⟨w.tape,w.os,w.output,0⟩ rfl w.drawn;have hw:W ⟨w.tape,w.os,w.output,0⟩ w.heap w.drawn=w:=by
  cases w;unfold W;simp
 rw [hw] at this;refine this.mono fun e w' ⟨⟨d,hd⟩,he⟩=>?_;cases e with
 |returned v =>
  obtain ⟨rfl,hk⟩:=he;refine ⟨rfl,?_⟩;rw [hd];exact ⟨rfl,rfl,rfl,hk.size,fun k hk'=>hk.block k hk' (by simp)⟩
 |panicked c=>exact he.elim
 |outgrown=>exact he.elim
end Go.Sx
