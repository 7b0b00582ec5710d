import Derived.Test.YtkeeboomikkojaaGreatDoorSxRow
namespace Go.Sx
theorem cI.blk {h:Hp}{base n sz:Nat}{t:TypeId}{v:Value}{ys:List Value}(ho:cI h base t sz v n ys){G:Nat}(hG:v.ownBlock=some G):∃c,h[G]?=some (.cells c t (0,0)):=by
 rcases ho.2 with ⟨rfl,_⟩|⟨g,o,cap,cur,rfl,_,hg,_⟩
 ·cases hG
 ·simp only [Value.ownBlock,Option.some.injEq] at hG;subst hG;exact ⟨_,hg⟩
theorem cp {z:Array Value}{cs:List Value}(hl:cs.length=z.size):spl z 0 cs=cs.toArray:=by
 apply Array.ext';simp [spl,hl,List.drop_eq_nil_of_le]
theorem set_push {h:Hp}{o o':Obj}:(h.push o).setIfInBounds h.size o'=h.push o':=by
 apply Array.ext';simp
theorem aA {h:Hp}{z:Array Value}{t:TypeId}{cs:List Value}{K:Hp→Prop}(hl:cs.length=z.size)(hk:K (h.push (.cells cs.toArray t (0,0)))) :
  az (h.push (.cells z t (0,0))) ⟨h.size,0,none⟩ cs K:=by
 refine bh ai (by omega) ?_
 rw [cp hl,set_push];exact hk
theorem BH {h:Hp}{cs:List Value}{t:TypeId}{f:Nat×Nat}{j:Nat}{v:Value}(hv:cs[j]?=some v):af (h.push (.cells cs.toArray t f)) ⟨h.size,j,none⟩=some v:=by
 rw [br ai];simpa using hv
theorem tL {h:Hp}{cs:List Value}{t:TypeId}{f:Nat×Nat}{n:Nat}(hl:cs.length=n):ak (h.push (.cells cs.toArray t f)) ⟨h.size,0,none⟩ n cs :=
 ⟨hl,fun j v hv=>by rw [aT,Zb];exact BH hv⟩
section
variable  {α:Type}{f:α→List Value}{sz:Nat}
theorem Eu (hf:∀e,(f e).length=sz):∀{es:List α} {i:Nat} {e:α},es[i]?=some e→((es.flatMap f).drop (i*sz)).take sz=f e
 |[],_,_,h=>by simp at h
 |x::es,0,e,h=>by
  simp at h;subst h;rw [Nat.zero_mul,List.drop_zero,Ql,Q0 (by rw [hf];omega),List.take_of_length_le (by rw [hf];omega)]
 |x::es,i+1,e,h=>by
  simp at h;rw [Ql,Nat.add_mul,Nat.one_mul,List.drop_append,List.drop_eq_nil_of_le (by rw [hf];omega),Z4,hf,Nat.add_sub_cancel]
  exact Eu hf h
theorem yu (hf:∀e,(f e).length=sz){es:List α}{i o:Nat}{e:α}(hi:es[i]?=some e)(ho:o < sz):(es.flatMap f)[i*sz+o]?=(f e)[o]?:=by
 rw [←Eu hf hi,Qh,if_pos ho,Qi]
theorem Ho (hf:∀e,(f e).length=sz):∀{n:Nat} {cs:List Value},cs.length=n*sz→(∀i,i < n→∃e,(cs.drop (i*sz)).take sz=f e)→∃es:List α,es.length=n∧cs=es.flatMap f
 |0,cs,hl,_=>⟨[],rfl,by simpa using hl⟩
 |n+1,cs,hl,h=>by
  obtain ⟨e,he⟩:=h 0 (by omega)
  rw [Nat.zero_mul,List.drop_zero] at he;rw [Nat.add_mul,Nat.one_mul] at hl;obtain ⟨es,h1,h2⟩:=Ho hf (n:=n) (cs:=cs.drop sz) (by rw [Qs];omega) fun i hi=>by
   obtain ⟨e,he⟩:=h (i+1) (by omega)
   exact ⟨e,by rw [Z7,←he,Nat.add_mul,Nat.one_mul,Nat.add_comm]⟩
  exact ⟨e::es,by simp [h1],by rw [Ql,←h2,←he,Q8]⟩
theorem bP.rdS {h:Hp}{v:Value}{es:List α}(hs:bP h sz v es.length (es.flatMap f))(hf:∀e,(f e).length=sz){i:Nat}{e:α}(hi:es[i]?=some e){K:List Value→Prop}(hk:K (f e)) :
  aO v fun a l _=>0≤(i:Int)∧(i:Int) < (l:Int)∧∃C,ak h (Addr.add a (Int.toNat (i:Int)*sz)) sz C∧K C:=by
 have hl:=(Q6.1 hi).1;rcases hs.2 with ⟨h0,_⟩|⟨b,o,cap,rfl,hc⟩
 ·omega
 ·rw [asSl1_sl];refine ⟨by omega,by omega,f e,⟨hf e,fun j u hu=>?_⟩,hk⟩
  have hj:j < sz:=by rw [←hf e];exact (Q6.1 hu).1
  rw [aT,aT,Qm,Nat.add_assoc];exact hc _ u (by rw [yu hf hi hj];exact hu)
theorem bP.rdT {h:Hp}{v:Value}{es:List α}(hs:bP h sz v es.length (es.flatMap f))(hf:∀e,(f e).length=sz){i o:Nat}{e:α}(hi:es[i]?=some e){u:Value}(hu:(f e)[o]?=some u){K:Value→Prop}(hk:K u) :
  aO v fun a l _=>0≤(i:Int)∧(i:Int) < (l:Int)∧∃w,af h (Addr.add (Addr.add a (Int.toNat (i:Int)*sz)) o)=some w∧K w :=
 hs.rdF (Q6.1 hi).1 (by rw [yu hf hi (by rw [←hf e];exact (Q6.1 hu).1)];exact hu) hk
end
end Go.Sx
