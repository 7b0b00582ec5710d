import Derived.Test.YtkeeboomikkojaaGreatDoorSxRow
namespace Go.Sx
theorem bW.blk {h:Hp}{base n sz:Nat}{t:TypeId}{v:Value}{ys:List Value}(ho:bW h base t sz v n ys){G:Nat}(hG:v.ownBlock=some G):∃c,h[G]?=some (.cells c t (0,0)):=by
 rcases ho.2 with ⟨rfl,_⟩|⟨g,o,cap,cur,rfl,_,hg,_⟩
 ·cases hG
 ·simp only [Value.ownBlock,Option.some.injEq] at hG;subst hG;exact ⟨_,hg⟩
theorem bu {z:Array Value}{cs:List Value}(hl:cs.length=z.size):spl z 0 cs=cs.toArray:=by
 apply Array.ext';simp [spl,hl,List.drop_eq_nil_of_le]
theorem set_push {h:Hp}{o o':Obj}:(h.push o).setIfInBounds h.size o'=h.push o':=by
 apply Array.ext';simp
theorem ay {h:Hp}{z:Array Value}{t:TypeId}{cs:List Value}{K:Hp→Prop}(hl:cs.length=z.size)(hk:K (h.push (.cells cs.toArray t (0,0)))) :
  au (h.push (.cells z t (0,0))) ⟨h.size,0,none⟩ cs K:=by
 refine aM af (by omega) ?_
 rw [bu hl,set_push];exact hk
theorem yj {h:Hp}{cs:List Value}{t:TypeId}{f:Nat×Nat}{j:Nat}{v:Value}(hv:cs[j]?=some v):ah (h.push (.cells cs.toArray t f)) ⟨h.size,j,none⟩=some v:=by
 rw [aO af];simpa using hv
theorem qW {h:Hp}{cs:List Value}{t:TypeId}{f:Nat×Nat}{n:Nat}(hl:cs.length=n):aj (h.push (.cells cs.toArray t f)) ⟨h.size,0,none⟩ n cs :=
 ⟨hl,fun j v hv=>by rw [aH,Nat.zero_add];exact yj hv⟩
section
variable  {α:Type}{f:α→List Value}{sz:Nat}
theorem Ea (hf:∀e,(f e).length=sz):∀{es:List α} {i:Nat} {e:α},es[i]?=some e→((es.flatMap f).drop (i*sz)).take sz=f e
 |[],_,_,h=>by simp at h
 |x::es,0,e,h=>by
  simp at h;subst h;rw [Nat.zero_mul,List.drop_zero,List.flatMap_cons,List.take_append_of_le_length (by rw [hf];omega),List.take_of_length_le (by rw [hf];omega)]
 |x::es,i+1,e,h=>by
  simp at h;rw [List.flatMap_cons,Nat.add_mul,Nat.one_mul,List.drop_append,List.drop_eq_nil_of_le (by rw [hf];omega),List.nil_append,hf,Nat.add_sub_cancel]
  exact Ea hf h
theorem vQ (hf:∀e,(f e).length=sz){es:List α}{i o:Nat}{e:α}(hi:es[i]?=some e)(ho:o < sz):(es.flatMap f)[i*sz+o]?=(f e)[o]?:=by
 rw [←Ea hf hi,List.getElem?_take,if_pos ho,List.getElem?_drop]
theorem BM (hf:∀e,(f e).length=sz):∀{n:Nat} {cs:List Value},cs.length=n*sz→(∀i,i < n→∃e,(cs.drop (i*sz)).take sz=f e)→∃es:List α,es.length=n∧cs=es.flatMap f
 |0,cs,hl,_=>⟨[],rfl,by simpa using hl⟩
 |n+1,cs,hl,h=>by
  obtain ⟨e,he⟩:=h 0 (by omega)
  rw [Nat.zero_mul,List.drop_zero] at he;rw [Nat.add_mul,Nat.one_mul] at hl;obtain ⟨es,h1,h2⟩:=BM hf (n:=n) (cs:=cs.drop sz) (by rw [List.length_drop];omega) fun i hi=>by
   obtain ⟨e,he⟩:=h (i+1) (by omega)
   exact ⟨e,by rw [List.drop_drop,←he,Nat.add_mul,Nat.one_mul,Nat.add_comm]⟩
  exact ⟨e::es,by simp [h1],by rw [List.flatMap_cons,←h2,←he,List.take_append_drop]⟩
theorem bh.rdS {h:Hp}{v:Value}{es:List α}(hs:bh h sz v es.length (es.flatMap f))(hf:∀e,(f e).length=sz){i:Nat}{e:α}(hi:es[i]?=some e){K:List Value→Prop}(hk:K (f e)) :
  aI v fun a l _=>0≤(i:Int)∧(i:Int) < (l:Int)∧∃C,aj h (Addr.add a (Int.toNat (i:Int)*sz)) sz C∧K C:=by
 have hl:=(List.getElem?_eq_some_iff.1 hi).1;rcases hs.2 with ⟨h0,_⟩|⟨b,o,cap,rfl,hc⟩
 ·omega
 ·rw [asSl1_sl];refine ⟨by omega,by omega,f e,⟨hf e,fun j u hu=>?_⟩,hk⟩
  have hj:j < sz:=by rw [←hf e];exact (List.getElem?_eq_some_iff.1 hu).1
  rw [aH,aH,Int.toNat_natCast,Nat.add_assoc];exact hc _ u (by rw [vQ hf hi hj];exact hu)
theorem bh.rdT {h:Hp}{v:Value}{es:List α}(hs:bh h sz v es.length (es.flatMap f))(hf:∀e,(f e).length=sz){i o:Nat}{e:α}(hi:es[i]?=some e){u:Value}(hu:(f e)[o]?=some u){K:Value→Prop}(hk:K u) :
  aI v fun a l _=>0≤(i:Int)∧(i:Int) < (l:Int)∧∃w,ah h (Addr.add (Addr.add a (Int.toNat (i:Int)*sz)) o)=some w∧K w :=
 hs.rdF (List.getElem?_eq_some_iff.1 hi).1 (by rw [vQ hf hi (by rw [←hf e];exact (List.getElem?_eq_some_iff.1 hu).1)];exact hu) hk
end
end Go.Sx
