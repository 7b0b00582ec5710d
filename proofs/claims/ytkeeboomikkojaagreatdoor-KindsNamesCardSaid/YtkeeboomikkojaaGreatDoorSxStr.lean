import Derived.Test.YtkeeboomikkojaaGreatDoorSxRow
namespace Go.Sx
theorem bX.blk {h:Hp}{base n sz:Nat}{t:TypeId}{v:Value}{ys:List Value}(ho:bX h base t sz v n ys){G:Nat}(hG:v.ownBlock=some G):∃c,h[G]?=some (.cells c t (0,0)):=by
 rcases ho.2 with ⟨rfl,_⟩|⟨g,o,cap,cur,rfl,_,hg,_⟩
 ·cases hG
 ·simp only [Value.ownBlock,Option.some.injEq] at hG;subst hG;exact ⟨_,hg⟩
theorem ca {z:Array Value}{cs:List Value}(hl:cs.length=z.size):spl z 0 cs=cs.toArray:=by
 apply Array.ext';simp [spl,hl,List.drop_eq_nil_of_le]
theorem set_push {h:Hp}{o o':Obj}:(h.push o).setIfInBounds h.size o'=h.push o':=by
 apply Array.ext';simp
theorem aA {h:Hp}{z:Array Value}{t:TypeId}{cs:List Value}{K:Hp→Prop}(hl:cs.length=z.size)(hk:K (h.push (.cells cs.toArray t (0,0)))) :
  av (h.push (.cells z t (0,0))) ⟨h.size,0,none⟩ cs K:=by
 refine aW ah (by omega) ?_
 rw [ca hl,set_push];exact hk
theorem Bo {h:Hp}{cs:List Value}{t:TypeId}{f:Nat×Nat}{j:Nat}{v:Value}(hv:cs[j]?=some v):af (h.push (.cells cs.toArray t f)) ⟨h.size,j,none⟩=some v:=by
 rw [bi ah];simpa using hv
theorem tc {h:Hp}{cs:List Value}{t:TypeId}{f:Nat×Nat}{n:Nat}(hl:cs.length=n):aj (h.push (.cells cs.toArray t f)) ⟨h.size,0,none⟩ n cs :=
 ⟨hl,fun j v hv=>by rw [aP,Zc];exact Bo hv⟩
section
variable  {α:Type}{f:α→List Value}{sz:Nat}
theorem Dg (hf:∀e,(f e).length=sz):∀es:List α,(es.flatMap f).length=es.length*sz
 |[]=>by simp
 |e::es=>by rw [Ql,Qd,hf,Dg hf es,Qn,Nat.add_mul];omega
theorem HB (hf:∀e,(f e).length=sz):∀{es:List α} {i:Nat} {e:α},es[i]?=some e→((es.flatMap f).drop (i*sz)).take sz=f e
 |[],_,_,h=>by simp at h
 |x::es,0,e,h=>by
  simp at h;subst h;rw [Nat.zero_mul,List.drop_zero,Ql,Q0 (by rw [hf];omega),List.take_of_length_le (by rw [hf];omega)]
 |x::es,i+1,e,h=>by
  simp at h;rw [Ql,Nat.add_mul,Nat.one_mul,List.drop_append,List.drop_eq_nil_of_le (by rw [hf];omega),Z4,hf,Nat.add_sub_cancel]
  exact HB hf h
theorem xS (hf:∀e,(f e).length=sz){es:List α}{i o:Nat}{e:α}(hi:es[i]?=some e)(ho:o < sz):(es.flatMap f)[i*sz+o]?=(f e)[o]?:=by
 rw [←HB hf hi,Qh,if_pos ho,Qi]
theorem BZ (hf:∀e,(f e).length=sz){v:Value}{o:Nat}(ho:o < sz){e':α}:∀{es:List α} {i:Nat} {e:α},es[i]?=some e→f e'=(f e).set o v→(es.flatMap f).set (i*sz+o) v=(es.set i e').flatMap f
 |[],_,_,h,_=>by simp at h
 |x::es,0,e,h,he=>by
  simp at h;subst h;rw [Nat.zero_mul,Zc,Ql,List.set_append_left _ _ (by rw [hf];exact ho),List.set_cons_zero,Ql,he]
 |x::es,i+1,e,h,he=>by
  simp at h;rw [Ql,List.set_append_right _ _ (by rw [hf];rw [Nat.add_mul];omega),List.set_cons_succ,Ql,←BZ hf ho h he]
  congr 2
  rw [hf,Nat.add_mul];omega
theorem ER (hf:∀e,(f e).length=sz):∀{n:Nat} {cs:List Value},cs.length=n*sz→(∀i,i < n→∃e,(cs.drop (i*sz)).take sz=f e)→∃es:List α,es.length=n∧cs=es.flatMap f
 |0,cs,hl,_=>⟨[],rfl,by simpa using hl⟩
 |n+1,cs,hl,h=>by
  obtain ⟨e,he⟩:=h 0 (by omega)
  rw [Nat.zero_mul,List.drop_zero] at he;rw [Nat.add_mul,Nat.one_mul] at hl;obtain ⟨es,h1,h2⟩:=ER hf (n:=n) (cs:=cs.drop sz) (by rw [Qs];omega) fun i hi=>by
   obtain ⟨e,he⟩:=h (i+1) (by omega)
   exact ⟨e,by rw [Z8,←he,Nat.add_mul,Nat.one_mul,Nat.add_comm]⟩
  exact ⟨e::es,by simp [h1],by rw [Ql,←h2,←he,Q8]⟩
theorem bm.rdS {h:Hp}{v:Value}{es:List α}(hs:bm h sz v es.length (es.flatMap f))(hf:∀e,(f e).length=sz){i:Nat}{e:α}(hi:es[i]?=some e){K:List Value→Prop}(hk:K (f e)) :
  aI v fun a l _=>0≤(i:Int)∧(i:Int) < (l:Int)∧∃C,aj h (Addr.add a (Int.toNat (i:Int)*sz)) sz C∧K C:=by
 have hl:=(Q6.1 hi).1;rcases hs.2 with ⟨h0,_⟩|⟨b,o,cap,rfl,hc⟩
 ·omega
 ·rw [asSl1_sl];refine ⟨by omega,by omega,f e,⟨hf e,fun j u hu=>?_⟩,hk⟩
  have hj:j < sz:=by rw [←hf e];exact (Q6.1 hu).1
  rw [aP,aP,Qm,Nat.add_assoc];exact hc _ u (by rw [xS hf hi hj];exact hu)
theorem bm.rdT {h:Hp}{v:Value}{es:List α}(hs:bm h sz v es.length (es.flatMap f))(hf:∀e,(f e).length=sz){i o:Nat}{e:α}(hi:es[i]?=some e){u:Value}(hu:(f e)[o]?=some u){K:Value→Prop}(hk:K u) :
  aI v fun a l _=>0≤(i:Int)∧(i:Int) < (l:Int)∧∃w,af h (Addr.add (Addr.add a (Int.toNat (i:Int)*sz)) o)=some w∧K w :=
 hs.rdF (Q6.1 hi).1 (by rw [xS hf hi (by rw [←hf e];exact (Q6.1 hu).1)];exact hu) hk
theorem bX.Ni {h:Hp}{base:Nat}{t:TypeId}{v:Value}{es:List α}(hs:bX h base t sz v es.length (es.flatMap f))(hf:∀e,(f e).length=sz){i o:Nat}{e e':α}(hi:es[i]?=some e){u:Value}(ho:o < sz)
  (he:f e'=(f e).set o u) {K:Hp→Prop} (hk:∀h',bX h' base t sz v (es.set i e').length ((es.set i e').flatMap f)→ar (fun k=>v.ownBlock=some k) h h'→K h') :
  aI v fun a l _=>0≤(i:Int)∧(i:Int) < (l:Int)∧aJ h (Addr.add (Addr.add a (Int.toNat (i:Int)*sz)) o) u K:=by
 have hl:=(Q6.1 hi).1;rcases hs.2 with ⟨rfl,h0⟩|⟨g,p,cap,cur,rfl,hb,hg,hnc,hcm,hcs,hx⟩
 ·omega
 ·rw [asSl1_sl];have hmul:(i+1)*sz≤cap*sz:=Nat.mul_le_mul_right sz (by omega)
  rw [Nat.add_mul,Nat.one_mul] at hmul;refine ⟨by omega,by omega,?_⟩
  rw [aP,aP,Qm];refine aM hg (by omega) (hk _ ⟨Dg hf _,.inr ⟨g,p,cap,_,by rw [Z5],hb,aq hg,by simpa using hnc,hcm,by simpa using hcs,?_⟩⟩ (ar.set (S:=fun k=>_=some k) _ rfl))
  rw [←BZ hf ho hi he,←hx,Array.toList_setIfInBounds,List.drop_set,if_neg (by omega),List.take_set,Z5]
  congr 1
  omega
end
end Go.Sx
