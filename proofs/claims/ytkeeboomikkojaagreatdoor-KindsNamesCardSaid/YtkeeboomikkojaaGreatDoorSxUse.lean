import Derived.Test.YtkeeboomikkojaaGreatDoorSxCore
namespace Go.Sx
variable  {P:Program}{ω:Amb}
section looks
variable  (F:Int→Prop)
@[simp] theorem asK_int (k:IntKind) (n:Int):asK k (.int k n) F=F n:=by cases k<;>rfl
@[simp] theorem asI_int (k:IntKind) (n:Int):asI (.int k n) F=F n:=rfl
end looks
theorem IQ:∀(k:IntKind) (n:Int) (F:Int→Prop),asK k (.int k n) F=F n:=fun k _ _=>by cases k<;>rfl
@[simp] theorem asB_bool (b:Bool) (F:Bool→Prop):asB (.bool b) F=F b:=rfl
@[simp] theorem asP_some (a:Addr) (F:Addr→Prop):asP (.pointer (some a)) F=F a:=rfl
@[simp] theorem asPo_ptr (a:Option Addr) (F:Option Addr→Prop):MY (.pointer a) F=F a:=rfl
@[simp] theorem asS_str (s:ByteArray) (F:ByteArray→Prop):asS (.string s) F=F s:=rfl
@[simp] theorem asSl_sl (a:Option Addr) (l c:Nat) (F:Option Addr→Nat→Nat→Prop):bR (.slice a l c) F=F a l c:=rfl
@[simp] theorem asSl1_sl (a:Addr) (l c:Nat) (F:Addr→Nat→Nat→Prop):aI (.slice (some a) l c) F=F a l c:=rfl
@[simp] theorem asA_agg (cs:Array Value) (F:Array Value→Prop):asA (.agg cs) F=F cs:=rfl
@[simp] theorem asT_tup (cs:Array Value) (F:Array Value→Prop):asT (.tuple cs) F=F cs:=rfl
@[simp] theorem asO_some (v:Value) (F:Value→Prop):asO (some v) F=F v:=rfl
@[simp] theorem nnK_ptr (a:Addr) (F:Prop):nnK (.pointer (some a)) F=F:=rfl
@[simp] theorem oneK_int (k:IntKind) (n:Int) (F:Prop):cq (.int k n) F=F:=rfl
@[simp] theorem oneK_bool (b:Bool) (F:Prop):cq (.bool b) F=F:=rfl
@[simp] theorem oneK_str (s:ByteArray) (F:Prop):cq (.string s) F=F:=rfl
@[simp] theorem oneK_ptr (a:Option Addr) (F:Prop):cq (.pointer a) F=F:=rfl
@[simp] theorem oneK_sl (a:Option Addr) (l c:Nat) (F:Prop):cq (.slice a l c) F=F:=rfl
theorem cP {v:Value}{F:Prop}(h:one v)(hf:F):cq v F:=by cases v<;>first|exact hf|cases h
theorem FW {v:Value}{F:Prop}(h:one v):cq v F=F:=by cases v<;>first|rfl|cases h
attribute [simp] aP
theorem cx {c:Bool}{A B:Prop}(hc:c=true)(ha:A):cond c A B:=by subst hc;exact ha
theorem ba {c:Bool}{A B:Prop}(hc:c=false)(hb:B):cond c A B:=by subst hc;exact hb
theorem ae {c:Bool}{A B:Prop}(ha:c=true→A)(hb:c=false→B):cond c A B:=by
 cases c
 ·exact hb rfl
 ·exact ha rfl
theorem i64_in {n:Int}(h1:-9223372036854775808≤n)(h2:n≤9223372036854775807):IntKind.wrap .i64 n=n:=by rw [IntKind.wrap_i64];omega
theorem gd {h:Hp}{k:Nat}{o:Obj}(hk:h[k]?=some o):k < h.size:=(Array.getElem?_eq_some_iff.1 hk).1
theorem lz {h:Hp}{k:Nat}{o x:Obj}(hk:h[k]?=some x):(h.push o)[k]?=some x:=by
 rw [Array.getElem?_push,if_neg (by have:=gd hk;omega)];exact hk
theorem ah {h:Hp}{o:Obj}:(h.push o)[h.size]?=some o:=Array.getElem?_push_size
theorem aq {h:Hp}{k:Nat}{o x:Obj}(hk:h[k]?=some x):(h.setIfInBounds k o)[k]?=some o:=by
 rw [Array.getElem?_setIfInBounds_self_of_lt (gd hk)]
structure ar (S:Nat→Prop)(h h':Hp):Prop where
 size:h.size≤h'.size
 block:∀k,k < h.size→¬S k→h'[k]?=h[k]?
abbrev KF:Hp→Hp→Prop:=ar (fun _=>False)
theorem ar.refl (S:Nat→Prop)(h:Hp):ar S h h:=⟨Zd _,fun _ _ _=>rfl⟩
theorem ar.trans {S:Nat→Prop}{a b c:Hp}(h:ar S a b)(k:ar S b c):ar S a c :=
 ⟨Nat.le_trans h.size k.size,fun i hi hs=>(k.block i (Nat.lt_of_lt_of_le hi h.size) hs).trans (h.block i hi hs)⟩
theorem ar.mono {S S':Nat→Prop}{a b:Hp}(h:ar S a b)(hs:∀k,k < a.size→S k→S' k):ar S' a b:=⟨h.size,fun k hk hn=>h.block k hk fun hh=>hn (hs k hk hh)⟩
theorem ar.get {S:Nat→Prop}{a b:Hp}(h:ar S a b){k:Nat}{o:Obj}(hk:a[k]?=some o)(hn:¬S k):b[k]?=some o:=(h.block k (gd hk) hn).trans hk
theorem ar.push {S:Nat→Prop}(h:Hp)(o:Obj):ar S h (h.push o):=⟨by simp,fun k hk _=>by rw [Array.getElem?_push,if_neg (by omega)]⟩
theorem ar.set {S:Nat→Prop}{h:Hp}{b:Nat}(o:Obj)(hb:S b):ar S h (h.setIfInBounds b o):=⟨by simp,fun k _ hn=>by
 rw [Array.getElem?_setIfInBounds_ne];intro e;exact hn (e▸hb)⟩
theorem ar.grown {S:Nat→Prop}{h h':Hp}{row:Option Nat}(hg:zV h h' row)(hr:∀k,row=some k→k < h.size→S k):ar S h h' :=
 ⟨hg.size,fun k hk hn=>hg.block k hk fun e=>hn (hr k e.symm hk)⟩
theorem ar.cS {S:Nat→Prop}{a b c:Hp}(h:ar S a b)(k:ar (fun i=>S i∨a.size≤i) b c):ar S a c :=
 ⟨Nat.le_trans h.size k.size,fun i hi hs=>(k.block i (Nat.lt_of_lt_of_le hi h.size) (fun hh=>hh.elim hs (by omega))).trans (h.block i hi hs)⟩
theorem bX.nil {h:Hp}{base:Nat}{e:TypeId}{size:Nat}:bX h base e size (.slice none 0 0) 0 []:=⟨by simp,.inl ⟨rfl,rfl⟩⟩
theorem bX.lt {h:Hp}{base:Nat}{e:TypeId}{size:Nat}{v:Value}{n:Nat}{xs:List Value}(ho:bX h base e size v n xs):∀k,v.ownBlock=some k→base≤k∧k < h.size:=by
 intro k hk;rcases ho.2 with ⟨rfl,_⟩|⟨g,o,cap,cur,rfl,hb,hg,_⟩
 ·simp [Value.ownBlock] at hk
 ·simp [Value.ownBlock] at hk;subst hk;exact ⟨hb,gd hg⟩
theorem bX.aC {h h':Hp}{base:Nat}{e:TypeId}{size:Nat}{v:Value}{n:Nat}{xs:List Value}(ho:bX h base e size v n xs)
  (hk:∀k,v.ownBlock=some k→k < h.size→h'[k]?=h[k]?):bX h' base e size v n xs:=by
 refine ⟨ho.1,?_⟩;rcases ho.2 with hn|⟨g,o,cap,cur,rfl,hb,hg,rest⟩
 ·exact .inl hn
 ·exact .inr ⟨g,o,cap,cur,rfl,hb,by rw [hk g rfl (gd hg)];exact hg,rest⟩
theorem bX.push {h:Hp}{base:Nat}{e:TypeId}{size:Nat}{v:Value}{n:Nat}{xs:List Value}(ho:bX h base e size v n xs)(o:Obj):bX (h.push o) base e size v n xs :=
 ho.aC fun k _ hk=>by rw [Array.getElem?_push,if_neg (by omega)]
theorem bX.base {h:Hp}{base base':Nat}{e:TypeId}{size:Nat}{v:Value}{n:Nat}{xs:List Value}(ho:bX h base e size v n xs)(hb:base'≤base):bX h base' e size v n xs :=
 ⟨ho.1,ho.2.imp id fun ⟨g,o,cap,cur,h1,h2,r⟩=>⟨g,o,cap,cur,h1,Nat.le_trans hb h2,r⟩⟩
theorem bX.shape {h:Hp}{base:Nat}{e:TypeId}{size:Nat}{v:Value}{n:Nat}{xs:List Value}(ho:bX h base e size v n xs) :
  (v=.slice none 0 0∧n=0∧xs=[])∨∃g o cap,v=.slice (some ⟨g,o,none⟩) n cap∧g < h.size∧base≤g∧n≤cap∧∀j u,xs[j]?=some u→af h ⟨g,o+j,none⟩=some u:=by
 rcases ho.2 with ⟨rfl,rfl⟩|⟨g,o,cap,cur,rfl,hb,hg,hnc,_,_,hx⟩
 ·exact .inl ⟨rfl,rfl,List.eq_nil_of_length_eq_zero (by simpa using ho.1)⟩
 ·refine .inr ⟨g,o,cap,rfl,gd hg,hb,hnc,fun j u hu=>?_⟩;have:=yY hg hx j u hu
  rwa [aP] at this
def rE (P:Program)(t:TypeId):Option (TypeId×Nat×Nat) :=
 match P.underlying t with
 |some (.slice el)=>match P.info? el with
  |some i=>match i.zero with
   |some z=>cond (z.cells.size==i.size&&Nat.blt 0 i.size) (some (el,i.size,i.bytes)) none
   |none=>none
  |none=>none
 |_=>none
theorem EY {t el sz bt:Nat}(hf:rE P t=some (el,sz,bt)){h:Hp}{s x:Value}{K:RT}{base n m:Nat}{xs news:List Value}
  (hown:bX h base el sz s n xs) (hnews:E4 h x m sz news) (h1:∀u∈news,one u) (hmax:n+m≤4611686018427387904) (hby:(n+m)*bt≤140737488355328) (hb:base≤h.size)
  (hk:∀v' h',bX h' base el sz v' (n+m) (xs++news)→zV h h' s.ownBlock→(v'=.slice none 0 0↔s=.slice none 0 0∧m=0)→(∀k,v'.ownBlock=some k→s.ownBlock=some k∨h.size≤k)→K v' h'):x2 P t h s x K:=by
 unfold rE at hf;unfold x2
 split at hf<;>try cases hf
 rename_i el' hu
 split at hf<;>try cases hf
 rename_i i hi
 split at hf<;>try cases hf
 rename_i z hz;cases hc:(z.cells.size==i.size&&Nat.blt 0 i.size) with
 |false=>rw [hc] at hf;cases hf
 |true =>
  rw [hc] at hf;cases hf;simp only [hu,hi,hz,hc,cond_true];exact ⟨base,n,xs,m,news,hown,hnews,h1,by simp only [maxLen];omega,hby,hb,hk⟩
theorem dR {t el sz bt:Nat}(hf:rE P t=some (el,sz,bt)){h:Hp}{s:Value}{K:RT}{base n:Nat}{xs cs:List Value}
  (hown:bX h base el sz s n xs) (hl:cs.length=sz) (h1:∀u∈cs,one u) (hmax:n+1≤4611686018427387904) (hby:(n+1)*bt≤140737488355328) (hb:base≤h.size)
  (hk:∀v' h',bX h' base el sz v' (n+1) (xs++cs)→zV h h' s.ownBlock→v'≠.slice none 0 0→(∀k,v'.ownBlock=some k→s.ownBlock=some k∨h.size≤k)→K v' h') :
  x2 P t (h.push (.cells cs.toArray el (0,0))) s (.slice (some ⟨h.size,0,none⟩) 1 1) K:=by
 refine EY hf (hown.push _) (m:=1) (news:=cs) ⟨by simpa using hl,.inr ⟨_,_,rfl,fun j u hu=>?_⟩⟩ h1 hmax hby (by simp;omega) fun v' h' h2 h3 h4 h5=>hk v' h' h2 ⟨?_,fun k hk hn=>?_⟩ (by rw [Ne,h4];simp) (fun k hk=>(h5 k hk).imp id (fun hh=>by simp at hh;omega))
 ·rw [aP,bi ah,Zc];simpa using hu
 ·have:=h3.size;simp at this;omega
 ·rw [h3.block k (by simp;omega) hn,Array.getElem?_push,if_neg (by omega)]
def bm (h:Hp)(size:Nat)(v:Value)(n:Nat)(xs:List Value):Prop :=
 xs.length=n*size∧((n=0∧∃a c,v=.slice a 0 c)∨∃b o cap,v=.slice (some ⟨b,o,none⟩) n cap∧∀j u,xs[j]?=some u→af h ⟨b,o+j,none⟩=some u)
theorem Ie {h:Hp}{a:Addr}{u:Value}(hc:af h a=some u):a.block < h.size:=by
 unfold af at hc
 split at hc
 ·exact gd ‹_›
 ·cases hc
theorem ar.cell {S:Nat→Prop}{h h':Hp}(hk:ar S h h'){a:Addr}{u:Value}(hc:af h a=some u)(hn:¬S a.block):af h' a=some u:=by
 have:=hk.block a.block (Ie hc) hn;unfold af at *;rw [this];exact hc
theorem bm.aC {h h':Hp}{size:Nat}{v:Value}{n:Nat}{xs:List Value}(hs:bm h size v n xs)(hk:KF h h'):bm h' size v n xs :=
 ⟨hs.1,hs.2.imp id fun ⟨b,o,cap,hv,hc⟩=>⟨b,o,cap,hv,fun j u hu=>hk.cell (hc j u hu) (by simp)⟩⟩
theorem bX.dP {h:Hp}{base:Nat}{e:TypeId}{size:Nat}{v:Value}{n:Nat}{xs:List Value}(ho:bX h base e size v n xs):bm h size v n xs:=by
 rcases ho.shape with ⟨rfl,rfl,rfl⟩|⟨g,o,cap,rfl,_,_,_,hc⟩
 ·exact ⟨by simp,.inl ⟨rfl,_,_,rfl⟩⟩
 ·exact ⟨ho.1,.inr ⟨g,o,cap,rfl,hc⟩⟩
theorem bm.sl {h:Hp}{size:Nat}{v:Value}{n:Nat}{xs:List Value}(hs:bm h size v n xs){F:Option Addr→Nat→Nat→Prop}(hf:∀a c,F a n c):bR v F:=by
 rcases hs.2 with ⟨rfl,a,c,rfl⟩|⟨b,o,cap,rfl,_⟩
 ·exact hf _ _
 ·exact hf _ _
theorem bm.rd1 {h:Hp}{v:Value}{n:Nat}{xs:List Value}(hs:bm h 1 v n xs){i:Nat}{u:Value}(hu:xs[i]?=some u){K:Value→Prop}(hk:K u) :
  aI v fun a l _=>0≤(i:Int)∧(i:Int) < (l:Int)∧∃w,af h (Addr.add a (Int.toNat (i:Int)*1))=some w∧K w:=by
 have hi:i < xs.length:=by
  rcases Nat.lt_or_ge i xs.length with h'|h'
  ·exact h'
  ·rw [List.getElem?_eq_none h'] at hu;cases hu
 have hl:=hs.1;rcases hs.2 with ⟨rfl,a,c,rfl⟩|⟨b,o,cap,rfl,hc⟩
 ·omega
 ·refine ⟨by omega,by omega,u,?_,hk⟩
  rw [aP,Qm,Nat.mul_one];exact hc i u hu
theorem bm.rdF {h:Hp}{v:Value}{n sz:Nat}{xs:List Value}(hs:bm h sz v n xs){i off:Nat}{u:Value}(hi:i < n)(hu:xs[i*sz+off]?=some u){K:Value→Prop}(hk:K u) :
  aI v fun a l _=>0≤(i:Int)∧(i:Int) < (l:Int)∧∃w,af h (Addr.add (Addr.add a (Int.toNat (i:Int)*sz)) off)=some w∧K w:=by
 rcases hs.2 with ⟨rfl,a,c,rfl⟩|⟨b,o,cap,rfl,hc⟩
 ·omega
 ·refine ⟨by omega,by omega,u,?_,hk⟩
  rw [aP,aP,Qm,Nat.add_assoc];exact hc _ u hu
theorem aM {h:Hp}{b o:Nat}{cur:Array Value}{t:TypeId}{v:Value}{K:Hp→Prop}(hb:h[b]?=some (.cells cur t (0,0)))(ho:o < cur.size)
 (hk:K (h.setIfInBounds b (.cells (cur.setIfInBounds o v) t (0,0)))):aJ h ⟨b,o,none⟩ v K:=⟨cur,t,hb,rfl,ho,hk⟩
theorem aW {h:Hp}{b o:Nat}{cur:Array Value}{t:TypeId}{cs:List Value}{K:Hp→Prop}(hb:h[b]?=some (.cells cur t (0,0)))(ho:o+cs.length≤cur.size)
 (hk:K (h.setIfInBounds b (.cells (spl cur o cs) t (0,0)))):av h ⟨b,o,none⟩ cs K:=⟨cur,t,hb,rfl,ho,hk⟩
theorem aa.use {f:FuncId}{args:List Value}{h:Hp}{R R':RT}{X:XT}(hc:∀Y,aa P ω f args h R Y)(hr:∀v h',R v h'→R' v h'):aa P ω f args h R' X :=
 (hc X).mono hr (fun _ _ h=>h)
theorem ld:(∀b o n:Nat,(⟨b,o,none⟩:Addr).add n=⟨b,o+n,none⟩)∧(∀n:Nat,0+n=n)∧(∀(l:List Value) (i:Nat),l.toArray[i]?=l[i]?) ∧
  (∀(a:Value) (l:List Value),(a::l)[0]?=some a)∧(∀(a:Value) (l:List Value) (i:Nat),(a::l)[i+1]?=l[i]?) ∧
  (∀a b:Value,(some a=some b)=(a=b))∧(∀(p:Value→Prop) (a:Value),(∃v,a=v∧p v)=p a) ∧
  (∀(k:IntKind) (n:Int) (F:Int→Prop),asK k (.int k n) F=F n)∧(∀(k:IntKind) (n:Int) (F:Int→Prop),asI (.int k n) F=F n) ∧
  (∀(b:Bool) (F:Bool→Prop),asB (.bool b) F=F b)∧(∀(a:Addr) (F:Addr→Prop),asP (.pointer (some a)) F=F a) ∧
  (∀(a:Option Addr) (F:Option Addr→Prop),MY (.pointer a) F=F a)∧(∀(s:ByteArray) (F:ByteArray→Prop),asS (.string s) F=F s) ∧
  (∀(a:Option Addr) (l c:Nat) (F:Option Addr→Nat→Nat→Prop),bR (.slice a l c) F=F a l c) ∧
  (∀(a:Addr) (l c:Nat) (F:Addr→Nat→Nat→Prop),aI (.slice (some a) l c) F=F a l c) ∧
  (∀(cs:Array Value) (F:Array Value→Prop),asA (.agg cs) F=F cs)∧(∀(cs:Array Value) (F:Array Value→Prop),asT (.tuple cs) F=F cs) ∧
  (∀(v:Value) (F:Value→Prop),asO (some v) F=F v)∧(∀(a:Addr) (F:Prop),nnK (.pointer (some a)) F=F) ∧
  (∀(k:IntKind) (n:Int) (F:Prop),cq (.int k n) F=F)∧(∀(b:Bool) (F:Prop),cq (.bool b) F=F)∧(∀(s:ByteArray) (F:Prop),cq (.string s) F=F) ∧
  (∀(a:Option Addr) (F:Prop),cq (.pointer a) F=F)∧(∀(a:Option Addr) (l c:Nat) (F:Prop),cq (.slice a l c) F=F) ∧
  (∀n:Nat,Int.toNat (n:Int)=n)∧(∀n:Nat,n*1=n) :=
 ⟨aP,Zc,fun _ _=>List.getElem?_toArray,fun _ _=>rfl,fun _ _ _=>rfl,fun _ _=>by simp,fun _ _=>by simp,IQ,fun _ _ _=>rfl,fun _ _=>rfl,fun _ _=>rfl,fun _ _=>rfl,fun _ _=>rfl,
  fun _ _ _ _=>rfl,fun _ _ _ _=>rfl,fun _ _=>rfl,fun _ _=>rfl,fun _ _=>rfl,fun _ _=>rfl,fun _ _ _=>rfl,fun _ _=>rfl,fun _ _=>rfl,fun _ _=>rfl,fun _ _ _ _=>rfl,Qm,Nat.mul_one⟩
theorem st:(∀(l:List Value) (i:Nat) (v:Value),l.toArray.setIfInBounds i v=(l.set i v).toArray)∧(∀(a v:Value) (l:List Value),(a::l).set 0 v=v::l) ∧
 (∀(a v:Value) (l:List Value) (i:Nat),(a::l).set (i+1) v=a::l.set i v):=⟨fun _ _ _=>by simp,fun _ _ _=>rfl,fun _ _ _ _=>rfl⟩
end Go.Sx
