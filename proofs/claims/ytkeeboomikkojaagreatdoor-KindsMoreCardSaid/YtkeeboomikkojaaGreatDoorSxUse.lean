import Derived.Test.YtkeeboomikkojaaGreatDoorSxCore
namespace Go.Sx
variable  {P:Program}{ω:Amb}
section looks
variable  (F:Int→Prop)
@[simp] theorem asK_int (k:IntKind) (n:Int):asK k (.int k n) F=F n:=by cases k<;>rfl
@[simp] theorem asI_int (k:IntKind) (n:Int):asI (.int k n) F=F n:=rfl
end looks
theorem FK:∀(k:IntKind) (n:Int) (F:Int→Prop),asK k (.int k n) F=F n:=fun k _ _=>by cases k<;>rfl
@[simp] theorem asB_bool (b:Bool) (F:Bool→Prop):asB (.bool b) F=F b:=rfl
@[simp] theorem asP_some (a:Addr) (F:Addr→Prop):asP (.pointer (some a)) F=F a:=rfl
@[simp] theorem asPo_ptr (a:Option Addr) (F:Option Addr→Prop):HK (.pointer a) F=F a:=rfl
@[simp] theorem asS_str (s:ByteArray) (F:ByteArray→Prop):asS (.string s) F=F s:=rfl
@[simp] theorem asSl_sl (a:Option Addr) (l c:Nat) (F:Option Addr→Nat→Nat→Prop):bz (.slice a l c) F=F a l c:=rfl
@[simp] theorem asSl1_sl (a:Addr) (l c:Nat) (F:Addr→Nat→Nat→Prop):aI (.slice (some a) l c) F=F a l c:=rfl
@[simp] theorem asA_agg (cs:Array Value) (F:Array Value→Prop):asA (.agg cs) F=F cs:=rfl
@[simp] theorem asT_tup (cs:Array Value) (F:Array Value→Prop):asT (.tuple cs) F=F cs:=rfl
@[simp] theorem asO_some (v:Value) (F:Value→Prop):asO (some v) F=F v:=rfl
@[simp] theorem nnK_ptr (a:Addr) (F:Prop):nnK (.pointer (some a)) F=F:=rfl
@[simp] theorem oneK_int (k:IntKind) (n:Int) (F:Prop):bO (.int k n) F=F:=rfl
@[simp] theorem oneK_bool (b:Bool) (F:Prop):bO (.bool b) F=F:=rfl
@[simp] theorem oneK_str (s:ByteArray) (F:Prop):bO (.string s) F=F:=rfl
@[simp] theorem oneK_ptr (a:Option Addr) (F:Prop):bO (.pointer a) F=F:=rfl
@[simp] theorem oneK_sl (a:Option Addr) (l c:Nat) (F:Prop):bO (.slice a l c) F=F:=rfl
theorem bQ {v:Value}{F:Prop}(h:one v)(hf:F):bO v F:=by cases v<;>first|exact hf|cases h
theorem Dh {v:Value}{F:Prop}(h:one v):bO v F=F:=by cases v<;>first|rfl|cases h
attribute [simp] aH
theorem bR {c:Bool}{A B:Prop}(hc:c=true)(ha:A):cond c A B:=by subst hc;exact ha
theorem aS {c:Bool}{A B:Prop}(hc:c=false)(hb:B):cond c A B:=by subst hc;exact hb
theorem ae {c:Bool}{A B:Prop}(ha:c=true→A)(hb:c=false→B):cond c A B:=by
 cases c
 ·exact hb rfl
 ·exact ha rfl
theorem i64_in {n:Int}(h1:-9223372036854775808≤n)(h2:n≤9223372036854775807):IntKind.wrap .i64 n=n:=by rw [IntKind.wrap_i64];omega
theorem cH {h:Hp}{k:Nat}{o:Obj}(hk:h[k]?=some o):k < h.size:=(Array.getElem?_eq_some_iff.1 hk).1
theorem j5 {h:Hp}{k:Nat}{o x:Obj}(hk:h[k]?=some x):(h.push o)[k]?=some x:=by
 rw [Array.getElem?_push,if_neg (by have:=cH hk;omega)];exact hk
theorem af {h:Hp}{o:Obj}:(h.push o)[h.size]?=some o:=Array.getElem?_push_size
theorem aq {h:Hp}{k:Nat}{o x:Obj}(hk:h[k]?=some x):(h.setIfInBounds k o)[k]?=some o:=by
 rw [Array.getElem?_setIfInBounds_self_of_lt (cH hk)]
structure ar (S:Nat→Prop)(h h':Hp):Prop where
 size:h.size≤h'.size
 block:∀k,k < h.size→¬S k→h'[k]?=h[k]?
abbrev KF:Hp→Hp→Prop:=ar (fun _=>False)
theorem ar.refl (S:Nat→Prop)(h:Hp):ar S h h:=⟨Nat.le_refl _,fun _ _ _=>rfl⟩
theorem ar.trans {S:Nat→Prop}{a b c:Hp}(h:ar S a b)(k:ar S b c):ar S a c :=
 ⟨Nat.le_trans h.size k.size,fun i hi hs=>(k.block i (Nat.lt_of_lt_of_le hi h.size) hs).trans (h.block i hi hs)⟩
theorem ar.mono {S S':Nat→Prop}{a b:Hp}(h:ar S a b)(hs:∀k,k < a.size→S k→S' k):ar S' a b:=⟨h.size,fun k hk hn=>h.block k hk fun hh=>hn (hs k hk hh)⟩
theorem ar.get {S:Nat→Prop}{a b:Hp}(h:ar S a b){k:Nat}{o:Obj}(hk:a[k]?=some o)(hn:¬S k):b[k]?=some o:=(h.block k (cH hk) hn).trans hk
theorem ar.push {S:Nat→Prop}(h:Hp)(o:Obj):ar S h (h.push o):=⟨by simp,fun k hk _=>by rw [Array.getElem?_push,if_neg (by omega)]⟩
theorem ar.set {S:Nat→Prop}{h:Hp}{b:Nat}(o:Obj)(hb:S b):ar S h (h.setIfInBounds b o):=⟨by simp,fun k _ hn=>by
 rw [Array.getElem?_setIfInBounds_ne];intro e;exact hn (e▸hb)⟩
theorem ar.grown {S:Nat→Prop}{h h':Hp}{row:Option Nat}(hg:wA h h' row)(hr:∀k,row=some k→k < h.size→S k):ar S h h' :=
 ⟨hg.size,fun k hk hn=>hg.block k hk fun e=>hn (hr k e.symm hk)⟩
theorem ar.cf {S:Nat→Prop}{a b c:Hp}(h:ar S a b)(k:ar (fun i=>S i∨a.size≤i) b c):ar S a c :=
 ⟨Nat.le_trans h.size k.size,fun i hi hs=>(k.block i (Nat.lt_of_lt_of_le hi h.size) (fun hh=>hh.elim hs (by omega))).trans (h.block i hi hs)⟩
theorem bW.nil {h:Hp}{base:Nat}{e:TypeId}{size:Nat}:bW h base e size (.slice none 0 0) 0 []:=⟨by simp,.inl ⟨rfl,rfl⟩⟩
theorem bW.lt {h:Hp}{base:Nat}{e:TypeId}{size:Nat}{v:Value}{n:Nat}{xs:List Value}(ho:bW h base e size v n xs):∀k,v.ownBlock=some k→base≤k∧k < h.size:=by
 intro k hk;rcases ho.2 with ⟨rfl,_⟩|⟨g,o,cap,cur,rfl,hb,hg,_⟩
 ·simp [Value.ownBlock] at hk
 ·simp [Value.ownBlock] at hk;subst hk;exact ⟨hb,cH hg⟩
theorem bW.az {h h':Hp}{base:Nat}{e:TypeId}{size:Nat}{v:Value}{n:Nat}{xs:List Value}(ho:bW h base e size v n xs)
  (hk:∀k,v.ownBlock=some k→k < h.size→h'[k]?=h[k]?):bW h' base e size v n xs:=by
 refine ⟨ho.1,?_⟩;rcases ho.2 with hn|⟨g,o,cap,cur,rfl,hb,hg,rest⟩
 ·exact .inl hn
 ·exact .inr ⟨g,o,cap,cur,rfl,hb,by rw [hk g rfl (cH hg)];exact hg,rest⟩
theorem bW.push {h:Hp}{base:Nat}{e:TypeId}{size:Nat}{v:Value}{n:Nat}{xs:List Value}(ho:bW h base e size v n xs)(o:Obj):bW (h.push o) base e size v n xs :=
 ho.az fun k _ hk=>by rw [Array.getElem?_push,if_neg (by omega)]
theorem bW.base {h:Hp}{base base':Nat}{e:TypeId}{size:Nat}{v:Value}{n:Nat}{xs:List Value}(ho:bW h base e size v n xs)(hb:base'≤base):bW h base' e size v n xs :=
 ⟨ho.1,ho.2.imp id fun ⟨g,o,cap,cur,h1,h2,r⟩=>⟨g,o,cap,cur,h1,Nat.le_trans hb h2,r⟩⟩
theorem bW.shape {h:Hp}{base:Nat}{e:TypeId}{size:Nat}{v:Value}{n:Nat}{xs:List Value}(ho:bW h base e size v n xs) :
  (v=.slice none 0 0∧n=0∧xs=[])∨∃g o cap,v=.slice (some ⟨g,o,none⟩) n cap∧g < h.size∧base≤g∧n≤cap∧∀j u,xs[j]?=some u→ah h ⟨g,o+j,none⟩=some u:=by
 rcases ho.2 with ⟨rfl,rfl⟩|⟨g,o,cap,cur,rfl,hb,hg,hnc,_,_,hx⟩
 ·exact .inl ⟨rfl,rfl,List.eq_nil_of_length_eq_zero (by simpa using ho.1)⟩
 ·refine .inr ⟨g,o,cap,rfl,cH hg,hb,hnc,fun j u hu=>?_⟩;have:=xe hg hx j u hu
  rwa [aH] at this
def pD (P:Program)(t:TypeId):Option (TypeId×Nat×Nat) :=
 match P.underlying t with
 |some (.slice el)=>match P.info? el with
  |some i=>match i.zero with
   |some z=>cond (z.cells.size==i.size&&Nat.blt 0 i.size) (some (el,i.size,i.bytes)) none
   |none=>none
  |none=>none
 |_=>none
theorem Cd {t el sz bt:Nat}(hf:pD P t=some (el,sz,bt)){h:Hp}{s x:Value}{K:RT}{base n m:Nat}{xs news:List Value}
  (hown:bW h base el sz s n xs) (hnews:CX h x m sz news) (h1:∀u∈news,one u) (hmax:n+m≤4611686018427387904) (hby:(n+m)*bt≤140737488355328) (hb:base≤h.size)
  (hk:∀v' h',bW h' base el sz v' (n+m) (xs++news)→wA h h' s.ownBlock→(v'=.slice none 0 0↔s=.slice none 0 0∧m=0)→(∀k,v'.ownBlock=some k→s.ownBlock=some k∨h.size≤k)→K v' h'):uo P t h s x K:=by
 unfold pD at hf;unfold uo
 split at hf<;>try cases hf
 rename_i el' hu
 split at hf<;>try cases hf
 rename_i i hi
 split at hf<;>try cases hf
 rename_i z hz;cases hc:(z.cells.size==i.size&&Nat.blt 0 i.size) with
 |false=>rw [hc] at hf;cases hf
 |true =>
  rw [hc] at hf;cases hf;simp only [hu,hi,hz,hc,cond_true];exact ⟨base,n,xs,m,news,hown,hnews,h1,by simp only [maxLen];omega,hby,hb,hk⟩
theorem cE {t el sz bt:Nat}(hf:pD P t=some (el,sz,bt)){h:Hp}{s:Value}{K:RT}{base n:Nat}{xs cs:List Value}
  (hown:bW h base el sz s n xs) (hl:cs.length=sz) (h1:∀u∈cs,one u) (hmax:n+1≤4611686018427387904) (hby:(n+1)*bt≤140737488355328) (hb:base≤h.size)
  (hk:∀v' h',bW h' base el sz v' (n+1) (xs++cs)→wA h h' s.ownBlock→v'≠.slice none 0 0→(∀k,v'.ownBlock=some k→s.ownBlock=some k∨h.size≤k)→K v' h') :
  uo P t (h.push (.cells cs.toArray el (0,0))) s (.slice (some ⟨h.size,0,none⟩) 1 1) K:=by
 refine Cd hf (hown.push _) (m:=1) (news:=cs) ⟨by simpa using hl,.inr ⟨_,_,rfl,fun j u hu=>?_⟩⟩ h1 hmax hby (by simp;omega) fun v' h' h2 h3 h4 h5=>hk v' h' h2 ⟨?_,fun k hk hn=>?_⟩ (by rw [Ne,h4];simp) (fun k hk=>(h5 k hk).imp id (fun hh=>by simp at hh;omega))
 ·rw [aH,aO af,Nat.zero_add];simpa using hu
 ·have:=h3.size;simp at this;omega
 ·rw [h3.block k (by simp;omega) hn,Array.getElem?_push,if_neg (by omega)]
def bh (h:Hp)(size:Nat)(v:Value)(n:Nat)(xs:List Value):Prop :=
 xs.length=n*size∧((n=0∧∃a c,v=.slice a 0 c)∨∃b o cap,v=.slice (some ⟨b,o,none⟩) n cap∧∀j u,xs[j]?=some u→ah h ⟨b,o+j,none⟩=some u)
theorem E4 {h:Hp}{a:Addr}{u:Value}(hc:ah h a=some u):a.block < h.size:=by
 unfold ah at hc
 split at hc
 ·exact cH ‹_›
 ·cases hc
theorem ar.cell {S:Nat→Prop}{h h':Hp}(hk:ar S h h'){a:Addr}{u:Value}(hc:ah h a=some u)(hn:¬S a.block):ah h' a=some u:=by
 have:=hk.block a.block (E4 hc) hn;unfold ah at *;rw [this];exact hc
theorem bh.az {h h':Hp}{size:Nat}{v:Value}{n:Nat}{xs:List Value}(hs:bh h size v n xs)(hk:KF h h'):bh h' size v n xs :=
 ⟨hs.1,hs.2.imp id fun ⟨b,o,cap,hv,hc⟩=>⟨b,o,cap,hv,fun j u hu=>hk.cell (hc j u hu) (by simp)⟩⟩
theorem bW.yc {h:Hp}{base:Nat}{e:TypeId}{size:Nat}{v:Value}{n:Nat}{xs:List Value}(ho:bW h base e size v n xs):bh h size v n xs:=by
 rcases ho.shape with ⟨rfl,rfl,rfl⟩|⟨g,o,cap,rfl,_,_,_,hc⟩
 ·exact ⟨by simp,.inl ⟨rfl,_,_,rfl⟩⟩
 ·exact ⟨ho.1,.inr ⟨g,o,cap,rfl,hc⟩⟩
theorem bh.sl {h:Hp}{size:Nat}{v:Value}{n:Nat}{xs:List Value}(hs:bh h size v n xs){F:Option Addr→Nat→Nat→Prop}(hf:∀a c,F a n c):bz v F:=by
 rcases hs.2 with ⟨rfl,a,c,rfl⟩|⟨b,o,cap,rfl,_⟩
 ·exact hf _ _
 ·exact hf _ _
theorem bh.rd1 {h:Hp}{v:Value}{n:Nat}{xs:List Value}(hs:bh h 1 v n xs){i:Nat}{u:Value}(hu:xs[i]?=some u){K:Value→Prop}(hk:K u) :
  aI v fun a l _=>0≤(i:Int)∧(i:Int) < (l:Int)∧∃w,ah h (Addr.add a (Int.toNat (i:Int)*1))=some w∧K w:=by
 have hi:i < xs.length:=by
  rcases Nat.lt_or_ge i xs.length with h'|h'
  ·exact h'
  ·rw [List.getElem?_eq_none h'] at hu;cases hu
 have hl:=hs.1;rcases hs.2 with ⟨rfl,a,c,rfl⟩|⟨b,o,cap,rfl,hc⟩
 ·omega
 ·refine ⟨by omega,by omega,u,?_,hk⟩
  rw [aH,Int.toNat_natCast,Nat.mul_one];exact hc i u hu
theorem bh.rdF {h:Hp}{v:Value}{n sz:Nat}{xs:List Value}(hs:bh h sz v n xs){i off:Nat}{u:Value}(hi:i < n)(hu:xs[i*sz+off]?=some u){K:Value→Prop}(hk:K u) :
  aI v fun a l _=>0≤(i:Int)∧(i:Int) < (l:Int)∧∃w,ah h (Addr.add (Addr.add a (Int.toNat (i:Int)*sz)) off)=some w∧K w:=by
 rcases hs.2 with ⟨rfl,a,c,rfl⟩|⟨b,o,cap,rfl,hc⟩
 ·omega
 ·refine ⟨by omega,by omega,u,?_,hk⟩
  rw [aH,aH,Int.toNat_natCast,Nat.add_assoc];exact hc _ u hu
theorem aG {h:Hp}{b o:Nat}{cur:Array Value}{t:TypeId}{v:Value}{K:Hp→Prop}(hb:h[b]?=some (.cells cur t (0,0)))(ho:o < cur.size)
 (hk:K (h.setIfInBounds b (.cells (cur.setIfInBounds o v) t (0,0)))):aE h ⟨b,o,none⟩ v K:=⟨cur,t,hb,rfl,ho,hk⟩
theorem aM {h:Hp}{b o:Nat}{cur:Array Value}{t:TypeId}{cs:List Value}{K:Hp→Prop}(hb:h[b]?=some (.cells cur t (0,0)))(ho:o+cs.length≤cur.size)
 (hk:K (h.setIfInBounds b (.cells (spl cur o cs) t (0,0)))):au h ⟨b,o,none⟩ cs K:=⟨cur,t,hb,rfl,ho,hk⟩
theorem aa.use {f:FuncId}{args:List Value}{h:Hp}{R R':RT}{X:XT}(hc:∀Y,aa P ω f args h R Y)(hr:∀v h',R v h'→R' v h'):aa P ω f args h R' X :=
 (hc X).mono hr (fun _ _ h=>h)
theorem ld:(∀b o n:Nat,(⟨b,o,none⟩:Addr).add n=⟨b,o+n,none⟩)∧(∀n:Nat,0+n=n)∧(∀(l:List Value) (i:Nat),l.toArray[i]?=l[i]?) ∧
  (∀(a:Value) (l:List Value),(a::l)[0]?=some a)∧(∀(a:Value) (l:List Value) (i:Nat),(a::l)[i+1]?=l[i]?) ∧
  (∀a b:Value,(some a=some b)=(a=b))∧(∀(p:Value→Prop) (a:Value),(∃v,a=v∧p v)=p a) ∧
  (∀(k:IntKind) (n:Int) (F:Int→Prop),asK k (.int k n) F=F n)∧(∀(k:IntKind) (n:Int) (F:Int→Prop),asI (.int k n) F=F n) ∧
  (∀(b:Bool) (F:Bool→Prop),asB (.bool b) F=F b)∧(∀(a:Addr) (F:Addr→Prop),asP (.pointer (some a)) F=F a) ∧
  (∀(a:Option Addr) (F:Option Addr→Prop),HK (.pointer a) F=F a)∧(∀(s:ByteArray) (F:ByteArray→Prop),asS (.string s) F=F s) ∧
  (∀(a:Option Addr) (l c:Nat) (F:Option Addr→Nat→Nat→Prop),bz (.slice a l c) F=F a l c) ∧
  (∀(a:Addr) (l c:Nat) (F:Addr→Nat→Nat→Prop),aI (.slice (some a) l c) F=F a l c) ∧
  (∀(cs:Array Value) (F:Array Value→Prop),asA (.agg cs) F=F cs)∧(∀(cs:Array Value) (F:Array Value→Prop),asT (.tuple cs) F=F cs) ∧
  (∀(v:Value) (F:Value→Prop),asO (some v) F=F v)∧(∀(a:Addr) (F:Prop),nnK (.pointer (some a)) F=F) ∧
  (∀(k:IntKind) (n:Int) (F:Prop),bO (.int k n) F=F)∧(∀(b:Bool) (F:Prop),bO (.bool b) F=F)∧(∀(s:ByteArray) (F:Prop),bO (.string s) F=F) ∧
  (∀(a:Option Addr) (F:Prop),bO (.pointer a) F=F)∧(∀(a:Option Addr) (l c:Nat) (F:Prop),bO (.slice a l c) F=F) ∧
  (∀n:Nat,Int.toNat (n:Int)=n)∧(∀n:Nat,n*1=n) :=
 ⟨aH,Nat.zero_add,fun _ _=>List.getElem?_toArray,fun _ _=>rfl,fun _ _ _=>rfl,fun _ _=>by simp,fun _ _=>by simp,FK,fun _ _ _=>rfl,fun _ _=>rfl,fun _ _=>rfl,fun _ _=>rfl,fun _ _=>rfl,
  fun _ _ _ _=>rfl,fun _ _ _ _=>rfl,fun _ _=>rfl,fun _ _=>rfl,fun _ _=>rfl,fun _ _=>rfl,fun _ _ _=>rfl,fun _ _=>rfl,fun _ _=>rfl,fun _ _=>rfl,fun _ _ _ _=>rfl,Int.toNat_natCast,Nat.mul_one⟩
theorem st:(∀(l:List Value) (i:Nat) (v:Value),l.toArray.setIfInBounds i v=(l.set i v).toArray)∧(∀(a v:Value) (l:List Value),(a::l).set 0 v=v::l) ∧
 (∀(a v:Value) (l:List Value) (i:Nat),(a::l).set (i+1) v=a::l.set i v):=⟨fun _ _ _=>by simp,fun _ _ _=>rfl,fun _ _ _ _=>rfl⟩
end Go.Sx
