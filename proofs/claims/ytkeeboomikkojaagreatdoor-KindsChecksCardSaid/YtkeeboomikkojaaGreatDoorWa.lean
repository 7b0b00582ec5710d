import Derived.Test.YtkeeboomikkojaaGreatDoorVb
import Derived.Test.YtkeeboomikkojaaGreatDoorYk
import Derived.Test.YtkeeboomikkojaaGreatDoorExA
set_option maxRecDepth 100000
namespace Go.Proofs.YtkeeboomikkojaaGreatDoor
open Go Go.Sx Go.Sx.Tk Go.Sx.Rn Go.Proofs.YtkeeboomikkojaaGreatDoor.Sx
def naC (pv:Value)(st:Int)(nv bv:Value)(a:Int)(f:Int×Int):List Value:=[pv,.int .i64 st,nv,bv,.int .i64 a,.int .i64 f.1,.int .i64 f.2]
structure NS (T:TypeId)(h0:Hp)(C:Nat)(h:Hp)(pv:Value)(st:Int)(nv bv:Value)(a:Int)(f:Int×Int):Prop where
 k:KF h0 h
 b:h0.size≤C
 c:h[C]?=some (.cells (naC pv st nv bv a f).toArray T (0,0))
theorem NS.lt {T:TypeId}{h0 h:Hp}{C:Nat}{pv nv bv:Value}{st a:Int}{f:Int×Int}(ns:NS T h0 C h pv st nv bv a f):C < h.size:=fu ns.c
theorem NS.aE {T:TypeId}{h0 h h':Hp}{C:Nat}{pv nv bv:Value}{st a:Int}{f:Int×Int}(ns:NS T h0 C h pv st nv bv a f)(k:KF h h'):NS T h0 C h' pv st nv bv a f:=⟨ns.k.trans k,ns.b,k.get ns.c id⟩
def Nms (h:Hp)(v:Value)(l:List Vr):Prop:=bP h 2 v l.length (l.flatMap vrC)∧l.length≤1000000
theorem Nms.more {h h':Hp}{v:Value}{l:List Vr}(hs:Nms h v l)(k:KF h h'):Nms h' v l:=⟨hs.1.aE k,hs.2⟩
theorem Nms.iO {h h':Hp}{v:Value}{l:List Vr}{C:Nat}(hs:Nms h v l)(k:KC C h h')(hn:∀b,v.ownBlock=some b→b≠C):Nms h' v l:=⟨bP.BC hs.1 k fun b hb e=>hn b hb e,hs.2⟩
theorem D8 {l:List Vr}{s:ByteArray}(h:∀v∈l,v.1≠s):cu l s=none:=by
 unfold cu;rw [List.find?_eq_none.2 fun v hv=>by simpa using h v hv]
 rfl
theorem CL {l:List Vr}{s:ByteArray}{k:Nat}{v:Vr}(hk:l[k]?=some v)(hb:cu (l.take k) s=none)(hv:v.1=s):cu l s=some v.2:=by
 have h1:l=(l.take k++[v])++l.drop (k+1):=by rw [←aW hk,Q8]
 rw [h1,pe,pe,hb];unfold cu;rw [List.find?_cons,Z6 hv];rfl
theorem xb {l:List Vr}{s:ByteArray}{v:Vr}(hb:cu l s=none)(hv:v.1≠s):cu (l++[v]) s=none:=by
 rw [pe,hb];unfold cu;rw [List.find?_cons,Z0 hv];rfl
section
variable  {ω:Amb}{T:TypeId}{h0:Hp}{C:Nat}{pv nv bv:Value}{st a:Int}
theorem dG {h:Hp}{f:Int×Int}(ns:NS T h0 C h pv st nv bv a f)(c:Int)(X:XT) :
  ae Tryz.prog ω 98 [pp C,.int .i64 c] h (fun _ h'=>NS T h0 C h' pv st nv bv a (kfl f c a)∧KC C h h') X:=by
 refine ik ω _ _ h _ X ?_;unfold dq;simp only [nnK_ptr,asP_some];refine ⟨_,lx' (j:=5) ns.c rfl,?_⟩;rw [asK_int];refine ⟨fun h'=>NS T h0 C h' pv st nv bv a (kfl f c a)∧KC C h h',ah (fun hc=>?_) (fun hc=>?_),fun _ _ hh=>hh⟩
 ·have hf:f.1=0:=by simpa using hc
  refine ⟨_,lx' (j:=4) ns.c rfl,?_⟩;refine ae.use (Hb c a h) ?_;rintro _ h1 ⟨rfl,k1⟩;have ns1:=ns.aE k1;rw [asA_agg];refine ⟨rfl,bq c a,?_⟩;refine bh (o:=5) ns1.c (by simp [naC,flt]) ?_
  have hs:=av (o:=.cells (naC pv st nv bv a (c,a)).toArray T (0,0)) ns1.c;have k:=ay.set (S:=fun k=>k=C) (h:=h1) (.cells (naC pv st nv bv a (c,a)).toArray T (0,0)) (b:=C) rfl;have e:spl (naC pv st nv bv a f).toArray 5 (flt c a).toArray.toList=(naC pv st nv bv a (c,a)).toArray:=rfl;rw [e];generalize h1.setIfInBounds C (.cells (naC pv st nv bv a (c,a)).toArray T (0,0))=h2 at *;have:kfl f c a=(c,a):=by unfold kfl;rw [if_pos hf]
  rw [this];exact ⟨⟨ns1.k.cA (k.mono fun b _ hb=>.inr (by have hb:b=C:=hb;have:=ns.b;omega)),ns.b,hs⟩,(KC.of k1).trans k⟩
 ·have hf:f.1≠0:=by simpa using hc
  rw [vn hf];exact ⟨ns,ay.refl _ _⟩
theorem yQ {h:Hp}{f:Int×Int}{l:List Vr}(ns:NS T h0 C h pv st nv bv a f)(hn:Nms h nv l)(nm:ByteArray)(X:XT) :
  ae Tryz.prog ω 123 [pp C,.string nm] h (fun r h'=>r=.string ((cu l nm).getD e0)∧h=h') X:=by
 refine js ω _ _ h _ X ?_;unfold dN;simp only [nnK_ptr,asP_some];have hmax:=hn.2;refine ⟨fun t h'=>∃k:Nat,t=.int .i64 k∧k≤l.length∧cu (l.take k) nm=none∧h=h',fun t _=>match t with|.int _ k=>l.length - k.toNat|_=>0,⟨0,rfl,by omega,rfl,rfl⟩,?_⟩
 rintro _ _ _ ⟨k,rfl,hk,hno,rfl⟩;refine ⟨_,lx' (j:=2) ns.c rfl,?_⟩;refine hn.1.sl fun _ _=>?_;rw [asK_int];refine ah (fun hc=>?_) (fun hc=>?_)
 ·have hkl:k < l.length:=by have:=Qj hc;omega
  have hx:=Q7 hkl;generalize l[k]=v at hx;refine ⟨_,lx' (j:=2) ns.c rfl,?_⟩;refine bP.rdT hn.1 (fun _=>rfl) hx (o:=0) (u:=.string v.1) rfl ?_;rw [asS_str,asS_str,eqB];refine ah (fun hc=>?_) (fun hc=>?_)
  ·refine ⟨_,lx' (j:=2) ns.c rfl,?_⟩;refine bP.rdT hn.1 (fun _=>rfl) hx (o:=1) (u:=.string v.2) rfl ?_;rw [CL hx hno (Qj hc)];exact ⟨rfl,rfl⟩
  ·rw [asK_int,i64_in (by omega) (by omega)]
   exact ⟨⟨k+1,by simp,by omega,by rw [aW hx];exact xb hno (Qc hc),rfl⟩,by simp;omega⟩
 ·have hc:=Qc hc;obtain rfl:k=l.length:=by omega
  rw [Qo] at hno;rw [hno];exact ⟨rfl,rfl⟩
theorem tJ {h:Hp}{f:Int×Int}{l:List Vr}(ns:NS T h0 C h pv st nv bv a f)(hn:Nms h bv l)(nm:ByteArray)(X:XT) :
  ae Tryz.prog ω 40 [pp C,.string nm] h (fun r h'=>r=.bool (cu l nm).isSome∧h=h') X:=by
 refine fW ω _ _ h _ X ?_;unfold cT;simp only [nnK_ptr,asP_some];have hmax:=hn.2;refine ⟨fun t h'=>∃k:Nat,t=.int .i64 k∧k≤l.length∧cu (l.take k) nm=none∧h=h',fun t _=>match t with|.int _ k=>l.length - k.toNat|_=>0,⟨0,rfl,by omega,rfl,rfl⟩,?_⟩
 rintro _ _ _ ⟨k,rfl,hk,hno,rfl⟩;refine ⟨_,lx' (j:=3) ns.c rfl,?_⟩;refine hn.1.sl fun _ _=>?_;rw [asK_int];refine ah (fun hc=>?_) (fun hc=>?_)
 ·have hkl:k < l.length:=by have:=Qj hc;omega
  have hx:=Q7 hkl;generalize l[k]=v at hx;refine ⟨_,lx' (j:=3) ns.c rfl,?_⟩;refine bP.rdT hn.1 (fun _=>rfl) hx (o:=0) (u:=.string v.1) rfl ?_;rw [asS_str,asS_str,eqB];refine ah (fun hc=>?_) (fun hc=>?_)
  ·rw [CL hx hno (Qj hc)];exact ⟨rfl,rfl⟩
  ·rw [asK_int,i64_in (by omega) (by omega)]
   exact ⟨⟨k+1,by simp,by omega,by rw [aW hx];exact xb hno (Qc hc),rfl⟩,by simp;omega⟩
 ·have hc:=Qc hc;obtain rfl:k=l.length:=by omega
  rw [Qo] at hno;rw [hno];exact ⟨rfl,rfl⟩
theorem u6 {h:Hp}{f:Int×Int}{l:List Vr}(ns:NS T h0 C h pv st nv bv a f)(hn:Nms h nv l)(ht:TyL l)(nm bg:ByteArray)(hb:bg.size=1)(X:XT) :
  ae Tryz.prog ω 99 [pp C,.string nm,.string bg] h (fun r h'=>r=.string (fV l nm bg a f).1∧NS T h0 C h' pv st nv bv a (fV l nm bg a f).2∧KC C h h') X:=by
 refine iZ ω _ _ _ h _ X ?_;unfold dE;refine ae.use (yQ ns hn nm) ?_;rintro _ _ ⟨rfl,rfl⟩;rw [asS_str,eqB];cases hl:cu l nm with
 |none =>
  rw [jM hl];refine cf (by decide) ?_
  refine ae.use (dG ns 10) ?_;rintro _ h1 ⟨ns1,k1⟩;exact ⟨rfl,ns1,k1⟩
 |some t =>
  rw [jW hl];obtain ⟨w,hw,_,rfl⟩:=pi hl;have h1:=ht w hw;have hne:w.2≠e0:=fun e=>by rw [e] at h1;exact absurd h1 (by decide)
  refine ba (Z0 hne) ?_;show asS (.string w.2) _;rw [asS_str];refine ⟨by decide,by decide,by omega,?_⟩
  rw [asS_str,eqB,hb];show cond (!decide (w.2.extract 0 1=bg)) _ _
  by_cases hx:w.2.extract 0 1=bg
  ·rw [Z6 hx,if_pos hx];exact ba rfl ⟨rfl,ns,ay.refl _ _⟩
  ·rw [Z0 hx,if_neg hx];refine cf rfl ?_;refine ae.use (dG ns 11) ?_;rintro _ h1 ⟨ns1,k1⟩;exact ⟨rfl,ns1,k1⟩
end
section
variable  {ω:Amb}{T:TypeId}{h0:Hp}{C:Nat}{pv nv bv:Value}{st a:Int}
set_option maxHeartbeats 400000 in
theorem B2 {l:List Vr}(ht:TyL l)(hnC:∀b,nv.ownBlock=some b→b≠C):∀(N:Nat) (x:Ex),exN x < N→∀(h:Hp) (w:Value) (f:Int×Int),ExS h0 w x.l→NS T h0 C h pv st nv bv a f→Nms h nv l→∀(X:XT),
  ae Tryz.prog ω 101 [pp C,.agg (exC x w).toArray] h (fun _ h'=>NS T h0 C h' pv st nv bv a (yU l a x f)∧KC C h h') X:=by
 intro N
 induction N with
 |zero=>exact fun l hN=>absurd hN (Nat.not_lt_zero _)
 |succ N ih =>
  intro x hN h w f hw ns hn X;refine gL ω _ _ h _ X ?_;unfold dk bl;simp only [dS];show ∃v0,_;have hxe:=gF x;have hmax:=hw.max;have hb1:=ai (h:=h) (o:=.cells (exC x w).toArray 36 (0,0));have kp:=ay.push (S:=fun _=>False) h (.cells (exC x w).toArray 36 (0,0));generalize h.push (.cells (exC x w).toArray 36 (0,0))=h1 at *;have ns1:=ns.aE kp;have kb1:=KC.of (C:=C) kp;have hn1:=hn.more kp;have hne:h.size≠C:=by have:=ns.lt;omega
  refine lx hb1 (j:=0) rfl ?_;rw [asK_int];refine ⟨fun h'=>NS T h0 C h' pv st nv bv a (li l a x f)∧KC C h1 h',?_,?_⟩
  ·refine ah (fun hc=>?_) (fun hc=>?_)
   ·refine lx hb1 (j:=1) rfl ?_;refine ae.use (u6 ns1 hn1 ht x.nm iB (by decide)) ?_
    rintro _ h2 ⟨_,ns2,k2⟩;have:li l a x f=(fV l x.nm iB a f).2:=by unfold li;rw [if_pos (Ze hc)]
    rw [this];exact ⟨ns2,k2⟩
   ·have:li l a x f=f:=by unfold li;rw [if_neg (Qa.1 hc)]
    rw [this];exact ⟨ns1,ay.refl _ _⟩
  rintro _ h3 ⟨ns3,k3⟩;have hn3:=hn1.iO k3 hnC;have hb3:=k3.get hb1 hne;have k13:=kb1.trans k3;refine ⟨fun t h'=>∃k:Nat,t=.int .i64 k∧k≤x.l.length∧NS T h0 C h' pv st nv bv a (jo l a (x.l.take k) (li l a x f))∧KC C h3 h',fun t _=>match t with|.int _ k=>x.l.length - k.toNat|_=>0,
   ⟨0,rfl,by omega,ns3,ay.refl _ _⟩,?_⟩
  rintro _ _ h5 ⟨k,rfl,hk,ns5,k5⟩;have hb5:=k5.get hb3 hne;refine lx hb5 (j:=3) rfl ?_;refine (hw.aE ns5.k).sl fun _ _=>?_;rw [asK_int];refine ah (fun hc=>?_) (fun hc=>?_)
  rotate_left
  ·have hc:=Qc hc;obtain rfl:k=x.l.length:=by omega
   rw [Qo,←BJ] at ns5;exact ⟨ns5,k13.trans k5⟩
  have hkl:k < x.l.length:=by
   have:=Qj hc;omega
  have hx:=Q7 hkl;have hmem:x.l[k]∈x.l:=Qv hkl;generalize x.l[k]=y at hx hmem;have hyn:=cG hmem;refine lx hb5 (j:=3) rfl ?_;refine hw.vz ns5.k hx fun w' hw'=>?_;refine ae.use (ih y (by omega) h5 w' _ hw' ns5 (hn3.iO k5 hnC)) ?_
  rintro _ h7 ⟨ns7,k7⟩;rw [←qJ,←aW hx] at ns7;rw [asK_int,i64_in (by omega) (by omega)]
  exact ⟨⟨k+1,by simp,by omega,ns7,k5.trans k7⟩,by simp;omega⟩
theorem PP (t:ByteArray):t.extract 0 e0.size=e0:=by
 have h1:bytesOf (t.extract 0 e0.size)=bytesOf e0:=by
  rw [fx];rfl
 have h2:=jn (t.extract 0 e0.size);rw [h1] at h2;rw [←h2];rfl
theorem xa {l:List Vr}(ht:TyL l)(hnC:∀b,nv.ownBlock=some b→b≠C)(x:Ex)(t:ByteArray){h:Hp}{w:Value}{f:Int×Int}(hw:ExS h0 w x.l)(ns:NS T h0 C h pv st nv bv a f)(hn:Nms h nv l)(X:XT) :
  ae Tryz.prog ω 100 [pp C,.agg (exC x w).toArray,.string t] h (fun _ h'=>NS T h0 C h' pv st nv bv a (jj l a x t f)∧KC C h h') X:=by
 refine im ω _ _ _ h _ X ?_;unfold dr aY;simp only [dS];have hb1:=ai (h:=h) (o:=.cells (exC x w).toArray 36 (0,0));have kp:=ay.push (S:=fun _=>False) h (.cells (exC x w).toArray 36 (0,0));generalize h.push (.cells (exC x w).toArray 36 (0,0))=h1 at *;have ns1:=ns.aE kp;have kb1:=KC.of (C:=C) kp;have hn1:=hn.more kp;unfold jj;rw [asS_str,eqB]
 by_cases h1t:t=iB
 ·rw [Z6 h1t,if_pos h1t];refine cf rfl ?_;refine ⟨_,aq hb1 rfl,?_⟩;refine ae.use (B2 ht hnC _ x (Qw _) h1 w f hw ns1 hn1) ?_;rintro _ h2 ⟨ns2,k2⟩;exact ⟨ns2,kb1.trans k2⟩
 rw [Z0 h1t,if_neg h1t];refine ba rfl ?_;refine ⟨fun h'=>NS T h0 C h' pv st nv bv a (if x.op≠2 then kfl f 11 a else if (fV l x.nm e0 a f).1≠t then kfl (fV l x.nm e0 a f).2 11 a else (fV l x.nm e0 a f).2)∧KC C h h',?_,fun _ _ hh=>hh⟩
 refine lx hb1 (j:=0) rfl ?_;rw [asK_int];refine ⟨_,?_,fun _ _ hh=>hh⟩;refine ah (fun hc=>?_) (fun hc=>?_)
 ·rw [if_pos (Zd.1 hc)];refine ae.use (dG ns1 11) ?_;rintro _ h2 ⟨ns2,k2⟩;exact ⟨ns2,kb1.trans k2⟩
 rw [if_neg (by simpa using hc)]
 refine lx hb1 (j:=1) rfl ?_;refine ae.use (yQ ns1 hn1 x.nm) ?_;rintro _ _ ⟨rfl,rfl⟩;rw [asS_str,eqB];refine ⟨_,?_,fun _ _ hh=>hh⟩;cases hl:cu l x.nm with
 |none =>
  rw [jM hl];refine cf (by decide) ?_
  refine ae.use (dG ns1 10) ?_;rintro _ h2 ⟨ns2,k2⟩;have h10:(kfl f 10 a).1≠0:=by
   unfold kfl
   split
   ·exact (by decide:(10:Int)≠0)
   ·assumption
  have:(if (e0,kfl f 10 a).1≠t then kfl (e0,kfl f 10 a).2 11 a else (e0,kfl f 10 a).2)=kfl f 10 a:=by
   show (if e0≠t then kfl (kfl f 10 a) 11 a else kfl f 10 a)=_
   rw [vn h10]
   split<;>rfl
  rw [this];exact ⟨ns2,kb1.trans k2⟩
 |some u =>
  rw [jW hl,if_pos (PP u)];obtain ⟨v,hv,_,rfl⟩:=pi hl;have h1:=ht v hv;have hne:v.2≠e0:=fun e=>by rw [e] at h1;exact absurd h1 (by decide)
  refine ba (Z0 hne) ?_;refine lx hb1 (j:=1) rfl ?_;refine ae.use (yQ ns1 hn1 x.nm) ?_;rintro _ _ ⟨rfl,rfl⟩;rw [hl];show asS (.string v.2) _;rw [asS_str,asS_str,eqB];refine ⟨_,?_,fun _ _ hh=>hh⟩
  by_cases h3:v.2=t
  ·rw [Z6 h3,if_neg (Z8 h3)];exact ba rfl ⟨ns1,kb1⟩
  ·rw [Z0 h3,if_pos h3];refine cf rfl ?_;refine ae.use (dG ns1 11) ?_;rintro _ h2 ⟨ns2,k2⟩;exact ⟨ns2,kb1.trans k2⟩
theorem xq {p:List Sg}{k0:Nat}(hk0:k0≤p.length)(hp:SgS h0 pv p){h:Hp}{f:Int×Int}(ns:NS T h0 C h pv (k0:Int) nv bv a f)(nm:ByteArray)(X:XT) :
  ae Tryz.prog ω 39 [pp C,.string nm] h (fun r h'=>h=h'∧((r=.int .i64 (-1)∧(p.take k0).find? (fun g=>decide (g.nm=nm))=none)∨∃(k:Nat) (g:Sg),r=.int .i64 k∧k < k0∧p[k]?=some g∧(p.take k0).find? (fun g=>decide (g.nm=nm))=some g)) X:=by
 refine iN ω _ _ h _ X ?_;unfold dt;simp only [nnK_ptr,asP_some];have hmax:=SgS.max hp;refine ⟨fun t h'=>∃k:Nat,t=.int .i64 k∧k≤k0∧(p.take k).find? (fun g=>decide (g.nm=nm))=none∧h=h',fun t _=>match t with|.int _ k=>k0 - k.toNat|_=>0,⟨0,rfl,by omega,rfl,rfl⟩,?_⟩
 rintro _ _ _ ⟨k,rfl,hk,hno,rfl⟩;refine ⟨_,lx' (j:=1) ns.c rfl,?_⟩;rw [asK_int,asK_int];refine ah (fun hc=>?_) (fun hc=>?_)
 ·have hkl:k < k0:=by have:=Qj hc;omega
  have hx:=Q7 (l:=p) (i:=k) (by omega)
  generalize p[k]=g at hx;refine ⟨_,lx' (j:=0) ns.c rfl,?_⟩;obtain ⟨us,vp,vb',q1,q2,hps,_⟩:=hp.at_ hx;refine bP.rdO (q1.aE ns.k) (i:=k) (o:=0) (by omega) (u:=.string g.nm) (by rw [q2];rfl) ?_
  rw [asS_str,asS_str,eqB];refine ah (fun hc=>?_) (fun hc=>?_)
  ·refine ⟨rfl,.inr ⟨k,g,rfl,hkl,hx,?_⟩⟩;have h2:(p.take k0)[k]?=some g:=by rw [Qh,if_pos hkl];exact hx
   have h1:p.take k0=((p.take k0).take k++[g])++(p.take k0).drop (k+1):=by rw [←aW h2,Q8]
   rw [List.take_take,Nat.min_eq_left hk] at h1;rw [h1,List.find?_append,List.find?_append,hno,List.find?_cons,hc];rfl
  ·rw [asK_int,i64_in (by omega) (by omega)]
   refine ⟨⟨k+1,by simp,by omega,?_,rfl⟩,by simp;omega⟩
   rw [aW hx,List.find?_append,hno,List.find?_cons,hc];rfl
 ·have hc:=Qc hc;obtain rfl:k=k0:=by omega
  exact ⟨rfl,.inl ⟨trivial,hno⟩⟩
end
theorem mg (bd:List Vr)(s:ByteArray):decide (0 < tk bd s)=(cu bd s).isSome:=by
 rw [Qz,decide_eq_true_eq];unfold tk cu;rw [Option.isSome_map,List.find?_isSome]
 constructor
 ·intro h;have h1:0 < (bd.filter fun v=>decide (v.1=s)).length:=by omega
  obtain ⟨v,hv⟩:=List.exists_mem_of_length_pos h1;rw [List.mem_filter] at hv;exact ⟨v,hv⟩
 ·rintro ⟨v,hv,hs⟩;have:0 < (bd.filter fun v=>decide (v.1=s)).length:=List.length_pos_of_mem (List.mem_filter.2 ⟨hv,hs⟩);omega
def NO (d:Int):Bool:=decide (d=1)||(decide (d=4)||(decide (d=5)||(decide (d=11)||decide (d=12))))
theorem Fe (bd:List Vr)(x:St):dh bd x=(NO x.d&&((cu bd x.a).isSome||(decide (x.d=4)&&((cu bd x.b).isSome||decide (x.a=x.b))))):=by
 unfold dh bc NO
 by_cases h1:x.d=1
 ·rw [if_pos h1,List.any_cons,List.any_nil,←mg];unfold ktw;simp [h1]
 by_cases h4:x.d=4
 ·rw [if_neg h1,if_pos h4,List.any_cons,List.any_cons,List.any_nil,←mg,←mg];unfold ktw;simp only [h4];cases decide (0 < tk bd x.a)<;>cases decide (0 < tk bd x.b)<;>cases decide (x.a=x.b)<;>rfl
 by_cases h5:x.d=5∨x.d=11∨x.d=12
 ·rw [if_neg h1,if_neg h4,if_pos h5,List.any_cons,List.any_nil,←mg];unfold ktw;simp only [h4,h1,decide_false,Bool.false_and,Bool.or_false,Z9];rcases h5 with h5|h5|h5<;>simp [h5]
 ·rw [if_neg h1,if_neg h4,if_neg h5,List.any_nil];rw [not_or,not_or] at h5;simp [h1,h4,h5.1,h5.2.1,h5.2.2]
section
variable  {ω:Amb}{T:TypeId}{h0:Hp}{C:Nat}{pv nv bv:Value}{st a:Int}
theorem zn (d:Int)(h:Hp)(X:XT):ae Tryz.prog ω 97 [.int .i64 d] h (fun r h'=>r=.bool (NO d)∧h=h') X:=by
 refine mS ω _ h _ X ?_;unfold fw;refine ⟨fun r h'=>r=.bool (NO d)∧h=h',?_,fun _ _ _ hh=>hh⟩;simp only [asK_int];unfold NO;refine ah (fun hc=>?_) (fun hc=>?_)
 ·rw [Z6 (Ze hc)];exact ⟨rfl,trivial⟩
 rw [Z0 (Qa.1 hc),Z9];refine ah (fun hc=>?_) (fun hc=>?_)
 ·rw [Z6 (Ze hc)];exact ⟨rfl,trivial⟩
 rw [Z0 (Qa.1 hc),Z9];refine ah (fun hc=>?_) (fun hc=>?_)
 ·rw [Z6 (Ze hc)];exact ⟨rfl,trivial⟩
 rw [Z0 (Qa.1 hc),Z9];refine ah (fun hc=>?_) (fun hc=>?_)
 ·rw [Z6 (Ze hc)];exact ⟨rfl,trivial⟩
 rw [Z0 (Qa.1 hc),Z9];exact ⟨by rw [Qz.2 (by simp:(d==12)=true↔decide (d=12)=true)],trivial⟩
theorem Mh {f:Int×Int}(h:f.1≠0)(env:List Vr)(at_:Int):(∀x:Ex,yU env at_ x f=f)∧∀l:List Ex,jo env at_ l f=f:=by
 have hH:∀x:Ex,li env at_ x f=f:=fun x=>by
  unfold li
  split
  ·exact Gq h _ _ _ _
  ·rfl
 have:∀N,(∀x:Ex,exN x < N→yU env at_ x f=f)∧∀l:List Ex,cZ l < N→jo env at_ l f=f:=by
  intro N
  induction N with
  |zero=>exact ⟨fun x hN=>absurd hN (Nat.not_lt_zero _),fun x hN=>absurd hN (Nat.not_lt_zero _)⟩
  |succ N ih =>
   have h1:∀x:Ex,exN x < N+1→yU env at_ x f=f:=fun x hN=>by
    have:=gF x;rw [BJ,hH];exact ih.2 x.l (by omega)
   refine ⟨h1,fun l=>?_⟩
   induction l with
   |nil=>intro _;unfold jo;rfl
   |cons y r ihr =>
    intro hN;unfold cZ at hN;unfold jo;rw [h1 y (by omega)]
    exact ihr (by omega)
 exact ⟨fun x=>(this (exN x+1)).1 x (Qw _),fun l=>(this (cZ l+1)).2 l (Qw _)⟩
def kwh (env:List Vr)(m:Int)(x:St):ByteArray:=match de x with
 |none=>e0
 |some q=>(fV env q.1 q.2 m (0,0)).1
def kff (env:List Vr)(m:Int)(x:St):Int×Int:=match de x with
 |none=>if x.d=2 then (fV env x.a iB m (0,0)).2 else (0,0)
 |some q=>(fV env q.1 q.2 m (0,0)).2
set_option maxHeartbeats 800000 in
theorem NC {l:List Vr}(ht:TyL l)(x:St){h:Hp}{ve vb vl:Value}{B:Nat}(hB:h[B]?=some (.cells (stC x ve vb vl).toArray 39 (0,0)))(ns:NS T h0 C h pv st nv bv a (0,0))(hn:Nms h nv l)(X:XT) :
  ∃J31:RT,
   (cond (x.d==(5:Int))
   (∃v35,af h (Addr.add ⟨B,0,none⟩ 3)=some v35 ∧
   ae Tryz.prog ω 99 [pp C,v35,(.string ⟨#[115]⟩)] h (fun r36 h37 =>
   J31 r36 h37) X)
   (∃J39:RT,
   (cond (x.d==(6:Int))
   (J39 (.bool (x.d==(6:Int))) h)
   (J39 (.bool (x.d==(7:Int))) h)) ∧
   ∀y9 (d41:Nat→Value) (h42:Hp),J39 y9 h42 →
   ∃J44:RT,
   (asB y9 fun b48=>cond b48
   (∃v49,af h42 (Addr.add ⟨B,0,none⟩ 2)=some v49 ∧
   ae Tryz.prog ω 99 [pp C,v49,(.string ⟨#[115]⟩)] h42 (fun r50 h51 =>
   J44 r50 h51) X)
   (∃J53:RT,
   (cond (x.d==(8:Int))
   (J53 (.bool (x.d==(8:Int))) h42)
   (J53 (.bool (x.d==(9:Int))) h42)) ∧
   ∀y2 (d55:Nat→Value) (h56:Hp),J53 y2 h56 →
   ∃J58:RT,
   (asB y2 fun b62=>cond b62
   (∃v63,af h56 (Addr.add ⟨B,0,none⟩ 2)=some v63 ∧
   ae Tryz.prog ω 99 [pp C,v63,(.string ⟨#[114]⟩)] h56 (fun r64 h65 =>
   J58 r64 h65) X)
   (∃J67:RT,
   (cond (x.d==(11:Int))
   (J67 (.bool (x.d==(11:Int))) h56)
   (J67 (.bool (x.d==(12:Int))) h56)) ∧
   ∀zM (d69:Nat→Value) (h70:Hp),J67 zM h70 →
   ∃J72:RT,
   (asB zM fun b76=>cond b76
   (∃v77,af h70 (Addr.add ⟨B,0,none⟩ 3)=some v77 ∧
   ae Tryz.prog ω 99 [pp C,v77,(.string ⟨#[114]⟩)] h70 (fun r78 h79 =>
   J72 r78 h79) X)
   (∃J81:Hp→Prop,
   (cond (x.d==(2:Int))
   (∃v84,af h70 (Addr.add ⟨B,0,none⟩ 2)=some v84 ∧
   ae Tryz.prog ω 99 [pp C,v84,(.string ⟨#[105]⟩)] h70 (fun r85 h86 =>
   J81 h86) X)
   (J81 h70)) ∧
   ∀(d82:Nat→Value) (h83:Hp),J81 h83 →
   J72 (.string ⟨#[]⟩) h83)) ∧
   ∀E5 (d74:Nat→Value) (h75:Hp),J72 E5 h75 →
   J58 E5 h75)) ∧
   ∀G2 (d60:Nat→Value) (h61:Hp),J58 G2 h61 →
   J44 G2 h61)) ∧
   ∀Ht (d46:Nat→Value) (h47:Hp),J44 Ht h47 →
   J31 Ht h47)) ∧
   ∀Hx (d33:Nat→Value) (h34:Hp),J31 Hx h34 →
    Hx=.string (kwh l a x)∧NS T h0 C h34 pv st nv bv a (kff l a x)∧KC C h h34:=by
 have must:∀(nm bg:ByteArray),de x=some (nm,bg)→bg.size=1→ae Tryz.prog ω 99 [pp C,.string nm,.string bg] h (fun r h'=>r=.string (kwh l a x)∧NS T h0 C h' pv st nv bv a (kff l a x)∧KC C h h') X:=fun nm bg hN hb=>by
  have e1:kwh l a x=(fV l nm bg a (0,0)).1:=by unfold kwh;rw [hN]
  have e2:kff l a x=(fV l nm bg a (0,0)).2:=by unfold kff;rw [hN]
  rw [e1,e2];exact u6 ns hn ht nm bg hb X
 refine ⟨fun r h'=>r=.string (kwh l a x)∧NS T h0 C h' pv st nv bv a (kff l a x)∧KC C h h',ah (fun hc=>?_) (fun hc=>?_),fun _ _ _ hh=>hh⟩
 ·refine lx hB (j:=3) rfl ?_;exact must x.b sB (by unfold de;rw [if_pos (Ze hc)]) (by decide)
 have n5:=Qa.1 hc;refine ⟨fun u h'=>u=.bool (decide (x.d=6∨x.d=7))∧h=h',ah (fun hc=>?_) (fun hc=>?_),?_⟩
 ·exact ⟨by rw [hc,Z6 (.inl (Ze hc))],rfl⟩
 ·have:=Qa.1 hc;refine ⟨?_,rfl⟩
  congr 1
  rw [Qz];simp [this]
 rintro _ _ _ ⟨rfl,rfl⟩;refine ⟨fun r h'=>r=.string (kwh l a x)∧NS T h0 C h' pv st nv bv a (kff l a x)∧KC C h h',?_,fun _ _ _ hh=>hh⟩;rw [asB_bool];refine ah (fun hc=>?_) (fun hc=>?_)
 ·refine lx hB (j:=2) rfl ?_;exact must x.a sB (by unfold de;rw [if_neg n5,if_pos (Qj hc)]) (by decide)
 have n67:=Qc hc;refine ⟨fun u h'=>u=.bool (decide (x.d=8∨x.d=9))∧h=h',ah (fun hc=>?_) (fun hc=>?_),?_⟩
 ·exact ⟨by rw [hc,Z6 (.inl (Ze hc))],rfl⟩
 ·have:=Qa.1 hc;refine ⟨?_,rfl⟩
  congr 1
  rw [Qz];simp [this]
 rintro _ _ _ ⟨rfl,rfl⟩;refine ⟨fun r h'=>r=.string (kwh l a x)∧NS T h0 C h' pv st nv bv a (kff l a x)∧KC C h h',?_,fun _ _ _ hh=>hh⟩;rw [asB_bool];refine ah (fun hc=>?_) (fun hc=>?_)
 ·refine lx hB (j:=2) rfl ?_;exact must x.a rB (by unfold de;rw [if_neg n5,if_neg n67,if_pos (Qj hc)]) (by decide)
 have n89:=Qc hc;refine ⟨fun u h'=>u=.bool (decide (x.d=11∨x.d=12))∧h=h',ah (fun hc=>?_) (fun hc=>?_),?_⟩
 ·exact ⟨by rw [hc,Z6 (.inl (Ze hc))],rfl⟩
 ·have:=Qa.1 hc;refine ⟨?_,rfl⟩
  congr 1
  rw [Qz];simp [this]
 rintro _ _ _ ⟨rfl,rfl⟩;refine ⟨fun r h'=>r=.string (kwh l a x)∧NS T h0 C h' pv st nv bv a (kff l a x)∧KC C h h',?_,fun _ _ _ hh=>hh⟩;rw [asB_bool];refine ah (fun hc=>?_) (fun hc=>?_)
 ·refine lx hB (j:=3) rfl ?_;exact must x.b rB (by unfold de;rw [if_neg n5,if_neg n67,if_neg n89,if_pos (Qj hc)]) (by decide)
 have n12:=Qc hc;have hN:de x=none:=by unfold de;rw [if_neg n5,if_neg n67,if_neg n89,if_neg n12]
 have e1:kwh l a x=e0:=by unfold kwh;rw [hN]
 rw [e1];refine ⟨fun h'=>NS T h0 C h' pv st nv bv a (kff l a x)∧KC C h h',ah (fun hc=>?_) (fun hc=>?_),fun _ _ hh=>⟨rfl,hh⟩⟩
 ·have e2:kff l a x=(fV l x.a iB a (0,0)).2:=by unfold kff;rw [hN];exact if_pos (Ze hc)
  rw [e2];refine lx hB (j:=2) rfl ?_;refine ae.use (u6 ns hn ht x.a iB (by decide)) ?_
  rintro _ h2 ⟨_,ns2,k2⟩;exact ⟨ns2,k2⟩
 ·have e2:kff l a x=(0,0):=by unfold kff;rw [hN];exact if_neg (Qa.1 hc)
  rw [e2];exact ⟨ns,ay.refl _ _⟩
end
theorem Pr (env:List Vr)(m:Int)(x:St):Zf (kff env m x):=by
 unfold kff;cases de x with
 |none =>
  show Zf (if _ then _ else _)
  split
  ·exact vB Zf0 _ _ _ _
  ·exact Zf0
 |some q=>exact vB Zf0 _ _ _ _
theorem Ma {x:St}(h:x.d=2):de x=none:=by
 unfold de;rw [if_neg (by omega),if_neg (by omega),if_neg (by omega),if_neg (by omega)]
theorem Mx {ab:List Sg}{env:List Vr}{m:Int}{x:St}(hE:x.d=2→∃y,x.e[0]?=some y)(h:(kff env m x).1≠0):kuf ab env m x=kff env m x:=by
 unfold kuf jr;unfold kff at h ⊢;unfold oT;cases hN:de x with
 |some q =>
  rw [hN] at h;exact if_pos h▸rfl
 |none =>
  rw [hN] at h;have h:(if x.d=2 then (fV env x.a iB m (0,0)).2 else (0,0)).1≠0:=h
  by_cases hd:x.d=2
  ·rw [if_pos hd] at h;obtain ⟨y,hy⟩:=hE hd;show (if (0:Int)≠0 then _ else _:ByteArray×(Int×Int)).2=if _ then _ else _
   rw [if_neg (by decide),if_pos hd]
   show iU ab env m x e0 (0,0)=_;unfold iU;rw [if_pos hd,hy];exact (Mh h env m).1 y
  ·rw [if_neg hd] at h;exact absurd rfl h
theorem HW {ab:List Sg}{env:List Vr}{m:Int}{x:St}(h:kff env m x=(0,0)):kuf ab env m x=iU ab env m x (oT env m x (0,0)).1 (0,0)∧(x.d=2→(fV env x.a iB m (0,0)).2=(0,0)):=by
 have hk:(oT env m x (0,0)).2=(0,0):=by
  unfold kff at h;unfold oT;cases hN:de x with
  |none=>rfl
  |some q =>
   rw [hN] at h;exact h
 refine ⟨?_,fun hd=>?_⟩
 ·unfold kuf jr;rw [hk,if_neg (by decide)]
 ·unfold kff at h;rw [Ma hd] at h;have h:(if x.d=2 then (fV env x.a iB m (0,0)).2 else (0,0))=(0,0):=h
  rwa [if_pos hd] at h
theorem Om {env:List Vr}(ht:TyE env){m:Int}{x:St}(hd:x.d=6)(h:kff env m x=(0,0)):(oT env m x (0,0)).1=(kwh env m x).extract 1 (kwh env m x).size∧1≤(kwh env m x).size:=by
 have hN:de x=some (x.a,sB):=by unfold de;rw [if_neg (by omega),if_pos (.inl hd)]
 unfold kff at h;unfold oT kwh;rw [hN] at h ⊢;have hg:=(Ct ht (nm:=x.a) (bg:=sB) (at_:=m) (f:=(0,0)) (by have h:(fV env x.a sB m (0,0)).2=(0,0):=h;rw [h])).1.pos
 refine ⟨?_,hg⟩;show (if _ then _ else _)=_
 rw [if_neg];rintro (e|e)
 ·rw [e] at hg;exact absurd hg (by decide)
 ·omega
theorem Du {ab:List Sg}{env:List Vr}{m:Int}{x:St}{of:ByteArray}(h2:x.d=2→(fV env x.a iB m (0,0)).2=(0,0))(n6:x.d≠6)(n10:x.d≠10)(n4:x.d≠4)
  (h1:x.d=1∨x.d=2∨x.d=3∨x.d=13∨x.d=14→x.e.length=1) (h0:¬(x.d=1∨x.d=2∨x.d=3∨x.d=13∨x.d=14)→x.e=[]):iU ab env m x of (0,0)=jo env m x.e (0,0):=by
 unfold iU
 by_cases hd:x.d=1∨x.d=2∨x.d=3∨x.d=13∨x.d=14
 ·obtain ⟨y,hy⟩:=List.length_eq_one_iff.1 (h1 hd);rw [hy];have hk:jo env m [y] (0,0)=yU env m y (0,0):=by
   unfold jo;unfold jo;rfl
  rw [hk]
  by_cases h22:x.d=2
  ·rw [if_pos h22,h2 h22];rfl
  ·rw [if_neg h22,if_pos (by omega)]
   rfl
 ·rw [if_neg (by omega),if_neg (by omega),if_neg n6,if_neg n10,if_neg n4,h0 hd]
  unfold jo;rfl
section
variable  {ω:Amb}{T:TypeId}{h0:Hp}{C:Nat}{pv nv bv:Value}{a:Int}
set_option maxHeartbeats 1600000 in
theorem F7 {p:List Sg}{k0:Nat}(hk0:k0≤p.length)(hp:SgS h0 pv p){l bd:List Vr}(ht:TyE l)(hnC:∀b,nv.ownBlock=some b→b≠C)(x:St)
  (hE:x.d=1∨x.d=2∨x.d=3∨x.d=6∨x.d=13∨x.d=14→∃y,x.e[0]?=some y) (h1:x.d=1∨x.d=2∨x.d=3∨x.d=13∨x.d=14→x.e.length=1)
  (hn0:x.d≠6→x.d≠10→x.d≠4→¬(x.d=1∨x.d=2∨x.d=3∨x.d=13∨x.d=14)→x.e=[]) (htx:x.t.size≤20000) {h:Hp} {ve vb vl:Value} (he:ExS h0 ve x.e)
  (ns:NS T h0 C h pv (k0:Int) nv bv a (0,0)) (hn:Nms h nv l) (hbn:Nms h bv bd) (X:XT) :
  ae Tryz.prog ω 73 [pp C,.agg (stC x ve vb vl).toArray] h (fun r h'=>KC C h h'∧NS T h0 C h' pv (k0:Int) nv bv a (if dh bd x=true then (9,a) else kuf (p.take k0) l a x)∧((if dh bd x=true then ((9,a):Int×Int) else kuf (p.take k0) l a x).1=0→r=.string (kwh l a x))) X:=by
 refine fk ω _ _ h _ X ?_;unfold cH;simp only [mw,nnK_ptr,asP_some];have hb1:=ai (h:=h) (o:=.cells (stC x ve vb vl).toArray 39 (0,0));have kp:=ay.push (S:=fun _=>False) h (.cells (stC x ve vb vl).toArray 39 (0,0));generalize h.push (.cells (stC x ve vb vl).toArray 39 (0,0))=h1' at *;have ns1:=ns.aE kp;have kb1:=KC.of (C:=C) kp;have hn1:=hn.more kp;have hbn1:=hbn.more kp;have hne:h.size≠C:=by have:=ns.lt;omega
 refine ⟨fun u h'=>u=.bool (dh bd x)∧h1'=h',?_,?_⟩
 ·rw [Fe];refine lx hb1 (j:=0) (u:=.int .i64 x.d) rfl ?_;refine ae.use (zn x.d h1') ?_;rintro _ _ ⟨rfl,rfl⟩;rw [asB_bool];refine ah (fun hc=>?_) (fun hc=>?_)
  rotate_left
  ·rw [hc];exact ⟨rfl,rfl⟩
  rw [hc,Za];refine lx hb1 (j:=2) (u:=.string x.a) rfl ?_;refine ae.use (tJ ns1 hbn1 x.a) ?_;rintro _ _ ⟨rfl,rfl⟩;rw [asB_bool];refine ah (fun hc=>?_) (fun hc=>?_)
  ·rw [hc];exact ⟨rfl,rfl⟩
  rw [hc,Z9];refine lx hb1 (j:=0) (u:=.int .i64 x.d) rfl ?_;rw [asK_int];refine ah (fun hc=>?_) (fun hc=>?_)
  rotate_left
  ·rw [Z0 (Qa.1 hc)];exact ⟨rfl,rfl⟩
  rw [Z6 (Ze hc),Za];refine lx hb1 (j:=3) (u:=.string x.b) rfl ?_;refine ae.use (tJ ns1 hbn1 x.b) ?_;rintro _ _ ⟨rfl,rfl⟩;rw [asB_bool];refine ah (fun hc=>?_) (fun hc=>?_)
  ·rw [hc];exact ⟨rfl,rfl⟩
  rw [hc,Z9];refine lx hb1 (j:=2) (u:=.string x.a) rfl ?_;refine lx hb1 (j:=3) (u:=.string x.b) rfl ?_;rw [asS_str,asS_str,eqB];exact ⟨rfl,rfl⟩
 rintro _ _ _ ⟨rfl,rfl⟩;rw [asB_bool];refine ah (fun hc=>?_) (fun hc=>?_)
 ·rw [hc];refine ae.use (dG ns1 9) ?_;rintro _ h2 ⟨ns2,k2⟩;exact ⟨kb1.trans k2,ns2,fun h9=>absurd h9 (by decide:¬(9:Int)=0)⟩
 rw [hc,if_neg Qe];refine lx hb1 (j:=0) (u:=.int .i64 x.d) rfl ?_;refine ⟨fun r h'=>r=.string (kwh l a x)∧NS T h0 C h' pv (k0:Int) nv bv a (kff l a x)∧KC C h1' h',?_,?_⟩
 ·simp only [asK_int];exact NC ht.l x hb1 ns1 hn1 X
 rintro _ _ h2 ⟨rfl,ns2,k2⟩;have kb2:=kb1.trans k2;have hb2:=k2.get hb1 hne;have hn2:=hn1.iO k2 hnC;refine ⟨_,lx' (j:=5) ns2.c rfl,?_⟩;rw [asK_int];refine ah (fun hc=>?_) (fun hc=>?_)
 ·have hb:=Zd.1 hc;rw [Mx (fun hd=>hE (.inr (.inl hd))) hb];exact ⟨kb2,ns2,fun h9=>absurd h9 hb⟩
 have hz:=Pr l a x (by simpa using hc)
 rw [hz] at ns2;obtain ⟨hgood,hg2⟩:=HW (ab:=p.take k0) hz;rw [hgood];refine lx hb2 (j:=0) (u:=.int .i64 x.d) rfl ?_;refine ⟨fun h'=>KC C h h'∧NS T h0 C h' pv (k0:Int) nv bv a (iU (p.take k0) l a x (oT l a x (0,0)).1 (0,0)),?_,fun _ h' hh=>⟨hh.1,hh.2,fun _=>rfl⟩⟩;simp only [asK_int];refine ⟨_,?_,fun _ _ hh=>hh⟩;refine ah (fun hc=>?_) (fun hc=>?_)
 ·have hd:=Ze hc;obtain ⟨y,hy⟩:=hE (by omega)
  obtain ⟨e6,g6⟩:=Om ht hd hz;have hk:iU (p.take k0) l a x (oT l a x (0,0)).1 (0,0)=jj l a y (oT l a x (0,0)).1 (0,0):=by
   unfold iU;rw [if_neg (by omega),if_neg (by omega),if_pos hd,hy]
  rw [hk,e6];refine lx hb2 (j:=6) (u:=ve) rfl ?_;refine he.vz ns2.k hy fun w' hw'=>?_;rw [asS_str];refine ⟨by decide,by omega,by omega,?_⟩
  refine ae.use (xa ht.l hnC y _ hw' ns2 hn2) ?_;rintro _ h3 ⟨ns3,k3⟩;exact ⟨kb2.trans k3,ns3⟩
 have n6:=Qa.1 hc;refine ⟨_,?_,fun _ _ hh=>hh⟩;refine ah (fun hc=>?_) (fun hc=>?_)
 ·have hd:=Ze hc;have hk:iU (p.take k0) l a x (oT l a x (0,0)).1 (0,0)=nx (p.take k0) l a x (0,0):=by
   unfold iU;rw [if_neg (by omega),if_neg (by omega),if_neg n6,if_pos hd]
  rw [hk];unfold nx;refine lx hb2 (j:=2) (u:=.string x.a) rfl ?_;refine ae.use (xq hk0 hp ns2 x.a) ?_;rintro _ _ ⟨rfl,hr⟩;rcases hr with ⟨rfl,hnone⟩|⟨k,g,rfl,hkk,hg,hfind⟩
  ·rw [asK_int,hnone];refine cf (by decide) ?_
   refine ae.use (dG ns2 12) ?_;rintro _ h3 ⟨ns3,k3⟩;exact ⟨kb2.trans k3,ns3,fun h9=>absurd h9 (by decide:¬(12:Int)=0)⟩
  rw [asK_int,hfind];refine ba (Z0 (by omega)) ?_
  refine ⟨_,lx' (j:=0) ns2.c rfl,?_⟩;simp only [asI_int];show aO pv fun a9 l10 c11=>0≤(k:Int)∧(k:Int) < (l10:Int)∧_;obtain ⟨us,vp,vb',q1,q2,hps,_⟩:=hp.at_ hg;refine bP.rdO (q1.aE ns2.k) (i:=k) (o:=2) (Q6.1 hg).1 (u:=vp) (by rw [q2];rfl) ?_
  refine bP.sl (hps.aE ns2.k).1 fun _ _=>?_;refine lx hb2 (j:=6) (u:=ve) rfl ?_;refine (he.aE ns2.k).sl fun _ _=>?_;refine ah (fun hc=>?_) (fun hc=>?_)
  ·have hne':g.ps.length≠x.e.length:=by have h9:=Zd.1 hc;omega
   rw [if_pos hne'];refine ae.use (dG ns2 15) ?_;rintro _ h3 ⟨ns3,k3⟩;exact ⟨kb2.trans k3,ns3,fun h9=>absurd h9 (by decide:¬(15:Int)=0)⟩
  have hlen:g.ps.length=x.e.length:=by
   have h9:¬((g.ps.length:Int)≠(x.e.length:Int)):=fun h9=>by
    rw [Zd.2 h9] at hc;cases hc
   omega
  rw [if_neg (Z8 hlen)];have hmax:=he.max;have hzl:(x.e.zip g.ps).length=x.e.length:=by rw [List.length_zip,hlen,Nat.min_self]
  refine ⟨fun t h'=>∃k:Nat,t=.int .i64 k∧k≤x.e.length∧NS T h0 C h' pv (k0:Int) nv bv a (oh l a ((x.e.zip g.ps).take k) (0,0))∧KC C h2 h',fun t _=>match t with|.int _ k=>x.e.length - k.toNat|_=>0,
   ⟨0,rfl,by omega,ns2,ay.refl _ _⟩,?_⟩
  rintro _ _ h5 ⟨j,rfl,hj,ns5,k5⟩;refine bP.sl (hps.aE ns5.k).1 fun _ _=>?_;rw [asK_int];refine ah (fun hc=>?_) (fun hc=>?_)
  rotate_left
  ·have hc:=Qc hc;obtain rfl:j=x.e.length:=by omega
   rw [←hzl,Qo] at ns5;exact ⟨kb2.trans k5,ns5⟩
  have hjl:j < x.e.length:=by
   have:=Qj hc;omega
  have hx:=Q7 hjl;generalize x.e[j]=y at hx;have hpp:=Q7 (l:=g.ps) (i:=j) (by omega)
  generalize g.ps[j]=q at hpp;refine lx (k5.get hb2 hne) (j:=6) (u:=ve) rfl ?_;refine he.vz ns5.k hx fun w' hw'=>?_;refine bP.rdT (hps.aE ns5.k).1 eA hpp (o:=1) (u:=.string q.2) rfl ?_;refine ae.use (xa ht.l hnC y q.2 hw' ns5 (hn2.iO k5 hnC)) ?_;rintro _ h7 ⟨ns7,k7⟩;have hsn:oh l a ((x.e.zip g.ps).take (j+1)) (0,0)=jj l a y q.2 (oh l a ((x.e.zip g.ps).take j) (0,0)):=by
   rw [aW (G6 hx hpp)];unfold oh;rw [List.foldl_append];rfl
  rw [asK_int,i64_in (by omega) (by omega)]
  exact ⟨⟨j+1,by simp,by omega,by rw [hsn];exact ns7,k5.trans k7⟩,by simp;omega⟩
 have n10:=Qa.1 hc;refine ⟨_,?_,fun _ _ hh=>hh⟩;refine ah (fun hc=>?_) (fun hc=>?_)
 ·have hd:=Ze hc;have hk:iU (p.take k0) l a x (oT l a x (0,0)).1 (0,0)=(if 3 < x.t.size then kfl (if x.n < 1∨5 < x.n then kfl (0,0) 14 a else (0,0)) 11 a else if x.n < 1∨5 < x.n then kfl (0,0) 14 a else (0,0)):=by
   unfold iU;rw [if_neg (by omega),if_neg (by omega),if_neg n6,if_neg n10,if_pos hd]
  rw [hk];refine ⟨decide (x.n < 1∨5 < x.n),?_,fun _=>?_⟩
  ·refine lx hb2 (j:=5) (u:=.int .i64 x.n) rfl ?_;rw [asK_int];refine ah (fun hc=>?_) (fun hc=>?_)
   ·exact ⟨by rw [Z6 (.inl (Qj hc))],trivial⟩
   have:=Qc hc;refine lx hb2 (j:=5) (u:=.int .i64 x.n) rfl ?_;rw [asK_int];refine ⟨?_,trivial⟩
   congr 1
   rw [Qz];simp;omega
  refine ⟨fun h'=>NS T h0 C h' pv (k0:Int) nv bv a (if x.n < 1∨5 < x.n then kfl (0,0) 14 a else (0,0))∧KC C h2 h',ah (fun hc=>?_) (fun hc=>?_),?_⟩
  ·rw [if_pos (Qj hc)];exact ae.use (dG ns2 14) fun _ h3 hh=>hh
  ·rw [if_neg (Qc hc)];exact ⟨ns2,ay.refl _ _⟩
  rintro _ h4 ⟨ns4,k4⟩;refine lx (k4.get hb2 hne) (j:=4) (u:=.string x.t) rfl ?_;rw [asS_str,i64_in (by omega) (by omega)]
  refine ⟨_,?_,fun _ _ hh=>hh⟩;refine ah (fun hc=>?_) (fun hc=>?_)
  ·have:3 < x.t.size:=by have:=Qj hc;omega
   rw [if_pos this];refine ae.use (dG ns4 11) ?_;rintro _ h5 ⟨ns5,k5⟩;exact ⟨(kb2.trans k4).trans k5,ns5⟩
  ·have:¬3 < x.t.size:=by have:=Qc hc;omega
   rw [if_neg this];exact ⟨kb2.trans k4,ns4⟩
 have n4:=Qa.1 hc;rw [Du hg2 n6 n10 n4 h1 (hn0 n6 n10 n4)];have hmax:=he.max;refine ⟨fun t h'=>∃k:Nat,t=.int .i64 k∧k≤x.e.length∧NS T h0 C h' pv (k0:Int) nv bv a (jo l a (x.e.take k) (0,0))∧KC C h2 h',fun t _=>match t with|.int _ k=>x.e.length - k.toNat|_=>0,
  ⟨0,rfl,by omega,ns2,ay.refl _ _⟩,?_⟩
 rintro _ _ h5 ⟨k,rfl,hk,ns5,k5⟩;have hb5:=k5.get hb2 hne;refine lx hb5 (j:=6) (u:=ve) rfl ?_;refine (he.aE ns5.k).sl fun _ _=>?_;rw [asK_int];refine ah (fun hc=>?_) (fun hc=>?_)
 rotate_left
 ·have hc:=Qc hc;obtain rfl:k=x.e.length:=by omega
  rw [Qo] at ns5;exact ⟨kb2.trans k5,ns5⟩
 have hkl:k < x.e.length:=by
  have:=Qj hc;omega
 have hx:=Q7 hkl;generalize x.e[k]=y at hx;refine lx hb5 (j:=6) (u:=ve) rfl ?_;refine he.vz ns5.k hx fun w' hw'=>?_;refine ae.use (B2 ht.l hnC _ y (Qw _) h5 w' _ hw' ns5 (hn2.iO k5 hnC)) ?_;rintro _ h7 ⟨ns7,k7⟩;rw [←qJ,←aW hx] at ns7;rw [asK_int,i64_in (by omega) (by omega)]
 exact ⟨⟨k+1,by simp,by omega,ns7,k5.trans k7⟩,by simp;omega⟩
end
structure NB (T:TypeId)(h0:Hp)(C:Nat)(h:Hp)(pv:Value)(st:Int)(nv bv:Value)(a:Int)(f:Int×Int)(l bd:List Vr):Prop where
 ns:NS T h0 C h pv st nv bv a f
 on:cI h h0.size 56 2 nv l.length (l.flatMap vrC)
 ob:cI h h0.size 56 2 bv bd.length (bd.flatMap vrC)
 dj:∀k,nv.ownBlock=some k→bv.ownBlock≠some k
theorem NB.OW {T:TypeId}(hT:T≠56){h0 h:Hp}{C:Nat}{pv nv bv:Value}{st a:Int}{f:Int×Int}{l bd:List Vr}(nb:NB T h0 C h pv st nv bv a f l bd):(∀k,nv.ownBlock=some k→k≠C)∧∀k,bv.ownBlock=some k→k≠C:=by
 have h1:=nb.ns.c;refine ⟨fun k hk e=>?_,fun k hk e=>?_⟩
 ·obtain ⟨c,hc⟩:=nb.on.blk hk;rw [e,h1] at hc;cases hc;exact hT rfl
 ·obtain ⟨c,hc⟩:=nb.ob.blk hk;rw [e,h1] at hc;cases hc;exact hT rfl
abbrev KN (C:Nat)(nv bv:Value)(h h':Hp):Prop:=ay (fun k=>k=C∨nv.ownBlock=some k∨bv.ownBlock=some k) h h'
section
variable  {ω:Amb}{T:TypeId}{h0:Hp}{C:Nat}{pv nv bv:Value}{st a:Int}
set_option maxHeartbeats 800000 in
theorem Gk (hT:T≠56){l bd:List Vr}(hl:l.length≤1000000)(hbd:bd.length≤1000000)(v:Vr){h:Hp}{f:Int×Int}(nb:NB T h0 C h pv st nv bv a f l bd)(X:XT) :
  ae Tryz.prog ω 41 [pp C,.string v.1,.string v.2] h (fun _ h'=>∃nv' bv',NB T h0 C h' pv st nv' bv' a f (l++[v]) (bd++[v])∧KN C nv bv h h'∧(∀k,nv'.ownBlock=some k→nv.ownBlock=some k∨h.size≤k)∧∀k,bv'.ownBlock=some k→bv.ownBlock=some k∨h.size≤k) X:=by
 refine iV ω _ _ _ h _ X ?_;unfold dD;simp only [nnK_ptr,asP_some,oneK_str];obtain ⟨nC,bC⟩:=nb.OW hT;have c0:=nb.ns.c;have hk0:=nb.ns.k.size;have nlt:=nb.on.lt;have blt:=nb.ob.lt;refine ⟨_,lx' (j:=2) c0 rfl,trivial,?_⟩;refine du (bt:=32) (cs:=vrC v) Bl nb.on rfl (uQ v) (by omega) (by omega) hk0 fun nv' h1 on1 hg1 _ hown1=>?_
 have k1:ay (fun k=>nv.ownBlock=some k) h h1:=ay.grown hg1 fun k hk _=>hk;have c1:=k1.get c0 (fun e=>nC C e rfl);have ob1:=nb.ob.aE (h':=h1) fun k hk hlt=>k1.block k hlt fun e=>nb.dj k e hk;rw [yJ (rp on1),aT,Zb];have hz:=k1.size;refine aR c1 (by show 2 < 7;decide) ?_
 have e2:(naC pv st nv bv a f).toArray.setIfInBounds 2 nv'=(naC pv st nv' bv a f).toArray:=by simp [naC]
 rw [e2];have k2:=ay.set (S:=fun k=>k=C) (h:=h1) (.cells (naC pv st nv' bv a f).toArray T (0,0)) (b:=C) rfl;have c2:=av (o:=.cells (naC pv st nv' bv a f).toArray T (0,0)) c1;generalize h1.setIfInBounds C (.cells (naC pv st nv' bv a f).toArray T (0,0))=h2 at *;have hCl:=fu c0;have nC':∀k,nv'.ownBlock=some k→k≠C:=fun k hk e=>by
  rcases hown1 k hk with h9|h9
  ·exact nC k h9 e
  ·omega
 have on2:=on1.aE (h':=h2) fun k hk hlt=>k2.block k hlt (nC' k hk);have ob2:=ob1.aE (h':=h2) fun k hk hlt=>k2.block k hlt (bC k hk);have hz2:=k2.size;refine ⟨_,lx' (j:=3) c2 rfl,trivial,?_⟩;refine du (bt:=32) (cs:=vrC v) Bl ob2 rfl (uQ v) (by omega) (by omega) (by omega) fun bv' h3 ob3 hg3 _ hown3=>?_
 have k3:ay (fun k=>bv.ownBlock=some k) h2 h3:=ay.grown hg3 fun k hk _=>hk;have c3:=k3.get c2 (fun e=>bC C e rfl);have dj':∀k,nv'.ownBlock=some k→bv.ownBlock≠some k:=fun k hk e=>by
  rcases hown1 k hk with h9|h9
  ·exact nb.dj k h9 e
  ·have:=(blt k e).2;omega
 have on3:=on2.aE (h':=h3) fun k hk hlt=>k3.block k hlt fun e=>dj' k hk e;rw [yJ (rp ob3),aT,Zb];have hz3:=k3.size;refine aR c3 (by show 3 < 7;decide) ?_
 have e4:(naC pv st nv' bv a f).toArray.setIfInBounds 3 bv'=(naC pv st nv' bv' a f).toArray:=by simp [naC]
 rw [e4];have k4:=ay.set (S:=fun k=>k=C) (h:=h3) (.cells (naC pv st nv' bv' a f).toArray T (0,0)) (b:=C) rfl;have c4:=av (o:=.cells (naC pv st nv' bv' a f).toArray T (0,0)) c3;generalize h3.setIfInBounds C (.cells (naC pv st nv' bv' a f).toArray T (0,0))=h4 at *;have bC':∀k,bv'.ownBlock=some k→k≠C:=fun k hk e=>by
  rcases hown3 k hk with h9|h9
  ·exact bC k h9 e
  ·omega
 have K:KN C nv bv h h4:=(((k1.mono fun k _ e=>.inr (.inl e)).trans (k2.mono fun k _ e=>.inl e)).trans (k3.mono fun k _ e=>.inr (.inr e))).trans (k4.mono fun k _ e=>.inl e);have nlt2:=on2.lt;refine ⟨nv',bv',⟨⟨nb.ns.k.cA (K.mono fun k _ hh=>.inr ?_),nb.ns.b,c4⟩,?_,?_,fun k hk e=>?_⟩,K,hown1,fun k hk=>?_⟩
 ·have:=nb.ns.b;rcases hh with e|e|e
  ·omega
  ·exact (nlt k e).1
  ·exact (blt k e).1
 ·rw [Qd,Qb,List.flatMap_singleton];exact on3.aE fun k hk hlt=>k4.block k hlt (nC' k hk)
 ·rw [Qd,Qb,List.flatMap_singleton];exact ob3.aE fun k hk hlt=>k4.block k hlt (bC' k hk)
 ·rcases hown3 k e with h9|h9
  ·exact dj' k hk h9
  ·have:=(nlt2 k hk).2;omega
 ·rcases hown3 k hk with h9|h9
  ·exact .inl h9
  ·exact .inr (by omega)
end
def KEq (l env:List Vr):Prop:=∀s,cu l s=cu env s
theorem vg {l env:List Vr}(h:KEq l env)(nm bg:ByteArray)(m:Int)(f:Int×Int):fV l nm bg m f=fV env nm bg m f:=by
 unfold fV;rw [h nm]
theorem Jh {l env:List Vr}(h:KEq l env)(m:Int)(x:Ex)(f:Int×Int):li l m x f=li env m x f:=by
 unfold li;rw [vg h]
mutual
theorem yB {l env:List Vr}(h:KEq l env)(m:Int):∀(x:Ex) (f:Int×Int),yU l m x f=yU env m x f
 |.mk op nm n r,f=>by
  unfold yU;rw [Jh h,Ac h m r]
theorem Ac {l env:List Vr}(h:KEq l env)(m:Int):∀(r:List Ex) (f:Int×Int),jo l m r f=jo env m r f
 |[],f=>by
  unfold jo;rfl
 |x::r,f=>by
  unfold jo;rw [yB h m x,Ac h m r]
end
theorem y4 {l env:List Vr}(h:KEq l env)(m:Int)(x:Ex)(t:ByteArray)(f:Int×Int):jj l m x t f=jj env m x t f:=by
 unfold jj;rw [yB h,vg h]
theorem CE {l env:List Vr}(h:KEq l env)(m:Int):∀(r:List (Ex×(ByteArray×ByteArray))) (f:Int×Int),oh l m r f=oh env m r f
 |[],_=>rfl
 |q::r,f=>by
  show oh l m r (jj l m q.1 q.2.2 f)=oh env m r (jj env m q.1 q.2.2 f);rw [y4 h,CE h m r]
theorem Lr {l env:List Vr}(h:KEq l env)(m:Int)(x:St)(f:Int×Int):oT l m x f=oT env m x f:=by
 unfold oT;cases de x with
 |none=>rfl
 |some q =>
  show (if (fV l q.1 q.2 m f).1=e0∨x.d=5 then _ else _,_)=(if (fV env q.1 q.2 m f).1=e0∨x.d=5 then _ else _,_)
  rw [vg h]
theorem HC {ab:List Sg}{l env:List Vr}(h:KEq l env)(m:Int)(x:St)(f:Int×Int):nx ab l m x f=nx ab env m x f:=by
 unfold nx;cases ab.find? fun g=>decide (g.nm=x.a) with
 |none=>rfl
 |some g =>
  show (if _ then _ else oh l m _ f)=if _ then _ else oh env m _ f
  rw [CE h]
theorem Io {ab:List Sg}{l env:List Vr}(h:KEq l env)(m:Int)(x:St)(of:ByteArray)(f:Int×Int):iU ab l m x of f=iU ab env m x of f:=by
 unfold iU;rw [vg h,HC h];cases x.e[0]? with
 |none=>rfl
 |some y =>
  simp only [yB h,y4 h]
theorem Jk {ab:List Sg}{l env:List Vr}(h:KEq l env)(m:Int)(x:St)(f:Int×Int):jr ab l m x f=jr ab env m x f:=by
 unfold jr;rw [Lr h,Io h]
theorem NY {l env:List Vr}(h:KEq l env)(m:Int)(x:St):kwh l m x=kwh env m x:=by
 unfold kwh;cases de x with
 |none=>rfl
 |some q =>
  show (fV l q.1 q.2 m (0,0)).1=(fV env q.1 q.2 m (0,0)).1;rw [vg h]
theorem KEq.add {l env:List Vr}(h:KEq l env){v:Vr}(hv:cu l v.1=none):KEq (l++[v]) (v::env):=fun s=>by
 rw [pe]
 by_cases hs:v.1=s
 ·subst hs;rw [hv];unfold cu;rw [List.find?_cons,List.find?_cons,Z6 rfl]
 ·have h1:cu [v] s=none:=by
   unfold cu;rw [List.find?_cons,Z0 hs];rfl
  have h2:cu (v::env) s=cu env s:=by
   unfold cu;rw [List.find?_cons,Z0 hs]
  rw [h1,h2,←h s];cases cu l s<;>rfl
theorem Fb {l bd:List Vr}(hsub:∀v∈l,v.1∈bd.map (·.1)){s:ByteArray}(h:tk bd s=0):cu l s=none:=by
 refine D8 fun v hv e=>?_;obtain ⟨w,hw,hwv⟩:=List.mem_map.1 (hsub v hv);have h1:w∈bd.filter fun u=>decide (u.1=s):=List.mem_filter.2 ⟨hw,Z6 (hwv.trans e)⟩;have:=List.length_pos_of_mem h1;unfold tk at h;omega
theorem KS {ab:List Sg}{env:List Vr}(ht:TyE env){m:Int}{x:St}(hf:(kuf ab env m x).1=0):(x.d=5→kof ab env m x=kwh env m x)∧(x.d=11∨x.d=12→kof ab env m x=(kwh env m x).extract 1 (kwh env m x).size∧1≤(kwh env m x).size):=by
 have h0:(oT env m x (0,0)).2.1=0:=by
  unfold kuf jr at hf
  by_cases h0:(oT env m x (0,0)).2.1=0
  ·exact h0
  ·rw [if_pos h0] at hf;exact absurd hf h0
 have hk:kof ab env m x=(oT env m x (0,0)).1:=by
  unfold kof jr;rw [if_neg (Z8 h0)]
 refine ⟨fun hd=>?_,fun hd=>?_⟩
 ·have hN:de x=some (x.b,sB):=by unfold de;rw [if_pos hd]
  rw [hk];unfold oT kwh;rw [hN];show (if _ then _ else _)=_
  rw [if_pos (.inr hd)]
 ·have hN:de x=some (x.b,rB):=by unfold de;rw [if_neg (by omega),if_neg (by omega),if_neg (by omega),if_pos hd]
  rw [hk];unfold oT at h0 ⊢;unfold kwh;rw [hN] at h0 ⊢;have hg:=(Ct ht (f:=(0,0)) h0).1.pos;refine ⟨?_,hg⟩;show (if _ then _ else _)=_
  rw [if_neg];rintro (e|e)
  ·rw [e] at hg;exact absurd hg (by decide)
  ·omega
theorem cI.cut {h:Hp}{base:Nat}{e:TypeId}{size:Nat}{a:Option Addr}{n c:Nat}{xs:List Value}(ho:cI h base e size (.slice a n c) n xs){m:Nat}(hm:m≤n) :
  cI h base e size (.slice (if c=0 then a else Option.map (fun y=>Addr.add y (0*size)) a) m c) m (xs.take (m*size))∧n≤c:=by
 obtain ⟨hl,hx⟩:=ho;rcases hx with ⟨hv,h0⟩|⟨g,o,cap,cur,hv,hb,hg,hnc,hcm,hcs,hcell⟩
 ·cases hv;obtain rfl:m=0:=by omega
  refine ⟨⟨by simp,.inl ⟨rfl,rfl⟩⟩,Zc _⟩
 ·cases hv;have hms:m*size≤n*size:=Nat.mul_le_mul_right _ hm;refine ⟨⟨by rw [Qp,hl];omega,.inr ⟨g,o,c,cur,?_,hb,hg,by omega,hcm,hcs,?_⟩⟩,hnc⟩
  ·by_cases hc:c=0
   ·rw [if_pos hc]
   ·rw [if_neg hc];simp [Addr.add]
  ·rw [←hcell,List.take_take,Nat.min_eq_left hms]
mutual
theorem EF (ab:List Sg):∀(x:St) {env bd:List Vr} {m:Int} {q:List Vr×Int},kst ab x env bd m=.ok q→∃t,q.1=bd++t
 |.mk d at_ a b t n e body els,env,bd,m,q,h=>by
  unfold kst at h
  split at h
  ·cases h
  split at h
  ·cases h
  obtain ⟨b1,m1,h1,h2⟩:=my h;obtain ⟨t1,e1⟩:=qI ab body h1;obtain ⟨t2,e2⟩:=qI ab els h2;have e1:b1=_:=e1;exact ⟨_,by rw [e2,e1,Qk,Qk]⟩
theorem qI (ab:List Sg):∀(l:List St) {env bd:List Vr} {m:Int} {q:List Vr×Int},j8 ab l env bd m=.ok q→∃t,q.1=bd++t
 |[],_,_,_,_,h=>by
  unfold j8 at h;cases h;exact ⟨[],by simp⟩
 |x::r,env,bd,m,q,h=>by
  unfold j8 at h;obtain ⟨b1,m1,h1,h2⟩:=my h;obtain ⟨t1,e1⟩:=EF ab x h1;obtain ⟨t2,e2⟩:=qI ab r h2;have e1:b1=_:=e1;exact ⟨_,by rw [e2,e1,Qk]⟩
end
def Hs (l bd:List Vr):Prop:=∀v∈l,v.1∈bd.map (·.1)
theorem Hs.more {l bd:List Vr}(h:Hs l bd)(t:List Vr):Hs l (bd++t):=fun v hv=>by
 rw [List.map_append];exact List.mem_append_left _ (h v hv)
theorem Hs.both {l bd:List Vr}(h:Hs l bd)(t:List Vr):Hs (l++t) (bd++t):=fun v hv=>by
 rw [List.map_append];rcases Z3.1 hv with hv|hv
 ·exact List.mem_append_left _ (h v hv)
 ·exact List.mem_append_right _ (List.mem_map_of_mem hv)
theorem KEq.new {l env bd:List Vr}{x:St}(h:KEq l env)(hs:Hs l bd)(ht:dh bd x=false)(of:ByteArray):∀k,k≤(bc x of).length→KEq (l++(bc x of).take k) (((bc x of).take k).reverse++env)
 |0,_=>by simpa using h
 |k+1,hk=>by
  have ih:=KEq.new h hs ht of k (by omega)
  have hv:=Q7 (l:=bc x of) (i:=k) (by omega)
  have hn:=knew ht of hv;generalize (bc x of)[k]=v at hv hn;rw [aW hv,List.reverse_append,←Qk];exact ih.add (Fb (hs.both _) hn)
def NW (T:TypeId)(h0:Hp)(C:Nat)(pv:Value)(st:Int)(nv bv:Value)(h h':Hp)(a:Int)(f:Int×Int)(l bd:List Vr):Prop :=
 KN C nv bv h h'∧∃nv' bv',NB T h0 C h' pv st nv' bv' a f l bd∧(∀k,nv'.ownBlock=some k→nv.ownBlock=some k∨h.size≤k)∧∀k,bv'.ownBlock=some k→bv.ownBlock=some k∨h.size≤k
section
variable  {ω:Amb}{T:TypeId}{h0:Hp}{C:Nat}{pv nv bv:Value}{st a:Int}
theorem NW.of {h:Hp}{f:Int×Int}{l bd:List Vr}(nb:NB T h0 C h pv st nv bv a f l bd):NW T h0 C pv st nv bv h h a f l bd :=
 ⟨ay.refl _ _,nv,bv,nb,fun _ hk=>.inl hk,fun _ hk=>.inl hk⟩
theorem NW.seq {h h1 h2:Hp}{nv1 bv1:Value}{a':Int}{f':Int×Int}{l' bd':List Vr}(K:KN C nv bv h h1)(o1:∀k,nv1.ownBlock=some k→nv.ownBlock=some k∨h.size≤k)(o2:∀k,bv1.ownBlock=some k→bv.ownBlock=some k∨h.size≤k)
  (w:NW T h0 C pv st nv1 bv1 h1 h2 a' f' l' bd'):NW T h0 C pv st nv bv h h2 a' f' l' bd':=by
 obtain ⟨K2,nv2,bv2,nb,p1,p2⟩:=w;have hz:=K.size;refine ⟨K.cA (K2.mono fun b _ hh=>?_),nv2,bv2,nb,fun k hk=>?_,fun k hk=>?_⟩
 ·rcases hh with e|e|e
  ·exact .inl (.inl e)
  ·rcases o1 b e with h9|h9
   ·exact .inl (.inr (.inl h9))
   ·exact .inr h9
  ·rcases o2 b e with h9|h9
   ·exact .inl (.inr (.inr h9))
   ·exact .inr h9
 ·rcases p1 k hk with h9|h9
  ·exact o1 k h9
  ·exact .inr (by omega)
 ·rcases p2 k hk with h9|h9
  ·exact o2 k h9
  ·exact .inr (by omega)
theorem NB.iO (hT:T≠56){h h':Hp}{a':Int}{f f':Int×Int}{l bd:List Vr}(nb:NB T h0 C h pv st nv bv a f l bd)(k:KC C h h')(ns:NS T h0 C h' pv st nv bv a' f'):NB T h0 C h' pv st nv bv a' f' l bd:=by
 obtain ⟨n1,b1⟩:=nb.OW hT;exact ⟨ns,nb.on.aE fun b hb hlt=>k.block b hlt fun e=>n1 b hb e,nb.ob.aE fun b hb hlt=>k.block b hlt fun e=>b1 b hb e,nb.dj⟩
theorem NB.more {h h':Hp}{f:Int×Int}{l bd:List Vr}(nb:NB T h0 C h pv st nv bv a f l bd)(k:KF h h'):NB T h0 C h' pv st nv bv a f l bd:=⟨nb.ns.aE k,nb.on.more k,nb.ob.more k,nb.dj⟩
theorem tH (hT:T≠56){l bd:List Vr}(hl:l.length≤1000000)(hbd:bd.length≤1000000)(v:Vr){h h1:Hp}{f:Int×Int}(w:NW T h0 C pv st nv bv h h1 a f l bd)(X:XT) :
  ae Tryz.prog ω 41 [pp C,.string v.1,.string v.2] h1 (fun _ h'=>NW T h0 C pv st nv bv h h' a f (l++[v]) (bd++[v])) X:=by
 obtain ⟨K,nv1,bv1,nb,o1,o2⟩:=w;refine ae.use (Gk hT hl hbd v nb) ?_;rintro _ h2 ⟨nv2,bv2,nb2,K2,p1,p2⟩;exact NW.seq K o1 o2 ⟨K2,nv2,bv2,nb2,p1,p2⟩
abbrev O6 (C n:Nat)(h:Hp)(K:Hp→Prop):Prop :=
 ∃v,af h (Addr.add ⟨C,0,none⟩ 2)=some v∧bD v fun a9 _ c9=>0≤(((0:Nat):Int):Int)∧(((0:Nat):Int):Int)≤(n:Int)∧(n:Int)≤(c9:Int) ∧
  aM h (Addr.add ⟨C,0,none⟩ 2) (.slice (if c9=Int.toNat ((0:Nat):Int) then a9 else Option.map (fun y=>Addr.add y (Int.toNat ((0:Nat):Int)*2)) a9) (Int.toNat (n:Int) - Int.toNat ((0:Nat):Int)) (c9 - Int.toNat ((0:Nat):Int))) K
theorem OS (hT:T≠56){h h1:Hp}{f:Int×Int}{l l' bd:List Vr}(w:NW T h0 C pv st nv bv h h1 a f (l++l') bd){K:Hp→Prop}(hK:∀h2,NW T h0 C pv st nv bv h h2 a f l bd→K h2):O6 C l.length h1 K:=by
 obtain ⟨K0,nv1,bv1,nb,o1,o2⟩:=w;obtain ⟨n1,b1⟩:=nb.OW hT;have on:=nb.on;refine ⟨_,lx' (j:=2) nb.ns.c rfl,?_⟩;have hsl:ca nv1:=bP.ca on.tM;obtain ⟨g,n,c,rfl⟩:=hsl;have hn:n=(l++l').length:=by
  rcases on.2 with ⟨hv,h0'⟩|⟨_,_,_,_,hv,_⟩
  ·cases hv;exact h0'.symm
  ·cases hv;rfl
 subst hn;obtain ⟨oc,hc⟩:=cI.cut on (m:=l.length) (by rw [Qd];omega)
 rw [asSl_sl];refine ⟨by decide,by omega,by rw [Qd] at hc;omega,?_⟩
 rw [aT,Zb];refine aR nb.ns.c (by show 2 < 7;decide) ?_
 show K (h1.setIfInBounds C (.cells ((naC pv st (.slice g (l++l').length c) bv1 a f).toArray.setIfInBounds 2 (.slice (if c=0 then g else Option.map (fun y=>Addr.add y (0*2)) g) l.length c)) T (0,0)))
 generalize hnv:(Value.slice (if c=0 then g else Option.map (fun y=>Addr.add y (0*2)) g) l.length c)=nv2 at *
 have e2:(naC pv st (.slice g (l++l').length c) bv1 a f).toArray.setIfInBounds 2 nv2=(naC pv st nv2 bv1 a f).toArray:=by simp [naC]
 rw [e2];have k2:KC C h1 (h1.setIfInBounds C (.cells (naC pv st nv2 bv1 a f).toArray T (0,0))):=ay.set (S:=fun k=>k=C) (h:=h1) (.cells (naC pv st nv2 bv1 a f).toArray T (0,0)) (b:=C) rfl;have c2:=av (o:=.cells (naC pv st nv2 bv1 a f).toArray T (0,0)) nb.ns.c;generalize h1.setIfInBounds C (.cells (naC pv st nv2 bv1 a f).toArray T (0,0))=h2 at *;have hown:∀k,nv2.ownBlock=some k→(Value.slice g (l++l').length c).ownBlock=some k:=by
  subst hnv;intro k hk;cases g with
  |none=>split at hk<;>exact hk
  |some y=>split at hk<;>exact hk
 have hx:((l++l').flatMap vrC).take (l.length*2)=l.flatMap vrC:=by
  rw [Qb,List.take_left'];have:∀l:List Vr,(l.flatMap vrC).length=l.length*2:=fun l=>by
   induction l with
   |nil=>rfl
   |cons v r ih=>rw [Ql,Qd,ih,Qn];show 2+_=_;omega
  exact this l
 rw [hx] at oc;refine hK h2 (NW.seq K0 o1 o2 ⟨k2.mono fun b _ hb=>.inl hb,nv2,bv1,⟨⟨nb.ns.k.cA (k2.mono fun b _ hb=>.inr (by have hb:b=C:=hb;have:=nb.ns.b;omega)),nb.ns.b,c2⟩,?_,?_,fun k hk=>nb.dj k (hown k hk)⟩,fun k hk=>.inl (hown k hk),fun k hk=>.inl hk⟩)
 ·exact oc.aE fun k hk hlt=>k2.block k hlt (n1 k (hown k hk))
 ·exact nb.ob.aE fun k hk hlt=>k2.block k hlt (b1 k hk)
theorem Mu {w:Value}{f:Int×Int}{l:List St}{h:Hp}(hf:f.1≠0)(ns:NS T h0 C h pv st nv bv a f)(hw:StS h0 w l)(X:XT) :
  ae Tryz.prog ω 42 [pp C,w] h (fun _ h'=>h=h') X:=by
 refine cC ω _ _ h _ X ?_;unfold bY;simp only [nnK_ptr,asP_some];refine ⟨fun t h'=>t=.int .i64 0∧h=h',fun _ _=>0,⟨rfl,rfl⟩,?_⟩;rintro _ _ _ ⟨rfl,rfl⟩;refine ⟨false,?_,fun _=>ba rfl rfl⟩;refine (hw.aE ns.k).sl fun _ _=>?_;rw [asK_int];refine ah (fun hc=>?_) (fun hc=>⟨rfl,trivial⟩);refine ⟨_,lx' (j:=5) ns.c rfl,?_⟩;rw [asK_int];exact ⟨by rw [Qa.2 hf],trivial⟩
def NPo (T:TypeId)(h0:Hp)(C:Nat)(pv:Value)(st:Int)(nv bv:Value)(h h':Hp)(l:List Vr)(res:KR):Prop:=match res with
 |.ok q=>∃l',NW T h0 C pv st nv bv h h' q.2 (0,0) (l++l') q.1
 |.error e=>e.1≠0∧∃l' bd' a',NW T h0 C pv st nv bv h h' a' e (l++l') bd'
def NL (ω:Amb)(T:TypeId)(h0:Hp)(C:Nat)(pv:Value)(st:Int)(ab:List Sg)(N:Nat):Prop:=∀(xs:List St) (deep:Int),cq xs < N→vV deep xs→∀(h:Hp) (l bd env:List Vr) (a:Int) (nv bv w:Value),
 KEq l env→TyE env→TyE l→Hs l bd→l.length+2*cq xs≤1000000→bd.length+2*cq xs≤1000000→0≤a→a+cq xs≤1000000→StS h0 w xs→NB T h0 C h pv st nv bv a (0,0) l bd→∀X,
  ae Tryz.prog ω 42 [pp C,w] h (fun _ h'=>NPo T h0 C pv st nv bv h h' l (j8 ab xs env bd a)) X
theorem nblk (hT : T ≠ 56) {ab : List Sg} {N : Nat} (hNL : NL ω T h0 C pv st ab N) {deep : Int} {x : St} (hG : stG deep x) (hN : cq x.body < N ∧ cq x.els < N) {l lb bd env : List Vr} {h h1 : Hp} {b0 : Nat} {ve vb vl : Value} {X : XT}
    (hK1 : KEq (l ++ lb) (lb.reverse ++ env)) (hK0 : KEq l env) (hT1 : TyE (lb.reverse ++ env)) (hTl : TyE (l ++ lb)) (hsub : Hs l bd) (hl : (l ++ lb).length + 2 * (cq x.body + cq x.els) ≤ 1000000) (hbd : (bd ++ lb).length + 2 * (cq x.body + cq x.els) ≤ 1000000)
    (ha0 : 0 ≤ a) (ha : a + (cq x.body + cq x.els : Nat) ≤ 1000000) (hvb : StS h0 vb x.body) (hvl : StS h0 vl x.els) (hb : ∀ h', KN C nv bv h h' → h'[b0]? = some (.cells (stC x ve vb vl).toArray 39 (0, 0)))
    (w : NW T h0 C pv st nv bv h h1 a (0, 0) (l ++ lb) (bd ++ lb)) {K : Hp → Prop} (hK : ∀ h2 (res : KR), vP (j8 ab x.body (lb.reverse ++ env) (bd ++ lb) a) (fun b1 m1 => j8 ab x.els env b1 m1) = res → (match res with
      | .ok q => NW T h0 C pv st nv bv h h2 q.2 (0, 0) l q.1
      | .error e => e.1 ≠ 0 ∧ ∃ bd' a', NW T h0 C pv st nv bv h h2 a' e l bd') → K h2) :
    ∃ v, af h1 (Addr.add ⟨b0, 0, none⟩ 7) = some v ∧ ae Tryz.prog ω 42 [pp C, v] h1 (fun _ h4 => O6 C l.length h4 fun h5 =>
      ∃ v6, af h5 (Addr.add ⟨b0, 0, none⟩ 8) = some v6 ∧ ae Tryz.prog ω 42 [pp C, v6] h5 (fun _ h7 => O6 C l.length h7 K) X) X := by
  obtain ⟨K0, nv1, bv1, nb, o1, o2⟩ := w
  refine lx (hb _ K0) (j := 7) rfl ?_
  refine ae.use (hNL x.body (deep + 1) hN.1 (jR.1 hG).2.1 h1 (l ++ lb) (bd ++ lb) (lb.reverse ++ env) a nv1 bv1 vb hK1 hT1 hTl (hsub.both lb) (by omega) (by omega) ha0 (by omega) hvb nb) ?_
  intro _ h4 hp
  cases hr : j8 ab x.body (lb.reverse ++ env) (bd ++ lb) a with
  | error e =>
    rw [hr] at hp
    obtain ⟨hne, l', bd', a', w4⟩ := hp
    have w4 := NW.seq K0 o1 o2 w4
    rw [Qk] at w4
    refine OS hT w4 fun h5 w5 => ?_
    refine lx (hb _ w5.1) (j := 8) rfl ?_
    obtain ⟨_, nv5, bv5, nb5, _, _⟩ := id w5
    refine ae.use (Mu hne nb5.ns hvl) ?_
    rintro _ _ rfl
    have w5' : NW T h0 C pv st nv bv h h5 a' e (l ++ []) bd' := by rw [Z1]; exact w5
    refine OS hT w5' fun h6 w6 => ?_
    exact hK h6 (.error e) (by rw [hr]; rfl) ⟨hne, bd', a', w6⟩
  | ok q =>
    have hlen := nt ab x.body hr
    obtain ⟨t, ht⟩ := qI ab x.body hr
    rw [hr] at hp
    obtain ⟨l', w4⟩ := hp
    have w4 := NW.seq K0 o1 o2 w4
    rw [Qk] at w4
    refine OS hT w4 fun h5 w5 => ?_
    refine lx (hb _ w5.1) (j := 8) rfl ?_
    obtain ⟨K5, nv5, bv5, nb5, p1, p2⟩ := id w5
    have hTe : TyE env := fun v hv => hT1 v (List.mem_append_right _ hv)
    have hTl' : TyE l := fun v hv => hTl v (List.mem_append_left _ hv)
    rw [Qd] at hl
    refine ae.use (hNL x.els (deep + 1) hN.2 (jR.1 hG).2.2 h5 l q.1 env q.2 nv5 bv5 vl hK0 hTe hTl' (by rw [ht, Qk]; exact hsub.more _) (by omega) (by omega) (by omega) (by omega) hvl nb5) ?_
    intro _ h6 hp6
    cases hr2 : j8 ab x.els env q.1 q.2 with
    | error e =>
      rw [hr2] at hp6
      obtain ⟨hne, l2, bd2, a2, w6⟩ := hp6
      refine OS hT (NW.seq K5 p1 p2 w6) fun h7 w7 => ?_
      exact hK h7 (.error e) (by rw [hr]; exact hr2) ⟨hne, bd2, a2, w7⟩
    | ok q2 =>
      rw [hr2] at hp6
      obtain ⟨l2, w6⟩ := hp6
      refine OS hT (NW.seq K5 p1 p2 w6) fun h7 w7 => ?_
      exact hK h7 (.ok q2) (by rw [hr]; exact hr2) w7
end
end Go.Proofs.YtkeeboomikkojaaGreatDoor
