import Derived.Test.YtkeeboomikkojaaGreatDoorRn8
import Derived.Test.YtkeeboomikkojaaGreatDoorY9g
import Derived.Test.YtkeeboomikkojaaGreatDoorRn1
set_option maxRecDepth 100000
namespace Go.Proofs.YtkeeboomikkojaaGreatDoor
open Go Go.Sx Go.Sx.Tk Go.Sx.Rn Go.Proofs.YtkeeboomikkojaaGreatDoor.Sx
def gone (x:Int×Int):List PanicEntry:=[⟨.iface 67 (.agg #[.int .i64 x.1,.int .i64 x.2]),false,false⟩]
def psr (vl:Value)(e n d o t:Int):List Value:=[vl,.int .i64 e,.int .i64 n,.int .i64 d,.int .i64 o,.int .i64 t]
structure TkS (h:Hp)(G:Nat)(v:Value)(ts:List Tok):Prop where
 at_:bm h 4 v ts.length (ts.flatMap Tok.f)
 cap:∀a l c,v=.slice a l c→l≤c
 low:∀k,v.ownBlock=some k→k < G
theorem bm.Eb {h h':Hp}{S:Nat→Prop}{size:Nat}{v:Value}{n:Nat}{xs:List Value}(hs:bm h size v n xs)(hk:ar S h h')(hn:∀k,v.ownBlock=some k→¬S k):bm h' size v n xs :=
 ⟨hs.1,hs.2.imp id fun ⟨b,o,cap,hv,hc⟩=>⟨b,o,cap,hv,fun j u hu=>hk.cell (hc j u hu) (hn b (by rw [hv];rfl))⟩⟩
theorem TkS.aC {h h':Hp}{S:Nat→Prop}{G:Nat}{v:Value}{ts:List Tok}(hs:TkS h G v ts)(k:ar S h h')(hn:∀b,b < G→¬S b):TkS h' G v ts :=
 ⟨bm.Eb hs.at_ k fun b hb=>hn b (hs.low b hb),hs.cap,hs.low⟩
structure PA (h:Hp)(G:Nat)(ts:List Tok)(e n d o t:Int):Prop where
 ex:∃vl,h[G]?=some (.cells (psr vl e n d o t).toArray 71 (0,0))∧TkS h G vl ts
theorem PA.aC {h h':Hp}{S:Nat→Prop}{G:Nat}{ts:List Tok}{e n d o t:Int}(hs:PA h G ts e n d o t)(k:ar S h h')(hn:∀b,b≤G→¬S b):PA h' G ts e n d o t:=by
 obtain ⟨vl,h1,h2⟩:=hs.ex;exact ⟨vl,k.get h1 (hn G (Zd _)),h2.aC k fun b hb=>hn b (by omega)⟩
theorem PA.lt {h:Hp}{G:Nat}{ts:List Tok}{e n d o t:Int}(hs:PA h G ts e n d o t):G < h.size:=by
 obtain ⟨vl,h1,_⟩:=hs.ex;exact gd h1
abbrev KG (G:Nat)(h h':Hp):Prop:=ar (fun b=>b=G) h h'
theorem fS {G:Nat}{h h':Hp}(k:KF h h'):KG G h h':=k.mono fun _ _ h=>h.elim
def PB (h:Hp)(G:Nat):Prop:=∃vl e n d o t,h[G]?=some (.cells (psr vl e n d o t).toArray 71 (0,0))
theorem PA.pb {h:Hp}{G:Nat}{ts:List Tok}{e n d o t:Int}(hs:PA h G ts e n d o t):PB h G:=by
 obtain ⟨vl,h1,_⟩:=hs.ex;exact ⟨_,_,_,_,_,_,h1⟩
structure KX (G:Nat)(h h':Hp):Prop where
 k:KG G h h'
 b:PB h' G
theorem KX.after {G:Nat}{h h1 h':Hp}(k:KG G h h1)(x:KX G h1 h'):KX G h h':=⟨k.trans x.k,x.b⟩
theorem jO {S:Nat→Prop}{h0 h h':Hp}{L:Nat}(k:ar S h0 h)(hL:h0.size≤L)(k':ar (fun b=>b=L) h h'):ar S h0 h':=k.cS (k'.mono fun b _ e=>.inr (by omega))
theorem TkS.rd0 {h:Hp}{G:Nat}{v:Value}{t:Tok}{r:List Tok}(hs:TkS h G v (t::r)){o:Nat}{u:Value}(hu:t.f[o]?=some u){K:Value→Prop}(hk:K u) :
  aI v fun a l _=>0≤(0:Int)∧0 < (l:Int)∧∃w,af h (Addr.add (Addr.add a (Int.toNat 0*4)) o)=some w∧K w :=
 bm.rdT (f:=Tok.f) (sz:=4) hs.at_ Tok.len (i:=0) (e:=t) rfl hu hk
theorem TkS.rdC {h:Hp}{G:Nat}{v:Value}{t:Tok}{r:List Tok}(hs:TkS h G v (t::r)){K:List Value→Prop}(hk:K t.f) :
  aI v fun a l _=>0≤(0:Int)∧0 < (l:Int)∧∃C,aj h (Addr.add a (Int.toNat 0*4)) 4 C∧K C :=
 bm.rdS (f:=Tok.f) (sz:=4) hs.at_ Tok.len (i:=0) (e:=t) rfl hk
theorem TkS.len {h:Hp}{G:Nat}{v:Value}{ts:List Tok}(hs:TkS h G v ts){F:Option Addr→Nat→Nat→Prop}(hf:∀a c,F a ts.length c):bR v F:=bm.sl hs.at_ hf
theorem TkS.tail {h:Hp}{G:Nat}{v:Value}{t:Tok}{r:List Tok}(hs:TkS h G v (t::r)){K:Value→Prop}(hk:∀v',one v'→TkS h G v' r→K v') :
  bR v fun a l c=>0≤(1:Int)∧(1:Int)≤(l:Int)∧(l:Int)≤(c:Int)∧K (.slice (if c=Int.toNat 1 then a else Option.map (fun y=>Addr.add y (Int.toNat 1*4)) a) (Int.toNat (l:Int) - Int.toNat 1) (c - Int.toNat 1)):=by
 have h1:=hs.at_.1;rcases hs.at_.2 with ⟨h0,_⟩|⟨b,o,c,rfl,hc⟩
 ·simp at h0
 ·have hcap:=hs.cap _ _ _ rfl;have hlow:=hs.low b rfl;simp only [Qn] at hcap;rw [asSl_sl];refine ⟨by omega,by simp only [Qn];omega,by simp only [Qn];omega,hk _ rfl ?_⟩
  have e1:Int.toNat 1=1:=rfl;have e2:Int.toNat (((t::r).length:Nat):Int) - 1=r.length:=by simp
  rw [e1,e2]
  by_cases hc1:c=1
  ·have hr:r=[]:=List.eq_nil_of_length_eq_zero (by omega)
   subst hr;rw [if_pos hc1];exact ⟨⟨rfl,.inl ⟨rfl,_,_,rfl⟩⟩,fun a l c' e=>by cases e;exact Nat.zero_le _,fun k hk=>by cases hk;exact hlow⟩
  ·rw [if_neg hc1];refine ⟨⟨?_,.inr ⟨b,o+4,c - 1,rfl,fun j u hu=>?_⟩⟩,fun a l c' e=>by cases e;omega,fun k hk=>by cases hk;exact hlow⟩
   ·have:=hs.at_.1;simp only [Ql,Qd,Qn,Tok.len] at this;omega
   ·have:=hc (4+j) u (by rw [Ql,Q2 (by rw [Tok.len];omega),Tok.len];simpa using hu)
    rw [Nat.add_assoc];exact this
section
variable  {ω:Amb}{h:Hp}{G:Nat}{ts:List Tok}{e n d o t:Int}
theorem eA (hp:PA h G ts e n d o t)(s:ByteArray)(X:XT) :
  aa Tryz.prog ω pU [.pointer (some ⟨G,0,none⟩),.string s] h (fun r h'=>r=.bool (isT (bytesOf s) ts)∧h=h') X:=by
 obtain ⟨vl,hb,htk⟩:=hp.ex;refine pY ω _ _ h _ X ?_;unfold ia;simp only [nnK_ptr,asP_some];refine ⟨fun v h'=>v=.bool (isT (bytesOf s) ts)∧h=h',?_,fun _ _ _ hj=>hj⟩;refine lx hb (j:=0) rfl ?_;refine htk.len fun _ _=>?_;cases ts with
 |nil=>exact ba rfl ⟨rfl,rfl⟩
 |cons x r =>
  refine cx (Z7 (by simp only [Qn];omega)) ?_
  refine lx hb (j:=0) rfl ?_;refine htk.rd0 (o:=0) rfl ?_;rw [asK_int];show cond (x.kind !=2) _ (Value.bool false=.bool (x.kind !=2&&bytesOf x.text==bytesOf s)∧h=h);refine ae (fun hc=>?_) (fun hc=>?_)
  ·refine lx hb (j:=0) rfl ?_;refine htk.rd0 (o:=2) rfl ?_;rw [asS_str,asS_str];refine ⟨?_,rfl⟩;show Value.bool _=.bool (x.kind !=2&&bytesOf x.text==bytesOf s);rw [hc,Zb,eqS]
   congr 1
   rw [Qz,decide_eq_true_eq,beq_iff_eq]
  ·rw [hc,Bool.false_and];exact ⟨rfl,rfl⟩
theorem du (hp:PA h G ts e n d o t)(code:Int)(X:XT)(hX:X (gone (pt e code ts)) h) :
  aa Tryz.prog ω cW [.pointer (some ⟨G,0,none⟩),.int .i64 code] h (fun _ _=>False) X:=by
 obtain ⟨vl,hb,htk⟩:=hp.ex;refine mE ω _ _ h _ X ?_;unfold fw;simp only [nnK_ptr,asP_some];refine lx hb (j:=1) rfl ?_;refine lx hb (j:=0) rfl ?_;refine htk.len fun _ _=>?_;refine ⟨fun a c h'=>a=.int .i64 (pt e code ts).2∧c=.int .i64 (pt e code ts).1∧h=h',?_,?_⟩
 ·cases ts with
  |nil =>
   refine ba rfl ?_;rw [asK_int];refine ⟨fun c h'=>c=.int .i64 (pt e code []).1∧h=h',?_,fun _ _ _ hj=>⟨rfl,hj.1,hj.2⟩⟩;unfold pt;refine ae (fun hc=>?_) (fun hc=>?_)
   ·rw [if_pos (Zg hc)];exact ⟨rfl,rfl⟩
   ·rw [if_neg (Qa.1 hc)];exact ⟨rfl,rfl⟩
  |cons x r =>
   refine cx (Z7 (by simp only [Qn];omega)) ?_
   refine lx hb (j:=0) rfl ?_;refine htk.rd0 (o:=1) rfl ?_;exact ⟨rfl,rfl,rfl⟩
 ·rintro _ _ _ _ ⟨rfl,rfl,rfl⟩;exact hX
theorem cz {x:Tok}{r:List Tok}(hp:PA h G (x::r) e n d o t)(X:XT) :
  aa Tryz.prog ω cU [.pointer (some ⟨G,0,none⟩)] h (fun v h'=>v=.agg x.f.toArray∧PA h' G r e n d o t∧KG G h h') X:=by
 have hlt:=hp.lt;obtain ⟨vl,hb,htk⟩:=hp.ex;refine nE ω _ h _ X ?_;unfold ff bf;simp only [nnK_ptr,asP_some];have hr1:=ah (h:=h) (o:=.cells #[(.int .i64 0),(.int .i64 0),(.string ⟨#[]⟩),(.int .i64 0)] 100 (0,0));have k1:=ar.push (S:=fun _=>False) h (.cells #[(.int .i64 0),(.int .i64 0),(.string ⟨#[]⟩),(.int .i64 0)] 100 (0,0));have z1:(h.push (.cells #[(.int .i64 0),(.int .i64 0),(.string ⟨#[]⟩),(.int .i64 0)] 100 (0,0))).size=h.size+1:=by simp
 generalize h.push (.cells #[(.int .i64 0),(.int .i64 0),(.string ⟨#[]⟩),(.int .i64 0)] 100 (0,0))=h1 at *;have hb1:=k1.get hb (by simp)
 have ht1:=htk.aC k1 (fun _ _ h=>h);refine lx hb1 (j:=0) rfl ?_;refine ht1.rdC ?_;refine ⟨rfl,Tok.one x,aA (cs:=x.f) rfl ?_⟩;have hr2:=ah (h:=h1) (o:=.cells x.f.toArray 100 (0,0));have k2:=ar.push (S:=fun _=>False) h1 (.cells x.f.toArray 100 (0,0));have z2:(h1.push (.cells x.f.toArray 100 (0,0))).size=h1.size+1:=by simp
 generalize h1.push (.cells x.f.toArray 100 (0,0))=h2 at *;have hb2:=k2.get hb1 (by simp)
 have hr12:=k2.get hr1 (by simp)
 have ht2:=ht1.aC k2 (fun _ _ h=>h);refine lx hb2 (j:=0) rfl ?_;refine TkS.tail (K:=fun w=>aJ h2 (Addr.add ⟨G,0,none⟩ 0) w _) ht2 fun v' hv1 hv'=>?_;refine aM (o:=0) hb2 (by simp [psr]) ?_
 rw [show (psr vl e n d o t).toArray.setIfInBounds 0 v'=(psr v' e n d o t).toArray from by simp [psr]]
 have hb3:=aq (o:=.cells (psr v' e n d o t).toArray 71 (0,0)) hb2;have k3:=ar.set (S:=fun b=>b=G) (h:=h2) (.cells (psr v' e n d o t).toArray 71 (0,0)) (b:=G) rfl;generalize h2.setIfInBounds G (.cells (psr v' e n d o t).toArray 71 (0,0))=h3 at *;have hr23:=k3.get hr2 (by omega)
 have hr13:=k3.get hr12 (by omega)
 refine ⟨_,ak hr23 rfl,rfl,Tok.one x,?_⟩;refine aW (o:=0) hr13 (by simp [Tok.f]) ?_
 rw [ca (by rfl)]
 have hb4:=aq (o:=.cells x.f.toArray 100 (0,0)) hr13;have k4:=ar.set (S:=fun b=>b=h.size) (h:=h3) (.cells x.f.toArray 100 (0,0)) (b:=h.size) rfl;generalize h3.setIfInBounds h.size (.cells x.f.toArray 100 (0,0))=h4 at *;refine ⟨_,ak hb4 rfl,rfl,?_,?_⟩
 ·exact PA.aC ⟨v',hb3,hv'.aC k3 fun b hb e=>by omega⟩ k4 fun b hb e=>by omega
 ·exact jO ((fS (k1.trans k2)).trans k3) (Zd _) k4
end
abbrev pp (G:Nat):Value:=.pointer (some ⟨G,0,none⟩)
def xt (e k:Int):List Tok→Except (Int×Int) (Tok×List Tok)
 |[]=>.error (6,e)
 |t::r=>if t.kind=k then .ok (t,r) else .error (5,t.at_)
theorem kD (e k:Int)(t:Tok)(r:List Tok):xt e k (t::r)=if t.kind=k then .ok (t,r) else .error (5,t.at_):=rfl
theorem pB (e:Int)(t:Tok)(r:List Tok):ee e (t::r)=if t.kind=2 then .ok (t.text,r) else .error (5,t.at_):=rfl
theorem uo (e:Int)(t:Tok)(r:List Tok):Ey e (t::r)=if t.kind=3 then .ok (t.n,r) else .error (5,t.at_):=rfl
theorem wG (e:Int)(ts:List Tok):ee e ts=aD (xt e 2 ts) fun q=>.ok (q.1.text,q.2):=by
 cases ts with
 |nil=>rfl
 |cons t r =>
  rw [pB,kD]
  by_cases h:t.kind=2
  ·rw [if_pos h,if_pos h];rfl
  ·rw [if_neg h,if_neg h];rfl
theorem Fx (e:Int)(ts:List Tok):Ey e ts=aD (xt e 3 ts) fun q=>.ok (q.1.n,q.2):=by
 cases ts with
 |nil=>rfl
 |cons t r =>
  rw [uo,kD]
  by_cases h:t.kind=3
  ·rw [if_pos h,if_pos h];rfl
  ·rw [if_neg h,if_neg h];rfl
theorem fU.mv {h h':Hp}{N N' S:Nat→Prop}{v:Value}{l:List Ex}(hs:fU h N v l)(k:ar S h h')(hn:∀b,N b→¬S b)(hm:∀b,N b→N' b):fU h' N' v l :=
 hs.map fun _ _ _ _ hs=>(hs.aC k hn).mono hm
theorem qk.mv {h h':Hp}{N N' S:Nat→Prop}{v:Value}{l:List St}(hs:qk h N v l)(k:ar S h h')(hn:∀b,N b→¬S b)(hm:∀b,N b→N' b):qk h' N' v l :=
 hs.map fun _ _ _ _ hs=>(hs.aC k hn).mono hm
def slN (v:Option Value):Nat:=match v with
 |some (.slice _ l _)=>l
 |_=>0
def tkN (G:Nat)(h:Hp):Nat:=match h[G]? with
 |some (.cells cs _ _)=>slN (cs.toList[0]?)
 |_=>0
theorem TkS.form {h:Hp}{G:Nat}{v:Value}{ts:List Tok}(hs:TkS h G v ts):∃a c,v=.slice a ts.length c:=by
 rcases hs.at_.2 with ⟨h0,a,c,rfl⟩|⟨b,o,c,rfl,_⟩
 ·exact ⟨a,c,by rw [h0]⟩
 ·exact ⟨_,_,rfl⟩
theorem PA.tkN {h:Hp}{G:Nat}{ts:List Tok}{e n d o t:Int}(hp:PA h G ts e n d o t):tkN G h=ts.length:=by
 obtain ⟨vl,hb,htk⟩:=hp.ex;obtain ⟨a,c,rfl⟩:=htk.form;unfold Go.Proofs.YtkeeboomikkojaaGreatDoor.tkN;rw [hb];rfl
theorem LW {C D:List Value}(hC:C.length=4):Pp C D=C++D:=by
 have hz:Ea.length=8:=by kernel_rfl
 unfold Pp;rw [show Ea.take (0*4)=[] from rfl,Z4,Q0 (by omega),List.take_of_length_le (by omega),List.drop_eq_nil_of_le (by rw [Qd,Qs];omega),Z1]
section
variable  {ω:Amb}{h:Hp}{G:Nat}{ts:List Tok}{e n d o t:Int}
theorem Ca (hp:PA h G ts e n d o t)(k:Int)(X:XT)(hX:∀x h',xt e k ts=.error x→KX G h h'→X (gone x) h') :
  aa Tryz.prog ω nz [pp G,.int .i64 k] h (fun v h'=>∃x r,xt e k ts=.ok (x,r)∧v=.agg x.f.toArray∧PA h' G r e n d o t∧KG G h h') X:=by
 have hlt:=hp.lt;refine mY ω _ _ h _ X ?_;unfold fC aQ;simp only [nnK_ptr,asP_some];have hr1:=ah (h:=h) (o:=.cells #[(.int .i64 0),(.int .i64 0),(.string ⟨#[]⟩),(.int .i64 0)] 100 (0,0));have k1:=ar.push (S:=fun _=>False) h (.cells #[(.int .i64 0),(.int .i64 0),(.string ⟨#[]⟩),(.int .i64 0)] 100 (0,0));generalize h.push (.cells #[(.int .i64 0),(.int .i64 0),(.string ⟨#[]⟩),(.int .i64 0)] 100 (0,0))=h1 at *
 have hp1:=hp.aC k1 (fun _ _ h=>h);obtain ⟨vl,hb,htk⟩:=hp1.ex;have hbad:∀{P:Hp→Prop},(∀y,xt e k ts=.error y→pt e 5 ts=y)→(∀x r,xt e k ts≠.ok (x,r))→aa Tryz.prog ω cW [pp G,.int .i64 5] h1 (fun _ h19=>P h19) X:=by
  intro P he hne;cases hk:xt e k ts with
  |ok q=>exact absurd hk (hne q.1 q.2)
  |error y =>
   refine aa.mono (du hp1 5 X ?_) (fun _ _ hf=>hf.elim) (fun _ _ hx=>hx);rw [he y hk];exact hX y h1 hk ⟨fS k1,hp1.pb⟩
 have hgood:∀(x:Tok) (r:List Tok),ts=x::r→x.kind=k→aa Tryz.prog ω cU [pp G] h1 (fun r20 h21=>asA r20 fun A22=>A22.size=4∧(∀u∈A22.toList,one u)∧av h21 ⟨h.size,0,none⟩ A22.toList fun h23 =>
   ∃C24,aj h23 ⟨h.size,0,none⟩ 4 C24∧∃x r,xt e k ts=.ok (x,r)∧(.agg C24.toArray:Value)=.agg x.f.toArray∧PA h23 G r e n d o t∧KG G h h23) X:=by
  rintro x r rfl hk;refine aa.use (cz hp1) ?_;rintro _ h2 ⟨rfl,hp2,k2⟩;have hr2:=k2.get hr1 (by omega)
  rw [asA_agg];refine ⟨rfl,Tok.one x,aW (o:=0) hr2 (by simp [Tok.f]) ?_⟩
  rw [ca (by rfl)]
  have hb4:=aq (o:=.cells x.f.toArray 100 (0,0)) hr2;have k4:=ar.set (S:=fun b=>b=h.size) (h:=h2) (.cells x.f.toArray 100 (0,0)) (b:=h.size) rfl;generalize h2.setIfInBounds h.size (.cells x.f.toArray 100 (0,0))=h4 at *;refine ⟨_,ak hb4 rfl,x,r,?_,rfl,hp2.aC k4 fun b hb e=>by omega,jO ((fS k1).trans k2) (Zd _) k4⟩
  rw [kD];exact if_pos hk
 cases ts with
 |nil =>
  refine ⟨true,?_,fun _=>?_⟩
  ·refine lx hb (j:=0) rfl ?_;refine htk.len fun _ _=>?_;exact cx rfl ⟨rfl,trivial⟩
  ·refine ⟨fun _=>False,?_,fun _ _ h=>h.elim⟩;exact hbad (P:=fun _=>False) (fun y hy=>by cases hy;rfl) (fun x r hk=>by cases hk)
 |cons x r =>
  refine ⟨x.kind !=k,?_,fun _=>?_⟩
  ·refine lx hb (j:=0) rfl ?_;refine htk.len fun _ _=>?_;refine ba (by simp only [Qn,Qa];omega) ?_
   refine lx hb (j:=0) rfl ?_;refine htk.rd0 (o:=0) rfl ?_;rw [asK_int,asK_int];exact ⟨rfl,trivial⟩
  ·refine ⟨fun h'=>x.kind=k∧h1=h',?_,?_⟩
   ·refine ae (fun hc=>?_) (fun hc=>?_)
    ·have hne:=Ze.1 hc;refine hbad (P:=fun h'=>x.kind=k∧h1=h') (fun y hy=>?_) (fun y r' hk=>?_)
     ·rw [kD,if_neg hne] at hy;cases hy;rfl
     ·rw [kD,if_neg hne] at hk;cases hk
    ·exact ⟨by simpa using hc,rfl⟩
   ·rintro _ _ ⟨hk,rfl⟩;exact hgood x r rfl hk
theorem jM (hp:PA h G ts e n d o t)(X:XT)(hX:∀x h',ee e ts=.error x→KX G h h'→X (gone x) h') :
  aa Tryz.prog ω nk [pp G] h (fun v h'=>∃s r,ee e ts=.ok (s,r)∧v=.string s∧PA h' G r e n d o t∧KG G h h') X:=by
 refine ns ω _ h _ X ?_;unfold fF;refine aa.mono (Ca hp 2 X fun x h' hx k=>hX x h' (by rw [wG,hx];rfl) k) ?_ (fun _ _ hx=>hx)
 rintro _ h1 ⟨x,r,hk,rfl,hp1,k1⟩;rw [asA_agg];exact ⟨x.text,r,by rw [wG,hk];rfl,rfl,hp1,k1⟩
theorem Cn (hp:PA h G ts e n d o t)(s:ByteArray)(vl:Value)(hvl:bm h 1 vl 1 [.string s])(X:XT)(hX:∀x h',bl e (bytesOf s) ts=.error x→KX G h h'→X (gone x) h') :
  aa Tryz.prog ω fK [pp G,vl] h (fun _ h'=>∃r,bl e (bytesOf s) ts=.ok r∧PA h' G r e n d o t∧KG G h h') X:=by
 refine ng ω _ _ h _ X ?_;unfold fu;refine bm.sl hvl fun _ _=>?_;refine ⟨fun v h'=>(v=.int .i64 0∧h=h')∨(v=.int .i64 1∧∃r,bl e (bytesOf s) ts=.ok r∧PA h' G r e n d o t∧KG G h h'),fun v _=>match v with|.int _ k=>1 - k.toNat|_=>0,.inl ⟨rfl,rfl⟩,?_⟩
 rintro _ _ h1 (⟨rfl,rfl⟩|⟨rfl,hfin⟩)
 ·rw [asK_int];refine cx (by decide) ?_
  refine bm.rd1 (i:=0) hvl rfl ?_;refine aa.use (eA hp s) ?_;rintro _ _ ⟨rfl,rfl⟩;rw [asB_bool];refine ⟨fun h'=>isT (bytesOf s) ts=true∧h=h',?_,?_⟩
  ·refine ae (fun hc=>?_) (fun hc=>?_)
   ·have hc:isT (bytesOf s) ts=false:=by simpa using hc
    refine aa.mono (du hp 5 X ?_) (fun _ _ hf=>hf.elim) (fun _ _ hx=>hx);refine hX _ h ?_ ⟨ar.refl _ _,hp.pb⟩;unfold bl;rw [hc,if_neg Qe]
   ·exact ⟨by simpa using hc,rfl⟩
  rintro _ _ ⟨hT,rfl⟩;cases ts with
  |nil=>cases hT
  |cons x r =>
   refine aa.use (cz hp) ?_;rintro _ h2 ⟨rfl,hp2,k2⟩;rw [asK_int,i64_in (by omega) (by omega)]
   refine ⟨.inr ⟨rfl,r,?_,hp2,k2⟩,by simp⟩
   unfold bl;rw [hT,if_pos rfl];rfl
 ·rw [asK_int];exact ba (by decide) hfin
theorem Gg {N:Nat→Prop}(hp:PA h G ts e n d o t)(ht:-1≤t∧t≤100000)(op:Int){a b:Ex}{wa wb:Value}(ha:fU h N wa a.l)(hb:fU h N wb b.l)(hN:∀k,N k→k < h.size∧k≠G)(X:XT) :
  aa Tryz.prog ω dh [pp G,.int .i64 op,.agg (exC a wa).toArray,.agg (exC b wb).toArray] h
   (fun r h'=>∃w,r=.agg (exC (bz op a b) w).toArray∧fU h' (fun k=>N k∨(h.size < k∧k < h'.size)) w [a,b]∧PA h' G ts e n d o (t+1)∧KG G h h') X:=by
 have hlt:=hp.lt;refine nN ω _ _ _ _ h _ X ?_;unfold fP;simp only [nnK_ptr,asP_some,show ∀C:List Value,Value.cells (.agg C.toArray)=C.toArray from fun _=>rfl]
 have hb1:=ah (h:=h) (o:=.cells (exC a wa).toArray 36 (0,0));have k1:=ar.push (S:=fun _=>False) h (.cells (exC a wa).toArray 36 (0,0));have z1:(h.push (.cells (exC a wa).toArray 36 (0,0))).size=h.size+1:=by simp
 generalize h.push (.cells (exC a wa).toArray 36 (0,0))=h1 at *;have hb2:=ah (h:=h1) (o:=.cells (exC b wb).toArray 36 (0,0));have k2:=ar.push (S:=fun _=>False) h1 (.cells (exC b wb).toArray 36 (0,0));have z2:(h1.push (.cells (exC b wb).toArray 36 (0,0))).size=h1.size+1:=by simp
 generalize h1.push (.cells (exC b wb).toArray 36 (0,0))=h2 at *;have hb3:=ah (h:=h2) (o:=.cells #[(.int .i64 0),(.string ⟨#[]⟩),(.int .i64 0),(.slice none 0 0)] 36 (0,0));have k3:=ar.push (S:=fun _=>False) h2 (.cells #[(.int .i64 0),(.string ⟨#[]⟩),(.int .i64 0),(.slice none 0 0)] 36 (0,0));have z3:(h2.push (.cells #[(.int .i64 0),(.string ⟨#[]⟩),(.int .i64 0),(.slice none 0 0)] 36 (0,0))).size=h2.size+1:=by simp
 generalize h2.push (.cells #[(.int .i64 0),(.string ⟨#[]⟩),(.int .i64 0),(.slice none 0 0)] 36 (0,0))=h3 at *;have k03:=(k1.trans k2).trans k3;obtain ⟨vl,hg,htk⟩:=(hp.aC k03 (fun _ _ h=>h)).ex;refine lx hg (j:=5) rfl ?_;rw [asK_int,i64_in (by omega) (by omega)]
 refine aM (o:=5) hg (by simp [psr]) ?_
 rw [show (psr vl e n d o t).toArray.setIfInBounds 5 (.int .i64 (t+1))=(psr vl e n d o (t+1)).toArray from by simp [psr]]
 have hg4:=aq (o:=.cells (psr vl e n d o (t+1)).toArray 71 (0,0)) hg;have k4:=ar.set (S:=fun b=>b=G) (h:=h3) (.cells (psr vl e n d o (t+1)).toArray 71 (0,0)) (b:=G) rfl;have z4:(h3.setIfInBounds G (.cells (psr vl e n d o (t+1)).toArray 71 (0,0))).size=h3.size:=by simp
 generalize h3.setIfInBounds G (.cells (psr vl e n d o (t+1)).toArray 71 (0,0))=h4 at *;have hp4:PA h4 G ts e n d o (t+1):=⟨vl,hg4,htk.aC k4 fun b hb e=>by omega⟩
 have hb14:=k4.get (k3.get (k2.get hb1 (by simp)) (by simp)) (by omega)
 have hb24:=k4.get (k3.get hb2 (by simp)) (by omega)
 have hb34:=k4.get hb3 (by omega)
 refine ⟨_,ak hb14 rfl,_,ak hb24 rfl,rfl,rfl,?_⟩;rw [oneK_int];refine ⟨trivial,?_,?_⟩
 ·intro u hu;simp only [List.mem_cons,List.not_mem_nil,or_false] at hu;rcases hu with rfl|rfl|rfl|rfl<;>rfl
 rw [LW (C:=(exC a wa).toArray.toList) (D:=(exC b wb).toArray.toList) rfl];have hb5:=ah (h:=h4) (o:=.cells (List.toArray ((exC a wa).toArray.toList++(exC b wb).toArray.toList)) 36 (0,0));have k5:=ar.push (S:=fun _=>False) h4 (.cells (List.toArray ((exC a wa).toArray.toList++(exC b wb).toArray.toList)) 36 (0,0));have z5:(h4.push (.cells (List.toArray ((exC a wa).toArray.toList++(exC b wb).toArray.toList)) 36 (0,0))).size=h4.size+1:=by simp
 generalize h4.push (.cells (List.toArray ((exC a wa).toArray.toList++(exC b wb).toArray.toList)) 36 (0,0))=h5 at *;have hb35:=k5.get hb34 (by simp)
 refine aW (o:=0) hb35 (by simp) ?_
 rw [ca (by rfl)]
 have hb6:=aq (o:=.cells (exC (bz op a b) (.slice (some ⟨h4.size,0,none⟩) 2 2)).toArray 36 (0,0)) hb35;have k6:=ar.set (S:=fun b=>b=h2.size) (h:=h5) (.cells (exC (bz op a b) (.slice (some ⟨h4.size,0,none⟩) 2 2)).toArray 36 (0,0)) (b:=h2.size) rfl;have z6:(h5.setIfInBounds h2.size (.cells (exC (bz op a b) (.slice (some ⟨h4.size,0,none⟩) 2 2)).toArray 36 (0,0))).size=h5.size:=by simp
 simp only [show [Value.int .i64 op,.string ⟨#[]⟩,.int .i64 0,.slice (some ⟨h4.size,0,none⟩) 2 2]=exC (bz op a b) (.slice (some ⟨h4.size,0,none⟩) 2 2) from rfl]
 generalize h5.setIfInBounds h2.size (.cells (exC (bz op a b) (.slice (some ⟨h4.size,0,none⟩) 2 2)).toArray 36 (0,0))=h6 at *;have hb56:=k6.get hb5 (by omega)
 have k04:KG G h h4:=(fS k03).trans k4;have k06:KG G h h6:=jO (k04.trans (fS k5)) (by omega) k6
 refine ⟨_,ak hb6 rfl,_,rfl,?_,(hp4.aC k5 fun _ _ h=>h).aC k6 fun b hb e=>by omega,k06⟩
 have hmv:∀{w:Value} {l:List Ex},fU h N w l→fU h6 (fun k=>N k∨(h.size < k∧k < h6.size)) w l:=fun hs=>by
  refine fU.mv hs (k06.mono (S':=fun b=>b=G) fun _ _ h=>h) (fun b hb=>(hN b hb).2) fun b hb=>.inl hb
 refine ⟨exC a wa++exC b wb,⟨⟨⟨rfl,.inr ⟨h4.size,0,2,rfl,fun j u hu=>?_⟩⟩,by simp⟩,fun k hk=>?_⟩,?_⟩
 ·rw [Zc,bi hb56];simpa using hu
 ·have hk:h4.size=k:=Z2 hk;exact .inr ⟨by omega,by omega⟩
 ·unfold ch;refine ⟨oA.2 ⟨wa,rfl,hmv ha⟩,?_⟩;unfold ch;refine ⟨oA.2 ⟨wb,rfl,hmv hb⟩,?_⟩;unfold ch;rfl
end
theorem ai {α β:Type}{r:Except (Int×Int) α}{f:α→Except (Int×Int) β}{b:β}(h:aD r f=.ok b):∃a,r=.ok a∧f a=.ok b:=by
 cases r with
 |error e=>cases h
 |ok a=>exact ⟨a,rfl,h⟩
theorem bZ {s:List UInt8}{l:List Tok}(h:isT s l=true):l.length=l.tail.length+1:=by
 cases l with
 |nil=>cases h
 |cons t r=>rfl
def Les (n:Nat)(l:List Tok)(r:Ex×Nat×List Tok):Prop:=r.2.2.length < l.length∧r.2.1+r.2.2.length≤n+l.length
def Leq (n:Nat)(l:List Tok)(r:Ex×Nat×List Tok):Prop:=r.2.2.length≤l.length∧r.2.1+r.2.2.length≤n+l.length
theorem HW (e:Int):∀f:Nat,(∀{o n l r},qv e f o n l=.ok r→Les n l r)∧(∀{o n l r},pu e f o n l=.ok r→Les n l r)∧(∀{o x n l r},qE e f o x n l=.ok r→Leq n l r) ∧
  (∀{o n l r},eZ e f o n l=.ok r→Les n l r)∧(∀{o x n l r},fc e f o x n l=.ok r→Leq n l r)∧(∀{o n l r},cf e f o n l=.ok r→Les n l r):=by
 intro f
 induction f with
 |zero =>
  refine ⟨?_,?_,?_,?_,?_,?_⟩
  ·intro o n l r h;unfold qv at h;cases h
  ·intro o n l r h;unfold pu at h;cases h
  ·intro o x n l r h;unfold qE at h;cases h
  ·intro o n l r h;unfold eZ at h;cases h
  ·intro o x n l r h;unfold fc at h;cases h
  ·intro o n l r h;unfold cf at h;cases h
 |succ f ih =>
  obtain ⟨i1,i2,i3,i4,i5,i6⟩:=ih;refine ⟨?_,?_,?_,?_,?_,?_⟩
  ·intro o n l r h;unfold qv at h;obtain ⟨a,ha,h⟩:=ai h;obtain ⟨a1,a2⟩:=i2 ha
   split at h
   ·rename_i hT;have ht:=bZ hT;obtain ⟨b,hb,h⟩:=ai h;obtain ⟨b1,b2⟩:=i2 hb;cases h;exact ⟨by show b.2.2.length < _;omega,by show b.2.1+1+b.2.2.length≤_;omega⟩
   split at h
   ·rename_i hT;have ht:=bZ hT;obtain ⟨b,hb,h⟩:=ai h;obtain ⟨b1,b2⟩:=i2 hb;cases h;exact ⟨by show b.2.2.length < _;omega,by show b.2.1+1+b.2.2.length≤_;omega⟩
   ·cases h;exact ⟨a1,a2⟩
  ·intro o n l r h;unfold pu at h;obtain ⟨a,ha,h⟩:=ai h;obtain ⟨a1,a2⟩:=i4 ha;obtain ⟨b1,b2⟩:=i3 h;exact ⟨by omega,by omega⟩
  ·intro o x n l r h;unfold qE at h
   split at h
   ·rename_i hT;have ht:=bZ hT;obtain ⟨a,ha,h⟩:=ai h;obtain ⟨a1,a2⟩:=i4 ha;obtain ⟨b1,b2⟩:=i3 h;exact ⟨by omega,by omega⟩
   split at h
   ·rename_i hT;have ht:=bZ hT;obtain ⟨a,ha,h⟩:=ai h;obtain ⟨a1,a2⟩:=i4 ha;obtain ⟨b1,b2⟩:=i3 h;exact ⟨by omega,by omega⟩
   ·cases h;exact ⟨Zd _,Zd _⟩
  ·intro o n l r h;unfold eZ at h;obtain ⟨a,ha,h⟩:=ai h;obtain ⟨a1,a2⟩:=i6 ha;obtain ⟨b1,b2⟩:=i5 h;exact ⟨by omega,by omega⟩
  ·intro o x n l r h;unfold fc at h
   split at h
   ·rename_i hT;have ht:=bZ hT;obtain ⟨a,ha,h⟩:=ai h;obtain ⟨a1,a2⟩:=i6 ha;obtain ⟨b1,b2⟩:=i5 h;exact ⟨by omega,by omega⟩
   ·cases h;exact ⟨Zd _,Zd _⟩
  ·intro o n l r h;unfold cf at h
   split at h
   ·rename_i hT;have ht:=bZ hT
    split at h
    ·cases h
    obtain ⟨a,ha,h⟩:=ai h;obtain ⟨a1,a2⟩:=i1 ha
    split at h
    ·rename_i hT2;have ht2:=bZ hT2;cases h;exact ⟨by show a.2.2.tail.length < _;omega,by show a.2.1+a.2.2.tail.length≤_;omega⟩
    ·cases h
   split at h
   ·rename_i hT;have ht:=bZ hT
    split at h
    ·cases h
    obtain ⟨a,ha,h⟩:=ai h;obtain ⟨a1,a2⟩:=i6 ha;cases h;exact ⟨by show a.2.2.length < _;omega,by show a.2.1+a.2.2.length≤_;omega⟩
   split at h
   ·cases h
   ·rename_i t r'
    split at h
    ·cases h;exact ⟨by simp,by simp only [Qn];omega⟩
    split at h
    ·cases h;exact ⟨by simp,by simp only [Qn];omega⟩
    ·cases h
section
variable  {ω:Amb}
theorem CA {h:Hp}{G B:Nat}(hbox:h[B]?=some (.cells [pp G].toArray 69 (0,0))){vl:Value}{e n d o t:Int}(hg:h[G]?=some (.cells (psr vl e n d o t).toArray 71 (0,0))){R:RT}
  (hR:∀h',ar (fun b=>b=G) h h'→h'[G]?=some (.cells (psr vl e n d (IntKind.wrap .i64 (o - 1)) t).toArray 71 (0,0))→R (.tuple #[]) h') :
  fnX Tryz.prog ω ei Tryz.f177 [.pointer (some ⟨B,0,none⟩)] h R (fun _ _=>False):=by
 refine (show fnX Tryz.prog ω ei Tryz.f177 [.pointer (some ⟨B,0,none⟩)] h R (fun _ _=>False)=ej ω (.pointer (some ⟨B,0,none⟩)) h R (fun _ _=>False) by kernel_rfl)▸?_
 unfold ej;rw [asP_some];refine ⟨pp G,by rw [bi hbox];rfl,?_⟩
 simp only [nnK_ptr,asP_some];refine lx hg (j:=4) rfl ?_;rw [asK_int];refine aM (o:=4) hg (by simp [psr]) ?_
 rw [show (psr vl e n d o t).toArray.setIfInBounds 4 (.int .i64 (IntKind.wrap .i64 (o - 1)))=(psr vl e n d (IntKind.wrap .i64 (o - 1)) t).toArray from by simp [psr]]
 exact hR _ (ar.set (S:=fun b=>b=G) _ rfl) (aq hg)
theorem KS (v:Value)(w:World):(invoke (.fn (.func 177) #[v]) #[]).run Tryz.prog w=.ok (.enter 177 #[v]) w:=by
 have h1:Tryz.prog.funcs[177]?=some Tryz.f177:=Tryz.func177;simp only [invoke,callFunc,Sem.run_bind,run_program,Result.andThen_ok,h1];rfl
theorem Dk {fr:Fr}{h':Hp}{B:Nat}{C:List Value}{F:Value→Prop}(h2:fr.getD 2 undef=.pointer (some ⟨B,0,none⟩))(hb:h'[B]?=some (.cells C.toArray 36 (0,0)))(hC:C.length=4)(hF:F (.agg C.toArray)) :
  Br Tryz.prog Tryz.f176.results.toList fr h' [] F:=by
 refine (show Br Tryz.prog Tryz.f176.results.toList fr h' [] F=(asP (fr.getD 2 undef) fun ad=>∃cs,aj h' ad 4 cs∧F (.agg cs.toArray)) by kernel_rfl)▸?_
 rw [h2,asP_some];exact ⟨C,ak hb hC,hF⟩
end
def ExR (h h':Hp)(r:Value)(x:Ex):Prop:=∃w,r=.agg (exC x w).toArray∧fU h' (Nw h h') w x.l
def EL (ω:Amb)(num:FuncId)(e:Int)(pf:Nat→Nat→Nat→List Tok→PR Ex)(c f:Nat):Prop:=∀(h:Hp) (G:Nat) (ts:List Tok) (n d:Int) (o t:Nat),PA h G ts e n d o t→o≤60→t+ts.length≤20000→4*ts.length+c≤f →
 ∀(X:XT),(∀x h',pf f o t ts=.error x→KX G h h'→X (gone x) h') →
  aa Tryz.prog ω num [pp G] h (fun r h'=>∃x m ts',pf f o t ts=.ok (x,m,ts')∧ExR h h' r x∧PA h' G ts' e n d o m∧KG G h h') X
def clo (B:Nat):Value:=.func (.func 177) #[] #[.pointer (some ⟨B,0,none⟩)]
structure U0 (h:Hp)(G:Nat)(ts:List Tok)(e n d:Int)(o t f:Nat)(b:Bool)(v:Value)(h':Hp)(x:Ex)(m:Nat)(ts':List Tok)(w:Value):Prop where
 ok:cf e f o t ts=.ok (x,m,ts')
 v:v=.tuple #[if b then clo h.size else undef,.pointer (some ⟨h.size+1,0,none⟩)]
 box:h'[h.size]?=some (.cells [pp G].toArray 69 (0,0))
 res:h'[h.size+1]?=some (.cells (exC x w).toArray 36 (0,0))
 ex:fU h' (fun k=>h.size+1 < k∧k < h'.size) w x.l
 pa:PA h' G ts' e n d ((if b then o+1 else o:Nat):Int) m
 k:KG G h h'
theorem Df {e:Int}{f o n:Nat}{t:Tok}{r:List Tok}(h1:isT [40] (t::r)=false)(h2:isT [45] (t::r)=false):cf e (f+1) o n (t::r)=if t.kind=3 then .ok (my t.n,n+1,r) else if t.kind=2 then .ok (eU t.text,n+1,r) else .error (5,t.at_):=by
 unfold cf;rw [h1,h2,if_neg Qe,if_neg Qe]
theorem eV {s:List UInt8}{ts:List Tok}(h:isT s ts=true):∃t r,ts=t::r:=by
 cases ts with
 |nil=>cases h
 |cons t r=>exact ⟨t,r,rfl⟩
theorem py {h:Hp}{N:Nat→Prop}:fU h N (.slice none 0 0) []:=⟨[],⟨⟨⟨rfl,.inl ⟨rfl,_,_,rfl⟩⟩,by decide⟩,fun k hk=>by cases hk⟩,by unfold ch;rfl⟩
theorem SlN.JG {h:Hp}{b:Nat}{N:Nat→Prop}{sz n:Nat}{T:TypeId}{us:List Value}(hb:h[b]?=some (.cells us.toArray T (0,0)))(hl:us.length=n*sz)(hn:n≤9223372036854775807)(hN:N b):SlN h N sz (.slice (some ⟨b,0,none⟩) n n) n us :=
 ⟨⟨⟨hl,.inr ⟨b,0,n,rfl,fun j u hu=>by rw [Zc,bi hb];simpa using hu⟩⟩,hn⟩,fun k hk=>by cases hk;exact hN⟩
section
variable  {ω:Amb}
set_option maxHeartbeats 1000000 in
theorem NV {e:Int}{f:Nat}(hC:EL ω cj e (qv e) 4 f)(hU:EL ω 176 e (cf e) 1 f){h:Hp}{G:Nat}{ts:List Tok}{n d:Int}{o t:Nat}(hp:PA h G ts e n d o t)(ho:o≤60)(ht:t+ts.length≤20000)(hf:4*ts.length+1≤f+1) :
  tZ ω (pp G) h (fun v h'=>∃b x m ts' w,U0 h G ts e n d o t (f+1) b v h' x m ts' w) (fun c h'=>∃x,c=gone x∧cf e (f+1) o t ts=.error x∧KX G h h'∧h'[h.size]?=some (.cells [pp G].toArray 69 (0,0))):=by
 have hlt:=hp.lt;unfold tZ wM jc;simp only [show Value.cells (pp G)=[pp G].toArray from rfl]
 have hbox1:=ah (h:=h) (o:=.cells [pp G].toArray 69 (0,0));have k1:=ar.push (S:=fun _=>False) h (.cells [pp G].toArray 69 (0,0));have z1:(h.push (.cells [pp G].toArray 69 (0,0))).size=h.size+1:=by simp
 generalize h.push (.cells [pp G].toArray 69 (0,0))=h1 at *;have hres2:=ah (h:=h1) (o:=.cells #[(.int .i64 0),(.string ⟨#[]⟩),(.int .i64 0),(.slice none 0 0)] 36 (0,0));have k2:=ar.push (S:=fun _=>False) h1 (.cells #[(.int .i64 0),(.string ⟨#[]⟩),(.int .i64 0),(.slice none 0 0)] 36 (0,0));have z2:(h1.push (.cells #[(.int .i64 0),(.string ⟨#[]⟩),(.int .i64 0),(.slice none 0 0)] 36 (0,0))).size=h1.size+1:=by simp
 generalize h1.push (.cells #[(.int .i64 0),(.string ⟨#[]⟩),(.int .i64 0),(.slice none 0 0)] 36 (0,0))=h2 at *;rw [z1] at hres2;have hbox2:=k2.get hbox1 (by simp)
 have k02:=k1.trans k2;have hp2:=hp.aC k02 (fun _ _ h=>h);have b40:bytesOf ⟨#[40]⟩=[40]:=rfl;have b45:bytesOf ⟨#[45]⟩=[45]:=rfl;have b41:bytesOf ⟨#[41]⟩=[41]:=rfl;rw [z1];have bx:∀{hh:Hp},hh[h.size]?=some (.cells [pp G].toArray 69 (0,0))→af hh ⟨h.size,0,none⟩=some (pp G):=fun hb=>by rw [bi hb];rfl
 refine ⟨fun v h'=>v=.bool (isT [40] ts||isT [45] ts)∧h2=h',?_,?_⟩
 ·refine ⟨_,bx hbox2,?_⟩;refine aa.use (eA hp2 ⟨#[40]⟩) ?_;rintro _ _ ⟨rfl,rfl⟩;rw [asB_bool,b40];refine ae (fun hc=>?_) (fun hc=>?_)
  ·exact ⟨by rw [hc,Bool.true_or],rfl⟩
  ·refine ⟨_,bx hbox2,?_⟩;refine aa.use (eA hp2 ⟨#[45]⟩) ?_;rintro _ _ ⟨rfl,rfl⟩;exact ⟨by rw [hc,Za,b45],rfl⟩
 rintro _ _ _ ⟨rfl,rfl⟩;refine ⟨fun v h'=>v=(if (isT [40] ts||isT [45] ts) then clo h.size else undef)∧((isT [40] ts||isT [45] ts)=true→o < 60)∧PA h' G ts e n d ((if (isT [40] ts||isT [45] ts) then o+1 else o:Nat):Int) t∧ar (fun b=>b=G) h2 h',?_,?_⟩
 ·rw [asB_bool];refine ae (fun hc=>?_) (fun hc=>?_)
  ·refine ⟨_,bx hbox2,?_⟩;simp only [nnK_ptr,asP_some];obtain ⟨vl,hg,htk⟩:=hp2.ex;refine lx hg (j:=4) rfl ?_;rw [asK_int];refine ⟨fun h'=>o≠60∧h2=h',?_,?_⟩
   ·refine ae (fun h60=>?_) (fun h60=>?_)
    ·have h60:o=60:=by have:=Zg h60;omega
     refine ⟨_,bx hbox2,?_⟩;refine aa.mono (du hp2 7 (fun c h'=>∃x,c=gone x∧cf e (f+1) o t ts=.error x∧KX G h h'∧h'[h.size]?=some (.cells [pp G].toArray 69 (0,0))) ?_) (fun _ _ hf=>hf.elim) (fun _ _ hx=>hx);refine ⟨_,rfl,?_,⟨fS k02,hp2.pb⟩,hbox2⟩;unfold cf;cases h40:isT [40] ts with
     |true=>rw [if_pos rfl,if_pos h60]
     |false =>
      rw [h40,Za] at hc;rw [if_neg Qe,hc,if_pos rfl,if_pos h60]
    ·exact ⟨fun hh=>by rw [hh] at h60;exact absurd h60 (by decide),rfl⟩
   rintro _ _ ⟨h60,rfl⟩;refine ⟨_,bx hbox2,?_⟩;simp only [nnK_ptr,asP_some];refine lx hg (j:=4) rfl ?_;rw [asK_int,i64_in (by omega) (by omega)]
   refine aM (o:=4) hg (by simp [psr]) ?_
   rw [show (psr vl e n d (o:Int) t).toArray.setIfInBounds 4 (.int .i64 ((o:Int)+1))=(psr vl e n d ((o:Int)+1) t).toArray from by simp [psr]]
   have hg3:=aq (o:=.cells (psr vl e n d ((o:Int)+1) t).toArray 71 (0,0)) hg;have k3:=ar.set (S:=fun b=>b=G) (h:=h2) (.cells (psr vl e n d ((o:Int)+1) t).toArray 71 (0,0)) (b:=G) rfl;refine ⟨by rw [hc,if_pos rfl];rfl,fun _=>by omega,?_,k3⟩
   rw [hc,if_pos rfl];exact ⟨vl,by push_cast;exact hg3,htk.aC k3 fun b hb e=>by omega⟩
  ·refine ⟨by rw [hc,if_neg Qe];rfl,fun h=>absurd (hc.symm.trans h) Qe,?_,ar.refl _ _⟩
   rw [hc,if_neg Qe];exact hp2
 rintro _ _ h3 ⟨rfl,h60,hp3,k3⟩;have hbox3:=k3.get hbox2 (by omega)
 have hres3:=k3.get hres2 (by omega)
 have k03:KG G h h3:=(fS k02).trans k3;have hs3:=k3.size;generalize hb:(isT [40] ts||isT [45] ts)=b at *;have fin:∀{hh:Hp} {x:Ex} {m:Nat} {ts':List Tok} {w:Value} {cur:Array Value},cf e (f+1) o t ts=.ok (x,m,ts')→hh[h.size+1]?=some (.cells cur 36 (0,0))→cur.size=4→hh[h.size]?=some (.cells [pp G].toArray 69 (0,0))→fU hh (fun k=>h.size+1 < k∧k < hh.size) w x.l →
   PA hh G ts' e n d ((if b then o+1 else o:Nat):Int) m→KG G h hh→av hh ⟨h.size+1,0,none⟩ (exC x w) fun h48=>∃b' x m ts' w,U0 h G ts e n d o t (f+1) b' (.tuple #[if b then clo h.size else undef,.pointer (some ⟨h.size+1,0,none⟩)]) h48 x m ts' w:=by
  intro hh x m ts' w cur hok hres hcur hbox hex hpa hk;refine aW (o:=0) hres (by rw [hcur];simp [exC]) ?_
  rw [ca (by rw [hcur];rfl)]
  have hb4:=aq (o:=.cells (exC x w).toArray 36 (0,0)) hres;have k4:=ar.set (S:=fun b=>b=h.size+1) (h:=hh) (.cells (exC x w).toArray 36 (0,0)) (b:=h.size+1) rfl;have z4:(hh.setIfInBounds (h.size+1) (.cells (exC x w).toArray 36 (0,0))).size=hh.size:=by simp
  generalize hh.setIfInBounds (h.size+1) (.cells (exC x w).toArray 36 (0,0))=h4 at *;refine ⟨b,x,m,ts',w,⟨hok,rfl,k4.get hbox (by omega),hb4,?_,hpa.aC k4 fun b hb e=>by omega,jO hk (by omega) k4⟩⟩
  exact fU.mv hex k4 (fun b hb e=>by omega) fun b hb=>⟨hb.1,by omega⟩
 refine ⟨_,bx hbox3,?_⟩;refine aa.use (eA hp3 ⟨#[40]⟩) ?_;rintro _ _ ⟨rfl,rfl⟩;rw [asB_bool,b40];refine ae (fun hc=>?_) (fun hc=>?_)
 ·-- a bracket
  obtain ⟨x0,r,rfl⟩:=eV hc;have hbt:b=true:=by rw [←hb,hc,Bool.true_or]
  subst hbt;have h60:=h60 rfl;refine ⟨_,bx hbox3,?_⟩;refine aa.use (cz hp3) ?_;rintro _ h4 ⟨_,hp4,k4⟩;have hbox4:=k4.get hbox3 (by omega)
  refine ⟨_,bx hbox4,?_⟩;simp only [Qn] at ht hf;have hpl:=fun {o' n' l r'}=>(HW e f).1 (o:=o') (n:=n') (l:=l) (r:=r');have hun:cf e (f+1) o t (x0::r)=aD (qv e f (o+1) t r) fun q=>if isT [41] q.2.2 then .ok (q.1,q.2.1,q.2.2.tail) else .error (pt e 5 q.2.2):=by
   unfold cf;rw [hc,if_pos rfl,if_neg (by omega)]
   rfl
  refine aa.mono (hC h4 G r n d (o+1) t (by simpa using hp4) (by omega) (by omega) (by omega) (fun c h'=>∃x,c=gone x∧cf e (f+1) o t (x0::r)=.error x∧KX G h h'∧h'[h.size]?=some (.cells [pp G].toArray 69 (0,0))) ?_) ?_ (fun _ _ hx=>hx)
  ·intro x h' hx kx;exact ⟨x,rfl,by rw [hun,hx];rfl,(kx.after k4).after k03,kx.k.get hbox4 (by omega)⟩
  rintro _ h5 ⟨x,m,ts',hcmp,⟨w,rfl,hex⟩,hp5,k5⟩;have hbox5:=k5.get hbox4 (by omega)
  have hres5:=k5.get (k4.get hres3 (by omega)) (by omega)
  have hs4:=k4.size;have hs5:=k5.size;rw [asA_agg];refine ⟨rfl,dC hex.b8,aA (cs:=exC x w) rfl ?_⟩;have hl6:=ah (h:=h5) (o:=.cells (exC x w).toArray 36 (0,0));have k6:=ar.push (S:=fun _=>False) h5 (.cells (exC x w).toArray 36 (0,0));have z6:(h5.push (.cells (exC x w).toArray 36 (0,0))).size=h5.size+1:=by simp
  generalize h5.push (.cells (exC x w).toArray 36 (0,0))=h6 at *;have hbox6:=k6.get hbox5 (by simp)
  refine ⟨_,bx hbox6,?_⟩;have hl7:=ah (h:=h6) (o:=.cells (List.toArray [(.string ⟨#[41]⟩)]) 9 (0,0));have k7:=ar.push (S:=fun _=>False) h6 (.cells (List.toArray [(.string ⟨#[41]⟩)]) 9 (0,0));have z7:(h6.push (.cells (List.toArray [(.string ⟨#[41]⟩)]) 9 (0,0))).size=h6.size+1:=by simp
  generalize h6.push (.cells (List.toArray [(.string ⟨#[41]⟩)]) 9 (0,0))=h7 at *;have k57:=k6.trans k7;have hp7:=hp5.aC k57 (fun _ _ h=>h);have hbox7:=k7.get hbox6 (by simp)
  have hres7:=k57.get hres5 (by simp)
  refine aa.mono (Cn hp7 ⟨#[41]⟩ (.slice (some ⟨h6.size,0,none⟩) 1 1) ⟨rfl,.inr ⟨h6.size,0,1,rfl,fun j u hu=>by rw [Zc,bi hl7];simpa using hu⟩⟩ (fun c h'=>∃x,c=gone x∧cf e (f+1) o t (x0::r)=.error x∧KX G h h'∧h'[h.size]?=some (.cells [pp G].toArray 69 (0,0))) ?_) ?_ (fun _ _ hx=>hx)
  ·intro y h' hy kx;refine ⟨y,rfl,?_,(((kx.after (fS k57)).after k5).after k4).after k03,kx.k.get hbox7 (by omega)⟩
   rw [hun,hcmp,ay];rw [b41] at hy;unfold bl at hy;show (if isT [41] ts' then _ else _)=_
   split at hy
   ·cases hy
   ·rename_i hne;rw [if_neg hne];cases hy;rfl
  rintro _ h8 ⟨r2,hw,hp8,k8⟩;rw [b41] at hw;unfold bl at hw
  split at hw
  rotate_left
  ·cases hw
  rename_i hT;cases hw;have hl8:=k8.get (k7.get hl6 (by simp)) (by omega)
  have hs8:=k8.size;refine ⟨_,ak hl8 rfl,rfl,dC hex.b8,?_⟩;refine fin (by rw [hun,hcmp,ay];exact if_pos hT) (k8.get hres7 (by omega)) rfl (k8.get hbox7 (by omega)) ?_ (by simpa using hp8) ((((k03.trans k4).trans k5).trans (fS k57)).trans k8)
  exact fU.mv (fU.mv hex k57 (fun _ _ h=>h) (fun b hb=>hb)) k8 (fun b hb e=>by have:=hb.1;omega) fun b hb=>⟨by have:=hb.1;omega,by have:=hb.2;omega⟩
 refine ⟨_,bx hbox3,?_⟩;refine aa.use (eA hp3 ⟨#[45]⟩) ?_;rintro _ _ ⟨rfl,rfl⟩;rw [asB_bool,b45];refine ae (fun hc2=>?_) (fun hc2=>?_)
 ·-- a minus
  obtain ⟨x0,r,rfl⟩:=eV hc2;have hbt:b=true:=by rw [←hb,hc2,Bool.or_true]
  subst hbt;have h60:=h60 rfl;refine ⟨_,bx hbox3,?_⟩;refine aa.use (cz hp3) ?_;rintro _ h4 ⟨_,hp4,k4⟩;have hbox4:=k4.get hbox3 (by omega)
  have hs4:=k4.size;refine ⟨_,bx hbox4,?_⟩;simp only [Qn] at ht hf;have hun:cf e (f+1) o t (x0::r)=aD (cf e f (o+1) (t+1) r) fun q=>.ok (nH q.1,q.2.1,q.2.2):=by
   conv=>lhs;unfold cf
   rw [hc,if_neg Qe,hc2,if_pos rfl,if_neg (by omega)]
   rfl
  simp only [nnK_ptr,asP_some];obtain ⟨vl,hg,htk⟩:=hp4.ex;refine lx hg (j:=5) rfl ?_;rw [asK_int,i64_in (by omega) (by omega)]
  refine aM (o:=5) hg (by simp [psr]) ?_
  have hset:∀oo:Int,(psr vl e n d oo t).toArray.setIfInBounds 5 (.int .i64 ((t:Int)+1))=(psr vl e n d oo ((t+1:Nat):Int)).toArray:=fun oo=>by simp [psr]
  rw [hset];have hg5:=aq (o:=.cells (psr vl e n d ((if true=true then o+1 else o:Nat):Int) ((t+1:Nat):Int)).toArray 71 (0,0)) hg
  have k5:=ar.set (S:=fun b=>b=G) (h:=h4) (.cells (psr vl e n d ((if true=true then o+1 else o:Nat):Int) ((t+1:Nat):Int)).toArray 71 (0,0)) (b:=G) rfl
  have z5:(h4.setIfInBounds G (.cells (psr vl e n d ((if true=true then o+1 else o:Nat):Int) ((t+1:Nat):Int)).toArray 71 (0,0))).size=h4.size:=by simp
  generalize h4.setIfInBounds G (.cells (psr vl e n d ((if true=true then o+1 else o:Nat):Int) ((t+1:Nat):Int)).toArray 71 (0,0))=h5 at *
  have hp5:PA h5 G r e n d ((if true=true then o+1 else o:Nat):Int) ((t+1:Nat):Int):=⟨vl,hg5,htk.aC k5 fun b hb e=>by omega⟩
  have hbox5:=k5.get hbox4 (by omega)
  refine ⟨_,bx hbox5,?_⟩;refine aa.mono (hU h5 G r n d (o+1) (t+1) (by simpa using hp5) (by omega) (by omega) (by omega) (fun c h'=>∃x,c=gone x∧cf e (f+1) o t (x0::r)=.error x∧KX G h h'∧h'[h.size]?=some (.cells [pp G].toArray 69 (0,0))) ?_) ?_ (fun _ _ hx=>hx)
  ·intro x h' hx kx;exact ⟨x,rfl,by rw [hun,hx];rfl,((kx.after k5).after k4).after k03,kx.k.get hbox5 (by omega)⟩
  rintro _ h6 ⟨x,m,ts',hun2,⟨w,rfl,hex⟩,hp6,k6⟩;have hs6:=k6.size;have hbox6:=k6.get hbox5 (by omega)
  have hres6:=k6.get (k5.get (k4.get hres3 (by omega)) (by omega)) (by omega)
  rw [asA_agg];have hl7:=ah (h:=h6) (o:=.cells (List.toArray ((exC x w).toArray.toList++[])) 36 (0,0));have k7:=ar.push (S:=fun _=>False) h6 (.cells (List.toArray ((exC x w).toArray.toList++[])) 36 (0,0));have z7:(h6.push (.cells (List.toArray ((exC x w).toArray.toList++[])) 36 (0,0))).size=h6.size+1:=by simp
  refine ⟨rfl,trivial,?_,?_⟩
  ·intro u hu;simp only [List.mem_cons,List.not_mem_nil,or_false] at hu;rcases hu with rfl|rfl|rfl|rfl<;>rfl
  generalize h6.push (.cells (List.toArray ((exC x w).toArray.toList++[])) 36 (0,0))=h7 at *;refine fin (x:=nH x) (w:=.slice (some ⟨h6.size,0,none⟩) 1 1) (by rw [hun,hun2];rfl) (k7.get hres6 (by simp)) rfl (k7.get hbox6 (by simp)) ?_ (by simpa using hp6.aC k7 fun _ _ h=>h) ((((k03.trans k4).trans k5).trans k6).trans (fS k7))
  refine ⟨exC x w,SlN.JG (by simpa using hl7) rfl (by decide) ⟨by omega,by omega⟩,?_⟩
  unfold ch;refine ⟨oA.2 ⟨w,rfl,?_⟩,by unfold ch;rfl⟩
  exact fU.mv hex k7 (fun _ _ h=>h) fun b hb=>⟨by have:=hb.1;omega,by have:=hb.2;omega⟩
 -- a number or a name
 have hbf:b=false:=by rw [←hb,hc,hc2];rfl
 subst hbf;refine ⟨fun v h'=>v=.bool (match ts with|[]=>false|x::_=>x.kind==3)∧h3=h',?_,?_⟩
 ·refine ⟨_,bx hbox3,?_⟩;simp only [nnK_ptr,asP_some];obtain ⟨vl,hg,htk⟩:=hp3.ex;refine lx hg (j:=0) rfl ?_;refine htk.len fun _ _=>?_;cases ts with
  |nil=>exact ba rfl ⟨rfl,trivial⟩
  |cons x r =>
   refine cx (Z7 (by simp only [Qn];omega)) ?_
   refine ⟨_,bx hbox3,?_⟩;simp only [nnK_ptr,asP_some];refine lx hg (j:=0) rfl ?_;refine htk.rd0 (o:=0) rfl ?_;rw [asK_int];exact ⟨rfl,trivial⟩
 rintro _ _ _ ⟨rfl,rfl⟩
 -- a term more
 obtain ⟨vl,hg,htk⟩:=hp3.ex;have hset:(psr vl e n d ((if false=true then o+1 else o:Nat):Int) t).toArray.setIfInBounds 5 (.int .i64 ((t:Int)+1))=(psr vl e n d ((if false=true then o+1 else o:Nat):Int) ((t+1:Nat):Int)).toArray:=by simp [psr]
 have hg4:=aq (o:=.cells (psr vl e n d ((if false=true then o+1 else o:Nat):Int) ((t+1:Nat):Int)).toArray 71 (0,0)) hg
 have k4:=ar.set (S:=fun b=>b=G) (h:=h3) (.cells (psr vl e n d ((if false=true then o+1 else o:Nat):Int) ((t+1:Nat):Int)).toArray 71 (0,0)) (b:=G) rfl
 have z4:(h3.setIfInBounds G (.cells (psr vl e n d ((if false=true then o+1 else o:Nat):Int) ((t+1:Nat):Int)).toArray 71 (0,0))).size=h3.size:=by simp
 rw [asB_bool];refine ae (fun hk=>?_) (fun hk=>?_)
 ·cases ts with
  |nil=>cases hk
  |cons x r =>
   have hk3:x.kind=3:=Zg hk;refine ⟨_,bx hbox3,?_⟩;simp only [nnK_ptr,asP_some];refine lx hg (j:=5) rfl ?_;rw [asK_int,i64_in (by omega) (by omega)]
   refine aM (o:=5) hg (by simp [psr]) ?_
   rw [hset];generalize h3.setIfInBounds G (.cells (psr vl e n d ((if false=true then o+1 else o:Nat):Int) ((t+1:Nat):Int)).toArray 71 (0,0))=h4 at *
   have hp4:PA h4 G (x::r) e n d ((if false=true then o+1 else o:Nat):Int) ((t+1:Nat):Int):=⟨vl,hg4,htk.aC k4 fun b hb e=>by omega⟩
   refine ⟨_,bx (k4.get hbox3 (by omega)),?_⟩
   refine aa.use (cz hp4) ?_;rintro _ h5 ⟨rfl,hp5,k5⟩;have hs5:=k5.size;rw [asA_agg];show asO (some (Value.int .i64 x.n)) _;rw [asO_some,oneK_int];refine ⟨trivial,?_,?_⟩
   ·intro u hu;simp only [List.mem_cons,List.not_mem_nil,or_false] at hu;rcases hu with rfl|rfl|rfl|rfl<;>rfl
   refine fin (x:=my x.n) (w:=.slice none 0 0) (by rw [Df hc hc2,if_pos hk3]) (k5.get (k4.get hres3 (by omega)) (by omega)) rfl (k5.get (k4.get hbox3 (by omega)) (by omega)) ?_ hp5 ((k03.trans k4).trans k5)
   exact py
 ·refine ⟨_,bx hbox3,?_⟩;simp only [nnK_ptr,asP_some];refine lx hg (j:=5) rfl ?_;rw [asK_int,i64_in (by omega) (by omega)]
  refine aM (o:=5) hg (by simp [psr]) ?_
  rw [hset];generalize h3.setIfInBounds G (.cells (psr vl e n d ((if false=true then o+1 else o:Nat):Int) ((t+1:Nat):Int)).toArray 71 (0,0))=h4 at *
  have hp4:PA h4 G ts e n d ((if false=true then o+1 else o:Nat):Int) ((t+1:Nat):Int):=⟨vl,hg4,htk.aC k4 fun b hb e=>by omega⟩
  have hun:cf e (f+1) o t ts=aD (ee e ts) fun q=>.ok (eU q.1,t+1,q.2):=by
   cases ts with
   |nil =>
    unfold cf;rfl
   |cons x r =>
    have hk3:¬x.kind=3:=Qa.1 hk;rw [Df hc hc2,if_neg hk3,pB]
    by_cases h2:x.kind=2
    ·rw [if_pos h2,if_pos h2];rfl
    ·rw [if_neg h2,if_neg h2];rfl
  have hbox4:=k4.get hbox3 (by omega)
  refine ⟨_,bx hbox4,?_⟩;refine aa.mono (jM hp4 (fun c h'=>∃x,c=gone x∧cf e (f+1) o t ts=.error x∧KX G h h'∧h'[h.size]?=some (.cells [pp G].toArray 69 (0,0))) ?_) ?_ (fun _ _ hx=>hx)
  ·intro y h' hy kx;exact ⟨y,rfl,by rw [hun,hy];rfl,(kx.after k4).after k03,kx.k.get hbox4 (by omega)⟩
  rintro _ h5 ⟨s,r,hn,rfl,hp5,k5⟩;have hs5:=k5.size;rw [oneK_str];refine ⟨trivial,?_,?_⟩
  ·intro u hu;simp only [List.mem_cons,List.not_mem_nil,or_false] at hu;rcases hu with rfl|rfl|rfl|rfl<;>rfl
  refine fin (x:=eU s) (w:=.slice none 0 0) (by rw [hun,hn];rfl) (k5.get (k4.get hres3 (by omega)) (by omega)) rfl (k5.get hbox4 (by omega)) ?_ hp5 ((k03.trans k4).trans k5)
  exact py
end
section
variable  {ω:Amb}
theorem FB {s:Nat}{fr:Fr}(h:fr.getD s undef=undef):dOf s fr=[]:=by
 unfold dOf;rw [h];rfl
theorem Lu {fr:Fr}{B:Nat}(h:fr.getD 24 undef=clo B):dOf 24 fr=[D0 177 [.pointer (some ⟨B,0,none⟩)]]:=by
 unfold dOf;rw [h];rfl
theorem Jc {e:Int}{f:Nat}(hC:EL ω cj e (qv e) 4 f)(hU:EL ω 176 e (cf e) 1 f):EL ω 176 e (cf e) 1 (f+1):=by
 intro h G ts n d o t hp ho ht hf X hX;have hlt:=hp.lt;have hW:=NV hC hU hp ho ht hf;refine DA hW ?_ ?_
 ·rintro fr h' d' ⟨b,x,m,ts',w,u⟩;have hv:=u.v;have h24:fr.getD 24 undef=if b then clo h.size else undef:=by
   have:=congrArg (fun v=>match v with|Value.tuple a=>a.getD 0 undef|_=>undef) hv
   exact this
  have h2:fr.getD 2 undef=.pointer (some ⟨h.size+1,0,none⟩):=by
   have:=congrArg (fun v=>match v with|Value.tuple a=>a.getD 1 undef|_=>undef) hv
   exact this
  have hex:∀{h'':Hp},ar (fun b=>b=G) h' h''→ExR h h'' (.agg (exC x w).toArray) x:=fun k=>⟨w,rfl,fU.mv u.ex k (fun b hb e=>by have:=hb.1;omega) fun b hb=>⟨by have:=hb.1;omega,by have:=hb.2;have:=k.size;omega⟩⟩
  cases b with
  |false =>
   rw [FB (by rw [h24];rfl)]
   obtain ⟨v,g1,g2⟩:=se (P:=Tryz.prog) (ω:=ω) (Dk (F:=fun v=>v=.agg (exC x w).toArray) h2 u.res rfl rfl) d';subst g2;exact ⟨_,g1,⟨d',rfl⟩,x,m,ts',u.ok,hex (ar.refl _ _),u.pa,u.k⟩
  |true =>
   rw [Lu (by rw [h24];rfl)]
   obtain ⟨vl,hg,htk⟩:=u.pa.ex;refine leaves_cons (f:=177) (args:=#[.pointer (some ⟨h.size,0,none⟩)]) (by simp) (KS _ _) ?_
   refine (ur (R:=fun _ h''=>KG G h' h''∧PA h'' G ts' e n d o m) (X:=fun _ _=>False) Tryz.func177 (CA u.box hg fun h'' k hg'=>⟨k,vl,?_,htk.aC k fun b hb e=>by omega⟩) .returning d').mono ?_
   ·rw [show IntKind.wrap .i64 (((if true=true then o+1 else o:Nat):Int) - 1)=(o:Int) from by rw [if_pos rfl,i64_in (by omega) (by omega)];omega] at hg'
    exact hg'
   rintro e' u' w' ⟨rfl,⟨d2,hd2⟩,hend⟩;cases e' with
   |panicked c=>exact hend.elim
   |outgrown=>exact hend.elim
   |returned v0 =>
    obtain ⟨k2,hpa⟩:=hend;rw [hd2] at k2 hpa ⊢;generalize w'.heap=h'' at *;have k2:KG G h' h'':=k2;have hpa:PA h'' G ts' e n d o m:=hpa;obtain ⟨v,g1,g2⟩:=se (P:=Tryz.prog) (ω:=ω) (Dk (F:=fun v=>v=.agg (exC x w).toArray) h2 (k2.get u.res (by omega)) rfl rfl) d2
    subst g2;exact ⟨_,g1,⟨d2,rfl⟩,x,m,ts',u.ok,hex k2,hpa,u.k.trans k2⟩
 ·rintro c a h' d' hds ⟨x,rfl,hx,kx,hbox⟩;rcases hds with hds|hds
  ·rw [hds];exact ⟨⟨d',rfl⟩,hX x h' hx kx⟩
  ·rw [hds];obtain ⟨vl,e1,n1,d1,o1,t1,hg⟩:=kx.b;refine leaves_cons (f:=177) (args:=#[.pointer (some ⟨h.size,0,none⟩)]) (by simp) (KS _ _) ?_
   refine (ur (R:=fun _ h''=>KG G h' h''∧PB h'' G) (X:=fun _ _=>False) Tryz.func177 (CA hbox hg fun h'' k hg'=>⟨k,_,_,_,_,_,_,hg'⟩) (.panicking (gone x)) d').mono ?_;rintro e' u' w' ⟨rfl,⟨d2,hd2⟩,hend⟩;cases e' with
   |panicked c=>exact hend.elim
   |outgrown=>exact hend.elim
   |returned v0 =>
    obtain ⟨k2,hpb⟩:=hend;rw [hd2];exact ⟨⟨d2,rfl⟩,hX x _ hx ⟨kx.k.trans k2,hpb⟩⟩
end
end Go.Proofs.YtkeeboomikkojaaGreatDoor
