import Derived.Test.YtkeeboomikkojaaGreatDoorRn8
import Derived.Test.YtkeeboomikkojaaGreatDoorY9g
import Derived.Test.YtkeeboomikkojaaGreatDoorRn1
namespace Go.Proofs.YtkeeboomikkojaaGreatDoor
open Go Go.Sx Go.Sx.Tk Go.Sx.Rn Go.Proofs.YtkeeboomikkojaaGreatDoor.Sx
def gone (x:Int×Int):List PanicEntry:=[⟨.iface 67 (.agg #[.int .i64 x.1,.int .i64 x.2]),false,false⟩]
def psr (vl:Value)(e n d o t:Int):List Value:=[vl,.int .i64 e,.int .i64 n,.int .i64 d,.int .i64 o,.int .i64 t]
structure TkS (h:Hp)(G:Nat)(v:Value)(ts:List Tok):Prop where
 at_:bh h 4 v ts.length (ts.flatMap Tok.f)
 cap:∀a l c,v=.slice a l c→l≤c
 low:∀k,v.ownBlock=some k→k < G
theorem bh.Bc {h h':Hp}{S:Nat→Prop}{size:Nat}{v:Value}{n:Nat}{xs:List Value}(hs:bh h size v n xs)(hk:ar S h h')(hn:∀k,v.ownBlock=some k→¬S k):bh h' size v n xs :=
 ⟨hs.1,hs.2.imp id fun ⟨b,o,cap,hv,hc⟩=>⟨b,o,cap,hv,fun j u hu=>hk.cell (hc j u hu) (hn b (by rw [hv];rfl))⟩⟩
theorem TkS.az {h h':Hp}{S:Nat→Prop}{G:Nat}{v:Value}{ts:List Tok}(hs:TkS h G v ts)(k:ar S h h')(hn:∀b,b < G→¬S b):TkS h' G v ts :=
 ⟨bh.Bc hs.at_ k fun b hb=>hn b (hs.low b hb),hs.cap,hs.low⟩
structure PA (h:Hp)(G:Nat)(ts:List Tok)(e n d o t:Int):Prop where
 ex:∃vl,h[G]?=some (.cells (psr vl e n d o t).toArray 71 (0,0))∧TkS h G vl ts
theorem PA.az {h h':Hp}{S:Nat→Prop}{G:Nat}{ts:List Tok}{e n d o t:Int}(hs:PA h G ts e n d o t)(k:ar S h h')(hn:∀b,b≤G→¬S b):PA h' G ts e n d o t:=by
 obtain ⟨vl,h1,h2⟩:=hs.ex;exact ⟨vl,k.get h1 (hn G (Nat.le_refl _)),h2.az k fun b hb=>hn b (by omega)⟩
theorem PA.lt {h:Hp}{G:Nat}{ts:List Tok}{e n d o t:Int}(hs:PA h G ts e n d o t):G < h.size:=by
 obtain ⟨vl,h1,_⟩:=hs.ex;exact cH h1
abbrev KG (G:Nat)(h h':Hp):Prop:=ar (fun b=>b=G) h h'
theorem fe {G:Nat}{h h':Hp}(k:KF h h'):KG G h h':=k.mono fun _ _ h=>h.elim
def PB (h:Hp)(G:Nat):Prop:=∃vl e n d o t,h[G]?=some (.cells (psr vl e n d o t).toArray 71 (0,0))
theorem PA.pb {h:Hp}{G:Nat}{ts:List Tok}{e n d o t:Int}(hs:PA h G ts e n d o t):PB h G:=by
 obtain ⟨vl,h1,_⟩:=hs.ex;exact ⟨_,_,_,_,_,_,h1⟩
structure KX (G:Nat)(h h':Hp):Prop where
 k:KG G h h'
 b:PB h' G
theorem KX.after {G:Nat}{h h1 h':Hp}(k:KG G h h1)(x:KX G h1 h'):KX G h h':=⟨k.trans x.k,x.b⟩
theorem iC {S:Nat→Prop}{h0 h h':Hp}{L:Nat}(k:ar S h0 h)(hL:h0.size≤L)(k':ar (fun b=>b=L) h h'):ar S h0 h':=k.cf (k'.mono fun b _ e=>.inr (by omega))
theorem TkS.rd0 {h:Hp}{G:Nat}{v:Value}{t:Tok}{r:List Tok}(hs:TkS h G v (t::r)){o:Nat}{u:Value}(hu:t.f[o]?=some u){K:Value→Prop}(hk:K u) :
  aI v fun a l _=>0≤(0:Int)∧0 < (l:Int)∧∃w,ah h (Addr.add (Addr.add a (Int.toNat 0*4)) o)=some w∧K w :=
 bh.rdT (f:=Tok.f) (sz:=4) hs.at_ Tok.len (i:=0) (e:=t) rfl hu hk
theorem TkS.rdC {h:Hp}{G:Nat}{v:Value}{t:Tok}{r:List Tok}(hs:TkS h G v (t::r)){K:List Value→Prop}(hk:K t.f) :
  aI v fun a l _=>0≤(0:Int)∧0 < (l:Int)∧∃C,aj h (Addr.add a (Int.toNat 0*4)) 4 C∧K C :=
 bh.rdS (f:=Tok.f) (sz:=4) hs.at_ Tok.len (i:=0) (e:=t) rfl hk
theorem TkS.len {h:Hp}{G:Nat}{v:Value}{ts:List Tok}(hs:TkS h G v ts){F:Option Addr→Nat→Nat→Prop}(hf:∀a c,F a ts.length c):bz v F:=bh.sl hs.at_ hf
theorem TkS.tail {h:Hp}{G:Nat}{v:Value}{t:Tok}{r:List Tok}(hs:TkS h G v (t::r)){K:Value→Prop}(hk:∀v',one v'→TkS h G v' r→K v') :
  bz v fun a l c=>0≤(1:Int)∧(1:Int)≤(l:Int)∧(l:Int)≤(c:Int)∧K (.slice (if c=Int.toNat 1 then a else Option.map (fun y=>Addr.add y (Int.toNat 1*4)) a) (Int.toNat (l:Int) - Int.toNat 1) (c - Int.toNat 1)):=by
 have h1:=hs.at_.1;rcases hs.at_.2 with ⟨h0,_⟩|⟨b,o,c,rfl,hc⟩
 ·simp at h0
 ·have hcap:=hs.cap _ _ _ rfl;have hlow:=hs.low b rfl;simp only [List.length_cons] at hcap;rw [asSl_sl];refine ⟨by omega,by simp only [List.length_cons];omega,by simp only [List.length_cons];omega,hk _ rfl ?_⟩
  have e1:Int.toNat 1=1:=rfl;have e2:Int.toNat (((t::r).length:Nat):Int) - 1=r.length:=by simp
  rw [e1,e2]
  by_cases hc1:c=1
  ·have hr:r=[]:=List.eq_nil_of_length_eq_zero (by omega)
   subst hr;rw [if_pos hc1];exact ⟨⟨rfl,.inl ⟨rfl,_,_,rfl⟩⟩,fun a l c' e=>by cases e;exact Nat.zero_le _,fun k hk=>by cases hk;exact hlow⟩
  ·rw [if_neg hc1];refine ⟨⟨?_,.inr ⟨b,o+4,c - 1,rfl,fun j u hu=>?_⟩⟩,fun a l c' e=>by cases e;omega,fun k hk=>by cases hk;exact hlow⟩
   ·have:=hs.at_.1;simp only [List.flatMap_cons,List.length_append,List.length_cons,Tok.len] at this;omega
   ·have:=hc (4+j) u (by rw [List.flatMap_cons,List.getElem?_append_right (by rw [Tok.len];omega),Tok.len];simpa using hu)
    rw [Nat.add_assoc];exact this
section
variable  {ω:Amb}{h:Hp}{G:Nat}{ts:List Tok}{e n d o t:Int}
theorem dO (hp:PA h G ts e n d o t)(s:ByteArray)(X:XT) :
  aa Tryz.prog ω oy [.pointer (some ⟨G,0,none⟩),.string s] h (fun r h'=>r=.bool (isT (bytesOf s) ts)∧h=h') X:=by
 obtain ⟨vl,hb,htk⟩:=hp.ex;refine oH ω _ _ h _ X ?_;unfold gi;simp only [nnK_ptr,asP_some];refine ⟨fun v h'=>v=.bool (isT (bytesOf s) ts)∧h=h',?_,fun _ _ _ hj=>hj⟩;refine lx hb (j:=0) rfl ?_;refine htk.len fun _ _=>?_;cases ts with
 |nil=>exact aS rfl ⟨rfl,rfl⟩
 |cons x r =>
  refine bR (decide_eq_true (by simp only [List.length_cons];omega)) ?_
  refine lx hb (j:=0) rfl ?_;refine htk.rd0 (o:=0) rfl ?_;rw [asK_int];show cond (x.kind !=2) _ (Value.bool false=.bool (x.kind !=2&&bytesOf x.text==bytesOf s)∧h=h);refine ae (fun hc=>?_) (fun hc=>?_)
  ·refine lx hb (j:=0) rfl ?_;refine htk.rd0 (o:=2) rfl ?_;rw [asS_str,asS_str];refine ⟨?_,rfl⟩;show Value.bool _=.bool (x.kind !=2&&bytesOf x.text==bytesOf s);rw [hc,Bool.true_and,eqS]
   congr 1
   rw [Bool.eq_iff_iff,decide_eq_true_eq,beq_iff_eq]
  ·rw [hc,Bool.false_and];exact ⟨rfl,rfl⟩
theorem cI (hp:PA h G ts e n d o t)(code:Int)(X:XT)(hX:X (gone (nN e code ts)) h) :
  aa Tryz.prog ω cu [.pointer (some ⟨G,0,none⟩),.int .i64 code] h (fun _ _=>False) X:=by
 obtain ⟨vl,hb,htk⟩:=hp.ex;refine lW ω _ _ h _ X ?_;unfold eF;simp only [nnK_ptr,asP_some];refine lx hb (j:=1) rfl ?_;refine lx hb (j:=0) rfl ?_;refine htk.len fun _ _=>?_;refine ⟨fun a c h'=>a=.int .i64 (nN e code ts).2∧c=.int .i64 (nN e code ts).1∧h=h',?_,?_⟩
 ·cases ts with
  |nil =>
   refine aS rfl ?_;rw [asK_int];refine ⟨fun c h'=>c=.int .i64 (nN e code []).1∧h=h',?_,fun _ _ _ hj=>⟨rfl,hj.1,hj.2⟩⟩;unfold nN;refine ae (fun hc=>?_) (fun hc=>?_)
   ·rw [if_pos (eq_of_beq hc)];exact ⟨rfl,rfl⟩
   ·rw [if_neg (beq_eq_false_iff_ne.1 hc)];exact ⟨rfl,rfl⟩
  |cons x r =>
   refine bR (decide_eq_true (by simp only [List.length_cons];omega)) ?_
   refine lx hb (j:=0) rfl ?_;refine htk.rd0 (o:=1) rfl ?_;exact ⟨rfl,rfl,rfl⟩
 ·rintro _ _ _ _ ⟨rfl,rfl,rfl⟩;exact hX
theorem bX {x:Tok}{r:List Tok}(hp:PA h G (x::r) e n d o t)(X:XT) :
  aa Tryz.prog ω cq [.pointer (some ⟨G,0,none⟩)] h (fun v h'=>v=.agg x.f.toArray∧PA h' G r e n d o t∧KG G h h') X:=by
 have hlt:=hp.lt;obtain ⟨vl,hb,htk⟩:=hp.ex;refine kY ω _ h _ X ?_;unfold er;simp only [nnK_ptr,asP_some];have hr1:=af (h:=h) (o:=.cells #[(.int .i64 0),(.int .i64 0),(.string ⟨#[]⟩),(.int .i64 0)] 100 (0,0));have k1:=ar.push (S:=fun _=>False) h (.cells #[(.int .i64 0),(.int .i64 0),(.string ⟨#[]⟩),(.int .i64 0)] 100 (0,0));have z1:(h.push (.cells #[(.int .i64 0),(.int .i64 0),(.string ⟨#[]⟩),(.int .i64 0)] 100 (0,0))).size=h.size+1:=by simp
 generalize h.push (.cells #[(.int .i64 0),(.int .i64 0),(.string ⟨#[]⟩),(.int .i64 0)] 100 (0,0))=h1 at *;have hb1:=k1.get hb (by simp)
 have ht1:=htk.az k1 (fun _ _ h=>h);refine lx hb1 (j:=0) rfl ?_;refine ht1.rdC ?_;refine ⟨rfl,Tok.one x,ay (cs:=x.f) rfl ?_⟩;have hr2:=af (h:=h1) (o:=.cells x.f.toArray 100 (0,0));have k2:=ar.push (S:=fun _=>False) h1 (.cells x.f.toArray 100 (0,0));have z2:(h1.push (.cells x.f.toArray 100 (0,0))).size=h1.size+1:=by simp
 generalize h1.push (.cells x.f.toArray 100 (0,0))=h2 at *;have hb2:=k2.get hb1 (by simp)
 have hr12:=k2.get hr1 (by simp)
 have ht2:=ht1.az k2 (fun _ _ h=>h);refine lx hb2 (j:=0) rfl ?_;refine TkS.tail (K:=fun w=>aE h2 (Addr.add ⟨G,0,none⟩ 0) w _) ht2 fun v' hv1 hv'=>?_;refine aG (o:=0) hb2 (by simp [psr]) ?_
 rw [show (psr vl e n d o t).toArray.setIfInBounds 0 v'=(psr v' e n d o t).toArray from by simp [psr]]
 have hb3:=aq (o:=.cells (psr v' e n d o t).toArray 71 (0,0)) hb2;have k3:=ar.set (S:=fun b=>b=G) (h:=h2) (.cells (psr v' e n d o t).toArray 71 (0,0)) (b:=G) rfl;generalize h2.setIfInBounds G (.cells (psr v' e n d o t).toArray 71 (0,0))=h3 at *;have hr23:=k3.get hr2 (by omega)
 have hr13:=k3.get hr12 (by omega)
 refine ⟨_,ak hr23 rfl,rfl,Tok.one x,?_⟩;refine aM (o:=0) hr13 (by simp [Tok.f]) ?_
 rw [bu (by rfl)]
 have hb4:=aq (o:=.cells x.f.toArray 100 (0,0)) hr13;have k4:=ar.set (S:=fun b=>b=h.size) (h:=h3) (.cells x.f.toArray 100 (0,0)) (b:=h.size) rfl;generalize h3.setIfInBounds h.size (.cells x.f.toArray 100 (0,0))=h4 at *;refine ⟨_,ak hb4 rfl,rfl,?_,?_⟩
 ·exact PA.az ⟨v',hb3,hv'.az k3 fun b hb e=>by omega⟩ k4 fun b hb e=>by omega
 ·exact iC ((fe (k1.trans k2)).trans k3) (Nat.le_refl _) k4
end
abbrev pp (G:Nat):Value:=.pointer (some ⟨G,0,none⟩)
def uO (e k:Int):List Tok→Except (Int×Int) (Tok×List Tok)
 |[]=>.error (6,e)
 |t::r=>if t.kind=k then .ok (t,r) else .error (5,t.at_)
theorem jL (e k:Int)(t:Tok)(r:List Tok):uO e k (t::r)=if t.kind=k then .ok (t,r) else .error (5,t.at_):=rfl
theorem nU (e:Int)(t:Tok)(r:List Tok):dj e (t::r)=if t.kind=2 then .ok (t.text,r) else .error (5,t.at_):=rfl
theorem sb (e:Int)(t:Tok)(r:List Tok):Bp e (t::r)=if t.kind=3 then .ok (t.n,r) else .error (5,t.at_):=rfl
theorem uf (e:Int)(ts:List Tok):dj e ts=aA (uO e 2 ts) fun q=>.ok (q.1.text,q.2):=by
 cases ts with
 |nil=>rfl
 |cons t r =>
  rw [nU,jL]
  by_cases h:t.kind=2
  ·rw [if_pos h,if_pos h];rfl
  ·rw [if_neg h,if_neg h];rfl
theorem BA (e:Int)(ts:List Tok):Bp e ts=aA (uO e 3 ts) fun q=>.ok (q.1.n,q.2):=by
 cases ts with
 |nil=>rfl
 |cons t r =>
  rw [sb,jL]
  by_cases h:t.kind=3
  ·rw [if_pos h,if_pos h];rfl
  ·rw [if_neg h,if_neg h];rfl
theorem eR.mv {h h':Hp}{N N' S:Nat→Prop}{v:Value}{l:List Ex}(hs:eR h N v l)(k:ar S h h')(hn:∀b,N b→¬S b)(hm:∀b,N b→N' b):eR h' N' v l :=
 hs.map fun _ _ _ _ hs=>(hs.az k hn).mono hm
theorem oF.mv {h h':Hp}{N N' S:Nat→Prop}{v:Value}{l:List St}(hs:oF h N v l)(k:ar S h h')(hn:∀b,N b→¬S b)(hm:∀b,N b→N' b):oF h' N' v l :=
 hs.map fun _ _ _ _ hs=>(hs.az k hn).mono hm
def slN (v:Option Value):Nat:=match v with
 |some (.slice _ l _)=>l
 |_=>0
def tkN (G:Nat)(h:Hp):Nat:=match h[G]? with
 |some (.cells cs _ _)=>slN (cs.toList[0]?)
 |_=>0
theorem TkS.form {h:Hp}{G:Nat}{v:Value}{ts:List Tok}(hs:TkS h G v ts):∃a c,v=.slice a ts.length c:=by
 rcases hs.at_.2 with ⟨h0,a,c,rfl⟩|⟨b,o,c,rfl,_⟩
 ·exact ⟨a,c,by rw [h0]⟩
 ·exact ⟨_,_,rfl⟩
theorem PA.tkN {h:Hp}{G:Nat}{ts:List Tok}{e n d o t:Int}(hp:PA h G ts e n d o t):tkN G h=ts.length:=by
 obtain ⟨vl,hb,htk⟩:=hp.ex;obtain ⟨a,c,rfl⟩:=htk.form;unfold Go.Proofs.YtkeeboomikkojaaGreatDoor.tkN;rw [hb];rfl
theorem Hg {C D:List Value}(hC:C.length=4):Jl C D=C++D:=by
 have hz:A4.length=8:=by kernel_rfl
 unfold Jl;rw [show A4.take (0*4)=[] from rfl,List.nil_append,List.take_append_of_le_length (by omega),List.take_of_length_le (by omega),List.drop_eq_nil_of_le (by rw [List.length_append,List.length_drop];omega),List.append_nil]
section
variable  {ω:Amb}{h:Hp}{G:Nat}{ts:List Tok}{e n d o t:Int}
theorem Ae (hp:PA h G ts e n d o t)(k:Int)(X:XT)(hX:∀x h',uO e k ts=.error x→KX G h h'→X (gone x) h') :
  aa Tryz.prog ω lB [pp G,.int .i64 k] h (fun v h'=>∃x r,uO e k ts=.ok (x,r)∧v=.agg x.f.toArray∧PA h' G r e n d o t∧KG G h h') X:=by
 have hlt:=hp.lt;refine lr ω _ _ h _ X ?_;unfold eu;simp only [nnK_ptr,asP_some];have hr1:=af (h:=h) (o:=.cells #[(.int .i64 0),(.int .i64 0),(.string ⟨#[]⟩),(.int .i64 0)] 100 (0,0));have k1:=ar.push (S:=fun _=>False) h (.cells #[(.int .i64 0),(.int .i64 0),(.string ⟨#[]⟩),(.int .i64 0)] 100 (0,0));generalize h.push (.cells #[(.int .i64 0),(.int .i64 0),(.string ⟨#[]⟩),(.int .i64 0)] 100 (0,0))=h1 at *
 have hp1:=hp.az k1 (fun _ _ h=>h);obtain ⟨vl,hb,htk⟩:=hp1.ex;have hbad:∀{P:Hp→Prop},(∀y,uO e k ts=.error y→nN e 5 ts=y)→(∀x r,uO e k ts≠.ok (x,r))→aa Tryz.prog ω cu [pp G,.int .i64 5] h1 (fun _ h19=>P h19) X:=by
  intro P he hne;cases hk:uO e k ts with
  |ok q=>exact absurd hk (hne q.1 q.2)
  |error y =>
   refine aa.mono (cI hp1 5 X ?_) (fun _ _ hf=>hf.elim) (fun _ _ hx=>hx);rw [he y hk];exact hX y h1 hk ⟨fe k1,hp1.pb⟩
 have hgood:∀(x:Tok) (r:List Tok),ts=x::r→x.kind=k→aa Tryz.prog ω cq [pp G] h1 (fun r20 h21=>asA r20 fun A22=>A22.size=4∧(∀u∈A22.toList,one u)∧au h21 ⟨h.size,0,none⟩ A22.toList fun h23 =>
   ∃C24,aj h23 ⟨h.size,0,none⟩ 4 C24∧∃x r,uO e k ts=.ok (x,r)∧(.agg C24.toArray:Value)=.agg x.f.toArray∧PA h23 G r e n d o t∧KG G h h23) X:=by
  rintro x r rfl hk;refine aa.use (bX hp1) ?_;rintro _ h2 ⟨rfl,hp2,k2⟩;have hr2:=k2.get hr1 (by omega)
  rw [asA_agg];refine ⟨rfl,Tok.one x,aM (o:=0) hr2 (by simp [Tok.f]) ?_⟩
  rw [bu (by rfl)]
  have hb4:=aq (o:=.cells x.f.toArray 100 (0,0)) hr2;have k4:=ar.set (S:=fun b=>b=h.size) (h:=h2) (.cells x.f.toArray 100 (0,0)) (b:=h.size) rfl;generalize h2.setIfInBounds h.size (.cells x.f.toArray 100 (0,0))=h4 at *;refine ⟨_,ak hb4 rfl,x,r,?_,rfl,hp2.az k4 fun b hb e=>by omega,iC ((fe k1).trans k2) (Nat.le_refl _) k4⟩
  rw [jL];exact if_pos hk
 cases ts with
 |nil =>
  refine ⟨true,?_,fun _=>?_⟩
  ·refine lx hb (j:=0) rfl ?_;refine htk.len fun _ _=>?_;exact bR rfl ⟨rfl,trivial⟩
  ·refine ⟨fun _=>False,?_,fun _ _ h=>h.elim⟩;exact hbad (P:=fun _=>False) (fun y hy=>by cases hy;rfl) (fun x r hk=>by cases hk)
 |cons x r =>
  refine ⟨x.kind !=k,?_,fun _=>?_⟩
  ·refine lx hb (j:=0) rfl ?_;refine htk.len fun _ _=>?_;refine aS (by simp only [List.length_cons,beq_eq_false_iff_ne];omega) ?_
   refine lx hb (j:=0) rfl ?_;refine htk.rd0 (o:=0) rfl ?_;rw [asK_int,asK_int];exact ⟨rfl,trivial⟩
  ·refine ⟨fun h'=>x.kind=k∧h1=h',?_,?_⟩
   ·refine ae (fun hc=>?_) (fun hc=>?_)
    ·have hne:=bne_iff_ne.1 hc;refine hbad (P:=fun h'=>x.kind=k∧h1=h') (fun y hy=>?_) (fun y r' hk=>?_)
     ·rw [jL,if_neg hne] at hy;cases hy;rfl
     ·rw [jL,if_neg hne] at hk;cases hk
    ·exact ⟨by simpa using hc,rfl⟩
   ·rintro _ _ ⟨hk,rfl⟩;exact hgood x r rfl hk
theorem iN (hp:PA h G ts e n d o t)(X:XT)(hX:∀x h',dj e ts=.error x→KX G h h'→X (gone x) h') :
  aa Tryz.prog ω lA [pp G] h (fun v h'=>∃s r,dj e ts=.ok (s,r)∧v=.string s∧PA h' G r e n d o t∧KG G h h') X:=by
 refine mo ω _ h _ X ?_;unfold ez;refine aa.mono (Ae hp 2 X fun x h' hx k=>hX x h' (by rw [uf,hx];rfl) k) ?_ (fun _ _ hx=>hx)
 rintro _ h1 ⟨x,r,hk,rfl,hp1,k1⟩;rw [asA_agg];exact ⟨x.text,r,by rw [uf,hk];rfl,rfl,hp1,k1⟩
theorem An (hp:PA h G ts e n d o t)(s:ByteArray)(vl:Value)(hvl:bh h 1 vl 1 [.string s])(X:XT)(hX:∀x h',aR e (bytesOf s) ts=.error x→KX G h h'→X (gone x) h') :
  aa Tryz.prog ω ey [pp G,vl] h (fun _ h'=>∃r,aR e (bytesOf s) ts=.ok r∧PA h' G r e n d o t∧KG G h h') X:=by
 refine lj ω _ _ h _ X ?_;unfold eL;refine bh.sl hvl fun _ _=>?_;refine ⟨fun v h'=>(v=.int .i64 0∧h=h')∨(v=.int .i64 1∧∃r,aR e (bytesOf s) ts=.ok r∧PA h' G r e n d o t∧KG G h h'),fun v _=>match v with|.int _ k=>1 - k.toNat|_=>0,.inl ⟨rfl,rfl⟩,?_⟩
 rintro _ _ h1 (⟨rfl,rfl⟩|⟨rfl,hfin⟩)
 ·rw [asK_int];refine bR (by decide) ?_
  refine bh.rd1 (i:=0) hvl rfl ?_;refine aa.use (dO hp s) ?_;rintro _ _ ⟨rfl,rfl⟩;rw [asB_bool];refine ⟨fun h'=>isT (bytesOf s) ts=true∧h=h',?_,?_⟩
  ·refine ae (fun hc=>?_) (fun hc=>?_)
   ·have hc:isT (bytesOf s) ts=false:=by simpa using hc
    refine aa.mono (cI hp 5 X ?_) (fun _ _ hf=>hf.elim) (fun _ _ hx=>hx);refine hX _ h ?_ ⟨ar.refl _ _,hp.pb⟩;unfold aR;rw [hc,if_neg Bool.false_ne_true]
   ·exact ⟨by simpa using hc,rfl⟩
  rintro _ _ ⟨hT,rfl⟩;cases ts with
  |nil=>cases hT
  |cons x r =>
   refine aa.use (bX hp) ?_;rintro _ h2 ⟨rfl,hp2,k2⟩;rw [asK_int,i64_in (by omega) (by omega)]
   refine ⟨.inr ⟨rfl,r,?_,hp2,k2⟩,by simp⟩
   unfold aR;rw [hT,if_pos rfl];rfl
 ·rw [asK_int];exact aS (by decide) hfin
theorem Bz {N:Nat→Prop}(hp:PA h G ts e n d o t)(ht:-1≤t∧t≤100000)(op:Int){a b:Ex}{wa wb:Value}(ha:eR h N wa a.l)(hb:eR h N wb b.l)(hN:∀k,N k→k < h.size∧k≠G)(X:XT) :
  aa Tryz.prog ω cz [pp G,.int .i64 op,.agg (exC a wa).toArray,.agg (exC b wb).toArray] h
   (fun r h'=>∃w,r=.agg (exC (aU op a b) w).toArray∧eR h' (fun k=>N k∨(h.size < k∧k < h'.size)) w [a,b]∧PA h' G ts e n d o (t+1)∧KG G h h') X:=by
 have hlt:=hp.lt;refine lX ω _ _ _ _ h _ X ?_;unfold eg;simp only [nnK_ptr,asP_some,show ∀C:List Value,Value.cells (.agg C.toArray)=C.toArray from fun _=>rfl]
 have hb1:=af (h:=h) (o:=.cells (exC a wa).toArray 36 (0,0));have k1:=ar.push (S:=fun _=>False) h (.cells (exC a wa).toArray 36 (0,0));have z1:(h.push (.cells (exC a wa).toArray 36 (0,0))).size=h.size+1:=by simp
 generalize h.push (.cells (exC a wa).toArray 36 (0,0))=h1 at *;have hb2:=af (h:=h1) (o:=.cells (exC b wb).toArray 36 (0,0));have k2:=ar.push (S:=fun _=>False) h1 (.cells (exC b wb).toArray 36 (0,0));have z2:(h1.push (.cells (exC b wb).toArray 36 (0,0))).size=h1.size+1:=by simp
 generalize h1.push (.cells (exC b wb).toArray 36 (0,0))=h2 at *;have hb3:=af (h:=h2) (o:=.cells #[(.int .i64 0),(.string ⟨#[]⟩),(.int .i64 0),(.slice none 0 0)] 36 (0,0));have k3:=ar.push (S:=fun _=>False) h2 (.cells #[(.int .i64 0),(.string ⟨#[]⟩),(.int .i64 0),(.slice none 0 0)] 36 (0,0));have z3:(h2.push (.cells #[(.int .i64 0),(.string ⟨#[]⟩),(.int .i64 0),(.slice none 0 0)] 36 (0,0))).size=h2.size+1:=by simp
 generalize h2.push (.cells #[(.int .i64 0),(.string ⟨#[]⟩),(.int .i64 0),(.slice none 0 0)] 36 (0,0))=h3 at *;have k03:=(k1.trans k2).trans k3;obtain ⟨vl,hg,htk⟩:=(hp.az k03 (fun _ _ h=>h)).ex;refine lx hg (j:=5) rfl ?_;rw [asK_int,i64_in (by omega) (by omega)]
 refine aG (o:=5) hg (by simp [psr]) ?_
 rw [show (psr vl e n d o t).toArray.setIfInBounds 5 (.int .i64 (t+1))=(psr vl e n d o (t+1)).toArray from by simp [psr]]
 have hg4:=aq (o:=.cells (psr vl e n d o (t+1)).toArray 71 (0,0)) hg;have k4:=ar.set (S:=fun b=>b=G) (h:=h3) (.cells (psr vl e n d o (t+1)).toArray 71 (0,0)) (b:=G) rfl;have z4:(h3.setIfInBounds G (.cells (psr vl e n d o (t+1)).toArray 71 (0,0))).size=h3.size:=by simp
 generalize h3.setIfInBounds G (.cells (psr vl e n d o (t+1)).toArray 71 (0,0))=h4 at *;have hp4:PA h4 G ts e n d o (t+1):=⟨vl,hg4,htk.az k4 fun b hb e=>by omega⟩
 have hb14:=k4.get (k3.get (k2.get hb1 (by simp)) (by simp)) (by omega)
 have hb24:=k4.get (k3.get hb2 (by simp)) (by omega)
 have hb34:=k4.get hb3 (by omega)
 refine ⟨_,ak hb14 rfl,_,ak hb24 rfl,rfl,rfl,?_⟩;rw [oneK_int];refine ⟨trivial,?_,?_⟩
 ·intro u hu;simp only [List.mem_cons,List.not_mem_nil,or_false] at hu;rcases hu with rfl|rfl|rfl|rfl<;>rfl
 rw [Hg (C:=(exC a wa).toArray.toList) (D:=(exC b wb).toArray.toList) rfl];have hb5:=af (h:=h4) (o:=.cells (List.toArray ((exC a wa).toArray.toList++(exC b wb).toArray.toList)) 36 (0,0));have k5:=ar.push (S:=fun _=>False) h4 (.cells (List.toArray ((exC a wa).toArray.toList++(exC b wb).toArray.toList)) 36 (0,0));have z5:(h4.push (.cells (List.toArray ((exC a wa).toArray.toList++(exC b wb).toArray.toList)) 36 (0,0))).size=h4.size+1:=by simp
 generalize h4.push (.cells (List.toArray ((exC a wa).toArray.toList++(exC b wb).toArray.toList)) 36 (0,0))=h5 at *;have hb35:=k5.get hb34 (by simp)
 refine aM (o:=0) hb35 (by simp) ?_
 rw [bu (by rfl)]
 have hb6:=aq (o:=.cells (exC (aU op a b) (.slice (some ⟨h4.size,0,none⟩) 2 2)).toArray 36 (0,0)) hb35;have k6:=ar.set (S:=fun b=>b=h2.size) (h:=h5) (.cells (exC (aU op a b) (.slice (some ⟨h4.size,0,none⟩) 2 2)).toArray 36 (0,0)) (b:=h2.size) rfl;have z6:(h5.setIfInBounds h2.size (.cells (exC (aU op a b) (.slice (some ⟨h4.size,0,none⟩) 2 2)).toArray 36 (0,0))).size=h5.size:=by simp
 simp only [show [Value.int .i64 op,.string ⟨#[]⟩,.int .i64 0,.slice (some ⟨h4.size,0,none⟩) 2 2]=exC (aU op a b) (.slice (some ⟨h4.size,0,none⟩) 2 2) from rfl]
 generalize h5.setIfInBounds h2.size (.cells (exC (aU op a b) (.slice (some ⟨h4.size,0,none⟩) 2 2)).toArray 36 (0,0))=h6 at *;have hb56:=k6.get hb5 (by omega)
 have k04:KG G h h4:=(fe k03).trans k4;have k06:KG G h h6:=iC (k04.trans (fe k5)) (by omega) k6
 refine ⟨_,ak hb6 rfl,_,rfl,?_,(hp4.az k5 fun _ _ h=>h).az k6 fun b hb e=>by omega,k06⟩
 have hmv:∀{w:Value} {l:List Ex},eR h N w l→eR h6 (fun k=>N k∨(h.size < k∧k < h6.size)) w l:=fun hs=>by
  refine eR.mv hs (k06.mono (S':=fun b=>b=G) fun _ _ h=>h) (fun b hb=>(hN b hb).2) fun b hb=>.inl hb
 refine ⟨exC a wa++exC b wb,⟨⟨⟨rfl,.inr ⟨h4.size,0,2,rfl,fun j u hu=>?_⟩⟩,by simp⟩,fun k hk=>?_⟩,?_⟩
 ·rw [Nat.zero_add,aO hb56];simpa using hu
 ·have hk:h4.size=k:=Option.some.inj hk;exact .inr ⟨by omega,by omega⟩
 ·unfold bC;refine ⟨jB.2 ⟨wa,rfl,hmv ha⟩,?_⟩;unfold bC;refine ⟨jB.2 ⟨wb,rfl,hmv hb⟩,?_⟩;unfold bC;rfl
end
theorem ai {α β:Type}{r:Except (Int×Int) α}{f:α→Except (Int×Int) β}{b:β}(h:aA r f=.ok b):∃a,r=.ok a∧f a=.ok b:=by
 cases r with
 |error e=>cases h
 |ok a=>exact ⟨a,rfl,h⟩
theorem bq {s:List UInt8}{l:List Tok}(h:isT s l=true):l.length=l.tail.length+1:=by
 cases l with
 |nil=>cases h
 |cons t r=>rfl
def Les (n:Nat)(l:List Tok)(r:Ex×Nat×List Tok):Prop:=r.2.2.length < l.length∧r.2.1+r.2.2.length≤n+l.length
def Leq (n:Nat)(l:List Tok)(r:Ex×Nat×List Tok):Prop:=r.2.2.length≤l.length∧r.2.1+r.2.2.length≤n+l.length
theorem Ep (e:Int):∀f:Nat,(∀{o n l r},pj e f o n l=.ok r→Les n l r)∧(∀{o n l r},nZ e f o n l=.ok r→Les n l r)∧(∀{o x n l r},o0 e f o x n l=.ok r→Leq n l r) ∧
  (∀{o n l r},dQ e f o n l=.ok r→Les n l r)∧(∀{o x n l r},dY e f o x n l=.ok r→Leq n l r)∧(∀{o n l r},bF e f o n l=.ok r→Les n l r):=by
 intro f
 induction f with
 |zero =>
  refine ⟨?_,?_,?_,?_,?_,?_⟩
  ·intro o n l r h;unfold pj at h;cases h
  ·intro o n l r h;unfold nZ at h;cases h
  ·intro o x n l r h;unfold o0 at h;cases h
  ·intro o n l r h;unfold dQ at h;cases h
  ·intro o x n l r h;unfold dY at h;cases h
  ·intro o n l r h;unfold bF at h;cases h
 |succ f ih =>
  obtain ⟨i1,i2,i3,i4,i5,i6⟩:=ih;refine ⟨?_,?_,?_,?_,?_,?_⟩
  ·intro o n l r h;unfold pj at h;obtain ⟨a,ha,h⟩:=ai h;obtain ⟨a1,a2⟩:=i2 ha
   split at h
   ·rename_i hT;have ht:=bq hT;obtain ⟨b,hb,h⟩:=ai h;obtain ⟨b1,b2⟩:=i2 hb;cases h;exact ⟨by show b.2.2.length < _;omega,by show b.2.1+1+b.2.2.length≤_;omega⟩
   split at h
   ·rename_i hT;have ht:=bq hT;obtain ⟨b,hb,h⟩:=ai h;obtain ⟨b1,b2⟩:=i2 hb;cases h;exact ⟨by show b.2.2.length < _;omega,by show b.2.1+1+b.2.2.length≤_;omega⟩
   ·cases h;exact ⟨a1,a2⟩
  ·intro o n l r h;unfold nZ at h;obtain ⟨a,ha,h⟩:=ai h;obtain ⟨a1,a2⟩:=i4 ha;obtain ⟨b1,b2⟩:=i3 h;exact ⟨by omega,by omega⟩
  ·intro o x n l r h;unfold o0 at h
   split at h
   ·rename_i hT;have ht:=bq hT;obtain ⟨a,ha,h⟩:=ai h;obtain ⟨a1,a2⟩:=i4 ha;obtain ⟨b1,b2⟩:=i3 h;exact ⟨by omega,by omega⟩
   split at h
   ·rename_i hT;have ht:=bq hT;obtain ⟨a,ha,h⟩:=ai h;obtain ⟨a1,a2⟩:=i4 ha;obtain ⟨b1,b2⟩:=i3 h;exact ⟨by omega,by omega⟩
   ·cases h;exact ⟨Nat.le_refl _,Nat.le_refl _⟩
  ·intro o n l r h;unfold dQ at h;obtain ⟨a,ha,h⟩:=ai h;obtain ⟨a1,a2⟩:=i6 ha;obtain ⟨b1,b2⟩:=i5 h;exact ⟨by omega,by omega⟩
  ·intro o x n l r h;unfold dY at h
   split at h
   ·rename_i hT;have ht:=bq hT;obtain ⟨a,ha,h⟩:=ai h;obtain ⟨a1,a2⟩:=i6 ha;obtain ⟨b1,b2⟩:=i5 h;exact ⟨by omega,by omega⟩
   ·cases h;exact ⟨Nat.le_refl _,Nat.le_refl _⟩
  ·intro o n l r h;unfold bF at h
   split at h
   ·rename_i hT;have ht:=bq hT
    split at h
    ·cases h
    obtain ⟨a,ha,h⟩:=ai h;obtain ⟨a1,a2⟩:=i1 ha
    split at h
    ·rename_i hT2;have ht2:=bq hT2;cases h;exact ⟨by show a.2.2.tail.length < _;omega,by show a.2.1+a.2.2.tail.length≤_;omega⟩
    ·cases h
   split at h
   ·rename_i hT;have ht:=bq hT
    split at h
    ·cases h
    obtain ⟨a,ha,h⟩:=ai h;obtain ⟨a1,a2⟩:=i6 ha;cases h;exact ⟨by show a.2.2.length < _;omega,by show a.2.1+a.2.2.length≤_;omega⟩
   split at h
   ·cases h
   ·rename_i t r'
    split at h
    ·cases h;exact ⟨by simp,by simp only [List.length_cons];omega⟩
    split at h
    ·cases h;exact ⟨by simp,by simp only [List.length_cons];omega⟩
    ·cases h
section
variable  {ω:Amb}
set_option maxRecDepth 100000 in
theorem zZ {h:Hp}{G B:Nat}(hbox:h[B]?=some (.cells [pp G].toArray 69 (0,0))){vl:Value}{e n d o t:Int}(hg:h[G]?=some (.cells (psr vl e n d o t).toArray 71 (0,0))){R:RT}
  (hR:∀h',ar (fun b=>b=G) h h'→h'[G]?=some (.cells (psr vl e n d (IntKind.wrap .i64 (o - 1)) t).toArray 71 (0,0))→R (.tuple #[]) h') :
  fnX Tryz.prog ω dz Tryz.f177 [.pointer (some ⟨B,0,none⟩)] h R (fun _ _=>False):=by
 refine (show fnX Tryz.prog ω dz Tryz.f177 [.pointer (some ⟨B,0,none⟩)] h R (fun _ _=>False)=dv ω (.pointer (some ⟨B,0,none⟩)) h R (fun _ _=>False) by kernel_rfl)▸?_
 unfold dv;rw [asP_some];refine ⟨pp G,by rw [aO hbox];rfl,?_⟩
 simp only [nnK_ptr,asP_some];refine lx hg (j:=4) rfl ?_;rw [asK_int];refine aG (o:=4) hg (by simp [psr]) ?_
 rw [show (psr vl e n d o t).toArray.setIfInBounds 4 (.int .i64 (IntKind.wrap .i64 (o - 1)))=(psr vl e n d (IntKind.wrap .i64 (o - 1)) t).toArray from by simp [psr]]
 exact hR _ (ar.set (S:=fun b=>b=G) _ rfl) (aq hg)
set_option maxRecDepth 100000 in
theorem F6 (v:Value)(w:World):(invoke (.fn (.func 177) #[v]) #[]).run Tryz.prog w=.ok (.enter 177 #[v]) w:=by
 have h1:Tryz.prog.funcs[177]?=some Tryz.f177:=Tryz.func177;simp only [invoke,callFunc,Sem.run_bind,run_program,Result.andThen_ok,h1];rfl
set_option maxRecDepth 100000 in
theorem zX {fr:Fr}{h':Hp}{B:Nat}{C:List Value}{F:Value→Prop}(h2:fr.getD 2 undef=.pointer (some ⟨B,0,none⟩))(hb:h'[B]?=some (.cells C.toArray 36 (0,0)))(hC:C.length=4)(hF:F (.agg C.toArray)) :
  yd Tryz.prog Tryz.f176.results.toList fr h' [] F:=by
 refine (show yd Tryz.prog Tryz.f176.results.toList fr h' [] F=(asP (fr.getD 2 undef) fun ad=>∃cs,aj h' ad 4 cs∧F (.agg cs.toArray)) by kernel_rfl)▸?_
 rw [h2,asP_some];exact ⟨C,ak hb hC,hF⟩
end
def ExR (h h':Hp)(r:Value)(x:Ex):Prop:=∃w,r=.agg (exC x w).toArray∧eR h' (Nw h h') w x.l
def EL (ω:Amb)(num:FuncId)(e:Int)(pf:Nat→Nat→Nat→List Tok→PR Ex)(c f:Nat):Prop:=∀(h:Hp) (G:Nat) (ts:List Tok) (n d:Int) (o t:Nat),PA h G ts e n d o t→o≤60→t+ts.length≤20000→4*ts.length+c≤f →
 ∀(X:XT),(∀x h',pf f o t ts=.error x→KX G h h'→X (gone x) h') →
  aa Tryz.prog ω num [pp G] h (fun r h'=>∃x m ts',pf f o t ts=.ok (x,m,ts')∧ExR h h' r x∧PA h' G ts' e n d o m∧KG G h h') X
def clo (B:Nat):Value:=.func (.func 177) #[] #[.pointer (some ⟨B,0,none⟩)]
structure U0 (h:Hp)(G:Nat)(ts:List Tok)(e n d:Int)(o t f:Nat)(b:Bool)(v:Value)(h':Hp)(x:Ex)(m:Nat)(ts':List Tok)(w:Value):Prop where
 ok:bF e f o t ts=.ok (x,m,ts')
 v:v=.tuple #[if b then clo h.size else undef,.pointer (some ⟨h.size+1,0,none⟩)]
 box:h'[h.size]?=some (.cells [pp G].toArray 69 (0,0))
 res:h'[h.size+1]?=some (.cells (exC x w).toArray 36 (0,0))
 ex:eR h' (fun k=>h.size+1 < k∧k < h'.size) w x.l
 pa:PA h' G ts' e n d ((if b then o+1 else o:Nat):Int) m
 k:KG G h h'
theorem Aj {e:Int}{f o n:Nat}{t:Tok}{r:List Tok}(h1:isT [40] (t::r)=false)(h2:isT [45] (t::r)=false):bF e (f+1) o n (t::r)=if t.kind=3 then .ok (mh t.n,n+1,r) else if t.kind=2 then .ok (dV t.text,n+1,r) else .error (5,t.at_):=by
 unfold bF;rw [h1,h2,if_neg Bool.false_ne_true,if_neg Bool.false_ne_true]
theorem dS {s:List UInt8}{ts:List Tok}(h:isT s ts=true):∃t r,ts=t::r:=by
 cases ts with
 |nil=>cases h
 |cons t r=>exact ⟨t,r,rfl⟩
theorem od {h:Hp}{N:Nat→Prop}:eR h N (.slice none 0 0) []:=⟨[],⟨⟨⟨rfl,.inl ⟨rfl,_,_,rfl⟩⟩,by decide⟩,fun k hk=>by cases hk⟩,by unfold bC;rfl⟩
theorem SlN.FW {h:Hp}{b:Nat}{N:Nat→Prop}{sz n:Nat}{T:TypeId}{us:List Value}(hb:h[b]?=some (.cells us.toArray T (0,0)))(hl:us.length=n*sz)(hn:n≤9223372036854775807)(hN:N b):SlN h N sz (.slice (some ⟨b,0,none⟩) n n) n us :=
 ⟨⟨⟨hl,.inr ⟨b,0,n,rfl,fun j u hu=>by rw [Nat.zero_add,aO hb];simpa using hu⟩⟩,hn⟩,fun k hk=>by cases hk;exact hN⟩
section
variable  {ω:Amb}
set_option maxHeartbeats 1000000 in
theorem IZ {e:Int}{f:Nat}(hC:EL ω bM e (pj e) 4 f)(hU:EL ω 176 e (bF e) 1 f){h:Hp}{G:Nat}{ts:List Tok}{n d:Int}{o t:Nat}(hp:PA h G ts e n d o t)(ho:o≤60)(ht:t+ts.length≤20000)(hf:4*ts.length+1≤f+1) :
  si ω (pp G) h (fun v h'=>∃b x m ts' w,U0 h G ts e n d o t (f+1) b v h' x m ts' w) (fun c h'=>∃x,c=gone x∧bF e (f+1) o t ts=.error x∧KX G h h'∧h'[h.size]?=some (.cells [pp G].toArray 69 (0,0))):=by
 have hlt:=hp.lt;unfold si;simp only [show Value.cells (pp G)=[pp G].toArray from rfl]
 have hbox1:=af (h:=h) (o:=.cells [pp G].toArray 69 (0,0));have k1:=ar.push (S:=fun _=>False) h (.cells [pp G].toArray 69 (0,0));have z1:(h.push (.cells [pp G].toArray 69 (0,0))).size=h.size+1:=by simp
 generalize h.push (.cells [pp G].toArray 69 (0,0))=h1 at *;have hres2:=af (h:=h1) (o:=.cells #[(.int .i64 0),(.string ⟨#[]⟩),(.int .i64 0),(.slice none 0 0)] 36 (0,0));have k2:=ar.push (S:=fun _=>False) h1 (.cells #[(.int .i64 0),(.string ⟨#[]⟩),(.int .i64 0),(.slice none 0 0)] 36 (0,0));have z2:(h1.push (.cells #[(.int .i64 0),(.string ⟨#[]⟩),(.int .i64 0),(.slice none 0 0)] 36 (0,0))).size=h1.size+1:=by simp
 generalize h1.push (.cells #[(.int .i64 0),(.string ⟨#[]⟩),(.int .i64 0),(.slice none 0 0)] 36 (0,0))=h2 at *;rw [z1] at hres2;have hbox2:=k2.get hbox1 (by simp)
 have k02:=k1.trans k2;have hp2:=hp.az k02 (fun _ _ h=>h);have b40:bytesOf ⟨#[40]⟩=[40]:=rfl;have b45:bytesOf ⟨#[45]⟩=[45]:=rfl;have b41:bytesOf ⟨#[41]⟩=[41]:=rfl;rw [z1];have bx:∀{hh:Hp},hh[h.size]?=some (.cells [pp G].toArray 69 (0,0))→ah hh ⟨h.size,0,none⟩=some (pp G):=fun hb=>by rw [aO hb];rfl
 refine ⟨fun v h'=>v=.bool (isT [40] ts||isT [45] ts)∧h2=h',?_,?_⟩
 ·refine ⟨_,bx hbox2,?_⟩;refine aa.use (dO hp2 ⟨#[40]⟩) ?_;rintro _ _ ⟨rfl,rfl⟩;rw [asB_bool,b40];refine ae (fun hc=>?_) (fun hc=>?_)
  ·exact ⟨by rw [hc,Bool.true_or],rfl⟩
  ·refine ⟨_,bx hbox2,?_⟩;refine aa.use (dO hp2 ⟨#[45]⟩) ?_;rintro _ _ ⟨rfl,rfl⟩;exact ⟨by rw [hc,Bool.false_or,b45],rfl⟩
 rintro _ _ _ ⟨rfl,rfl⟩;refine ⟨fun v h'=>v=(if (isT [40] ts||isT [45] ts) then clo h.size else undef)∧((isT [40] ts||isT [45] ts)=true→o < 60)∧PA h' G ts e n d ((if (isT [40] ts||isT [45] ts) then o+1 else o:Nat):Int) t∧ar (fun b=>b=G) h2 h',?_,?_⟩
 ·rw [asB_bool];refine ae (fun hc=>?_) (fun hc=>?_)
  ·refine ⟨_,bx hbox2,?_⟩;simp only [nnK_ptr,asP_some];obtain ⟨vl,hg,htk⟩:=hp2.ex;refine lx hg (j:=4) rfl ?_;rw [asK_int];refine ⟨fun h'=>o≠60∧h2=h',?_,?_⟩
   ·refine ae (fun h60=>?_) (fun h60=>?_)
    ·have h60:o=60:=by have:=eq_of_beq h60;omega
     refine ⟨_,bx hbox2,?_⟩;refine aa.mono (cI hp2 7 (fun c h'=>∃x,c=gone x∧bF e (f+1) o t ts=.error x∧KX G h h'∧h'[h.size]?=some (.cells [pp G].toArray 69 (0,0))) ?_) (fun _ _ hf=>hf.elim) (fun _ _ hx=>hx);refine ⟨_,rfl,?_,⟨fe k02,hp2.pb⟩,hbox2⟩;unfold bF;cases h40:isT [40] ts with
     |true=>rw [if_pos rfl,if_pos h60]
     |false =>
      rw [h40,Bool.false_or] at hc;rw [if_neg Bool.false_ne_true,hc,if_pos rfl,if_pos h60]
    ·exact ⟨fun hh=>by rw [hh] at h60;exact absurd h60 (by decide),rfl⟩
   rintro _ _ ⟨h60,rfl⟩;refine ⟨_,bx hbox2,?_⟩;simp only [nnK_ptr,asP_some];refine lx hg (j:=4) rfl ?_;rw [asK_int,i64_in (by omega) (by omega)]
   refine aG (o:=4) hg (by simp [psr]) ?_
   rw [show (psr vl e n d (o:Int) t).toArray.setIfInBounds 4 (.int .i64 ((o:Int)+1))=(psr vl e n d ((o:Int)+1) t).toArray from by simp [psr]]
   have hg3:=aq (o:=.cells (psr vl e n d ((o:Int)+1) t).toArray 71 (0,0)) hg;have k3:=ar.set (S:=fun b=>b=G) (h:=h2) (.cells (psr vl e n d ((o:Int)+1) t).toArray 71 (0,0)) (b:=G) rfl;refine ⟨by rw [hc,if_pos rfl];rfl,fun _=>by omega,?_,k3⟩
   rw [hc,if_pos rfl];exact ⟨vl,by push_cast;exact hg3,htk.az k3 fun b hb e=>by omega⟩
  ·refine ⟨by rw [hc,if_neg Bool.false_ne_true];rfl,fun h=>absurd (hc.symm.trans h) Bool.false_ne_true,?_,ar.refl _ _⟩
   rw [hc,if_neg Bool.false_ne_true];exact hp2
 rintro _ _ h3 ⟨rfl,h60,hp3,k3⟩;have hbox3:=k3.get hbox2 (by omega)
 have hres3:=k3.get hres2 (by omega)
 have k03:KG G h h3:=(fe k02).trans k3;have hs3:=k3.size;generalize hb:(isT [40] ts||isT [45] ts)=b at *;have fin:∀{hh:Hp} {x:Ex} {m:Nat} {ts':List Tok} {w:Value} {cur:Array Value},bF e (f+1) o t ts=.ok (x,m,ts')→hh[h.size+1]?=some (.cells cur 36 (0,0))→cur.size=4→hh[h.size]?=some (.cells [pp G].toArray 69 (0,0))→eR hh (fun k=>h.size+1 < k∧k < hh.size) w x.l →
   PA hh G ts' e n d ((if b then o+1 else o:Nat):Int) m→KG G h hh→au hh ⟨h.size+1,0,none⟩ (exC x w) fun h48=>∃b' x m ts' w,U0 h G ts e n d o t (f+1) b' (.tuple #[if b then clo h.size else undef,.pointer (some ⟨h.size+1,0,none⟩)]) h48 x m ts' w:=by
  intro hh x m ts' w cur hok hres hcur hbox hex hpa hk;refine aM (o:=0) hres (by rw [hcur];simp [exC]) ?_
  rw [bu (by rw [hcur];rfl)]
  have hb4:=aq (o:=.cells (exC x w).toArray 36 (0,0)) hres;have k4:=ar.set (S:=fun b=>b=h.size+1) (h:=hh) (.cells (exC x w).toArray 36 (0,0)) (b:=h.size+1) rfl;have z4:(hh.setIfInBounds (h.size+1) (.cells (exC x w).toArray 36 (0,0))).size=hh.size:=by simp
  generalize hh.setIfInBounds (h.size+1) (.cells (exC x w).toArray 36 (0,0))=h4 at *;refine ⟨b,x,m,ts',w,⟨hok,rfl,k4.get hbox (by omega),hb4,?_,hpa.az k4 fun b hb e=>by omega,iC hk (by omega) k4⟩⟩
  exact eR.mv hex k4 (fun b hb e=>by omega) fun b hb=>⟨hb.1,by omega⟩
 refine ⟨_,bx hbox3,?_⟩;refine aa.use (dO hp3 ⟨#[40]⟩) ?_;rintro _ _ ⟨rfl,rfl⟩;rw [asB_bool,b40];refine ae (fun hc=>?_) (fun hc=>?_)
 ·-- a bracket
  obtain ⟨x0,r,rfl⟩:=dS hc;have hbt:b=true:=by rw [←hb,hc,Bool.true_or]
  subst hbt;have h60:=h60 rfl;refine ⟨_,bx hbox3,?_⟩;refine aa.use (bX hp3) ?_;rintro _ h4 ⟨_,hp4,k4⟩;have hbox4:=k4.get hbox3 (by omega)
  refine ⟨_,bx hbox4,?_⟩;simp only [List.length_cons] at ht hf;have hpl:=fun {o' n' l r'}=>(Ep e f).1 (o:=o') (n:=n') (l:=l) (r:=r');have hun:bF e (f+1) o t (x0::r)=aA (pj e f (o+1) t r) fun q=>if isT [41] q.2.2 then .ok (q.1,q.2.1,q.2.2.tail) else .error (nN e 5 q.2.2):=by
   unfold bF;rw [hc,if_pos rfl,if_neg (by omega)]
   rfl
  refine aa.mono (hC h4 G r n d (o+1) t (by simpa using hp4) (by omega) (by omega) (by omega) (fun c h'=>∃x,c=gone x∧bF e (f+1) o t (x0::r)=.error x∧KX G h h'∧h'[h.size]?=some (.cells [pp G].toArray 69 (0,0))) ?_) ?_ (fun _ _ hx=>hx)
  ·intro x h' hx kx;exact ⟨x,rfl,by rw [hun,hx];rfl,(kx.after k4).after k03,kx.k.get hbox4 (by omega)⟩
  rintro _ h5 ⟨x,m,ts',hcmp,⟨w,rfl,hex⟩,hp5,k5⟩;have hbox5:=k5.get hbox4 (by omega)
  have hres5:=k5.get (k4.get hres3 (by omega)) (by omega)
  have hs4:=k4.size;have hs5:=k5.size;rw [asA_agg];refine ⟨rfl,cP hex.bp,ay (cs:=exC x w) rfl ?_⟩;have hl6:=af (h:=h5) (o:=.cells (exC x w).toArray 36 (0,0));have k6:=ar.push (S:=fun _=>False) h5 (.cells (exC x w).toArray 36 (0,0));have z6:(h5.push (.cells (exC x w).toArray 36 (0,0))).size=h5.size+1:=by simp
  generalize h5.push (.cells (exC x w).toArray 36 (0,0))=h6 at *;have hbox6:=k6.get hbox5 (by simp)
  refine ⟨_,bx hbox6,?_⟩;have hl7:=af (h:=h6) (o:=.cells (List.toArray [(.string ⟨#[41]⟩)]) 9 (0,0));have k7:=ar.push (S:=fun _=>False) h6 (.cells (List.toArray [(.string ⟨#[41]⟩)]) 9 (0,0));have z7:(h6.push (.cells (List.toArray [(.string ⟨#[41]⟩)]) 9 (0,0))).size=h6.size+1:=by simp
  generalize h6.push (.cells (List.toArray [(.string ⟨#[41]⟩)]) 9 (0,0))=h7 at *;have k57:=k6.trans k7;have hp7:=hp5.az k57 (fun _ _ h=>h);have hbox7:=k7.get hbox6 (by simp)
  have hres7:=k57.get hres5 (by simp)
  refine aa.mono (An hp7 ⟨#[41]⟩ (.slice (some ⟨h6.size,0,none⟩) 1 1) ⟨rfl,.inr ⟨h6.size,0,1,rfl,fun j u hu=>by rw [Nat.zero_add,aO hl7];simpa using hu⟩⟩ (fun c h'=>∃x,c=gone x∧bF e (f+1) o t (x0::r)=.error x∧KX G h h'∧h'[h.size]?=some (.cells [pp G].toArray 69 (0,0))) ?_) ?_ (fun _ _ hx=>hx)
  ·intro y h' hy kx;refine ⟨y,rfl,?_,(((kx.after (fe k57)).after k5).after k4).after k03,kx.k.get hbox7 (by omega)⟩
   rw [hun,hcmp,av];rw [b41] at hy;unfold aR at hy;show (if isT [41] ts' then _ else _)=_
   split at hy
   ·cases hy
   ·rename_i hne;rw [if_neg hne];cases hy;rfl
  rintro _ h8 ⟨r2,hw,hp8,k8⟩;rw [b41] at hw;unfold aR at hw
  split at hw
  rotate_left
  ·cases hw
  rename_i hT;cases hw;have hl8:=k8.get (k7.get hl6 (by simp)) (by omega)
  have hs8:=k8.size;refine ⟨_,ak hl8 rfl,rfl,cP hex.bp,?_⟩;refine fin (by rw [hun,hcmp,av];exact if_pos hT) (k8.get hres7 (by omega)) rfl (k8.get hbox7 (by omega)) ?_ (by simpa using hp8) ((((k03.trans k4).trans k5).trans (fe k57)).trans k8)
  exact eR.mv (eR.mv hex k57 (fun _ _ h=>h) (fun b hb=>hb)) k8 (fun b hb e=>by have:=hb.1;omega) fun b hb=>⟨by have:=hb.1;omega,by have:=hb.2;omega⟩
 refine ⟨_,bx hbox3,?_⟩;refine aa.use (dO hp3 ⟨#[45]⟩) ?_;rintro _ _ ⟨rfl,rfl⟩;rw [asB_bool,b45];refine ae (fun hc2=>?_) (fun hc2=>?_)
 ·-- a minus
  obtain ⟨x0,r,rfl⟩:=dS hc2;have hbt:b=true:=by rw [←hb,hc2,Bool.or_true]
  subst hbt;have h60:=h60 rfl;refine ⟨_,bx hbox3,?_⟩;refine aa.use (bX hp3) ?_;rintro _ h4 ⟨_,hp4,k4⟩;have hbox4:=k4.get hbox3 (by omega)
  have hs4:=k4.size;refine ⟨_,bx hbox4,?_⟩;simp only [List.length_cons] at ht hf;have hun:bF e (f+1) o t (x0::r)=aA (bF e f (o+1) (t+1) r) fun q=>.ok (lJ q.1,q.2.1,q.2.2):=by
   conv=>lhs;unfold bF
   rw [hc,if_neg Bool.false_ne_true,hc2,if_pos rfl,if_neg (by omega)]
   rfl
  simp only [nnK_ptr,asP_some];obtain ⟨vl,hg,htk⟩:=hp4.ex;refine lx hg (j:=5) rfl ?_;rw [asK_int,i64_in (by omega) (by omega)]
  refine aG (o:=5) hg (by simp [psr]) ?_
  have hset:∀oo:Int,(psr vl e n d oo t).toArray.setIfInBounds 5 (.int .i64 ((t:Int)+1))=(psr vl e n d oo ((t+1:Nat):Int)).toArray:=fun oo=>by simp [psr]
  rw [hset];have hg5:=aq (o:=.cells (psr vl e n d ((if true=true then o+1 else o:Nat):Int) ((t+1:Nat):Int)).toArray 71 (0,0)) hg
  have k5:=ar.set (S:=fun b=>b=G) (h:=h4) (.cells (psr vl e n d ((if true=true then o+1 else o:Nat):Int) ((t+1:Nat):Int)).toArray 71 (0,0)) (b:=G) rfl
  have z5:(h4.setIfInBounds G (.cells (psr vl e n d ((if true=true then o+1 else o:Nat):Int) ((t+1:Nat):Int)).toArray 71 (0,0))).size=h4.size:=by simp
  generalize h4.setIfInBounds G (.cells (psr vl e n d ((if true=true then o+1 else o:Nat):Int) ((t+1:Nat):Int)).toArray 71 (0,0))=h5 at *
  have hp5:PA h5 G r e n d ((if true=true then o+1 else o:Nat):Int) ((t+1:Nat):Int):=⟨vl,hg5,htk.az k5 fun b hb e=>by omega⟩
  have hbox5:=k5.get hbox4 (by omega)
  refine ⟨_,bx hbox5,?_⟩;refine aa.mono (hU h5 G r n d (o+1) (t+1) (by simpa using hp5) (by omega) (by omega) (by omega) (fun c h'=>∃x,c=gone x∧bF e (f+1) o t (x0::r)=.error x∧KX G h h'∧h'[h.size]?=some (.cells [pp G].toArray 69 (0,0))) ?_) ?_ (fun _ _ hx=>hx)
  ·intro x h' hx kx;exact ⟨x,rfl,by rw [hun,hx];rfl,((kx.after k5).after k4).after k03,kx.k.get hbox5 (by omega)⟩
  rintro _ h6 ⟨x,m,ts',hun2,⟨w,rfl,hex⟩,hp6,k6⟩;have hs6:=k6.size;have hbox6:=k6.get hbox5 (by omega)
  have hres6:=k6.get (k5.get (k4.get hres3 (by omega)) (by omega)) (by omega)
  rw [asA_agg];have hl7:=af (h:=h6) (o:=.cells (List.toArray ((exC x w).toArray.toList++[])) 36 (0,0));have k7:=ar.push (S:=fun _=>False) h6 (.cells (List.toArray ((exC x w).toArray.toList++[])) 36 (0,0));have z7:(h6.push (.cells (List.toArray ((exC x w).toArray.toList++[])) 36 (0,0))).size=h6.size+1:=by simp
  refine ⟨rfl,trivial,?_,?_⟩
  ·intro u hu;simp only [List.mem_cons,List.not_mem_nil,or_false] at hu;rcases hu with rfl|rfl|rfl|rfl<;>rfl
  generalize h6.push (.cells (List.toArray ((exC x w).toArray.toList++[])) 36 (0,0))=h7 at *;refine fin (x:=lJ x) (w:=.slice (some ⟨h6.size,0,none⟩) 1 1) (by rw [hun,hun2];rfl) (k7.get hres6 (by simp)) rfl (k7.get hbox6 (by simp)) ?_ (by simpa using hp6.az k7 fun _ _ h=>h) ((((k03.trans k4).trans k5).trans k6).trans (fe k7))
  refine ⟨exC x w,SlN.FW (by simpa using hl7) rfl (by decide) ⟨by omega,by omega⟩,?_⟩
  unfold bC;refine ⟨jB.2 ⟨w,rfl,?_⟩,by unfold bC;rfl⟩
  exact eR.mv hex k7 (fun _ _ h=>h) fun b hb=>⟨by have:=hb.1;omega,by have:=hb.2;omega⟩
 -- a number or a name
 have hbf:b=false:=by rw [←hb,hc,hc2];rfl
 subst hbf;refine ⟨fun v h'=>v=.bool (match ts with|[]=>false|x::_=>x.kind==3)∧h3=h',?_,?_⟩
 ·refine ⟨_,bx hbox3,?_⟩;simp only [nnK_ptr,asP_some];obtain ⟨vl,hg,htk⟩:=hp3.ex;refine lx hg (j:=0) rfl ?_;refine htk.len fun _ _=>?_;cases ts with
  |nil=>exact aS rfl ⟨rfl,trivial⟩
  |cons x r =>
   refine bR (decide_eq_true (by simp only [List.length_cons];omega)) ?_
   refine ⟨_,bx hbox3,?_⟩;simp only [nnK_ptr,asP_some];refine lx hg (j:=0) rfl ?_;refine htk.rd0 (o:=0) rfl ?_;rw [asK_int];exact ⟨rfl,trivial⟩
 rintro _ _ _ ⟨rfl,rfl⟩
 -- a term more
 obtain ⟨vl,hg,htk⟩:=hp3.ex;have hset:(psr vl e n d ((if false=true then o+1 else o:Nat):Int) t).toArray.setIfInBounds 5 (.int .i64 ((t:Int)+1))=(psr vl e n d ((if false=true then o+1 else o:Nat):Int) ((t+1:Nat):Int)).toArray:=by simp [psr]
 have hg4:=aq (o:=.cells (psr vl e n d ((if false=true then o+1 else o:Nat):Int) ((t+1:Nat):Int)).toArray 71 (0,0)) hg
 have k4:=ar.set (S:=fun b=>b=G) (h:=h3) (.cells (psr vl e n d ((if false=true then o+1 else o:Nat):Int) ((t+1:Nat):Int)).toArray 71 (0,0)) (b:=G) rfl
 have z4:(h3.setIfInBounds G (.cells (psr vl e n d ((if false=true then o+1 else o:Nat):Int) ((t+1:Nat):Int)).toArray 71 (0,0))).size=h3.size:=by simp
 rw [asB_bool];refine ae (fun hk=>?_) (fun hk=>?_)
 ·cases ts with
  |nil=>cases hk
  |cons x r =>
   have hk3:x.kind=3:=eq_of_beq hk;refine ⟨_,bx hbox3,?_⟩;simp only [nnK_ptr,asP_some];refine lx hg (j:=5) rfl ?_;rw [asK_int,i64_in (by omega) (by omega)]
   refine aG (o:=5) hg (by simp [psr]) ?_
   rw [hset];generalize h3.setIfInBounds G (.cells (psr vl e n d ((if false=true then o+1 else o:Nat):Int) ((t+1:Nat):Int)).toArray 71 (0,0))=h4 at *
   have hp4:PA h4 G (x::r) e n d ((if false=true then o+1 else o:Nat):Int) ((t+1:Nat):Int):=⟨vl,hg4,htk.az k4 fun b hb e=>by omega⟩
   refine ⟨_,bx (k4.get hbox3 (by omega)),?_⟩
   refine aa.use (bX hp4) ?_;rintro _ h5 ⟨rfl,hp5,k5⟩;have hs5:=k5.size;rw [asA_agg];show asO (some (Value.int .i64 x.n)) _;rw [asO_some,oneK_int];refine ⟨trivial,?_,?_⟩
   ·intro u hu;simp only [List.mem_cons,List.not_mem_nil,or_false] at hu;rcases hu with rfl|rfl|rfl|rfl<;>rfl
   refine fin (x:=mh x.n) (w:=.slice none 0 0) (by rw [Aj hc hc2,if_pos hk3]) (k5.get (k4.get hres3 (by omega)) (by omega)) rfl (k5.get (k4.get hbox3 (by omega)) (by omega)) ?_ hp5 ((k03.trans k4).trans k5)
   exact od
 ·refine ⟨_,bx hbox3,?_⟩;simp only [nnK_ptr,asP_some];refine lx hg (j:=5) rfl ?_;rw [asK_int,i64_in (by omega) (by omega)]
  refine aG (o:=5) hg (by simp [psr]) ?_
  rw [hset];generalize h3.setIfInBounds G (.cells (psr vl e n d ((if false=true then o+1 else o:Nat):Int) ((t+1:Nat):Int)).toArray 71 (0,0))=h4 at *
  have hp4:PA h4 G ts e n d ((if false=true then o+1 else o:Nat):Int) ((t+1:Nat):Int):=⟨vl,hg4,htk.az k4 fun b hb e=>by omega⟩
  have hun:bF e (f+1) o t ts=aA (dj e ts) fun q=>.ok (dV q.1,t+1,q.2):=by
   cases ts with
   |nil =>
    unfold bF;rfl
   |cons x r =>
    have hk3:¬x.kind=3:=beq_eq_false_iff_ne.1 hk;rw [Aj hc hc2,if_neg hk3,nU]
    by_cases h2:x.kind=2
    ·rw [if_pos h2,if_pos h2];rfl
    ·rw [if_neg h2,if_neg h2];rfl
  have hbox4:=k4.get hbox3 (by omega)
  refine ⟨_,bx hbox4,?_⟩;refine aa.mono (iN hp4 (fun c h'=>∃x,c=gone x∧bF e (f+1) o t ts=.error x∧KX G h h'∧h'[h.size]?=some (.cells [pp G].toArray 69 (0,0))) ?_) ?_ (fun _ _ hx=>hx)
  ·intro y h' hy kx;exact ⟨y,rfl,by rw [hun,hy];rfl,(kx.after k4).after k03,kx.k.get hbox4 (by omega)⟩
  rintro _ h5 ⟨s,r,hn,rfl,hp5,k5⟩;have hs5:=k5.size;rw [oneK_str];refine ⟨trivial,?_,?_⟩
  ·intro u hu;simp only [List.mem_cons,List.not_mem_nil,or_false] at hu;rcases hu with rfl|rfl|rfl|rfl<;>rfl
  refine fin (x:=dV s) (w:=.slice none 0 0) (by rw [hun,hn];rfl) (k5.get (k4.get hres3 (by omega)) (by omega)) rfl (k5.get hbox4 (by omega)) ?_ hp5 ((k03.trans k4).trans k5)
  exact od
end
section
variable  {ω:Amb}
theorem Cx {s:Nat}{fr:Fr}(h:fr.getD s undef=undef):dOf s fr=[]:=by
 unfold dOf;rw [h];rfl
theorem GZ {fr:Fr}{B:Nat}(h:fr.getD 24 undef=clo B):dOf 24 fr=[D0 177 [.pointer (some ⟨B,0,none⟩)]]:=by
 unfold dOf;rw [h];rfl
set_option maxRecDepth 100000 in
theorem FB {e:Int}{f:Nat}(hC:EL ω bM e (pj e) 4 f)(hU:EL ω 176 e (bF e) 1 f):EL ω 176 e (bF e) 1 (f+1):=by
 intro h G ts n d o t hp ho ht hf X hX;have hlt:=hp.lt;have hW:=IZ hC hU hp ho ht hf;refine Bd hW ?_ ?_
 ·rintro fr h' d' ⟨b,x,m,ts',w,u⟩;have hv:=u.v;have h24:fr.getD 24 undef=if b then clo h.size else undef:=by
   have:=congrArg (fun v=>match v with|Value.tuple a=>a.getD 0 undef|_=>undef) hv
   exact this
  have h2:fr.getD 2 undef=.pointer (some ⟨h.size+1,0,none⟩):=by
   have:=congrArg (fun v=>match v with|Value.tuple a=>a.getD 1 undef|_=>undef) hv
   exact this
  have hex:∀{h'':Hp},ar (fun b=>b=G) h' h''→ExR h h'' (.agg (exC x w).toArray) x:=fun k=>⟨w,rfl,eR.mv u.ex k (fun b hb e=>by have:=hb.1;omega) fun b hb=>⟨by have:=hb.1;omega,by have:=hb.2;have:=k.size;omega⟩⟩
  cases b with
  |false =>
   rw [Cx (by rw [h24];rfl)]
   obtain ⟨v,g1,g2⟩:=qw (P:=Tryz.prog) (ω:=ω) (zX (F:=fun v=>v=.agg (exC x w).toArray) h2 u.res rfl rfl) d';subst g2;exact ⟨_,g1,⟨d',rfl⟩,x,m,ts',u.ok,hex (ar.refl _ _),u.pa,u.k⟩
  |true =>
   rw [GZ (by rw [h24];rfl)]
   obtain ⟨vl,hg,htk⟩:=u.pa.ex;refine leaves_cons (f:=177) (args:=#[.pointer (some ⟨h.size,0,none⟩)]) (by simp) (F6 _ _) ?_
   refine (rS (R:=fun _ h''=>KG G h' h''∧PA h'' G ts' e n d o m) (X:=fun _ _=>False) Tryz.func177 (zZ u.box hg fun h'' k hg'=>⟨k,vl,?_,htk.az k fun b hb e=>by omega⟩) .returning d').mono ?_
   ·rw [show IntKind.wrap .i64 (((if true=true then o+1 else o:Nat):Int) - 1)=(o:Int) from by rw [if_pos rfl,i64_in (by omega) (by omega)];omega] at hg'
    exact hg'
   rintro e' u' w' ⟨rfl,⟨d2,hd2⟩,hend⟩;cases e' with
   |panicked c=>exact hend.elim
   |outgrown=>exact hend.elim
   |returned v0 =>
    obtain ⟨k2,hpa⟩:=hend;rw [hd2] at k2 hpa ⊢;generalize w'.heap=h'' at *;have k2:KG G h' h'':=k2;have hpa:PA h'' G ts' e n d o m:=hpa;obtain ⟨v,g1,g2⟩:=qw (P:=Tryz.prog) (ω:=ω) (zX (F:=fun v=>v=.agg (exC x w).toArray) h2 (k2.get u.res (by omega)) rfl rfl) d2
    subst g2;exact ⟨_,g1,⟨d2,rfl⟩,x,m,ts',u.ok,hex k2,hpa,u.k.trans k2⟩
 ·rintro c a h' d' hds ⟨x,rfl,hx,kx,hbox⟩;rcases hds with hds|hds
  ·rw [hds];exact ⟨⟨d',rfl⟩,hX x h' hx kx⟩
  ·rw [hds];obtain ⟨vl,e1,n1,d1,o1,t1,hg⟩:=kx.b;refine leaves_cons (f:=177) (args:=#[.pointer (some ⟨h.size,0,none⟩)]) (by simp) (F6 _ _) ?_
   refine (rS (R:=fun _ h''=>KG G h' h''∧PB h'' G) (X:=fun _ _=>False) Tryz.func177 (zZ hbox hg fun h'' k hg'=>⟨k,_,_,_,_,_,_,hg'⟩) (.panicking (gone x)) d').mono ?_;rintro e' u' w' ⟨rfl,⟨d2,hd2⟩,hend⟩;cases e' with
   |panicked c=>exact hend.elim
   |outgrown=>exact hend.elim
   |returned v0 =>
    obtain ⟨k2,hpb⟩:=hend;rw [hd2];exact ⟨⟨d2,rfl⟩,hX x _ hx ⟨kx.k.trans k2,hpb⟩⟩
end
end Go.Proofs.YtkeeboomikkojaaGreatDoor
