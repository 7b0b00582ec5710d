import Derived.Test.YtkeeboomikkojaaGreatDoorRx2
set_option maxRecDepth 100000
namespace Go.Proofs.YtkeeboomikkojaaGreatDoor
open Go Go.Sx Go.Sx.Tk Go.Sx.Rn Go.Proofs.YtkeeboomikkojaaGreatDoor.Sx
theorem Ny:∀k,k < 14→doW (j2.getD k [])=k+1:=by decide
theorem N8 {s:List UInt8}(h:∀k,k < 14→j2.getD k []≠s):doW s=0:=by
 unfold doW;rw [if_neg];intro hm;obtain ⟨k,hk,he⟩:=List.getElem_of_mem hm;refine h k hk ?_;rw [List.getD_eq_getElem?_getD,Q7 hk,Option.getD_some,he]
theorem JJ (s:List UInt8):doW s≤14:=by
 unfold doW
 split
 ·rename_i h;have:=List.findIdx_lt_length_of_exists (p:=fun w=>w==s) (xs:=j2) ⟨s,h,by simp⟩
  have h14:j2.length=14:=rfl;omega
 ·omega
def ov:List Value:=j2.map fun w=>.string (bs w)
theorem DD {k:Nat}(hk:k < 14):ov[k]?=some (.string (bs (j2.getD k []))):=by
 have h14:j2.length=14:=rfl;unfold ov;rw [List.getElem?_map,Q7 (by omega),List.getD_eq_getElem?_getD,Q7 (by omega)]
 rfl
theorem pK {e:Int}:∀{ts:List Tok} {acc:List UInt8} {q:List UInt8×List Tok},qD e acc ts=.ok q→q.2.length < ts.length
 |[],acc,q,h=>by rw [x8] at h;cases h
 |t::r,acc,q,h=>by
  rw [gp] at h
  split at h
  ·cases h;simp
  split at h
  ·split at h
   ·cases h
   ·have:=pK h;simp only [Qn];omega
  ·cases h
theorem Ck {e:Int}{ts:List Tok}{q:Int×List Tok}(h:Ey e ts=.ok q):ts.length=q.2.length+1:=by
 cases ts with
 |nil=>cases h
 |cons t r =>
  rw [uo] at h
  split at h
  ·cases h;rfl
  ·cases h
theorem y8 {e:Int}:∀{f:Nat} {acc:List Ex} {ts:List Tok} {q:List Ex×List Tok},dJ e f acc ts=.ok q→q.2.length < ts.length
 |0,_,_,_,h=>by unfold dJ at h;cases h
 |f+1,acc,ts,q,h=>by
  unfold dJ at h
  split at h
  ·rename_i hT;have:=bZ hT;cases h;simp only;omega
  ·obtain ⟨l,hl,h⟩:=ai h;have hle:l.length≤ts.length:=by
    split at hl
    ·cases hl;omega
    ·have:=bH hl;omega
   split at h
   ·cases h
   ·obtain ⟨x,hx,h⟩:=ai h;have h1:=gF hx;have h2:=y8 h;omega
theorem tW {e:Int}:∀{f:Nat} {acc:List (ByteArray×ByteArray)} {ts:List Tok} {q:List (ByteArray×ByteArray)×List Tok},fb e f acc ts=.ok q→q.2.length < ts.length
 |0,_,_,_,h=>by unfold fb at h;cases h
 |f+1,acc,ts,q,h=>by
  unfold fb at h
  split at h
  ·rename_i hT;have:=bZ hT;cases h;simp only;omega
  ·obtain ⟨l,hl,h⟩:=ai h;have hle:l.length≤ts.length:=by
    split at hl
    ·cases hl;omega
    ·have:=bH hl;omega
   split at h
   ·cases h
   ·obtain ⟨x,hx,h⟩:=ai h;obtain ⟨y,hy,h⟩:=ai h;have h1:=bV hx;have h2:=pK hy;have h3:=tW h;omega
theorem DB {e:Int}{d:Nat}{ts:List Tok}{q:Sh×List Tok}(h:cg e d ts=.ok q):q.2.length < ts.length:=by
 unfold cg at h
 split at h
 ·obtain ⟨x,hx,h⟩:=ai h;have:=gF hx;cases h;exact this
 obtain ⟨a,ha,h⟩:=ai h;have h1:=bV ha
 split at h
 ·obtain ⟨l,hl,h⟩:=ai h;obtain ⟨x,hx,h⟩:=ai h;have h2:=bH hl;have h3:=gF hx;cases h;simp only;omega
 split at h
 ·obtain ⟨b,hb,h⟩:=ai h;obtain ⟨t,ht,h⟩:=ai h;obtain ⟨n,hn,h⟩:=ai h;have h2:=bV hb;have h3:=pK ht;have h4:=Ck hn;cases h;simp only;omega
 split at h
 ·obtain ⟨b,hb,h⟩:=ai h;have h2:=bV hb;cases h;simp only;omega
 split at h
 ·obtain ⟨x,hx,h⟩:=ai h;have h3:=gF hx;cases h;simp only;omega
 split at h
 ·obtain ⟨l,hl,h⟩:=ai h;obtain ⟨x,hx,h⟩:=ai h;have h2:=bH hl;have h3:=y8 hx;cases h;simp only;omega
 ·cases h;simp only;omega
theorem rF {e:Int}{d:Nat}{ts:List Tok}{q:Sh×List Tok}(h:gx e d ts=.ok q):q.2.length < ts.length:=by
 unfold gx at h
 split at h
 ·obtain ⟨a,ha,h⟩:=ai h;obtain ⟨l,hl,h⟩:=ai h;obtain ⟨b,hb,h⟩:=ai h;have h1:=bV ha;have h2:=bH hl;have h3:=bV hb;cases h;simp only;omega
 ·obtain ⟨x,hx,h⟩:=ai h;have:=gF hx;cases h;exact this
theorem iL (e:Int)(f deep n:Nat):dU e (f+1) deep n []=.error (6,e):=by unfold dU;rfl
theorem fV (e:Int)(f deep n:Nat)(t:Tok)(r:List Tok):dU e (f+1) deep n (t::r) =
  if t.kind=1∧doW (bytesOf t.text)≠0 then
   (if n=300 then .error (8,t.at_) else
    if doW (bytesOf t.text) < 11 then aD (cg e (doW (bytesOf t.text)) r) fun s=>aD (bl e [59] s.2) fun l=>.ok (.mk (doW (bytesOf t.text)) t.at_ s.1.a s.1.b s.1.t s.1.n s.1.e [] [],n+1,l)
    else aD (gx e (doW (bytesOf t.text)) r) fun s=>aD (bD e f deep (n+1) s.2) fun b =>
     if (doW (bytesOf t.text)=11∨doW (bytesOf t.text)=14)∧isT [101,108,115,101] b.2.2=true then
      aD (bD e f deep b.2.1 b.2.2.tail) fun q=>.ok (.mk (doW (bytesOf t.text)) t.at_ s.1.a s.1.b ⟨#[]⟩ 0 s.1.e b.1 q.1,q.2.1,q.2.2)
     else .ok (.mk (doW (bytesOf t.text)) t.at_ s.1.a s.1.b ⟨#[]⟩ 0 s.1.e b.1 [],b.2.1,b.2.2))
  else .error (5,t.at_):=by
 conv=>lhs;unfold dU
def P8 {α:Type}(l:List Tok)(r:α×Nat×List Tok):Prop:=r.2.2.length < l.length∧r.2.1≤300
theorem NQ (e:Int):∀f:Nat,(∀{deep n l r},n≤300→bD e f deep n l=.ok r→P8 l r)∧(∀{deep acc n l r},n≤300→cR e f deep acc n l=.ok r→P8 l r)∧(∀{deep n l r},n≤300→dU e f deep n l=.ok r→P8 l r):=by
 intro f
 induction f with
 |zero =>
  refine ⟨?_,?_,?_⟩
  ·intro deep n l r _ h;unfold bD at h;cases h
  ·intro deep acc n l r _ h;unfold cR at h;cases h
  ·intro deep n l r _ h;unfold dU at h;cases h
 |succ f ih =>
  obtain ⟨i1,i2,i3⟩:=ih;refine ⟨?_,?_,?_⟩
  ·intro deep n l r hn h;unfold bD at h
   split at h
   ·rename_i hT;have ht:=bZ hT
    split at h
    ·cases h
    ·obtain ⟨a1,a2⟩:=i2 hn h;exact ⟨by omega,a2⟩
   ·cases h
  ·intro deep acc n l r hn h;unfold cR at h
   split at h
   ·rename_i hT;have ht:=bZ hT;cases h;exact ⟨by show l.tail.length < _;omega,hn⟩
   ·obtain ⟨a,ha,h⟩:=ai h;obtain ⟨a1,a2⟩:=i3 hn ha;obtain ⟨b1,b2⟩:=i2 a2 h;exact ⟨by omega,b2⟩
  ·intro deep n l r hn h;cases l with
   |nil=>rw [iL] at h;cases h
   |cons t l =>
    rw [fV] at h
    split at h
    ·split at h
     ·cases h
     rename_i hn3
     split at h
     ·obtain ⟨s,hs,h⟩:=ai h;obtain ⟨w,hw,h⟩:=ai h;have h1:=DB hs;have h2:=bH hw;cases h;exact ⟨by simp only [Qn];omega,by show n+1≤300;omega⟩
     ·obtain ⟨s,hs,h⟩:=ai h;obtain ⟨b,hb,h⟩:=ai h;have h1:=rF hs;obtain ⟨b1,b2⟩:=i1 (by omega) hb
      split at h
      ·rename_i hT;have ht:=bZ hT.2;obtain ⟨q,hq,h⟩:=ai h;obtain ⟨q1,q2⟩:=i1 b2 hq;cases h;exact ⟨by simp only [Qn];omega,q2⟩
      ·cases h;exact ⟨by simp only [Qn];omega,b2⟩
    ·cases h
section
variable  {ω:Amb}{h:Hp}
theorem Ga {vl:Value}(hs:bm h 1 vl 14 ov)(s:ByteArray)(X:XT) :
  aa Tryz.prog ω fW [vl,.string s] h (fun r h'=>r=.int .i64 ((doW (bytesOf s):Int) - 1)∧h=h') X:=by
 refine fZ ω _ _ h _ X ?_;unfold cH;refine bm.sl hs fun _ _=>?_;refine ⟨fun v h'=>∃k:Nat,v=.int .i64 k∧k≤14∧(∀j,j < k→j2.getD j []≠bytesOf s)∧h=h',fun v _=>match v with|.int _ k=>14 - k.toNat|_=>0,⟨0,rfl,by omega,fun j hj=>by omega,rfl⟩,?_⟩
 rintro _ _ _ ⟨k,rfl,hk,hno,rfl⟩;rw [asK_int];refine ae (fun hc=>?_) (fun hc=>?_)
 ·have hk14:k < 14:=by have:=Qj hc;omega
  refine bm.rd1 hs (DD hk14) ?_;rw [asS_str,asS_str,eqS,aF];refine ae (fun hc=>?_) (fun hc=>?_)
  ·have he:=Qj hc;refine ⟨?_,rfl⟩;rw [he,Ny k hk14]
   congr 1
   omega
  ·have hne:=Qc hc;rw [asK_int,i64_in (by omega) (by omega)]
   refine ⟨⟨k+1,by simp,by omega,fun j hj=>?_,rfl⟩,by simp;omega⟩
   rcases Nat.lt_or_ge j k with hj'|hj'
   ·exact hno j hj'
   ·obtain rfl:j=k:=by omega
    exact fun hh=>hne hh.symm
 ·have hk14:k=14:=by have:=Qc hc;omega
  refine ⟨?_,rfl⟩;rw [N8 fun j hj=>hno j (by omega)]
  rfl
end
def StR (h h':Hp)(r:Value)(x:St):Prop:=∃ve vb vl,r=.agg (stC x ve vb vl).toArray∧fU h' (Nw h h') ve x.e∧qk h' (Nw h h') vb x.body∧qk h' (Nw h h') vl x.els
def BL (ω:Amb)(e:Int)(f:Nat):Prop:=∀(h:Hp) (G:Nat) (ts:List Tok) (n deep:Nat) (t:Int),PA h G ts e n deep 0 t→deep≤8→ts.length≤20000→n≤300→3*ts.length+2≤f →
 ∀(X:XT),(∀x h',bD e f deep n ts=.error x→KX G h h'→X (gone x) h') →
  aa Tryz.prog ω lZ [pp G] h (fun r h'=>∃l m ts',bD e f deep n ts=.ok (l,m,ts')∧qk h' (Nw h h') r l∧(∃t',PA h' G ts' e (m:Nat) deep 0 t')∧KG G h h') X
def TL (ω:Amb)(e:Int)(f:Nat):Prop:=∀(h:Hp) (G:Nat) (ts:List Tok) (n deep:Nat) (t:Int),PA h G ts e n deep 0 t→deep≤8→ts.length≤20000→n≤300→3*ts.length+1≤f →
 ∀(X:XT),(∀x h',dU e f deep n ts=.error x→KX G h h'→X (gone x) h') →
  aa Tryz.prog ω mT [pp G] h (fun r h'=>∃x m ts',dU e f deep n ts=.ok (x,m,ts')∧StR h h' r x∧(∃t',PA h' G ts' e (m:Nat) deep 0 t')∧KG G h h') X
theorem tB {h:Hp}{N:Nat→Prop}:qk h N (.slice none 0 0) []:=⟨[],⟨⟨⟨rfl,.inl ⟨rfl,_,_,rfl⟩⟩,by decide⟩,fun k hk=>by cases hk⟩,by unfold cG;rfl⟩
theorem gw (e:Int)(f deep n:Nat)(l:List Tok):bD e (f+1) deep n l=if isT [123] l then (if deep=8 then .error (pt e 7 l) else cR e f (deep+1) [] n l.tail) else .error (pt e 5 l):=by
 conv=>lhs;unfold bD
theorem kF (e:Int)(f deep n:Nat)(acc:List St)(l:List Tok):cR e (f+1) deep acc n l=if isT [125] l then .ok (acc,n,l.tail) else aD (dU e f deep n l) fun q=>cR e f deep (acc++[q.1]) q.2.1 q.2.2:=by
 conv=>lhs;unfold cR
section
variable  {ω:Amb}{e:Int}
theorem G0 {f:Nat}(hT:∀g,g≤f→TL ω e g):BL ω e (f+1):=by
 intro h G ts n deep t hp hd hl hn hf X hX;have hlt:=hp.lt;refine lu ω _ h _ X ?_;unfold eK;simp only [nnK_ptr,asP_some];refine ⟨fun v h'=>v=.bool (isT [123] ts&&decide (deep=8))∧h=h',?_,?_⟩
 ·refine aa.use (eA hp ⟨#[123]⟩) ?_;rintro _ _ ⟨rfl,rfl⟩;rw [asB_bool,show bytesOf ⟨#[123]⟩=[123] from rfl]
  refine ae (fun hc=>?_) (fun hc=>?_)
  ·obtain ⟨vl,hg,_⟩:=hp.ex;refine lx hg (j:=3) rfl ?_;rw [asK_int];refine ⟨?_,rfl⟩;rw [hc,Zb]
   congr 1
   rw [Qz,beq_iff_eq,decide_eq_true_eq];omega
  ·exact ⟨by rw [hc,Bool.false_and],rfl⟩
 rintro _ _ _ ⟨rfl,rfl⟩;refine ⟨fun h'=>¬(isT [123] ts=true∧deep=8)∧h=h',?_,?_⟩
 ·rw [asB_bool];refine ae (fun hc=>?_) (fun hc=>?_)
  ·rw [Qq,decide_eq_true_eq] at hc;refine aa.mono (du hp 7 X ?_) (fun _ _ hf=>hf.elim) (fun _ _ hx=>hx);exact hX _ h (by rw [gw,if_pos hc.1,if_pos hc.2]) ⟨ar.refl _ _,hp.pb⟩
  ·exact ⟨fun hh=>by rw [hh.1,hh.2] at hc;exact absurd hc (by decide),rfl⟩
 rintro _ _ ⟨h8,rfl⟩;refine aa.mono (gM hp ⟨#[123]⟩ X fun x h' hx kx=>hX x h' ?_ kx) ?_ (fun _ _ hx=>hx)
 ·have hx:bl e [123] ts=.error x:=hx;unfold bl at hx;rw [gw]
  split at hx
  ·cases hx
  ·rename_i hno;rw [if_neg hno];cases hx;rfl
 rintro _ h1 ⟨ts1,hw,hp1,k1⟩;have hw:bl e [123] ts=.ok ts1:=hw;have hwl:=bH hw;have hun:bD e (f+1) deep n ts=cR e f (deep+1) [] n ts1:=by
  unfold bl at hw;rw [gw]
  split at hw
  ·rename_i hyes;rw [if_pos hyes,if_neg fun hh=>h8 ⟨hyes,hh⟩];cases hw;rfl
  ·cases hw
 have hd7:deep+1≤8:=by
  unfold bl at hw
  split at hw
  ·rename_i hyes;have:¬deep=8:=fun hh=>h8 ⟨hyes,hh⟩;omega
  ·cases hw
 have hs1:=k1.size;obtain ⟨vl,hg,htk⟩:=hp1.ex;refine lx hg (j:=3) rfl ?_;rw [asK_int,i64_in (by omega) (by omega)]
 refine aM (o:=3) hg (by simp [psr]) ?_
 rw [show (psr vl e n deep 0 t).toArray.setIfInBounds 3 (.int .i64 ((deep:Int)+1))=(psr vl e n ((deep+1:Nat):Int) 0 t).toArray from by simp [psr]]
 have hg2:=aq (o:=.cells (psr vl e n ((deep+1:Nat):Int) 0 t).toArray 71 (0,0)) hg;have k2:=ar.set (S:=fun b=>b=G) (h:=h1) (.cells (psr vl e n ((deep+1:Nat):Int) 0 t).toArray 71 (0,0)) (b:=G) rfl;have z2:(h1.setIfInBounds G (.cells (psr vl e n ((deep+1:Nat):Int) 0 t).toArray 71 (0,0))).size=h1.size:=by simp
 generalize h1.setIfInBounds G (.cells (psr vl e n ((deep+1:Nat):Int) 0 t).toArray 71 (0,0))=h2 at *;have hp2:PA h2 G ts1 e n ((deep+1:Nat):Int) 0 t:=⟨vl,hg2,htk.aC k2 fun b hb e=>by omega⟩
 refine ⟨fun out h'=>∃g acc us m ts' t',bD e (f+1) deep n ts=cR e g (deep+1) acc m ts'∧3*ts'.length+2≤g∧g≤f∧m≤300∧acc.length+ts'.length≤20000∧bX h' h.size 39 9 out acc.length us∧cG h' (fun b=>Nw h h' b∧out.ownBlock≠some b) acc us∧PA h' G ts' e (m:Nat) ((deep+1:Nat):Int) 0 t'∧KG G h h',fun _=>tkN G,
  ⟨f,[],[],n,ts1,t,hun,by omega,Zd _,hn,by simp;omega,bX.nil,DM,hp2,k1.trans k2⟩,?_⟩
 rintro out _ h3 ⟨g,acc,us,m,ts',t',heq,hgl,hgf,hm,hl3,ho,hat,hp3,k3⟩;obtain ⟨g,rfl⟩:∃q,g=q+1:=⟨g - 1,by omega⟩
 have hs3:=k3.size;have hlt3:=ho.lt;rw [kF] at heq;refine aa.use (eA hp3 ⟨#[125]⟩) ?_;rintro _ _ ⟨rfl,rfl⟩;rw [asB_bool,show bytesOf ⟨#[125]⟩=[125] from rfl]
 refine ae (fun hc=>?_) (fun hc=>?_)
 ·have hc:isT [125] ts'=false:=by simpa using hc
  rw [hc,if_neg Qe] at heq;refine aa.mono (hT g (by omega) h3 G ts' m (deep+1) t' hp3 hd7 (by omega) hm (by omega) X fun x h' hx kx=>hX x h' (by rw [heq,hx];rfl) (kx.after k3)) ?_ (fun _ _ hx=>hx)
  rintro _ h4 ⟨x,m4,ts4,hok,⟨ve,vb,vl4,rfl,hxe,hxb,hxl⟩,⟨t4,hp4⟩,k4⟩;obtain ⟨l4,l5⟩:=(NQ e g).2.2 hm hok;simp only at l4 l5;have hs4:=k4.size;rw [asA_agg];refine ⟨rfl,?_⟩;rw [show ((stC x ve vb vl4).toArray.toList++[])=stC x ve vb vl4 from by simp]
  have ho4:bX h4 h.size 39 9 out acc.length us:=ho.aC fun b hb hbl=>k4.block b hbl fun e=>by have:=hlt3 b hb;omega
  refine dR (bt:=144) (cs:=stC x ve vb vl4) (by kernel_rfl) ho4 rfl (qt hxe.b8 hxb.b8 hxl.b8) (by omega) (by omega) (by omega) fun w2 h9 ho2 hgr _ hv=>?_
  have hg9:=hgr.size;have k49:ar (fun b=>some b=out.ownBlock) h4 h9:=ar.grown hgr fun b hb _=>hb.symm;have hp9:=hp4.aC k49 (fun b hb e=>by have:=hlt3 b e.symm;omega)
  have k39:ar (fun b=>b=G∨some b=out.ownBlock) h3 h9:=(k4.mono fun _ _ h=>.inl h).trans (k49.mono fun _ _ h=>.inr h);have hmv:∀sz v n us,SlN h4 (Nw h3 h4) sz v n us→SlN h9 (fun b=>Nw h h9 b∧w2.ownBlock≠some b) sz v n us:=by
   intro sz v n us hs;refine (hs.aC k49 fun b hb e=>by have:=hlt3 b e.symm;omega).mono fun b hb=>⟨⟨by omega,by omega⟩,dS hv (by omega) fun e=>?_⟩
   have:=hlt3 b e;omega
  refine ⟨⟨g,acc++[x],us++stC x ve vb vl4,m4,ts4,t4,by rw [heq,hok];rfl,by omega,by omega,l5,by simp;omega,by rw [Qd];exact ho2,?_,hp9,?_⟩,?_⟩
  ·refine tQ (iu (fun sz v n us hs=>(hs.aC k39 fun b hb e=>?_).mono fun b hb=>⟨⟨hb.1.1,by omega⟩,dS hv (by omega) hb.2⟩) _ hat) ho.1 ?_ rfl
   ·rcases e with e|e
    ·have:=hb.1.1;omega
    ·exact hb.2 e.symm
   exact FM.2 ⟨ve,vb,vl4,rfl,hxe.map hmv,hxb.map hmv,hxl.map hmv⟩
  ·exact ((k3.trans k4).cS (k49.mono fun b hb e=>.inr (hlt3 b e.symm).1))
  ·show tkN G h9 < tkN G h3;rw [hp9.tkN,hp3.tkN];omega
 ·have hc:isT [125] ts'=true:=by simpa using hc
  obtain ⟨x0,r0,rfl⟩:=eV hc;rw [hc,if_pos rfl] at heq;obtain ⟨vl3,hg3,htk3⟩:=hp3.ex;refine lx hg3 (j:=3) rfl ?_;rw [asK_int,show IntKind.wrap .i64 (((deep+1:Nat):Int) - 1)=(deep:Int) from by rw [i64_in (by omega) (by omega)];omega]
  refine aM (o:=3) hg3 (by simp [psr]) ?_
  rw [show (psr vl3 e (m:Nat) ((deep+1:Nat):Int) 0 t').toArray.setIfInBounds 3 (.int .i64 (deep:Int))=(psr vl3 e (m:Nat) (deep:Int) 0 t').toArray from by simp [psr]]
  have hg4:=aq (o:=.cells (psr vl3 e (m:Nat) (deep:Int) 0 t').toArray 71 (0,0)) hg3;have k4:=ar.set (S:=fun b=>b=G) (h:=h3) (.cells (psr vl3 e (m:Nat) (deep:Int) 0 t').toArray 71 (0,0)) (b:=G) rfl;have z4:(h3.setIfInBounds G (.cells (psr vl3 e (m:Nat) (deep:Int) 0 t').toArray 71 (0,0))).size=h3.size:=by simp
  generalize h3.setIfInBounds G (.cells (psr vl3 e (m:Nat) (deep:Int) 0 t').toArray 71 (0,0))=h4 at *;have hp4:PA h4 G (x0::r0) e (m:Nat) (deep:Int) 0 t':=⟨vl3,hg4,htk3.aC k4 fun b hb e=>by omega⟩
  refine aa.use (cz hp4) ?_;rintro _ h5 ⟨_,hp5,k5⟩;have hs5:=k5.size;have k35:=k4.trans k5;refine ⟨acc,m,r0,heq,⟨us,?_,?_⟩,⟨t',hp5⟩,k3.trans k35⟩
  ·exact ((SlN.own ho (by omega)).aC k35 fun b hb e=>by omega).mono fun b hb=>⟨hb.1,by omega⟩
  ·exact iu (fun sz v n us hs=>(hs.aC k35 fun b hb e=>by have:=hb.1.1;omega).mono fun b hb=>⟨hb.1.1,by have:=hb.1.2;omega⟩) acc hat
theorem Hs {f:Nat}(hB:BL ω e f){h:Hp}{G:Nat}{ts:List Tok}{n deep:Nat}{t:Int}(hp:PA h G ts e n deep 0 t)(hd:deep≤8)(hl:ts.length≤20000)(hn:n≤300)(hf:3*ts.length+2≤f){pr:PR (List St)}
  (hpr:pr=if isT [101,108,115,101] ts=true then bD e f deep n ts.tail else .ok ([],n,ts)) (X:XT) (hX:∀x h',pr=.error x→KX G h h'→X (gone x) h') :
  aa Tryz.prog ω lG [pp G] h (fun r h'=>∃l m ts',pr=.ok (l,m,ts')∧qk h' (Nw h h') r l∧(∃t',PA h' G ts' e (m:Nat) deep 0 t')∧KG G h h') X:=by
 refine mc ω _ h _ X ?_;unfold eS;refine aa.use (eA hp ⟨#[101,108,115,101]⟩) ?_;rintro _ _ ⟨rfl,rfl⟩;rw [asB_bool,show bytesOf ⟨#[101,108,115,101]⟩=[101,108,115,101] from rfl]
 refine ae (fun hc=>?_) (fun hc=>?_)
 ·have hc:isT [101,108,115,101] ts=false:=by simpa using hc
  rw [hc,if_neg Qe] at hpr;exact ⟨[],n,ts,hpr,tB,⟨t,hp⟩,ar.refl _ _⟩
 ·have hc:isT [101,108,115,101] ts=true:=by simpa using hc
  obtain ⟨x0,r0,rfl⟩:=eV hc;rw [hc,if_pos rfl] at hpr;simp only [Qn] at hl hf;refine aa.use (cz hp) ?_;rintro _ h1 ⟨_,hp1,k1⟩;have hs1:=k1.size;have hpr:pr=bD e f deep n r0:=hpr;refine aa.mono (hB h1 G r0 n deep t hp1 hd (by omega) hn (by omega) X fun x h' hx kx=>hX x h' (by rw [hpr,hx]) (kx.after k1)) ?_ (fun _ _ hx=>hx)
  rintro r h2 ⟨l,m,ts',hok,hs,hpa,k2⟩;exact ⟨l,m,ts',by rw [hpr,hok],hs.map fun _ _ _ _ hs=>hs.mono fun b hb=>⟨by have:=hb.1;omega,hb.2⟩,hpa,k1.trans k2⟩
end
theorem Ic {e:Int}{d:Nat}{ts:List Tok}{q:Sh×List Tok}(h:gx e d ts=.ok q):q.1.t=⟨#[]⟩∧q.1.n=0:=by
 unfold gx at h
 split at h
 ·obtain ⟨a,ha,h⟩:=ai h;obtain ⟨l,hl,h⟩:=ai h;obtain ⟨b,hb,h⟩:=ai h;cases h;exact ⟨rfl,rfl⟩
 ·obtain ⟨x,hx,h⟩:=ai h;cases h;exact ⟨rfl,rfl⟩
def x5 (e:Int)(f deep n d:Nat)(at_:Int)(r:List Tok):PR St:=aD (gx e d r) fun s=>aD (bD e f deep n s.2) fun b =>
 if (d=11∨d=14)∧isT [101,108,115,101] b.2.2=true then aD (bD e f deep b.2.1 b.2.2.tail) fun q=>.ok (.mk d at_ s.1.a s.1.b ⟨#[]⟩ 0 s.1.e b.1 q.1,q.2.1,q.2.2)
 else .ok (.mk d at_ s.1.a s.1.b ⟨#[]⟩ 0 s.1.e b.1 [],b.2.1,b.2.2)
section
variable  {ω:Amb}{e:Int}
set_option maxHeartbeats 1000000 in
theorem Jd {f:Nat}(hBL:BL ω e f){h:Hp}{G B:Nat}{ts:List Tok}{n deep d:Nat}{at_ t:Int}(hGB:G < B)(hb:La h B d at_ {} (.slice none 0 0))(hp:PA h G ts e n deep 0 t)(hd:deep≤8)(hl:ts.length≤20000)(hn:n≤300)(hf:3*ts.length≤f+1)(X:XT)
  (hX:∀x h',x5 e f deep n d at_ ts=.error x→KGB G B h h'→PB h' G→X (gone x) h') :
  aa Tryz.prog ω ni [pp G,.pointer (some ⟨B,0,none⟩)] h (fun _ h'=>∃x m ts' ve vb vl,x5 e f deep n d at_ ts=.ok (x,m,ts')∧h'[B]?=some (.cells (stC x ve vb vl).toArray 39 (0,0))∧fU h' (Nw h h') ve x.e∧qk h' (Nw h h') vb x.body∧qk h' (Nw h h') vl x.els ∧
   (∃t',PA h' G ts' e (m:Nat) deep 0 t')∧KGB G B h h') X:=by
 have hB:=gd hb;refine mR ω _ _ h _ X ?_;unfold fy;simp only [vm,asP_some];have hbool:∀(k1 k2:Nat),decide (d=k1∨d=k2)=(((d:Int)==(k1:Int))||((d:Int)==(k2:Int))):=fun k1 k2=>by
  rw [Qz];simp only [decide_eq_true_eq,Bool.or_eq_true,beq_iff_eq];omega
 refine ⟨decide (d=11∨d=12),?_,fun _=>?_⟩
 ·refine lx hb (j:=0) rfl ?_;rw [asK_int];refine ae (fun hc=>?_) (fun hc=>?_)
  ·exact ⟨by rw [hbool];simp [hc],trivial⟩
  ·refine lx hb (j:=0) rfl ?_;rw [asK_int];exact ⟨by rw [hbool];simp [hc],trivial⟩
 refine ⟨fun h'=>ShR h G B e n deep d at_ (gx e d ts) h',?_,?_⟩
 ·refine ae (fun hc=>?_) (fun hc=>?_)
  ·have hc:=Qj hc;have hun:gx e d ts=aD (ee e ts) fun a=>aD (bl e [102,114,111,109] a.2) fun l=>aD (ee e l) fun b=>.ok ({ a:=a.1,b:=b.1 },b.2):=by
    unfold gx;rw [if_pos hc]
   have hX':∀x h',gx e d ts=.error x→KGB G B h h'→PB h' G→X (gone x) h':=fun x h' hx=>hX x h' (by unfold x5;rw [hx];rfl)
   refine aa.mono (jM hp X fun x h' hx kx=>hX' x h' (by rw [hun,hx];rfl) (cm kx.k) kx.b) ?_ (fun _ _ hx=>hx)
   rintro _ h1 ⟨a,ts1,hn1,rfl,hp1,k1⟩;rw [hn1,ay] at hun;simp only at hun;rw [oneK_str];refine rr (s':={ a:=a }) (ve':=.slice none 0 0) (k1.get hb (by omega)) (by decide) rfl fun h2 hb2 k2=>?_
   have hp2:=hp1.aC k2 fun b hb e=>by omega
   have k02:KGB G B h h2:=(cm k1).trans (k2.mono fun _ _ h=>.inr h);refine aa.mono (gM hp2 ⟨#[102,114,111,109]⟩ X fun x h' hx kx=>hX' x h' (by rw [hun,show bl e [102,114,111,109] ts1=_ from hx];rfl) (k02.trans (cm kx.k)) kx.b) ?_ (fun _ _ hx=>hx)
   rintro _ h3 ⟨ts3,hw,hp3,k3⟩;rw [show bl e [102,114,111,109] ts1=.ok ts3 from hw,ay] at hun
   refine aa.mono (jM hp3 X fun x h' hx kx=>hX' x h' (by rw [hun,hx];rfl) ((k02.trans (cm k3)).trans (cm kx.k)) kx.b) ?_ (fun _ _ hx=>hx)
   rintro _ h4 ⟨b,ts4,hn4,rfl,hp4,k4⟩;rw [hn4,ay] at hun;simp only at hun;rw [oneK_str];refine rr (s':={ a:=a,b:=b }) (ve':=.slice none 0 0) (k4.get (k3.get hb2 (by omega)) (by omega)) (by decide) rfl fun h5 hb5 k5=>?_
   exact ⟨_,ts4,_,hun,hb5,py,⟨t,hp4.aC k5 fun b hb e=>by omega⟩,((k02.trans (cm k3)).trans (cm k4)).trans (k5.mono fun _ _ h=>.inr h)⟩
  ·have hc:=Qc hc;have hun:gx e d ts=aD (gQ e ts) fun q=>.ok ({ ({}:Sh) with e:=[q.1] },q.2):=by
    unfold gx;rw [if_neg hc]
   exact tF (ar.refl _ _) hGB hB hb hp hl hun X (fun x h' hx=>hX x h' (by unfold x5;rw [hx];rfl)) fun h' hr=>hr
 rintro _ h1 ⟨s,ts1,ve,hlong,hb1,hx1,⟨t1,hp1⟩,k1⟩;have hll:=rF hlong;obtain ⟨ht0,hn0⟩:=Ic hlong;simp only at hll ht0 hn0;have hs1:=k1.size;have hun:x5 e f deep n d at_ ts=aD (bD e f deep n ts1) fun b =>
  if (d=11∨d=14)∧isT [101,108,115,101] b.2.2=true then aD (bD e f deep b.2.1 b.2.2.tail) fun q=>.ok (.mk d at_ s.a s.b ⟨#[]⟩ 0 s.e b.1 q.1,q.2.1,q.2.2)
  else .ok (.mk d at_ s.a s.b ⟨#[]⟩ 0 s.e b.1 [],b.2.1,b.2.2):=by
  unfold x5;rw [hlong];rfl
 refine aa.mono (hBL h1 G ts1 n deep t1 hp1 hd (by omega) hn (by omega) X fun x h' hx kx=>hX x h' (by rw [hun,hx];rfl) (k1.trans (cm kx.k)) kx.b) ?_ (fun _ _ hx=>hx)
 rintro vb h2 ⟨body,m2,ts2,hblk,hbody,⟨t2,hp2⟩,k2⟩;obtain ⟨l1,l2⟩:=(NQ e f).1 hn hblk;simp only at l1 l2;have hs2:=k2.size;rw [hblk,ay] at hun;simp only at hun;refine cP hbody.b8.one ?_;have hb2:La h2 B d at_ s ve:=k2.get hb1 (by omega)
 refine aM (o:=7) hb2 (by simp [shC]) ?_
 rw [show (shC d at_ s ve (.slice none 0 0) (.slice none 0 0)).toArray.setIfInBounds 7 vb=(shC d at_ s ve vb (.slice none 0 0)).toArray from by simp [shC]]
 have hb3:=aq (o:=.cells (shC d at_ s ve vb (.slice none 0 0)).toArray 39 (0,0)) hb2;have k3:=ar.set (S:=fun b=>b=B) (h:=h2) (.cells (shC d at_ s ve vb (.slice none 0 0)).toArray 39 (0,0)) (b:=B) rfl;have z3:(h2.setIfInBounds B (.cells (shC d at_ s ve vb (.slice none 0 0)).toArray 39 (0,0))).size=h2.size:=by simp
 generalize h2.setIfInBounds B (.cells (shC d at_ s ve vb (.slice none 0 0)).toArray 39 (0,0))=h3 at *;have hp3:=hp2.aC k3 fun b hb e=>by omega
 have k03:KGB G B h h3:=(k1.trans (cm k2)).trans (k3.mono fun _ _ h=>.inr h);have k13:KGB G B h1 h3:=(cm k2).trans (k3.mono fun _ _ h=>.inr h);have hx3:fU h3 (Nw h h3) ve s.e:=fU.mv hx1 k13 (fun b hb e=>by have:=hb.1;omega) fun b hb=>⟨hb.1,by have:=hb.2;omega⟩
 have hbd3:qk h3 (Nw h h3) vb body:=qk.mv hbody k3 (fun b hb e=>by have:=hb.1;omega) fun b hb=>⟨by have:=hb.1;omega,by have:=hb.2;omega⟩
 refine ⟨decide (d=11∨d=14),?_,fun _=>?_⟩
 ·refine lx hb3 (j:=0) rfl ?_;rw [asK_int];refine ae (fun hc=>?_) (fun hc=>?_)
  ·exact ⟨by rw [hbool];simp [hc],trivial⟩
  ·refine lx hb3 (j:=0) rfl ?_;rw [asK_int];exact ⟨by rw [hbool];simp [hc],trivial⟩
 refine ⟨fun h'=>∃x m ts' ve vb vl,x5 e f deep n d at_ ts=.ok (x,m,ts')∧h'[B]?=some (.cells (stC x ve vb vl).toArray 39 (0,0))∧fU h' (Nw h h') ve x.e∧qk h' (Nw h h') vb x.body∧qk h' (Nw h h') vl x.els ∧
   (∃t',PA h' G ts' e (m:Nat) deep 0 t')∧KGB G B h h',?_,fun _ _ hj=>hj⟩
 have hcell:∀(els:List St) (vl:Value),shC d at_ s ve vb vl=stC (.mk d at_ s.a s.b ⟨#[]⟩ 0 s.e body els) ve vb vl:=fun els vl=>by
  unfold shC;rw [ht0,hn0];rfl
 refine ae (fun hc=>?_) (fun hc=>?_)
 ·have hc:=Qj hc;have hpr:(aD (if isT [101,108,115,101] ts2=true then bD e f deep m2 ts2.tail else .ok ([],m2,ts2)) fun q=>(.ok (.mk d at_ s.a s.b ⟨#[]⟩ 0 s.e body q.1,q.2.1,q.2.2):PR St))=x5 e f deep n d at_ ts:=by
   rw [hun]
   by_cases hT:isT [101,108,115,101] ts2=true
   ·rw [if_pos hT,if_pos ⟨hc,hT⟩]
   ·rw [if_neg hT,if_neg fun hh=>hT hh.2];rfl
  refine aa.mono (Hs hBL hp3 hd (by omega) l2 (by omega) rfl X fun x h' hx kx=>hX x h' (by rw [←hpr,hx];rfl) (k03.trans (cm kx.k)) kx.b) ?_ (fun _ _ hx=>hx)
  rintro vl h4 ⟨els,m4,ts4,hok,hels,⟨t4,hp4⟩,k4⟩;have hs4:=k4.size;rw [hok,ay] at hpr;refine cP hels.b8.one ?_;have hb4:=k4.get hb3 (by omega)
  refine aM (o:=8) hb4 (by simp [shC]) ?_
  rw [show (shC d at_ s ve vb (.slice none 0 0)).toArray.setIfInBounds 8 vl=(shC d at_ s ve vb vl).toArray from by simp [shC]]
  have hb5:=aq (o:=.cells (shC d at_ s ve vb vl).toArray 39 (0,0)) hb4;have k5:=ar.set (S:=fun b=>b=B) (h:=h4) (.cells (shC d at_ s ve vb vl).toArray 39 (0,0)) (b:=B) rfl;have z5:(h4.setIfInBounds B (.cells (shC d at_ s ve vb vl).toArray 39 (0,0))).size=h4.size:=by simp
  generalize h4.setIfInBounds B (.cells (shC d at_ s ve vb vl).toArray 39 (0,0))=h5 at *;have k35:KGB G B h3 h5:=(cm k4).trans (k5.mono fun _ _ h=>.inr h);rw [hcell els vl] at hb5;refine ⟨_,m4,ts4,ve,vb,vl,hpr.symm,hb5,?_,?_,?_,⟨t4,hp4.aC k5 fun b hb e=>by omega⟩,k03.trans k35⟩
  ·exact fU.mv hx3 k35 (fun b hb e=>by have:=hb.1;omega) fun b hb=>⟨hb.1,by have:=hb.2;omega⟩
  ·exact qk.mv hbd3 k35 (fun b hb e=>by have:=hb.1;omega) fun b hb=>⟨hb.1,by have:=hb.2;omega⟩
  ·exact qk.mv hels k5 (fun b hb e=>by have:=hb.1;omega) fun b hb=>⟨by have:=hb.1;omega,by have:=hb.2;omega⟩
 ·have hc:=Qc hc;rw [if_neg fun hh=>hc hh.1] at hun;rw [hcell [] (.slice none 0 0)] at hb3;exact ⟨_,m2,ts2,ve,vb,_,hun,hb3,hx3,hbd3,tB,⟨t2,hp3⟩,k03⟩
theorem ret9 {hh:Hp}{L B:Nat}{cs:List Value}{cur:Array Value}{R:RT}(hL:hh[L]?=some (.cells cs.toArray 39 (0,0)))(hB:hh[B]?=some (.cells cur 39 (0,0)))(hc:cs.length=9)(hcur:cur.size=9)(h1:∀u∈cs,one u)
  (hR:∀h',ar (fun b=>b=B) hh h'→R (.agg cs.toArray) h') :
  ∃C34,aj hh ⟨L,0,none⟩ 9 C34∧C34.toArray.size=9∧(∀u∈C34.toArray.toList,one u)∧av hh ⟨B,0,none⟩ C34.toArray.toList fun h35=>∃C36,aj h35 ⟨B,0,none⟩ 9 C36∧R (.agg C36.toArray) h35:=by
 refine ⟨cs,ak hL hc,by simpa using hc,by simpa using h1,?_⟩
 refine aW (o:=0) hB (by rw [hcur];simp [hc]) ?_
 rw [ca (by rw [hcur];simpa using hc)]
 exact ⟨cs,ak (aq hB) hc,hR _ (ar.set (S:=fun b=>b=B) _ rfl)⟩
set_option maxHeartbeats 1000000 in
theorem IR {f:Nat}(hBL:BL ω e f):TL ω e (f+1):=by
 intro h G ts n deep t hp hd hl hn hf X hX;have hlt:=hp.lt;refine mo ω _ h _ X ?_;unfold fO aN;have hres0:=ah (h:=h) (o:=.cells #[(.int .i64 0),(.int .i64 0),(.string ⟨#[]⟩),(.string ⟨#[]⟩),(.string ⟨#[]⟩),(.int .i64 0),(.slice none 0 0),(.slice none 0 0),(.slice none 0 0)] 39 (0,0));have k0:=ar.push (S:=fun _=>False) h (.cells #[(.int .i64 0),(.int .i64 0),(.string ⟨#[]⟩),(.string ⟨#[]⟩),(.string ⟨#[]⟩),(.int .i64 0),(.slice none 0 0),(.slice none 0 0),(.slice none 0 0)] 39 (0,0))
 have z0:(h.push (.cells #[(.int .i64 0),(.int .i64 0),(.string ⟨#[]⟩),(.string ⟨#[]⟩),(.string ⟨#[]⟩),(.int .i64 0),(.slice none 0 0),(.slice none 0 0),(.slice none 0 0)] 39 (0,0))).size=h.size+1:=by simp
 generalize h.push (.cells #[(.int .i64 0),(.int .i64 0),(.string ⟨#[]⟩),(.string ⟨#[]⟩),(.string ⟨#[]⟩),(.int .i64 0),(.slice none 0 0),(.slice none 0 0),(.slice none 0 0)] 39 (0,0))=h0 at *;have hp0:=hp.aC k0 fun _ _ h=>h;obtain ⟨vl,hg0,htk0⟩:=hp0.ex;simp only [nnK_ptr,asP_some];have bad:∀{P:Hp→Prop} {hh:Hp},PA hh G ts e n deep 0 t→KG G h hh→dU e (f+1) deep n ts=.error (pt e 5 ts)→aa Tryz.prog ω cW [pp G,.int .i64 5] hh (fun _ h19=>P h19) X:=fun hpp kk he =>
  aa.mono (du hpp 5 X (hX _ _ he ⟨kk,hpp.pb⟩)) (fun _ _ hf=>hf.elim) (fun _ _ hx=>hx)
 cases ts with
 |nil =>
  refine ⟨true,?_,fun _=>?_⟩
  ·refine lx hg0 (j:=0) rfl ?_;refine htk0.len fun _ _=>?_;exact cx rfl ⟨rfl,trivial⟩
  ·exact ⟨fun _=>False,bad (P:=fun _=>False) hp0 (fS k0) (iL _ _ _ _),fun _ _ h=>h.elim⟩
 |cons x0 r0 =>
 have hst:=fV e f deep n x0 r0;simp only [Qn] at hl hf;refine ⟨x0.kind !=1,?_,fun _=>?_⟩
 ·refine lx hg0 (j:=0) rfl ?_;refine htk0.len fun _ _=>?_;refine ba (by simp only [Qn,Qa];omega) ?_
  refine lx hg0 (j:=0) rfl ?_;refine htk0.rd0 (o:=0) rfl ?_;rw [asK_int];exact ⟨rfl,trivial⟩
 refine ⟨fun h'=>x0.kind=1∧h0=h',?_,?_⟩
 ·refine ae (fun hc=>?_) (fun hc=>?_)
  ·have hne:=Ze.1 hc;exact bad (P:=fun h'=>x0.kind=1∧h0=h') hp0 (fS k0) (by rw [hst,if_neg fun hh=>hne hh.1];rfl)
  ·exact ⟨by simpa using hc,rfl⟩
 rintro _ _ ⟨hk1,rfl⟩;refine lx hg0 (j:=0) rfl ?_;refine htk0.rd0 (o:=2) rfl ?_;have hl1:=ah (h:=h0) (o:=.cells (List.toArray ov) 9 (0,0));have k1:=ar.push (S:=fun _=>False) h0 (.cells (List.toArray ov) 9 (0,0));have z1:(h0.push (.cells (List.toArray ov) 9 (0,0))).size=h0.size+1:=by simp
 simp only [show [(Value.string ⟨#[108,101,116]⟩),(.string ⟨#[115,101,116]⟩),(.string ⟨#[101,109,105,116]⟩),(.string ⟨#[99,104,97,110]⟩),(.string ⟨#[99,108,111,110,101]⟩),(.string ⟨#[115,101,110,100]⟩),(.string ⟨#[99,108,111,115,101]⟩),(.string ⟨#[97,98,97,110,100,111,110]⟩),(.string ⟨#[100,114,97,105,110]⟩),(.string ⟨#[115,112,97,119,110]⟩),(.string ⟨#[116,97,107,101]⟩),(.string ⟨#[102,111,114]⟩),(.string ⟨#[114,101,112,101,97,116]⟩),(.string ⟨#[105,102]⟩)]=ov from rfl]
 generalize h0.push (.cells (List.toArray ov) 9 (0,0))=h1 at *;have k01:=k0.trans k1;have hp1:=hp0.aC k1 fun _ _ h=>h;refine aa.use (Ga (vl:=.slice (some ⟨h0.size,0,none⟩) 14 14) ⟨rfl,.inr ⟨h0.size,0,14,rfl,fun j u hu=>by rw [Zc,bi hl1];simpa using hu⟩⟩ x0.text) ?_
 rintro _ _ ⟨rfl,rfl⟩;rw [asK_int];refine ⟨fun h'=>doW (bytesOf x0.text)≠0∧h1=h',?_,?_⟩
 ·refine ae (fun hc=>?_) (fun hc=>?_)
  ·have h0':doW (bytesOf x0.text)=0:=by have:=Qj hc;omega
   exact bad (P:=fun h'=>doW (bytesOf x0.text)≠0∧h1=h') hp1 (fS k01) (by rw [hst,if_neg fun hh=>hh.2 h0'];rfl)
  ·exact ⟨by have:=Qc hc;omega,rfl⟩
 rintro _ _ ⟨hw0,rfl⟩;have hw14:=JJ (bytesOf x0.text);rw [if_pos ⟨hk1,hw0⟩] at hst;obtain ⟨vl1,hg1,htk1⟩:=hp1.ex;refine lx hg1 (j:=2) rfl ?_;rw [asK_int];refine ⟨fun h'=>n≠300∧h1=h',?_,?_⟩
 ·refine ae (fun hc=>?_) (fun hc=>?_)
  ·have h3:n=300:=by have:=Zg hc;omega
   refine aa.mono (du hp1 8 X ?_) (fun _ _ hf=>hf.elim) (fun _ _ hx=>hx);exact hX _ h1 (by rw [hst,if_pos h3];rfl) ⟨fS k01,hp1.pb⟩
  ·exact ⟨fun hh=>by rw [hh] at hc;exact absurd hc (by decide),rfl⟩
 rintro _ _ ⟨hn3,rfl⟩;rw [if_neg hn3] at hst;refine lx hg1 (j:=2) rfl ?_;rw [asK_int,i64_in (by omega) (by omega)]
 refine aM (o:=2) hg1 (by simp [psr]) ?_
 rw [show (psr vl1 e n deep 0 t).toArray.setIfInBounds 2 (.int .i64 ((n:Int)+1))=(psr vl1 e ((n+1:Nat):Int) deep 0 t).toArray from by simp [psr]]
 have hg2:=aq (o:=.cells (psr vl1 e ((n+1:Nat):Int) deep 0 t).toArray 71 (0,0)) hg1;have k2:=ar.set (S:=fun b=>b=G) (h:=h1) (.cells (psr vl1 e ((n+1:Nat):Int) deep 0 t).toArray 71 (0,0)) (b:=G) rfl;have z2:(h1.setIfInBounds G (.cells (psr vl1 e ((n+1:Nat):Int) deep 0 t).toArray 71 (0,0))).size=h1.size:=by simp
 generalize h1.setIfInBounds G (.cells (psr vl1 e ((n+1:Nat):Int) deep 0 t).toArray 71 (0,0))=h2 at *;have hp2:PA h2 G (x0::r0) e ((n+1:Nat):Int) deep 0 t:=⟨vl1,hg2,htk1.aC k2 fun b hb e=>by omega⟩
 rw [asK_int];refine aa.use (cz hp2) ?_;rintro _ h3 ⟨rfl,hp3,k3⟩;have hs3:=k3.size;have k03:KG G h h3:=((fS k01).trans k2).trans k3;have hres3:=k3.get (k2.get (k1.get hres0 (by simp)) (by omega)) (by omega)
 rw [asA_agg];show asO (some (Value.int .i64 x0.at_)) _;rw [asO_some,oneK_int,show IntKind.wrap .i64 ((doW (bytesOf x0.text):Int) - 1+1)=(doW (bytesOf x0.text):Int) from by rw [i64_in (by omega) (by omega)];omega]
 generalize hdd:doW (bytesOf x0.text)=d at *;refine ⟨trivial,?_,aA (cs:=shC d x0.at_ {} (.slice none 0 0) (.slice none 0 0) (.slice none 0 0)) rfl ?_⟩
 ·intro u hu;simp only [List.mem_cons,List.not_mem_nil,or_false] at hu;rcases hu with rfl|rfl|rfl|rfl|rfl|rfl|rfl|rfl|rfl<;>rfl
 have hb4:=ah (h:=h3) (o:=.cells (shC d x0.at_ {} (.slice none 0 0) (.slice none 0 0) (.slice none 0 0)).toArray 39 (0,0));have k4:=ar.push (S:=fun _=>False) h3 (.cells (shC d x0.at_ {} (.slice none 0 0) (.slice none 0 0) (.slice none 0 0)).toArray 39 (0,0));have z4:(h3.push (.cells (shC d x0.at_ {} (.slice none 0 0) (.slice none 0 0) (.slice none 0 0)).toArray 39 (0,0))).size=h3.size+1:=by simp
 generalize h3.push (.cells (shC d x0.at_ {} (.slice none 0 0) (.slice none 0 0) (.slice none 0 0)).toArray 39 (0,0))=h4 at *;have hp4:=hp3.aC k4 fun _ _ h=>h;have k04:KG G h h4:=k03.trans (fS k4);have hres4:=k4.get hres3 (by simp)
 have kfin:∀{h':Hp},KGB G h3.size h4 h'→KG G h h':=fun k=>k04.cS (k.mono fun b _ hb=>hb.imp id fun e=>by omega)
 refine lx hb4 (j:=0) rfl ?_;rw [asK_int];refine ⟨fun v h'=>v=.bool (!decide (d < 11))∧h4=h',?_,?_⟩
 ·have hbb:∀k:Nat,((d:Int)==(k:Int))=decide (d=k):=fun k=>by
   rw [Qz,beq_iff_eq,decide_eq_true_eq];omega
  have e11:=hbb 11;have e12:=hbb 12;have e13:=hbb 13;have e14:=hbb 14
  push_cast at e11 e12 e13 e14
  rw [e11];refine ae (fun hc=>?_) (fun hc=>?_)
  ·have h1:=Qj hc;exact ⟨by rw [hc,Z0 (by omega)];rfl,rfl⟩
  have h11:=Qc hc;rw [asK_int,e12];refine ⟨fun v h'=>v=.bool (!decide (d < 11))∧h4=h',?_,fun _ _ _ hj=>hj⟩;refine ae (fun hc=>?_) (fun hc=>?_)
  ·have h1:=Qj hc;exact ⟨by rw [hc,Z0 (by omega)];rfl,rfl⟩
  have h12:=Qc hc;rw [asK_int,e13];refine ⟨fun v h'=>v=.bool (!decide (d < 11))∧h4=h',?_,fun _ _ _ hj=>hj⟩;refine ae (fun hc=>?_) (fun hc=>?_)
  ·have h1:=Qj hc;exact ⟨by rw [hc,Z0 (by omega)];rfl,rfl⟩
  have h13:=Qc hc;rw [asK_int,e14];refine ⟨?_,rfl⟩
  congr 1
  rw [Qz];simp;omega
 rintro _ _ _ ⟨rfl,rfl⟩;rw [asB_bool];have hnw:∀{h' h'':Hp},h'.size≤h''.size→∀b,Nw h4 h' b→Nw h h'' b:=fun hh b hb=>⟨by have:=hb.1;omega,by have:=hb.2;omega⟩
 refine ae (fun hc=>?_) (fun hc=>?_)
 ·have h11:¬d < 11:=by simpa using hc
  rw [if_neg h11] at hst;have hst2:dU e (f+1) deep n (x0::r0)=x5 e f deep (n+1) d x0.at_ r0:=hst;refine aa.mono (Jd hBL (by omega) hb4 hp4 hd (by omega) (by omega) (by omega) X fun x h' hx kx hpb=>hX x h' (by rw [hst2,hx]) ⟨kfin kx,hpb⟩) ?_ (fun _ _ hx=>hx)
  rintro _ h5 ⟨x,m,ts',ve,vb,vl5,hok,hb5,hxe,hxb,hxl,⟨t5,hp5⟩,k5⟩;have hs5:=k5.size;refine ret9 (R:=fun r h'=>∃x m ts',dU e (f+1) deep n (x0::r0)=.ok (x,m,ts')∧StR h h' r x∧(∃t',PA h' G ts' e (m:Nat) deep 0 t')∧KG G h h') hb5 (k5.get hres4 (by omega)) rfl rfl (qt hxe.b8 hxb.b8 hxl.b8) fun h' k=>⟨x,m,ts',by rw [hst2,hok],⟨ve,vb,vl5,rfl,?_,?_,?_⟩,⟨t5,hp5.aC k fun b hb e=>by omega⟩,jO (kfin k5) (Zd _) k⟩
  ·exact fU.mv hxe k (fun b hb e=>by have:=hb.1;omega) (hnw k.size)
  ·exact qk.mv hxb k (fun b hb e=>by have:=hb.1;omega) (hnw k.size)
  ·exact qk.mv hxl k (fun b hb e=>by have:=hb.1;omega) (hnw k.size)
 ·have h11:d < 11:=by simpa using hc
  rw [if_pos h11] at hst;refine aa.mono (Ho (by omega) hb4 hp4 (by omega) X fun x h' hx kx hpb=>hX x h' (by rw [hst,hx];rfl) ⟨kfin kx,hpb⟩) ?_ (fun _ _ hx=>hx)
  rintro _ h5 ⟨s,ts5,ve,hok,hb5,hxe,⟨t5,hp5⟩,k5⟩;have hs5:=k5.size;rw [hok,ay] at hst;refine aa.mono (gM hp5 ⟨#[59]⟩ X fun x h' hx kx=>hX x h' (by rw [hst,show bl e [59] ts5=_ from hx];rfl) (kx.after (kfin k5))) ?_ (fun _ _ hx=>hx)
  rintro _ h6 ⟨ts6,hw6,hp6,k6⟩;have hs6:=k6.size;rw [show bl e [59] ts5=.ok ts6 from hw6,ay] at hst
  have hb6:=k6.get hb5 (by omega)
  have hxe6:=fU.mv hxe k6 (N':=Nw h4 h6) (fun b hb e=>by have:=hb.1;omega) fun b hb=>⟨hb.1,by have:=hb.2;omega⟩
  refine ret9 (R:=fun r h'=>∃x m ts',dU e (f+1) deep n (x0::r0)=.ok (x,m,ts')∧StR h h' r x∧(∃t',PA h' G ts' e (m:Nat) deep 0 t')∧KG G h h') (cs:=stC (.mk d x0.at_ s.a s.b s.t s.n s.e [] []) ve (.slice none 0 0) (.slice none 0 0)) hb6 (k6.get (k5.get hres4 (by omega)) (by omega)) rfl rfl (qt hxe.b8 ⟨_,_,_,rfl⟩ ⟨_,_,_,rfl⟩) fun h' k=>⟨_,n+1,ts6,hst,⟨ve,_,_,rfl,?_,tB,tB⟩,⟨t5,hp6.aC k fun b hb e=>by omega⟩,jO ((kfin k5).trans k6) (Zd _) k⟩
  exact fU.mv hxe6 k (fun b hb e=>by have:=hb.1;omega) (hnw k.size)
theorem Hw (ω:Amb)(e:Int):∀f:Nat,(∀g,g≤f→BL ω e g)∧(∀g,g≤f→TL ω e g):=by
 intro f
 induction f with
 |zero =>
  refine ⟨fun g hg=>?_,fun g hg=>?_⟩
  ·intro h G ts n deep t hp hd hl hn hf;omega
  ·intro h G ts n deep t hp hd hl hn hf;omega
 |succ f ih =>
  refine ⟨fun g hg=>?_,fun g hg=>?_⟩
  ·rcases Nat.lt_or_ge f g with hh|hh
   ·obtain rfl:g=f+1:=by omega
    exact G0 ih.2
   ·exact ih.1 g hh
  ·rcases Nat.lt_or_ge f g with hh|hh
   ·obtain rfl:g=f+1:=by omega
    exact IR (ih.1 f (Zd _))
   ·exact ih.2 g hh
end
def SgR (h h':Hp)(r:Value)(s:Sg):Prop:=∃vp vb,r=.agg (sgC s vp vb).toArray∧SlN h' (Nw h h') 2 vp s.ps.length (s.ps.flatMap pf)∧AL vp∧qk h' (Nw h h') vb s.body
theorem rU (e:Int)(f:Nat)(acc:List (ByteArray×ByteArray))(l:List Tok):fb e (f+1) acc l=if isT [41] l then .ok (acc,l.tail)
  else aD (if acc.length=0 then .ok l else bl e [44] l) fun l=>if acc.length=6 then .error (pt e 8 l) else aD (ee e l) fun q=>aD (qD e [] q.2) fun u=>fb e f (acc++[(q.1,bs u.1)]) u.2:=by
 conv=>lhs;unfold fb
theorem B9 {nm:ByteArray}{at_:Int}{vp vb:Value}(h1:b8 vp)(h2:b8 vb):∀u∈[Value.string nm,.int .i64 at_,vp,vb],one u:=by
 intro u hu;simp only [List.mem_cons,List.not_mem_nil,or_false] at hu;rcases hu with rfl|rfl|rfl|rfl
 ·rfl
 ·rfl
 ·exact h1.one
 ·exact h2.one
section
variable  {ω:Amb}{e:Int}
set_option maxHeartbeats 1000000 in
theorem Fi {h:Hp}{G:Nat}{x0:Tok}{r0:List Tok}{n:Nat}{t:Int}(hp:PA h G (x0::r0) e n ((0:Nat):Int) 0 t)(hl:(x0::r0).length≤20000)(hn:n≤300)(X:XT)(hX:∀x h',gN e n (x0::r0)=.error x→KX G h h'→X (gone x) h') :
  aa Tryz.prog ω ly [pp G] h (fun r h'=>∃s m ts',gN e n (x0::r0)=.ok (s,m,ts')∧SgR h h' r s∧(∃t',PA h' G ts' e (m:Nat) ((0:Nat):Int) 0 t')∧KG G h h') X:=by
 have hlt:=hp.lt;simp only [Qn] at hl;have hun:gN e n (x0::r0)=aD (ee e r0) fun a=>aD (bl e [40] a.2) fun l=>aD (fb e (l.length+1) [] l) fun ps=>aD (bD e (3*ps.2.length+3) 0 n ps.2) fun b=>.ok (⟨a.1,x0.at_,ps.1,b.1⟩,b.2.1,b.2.2):=rfl;refine mb ω _ h _ X ?_;unfold eC aE;simp only [nnK_ptr,asP_some];have hres0:=ah (h:=h) (o:=.cells #[(.string ⟨#[]⟩),(.int .i64 0),(.slice none 0 0),(.slice none 0 0)] 41 (0,0))
 have k0:=ar.push (S:=fun _=>False) h (.cells #[(.string ⟨#[]⟩),(.int .i64 0),(.slice none 0 0),(.slice none 0 0)] 41 (0,0));have z0:(h.push (.cells #[(.string ⟨#[]⟩),(.int .i64 0),(.slice none 0 0),(.slice none 0 0)] 41 (0,0))).size=h.size+1:=by simp
 generalize h.push (.cells #[(.string ⟨#[]⟩),(.int .i64 0),(.slice none 0 0),(.slice none 0 0)] 41 (0,0))=h0 at *;have hp0:=hp.aC k0 fun _ _ h=>h;obtain ⟨vl0,hg0,htk0⟩:=hp0.ex;refine lx hg0 (j:=0) rfl ?_;refine htk0.rd0 (o:=1) rfl ?_;rw [oneK_int];refine ⟨trivial,B9 ⟨_,_,_,rfl⟩ ⟨_,_,_,rfl⟩,aA (cs:=[.string ⟨#[]⟩,.int .i64 x0.at_,.slice none 0 0,.slice none 0 0]) rfl ?_⟩;have hb1:=ah (h:=h0) (o:=.cells [Value.string ⟨#[]⟩,.int .i64 x0.at_,.slice none 0 0,.slice none 0 0].toArray 41 (0,0))
 have k1:=ar.push (S:=fun _=>False) h0 (.cells [Value.string ⟨#[]⟩,.int .i64 x0.at_,.slice none 0 0,.slice none 0 0].toArray 41 (0,0));have z1:(h0.push (.cells [Value.string ⟨#[]⟩,.int .i64 x0.at_,.slice none 0 0,.slice none 0 0].toArray 41 (0,0))).size=h0.size+1:=by simp
 generalize h0.push (.cells [Value.string ⟨#[]⟩,.int .i64 x0.at_,.slice none 0 0,.slice none 0 0].toArray 41 (0,0))=h1 at *;have hp1:=hp0.aC k1 fun _ _ h=>h;have k01:=k0.trans k1;refine aa.use (cz hp1) ?_;rintro _ h2 ⟨_,hp2,k2⟩;have hs2:=k2.size;have k02:KG G h h2:=(fS k01).trans k2;refine aa.mono (jM hp2 X fun x h' hx kx=>hX x h' (by rw [hun,hx];rfl) (kx.after k02)) ?_ (fun _ _ hx=>hx)
 rintro _ h3 ⟨nm,ts3,hn3,rfl,hp3,k3⟩;have hle3:=bV hn3;have hs3:=k3.size;have k03:=k02.trans k3;rw [hn3,ay] at hun;simp only at hun hle3;rw [oneK_str];have hb3:=k3.get (k2.get hb1 (by omega)) (by omega)
 refine aM (o:=0) hb3 (by simp) ?_
 rw [show ([Value.string ⟨#[]⟩,.int .i64 x0.at_,.slice none 0 0,.slice none 0 0].toArray).setIfInBounds 0 (.string nm)=[Value.string nm,.int .i64 x0.at_,.slice none 0 0,.slice none 0 0].toArray from by simp]
 have hb4:=aq (o:=.cells [Value.string nm,.int .i64 x0.at_,.slice none 0 0,.slice none 0 0].toArray 41 (0,0)) hb3;have k4:=ar.set (S:=fun b=>b=h0.size) (h:=h3) (.cells [Value.string nm,.int .i64 x0.at_,.slice none 0 0,.slice none 0 0].toArray 41 (0,0)) (b:=h0.size) rfl;have z4:(h3.setIfInBounds h0.size (.cells [Value.string nm,.int .i64 x0.at_,.slice none 0 0,.slice none 0 0].toArray 41 (0,0))).size=h3.size:=by simp
 generalize h3.setIfInBounds h0.size (.cells [Value.string nm,.int .i64 x0.at_,.slice none 0 0,.slice none 0 0].toArray 41 (0,0))=h4 at *;have hp4:=hp3.aC k4 fun b hb e=>by omega
 have k04:KG G h h4:=jO k03 (by omega) k4
 have hres4:=k4.get (k3.get (k2.get (k1.get hres0 (by simp)) (by omega)) (by omega)) (by omega)
 refine aa.mono (gM hp4 ⟨#[40]⟩ X fun x h' hx kx=>hX x h' (by rw [hun,show bl e [40] ts3=_ from hx];rfl) (kx.after k04)) ?_ (fun _ _ hx=>hx)
 rintro _ h5 ⟨l5,hw5,hp5,k5⟩;have hw5:bl e [40] ts3=.ok l5:=hw5;have hle5:=bH hw5;have hs5:=k5.size;have k05:=k04.trans k5;rw [hw5,ay] at hun;have hb5:=k5.get hb4 (by omega)
 have hres5:=k5.get hres4 (by omega)
 refine ⟨fun h'=>∃f acc vp ts' t',fb e (l5.length+1) [] l5=fb e f acc ts'∧ts'.length+1≤f∧ts'.length≤20000∧acc.length≤6∧h'[h0.size]?=some (.cells [Value.string nm,.int .i64 x0.at_,vp,.slice none 0 0].toArray 41 (0,0))∧bX h' h1.size 32 2 vp acc.length (acc.flatMap pf)∧(∃cur,h'[h.size]?=some (.cells cur 41 (0,0))∧cur.size=4)∧PA h' G ts' e n ((0:Nat):Int) 0 t'∧KG G h h'∧h1.size≤h'.size,tkN G,
  ⟨l5.length+1,[],_,l5,t,rfl,Zd _,by omega,by simp,hb5,bX.nil,⟨_,hres5,rfl⟩,hp5,k05,by omega⟩,?_⟩
 rintro _ h6 ⟨f,acc,vp,ts',t',heq,hf,hl6,hacc,hb6,ho,⟨cur,hres6,hcur⟩,hp6,k6,hs6⟩;obtain ⟨f,rfl⟩:∃q,f=q+1:=⟨f - 1,by omega⟩
 rw [rU e f acc ts'] at heq;have hlt6:=ho.lt;refine aa.use (eA hp6 ⟨#[41]⟩) ?_;rintro _ _ ⟨rfl,rfl⟩;rw [asB_bool,show bytesOf ⟨#[41]⟩=[41] from rfl]
 refine ae (fun hc=>?_) (fun hc=>?_)
 ·have hc:isT [41] ts'=false:=by simpa using hc
  rw [hc,if_neg Qe] at heq;obtain ⟨a0,c0,hform⟩:∃a c,vp=.slice a acc.length c:=by
   rcases ho.2 with ⟨rfl,h0⟩|⟨g,o,cap,cur,rfl,_⟩
   ·exact ⟨none,0,by rw [h0]⟩
   ·exact ⟨_,_,rfl⟩
  have hsl:∀{F:Option Addr→Nat→Nat→Prop},(∀a c,F a acc.length c)→bR vp F:=fun hF=>by rw [hform,asSl_sl];exact hF _ _
  refine lx hb6 (j:=2) rfl ?_;refine hsl fun _ _=>?_;refine ⟨fun h'=>∃l1,(if acc.length=0 then .ok ts' else bl e [44] ts')=(.ok l1:Except (Int×Int) (List Tok))∧PA h' G l1 e n ((0:Nat):Int) 0 t'∧KG G h6 h'∧l1.length≤ts'.length,?_,?_⟩
  ·refine ae (fun h0=>?_) (fun h0=>?_)
   ·have h0:¬acc.length=0:=by have:=Qj h0;omega
    refine aa.mono (gM hp6 ⟨#[44]⟩ X fun x h' hx kx=>hX x h' ?_ (kx.after k6)) ?_ (fun _ _ hx=>hx)
    ·have hx:bl e [44] ts'=.error x:=hx;rw [hun,heq,if_neg h0,hx];rfl
    ·rintro _ h7 ⟨l1,hw1,hp7,k7⟩;have hw1:bl e [44] ts'=.ok l1:=hw1;have:=bH hw1;exact ⟨l1,by rw [if_neg h0,hw1],hp7,k7,by omega⟩
   ·have h0:acc.length=0:=by have:=Qc h0;omega
    exact ⟨ts',by rw [if_pos h0],hp6,ar.refl _ _,Zd _⟩
  rintro _ h7 ⟨l1,hl1,hp7,k7,hle1⟩;rw [hl1,ay] at heq;have hs7:=k7.size;have hb7:=k7.get hb6 (by omega)
  refine lx hb7 (j:=2) rfl ?_;refine hsl fun _ _=>?_;refine ⟨fun h'=>acc.length≠6∧h7=h',?_,?_⟩
  ·refine ae (fun h6=>?_) (fun h6=>?_)
   ·have h6:acc.length=6:=by have:=Zg h6;omega
    refine aa.mono (du hp7 8 X ?_) (fun _ _ hf=>hf.elim) (fun _ _ hx=>hx);exact hX _ h7 (by rw [hun,heq,if_pos h6];rfl) ⟨k6.trans k7,hp7.pb⟩
   ·exact ⟨fun hh=>by rw [hh] at h6;exact absurd h6 (by decide),rfl⟩
  rintro _ _ ⟨h6',rfl⟩;rw [if_neg h6'] at heq;refine aa.mono (jM hp7 X fun x h' hx kx=>hX x h' (by rw [hun,heq,hx];rfl) (kx.after (k6.trans k7))) ?_ (fun _ _ hx=>hx)
  rintro _ h8 ⟨q,ts8,hn8,rfl,hp8,k8⟩;have hle8:=bV hn8;have hs8:=k8.size;rw [hn8,ay] at heq;simp only at heq hle8;have hb8:=k8.get hb7 (by omega)
  refine ⟨_,lx' hb8 (j:=2) rfl,?_⟩;refine aa.mono (HI hp8 X fun x h' hx kx=>hX x h' (by rw [hun,heq,hx];rfl) (kx.after ((k6.trans k7).trans k8))) ?_ (fun _ _ hx=>hx)
  rintro _ h9 ⟨l9,ts9,hn9,rfl,hp9,k9,hle9,-⟩;have hs9:=k9.size;rw [hn9,ay] at heq;simp only at heq;have hb9:=k9.get hb8 (by omega)
  have kp9:=ar.push (S:=fun _=>False) h9 (.cells (List.toArray [Value.string q,.string (bs l9)]) 32 (0,0));refine ⟨lx' hb9 (j:=2) rfl,?_⟩;rw [oneK_str,oneK_str];refine ⟨trivial,lx' (kp9.get hb9 (by simp)) (j:=2) rfl,?_⟩
  have k69:KG G h6 h9:=(k7.trans k8).trans k9;have ho9:bX h9 h1.size 32 2 vp acc.length (acc.flatMap pf):=ho.aC fun b hb hbl=>k69.block b hbl fun e=>by have:=hlt6 b hb;omega
  refine dR (bt:=32) (cs:=pf (q,bs l9)) (by kernel_rfl) ho9 rfl (CT _) (by omega) (by omega) (by omega) fun w2 h10 ho2 hgr hnn hv=>?_
  have hg10:=hgr.size;have k910:ar (fun b=>some b=vp.ownBlock) h9 h10:=ar.grown hgr fun b hb _=>hb.symm;have hb10:=k910.get hb9 (fun e=>by have:=hlt6 _ e.symm;omega)
  have hw2:b8 w2:=bm.b8 ho2.dP;refine cP hw2.one ?_;refine aM (o:=2) hb10 (by simp) ?_
  rw [show ([Value.string nm,.int .i64 x0.at_,vp,.slice none 0 0].toArray).setIfInBounds 2 w2=[Value.string nm,.int .i64 x0.at_,w2,.slice none 0 0].toArray from by simp]
  have hb11:=aq (o:=.cells [Value.string nm,.int .i64 x0.at_,w2,.slice none 0 0].toArray 41 (0,0)) hb10;have k11:=ar.set (S:=fun b=>b=h0.size) (h:=h10) (.cells [Value.string nm,.int .i64 x0.at_,w2,.slice none 0 0].toArray 41 (0,0)) (b:=h0.size) rfl;have z11:(h10.setIfInBounds h0.size (.cells [Value.string nm,.int .i64 x0.at_,w2,.slice none 0 0].toArray 41 (0,0))).size=h10.size:=by simp
  generalize h10.setIfInBounds h0.size (.cells [Value.string nm,.int .i64 x0.at_,w2,.slice none 0 0].toArray 41 (0,0))=h11 at *;have hp11:=(hp9.aC k910 fun b hb e=>by have:=hlt6 b e.symm;omega).aC k11 fun b hb e=>by omega
  have hlt2:=ho2.lt;refine ⟨⟨f,acc++[(q,bs l9)],w2,ts9,t',heq,by omega,by omega,by simp;omega,hb11,?_,⟨cur,k11.get (k910.get (k69.get hres6 (by omega)) (fun e=>by have:=hlt6 _ e.symm;omega)) (by omega),hcur⟩,hp11,?_,by omega⟩,?_⟩
  ·have:bX h11 h1.size 32 2 w2 (acc.length+1) (acc.flatMap pf++pf (q,bs l9)):=ho2.aC fun b hb hbl=>k11.block b hbl fun e=>by have:=hlt2 b hb;omega
   rw [Qd,Qb];simpa using this
  ·exact jO (((k6.trans k69)).cS (k910.mono fun b hb e=>.inr (by have:=hlt6 b e.symm;omega))) (by omega) k11
  ·show tkN G h11 < tkN G h6;rw [hp11.tkN,hp6.tkN];omega
 ·have hc:isT [41] ts'=true:=by simpa using hc
  obtain ⟨y0,q0,rfl⟩:=eV hc;rw [hc,if_pos rfl] at heq;rw [heq,ay] at hun;simp only [Qn] at hl6;refine aa.use (cz hp6) ?_;rintro _ h7 ⟨_,hp7,k7⟩;have hs7:=k7.size;have k07:=k6.trans k7;refine aa.mono ((Hw ω e (3*q0.length+3)).1 _ (Zd _) h7 G q0 n 0 t' hp7 (by omega) (by omega) hn (by omega) X fun x h' hx kx=>hX x h' (by rw [hun];show aD (bD e (3*q0.length+3) 0 n q0) _=_;rw [hx];rfl) (kx.after k07)) ?_ (fun _ _ hx=>hx)
  rintro vb h8 ⟨body,m,ts8,hok,hbd,⟨t8,hp8⟩,k8⟩;have hs8:=k8.size;have hun:gN e n (x0::r0)=.ok (⟨nm,x0.at_,acc,body⟩,m,ts8):=by
   rw [hun];show aD (bD e (3*q0.length+3) 0 n q0) _=_;rw [hok];rfl
  refine cP hbd.b8.one ?_;have k68:=k7.trans k8;have hb8:=k68.get hb6 (by omega)
  refine aM (o:=3) hb8 (by simp) ?_
  rw [show ([Value.string nm,.int .i64 x0.at_,vp,.slice none 0 0].toArray).setIfInBounds 3 vb=[Value.string nm,.int .i64 x0.at_,vp,vb].toArray from by simp]
  have hb9:=aq (o:=.cells [Value.string nm,.int .i64 x0.at_,vp,vb].toArray 41 (0,0)) hb8;have k9:=ar.set (S:=fun b=>b=h0.size) (h:=h8) (.cells [Value.string nm,.int .i64 x0.at_,vp,vb].toArray 41 (0,0)) (b:=h0.size) rfl;have z9:(h8.setIfInBounds h0.size (.cells [Value.string nm,.int .i64 x0.at_,vp,vb].toArray 41 (0,0))).size=h8.size:=by simp
  generalize h8.setIfInBounds h0.size (.cells [Value.string nm,.int .i64 x0.at_,vp,vb].toArray 41 (0,0))=h9 at *;have hres9:=k9.get (k68.get hres6 (by omega)) (by omega)
  have hvp:b8 vp:=bm.b8 ho.dP;refine ⟨_,ak hb9 rfl,rfl,B9 hvp hbd.b8,?_⟩;refine aW (o:=0) hres9 (by rw [hcur];simp) ?_
  rw [ca (by rw [hcur];rfl)]
  have hb10:=aq (o:=.cells [Value.string nm,.int .i64 x0.at_,vp,vb].toArray 41 (0,0)) hres9;have k10:=ar.set (S:=fun b=>b=h.size) (h:=h9) (.cells [Value.string nm,.int .i64 x0.at_,vp,vb].toArray 41 (0,0)) (b:=h.size) rfl;have z10:(h9.setIfInBounds h.size (.cells [Value.string nm,.int .i64 x0.at_,vp,vb].toArray 41 (0,0))).size=h9.size:=by simp
  refine ⟨_,ak hb10 rfl,⟨nm,x0.at_,acc,body⟩,m,ts8,hun,⟨vp,vb,rfl,?_,B0 ho,?_⟩,⟨t8,(hp8.aC k9 fun b hb e=>by omega).aC k10 fun b hb e=>by omega⟩,jO (jO (k6.trans k68) (by omega) k9) (Zd _) k10⟩
  ·generalize h9.setIfInBounds h.size (.cells [Value.string nm,.int .i64 x0.at_,vp,vb].toArray 41 (0,0))=h10 at *;have hk:ar (fun b=>b=G∨b=h0.size∨b=h.size) h6 h10:=((k68.mono fun _ _ h=>.inl h).trans (k9.mono fun _ _ h=>.inr (.inl h))).trans (k10.mono fun _ _ h=>.inr (.inr h));have hkz:=hk.size;exact ((SlN.own ho (by omega)).aC hk fun b hb e=>by have:=hb.1;omega).mono fun b hb=>⟨by have:=hb.1;omega,by have:=hb.2;omega⟩
  ·exact qk.mv (qk.mv hbd k9 (N':=fun b=>h7.size≤b∧b < h8.size) (fun b hb e=>by have:=hb.1;omega) fun b hb=>hb) k10 (fun b hb e=>by have:=hb.1;omega) fun b hb=>⟨by have:=hb.1;omega,by have:=hb.2;have:=k10.size;omega⟩
end
end Go.Proofs.YtkeeboomikkojaaGreatDoor
