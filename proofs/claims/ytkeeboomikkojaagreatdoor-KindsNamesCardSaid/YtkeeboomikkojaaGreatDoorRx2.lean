import Derived.Test.YtkeeboomikkojaaGreatDoorRx1
set_option maxRecDepth 100000
namespace Go.Proofs.YtkeeboomikkojaaGreatDoor
open Go Go.Sx Go.Sx.Tk Go.Sx.Rn Go.Proofs.YtkeeboomikkojaaGreatDoor.Sx
theorem ret4 {hh:Hp}{L B:Nat}{cs:List Value}{cur:Array Value}{R:RT}(hL:hh[L]?=some (.cells cs.toArray 36 (0,0)))(hB:hh[B]?=some (.cells cur 36 (0,0)))(hc:cs.length=4)(hcur:cur.size=4)(h1:∀u∈cs,one u)
  (hR:∀h',ar (fun b=>b=B) hh h'→R (.agg cs.toArray) h') :
  ∃C34,aj hh ⟨L,0,none⟩ 4 C34∧C34.toArray.size=4∧(∀u∈C34.toArray.toList,one u)∧av hh ⟨B,0,none⟩ C34.toArray.toList fun h35=>∃C36,aj h35 ⟨B,0,none⟩ 4 C36∧R (.agg C36.toArray) h35:=by
 refine ⟨cs,ak hL hc,by simpa using hc,by simpa using h1,?_⟩
 refine aW (o:=0) hB (by rw [hcur];simp [hc]) ?_
 rw [ca (by rw [hcur];simpa using hc)]
 exact ⟨cs,ak (aq hB) hc,hR _ (ar.set (S:=fun b=>b=B) _ rfl)⟩
abbrev Pl (h h':Hp)(L k:Nat):Prop:=h.size < k∧k < h'.size∧k≠L
structure mB (h:Hp)(G:Nat)(e n d:Int)(o L:Nat)(h':Hp)(x:Ex)(m:Nat)(ts':List Tok)(w:Value):Prop where
 var:h'[L]?=some (.cells (exC x w).toArray 36 (0,0))
 res:∃cur,h'[h.size]?=some (.cells cur 36 (0,0))∧cur.size=4
 ex:fU h' (Pl h h' L) w x.l
 pa:PA h' G ts' e n d o m
 k:KG G h h'
 le:m+ts'.length≤20000
section
variable  {ω:Amb}{h:Hp}{G:Nat}{e n d:Int}{o L:Nat}
theorem mB.aC {h1 h2:Hp}{x:Ex}{m:Nat}{ts ts2:List Tok}{w:Value}{m2:Nat}(I:mB h G e n d o L h1 x m ts w)(hG:G < h.size)(hL:h.size < L)(k:KG G h1 h2)(hp:PA h2 G ts2 e n d o m2)(hle:m2+ts2.length≤20000):mB h G e n d o L h2 x m2 ts2 w:=by
 obtain ⟨cur,hr,hc⟩:=I.res;exact ⟨k.get I.var (by omega),⟨cur,k.get hr (by omega),hc⟩,fU.mv I.ex k (fun b hb e=>by have:=hb.1;omega) fun b hb=>⟨hb.1,by have:=k.size;have:=hb.2.1;omega,hb.2.2⟩,hp,I.k.trans k,hle⟩
theorem mB.ret {h1:Hp}{x:Ex}{m:Nat}{ts:List Tok}{w:Value}(I:mB h G e n d o L h1 x m ts w)(hG:G < h.size)(hL:h.size < L){R:RT}(hR:∀r h',ExR h h' r x→PA h' G ts e n d o m→KG G h h'→R r h') :
  ∃C34,aj h1 ⟨L,0,none⟩ 4 C34∧C34.toArray.size=4∧(∀u∈C34.toArray.toList,one u)∧av h1 ⟨h.size,0,none⟩ C34.toArray.toList fun h35=>∃C36,aj h35 ⟨h.size,0,none⟩ 4 C36∧R (.agg C36.toArray) h35:=by
 obtain ⟨cur,hr,hc⟩:=I.res;refine ret4 I.var hr rfl hc (dC I.ex.b8) fun h' k=>hR _ h' ⟨w,rfl,?_⟩ (I.pa.aC k fun b hb e=>by omega) (jO I.k (Zd _) k)
 exact fU.mv I.ex k (fun b hb e=>by have:=hb.1;omega) fun b hb=>⟨by have:=hb.1;omega,by have:=k.size;have:=hb.2.1;omega⟩
theorem mB.T {h1 h2 h3:Hp}{x y:Ex}{m m2:Nat}{ts ts2:List Tok}{w:Value}{r:Value}{op:Int}(I:mB h G e n d o L h1 x m ts w)(hG:G < h.size)(hL:h.size < L)(hL1:L < h2.size)(k12:KG G h1 h2)(hr:ExR h2 h3 r y)(k23:KG G h2 h3)(hp:PA h3 G ts2 e n d o m2)(hle:m2+1+ts2.length≤20000)
  {K:Hp→Prop} (X:XT) (hK:∀h' w',mB h G e n d o L h' (bz op x y) (m2+1) ts2 w'→K h') :
  aa Tryz.prog ω dh [pp G,.int .i64 op,.agg (exC x w).toArray,r] h3 (fun r16 h17=>asA r16 fun A18=>A18.size=4∧(∀u∈A18.toList,one u)∧av h17 ⟨L,0,none⟩ A18.toList K) X:=by
 obtain ⟨w2,rfl,hy⟩:=hr;have hs2:=k12.size;have hs3:=k23.size;have k13:=k12.trans k23;have I3:=I.aC hG hL k13 hp (by omega)
 have hx:=I3.ex;have hy':fU h3 (Pl h h3 L) w2 y.l:=hy.map fun _ _ _ _ hs=>hs.mono fun b hb=>⟨by have:=hb.1;omega,hb.2,by have:=hb.1;omega⟩
 refine aa.use (fun Y=>Gg hp (by omega) op hx hy' (fun k hk=>⟨hk.2.1,by have:=hk.1;omega⟩) Y) ?_
 rintro _ h4 ⟨w3,rfl,hex,hp4,k4⟩;have hs4:=k4.size;rw [asA_agg];refine ⟨rfl,dC hex.b8,?_⟩;obtain ⟨cur,hres,hcur⟩:=I3.res;have hv4:=k4.get I3.var (by omega)
 show av h4 ⟨L,0,none⟩ (exC (bz op x y) w3) K;refine aW (o:=0) hv4 (by simp [exC]) ?_
 rw [ca (by rfl)]
 have hv5:=aq (o:=.cells (exC (bz op x y) w3).toArray 36 (0,0)) hv4;have k5:=ar.set (S:=fun b=>b=L) (h:=h4) (.cells (exC (bz op x y) w3).toArray 36 (0,0)) (b:=L) rfl;have z5:(h4.setIfInBounds L (.cells (exC (bz op x y) w3).toArray 36 (0,0))).size=h4.size:=by simp
 generalize h4.setIfInBounds L (.cells (exC (bz op x y) w3).toArray 36 (0,0))=h5 at *;refine hK _ w3 ⟨hv5,⟨cur,k5.get (k4.get hres (by omega)) (by omega),hcur⟩,?_,?_,jO (I3.k.trans k4) (by omega) k5,hle⟩
 ·have hsz:=I.k.size;refine fU.mv hex k5 (fun b hb e=>?_) fun b hb=>?_
  ·rcases hb with hb|hb
   ·exact hb.2.2 e
   ·have:=hb.1;omega
  ·rcases hb with hb|hb
   ·exact ⟨hb.1,by have:=hb.2.1;omega,hb.2.2⟩
   ·exact ⟨by have:=hb.1;omega,by have:=hb.2;omega,by have:=hb.1;omega⟩
 ·have:=hp4.aC k5 fun b hb e=>by omega
  push_cast
  exact this
theorem mB.start {h0 h1:Hp}{x:Ex}{m:Nat}{ts:List Tok}{r:Value}{cur z:Array Value}(hG:G < h.size)(k0:KF h h0)(hs0:h0.size=h.size+1)(hres:h0[h.size]?=some (.cells cur 36 (0,0)))(hcur:cur.size=4)(hz:z.size=4)(hr:ExR h0 h1 r x)(hp:PA h1 G ts e n d o m)(k1:KG G h0 h1)(hle:m+ts.length≤20000)
  {K:Hp→Prop} (hK:∀h' w,h1.size < h'.size→h.size < h1.size→mB h G e n d o h1.size h' x m ts w→K h') :
  asA r fun A2=>A2.size=4∧(∀u∈A2.toList,one u)∧av (h1.push (.cells z 36 (0,0))) ⟨h1.size,0,none⟩ A2.toList K:=by
 obtain ⟨w,rfl,hx⟩:=hr;have hs1:=k1.size;rw [asA_agg];refine ⟨rfl,dC hx.b8,aA (cs:=exC x w) (by rw [hz];rfl) ?_⟩
 have hb2:=ah (h:=h1) (o:=.cells (exC x w).toArray 36 (0,0));have k2:=ar.push (S:=fun _=>False) h1 (.cells (exC x w).toArray 36 (0,0));have z2:(h1.push (.cells (exC x w).toArray 36 (0,0))).size=h1.size+1:=by simp
 refine hK _ w (by omega) (by omega) ⟨hb2,⟨cur,k2.get (k1.get hres (by omega)) (by simp),hcur⟩,?_,hp.aC k2 (fun _ _ h=>h),((fS k0).trans k1).trans (fS k2),hle⟩
 exact fU.mv hx k2 (fun _ _ h=>h) fun b hb=>⟨by have:=hb.1;omega,by have:=hb.2;omega,by have:=hb.2;omega⟩
theorem Ib {f:Nat}(hU:∀g,g≤f→EL ω 176 e (cf e) 1 g):EL ω cu e (eZ e) 2 (f+1):=by
 intro h G ts n d o t hp ho ht hf X hX;have hlt:=hp.lt;refine jU ω _ h _ X ?_;unfold dM;have hres0:=ah (h:=h) (o:=.cells #[(.int .i64 0),(.string ⟨#[]⟩),(.int .i64 0),(.slice none 0 0)] 36 (0,0));have k0:=ar.push (S:=fun _=>False) h (.cells #[(.int .i64 0),(.string ⟨#[]⟩),(.int .i64 0),(.slice none 0 0)] 36 (0,0));have z0:(h.push (.cells #[(.int .i64 0),(.string ⟨#[]⟩),(.int .i64 0),(.slice none 0 0)] 36 (0,0))).size=h.size+1:=by simp
 generalize h.push (.cells #[(.int .i64 0),(.string ⟨#[]⟩),(.int .i64 0),(.slice none 0 0)] 36 (0,0))=h0 at *;have hun:eZ e (f+1) o t ts=aD (cf e f o t ts) fun r=>fc e f o r.1 r.2.1 r.2.2:=by
  conv=>lhs;unfold eZ
 refine aa.mono (hU f (Zd _) h0 G ts n d o t (hp.aC k0 fun _ _ h=>h) ho ht (by omega) X fun x h' hx kx=>hX x h' (by rw [hun,hx];rfl) (kx.after (fS k0))) ?_ (fun _ _ hx=>hx)
 rintro r h1 ⟨x,m,ts',hok,hr,hp1,k1⟩;obtain ⟨l1,l2⟩:=(HW e f).2.2.2.2.2 hok;simp only at l1 l2;refine mB.start hlt k0 z0 hres0 rfl rfl hr hp1 k1 (by omega) fun h2 w hs12 hsL I2=>?_
 refine ⟨fun h'=>∃g x m ts' w,g≤f∧4*ts'.length+2≤g∧eZ e (f+1) o t ts=fc e g o x m ts'∧h1.size < h'.size∧mB h G e n d o h1.size h' x m ts' w,tkN G,⟨f,x,m,ts',w,Zd _,by omega,by rw [hun,hok];rfl,hs12,I2⟩,?_⟩
 rintro _ h3 ⟨g,x,m,ts',w,hgf,hg,heq,hs3,I⟩;obtain ⟨g,rfl⟩:∃q,g=q+1:=⟨g - 1,by omega⟩
 refine aa.use (eA I.pa ⟨#[42]⟩) ?_;rintro _ _ ⟨rfl,rfl⟩;rw [asB_bool,show bytesOf ⟨#[42]⟩=[42] from rfl]
 refine ae (fun hc=>?_) (fun hc=>?_)
 ·obtain ⟨y0,r0,rfl⟩:=eV hc;have hstep:eZ e (f+1) o t ts=aD (cf e g o m r0) fun q=>fc e g o (bz 6 x q.1) (q.2.1+1) q.2.2:=by
   rw [heq]
   conv=>lhs;unfold fc
   rw [hc,if_pos rfl];rfl
  have hle:=I.le;simp only [Qn] at hg hle;refine aa.use (cz I.pa) ?_;rintro _ h4 ⟨_,hp4,k4⟩;have hs4:=k4.size;refine ⟨_,ak (k4.get I.var (by omega)) rfl,?_⟩
  refine aa.mono (hU g (by omega) h4 G r0 n d o m hp4 ho (by omega) (by omega) X fun y h' hy ky=>hX y h' (by rw [hstep,hy];rfl) ((ky.after k4).after I.k)) ?_ (fun _ _ hx=>hx)
  rintro r5 h5 ⟨y,m5,ts5,hok5,hr5,hp5,k5⟩;obtain ⟨l3,l4⟩:=(HW e g).2.2.2.2.2 hok5;simp only at l3 l4;refine ⟨ak (k5.get (k4.get I.var (by omega)) (by omega)) rfl,?_⟩
  refine mB.T I hlt hsL (by omega) k4 hr5 k5 hp5 (by omega) X fun h6 w6 I6=>?_
  have hs6:=I6.pa;refine ⟨⟨g,bz 6 x y,m5+1,ts5,w6,by omega,by omega,by rw [hstep,hok5];rfl,gd I6.var,I6⟩,?_⟩
  rw [I6.pa.tkN,I.pa.tkN];simp only [Qn];omega
 ·refine I.ret hlt hsL (R:=fun r h'=>∃x m ts',eZ e (f+1) o t ts=.ok (x,m,ts')∧ExR h h' r x∧PA h' G ts' e n d o m∧KG G h h') fun r h' hr hpa hk=>⟨x,m,ts',?_,hr,hpa,hk⟩;rw [heq];unfold fc;rw [hc,if_neg Qe]
theorem LM {f:Nat}(hU:∀g,g≤f→EL ω cu e (eZ e) 2 g):EL ω bW e (pu e) 3 (f+1):=by
 intro h G ts n d o t hp ho ht hf X hX;have hlt:=hp.lt;refine oq ω _ h _ X ?_;unfold gn;have hres0:=ah (h:=h) (o:=.cells #[(.int .i64 0),(.string ⟨#[]⟩),(.int .i64 0),(.slice none 0 0)] 36 (0,0));have k0:=ar.push (S:=fun _=>False) h (.cells #[(.int .i64 0),(.string ⟨#[]⟩),(.int .i64 0),(.slice none 0 0)] 36 (0,0));have z0:(h.push (.cells #[(.int .i64 0),(.string ⟨#[]⟩),(.int .i64 0),(.slice none 0 0)] 36 (0,0))).size=h.size+1:=by simp
 generalize h.push (.cells #[(.int .i64 0),(.string ⟨#[]⟩),(.int .i64 0),(.slice none 0 0)] 36 (0,0))=h0 at *;have hun:pu e (f+1) o t ts=aD (eZ e f o t ts) fun r=>qE e f o r.1 r.2.1 r.2.2:=by
  conv=>lhs;unfold pu
 refine aa.mono (hU f (Zd _) h0 G ts n d o t (hp.aC k0 fun _ _ h=>h) ho ht (by omega) X fun x h' hx kx=>hX x h' (by rw [hun,hx];rfl) (kx.after (fS k0))) ?_ (fun _ _ hx=>hx)
 rintro r h1 ⟨x,m,ts',hok,hr,hp1,k1⟩;obtain ⟨l1,l2⟩:=(HW e f).2.2.2.1 hok;simp only at l1 l2;refine mB.start hlt k0 z0 hres0 rfl rfl hr hp1 k1 (by omega) fun h2 w hs12 hsL I2=>?_
 refine ⟨fun h'=>∃g x m ts' w,g≤f∧4*ts'.length+3≤g∧pu e (f+1) o t ts=qE e g o x m ts'∧h1.size < h'.size∧mB h G e n d o h1.size h' x m ts' w,tkN G,⟨f,x,m,ts',w,Zd _,by omega,by rw [hun,hok];rfl,hs12,I2⟩,?_⟩
 rintro _ h3 ⟨g,x,m,ts',w,hgf,hg,heq,hs3,I⟩;obtain ⟨g,rfl⟩:∃q,g=q+1:=⟨g - 1,by omega⟩
 refine ⟨fun v h'=>v=.bool (isT [43] ts'||isT [45] ts')∧h3=h',?_,?_⟩
 ·refine aa.use (eA I.pa ⟨#[43]⟩) ?_;rintro _ _ ⟨rfl,rfl⟩;rw [asB_bool,show bytesOf ⟨#[43]⟩=[43] from rfl]
  refine ae (fun hc=>?_) (fun hc=>?_)
  ·exact ⟨by rw [hc,Bool.true_or],rfl⟩
  ·refine aa.use (eA I.pa ⟨#[45]⟩) ?_;rintro _ _ ⟨rfl,rfl⟩;exact ⟨by rw [hc,Za];rfl,rfl⟩
 rintro _ _ _ ⟨rfl,rfl⟩;rw [asB_bool];refine ae (fun hc=>?_) (fun hc=>?_)
 ·obtain ⟨y0,r0,rfl⟩:∃y r,ts'=y::r:=by
   cases ts' with
   |nil=>cases hc
   |cons y r=>exact ⟨y,r,rfl⟩
  -- which sign
  have hop:∀c:Bool,c=(y0.text.toList==ByteArray.toList ⟨#[45]⟩)→pu e (f+1) o t ts=aD (eZ e g o m r0) fun q=>qE e g o (bz (if c then 5 else 4) x q.1) (q.2.1+1) q.2.2:=by
   intro c hcc;rw [eqS] at hcc;rw [heq]
   conv=>lhs;unfold qE
   cases h43:isT [43] (y0::r0) with
   |true =>
    rw [if_pos rfl];have h4:bytesOf y0.text=[43]:=by
     have:(y0.kind !=2&&bytesOf y0.text==[43])=true:=h43;rw [Qq] at this;exact Zg this.2
    have hcf:c=false:=by
     rw [hcc,h4];exact Z0 (by decide)
    rw [hcf];rfl
   |false =>
    rw [h43,Za] at hc;rw [if_neg Qe,hc,if_pos rfl];have h4:bytesOf y0.text=[45]:=by
     have:(y0.kind !=2&&bytesOf y0.text==[45])=true:=hc;rw [Qq] at this;exact Zg this.2
    have hct:c=true:=by
     rw [hcc,h4];exact Z7 rfl
    rw [hct];rfl
  have hle:=I.le;simp only [Qn] at hg hle;refine aa.use (cz I.pa) ?_;rintro _ h4 ⟨rfl,hp4,k4⟩;have hs4:=k4.size;rw [asA_agg];show asO (some (Value.string y0.text)) _;rw [asO_some,asS_str];generalize hcc:(y0.text.toList==ByteArray.toList ⟨#[45]⟩)=c at *;have hstep:=hop c rfl;refine ⟨fun v h'=>v=.int .i64 (if c then 5 else 4)∧h4=h',?_,?_⟩
  ·cases c with
   |true=>exact ⟨rfl,rfl⟩
   |false=>exact ⟨rfl,rfl⟩
  rintro _ _ _ ⟨rfl,rfl⟩;refine ⟨_,ak (k4.get I.var (by omega)) rfl,?_⟩
  refine aa.mono (hU g (by omega) h4 G r0 n d o m hp4 ho (by omega) (by omega) X fun y h' hy ky=>hX y h' (by rw [hstep,hy];rfl) ((ky.after k4).after I.k)) ?_ (fun _ _ hx=>hx)
  rintro r5 h5 ⟨y,m5,ts5,hok5,hr5,hp5,k5⟩;obtain ⟨l3,l4⟩:=(HW e g).2.2.2.1 hok5;simp only at l3 l4;refine ⟨ak (k5.get (k4.get I.var (by omega)) (by omega)) rfl,?_⟩
  refine mB.T I hlt hsL (by omega) k4 hr5 k5 hp5 (by omega) X fun h6 w6 I6=>?_
  refine ⟨⟨g,bz (if c then 5 else 4) x y,m5+1,ts5,w6,by omega,by omega,by rw [hstep,hok5];rfl,gd I6.var,I6⟩,?_⟩
  rw [I6.pa.tkN,I.pa.tkN];simp only [Qn];omega
 ·refine I.ret hlt hsL (R:=fun r h'=>∃x m ts',pu e (f+1) o t ts=.ok (x,m,ts')∧ExR h h' r x∧PA h' G ts' e n d o m∧KG G h h') fun r h' hr hpa hk=>⟨x,m,ts',?_,hr,hpa,hk⟩;rw [Bool.or_eq_false_iff] at hc;rw [heq];unfold qE;rw [hc.1,hc.2,if_neg Qe,if_neg Qe]
theorem ET {f:Nat}(hS:EL ω bW e (pu e) 3 f){op:Int}{h1 h3:Hp}{x:Ex}{m:Nat}{ts ts':List Tok}{w:Value}{t:Nat}{y0:Tok}(I:mB h G e n d o h1.size h3 x m (y0::ts') w)(hlt:G < h.size)(hsL:h.size < h1.size)(hs3:h1.size < h3.size)(ho:o≤60)(hf:4*ts'.length+3≤f)
  (heq:qv e (f+1) o t ts=aD (pu e f o m ts') fun q=>.ok (bz op x q.1,q.2.1+1,q.2.2)) {X:XT} (hX:∀x h',qv e (f+1) o t ts=.error x→KX G h h'→X (gone x) h') :
  aa Tryz.prog ω cU [pp G] h3 (fun _ h8=>∃C9,aj h8 ⟨h1.size,0,none⟩ 4 C9∧aa Tryz.prog ω bW [pp G] h8 (fun r10 h11=>aj h11 ⟨h1.size,0,none⟩ 4 C9∧aa Tryz.prog ω dh [pp G,.int .i64 op,.agg C9.toArray,r10] h11 (fun r12 h13 =>
   asA r12 fun A14=>A14.size=4∧(∀u∈A14.toList,one u)∧av h13 ⟨h.size,0,none⟩ A14.toList fun h15=>∃C16,aj h15 ⟨h.size,0,none⟩ 4 C16 ∧
    ∃x m ts',qv e (f+1) o t ts=.ok (x,m,ts')∧ExR h h15 (.agg C16.toArray) x∧PA h15 G ts' e n d o m∧KG G h h15) X) X) X:=by
 have hle:=I.le;simp only [Qn] at hle;refine aa.use (cz I.pa) ?_;rintro _ h4 ⟨_,hp4,k4⟩;have hs4:=k4.size;refine ⟨_,ak (k4.get I.var (by omega)) rfl,?_⟩
 refine aa.mono (hS h4 G ts' n d o m hp4 ho (by omega) hf X fun y h' hy ky=>hX y h' (by rw [heq,hy];rfl) ((ky.after k4).after I.k)) ?_ (fun _ _ hx=>hx)
 rintro r5 h5 ⟨y,m5,ts5,hok5,⟨w5,rfl,hy5⟩,hp5,k5⟩;obtain ⟨l3,l4⟩:=(HW e f).2.1 hok5;simp only at l3 l4;have hs5:=k5.size;have k45:=k4.trans k5;have I5:=I.aC hlt hsL k45 hp5 (by omega)
 refine ⟨ak I5.var rfl,?_⟩;have hy':fU h5 (Pl h h5 h1.size) w5 y.l:=hy5.map fun _ _ _ _ hs=>hs.mono fun b hb=>⟨by have:=hb.1;omega,hb.2,by have:=hb.1;omega⟩
 refine aa.use (fun Y=>Gg hp5 (by omega) op I5.ex hy' (fun k hk=>⟨hk.2.1,by have:=hk.1;omega⟩) Y) ?_
 rintro _ h6 ⟨w6,rfl,hex,hp6,k6⟩;have hs6:=k6.size;rw [asA_agg];refine ⟨rfl,dC hex.b8,?_⟩;obtain ⟨cur,hres,hcur⟩:=I5.res;have hr6:=k6.get hres (by omega)
 show av h6 ⟨h.size,0,none⟩ (exC (bz op x y) w6) _;refine aW (o:=0) hr6 (by rw [hcur];simp [exC]) ?_
 rw [ca (by rw [hcur];rfl)]
 have hb7:=aq (o:=.cells (exC (bz op x y) w6).toArray 36 (0,0)) hr6;have k7:=ar.set (S:=fun b=>b=h.size) (h:=h6) (.cells (exC (bz op x y) w6).toArray 36 (0,0)) (b:=h.size) rfl;have z7:(h6.setIfInBounds h.size (.cells (exC (bz op x y) w6).toArray 36 (0,0))).size=h6.size:=by simp
 generalize h6.setIfInBounds h.size (.cells (exC (bz op x y) w6).toArray 36 (0,0))=h7 at *;refine ⟨_,ak hb7 rfl,bz op x y,m5+1,ts5,by rw [heq,hok5];rfl,⟨w6,rfl,?_⟩,?_,jO (I5.k.trans k6) (Zd _) k7⟩
 ·have hsz:=I5.k.size;refine fU.mv hex k7 (fun b hb e=>?_) fun b hb=>?_
  ·rcases hb with hb|hb
   ·have:=hb.1;omega
   ·have:=hb.1;omega
  ·rcases hb with hb|hb
   ·exact ⟨by have:=hb.1;omega,by have:=hb.2.1;omega⟩
   ·exact ⟨by have:=hb.1;omega,by have:=hb.2;omega⟩
 ·have:=hp6.aC k7 fun b hb e=>by omega
  push_cast
  exact this
theorem L8 {f:Nat}(hS:EL ω bW e (pu e) 3 f):EL ω cj e (qv e) 4 (f+1):=by
 intro h G ts n d o t hp ho ht hf X hX;have hlt:=hp.lt;refine nZ ω _ h _ X ?_;unfold gK;have hres0:=ah (h:=h) (o:=.cells #[(.int .i64 0),(.string ⟨#[]⟩),(.int .i64 0),(.slice none 0 0)] 36 (0,0));have k0:=ar.push (S:=fun _=>False) h (.cells #[(.int .i64 0),(.string ⟨#[]⟩),(.int .i64 0),(.slice none 0 0)] 36 (0,0));have z0:(h.push (.cells #[(.int .i64 0),(.string ⟨#[]⟩),(.int .i64 0),(.slice none 0 0)] 36 (0,0))).size=h.size+1:=by simp
 generalize h.push (.cells #[(.int .i64 0),(.string ⟨#[]⟩),(.int .i64 0),(.slice none 0 0)] 36 (0,0))=h0 at *;have hun:qv e (f+1) o t ts=aD (pu e f o t ts) fun r =>
   if isT [60] r.2.2 then aD (pu e f o r.2.1 r.2.2.tail) fun q=>.ok (bz 7 r.1 q.1,q.2.1+1,q.2.2)
   else if isT [61,61] r.2.2 then aD (pu e f o r.2.1 r.2.2.tail) fun q=>.ok (bz 8 r.1 q.1,q.2.1+1,q.2.2)
   else .ok r:=by
  conv=>lhs;unfold qv
 refine aa.mono (hS h0 G ts n d o t (hp.aC k0 fun _ _ h=>h) ho ht (by omega) X fun x h' hx kx=>hX x h' (by rw [hun,hx];rfl) (kx.after (fS k0))) ?_ (fun _ _ hx=>hx)
 rintro r h1 ⟨x,m,ts',hok,hr,hp1,k1⟩;obtain ⟨l1,l2⟩:=(HW e f).2.1 hok;simp only at l1 l2;refine mB.start hlt k0 z0 hres0 rfl rfl hr hp1 k1 (by omega) fun h2 w hs12 hsL I=>?_
 rw [hok,ay] at hun;refine aa.use (eA I.pa ⟨#[60]⟩) ?_;rintro _ _ ⟨rfl,rfl⟩;rw [asB_bool,show bytesOf ⟨#[60]⟩=[60] from rfl]
 refine ae (fun hc=>?_) (fun hc=>?_)
 ·obtain ⟨y0,r0,rfl⟩:=eV hc;simp only [Qn] at l1 l2;refine ET hS I hlt hsL hs12 ho (by omega) ?_ hX
  rw [hun];exact if_pos hc
 refine aa.use (eA I.pa ⟨#[61,61]⟩) ?_;rintro _ _ ⟨rfl,rfl⟩;rw [asB_bool,show bytesOf ⟨#[61,61]⟩=[61,61] from rfl]
 refine ae (fun hc2=>?_) (fun hc2=>?_)
 ·obtain ⟨y0,r0,rfl⟩:=eV hc2;simp only [Qn] at l1 l2;refine ET hS I hlt hsL hs12 ho (by omega) ?_ hX
  rw [hun];exact (if_neg (by rw [hc];exact Qe)).trans (if_pos hc2)
 ·refine I.ret hlt hsL (R:=fun r h'=>∃x m ts',qv e (f+1) o t ts=.ok (x,m,ts')∧ExR h h' r x∧PA h' G ts' e n d o m∧KG G h h') fun r h' hr hpa hk=>⟨x,m,ts',?_,hr,hpa,hk⟩;rw [hun];exact (if_neg (by rw [hc];exact Qe)).trans (if_neg (by rw [hc2];exact Qe))
theorem EL.zero {num:FuncId}{pf:Nat→Nat→Nat→List Tok→PR Ex}{c:Nat}(hc:0 < c):EL ω num e pf c 0:=by
 intro h G ts n d o t hp ho ht hf;omega
theorem Ft (ω : Amb) (e : Int) : ∀ f : Nat, (∀ g, g ≤ f → EL ω 176 e (cf e) 1 g) ∧ (∀ g, g ≤ f → EL ω cu e (eZ e) 2 g) ∧ (∀ g, g ≤ f → EL ω bW e (pu e) 3 g) ∧ (∀ g, g ≤ f → EL ω cj e (qv e) 4 g) := by
  intro f
  induction f with
  | zero => exact ⟨fun g hg => by obtain rfl : g = 0 := by omega
                                  exact EL.zero (by decide), fun g hg => by obtain rfl : g = 0 := by omega
                                                                            exact EL.zero (by decide), fun g hg => by obtain rfl : g = 0 := by omega
                                                                                                                      exact EL.zero (by decide), fun g hg => by obtain rfl : g = 0 := by omega
                                                                                                                                                                exact EL.zero (by decide)⟩
  | succ f ih =>
    obtain ⟨i1, i2, i3, i4⟩ := ih
    refine ⟨fun g hg => ?_, fun g hg => ?_, fun g hg => ?_, fun g hg => ?_⟩
    · rcases Nat.lt_or_ge f g with hh | hh
      · obtain rfl : g = f + 1 := by omega
        exact Jc (i4 f (Zd _)) (i1 f (Zd _))
      · exact i1 g hh
    · rcases Nat.lt_or_ge f g with hh | hh
      · obtain rfl : g = f + 1 := by omega
        exact Ib i1
      · exact i2 g hh
    · rcases Nat.lt_or_ge f g with hh | hh
      · obtain rfl : g = f + 1 := by omega
        exact LM i2
      · exact i3 g hh
    · rcases Nat.lt_or_ge f g with hh | hh
      · obtain rfl : g = f + 1 := by omega
        exact L8 (i3 f (Zd _))
      · exact i4 g hh
end
theorem eg (e:Int)(t:Tok)(r:List Tok):gQ e (t::r)=aD (qv e (4*(t::r).length+4) 0 0 (t::r)) fun q=>if 20 < q.2.1 then .error (8,t.at_) else .ok (q.1,q.2.2):=rfl
theorem gF {e:Int}{ts:List Tok}{q:Ex×List Tok}(h:gQ e ts=.ok q):q.2.length < ts.length:=by
 cases ts with
 |nil=>cases h
 |cons t r =>
  rw [eg] at h;obtain ⟨a,ha,h⟩:=ai h;obtain ⟨l1,l2⟩:=(HW e _).1 ha
  split at h
  ·cases h
  ·cases h;exact l1
theorem bH {e:Int}{s:List UInt8}{ts r:List Tok}(h:bl e s ts=.ok r):ts.length=r.length+1:=by
 unfold bl at h
 split at h
 ·rename_i hT;cases h;exact bZ hT
 ·cases h
theorem bV {e:Int}{ts:List Tok}{q:ByteArray×List Tok}(h:ee e ts=.ok q):ts.length=q.2.length+1:=by
 cases ts with
 |nil=>cases h
 |cons t r =>
  rw [pB] at h
  split at h
  ·cases h;rfl
  ·cases h
theorem x8 (e:Int)(acc:List UInt8):qD e acc []=.error (6,e):=by unfold qD;rfl
theorem gp (e:Int)(acc:List UInt8)(t:Tok)(r:List Tok):qD e acc (t::r)=if isT [105,110,116] (t::r) then .ok (acc++[105],r)
  else if isT [115,101,110,100] (t::r)||isT [114,101,99,118] (t::r) then (if acc.length=3 then .error (7,t.at_) else qD e (acc++(bytesOf t.text).take 1) r) else .error (5,t.at_):=by
 conv=>lhs;unfold qD
theorem tv {s:List UInt8}{t:Tok}{r:List Tok}(h:isT s (t::r)=true):bytesOf t.text=s:=by
 have:(t.kind !=2&&bytesOf t.text==s)=true:=h;rw [Qq] at this;exact Zg this.2
section
variable  {ω:Amb}{h:Hp}{G:Nat}{ts:List Tok}{e n d t:Int}
theorem Am (hp:PA h G ts e n d 0 t)(hl:ts.length≤20000)(X:XT)(hX:∀x h',gQ e ts=.error x→KX G h h'→X (gone x) h') :
  aa Tryz.prog ω fJ [pp G] h (fun r h'=>∃x ts',gQ e ts=.ok (x,ts')∧ExR h h' r x∧(∃t',PA h' G ts' e n d 0 t')∧KG G h h') X:=by
 have hlt:=hp.lt;refine nG ω _ h _ X ?_;unfold fk;simp only [nnK_ptr,asP_some];have hres0:=ah (h:=h) (o:=.cells #[(.int .i64 0),(.string ⟨#[]⟩),(.int .i64 0),(.slice none 0 0)] 36 (0,0));have k0:=ar.push (S:=fun _=>False) h (.cells #[(.int .i64 0),(.string ⟨#[]⟩),(.int .i64 0),(.slice none 0 0)] 36 (0,0));have z0:(h.push (.cells #[(.int .i64 0),(.string ⟨#[]⟩),(.int .i64 0),(.slice none 0 0)] 36 (0,0))).size=h.size+1:=by simp
 generalize h.push (.cells #[(.int .i64 0),(.string ⟨#[]⟩),(.int .i64 0),(.slice none 0 0)] 36 (0,0))=h0 at *;obtain ⟨vl,hg,htk⟩:=(hp.aC k0 fun _ _ h=>h).ex;refine aM (o:=5) hg (by simp [psr]) ?_
 rw [show (psr vl e n d 0 t).toArray.setIfInBounds 5 (.int .i64 0)=(psr vl e n d 0 0).toArray from by simp [psr]]
 have hg1:=aq (o:=.cells (psr vl e n d 0 0).toArray 71 (0,0)) hg;have k1:=ar.set (S:=fun b=>b=G) (h:=h0) (.cells (psr vl e n d 0 0).toArray 71 (0,0)) (b:=G) rfl;have z1:(h0.setIfInBounds G (.cells (psr vl e n d 0 0).toArray 71 (0,0))).size=h0.size:=by simp
 generalize h0.setIfInBounds G (.cells (psr vl e n d 0 0).toArray 71 (0,0))=h1 at *;have htk1:=htk.aC k1 fun b hb e=>by omega
 have hp1:PA h1 G ts e n d ((0:Nat):Int) ((0:Nat):Int):=⟨vl,hg1,htk1⟩;have k01:KG G h h1:=(fS k0).trans k1;have hres1:=k1.get hres0 (by omega)
 refine lx hg1 (j:=0) rfl ?_;refine htk1.len fun _ _=>?_;refine ⟨fun h'=>ts≠[]∧h1=h',?_,?_⟩
 ·refine ae (fun hc=>?_) (fun hc=>?_)
  ·have h0:ts=[]:=by
    have:=Zg hc;exact List.eq_nil_of_length_eq_zero (by omega)
   subst h0;refine aa.mono (du hp1 5 X ?_) (fun _ _ hf=>hf.elim) (fun _ _ hx=>hx);exact hX _ _ rfl ⟨k01,hp1.pb⟩
  ·exact ⟨fun hh=>by rw [hh] at hc;exact absurd hc (by decide),rfl⟩
 rintro _ _ ⟨hne,rfl⟩;cases ts with
 |nil=>exact absurd rfl hne
 |cons x0 r0 =>
  refine lx hg1 (j:=0) rfl ?_;refine htk1.rd0 (o:=1) rfl ?_;refine aa.mono ((Ft ω e _).2.2.2 (4*(x0::r0).length+4) (Zd _) h1 G (x0::r0) n d 0 0 hp1 (by omega) (by omega) (Zd _) X fun y h' hy ky=>hX y h' (by rw [eg,hy];rfl) (ky.after k01)) ?_ (fun _ _ hx=>hx)
  rintro _ h2 ⟨x,m,ts',hok,⟨w,rfl,hx⟩,hp2,k2⟩;have hs2:=k2.size;rw [asA_agg];refine ⟨rfl,dC hx.b8,aA (cs:=exC x w) rfl ?_⟩;have hb3:=ah (h:=h2) (o:=.cells (exC x w).toArray 36 (0,0));have k3:=ar.push (S:=fun _=>False) h2 (.cells (exC x w).toArray 36 (0,0));have z3:(h2.push (.cells (exC x w).toArray 36 (0,0))).size=h2.size+1:=by simp
  generalize h2.push (.cells (exC x w).toArray 36 (0,0))=h3 at *;have hp3:=hp2.aC k3 fun _ _ h=>h;have hres3:=k3.get (k2.get hres1 (by omega)) (by simp)
  have k03:KG G h h3:=(k01.trans k2).trans (fS k3);have hx3:=fU.mv hx k3 (N':=fun k=>h.size < k∧k < h3.size) (fun _ _ h=>h) fun b hb=>⟨by have:=hb.1;omega,by have:=hb.2;omega⟩
  obtain ⟨vl3,hg3,_⟩:=hp3.ex;refine lx hg3 (j:=5) rfl ?_;rw [asK_int];refine ⟨fun h'=>¬20 < m∧h3=h',?_,?_⟩
  ·refine ae (fun hc=>?_) (fun hc=>?_)
   ·have h20:20 < m:=by have:=Qj hc;omega
    rw [oneK_int];exact hX (8,x0.at_) h3 (by rw [eg,hok,ay];exact if_pos h20) ⟨k03,hp3.pb⟩
   ·exact ⟨by have:=Qc hc;omega,rfl⟩
  rintro _ _ ⟨h20,rfl⟩;refine ret4 (R:=fun r h'=>∃x ts',gQ e (x0::r0)=.ok (x,ts')∧ExR h h' r x∧(∃t',PA h' G ts' e n d 0 t')∧KG G h h') hb3 hres3 rfl rfl (dC hx3.b8) fun h' k=>⟨x,ts',by rw [eg,hok,ay];exact if_neg h20,⟨w,rfl,?_⟩,⟨m,hp3.aC k fun b hb e=>by omega⟩,jO k03 (Zd _) k⟩
  exact fU.mv hx3 k (fun b hb e=>by have:=hb.1;omega) fun b hb=>⟨by have:=hb.1;omega,by have:=k.size;have:=hb.2;omega⟩
theorem HI {o:Int}(hp:PA h G ts e n d o t)(X:XT)(hX:∀x h',qD e [] ts=.error x→KX G h h'→X (gone x) h') :
  aa Tryz.prog ω oX [pp G] h (fun r h'=>∃l ts',qD e [] ts=.ok (l,ts')∧r=.string (bs l)∧PA h' G ts' e n d o t∧KG G h h'∧ts'.length < ts.length∧l.length≤4) X:=by
 have hlt:=hp.lt;refine nU ω _ h _ X ?_;unfold gr;refine ⟨fun v h'=>∃acc ts',v=.string (bs acc)∧qD e [] ts=qD e acc ts'∧acc.length≤3∧PA h' G ts' e n d o t∧KG G h h'∧ts'.length≤ts.length,fun _=>tkN G,⟨[],ts,rfl,rfl,by simp,hp,ar.refl _ _,Zd _⟩,?_⟩
 rintro _ _ h1 ⟨acc,ts',rfl,heq,hacc,hp1,k1,hle⟩;refine aa.use (eA hp1 ⟨#[105,110,116]⟩) ?_;rintro _ _ ⟨rfl,rfl⟩;rw [asB_bool,show bytesOf ⟨#[105,110,116]⟩=[105,110,116] from rfl]
 refine ae (fun hc=>?_) (fun hc=>?_)
 rotate_left
 ·have hc:isT [105,110,116] ts'=true:=by simpa using hc
  obtain ⟨x0,r0,rfl⟩:=eV hc;simp only [Qn] at hle;refine aa.use (cz hp1) ?_;rintro _ h2 ⟨_,hp2,k2⟩;rw [asS_str];refine ⟨?_,acc++[105],r0,by rw [heq,gp,if_pos hc],?_,hp2,k1.trans k2,by omega,by simp;omega⟩
  ·rw [aK];show acc.length+1≤_;omega
  ·rw [show (⟨#[105]⟩:ByteArray)=bs [105] from rfl,br]
 have hc:isT [105,110,116] ts'=false:=by simpa using hc
 refine ⟨fun v h'=>v=.bool (!(isT [115,101,110,100] ts'||isT [114,101,99,118] ts'))∧h1=h',?_,?_⟩
 ·refine aa.use (eA hp1 ⟨#[115,101,110,100]⟩) ?_;rintro _ _ ⟨rfl,rfl⟩;rw [asB_bool,show bytesOf ⟨#[115,101,110,100]⟩=[115,101,110,100] from rfl]
  refine ae (fun hc=>?_) (fun hc=>?_)
  ·have hc:isT [115,101,110,100] ts'=false:=by simpa using hc
   refine aa.use (eA hp1 ⟨#[114,101,99,118]⟩) ?_;rintro _ _ ⟨rfl,rfl⟩;rw [asB_bool,show bytesOf ⟨#[114,101,99,118]⟩=[114,101,99,118] from rfl]
   exact ⟨by rw [hc,Za],rfl⟩
  ·have hc:isT [115,101,110,100] ts'=true:=by simpa using hc
   exact ⟨by rw [hc];rfl,rfl⟩
 rintro _ _ _ ⟨rfl,rfl⟩;refine ⟨fun h'=>(isT [115,101,110,100] ts'||isT [114,101,99,118] ts')=true∧h1=h',?_,?_⟩
 ·rw [asB_bool];refine ae (fun hc2=>?_) (fun hc2=>?_)
  ·have hc2:(isT [115,101,110,100] ts'||isT [114,101,99,118] ts')=false:=by simpa using hc2
   refine aa.mono (du hp1 5 X ?_) (fun _ _ hf=>hf.elim) (fun _ _ hx=>hx);refine hX _ h1 ?_ ⟨k1,hp1.pb⟩;rw [heq];cases ts' with
   |nil=>exact x8 _ _
   |cons x0 r0 =>
    rw [gp,hc,if_neg Qe,hc2,if_neg Qe];rfl
  ·rw [Bool.not_eq_false'] at hc2;exact ⟨hc2,rfl⟩
 rintro _ _ ⟨hc2,rfl⟩;obtain ⟨x0,r0,rfl⟩:∃y r,ts'=y::r:=by
  cases ts' with
  |nil=>cases hc2
  |cons y r=>exact ⟨y,r,rfl⟩
 rw [asS_str,aK];refine ⟨fun h'=>acc.length≠3∧h1=h',?_,?_⟩
 ·refine ae (fun h3=>?_) (fun h3=>?_)
  ·have h3:acc.length=3:=by have:=Zg h3;omega
   refine aa.mono (du hp1 7 X ?_) (fun _ _ hf=>hf.elim) (fun _ _ hx=>hx);refine hX _ h1 ?_ ⟨k1,hp1.pb⟩;rw [heq,gp,hc,if_neg Qe,hc2,if_pos rfl,if_pos h3];rfl
  ·exact ⟨fun hh=>by rw [hh] at h3;exact absurd h3 (by decide),rfl⟩
 rintro _ _ ⟨h3,rfl⟩;have htx:(bytesOf x0.text).length=4:=by
  rw [Bool.or_eq_true] at hc2;rcases hc2 with h|h
  ·rw [tv h];rfl
  ·rw [tv h];rfl
 have hsz:x0.text.size=4:=by rw [←aH,htx]
 refine aa.use (cz hp1) ?_;rintro _ h2 ⟨rfl,hp2,k2⟩;rw [asA_agg];show asO (some (Value.string x0.text)) _;have hext:x0.text.extract (Int.toNat ((0:Nat):Int)) (Int.toNat 1)=bs ((bytesOf x0.text).take 1):=by
  rw [show Int.toNat ((0:Nat):Int)=0 from rfl,show Int.toNat 1=0+1 from rfl,extract_eq,List.drop_zero]
  rfl
 have hl1:((bytesOf x0.text).take 1).length=1:=by rw [Qp,htx];rfl
 rw [asO_some,asS_str,asS_str,hext,aK,aK,hl1,br];simp only [Qn] at hle;refine ⟨by omega,by omega,by omega,by omega,⟨acc++(bytesOf x0.text).take 1,r0,rfl,?_,?_,hp2,k1.trans k2,by omega⟩,?_⟩
 ·rw [heq,gp,hc,if_neg Qe,hc2,if_pos rfl,if_neg h3]
 ·rw [Qd,hl1];omega
 ·show tkN G h2 < tkN G h1;rw [hp2.tkN,hp1.tkN];simp
end
def xE (e:Int)(ts:List Tok):Except (Int×Int) (List Ex×List Tok):=aD (bl e [40] ts) fun l=>dJ e (l.length+1) [] l
theorem NM {h:Hp}{L:Nat}{s:ByteArray}(hl:h[L]?=some (.cells (List.toArray [(.string s)]) 9 (0,0))):bm h 1 (.slice (some ⟨L,0,none⟩) 1 1) 1 [.string s] :=
 ⟨rfl,.inr ⟨L,0,1,rfl,fun j u hu=>by rw [Zc,bi hl];simpa using hu⟩⟩
theorem ex1 {h:Hp}{N:Nat→Prop}{L:Nat}{x:Ex}{w:Value}(hl:h[L]?=some (.cells (List.toArray ((exC x w).toArray.toList++[])) 36 (0,0)))(hx:fU h N w x.l)(hN:N L):fU h N (.slice (some ⟨L,0,none⟩) 1 1) [x]:=by
 refine ⟨exC x w,SlN.JG (by simpa using hl) rfl (by simp) hN,?_⟩
 unfold ch;exact ⟨oA.2 ⟨w,rfl,hx⟩,by unfold ch;rfl⟩
section
variable  {ω:Amb}{h:Hp}{G:Nat}{ts:List Tok}{e n d t:Int}
theorem gM {o:Int}(hp:PA h G ts e n d o t)(s:ByteArray)(X:XT)(hX:∀x h',bl e (bytesOf s) ts=.error x→KX G h h'→X (gone x) h') :
  aa Tryz.prog ω fK [pp G,.slice (some ⟨h.size,0,none⟩) 1 1] (h.push (.cells (List.toArray [(.string s)]) 9 (0,0))) (fun _ h'=>∃r,bl e (bytesOf s) ts=.ok r∧PA h' G r e n d o t∧KG G h h') X:=by
 have k0:=ar.push (S:=fun _=>False) h (.cells (List.toArray [(.string s)]) 9 (0,0));refine aa.mono (Cn (hp.aC k0 fun _ _ h=>h) s _ (NM ah) X fun x h' hx kx=>hX x h' hx (kx.after (fS k0))) ?_ (fun _ _ hx=>hx);rintro _ h' ⟨r,hr,hp',k⟩;exact ⟨r,hr,hp',(fS k0).trans k⟩
theorem Jn (hp:PA h G ts e n d 0 t)(hl:ts.length≤20000)(X:XT)(hX:∀x h',xE e ts=.error x→KX G h h'→X (gone x) h') :
  aa Tryz.prog ω mA [pp G] h (fun r h'=>∃l ts',xE e ts=.ok (l,ts')∧fU h' (Nw h h') r l∧(∃t',PA h' G ts' e n d 0 t')∧KG G h h') X:=by
 have hlt:=hp.lt;refine nd ω _ h _ X ?_;unfold fI;refine aa.mono (gM hp ⟨#[40]⟩ X fun x h' hx kx=>hX x h' (by unfold xE;rw [show bl e [40] ts=_ from hx];rfl) kx) ?_ (fun _ _ hx=>hx)
 rintro _ h1 ⟨l0,hw,hp1,k1⟩;have hw:bl e [40] ts=.ok l0:=hw;have hwl:=bH hw;have hun:xE e ts=dJ e (l0.length+1) [] l0:=by unfold xE;rw [hw];rfl
 refine ⟨fun out h'=>∃f acc us ts' t',xE e ts=dJ e f acc ts'∧ts'.length+1≤f∧ts'.length≤20000∧acc.length≤6∧bX h' h.size 36 4 out acc.length us∧ch h' (fun b=>Nw h h' b∧out.ownBlock≠some b) acc us∧PA h' G ts' e n d 0 t'∧KG G h h',fun _=>tkN G,
  ⟨l0.length+1,[],[],l0,t,hun,Zd _,by omega,by simp,bX.nil,DY,hp1,k1⟩,?_⟩
 rintro out _ h2 ⟨f,acc,us,ts',t2,heq,hf,hl2,hacc,ho,hat,hp2,k2⟩;obtain ⟨f,rfl⟩:∃q,f=q+1:=⟨f - 1,by omega⟩
 have hs2:=k2.size;refine aa.use (eA hp2 ⟨#[41]⟩) ?_;rintro _ _ ⟨rfl,rfl⟩;rw [asB_bool,show bytesOf ⟨#[41]⟩=[41] from rfl]
 refine ae (fun hc=>?_) (fun hc=>?_)
 rotate_left
 ·have hc:isT [41] ts'=true:=by simpa using hc
  obtain ⟨x0,r0,rfl⟩:=eV hc;refine aa.use (cz hp2) ?_;rintro _ h3 ⟨_,hp3,k3⟩;have hs3:=k3.size;have hlt2:=ho.lt;refine ⟨acc,r0,?_,⟨us,?_,?_⟩,⟨t2,hp3⟩,k2.trans k3⟩
  ·rw [heq];unfold dJ;rw [hc,if_pos rfl];rfl
  ·exact ((SlN.own ho (by omega)).aC k3 fun b hb e=>by omega).mono fun b hb=>⟨hb.1,by omega⟩
  ·exact kG (fun sz v n us hs=>(hs.aC k3 fun b hb e=>by have:=hb.1.1;omega).mono fun b hb=>⟨hb.1.1,by have:=hb.1.2;omega⟩) acc hat
 have hc:isT [41] ts'=false:=by simpa using hc
 have hstep:dJ e (f+1) acc ts'=aD (if acc.length=0 then .ok ts' else bl e [44] ts') fun l=>if acc.length=6 then .error (pt e 8 l) else aD (gQ e l) fun q=>dJ e f (acc++[q.1]) q.2:=by
  conv=>lhs;unfold dJ
  rw [hc,if_neg Qe]
 obtain ⟨a0,c0,hform⟩:∃a c,out=.slice a acc.length c:=by
  rcases ho.2 with ⟨rfl,h0⟩|⟨g,o,cap,cur,rfl,_⟩
  ·exact ⟨none,0,by rw [h0]⟩
  ·exact ⟨_,_,rfl⟩
 have hsl:∀{F:Option Addr→Nat→Nat→Prop},(∀a c,F a acc.length c)→bR out F:=fun hF=>by rw [hform,asSl_sl];exact hF _ _
 refine hsl fun _ _=>?_;refine ⟨fun h'=>∃l1,(if acc.length=0 then .ok ts' else bl e [44] ts')=(.ok l1:Except (Int×Int) (List Tok))∧PA h' G l1 e n d 0 t2∧KG G h2 h'∧l1.length≤ts'.length,?_,?_⟩
 ·refine ae (fun h0=>?_) (fun h0=>?_)
  ·have h0:¬acc.length=0:=by have:=Qj h0;omega
   refine aa.mono (gM hp2 ⟨#[44]⟩ X fun x h' hx kx=>hX x h' ?_ (kx.after k2)) ?_ (fun _ _ hx=>hx)
   ·have hx:bl e [44] ts'=.error x:=hx;rw [heq,hstep,if_neg h0,hx];rfl
   ·rintro _ h3 ⟨l1,hw1,hp3,k3⟩;have hw1:bl e [44] ts'=.ok l1:=hw1;have:=bH hw1;exact ⟨l1,by rw [if_neg h0,hw1],hp3,k3,by omega⟩
  ·have h0:acc.length=0:=by have:=Qc h0;omega
   exact ⟨ts',by rw [if_pos h0],hp2,ar.refl _ _,Zd _⟩
 rintro _ h3 ⟨l1,hl1,hp3,k3,hle1⟩;rw [hl1,ay] at hstep;have hs3:=k3.size;refine hsl fun _ _=>?_;refine ⟨fun h'=>acc.length≠6∧h3=h',?_,?_⟩
 ·refine ae (fun h6=>?_) (fun h6=>?_)
  ·have h6:acc.length=6:=by have:=Zg h6;omega
   refine aa.mono (du hp3 8 X ?_) (fun _ _ hf=>hf.elim) (fun _ _ hx=>hx);exact hX _ h3 (by rw [heq,hstep,if_pos h6]) ⟨k2.trans k3,hp3.pb⟩
  ·exact ⟨fun hh=>by rw [hh] at h6;exact absurd h6 (by decide),rfl⟩
 rintro _ _ ⟨h6,rfl⟩;rw [if_neg h6] at hstep;refine aa.mono (Am hp3 (by omega) X fun x h' hx kx=>hX x h' (by rw [heq,hstep,hx];rfl) (kx.after (k2.trans k3))) ?_ (fun _ _ hx=>hx)
 rintro _ h4 ⟨x,ts4,hok,⟨w,rfl,hx⟩,⟨t4,hp4⟩,k4⟩;have hs4:=k4.size;have hle4:=gF hok;simp only at hle4;rw [asA_agg];refine ⟨rfl,?_⟩;rw [show ((exC x w).toArray.toList++[])=exC x w from by simp]
 have k24:=k3.trans k4;have hlt2:=ho.lt;have ho4:bX h4 h.size 36 4 out acc.length us:=ho.aC fun b hb hbl=>k24.block b hbl fun e=>by have:=hlt2 b hb;omega
 refine dR (bt:=56) (cs:=exC x w) (by kernel_rfl) ho4 rfl (dC hx.b8) (by omega) (by omega) (by omega) fun w2 h9 ho2 hg _ hv=>?_
 have hg9:=hg.size;have k49:ar (fun b=>some b=out.ownBlock) h4 h9:=ar.grown hg fun b hb _=>hb.symm;have hun2:xE e ts=dJ e f (acc++[x]) ts4:=by rw [heq,hstep,hok];rfl
 have k29:ar (fun b=>b=G∨some b=out.ownBlock) h2 h9:=(k24.mono fun _ _ h=>.inl h).trans (k49.mono fun _ _ h=>.inr h);refine ⟨⟨f,acc++[x],us++exC x w,ts4,t4,hun2,by omega,by omega,by simp;omega,by rw [Qd];exact ho2,?_,hp4.aC k49 (fun b hb e=>by have:=hlt2 b e.symm;omega),?_⟩,?_⟩
 ·refine uU (kG (fun sz v n us hs=>(hs.aC k29 fun b hb e=>?_).mono fun b hb=>⟨⟨hb.1.1,by omega⟩,dS hv (by omega) hb.2⟩) _ hat) ho.1 ?_ rfl
  ·rcases e with e|e
   ·have:=hb.1.1;omega
   ·exact hb.2 e.symm
  refine oA.2 ⟨w,rfl,hx.map fun sz v n us hs=>?_⟩;refine (hs.aC k49 fun b hb e=>by have:=hlt2 b e.symm;omega).mono fun b hb=>⟨⟨by omega,by omega⟩,dS hv (by omega) fun e=>?_⟩
  have:=hlt2 b e;omega
 ·exact ((k2.trans k24).cS (k49.mono fun b hb e=>.inr (hlt2 b e.symm).1))
 ·show tkN G h9 < tkN G h2;rw [(hp4.aC k49 (fun b hb e=>by have:=hlt2 b e.symm;omega)).tkN,hp2.tkN]
  omega
end
def shC (d at_:Int)(s:Sh)(ve vb vl:Value):List Value:=[.int .i64 d,.int .i64 at_,.string s.a,.string s.b,.string s.t,.int .i64 s.n,ve,vb,vl]
abbrev KGB (G B:Nat)(h h':Hp):Prop:=ar (fun k=>k=G∨k=B) h h'
abbrev La (h:Hp)(B:Nat)(d at_:Int)(s:Sh)(ve:Value):Prop:=h[B]?=some (.cells (shC d at_ s ve (.slice none 0 0) (.slice none 0 0)).toArray 39 (0,0))
theorem cm {G B:Nat}{h h':Hp}(k:KG G h h'):KGB G B h h':=k.mono fun _ _ h=>.inl h
section
variable  {ω:Amb}{h:Hp}{G B:Nat}{d:Nat}{at_:Int}{s:Sh}{ve:Value}
theorem rr {j:Nat}{v:Value}{s':Sh}{ve':Value}(hb:La h B d at_ s ve)(hj:j < 9)(he:(shC d at_ s ve (.slice none 0 0) (.slice none 0 0)).set j v=shC d at_ s' ve' (.slice none 0 0) (.slice none 0 0)){K:Hp→Prop}(hk:∀h',La h' B d at_ s' ve'→ar (fun k=>k=B) h h'→K h') :
  aJ h (Addr.add ⟨B,0,none⟩ j) v K:=by
 rw [aP,Zc];refine aM (o:=j) hb (by simp [shC];omega) ?_
 have:(shC d at_ s ve (.slice none 0 0) (.slice none 0 0)).toArray.setIfInBounds j v=(shC d at_ s' ve' (.slice none 0 0) (.slice none 0 0)).toArray:=by rw [←he];simp
 rw [this];exact hk _ (aq hb) (ar.set (S:=fun k=>k=B) _ rfl)
theorem vm {F:Prop}{b:Nat}:nnK (.pointer (some ⟨b,0,none⟩)) F=F:=rfl
def ShR (h:Hp)(G B:Nat)(e n dd:Int)(d:Nat)(at_:Int)(pr:Except (Int×Int) (Sh×List Tok))(h':Hp):Prop:=∃s ts' ve,pr=.ok (s,ts')∧La h' B d at_ s ve∧fU h' (Nw h h') ve s.e∧(∃t',PA h' G ts' e n dd 0 t')∧KGB G B h h'
variable  {ts:List Tok}{e n dd t:Int}
theorem tF {h1:Hp}{ts1:List Tok}{t1:Int}(k1:KGB G B h h1)(hGB:G < B)(hB:B < h.size)(hb:La h1 B d at_ s (.slice none 0 0))(hp:PA h1 G ts1 e n dd 0 t1)(hl:ts1.length≤20000){pr:Except (Int×Int) (Sh×List Tok)}(hpr:pr=aD (gQ e ts1) fun q=>.ok ({ s with e:=[q.1] },q.2))
  (X:XT) (hX:∀x h',pr=.error x→KGB G B h h'→PB h' G→X (gone x) h') {J:Hp→Prop} (hJ:∀h',ShR h G B e n dd d at_ pr h'→J h') :
  aa Tryz.prog ω fJ [pp G] h1 (fun r29 h30=>asA r29 fun A31=>A31.size=4∧nnK (.pointer (some ⟨B,0,none⟩)) (asP (.pointer (some ⟨B,0,none⟩)) fun p32 =>
   aJ (h30.push (.cells (List.toArray (A31.toList++[])) 36 (0,0))) (Addr.add p32 6) (.slice (some ⟨h30.size,0,none⟩) 1 1) J)) X:=by
 refine aa.mono (Am hp hl X fun x h' hx kx=>hX x h' (by rw [hpr,hx];rfl) (k1.trans (cm kx.k)) kx.b) ?_ (fun _ _ hx=>hx)
 rintro _ h2 ⟨x,ts2,hok,⟨w,rfl,hx⟩,⟨t2,hp2⟩,k2⟩;have hs1:=k1.size;have hs2:=k2.size;rw [asA_agg];refine ⟨rfl,?_⟩;rw [vm,asP_some];have hl3:=ah (h:=h2) (o:=.cells (List.toArray ((exC x w).toArray.toList++[])) 36 (0,0));have k3:=ar.push (S:=fun _=>False) h2 (.cells (List.toArray ((exC x w).toArray.toList++[])) 36 (0,0));have z3:(h2.push (.cells (List.toArray ((exC x w).toArray.toList++[])) 36 (0,0))).size=h2.size+1:=by simp
 generalize h2.push (.cells (List.toArray ((exC x w).toArray.toList++[])) 36 (0,0))=h3 at *;have hb3:La h3 B d at_ s (.slice none 0 0):=k3.get (k2.get hb (by omega)) (by simp)
 refine rr (s':={ s with e:=[x] }) (ve':=.slice (some ⟨h2.size,0,none⟩) 1 1) hb3 (by decide) rfl fun h4 hb4 k4=>hJ h4 ⟨{ s with e:=[x] },ts2,_,by rw [hpr,hok];rfl,hb4,?_,⟨t2,(hp2.aC k3 fun _ _ h=>h).aC k4 fun b hb e=>by omega⟩,?_⟩
 ·have hx3:=fU.mv hx k3 (N':=fun k=>h.size≤k∧k < h3.size) (fun _ _ h=>h) fun b hb=>⟨by have:=hb.1;omega,by have:=hb.2;omega⟩
  exact fU.mv (ex1 hl3 hx3 ⟨by omega,by omega⟩) k4 (fun b hb e=>by have:=hb.1;omega) fun b hb=>⟨hb.1,by have:=k4.size;have:=hb.2;omega⟩
 ·exact ((k1.trans (cm k2)).trans (cm (fS k3))).trans (k4.mono fun _ _ h=>.inr h)
set_option maxHeartbeats 1000000 in
theorem Ho (hGB:G < B)(hb:La h B d at_ {} (.slice none 0 0))(hp:PA h G ts e n dd 0 t)(hl:ts.length≤20000)(X:XT)(hX:∀x h',cg e d ts=.error x→KGB G B h h'→PB h' G→X (gone x) h') :
  aa Tryz.prog ω ln [pp G,.pointer (some ⟨B,0,none⟩)] h (fun _ h'=>ShR h G B e n dd d at_ (cg e d ts) h') X:=by
 have hB:=gd hb;refine mg ω _ _ h _ X ?_;unfold eX;rw [vm,asP_some];refine lx hb (j:=0) rfl ?_;rw [asK_int];refine ae (fun h3=>?_) (fun h3=>?_)
 ·have h3:d=3:=by have:=Zg h3;omega
  refine tF (ar.refl _ _) hGB hB hb hp hl ?_ X hX fun h' hr=>hr;unfold cg;rw [if_pos h3]
 have h3:d≠3:=fun hh=>by rw [hh] at h3;exact absurd h3 (by decide)
 have hun:cg e d ts=aD (ee e ts) fun a =>
  if d=1∨d=2 then aD (bl e [61] a.2) fun l=>aD (gQ e l) fun q=>.ok ({ a:=a.1,e:=[q.1] },q.2)
  else if d=4 then aD (ee e a.2) fun b=>aD (qD e [] b.2) fun t=>aD (Ey e t.2) fun n=>.ok ({ a:=a.1,b:=b.1,t:=bs t.1,n:=n.1 },n.2)
  else if d=5 then aD (ee e a.2) fun b=>.ok ({ a:=a.1,b:=b.1 },b.2)
  else if d=6 then aD (gQ e a.2) fun q=>.ok ({ a:=a.1,e:=[q.1] },q.2)
  else if d=10 then aD (bl e [40] a.2) fun l=>aD (dJ e (l.length+1) [] l) fun q=>.ok ({ a:=a.1,e:=q.1 },q.2)
  else .ok ({ a:=a.1 },a.2):=by
  unfold cg;rw [if_neg h3]
 refine aa.mono (jM hp X fun x h' hx kx=>hX x h' (by rw [hun,hx];rfl) (cm kx.k) kx.b) ?_ (fun _ _ hx=>hx)
 rintro _ h1 ⟨a,ts1,hn,rfl,hp1,k1⟩;have hle1:=bV hn;simp only at hle1;have hs1:=k1.size;rw [hn,ay] at hun;simp only at hun;rw [vm,asP_some,oneK_str];refine rr (s':={ a:=a }) (ve':=.slice none 0 0) (k1.get hb (by omega)) (by decide) rfl fun h2 hb2 k2=>?_
 have hp2:=hp1.aC k2 fun b hb e=>by omega
 have k02:KGB G B h h2:=(cm k1).trans (k2.mono fun _ _ h=>.inr h);have hs2:=k2.size;rw [vm,asP_some];refine lx hb2 (j:=0) rfl ?_;refine ⟨fun h'=>ShR h G B e n dd d at_ (cg e d ts) h',?_,fun _ _ hj=>hj⟩;rw [asK_int];refine ⟨fun v h'=>v=.bool (decide (d=1∨d=2))∧h2=h',?_,?_⟩
 ·refine ae (fun hc=>?_) (fun hc=>?_)
  ·have h1:d=1:=by have:=Zg hc;omega
   exact ⟨by rw [hc,Z7 (.inl h1)],rfl⟩
  ·have h1:d≠1:=fun hh=>by rw [hh] at hc;exact absurd hc (by decide)
   rw [asK_int];refine ⟨?_,rfl⟩
   congr 1
   rw [Qz];simp [h1];omega
 rintro _ _ _ ⟨rfl,rfl⟩;refine ⟨fun h'=>ShR h G B e n dd d at_ (cg e d ts) h',?_,fun _ _ hj=>hj⟩;rw [asB_bool];refine ae (fun hc=>?_) (fun hc=>?_)
 ·have h12:=Qj hc;rw [if_pos h12] at hun;refine aa.mono (gM hp2 ⟨#[61]⟩ X fun x h' hx kx=>hX x h' (by rw [hun,show bl e [61] ts1=_ from hx];rfl) (k02.trans (cm kx.k)) kx.b) ?_ (fun _ _ hx=>hx)
  rintro _ h3 ⟨ts3,hw,hp3,k3⟩;have hw:bl e [61] ts1=.ok ts3:=hw;have hle3:=bH hw;rw [hw,ay] at hun;exact tF (k02.trans (cm k3)) hGB hB (k3.get hb2 (by omega)) hp3 (by omega) (s:={ a:=a }) hun X hX fun h' hr=>hr
 have h12:=Qc hc;rw [if_neg h12] at hun;rw [asK_int];refine ⟨fun h'=>ShR h G B e n dd d at_ (cg e d ts) h',?_,fun _ _ hj=>hj⟩;refine ae (fun hc=>?_) (fun hc=>?_)
 ·-- chan
  have h4:d=4:=by have:=Zg hc;omega
  rw [if_pos h4] at hun;refine aa.mono (jM hp2 X fun x h' hx kx=>hX x h' (by rw [hun,hx];rfl) (k02.trans (cm kx.k)) kx.b) ?_ (fun _ _ hx=>hx)
  rintro _ h3 ⟨b,ts3,hn3,rfl,hp3,k3⟩;rw [hn3,ay] at hun;simp only at hun;rw [vm,asP_some,oneK_str];refine rr (s':={ a:=a,b:=b }) (ve':=.slice none 0 0) (k3.get hb2 (by omega)) (by decide) rfl fun h4 hb4 k4=>?_
  have hp4:=hp3.aC k4 fun b hb e=>by omega
  have k04:KGB G B h h4:=(k02.trans (cm k3)).trans (k4.mono fun _ _ h=>.inr h);refine aa.mono (HI hp4 X fun x h' hx kx=>hX x h' (by rw [hun,hx];rfl) (k04.trans (cm kx.k)) kx.b) ?_ (fun _ _ hx=>hx)
  rintro _ h5 ⟨l5,ts5,hn5,rfl,hp5,k5,-,-⟩;rw [hn5,ay] at hun;simp only at hun;rw [vm,asP_some,oneK_str];refine rr (s':={ a:=a,b:=b,t:=bs l5 }) (ve':=.slice none 0 0) (k5.get hb4 (by omega)) (by decide) rfl fun h6 hb6 k6=>?_
  have hp6:=hp5.aC k6 fun b hb e=>by omega
  have k06:KGB G B h h6:=(k04.trans (cm k5)).trans (k6.mono fun _ _ h=>.inr h);rw [Fx] at hun;refine aa.mono (Ca hp6 3 X fun x h' hx kx=>hX x h' (by rw [hun,hx];rfl) (k06.trans (cm kx.k)) kx.b) ?_ (fun _ _ hx=>hx)
  rintro _ h7 ⟨x7,ts7,hn7,rfl,hp7,k7⟩;rw [hn7,ay,ay] at hun;simp only at hun;rw [asA_agg];show asO (some (Value.int .i64 x7.n)) _;rw [asO_some,vm,asP_some,oneK_int];refine rr (s':={ a:=a,b:=b,t:=bs l5,n:=x7.n }) (ve':=.slice none 0 0) (k7.get hb6 (by omega)) (by decide) rfl fun h8 hb8 k8=>?_
  exact ⟨_,ts7,_,hun,hb8,py,⟨t,hp7.aC k8 fun b hb e=>by omega⟩,(k06.trans (cm k7)).trans (k8.mono fun _ _ h=>.inr h)⟩
 have h4:d≠4:=fun hh=>by rw [hh] at hc;exact absurd hc (by decide)
 rw [if_neg h4] at hun;rw [asK_int];refine ⟨fun h'=>ShR h G B e n dd d at_ (cg e d ts) h',?_,fun _ _ hj=>hj⟩;refine ae (fun hc=>?_) (fun hc=>?_)
 ·have h5:d=5:=by have:=Zg hc;omega
  rw [if_pos h5] at hun;refine aa.mono (jM hp2 X fun x h' hx kx=>hX x h' (by rw [hun,hx];rfl) (k02.trans (cm kx.k)) kx.b) ?_ (fun _ _ hx=>hx)
  rintro _ h3 ⟨b,ts3,hn3,rfl,hp3,k3⟩;rw [hn3,ay] at hun;simp only at hun;rw [vm,asP_some,oneK_str];refine rr (s':={ a:=a,b:=b }) (ve':=.slice none 0 0) (k3.get hb2 (by omega)) (by decide) rfl fun h4 hb4 k4=>?_
  exact ⟨_,ts3,_,hun,hb4,py,⟨t,hp3.aC k4 fun b hb e=>by omega⟩,(k02.trans (cm k3)).trans (k4.mono fun _ _ h=>.inr h)⟩
 have h5:d≠5:=fun hh=>by rw [hh] at hc;exact absurd hc (by decide)
 rw [if_neg h5] at hun;rw [asK_int];refine ⟨fun h'=>ShR h G B e n dd d at_ (cg e d ts) h',?_,fun _ _ hj=>hj⟩;refine ae (fun hc=>?_) (fun hc=>?_)
 ·have h6:d=6:=by have:=Zg hc;omega
  rw [if_pos h6] at hun;exact tF k02 hGB hB hb2 hp2 (by omega) (s:={ a:=a }) hun X hX fun h' hr=>hr
 have h6:d≠6:=fun hh=>by rw [hh] at hc;exact absurd hc (by decide)
 rw [if_neg h6] at hun;rw [asK_int];refine ⟨fun h'=>ShR h G B e n dd d at_ (cg e d ts) h',?_,fun _ _ hj=>hj⟩;refine ae (fun hc=>?_) (fun hc=>?_)
 ·have h10:d=10:=by have:=Zg hc;omega
  rw [if_pos h10] at hun;have hun2:cg e d ts=aD (xE e ts1) fun q=>.ok ({ a:=a,e:=q.1 },q.2):=by
   rw [hun];unfold xE;cases bl e [40] ts1<;>rfl
  refine aa.mono (Jn hp2 (by omega) X fun x h' hx kx=>hX x h' (by rw [hun2,hx];rfl) (k02.trans (cm kx.k)) kx.b) ?_ (fun _ _ hx=>hx)
  rintro r h3 ⟨l3,ts3,hn3,hx3,⟨t3,hp3⟩,k3⟩;have hs3:=k3.size;rw [hn3,ay] at hun2;rw [vm,asP_some];refine cP hx3.b8.one ?_;refine rr (s':={ a:=a,e:=l3 }) (ve':=r) (k3.get hb2 (by omega)) (by decide) rfl fun h4 hb4 k4=>?_
  refine ⟨_,ts3,_,hun2,hb4,?_,⟨t3,hp3.aC k4 fun b hb e=>by omega⟩,(k02.trans (cm k3)).trans (k4.mono fun _ _ h=>.inr h)⟩
  exact fU.mv hx3 k4 (fun b hb e=>by have:=hb.1;omega) fun b hb=>⟨by have:=hb.1;omega,by have:=k4.size;have:=hb.2;omega⟩
 ·have h10:d≠10:=fun hh=>by rw [hh] at hc;exact absurd hc (by decide)
  rw [if_neg h10] at hun;exact ⟨_,ts1,_,hun,hb2,py,⟨t,hp2⟩,k02⟩
end
end Go.Proofs.YtkeeboomikkojaaGreatDoor
