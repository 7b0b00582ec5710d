import Derived.Test.YtkeeboomikkojaaGreatDoorWa
import Derived.Test.YtkeeboomikkojaaGreatDoorYk
import Derived.Test.YtkeeboomikkojaaGreatDoorRf2
import Derived.Test.YtkeeboomikkojaaGreatDoorExA
import Derived.Test.YtkeeboomikkojaaGreatDoorExB
import Derived.Test.YtkeeboomikkojaaGreatDoorRnRow
namespace Go.Proofs.YtkeeboomikkojaaGreatDoor
open Go Go.Sx Go.Sx.Tk Go.Sx.Rn Go.Proofs.YtkeeboomikkojaaGreatDoor.Sx
theorem uF {ab:List Sg}{x:St}{env bd:List Vr}{m:Int}(htw:fH bd x=false)(hf:(kuf ab env m x).1=0):kst ab x env bd m=ph (fW ab x.body ((aN x (kof ab env m x)).reverse++env) (bd++aN x (kof ab env m x)) (m+1)) fun b1 m1=>fW ab x.els (sW ab env m x++env) b1 m1:=by
 rw [sJ,htw,if_neg Bool.false_ne_true,if_neg (not_not_intro hf)]
section
variable  {ω:Amb}{T:TypeId}{h0:Hp}{C:Nat}{pv nv bv:Value}{a:Int}
end
theorem C3 {ab:List Sg}{nm:ByteArray}{at_:Int}(h:ab.find? (fun s=>decide (s.nm=nm))=none):vu ab nm at_=(0,0):=by
 unfold vu;rw [if_neg];intro ha;obtain ⟨q,hq,h1⟩:=List.any_eq_true.1 ha;exact List.find?_eq_none.1 h q hq h1
section
variable  {ω:Amb}
end
section
variable  {ω:Amb}
end
theorem Ad (ab:List Sg)(env:List Vr)(m:Int)(x:St)(f:Int×Int):gS ab env m (stZ false x) f=gS ab env m x f:=by
 cases x;rfl
theorem xo (x:St)(of:ByteArray):aN (stZ false x) of=aN x of:=by
 cases x;rfl
theorem Dw (bd:List Vr)(x:St):fH bd (stZ false x)=fH bd x:=by
 cases x;rfl
theorem qe (x:St):(stZ false x).body=np false x.body∧(stZ false x).els=np false x.els∧(stZ false x).d=x.d:=by
 cases x;exact ⟨rfl,rfl,rfl⟩
mutual
theorem II (ab:List Sg):∀(x:St) (env bd:List Vr) (m:Int),kst ab (stZ false x) env bd m=kst ab x env bd m
 |.mk d at_ a b t n e body els,env,bd,m=>by
  have h1:=fun (env bd:List Vr) (m:Int)=>uw ab body env bd m;have h2:=fun (env bd:List Vr) (m:Int)=>uw ab els env bd m;rw [sJ,sJ];unfold sW kof kuf;rw [Ad,xo,Dw,(qe _).1,(qe _).2.1,(qe _).2.2];simp only [St.body,St.els,h1,h2]
theorem uw (ab:List Sg):∀(l:List St) (env bd:List Vr) (m:Int),fW ab (np false l) env bd m=fW ab l env bd m
 |[],_,_,_=>by
  unfold np;rfl
 |x::r,env,bd,m=>by
  have h2:=fun (env bd:List Vr) (m:Int)=>uw ab r env bd m;unfold np;rw [fC,fC,II ab x];unfold sW kof;rw [Ad,xo,(qe _).2.2];simp only [h2]
end
def Hd (p q:List Sg):Prop:=p.map (fun s=>(s.nm,s.ps))=q.map fun s=>(s.nm,s.ps)
theorem Hd.find {p q:List Sg}(h:Hd p q)(nm:ByteArray):(p.find? fun g=>decide (g.nm=nm)).map (·.ps)=(q.find? fun g=>decide (g.nm=nm)).map (·.ps):=by
 induction p generalizing q with
 |nil =>
  cases q with
  |nil=>rfl
  |cons b r=>cases h
 |cons a p ih =>
  cases q with
  |nil=>cases h
  |cons b q =>
   have h:(a.nm,a.ps)::p.map (fun s=>(s.nm,s.ps))=(b.nm,b.ps)::q.map (fun s=>(s.nm,s.ps)):=h;obtain ⟨h1,h2⟩:=List.cons.inj h;obtain ⟨h3,h4⟩:=Prod.mk.inj h1;rw [List.find?_cons,List.find?_cons,h3];cases decide (b.nm=nm) with
   |true=>exact congrArg some h4
   |false=>exact ih h2
theorem Hd.take {p q:List Sg}(h:Hd p q)(k:Nat):Hd (p.take k) (q.take k):=by
 unfold Hd at h ⊢;rw [List.map_take,List.map_take,h]
theorem Cg {ab ab':List Sg}(h:Hd ab ab')(env:List Vr)(m:Int)(x:St)(f:Int×Int):oV ab env m x f=oV ab' env m x f:=by
 have hf:=h.find x.a;unfold oV;cases h1:ab.find? fun g=>decide (g.nm=x.a) with
 |none =>
  rw [h1] at hf;cases h2:ab'.find? fun g=>decide (g.nm=x.a) with
  |none=>rfl
  |some g=>rw [h2] at hf;cases hf
 |some g =>
  rw [h1] at hf;cases h2:ab'.find? fun g=>decide (g.nm=x.a) with
  |none=>rw [h2] at hf;cases hf
  |some g' =>
   rw [h2] at hf;have hf:g.ps=g'.ps:=Option.some.inj hf;show (if g.ps.length≠x.e.length then _ else oE env m (x.e.zip g.ps) f)=if g'.ps.length≠x.e.length then _ else oE env m (x.e.zip g'.ps) f
   rw [hf]
theorem zo {ab ab':List Sg}(h:Hd ab ab')(env:List Vr)(m:Int)(x:St)(f:Int×Int):gS ab env m x f=gS ab' env m x f:=by
 unfold gS pW;rw [Cg h]
mutual
theorem HR {ab ab':List Sg}(h:Hd ab ab'):∀(x:St) (env bd:List Vr) (m:Int),kst ab x env bd m=kst ab' x env bd m
 |.mk d at_ a b t n e body els,env,bd,m=>by
  have h1:=fun (env bd:List Vr) (m:Int)=>uL h body env bd m;have h2:=fun (env bd:List Vr) (m:Int)=>uL h els env bd m;rw [sJ,sJ];unfold sW kof kuf;rw [zo h];simp only [St.body,St.els,h1,h2]
theorem uL {ab ab':List Sg}(h:Hd ab ab'):∀(l:List St) (env bd:List Vr) (m:Int),fW ab l env bd m=fW ab' l env bd m
 |[],_,_,_=>by
  unfold fW;rfl
 |x::r,env,bd,m=>by
  have h2:=fun (env bd:List Vr) (m:Int)=>uL h r env bd m;rw [fC,fC,HR h x];unfold sW kof;rw [zo h];simp only [h2]
end
theorem GU {ab ab':List Sg}(h:Hd ab ab')(nm:ByteArray)(m:Int):vu ab nm m=vu ab' nm m:=by
 have hf:=h.find nm;have hh:∀ab:List Sg,(ab.any fun g=>decide (g.nm=nm))=((ab.find? fun g=>decide (g.nm=nm)).map (·.ps)).isSome:=fun ab=>by
  rw [Option.isSome_map,Bool.eq_iff_iff,List.any_eq_true,List.find?_isSome]
 unfold vu;rw [hh ab,hh ab',hf]
theorem w7 {ab ab':List Sg}(h:Hd ab ab')(g:Sg)(at_ n:Int):cg ab g at_ n=cg ab' g at_ n:=by
 unfold cg;rw [GU h,uL h]
theorem Dt (ab:List Sg)(g:Sg)(at_ n:Int):cg ab (sgZ false g) at_ n=cg ab g at_ n:=by
 show (if (kpP at_ g.ps (vu ab g.nm at_)).2.1≠0 then _ else ph (fW ab (np false g.body) g.ps.reverse g.ps n) _)=_
 rw [uw];rfl
theorem GH (p:List Sg):Hd (rT false p) p:=by
 unfold Hd rT;rw [List.map_map];rfl
theorem yS (p:List Sg):∀(l:List Sg) (i:Nat) (out:List (List Vr)) (n:Int) (b:Bool),tq (rT false p) (rT false l) i out n b=tq p l i out n b
 |[],_,_,_,_=>rfl
 |g::r,i,out,n,b=>by
  show tq (rT false p) (sgZ false g::rT false r) i out n b=_;rw [fG,fG,Dt,w7 ((GH p).take i),show rl (sgZ false g)=rl g from rfl]
  cases cg (p.take i) g (-2 - i) n with
  |error e=>rfl
  |ok q=>exact yS p r _ _ _ _
def kbB:List Sg:=[⟨⟨#[109,97,105,110]⟩,0,[(⟨#[105,110]⟩,⟨#[114,105]⟩)],[.mk 11 0 ⟨#[120]⟩ ⟨#[105,110]⟩ ⟨#[]⟩ 0 [] [] [],.mk 3 0 ⟨#[]⟩ ⟨#[]⟩ ⟨#[]⟩ 0 [.mk 2 ⟨#[120]⟩ 0 []] [] []]⟩]
def kbT:List UInt8:=[115,116,97,103,101,32,109,97,105,110,40,105,110,32,114,101,99,118,32,105,110,116,41,32,123,32,116,97,107,101,32,120,32,102,114,111,109,32,105,110,32,123,32,125,32,101,109,105,116,32,120,59,32,125]
abbrev kbS:ByteArray:=⟨#[115,116,97,103,101,32,109,97,105,110,40,105,110,32,114,101,99,118,32,105,110,116,41,32,123,32,116,97,107,101,32,120,32,102,114,111,109,32,105,110,32,123,32,125,32,101,109,105,116,32,120,59,32,125]⟩
theorem kbF:aV kbB=.ok 2:=by kernel_rfl
theorem kbK:pgK kbB=[kW pi,kN ⟨#[109,97,105,110]⟩,kS [40],kN ⟨#[105,110]⟩,kW tX,kW yy,kS [41],kS [123],kW pE,kN ⟨#[120]⟩,kW mX,kN ⟨#[105,110]⟩,kS [123],kS [125],kW pC,kN ⟨#[120]⟩,kS [59],kS [125]]:=by kernel_rfl
theorem kbSK:SK kbT (pgK kbB):=by
 rw [kbK];rw [show kbT=(pi++32::(bytesOf ⟨#[109,97,105,110]⟩++(40::(bytesOf ⟨#[105,110]⟩++32::(tX++32::(yy++(41::32::123::32::(pE++32::(bytesOf ⟨#[120]⟩++32::(mX++32::(bytesOf ⟨#[105,110]⟩++32::(123::32::125::32::(pC++32::(bytesOf ⟨#[120]⟩++(59::32::125::[]))))))))))))))) from by kernel_rfl]
 refine cw (by decide) ?_
 refine Ek (by decide) (show ld 40=false by decide) (sO (by decide) ?_)
 refine kQ (by decide) (cw (by decide) ?_)
 refine I9 (by decide) (by decide) ⟨105,[110,116],rfl,by decide⟩ (show ld 41=false by decide) (sO (by decide) (gA (sO (by decide) (gA ?_))))
 refine cw (by decide) (kQ (by decide) (cw (by decide) (kQ (by decide) ?_)))
 refine sO (by decide) (gA (sO (by decide) (gA ?_)))
 refine cw (by decide) (Ek (by decide) (show ld 59=false by decide) (sO (by decide) (gA (sO (by decide) Gc))))
theorem EK:∃p',PsO kbS (.ok p')∧rT false p'=rT false kbB:=by
 obtain ⟨ts,h1,h2⟩:=kbSK 0;obtain ⟨p',h3,h4⟩:=Eb (e:=(kbS.size:Int)) kbF h2;refine ⟨p',⟨ts,0,0,.inr (.inl ⟨by decide,h1,rfl,rfl⟩),?_⟩,h4⟩
 rw [if_pos rfl,h3]
theorem EB:tq kbB kbB 0 [] 0 false=.error (10,1):=by kernel_rfl
theorem HX:¬12000 < (pgT kbB).length:=by
 have:(pgT kbB).length < 200:=by decide
 omega
theorem GO {p':List Sg}(hn:∃n,aV p'=.ok n)(h:rT false p'=rT false kbB):dk p'=.error (10,1):=by
 obtain ⟨n,hn⟩:=hn;have hr:bH p'=(0,0):=by
  rw [Bv hn,←Ia p',h,Ia,if_neg HX]
 unfold dk;rw [hr,if_neg (by decide),←yS,h,yS]
 exact EB
section
variable  {ω:Amb}
set_option maxRecDepth 100000 in
theorem AL (hω:ω.low=0)(h:Hp)(ht:ee h)(X:XT):aa Tryz.prog ω 8 [] h (fun r h'=>r=.bool true∧KF h h') X:=by
 obtain ⟨p',hps,hz⟩:=EK;obtain ⟨hsm,hn⟩:=Ic hps;have hv:=GO hn hz;refine iu ω h _ X ?_;unfold cM;refine aa.use (AD _ h) ?_;rintro _ h1 ⟨res,hps',hres,k1⟩;obtain rfl:=hps'.same hps;obtain ⟨w,rfl,hs,hcap⟩:=hres;rw [asT_tup,show (#[.agg #[w],.agg (flt 0 0).toArray]:Array Value)[0]?=some (.agg #[w]) from rfl,asO_some,asT_tup,show (#[.agg #[w],.agg (flt 0 0).toArray]:Array Value)[1]?=some (.agg (flt 0 0).toArray) from rfl,asO_some,asA_agg]
 have zA:(h1.push (.cells #[(.slice none 0 0)] 24 (0,0))).size=h1.size+1:=by simp
 have hA0:(Array.push (h1.push (.cells #[(.slice none 0 0)] 24 (0,0))) (.cells #[(.int .i64 0),(.int .i64 0)] 28 (0,0)))[h1.size]?=some (.cells [.slice none 0 0].toArray 24 (0,0)) :=
  (ar.push (S:=fun _=>False) _ _).get af (by simp)
 have hB0:(Array.push (h1.push (.cells #[(.slice none 0 0)] 24 (0,0))) (.cells #[(.int .i64 0),(.int .i64 0)] 28 (0,0)))[h1.size+1]?=some (.cells (flt 0 0).toArray 28 (0,0)):=by
  rw [←zA];exact af
 have k2:KF h1 (Array.push (h1.push (.cells #[(.slice none 0 0)] 24 (0,0))) (.cells #[(.int .i64 0),(.int .i64 0)] 28 (0,0))):=(ar.push _ _).trans (ar.push _ _);simp only [zA];generalize Array.push (h1.push (.cells #[(.slice none 0 0)] 24 (0,0))) (.cells #[(.int .i64 0),(.int .i64 0)] 28 (0,0))=h2 at *;refine ⟨rfl,(fun u hu=>by rw [List.mem_singleton.1 (show u∈[w] from hu)];exact (SgS.bp hs).one),?_⟩
 show au h2 ⟨h1.size,0,none⟩ [w] _;refine aM (o:=0) hA0 (by simp) ?_
 rw [bu (by simp)]
 have hA3:=aq (o:=.cells [w].toArray 24 (0,0)) hA0;have k3:=ar.set (S:=fun b=>b=h1.size) (h:=h2) (.cells [w].toArray 24 (0,0)) (b:=h1.size) rfl;generalize h2.setIfInBounds h1.size (.cells [w].toArray 24 (0,0))=h3 at *;have hB3:=k3.get hB0 (by omega)
 rw [asA_agg];refine ⟨rfl,aW 0 0,?_⟩;show au h3 ⟨h1.size+1,0,none⟩ (flt 0 0) _;refine aM (o:=0) hB3 (by simp [flt]) ?_
 rw [bu (by simp [flt])]
 have hB4:=aq (o:=.cells (flt 0 0).toArray 28 (0,0)) hB3;have k4:=ar.set (S:=fun b=>b=h1.size+1) (h:=h3) (.cells (flt 0 0).toArray 28 (0,0)) (b:=h1.size+1) rfl;generalize h3.setIfInBounds (h1.size+1) (.cells (flt 0 0).toArray 28 (0,0))=h4 at *;have hA4:=k4.get hA3 (by omega)
 have k14:KF h1 h4:=(k2.cf (k3.mono fun b _ hb=>.inr (by omega))).cf (k4.mono fun b _ hb=>.inr (by omega))
 have hs4:=hs.az k14;refine ⟨fun t h'=>t=.bool true∧KF h h',?_,fun t _ h' ht=>ht⟩;refine lx hB4 (j:=0) (u:=.int .i64 0) rfl ?_;rw [asK_int];refine bR rfl ?_;refine ⟨_,ak hA4 rfl,?_⟩;refine aa.use (nP hω p' hsm w hcap h4 hs4 (ht.more (k1.trans k14))) ?_;rintro _ h5 ⟨k5,rfl⟩;rw [hv];exact ⟨rfl,(k1.trans k14).trans k5⟩
theorem Eg {h h':Hp}{w:Value}{us:List Value}{p:List Sg}{N:Nat→Prop}(ho:bW h' h.size 41 4 w p.length us)(hat:b8 h' N p us)(hl:p.length≤1000000):SgS h' w p :=
 ⟨us,⟨ho.yc,by omega⟩,hat.at⟩
end
section
variable  {ω:Amb}
end
set_option maxRecDepth 100000 in
theorem EG {H:Type}{enc:TypeId×Value→H}{w:World}{base:Nat}{spare:Nat→Bool}{held:Bool}{fuel:Nat}{cs:List Value}{x:DataW H×List MemPlace}(h:DataW.trod enc Tryz.prog w base spare held fuel 24 cs=some x):∃v p,cs=[v]∧SgS w.heap v p∧x8 v:=by
 obtain ⟨v,p,hcs,hs⟩:=Hu h;refine ⟨v,p,hcs,hs,?_⟩;obtain ⟨_,_,_,h0⟩:=aY Tryz.underlying24 h (i:=0) rfl;rcases DataW.trod_slice Tryz.underlying22 h0 with ⟨e0,_⟩|⟨a,len,cap,_,_,_,_,e0,_,_,hl,_⟩
 ·have e1:=iq (o:=0) e0;rw [hcs] at e1;have e1:v=.slice none 0 0:=Option.some.inj e1;intro a n c hv;rw [e1] at hv;cases hv;exact Nat.le_refl _
 ·have e1:=iq (o:=0) e0;rw [hcs] at e1;have e1:v=.slice (some a) len cap:=Option.some.inj e1;intro a n c hv;rw [e1] at hv;cases hv;exact hl
end Go.Proofs.YtkeeboomikkojaaGreatDoor
