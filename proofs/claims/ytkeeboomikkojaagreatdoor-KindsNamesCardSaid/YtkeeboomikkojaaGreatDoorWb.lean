import Derived.Test.YtkeeboomikkojaaGreatDoorWa
import Derived.Test.YtkeeboomikkojaaGreatDoorYk
import Derived.Test.YtkeeboomikkojaaGreatDoorRf2
import Derived.Test.YtkeeboomikkojaaGreatDoorExA
import Derived.Test.YtkeeboomikkojaaGreatDoorExB
import Derived.Test.YtkeeboomikkojaaGreatDoorRnRow
set_option maxRecDepth 100000
namespace Go.Proofs.YtkeeboomikkojaaGreatDoor
open Go Go.Sx Go.Sx.Tk Go.Sx.Rn Go.Proofs.YtkeeboomikkojaaGreatDoor.Sx
theorem xM {ab:List Sg}{x:St}{env bd:List Vr}{m:Int}(htw:gL bd x=false)(hf:(kuf ab env m x).1=0):kst ab x env bd m=vc (gX ab x.body ((bc x (kof ab env m x)).reverse++env) (bd++bc x (kof ab env m x)) (m+1)) fun b1 m1=>gX ab x.els (tt ab env m x++env) b1 m1:=by
 rw [qQ,htw,if_neg Qe,if_neg (Z9 hf)]
section
variable  {ω:Amb}{T:TypeId}{h0:Hp}{C:Nat}{pv nv bv:Value}{a:Int}
end
theorem FJ {f:Int×Int}(hf:f.1≠0)(bd:List Vr)(v:Vr)(at_:Int):cJ bd v at_ f=f:=by
 unfold cJ;rw [sO hf]
 split<;>rfl
theorem FG (at_:Int):∀(r:List Vr) (q:List Vr×(Int×Int)),q.2.1≠0→(r.foldl (fun q v=>(q.1++[v],cJ q.1 v at_ q.2)) q).2=q.2
 |[],_,_=>rfl
 |v::r,q,h=>by
  rw [List.foldl_cons];have e:cJ q.1 v at_ q.2=q.2:=FJ h _ _ _;exact (FG at_ r (q.1++[v],cJ q.1 v at_ q.2) (by show (cJ q.1 v at_ q.2).1≠0;rw [e];exact h)).trans e
theorem Iw {at_:Int}{l:List Vr}{f:Int×Int}{k:Nat}(h:(kpP at_ (l.take k) f).2.1≠0):(kpP at_ l f).2=(kpP at_ (l.take k) f).2:=by
 have e:l=l.take k++l.drop k:=(Q8 k l).symm
 conv=>lhs;rw [e]
 unfold kpP;rw [List.foldl_append];exact FG at_ _ _ h
section
variable  {ω:Amb}
end
section
variable  {ω:Amb}
end
theorem Dt (ab:List Sg)(env:List Vr)(m:Int)(x:St)(f:Int×Int):gE ab env m (stZ false x) f=gE ab env m x f:=by
 cases x;rfl
theorem Ao (x:St)(of:ByteArray):bc (stZ false x) of=bc x of:=by
 cases x;rfl
theorem EK (bd:List Vr)(x:St):gL bd (stZ false x)=gL bd x:=by
 cases x;rfl
theorem qU (x:St):(stZ false x).body=pd false x.body∧(stZ false x).els=pd false x.els∧(stZ false x).d=x.d:=by
 cases x;exact ⟨rfl,rfl,rfl⟩
mutual
theorem M8 (ab:List Sg):∀(x:St) (env bd:List Vr) (m:Int),kst ab (stZ false x) env bd m=kst ab x env bd m
 |.mk d at_ a b t n e body els,env,bd,m=>by
  have h1:=fun (env bd:List Vr) (m:Int)=>yc ab body env bd m;have h2:=fun (env bd:List Vr) (m:Int)=>yc ab els env bd m;rw [qQ,qQ];unfold tt kof kuf;rw [Dt,Ao,EK,(qU _).1,(qU _).2.1,(qU _).2.2];simp only [St.body,St.els,h1,h2]
theorem yc (ab:List Sg):∀(l:List St) (env bd:List Vr) (m:Int),gX ab (pd false l) env bd m=gX ab l env bd m
 |[],_,_,_=>by
  unfold pd;rfl
 |x::r,env,bd,m=>by
  have h2:=fun (env bd:List Vr) (m:Int)=>yc ab r env bd m;unfold pd;rw [dK,dK,M8 ab x];unfold tt kof;rw [Dt,Ao,(qU _).2.2];simp only [h2]
end
def Hd (p q:List Sg):Prop:=p.map (fun s=>(s.nm,s.ps))=q.map fun s=>(s.nm,s.ps)
theorem Hd.find {p q:List Sg}(h:Hd p q)(nm:ByteArray):(p.find? fun g=>decide (g.nm=nm)).map (·.ps)=(q.find? fun g=>decide (g.nm=nm)).map (·.ps):=by
 induction p generalizing q with
 |nil =>
  cases q with
  |nil=>rfl
  |cons b r=>cases h
 |cons a p ih =>
  cases q with
  |nil=>cases h
  |cons b q =>
   have h:(a.nm,a.ps)::p.map (fun s=>(s.nm,s.ps))=(b.nm,b.ps)::q.map (fun s=>(s.nm,s.ps)):=h;obtain ⟨h1,h2⟩:=List.cons.inj h;obtain ⟨h3,h4⟩:=Prod.mk.inj h1;rw [List.find?_cons,List.find?_cons,h3];cases decide (b.nm=nm) with
   |true=>exact congrArg some h4
   |false=>exact ih h2
theorem Hd.take {p q:List Sg}(h:Hd p q)(k:Nat):Hd (p.take k) (q.take k):=by
 unfold Hd at h ⊢;rw [List.map_take,List.map_take,h]
theorem FL {ab ab':List Sg}(h:Hd ab ab')(env:List Vr)(m:Int)(x:St)(f:Int×Int):kV ab env m x f=kV ab' env m x f:=by
 have hf:=h.find x.a;unfold kV;cases h1:ab.find? fun g=>decide (g.nm=x.a) with
 |none =>
  rw [h1] at hf;cases h2:ab'.find? fun g=>decide (g.nm=x.a) with
  |none=>rfl
  |some g=>rw [h2] at hf;cases hf
 |some g =>
  rw [h1] at hf;cases h2:ab'.find? fun g=>decide (g.nm=x.a) with
  |none=>rw [h2] at hf;cases hf
  |some g' =>
   rw [h2] at hf;have hf:g.ps=g'.ps:=Z2 hf;show (if g.ps.length≠x.e.length then _ else jm env m (x.e.zip g.ps) f)=if g'.ps.length≠x.e.length then _ else jm env m (x.e.zip g'.ps) f
   rw [hf]
theorem Cm {ab ab':List Sg}(h:Hd ab ab')(env:List Vr)(m:Int)(x:St)(f:Int×Int):gE ab env m x f=gE ab' env m x f:=by
 unfold gE qB;rw [FL h]
mutual
theorem OG {ab ab':List Sg}(h:Hd ab ab'):∀(x:St) (env bd:List Vr) (m:Int),kst ab x env bd m=kst ab' x env bd m
 |.mk d at_ a b t n e body els,env,bd,m=>by
  have h1:=fun (env bd:List Vr) (m:Int)=>xv h body env bd m;have h2:=fun (env bd:List Vr) (m:Int)=>xv h els env bd m;rw [qQ,qQ];unfold tt kof kuf;rw [Cm h];simp only [St.body,St.els,h1,h2]
theorem xv {ab ab':List Sg}(h:Hd ab ab'):∀(l:List St) (env bd:List Vr) (m:Int),gX ab l env bd m=gX ab' l env bd m
 |[],_,_,_=>by
  unfold gX;rfl
 |x::r,env,bd,m=>by
  have h2:=fun (env bd:List Vr) (m:Int)=>xv h r env bd m;rw [dK,dK,OG h x];unfold tt kof;rw [Cm h];simp only [h2]
end
theorem LU {ab ab':List Sg}(h:Hd ab ab')(nm:ByteArray)(m:Int):tu ab nm m=tu ab' nm m:=by
 have hf:=h.find nm;have hh:∀ab:List Sg,(ab.any fun g=>decide (g.nm=nm))=((ab.find? fun g=>decide (g.nm=nm)).map (·.ps)).isSome:=fun ab=>by
  rw [Option.isSome_map,Qz,List.any_eq_true,List.find?_isSome]
 unfold tu;rw [hh ab,hh ab',hf]
theorem GU {ab ab':List Sg}(h:Hd ab ab')(g:Sg)(at_ n:Int):cd ab g at_ n=cd ab' g at_ n:=by
 unfold cd;rw [LU h,xv h]
theorem Fl (ab:List Sg)(g:Sg)(at_ n:Int):cd ab (sgZ false g) at_ n=cd ab g at_ n:=by
 show (if (kpP at_ g.ps (tu ab g.nm at_)).2.1≠0 then _ else vc (gX ab (pd false g.body) g.ps.reverse g.ps n) _)=_
 rw [yc];rfl
theorem LH (p:List Sg):Hd (uk false p) p:=by
 unfold Hd uk;rw [List.map_map];rfl
theorem BK (p:List Sg):∀(l:List Sg) (i:Nat) (out:List (List Vr)) (n:Int) (b:Bool),sI (uk false p) (uk false l) i out n b=sI p l i out n b
 |[],_,_,_,_=>rfl
 |g::r,i,out,n,b=>by
  show sI (uk false p) (sgZ false g::uk false r) i out n b=_;rw [eE,eE,Fl,GU ((LH p).take i),show nO (sgZ false g)=nO g from rfl]
  cases cd (p.take i) g (-2 - i) n with
  |error e=>rfl
  |ok q=>exact BK p r _ _ _ _
def kbB:List Sg:=[⟨⟨#[109,97,105,110]⟩,0,[(⟨#[105,110]⟩,⟨#[114,105]⟩)],[.mk 11 0 ⟨#[120]⟩ ⟨#[105,110]⟩ ⟨#[]⟩ 0 [] [] [],.mk 3 0 ⟨#[]⟩ ⟨#[]⟩ ⟨#[]⟩ 0 [.mk 2 ⟨#[120]⟩ 0 []] [] []]⟩]
def kbT:List UInt8:=[115,116,97,103,101,32,109,97,105,110,40,105,110,32,114,101,99,118,32,105,110,116,41,32,123,32,116,97,107,101,32,120,32,102,114,111,109,32,105,110,32,123,32,125,32,101,109,105,116,32,120,59,32,125]
abbrev kbS:ByteArray:=⟨#[115,116,97,103,101,32,109,97,105,110,40,105,110,32,114,101,99,118,32,105,110,116,41,32,123,32,116,97,107,101,32,120,32,102,114,111,109,32,105,110,32,123,32,125,32,101,109,105,116,32,120,59,32,125]⟩
theorem kbF:bC kbB=.ok 2:=by kernel_rfl
theorem kbK:pgK kbB=[kW qz,kN ⟨#[109,97,105,110]⟩,kS [40],kN ⟨#[105,110]⟩,kW wq,kW AX,kS [41],kS [123],kW ra,kN ⟨#[120]⟩,kW ow,kN ⟨#[105,110]⟩,kS [123],kS [125],kW rK,kN ⟨#[120]⟩,kS [59],kS [125]]:=by kernel_rfl
theorem kbSK:SK kbT (pgK kbB):=by
 rw [kbK];rw [show kbT=(qz++32::(bytesOf ⟨#[109,97,105,110]⟩++(40::(bytesOf ⟨#[105,110]⟩++32::(wq++32::(AX++(41::32::123::32::(ra++32::(bytesOf ⟨#[120]⟩++32::(ow++32::(bytesOf ⟨#[105,110]⟩++32::(123::32::125::32::(rK++32::(bytesOf ⟨#[120]⟩++(59::32::125::[]))))))))))))))) from by kernel_rfl]
 refine cZ (by decide) ?_
 refine HX (by decide) (show ld 40=false by decide) (ux (by decide) ?_)
 refine mh (by decide) (cZ (by decide) ?_)
 refine O8 (by decide) (by decide) ⟨105,[110,116],rfl,by decide⟩ (show ld 41=false by decide) (ux (by decide) (iJ (ux (by decide) (iJ ?_))))
 refine cZ (by decide) (mh (by decide) (cZ (by decide) (mh (by decide) ?_)))
 refine ux (by decide) (iJ (ux (by decide) (iJ ?_)))
 refine cZ (by decide) (HX (by decide) (show ld 59=false by decide) (ux (by decide) (iJ (ux (by decide) Le))))
theorem IB:∃p',PsO kbS (.ok p')∧uk false p'=uk false kbB:=by
 obtain ⟨ts,h1,h2⟩:=kbSK 0;obtain ⟨p',h3,h4⟩:=Gj (e:=(kbS.size:Int)) kbF h2;refine ⟨p',⟨ts,0,0,.inr (.inl ⟨by decide,h1,rfl,rfl⟩),?_⟩,h4⟩
 rw [if_pos rfl,h3]
theorem Ig:sI kbB kbB 0 [] 0 false=.error (10,1):=by kernel_rfl
theorem NG:¬12000 < (pgT kbB).length:=by
 have:(pgT kbB).length < 200:=by decide
 omega
theorem Mj {p':List Sg}(hn:∃n,bC p'=.ok n)(h:uk false p'=uk false kbB):de p'=.error (10,1):=by
 obtain ⟨n,hn⟩:=hn;have hr:cI p'=(0,0):=by
  rw [Gn hn,←M1 p',h,M1,if_neg NG]
 unfold de;rw [hr,if_neg (by decide),←BK,h,BK]
 exact Ig
section
variable  {ω:Amb}
theorem Ek (hω:ω.low=0)(h:Hp)(ht:fe h)(X:XT):aa Tryz.prog ω 8 [] h (fun r h'=>r=.bool true∧KF h h') X:=by
 obtain ⟨p',hps,hz⟩:=IB;obtain ⟨hsm,hn⟩:=OA hps;have hv:=Mj hn hz;refine jB ω h _ X ?_;unfold dx;refine aa.use (DJ _ h) ?_;rintro _ h1 ⟨res,hps',hres,k1⟩;obtain rfl:=hps'.same hps;obtain ⟨w,rfl,hs,hcap⟩:=hres;rw [asT_tup,show (#[.agg #[w],.agg (flt 0 0).toArray]:Array Value)[0]?=some (.agg #[w]) from rfl,asO_some,asT_tup,show (#[.agg #[w],.agg (flt 0 0).toArray]:Array Value)[1]?=some (.agg (flt 0 0).toArray) from rfl,asO_some,asA_agg]
 have zA:(h1.push (.cells #[(.slice none 0 0)] 24 (0,0))).size=h1.size+1:=by simp
 have hA0:(Array.push (h1.push (.cells #[(.slice none 0 0)] 24 (0,0))) (.cells #[(.int .i64 0),(.int .i64 0)] 28 (0,0)))[h1.size]?=some (.cells [.slice none 0 0].toArray 24 (0,0)) :=
  (ar.push (S:=fun _=>False) _ _).get ah (by simp)
 have hB0:(Array.push (h1.push (.cells #[(.slice none 0 0)] 24 (0,0))) (.cells #[(.int .i64 0),(.int .i64 0)] 28 (0,0)))[h1.size+1]?=some (.cells (flt 0 0).toArray 28 (0,0)):=by
  rw [←zA];exact ah
 have k2:KF h1 (Array.push (h1.push (.cells #[(.slice none 0 0)] 24 (0,0))) (.cells #[(.int .i64 0),(.int .i64 0)] 28 (0,0))):=(ar.push _ _).trans (ar.push _ _);simp only [zA];generalize Array.push (h1.push (.cells #[(.slice none 0 0)] 24 (0,0))) (.cells #[(.int .i64 0),(.int .i64 0)] 28 (0,0))=h2 at *;refine ⟨rfl,(fun u hu=>by rw [Qf.1 (show u∈[w] from hu)];exact (SgS.b8 hs).one),?_⟩
 show av h2 ⟨h1.size,0,none⟩ [w] _;refine aW (o:=0) hA0 (by simp) ?_
 rw [ca (by simp)]
 have hA3:=aq (o:=.cells [w].toArray 24 (0,0)) hA0;have k3:=ar.set (S:=fun b=>b=h1.size) (h:=h2) (.cells [w].toArray 24 (0,0)) (b:=h1.size) rfl;generalize h2.setIfInBounds h1.size (.cells [w].toArray 24 (0,0))=h3 at *;have hB3:=k3.get hB0 (by omega)
 rw [asA_agg];refine ⟨rfl,bu 0 0,?_⟩;show av h3 ⟨h1.size+1,0,none⟩ (flt 0 0) _;refine aW (o:=0) hB3 (by simp [flt]) ?_
 rw [ca (by simp [flt])]
 have hB4:=aq (o:=.cells (flt 0 0).toArray 28 (0,0)) hB3;have k4:=ar.set (S:=fun b=>b=h1.size+1) (h:=h3) (.cells (flt 0 0).toArray 28 (0,0)) (b:=h1.size+1) rfl;generalize h3.setIfInBounds (h1.size+1) (.cells (flt 0 0).toArray 28 (0,0))=h4 at *;have hA4:=k4.get hA3 (by omega)
 have k14:KF h1 h4:=(k2.cS (k3.mono fun b _ hb=>.inr (by omega))).cS (k4.mono fun b _ hb=>.inr (by omega))
 have hs4:=hs.aC k14;refine ⟨fun t h'=>t=.bool true∧KF h h',?_,fun t _ h' ht=>ht⟩;refine lx hB4 (j:=0) (u:=.int .i64 0) rfl ?_;rw [asK_int];refine cx rfl ?_;refine ⟨_,ak hA4 rfl,?_⟩;refine aa.use (Dy hω p' hsm w hcap h4 hs4 (ht.more (k1.trans k14))) ?_;rintro _ h5 ⟨k5,rfl⟩;rw [hv];exact ⟨rfl,(k1.trans k14).trans k5⟩
end
def Mm:VR→List (List Vr)
 |.error _=>[]
 |.ok l=>l
theorem uS (p:List Sg):∀(r:List Sg) (i:Nat) (out:List (List Vr)) (n:Int) (b:Bool) {l:List (List Vr)},(∀x∈out,x.length≤30)→sI p r i out n b=.ok l→(∀x∈l,x.length≤30)∧l.length=out.length+r.length
 |[],_,out,_,b,l,ho,h=>by
  unfold sI at h
  split at h
  ·cases h;exact ⟨ho,rfl⟩
  ·cases h
 |g::r,i,out,n,b,l,ho,h=>by
  rw [eE] at h;cases hs:cd (p.take i) g (-2 - i) n with
  |error e =>
   rw [hs] at h;cases h
  |ok q =>
   rw [hs] at h;have hq:q.1.length≤30:=by
    unfold cd at hs
    split at hs
    ·cases hs
    ·obtain ⟨b1,m1,_,h2⟩:=dv hs
     split at h2
     ·cases h2
     ·rename_i h3;cases h2;exact Nat.le_of_not_lt h3
   obtain ⟨h1,h2⟩:=uS p r _ _ _ _ (fun x hx=>by
    rcases Z3.1 hx with hx|hx
    ·exact ho x hx
    ·rw [Qf.1 hx];exact hq) h
   exact ⟨h1,by rw [h2];simp;omega⟩
theorem Cf (p:List Sg):∀x∈Mm (de p),x.length≤30:=by
 intro x hx;cases hk:de p with
 |error e =>
  rw [hk] at hx;cases hx
 |ok l =>
  rw [hk] at hx;unfold de at hk
  split at hk
  ·cases hk
  ·exact (uS p p _ _ _ _ (fun _ hh=>by cases hh) hk).1 x hx
theorem zL {h h':Hp}{r:Value}{k:VR}(hr:VRes h h' r k):∃v us,r=.tuple #[v,.agg (flt (gP k).1 (gP k).2).toArray]∧VlO h' h.size v (Mm k) us:=by
 cases k with
 |error e =>
  obtain ⟨_,rfl⟩:=hr;exact ⟨_,[],rfl,bX.nil,rfl,fun i bd w h1=>by cases h1⟩
 |ok l =>
  obtain ⟨v,us,rfl,hv⟩:=hr;exact ⟨v,us,rfl,hv⟩
section
variable  {ω:Amb}
end
theorem Il {H:Type}{enc:TypeId×Value→H}{w:World}{base:Nat}{spare:Nat→Bool}{held:Bool}{fuel:Nat}{cs:List Value}{x:DataW H×List MemPlace}(h:DataW.trod enc Tryz.prog w base spare held fuel 24 cs=some x):∃v p,cs=[v]∧SgS w.heap v p∧Ai v:=by
 obtain ⟨v,p,hcs,hs⟩:=My h;refine ⟨v,p,hcs,hs,?_⟩;obtain ⟨_,_,_,h0⟩:=bF Tryz.underlying24 h (i:=0) rfl;rcases DataW.trod_slice Tryz.underlying22 h0 with ⟨e0,_⟩|⟨a,len,cap,_,_,_,_,e0,_,_,hl,_⟩
 ·have e1:=jr (o:=0) e0;rw [hcs] at e1;have e1:v=.slice none 0 0:=Z2 e1;intro a n c hv;rw [e1] at hv;cases hv;exact Zd _
 ·have e1:=jr (o:=0) e0;rw [hcs] at e1;have e1:v=.slice (some a) len cap:=Z2 e1;intro a n c hv;rw [e1] at hv;cases hv;exact hl
end Go.Proofs.YtkeeboomikkojaaGreatDoor
