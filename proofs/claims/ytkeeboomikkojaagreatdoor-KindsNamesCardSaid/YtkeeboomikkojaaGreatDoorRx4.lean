import Derived.Test.YtkeeboomikkojaaGreatDoorRx3
import Derived.Test.YtkeeboomikkojaaGreatDoorY9h
import Derived.Test.YtkeeboomikkojaaGreatDoorRk
import Derived.Test.YtkeeboomikkojaaGreatDoorRn9
set_option maxRecDepth 100000
namespace Go.Proofs.YtkeeboomikkojaaGreatDoor
open Go Go.Sx Go.Sx.Tk Go.Sx.Rn Go.Proofs.YtkeeboomikkojaaGreatDoor.Sx
section
variable  {e:Int}{Q:List Tok→Prop}{E:Int×Int→Prop}
end
section
variable  {ω:Amb}{e:Int}
theorem Oj (a b:Value)(w:World):(invoke (.fn (.func 30) #[a,b]) #[]).run Tryz.prog w=.ok (.enter 30 #[a,b]) w:=by
 have h1:Tryz.prog.funcs[30]?=some Tryz.f30:=Tryz.func30;simp only [invoke,callFunc,Sem.run_bind,run_program,Result.andThen_ok,h1];rfl
theorem F9 {fr:Fr}{h':Hp}{A B:Nat}{v:Value}{c a:Int}{F:Value→Prop}(h2:fr.getD 2 undef=.pointer (some ⟨A,0,none⟩))(h3:fr.getD 3 undef=.pointer (some ⟨B,0,none⟩))(hA:h'[A]?=some (.cells [v].toArray 24 (0,0)))(hB:h'[B]?=some (.cells (flt c a).toArray 28 (0,0)))
  (hF:F (.tuple #[.agg #[v],.agg (flt c a).toArray])):Br Tryz.prog Tryz.f14.results.toList fr h' [] F:=by
 refine (show Br Tryz.prog Tryz.f14.results.toList fr h' [] F=(asP (fr.getD 2 undef) fun ad=>∃cs,aj h' ad 1 cs∧asP (fr.getD 3 undef) fun ad=>∃cs',aj h' ad 2 cs'∧F (.tuple #[.agg cs.toArray,.agg cs'.toArray])) by kernel_rfl)▸?_
 rw [h2,h3,asP_some];exact ⟨[v],ak hA rfl,_,ak hB rfl,hF⟩
theorem Jh {a b:Value}{h:Hp}{R:Hp→Prop}(hR:R h):uJ ω a b .nilIface h (fun _ h'=>R h') (fun _ _=>False):=by
 unfold uJ;show ∃J1:Hp→Prop,_;exact ⟨fun h'=>R h',hR,fun _ _ hr=>hr⟩
theorem Jg {A B:Nat}{c d:Int}{h:Hp}{cur2 cur3:Array Value}(hA:h[A]?=some (.cells cur2 24 (0,0)))(hB:h[B]?=some (.cells cur3 28 (0,0)))(z2:cur2.size=1)(z3:cur3.size=2)(hAB:A≠B){R:Hp→Prop}
  (hR:∀h',ar (fun b=>b=A∨b=B) h h'→h'[A]?=some (.cells [.slice none 0 0].toArray 24 (0,0))→h'[B]?=some (.cells (flt c d).toArray 28 (0,0))→R h') :
  uJ ω (.pointer (some ⟨A,0,none⟩)) (.pointer (some ⟨B,0,none⟩)) (.iface 67 (.agg #[.int .i64 c,.int .i64 d])) h (fun _ h'=>R h') (fun _ _=>False):=by
 unfold uJ;show ∃J1:Hp→Prop,_;refine ⟨fun h'=>R h',?_,fun _ _ hr=>hr⟩;rw [show (!false)=true from rfl,cond_true]
 rw [show ∀(t:TypeId) (u:Value) (F:TypeId→Value→Prop),HG (.iface t u) F=F t u from fun _ _ _=>rfl]
 rw [show Nat.beq 67 67=true from rfl,cond_true,asA_agg]
 refine ⟨rfl,bu c d,aA (cs:=flt c d) rfl ?_⟩;have hn:=ah (h:=h) (o:=.cells (flt c d).toArray 67 (0,0));have k1:=ar.push (S:=fun _=>False) h (.cells (flt c d).toArray 67 (0,0));have z1:(h.push (.cells (flt c d).toArray 67 (0,0))).size=h.size+1:=by simp
 generalize h.push (.cells (flt c d).toArray 67 (0,0))=h1 at *;have hlA:=gd hA;have hlB:=gd hB;refine ⟨fun h'=>h'=h1,?_,?_⟩
 ·rw [show (!true)=false from rfl,cond_false]
 rintro _ _ rfl;rename_i h1;refine ⟨_,ak hn rfl,?_⟩;rw [asP_some];have hA1:=k1.get hA (by simp)
 refine ⟨rfl,(fun u hu=>by rw [Qf.1 hu];rfl),aW (o:=0) hA1 (by rw [z2];simp) ?_⟩
 rw [ca (by rw [z2];rfl)]
 have hA2:=aq (o:=.cells [Value.slice none 0 0].toArray 24 (0,0)) hA1;have k2:=ar.set (S:=fun b=>b=A) (h:=h1) (.cells [Value.slice none 0 0].toArray 24 (0,0)) (b:=A) rfl;have zz2:(h1.setIfInBounds A (.cells [Value.slice none 0 0].toArray 24 (0,0))).size=h1.size:=by simp
 generalize h1.setIfInBounds A (.cells [Value.slice none 0 0].toArray 24 (0,0))=h2 at *;refine ⟨ak (k2.get hn (by omega)) rfl,?_⟩
 rw [asP_some];have hB2:=k2.get (k1.get hB (by simp)) (fun e=>hAB e.symm)
 refine ⟨rfl,bu c d,?_⟩;show av h2 ⟨B,0,none⟩ (flt c d) _;refine aW (o:=0) hB2 (by rw [z3];simp [flt]) ?_
 rw [ca (by rw [z3];rfl)]
 have hB3:=aq (o:=.cells (flt c d).toArray 28 (0,0)) hB2;have k3:=ar.set (S:=fun b=>b=B) (h:=h2) (.cells (flt c d).toArray 28 (0,0)) (b:=B) rfl;exact hR _ (((k1.mono fun _ _ h=>h.elim).trans (k2.mono fun _ _ h=>.inl h)).trans (k3.mono fun _ _ h=>.inr h)) (k3.get hA2 hAB) hB3
def PsO (s:ByteArray)(res:Except (Int×Int) (List Sg)):Prop:=∃ts e a,Tkz.Out s ts e a∧res=if e=0 then qn (s.size:Int) ts else .error (e,a)
theorem PsO.same {s:ByteArray}{r q:Except (Int×Int) (List Sg)}(h:PsO s r)(k:PsO s q):r=q:=by
 obtain ⟨ts,e,a,h1,rfl⟩:=h;obtain ⟨us,e',a',h2,rfl⟩:=k;obtain ⟨rfl,rfl,rfl⟩:=h1.same h2;rfl
def PsR (h':Hp)(r:Value):Except (Int×Int) (List Sg)→Prop
 |.ok p=>∃v,r=.tuple #[v,.agg (flt 0 0).toArray]∧PgS h' v p
 |.error x=>r=.tuple #[.agg #[.slice none 0 0],.agg (flt x.1 x.2).toArray]
def Ai (v:Value):Prop:=∀a n c,v=.slice a n c→n≤c
theorem zX {h:Hp}{base n sz:Nat}{t:TypeId}{v:Value}{ys:List Value}(ho:bX h base t sz v n ys):Ai v:=fun a l c e=>by
 rcases ho.shape with ⟨rfl,_,_⟩|⟨g,o,cap,rfl,_,_,hle,_⟩
 ·cases e;exact Zd _
 ·cases e;exact hle
def PsC (h':Hp)(r:Value):Except (Int×Int) (List Sg)→Prop
 |.ok p=>∃v,r=.tuple #[.agg #[v],.agg (flt 0 0).toArray]∧SgS h' v p∧Ai v
 |.error x=>r=.tuple #[.agg #[.slice none 0 0],.agg (flt x.1 x.2).toArray]
def O4 (A B:Nat)(h':Hp):Except (Int×Int) (List Sg)→Prop
 |.ok p=>∃vp,h'[A]?=some (.cells [vp].toArray 24 (0,0))∧h'[B]?=some (.cells (flt 0 0).toArray 28 (0,0))∧SgS h' vp p∧Ai vp
 |.error x=>h'[A]?=some (.cells [.slice none 0 0].toArray 24 (0,0))∧h'[B]?=some (.cells (flt x.1 x.2).toArray 28 (0,0))
theorem HQ {s:ByteArray}{h:Hp}{X:XT}
  (hW:pE ω (.string s) h (fun _ h'=>∃res,PsO s res∧O4 h.size (h.size+1) h' res∧KF h h')
   (fun c h'=>∃x,c=gone x∧PsO s (.error x)∧KF h h'∧(∃cur,h'[h.size]?=some (.cells cur 24 (0,0))∧cur.size=1)∧∃cur,h'[h.size+1]?=some (.cells cur 28 (0,0))∧cur.size=2)) :
  aa Tryz.prog ω 14 [.string s] h (fun r h'=>∃res,PsO s res∧PsC h' r res∧KF h h') X:=by
 have hpA:ptA h=.pointer (some ⟨h.size,0,none⟩):=rfl;have hpB:ptB h=.pointer (some ⟨h.size+1,0,none⟩):=by simp [ptB]
 have hleave:∀(fr:Fr) (h':Hp) (d:Nat),fr.getD 2 undef=ptA h→fr.getD 3 undef=ptB h→(∃res,PsO s res∧O4 h.size (h.size+1) h' res∧KF h h') →
   Leaves Tryz.prog Tryz.f14 fr.toArray (AE ω (fun r h'=>∃res,PsO s res∧PsC h' r res∧KF h h') X) [] .returning (W ω h' d):=by
  rintro fr h' d h2 h3 ⟨res,ho,hf,hk⟩;rw [hpA] at h2;rw [hpB] at h3;have hgo:∃v c a,h'[h.size]?=some (.cells [v].toArray 24 (0,0))∧h'[h.size+1]?=some (.cells (flt c a).toArray 28 (0,0))∧PsC h' (.tuple #[.agg #[v],.agg (flt c a).toArray]) res:=by
   cases res with
   |ok p =>
    obtain ⟨vp,h1,h2,h3⟩:=hf;exact ⟨vp,0,0,h1,h2,_,rfl,h3⟩
   |error x=>exact ⟨_,_,_,hf.1,hf.2,rfl⟩
  obtain ⟨v,c,a,h1,h4,h5⟩:=hgo;obtain ⟨r,g1,g2⟩:=se (P:=Tryz.prog) (ω:=ω) (F9 (F:=fun r=>PsC h' r res) h2 h3 h1 h4 h5) d;exact ⟨r,g1,⟨d,rfl⟩,res,ho,g2,hk⟩
 refine zI hW (fun fr h' d h2 h3 hf=>⟨hleave fr h' d h2 h3 hf,?_⟩) ?_
 ·refine leaves_cons (f:=30) (args:=#[ptA h,ptB h]) (by simp) (Oj _ _ _) ?_
  refine (y3 (u:=.returning) (u':=.returning) (v:=.nilIface) (R:=fun h''=>h''=h') (fun c₀ cs hu=>.inr ⟨by simp [recoverD,hu],rfl,rfl⟩) (Jh rfl)).mono ?_
  rintro e' u2 w2 ⟨⟨r,rfl⟩,rfl,h'',d',rfl,rfl⟩;exact hleave fr h'' d' h2 h3 hf
 ·rintro c a h' d h2 h3 ⟨x,rfl,ho,hk,⟨cur2,hA,z2⟩,cur3,hB,z3⟩;refine leaves_cons (f:=30) (args:=#[ptA h,ptB h]) (by simp) (Oj _ _ _) ?_
  refine (y3 (u:=.panicking (gone x)) (u':=.panicking [⟨.iface 67 (.agg #[.int .i64 x.1,.int .i64 x.2]),true,false⟩]) (v:=.iface 67 (.agg #[.int .i64 x.1,.int .i64 x.2])) (R:=fun h''=>KF h h''∧O4 h.size (h.size+1) h'' (.error x))
   (fun c₀ cs hu=>.inl (by simp [recoverD,hu,gone])) ?_).mono ?_
  ·rw [hpA,hpB];refine Jg hA hB z2 z3 (by omega) fun h'' k e1 e2=>⟨hk.cS (k.mono fun b _ hb=>.inr ?_),e1,e2⟩
   rcases hb with rfl|rfl<;>omega
  ·rintro e' u2 w2 ⟨⟨r,rfl⟩,rfl,h'',d',rfl,hk2,hf⟩;have:=hleave a.tmps.toList h'' d' (by rw [CU];exact h2) (by rw [CU];exact h3) ⟨_,ho,hf,hk2⟩
   simp only [Array.toArray_toList] at this;exact this
end
theorem zR {e:Int}{n:Nat}{ts:List Tok}{q:Sg×Nat×List Tok}(hn:n≤300)(h:gN e n ts=.ok q):q.2.2.length < ts.length∧q.2.1≤300:=by
 cases ts with
 |nil=>cases h
 |cons t r =>
  have h:(aD (ee e r) fun a=>aD (bl e [40] a.2) fun l=>aD (fb e (l.length+1) [] l) fun ps=>aD (bD e (3*ps.2.length+3) 0 n ps.2) fun b=>.ok (⟨a.1,t.at_,ps.1,b.1⟩,b.2.1,b.2.2))=(.ok q:PR Sg):=h;obtain ⟨a,ha,h⟩:=ai h;obtain ⟨l,hl,h⟩:=ai h;obtain ⟨ps,hps,h⟩:=ai h;obtain ⟨b,hb,h⟩:=ai h;cases h;have h1:=bV ha;have h2:=bH hl;have h3:=tW hps;obtain ⟨h4,h5⟩:=(NQ e _).1 hn hb;refine ⟨?_,h5⟩;show b.2.2.length < _
  simp only [Qn];omega
theorem kP (e:Int)(f n:Nat)(acc:List Sg)(l:List Tok):cO e (f+1) acc n l =
  if l.length=0∧acc.length≠0 then .ok acc
  else if isT [115,116,97,103,101] l then (if acc.length=10 then .error (pt e 8 l) else aD (gN e n l) fun q=>cO e f (acc++[q.1]) q.2.1 q.2.2)
  else .error (pt e 5 l):=by
 conv=>lhs;unfold cO
theorem PA.set1 {h h':Hp}{G A:Nat}{ts:List Tok}{e n d o t:Int}{vp:Value}{ty:TypeId}(hp:PA h G ts e n d o t)(hA:h[A]?=some (.cells [vp].toArray ty (0,0)))(hne:A≠G)(k:ar (fun b=>b=A) h h'):PA h' G ts e n d o t:=by
 obtain ⟨vl,hg,htk⟩:=hp.ex;refine ⟨vl,k.get hg (fun e=>hne e.symm),⟨?_,htk.cap,htk.low⟩⟩;cases ts with
 |nil =>
  obtain ⟨a,c,hv⟩:=htk.form;exact ⟨rfl,.inl ⟨rfl,a,c,hv⟩⟩
 |cons x r =>
  refine bm.Eb htk.at_ k fun b hb hbA=>?_;rcases htk.at_.2 with ⟨h0,_⟩|⟨b',o',c',hv,hc⟩
  ·simp at h0
  ·rw [hv] at hb;have hb:b'=b:=by simpa [Value.ownBlock] using hb
   subst hb;subst hbA;have:=hc 1 _ rfl;rw [bi hA] at this;simp at this
section
variable  {ω:Amb}
set_option maxHeartbeats 1000000 in
theorem MM (s:ByteArray)(h:Hp) :
  pE ω (.string s) h (fun _ h'=>∃res,PsO s res∧O4 h.size (h.size+1) h' res∧KF h h')
   (fun c h'=>∃x,c=gone x∧PsO s (.error x)∧KF h h'∧(∃cur,h'[h.size]?=some (.cells cur 24 (0,0))∧cur.size=1)∧∃cur,h'[h.size+1]?=some (.cells cur 28 (0,0))∧cur.size=2):=by
 unfold pE;have zA:(h.push (.cells #[(.slice none 0 0)] 24 (0,0))).size=h.size+1:=by simp
 have hA0:(Array.push (h.push (.cells #[(.slice none 0 0)] 24 (0,0))) (.cells #[(.int .i64 0),(.int .i64 0)] 28 (0,0)))[h.size]?=some (.cells [.slice none 0 0].toArray 24 (0,0)) :=
  (ar.push (S:=fun _=>False) _ _).get ah (by simp)
 have hB0:(Array.push (h.push (.cells #[(.slice none 0 0)] 24 (0,0))) (.cells #[(.int .i64 0),(.int .i64 0)] 28 (0,0)))[h.size+1]?=some (.cells (flt 0 0).toArray 28 (0,0)):=by
  rw [←zA];exact ah
 have k0:KF h (Array.push (h.push (.cells #[(.slice none 0 0)] 24 (0,0))) (.cells #[(.int .i64 0),(.int .i64 0)] 28 (0,0))):=(ar.push _ _).trans (ar.push _ _);have z0:(Array.push (h.push (.cells #[(.slice none 0 0)] 24 (0,0))) (.cells #[(.int .i64 0),(.int .i64 0)] 28 (0,0))).size=h.size+2:=by simp
 simp only [zA];generalize Array.push (h.push (.cells #[(.slice none 0 0)] 24 (0,0))) (.cells #[(.int .i64 0),(.int .i64 0)] 28 (0,0))=h0 at *;refine aa.use (Tkz.Jx s h0) ?_;intro r h1 hso;obtain ⟨ts,v,ec,ea,hr,k1,hout,hsl,hcap,hlow⟩:∃ts v ec ea,r=.tuple #[v,.agg (flt ec ea).toArray]∧KF h0 h1∧Tkz.Out s ts ec ea∧bm h1 4 v ts.length (ts.flatMap Tok.f)∧(∀a l c,v=.slice a l c→l≤c)∧∀k,v.ownBlock=some k→h0.size≤k∧k < h1.size:=by
  cases hso with
  |big hb hr hk=>exact ⟨[],_,1,12000,hr,hk,.inl ⟨hb,rfl,rfl,rfl⟩,⟨rfl,.inl ⟨rfl,_,_,rfl⟩⟩,(fun _ _ _ e=>by cases e;exact Zd _),fun _ e=>by cases e⟩
  |bad e a hb hs hr hk=>exact ⟨[],_,e,a,hr,hk,.inr (.inr ⟨hb,hs,rfl⟩),⟨rfl,.inl ⟨rfl,_,_,rfl⟩⟩,(fun _ _ _ e=>by cases e;exact Zd _),fun _ e=>by cases e⟩
  |ok ts v hb hs hr ho hk =>
   refine ⟨ts,v,0,0,hr,hk,.inr (.inl ⟨hb,hs,rfl,rfl⟩),ho.dP,?_,fun k hk=>ho.lt k hk⟩;intro a l c e;rcases ho.shape with ⟨rfl,_,_⟩|⟨g,o,cap,rfl,_,_,hle,_⟩
   ·cases e;exact Zd _
   ·cases e;exact hle
 subst hr;have htl:=hout.len;have hs1:=k1.size;have hA1:=k1.get hA0 (by simp)
 have hB1:=k1.get hB0 (by simp)
 have k01:=k0.trans k1;have hsl1:b8 v:=bm.b8 hsl;rw [asT_tup,show (#[v,.agg (flt ec ea).toArray]:Array Value)[0]?=some v from rfl,asO_some,asT_tup,show (#[v,.agg (flt ec ea).toArray]:Array Value)[1]?=some (.agg (flt ec ea).toArray) from rfl,asO_some,asA_agg]
 refine ⟨rfl,bu ec ea,aW (o:=0) hB1 (by simp [flt]) ?_⟩
 rw [ca (by simp [flt])]
 have hB2:=aq (o:=.cells (flt ec ea).toArray 28 (0,0)) hB1;have k2:=ar.set (S:=fun b=>b=h.size+1) (h:=h1) (.cells (flt ec ea).toArray 28 (0,0)) (b:=h.size+1) rfl;have z2:(h1.setIfInBounds (h.size+1) (.cells (flt ec ea).toArray 28 (0,0))).size=h1.size:=by simp
 show ∃v8,_∧_;generalize hh2:h1.setIfInBounds (h.size+1) (.cells (flt ec ea).toArray 28 (0,0))=h2 at *;have hA2:=k2.get hA1 (by omega)
 have k02:KF h h2:=k01.cS (k2.mono fun b _ hb=>.inr (by omega))
 refine lx hB2 (j:=0) (u:=.int .i64 ec) rfl ?_;rw [asK_int];refine ae (fun hc=>?_) (fun hc=>?_)
 ·have hc:ec≠0:=by simpa using hc
  refine ⟨_,ak hB2 rfl,trivial,(fun u hu=>by rw [Qf.1 hu];rfl),aW (o:=0) hA2 (by simp) ?_⟩
  rw [ca (by simp)]
  have hA3:=aq (o:=.cells [Value.slice none 0 0].toArray 24 (0,0)) hA2;have k3:=ar.set (S:=fun b=>b=h.size) (h:=h2) (.cells [Value.slice none 0 0].toArray 24 (0,0)) (b:=h.size) rfl;generalize h2.setIfInBounds h.size (.cells [Value.slice none 0 0].toArray 24 (0,0))=h3 at *;have hB3:=k3.get hB2 (by omega)
  refine ⟨ak hB3 rfl,rfl,bu ec ea,?_⟩;show av h3 ⟨h.size+1,0,none⟩ (flt ec ea) _;refine aW (o:=0) hB3 (by simp [flt]) ?_
  rw [ca (by simp [flt])]
  have hB4:=aq (o:=.cells (flt ec ea).toArray 28 (0,0)) hB3;have k4:=ar.set (S:=fun b=>b=h.size+1) (h:=h3) (.cells (flt ec ea).toArray 28 (0,0)) (b:=h.size+1) rfl;refine ⟨.error (ec,ea),⟨ts,ec,ea,hout,by rw [if_neg hc]⟩,⟨k4.get hA3 (by omega),hB4⟩,(k02.cS (k3.mono fun b _ hb=>.inr (by omega))).cS (k4.mono fun b _ hb=>.inr (by omega))⟩
 have hec:ec=0:=by simpa using hc
 have hO:∀res,qn (s.size:Int) ts=res→PsO s res:=fun res hr=>⟨ts,ec,ea,hout,by rw [if_pos hec,hr]⟩
 rw [asS_str];refine cP hsl1.one ?_;have hG0:(h2.push (.cells #[v,(.int .i64 (s.size:Int)),(.int .i64 0),(.int .i64 0),(.int .i64 0),(.int .i64 0)] 71 (0,0)))[h2.size]?=some (.cells (psr v (s.size:Int) 0 0 0 0).toArray 71 (0,0)):=ah;have k3:=ar.push (S:=fun _=>False) h2 (.cells #[v,(.int .i64 (s.size:Int)),(.int .i64 0),(.int .i64 0),(.int .i64 0),(.int .i64 0)] 71 (0,0));have z3:(h2.push (.cells #[v,(.int .i64 (s.size:Int)),(.int .i64 0),(.int .i64 0),(.int .i64 0),(.int .i64 0)] 71 (0,0))).size=h2.size+1:=by simp
 generalize h2.push (.cells #[v,(.int .i64 (s.size:Int)),(.int .i64 0),(.int .i64 0),(.int .i64 0),(.int .i64 0)] 71 (0,0))=h3 at *;have hpa3:PA h3 h2.size ts (s.size:Int) ((0:Nat):Int) ((0:Nat):Int) 0 0:=⟨v,hG0,(bm.Eb (bm.Eb hsl k2 fun k hk e=>by have:=(hlow k hk).1;omega) k3 fun _ _ h=>h),hcap,fun k hk=>by have:=(hlow k hk).2;omega⟩
 have hA3:=k3.get hA2 (by simp)
 have hB3:=k3.get hB2 (by simp)
 have k03:=k02.trans k3;generalize hG:h2.size=G at *;refine ⟨fun h'=>∃f acc us ts' n vp t',qn (s.size:Int) ts=cO (s.size:Int) f acc n ts'∧ts'.length+2≤f∧ts'.length≤12000∧n≤300∧acc.length≤10∧h'[h.size]?=some (.cells [vp].toArray 24 (0,0))∧h'[h.size+1]?=some (.cells (flt ec ea).toArray 28 (0,0)) ∧
   bX h' h3.size 41 4 vp acc.length us∧dH h' (fun b=>Nw h3 h' b∧vp.ownBlock≠some b) acc us∧PA h' G ts' (s.size:Int) ((n:Nat):Int) ((0:Nat):Int) 0 t'∧KF h h'∧h3.size≤h'.size,tkN G,
  ⟨ts.length+2,[],[],ts,0,.slice none 0 0,0,rfl,Zd _,by omega,by omega,by simp,hA3,hB3,bX.nil,DP,hpa3,k03,Zd _⟩,?_⟩
 rintro _ h4 ⟨f,acc,us,ts',n,vp,t',heq,hf,hl4,hn,hacc,hA4,hB4,ho,hat,hp4,k4,hs4⟩;obtain ⟨f,rfl⟩:∃q,f=q+1:=⟨f - 1,by omega⟩
 rw [kP] at heq;have hlt4:=ho.lt;have hform:∃a c,vp=.slice a acc.length c:=by
  rcases ho.2 with ⟨rfl,h0⟩|⟨g,o,cap,cur,rfl,_⟩
  ·exact ⟨none,0,by rw [h0]⟩
  ·exact ⟨_,_,rfl⟩
 have hslp:∀{F:Option Addr→Nat→Nat→Prop},(∀a c,F a acc.length c)→bR vp F:=fun hF=>by
  obtain ⟨a,c,rfl⟩:=hform;rw [asSl_sl];exact hF _ _
 refine ⟨!decide (ts'.length=0∧acc.length≠0),?_,fun _=>?_⟩
 ·obtain ⟨vl,hg,htk⟩:=hp4.ex;refine lx hg (j:=0) rfl ?_;obtain ⟨a,c,hv⟩:=htk.form;rw [hv,asSl_sl];refine ae (fun h0=>?_) (fun h0=>?_)
  ·have h0:=Qj h0;refine ⟨?_,trivial⟩;rw [Z0 (by omega)]
   rfl
  ·have h0:=Qc h0;refine lx hA4 (j:=0) rfl ?_;refine hslp fun _ _=>⟨?_,trivial⟩;have hz:ts'.length=0:=by omega
   rw [Value.bool.injEq,Qz];simp [hz]
 refine ae (fun hb=>?_) (fun hb=>?_)
 ·have hnot:¬(ts'.length=0∧acc.length≠0):=fun hh=>by rw [Z7 hh] at hb;cases hb
  rw [if_neg hnot] at heq;refine aa.use (eA hp4 ⟨#[115,116,97,103,101]⟩) ?_;rintro _ _ ⟨rfl,rfl⟩;rw [asB_bool,show bytesOf ⟨#[115,116,97,103,101]⟩=[115,116,97,103,101] from rfl]
  refine ⟨fun h'=>isT [115,116,97,103,101] ts'=true∧h4=h',?_,?_⟩
  ·refine ae (fun hT=>?_) (fun hT=>?_)
   ·have hT:isT [115,116,97,103,101] ts'=false:=by simpa using hT
    refine aa.mono (du hp4 5 _ ?_) (fun _ _ hf=>hf.elim) (fun _ _ hx=>hx);exact ⟨_,rfl,hO _ (by rw [heq,hT];rfl),k4,⟨_,hA4,rfl⟩,_,hB4,rfl⟩
   ·exact ⟨by simpa using hT,rfl⟩
  rintro _ _ ⟨hT,rfl⟩;rw [if_pos hT] at heq;refine lx hA4 (j:=0) rfl ?_;refine hslp fun _ _=>?_;refine ⟨fun h'=>acc.length≠10∧h4=h',?_,?_⟩
  ·refine ae (fun h6=>?_) (fun h6=>?_)
   ·have h6:acc.length=10:=by have:=Zg h6;omega
    refine aa.mono (du hp4 8 _ ?_) (fun _ _ hf=>hf.elim) (fun _ _ hx=>hx);exact ⟨_,rfl,hO _ (by rw [heq,if_pos h6]),k4,⟨_,hA4,rfl⟩,_,hB4,rfl⟩
   ·exact ⟨fun hh=>by rw [hh] at h6;exact absurd h6 (by decide),rfl⟩
  rintro _ _ ⟨h6',rfl⟩;rw [if_neg h6'] at heq;refine lx hA4 (j:=0) rfl ?_;obtain ⟨x0,r0,rfl⟩:=eV hT;have hGlt:=hp4.lt;have hkeep:∀{h':Hp},KG G h4 h'→KF h h':=fun k=>k4.cS (k.mono fun b _ hb=>.inr (by omega))
  refine aa.mono (Fi hp4 (by omega) hn _ fun x h' hx kx=>⟨x,rfl,hO _ (by rw [heq,hx];rfl),hkeep kx.k,⟨_,kx.k.get hA4 (by omega),rfl⟩,_,kx.k.get hB4 (by omega),rfl⟩) ?_ (fun _ _ hx=>hx)
  rintro _ h5 ⟨sg,m,ts5,hok,⟨vp2,vb2,rfl,hps,hnil,hbd⟩,⟨t5,hp5⟩,k5⟩;obtain ⟨l5,m5⟩:=zR hn hok;simp only at l5 m5;have hs5:=k5.size;have hA5:=k5.get hA4 (by omega)
  refine ⟨lx' hA5 (j:=0) rfl,?_⟩;rw [asA_agg,show ((sgC sg vp2 vb2).toArray.toList++[])=sgC sg vp2 vb2 from by simp]
  have kp5:=ar.push (S:=fun _=>False) h5 (.cells (List.toArray (sgC sg vp2 vb2)) 41 (0,0));refine ⟨rfl,lx' (kp5.get hA5 (by simp)) (j:=0) rfl,?_⟩
  have ho5:bX h5 h3.size 41 4 vp acc.length us:=ho.aC fun b hb hbl=>k5.block b hbl fun e=>by have:=hlt4 b hb;omega
  refine dR (bt:=72) (cs:=sgC sg vp2 vb2) (by kernel_rfl) ho5 rfl (lY (ew hnil) hbd.b8) (by omega) (by omega) (by omega) fun w2 h9 ho2 hgr _ hv=>?_
  have hg9:=hgr.size;have k59:ar (fun b=>some b=vp.ownBlock) h5 h9:=ar.grown hgr fun b hb _=>hb.symm;have hA9:=k59.get hA5 (fun e=>by have:=hlt4 _ e.symm;omega)
  have hB9:=k59.get (k5.get hB4 (by omega)) (fun e=>by have:=hlt4 _ e.symm;omega)
  have hw2:b8 w2:=bm.b8 ho2.dP;refine cP hw2.one ?_;refine aM (o:=0) hA9 (by simp) ?_
  rw [show ([vp].toArray).setIfInBounds 0 w2=[w2].toArray from by simp]
  have hA10:=aq (o:=.cells [w2].toArray 24 (0,0)) hA9;have k10:=ar.set (S:=fun b=>b=h.size) (h:=h9) (.cells [w2].toArray 24 (0,0)) (b:=h.size) rfl;have z10:(h9.setIfInBounds h.size (.cells [w2].toArray 24 (0,0))).size=h9.size:=by simp
  generalize h9.setIfInBounds h.size (.cells [w2].toArray 24 (0,0))=h10 at *;have hlt2:=ho2.lt;have hp10:=(hp5.aC k59 fun b hb e=>by have:=hlt4 b e.symm;omega).set1 hA9 (by omega) k10
  have k410:ar (fun b=>b=G∨some b=vp.ownBlock∨b=h.size) h4 h10:=((k5.mono fun _ _ h=>.inl h).trans (k59.mono fun _ _ h=>.inr (.inl h))).trans (k10.mono fun _ _ h=>.inr (.inr h));have hmv:∀sz v n us,SlN h5 (Nw h4 h5) sz v n us→SlN h10 (fun b=>Nw h3 h10 b∧w2.ownBlock≠some b) sz v n us:=by
   intro sz v n us hs;refine ((hs.aC k59 fun b hb e=>by have:=hlt4 b e.symm;have:=hb.1;omega).aC k10 fun b hb e=>by have:=hb.1;omega).mono fun b hb=>⟨⟨by have:=hb.1;omega,by have:=hb.2;omega⟩,dS hv (by have:=hb.2;omega) fun e=>?_⟩
   have:=hlt4 b e;have:=hb.1;omega
  refine ⟨⟨f,acc++[sg],us++sgC sg vp2 vb2,ts5,m,w2,t5,by rw [heq,hok];rfl,by simp only [Qn] at hf l5;omega,by simp only [Qn] at hl4 l5;omega,m5,by simp;omega,hA10,k10.get hB9 (by omega),?_,?_,hp10,?_,by omega⟩,?_⟩
  ·rw [Qd];exact ho2.aC fun b hb hbl=>k10.block b hbl fun e=>by have:=hlt2 b hb;omega
  ·refine uj (sj (fun sz v n us hs=>(hs.aC k410 fun b hb e=>?_).mono fun b hb=>⟨⟨hb.1.1,by have:=hb.1.2;omega⟩,dS hv (by have:=hb.1.2;omega) hb.2⟩) _ hat) ho.1 ?_ rfl
   ·have:=hb.1.1;rcases e with e|e|e
    ·omega
    ·exact hb.2 e.symm
    ·omega
   exact ⟨vp2,vb2,rfl,hmv _ _ _ _ hps,hnil,hbd.map hmv⟩
  ·exact (hkeep k5).cS ((k59.mono fun b hb e=>.inr (by have:=hlt4 b e.symm;omega)).trans (k10.mono fun b hb e=>.inr (by omega)))
  ·show tkN G h10 < tkN G h4;rw [hp10.tkN,hp4.tkN];exact l5
 ·have hb:ts'.length=0∧acc.length≠0:=by simpa using hb
  rw [if_pos hb] at heq;refine ⟨_,ak hA4 rfl,rfl,?_,aW (o:=0) hA4 (by simp) ?_⟩
  ·intro u hu;rw [Qf.1 hu];exact (bm.b8 ho.dP).one
  rw [ca (by simp)]
  have hA5:=aq (o:=.cells [vp].toArray 24 (0,0)) hA4;have k5:=ar.set (S:=fun b=>b=h.size) (h:=h4) (.cells [vp].toArray 24 (0,0)) (b:=h.size) rfl;have z5:(h4.setIfInBounds h.size (.cells [vp].toArray 24 (0,0))).size=h4.size:=by simp
  generalize h4.setIfInBounds h.size (.cells [vp].toArray 24 (0,0))=h5 at *;have hB5:=k5.get hB4 (by omega)
  refine ⟨trivial,bu 0 0,?_⟩;show av h5 ⟨h.size+1,0,none⟩ (flt 0 0) _;refine aW (o:=0) hB5 (by simp [flt]) ?_
  rw [ca (by simp [flt])]
  have hB6:=aq (o:=.cells (flt 0 0).toArray 28 (0,0)) hB5;have k6:=ar.set (S:=fun b=>b=h.size+1) (h:=h5) (.cells (flt 0 0).toArray 28 (0,0)) (b:=h.size+1) rfl;have k46:ar (fun b=>b=h.size∨b=h.size+1) h4 _:=(k5.mono fun _ _ h=>.inl h).trans (k6.mono fun _ _ h=>.inr h);refine ⟨.ok acc,hO _ heq,⟨vp,k6.get hA5 (by omega),hB6,?_,zX ho⟩,k4.cS (k46.mono fun b _ hb=>.inr (by omega))⟩
  have hsln:=SlN.own ho (by omega)
  exact ⟨us,(hsln.aC k46 fun b hb e=>by have:=hb.1;omega).1,dH.at acc (sj (N':=fun _=>True) (fun sz v n us hs=>(hs.aC k46 fun b hb e=>by have:=hb.1.1;omega).mono fun _ _=>trivial) acc hat)⟩
theorem DJ (s:ByteArray)(h:Hp)(X:XT):aa Tryz.prog ω 14 [.string s] h (fun r h'=>∃res,PsO s res∧PsC h' r res∧KF h h') X:=HQ (MM s h)
end
theorem yJ (x:St):stQ x=1+dZ x.body+dZ x.els:=by
 cases x
 conv=>lhs;unfold stQ
 rfl
theorem qT (x:St)(r:List St):dZ (x::r)=stQ x+dZ r:=by conv=>lhs;unfold dZ
theorem pF:dZ []=0:=by unfold dZ;rfl
theorem Ct:∀(l m:List St),dZ (l++m)=dZ l+dZ m
 |[],m=>by simp [pF]
 |x::r,m=>by rw [Qu,qT,qT,Ct r m];omega
theorem G8 (l:List St)(x:St):dZ (l++[x])=dZ l+stQ x:=by rw [Ct,qT,pF];omega
section
variable  {ω:Amb}
end
theorem IG (l:List Sg)(x:Sg):pgQ (l++[x])=pgQ l+dZ x.body:=by unfold pgQ;simp
section
variable  {ω:Amb}
end
section
variable  {ω:Amb}
end
end Go.Proofs.YtkeeboomikkojaaGreatDoor
