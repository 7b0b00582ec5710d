import Derived.Test.YtkeeboomikkojaaGreatDoorRn4
set_option maxRecDepth 100000
namespace Go.Proofs.YtkeeboomikkojaaGreatDoor
open Go Go.Sx Go.Sx.Tk Go.Sx.Rn Go.Proofs.YtkeeboomikkojaaGreatDoor.Sx
def sV (k:Nat):List UInt8:=List.replicate k 9
mutual
def stT (k:Nat):St→List UInt8
 |.mk d at_ a b t n e body els=>sV k++bO (.mk d at_ a b t n e body els)++cE e ++
  (if (fmD d).body then ([32,123,10]++qX (k+1) body++sV k++[125])++(if els.length=0 then [] else [32,101,108,115,101]++([32,123,10]++qX (k+1) els++sV k++[125]))++[10]
   else (if d=10 then [41] else [])++[59,10])
def qX (k:Nat):List St→List UInt8
 |[]=>[]
 |x::r=>stT k x++qX k r
end
def qG (k:Nat)(l:List St):List UInt8:=[32,123,10]++qX (k+1) l++sV k++[125]
theorem CZ (k:Nat)(x:St):stT k x=sV k++bO x++cE x.e ++
 (if (fmD x.d).body then qG k x.body++(if x.els.length=0 then [] else [32,101,108,115,101]++qG k x.els)++[10] else (if x.d=10 then [41] else [])++[59,10]):=by cases x;rfl
theorem tC (k:Nat):∀(l m:List St),qX k (l++m)=qX k l++qX k m
 |[],m=>rfl
 |x::r,m=>by simp only [Qu,qX,tC k r m,Qk]
theorem zK (k:Nat)(l:List St)(x:St):qX k (l++[x])=qX k l++stT k x:=by rw [tC];simp [qX]
def hdG (x:St)(deep:Int):Prop:=∃f,aT x.d=some f∧qP f x=false∧x.e.length≤6∧stR f x deep=0
mutual
def stG (deep:Int):St→Prop
 |.mk d at_ a b t n e body els=>hdG (.mk d at_ a b t n e body els) deep∧vL (deep+1) body∧vL (deep+1) els
def vL (deep:Int):List St→Prop
 |[]=>True
 |x::r=>stG deep x∧vL deep r
end
theorem nT {deep:Int}{x:St}:stG deep x↔hdG x deep∧vL (deep+1) x.body∧vL (deep+1) x.els:=by cases x;exact Iff.rfl
theorem kX {r:FR}{f:Int→FR}{n:Int}(h:rO r f=.ok n):∃m,r=.ok m∧f m=.ok n:=by
 cases r with
 |error e=>cases h
 |ok m=>exact ⟨m,rfl,h⟩
theorem M7 {x:St}{m deep:Int}(h:stH x m deep=0):hdG x deep:=by
 rw [N6] at h;have hE:stE x m=0:=Q3 fun hh=>by
  rw [if_pos hh] at h;exact hh h
 rw [if_neg (fun hh=>hh hE)] at h;obtain ⟨_,⟨f,hf⟩,hb,hl⟩:=BT hE;have hfd:fmD x.d=f:=by rw [fmD,hf];rfl
 rw [hfd] at hb h;exact ⟨f,hf,hb,hl,h⟩
mutual
theorem NZ:∀(x:St) {m deep n:Int},stF x m deep=.ok n→stG deep x
 |.mk d at_ a b t nn e body els,m,deep,n,h=>by
  unfold stF at h
  split at h
  ·cases h
  rename_i h0;obtain ⟨m1,h1,h2⟩:=kX h;unfold stG;exact ⟨M7 (Decidable.not_not.1 h0),xx body h1,xx els h2⟩
theorem xx:∀(l:List St) {m deep n:Int},jk l m deep=.ok n→vL deep l
 |[],_,_,_,_=>trivial
 |x::r,m,deep,n,h=>by
  rw [kE] at h;obtain ⟨m1,h1,h2⟩:=kX h;unfold vL;exact ⟨NZ x h1,xx r h2⟩
end
theorem tA:∀{l:List St} {deep:Int} {x:St},vL deep l→x∈l→stG deep x
 |y::r,deep,x,h,hx=>by
  unfold vL at h;rcases List.mem_cons.1 hx with rfl|hx
  ·exact h.1
  ·exact tA h.2 hx
theorem Db:∀{l:List Ex},esF l=0→nP l=0∧∀x∈l,exN x≤20
 |[],_=>⟨rfl,fun x hx=>absurd hx List.not_mem_nil⟩
 |y::r,h=>by
  unfold esF at h;obtain ⟨h1,h2⟩:=lg h;obtain ⟨h3,h4⟩:=lg h1;obtain ⟨h5,h6⟩:=Db h2;refine ⟨by rw [nP,h4,h5];rfl,fun x hx=>?_⟩
  rcases List.mem_cons.1 hx with rfl|hx
  ·exact Q3 fun hh=>by
    rw [if_pos (by omega)] at h3
    cases h3
  ·exact h6 x hx
structure NA (x:St)(f:Fm)(deep:Int):Prop where
 form:aT x.d=some f
 d1:1≤x.d
 d2:x.d≤14
 bad:qP f x=false
 na:f.a=true→aL x.a=true
 nb:f.b=true→aL x.b=true
 ty:f.t=true→ck x.t 3=true
 ea:f.a=false→emp x.a
 eb:f.b=false→emp x.b
 et:f.t=false→emp x.t
 en:f.n=false→x.n=0
 ne:0≤f.e→(x.e.length:Int)=f.e
 bo:f.body=false→x.body=[]
 el:f.els=false→x.els=[]
 n0:0≤x.n
 n1:x.n < 1000000000000000000
 ex:nP x.e=0
 e20:∀y∈x.e,exN y≤20
 dp:f.body=true→deep < 8
theorem if0 {b:Bool}{c:Int}(hc:c≠0)(h:(if b then c else 0)=0):b=false:=by
 cases b with
 |false=>rfl
 |true=>exact absurd h hc
theorem uv {x:St}{deep:Int}(h:hdG x deep):∃f,NA x f deep:=by
 obtain ⟨f,hf,hb,hl,hR⟩:=h;obtain ⟨bA,bB,bT,bN,bE,bBo,bEl⟩:=Bw hb;rw [stR,tx bA,tx bB] at hR;obtain ⟨r1,hR⟩:=lg hR;obtain ⟨r2,hR⟩:=lg hR;obtain ⟨r3,hR⟩:=lg hR;obtain ⟨r4,hR⟩:=lg hR;obtain ⟨r5,r6⟩:=lg hR;have r1:=if0 (by decide) r1
 have r2:=if0 (by decide) r2
 have r3:=if0 (by decide) r3
 have r4:=if0 (by decide) r4
 have r6:=if0 (by decide) r6
 obtain ⟨e1,e2⟩:=Db r5;have hd:=FE hf;have hn:=Qc r4;refine ⟨f,hf,hd.1,hd.2,hb,fun h=>?_,fun h=>?_,fun h=>?_,fun h=>?_,fun h=>?_,fun h=>?_,fun h=>?_,fun h=>?_,fun h=>?_,fun h=>?_,by omega,by omega,e1,e2,fun h=>?_⟩
 ·rw [h,Zb] at r1;simpa using r1
 ·rw [h,Zb] at r2;simpa using r2
 ·rw [h,Zb] at r3;simpa using r3
 ·unfold zA at bA;rw [h] at bA;simpa using bA
 ·unfold zB at bB;rw [h] at bB;simpa using bB
 ·unfold zT at bT;rw [h] at bT;simpa using bT
 ·unfold zN at bN;rw [h] at bN;simpa using bN
 ·unfold zE at bE;rw [Z7 h,Zb] at bE;simpa using bE
 ·unfold zBo at bBo;rw [h] at bBo;simpa using bBo
 ·unfold zEl at bEl;rw [h] at bEl;simpa using bEl
 ·rw [h,Zb] at r6;have:=Qc r6;omega
theorem NA.fm {x:St}{f:Fm}{deep:Int}(h:NA x f deep):fmD x.d=f:=by rw [fmD,h.form];rfl
theorem FI (l:List Ex)(hF:nP l=0)(hok:gW l):(cE l).length≤102*cw l:=by
 have h1:=tM l hF hok;have hlen:=gj l;have:∀m:List Ex,(Lib.joinTail [44,32] (m.map exT)).length=((AA m).map fun q=>q.2.length).sum+2*m.length:=by
  intro m
  induction m with
  |nil=>rfl
  |cons y r ih =>
   rw [Lib.joinTail] at ih ⊢;simp only [List.map_cons,List.flatten_cons,Qd,ih,AA,List.sum_cons,Qn,Qy];omega
 unfold cE;cases l with
 |nil=>simp [Lib.join_nil]
 |cons y r =>
  rw [List.map_cons,Lib.join_cons,Qd,this];simp only [AA,List.map_cons,List.sum_cons,Qn] at h1 hlen;omega
theorem bS (k:Nat):(sV k).length=k:=List.length_replicate
mutual
theorem Mh:∀(x:St) (k:Nat),stG k x→AB x→k≤10→(stT k x).length≤1000*stN x
 |.mk d at_ a b t n e body els,k,hg,ho,hk=>by
  unfold stG at hg;obtain ⟨f,hf⟩:=uv hg.1;obtain ⟨oa,ob,ot,oe,o5,o6⟩:=gl.1 ho;have hh:=Im _ oa ob ot hf.n0 hf.n1;have hl:=FI e hf.ex oe;rw [CZ];unfold stN;have hfm:(fmD (St.mk d at_ a b t n e body els).d)=f:=hf.fm;rw [hfm];simp only [Qd,bS];cases hb:f.body with
  |false =>
   rw [if_neg (by decide)]
   simp only [Qd];have:(if (St.mk d at_ a b t n e body els).d=10 then ([41]:List UInt8) else []).length≤1:=by split<;>simp
   simp only [Qn,Qy];have:(cE (St.mk d at_ a b t n e body els).e).length≤102*cw e:=hl;omega
  |true =>
   have hd8:=hf.dp hb;have h1:=tm body (k+1) (by exact_mod_cast hg.2.1) o5 (by omega)
   have h2:=tm els (k+1) (by exact_mod_cast hg.2.2) o6 (by omega)
   rw [if_pos rfl];have hb1:(qG k (St.mk d at_ a b t n e body els).body).length≤1000*cc body+15:=by
    unfold qG;simp only [Qd,bS,Qn,Qy];have:(qX (k+1) (St.mk d at_ a b t n e body els).body).length≤1000*cc body:=h1;omega
   have hb2:(if (St.mk d at_ a b t n e body els).els.length=0 then [] else [32,101,108,115,101]++qG k (St.mk d at_ a b t n e body els).els).length≤1000*cc els+20:=by
    split
    ·simp
    ·unfold qG;simp only [Qd,bS,Qn,Qy];have:(qX (k+1) (St.mk d at_ a b t n e body els).els).length≤1000*cc els:=h2;omega
   simp only [Qd,Qn,Qy];have:(cE (St.mk d at_ a b t n e body els).e).length≤102*cw e:=hl;omega
theorem tm:∀(l:List St) (k:Nat),vL k l→ey l→k≤10→(qX k l).length≤1000*cc l
 |[],_,_,_,_=>by simp [qX]
 |x::r,k,hg,ho,hk=>by
  unfold vL at hg;unfold ey at ho;have h1:=Mh x k hg.1 ho.1 hk;have h2:=tm r k hg.2 ho.2 hk;unfold qX cc;rw [Qd];omega
end
structure PS (h0:Hp)(B b:Nat)(h:Hp)(d:Int)(l:List UInt8):Prop where
 k:KF h0 h
 lt:h0.size≤B
 hB:B≤h.size
 pg:Pg h B b d l
structure PK (B b:Nat)(h h':Hp):Prop where
 k:ar (fun k=>B≤k) h h'
 o:Oth b h h'
theorem PK.refl (B b:Nat)(h:Hp):PK B b h h:=⟨ar.refl _ _,fun _ _ hk _ _=>hk⟩
theorem PK.trans {B b:Nat}{h1 h2 h3:Hp}(a:PK B b h1 h2)(c:PK B b h2 h3):PK B b h1 h3:=⟨a.k.trans c.k,fun k o hk hn h5=>c.o k o (a.o k o hk hn h5) hn h5⟩
theorem PK.of {B b:Nat}{h h':Hp}(k:KF h h'):PK B b h h':=⟨k.mono fun _ _ h=>h.elim,fun i o hk _ _=>k.get hk (by simp)⟩
theorem PK.get {B b:Nat}{h h':Hp}(p:PK B b h h'){i:Nat}{c:Array Value}{t:TypeId}{f:Nat×Nat}(hi:h[i]?=some (.cells c t f))(hne:i≠b)(ht:t≠5):h'[i]?=some (.cells c t f) :=
 p.o i _ hi hne fun c' fz e=>by cases e;exact ht rfl
theorem PS.blk {h0:Hp}{B b:Nat}{h:Hp}{d:Int}{l:List UInt8}(ps:PS h0 B b h d l):∃p v,h[b]?=some (.cells [p,v,.int .i64 d].toArray 111 (0,0)):=by
 obtain ⟨p,v,_,_,hb,_⟩:=ps.pg;exact ⟨p,v,hb⟩
theorem PS.blt {h0:Hp}{B b:Nat}{h:Hp}{d:Int}{l:List UInt8}(ps:PS h0 B b h d l):b < h.size:=by
 obtain ⟨p,v,hb⟩:=ps.blk;exact gd hb
theorem PS.next {h0:Hp}{B b:Nat}{h h':Hp}{d d':Int}{l l':List UInt8}(ps:PS h0 B b h d l)(k:PK B b h h')(hp:Pg h' B b d' l'):PS h0 B b h' d' l' :=
 ⟨((ps.k.mono (S':=fun k=>B≤k) fun _ _ h=>h.elim).trans k.k).mono fun i hi e=>by have:=ps.lt;omega,ps.lt,Nat.le_trans ps.hB k.k.size,hp⟩
theorem PS.more {h0:Hp}{B b:Nat}{h h':Hp}{d:Int}{l:List UInt8}(ps:PS h0 B b h d l)(k:KF h h'):PS h0 B b h' d l :=
 ⟨ps.k.trans k,ps.lt,Nat.le_trans ps.hB k.size,ps.pg.more k⟩
theorem PS.deep {h0:Hp}{B b:Nat}{h:Hp}{d:Int}{l:List UInt8}(ps:PS h0 B b h d l)(d':Int){K:Hp→Prop}(hk:∀h',PS h0 B b h' d' l→PK B b h h'→K h'):aJ h ⟨b,2,none⟩ (.int .i64 d') K:=by
 obtain ⟨p,v,hp,hB,hb,hown,hne⟩:=ps.pg;refine aM hb (by simp) ?_
 have kk:=ar.set (S:=fun k=>k=b) (h:=h) (.cells (#[p,v,.int .i64 d].setIfInBounds 2 (.int .i64 d')) 111 (0,0)) (b:=b) rfl;have hb':=aq (o:=.cells (#[p,v,.int .i64 d].setIfInBounds 2 (.int .i64 d')) 111 (0,0)) hb;have pk:PK B b h (h.setIfInBounds b (.cells (#[p,v,.int .i64 d].setIfInBounds 2 (.int .i64 d')) 111 (0,0))):=⟨kk.mono fun i _ e=>by omega,fun i o hi hn _=>kk.get hi hn⟩
 refine hk _ (ps.next pk ⟨p,v,hp,hB,by simpa using hb',vK hown fun g hg hl=>kk.block g hl fun e=>?_,hne⟩) pk
 exact hne (by rw [hg,e])
abbrev strs (xs:List ByteArray):List Value:=xs.map .string
section
variable  {ω:Amb}{h0:Hp}{B b:Nat}
theorem GA (hω:ω.low=0){h:Hp}{d:Int}{l:List UInt8}(ps:PS h0 B b h d l)(xs:List ByteArray){g:Nat}(hg:h[g]?=some (.cells (strs xs).toArray 9 (0,0)))(hgb:g≠b)(hx:xs.length≤1000)
  (hl:l.length+(xs.flatMap bytesOf).length≤100000000) (X:XT) :
  aa Tryz.prog ω iF [wp b,.slice (some ⟨g,0,none⟩) xs.length xs.length] h (fun _ h'=>PS h0 B b h' d (l++xs.flatMap bytesOf)∧PK B b h h') X:=by
 refine qw ω _ _ h _ X ?_;unfold ja;rw [asSl_sl];refine ⟨fun t h'=>∃k:Nat,t=.int .i64 k∧k≤xs.length∧PS h0 B b h' d (l++(xs.take k).flatMap bytesOf)∧PK B b h h',fun t _=>match t with|.int _ k=>xs.length - k.toNat|_=>0,
  ⟨0,rfl,by omega,by simpa using ps,PK.refl _ _ _⟩,?_⟩
 rintro _ _ h2 ⟨k,rfl,hk,ps2,pk2⟩;rw [asK_int];refine ae (fun hc=>?_) (fun hc=>?_)
 ·have hkl:k < xs.length:=by
   have:=Qj hc;omega
  have hx':=Q7 hkl;generalize xs[k]=s at hx';have hg2:=pk2.get hg hgb (by decide)
  have hsp:xs.flatMap bytesOf=(xs.take k).flatMap bytesOf++(bytesOf s++(xs.drop (k+1)).flatMap bytesOf):=by
   conv=>lhs;rw [←Q8 k xs,gT hx']
   rw [Qb,Ql]
  have hsp:=congrArg List.length hsp;simp only [Qd,aH] at hsp;rw [asSl1_sl,asI_int];refine ⟨by omega,by omega,.string s,?_,?_⟩
  ·rw [aP,Qm,Nat.mul_one,Zc,bi hg2];simp [strs,hx']
  rw [nnK_ptr,asP_some,aP];refine aa.use (DN hω ps2.pg s (by rw [Qd];omega) ps2.hB) ?_
  rintro _ h3 ⟨hp3,k3,o3⟩;have pk3:PK B b h2 h3:=⟨k3,o3⟩;rw [asK_int,i64_in (by omega) (by omega)]
  refine ⟨⟨k+1,by simp,by omega,?_,pk2.trans pk3⟩,by simp;omega⟩
  rw [aZ hx',Qb,←Qk];simpa using ps2.next pk3 hp3
 ·have hc:=Qc hc;obtain rfl:k=xs.length:=by omega
  rw [Qo] at ps2;exact ⟨ps2,pk2⟩
theorem qF (hω:ω.low=0){h:Hp}{d:Int}{l:List UInt8}(ps:PS h0 B b h d l)(xs:List ByteArray)(n:Nat)(hn:n=xs.length)(hx:xs.length≤1000)
  (hl:l.length+(xs.flatMap bytesOf).length≤100000000) (X:XT) :
  aa Tryz.prog ω iF [wp b,.slice (some ⟨h.size,0,none⟩) n n] (h.push (.cells (strs xs).toArray 9 (0,0))) (fun _ h'=>PS h0 B b h' d (l++xs.flatMap bytesOf)∧PK B b h h') X:=by
 subst hn;have kp:=ar.push (S:=fun _=>False) h (.cells (strs xs).toArray 9 (0,0));refine aa.use (GA hω (ps.more kp) xs ah (by have:=ps.blt;omega) hx hl) ?_
 rintro _ h3 ⟨ps3,pk3⟩;exact ⟨ps3,(PK.of kp).trans pk3⟩
theorem wQ (hω:ω.low=0){h:Hp}{d:Nat}{l:List UInt8}(ps:PS h0 B b h d l)(hd:d≤10)(xs:List ByteArray)(n:Nat)(hn:n=xs.length)(hx:xs.length≤1000)
  (hl:l.length+(d+(xs.flatMap bytesOf).length)≤100000000) (X:XT) :
  aa Tryz.prog ω pP [wp b,.slice (some ⟨h.size,0,none⟩) n n] (h.push (.cells (strs xs).toArray 9 (0,0))) (fun _ h'=>PS h0 B b h' d (l++(sV d++xs.flatMap bytesOf))∧PK B b h h') X:=by
 subst hn;have kp:=ar.push (S:=fun _=>False) h (.cells (strs xs).toArray 9 (0,0));have hg:=ah (h:=h) (o:=.cells (strs xs).toArray 9 (0,0));have hgb:h.size≠b:=by have:=ps.blt;omega
 generalize h.push (.cells (strs xs).toArray 9 (0,0))=h1 at *;have ps1:=ps.more kp;refine pZ ω _ _ h1 _ X ?_;unfold hZ;show ∃v1,_;obtain ⟨p,v,hbk⟩:=ps1.blk;refine lx hbk (j:=2) rfl ?_;refine aa.use (D7 hω ⟨#[9]⟩ d (by omega) (by decide) h1) ?_
 rintro _ h2 ⟨rfl,k2⟩;rw [oneK_str];have ps2:=ps1.more k2;have hg2:=k2.get hg (by simp)
 have htab:([⟨(Lib.repeatL (ByteArray.mk #[9]).data.toList d).toArray⟩]:List ByteArray).flatMap bytesOf=sV d:=by
  simp only [Ql,List.flatMap_nil,Z1];have:=Lib.repeatL_replicate 9 1 d;show bytesOf ⟨(Lib.repeatL (List.replicate 1 9) d).toArray⟩=_;rw [this,Nat.mul_one];exact aF _
 refine aa.use (qF hω ps2 [⟨(Lib.repeatL (ByteArray.mk #[9]).data.toList d).toArray⟩] 1 rfl (by simp) (by rw [htab,bS];omega)) ?_
 rintro _ h3 ⟨ps3,pk3⟩;rw [htab] at ps3;have hg3:=pk3.get hg2 hgb (by decide)
 refine aa.use (GA hω ps3 xs hg3 hgb hx (by rw [Qd,bS];omega)) ?_
 rintro _ h4 ⟨ps4,pk4⟩;rw [Qk] at ps4;exact ⟨ps4,(((PK.of kp).trans (PK.of k2)).trans pk3).trans pk4⟩
end
section
variable  {ω:Amb}{h0:Hp}{B b:Nat}
def GX (ω:Amb)(h0:Hp)(B b:Nat)(l:List St):Prop:=∀(h:Hp) (v:Value) (d:Nat) (L:List UInt8),StS h0 v l→PS h0 B b h d L→vL (d+1) l→d≤7→L.length+(qG d l).length≤100000000→∀(X:XT),
 aa Tryz.prog ω oH [wp b,v] h (fun _ h'=>PS h0 B b h' d (L++qG d l)∧PK B b h h') X
set_option maxHeartbeats 400000 in
theorem FA (hω:ω.low=0)(ht0:fe h0)(x:St)(hle:stN x≤80000)(hok:AB x)(hB:GX ω h0 B b x.body)(hE:GX ω h0 B b x.els)(h:Hp)(ve vb vl:Value)(d:Nat)(L:List UInt8)(he:ExS h0 ve x.e)(hbd:StS h0 vb x.body)(hel:StS h0 vl x.els)
  (ps:PS h0 B b h d L) (hg:stG d x) (hd:d≤8) (hlen:L.length+(stT d x).length≤100000000) (X:XT) :
  aa Tryz.prog ω pM [wp b,.agg (stC x ve vb vl).toArray] h (fun _ h'=>PS h0 B b h' d (L++stT d x)∧PK B b h h') X:=by
 refine qb ω _ _ h _ X ?_;unfold ib;simp only [show Value.cells (.agg (stC x ve vb vl).toArray)=(stC x ve vb vl).toArray from rfl]
 obtain ⟨oa,ob,ot,oe,o5,o6⟩:=gl.1 hok;obtain ⟨hg1,hg2,hg3⟩:=nT.1 hg;obtain ⟨f,hf⟩:=uv hg1;have hxe:=jN x;have hT:=CZ d x;rw [hf.fm] at hT;have hb1:=ah (h:=h) (o:=.cells (stC x ve vb vl).toArray 39 (0,0));have kp:=ar.push (S:=fun _=>False) h (.cells (stC x ve vb vl).toArray 39 (0,0));have hL1:h.size≠b:=by have:=ps.blt;omega
 generalize h.push (.cells (stC x ve vb vl).toArray 39 (0,0))=h1 at *;have ps1:=ps.more kp;refine ⟨_,ak hb1 rfl,?_⟩;refine lx hb1 (j:=6) rfl ?_;refine aa.use (IN hω x ve vb vl h1 oa ob ot hf.n0 hf.n1 (ht0.more ps1.k)) ?_;rintro _ h2 ⟨rfl,k2⟩;have hb2:=k2.get hb1 (by simp)
 have ps2:=ps1.more k2;refine ⟨lx' hb2 rfl,?_⟩;refine aa.use (IU hω x.e (by omega) oe hf.ex h2 ve (he.aC ps2.k) (ht0.more ps2.k)) ?_
 rintro _ h3 ⟨rfl,k3⟩;have hb3:=k3.get hb2 (by simp)
 have ps3:=ps2.more k3;rw [oneK_str,oneK_str];have hfm:[bs (bO x),bs (cE x.e)].flatMap bytesOf=bO x++cE x.e:=by
  simp only [Ql,List.flatMap_nil,aF,Z1]
 have hTl:=congrArg List.length hT;simp only [Qd,bS] at hTl;refine aa.use (wQ hω ps3 (by omega) [bs (bO x),bs (cE x.e)] 2 rfl (by simp) (by rw [hfm,Qd];omega)) ?_
 rintro _ h4 ⟨ps4,pk4⟩;rw [hfm] at ps4;have hb4:=pk4.get hb3 hL1 (by decide)
 have pk04:=(((PK.of kp).trans (PK.of k2)).trans (PK.of k3)).trans pk4;refine lx hb4 (j:=0) rfl ?_;refine aa.use (EF x.d h4) ?_;rintro _ h5 ⟨rfl,k5⟩;have hb5:=k5.get hb4 (by simp)
 have ps5:=ps4.more k5;rw [EW,IJ,asA_agg,hf.fm];refine ⟨rfl,AI f,aA (cs:=fmC f) rfl ?_⟩;have hf6:=ah (h:=h5) (o:=.cells (fmC f).toArray 165 (0,0));have k6:=ar.push (S:=fun _=>False) h5 (.cells (fmC f).toArray 165 (0,0));generalize h5.push (.cells (fmC f).toArray 165 (0,0))=h6 at *;have hb6:=k6.get hb5 (by simp)
 have ps6:=ps5.more k6;have pk06:=(pk04.trans (PK.of k5)).trans (PK.of k6);refine lx hf6 (j:=5) rfl ?_;rw [asB_bool];refine ae (fun hc=>?_) (fun hc=>?_)
 ·have hbo:f.body=false:=by simpa using hc
  rw [hbo,if_neg (by decide)] at hT hTl
  simp only [Qd,Qn,Qy] at hTl;refine lx hb6 (j:=0) rfl ?_;rw [asK_int];refine ⟨fun h'=>PS h0 B b h' d (L++(sV d++(bO x++cE x.e))++(if x.d=10 then [41] else []))∧PK B b h h',ae (fun hc=>?_) (fun hc=>?_),?_⟩
  ·have h10:x.d=10:=Zg hc;rw [if_pos h10] at hTl ⊢;refine aa.use (qF hω ps6 [bs [41]] 1 rfl (by simp) (by simp only [Ql,List.flatMap_nil,aF,Z1,Qd,Qn,Qy,bS] at *;omega)) ?_
   rintro _ h7 ⟨ps7,pk7⟩;simp only [Ql,List.flatMap_nil,aF,Z1] at ps7;exact ⟨ps7,pk06.trans pk7⟩
  ·have h10:¬x.d=10:=Qa.1 hc;rw [if_neg h10,Z1];exact ⟨ps6,pk06⟩
  ·rintro _ h7 ⟨ps7,pk7⟩;refine aa.use (qF hω ps7 [bs [59,10]] 1 rfl (by simp) (by simp only [Ql,List.flatMap_nil,aF,Z1,Qd,Qn,Qy,bS] at *;omega)) ?_
   rintro _ h8 ⟨ps8,pk8⟩;refine ⟨?_,pk7.trans pk8⟩;simp only [Ql,List.flatMap_nil,aF,Z1] at ps8;rw [hT];simp only [Qk] at ps8 ⊢;exact ps8
 ·have hbo:f.body=true:=by simpa using hc
  have hd8:=hf.dp hbo;rw [hbo,if_pos rfl] at hT hTl;simp only [Qd,Qn,Qy] at hTl;refine lx hb6 (j:=7) rfl ?_;refine aa.use (hB h6 vb d _ hbd ps6 hg2 (by omega) (by simp only [Qd,bS];omega)) ?_
  rintro _ h7 ⟨ps7,pk7⟩;have hb7:=pk7.get hb6 hL1 (by decide)
  have pk07:=pk06.trans pk7;refine lx hb7 (j:=8) rfl ?_;refine (hel.aC ps7.k).sl fun _ _=>?_;refine ⟨fun h'=>PS h0 B b h' d (L++(sV d++(bO x++cE x.e))++qG d x.body++(if x.els.length=0 then [] else [32,101,108,115,101]++qG d x.els))∧PK B b h h',ae (fun hc=>?_) (fun hc=>?_),?_⟩
  ·have hne:¬x.els.length=0:=by
    have:=Qj hc;omega
   rw [if_neg hne] at hTl ⊢;simp only [Qd,Qn,Qy] at hTl;refine aa.use (qF hω ps7 [bs [32,101,108,115,101]] 1 rfl (by simp) (by simp only [Ql,List.flatMap_nil,aF,Z1,Qd,Qn,Qy,bS] at *;omega)) ?_
   rintro _ h8 ⟨ps8,pk8⟩;simp only [Ql,List.flatMap_nil,aF,Z1] at ps8;have hb8:=pk8.get hb7 hL1 (by decide)
   refine lx hb8 (j:=8) rfl ?_;refine aa.use (hE h8 vl d _ hel ps8 hg3 (by omega) (by simp only [Qd,Qn,Qy,bS];omega)) ?_
   rintro _ h9 ⟨ps9,pk9⟩;refine ⟨?_,(pk07.trans pk8).trans pk9⟩;simp only [Qk] at ps9 ⊢;exact ps9
  ·have hne:x.els.length=0:=by
    have:=Qc hc;omega
   rw [if_pos hne,Z1];exact ⟨ps7,pk07⟩
  ·rintro _ h8 ⟨ps8,pk8⟩;refine aa.use (qF hω ps8 [bs [10]] 1 rfl (by simp) (by simp only [Ql,List.flatMap_nil,aF,Z1,Qd,Qn,Qy,bS] at *;omega)) ?_
   rintro _ h9 ⟨ps9,pk9⟩;refine ⟨?_,pk8.trans pk9⟩;simp only [Ql,List.flatMap_nil,aF,Z1] at ps9;rw [hT];simp only [Qk] at ps9 ⊢;exact ps9
set_option maxHeartbeats 400000 in
theorem D4 (hω:ω.low=0)(ht0:fe h0):∀(N:Nat) (l:List St),cc l < N→cc l≤80000→ey l→GX ω h0 B b l:=by
 intro N
 induction N with
 |zero=>exact fun l hN=>absurd hN (Nat.not_lt_zero _)
 |succ N ih =>
  intro l hN hle hok h v d L hs ps hg hd hlen X;refine oP ω _ _ h _ X ?_;unfold gy;have hll:=pz l;have hbl:(qG d l).length=3+(qX (d+1) l).length+d+1:=by
   unfold qG;simp only [Qd,bS,Qn,Qy]
  refine aa.use (qF hω ps [bs [32,123,10]] 1 rfl (by simp) (by simp only [Ql,List.flatMap_nil,aF,Z1,Qn,Qy];omega)) ?_
  rintro _ h1 ⟨ps1,pk1⟩;simp only [Ql,List.flatMap_nil,aF,Z1] at ps1;show ∃v3,_;obtain ⟨pp,pv,hbk⟩:=ps1.blk;refine lx hbk (j:=2) rfl ?_;rw [asK_int,i64_in (by omega) (by omega),nnK_ptr,asP_some,aP]
  refine ps1.deep ((d:Int)+1) fun h2 ps2 pk2=>?_;have pk02:=pk1.trans pk2;refine (hs.aC ps2.k).sl fun _ _=>?_;refine ⟨fun t h'=>∃k:Nat,t=.int .i64 k∧k≤l.length∧PS h0 B b h' ((d+1:Nat):Int) (L++[32,123,10]++qX (d+1) (l.take k))∧PK B b h h',fun t _=>match t with|.int _ k=>l.length - k.toNat|_=>0,
   ⟨0,rfl,by omega,by simpa [qX] using ps2,pk02⟩,?_⟩
  rintro _ _ h3 ⟨k,rfl,hk,ps3,pk3⟩;rw [asK_int];refine ae (fun hc=>?_) (fun hc=>?_)
  ·have hkl:k < l.length:=by
    have:=Qj hc;omega
   have hx:=Q7 hkl;have hdr:=gT hx;have hmem:l[k]∈l:=Qv hkl;generalize l[k]=x at hx hmem hdr;have hxn:=im hmem;have hxe:=jN x;have hxo:=oT hok hmem;obtain ⟨_,_,_,_,hob,hoe⟩:=gl.1 hxo;have hsp:=tC (d+1) (l.take k) (l.drop k);rw [Q8,hdr] at hsp;have hsp:=congrArg List.length hsp;simp only [qX,Qd] at hsp;refine hs.zU ps3.k hx fun ve vb vl he hbd hel=>?_;refine ⟨rfl,qt he.b8 hbd.b8 hel.b8,aA (cs:=stC x ve vb vl) rfl ?_⟩
   have hb4:=ah (h:=h3) (o:=.cells (stC x ve vb vl).toArray 39 (0,0));have k4:=ar.push (S:=fun _=>False) h3 (.cells (stC x ve vb vl).toArray 39 (0,0));generalize h3.push (.cells (stC x ve vb vl).toArray 39 (0,0))=h4 at *;refine ⟨_,ak hb4 rfl,?_⟩;have hgx:stG ((d+1:Nat):Int) x:=tA hg hmem;have hd8:d+1≤8:=by omega
   refine aa.use (FA hω ht0 x (by omega) hxo (ih x.body (by omega) (by omega) hob) (ih x.els (by omega) (by omega) hoe) h4 ve vb vl (d+1) _ he hbd hel (ps3.more k4) hgx hd8 (by simp only [Qd,Qn,Qy];omega)) ?_
   rintro _ h5 ⟨ps5,pk5⟩;rw [asK_int,i64_in (by omega) (by omega)]
   refine ⟨⟨k+1,by simp,by omega,?_,(pk3.trans (PK.of k4)).trans pk5⟩,by simp;omega⟩
   rw [aZ hx,zK,←Qk];exact ps5
  ·have hc:=Qc hc;obtain rfl:k=l.length:=by omega
   rw [Qo] at ps3;show ∃v3,_;obtain ⟨pp,pv,hbk⟩:=ps3.blk;refine lx hbk (j:=2) rfl ?_;rw [asK_int,i64_in (by omega) (by omega),nnK_ptr,asP_some,aP]
   refine ps3.deep _ fun h4 ps4 pk4=>?_;rw [show ((d+1:Nat):Int) - 1=(d:Int) by omega] at ps4
   refine aa.use (wQ hω ps4 (by omega) [bs [125]] 1 rfl (by simp) (by simp only [Ql,List.flatMap_nil,aF,Z1,Qd,Qn,Qy];omega)) ?_
   rintro _ h5 ⟨ps5,pk5⟩;refine ⟨?_,(pk3.trans pk4).trans pk5⟩;simp only [Ql,List.flatMap_nil,aF,Z1,Qk] at ps5;unfold qG;simp only [Qk];exact ps5
end
def prT (q:ByteArray×ByteArray):List UInt8:=bytesOf q.1++[32]++th q.2
def tK (ps:List (ByteArray×ByteArray)):List UInt8:=Lib.join (ps.map prT) [44,32]
def sgT (s:Sg):List UInt8:=[115,116,97,103,101,32]++bytesOf s.nm++[40]++tK s.ps++[41]++qG 0 s.body++[10]
def pgT (p:List Sg):List UInt8:=p.flatMap sgT
structure KM (s:Sg):Prop where
 nm:aL s.nm=true
 pl:s.ps.length≤6
 ps:∀q∈s.ps,aL q.1=true∧ck q.2 3=true
 body:vL 1 s.body
structure NL (p:List Sg):Prop where
 ne:p.length≠0
 len:p.length≤10
 ok:∀s∈p,KM s
theorem Lf:∀{l:List (ByteArray×ByteArray)},rV l=0→∀q∈l,aL q.1=true∧ck q.2 3=true
 |[],_,q,hq=>absurd hq List.not_mem_nil
 |y::r,h,q,hq=>by
  unfold rV at h;obtain ⟨h1,h2⟩:=lg h;obtain ⟨h3,h4⟩:=lg h1;rcases List.mem_cons.1 hq with rfl|hq
  ·have h3:=if0 (by decide) h3
   have h4:=if0 (by decide) h4
   exact ⟨by simpa using h3,by simpa using h4⟩
  ·exact Lf h2 q hq
theorem Fv:∀{p:List Sg} {i m n:Int},uZ p i m=.ok n→∀s∈p,KM s
 |[],_,_,_,_,s,hs=>absurd hs List.not_mem_nil
 |x::r,i,m,n,h,s,hs=>by
  unfold uZ at h
  split at h
  ·cases h
  rename_i h0;have h0:sgH x=0:=Decidable.not_not.1 h0;obtain ⟨m1,h1,h2⟩:=kX h;rcases List.mem_cons.1 hs with rfl|hs
  ·unfold sgH at h0;obtain ⟨a1,a2⟩:=lg h0;obtain ⟨a3,a4⟩:=lg a2;have a1:=if0 (by decide) a1
   have a3:=if0 (by decide) a3
   refine ⟨by simpa using a1,?_,Lf a4,xx _ h1⟩
   have:=Qc a3;omega
  ·exact Fv h2 s hs
theorem Bx {p:List Sg}{n:Int}(h:bC p=.ok n):NL p:=by
 unfold bC at h
 split at h
 ·cases h
 rename_i h0
 split at h
 ·cases h
 rename_i h1;exact ⟨h0,by omega,Fv h⟩
theorem LD (q:ByteArray×ByteArray)(h1:q.1.size≤100)(h2:q.2.size≤100):(prT q).length≤610:=by
 have:=qZ q.2;unfold prT;simp only [Qd,aH,Qn,Qy];omega
theorem join_le (l:List (List UInt8))(n:Nat)(h:∀x∈l,x.length≤n):(Lib.join l [44,32]).length≤(n+2)*l.length:=by
 have:∀m:List (List UInt8),(∀x∈m,x.length≤n)→(Lib.joinTail [44,32] m).length≤(n+2)*m.length:=by
  intro m
  induction m with
  |nil=>intro _;simp [Lib.joinTail]
  |cons y r ih =>
   intro h;rw [Lib.joinTail] at ih ⊢;have h1:=h y (Qg ..);have h2:=ih fun x hx=>h x (Q9 _ hx);simp only [List.map_cons,List.flatten_cons,Qd,Qn,Qy];rw [Nat.mul_succ];omega
 cases l with
 |nil=>simp [Lib.join_nil]
 |cons y r =>
  rw [Lib.join_cons,Qd,Qn,Nat.mul_succ];have h1:=h y (Qg ..);have h2:=this r fun x hx=>h x (Q9 _ hx);omega
theorem xw (ps:List (ByteArray×ByteArray))(h:∀q∈ps,okN q.1∧okN q.2):(tK ps).length≤612*ps.length:=by
 have:=join_le (ps.map prT) 610 fun x hx=>by
  obtain ⟨q,hq,rfl⟩:=List.mem_map.1 hx;exact LD q (h q hq).1 (h q hq).2
 rw [Z6] at this;exact this
theorem LG (s:Sg)(hn:okS s)(ho:KM s):(sgT s).length≤5000+1000*cc s.body:=by
 obtain ⟨h1,h2,h3,h4⟩:=hn;have hp:=xw s.ps h3;have hb:=tm s.body 1 ho.body h4 (by omega)
 have h6:=ho.pl;have h1:s.nm.size≤100:=h1;unfold sgT qG;simp only [Qd,aH,Qn,Qy,bS];have:612*s.ps.length≤612*6:=Nat.mul_le_mul_left _ h6;have hb:(qX (0+1) s.body).length≤1000*cc s.body:=hb;omega
theorem AK:∀(p:List Sg),(∀s∈p,okS s∧KM s)→(pgT p).length≤5000*p.length+1000*(p.map fun s=>cc s.body).sum
 |[],_=>by simp [pgT]
 |s::r,h=>by
  have h1:=h s (Qg ..);have h2:=AK r fun x hx=>h x (Q9 _ hx);have h3:=LG s h1.1 h1.2;unfold pgT at h2 ⊢;simp only [Ql,Qd,List.map_cons,List.sum_cons,Qn];omega
section
variable  {ω:Amb}
set_option maxHeartbeats 400000 in
theorem ES (hω:ω.low=0)(p:List Sg)(hsm:Small p)(hok:NL p)(v:Value)(h:Hp)(hp:PgS h v p)(ht:fe h)(X:XT) :
  aa Tryz.prog ω vr [v] h (fun r h'=>r=.string (bs (pgT p))∧KF h h') X:=by
 obtain ⟨w0,rfl,hs⟩:=hp;refine vB ω _ h _ X ?_;unfold qd cv;simp only [show Value.cells (.agg #[w0])=[w0].toArray from rfl]
 have hlen:=hok.len;have htl:=AK p fun s hs=>⟨hsm.nm s hs,hok.ok s hs⟩;have htot:=hsm.tot;have hb0:=ah (h:=h) (o:=.cells [w0].toArray 24 (0,0));have k0:=ar.push (S:=fun _=>False) h (.cells [w0].toArray 24 (0,0));have z0:(h.push (.cells [w0].toArray 24 (0,0))).size=h.size+1:=by simp
 generalize h.push (.cells [w0].toArray 24 (0,0))=h1 at *;have hbP:=ah (h:=h1) (o:=.cells #[.pointer none,.slice none 0 0,.int .i64 0] 111 (0,0));have k1:=ar.push (S:=fun _=>False) h1 (.cells #[.pointer none,.slice none 0 0,.int .i64 0] 111 (0,0));generalize h1.push (.cells #[.pointer none,.slice none 0 0,.int .i64 0] 111 (0,0))=h2 at *;have hb0:=k1.get hb0 (by simp)
 have ps2:PS h1 h1.size h1.size h2 ((0:Nat):Int) []:=⟨k1,Zd _,k1.size,Pg.new (Zd _) hbP⟩;have hs1:=hs.aC k0;have ht1:=ht.more k0;refine lx hb0 (j:=0) rfl ?_;refine (hs1.aC k1).sl fun _ _=>?_;refine ⟨fun t h'=>∃k:Nat,t=.int .i64 k∧k≤p.length∧PS h1 h1.size h1.size h' ((0:Nat):Int) (pgT (p.take k))∧PK h1.size h1.size h2 h',fun t _=>match t with|.int _ k=>p.length - k.toNat|_=>0,
  ⟨0,rfl,by omega,ps2,PK.refl _ _ _⟩,?_⟩
 rintro _ _ h3 ⟨k,rfl,hk,ps3,pk3⟩;have hb03:=pk3.get hb0 (by omega) (by decide)
 rw [asK_int];refine ae (fun hc=>?_) (fun hc=>?_)
 rotate_left
 ·have hc:=Qc hc;obtain rfl:k=p.length:=by omega
  rw [Qo] at ps3;rw [aP];have hne:pgT p≠[]:=by
   unfold pgT;cases p with
   |nil=>exact absurd rfl hok.ne
   |cons s r=>simp [sgT]
  refine aa.use (Bp hω ps3.pg hne) ?_;rintro _ h4 ⟨rfl,k4⟩;refine ⟨rfl,?_⟩;have k03:=k0.trans ps3.k;exact ((k03.mono (S':=fun b=>h1.size≤b) fun _ _ h=>h.elim).trans k4).mono fun b hb e=>by omega
 have hkl:k < p.length:=by
  have:=Qj hc;omega
 have hx:=Q7 hkl;have hdr:=gT hx;have hmem:p[k]∈p:=Qv hkl;generalize p[k]=x at hx hmem hdr;have hxok:=hok.ok x hmem;obtain ⟨hnm,hpl,hpn,hbo⟩:=hsm.nm x hmem;have hxb:cc x.body≤20000:=Nat.le_trans (ue hmem) hsm.tot;have hpp:=xw x.ps hpn;have hpl6:=hxok.pl;have hsp:pgT p=pgT (p.take k)++(sgT x++pgT (p.drop (k+1))):=by
  conv=>lhs;rw [←Q8 k p,hdr]
  unfold pgT;rw [Qb,Ql]
 have hsp:=congrArg List.length hsp;simp only [Qd] at hsp;refine hs1.zU ps3.k hx fun vp vb hps hbd=>?_;refine ⟨rfl,lY (ew hps.2) hbd.b8,aA (cs:=sgC x vp vb) rfl ?_⟩;have hb4:=ah (h:=h3) (o:=.cells (sgC x vp vb).toArray 41 (0,0));have k4:=ar.push (S:=fun _=>False) h3 (.cells (sgC x vp vb).toArray 41 (0,0));have hL:h3.size≠h1.size:=by have:=ps3.blt;omega
 generalize h3.push (.cells (sgC x vp vb).toArray 41 (0,0))=h4 at *;have ps4:=ps3.more k4;refine lx hb4 (j:=2) rfl ?_;refine bm.sl (hps.1.aC ps4.k) fun _ _=>?_;refine ⟨fun o t h'=>∃j:Nat,t=.int .i64 j∧j≤x.ps.length∧bX h' h4.size 9 1 o j (((x.ps.take j).map fun q=>bs (prT q)).map .string)∧KF h4 h',
  fun _ t _=>match t with|.int _ j=>x.ps.length - j.toNat|_=>0,⟨0,rfl,by omega,bX.nil,ar.refl _ _⟩,?_⟩
 rintro out _ _ h5 ⟨j,rfl,hj,ho,k5⟩;have hb5:=k5.get hb4 (by simp)
 have ps5:=ps4.more k5;rw [asK_int];refine ae (fun hc=>?_) (fun hc=>?_)
 ·have hjl:j < x.ps.length:=by
   have:=Qj hc;omega
  have hy:=Q7 hjl;have hqm:x.ps[j]∈x.ps:=Qv hjl;generalize x.ps[j]=q at hy hqm;obtain ⟨hq1,hq2⟩:=hpn q hqm;have hq1:q.1.size≤100:=hq1;have hq2:q.2.size≤100:=hq2;have hkl:=qZ q.2;refine bm.rdS (f:=pf) (hps.1.aC ps5.k) ic hy ?_;refine ⟨rfl,CT q,aA (cs:=pf q) rfl ?_⟩;have hb6:=ah (h:=h5) (o:=.cells (pf q).toArray 32 (0,0));have k6:=ar.push (S:=fun _=>False) h5 (.cells (pf q).toArray 32 (0,0));generalize h5.push (.cells (pf q).toArray 32 (0,0))=h6 at *
  refine lx hb6 (j:=0) rfl ?_;rw [asS_str,lit,aK];simp only [Qn,Qy];refine ⟨by omega,?_⟩
  refine lx hb6 (j:=1) rfl ?_;refine aa.use (zO hω q.2 (by omega) h6) ?_
  rintro _ h7 ⟨rfl,k7⟩;have hb7:=k7.get hb6 (by simp)
  refine ⟨lx' hb7 rfl,?_⟩;rw [asS_str,dQ,aK,aK];simp only [Qn,Qy];refine ⟨by omega,?_⟩
  have hstr:(q.1++bs [32])++bs (th q.2)=bs (prT q):=bG (by rw [aF];simp only [cB,aF];rfl)
  rw [hstr];have k57:=k6.trans k7;have hlt:=ho.lt;refine dR (bt:=16) (cs:=[.string (bs (prT q))]) (by kernel_rfl) (ho.more k57) rfl (fun u hu=>by obtain rfl:=Qf.1 hu;rfl) (by omega) (by omega) (by have:=k5.size;have:=k57.size;omega) fun w2 h8 ho2 hg _ hv=>?_
  have k8:ar (fun b=>some b=out.ownBlock) h7 h8:=ar.grown hg fun b hb _=>hb.symm;have k08:KF h4 h8:=(((k5.trans k57).mono (S':=fun b=>some b=out.ownBlock) (fun _ _ h=>h.elim)).trans k8).mono fun b hb e=>by have:=hlt b e.symm;omega
  rw [asK_int,i64_in (by omega) (by omega)]
  refine ⟨⟨j+1,by simp,by omega,?_,k08⟩,by simp;omega⟩
  rw [aZ hy,List.map_append,List.map_append];exact ho2
 ·have hc:=Qc hc;obtain rfl:j=x.ps.length:=by omega
  rw [Qo] at ho;have hj:Lib.join ((x.ps.map fun q=>bs (prT q)).map (·.data.toList)) (⟨#[44,32]⟩:ByteArray).data.toList=tK x.ps:=by
   unfold tK
   congr 1
   rw [List.map_map];exact List.map_congr_left fun x _=>aF _
  refine lx hb5 (j:=0) rfl ?_;refine aa.use (Cs hω (x.ps.map fun q=>bs (prT q)) ⟨#[44,32]⟩ h5 (by rw [Z6];exact ho) (by rw [Z6];omega) (by rw [hj];omega)) ?_
  rintro _ h6 ⟨rfl,k6⟩;rw [hj];have hb6:=k6.get hb5 (by simp)
  have ps6:=ps5.more k6;refine ⟨lx' hb6 rfl,?_⟩;rw [oneK_str,oneK_str];have hfm:[bs [115,116,97,103,101,32],x.nm,bs [40],bs (tK x.ps),bs [41]].flatMap bytesOf=[115,116,97,103,101,32]++(bytesOf x.nm++([40]++(tK x.ps++[41]))):=by
   simp only [Ql,List.flatMap_nil,aF,Z1]
  have hnm:x.nm.size≤100:=hnm;have hsl:(sgT x).length=8+x.nm.size+(tK x.ps).length+(qG 0 x.body).length+1:=by
   unfold sgT;simp only [Qd,aH,Qn,Qy];omega
  refine aa.use (wQ hω ps6 (by omega) [bs [115,116,97,103,101,32],x.nm,bs [40],bs (tK x.ps),bs [41]] 5 rfl (by simp) (by rw [hfm];simp only [Qd,aH,Qn,Qy];omega)) ?_
  rintro _ h7 ⟨ps7,pk7⟩;rw [hfm] at ps7;have hb7:=pk7.get hb6 hL (by decide)
  refine lx hb7 (j:=3) rfl ?_;refine aa.use (D4 hω ht1 _ x.body (Qw _) (by omega) hbo h7 vb 0 _ hbd ps7 (by exact hxok.body) (by omega) (by simp only [Qd,aH,Qn,Qy,bS];omega)) ?_
  rintro _ h8 ⟨ps8,pk8⟩;refine aa.use (qF hω ps8 [bs [10]] 1 rfl (by simp) (by simp only [Ql,List.flatMap_nil,aF,Z1,Qd,aH,Qn,Qy,bS];omega)) ?_
  rintro _ h9 ⟨ps9,pk9⟩;rw [asK_int,i64_in (by omega) (by omega)]
  refine ⟨⟨k+1,by simp,by omega,?_,(((((pk3.trans (PK.of k4)).trans (PK.of k5)).trans (PK.of k6)).trans pk7).trans pk8).trans pk9⟩,by simp;omega⟩
  have he:pgT (p.take (k+1))=pgT (p.take k)++sgT x:=by
   rw [aZ hx];unfold pgT;rw [Qb];simp
  rw [he];simp only [Ql,List.flatMap_nil,aF,Z1,Qk] at ps9;unfold sgT;simp only [Qk];exact ps9
end
end Go.Proofs.YtkeeboomikkojaaGreatDoor
