import Derived.Test.YtkeeboomikkojaaGreatDoorRn4
namespace Go.Proofs.YtkeeboomikkojaaGreatDoor
open Go Go.Sx Go.Sx.Tk Go.Sx.Rn Go.Proofs.YtkeeboomikkojaaGreatDoor.Sx
def ra (k:Nat):List UInt8:=List.replicate k 9
mutual
def stT (k:Nat):St→List UInt8
 |.mk d at_ a b t n e body els=>ra k++bf (.mk d at_ a b t n e body els)++cb e ++
  (if (fmD d).body then ([32,123,10]++pS (k+1) body++ra k++[125])++(if els.length=0 then [] else [32,101,108,115,101]++([32,123,10]++pS (k+1) els++ra k++[125]))++[10]
   else (if d=10 then [41] else [])++[59,10])
def pS (k:Nat):List St→List UInt8
 |[]=>[]
 |x::r=>stT k x++pS k r
end
def pw (k:Nat)(l:List St):List UInt8:=[32,123,10]++pS (k+1) l++ra k++[125]
theorem Ab (k:Nat)(x:St):stT k x=ra k++bf x++cb x.e ++
 (if (fmD x.d).body then pw k x.body++(if x.els.length=0 then [] else [32,101,108,115,101]++pw k x.els)++[10] else (if x.d=10 then [41] else [])++[59,10]):=by cases x;rfl
theorem rm (k:Nat):∀(l m:List St),pS k (l++m)=pS k l++pS k m
 |[],m=>rfl
 |x::r,m=>by simp only [List.cons_append,pS,rm k r m,List.append_assoc]
theorem xf (k:Nat)(l:List St)(x:St):pS k (l++[x])=pS k l++stT k x:=by rw [rm];simp [pS]
def hdG (x:St)(deep:Int):Prop:=∃f,aL x.d=some f∧pK f x=false∧x.e.length≤6∧stR f x deep=0
mutual
def stG (deep:Int):St→Prop
 |.mk d at_ a b t n e body els=>hdG (.mk d at_ a b t n e body els) deep∧tZ (deep+1) body∧tZ (deep+1) els
def tZ (deep:Int):List St→Prop
 |[]=>True
 |x::r=>stG deep x∧tZ deep r
end
theorem nj {deep:Int}{x:St}:stG deep x↔hdG x deep∧tZ (deep+1) x.body∧tZ (deep+1) x.els:=by cases x;exact Iff.rfl
theorem jW {r:FR}{f:Int→FR}{n:Int}(h:pZ r f=.ok n):∃m,r=.ok m∧f m=.ok n:=by
 cases r with
 |error e=>cases h
 |ok m=>exact ⟨m,rfl,h⟩
theorem IW {x:St}{m deep:Int}(h:stH x m deep=0):hdG x deep:=by
 rw [IT] at h;have hE:stE x m=0:=Decidable.byContradiction fun hh=>by
  rw [if_pos hh] at h;exact hh h
 rw [if_neg (fun hh=>hh hE)] at h;obtain ⟨_,⟨f,hf⟩,hb,hl⟩:=zj hE;have hfd:fmD x.d=f:=by rw [fmD,hf];rfl
 rw [hfd] at hb h;exact ⟨f,hf,hb,hl,h⟩
mutual
theorem HU:∀(x:St) {m deep n:Int},stF x m deep=.ok n→stG deep x
 |.mk d at_ a b t nn e body els,m,deep,n,h=>by
  unfold stF at h
  split at h
  ·cases h
  rename_i h0;obtain ⟨m1,h1,h2⟩:=jW h;unfold stG;exact ⟨IW (Decidable.not_not.1 h0),wj body h1,wj els h2⟩
theorem wj:∀(l:List St) {m deep n:Int},hY l m deep=.ok n→tZ deep l
 |[],_,_,_,_=>trivial
 |x::r,m,deep,n,h=>by
  rw [jQ] at h;obtain ⟨m1,h1,h2⟩:=jW h;unfold tZ;exact ⟨HU x h1,wj r h2⟩
end
theorem ru:∀{l:List St} {deep:Int} {x:St},tZ deep l→x∈l→stG deep x
 |y::r,deep,x,h,hx=>by
  unfold tZ at h;rcases List.mem_cons.1 hx with rfl|hx
  ·exact h.1
  ·exact ru h.2 hx
theorem zr:∀{l:List Ex},esF l=0→nt l=0∧∀x∈l,exN x≤20
 |[],_=>⟨rfl,fun x hx=>absurd hx List.not_mem_nil⟩
 |y::r,h=>by
  unfold esF at h;obtain ⟨h1,h2⟩:=jS h;obtain ⟨h3,h4⟩:=jS h1;obtain ⟨h5,h6⟩:=zr h2;refine ⟨by rw [nt,h4,h5];rfl,fun x hx=>?_⟩
  rcases List.mem_cons.1 hx with rfl|hx
  ·exact Decidable.byContradiction fun hh=>by
    rw [if_pos (by omega)] at h3
    cases h3
  ·exact h6 x hx
structure Iv (x:St)(f:Fm)(deep:Int):Prop where
 form:aL x.d=some f
 d1:1≤x.d
 d2:x.d≤14
 bad:pK f x=false
 na:f.a=true→aF x.a=true
 nb:f.b=true→aF x.b=true
 ty:f.t=true→bJ x.t 3=true
 ea:f.a=false→emp x.a
 eb:f.b=false→emp x.b
 et:f.t=false→emp x.t
 en:f.n=false→x.n=0
 ne:0≤f.e→(x.e.length:Int)=f.e
 bo:f.body=false→x.body=[]
 el:f.els=false→x.els=[]
 n0:0≤x.n
 n1:x.n < 1000000000000000000
 ex:nt x.e=0
 e20:∀y∈x.e,exN y≤20
 dp:f.body=true→deep < 8
theorem if0 {b:Bool}{c:Int}(hc:c≠0)(h:(if b then c else 0)=0):b=false:=by
 cases b with
 |false=>rfl
 |true=>exact absurd h hc
theorem sK {x:St}{deep:Int}(h:hdG x deep):∃f,Iv x f deep:=by
 obtain ⟨f,hf,hb,hl,hR⟩:=h;obtain ⟨bA,bB,bT,bN,bE,bBo,bEl⟩:=yV hb;rw [stR,rv bA,rv bB] at hR;obtain ⟨r1,hR⟩:=jS hR;obtain ⟨r2,hR⟩:=jS hR;obtain ⟨r3,hR⟩:=jS hR;obtain ⟨r4,hR⟩:=jS hR;obtain ⟨r5,r6⟩:=jS hR;have r1:=if0 (by decide) r1
 have r2:=if0 (by decide) r2
 have r3:=if0 (by decide) r3
 have r4:=if0 (by decide) r4
 have r6:=if0 (by decide) r6
 obtain ⟨e1,e2⟩:=zr r5;have hd:=BT hf;have hn:=of_decide_eq_false r4;refine ⟨f,hf,hd.1,hd.2,hb,fun h=>?_,fun h=>?_,fun h=>?_,fun h=>?_,fun h=>?_,fun h=>?_,fun h=>?_,fun h=>?_,fun h=>?_,fun h=>?_,by omega,by omega,e1,e2,fun h=>?_⟩
 ·rw [h,Bool.true_and] at r1;simpa using r1
 ·rw [h,Bool.true_and] at r2;simpa using r2
 ·rw [h,Bool.true_and] at r3;simpa using r3
 ·unfold zA at bA;rw [h] at bA;simpa using bA
 ·unfold zB at bB;rw [h] at bB;simpa using bB
 ·unfold zT at bT;rw [h] at bT;simpa using bT
 ·unfold zN at bN;rw [h] at bN;simpa using bN
 ·unfold zE at bE;rw [decide_eq_true h,Bool.true_and] at bE;simpa using bE
 ·unfold zBo at bBo;rw [h] at bBo;simpa using bBo
 ·unfold zEl at bEl;rw [h] at bEl;simpa using bEl
 ·rw [h,Bool.true_and] at r6;have:=of_decide_eq_false r6;omega
theorem Iv.fm {x:St}{f:Fm}{deep:Int}(h:Iv x f deep):fmD x.d=f:=by rw [fmD,h.form];rfl
theorem B2 (l:List Ex)(hF:nt l=0)(hok:il l):(cb l).length≤102*bV l:=by
 have h1:=rD l hF hok;have hlen:=fh l;have:∀m:List Ex,(Lib.joinTail [44,32] (m.map exT)).length=((yb m).map fun q=>q.2.length).sum+2*m.length:=by
  intro m
  induction m with
  |nil=>rfl
  |cons y r ih =>
   rw [Lib.joinTail] at ih ⊢;simp only [List.map_cons,List.flatten_cons,List.length_append,ih,yb,List.sum_cons,List.length_cons,List.length_nil];omega
 unfold cb;cases l with
 |nil=>simp [Lib.join_nil]
 |cons y r =>
  rw [List.map_cons,Lib.join_cons,List.length_append,this];simp only [yb,List.map_cons,List.sum_cons,List.length_cons] at h1 hlen;omega
theorem bk (k:Nat):(ra k).length=k:=List.length_replicate
mutual
theorem Gu:∀(x:St) (k:Nat),stG k x→y8 x→k≤10→(stT k x).length≤1000*stN x
 |.mk d at_ a b t n e body els,k,hg,ho,hk=>by
  unfold stG at hg;obtain ⟨f,hf⟩:=sK hg.1;obtain ⟨oa,ob,ot,oe,o5,o6⟩:=fi.1 ho;have hh:=Fo _ oa ob ot hf.n0 hf.n1;have hl:=B2 e hf.ex oe;rw [Ab];unfold stN;have hfm:(fmD (St.mk d at_ a b t n e body els).d)=f:=hf.fm;rw [hfm];simp only [List.length_append,bk];cases hb:f.body with
  |false =>
   rw [if_neg (by decide)]
   simp only [List.length_append];have:(if (St.mk d at_ a b t n e body els).d=10 then ([41]:List UInt8) else []).length≤1:=by split<;>simp
   simp only [List.length_cons,List.length_nil];have:(cb (St.mk d at_ a b t n e body els).e).length≤102*bV e:=hl;omega
  |true =>
   have hd8:=hf.dp hb;have h1:=rI body (k+1) (by exact_mod_cast hg.2.1) o5 (by omega)
   have h2:=rI els (k+1) (by exact_mod_cast hg.2.2) o6 (by omega)
   rw [if_pos rfl];have hb1:(pw k (St.mk d at_ a b t n e body els).body).length≤1000*br body+15:=by
    unfold pw;simp only [List.length_append,bk,List.length_cons,List.length_nil];have:(pS (k+1) (St.mk d at_ a b t n e body els).body).length≤1000*br body:=h1;omega
   have hb2:(if (St.mk d at_ a b t n e body els).els.length=0 then [] else [32,101,108,115,101]++pw k (St.mk d at_ a b t n e body els).els).length≤1000*br els+20:=by
    split
    ·simp
    ·unfold pw;simp only [List.length_append,bk,List.length_cons,List.length_nil];have:(pS (k+1) (St.mk d at_ a b t n e body els).els).length≤1000*br els:=h2;omega
   simp only [List.length_append,List.length_cons,List.length_nil];have:(cb (St.mk d at_ a b t n e body els).e).length≤102*bV e:=hl;omega
theorem rI:∀(l:List St) (k:Nat),tZ k l→dK l→k≤10→(pS k l).length≤1000*br l
 |[],_,_,_,_=>by simp [pS]
 |x::r,k,hg,ho,hk=>by
  unfold tZ at hg;unfold dK at ho;have h1:=Gu x k hg.1 ho.1 hk;have h2:=rI r k hg.2 ho.2 hk;unfold pS br;rw [List.length_append];omega
end
structure PS (h0:Hp)(B b:Nat)(h:Hp)(d:Int)(l:List UInt8):Prop where
 k:KF h0 h
 lt:h0.size≤B
 hB:B≤h.size
 pg:Pg h B b d l
structure PK (B b:Nat)(h h':Hp):Prop where
 k:ar (fun k=>B≤k) h h'
 o:Oth b h h'
theorem PK.refl (B b:Nat)(h:Hp):PK B b h h:=⟨ar.refl _ _,fun _ _ hk _ _=>hk⟩
theorem PK.trans {B b:Nat}{h1 h2 h3:Hp}(a:PK B b h1 h2)(c:PK B b h2 h3):PK B b h1 h3:=⟨a.k.trans c.k,fun k o hk hn h5=>c.o k o (a.o k o hk hn h5) hn h5⟩
theorem PK.of {B b:Nat}{h h':Hp}(k:KF h h'):PK B b h h':=⟨k.mono fun _ _ h=>h.elim,fun i o hk _ _=>k.get hk (by simp)⟩
theorem PK.get {B b:Nat}{h h':Hp}(p:PK B b h h'){i:Nat}{c:Array Value}{t:TypeId}{f:Nat×Nat}(hi:h[i]?=some (.cells c t f))(hne:i≠b)(ht:t≠5):h'[i]?=some (.cells c t f) :=
 p.o i _ hi hne fun c' fz e=>by cases e;exact ht rfl
theorem PS.blk {h0:Hp}{B b:Nat}{h:Hp}{d:Int}{l:List UInt8}(ps:PS h0 B b h d l):∃p v,h[b]?=some (.cells [p,v,.int .i64 d].toArray 111 (0,0)):=by
 obtain ⟨p,v,_,_,hb,_⟩:=ps.pg;exact ⟨p,v,hb⟩
theorem PS.blt {h0:Hp}{B b:Nat}{h:Hp}{d:Int}{l:List UInt8}(ps:PS h0 B b h d l):b < h.size:=by
 obtain ⟨p,v,hb⟩:=ps.blk;exact cH hb
theorem PS.next {h0:Hp}{B b:Nat}{h h':Hp}{d d':Int}{l l':List UInt8}(ps:PS h0 B b h d l)(k:PK B b h h')(hp:Pg h' B b d' l'):PS h0 B b h' d' l' :=
 ⟨((ps.k.mono (S':=fun k=>B≤k) fun _ _ h=>h.elim).trans k.k).mono fun i hi e=>by have:=ps.lt;omega,ps.lt,Nat.le_trans ps.hB k.k.size,hp⟩
theorem PS.more {h0:Hp}{B b:Nat}{h h':Hp}{d:Int}{l:List UInt8}(ps:PS h0 B b h d l)(k:KF h h'):PS h0 B b h' d l :=
 ⟨ps.k.trans k,ps.lt,Nat.le_trans ps.hB k.size,ps.pg.more k⟩
theorem PS.deep {h0:Hp}{B b:Nat}{h:Hp}{d:Int}{l:List UInt8}(ps:PS h0 B b h d l)(d':Int){K:Hp→Prop}(hk:∀h',PS h0 B b h' d' l→PK B b h h'→K h'):aE h ⟨b,2,none⟩ (.int .i64 d') K:=by
 obtain ⟨p,v,hp,hB,hb,hown,hne⟩:=ps.pg;refine aG hb (by simp) ?_
 have kk:=ar.set (S:=fun k=>k=b) (h:=h) (.cells (#[p,v,.int .i64 d].setIfInBounds 2 (.int .i64 d')) 111 (0,0)) (b:=b) rfl;have hb':=aq (o:=.cells (#[p,v,.int .i64 d].setIfInBounds 2 (.int .i64 d')) 111 (0,0)) hb;have pk:PK B b h (h.setIfInBounds b (.cells (#[p,v,.int .i64 d].setIfInBounds 2 (.int .i64 d')) 111 (0,0))):=⟨kk.mono fun i _ e=>by omega,fun i o hi hn _=>kk.get hi hn⟩
 refine hk _ (ps.next pk ⟨p,v,hp,hB,by simpa using hb',tP hown fun g hg hl=>kk.block g hl fun e=>?_,hne⟩) pk
 exact hne (by rw [hg,e])
abbrev strs (xs:List ByteArray):List Value:=xs.map .string
section
variable  {ω:Amb}{h0:Hp}{B b:Nat}
theorem BB (hω:ω.low=0){h:Hp}{d:Int}{l:List UInt8}(ps:PS h0 B b h d l)(xs:List ByteArray){g:Nat}(hg:h[g]?=some (.cells (strs xs).toArray 9 (0,0)))(hgb:g≠b)(hx:xs.length≤1000)
  (hl:l.length+(xs.flatMap bytesOf).length≤100000000) (X:XT) :
  aa Tryz.prog ω gQ [wp b,.slice (some ⟨g,0,none⟩) xs.length xs.length] h (fun _ h'=>PS h0 B b h' d (l++xs.flatMap bytesOf)∧PK B b h h') X:=by
 refine o7 ω _ _ h _ X ?_;unfold gO;rw [asSl_sl];refine ⟨fun t h'=>∃k:Nat,t=.int .i64 k∧k≤xs.length∧PS h0 B b h' d (l++(xs.take k).flatMap bytesOf)∧PK B b h h',fun t _=>match t with|.int _ k=>xs.length - k.toNat|_=>0,
  ⟨0,rfl,by omega,by simpa using ps,PK.refl _ _ _⟩,?_⟩
 rintro _ _ h2 ⟨k,rfl,hk,ps2,pk2⟩;rw [asK_int];refine ae (fun hc=>?_) (fun hc=>?_)
 ·have hkl:k < xs.length:=by
   have:=of_decide_eq_true hc;omega
  have hx':=List.getElem?_eq_getElem hkl;generalize xs[k]=s at hx';have hg2:=pk2.get hg hgb (by decide)
  have hsp:xs.flatMap bytesOf=(xs.take k).flatMap bytesOf++(bytesOf s++(xs.drop (k+1)).flatMap bytesOf):=by
   conv=>lhs;rw [←List.take_append_drop k xs,fS hx']
   rw [List.flatMap_append,List.flatMap_cons]
  have hsp:=congrArg List.length hsp;simp only [List.length_append,aC] at hsp;rw [asSl1_sl,asI_int];refine ⟨by omega,by omega,.string s,?_,?_⟩
  ·rw [aH,Int.toNat_natCast,Nat.mul_one,Nat.zero_add,aO hg2];simp [strs,hx']
  rw [nnK_ptr,asP_some,aH];refine aa.use (AS hω ps2.pg s (by rw [List.length_append];omega) ps2.hB) ?_
  rintro _ h3 ⟨hp3,k3,o3⟩;have pk3:PK B b h2 h3:=⟨k3,o3⟩;rw [asK_int,i64_in (by omega) (by omega)]
  refine ⟨⟨k+1,by simp,by omega,?_,pk2.trans pk3⟩,by simp;omega⟩
  rw [aP hx',List.flatMap_append,←List.append_assoc];simpa using ps2.next pk3 hp3
 ·have hc:=of_decide_eq_false hc;obtain rfl:k=xs.length:=by omega
  rw [List.take_length] at ps2;exact ⟨ps2,pk2⟩
theorem pe (hω:ω.low=0){h:Hp}{d:Int}{l:List UInt8}(ps:PS h0 B b h d l)(xs:List ByteArray)(n:Nat)(hn:n=xs.length)(hx:xs.length≤1000)
  (hl:l.length+(xs.flatMap bytesOf).length≤100000000) (X:XT) :
  aa Tryz.prog ω gQ [wp b,.slice (some ⟨h.size,0,none⟩) n n] (h.push (.cells (strs xs).toArray 9 (0,0))) (fun _ h'=>PS h0 B b h' d (l++xs.flatMap bytesOf)∧PK B b h h') X:=by
 subst hn;have kp:=ar.push (S:=fun _=>False) h (.cells (strs xs).toArray 9 (0,0));refine aa.use (BB hω (ps.more kp) xs af (by have:=ps.blt;omega) hx hl) ?_
 rintro _ h3 ⟨ps3,pk3⟩;exact ⟨ps3,(PK.of kp).trans pk3⟩
theorem ux (hω:ω.low=0){h:Hp}{d:Nat}{l:List UInt8}(ps:PS h0 B b h d l)(hd:d≤10)(xs:List ByteArray)(n:Nat)(hn:n=xs.length)(hx:xs.length≤1000)
  (hl:l.length+(d+(xs.flatMap bytesOf).length)≤100000000) (X:XT) :
  aa Tryz.prog ω oG [wp b,.slice (some ⟨h.size,0,none⟩) n n] (h.push (.cells (strs xs).toArray 9 (0,0))) (fun _ h'=>PS h0 B b h' d (l++(ra d++xs.flatMap bytesOf))∧PK B b h h') X:=by
 subst hn;have kp:=ar.push (S:=fun _=>False) h (.cells (strs xs).toArray 9 (0,0));have hg:=af (h:=h) (o:=.cells (strs xs).toArray 9 (0,0));have hgb:h.size≠b:=by have:=ps.blt;omega
 generalize h.push (.cells (strs xs).toArray 9 (0,0))=h1 at *;have ps1:=ps.more kp;refine oB ω _ _ h1 _ X ?_;unfold gf;show ∃v1,_;obtain ⟨p,v,hbk⟩:=ps1.blk;refine lx hbk (j:=2) rfl ?_;refine aa.use (AE hω ⟨#[9]⟩ d (by omega) (by decide) h1) ?_
 rintro _ h2 ⟨rfl,k2⟩;rw [oneK_str];have ps2:=ps1.more k2;have hg2:=k2.get hg (by simp)
 have htab:([⟨(Lib.repeatL (ByteArray.mk #[9]).data.toList d).toArray⟩]:List ByteArray).flatMap bytesOf=ra d:=by
  simp only [List.flatMap_cons,List.flatMap_nil,List.append_nil];have:=Lib.repeatL_replicate 9 1 d;show bytesOf ⟨(Lib.repeatL (List.replicate 1 9) d).toArray⟩=_;rw [this,Nat.mul_one];exact aB _
 refine aa.use (pe hω ps2 [⟨(Lib.repeatL (ByteArray.mk #[9]).data.toList d).toArray⟩] 1 rfl (by simp) (by rw [htab,bk];omega)) ?_
 rintro _ h3 ⟨ps3,pk3⟩;rw [htab] at ps3;have hg3:=pk3.get hg2 hgb (by decide)
 refine aa.use (BB hω ps3 xs hg3 hgb hx (by rw [List.length_append,bk];omega)) ?_
 rintro _ h4 ⟨ps4,pk4⟩;rw [List.append_assoc] at ps4;exact ⟨ps4,(((PK.of kp).trans (PK.of k2)).trans pk3).trans pk4⟩
end
section
variable  {ω:Amb}{h0:Hp}{B b:Nat}
def Ck (ω:Amb)(h0:Hp)(B b:Nat)(l:List St):Prop:=∀(h:Hp) (v:Value) (d:Nat) (L:List UInt8),StS h0 v l→PS h0 B b h d L→tZ (d+1) l→d≤7→L.length+(pw d l).length≤100000000→∀(X:XT),
 aa Tryz.prog ω nH [wp b,v] h (fun _ h'=>PS h0 B b h' d (L++pw d l)∧PK B b h h') X
set_option maxHeartbeats 400000 in
theorem BC (hω:ω.low=0)(ht0:ee h0)(x:St)(hle:stN x≤80000)(hok:y8 x)(hB:Ck ω h0 B b x.body)(hE:Ck ω h0 B b x.els)(h:Hp)(ve vb vl:Value)(d:Nat)(L:List UInt8)(he:ExS h0 ve x.e)(hbd:StS h0 vb x.body)(hel:StS h0 vl x.els)
  (ps:PS h0 B b h d L) (hg:stG d x) (hd:d≤8) (hlen:L.length+(stT d x).length≤100000000) (X:XT) :
  aa Tryz.prog ω ov [wp b,.agg (stC x ve vb vl).toArray] h (fun _ h'=>PS h0 B b h' d (L++stT d x)∧PK B b h h') X:=by
 refine oI ω _ _ h _ X ?_;unfold gd;simp only [show Value.cells (.agg (stC x ve vb vl).toArray)=(stC x ve vb vl).toArray from rfl]
 obtain ⟨oa,ob,ot,oe,o5,o6⟩:=fi.1 hok;obtain ⟨hg1,hg2,hg3⟩:=nj.1 hg;obtain ⟨f,hf⟩:=sK hg1;have hxe:=iG x;have hT:=Ab d x;rw [hf.fm] at hT;have hb1:=af (h:=h) (o:=.cells (stC x ve vb vl).toArray 39 (0,0));have kp:=ar.push (S:=fun _=>False) h (.cells (stC x ve vb vl).toArray 39 (0,0));have hL1:h.size≠b:=by have:=ps.blt;omega
 generalize h.push (.cells (stC x ve vb vl).toArray 39 (0,0))=h1 at *;have ps1:=ps.more kp;refine ⟨_,ak hb1 rfl,?_⟩;refine lx hb1 (j:=6) rfl ?_;refine aa.use (ET hω x ve vb vl h1 oa ob ot hf.n0 hf.n1 (ht0.more ps1.k)) ?_;rintro _ h2 ⟨rfl,k2⟩;have hb2:=k2.get hb1 (by simp)
 have ps2:=ps1.more k2;refine ⟨lx' hb2 rfl,?_⟩;refine aa.use (E7 hω x.e (by omega) oe hf.ex h2 ve (he.az ps2.k) (ht0.more ps2.k)) ?_
 rintro _ h3 ⟨rfl,k3⟩;have hb3:=k3.get hb2 (by simp)
 have ps3:=ps2.more k3;rw [oneK_str,oneK_str];have hfm:[bs (bf x),bs (cb x.e)].flatMap bytesOf=bf x++cb x.e:=by
  simp only [List.flatMap_cons,List.flatMap_nil,aB,List.append_nil]
 have hTl:=congrArg List.length hT;simp only [List.length_append,bk] at hTl;refine aa.use (ux hω ps3 (by omega) [bs (bf x),bs (cb x.e)] 2 rfl (by simp) (by rw [hfm,List.length_append];omega)) ?_
 rintro _ h4 ⟨ps4,pk4⟩;rw [hfm] at ps4;have hb4:=pk4.get hb3 hL1 (by decide)
 have pk04:=(((PK.of kp).trans (PK.of k2)).trans (PK.of k3)).trans pk4;refine lx hb4 (j:=0) rfl ?_;refine aa.use (BK x.d h4) ?_;rintro _ h5 ⟨rfl,k5⟩;have hb5:=k5.get hb4 (by simp)
 have ps5:=ps4.more k5;rw [D6,G0,asA_agg,hf.fm];refine ⟨rfl,yL f,ay (cs:=fmC f) rfl ?_⟩;have hf6:=af (h:=h5) (o:=.cells (fmC f).toArray 165 (0,0));have k6:=ar.push (S:=fun _=>False) h5 (.cells (fmC f).toArray 165 (0,0));generalize h5.push (.cells (fmC f).toArray 165 (0,0))=h6 at *;have hb6:=k6.get hb5 (by simp)
 have ps6:=ps5.more k6;have pk06:=(pk04.trans (PK.of k5)).trans (PK.of k6);refine lx hf6 (j:=5) rfl ?_;rw [asB_bool];refine ae (fun hc=>?_) (fun hc=>?_)
 ·have hbo:f.body=false:=by simpa using hc
  rw [hbo,if_neg (by decide)] at hT hTl
  simp only [List.length_append,List.length_cons,List.length_nil] at hTl;refine lx hb6 (j:=0) rfl ?_;rw [asK_int];refine ⟨fun h'=>PS h0 B b h' d (L++(ra d++(bf x++cb x.e))++(if x.d=10 then [41] else []))∧PK B b h h',ae (fun hc=>?_) (fun hc=>?_),?_⟩
  ·have h10:x.d=10:=eq_of_beq hc;rw [if_pos h10] at hTl ⊢;refine aa.use (pe hω ps6 [bs [41]] 1 rfl (by simp) (by simp only [List.flatMap_cons,List.flatMap_nil,aB,List.append_nil,List.length_append,List.length_cons,List.length_nil,bk] at *;omega)) ?_
   rintro _ h7 ⟨ps7,pk7⟩;simp only [List.flatMap_cons,List.flatMap_nil,aB,List.append_nil] at ps7;exact ⟨ps7,pk06.trans pk7⟩
  ·have h10:¬x.d=10:=beq_eq_false_iff_ne.1 hc;rw [if_neg h10,List.append_nil];exact ⟨ps6,pk06⟩
  ·rintro _ h7 ⟨ps7,pk7⟩;refine aa.use (pe hω ps7 [bs [59,10]] 1 rfl (by simp) (by simp only [List.flatMap_cons,List.flatMap_nil,aB,List.append_nil,List.length_append,List.length_cons,List.length_nil,bk] at *;omega)) ?_
   rintro _ h8 ⟨ps8,pk8⟩;refine ⟨?_,pk7.trans pk8⟩;simp only [List.flatMap_cons,List.flatMap_nil,aB,List.append_nil] at ps8;rw [hT];simp only [List.append_assoc] at ps8 ⊢;exact ps8
 ·have hbo:f.body=true:=by simpa using hc
  have hd8:=hf.dp hbo;rw [hbo,if_pos rfl] at hT hTl;simp only [List.length_append,List.length_cons,List.length_nil] at hTl;refine lx hb6 (j:=7) rfl ?_;refine aa.use (hB h6 vb d _ hbd ps6 hg2 (by omega) (by simp only [List.length_append,bk];omega)) ?_
  rintro _ h7 ⟨ps7,pk7⟩;have hb7:=pk7.get hb6 hL1 (by decide)
  have pk07:=pk06.trans pk7;refine lx hb7 (j:=8) rfl ?_;refine (hel.az ps7.k).sl fun _ _=>?_;refine ⟨fun h'=>PS h0 B b h' d (L++(ra d++(bf x++cb x.e))++pw d x.body++(if x.els.length=0 then [] else [32,101,108,115,101]++pw d x.els))∧PK B b h h',ae (fun hc=>?_) (fun hc=>?_),?_⟩
  ·have hne:¬x.els.length=0:=by
    have:=of_decide_eq_true hc;omega
   rw [if_neg hne] at hTl ⊢;simp only [List.length_append,List.length_cons,List.length_nil] at hTl;refine aa.use (pe hω ps7 [bs [32,101,108,115,101]] 1 rfl (by simp) (by simp only [List.flatMap_cons,List.flatMap_nil,aB,List.append_nil,List.length_append,List.length_cons,List.length_nil,bk] at *;omega)) ?_
   rintro _ h8 ⟨ps8,pk8⟩;simp only [List.flatMap_cons,List.flatMap_nil,aB,List.append_nil] at ps8;have hb8:=pk8.get hb7 hL1 (by decide)
   refine lx hb8 (j:=8) rfl ?_;refine aa.use (hE h8 vl d _ hel ps8 hg3 (by omega) (by simp only [List.length_append,List.length_cons,List.length_nil,bk];omega)) ?_
   rintro _ h9 ⟨ps9,pk9⟩;refine ⟨?_,(pk07.trans pk8).trans pk9⟩;simp only [List.append_assoc] at ps9 ⊢;exact ps9
  ·have hne:x.els.length=0:=by
    have:=of_decide_eq_false hc;omega
   rw [if_pos hne,List.append_nil];exact ⟨ps7,pk07⟩
  ·rintro _ h8 ⟨ps8,pk8⟩;refine aa.use (pe hω ps8 [bs [10]] 1 rfl (by simp) (by simp only [List.flatMap_cons,List.flatMap_nil,aB,List.append_nil,List.length_append,List.length_cons,List.length_nil,bk] at *;omega)) ?_
   rintro _ h9 ⟨ps9,pk9⟩;refine ⟨?_,pk8.trans pk9⟩;simp only [List.flatMap_cons,List.flatMap_nil,aB,List.append_nil] at ps9;rw [hT];simp only [List.append_assoc] at ps9 ⊢;exact ps9
set_option maxHeartbeats 400000 in
theorem Bk (hω:ω.low=0)(ht0:ee h0):∀(N:Nat) (l:List St),br l < N→br l≤80000→dK l→Ck ω h0 B b l:=by
 intro N
 induction N with
 |zero=>exact fun l hN=>absurd hN (Nat.not_lt_zero _)
 |succ N ih =>
  intro l hN hle hok h v d L hs ps hg hd hlen X;refine ng ω _ _ h _ X ?_;unfold fJ;have hll:=om l;have hbl:(pw d l).length=3+(pS (d+1) l).length+d+1:=by
   unfold pw;simp only [List.length_append,bk,List.length_cons,List.length_nil]
  refine aa.use (pe hω ps [bs [32,123,10]] 1 rfl (by simp) (by simp only [List.flatMap_cons,List.flatMap_nil,aB,List.append_nil,List.length_cons,List.length_nil];omega)) ?_
  rintro _ h1 ⟨ps1,pk1⟩;simp only [List.flatMap_cons,List.flatMap_nil,aB,List.append_nil] at ps1;show ∃v3,_;obtain ⟨pp,pv,hbk⟩:=ps1.blk;refine lx hbk (j:=2) rfl ?_;rw [asK_int,i64_in (by omega) (by omega),nnK_ptr,asP_some,aH]
  refine ps1.deep ((d:Int)+1) fun h2 ps2 pk2=>?_;have pk02:=pk1.trans pk2;refine (hs.az ps2.k).sl fun _ _=>?_;refine ⟨fun t h'=>∃k:Nat,t=.int .i64 k∧k≤l.length∧PS h0 B b h' ((d+1:Nat):Int) (L++[32,123,10]++pS (d+1) (l.take k))∧PK B b h h',fun t _=>match t with|.int _ k=>l.length - k.toNat|_=>0,
   ⟨0,rfl,by omega,by simpa [pS] using ps2,pk02⟩,?_⟩
  rintro _ _ h3 ⟨k,rfl,hk,ps3,pk3⟩;rw [asK_int];refine ae (fun hc=>?_) (fun hc=>?_)
  ·have hkl:k < l.length:=by
    have:=of_decide_eq_true hc;omega
   have hx:=List.getElem?_eq_getElem hkl;have hdr:=fS hx;have hmem:l[k]∈l:=List.getElem_mem hkl;generalize l[k]=x at hx hmem hdr;have hxn:=iK hmem;have hxe:=iG x;have hxo:=mG hok hmem;obtain ⟨_,_,_,_,hob,hoe⟩:=fi.1 hxo;have hsp:=rm (d+1) (l.take k) (l.drop k);rw [List.take_append_drop,hdr] at hsp;have hsp:=congrArg List.length hsp;simp only [pS,List.length_append] at hsp;refine hs.wQ ps3.k hx fun ve vb vl he hbd hel=>?_
   refine ⟨rfl,oY he.bp hbd.bp hel.bp,ay (cs:=stC x ve vb vl) rfl ?_⟩;have hb4:=af (h:=h3) (o:=.cells (stC x ve vb vl).toArray 39 (0,0));have k4:=ar.push (S:=fun _=>False) h3 (.cells (stC x ve vb vl).toArray 39 (0,0));generalize h3.push (.cells (stC x ve vb vl).toArray 39 (0,0))=h4 at *;refine ⟨_,ak hb4 rfl,?_⟩;have hgx:stG ((d+1:Nat):Int) x:=ru hg hmem;have hd8:d+1≤8:=by omega
   refine aa.use (BC hω ht0 x (by omega) hxo (ih x.body (by omega) (by omega) hob) (ih x.els (by omega) (by omega) hoe) h4 ve vb vl (d+1) _ he hbd hel (ps3.more k4) hgx hd8 (by simp only [List.length_append,List.length_cons,List.length_nil];omega)) ?_
   rintro _ h5 ⟨ps5,pk5⟩;rw [asK_int,i64_in (by omega) (by omega)]
   refine ⟨⟨k+1,by simp,by omega,?_,(pk3.trans (PK.of k4)).trans pk5⟩,by simp;omega⟩
   rw [aP hx,xf,←List.append_assoc];exact ps5
  ·have hc:=of_decide_eq_false hc;obtain rfl:k=l.length:=by omega
   rw [List.take_length] at ps3;show ∃v3,_;obtain ⟨pp,pv,hbk⟩:=ps3.blk;refine lx hbk (j:=2) rfl ?_;rw [asK_int,i64_in (by omega) (by omega),nnK_ptr,asP_some,aH]
   refine ps3.deep _ fun h4 ps4 pk4=>?_;rw [show ((d+1:Nat):Int) - 1=(d:Int) by omega] at ps4
   refine aa.use (ux hω ps4 (by omega) [bs [125]] 1 rfl (by simp) (by simp only [List.flatMap_cons,List.flatMap_nil,aB,List.append_nil,List.length_append,List.length_cons,List.length_nil];omega)) ?_
   rintro _ h5 ⟨ps5,pk5⟩;refine ⟨?_,(pk3.trans pk4).trans pk5⟩;simp only [List.flatMap_cons,List.flatMap_nil,aB,List.append_nil,List.append_assoc] at ps5;unfold pw;simp only [List.append_assoc];exact ps5
end
def prT (q:ByteArray×ByteArray):List UInt8:=bytesOf q.1++[32]++rj q.2
def rA (ps:List (ByteArray×ByteArray)):List UInt8:=Lib.join (ps.map prT) [44,32]
def sgT (s:Sg):List UInt8:=[115,116,97,103,101,32]++bytesOf s.nm++[40]++rA s.ps++[41]++pw 0 s.body++[10]
def pgT (p:List Sg):List UInt8:=p.flatMap sgT
structure Ga (s:Sg):Prop where
 nm:aF s.nm=true
 pl:s.ps.length≤6
 ps:∀q∈s.ps,aF q.1=true∧bJ q.2 3=true
 body:tZ 1 s.body
structure HY (p:List Sg):Prop where
 ne:p.length≠0
 len:p.length≤10
 ok:∀s∈p,Ga s
theorem F7:∀{l:List (ByteArray×ByteArray)},qq l=0→∀q∈l,aF q.1=true∧bJ q.2 3=true
 |[],_,q,hq=>absurd hq List.not_mem_nil
 |y::r,h,q,hq=>by
  unfold qq at h;obtain ⟨h1,h2⟩:=jS h;obtain ⟨h3,h4⟩:=jS h1;rcases List.mem_cons.1 hq with rfl|hq
  ·have h3:=if0 (by decide) h3
   have h4:=if0 (by decide) h4
   exact ⟨by simpa using h3,by simpa using h4⟩
  ·exact F7 h2 q hq
theorem DL:∀{p:List Sg} {i m n:Int},sR p i m=.ok n→∀s∈p,Ga s
 |[],_,_,_,_,s,hs=>absurd hs List.not_mem_nil
 |x::r,i,m,n,h,s,hs=>by
  unfold sR at h
  split at h
  ·cases h
  rename_i h0;have h0:sgH x=0:=Decidable.not_not.1 h0;obtain ⟨m1,h1,h2⟩:=jW h;rcases List.mem_cons.1 hs with rfl|hs
  ·unfold sgH at h0;obtain ⟨a1,a2⟩:=jS h0;obtain ⟨a3,a4⟩:=jS a2;have a1:=if0 (by decide) a1
   have a3:=if0 (by decide) a3
   refine ⟨by simpa using a1,?_,F7 a4,wj _ h1⟩
   have:=of_decide_eq_false a3;omega
  ·exact DL h2 s hs
theorem yB {p:List Sg}{n:Int}(h:aV p=.ok n):HY p:=by
 unfold aV at h
 split at h
 ·cases h
 rename_i h0
 split at h
 ·cases h
 rename_i h1;exact ⟨h0,by omega,DL h⟩
theorem Hl (q:ByteArray×ByteArray)(h1:q.1.size≤100)(h2:q.2.size≤100):(prT q).length≤610:=by
 have:=pY q.2;unfold prT;simp only [List.length_append,aC,List.length_cons,List.length_nil];omega
theorem join_le (l:List (List UInt8))(n:Nat)(h:∀x∈l,x.length≤n):(Lib.join l [44,32]).length≤(n+2)*l.length:=by
 have:∀m:List (List UInt8),(∀x∈m,x.length≤n)→(Lib.joinTail [44,32] m).length≤(n+2)*m.length:=by
  intro m
  induction m with
  |nil=>intro _;simp [Lib.joinTail]
  |cons y r ih =>
   intro h;rw [Lib.joinTail] at ih ⊢;have h1:=h y (List.mem_cons_self ..);have h2:=ih fun x hx=>h x (List.mem_cons_of_mem _ hx);simp only [List.map_cons,List.flatten_cons,List.length_append,List.length_cons,List.length_nil];rw [Nat.mul_succ];omega
 cases l with
 |nil=>simp [Lib.join_nil]
 |cons y r =>
  rw [Lib.join_cons,List.length_append,List.length_cons,Nat.mul_succ];have h1:=h y (List.mem_cons_self ..);have h2:=this r fun x hx=>h x (List.mem_cons_of_mem _ hx);omega
theorem vx (ps:List (ByteArray×ByteArray))(h:∀q∈ps,okN q.1∧okN q.2):(rA ps).length≤612*ps.length:=by
 have:=join_le (ps.map prT) 610 fun x hx=>by
  obtain ⟨q,hq,rfl⟩:=List.mem_map.1 hx;exact Hl q (h q hq).1 (h q hq).2
 rw [List.length_map] at this;exact this
theorem Gx (s:Sg)(hn:okS s)(ho:Ga s):(sgT s).length≤5000+1000*br s.body:=by
 obtain ⟨h1,h2,h3,h4⟩:=hn;have hp:=vx s.ps h3;have hb:=rI s.body 1 ho.body h4 (by omega)
 have h6:=ho.pl;have h1:s.nm.size≤100:=h1;unfold sgT pw;simp only [List.length_append,aC,List.length_cons,List.length_nil,bk];have:612*s.ps.length≤612*6:=Nat.mul_le_mul_left _ h6;have hb:(pS (0+1) s.body).length≤1000*br s.body:=hb;omega
theorem yz:∀(p:List Sg),(∀s∈p,okS s∧Ga s)→(pgT p).length≤5000*p.length+1000*(p.map fun s=>br s.body).sum
 |[],_=>by simp [pgT]
 |s::r,h=>by
  have h1:=h s (List.mem_cons_self ..);have h2:=yz r fun x hx=>h x (List.mem_cons_of_mem _ hx);have h3:=Gx s h1.1 h1.2;unfold pgT at h2 ⊢;simp only [List.flatMap_cons,List.length_append,List.map_cons,List.sum_cons,List.length_cons];omega
section
variable  {ω:Amb}
set_option maxRecDepth 100000 in
set_option maxHeartbeats 400000 in
theorem D5 (hω:ω.low=0)(p:List Sg)(hsm:Small p)(hok:HY p)(v:Value)(h:Hp)(hp:PgS h v p)(ht:ee h)(X:XT) :
  aa Tryz.prog ω tj [v] h (fun r h'=>r=.string (bs (pgT p))∧KF h h') X:=by
 obtain ⟨w0,rfl,hs⟩:=hp;refine sY ω _ h _ X ?_;unfold oN;simp only [show Value.cells (.agg #[w0])=[w0].toArray from rfl]
 have hlen:=hok.len;have htl:=yz p fun s hs=>⟨hsm.nm s hs,hok.ok s hs⟩;have htot:=hsm.tot;have hb0:=af (h:=h) (o:=.cells [w0].toArray 24 (0,0));have k0:=ar.push (S:=fun _=>False) h (.cells [w0].toArray 24 (0,0));have z0:(h.push (.cells [w0].toArray 24 (0,0))).size=h.size+1:=by simp
 generalize h.push (.cells [w0].toArray 24 (0,0))=h1 at *;have hbP:=af (h:=h1) (o:=.cells #[.pointer none,.slice none 0 0,.int .i64 0] 111 (0,0));have k1:=ar.push (S:=fun _=>False) h1 (.cells #[.pointer none,.slice none 0 0,.int .i64 0] 111 (0,0));generalize h1.push (.cells #[.pointer none,.slice none 0 0,.int .i64 0] 111 (0,0))=h2 at *;have hb0:=k1.get hb0 (by simp)
 have ps2:PS h1 h1.size h1.size h2 ((0:Nat):Int) []:=⟨k1,Nat.le_refl _,k1.size,Pg.new (Nat.le_refl _) hbP⟩;have hs1:=hs.az k0;have ht1:=ht.more k0;refine lx hb0 (j:=0) rfl ?_;refine (hs1.az k1).sl fun _ _=>?_;refine ⟨fun t h'=>∃k:Nat,t=.int .i64 k∧k≤p.length∧PS h1 h1.size h1.size h' ((0:Nat):Int) (pgT (p.take k))∧PK h1.size h1.size h2 h',fun t _=>match t with|.int _ k=>p.length - k.toNat|_=>0,
  ⟨0,rfl,by omega,ps2,PK.refl _ _ _⟩,?_⟩
 rintro _ _ h3 ⟨k,rfl,hk,ps3,pk3⟩;have hb03:=pk3.get hb0 (by omega) (by decide)
 rw [asK_int];refine ae (fun hc=>?_) (fun hc=>?_)
 rotate_left
 ·have hc:=of_decide_eq_false hc;obtain rfl:k=p.length:=by omega
  rw [List.take_length] at ps3;rw [aH];have hne:pgT p≠[]:=by
   unfold pgT;cases p with
   |nil=>exact absurd rfl hok.ne
   |cons s r=>simp [sgT]
  refine aa.use (yt hω ps3.pg hne) ?_;rintro _ h4 ⟨rfl,k4⟩;refine ⟨rfl,?_⟩;have k03:=k0.trans ps3.k;exact ((k03.mono (S':=fun b=>h1.size≤b) fun _ _ h=>h.elim).trans k4).mono fun b hb e=>by omega
 have hkl:k < p.length:=by
  have:=of_decide_eq_true hc;omega
 have hx:=List.getElem?_eq_getElem hkl;have hdr:=fS hx;have hmem:p[k]∈p:=List.getElem_mem hkl;generalize p[k]=x at hx hmem hdr;have hxok:=hok.ok x hmem;obtain ⟨hnm,hpl,hpn,hbo⟩:=hsm.nm x hmem;have hxb:br x.body≤20000:=Nat.le_trans (sD hmem) hsm.tot;have hpp:=vx x.ps hpn;have hpl6:=hxok.pl;have hsp:pgT p=pgT (p.take k)++(sgT x++pgT (p.drop (k+1))):=by
  conv=>lhs;rw [←List.take_append_drop k p,hdr]
  unfold pgT;rw [List.flatMap_append,List.flatMap_cons]
 have hsp:=congrArg List.length hsp;simp only [List.length_append] at hsp;refine hs1.wQ ps3.k hx fun vp vb hps hbd=>?_;refine ⟨rfl,jc (du hps.2) hbd.bp,ay (cs:=sgC x vp vb) rfl ?_⟩;have hb4:=af (h:=h3) (o:=.cells (sgC x vp vb).toArray 41 (0,0));have k4:=ar.push (S:=fun _=>False) h3 (.cells (sgC x vp vb).toArray 41 (0,0));have hL:h3.size≠h1.size:=by have:=ps3.blt;omega
 generalize h3.push (.cells (sgC x vp vb).toArray 41 (0,0))=h4 at *;have ps4:=ps3.more k4;refine lx hb4 (j:=2) rfl ?_;refine bh.sl (hps.1.az ps4.k) fun _ _=>?_;refine ⟨fun o t h'=>∃j:Nat,t=.int .i64 j∧j≤x.ps.length∧bW h' h4.size 9 1 o j (((x.ps.take j).map fun q=>bs (prT q)).map .string)∧KF h4 h',
  fun _ t _=>match t with|.int _ j=>x.ps.length - j.toNat|_=>0,⟨0,rfl,by omega,bW.nil,ar.refl _ _⟩,?_⟩
 rintro out _ _ h5 ⟨j,rfl,hj,ho,k5⟩;have hb5:=k5.get hb4 (by simp)
 have ps5:=ps4.more k5;rw [asK_int];refine ae (fun hc=>?_) (fun hc=>?_)
 ·have hjl:j < x.ps.length:=by
   have:=of_decide_eq_true hc;omega
  have hy:=List.getElem?_eq_getElem hjl;have hqm:x.ps[j]∈x.ps:=List.getElem_mem hjl;generalize x.ps[j]=q at hy hqm;obtain ⟨hq1,hq2⟩:=hpn q hqm;have hq1:q.1.size≤100:=hq1;have hq2:q.2.size≤100:=hq2;have hkl:=pY q.2;refine bh.rdS (f:=pf) (hps.1.az ps5.k) iF hy ?_;refine ⟨rfl,zJ q,ay (cs:=pf q) rfl ?_⟩;have hb6:=af (h:=h5) (o:=.cells (pf q).toArray 32 (0,0));have k6:=ar.push (S:=fun _=>False) h5 (.cells (pf q).toArray 32 (0,0))
  generalize h5.push (.cells (pf q).toArray 32 (0,0))=h6 at *;refine lx hb6 (j:=0) rfl ?_;rw [asS_str,lit,aD];simp only [List.length_cons,List.length_nil];refine ⟨by omega,?_⟩
  refine lx hb6 (j:=1) rfl ?_;refine aa.use (xw hω q.2 (by omega) h6) ?_
  rintro _ h7 ⟨rfl,k7⟩;have hb7:=k7.get hb6 (by simp)
  refine ⟨lx' hb7 rfl,?_⟩;rw [asS_str,da,aD,aD];simp only [List.length_cons,List.length_nil];refine ⟨by omega,?_⟩
  have hstr:(q.1++bs [32])++bs (rj q.2)=bs (prT q):=aZ (by rw [aB];simp only [b5,aB];rfl)
  rw [hstr];have k57:=k6.trans k7;have hlt:=ho.lt;refine cE (bt:=16) (cs:=[.string (bs (prT q))]) (by kernel_rfl) (ho.more k57) rfl (fun u hu=>by obtain rfl:=List.mem_singleton.1 hu;rfl) (by omega) (by omega) (by have:=k5.size;have:=k57.size;omega) fun w2 h8 ho2 hg _ hv=>?_
  have k8:ar (fun b=>some b=out.ownBlock) h7 h8:=ar.grown hg fun b hb _=>hb.symm;have k08:KF h4 h8:=(((k5.trans k57).mono (S':=fun b=>some b=out.ownBlock) (fun _ _ h=>h.elim)).trans k8).mono fun b hb e=>by have:=hlt b e.symm;omega
  rw [asK_int,i64_in (by omega) (by omega)]
  refine ⟨⟨j+1,by simp,by omega,?_,k08⟩,by simp;omega⟩
  rw [aP hy,List.map_append,List.map_append];exact ho2
 ·have hc:=of_decide_eq_false hc;obtain rfl:j=x.ps.length:=by omega
  rw [List.take_length] at ho;have hj:Lib.join ((x.ps.map fun q=>bs (prT q)).map (·.data.toList)) (⟨#[44,32]⟩:ByteArray).data.toList=rA x.ps:=by
   unfold rA
   congr 1
   rw [List.map_map];exact List.map_congr_left fun x _=>aB _
  refine lx hb5 (j:=0) rfl ?_;refine aa.use (zv hω (x.ps.map fun q=>bs (prT q)) ⟨#[44,32]⟩ h5 (by rw [List.length_map];exact ho) (by rw [List.length_map];omega) (by rw [hj];omega)) ?_
  rintro _ h6 ⟨rfl,k6⟩;rw [hj];have hb6:=k6.get hb5 (by simp)
  have ps6:=ps5.more k6;refine ⟨lx' hb6 rfl,?_⟩;rw [oneK_str,oneK_str];have hfm:[bs [115,116,97,103,101,32],x.nm,bs [40],bs (rA x.ps),bs [41]].flatMap bytesOf=[115,116,97,103,101,32]++(bytesOf x.nm++([40]++(rA x.ps++[41]))):=by
   simp only [List.flatMap_cons,List.flatMap_nil,aB,List.append_nil]
  have hnm:x.nm.size≤100:=hnm;have hsl:(sgT x).length=8+x.nm.size+(rA x.ps).length+(pw 0 x.body).length+1:=by
   unfold sgT;simp only [List.length_append,aC,List.length_cons,List.length_nil];omega
  refine aa.use (ux hω ps6 (by omega) [bs [115,116,97,103,101,32],x.nm,bs [40],bs (rA x.ps),bs [41]] 5 rfl (by simp) (by rw [hfm];simp only [List.length_append,aC,List.length_cons,List.length_nil];omega)) ?_
  rintro _ h7 ⟨ps7,pk7⟩;rw [hfm] at ps7;have hb7:=pk7.get hb6 hL (by decide)
  refine lx hb7 (j:=3) rfl ?_;refine aa.use (Bk hω ht1 _ x.body (Nat.lt_succ_self _) (by omega) hbo h7 vb 0 _ hbd ps7 (by exact hxok.body) (by omega) (by simp only [List.length_append,aC,List.length_cons,List.length_nil,bk];omega)) ?_
  rintro _ h8 ⟨ps8,pk8⟩;refine aa.use (pe hω ps8 [bs [10]] 1 rfl (by simp) (by simp only [List.flatMap_cons,List.flatMap_nil,aB,List.append_nil,List.length_append,aC,List.length_cons,List.length_nil,bk];omega)) ?_
  rintro _ h9 ⟨ps9,pk9⟩;rw [asK_int,i64_in (by omega) (by omega)]
  refine ⟨⟨k+1,by simp,by omega,?_,(((((pk3.trans (PK.of k4)).trans (PK.of k5)).trans (PK.of k6)).trans pk7).trans pk8).trans pk9⟩,by simp;omega⟩
  have he:pgT (p.take (k+1))=pgT (p.take k)++sgT x:=by
   rw [aP hx];unfold pgT;rw [List.flatMap_append];simp
  rw [he];simp only [List.flatMap_cons,List.flatMap_nil,aB,List.append_nil,List.append_assoc] at ps9;unfold sgT;simp only [List.append_assoc];exact ps9
end
end Go.Proofs.YtkeeboomikkojaaGreatDoor
