import Derived.Test.YtkeeboomikkojaaGreatDoorRn8
namespace Go.Proofs.YtkeeboomikkojaaGreatDoor
open Go Go.Sx Go.Sx.Tk Go.Sx.Rn Go.Proofs.YtkeeboomikkojaaGreatDoor.Sx
def sgK (s:Sg):List Key:=kW qz::kN s.nm::kS [40]::(HT 0 s.ps++kS [41]::sd s.body)
def pgK (p:List Sg):List Key:=p.flatMap sgK
def pgQ (p:List Sg):Nat:=(p.map fun s=>dZ s.body).sum
mutual
theorem LB:∀(x:St) {m deep n:Int},stF x m deep=.ok n→n=m+stQ x
 |.mk d at_ a b t nn e body els,m,deep,n,h=>by
  unfold stF at h
  split at h
  ·cases h
  obtain ⟨m1,h1,h2⟩:=kX h;have c1:=tp body h1;have c2:=tp els h2;unfold stQ;omega
theorem tp:∀(l:List St) {m deep n:Int},jk l m deep=.ok n→n=m+dZ l
 |[],m,deep,n,h=>by
  unfold jk at h;cases h;unfold dZ;omega
 |x::r,m,deep,n,h=>by
  rw [kE] at h;obtain ⟨m1,h1,h2⟩:=kX h;have c1:=LB x h1;have c2:=tp r h2;unfold dZ;omega
end
theorem B7:∀{p:List Sg} {i m n:Int},m≤300→uZ p i m=.ok n→n=m+pgQ p∧n≤300
 |[],_,_,_,hm,h=>by
  unfold uZ at h;cases h;exact ⟨by simp [pgQ],hm⟩
 |s::r,i,m,n,hm,h=>by
  unfold uZ at h
  split at h
  ·cases h
  obtain ⟨m1,h1,h2⟩:=kX h;have hok:=kg s.body m 1 hm;rw [h1] at hok;have c1:=tp s.body h1;obtain ⟨c2,c3⟩:=B7 hok.2 h2;refine ⟨?_,c3⟩;unfold pgQ at c2 ⊢;rw [List.map_cons,List.sum_cons];omega
theorem EH {p:List Sg}{n:Int}(h:bC p=.ok n):pgQ p≤300:=by
 unfold bC at h
 split at h
 ·cases h
 split at h
 ·cases h
 have:=B7 (by decide) h
 omega
section
variable  {e:Int}
theorem Ms {s:Sg}(ok:KM s){n:Nat}{ts:List Tok}{ks:List Key}(h:ts.map db=sgK s++ks)(hn:n+dZ s.body≤300) :
  ∃s' ts',gN e n ts=.ok (s',n+dZ s.body,ts')∧sgZ false s'=sgZ false s∧ts'.map db=ks:=by
 have h:ts.map db=kW qz::kN s.nm::kS [40]::(HT 0 s.ps++kS [41]::(sd s.body++ks)):=by
  rw [h,sgK];simp
 obtain ⟨t,r,rfl,ht,hr⟩:=keys_cons h;obtain ⟨l1,h1,h2⟩:=dW (e:=e) hr;obtain ⟨l2,h3,h4⟩:=eH (e:=e) h2;obtain ⟨l3,h5,h6⟩:=Fy (e:=e) s.ps (acc:=[]) (f:=l2.length+1) (fun q hq=>(ok.ps q hq).2) h4 (by have:=ok.pl;simpa using this) (Zd _)
 obtain ⟨b,l4,h7,h8,h9⟩:=AU (e:=e) (deep:=0) (Dm s.body (zG s.body ok.body)) (by decide) (f:=3*l3.length+3) (n:=n) h6 hn (by omega)
 refine ⟨⟨s.nm,t.at_,s.ps,b⟩,l4,?_,?_,h9⟩
 ·unfold gN;show aD (ee e r) _=_;rw [h1,ay];show aD (bl e [40] l1) _=_;rw [h3,ay,h5,ay];show aD (bD e (3*l3.length+3) 0 n l3) _=_;rw [h7];rfl
 ·exact Mc.2 ⟨rfl,fun hh=>Bool.noConfusion hh,rfl,h8⟩
theorem Aw:∀(p:List Sg) {acc:List Sg} {f n:Nat} {ts:List Tok},(∀s∈p,KM s)→ts.map db=pgK p→acc.length+p.length≤10→acc.length+p.length≠0→n+pgQ p≤300→ts.length+1≤f →
  ∃p',cO e f acc n ts=.ok (acc++p')∧uk false p'=uk false p
 |[],acc,f,n,ts,_,h,_,h0,_,hf=>by
  obtain ⟨f,rfl⟩:∃g,f=g+1:=⟨f - 1,by omega⟩
  have hl:=aS h;refine ⟨[],?_,rfl⟩;unfold cO;rw [if_pos ⟨by rw [hl];rfl,by simpa using h0⟩,Z1]
 |s::p,acc,f,n,ts,hok,h,h10,h0,hn,hf=>by
  obtain ⟨f,rfl⟩:∃g,f=g+1:=⟨f - 1,by omega⟩
  simp only [Qn] at h10;have h:ts.map db=sgK s++pgK p:=by rw [h];unfold pgK;rw [Ql]
  have hnn:pgQ (s::p)=dZ s.body+pgQ p:=by unfold pgQ;rw [List.map_cons,List.sum_cons]
  rw [hnn] at hn;obtain ⟨s',l1,h1,h2,h3⟩:=Ms (e:=e) (hok s Qg) (n:=n) h (by omega)
  have hl:=aS h;have hl1:=aS h3;have hpos:1≤(sgK s).length:=by
   unfold sgK;simp
  rw [Qd] at hl;obtain ⟨p',h4,h5⟩:=Aw p (acc:=acc++[s']) (f:=f) (n:=n+dZ s.body) (ts:=l1) (fun q hq=>hok q (Q9 _ hq)) h3 (by rw [Qd];simp;omega) (by rw [Qd];simp) (by omega) (by omega)
  refine ⟨s'::p',?_,?_⟩
  ·unfold cO;rw [if_neg (fun hh=>by omega),dw h,show isK [115,116,97,103,101] (sgK s++pgK p)=true from by unfold sgK;rw [Qu,wO];decide,if_pos rfl,if_neg (by omega),h1,ay]
   show cO e f (acc++[s']) (n+dZ s.body) l1=_;rw [h4,Qk];rfl
  ·unfold uk;rw [List.map_cons,List.map_cons,h2];exact congrArg _ h5
theorem Gj {p:List Sg}{n:Int}(hp:bC p=.ok n){ts:List Tok}(h:ts.map db=pgK p):∃p',qn e ts=.ok p'∧uk false p'=uk false p:=by
 have ok:=Bx hp;have hc:=EH hp;obtain ⟨p',h1,h2⟩:=Aw (e:=e) p (acc:=[]) (f:=ts.length+2) (n:=0) ok.ok h (by simpa using ok.len) (by simpa using ok.ne) (by omega) (by omega)
 exact ⟨p',h1,h2⟩
end
def SK (l:List UInt8)(ks:List Key):Prop:=∀at_:Int,∃ts,jz 2 3 4 l at_ (.ok ts)∧ts.map db=ks
def bnd:List UInt8→Prop
 |[]=>True
 |c::_=>ld c=false
theorem Le:SK [] []:=fun _=>⟨[],.stop rfl,rfl⟩
theorem xa {c:UInt8}(hc:c.toNat=10∨c.toNat=32∨c.toNat=9){r:List UInt8}{ks:List Key}(h:SK r ks):SK (c::r) ks:=by
 intro at_;obtain ⟨ts,h1,h2⟩:=h (at_+(1:Nat));refine ⟨ts,jz.skip (l':=r) (k:=1) ?_ (fun j=>by rw [Nat.add_comm,List.drop_succ_cons]) h1,h2⟩
 conv=>lhs;unfold bk
 rcases hc with hc|hc|hc
 ·rw [if_pos hc,Nat.add_comm]
 ·rw [if_neg (by omega),if_pos (.inr (.inl hc)),Nat.add_comm]
 ·rw [if_neg (by omega),if_pos (.inr (.inr (.inl hc))),Nat.add_comm]
theorem iJ {r:List UInt8}{ks:List Key}(h:SK r ks):SK (32::r) ks:=xa (.inr (.inl rfl)) h
theorem F3 {r:List UInt8}{ks:List Key}(h:SK r ks):SK (10::r) ks:=xa (.inl rfl) h
theorem Hg {r:List UInt8}{ks:List Key}(h:SK r ks):∀k,SK (sV k++r) ks
 |0=>h
 |k+1=>by
  have:=Hg h k;unfold sV at this ⊢;rw [List.replicate_succ,Qu];exact xa (.inr (.inr rfl)) this
theorem xL:∀{w r:List UInt8},w.all ld=true→bnd r→run (w++r)=w.length
 |[],r,_,hb=>by
  cases r with
  |nil=>rfl
  |cons c r =>
   rw [Z4,pw,if_neg (by rw [show ld c=false from hb];exact Qe)]
   rfl
 |c::w,r,h,hb=>by
  rw [List.all_cons,Qq] at h;rw [Qu,pw,if_pos h.1,xL h.2 hb,Qn]
theorem Jm {c:UInt8}{r:List UInt8}(h:c.toNat≠10∧c.toNat≠32∧c.toNat≠9∧c.toNat≠13∧c.toNat≠35):bk false (c::r)=0:=by
 obtain ⟨h1,h2,h3,h4,h5⟩:=h;unfold bk;rw [if_neg h1,if_neg (by simp [h2,h3,h4]),if_neg h5]
theorem wK {c:UInt8}{w r:List UInt8}{kind n:Int}{ks:List Key}(hb:c.toNat≠10∧c.toNat≠32∧c.toNat≠9∧c.toNat≠13∧c.toNat≠35)(h1:uY 2 3 4 (c::(w++r))=.tok kind (w.length+1) n)(h:SK r ks) :
  SK (c::(w++r)) ((kind,bs (c::w),n)::ks):=by
 intro at_;have hz:=Jm (r:=w++r) hb;obtain ⟨ts,h2,h3⟩:=h (at_+(0:Nat)+((w.length+1:Nat):Int));have hd:(c::(w++r)).drop (w.length+1)=r:=by rw [List.drop_succ_cons,List.drop_left]
 have ht:(c::(w++r)).take (w.length+1)=c::w:=by rw [List.take_succ_cons,List.take_left]
 refine ⟨_,jz.tok (c:=c) (r:=w++r) (by rw [hz];rfl) h1 (ts:=ts) ?_,?_⟩
 ·rw [hd,hz];exact h2
 ·rw [List.map_cons,ht,h3];rfl
theorem NP {c:UInt8}(h:lo c=true):c.toNat≠10∧c.toNat≠32∧c.toNat≠9∧c.toNat≠13∧c.toNat≠35:=by
 unfold lo at h;rw [Qq] at h;have h1:=Qj h.1;omega
theorem P5 {c:UInt8}(h:Tk.dg c=true):c.toNat≠10∧c.toNat≠32∧c.toNat≠9∧c.toNat≠13∧c.toNat≠35:=by
 unfold Tk.dg at h;rw [Qq] at h;have h1:=Qj h.1;have h2:=Qj h.2;omega
theorem PN {c:UInt8}(h:Tk.dg c=true):lo c=false:=by
 unfold Tk.dg at h;rw [Qq] at h;have h2:=Qj h.2;unfold lo;rw [Z0 (by omega)]
 rfl
theorem Px {l:List UInt8}(h:l.all Tk.dg=true):l.all ld=true:=by
 rw [List.all_eq_true] at h ⊢;intro c hc;unfold Tk.ld;rw [h c hc,Bool.or_true]
theorem iy (c:UInt8)(r:List UInt8):uY 2 3 4 (c::r)=(if lo c=true then (if isWord ((c::r).take (run (c::r)))=true then .tok 1 (run (c::r)) 0 else if 12 < run (c::r) then .bad 4 else .tok 2 (run (c::r)) 0)
 else if Tk.dg c=true then (match DI ((c::r).take (run (c::r))) with|none=>.bad 3|some n=>.tok 3 (run (c::r)) n)
 else if c.toNat=61 then (match r with|d::_=>if d.toNat=61 then .tok 4 2 0 else .tok 4 1 0|[]=>.tok 4 1 0)
 else if qW c=true then .tok 4 1 0 else .bad 2):=rfl
theorem O8 {w r:List UInt8}{ks:List Key}(hw:isWord w=true)(hl:w.all ld=true)(h0:∃c l,w=c::l∧lo c=true)(hb:bnd r)(h:SK r ks):SK (w++r) (kW w::ks):=by
 have hr:=xL hl hb;obtain ⟨c,l,rfl,hc⟩:=h0;rw [Qu] at hr ⊢;refine wK (NP hc) ?_ h;rw [iy,if_pos hc,hr];have ht:(c::(l++r)).take (c::l).length=c::l:=by rw [Qn,List.take_succ_cons,List.take_left]
 rw [ht,if_pos hw];rfl
theorem HX {s:ByteArray}(hs:aL s=true){r:List UInt8}{ks:List Key}(hb:bnd r)(h:SK r ks):SK (bytesOf s++r) (kN s::ks):=by
 unfold aL dr at hs;simp only [Qq,decide_eq_true_eq,Bool.not_eq_true'] at hs;obtain ⟨⟨h1,h2,h3,h4⟩,h5⟩:=hs;have hr:=xL h5 hb;have hlen:=aH s;have hsb:bs (bytesOf s)=s:=jI s;unfold cAt at h3;generalize bytesOf s=w at *;cases w with
 |nil=>simp at hlen;omega
 |cons c l =>
  have hc:lo c=true:=h3;rw [Qu] at hr ⊢;have ht:(c::(l++r)).take (c::l).length=c::l:=by rw [Qn,List.take_succ_cons,List.take_left]
  have:=wK (kind:=2) (n:=0) (NP hc) (w:=l) (r:=r) (by
   rw [iy,if_pos hc,hr,ht,h4,if_neg Qe,if_neg (by omega)]
   rfl) h
  rw [hsb] at this;exact this
theorem sk_u {n:Int}(h0:0≤n)(h1:n < 1000000000000000000){r:List UInt8}{ks:List Key}(hb:bnd r)(h:SK r ks):SK (Lib.itoa n++r) (kU n::ks):=by
 have ha:=Dd h0;have hn:=Fw h0 h1;have hne:=Mx h0;have hr:=xL (Px ha) hb;unfold kU;generalize Lib.itoa n=w at *;cases w with
 |nil=>exact absurd rfl hne
 |cons c l =>
  rw [List.all_cons,Qq] at ha;rw [Qu] at hr ⊢;have ht:(c::(l++r)).take (c::l).length=c::l:=by rw [Qn,List.take_succ_cons,List.take_left]
  refine wK (P5 ha.1) ?_ h;rw [iy,PN ha.1,if_neg Qe,if_pos ha.1,hr,ht,hn];rfl
theorem ux {c:UInt8}(hc:lo c=false∧Tk.dg c=false∧c.toNat≠61∧qW c=true∧(c.toNat≠10∧c.toNat≠32∧c.toNat≠9∧c.toNat≠13∧c.toNat≠35)){r:List UInt8}{ks:List Key}(h:SK r ks):SK (c::r) (kS [c]::ks):=by
 obtain ⟨h1,h2,h3,h4,h5⟩:=hc;refine wK (w:=[]) h5 ?_ h;rw [iy,h1,if_neg Qe,h2,if_neg Qe,if_neg h3,if_pos h4];rfl
theorem Oc {r:List UInt8}{ks:List Key}(h:SK r ks):SK (61::32::r) (kS [61]::ks):=by
 refine wK (w:=[]) (by decide) ?_ (iJ h)
 rw [iy,if_neg (by decide),if_neg (by decide),if_pos (by decide)]
 rfl
theorem Ln {r:List UInt8}{ks:List Key}(h:SK r ks):SK (61::61::r) (kS [61,61]::ks):=by
 refine wK (w:=[61]) (by decide) ?_ h
 rw [iy,if_neg (by decide),if_neg (by decide),if_pos (by decide)]
 rfl
abbrev SKX (x:Ex):Prop:=∀(r:List UInt8) (ks:List Key),bnd r→SK r ks→SK (exT x++r) (exK x++ks)
theorem FY {a:Ex}(h:SKX a)(m:Int){r:List UInt8}{ks:List Key}(hb:bnd r)(hr:SK r ks):SK (brk m (a.op,exT a)++r) (tI m (a.op,exK a)++ks):=by
 unfold brk tI
 split
 ·rw [Qu,Qu,Qk,Qk];exact ux (by decide) (h _ _ (by show ld 41=false;decide) (ux (by decide) hr))
 ·exact h _ _ hb hr
theorem N0 (a:Ex):exT (nH a)=45::brk 4 (a.op,exT a):=rfl
theorem OM {op:Int}(h1:4≤op)(a b:Ex):exT (bz op a b)=brk (lmO op) (a.op,exT a)++sgn op++brk (rk op+1) (b.op,exT b):=by
 show exB op ⟨#[]⟩ 0 [(a.op,exT a),(b.op,exT b)]=_;unfold exB;rw [if_neg (by omega),if_neg (by omega),if_neg (by omega)]
 rfl
theorem OW {op:Int}(h4:4≤op)(h8:op≤8){r:List UInt8}{ks:List Key}(hr:SK r ks):SK (sgn op++r) (kS (QA op)::ks):=by
 have h:op=4∨op=5∨op=6∨op=7∨op=8:=by omega
 rcases h with rfl|rfl|rfl|rfl|rfl
 ·exact iJ (ux (c:=43) (by decide) (iJ hr))
 ·exact iJ (ux (c:=45) (by decide) (iJ hr))
 ·exact iJ (ux (c:=42) (by decide) (iJ hr))
 ·exact iJ (ux (c:=60) (by decide) (iJ hr))
 ·exact iJ (Ln (iJ hr))
theorem MD (op:Int)(r:List UInt8):bnd (sgn op++r):=by
 unfold sgn
 repeat' split
 all_goals (show ld 32=false;decide)
theorem Et {x:Ex}(hx:Xw x):SKX x:=by
 induction hx with
 |num h0 h1=>intro r ks hb hr;exact sk_u h0 h1 hb hr
 |name h0=>intro r ks hb hr;exact HX h0 hb hr
 |neg _ ih =>
  intro r ks hb hr;rw [N0,Ba,Qu,Qu];exact ux (by decide) (FY ih 4 hb hr)
 |T h4 h8 _ _ iha ihb =>
  intro r ks hb hr;rw [OM h4,uH h4,Qk,Qk,Qk,Qu];exact FY iha _ (MD _ _) (OW h4 h8 (FY ihb _ hb hr))
theorem ws:(isWord AP&&isWord Bq&&isWord rK&&isWord tY&&isWord qs&&isWord qi&&isWord wq&&isWord rX&&isWord kA&&isWord sK&&isWord qH&&isWord ra&&isWord Bg&&isWord ow&&isWord lI&&isWord LQ&&isWord jf&&isWord AX&&isWord qz)=true:=by decide
theorem cZ {w r:List UInt8}{ks:List Key}(hw:(isWord w&&w.all ld&&(match w with|[]=>false|c::_=>lo c))=true)(h:SK r ks):SK (w++32::r) (kW w::ks):=by
 rw [Qq,Qq] at hw;refine O8 hw.1.1 hw.1.2 ?_ (by show Tk.ld 32=false;decide) (iJ h)
 cases w with
 |nil=>cases hw.2
 |cons c l=>exact ⟨c,l,rfl,hw.2⟩
theorem mh {s:ByteArray}(hs:aL s=true){r:List UInt8}{ks:List Key}(h:SK r ks):SK (bytesOf s++32::r) (kN s::ks) :=
 HX hs (by show Tk.ld 32=false;decide) (iJ h)
def HZ:Nat→List Ex→List UInt8
 |_,[]=>[]
 |n,x::r=>(if n=0 then [] else [44,32])++(exT x++HZ (n+1) r)
theorem Ab:∀(l:List Ex) (n:Nat),HZ (n+1) l=Lib.joinTail [44,32] (l.map exT)
 |[],_=>rfl
 |x::r,n=>by
  unfold HZ;rw [if_neg (by omega),Ab r (n+1)]
  simp [Lib.joinTail]
theorem yV (l:List Ex):cE l=HZ 0 l:=by
 unfold cE;cases l with
 |nil=>rfl
 |cons x r =>
  rw [List.map_cons,Lib.join_cons];unfold HZ;rw [if_pos rfl,Ab r 0,Z4]
theorem Mw {n:Nat}(l:List Ex){r:List UInt8}(hb:bnd r):bnd (HZ (n+1) l++r):=by
 cases l with
 |nil=>exact hb
 |cons x r' =>
  unfold HZ;rw [if_neg (by omega)]
  show Tk.ld 44=false;decide
theorem EM:∀(l:List Ex) (n:Nat) {r:List UInt8} {ks:List Key},(∀x∈l,XwL x)→bnd r→SK r ks→SK (HZ n l++r) (mj n l++ks)
 |[],_,r,ks,_,_,hr=>hr
 |x::l,n,r,ks,hx,hb,hr=>by
  have h1:=EM l (n+1) (fun y hy=>hx y (Q9 _ hy)) hb hr;have h2:=Et (hx x Qg).1 _ _ (Mw (n:=n) l hb) h1;unfold HZ mj;rw [Qk,Qk,Qk,Qk]
  split
  ·exact h2
  ·exact ux (by decide) (iJ h2)
theorem wz:∀(l:List UInt8) {r:List UInt8} {ks:List Key},(∀c∈l,c=115∨c=114)→bnd r→SK r ks→SK (l.flatMap kwd++([105,110,116]++r)) (l.map wdK++(kW AX::ks))
 |[],r,ks,_,hb,hr=>O8 (w:=[105,110,116]) (by decide) (by decide) ⟨_,_,rfl,by decide⟩ hb hr
 |c::l,r,ks,hc,hb,hr=>by
  have h1:=wz l (fun d hd=>hc d (Q9 _ hd)) hb hr;rw [Ql,List.map_cons,Qk,Qu];rcases hc c Qg with rfl|rfl
  ·exact cZ (w:=qi) (by decide) h1
  ·exact cZ (w:=wq) (by decide) h1
theorem Ff {s:ByteArray}(hs:ck s 3=true){r:List UInt8}{ks:List Key}(hb:bnd r)(hr:SK r ks):SK (th s++r) (vE s++ks):=by
 obtain ⟨l,h1,h2,h3,h4⟩:=BR hs;unfold th vE;rw [←h2,Qk,Qk];exact wz l h4 hb hr
abbrev SKS (x:St):Prop:=∀(k:Nat) (r:List UInt8) (ks:List Key),SK r ks→SK (stT k x++r) (stK x++ks)
abbrev SKL (l:List St):Prop:=∀(k:Nat) (r:List UInt8) (ks:List Key),SK r ks→SK (qX k l++r) (H0 l++ks)
theorem EI {l:List St}(h:SKL l)(k:Nat){r:List UInt8}{ks:List Key}(hr:SK r ks):SK (qG k l++r) (sd l++ks):=by
 unfold qG sd;simp only [Qk,Qu,Z4];exact iJ (ux (by decide) (F3 (h (k+1) _ _ (Hg (ux (by decide) hr) k))))
theorem x6 {body els:List St}(h1:SKL body)(h2:SKL els)(k:Nat){r:List UInt8}{ks:List Key}(hr:SK r ks) :
  SK (qG k body++((if els.length=0 then [] else [32,101,108,115,101]++qG k els)++([10]++r))) (sd body++((if els.length=0 then [] else kW jf::sd els)++ks)):=by
 refine EI h1 k ?_
 split
 ·exact F3 hr
 ·have:=EI h2 k (F3 hr);rw [Qk,Qu];refine iJ (O8 (w:=jf) (by decide) (by decide) ⟨_,_,rfl,by decide⟩ ?_ this)
  unfold qG;show Tk.ld 32=false;decide
theorem um {r:List UInt8}{ks:List Key}(hr:SK r ks):SK (59::10::r) (kS [59]::ks):=ux (by decide) (F3 hr)
theorem xX (k:Nat)(l:List St)(r:List UInt8):bnd (qG k l++r):=by
 unfold qG;show Tk.ld 32=false;decide
mutual
theorem PG:∀(x:St) {deep:Nat},Sw deep x→SKS x
 |.mk d at_ a b t n es body els,deep,h=>by
  intro k r ks hr;have hB:(∀y∈body,Sw (deep+1) y)→SKL body:=fun h=>Dh body h;have hE:(∀y∈els,Sw (deep+1) y)→SKL els:=fun h=>Dh els h;rw [CZ,Qk,Qk,Qk];refine Hg ?_ k;have hnil:cE []=[]:=rfl;have hone:∀x,cE [x]=exT x:=fun x=>by rw [yV];simp [HZ]
  cases h with
  |@let_ _ _ _ _ x hd hn hx =>
   have hfin:=Et hx.1 _ _ (by show Tk.ld 59=false;decide) (um hr)
   rcases hd with rfl|rfl
   ·have:=cZ (w:=AP) (by decide) (mh hn (Oc hfin))
    simpa [stK,bO,eP,mj,St.d,St.a,St.e,St.body,St.els,fmD,aT,hone,AP] using this
   ·have:=cZ (w:=Bq) (by decide) (mh hn (Oc hfin))
    simpa [stK,bO,eP,mj,St.d,St.a,St.e,St.body,St.els,fmD,aT,hone,Bq] using this
  |@emit _ _ x hx =>
   have hfin:=Et hx.1 _ _ (by show Tk.ld 59=false;decide) (um hr)
   have:=cZ (w:=rK) (by decide) hfin
   simpa [stK,bO,eP,mj,St.d,St.a,St.e,St.body,St.els,fmD,aT,hone,rK] using this
  |@chan _ _ _ _ _ _ ha hb hty h0 h1 =>
   have:=cZ (w:=tY) (by decide) (mh ha (mh hb (Ff hty (by show Tk.ld 32=false;decide) (iJ (sk_u h0 h1 (by show Tk.ld 59=false;decide) (um hr))))))
   simpa [stK,bO,eP,mj,St.d,St.a,St.b,St.t,St.n,St.e,St.body,St.els,fmD,aT,hnil,tY] using this
  |@clone _ _ _ _ ha hb =>
   have:=cZ (w:=qs) (by decide) (mh ha (HX hb (by show Tk.ld 59=false;decide) (um hr)))
   simpa [stK,bO,eP,mj,St.d,St.a,St.b,St.e,St.body,St.els,fmD,aT,hnil,qs] using this
  |@send _ _ _ x ha hx =>
   have hfin:=Et hx.1 _ _ (by show Tk.ld 59=false;decide) (um hr)
   have:=cZ (w:=qi) (by decide) (mh ha hfin)
   simpa [stK,bO,eP,mj,St.d,St.a,St.e,St.body,St.els,fmD,aT,hone,qi] using this
  |@one _ _ _ _ hd ha =>
   have hfin:=HX ha (by show Tk.ld 59=false;decide) (um hr)
   rcases hd with rfl|rfl|rfl
   ·have:=cZ (w:=rX) (by decide) hfin
    simpa [stK,bO,eP,mj,St.d,St.a,St.e,St.body,St.els,fmD,aT,hnil,rX] using this
   ·have:=cZ (w:=kA) (by decide) hfin
    simpa [stK,bO,eP,mj,St.d,St.a,St.e,St.body,St.els,fmD,aT,hnil,kA] using this
   ·have:=cZ (w:=sK) (by decide) hfin
    simpa [stK,bO,eP,mj,St.d,St.a,St.e,St.body,St.els,fmD,aT,hnil,sK] using this
  |@spawn _ _ _ _ ha hl hx =>
   have hfin:=EM es 0 hx (by show Tk.ld 41=false;decide) (ux (c:=41) (by decide) (um hr))
   have:=cZ (w:=qH) (by decide) (HX ha (by show Tk.ld 40=false;decide) (ux (c:=40) (by decide) hfin))
   simpa [stK,bO,eP,St.d,St.a,St.e,St.body,St.els,fmD,aT,yV,qH] using this
  |@take _ _ _ _ _ _ ha hb hd hbd hel =>
   have hfin:=x6 (hB hbd) (hE hel) k hr;have:=cZ (w:=ra) (by decide) (mh ha (cZ (w:=ow) (by decide) (HX hb (xX k body _) hfin)))
   simpa [stK,bO,eP,mj,St.d,St.a,St.b,St.e,St.body,St.els,fmD,aT,hnil,ra,ow,sd] using this
  |@for_ _ _ _ _ _ ha hb hd hbd =>
   have hfin:=x6 (hB hbd) (hE (fun y hy=>absurd hy List.not_mem_nil)) k hr;have:=cZ (w:=Bg) (by decide) (mh ha (cZ (w:=ow) (by decide) (HX hb (xX k body _) hfin)))
   simpa [stK,bO,eP,mj,St.d,St.a,St.b,St.e,St.body,St.els,fmD,aT,hnil,Bg,ow,sd] using this
  |@rep _ _ x _ hx hd hbd =>
   have hfin:=x6 (hB hbd) (hE (fun y hy=>absurd hy List.not_mem_nil)) k hr;have:=cZ (w:=lI) (by decide) (Et hx.1 _ _ (xX k body _) hfin)
   simpa [stK,bO,eP,mj,St.d,St.a,St.b,St.e,St.body,St.els,fmD,aT,hone,lI,sd] using this
  |@if_ _ _ x _ _ hx hd hbd hel =>
   have hfin:=x6 (hB hbd) (hE hel) k hr;have:=cZ (w:=LQ) (by decide) (Et hx.1 _ _ (xX k body _) hfin)
   simpa [stK,bO,eP,mj,St.d,St.a,St.b,St.e,St.body,St.els,fmD,aT,hone,LQ,sd] using this
theorem Dh:∀(l:List St) {deep:Nat},(∀y∈l,Sw deep y)→SKL l
 |[],deep,_=>fun _ _ _ hr=>hr
 |x::l,deep,h=>by
  intro k r ks hr;unfold qX H0;rw [Qk,Qk];exact PG x (h x Qg) k _ _ (Dh l (fun y hy=>h y (Q9 _ hy)) k _ _ hr)
end
def IZ:Nat→List (ByteArray×ByteArray)→List UInt8
 |_,[]=>[]
 |n,q::r=>(if n=0 then [] else [44,32])++(prT q++IZ (n+1) r)
theorem Ay:∀(l:List (ByteArray×ByteArray)) (n:Nat),IZ (n+1) l=Lib.joinTail [44,32] (l.map prT)
 |[],_=>rfl
 |x::r,n=>by
  unfold IZ;rw [if_neg (by omega),Ay r (n+1)]
  simp [Lib.joinTail]
theorem Jy (l:List (ByteArray×ByteArray)):tK l=IZ 0 l:=by
 unfold tK;cases l with
 |nil=>rfl
 |cons x r =>
  rw [List.map_cons,Lib.join_cons];unfold IZ;rw [if_pos rfl,Ay r 0,Z4]
theorem EO:∀(l:List (ByteArray×ByteArray)) (n:Nat) {r:List UInt8} {ks:List Key},(∀q∈l,aL q.1=true∧ck q.2 3=true)→bnd r→SK r ks→SK (IZ n l++r) (HT n l++ks)
 |[],_,r,ks,_,_,hr=>hr
 |q::l,n,r,ks,hx,hb,hr=>by
  have h1:=EO l (n+1) (fun y hy=>hx y (Q9 _ hy)) hb hr;obtain ⟨hn,ht⟩:=hx q Qg;have hbb:bnd (IZ (n+1) l++r):=by
   cases l with
   |nil=>exact hb
   |cons x r' =>
    unfold IZ;rw [if_neg (by omega)]
    show Tk.ld 44=false;decide
  have h2:=mh hn (Ff ht hbb h1);unfold IZ HT prT;simp only [Qk,Qu,Z4]
  split
  ·exact h2
  ·exact ux (by decide) (iJ h2)
theorem QD {s:Sg}(ok:KM s){r:List UInt8}{ks:List Key}(hr:SK r ks):SK (sgT s++r) (sgK s++ks):=by
 have h1:=EI (Dh s.body (zG s.body ok.body)) 0 (F3 hr);have h2:=EO s.ps 0 ok.ps (by show Tk.ld 41=false;decide) (ux (c:=41) (by decide) h1)
 have h3:=cZ (w:=qz) (by decide) (HX ok.nm (by show Tk.ld 40=false;decide) (ux (c:=40) (by decide) h2))
 simpa [sgT,sgK,Jy,qz] using h3
theorem Nh:∀{p:List Sg},(∀s∈p,KM s)→SK (pgT p) (pgK p)
 |[],_=>Le
 |s::p,h=>by
  unfold pgT pgK;rw [Ql,Ql];exact QD (h s Qg) (Nh (fun q hq=>h q (Q9 _ hq)))
theorem Bm (e:Int){p:List Sg}{n:Int}(hp:bC p=.ok n):∃ts p',jz 2 3 4 (pgT p) 0 (.ok ts)∧qn e ts=.ok p'∧uk false p'=uk false p:=by
 obtain ⟨ts,h1,h2⟩:=Nh (Bx hp).ok 0;obtain ⟨p',h3,h4⟩:=Gj (e:=e) hp h2;exact ⟨ts,p',h1,h3,h4⟩
theorem Mq (x y:St)(hd:x.d=y.d)(ha:x.a=y.a)(hb:x.b=y.b)(ht:x.t=y.t)(hn:x.n=y.n):bO x=bO y:=by
 unfold bO;rw [hd,ha,hb,ht,hn]
theorem Nn (pl:Bool):∀(l:List St),(pd pl l).length=l.length
 |[]=>rfl
 |x::r=>by
  unfold pd;rw [Qn,Qn,Nn pl r]
mutual
theorem P4 (k:Nat):∀(x:St),stT k (stZ false x)=stT k x
 |.mk d at_ a b t n es body els=>by
  have h1:=CE (k+1) body;have h2:=CE (k+1) els;have h3:=Nn false els;unfold stZ stT;rw [h1,h2,h3,Mq (.mk d (if false=true then at_ else 0) a b t n es (pd false body) (pd false els)) (.mk d at_ a b t n es body els) rfl rfl rfl rfl rfl]
theorem CE (k:Nat):∀(l:List St),qX k (pd false l)=qX k l
 |[]=>rfl
 |x::r=>by
  have h1:=P4 k x;have h2:=CE k r;unfold pd qX;rw [h1,h2]
end
theorem PC (s:Sg):sgT (sgZ false s)=sgT s:=by
 unfold sgT qG sgZ;simp only [CE]
theorem M1 (p:List Sg):pgT (uk false p)=pgT p:=by
 unfold pgT uk;rw [List.flatMap_map]
 congr 1
 funext s
 exact PC s
end Go.Proofs.YtkeeboomikkojaaGreatDoor
