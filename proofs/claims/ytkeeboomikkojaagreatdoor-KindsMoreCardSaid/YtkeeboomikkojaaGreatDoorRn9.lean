import Derived.Test.YtkeeboomikkojaaGreatDoorRn8
namespace Go.Proofs.YtkeeboomikkojaaGreatDoor
open Go Go.Sx Go.Sx.Tk Go.Sx.Rn Go.Proofs.YtkeeboomikkojaaGreatDoor.Sx
def sgK (s:Sg):List Key:=kW pi::kN s.nm::kS [40]::(Eo 0 s.ps++kS [41]::qL s.body)
def pgK (p:List Sg):List Key:=p.flatMap sgK
def pgQ (p:List Sg):Nat:=(p.map fun s=>dh s.body).sum
mutual
theorem HD:∀(x:St) {m deep n:Int},stF x m deep=.ok n→n=m+stQ x
 |.mk d at_ a b t nn e body els,m,deep,n,h=>by
  unfold stF at h
  split at h
  ·cases h
  obtain ⟨m1,h1,h2⟩:=jW h;have c1:=rE body h1;have c2:=rE els h2;unfold stQ;omega
theorem rE:∀(l:List St) {m deep n:Int},hY l m deep=.ok n→n=m+dh l
 |[],m,deep,n,h=>by
  unfold hY at h;cases h;unfold dh;omega
 |x::r,m,deep,n,h=>by
  rw [jQ] at h;obtain ⟨m1,h1,h2⟩:=jW h;have c1:=HD x h1;have c2:=rE r h2;unfold dh;omega
end
theorem Ag:∀{p:List Sg} {i m n:Int},m≤300→sR p i m=.ok n→n=m+pgQ p∧n≤300
 |[],_,_,_,hm,h=>by
  unfold sR at h;cases h;exact ⟨by simp [pgQ],hm⟩
 |s::r,i,m,n,hm,h=>by
  unfold sR at h
  split at h
  ·cases h
  obtain ⟨m1,h1,h2⟩:=jW h;have hok:=iY s.body m 1 hm;rw [h1] at hok;have c1:=rE s.body h1;obtain ⟨c2,c3⟩:=Ag hok.2 h2;refine ⟨?_,c3⟩;unfold pgQ at c2 ⊢;rw [List.map_cons,List.sum_cons];omega
theorem BY {p:List Sg}{n:Int}(h:aV p=.ok n):pgQ p≤300:=by
 unfold aV at h
 split at h
 ·cases h
 split at h
 ·cases h
 have:=Ag (by decide) h
 omega
section
variable  {e:Int}
theorem GW {s:Sg}(ok:Ga s){n:Nat}{ts:List Tok}{ks:List Key}(h:ts.map cy=sgK s++ks)(hn:n+dh s.body≤300) :
  ∃s' ts',fx e n ts=.ok (s',n+dh s.body,ts')∧sgZ false s'=sgZ false s∧ts'.map cy=ks:=by
 have h:ts.map cy=kW pi::kN s.nm::kS [40]::(Eo 0 s.ps++kS [41]::(qL s.body++ks)):=by
  rw [h,sgK];simp
 obtain ⟨t,r,rfl,ht,hr⟩:=keys_cons h;obtain ⟨l1,h1,h2⟩:=dm (e:=e) hr;obtain ⟨l2,h3,h4⟩:=dH (e:=e) h2;obtain ⟨l3,h5,h6⟩:=CN (e:=e) s.ps (acc:=[]) (f:=l2.length+1) (fun q hq=>(ok.ps q hq).2) h4 (by have:=ok.pl;simpa using this) (Nat.le_refl _)
 obtain ⟨b,l4,h7,h8,h9⟩:=yn (e:=e) (deep:=0) (zd s.body (wL s.body ok.body)) (by decide) (f:=3*l3.length+3) (n:=n) h6 hn (by omega)
 refine ⟨⟨s.nm,t.at_,s.ps,b⟩,l4,?_,?_,h9⟩
 ·unfold fx;show aA (dj e r) _=_;rw [h1,av];show aA (aR e [40] l1) _=_;rw [h3,av,h5,av];show aA (aX e (3*l3.length+3) 0 n l3) _=_;rw [h7];rfl
 ·exact G4.2 ⟨rfl,fun hh=>Bool.noConfusion hh,rfl,h8⟩
theorem xI:∀(p:List Sg) {acc:List Sg} {f n:Nat} {ts:List Tok},(∀s∈p,Ga s)→ts.map cy=pgK p→acc.length+p.length≤10→acc.length+p.length≠0→n+pgQ p≤300→ts.length+1≤f →
  ∃p',cl e f acc n ts=.ok (acc++p')∧rT false p'=rT false p
 |[],acc,f,n,ts,_,h,_,h0,_,hf=>by
  obtain ⟨f,rfl⟩:∃g,f=g+1:=⟨f - 1,by omega⟩
  have hl:=aJ h;refine ⟨[],?_,rfl⟩;unfold cl;rw [if_pos ⟨by rw [hl];rfl,by simpa using h0⟩,List.append_nil]
 |s::p,acc,f,n,ts,hok,h,h10,h0,hn,hf=>by
  obtain ⟨f,rfl⟩:∃g,f=g+1:=⟨f - 1,by omega⟩
  simp only [List.length_cons] at h10;have h:ts.map cy=sgK s++pgK p:=by rw [h];unfold pgK;rw [List.flatMap_cons]
  have hnn:pgQ (s::p)=dh s.body+pgQ p:=by unfold pgQ;rw [List.map_cons,List.sum_cons]
  rw [hnn] at hn;obtain ⟨s',l1,h1,h2,h3⟩:=GW (e:=e) (hok s List.mem_cons_self) (n:=n) h (by omega)
  have hl:=aJ h;have hl1:=aJ h3;have hpos:1≤(sgK s).length:=by
   unfold sgK;simp
  rw [List.length_append] at hl;obtain ⟨p',h4,h5⟩:=xI p (acc:=acc++[s']) (f:=f) (n:=n+dh s.body) (ts:=l1) (fun q hq=>hok q (List.mem_cons_of_mem _ hq)) h3 (by rw [List.length_append];simp;omega) (by rw [List.length_append];simp) (by omega) (by omega)
  refine ⟨s'::p',?_,?_⟩
  ·unfold cl;rw [if_neg (fun hh=>by omega),cG h,show isK [115,116,97,103,101] (sgK s++pgK p)=true from by unfold sgK;rw [List.cons_append,wc];decide,if_pos rfl,if_neg (by omega),h1,av]
   show cl e f (acc++[s']) (n+dh s.body) l1=_;rw [h4,List.append_assoc];rfl
  ·unfold rT;rw [List.map_cons,List.map_cons,h2];exact congrArg _ h5
theorem Eb {p:List Sg}{n:Int}(hp:aV p=.ok n){ts:List Tok}(h:ts.map cy=pgK p):∃p',oU e ts=.ok p'∧rT false p'=rT false p:=by
 have ok:=yB hp;have hc:=BY hp;obtain ⟨p',h1,h2⟩:=xI (e:=e) p (acc:=[]) (f:=ts.length+2) (n:=0) ok.ok h (by simpa using ok.len) (by simpa using ok.ne) (by omega) (by omega)
 exact ⟨p',h1,h2⟩
end
def SK (l:List UInt8)(ks:List Key):Prop:=∀at_:Int,∃ts,ij 2 3 4 l at_ (.ok ts)∧ts.map cy=ks
def bnd:List UInt8→Prop
 |[]=>True
 |c::_=>ld c=false
theorem Gc:SK [] []:=fun _=>⟨[],.stop rfl,rfl⟩
theorem wh {c:UInt8}(hc:c.toNat=10∨c.toNat=32∨c.toNat=9){r:List UInt8}{ks:List Key}(h:SK r ks):SK (c::r) ks:=by
 intro at_;obtain ⟨ts,h1,h2⟩:=h (at_+(1:Nat));refine ⟨ts,ij.skip (l':=r) (k:=1) ?_ (fun j=>by rw [Nat.add_comm,List.drop_succ_cons]) h1,h2⟩
 conv=>lhs;unfold aQ
 rcases hc with hc|hc|hc
 ·rw [if_pos hc,Nat.add_comm]
 ·rw [if_neg (by omega),if_pos (.inr (.inl hc)),Nat.add_comm]
 ·rw [if_neg (by omega),if_pos (.inr (.inr (.inl hc))),Nat.add_comm]
theorem gA {r:List UInt8}{ks:List Key}(h:SK r ks):SK (32::r) ks:=wh (.inr (.inl rfl)) h
theorem Dj {r:List UInt8}{ks:List Key}(h:SK r ks):SK (10::r) ks:=wh (.inl rfl) h
theorem Cq {r:List UInt8}{ks:List Key}(h:SK r ks):∀k,SK (ra k++r) ks
 |0=>h
 |k+1=>by
  have:=Cq h k;unfold ra at this ⊢;rw [List.replicate_succ,List.cons_append];exact wh (.inr (.inr rfl)) this
theorem vR:∀{w r:List UInt8},w.all ld=true→bnd r→run (w++r)=w.length
 |[],r,_,hb=>by
  cases r with
  |nil=>rfl
  |cons c r =>
   rw [List.nil_append,nM,if_neg (by rw [show ld c=false from hb];exact Bool.false_ne_true)]
   rfl
 |c::w,r,h,hb=>by
  rw [List.all_cons,Bool.and_eq_true] at h;rw [List.cons_append,nM,if_pos h.1,vR h.2 hb,List.length_cons]
theorem FE {c:UInt8}{r:List UInt8}(h:c.toNat≠10∧c.toNat≠32∧c.toNat≠9∧c.toNat≠13∧c.toNat≠35):aQ false (c::r)=0:=by
 obtain ⟨h1,h2,h3,h4,h5⟩:=h;unfold aQ;rw [if_neg h1,if_neg (by simp [h2,h3,h4]),if_neg h5]
theorem uu {c:UInt8}{w r:List UInt8}{kind n:Int}{ks:List Key}(hb:c.toNat≠10∧c.toNat≠32∧c.toNat≠9∧c.toNat≠13∧c.toNat≠35)(h1:sX 2 3 4 (c::(w++r))=.tok kind (w.length+1) n)(h:SK r ks) :
  SK (c::(w++r)) ((kind,bs (c::w),n)::ks):=by
 intro at_;have hz:=FE (r:=w++r) hb;obtain ⟨ts,h2,h3⟩:=h (at_+(0:Nat)+((w.length+1:Nat):Int));have hd:(c::(w++r)).drop (w.length+1)=r:=by rw [List.drop_succ_cons,List.drop_left]
 have ht:(c::(w++r)).take (w.length+1)=c::w:=by rw [List.take_succ_cons,List.take_left]
 refine ⟨_,ij.tok (c:=c) (r:=w++r) (by rw [hz];rfl) h1 (ts:=ts) ?_,?_⟩
 ·rw [hd,hz];exact h2
 ·rw [List.map_cons,ht,h3];rfl
theorem IF {c:UInt8}(h:lo c=true):c.toNat≠10∧c.toNat≠32∧c.toNat≠9∧c.toNat≠13∧c.toNat≠35:=by
 unfold lo at h;rw [Bool.and_eq_true] at h;have h1:=of_decide_eq_true h.1;omega
theorem JC {c:UInt8}(h:Tk.dg c=true):c.toNat≠10∧c.toNat≠32∧c.toNat≠9∧c.toNat≠13∧c.toNat≠35:=by
 unfold Tk.dg at h;rw [Bool.and_eq_true] at h;have h1:=of_decide_eq_true h.1;have h2:=of_decide_eq_true h.2;omega
theorem Jx {c:UInt8}(h:Tk.dg c=true):lo c=false:=by
 unfold Tk.dg at h;rw [Bool.and_eq_true] at h;have h2:=of_decide_eq_true h.2;unfold lo;rw [decide_eq_false (by omega)]
 rfl
theorem Kc {l:List UInt8}(h:l.all Tk.dg=true):l.all ld=true:=by
 rw [List.all_eq_true] at h ⊢;intro c hc;unfold Tk.ld;rw [h c hc,Bool.or_true]
theorem gT (c:UInt8)(r:List UInt8):sX 2 3 4 (c::r)=(if lo c=true then (if isWord ((c::r).take (run (c::r)))=true then .tok 1 (run (c::r)) 0 else if 12 < run (c::r) then .bad 4 else .tok 2 (run (c::r)) 0)
 else if Tk.dg c=true then (match AM ((c::r).take (run (c::r))) with|none=>.bad 3|some n=>.tok 3 (run (c::r)) n)
 else if c.toNat=61 then (match r with|d::_=>if d.toNat=61 then .tok 4 2 0 else .tok 4 1 0|[]=>.tok 4 1 0)
 else if pO c=true then .tok 4 1 0 else .bad 2):=rfl
theorem I9 {w r:List UInt8}{ks:List Key}(hw:isWord w=true)(hl:w.all ld=true)(h0:∃c l,w=c::l∧lo c=true)(hb:bnd r)(h:SK r ks):SK (w++r) (kW w::ks):=by
 have hr:=vR hl hb;obtain ⟨c,l,rfl,hc⟩:=h0;rw [List.cons_append] at hr ⊢;refine uu (IF hc) ?_ h;rw [gT,if_pos hc,hr];have ht:(c::(l++r)).take (c::l).length=c::l:=by rw [List.length_cons,List.take_succ_cons,List.take_left]
 rw [ht,if_pos hw];rfl
theorem Ek {s:ByteArray}(hs:aF s=true){r:List UInt8}{ks:List Key}(hb:bnd r)(h:SK r ks):SK (bytesOf s++r) (kN s::ks):=by
 unfold aF cK at hs;simp only [Bool.and_eq_true,decide_eq_true_eq,Bool.not_eq_true'] at hs;obtain ⟨⟨h1,h2,h3,h4⟩,h5⟩:=hs;have hr:=vR h5 hb;have hlen:=aC s;have hsb:bs (bytesOf s)=s:=iA s;unfold cAt at h3;generalize bytesOf s=w at *;cases w with
 |nil=>simp at hlen;omega
 |cons c l =>
  have hc:lo c=true:=h3;rw [List.cons_append] at hr ⊢;have ht:(c::(l++r)).take (c::l).length=c::l:=by rw [List.length_cons,List.take_succ_cons,List.take_left]
  have:=uu (kind:=2) (n:=0) (IF hc) (w:=l) (r:=r) (by
   rw [gT,if_pos hc,hr,ht,h4,if_neg Bool.false_ne_true,if_neg (by omega)]
   rfl) h
  rw [hsb] at this;exact this
theorem sk_u {n:Int}(h0:0≤n)(h1:n < 1000000000000000000){r:List UInt8}{ks:List Key}(hb:bnd r)(h:SK r ks):SK (Lib.itoa n++r) (kU n::ks):=by
 have ha:=zV h0;have hn:=DJ h0 h1;have hne:=G1 h0;have hr:=vR (Kc ha) hb;unfold kU;generalize Lib.itoa n=w at *;cases w with
 |nil=>exact absurd rfl hne
 |cons c l =>
  rw [List.all_cons,Bool.and_eq_true] at ha;rw [List.cons_append] at hr ⊢;have ht:(c::(l++r)).take (c::l).length=c::l:=by rw [List.length_cons,List.take_succ_cons,List.take_left]
  refine uu (JC ha.1) ?_ h;rw [gT,Jx ha.1,if_neg Bool.false_ne_true,if_pos ha.1,hr,ht,hn];rfl
theorem sO {c:UInt8}(hc:lo c=false∧Tk.dg c=false∧c.toNat≠61∧pO c=true∧(c.toNat≠10∧c.toNat≠32∧c.toNat≠9∧c.toNat≠13∧c.toNat≠35)){r:List UInt8}{ks:List Key}(h:SK r ks):SK (c::r) (kS [c]::ks):=by
 obtain ⟨h1,h2,h3,h4,h5⟩:=hc;refine uu (w:=[]) h5 ?_ h;rw [gT,h1,if_neg Bool.false_ne_true,h2,if_neg Bool.false_ne_true,if_neg h3,if_pos h4];rfl
theorem H7 {r:List UInt8}{ks:List Key}(h:SK r ks):SK (61::32::r) (kS [61]::ks):=by
 refine uu (w:=[]) (by decide) ?_ (gA h)
 rw [gT,if_neg (by decide),if_neg (by decide),if_pos (by decide)]
 rfl
theorem GP {r:List UInt8}{ks:List Key}(h:SK r ks):SK (61::61::r) (kS [61,61]::ks):=by
 refine uu (w:=[61]) (by decide) ?_ h
 rw [gT,if_neg (by decide),if_neg (by decide),if_pos (by decide)]
 rfl
abbrev SKX (x:Ex):Prop:=∀(r:List UInt8) (ks:List Key),bnd r→SK r ks→SK (exT x++r) (exK x++ks)
theorem Dd {a:Ex}(h:SKX a)(m:Int){r:List UInt8}{ks:List Key}(hb:bnd r)(hr:SK r ks):SK (brk m (a.op,exT a)++r) (rp m (a.op,exK a)++ks):=by
 unfold brk rp
 split
 ·rw [List.cons_append,List.cons_append,List.append_assoc,List.append_assoc];exact sO (by decide) (h _ _ (by show ld 41=false;decide) (sO (by decide) hr))
 ·exact h _ _ hb hr
theorem H5 (a:Ex):exT (lJ a)=45::brk 4 (a.op,exT a):=rfl
theorem Iw {op:Int}(h1:4≤op)(a b:Ex):exT (aU op a b)=brk (lmO op) (a.op,exT a)++sgn op++brk (rk op+1) (b.op,exT b):=by
 show exB op ⟨#[]⟩ 0 [(a.op,exT a),(b.op,exT b)]=_;unfold exB;rw [if_neg (by omega),if_neg (by omega),if_neg (by omega)]
 rfl
theorem HN {op:Int}(h4:4≤op)(h8:op≤8){r:List UInt8}{ks:List Key}(hr:SK r ks):SK (sgn op++r) (kS (Jq op)::ks):=by
 have h:op=4∨op=5∨op=6∨op=7∨op=8:=by omega
 rcases h with rfl|rfl|rfl|rfl|rfl
 ·exact gA (sO (c:=43) (by decide) (gA hr))
 ·exact gA (sO (c:=45) (by decide) (gA hr))
 ·exact gA (sO (c:=42) (by decide) (gA hr))
 ·exact gA (sO (c:=60) (by decide) (gA hr))
 ·exact gA (GP (gA hr))
theorem GK (op:Int)(r:List UInt8):bnd (sgn op++r):=by
 unfold sgn
 repeat' split
 all_goals (show ld 32=false;decide)
theorem AZ {x:Ex}(hx:Xw x):SKX x:=by
 induction hx with
 |num h0 h1=>intro r ks hb hr;exact sk_u h0 h1 hb hr
 |name h0=>intro r ks hb hr;exact Ek h0 hb hr
 |neg _ ih =>
  intro r ks hb hr;rw [H5,yW,List.cons_append,List.cons_append];exact sO (by decide) (Dd ih 4 hb hr)
 |two h4 h8 _ _ iha ihb =>
  intro r ks hb hr;rw [Iw h4,sP h4,List.append_assoc,List.append_assoc,List.append_assoc,List.cons_append];exact Dd iha _ (GK _ _) (HN h4 h8 (Dd ihb _ hb hr))
theorem ws:(isWord yO&&isWord ym&&isWord pC&&isWord rR&&isWord po&&isWord oS&&isWord tX&&isWord qQ&&isWord jx&&isWord qC&&isWord o8&&isWord pE&&isWord yY&&isWord mX&&isWord j7&&isWord Hx&&isWord gW&&isWord yy&&isWord pi)=true:=by decide
theorem cw {w r:List UInt8}{ks:List Key}(hw:(isWord w&&w.all ld&&(match w with|[]=>false|c::_=>lo c))=true)(h:SK r ks):SK (w++32::r) (kW w::ks):=by
 rw [Bool.and_eq_true,Bool.and_eq_true] at hw;refine I9 hw.1.1 hw.1.2 ?_ (by show Tk.ld 32=false;decide) (gA h)
 cases w with
 |nil=>cases hw.2
 |cons c l=>exact ⟨c,l,rfl,hw.2⟩
theorem kQ {s:ByteArray}(hs:aF s=true){r:List UInt8}{ks:List Key}(h:SK r ks):SK (bytesOf s++32::r) (kN s::ks) :=
 Ek hs (by show Tk.ld 32=false;decide) (gA h)
def Ej:Nat→List Ex→List UInt8
 |_,[]=>[]
 |n,x::r=>(if n=0 then [] else [44,32])++(exT x++Ej (n+1) r)
theorem xp:∀(l:List Ex) (n:Nat),Ej (n+1) l=Lib.joinTail [44,32] (l.map exT)
 |[],_=>rfl
 |x::r,n=>by
  unfold Ej;rw [if_neg (by omega),xp r (n+1)]
  simp [Lib.joinTail]
theorem wU (l:List Ex):cb l=Ej 0 l:=by
 unfold cb;cases l with
 |nil=>rfl
 |cons x r =>
  rw [List.map_cons,Lib.join_cons];unfold Ej;rw [if_pos rfl,xp r 0,List.nil_append]
theorem Ht {n:Nat}(l:List Ex){r:List UInt8}(hb:bnd r):bnd (Ej (n+1) l++r):=by
 cases l with
 |nil=>exact hb
 |cons x r' =>
  unfold Ej;rw [if_neg (by omega)]
  show Tk.ld 44=false;decide
theorem D4:∀(l:List Ex) (n:Nat) {r:List UInt8} {ks:List Key},(∀x∈l,XwL x)→bnd r→SK r ks→SK (Ej n l++r) (kR n l++ks)
 |[],_,r,ks,_,_,hr=>hr
 |x::l,n,r,ks,hx,hb,hr=>by
  have h1:=D4 l (n+1) (fun y hy=>hx y (List.mem_cons_of_mem _ hy)) hb hr;have h2:=AZ (hx x List.mem_cons_self).1 _ _ (Ht (n:=n) l hb) h1;unfold Ej kR;rw [List.append_assoc,List.append_assoc,List.append_assoc,List.append_assoc]
  split
  ·exact h2
  ·exact sO (by decide) (gA h2)
theorem uj:∀(l:List UInt8) {r:List UInt8} {ks:List Key},(∀c∈l,c=115∨c=114)→bnd r→SK r ks→SK (l.flatMap kwd++([105,110,116]++r)) (l.map wdK++(kW yy::ks))
 |[],r,ks,_,hb,hr=>I9 (w:=[105,110,116]) (by decide) (by decide) ⟨_,_,rfl,by decide⟩ hb hr
 |c::l,r,ks,hc,hb,hr=>by
  have h1:=uj l (fun d hd=>hc d (List.mem_cons_of_mem _ hd)) hb hr;rw [List.flatMap_cons,List.map_cons,List.append_assoc,List.cons_append];rcases hc c List.mem_cons_self with rfl|rfl
  ·exact cw (w:=oS) (by decide) h1
  ·exact cw (w:=tX) (by decide) h1
theorem CR {s:ByteArray}(hs:bJ s 3=true){r:List UInt8}{ks:List Key}(hb:bnd r)(hr:SK r ks):SK (rj s++r) (tF s++ks):=by
 obtain ⟨l,h1,h2,h3,h4⟩:=zy hs;unfold rj tF;rw [←h2,List.append_assoc,List.append_assoc];exact uj l h4 hb hr
abbrev SKS (x:St):Prop:=∀(k:Nat) (r:List UInt8) (ks:List Key),SK r ks→SK (stT k x++r) (stK x++ks)
abbrev SKL (l:List St):Prop:=∀(k:Nat) (r:List UInt8) (ks:List Key),SK r ks→SK (pS k l++r) (El l++ks)
theorem D2 {l:List St}(h:SKL l)(k:Nat){r:List UInt8}{ks:List Key}(hr:SK r ks):SK (pw k l++r) (qL l++ks):=by
 unfold pw qL;simp only [List.append_assoc,List.cons_append,List.nil_append];exact gA (sO (by decide) (Dj (h (k+1) _ _ (Cq (sO (by decide) hr) k))))
theorem uK {body els:List St}(h1:SKL body)(h2:SKL els)(k:Nat){r:List UInt8}{ks:List Key}(hr:SK r ks) :
  SK (pw k body++((if els.length=0 then [] else [32,101,108,115,101]++pw k els)++([10]++r))) (qL body++((if els.length=0 then [] else kW gW::qL els)++ks)):=by
 refine D2 h1 k ?_
 split
 ·exact Dj hr
 ·have:=D2 h2 k (Dj hr);rw [List.append_assoc,List.cons_append];refine gA (I9 (w:=gW) (by decide) (by decide) ⟨_,_,rfl,by decide⟩ ?_ this)
  unfold pw;show Tk.ld 32=false;decide
theorem sH {r:List UInt8}{ks:List Key}(hr:SK r ks):SK (59::10::r) (kS [59]::ks):=sO (by decide) (Dj hr)
theorem vU (k:Nat)(l:List St)(r:List UInt8):bnd (pw k l++r):=by
 unfold pw;show Tk.ld 32=false;decide
mutual
theorem Jn:∀(x:St) {deep:Nat},Sw deep x→SKS x
 |.mk d at_ a b t n es body els,deep,h=>by
  intro k r ks hr;have hB:(∀y∈body,Sw (deep+1) y)→SKL body:=fun h=>ze body h;have hE:(∀y∈els,Sw (deep+1) y)→SKL els:=fun h=>ze els h;rw [Ab,List.append_assoc,List.append_assoc,List.append_assoc];refine Cq ?_ k;have hnil:cb []=[]:=rfl;have hone:∀x,cb [x]=exT x:=fun x=>by rw [wU];simp [Ej]
  cases h with
  |@let_ _ _ _ _ x hd hn hx =>
   have hfin:=AZ hx.1 _ _ (by show Tk.ld 59=false;decide) (sH hr)
   rcases hd with rfl|rfl
   ·have:=cw (w:=yO) (by decide) (kQ hn (H7 hfin))
    simpa [stK,bf,dU,kR,St.d,St.a,St.e,St.body,St.els,fmD,aL,hone,yO] using this
   ·have:=cw (w:=ym) (by decide) (kQ hn (H7 hfin))
    simpa [stK,bf,dU,kR,St.d,St.a,St.e,St.body,St.els,fmD,aL,hone,ym] using this
  |@emit _ _ x hx =>
   have hfin:=AZ hx.1 _ _ (by show Tk.ld 59=false;decide) (sH hr)
   have:=cw (w:=pC) (by decide) hfin
   simpa [stK,bf,dU,kR,St.d,St.a,St.e,St.body,St.els,fmD,aL,hone,pC] using this
  |@chan _ _ _ _ _ _ ha hb hty h0 h1 =>
   have:=cw (w:=rR) (by decide) (kQ ha (kQ hb (CR hty (by show Tk.ld 32=false;decide) (gA (sk_u h0 h1 (by show Tk.ld 59=false;decide) (sH hr))))))
   simpa [stK,bf,dU,kR,St.d,St.a,St.b,St.t,St.n,St.e,St.body,St.els,fmD,aL,hnil,rR] using this
  |@clone _ _ _ _ ha hb =>
   have:=cw (w:=po) (by decide) (kQ ha (Ek hb (by show Tk.ld 59=false;decide) (sH hr)))
   simpa [stK,bf,dU,kR,St.d,St.a,St.b,St.e,St.body,St.els,fmD,aL,hnil,po] using this
  |@send _ _ _ x ha hx =>
   have hfin:=AZ hx.1 _ _ (by show Tk.ld 59=false;decide) (sH hr)
   have:=cw (w:=oS) (by decide) (kQ ha hfin)
   simpa [stK,bf,dU,kR,St.d,St.a,St.e,St.body,St.els,fmD,aL,hone,oS] using this
  |@one _ _ _ _ hd ha =>
   have hfin:=Ek ha (by show Tk.ld 59=false;decide) (sH hr)
   rcases hd with rfl|rfl|rfl
   ·have:=cw (w:=qQ) (by decide) hfin
    simpa [stK,bf,dU,kR,St.d,St.a,St.e,St.body,St.els,fmD,aL,hnil,qQ] using this
   ·have:=cw (w:=jx) (by decide) hfin
    simpa [stK,bf,dU,kR,St.d,St.a,St.e,St.body,St.els,fmD,aL,hnil,jx] using this
   ·have:=cw (w:=qC) (by decide) hfin
    simpa [stK,bf,dU,kR,St.d,St.a,St.e,St.body,St.els,fmD,aL,hnil,qC] using this
  |@spawn _ _ _ _ ha hl hx =>
   have hfin:=D4 es 0 hx (by show Tk.ld 41=false;decide) (sO (c:=41) (by decide) (sH hr))
   have:=cw (w:=o8) (by decide) (Ek ha (by show Tk.ld 40=false;decide) (sO (c:=40) (by decide) hfin))
   simpa [stK,bf,dU,St.d,St.a,St.e,St.body,St.els,fmD,aL,wU,o8] using this
  |@take _ _ _ _ _ _ ha hb hd hbd hel =>
   have hfin:=uK (hB hbd) (hE hel) k hr;have:=cw (w:=pE) (by decide) (kQ ha (cw (w:=mX) (by decide) (Ek hb (vU k body _) hfin)))
   simpa [stK,bf,dU,kR,St.d,St.a,St.b,St.e,St.body,St.els,fmD,aL,hnil,pE,mX,qL] using this
  |@for_ _ _ _ _ _ ha hb hd hbd =>
   have hfin:=uK (hB hbd) (hE (fun y hy=>absurd hy List.not_mem_nil)) k hr;have:=cw (w:=yY) (by decide) (kQ ha (cw (w:=mX) (by decide) (Ek hb (vU k body _) hfin)))
   simpa [stK,bf,dU,kR,St.d,St.a,St.b,St.e,St.body,St.els,fmD,aL,hnil,yY,mX,qL] using this
  |@rep _ _ x _ hx hd hbd =>
   have hfin:=uK (hB hbd) (hE (fun y hy=>absurd hy List.not_mem_nil)) k hr;have:=cw (w:=j7) (by decide) (AZ hx.1 _ _ (vU k body _) hfin)
   simpa [stK,bf,dU,kR,St.d,St.a,St.b,St.e,St.body,St.els,fmD,aL,hone,j7,qL] using this
  |@if_ _ _ x _ _ hx hd hbd hel =>
   have hfin:=uK (hB hbd) (hE hel) k hr;have:=cw (w:=Hx) (by decide) (AZ hx.1 _ _ (vU k body _) hfin)
   simpa [stK,bf,dU,kR,St.d,St.a,St.b,St.e,St.body,St.els,fmD,aL,hone,Hx,qL] using this
theorem ze:∀(l:List St) {deep:Nat},(∀y∈l,Sw deep y)→SKL l
 |[],deep,_=>fun _ _ _ hr=>hr
 |x::l,deep,h=>by
  intro k r ks hr;unfold pS El;rw [List.append_assoc,List.append_assoc];exact Jn x (h x List.mem_cons_self) k _ _ (ze l (fun y hy=>h y (List.mem_cons_of_mem _ hy)) k _ _ hr)
end
def Ft:Nat→List (ByteArray×ByteArray)→List UInt8
 |_,[]=>[]
 |n,q::r=>(if n=0 then [] else [44,32])++(prT q++Ft (n+1) r)
theorem xB:∀(l:List (ByteArray×ByteArray)) (n:Nat),Ft (n+1) l=Lib.joinTail [44,32] (l.map prT)
 |[],_=>rfl
 |x::r,n=>by
  unfold Ft;rw [if_neg (by omega),xB r (n+1)]
  simp [Lib.joinTail]
theorem Fk (l:List (ByteArray×ByteArray)):rA l=Ft 0 l:=by
 unfold rA;cases l with
 |nil=>rfl
 |cons x r =>
  rw [List.map_cons,Lib.join_cons];unfold Ft;rw [if_pos rfl,xB r 0,List.nil_append]
theorem DQ:∀(l:List (ByteArray×ByteArray)) (n:Nat) {r:List UInt8} {ks:List Key},(∀q∈l,aF q.1=true∧bJ q.2 3=true)→bnd r→SK r ks→SK (Ft n l++r) (Eo n l++ks)
 |[],_,r,ks,_,_,hr=>hr
 |q::l,n,r,ks,hx,hb,hr=>by
  have h1:=DQ l (n+1) (fun y hy=>hx y (List.mem_cons_of_mem _ hy)) hb hr;obtain ⟨hn,ht⟩:=hx q List.mem_cons_self;have hbb:bnd (Ft (n+1) l++r):=by
   cases l with
   |nil=>exact hb
   |cons x r' =>
    unfold Ft;rw [if_neg (by omega)]
    show Tk.ld 44=false;decide
  have h2:=kQ hn (CR ht hbb h1);unfold Ft Eo prT;simp only [List.append_assoc,List.cons_append,List.nil_append]
  split
  ·exact h2
  ·exact sO (by decide) (gA h2)
theorem JJ {s:Sg}(ok:Ga s){r:List UInt8}{ks:List Key}(hr:SK r ks):SK (sgT s++r) (sgK s++ks):=by
 have h1:=D2 (ze s.body (wL s.body ok.body)) 0 (Dj hr);have h2:=DQ s.ps 0 ok.ps (by show Tk.ld 41=false;decide) (sO (c:=41) (by decide) h1)
 have h3:=cw (w:=pi) (by decide) (Ek ok.nm (by show Tk.ld 40=false;decide) (sO (c:=40) (by decide) h2))
 simpa [sgT,sgK,Fk,pi] using h3
theorem Ih:∀{p:List Sg},(∀s∈p,Ga s)→SK (pgT p) (pgK p)
 |[],_=>Gc
 |s::p,h=>by
  unfold pgT pgK;rw [List.flatMap_cons,List.flatMap_cons];exact JJ (h s List.mem_cons_self) (Ih (fun q hq=>h q (List.mem_cons_of_mem _ hq)))
theorem yJ (e:Int){p:List Sg}{n:Int}(hp:aV p=.ok n):∃ts p',ij 2 3 4 (pgT p) 0 (.ok ts)∧oU e ts=.ok p'∧rT false p'=rT false p:=by
 obtain ⟨ts,h1,h2⟩:=Ih (yB hp).ok 0;obtain ⟨p',h3,h4⟩:=Eb (e:=e) hp h2;exact ⟨ts,p',h1,h3,h4⟩
theorem G7 (x y:St)(hd:x.d=y.d)(ha:x.a=y.a)(hb:x.b=y.b)(ht:x.t=y.t)(hn:x.n=y.n):bf x=bf y:=by
 unfold bf;rw [hd,ha,hb,ht,hn]
theorem IV (pl:Bool):∀(l:List St),(np pl l).length=l.length
 |[]=>rfl
 |x::r=>by
  unfold np;rw [List.length_cons,List.length_cons,IV pl r]
mutual
theorem JO (k:Nat):∀(x:St),stT k (stZ false x)=stT k x
 |.mk d at_ a b t n es body els=>by
  have h1:=zI (k+1) body;have h2:=zI (k+1) els;have h3:=IV false els;unfold stZ stT;rw [h1,h2,h3,G7 (.mk d (if false=true then at_ else 0) a b t n es (np false body) (np false els)) (.mk d at_ a b t n es body els) rfl rfl rfl rfl rfl]
theorem zI (k:Nat):∀(l:List St),pS k (np false l)=pS k l
 |[]=>rfl
 |x::r=>by
  have h1:=JO k x;have h2:=zI k r;unfold np pS;rw [h1,h2]
end
theorem JA (s:Sg):sgT (sgZ false s)=sgT s:=by
 unfold sgT pw sgZ;simp only [zI]
theorem Ia (p:List Sg):pgT (rT false p)=pgT p:=by
 unfold pgT rT;rw [List.flatMap_map]
 congr 1
 funext s
 exact JA s
end Go.Proofs.YtkeeboomikkojaaGreatDoor
