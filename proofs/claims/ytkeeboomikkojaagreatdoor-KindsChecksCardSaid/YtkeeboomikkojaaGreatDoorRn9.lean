import Derived.Test.YtkeeboomikkojaaGreatDoorRn8
namespace Go.Proofs.YtkeeboomikkojaaGreatDoor
open Go Go.Sx Go.Sx.Tk Go.Sx.Rn Go.Proofs.YtkeeboomikkojaaGreatDoor.Sx
def sgK (s:Sg):List Key:=kW vq::kN s.nm::kS [40]::(JP 0 s.ps++kS [41]::xS s.body)
def pgK (p:List Sg):List Key:=p.flatMap sgK
def pgQ (p:List Sg):Nat:=(p.map fun s=>eS s.body).sum
mutual
theorem Mk:∀(x:St) {m deep n:Int},stF x m deep=.ok n→n=m+stQ x
 |.mk d at_ a b t nn e body els,m,deep,n,h=>by
  unfold stF at h
  split at h
  ·cases h
  obtain ⟨m1,h1,h2⟩:=mf h;have c1:=uv body h1;have c2:=uv els h2;unfold stQ;omega
theorem uv:∀(l:List St) {m deep n:Int},kg l m deep=.ok n→n=m+eS l
 |[],m,deep,n,h=>by
  unfold kg at h;cases h;unfold eS;omega
 |x::r,m,deep,n,h=>by
  rw [mu] at h;obtain ⟨m1,h1,h2⟩:=mf h;have c1:=Mk x h1;have c2:=uv r h2;unfold eS;omega
end
theorem Db:∀{p:List Sg} {i m n:Int},m≤300→vE p i m=.ok n→n=m+pgQ p∧n≤300
 |[],_,_,_,hm,h=>by
  unfold vE at h;cases h;exact ⟨by simp [pgQ],hm⟩
 |s::r,i,m,n,hm,h=>by
  unfold vE at h
  split at h
  ·cases h
  obtain ⟨m1,h1,h2⟩:=mf h;have hok:=kR s.body m 1 hm;rw [h1] at hok;have c1:=uv s.body h1;obtain ⟨c2,c3⟩:=Db hok.2 h2;refine ⟨?_,c3⟩;unfold pgQ at c2 ⊢;rw [List.map_cons,List.sum_cons];omega
theorem EV {p:List Sg}{n:Int}(h:bX p=.ok n):pgQ p≤300:=by
 unfold bX at h
 split at h
 ·cases h
 split at h
 ·cases h
 have:=Db (by decide) h
 omega
section
variable  {e:Int}
theorem Lp {s:Sg}(ok:MM s){n:Nat}{ts:List Tok}{ks:List Key}(h:ts.map dQ=sgK s++ks)(hn:n+eS s.body≤300) :
  ∃s' ts',iE e n ts=.ok (s',n+eS s.body,ts')∧sgZ false s'=sgZ false s∧ts'.map dQ=ks:=by
 have h:ts.map dQ=kW vq::kN s.nm::kS [40]::(JP 0 s.ps++kS [41]::(xS s.body++ks)):=by
  rw [h,sgK];simp
 obtain ⟨t,r,rfl,ht,hr⟩:=keys_cons h;obtain ⟨l1,h1,h2⟩:=eQ (e:=e) hr;obtain ⟨l2,h3,h4⟩:=fA (e:=e) h2;obtain ⟨l3,h5,h6⟩:=E0 (e:=e) s.ps (acc:=[]) (f:=l2.length+1) (fun q hq=>(ok.ps q hq).2) h4 (by have:=ok.pl;simpa using this) (Zc _)
 obtain ⟨b,l4,h7,h8,h9⟩:=BM (e:=e) (deep:=0) (Cq s.body (Ca s.body ok.body)) (by decide) (f:=3*l3.length+3) (n:=n) h6 hn (by omega)
 refine ⟨⟨s.nm,t.at_,s.ps,b⟩,l4,?_,?_,h9⟩
 ·unfold iE;show aH (eV e r) _=_;rw [h1,aC];show aH (bH e [40] l1) _=_;rw [h3,aC,h5,aC];show aH (bQ e (3*l3.length+3) 0 n l3) _=_;rw [h7];rfl
 ·exact yf.2 ⟨rfl,fun hh=>Bool.noConfusion hh,rfl,h8⟩
theorem zj:∀(p:List Sg) {acc:List Sg} {f n:Nat} {ts:List Tok},(∀s∈p,MM s)→ts.map dQ=pgK p→acc.length+p.length≤10→acc.length+p.length≠0→n+pgQ p≤300→ts.length+1≤f →
  ∃p',dw e f acc n ts=.ok (acc++p')∧ml false p'=ml false p
 |[],acc,f,n,ts,_,h,_,h0,_,hf=>by
  obtain ⟨f,rfl⟩:∃g,f=g+1:=⟨f - 1,by omega⟩
  have hl:=bf h;refine ⟨[],?_,rfl⟩;unfold dw;rw [if_pos ⟨by rw [hl];rfl,by simpa using h0⟩,Z1]
 |s::p,acc,f,n,ts,hok,h,h10,h0,hn,hf=>by
  obtain ⟨f,rfl⟩:∃g,f=g+1:=⟨f - 1,by omega⟩
  simp only [Qn] at h10;have h:ts.map dQ=sgK s++pgK p:=by rw [h];unfold pgK;rw [Ql]
  have hnn:pgQ (s::p)=eS s.body+pgQ p:=by unfold pgQ;rw [List.map_cons,List.sum_cons]
  rw [hnn] at hn;obtain ⟨s',l1,h1,h2,h3⟩:=Lp (e:=e) (hok s Qg) (n:=n) h (by omega)
  have hl:=bf h;have hl1:=bf h3;have hpos:1≤(sgK s).length:=by
   unfold sgK;simp
  rw [Qd] at hl;obtain ⟨p',h4,h5⟩:=zj p (acc:=acc++[s']) (f:=f) (n:=n+eS s.body) (ts:=l1) (fun q hq=>hok q (Q9 _ hq)) h3 (by rw [Qd];simp;omega) (by rw [Qd];simp) (by omega) (by omega)
  refine ⟨s'::p',?_,?_⟩
  ·unfold dw;rw [if_neg (fun hh=>by omega),ef h,show isK [115,116,97,103,101] (sgK s++pgK p)=true from by unfold sgK;rw [Qu,yD];decide,if_pos rfl,if_neg (by omega),h1,aC]
   show dw e f (acc++[s']) (n+eS s.body) l1=_;rw [h4,Qk];rfl
  ·unfold ml;rw [List.map_cons,List.map_cons,h2];exact congrArg _ h5
theorem Ll {p:List Sg}{n:Int}(hp:bX p=.ok n){ts:List Tok}(h:ts.map dQ=pgK p):∃p',tc e ts=.ok p'∧ml false p'=ml false p:=by
 have ok:=Ew hp;have hc:=EV hp;obtain ⟨p',h1,h2⟩:=zj (e:=e) p (acc:=[]) (f:=ts.length+2) (n:=0) ok.ok h (by simpa using ok.len) (by simpa using ok.ne) (by omega) (by omega)
 exact ⟨p',h1,h2⟩
end
def SK (l:List UInt8)(ks:List Key):Prop:=∀at_:Int,∃ts,lj 2 3 4 l at_ (.ok ts)∧ts.map dQ=ks
def bnd:List UInt8→Prop
 |[]=>True
 |c::_=>ld c=false
theorem M6:SK [] []:=fun _=>⟨[],.stop rfl,rfl⟩
theorem Ip {c:UInt8}(hc:c.toNat=10∨c.toNat=32∨c.toNat=9){r:List UInt8}{ks:List Key}(h:SK r ks):SK (c::r) ks:=by
 intro at_;obtain ⟨ts,h1,h2⟩:=h (at_+(1:Nat));refine ⟨ts,lj.skip (l':=r) (k:=1) ?_ (fun j=>by rw [Nat.add_comm,List.drop_succ_cons]) h1,h2⟩
 conv=>lhs;unfold bG
 rcases hc with hc|hc|hc
 ·rw [if_pos hc,Nat.add_comm]
 ·rw [if_neg (by omega),if_pos (.inr (.inl hc)),Nat.add_comm]
 ·rw [if_neg (by omega),if_pos (.inr (.inr (.inl hc))),Nat.add_comm]
theorem BY {r:List UInt8}{ks:List Key}(h:SK r ks):SK (32::r) ks:=Ip (.inr (.inl rfl)) h
theorem Bf:∀{w r:List UInt8},w.all ld=true→bnd r→run (w++r)=w.length
 |[],r,_,hb=>by
  cases r with
  |nil=>rfl
  |cons c r =>
   rw [Z4,qB,if_neg (by rw [show ld c=false from hb];exact Qe)]
   rfl
 |c::w,r,h,hb=>by
  rw [List.all_cons,Qq] at h;rw [Qu,qB,if_pos h.1,Bf h.2 hb,Qn]
theorem Ix {c:UInt8}{r:List UInt8}(h:c.toNat≠10∧c.toNat≠32∧c.toNat≠9∧c.toNat≠13∧c.toNat≠35):bG false (c::r)=0:=by
 obtain ⟨h1,h2,h3,h4,h5⟩:=h;unfold bG;rw [if_neg h1,if_neg (by simp [h2,h3,h4]),if_neg h5]
theorem F9 {c:UInt8}{w r:List UInt8}{kind n:Int}{ks:List Key}(hb:c.toNat≠10∧c.toNat≠32∧c.toNat≠9∧c.toNat≠13∧c.toNat≠35)(h1:vD 2 3 4 (c::(w++r))=.tok kind (w.length+1) n)(h:SK r ks) :
  SK (c::(w++r)) ((kind,bs (c::w),n)::ks):=by
 intro at_;have hz:=Ix (r:=w++r) hb;obtain ⟨ts,h2,h3⟩:=h (at_+(0:Nat)+((w.length+1:Nat):Int));have hd:(c::(w++r)).drop (w.length+1)=r:=by rw [List.drop_succ_cons,List.drop_left]
 have ht:(c::(w++r)).take (w.length+1)=c::w:=by rw [List.take_succ_cons,List.take_left]
 refine ⟨_,lj.tok (c:=c) (r:=w++r) (by rw [hz];rfl) h1 (ts:=ts) ?_,?_⟩
 ·rw [hd,hz];exact h2
 ·rw [List.map_cons,ht,h3];rfl
theorem N2 {c:UInt8}(h:lo c=true):c.toNat≠10∧c.toNat≠32∧c.toNat≠9∧c.toNat≠13∧c.toNat≠35:=by
 unfold lo at h;rw [Qq] at h;have h1:=Qj h.1;omega
theorem rZ (c:UInt8)(r:List UInt8):vD 2 3 4 (c::r)=(if lo c=true then (if isWord ((c::r).take (run (c::r)))=true then .tok 1 (run (c::r)) 0 else if 12 < run (c::r) then .bad 4 else .tok 2 (run (c::r)) 0)
 else if Tk.dg c=true then (match HL ((c::r).take (run (c::r))) with|none=>.bad 3|some n=>.tok 3 (run (c::r)) n)
 else if c.toNat=61 then (match r with|d::_=>if d.toNat=61 then .tok 4 2 0 else .tok 4 1 0|[]=>.tok 4 1 0)
 else if sR c=true then .tok 4 1 0 else .bad 2):=rfl
theorem sk_w {w r:List UInt8}{ks:List Key}(hw:isWord w=true)(hl:w.all ld=true)(h0:∃c l,w=c::l∧lo c=true)(hb:bnd r)(h:SK r ks):SK (w++r) (kW w::ks):=by
 have hr:=Bf hl hb;obtain ⟨c,l,rfl,hc⟩:=h0;rw [Qu] at hr ⊢;refine F9 (N2 hc) ?_ h;rw [rZ,if_pos hc,hr];have ht:(c::(l++r)).take (c::l).length=c::l:=by rw [Qn,List.take_succ_cons,List.take_left]
 rw [ht,if_pos hw];rfl
theorem Pt {s:ByteArray}(hs:aU s=true){r:List UInt8}{ks:List Key}(hb:bnd r)(h:SK r ks):SK (bytesOf s++r) (kN s::ks):=by
 unfold aU ei at hs;simp only [Qq,decide_eq_true_eq,Bool.not_eq_true'] at hs;obtain ⟨⟨h1,h2,h3,h4⟩,h5⟩:=hs;have hr:=Bf h5 hb;have hlen:=aN s;have hsb:bs (bytesOf s)=s:=jn s;unfold cAt at h3;generalize bytesOf s=w at *;cases w with
 |nil=>simp at hlen;omega
 |cons c l =>
  have hc:lo c=true:=h3;rw [Qu] at hr ⊢;have ht:(c::(l++r)).take (c::l).length=c::l:=by rw [Qn,List.take_succ_cons,List.take_left]
  have:=F9 (kind:=2) (n:=0) (N2 hc) (w:=l) (r:=r) (by
   rw [rZ,if_pos hc,hr,ht,h4,if_neg Qe,if_neg (by omega)]
   rfl) h
  rw [hsb] at this;exact this
theorem LW {c:UInt8}(hc:lo c=false∧Tk.dg c=false∧c.toNat≠61∧sR c=true∧(c.toNat≠10∧c.toNat≠32∧c.toNat≠9∧c.toNat≠13∧c.toNat≠35)){r:List UInt8}{ks:List Key}(h:SK r ks):SK (c::r) (kS [c]::ks):=by
 obtain ⟨h1,h2,h3,h4,h5⟩:=hc;refine F9 (w:=[]) h5 ?_ h;rw [rZ,h1,if_neg Qe,h2,if_neg Qe,if_neg h3,if_pos h4];rfl
theorem ws:(isWord HD&&isWord F5&&isWord vx&&isWord As&&isWord vj&&isWord uN&&isWord Aa&&isWord xE&&isWord ss&&isWord yc&&isWord vf&&isWord vi&&isWord F4&&isWord uL&&isWord sU&&isWord Ny&&isWord lQ&&isWord DS&&isWord vq)=true:=by decide
theorem zK {w r:List UInt8}{ks:List Key}(hw:(isWord w&&w.all ld&&(match w with|[]=>false|c::_=>lo c))=true)(h:SK r ks):SK (w++32::r) (kW w::ks):=by
 rw [Qq,Qq] at hw;refine sk_w hw.1.1 hw.1.2 ?_ (by show Tk.ld 32=false;decide) (BY h)
 cases w with
 |nil=>cases hw.2
 |cons c l=>exact ⟨c,l,rfl,hw.2⟩
theorem Fv {s:ByteArray}(hs:aU s=true){r:List UInt8}{ks:List Key}(h:SK r ks):SK (bytesOf s++32::r) (kN s::ks) :=
 Pt hs (by show Tk.ld 32=false;decide) (BY h)
theorem Lv (x y:St)(hd:x.d=y.d)(ha:x.a=y.a)(hb:x.b=y.b)(ht:x.t=y.t)(hn:x.n=y.n):cS x=cS y:=by
 unfold cS;rw [hd,ha,hb,ht,hn]
theorem OM (pl:Bool):∀(l:List St),(er pl l).length=l.length
 |[]=>rfl
 |x::r=>by
  unfold er;rw [Qn,Qn,OM pl r]
mutual
theorem O9 (k:Nat):∀(x:St),stT k (stZ false x)=stT k x
 |.mk d at_ a b t n es body els=>by
  have h1:=Co (k+1) body;have h2:=Co (k+1) els;have h3:=OM false els;unfold stZ stT;rw [h1,h2,h3,Lv (.mk d (if false=true then at_ else 0) a b t n es (er false body) (er false els)) (.mk d at_ a b t n es body els) rfl rfl rfl rfl rfl]
theorem Co (k:Nat):∀(l:List St),tC k (er false l)=tC k l
 |[]=>rfl
 |x::r=>by
  have h1:=O9 k x;have h2:=Co k r;unfold er tC;rw [h1,h2]
end
theorem Pf (s:Sg):sgT (sgZ false s)=sgT s:=by
 unfold sgT uo sgZ;simp only [Co]
theorem OE (p:List Sg):pgT (ml false p)=pgT p:=by
 unfold pgT ml;rw [List.flatMap_map]
 congr 1
 funext s
 exact Pf s
end Go.Proofs.YtkeeboomikkojaaGreatDoor
