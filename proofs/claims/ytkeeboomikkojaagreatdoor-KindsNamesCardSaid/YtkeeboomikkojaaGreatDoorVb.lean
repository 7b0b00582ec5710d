import Derived.Test.YtkeeboomikkojaaGreatDoorVa
import Derived.Test.YtkeeboomikkojaaGreatDoorRn5
import Derived.Test.YtkeeboomikkojaaGreatDoorRn6
import Derived.Test.YtkeeboomikkojaaGreatDoorRx4
set_option maxRecDepth 100000
namespace Go.Proofs.YtkeeboomikkojaaGreatDoor
open Go Go.Sx Go.Sx.Tk Go.Sx.Rn Go.Proofs.YtkeeboomikkojaaGreatDoor.Sx
theorem sO {f:Int×Int}(h:f.1≠0)(c a:Int):kfl f c a=f:=by unfold kfl;rw [if_neg h]
theorem Bv {f:Int×Int}(h:f.1≠0)(env:List Vr)(nm bg:ByteArray)(at_:Int):(jA env nm bg at_ f).2=f:=by
 cases hl:fR env nm with
 |none=>rw [kH hl,sO h]
 |some t =>
  rw [iU hl,sO h]
  split<;>rfl
theorem CB {f:Int×Int}(h:f.1≠0)(ab:List Sg)(env:List Vr)(at_:Int)(x:St):(gE ab env at_ x f).2=f:=by
 have:(sZ env at_ x f).2=f:=by
  unfold sZ;cases iH x with
  |none=>rfl
  |some q=>exact Bv h env q.1 q.2 at_
 unfold gE;rw [this,if_pos h]
def TyG (t:ByteArray):Prop:=(bytesOf t).getLast?=some 105
def TyE (env:List Vr):Prop:=∀v∈env,TyG v.2
theorem TyG.pos {t:ByteArray}(h:TyG t):1≤t.size:=by
 rw [←aH];unfold TyG at h;cases hb:bytesOf t with
 |nil=>rw [hb] at h;cases h
 |cons a r=>simp
theorem TyE.l {env:List Vr}(h:TyE env):TyL env:=fun v hv=>(h v hv).pos
theorem FQ {c:UInt8}{t:ByteArray}(h:TyG t):TyG (⟨#[c]⟩++t):=by
 unfold TyG at h ⊢;rw [show bytesOf (⟨#[c]⟩++t)=c::bytesOf t from by
  unfold bytesOf;simp [ByteArray.data_append]]
 cases hb:bytesOf t with
 |nil=>rw [hb] at h;cases h
 |cons a r =>
  rw [hb] at h;rw [List.getLast?_cons_cons];exact h
theorem OD:TyG iB:=by unfold TyG;rfl
theorem LA {t:ByteArray}(h:TyG t){c:UInt8}(hc:c≠105)(hx:t.extract 0 1=⟨#[c]⟩):TyG (t.extract 1 t.size):=by
 have h1:=congrArg bytesOf hx;rw [il] at h1;unfold TyG at h ⊢;rw [il,←aH];cases hb:bytesOf t with
 |nil=>rw [hb] at h;cases h
 |cons a r =>
  rw [hb] at h h1;have ha:a=c:=by
   have:[a]=[c]:=h1;exact List.cons.inj this |>.1
  subst ha;have e:((a::r).drop 1).take ((a::r).length - 1)=r:=by simp
  rw [e];cases r with
  |nil =>
   have:a=105:=Z2 h;exact absurd this hc
  |cons b q =>
   rw [List.getLast?_cons_cons] at h;exact h
theorem Cd {t:ByteArray}(h:ck t 3=true):TyG t:=by
 unfold ck at h;obtain ⟨h1,_,h2,_⟩:=Qj h;unfold TyG;rw [List.getLast?_eq_getElem?,aH];have hl:t.size - 1 < (bytesOf t).length:=by rw [aH];omega
 rw [Q7 hl]
 congr 1
 have:cAt t (t.size - 1)=(bytesOf t)[t.size - 1]:=by
  unfold cAt;rw [List.getD_eq_getElem?_getD,Q7 hl];rfl
 rw [←this,h2]
theorem KI {env:List Vr}(ht:TyE env){nm bg:ByteArray}{at_:Int}{f:Int×Int}(hf:(jA env nm bg at_ (0,0)).2.1=0):TyG (jA env nm bg at_ (0,0)).1∧(jA env nm bg at_ (0,0)).1.extract 0 bg.size=bg:=by
 have hk:∀c:Int,c≠0→(kfl (0,0) c at_).1≠0:=fun c hc=>by unfold kfl;rw [if_pos rfl];exact hc
 cases hl:fR env nm with
 |none =>
  rw [kH hl] at hf;exact absurd hf (hk 10 (by decide))
 |some t =>
  rw [iU hl] at hf ⊢
  split at hf
  ·rename_i hh;rw [if_pos hh];obtain ⟨w,hw,_,rfl⟩:=rN hl;exact ⟨ht w hw,hh⟩
  ·exact absurd hf (hk 11 (by decide))
def kof (ab:List Sg)(env:List Vr)(m:Int)(x:St):ByteArray:=(gE ab env m x (0,0)).1
def kuf (ab:List Sg)(env:List Vr)(m:Int)(x:St):Int×Int:=(gE ab env m x (0,0)).2
theorem P2 {ab:List Sg}{env:List Vr}(ht:TyE env){m:Int}{x:St}(hf:(kuf ab env m x).1=0)(hd:x.d=5∨x.d=11∨x.d=12):TyG (kof ab env m x):=by
 unfold kuf gE at hf;unfold kof gE
 by_cases h0:(sZ env m x (0,0)).2.1=0
 ·rw [if_neg (Z9 h0)];show TyG (sZ env m x (0,0)).1;unfold sZ at h0 ⊢;rcases hd with hd|hd
  ·have hN:iH x=some (x.b,sB):=by unfold iH;rw [if_pos hd]
   rw [hN] at h0 ⊢;show TyG (if _ then _ else _)
   rw [if_pos (.inr hd)];exact (KI ht (f:=(0,0)) h0).1
  ·have hN:iH x=some (x.b,rB):=by unfold iH;rw [if_neg (by omega),if_neg (by omega),if_neg (by omega),if_pos hd]
   rw [hN] at h0 ⊢;have hg:=KI ht (f:=(0,0)) h0;show TyG (if _ then _ else _)
   rw [if_neg]
   ·exact LA hg.1 (c:=114) (by decide) hg.2
   ·rintro (h|h)
    ·have:=hg.1.pos;rw [h] at this;exact absurd this (by decide)
    ·omega
 ·rw [if_pos h0] at hf;exact absurd hf h0
theorem B3 {ab:List Sg}{env:List Vr}(ht:TyE env){m:Int}{x:St}(hf:(kuf ab env m x).1=0)(h4:x.d=4→ck x.t 3=true):TyE (bc x (kof ab env m x)):=by
 intro v hv;unfold bc at hv
 split at hv
 ·rw [Qf.1 hv];exact OD
 split at hv
 ·rename_i hd;have hg:=Cd (h4 hd);rcases List.mem_cons.1 hv with rfl|hv
  ·exact FQ hg
  ·rw [Qf.1 hv];exact FQ hg
 split at hv
 ·rename_i hd;rw [Qf.1 hv];exact P2 ht hf hd
 ·cases hv
abbrev KR:=Except (Int×Int) (List Vr×Int)
def vc (r:KR)(f:List Vr→Int→KR):KR:=match r with
 |.error e=>.error e
 |.ok (b,m)=>f b m
def ktw (bd:List Vr)(x:St)(v:Vr):Bool:=decide (0 < rp bd v.1)||(decide (x.d=4)&&decide (x.a=x.b))
def gL (bd:List Vr)(x:St):Bool:=(bc x e0).any (ktw bd x)
def tt (ab:List Sg)(env:List Vr)(m:Int)(x:St):List Vr:=if x.d=11∨x.d=12 then [] else (bc x (kof ab env m x)).reverse
mutual
def kst (ab:List Sg):St→List Vr→List Vr→Int→KR
 |.mk d at_ a b t n e body els,env,bd,m =>
  if gL bd (.mk d at_ a b t n e body els)=true then .error (9,m)
  else if (kuf ab env m (.mk d at_ a b t n e body els)).1≠0 then .error (kuf ab env m (.mk d at_ a b t n e body els))
  else vc (gX ab body ((bc (.mk d at_ a b t n e body els) (kof ab env m (.mk d at_ a b t n e body els))).reverse++env) (bd++bc (.mk d at_ a b t n e body els) (kof ab env m (.mk d at_ a b t n e body els))) (m+1)) fun b1 m1 =>
   gX ab els (tt ab env m (.mk d at_ a b t n e body els)++env) b1 m1
def gX (ab:List Sg):List St→List Vr→List Vr→Int→KR
 |[],_,bd,m=>.ok (bd,m)
 |x::r,env,bd,m=>vc (kst ab x env bd m) fun b1 m1=>gX ab r (tt ab env m x++env) b1 m1
end
theorem qQ (ab:List Sg)(x:St)(env bd:List Vr)(m:Int):kst ab x env bd m=if gL bd x=true then .error (9,m) else if (kuf ab env m x).1≠0 then .error (kuf ab env m x)
  else vc (gX ab x.body ((bc x (kof ab env m x)).reverse++env) (bd++bc x (kof ab env m x)) (m+1)) fun b1 m1=>gX ab x.els (tt ab env m x++env) b1 m1:=by
 cases x
 conv=>lhs;unfold kst
 rfl
theorem ss (x:St)(of:ByteArray):(bc x of).length≤2:=by
 unfold bc
 split
 ·simp
 split
 ·simp
 split<;>simp
theorem dv {r:KR}{f:List Vr→Int→KR}{q:List Vr×Int}(h:vc r f=.ok q):∃b m,r=.ok (b,m)∧f b m=.ok q:=by
 cases r with
 |error e=>cases h
 |ok p=>exact ⟨p.1,p.2,rfl,h⟩
mutual
theorem HH (ab:List Sg):∀(x:St) {env bd:List Vr} {m:Int} {q:List Vr×Int},kst ab x env bd m=.ok q→q.1.length≤bd.length+2*stN x∧m≤q.2∧q.2≤m+stN x
 |.mk d at_ a b t n e body els,env,bd,m,q,h=>by
  unfold kst at h
  split at h
  ·cases h
  split at h
  ·cases h
  obtain ⟨b1,m1,h1,h2⟩:=dv h;have g0:=rb ab body h1;obtain ⟨g1,g2,g3⟩:=g0;have g2:m+1≤m1:=g2;have g3:m1≤m+1+cc body:=g3;have g1:b1.length≤_:=g1;obtain ⟨g4,g5,g6⟩:=rb ab els h2;have hl:=ss (.mk d at_ a b t n e body els) (kof ab env m (.mk d at_ a b t n e body els));rw [Qd] at g1;unfold stN;omega
theorem rb (ab:List Sg):∀(l:List St) {env bd:List Vr} {m:Int} {q:List Vr×Int},gX ab l env bd m=.ok q→q.1.length≤bd.length+2*cc l∧m≤q.2∧q.2≤m+cc l
 |[],_,_,_,_,h=>by
  unfold gX at h;cases h;unfold cc;exact ⟨Zd _,Int.le_refl _,by show _≤_;omega⟩
 |x::r,env,bd,m,q,h=>by
  unfold gX at h;obtain ⟨b1,m1,h1,h2⟩:=dv h;obtain ⟨g1,g2,g3⟩:=HH ab x h1;have g1:b1.length≤_:=g1;have g2:m≤m1:=g2;have g3:m1≤m+stN x:=g3;obtain ⟨g4,g5,g6⟩:=rb ab r h2;unfold cc;omega
end
theorem uz (x:St)(of:ByteArray):(bc x of).map (·.1)=(bc x e0).map (·.1):=by
 unfold bc
 split
 ·rfl
 split
 ·rfl
 split<;>rfl
theorem JA (a b:List Vr)(s:ByteArray):rp (a++b) s=rp a s+rp b s:=by
 unfold rp;rw [List.filter_append,Qd,Int.natCast_add]
theorem Kp {l:List Vr}{s:ByteArray}(h:∀v∈l,v.1≠s):rp l s=0:=by
 unfold rp;rw [List.filter_eq_nil_iff.2 fun v hv=>by simpa using h v hv]
 rfl
theorem knew {bd:List Vr}{x:St}(ht:gL bd x=false)(of:ByteArray){k:Nat}{v:Vr}(hk:(bc x of)[k]?=some v):rp (bd++(bc x of).take k) v.1=0:=by
 have hnm:((bc x e0).map (·.1))[k]?=some v.1:=by
  rw [←uz x of,List.getElem?_map,hk];rfl
 obtain ⟨w,hw,hwv⟩:∃w,(bc x e0)[k]?=some w∧w.1=v.1:=by
  rw [List.getElem?_map,Option.map_eq_some_iff] at hnm;exact hnm
 unfold gL at ht;rw [List.any_eq_false] at ht;have h1:=ht w (List.mem_of_getElem? hw);unfold ktw at h1;rw [Bool.or_eq_true,not_or] at h1;obtain ⟨h2,h3⟩:=h1;have h2:¬0 < rp bd w.1:=by simpa using h2
 have h5:=yt bd w.1;rw [JA,←hwv,show rp bd w.1=0 by omega,Int.zero_add]
 refine Kp fun u hu=>?_;rw [hwv];unfold bc at hk hu
 split at hk
 ·rename_i hd;cases k with
  |zero=>cases hu
  |succ k=>simp at hk
 split at hk
 ·rename_i hd;rw [if_neg (by omega),if_pos hd] at hu
  have hab:x.a≠x.b:=by simpa [hd] using h3
  match k,hk,hu with
  |0,_,hu=>cases hu
  |1,hk,hu =>
   have hu:u∈[(x.a,sB++x.t)]:=hu;cases hk;rw [Qf.1 hu];exact hab
  |k+2,hk,_=>simp at hk
 split at hk
 ·rename_i hd;rw [if_neg (by omega),if_neg (by omega),if_pos hd] at hu
  cases k with
  |zero=>cases hu
  |succ k=>simp at hk
 ·simp at hk
def Zf (f:Int×Int):Prop:=f.1=0→f=(0,0)
theorem Zf0:Zf (0,0):=fun _=>rfl
theorem vo {f:Int×Int}(hf:Zf f){c:Int}(hc:c≠0)(a:Int):Zf (kfl f c a):=by
 unfold kfl
 split
 ·exact fun h=>absurd h hc
 ·exact hf
theorem Aq {f:Int×Int}(hf:Zf f)(env:List Vr)(nm bg:ByteArray)(at_:Int):Zf (jA env nm bg at_ f).2:=by
 cases hl:fR env nm with
 |none =>
  rw [kH hl];exact vo hf (by decide) _
 |some t =>
  rw [iU hl]
  split
  ·exact hf
  ·exact vo hf (by decide) _
theorem GY {f:Int×Int}(hf:Zf f)(env:List Vr)(at_:Int)(x:Ex):Zf (nt env at_ x f):=by
 unfold nt
 split
 ·exact Aq hf _ _ _ _
 ·exact hf
mutual
theorem zi (env:List Vr)(at_:Int):∀(x:Ex) {f:Int×Int},Zf f→Zf (u6 env at_ x f)
 |.mk op nm n l,f,hf=>by
  unfold u6;exact EX env at_ l (GY hf env at_ _)
theorem EX (env:List Vr)(at_:Int):∀(l:List Ex) {f:Int×Int},Zf f→Zf (jo env at_ l f)
 |[],f,hf=>by
  unfold jo;exact hf
 |x::r,f,hf=>by
  unfold jo;exact EX env at_ r (zi env at_ x hf)
end
theorem xC {f:Int×Int}(hf:Zf f)(env:List Vr)(at_:Int)(x:Ex)(t:ByteArray):Zf (fg env at_ x t f):=by
 unfold fg
 split
 ·exact zi _ _ _ hf
 split
 ·exact vo hf (by decide) _
 split
 ·exact vo (Aq hf _ _ _ _) (by decide) _
 ·exact Aq hf _ _ _ _
theorem Hv (env:List Vr)(at_:Int):∀(l:List (Ex×(ByteArray×ByteArray))) {f:Int×Int},Zf f→Zf (jm env at_ l f)
 |[],_,hf=>hf
 |q::r,_,hf=>Hv env at_ r (xC hf _ _ _ _)
theorem Hf {f:Int×Int}(hf:Zf f)(ab:List Sg)(env:List Vr)(at_:Int)(x:St):Zf (gE ab env at_ x f).2:=by
 have hk:Zf (sZ env at_ x f).2:=by
  unfold sZ;cases iH x with
  |none=>exact hf
  |some q=>exact Aq hf _ _ _ _
 unfold gE
 split
 ·exact hk
 show Zf (qB ab env at_ x _ _);unfold qB
 split
 ·cases x.e[0]? with
  |none=>exact hk
  |some y=>exact zi _ _ _ (Aq hk _ _ _ _)
 split
 ·cases x.e[0]? with
  |none=>exact hk
  |some y=>exact zi _ _ _ hk
 split
 ·cases x.e[0]? with
  |none=>exact hk
  |some y=>exact xC hk _ _ _ _
 split
 ·unfold kV;cases ab.find? fun g=>decide (g.nm=x.a) with
  |none=>exact vo hk (by decide) _
  |some g =>
   show Zf (if _ then _ else _)
   split
   ·exact vo hk (by decide) _
   ·exact Hv _ _ _ hk
 split
 ·split
  ·refine vo ?_ (by decide) _
   split
   ·exact vo hk (by decide) _
   ·exact hk
  ·split
   ·exact vo hk (by decide) _
   ·exact hk
 ·exact hk
def KPo (h0:Hp)(C:Nat)(va:Value)(M S SM:Nat)(r:List Fr)(vv:Value)(h h':Hp)(fr':List Vr→Prop)(res:KR):Prop:=KB2 C M SM vv h h'∧match res with
 |.ok q=>∃vv' fr,fr' fr∧BS h0 C h' va M vv' q.2 (0,0) q.1∧ScS h' M (pp S) ((S,SM,fr)::r)∧∀k,vv'.ownBlock=some k→vv.ownBlock=some k∨h.size≤k
 |.error e=>e.1≠0∧∃vv' m',CS h0 C h' va M vv' m' e∧b8 vv'
def SL (ω:Amb)(h0:Hp)(C:Nat)(va:Value)(M:Nat)(ab:List Sg)(N:Nat):Prop:=∀(x:St) (deep:Int),stN x < N→stG deep x→∀(h:Hp) (S SM:Nat) (fr:List Vr) (r:List Fr) (bd:List Vr) (m:Int) (vv ve vb vl:Value),
 TyE (cy ((S,SM,fr)::r))→bd.length+2*stN x≤1000000→0≤m→m+stN x≤1000000→ExS h0 ve x.e→StS h0 vb x.body→StS h0 vl x.els→BS h0 C h va M vv m (0,0) bd→ScS h M (pp S) ((S,SM,fr)::r)→∀X,
  aa Tryz.prog ω 96 [pp C,pp S,.agg (stC x ve vb vl).toArray] h (fun _ h'=>KPo h0 C va M S SM r vv h h' (fun f=>f=tt ab (cy ((S,SM,fr)::r)) m x++fr) (kst ab x (cy ((S,SM,fr)::r)) bd m)) X
def LL (ω:Amb)(h0:Hp)(C:Nat)(va:Value)(M:Nat)(ab:List Sg)(N:Nat):Prop:=∀(l:List St) (deep:Int),cc l < N→vL deep l→∀(h:Hp) (S SM:Nat) (fr:List Vr) (r:List Fr) (bd:List Vr) (m:Int) (vv w:Value),
 TyE (cy ((S,SM,fr)::r))→bd.length+2*cc l≤1000000→0≤m→m+cc l≤1000000→StS h0 w l→BS h0 C h va M vv m (0,0) bd→ScS h M (pp S) ((S,SM,fr)::r)→∀X,
  aa Tryz.prog ω 72 [pp C,pp S,w] h (fun _ h'=>KPo h0 C va M S SM r vv h h' (fun _=>True) (gX ab l (cy ((S,SM,fr)::r)) bd m)) X
theorem OJ {deep:Int}{x:St}(h:stG deep x):x.d=4→ck x.t 3=true:=fun hd=>by
 obtain ⟨f,hf⟩:=uv (nT.1 h).1;refine hf.ty ?_;have:=hf.form;rw [hd] at this;cases this;rfl
theorem DL {l:List St}{k:Nat}{x:St}(hx:l[k]?=some x):cc (l.drop k)=stN x+cc (l.drop (k+1))∧l.drop k=x::l.drop (k+1):=by
 have:l.drop k=x::l.drop (k+1):=by
  obtain ⟨h1,h2⟩:=Q6.1 hx;rw [Q4 h1,h2]
 rw [this];exact ⟨by conv=>lhs;unfold cc,rfl⟩
theorem dK (ab:List Sg)(x:St)(l:List St)(env bd:List Vr)(m:Int):gX ab (x::l) env bd m=vc (kst ab x env bd m) fun b1 m1=>gX ab l (tt ab env m x++env) b1 m1:=by
 conv=>lhs;unfold gX
theorem Cz {ab:List Sg}{x:St}{env bd:List Vr}{m:Int}{q:List Vr×Int}(h:kst ab x env bd m=.ok q):gL bd x=false∧(kuf ab env m x).1=0:=by
 rw [qQ] at h
 split at h
 ·cases h
 split at h
 ·cases h
 ·rename_i h1 h2;exact ⟨by simpa using h1,by simpa using h2⟩
theorem OL {ab:List Sg}{env:List Vr}(ht:TyE env){m:Int}{x:St}{deep:Int}(hx:stG deep x)(hf:(kuf ab env m x).1=0):TyE (tt ab env m x++env):=by
 intro v hv;rcases Z3.1 hv with hv|hv
 ·unfold tt at hv
  split at hv
  ·cases hv
  ·exact B3 ht hf (OJ hx) v (List.mem_reverse.1 hv)
 ·exact ht v hv
section
variable  {ω:Amb}{h0:Hp}{C M:Nat}{va:Value}{ab:List Sg}
theorem Hn {vv w:Value}{m:Int}{f:Int×Int}{l:List St}{h:Hp}(hf:f.1≠0)(cs:CS h0 C h va M vv m f)(hw:StS h0 w l)(s:Value)(X:XT) :
  aa Tryz.prog ω 72 [pp C,s,w] h (fun _ h'=>h=h') X:=by
 refine eD ω _ _ _ h _ X ?_;unfold cQ;simp only [nnK_ptr,asP_some];refine ⟨fun t h'=>t=.int .i64 0∧h=h',fun _ _=>0,⟨rfl,rfl⟩,?_⟩;rintro _ _ _ ⟨rfl,rfl⟩;refine ⟨false,?_,fun _=>ba rfl rfl⟩;refine (hw.aC cs.k).sl fun _ _=>?_;rw [asK_int];refine ae (fun hc=>?_) (fun hc=>⟨rfl,trivial⟩);refine ⟨_,lx' (j:=4) cs.c rfl,?_⟩;rw [asK_int];exact ⟨by rw [Qa.2 hf],trivial⟩
set_option maxHeartbeats 800000 in
theorem P6 {N:Nat}(hSL:SL ω h0 C va M ab N):LL ω h0 C va M ab N:=by
 intro l deep hN hG h S SM fr r bd m vv w hT hbd hm0 hm hw bs hs X;refine eD ω _ _ _ h _ X ?_;unfold cQ;simp only [nnK_ptr,asP_some];have hmax:=hw.max;refine ⟨fun t h'=>∃k:Nat,t=.int .i64 k∧k≤l.length∧KB2 C M SM vv h h'∧((∃vv' fr' bd' m',BS h0 C h' va M vv' m' (0,0) bd'∧ScS h' M (pp S) ((S,SM,fr')::r)∧(∀k,vv'.ownBlock=some k→vv.ownBlock=some k∨h.size≤k) ∧
   TyE (cy ((S,SM,fr')::r))∧bd'.length+2*cc (l.drop k)≤1000000∧0≤m'∧m'+cc (l.drop k)≤1000000∧gX ab l (cy ((S,SM,fr)::r)) bd m=gX ab (l.drop k) (cy ((S,SM,fr')::r)) bd' m') ∨
   (∃e vv' m',gX ab l (cy ((S,SM,fr)::r)) bd m=.error e∧e.1≠0∧CS h0 C h' va M vv' m' e∧b8 vv')),fun t _=>match t with|.int _ k=>l.length - k.toNat|_=>0,
  ⟨0,rfl,by omega,ar.refl _ _,.inl ⟨vv,fr,bd,m,bs,hs,fun k hk=>.inl hk,hT,hbd,hm0,hm,rfl⟩⟩,?_⟩
 rintro _ _ h1 ⟨k,rfl,hk,K1,hst⟩;rcases hst with ⟨vv1,fr1,bd1,m1,bs1,hs1,ho1,hT1,hbd1,hm01,hm1,he1⟩|⟨e,vv1,m1,he1,hne,cs1,hone⟩
 ·refine ⟨decide (k < l.length),?_,fun _=>ae (fun hc=>?_) (fun hc=>?_)⟩
  ·refine (hw.aC bs1.cs.k).sl fun _ _=>?_;rw [asK_int];refine ae (fun hc=>?_) (fun hc=>?_)
   ·have:k < l.length:=by have:=Qj hc;omega
    refine ⟨_,lx' (j:=4) bs1.cs.c rfl,?_⟩;rw [asK_int,Z7 this];exact ⟨rfl,trivial⟩
   ·have:¬k < l.length:=by have:=Qc hc;omega
    rw [Z0 this];exact ⟨rfl,trivial⟩
  ·have hkl:=Qj hc;have hx:=Q7 hkl;have hmem:l[k]∈l:=Qv hkl;generalize l[k]=x at hx hmem;have hgx:=tA hG hmem;obtain ⟨hd1,hd2⟩:=DL hx;have hxn:=im hmem;refine hw.zU bs1.cs.k hx fun ve vb vl hve hvb hvl=>?_;refine aa.use (hSL x deep (by omega) hgx h1 S SM fr1 r bd1 m1 vv1 ve vb vl hT1 (by omega) hm01 (by omega) hve hvb hvl bs1 hs1) ?_
   rintro _ h2 ⟨K2,hp⟩;have K12:KB2 C M SM vv h h2:=K1.cS (K2.mono fun b hb hh=>by
    rcases hh with hh|hh|hh|hh
    ·exact .inl (.inl hh)
    ·exact .inl (.inr (.inl hh))
    ·exact .inl (.inr (.inr (.inl hh)))
    ·rcases ho1 b hh with h9|h9
     ·exact .inl (.inr (.inr (.inr h9)))
     ·exact .inr h9)
   rw [asK_int,i64_in (by omega) (by omega)]
   refine ⟨⟨k+1,by simp,by omega,K12,?_⟩,by simp;omega⟩
   rw [hd2,dK] at he1;cases hr:kst ab x (cy ((S,SM,fr1)::r)) bd1 m1 with
   |error e =>
    rw [hr] at hp he1;obtain ⟨hne,vv',m',cs',hone⟩:=hp;exact .inr ⟨e,vv',m',he1,hne,cs',hone⟩
   |ok q =>
    have hlen:=HH ab x hr;have hkk:=(Cz hr).2;rw [hr] at hp he1;obtain ⟨vv',fr',rfl,bs',hs',ho'⟩:=hp;have henv:cy ((S,SM,tt ab (cy ((S,SM,fr1)::r)) m1 x++fr1)::r)=tt ab (cy ((S,SM,fr1)::r)) m1 x++cy ((S,SM,fr1)::r):=by
     unfold cy;rw [Ql,Ql,Qk]
    refine .inl ⟨vv',_,q.1,q.2,bs',hs',fun b hb=>?_,?_,by omega,by omega,by omega,?_⟩
    ·rcases ho' b hb with h9|h9
     ·exact ho1 b h9
     ·have:=K1.size;exact .inr (by omega)
    ·rw [henv];exact OL hT1 hgx hkk
    ·rw [henv,he1];rfl
  ·have hc:=Qc hc;obtain rfl:k=l.length:=by omega
   rw [Qt,show ∀env:List Vr,gX ab [] env bd1 m1=.ok (bd1,m1) from fun _=>by unfold gX;rfl] at he1
   rw [he1];exact ⟨K1,vv1,fr1,trivial,bs1,hs1,ho1⟩
 ·refine ⟨false,?_,fun _=>ba rfl ?_⟩
  ·refine (hw.aC cs1.k).sl fun _ _=>?_;rw [asK_int];refine ae (fun hc=>?_) (fun hc=>⟨rfl,trivial⟩);refine ⟨_,lx' (j:=4) cs1.c rfl,?_⟩;rw [asK_int];exact ⟨by rw [Qa.2 hne],trivial⟩
  ·rw [he1];exact ⟨K1,hne,vv1,m1,cs1,hone⟩
end
theorem PF {deep:Int}{x:St}(h:stG deep x):x.d=1∨x.d=2∨x.d=3∨x.d=6∨x.d=13∨x.d=14→∃y,x.e[0]?=some y:=fun hd=>by
 obtain ⟨f,hf⟩:=uv (nT.1 h).1;have hfe:f.e=1:=by
  have:=hf.form;rcases hd with hd|hd|hd|hd|hd|hd<;>(rw [hd] at this;cases this;rfl)
 have:=hf.ne (by omega)
 cases he:x.e with
 |nil=>rw [he,hfe] at this;cases this
 |cons y r=>exact ⟨y,rfl⟩
theorem Nr {deep:Int}{x:St}(h:stG deep x):x.t.size≤20000:=by
 obtain ⟨f,hf⟩:=uv (nT.1 h).1;cases ht:f.t with
 |true =>
  have:=hf.ty ht;unfold ck at this;have:=Qj this;omega
 |false =>
  have:=hf.et ht;unfold emp at this;rw [←aH,this];decide
theorem iI (S SM:Nat)(fr:List Vr)(r:List Fr):cy ((S,SM,fr)::r)=fr++cy r:=by
 unfold cy;rw [Ql]
theorem ScS.tl {h:Hp}{M:Nat}{v:Value}{q p:Fr}{r:List Fr}(hs:ScS h M v (q::p::r)):ScS h M (pp p.1) (p::r):=by
 obtain ⟨_,_,_,_,u,_,h6⟩:=hs;have:u=pp p.1:=h6.1;rw [this] at h6;exact h6
theorem ScS.inn {h:Hp}{M S SM:Nat}{fr:List Vr}{r:List Fr}(hs:ScS h M (pp S) ((S,SM,fr)::r))(hM:M < h.size):ScS ((h.push (.map #[] 0)).push (.cells #[pp S,.map (some h.size)] 124 (0,0))) M (pp (h.push (.map #[] 0)).size) (((h.push (.map #[] 0)).size,h.size,[])::(S,SM,fr)::r):=by
 have k1:=ar.push (S:=fun _=>False) h (.map #[] 0);have k2:=ar.push (S:=fun _=>False) (h.push (.map #[] 0)) (.cells #[pp S,.map (some h.size)] 124 (0,0));refine ⟨rfl,hM,fun p hp=>?_,(qJ.new (h:=h)).aC k2 id,_,ah,hs.more (k1.trans k2)⟩;obtain ⟨_,⟨f,hm⟩,u,hu⟩:=hs.get p hp;have h1:=gd hu;have h2:=hm.lt;have:=k1.size;exact ⟨by show p.1 < _;omega,h2⟩
def kfa (x:St)(vs:List Vr):List Vr:=if x.d=11∨x.d=12 then vs.reverse else []
def kfb (x:St)(vs:List Vr):List Vr:=if x.d=11∨x.d=12 then [] else vs.reverse
theorem kfab (x:St)(vs:List Vr):kfa x vs++kfb x vs=vs.reverse:=by
 unfold kfa kfb
 split<;>simp
def LSt (h0:Hp)(C:Nat)(va:Value)(M S SM S2 SM2:Nat)(fr:List Vr)(r:List Fr)(vv:Value)(x:St)(bd:List Vr)(m:Int)(h10 h':Hp)(vs:List Vr):Prop :=
 ∃vv',BS h0 C h' va M vv' (m+1) (0,0) (bd++vs)∧ScS h' M (pp S2) ((S2,SM2,kfa x vs)::(S,SM,kfb x vs++fr)::r)∧(∀b,vv'.ownBlock=some b→vv.ownBlock=some b∨h10.size≤b)∧ar (fun b=>b=C∨b=M∨b=SM∨b=SM2∨vv.ownBlock=some b) h10 h'
theorem CF (b:Nat):one (.map (some b)):=rfl
section
variable  {ω:Amb}{h0:Hp}{C M:Nat}{va:Value}{ab:List Sg}
def ktf (bd:List Vr)(x:St)(m:Int)(k:Nat):Int×Int:=if ((bc x e0).take k).any (ktw bd x)=true then (9,m) else (0,0)
theorem Jp {bd:List Vr}{x:St}{m:Int}{k:Nat}{v:Vr}(hv:(bc x e0)[k]?=some v):ktf bd x m (k+1)=if ktw bd x v=true then kfl (ktf bd x m k) 9 m else ktf bd x m k:=by
 unfold ktf;rw [aZ hv,List.any_append,List.any_cons,List.any_nil,Bool.or_false];cases h1:((bc x e0).take k).any (ktw bd x)<;>cases h2:ktw bd x v<;>rfl
set_option maxHeartbeats 1600000 in
theorem PL {N:Nat}(ha:SgS h0 va ab)(hLL:LL ω h0 C va M ab N):SL ω h0 C va M ab (N+1):=by
 intro x deep hN hG h S SM fr r bd m vv ve vb vl hT hbd hm0 hm he hvb hvl' bs hs X;have hxn:=jN x;have hE:=PF hG;have htx:=Nr hG;have hGb:vL (deep+1) x.body:=(nT.1 hG).2.1;have hGe:vL (deep+1) x.els:=(nT.1 hG).2.2;refine mu ω _ _ _ h _ X ?_;unfold fj;simp only [nV,nnK_ptr,asP_some];have hb1:=ah (h:=h) (o:=.cells (stC x ve vb vl).toArray 39 (0,0));have kp:=ar.push (S:=fun _=>False) h (.cells (stC x ve vb vl).toArray 39 (0,0))
 have z1:h.size < (h.push (.cells (stC x ve vb vl).toArray 39 (0,0))).size:=by simp
 generalize h.push (.cells (stC x ve vb vl).toArray 39 (0,0))=h1 at *;have bs1:=bs.more kp;have hs1:=hs.more kp;have hClt:=bs.cs.lt;have hne:h.size≠C:=by omega
 have hMlt:M < h.size:=by obtain ⟨F,hF,_⟩:=bs.seen;exact hF.lt
 have hMh1:M < h1.size:=by omega
 have hSMlt:SM < h.size∧S < h.size:=by
  obtain ⟨_,⟨f,hf⟩,u,hu⟩:=hs.get (S,SM,fr) Qg;exact ⟨hf.lt,gd hu⟩
 have vlt:=bs.own.lt;refine ⟨_,lx' (j:=3) bs1.cs.c rfl,_,lx' (j:=3) bs1.cs.c rfl,?_⟩;rw [asK_int,i64_in (by omega) (by omega),aP,Zc]
 refine aM bs1.cs.c (by show 3 < 6;decide) ?_
 have e2:(ckC va M vv m (0,0)).toArray.setIfInBounds 3 (.int .i64 (m+1))=(ckC va M vv (m+1) (0,0)).toArray:=by simp [ckC]
 rw [e2];have k2:KC C h1 (h1.setIfInBounds C (.cells (ckC va M vv (m+1) (0,0)).toArray 79 (0,0))):=ar.set (S:=fun k=>k=C) (h:=h1) (.cells (ckC va M vv (m+1) (0,0)).toArray 79 (0,0)) (b:=C) rfl;have c2:=aq (o:=.cells (ckC va M vv (m+1) (0,0)).toArray 79 (0,0)) bs1.cs.c;generalize h1.setIfInBounds C (.cells (ckC va M vv (m+1) (0,0)).toArray 79 (0,0))=h2 at *;have cs2:CS h0 C h2 va M vv (m+1) (0,0):=⟨bs1.cs.k.cS (k2.mono fun b _ hb=>.inr (by have hb:b=C:=hb;have:=bs.cs.b;omega)),bs.cs.b,c2⟩
 have bs2:=bs1.oR k2 cs2;have hs2:=hs1.oR bs1.cs k2;have hb2:=k2.get hb1 hne;refine ⟨_,ak hb2 rfl,?_⟩;refine aa.use (vQ x e0 htx) ?_;rintro r8 h3 ⟨hr8,hr8b,k3⟩;have bs3:=bs2.more k3;have hs3:=hs2.more k3;have hb3:=k3.get hb2 id;have k03:KC C h h3:=((KC.of kp).trans k2).trans (KC.of k3);refine bm.sl hr8 fun _ _=>?_;refine ⟨fun t h'=>∃k:Nat,t=.int .i64 k∧k≤(bc x e0).length∧CS h0 C h' va M vv (m+1) (ktf bd x m k)∧KC C h3 h',fun t _=>match t with|.int _ k=>(bc x e0).length - k.toNat|_=>0,
  ⟨0,rfl,by omega,bs3.cs,ar.refl _ _⟩,?_⟩
 rintro _ _ h5 ⟨k,rfl,hk,cs5,k5⟩;have hb5:=k5.get hb3 hne;have bs5:=bs3.oR k5 cs5;have hs5:=hs3.oR bs3.cs k5;rw [asK_int];refine ae (fun hc=>?_) (fun hc=>?_)
 ·have hkl:k < (bc x e0).length:=by have:=Qj hc;omega
  have hv:=Q7 hkl;generalize (bc x e0)[k]=v at hv;have hl2:=ss x e0;refine ⟨fun h'=>CS h0 C h' va M vv (m+1) (ktf bd x m (k+1))∧KC C h3 h',?_,?_⟩
  ·have hr8':=bm.Eb hr8 k5 (fun b hb e=>by have:=(hr8b b hb).1;have:=k2.size;have e:b=C:=e;omega)
   refine bm.rdS hr8' (fun _=>rfl) hv ?_;refine ⟨rfl,Bt v,aA (cs:=vrC v) rfl ?_⟩;have hv6:=ah (h:=h5) (o:=.cells (vrC v).toArray 56 (0,0));have k6:=ar.push (S:=fun _=>False) h5 (.cells (vrC v).toArray 56 (0,0));generalize h5.push (.cells (vrC v).toArray 56 (0,0))=h6 at *;have bs6:=bs5.more k6;have hb6:=k6.get hb5 id;refine ⟨fun u h'=>u=.bool (ktw bd x v)∧h6=h',?_,?_⟩
   ·refine ⟨_,lx' (j:=1) bs6.cs.c rfl,?_⟩;refine lx hv6 (j:=0) (u:=.string v.1) rfl ?_;obtain ⟨F,hm6,hF⟩:=bs6.seen;refine HO hm6 v.1 ?_;rw [hF,asK_int];unfold ktw;refine ae (fun hc=>?_) (fun hc=>?_)
    ·have:0 < rp bd v.1:=Qj hc;rw [Z7 this];exact ⟨rfl,rfl⟩
    have:¬0 < rp bd v.1:=Qc hc;rw [Z0 this];refine lx hb6 (j:=0) rfl ?_;rw [asK_int];refine ae (fun hc=>?_) (fun hc=>?_)
    ·rw [Z7 (Zg hc)];refine lx hb6 (j:=2) rfl ?_;refine lx hb6 (j:=3) rfl ?_;rw [asS_str,asS_str,eqB];exact ⟨rfl,rfl⟩
    ·rw [Z0 (Qa.1 hc)];exact ⟨rfl,rfl⟩
   rintro _ _ _ ⟨rfl,rfl⟩;refine ⟨fun h'=>CS h0 C h' va M vv (m+1) (ktf bd x m (k+1))∧KC C h3 h',?_,fun _ _ hh=>hh⟩;rw [asB_bool,Jp hv];refine ae (fun hc=>?_) (fun hc=>?_)
   ·rw [if_pos hc];refine aa.use (cn bs6.cs 9 m) ?_;rintro _ h7 ⟨cs7,k7⟩;exact ⟨cs7,(k5.trans (KC.of k6)).trans k7⟩
   ·rw [if_neg (by rw [hc];exact Qe)]
    exact ⟨bs6.cs,k5.trans (KC.of k6)⟩
  rintro _ h7 ⟨cs7,k7⟩;rw [asK_int,i64_in (by omega) (by omega)]
  exact ⟨⟨k+1,by simp,by omega,cs7,k7⟩,by simp;omega⟩
 have hc:=Qc hc;obtain rfl:k=(bc x e0).length:=by omega
 have hftw:ktf bd x m (bc x e0).length=if gL bd x=true then (9,m) else (0,0):=by
  unfold ktf gL;rw [Qo]
 rw [hftw] at cs5 bs5;refine ⟨_,ak hb5 rfl,?_⟩;refine aa.use (FF hT.l m x hE ha he cs5 hs5) ?_;rintro _ h7 ⟨rfl,cs7,k7⟩;have bs7:=bs5.oR k7 cs7;have hs7:=hs5.oR cs5 k7;have hb7:=k7.get hb5 hne;have k07:KC C h h7:=(k03.trans k5).trans k7;have K07:KB2 C M SM vv h h7:=k07.mono fun b _ hb=>.inl hb;rw [qQ];refine ⟨_,lx' (j:=4) cs7.c rfl,?_⟩;rw [asK_int];generalize hcase:(if gL bd x=true then ((9,m):Int×Int) else (0,0))=f2 at *
 refine ae (fun hc=>?_) (fun hc=>?_)
 ·have hne7:=Ze.1 hc;cases htw:gL bd x with
  |true =>
   rw [htw,if_pos rfl] at hcase;subst hcase;rw [CB (show ((9,m):Int×Int).1≠0 from (by decide:(9:Int)≠0))] at cs7
   rw [if_pos rfl];exact ⟨K07,(by decide:(9:Int)≠0),vv,m+1,cs7,bm.b8 bs.own.dP⟩
  |false =>
   rw [htw,if_neg Qe] at hcase;subst hcase;rw [if_neg Qe,if_pos (show (kuf ab (cy ((S,SM,fr)::r)) m x).1≠0 from hne7)]
   exact ⟨K07,hne7,vv,m+1,cs7,bm.b8 bs.own.dP⟩
 have hz7:(gE ab (cy ((S,SM,fr)::r)) m x f2).2.1=0:=by simpa using hc
 have htw:gL bd x=false:=by
  cases htw:gL bd x with
  |false=>rfl
  |true =>
   rw [htw,if_pos rfl] at hcase;subst hcase;rw [CB (show ((9,m):Int×Int).1≠0 from (by decide:(9:Int)≠0))] at hz7
   cases hz7
 rw [htw,if_neg Qe] at hcase;subst hcase;rw [Hf Zf0 _ _ _ _ hz7] at bs7;rw [htw,if_neg Qe,if_neg (Z9 (show (kuf ab (cy ((S,SM,fr)::r)) m x).1=0 from hz7))]
 rw [oneK_ptr];refine cP (CF _) ?_;have hMlt7:M < h7.size:=by have:=k07.size;omega
 have hs9:=hs7.inn hMlt7;have hb9:=(ar.push (S:=fun _=>False) h7 (.map #[] 0)).trans (ar.push (S:=fun _=>False) (h7.push (.map #[] 0)) (.cells #[pp S,.map (some h7.size)] 124 (0,0)));have zS2:(h7.push (.map #[] 0)).size=h7.size+1:=by simp
 rw [zS2] at hs9 ⊢;generalize (h7.push (.map #[] 0)).push (.cells #[pp S,.map (some h7.size)] 124 (0,0))=h9 at *;have bs9:=bs7.more hb9;have hst9:=hb9.get hb7 id;refine ⟨_,ak hst9 rfl,?_⟩;refine aa.use (vQ x (kof ab (cy ((S,SM,fr)::r)) m x) htx) ?_;rintro r10 h10 ⟨hr10,hr10b,k10⟩;have bs10:=bs9.more k10;have hs10:=hs9.more k10;have hst10:=k10.get hst9 id;have hkn:∀{k:Nat} {v:Vr},(bc x (kof ab (cy ((S,SM,fr)::r)) m x))[k]?=some v→rp (bd++(bc x (kof ab (cy ((S,SM,fr)::r)) m x)).take k) v.1=0:=fun hv=>knew htw _ hv
 have hkoG:TyE ((bc x (kof ab (cy ((S,SM,fr)::r)) m x)).reverse++cy ((S,SM,fr)::r)):=fun v hv=>by
  rcases Z3.1 hv with hv|hv
  ·exact B3 hT hz7 (OJ hG) v (List.mem_reverse.1 hv)
  ·exact hT v hv
 have hkout:tt ab (cy ((S,SM,fr)::r)) m x=kfb x (bc x (kof ab (cy ((S,SM,fr)::r)) m x)):=rfl;have hvl:=ss x (kof ab (cy ((S,SM,fr)::r)) m x);rw [hkout];generalize bc x (kof ab (cy ((S,SM,fr)::r)) m x)=vs at *;have hz0:h.size≤h7.size:=k07.size;have hz79:h7.size+2≤h9.size:=by
  have h1:=gd (hs9.get _ Qg).2.2.choose_spec;have h1:h7.size+1 < h9.size:=h1;omega
 have hz910:=k10.size;have hz17:h.size < h7.size:=by
  have:=k2.size;have:=k3.size;have:=k5.size;have:=k7.size;omega
 have K010:KB2 C M SM vv h h10:=K07.trans ((hb9.trans k10).mono fun _ _ hf=>hf.elim);refine bm.sl hr10 fun _ _=>?_;refine ⟨fun t h'=>∃k:Nat,t=.int .i64 k∧k≤vs.length∧LSt h0 C va M S SM (h7.size+1) h7.size fr r vv x bd m h10 h' (vs.take k),fun t _=>match t with|.int _ k=>vs.length - k.toNat|_=>0,
  ⟨0,rfl,by omega,vv,by simpa using bs10,?_,fun b hb=>.inl hb,ar.refl _ _⟩,?_⟩
 ·have ea:kfa x (vs.take 0)=[]:=by unfold kfa;split<;>rfl
  have eb:kfb x (vs.take 0)=[]:=by unfold kfb;split<;>rfl
  rw [ea,eb];exact hs10
 rintro _ _ h11 ⟨k,rfl,hk,vv1,bs11,hs11,ho11,K11⟩;have hst11:=K11.get hst10 (by
  rintro (e|e|e|e|e)
  ·exact hne e
  ·omega
  ·omega
  ·omega
  ·have:=(vlt _ e).2;omega)
 rw [asK_int];refine ae (fun hc=>?_) (fun hc=>?_)
 ·have hkl:k < vs.length:=by have:=Qj hc;omega
  have hv:=Q7 hkl;generalize vs[k]=v at hv;have htk:=aZ hv;refine ⟨fun h'=>LSt h0 C va M S SM (h7.size+1) h7.size fr r vv x bd m h10 h' (vs.take (k+1)),?_,?_⟩
  ·have hr11:=bm.Eb hr10 K11 (fun b hb hh=>by
    obtain ⟨g1,g2⟩:=hr10b b hb;rcases hh with e|e|e|e|e
    ·omega
    ·omega
    ·omega
    ·omega
    ·have:=(vlt _ e).2;omega)
   refine bm.rdS hr11 (fun _=>rfl) hv ?_;refine ⟨rfl,Bt v,aA (cs:=vrC v) rfl ?_⟩;have hv12:=ah (h:=h11) (o:=.cells (vrC v).toArray 56 (0,0));have k12:=ar.push (S:=fun _=>False) h11 (.cells (vrC v).toArray 56 (0,0));generalize h11.push (.cells (vrC v).toArray 56 (0,0))=h12 at *;have bs12:=bs11.more k12;have hs12:=hs11.more k12;have hst12:=k12.get hst11 id;have K12:=K11.trans (k12.mono fun _ _ hf=>hf.elim)
   have hbf:cJ (bd++vs.take k) v m (0,0)=(0,0):=by
    unfold cJ;rw [hkn hv,if_neg (by decide)]
   have hbl:(bd++vs.take k).length≤1000000:=by
    rw [Qd,Qp];omega
   refine ⟨decide (x.d=11∨x.d=12),?_,fun _=>?_⟩
   ·refine lx hst12 (j:=0) rfl ?_;rw [asK_int];refine ae (fun hc=>?_) (fun hc=>?_)
    ·exact ⟨by rw [Z7 (.inl (Zg hc))],trivial⟩
    have n11:=Qa.1 hc;refine lx hst12 (j:=0) rfl ?_;rw [asK_int];refine ⟨?_,trivial⟩
    congr 1
    rw [Qz];simp [n11]
   refine ⟨fun h'=>LSt h0 C va M S SM (h7.size+1) h7.size fr r vv x bd m h10 h' (vs.take (k+1)),ae (fun hc=>?_) (fun hc=>?_),fun _ _ hh=>hh⟩
   ·have hd:=Qj hc;refine ⟨_,ak hv12 rfl,?_⟩;refine aa.use (tV hbl v m bs12 hs12) ?_;rintro _ h13 ⟨vv2,bs13,hs13,k13,ho13⟩;rw [hbf,Qk,←htk] at bs13;refine ⟨vv2,bs13,?_,fun b hb=>?_,K12.cS (k13.mono fun b hb hh=>?_)⟩
    ·have ea:kfa x (vs.take (k+1))=v::kfa x (vs.take k):=by
      unfold kfa;rw [if_pos hd,if_pos hd,htk,List.reverse_append];rfl
     have eb:kfb x (vs.take (k+1))=kfb x (vs.take k):=by
      unfold kfb;rw [if_pos hd,if_pos hd]
     rw [ea,eb];exact hs13
    ·rcases ho13 b hb with h9'|h9'
     ·exact ho11 b h9'
     ·have:=K12.size;exact .inr (by omega)
    ·rcases hh with e|e|e|e
     ·exact .inl (.inl e)
     ·exact .inl (.inr (.inl e))
     ·exact .inl (.inr (.inr (.inr (.inl e))))
     ·rcases ho11 b e with e|e
      ·exact .inl (.inr (.inr (.inr (.inr e))))
      ·exact .inr e
   ·have hd:=Qc hc;refine ⟨_,ak hv12 rfl,?_⟩;refine aa.use (tV hbl v m bs12 hs12.tl) ?_;rintro _ h13 ⟨vv2,bs13,hs13,k13,ho13⟩;rw [hbf,Qk,←htk] at bs13;refine ⟨vv2,bs13,?_,fun b hb=>?_,K12.cS (k13.mono fun b hb hh=>?_)⟩
    ·have ea:kfa x (vs.take (k+1))=kfa x (vs.take k):=by
      unfold kfa;rw [if_neg hd,if_neg hd]
     have eb:kfb x (vs.take (k+1))=v::kfb x (vs.take k):=by
      unfold kfb;rw [if_neg hd,if_neg hd,htk,List.reverse_append];rfl
     rw [ea,eb];obtain ⟨_,g2,g3,g4,u,g5,g6⟩:=hs12;have hu:u=pp S:=g6.1;rw [hu] at g5;have own12:=bs12.own;have hcS:=bs12.cs.c;obtain ⟨F12,hF12,_⟩:=bs12.seen;refine ⟨rfl,g2,fun p hp=>?_,g4.aC k13 ?_,pp S,k13.get g5 ?_,hs13⟩
     ·rcases List.mem_cons.1 hp with rfl|hp
      ·exact g3 (S,SM,kfb x (vs.take k)++fr) Qg
      ·exact g3 _ (Q9 _ hp)
     ·have g2:M < h7.size:=g2;rintro (e|e|e|e)
      ·exact g4.ne hcS e
      ·have e:h7.size=M:=e;omega
      ·have e:h7.size=SM:=e;omega
      ·obtain ⟨c,hc⟩:=own12.blk e;exact g4.ne hc rfl
     ·rintro (e|e|e|e)
      ·have e:h7.size+1=C:=e;omega
      ·have e:h7.size+1=M:=e;omega
      ·have e:h7.size+1=SM:=e;omega
      ·obtain ⟨c,hc⟩:=own12.blk e;have g5:h12[h7.size+1]?=_:=g5;rw [g5] at hc;cases hc
    ·rcases ho13 b hb with h9'|h9'
     ·exact ho11 b h9'
     ·have:=K12.size;exact .inr (by omega)
    ·rcases hh with e|e|e|e
     ·exact .inl (.inl e)
     ·exact .inl (.inr (.inl e))
     ·exact .inl (.inr (.inr (.inl e)))
     ·rcases ho11 b e with e|e
      ·exact .inl (.inr (.inr (.inr (.inr e))))
      ·exact .inr e
  rintro _ h13 hl13;rw [asK_int,i64_in (by omega) (by omega)]
  exact ⟨⟨k+1,by simp,by omega,hl13⟩,by simp;omega⟩
 have hc:=Qc hc;obtain rfl:k=vs.length:=by omega
 rw [Qo] at bs11 hs11;have henvB:cy ((h7.size+1,h7.size,kfa x vs)::(S,SM,kfb x vs++fr)::r)=vs.reverse++cy ((S,SM,fr)::r):=by
  rw [iI,iI,iI,←kfab x vs];simp only [Qk]
 have K011:KB2 C M SM vv h h11:=K010.cS (K11.mono fun b _ hh=>by
  rcases hh with e|e|e|e|e
  ·exact .inl (.inl e)
  ·exact .inl (.inr (.inl e))
  ·exact .inl (.inr (.inr (.inl e)))
  ·exact .inr (by omega)
  ·exact .inl (.inr (.inr (.inr e))))
 refine lx hst11 (j:=7) rfl ?_;refine aa.use (hLL x.body (deep+1) (by omega) hGb h11 (h7.size+1) h7.size (kfa x vs) ((S,SM,kfb x vs++fr)::r) (bd++vs) (m+1) vv1 vb (by rw [henvB];exact hkoG) (by rw [Qd];omega) (by omega) (by omega) hvb bs11 hs11) ?_
 rintro _ h12 ⟨K12,hp⟩;rw [henvB] at hp;have K012:KB2 C M SM vv h h12:=K011.cS (K12.mono fun b _ hh=>by
  rcases hh with e|e|e|e
  ·exact .inl (.inl e)
  ·exact .inl (.inr (.inl e))
  ·exact .inr (by omega)
  ·rcases ho11 b e with e|e
   ·exact .inl (.inr (.inr (.inr e)))
   ·have:=K010.size;exact .inr (by omega))
 have hz1012:h10.size≤h11.size:=K11.size;have hz1112:h11.size≤h12.size:=K12.size;have hst12:=K12.get hst11 (by
  rintro (e|e|e|e)
  ·exact hne e
  ·omega
  ·omega
  ·rcases ho11 _ e with e|e
   ·have:=(vlt _ e).2;omega
   ·omega)
 rw [oneK_ptr];refine cP (CF _) ?_;have k14:=(ar.push (S:=fun _=>False) h12 (.map #[] 0)).trans (ar.push (S:=fun _=>False) (h12.push (.map #[] 0)) (.cells #[pp S,.map (some h12.size)] 124 (0,0)));have K014:=K012.trans (k14.mono fun _ _ hf=>hf.elim);have hMlt12:M < h12.size:=by have:=K012.size;omega
 have hst14:=k14.get hst12 id;cases hr:gX ab x.body (vs.reverse++cy ((S,SM,fr)::r)) (bd++vs) (m+1) with
 |error e =>
  rw [hr] at hp;obtain ⟨hne',vv',m',cs',hone⟩:=hp;refine ⟨_,lx' (j:=8) hst14 rfl,?_⟩;refine aa.use (Hn hne' (cs'.aC k14) hvl' (pp _)) ?_;rintro _ _ rfl;exact ⟨K014,hne',vv',m',cs'.aC k14,hone⟩
 |ok q =>
  have hlen:=rb ab x.body hr;rw [hr] at hp;obtain ⟨vv2,fr2,_,bs12,hs12,ho12⟩:=hp;have hs14:=hs12.tl.inn hMlt12;have bs14:=bs12.more k14;have zS3:(h12.push (.map #[] 0)).size=h12.size+1:=by simp
  rw [zS3] at hs14 ⊢;generalize (h12.push (.map #[] 0)).push (.cells #[pp S,.map (some h12.size)] 124 (0,0))=h14 at *;have hz14:=k14.size;have henvE:cy ((h12.size+1,h12.size,[])::(S,SM,kfb x vs++fr)::r)=kfb x vs++cy ((S,SM,fr)::r):=by
   rw [iI,iI,iI];simp only [Qk,Z4]
  have hTE:TyE (kfb x vs++cy ((S,SM,fr)::r)):=fun v hv=>by
   refine hkoG v ?_;rcases Z3.1 hv with hv|hv
   ·refine List.mem_append_left _ ?_;unfold kfb at hv
    split at hv
    ·cases hv
    ·exact hv
   ·exact List.mem_append_right _ hv
  rw [Qd] at hlen;refine ⟨_,lx' (j:=8) hst14 rfl,?_⟩;refine aa.use (hLL x.els (deep+1) (by omega) hGe h14 (h12.size+1) h12.size [] ((S,SM,kfb x vs++fr)::r) q.1 q.2 vv2 vl (by rw [henvE];exact hTE) (by omega) (by omega) (by omega) hvl' bs14 hs14) ?_
  rintro _ h15 ⟨K15,hp⟩;rw [henvE] at hp;have ho02:∀b,vv2.ownBlock=some b→vv.ownBlock=some b∨h.size≤b:=fun b hb=>by
   rcases ho12 b hb with e|e
   ·rcases ho11 b e with e|e
    ·exact .inl e
    ·exact .inr (by omega)
   ·exact .inr (by omega)
  have K015:KB2 C M SM vv h h15:=K014.cS (K15.mono fun b _ hh=>by
   rcases hh with e|e|e|e
   ·exact .inl (.inl e)
   ·exact .inl (.inr (.inl e))
   ·exact .inr (by omega)
   ·rcases ho02 b e with e|e
    ·exact .inl (.inr (.inr (.inr e)))
    ·exact .inr e)
  show KPo h0 C va M S SM r vv h h15 (fun f=>f=kfb x vs++fr) (gX ab x.els (kfb x vs++cy ((S,SM,fr)::r)) q.1 q.2);cases hr2:gX ab x.els (kfb x vs++cy ((S,SM,fr)::r)) q.1 q.2 with
  |error e =>
   rw [hr2] at hp;exact ⟨K015,hp⟩
  |ok q2 =>
   rw [hr2] at hp;obtain ⟨vv3,fr3,_,bs15,hs15,ho15⟩:=hp;refine ⟨K015,vv3,_,rfl,bs15,hs15.tl,fun b hb=>?_⟩;rcases ho15 b hb with e|e
   ·exact ho02 b e
   ·exact .inr (by omega)
theorem F8 (ha:SgS h0 va ab):∀N,LL ω h0 C va M ab N
 |0=>fun l deep hN=>absurd hN (Nat.not_lt_zero _)
 |N+1=>P6 (PL ha (F8 ha N))
end
def kpP (at_:Int)(l:List Vr)(f:Int×Int):List Vr×(Int×Int):=l.foldl (fun q v=>(q.1++[v],cJ q.1 v at_ q.2)) ([],f)
theorem xf (at_:Int)(l:List Vr)(v:Vr)(f:Int×Int):kpP at_ (l++[v]) f=((kpP at_ l f).1++[v],cJ (kpP at_ l f).1 v at_ (kpP at_ l f).2):=by
 unfold kpP;rw [List.foldl_append];rfl
theorem MK (at_:Int)(f:Int×Int)(l:List Vr):(kpP at_ l f).1=l:=by
 unfold kpP;have:∀(r:List Vr) (q:List Vr×(Int×Int)),(r.foldl (fun q v=>(q.1++[v],cJ q.1 v at_ q.2)) q).1=q.1++r:=by
  intro r
  induction r with
  |nil=>intro q;simp
  |cons v r ih =>
   intro q;rw [List.foldl_cons,ih];simp
 rw [this];rfl
theorem H6 {f:Int×Int}(hf:Zf f)(bd:List Vr)(v:Vr)(at_:Int):Zf (cJ bd v at_ f):=by
 unfold cJ
 split
 ·exact vo hf (by decide) _
 ·exact hf
theorem N9 (at_:Int){f:Int×Int}(hf:Zf f):∀l:List Vr,Zf (kpP at_ l f).2:=by
 intro l;unfold kpP;have:∀(r:List Vr) (q:List Vr×(Int×Int)),Zf q.2→Zf (r.foldl (fun q v=>(q.1++[v],cJ q.1 v at_ q.2)) q).2:=by
  intro r
  induction r with
  |nil=>intro q h;exact h
  |cons v r ih =>
   intro q h;rw [List.foldl_cons];exact ih _ (H6 h _ _ _)
 exact this l _ hf
def tu (ab:List Sg)(nm:ByteArray)(at_:Int):Int×Int:=if ab.any (fun g=>decide (g.nm=nm))=true then (9,at_) else (0,0)
theorem Kv (ab:List Sg)(nm:ByteArray)(at_:Int):Zf (tu ab nm at_):=by
 unfold tu
 split
 ·exact fun h=>absurd h (by decide:¬(9:Int)=0)
 ·exact Zf0
theorem E2 (ab:List Sg)(g:Sg)(nm:ByteArray)(at_:Int):tu (ab++[g]) nm at_=if g.nm=nm then kfl (tu ab nm at_) 9 at_ else tu ab nm at_:=by
 unfold tu;rw [List.any_append,List.any_cons,List.any_nil,Bool.or_false]
 by_cases hg:g.nm=nm
 ·rw [Z7 hg,if_pos hg];cases ab.any fun g=>decide (g.nm=nm)<;>rfl
 ·rw [Z0 hg,if_neg hg,Bool.or_false]
def cd (ab:List Sg)(g:Sg)(at_ n:Int):KR :=
 if (kpP at_ g.ps (tu ab g.nm at_)).2.1≠0 then .error (kpP at_ g.ps (tu ab g.nm at_)).2
 else vc (gX ab g.body g.ps.reverse g.ps n) fun bd m=>if 30 < bd.length then .error (8,at_) else .ok (bd,m)
section
variable  {ω:Amb}{h0:Hp}{C M:Nat}{va:Value}{ab:List Sg}
set_option maxHeartbeats 1600000 in
theorem DG (ha : SgS h0 va ab) (g : Sg) (hG : vL 1 g.body) (hps : ∀ q ∈ g.ps, TyG q.2) (hpl : g.ps.length ≤ 10) (hN : cc g.body ≤ 400000) (at_ : Int) {h : Hp} {n : Int} (hn0 : 0 ≤ n) (hn : n ≤ 400000) {vp vb : Value} (hvp : PsS h0 vp g.ps) (hvb : StS h0 vb g.body) (bs : BS h0 C h va M (.slice none 0 0) n (0, 0) []) (X : XT) :
    aa Tryz.prog ω 38 [pp C, .agg (sgC g vp vb).toArray, .int .i64 at_] h (fun _ h' => ar (fun b => b = C ∨ b = M) h h' ∧ match cd ab g at_ n with
      | .ok q => ∃ vv', BS h0 C h' va M vv' q.2 (0, 0) q.1 ∧ ∀ b, vv'.ownBlock = some b → h.size ≤ b
      | .error e => e.1 ≠ 0 ∧ ∃ vv' m', CS h0 C h' va M vv' m' e ∧ b8 vv') X := by
  refine me ω _ _ _ h _ X ?_
  unfold eQ cL bw
  simp only [show Value.cells (.agg (sgC g vp vb).toArray) = (sgC g vp vb).toArray from rfl, nnK_ptr, asP_some]
  have hb1 := ah (h := h) (o := .cells (sgC g vp vb).toArray 41 (0, 0))
  have kp := ar.push (S := fun _ => False) h (.cells (sgC g vp vb).toArray 41 (0, 0))
  have z1 : (h.push (.cells (sgC g vp vb).toArray 41 (0, 0))).size = h.size + 1 := by simp
  generalize h.push (.cells (sgC g vp vb).toArray 41 (0, 0)) = h1 at *
  refine cP (CF _) ?_
  have hClt := bs.cs.lt
  have hMlt : M < h.size := by obtain ⟨F, hF, _⟩ := bs.seen; exact hF.lt
  have k2 := (ar.push (S := fun _ => False) h1 (.map #[] 0)).trans (ar.push (S := fun _ => False) (h1.push (.map #[] 0)) (.cells #[(.pointer none), .map (some h1.size)] 124 (0, 0)))
  have hs2 : ScS ((h1.push (.map #[] 0)).push (.cells #[(.pointer none), .map (some h1.size)] 124 (0, 0))) M (pp (h1.push (.map #[] 0)).size) [((h1.push (.map #[] 0)).size, h1.size, [])] := by
    refine ⟨rfl, by show M < h1.size; omega, fun p hp => absurd hp List.not_mem_nil, (qJ.new (h := h1)).aC (ar.push (S := fun _ => False) _ _) id, _, ah, rfl⟩
  have zS : (h1.push (.map #[] 0)).size = h1.size + 1 := by simp
  rw [zS] at hs2 ⊢
  have bs2 := (bs.more kp).more k2
  have hl2 := k2.get hb1 id
  have K02 : KC C h _ := KC.of (C := C) (kp.trans k2)
  have hz2 : h1.size + 2 ≤ ((h1.push (.map #[] 0)).push (.cells #[(.pointer none), .map (some h1.size)] 124 (0, 0))).size := by simp
  generalize (h1.push (.map #[] 0)).push (.cells #[(.pointer none), .map (some h1.size)] 124 (0, 0)) = h2 at *
  have hne : h.size ≠ C := by omega
  refine ⟨_, lx' (j := 0) bs2.cs.c rfl, ?_⟩
  have hamax := SgS.max ha
  refine (ha.aC bs2.cs.k).sl fun _ _ => ?_
  refine ⟨fun t h' => ∃ k : Nat, t = .int .i64 k ∧ k ≤ ab.length ∧ CS h0 C h' va M (.slice none 0 0) n (tu (ab.take k) g.nm at_) ∧ KC C h2 h', fun t _ => match t with | .int _ k => ab.length - k.toNat | _ => 0,
    ⟨0, rfl, by omega, bs2.cs, ar.refl _ _⟩, ?_⟩
  rintro _ _ h3 ⟨k, rfl, hk, cs3, k3⟩
  rw [asK_int]
  have hl3 := k3.get hl2 hne
  refine ae (fun hc => ?_) (fun hc => ?_)
  · have hkl : k < ab.length := by have := Qj hc; omega
    have hx := Q7 hkl
    generalize ab[k] = y at hx
    refine ⟨fun h' => CS h0 C h' va M (.slice none 0 0) n (tu (ab.take (k + 1)) g.nm at_) ∧ KC C h2 h', ?_, ?_⟩
    · refine ha.zU cs3.k hx fun wp wb hwp hwb => ?_
      refine ⟨rfl, lY (ew hwp.2) hwb.b8, aA (cs := sgC y wp wb) rfl ?_⟩
      have hv4 := ah (h := h3) (o := .cells (sgC y wp wb).toArray 41 (0, 0))
      have k4 := ar.push (S := fun _ => False) h3 (.cells (sgC y wp wb).toArray 41 (0, 0))
      generalize h3.push (.cells (sgC y wp wb).toArray 41 (0, 0)) = h4 at *
      refine lx hv4 (j := 0) rfl ?_
      refine lx (k4.get hl3 id) (j := 0) rfl ?_
      rw [asS_str, asS_str, eqB, aZ hx, E2]
      refine ⟨_, ?_, fun _ _ hh => hh⟩
      refine ae (fun hc => ?_) (fun hc => ?_)
      · rw [if_pos (Qj hc)]
        refine aa.use (cn (cs3.aC k4) 9 at_) ?_
        rintro _ h5 ⟨cs5, k5⟩
        exact ⟨cs5, (k3.trans (KC.of k4)).trans k5⟩
      · rw [if_neg (Qc hc)]
        exact ⟨cs3.aC k4, k3.trans (KC.of k4)⟩
    rintro _ h5 ⟨cs5, k5⟩
    rw [asK_int, i64_in (by omega) (by omega)]
    exact ⟨⟨k + 1, by simp, by omega, cs5, k5⟩, by simp; omega⟩
  have hc := Qc hc
  obtain rfl : k = ab.length := by omega
  rw [Qo] at cs3
  have bs3 := bs2.oR k3 cs3
  have hs3 := hs2.oR bs2.cs k3
  have hz23 := k3.size
  have K03 := K02.trans k3
  unfold cd
  have hf1 := Kv ab g.nm at_
  generalize tu ab g.nm at_ = f1 at *
  have hf1Z : Zf f1 → Zf (kpP at_ g.ps f1).2 := fun hf => N9 at_ hf g.ps
  refine lx hl3 (j := 2) rfl ?_
  refine bm.sl (hvp.aC cs3.k).1 fun _ _ => ?_
  refine ⟨fun t h' => ∃ k : Nat, t = .int .i64 k ∧ k ≤ g.ps.length ∧ ∃ vv', BS h0 C h' va M vv' n (kpP at_ (g.ps.take k) f1).2 (g.ps.take k) ∧ ScS h' M (pp (h1.size + 1)) [(h1.size + 1, h1.size, (g.ps.take k).reverse)] ∧ (∀ b, vv'.ownBlock = some b → h1.size ≤ b) ∧ ar (fun b => b = C ∨ b = M) h h' ∧ h2.size ≤ h'.size ∧ h'[h.size]? = some (.cells (sgC g vp vb).toArray 41 (0, 0)), fun t _ => match t with | .int _ k => g.ps.length - k.toNat | _ => 0,
    ⟨0, rfl, by omega, _, bs3, hs3, (fun b hb => by cases hb), K03.mono fun b _ hb => .inl hb, hz23, hl3⟩, ?_⟩
  rintro _ _ h4 ⟨k, rfl, hk, vv4, bs4, hs4, ho4, K4, hz4, hl4⟩
  rw [asK_int]
  refine ae (fun hc => ?_) (fun hc => ?_)
  · have hkl : k < g.ps.length := by have := Qj hc; omega
    have hx := Q7 hkl
    generalize g.ps[k] = y at hx
    refine bm.rdS (hvp.aC bs4.cs.k).1 ic hx ?_
    refine ⟨rfl, CT y, aA (cs := pf y) rfl ?_⟩
    have hv5 := ah (h := h4) (o := .cells (pf y).toArray 32 (0, 0))
    have k5 := ar.push (S := fun _ => False) h4 (.cells (pf y).toArray 32 (0, 0))
    generalize h4.push (.cells (pf y).toArray 32 (0, 0)) = h5 at *
    refine lx hv5 (j := 0) (u := .string y.1) rfl ?_
    refine lx hv5 (j := 1) (u := .string y.2) rfl ?_
    rw [oneK_str, oneK_str]
    refine aa.use (tV (v := y) (by rw [Qp]; omega) at_ (bs4.more k5) (hs4.more k5)) ?_
    rintro _ h6 ⟨vv6, bs6, hs6, k6, ho6⟩
    have hz5 := k5.size
    have hz6 := k6.size
    have htk := aZ hx
    rw [asK_int, i64_in (by omega) (by omega)]
    refine ⟨⟨k + 1, by simp, by omega, vv6, ?_, ?_, fun b hb => ?_, ?_, by omega, ?_⟩, by simp; omega⟩
    · rw [htk, xf, MK]
      exact bs6
    · rw [htk, List.reverse_append]
      exact hs6
    · rcases ho6 b hb with e | e
      · exact ho4 b e
      · omega
    · refine (K4.trans (k5.mono fun _ _ hf => hf.elim)).cS (k6.mono fun b _ hh => ?_)
      rcases hh with e | e | e | e
      · exact .inl (.inl e)
      · exact .inl (.inr e)
      · exact .inr (by omega)
      · exact .inr (by have := ho4 b e; omega)
    · refine k6.get (k5.get hl4 id) ?_
      rintro (e | e | e | e)
      · exact hne e
      · omega
      · omega
      · have := ho4 _ e
        omega
  have hc := Qc hc
  obtain rfl : k = g.ps.length := by omega
  rw [Qo] at bs4 hs4
  have hf2Z := hf1Z hf1
  generalize (kpP at_ g.ps f1).2 = f2 at *
  refine lx hl4 (j := 3) rfl ?_
  by_cases h0f : f2.1 = 0
  rotate_left
  · rw [if_pos h0f]
    refine aa.use (Hn h0f bs4.cs hvb (pp _)) ?_
    rintro _ _ rfl
    refine ⟨_, lx' (j := 2) bs4.cs.c rfl, ?_⟩
    refine bm.sl bs4.own.dP fun _ _ => ?_
    refine ⟨fun h' => CS h0 C h' va M vv4 n f2 ∧ KC C h4 h', ae (fun hc => ?_) (fun hc => ?_), ?_⟩
    · refine aa.use (cn bs4.cs 8 at_) ?_
      rintro _ h5 ⟨cs5, k5⟩
      rw [sO h0f] at cs5
      exact ⟨cs5, k5⟩
    · exact ⟨bs4.cs, ar.refl _ _⟩
    rintro _ h5 ⟨cs5, k5⟩
    exact ⟨K4.trans (k5.mono fun b _ hb => .inl hb), h0f, vv4, n, cs5, bm.b8 bs4.own.dP⟩
  rw [if_neg (Z9 h0f)]
  obtain rfl := hf2Z h0f
  have henv : cy [(h1.size + 1, h1.size, g.ps.reverse)] = g.ps.reverse := by
    rw [iI]
    exact Z1 _
  refine aa.use (F8 ha (cc g.body + 1) g.body 1 (Qw _) hG h4 (h1.size + 1) h1.size g.ps.reverse [] g.ps n vv4 vb (by rw [henv]; exact fun v hv => hps v (List.mem_reverse.1 hv)) (by omega) hn0 (by omega) hvb bs4 hs4) ?_
  rintro _ h5 ⟨K5, hp⟩
  rw [henv] at hp
  have K05 : ar (fun b => b = C ∨ b = M) h h5 := K4.cS (K5.mono fun b _ hh => by
    rcases hh with e | e | e | e
    · exact .inl (.inl e)
    · exact .inl (.inr e)
    · exact .inr (by omega)
    · have := ho4 b e
      exact .inr (by omega))
  cases hr : gX ab g.body g.ps.reverse g.ps n with
  | error e =>
    rw [hr] at hp
    obtain ⟨hne', vv', m', cs', hsl⟩ := hp
    refine ⟨_, lx' (j := 2) cs'.c rfl, ?_⟩
    have hsl0 := hsl
    obtain ⟨a, l, c, rfl⟩ := hsl
    show ∃ J59 : Hp → Prop, _
    refine ⟨fun h' => CS h0 C h' va M (.slice a l c) m' e ∧ KC C h5 h', ae (fun hc => ?_) (fun hc => ?_), ?_⟩
    · refine aa.use (cn cs' 8 at_) ?_
      rintro _ h6 ⟨cs6, k6⟩
      rw [sO hne'] at cs6
      exact ⟨cs6, k6⟩
    · exact ⟨cs', ar.refl _ _⟩
    rintro _ h6 ⟨cs6, k6⟩
    exact ⟨K05.trans (k6.mono fun b _ hb => .inl hb), hne', _, m', cs6, hsl0⟩
  | ok q =>
    rw [hr] at hp
    obtain ⟨vv5, fr5, _, bs5, hs5, ho5⟩ := hp
    have ho5' : ∀ b, vv5.ownBlock = some b → h.size ≤ b := fun b hb => by
      rcases ho5 b hb with e | e
      · have := ho4 b e
        omega
      · omega
    refine ⟨_, lx' (j := 2) bs5.cs.c rfl, ?_⟩
    refine bm.sl bs5.own.dP fun _ _ => ?_
    show ∃ J59 : Hp → Prop, _
    refine ⟨fun h' => ar (fun b => b = C ∨ b = M) h h' ∧ match (if 30 < q.1.length then .error (8, at_) else .ok (q.1, q.2) : KR) with
      | .ok q => ∃ vv', BS h0 C h' va M vv' q.2 (0, 0) q.1 ∧ ∀ b, vv'.ownBlock = some b → h.size ≤ b
      | .error e => e.1 ≠ 0 ∧ ∃ vv' m', CS h0 C h' va M vv' m' e ∧ b8 vv', ae (fun hc => ?_) (fun hc => ?_), fun _ _ hh => hh⟩
    · have : 30 < q.1.length := by have := Qj hc; omega
      rw [if_pos this]
      refine aa.use (cn bs5.cs 8 at_) ?_
      rintro _ h6 ⟨cs6, k6⟩
      exact ⟨K05.trans (k6.mono fun b _ hb => .inl hb), (by decide : (8 : Int) ≠ 0), vv5, q.2, cs6, bm.b8 bs5.own.dP⟩
    · have : ¬ 30 < q.1.length := by have := Qc hc; omega
      rw [if_neg this]
      exact ⟨K05, vv5, bs5, ho5'⟩
end
theorem wj {h:Hp}:∀{l:List Sg} {us:List Value} (k:Nat),gS h l us→gS h (l.take k) (us.take (k*4))
 |_,us,0,_=>by
  rw [List.take_zero,Nat.zero_mul,List.take_zero];unfold gS;rfl
 |[],us,k+1,hs=>by
  unfold gS at hs;subst hs;rw [List.take_nil,List.take_nil];unfold gS;rfl
 |x::r,us,k+1,hs=>by
  unfold gS at hs;obtain ⟨h1,h2⟩:=hs;rw [List.take_succ_cons];unfold gS;rw [List.take_take,List.drop_take,show min 4 ((k+1)*4)=4 by omega,show (k+1)*4 - 4=k*4 by omega]
  exact ⟨h1,wj k h2⟩
theorem SgS.take {h:Hp}{a:Option Addr}{n c:Nat}{p:List Sg}(hs:SgS h (.slice a n c) p){i:Nat}(hi:i≤p.length)(hc:n≤c) :
  SgS h (.slice (if c=0 then a else Option.map (fun y=>Addr.add y (0*4)) a) i c) (p.take i):=by
 obtain ⟨us,⟨h1,hm⟩,h2⟩:=hs;have hn:n=p.length:=by
  rcases h1.2 with ⟨h0,a',c',hv⟩|⟨b,o,cap,hv,_⟩
  ·cases hv;exact h0.symm
  ·cases hv;rfl
 have hl:=List.length_take_of_le hi;refine ⟨us.take (i*4),⟨⟨?_,?_⟩,by omega⟩,wj i h2⟩
 ·have:=h1.1;rw [Qp,this,hl];omega
 ·rw [hl]
  by_cases hi0:i=0
  ·exact .inl ⟨hi0,_,_,by rw [hi0]⟩
  ·rcases h1.2 with ⟨h0,_⟩|⟨b,o,cap,hv,hcell⟩
   ·omega
   ·cases hv;refine .inr ⟨b,o,c,?_,fun j u hu=>hcell j u ?_⟩
    ·rw [if_neg (by omega)]
     simp [Addr.add]
    ·rw [Qh] at hu
     split at hu
     ·exact hu
     ·cases hu
def nO (g:Sg):Bool:=decide (g.nm=⟨#[109,97,105,110]⟩)&&(decide (g.ps.length=1)&&(match g.ps[0]? with|some q=>decide (q.2=⟨#[114,105]⟩)|none=>false))
abbrev VR:=Except (Int×Int) (List (List Vr))
def sI (p:List Sg):List Sg→Nat→List (List Vr)→Int→Bool→VR
 |[],_,out,_,beg=>if beg=true then .ok out else .error (13,-1)
 |g::r,i,out,n,beg=>match cd (p.take i) g (-2 - i) n with
  |.error e=>.error e
  |.ok q=>sI p r (i+1) (out++[q.1]) q.2 (beg||nO g)
theorem eE (p:List Sg)(g:Sg)(r:List Sg)(i:Nat)(out:List (List Vr))(n:Int)(beg:Bool):sI p (g::r) i out n beg=match cd (p.take i) g (-2 - i) n with
 |.error e=>.error e
 |.ok q=>sI p r (i+1) (out++[q.1]) q.2 (beg||nO g):=rfl
theorem D5 {h:Hp}{b:Nat}{va:Value}{M:Nat}{vv:Value}{n:Int}{f:Int×Int}{t:TypeId}{z:Nat×Nat}(hb:h[b]?=some (.cells (ckC va M vv n f).toArray t z)):aj h (Addr.add ⟨b,0,none⟩ 4) 2 (flt f.1 f.2):=by
 refine ⟨rfl,fun j u hu=>?_⟩;rw [aP,aP,bi hb]
 match j,hu with
 |0,hu=>exact hu
 |1,hu=>exact hu
 |j+2,hu=>cases hu
def de (p:List Sg):VR:=if (cI p).1≠0 then .error (cI p) else sI p p 0 [] 0 false
def VlO (h:Hp)(base:Nat)(v:Value)(l:List (List Vr))(us:List Value):Prop:=bX h base 55 1 v l.length us∧us.length=l.length∧∀(i:Nat) (bd:List Vr) (w:Value),l[i]?=some bd→us[i]?=some w→bX h base 56 2 w bd.length (bd.flatMap vrC)
theorem VlO.aC {h h':Hp}{base:Nat}{v:Value}{l:List (List Vr)}{us:List Value}(hv:VlO h base v l us)(k:KF h h'):VlO h' base v l us:=⟨hv.1.more k,hv.2.1,fun i bd w h1 h2=>(hv.2.2 i bd w h1 h2).more k⟩
theorem VlO.QB {h h':Hp}{base L:Nat}{v:Value}{l:List (List Vr)}{us:List Value}(hv:VlO h base v l us)(k:ar (fun b=>b=L) h h')(hL:L < base):VlO h' base v l us :=
 ⟨hv.1.aC fun b hb hlt=>k.block b hlt fun e=>by have e:b=L:=e;have:=(hv.1.lt b hb).1;omega,hv.2.1,fun i bd w h1 h2=>(hv.2.2 i bd w h1 h2).aC fun b hb hlt=>k.block b hlt fun e=>by have e:b=L:=e;have:=((hv.2.2 i bd w h1 h2).lt b hb).1;omega⟩
theorem VlO.base {h:Hp}{base base':Nat}{v:Value}{l:List (List Vr)}{us:List Value}(hv:VlO h base v l us)(hb:base'≤base):VlO h base' v l us :=
 ⟨hv.1.base hb,hv.2.1,fun i bd w h1 h2=>(hv.2.2 i bd w h1 h2).base hb⟩
def VRes (h h':Hp)(r:Value):VR→Prop
 |.error e=>e.1≠0∧r=.tuple #[.slice none 0 0,.agg (flt e.1 e.2).toArray]
 |.ok l=>∃v us,r=.tuple #[v,.agg (flt 0 0).toArray]∧VlO h' h.size v l us
theorem FN {ab:List Sg}{g:Sg}{a n:Int}{q:List Vr×Int}(h:cd ab g a n=.ok q):n≤q.2∧q.2≤n+cc g.body:=by
 unfold cd at h
 split at h
 ·cases h
 obtain ⟨b,m,h1,h2⟩:=dv h
 split at h2
 ·cases h2
 ·cases h2;exact (rb ab g.body h1).2
theorem Mo:rE Tryz.prog 50=some (55,1,24):=by kernel_rfl
def sgW (p:List Sg):Nat:=(p.map fun s=>cc s.body).sum
section
variable  {ω:Amb}
set_option maxHeartbeats 1600000 in
theorem tR (hω:ω.low=0)(p:List Sg)(hsm:Small p)(w:Value)(hcap:Ai w)(h:Hp)(hp:SgS h w p)(ht:fe h)(X:XT) :
  aa Tryz.prog ω 18 [.agg #[w]] h (fun r h'=>KF h h'∧VRes h h' r (de p)) X:=by
 refine zb ω _ h _ X ?_;unfold td jS bY;simp only [show Value.cells (.agg #[w])=[w].toArray from rfl,show (Obj.cells #[(.int .i64 0),(.int .i64 0)] 28 (0,0))=Obj.cells (flt 0 0).toArray 28 (0,0) from rfl]
 have hA:=ah (h:=h) (o:=.cells [w].toArray 24 (0,0));have k0:=ar.push (S:=fun _=>False) h (.cells [w].toArray 24 (0,0));have z0:(h.push (.cells [w].toArray 24 (0,0))).size=h.size+1:=by simp
 generalize h.push (.cells [w].toArray 24 (0,0))=h1 at *;have hF:=ah (h:=h1) (o:=.cells (flt 0 0).toArray 28 (0,0));have k1:=ar.push (S:=fun _=>False) h1 (.cells (flt 0 0).toArray 28 (0,0));generalize h1.push (.cells (flt 0 0).toArray 28 (0,0))=h2 at *;have hA:=k1.get hA id;have k02:=k0.trans k1;rw [z0] at *;refine ⟨_,ak hA rfl,?_⟩;refine aa.use (Fu hω p hsm (.agg #[w]) h2 ⟨w,rfl,hp.aC k02⟩ (ht.more k02)) ?_
 rintro _ h3 ⟨rfl,k3⟩;have hA:=k3.get hA id;have hF:=k3.get hF id;have k03:=k02.trans k3;rw [asA_agg];refine ⟨rfl,bu _ _,aA (cs:=flt (cI p).1 (cI p).2) rfl ?_⟩;have hf4:=ah (h:=h3) (o:=.cells (flt (cI p).1 (cI p).2).toArray 28 (0,0));have k4:=ar.push (S:=fun _=>False) h3 (.cells (flt (cI p).1 (cI p).2).toArray 28 (0,0));generalize h3.push (.cells (flt (cI p).1 (cI p).2).toArray 28 (0,0))=h4 at *;have hA:=k4.get hA id
 have hF:=k4.get hF id;have k04:=k03.trans k4;have z4:h.size+2≤h4.size:=by
  have:=gd hF;omega
 refine lx hf4 (j:=0) rfl ?_;rw [asK_int];unfold de;refine ae (fun hc=>?_) (fun hc=>?_)
 ·have hne:=Ze.1 hc;rw [if_pos hne];refine ⟨_,ak hf4 rfl,rfl,bu _ _,?_⟩;exact zd hF rfl rfl fun h' kk _=>⟨k04.cS (kk.mono fun b _ hb=>.inr (by have hb:b=h.size+1:=hb;omega)),hne,rfl⟩
 have hr0:(cI p).1=0:=by simpa using hc
 rw [if_neg (Z9 hr0)];obtain ⟨hPg,_,_⟩:=x3 hr0;refine lx hA (j:=0) rfl ?_;have hpmax:=SgS.max hp;have hlen:=hPg.len;refine (hp.aC k04).sl fun _ _=>?_;refine ⟨fun n out beg t h'=>∃(k:Nat) (l:List (List Vr)) (us:List Value) (m:Int) (b:Bool),t=.int .i64 k∧n=.int .i64 m∧beg=.bool b∧k≤p.length∧KF h4 h'∧VlO h' h4.size out l us∧l.length=k∧0≤m∧m+sgW (p.drop k)≤20000∧sI p p 0 [] 0 false=sI p (p.drop k) k l m b,fun _ _ _ t _=>match t with|.int _ k=>p.length - k.toNat|_=>0,
  ⟨0,[],[],0,false,rfl,rfl,rfl,by omega,ar.refl _ _,⟨bX.nil,rfl,fun i bd w h1=>by cases h1⟩,rfl,by omega,by have:=hsm.tot;show (0:Int)+sgW p≤20000;unfold sgW;omega,rfl⟩,?_⟩
 rintro _ out _ _ _ h5 ⟨k,l,us,m,b,rfl,rfl,rfl,hk,k5,hv5,hlk,hm0,hm,hgo⟩;have hA5:=k5.get hA id;have hF5:=k5.get hF id;rw [asK_int];refine ae (fun hc=>?_) (fun hc=>?_)
 rotate_left
 ·have hc:=Qc hc;obtain rfl:k=p.length:=by omega
  rw [Qt] at hgo;rw [asB_bool,hgo];unfold sI;cases b with
  |false =>
   refine cx rfl ?_;refine ⟨trivial,bu 13 (-1),?_⟩;exact zd (cs:=flt 13 (-1)) hF5 rfl rfl fun h' kk _=>⟨(k04.trans k5).cS (kk.mono fun b _ hb=>.inr (by have hb:b=h.size+1:=hb;omega)),(by decide:(13:Int)≠0),rfl⟩
  |true =>
   refine ba rfl ?_;refine ⟨trivial,bu 0 0,?_⟩;refine zd (cs:=flt 0 0) hF5 rfl rfl fun h' kk _=>⟨(k04.trans k5).cS (kk.mono fun b _ hb=>.inr (by have hb:b=h.size+1:=hb;omega)),out,us,rfl,(hv5.QB kk (by omega)).base (by omega)⟩
 have hkl:k < p.length:=by have:=Qj hc;omega
 have hx:=Q7 hkl;have hmem:p[k]∈p:=Qv hkl;have hdk:p.drop k=p[k]::p.drop (k+1):=Q4 hkl;generalize p[k]=g at hx hmem hdk;have hgO:=hPg.ok g hmem;have hW:sgW (p.drop k)=cc g.body+sgW (p.drop (k+1)):=by
  rw [hdk];unfold sgW;rw [List.map_cons,List.sum_cons]
 refine hp.zU (k04.trans k5) hx fun vp vb hvp hvb=>?_;refine ⟨rfl,lY (ew hvp.2) hvb.b8,aA (cs:=sgC g vp vb) rfl ?_⟩;have hg6:=ah (h:=h5) (o:=.cells (sgC g vp vb).toArray 41 (0,0));have k6:=ar.push (S:=fun _=>False) h5 (.cells (sgC g vp vb).toArray 41 (0,0));have z6:h5.size < (h5.push (.cells (sgC g vp vb).toArray 41 (0,0))).size:=by simp
 generalize h5.push (.cells (sgC g vp vb).toArray 41 (0,0))=h6 at *;refine lx (k6.get hA5 id) (j:=0) rfl ?_;have k06:=(k04.trans k5).trans k6;have hp6:=hp.aC k06;obtain ⟨a,nn,c,rfl⟩:=SgS.b8 hp6;have hnc:=hcap a nn c rfl;have hnn:nn=p.length:=by
  obtain ⟨us',⟨h1',_⟩,_⟩:=hp6;rcases h1'.2 with ⟨h0',a',c',hv'⟩|⟨b',o',cap',hv',_⟩
  ·cases hv';exact h0'.symm
  ·cases hv';rfl
 rw [asSl_sl];refine ⟨by decide,by omega,by omega,cP (CF _) ?_⟩
 rw [oneK_int];have hab:=SgS.take hp6 (i:=k) hk hnc;have k7:=(ar.push (S:=fun _=>False) h6 (.map #[] 0)).trans (ar.push (S:=fun _=>False) (h6.push (.map #[] 0)) (.cells (ckC (.slice (if c=0 then a else Option.map (fun y=>Addr.add y (0*4)) a) k c) h6.size (.slice none 0 0) m (0,0)).toArray 79 (0,0)))
 have hmn:=(qJ.new (h:=h6)).aC (ar.push (S:=fun _=>False) (h6.push (.map #[] 0)) (.cells (ckC (.slice (if c=0 then a else Option.map (fun y=>Addr.add y (0*4)) a) k c) h6.size (.slice none 0 0) m (0,0)).toArray 79 (0,0))) id
 have hC7:=ah (h:=h6.push (.map #[] 0)) (o:=.cells (ckC (.slice (if c=0 then a else Option.map (fun y=>Addr.add y (0*4)) a) k c) h6.size (.slice none 0 0) m (0,0)).toArray 79 (0,0))
 have zC:(h6.push (.map #[] 0)).size=h6.size+1:=by simp
 rw [zC] at hC7 ⊢;show ∃C34,aj ((h6.push (.map #[] 0)).push (.cells (ckC (.slice (if c=0 then a else Option.map (fun y=>Addr.add y (0*4)) a) k c) h6.size (.slice none 0 0) m (0,0)).toArray 79 (0,0))) _ 4 C34∧asK .i64 (.int .i64 k) fun n35=>aa _ _ _ _ ((h6.push (.map #[] 0)).push (.cells (ckC (.slice (if c=0 then a else Option.map (fun y=>Addr.add y (0*4)) a) k c) h6.size (.slice none 0 0) m (0,0)).toArray 79 (0,0))) _ _
 generalize (h6.push (.map #[] 0)).push (.cells (ckC (.slice (if c=0 then a else Option.map (fun y=>Addr.add y (0*4)) a) k c) h6.size (.slice none 0 0) m (0,0)).toArray 79 (0,0))=h8 at *
 have hg8:=k7.get hg6 id;refine ⟨_,ak hg8 rfl,?_⟩;rw [asK_int,i64_in (by omega) (by omega)]
 have bs8:BS h6 (h6.size+1) h8 (.slice (if c=0 then a else Option.map (fun y=>Addr.add y (0*4)) a) k c) h6.size (.slice none 0 0) m (0,0) []:=⟨⟨k7,by omega,hC7⟩,Zd _,bX.nil,_,hmn,fun s=>rfl⟩
 refine aa.use (DG hab g hgO.body (fun q hq=>Cd (hgO.ps q hq).2) (by have:=hgO.pl;omega) (by omega) (-2 - k) hm0 (by omega) (hvp.aC k06) (hvb.aC k06) bs8) ?_
 rintro _ h9 ⟨k9,hres⟩;have K69:KF h6 h9:=k7.cS (k9.mono fun b _ hh=>by
  rcases hh with e|e
  ·exact .inr (by omega)
  ·exact .inr (by omega))
 have K09:=k06.trans K69;rw [hdk,eE] at hgo;cases hr:cd (p.take k) g (-2 - k) m with
 |error e =>
  rw [hr] at hres hgo;obtain ⟨hne,vv',m',cs',_⟩:=hres;refine ⟨_,lx' (j:=4) cs'.c rfl,?_⟩;rw [asK_int];refine cx (Ze.2 hne) ?_;refine ⟨_,D5 cs'.c,rfl,bu _ _,?_⟩;have hF9:=K69.get (k6.get hF5 id) id;refine zd (cs:=flt e.1 e.2) hF9 rfl rfl fun h' kk _=>⟨K09.cS (kk.mono fun b _ hb=>.inr (by have hb:b=h.size+1:=hb;omega)),?_⟩
  rw [hgo];exact ⟨hne,rfl⟩
 |ok q =>
  have hq:=FN hr;rw [hr] at hres hgo;obtain ⟨vv',bs9,ho9⟩:=hres;refine ⟨_,lx' (j:=4) bs9.cs.c rfl,?_⟩;rw [asK_int];refine ba rfl ?_;refine ⟨_,lx' (j:=3) bs9.cs.c rfl,_,lx' (j:=2) bs9.cs.c rfl,?_⟩;refine cP (tX bs9.own) ?_;have hv9:=(hv5.aC k6).aC K69;have hz45:=k5.size;have hz69:=K69.size;refine dR (bt:=24) (cs:=[vv']) Mo hv9.1 rfl (fun u hu=>by rw [Qf.1 hu];exact tX bs9.own) (by omega) (by omega) (by omega) fun w2 h10 ho10 hg10 _ hown=>?_
  have k10:ar (fun b=>out.ownBlock=some b) h9 h10:=ar.grown hg10 fun b hb _=>hb;have hg10':=k10.get (K69.get hg6 id) fun e=>by have:=(hv5.1.lt _ e).2;omega
  have K410:KF h4 h10:=((k5.trans k6).trans K69).cS (k10.mono fun b _ e=>.inr (hv5.1.lt b e).1);have hvp10:=hvp.aC (k04.trans K410);refine ⟨fun u h'=>u=.bool (b||nO g)∧h10=h',?_,?_⟩
  ·rw [asB_bool];refine ae (fun hc=>?_) (fun hc=>?_)
   ·rw [hc];exact ⟨rfl,rfl⟩
   rw [hc,Za];unfold nO;refine lx hg10' (j:=0) rfl ?_;rw [asS_str,eqB];refine ae (fun hc=>?_) (fun hc=>?_)
   ·rw [hc,Zb];refine lx hg10' (j:=2) rfl ?_;refine bm.sl hvp10.1 fun _ _=>?_;refine ae (fun hc=>?_) (fun hc=>?_)
    ·have h1:g.ps.length=1:=by have:=Zg hc;omega
     rw [Z7 h1,Zb];have hp0:=Q7 (l:=g.ps) (i:=0) (by omega)
     generalize g.ps[0]=y at hp0;rw [hp0];refine lx hg10' (j:=2) rfl ?_;refine bm.rdT hvp10.1 ic hp0 (o:=1) (u:=.string y.2) rfl ?_;rw [asS_str,eqB];exact ⟨rfl,rfl⟩
    ·have h1:g.ps.length≠1:=fun h1=>by
      have:=Qa.1 hc;omega
     rw [Z0 h1];exact ⟨rfl,rfl⟩
   ·rw [hc];exact ⟨rfl,rfl⟩
  rintro _ _ _ ⟨rfl,rfl⟩;rw [asK_int,i64_in (by omega) (by omega)]
  refine ⟨⟨k+1,l++[q.1],us++[vv'],q.2,b||nO g,rfl,rfl,rfl,by omega,K410,⟨by rw [Qd];exact ho10,by rw [Qd,Qd,hv9.2.1];rfl,fun i bd wi h1 h2=>?_⟩,by rw [Qd,hlk];rfl,by omega,by omega,hgo⟩,by simp;omega⟩
  have hold:∀{bd:List Vr} {wi:Value},bX h9 h4.size 56 2 wi bd.length (bd.flatMap vrC)→bX h10 h4.size 56 2 wi bd.length (bd.flatMap vrC):=fun ho=>ho.Gb k10 (EA.own hv9.1) (by decide)
  rcases Nat.lt_or_ge i l.length with hi|hi
  ·rw [Q5 hi] at h1;rw [Q5 (by rw [hv9.2.1];exact hi)] at h2
   exact hold (hv9.2.2 i bd wi h1 h2)
  ·rw [Q2 hi] at h1;rw [Q2 (by rw [hv9.2.1];exact hi),hv9.2.1] at h2
   match hj:i - l.length,h1,h2 with
   |0,h1,h2 =>
    cases h1;cases h2;exact hold (bs9.own.base (by omega))
   |j+1,h1,h2=>cases h1
end
def gP:VR→Int×Int
 |.error e=>e
 |.ok _=>(0,0)
section
variable  {ω:Amb}
theorem Dy (hω:ω.low=0)(p:List Sg)(hsm:Small p)(w:Value)(hcap:Ai w)(h:Hp)(hp:SgS h w p)(ht:fe h)(X:XT) :
  aa Tryz.prog ω 10 [.agg #[w]] h (fun r h'=>KF h h'∧r=.agg (flt (gP (de p)).1 (gP (de p)).2).toArray) X:=by
 refine w9 ω _ h _ X ?_;unfold rJ ie eB;simp only [show Value.cells (.agg #[w])=[w].toArray from rfl,show (Obj.cells #[(.int .i64 0),(.int .i64 0)] 28 (0,0))=Obj.cells (flt 0 0).toArray 28 (0,0) from rfl]
 have hA:=ah (h:=h) (o:=.cells [w].toArray 24 (0,0));have k0:=ar.push (S:=fun _=>False) h (.cells [w].toArray 24 (0,0));have z0:(h.push (.cells [w].toArray 24 (0,0))).size=h.size+1:=by simp
 generalize h.push (.cells [w].toArray 24 (0,0))=h1 at *;have hF:=ah (h:=h1) (o:=.cells (flt 0 0).toArray 28 (0,0));have k1:=ar.push (S:=fun _=>False) h1 (.cells (flt 0 0).toArray 28 (0,0));generalize h1.push (.cells (flt 0 0).toArray 28 (0,0))=h2 at *;have hA:=k1.get hA id;have k02:=k0.trans k1;refine ⟨_,ak hA rfl,?_⟩;refine aa.use (tR hω p hsm w hcap h2 (hp.aC k02) (ht.more k02)) ?_;rintro _ h3 ⟨k3,hres⟩
 have hF:=k3.get hF id;have fin:∀(v:Value) (e:Int×Int),gP (de p)=e →
   (asT (.tuple #[v,.agg (flt e.1 e.2).toArray]) fun T3=>asO T3[0]? fun v4=>asT (.tuple #[v,.agg (flt e.1 e.2).toArray]) fun T5=>asO T5[1]? fun v6=>asA v6 fun A7=>A7.size=2∧(∀u∈A7.toList,one u)∧av (h3.push (.cells (flt 0 0).toArray 28 (0,0))) ⟨h3.size,0,none⟩ A7.toList fun h8 =>
    ∃C9,aj h8 ⟨h3.size,0,none⟩ 2 C9∧C9.toArray.size=2∧(∀u∈C9.toArray.toList,one u)∧av h8 ⟨h1.size,0,none⟩ C9.toArray.toList fun h10 =>
    ∃C11,aj h10 ⟨h1.size,0,none⟩ 2 C11∧KF h h10∧(.agg C11.toArray:Value)=.agg (flt (gP (de p)).1 (gP (de p)).2).toArray):=by
  rintro v e he;rw [IJ,asA_agg,he];refine ⟨rfl,bu _ _,aA (cs:=flt e.1 e.2) rfl ?_⟩;have hf4:=ah (h:=h3) (o:=.cells (flt e.1 e.2).toArray 28 (0,0));have k4:=ar.push (S:=fun _=>False) h3 (.cells (flt e.1 e.2).toArray 28 (0,0));generalize h3.push (.cells (flt e.1 e.2).toArray 28 (0,0))=h4 at *;refine ⟨_,ak hf4 rfl,rfl,bu _ _,?_⟩;exact zd (cs:=flt e.1 e.2) (k4.get hF id) rfl rfl fun h' kk _=>⟨((k02.trans k3).trans k4).cS (kk.mono fun b _ hb=>.inr (by have hb:b=h1.size:=hb;omega)),rfl⟩
 cases hk:de p with
 |error e =>
  rw [hk] at hres;obtain ⟨_,rfl⟩:=hres;have:=fin (.slice none 0 0) e (by rw [hk];rfl)
  rw [hk] at this;exact this
 |ok l =>
  rw [hk] at hres;obtain ⟨v,us,rfl,_⟩:=hres;have:=fin v (0,0) (by rw [hk];rfl)
  rw [hk] at this;exact this
end
end Go.Proofs.YtkeeboomikkojaaGreatDoor
