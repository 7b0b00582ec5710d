import Derived.Test.YtkeeboomikkojaaGreatDoorWb
namespace Go.Proofs.YtkeeboomikkojaaGreatDoor
open Go Go.Sx Go.Sx.Tk Go.Sx.Rn Go.Proofs.YtkeeboomikkojaaGreatDoor.Sx
abbrev Nm:=ByteArray→ByteArray
def rnV (σ:Nm)(l:List Vr):List Vr:=l.map fun v=>(σ v.1,v.2)
mutual
def rnE (σ:Nm):Ex→Ex
 |.mk op nm n l=>.mk op (if op=2 then σ nm else nm) n (oK σ l)
def oK (σ:Nm):List Ex→List Ex
 |[]=>[]
 |x::r=>rnE σ x::oK σ r
end
mutual
def rnS (σ:Nm):St→St
 |.mk d at_ a b t n e body els=>.mk d at_ (if d=10 then a else σ a) (σ b) t n (oK σ e) (ql σ body) (ql σ els)
def ql (σ:Nm):List St→List St
 |[]=>[]
 |x::r=>rnS σ x::ql σ r
end
theorem tH (σ:Nm):∀l:List Ex,oK σ l=l.map (rnE σ)
 |[]=>by unfold oK;rfl
 |x::r=>by unfold oK;rw [tH σ r];rfl
theorem Cc (σ:Nm):∀l:List St,ql σ l=l.map (rnS σ)
 |[]=>by unfold ql;rfl
 |x::r=>by unfold ql;rw [Cc σ r];rfl
theorem tS (σ:Nm)(x:St):(rnS σ x).d=x.d∧(rnS σ x).a=(if x.d=10 then x.a else σ x.a)∧(rnS σ x).b=σ x.b∧(rnS σ x).t=x.t∧(rnS σ x).n=x.n∧(rnS σ x).e=oK σ x.e∧(rnS σ x).body=ql σ x.body∧(rnS σ x).els=ql σ x.els∧(rnS σ x).at_=x.at_:=by
 cases x;exact ⟨rfl,rfl,rfl,rfl,rfl,rfl,rfl,rfl,rfl⟩
theorem G5 (σ:Nm)(x:Ex):(rnE σ x).op=x.op∧(rnE σ x).nm=(if x.op=2 then σ x.nm else x.nm)∧(rnE σ x).n=x.n∧(rnE σ x).l=oK σ x.l:=by
 cases x;exact ⟨rfl,rfl,rfl,rfl⟩
mutual
theorem OT:∀x:Ex,rnE id x=x
 |.mk op nm n l=>by
  unfold rnE;rw [BH l];show Ex.mk op (if op=2 then nm else nm) n l=_
  rw [ite_self]
theorem BH:∀l:List Ex,oK id l=l
 |[]=>by unfold oK;rfl
 |x::r=>by unfold oK;rw [OT x,BH r]
end
mutual
theorem NC:∀x:St,rnS id x=x
 |.mk d at_ a b t n e body els=>by
  unfold rnS;rw [BH e,wR body,wR els];show St.mk d at_ (if d=10 then a else a) b t n e body els=_
  rw [ite_self]
theorem wR:∀l:List St,ql id l=l
 |[]=>by unfold ql;rfl
 |x::r=>by unfold ql;rw [NC x,wR r]
end
theorem Gw (l:List Vr):rnV id l=l:=by
 unfold rnV;exact List.map_id' l
def uV (σ:Nm)(B:List Vr):Prop:=∀u∈B,∀v∈B,σ u.1=σ v.1→u.1=v.1
def InB (l B:List Vr):Prop:=∀v∈l,v.1∈B.map (·.1)
theorem uV.at {σ:Nm}{B:List Vr}(h:uV σ B){s t:ByteArray}(hs:s∈B.map (·.1))(ht:t∈B.map (·.1))(he:σ s=σ t):s=t:=by
 obtain ⟨u,hu,rfl⟩:=List.mem_map.1 hs;obtain ⟨v,hv,rfl⟩:=List.mem_map.1 ht;exact h u hu v hv he
theorem Hx (B:List Vr):uV id B:=fun _ _ _ _ h=>h
theorem InB.app {l m B:List Vr}(h:InB l B)(k:InB m B):InB (l++m) B:=fun v hv=>(Z3.1 hv).elim (h v) (k v)
theorem InB.rev {l B:List Vr}(h:InB l B):InB l.reverse B:=fun v hv=>h v (List.mem_reverse.1 hv)
theorem InB.sub {l B:List Vr}(h:∀v∈l,v∈B):InB l B:=fun v hv=>List.mem_map_of_mem (h v hv)
theorem w4 (σ:Nm)(a b:List Vr):rnV σ (a++b)=rnV σ a++rnV σ b:=by unfold rnV;rw [List.map_append]
theorem AG (σ:Nm)(a:List Vr):(rnV σ a).reverse=rnV σ a.reverse:=by unfold rnV;rw [List.map_reverse]
theorem uM (σ:Nm)(a:List Vr):(rnV σ a).length=a.length:=by unfold rnV;rw [Z6]
theorem Fe {σ:Nm}{B l:List Vr}(hi:uV σ B)(hl:InB l B){s:ByteArray}(hs:s∈B.map (·.1))(h:rp l s=0):rp (rnV σ l) (σ s)=0:=by
 refine Kp fun v hv e=>?_;obtain ⟨u,hu,rfl⟩:=List.mem_map.1 hv;have h1:=hi.at (hl u hu) hs e;have h2:u∈l.filter fun w=>decide (w.1=s):=List.mem_filter.2 ⟨hu,Z7 h1⟩;have:=List.length_pos_of_mem h2;unfold rp at h;omega
theorem Cq {σ:Nm}{B:List Vr}(hi:uV σ B){s t:ByteArray}:∀{l:List Vr},InB l B→fR l s=some t→fR (rnV σ l) (σ s)=some t
 |[],_,h=>by cases h
 |v::r,hl,h=>by
  have hv:=hl v Qg;unfold fR at h ⊢;show Option.map (fun u:Vr=>u.2) (List.find? (fun u=>decide (u.1=σ s)) ((σ v.1,v.2)::rnV σ r))=some t;rw [List.find?_cons] at h ⊢
  by_cases hs:v.1=s
  ·rw [Z7 hs] at h;rw [show decide ((σ v.1,v.2).1=σ s)=true from Z7 (congrArg σ hs)]
   exact h
  ·rw [Z0 hs] at h;have hk:fR r s=some t:=h;obtain ⟨w,hw,hws,_⟩:=rN hk;have hsB:s∈B.map (·.1):=by
    rw [←hws];exact hl w (Q9 _ hw)
   have hne:¬σ v.1=σ s:=fun e=>hs (hi.at hv hsB e);rw [show decide ((σ v.1,v.2).1=σ s)=false from Z0 hne]
   exact Cq hi (fun u hu=>hl u (Q9 _ hu)) hk
theorem te {c:Int}(hc:c≠0)(m:Int):(kfl (0,0) c m).1≠0:=by
 unfold kfl;rw [if_pos rfl];exact hc
theorem xG {σ:Nm}{B env:List Vr}(hi:uV σ B)(hl:InB env B){nm bg:ByteArray}{m:Int}(h:(jA env nm bg m (0,0)).2.1=0)(m2:Int):jA (rnV σ env) (σ nm) bg m2 (0,0)=jA env nm bg m (0,0)∧(jA env nm bg m (0,0)).2=(0,0):=by
 cases hk:fR env nm with
 |none =>
  rw [kH hk] at h;exact absurd h (te (by decide) m)
 |some t =>
  rw [iU hk] at h ⊢;rw [iU (Cq hi hl hk)]
  split at h
  ·rename_i hh;exact ⟨by rw [if_pos hh,if_pos hh],by rw [if_pos hh]⟩
  ·exact absurd h (te (by decide) m)
mutual
theorem yp {σ:Nm}{B env:List Vr}(hi:uV σ B)(hl:InB env B)(m m2:Int):∀(x:Ex),(u6 env m x (0,0)).1=0→u6 (rnV σ env) m2 (rnE σ x) (0,0)=(0,0)
 |.mk op nm n l,h=>by
  have hH:(nt env m (.mk op nm n l) (0,0)).1=0:=by
   refine Q3 fun hne=>?_;rw [uP,(show jo env m (Ex.mk op nm n l).l (nt env m (.mk op nm n l) (0,0))=nt env m (.mk op nm n l) (0,0) from (xz hne env m).2 _)] at h
   exact hne h
  have hH0:nt env m (.mk op nm n l) (0,0)=(0,0):=GY Zf0 _ _ _ hH;rw [uP,hH0] at h;have hH2:nt (rnV σ env) m2 (rnE σ (.mk op nm n l)) (0,0)=(0,0):=by
   unfold nt at hH0 ⊢;obtain ⟨r1,r2,_,_⟩:=G5 σ (.mk op nm n l);rw [r1,r2]
   by_cases h2:(Ex.mk op nm n l).op=2
   ·rw [if_pos h2] at hH0 ⊢;rw [if_pos h2];have:=(xG hi hl (by rw [hH0]) m2).1
    rw [this];exact hH0
   ·rw [if_neg h2]
  rw [uP,(G5 σ _).2.2.2,hH2];exact BW hi hl m m2 l h
theorem BW {σ:Nm}{B env:List Vr}(hi:uV σ B)(hl:InB env B)(m m2:Int):∀(l:List Ex),(jo env m l (0,0)).1=0→jo (rnV σ env) m2 (oK σ l) (0,0)=(0,0)
 |[],_=>by
  unfold oK jo;rfl
 |x::r,h=>by
  have hx:(u6 env m x (0,0)).1=0:=by
   refine Q3 fun hne=>?_;rw [show jo env m (x::r) (0,0)=jo env m r (u6 env m x (0,0)) from rfl,(xz hne env m).2 r] at h
   exact hne h
  have hx0:u6 env m x (0,0)=(0,0):=zi _ _ _ Zf0 hx;rw [show jo env m (x::r) (0,0)=jo env m r (u6 env m x (0,0)) from rfl,hx0] at h
  unfold oK;show jo (rnV σ env) m2 (oK σ r) (u6 (rnV σ env) m2 (rnE σ x) (0,0))=_;rw [yp hi hl m m2 x hx];exact BW hi hl m m2 r h
end
theorem yL {σ:Nm}{B env:List Vr}(hi:uV σ B)(hl:InB env B)(m m2:Int)(x:Ex)(t:ByteArray)(h:(fg env m x t (0,0)).1=0):fg (rnV σ env) m2 (rnE σ x) t (0,0)=(0,0):=by
 unfold fg at h ⊢;obtain ⟨r1,r2,_,_⟩:=G5 σ x;rw [r1,r2]
 by_cases ht:t=iB
 ·rw [if_pos ht] at h ⊢;exact yp hi hl m m2 x h
 rw [if_neg ht] at h ⊢
 by_cases hop:x.op≠2
 ·rw [if_pos hop] at h;exact absurd h (te (by decide) m)
 rw [if_neg hop] at h;have hop2:x.op=2:=Q3 hop;rw [if_neg hop,if_pos hop2];have hk:(jA env x.nm e0 m (0,0)).2.1=0:=by
  refine Q3 fun hne=>?_
  split at h
  ·rw [sO hne] at h;exact hne h
  ·exact hne h
 obtain ⟨e1,e2⟩:=xG hi hl hk m2;rw [e1];rw [e2] at h ⊢
 split at h
 ·exact absurd h (te (by decide) m)
 ·rename_i hh;rw [if_neg hh]
theorem D2 {f:Int×Int}(hf:f.1≠0)(env:List Vr)(m:Int)(x:Ex)(t:ByteArray):fg env m x t f=f:=by
 unfold fg
 split
 ·exact (xz hf env m).1 x
 split
 ·exact sO hf _ _
 rw [Bv hf]
 split
 ·exact sO hf _ _
 ·rfl
theorem Ah (env:List Vr)(m:Int):∀(l:List (Ex×(ByteArray×ByteArray))) {f:Int×Int},f.1≠0→jm env m l f=f
 |[],_,_=>rfl
 |q::r,f,hf=>by
  show jm env m r (fg env m q.1 q.2.2 f)=f;rw [D2 hf];exact Ah env m r hf
theorem B4 {σ:Nm}{B env:List Vr}(hi:uV σ B)(hl:InB env B)(m m2:Int):∀(l:List Ex) (ps:List (ByteArray×ByteArray)),(jm env m (l.zip ps) (0,0)).1=0→jm (rnV σ env) m2 ((oK σ l).zip ps) (0,0)=(0,0)
 |[],_,_=>by
  unfold oK;rfl
 |x::r,[],_=>by
  unfold oK;rfl
 |x::r,q::ps,h=>by
  have h:(jm env m (r.zip ps) (fg env m x q.2 (0,0))).1=0:=h;have hx:(fg env m x q.2 (0,0)).1=0:=by
   refine Q3 fun hne=>?_;rw [Ah env m _ hne] at h;exact hne h
  rw [xC Zf0 env m x q.2 hx] at h;unfold oK;show jm (rnV σ env) m2 ((oK σ r).zip ps) (fg (rnV σ env) m2 (rnE σ x) q.2 (0,0))=_;rw [yL hi hl m m2 x q.2 hx];exact B4 hi hl m m2 r ps h
theorem Jl (σ:Nm)(l:List Ex):(oK σ l).length=l.length:=by rw [tH,Z6]
theorem Ob (σ:Nm)(l:List Ex):(oK σ l)[0]?=(l[0]?).map (rnE σ):=by rw [tH,List.getElem?_map]
theorem E8 {σ:Nm}{B env:List Vr}(hi:uV σ B)(hl:InB env B)(ab:List Sg)(m m2:Int)(x:St)(hd:x.d=10)(h:(kV ab env m x (0,0)).1=0):kV ab (rnV σ env) m2 (rnS σ x) (0,0)=(0,0):=by
 obtain ⟨_,r2,_,_,_,r6,_⟩:=tS σ x;unfold kV at h ⊢;rw [r2,r6,if_pos hd];cases hf:ab.find? fun g=>decide (g.nm=x.a) with
 |none =>
  rw [hf] at h;exact absurd h (te (by decide) m)
 |some g =>
  rw [hf] at h;have h:(if g.ps.length≠x.e.length then kfl (0,0) 15 m else jm env m (x.e.zip g.ps) (0,0)).1=0:=h
  show (if g.ps.length≠(oK σ x.e).length then kfl (0,0) 15 m2 else jm (rnV σ env) m2 ((oK σ x.e).zip g.ps) (0,0))=(0,0)
  rw [Jl]
  split at h
  ·exact absurd h (te (by decide) m)
  ·rename_i hh;rw [if_neg hh];exact B4 hi hl m m2 _ _ h
theorem Ji {σ:Nm}{B env:List Vr}(hi:uV σ B)(hl:InB env B)(ab:List Sg)(m m2:Int)(x:St)(of:ByteArray)(h:(qB ab env m x of (0,0)).1=0):qB ab (rnV σ env) m2 (rnS σ x) of (0,0)=(0,0):=by
 obtain ⟨r1,r2,_,r4,r5,r6,_⟩:=tS σ x;have h0:=Ob σ x.e;unfold qB at h ⊢;rw [r1,r2,r4,r5,r6,h0]
 by_cases h2:x.d=2
 ·rw [if_pos h2] at h ⊢;rw [if_neg (by omega)]
  cases he:x.e[0]? with
  |none=>rfl
  |some y =>
   rw [he] at h;have h:(u6 env m y (jA env x.a iB m (0,0)).2).1=0:=h;show u6 (rnV σ env) m2 (rnE σ y) (jA (rnV σ env) (σ x.a) iB m2 (0,0)).2=(0,0);have hk:(jA env x.a iB m (0,0)).2.1=0:=by
    refine Q3 fun hne=>?_;rw [(xz hne env m).1 y] at h;exact hne h
   obtain ⟨e1,e2⟩:=xG hi hl hk m2;rw [e2] at h;rw [e1,e2];exact yp hi hl m m2 y h
 rw [if_neg h2] at h ⊢
 by_cases h3:x.d=1∨x.d=3∨x.d=13∨x.d=14
 ·rw [if_pos h3] at h ⊢;cases he:x.e[0]? with
  |none=>rfl
  |some y =>
   rw [he] at h;exact yp hi hl m m2 y h
 rw [if_neg h3] at h ⊢
 by_cases h6:x.d=6
 ·rw [if_pos h6] at h ⊢;cases he:x.e[0]? with
  |none=>rfl
  |some y =>
   rw [he] at h;exact yL hi hl m m2 y of h
 rw [if_neg h6] at h ⊢
 by_cases h10:x.d=10
 ·rw [if_pos h10] at h ⊢;exact E8 hi hl ab m m2 x h10 h
 rw [if_neg h10] at h ⊢
 by_cases h4:x.d=4
 ·rw [if_pos h4] at h ⊢
  by_cases ht:3 < x.t.size
  ·rw [if_pos ht] at h;exfalso
   revert h
   show ¬_;unfold kfl
   split<;>(split<;>simp_all)
  ·rw [if_neg ht] at h ⊢
   by_cases hn:x.n < 1∨5 < x.n
   ·rw [if_pos hn] at h;exact absurd h (te (by decide) m)
   ·rw [if_neg hn]
 ·rw [if_neg h4]
theorem JB (σ:Nm)(x:St):iH (rnS σ x)=(iH x).map fun q=>(σ q.1,q.2):=by
 obtain ⟨r1,r2,r3,_⟩:=tS σ x;unfold iH;rw [r1,r2,r3]
 by_cases h5:x.d=5
 ·rw [if_pos h5,if_pos h5];rfl
 rw [if_neg h5,if_neg h5]
 by_cases h6:x.d=6∨x.d=7
 ·rw [if_pos h6,if_pos h6,if_neg (by omega)]
  rfl
 rw [if_neg h6,if_neg h6]
 by_cases h8:x.d=8∨x.d=9
 ·rw [if_pos h8,if_pos h8,if_neg (by omega)]
  rfl
 rw [if_neg h8,if_neg h8]
 by_cases h11:x.d=11∨x.d=12
 ·rw [if_pos h11,if_pos h11];rfl
 rw [if_neg h11,if_neg h11];rfl
theorem LR {σ:Nm}{B env:List Vr}(hi:uV σ B)(hl:InB env B)(m m2:Int)(x:St)(h:(sZ env m x (0,0)).2.1=0):sZ (rnV σ env) m2 (rnS σ x) (0,0)=sZ env m x (0,0)∧(sZ env m x (0,0)).2=(0,0):=by
 unfold sZ at h ⊢;rw [JB];cases hN:iH x with
 |none=>exact ⟨rfl,rfl⟩
 |some q =>
  rw [hN] at h;have h:(jA env q.1 q.2 m (0,0)).2.1=0:=h;obtain ⟨e1,e2⟩:=xG hi hl h m2;refine ⟨?_,e2⟩;show (if (jA (rnV σ env) (σ q.1) q.2 m2 (0,0)).1=e0∨(rnS σ x).d=5 then _ else _,_)=(if (jA env q.1 q.2 m (0,0)).1=e0∨x.d=5 then _ else _,_)
  rw [e1,(tS σ x).1]
theorem BN {σ:Nm}{B env:List Vr}(hi:uV σ B)(hl:InB env B)(ab:List Sg)(m m2:Int)(x:St)(h:(gE ab env m x (0,0)).2.1=0):gE ab (rnV σ env) m2 (rnS σ x) (0,0)=gE ab env m x (0,0)∧(gE ab env m x (0,0)).2=(0,0):=by
 have hz:=Hf Zf0 ab env m x h;refine ⟨?_,hz⟩;have hk:(sZ env m x (0,0)).2.1=0:=by
  refine Q3 fun hne=>?_;unfold gE at h;rw [if_pos hne] at h;exact hne h
 obtain ⟨e1,e2⟩:=LR hi hl m m2 x hk;unfold gE at hz ⊢;rw [e1];rw [if_neg (Z9 hk)] at hz ⊢;rw [if_neg (Z9 hk)];have hz:qB ab env m x (sZ env m x (0,0)).1 (sZ env m x (0,0)).2=(0,0):=hz;rw [e2] at hz ⊢;rw [hz,Ji hi hl ab m m2 x _ (by rw [hz])]
theorem uw (σ:Nm)(x:St)(of:ByteArray):bc (rnS σ x) of=rnV σ (bc x of):=by
 obtain ⟨r1,r2,r3,r4,_⟩:=tS σ x;unfold bc;rw [r1,r2,r3,r4]
 by_cases h1:x.d=1
 ·rw [if_pos h1,if_pos h1,if_neg (by omega)]
  rfl
 rw [if_neg h1,if_neg h1]
 by_cases h4:x.d=4
 ·rw [if_pos h4,if_pos h4,if_neg (by omega)]
  rfl
 rw [if_neg h4,if_neg h4]
 by_cases h5:x.d=5∨x.d=11∨x.d=12
 ·rw [if_pos h5,if_pos h5,if_neg (by omega)]
  rfl
 rw [if_neg h5,if_neg h5];rfl
theorem Hz {σ:Nm}{B bd:List Vr}(hi:uV σ B)(hb:InB bd B){x:St}(hx:InB (bc x e0) B)(h:gL bd x=false):gL (rnV σ bd) (rnS σ x)=false:=by
 unfold gL at h ⊢;rw [uw];rw [List.any_eq_false] at h ⊢;intro v hv;obtain ⟨u,hu,rfl⟩:=List.mem_map.1 hv;have h1:=h u hu;unfold ktw at h1 ⊢;rw [Bool.or_eq_true,not_or] at h1 ⊢;obtain ⟨h2,h3⟩:=h1;have h2:¬0 < rp bd u.1:=by simpa using h2
 have h5:=yt bd u.1;refine ⟨?_,?_⟩
 ·rw [Fe hi hb (hx u hu) (show rp bd u.1=0 by omega)]
  decide
 ·obtain ⟨r1,r2,r3,_⟩:=tS σ x;rw [r1,r2,r3];intro hh;rw [Qq] at hh;have hd:=Qj hh.1;have he:=Qj hh.2;rw [if_neg (by omega)] at he
  have hab:InB [(x.a,sB++x.t),(x.b,rB++x.t)] B:=by
   have hk:bc x e0=[(x.a,sB++x.t),(x.b,rB++x.t)]:=by unfold bc;rw [if_neg (by omega),if_pos hd]
   rw [←hk];exact hx
  have:=hi.at (hab (x.a,sB++x.t) (by simp)) (hab (x.b,rB++x.t) (by simp)) he
  apply h3;rw [Qq];exact ⟨Z7 hd,Z7 this⟩
theorem He {x:St}{of:ByteArray}{B:List Vr}(h:InB (bc x of) B)(og:ByteArray):InB (bc x og) B:=by
 intro v hv;have h1:v.1∈(bc x og).map (·.1):=List.mem_map_of_mem hv;rw [uz x og,←uz x of] at h1;obtain ⟨w,hw,hwv⟩:=List.mem_map.1 h1;rw [←hwv];exact h w hw
theorem Hm {σ:Nm}{B env:List Vr}(hi:uV σ B)(hl:InB env B)(ab:List Sg)(m m2:Int)(x:St)(h:(kuf ab env m x).1=0):tt ab (rnV σ env) m2 (rnS σ x)=rnV σ (tt ab env m x)∧kof ab (rnV σ env) m2 (rnS σ x)=kof ab env m x:=by
 have e1:kof ab (rnV σ env) m2 (rnS σ x)=kof ab env m x:=by
  unfold kof;rw [(BN hi hl ab m m2 x h).1]
 refine ⟨?_,e1⟩;unfold tt;rw [e1,uw,(tS σ x).1]
 split
 ·rfl
 ·rw [AG]
mutual
theorem NX {σ:Nm}{B:List Vr}(hi:uV σ B)(ab:List Sg):∀(x:St) {env bd:List Vr} {m:Int} {q:List Vr×Int},kst ab x env bd m=.ok q→InB env B→InB q.1 B→∀m2,kst ab (rnS σ x) (rnV σ env) (rnV σ bd) m2=.ok (rnV σ q.1,m2+(q.2 - m))
 |.mk d at_ a b t n e body els,env,bd,m,q,h,hl,hq,m2=>by
  obtain ⟨htw,hkf⟩:=Cz h;rw [xM htw hkf] at h;obtain ⟨b1,m1,h1,h2⟩:=dv h;obtain ⟨t1,e1⟩:=eL ab _ h1;obtain ⟨t2,e2⟩:=eL ab _ h2;have e1:b1=_:=e1;have hqb:InB bd B:=fun v hv=>hq v (by rw [e2,e1];simp [hv])
  have hqk:InB (bc (.mk d at_ a b t n e body els) (kof ab env m (.mk d at_ a b t n e body els))) B:=fun v hv=>hq v (by rw [e2,e1];simp [hv])
  have hq1:InB b1 B:=fun v hv=>hq v (by rw [e2];simp [hv])
  obtain ⟨o1,o2⟩:=Hm hi hl ab m m2 (.mk d at_ a b t n e body els) hkf;have htw2:=Hz hi hqb (He hqk e0) htw;have hkf2:(kuf ab (rnV σ env) m2 (rnS σ (.mk d at_ a b t n e body els))).1=0:=by
   unfold kuf at hkf ⊢;rw [(BN hi hl ab m m2 _ hkf).1];exact hkf
  rw [xM htw2 hkf2,o1,o2,uw,AG,←w4,←w4,←w4];have g1:=ud hi ab body h1 (hqk.rev.app hl) hq1 (m2+1);have hlo:InB (tt ab env m (.mk d at_ a b t n e body els)++env) B:=by
   refine InB.app ?_ hl;unfold tt
   split
   ·exact fun v hv=>by cases hv
   ·exact hqk.rev
  have g2:=ud hi ab els h2 hlo hq (m2+1+(m1 - (m+1)));show vc (gX ab (ql σ body) _ _ (m2+1)) _=_;rw [g1];show gX ab (ql σ els) _ _ _=_;rw [g2]
  congr 2
  omega
theorem ud {σ:Nm}{B:List Vr}(hi:uV σ B)(ab:List Sg):∀(l:List St) {env bd:List Vr} {m:Int} {q:List Vr×Int},gX ab l env bd m=.ok q→InB env B→InB q.1 B→∀m2,gX ab (ql σ l) (rnV σ env) (rnV σ bd) m2=.ok (rnV σ q.1,m2+(q.2 - m))
 |[],env,bd,m,q,h,hl,hq,m2=>by
  unfold gX at h;cases h;unfold ql gX
  congr 2
  show m2=m2+(m - m);omega
 |x::r,env,bd,m,q,h,hl,hq,m2=>by
  rw [dK] at h;obtain ⟨b1,m1,h1,h2⟩:=dv h;obtain ⟨t2,e2⟩:=eL ab _ h2;have hq1:InB b1 B:=fun v hv=>hq v (by rw [e2];simp [hv])
  obtain ⟨htw,hkf⟩:=Cz h1;have g1:=NX hi ab x h1 hl hq1 m2;have hqk:InB (bc x (kof ab env m x)) B:=by
   have h1':=h1;rw [xM htw hkf] at h1';obtain ⟨b9,m9,k1,k2⟩:=dv h1';obtain ⟨s1,u1⟩:=eL ab _ k1;obtain ⟨s2,u2⟩:=eL ab _ k2;have u1:b9=_:=u1;have u2:b1=_:=u2;exact fun v hv=>hq1 v (by rw [u2,u1];simp [hv])
  have hlo:InB (tt ab env m x++env) B:=by
   refine InB.app ?_ hl;unfold tt
   split
   ·exact fun v hv=>by cases hv
   ·exact hqk.rev
  unfold ql;rw [dK,g1];show gX ab (ql σ r) _ _ _=_;rw [(Hm hi hl ab m m2 x hkf).1,←w4,ud hi ab r h2 hlo hq]
  congr 2
  show m2+(m1 - m)+(q.2 - m1)=_;omega
end
abbrev zzB:ByteArray:=⟨#[122,122,122]⟩
theorem tJ {p:List Sg}{l:List (List Vr)}(h:de p=.ok l):(cI p).1=0∧sI p p 0 [] 0 false=.ok l:=by
 unfold de at h
 split at h
 ·cases h
 ·rename_i h1;exact ⟨by simpa using h1,h⟩
theorem Js {p:List Sg}(h:(cI p).1=0):de p=sI p p 0 [] 0 false:=by
 unfold de;rw [if_neg (Z9 h)]
theorem CP {ab:List Sg}{g:Sg}{at_ n:Int}{q:List Vr×Int}(h:cd ab g at_ n=.ok q)(n2:Int):cd ab g at_ n2=.ok (q.1,n2+(q.2 - n)):=by
 unfold cd at h ⊢
 split at h
 ·cases h
 ·rename_i h1;rw [if_neg h1];obtain ⟨b1,m1,h2,h3⟩:=dv h
  split at h3
  ·cases h3
  ·rename_i h4;cases h3;have hB:∀v∈g.ps.reverse,v∈b1:=fun v hv=>by
    obtain ⟨t,e⟩:=eL ab g.body h2;have e:b1=_:=e;rw [e];exact List.mem_append_left _ (List.mem_reverse.1 hv)
   have:=ud (Hx b1) ab g.body h2 (InB.sub hB) (InB.sub fun v hv=>hv) n2;rw [wR,Gw,Gw,Gw] at this;rw [this];show (if 30 < b1.length then _ else _)=_
   rw [if_neg h4]
theorem bX.setCell {h:Hp}{base sz n:Nat}{t:TypeId}{v:Value}{us:List Value}(hs:bX h base t sz v n us){i o:Nat}(hi:i < n)(ho:o < sz){u:Value}{K:Hp→Prop}
  (hk:∀h',bX h' base t sz v n (us.set (i*sz+o) u)→ar (fun k=>v.ownBlock=some k) h h'→K h') :
  aI v fun a l _=>0≤(i:Int)∧(i:Int) < (l:Int)∧aJ h (Addr.add (Addr.add a (Int.toNat (i:Int)*sz)) o) u K:=by
 obtain ⟨hlen,hs2⟩:=hs;rcases hs2 with ⟨rfl,h0⟩|⟨g,p,cap,cur,rfl,hb,hg,hnc,hcm,hcs,hx⟩
 ·omega
 ·rw [asSl1_sl];have hmul:(i+1)*sz≤cap*sz:=Nat.mul_le_mul_right sz (by omega)
  rw [Nat.add_mul,Nat.one_mul] at hmul;refine ⟨by omega,by omega,?_⟩
  rw [aP,aP,Qm];refine aM hg (by omega) (hk _ ⟨by rw [Z5];exact hlen,.inr ⟨g,p,cap,_,rfl,hb,aq hg,hnc,hcm,by simpa using hcs,?_⟩⟩ (ar.set (S:=fun k=>_=some k) _ rfl))
  rw [←hx,Array.toList_setIfInBounds,List.drop_set,if_neg (by omega),List.take_set]
  congr 1
  omega
theorem kmod (n:Int){l:Nat}(h0:0 < l)(h1:l≤1000):∃k:Nat,IntKind.wrap .i64 (Int.tmod (IntKind.wrap .u64 n) (IntKind.wrap .u64 (l:Int)))=(k:Int)∧k < l∧IntKind.wrap .u64 (l:Int)≠0:=by
 have e1:IntKind.wrap .u64 (l:Int)=(l:Int):=by rw [IntKind.wrap_u64];omega
 have h2:0≤IntKind.wrap .u64 n:=by rw [IntKind.wrap_u64];omega
 rw [e1,Int.tmod_eq_emod_of_nonneg h2];generalize IntKind.wrap .u64 n=m at *;have h3:0≤m % (l:Int):=Int.emod_nonneg _ (by omega)
 have h4:m % (l:Int) < (l:Int):=Int.emod_lt_of_pos _ (by omega)
 refine ⟨(m % (l:Int)).toNat,?_,by omega,by omega⟩
 rw [i64_in (by omega) (by omega)]
 omega
mutual
theorem PH:∀x:St,stN (stZ false x)=stN x
 |.mk d at_ a b t n e body els=>by
  have h1:=CX body;have h2:=CX els;unfold stZ stN;rw [h1,h2]
theorem CX:∀l:List St,cc (pd false l)=cc l
 |[]=>by unfold pd;rfl
 |x::r=>by
  have h1:=PH x;have h2:=CX r;unfold pd cc;rw [h1,h2]
end
theorem Ls:∀p:List Sg,sgW (uk false p)=sgW p
 |[]=>rfl
 |x::r=>by
  have:=Ls r;unfold sgW at this ⊢;show cc (pd false x.body)+((uk false r).map fun s=>cc s.body).sum=_;rw [this,CX,List.map_cons,List.sum_cons]
theorem L5 {p:List Sg}(h:(cI p).1=0):p.length≤10∧sgW p≤12000:=by
 refine ⟨(x3 h).1.len,?_⟩;obtain ⟨q,hq,hz⟩:=Fp h;obtain ⟨_,ts,hsc,hpt,ho⟩:=hq.okk;obtain ⟨hN,_⟩:=Hy hpt;have hl:=ho.len;rw [←Ls,←hz,Ls];have:sgW q≤HU q:=Zd _;omega
theorem GJ:∀(p:List Sg) (k:Nat) {g g':Sg} {d:Nat},p[k]?=some g→cc g'.body≤cc g.body+d→sgW (p.set k g')≤sgW p+d
 |[],_,_,_,_,h,_=>by cases h
 |x::r,0,g,g',d,h,hd=>by
  cases h;unfold sgW;rw [List.set_cons_zero,List.map_cons,List.map_cons,List.sum_cons,List.sum_cons];omega
 |x::r,k+1,g,g',d,h,hd=>by
  have:=GJ r k h hd;unfold sgW at this ⊢;rw [List.set_cons_succ,List.map_cons,List.map_cons,List.sum_cons,List.sum_cons];omega
theorem G2 {p:List Sg}(hs:Small p)(h:(cI p).1=0){k:Nat}{g g':Sg}(hk:p[k]?=some g)(hn:okN g'.nm∧g'.ps.length≤100∧(∀q∈g'.ps,okN q.1∧okN q.2)∧ey g'.body)(hd:cc g'.body≤cc g.body+100):Small (p.set k g'):=by
 obtain ⟨h1,h2⟩:=L5 h;refine ⟨by rw [Z5];omega,fun s hm=>?_,?_⟩
 ·rcases List.mem_or_eq_of_mem_set hm with hm|rfl
  ·exact hs.nm s hm
  ·exact hn
 ·have:=GJ p k hk hd;unfold sgW at this h2;omega
theorem uq {r:KR}{f:List Vr→Int→KR}{e:Int×Int}(h:vc r f=.error e):r=.error e∨∃b m,r=.ok (b,m)∧f b m=.error e:=by
 cases r with
 |error e'=>exact .inl (by cases h;rfl)
 |ok q=>exact .inr ⟨q.1,q.2,rfl,h⟩
mutual
theorem IS (ab:List Sg):∀(x:St) {env bd:List Vr} {m:Int} {e:Int×Int},kst ab x env bd m=.error e→e.1≠0
 |.mk d at_ a b t n el body els,env,bd,m,e,h=>by
  unfold kst at h
  split at h
  ·cases h;exact (by decide:(9:Int)≠0)
  split at h
  ·rename_i h2;cases h;exact h2
  rcases uq h with h|⟨_,_,_,h⟩
  ·exact qY ab body h
  ·exact qY ab els h
theorem qY (ab:List Sg):∀(l:List St) {env bd:List Vr} {m:Int} {e:Int×Int},gX ab l env bd m=.error e→e.1≠0
 |[],_,_,_,_,h=>by
  unfold gX at h;cases h
 |x::r,_,_,_,_,h=>by
  unfold gX at h;rcases uq h with h|⟨_,_,_,h⟩
  ·exact IS ab x h
  ·exact qY ab r h
end
theorem A1 {ab:List Sg}{g:Sg}{at_ n:Int}{e:Int×Int}(h:cd ab g at_ n=.error e):e.1≠0:=by
 unfold cd at h
 split at h
 ·rename_i h1;cases h;exact h1
 rcases uq h with h|⟨_,_,_,h⟩
 ·exact qY ab _ h
 ·split at h
  ·cases h;exact (by decide:(8:Int)≠0)
  ·cases h
theorem Gk (p:List Sg):∀(r:List Sg) (i:Nat) (out:List (List Vr)) (n:Int) (b:Bool) {e:Int×Int},sI p r i out n b=.error e→e.1≠0
 |[],_,_,_,b,e,h=>by
  unfold sI at h
  split at h
  ·cases h
  ·cases h;exact (by decide:(13:Int)≠0)
 |g::r,i,out,n,b,e,h=>by
  rw [eE] at h;cases hs:cd (p.take i) g (-2 - i) n with
  |error e' =>
   rw [hs] at h;cases h;exact A1 hs
  |ok q =>
   rw [hs] at h;exact Gk p r _ _ _ _ h
section
variable  {ω:Amb}
end
end Go.Proofs.YtkeeboomikkojaaGreatDoor
