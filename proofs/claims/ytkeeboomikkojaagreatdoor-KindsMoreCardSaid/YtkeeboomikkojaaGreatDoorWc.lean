import Derived.Test.YtkeeboomikkojaaGreatDoorWb
namespace Go.Proofs.YtkeeboomikkojaaGreatDoor
open Go Go.Sx Go.Sx.Tk Go.Sx.Rn Go.Proofs.YtkeeboomikkojaaGreatDoor.Sx
abbrev Nm:=ByteArray→ByteArray
def rnV (σ:Nm)(l:List Vr):List Vr:=l.map fun v=>(σ v.1,v.2)
mutual
def rnE (σ:Nm):Ex→Ex
 |.mk op nm n l=>.mk op (if op=2 then σ nm else nm) n (rK σ l)
def rK (σ:Nm):List Ex→List Ex
 |[]=>[]
 |x::r=>rnE σ x::rK σ r
end
mutual
def rnS (σ:Nm):St→St
 |.mk d at_ a b t n e body els=>.mk d at_ (if d=10 then a else σ a) (σ b) t n (rK σ e) (xd σ body) (xd σ els)
def xd (σ:Nm):List St→List St
 |[]=>[]
 |x::r=>rnS σ x::xd σ r
end
theorem vD (σ:Nm):∀l:List Ex,rK σ l=l.map (rnE σ)
 |[]=>by unfold rK;rfl
 |x::r=>by unfold rK;rw [vD σ r];rfl
theorem EJ (σ:Nm):∀l:List St,xd σ l=l.map (rnS σ)
 |[]=>by unfold xd;rfl
 |x::r=>by unfold xd;rw [EJ σ r];rfl
theorem rZ (σ:Nm)(x:St):(rnS σ x).d=x.d∧(rnS σ x).a=(if x.d=10 then x.a else σ x.a)∧(rnS σ x).b=σ x.b∧(rnS σ x).t=x.t∧(rnS σ x).n=x.n∧(rnS σ x).e=rK σ x.e∧(rnS σ x).body=xd σ x.body∧(rnS σ x).els=xd σ x.els∧(rnS σ x).at_=x.at_:=by
 cases x;exact ⟨rfl,rfl,rfl,rfl,rfl,rfl,rfl,rfl,rfl⟩
theorem Co (σ:Nm)(x:Ex):(rnE σ x).op=x.op∧(rnE σ x).nm=(if x.op=2 then σ x.nm else x.nm)∧(rnE σ x).n=x.n∧(rnE σ x).l=rK σ x.l:=by
 cases x;exact ⟨rfl,rfl,rfl,rfl⟩
mutual
theorem IC:∀x:Ex,rnE id x=x
 |.mk op nm n l=>by
  unfold rnE;rw [yI l];show Ex.mk op (if op=2 then nm else nm) n l=_
  rw [ite_self]
theorem yI:∀l:List Ex,rK id l=l
 |[]=>by unfold rK;rfl
 |x::r=>by unfold rK;rw [IC x,yI r]
end
mutual
theorem IU:∀x:St,rnS id x=x
 |.mk d at_ a b t n e body els=>by
  unfold rnS;rw [yI e,vm body,vm els];show St.mk d at_ (if d=10 then a else a) b t n e body els=_
  rw [ite_self]
theorem vm:∀l:List St,xd id l=l
 |[]=>by unfold xd;rfl
 |x::r=>by unfold xd;rw [IU x,vm r]
end
theorem DE (l:List Vr):rnV id l=l:=by
 unfold rnV;exact List.map_id' l
def wx (σ:Nm)(B:List Vr):Prop:=∀u∈B,∀v∈B,σ u.1=σ v.1→u.1=v.1
def InB (l B:List Vr):Prop:=∀v∈l,v.1∈B.map (·.1)
theorem wx.at {σ:Nm}{B:List Vr}(h:wx σ B){s t:ByteArray}(hs:s∈B.map (·.1))(ht:t∈B.map (·.1))(he:σ s=σ t):s=t:=by
 obtain ⟨u,hu,rfl⟩:=List.mem_map.1 hs;obtain ⟨v,hv,rfl⟩:=List.mem_map.1 ht;exact h u hu v hv he
theorem Ho (B:List Vr):wx id B:=fun _ _ _ _ h=>h
theorem InB.app {l m B:List Vr}(h:InB l B)(k:InB m B):InB (l++m) B:=fun v hv=>(List.mem_append.1 hv).elim (h v) (k v)
theorem InB.rev {l B:List Vr}(h:InB l B):InB l.reverse B:=fun v hv=>h v (List.mem_reverse.1 hv)
theorem InB.sub {l B:List Vr}(h:∀v∈l,v∈B):InB l B:=fun v hv=>List.mem_map_of_mem (h v hv)
theorem uZ (σ:Nm)(a b:List Vr):rnV σ (a++b)=rnV σ a++rnV σ b:=by unfold rnV;rw [List.map_append]
theorem D9 (σ:Nm)(a:List Vr):(rnV σ a).reverse=rnV σ a.reverse:=by unfold rnV;rw [List.map_reverse]
theorem HG {σ:Nm}{B l:List Vr}(hi:wx σ B)(hl:InB l B){s:ByteArray}(hs:s∈B.map (·.1))(h:rc l s=0):rc (rnV σ l) (σ s)=0:=by
 refine F9 fun v hv e=>?_;obtain ⟨u,hu,rfl⟩:=List.mem_map.1 hv;have h1:=hi.at (hl u hu) hs e;have h2:u∈l.filter fun w=>decide (w.1=s):=List.mem_filter.2 ⟨hu,decide_eq_true h1⟩;have:=List.length_pos_of_mem h2;unfold rc at h;omega
theorem zs {σ:Nm}{B:List Vr}(hi:wx σ B){s t:ByteArray}:∀{l:List Vr},InB l B→e9 l s=some t→e9 (rnV σ l) (σ s)=some t
 |[],_,h=>by cases h
 |v::r,hl,h=>by
  have hv:=hl v List.mem_cons_self;unfold e9 at h ⊢;show Option.map (fun u:Vr=>u.2) (List.find? (fun u=>decide (u.1=σ s)) ((σ v.1,v.2)::rnV σ r))=some t;rw [List.find?_cons] at h ⊢
  by_cases hs:v.1=s
  ·rw [decide_eq_true hs] at h;rw [show decide ((σ v.1,v.2).1=σ s)=true from decide_eq_true (congrArg σ hs)]
   exact h
  ·rw [decide_eq_false hs] at h;have hk:e9 r s=some t:=h;obtain ⟨w,hw,hws,_⟩:=ql hk;have hsB:s∈B.map (·.1):=by
    rw [←hws];exact hl w (List.mem_cons_of_mem _ hw)
   have hne:¬σ v.1=σ s:=fun e=>hs (hi.at hv hsB e);rw [show decide ((σ v.1,v.2).1=σ s)=false from decide_eq_false hne]
   exact zs hi (fun u hu=>hl u (List.mem_cons_of_mem _ hu)) hk
theorem sL {c:Int}(hc:c≠0)(m:Int):(kfl (0,0) c m).1≠0:=by
 unfold kfl;rw [if_pos rfl];exact hc
theorem vI {σ:Nm}{B env:List Vr}(hi:wx σ B)(hl:InB env B){nm bg:ByteArray}{m:Int}(h:(ia env nm bg m (0,0)).2.1=0)(m2:Int):ia (rnV σ env) (σ nm) bg m2 (0,0)=ia env nm bg m (0,0)∧(ia env nm bg m (0,0)).2=(0,0):=by
 cases hk:e9 env nm with
 |none =>
  rw [jU hk] at h;exact absurd h (sL (by decide) m)
 |some t =>
  rw [gP hk] at h ⊢;rw [gP (zs hi hl hk)]
  split at h
  ·rename_i hh;exact ⟨by rw [if_pos hh,if_pos hh],by rw [if_pos hh]⟩
  ·exact absurd h (sL (by decide) m)
mutual
theorem wv {σ:Nm}{B env:List Vr}(hi:wx σ B)(hl:InB env B)(m m2:Int):∀(x:Ex),(sU env m x (0,0)).1=0→sU (rnV σ env) m2 (rnE σ x) (0,0)=(0,0)
 |.mk op nm n l,h=>by
  have hH:(lF env m (.mk op nm n l) (0,0)).1=0:=by
   refine Decidable.byContradiction fun hne=>?_;rw [sy,(show ir env m (Ex.mk op nm n l).l (lF env m (.mk op nm n l) (0,0))=lF env m (.mk op nm n l) (0,0) from (uI hne env m).2 _)] at h
   exact hne h
  have hH0:lF env m (.mk op nm n l) (0,0)=(0,0):=DO Zf0 _ _ _ hH;rw [sy,hH0] at h;have hH2:lF (rnV σ env) m2 (rnE σ (.mk op nm n l)) (0,0)=(0,0):=by
   unfold lF at hH0 ⊢;obtain ⟨r1,r2,_,_⟩:=Co σ (.mk op nm n l);rw [r1,r2]
   by_cases h2:(Ex.mk op nm n l).op=2
   ·rw [if_pos h2] at hH0 ⊢;rw [if_pos h2];have:=(vI hi hl (by rw [hH0]) m2).1
    rw [this];exact hH0
   ·rw [if_neg h2]
  rw [sy,(Co σ _).2.2.2,hH2];exact zu hi hl m m2 l h
theorem zu {σ:Nm}{B env:List Vr}(hi:wx σ B)(hl:InB env B)(m m2:Int):∀(l:List Ex),(ir env m l (0,0)).1=0→ir (rnV σ env) m2 (rK σ l) (0,0)=(0,0)
 |[],_=>by
  unfold rK ir;rfl
 |x::r,h=>by
  have hx:(sU env m x (0,0)).1=0:=by
   refine Decidable.byContradiction fun hne=>?_;rw [show ir env m (x::r) (0,0)=ir env m r (sU env m x (0,0)) from rfl,(uI hne env m).2 r] at h
   exact hne h
  have hx0:sU env m x (0,0)=(0,0):=xW _ _ _ Zf0 hx;rw [show ir env m (x::r) (0,0)=ir env m r (sU env m x (0,0)) from rfl,hx0] at h
  unfold rK;show ir (rnV σ env) m2 (rK σ r) (sU (rnV σ env) m2 (rnE σ x) (0,0))=_;rw [wv hi hl m m2 x hx];exact zu hi hl m m2 r h
end
theorem xN {σ:Nm}{B env:List Vr}(hi:wx σ B)(hl:InB env B)(m m2:Int)(x:Ex)(t:ByteArray)(h:(fX env m x t (0,0)).1=0):fX (rnV σ env) m2 (rnE σ x) t (0,0)=(0,0):=by
 unfold fX at h ⊢;obtain ⟨r1,r2,_,_⟩:=Co σ x;rw [r1,r2]
 by_cases ht:t=iB
 ·rw [if_pos ht] at h ⊢;exact wv hi hl m m2 x h
 rw [if_neg ht] at h ⊢
 by_cases hop:x.op≠2
 ·rw [if_pos hop] at h;exact absurd h (sL (by decide) m)
 rw [if_neg hop] at h;have hop2:x.op=2:=Decidable.byContradiction hop;rw [if_neg hop,if_pos hop2];have hk:(ia env x.nm e0 m (0,0)).2.1=0:=by
  refine Decidable.byContradiction fun hne=>?_
  split at h
  ·rw [sM hne] at h;exact hne h
  ·exact hne h
 obtain ⟨e1,e2⟩:=vI hi hl hk m2;rw [e1];rw [e2] at h ⊢
 split at h
 ·exact absurd h (sL (by decide) m)
 ·rename_i hh;rw [if_neg hh]
theorem Au {f:Int×Int}(hf:f.1≠0)(env:List Vr)(m:Int)(x:Ex)(t:ByteArray):fX env m x t f=f:=by
 unfold fX
 split
 ·exact (uI hf env m).1 x
 split
 ·exact sM hf _ _
 rw [yQ hf]
 split
 ·exact sM hf _ _
 ·rfl
theorem xq (env:List Vr)(m:Int):∀(l:List (Ex×(ByteArray×ByteArray))) {f:Int×Int},f.1≠0→oE env m l f=f
 |[],_,_=>rfl
 |q::r,f,hf=>by
  show oE env m r (fX env m q.1 q.2.2 f)=f;rw [Au hf];exact xq env m r hf
theorem Al {σ:Nm}{B env:List Vr}(hi:wx σ B)(hl:InB env B)(m m2:Int):∀(l:List Ex) (ps:List (ByteArray×ByteArray)),(oE env m (l.zip ps) (0,0)).1=0→oE (rnV σ env) m2 ((rK σ l).zip ps) (0,0)=(0,0)
 |[],_,_=>by
  unfold rK;rfl
 |x::r,[],_=>by
  unfold rK;rfl
 |x::r,q::ps,h=>by
  have h:(oE env m (r.zip ps) (fX env m x q.2 (0,0))).1=0:=h;have hx:(fX env m x q.2 (0,0)).1=0:=by
   refine Decidable.byContradiction fun hne=>?_;rw [xq env m _ hne] at h;exact hne h
  rw [vM Zf0 env m x q.2 hx] at h;unfold rK;show oE (rnV σ env) m2 ((rK σ r).zip ps) (fX (rnV σ env) m2 (rnE σ x) q.2 (0,0))=_;rw [xN hi hl m m2 x q.2 hx];exact Al hi hl m m2 r ps h
theorem Fx (σ:Nm)(l:List Ex):(rK σ l).length=l.length:=by rw [vD,List.length_map]
theorem H0 (σ:Nm)(l:List Ex):(rK σ l)[0]?=(l[0]?).map (rnE σ):=by rw [vD,List.getElem?_map]
theorem BR {σ:Nm}{B env:List Vr}(hi:wx σ B)(hl:InB env B)(ab:List Sg)(m m2:Int)(x:St)(hd:x.d=10)(h:(oV ab env m x (0,0)).1=0):oV ab (rnV σ env) m2 (rnS σ x) (0,0)=(0,0):=by
 obtain ⟨_,r2,_,_,_,r6,_⟩:=rZ σ x;unfold oV at h ⊢;rw [r2,r6,if_pos hd];cases hf:ab.find? fun g=>decide (g.nm=x.a) with
 |none =>
  rw [hf] at h;exact absurd h (sL (by decide) m)
 |some g =>
  rw [hf] at h;have h:(if g.ps.length≠x.e.length then kfl (0,0) 15 m else oE env m (x.e.zip g.ps) (0,0)).1=0:=h
  show (if g.ps.length≠(rK σ x.e).length then kfl (0,0) 15 m2 else oE (rnV σ env) m2 ((rK σ x.e).zip g.ps) (0,0))=(0,0)
  rw [Fx]
  split at h
  ·exact absurd h (sL (by decide) m)
  ·rename_i hh;rw [if_neg hh];exact Al hi hl m m2 _ _ h
theorem Fe {σ:Nm}{B env:List Vr}(hi:wx σ B)(hl:InB env B)(ab:List Sg)(m m2:Int)(x:St)(of:ByteArray)(h:(pW ab env m x of (0,0)).1=0):pW ab (rnV σ env) m2 (rnS σ x) of (0,0)=(0,0):=by
 obtain ⟨r1,r2,_,r4,r5,r6,_⟩:=rZ σ x;have h0:=H0 σ x.e;unfold pW at h ⊢;rw [r1,r2,r4,r5,r6,h0]
 by_cases h2:x.d=2
 ·rw [if_pos h2] at h ⊢;rw [if_neg (by omega)]
  cases he:x.e[0]? with
  |none=>rfl
  |some y =>
   rw [he] at h;have h:(sU env m y (ia env x.a iB m (0,0)).2).1=0:=h;show sU (rnV σ env) m2 (rnE σ y) (ia (rnV σ env) (σ x.a) iB m2 (0,0)).2=(0,0);have hk:(ia env x.a iB m (0,0)).2.1=0:=by
    refine Decidable.byContradiction fun hne=>?_;rw [(uI hne env m).1 y] at h;exact hne h
   obtain ⟨e1,e2⟩:=vI hi hl hk m2;rw [e2] at h;rw [e1,e2];exact wv hi hl m m2 y h
 rw [if_neg h2] at h ⊢
 by_cases h3:x.d=1∨x.d=3∨x.d=13∨x.d=14
 ·rw [if_pos h3] at h ⊢;cases he:x.e[0]? with
  |none=>rfl
  |some y =>
   rw [he] at h;exact wv hi hl m m2 y h
 rw [if_neg h3] at h ⊢
 by_cases h6:x.d=6
 ·rw [if_pos h6] at h ⊢;cases he:x.e[0]? with
  |none=>rfl
  |some y =>
   rw [he] at h;exact xN hi hl m m2 y of h
 rw [if_neg h6] at h ⊢
 by_cases h10:x.d=10
 ·rw [if_pos h10] at h ⊢;exact BR hi hl ab m m2 x h10 h
 rw [if_neg h10] at h ⊢
 by_cases h4:x.d=4
 ·rw [if_pos h4] at h ⊢
  by_cases ht:3 < x.t.size
  ·rw [if_pos ht] at h;exfalso
   revert h
   show ¬_;unfold kfl
   split<;>(split<;>simp_all)
  ·rw [if_neg ht] at h ⊢
   by_cases hn:x.n < 1∨5 < x.n
   ·rw [if_pos hn] at h;exact absurd h (sL (by decide) m)
   ·rw [if_neg hn]
 ·rw [if_neg h4]
theorem Fq (σ:Nm)(x:St):gz (rnS σ x)=(gz x).map fun q=>(σ q.1,q.2):=by
 obtain ⟨r1,r2,r3,_⟩:=rZ σ x;unfold gz;rw [r1,r2,r3]
 by_cases h5:x.d=5
 ·rw [if_pos h5,if_pos h5];rfl
 rw [if_neg h5,if_neg h5]
 by_cases h6:x.d=6∨x.d=7
 ·rw [if_pos h6,if_pos h6,if_neg (by omega)]
  rfl
 rw [if_neg h6,if_neg h6]
 by_cases h8:x.d=8∨x.d=9
 ·rw [if_pos h8,if_pos h8,if_neg (by omega)]
  rfl
 rw [if_neg h8,if_neg h8]
 by_cases h11:x.d=11∨x.d=12
 ·rw [if_pos h11,if_pos h11];rfl
 rw [if_neg h11,if_neg h11];rfl
theorem Hy {σ:Nm}{B env:List Vr}(hi:wx σ B)(hl:InB env B)(m m2:Int)(x:St)(h:(re env m x (0,0)).2.1=0):re (rnV σ env) m2 (rnS σ x) (0,0)=re env m x (0,0)∧(re env m x (0,0)).2=(0,0):=by
 unfold re at h ⊢;rw [Fq];cases hN:gz x with
 |none=>exact ⟨rfl,rfl⟩
 |some q =>
  rw [hN] at h;have h:(ia env q.1 q.2 m (0,0)).2.1=0:=h;obtain ⟨e1,e2⟩:=vI hi hl h m2;refine ⟨?_,e2⟩;show (if (ia (rnV σ env) (σ q.1) q.2 m2 (0,0)).1=e0∨(rnS σ x).d=5 then _ else _,_)=(if (ia env q.1 q.2 m (0,0)).1=e0∨x.d=5 then _ else _,_)
  rw [e1,(rZ σ x).1]
theorem y7 {σ:Nm}{B env:List Vr}(hi:wx σ B)(hl:InB env B)(ab:List Sg)(m m2:Int)(x:St)(h:(gS ab env m x (0,0)).2.1=0):gS ab (rnV σ env) m2 (rnS σ x) (0,0)=gS ab env m x (0,0)∧(gS ab env m x (0,0)).2=(0,0):=by
 have hz:=BX Zf0 ab env m x h;refine ⟨?_,hz⟩;have hk:(re env m x (0,0)).2.1=0:=by
  refine Decidable.byContradiction fun hne=>?_;unfold gS at h;rw [if_pos hne] at h;exact hne h
 obtain ⟨e1,e2⟩:=Hy hi hl m m2 x hk;unfold gS at hz ⊢;rw [e1];rw [if_neg (not_not_intro hk)] at hz ⊢;rw [if_neg (not_not_intro hk)];have hz:pW ab env m x (re env m x (0,0)).1 (re env m x (0,0)).2=(0,0):=hz;rw [e2] at hz ⊢;rw [hz,Fe hi hl ab m m2 x _ (by rw [hz])]
theorem rV (σ:Nm)(x:St)(of:ByteArray):aN (rnS σ x) of=rnV σ (aN x of):=by
 obtain ⟨r1,r2,r3,r4,_⟩:=rZ σ x;unfold aN;rw [r1,r2,r3,r4]
 by_cases h1:x.d=1
 ·rw [if_pos h1,if_pos h1,if_neg (by omega)]
  rfl
 rw [if_neg h1,if_neg h1]
 by_cases h4:x.d=4
 ·rw [if_pos h4,if_pos h4,if_neg (by omega)]
  rfl
 rw [if_neg h4,if_neg h4]
 by_cases h5:x.d=5∨x.d=11∨x.d=12
 ·rw [if_pos h5,if_pos h5,if_neg (by omega)]
  rfl
 rw [if_neg h5,if_neg h5];rfl
theorem Cm {σ:Nm}{B bd:List Vr}(hi:wx σ B)(hb:InB bd B){x:St}(hx:InB (aN x e0) B)(h:fH bd x=false):fH (rnV σ bd) (rnS σ x)=false:=by
 unfold fH at h ⊢;rw [rV];rw [List.any_eq_false] at h ⊢;intro v hv;obtain ⟨u,hu,rfl⟩:=List.mem_map.1 hv;have h1:=h u hu;unfold ktw at h1 ⊢;rw [Bool.or_eq_true,not_or] at h1 ⊢;obtain ⟨h2,h3⟩:=h1;have h2:¬0 < rc bd u.1:=by simpa using h2
 have h5:=yN bd u.1;refine ⟨?_,?_⟩
 ·rw [HG hi hb (hx u hu) (show rc bd u.1=0 by omega)]
  decide
 ·obtain ⟨r1,r2,r3,_⟩:=rZ σ x;rw [r1,r2,r3];intro hh;rw [Bool.and_eq_true] at hh;have hd:=of_decide_eq_true hh.1;have he:=of_decide_eq_true hh.2;rw [if_neg (by omega)] at he
  have hab:InB [(x.a,sB++x.t),(x.b,rB++x.t)] B:=by
   have hk:aN x e0=[(x.a,sB++x.t),(x.b,rB++x.t)]:=by unfold aN;rw [if_neg (by omega),if_pos hd]
   rw [←hk];exact hx
  have:=hi.at (hab (x.a,sB++x.t) (by simp)) (hab (x.b,rB++x.t) (by simp)) he
  apply h3;rw [Bool.and_eq_true];exact ⟨decide_eq_true hd,decide_eq_true this⟩
theorem Ce {x:St}{of:ByteArray}{B:List Vr}(h:InB (aN x of) B)(og:ByteArray):InB (aN x og) B:=by
 intro v hv;have h1:v.1∈(aN x og).map (·.1):=List.mem_map_of_mem hv;rw [sr x og,←sr x of] at h1;obtain ⟨w,hw,hwv⟩:=List.mem_map.1 h1;rw [←hwv];exact h w hw
theorem CE {σ:Nm}{B env:List Vr}(hi:wx σ B)(hl:InB env B)(ab:List Sg)(m m2:Int)(x:St)(h:(kuf ab env m x).1=0):sW ab (rnV σ env) m2 (rnS σ x)=rnV σ (sW ab env m x)∧kof ab (rnV σ env) m2 (rnS σ x)=kof ab env m x:=by
 have e1:kof ab (rnV σ env) m2 (rnS σ x)=kof ab env m x:=by
  unfold kof;rw [(y7 hi hl ab m m2 x h).1]
 refine ⟨?_,e1⟩;unfold sW;rw [e1,rV,(rZ σ x).1]
 split
 ·rfl
 ·rw [D9]
mutual
theorem IJ {σ:Nm}{B:List Vr}(hi:wx σ B)(ab:List Sg):∀(x:St) {env bd:List Vr} {m:Int} {q:List Vr×Int},kst ab x env bd m=.ok q→InB env B→InB q.1 B→∀m2,kst ab (rnS σ x) (rnV σ env) (rnV σ bd) m2=.ok (rnV σ q.1,m2+(q.2 - m))
 |.mk d at_ a b t n e body els,env,bd,m,q,h,hl,hq,m2=>by
  obtain ⟨htw,hkf⟩:=BU h;rw [uF htw hkf] at h;obtain ⟨b1,m1,h1,h2⟩:=fg h;obtain ⟨t1,e1⟩:=gm ab _ h1;obtain ⟨t2,e2⟩:=gm ab _ h2;have e1:b1=_:=e1;have hqb:InB bd B:=fun v hv=>hq v (by rw [e2,e1];simp [hv])
  have hqk:InB (aN (.mk d at_ a b t n e body els) (kof ab env m (.mk d at_ a b t n e body els))) B:=fun v hv=>hq v (by rw [e2,e1];simp [hv])
  have hq1:InB b1 B:=fun v hv=>hq v (by rw [e2];simp [hv])
  obtain ⟨o1,o2⟩:=CE hi hl ab m m2 (.mk d at_ a b t n e body els) hkf;have htw2:=Cm hi hqb (Ce hqk e0) htw;have hkf2:(kuf ab (rnV σ env) m2 (rnS σ (.mk d at_ a b t n e body els))).1=0:=by
   unfold kuf at hkf ⊢;rw [(y7 hi hl ab m m2 _ hkf).1];exact hkf
  rw [uF htw2 hkf2,o1,o2,rV,D9,←uZ,←uZ,←uZ];have g1:=uG hi ab body h1 (hqk.rev.app hl) hq1 (m2+1);have hlo:InB (sW ab env m (.mk d at_ a b t n e body els)++env) B:=by
   refine InB.app ?_ hl;unfold sW
   split
   ·exact fun v hv=>by cases hv
   ·exact hqk.rev
  have g2:=uG hi ab els h2 hlo hq (m2+1+(m1 - (m+1)));show ph (fW ab (xd σ body) _ _ (m2+1)) _=_;rw [g1];show fW ab (xd σ els) _ _ _=_;rw [g2]
  congr 2
  omega
theorem uG {σ:Nm}{B:List Vr}(hi:wx σ B)(ab:List Sg):∀(l:List St) {env bd:List Vr} {m:Int} {q:List Vr×Int},fW ab l env bd m=.ok q→InB env B→InB q.1 B→∀m2,fW ab (xd σ l) (rnV σ env) (rnV σ bd) m2=.ok (rnV σ q.1,m2+(q.2 - m))
 |[],env,bd,m,q,h,hl,hq,m2=>by
  unfold fW at h;cases h;unfold xd fW
  congr 2
  show m2=m2+(m - m);omega
 |x::r,env,bd,m,q,h,hl,hq,m2=>by
  rw [fC] at h;obtain ⟨b1,m1,h1,h2⟩:=fg h;obtain ⟨t2,e2⟩:=gm ab _ h2;have hq1:InB b1 B:=fun v hv=>hq v (by rw [e2];simp [hv])
  obtain ⟨htw,hkf⟩:=BU h1;have g1:=IJ hi ab x h1 hl hq1 m2;have hqk:InB (aN x (kof ab env m x)) B:=by
   have h1':=h1;rw [uF htw hkf] at h1';obtain ⟨b9,m9,k1,k2⟩:=fg h1';obtain ⟨s1,u1⟩:=gm ab _ k1;obtain ⟨s2,u2⟩:=gm ab _ k2;have u1:b9=_:=u1;have u2:b1=_:=u2;exact fun v hv=>hq1 v (by rw [u2,u1];simp [hv])
  have hlo:InB (sW ab env m x++env) B:=by
   refine InB.app ?_ hl;unfold sW
   split
   ·exact fun v hv=>by cases hv
   ·exact hqk.rev
  unfold xd;rw [fC,g1];show fW ab (xd σ r) _ _ _=_;rw [(CE hi hl ab m m2 x hkf).1,←uZ,uG hi ab r h2 hlo hq]
  congr 2
  show m2+(m1 - m)+(q.2 - m1)=_;omega
end
abbrev zzB:ByteArray:=⟨#[122,122,122]⟩
def zzS:St:=.mk 3 0 ⟨#[]⟩ ⟨#[]⟩ ⟨#[]⟩ 0 [.mk 2 ⟨#[97]⟩ 0 []] [] []
def zzG:Sg:=⟨zzB,0,[(⟨#[97]⟩,⟨#[105]⟩)],[zzS]⟩
def zzI (body:List St):St:=.mk 14 0 ⟨#[]⟩ ⟨#[]⟩ ⟨#[]⟩ 0 [.mk 1 ⟨#[]⟩ 1 []] body []
def tu (g:Sg):Sg:=⟨g.nm,g.at_,g.ps,[zzI g.body]⟩
theorem FH (ab:List Sg)(env bd:List Vr)(m:Int):fW ab [] env bd m=.ok (bd,m):=by
 unfold fW;rfl
theorem HO (ab:List Sg)(n:Int):fW ab [zzS] [(⟨#[97]⟩,⟨#[105]⟩)] [(⟨#[97]⟩,⟨#[105]⟩)] n=.ok ([(⟨#[97]⟩,⟨#[105]⟩)],n+1):=by rfl
theorem B6 {ab:List Sg}(h:∀s∈ab,s.nm≠zzB)(at_ n:Int):cg ab zzG at_ n=.ok ([(⟨#[97]⟩,⟨#[105]⟩)],n+1):=by
 have hk:vu ab zzG.nm at_=(0,0):=C3 (List.find?_eq_none.2 fun s hs hh=>h s hs (of_decide_eq_true hh));have hp:(kpP at_ zzG.ps (0,0)).2=(0,0):=by rfl
 unfold cg;rw [hk,hp,if_neg (by decide)]
 show ph (fW ab [zzS] [(⟨#[97]⟩,⟨#[105]⟩)] [(⟨#[97]⟩,⟨#[105]⟩)] n) _=_;rw [HO];rfl
theorem x9 (p:List Sg)(z:Sg):∀(r:List Sg) (i:Nat) (out:List (List Vr)) (n:Int) (b:Bool) {l:List (List Vr)},i+r.length=p.length→tq p r i out n b=.ok l →
  ∃n',tq (p++[z]) (r++[z]) i out n b=tq (p++[z]) [z] p.length l n' true
 |[],i,out,n,b,l,hi,h=>by
  have hi:i+0=p.length:=hi;unfold tq at h
  split at h
  ·rename_i hb;cases h;subst hb;exact ⟨n,by rw [show i=p.length by omega];rfl⟩
  ·cases h
 |g::r,i,out,n,b,l,hi,h=>by
  rw [List.length_cons] at hi;rw [fG] at h;rw [List.cons_append,fG];have ht:(p++[z]).take i=p.take i:=by rw [List.take_append_of_le_length (by omega)]
  rw [ht];cases hs:cg (p.take i) g (-2 - i) n with
  |error e =>
   rw [hs] at h;cases h
  |ok q =>
   rw [hs] at h;exact x9 p z r (i+1) (out++[q.1]) q.2 (b||rl g) (by omega) h
theorem uE {p:List Sg}{l:List (List Vr)}(h:dk p=.ok l):(bH p).1=0∧tq p p 0 [] 0 false=.ok l:=by
 unfold dk at h
 split at h
 ·cases h
 ·rename_i h1;exact ⟨by simpa using h1,h⟩
theorem zn {p:List Sg}(h:(bH p).1=0):dk p=tq p p 0 [] 0 false:=by
 unfold dk;rw [if_neg (not_not_intro h)]
theorem Hc {p:List Sg}{l:List (List Vr)}(h:dk p=.ok l)(hz:∀s∈p,s.nm≠zzB)(hr:(bH (p++[zzG])).1=0):eG (dk (p++[zzG]))=(0,0):=by
 obtain ⟨n',e⟩:=x9 p zzG p 0 [] 0 false (by omega) (uE h).2
 rw [zn hr,e,fG,List.take_left' rfl,B6 hz];show eG (if (true||rl zzG)=true then _ else _)=_
 rw [if_pos (by rfl)]
 rfl
def Lk (g g':Sg):Prop:=g.nm=g'.nm∧g.ps=g'.ps∧∀(ab:List Sg) (at_ n:Int) (q:List Vr×Int),cg ab g at_ n=.ok q→∀n2,∃m2,cg ab g' at_ n2=.ok (q.1,m2)
def Lks:List Sg→List Sg→Prop
 |[],[]=>True
 |g::r,g'::r'=>Lk g g'∧Lks r r'
 |_,_=>False
theorem Lks.hd:∀{p q:List Sg},Lks p q→Hd p q
 |[],[],_=>rfl
 |g::r,g'::r',h=>by
  obtain ⟨⟨h1,h2,_⟩,h3⟩:=h;have:=Lks.hd h3;unfold Hd at this ⊢;rw [List.map_cons,List.map_cons,this,h1,h2]
theorem D1 {p p':List Sg}(hp:Hd p p'):∀{r r':List Sg},Lks r r'→∀(i:Nat) (out:List (List Vr)) (n n2:Int) (b:Bool) {l:List (List Vr)},tq p r i out n b=.ok l→tq p' r' i out n2 b=.ok l
 |[],[],_,i,out,n,n2,b,l,h=>h
 |g::r,g'::r',hl,i,out,n,n2,b,l,h=>by
  obtain ⟨⟨h1,h2,h3⟩,h4⟩:=hl;rw [fG] at h ⊢;cases hs:cg (p.take i) g (-2 - i) n with
  |error e =>
   rw [hs] at h;cases h
  |ok q =>
   rw [hs] at h;obtain ⟨m2,e⟩:=h3 _ _ _ _ hs n2;rw [w7 (hp.take i)] at e;rw [e];have hm:rl g'=rl g:=by
    unfold rl;rw [h1,h2]
   rw [hm];exact D1 hp h4 (i+1) _ _ _ _ h
theorem zt {ab:List Sg}{g:Sg}{at_ n:Int}{q:List Vr×Int}(h:cg ab g at_ n=.ok q)(n2:Int):cg ab g at_ n2=.ok (q.1,n2+(q.2 - n)):=by
 unfold cg at h ⊢
 split at h
 ·cases h
 ·rename_i h1;rw [if_neg h1];obtain ⟨b1,m1,h2,h3⟩:=fg h
  split at h3
  ·cases h3
  ·rename_i h4;cases h3;have hB:∀v∈g.ps.reverse,v∈b1:=fun v hv=>by
    obtain ⟨t,e⟩:=gm ab g.body h2;have e:b1=_:=e;rw [e];exact List.mem_append_left _ (List.mem_reverse.1 hv)
   have:=uG (Ho b1) ab g.body h2 (InB.sub hB) (InB.sub fun v hv=>hv) n2;rw [vm,DE,DE,DE] at this;rw [this];show (if 30 < b1.length then _ else _)=_
   rw [if_neg h4]
theorem Cw (g:Sg):Lk g g:=⟨rfl,rfl,fun _ _ _ _ h n2=>⟨_,zt h n2⟩⟩
theorem Hj (g:Sg):Lk g (tu g):=by
 refine ⟨rfl,rfl,fun ab at_ n q h n2=>?_⟩;have h':=zt h (n2+1);unfold cg at h' ⊢;show ∃m2,(if (kpP at_ g.ps (vu ab g.nm at_)).2.1≠0 then _ else ph (fW ab [zzI g.body] g.ps.reverse g.ps n2) _)=_
 split at h'
 ·cases h'
 ·rename_i h1;rw [if_neg h1];obtain ⟨b1,m1,h2,h3⟩:=fg h';have e:fW ab [zzI g.body] g.ps.reverse g.ps n2=.ok (b1,m1):=by
   rw [fC,uF (by rfl) (by rfl)]
   show ph (ph (fW ab g.body ([]++g.ps.reverse) (g.ps++[]) (n2+1)) fun b m=>fW ab [] _ b m) _=_;rw [List.nil_append,List.append_nil,h2];simp only [ph,FH]
  rw [e];exact ⟨_,h3⟩
theorem zU:∀p:List Sg,Lks p p
 |[]=>trivial
 |g::r=>⟨Cw g,zU r⟩
theorem CY:∀(p:List Sg) (k:Nat) {g:Sg},p[k]?=some g→Lks p (p.set k (tu g))
 |[],_,_,h=>by cases h
 |x::r,0,g,h=>by
  cases h;exact ⟨Hj x,zU r⟩
 |x::r,k+1,g,h=>⟨Cw x,CY r k h⟩
theorem GL {p:List Sg}{l:List (List Vr)}(h:dk p=.ok l){k:Nat}{g:Sg}(hk:p[k]?=some g)(hr:(bH (p.set k (tu g))).1=0):eG (dk (p.set k (tu g)))=(0,0):=by
 have hl:=CY p k hk;rw [zn hr,D1 hl.hd hl 0 [] 0 0 false (uE h).2];rfl
theorem bW.setCell {h:Hp}{base sz n:Nat}{t:TypeId}{v:Value}{us:List Value}(hs:bW h base t sz v n us){i o:Nat}(hi:i < n)(ho:o < sz){u:Value}{K:Hp→Prop}
  (hk:∀h',bW h' base t sz v n (us.set (i*sz+o) u)→ar (fun k=>v.ownBlock=some k) h h'→K h') :
  aI v fun a l _=>0≤(i:Int)∧(i:Int) < (l:Int)∧aE h (Addr.add (Addr.add a (Int.toNat (i:Int)*sz)) o) u K:=by
 obtain ⟨hlen,hs2⟩:=hs;rcases hs2 with ⟨rfl,h0⟩|⟨g,p,cap,cur,rfl,hb,hg,hnc,hcm,hcs,hx⟩
 ·omega
 ·rw [asSl1_sl];have hmul:(i+1)*sz≤cap*sz:=Nat.mul_le_mul_right sz (by omega)
  rw [Nat.add_mul,Nat.one_mul] at hmul;refine ⟨by omega,by omega,?_⟩
  rw [aH,aH,Int.toNat_natCast];refine aG hg (by omega) (hk _ ⟨by rw [List.length_set];exact hlen,.inr ⟨g,p,cap,_,rfl,hb,aq hg,hnc,hcm,by simpa using hcs,?_⟩⟩ (ar.set (S:=fun k=>_=some k) _ rfl))
  rw [←hx,Array.toList_setIfInBounds,List.drop_set,if_neg (by omega),List.take_set]
  congr 1
  omega
theorem kmod (n:Int){l:Nat}(h0:0 < l)(h1:l≤1000):∃k:Nat,IntKind.wrap .i64 (Int.tmod (IntKind.wrap .u64 n) (IntKind.wrap .u64 (l:Int)))=(k:Int)∧k < l∧IntKind.wrap .u64 (l:Int)≠0:=by
 have e1:IntKind.wrap .u64 (l:Int)=(l:Int):=by rw [IntKind.wrap_u64];omega
 have h2:0≤IntKind.wrap .u64 n:=by rw [IntKind.wrap_u64];omega
 rw [e1,Int.tmod_eq_emod_of_nonneg h2];generalize IntKind.wrap .u64 n=m at *;have h3:0≤m % (l:Int):=Int.emod_nonneg _ (by omega)
 have h4:m % (l:Int) < (l:Int):=Int.emod_lt_of_pos _ (by omega)
 refine ⟨(m % (l:Int)).toNat,?_,by omega,by omega⟩
 rw [i64_in (by omega) (by omega)]
 omega
mutual
theorem Ki:∀x:St,stN (stZ false x)=stN x
 |.mk d at_ a b t n e body els=>by
  have h1:=zR body;have h2:=zR els;unfold stZ stN;rw [h1,h2]
theorem zR:∀l:List St,br (np false l)=br l
 |[]=>by unfold np;rfl
 |x::r=>by
  have h1:=Ki x;have h2:=zR r;unfold np br;rw [h1,h2]
end
theorem GC:∀p:List Sg,sgW (rT false p)=sgW p
 |[]=>rfl
 |x::r=>by
  have:=GC r;unfold sgW at this ⊢;show br (np false x.body)+((rT false r).map fun s=>br s.body).sum=_;rw [this,zR,List.map_cons,List.sum_cons]
theorem DW {p:List Sg}(h:(bH p).1=0):p.length≤10∧sgW p≤12000:=by
 refine ⟨(yw h).1.len,?_⟩;obtain ⟨q,hq,hz⟩:=CP h;obtain ⟨_,ts,hsc,hpt,ho⟩:=hq.okk;obtain ⟨hN,_⟩:=DD hpt;have hl:=ho.len;rw [←GC,←hz,GC];have:sgW q≤Eh q:=Nat.le_refl _;omega
theorem AQ {p:List Sg}(hs:Small p)(h:(bH p).1=0):Small (p++[zzG]):=by
 obtain ⟨h1,h2⟩:=DW h;refine ⟨by rw [List.length_append,List.length_singleton];omega,fun s hm=>?_,?_⟩
 ·rcases List.mem_append.1 hm with hm|hm
  ·exact hs.nm s hm
  ·rw [List.mem_singleton.1 hm];refine ⟨by unfold okN;decide,by decide,fun q hq=>?_,?_⟩
   ·rw [List.mem_singleton.1 (show q∈[((⟨#[97]⟩:ByteArray),(⟨#[105]⟩:ByteArray))] from hq)]
    exact ⟨by unfold okN;decide,by unfold okN;decide⟩
   ·have hk:∀b:ByteArray,b.size≤100→okN b:=fun b hb=>hb;show dK [zzS];simp only [dK,zzS,y8,il,yf];refine ⟨⟨hk _ (by decide),hk _ (by decide),hk _ (by decide),⟨⟨hk _ (by decide),trivial⟩,trivial⟩,trivial,trivial⟩,trivial⟩
 ·rw [List.map_append,List.sum_append];unfold sgW at h2;have:([zzG].map fun s=>br s.body).sum≤10:=by decide
  omega
theorem B9:∀(p:List Sg) (k:Nat) {g g':Sg} {d:Nat},p[k]?=some g→br g'.body≤br g.body+d→sgW (p.set k g')≤sgW p+d
 |[],_,_,_,_,h,_=>by cases h
 |x::r,0,g,g',d,h,hd=>by
  cases h;unfold sgW;rw [List.set_cons_zero,List.map_cons,List.map_cons,List.sum_cons,List.sum_cons];omega
 |x::r,k+1,g,g',d,h,hd=>by
  have:=B9 r k h hd;unfold sgW at this ⊢;rw [List.set_cons_succ,List.map_cons,List.map_cons,List.sum_cons,List.sum_cons];omega
theorem Cf {p:List Sg}(hs:Small p)(h:(bH p).1=0){k:Nat}{g g':Sg}(hk:p[k]?=some g)(hn:okN g'.nm∧g'.ps.length≤100∧(∀q∈g'.ps,okN q.1∧okN q.2)∧dK g'.body)(hd:br g'.body≤br g.body+100):Small (p.set k g'):=by
 obtain ⟨h1,h2⟩:=DW h;refine ⟨by rw [List.length_set];omega,fun s hm=>?_,?_⟩
 ·rcases List.mem_or_eq_of_mem_set hm with hm|rfl
  ·exact hs.nm s hm
  ·exact hn
 ·have:=B9 p k hk hd;unfold sgW at this h2;omega
theorem AH {p:List Sg}(hs:Small p)(h:(bH p).1=0){k:Nat}{g:Sg}(hk:p[k]?=some g):Small (p.set k (tu g)):=by
 obtain ⟨n1,n2,n3,n4⟩:=hs.nm g (List.mem_of_getElem? hk);refine Cf hs h hk ⟨n1,n2,n3,?_⟩ ?_
 ·have hk:∀b:ByteArray,b.size≤100→okN b:=fun b hb=>hb;show dK [zzI g.body];simp only [dK,zzI,y8,il,yf];exact ⟨⟨hk _ (by decide),hk _ (by decide),hk _ (by decide),⟨⟨hk _ (by decide),trivial⟩,trivial⟩,n4,trivial⟩,trivial⟩
 ·show br [zzI g.body]≤_;show stN (zzI g.body)+br []≤_;rw [iG];show 1+bV [.mk 1 ⟨#[]⟩ 1 []]+br g.body+br []+br []≤_;have h1:bV [Ex.mk 1 ⟨#[]⟩ 1 []]≤10:=by decide
  have h2:br []=0:=rfl;omega
theorem uX {h:Hp}:∀{l:List Sg} {us:List Value} {k:Nat} {g:Sg},cd h l us→l[k]?=some g→∃vp vb,(us.drop (k*4)).take 4=sgC g vp vb∧PsS h vp g.ps∧StS h vb g.body
 |[],_,_,_,_,h=>by cases h
 |x::r,us,0,g,hs,h=>by
  cases h;unfold cd at hs;obtain ⟨⟨vp,vb,e,h1,h2⟩,_⟩:=hs;exact ⟨vp,vb,by rw [Nat.zero_mul,List.drop_zero];exact e,h1,h2⟩
 |x::r,us,k+1,g,hs,h=>by
  unfold cd at hs;obtain ⟨vp,vb,e,h1,h2⟩:=uX hs.2 (k:=k) h;exact ⟨vp,vb,by rw [←e,List.drop_drop,show (k+1)*4=4+k*4 by omega],h1,h2⟩
theorem xF {h:Hp}:∀{l:List Sg} {us:List Value} {k:Nat} {g g':Sg} {vp vb vb':Value},cd h l us→us.length=l.length*4→l[k]?=some g→(us.drop (k*4)).take 4=sgC g vp vb→g'.nm=g.nm→g'.at_=g.at_→PsS h vp g'.ps→StS h vb' g'.body→cd h (l.set k g') (us.set (k*4+3) vb')
 |[],_,_,_,_,_,_,_,_,_,h,_,_,_,_,_=>by cases h
 |x::r,us,0,g,g',vp,vb,vb',hs,hl,h,hc,e1,e2,hp,hb=>by
  cases h;rw [List.length_cons] at hl;unfold cd at hs;rw [List.set_cons_zero];unfold cd;rw [Nat.zero_mul,List.drop_zero] at hc;refine ⟨⟨vp,vb',?_,hp,hb⟩,?_⟩
  ·rw [List.take_set,Nat.zero_mul,Nat.zero_add,hc];unfold sgC;rw [e1,e2];rfl
  ·rw [List.drop_set,if_pos (by omega)]
   exact hs.2
 |x::r,us,k+1,g,g',vp,vb,vb',hs,hl,h,hc,e1,e2,hp,hb=>by
  rw [List.length_cons] at hl;unfold cd at hs;rw [List.set_cons_succ];unfold cd;refine ⟨?_,?_⟩
  ·rw [List.take_set_of_le (by omega)]
   exact hs.1
  ·rw [List.drop_set,if_neg (by omega),show (k+1)*4+3 - 4=k*4+3 by omega]
   exact xF hs.2 (by rw [List.length_drop];omega) (k:=k) h (by rw [List.drop_drop,show 4+k*4=(k+1)*4 by omega];exact hc) e1 e2 hp hb
theorem wo {h:Hp}{b sz:Nat}{cs:List Value}{t:TypeId}{f:Nat×Nat}(hb:h[b]?=some (.cells cs.toArray t f))(hl:cs.length=sz):bh h sz (.slice (some ⟨b,0,none⟩) 1 1) 1 cs:=rJ hb (by omega)
theorem BN {h:Hp}{b:Nat}{x:Ex}{w:Value}{t:TypeId}{f:Nat×Nat}(hb:h[b]?=some (.cells (exC x w).toArray t f))(hw:ExS h w x.l):ExS h (.slice (some ⟨b,0,none⟩) 1 1) [x]:=by
 refine ⟨exC x w,⟨wo hb rfl,by simp⟩,?_⟩
 unfold kl;refine ⟨Ak.2 ⟨w,rfl,hw⟩,?_⟩;unfold kl;rfl
theorem Cj {h:Hp}{b:Nat}{x:St}{ve vb vl:Value}{t:TypeId}{f:Nat×Nat}(hb:h[b]?=some (.cells (stC x ve vb vl).toArray t f))(h1:ExS h ve x.e)(h2:StS h vb x.body)(h3:StS h vl x.els):StS h (.slice (some ⟨b,0,none⟩) 1 1) [x]:=by
 refine ⟨stC x ve vb vl,⟨wo hb rfl,by simp⟩,?_⟩
 unfold jw;refine ⟨Am.2 ⟨ve,vb,vl,rfl,h1,h2,h3⟩,?_⟩;unfold jw;rfl
theorem Ch {h:Hp}:ExS h (.slice none 0 0) []:=⟨[],⟨⟨rfl,.inl ⟨rfl,_,_,rfl⟩⟩,by decide⟩,by unfold kl;rfl⟩
theorem yk {h:Hp}:StS h (.slice none 0 0) []:=⟨[],⟨⟨rfl,.inl ⟨rfl,_,_,rfl⟩⟩,by decide⟩,by unfold jw;rfl⟩
theorem bh.rdOa {h:Hp}{sz n:Nat}{v:Value}{us:List Value}(hs:bh h sz v n us){i o:Nat}(hi:i < n)(ho:o < sz){u:Value}(hu:us[i*sz+o]?=some u){K:Addr→Nat→Nat→Value→Prop}(hk:∀a c,ah h (Addr.add (Addr.add a (Int.toNat (i:Int)*sz)) o)=some u→K a n c u) :
  aI v fun a l c=>0≤(i:Int)∧(i:Int) < (l:Int)∧∃w,ah h (Addr.add (Addr.add a (Int.toNat (i:Int)*sz)) o)=some w∧K a l c w:=by
 rcases hs.2 with ⟨h0,_⟩|⟨b,p,cap,rfl,hc⟩
 ·omega
 ·rw [asSl1_sl];have hcell:ah h (Addr.add (Addr.add ⟨b,p,none⟩ (Int.toNat (i:Int)*sz)) o)=some u:=by
   rw [aH,aH,Int.toNat_natCast,Nat.add_assoc];exact hc _ u hu
  exact ⟨by omega,by omega,u,hcell,hk _ _ hcell⟩
theorem tL {h:Hp}:∀{l:List Sg} {us:List Value} {x:Sg} {vp vb:Value},cd h l us→us.length=l.length*4→PsS h vp x.ps→StS h vb x.body→cd h (l++[x]) (us++sgC x vp vb)
 |[],us,x,vp,vb,hl,hn,hp,hb=>by
  unfold cd at hl;subst hl;rw [List.nil_append,List.nil_append];unfold cd;refine ⟨⟨vp,vb,rfl,hp,hb⟩,?_⟩;unfold cd;rfl
 |y::r,us,x,vp,vb,hl,hn,hp,hb=>by
  rw [List.length_cons] at hn;unfold cd at hl;rw [List.cons_append];unfold cd;rw [List.take_append_of_le_length (by omega),List.drop_append_of_le_length (by omega)]
  exact ⟨hl.1,tL hl.2 (by rw [List.length_drop];omega) hp hb⟩
theorem sC {r:KR}{f:List Vr→Int→KR}{e:Int×Int}(h:ph r f=.error e):r=.error e∨∃b m,r=.ok (b,m)∧f b m=.error e:=by
 cases r with
 |error e'=>exact .inl (by cases h;rfl)
 |ok q=>exact .inr ⟨q.1,q.2,rfl,h⟩
mutual
theorem FI (ab:List Sg):∀(x:St) {env bd:List Vr} {m:Int} {e:Int×Int},kst ab x env bd m=.error e→e.1≠0
 |.mk d at_ a b t n el body els,env,bd,m,e,h=>by
  unfold kst at h
  split at h
  ·cases h;exact (by decide:(9:Int)≠0)
  split at h
  ·rename_i h2;cases h;exact h2
  rcases sC h with h|⟨_,_,_,h⟩
  ·exact pT ab body h
  ·exact pT ab els h
theorem pT (ab:List Sg):∀(l:List St) {env bd:List Vr} {m:Int} {e:Int×Int},fW ab l env bd m=.error e→e.1≠0
 |[],_,_,_,_,h=>by
  unfold fW at h;cases h
 |x::r,_,_,_,_,h=>by
  unfold fW at h;rcases sC h with h|⟨_,_,_,h⟩
  ·exact FI ab x h
  ·exact pT ab r h
end
theorem yi {ab:List Sg}{g:Sg}{at_ n:Int}{e:Int×Int}(h:cg ab g at_ n=.error e):e.1≠0:=by
 unfold cg at h
 split at h
 ·rename_i h1;cases h;exact h1
 rcases sC h with h|⟨_,_,_,h⟩
 ·exact pT ab _ h
 ·split at h
  ·cases h;exact (by decide:(8:Int)≠0)
  ·cases h
theorem Bw (p:List Sg):∀(r:List Sg) (i:Nat) (out:List (List Vr)) (n:Int) (b:Bool) {e:Int×Int},tq p r i out n b=.error e→e.1≠0
 |[],_,_,_,b,e,h=>by
  unfold tq at h
  split at h
  ·cases h
  ·cases h;exact (by decide:(13:Int)≠0)
 |g::r,i,out,n,b,e,h=>by
  rw [fG] at h;cases hs:cg (p.take i) g (-2 - i) n with
  |error e' =>
   rw [hs] at h;cases h;exact yi hs
  |ok q =>
   rw [hs] at h;exact Bw p r _ _ _ _ h
section
variable  {ω:Amb}
set_option maxHeartbeats 3200000 in
set_option maxRecDepth 100000 in
theorem vr (hω:ω.low=0)(p:List Sg)(w:Value)(hcap:x8 w)(st:Int)(h:Hp)(hp:SgS h w p)(ht:ee h)(X:XT) :
  aa Tryz.prog ω 3 [.agg #[w],.int .i64 st] h (fun r h'=>r=.bool true∧KF h h') X:=by
 refine ji ω _ _ h _ X ?_;unfold cU;simp only [show Value.cells (.agg #[w])=[w].toArray from rfl,show (Obj.cells #[(.int .i64 0),(.int .i64 0)] 28 (0,0))=Obj.cells (flt 0 0).toArray 28 (0,0) from rfl,show (Obj.cells #[(.slice none 0 0)] 24 (0,0))=Obj.cells [.slice none 0 0].toArray 24 (0,0) from rfl]
 have hA:=af (h:=h) (o:=.cells [w].toArray 24 (0,0));have k0:=ar.push (S:=fun _=>False) h (.cells [w].toArray 24 (0,0));generalize h.push (.cells [w].toArray 24 (0,0))=h0 at *;refine aa.use (AL hω h0 (ht.more k0)) ?_;rintro _ h1 ⟨rfl,k1⟩;have hA1:h1[h.size]?=some (.cells [w].toArray 24 (0,0)):=k1.get hA id;rw [asB_bool];refine aS rfl ?_;refine ⟨fun t h'=>∃b,t=.bool b∧KF h0 h'∧(b=false→Small p∧p.length≠0),?_,?_⟩
 ·refine ⟨_,ak hA1 rfl,?_⟩;refine aa.use (DI p _ h1 ⟨w,rfl,hp.az (k0.trans k1)⟩) ?_;rintro _ h2 ⟨g,rfl,k2,hsm⟩;rw [asB_bool];refine ae (fun hc=>⟨true,rfl,k1.trans k2,fun h=>by cases h⟩) (fun hc=>?_)
  refine lx (k2.get hA1 id) (j:=0) (u:=w) rfl ?_;refine (hp.az ((k0.trans k1).trans k2)).sl fun _ _=>?_;exact ⟨_,rfl,k1.trans k2,fun hb=>⟨hsm hc,fun h0=>by rw [h0] at hb;cases hb⟩⟩
 rintro _ _ h2 ⟨b,rfl,k2,hsm⟩;have hA2:=k2.get hA id;have k2:=k0.trans k2;rw [asB_bool];refine ae (fun hc=>⟨trivial,k2⟩) (fun hc=>?_);obtain ⟨hsm,hne⟩:=hsm hc;have hps:=hsm.nps;have hlen:=hsm.len;refine ⟨_,ak hA2 rfl,?_⟩;refine aa.use (nP hω p hsm w hcap h2 (hp.az k2) (ht.more k2)) ?_;rintro _ h3 ⟨k3,rfl⟩;have hA3:=k3.get hA2 id;have k3:=k2.trans k3;rw [asA_agg];refine ⟨rfl,aW _ _,ay (cs:=flt (eG (dk p)).1 (eG (dk p)).2) rfl ?_⟩
 have hF4:=af (h:=h3) (o:=.cells (flt (eG (dk p)).1 (eG (dk p)).2).toArray 28 (0,0));have k34:=ar.push (S:=fun _=>False) h3 (.cells (flt (eG (dk p)).1 (eG (dk p)).2).toArray 28 (0,0));generalize h3.push (.cells (flt (eG (dk p)).1 (eG (dk p)).2).toArray 28 (0,0))=h4 at *;have hA4:=k34.get hA3 id;have k4:=k3.trans k34;have f4:=cH hF4;have a4:=cH hA4;refine ⟨_,ak hA4 rfl,?_⟩;refine aa.use (xc p hsm.len (fun s hs=>(hsm.nm s hs).2.1) hsm.tot _ h4 ⟨w,rfl,hp.az k4⟩) ?_
 rintro _ h5 ⟨w2,us2,rfl,ho5,hat5,k45⟩;have hs5:=Eg ho5 hat5 (by omega)
 have hA5:=k45.get hA4 id;have hF5:=k45.get hF4 id;have k5:=k4.trans k45;have z45:=k45.size;rw [asA_agg];refine ⟨rfl,(fun u hu=>by rw [List.mem_singleton.1 (show u∈[w2] from hu)];exact (SgS.bp hs5).one),ay (cs:=[w2]) rfl ?_⟩
 have hQ6:=af (h:=h5) (o:=.cells [w2].toArray 24 (0,0));have k56:=ar.push (S:=fun _=>False) h5 (.cells [w2].toArray 24 (0,0));have z6:(h5.push (.cells [w2].toArray 24 (0,0))).size=h5.size+1:=by simp
 generalize h5.push (.cells [w2].toArray 24 (0,0))=h6 at *;refine lx hQ6 (j:=0) (u:=w2) rfl ?_;refine ⟨trivial,trivial,trivial,trivial,?_⟩;have hP7:=af (h:=h6) (o:=.cells (List.toArray [(.string ⟨#[97]⟩),(.string ⟨#[105]⟩)]) 32 (0,0));have k67:=ar.push (S:=fun _=>False) h6 (.cells (List.toArray [(.string ⟨#[97]⟩),(.string ⟨#[105]⟩)]) 32 (0,0));generalize h6.push (.cells (List.toArray [(.string ⟨#[97]⟩),(.string ⟨#[105]⟩)]) 32 (0,0))=h7 at *
 have hE8:=af (h:=h7) (o:=.cells (List.toArray [(.int .i64 2),(.string ⟨#[97]⟩),(.int .i64 0),(.slice none 0 0)]) 36 (0,0));have k78:=ar.push (S:=fun _=>False) h7 (.cells (List.toArray [(.int .i64 2),(.string ⟨#[97]⟩),(.int .i64 0),(.slice none 0 0)]) 36 (0,0));generalize h7.push (.cells (List.toArray [(.int .i64 2),(.string ⟨#[97]⟩),(.int .i64 0),(.slice none 0 0)]) 36 (0,0))=h8 at *;have hS9:=af (h:=h8) (o:=.cells (List.toArray [(.int .i64 3),(.int .i64 0),(.string ⟨#[]⟩),(.string ⟨#[]⟩),(.string ⟨#[]⟩),(.int .i64 0),(.slice (some ⟨h7.size,0,none⟩) 1 1),(.slice none 0 0),(.slice none 0 0)]) 39 (0,0))
 have k89:=ar.push (S:=fun _=>False) h8 (.cells (List.toArray [(.int .i64 3),(.int .i64 0),(.string ⟨#[]⟩),(.string ⟨#[]⟩),(.string ⟨#[]⟩),(.int .i64 0),(.slice (some ⟨h7.size,0,none⟩) 1 1),(.slice none 0 0),(.slice none 0 0)]) 39 (0,0));generalize h8.push (.cells (List.toArray [(.int .i64 3),(.int .i64 0),(.string ⟨#[]⟩),(.string ⟨#[]⟩),(.string ⟨#[]⟩),(.int .i64 0),(.slice (some ⟨h7.size,0,none⟩) 1 1),(.slice none 0 0),(.slice none 0 0)]) 39 (0,0))=h9 at *
 have k59:=((k56.trans k67).trans k78).trans k89;have ho9:=ho5.more k59;have z67:=k67.size;have z78:=k78.size;have z89:=k89.size;have z59:=k59.size;have p7:=cH hP7;have e8:=cH hE8;have s9:=cH hS9;refine cE (bt:=72) (cs:=sgC zzG (.slice (some ⟨h6.size,0,none⟩) 1 1) (.slice (some ⟨h8.size,0,none⟩) 1 1)) (by kernel_rfl) ho9 rfl (jc ⟨_,_,_,rfl⟩ ⟨_,_,_,rfl⟩) (by omega) (by omega) (by omega) fun w4 h10 ho10 hg10 _ hown=>?_
 have k910:ar (fun b=>w2.ownBlock=some b) h9 h10:=ar.grown hg10 fun b hb _=>hb;have lt5:=ho5.lt;have nq:∀b,w2.ownBlock=some b→b < h5.size:=fun b hb=>(lt5 b hb).2;have hQ10:=k910.get (((k67.trans k78).trans k89).get hQ6 id) fun e=>by have:=nq _ e;omega
 refine bQ (qT ho10) ?_;rw [aH,Nat.zero_add];refine aG (o:=0) hQ10 (by simp) ?_
 rw [show ([w2].toArray).setIfInBounds 0 w4=[w4].toArray from by simp]
 have hQ11:=aq (o:=.cells [w4].toArray 24 (0,0)) hQ10;have k1011:=ar.set (S:=fun b=>b=h5.size) (h:=h10) (.cells [w4].toArray 24 (0,0)) (b:=h5.size) rfl;generalize h10.setIfInBounds h5.size (.cells [w4].toArray 24 (0,0))=h11 at *;have z910:=k910.size;have z1011:=k1011.size;have ho11:bW h11 h4.size 41 4 w4 (p.length+1) _:=ho10.az fun b hb hlt=>k1011.block b hlt fun e=>by
  have e:b=h5.size:=e;rcases hown b hb with h9|h9
  ·have:=nq _ h9;omega
  ·omega
 have hP11:=k1011.get (k910.get ((k78.trans k89).get hP7 id) fun e=>by have:=nq _ e;omega) (by omega)
 have hE11:=k1011.get (k910.get (k89.get hE8 id) fun e=>by have:=nq _ e;omega) (by omega)
 have hS11:=k1011.get (k910.get hS9 fun e=>by have:=nq _ e;omega) (by omega)
 have hsq:SgS h11 w4 (p++[zzG]):=by
  refine ⟨_,⟨by rw [List.length_append];exact ho11.yc,by rw [List.length_append,List.length_singleton];omega⟩,tL ?_ ho5.1 ⟨wo hP11 rfl,?_⟩ (Cj (x:=zzS) hS11 (BN (x:=.mk 2 ⟨#[97]⟩ 0 []) hE11 Ch) yk yk)⟩
  ·exact b8.at p (dt (N':=fun _=>True) (fun sz v n us hs=>(((hs.az k59 fun _ _ hf=>hf).az k910 fun b hb e=>hb.2 e).az k1011 fun b hb e=>by have:=hb.1.2;have e:b=h5.size:=e;omega).mono fun _ _=>trivial) p hat5)
  ·exact .inr ⟨_,_,_,rfl⟩
 have k4_11:KF h4 h11:=((k45.trans k59).cf (k910.mono fun b _ e=>.inr (lt5 b e).1)).cf (k1011.mono fun b _ e=>.inr (by have e:b=h5.size:=e;omega))
 have k11:=k4.trans k4_11;have hA11:=k4_11.get hA4 id;have hF11:=k4_11.get hF4 id;have hcapq:=ss ho11;refine ⟨_,ak hA11 rfl,?_⟩;refine aa.use (xc p hsm.len (fun s hs=>(hsm.nm s hs).2.1) hsm.tot _ h11 ⟨w,rfl,hp.az k11⟩) ?_;rintro _ h12 ⟨w3,us3,rfl,ho12,hat12,k1112⟩;have hs12:=Eg ho12 hat12 (by omega)
 rw [asA_agg];refine ⟨rfl,(fun u hu=>by rw [List.mem_singleton.1 (show u∈[w3] from hu)];exact (SgS.bp hs12).one),ay (cs:=[w3]) rfl ?_⟩
 have hR13:=af (h:=h12) (o:=.cells [w3].toArray 24 (0,0));have k1213:=ar.push (S:=fun _=>False) h12 (.cells [w3].toArray 24 (0,0));generalize h12.push (.cells [w3].toArray 24 (0,0))=h13 at *;have k1113:=k1112.trans k1213;have hA13:=k1113.get hA11 id;have hs13:=hs12.az k1213;have ho13:=ho12.more k1213;rw [asI_int];refine lx hA13 (j:=0) (u:=w) rfl ?_;refine (hp.az (k11.trans k1113)).sl fun _ _=>?_;obtain ⟨k,ek,hk,hne0⟩:=kmod st (l:=p.length) (by omega) (by omega)
 refine ⟨hne0,?_⟩;rw [ek];have hx:=List.getElem?_eq_getElem hk;generalize p[k]=g at hx;refine lx hR13 (j:=0) (u:=w3) rfl ?_;refine lx hR13 (j:=0) (u:=w3) rfl ?_;have hat13:cd h13 p us3:=b8.at p (dt (N':=fun _=>True) (fun sz v n us hs=>(hs.az k1213 fun _ _ hf=>hf).mono fun _ _=>trivial) p hat12);obtain ⟨vp,vb,ec,hvp13,hvb13⟩:=uX hat13 hx;have hu3:us3[k*4+3]?=some vb:=by
  have:=congrArg (fun l=>l[3]?) ec;simpa [List.getElem?_take,List.getElem?_drop,sgC] using this
 refine bh.rdOa ho13.yc hk (by decide) hu3 fun a c hca=>?_
 refine ⟨trivial,?_⟩;have hE14:=af (h:=h13) (o:=.cells (List.toArray [(.int .i64 1),(.string ⟨#[]⟩),(.int .i64 1),(.slice none 0 0)]) 36 (0,0));have k1314:=ar.push (S:=fun _=>False) h13 (.cells (List.toArray [(.int .i64 1),(.string ⟨#[]⟩),(.int .i64 1),(.slice none 0 0)]) 36 (0,0));generalize h13.push (.cells (List.toArray [(.int .i64 1),(.string ⟨#[]⟩),(.int .i64 1),(.slice none 0 0)]) 36 (0,0))=h14 at *
 have hR14:=k1314.get hR13 id;refine ⟨k1314.cell hca id,lx' (j:=0) hR14 rfl,lx' (j:=0) hR14 rfl,bQ hvb13.bp.one ⟨trivial,?_⟩⟩;have hS15:=af (h:=h14) (o:=.cells (List.toArray [(.int .i64 14),(.int .i64 0),(.string ⟨#[]⟩),(.string ⟨#[]⟩),(.string ⟨#[]⟩),(.int .i64 0),(.slice (some ⟨h13.size,0,none⟩) 1 1),vb,(.slice none 0 0)]) 39 (0,0));have k1415:=ar.push (S:=fun _=>False) h14 (.cells (List.toArray [(.int .i64 14),(.int .i64 0),(.string ⟨#[]⟩),(.string ⟨#[]⟩),(.string ⟨#[]⟩),(.int .i64 0),(.slice (some ⟨h13.size,0,none⟩) 1 1),vb,(.slice none 0 0)]) 39 (0,0))
 generalize h14.push (.cells (List.toArray [(.int .i64 14),(.int .i64 0),(.string ⟨#[]⟩),(.string ⟨#[]⟩),(.string ⟨#[]⟩),(.int .i64 0),(.slice (some ⟨h13.size,0,none⟩) 1 1),vb,(.slice none 0 0)]) 39 (0,0))=h15 at *;refine ⟨lx' (j:=0) (k1415.get hR14 id) rfl,?_⟩;have k1315:=k1314.trans k1415;have lt12:=ho12.lt;have z1112:=k1112.size;have z1213:=k1213.size;have e14:=cH hE14;have s15:=cH hS15;refine bW.setCell (ho13.more k1315) hk (by decide) fun h16 ho16 k1516=>?_
 have hE16:=k1516.get (k1415.get hE14 id) fun e=>by have:=(lt12 _ e).2;omega
 have hS16:=k1516.get hS15 fun e=>by have:=(lt12 _ e).2;omega
 have hR16:=k1516.get (k1315.get hR13 id) fun e=>by have:=(lt12 _ e).2;omega
 have hat16:cd h16 p us3:=b8.at p (dt (N':=fun _=>True) (fun sz v n us hs=>((hs.az (k1213.trans k1315) fun _ _ hf=>hf).az k1516 fun b hb e=>hb.2 e).mono fun _ _=>trivial) p hat12);have hsr:SgS h16 w3 (p.set k (tu g)):=by
  obtain ⟨vp',vb',ec',hvp16,hvb16⟩:=uX hat16 hx;obtain rfl:vb'=vb:=by
   rw [ec] at ec';unfold sgC at ec';simp only [List.cons.injEq] at ec';exact ec'.2.2.2.1.symm
  refine ⟨_,⟨by rw [List.length_set];exact ho16.yc,by rw [List.length_set];omega⟩,xF hat16 ho12.1 hx ec' rfl rfl hvp16 ?_⟩
  exact Cj (x:=zzI g.body) hS16 (BN (x:=.mk 1 ⟨#[]⟩ 1 []) hE16 Ch) hvb16 yk
 have hcapr:=ss ho16;have k11_16:KF h11 h16:=(k1113.trans k1315).cf (k1516.mono fun b _ e=>.inr (lt12 b e).1);have k16:=k11.trans k11_16;have hsq16:=hsq.az k11_16;have hA16:=k11_16.get hA11 id;have hF16:=k11_16.get hF11 id;have hQ16:=k11_16.get hQ11 id;refine lx hF16 (j:=0) (u:=.int .i64 (eG (dk p)).1) rfl ?_;rw [asK_int];refine ae (fun hc=>⟨trivial,k16⟩) (fun hc=>?_);have hz:(eG (dk p)).1=0:=by simpa using hc
 obtain ⟨l,hl⟩:∃l,dk p=.ok l:=by
  cases hv:dk p with
  |ok l=>exact ⟨l,rfl⟩
  |error e =>
   exfalso;rw [hv] at hz;have hz:e.1=0:=hz;unfold dk at hv
   split at hv
   ·rename_i h1;cases hv;exact h1 hz
   ·exact Bw p p _ _ _ _ hv hz
 obtain ⟨hr0,_⟩:=uE hl;have hsmq:=AQ hsm hr0;have hsmr:=AH hsm hr0 hx;refine ⟨fun t i h'=>∃j:Nat,i=.int .i64 j∧j≤p.length∧t=.bool ((p.take j).any fun s=>decide (s.nm=zzB))∧KF h16 h',fun _ i _=>match i with|.int _ j=>p.length - j.toNat|_=>0,⟨0,rfl,by omega,rfl,ar.refl _ _⟩,?_⟩
 rintro _ _ _ h17 ⟨j,rfl,hj,rfl,k1617⟩;have hA17:=k1617.get hA16 id;refine lx hA17 (j:=0) (u:=w) rfl ?_;refine (hp.az (k16.trans k1617)).sl fun _ _=>?_;rw [asK_int];refine ae (fun hc=>?_) (fun hc=>?_)
 ·have hjl:j < p.length:=by have:=of_decide_eq_true hc;omega
  have hy:=List.getElem?_eq_getElem hjl;generalize p[j]=y at hy;refine ⟨fun t h'=>t=.bool ((p.take (j+1)).any fun s=>decide (s.nm=zzB))∧h17=h',?_,?_⟩
  ·rw [asB_bool,aP hy,List.any_append,List.any_cons,List.any_nil,Bool.or_false];refine ae (fun hc=>?_) (fun hc=>?_)
   ·rw [hc];exact ⟨rfl,rfl⟩
   ·rw [hc,Bool.false_or];refine lx hA17 (j:=0) (u:=w) rfl ?_;obtain ⟨us,vp',vb',q1,q2,_⟩:=hp.at_ hy;refine bh.rdO (q1.az (k16.trans k1617)) (i:=j) (o:=0) hjl (u:=.string y.nm) (by rw [q2];rfl) ?_
    rw [asS_str,eqB];exact ⟨rfl,rfl⟩
  rintro _ _ _ ⟨rfl,rfl⟩;rw [asK_int,i64_in (by omega) (by omega)]
  exact ⟨⟨j+1,by simp,by omega,rfl,k1617⟩,by simp;omega⟩
 have hc:=of_decide_eq_false hc;obtain rfl:j=p.length:=by omega
 rw [List.take_length];have hQ17:=k1617.get hQ16 id;have hR17:=k1617.get hR16 id;have hsq17:=hsq16.az k1617;have hsr17:=hsr.az k1617;have k17:=k16.trans k1617;refine ⟨fun t h'=>t=.bool false∧KF h17 h',?_,?_⟩
 ·refine ⟨_,ak hQ17 rfl,?_⟩;refine aa.use (uq (p++[zzG]) hsmq _ h17 ⟨w4,rfl,hsq17⟩ (ht.more k17)) ?_;rintro _ h18 ⟨rfl,k1718⟩;rw [asA_agg];show cond ((bH (p++[zzG])).1==0) _ _;refine ae (fun hc=>?_) (fun hc=>⟨rfl,k1718⟩);have hrq:=eq_of_beq hc;rw [asB_bool];refine ae (fun hc=>?_) (fun hc=>⟨rfl,k1718⟩);have hno:∀s∈p,s.nm≠zzB:=fun s hs e=>by
   have:(p.any fun s=>decide (s.nm=zzB))=true:=List.any_eq_true.2 ⟨s,hs,decide_eq_true e⟩;rw [this] at hc;cases hc
  refine ⟨_,ak (k1718.get hQ17 id) rfl,?_⟩;refine aa.use (nP hω (p++[zzG]) hsmq w4 hcapq h18 (hsq17.az k1718) (ht.more (k17.trans k1718))) ?_;rintro _ h19 ⟨k1819,rfl⟩;rw [asA_agg,Hc hl hno hrq];exact ⟨rfl,k1718.trans k1819⟩
 rintro _ _ h18 ⟨rfl,k1718⟩;rw [asB_bool];refine aS rfl ?_;have k18:=k17.trans k1718;refine ⟨fun t h'=>t=.bool true∧KF h h',?_,fun t _ h' ht=>ht⟩;refine ⟨_,ak (k1718.get hR17 id) rfl,?_⟩;refine aa.use (uq (p.set k (tu g)) hsmr _ h18 ⟨w3,rfl,hsr17.az k1718⟩ (ht.more k18)) ?_;rintro _ h19 ⟨rfl,k1819⟩;rw [asA_agg];show cond ((bH (p.set k (tu g))).1 !=0) _ _;refine ae (fun hc=>⟨rfl,k18.trans k1819⟩) (fun hc=>?_)
 have hrr:(bH (p.set k (tu g))).1=0:=by simpa using hc
 refine ⟨_,ak (k1819.get (k1718.get hR17 id) id) rfl,?_⟩;refine aa.use (nP hω (p.set k (tu g)) hsmr w3 hcapr h19 ((hsr17.az k1718).az k1819) (ht.more (k18.trans k1819))) ?_;rintro _ h20 ⟨k1920,rfl⟩;rw [asA_agg,GL hl hx hrr];exact ⟨rfl,(k18.trans k1819).trans k1920⟩
end
end Go.Proofs.YtkeeboomikkojaaGreatDoor
