import Derived.Test.YtkeeboomikkojaaGreatDoorSxReg
namespace Go.Sx
variable  {P:Program}{ω:Amb}{ds:List Deferred}
theorem dX.mono {K K':RT}{X:XT}{r:Result Next}(h:dX P ω K X r)(hk:∀v h',K v h'→K' v h'):dX P ω K' X r:=by
 unfold dX at *
 split at h
 ·exact ⟨h.1,hk _ _ h.2⟩
 ·exact ⟨h.1,hk _ _ h.2⟩
 ·exact ⟨h.1,h.2.mono hk (fun _ _ hh=>hh)⟩
 ·exact h
 ·exact h.elim
section
variable  {ops:Array Oper}{Q:Exit→Act→World→Prop}{md:Region.Mode}
def wpAnyS (P:Program)(md:Region.Mode)(ops:Array Oper)(Q:Exit→Act→World→Prop)(S:Array Bool→World→Prop):Nat→Array Bool→Act→World→Prop
 |0,listed,a,w=>Region.ready md ops listed=[]∧Q .normal a w
 |fuel+1,listed,a,w =>
  (Region.ready md ops listed=[]→Q .normal a w) ∧
  ∀i∈Region.ready md ops listed,wpOp P ops Q i (fun a' w'=>S (listed.setIfInBounds i true) w'∧wpAnyS P md ops Q S fuel (listed.setIfInBounds i true) a' w') a w
theorem vR {S:Array Bool→World→Prop}:∀(fuel:Nat) (listed:Array Bool) (a:Act) (w:World),wpAnyS P md ops Q S fuel listed a w→wpAny P md ops Q fuel listed a w
 |0,_,_,_,h=>h
 |fuel+1,_,_,_,h=>⟨h.1,fun i hi=>wpOp_mono (fun a' w' h'=>vR fuel _ a' w' h'.2) (h.2 i hi)⟩
theorem qy {S S':Array Bool→World→Prop}(hs:∀l w,S' l w→S l w):∀(fuel:Nat) (listed:Array Bool) (a:Act) (w:World),wpAnyS P md ops Q S' fuel listed a w→wpAnyS P md ops Q S fuel listed a w
 |0,_,_,_,h=>h
 |fuel+1,_,_,_,h=>⟨h.1,fun i hi=>wpOp_mono (fun a' w' h'=>⟨hs _ _ h'.1,qy hs fuel _ a' w' h'.2⟩) (h.2 i hi)⟩
theorem ml {S S':Array Bool→World→Prop}(i:Nat)(hs:∀l w,l.getD i false=true→S' l w→S l w) :
  ∀(fuel:Nat) (listed:Array Bool) (a:Act) (w:World),listed.getD i false=true→wpAnyS P md ops Q S' fuel listed a w→wpAnyS P md ops Q S fuel listed a w
 |0,_,_,_,_,h=>h
 |fuel+1,_,_,_,hl,h=>⟨h.1,fun j hj=>wpOp_mono (fun a' w' h'=>⟨hs _ _ (getD_set_true hl) h'.1,ml i hs fuel _ a' w' (getD_set_true hl) h'.2⟩) (h.2 j hj)⟩
def oO (md:Region.Mode)(ops:Array Oper)(listed:Array Bool):Prop :=
 ∀e o,ops[e]?=some o→listed.getD e false=true→∀ed∈o.after,Region.binds md ed=true→listed.getD ed.on false=true
theorem tb {listed:Array Bool}{j e:Nat}(h:(listed.setIfInBounds j true).getD e false=true):e=j∨listed.getD e false=true:=by
 by_cases hje:j=e
 ·exact .inl hje.symm
 ·rw [getD_set_ne false hje] at h;exact .inr h
theorem lj {listed:Array Bool}{j:Nat}(hc:oO md ops listed)(hj:j∈Region.ready md ops listed):oO md ops (listed.setIfInBounds j true):=by
 intro e o he hl ed hed hb;rcases tb hl with rfl|hl
 ·obtain ⟨_,o',ho',hall⟩:=mem_ready.1 hj;rw [he] at ho';cases ho';exact getD_set_true (hall ed hed hb)
 ·exact getD_set_true (hc e o he hl ed hed hb)
theorem qN {listed:Array Bool}{i:Nat}(h:listed.getD i true=false):listed.getD i false=false:=by
 rcases Nat.lt_or_ge i listed.size with h'|h'
 ·simp [h'] at h ⊢;exact h
 ·simp [Array.getElem?_eq_none h'] at h
theorem wpAnyS_first {i:Nat}{oi:Oper}{v:Value}{S S':Array Bool→World→Prop}{T:World→Prop}(hi:ops[i]?=some oi)
  (hsel:∀(j:Nat) (o:Oper) cs b,ops[j]?=some o→o.op≠.select cs b)
  (hQ:∀c a w,Q (.panic c) (a.put oi.dst v) w→Q (.panic c) a w)
  (hmono:∀l w,S' l w→S l w) (hS:∀l w,S' (l.setIfInBounds i true) w→S l w)
  (hT:∀l w,oO md ops l→l.getD i false=false→S' (l.setIfInBounds i true) w→T w) :
  ∀(fuel:Nat) (listed:Array Bool) (a:Act) (w:World),oO md ops listed →
   (∀j oj,ops[j]?=some oj→j≠i→listed.getD j true=false→(∀e∈oj.after,Region.binds md e=true→e.on≠i)→oi.apart ops oj=true) →
   i∈Region.ready md ops listed→YieldsIf P ops T oi v a→S' (listed.setIfInBounds i true) w →
   wpAnyS P md ops Q S' fuel (listed.setIfInBounds i true) (a.put oi.dst v) w→wpAnyS P md ops Q S (fuel+1) listed a w:=by
 intro fuel
 induction fuel with
 |zero =>
  intro listed a w hcl _ hr hy hSw H;have hun:=qN (mem_ready.1 hr).1;refine ⟨fun h=>(by rw [h] at hr;cases hr),fun j hj=>?_⟩
  by_cases hji:j=i
  ·subst hji;exact hy.wpOp hi (hT _ _ hcl hun hSw) ⟨hmono _ _ hSw,H⟩
  ·have:=ready_mono hj hji;rw [H.1] at this;cases this
 |succ fuel ih =>
  intro listed a w hcl hfree hr hy hSw H;have hun:=qN (mem_ready.1 hr).1;refine ⟨fun h=>(by rw [h] at hr;cases hr),fun j hj=>?_⟩
  by_cases hji:j=i
  ·subst hji;exact hy.wpOp hi (hT _ _ hcl hun hSw) ⟨hmono _ _ hSw,qy hmono _ _ _ _ H⟩
  ·have h1:=H.2 j (ready_mono hj hji);obtain ⟨hjun,oj,hoj,hall⟩:=mem_ready.1 hj;have hnot:∀e∈oj.after,Region.binds md e=true→e.on≠i:=fun e he hb heq=>by
    have h1:=hall e he hb;rw [heq,hun] at h1;cases h1
   have h2:=wpOp_putIf hoj (hfree j oj hoj hji hjun hnot) (fun cs b=>hsel i oi cs b hi) (fun cs b=>hsel j oj cs b hoj) hQ hy h1;have hfree':∀k ok,ops[k]?=some ok→k≠i→(listed.setIfInBounds j true).getD k true=false →
     (∀e∈ok.after,Region.binds md e=true→e.on≠i)→oi.apart ops ok=true:=fun k ok hk hki hun hno=>by
    refine hfree k ok hk hki ?_ hno
    by_cases hjk:j=k
    ·subst hjk;exact hjun
    ·rw [getD_set_ne true hjk] at hun;exact hun
   refine wpOp_mono (fun a' w' h3=>?_) h2;obtain ⟨h3y,h3s,h3w⟩:=h3;have hcomm:(listed.setIfInBounds i true).setIfInBounds j true=(listed.setIfInBounds j true).setIfInBounds i true:=Array.setIfInBounds_comm _ _ (Ne.symm hji);rw [hcomm] at h3s h3w;exact ⟨hS _ _ h3s,ih (listed.setIfInBounds j true) a' w' (lj hcl hj) hfree' (ready_mono hr (Ne.symm hji)) h3y h3s h3w⟩
end
def rT (xs ys:List Nat):List Nat:=xs.foldr (fun x acc=>cond (acc.elem x) acc (x::acc)) ys
theorem sn {x:Nat}:∀{xs ys:List Nat},x∈rT xs ys→x∈xs∨x∈ys
 |[],ys,h=>.inr h
 |y::xs,ys,h=>by
  simp only [rT,List.foldr_cons] at h;change x∈cond ((rT xs ys).elem y) (rT xs ys) (y::rT xs ys) at h;cases hb:(rT xs ys).elem y with
  |true =>
   rw [hb] at h;rcases sn h with h|h
   ·exact .inl (Q9 _ h)
   ·exact .inr h
  |false =>
   rw [hb] at h;simp only [cond_false,List.mem_cons] at h;rcases h with rfl|h
   ·exact .inl (Qg ..)
   ·rcases sn h with h|h
    ·exact .inl (Q9 _ h)
    ·exact .inr h
def oS (acc:List (List Nat))(o:Oper):List (List Nat) :=
 acc++[o.after.toList.foldr (fun e s=>cond (Region.binds .any e) (rT (e.on::acc.getD e.on []) s) s) []]
def MC (ops:Array Oper):List (List Nat):=ops.toList.foldl oS []
theorem oY {acc:List (List Nat)}{i:Nat}:∀{es:List Edge},i∈es.foldr (fun e s=>cond (Region.binds .any e) (rT (e.on::acc.getD e.on []) s) s) [] →
  ∃e∈es,Region.binds .any e=true∧(i=e.on∨i∈acc.getD e.on [])
 |[],h=>by cases h
 |e::es,h=>by
  simp only [List.foldr_cons] at h;cases hb:Region.binds .any e with
  |true =>
   rw [hb,cond_true] at h;rcases sn h with h|h
   ·exact ⟨e,Qg ..,hb,by simpa using h⟩
   ·obtain ⟨e',he',r⟩:=oY h;exact ⟨e',Q9 _ he',r⟩
  |false =>
   rw [hb,cond_false] at h;obtain ⟨e',he',r⟩:=oY h;exact ⟨e',Q9 _ he',r⟩
theorem Dr {ops:Array Oper}{listed:Array Bool}(hc:oO .any ops listed):∀(l pre:List Oper) (acc:List (List Nat)),pre++l=ops.toList→acc.length=pre.length →
  (∀e i,i∈acc.getD e []→listed.getD e false=true→listed.getD i false=true) →
  ∀e i,i∈(l.foldl oS acc).getD e []→listed.getD e false=true→listed.getD i false=true
 |[],_,acc,_,_,h=>h
 |o::l,pre,acc,hp,hlen,h=>by
  simp only [List.foldl_cons];refine Dr hc l (pre++[o]) (oS acc o) (by simpa using hp) (by simp [oS,hlen]) ?_
  intro e i hi hl;rcases Nat.lt_or_ge e acc.length with he|he
  ·refine h e i ?_ hl;simpa [oS,List.getD_eq_getElem?_getD,Q5 he] using hi
  ·rcases Nat.eq_or_lt_of_le he with he'|he'
   ·have hi':i∈o.after.toList.foldr (fun e s=>cond (Region.binds .any e) (rT (e.on::acc.getD e.on []) s) s) []:=by
     simpa [oS,List.getD_eq_getElem?_getD,←he'] using hi
    obtain ⟨ed,hed,hb,hon⟩:=oY hi';have hoe:ops[e]?=some o:=by
     rw [←Array.getElem?_toList,←hp,←he',hlen];simp
    have hl1:=hc e o hoe hl ed (by simpa using hed) hb
    rcases hon with rfl|hon
    ·exact hl1
    ·exact h _ _ hon hl1
   ·have:(oS acc o).getD e []=[]:=by
     rw [List.getD_eq_getElem?_getD,List.getElem?_eq_none (by simp [oS];omega)];rfl
    rw [this] at hi;cases hi
theorem Bh {ops:Array Oper}{listed:Array Bool}(hc:oO .any ops listed){e i:Nat}(hi:i∈(MC ops).getD e [])(hl:listed.getD e false=true):listed.getD i false=true :=
 Dr hc ops.toList [] [] rfl rfl (by intro e i h;simp at h) e i hi hl
abbrev Eu:=List (Nat×(Hp→Prop))
def Mu (ps:Eu)(h:Hp)(R:Prop):Prop:=match ps with
 |[]=>R
 |p::ps=>p.2 h∧Mu ps h R
def jJ (as:List Nat):Eu→Eu
 |[]=>[]
 |p::ps=>cond (as.elem p.1) (jJ as ps) (p::jJ as ps)
def O1:List Prop→Prop
 |[]=>False
 |[a]=>a
 |a::b::l=>a∧O1 (b::l)
theorem Ce:∀{l:List Prop} {a:Prop},O1 l→a∈l→a
 |[],_,h,_=>h.elim
 |[b],a,h,ha=>by
  have:a=b:=by simpa using ha
  subst this;exact h
 |b::c::l,a,h,ha=>by
  rcases List.mem_cons.1 ha with rfl|ha
  ·exact h.1
  ·exact Ce h.2 ha
theorem Lw {l:List Prop}(h:O1 l):l≠[]:=by rintro rfl;exact h
def Ok (P:Program)(ω:Amb)(ops:Array Oper)(an:List (List Nat))(X:XT)(C:List Nat→Array Bool→Eu→Fr→Hp→Prop)(i:Nat)(sk:List Nat)(listed:Array Bool)(pend:Eu)(fr:Fr)(h:Hp):Prop :=
 match ops[i]? with
 |none=>False
 |some o =>
  cond (lH P o.op)
   (sX ops sk o fr (fun fr'=>qx P o.op (ev fr') h fun v _=>C (Ej sk o.dst) (listed.setIfInBounds i true) pend (put fr' o.dst v) h)
    (fun fr'=>C (G7 sk o.dst) (listed.setIfInBounds i true) pend (put fr' o.dst undef) h))
   (sX ops sk o fr (fun fr'=>opx P ω o.op (ev fr') h (fun v h'=>Mu (jJ (an.getD i []) pend) h' (C (Ej sk o.dst) (listed.setIfInBounds i true) (jJ (an.getD i []) pend) (put fr' o.dst v) h')) X)
    (fun fr'=>C (G7 sk o.dst) (listed.setIfInBounds i true) pend (put fr' o.dst undef) h))
def rx (P:Program)(ω:Amb)(ops:Array Oper)(an:List (List Nat))(K:Fr→Hp→Prop)(X:XT):Nat→List Nat→List Nat→Array Bool→Eu→Fr→Hp→Prop
 |0,_,_,listed,_,fr,h=>cond ((Region.ready .any ops listed).isEmpty) (K fr h) False
 |_+1,[],_,_,_,_,_=>False
 |n+1,i::rest,sk,listed,pend,fr,h=>match ops[i]? with
  |none=>False
  |some o =>
   cond (lH P o.op&&(Region.free .any ops listed i&&(Region.ready .any ops listed).contains i))
    (sX ops sk o fr (fun fr'=>qx P o.op (ev fr') h fun v st=>rx P ω ops an K X n rest (Ej sk o.dst) (listed.setIfInBounds i true) (cond (wJ o.op) ((i,st)::pend) pend) (put fr' o.dst v) h)
     (fun fr'=>rx P ω ops an K X n rest (G7 sk o.dst) (listed.setIfInBounds i true) pend (put fr' o.dst undef) h))
    (O1 ((Region.ready .any ops listed).map fun j=>Ok P ω ops an X (fun sk l p fr h=>rx P ω ops an K X n ((i::rest).erase j) sk l p fr h) j sk listed pend fr h))
def Sp (P:Program)(ω:Amb)(ops:Array Oper)(pend:Eu)(listed:Array Bool)(w:World):Prop :=
 (∃d,w=W ω w.heap d)∧∀p∈pend,(∃e o,ops[e]?=some o∧lH P o.op=false∧listed.getD e false=true∧p.1∈(MC ops).getD e [])∨p.2 w.heap
theorem Sp.quiet {ops:Array Oper}{pend:Eu}{listed:Array Bool}{w:World}{i:Nat}{o:Oper}(hi:ops[i]?=some o)(hq:lH P o.op=true) :
  Sp P ω ops pend (listed.setIfInBounds i true) w↔Sp P ω ops pend listed w:=by
 unfold Sp;refine and_congr Iff.rfl (forall_congr' fun p=>forall_congr' fun _=>or_congr ⟨?_,?_⟩ Iff.rfl)
 ·rintro ⟨e,o',he,hqe,hl,ha⟩;rcases tb hl with rfl|hl
  ·rw [hi] at he;cases he;rw [hq] at hqe;cases hqe
  ·exact ⟨e,o',he,hqe,hl,ha⟩
 ·rintro ⟨e,o',he,hqe,hl,ha⟩;exact ⟨e,o',he,hqe,getD_set_true hl,ha⟩
theorem Sp.more {ops:Array Oper}{pend:Eu}{listed:Array Bool}{w:World}(i:Nat)(h:Sp P ω ops pend listed w):Sp P ω ops pend (listed.setIfInBounds i true) w :=
 ⟨h.1,fun p hp=>(h.2 p hp).imp (fun ⟨e,o,he,hq,hl,ha⟩=>⟨e,o,he,hq,getD_set_true hl,ha⟩) id⟩
theorem pj {as:List Nat}{p:Nat×(Hp→Prop)}:∀{ps:Eu},p∈ps→p∈jJ as ps∨p.1∈as
 |q::ps,h=>by
  unfold jJ;cases hb:as.elem q.1 with
  |true =>
   rcases List.mem_cons.1 h with rfl|h
   ·exact .inr (by simpa using hb)
   ·exact pj h
  |false =>
   rcases List.mem_cons.1 h with rfl|h
   ·exact .inl (Qg ..)
   ·exact (pj h).imp (Q9 _) id
theorem zW:∀{ps:Eu} {h:Hp} {R:Prop},Mu ps h R→(∀p∈ps,p.2 h)∧R
 |[],_,_,hs=>⟨by simp,hs⟩
 |p::ps,h,R,hs=>by
  obtain ⟨h1,h2⟩:=zW hs.2;exact ⟨fun q hq=>by
   rcases List.mem_cons.1 hq with rfl|hq
   ·exact hs.1
   ·exact h1 q hq,h2⟩
theorem jK {ops:Array Oper}(hsel:Region.noSelect ops=true){K:Fr→Hp→Prop}{X:XT}{fr0:Fr} :
  ∀(n:Nat) (l sk:List Nat) (listed:Array Bool) (pend:Eu) (fr:Fr) (h:Hp),rx P ω ops (MC ops) K X n l sk listed pend fr h→Skd sk fr→oO .any ops listed →
  (∀d,Sp P ω ops pend listed (W ω h d))→b5 (Ev ops) fr0 fr→∀d,wpAnyS P .any ops (Qr ω ds (Kpt ds (Ev ops) fr0) (fun fr h=>K fr h∧b5 (Ev ops) fr0 fr) X) (Sp P ω ops pend) n listed (dt ds fr) (W ω h d)
 |0,_,_,listed,pend,fr,h,hk,_,hc,hS,hag,d=>by
  simp only [rx] at hk;cases hb:(Region.ready .any ops listed).isEmpty with
  |false=>rw [hb] at hk;exact hk.elim
  |true =>
   rw [hb,cond_true] at hk;exact ⟨by simpa using hb,⟨d,rfl⟩,fr,rfl,hk,hag⟩
 |n+1,[],sk,listed,pend,fr,h,hk,hsk,hc,hS,hag,d=>by
  simp only [rx] at hk
 |n+1,i::rest,sk,listed,pend,fr,h,hk,hsk,hc,hS,hag,d=>by
  simp only [rx] at hk
  split at hk
  ·exact hk.elim
  ·rename_i o hi;cases hf:(lH P o.op&&(Region.free .any ops listed i&&(Region.ready .any ops listed).contains i)) with
   |true =>
    rw [hf,cond_true] at hk;simp only [Qq] at hf;obtain ⟨hq,hf⟩:=hf;have hp:=fun v=>hag.put (qS hi) v;have hr:i∈Region.ready .any ops listed:=by simpa using hf.2
    rcases pJ hsk hk with ⟨hw,hk⟩|⟨hw,hk⟩
    ·obtain ⟨v,st,hst,hk,hld,hrun⟩:=xl o (ev fr) h _ hk
     -- the operation's own fact joins those that must stand,if it is a load
     have hy:YieldsIf P ops (fun w=>(∃d,w=W ω w.heap d)∧st w.heap) o v (dt ds fr) :=
      .inl ⟨hw,fun w ⟨⟨d,hd⟩,hs⟩=>by rw [mf,hd];exact hrun ω w.heap d hs⟩
     have hS1:∀d,Sp P ω ops ((i,st)::pend) listed (W ω h d):=fun d=>⟨⟨d,rfl⟩,fun p hp=>by
      rcases List.mem_cons.1 hp with rfl|hp
      ·exact .inr hst
      ·exact (hS d).2 p hp⟩
     have hcl:=lj hc hr;have tail:wpAnyS P .any ops (Qr ω ds (Kpt ds (Ev ops) fr0) (fun fr h=>K fr h∧b5 (Ev ops) fr0 fr) X) (Sp P ω ops ((i,st)::pend)) n (listed.setIfInBounds i true) (dt ds (put fr o.dst v)) (W ω h d):=by
      cases hl:wJ o.op with
      |true =>
       rw [hl,cond_true] at hk;exact jK hsel n rest _ _ _ _ h hk (hsk.put _ _) hcl (fun d=>(Sp.quiet hi hq).2 (hS1 d)) (hp _) d
      |false =>
       rw [hl,cond_false] at hk;have:=jK hsel n rest _ _ _ _ h hk (hsk.put _ _) hcl (fun d=>(Sp.quiet hi hq).2 (hS d)) (hp _) d;refine qy (fun l w hs=>⟨hs.1,fun p hp=>?_⟩) _ _ _ _ this;rcases List.mem_cons.1 hp with rfl|hp
       ·rw [hld hl];exact .inr trivial
       ·exact hs.2 p hp
     rw [←lM] at tail;refine wpAnyS_first (S':=Sp P ω ops ((i,st)::pend)) (T:=fun w=>(∃d,w=W ω w.heap d)∧st w.heap) hi (Region.noSelect_spec hsel) (fun c a w hh=>⟨hh.1,Kpt.Nj (qS hi) hh.2.1,hh.2.2⟩)
      (fun l w hs=>⟨hs.1,fun p hp=>hs.2 p (Q9 _ hp)⟩) (fun l w hs=>?_) (fun l w hcl hun hs=>⟨hs.1,?_⟩) n listed _ _ hc
      (fun j oj=>Region.free_spec hi hf.1 j oj) hr hy ((Sp.quiet hi hq).2 (hS1 d)) tail
     ·have:=(Sp.quiet hi hq).1 hs;exact ⟨this.1,fun p hp=>this.2 p (Q9 _ hp)⟩
     ·have:=(Sp.quiet hi hq).1 hs;rcases this.2 (i,st) (Qg ..) with ⟨e,o',he,_,hl,ha⟩|hs
      ·have:=Bh hcl ha hl;simp only at this;rw [hun] at this;cases this
      ·exact hs
    ·have hy:YieldsIf P ops (fun w=>∃d,w=W ω w.heap d) o undef (dt ds fr):=.inr ⟨hw,rfl⟩;have hcl:=lj hc hr;have tail:=jK hsel n rest _ _ _ _ h hk (hsk.skip _) hcl (fun d=>(Sp.quiet hi hq).2 (hS d)) (hp _) d;rw [←lM] at tail;exact wpAnyS_first (S':=Sp P ω ops pend) (T:=fun w=>∃d,w=W ω w.heap d) hi (Region.noSelect_spec hsel) (fun c a w hh=>⟨hh.1,Kpt.Nj (qS hi) hh.2.1,hh.2.2⟩)
      (fun l w hs=>hs) (fun l w hs=>(Sp.quiet hi hq).1 hs) (fun l w _ _ hs=>hs.1) n listed _ _ hc
      (fun j oj=>Region.free_spec hi hf.1 j oj) hr hy ((Sp.quiet hi hq).2 (hS d)) tail
   |false =>
    rw [hf,cond_false] at hk;clear hi hf;have hne:Region.ready .any ops listed≠[]:=fun h0=>Lw hk (by rw [h0];rfl)
    refine ⟨fun h0=>absurd h0 hne,fun j hj=>?_⟩;have hk:=Ce hk (List.mem_map.2 ⟨j,hj,rfl⟩);have hcl:=lj hc hj;have hil:(listed.setIfInBounds j true).getD j false=true:=by
     have h0:=(mem_ready.1 hj).1;have hlt:j < listed.size:=by
      rcases Nat.lt_or_ge j listed.size with h'|h'
      ·exact h'
      ·simp [Array.getElem?_eq_none h'] at h0
     simp [hlt]
    unfold Ok at hk
    split at hk
    ·exact hk.elim
    ·rename_i oj hi;have hp:=fun v=>hag.put (qS hi) v;cases hq:lH P oj.op with
     |true =>
      rw [hq,cond_true] at hk;rcases pJ hsk hk with ⟨hw,hk⟩|⟨hw,hk⟩
      ·obtain ⟨v,st,hst,hk,hld,hrun⟩:=xl oj (ev fr) h _ hk;refine pc hi (Kpt.of hag) hw ?_;rw [hrun ω h d hst];exact ⟨⟨d,rfl⟩,fun d=>⟨(Sp.quiet hi hq).2 (hS d),jK hsel n _ _ _ _ _ h hk (hsk.put _ _) hcl (fun d=>(Sp.quiet hi hq).2 (hS d)) (hp _) d⟩⟩
      ·exact tU hi hw ⟨(Sp.quiet hi hq).2 (hS d),jK hsel n _ _ _ _ _ h hk (hsk.skip _) hcl (fun d=>(Sp.quiet hi hq).2 (hS d)) (hp _) d⟩
     |false =>
      rw [hq,cond_false] at hk;rcases pJ hsk hk with ⟨hw,hk⟩|⟨hw,hk⟩
      ·refine pc hi (Kpt.of hag) hw ((tP oj (ev fr) h _ X hk d).mono fun v h' hh d=>?_);obtain ⟨h1,h2⟩:=zW hh;have key:∀(l:Array Bool) (w:World),l.getD j false=true→Sp P ω ops (jJ ((MC ops).getD j []) pend) l w→Sp P ω ops pend l w:=fun l w hl hs=>⟨hs.1,fun p hp=>by
        rcases pj (as:=(MC ops).getD j []) hp with hp|hp
        ·exact hs.2 p hp
        ·exact .inl ⟨j,oj,hi,hq,hl,hp⟩⟩
       have hS':∀d,Sp P ω ops (jJ ((MC ops).getD j []) pend) (listed.setIfInBounds j true) (W ω h' d):=fun d=>⟨⟨d,rfl⟩,fun p hp=>.inr (h1 p hp)⟩;exact ⟨key _ _ hil (hS' d),ml j key _ _ _ _ hil (jK hsel n _ _ _ _ _ h' h2 (hsk.put _ _) hcl hS' (hp _) d)⟩
      ·exact tU hi hw ⟨(hS d).more j,jK hsel n _ _ _ _ _ h hk (hsk.skip _) hcl (fun d=>(hS d).more j) (hp _) d⟩
def LV (P:Program)(ω:Amb)(ops:Array Oper)(K:Fr→Hp→Prop)(X:XT)(l:List Nat)(fr:Fr)(h:Hp):Prop :=
 cond (Region.noSelect ops&&l.length==ops.size&&P.follows .mixedOrders) (rx P ω ops (MC ops) K X ops.size l [] (Array.replicate ops.size false) [] fr h) False
theorem BB {ops:Array Oper}{K:Fr→Hp→Prop}{X:XT}{l:List Nat}{fr:Fr}{h:Hp}(hk:LV P ω ops K X l fr h)(id d:Nat) :
  (Code.region id ops true).wp P (Qr ω ds (Kpt ds (Ev ops) fr) (fun fr' h=>K fr' h∧b5 (Ev ops) fr fr') X) (dt ds fr) (W ω h d):=by
 unfold LV at hk;cases hb:(Region.noSelect ops&&l.length==ops.size&&P.follows .mixedOrders) with
 |false=>rw [hb] at hk;exact hk.elim
 |true =>
  rw [hb,cond_true] at hk;simp only [Qq,beq_iff_eq] at hb;refine wp_region_any hb.2 ?_;have hcl:oO .any ops (Array.replicate ops.size false):=by
   intro e o he hl;have:(Array.replicate ops.size false).getD e false=false:=by
    rw [Array.getD_eq_getD_getElem?];rcases Nat.lt_or_ge e ops.size with h'|h'
    ·rw [Array.getElem?_eq_getElem (by simpa using h')];simp
    ·rw [Array.getElem?_eq_none (by simpa using h')];rfl
   rw [this] at hl;cases hl
  have:=jK (ds:=ds) hb.1.1 ops.size l [] (Array.replicate ops.size false) [] fr h hk (by intro s hs;cases hs) hcl (fun d=>⟨⟨d,rfl⟩,by simp⟩) (b5.refl _ fr) (d+1)
  exact vR _ _ _ _ this
end Go.Sx
