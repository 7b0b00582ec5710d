import Derived.Test.YtkeeboomikkojaaGreatDoorSxDraw
namespace Go.Sx
variable  {P:Program}{ω:Amb}{ds:List Deferred}
inductive Ann
 |L
 |plan (l:List Nat)
 |T (a b:Ann)
 |one (a:Ann)
 |loop (mods live:List Nat) (a:Ann)
 |join (mods live:List Nat) (a:Ann)
 |jb (mods:List Nat) (s:Nat) (a:Ann)
def writes:Code→List Nat
 |.region _ ops _=>Ev ops
 |.seq a b=>writes a++writes b
 |.cond _ a b=>writes a++writes b
 |.block _ a=>writes a
 |.loop a=>writes a
 |_=>[]
def AY (a b:List Nat):Bool:=a.all fun x=>b.elem x
theorem px {a b:List Nat}(h:AY a b=true){x:Nat}(hx:x∈a):x∈b:=by
 simp only [AY,List.all_eq_true] at h;simpa using h x hx
abbrev Fn:Nat→Type→Type
 |0,T=>T
 |n+1,T=>Value→Fn n T
def ap {T:Type}:(n:Nat)→Fn n T→List Value→T
 |0,f,_=>f
 |n+1,f,v::vs=>ap n (f v) vs
 |n+1,f,[]=>ap n (f undef) []
def O2:Nat→(List Value→Prop)→Prop
 |0,F=>F []
 |n+1,F=>∀v,O2 n fun vs=>F (v::vs)
theorem tk:∀{n:Nat} {F:List Value→Prop},O2 n F→∀vs:List Value,vs.length=n→F vs
 |0,F,h,vs,hl=>by rw [List.eq_nil_of_length_eq_zero hl];exact h
 |n+1,F,h,v::vs,hl=>tk (h v) vs (by simpa using hl)
def H7:List Nat→List Value→Nat→Option Value
 |l::ls,v::vs,i=>cond (Nat.beq l i) (some v) (H7 ls vs i)
 |_,_,_=>none
def wX (mods live:List Nat)(vs:List Value)(dead:Nat→Value):Nat→Fr→Fr
 |_,[]=>[]
 |i,v::r=>(match H7 live vs i with|some x=>x|none=>cond (mods.elem i) (dead i) v)::wX mods live vs dead (i+1) r
def zv (fr:Fr)(mods live:List Nat)(vs:List Value)(dead:Nat→Value):Fr:=wX mods live vs dead 0 fr
def look (fr:Fr)(live:List Nat):List Value:=live.map fun i=>fr.getD i undef
theorem vW {fr:Fr}:∀{live:List Nat} {i:Nat} {x:Value},H7 live (look fr live) i=some x→x=fr.getD i undef
 |[],i,x,h=>by cases h
 |l::ls,i,x,h=>by
  simp only [look,List.map_cons,H7] at h;cases hb:Nat.beq l i with
  |true =>
   rw [hb,cond_true] at h;have:l=i:=Nat.eq_of_beq_eq_true hb;subst this;exact (Z2 h).symm
  |false=>rw [hb,cond_false] at h;exact vW h
theorem wF {mods live:List Nat}{fr':Fr}{dead:Nat→Value}(hd:∀i,dead i=fr'.getD i undef):∀(fr:Fr) (k:Nat) (r:Fr),r.length=fr.length →
  (∀j,r.getD j undef=fr'.getD (k+j) undef)→(∀j,(k+j)∉mods→r.getD j undef=fr.getD j undef)→wX mods live (look fr' live) dead k fr=r
 |[],k,r,hl,_,_=>by
  have:r=[]:=List.eq_nil_of_length_eq_zero (by simpa using hl)
  rw [this];rfl
 |v::fr,k,[],hl,_,_=>by simp at hl
 |v::fr,k,x::r,hl,h1,h2=>by
  have hx:x=fr'.getD k undef:=by simpa using h1 0
  simp only [wX]
  congr 1
  ·split
   ·rename_i y hy;rw [vW hy,hx]
   ·cases hm:mods.elem k with
    |true=>rw [cond_true,hd,hx]
    |false =>
     have:=h2 0 (by simpa using hm)
     simpa using this.symm
  ·refine wF hd fr (k+1) r (by simpa using hl) (fun j=>?_) (fun j hj=>?_)
   ·have:=h1 (j+1);rw [show k+(j+1)=k+1+j by omega] at this
    simpa using this
   ·have:=h2 (j+1) (by rw [show k+(j+1)=k+1+j by omega];exact hj)
    simpa using this
theorem dq {mods live:List Nat}{fr fr':Fr}(h:b5 mods fr fr'):zv fr mods live (look fr' live) (fun i=>fr'.getD i undef)=fr' :=
 wF (fun _=>rfl) fr 0 fr' h.1 (fun j=>by rw [Zc]) (fun j hj=>h.2 j (by simpa using hj))
def wpx (P : Program) (ω : Amb) (X : XT) : Ann → Code → (Exit → Fr → Hp → Prop) → Fr → Hp → Prop
  | .L, .skip, K, fr, h => K .normal fr h
  | .L, .label _, K, fr, h => K .normal fr h
  | .L, .exit id, K, fr, h => K (.exit id) fr h
  | .L, .ret, K, fr, h => K .ret fr h
  | .L, .region _ ops false, K, fr, h => sx P ω ops (fun fr' h' => K .normal fr' h') X (List.range ops.size) [] fr h
  | .plan l, .region _ ops true, K, fr, h => LV P ω ops (fun fr' h' => K .normal fr' h') X l fr h
  | .T a b, .seq x y, K, fr, h => wpx P ω X a x (fun e fr' h' => match e with | .normal => wpx P ω X b y K fr' h' | e => K e fr' h') fr h
  | .T a b, .cond c x y, K, fr, h => brV (ev fr c) fun t => cond t (wpx P ω X a x K fr h) (wpx P ω X b y K fr h)
  | .one a, .block id x, K, fr, h => wpx P ω X a x (fun e fr' h' => match e with | .exit id' => cond (Nat.beq id' id) (K .normal fr' h') (K (.exit id') fr' h') | e => K e fr' h') fr h
  | .loop mods live a, .loop x, K, fr, h => cond (AY (writes x) mods && AY live mods)
      (∃ (I : Fn live.length (Hp → Prop)) (μ : Fn live.length (Hp → Nat)), ap live.length I (look fr live) h ∧ O2 live.length fun vs => ∀ (dead : Nat → Value) (h' : Hp), ap live.length I vs h' →
        wpx P ω X a x (fun e fr' h'' => match e with
          | .normal => ap live.length I (look fr' live) h'' ∧ ap live.length μ (look fr' live) h'' < ap live.length μ (look (zv fr mods live vs dead) live) h'
          | e => K e fr' h'') (zv fr mods live vs dead) h') False
  | .join mods live a, c, K, fr, h => cond (AY (writes c) mods && AY live mods)
      (∃ J : Fn live.length (Hp → Prop), wpx P ω X a c (fun e fr' h' => match e with | .normal => ap live.length J (look fr' live) h' | e => K e fr' h') fr h ∧
        O2 live.length fun vs => ∀ (dead : Nat → Value) (h' : Hp), ap live.length J vs h' → K .normal (zv fr mods live vs dead) h') False
  | .jb mods s a, c, K, fr, h => cond (AY (writes c) mods && mods.elem s)
      (∃ β : Bool, wpx P ω X a c (fun e fr' h' => match e with | .normal => fr'.getD s undef = .bool β ∧ h' = h | e => K e fr' h') fr h ∧
        ∀ dead : Nat → Value, K .normal (zv fr mods [s] [.bool β] dead) h) False
  | _, _, _, _, _ => False
def Qx (ω:Amb)(ds:List Deferred)(ws:List Nat)(fr0:Fr)(K:Exit→Fr→Hp→Prop)(X:XT):Exit→Act→World→Prop:=fun e a w =>
 (∃d,w=W ω w.heap d)∧match e with
 |.panic c=>Kpt ds ws fr0 a∧X c w.heap
 |.outgrown=>False
 |e=>∃fr,a=dt ds fr∧b5 ws fr0 fr∧K e fr w.heap
theorem At {fr:Fr}{c:Operand}{G:Bool→Prop}(h:brV (ev fr c) G):∃t,(dt ds fr).eval c=.bool t∧G t:=by
 rw [mf];obtain ⟨t,ht,h⟩:=j9 h;cases t
 ·exact ⟨false,ht,h⟩
 ·exact ⟨true,ht,h⟩
theorem Qx.cases {ws:List Nat}{fr0:Fr}{K:Exit→Fr→Hp→Prop}{X:XT}{Q:Exit→Act→World→Prop}
  (h1:∀e fr h d,b5 ws fr0 fr→K e fr h→(∀c,e≠.panic c)→e≠.outgrown→Q e (dt ds fr) (W ω h d)) (h2:∀(c:List PanicEntry) (a:Act) (h:Hp) (d:Nat),Kpt ds ws fr0 a→X c h→Q (.panic c) a (W ω h d)) :
  ∀e a w,Qx ω ds ws fr0 K X e a w→Q e a w:=by
 intro e a w hq;obtain ⟨⟨d,hd⟩,hq⟩:=hq;rw [hd];cases e<;>first
  |exact h2 _ _ _ _ hq.1 hq.2
  |exact hq.elim
  |(obtain ⟨fr,rfl,ha,hk⟩:=hq;exact h1 _ _ _ _ ha hk (by simp) (by simp))
theorem Qx.mk {ws:List Nat}{fr0 fr:Fr}{K:Exit→Fr→Hp→Prop}{X:XT}{e:Exit}{h:Hp}(d:Nat)(he:∀c,e≠.panic c)(ho:e≠.outgrown)(ha:b5 ws fr0 fr)(hk:K e fr h) :
  Qx ω ds ws fr0 K X e (dt ds fr) (W ω h d):=by
 refine ⟨⟨d,rfl⟩,?_⟩;cases e<;>first
  |exact absurd rfl (he _)
  |exact absurd rfl ho
  |exact ⟨fr,rfl,ha,hk⟩
theorem lT {fr:Fr}{live:List Nat}:(look fr live).length=live.length:=by simp [look]
theorem bP {X:XT}:∀(an:Ann) (c:Code) (K:Exit→Fr→Hp→Prop) (fr:Fr) (h:Hp),wpx P ω X an c K fr h→∀d,c.wp P (Qx ω ds (writes c) fr K X) (dt ds fr) (W ω h d)
 |.L,c,K,fr,h,hk,d=>by
  cases c<;>try exact hk.elim
  ·exact wp_skip (Qx.mk d (by simp) (by simp) (b5.refl _ _) hk)
  ·rename_i id ops draw;cases draw<;>try exact hk.elim
   refine wp_mono (wp_region (pL _ _ fr h hk (by intro s hs;cases hs) (b5.refl _ fr) d)) ?_
   rintro e a w ⟨⟨d',hd⟩,hq⟩;cases e<;>first
    |exact ⟨⟨d',hd⟩,hq⟩
    |exact hq.elim
    |(obtain ⟨fr',rfl,hk,ha⟩:=hq;exact ⟨⟨d',hd⟩,fr',rfl,ha,hk⟩)
  ·exact wp_exit (Qx.mk d (by simp) (by simp) (b5.refl _ _) hk)
  ·exact wp_label (Qx.mk d (by simp) (by simp) (b5.refl _ _) hk)
  ·exact wp_ret (Qx.mk d (by simp) (by simp) (b5.refl _ _) hk)
 |.plan l,c,K,fr,h,hk,d=>by
  cases c<;>try exact hk.elim
  rename_i id ops draw;cases draw<;>try exact hk.elim
  refine wp_mono (BB hk id d) ?_;rintro e a w ⟨⟨d',hd⟩,hq⟩;cases e<;>first
   |exact ⟨⟨d',hd⟩,hq⟩
   |exact hq.elim
   |(obtain ⟨fr',rfl,hk,ha⟩:=hq;exact ⟨⟨d',hd⟩,fr',rfl,ha,hk⟩)
 |.T an bn,c,K,fr,h,hk,d=>by
  cases c<;>try exact hk.elim
  ·rename_i x y;refine wp_seq (wp_mono (bP an x _ fr h hk d) (Qx.cases (fun e fr1 h1 d1 ha hk1 he ho=>?_) (fun c a h d ha hx=>⟨⟨d,rfl⟩,ha.mono fun i hi=>List.mem_append_left _ hi,hx⟩)));have ham:b5 (writes (Code.seq x y)) fr fr1:=ha.mono fun i hi=>List.mem_append_left _ hi;cases e with
   |panic c=>exact absurd rfl (he c)
   |outgrown=>exact absurd rfl ho
   |normal=>exact wp_mono (bP bn y K fr1 h1 hk1 d1) (Qx.cases (fun e fr2 h2 d2 ha2 hk2 he2 ho2=>Qx.mk d2 he2 ho2 (ha.trans ha2) hk2) (fun c a h d ha3 hx=>⟨⟨d,rfl⟩,Kpt.trans ha ha3,hx⟩))
   |exit id=>exact Qx.mk (K:=K) (X:=X) d1 (by simp) (by simp) ham hk1
   |goto l=>exact Qx.mk (K:=K) (X:=X) d1 (by simp) (by simp) ham hk1
   |ret=>exact Qx.mk (K:=K) (X:=X) d1 (by simp) (by simp) ham hk1
  ·rename_i c x y;obtain ⟨t,ht,hk⟩:=At hk;refine wp_cond ht ?_;cases t
   ·exact wp_mono (bP bn y K fr h hk d) (Qx.cases (fun e fr2 h2 d2 ha2 hk2 he2 ho2=>Qx.mk d2 he2 ho2 (ha2.mono fun i hi=>List.mem_append_right _ hi) hk2) (fun c a h d ha hx=>⟨⟨d,rfl⟩,ha.mono fun i hi=>List.mem_append_right _ hi,hx⟩))
   ·exact wp_mono (bP an x K fr h hk d) (Qx.cases (fun e fr2 h2 d2 ha2 hk2 he2 ho2=>Qx.mk d2 he2 ho2 (ha2.mono fun i hi=>List.mem_append_left _ hi) hk2) (fun c a h d ha hx=>⟨⟨d,rfl⟩,ha.mono fun i hi=>List.mem_append_left _ hi,hx⟩))
 |.one an,c,K,fr,h,hk,d=>by
  cases c<;>try exact hk.elim
  rename_i id x;refine wp_block (wp_mono (bP an x _ fr h hk d) (Qx.cases (fun e fr1 h1 d1 ha hk1 he ho=>?_) (fun c a h d ha hx=>⟨⟨d,rfl⟩,ha,hx⟩)));cases e with
  |panic c=>exact absurd rfl (he c)
  |outgrown=>exact absurd rfl ho
  |normal=>exact Qx.mk (K:=K) (X:=X) d1 (by simp) (by simp) ha hk1
  |goto l=>exact Qx.mk (K:=K) (X:=X) d1 (by simp) (by simp) ha hk1
  |ret=>exact Qx.mk (K:=K) (X:=X) d1 (by simp) (by simp) ha hk1
  |exit id' =>
   simp only [Exit.inBlock];simp only at hk1;cases hb:Nat.beq id' id with
   |true =>
    rw [hb,cond_true] at hk1;rw [if_pos (Nat.eq_of_beq_eq_true hb)];exact Qx.mk (K:=K) (X:=X) d1 (by simp) (by simp) ha hk1
   |false =>
    rw [hb,cond_false] at hk1;rw [if_neg (fun e=>by subst e;simp at hb)]
    exact Qx.mk (K:=K) (X:=X) d1 (by simp) (by simp) ha hk1
 |.loop mods live an,c,K,fr,h,hk,d=>by
  cases c<;>try exact hk.elim
  rename_i x;simp only [wpx] at hk;cases hs:(AY (writes x) mods&&AY live mods) with
  |false=>rw [hs] at hk;exact hk.elim
  |true =>
   rw [hs,cond_true] at hk;simp only [Qq] at hs;obtain ⟨I,μ,h0,hr⟩:=hk
   -- the frame at a round's head
   refine wp_loop (fun a w=>(∃d,w=W ω w.heap d)∧∃vs dead,vs.length=live.length∧a=dt ds (zv fr mods live vs dead)∧b5 (writes x) fr (zv fr mods live vs dead)∧ap live.length I vs w.heap)
    (fun a w=>ap live.length μ (look a.tmps.toList live) w.heap) ⟨⟨d,rfl⟩,look fr live,_,lT,by rw [dq (b5.refl _ _)],by rw [dq (b5.refl _ _)];exact b5.refl _ _,h0⟩ ?_
   rintro a w ⟨⟨d1,hd1⟩,vs,dead,hvl,rfl,hag,hI⟩;have:=bP an x _ _ _ (tk hr vs hvl dead w.heap hI) d1;rw [←hd1] at this;have hkk:∀{a:Act},Kpt ds (writes x) (zv fr mods live vs dead) a→Kpt ds (writes (Code.loop x)) fr a:=fun ha=>(Kpt.trans hag ha).mono fun i hi=>(Z3.1 hi).elim id id;refine wp_mono this (Qx.cases (fun e fr1 h1 d1 ha hk1 he ho=>?_) (fun c a h d ha hx=>⟨⟨d,rfl⟩,hkk ha,hx⟩));have hfull:b5 (writes x) fr fr1:=(hag.trans ha).mono fun i hi=>by simpa using hi
   cases e with
   |panic c=>exact absurd rfl (he c)
   |outgrown=>exact absurd rfl ho
   |exit id=>exact Qx.mk (K:=K) (X:=X) d1 (by simp) (by simp) hfull hk1
   |goto l=>exact Qx.mk (K:=K) (X:=X) d1 (by simp) (by simp) hfull hk1
   |ret=>exact Qx.mk (K:=K) (X:=X) d1 (by simp) (by simp) hfull hk1
   |normal =>
    refine ⟨⟨⟨d1,rfl⟩,look fr1 live,fun i=>fr1.getD i undef,lT,?_,?_,hk1.1⟩,?_⟩
    ·rw [dq (hfull.mono fun i hi=>px hs.1 hi)]
    ·rw [dq (hfull.mono fun i hi=>px hs.1 hi)];exact hfull
    ·simpa [dt,W] using hk1.2
 |.join mods live an,c,K,fr,h,hk,d=>by
  simp only [wpx] at hk;cases hs:(AY (writes c) mods&&AY live mods) with
  |false=>rw [hs] at hk;exact hk.elim
  |true =>
   rw [hs,cond_true] at hk;simp only [Qq] at hs;obtain ⟨J,h0,hr⟩:=hk;refine wp_mono (bP an c _ fr h h0 d) (Qx.cases (fun e fr1 h1 d1 ha hk1 he ho=>?_) (fun c a h d ha hx=>⟨⟨d,rfl⟩,ha,hx⟩));cases e with
   |panic c=>exact absurd rfl (he c)
   |outgrown=>exact absurd rfl ho
   |exit id=>exact Qx.mk (K:=K) (X:=X) d1 (by simp) (by simp) ha hk1
   |goto l=>exact Qx.mk (K:=K) (X:=X) d1 (by simp) (by simp) ha hk1
   |ret=>exact Qx.mk (K:=K) (X:=X) d1 (by simp) (by simp) ha hk1
   |normal =>
    have:=tk hr (look fr1 live) lT (fun i=>fr1.getD i undef) h1 hk1;rw [dq (ha.mono fun i hi=>px hs.1 hi)] at this;exact Qx.mk d1 he ho ha this
 |.jb mods s an,c,K,fr,h,hk,d=>by
  simp only [wpx] at hk;cases hs:(AY (writes c) mods&&mods.elem s) with
  |false=>rw [hs] at hk;exact hk.elim
  |true =>
   rw [hs,cond_true] at hk;simp only [Qq] at hs;obtain ⟨β,h0,hr⟩:=hk;refine wp_mono (bP an c _ fr h h0 d) (Qx.cases (fun e fr1 h1 d1 ha hk1 he ho=>?_) (fun c a h d ha hx=>⟨⟨d,rfl⟩,ha,hx⟩));cases e with
   |panic c=>exact absurd rfl (he c)
   |outgrown=>exact absurd rfl ho
   |exit id=>exact Qx.mk (K:=K) (X:=X) d1 (by simp) (by simp) ha hk1
   |goto l=>exact Qx.mk (K:=K) (X:=X) d1 (by simp) (by simp) ha hk1
   |ret=>exact Qx.mk (K:=K) (X:=X) d1 (by simp) (by simp) ha hk1
   |normal =>
    obtain ⟨hb,rfl⟩:=hk1;have:=hr (fun i=>fr1.getD i undef);rw [show [Value.bool β]=look fr1 [s] by simp only [look,List.map_cons,List.map_nil,hb],dq (ha.mono fun i hi=>px hs.1 hi)] at this
    exact Qx.mk d1 he ho ha this
def Br (P:Program):List ResultVar→Fr→Hp→List Value→(Value→Prop)→Prop
 |[],_,_,acc,R=>R (match acc with|[v]=>v|vs=>.tuple vs.toArray)
 |.tmp t::rs,fr,h,acc,R=>Br P rs fr h (acc++[fr.getD t undef]) R
 |.cell a t::rs,fr,h,acc,R=>match rY P t with
  |some none=>asP (fr.getD a undef) fun ad=>∃v,af h ad=some v∧Br P rs fr h (acc++[v]) R
  |some (some n)=>asP (fr.getD a undef) fun ad=>∃cs,aj h ad n cs∧Br P rs fr h (acc++[.agg cs.toArray]) R
  |none=>False
def IP (fr:Fr)(r:ResultVar):Sem Value :=
 match r with
 |.tmp t=>pure (fr.getD t undef)
 |.cell a t=>do loadVar t (←asAddr (fr.getD a undef))
theorem po {R:Value→Prop}{fr:Fr}{h:Hp}:∀(rs:List ResultVar) (acc:List Value),Br P rs fr h acc R →
  ∃vs,(∀d,(rs.mapM (IP fr)).run P (W ω h d)=.ok vs (W ω h d))∧R (match acc++vs with|[v]=>v|vs=>.tuple vs.toArray)
 |[],acc,hk=>⟨[],fun d=>by simp,by simpa [Br] using hk⟩
 |.tmp t::rs,acc,hk=>by
  obtain ⟨vs,h1,h2⟩:=po rs _ hk;exact ⟨fr.getD t undef::vs,fun d=>by simp [List.mapM_cons,IP,h1],by simpa using h2⟩
 |.cell a t::rs,acc,hk=>by
  simp only [Br] at hk
  split at hk
  ·rename_i hag;obtain ⟨ad,ha,v,hv,hk⟩:=oW hk;obtain ⟨vs,h1,h2⟩:=po rs _ hk;refine ⟨v::vs,fun d=>?_,by simpa using h2⟩
   obtain ⟨g1,_⟩:=gf hag (W ω h d);have:(IP fr (.cell a t)).run P (W ω h d)=.ok v (W ω h d):=by
    simp only [IP,ha,asAddr,Sem.run_bind,Sem.run_pure,Result.andThen_ok,loadVar,g1];simp [Hl,hv]
   simp [List.mapM_cons,this,h1]
  ·rename_i n hag;obtain ⟨ad,ha,cs,hv,hk⟩:=oW hk;obtain ⟨vs,h1,h2⟩:=po rs _ hk;refine ⟨.agg cs.toArray::vs,fun d=>?_,by simpa using h2⟩
   obtain ⟨g1,g2⟩:=gf hag (W ω h d);have hl:=run_loadCells_list (P:=P) (w:=W ω h d) ad cs (fun j v hj=>hv.2 j v hj);rw [hv.1] at hl;have:(IP fr (.cell a t)).run P (W ω h d)=.ok (.agg cs.toArray) (W ω h d):=by
    simp only [IP,ha,asAddr,Sem.run_bind,Sem.run_pure,Result.andThen_ok,loadVar,g1];simp [g2 n rfl,hl]
   simp [List.mapM_cons,this,h1]
  ·exact hk.elim
def fnX (P : Program) (ω : Amb) (an : Ann) (fn : Func) (args : List Value) (h : Hp) (R : RT) (X : XT) : Prop :=
  match fn.body with
  | none => False
  | some c => wpx P ω X an c (fun e fr h' => match e with
      | .normal | .ret => Br P fn.results.toList fr h' [] fun v => R v h'
      | _ => False) (args ++ List.replicate (fn.ntmps - args.length) undef) h
theorem se {fn:Func}{fr1:Fr}{h1:Hp}{R:Value→Prop}(hr:Br P fn.results.toList fr1 h1 [] R)(d1:Nat):∃v,(results fn fr1.toArray).run P (W ω h1 d1)=.ok v (W ω h1 d1)∧R v:=by
 obtain ⟨vs,g1,g2⟩:=po (ω:=ω) _ _ hr;refine ⟨_,?_,g2⟩;have hm:∀F:ResultVar→Sem Value,(∀r,F r=IP fr1 r)→(fn.results.mapM F).run P (W ω h1 d1)=.ok vs.toArray (W ω h1 d1):=by
  intro F hF;rw [show F=IP fr1 from funext hF,Array.mapM_eq_mapM_toList]
  simp [g1 d1]
 simp only [results,Sem.run_bind];rw [hm _ (fun r=>by cases r<;>simp [IP])]
 simp only [Result.andThen_ok,Sem.run_pure,Z4]
 congr 1
 match vs with
 |[]=>rfl
 |[v]=>rfl
 |v::u::r=>simp
theorem xm {args:List Value}{n:Nat}:({ tmps:=args.toArray++Array.replicate (n - args.toArray.size) undef,defers:=[] }:Act)=dt [] (args++List.replicate (n - args.length) undef):=by
 simp [dt,←List.toArray_replicate]
theorem Ja {f:FuncId}{fn:Func}{an:Ann}{args:List Value}{h:Hp}{R:RT}{X:XT}(hf:P.funcs[f]?=some fn)
  (hk:fnX P ω an fn args h R X):aa P ω f args h R X:=by
 intro d;unfold fnX at hk
 split at hk
 ·exact hk.elim
 ·rename_i c hc;refine calls_of_wp hf hc ?_;rw [xm];refine wp_mono (bP an c _ _ h hk d) (Qx.cases (fun e fr1 h1 d1 _ hk1 he ho=>?_) (fun c a h d ha hx=>⟨ha.1,⟨d,rfl⟩,hx⟩));have fin:Br P fn.results.toList fr1 h1 [] (fun v=>R v h1)→(dt [] fr1).defers=[]∧∃v,(results fn (dt [] fr1).tmps).run P (W ω h1 d1)=.ok v (W ω h1 d1)∧((∃d',W ω h1 d1=W ω h1 d')∧R v h1):=by
   intro hr;obtain ⟨v,g1,g2⟩:=se (ω:=ω) hr d1;exact ⟨rfl,v,g1,⟨d1,rfl⟩,g2⟩
  cases e<;>first
   |exact absurd rfl (he _)
   |exact absurd rfl ho
   |exact fin hk1
   |exact hk1.elim
theorem al {f:FuncId}{fn:Func}{an:Ann}{args:List Value}{h:Hp}{R:RT}{X:XT}{W:Prop}(hf:P.funcs[f]?=some fn)(he:fnX P ω an fn args h R X=W)(hk:W):aa P ω f args h R X:=Ja hf (he▸hk)
end Go.Sx
