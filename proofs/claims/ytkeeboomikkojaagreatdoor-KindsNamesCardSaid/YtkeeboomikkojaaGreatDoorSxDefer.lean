import Derived.Test.YtkeeboomikkojaaGreatDoorSxCore
import Derived.Defers
import Derived.Recover
namespace Go.Sx
variable  {P:Program}{ω:Amb}
def dOf (s:Nat)(fr:Fr):List Deferred:=match fr.getD s undef with
 |.func f _ caps=>[{ target:=.fn f caps,args:=#[] }]
 |_=>[]
theorem oC {s:Nat}{ws:List Nat}{fr fr':Fr}(h:b5 ws fr fr')(hs:s∉ws):dOf s fr'=dOf s fr:=by
 unfold dOf;rw [h.2 s hs]
inductive Dfr (s:Nat) (g:FuncId) (T:List Nat):Code→Code→Prop
 |same {c:Code}:s∉writes c→Dfr s g T c c
 |seqL {a a' b:Code}:Dfr s g T a a'→s∉writes b→Dfr s g T (.seq a b) (.seq a' b)
 |seqR {a b b':Code}:s∉writes a→Dfr s g T b b'→Dfr s g T (.seq a b) (.seq a b')
 |cond {t:Operand} {a a' b b':Code}:Dfr s g T a a'→Dfr s g T b b'→Dfr s g T (.cond t a b) (.cond t a' b')
 |here {id:Nat} {o1 o2:Oper}:o1.op=.makeFunc (.func g) #[] (T.map .tmp).toArray→o1.dst=some s→o1.guard=none→o2.op=.defer ⟨.value (.tmp s),#[],#[]⟩→o2.dst=none→o2.guard=none →
  Dfr s g T (.region id #[o1,o2] false) (.region id #[o1] false)
def D0 (g:FuncId)(L:List Value):Deferred:={ target:=.fn (.func g) L.toArray,args:=#[] }
def isD (g:FuncId)(L:List Value)(ds:List Deferred):Prop:=ds=[]∨ds=[D0 g L]
def EB (V:List Deferred→Prop)(ws:List Nat)(fr0:Fr)(a:Act):Prop:=V a.defers∧a.tmps.size=fr0.length∧∀i,i∉ws→a.tmps.getD i undef=fr0.getD i undef
def QxD (ω:Amb)(s:Nat)(V:List Deferred→Prop)(ws:List Nat)(fr0:Fr)(K:Exit→Fr→Hp→Prop)(X:XT):Exit→Act→World→Prop:=fun e a w =>
 (∃d,w=W ω w.heap d)∧match e with
 |.panic c=>EB V ws fr0 a∧X c w.heap
 |.outgrown=>False
 |e=>∃fr,a=dt (dOf s fr) fr∧b5 ws fr0 fr∧V (dOf s fr)∧K e fr w.heap
theorem CU (a:Array Value)(i:Nat):a.toList.getD i undef=a.getD i undef:=by
 simp [List.getD_eq_getElem?_getD,Array.getD_eq_getD_getElem?]
theorem QxD.of {s : Nat} {V : List Deferred → Prop} {ws ws' : List Nat} {fr0 fr : Fr} {K : Exit → Fr → Hp → Prop} {X : XT} (hV : V (dOf s fr)) (h0 : b5 ws fr0 fr) (hs : s ∉ ws') (hm : ∀ i, i ∈ ws' → i ∈ ws) {e : Exit} {a : Act} {w : World} (h : Qx ω (dOf s fr) ws' fr K X e a w) : QxD ω s V ws fr0 K X e a w := by
  obtain ⟨hd, h⟩ := h
  have hpan : ∀ c, Kpt (dOf s fr) ws' fr a → X c w.heap → EB V ws fr0 a ∧ X c w.heap := fun c hk hx =>
    ⟨⟨by rw [hk.1]; exact hV, hk.2.1.trans h0.1, fun i hi => (hk.2.2 i fun hh => hi (hm i hh)).trans (h0.2 i hi)⟩, hx⟩
  refine ⟨hd, ?_⟩
  cases e <;> first
    | exact h.elim
    | exact hpan _ h.1 h.2
    | (obtain ⟨fr', rfl, ha, hk⟩ := h
       exact ⟨fr', by rw [oC ha hs], (h0.trans ha).mono fun i hi => (Z3.1 hi).elim id (hm i), by rw [oC ha hs]; exact hV, hk⟩)
theorem QxD.cases {s:Nat}{V:List Deferred→Prop}{ws:List Nat}{fr0:Fr}{K:Exit→Fr→Hp→Prop}{X:XT}{Q:Exit→Act→World→Prop}
  (h1:∀e fr h d,b5 ws fr0 fr→V (dOf s fr)→K e fr h→(∀c,e≠.panic c)→e≠.outgrown→Q e (dt (dOf s fr) fr) (W ω h d)) (h2:∀(c:List PanicEntry) (a:Act) (h:Hp) (d:Nat),EB V ws fr0 a→X c h→Q (.panic c) a (W ω h d)) :
  ∀e a w,QxD ω s V ws fr0 K X e a w→Q e a w:=by
 intro e a w hq;obtain ⟨⟨d,hd⟩,hq⟩:=hq;rw [hd];cases e<;>first
  |exact h2 _ _ _ _ hq.1 hq.2
  |exact hq.elim
  |(obtain ⟨fr,rfl,ha,hv,hk⟩:=hq;exact h1 _ _ _ _ ha hv hk (by simp) (by simp))
theorem QxD.mk {s:Nat}{V:List Deferred→Prop}{ws:List Nat}{fr0 fr:Fr}{K:Exit→Fr→Hp→Prop}{X:XT}{e:Exit}{h:Hp}(d:Nat)(he:∀c,e≠.panic c)(ho:e≠.outgrown)(ha:b5 ws fr0 fr)(hv:V (dOf s fr))(hk:K e fr h) :
  QxD ω s V ws fr0 K X e (dt (dOf s fr) fr) (W ω h d):=by
 refine ⟨⟨d,rfl⟩,?_⟩;cases e<;>first
  |exact absurd rfl (he _)
  |exact absurd rfl ho
  |exact ⟨fr,rfl,ha,hv,hk⟩
theorem EB.trans {V:List Deferred→Prop}{ws ws' ws2:List Nat}{fr0 fr:Fr}{a:Act}(h:b5 ws fr0 fr)(k:EB V ws' fr a)(h1:∀i,i∈ws→i∈ws2)(h2:∀i,i∈ws'→i∈ws2):EB V ws2 fr0 a :=
 ⟨k.1,k.2.1.trans h.1,fun i hi=>(k.2.2 i fun hh=>hi (h2 i hh)).trans (h.2 i fun hh=>hi (h1 i hh))⟩
theorem iw {X:XT}{s:Nat}{V:List Deferred→Prop}{an:Ann}{c:Code}(hs:s∉writes c){K:Exit→Fr→Hp→Prop}{fr:Fr}{h:Hp}(hV:V (dOf s fr))(hk:wpx P ω X an c K fr h)(d:Nat) :
  c.wp P (QxD ω s V (writes c) fr K X) (dt (dOf s fr) fr) (W ω h d) :=
 wp_mono (bP (ds:=dOf s fr) an c K fr h hk d) fun _ _ _ hq=>QxD.of hV (b5.refl _ _) hs (fun _ hi=>hi) hq
theorem MP {s:Nat}{fr:Fr}(hs:s < fr.length)(f:Go.Fn)(a caps:Array Value):dOf s (put fr (some s) (.func f a caps))=[{ target:=.fn f caps,args:=#[] }]:=by
 unfold dOf put;simp [List.getD_eq_getElem?_getD,hs]
theorem vY {X:XT}{s:Nat}{V:List Deferred→Prop}{id:Nat}{o1 o2:Oper}{g:FuncId}{caps:Array Operand}(h1:o1.op=.makeFunc (.func g) #[] caps)(hd1:o1.dst=some s)(hg1:o1.guard=none)(h2:o2.op=.defer ⟨.value (.tmp s),#[],#[]⟩)(hd2:o2.dst=none)(hg2:o2.guard=none)
  {K:Exit→Fr→Hp→Prop} {fr:Fr} {h:Hp} (hl:s < fr.length) (h0:dOf s fr=[]) (hV:V [{ target:=.fn (.func g) (caps.map (ev fr)),args:=#[] }]) (hk:wpx P ω X .L (.region id #[o1] false) K fr h) (d:Nat) :
  (Code.region id #[o1,o2] false).wp P (QxD ω s V (writes (.region id #[o1] false)) fr K X) (dt (dOf s fr) fr) (W ω h d):=by
 have hv:K .normal (put fr (some s) (.func (.func g) #[] (caps.map (ev fr)))) h:=by
  have hk:opx P ω o1.op (ev fr) h (fun v h'=>K .normal (put fr o1.dst v) h') X:=by
   have:sX #[o1] [] o1 fr (fun fr'=>opx P ω o1.op (ev fr') h (fun v h'=>K .normal (put fr' o1.dst v) h') X) (fun fr'=>K .normal (put fr' o1.dst undef) h):=hk;unfold sX at this;rw [hg1] at this;exact this
  have:=tP o1 (ev fr) h _ X hk d;rw [show (execOp (ev fr) o1).run P (W ω h d)=.ok (.value (.func (.func g) #[] (caps.map (ev fr)))) (W ω h d) by simp [execOp,h1,Instr.makeFunc]] at this
  rw [hd1] at this;exact this.2
 rw [h0];refine wp_region ?_;show wpOps P #[o1,o2] _ [0,1] _ _;have w1:Region.wanted o1 (yielded #[o1,o2] (dt [] fr).tmps)=true:=by simp [Region.wanted,hg1]
 have e1:(execOp (dt [] fr).eval o1).run P (W ω h d)=.ok (.value (.func (.func g) #[] (caps.map (ev fr)))) (W ω h d):=by
  rw [mf];simp [execOp,h1,Instr.makeFunc]
 have s1:∀Q l,wpOps P #[o1,o2] Q (0::l) (dt [] fr) (W ω h d)=(o1.wp P (dt [] fr) (W ω h d) (wpOps P #[o1,o2] Q l) Q∨(o1.asks P (dt [] fr) (W ω h d)∧LetsOut Q)):=fun Q l=>by
  unfold wpOps;simp only [show (#[o1,o2]:Array Oper)[0]?=some o1 from rfl,w1,if_true]
 rw [s1];refine .inl ?_;unfold Oper.wp;rw [e1,Oper.upon_value,lM,hd1];generalize hfr:put fr (some s) (.func (.func g) #[] (caps.map (ev fr)))=fr' at *;have w2:Region.wanted o2 (yielded #[o1,o2] (dt [] fr').tmps)=true:=by simp [Region.wanted,hg2]
 have hs:ev fr' (.tmp s)=.func (.func g) #[] (caps.map (ev fr)):=by
  rw [←hfr];simp [ev,put,List.getD_eq_getElem?_getD,hl]
 have e2:(execOp (dt [] fr').eval o2).run P (W ω h d)=.ok (.defer { target:=.fn (.func g) (caps.map (ev fr)),args:=#[] }) (W ω h d):=by
  rw [mf];simp [execOp,h2,resolve,hs,Deferred.ofValue]
 have s2:∀Q l,wpOps P #[o1,o2] Q (1::l) (dt [] fr') (W ω h d)=(o2.wp P (dt [] fr') (W ω h d) (wpOps P #[o1,o2] Q l) Q∨(o2.asks P (dt [] fr') (W ω h d)∧LetsOut Q)):=fun Q l=>by
  unfold wpOps;simp only [show (#[o1,o2]:Array Oper)[1]?=some o2 from rfl,w2,if_true]
 rw [s2];refine .inl ?_;unfold Oper.wp;rw [e2,Oper.upon_defer,hd2];have hdo:dOf s fr'=[{ target:=.fn (.func g) (caps.map (ev fr)),args:=#[] }]:=by
  rw [←hfr];exact MP hl _ _ _
 refine ⟨⟨d,rfl⟩,fr',?_,?_,by rw [hdo];exact hV,hv⟩
 ·rw [hdo];rfl
 ·rw [←hfr];refine (b5.refl _ fr).put (fun y hy=>?_) _;cases hy;show s∈[o1].filterMap (·.dst);simp [hd1]
theorem fT {X:XT}{s:Nat}{g:FuncId}{T:List Nat}{L:List Value}:∀(an:Ann) (c c':Code) (K:Exit→Fr→Hp→Prop) (fr:Fr) (h:Hp),Dfr s g T c c'→(∀t∈T,t∉writes c')→T.map (fun t=>fr.getD t undef)=L→s < fr.length→dOf s fr=[]→wpx P ω X an c' K fr h→∀d,c.wp P (QxD ω s (isD g L) (writes c') fr K X) (dt (dOf s fr) fr) (W ω h d)
 |.L,c,c',K,fr,h,hD,hT,hL,hl,h0,hk,d=>by
  cases hD with
  |same hs=>exact iw hs (.inl h0) hk d
  |seqL _ _=>exact hk.elim
  |seqR _ _=>exact hk.elim
  |cond _ _=>exact hk.elim
  |here h1 hd1 hg1 h2 hd2 hg2=>exact vY h1 hd1 hg1 h2 hd2 hg2 hl h0 (.inr (by rw [←hL];simp [D0,ev,Function.comp_def])) hk d
 |.plan l,c,c',K,fr,h,hD,hT,hL,hl,h0,hk,d=>by
  cases hD with
  |same hs=>exact iw hs (.inl h0) hk d
  |seqL _ _=>exact hk.elim
  |seqR _ _=>exact hk.elim
  |cond _ _=>exact hk.elim
  |here _ _ _ _ _ _=>exact hk.elim
 |.one a,c,c',K,fr,h,hD,hT,hL,hl,h0,hk,d=>by
  cases hD with
  |same hs=>exact iw hs (.inl h0) hk d
  |seqL _ _=>exact hk.elim
  |seqR _ _=>exact hk.elim
  |cond _ _=>exact hk.elim
  |here _ _ _ _ _ _=>exact hk.elim
 |.loop m l a,c,c',K,fr,h,hD,hT,hL,hl,h0,hk,d=>by
  cases hD with
  |same hs=>exact iw hs (.inl h0) hk d
  |seqL _ _=>exact hk.elim
  |seqR _ _=>exact hk.elim
  |cond _ _=>exact hk.elim
  |here _ _ _ _ _ _=>exact hk.elim
 |.T an bn,c,c',K,fr,h,hD,hT,hL,hl,h0,hk,d=>by
  cases hD with
  |same hs=>exact iw hs (.inl h0) hk d
  |here _ _ _ _ _ _=>exact hk.elim
  |@seqL a a' b ha hb =>
   refine wp_seq (wp_mono (fT an a a' _ fr h ha (fun t ht hh=>hT t ht (List.mem_append_left _ hh)) hL hl h0 hk d) (QxD.cases (fun e fr1 h1 d1 hag hv1 hk1 he ho=>?_) (fun c a h d ha hx=>⟨⟨d,rfl⟩,EB.trans (b5.refl [] _) ha (fun _ h=>absurd h List.not_mem_nil) (fun i hi=>List.mem_append_left _ hi),hx⟩)));have ham:b5 (writes (Code.seq a' b)) fr fr1:=hag.mono fun i hi=>List.mem_append_left _ hi;cases e with
   |panic c=>exact absurd rfl (he c)
   |outgrown=>exact absurd rfl ho
   |normal=>exact wp_mono (bP (ds:=dOf s fr1) bn b K fr1 h1 hk1 d1) fun _ _ _ hq=>QxD.of hv1 ham hb (fun i hi=>List.mem_append_right _ hi) hq
   |exit id=>exact QxD.mk (K:=K) (X:=X) d1 (by simp) (by simp) ham hv1 hk1
   |goto l=>exact QxD.mk (K:=K) (X:=X) d1 (by simp) (by simp) ham hv1 hk1
   |ret=>exact QxD.mk (K:=K) (X:=X) d1 (by simp) (by simp) ham hv1 hk1
  |@seqR a b b' ha hb =>
   refine wp_seq (wp_mono (iw ha (.inl h0) hk d) (QxD.cases (fun e fr1 h1 d1 hag hv1 hk1 he ho=>?_) (fun c a h d ha hx=>⟨⟨d,rfl⟩,EB.trans (b5.refl [] _) ha (fun _ h=>absurd h List.not_mem_nil) (fun i hi=>List.mem_append_left _ hi),hx⟩)));have ham:b5 (writes (Code.seq a b')) fr fr1:=hag.mono fun i hi=>List.mem_append_left _ hi;cases e with
   |panic c=>exact absurd rfl (he c)
   |outgrown=>exact absurd rfl ho
   |normal=>exact wp_mono (fT bn b b' K fr1 h1 hb (fun t ht hh=>hT t ht (List.mem_append_right _ hh)) (by rw [←hL];exact List.map_congr_left fun t ht=>hag.2 t fun hh=>hT t ht (List.mem_append_left _ hh)) (by rw [hag.1];exact hl) (by rw [oC hag ha];exact h0) hk1 d1) (QxD.cases (fun e fr2 h2 d2 ha2 hv2 hk2 he2 ho2=>QxD.mk d2 he2 ho2 (hag.trans ha2) hv2 hk2) (fun c a h d ha3 hx=>⟨⟨d,rfl⟩,EB.trans hag ha3 (fun i hi=>List.mem_append_left _ hi) (fun i hi=>List.mem_append_right _ hi),hx⟩))
   |exit id=>exact QxD.mk (K:=K) (X:=X) d1 (by simp) (by simp) ham hv1 hk1
   |goto l=>exact QxD.mk (K:=K) (X:=X) d1 (by simp) (by simp) ham hv1 hk1
   |ret=>exact QxD.mk (K:=K) (X:=X) d1 (by simp) (by simp) ham hv1 hk1
  |@cond c x x' y y' ha hb =>
   have hk':brV (ev fr c) fun t=>cond t (wpx P ω X an x' K fr h) (wpx P ω X bn y' K fr h):=hk;obtain ⟨t,ht,hk'⟩:=At (ds:=dOf s fr) hk';refine wp_cond ht ?_;cases t
   ·exact wp_mono (fT bn y y' K fr h hb (fun t ht hh=>hT t ht (List.mem_append_right _ hh)) hL hl h0 hk' d) (QxD.cases (fun e fr2 h2 d2 ha2 hv2 hk2 he2 ho2=>QxD.mk d2 he2 ho2 (ha2.mono fun i hi=>List.mem_append_right _ hi) hv2 hk2) (fun c a h d ha hx=>⟨⟨d,rfl⟩,EB.trans (b5.refl [] _) ha (fun _ h=>absurd h List.not_mem_nil) (fun i hi=>List.mem_append_right _ hi),hx⟩))
   ·exact wp_mono (fT an x x' K fr h ha (fun t ht hh=>hT t ht (List.mem_append_left _ hh)) hL hl h0 hk' d) (QxD.cases (fun e fr2 h2 d2 ha2 hv2 hk2 he2 ho2=>QxD.mk d2 he2 ho2 (ha2.mono fun i hi=>List.mem_append_left _ hi) hv2 hk2) (fun c a h d ha hx=>⟨⟨d,rfl⟩,EB.trans (b5.refl [] _) ha (fun _ h=>absurd h List.not_mem_nil) (fun i hi=>List.mem_append_left _ hi),hx⟩))
 |.join mods live an,c,c',K,fr,h,hD,hT,hL,hl,h0,hk,d=>by
  simp only [wpx] at hk;cases hs:(AY (writes c') mods&&AY live mods) with
  |false=>rw [hs] at hk;exact hk.elim
  |true =>
   rw [hs,cond_true] at hk;simp only [Qq] at hs;obtain ⟨J,h0',hr⟩:=hk;refine wp_mono (fT an c c' _ fr h hD hT hL hl h0 h0' d) (QxD.cases (fun e fr1 h1 d1 ha hv1 hk1 he ho=>?_) (fun c a h d ha hx=>⟨⟨d,rfl⟩,ha,hx⟩));cases e with
   |panic c=>exact absurd rfl (he c)
   |outgrown=>exact absurd rfl ho
   |exit id=>exact QxD.mk (K:=K) (X:=X) d1 (by simp) (by simp) ha hv1 hk1
   |goto l=>exact QxD.mk (K:=K) (X:=X) d1 (by simp) (by simp) ha hv1 hk1
   |ret=>exact QxD.mk (K:=K) (X:=X) d1 (by simp) (by simp) ha hv1 hk1
   |normal =>
    have:=tk hr (look fr1 live) lT (fun i=>fr1.getD i undef) h1 hk1;rw [dq (ha.mono fun i hi=>px hs.1 hi)] at this;exact QxD.mk d1 he ho ha hv1 this
 |.jb mods t an,c,c',K,fr,h,hD,hT,hL,hl,h0,hk,d=>by
  simp only [wpx] at hk;cases hs:(AY (writes c') mods&&mods.elem t) with
  |false=>rw [hs] at hk;exact hk.elim
  |true =>
   rw [hs,cond_true] at hk;simp only [Qq] at hs;obtain ⟨β,h0',hr⟩:=hk;refine wp_mono (fT an c c' _ fr h hD hT hL hl h0 h0' d) (QxD.cases (fun e fr1 h1 d1 ha hv1 hk1 he ho=>?_) (fun c a h d ha hx=>⟨⟨d,rfl⟩,ha,hx⟩));cases e with
   |panic c=>exact absurd rfl (he c)
   |outgrown=>exact absurd rfl ho
   |exit id=>exact QxD.mk (K:=K) (X:=X) d1 (by simp) (by simp) ha hv1 hk1
   |goto l=>exact QxD.mk (K:=K) (X:=X) d1 (by simp) (by simp) ha hv1 hk1
   |ret=>exact QxD.mk (K:=K) (X:=X) d1 (by simp) (by simp) ha hv1 hk1
   |normal =>
    obtain ⟨hb,rfl⟩:=hk1;have:=hr (fun i=>fr1.getD i undef);rw [show [Value.bool β]=look fr1 [t] by simp only [look,List.map_cons,List.map_nil,hb],dq (ha.mono fun i hi=>px hs.1 hi)] at this
    exact QxD.mk d1 he ho ha hv1 this
def AE (ω:Amb)(R:RT)(X:XT):Ending→World→Prop:=fun e w'=>(∃d',w'=W ω w'.heap d')∧match e with
 |.returned v=>R v w'.heap
 |.panicked c=>X c w'.heap
 |.outgrown=>False
def exK (KD:Fr→Hp→Prop):Exit→Fr→Hp→Prop
 |.normal,fr,h=>KD fr h
 |.ret,fr,h=>KD fr h
 |_,_,_=>False
theorem vn {f:FuncId}{fn:Func}{cF c c':Code}{an:Ann}{s:Nat}{g:FuncId}{T:List Nat}{L:List Value}{args:List Value}{h h1:Hp}{fr1:Fr}{R:RT}{X Xi:XT}{KD:Fr→Hp→Prop}(hf:P.funcs[f]?=some fn)(hb:fn.body=some (.seq cF c))(hD:Dfr s g T c c')
  (hF:wpx P ω (fun _ _=>False) .L cF (fun e fr h'=>e=.normal∧fr=fr1∧h'=h1) (args++List.replicate (fn.ntmps - args.length) undef) h)
  (hT:∀t∈T,t∉writes c') (hL:T.map (fun t=>fr1.getD t undef)=L) (hl:s < fr1.length) (h0:dOf s fr1=[])
  (hk:wpx P ω Xi an c' (exK KD) fr1 h1)
  (hR:∀fr h' d,b5 (writes c') fr1 fr→isD g L (dOf s fr)→KD fr h'→Leaves P fn fr.toArray (AE ω R X) (dOf s fr) .returning (W ω h' d))
  (hX:∀c a h' d,EB (isD g L) (writes c') fr1 a→Xi c h'→Leaves P fn a.tmps (AE ω R X) a.defers (.panicking c) (W ω h' d)):aa P ω f args h R X:=by
 intro d;refine calls_of_wp_defers (R:=AE ω R X) hf hb ?_;rw [xm];refine wp_seq (wp_mono (bP (ds:=[]) .L cF _ _ h hF d) (Qx.cases (fun e fr2 h2 d2 _ hk1 he ho=>?_) (fun _ _ _ _ _ hx=>hx.elim)));obtain ⟨rfl,rfl,rfl⟩:=hk1;show c.wp P _ (dt [] fr2) (W ω h2 d2);rw [←h0];refine wp_mono (fT an c c' _ _ h2 hD hT hL hl h0 hk d2) (QxD.cases (fun e fr1 h1 d1 ha hv hk1 he ho=>?_) (fun c a h d ha hx=>hX c a h d ha hx))
 cases e<;>first
  |exact absurd rfl (he _)
  |exact absurd rfl ho
  |exact hR fr1 h1 d1 ha hv hk1
  |exact hk1.elim
theorem ur {f:FuncId}{fn:Func}{an:Ann}{args:List Value}{h:Hp}{R:RT}{X:XT}(hf:P.funcs[f]?=some fn)(hk:fnX P ω an fn args h R X)(u:FrameMode)(d:Nat) :
  CallsD P f args.toArray u (W ω h d) fun e u' w'=>u'=u∧AE ω R X e w':=by
 unfold fnX at hk
 split at hk
 ·exact hk.elim
 ·rename_i c hc;refine callsD_of_wp (R:=AE ω R X) hf hc ?_;rw [xm];refine wp_mono (bP an c _ _ h hk d) (Qx.cases (fun e fr1 h1 d1 _ hk1 he ho=>?_) (fun c a h d ha hx=>⟨ha.1,⟨d,rfl⟩,hx⟩));have fin:Br P fn.results.toList fr1 h1 [] (fun v=>R v h1)→(dt [] fr1).defers=[]∧∃v,(results fn (dt [] fr1).tmps).run P (W ω h1 d1)=.ok v (W ω h1 d1)∧AE ω R X (.returned v) (W ω h1 d1):=by
   intro hr;obtain ⟨v,g1,g2⟩:=se (ω:=ω) hr d1;exact ⟨rfl,v,g1,⟨d1,rfl⟩,g2⟩
  cases e<;>first
   |exact absurd rfl (he _)
   |exact absurd rfl ho
   |exact fin hk1
   |exact hk1.elim
end Go.Sx
