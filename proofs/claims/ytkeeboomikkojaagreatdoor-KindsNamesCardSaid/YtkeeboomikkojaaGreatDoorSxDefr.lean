import Derived.Test.YtkeeboomikkojaaGreatDoorSxDefer
import Derived.Recover
namespace Go.Sx
variable  {P:Program}{ω:Amb}
def sq (K:Exit→Fr→Hp→Prop)(N:Fr→Hp→Prop):Exit→Fr→Hp→Prop:=fun e fr h=>match e with
 |.normal=>N fr h
 |e=>K e fr h
def exR (KD:Fr→Hp→Prop):Exit→Fr→Hp→Prop
 |.ret,fr,h=>KD fr h
 |_,_,_=>False
def noK:Exit→Fr→Hp→Prop:=fun _ _ _=>False
theorem uT {f:FuncId}{fn:Func}{cF c1 c2 c4:Code}{id:Nat}{o1 o2:Oper}{a1 a2 a4:Ann}{s:Nat}{g:FuncId}{T:List Nat}{L:List Value}{args:List Value}{h h1:Hp}{fr1:Fr}{R:RT}{X Xi:XT}{KD K1:Fr→Hp→Prop}
  (hf:P.funcs[f]?=some fn) (hb:fn.body=some (.seq cF (.seq c1 (.seq c2 (.seq (.region id #[o1,o2] false) c4)))))
  (e1:o1.op=.makeFunc (.func g) #[] (T.map .tmp).toArray) (hd1:o1.dst=some s) (hg1:o1.guard=none) (e2:o2.op=.defer ⟨.value (.tmp s),#[],#[]⟩) (hd2:o2.dst=none) (hg2:o2.guard=none)
  (hs1:s∉writes c1) (hs2:s∉writes c2) (hT:∀t∈T,t∉writes c1∧t∉writes c2)
  (hF:wpx P ω (fun _ _=>False) .L cF (fun e fr h'=>e=.normal∧fr=fr1∧h'=h1) (args++List.replicate (fn.ntmps - args.length) undef) h)
  (hL:T.map (fun t=>fr1.getD t undef)=L) (hl:s < fr1.length) (h0:dOf s fr1=[])
  (hk:wpx P ω (fun _ _=>False) a1 c1 (sq (exR K1) fun fr h=>wpx P ω (fun _ _=>False) a2 c2 (sq (exR K1) fun fr h=>wpx P ω Xi .L (.region id #[o1] false) (sq noK fun fr h=>wpx P ω Xi a4 c4 (exK KD) fr h) fr h) fr h) fr1 h1)
  (hR1:∀fr h' d,(∀i,i∉writes c1→i∉writes c2→fr.getD i undef=fr1.getD i undef)→K1 fr h'→Leaves P fn fr.toArray (AE ω R X) [] .returning (W ω h' d))
  (hR:∀fr h' d,(∀i,i∉writes c1→i∉writes c2→i≠s→i∉writes c4→fr.getD i undef=fr1.getD i undef)→KD fr h'→Leaves P fn fr.toArray (AE ω R X) [D0 g L] .returning (W ω h' d))
  (hX:∀c (a:Act) h' d,(∀i,i∉writes c1→i∉writes c2→i≠s→i∉writes c4→a.tmps.getD i undef=fr1.getD i undef)→Xi c h'→Leaves P fn a.tmps (AE ω R X) [D0 g L] (.panicking c) (W ω h' d)):aa P ω f args h R X:=by
 have hw3:∀i,i≠s→i∉writes (.region id #[o1] false):=by
  intro i hi hh;have:i∈[o1].filterMap (·.dst):=hh;simp [hd1] at this;exact hi this
 intro d;refine calls_of_wp_defers (R:=AE ω R X) hf hb ?_;rw [xm];refine wp_seq (wp_mono (bP (ds:=[]) .L cF _ _ h hF d) (Qx.cases (fun e fr2 h2 d2 _ hk1 he ho=>?_) (fun _ _ _ _ _ hx=>hx.elim)));obtain ⟨rfl,rfl,rfl⟩:=hk1;refine wp_seq (wp_mono (bP (ds:=[]) a1 c1 _ _ h2 hk d2) (Qx.cases (fun e fr3 h3 d3 ag3 hk3 he3 ho3=>?_) (fun _ _ _ _ _ hx=>hx.elim)));cases e with
 |panic c=>exact absurd rfl (he3 c)
 |outgrown=>exact absurd rfl ho3
 |exit id=>exact hk3.elim
 |goto l=>exact hk3.elim
 |ret=>exact hR1 fr3 h3 d3 (fun i hi _=>ag3.2 i hi) hk3
 |normal =>
 have hk3:wpx P ω (fun _ _=>False) a2 c2 _ fr3 h3:=hk3;refine wp_seq (wp_mono (bP (ds:=[]) a2 c2 _ _ h3 hk3 d3) (Qx.cases (fun e fr4 h4 d4 ag4 hk4 he4 ho4=>?_) (fun _ _ _ _ _ hx=>hx.elim)));have ag24:∀i,i∉writes c1→i∉writes c2→fr4.getD i undef=fr2.getD i undef:=fun i hi hj=>(ag4.2 i hj).trans (ag3.2 i hi);cases e with
 |panic c=>exact absurd rfl (he4 c)
 |outgrown=>exact absurd rfl ho4
 |exit id=>exact hk4.elim
 |goto l=>exact hk4.elim
 |ret=>exact hR1 fr4 h4 d4 ag24 hk4
 |normal =>
 have hk4:wpx P ω Xi .L (.region id #[o1] false) _ fr4 h4:=hk4;have h04:dOf s fr4=[]:=by rw [oC ag4 hs2,oC ag3 hs1];exact h0
 have hcaps:[({ target:=.fn (.func g) (((T.map .tmp).toArray).map (ev fr4)),args:=#[] }:Deferred)]=[D0 g L]:=by
  have:T.map (fun t=>fr4.getD t undef)=L:=by rw [←hL];exact List.map_congr_left fun t ht=>ag24 t (hT t ht).1 (hT t ht).2
  rw [←this];simp [D0,ev,Function.comp_def]
 have hreg:=vY (X:=Xi) (s:=s) (V:=fun ds=>ds=[D0 g L]) (id:=id) (g:=g) (caps:=(T.map .tmp).toArray) e1 hd1 hg1 e2 hd2 hg2 (by rw [ag4.1,ag3.1];exact hl) h04 hcaps hk4 d4
 rw [h04] at hreg;refine wp_seq (wp_mono hreg (QxD.cases (fun e fr5 h5 d5 ag5 hv5 hk5 he5 ho5=>?_) (fun c a h5 d5 ha hx=>?_)))
 ·cases e with
  |panic c=>exact absurd rfl (he5 c)
  |outgrown=>exact absurd rfl ho5
  |exit id=>exact hk5.elim
  |goto l=>exact hk5.elim
  |ret=>exact hk5.elim
  |normal =>
  have hk5:wpx P ω Xi a4 c4 (exK KD) fr5 h5:=hk5;have hv5:dOf s fr5=[D0 g L]:=hv5;have ag25:∀i,i∉writes c1→i∉writes c2→i≠s→fr5.getD i undef=fr2.getD i undef:=fun i hi hj hs=>(ag5.2 i (hw3 i hs)).trans (ag24 i hi hj);show Code.wp P c4 _ (dt (dOf s fr5) fr5) _;rw [hv5];refine wp_mono (bP (ds:=[D0 g L]) a4 c4 _ _ h5 hk5 d5) (Qx.cases (fun e fr6 h6 d6 ag6 hk6 he6 ho6=>?_) (fun c a h6 d6 ha hx=>?_))
  ·cases e<;>first
    |exact absurd rfl (he6 _)
    |exact absurd rfl ho6
    |exact hR fr6 h6 d6 (fun i hi hj hs h4=>(ag6.2 i h4).trans (ag25 i hi hj hs)) hk6
    |exact hk6.elim
  ·have:=hX c a h6 d6 (fun i hi hj hs h4=>(ha.2.2 i h4).trans (ag25 i hi hj hs)) hx;rw [←ha.1] at this;exact this
 ·have:=hX c a h5 d5 (fun i hi hj hs _=>(ha.2.2 i (hw3 i hs)).trans (ag24 i hi hj)) hx;rw [←(show a.defers=[D0 g L] from ha.1)] at this
  exact this
theorem D1 {id:Nat}{o1 o2:Oper}{s t:Nat}(h1:o1.op=.call { callee:=.builtin .recover,args:=#[],argTypes:=#[] })(hd1:o1.dst=some s)(hg1:o1.guard=none)(h2:o2.op=.assign (.tmp s))(hd2:o2.dst=some t)(hg2:o2.guard=none)
  {fr:Fr} (hl:s < fr.length) {h:Hp} {d:Nat} {cs cs':List Frame} {v:Value} (hrec:(recoverD cs=some (v,cs'))∨(recoverD cs=none∧v=.nilIface∧cs'=cs)) {Q:Exit→Act→List Frame→World→Prop}
  (hk:Q .normal (dt [] (put (put fr (some s) v) (some t) v)) cs' (W ω h d)):(Code.region id #[o1,o2] false).wpS P Q (dt [] fr) cs (W ω h d):=by
 refine wpS_region ?_;show wpOpsS P #[o1,o2] _ [0,1] _ _ _;have w1:Region.wanted o1 (yielded #[o1,o2] (dt [] fr).tmps)=true:=by simp [Region.wanted,hg1]
 have e1:(execOp (dt [] fr).eval o1).run P (W ω h d)=.ok .recover (W ω h d):=by
  rw [mf];simp [execOp,h1,resolve];rfl
 unfold wpOpsS;simp only [show (#[o1,o2]:Array Oper)[0]?=some o1 from rfl,w1,if_true,e1]
 have hgo:wpOpsS P #[o1,o2] Q [1] ((dt [] fr).put o1.dst v) cs' (W ω h d):=by
  rw [lM,hd1];generalize hfr:put fr (some s) v=fr' at *;have w2:Region.wanted o2 (yielded #[o1,o2] (dt [] fr').tmps)=true:=by simp [Region.wanted,hg2]
  have hs:ev fr' (.tmp s)=v:=by
   rw [←hfr];simp [ev,put,List.getD_eq_getElem?_getD,hl]
  have e2:(execOp (dt [] fr').eval o2).run P (W ω h d)=.ok (.value v) (W ω h d):=by
   rw [mf];simp [execOp,h2,hs]
  unfold wpOpsS;simp only [show (#[o1,o2]:Array Oper)[1]?=some o2 from rfl,w2,if_true,e2]
  rw [Oper.upon_value,lM,hd2];exact hk
 rcases hrec with hrec|⟨hrec,rfl,rfl⟩
 ·rw [hrec];exact hgo
 ·rw [hrec];exact hgo
end Go.Sx
