import Derived.Test.YtkeeboomikkojaaGreatDoorSxEffS
import Derived.OrdersHeld
namespace Go.Sx
variable  {P:Program}{ω:Amb}{ds:List Deferred}
abbrev Fr:=List Value
def ev (fr:Fr):Operand→Value
 |.tmp t=>fr.getD t undef
 |.const v=>v
 |.global g=>.pointer (some ⟨g,0,none⟩)
 |.func f=>.func (.func f) #[] #[]
def put (fr:Fr)(d:Option Tmp)(v:Value):Fr:=match d with|some d=>fr.set d v|none=>fr
def dt (ds:List Deferred)(fr:Fr):Act:={ tmps:=fr.toArray,defers:=ds }
theorem mf (fr:Fr):(dt ds fr).eval=ev fr:=by
 funext x
 cases x<;>simp [Act.eval,dt,ev]
theorem lM (fr:Fr)(d:Option Tmp)(v:Value):(dt ds fr).put d v=dt ds (put fr d v):=by
 cases d<;>simp [Act.put,dt,put]
def brV (v:Value)(G:Bool→Prop):Prop:=asB v fun t=>cond t (G true) (G false)
def Oq (ops:Array Oper)(j:Nat):Option Tmp:=match ops[j]? with|some o=>o.dst|none=>none
def sX (ops:Array Oper)(sk:List Nat)(o:Oper)(fr:Fr)(F G:Fr→Prop):Prop :=
 match o.guard with
 |none=>F fr
 |some (j,want)=>match Oq ops j with
  |some s=>cond (sk.elem s) (G fr) <|brV (fr.getD s undef) fun b=>cond (b==want) (F (fr.set s (.bool b))) (G (fr.set s (.bool b)))
  |none=>False
theorem qO {fr:Fr}{s:Nat}{b:Bool}(h:fr.getD s undef=.bool b):fr.set s (.bool b)=fr:=by
 have hlt:s < fr.length:=by
  rcases Nat.lt_or_ge s fr.length with h'|h'
  ·exact h'
  ·rw [List.getD_eq_getElem?_getD,List.getElem?_eq_none h'] at h;cases h
 rw [List.getD_eq_getElem?_getD,Q7 hlt,Option.getD_some] at h;rw [←h];exact List.set_getElem_self hlt
def Skd (sk:List Nat)(fr:Fr):Prop:=∀s∈sk,fr.getD s undef=undef
def Ej (sk:List Nat)(d:Option Tmp):List Nat:=match d with|some d=>sk.filter fun x=>!Nat.beq x d|none=>sk
def G7 (sk:List Nat)(d:Option Tmp):List Nat:=match d with|some d=>d::sk|none=>sk
theorem Skd.put {sk:List Nat}{fr:Fr}(h:Skd sk fr)(d:Option Tmp)(v:Value):Skd (Ej sk d) (Sx.put fr d v):=by
 cases d with
 |none=>exact h
 |some d =>
  intro s hs;simp only [Ej,List.mem_filter] at hs;have hne:d≠s:=by rintro rfl;simp at hs
  have:=h s hs.1;simpa [Sx.put,List.getD_eq_getElem?_getD,List.getElem?_set_ne hne] using this
theorem Skd.skip {sk:List Nat}{fr:Fr}(h:Skd sk fr)(d:Option Tmp):Skd (G7 sk d) (Sx.put fr d undef):=by
 cases d with
 |none=>exact h
 |some d =>
  intro s hs
  by_cases hds:d=s
  ·subst hds;simp only [Sx.put,List.getD_eq_getElem?_getD];rcases Nat.lt_or_ge d fr.length with hlt|hge
   ·rw [List.getElem?_set_self hlt];rfl
   ·rw [List.getElem?_eq_none (by simpa using hge)];rfl
  ·have hs':s∈sk:=by
    rcases List.mem_cons.1 hs with e|hs
    ·exact absurd e.symm hds
    ·exact hs
   have:=h s hs';simpa [Sx.put,List.getD_eq_getElem?_getD,List.getElem?_set_ne hds] using this
theorem pJ {ops:Array Oper}{sk:List Nat}{o:Oper}{fr:Fr}{F G:Fr→Prop}(hsk:Skd sk fr)(h:sX ops sk o fr F G) :
  (Region.wanted o (yielded ops (dt ds fr).tmps)=true∧F fr)∨(Region.wanted o (yielded ops (dt ds fr).tmps)=false∧G fr):=by
 unfold sX at h
 split at h
 ·rename_i hg;exact .inl ⟨by simp [Region.wanted,hg],h⟩
 ·rename_i j want hg
  split at h<;>try cases h
  rename_i s hs;have hd:((ops[j]?).bind (·.dst))=some s:=by
   unfold Oq at hs
   split at hs
   ·rename_i o' ho';simp [ho',hs]
   ·cases hs
  cases hm:sk.elem s with
  |true =>
   rw [hm] at h;have hu:=hsk s (by simpa using hm)
   have hy:yielded ops (dt ds fr).tmps j=none:=by
    simp only [yielded,hd,dt,Option.bind_some];rw [List.getElem?_toArray];cases hx:fr[s]? with
    |none=>rfl
    |some x =>
     rw [List.getD_eq_getElem?_getD,hx] at hu;simp only [Option.getD_some] at hu;rw [hu];rfl
   exact .inr ⟨by cases want<;>simp [Region.wanted,hg,hy],h⟩
  |false =>
  rw [hm,cond_false] at h;obtain ⟨t,hv,h⟩:=j9 h;have hy:yielded ops (dt ds fr).tmps j=some t:=by
   have hlt:s < fr.length:=by
    rcases Nat.lt_or_ge s fr.length with h'|h'
    ·exact h'
    ·rw [List.getD_eq_getElem?_getD,List.getElem?_eq_none h'] at hv;cases hv
   have hx:fr[s]?=some (.bool t):=by
    rw [List.getD_eq_getElem?_getD,Q7 hlt,Option.getD_some] at hv;rw [Q7 hlt,hv]
   simp [yielded,hd,dt,hx]
  have hsame:=qO hv;cases t<;>simp only [cond_true,cond_false,hsame] at h
  ·cases want
   ·exact .inl ⟨by simp [Region.wanted,hg,hy],by simpa using h⟩
   ·exact .inr ⟨by simp [Region.wanted,hg,hy],by simpa using h⟩
  ·cases want
   ·exact .inr ⟨by simp [Region.wanted,hg,hy],by simpa using h⟩
   ·exact .inl ⟨by simp [Region.wanted,hg,hy],by simpa using h⟩
def b5 (ws:List Nat)(fr fr':Fr):Prop:=fr'.length=fr.length∧∀i,i∉ws→fr'.getD i undef=fr.getD i undef
theorem b5.refl (ws:List Nat)(fr:Fr):b5 ws fr fr:=⟨rfl,fun _ _=>rfl⟩
theorem b5.trans {ws ws':List Nat}{a b c:Fr}(h:b5 ws a b)(h':b5 ws' b c):b5 (ws++ws') a c :=
 ⟨h'.1.trans h.1,fun i hi=>by rw [Z3,not_or] at hi;exact (h'.2 i hi.2).trans (h.2 i hi.1)⟩
theorem b5.mono {ws ws':List Nat}{a b:Fr}(h:b5 ws a b)(hs:∀i,i∈ws→i∈ws'):b5 ws' a b:=⟨h.1,fun i hi=>h.2 i fun hh=>hi (hs i hh)⟩
theorem b5.put {ws:List Nat}{a b:Fr}(h:b5 ws a b){d:Option Tmp}(hd:∀y,d=some y→y∈ws)(v:Value):b5 ws a (put b d v):=by
 cases d with
 |none=>exact h
 |some x =>
  refine ⟨by simp [Sx.put,h.1],fun i hi=>?_⟩
  have hx:x≠i:=fun e=>hi (e▸hd x rfl);rw [←h.2 i hi];simp [Sx.put,List.getD_eq_getElem?_getD,List.getElem?_set_ne hx]
def Ev (ops:Array Oper):List Nat:=ops.toList.filterMap (·.dst)
theorem qS {ops:Array Oper}{i:Nat}{o:Oper}(hi:ops[i]?=some o):∀y,o.dst=some y→y∈Ev ops:=fun _ hx =>
 List.mem_filterMap.2 ⟨o,Array.mem_toList_iff.2 (Array.mem_of_getElem? hi),hx⟩
def Kpt (ds:List Deferred)(ws:List Nat)(fr0:Fr)(a:Act):Prop:=a.defers=ds∧a.tmps.size=fr0.length∧∀i,i∉ws→a.tmps.getD i undef=fr0.getD i undef
theorem Kpt.of {ws:List Nat}{fr0 fr:Fr}(h:b5 ws fr0 fr):Kpt ds ws fr0 (dt ds fr) :=
 ⟨rfl,by simpa [dt] using h.1,fun i hi=>by simpa [dt] using h.2 i hi⟩
theorem Kpt.mono {ws ws':List Nat}{fr0:Fr}{a:Act}(h:Kpt ds ws fr0 a)(hs:∀i,i∈ws→i∈ws'):Kpt ds ws' fr0 a:=⟨h.1,h.2.1,fun i hi=>h.2.2 i fun hh=>hi (hs i hh)⟩
theorem Kpt.trans {ws ws':List Nat}{fr0 fr:Fr}{a:Act}(h:b5 ws fr0 fr)(k:Kpt ds ws' fr a):Kpt ds (ws++ws') fr0 a :=
 ⟨k.1,k.2.1.trans h.1,fun i hi=>by rw [Z3,not_or] at hi;exact (k.2.2 i hi.2).trans (h.2 i hi.1)⟩
theorem Kpt.Nj {ws:List Nat}{fr0:Fr}{a:Act}{d:Option Tmp}{v:Value}(hd:∀y,d=some y→y∈ws)(h:Kpt ds ws fr0 (a.put d v)):Kpt ds ws fr0 a:=by
 cases d with
 |none=>exact h
 |some x =>
  obtain ⟨h1,h2,h3⟩:=h;refine ⟨h1,by simpa [Act.put] using h2,fun i hi=>?_⟩
  have hx:x≠i:=fun e=>hi (e▸hd x rfl);have:=h3 i hi;rw [←this];simp [Act.put,Array.getD_eq_getD_getElem?,Array.getElem?_setIfInBounds_ne hx]
def Qr (ω:Amb)(ds:List Deferred)(Z:Act→Prop)(K:Fr→Hp→Prop)(X:XT):Exit→Act→World→Prop:=fun e a w =>
 (∃d,w=W ω w.heap d)∧match e with
 |.normal=>∃fr,a=dt ds fr∧K fr w.heap
 |.panic c=>Z a∧X c w.heap
 |_=>False
theorem pc {Z:Act→Prop}{ops:Array Oper}{i:Nat}{o:Oper}(hi:ops[i]?=some o){fr:Fr}(hz:Z (dt ds fr)){w:World}{K:Fr→Hp→Prop}{X:XT}
  {K':Act→World→Prop} (hw:Region.wanted o (yielded ops (dt ds fr).tmps)=true)
  (h:dX P ω (fun v h'=>∀d,K' (dt ds (put fr o.dst v)) (W ω h' d)) X ((execOp (ev fr) o).run P w)) :
  wpOp P ops (Qr ω ds Z K X) i K' (dt ds fr) w:=by
 unfold wpOp;simp only [hi,hw,if_true];refine .inl ?_;unfold Oper.wp;rw [mf];generalize (execOp (ev fr) o).run P w=r at *;unfold dX at h
 split at h
 ·obtain ⟨⟨d',hd⟩,h⟩:=h;simp only [Oper.upon,lM];rw [hd];exact h d'
 ·obtain ⟨⟨d',hd⟩,h⟩:=h;simp only [Oper.upon,lM];rw [hd];exact h d'
 ·obtain ⟨⟨d',hd⟩,h⟩:=h;simp only [Oper.upon];rename_i f args w';have:=h d';rw [←hd] at this;refine this.mono fun e w'' ⟨⟨d2,hd2⟩,hR⟩=>?_;cases e with
  |returned v=>simp only [lM];rw [hd2];exact hR d2
  |panicked c=>exact ⟨⟨d2,hd2⟩,hz,hR⟩
  |outgrown=>exact hR.elim
 ·obtain ⟨⟨d',hd⟩,h⟩:=h;exact ⟨⟨d',hd⟩,hz,h⟩
 ·exact h.elim
theorem tU {ops:Array Oper}{i:Nat}{o:Oper}(hi:ops[i]?=some o){fr:Fr}{w:World}{Q:Exit→Act→World→Prop}
  {K':Act→World→Prop} (hw:Region.wanted o (yielded ops (dt ds fr).tmps)=false) (h:K' (dt ds (put fr o.dst undef)) w) :
  wpOp P ops Q i K' (dt ds fr) w:=by
 unfold wpOp;simp only [hi,hw,Bool.false_eq_true,if_false,lM];exact h
def sx (P:Program)(ω:Amb)(ops:Array Oper)(K:Fr→Hp→Prop)(X:XT):List Nat→List Nat→Fr→Hp→Prop
 |[],_,fr,h=>K fr h
 |i::rest,sk,fr,h=>match ops[i]? with
  |none=>sx P ω ops K X rest sk fr h
  |some o=>sX ops sk o fr (fun fr'=>opx P ω o.op (ev fr') h (fun v h'=>sx P ω ops K X rest (Ej sk o.dst) (put fr' o.dst v) h') X) (fun fr'=>sx P ω ops K X rest (G7 sk o.dst) (put fr' o.dst undef) h)
theorem pL {ops:Array Oper}{K:Fr→Hp→Prop}{X:XT}{fr0:Fr}:∀(l sk:List Nat) (fr:Fr) (h:Hp),sx P ω ops K X l sk fr h→Skd sk fr→b5 (Ev ops) fr0 fr →
  ∀d,wpOps P ops (Qr ω ds (Kpt ds (Ev ops) fr0) (fun fr h=>K fr h∧b5 (Ev ops) fr0 fr) X) l (dt ds fr) (W ω h d)
 |[],_,fr,h,hk,_,ha,d=>⟨⟨d,rfl⟩,fr,rfl,hk,ha⟩
 |i::rest,sk,fr,h,hk,hsk,ha,d=>by
  rw [wpOps_cons];simp only [sx] at hk
  split at hk
  ·rename_i hi;unfold wpOp;simp only [hi];exact pL rest sk fr h hk hsk ha d
  ·rename_i o hi;have hp:=fun v=>ha.put (qS hi) v;rcases pJ hsk hk with ⟨hw,hk⟩|⟨hw,hk⟩
   ·refine pc hi (Kpt.of ha) hw ?_;have:=tP o (ev fr) h _ X hk d;generalize (execOp (ev fr) o).run P (W ω h d)=r at *;unfold dX at *
    split at this
    ·exact ⟨this.1,fun d=>pL rest _ _ _ this.2 (hsk.put _ _) (hp _) d⟩
    ·exact ⟨this.1,fun d=>pL rest _ _ _ this.2 (hsk.put _ _) (hp _) d⟩
    ·exact ⟨this.1,this.2.mono (fun v h' hh d=>pL rest _ _ _ hh (hsk.put _ _) (hp _) d) (fun _ _ hh=>hh)⟩
    ·exact this
    ·exact this.elim
   ·exact tU hi hw (pL rest _ _ _ hk (hsk.skip _) (hp _) d)
end Go.Sx
