import Derived.Test.YtkeeboomikkojaaGreatDoorRx1
import Derived.Test.YtkeeboomikkojaaGreatDoorYk
import Derived.Test.YtkeeboomikkojaaGreatDoorRn7
import Derived.Test.YtkeeboomikkojaaGreatDoorRn8
import Derived.Test.YtkeeboomikkojaaGreatDoorRn2
import Derived.Test.YtkeeboomikkojaaGreatDoorRk
set_option maxRecDepth 100000
namespace Go.Proofs.YtkeeboomikkojaaGreatDoor
open Go Go.Sx Go.Sx.Tk Go.Sx.Rn Go.Proofs.YtkeeboomikkojaaGreatDoor.Sx
def Fb (s:ByteArray)(e:MapEntry):Bool:=match e.key with
 |.string u=>s==u
 |_=>false
def JV (l:List MapEntry):Prop:=∀e∈l,∃u,e.key=.string u
theorem ta {s u:ByteArray}{e:MapEntry}(hu:e.key=.string u)(r:List MapEntry)(j:Nat):Instr.findNow .string (.string s) (e::r) j=if (s==u)=true then some (some (j,e.val)) else Instr.findNow .string (.string s) r (j+1):=by
 conv=>lhs;unfold Instr.findNow
 rw [hu,show Instr.sameNow .string (.string s) (.string u)=some (s==u) from rfl]
 cases s==u<;>rfl
def CR (l:List MapEntry)(s:ByteArray):Option Value:=(l.find? (Fb s)).map (·.val)
theorem oJ {s u:ByteArray}{e:MapEntry}(hu:e.key=.string u)(r:List MapEntry):CR (e::r) s=if (s==u)=true then some e.val else CR r s:=by
 unfold CR;rw [List.find?_cons];have:Fb s e=(s==u):=by unfold Fb;rw [hu]
 rw [this];cases s==u<;>rfl
theorem qI {s:ByteArray}:∀{l:List MapEntry} (j:Nat),JV l→∃r,Instr.findNow .string (.string s) l j=some r∧r.map (·.2)=CR l s
 |[],_,_=>⟨none,rfl,rfl⟩
 |e::r,j,h=>by
  obtain ⟨u,hu⟩:=h e Qg;rw [ta hu,oJ hu]
  by_cases hs:(s==u)=true
  ·rw [if_pos hs,if_pos hs];exact ⟨_,rfl,rfl⟩
  ·rw [if_neg hs,if_neg hs];exact qI (j+1) fun x hx=>h x (Q9 _ hx)
theorem CO {s:ByteArray}{v:Value}:∀{l:List MapEntry} {j i:Nat} {v0:Value},JV l→Instr.findNow .string (.string s) l j=some (some (i,v0)) →
  JV (l.modify (i - j) fun e=>{ e with key:=.string s,val:=v })∧∀t,CR (l.modify (i - j) fun e=>{ e with key:=.string s,val:=v }) t=if t=s then some v else CR l t
 |[],_,_,_,_,h=>by cases h
 |e::r,j,i,v0,hl,h=>by
  obtain ⟨u,hu⟩:=hl e Qg;have hr:JV r:=fun x hx=>hl x (Q9 _ hx);rw [ta hu] at h
  by_cases hs:(s==u)=true
  ·rw [if_pos hs] at h;cases h;have hsu:s=u:=(MapKept.bytes_beq _ _).1 hs;rw [Nat.sub_self,List.modify_zero_cons];refine ⟨fun x hx=>?_,fun t=>?_⟩
   ·rcases List.mem_cons.1 hx with rfl|hx
    ·exact ⟨s,rfl⟩
    ·exact hr x hx
   ·rw [oJ (u:=s) rfl,oJ hu,←hsu]
    by_cases ht:t=s
    ·rw [if_pos ht,if_pos ((MapKept.bytes_beq _ _).2 ht)]
    ·rw [if_neg ht,if_neg (fun hh=>ht ((MapKept.bytes_beq _ _).1 hh)),if_neg (fun hh=>ht ((MapKept.bytes_beq _ _).1 hh))]
  ·rw [if_neg hs] at h;obtain ⟨h1,_⟩:=sr h;obtain ⟨g1,g2⟩:=CO (v:=v) hr h;rw [show i - j=(i - (j+1))+1 by omega,List.modify_succ_cons]
   refine ⟨fun x hx=>?_,fun t=>?_⟩
   ·rcases List.mem_cons.1 hx with rfl|hx
    ·exact ⟨u,hu⟩
    ·exact g1 x hx
   ·rw [oJ hu,oJ hu,g2 t]
    by_cases ht:t=s
    ·subst ht;rw [if_neg hs,if_pos rfl,if_pos rfl]
    ·rw [if_neg ht,if_neg ht]
theorem GL {s:ByteArray}:∀{l:List MapEntry} {j:Nat},JV l→Instr.findNow .string (.string s) l j=some none→CR l s=none
 |l,j,hl,h=>by
  obtain ⟨r,h1,h2⟩:=qI (s:=s) j hl;rw [h] at h1;cases h1;exact h2.symm
theorem Jv {l:List MapEntry}{s t:ByteArray}{v:Value}{c:Nat}(hn:CR l s=none):CR (l++[⟨.string s,v,c⟩]) t=if t=s then some v else CR l t:=by
 unfold CR at hn ⊢;rw [List.find?_append];have hk:Fb t ⟨.string s,v,c⟩=(t==s):=rfl
 by_cases ht:t=s
 ·subst ht;have:l.find? (Fb t)=none:=by simpa using hn
  rw [if_pos rfl,this,List.find?_cons,hk,(MapKept.bytes_beq _ _).2 rfl];rfl
 ·have:(t==s)=false:=by
   cases h:t==s with
   |false=>rfl
   |true=>exact absurd ((MapKept.bytes_beq _ _).1 h) ht
  rw [if_neg ht,List.find?_cons,hk,this];simp
def qJ (h:Hp)(b:Nat)(f:ByteArray→Option Value):Prop:=∃es clock,h[b]?=some (.map es clock)∧JV es.toList∧∀s,CR es.toList s=f s
theorem qJ.lt {h:Hp}{b:Nat}{f:ByteArray→Option Value}(hm:qJ h b f):b < h.size:=by
 obtain ⟨es,c,hb,_⟩:=hm;exact gd hb
theorem qJ.aC {h h':Hp}{b:Nat}{f:ByteArray→Option Value}{S:Nat→Prop}(hm:qJ h b f)(k:ar S h h')(hn:¬S b):qJ h' b f:=by
 obtain ⟨es,c,hb,h1⟩:=hm;exact ⟨es,c,k.get hb hn,h1⟩
theorem qJ.new {h:Hp}:qJ (h.push (.map #[] 0)) h.size fun _=>none:=⟨#[],0,ah,fun e he=>(List.not_mem_nil he).elim,fun _=>rfl⟩
theorem qJ.ne {h:Hp}{b k:Nat}{f:ByteArray→Option Value}(hm:qJ h b f){c:Array Value}{t:TypeId}{z:Nat×Nat}(hk:h[k]?=some (.cells c t z)):b≠k:=by
 rintro rfl;obtain ⟨es,c,hb,_⟩:=hm;rw [hb] at hk;cases hk
theorem qJ.at {h:Hp}{b:Nat}{f:ByteArray→Option Value}(hm:qJ h b f)(s:ByteArray){F:Array MapEntry→Nat→Option (Nat×Value)→Prop}(hF:∀es c r,h[b]?=some (.map es c)→JV es.toList→(∀s,CR es.toList s=f s)→Instr.findNow .string (.string s) es.toList 0=some r→r.map (·.2)=f s→F es c r):MJ h b s F:=by
 obtain ⟨es,c,hb,h1,h2⟩:=hm;obtain ⟨r,h3,h4⟩:=qI (s:=s) 0 h1;exact ⟨es,c,r,hb,h3,hF es c r hb h1 h2 h3 (h4.trans (h2 s))⟩
theorem qJ.put {h:Hp}{b:Nat}{f:ByteArray→Option Value}{es:Array MapEntry}{c:Nat}{s:ByteArray}{r:Option (Nat×Value)}(hb:h[b]?=some (.map es c))(h1:JV es.toList)(h2:∀s,CR es.toList s=f s)(h3:Instr.findNow .string (.string s) es.toList 0=some r)(v:Value) :
  qJ (h.setIfInBounds b (putE es c s v r)) b fun t=>if t=s then some v else f t:=by
 have hs:∀o,(h.setIfInBounds b o)[b]?=some o:=fun o=>aq hb;cases r with
 |some q =>
  obtain ⟨i,v0⟩:=q;obtain ⟨g1,g2⟩:=CO (v:=v) h1 h3;rw [Nat.sub_zero] at g1 g2;refine ⟨_,c,hs _,?_,fun t=>?_⟩
  ·rw [Array.toList_modify];exact g1
  ·rw [Array.toList_modify,g2 t,h2 t]
 |none =>
  refine ⟨_,c+1,hs _,?_,fun t=>?_⟩
  ·rw [Array.toList_push];intro e he;rcases Z3.1 he with he|he
   ·exact h1 e he
   ·rw [Qf.1 he];exact ⟨s,rfl⟩
  ·rw [Array.toList_push,Jv (GL h1 h3),h2 t]
def pG (P:Program)(t:TypeId):Option Value:=match P.underlying t with
 |some (.map k el)=>match P.underlying k,P.info? el with
  |some .string,some i=>i.zero
  |_,_=>none
 |_=>none
theorem wm {P:Program}{t:TypeId}{z:Value}(hf:pG P t=some z){h:Hp}{b:Nat}{f:ByteArray→Option Value}(hm:qJ h b f)(s:ByteArray){ok:Bool}{K:RT}
  (hk:K (if ok then .tuple #[(f s).getD z,.bool (f s).isSome] else (f s).getD z) h):iT P t h (.map (some b)) (.string s) ok K:=by
 unfold pG at hf;unfold iT
 split at hf<;>try cases hf
 rename_i k el hu
 split at hf<;>try cases hf
 rename_i i hs hi;simp only [hu,hs,hi,hf];refine hm.at s fun es c r _ _ _ _ hr=>?_;rw [show r.isSome=(f s).isSome by rw [←hr];cases r<;>rfl,hr]
 exact hk
theorem EP {P:Program}{t:TypeId}{z:Value}(hf:pG P t=some z){h:Hp}{b:Nat}{f:ByteArray→Option Value}(hm:qJ h b f)(s:ByteArray)(v:Value){K:Hp→Prop}
  (hk:∀o,qJ (h.setIfInBounds b o) b (fun t=>if t=s then some v else f t)→K (h.setIfInBounds b o)):IC P t h (.map (some b)) (.string s) v K:=by
 unfold pG at hf;unfold IC
 split at hf<;>try cases hf
 rename_i k el hu
 split at hf<;>try cases hf
 rename_i i hs hi;simp only [hu,hs];exact hm.at s fun es c r h0 h1 h2 h3 _=>hk _ (qJ.put h0 h1 h2 h3 v)
theorem FD:pG Tryz.prog 77=some (.int .i64 0):=by kernel_rfl
theorem Cl:pG Tryz.prog 122=some (.agg #[.string ⟨#[]⟩,.string ⟨#[]⟩]):=by kernel_rfl
theorem MH {h:Hp}{b:Nat}{f:ByteArray→Option Value}(hm:qJ h b f)(s:ByteArray){K:RT}
  (hk:K (.tuple #[(f s).getD (.agg #[.string ⟨#[]⟩,.string ⟨#[]⟩]),.bool (f s).isSome]) h):iT Tryz.prog 122 h (.map (some b)) (.string s) true K :=
 wm (ok:=true) Cl hm s hk
theorem HO {h:Hp}{b:Nat}{f:ByteArray→Option Value}(hm:qJ h b f)(s:ByteArray){K:RT}
  (hk:K ((f s).getD (.int .i64 0)) h):iT Tryz.prog 77 h (.map (some b)) (.string s) false K :=
 wm (ok:=false) FD hm s hk
theorem OY {h:Hp}{b:Nat}{f:ByteArray→Option Value}(hm:qJ h b f)(s:ByteArray)(v:Value){K:Hp→Prop}
 (hk:∀o,qJ (h.setIfInBounds b o) b (fun t=>if t=s then some v else f t)→K (h.setIfInBounds b o)):IC Tryz.prog 122 h (.map (some b)) (.string s) v K:=EP Cl hm s v hk
theorem Pw {h:Hp}{b:Nat}{f:ByteArray→Option Value}(hm:qJ h b f)(s:ByteArray)(v:Value){K:Hp→Prop}
 (hk:∀o,qJ (h.setIfInBounds b o) b (fun t=>if t=s then some v else f t)→K (h.setIfInBounds b o)):IC Tryz.prog 77 h (.map (some b)) (.string s) v K:=EP FD hm s v hk
theorem LJ:rE Tryz.prog 55=some (56,2,32):=by kernel_rfl
abbrev Vr:=ByteArray×ByteArray
def vrC (v:Vr):List Value:=[.string v.1,.string v.2]
def vrV (v:Vr):Value:=.agg (vrC v).toArray
def fR (env:List Vr)(s:ByteArray):Option ByteArray:=(env.find? fun v=>decide (v.1=s)).map (·.2)
def frF (fr:List Vr)(s:ByteArray):Option Value:=(fr.find? fun v=>decide (v.1=s)).map vrV
theorem Ix (v:Vr)(fr:List Vr)(s:ByteArray):frF (v::fr) s=if s=v.1 then some (vrV v) else frF fr s:=by
 unfold frF;rw [List.find?_cons]
 by_cases h:v.1=s
 ·rw [Z7 h,if_pos h.symm];rfl
 ·rw [Z0 h,if_neg (fun hh=>h hh.symm)]
theorem EZ (a b:List Vr)(s:ByteArray):fR (a++b) s=match fR a s with|some t=>some t|none=>fR b s:=by
 unfold fR;rw [List.find?_append];cases List.find? (fun v=>decide (v.1=s)) a<;>rfl
theorem rN {env:List Vr}{s t:ByteArray}(h:fR env s=some t):∃v∈env,v.1=s∧v.2=t:=by
 unfold fR at h;cases hf:env.find? fun v=>decide (v.1=s) with
 |none=>rw [hf] at h;cases h
 |some v =>
  rw [hf] at h;cases h;exact ⟨v,List.mem_of_find?_eq_some hf,by have:=List.find?_some hf;simpa using this,rfl⟩
abbrev Fr:=Nat×Nat×List Vr
def cy (l:List Fr):List Vr:=l.flatMap (·.2.2)
def ScS (h:Hp)(M:Nat):Value→List Fr→Prop
 |v,[]=>v=.pointer none
 |v,q::r=>v=pp q.1∧M < q.2.1∧(∀p∈r,p.1 < q.1∧p.2.1 < q.2.1)∧qJ h q.2.1 (frF q.2.2)∧∃u,h[q.1]?=some (.cells [u,.map (some q.2.1)].toArray 124 (0,0))∧ScS h M u r
theorem ScS.aC {h h':Hp}{M:Nat}{S:Nat→Prop}(k:ar S h h'):∀{l:List Fr} {v:Value},ScS h M v l→(∀q∈l,¬S q.1∧¬S q.2.1)→ScS h' M v l
 |[],_,hs,_=>hs
 |q::r,v,hs,hn=>by
  obtain ⟨h1,h2,h3,h4,u,h5,h6⟩:=hs;obtain ⟨n1,n2⟩:=hn q Qg;exact ⟨h1,h2,h3,h4.aC k n2,u,k.get h5 n1,ScS.aC k h6 fun p hp=>hn p (Q9 _ hp)⟩
theorem ScS.more {h h':Hp}{M:Nat}{l:List Fr}{v:Value}(hs:ScS h M v l)(k:KF h h'):ScS h' M v l:=hs.aC k fun _ _=>⟨id,id⟩
theorem ScS.get {h:Hp}{M:Nat}:∀{l:List Fr} {v:Value},ScS h M v l→∀q∈l,M < q.2.1∧(∃f,qJ h q.2.1 f)∧∃u,h[q.1]?=some (.cells [u,.map (some q.2.1)].toArray 124 (0,0))
 |[],_,_,q,hq=>absurd hq List.not_mem_nil
 |p::r,v,hs,q,hq=>by
  obtain ⟨h1,h2,h3,h4,u,h5,h6⟩:=hs;rcases List.mem_cons.1 hq with rfl|hq
  ·exact ⟨h2,⟨_,h4⟩,u,h5⟩
  ·exact ScS.get h6 q hq
def ckC (va:Value)(M:Nat)(vv:Value)(n:Int)(f:Int×Int):List Value:=[va,.map (some M),vv,.int .i64 n,.int .i64 f.1,.int .i64 f.2]
structure CS (h0:Hp)(C:Nat)(h:Hp)(va:Value)(M:Nat)(vv:Value)(n:Int)(f:Int×Int):Prop where
 k:KF h0 h
 b:h0.size≤C
 c:h[C]?=some (.cells (ckC va M vv n f).toArray 79 (0,0))
abbrev KC (C:Nat)(h h':Hp):Prop:=ar (fun k=>k=C) h h'
theorem KC.of {C:Nat}{h h':Hp}(k:KF h h'):KC C h h':=k.mono fun _ _ hf=>hf.elim
theorem CS.lt {h0 h:Hp}{C M:Nat}{va vv:Value}{n:Int}{f:Int×Int}(cs:CS h0 C h va M vv n f):C < h.size:=gd cs.c
theorem CS.aC {h0 h h':Hp}{C M:Nat}{va vv:Value}{n:Int}{f:Int×Int}(cs:CS h0 C h va M vv n f)(k:KF h h'):CS h0 C h' va M vv n f:=⟨cs.k.trans k,cs.b,k.get cs.c id⟩
theorem ScS.oR {h h':Hp}{C M M':Nat}{va vv:Value}{n:Int}{f:Int×Int}{h0:Hp}{l:List Fr}{v:Value}(hs:ScS h M v l)(cs:CS h0 C h va M' vv n f)(k:KC C h h'):ScS h' M v l:=by
 refine hs.aC k fun q hq=>?_;obtain ⟨_,⟨f,hm⟩,u,hu⟩:=hs.get q hq;refine ⟨fun e=>?_,hm.ne cs.c⟩;have h1:=cs.c;rw [←e,hu] at h1;cases h1
def kfl (f:Int×Int)(c a:Int):Int×Int:=if f.1=0 then (c,a) else f
abbrev iB:ByteArray:=⟨#[105]⟩
abbrev sB:ByteArray:=⟨#[115]⟩
abbrev rB:ByteArray:=⟨#[114]⟩
def jA (env:List Vr)(nm bg:ByteArray)(at_:Int)(f:Int×Int):ByteArray×(Int×Int):=match fR env nm with
 |none=>(e0,kfl f 10 at_)
 |some t=>if t.extract 0 bg.size=bg then (t,f) else (e0,kfl f 11 at_)
theorem kH {env:List Vr}{nm:ByteArray}(h:fR env nm=none)(bg:ByteArray)(at_:Int)(f:Int×Int):jA env nm bg at_ f=(e0,kfl f 10 at_):=by
 unfold jA;rw [h]
theorem iU {env:List Vr}{nm t:ByteArray}(h:fR env nm=some t)(bg:ByteArray)(at_:Int)(f:Int×Int):jA env nm bg at_ f=if t.extract 0 bg.size=bg then (t,f) else (e0,kfl f 11 at_):=by
 unfold jA;rw [h]
def nt (env:List Vr)(at_:Int)(x:Ex)(f:Int×Int):Int×Int:=if x.op=2 then (jA env x.nm iB at_ f).2 else f
mutual
def u6 (env:List Vr)(at_:Int):Ex→Int×Int→Int×Int
 |.mk op nm n l,f=>jo env at_ l (nt env at_ (.mk op nm n l) f)
def jo (env:List Vr)(at_:Int):List Ex→Int×Int→Int×Int
 |[],f=>f
 |x::r,f=>jo env at_ r (u6 env at_ x f)
end
theorem uP (env:List Vr)(at_:Int)(x:Ex)(f:Int×Int):u6 env at_ x f=jo env at_ x.l (nt env at_ x f):=by cases x;rfl
theorem vP (env:List Vr)(at_:Int):∀(l:List Ex) (x:Ex) (f:Int×Int),jo env at_ (l++[x]) f=u6 env at_ x (jo env at_ l f)
 |[],_,_=>rfl
 |y::r,x,f=>vP env at_ r x (u6 env at_ y f)
def fg (env:List Vr)(at_:Int)(x:Ex)(t:ByteArray)(f:Int×Int):Int×Int :=
 if t=iB then u6 env at_ x f else if x.op≠2 then kfl f 11 at_
 else if (jA env x.nm e0 at_ f).1≠t then kfl (jA env x.nm e0 at_ f).2 11 at_ else (jA env x.nm e0 at_ f).2
section
variable  {ω:Amb}{h0:Hp}{C M:Nat}{va vv:Value}{n:Int}
theorem cn {h : Hp} {f : Int × Int} (cs : CS h0 C h va M vv n f) (c a : Int) (X : XT) :
    aa Tryz.prog ω 70 [pp C, .int .i64 c, .int .i64 a] h (fun _ h' => CS h0 C h' va M vv n (kfl f c a) ∧ KC C h h') X := by
  refine nu ω _ _ _ h _ X ?_
  unfold fA
  simp only [nnK_ptr, asP_some]
  refine ⟨_, lx' (j := 4) cs.c rfl, ?_⟩
  rw [asK_int]
  refine ⟨fun h' => CS h0 C h' va M vv n (kfl f c a) ∧ KC C h h', ae (fun hc => ?_) (fun hc => ?_), fun _ _ hh => hh⟩
  · have hf : f.1 = 0 := by simpa using hc
    refine ⟨trivial, (fun u hu => by rcases List.mem_cons.1 hu with rfl | hu; · exact rfl
                                     · rw [Qf.1 hu]; exact rfl), ?_⟩
    refine aW (o := 4) cs.c (by simp [ckC]) ?_
    have hs := aq (o := .cells (ckC va M vv n (c, a)).toArray 79 (0, 0)) cs.c
    have k := ar.set (S := fun k => k = C) (h := h) (.cells (ckC va M vv n (c, a)).toArray 79 (0, 0)) (b := C) rfl
    have e : spl (ckC va M vv n f).toArray 4 [.int .i64 c, .int .i64 a] = (ckC va M vv n (c, a)).toArray := rfl
    rw [e]
    generalize h.setIfInBounds C (.cells (ckC va M vv n (c, a)).toArray 79 (0, 0)) = h1 at *
    have : kfl f c a = (c, a) := by unfold kfl; rw [if_pos hf]
    rw [this]
    exact ⟨⟨cs.k.cS (k.mono fun b _ hb => .inr (by have := cs.b; omega)), cs.b, hs⟩, k⟩
  · have hf : f.1 ≠ 0 := by simpa using hc
    have : kfl f c a = f := by unfold kfl; rw [if_neg hf]
    rw [this]
    exact ⟨cs, ar.refl _ _⟩
theorem GD {h : Hp} {v : Value} {l : List Fr} (hs : ScS h M v l) (nm : ByteArray) (X : XT) :
    aa Tryz.prog ω 155 [v, .string nm] h (fun r h' => r = .tuple #[.string ((fR (cy l) nm).getD e0), .bool (fR (cy l) nm).isSome] ∧ KF h h') X := by
  refine qc ω _ _ h _ X ?_
  unfold gZ
  refine ⟨fun u h' => ∃ r, ScS h' M u r ∧ fR (cy r) nm = fR (cy l) nm ∧ KF h h', fun u _ => match u with | .pointer (some a) => a.block + 1 | _ => 0, ⟨l, hs, rfl, ar.refl _ _⟩, ?_⟩
  rintro u _ h1 ⟨r, hs1, hr, k1⟩
  cases r with
  | nil =>
    obtain rfl := hs1
    rw [asPo_ptr]
    refine ba rfl ?_
    rw [← hr]
    exact ⟨rfl, k1⟩
  | cons q r =>
    obtain ⟨rfl, _, hlt, hm, u, hq, hs2⟩ := hs1
    rw [asPo_ptr]
    refine cx rfl ?_
    simp only [nnK_ptr, asP_some]
    refine ⟨_, lx' (j := 1) hq rfl, ?_⟩
    refine MH hm nm ?_
    have henv : fR (cy (q :: r)) nm = match fR q.2.2 nm with | some t => some t | none => fR (cy r) nm := EZ _ _ _
    rw [asT_tup, show ∀ a b : Value, (#[a, b] : Array Value)[0]? = some a from fun _ _ => rfl, asO_some, asT_tup, show ∀ a b : Value, (#[a, b] : Array Value)[1]? = some b from fun _ _ => rfl, asO_some]
    have hfr : frF q.2.2 nm = (q.2.2.find? fun v => decide (v.1 = nm)).map vrV := rfl
    have hkl : fR q.2.2 nm = (q.2.2.find? fun v => decide (v.1 = nm)).map (·.2) := rfl
    rw [hkl] at henv
    rw [hfr]
    generalize q.2.2.find? (fun v => decide (v.1 = nm)) = g at henv
    have k2 : ∀ o, KF h1 (h1.push o) := fun o => ar.push _ _
    cases g with
    | some w =>
      show asA (vrV w) _
      unfold vrV
      rw [asA_agg]
      refine ⟨rfl, (fun u hu => by rcases List.mem_cons.1 hu with rfl | hu; · exact rfl
                                   · rw [Qf.1 hu]; exact rfl), aA (cs := vrC w) rfl ?_⟩
      show asB (.bool true) _
      rw [asB_bool]
      refine cx rfl ?_
      refine lx (ah (h := h1)) (j := 1) (cs := vrC w) rfl ?_
      rw [← hr, henv]
      exact ⟨rfl, k1.trans (k2 _)⟩
    | none =>
      show asA (.agg #[.string ⟨#[]⟩, .string ⟨#[]⟩]) _
      rw [asA_agg]
      refine ⟨rfl, (fun u hu => by rcases List.mem_cons.1 hu with rfl | hu; · exact rfl
                                   · rw [Qf.1 hu]; exact rfl), aA (cs := vrC (e0, e0)) rfl ?_⟩
      show asB (.bool false) _
      rw [asB_bool]
      refine ba rfl ?_
      have k3 := k2 (.cells (vrC (e0, e0)).toArray 56 (0, 0))
      refine ⟨_, lx' (j := 0) (k3.get hq id) rfl, ⟨r, hs2.more k3, by rw [← hr, henv]; rfl, k1.trans k3⟩, ?_⟩
      cases r with
      | nil =>
        obtain rfl := hs2
        show 0 < q.1 + 1
        omega
      | cons p r =>
        obtain ⟨rfl, _⟩ := hs2
        show p.1 + 1 < q.1 + 1
        have := (hlt p Qg).1
        omega
def TyL (env:List Vr):Prop:=∀v∈env,1≤v.2.size
theorem tE {h:Hp}{f:Int×Int}{v:Value}{l:List Fr}(cs:CS h0 C h va M vv n f)(hs:ScS h M v l)(ht:TyL (cy l))(nm bg:ByteArray)(hb:bg.size≤1)(at_:Int)(X:XT) :
  aa Tryz.prog ω 142 [pp C,v,.string nm,.string bg,.int .i64 at_] h (fun r h'=>r=.string (jA (cy l) nm bg at_ f).1∧CS h0 C h' va M vv n (jA (cy l) nm bg at_ f).2∧KC C h h') X:=by
 refine nQ ω _ _ _ _ _ h _ X ?_;unfold gC;refine aa.use (GD hs nm) ?_;rintro _ h1 ⟨rfl,k1⟩;have cs1:=cs.aC k1;rw [IJ,asB_bool];cases hl:fR (cy l) nm with
 |none =>
  rw [kH hl];refine cx rfl ?_;refine aa.use (cn cs1 10 at_) ?_;rintro _ h2 ⟨cs2,k2⟩;exact ⟨rfl,cs2,(KC.of k1).trans k2⟩
 |some t =>
  rw [iU hl];refine ba rfl ?_;obtain ⟨w,hw,_,rfl⟩:=rN hl;have:=ht w hw;show asS (.string bg) fun s9=>asS (.string w.2) fun s10=>_;rw [asS_str,asS_str];refine ⟨by decide,by omega,by omega,?_⟩
  rw [asS_str,eqB];show cond (!decide (w.2.extract 0 bg.size=bg)) _ _
  by_cases hx:w.2.extract 0 bg.size=bg
  ·rw [Z7 hx];refine ba rfl ?_;rw [if_pos hx];exact ⟨rfl,cs1,KC.of k1⟩
  ·rw [Z0 hx];refine cx rfl ?_;refine aa.use (cn cs1 11 at_) ?_;rintro _ h2 ⟨cs2,k2⟩;rw [if_neg hx];exact ⟨rfl,cs2,(KC.of k1).trans k2⟩
end
section
variable  {ω:Amb}{h0:Hp}{C M:Nat}{va vv:Value}{n:Int}
set_option maxHeartbeats 400000 in
theorem xN {v:Value}{l:List Fr}(ht:TyL (cy l))(at_:Int):∀(N:Nat) (x:Ex),exN x < N→∀(h:Hp) (w:Value) (f:Int×Int),ExS h0 w x.l→CS h0 C h va M vv n f→ScS h M v l→∀(X:XT),
  aa Tryz.prog ω 143 [pp C,v,.agg (exC x w).toArray,.int .i64 at_] h (fun _ h'=>CS h0 C h' va M vv n (u6 (cy l) at_ x f)∧KC C h h') X:=by
 intro N
 induction N with
 |zero=>exact fun l hN=>absurd hN (Nat.not_lt_zero _)
 |succ N ih =>
  intro x hN h w f hw cs hs X;refine kK ω _ _ _ _ h _ X ?_;unfold eh bK;simp only [eI];show ∃v0,_;have hxe:=gA x;have hmax:=hw.max;have hb1:=ah (h:=h) (o:=.cells (exC x w).toArray 36 (0,0));have kp:=ar.push (S:=fun _=>False) h (.cells (exC x w).toArray 36 (0,0));generalize h.push (.cells (exC x w).toArray 36 (0,0))=h1 at *;have cs1:=cs.aC kp;have kb1:=KC.of (C:=C) kp;have hs1:=hs.more kp;have hne:h.size≠C:=by have:=cs.lt;omega
  refine lx hb1 (j:=0) rfl ?_;rw [asK_int];refine ⟨fun h'=>CS h0 C h' va M vv n (nt (cy l) at_ x f)∧KC C h1 h',?_,?_⟩
  ·refine ae (fun hc=>?_) (fun hc=>?_)
   ·refine lx hb1 (j:=1) rfl ?_;refine aa.use (tE cs1 hs1 ht x.nm iB (by decide) at_) ?_
    rintro _ h2 ⟨_,cs2,k2⟩;have:nt (cy l) at_ x f=(jA (cy l) x.nm iB at_ f).2:=by unfold nt;rw [if_pos (Zg hc)]
    rw [this];exact ⟨cs2,k2⟩
   ·have:nt (cy l) at_ x f=f:=by unfold nt;rw [if_neg (Qa.1 hc)]
    rw [this];exact ⟨cs1,ar.refl _ _⟩
  rintro _ h3 ⟨cs3,k3⟩;have hs3:=hs1.oR cs1 k3;have hb3:=k3.get hb1 hne;have k13:=kb1.trans k3;refine lx hb3 (j:=3) rfl ?_;refine (hw.aC cs3.k).sl fun _ _=>?_;refine ⟨fun t h'=>∃k:Nat,t=.int .i64 k∧k≤x.l.length∧CS h0 C h' va M vv n (jo (cy l) at_ (x.l.take k) (nt (cy l) at_ x f))∧KC C h3 h',fun t _=>match t with|.int _ k=>x.l.length - k.toNat|_=>0,
   ⟨0,rfl,by omega,cs3,ar.refl _ _⟩,?_⟩
  rintro _ _ h5 ⟨k,rfl,hk,cs5,k5⟩;have hw5:=hw.aC cs5.k;rw [asK_int];refine ae (fun hc=>?_) (fun hc=>?_)
  rotate_left
  ·have hc:=Qc hc;obtain rfl:k=x.l.length:=by omega
   rw [Qo,←uP] at cs5;exact ⟨cs5,k13.trans k5⟩
  have hkl:k < x.l.length:=by
   have:=Qj hc;omega
  have hx:=Q7 hkl;have hmem:x.l[k]∈x.l:=Qv hkl;generalize x.l[k]=y at hx hmem;have hyn:=cr hmem;refine hw.zU cs5.k hx fun w' hw'=>?_;refine ⟨rfl,dC hw'.b8,aA (cs:=exC y w') rfl ?_⟩;have hb6:=ah (h:=h5) (o:=.cells (exC y w').toArray 36 (0,0));have k6:=ar.push (S:=fun _=>False) h5 (.cells (exC y w').toArray 36 (0,0));generalize h5.push (.cells (exC y w').toArray 36 (0,0))=h6 at *;refine ⟨_,ak hb6 rfl,?_⟩
  refine aa.use (ih y (by omega) h6 w' _ hw' (cs5.aC k6) ((hs3.oR cs3 k5).more k6)) ?_
  rintro _ h7 ⟨cs7,k7⟩;rw [←vP,←aZ hx] at cs7;rw [asK_int,i64_in (by omega) (by omega)]
  exact ⟨⟨k+1,by simp,by omega,cs7,(k5.trans (KC.of k6)).trans k7⟩,by simp;omega⟩
theorem wc {v:Value}{l:List Fr}(ht:TyL (cy l))(at_:Int)(x:Ex)(t:ByteArray){h:Hp}{w:Value}{f:Int×Int}(hw:ExS h0 w x.l)(cs:CS h0 C h va M vv n f)(hs:ScS h M v l)(X:XT) :
  aa Tryz.prog ω 144 [pp C,v,.agg (exC x w).toArray,.string t,.int .i64 at_] h (fun _ h'=>CS h0 C h' va M vv n (fg (cy l) at_ x t f)∧KC C h h') X:=by
 refine lK ω _ _ _ _ _ h _ X ?_;unfold ez aY;simp only [eI];have hb1:=ah (h:=h) (o:=.cells (exC x w).toArray 36 (0,0));have kp:=ar.push (S:=fun _=>False) h (.cells (exC x w).toArray 36 (0,0));generalize h.push (.cells (exC x w).toArray 36 (0,0))=h1 at *;have cs1:=cs.aC kp;have kb1:=KC.of (C:=C) kp;have hs1:=hs.more kp;have hne:h.size≠C:=by have:=cs.lt;omega
 unfold fg;rw [asS_str,eqB]
 by_cases h1t:t=iB
 ·rw [Z7 h1t,if_pos h1t];refine cx rfl ?_;refine ⟨_,ak hb1 rfl,?_⟩;refine aa.use (xN ht at_ _ x (Qw _) h1 w f hw cs1 hs1) ?_;rintro _ h2 ⟨cs2,k2⟩;exact ⟨cs2,kb1.trans k2⟩
 rw [Z0 h1t,if_neg h1t];refine ba rfl ?_;refine lx hb1 (j:=0) rfl ?_;rw [asK_int];refine ae (fun hc=>?_) (fun hc=>?_)
 ·rw [if_pos (Ze.1 hc)];refine aa.use (cn cs1 11 at_) ?_;rintro _ h2 ⟨cs2,k2⟩;exact ⟨cs2,kb1.trans k2⟩
 rw [if_neg (by simpa using hc)]
 refine lx hb1 (j:=1) rfl ?_;refine aa.use (tE cs1 hs1 ht x.nm e0 (by decide) at_) ?_
 rintro _ h2 ⟨rfl,cs2,k2⟩;rw [asS_str,asS_str,eqB];refine ⟨fun h'=>CS h0 C h' va M vv n (if (jA (cy l) x.nm e0 at_ f).1≠t then kfl (jA (cy l) x.nm e0 at_ f).2 11 at_ else (jA (cy l) x.nm e0 at_ f).2)∧KC C h h',?_,fun _ _ hh=>hh⟩
 by_cases h3:(jA (cy l) x.nm e0 at_ f).1=t
 ·rw [Z7 h3,if_neg (Z9 h3)];exact ba rfl ⟨cs2,kb1.trans k2⟩
 ·rw [Z0 h3,if_pos h3];refine cx rfl ?_;refine aa.use (cn cs2 11 at_) ?_;rintro _ h4 ⟨cs4,k4⟩;exact ⟨cs4,(kb1.trans k2).trans k4⟩
end
theorem nV (x:St)(ve vb vl:Value):Value.cells (.agg (stC x ve vb vl).toArray)=(stC x ve vb vl).toArray:=rfl
def iH (x:St):Option (ByteArray×ByteArray) :=
 if x.d=5 then some (x.b,sB) else if x.d=6∨x.d=7 then some (x.a,sB) else if x.d=8∨x.d=9 then some (x.a,rB)
 else if x.d=11∨x.d=12 then some (x.b,rB) else none
def sZ (env:List Vr)(at_:Int)(x:St)(f:Int×Int):ByteArray×(Int×Int):=match iH x with
 |none=>(e0,f)
 |some (nm,bg)=>(if (jA env nm bg at_ f).1=e0∨x.d=5 then (jA env nm bg at_ f).1 else (jA env nm bg at_ f).1.extract 1 (jA env nm bg at_ f).1.size,(jA env nm bg at_ f).2)
theorem IK {x:St}{nm bg:ByteArray}(h:iH x=some (nm,bg)):bg.size≤1:=by
 unfold iH at h
 split at h
 ·cases h;decide
 split at h
 ·cases h;decide
 split at h
 ·cases h;decide
 split at h
 ·cases h;decide
 ·cases h
theorem Ip {env:List Vr}(ht:TyL env){nm bg:ByteArray}{at_:Int}{f:Int×Int}(h:(jA env nm bg at_ f).1≠e0):1≤(jA env nm bg at_ f).1.size:=by
 cases hl:fR env nm with
 |none=>rw [kH hl] at h;exact absurd rfl h
 |some t =>
  rw [iU hl] at h ⊢
  split at h
  ·rename_i hh;rw [if_pos hh];obtain ⟨w,hw,_,rfl⟩:=rN hl;exact ht w hw
  ·exact absurd rfl h
section
variable  {ω:Amb}{h0:Hp}{C M:Nat}{va vv:Value}{n:Int}
theorem IT {v:Value}{l:List Fr}(ht:TyL (cy l))(at_:Int)(x:St){h:Hp}{ve vb vl:Value}{f:Int×Int}(cs:CS h0 C h va M vv n f)(hs:ScS h M v l)(X:XT) :
  aa Tryz.prog ω 141 [pp C,v,.agg (stC x ve vb vl).toArray,.int .i64 at_] h (fun r h'=>r=.string (sZ (cy l) at_ x f).1∧CS h0 C h' va M vv n (sZ (cy l) at_ x f).2∧KC C h h') X:=by
 refine ox ω _ _ _ _ h _ X ?_;unfold gG bq;simp only [nV];have hb1:=ah (h:=h) (o:=.cells (stC x ve vb vl).toArray 39 (0,0));have kp:=ar.push (S:=fun _=>False) h (.cells (stC x ve vb vl).toArray 39 (0,0));generalize h.push (.cells (stC x ve vb vl).toArray 39 (0,0))=h1 at *;have cs1:=cs.aC kp;have kb1:=KC.of (C:=C) kp;have hs1:=hs.more kp;have hne:h.size≠C:=by have:=cs.lt;omega
 show ∃v0,_;refine lx hb1 (j:=2) rfl ?_;refine lx hb1 (j:=0) rfl ?_;refine ⟨fun nm bg h'=>(∃a b,nm=.string a∧bg=.string b∧iH x=some (a,b))∧h1=h',?_,?_⟩
 ·simp only [asK_int];refine ⟨fun nm bg h'=>(∃a b,nm=.string a∧bg=.string b∧iH x=some (a,b))∧h1=h',ae (fun hc=>?_) (fun hc=>?_),fun _ _ _ _ hh=>hh⟩
  ·refine lx hb1 (j:=3) rfl ?_;exact ⟨⟨_,_,rfl,rfl,by unfold iH;rw [if_pos (Zg hc)]⟩,rfl⟩
  have n5:=Qa.1 hc;refine ⟨fun u h'=>u=.bool (decide (x.d=6∨x.d=7))∧h1=h',ae (fun hc=>?_) (fun hc=>?_),?_⟩
  ·have:=Zg hc;exact ⟨by rw [hc,Z7 (.inl this)],rfl⟩
  ·have:=Qa.1 hc;refine ⟨?_,rfl⟩
   congr 1
   rw [Qz];simp [this]
  rintro _ _ _ ⟨rfl,rfl⟩;refine ⟨fun bg nm h'=>(∃a b,nm=.string a∧bg=.string b∧iH x=some (a,b))∧h1=h',?_,fun _ _ _ _ hh=>hh⟩;rw [asB_bool];refine ae (fun hc=>?_) (fun hc=>?_)
  ·exact ⟨⟨_,_,rfl,rfl,by unfold iH;rw [if_neg n5,if_pos (Qj hc)]⟩,rfl⟩
  have n67:=Qc hc;refine ⟨fun u h'=>u=.bool (decide (x.d=8∨x.d=9))∧h1=h',ae (fun hc=>?_) (fun hc=>?_),?_⟩
  ·have:=Zg hc;exact ⟨by rw [hc,Z7 (.inl this)],rfl⟩
  ·have:=Qa.1 hc;refine ⟨?_,rfl⟩
   congr 1
   rw [Qz];simp [this]
  rintro _ _ _ ⟨rfl,rfl⟩;refine ⟨fun bg nm h'=>(∃a b,nm=.string a∧bg=.string b∧iH x=some (a,b))∧h1=h',?_,fun _ _ _ _ hh=>hh⟩;rw [asB_bool];refine ae (fun hc=>?_) (fun hc=>?_)
  ·exact ⟨⟨_,_,rfl,rfl,by unfold iH;rw [if_neg n5,if_neg n67,if_pos (Qj hc)]⟩,rfl⟩
  have n89:=Qc hc;refine ⟨fun u h'=>u=.bool (decide (x.d=11∨x.d=12))∧h1=h',ae (fun hc=>?_) (fun hc=>?_),?_⟩
  ·have:=Zg hc;exact ⟨by rw [hc,Z7 (.inl this)],rfl⟩
  ·have:=Qa.1 hc;refine ⟨?_,rfl⟩
   congr 1
   rw [Qz];simp [this]
  rintro _ _ _ ⟨rfl,rfl⟩;rw [asB_bool];refine ae (fun hc=>?_) (fun hc=>?_)
  ·refine lx hb1 (j:=3) rfl ?_;exact ⟨⟨_,_,rfl,rfl,by unfold iH;rw [if_neg n5,if_neg n67,if_neg n89,if_pos (Qj hc)]⟩,rfl⟩
  have n12:=Qc hc;have:iH x=none:=by unfold iH;rw [if_neg n5,if_neg n67,if_neg n89,if_neg n12]
  unfold sZ;rw [this];exact ⟨rfl,cs1,kb1⟩
 rintro _ _ _ _ ⟨⟨nm,bg,rfl,rfl,hN⟩,rfl⟩;refine aa.use (tE cs1 hs1 ht nm bg (IK hN) at_) ?_;rintro _ h2 ⟨rfl,cs2,k2⟩;have hb2:=k2.get hb1 hne;have hk:sZ (cy l) at_ x f=(if (jA (cy l) nm bg at_ f).1=e0∨x.d=5 then (jA (cy l) nm bg at_ f).1 else (jA (cy l) nm bg at_ f).1.extract 1 (jA (cy l) nm bg at_ f).1.size,(jA (cy l) nm bg at_ f).2):=by
  unfold sZ;rw [hN]
 rw [hk];have hpos:=Ip ht (nm:=nm) (bg:=bg) (at_:=at_) (f:=f);generalize jA (cy l) nm bg at_ f=q at *;refine ⟨decide (q.1=e0∨x.d=5),?_,fun _=>ae (fun hc=>?_) (fun hc=>?_)⟩
 ·rw [asS_str,eqB];refine ae (fun hc=>?_) (fun hc=>?_)
  ·exact ⟨by rw [Z7 (.inl (Qj hc))],trivial⟩
  ·have:=Qc hc;refine lx hb2 (j:=0) rfl ?_;rw [asK_int];refine ⟨?_,trivial⟩
   congr 1
   rw [Qz];simp [this]
 ·rw [if_pos (Qj hc)];exact ⟨rfl,cs2,kb1.trans k2⟩
 ·have hc:=Qc hc;rw [if_neg hc,asS_str];have:=hpos fun e=>hc (.inl e);exact ⟨by decide,by omega,by omega,rfl,cs2,kb1.trans k2⟩
end
def bc (x:St)(of:ByteArray):List Vr :=
 if x.d=1 then [(x.a,iB)] else if x.d=4 then [(x.a,sB++x.t),(x.b,rB++x.t)] else if x.d=5∨x.d=11∨x.d=12 then [(x.a,of)] else []
theorem xg {h:Hp}{b sz k:Nat}{us:List Value}{t:TypeId}{f:Nat×Nat}(hb:h[b]?=some (.cells us.toArray t f))(hl:us.length=k*sz):bm h sz (.slice (some ⟨b,0,none⟩) k k) k us :=
 ⟨hl,.inr ⟨b,0,k,rfl,fun j u hu=>by rw [bi hb,Zc];simpa using hu⟩⟩
section
variable  {ω:Amb}
theorem vQ (x:St)(of:ByteArray)(htx:x.t.size≤20000){h:Hp}{ve vb vl:Value}(X:XT) :
  aa Tryz.prog ω 121 [.agg (stC x ve vb vl).toArray,.string of] h (fun r h'=>bm h' 2 r (bc x of).length ((bc x of).flatMap vrC)∧(∀k,r.ownBlock=some k→h.size≤k∧k < h'.size)∧KF h h') X:=by
 refine yv ω _ _ h _ X ?_;unfold rQ bj;simp only [nV];have hb1:=ah (h:=h) (o:=.cells (stC x ve vb vl).toArray 39 (0,0));have kp:=ar.push (S:=fun _=>False) h (.cells (stC x ve vb vl).toArray 39 (0,0));generalize h.push (.cells (stC x ve vb vl).toArray 39 (0,0))=h1 at *;show ∃v0,_;have k2:∀o,KF h (h1.push o):=fun o=>kp.trans (ar.push _ _);have hbk:∀(o:Obj) (l c k:Nat),(Value.slice (some ⟨h1.size,0,none⟩) l c).ownBlock=some k→h.size≤k∧k < (h1.push o).size:=fun o l c k hk=>by
  have:=kp.size;cases hk;simp;omega
 have hsS:sB.size=1:=by decide
 have hsR:rB.size=1:=by decide
 unfold bc;refine lx hb1 (j:=0) rfl ?_;rw [asK_int];refine ae (fun hc=>?_) (fun hc=>?_)
 ·rw [if_pos (Zg hc)];refine lx hb1 (j:=2) rfl ?_;exact ⟨trivial,xg (us:=vrC (x.a,iB)) (ah (h:=h1)) rfl,hbk _ _ _,k2 _⟩
 rw [if_neg (Qa.1 hc),asK_int];refine ae (fun hc=>?_) (fun hc=>?_)
 ·rw [if_pos (Zg hc)];refine lx hb1 (j:=2) rfl ?_;refine lx hb1 (j:=4) rfl ?_;rw [asS_str];refine ⟨by show sB.size+_≤_;omega,?_⟩
  refine lx hb1 (j:=3) rfl ?_;refine lx hb1 (j:=4) rfl ?_;rw [asS_str];refine ⟨by show rB.size+_≤_;omega,?_⟩
  exact ⟨trivial,trivial,xg (us:=vrC (x.a,sB++x.t)++vrC (x.b,rB++x.t)) (ah (h:=h1)) rfl,hbk _ _ _,k2 _⟩
 rw [if_neg (Qa.1 hc)];refine ⟨fun u h'=>u=.bool (decide (x.d=5∨x.d=11∨x.d=12))∧h1=h',?_,?_⟩
 ·rw [asK_int];refine ae (fun hc=>?_) (fun hc=>?_)
  ·have:=Zg hc;exact ⟨by rw [hc,Z7 (.inl this)],rfl⟩
  have n5:=Qa.1 hc;refine ⟨fun u h'=>u=.bool (decide (x.d=5∨x.d=11∨x.d=12))∧h1=h',?_,fun _ _ _ hh=>hh⟩;rw [asK_int];refine ae (fun hc=>?_) (fun hc=>?_)
  ·have:=Zg hc;exact ⟨by rw [hc,Z7 (.inr (.inl this))],rfl⟩
  ·have:=Qa.1 hc;refine ⟨?_,rfl⟩
   congr 1
   rw [Qz];simp [this,n5]
 rintro _ _ _ ⟨rfl,rfl⟩;rw [asB_bool];refine ae (fun hc=>?_) (fun hc=>?_)
 ·rw [if_pos (Qj hc)];refine lx hb1 (j:=2) rfl ?_;exact ⟨trivial,xg (us:=vrC (x.a,of)) (ah (h:=h1)) rfl,hbk _ _ _,k2 _⟩
 ·rw [if_neg (Qc hc)];exact ⟨⟨rfl,.inl ⟨rfl,none,0,rfl⟩⟩,(fun k hk=>by cases hk),kp⟩
theorem Ec {h0 h:Hp}{va:Value}{ab:List Sg}(ha:SgS h0 va ab)(k0:KF h0 h){B:Nat}{x:St}{ve vb vl:Value}(hB:h[B]?=some (.cells (stC x ve vb vl).toArray 39 (0,0)))(X:XT) :
  aa Tryz.prog ω 156 [va,.func (.func 157) #[] #[.pointer (some ⟨B,0,none⟩)]] h (fun r h'=>KF h h'∧((r=.int .i64 (-1)∧ab.find? (fun g=>decide (g.nm=x.a))=none)∨∃(k:Nat) (g:Sg),r=.int .i64 k∧ab[k]?=some g∧ab.find? (fun g=>decide (g.nm=x.a))=some g)) X:=by
 refine cV ω _ _ h _ X ?_;unfold bQ;have hmax:=SgS.max ha;refine (ha.aC k0).sl fun _ _=>?_;refine ⟨fun t h'=>∃k:Nat,t=.int .i64 k∧k≤ab.length∧(ab.take k).find? (fun g=>decide (g.nm=x.a))=none∧KF h h',fun t _=>match t with|.int _ k=>ab.length - k.toNat|_=>0,
  ⟨0,rfl,by omega,rfl,ar.refl _ _⟩,?_⟩
 rintro _ _ h1 ⟨k,rfl,hk,hnone,k1⟩;rw [asK_int];refine ae (fun hc=>?_) (fun hc=>?_)
 rotate_left
 ·have hc:=Qc hc;obtain rfl:k=ab.length:=by omega
  rw [Qo] at hnone;exact ⟨k1,.inl ⟨rfl,hnone⟩⟩
 have hkl:k < ab.length:=by
  have:=Qj hc;omega
 have hx:=Q7 hkl;generalize ab[k]=g at hx;refine ha.zU (k0.trans k1) hx fun vp vb' hps hbd=>?_;have hB1:=k1.get hB id;unfold F0;refine cx (by kernel_rfl) ?_
 refine ki ω _ _ h1 _ X ?_;unfold dF;rw [show Value.cells (.agg (sgC g vp vb').toArray)=(sgC g vp vb').toArray from rfl]
 have hb2:=ah (h:=h1) (o:=.cells (sgC g vp vb').toArray 41 (0,0));have k2:=ar.push (S:=fun _=>False) h1 (.cells (sgC g vp vb').toArray 41 (0,0));generalize h1.push (.cells (sgC g vp vb').toArray 41 (0,0))=h2 at *;refine lx hb2 (j:=0) rfl ?_;rw [asP_some];refine lx (k2.get hB1 id) (j:=2) rfl ?_;rw [asS_str,asS_str,eqB];show asB (.bool (decide (g.nm=x.a))) _;rw [asB_bool];have htk:=aZ hx;refine ae (fun hc=>?_) (fun hc=>?_)
 ·refine ⟨k1.trans k2,.inr ⟨k,g,rfl,hx,?_⟩⟩;have:ab=(ab.take k++[g])++ab.drop (k+1):=by rw [←htk,Q8]
  rw [this,List.find?_append,List.find?_append,hnone,List.find?_cons,hc];rfl
 ·rw [asK_int,i64_in (by omega) (by omega)]
  refine ⟨⟨k+1,by simp,by omega,?_,k1.trans k2⟩,by simp;omega⟩
  rw [htk,List.find?_append,hnone,List.find?_cons,hc];rfl
end
def jm (env:List Vr)(at_:Int)(l:List (Ex×(ByteArray×ByteArray)))(f:Int×Int):Int×Int:=l.foldl (fun f q=>fg env at_ q.1 q.2.2 f) f
def kV (ab:List Sg)(env:List Vr)(at_:Int)(x:St)(f:Int×Int):Int×Int:=match ab.find? (fun g=>decide (g.nm=x.a)) with
 |none=>kfl f 12 at_
 |some g=>if g.ps.length≠x.e.length then kfl f 15 at_ else jm env at_ (x.e.zip g.ps) f
theorem Mk {α β:Type}{l:List α}{r:List β}{i:Nat}{a:α}{b:β}(ha:l[i]?=some a)(hb:r[i]?=some b):(l.zip r)[i]?=some (a,b):=by
 rw [List.getElem?_zip_eq_some];exact ⟨ha,hb⟩
section
variable  {ω:Amb}{h0:Hp}{C M:Nat}{va vv:Value}{n:Int}
set_option maxHeartbeats 400000 in
theorem D9 {v:Value}{l:List Fr}(ht:TyL (cy l))(at_:Int)(x:St){ab:List Sg}(ha:SgS h0 va ab){h:Hp}{ve vb vl:Value}{f:Int×Int}(he:ExS h0 ve x.e)(cs:CS h0 C h va M vv n f)(hs:ScS h M v l)(X:XT) :
  aa Tryz.prog ω 145 [pp C,v,.agg (stC x ve vb vl).toArray,.int .i64 at_] h (fun _ h'=>CS h0 C h' va M vv n (kV ab (cy l) at_ x f)∧KC C h h') X:=by
 refine lX ω _ _ _ _ h _ X ?_;unfold eW;simp only [nV,nnK_ptr,asP_some];have hb1:=ah (h:=h) (o:=.cells (stC x ve vb vl).toArray 39 (0,0));have kp:=ar.push (S:=fun _=>False) h (.cells (stC x ve vb vl).toArray 39 (0,0));generalize h.push (.cells (stC x ve vb vl).toArray 39 (0,0))=h1 at *;have cs1:=cs.aC kp;have kb1:=KC.of (C:=C) kp;have hs1:=hs.more kp;have hne:h.size≠C:=by have:=cs.lt;omega
 refine ⟨_,lx' (j:=0) cs1.c rfl,?_⟩;refine aa.use (Ec ha cs1.k hb1) ?_;rintro _ h2 ⟨k2,hr⟩;have cs2:=cs1.aC k2;have kb2:=kb1.trans (KC.of k2);have hs2:=hs1.more k2;have hb2:=k2.get hb1 id;unfold kV;rcases hr with ⟨rfl,hnone⟩|⟨k,g,rfl,hg,hfind⟩
 ·rw [asK_int,hnone];refine cx (by decide) ?_
  refine aa.use (cn cs2 12 at_) ?_;rintro _ h3 ⟨cs3,k3⟩;exact ⟨cs3,kb2.trans k3⟩
 rw [asK_int,hfind];refine ba (Z0 (by omega)) ?_
 refine ⟨_,lx' (j:=0) cs2.c rfl,?_⟩;simp only [asI_int];show aI va fun a9 l10 c11=>0≤(k:Int)∧(k:Int) < (l10:Int)∧_;obtain ⟨us,vp,vb',q1,q2,hps,_⟩:=ha.at_ hg;refine bm.rdO (q1.aC cs2.k) (i:=k) (o:=2) (Q6.1 hg).1 (u:=vp) (by rw [q2];rfl) ?_
 refine bm.sl (hps.aC cs2.k).1 fun _ _=>?_;refine lx hb2 (j:=6) rfl ?_;refine (he.aC cs2.k).sl fun _ _=>?_;refine ae (fun hc=>?_) (fun hc=>?_)
 ·have:g.ps.length≠x.e.length:=by have h9:=Ze.1 hc;omega
  rw [if_pos this];refine aa.use (cn cs2 15 at_) ?_;rintro _ h3 ⟨cs3,k3⟩;exact ⟨cs3,kb2.trans k3⟩
 have hlen:g.ps.length=x.e.length:=by
  have h9:¬((g.ps.length:Int)≠(x.e.length:Int)):=fun h9=>by
   rw [Ze.2 h9] at hc;cases hc
  omega
 rw [if_neg (Z9 hlen)];refine lx hb2 (j:=6) rfl ?_;refine (he.aC cs2.k).sl fun _ _=>?_;have hmax:=he.max;have hzl:(x.e.zip g.ps).length=x.e.length:=by rw [List.length_zip,hlen,Nat.min_self]
 refine ⟨fun t h'=>∃k:Nat,t=.int .i64 k∧k≤x.e.length∧CS h0 C h' va M vv n (jm (cy l) at_ ((x.e.zip g.ps).take k) f)∧KC C h2 h',fun t _=>match t with|.int _ k=>x.e.length - k.toNat|_=>0,
  ⟨0,rfl,by omega,cs2,ar.refl _ _⟩,?_⟩
 rintro _ _ h5 ⟨j,rfl,hj,cs5,k5⟩;rw [asK_int];refine ae (fun hc=>?_) (fun hc=>?_)
 rotate_left
 ·have hc:=Qc hc;obtain rfl:j=x.e.length:=by omega
  rw [←hzl,Qo] at cs5;exact ⟨cs5,kb2.trans k5⟩
 have hjl:j < x.e.length:=by
  have:=Qj hc;omega
 have hx:=Q7 hjl;generalize x.e[j]=y at hx;have hp:=Q7 (l:=g.ps) (i:=j) (by omega)
 generalize g.ps[j]=p at hp;refine he.zU cs5.k hx fun w' hw'=>?_;refine ⟨rfl,dC hw'.b8,aA (cs:=exC y w') rfl ?_⟩;have hb6:=ah (h:=h5) (o:=.cells (exC y w').toArray 36 (0,0));have k6:=ar.push (S:=fun _=>False) h5 (.cells (exC y w').toArray 36 (0,0));generalize h5.push (.cells (exC y w').toArray 36 (0,0))=h6 at *;refine ⟨_,ak hb6 rfl,?_⟩;have cs6:=cs5.aC k6;refine bm.rdT (hps.aC cs6.k).1 ic hp (o:=1) rfl ?_
 refine aa.use (wc ht at_ y p.2 hw' cs6 ((hs2.oR cs2 k5).more k6)) ?_;rintro _ h7 ⟨cs7,k7⟩;have hsn:jm (cy l) at_ ((x.e.zip g.ps).take (j+1)) f=fg (cy l) at_ y p.2 (jm (cy l) at_ ((x.e.zip g.ps).take j) f):=by
  rw [aZ (Mk hx hp)];unfold jm;rw [List.foldl_append];rfl
 rw [asK_int,i64_in (by omega) (by omega)]
 exact ⟨⟨j+1,by simp,by omega,by rw [hsn];exact cs7,(k5.trans (KC.of k6)).trans k7⟩,by simp;omega⟩
end
def qB (ab:List Sg)(env:List Vr)(at_:Int)(x:St)(of:ByteArray)(f:Int×Int):Int×Int :=
 if x.d=2 then (match x.e[0]? with|some y=>u6 env at_ y (jA env x.a iB at_ f).2|none=>f)
 else if x.d=1∨x.d=3∨x.d=13∨x.d=14 then (match x.e[0]? with|some y=>u6 env at_ y f|none=>f)
 else if x.d=6 then (match x.e[0]? with|some y=>fg env at_ y of f|none=>f)
 else if x.d=10 then kV ab env at_ x f
 else if x.d=4 then (if 3 < x.t.size then kfl (if x.n < 1∨5 < x.n then kfl f 14 at_ else f) 11 at_ else if x.n < 1∨5 < x.n then kfl f 14 at_ else f)
 else f
def gE (ab:List Sg)(env:List Vr)(at_:Int)(x:St)(f:Int×Int):ByteArray×(Int×Int) :=
 if (sZ env at_ x f).2.1≠0 then (e0,(sZ env at_ x f).2) else ((sZ env at_ x f).1,qB ab env at_ x (sZ env at_ x f).1 (sZ env at_ x f).2)
section
variable  {ω:Amb}{h0:Hp}{C M:Nat}{va vv:Value}{n:Int}
set_option maxHeartbeats 800000 in
theorem FF {v:Value}{l:List Fr}(ht:TyL (cy l))(at_:Int)(x:St)(hE:x.d=1∨x.d=2∨x.d=3∨x.d=6∨x.d=13∨x.d=14→∃y,x.e[0]?=some y){ab:List Sg}(ha:SgS h0 va ab){h:Hp}{ve vb vl:Value}{f:Int×Int}(he:ExS h0 ve x.e)(cs:CS h0 C h va M vv n f)(hs:ScS h M v l)(X:XT) :
  aa Tryz.prog ω 122 [pp C,v,.agg (stC x ve vb vl).toArray,.int .i64 at_] h (fun r h'=>r=.string (gE ab (cy l) at_ x f).1∧CS h0 C h' va M vv n (gE ab (cy l) at_ x f).2∧KC C h h') X:=by
 refine mJ ω _ _ _ _ h _ X ?_;unfold fi;simp only [nV,nnK_ptr,asP_some];have hb1:=ah (h:=h) (o:=.cells (stC x ve vb vl).toArray 39 (0,0));have kp:=ar.push (S:=fun _=>False) h (.cells (stC x ve vb vl).toArray 39 (0,0));generalize h.push (.cells (stC x ve vb vl).toArray 39 (0,0))=h1 at *;have cs1:=cs.aC kp;have kb1:=KC.of (C:=C) kp;have hs1:=hs.more kp;have hne:h.size≠C:=by have:=cs.lt;omega
 refine ⟨_,ak hb1 rfl,?_⟩;refine aa.use (IT ht at_ x cs1 hs1) ?_;rintro _ h2 ⟨rfl,cs2,k2⟩;have kb2:=kb1.trans k2;have hs2:=hs1.oR cs1 k2;have hb2:=k2.get hb1 hne;unfold gE;generalize sZ (cy l) at_ x f=q at *;refine ⟨_,lx' (j:=4) cs2.c rfl,?_⟩;rw [asK_int];refine ae (fun hc=>?_) (fun hc=>?_)
 ·rw [if_pos (Ze.1 hc)];exact ⟨rfl,cs2,kb2⟩
 rw [if_neg (by simpa using hc)]
 refine lx hb2 (j:=0) rfl ?_;refine ⟨fun h'=>CS h0 C h' va M vv n (qB ab (cy l) at_ x q.1 q.2)∧KC C h2 h',?_,fun _ h' hh=>⟨rfl,hh.1,kb2.trans hh.2⟩⟩;simp only [asK_int];refine ⟨fun h'=>CS h0 C h' va M vv n (qB ab (cy l) at_ x q.1 q.2)∧KC C h2 h',?_,fun _ _ hh=>hh⟩;unfold qB;refine ae (fun hc=>?_) (fun hc=>?_)
 ·have hd:=Zg hc;rw [if_pos hd];obtain ⟨y,hy⟩:=hE (.inr (.inl hd));rw [hy];refine lx hb2 (j:=2) rfl ?_;refine aa.use (tE cs2 hs2 ht x.a iB (by decide) at_) ?_
  rintro _ h3 ⟨_,cs3,k3⟩;refine lx (k3.get hb2 hne) (j:=6) rfl ?_;refine he.zU cs3.k hy fun w' hw'=>?_;refine aa.use (xN ht at_ _ y (Qw _) h3 w' _ hw' cs3 (hs2.oR cs2 k3)) ?_;rintro _ h4 ⟨cs4,k4⟩;exact ⟨cs4,k3.trans k4⟩
 have n2:=Qa.1 hc;rw [if_neg n2];refine ⟨fun u h'=>u=.bool (decide (x.d=1∨x.d=3∨x.d=13∨x.d=14))∧h2=h',?_,?_⟩
 ·refine ae (fun hc=>?_) (fun hc=>?_)
  ·have:=Zg hc;exact ⟨by rw [hc,Z7 (.inl this)],rfl⟩
  have n1:=Qa.1 hc;refine ⟨fun u h'=>u=.bool (decide (x.d=1∨x.d=3∨x.d=13∨x.d=14))∧h2=h',?_,fun _ _ _ hh=>hh⟩;refine ae (fun hc=>?_) (fun hc=>?_)
  ·have:=Zg hc;exact ⟨by rw [hc,Z7 (.inr (.inl this))],rfl⟩
  have n3:=Qa.1 hc;refine ⟨fun u h'=>u=.bool (decide (x.d=1∨x.d=3∨x.d=13∨x.d=14))∧h2=h',?_,fun _ _ _ hh=>hh⟩;refine ae (fun hc=>?_) (fun hc=>?_)
  ·have:=Zg hc;exact ⟨by rw [hc,Z7 (.inr (.inr (.inl this)))],rfl⟩
  have n13:=Qa.1 hc;refine ⟨?_,rfl⟩
  congr 1
  rw [Qz];simp [n1,n3,n13]
 rintro _ _ _ ⟨rfl,rfl⟩;refine ⟨fun h'=>CS h0 C h' va M vv n (qB ab (cy l) at_ x q.1 q.2)∧KC C h2 h',?_,fun _ h' hh=>by
  have:=hh;unfold qB at this
  rwa [if_neg n2] at this⟩
 unfold qB;rw [if_neg n2,asB_bool];refine ae (fun hc=>?_) (fun hc=>?_)
 ·have hd:=Qj hc;rw [if_pos hd];obtain ⟨y,hy⟩:=hE (by omega)
  rw [hy];refine lx hb2 (j:=6) rfl ?_;refine he.zU cs2.k hy fun w' hw'=>?_;refine aa.use (xN ht at_ _ y (Qw _) h2 w' _ hw' cs2 hs2) ?_;rintro _ h4 ⟨cs4,k4⟩;exact ⟨cs4,k4⟩
 rw [if_neg (Qc hc)];refine ⟨_,?_,fun _ _ hh=>hh⟩;refine ae (fun hc=>?_) (fun hc=>?_)
 ·have hd:=Zg hc;rw [if_pos hd];obtain ⟨y,hy⟩:=hE (by omega)
  rw [hy];refine lx hb2 (j:=6) rfl ?_;refine he.zU cs2.k hy fun w' hw'=>?_;refine aa.use (wc ht at_ y q.1 hw' cs2 hs2) ?_;rintro _ h4 ⟨cs4,k4⟩;exact ⟨cs4,k4⟩
 rw [if_neg (Qa.1 hc)];refine ⟨_,?_,fun _ _ hh=>hh⟩;refine ae (fun hc=>?_) (fun hc=>?_)
 ·rw [if_pos (Zg hc)];refine ⟨_,ak hb2 rfl,?_⟩;refine aa.use (D9 ht at_ x ha he cs2 hs2) ?_;rintro _ h4 ⟨cs4,k4⟩;exact ⟨cs4,k4⟩
 rw [if_neg (Qa.1 hc)];refine ⟨_,?_,fun _ _ hh=>hh⟩;refine ae (fun hc=>?_) (fun hc=>?_)
 rotate_left
 ·rw [if_neg (Qa.1 hc)];exact ⟨cs2,ar.refl _ _⟩
 rw [if_pos (Zg hc)];refine ⟨decide (x.n < 1∨5 < x.n),?_,fun _=>?_⟩
 ·refine lx hb2 (j:=5) rfl ?_;rw [asK_int];refine ae (fun hc=>?_) (fun hc=>?_)
  ·exact ⟨by rw [Z7 (.inl (Qj hc))],trivial⟩
  have:=Qc hc;refine lx hb2 (j:=5) rfl ?_;rw [asK_int];refine ⟨?_,trivial⟩
  congr 1
  rw [Qz];simp;omega
 refine ⟨fun h'=>CS h0 C h' va M vv n (if x.n < 1∨5 < x.n then kfl q.2 14 at_ else q.2)∧KC C h2 h',ae (fun hc=>?_) (fun hc=>?_),?_⟩
 ·rw [if_pos (Qj hc)];refine aa.use (cn cs2 14 at_) ?_;rintro _ h4 ⟨cs4,k4⟩;exact ⟨cs4,k4⟩
 ·rw [if_neg (Qc hc)];exact ⟨cs2,ar.refl _ _⟩
 rintro _ h4 ⟨cs4,k4⟩;refine lx (k4.get hb2 hne) (j:=4) rfl ?_;rw [asS_str];refine ⟨_,?_,fun _ _ hh=>hh⟩;refine ae (fun hc=>?_) (fun hc=>?_)
 ·have:3 < x.t.size:=by have:=Qj hc;omega
  rw [if_pos this];refine aa.use (cn cs4 11 at_) ?_;rintro _ h5 ⟨cs5,k5⟩;exact ⟨cs5,k4.trans k5⟩
 ·have:¬3 < x.t.size:=by have:=Qc hc;omega
  rw [if_neg this];exact ⟨cs4,k4⟩
end
def rp (bd:List Vr)(s:ByteArray):Int:=((bd.filter fun v=>decide (v.1=s)).length:Nat)
theorem Hq (bd:List Vr)(v:Vr)(s:ByteArray):rp (bd++[v]) s=rp bd s+if s=v.1 then 1 else 0:=by
 unfold rp;rw [List.filter_append,Qd,List.filter_cons]
 by_cases h:v.1=s
 ·rw [Z7 h,if_pos rfl,if_pos h.symm];simp
 ·rw [Z0 h,if_neg (by decide),if_neg (fun hh=>h hh.symm)]
  simp
theorem yt (bd:List Vr)(s:ByteArray):0≤rp bd s∧rp bd s≤bd.length:=by
 unfold rp;have:=List.length_filter_le (fun v:Vr=>decide (v.1=s)) bd;omega
structure BS (h0:Hp)(C:Nat)(h:Hp)(va:Value)(M:Nat)(vv:Value)(n:Int)(f:Int×Int)(bd:List Vr):Prop where
 cs:CS h0 C h va M vv n f
 m:h0.size≤M
 own:bX h h0.size 56 2 vv bd.length (bd.flatMap vrC)
 seen:∃F,qJ h M F∧∀s,(F s).getD (.int .i64 0)=.int .i64 (rp bd s)
theorem BS.oR {h0 h h':Hp}{C M:Nat}{va vv:Value}{n n':Int}{f f':Int×Int}{bd:List Vr}(bs:BS h0 C h va M vv n f bd)(k:KC C h h')(cs':CS h0 C h' va M vv n' f'):BS h0 C h' va M vv n' f' bd:=by
 obtain ⟨F,h1,h2⟩:=bs.seen;exact ⟨cs',bs.m,bs.own.Gb k (EA.blk bs.cs.c) (by decide),F,h1.aC k (h1.ne bs.cs.c),h2⟩
theorem BS.more {h0 h h':Hp}{C M:Nat}{va vv:Value}{n:Int}{f:Int×Int}{bd:List Vr}(bs:BS h0 C h va M vv n f bd)(k:KF h h'):BS h0 C h' va M vv n f bd:=bs.oR (KC.of k) (bs.cs.aC k)
abbrev KB2 (C M SM:Nat)(vv:Value)(h h':Hp):Prop:=ar (fun k=>k=C∨k=M∨k=SM∨vv.ownBlock=some k) h h'
def cJ (bd:List Vr)(v:Vr)(at_:Int)(f:Int×Int):Int×Int:=if 0 < rp bd v.1 then kfl f 9 at_ else f
theorem Bt (v:Vr):∀u∈vrC v,one u:=fun u hu=>by
 rcases List.mem_cons.1 hu with rfl|hu
 ·rfl
 ·rw [Qf.1 hu];rfl
theorem Mr (v:Vr)(fr:List Vr):(fun t=>if t=v.1 then some (vrV v) else frF fr t)=frF (v::fr):=by
 funext t
 rw [Ix]
section
variable  {ω:Amb}{h0:Hp}{C M:Nat}{va vv:Value}{n:Int}
set_option maxHeartbeats 800000 in
theorem tV {bd fr:List Vr}{r:List Fr}{S SM:Nat}(hbd:bd.length≤1000000)(v:Vr)(at_:Int){h:Hp}{f:Int×Int}(bs:BS h0 C h va M vv n f bd)(hs:ScS h M (pp S) ((S,SM,fr)::r))(X:XT) :
  aa Tryz.prog ω 71 [pp C,pp S,.agg (vrC v).toArray,.int .i64 at_] h (fun _ h'=>∃vv',BS h0 C h' va M vv' n (cJ bd v at_ f) (bd++[v])∧ScS h' M (pp S) ((S,SM,v::fr)::r)∧KB2 C M SM vv h h'∧∀k,vv'.ownBlock=some k→vv.ownBlock=some k∨h.size≤k) X:=by
 refine mW ω _ _ _ _ h _ X ?_;unfold fL;simp only [nnK_ptr,asP_some,show Value.cells (.agg (vrC v).toArray)=(vrC v).toArray from rfl]
 have hb1:=ah (h:=h) (o:=.cells (vrC v).toArray 56 (0,0));have kp:=ar.push (S:=fun _=>False) h (.cells (vrC v).toArray 56 (0,0));generalize h.push (.cells (vrC v).toArray 56 (0,0))=h1 at *;have bs1:=bs.more kp;have hs1:=hs.more kp;have hne:h.size≠C:=by have:=bs.cs.lt;omega
 have hcn:=yt bd v.1;refine ⟨_,lx' (j:=1) bs1.cs.c rfl,?_⟩;refine lx hb1 (j:=0) (u:=.string v.1) rfl ?_;obtain ⟨F1,hm1,hF1⟩:=bs1.seen;refine HO hm1 v.1 ?_;rw [hF1,asK_int];refine ⟨fun h'=>CS h0 C h' va M vv n (cJ bd v at_ f)∧KC C h1 h',?_,?_⟩
 ·unfold cJ;refine ae (fun hc=>?_) (fun hc=>?_)
  ·rw [if_pos (Qj hc)];exact aa.use (cn bs1.cs 9 at_) fun _ h2 hh=>hh
  ·rw [if_neg (Qc hc)];exact ⟨bs1.cs,ar.refl _ _⟩
 rintro _ h2 ⟨cs2,k2⟩;have bs2:=bs1.oR k2 cs2;have hs2:=hs1.oR bs1.cs k2;have hb2:=k2.get hb1 hne;refine ⟨_,lx' (j:=1) cs2.c rfl,?_⟩;refine lx hb2 (j:=0) (u:=.string v.1) rfl ?_;obtain ⟨F,hm2,hF⟩:=bs2.seen;refine HO hm2 v.1 ?_;rw [hF,asK_int,i64_in (by omega) (by omega)]
 refine Pw hm2 v.1 _ fun o hm3=>?_;have k3:=ar.set (S:=fun k=>k=M) (h:=h2) o (b:=M) rfl;generalize h2.setIfInBounds M o=h3 at *;have hMC:=hm2.ne cs2.c;have c3:=k3.get cs2.c (fun e=>hMC e.symm);have ownM:∀k,vv.ownBlock=some k→k≠M:=fun k hk e=>by
  obtain ⟨c,hc⟩:=bs2.own.blk hk;exact hm2.ne hc e.symm
 have ownC:∀k,vv.ownBlock=some k→k≠C:=fun k hk e=>by
  obtain ⟨c,hc⟩:=bs2.own.blk hk;have:=cs2.c;rw [e,this] at hc;cases hc
 have own3:=bs2.own.aC (h':=h3) fun k hk hlt=>k3.block k hlt (ownM k hk);have hb3:=k3.get hb2 (fun e=>hm2.ne hb2 e.symm);have hs3:=hs2.aC k3 fun q hq=>by
  obtain ⟨g1,_,u,hu⟩:=hs2.get q hq;exact ⟨fun e=>hm2.ne hu e.symm,fun e=>by omega⟩
 refine ⟨_,lx' (j:=2) c3 rfl,?_⟩;refine ⟨_,ak hb3 rfl,?_⟩;simp only [Z1];refine ⟨rfl,lx' (j:=2) (lz c3) rfl,?_⟩;refine dR (bt:=32) (cs:=vrC v) LJ own3 rfl (Bt v) (by omega) (by omega) (by have:=k3.size;have:=k2.size;have:=kp.size;have:=bs.cs.k.size;omega) fun w h4 ho4 hg _ hown=>?_
 have k4:ar (fun k=>vv.ownBlock=some k) h3 h4:=ar.grown hg fun k hk _=>hk;have c4:=k4.get c3 (fun hk=>ownC C hk rfl);have hl3:=own3.lt;have vlt:=bs.own.lt;have hb4:=k4.get hb3 (fun hk=>by have:=(vlt _ hk).2;omega)
 have hm4:=hm3.aC k4 (fun hk=>ownM M hk rfl);have hs4:=hs3.aC k4 fun q hq=>by
  obtain ⟨_,⟨fq,hmq⟩,u,hu⟩:=hs3.get q hq;refine ⟨fun hk=>?_,fun hk=>?_⟩
  ·obtain ⟨c,hc⟩:=own3.blk hk;rw [hu] at hc;cases hc
  ·obtain ⟨c,hc⟩:=own3.blk hk;exact hmq.ne hc rfl
 rw [FW (tX ho4),aP,Zc];refine aM c4 (by show 2 < 6;decide) ?_
 have e5:(ckC va M vv n (cJ bd v at_ f)).toArray.setIfInBounds 2 w=(ckC va M w n (cJ bd v at_ f)).toArray:=by simp [ckC]
 rw [e5];have k5:=ar.set (S:=fun k=>k=C) (h:=h4) (.cells (ckC va M w n (cJ bd v at_ f)).toArray 79 (0,0)) (b:=C) rfl;have c5:=aq (o:=.cells (ckC va M w n (cJ bd v at_ f)).toArray 79 (0,0)) c4;generalize h4.setIfInBounds C (.cells (ckC va M w n (cJ bd v at_ f)).toArray 79 (0,0))=h5 at *;have wC:∀k,w.ownBlock=some k→k≠C:=fun k hk e=>by
  rcases hown k hk with h9|h9
  ·exact ownC k h9 e
  ·have:=gd c3;omega
 have own5:=ho4.aC (h':=h5) fun k hk hlt=>k5.block k hlt (wC k hk);have hm5:=hm4.aC k5 hMC;have hb5:=k5.get hb4 hne;have hs5:ScS h5 M (pp S) ((S,SM,fr)::r):=hs4.aC k5 fun q hq=>by
  obtain ⟨_,⟨fq,hmq⟩,u,hu⟩:=hs4.get q hq;refine ⟨fun e=>?_,hmq.ne c4⟩;rw [e,c4] at hu;cases hu
 obtain ⟨_,hlt,hrest,hmS,u,hS,hsr⟩:=hs5;refine ⟨_,lx' (j:=1) hS rfl,?_⟩;refine lx hb5 (j:=0) (u:=.string v.1) rfl ?_;refine ⟨_,ak hb5 rfl,?_⟩;refine OY hmS v.1 _ fun o' hm6=>?_;have k6:=ar.set (S:=fun k=>k=SM) (h:=h5) o' (b:=SM) rfl;generalize h5.setIfInBounds SM o'=h6 at *;have K:KB2 C M SM vv h h6:=by
  refine ((((((KC.of (C:=C) kp).trans k2).mono fun k _ e=>.inl e).trans (k3.mono fun k _ e=>.inr (.inl e))).trans (k4.mono fun k _ e=>.inr (.inr (.inr e)))).trans (k5.mono fun k _ e=>.inl e)).trans (k6.mono fun k _ e=>.inr (.inr (.inl e)))
 have hMl:M < SM:=hlt;refine ⟨w,⟨⟨bs.cs.k.cS (K.mono fun k hk hh=>.inr ?_),bs.cs.b,k6.get c5 (fun e=>hmS.ne c5 e.symm)⟩,bs.m,?_,?_⟩,?_,K,fun k hk=>?_⟩
 ·have:=bs.cs.b;have:=bs.m;rcases hh with rfl|rfl|rfl|hh
  ·assumption
  ·assumption
  ·omega
  ·exact (vlt k hh).1
 ·rw [Qd,Qb,List.flatMap_singleton];exact own5.aC fun k hk hlt=>k6.block k hlt fun e=>by
   obtain ⟨c,hc⟩:=own5.blk hk;exact hmS.ne hc e.symm
 ·refine ⟨_,hm5.aC k6 (fun e=>by have e:M=SM:=e;omega),fun s=>?_⟩
  rw [Hq]
  by_cases hsv:s=v.1
  ·rw [if_pos hsv,if_pos hsv,hsv];rfl
  ·rw [if_neg hsv,if_neg hsv,hF s,Int.add_zero]
 ·refine ⟨rfl,hlt,hrest,?_,u,k6.get hS (fun e=>hmS.ne hS e.symm),hsr.aC k6 fun q hq=>?_⟩
  ·have:(fun t=>if t=v.1 then some (vrV v) else frF fr t)=frF (v::fr):=Mr v fr
   show qJ h6 SM (frF (v::fr));rw [←this];exact hm6
  ·obtain ⟨_,_,u',hu'⟩:=hsr.get q hq;have:=hrest q hq;exact ⟨fun e=>hmS.ne hu' e.symm,fun e=>by have e:q.2.1=SM:=e;have h9:q.2.1 < SM:=this.2;omega⟩
 ·rcases hown k hk with h9|h9
  ·exact .inl h9
  ·have:=k3.size;have:=k2.size;have:=kp.size;exact .inr (by omega)
end
end Go.Proofs.YtkeeboomikkojaaGreatDoor
