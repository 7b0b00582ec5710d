import Derived.Test.YtkeeboomikkojaaGreatDoorY9g
import Derived.Test.YtkeeboomikkojaaGreatDoorSxDefr
namespace Go.Proofs.YtkeeboomikkojaaGreatDoor.Sx
open Go Go.Sx Go.Proofs
set_option linter.unusedVariables false
set_option maxRecDepth 100000
def q0 (f:Func):Code:=cS1 (sE f)
def qR (f:Func):Code:=cS2 (sE f)
theorem Ox:Tryz.f30.body=some (.seq (q0 Tryz.f30) (qR Tryz.f30)):=by kernel_rfl
def uJ (ω:Amb)(P1 MW e_p:Value)(h:Hp)(R:RT)(X:XT):Prop :=
 L0 e_p fun b0=>∃J1:Hp→Prop,
 (cond (!b0)
 (HG e_p fun t4 u5=>cond (Nat.beq t4 67) (asA u5 fun A6=>A6.size=2∧(∀u∈A6.toList,one u)∧av (h.push (.cells #[.int .i64 0,.int .i64 0] 67 (0,0))) ⟨h.size,0,none⟩ A6.toList fun h7 =>
 ∃J8:Hp→Prop,
 (cond (!true)
 (HG e_p fun t11 u12=>X [⟨.iface t11 u12,false,false⟩] h7)
 (J8 h7)) ∧
 ∀(d9:Nat→Value) (h10:Hp),J8 h10 →
 ∃C13,aj h10 ⟨h.size,0,none⟩ 2 C13 ∧
 asP P1 fun p14 =>
 1=1∧(∀u∈[.slice none 0 0],one u)∧av h10 p14 [.slice none 0 0] fun h15 =>
 aj h15 ⟨h.size,0,none⟩ 2 C13∧asP MW fun p16 =>
 C13.toArray.size=2∧(∀u∈C13.toArray.toList,one u)∧av h15 p16 C13.toArray.toList fun h17 =>
 J1 h17) False)
 (J1 h)) ∧
 ∀(d2:Nat→Value) (h3:Hp),J1 h3 →
 R (.tuple #[]) h3
def FU:Ann :=
 (.T .L (.join [9,10,8,11,12,3,4,13,14,15,16,17] [] (.T (.T .L (.T (.T .L (.join [15] [] (.T .L .L))) (.plan [0,1,2,3]))) .L)))
theorem NT (ω:Amb)(a b v:Value)(h:Hp)(R:Hp→Prop)(X:XT)(hk:uJ ω a b v h (fun _ h'=>R h') X) :
  wpx Tryz.prog ω X FU (qR Tryz.f30) (exK fun _ h'=>R h') ([a,b,v,undef,undef,v]++List.replicate 12 undef) h :=
 (show wpx Tryz.prog ω X FU (qR Tryz.f30) (exK fun _ h'=>R h') ([a,b,v,undef,undef,v]++List.replicate 12 undef) h=uJ ω a b v h (fun _ h'=>R h') X by kernel_rfl)▸hk
theorem Po:q0 Tryz.f30=.region 0 #[(H5 (q0 Tryz.f30))[0]!,(H5 (q0 Tryz.f30))[1]!] false:=by kernel_rfl
theorem y3 {ω:Amb}{a b v:Value}{u u':FrameMode}{h:Hp}{d:Nat}{R:Hp→Prop}(hrec:∀c₀ cs,c₀.mode=u→recoverD (c₀::cs)=some (v,{ c₀ with mode:=u' }::cs)∨(recoverD (c₀::cs)=none∧v=.nilIface∧u'=u))
  (hk:uJ ω a b v h (fun _ h'=>R h') (fun _ _=>False)) :
  CallsD Tryz.prog 30 #[a,b] u (W ω h d) fun e u2 w2=>(∃r,e=.returned r)∧u2=u'∧∃h' d',w2=W ω h' d'∧R h':=by
 refine callsD_of_wpS Tryz.func30 Ox fun c₀ cs hu=>?_;refine wpS_seq ?_;rw [Po];refine (show ({ tmps:=#[a,b]++Array.replicate (Tryz.f30.ntmps - (#[a,b]:Array Value).size) undef,defers:=[] }:Act)=dt [] ([a,b]++List.replicate 16 undef) by kernel_rfl)▸?_
 refine D1 (s:=5) (t:=2) (v:=v) (cs':={ c₀ with mode:=u' }::cs) (by kernel_rfl) (by kernel_rfl) (by kernel_rfl) (by kernel_rfl) (by kernel_rfl) (by kernel_rfl) (by simp) ?_ ?_
 ·rcases hrec c₀ cs hu with h1|⟨h1,h2,h3⟩
  ·exact .inl h1
  ·exact .inr ⟨h1,h2,by rw [h3,←hu]⟩
 show Code.wpS Tryz.prog (qR Tryz.f30) _ _ _ _;refine wpS_of_wp ?_;have hK:=NT ω a b v h R _ hk;refine wp_mono (bP (ds:=[]) FU (qR Tryz.f30) _ _ h hK d) (Qx.cases (fun e fr1 h1 d1 _ hk1 he ho=>?_) (fun _ _ _ _ _ hx=>hx.elim));have fin:R h1→(dt [] fr1).defers=[]∧∃u2,({ c₀ with mode:=u' }::cs:List Frame)={ c₀ with mode:=u2 }::cs∧∃r,(results Tryz.f30 (dt [] fr1).tmps).run Tryz.prog (W ω h1 d1)=.ok r (W ω h1 d1)∧((∃r',Ending.returned r=.returned r')∧u2=u'∧∃h' d',W ω h1 d1=W ω h' d'∧R h'):=by
  intro hR;obtain ⟨r,g1,_⟩:=se (P:=Tryz.prog) (ω:=ω) (fn:=Tryz.f30) (fr1:=fr1) (h1:=h1) (R:=fun _=>True) ((show Br Tryz.prog Tryz.f30.results.toList fr1 h1 [] (fun _=>True)=True by kernel_rfl)▸trivial) d1
  exact ⟨rfl,u',rfl,r,g1,⟨r,rfl⟩,rfl,h1,d1,rfl,hR⟩
 cases e<;>first
  |exact absurd rfl (he _)
  |exact absurd rfl ho
  |exact fin hk1
  |exact hk1.elim
def pE (ω:Amb)(vw:Value)(h:Hp)(R:RT)(X:XT):Prop :=
 aa Tryz.prog ω 29 [vw] (Array.push (h.push (.cells #[.slice none 0 0] 24 (0,0))) (.cells #[.int .i64 0,.int .i64 0] 28 (0,0))) (fun r0 h1 =>
 asT r0 fun T2=>asO T2[0]? fun v3=>asT r0 fun T4=>asO T4[1]? fun v5=>asA v5 fun A6=>A6.size=2∧(∀u∈A6.toList,one u)∧av h1 ⟨Array.size (h.push (.cells #[.slice none 0 0] 24 (0,0))),0,none⟩ A6.toList fun h7 =>
 ∃v8,af h7 (Addr.add ⟨Array.size (h.push (.cells #[.slice none 0 0] 24 (0,0))),0,none⟩ 0)=some v8 ∧
 asK .i64 v8 fun n9=>cond (n9 !=(0:Int))
 (∃C10,aj h7 ⟨Array.size (h.push (.cells #[.slice none 0 0] 24 (0,0))),0,none⟩ 2 C10 ∧
 1=1∧(∀u∈[.slice none 0 0],one u)∧av h7 ⟨h.size,0,none⟩ [.slice none 0 0] fun h11 =>
 aj h11 ⟨Array.size (h.push (.cells #[.slice none 0 0] 24 (0,0))),0,none⟩ 2 C10∧C10.toArray.size=2∧(∀u∈C10.toArray.toList,one u)∧av h11 ⟨Array.size (h.push (.cells #[.slice none 0 0] 24 (0,0))),0,none⟩ C10.toArray.toList fun h12 =>
 R (.tuple #[(.tuple #[]),(.pointer (some ⟨h.size,0,none⟩)),(.pointer (some ⟨Array.size (h.push (.cells #[.slice none 0 0] 24 (0,0))),0,none⟩))]) h12)
 (asS vw fun s13=>cq v3 (∃(I14:Hp→Prop) (μ15:Hp→Nat),I14 (h7.push (.cells #[v3,(.int .i64 (s13.size:Int)),.int .i64 0,.int .i64 0,.int .i64 0,.int .i64 0] 71 (0,0)))∧∀(d16:Nat→Value) (h17:Hp),I14 h17 →
 ∃β18:Bool,
 (∃v20,af h17 (Addr.add ⟨h7.size,0,none⟩ 0)=some v20 ∧
 bR v20 fun a21 l22 c23=>cond (decide ((l22:Int) > 0))
 (((.bool true):Value)=.bool β18∧h17=h17)
 (∃v24,af h17 (Addr.add ⟨h.size,0,none⟩ 0)=some v24 ∧
 bR v24 fun a25 l26 c27=>((.bool ((l26:Int)==(0:Int))):Value)=.bool β18∧h17=h17)) ∧
 ∀d19:Nat→Value,
 cond β18
 (aa Tryz.prog ω 31 [(.pointer (some ⟨h7.size,0,none⟩)),(.string ⟨#[115,116,97,103,101]⟩)] h17 (fun r28 h29 =>
 asB r28 fun b30=>∃J31:Hp→Prop,
 (cond (!b30)
 (aa Tryz.prog ω 32 [(.pointer (some ⟨h7.size,0,none⟩)),.int .i64 5] h29 (fun r34 h35 =>
 J31 h35) X)
 (J31 h29)) ∧
 ∀(d32:Nat→Value) (h33:Hp),J31 h33 →
 ∃v36,af h33 (Addr.add ⟨h.size,0,none⟩ 0)=some v36 ∧
 bR v36 fun a37 l38 c39=>∃J40:Hp→Prop,
 (cond ((l38:Int)==(10:Int))
 (aa Tryz.prog ω 32 [(.pointer (some ⟨h7.size,0,none⟩)),.int .i64 8] h33 (fun r43 h44 =>
 J40 h44) X)
 (J40 h33)) ∧
 ∀(d41:Nat→Value) (h42:Hp),J40 h42 →
 ∃v45,af h42 (Addr.add ⟨h.size,0,none⟩ 0)=some v45 ∧
 aa Tryz.prog ω 33 [(.pointer (some ⟨h7.size,0,none⟩))] h42 (fun r46 h47 =>
 af h47 (Addr.add ⟨h.size,0,none⟩ 0)=some v45∧asA r46 fun A48=>A48.size=4∧af (h47.push (.cells (List.toArray (A48.toList++[])) 41 (0,0))) (Addr.add ⟨h.size,0,none⟩ 0)=some v45∧x2 Tryz.prog 22 (h47.push (.cells (List.toArray (A48.toList++[])) 41 (0,0))) v45 (.slice (some ⟨h47.size,0,none⟩) 1 1) fun w49 h50 =>
 cq w49 (aJ h50 (Addr.add ⟨h.size,0,none⟩ 0) w49 fun h51 =>
 I14 h51∧μ15 h51 < μ15 h17)) X) X)
 (∃C52,aj h17 ⟨h.size,0,none⟩ 1 C52 ∧
 C52.toArray.size=1∧(∀u∈C52.toArray.toList,one u)∧av h17 ⟨h.size,0,none⟩ C52.toArray.toList fun h53 =>
 2=2∧(∀u∈[.int .i64 0,.int .i64 0],one u)∧av h53 ⟨Array.size (h.push (.cells #[.slice none 0 0] 24 (0,0))),0,none⟩ [.int .i64 0,.int .i64 0] fun h54 =>
 R (.tuple #[(.func (.func 30) #[] #[(.pointer (some ⟨h.size,0,none⟩)),(.pointer (some ⟨Array.size (h.push (.cells #[.slice none 0 0] 24 (0,0))),0,none⟩))]),(.pointer (some ⟨h.size,0,none⟩)),(.pointer (some ⟨Array.size (h.push (.cells #[.slice none 0 0] 24 (0,0))),0,none⟩))]) h54)))) (fun _ _=>False)
def anL:Ann→Ann
 |.T a _=>a
 |a=>a
def anR:Ann→Ann
 |.T _ b=>b
 |a=>a
theorem IL (ω:Amb)(p:Value)(h:Hp)(R:RT)(X:XT)(hk:pE ω p h R X) :
  wpx Tryz.prog ω (fun _ _=>False) (anL pI) (p1 Tryz.f14) (sq (exR fun fr h'=>R (.tuple #[fr.getD 16 undef,fr.getD 2 undef,fr.getD 3 undef]) h') fun fr h=>wpx Tryz.prog ω (fun _ _=>False) (anL (anR pI)) (p2 Tryz.f14) (sq (exR fun fr h'=>R (.tuple #[fr.getD 16 undef,fr.getD 2 undef,fr.getD 3 undef]) h') fun fr h=>wpx Tryz.prog ω X .L (.region 4 #[(H5 (p3 Tryz.f14))[0]!] false) (sq noK fun fr h=>wpx Tryz.prog ω X (anR (anR (anR pI))) (pR Tryz.f14) (exK fun fr h'=>R (.tuple #[fr.getD 16 undef,fr.getD 2 undef,fr.getD 3 undef]) h') fr h) fr h) fr h) (HV p h) (h_p h) :=
 (show wpx Tryz.prog ω (fun _ _=>False) (anL pI) (p1 Tryz.f14) (sq (exR fun fr h'=>R (.tuple #[fr.getD 16 undef,fr.getD 2 undef,fr.getD 3 undef]) h') fun fr h=>wpx Tryz.prog ω (fun _ _=>False) (anL (anR pI)) (p2 Tryz.f14) (sq (exR fun fr h'=>R (.tuple #[fr.getD 16 undef,fr.getD 2 undef,fr.getD 3 undef]) h') fun fr h=>wpx Tryz.prog ω X .L (.region 4 #[(H5 (p3 Tryz.f14))[0]!] false) (sq noK fun fr h=>wpx Tryz.prog ω X (anR (anR (anR pI))) (pR Tryz.f14) (exK fun fr h'=>R (.tuple #[fr.getD 16 undef,fr.getD 2 undef,fr.getD 3 undef]) h') fr h) fr h) fr h) (HV p h) (h_p h)=pE ω p h R X by kernel_rfl)▸hk
theorem Lx:Tryz.f14.body=some (.seq (p0 Tryz.f14) (.seq (p1 Tryz.f14) (.seq (p2 Tryz.f14) (.seq (.region 4 #[(H5 (p3 Tryz.f14))[0]!,(H5 (p3 Tryz.f14))[1]!] false) (pR Tryz.f14))))):=by kernel_rfl
theorem p_16:16∉writes (p1 Tryz.f14)∧16∉writes (p2 Tryz.f14):=⟨jT (by kernel_rfl),jT (by kernel_rfl)⟩
theorem HY:2∉writes (p1 Tryz.f14)∧2∉writes (p2 Tryz.f14)∧2∉writes (pR Tryz.f14):=⟨jT (by kernel_rfl),jT (by kernel_rfl),jT (by kernel_rfl)⟩
theorem HS:3∉writes (p1 Tryz.f14)∧3∉writes (p2 Tryz.f14)∧3∉writes (pR Tryz.f14):=⟨jT (by kernel_rfl),jT (by kernel_rfl),jT (by kernel_rfl)⟩
def ptA (h:Hp):Value:=.pointer (some ⟨h.size,0,none⟩)
def ptB (h:Hp):Value:=.pointer (some ⟨Array.size (h.push (.cells #[.slice none 0 0] 24 (0,0))),0,none⟩)
theorem zI {ω:Amb}{p:Value}{h:Hp}{R:RT}{F:Hp→Prop}{X Xi:XT}(hk:pE ω p h (fun _ h'=>F h') Xi)
  (hR:∀(fr:Fr) (h':Hp) (d:Nat),fr.getD 2 undef=ptA h→fr.getD 3 undef=ptB h→F h'→Leaves Tryz.prog Tryz.f14 fr.toArray (AE ω R X) [] .returning (W ω h' d)∧Leaves Tryz.prog Tryz.f14 fr.toArray (AE ω R X) [D0 30 [ptA h,ptB h]] .returning (W ω h' d))
  (hX:∀(c:List PanicEntry) (a:Act) (h':Hp) (d:Nat),a.tmps.getD 2 undef=ptA h→a.tmps.getD 3 undef=ptB h→Xi c h'→Leaves Tryz.prog Tryz.f14 a.tmps (AE ω R X) [D0 30 [ptA h,ptB h]] (.panicking c) (W ω h' d)):aa Tryz.prog ω 14 [p] h R X :=
 uT (s:=16) (g:=30) (T:=[2,3]) (L:=[ptA h,ptB h]) Tryz.func14 Lx (by kernel_rfl) (by kernel_rfl) (by kernel_rfl) (by kernel_rfl) (by kernel_rfl) (by kernel_rfl) p_16.1 p_16.2
  (fun t ht=>by
   rcases List.mem_cons.1 ht with rfl|ht
   ·exact ⟨HY.1,HY.2.1⟩
   ·rw [Qf.1 ht];exact ⟨HS.1,HS.2.1⟩)
  (Ir ω p h) (p_L p h) (PJ p h) (p_d0 p h) (IL ω p h _ Xi hk)
  (fun fr h' d hag hf=>(hR fr h' d ((hag 2 HY.1 HY.2.1).trans rfl) ((hag 3 HS.1 HS.2.1).trans rfl) hf).1)
  (fun fr h' d hag hf=>(hR fr h' d ((hag 2 HY.1 HY.2.1 (by decide) HY.2.2).trans rfl) ((hag 3 HS.1 HS.2.1 (by decide) HS.2.2).trans rfl) hf).2)
  (fun c a h' d hag hx=>hX c a h' d ((hag 2 HY.1 HY.2.1 (by decide) HY.2.2).trans rfl) ((hag 3 HS.1 HS.2.1 (by decide) HS.2.2).trans rfl) hx)
end Go.Proofs.YtkeeboomikkojaaGreatDoor.Sx
