import Derived.Test.YtkeeboomikkojaaGreatDoorY9
import Derived.Test.YtkeeboomikkojaaGreatDoorSxDefer
namespace Go.Proofs.YtkeeboomikkojaaGreatDoor.Sx
open Go Go.Sx Go.Proofs
def cS1:Code→Code
 |.seq a _=>a
 |c=>c
def cS2:Code→Code
 |.seq _ b=>b
 |c=>c
def cC1:Code→Code
 |.cond _ a _=>a
 |c=>c
def rg1:Code→Code
 |.region id ops d=>.region id (ops.extract 0 1) d
 |c=>c
def sE (f:Func):Code:=match f.body with
 |some c=>c
 |none=>.skip
def u0 (f:Func):Code:=cS1 (sE f)
def u1 (f:Func):Code:=cS1 (cS1 (cS2 (sE f)))
def uA (f:Func):Code:=cS1 (cC1 (cS2 (cS1 (cS2 (sE f)))))
def u4 (f:Func):Code:=cS1 (cS2 (cC1 (cS2 (cS1 (cS2 (sE f))))))
def u5 (f:Func):Code:=cS2 (cS2 (cC1 (cS2 (cS1 (cS2 (sE f))))))
def uR (f:Func):Code:=cS2 (cS2 (sE f))
def p0 (f:Func):Code:=cS1 (sE f)
def p1 (f:Func):Code:=cS1 (cS2 (sE f))
def p2 (f:Func):Code:=cS1 (cS2 (cS2 (sE f)))
def p3 (f:Func):Code:=cS1 (cS2 (cS2 (cS2 (sE f))))
def pR (f:Func):Code:=cS2 (cS2 (cS2 (cS2 (sE f))))
set_option linter.unusedVariables false
set_option maxRecDepth 100000
abbrev jc (h:Hp)(p_p:Value):Hp:=h.push (.cells (Value.cells p_p) 69 (0,0))
abbrev wM:Obj:=.cells #[.int .i64 0,.string ⟨#[]⟩,.int .i64 0,.slice none 0 0] 36 (0,0)
def tZ (ω:Amb)(p_p:Value)(h:Hp)(R:RT)(X:XT):Prop :=
 ∃J0:RT,
 (∃v4,af (Array.push (jc h p_p) (wM)) ⟨h.size,0,none⟩=some v4 ∧
 aa Tryz.prog ω 31 [v4,(.string ⟨#[40]⟩)] (Array.push (jc h p_p) (wM)) (fun r5 h6 =>
 asB r5 fun b7=>cond b7
 (J0 (.bool true) h6)
 (∃v8,af h6 ⟨h.size,0,none⟩=some v8 ∧
 aa Tryz.prog ω 31 [v8,(.string ⟨#[45]⟩)] h6 (fun r9 h10 =>
 J0 r9 h10) X)) X) ∧
 ∀t9_1 (d2:Nat→Value) (h3:Hp),J0 t9_1 h3 →
 ∃J11:RT,
 (asB t9_1 fun b15=>cond b15
 (∃v16,af h3 ⟨h.size,0,none⟩=some v16 ∧
 nnK v16 (asP v16 fun p17 =>
 ∃v18,af h3 (Addr.add p17 4)=some v18 ∧
 asK .i64 v18 fun n19=>∃J20:Hp→Prop,
 (cond (n19==(60:Int))
 (∃v23,af h3 ⟨h.size,0,none⟩=some v23 ∧
 aa Tryz.prog ω 32 [v23,.int .i64 7] h3 (fun r24 h25 =>
 J20 h25) X)
 (J20 h3)) ∧
 ∀(d21:Nat→Value) (h22:Hp),J20 h22 →
 ∃v26,af h22 ⟨h.size,0,none⟩=some v26 ∧
 nnK v26 (asP v26 fun p27 =>
 ∃v28,af h22 (Addr.add p27 4)=some v28 ∧
 asK .i64 v28 fun n29=>nnK v26 (asP v26 fun p30 =>
 aJ h22 (Addr.add p30 4) (.int .i64 (IntKind.wrap .i64 (n29+1))) fun h31 =>
 J11 (.func (.func 177) #[] #[(.pointer (some ⟨h.size,0,none⟩))]) h31))))
 (J11 (.tuple #[]) h3)) ∧
 ∀Ax (d13:Nat→Value) (h14:Hp),J11 Ax h14 →
 ∃v32,af h14 ⟨h.size,0,none⟩=some v32 ∧
 aa Tryz.prog ω 31 [v32,(.string ⟨#[40]⟩)] h14 (fun r33 h34 =>
 asB r33 fun b35=>cond b35
 (∃v36,af h34 ⟨h.size,0,none⟩=some v36 ∧
 aa Tryz.prog ω 54 [v36] h34 (fun r37 h38 =>
 ∃v39,af h38 ⟨h.size,0,none⟩=some v39 ∧
 aa Tryz.prog ω 152 [v39] h38 (fun r40 h41 =>
 asA r40 fun A42=>A42.size=4∧(∀u∈A42.toList,one u)∧av (h41.push (wM)) ⟨h41.size,0,none⟩ A42.toList fun h43 =>
 ∃v44,af h43 ⟨h.size,0,none⟩=some v44 ∧
 aa Tryz.prog ω 56 [v44,(.slice (some ⟨h43.size,0,none⟩) 1 1)] (h43.push (.cells (List.toArray [(.string ⟨#[41]⟩)]) 9 (0,0))) (fun r45 h46 =>
 ∃C47,aj h46 ⟨h41.size,0,none⟩ 4 C47 ∧
 C47.toArray.size=4∧(∀u∈C47.toArray.toList,one u)∧av h46 ⟨Array.size (jc h p_p),0,none⟩ C47.toArray.toList fun h48 =>
 R (.tuple #[Ax,(.pointer (some ⟨Array.size (jc h p_p),0,none⟩))]) h48) X) X) X)
 (∃v49,af h34 ⟨h.size,0,none⟩=some v49 ∧
 aa Tryz.prog ω 31 [v49,(.string ⟨#[45]⟩)] h34 (fun r50 h51 =>
 asB r50 fun b52=>cond b52
 (∃v53,af h51 ⟨h.size,0,none⟩=some v53 ∧
 aa Tryz.prog ω 54 [v53] h51 (fun r54 h55 =>
 ∃v56,af h55 ⟨h.size,0,none⟩=some v56 ∧
 nnK v56 (asP v56 fun p57 =>
 ∃v58,af h55 (Addr.add p57 5)=some v58 ∧
 asK .i64 v58 fun n59=>nnK v56 (asP v56 fun p60 =>
 aJ h55 (Addr.add p60 5) (.int .i64 (IntKind.wrap .i64 (n59+1))) fun h61 =>
 ∃v62,af h61 ⟨h.size,0,none⟩=some v62 ∧
 aa Tryz.prog ω 176 [v62] h61 (fun r63 h64 =>
 asA r63 fun A65=>A65.size=4∧4=4∧(∀u∈[.int .i64 3,.string ⟨#[]⟩,.int .i64 0,(.slice (some ⟨h64.size,0,none⟩) 1 1)],one u)∧av (h64.push (.cells (List.toArray (A65.toList++[])) 36 (0,0))) ⟨Array.size (jc h p_p),0,none⟩ [.int .i64 3,.string ⟨#[]⟩,.int .i64 0,(.slice (some ⟨h64.size,0,none⟩) 1 1)] fun h66 =>
 R (.tuple #[Ax,(.pointer (some ⟨Array.size (jc h p_p),0,none⟩))]) h66) X))) X)
 (∃J67:RT,
 (∃v71,af h51 ⟨h.size,0,none⟩=some v71 ∧
 nnK v71 (asP v71 fun p72 =>
 ∃v73,af h51 (Addr.add p72 0)=some v73 ∧
 bR v73 fun a74 l75 c76=>cond (decide ((l75:Int) > 0))
 (∃v77,af h51 ⟨h.size,0,none⟩=some v77 ∧
 nnK v77 (asP v77 fun p78 =>
 ∃v79,af h51 (Addr.add p78 0)=some v79 ∧
 aI v79 fun a80 l81 c82=>0≤(0:Int)∧0 < (l81:Int)∧∃v83,af h51 (Addr.add (Addr.add a80 (Int.toNat 0*4)) 0)=some v83 ∧
 asK .i64 v83 fun n84=>J67 (.bool (n84==(3:Int))) h51))
 (J67 (.bool false) h51))) ∧
 ∀Kc (d69:Nat→Value) (h70:Hp),J67 Kc h70 →
 asB Kc fun b85=>cond b85
 (∃v86,af h70 ⟨h.size,0,none⟩=some v86 ∧
 nnK v86 (asP v86 fun p87 =>
 ∃v88,af h70 (Addr.add p87 5)=some v88 ∧
 asK .i64 v88 fun n89=>nnK v86 (asP v86 fun p90 =>
 aJ h70 (Addr.add p90 5) (.int .i64 (IntKind.wrap .i64 (n89+1))) fun h91 =>
 ∃v92,af h91 ⟨h.size,0,none⟩=some v92 ∧
 aa Tryz.prog ω 54 [v92] h91 (fun r93 h94 =>
 asA r93 fun A95=>asO A95[3]? fun v96=>cq v96 (4=4∧(∀u∈[.int .i64 1,.string ⟨#[]⟩,v96,.slice none 0 0],one u)∧av h94 ⟨Array.size (jc h p_p),0,none⟩ [.int .i64 1,.string ⟨#[]⟩,v96,.slice none 0 0] fun h97 =>
 R (.tuple #[Ax,(.pointer (some ⟨Array.size (jc h p_p),0,none⟩))]) h97)) X)))
 (∃v98,af h70 ⟨h.size,0,none⟩=some v98 ∧
 nnK v98 (asP v98 fun p99 =>
 ∃v100,af h70 (Addr.add p99 5)=some v100 ∧
 asK .i64 v100 fun n101=>nnK v98 (asP v98 fun p102 =>
 aJ h70 (Addr.add p102 5) (.int .i64 (IntKind.wrap .i64 (n101+1))) fun h103 =>
 ∃v104,af h103 ⟨h.size,0,none⟩=some v104 ∧
 aa Tryz.prog ω 55 [v104] h103 (fun r105 h106 =>
 cq r105 (4=4∧(∀u∈[.int .i64 2,r105,.int .i64 0,.slice none 0 0],one u)∧av h106 ⟨Array.size (jc h p_p),0,none⟩ [.int .i64 2,r105,.int .i64 0,.slice none 0 0] fun h107 =>
 R (.tuple #[Ax,(.pointer (some ⟨Array.size (jc h p_p),0,none⟩))]) h107)) X))))) X)) X
def Fk:Ann :=
 (.T (.T (.join [4,5,6,7,8,9] [9] .L) (.join [10,11,12,13,14,15,16,17,18,19,20,21,22,23,24] [24] (.T (.T (.T .L (.join [15,16] [] (.T .L .L))) (.T .L .L)) .L))) (.T (.one (.T .L (.T (.T .L (.T .L (.T .L (.T .L .L)))) (.T .L (.T (.T .L (.T .L (.T .L .L))) (.T (.join [53,54,55,56,57,58,59,60,61,62,63,64,65,66,67,68,52] [52] .L) (.T (.T .L (.T .L .L)) .L))))))) (.T .L (.T .L .L))))
def pI:Ann :=
 (.T .L (.T (.T .L (.T (.T (.plan [0,1,2,3]) .L) .L)) (.T .L (.T .L (.T (.one (.loop [22,23,24,25,26,27,28,29,30,31,32,33,34,35,36,37,38,39,40,41,42,43,44,45,46,47,48,49,50,51] [] (.T (.T (.jb [22,23,24,25,26,27,28,29,30,31,32,33] 33 .L) (.T .L .L)) (.one (.T (.T .L (.join [37,38] [] (.T .L .L))) (.T (.T .L (.join [43,44] [] (.T .L .L))) (.plan [0,1,2,3,4,5,6,7]))))))) (.T .L .L))))))
theorem jT {l:List Nat}{x:Nat}(h:l.elem x=false):x∉l:=by simpa using h
def H5:Code→Array Oper
 |.region _ ops _=>ops
 |_=>#[]
def uC (f:Func):Code:=.seq (.seq (u1 f) (.cond (.tmp 9) (.seq (uA f) (.seq (u4 f) (u5 f))) .skip)) (uR f)
def uC' (f:Func):Code:=.seq (.seq (u1 f) (.cond (.tmp 9) (.seq (uA f) (.seq (u4 f) (rg1 (u5 f)))) .skip)) (uR f)
def H2 (p:Value)(h:Hp):Fr:=[p,.pointer (some ⟨h.size,0,none⟩),.pointer (some ⟨Array.size (h.push (.cells (Value.cells p) 69 (0,0))),0,none⟩)]++List.replicate 87 undef
def h_u (p:Value)(h:Hp):Hp:=Array.push (h.push (.cells (Value.cells p) 69 (0,0))) (.cells #[.int .i64 0,.string ⟨#[]⟩,.int .i64 0,.slice none 0 0] 36 (0,0))
theorem Mb (ω:Amb)(p:Value)(h:Hp)(R:RT)(X:XT)(hk:tZ ω p h R X) :
  wpx Tryz.prog ω X Fk (uC' Tryz.f176) (exK fun fr h'=>R (.tuple #[fr.getD 24 undef,fr.getD 2 undef]) h') (H2 p h) (h_u p h) :=
 (show wpx Tryz.prog ω X Fk (uC' Tryz.f176) (exK fun fr h'=>R (.tuple #[fr.getD 24 undef,fr.getD 2 undef]) h') (H2 p h) (h_u p h)=tZ ω p h R X by kernel_rfl)▸hk
theorem Lm (ω:Amb)(p:Value)(h:Hp) :
  wpx Tryz.prog ω (fun _ _=>False) .L (u0 Tryz.f176) (fun e fr h'=>e=.normal∧fr=H2 p h∧h'=h_u p h) ([p]++List.replicate (Tryz.f176.ntmps - [p].length) undef) h :=
 (show wpx Tryz.prog ω (fun _ _=>False) .L (u0 Tryz.f176) (fun e fr h'=>e=.normal∧fr=H2 p h∧h'=h_u p h) ([p]++List.replicate (Tryz.f176.ntmps - [p].length) undef) h=(Exit.normal=Exit.normal∧H2 p h=H2 p h∧h_u p h=h_u p h) by kernel_rfl)▸⟨rfl,rfl,rfl⟩
theorem PP:u5 Tryz.f176=.region 5 #[(H5 (u5 Tryz.f176))[0]!,(H5 (u5 Tryz.f176))[1]!] false:=by kernel_rfl
theorem QF:rg1 (u5 Tryz.f176)=.region 5 #[(H5 (u5 Tryz.f176))[0]!] false:=by kernel_rfl
theorem Ou:Dfr 24 177 [1] (u5 Tryz.f176) (rg1 (u5 Tryz.f176)):=by
 rw [QF];refine (congrArg (fun c=>Dfr 24 177 [1] c _) PP).mpr ?_;exact .here (by kernel_rfl) (by kernel_rfl) (by kernel_rfl) (by kernel_rfl) (by kernel_rfl) (by kernel_rfl)
theorem Pe:Dfr 24 177 [1] (uC Tryz.f176) (uC' Tryz.f176) :=
 .seqL (.seqR (jT (by kernel_rfl)) (.cond (.seqR (jT (by kernel_rfl)) (.seqR (jT (by kernel_rfl)) Ou)) (.same (jT (by kernel_rfl))))) (jT (by kernel_rfl))
theorem u_T:∀t∈[1],t∉writes (uC' Tryz.f176):=fun t ht=>by
 rw [Qf.1 ht];exact jT (by kernel_rfl)
theorem OE:Tryz.f176.body=some (.seq (u0 Tryz.f176) (uC Tryz.f176)):=by kernel_rfl
theorem u_L (p:Value)(h:Hp):[1].map (fun t=>(H2 p h).getD t undef)=[.pointer (some ⟨h.size,0,none⟩)]:=by kernel_rfl
theorem QE (p:Value)(h:Hp):24 < (H2 p h).length:=by simp [H2]
theorem u_d0 (p:Value)(h:Hp):dOf 24 (H2 p h)=[]:=by kernel_rfl
theorem DA {ω:Amb}{p:Value}{h:Hp}{R R0:RT}{X Xi:XT}(hk:tZ ω p h R0 Xi)
  (hR:∀fr h' d,R0 (.tuple #[fr.getD 24 undef,fr.getD 2 undef]) h'→Leaves Tryz.prog Tryz.f176 fr.toArray (AE ω R X) (dOf 24 fr) .returning (W ω h' d))
  (hX:∀(c:List PanicEntry) (a:Act) (h':Hp) (d:Nat),isD 177 [.pointer (some ⟨h.size,0,none⟩)] a.defers→Xi c h'→Leaves Tryz.prog Tryz.f176 a.tmps (AE ω R X) a.defers (.panicking c) (W ω h' d)):aa Tryz.prog ω 176 [p] h R X :=
 vn Tryz.func176 OE Pe (Lm ω p h) u_T (u_L p h) (QE p h) (u_d0 p h) (Mb ω p h R0 Xi hk) (fun fr h' d _ _ hr=>hR fr h' d hr) (fun c a h' d hk hx=>hX c a h' d hk.1 hx)
def HV (s:Value)(h:Hp):Fr:=[s,undef,.pointer (some ⟨h.size,0,none⟩),.pointer (some ⟨Array.size (h.push (.cells #[.slice none 0 0] 24 (0,0))),0,none⟩)]++List.replicate 50 undef
def h_p (h:Hp):Hp:=Array.push (h.push (.cells #[.slice none 0 0] 24 (0,0))) (.cells #[.int .i64 0,.int .i64 0] 28 (0,0))
theorem Ir (ω:Amb)(p:Value)(h:Hp) :
  wpx Tryz.prog ω (fun _ _=>False) .L (p0 Tryz.f14) (fun e fr h'=>e=.normal∧fr=HV p h∧h'=h_p h) ([p]++List.replicate (Tryz.f14.ntmps - [p].length) undef) h :=
 (show wpx Tryz.prog ω (fun _ _=>False) .L (p0 Tryz.f14) (fun e fr h'=>e=.normal∧fr=HV p h∧h'=h_p h) ([p]++List.replicate (Tryz.f14.ntmps - [p].length) undef) h=(Exit.normal=Exit.normal∧HV p h=HV p h∧h_p h=h_p h) by kernel_rfl)▸⟨rfl,rfl,rfl⟩
theorem p_L (p:Value)(h:Hp):[2,3].map (fun t=>(HV p h).getD t undef)=[.pointer (some ⟨h.size,0,none⟩),.pointer (some ⟨Array.size (h.push (.cells #[.slice none 0 0] 24 (0,0))),0,none⟩)]:=by kernel_rfl
theorem PJ (p:Value)(h:Hp):16 < (HV p h).length:=by simp [HV]
theorem p_d0 (p:Value)(h:Hp):dOf 16 (HV p h)=[]:=by kernel_rfl
end Go.Proofs.YtkeeboomikkojaaGreatDoor.Sx
