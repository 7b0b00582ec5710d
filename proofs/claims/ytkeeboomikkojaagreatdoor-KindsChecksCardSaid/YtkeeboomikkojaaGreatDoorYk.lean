import Derived.Test.YtkeeboomikkojaaGreatDoorSxCore
import Derived.KernelRfl
import Derived.Test.YtkeeboomikkojaaGreatDoorProg
set_option linter.unusedVariables false
set_option maxRecDepth 100000
namespace Go.Proofs.YtkeeboomikkojaaGreatDoor.Sx
open Go Go.Sx Go.Proofs
abbrev fL (h:Hp)(p_p:Value):Hp:=h.push (.cells (Value.cells p_p) 24 (0,0))
abbrev jl:Obj:=.cells #[.int .i64 0,.int .i64 0] 28 (0,0)
def sX (ω:Amb)(p_p:Value)(h:Hp)(R:RT)(X:XT):Prop :=
 ∃C0,ak (Array.push (fL h p_p) (jl)) ⟨h.size,0,none⟩ 1 C0 ∧
 ae Tryz.prog ω 18 [.agg C0.toArray] (Array.push (fL h p_p) (jl)) (fun r1 h2 =>
 asT r1 fun T3=>asO T3[0]? fun v4=>asT r1 fun T5=>asO T5[1]? fun v6=>asA v6 fun A7=>A7.size=2∧(∀u∈A7.toList,one u)∧az (h2.push (jl)) ⟨h2.size,0,none⟩ A7.toList fun h8 =>
 ∃C9,ak h8 ⟨h2.size,0,none⟩ 2 C9 ∧
 C9.toArray.size=2∧(∀u∈C9.toArray.toList,one u)∧az h8 ⟨Array.size (fL h p_p),0,none⟩ C9.toArray.toList fun h10 =>
 ∃C11,ak h10 ⟨Array.size (fL h p_p),0,none⟩ 2 C11∧R (.agg C11.toArray) h10) X
def yq:Ann :=
 (.T .L (.T .L (.T .L .L)))
theorem yI (ω:Amb)(p_p:Value)(h:Hp)(R:RT)(X:XT)(hk:sX ω p_p h R X):ae Tryz.prog ω 10 [p_p] h R X :=
 au (an:=yq) Tryz.func10 (by kernel_rfl) hk
abbrev cn (h:Hp)(p_p:Value):Hp:=h.push (.cells (Value.cells p_p) 24 (0,0))
abbrev kE:Obj:=.cells #[.int .i64 0,.int .i64 0] 28 (0,0)
def tU (ω:Amb)(p_p:Value)(h:Hp)(R:RT)(X:XT):Prop :=
 ∃C0,ak (Array.push (cn h p_p) (kE)) ⟨h.size,0,none⟩ 1 C0 ∧
 ae Tryz.prog ω 16 [.agg C0.toArray] (Array.push (cn h p_p) (kE)) (fun r1 h2 =>
 asA r1 fun A3=>A3.size=2∧(∀u∈A3.toList,one u)∧az (h2.push (kE)) ⟨h2.size,0,none⟩ A3.toList fun h4 =>
 ∃v5,af h4 (Addr.add ⟨h2.size,0,none⟩ 0)=some v5 ∧
 asK .i64 v5 fun n6=>cond (n6 !=(0:Int))
 (∃C7,ak h4 ⟨h2.size,0,none⟩ 2 C7 ∧
 C7.toArray.size=2∧(∀u∈C7.toArray.toList,one u)∧az h4 ⟨Array.size (cn h p_p),0,none⟩ C7.toArray.toList fun h8 =>
 ∃C9,ak h8 ⟨Array.size (cn h p_p),0,none⟩ 2 C9∧R (.tuple #[.slice none 0 0,.agg C9.toArray]) h8)
 (∃v10,af h4 (Addr.add ⟨h.size,0,none⟩ 0)=some v10 ∧
 bD v10 fun a11 l12 c13=>∃(I14:Value→Value→Value→RT) (μ15:Value→Value→Value→Value→Hp→Nat),I14 (.int .i64 0) (.slice none 0 0) (.bool false) (.int .i64 0) h4∧∀n_16 CH sK uG (d20:Nat→Value) (h21:Hp),I14 n_16 CH sK uG h21 →
 asK .i64 uG fun n22=>cond (decide (n22 < (l12:Int)))
 (aO v10 fun a23 l24 c25=>asI uG fun n26=>0≤n26∧n26 < (l24:Int)∧∃C27,ak h21 (Addr.add a23 (n26.toNat*4)) 4 C27 ∧
 C27.toArray.size=4∧(∀u∈C27.toArray.toList,one u)∧az (h21.push (.cells #[.string ⟨#[]⟩,.int .i64 0,.slice none 0 0,.slice none 0 0] 41 (0,0))) ⟨h21.size,0,none⟩ C27.toArray.toList fun h28 =>
 ∃v29,af h28 (Addr.add ⟨h.size,0,none⟩ 0)=some v29 ∧
 bD v29 fun a30 l31 c32=>asI uG fun n33=>0≤(((0:Nat):Int):Int)∧(((0:Nat):Int):Int)≤n33∧n33≤(c32:Int)∧cD (.map (some (h28.size))) (cD n_16 (∃C34,ak (Array.push (h28.push (.map #[] 0)) (.cells #[(.slice (if c32=Int.toNat ((0:Nat):Int) then a30 else Option.map (fun y=>Addr.add y (Int.toNat ((0:Nat):Int)*4)) a30) (n33.toNat - Int.toNat ((0:Nat):Int)) (c32 - Int.toNat ((0:Nat):Int))),(.map (some (h28.size))),.slice none 0 0,n_16,.int .i64 0,.int .i64 0] 79 (0,0))) ⟨h21.size,0,none⟩ 4 C34 ∧
 asK .i64 uG fun n35=>ae Tryz.prog ω 38 [(.pointer (some ⟨Array.size (h28.push (.map #[] 0)),0,none⟩)),.agg C34.toArray,(.int .i64 (IntKind.wrap .i64 ((-2) - n35)))] (Array.push (h28.push (.map #[] 0)) (.cells #[(.slice (if c32=Int.toNat ((0:Nat):Int) then a30 else Option.map (fun y=>Addr.add y (Int.toNat ((0:Nat):Int)*4)) a30) (n33.toNat - Int.toNat ((0:Nat):Int)) (c32 - Int.toNat ((0:Nat):Int))),(.map (some (h28.size))),.slice none 0 0,n_16,.int .i64 0,.int .i64 0] 79 (0,0))) (fun r36 h37 =>
 ∃v38,af h37 (Addr.add (Addr.add ⟨Array.size (h28.push (.map #[] 0)),0,none⟩ 4) 0)=some v38 ∧
 asK .i64 v38 fun n39=>cond (n39 !=(0:Int))
 (∃C40,ak h37 (Addr.add ⟨Array.size (h28.push (.map #[] 0)),0,none⟩ 4) 2 C40 ∧
 C40.toArray.size=2∧(∀u∈C40.toArray.toList,one u)∧az h37 ⟨Array.size (cn h p_p),0,none⟩ C40.toArray.toList fun h41 =>
 ∃C42,ak h41 ⟨Array.size (cn h p_p),0,none⟩ 2 C42∧R (.tuple #[.slice none 0 0,.agg C42.toArray]) h41)
 (∃v43,af h37 (Addr.add ⟨Array.size (h28.push (.map #[] 0)),0,none⟩ 3)=some v43 ∧
 ∃v44,af h37 (Addr.add ⟨Array.size (h28.push (.map #[] 0)),0,none⟩ 2)=some v44 ∧
 cD v44 (vG Tryz.prog 50 (h37.push (.cells (List.toArray [v44]) 55 (0,0))) CH (.slice (some ⟨h37.size,0,none⟩) 1 1) fun w45 h46 =>
 ∃J47:RT,
 (asB sK fun b51=>cond b51
 (J47 (.bool true) h46)
 (∃v52,af h46 (Addr.add ⟨h21.size,0,none⟩ 0)=some v52 ∧
 asS v52 fun s53=>cond (s53.toList==ByteArray.toList ⟨#[109,97,105,110]⟩)
 (∃v54,af h46 (Addr.add ⟨h21.size,0,none⟩ 2)=some v54 ∧
 bD v54 fun a55 l56 c57=>cond ((l56:Int)==(1:Int))
 (∃v58,af h46 (Addr.add ⟨h21.size,0,none⟩ 2)=some v58 ∧
 aO v58 fun a59 l60 c61=>0≤(0:Int)∧0 < (l60:Int)∧∃v62,af h46 (Addr.add (Addr.add a59 (Int.toNat 0*2)) 1)=some v62 ∧
 asS v62 fun s63=>J47 (.bool (s63.toList==ByteArray.toList ⟨#[114,105]⟩)) h46)
 (J47 (.bool false) h46))
 (J47 (.bool false) h46))) ∧
 ∀vk (d49:Nat→Value) (h50:Hp),J47 vk h50 →
 asK .i64 uG fun n64=>I14 v43 w45 vk (.int .i64 (IntKind.wrap .i64 (n64+1))) h50∧μ15 v43 w45 vk (.int .i64 (IntKind.wrap .i64 (n64+1))) h50 < μ15 n_16 CH sK uG h21))) X)))
 (asB sK fun b65=>cond (!b65)
 (2=2∧(∀u∈[.int .i64 13,(.int .i64 (-1))],one u)∧az h21 ⟨Array.size (cn h p_p),0,none⟩ [.int .i64 13,(.int .i64 (-1))] fun h66 =>
 ∃C67,ak h66 ⟨Array.size (cn h p_p),0,none⟩ 2 C67∧R (.tuple #[.slice none 0 0,.agg C67.toArray]) h66)
 (2=2∧(∀u∈[.int .i64 0,.int .i64 0],one u)∧az h21 ⟨Array.size (cn h p_p),0,none⟩ [.int .i64 0,.int .i64 0] fun h68 =>
 ∃C69,ak h68 ⟨Array.size (cn h p_p),0,none⟩ 2 C69∧R (.tuple #[CH,.agg C69.toArray]) h68)))) X
def zQ:Ann :=
 (.T .L (.T .L (.T (.T .L (.T (.T (.plan [0,1,2]) .L) .L)) (.T .L (.T .L (.T (.T .L (.one (.loop [21,22,23,24,9,8,25,26,27,28,29,30,31,32,10,33,34,35,36,37,38,39,40,41,42,43,44,45,46,47,2,48,49,50,51,6,52,53,54,55,56,57,58,5,59,60,61,62,63,64,65,66,67,68,69,70,71,72,73,74,75,76,77,78,7,79,20] [6,5,7,20] (.T .L (.T (.T .L .L) (.T (.one (.T .L (.T .L (.T .L (.T (.T .L (.T (.T (.plan [0,1,2,3,4,5]) .L) .L)) (.T .L (.T .L (.join [59,60,61,62,63,64,65,66,67,68,69,70,71,72,73,74,75,76,77,78,7] [7] .L)))))))) .L)))))) (.T (.T .L (.T (.T .L .L) .L)) (.T .L .L))))))))
theorem zP (ω:Amb)(p_p:Value)(h:Hp)(R:RT)(X:XT)(hk:tU ω p_p h R X):ae Tryz.prog ω 18 [p_p] h R X :=
 au (an:=zQ) Tryz.func18 (by kernel_rfl) hk
abbrev bM (h:Hp)(g_p:Value):Hp:=h.push (.cells (Value.cells g_p) 41 (0,0))
abbrev dx (h:Hp)(g_p:Value):Hp:=Array.push (Array.push (bM h g_p) (.map #[] 0)) (.cells #[.pointer none,(.map (some (Array.size (bM h g_p))))] 124 (0,0))
def fQ (ω:Amb)(c_p g_p ck:Value)(h:Hp)(R:RT)(X:XT):Prop :=
 cD (.map (some (Array.size (bM h g_p)))) (nnK c_p (asP c_p fun p0 =>
 ∃v1,af (dx h g_p) (Addr.add p0 0)=some v1 ∧
 bD v1 fun a2 l3 c4=>∃(I5:RT) (μ6:Value→Hp→Nat),I5 (.int .i64 0) (dx h g_p)∧∀Ft (d8:Nat→Value) (h9:Hp),I5 Ft h9 →
 asK .i64 Ft fun n10=>cond (decide (n10 < (l3:Int)))
 (∃J11:Hp→Prop,
 (aO v1 fun a14 l15 c16=>asI Ft fun n17=>0≤n17∧n17 < (l15:Int)∧∃C18,ak h9 (Addr.add a14 (n17.toNat*4)) 4 C18 ∧
 C18.toArray.size=4∧(∀u∈C18.toArray.toList,one u)∧az (h9.push (.cells #[.string ⟨#[]⟩,.int .i64 0,.slice none 0 0,.slice none 0 0] 41 (0,0))) ⟨h9.size,0,none⟩ C18.toArray.toList fun h19 =>
 ∃v20,af h19 (Addr.add ⟨h9.size,0,none⟩ 0)=some v20 ∧
 ∃v21,af h19 (Addr.add ⟨h.size,0,none⟩ 0)=some v21 ∧
 asS v20 fun s22=>asS v21 fun s23=>∃J24:Hp→Prop,
 (cond (s22.toList==s23.toList)
 (ae Tryz.prog ω 70 [c_p,.int .i64 9,ck] h19 (fun r27 h28 =>
 J24 h28) X)
 (J24 h19)) ∧
 ∀(d25:Nat→Value) (h26:Hp),J24 h26 →
 J11 h26) ∧
 ∀(d12:Nat→Value) (h13:Hp),J11 h13 →
 asK .i64 Ft fun n29=>I5 (.int .i64 (IntKind.wrap .i64 (n29+1))) h13∧μ6 (.int .i64 (IntKind.wrap .i64 (n29+1))) h13 < μ6 Ft h9)
 (∃v30,af h9 (Addr.add ⟨h.size,0,none⟩ 2)=some v30 ∧
 bD v30 fun a31 l32 c33=>∃(I34:RT) (μ35:Value→Hp→Nat),I34 (.int .i64 0) h9∧∀yY (d37:Nat→Value) (h38:Hp),I34 yY h38 →
 asK .i64 yY fun n39=>cond (decide (n39 < (l32:Int)))
 (aO v30 fun a40 l41 c42=>asI yY fun n43=>0≤n43∧n43 < (l41:Int)∧∃C44,ak h38 (Addr.add a40 (n43.toNat*2)) 2 C44 ∧
 C44.toArray.size=2∧(∀u∈C44.toArray.toList,one u)∧az (h38.push (.cells #[.string ⟨#[]⟩,.string ⟨#[]⟩] 32 (0,0))) ⟨h38.size,0,none⟩ C44.toArray.toList fun h45 =>
 ∃v46,af h45 (Addr.add ⟨h38.size,0,none⟩ 0)=some v46 ∧
 ∃v47,af h45 (Addr.add ⟨h38.size,0,none⟩ 1)=some v47 ∧
 cD v46 (cD v47 (ae Tryz.prog ω 71 [c_p,(.pointer (some ⟨Array.size (Array.push (bM h g_p) (.map #[] 0)),0,none⟩)),(.agg #[v46,v47]),ck] h45 (fun r48 h49 =>
 asK .i64 yY fun n50=>I34 (.int .i64 (IntKind.wrap .i64 (n50+1))) h49∧μ35 (.int .i64 (IntKind.wrap .i64 (n50+1))) h49 < μ35 yY h38) X)))
 (∃v51,af h38 (Addr.add ⟨h.size,0,none⟩ 3)=some v51 ∧
 ae Tryz.prog ω 72 [c_p,(.pointer (some ⟨Array.size (Array.push (bM h g_p) (.map #[] 0)),0,none⟩)),v51] h38 (fun r52 h53 =>
 nnK c_p (asP c_p fun p54 =>
 ∃v55,af h53 (Addr.add p54 2)=some v55 ∧
 bD v55 fun a56 l57 c58=>∃J59:Hp→Prop,
 (cond (decide ((l57:Int) > 30))
 (ae Tryz.prog ω 70 [c_p,.int .i64 8,ck] h53 (fun r62 h63 =>
 J59 h63) X)
 (J59 h53)) ∧
 ∀(d60:Nat→Value) (h61:Hp),J59 h61 →
 R (.tuple #[]) h61)) X))))
def nq:Ann :=
 (.T .L (.T .L (.T (.T .L (.one (.loop [20,21,22,8,23,24,25,26,27,28,29,30,31,19] [19] (.T .L (.T (.T .L .L) (.T (.join [21,22,8,23,24,25,26,27,28,29,30] [] (.one (.T .L (.T .L (.join [28,29,30] [] (.T .L .L)))))) .L)))))) (.T (.T .L (.one (.loop [36,37,38,10,39,40,41,42,43,44,45,46,47,48,35] [35] (.T .L (.T (.T .L .L) (.T (.one (.T .L .L)) .L)))))) (.T .L (.T .L (.join [60,61,62] [] (.T .L .L))))))))
theorem nd (ω:Amb)(c_p g_p ck:Value)(h:Hp)(R:RT)(X:XT)(hk:fQ ω c_p g_p ck h R X):ae Tryz.prog ω 38 [c_p,g_p,ck] h R X :=
 au (an:=nq) Tryz.func38 (by kernel_rfl) hk
def gg (ω:Amb)(c_p cy ck:Value)(h:Hp)(R:RT)(X:XT):Prop :=
 nnK c_p (asP c_p fun p0 =>
 ∃v1,af h (Addr.add (Addr.add p0 4) 0)=some v1 ∧
 asK .i64 v1 fun n2=>∃J3:Hp→Prop,
 (cond (n2==(0:Int))
 (cD cy (cD ck (nnK c_p (asP c_p fun p6 =>
 2=2∧(∀u∈[cy,ck],one u)∧az h (Addr.add p6 4) [cy,ck] fun h7 =>
 J3 h7))))
 (J3 h)) ∧
 ∀(d4:Nat→Value) (h5:Hp),J3 h5 →
 R (.tuple #[]) h5)
def oS:Ann :=
 (.T .L (.join [12,13,14,15,16,17] [] (.T .L .L)))
theorem o9 (ω:Amb)(c_p cy ck:Value)(h:Hp)(R:RT)(X:XT)(hk:gg ω c_p cy ck h R X):ae Tryz.prog ω 70 [c_p,cy,ck] h R X :=
 au (an:=oS) Tryz.func70 (by kernel_rfl) hk
def gA (ω:Amb)(c_p s_p v_p ck:Value)(h:Hp)(R:RT)(X:XT):Prop :=
 nnK c_p (asP c_p fun p0 =>
 ∃v1,af (h.push (.cells (Value.cells v_p) 56 (0,0))) (Addr.add p0 1)=some v1 ∧
 ∃v2,af (h.push (.cells (Value.cells v_p) 56 (0,0))) (Addr.add ⟨h.size,0,none⟩ 0)=some v2 ∧
 jF Tryz.prog 77 (h.push (.cells (Value.cells v_p) 56 (0,0))) v1 v2 false fun w3 h4 =>
 asK .i64 w3 fun n5=>∃J6:Hp→Prop,
 (cond (decide (n5 > 0))
 (ae Tryz.prog ω 70 [c_p,.int .i64 9,ck] h4 (fun r9 h10 =>
 J6 h10) X)
 (J6 h4)) ∧
 ∀(d7:Nat→Value) (h8:Hp),J6 h8 →
 nnK c_p (asP c_p fun p11 =>
 ∃v12,af h8 (Addr.add p11 1)=some v12 ∧
 ∃v13,af h8 (Addr.add ⟨h.size,0,none⟩ 0)=some v13 ∧
 jF Tryz.prog 77 h8 v12 v13 false fun w14 h15 =>
 asK .i64 w14 fun n16=>Iq Tryz.prog 77 h15 v12 v13 (.int .i64 (IntKind.wrap .i64 (n16+1))) fun h17 =>
 nnK c_p (asP c_p fun p18 =>
 ∃v19,af h17 (Addr.add p18 2)=some v19 ∧
 ∃C20,ak h17 ⟨h.size,0,none⟩ 2 C20 ∧
 C20.toArray.size=2∧af (h17.push (.cells (List.toArray (C20.toArray.toList++[])) 56 (0,0))) (Addr.add p18 2)=some v19∧vG Tryz.prog 55 (h17.push (.cells (List.toArray (C20.toArray.toList++[])) 56 (0,0))) v19 (.slice (some ⟨h17.size,0,none⟩) 1 1) fun w21 h22 =>
 nnK c_p (asP c_p fun p23 =>
 cD w21 (aM h22 (Addr.add p23 2) w21 fun h24 =>
 nnK s_p (asP s_p fun p25 =>
 ∃v26,af h24 (Addr.add p25 1)=some v26 ∧
 ∃v27,af h24 (Addr.add ⟨h.size,0,none⟩ 0)=some v27 ∧
 ∃C28,ak h24 ⟨h.size,0,none⟩ 2 C28 ∧
 Iq Tryz.prog 122 h24 v26 v27 (.agg C28.toArray) fun h29 =>
 R (.tuple #[]) h29))))))
def nP:Ann :=
 (.T .L (.T (.T (.plan [0,1,2,3,4,5,6,7]) (.join [16,17,18] [] (.T .L .L))) (.T (.plan [0,1,2,3,4,5,6,7,8]) (.T (.plan [0,1,2,3,4,5,6,7,8,9,10]) (.plan [0,1,2,3,4,5,6,7])))))
theorem oP (ω:Amb)(c_p s_p v_p ck:Value)(h:Hp)(R:RT)(X:XT)(hk:gA ω c_p s_p v_p ck h R X):ae Tryz.prog ω 71 [c_p,s_p,v_p,ck] h R X :=
 au (an:=nP) Tryz.func71 (by kernel_rfl) hk
def dy (ω:Amb)(c_p s_p l_p:Value)(h:Hp)(R:RT)(X:XT):Prop :=
 ∃(I0:RT) (μ1:Value→Hp→Nat),I0 (.int .i64 0) h∧∀i_2 (d3:Nat→Value) (h4:Hp),I0 i_2 h4 →
 ∃β5:Bool,
 (bD l_p fun a7 l8 c9=>asK .i64 i_2 fun n10=>cond (decide (n10 < (l8:Int)))
 (nnK c_p (asP c_p fun p11 =>
 ∃v12,af h4 (Addr.add (Addr.add p11 4) 0)=some v12 ∧
 asK .i64 v12 fun n13=>((.bool (n13==(0:Int))):Value)=.bool β5∧h4=h4))
 (((.bool false):Value)=.bool β5∧h4=h4)) ∧
 ∀d6:Nat→Value,
 cond β5
 (aO l_p fun a14 l15 c16=>asI i_2 fun n17=>0≤n17∧n17 < (l15:Int)∧∃C18,ak h4 (Addr.add a14 (n17.toNat*9)) 9 C18 ∧
 ae Tryz.prog ω 96 [c_p,s_p,.agg C18.toArray] h4 (fun r19 h20 =>
 asK .i64 i_2 fun n21=>I0 (.int .i64 (IntKind.wrap .i64 (n21+1))) h20∧μ1 (.int .i64 (IntKind.wrap .i64 (n21+1))) h20 < μ1 i_2 h4) X)
 (R (.tuple #[]) h4)
def mI:Ann :=
 (.T .L (.one (.loop [7,8,9,10,11,12,13,14,15,16,17,18,21,22,23,24,25,26,27,19,20,6] [6] (.T (.T (.jb [7,8,9,10,11,12,13,14,15,16,17,18] 18 .L) (.T .L .L)) (.T (.one .L) .L)))))
theorem fF (ω:Amb)(c_p s_p l_p:Value)(h:Hp)(R:RT)(X:XT)(hk:dy ω c_p s_p l_p h R X):ae Tryz.prog ω 72 [c_p,s_p,l_p] h R X :=
 au (an:=mI) Tryz.func72 (by kernel_rfl) hk
def gk (ω:Amb)(c_p s_p rW:Value)(h:Hp)(R:RT)(X:XT):Prop :=
 nnK c_p (asP c_p fun p0 =>
 ∃v1,af (h.push (.cells (Value.cells rW) 39 (0,0))) (Addr.add p0 3)=some v1 ∧
 nnK c_p (asP c_p fun p2 =>
 ∃v3,af (h.push (.cells (Value.cells rW) 39 (0,0))) (Addr.add p2 3)=some v3 ∧
 asK .i64 v3 fun n4=>nnK c_p (asP c_p fun p5 =>
 aM (h.push (.cells (Value.cells rW) 39 (0,0))) (Addr.add p5 3) (.int .i64 (IntKind.wrap .i64 (n4+1))) fun h6 =>
 ∃C7,ak h6 ⟨h.size,0,none⟩ 9 C7 ∧
 ae Tryz.prog ω 121 [.agg C7.toArray,.string ⟨#[]⟩] h6 (fun r8 h9 =>
 bD r8 fun a10 l11 c12=>∃(I13:RT) (μ14:Value→Hp→Nat),I13 (.int .i64 0) h9∧∀Ad (d16:Nat→Value) (h17:Hp),I13 Ad h17 →
 asK .i64 Ad fun n18=>cond (decide (n18 < (l11:Int)))
 (∃J19:Hp→Prop,
 (aO r8 fun a22 l23 c24=>asI Ad fun n25=>0≤n25∧n25 < (l23:Int)∧∃C26,ak h17 (Addr.add a22 (n25.toNat*2)) 2 C26 ∧
 C26.toArray.size=2∧(∀u∈C26.toArray.toList,one u)∧az (h17.push (.cells #[.string ⟨#[]⟩,.string ⟨#[]⟩] 56 (0,0))) ⟨h17.size,0,none⟩ C26.toArray.toList fun h27 =>
 ∃J28:RT,
 (nnK c_p (asP c_p fun p32 =>
 ∃v33,af h27 (Addr.add p32 1)=some v33 ∧
 ∃v34,af h27 (Addr.add ⟨h17.size,0,none⟩ 0)=some v34 ∧
 jF Tryz.prog 77 h27 v33 v34 false fun w35 h36 =>
 asK .i64 w35 fun n37=>cond (decide (n37 > 0))
 (J28 (.bool true) h36)
 (∃v38,af h36 (Addr.add ⟨h.size,0,none⟩ 0)=some v38 ∧
 asK .i64 v38 fun n39=>cond (n39==(4:Int))
 (∃v40,af h36 (Addr.add ⟨h.size,0,none⟩ 2)=some v40 ∧
 ∃v41,af h36 (Addr.add ⟨h.size,0,none⟩ 3)=some v41 ∧
 asS v40 fun s42=>asS v41 fun s43=>J28 (.bool (s42.toList==s43.toList)) h36)
 (J28 (.bool false) h36)))) ∧
 ∀KQ (d30:Nat→Value) (h31:Hp),J28 KQ h31 →
 ∃J44:Hp→Prop,
 (asB KQ fun b47=>cond b47
 (ae Tryz.prog ω 70 [c_p,.int .i64 9,v1] h31 (fun r48 h49 =>
 J44 h49) X)
 (J44 h31)) ∧
 ∀(d45:Nat→Value) (h46:Hp),J44 h46 →
 J19 h46) ∧
 ∀(d20:Nat→Value) (h21:Hp),J19 h21 →
 asK .i64 Ad fun n50=>I13 (.int .i64 (IntKind.wrap .i64 (n50+1))) h21∧μ14 (.int .i64 (IntKind.wrap .i64 (n50+1))) h21 < μ14 Ad h17)
 (∃C51,ak h17 ⟨h.size,0,none⟩ 9 C51 ∧
 ae Tryz.prog ω 122 [c_p,s_p,.agg C51.toArray,v1] h17 (fun r52 h53 =>
 nnK c_p (asP c_p fun p54 =>
 ∃v55,af h53 (Addr.add (Addr.add p54 4) 0)=some v55 ∧
 asK .i64 v55 fun n56=>cond (n56 !=(0:Int))
 (R (.tuple #[]) h53)
 (cD s_p (cD (.map (some (h53.size))) (∃C57,ak (Array.push (h53.push (.map #[] 0)) (.cells #[s_p,(.map (some (h53.size)))] 124 (0,0))) ⟨h.size,0,none⟩ 9 C57 ∧
 ae Tryz.prog ω 121 [.agg C57.toArray,r52] (Array.push (h53.push (.map #[] 0)) (.cells #[s_p,(.map (some (h53.size)))] 124 (0,0))) (fun r58 h59 =>
 bD r58 fun a60 l61 c62=>∃(I63:RT) (μ64:Value→Hp→Nat),I63 (.int .i64 0) h59∧∀Bb (d66:Nat→Value) (h67:Hp),I63 Bb h67 →
 asK .i64 Bb fun n68=>cond (decide (n68 < (l61:Int)))
 (∃J69:Hp→Prop,
 (aO r58 fun a72 l73 c74=>asI Bb fun n75=>0≤n75∧n75 < (l73:Int)∧∃C76,ak h67 (Addr.add a72 (n75.toNat*2)) 2 C76 ∧
 C76.toArray.size=2∧(∀u∈C76.toArray.toList,one u)∧az (h67.push (.cells #[.string ⟨#[]⟩,.string ⟨#[]⟩] 56 (0,0))) ⟨h67.size,0,none⟩ C76.toArray.toList fun h77 =>
 ∃β78:Bool,
 (∃v80,af h77 (Addr.add ⟨h.size,0,none⟩ 0)=some v80 ∧
 asK .i64 v80 fun n81=>cond (n81==(11:Int))
 (((.bool true):Value)=.bool β78∧h77=h77)
 (∃v82,af h77 (Addr.add ⟨h.size,0,none⟩ 0)=some v82 ∧
 asK .i64 v82 fun n83=>((.bool (n83==(12:Int))):Value)=.bool β78∧h77=h77)) ∧
 ∀d79:Nat→Value,
 ∃J84:Hp→Prop,
 (cond β78
 (∃C87,ak h77 ⟨h67.size,0,none⟩ 2 C87 ∧
 ae Tryz.prog ω 71 [c_p,(.pointer (some ⟨Array.size (h53.push (.map #[] 0)),0,none⟩)),.agg C87.toArray,v1] h77 (fun r88 h89 =>
 J84 h89) X)
 (∃C90,ak h77 ⟨h67.size,0,none⟩ 2 C90 ∧
 ae Tryz.prog ω 71 [c_p,s_p,.agg C90.toArray,v1] h77 (fun r91 h92 =>
 J84 h92) X)) ∧
 ∀(d85:Nat→Value) (h86:Hp),J84 h86 →
 J69 h86) ∧
 ∀(d70:Nat→Value) (h71:Hp),J69 h71 →
 asK .i64 Bb fun n93=>I63 (.int .i64 (IntKind.wrap .i64 (n93+1))) h71∧μ64 (.int .i64 (IntKind.wrap .i64 (n93+1))) h71 < μ64 Bb h67)
 (∃v94,af h67 (Addr.add ⟨h.size,0,none⟩ 7)=some v94 ∧
 ae Tryz.prog ω 72 [c_p,(.pointer (some ⟨Array.size (h53.push (.map #[] 0)),0,none⟩)),v94] h67 (fun r95 h96 =>
 cD s_p (cD (.map (some (h96.size))) (∃v97,af (Array.push (h96.push (.map #[] 0)) (.cells #[s_p,(.map (some (h96.size)))] 124 (0,0))) (Addr.add ⟨h.size,0,none⟩ 8)=some v97 ∧
 ae Tryz.prog ω 72 [c_p,(.pointer (some ⟨Array.size (h96.push (.map #[] 0)),0,none⟩)),v97] (Array.push (h96.push (.map #[] 0)) (.cells #[s_p,(.map (some (h96.size)))] 124 (0,0))) (fun r98 h99 =>
 R (.tuple #[]) h99) X))) X)) X))))) X)) X)))
def oB:Ann :=
 (.T .L (.T .L (.T .L (.T (.T .L (.one (.loop [28,29,30,8,31,32,33,34,35,36,37,38,39,40,41,42,43,44,45,46,47,48,49,50,51,52,53,54,27] [27] (.T .L (.T (.T .L .L) (.T (.join [29,30,8,31,32,33,34,35,36,37,38,39,40,41,42,43,44,45,46,47,48,49,50,51,52,53] [] (.one (.T .L (.T (.join [31,32,33,34,35,36,37,38,39,40,41,42,43,44,45,46,47,48,49,50] [50] (.plan [0,1,2,3,4,5,6,7,8,9,10,11,12,13,14,15,16,17,18,19])) (.join [51,52,53] [] (.T .L .L)))))) .L)))))) (.T .L (.T (.T .L (.T .L .L)) (.T .L (.T (.T .L (.one (.loop [75,76,77,12,78,79,80,81,82,83,84,85,86,87,88,89,90,91,92,93,94,95,96,74] [74] (.T .L (.T (.T .L .L) (.T (.join [76,77,12,78,79,80,81,82,83,84,85,86,87,88,89,90,91,92,93,94,95] [] (.one (.T .L (.T (.jb [78,79,80,81,82,83,84,85] 85 .L) (.join [86,87,88,89,90,91,92,93,94,95] [] (.T .L .L)))))) .L)))))) (.T .L .L)))))))))
theorem nN (ω:Amb)(c_p s_p rW:Value)(h:Hp)(R:RT)(X:XT)(hk:gk ω c_p s_p rW h R X):ae Tryz.prog ω 96 [c_p,s_p,rW] h R X :=
 au (an:=oB) Tryz.func96 (by kernel_rfl) hk
abbrev bF (h:Hp)(s_p:Value):Hp:=h.push (.cells (Value.cells s_p) 39 (0,0))
def ta (ω:Amb)(s_p zh:Value)(h:Hp)(R:RT)(X:XT):Prop :=
 ∃v0,af (bF h s_p) (Addr.add ⟨h.size,0,none⟩ 0)=some v0 ∧
 asK .i64 v0 fun n1=>cond (n1==(1:Int))
 (∃v2,af (bF h s_p) (Addr.add ⟨h.size,0,none⟩ 2)=some v2 ∧
 cD v2 (2=2∧R (.slice (some ⟨Array.size (bF h s_p),0,none⟩) 1 1) (Array.push (bF h s_p) (.cells (List.toArray [v2,(.string ⟨#[105]⟩)]) 56 (0,0)))))
 (asK .i64 v0 fun n3=>cond (n3==(4:Int))
 (∃v4,af (bF h s_p) (Addr.add ⟨h.size,0,none⟩ 2)=some v4 ∧
 ∃v5,af (bF h s_p) (Addr.add ⟨h.size,0,none⟩ 4)=some v5 ∧
 asS v5 fun s6=>ByteArray.size ⟨#[115]⟩+s6.size≤9223372036854775807∧cD v4 (∃v7,af (bF h s_p) (Addr.add ⟨h.size,0,none⟩ 3)=some v7 ∧
 ∃v8,af (bF h s_p) (Addr.add ⟨h.size,0,none⟩ 4)=some v8 ∧
 asS v8 fun s9=>ByteArray.size ⟨#[114]⟩+s9.size≤9223372036854775807∧cD v7 (2=2∧2=2∧R (.slice (some ⟨Array.size (bF h s_p),0,none⟩) 2 2) (Array.push (bF h s_p) (.cells (List.toArray [v4,(.string (⟨#[115]⟩++s6)),v7,(.string (⟨#[114]⟩++s9))]) 56 (0,0))))))
 (asK .i64 v0 fun n10=>∃J11:RT,
 (cond (n10==(5:Int))
 (J11 (.bool (n10==(5:Int))) (bF h s_p))
 (asK .i64 v0 fun n15=>∃J16:RT,
 (cond (n15==(11:Int))
 (J16 (.bool (n15==(11:Int))) (bF h s_p))
 (asK .i64 v0 fun n20=>J16 (.bool (n20==(12:Int))) (bF h s_p))) ∧
 ∀Kc (d18:Nat→Value) (h19:Hp),J16 Kc h19 →
 J11 Kc h19)) ∧
 ∀Kx (d13:Nat→Value) (h14:Hp),J11 Kx h14 →
 asB Kx fun b21=>cond b21
 (∃v22,af h14 (Addr.add ⟨h.size,0,none⟩ 2)=some v22 ∧
 cD v22 (cD zh (2=2∧R (.slice (some ⟨h14.size,0,none⟩) 1 1) (h14.push (.cells (List.toArray [v22,zh]) 56 (0,0))))))
 (R (.slice none 0 0) h14)))
def xQ:Ann :=
 (.T .L (.T (.T .L (.one (.T .L (.T (.T .L .L) (.T .L (.T (.T .L .L) (.T (.T .L (.join [30,28,31] [28] (.T .L (.T .L (.join [31,28] [28] (.T .L .L)))))) (.T (.T .L .L) .L)))))))) (.T .L .L)))
theorem xK (ω:Amb)(s_p zh:Value)(h:Hp)(R:RT)(X:XT)(hk:ta ω s_p zh h R X):ae Tryz.prog ω 121 [s_p,zh] h R X :=
 au (an:=xQ) Tryz.func121 (by kernel_rfl) hk
def gp (ω:Amb)(c_p s_p rW ck:Value)(h:Hp)(R:RT)(X:XT):Prop :=
 ∃C0,ak (h.push (.cells (Value.cells rW) 39 (0,0))) ⟨h.size,0,none⟩ 9 C0 ∧
 ae Tryz.prog ω 141 [c_p,s_p,.agg C0.toArray,ck] (h.push (.cells (Value.cells rW) 39 (0,0))) (fun r1 h2 =>
 nnK c_p (asP c_p fun p3 =>
 ∃v4,af h2 (Addr.add (Addr.add p3 4) 0)=some v4 ∧
 asK .i64 v4 fun n5=>cond (n5 !=(0:Int))
 (R (.string ⟨#[]⟩) h2)
 (∃v6,af h2 (Addr.add ⟨h.size,0,none⟩ 0)=some v6 ∧
 ∃J7:Hp→Prop,
 (asK .i64 v6 fun n10=>∃J11:Hp→Prop,
 (cond (n10==(2:Int))
 (∃v14,af h2 (Addr.add ⟨h.size,0,none⟩ 2)=some v14 ∧
 ae Tryz.prog ω 142 [c_p,s_p,v14,(.string ⟨#[105]⟩),ck] h2 (fun r15 h16 =>
 ∃v17,af h16 (Addr.add ⟨h.size,0,none⟩ 6)=some v17 ∧
 aO v17 fun a18 l19 c20=>0≤(0:Int)∧0 < (l19:Int)∧∃C21,ak h16 (Addr.add a18 (Int.toNat 0*4)) 4 C21 ∧
 ae Tryz.prog ω 143 [c_p,s_p,.agg C21.toArray,ck] h16 (fun r22 h23 =>
 J11 h23) X) X)
 (asK .i64 v6 fun n24=>∃J25:RT,
 (cond (n24==(1:Int))
 (J25 (.bool (n24==(1:Int))) h2)
 (asK .i64 v6 fun n29=>∃J30:RT,
 (cond (n29==(3:Int))
 (J30 (.bool (n29==(3:Int))) h2)
 (asK .i64 v6 fun n34=>∃J35:RT,
 (cond (n34==(13:Int))
 (J35 (.bool (n34==(13:Int))) h2)
 (asK .i64 v6 fun n39=>J35 (.bool (n39==(14:Int))) h2)) ∧
 ∀Kr (d37:Nat→Value) (h38:Hp),J35 Kr h38 →
 J30 Kr h38)) ∧
 ∀Kl (d32:Nat→Value) (h33:Hp),J30 Kl h33 →
 J25 Kl h33)) ∧
 ∀KP (d27:Nat→Value) (h28:Hp),J25 KP h28 →
 ∃J40:Hp→Prop,
 (asB KP fun b43=>cond b43
 (∃v44,af h28 (Addr.add ⟨h.size,0,none⟩ 6)=some v44 ∧
 aO v44 fun a45 l46 c47=>0≤(0:Int)∧0 < (l46:Int)∧∃C48,ak h28 (Addr.add a45 (Int.toNat 0*4)) 4 C48 ∧
 ae Tryz.prog ω 143 [c_p,s_p,.agg C48.toArray,ck] h28 (fun r49 h50 =>
 J40 h50) X)
 (asK .i64 v6 fun n51=>∃J52:Hp→Prop,
 (cond (n51==(6:Int))
 (∃v55,af h28 (Addr.add ⟨h.size,0,none⟩ 6)=some v55 ∧
 aO v55 fun a56 l57 c58=>0≤(0:Int)∧0 < (l57:Int)∧∃C59,ak h28 (Addr.add a56 (Int.toNat 0*4)) 4 C59 ∧
 ae Tryz.prog ω 144 [c_p,s_p,.agg C59.toArray,r1,ck] h28 (fun r60 h61 =>
 J52 h61) X)
 (asK .i64 v6 fun n62=>∃J63:Hp→Prop,
 (cond (n62==(10:Int))
 (∃C66,ak h28 ⟨h.size,0,none⟩ 9 C66 ∧
 ae Tryz.prog ω 145 [c_p,s_p,.agg C66.toArray,ck] h28 (fun r67 h68 =>
 J63 h68) X)
 (asK .i64 v6 fun n69=>∃J70:Hp→Prop,
 (cond (n69==(4:Int))
 (∃β73:Bool,
 (∃v75,af h28 (Addr.add ⟨h.size,0,none⟩ 5)=some v75 ∧
 asK .i64 v75 fun n76=>cond (decide (n76 < 1))
 (((.bool true):Value)=.bool β73∧h28=h28)
 (∃v77,af h28 (Addr.add ⟨h.size,0,none⟩ 5)=some v77 ∧
 asK .i64 v77 fun n78=>((.bool (decide (n78 > 5))):Value)=.bool β73∧h28=h28)) ∧
 ∀d74:Nat→Value,
 ∃J79:Hp→Prop,
 (cond β73
 (ae Tryz.prog ω 70 [c_p,.int .i64 14,ck] h28 (fun r82 h83 =>
 J79 h83) X)
 (J79 h28)) ∧
 ∀(d80:Nat→Value) (h81:Hp),J79 h81 →
 ∃v84,af h81 (Addr.add ⟨h.size,0,none⟩ 4)=some v84 ∧
 asS v84 fun s85=>∃J86:Hp→Prop,
 (cond (decide (((s85.size:Int):Int) > 3))
 (ae Tryz.prog ω 70 [c_p,.int .i64 11,ck] h81 (fun r89 h90 =>
 J86 h90) X)
 (J86 h81)) ∧
 ∀(d87:Nat→Value) (h88:Hp),J86 h88 →
 J70 h88)
 (J70 h28)) ∧
 ∀(d71:Nat→Value) (h72:Hp),J70 h72 →
 J63 h72)) ∧
 ∀(d64:Nat→Value) (h65:Hp),J63 h65 →
 J52 h65)) ∧
 ∀(d53:Nat→Value) (h54:Hp),J52 h54 →
 J40 h54)) ∧
 ∀(d41:Nat→Value) (h42:Hp),J40 h42 →
 J11 h42)) ∧
 ∀(d12:Nat→Value) (h13:Hp),J11 h13 →
 J7 h13) ∧
 ∀(d8:Nat→Value) (h9:Hp),J7 h9 →
 R r1 h9))) X
def oK:Ann :=
 (.T .L (.T .L (.T (.T .L (.T (.T .L .L) .L)) (.T (.T .L (.join [24,23,25,26,27,28,29,30,31,32,33,34,35,36,37,38,40,39,41,42,43,44,45,46,47,48,49,50,51,53,52,54,55,56,57,58,59,60,61,62,64,63,65,66,67,68,69,71,70,72,73,74,75,76,77,78,79,80,81,82,83,84,85,86,87,88,89] [] (.one (.T .L (.join [25,26,27,28,29,30,31,32,33,34,35,36,37,38,40,39,41,42,43,44,45,46,47,48,49,50,51,53,52,54,55,56,57,58,59,60,61,62,64,63,65,66,67,68,69,71,70,72,73,74,75,76,77,78,79,80,81,82,83,84,85,86,87,88,89] [] (.T (.T .L .L) (.T (.T .L (.join [41,39,42,43] [39] (.T .L (.T .L (.join [42,39,43] [39] (.T .L (.T .L (.join [43,39] [39] (.T .L .L))))))))) (.join [44,45,46,47,48,49,50,51,53,52,54,55,56,57,58,59,60,61,62,64,63,65,66,67,68,69,71,70,72,73,74,75,76,77,78,79,80,81,82,83,84,85,86,87,88,89] [] (.T .L (.T .L (.join [54,55,56,57,58,59,60,61,62,64,63,65,66,67,68,69,71,70,72,73,74,75,76,77,78,79,80,81,82,83,84,85,86,87,88,89] [] (.T .L (.T .L (.join [65,66,67,68,69,71,70,72,73,74,75,76,77,78,79,80,81,82,83,84,85,86,87,88,89] [] (.T .L (.T .L (.join [72,73,74,75,76,77,78,79,80,81,82,83,84,85,86,87,88,89] [] (.T (.T (.T (.jb [72,73,74,75,76,77,78,79] 79 .L) (.join [80,81,82] [] (.T .L .L))) (.T .L (.join [87,88,89] [] (.T .L .L)))) .L)))))))))))))))))) (.T .L .L)))))
theorem nZ (ω:Amb)(c_p s_p rW ck:Value)(h:Hp)(R:RT)(X:XT)(hk:gp ω c_p s_p rW ck h R X):ae Tryz.prog ω 122 [c_p,s_p,rW,ck] h R X :=
 au (an:=oK) Tryz.func122 (by kernel_rfl) hk
abbrev bK (h:Hp)(rW:Value):Hp:=h.push (.cells (Value.cells rW) 39 (0,0))
def iH (ω:Amb)(c_p s_p rW ck:Value)(h:Hp)(R:RT)(X:XT):Prop :=
 ∃v0,af (bK h rW) (Addr.add ⟨h.size,0,none⟩ 2)=some v0 ∧
 ∃v1,af (bK h rW) (Addr.add ⟨h.size,0,none⟩ 0)=some v1 ∧
 ∃J2:Value→RT,
 (asK .i64 v1 fun n7=>∃J8:Value→RT,
 (cond (n7==(5:Int))
 (∃v13,af (bK h rW) (Addr.add ⟨h.size,0,none⟩ 3)=some v13 ∧
 J8 v13 (.string ⟨#[115]⟩) (bK h rW))
 (asK .i64 v1 fun n14=>∃J15:RT,
 (cond (n14==(6:Int))
 (J15 (.bool (n14==(6:Int))) (bK h rW))
 (asK .i64 v1 fun n19=>J15 (.bool (n19==(7:Int))) (bK h rW))) ∧
 ∀JR (d17:Nat→Value) (h18:Hp),J15 JR h18 →
 ∃J20:Value→RT,
 (asB JR fun b25=>cond b25
 (J20 (.string ⟨#[115]⟩) v0 h18)
 (asK .i64 v1 fun n26=>∃J27:RT,
 (cond (n26==(8:Int))
 (J27 (.bool (n26==(8:Int))) h18)
 (asK .i64 v1 fun n31=>J27 (.bool (n31==(9:Int))) h18)) ∧
 ∀Jt (d29:Nat→Value) (h30:Hp),J27 Jt h30 →
 ∃J32:Value→RT,
 (asB Jt fun b37=>cond b37
 (J32 (.string ⟨#[114]⟩) v0 h30)
 (asK .i64 v1 fun n38=>∃J39:RT,
 (cond (n38==(11:Int))
 (J39 (.bool (n38==(11:Int))) h30)
 (asK .i64 v1 fun n43=>J39 (.bool (n43==(12:Int))) h30)) ∧
 ∀JL (d41:Nat→Value) (h42:Hp),J39 JL h42 →
 asB JL fun b44=>cond b44
 (∃v45,af h42 (Addr.add ⟨h.size,0,none⟩ 3)=some v45 ∧
 J32 (.string ⟨#[114]⟩) v45 h42)
 (R (.string ⟨#[]⟩) h42))) ∧
 ∀A4 Ha (d35:Nat→Value) (h36:Hp),J32 A4 Ha h36 →
 J20 A4 Ha h36)) ∧
 ∀za Gg (d23:Nat→Value) (h24:Hp),J20 za Gg h24 →
 J8 Gg za h24)) ∧
 ∀KY AX (d11:Nat→Value) (h12:Hp),J8 KY AX h12 →
 J2 KY AX h12) ∧
 ∀Le CJ (d5:Nat→Value) (h6:Hp),J2 Le CJ h6 →
 ae Tryz.prog ω 142 [c_p,s_p,Le,CJ,ck] h6 (fun r46 h47 =>
 ∃β48:Bool,
 (asS r46 fun s50=>cond (s50.toList==ByteArray.toList ⟨#[]⟩)
 (((.bool true):Value)=.bool β48∧h47=h47)
 (∃v51,af h47 (Addr.add ⟨h.size,0,none⟩ 0)=some v51 ∧
 asK .i64 v51 fun n52=>((.bool (n52==(5:Int))):Value)=.bool β48∧h47=h47)) ∧
 ∀d49:Nat→Value,
 cond β48
 (R r46 h47)
 (asS r46 fun s53=>0≤(1:Int)∧(1:Int)≤(s53.size:Int)∧(s53.size:Int)≤(s53.size:Int)∧R (.string (ByteArray.extract s53 (Int.toNat 1) (Int.toNat (s53.size:Int)))) h47)) X
def qq:Ann :=
 (.T .L (.T .L (.T (.T .L (.join [17,16,18,19,9,21,20,22,24,23,25,10,27,26,28,29,30,8] [9,10] (.one (.T .L (.join [18,19,9,21,20,22,24,23,25,10,27,26,28,29,30,8] [9,10] (.T .L (.T (.T .L (.join [22,20] [20] (.T .L .L))) (.join [24,23,25,10,27,26,28,29,30,9,8] [10,9] (.T .L (.T (.T .L (.join [25,23] [23] (.T .L .L))) (.join [10,27,26,28,29,30,9,8] [10,9] (.T .L (.T (.T .L (.join [28,26] [26] (.T .L .L))) (.T .L (.T .L .L))))))))))))))) (.T .L (.T (.T (.jb [37,38,39,40,41,42,43] 43 .L) (.T (.T .L .L) .L)) (.T .L .L))))))
theorem pK (ω:Amb)(c_p s_p rW ck:Value)(h:Hp)(R:RT)(X:XT)(hk:iH ω c_p s_p rW ck h R X):ae Tryz.prog ω 141 [c_p,s_p,rW,ck] h R X :=
 au (an:=qq) Tryz.func141 (by kernel_rfl) hk
def il (ω:Amb)(c_p s_p cg ia ck:Value)(h:Hp)(R:RT)(X:XT):Prop :=
 ae Tryz.prog ω 155 [s_p,cg] h (fun r0 h1 =>
 asT r0 fun T2=>asO T2[0]? fun v3=>asT r0 fun T4=>asO T4[1]? fun v5=>asB v5 fun b6=>cond (!b6)
 (ae Tryz.prog ω 70 [c_p,.int .i64 10,ck] h1 (fun r7 h8 =>
 R (.string ⟨#[]⟩) h8) X)
 (asS ia fun s9=>asS v3 fun s10=>0≤(((0:Nat):Int):Int)∧(((0:Nat):Int):Int)≤(s9.size:Int)∧(s9.size:Int)≤(s10.size:Int)∧asS ia fun s11=>cond (!(ByteArray.toList (ByteArray.extract s10 (Int.toNat ((0:Nat):Int)) (Int.toNat (s9.size:Int)))==s11.toList))
 (ae Tryz.prog ω 70 [c_p,.int .i64 11,ck] h1 (fun r12 h13 =>
 R (.string ⟨#[]⟩) h13) X)
 (R v3 h1))) X
def py:Ann :=
 (.T .L (.T .L (.T (.T .L (.T (.T .L (.T .L .L)) .L)) (.T (.T .L (.T (.T .L (.T .L .L)) .L)) (.T .L .L)))))
theorem pu (ω:Amb)(c_p s_p cg ia ck:Value)(h:Hp)(R:RT)(X:XT)(hk:il ω c_p s_p cg ia ck h R X):ae Tryz.prog ω 142 [c_p,s_p,cg,ia,ck] h R X :=
 au (an:=py) Tryz.func142 (by kernel_rfl) hk
abbrev b8 (h:Hp)(x_p:Value):Hp:=h.push (.cells (Value.cells x_p) 36 (0,0))
def eZ (ω:Amb)(c_p s_p x_p ck:Value)(h:Hp)(R:RT)(X:XT):Prop :=
 ∃v0,af (b8 h x_p) (Addr.add ⟨h.size,0,none⟩ 0)=some v0 ∧
 asK .i64 v0 fun n1=>∃J2:Hp→Prop,
 (cond (n1==(2:Int))
 (∃v5,af (b8 h x_p) (Addr.add ⟨h.size,0,none⟩ 1)=some v5 ∧
 ae Tryz.prog ω 142 [c_p,s_p,v5,(.string ⟨#[105]⟩),ck] (b8 h x_p) (fun r6 h7 =>
 J2 h7) X)
 (J2 (b8 h x_p))) ∧
 ∀(d3:Nat→Value) (h4:Hp),J2 h4 →
 ∃v8,af h4 (Addr.add ⟨h.size,0,none⟩ 3)=some v8 ∧
 bD v8 fun a9 l10 c11=>∃(I12:RT) (μ13:Value→Hp→Nat),I12 (.int .i64 0) h4∧∀A9 (d15:Nat→Value) (h16:Hp),I12 A9 h16 →
 asK .i64 A9 fun n17=>cond (decide (n17 < (l10:Int)))
 (aO v8 fun a18 l19 c20=>asI A9 fun n21=>0≤n21∧n21 < (l19:Int)∧∃C22,ak h16 (Addr.add a18 (n21.toNat*4)) 4 C22 ∧
 C22.toArray.size=4∧(∀u∈C22.toArray.toList,one u)∧az (h16.push (.cells #[.int .i64 0,.string ⟨#[]⟩,.int .i64 0,.slice none 0 0] 36 (0,0))) ⟨h16.size,0,none⟩ C22.toArray.toList fun h23 =>
 ∃C24,ak h23 ⟨h16.size,0,none⟩ 4 C24 ∧
 ae Tryz.prog ω 143 [c_p,s_p,.agg C24.toArray,ck] h23 (fun r25 h26 =>
 asK .i64 A9 fun n27=>I12 (.int .i64 (IntKind.wrap .i64 (n27+1))) h26∧μ13 (.int .i64 (IntKind.wrap .i64 (n27+1))) h26 < μ13 A9 h16) X)
 (R (.tuple #[]) h16)
def lP:Ann :=
 (.T .L (.T (.T .L (.join [13,14,15,16,17,18] [] (.T .L .L))) (.T .L (.one (.loop [23,24,25,9,26,27,28,29,30,31,22] [22] (.T .L (.T (.T .L .L) (.T (.one (.T .L .L)) .L))))))))
theorem lW (ω:Amb)(c_p s_p x_p ck:Value)(h:Hp)(R:RT)(X:XT)(hk:eZ ω c_p s_p x_p ck h R X):ae Tryz.prog ω 143 [c_p,s_p,x_p,ck] h R X :=
 au (an:=lP) Tryz.func143 (by kernel_rfl) hk
abbrev bp (h:Hp)(x_p:Value):Hp:=h.push (.cells (Value.cells x_p) 36 (0,0))
def fP (ω:Amb)(c_p s_p x_p t_p ck:Value)(h:Hp)(R:RT)(X:XT):Prop :=
 asS t_p fun s0=>cond (s0.toList==ByteArray.toList ⟨#[105]⟩)
 (∃C1,ak (bp h x_p) ⟨h.size,0,none⟩ 4 C1 ∧
 ae Tryz.prog ω 143 [c_p,s_p,.agg C1.toArray,ck] (bp h x_p) (fun r2 h3 =>
 R (.tuple #[]) h3) X)
 (∃v4,af (bp h x_p) (Addr.add ⟨h.size,0,none⟩ 0)=some v4 ∧
 asK .i64 v4 fun n5=>cond (n5 !=(2:Int))
 (ae Tryz.prog ω 70 [c_p,.int .i64 11,ck] (bp h x_p) (fun r6 h7 =>
 R (.tuple #[]) h7) X)
 (∃v8,af (bp h x_p) (Addr.add ⟨h.size,0,none⟩ 1)=some v8 ∧
 ae Tryz.prog ω 142 [c_p,s_p,v8,.string ⟨#[]⟩,ck] (bp h x_p) (fun r9 h10 =>
 asS r9 fun s11=>asS t_p fun s12=>∃J13:Hp→Prop,
 (cond (!(s11.toList==s12.toList))
 (ae Tryz.prog ω 70 [c_p,.int .i64 11,ck] h10 (fun r16 h17 =>
 J13 h17) X)
 (J13 h10)) ∧
 ∀(d14:Nat→Value) (h15:Hp),J13 h15 →
 R (.tuple #[]) h15) X))
def nl:Ann :=
 (.T .L (.T (.T .L (.T (.T .L .L) .L)) (.T (.T .L (.T (.T .L .L) .L)) (.T .L (.join [31,32,33] [] (.T .L .L))))))
theorem mE (ω:Amb)(c_p s_p x_p t_p ck:Value)(h:Hp)(R:RT)(X:XT)(hk:fP ω c_p s_p x_p t_p ck h R X):ae Tryz.prog ω 144 [c_p,s_p,x_p,t_p,ck] h R X :=
 au (an:=nl) Tryz.func144 (by kernel_rfl) hk
def fM (ω:Amb)(c_p s_p rW ck:Value)(h:Hp)(R:RT)(X:XT):Prop :=
 nnK c_p (asP c_p fun p0 =>
 ∃v1,af (h.push (.cells (Value.cells rW) 39 (0,0))) (Addr.add p0 0)=some v1 ∧
 ae Tryz.prog ω 156 [v1,(.func (.func 157) #[] #[(.pointer (some ⟨h.size,0,none⟩))])] (h.push (.cells (Value.cells rW) 39 (0,0))) (fun r2 h3 =>
 asK .i64 r2 fun n4=>cond (decide (n4 < 0))
 (ae Tryz.prog ω 70 [c_p,.int .i64 12,ck] h3 (fun r5 h6 =>
 R (.tuple #[]) h6) X)
 (nnK c_p (asP c_p fun p7 =>
 ∃v8,af h3 (Addr.add p7 0)=some v8 ∧
 aO v8 fun a9 l10 c11=>asI r2 fun n12=>0≤n12∧n12 < (l10:Int)∧∃v13,af h3 (Addr.add (Addr.add a9 (n12.toNat*4)) 2)=some v13 ∧
 bD v13 fun a14 l15 c16=>∃v17,af h3 (Addr.add ⟨h.size,0,none⟩ 6)=some v17 ∧
 bD v17 fun a18 l19 c20=>cond ((l15:Int) !=(l19:Int))
 (ae Tryz.prog ω 70 [c_p,.int .i64 15,ck] h3 (fun r21 h22 =>
 R (.tuple #[]) h22) X)
 (∃v23,af h3 (Addr.add ⟨h.size,0,none⟩ 6)=some v23 ∧
 bD v23 fun a24 l25 c26=>∃(I27:RT) (μ28:Value→Hp→Nat),I27 (.int .i64 0) h3∧∀wK (d30:Nat→Value) (h31:Hp),I27 wK h31 →
 asK .i64 wK fun n32=>cond (decide (n32 < (l25:Int)))
 (aO v23 fun a33 l34 c35=>asI wK fun n36=>0≤n36∧n36 < (l34:Int)∧∃C37,ak h31 (Addr.add a33 (n36.toNat*4)) 4 C37 ∧
 C37.toArray.size=4∧(∀u∈C37.toArray.toList,one u)∧az (h31.push (.cells #[.int .i64 0,.string ⟨#[]⟩,.int .i64 0,.slice none 0 0] 36 (0,0))) ⟨h31.size,0,none⟩ C37.toArray.toList fun h38 =>
 ∃C39,ak h38 ⟨h31.size,0,none⟩ 4 C39 ∧
 aO v13 fun a40 l41 c42=>asI wK fun n43=>0≤n43∧n43 < (l41:Int)∧∃v44,af h38 (Addr.add (Addr.add a40 (n43.toNat*2)) 1)=some v44 ∧
 ae Tryz.prog ω 144 [c_p,s_p,.agg C39.toArray,v44,ck] h38 (fun r45 h46 =>
 asK .i64 wK fun n47=>I27 (.int .i64 (IntKind.wrap .i64 (n47+1))) h46∧μ28 (.int .i64 (IntKind.wrap .i64 (n47+1))) h46 < μ28 wK h31) X)
 (R (.tuple #[]) h31))))) X)
def ng:Ann :=
 (.T .L (.T .L (.T (.T .L (.T (.T .L .L) .L)) (.T .L (.T (.T .L (.T (.T .L .L) .L)) (.T .L (.one (.loop [44,45,46,47,11,10,48,49,50,51,52,53,54,55,56,57,58,43] [43] (.T .L (.T (.T .L .L) (.T (.one (.T .L (.plan [0,1,2,3,4,5,6,7,8,9]))) .L)))))))))))
theorem mJ (ω:Amb)(c_p s_p rW ck:Value)(h:Hp)(R:RT)(X:XT)(hk:fM ω c_p s_p rW ck h R X):ae Tryz.prog ω 145 [c_p,s_p,rW,ck] h R X :=
 au (an:=ng) Tryz.func145 (by kernel_rfl) hk
def jh (ω:Amb)(s_p cg:Value)(h:Hp)(R:RT)(X:XT):Prop :=
 ∃(I0:RT) (μ1:Value→Hp→Nat),I0 s_p h∧∀s_2 (d3:Nat→Value) (h4:Hp),I0 s_2 h4 →
 MO s_2 fun q5=>cond (!(Option.isNone q5))
 (nnK s_2 (asP s_2 fun p6 =>
 ∃v7,af h4 (Addr.add p6 1)=some v7 ∧
 jF Tryz.prog 122 h4 v7 cg true fun w8 h9 =>
 asT w8 fun T10=>asO T10[0]? fun v11=>asT w8 fun T12=>asO T12[1]? fun v13=>asA v11 fun A14=>A14.size=2∧(∀u∈A14.toList,one u)∧az (h9.push (.cells #[.string ⟨#[]⟩,.string ⟨#[]⟩] 56 (0,0))) ⟨h9.size,0,none⟩ A14.toList fun h15 =>
 asB v13 fun b16=>cond b16
 (∃v17,af h15 (Addr.add ⟨h9.size,0,none⟩ 1)=some v17 ∧
 R (.tuple #[v17,.bool true]) h15)
 (nnK s_2 (asP s_2 fun p18 =>
 ∃v19,af h15 (Addr.add p18 0)=some v19 ∧
 I0 v19 h15∧μ1 v19 h15 < μ1 s_2 h4))))
 (R (.tuple #[.string ⟨#[]⟩,.bool false]) h4)
def rb:Ann :=
 (.T .L (.T (.one (.loop [8,9,15,16,17,18,19,20,14,21,22,6,7,23,24,25,4,5,10,11,12,13,0] [0] (.T (.T .L (.T .L .L)) (.T (.one (.T .L (.T .L (.T (.T .L .L) .L)))) .L)))) (.T .L .L)))
theorem qZ (ω:Amb)(s_p cg:Value)(h:Hp)(R:RT)(X:XT)(hk:jh ω s_p cg h R X):ae Tryz.prog ω 155 [s_p,cg] h R X :=
 au (an:=rb) Tryz.func155 (by kernel_rfl) hk
def cd (ω:Amb)(s_p f_p:Value)(h:Hp)(R:RT)(X:XT):Prop :=
 bD s_p fun a0 l1 c2=>∃(I3:RT) (μ4:Value→Hp→Nat),I3 (.int .i64 0) h∧∀tZ (d6:Nat→Value) (h7:Hp),I3 tZ h7 →
 asK .i64 tZ fun n8=>cond (decide (n8 < (l1:Int)))
 (aO s_p fun a9 l10 c11=>asI tZ fun n12=>0≤n12∧n12 < (l10:Int)∧∃C13,ak h7 (Addr.add a9 (n12.toNat*4)) 4 C13 ∧
 Hi Tryz.prog ω f_p [.agg C13.toArray] h7 (fun r14 h15 =>
 asB r14 fun b16=>cond b16
 (R tZ h15)
 (asK .i64 tZ fun n17=>I3 (.int .i64 (IntKind.wrap .i64 (n17+1))) h15∧μ4 (.int .i64 (IntKind.wrap .i64 (n17+1))) h15 < μ4 tZ h7)) X)
 (R (.int .i64 (-1)) h7)
def dL:Ann :=
 (.T .L (.T (.T .L (.one (.loop [9,10,5,11,12,13,14,15,16,17,4,18,8] [8] (.T .L (.T (.T .L .L) (.T (.one (.T .L (.T .L (.T (.T .L .L) .L)))) .L)))))) (.T .L .L)))
theorem dM (ω:Amb)(s_p f_p:Value)(h:Hp)(R:RT)(X:XT)(hk:cd ω s_p f_p h R X):ae Tryz.prog ω 156 [s_p,f_p] h R X :=
 au (an:=dL) Tryz.func156 (by kernel_rfl) hk
def ew (ω:Amb)(g_p MU:Value)(h:Hp)(R:RT)(X:XT):Prop :=
 ∃v0,af (h.push (.cells (Value.cells g_p) 41 (0,0))) (Addr.add ⟨h.size,0,none⟩ 0)=some v0 ∧
 asP MU fun p1 =>
 ∃v2,af (h.push (.cells (Value.cells g_p) 41 (0,0))) (Addr.add p1 2)=some v2 ∧
 asS v0 fun s3=>asS v2 fun s4=>R (.bool (s3.toList==s4.toList)) (h.push (.cells (Value.cells g_p) 41 (0,0)))
def lu:Ann :=
 (.T .L (.T .L .L))
theorem lq (ω:Amb)(g_p MU:Value)(h:Hp)(R:RT)(X:XT)(hk:ew ω g_p MU h R X):ae Tryz.prog ω 157 [g_p,MU] h R X :=
 au (an:=lu) Tryz.func157 (by kernel_rfl) hk
end Go.Proofs.YtkeeboomikkojaaGreatDoor.Sx
set_option linter.unusedVariables false
set_option maxRecDepth 100000
namespace Go.Proofs.YtkeeboomikkojaaGreatDoor.Sx
open Go Go.Sx Go.Proofs
def fj (ω:Amb)(a_p b_p:Value)(h:Hp)(R:RT)(X:XT):Prop :=
 bD a_p fun a0 l1 c2=>bD b_p fun a3 l4 c5=>cond ((l1:Int) !=(l4:Int))
 (R (.bool false) h)
 (∃(I6:RT) (μ7:Value→Hp→Nat),I6 (.int .i64 0) h∧∀i_8 (d9:Nat→Value) (h10:Hp),I6 i_8 h10 →
 bD a_p fun a11 l12 c13=>asK .i64 i_8 fun n14=>cond (decide (n14 < (l12:Int)))
 (aO a_p fun a15 l16 c17=>asI i_8 fun n18=>0≤n18∧n18 < (l16:Int)∧∃C19,ak h10 (Addr.add a15 (n18.toNat*2)) 2 C19 ∧
 aO b_p fun a20 l21 c22=>asI i_8 fun n23=>0≤n23∧n23 < (l21:Int)∧∃C24,ak h10 (Addr.add a20 (n23.toNat*2)) 2 C24 ∧
 asO C19.toArray[0]? fun v25=>asO C24.toArray[0]? fun v26=>asS v25 fun s27=>asS v26 fun s28=>asO C19.toArray[1]? fun v29=>asO C24.toArray[1]? fun v30=>asS v29 fun s31=>asS v30 fun s32=>cond (!((s27.toList==s28.toList)&&((s31.toList==s32.toList)&&true)))
 (R (.bool false) h10)
 (asK .i64 i_8 fun n33=>I6 (.int .i64 (IntKind.wrap .i64 (n33+1))) h10∧μ7 (.int .i64 (IntKind.wrap .i64 (n33+1))) h10 < μ7 i_8 h10))
 (R (.bool true) h10))
def mi:Ann :=
 (.T .L (.T (.T .L (.T (.T .L .L) .L)) (.T (.T .L (.one (.loop [11,12,13,14,17,18,19,20,21,22,23,24,25,4,15,16,5] [5] (.T (.T .L (.T .L .L)) (.T (.one (.T (.plan [0,1,2,3,4,5,6,7,8]) (.T (.T .L .L) .L))) .L))))) (.T .L .L))))
theorem lJ (ω:Amb)(a_p b_p:Value)(h:Hp)(R:RT)(X:XT)(hk:fj ω a_p b_p h R X):ae Tryz.prog ω 21 [a_p,b_p] h R X :=
 au (an:=mi) Tryz.func21 (by kernel_rfl) hk
def dt (ω:Amb)(c_p cg:Value)(h:Hp)(R:RT)(X:XT):Prop :=
 ∃(I0:RT) (μ1:Value→Hp→Nat),I0 (.int .i64 0) h∧∀i_2 (d3:Nat→Value) (h4:Hp),I0 i_2 h4 →
 nnK c_p (asP c_p fun p5 =>
 ∃v6,af h4 (Addr.add p5 1)=some v6 ∧
 asK .i64 i_2 fun n7=>asK .i64 v6 fun n8=>cond (decide (n7 < n8))
 (nnK c_p (asP c_p fun p9 =>
 ∃v10,af h4 (Addr.add (Addr.add p9 0) 0)=some v10 ∧
 aO v10 fun a11 l12 c13=>asI i_2 fun n14=>0≤n14∧n14 < (l12:Int)∧∃v15,af h4 (Addr.add (Addr.add a11 (n14.toNat*4)) 0)=some v15 ∧
 asS v15 fun s16=>asS cg fun s17=>cond (s16.toList==s17.toList)
 (R i_2 h4)
 (asK .i64 i_2 fun n18=>I0 (.int .i64 (IntKind.wrap .i64 (n18+1))) h4∧μ1 (.int .i64 (IntKind.wrap .i64 (n18+1))) h4 < μ1 i_2 h4)))
 (R (.int .i64 (-1)) h4))
def iA:Ann :=
 (.T .L (.T (.T .L (.one (.loop [6,7,8,9,10,11,14,15,16,17,18,19,20,21,22,23,24,25,4,12,13,5] [5] (.T (.T .L (.T .L .L)) (.T (.one (.T .L (.T (.T .L .L) .L))) .L))))) (.T .L .L)))
theorem iN (ω:Amb)(c_p cg:Value)(h:Hp)(R:RT)(X:XT)(hk:dt ω c_p cg h R X):ae Tryz.prog ω 39 [c_p,cg] h R X :=
 au (an:=iA) Tryz.func39 (by kernel_rfl) hk
def cT (ω:Amb)(c_p cg:Value)(h:Hp)(R:RT)(X:XT):Prop :=
 ∃(I0:RT) (μ1:Value→Hp→Nat),I0 (.int .i64 0) h∧∀i_2 (d3:Nat→Value) (h4:Hp),I0 i_2 h4 →
 nnK c_p (asP c_p fun p5 =>
 ∃v6,af h4 (Addr.add p5 3)=some v6 ∧
 bD v6 fun a7 l8 c9=>asK .i64 i_2 fun n10=>cond (decide (n10 < (l8:Int)))
 (nnK c_p (asP c_p fun p11 =>
 ∃v12,af h4 (Addr.add p11 3)=some v12 ∧
 aO v12 fun a13 l14 c15=>asI i_2 fun n16=>0≤n16∧n16 < (l14:Int)∧∃v17,af h4 (Addr.add (Addr.add a13 (n16.toNat*2)) 0)=some v17 ∧
 asS v17 fun s18=>asS cg fun s19=>cond (s18.toList==s19.toList)
 (R (.bool true) h4)
 (asK .i64 i_2 fun n20=>I0 (.int .i64 (IntKind.wrap .i64 (n20+1))) h4∧μ1 (.int .i64 (IntKind.wrap .i64 (n20+1))) h4 < μ1 i_2 h4)))
 (R (.bool false) h4))
def fX:Ann :=
 (.T .L (.T (.T .L (.one (.loop [6,7,8,9,10,11,12,15,16,17,18,19,20,21,22,23,24,4,13,14,5] [5] (.T (.T .L (.T .L .L)) (.T (.one (.T .L (.T (.T .L .L) .L))) .L))))) (.T .L .L)))
theorem fW (ω:Amb)(c_p cg:Value)(h:Hp)(R:RT)(X:XT)(hk:cT ω c_p cg h R X):ae Tryz.prog ω 40 [c_p,cg] h R X :=
 au (an:=fX) Tryz.func40 (by kernel_rfl) hk
def dD (ω:Amb)(c_p cg t_p:Value)(h:Hp)(R:RT)(X:XT):Prop :=
 nnK c_p (asP c_p fun p0 =>
 ∃v1,af h (Addr.add p0 2)=some v1 ∧
 cD cg (cD t_p (2=2∧vG Tryz.prog 55 (h.push (.cells (List.toArray [cg,t_p]) 56 (0,0))) v1 (.slice (some ⟨h.size,0,none⟩) 1 1) fun w2 h3 =>
 nnK c_p (asP c_p fun p4 =>
 cD w2 (aM h3 (Addr.add p4 2) w2 fun h5 =>
 nnK c_p (asP c_p fun p6 =>
 ∃v7,af h5 (Addr.add p6 3)=some v7 ∧
 cD cg (cD t_p (2=2∧vG Tryz.prog 55 (h5.push (.cells (List.toArray [cg,t_p]) 56 (0,0))) v7 (.slice (some ⟨h5.size,0,none⟩) 1 1) fun w8 h9 =>
 nnK c_p (asP c_p fun p10 =>
 cD w8 (aM h9 (Addr.add p10 3) w8 fun h11 =>
 R (.tuple #[]) h11))))))))))
def iR:Ann :=
 (.T .L .L)
theorem iV (ω:Amb)(c_p cg t_p:Value)(h:Hp)(R:RT)(X:XT)(hk:dD ω c_p cg t_p h R X):ae Tryz.prog ω 41 [c_p,cg,t_p] h R X :=
 au (an:=iR) Tryz.func41 (by kernel_rfl) hk
def bY (ω:Amb)(c_p l_p:Value)(h:Hp)(R:RT)(X:XT):Prop :=
 ∃(I0:RT) (μ1:Value→Hp→Nat),I0 (.int .i64 0) h∧∀i_2 (d3:Nat→Value) (h4:Hp),I0 i_2 h4 →
 ∃β5:Bool,
 (bD l_p fun a7 l8 c9=>asK .i64 i_2 fun n10=>cond (decide (n10 < (l8:Int)))
 (nnK c_p (asP c_p fun p11 =>
 ∃v12,af h4 (Addr.add (Addr.add p11 5) 0)=some v12 ∧
 asK .i64 v12 fun n13=>((.bool (n13==(0:Int))):Value)=.bool β5∧h4=h4))
 (((.bool false):Value)=.bool β5∧h4=h4)) ∧
 ∀d6:Nat→Value,
 cond β5
 (∃J14:Hp→Prop,
 (aO l_p fun a17 l18 c19=>asI i_2 fun n20=>0≤n20∧n20 < (l18:Int)∧∃C21,ak h4 (Addr.add a17 (n20.toNat*9)) 9 C21 ∧
 C21.toArray.size=9∧(∀u∈C21.toArray.toList,one u)∧az (h4.push (.cells #[.int .i64 0,.int .i64 0,.string ⟨#[]⟩,.string ⟨#[]⟩,.string ⟨#[]⟩,.int .i64 0,.slice none 0 0,.slice none 0 0,.slice none 0 0] 39 (0,0))) ⟨h4.size,0,none⟩ C21.toArray.toList fun h22 =>
 ∃C23,ak h22 ⟨h4.size,0,none⟩ 9 C23 ∧
 ae Tryz.prog ω 73 [c_p,.agg C23.toArray] h22 (fun r24 h25 =>
 nnK c_p (asP c_p fun p26 =>
 ∃v27,af h25 (Addr.add (Addr.add p26 5) 0)=some v27 ∧
 asK .i64 v27 fun n28=>cond (n28 !=(0:Int))
 (R (.tuple #[]) h25)
 (nnK c_p (asP c_p fun p29 =>
 ∃v30,af h25 (Addr.add p29 4)=some v30 ∧
 asK .i64 v30 fun n31=>nnK c_p (asP c_p fun p32 =>
 aM h25 (Addr.add p32 4) (.int .i64 (IntKind.wrap .i64 (n31+1))) fun h33 =>
 nnK c_p (asP c_p fun p34 =>
 ∃v35,af h33 (Addr.add p34 2)=some v35 ∧
 bD v35 fun a36 l37 c38=>∃v39,af h33 (Addr.add ⟨h4.size,0,none⟩ 0)=some v39 ∧
 ∃J40:Hp→Prop,
 (asK .i64 v39 fun n43=>∃J44:Hp→Prop,
 (cond (n43==(1:Int))
 (∃v47,af h33 (Addr.add ⟨h4.size,0,none⟩ 2)=some v47 ∧
 ae Tryz.prog ω 41 [c_p,v47,(.string ⟨#[105]⟩)] h33 (fun r48 h49 =>
 J44 h49) X)
 (asK .i64 v39 fun n50=>∃J51:Hp→Prop,
 (cond (n50==(4:Int))
 (∃v54,af h33 (Addr.add ⟨h4.size,0,none⟩ 2)=some v54 ∧
 ∃v55,af h33 (Addr.add ⟨h4.size,0,none⟩ 4)=some v55 ∧
 asS v55 fun s56=>ByteArray.size ⟨#[115]⟩+s56.size≤9223372036854775807∧ae Tryz.prog ω 41 [c_p,v54,(.string (⟨#[115]⟩++s56))] h33 (fun r57 h58 =>
 ∃v59,af h58 (Addr.add ⟨h4.size,0,none⟩ 3)=some v59 ∧
 ∃v60,af h58 (Addr.add ⟨h4.size,0,none⟩ 4)=some v60 ∧
 asS v60 fun s61=>ByteArray.size ⟨#[114]⟩+s61.size≤9223372036854775807∧ae Tryz.prog ω 41 [c_p,v59,(.string (⟨#[114]⟩++s61))] h58 (fun r62 h63 =>
 J51 h63) X) X)
 (asK .i64 v39 fun n64=>∃J65:Hp→Prop,
 (cond (n64==(5:Int))
 (∃v68,af h33 (Addr.add ⟨h4.size,0,none⟩ 2)=some v68 ∧
 ae Tryz.prog ω 41 [c_p,v68,r24] h33 (fun r69 h70 =>
 J65 h70) X)
 (asK .i64 v39 fun n71=>∃J72:RT,
 (cond (n71==(11:Int))
 (J72 (.bool (n71==(11:Int))) h33)
 (asK .i64 v39 fun n76=>J72 (.bool (n76==(12:Int))) h33)) ∧
 ∀JX (d74:Nat→Value) (h75:Hp),J72 JX h75 →
 ∃J77:Hp→Prop,
 (asB JX fun b80=>cond b80
 (∃v81,af h75 (Addr.add ⟨h4.size,0,none⟩ 2)=some v81 ∧
 asS r24 fun s82=>0≤(1:Int)∧(1:Int)≤(s82.size:Int)∧(s82.size:Int)≤(s82.size:Int)∧ae Tryz.prog ω 41 [c_p,v81,(.string (ByteArray.extract s82 (Int.toNat 1) (Int.toNat (s82.size:Int))))] h75 (fun r83 h84 =>
 ∃v85,af h84 (Addr.add ⟨h4.size,0,none⟩ 7)=some v85 ∧
 ae Tryz.prog ω 42 [c_p,v85] h84 (fun r86 h87 =>
 nnK c_p (asP c_p fun p88 =>
 ∃v89,af h87 (Addr.add p88 2)=some v89 ∧
 bD v89 fun a90 l91 c92=>0≤(((0:Nat):Int):Int)∧(((0:Nat):Int):Int)≤(l37:Int)∧(l37:Int)≤(c92:Int)∧nnK c_p (asP c_p fun p93 =>
 aM h87 (Addr.add p93 2) (.slice (if c92=Int.toNat ((0:Nat):Int) then a90 else Option.map (fun y=>Addr.add y (Int.toNat ((0:Nat):Int)*2)) a90) (Int.toNat (l37:Int) - Int.toNat ((0:Nat):Int)) (c92 - Int.toNat ((0:Nat):Int))) fun h94 =>
 ∃v95,af h94 (Addr.add ⟨h4.size,0,none⟩ 8)=some v95 ∧
 ae Tryz.prog ω 42 [c_p,v95] h94 (fun r96 h97 =>
 nnK c_p (asP c_p fun p98 =>
 ∃v99,af h97 (Addr.add p98 2)=some v99 ∧
 bD v99 fun a100 l101 c102=>0≤(((0:Nat):Int):Int)∧(((0:Nat):Int):Int)≤(l37:Int)∧(l37:Int)≤(c102:Int)∧nnK c_p (asP c_p fun p103 =>
 aM h97 (Addr.add p103 2) (.slice (if c102=Int.toNat ((0:Nat):Int) then a100 else Option.map (fun y=>Addr.add y (Int.toNat ((0:Nat):Int)*2)) a100) (Int.toNat (l37:Int) - Int.toNat ((0:Nat):Int)) (c102 - Int.toNat ((0:Nat):Int))) fun h104 =>
 J77 h104))) X))) X) X)
 (asK .i64 v39 fun n105=>∃J106:RT,
 (cond (n105==(13:Int))
 (J106 (.bool (n105==(13:Int))) h75)
 (asK .i64 v39 fun n110=>J106 (.bool (n110==(14:Int))) h75)) ∧
 ∀CB (d108:Nat→Value) (h109:Hp),J106 CB h109 →
 ∃J111:Hp→Prop,
 (asB CB fun b114=>cond b114
 (∃v115,af h109 (Addr.add ⟨h4.size,0,none⟩ 7)=some v115 ∧
 ae Tryz.prog ω 42 [c_p,v115] h109 (fun r116 h117 =>
 nnK c_p (asP c_p fun p118 =>
 ∃v119,af h117 (Addr.add p118 2)=some v119 ∧
 bD v119 fun a120 l121 c122=>0≤(((0:Nat):Int):Int)∧(((0:Nat):Int):Int)≤(l37:Int)∧(l37:Int)≤(c122:Int)∧nnK c_p (asP c_p fun p123 =>
 aM h117 (Addr.add p123 2) (.slice (if c122=Int.toNat ((0:Nat):Int) then a120 else Option.map (fun y=>Addr.add y (Int.toNat ((0:Nat):Int)*2)) a120) (Int.toNat (l37:Int) - Int.toNat ((0:Nat):Int)) (c122 - Int.toNat ((0:Nat):Int))) fun h124 =>
 ∃v125,af h124 (Addr.add ⟨h4.size,0,none⟩ 8)=some v125 ∧
 ae Tryz.prog ω 42 [c_p,v125] h124 (fun r126 h127 =>
 nnK c_p (asP c_p fun p128 =>
 ∃v129,af h127 (Addr.add p128 2)=some v129 ∧
 bD v129 fun a130 l131 c132=>0≤(((0:Nat):Int):Int)∧(((0:Nat):Int):Int)≤(l37:Int)∧(l37:Int)≤(c132:Int)∧nnK c_p (asP c_p fun p133 =>
 aM h127 (Addr.add p133 2) (.slice (if c132=Int.toNat ((0:Nat):Int) then a130 else Option.map (fun y=>Addr.add y (Int.toNat ((0:Nat):Int)*2)) a130) (Int.toNat (l37:Int) - Int.toNat ((0:Nat):Int)) (c132 - Int.toNat ((0:Nat):Int))) fun h134 =>
 J111 h134))) X))) X)
 (J111 h109)) ∧
 ∀(d112:Nat→Value) (h113:Hp),J111 h113 →
 J77 h113)) ∧
 ∀(d78:Nat→Value) (h79:Hp),J77 h79 →
 J65 h79)) ∧
 ∀(d66:Nat→Value) (h67:Hp),J65 h67 →
 J51 h67)) ∧
 ∀(d52:Nat→Value) (h53:Hp),J51 h53 →
 J44 h53)) ∧
 ∀(d45:Nat→Value) (h46:Hp),J44 h46 →
 J40 h46) ∧
 ∀(d41:Nat→Value) (h42:Hp),J40 h42 →
 J14 h42)))))) X) ∧
 ∀(d15:Nat→Value) (h16:Hp),J14 h16 →
 asK .i64 i_2 fun n135=>I0 (.int .i64 (IntKind.wrap .i64 (n135+1))) h16∧μ1 (.int .i64 (IntKind.wrap .i64 (n135+1))) h16 < μ1 i_2 h4)
 (R (.tuple #[]) h4)
def eR:Ann :=
 (.T .L (.one (.loop [8,9,10,11,12,13,14,15,16,17,18,19,22,23,24,25,5,26,27,28,6,29,30,31,32,33,34,35,36,37,38,39,40,41,42,43,44,45,46,7,47,48,50,49,51,52,53,54,56,55,57,58,59,60,61,62,63,64,65,66,67,68,69,70,72,71,73,74,75,76,77,79,78,80,81,82,83,84,85,86,87,88,89,90,91,92,93,94,95,96,97,98,99,100,101,102,103,104,105,106,107,108,109,110,111,112,114,113,115,116,117,118,119,120,121,122,123,124,125,126,127,128,129,130,131,132,133,134,135,136,137,138,139,140,141,20,21,4] [4] (.T (.T (.jb [8,9,10,11,12,13,14,15,16,17,18,19] 19 .L) (.T .L .L)) (.T (.join [22,23,24,25,5,26,27,28,6,29,30,31,32,33,34,35,36,37,38,39,40,41,42,43,44,45,46,7,47,48,50,49,51,52,53,54,56,55,57,58,59,60,61,62,63,64,65,66,67,68,69,70,72,71,73,74,75,76,77,79,78,80,81,82,83,84,85,86,87,88,89,90,91,92,93,94,95,96,97,98,99,100,101,102,103,104,105,106,107,108,109,110,111,112,114,113,115,116,117,118,119,120,121,122,123,124,125,126,127,128,129,130,131,132,133,134,135,136,137,138,139,140,141] [] (.one (.T .L (.T .L (.T (.T .L (.T .L .L)) (.T .L (.T .L (.T .L (.join [50,49,51,52,53,54,56,55,57,58,59,60,61,62,63,64,65,66,67,68,69,70,72,71,73,74,75,76,77,79,78,80,81,82,83,84,85,86,87,88,89,90,91,92,93,94,95,96,97,98,99,100,101,102,103,104,105,106,107,108,109,110,111,112,114,113,115,116,117,118,119,120,121,122,123,124,125,126,127,128,129,130,131,132,133,134,135,136,137,138,139,140,141] [] (.one (.T .L (.join [51,52,53,54,56,55,57,58,59,60,61,62,63,64,65,66,67,68,69,70,72,71,73,74,75,76,77,79,78,80,81,82,83,84,85,86,87,88,89,90,91,92,93,94,95,96,97,98,99,100,101,102,103,104,105,106,107,108,109,110,111,112,114,113,115,116,117,118,119,120,121,122,123,124,125,126,127,128,129,130,131,132,133,134,135,136,137,138,139,140,141] [] (.T .L (.T .L (.join [57,58,59,60,61,62,63,64,65,66,67,68,69,70,72,71,73,74,75,76,77,79,78,80,81,82,83,84,85,86,87,88,89,90,91,92,93,94,95,96,97,98,99,100,101,102,103,104,105,106,107,108,109,110,111,112,114,113,115,116,117,118,119,120,121,122,123,124,125,126,127,128,129,130,131,132,133,134,135,136,137,138,139,140,141] [] (.T (.T .L .L) (.T .L (.join [73,74,75,76,77,79,78,80,81,82,83,84,85,86,87,88,89,90,91,92,93,94,95,96,97,98,99,100,101,102,103,104,105,106,107,108,109,110,111,112,114,113,115,116,117,118,119,120,121,122,123,124,125,126,127,128,129,130,131,132,133,134,135,136,137,138,139,140,141] [] (.T .L (.T (.T .L (.join [80,78] [78] (.T .L .L))) (.join [81,82,83,84,85,86,87,88,89,90,91,92,93,94,95,96,97,98,99,100,101,102,103,104,105,106,107,108,109,110,111,112,114,113,115,116,117,118,119,120,121,122,123,124,125,126,127,128,129,130,131,132,133,134,135,136,137,138,139,140,141] [] (.T (.T (.plan [0,1,2,3,4,5]) (.T .L (.T .L (.T .L .L)))) (.T (.T .L (.join [115,113] [113] (.T .L .L))) (.join [116,117,118,119,120,121,122,123,124,125,126,127,128,129,130,131,132,133,134,135,136,137,138,139,140,141] [] (.T (.T .L (.T .L (.T .L .L))) .L))))))))))))))))))))))))) .L)))))
theorem cC (ω:Amb)(c_p l_p:Value)(h:Hp)(R:RT)(X:XT)(hk:bY ω c_p l_p h R X):ae Tryz.prog ω 42 [c_p,l_p] h R X :=
 au (an:=eR) Tryz.func42 (by kernel_rfl) hk
def cH (ω:Amb)(c_p s_p:Value)(h:Hp)(R:RT)(X:XT):Prop :=
 ∃J0:RT,
 (∃v4,af (h.push (.cells (Value.cells s_p) 39 (0,0))) (Addr.add ⟨h.size,0,none⟩ 0)=some v4 ∧
 ae Tryz.prog ω 97 [v4] (h.push (.cells (Value.cells s_p) 39 (0,0))) (fun r5 h6 =>
 asB r5 fun b7=>cond b7
 (∃v8,af h6 (Addr.add ⟨h.size,0,none⟩ 2)=some v8 ∧
 ae Tryz.prog ω 40 [c_p,v8] h6 (fun r9 h10 =>
 asB r9 fun b11=>cond b11
 (J0 (.bool true) h10)
 (∃v12,af h10 (Addr.add ⟨h.size,0,none⟩ 0)=some v12 ∧
 asK .i64 v12 fun n13=>cond (n13==(4:Int))
 (∃v14,af h10 (Addr.add ⟨h.size,0,none⟩ 3)=some v14 ∧
 ae Tryz.prog ω 40 [c_p,v14] h10 (fun r15 h16 =>
 asB r15 fun b17=>cond b17
 (J0 (.bool true) h16)
 (∃v18,af h16 (Addr.add ⟨h.size,0,none⟩ 2)=some v18 ∧
 ∃v19,af h16 (Addr.add ⟨h.size,0,none⟩ 3)=some v19 ∧
 asS v18 fun s20=>asS v19 fun s21=>J0 (.bool (s20.toList==s21.toList)) h16)) X)
 (J0 (.bool false) h10))) X)
 (J0 (.bool false) h6)) X) ∧
 ∀Nc (d2:Nat→Value) (h3:Hp),J0 Nc h3 →
 asB Nc fun b22=>cond b22
 (ae Tryz.prog ω 98 [c_p,.int .i64 9] h3 (fun r23 h24 =>
 R (.string ⟨#[]⟩) h24) X)
 (∃v25,af h3 (Addr.add ⟨h.size,0,none⟩ 0)=some v25 ∧
 ∃J26:RT,
 (asK .i64 v25 fun n30=>∃J31:RT,
 (cond (n30==(5:Int))
 (∃v35,af h3 (Addr.add ⟨h.size,0,none⟩ 3)=some v35 ∧
 ae Tryz.prog ω 99 [c_p,v35,(.string ⟨#[115]⟩)] h3 (fun r36 h37 =>
 J31 r36 h37) X)
 (asK .i64 v25 fun n38=>∃J39:RT,
 (cond (n38==(6:Int))
 (J39 (.bool (n38==(6:Int))) h3)
 (asK .i64 v25 fun n43=>J39 (.bool (n43==(7:Int))) h3)) ∧
 ∀y9 (d41:Nat→Value) (h42:Hp),J39 y9 h42 →
 ∃J44:RT,
 (asB y9 fun b48=>cond b48
 (∃v49,af h42 (Addr.add ⟨h.size,0,none⟩ 2)=some v49 ∧
 ae Tryz.prog ω 99 [c_p,v49,(.string ⟨#[115]⟩)] h42 (fun r50 h51 =>
 J44 r50 h51) X)
 (asK .i64 v25 fun n52=>∃J53:RT,
 (cond (n52==(8:Int))
 (J53 (.bool (n52==(8:Int))) h42)
 (asK .i64 v25 fun n57=>J53 (.bool (n57==(9:Int))) h42)) ∧
 ∀y2 (d55:Nat→Value) (h56:Hp),J53 y2 h56 →
 ∃J58:RT,
 (asB y2 fun b62=>cond b62
 (∃v63,af h56 (Addr.add ⟨h.size,0,none⟩ 2)=some v63 ∧
 ae Tryz.prog ω 99 [c_p,v63,(.string ⟨#[114]⟩)] h56 (fun r64 h65 =>
 J58 r64 h65) X)
 (asK .i64 v25 fun n66=>∃J67:RT,
 (cond (n66==(11:Int))
 (J67 (.bool (n66==(11:Int))) h56)
 (asK .i64 v25 fun n71=>J67 (.bool (n71==(12:Int))) h56)) ∧
 ∀zM (d69:Nat→Value) (h70:Hp),J67 zM h70 →
 ∃J72:RT,
 (asB zM fun b76=>cond b76
 (∃v77,af h70 (Addr.add ⟨h.size,0,none⟩ 3)=some v77 ∧
 ae Tryz.prog ω 99 [c_p,v77,(.string ⟨#[114]⟩)] h70 (fun r78 h79 =>
 J72 r78 h79) X)
 (asK .i64 v25 fun n80=>∃J81:Hp→Prop,
 (cond (n80==(2:Int))
 (∃v84,af h70 (Addr.add ⟨h.size,0,none⟩ 2)=some v84 ∧
 ae Tryz.prog ω 99 [c_p,v84,(.string ⟨#[105]⟩)] h70 (fun r85 h86 =>
 J81 h86) X)
 (J81 h70)) ∧
 ∀(d82:Nat→Value) (h83:Hp),J81 h83 →
 J72 (.string ⟨#[]⟩) h83)) ∧
 ∀E5 (d74:Nat→Value) (h75:Hp),J72 E5 h75 →
 J58 E5 h75)) ∧
 ∀G2 (d60:Nat→Value) (h61:Hp),J58 G2 h61 →
 J44 G2 h61)) ∧
 ∀Ht (d46:Nat→Value) (h47:Hp),J44 Ht h47 →
 J31 Ht h47)) ∧
 ∀Hx (d33:Nat→Value) (h34:Hp),J31 Hx h34 →
 J26 Hx h34) ∧
 ∀L3 (d28:Nat→Value) (h29:Hp),J26 L3 h29 →
 nnK c_p (asP c_p fun p87 =>
 ∃v88,af h29 (Addr.add (Addr.add p87 5) 0)=some v88 ∧
 asK .i64 v88 fun n89=>cond (n89 !=(0:Int))
 (R (.string ⟨#[]⟩) h29)
 (∃v90,af h29 (Addr.add ⟨h.size,0,none⟩ 0)=some v90 ∧
 ∃J91:Hp→Prop,
 (asK .i64 v90 fun n94=>∃J95:Hp→Prop,
 (cond (n94==(6:Int))
 (∃v98,af h29 (Addr.add ⟨h.size,0,none⟩ 6)=some v98 ∧
 aO v98 fun a99 l100 c101=>0≤(0:Int)∧0 < (l100:Int)∧∃C102,ak h29 (Addr.add a99 (Int.toNat 0*4)) 4 C102 ∧
 asS L3 fun s103=>0≤(1:Int)∧(1:Int)≤(s103.size:Int)∧(s103.size:Int)≤(s103.size:Int)∧ae Tryz.prog ω 100 [c_p,.agg C102.toArray,(.string (ByteArray.extract s103 (Int.toNat 1) (Int.toNat (s103.size:Int))))] h29 (fun r104 h105 =>
 J95 h105) X)
 (asK .i64 v90 fun n106=>∃J107:Hp→Prop,
 (cond (n106==(10:Int))
 (∃v110,af h29 (Addr.add ⟨h.size,0,none⟩ 2)=some v110 ∧
 ae Tryz.prog ω 39 [c_p,v110] h29 (fun r111 h112 =>
 asK .i64 r111 fun n113=>cond (decide (n113 < 0))
 (ae Tryz.prog ω 98 [c_p,.int .i64 12] h112 (fun r114 h115 =>
 R (.string ⟨#[]⟩) h115) X)
 (nnK c_p (asP c_p fun p116 =>
 ∃v117,af h112 (Addr.add (Addr.add p116 0) 0)=some v117 ∧
 aO v117 fun a118 l119 c120=>asI r111 fun n121=>0≤n121∧n121 < (l119:Int)∧∃v122,af h112 (Addr.add (Addr.add a118 (n121.toNat*4)) 2)=some v122 ∧
 bD v122 fun a123 l124 c125=>∃v126,af h112 (Addr.add ⟨h.size,0,none⟩ 6)=some v126 ∧
 bD v126 fun a127 l128 c129=>cond ((l124:Int) !=(l128:Int))
 (ae Tryz.prog ω 98 [c_p,.int .i64 15] h112 (fun r130 h131 =>
 R (.string ⟨#[]⟩) h131) X)
 (∃(I132:RT) (μ133:Value→Hp→Nat),I132 (.int .i64 0) h112∧∀Ds (d135:Nat→Value) (h136:Hp),I132 Ds h136 →
 bD v122 fun a137 l138 c139=>asK .i64 Ds fun n140=>cond (decide (n140 < (l138:Int)))
 (∃v141,af h136 (Addr.add ⟨h.size,0,none⟩ 6)=some v141 ∧
 aO v141 fun a142 l143 c144=>asI Ds fun n145=>0≤n145∧n145 < (l143:Int)∧∃C146,ak h136 (Addr.add a142 (n145.toNat*4)) 4 C146 ∧
 aO v122 fun a147 l148 c149=>asI Ds fun n150=>0≤n150∧n150 < (l148:Int)∧∃v151,af h136 (Addr.add (Addr.add a147 (n150.toNat*2)) 1)=some v151 ∧
 ae Tryz.prog ω 100 [c_p,.agg C146.toArray,v151] h136 (fun r152 h153 =>
 asK .i64 Ds fun n154=>I132 (.int .i64 (IntKind.wrap .i64 (n154+1))) h153∧μ133 (.int .i64 (IntKind.wrap .i64 (n154+1))) h153 < μ133 Ds h136) X)
 (J107 h136))))) X)
 (asK .i64 v90 fun n155=>∃J156:Hp→Prop,
 (cond (n155==(4:Int))
 (∃β159:Bool,
 (∃v161,af h29 (Addr.add ⟨h.size,0,none⟩ 5)=some v161 ∧
 asK .i64 v161 fun n162=>cond (decide (n162 < 1))
 (((.bool true):Value)=.bool β159∧h29=h29)
 (∃v163,af h29 (Addr.add ⟨h.size,0,none⟩ 5)=some v163 ∧
 asK .i64 v163 fun n164=>((.bool (decide (n164 > 5))):Value)=.bool β159∧h29=h29)) ∧
 ∀d160:Nat→Value,
 ∃J165:Hp→Prop,
 (cond β159
 (ae Tryz.prog ω 98 [c_p,.int .i64 14] h29 (fun r168 h169 =>
 J165 h169) X)
 (J165 h29)) ∧
 ∀(d166:Nat→Value) (h167:Hp),J165 h167 →
 ∃v170,af h167 (Addr.add ⟨h.size,0,none⟩ 4)=some v170 ∧
 asS v170 fun s171=>∃J172:Hp→Prop,
 (cond (decide (((IntKind.wrap .i64 ((s171.size:Int) - 1)):Int) > 2))
 (ae Tryz.prog ω 98 [c_p,.int .i64 11] h167 (fun r175 h176 =>
 J172 h176) X)
 (J172 h167)) ∧
 ∀(d173:Nat→Value) (h174:Hp),J172 h174 →
 J156 h174)
 (∃(I177:RT) (μ178:Value→Hp→Nat),I177 (.int .i64 0) h29∧∀Ev (d180:Nat→Value) (h181:Hp),I177 Ev h181 →
 ∃v182,af h181 (Addr.add ⟨h.size,0,none⟩ 6)=some v182 ∧
 bD v182 fun a183 l184 c185=>asK .i64 Ev fun n186=>cond (decide (n186 < (l184:Int)))
 (∃v187,af h181 (Addr.add ⟨h.size,0,none⟩ 6)=some v187 ∧
 aO v187 fun a188 l189 c190=>asI Ev fun n191=>0≤n191∧n191 < (l189:Int)∧∃C192,ak h181 (Addr.add a188 (n191.toNat*4)) 4 C192 ∧
 ae Tryz.prog ω 101 [c_p,.agg C192.toArray] h181 (fun r193 h194 =>
 asK .i64 Ev fun n195=>I177 (.int .i64 (IntKind.wrap .i64 (n195+1))) h194∧μ178 (.int .i64 (IntKind.wrap .i64 (n195+1))) h194 < μ178 Ev h181) X)
 (J156 h181))) ∧
 ∀(d157:Nat→Value) (h158:Hp),J156 h158 →
 J107 h158)) ∧
 ∀(d108:Nat→Value) (h109:Hp),J107 h109 →
 J95 h109)) ∧
 ∀(d96:Nat→Value) (h97:Hp),J95 h97 →
 J91 h97) ∧
 ∀(d92:Nat→Value) (h93:Hp),J91 h93 →
 R L3 h93)))
def fo:Ann :=
 (.T .L (.T (.T (.join [10,11,12,13,14,15,16,17,18,19,20,21,22,23,24,25,26,27,28,29,30,31,32,33,34,35,36] [36] .L) (.T (.T .L (.T .L .L)) .L)) (.T .L (.T (.T .L (.join [42,41,43,44,45,46,5,48,47,49,50,51,52,53,55,54,56,57,58,59,60,62,61,63,64,65,66,67,69,68,70,71,72,73] [5] (.one (.T .L (.join [43,44,45,46,5,48,47,49,50,51,52,53,55,54,56,57,58,59,60,62,61,63,64,65,66,67,69,68,70,71,72,73] [5] (.T .L (.T (.T .L (.join [49,47] [47] (.T .L .L))) (.join [50,51,52,53,5,55,54,56,57,58,59,60,62,61,63,64,65,66,67,69,68,70,71,72,73] [5] (.T .L (.T (.T .L (.join [56,54] [54] (.T .L .L))) (.join [57,58,59,60,5,62,61,63,64,65,66,67,69,68,70,71,72,73] [5] (.T .L (.T (.T .L (.join [63,61] [61] (.T .L .L))) (.join [64,65,66,67,5,69,68,70,71,72,73] [5] (.T .L (.T .L (.join [70,71,72,73] [] (.T .L .L)))))))))))))))))) (.T (.T .L (.T (.T .L .L) .L)) (.T (.T .L (.join [97,96,98,99,100,101,102,103,104,105,107,106,108,109,110,111,6,112,113,114,115,4,116,117,118,119,120,121,122,123,124,7,125,126,127,128,129,130,131,132,8,133,134,135,136,139,140,141,142,143,144,145,146,147,148,149,150,137,138,152,151,153,154,155,156,157,158,159,160,161,162,163,164,165,166,167,168,169,9,82,83,84,85,86,89,90,91,92,93,94,95,87,88] [] (.one (.T .L (.join [98,99,100,101,102,103,104,105,107,106,108,109,110,111,6,112,113,114,115,4,116,117,118,119,120,121,122,123,124,7,125,126,127,128,129,130,131,132,8,133,134,135,136,139,140,141,142,143,144,145,146,147,148,149,150,137,138,152,151,153,154,155,156,157,158,159,160,161,162,163,164,165,166,167,168,169,9,82,83,84,85,86,89,90,91,92,93,94,95,87,88] [] (.T (.plan [0,1,2,3,4,5,6,7]) (.T .L (.join [108,109,110,111,6,112,113,114,115,4,116,117,118,119,120,121,122,123,124,7,125,126,127,128,129,130,131,132,8,133,134,135,136,139,140,141,142,143,144,145,146,147,148,149,150,137,138,152,151,153,154,155,156,157,158,159,160,161,162,163,164,165,166,167,168,169,9,82,83,84,85,86,89,90,91,92,93,94,95,87,88] [] (.T (.T .L (.T (.T .L (.T (.T .L (.T .L .L)) .L)) (.T .L (.T (.T .L (.T (.T .L (.T .L .L)) .L)) (.T .L (.one (.loop [133,134,135,136,139,140,141,142,143,144,145,146,147,148,149,150,137,138,8] [8] (.T (.T .L (.T .L .L)) (.T (.one (.plan [0,1,2,3,4,5,6,7,8,9,10,11])) .L))))))))) (.T .L (.join [153,154,155,156,157,158,159,160,161,162,163,164,165,166,167,168,169,9,82,83,84,85,86,89,90,91,92,93,94,95,87,88] [] (.T (.T (.T (.jb [153,154,155,156,157,158,159,160] 160 .L) (.join [161,162] [] (.T .L .L))) (.T .L (.join [168,169] [] (.T .L .L)))) (.T .L (.one (.loop [82,83,84,85,86,89,90,91,92,93,94,95,87,88,9] [9] (.T (.T .L (.T .L .L)) (.T (.one .L) .L))))))))))))))))) (.T .L .L)))))))
theorem fk (ω:Amb)(c_p s_p:Value)(h:Hp)(R:RT)(X:XT)(hk:cH ω c_p s_p h R X):ae Tryz.prog ω 73 [c_p,s_p] h R X :=
 au (an:=fo) Tryz.func73 (by kernel_rfl) hk
def fw (ω:Amb)(qU:Value)(h:Hp)(R:RT)(X:XT):Prop :=
 ∃J0:RT,
 (asK .i64 qU fun n4=>cond (n4==(1:Int))
 (J0 (.bool true) h)
 (asK .i64 qU fun n5=>cond (n5==(4:Int))
 (J0 (.bool true) h)
 (asK .i64 qU fun n6=>cond (n6==(5:Int))
 (J0 (.bool true) h)
 (asK .i64 qU fun n7=>cond (n7==(11:Int))
 (J0 (.bool true) h)
 (asK .i64 qU fun n8=>J0 (.bool (n8==(12:Int))) h))))) ∧
 ∀Cg (d2:Nat→Value) (h3:Hp),J0 Cg h3 →
 R Cg h3
def mA:Ann :=
 (.T .L (.T (.join [3,4,5,6,7,8,9,10,11,12,13,14,15,16,17,18,19,20,2] [2] .L) .L))
theorem mS (ω:Amb)(qU:Value)(h:Hp)(R:RT)(X:XT)(hk:fw ω qU h R X):ae Tryz.prog ω 97 [qU] h R X :=
 au (an:=mA) Tryz.func97 (by kernel_rfl) hk
def dq (ω:Amb)(c_p cy:Value)(h:Hp)(R:RT)(X:XT):Prop :=
 nnK c_p (asP c_p fun p0 =>
 ∃v1,af h (Addr.add (Addr.add p0 5) 0)=some v1 ∧
 asK .i64 v1 fun n2=>∃J3:Hp→Prop,
 (cond (n2==(0:Int))
 (nnK c_p (asP c_p fun p6 =>
 ∃v7,af h (Addr.add p6 4)=some v7 ∧
 ae Tryz.prog ω 27 [cy,v7] h (fun r8 h9 =>
 nnK c_p (asP c_p fun p10 =>
 asA r8 fun A11=>A11.size=2∧(∀u∈A11.toList,one u)∧az h9 (Addr.add p10 5) A11.toList fun h12 =>
 J3 h12)) X))
 (J3 h)) ∧
 ∀(d4:Nat→Value) (h5:Hp),J3 h5 →
 R (.tuple #[]) h5)
def iK:Ann :=
 (.T .L (.join [10,11,12,13,14,15,16,17,18] [] (.T .L .L)))
theorem ik (ω:Amb)(c_p cy:Value)(h:Hp)(R:RT)(X:XT)(hk:dq ω c_p cy h R X):ae Tryz.prog ω 98 [c_p,cy] h R X :=
 au (an:=iK) Tryz.func98 (by kernel_rfl) hk
def dE (ω:Amb)(c_p cg ia:Value)(h:Hp)(R:RT)(X:XT):Prop :=
 ae Tryz.prog ω 123 [c_p,cg] h (fun r0 h1 =>
 asS r0 fun s2=>cond (s2.toList==ByteArray.toList ⟨#[]⟩)
 (ae Tryz.prog ω 98 [c_p,.int .i64 10] h1 (fun r3 h4 =>
 R (.string ⟨#[]⟩) h4) X)
 (asS r0 fun s5=>0≤(0:Int)∧(0:Int)≤1∧1≤(s5.size:Int)∧asS ia fun s6=>cond (!(ByteArray.toList (ByteArray.extract s5 (Int.toNat 0) (Int.toNat 1))==s6.toList))
 (ae Tryz.prog ω 98 [c_p,.int .i64 11] h1 (fun r7 h8 =>
 R (.string ⟨#[]⟩) h8) X)
 (R r0 h1))) X
def ja:Ann :=
 (.T .L (.T .L (.T (.T .L (.T (.T .L (.T .L .L)) .L)) (.T (.T .L (.T (.T .L (.T .L .L)) .L)) (.T .L .L)))))
theorem iZ (ω:Amb)(c_p cg ia:Value)(h:Hp)(R:RT)(X:XT)(hk:dE ω c_p cg ia h R X):ae Tryz.prog ω 99 [c_p,cg,ia] h R X :=
 au (an:=ja) Tryz.func99 (by kernel_rfl) hk
abbrev aY (h:Hp)(x_p:Value):Hp:=h.push (.cells (Value.cells x_p) 36 (0,0))
def dr (ω:Amb)(c_p x_p t_p:Value)(h:Hp)(R:RT)(X:XT):Prop :=
 asS t_p fun s0=>cond (s0.toList==ByteArray.toList ⟨#[105]⟩)
 (∃C1,ak (aY h x_p) ⟨h.size,0,none⟩ 4 C1 ∧
 ae Tryz.prog ω 101 [c_p,.agg C1.toArray] (aY h x_p) (fun r2 h3 =>
 R (.tuple #[]) h3) X)
 (∃J4:Hp→Prop,
 (∃v7,af (aY h x_p) (Addr.add ⟨h.size,0,none⟩ 0)=some v7 ∧
 asK .i64 v7 fun n8=>∃J9:Hp→Prop,
 (cond (n8 !=(2:Int))
 (ae Tryz.prog ω 98 [c_p,.int .i64 11] (aY h x_p) (fun r12 h13 =>
 J9 h13) X)
 (∃v14,af (aY h x_p) (Addr.add ⟨h.size,0,none⟩ 1)=some v14 ∧
 ae Tryz.prog ω 123 [c_p,v14] (aY h x_p) (fun r15 h16 =>
 asS r15 fun s17=>∃J18:Hp→Prop,
 (cond (s17.toList==ByteArray.toList ⟨#[]⟩)
 (ae Tryz.prog ω 98 [c_p,.int .i64 10] h16 (fun r21 h22 =>
 J18 h22) X)
 (∃v23,af h16 (Addr.add ⟨h.size,0,none⟩ 1)=some v23 ∧
 ae Tryz.prog ω 123 [c_p,v23] h16 (fun r24 h25 =>
 asS r24 fun s26=>asS t_p fun s27=>∃J28:Hp→Prop,
 (cond (!(s26.toList==s27.toList))
 (ae Tryz.prog ω 98 [c_p,.int .i64 11] h25 (fun r31 h32 =>
 J28 h32) X)
 (J28 h25)) ∧
 ∀(d29:Nat→Value) (h30:Hp),J28 h30 →
 J18 h30) X)) ∧
 ∀(d19:Nat→Value) (h20:Hp),J18 h20 →
 J9 h20) X)) ∧
 ∀(d10:Nat→Value) (h11:Hp),J9 h11 →
 J4 h11) ∧
 ∀(d5:Nat→Value) (h6:Hp),J4 h6 →
 R (.tuple #[]) h6)
def iC:Ann :=
 (.T .L (.T (.T .L (.T (.T .L .L) .L)) (.join [12,13,14,11,15,16,18,19,20,21,22,17,23,24,26,27,28,29,30,31,25,32,33] [] (.one (.T .L (.join [15,16,18,19,20,21,22,17,23,24,26,27,28,29,30,31,25,32,33] [] (.T .L (.T .L (.join [23,24,26,27,28,29,30,31,25,32,33] [] (.T .L (.T .L (.join [32,33] [] (.T .L .L)))))))))))))
theorem im (ω:Amb)(c_p x_p t_p:Value)(h:Hp)(R:RT)(X:XT)(hk:dr ω c_p x_p t_p h R X):ae Tryz.prog ω 100 [c_p,x_p,t_p] h R X :=
 au (an:=iC) Tryz.func100 (by kernel_rfl) hk
abbrev bl (h:Hp)(x_p:Value):Hp:=h.push (.cells (Value.cells x_p) 36 (0,0))
def dk (ω:Amb)(c_p x_p:Value)(h:Hp)(R:RT)(X:XT):Prop :=
 ∃v0,af (bl h x_p) (Addr.add ⟨h.size,0,none⟩ 0)=some v0 ∧
 asK .i64 v0 fun n1=>∃J2:Hp→Prop,
 (cond (n1==(2:Int))
 (∃v5,af (bl h x_p) (Addr.add ⟨h.size,0,none⟩ 1)=some v5 ∧
 ae Tryz.prog ω 99 [c_p,v5,(.string ⟨#[105]⟩)] (bl h x_p) (fun r6 h7 =>
 J2 h7) X)
 (J2 (bl h x_p))) ∧
 ∀(d3:Nat→Value) (h4:Hp),J2 h4 →
 ∃(I8:RT) (μ9:Value→Hp→Nat),I8 (.int .i64 0) h4∧∀AO (d11:Nat→Value) (h12:Hp),I8 AO h12 →
 ∃v13,af h12 (Addr.add ⟨h.size,0,none⟩ 3)=some v13 ∧
 bD v13 fun a14 l15 c16=>asK .i64 AO fun n17=>cond (decide (n17 < (l15:Int)))
 (∃v18,af h12 (Addr.add ⟨h.size,0,none⟩ 3)=some v18 ∧
 aO v18 fun a19 l20 c21=>asI AO fun n22=>0≤n22∧n22 < (l20:Int)∧∃C23,ak h12 (Addr.add a19 (n22.toNat*4)) 4 C23 ∧
 ae Tryz.prog ω 101 [c_p,.agg C23.toArray] h12 (fun r24 h25 =>
 asK .i64 AO fun n26=>I8 (.int .i64 (IntKind.wrap .i64 (n26+1))) h25∧μ9 (.int .i64 (IntKind.wrap .i64 (n26+1))) h25 < μ9 AO h12) X)
 (R (.tuple #[]) h12)
def gN:Ann :=
 (.T .L (.T (.T .L (.join [8,9,10,11] [] (.T .L .L))) (.T .L (.one (.loop [12,13,14,15,16,19,20,21,22,23,24,25,17,18,4] [4] (.T (.T .L (.T .L .L)) (.T (.one .L) .L)))))))
theorem gL (ω:Amb)(c_p x_p:Value)(h:Hp)(R:RT)(X:XT)(hk:dk ω c_p x_p h R X):ae Tryz.prog ω 101 [c_p,x_p] h R X :=
 au (an:=gN) Tryz.func101 (by kernel_rfl) hk
def dN (ω:Amb)(c_p cg:Value)(h:Hp)(R:RT)(X:XT):Prop :=
 ∃(I0:RT) (μ1:Value→Hp→Nat),I0 (.int .i64 0) h∧∀i_2 (d3:Nat→Value) (h4:Hp),I0 i_2 h4 →
 nnK c_p (asP c_p fun p5 =>
 ∃v6,af h4 (Addr.add p5 2)=some v6 ∧
 bD v6 fun a7 l8 c9=>asK .i64 i_2 fun n10=>cond (decide (n10 < (l8:Int)))
 (nnK c_p (asP c_p fun p11 =>
 ∃v12,af h4 (Addr.add p11 2)=some v12 ∧
 aO v12 fun a13 l14 c15=>asI i_2 fun n16=>0≤n16∧n16 < (l14:Int)∧∃v17,af h4 (Addr.add (Addr.add a13 (n16.toNat*2)) 0)=some v17 ∧
 asS v17 fun s18=>asS cg fun s19=>cond (s18.toList==s19.toList)
 (nnK c_p (asP c_p fun p20 =>
 ∃v21,af h4 (Addr.add p20 2)=some v21 ∧
 aO v21 fun a22 l23 c24=>asI i_2 fun n25=>0≤n25∧n25 < (l23:Int)∧∃v26,af h4 (Addr.add (Addr.add a22 (n25.toNat*2)) 1)=some v26 ∧
 R v26 h4))
 (asK .i64 i_2 fun n27=>I0 (.int .i64 (IntKind.wrap .i64 (n27+1))) h4∧μ1 (.int .i64 (IntKind.wrap .i64 (n27+1))) h4 < μ1 i_2 h4)))
 (R (.string ⟨#[]⟩) h4))
def jt:Ann :=
 (.T .L (.T (.T .L (.one (.loop [6,7,8,9,10,11,12,15,16,17,18,19,20,21,22,23,24,25,26,27,28,29,30,31,32,4,13,14,5] [5] (.T (.T .L (.T .L .L)) (.T (.one (.T .L (.T (.T .L .L) .L))) .L))))) (.T .L .L)))
theorem js (ω:Amb)(c_p cg:Value)(h:Hp)(R:RT)(X:XT)(hk:dN ω c_p cg h R X):ae Tryz.prog ω 123 [c_p,cg] h R X :=
 au (an:=jt) Tryz.func123 (by kernel_rfl) hk
end Go.Proofs.YtkeeboomikkojaaGreatDoor.Sx
set_option linter.unusedVariables false
set_option maxRecDepth 100000
namespace Go.Proofs.YtkeeboomikkojaaGreatDoor.Sx
open Go Go.Sx Go.Proofs
def dZ (ω:Amb)(p_p:Value)(h:Hp)(R:RT)(X:XT):Prop :=
 ae Tryz.prog ω 8 [] (h.push (.cells (Value.cells p_p) 24 (0,0))) (fun r0 h1 =>
 asB r0 fun b2=>cond (!b2)
 (R (.bool false) h1)
 (∃C3,ak h1 ⟨h.size,0,none⟩ 1 C3 ∧
 ae Tryz.prog ω 9 [.agg C3.toArray] h1 (fun r4 h5 =>
 asB r4 fun b6=>cond b6
 (R (.bool true) h5)
 (∃C7,ak h5 ⟨h.size,0,none⟩ 1 C7 ∧
 ae Tryz.prog ω 11 [.agg C7.toArray] h5 (fun r8 h9 =>
 asA r8 fun A10=>A10.size=1∧(∀u∈A10.toList,one u)∧az (h9.push (.cells #[.slice none 0 0] 24 (0,0))) ⟨h9.size,0,none⟩ A10.toList fun h11 =>
 ∃C12,ak h11 ⟨h9.size,0,none⟩ 1 C12 ∧
 ae Tryz.prog ω 18 [.agg C12.toArray] h11 (fun r13 h14 =>
 asT r13 fun T15=>asO T15[0]? fun v16=>asT r13 fun T17=>asO T17[1]? fun v18=>asA v18 fun A19=>A19.size=2∧(∀u∈A19.toList,one u)∧az (h14.push (.cells #[.int .i64 0,.int .i64 0] 28 (0,0))) ⟨h14.size,0,none⟩ A19.toList fun h20 =>
 ∃C21,ak h20 ⟨h.size,0,none⟩ 1 C21 ∧
 ae Tryz.prog ω 19 [.agg C21.toArray] h20 (fun r22 h23 =>
 asT r22 fun T24=>asO T24[0]? fun v25=>asT r22 fun T26=>asO T26[1]? fun v27=>asA v27 fun A28=>A28.size=2∧(∀u∈A28.toList,one u)∧az (h23.push (.cells #[.int .i64 0,.int .i64 0] 28 (0,0))) ⟨h23.size,0,none⟩ A28.toList fun h29 =>
 ∃J30:RT,
 (∃C34,ak h29 ⟨h14.size,0,none⟩ 2 C34 ∧
 ∃C35,ak h29 ⟨h23.size,0,none⟩ 2 C35 ∧
 asO C34.toArray[0]? fun v36=>asO C35.toArray[0]? fun v37=>asK .i64 v36 fun n38=>asK .i64 v37 fun n39=>asO C34.toArray[1]? fun v40=>asO C35.toArray[1]? fun v41=>asK .i64 v40 fun n42=>asK .i64 v41 fun n43=>cond (!((n38==n39)&&((n42==n43)&&true)))
 (J30 (.bool true) h29)
 (∃C44,ak h29 ⟨h9.size,0,none⟩ 1 C44 ∧
 ∃C45,ak h29 ⟨h23.size,0,none⟩ 2 C45 ∧
 ae Tryz.prog ω 10 [.agg C44.toArray] h29 (fun r46 h47 =>
 ak h47 ⟨h23.size,0,none⟩ 2 C45∧asA r46 fun A48=>asO A48[0]? fun v49=>asO C45.toArray[0]? fun v50=>asK .i64 v49 fun n51=>asK .i64 v50 fun n52=>asO A48[1]? fun v53=>asO C45.toArray[1]? fun v54=>asK .i64 v53 fun n55=>asK .i64 v54 fun n56=>cond (!((n51==n52)&&((n55==n56)&&true)))
 (J30 (.bool true) h47)
 (bD v16 fun a57 l58 c59=>bD v25 fun a60 l61 c62=>cond ((l58:Int) !=(l61:Int))
 (J30 (.bool true) h47)
 (∃C63,ak h47 ⟨h9.size,0,none⟩ 1 C63 ∧
 ∃C64,ak h47 ⟨h.size,0,none⟩ 1 C64 ∧
 ae Tryz.prog ω 20 [.agg C63.toArray,.agg C64.toArray,.bool true] h47 (fun r65 h66 =>
 asB r65 fun b67=>J30 (.bool (!b67)) h66) X))) X)) ∧
 ∀KU (d32:Nat→Value) (h33:Hp),J30 KU h33 →
 asB KU fun b68=>cond b68
 (R (.bool false) h33)
 (∃(I69:RT) (μ70:Value→Hp→Nat),I69 (.int .i64 0) h33∧∀MR (d72:Nat→Value) (h73:Hp),I69 MR h73 →
 bD v16 fun a74 l75 c76=>asK .i64 MR fun n77=>cond (decide (n77 < (l75:Int)))
 (aO v16 fun a78 l79 c80=>asI MR fun n81=>0≤n81∧n81 < (l79:Int)∧∃v82,af h73 (Addr.add a78 (n81.toNat*1))=some v82 ∧
 aO v25 fun a83 l84 c85=>asI MR fun n86=>0≤n86∧n86 < (l84:Int)∧∃v87,af h73 (Addr.add a83 (n86.toNat*1))=some v87 ∧
 ae Tryz.prog ω 21 [v82,v87] h73 (fun r88 h89 =>
 asB r88 fun b90=>cond (!b90)
 (R (.bool false) h89)
 (asK .i64 MR fun n91=>I69 (.int .i64 (IntKind.wrap .i64 (n91+1))) h89∧μ70 (.int .i64 (IntKind.wrap .i64 (n91+1))) h89 < μ70 MR h73)) X)
 (R (.bool true) h73))) X) X) X)) X)) X
def j7:Ann :=
 (.T .L (.T (.T .L (.T (.T .L .L) .L)) (.T (.T .L (.T (.T .L .L) .L)) (.T .L (.T .L (.T .L (.T (.T (.join [25,26,27,28,29,30,31,32,33,34,35,36,37,38,39,40,41,42,43,44,45,46] [46] (.plan [0,1,2,3,4,6,5,7,8,9,10,11,12,13,14,15,16,17,18,19,20,21])) (.T (.T .L .L) .L)) (.T (.T .L (.one (.loop [47,48,49,50,53,54,55,56,57,58,59,60,61,62,2,51,52,8] [8] (.T (.T .L (.T .L .L)) (.T (.one (.T (.plan [0,1,2,3,4,5,6,7,8,9]) (.T (.T .L .L) .L))) .L))))) (.T .L .L)))))))))
theorem j6 (ω:Amb)(p_p:Value)(h:Hp)(R:RT)(X:XT)(hk:dZ ω p_p h R X):ae Tryz.prog ω 6 [p_p] h R X :=
 au (an:=j7) Tryz.func6 (by kernel_rfl) hk
def ek (ω:Amb)(h:Hp)(R:RT)(X:XT):Prop :=
 ae Tryz.prog ω 14 [(.string ⟨#[115,116,97,103,101,32,109,97,105,110,40,105,110,32,114,101,99,118,32,105,110,116,41,32,123,32,116,97,107,101,32,120,32,102,114,111,109,32,105,110,32,123,32,125,32,101,109,105,116,32,120,59,32,125]⟩)] h (fun r0 h1 =>
 asT r0 fun T2=>asO T2[0]? fun v3=>asT r0 fun T4=>asO T4[1]? fun v5=>asA v3 fun A6=>A6.size=1∧(∀u∈A6.toList,one u)∧az (Array.push (h1.push (.cells #[.slice none 0 0] 24 (0,0))) (.cells #[.int .i64 0,.int .i64 0] 28 (0,0))) ⟨h1.size,0,none⟩ A6.toList fun h7 =>
 asA v5 fun A8=>A8.size=2∧(∀u∈A8.toList,one u)∧az h7 ⟨Array.size (h1.push (.cells #[.slice none 0 0] 24 (0,0))),0,none⟩ A8.toList fun h9 =>
 ∃J10:RT,
 (∃v14,af h9 (Addr.add ⟨Array.size (h1.push (.cells #[.slice none 0 0] 24 (0,0))),0,none⟩ 0)=some v14 ∧
 asK .i64 v14 fun n15=>cond (n15==(0:Int))
 (∃C16,ak h9 ⟨h1.size,0,none⟩ 1 C16 ∧
 ae Tryz.prog ω 10 [.agg C16.toArray] h9 (fun r17 h18 =>
 asA r17 fun A19=>asO A19[0]? fun v20=>asK .i64 v20 fun n21=>asO A19[1]? fun v22=>asK .i64 v22 fun n23=>J10 (.bool ((n21==(10:Int))&&((n23==(1:Int))&&true))) h18) X)
 (J10 (.bool false) h9)) ∧
 ∀N3 (d12:Nat→Value) (h13:Hp),J10 N3 h13 →
 R N3 h13) X
def ku:Ann :=
 (.T .L (.T .L (.T (.join [7,8,9,10,11,12,13,14,15,0] [0] .L) .L)))
theorem kl (ω:Amb)(h:Hp)(R:RT)(X:XT)(hk:ek ω  h R X):ae Tryz.prog ω 8 [] h R X :=
 au (an:=ku) Tryz.func8 (by kernel_rfl) hk
end Go.Proofs.YtkeeboomikkojaaGreatDoor.Sx
set_option linter.unusedVariables false
set_option maxRecDepth 100000
namespace Go.Proofs.YtkeeboomikkojaaGreatDoor.Sx
open Go Go.Sx Go.Proofs
abbrev aS (h17:Hp)(C29:List Value)(rP:Value)(og:Value):Hp:=h17.push (.cells (List.toArray (List.set (List.set (C29.toArray.toList++[.int .i64 0,.slice none 0 0,.slice none 0 0,.int .i64 0,.int .i64 0,.int .i64 0]) 1 rP) 4 og)) 83 (0,0))
abbrev aG (h:Hp)(p_p:Value):Hp:=h.push (.cells (Value.cells p_p) 24 (0,0))
abbrev cX:Obj:=.cells #[.int .i64 0,.int .i64 0] 28 (0,0)
def jd (ω:Amb)(p_p:Value)(h:Hp)(R:RT)(X:XT):Prop :=
 ∃C0,ak (Array.push (aG h p_p) (cX)) ⟨h.size,0,none⟩ 1 C0 ∧
 ae Tryz.prog ω 12 [.agg C0.toArray] (Array.push (aG h p_p) (cX)) (fun r1 h2 =>
 asA r1 fun A3=>A3.size=2∧(∀u∈A3.toList,one u)∧az (h2.push (cX)) ⟨h2.size,0,none⟩ A3.toList fun h4 =>
 ∃v5,af h4 (Addr.add ⟨h2.size,0,none⟩ 0)=some v5 ∧
 asK .i64 v5 fun n6=>cond (n6 !=(0:Int))
 (∃C7,ak h4 ⟨h2.size,0,none⟩ 2 C7 ∧
 C7.toArray.size=2∧(∀u∈C7.toArray.toList,one u)∧az h4 ⟨Array.size (aG h p_p),0,none⟩ C7.toArray.toList fun h8 =>
 ∃C9,ak h8 ⟨Array.size (aG h p_p),0,none⟩ 2 C9∧R (.tuple #[.slice none 0 0,.agg C9.toArray]) h8)
 (∃(I10:Value→Value→Value→RT) (μ11:Value→Value→Value→Value→Hp→Nat),I10 (.int .i64 0) (.slice none 0 0) (.bool false) (.int .i64 0) h4∧∀og B6 sO rP (d16:Nat→Value) (h17:Hp),I10 og B6 sO rP h17 →
 ∃v18,af h17 (Addr.add ⟨h.size,0,none⟩ 0)=some v18 ∧
 bD v18 fun a19 l20 c21=>asK .i64 rP fun n22=>cond (decide (n22 < (l20:Int)))
 (∃J23:Value→Value→RT,
 (∃C29,ak h17 ⟨h.size,0,none⟩ 1 C29 ∧
 C29.toArray.size=1∧cD rP (cD og (∃v30,af (aS h17 C29 rP og) (Addr.add ⟨h.size,0,none⟩ 0)=some v30 ∧
 aO v30 fun a31 l32 c33=>asI rP fun n34=>0≤n34∧n34 < (l32:Int)∧∃C35,ak (aS h17 C29 rP og) (Addr.add a31 (n34.toNat*4)) 4 C35 ∧
 C35.toArray.size=4∧(∀u∈C35.toArray.toList,one u)∧az (Array.push (aS h17 C29 rP og) (.cells #[.string ⟨#[]⟩,.int .i64 0,.slice none 0 0,.slice none 0 0] 41 (0,0))) ⟨Array.size (aS h17 C29 rP og),0,none⟩ C35.toArray.toList fun h36 =>
 ∃v37,af h36 (Addr.add ⟨Array.size (aS h17 C29 rP og),0,none⟩ 0)=some v37 ∧
 ae Tryz.prog ω 39 [(.pointer (some ⟨h17.size,0,none⟩)),v37] h36 (fun r38 h39 =>
 asK .i64 r38 fun n40=>cond (decide (n40≥0))
 (asK .i64 rP fun n41=>ae Tryz.prog ω 27 [.int .i64 9,(.int .i64 (IntKind.wrap .i64 ((-2) - n41)))] h39 (fun r42 h43 =>
 asA r42 fun A44=>A44.size=2∧(∀u∈A44.toList,one u)∧az h43 ⟨Array.size (aG h p_p),0,none⟩ A44.toList fun h45 =>
 ∃C46,ak h45 ⟨Array.size (aG h p_p),0,none⟩ 2 C46∧R (.tuple #[.slice none 0 0,.agg C46.toArray]) h45) X)
 (∃(I47:RT) (μ48:Value→Hp→Nat),I47 (.int .i64 0) h39∧∀MJ (d50:Nat→Value) (h51:Hp),I47 MJ h51 →
 ∃v52,af h51 (Addr.add ⟨Array.size (aS h17 C29 rP og),0,none⟩ 2)=some v52 ∧
 bD v52 fun a53 l54 c55=>asK .i64 MJ fun n56=>cond (decide (n56 < (l54:Int)))
 (∃v57,af h51 (Addr.add ⟨Array.size (aS h17 C29 rP og),0,none⟩ 2)=some v57 ∧
 aO v57 fun a58 l59 c60=>asI MJ fun n61=>0≤n61∧n61 < (l59:Int)∧∃v62,af h51 (Addr.add (Addr.add a58 (n61.toNat*2)) 0)=some v62 ∧
 ae Tryz.prog ω 40 [(.pointer (some ⟨h17.size,0,none⟩)),v62] h51 (fun r63 h64 =>
 asB r63 fun b65=>cond b65
 (asK .i64 rP fun n66=>ae Tryz.prog ω 27 [.int .i64 9,(.int .i64 (IntKind.wrap .i64 ((-2) - n66)))] h64 (fun r67 h68 =>
 asA r67 fun A69=>A69.size=2∧(∀u∈A69.toList,one u)∧az h68 ⟨Array.size (aG h p_p),0,none⟩ A69.toList fun h70 =>
 ∃C71,ak h70 ⟨Array.size (aG h p_p),0,none⟩ 2 C71∧R (.tuple #[.slice none 0 0,.agg C71.toArray]) h70) X)
 (∃v72,af h64 (Addr.add ⟨Array.size (aS h17 C29 rP og),0,none⟩ 2)=some v72 ∧
 aO v72 fun a73 l74 c75=>asI MJ fun n76=>0≤n76∧n76 < (l74:Int)∧∃v77,af h64 (Addr.add (Addr.add a73 (n76.toNat*2)) 0)=some v77 ∧
 ∃v78,af h64 (Addr.add ⟨Array.size (aS h17 C29 rP og),0,none⟩ 2)=some v78 ∧
 aO v78 fun a79 l80 c81=>asI MJ fun n82=>0≤n82∧n82 < (l80:Int)∧∃v83,af h64 (Addr.add (Addr.add a79 (n82.toNat*2)) 1)=some v83 ∧
 ae Tryz.prog ω 41 [(.pointer (some ⟨h17.size,0,none⟩)),v77,v83] h64 (fun r84 h85 =>
 asK .i64 MJ fun n86=>I47 (.int .i64 (IntKind.wrap .i64 (n86+1))) h85∧μ48 (.int .i64 (IntKind.wrap .i64 (n86+1))) h85 < μ48 MJ h51) X)) X)
 (∃v87,af h51 (Addr.add ⟨Array.size (aS h17 C29 rP og),0,none⟩ 3)=some v87 ∧
 ae Tryz.prog ω 42 [(.pointer (some ⟨h17.size,0,none⟩)),v87] h51 (fun r88 h89 =>
 ∃v90,af h89 (Addr.add (Addr.add ⟨h17.size,0,none⟩ 5) 0)=some v90 ∧
 asK .i64 v90 fun n91=>cond (n91 !=(0:Int))
 (∃C92,ak h89 (Addr.add ⟨h17.size,0,none⟩ 5) 2 C92 ∧
 C92.toArray.size=2∧(∀u∈C92.toArray.toList,one u)∧az h89 ⟨Array.size (aG h p_p),0,none⟩ C92.toArray.toList fun h93 =>
 ∃C94,ak h93 ⟨Array.size (aG h p_p),0,none⟩ 2 C94∧R (.tuple #[.slice none 0 0,.agg C94.toArray]) h93)
 (∃v95,af h89 (Addr.add ⟨h17.size,0,none⟩ 3)=some v95 ∧
 bD v95 fun a96 l97 c98=>cond (decide ((l97:Int) > 30))
 (asK .i64 rP fun n99=>ae Tryz.prog ω 27 [.int .i64 8,(.int .i64 (IntKind.wrap .i64 ((-2) - n99)))] h89 (fun r100 h101 =>
 asA r100 fun A102=>A102.size=2∧(∀u∈A102.toList,one u)∧az h101 ⟨Array.size (aG h p_p),0,none⟩ A102.toList fun h103 =>
 ∃C104,ak h103 ⟨Array.size (aG h p_p),0,none⟩ 2 C104∧R (.tuple #[.slice none 0 0,.agg C104.toArray]) h103) X)
 (∃v105,af h89 (Addr.add ⟨h17.size,0,none⟩ 4)=some v105 ∧
 ∃v106,af h89 (Addr.add ⟨h17.size,0,none⟩ 3)=some v106 ∧
 cD v106 (vG Tryz.prog 50 (h89.push (.cells (List.toArray [v106]) 55 (0,0))) B6 (.slice (some ⟨h89.size,0,none⟩) 1 1) fun w107 h108 =>
 ∃β109:Bool,
 (∃v111,af h108 (Addr.add ⟨Array.size (aS h17 C29 rP og),0,none⟩ 0)=some v111 ∧
 asS v111 fun s112=>cond (s112.toList==ByteArray.toList ⟨#[109,97,105,110]⟩)
 (∃v113,af h108 (Addr.add ⟨Array.size (aS h17 C29 rP og),0,none⟩ 2)=some v113 ∧
 bD v113 fun a114 l115 c116=>cond ((l115:Int)==(1:Int))
 (∃v117,af h108 (Addr.add ⟨Array.size (aS h17 C29 rP og),0,none⟩ 2)=some v117 ∧
 aO v117 fun a118 l119 c120=>0≤(0:Int)∧0 < (l119:Int)∧∃v121,af h108 (Addr.add (Addr.add a118 (Int.toNat 0*2)) 1)=some v121 ∧
 asS v121 fun s122=>((.bool (s122.toList==ByteArray.toList ⟨#[114,105]⟩)):Value)=.bool β109∧h108=h108)
 (((.bool false):Value)=.bool β109∧h108=h108))
 (((.bool false):Value)=.bool β109∧h108=h108)) ∧
 ∀d110:Nat→Value,
 ∃J123:RT,
 (cond β109
 (J123 (.bool true) h108)
 (J123 sO h108)) ∧
 ∀wD (d125:Nat→Value) (h126:Hp),J123 wD h126 →
 J23 v105 w107 wD h126)))) X))) X))) ∧
 ∀Mn tY uJ (d27:Nat→Value) (h28:Hp),J23 Mn tY uJ h28 →
 asK .i64 rP fun n127=>I10 Mn tY uJ (.int .i64 (IntKind.wrap .i64 (n127+1))) h28∧μ11 Mn tY uJ (.int .i64 (IntKind.wrap .i64 (n127+1))) h28 < μ11 og B6 sO rP h17)
 (asB sO fun b128=>cond (!b128)
 (ae Tryz.prog ω 27 [.int .i64 13,(.int .i64 (-1))] h17 (fun r129 h130 =>
 asA r129 fun A131=>A131.size=2∧(∀u∈A131.toList,one u)∧az h130 ⟨Array.size (aG h p_p),0,none⟩ A131.toList fun h132 =>
 ∃C133,ak h132 ⟨Array.size (aG h p_p),0,none⟩ 2 C133∧R (.tuple #[.slice none 0 0,.agg C133.toArray]) h132) X)
 (2=2∧(∀u∈[.int .i64 0,.int .i64 0],one u)∧az h17 ⟨Array.size (aG h p_p),0,none⟩ [.int .i64 0,.int .i64 0] fun h134 =>
 ∃C135,ak h134 ⟨Array.size (aG h p_p),0,none⟩ 2 C135∧R (.tuple #[B6,.agg C135.toArray]) h134)))) X
def qW:Ann :=
 (.T .L (.T .L (.T (.T .L (.T (.T (.plan [0,1,2]) .L) .L)) (.T .L (.T .L (.T (.T .L (.one (.loop [18,19,20,21,22,25,26,27,28,29,9,30,31,32,33,34,10,35,36,37,38,39,40,41,42,2,11,43,44,45,46,47,50,51,52,53,54,55,56,57,58,59,60,61,62,63,64,65,66,67,68,69,70,71,72,73,74,48,49,75,76,77,78,79,80,81,82,83,84,85,86,87,88,89,90,91,92,93,94,95,96,97,98,99,100,101,6,102,103,104,105,106,107,108,5,109,110,111,112,113,114,115,116,117,118,119,120,121,122,123,124,125,7,23,24,8] [6,5,7,8] (.T (.T .L (.T .L .L)) (.T (.join [25,26,27,28,29,9,30,31,32,33,34,10,35,36,37,38,39,40,41,42,2,11,43,44,45,46,47,50,51,52,53,54,55,56,57,58,59,60,61,62,63,64,65,66,67,68,69,70,71,72,73,74,48,49,75,76,77,78,79,80,81,82,83,84,85,86,87,88,89,90,91,92,93,94,95,96,97,98,99,100,101,6,102,103,104,105,106,107,108,5,109,110,111,112,113,114,115,116,117,118,119,120,121,122,123,124,125,7] [6,5,7] (.one (.T .L (.T .L (.T (.T .L (.T (.T .L .L) .L)) (.T (.T .L (.one (.loop [43,44,45,46,47,50,51,52,53,54,55,56,57,58,59,60,2,61,62,63,64,65,66,67,68,69,70,71,72,73,74,48,49,11] [11] (.T (.T .L (.T .L .L)) (.T (.one (.T (.T .L (.T (.T .L .L) .L)) (.plan [0,1,2,3,4,5,6,7,8,9,10,11,12,13]))) .L))))) (.T .L (.T (.T .L (.T (.T (.plan [0,1,2,3,4,5]) .L) .L)) (.T (.T .L (.T (.T .L .L) .L)) (.T .L (.T .L (.T (.jb [109,110,111,112,113,114,115,116,117,118,119,120,121,122,123,124,125] 125 .L) (.join [7] [7] (.T .L .L)))))))))))))) .L))))) (.T (.T .L (.T (.T .L .L) .L)) (.T .L .L))))))))
theorem ri (ω:Amb)(p_p:Value)(h:Hp)(R:RT)(X:XT)(hk:jd ω p_p h R X):ae Tryz.prog ω 19 [p_p] h R X :=
 au (an:=qW) Tryz.func19 (by kernel_rfl) hk
end Go.Proofs.YtkeeboomikkojaaGreatDoor.Sx
set_option linter.unusedVariables false
set_option maxRecDepth 100000
namespace Go.Proofs.YtkeeboomikkojaaGreatDoor.Sx
open Go Go.Sx Go.Proofs
abbrev gP:Nat:=27
def lU (ω:Amb)(cy ck:Value)(h:Hp)(R:RT)(X:XT):Prop :=
 cD cy (cD ck (2=2∧(∀u∈[cy,ck],one u)∧az (h.push (.cells #[.int .i64 0,.int .i64 0] 28 (0,0))) ⟨h.size,0,none⟩ [cy,ck] fun h0 =>
 ∃C1,ak h0 ⟨h.size,0,none⟩ 2 C1∧R (.agg C1.toArray) h0))
def tB:Ann :=
 (.T .L (.T .L .L))
theorem tK (ω:Amb)(cy ck:Value)(h:Hp)(R:RT)(X:XT)(hk:lU ω cy ck h R X):ae Tryz.prog ω 27 [cy,ck] h R X :=
 au (an:=tB) Tryz.func27 (by kernel_rfl) hk
end Go.Proofs.YtkeeboomikkojaaGreatDoor.Sx
set_option linter.unusedVariables false
set_option maxRecDepth 100000
namespace Go.Proofs.YtkeeboomikkojaaGreatDoor.Sx
open Go Go.Sx Go.Proofs
abbrev j3:Nat:=11
abbrev bJ (h:Hp)(p_p:Value):Hp:=Array.push (h.push (.cells (Value.cells p_p) 24 (0,0))) (.cells #[.slice none 0 0] 24 (0,0))
def dW (ω:Amb)(p_p:Value)(h:Hp)(R:RT)(X:XT):Prop :=
 ∃(I0:RT) (μ1:Value→Hp→Nat),I0 (.int .i64 0) (Array.push (bJ h p_p) (.cells #[.slice none 0 0] 24 (0,0)))∧∀i_2 (d3:Nat→Value) (h4:Hp),I0 i_2 h4 →
 ∃v5,af h4 (Addr.add ⟨h.size,0,none⟩ 0)=some v5 ∧
 bD v5 fun a6 l7 c8=>asK .i64 i_2 fun n9=>cond (decide (n9 < (l7:Int)))
 (∃v10,af h4 (Addr.add ⟨h.size,0,none⟩ 0)=some v10 ∧
 aO v10 fun a11 l12 c13=>asI i_2 fun n14=>0≤n14∧n14 < (l12:Int)∧∃C15,ak h4 (Addr.add a11 (n14.toNat*4)) 4 C15 ∧
 C15.toArray.size=4∧(∀u∈C15.toArray.toList,one u)∧az (h4.push (.cells #[.string ⟨#[]⟩,.int .i64 0,.slice none 0 0,.slice none 0 0] 41 (0,0))) ⟨h4.size,0,none⟩ C15.toArray.toList fun h16 =>
 ∃v17,af h16 (Addr.add ⟨h4.size,0,none⟩ 2)=some v17 ∧
 vG Tryz.prog 33 h16 (.slice none 0 0) v17 fun w18 h19 =>
 cD w18 (aM h19 (Addr.add ⟨h4.size,0,none⟩ 2) w18 fun h20 =>
 ∃v21,af h20 (Addr.add ⟨h4.size,0,none⟩ 3)=some v21 ∧
 ae Tryz.prog ω 24 [v21] h20 (fun r22 h23 =>
 cD r22 (aM h23 (Addr.add ⟨h4.size,0,none⟩ 3) r22 fun h24 =>
 ∃v25,af h24 (Addr.add ⟨Array.size (bJ h p_p),0,none⟩ 0)=some v25 ∧
 ∃C26,ak h24 ⟨h4.size,0,none⟩ 4 C26 ∧
 C26.toArray.size=4∧vG Tryz.prog 22 (h24.push (.cells (List.toArray (C26.toArray.toList++[])) 41 (0,0))) v25 (.slice (some ⟨h24.size,0,none⟩) 1 1) fun w27 h28 =>
 cD w27 (aM h28 (Addr.add ⟨Array.size (bJ h p_p),0,none⟩ 0) w27 fun h29 =>
 asK .i64 i_2 fun n30=>I0 (.int .i64 (IntKind.wrap .i64 (n30+1))) h29∧μ1 (.int .i64 (IntKind.wrap .i64 (n30+1))) h29 < μ1 i_2 h4))) X))
 (∃C31,ak h4 ⟨Array.size (bJ h p_p),0,none⟩ 1 C31 ∧
 C31.toArray.size=1∧(∀u∈C31.toArray.toList,one u)∧az h4 ⟨Array.size (h.push (.cells (Value.cells p_p) 24 (0,0))),0,none⟩ C31.toArray.toList fun h32 =>
 ∃C33,ak h32 ⟨Array.size (h.push (.cells (Value.cells p_p) 24 (0,0))),0,none⟩ 1 C33∧R (.agg C33.toArray) h32)
def jL:Ann :=
 (.T .L (.T .L (.T (.T .L (.one (.loop [7,8,9,10,11,14,15,16,17,18,5,6,19,20,21,22,23,24,25,26,27,28,29,30,31,32,33,12,13,4] [4] (.T (.T .L (.T .L .L)) (.T (.one (.T .L (.T .L (.T .L (.T .L .L))))) .L))))) (.T .L .L))))
theorem jZ (ω:Amb)(p_p:Value)(h:Hp)(R:RT)(X:XT)(hk:dW ω p_p h R X):ae Tryz.prog ω 11 [p_p] h R X :=
 au (an:=jL) Tryz.func11 (by kernel_rfl) hk
abbrev j2:Nat:=12
abbrev bb (h:Hp)(p_p:Value):Hp:=h.push (.cells (Value.cells p_p) 24 (0,0))
abbrev cb:Obj:=.cells #[.int .i64 0,.int .i64 0] 28 (0,0)
def dR (ω:Amb)(p_p:Value)(h:Hp)(R:RT)(X:XT):Prop :=
 ∃C0,ak (Array.push (bb h p_p) (cb)) ⟨h.size,0,none⟩ 1 C0 ∧
 ae Tryz.prog ω 25 [.agg C0.toArray] (Array.push (bb h p_p) (cb)) (fun r1 h2 =>
 asA r1 fun A3=>A3.size=2∧(∀u∈A3.toList,one u)∧az (h2.push (cb)) ⟨h2.size,0,none⟩ A3.toList fun h4 =>
 ∃J5:RT,
 (∃v9,af h4 (Addr.add ⟨h2.size,0,none⟩ 0)=some v9 ∧
 asK .i64 v9 fun n10=>cond (n10==(0:Int))
 (∃C11,ak h4 ⟨h.size,0,none⟩ 1 C11 ∧
 ae Tryz.prog ω 26 [.agg C11.toArray] h4 (fun r12 h13 =>
 asS r12 fun s14=>J5 (.bool (decide (((s14.size:Int):Int) > 12000))) h13) X)
 (J5 (.bool false) h4)) ∧
 ∀uF (d7:Nat→Value) (h8:Hp),J5 uF h8 →
 asB uF fun b15=>cond b15
 (ae Tryz.prog ω 27 [.int .i64 1,(.int .i64 (-1))] h8 (fun r16 h17 =>
 asA r16 fun A18=>A18.size=2∧(∀u∈A18.toList,one u)∧az h17 ⟨Array.size (bb h p_p),0,none⟩ A18.toList fun h19 =>
 ∃C20,ak h19 ⟨Array.size (bb h p_p),0,none⟩ 2 C20∧R (.agg C20.toArray) h19) X)
 (∃C21,ak h8 ⟨h2.size,0,none⟩ 2 C21 ∧
 C21.toArray.size=2∧(∀u∈C21.toArray.toList,one u)∧az h8 ⟨Array.size (bb h p_p),0,none⟩ C21.toArray.toList fun h22 =>
 ∃C23,ak h22 ⟨Array.size (bb h p_p),0,none⟩ 2 C23∧R (.agg C23.toArray) h22)) X
def jT:Ann :=
 (.T .L (.T .L (.T (.T (.join [6,7,8,9,10,11,12,13,14] [14] .L) (.T (.T .L .L) .L)) (.T .L .L))))
theorem jK (ω:Amb)(p_p:Value)(h:Hp)(R:RT)(X:XT)(hk:dR ω p_p h R X):ae Tryz.prog ω 12 [p_p] h R X :=
 au (an:=jT) Tryz.func12 (by kernel_rfl) hk
abbrev jC:Nat:=20
abbrev al:Obj:=.cells #[.string ⟨#[]⟩,.int .i64 0,.slice none 0 0,.slice none 0 0] 41 (0,0)
abbrev aQ (h:Hp)(a_p:Value):Hp:=h.push (.cells (Value.cells a_p) 24 (0,0))
abbrev aK (h12:Hp):Hp:=Array.push (h12.push (al)) (al)
abbrev bI (h:Hp)(a_p:Value)(b_p:Value):Hp:=Array.push (aQ h a_p) (.cells (Value.cells b_p) 24 (0,0))
def dU (ω:Amb)(a_p b_p bO:Value)(h:Hp)(R:RT)(X:XT):Prop :=
 ∃v0,af (bI h a_p b_p) (Addr.add ⟨h.size,0,none⟩ 0)=some v0 ∧
 bD v0 fun a1 l2 c3=>∃v4,af (bI h a_p b_p) (Addr.add ⟨Array.size (aQ h a_p),0,none⟩ 0)=some v4 ∧
 bD v4 fun a5 l6 c7=>cond ((l2:Int) !=(l6:Int))
 (R (.bool false) (bI h a_p b_p))
 (∃(I8:RT) (μ9:Value→Hp→Nat),I8 (.int .i64 0) (bI h a_p b_p)∧∀AO (d11:Nat→Value) (h12:Hp),I8 AO h12 →
 ∃v13,af h12 (Addr.add ⟨h.size,0,none⟩ 0)=some v13 ∧
 bD v13 fun a14 l15 c16=>asK .i64 AO fun n17=>cond (decide (n17 < (l15:Int)))
 (∃v18,af h12 (Addr.add ⟨h.size,0,none⟩ 0)=some v18 ∧
 aO v18 fun a19 l20 c21=>asI AO fun n22=>0≤n22∧n22 < (l20:Int)∧∃C23,ak h12 (Addr.add a19 (n22.toNat*4)) 4 C23 ∧
 ∃v24,af h12 (Addr.add ⟨Array.size (aQ h a_p),0,none⟩ 0)=some v24 ∧
 aO v24 fun a25 l26 c27=>asI AO fun n28=>0≤n28∧n28 < (l26:Int)∧∃C29,ak h12 (Addr.add a25 (n28.toNat*4)) 4 C29 ∧
 (ak (h12.push (al)) (Addr.add a25 (n28.toNat*4)) 4 C29∧af (h12.push (al)) (Addr.add ⟨Array.size (aQ h a_p),0,none⟩ 0)=some v24∧ak (h12.push (al)) (Addr.add a19 (n22.toNat*4)) 4 C23∧af (h12.push (al)) (Addr.add ⟨h.size,0,none⟩ 0)=some v18∧ak (aK h12) (Addr.add a25 (n28.toNat*4)) 4 C29∧af (aK h12) (Addr.add ⟨Array.size (aQ h a_p),0,none⟩ 0)=some v24∧ak (aK h12) (Addr.add a19 (n22.toNat*4)) 4 C23∧af (aK h12) (Addr.add ⟨h.size,0,none⟩ 0)=some v18∧C23.toArray.size=4∧(∀u∈C23.toArray.toList,one u)∧az (aK h12) ⟨h12.size,0,none⟩ C23.toArray.toList fun h30 =>
 ak h30 (Addr.add a25 (n28.toNat*4)) 4 C29∧af h30 (Addr.add ⟨Array.size (aQ h a_p),0,none⟩ 0)=some v24∧C29.toArray.size=4∧(∀u∈C29.toArray.toList,one u)∧az h30 ⟨Array.size (h12.push (al)),0,none⟩ C29.toArray.toList fun h31 =>
 ∃J32:RT,
 (∃v36,af h31 (Addr.add ⟨h12.size,0,none⟩ 0)=some v36 ∧
 ∃v37,af h31 (Addr.add ⟨Array.size (h12.push (al)),0,none⟩ 0)=some v37 ∧
 asS v36 fun s38=>asS v37 fun s39=>cond (!(s38.toList==s39.toList))
 (J32 (.bool true) h31)
 (asB bO fun b40=>cond b40
 (∃v41,af h31 (Addr.add ⟨h12.size,0,none⟩ 1)=some v41 ∧
 ∃v42,af h31 (Addr.add ⟨Array.size (h12.push (al)),0,none⟩ 1)=some v42 ∧
 asK .i64 v41 fun n43=>asK .i64 v42 fun n44=>cond (n43 !=n44)
 (J32 (.bool true) h31)
 (∃v45,af h31 (Addr.add ⟨h12.size,0,none⟩ 2)=some v45 ∧
 bD v45 fun a46 l47 c48=>∃v49,af h31 (Addr.add ⟨Array.size (h12.push (al)),0,none⟩ 2)=some v49 ∧
 bD v49 fun a50 l51 c52=>cond ((l47:Int) !=(l51:Int))
 (J32 (.bool true) h31)
 (∃v53,af h31 (Addr.add ⟨h12.size,0,none⟩ 3)=some v53 ∧
 ∃v54,af h31 (Addr.add ⟨Array.size (h12.push (al)),0,none⟩ 3)=some v54 ∧
 ae Tryz.prog ω 43 [v53,v54,bO] h31 (fun r55 h56 =>
 asB r55 fun b57=>J32 (.bool (!b57)) h56) X)))
 (∃v58,af h31 (Addr.add ⟨h12.size,0,none⟩ 2)=some v58 ∧
 bD v58 fun a59 l60 c61=>∃v62,af h31 (Addr.add ⟨Array.size (h12.push (al)),0,none⟩ 2)=some v62 ∧
 bD v62 fun a63 l64 c65=>cond ((l60:Int) !=(l64:Int))
 (J32 (.bool true) h31)
 (∃v66,af h31 (Addr.add ⟨h12.size,0,none⟩ 3)=some v66 ∧
 ∃v67,af h31 (Addr.add ⟨Array.size (h12.push (al)),0,none⟩ 3)=some v67 ∧
 ae Tryz.prog ω 43 [v66,v67,bO] h31 (fun r68 h69 =>
 asB r68 fun b70=>J32 (.bool (!b70)) h69) X)))) ∧
 ∀zm (d34:Nat→Value) (h35:Hp),J32 zm h35 →
 asB zm fun b71=>cond b71
 (R (.bool false) h35)
 (∃(I72:RT) (μ73:Value→Hp→Nat),I72 (.int .i64 0) h35∧∀D2 (d75:Nat→Value) (h76:Hp),I72 D2 h76 →
 ∃v77,af h76 (Addr.add ⟨h12.size,0,none⟩ 2)=some v77 ∧
 bD v77 fun a78 l79 c80=>asK .i64 D2 fun n81=>cond (decide (n81 < (l79:Int)))
 (∃v82,af h76 (Addr.add ⟨h12.size,0,none⟩ 2)=some v82 ∧
 aO v82 fun a83 l84 c85=>asI D2 fun n86=>0≤n86∧n86 < (l84:Int)∧∃C87,ak h76 (Addr.add a83 (n86.toNat*2)) 2 C87 ∧
 ∃v88,af h76 (Addr.add ⟨Array.size (h12.push (al)),0,none⟩ 2)=some v88 ∧
 aO v88 fun a89 l90 c91=>asI D2 fun n92=>0≤n92∧n92 < (l90:Int)∧∃C93,ak h76 (Addr.add a89 (n92.toNat*2)) 2 C93 ∧
 asO C87.toArray[0]? fun v94=>asO C93.toArray[0]? fun v95=>asS v94 fun s96=>asS v95 fun s97=>asO C87.toArray[1]? fun v98=>asO C93.toArray[1]? fun v99=>asS v98 fun s100=>asS v99 fun s101=>cond (!((s96.toList==s97.toList)&&((s100.toList==s101.toList)&&true)))
 (R (.bool false) h76)
 (asK .i64 D2 fun n102=>I72 (.int .i64 (IntKind.wrap .i64 (n102+1))) h76∧μ73 (.int .i64 (IntKind.wrap .i64 (n102+1))) h76 < μ73 D2 h76))
 (asK .i64 AO fun n103=>I8 (.int .i64 (IntKind.wrap .i64 (n103+1))) h76∧μ9 (.int .i64 (IntKind.wrap .i64 (n103+1))) h76 < μ9 AO h12))) ∧
(ak (h12.push (al)) (Addr.add a25 (n28.toNat*4)) 4 C29∧af (h12.push (al)) (Addr.add ⟨Array.size (aQ h a_p),0,none⟩ 0)=some v24∧ak (h12.push (al)) (Addr.add a19 (n22.toNat*4)) 4 C23∧af (h12.push (al)) (Addr.add ⟨h.size,0,none⟩ 0)=some v18∧ak (aK h12) (Addr.add a25 (n28.toNat*4)) 4 C29∧af (aK h12) (Addr.add ⟨Array.size (aQ h a_p),0,none⟩ 0)=some v24∧ak (aK h12) (Addr.add a19 (n22.toNat*4)) 4 C23∧af (aK h12) (Addr.add ⟨h.size,0,none⟩ 0)=some v18∧C23.toArray.size=4∧(∀u∈C23.toArray.toList,one u)∧az (aK h12) ⟨Array.size (h12.push (al)),0,none⟩ C23.toArray.toList fun h104 =>
 ak h104 (Addr.add a25 (n28.toNat*4)) 4 C29∧af h104 (Addr.add ⟨Array.size (aQ h a_p),0,none⟩ 0)=some v24∧C29.toArray.size=4∧(∀u∈C29.toArray.toList,one u)∧az h104 ⟨h12.size,0,none⟩ C29.toArray.toList fun h105 =>
 ∃J106:RT,
 (∃v110,af h105 (Addr.add ⟨Array.size (h12.push (al)),0,none⟩ 0)=some v110 ∧
 ∃v111,af h105 (Addr.add ⟨h12.size,0,none⟩ 0)=some v111 ∧
 asS v110 fun s112=>asS v111 fun s113=>cond (!(s112.toList==s113.toList))
 (J106 (.bool true) h105)
 (asB bO fun b114=>cond b114
 (∃v115,af h105 (Addr.add ⟨Array.size (h12.push (al)),0,none⟩ 1)=some v115 ∧
 ∃v116,af h105 (Addr.add ⟨h12.size,0,none⟩ 1)=some v116 ∧
 asK .i64 v115 fun n117=>asK .i64 v116 fun n118=>cond (n117 !=n118)
 (J106 (.bool true) h105)
 (∃v119,af h105 (Addr.add ⟨Array.size (h12.push (al)),0,none⟩ 2)=some v119 ∧
 bD v119 fun a120 l121 c122=>∃v123,af h105 (Addr.add ⟨h12.size,0,none⟩ 2)=some v123 ∧
 bD v123 fun a124 l125 c126=>cond ((l121:Int) !=(l125:Int))
 (J106 (.bool true) h105)
 (∃v127,af h105 (Addr.add ⟨Array.size (h12.push (al)),0,none⟩ 3)=some v127 ∧
 ∃v128,af h105 (Addr.add ⟨h12.size,0,none⟩ 3)=some v128 ∧
 ae Tryz.prog ω 43 [v127,v128,bO] h105 (fun r129 h130 =>
 asB r129 fun b131=>J106 (.bool (!b131)) h130) X)))
 (∃v132,af h105 (Addr.add ⟨Array.size (h12.push (al)),0,none⟩ 2)=some v132 ∧
 bD v132 fun a133 l134 c135=>∃v136,af h105 (Addr.add ⟨h12.size,0,none⟩ 2)=some v136 ∧
 bD v136 fun a137 l138 c139=>cond ((l134:Int) !=(l138:Int))
 (J106 (.bool true) h105)
 (∃v140,af h105 (Addr.add ⟨Array.size (h12.push (al)),0,none⟩ 3)=some v140 ∧
 ∃v141,af h105 (Addr.add ⟨h12.size,0,none⟩ 3)=some v141 ∧
 ae Tryz.prog ω 43 [v140,v141,bO] h105 (fun r142 h143 =>
 asB r142 fun b144=>J106 (.bool (!b144)) h143) X)))) ∧
 ∀Ge (d108:Nat→Value) (h109:Hp),J106 Ge h109 →
 asB Ge fun b145=>cond b145
 (R (.bool false) h109)
 (∃(I146:RT) (μ147:Value→Hp→Nat),I146 (.int .i64 0) h109∧∀Dz (d149:Nat→Value) (h150:Hp),I146 Dz h150 →
 ∃v151,af h150 (Addr.add ⟨Array.size (h12.push (al)),0,none⟩ 2)=some v151 ∧
 bD v151 fun a152 l153 c154=>asK .i64 Dz fun n155=>cond (decide (n155 < (l153:Int)))
 (∃v156,af h150 (Addr.add ⟨Array.size (h12.push (al)),0,none⟩ 2)=some v156 ∧
 aO v156 fun a157 l158 c159=>asI Dz fun n160=>0≤n160∧n160 < (l158:Int)∧∃C161,ak h150 (Addr.add a157 (n160.toNat*2)) 2 C161 ∧
 ∃v162,af h150 (Addr.add ⟨h12.size,0,none⟩ 2)=some v162 ∧
 aO v162 fun a163 l164 c165=>asI Dz fun n166=>0≤n166∧n166 < (l164:Int)∧∃C167,ak h150 (Addr.add a163 (n166.toNat*2)) 2 C167 ∧
 asO C161.toArray[0]? fun v168=>asO C167.toArray[0]? fun v169=>asS v168 fun s170=>asS v169 fun s171=>asO C161.toArray[1]? fun v172=>asO C167.toArray[1]? fun v173=>asS v172 fun s174=>asS v173 fun s175=>cond (!((s170.toList==s171.toList)&&((s174.toList==s175.toList)&&true)))
 (R (.bool false) h150)
 (asK .i64 Dz fun n176=>I146 (.int .i64 (IntKind.wrap .i64 (n176+1))) h150∧μ147 (.int .i64 (IntKind.wrap .i64 (n176+1))) h150 < μ147 Dz h150))
 (asK .i64 AO fun n177=>I8 (.int .i64 (IntKind.wrap .i64 (n177+1))) h150∧μ9 (.int .i64 (IntKind.wrap .i64 (n177+1))) h150 < μ9 AO h12))))
 (R (.bool true) h12))
def jX:Ann :=
 (.T .L (.T (.T .L (.T (.T .L .L) .L)) (.T (.T .L (.one (.loop [18,19,20,21,22,25,26,27,28,29,30,31,32,33,34,8,9,35,36,37,38,39,40,41,42,43,44,45,46,47,48,49,50,51,52,53,54,55,56,57,58,59,60,61,62,63,64,65,66,67,6,10,68,69,70,71,72,75,76,77,78,79,80,81,82,83,84,85,73,74,23,24,7] [7] (.T (.T .L (.T .L .L)) (.T (.one (.T (.plan [0,1,2,3,4,5,6,7,8,9,10,11,12,13]) (.T (.T (.join [35,36,37,38,39,40,41,42,43,44,45,46,47,48,49,50,51,52,53,54,55,56,57,58,59,60,61,62,63,64,65,66,67] [67] .L) (.T (.T .L .L) .L)) (.T .L (.one (.loop [68,69,70,71,72,75,76,77,78,79,80,81,82,83,84,85,6,73,74,10] [10] (.T (.T .L (.T .L .L)) (.T (.one (.T (.plan [0,1,2,3,4,5,6,7,8,9,10]) (.T (.T .L .L) .L))) .L)))))))) .L))))) (.T .L .L))))
theorem j5 (ω:Amb)(a_p b_p bO:Value)(h:Hp)(R:RT)(X:XT)(hk:dU ω a_p b_p bO h R X):ae Tryz.prog ω 20 [a_p,b_p,bO] h R X :=
 au (an:=jX) Tryz.func20 (by kernel_rfl) hk
abbrev kX:Nat:=24
def eE (ω:Amb)(l_p:Value)(h:Hp)(R:RT)(X:XT):Prop :=
 ∃(I0:Value→RT) (μ1:Value→Value→Hp→Nat),I0 (.slice none 0 0) (.int .i64 0) h∧∀iQ i_3 (d4:Nat→Value) (h5:Hp),I0 iQ i_3 h5 →
 bD l_p fun a6 l7 c8=>asK .i64 i_3 fun n9=>cond (decide (n9 < (l7:Int)))
 (aO l_p fun a10 l11 c12=>asI i_3 fun n13=>0≤n13∧n13 < (l11:Int)∧∃C14,ak h5 (Addr.add a10 (n13.toNat*9)) 9 C14 ∧
 C14.toArray.size=9∧(∀u∈C14.toArray.toList,one u)∧az (h5.push (.cells #[.int .i64 0,.int .i64 0,.string ⟨#[]⟩,.string ⟨#[]⟩,.string ⟨#[]⟩,.int .i64 0,.slice none 0 0,.slice none 0 0,.slice none 0 0] 39 (0,0))) ⟨h5.size,0,none⟩ C14.toArray.toList fun h15 =>
 ∃v16,af h15 (Addr.add ⟨h5.size,0,none⟩ 6)=some v16 ∧
 ae Tryz.prog ω 46 [v16] h15 (fun r17 h18 =>
 cD r17 (aM h18 (Addr.add ⟨h5.size,0,none⟩ 6) r17 fun h19 =>
 ∃v20,af h19 (Addr.add ⟨h5.size,0,none⟩ 7)=some v20 ∧
 ae Tryz.prog ω 24 [v20] h19 (fun r21 h22 =>
 cD r21 (aM h22 (Addr.add ⟨h5.size,0,none⟩ 7) r21 fun h23 =>
 ∃v24,af h23 (Addr.add ⟨h5.size,0,none⟩ 8)=some v24 ∧
 ae Tryz.prog ω 24 [v24] h23 (fun r25 h26 =>
 cD r25 (aM h26 (Addr.add ⟨h5.size,0,none⟩ 8) r25 fun h27 =>
 ∃C28,ak h27 ⟨h5.size,0,none⟩ 9 C28 ∧
 C28.toArray.size=9∧vG Tryz.prog 37 (h27.push (.cells (List.toArray (C28.toArray.toList++[])) 39 (0,0))) iQ (.slice (some ⟨h27.size,0,none⟩) 1 1) fun w29 h30 =>
 asK .i64 i_3 fun n31=>I0 w29 (.int .i64 (IntKind.wrap .i64 (n31+1))) h30∧μ1 w29 (.int .i64 (IntKind.wrap .i64 (n31+1))) h30 < μ1 iQ i_3 h5)) X)) X)) X)
 (R iQ h5)
def lI:Ann :=
 (.T .L (.T .L (.T (.T .L (.one (.loop [6,7,8,9,12,13,14,15,5,16,17,18,19,20,21,22,23,24,25,26,27,28,29,30,31,3,10,11,4] [3,4] (.T (.T .L (.T .L .L)) (.T (.one (.T .L (.T .L (.T .L (.T .L .L))))) .L))))) (.T .L .L))))
theorem lD (ω:Amb)(l_p:Value)(h:Hp)(R:RT)(X:XT)(hk:eE ω l_p h R X):ae Tryz.prog ω 24 [l_p] h R X :=
 au (an:=lI) Tryz.func24 (by kernel_rfl) hk
abbrev lC:Nat:=25
abbrev aB (h:Hp)(p_p:Value):Hp:=h.push (.cells (Value.cells p_p) 24 (0,0))
abbrev bu (h:Hp)(p_p:Value):Hp:=Array.push (aB h p_p) (.cells #[.int .i64 0,.int .i64 0] 28 (0,0))
def ey (ω:Amb)(p_p:Value)(h:Hp)(R:RT)(X:XT):Prop :=
 ∃v0,af (bu h p_p) (Addr.add ⟨h.size,0,none⟩ 0)=some v0 ∧
 bD v0 fun a1 l2 c3=>cond ((l2:Int)==(0:Int))
 (ae Tryz.prog ω 27 [.int .i64 10,(.int .i64 (-1))] (bu h p_p) (fun r4 h5 =>
 asA r4 fun A6=>A6.size=2∧(∀u∈A6.toList,one u)∧az h5 ⟨Array.size (aB h p_p),0,none⟩ A6.toList fun h7 =>
 ∃C8,ak h7 ⟨Array.size (aB h p_p),0,none⟩ 2 C8∧R (.agg C8.toArray) h7) X)
 (∃v9,af (bu h p_p) (Addr.add ⟨h.size,0,none⟩ 0)=some v9 ∧
 bD v9 fun a10 l11 c12=>cond (decide ((l11:Int) > 10))
 (ae Tryz.prog ω 27 [.int .i64 8,(.int .i64 (-1))] (bu h p_p) (fun r13 h14 =>
 asA r13 fun A15=>A15.size=2∧(∀u∈A15.toList,one u)∧az h14 ⟨Array.size (aB h p_p),0,none⟩ A15.toList fun h16 =>
 ∃C17,ak h16 ⟨Array.size (aB h p_p),0,none⟩ 2 C17∧R (.agg C17.toArray) h16) X)
 (∃(I18:Value→RT) (μ19:Value→Value→Hp→Nat),I18 (.int .i64 0) (.int .i64 0) (bu h p_p)∧∀Lu H2 (d22:Nat→Value) (h23:Hp),I18 Lu H2 h23 →
 ∃v24,af h23 (Addr.add ⟨h.size,0,none⟩ 0)=some v24 ∧
 bD v24 fun a25 l26 c27=>asK .i64 H2 fun n28=>cond (decide (n28 < (l26:Int)))
 (∃v29,af h23 (Addr.add ⟨h.size,0,none⟩ 0)=some v29 ∧
 aO v29 fun a30 l31 c32=>asI H2 fun n33=>0≤n33∧n33 < (l31:Int)∧∃C34,ak h23 (Addr.add a30 (n33.toNat*4)) 4 C34 ∧
 C34.toArray.size=4∧(∀u∈C34.toArray.toList,one u)∧az (h23.push (.cells #[.string ⟨#[]⟩,.int .i64 0,.slice none 0 0,.slice none 0 0] 41 (0,0))) ⟨h23.size,0,none⟩ C34.toArray.toList fun h35 =>
 ∃v36,af h35 (Addr.add ⟨h23.size,0,none⟩ 0)=some v36 ∧
 ae Tryz.prog ω 47 [v36] h35 (fun r37 h38 =>
 asB r37 fun b39=>cond (!b39)
 (asK .i64 H2 fun n40=>ae Tryz.prog ω 27 [.int .i64 4,(.int .i64 (IntKind.wrap .i64 ((-2) - n40)))] h38 (fun r41 h42 =>
 asA r41 fun A43=>A43.size=2∧(∀u∈A43.toList,one u)∧az h42 ⟨Array.size (aB h p_p),0,none⟩ A43.toList fun h44 =>
 ∃C45,ak h44 ⟨Array.size (aB h p_p),0,none⟩ 2 C45∧R (.agg C45.toArray) h44) X)
 (∃v46,af h38 (Addr.add ⟨h23.size,0,none⟩ 2)=some v46 ∧
 bD v46 fun a47 l48 c49=>cond (decide ((l48:Int) > 6))
 (asK .i64 H2 fun n50=>ae Tryz.prog ω 27 [.int .i64 8,(.int .i64 (IntKind.wrap .i64 ((-2) - n50)))] h38 (fun r51 h52 =>
 asA r51 fun A53=>A53.size=2∧(∀u∈A53.toList,one u)∧az h52 ⟨Array.size (aB h p_p),0,none⟩ A53.toList fun h54 =>
 ∃C55,ak h54 ⟨Array.size (aB h p_p),0,none⟩ 2 C55∧R (.agg C55.toArray) h54) X)
 (∃(I56:RT) (μ57:Value→Hp→Nat),I56 (.int .i64 0) h38∧∀MP (d59:Nat→Value) (h60:Hp),I56 MP h60 →
 ∃v61,af h60 (Addr.add ⟨h23.size,0,none⟩ 2)=some v61 ∧
 bD v61 fun a62 l63 c64=>asK .i64 MP fun n65=>cond (decide (n65 < (l63:Int)))
 (∃v66,af h60 (Addr.add ⟨h23.size,0,none⟩ 2)=some v66 ∧
 aO v66 fun a67 l68 c69=>asI MP fun n70=>0≤n70∧n70 < (l68:Int)∧∃v71,af h60 (Addr.add (Addr.add a67 (n70.toNat*2)) 0)=some v71 ∧
 ae Tryz.prog ω 47 [v71] h60 (fun r72 h73 =>
 asB r72 fun b74=>cond (!b74)
 (asK .i64 H2 fun n75=>ae Tryz.prog ω 27 [.int .i64 4,(.int .i64 (IntKind.wrap .i64 ((-2) - n75)))] h73 (fun r76 h77 =>
 asA r76 fun A78=>A78.size=2∧(∀u∈A78.toList,one u)∧az h77 ⟨Array.size (aB h p_p),0,none⟩ A78.toList fun h79 =>
 ∃C80,ak h79 ⟨Array.size (aB h p_p),0,none⟩ 2 C80∧R (.agg C80.toArray) h79) X)
 (∃v81,af h73 (Addr.add ⟨h23.size,0,none⟩ 2)=some v81 ∧
 aO v81 fun a82 l83 c84=>asI MP fun n85=>0≤n85∧n85 < (l83:Int)∧∃v86,af h73 (Addr.add (Addr.add a82 (n85.toNat*2)) 1)=some v86 ∧
 ae Tryz.prog ω 48 [v86,.int .i64 3] h73 (fun r87 h88 =>
 asB r87 fun b89=>cond (!b89)
 (asK .i64 H2 fun n90=>ae Tryz.prog ω 27 [.int .i64 11,(.int .i64 (IntKind.wrap .i64 ((-2) - n90)))] h88 (fun r91 h92 =>
 asA r91 fun A93=>A93.size=2∧(∀u∈A93.toList,one u)∧az h92 ⟨Array.size (aB h p_p),0,none⟩ A93.toList fun h94 =>
 ∃C95,ak h94 ⟨Array.size (aB h p_p),0,none⟩ 2 C95∧R (.agg C95.toArray) h94) X)
 (asK .i64 MP fun n96=>I56 (.int .i64 (IntKind.wrap .i64 (n96+1))) h88∧μ57 (.int .i64 (IntKind.wrap .i64 (n96+1))) h88 < μ57 MP h60)) X)) X)
 (∃v97,af h60 (Addr.add ⟨h23.size,0,none⟩ 3)=some v97 ∧
 ae Tryz.prog ω 49 [v97,Lu,.int .i64 1] h60 (fun r98 h99 =>
 asT r98 fun T100=>asO T100[0]? fun v101=>asT r98 fun T102=>asO T102[1]? fun v103=>asA v101 fun A104=>A104.size=2∧(∀u∈A104.toList,one u)∧az (h99.push (.cells #[.int .i64 0,.int .i64 0] 28 (0,0))) ⟨h99.size,0,none⟩ A104.toList fun h105 =>
 ∃v106,af h105 (Addr.add ⟨h99.size,0,none⟩ 0)=some v106 ∧
 asK .i64 v106 fun n107=>cond (n107 !=(0:Int))
 (∃C108,ak h105 ⟨h99.size,0,none⟩ 2 C108 ∧
 C108.toArray.size=2∧(∀u∈C108.toArray.toList,one u)∧az h105 ⟨Array.size (aB h p_p),0,none⟩ C108.toArray.toList fun h109 =>
 ∃C110,ak h109 ⟨Array.size (aB h p_p),0,none⟩ 2 C110∧R (.agg C110.toArray) h109)
 (asK .i64 H2 fun n111=>I18 v103 (.int .i64 (IntKind.wrap .i64 (n111+1))) h105∧μ19 v103 (.int .i64 (IntKind.wrap .i64 (n111+1))) h105 < μ19 Lu H2 h23)) X)))) X)
 (2=2∧(∀u∈[.int .i64 0,.int .i64 0],one u)∧az h23 ⟨Array.size (aB h p_p),0,none⟩ [.int .i64 0,.int .i64 0] fun h112 =>
 ∃C113,ak h112 ⟨Array.size (aB h p_p),0,none⟩ 2 C113∧R (.agg C113.toArray) h112)))
def kO:Ann :=
 (.T .L (.T (.T .L (.T (.T .L .L) .L)) (.T (.T .L (.T (.T .L .L) .L)) (.T .L (.T (.T .L (.one (.loop [19,20,21,22,23,26,27,28,29,30,5,31,32,33,34,35,36,37,38,39,40,41,42,43,44,6,45,46,47,48,49,52,53,54,55,56,57,58,59,60,61,62,63,64,65,66,67,68,69,70,71,72,73,50,51,75,76,77,78,74,79,80,7,8,81,82,83,84,85,3,24,25,4] [3,4] (.T (.T .L (.T .L .L)) (.T (.one (.T .L (.T (.T .L (.T (.T .L .L) .L)) (.T (.T .L (.T (.T .L .L) .L)) (.T (.T .L (.one (.loop [45,46,47,48,49,52,53,54,55,56,57,58,59,60,61,62,63,64,65,66,67,68,69,70,71,72,73,50,51,6] [6] (.T (.T .L (.T .L .L)) (.T (.one (.T (.T .L (.T (.T .L .L) .L)) (.T .L (.T (.T .L .L) .L)))) .L))))) (.T .L (.T (.T .L (.T (.T .L .L) .L)) .L))))))) .L))))) (.T .L .L))))))
theorem kZ (ω:Amb)(p_p:Value)(h:Hp)(R:RT)(X:XT)(hk:ey ω p_p h R X):ae Tryz.prog ω 25 [p_p] h R X :=
 au (an:=kO) Tryz.func25 (by kernel_rfl) hk
abbrev qX:Nat:=26
def je (ω:Amb)(p_p:Value)(h:Hp)(R:RT)(X:XT):Prop :=
 ∃(I0:Value→RT) (μ1:Value→Value→Hp→Nat),I0 (.string ⟨#[]⟩) (.int .i64 0) (h.push (.cells (Value.cells p_p) 24 (0,0)))∧∀iQ i_3 (d4:Nat→Value) (h5:Hp),I0 iQ i_3 h5 →
 ∃v6,af h5 (Addr.add ⟨h.size,0,none⟩ 0)=some v6 ∧
 bD v6 fun a7 l8 c9=>asK .i64 i_3 fun n10=>cond (decide (n10 < (l8:Int)))
 (∃v11,af h5 (Addr.add ⟨h.size,0,none⟩ 0)=some v11 ∧
 aO v11 fun a12 l13 c14=>asI i_3 fun n15=>0≤n15∧n15 < (l13:Int)∧∃C16,ak h5 (Addr.add a12 (n15.toNat*4)) 4 C16 ∧
 C16.toArray.size=4∧(∀u∈C16.toArray.toList,one u)∧az (h5.push (.cells #[.string ⟨#[]⟩,.int .i64 0,.slice none 0 0,.slice none 0 0] 41 (0,0))) ⟨h5.size,0,none⟩ C16.toArray.toList fun h17 =>
 ∃v18,af h17 (Addr.add ⟨h5.size,0,none⟩ 0)=some v18 ∧
 asS v18 fun s19=>ByteArray.size ⟨#[115,116,97,103,101,32]⟩+s19.size≤9223372036854775807∧ByteArray.size (⟨#[115,116,97,103,101,32]⟩++s19)+ByteArray.size ⟨#[40]⟩≤9223372036854775807∧asS iQ fun s20=>s20.size+ByteArray.size ((⟨#[115,116,97,103,101,32]⟩++s19)++⟨#[40]⟩)≤9223372036854775807∧∃(I21:Value→RT) (μ22:Value→Value→Hp→Nat),I21 (.string (s20++((⟨#[115,116,97,103,101,32]⟩++s19)++⟨#[40]⟩))) (.int .i64 0) h17∧∀Ay Mp (d25:Nat→Value) (h26:Hp),I21 Ay Mp h26 →
 ∃v27,af h26 (Addr.add ⟨h5.size,0,none⟩ 2)=some v27 ∧
 bD v27 fun a28 l29 c30=>asK .i64 Mp fun n31=>cond (decide (n31 < (l29:Int)))
 (asK .i64 Mp fun n32=>∃J33:RT,
 (cond (decide (n32 > 0))
 (asS Ay fun s37=>s37.size+ByteArray.size ⟨#[44,32]⟩≤9223372036854775807∧J33 (.string (s37++⟨#[44,32]⟩)) h26)
 (J33 Ay h26)) ∧
 ∀Js (d35:Nat→Value) (h36:Hp),J33 Js h36 →
 ∃v38,af h36 (Addr.add ⟨h5.size,0,none⟩ 2)=some v38 ∧
 aO v38 fun a39 l40 c41=>asI Mp fun n42=>0≤n42∧n42 < (l40:Int)∧∃v43,af h36 (Addr.add (Addr.add a39 (n42.toNat*2)) 0)=some v43 ∧
 asS v43 fun s44=>s44.size+ByteArray.size ⟨#[32]⟩≤9223372036854775807∧∃v45,af h36 (Addr.add ⟨h5.size,0,none⟩ 2)=some v45 ∧
 aO v45 fun a46 l47 c48=>asI Mp fun n49=>0≤n49∧n49 < (l47:Int)∧∃v50,af h36 (Addr.add (Addr.add a46 (n49.toNat*2)) 1)=some v50 ∧
 ae Tryz.prog ω 50 [v50] h36 (fun r51 h52 =>
 af h52 (Addr.add (Addr.add a39 (n42.toNat*2)) 0)=some v43∧af h52 (Addr.add ⟨h5.size,0,none⟩ 2)=some v38∧asS r51 fun s53=>ByteArray.size (s44++⟨#[32]⟩)+s53.size≤9223372036854775807∧asS Js fun s54=>s54.size+ByteArray.size ((s44++⟨#[32]⟩)++s53)≤9223372036854775807∧asK .i64 Mp fun n55=>I21 (.string (s54++((s44++⟨#[32]⟩)++s53))) (.int .i64 (IntKind.wrap .i64 (n55+1))) h52∧μ22 (.string (s54++((s44++⟨#[32]⟩)++s53))) (.int .i64 (IntKind.wrap .i64 (n55+1))) h52 < μ22 Ay Mp h26) X)
 (∃v56,af h26 (Addr.add ⟨h5.size,0,none⟩ 3)=some v56 ∧
 ae Tryz.prog ω 51 [v56,.string ⟨#[]⟩] h26 (fun r57 h58 =>
 asS r57 fun s59=>ByteArray.size ⟨#[41]⟩+s59.size≤9223372036854775807∧ByteArray.size (⟨#[41]⟩++s59)+ByteArray.size ⟨#[10]⟩≤9223372036854775807∧asS Ay fun s60=>s60.size+ByteArray.size ((⟨#[41]⟩++s59)++⟨#[10]⟩)≤9223372036854775807∧asK .i64 i_3 fun n61=>I0 (.string (s60++((⟨#[41]⟩++s59)++⟨#[10]⟩))) (.int .i64 (IntKind.wrap .i64 (n61+1))) h58∧μ1 (.string (s60++((⟨#[41]⟩++s59)++⟨#[10]⟩))) (.int .i64 (IntKind.wrap .i64 (n61+1))) h58 < μ1 iQ i_3 h5) X))
 (R iQ h5)
def qT:Ann :=
 (.T .L (.T .L (.T (.T .L (.one (.loop [7,8,9,10,11,14,15,16,17,18,5,19,20,21,22,23,24,3,6,25,26,27,28,29,32,33,34,35,36,37,38,39,40,41,42,43,44,45,46,47,48,49,50,51,52,30,31,53,54,55,56,57,58,59,12,13,4] [3,4] (.T (.T .L (.T .L .L)) (.T (.one (.T .L (.T .L (.T (.T .L (.one (.loop [25,26,27,28,29,32,33,34,35,3,36,37,38,39,40,41,42,43,44,45,46,47,48,49,50,51,52,30,31,6] [3,6] (.T (.T .L (.T .L .L)) (.T (.one (.T (.T .L (.join [34,35,3] [3] (.T .L .L))) (.plan [0,1,2,3,4,5,6,7,8,9,10,11,12,13,14,15,16,17]))) .L))))) .L)))) .L))))) (.T .L .L))))
theorem qS (ω:Amb)(p_p:Value)(h:Hp)(R:RT)(X:XT)(hk:je ω p_p h R X):ae Tryz.prog ω 26 [p_p] h R X :=
 au (an:=qT) Tryz.func26 (by kernel_rfl) hk
abbrev eL:Nat:=43
abbrev ar:Obj:=.cells #[.int .i64 0,.int .i64 0,.string ⟨#[]⟩,.string ⟨#[]⟩,.string ⟨#[]⟩,.int .i64 0,.slice none 0 0,.slice none 0 0,.slice none 0 0] 39 (0,0)
abbrev bi (h10:Hp):Hp:=Array.push (h10.push (ar)) (ar)
def eI (ω:Amb)(a_p b_p bO:Value)(h:Hp)(R:RT)(X:XT):Prop :=
 bD a_p fun a0 l1 c2=>bD b_p fun a3 l4 c5=>cond ((l1:Int) !=(l4:Int))
 (R (.bool false) h)
 (∃(I6:RT) (μ7:Value→Hp→Nat),I6 (.int .i64 0) h∧∀i_8 (d9:Nat→Value) (h10:Hp),I6 i_8 h10 →
 bD a_p fun a11 l12 c13=>asK .i64 i_8 fun n14=>cond (decide (n14 < (l12:Int)))
 (aO a_p fun a15 l16 c17=>asI i_8 fun n18=>0≤n18∧n18 < (l16:Int)∧∃C19,ak h10 (Addr.add a15 (n18.toNat*9)) 9 C19 ∧
 aO b_p fun a20 l21 c22=>asI i_8 fun n23=>0≤n23∧n23 < (l21:Int)∧∃C24,ak h10 (Addr.add a20 (n23.toNat*9)) 9 C24 ∧
 (ak (h10.push (ar)) (Addr.add a20 (n23.toNat*9)) 9 C24∧ak (h10.push (ar)) (Addr.add a15 (n18.toNat*9)) 9 C19∧ak (bi h10) (Addr.add a20 (n23.toNat*9)) 9 C24∧ak (bi h10) (Addr.add a15 (n18.toNat*9)) 9 C19∧C19.toArray.size=9∧(∀u∈C19.toArray.toList,one u)∧az (bi h10) ⟨h10.size,0,none⟩ C19.toArray.toList fun h25 =>
 ak h25 (Addr.add a20 (n23.toNat*9)) 9 C24∧C24.toArray.size=9∧(∀u∈C24.toArray.toList,one u)∧az h25 ⟨Array.size (h10.push (ar)),0,none⟩ C24.toArray.toList fun h26 =>
 ∃β27:Bool,
 (∃v29,af h26 (Addr.add ⟨h10.size,0,none⟩ 0)=some v29 ∧
 ∃v30,af h26 (Addr.add ⟨Array.size (h10.push (ar)),0,none⟩ 0)=some v30 ∧
 asK .i64 v29 fun n31=>asK .i64 v30 fun n32=>cond (n31 !=n32)
 (((.bool true):Value)=.bool β27∧h26=h26)
 (∃v33,af h26 (Addr.add ⟨h10.size,0,none⟩ 2)=some v33 ∧
 ∃v34,af h26 (Addr.add ⟨Array.size (h10.push (ar)),0,none⟩ 2)=some v34 ∧
 asS v33 fun s35=>asS v34 fun s36=>cond (!(s35.toList==s36.toList))
 (((.bool true):Value)=.bool β27∧h26=h26)
 (∃v37,af h26 (Addr.add ⟨h10.size,0,none⟩ 3)=some v37 ∧
 ∃v38,af h26 (Addr.add ⟨Array.size (h10.push (ar)),0,none⟩ 3)=some v38 ∧
 asS v37 fun s39=>asS v38 fun s40=>cond (!(s39.toList==s40.toList))
 (((.bool true):Value)=.bool β27∧h26=h26)
 (∃v41,af h26 (Addr.add ⟨h10.size,0,none⟩ 4)=some v41 ∧
 ∃v42,af h26 (Addr.add ⟨Array.size (h10.push (ar)),0,none⟩ 4)=some v42 ∧
 asS v41 fun s43=>asS v42 fun s44=>cond (!(s43.toList==s44.toList))
 (((.bool true):Value)=.bool β27∧h26=h26)
 (∃v45,af h26 (Addr.add ⟨h10.size,0,none⟩ 5)=some v45 ∧
 ∃v46,af h26 (Addr.add ⟨Array.size (h10.push (ar)),0,none⟩ 5)=some v46 ∧
 asK .i64 v45 fun n47=>asK .i64 v46 fun n48=>cond (n47 !=n48)
 (((.bool true):Value)=.bool β27∧h26=h26)
 (asB bO fun b49=>cond b49
 (∃v50,af h26 (Addr.add ⟨h10.size,0,none⟩ 1)=some v50 ∧
 ∃v51,af h26 (Addr.add ⟨Array.size (h10.push (ar)),0,none⟩ 1)=some v51 ∧
 asK .i64 v50 fun n52=>asK .i64 v51 fun n53=>((.bool (n52 !=n53)):Value)=.bool β27∧h26=h26)
 (((.bool false):Value)=.bool β27∧h26=h26))))))) ∧
 ∀d28:Nat→Value,
 cond β27
 (R (.bool false) h26)
 (∃J54:RT,
 (∃v58,af h26 (Addr.add ⟨h10.size,0,none⟩ 6)=some v58 ∧
 ∃v59,af h26 (Addr.add ⟨Array.size (h10.push (ar)),0,none⟩ 6)=some v59 ∧
 ae Tryz.prog ω 74 [v58,v59] h26 (fun r60 h61 =>
 asB r60 fun b62=>cond (!b62)
 (J54 (.bool true) h61)
 (∃v63,af h61 (Addr.add ⟨h10.size,0,none⟩ 7)=some v63 ∧
 ∃v64,af h61 (Addr.add ⟨Array.size (h10.push (ar)),0,none⟩ 7)=some v64 ∧
 ae Tryz.prog ω 43 [v63,v64,bO] h61 (fun r65 h66 =>
 asB r65 fun b67=>cond (!b67)
 (J54 (.bool true) h66)
 (∃v68,af h66 (Addr.add ⟨h10.size,0,none⟩ 8)=some v68 ∧
 ∃v69,af h66 (Addr.add ⟨Array.size (h10.push (ar)),0,none⟩ 8)=some v69 ∧
 ae Tryz.prog ω 43 [v68,v69,bO] h66 (fun r70 h71 =>
 asB r70 fun b72=>J54 (.bool (!b72)) h71) X)) X)) X) ∧
 ∀AJ (d56:Nat→Value) (h57:Hp),J54 AJ h57 →
 asB AJ fun b73=>cond b73
 (R (.bool false) h57)
 (asK .i64 i_8 fun n74=>I6 (.int .i64 (IntKind.wrap .i64 (n74+1))) h57∧μ7 (.int .i64 (IntKind.wrap .i64 (n74+1))) h57 < μ7 i_8 h10))) ∧
(ak (h10.push (ar)) (Addr.add a20 (n23.toNat*9)) 9 C24∧ak (h10.push (ar)) (Addr.add a15 (n18.toNat*9)) 9 C19∧ak (bi h10) (Addr.add a20 (n23.toNat*9)) 9 C24∧ak (bi h10) (Addr.add a15 (n18.toNat*9)) 9 C19∧C19.toArray.size=9∧(∀u∈C19.toArray.toList,one u)∧az (bi h10) ⟨Array.size (h10.push (ar)),0,none⟩ C19.toArray.toList fun h75 =>
 ak h75 (Addr.add a20 (n23.toNat*9)) 9 C24∧C24.toArray.size=9∧(∀u∈C24.toArray.toList,one u)∧az h75 ⟨h10.size,0,none⟩ C24.toArray.toList fun h76 =>
 ∃β77:Bool,
 (∃v79,af h76 (Addr.add ⟨Array.size (h10.push (ar)),0,none⟩ 0)=some v79 ∧
 ∃v80,af h76 (Addr.add ⟨h10.size,0,none⟩ 0)=some v80 ∧
 asK .i64 v79 fun n81=>asK .i64 v80 fun n82=>cond (n81 !=n82)
 (((.bool true):Value)=.bool β77∧h76=h76)
 (∃v83,af h76 (Addr.add ⟨Array.size (h10.push (ar)),0,none⟩ 2)=some v83 ∧
 ∃v84,af h76 (Addr.add ⟨h10.size,0,none⟩ 2)=some v84 ∧
 asS v83 fun s85=>asS v84 fun s86=>cond (!(s85.toList==s86.toList))
 (((.bool true):Value)=.bool β77∧h76=h76)
 (∃v87,af h76 (Addr.add ⟨Array.size (h10.push (ar)),0,none⟩ 3)=some v87 ∧
 ∃v88,af h76 (Addr.add ⟨h10.size,0,none⟩ 3)=some v88 ∧
 asS v87 fun s89=>asS v88 fun s90=>cond (!(s89.toList==s90.toList))
 (((.bool true):Value)=.bool β77∧h76=h76)
 (∃v91,af h76 (Addr.add ⟨Array.size (h10.push (ar)),0,none⟩ 4)=some v91 ∧
 ∃v92,af h76 (Addr.add ⟨h10.size,0,none⟩ 4)=some v92 ∧
 asS v91 fun s93=>asS v92 fun s94=>cond (!(s93.toList==s94.toList))
 (((.bool true):Value)=.bool β77∧h76=h76)
 (∃v95,af h76 (Addr.add ⟨Array.size (h10.push (ar)),0,none⟩ 5)=some v95 ∧
 ∃v96,af h76 (Addr.add ⟨h10.size,0,none⟩ 5)=some v96 ∧
 asK .i64 v95 fun n97=>asK .i64 v96 fun n98=>cond (n97 !=n98)
 (((.bool true):Value)=.bool β77∧h76=h76)
 (asB bO fun b99=>cond b99
 (∃v100,af h76 (Addr.add ⟨Array.size (h10.push (ar)),0,none⟩ 1)=some v100 ∧
 ∃v101,af h76 (Addr.add ⟨h10.size,0,none⟩ 1)=some v101 ∧
 asK .i64 v100 fun n102=>asK .i64 v101 fun n103=>((.bool (n102 !=n103)):Value)=.bool β77∧h76=h76)
 (((.bool false):Value)=.bool β77∧h76=h76))))))) ∧
 ∀d78:Nat→Value,
 cond β77
 (R (.bool false) h76)
 (∃J104:RT,
 (∃v108,af h76 (Addr.add ⟨Array.size (h10.push (ar)),0,none⟩ 6)=some v108 ∧
 ∃v109,af h76 (Addr.add ⟨h10.size,0,none⟩ 6)=some v109 ∧
 ae Tryz.prog ω 74 [v108,v109] h76 (fun r110 h111 =>
 asB r110 fun b112=>cond (!b112)
 (J104 (.bool true) h111)
 (∃v113,af h111 (Addr.add ⟨Array.size (h10.push (ar)),0,none⟩ 7)=some v113 ∧
 ∃v114,af h111 (Addr.add ⟨h10.size,0,none⟩ 7)=some v114 ∧
 ae Tryz.prog ω 43 [v113,v114,bO] h111 (fun r115 h116 =>
 asB r115 fun b117=>cond (!b117)
 (J104 (.bool true) h116)
 (∃v118,af h116 (Addr.add ⟨Array.size (h10.push (ar)),0,none⟩ 8)=some v118 ∧
 ∃v119,af h116 (Addr.add ⟨h10.size,0,none⟩ 8)=some v119 ∧
 ae Tryz.prog ω 43 [v118,v119,bO] h116 (fun r120 h121 =>
 asB r120 fun b122=>J104 (.bool (!b122)) h121) X)) X)) X) ∧
 ∀Gs (d106:Nat→Value) (h107:Hp),J104 Gs h107 →
 asB Gs fun b123=>cond b123
 (R (.bool false) h107)
 (asK .i64 i_8 fun n124=>I6 (.int .i64 (IntKind.wrap .i64 (n124+1))) h107∧μ7 (.int .i64 (IntKind.wrap .i64 (n124+1))) h107 < μ7 i_8 h10))))
 (R (.bool true) h10))
def lh:Ann :=
 (.T .L (.T (.T .L (.T (.T .L .L) .L)) (.T (.T .L (.one (.loop [15,16,17,18,21,22,23,24,25,26,27,28,8,9,29,30,31,32,33,34,35,36,37,38,39,40,41,42,43,44,45,46,47,48,49,50,51,52,53,54,55,56,57,58,59,60,61,62,63,64,65,66,67,68,69,70,71,6,72,73,74,75,76,77,78,79,80,81,82,83,84,85,86,87,88,89,90,91,92,93,94,95,19,20,7] [7] (.T (.T .L (.T .L .L)) (.T (.one (.T (.plan [0,1,2,3,4,5,6,7,8,9,10,11]) (.T (.T (.jb [29,30,31,32,33,34,35,36,37,38,39,40,41,42,43,44,45,46,47,48,49,50,51,52,53,54,55,56,57,58,59,60,61,62,63,64,65,66,67,68,69,70,71] 71 .L) (.T (.T .L .L) .L)) (.T (.join [72,73,74,75,76,77,78,79,80,81,82,83,84,85,86,87,88,89,90,91,92,93,94,95] [95] .L) (.T (.T .L .L) .L))))) .L))))) (.T .L .L))))
theorem kT (ω:Amb)(a_p b_p bO:Value)(h:Hp)(R:RT)(X:XT)(hk:eI ω a_p b_p bO h R X):ae Tryz.prog ω 43 [a_p,b_p,bO] h R X :=
 au (an:=lh) Tryz.func43 (by kernel_rfl) hk
abbrev lr:Nat:=46
def eB (ω:Amb)(l_p:Value)(h:Hp)(R:RT)(X:XT):Prop :=
 ∃(I0:Value→RT) (μ1:Value→Value→Hp→Nat),I0 (.slice none 0 0) (.int .i64 0) h∧∀iQ i_3 (d4:Nat→Value) (h5:Hp),I0 iQ i_3 h5 →
 bD l_p fun a6 l7 c8=>asK .i64 i_3 fun n9=>cond (decide (n9 < (l7:Int)))
 (aO l_p fun a10 l11 c12=>asI i_3 fun n13=>0≤n13∧n13 < (l11:Int)∧∃C14,ak h5 (Addr.add a10 (n13.toNat*4)) 4 C14 ∧
 C14.toArray.size=4∧(∀u∈C14.toArray.toList,one u)∧az (h5.push (.cells #[.int .i64 0,.string ⟨#[]⟩,.int .i64 0,.slice none 0 0] 36 (0,0))) ⟨h5.size,0,none⟩ C14.toArray.toList fun h15 =>
 ∃v16,af h15 (Addr.add ⟨h5.size,0,none⟩ 3)=some v16 ∧
 ae Tryz.prog ω 46 [v16] h15 (fun r17 h18 =>
 cD r17 (aM h18 (Addr.add ⟨h5.size,0,none⟩ 3) r17 fun h19 =>
 ∃C20,ak h19 ⟨h5.size,0,none⟩ 4 C20 ∧
 C20.toArray.size=4∧vG Tryz.prog 34 (h19.push (.cells (List.toArray (C20.toArray.toList++[])) 36 (0,0))) iQ (.slice (some ⟨h19.size,0,none⟩) 1 1) fun w21 h22 =>
 asK .i64 i_3 fun n23=>I0 w21 (.int .i64 (IntKind.wrap .i64 (n23+1))) h22∧μ1 w21 (.int .i64 (IntKind.wrap .i64 (n23+1))) h22 < μ1 iQ i_3 h5)) X)
 (R iQ h5)
def kQ:Ann :=
 (.T .L (.T .L (.T (.T .L (.one (.loop [6,7,8,9,12,13,14,15,5,16,17,18,19,20,21,22,23,3,10,11,4] [3,4] (.T (.T .L (.T .L .L)) (.T (.one (.T .L (.T .L .L))) .L))))) (.T .L .L))))
theorem kY (ω:Amb)(l_p:Value)(h:Hp)(R:RT)(X:XT)(hk:eB ω l_p h R X):ae Tryz.prog ω 46 [l_p] h R X :=
 au (an:=kQ) Tryz.func46 (by kernel_rfl) hk
abbrev nG:Nat:=47
def gy (ω:Amb)(s_p:Value)(h:Hp)(R:RT)(X:XT):Prop :=
 ∃J0:RT,
 (asS s_p fun s4=>cond (decide (((s4.size:Int):Int) < 1))
 (J0 (.bool true) h)
 (asS s_p fun s5=>cond (decide (((s5.size:Int):Int) > 12))
 (J0 (.bool true) h)
 (asS s_p fun s6=>0≤(0:Int)∧0 < (s6.size:Int)∧ae Tryz.prog ω 75 [(.int .u8 (bj s6 0))] h (fun r7 h8 =>
 asB r7 fun b9=>cond (!b9)
 (J0 (.bool true) h8)
 (ae Tryz.prog ω 76 [s_p] h8 (fun r10 h11 =>
 J0 r10 h11) X)) X))) ∧
 ∀NI (d2:Nat→Value) (h3:Hp),J0 NI h3 →
 asB NI fun b12=>cond b12
 (R (.bool false) h3)
 (∃(I13:RT) (μ14:Value→Hp→Nat),I13 (.int .i64 0) h3∧∀rP (d16:Nat→Value) (h17:Hp),I13 rP h17 →
 asS s_p fun s18=>asK .i64 rP fun n19=>cond (decide (n19 < (s18.size:Int)))
 (∃J20:RT,
 (asS s_p fun s24=>asI rP fun n25=>0≤n25∧n25 < (s24.size:Int)∧ae Tryz.prog ω 75 [(.int .u8 (bj s24 n25))] h17 (fun r26 h27 =>
 asB r26 fun b28=>cond (!b28)
 (asS s_p fun s29=>asI rP fun n30=>0≤n30∧n30 < (s29.size:Int)∧ae Tryz.prog ω 77 [(.int .u8 (bj s29 n30))] h27 (fun r31 h32 =>
 asB r31 fun b33=>J20 (.bool (!b33)) h32) X)
 (J20 (.bool false) h27)) X) ∧
 ∀Km (d22:Nat→Value) (h23:Hp),J20 Km h23 →
 asB Km fun b34=>cond b34
 (R (.bool false) h23)
 (asK .i64 rP fun n35=>I13 (.int .i64 (IntKind.wrap .i64 (n35+1))) h23∧μ14 (.int .i64 (IntKind.wrap .i64 (n35+1))) h23 < μ14 rP h17))
 (R (.bool true) h17))
def nH:Ann :=
 (.T .L (.T (.T (.join [4,5,6,7,8,9,10,11,12,13,14,15,16,17,18,19,20,21] [21] .L) (.T (.T .L .L) .L)) (.T (.T .L (.one (.loop [22,23,24,25,28,29,30,31,32,33,34,35,36,37,38,39,2,26,27,3] [3] (.T (.T .L (.T .L .L)) (.T (.one (.T (.join [28,29,30,31,32,33,34,35,36,37,38,39] [39] .L) (.T (.T .L .L) .L))) .L))))) (.T .L .L))))
theorem nL (ω:Amb)(s_p:Value)(h:Hp)(R:RT)(X:XT)(hk:gy ω s_p h R X):ae Tryz.prog ω 47 [s_p] h R X :=
 au (an:=nH) Tryz.func47 (by kernel_rfl) hk
abbrev nI:Nat:=48
def gv (ω:Amb)(t_p su:Value)(h:Hp)(R:RT)(X:XT):Prop :=
 ∃β0:Bool,
 (asS t_p fun s2=>cond (decide (((s2.size:Int):Int) < 1))
 (((.bool true):Value)=.bool β0∧h=h)
 (asS t_p fun s3=>asK .i64 su fun n4=>cond (decide (((IntKind.wrap .i64 ((s3.size:Int) - 1)):Int) > n4))
 (((.bool true):Value)=.bool β0∧h=h)
 (asS t_p fun s5=>asS t_p fun s6=>0≤((IntKind.wrap .i64 ((s5.size:Int) - 1)):Int)∧((IntKind.wrap .i64 ((s5.size:Int) - 1)):Int)≤(s6.size:Int)∧(s6.size:Int)≤(s6.size:Int)∧((.bool (!(ByteArray.toList (ByteArray.extract s6 (Int.toNat (IntKind.wrap .i64 ((s5.size:Int) - 1))) (Int.toNat (s6.size:Int)))==ByteArray.toList ⟨#[105]⟩))):Value)=.bool β0∧h=h))) ∧
 ∀d1:Nat→Value,
 cond β0
 (R (.bool false) h)
 (∃(I7:RT) (μ8:Value→Hp→Nat),I7 (.int .i64 0) h∧∀i_9 (d10:Nat→Value) (h11:Hp),I7 i_9 h11 →
 asS t_p fun s12=>asK .i64 i_9 fun n13=>cond (decide (n13 < (IntKind.wrap .i64 ((s12.size:Int) - 1))))
 (∃β14:Bool,
 (asK .i64 i_9 fun n16=>asS t_p fun s17=>asI i_9 fun n18=>0≤n18∧n18≤(IntKind.wrap .i64 (n16+1))∧(IntKind.wrap .i64 (n16+1))≤(s17.size:Int)∧cond (!(ByteArray.toList (ByteArray.extract s17 (n18.toNat) (Int.toNat (IntKind.wrap .i64 (n16+1))))==ByteArray.toList ⟨#[115]⟩))
 (asK .i64 i_9 fun n19=>asS t_p fun s20=>asI i_9 fun n21=>0≤n21∧n21≤(IntKind.wrap .i64 (n19+1))∧(IntKind.wrap .i64 (n19+1))≤(s20.size:Int)∧((.bool (!(ByteArray.toList (ByteArray.extract s20 (n21.toNat) (Int.toNat (IntKind.wrap .i64 (n19+1))))==ByteArray.toList ⟨#[114]⟩))):Value)=.bool β14∧h11=h11)
 (((.bool false):Value)=.bool β14∧h11=h11)) ∧
 ∀d15:Nat→Value,
 cond β14
 (R (.bool false) h11)
 (asK .i64 i_9 fun n22=>I7 (.int .i64 (IntKind.wrap .i64 (n22+1))) h11∧μ8 (.int .i64 (IntKind.wrap .i64 (n22+1))) h11 < μ8 i_9 h11))
 (R (.bool true) h11))
def o8:Ann :=
 (.T .L (.T (.T (.jb [6,7,8,9,10,11,12,13,14,15,16,17,18,19,20,21,22,23] 23 .L) (.T (.T .L .L) .L)) (.T (.T .L (.one (.loop [24,25,26,27,28,31,32,33,34,35,36,37,38,39,40,41,42,43,44,4,29,30,5] [5] (.T (.T .L (.T .L .L)) (.T (.one (.T (.jb [31,32,33,34,35,36,37,38,39,40,41,42,43,44] 44 .L) (.T (.T .L .L) .L))) .L))))) (.T .L .L))))
theorem o7 (ω:Amb)(t_p su:Value)(h:Hp)(R:RT)(X:XT)(hk:gv ω t_p su h R X):ae Tryz.prog ω 48 [t_p,su] h R X :=
 au (an:=o8) Tryz.func48 (by kernel_rfl) hk
abbrev ke:Nat:=49
def ep (ω:Amb)(l_p ck ee:Value)(h:Hp)(R:RT)(X:XT):Prop :=
 ∃(I0:Value→RT) (μ1:Value→Value→Hp→Nat),I0 ck (.int .i64 0) (h.push (.cells #[.int .i64 0,.int .i64 0] 28 (0,0)))∧∀MG i_3 (d4:Nat→Value) (h5:Hp),I0 MG i_3 h5 →
 bD l_p fun a6 l7 c8=>asK .i64 i_3 fun n9=>cond (decide (n9 < (l7:Int)))
 (aO l_p fun a10 l11 c12=>asI i_3 fun n13=>0≤n13∧n13 < (l11:Int)∧∃C14,ak h5 (Addr.add a10 (n13.toNat*9)) 9 C14 ∧
 ae Tryz.prog ω 78 [.agg C14.toArray,MG,ee] h5 (fun r15 h16 =>
 asK .i64 r15 fun n17=>cond (n17 !=(0:Int))
 (ae Tryz.prog ω 27 [r15,MG] h16 (fun r18 h19 =>
 asA r18 fun A20=>A20.size=2∧(∀u∈A20.toList,one u)∧az h19 ⟨h.size,0,none⟩ A20.toList fun h21 =>
 ∃C22,ak h21 ⟨h.size,0,none⟩ 2 C22∧R (.tuple #[.agg C22.toArray,MG]) h21) X)
 (asK .i64 MG fun n23=>aO l_p fun a24 l25 c26=>asI i_3 fun n27=>0≤n27∧n27 < (l25:Int)∧∃v28,af h16 (Addr.add (Addr.add a24 (n27.toNat*9)) 7)=some v28 ∧
 asK .i64 ee fun n29=>ae Tryz.prog ω 49 [v28,(.int .i64 (IntKind.wrap .i64 (n23+1))),(.int .i64 (IntKind.wrap .i64 (n29+1)))] h16 (fun r30 h31 =>
 asT r30 fun T32=>asO T32[0]? fun v33=>asT r30 fun T34=>asO T34[1]? fun v35=>asA v33 fun A36=>A36.size=2∧(∀u∈A36.toList,one u)∧az (h31.push (.cells #[.int .i64 0,.int .i64 0] 28 (0,0))) ⟨h31.size,0,none⟩ A36.toList fun h37 =>
 ∃v38,af h37 (Addr.add ⟨h31.size,0,none⟩ 0)=some v38 ∧
 asK .i64 v38 fun n39=>∃J40:RT,
 (cond (n39==(0:Int))
 (aO l_p fun a44 l45 c46=>asI i_3 fun n47=>0≤n47∧n47 < (l45:Int)∧∃v48,af h37 (Addr.add (Addr.add a44 (n47.toNat*9)) 8)=some v48 ∧
 asK .i64 ee fun n49=>ae Tryz.prog ω 49 [v48,v35,(.int .i64 (IntKind.wrap .i64 (n49+1)))] h37 (fun r50 h51 =>
 asT r50 fun T52=>asO T52[0]? fun v53=>asT r50 fun T54=>asO T54[1]? fun v55=>asA v53 fun A56=>A56.size=2∧(∀u∈A56.toList,one u)∧az h51 ⟨h31.size,0,none⟩ A56.toList fun h57 =>
 J40 v55 h57) X)
 (J40 v35 h37)) ∧
 ∀n_41 (d42:Nat→Value) (h43:Hp),J40 n_41 h43 →
 ∃v58,af h43 (Addr.add ⟨h31.size,0,none⟩ 0)=some v58 ∧
 asK .i64 v58 fun n59=>cond (n59 !=(0:Int))
 (∃C60,ak h43 ⟨h31.size,0,none⟩ 2 C60 ∧
 C60.toArray.size=2∧(∀u∈C60.toArray.toList,one u)∧az h43 ⟨h.size,0,none⟩ C60.toArray.toList fun h61 =>
 ∃C62,ak h61 ⟨h.size,0,none⟩ 2 C62∧R (.tuple #[.agg C62.toArray,n_41]) h61)
 (asK .i64 i_3 fun n63=>I0 n_41 (.int .i64 (IntKind.wrap .i64 (n63+1))) h43∧μ1 n_41 (.int .i64 (IntKind.wrap .i64 (n63+1))) h43 < μ1 MG i_3 h5)) X)) X)
 (2=2∧(∀u∈[.int .i64 0,.int .i64 0],one u)∧az h5 ⟨h.size,0,none⟩ [.int .i64 0,.int .i64 0] fun h64 =>
 ∃C65,ak h64 ⟨h.size,0,none⟩ 2 C65∧R (.tuple #[.agg C65.toArray,MG]) h64)
def j9:Ann :=
 (.T .L (.T (.T .L (.one (.loop [12,13,14,15,18,19,20,21,22,23,24,9,25,26,27,28,29,30,7,31,32,1,34,35,36,37,38,39,40,41,42,33,43,44,10,11,45,46,47,49,50,51,52,53,54,55,56,57,48,58,59,60,61,62,63,64,65,16,17,8] [1,8] (.T (.T .L (.T .L .L)) (.T (.one (.T (.T .L (.T .L (.T (.T .L .L) .L))) (.T .L (.T .L (.T (.T .L (.join [49,50,51,52,53,54,55,56,57,48,58,59,11] [11] (.T .L .L))) (.T (.T .L (.T (.T .L .L) .L)) .L)))))) .L))))) (.T .L .L)))
theorem kq (ω:Amb)(l_p ck ee:Value)(h:Hp)(R:RT)(X:XT)(hk:ep ω l_p ck ee h R X):ae Tryz.prog ω 49 [l_p,ck,ee] h R X :=
 au (an:=j9) Tryz.func49 (by kernel_rfl) hk
abbrev mm:Nat:=50
def e9 (ω:Amb)(t_p:Value)(h:Hp)(R:RT)(X:XT):Prop :=
 ∃(I0:Value→RT) (μ1:Value→Value→Hp→Nat),I0 (.string ⟨#[]⟩) (.int .i64 0) h∧∀iQ i_3 (d4:Nat→Value) (h5:Hp),I0 iQ i_3 h5 →
 asS t_p fun s6=>asK .i64 i_3 fun n7=>cond (decide (n7 < (IntKind.wrap .i64 ((s6.size:Int) - 1))))
 (∃J8:RT,
 (asK .i64 i_3 fun n12=>asS t_p fun s13=>asI i_3 fun n14=>0≤n14∧n14≤(IntKind.wrap .i64 (n12+1))∧(IntKind.wrap .i64 (n12+1))≤(s13.size:Int)∧∃J15:RT,
 (cond (ByteArray.toList (ByteArray.extract s13 (n14.toNat) (Int.toNat (IntKind.wrap .i64 (n12+1))))==ByteArray.toList ⟨#[115]⟩)
 (asS iQ fun s19=>s19.size+ByteArray.size ⟨#[115,101,110,100,32]⟩≤9223372036854775807∧J15 (.string (s19++⟨#[115,101,110,100,32]⟩)) h5)
 (asS iQ fun s20=>s20.size+ByteArray.size ⟨#[114,101,99,118,32]⟩≤9223372036854775807∧J15 (.string (s20++⟨#[114,101,99,118,32]⟩)) h5)) ∧
 ∀K7 (d17:Nat→Value) (h18:Hp),J15 K7 h18 →
 J8 K7 h18) ∧
 ∀My (d10:Nat→Value) (h11:Hp),J8 My h11 →
 asK .i64 i_3 fun n21=>I0 My (.int .i64 (IntKind.wrap .i64 (n21+1))) h11∧μ1 My (.int .i64 (IntKind.wrap .i64 (n21+1))) h11 < μ1 iQ i_3 h5)
 (asS iQ fun s22=>s22.size+ByteArray.size ⟨#[105,110,116]⟩≤9223372036854775807∧R (.string (s22++⟨#[105,110,116]⟩)) h5)
def lL:Ann :=
 (.T .L (.T .L (.T (.T .L (.one (.loop [5,6,7,8,9,12,13,14,15,16,17,18,19,3,20,21,10,11,4] [3,4] (.T (.T .L (.T .L .L)) (.T (.join [12,13,14,15,16,17,18,19,3,20,21] [3] (.one (.T .L (.join [18,19,3,20,21] [3] (.T .L .L))))) .L))))) (.T .L .L))))
theorem ma (ω:Amb)(t_p:Value)(h:Hp)(R:RT)(X:XT)(hk:e9 ω t_p h R X):ae Tryz.prog ω 50 [t_p] h R X :=
 au (an:=lL) Tryz.func50 (by kernel_rfl) hk
abbrev lk:Nat:=51
def eG (ω:Amb)(l_p nz:Value)(h:Hp)(R:RT)(X:XT):Prop :=
 ∃(I0:Value→RT) (μ1:Value→Value→Hp→Nat),I0 (.string ⟨#[32,123,10]⟩) (.int .i64 0) h∧∀iQ i_3 (d4:Nat→Value) (h5:Hp),I0 iQ i_3 h5 →
 bD l_p fun a6 l7 c8=>asK .i64 i_3 fun n9=>cond (decide (n9 < (l7:Int)))
 (aO l_p fun a10 l11 c12=>asI i_3 fun n13=>0≤n13∧n13 < (l11:Int)∧∃C14,ak h5 (Addr.add a10 (n13.toNat*9)) 9 C14 ∧
 asS nz fun s15=>s15.size+ByteArray.size ⟨#[9]⟩≤9223372036854775807∧ae Tryz.prog ω 79 [.agg C14.toArray,(.string (s15++⟨#[9]⟩))] h5 (fun r16 h17 =>
 asS iQ fun s18=>asS r16 fun s19=>s18.size+s19.size≤9223372036854775807∧asK .i64 i_3 fun n20=>I0 (.string (s18++s19)) (.int .i64 (IntKind.wrap .i64 (n20+1))) h17∧μ1 (.string (s18++s19)) (.int .i64 (IntKind.wrap .i64 (n20+1))) h17 < μ1 iQ i_3 h5) X)
 (asS iQ fun s21=>asS nz fun s22=>s21.size+s22.size≤9223372036854775807∧ByteArray.size (s21++s22)+ByteArray.size ⟨#[125]⟩≤9223372036854775807∧R (.string ((s21++s22)++⟨#[125]⟩)) h5)
def lF:Ann :=
 (.T .L (.T .L (.T (.T .L (.one (.loop [7,8,9,10,13,14,15,16,17,18,19,20,21,5,11,12,6] [5,6] (.T (.T .L (.T .L .L)) (.T (.one .L) .L))))) (.T .L .L))))
theorem kM (ω:Amb)(l_p nz:Value)(h:Hp)(R:RT)(X:XT)(hk:eG ω l_p nz h R X):ae Tryz.prog ω 51 [l_p,nz] h R X :=
 au (an:=lF) Tryz.func51 (by kernel_rfl) hk
abbrev lp:Nat:=74
def ez (ω:Amb)(a_p b_p:Value)(h:Hp)(R:RT)(X:XT):Prop :=
 bD a_p fun a0 l1 c2=>bD b_p fun a3 l4 c5=>cond ((l1:Int) !=(l4:Int))
 (R (.bool false) h)
 (∃(I6:RT) (μ7:Value→Hp→Nat),I6 (.int .i64 0) h∧∀i_8 (d9:Nat→Value) (h10:Hp),I6 i_8 h10 →
 bD a_p fun a11 l12 c13=>asK .i64 i_8 fun n14=>cond (decide (n14 < (l12:Int)))
 (∃J15:RT,
 (aO a_p fun a19 l20 c21=>asI i_8 fun n22=>0≤n22∧n22 < (l20:Int)∧∃v23,af h10 (Addr.add (Addr.add a19 (n22.toNat*4)) 0)=some v23 ∧
 aO b_p fun a24 l25 c26=>asI i_8 fun n27=>0≤n27∧n27 < (l25:Int)∧∃v28,af h10 (Addr.add (Addr.add a24 (n27.toNat*4)) 0)=some v28 ∧
 asK .i64 v23 fun n29=>asK .i64 v28 fun n30=>cond (n29 !=n30)
 (J15 (.bool true) h10)
 (aO a_p fun a31 l32 c33=>asI i_8 fun n34=>0≤n34∧n34 < (l32:Int)∧∃v35,af h10 (Addr.add (Addr.add a31 (n34.toNat*4)) 1)=some v35 ∧
 aO b_p fun a36 l37 c38=>asI i_8 fun n39=>0≤n39∧n39 < (l37:Int)∧∃v40,af h10 (Addr.add (Addr.add a36 (n39.toNat*4)) 1)=some v40 ∧
 asS v35 fun s41=>asS v40 fun s42=>cond (!(s41.toList==s42.toList))
 (J15 (.bool true) h10)
 (aO a_p fun a43 l44 c45=>asI i_8 fun n46=>0≤n46∧n46 < (l44:Int)∧∃v47,af h10 (Addr.add (Addr.add a43 (n46.toNat*4)) 2)=some v47 ∧
 aO b_p fun a48 l49 c50=>asI i_8 fun n51=>0≤n51∧n51 < (l49:Int)∧∃v52,af h10 (Addr.add (Addr.add a48 (n51.toNat*4)) 2)=some v52 ∧
 asK .i64 v47 fun n53=>asK .i64 v52 fun n54=>cond (n53 !=n54)
 (J15 (.bool true) h10)
 (aO a_p fun a55 l56 c57=>asI i_8 fun n58=>0≤n58∧n58 < (l56:Int)∧∃v59,af h10 (Addr.add (Addr.add a55 (n58.toNat*4)) 3)=some v59 ∧
 aO b_p fun a60 l61 c62=>asI i_8 fun n63=>0≤n63∧n63 < (l61:Int)∧∃v64,af h10 (Addr.add (Addr.add a60 (n63.toNat*4)) 3)=some v64 ∧
 ae Tryz.prog ω 74 [v59,v64] h10 (fun r65 h66 =>
 asB r65 fun b67=>J15 (.bool (!b67)) h66) X)))) ∧
 ∀Kn (d17:Nat→Value) (h18:Hp),J15 Kn h18 →
 asB Kn fun b68=>cond b68
 (R (.bool false) h18)
 (asK .i64 i_8 fun n69=>I6 (.int .i64 (IntKind.wrap .i64 (n69+1))) h18∧μ7 (.int .i64 (IntKind.wrap .i64 (n69+1))) h18 < μ7 i_8 h10))
 (R (.bool true) h10))
def lz:Ann :=
 (.T .L (.T (.T .L (.T (.T .L .L) .L)) (.T (.T .L (.one (.loop [11,12,13,14,17,18,19,20,21,22,23,24,25,26,27,28,29,30,31,32,33,34,35,36,37,38,39,40,41,42,43,44,45,46,47,48,49,50,51,52,53,54,55,56,57,58,59,60,61,62,63,64,65,66,67,4,15,16,5] [5] (.T (.T .L (.T .L .L)) (.T (.one (.T (.join [17,18,19,20,21,22,23,24,25,26,27,28,29,30,31,32,33,34,35,36,37,38,39,40,41,42,43,44,45,46,47,48,49,50,51,52,53,54,55,56,57,58,59,60,61,62,63,64,65,66,67] [67] (.plan [0,1,2,3,4,5,6,7,8,9,10,11,12,13,14,15,16,17,18,19,20,21,22,23,24,25,26,27,28,29,30,31,32,33,34,35,36,37,38,39,40,41,42,43,44,45,46,47,48,49,50])) (.T (.T .L .L) .L))) .L))))) (.T .L .L))))
theorem ln (ω:Amb)(a_p b_p:Value)(h:Hp)(R:RT)(X:XT)(hk:ez ω a_p b_p h R X):ae Tryz.prog ω 74 [a_p,b_p] h R X :=
 au (an:=lz) Tryz.func74 (by kernel_rfl) hk
abbrev qe:Nat:=75
def ic (ω:Amb)(c_p:Value)(h:Hp)(R:RT)(X:XT):Prop :=
 ∃J0:RT,
 (asK .u8 c_p fun n4=>cond (decide (n4≥97))
 (asK .u8 c_p fun n5=>J0 (.bool (decide (n5≤122))) h)
 (J0 (.bool false) h)) ∧
 ∀Cg (d2:Nat→Value) (h3:Hp),J0 Cg h3 →
 R Cg h3
def qa:Ann :=
 (.T .L (.T (.join [3,4,5,6,7,8,2] [2] .L) .L))
theorem ph (ω:Amb)(c_p:Value)(h:Hp)(R:RT)(X:XT)(hk:ic ω c_p h R X):ae Tryz.prog ω 75 [c_p] h R X :=
 au (an:=qa) Tryz.func75 (by kernel_rfl) hk
abbrev oJ:Nat:=76
def gH (ω:Amb)(s_p:Value)(h:Hp)(R:RT)(X:XT):Prop :=
 ∃(I0:RT) (μ1:Value→Hp→Nat),I0 (.int .i64 0) (h.push (.cells (List.toArray [(.string ⟨#[97,98,97,110,100,111,110]⟩),(.string ⟨#[99,104,97,110]⟩),(.string ⟨#[99,108,111,110,101]⟩),(.string ⟨#[99,108,111,115,101]⟩),(.string ⟨#[100,114,97,105,110]⟩),(.string ⟨#[101,108,115,101]⟩),(.string ⟨#[101,109,105,116]⟩),(.string ⟨#[102,111,114]⟩),(.string ⟨#[102,114,111,109]⟩),(.string ⟨#[105,102]⟩),(.string ⟨#[105,110,116]⟩),(.string ⟨#[108,101,116]⟩),(.string ⟨#[114,101,99,118]⟩),(.string ⟨#[114,101,112,101,97,116]⟩),(.string ⟨#[115,101,110,100]⟩),(.string ⟨#[115,101,116]⟩),(.string ⟨#[115,112,97,119,110]⟩),(.string ⟨#[115,116,97,103,101]⟩),(.string ⟨#[116,97,107,101]⟩)]) 9 (0,0)))∧∀i_2 (d3:Nat→Value) (h4:Hp),I0 i_2 h4 →
 asK .i64 i_2 fun n5=>cond (decide (n5 < (19:Int)))
 (asI i_2 fun n6=>0≤n6∧n6 < (19:Int)∧∃v7,af h4 (Addr.add ⟨h.size,0,none⟩ (n6.toNat*1))=some v7 ∧
 asS v7 fun s8=>asS s_p fun s9=>cond (s8.toList==s9.toList)
 (R (.bool true) h4)
 (asK .i64 i_2 fun n10=>I0 (.int .i64 (IntKind.wrap .i64 (n10+1))) h4∧μ1 (.int .i64 (IntKind.wrap .i64 (n10+1))) h4 < μ1 i_2 h4))
 (R (.bool false) h4)
def o4:Ann :=
 (.T .L (.T .L (.T (.T .L (.one (.loop [6,7,8,9,12,13,14,15,16,17,2,10,11,4] [4] (.T (.T .L (.T .L .L)) (.T (.one (.T .L (.T (.T .L .L) .L))) .L))))) (.T .L .L))))
theorem od (ω:Amb)(s_p:Value)(h:Hp)(R:RT)(X:XT)(hk:gH ω s_p h R X):ae Tryz.prog ω 76 [s_p] h R X :=
 au (an:=o4) Tryz.func76 (by kernel_rfl) hk
abbrev qb:Nat:=77
def ie (ω:Amb)(c_p:Value)(h:Hp)(R:RT)(X:XT):Prop :=
 ∃J0:RT,
 (asK .u8 c_p fun n4=>cond (decide (n4≥48))
 (asK .u8 c_p fun n5=>J0 (.bool (decide (n5≤57))) h)
 (J0 (.bool false) h)) ∧
 ∀Cg (d2:Nat→Value) (h3:Hp),J0 Cg h3 →
 R Cg h3
def ql:Ann :=
 (.T .L (.T (.join [3,4,5,6,7,8,2] [2] .L) .L))
theorem qd (ω:Amb)(c_p:Value)(h:Hp)(R:RT)(X:XT)(hk:ie ω c_p h R X):ae Tryz.prog ω 77 [c_p] h R X :=
 au (an:=ql) Tryz.func77 (by kernel_rfl) hk
abbrev lB:Nat:=78
def eK (ω:Amb)(s_p ck ee:Value)(h:Hp)(R:RT)(X:XT):Prop :=
 asK .i64 ck fun n0=>cond (decide (n0≥300))
 (R (.int .i64 8) (h.push (.cells (Value.cells s_p) 39 (0,0))))
 (∃C1,ak (h.push (.cells (Value.cells s_p) 39 (0,0))) ⟨h.size,0,none⟩ 9 C1 ∧
 ae Tryz.prog ω 102 [.agg C1.toArray] (h.push (.cells (Value.cells s_p) 39 (0,0))) (fun r2 h3 =>
 asB r2 fun b4=>cond (!b4)
 (R (.int .i64 5) h3)
 (∃v5,af h3 (Addr.add ⟨h.size,0,none⟩ 6)=some v5 ∧
 bD v5 fun a6 l7 c8=>cond (decide ((l7:Int) > 6))
 (R (.int .i64 8) h3)
 (∃v9,af h3 (Addr.add ⟨h.size,0,none⟩ 0)=some v9 ∧
 ae Tryz.prog ω 103 [v9] h3 (fun r10 h11 =>
 ∃J12:RT,
 (asS r10 fun s16=>0≤(0:Int)∧(0:Int)≤1∧1≤(s16.size:Int)∧cond (ByteArray.toList (ByteArray.extract s16 (Int.toNat 0) (Int.toNat 1))==ByteArray.toList ⟨#[65]⟩)
 (∃v17,af h11 (Addr.add ⟨h.size,0,none⟩ 2)=some v17 ∧
 ae Tryz.prog ω 47 [v17] h11 (fun r18 h19 =>
 asB r18 fun b20=>cond (!b20)
 (J12 (.bool true) h19)
 (asS r10 fun s21=>0≤(1:Int)∧(1:Int)≤2∧2≤(s21.size:Int)∧cond (ByteArray.toList (ByteArray.extract s21 (Int.toNat 1) (Int.toNat 2))==ByteArray.toList ⟨#[66]⟩)
 (∃v22,af h19 (Addr.add ⟨h.size,0,none⟩ 3)=some v22 ∧
 ae Tryz.prog ω 47 [v22] h19 (fun r23 h24 =>
 asB r23 fun b25=>J12 (.bool (!b25)) h24) X)
 (J12 (.bool false) h19))) X)
 (asS r10 fun s26=>0≤(1:Int)∧(1:Int)≤2∧2≤(s26.size:Int)∧cond (ByteArray.toList (ByteArray.extract s26 (Int.toNat 1) (Int.toNat 2))==ByteArray.toList ⟨#[66]⟩)
 (∃v27,af h11 (Addr.add ⟨h.size,0,none⟩ 3)=some v27 ∧
 ae Tryz.prog ω 47 [v27] h11 (fun r28 h29 =>
 asB r28 fun b30=>J12 (.bool (!b30)) h29) X)
 (J12 (.bool false) h11))) ∧
 ∀Kz (d14:Nat→Value) (h15:Hp),J12 Kz h15 →
 asB Kz fun b31=>cond b31
 (R (.int .i64 4) h15)
 (∃J32:RT,
 (asS r10 fun s36=>0≤(2:Int)∧(2:Int)≤3∧3≤(s36.size:Int)∧cond (ByteArray.toList (ByteArray.extract s36 (Int.toNat 2) (Int.toNat 3))==ByteArray.toList ⟨#[84]⟩)
 (∃v37,af h15 (Addr.add ⟨h.size,0,none⟩ 4)=some v37 ∧
 ae Tryz.prog ω 48 [v37,.int .i64 3] h15 (fun r38 h39 =>
 asB r38 fun b40=>J32 (.bool (!b40)) h39) X)
 (J32 (.bool false) h15)) ∧
 ∀Kk (d34:Nat→Value) (h35:Hp),J32 Kk h35 →
 asB Kk fun b41=>cond b41
 (R (.int .i64 11) h35)
 (∃β42:Bool,
 (∃v44,af h35 (Addr.add ⟨h.size,0,none⟩ 5)=some v44 ∧
 asK .i64 v44 fun n45=>cond (decide (n45 < 0))
 (((.bool true):Value)=.bool β42∧h35=h35)
 (∃v46,af h35 (Addr.add ⟨h.size,0,none⟩ 5)=some v46 ∧
 asK .i64 v46 fun n47=>((.bool (decide (n47≥1000000000000000000))):Value)=.bool β42∧h35=h35)) ∧
 ∀d43:Nat→Value,
 cond β42
 (R (.int .i64 14) h35)
 (∃(I48:RT) (μ49:Value→Hp→Nat),I48 (.int .i64 0) h35∧∀MQ (d51:Nat→Value) (h52:Hp),I48 MQ h52 →
 ∃v53,af h52 (Addr.add ⟨h.size,0,none⟩ 6)=some v53 ∧
 bD v53 fun a54 l55 c56=>asK .i64 MQ fun n57=>cond (decide (n57 < (l55:Int)))
 (∃v58,af h52 (Addr.add ⟨h.size,0,none⟩ 6)=some v58 ∧
 aO v58 fun a59 l60 c61=>asI MQ fun n62=>0≤n62∧n62 < (l60:Int)∧∃C63,ak h52 (Addr.add a59 (n62.toNat*4)) 4 C63 ∧
 ae Tryz.prog ω 104 [.agg C63.toArray] h52 (fun r64 h65 =>
 asK .i64 r64 fun n66=>cond (decide (n66 > 20))
 (R (.int .i64 8) h65)
 (∃v67,af h65 (Addr.add ⟨h.size,0,none⟩ 6)=some v67 ∧
 aO v67 fun a68 l69 c70=>asI MQ fun n71=>0≤n71∧n71 < (l69:Int)∧∃C72,ak h65 (Addr.add a68 (n71.toNat*4)) 4 C72 ∧
 ae Tryz.prog ω 105 [.agg C72.toArray] h65 (fun r73 h74 =>
 asK .i64 r73 fun n75=>cond (n75 !=(0:Int))
 (R r73 h74)
 (asK .i64 MQ fun n76=>I48 (.int .i64 (IntKind.wrap .i64 (n76+1))) h74∧μ49 (.int .i64 (IntKind.wrap .i64 (n76+1))) h74 < μ49 MQ h52)) X)) X)
 (∃β77:Bool,
 (asS r10 fun s79=>0≤(5:Int)∧(5:Int)≤6∧6≤(s79.size:Int)∧cond (ByteArray.toList (ByteArray.extract s79 (Int.toNat 5) (Int.toNat 6))==ByteArray.toList ⟨#[66]⟩)
 (asK .i64 ee fun n80=>((.bool (decide (n80≥8))):Value)=.bool β77∧h52=h52)
 (((.bool false):Value)=.bool β77∧h52=h52)) ∧
 ∀d78:Nat→Value,
 cond β77
 (R (.int .i64 7) h52)
 (R (.int .i64 0) h52)))))) X))) X)
def lG:Ann :=
 (.T .L (.T (.T .L (.T (.T .L .L) .L)) (.T (.T .L (.T (.T .L .L) .L)) (.T (.T .L (.T (.T .L .L) .L)) (.T .L (.T (.T (.join [22,23,24,25,26,27,28,29,30,31,32,33,34,35,36,37,38,39,40,41] [41] .L) (.T (.T .L .L) .L)) (.T (.T (.join [42,43,44,45,46,47,48,49,50] [50] .L) (.T (.T .L .L) .L)) (.T (.T (.jb [51,52,53,54,55,56,57,58] 58 .L) (.T (.T .L .L) .L)) (.T (.T .L (.one (.loop [59,60,61,62,63,66,67,68,69,70,71,72,6,73,74,75,76,77,78,9,79,80,81,64,65,8] [8] (.T (.T .L (.T .L .L)) (.T (.one (.T (.T .L (.T (.T .L .L) .L)) (.T .L (.T .L (.T (.T .L .L) .L))))) .L))))) (.T (.T (.jb [82,83,84,85,86,87,88] 88 .L) (.T (.T .L .L) .L)) (.T .L .L)))))))))))
theorem lm (ω:Amb)(s_p ck ee:Value)(h:Hp)(R:RT)(X:XT)(hk:eK ω s_p ck ee h R X):ae Tryz.prog ω 78 [s_p,ck,ee] h R X :=
 au (an:=lG) Tryz.func78 (by kernel_rfl) hk
abbrev mr:Nat:=79
abbrev bm (h:Hp)(s_p:Value):Hp:=Array.push (h.push (.cells (Value.cells s_p) 39 (0,0))) (.cells (List.toArray [.string ⟨#[]⟩,(.string ⟨#[108,101,116]⟩),(.string ⟨#[115,101,116]⟩),(.string ⟨#[101,109,105,116]⟩),(.string ⟨#[99,104,97,110]⟩),(.string ⟨#[99,108,111,110,101]⟩),(.string ⟨#[115,101,110,100]⟩),(.string ⟨#[99,108,111,115,101]⟩),(.string ⟨#[97,98,97,110,100,111,110]⟩),(.string ⟨#[100,114,97,105,110]⟩),(.string ⟨#[115,112,97,119,110]⟩),(.string ⟨#[116,97,107,101]⟩),(.string ⟨#[102,111,114]⟩),(.string ⟨#[114,101,112,101,97,116]⟩),(.string ⟨#[105,102]⟩)]) 9 (0,0))
def fc (ω:Amb)(s_p nz:Value)(h:Hp)(R:RT)(X:XT):Prop :=
 ∃v0,af (bm h s_p) (Addr.add ⟨h.size,0,none⟩ 0)=some v0 ∧
 asI v0 fun n1=>0≤n1∧n1 < (15:Int)∧∃v2,af (bm h s_p) (Addr.add ⟨Array.size (h.push (.cells (Value.cells s_p) 39 (0,0))),0,none⟩ (n1.toNat*1))=some v2 ∧
 asS nz fun s3=>asS v2 fun s4=>s3.size+s4.size≤9223372036854775807∧∃v5,af (bm h s_p) (Addr.add ⟨h.size,0,none⟩ 2)=some v5 ∧
 asS v5 fun s6=>∃J7:RT,
 (cond (!(s6.toList==ByteArray.toList ⟨#[]⟩))
 (∃v11,af (bm h s_p) (Addr.add ⟨h.size,0,none⟩ 2)=some v11 ∧
 asS v11 fun s12=>ByteArray.size ⟨#[32]⟩+s12.size≤9223372036854775807∧ByteArray.size (s3++s4)+ByteArray.size (⟨#[32]⟩++s12)≤9223372036854775807∧J7 (.string ((s3++s4)++(⟨#[32]⟩++s12))) (bm h s_p))
 (J7 (.string (s3++s4)) (bm h s_p))) ∧
 ∀L7 (d9:Nat→Value) (h10:Hp),J7 L7 h10 →
 ∃β13:Bool,
 (∃v15,af h10 (Addr.add ⟨h.size,0,none⟩ 0)=some v15 ∧
 asK .i64 v15 fun n16=>cond (n16==(1:Int))
 (((.bool true):Value)=.bool β13∧h10=h10)
 (∃v17,af h10 (Addr.add ⟨h.size,0,none⟩ 0)=some v17 ∧
 asK .i64 v17 fun n18=>((.bool (n18==(2:Int))):Value)=.bool β13∧h10=h10)) ∧
 ∀d14:Nat→Value,
 ∃J19:RT,
 (cond β13
 (asS L7 fun s23=>s23.size+ByteArray.size ⟨#[32,61]⟩≤9223372036854775807∧J19 (.string (s23++⟨#[32,61]⟩)) h10)
 (J19 L7 h10)) ∧
 ∀G9 (d21:Nat→Value) (h22:Hp),J19 G9 h22 →
 ∃β24:Bool,
 (∃v26,af h22 (Addr.add ⟨h.size,0,none⟩ 0)=some v26 ∧
 asK .i64 v26 fun n27=>cond (n27==(11:Int))
 (((.bool true):Value)=.bool β24∧h22=h22)
 (∃v28,af h22 (Addr.add ⟨h.size,0,none⟩ 0)=some v28 ∧
 asK .i64 v28 fun n29=>((.bool (n29==(12:Int))):Value)=.bool β24∧h22=h22)) ∧
 ∀d25:Nat→Value,
 ∃J30:RT,
 (cond β24
 (asS G9 fun s34=>s34.size+ByteArray.size ⟨#[32,102,114,111,109]⟩≤9223372036854775807∧J30 (.string (s34++⟨#[32,102,114,111,109]⟩)) h22)
 (J30 G9 h22)) ∧
 ∀GI (d32:Nat→Value) (h33:Hp),J30 GI h33 →
 ∃v35,af h33 (Addr.add ⟨h.size,0,none⟩ 3)=some v35 ∧
 asS v35 fun s36=>∃J37:RT,
 (cond (!(s36.toList==ByteArray.toList ⟨#[]⟩))
 (∃v41,af h33 (Addr.add ⟨h.size,0,none⟩ 3)=some v41 ∧
 asS v41 fun s42=>ByteArray.size ⟨#[32]⟩+s42.size≤9223372036854775807∧asS GI fun s43=>s43.size+ByteArray.size (⟨#[32]⟩++s42)≤9223372036854775807∧J37 (.string (s43++(⟨#[32]⟩++s42))) h33)
 (J37 GI h33)) ∧
 ∀EK (d39:Nat→Value) (h40:Hp),J37 EK h40 →
 ∃v44,af h40 (Addr.add ⟨h.size,0,none⟩ 0)=some v44 ∧
 asK .i64 v44 fun n45=>∃J46:RT,
 (cond (n45==(4:Int))
 (∃v50,af h40 (Addr.add ⟨h.size,0,none⟩ 4)=some v50 ∧
 ∃v51,af h40 (Addr.add ⟨h.size,0,none⟩ 5)=some v51 ∧
 ae Tryz.prog ω 50 [v50] h40 (fun r52 h53 =>
 af h53 (Addr.add ⟨h.size,0,none⟩ 5)=some v51∧asS r52 fun s54=>ByteArray.size ⟨#[32]⟩+s54.size≤9223372036854775807∧ByteArray.size (⟨#[32]⟩++s54)+ByteArray.size ⟨#[32]⟩≤9223372036854775807∧ae Tryz.prog ω 106 [v51] h53 (fun r55 h56 =>
 asS r55 fun s57=>ByteArray.size ((⟨#[32]⟩++s54)++⟨#[32]⟩)+s57.size≤9223372036854775807∧asS EK fun s58=>s58.size+ByteArray.size (((⟨#[32]⟩++s54)++⟨#[32]⟩)++s57)≤9223372036854775807∧J46 (.string (s58++(((⟨#[32]⟩++s54)++⟨#[32]⟩)++s57))) h56) X) X)
 (J46 EK h40)) ∧
 ∀Hy (d48:Nat→Value) (h49:Hp),J46 Hy h49 →
 ∃v59,af h49 (Addr.add ⟨h.size,0,none⟩ 0)=some v59 ∧
 asK .i64 v59 fun n60=>∃J61:RT,
 (cond (n60==(10:Int))
 (asS Hy fun s65=>s65.size+ByteArray.size ⟨#[40]⟩≤9223372036854775807∧J61 (.string (s65++⟨#[40]⟩)) h49)
 (J61 Hy h49)) ∧
 ∀K8 (d63:Nat→Value) (h64:Hp),J61 K8 h64 →
 ∃(I66:Value→RT) (μ67:Value→Value→Hp→Nat),I66 K8 (.int .i64 0) h64∧∀wN Lk (d70:Nat→Value) (h71:Hp),I66 wN Lk h71 →
 ∃v72,af h71 (Addr.add ⟨h.size,0,none⟩ 6)=some v72 ∧
 bD v72 fun a73 l74 c75=>asK .i64 Lk fun n76=>cond (decide (n76 < (l74:Int)))
 (asK .i64 Lk fun n77=>∃J78:RT,
 (cond (decide (n77 > 0))
 (asS wN fun s82=>s82.size+ByteArray.size ⟨#[44]⟩≤9223372036854775807∧J78 (.string (s82++⟨#[44]⟩)) h71)
 (J78 wN h71)) ∧
 ∀G7 (d80:Nat→Value) (h81:Hp),J78 G7 h81 →
 ∃β83:Bool,
 (asK .i64 Lk fun n85=>cond (decide (n85 > 0))
 (((.bool true):Value)=.bool β83∧h81=h81)
 (∃v86,af h81 (Addr.add ⟨h.size,0,none⟩ 0)=some v86 ∧
 asK .i64 v86 fun n87=>((.bool (n87 !=(10:Int))):Value)=.bool β83∧h81=h81)) ∧
 ∀d84:Nat→Value,
 ∃J88:RT,
 (cond β83
 (asS G7 fun s92=>s92.size+ByteArray.size ⟨#[32]⟩≤9223372036854775807∧J88 (.string (s92++⟨#[32]⟩)) h81)
 (J88 G7 h81)) ∧
 ∀KO (d90:Nat→Value) (h91:Hp),J88 KO h91 →
 ∃v93,af h91 (Addr.add ⟨h.size,0,none⟩ 6)=some v93 ∧
 aO v93 fun a94 l95 c96=>asI Lk fun n97=>0≤n97∧n97 < (l95:Int)∧∃C98,ak h91 (Addr.add a94 (n97.toNat*4)) 4 C98 ∧
 ae Tryz.prog ω 107 [.agg C98.toArray,.int .i64 0] h91 (fun r99 h100 =>
 asS KO fun s101=>asS r99 fun s102=>s101.size+s102.size≤9223372036854775807∧asK .i64 Lk fun n103=>I66 (.string (s101++s102)) (.int .i64 (IntKind.wrap .i64 (n103+1))) h100∧μ67 (.string (s101++s102)) (.int .i64 (IntKind.wrap .i64 (n103+1))) h100 < μ67 wN Lk h71) X)
 (∃v104,af h71 (Addr.add ⟨h.size,0,none⟩ 0)=some v104 ∧
 asK .i64 v104 fun n105=>∃J106:RT,
 (cond (n105==(10:Int))
 (asS wN fun s110=>s110.size+ByteArray.size ⟨#[41]⟩≤9223372036854775807∧J106 (.string (s110++⟨#[41]⟩)) h71)
 (J106 wN h71)) ∧
 ∀BF (d108:Nat→Value) (h109:Hp),J106 BF h109 →
 ∃v111,af h109 (Addr.add ⟨h.size,0,none⟩ 0)=some v111 ∧
 asK .i64 v111 fun n112=>cond (decide (n112 < 11))
 (asS BF fun s113=>s113.size+ByteArray.size ⟨#[59,10]⟩≤9223372036854775807∧R (.string (s113++⟨#[59,10]⟩)) h109)
 (∃v114,af h109 (Addr.add ⟨h.size,0,none⟩ 7)=some v114 ∧
 ae Tryz.prog ω 51 [v114,nz] h109 (fun r115 h116 =>
 asS BF fun s117=>asS r115 fun s118=>s117.size+s118.size≤9223372036854775807∧∃v119,af h116 (Addr.add ⟨h.size,0,none⟩ 8)=some v119 ∧
 bD v119 fun a120 l121 c122=>∃J123:RT,
 (cond (decide ((l121:Int) > 0))
 (∃v127,af h116 (Addr.add ⟨h.size,0,none⟩ 8)=some v127 ∧
 ae Tryz.prog ω 51 [v127,nz] h116 (fun r128 h129 =>
 asS r128 fun s130=>ByteArray.size ⟨#[32,101,108,115,101]⟩+s130.size≤9223372036854775807∧ByteArray.size (s117++s118)+ByteArray.size (⟨#[32,101,108,115,101]⟩++s130)≤9223372036854775807∧J123 (.string ((s117++s118)++(⟨#[32,101,108,115,101]⟩++s130))) h129) X)
 (J123 (.string (s117++s118)) h116)) ∧
 ∀HF (d125:Nat→Value) (h126:Hp),J123 HF h126 →
 asS HF fun s131=>s131.size+ByteArray.size ⟨#[10]⟩≤9223372036854775807∧R (.string (s131++⟨#[10]⟩)) h126) X))
def mc:Ann :=
 (.T .L (.T .L (.T .L (.T (.T .L (.join [19,20,21,22,23,6] [6] (.T .L .L))) (.T (.T (.jb [24,25,26,27,28,29,30,31] 31 .L) (.join [32,33,6] [6] (.T .L .L))) (.T (.T (.jb [34,35,36,37,38,39,40,41] 41 .L) (.join [42,43,6] [6] (.T .L .L))) (.T (.T .L (.join [47,48,49,50,51,6] [6] (.T .L .L))) (.T (.T .L (.join [55,56,57,58,59,60,61,62,63,64,65,6] [6] (.T (.plan [0,1,2,6,7,3,4,5,8,9,10,11]) .L))) (.T (.T .L (.join [69,70,6] [6] (.T .L .L))) (.T (.T .L (.one (.loop [71,72,73,74,75,78,79,80,81,6,82,83,84,85,86,87,88,89,90,91,92,93,94,95,96,97,98,76,77,7] [6,7] (.T (.T .L (.T .L .L)) (.T (.one (.T (.T .L (.join [80,81,6] [6] (.T .L .L))) (.T (.T (.jb [82,83,84,85,86,87,88] 88 .L) (.join [89,90,6] [6] (.T .L .L))) .L))) .L))))) (.T (.T .L (.join [102,103,6] [6] (.T .L .L))) (.T (.T .L (.T (.T .L .L) .L)) (.T .L (.T (.T .L (.join [119,120,121,122,123,124,125,6] [6] (.T .L .L))) (.T .L .L)))))))))))))))
theorem lR (ω:Amb)(s_p nz:Value)(h:Hp)(R:RT)(X:XT)(hk:fc ω s_p nz h R X):ae Tryz.prog ω 79 [s_p,nz] h R X :=
 au (an:=mc) Tryz.func79 (by kernel_rfl) hk
abbrev lY:Nat:=102
def ff (ω:Amb)(s_p:Value)(h:Hp)(R:RT)(X:XT):Prop :=
 ∃v0,af (h.push (.cells (Value.cells s_p) 39 (0,0))) (Addr.add ⟨h.size,0,none⟩ 0)=some v0 ∧
 ae Tryz.prog ω 103 [v0] (h.push (.cells (Value.cells s_p) 39 (0,0))) (fun r1 h2 =>
 asS r1 fun s3=>cond (s3.toList==ByteArray.toList ⟨#[]⟩)
 (R (.bool false) h2)
 (∃J4:RT,
 (asS r1 fun s8=>0≤(0:Int)∧(0:Int)≤1∧1≤(s8.size:Int)∧∃v9,af h2 (Addr.add ⟨h.size,0,none⟩ 2)=some v9 ∧
 asS v9 fun s10=>ae Tryz.prog ω 124 [(.string (ByteArray.extract s8 (Int.toNat 0) (Int.toNat 1))),(.bool (s10.toList==ByteArray.toList ⟨#[]⟩))] h2 (fun r11 h12 =>
 asB r11 fun b13=>cond (!b13)
 (J4 (.bool true) h12)
 (asS r1 fun s14=>0≤(1:Int)∧(1:Int)≤2∧2≤(s14.size:Int)∧∃v15,af h12 (Addr.add ⟨h.size,0,none⟩ 3)=some v15 ∧
 asS v15 fun s16=>ae Tryz.prog ω 124 [(.string (ByteArray.extract s14 (Int.toNat 1) (Int.toNat 2))),(.bool (s16.toList==ByteArray.toList ⟨#[]⟩))] h12 (fun r17 h18 =>
 asB r17 fun b19=>cond (!b19)
 (J4 (.bool true) h18)
 (asS r1 fun s20=>0≤(2:Int)∧(2:Int)≤3∧3≤(s20.size:Int)∧∃v21,af h18 (Addr.add ⟨h.size,0,none⟩ 4)=some v21 ∧
 asS v21 fun s22=>ae Tryz.prog ω 124 [(.string (ByteArray.extract s20 (Int.toNat 2) (Int.toNat 3))),(.bool (s22.toList==ByteArray.toList ⟨#[]⟩))] h18 (fun r23 h24 =>
 asB r23 fun b25=>cond (!b25)
 (J4 (.bool true) h24)
 (asS r1 fun s26=>0≤(3:Int)∧(3:Int)≤4∧4≤(s26.size:Int)∧∃v27,af h24 (Addr.add ⟨h.size,0,none⟩ 5)=some v27 ∧
 asK .i64 v27 fun n28=>ae Tryz.prog ω 124 [(.string (ByteArray.extract s26 (Int.toNat 3) (Int.toNat 4))),(.bool (n28==(0:Int)))] h24 (fun r29 h30 =>
 asB r29 fun b31=>cond (!b31)
 (J4 (.bool true) h30)
 (asS r1 fun s32=>0≤(5:Int)∧(5:Int)≤6∧6≤(s32.size:Int)∧∃v33,af h30 (Addr.add ⟨h.size,0,none⟩ 7)=some v33 ∧
 bD v33 fun a34 l35 c36=>ae Tryz.prog ω 124 [(.string (ByteArray.extract s32 (Int.toNat 5) (Int.toNat 6))),(.bool ((l35:Int)==(0:Int)))] h30 (fun r37 h38 =>
 asB r37 fun b39=>cond (!b39)
 (J4 (.bool true) h38)
 (asS r1 fun s40=>0≤(6:Int)∧(6:Int)≤7∧7≤(s40.size:Int)∧∃v41,af h38 (Addr.add ⟨h.size,0,none⟩ 8)=some v41 ∧
 bD v41 fun a42 l43 c44=>ae Tryz.prog ω 124 [(.string (ByteArray.extract s40 (Int.toNat 6) (Int.toNat 7))),(.bool ((l43:Int)==(0:Int)))] h38 (fun r45 h46 =>
 asB r45 fun b47=>J4 (.bool (!b47)) h46) X)) X)) X)) X)) X)) X) ∧
 ∀Ok (d6:Nat→Value) (h7:Hp),J4 Ok h7 →
 asB Ok fun b48=>cond b48
 (R (.bool false) h7)
 (∃J49:RT,
 (asS r1 fun s53=>0≤(4:Int)∧(4:Int)≤5∧5≤(s53.size:Int)∧cond (ByteArray.toList (ByteArray.extract s53 (Int.toNat 4) (Int.toNat 5))==ByteArray.toList ⟨#[42]⟩)
 (J49 (.bool true) h7)
 (asS r1 fun s54=>0≤(4:Int)∧(4:Int)≤5∧5≤(s54.size:Int)∧∃v55,af h7 (Addr.add ⟨h.size,0,none⟩ 6)=some v55 ∧
 bD v55 fun a56 l57 c58=>ae Tryz.prog ω 106 [(.int .i64 (l57:Int))] h7 (fun r59 h60 =>
 asS r59 fun s61=>J49 (.bool (ByteArray.toList (ByteArray.extract s54 (Int.toNat 4) (Int.toNat 5))==s61.toList)) h60) X)) ∧
 ∀NZ (d51:Nat→Value) (h52:Hp),J49 NZ h52 →
 R NZ h52))) X
def lV:Ann :=
 (.T .L (.T .L (.T (.T .L (.T (.T .L .L) .L)) (.T (.T (.join [9,10,11,12,13,14,15,16,17,18,19,20,21,22,23,24,25,26,27,28,29,30,31,32,33,34,35,36,37,38,39,40,41,42,43,44,45,46,47,48,49,50,51,52,53,54,55,56,57,58,59,60,61,62] [62] (.plan [0,1,2,3,4,5,6,7,8,9,10,11,12,13,14,15,16,17,18,19,20,21,22,23,24,25,26,27,28,29,30,31,32,33,34,35,36,37,38,39,40,41,42,43,44,45,46,47,48,49,50,51,52,53])) (.T (.T .L .L) .L)) (.T (.join [63,64,65,66,67,68,69,70,71,72,73,74,2] [2] (.plan [0,1,2,3,4,5,6,7,8,9,10,11,12])) .L)))))
theorem mb (ω:Amb)(s_p:Value)(h:Hp)(R:RT)(X:XT)(hk:ff ω s_p h R X):ae Tryz.prog ω 102 [s_p] h R X :=
 au (an:=lV) Tryz.func102 (by kernel_rfl) hk
abbrev ol:Nat:=103
abbrev bk (h:Hp):Hp:=h.push (.cells (List.toArray [.string ⟨#[]⟩,(.string ⟨#[65,45,45,45,49,45,45]⟩),(.string ⟨#[65,45,45,45,49,45,45]⟩),(.string ⟨#[45,45,45,45,49,45,45]⟩),(.string ⟨#[65,66,84,78,48,45,45]⟩),(.string ⟨#[65,66,45,45,48,45,45]⟩),(.string ⟨#[65,45,45,45,49,45,45]⟩),(.string ⟨#[65,45,45,45,48,45,45]⟩),(.string ⟨#[65,45,45,45,48,45,45]⟩),(.string ⟨#[65,45,45,45,48,45,45]⟩),(.string ⟨#[65,45,45,45,42,45,45]⟩),(.string ⟨#[65,66,45,45,48,66,69]⟩),(.string ⟨#[65,66,45,45,48,66,45]⟩),(.string ⟨#[45,45,45,45,49,66,45]⟩),(.string ⟨#[45,45,45,45,49,66,69]⟩)]) 9 (0,0))
def gx (ω:Amb)(qU:Value)(h:Hp)(R:RT)(X:XT):Prop :=
 ∃β0:Bool,
 (asK .i64 qU fun n2=>cond (decide (n2 < 1))
 (((.bool true):Value)=.bool β0∧(bk h)=(bk h))
 (asK .i64 qU fun n3=>((.bool (decide (n3≥(15:Int)))):Value)=.bool β0∧(bk h)=(bk h))) ∧
 ∀d1:Nat→Value,
 cond β0
 (R (.string ⟨#[]⟩) (bk h))
 (asI qU fun n4=>0≤n4∧n4 < (15:Int)∧∃v5,af (bk h) (Addr.add ⟨h.size,0,none⟩ (n4.toNat*1))=some v5 ∧
 R v5 (bk h))
def oQ:Ann :=
 (.T .L (.T .L (.T (.T (.jb [5,6,7,8,9,10,11,12] 12 .L) (.T (.T .L .L) .L)) (.T .L .L))))
theorem ox (ω:Amb)(qU:Value)(h:Hp)(R:RT)(X:XT)(hk:gx ω qU h R X):ae Tryz.prog ω 103 [qU] h R X :=
 au (an:=oQ) Tryz.func103 (by kernel_rfl) hk
abbrev pU:Nat:=104
def ij (ω:Amb)(x_p:Value)(h:Hp)(R:RT)(X:XT):Prop :=
 ∃(I0:Value→RT) (μ1:Value→Value→Hp→Nat),I0 (.int .i64 1) (.int .i64 0) (h.push (.cells (Value.cells x_p) 36 (0,0)))∧∀n_2 i_3 (d4:Nat→Value) (h5:Hp),I0 n_2 i_3 h5 →
 ∃v6,af h5 (Addr.add ⟨h.size,0,none⟩ 3)=some v6 ∧
 bD v6 fun a7 l8 c9=>asK .i64 i_3 fun n10=>cond (decide (n10 < (l8:Int)))
 (∃v11,af h5 (Addr.add ⟨h.size,0,none⟩ 3)=some v11 ∧
 aO v11 fun a12 l13 c14=>asI i_3 fun n15=>0≤n15∧n15 < (l13:Int)∧∃C16,ak h5 (Addr.add a12 (n15.toNat*4)) 4 C16 ∧
 ae Tryz.prog ω 104 [.agg C16.toArray] h5 (fun r17 h18 =>
 asK .i64 n_2 fun n19=>asK .i64 r17 fun n20=>asK .i64 i_3 fun n21=>I0 (.int .i64 (IntKind.wrap .i64 (n19+n20))) (.int .i64 (IntKind.wrap .i64 (n21+1))) h18∧μ1 (.int .i64 (IntKind.wrap .i64 (n19+n20))) (.int .i64 (IntKind.wrap .i64 (n21+1))) h18 < μ1 n_2 i_3 h5) X)
 (R n_2 h5)
def pW:Ann :=
 (.T .L (.T .L (.T (.T .L (.one (.loop [5,6,7,8,9,12,13,14,15,16,17,18,19,3,10,11,4] [3,4] (.T (.T .L (.T .L .L)) (.T (.one .L) .L))))) (.T .L .L))))
theorem pd (ω:Amb)(x_p:Value)(h:Hp)(R:RT)(X:XT)(hk:ij ω x_p h R X):ae Tryz.prog ω 104 [x_p] h R X :=
 au (an:=pW) Tryz.func104 (by kernel_rfl) hk
abbrev lH:Nat:=105
abbrev aX (h:Hp)(x_p:Value):Hp:=h.push (.cells (Value.cells x_p) 36 (0,0))
def eD (ω:Amb)(x_p:Value)(h:Hp)(R:RT)(X:XT):Prop :=
 ∃β0:Bool,
 (∃v2,af (aX h x_p) (Addr.add ⟨h.size,0,none⟩ 0)=some v2 ∧
 asK .i64 v2 fun n3=>cond (n3==(1:Int))
 (((.bool true):Value)=.bool β0∧(aX h x_p)=(aX h x_p))
 (∃v4,af (aX h x_p) (Addr.add ⟨h.size,0,none⟩ 0)=some v4 ∧
 asK .i64 v4 fun n5=>((.bool (n5==(2:Int))):Value)=.bool β0∧(aX h x_p)=(aX h x_p))) ∧
 ∀d1:Nat→Value,
 ∃J6:RT,
 (cond β0
 (J6 (.int .i64 0) (aX h x_p))
 (J6 (.int .i64 2) (aX h x_p))) ∧
 ∀K6 (d8:Nat→Value) (h9:Hp),J6 K6 h9 →
 ∃v10,af h9 (Addr.add ⟨h.size,0,none⟩ 0)=some v10 ∧
 asK .i64 v10 fun n11=>∃J12:RT,
 (cond (n11==(3:Int))
 (J12 (.int .i64 1) h9)
 (J12 K6 h9)) ∧
 ∀HE (d14:Nat→Value) (h15:Hp),J12 HE h15 →
 ∃β16:Bool,
 (∃v18,af h15 (Addr.add ⟨h.size,0,none⟩ 0)=some v18 ∧
 asK .i64 v18 fun n19=>cond (decide (n19 < 1))
 (((.bool true):Value)=.bool β16∧h15=h15)
 (∃v20,af h15 (Addr.add ⟨h.size,0,none⟩ 0)=some v20 ∧
 asK .i64 v20 fun n21=>cond (decide (n21 > 8))
 (((.bool true):Value)=.bool β16∧h15=h15)
 (∃v22,af h15 (Addr.add ⟨h.size,0,none⟩ 3)=some v22 ∧
 bD v22 fun a23 l24 c25=>asK .i64 HE fun n26=>cond ((l24:Int) !=n26)
 (((.bool true):Value)=.bool β16∧h15=h15)
 (∃v27,af h15 (Addr.add ⟨h.size,0,none⟩ 2)=some v27 ∧
 asK .i64 v27 fun n28=>cond (n28 !=(0:Int))
 (∃v29,af h15 (Addr.add ⟨h.size,0,none⟩ 0)=some v29 ∧
 asK .i64 v29 fun n30=>cond (n30 !=(1:Int))
 (((.bool true):Value)=.bool β16∧h15=h15)
 (∃v31,af h15 (Addr.add ⟨h.size,0,none⟩ 1)=some v31 ∧
 asS v31 fun s32=>cond (!(s32.toList==ByteArray.toList ⟨#[]⟩))
 (∃v33,af h15 (Addr.add ⟨h.size,0,none⟩ 0)=some v33 ∧
 asK .i64 v33 fun n34=>((.bool (n34 !=(2:Int))):Value)=.bool β16∧h15=h15)
 (((.bool false):Value)=.bool β16∧h15=h15)))
 (∃v35,af h15 (Addr.add ⟨h.size,0,none⟩ 1)=some v35 ∧
 asS v35 fun s36=>cond (!(s36.toList==ByteArray.toList ⟨#[]⟩))
 (∃v37,af h15 (Addr.add ⟨h.size,0,none⟩ 0)=some v37 ∧
 asK .i64 v37 fun n38=>((.bool (n38 !=(2:Int))):Value)=.bool β16∧h15=h15)
 (((.bool false):Value)=.bool β16∧h15=h15)))))) ∧
 ∀d17:Nat→Value,
 cond β16
 (R (.int .i64 5) h15)
 (∃J39:RT,
 (∃v43,af h15 (Addr.add ⟨h.size,0,none⟩ 0)=some v43 ∧
 asK .i64 v43 fun n44=>cond (n44==(2:Int))
 (∃v45,af h15 (Addr.add ⟨h.size,0,none⟩ 1)=some v45 ∧
 ae Tryz.prog ω 47 [v45] h15 (fun r46 h47 =>
 asB r46 fun b48=>J39 (.bool (!b48)) h47) X)
 (J39 (.bool false) h15)) ∧
 ∀JN (d41:Nat→Value) (h42:Hp),J39 JN h42 →
 asB JN fun b49=>cond b49
 (R (.int .i64 4) h42)
 (∃β50:Bool,
 (∃v52,af h42 (Addr.add ⟨h.size,0,none⟩ 2)=some v52 ∧
 asK .i64 v52 fun n53=>cond (decide (n53 < 0))
 (((.bool true):Value)=.bool β50∧h42=h42)
 (∃v54,af h42 (Addr.add ⟨h.size,0,none⟩ 2)=some v54 ∧
 asK .i64 v54 fun n55=>((.bool (decide (n55≥1000000000000000000))):Value)=.bool β50∧h42=h42)) ∧
 ∀d51:Nat→Value,
 cond β50
 (R (.int .i64 3) h42)
 (∃(I56:RT) (μ57:Value→Hp→Nat),I56 (.int .i64 0) h42∧∀NM (d59:Nat→Value) (h60:Hp),I56 NM h60 →
 ∃v61,af h60 (Addr.add ⟨h.size,0,none⟩ 3)=some v61 ∧
 bD v61 fun a62 l63 c64=>asK .i64 NM fun n65=>cond (decide (n65 < (l63:Int)))
 (∃v66,af h60 (Addr.add ⟨h.size,0,none⟩ 3)=some v66 ∧
 aO v66 fun a67 l68 c69=>asI NM fun n70=>0≤n70∧n70 < (l68:Int)∧∃C71,ak h60 (Addr.add a67 (n70.toNat*4)) 4 C71 ∧
 ae Tryz.prog ω 105 [.agg C71.toArray] h60 (fun r72 h73 =>
 asK .i64 r72 fun n74=>cond (n74 !=(0:Int))
 (R r72 h73)
 (asK .i64 NM fun n75=>I56 (.int .i64 (IntKind.wrap .i64 (n75+1))) h73∧μ57 (.int .i64 (IntKind.wrap .i64 (n75+1))) h73 < μ57 NM h60)) X)
 (R (.int .i64 0) h60))))
def lA:Ann :=
 (.T .L (.T .L (.T (.T (.jb [6,7,8,9,10,11,12,13] 13 .L) (.join [3] [3] (.T .L .L))) (.T (.T .L (.join [3] [3] (.T .L .L))) (.T (.T (.jb [17,18,19,20,21,22,23,24,25,26,27,28,29,30,31,32,33,34,35,36,37,38,39,40,41,42,43,44,45,46,47,48,49,50,51] 51 .L) (.T (.T .L .L) .L)) (.T (.T (.join [52,53,54,55,56,57,58,59,60] [60] .L) (.T (.T .L .L) .L)) (.T (.T (.jb [61,62,63,64,65,66,67,68] 68 .L) (.T (.T .L .L) .L)) (.T (.T .L (.one (.loop [69,70,71,72,73,76,77,78,79,80,81,5,82,83,84,2,74,75,4] [4] (.T (.T .L (.T .L .L)) (.T (.one (.T .L (.T .L (.T (.T .L .L) .L)))) .L))))) (.T .L .L)))))))))
theorem lc (ω:Amb)(x_p:Value)(h:Hp)(R:RT)(X:XT)(hk:eD ω x_p h R X):ae Tryz.prog ω 105 [x_p] h R X :=
 au (an:=lA) Tryz.func105 (by kernel_rfl) hk
abbrev da:Nat:=107
abbrev aD:Obj:=.cells (List.toArray [(.string ⟨#[32,43,32]⟩),(.string ⟨#[32,45,32]⟩),(.string ⟨#[32,42,32]⟩),(.string ⟨#[32,60,32]⟩),(.string ⟨#[32,61,61,32]⟩)]) 9 (0,0)
abbrev aJ (h:Hp)(x_p:Value):Hp:=Array.push (h.push (.cells (Value.cells x_p) 36 (0,0))) (.cells (List.toArray [.int .i64 0,.int .i64 9,.int .i64 9,.int .i64 4,.int .i64 2,.int .i64 2,.int .i64 3,.int .i64 1,.int .i64 1]) 3 (0,0))
def fi (ω:Amb)(x_p CF:Value)(h:Hp)(R:RT)(X:XT):Prop :=
 ∃v0,af (aJ h x_p) (Addr.add ⟨h.size,0,none⟩ 0)=some v0 ∧
 asI v0 fun n1=>0≤n1∧n1 < (9:Int)∧∃v2,af (aJ h x_p) (Addr.add ⟨Array.size (h.push (.cells (Value.cells x_p) 36 (0,0))),0,none⟩ (n1.toNat*1))=some v2 ∧
 ∃v3,af (aJ h x_p) (Addr.add ⟨h.size,0,none⟩ 0)=some v3 ∧
 ∃J4:RT,
 (asK .i64 v3 fun n8=>∃J9:RT,
 (cond (n8==(1:Int))
 (∃v13,af (aJ h x_p) (Addr.add ⟨h.size,0,none⟩ 2)=some v13 ∧
 ae Tryz.prog ω 126 [v13,.int .i64 10] (aJ h x_p) (fun r14 h15 =>
 J9 r14 h15) X)
 (asK .i64 v3 fun n16=>∃J17:RT,
 (cond (n16==(2:Int))
 (∃v21,af (aJ h x_p) (Addr.add ⟨h.size,0,none⟩ 1)=some v21 ∧
 J17 v21 (aJ h x_p))
 (asK .i64 v3 fun n22=>∃J23:RT,
 (cond (n22==(3:Int))
 (∃v27,af (aJ h x_p) (Addr.add ⟨h.size,0,none⟩ 3)=some v27 ∧
 aO v27 fun a28 l29 c30=>0≤(0:Int)∧0 < (l29:Int)∧∃C31,ak (aJ h x_p) (Addr.add a28 (Int.toNat 0*4)) 4 C31 ∧
 ae Tryz.prog ω 107 [.agg C31.toArray,.int .i64 4] (aJ h x_p) (fun r32 h33 =>
 asS r32 fun s34=>ByteArray.size ⟨#[45]⟩+s34.size≤9223372036854775807∧J23 (.string (⟨#[45]⟩++s34)) h33) X)
 (asK .i64 v2 fun n35=>∃J36:RT,
 (cond (n35==(1:Int))
 (J36 (.int .i64 2) (aJ h x_p))
 (J36 v2 (aJ h x_p))) ∧
 ∀uW (d38:Nat→Value) (h39:Hp),J36 uW h39 →
 ∃v40,af h39 (Addr.add ⟨h.size,0,none⟩ 3)=some v40 ∧
 aO v40 fun a41 l42 c43=>0≤(0:Int)∧0 < (l42:Int)∧∃C44,ak h39 (Addr.add a41 (Int.toNat 0*4)) 4 C44 ∧
 ∃v45,af h39 (Addr.add ⟨h.size,0,none⟩ 0)=some v45 ∧
 asK .i64 v45 fun n46=>∃v47,af h39 (Addr.add ⟨h.size,0,none⟩ 3)=some v47 ∧
 aO v47 fun a48 l49 c50=>0≤(1:Int)∧1 < (l49:Int)∧∃C51,ak h39 (Addr.add a48 (Int.toNat 1*4)) 4 C51 ∧
 asK .i64 v2 fun n52=>(ae Tryz.prog ω 107 [.agg C44.toArray,uW] h39 (fun r53 h54 =>
 ak h54 (Addr.add a48 (Int.toNat 1*4)) 4 C51∧af h54 (Addr.add ⟨h.size,0,none⟩ 3)=some v47∧af h54 (Addr.add ⟨h.size,0,none⟩ 0)=some v45∧(ak (h54.push (aD)) (Addr.add a48 (Int.toNat 1*4)) 4 C51∧af (h54.push (aD)) (Addr.add ⟨h.size,0,none⟩ 3)=some v47∧af (h54.push (aD)) (Addr.add ⟨h.size,0,none⟩ 0)=some v45∧0≤((IntKind.wrap .i64 (n46 - 4)):Int)∧(IntKind.wrap .i64 (n46 - 4)) < (5:Int)∧∃v55,af (h54.push (aD)) (Addr.add ⟨h54.size,0,none⟩ (Int.toNat (IntKind.wrap .i64 (n46 - 4))*1))=some v55 ∧
 asS r53 fun s56=>asS v55 fun s57=>s56.size+s57.size≤9223372036854775807∧ae Tryz.prog ω 107 [.agg C51.toArray,(.int .i64 (IntKind.wrap .i64 (n52+1)))] (h54.push (aD)) (fun r58 h59 =>
 af h59 (Addr.add ⟨h54.size,0,none⟩ (Int.toNat (IntKind.wrap .i64 (n46 - 4))*1))=some v55∧af h59 (Addr.add ⟨h.size,0,none⟩ 0)=some v45∧asS r58 fun s60=>ByteArray.size (s56++s57)+s60.size≤9223372036854775807∧J23 (.string ((s56++s57)++s60)) h59) X) ∧
(ae Tryz.prog ω 107 [.agg C51.toArray,(.int .i64 (IntKind.wrap .i64 (n52+1)))] h54 (fun r61 h62 =>
 af h62 (Addr.add ⟨h.size,0,none⟩ 0)=some v45∧af (h62.push (aD)) (Addr.add ⟨h.size,0,none⟩ 0)=some v45∧0≤((IntKind.wrap .i64 (n46 - 4)):Int)∧(IntKind.wrap .i64 (n46 - 4)) < (5:Int)∧∃v63,af (h62.push (aD)) (Addr.add ⟨h62.size,0,none⟩ (Int.toNat (IntKind.wrap .i64 (n46 - 4))*1))=some v63 ∧
 asS r53 fun s64=>asS v63 fun s65=>s64.size+s65.size≤9223372036854775807∧asS r61 fun s66=>ByteArray.size (s64++s65)+s66.size≤9223372036854775807∧J23 (.string ((s64++s65)++s66)) (h62.push (aD))) X)) X) ∧
(ak (h39.push (aD)) (Addr.add a48 (Int.toNat 1*4)) 4 C51∧af (h39.push (aD)) (Addr.add ⟨h.size,0,none⟩ 3)=some v47∧af (h39.push (aD)) (Addr.add ⟨h.size,0,none⟩ 0)=some v45∧ak (h39.push (aD)) (Addr.add a41 (Int.toNat 0*4)) 4 C44∧af (h39.push (aD)) (Addr.add ⟨h.size,0,none⟩ 3)=some v40∧(ae Tryz.prog ω 107 [.agg C44.toArray,uW] (h39.push (aD)) (fun r67 h68 =>
 ak h68 (Addr.add a48 (Int.toNat 1*4)) 4 C51∧af h68 (Addr.add ⟨h.size,0,none⟩ 3)=some v47∧af h68 (Addr.add ⟨h.size,0,none⟩ 0)=some v45∧0≤((IntKind.wrap .i64 (n46 - 4)):Int)∧(IntKind.wrap .i64 (n46 - 4)) < (5:Int)∧∃v69,af h68 (Addr.add ⟨h39.size,0,none⟩ (Int.toNat (IntKind.wrap .i64 (n46 - 4))*1))=some v69 ∧
 asS r67 fun s70=>asS v69 fun s71=>s70.size+s71.size≤9223372036854775807∧ae Tryz.prog ω 107 [.agg C51.toArray,(.int .i64 (IntKind.wrap .i64 (n52+1)))] h68 (fun r72 h73 =>
 af h73 (Addr.add ⟨h39.size,0,none⟩ (Int.toNat (IntKind.wrap .i64 (n46 - 4))*1))=some v69∧af h73 (Addr.add ⟨h.size,0,none⟩ 0)=some v45∧asS r72 fun s74=>ByteArray.size (s70++s71)+s74.size≤9223372036854775807∧J23 (.string ((s70++s71)++s74)) h73) X) X) ∧
(0≤((IntKind.wrap .i64 (n46 - 4)):Int)∧(IntKind.wrap .i64 (n46 - 4)) < (5:Int)∧(ae Tryz.prog ω 107 [.agg C44.toArray,uW] (h39.push (aD)) (fun r75 h76 =>
 ak h76 (Addr.add a48 (Int.toNat 1*4)) 4 C51∧af h76 (Addr.add ⟨h.size,0,none⟩ 3)=some v47∧af h76 (Addr.add ⟨h.size,0,none⟩ 0)=some v45∧∃v77,af h76 (Addr.add ⟨h39.size,0,none⟩ (Int.toNat (IntKind.wrap .i64 (n46 - 4))*1))=some v77 ∧
 asS r75 fun s78=>asS v77 fun s79=>s78.size+s79.size≤9223372036854775807∧ae Tryz.prog ω 107 [.agg C51.toArray,(.int .i64 (IntKind.wrap .i64 (n52+1)))] h76 (fun r80 h81 =>
 af h81 (Addr.add ⟨h39.size,0,none⟩ (Int.toNat (IntKind.wrap .i64 (n46 - 4))*1))=some v77∧af h81 (Addr.add ⟨h.size,0,none⟩ 0)=some v45∧asS r80 fun s82=>ByteArray.size (s78++s79)+s82.size≤9223372036854775807∧J23 (.string ((s78++s79)++s82)) h81) X) X) ∧
(∃v83,af (h39.push (aD)) (Addr.add ⟨h39.size,0,none⟩ (Int.toNat (IntKind.wrap .i64 (n46 - 4))*1))=some v83 ∧
 ae Tryz.prog ω 107 [.agg C44.toArray,uW] (h39.push (aD)) (fun r84 h85 =>
 ak h85 (Addr.add a48 (Int.toNat 1*4)) 4 C51∧af h85 (Addr.add ⟨h.size,0,none⟩ 3)=some v47∧af h85 (Addr.add ⟨h.size,0,none⟩ 0)=some v45∧asS r84 fun s86=>asS v83 fun s87=>s86.size+s87.size≤9223372036854775807∧ae Tryz.prog ω 107 [.agg C51.toArray,(.int .i64 (IntKind.wrap .i64 (n52+1)))] h85 (fun r88 h89 =>
 af h89 (Addr.add ⟨h.size,0,none⟩ 0)=some v45∧asS r88 fun s90=>ByteArray.size (s86++s87)+s90.size≤9223372036854775807∧J23 (.string ((s86++s87)++s90)) h89) X) X))))) ∧
 ∀JG (d25:Nat→Value) (h26:Hp),J23 JG h26 →
 J17 JG h26)) ∧
 ∀KZ (d19:Nat→Value) (h20:Hp),J17 KZ h20 →
 J9 KZ h20)) ∧
 ∀JV (d11:Nat→Value) (h12:Hp),J9 JV h12 →
 J4 JV h12) ∧
 ∀AD (d6:Nat→Value) (h7:Hp),J4 AD h7 →
 asK .i64 v2 fun n91=>asK .i64 CF fun n92=>cond (decide (n91 < n92))
 (asS AD fun s93=>ByteArray.size ⟨#[40]⟩+s93.size≤9223372036854775807∧ByteArray.size (⟨#[40]⟩++s93)+ByteArray.size ⟨#[41]⟩≤9223372036854775807∧R (.string ((⟨#[40]⟩++s93)++⟨#[41]⟩)) h7)
 (R AD h7)
def mo:Ann :=
 (.T .L (.T .L (.T .L (.T (.T .L (.join [40,39,41,42,43,6,45,44,46,47,49,48,50,51,52,53,54,55,15,7,16,17,18,19,20,21,22,23,24,25,26,27,28,29,30,31,32,33,34,35,36,37,38] [6] (.one (.T .L (.join [41,42,43,6,45,44,46,47,49,48,50,51,52,53,54,55,15,7,16,17,18,19,20,21,22,23,24,25,26,27,28,29,30,31,32,33,34,35,36,37,38] [6] (.T .L (.T .L (.join [46,47,6,49,48,50,51,52,53,54,55,15,7,16,17,18,19,20,21,22,23,24,25,26,27,28,29,30,31,32,33,34,35,36,37,38] [6] (.T .L (.T .L (.join [50,51,52,53,54,55,6,15,7,16,17,18,19,20,21,22,23,24,25,26,27,28,29,30,31,32,33,34,35,36,37,38] [6] (.T .L (.T .L (.T (.T .L (.join [7] [7] (.T .L .L))) (.plan [0,1,2,3,4,7,8,9,13,14,15,16,17,18,5,6,10,11,12,19,20,21]))))))))))))))) (.T (.T .L (.T (.T .L .L) .L)) (.T .L .L))))))
theorem mh (ω:Amb)(x_p CF:Value)(h:Hp)(R:RT)(X:XT)(hk:fi ω x_p CF h R X):ae Tryz.prog ω 107 [x_p,CF] h R X :=
 au (an:=mo) Tryz.func107 (by kernel_rfl) hk
abbrev oZ:Nat:=124
def gq (ω:Amb)(c_p HM:Value)(h:Hp)(R:RT)(X:XT):Prop :=
 ∃J0:RT,
 (asS c_p fun s4=>cond (!(s4.toList==ByteArray.toList ⟨#[45]⟩))
 (J0 (.bool true) h)
 (J0 HM h)) ∧
 ∀N5 (d2:Nat→Value) (h3:Hp),J0 N5 h3 →
 R N5 h3
def nY:Ann :=
 (.T .L (.T (.join [5,6,7,8,9,4] [4] .L) .L))
theorem oq (ω:Amb)(c_p HM:Value)(h:Hp)(R:RT)(X:XT)(hk:gq ω c_p HM h R X):ae Tryz.prog ω 124 [c_p,HM] h R X :=
 au (an:=nY) Tryz.func124 (by kernel_rfl) hk
end Go.Proofs.YtkeeboomikkojaaGreatDoor.Sx
