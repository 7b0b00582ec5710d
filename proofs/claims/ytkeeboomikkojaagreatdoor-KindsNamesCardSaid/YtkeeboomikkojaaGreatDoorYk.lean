import Derived.Test.YtkeeboomikkojaaGreatDoorSxCore
import Derived.KernelRfl
import Derived.Test.YtkeeboomikkojaaGreatDoorProg
set_option linter.unusedVariables false
set_option maxRecDepth 100000
namespace Go.Proofs.YtkeeboomikkojaaGreatDoor.Sx
open Go Go.Sx Go.Proofs
abbrev eB (h:Hp)(p_p:Value):Hp:=h.push (.cells (Value.cells p_p) 24 (0,0))
abbrev ie:Obj:=.cells #[.int .i64 0,.int .i64 0] 28 (0,0)
def rJ (ω:Amb)(p_p:Value)(h:Hp)(R:RT)(X:XT):Prop :=
 ∃C0,aj (Array.push (eB h p_p) (ie)) ⟨h.size,0,none⟩ 1 C0 ∧
 aa Tryz.prog ω 18 [.agg C0.toArray] (Array.push (eB h p_p) (ie)) (fun r1 h2 =>
 asT r1 fun T3=>asO T3[0]? fun v4=>asT r1 fun T5=>asO T5[1]? fun v6=>asA v6 fun A7=>A7.size=2∧(∀u∈A7.toList,one u)∧av (h2.push (ie)) ⟨h2.size,0,none⟩ A7.toList fun h8 =>
 ∃C9,aj h8 ⟨h2.size,0,none⟩ 2 C9 ∧
 C9.toArray.size=2∧(∀u∈C9.toArray.toList,one u)∧av h8 ⟨Array.size (eB h p_p),0,none⟩ C9.toArray.toList fun h10 =>
 ∃C11,aj h10 ⟨Array.size (eB h p_p),0,none⟩ 2 C11∧R (.agg C11.toArray) h10) X
def x4:Ann :=
 (.T .L (.T .L (.T .L .L)))
theorem w9 (ω:Amb)(p_p:Value)(h:Hp)(R:RT)(X:XT)(hk:rJ ω p_p h R X):aa Tryz.prog ω 10 [p_p] h R X :=
 al (an:=x4) Tryz.func10 (by kernel_rfl) hk
abbrev bY (h:Hp)(p_p:Value):Hp:=h.push (.cells (Value.cells p_p) 24 (0,0))
abbrev jS:Obj:=.cells #[.int .i64 0,.int .i64 0] 28 (0,0)
def td (ω:Amb)(p_p:Value)(h:Hp)(R:RT)(X:XT):Prop :=
 ∃C0,aj (Array.push (bY h p_p) (jS)) ⟨h.size,0,none⟩ 1 C0 ∧
 aa Tryz.prog ω 16 [.agg C0.toArray] (Array.push (bY h p_p) (jS)) (fun r1 h2 =>
 asA r1 fun A3=>A3.size=2∧(∀u∈A3.toList,one u)∧av (h2.push (jS)) ⟨h2.size,0,none⟩ A3.toList fun h4 =>
 ∃v5,af h4 (Addr.add ⟨h2.size,0,none⟩ 0)=some v5 ∧
 asK .i64 v5 fun n6=>cond (n6 !=(0:Int))
 (∃C7,aj h4 ⟨h2.size,0,none⟩ 2 C7 ∧
 C7.toArray.size=2∧(∀u∈C7.toArray.toList,one u)∧av h4 ⟨Array.size (bY h p_p),0,none⟩ C7.toArray.toList fun h8 =>
 ∃C9,aj h8 ⟨Array.size (bY h p_p),0,none⟩ 2 C9∧R (.tuple #[.slice none 0 0,.agg C9.toArray]) h8)
 (∃v10,af h4 (Addr.add ⟨h.size,0,none⟩ 0)=some v10 ∧
 bR v10 fun a11 l12 c13=>∃(I14:Value→Value→Value→RT) (μ15:Value→Value→Value→Value→Hp→Nat),I14 (.int .i64 0) (.slice none 0 0) (.bool false) (.int .i64 0) h4∧∀n_16 Dp rz uf (d20:Nat→Value) (h21:Hp),I14 n_16 Dp rz uf h21 →
 asK .i64 uf fun n22=>cond (decide (n22 < (l12:Int)))
 (aI v10 fun a23 l24 c25=>asI uf fun n26=>0≤n26∧n26 < (l24:Int)∧∃C27,aj h21 (Addr.add a23 (n26.toNat*4)) 4 C27 ∧
 C27.toArray.size=4∧(∀u∈C27.toArray.toList,one u)∧av (h21.push (.cells #[.string ⟨#[]⟩,.int .i64 0,.slice none 0 0,.slice none 0 0] 41 (0,0))) ⟨h21.size,0,none⟩ C27.toArray.toList fun h28 =>
 ∃v29,af h28 (Addr.add ⟨h.size,0,none⟩ 0)=some v29 ∧
 bR v29 fun a30 l31 c32=>asI uf fun n33=>0≤(((0:Nat):Int):Int)∧(((0:Nat):Int):Int)≤n33∧n33≤(c32:Int)∧cq (.map (some (h28.size))) (cq n_16 (∃C34,aj (Array.push (h28.push (.map #[] 0)) (.cells #[(.slice (if c32=Int.toNat ((0:Nat):Int) then a30 else Option.map (fun y=>Addr.add y (Int.toNat ((0:Nat):Int)*4)) a30) (n33.toNat - Int.toNat ((0:Nat):Int)) (c32 - Int.toNat ((0:Nat):Int))),(.map (some (h28.size))),.slice none 0 0,n_16,.int .i64 0,.int .i64 0] 79 (0,0))) ⟨h21.size,0,none⟩ 4 C34 ∧
 asK .i64 uf fun n35=>aa Tryz.prog ω 38 [(.pointer (some ⟨Array.size (h28.push (.map #[] 0)),0,none⟩)),.agg C34.toArray,(.int .i64 (IntKind.wrap .i64 ((-2) - n35)))] (Array.push (h28.push (.map #[] 0)) (.cells #[(.slice (if c32=Int.toNat ((0:Nat):Int) then a30 else Option.map (fun y=>Addr.add y (Int.toNat ((0:Nat):Int)*4)) a30) (n33.toNat - Int.toNat ((0:Nat):Int)) (c32 - Int.toNat ((0:Nat):Int))),(.map (some (h28.size))),.slice none 0 0,n_16,.int .i64 0,.int .i64 0] 79 (0,0))) (fun r36 h37 =>
 ∃v38,af h37 (Addr.add (Addr.add ⟨Array.size (h28.push (.map #[] 0)),0,none⟩ 4) 0)=some v38 ∧
 asK .i64 v38 fun n39=>cond (n39 !=(0:Int))
 (∃C40,aj h37 (Addr.add ⟨Array.size (h28.push (.map #[] 0)),0,none⟩ 4) 2 C40 ∧
 C40.toArray.size=2∧(∀u∈C40.toArray.toList,one u)∧av h37 ⟨Array.size (bY h p_p),0,none⟩ C40.toArray.toList fun h41 =>
 ∃C42,aj h41 ⟨Array.size (bY h p_p),0,none⟩ 2 C42∧R (.tuple #[.slice none 0 0,.agg C42.toArray]) h41)
 (∃v43,af h37 (Addr.add ⟨Array.size (h28.push (.map #[] 0)),0,none⟩ 3)=some v43 ∧
 ∃v44,af h37 (Addr.add ⟨Array.size (h28.push (.map #[] 0)),0,none⟩ 2)=some v44 ∧
 cq v44 (x2 Tryz.prog 50 (h37.push (.cells (List.toArray [v44]) 55 (0,0))) Dp (.slice (some ⟨h37.size,0,none⟩) 1 1) fun w45 h46 =>
 ∃J47:RT,
 (asB rz fun b51=>cond b51
 (J47 (.bool true) h46)
 (∃v52,af h46 (Addr.add ⟨h21.size,0,none⟩ 0)=some v52 ∧
 asS v52 fun s53=>cond (s53.toList==ByteArray.toList ⟨#[109,97,105,110]⟩)
 (∃v54,af h46 (Addr.add ⟨h21.size,0,none⟩ 2)=some v54 ∧
 bR v54 fun a55 l56 c57=>cond ((l56:Int)==(1:Int))
 (∃v58,af h46 (Addr.add ⟨h21.size,0,none⟩ 2)=some v58 ∧
 aI v58 fun a59 l60 c61=>0≤(0:Int)∧0 < (l60:Int)∧∃v62,af h46 (Addr.add (Addr.add a59 (Int.toNat 0*2)) 1)=some v62 ∧
 asS v62 fun s63=>J47 (.bool (s63.toList==ByteArray.toList ⟨#[114,105]⟩)) h46)
 (J47 (.bool false) h46))
 (J47 (.bool false) h46))) ∧
 ∀ug (d49:Nat→Value) (h50:Hp),J47 ug h50 →
 asK .i64 uf fun n64=>I14 v43 w45 ug (.int .i64 (IntKind.wrap .i64 (n64+1))) h50∧μ15 v43 w45 ug (.int .i64 (IntKind.wrap .i64 (n64+1))) h50 < μ15 n_16 Dp rz uf h21))) X)))
 (asB rz fun b65=>cond (!b65)
 (2=2∧(∀u∈[.int .i64 13,(.int .i64 (-1))],one u)∧av h21 ⟨Array.size (bY h p_p),0,none⟩ [.int .i64 13,(.int .i64 (-1))] fun h66 =>
 ∃C67,aj h66 ⟨Array.size (bY h p_p),0,none⟩ 2 C67∧R (.tuple #[.slice none 0 0,.agg C67.toArray]) h66)
 (2=2∧(∀u∈[.int .i64 0,.int .i64 0],one u)∧av h21 ⟨Array.size (bY h p_p),0,none⟩ [.int .i64 0,.int .i64 0] fun h68 =>
 ∃C69,aj h68 ⟨Array.size (bY h p_p),0,none⟩ 2 C69∧R (.tuple #[Dp,.agg C69.toArray]) h68)))) X
def yI:Ann :=
 (.T .L (.T .L (.T (.T .L (.T (.T (.plan [0,1,2]) .L) .L)) (.T .L (.T .L (.T (.T .L (.one (.loop [21,22,23,24,9,8,25,26,27,28,29,30,31,32,10,33,34,35,36,37,38,39,40,41,42,43,44,45,46,47,2,48,49,50,51,6,52,53,54,55,56,57,58,5,59,60,61,62,63,64,65,66,67,68,69,70,71,72,73,74,75,76,77,78,7,79,20] [6,5,7,20] (.T .L (.T (.T .L .L) (.T (.one (.T .L (.T .L (.T .L (.T (.T .L (.T (.T (.plan [0,1,2,3,4,5]) .L) .L)) (.T .L (.T .L (.join [59,60,61,62,63,64,65,66,67,68,69,70,71,72,73,74,75,76,77,78,7] [7] .L)))))))) .L)))))) (.T (.T .L (.T (.T .L .L) .L)) (.T .L .L))))))))
theorem zb (ω:Amb)(p_p:Value)(h:Hp)(R:RT)(X:XT)(hk:td ω p_p h R X):aa Tryz.prog ω 18 [p_p] h R X :=
 al (an:=yI) Tryz.func18 (by kernel_rfl) hk
abbrev bw (h:Hp)(g_p:Value):Hp:=h.push (.cells (Value.cells g_p) 41 (0,0))
abbrev cL (h:Hp)(g_p:Value):Hp:=Array.push (Array.push (bw h g_p) (.map #[] 0)) (.cells #[.pointer none,(.map (some (Array.size (bw h g_p))))] 124 (0,0))
def eQ (ω:Amb)(c_p g_p bU:Value)(h:Hp)(R:RT)(X:XT):Prop :=
 cq (.map (some (Array.size (bw h g_p)))) (nnK c_p (asP c_p fun p0 =>
 ∃v1,af (cL h g_p) (Addr.add p0 0)=some v1 ∧
 bR v1 fun a2 l3 c4=>∃(I5:RT) (μ6:Value→Hp→Nat),I5 (.int .i64 0) (cL h g_p)∧∀Fa (d8:Nat→Value) (h9:Hp),I5 Fa h9 →
 asK .i64 Fa fun n10=>cond (decide (n10 < (l3:Int)))
 (∃J11:Hp→Prop,
 (aI v1 fun a14 l15 c16=>asI Fa fun n17=>0≤n17∧n17 < (l15:Int)∧∃C18,aj h9 (Addr.add a14 (n17.toNat*4)) 4 C18 ∧
 C18.toArray.size=4∧(∀u∈C18.toArray.toList,one u)∧av (h9.push (.cells #[.string ⟨#[]⟩,.int .i64 0,.slice none 0 0,.slice none 0 0] 41 (0,0))) ⟨h9.size,0,none⟩ C18.toArray.toList fun h19 =>
 ∃v20,af h19 (Addr.add ⟨h9.size,0,none⟩ 0)=some v20 ∧
 ∃v21,af h19 (Addr.add ⟨h.size,0,none⟩ 0)=some v21 ∧
 asS v20 fun s22=>asS v21 fun s23=>∃J24:Hp→Prop,
 (cond (s22.toList==s23.toList)
 (aa Tryz.prog ω 70 [c_p,.int .i64 9,bU] h19 (fun r27 h28 =>
 J24 h28) X)
 (J24 h19)) ∧
 ∀(d25:Nat→Value) (h26:Hp),J24 h26 →
 J11 h26) ∧
 ∀(d12:Nat→Value) (h13:Hp),J11 h13 →
 asK .i64 Fa fun n29=>I5 (.int .i64 (IntKind.wrap .i64 (n29+1))) h13∧μ6 (.int .i64 (IntKind.wrap .i64 (n29+1))) h13 < μ6 Fa h9)
 (∃v30,af h9 (Addr.add ⟨h.size,0,none⟩ 2)=some v30 ∧
 bR v30 fun a31 l32 c33=>∃(I34:RT) (μ35:Value→Hp→Nat),I34 (.int .i64 0) h9∧∀yU (d37:Nat→Value) (h38:Hp),I34 yU h38 →
 asK .i64 yU fun n39=>cond (decide (n39 < (l32:Int)))
 (aI v30 fun a40 l41 c42=>asI yU fun n43=>0≤n43∧n43 < (l41:Int)∧∃C44,aj h38 (Addr.add a40 (n43.toNat*2)) 2 C44 ∧
 C44.toArray.size=2∧(∀u∈C44.toArray.toList,one u)∧av (h38.push (.cells #[.string ⟨#[]⟩,.string ⟨#[]⟩] 32 (0,0))) ⟨h38.size,0,none⟩ C44.toArray.toList fun h45 =>
 ∃v46,af h45 (Addr.add ⟨h38.size,0,none⟩ 0)=some v46 ∧
 ∃v47,af h45 (Addr.add ⟨h38.size,0,none⟩ 1)=some v47 ∧
 cq v46 (cq v47 (aa Tryz.prog ω 71 [c_p,(.pointer (some ⟨Array.size (Array.push (bw h g_p) (.map #[] 0)),0,none⟩)),(.agg #[v46,v47]),bU] h45 (fun r48 h49 =>
 asK .i64 yU fun n50=>I34 (.int .i64 (IntKind.wrap .i64 (n50+1))) h49∧μ35 (.int .i64 (IntKind.wrap .i64 (n50+1))) h49 < μ35 yU h38) X)))
 (∃v51,af h38 (Addr.add ⟨h.size,0,none⟩ 3)=some v51 ∧
 aa Tryz.prog ω 72 [c_p,(.pointer (some ⟨Array.size (Array.push (bw h g_p) (.map #[] 0)),0,none⟩)),v51] h38 (fun r52 h53 =>
 nnK c_p (asP c_p fun p54 =>
 ∃v55,af h53 (Addr.add p54 2)=some v55 ∧
 bR v55 fun a56 l57 c58=>∃J59:Hp→Prop,
 (cond (decide ((l57:Int) > 30))
 (aa Tryz.prog ω 70 [c_p,.int .i64 8,bU] h53 (fun r62 h63 =>
 J59 h63) X)
 (J59 h53)) ∧
 ∀(d60:Nat→Value) (h61:Hp),J59 h61 →
 R (.tuple #[]) h61)) X))))
def ma:Ann :=
 (.T .L (.T .L (.T (.T .L (.one (.loop [20,21,22,8,23,24,25,26,27,28,29,30,31,19] [19] (.T .L (.T (.T .L .L) (.T (.join [21,22,8,23,24,25,26,27,28,29,30] [] (.one (.T .L (.T .L (.join [28,29,30] [] (.T .L .L)))))) .L)))))) (.T (.T .L (.one (.loop [36,37,38,10,39,40,41,42,43,44,45,46,47,48,35] [35] (.T .L (.T (.T .L .L) (.T (.one (.T .L .L)) .L)))))) (.T .L (.T .L (.join [60,61,62] [] (.T .L .L))))))))
theorem me (ω:Amb)(c_p g_p bU:Value)(h:Hp)(R:RT)(X:XT)(hk:eQ ω c_p g_p bU h R X):aa Tryz.prog ω 38 [c_p,g_p,bU] h R X :=
 al (an:=ma) Tryz.func38 (by kernel_rfl) hk
def fA (ω:Amb)(c_p cC bU:Value)(h:Hp)(R:RT)(X:XT):Prop :=
 nnK c_p (asP c_p fun p0 =>
 ∃v1,af h (Addr.add (Addr.add p0 4) 0)=some v1 ∧
 asK .i64 v1 fun n2=>∃J3:Hp→Prop,
 (cond (n2==(0:Int))
 (cq cC (cq bU (nnK c_p (asP c_p fun p6 =>
 2=2∧(∀u∈[cC,bU],one u)∧av h (Addr.add p6 4) [cC,bU] fun h7 =>
 J3 h7))))
 (J3 h)) ∧
 ∀(d4:Nat→Value) (h5:Hp),J3 h5 →
 R (.tuple #[]) h5)
def mM:Ann :=
 (.T .L (.join [12,13,14,15,16,17] [] (.T .L .L)))
theorem nu (ω:Amb)(c_p cC bU:Value)(h:Hp)(R:RT)(X:XT)(hk:fA ω c_p cC bU h R X):aa Tryz.prog ω 70 [c_p,cC,bU] h R X :=
 al (an:=mM) Tryz.func70 (by kernel_rfl) hk
def fL (ω:Amb)(c_p s_p v_p bU:Value)(h:Hp)(R:RT)(X:XT):Prop :=
 nnK c_p (asP c_p fun p0 =>
 ∃v1,af (h.push (.cells (Value.cells v_p) 56 (0,0))) (Addr.add p0 1)=some v1 ∧
 ∃v2,af (h.push (.cells (Value.cells v_p) 56 (0,0))) (Addr.add ⟨h.size,0,none⟩ 0)=some v2 ∧
 iT Tryz.prog 77 (h.push (.cells (Value.cells v_p) 56 (0,0))) v1 v2 false fun w3 h4 =>
 asK .i64 w3 fun n5=>∃J6:Hp→Prop,
 (cond (decide (n5 > 0))
 (aa Tryz.prog ω 70 [c_p,.int .i64 9,bU] h4 (fun r9 h10 =>
 J6 h10) X)
 (J6 h4)) ∧
 ∀(d7:Nat→Value) (h8:Hp),J6 h8 →
 nnK c_p (asP c_p fun p11 =>
 ∃v12,af h8 (Addr.add p11 1)=some v12 ∧
 ∃v13,af h8 (Addr.add ⟨h.size,0,none⟩ 0)=some v13 ∧
 iT Tryz.prog 77 h8 v12 v13 false fun w14 h15 =>
 asK .i64 w14 fun n16=>IC Tryz.prog 77 h15 v12 v13 (.int .i64 (IntKind.wrap .i64 (n16+1))) fun h17 =>
 nnK c_p (asP c_p fun p18 =>
 ∃v19,af h17 (Addr.add p18 2)=some v19 ∧
 ∃C20,aj h17 ⟨h.size,0,none⟩ 2 C20 ∧
 C20.toArray.size=2∧af (h17.push (.cells (List.toArray (C20.toArray.toList++[])) 56 (0,0))) (Addr.add p18 2)=some v19∧x2 Tryz.prog 55 (h17.push (.cells (List.toArray (C20.toArray.toList++[])) 56 (0,0))) v19 (.slice (some ⟨h17.size,0,none⟩) 1 1) fun w21 h22 =>
 nnK c_p (asP c_p fun p23 =>
 cq w21 (aJ h22 (Addr.add p23 2) w21 fun h24 =>
 nnK s_p (asP s_p fun p25 =>
 ∃v26,af h24 (Addr.add p25 1)=some v26 ∧
 ∃v27,af h24 (Addr.add ⟨h.size,0,none⟩ 0)=some v27 ∧
 ∃C28,aj h24 ⟨h.size,0,none⟩ 2 C28 ∧
 IC Tryz.prog 122 h24 v26 v27 (.agg C28.toArray) fun h29 =>
 R (.tuple #[]) h29))))))
def mS:Ann :=
 (.T .L (.T (.T (.plan [0,1,2,3,4,5,6,7]) (.join [16,17,18] [] (.T .L .L))) (.T (.plan [0,1,2,3,4,5,6,7,8]) (.T (.plan [0,1,2,3,4,5,6,7,8,9,10]) (.plan [0,1,2,3,4,5,6,7])))))
theorem mW (ω:Amb)(c_p s_p v_p bU:Value)(h:Hp)(R:RT)(X:XT)(hk:fL ω c_p s_p v_p bU h R X):aa Tryz.prog ω 71 [c_p,s_p,v_p,bU] h R X :=
 al (an:=mS) Tryz.func71 (by kernel_rfl) hk
def cQ (ω:Amb)(c_p s_p l_p:Value)(h:Hp)(R:RT)(X:XT):Prop :=
 ∃(I0:RT) (μ1:Value→Hp→Nat),I0 (.int .i64 0) h∧∀i_2 (d3:Nat→Value) (h4:Hp),I0 i_2 h4 →
 ∃β5:Bool,
 (bR l_p fun a7 l8 c9=>asK .i64 i_2 fun n10=>cond (decide (n10 < (l8:Int)))
 (nnK c_p (asP c_p fun p11 =>
 ∃v12,af h4 (Addr.add (Addr.add p11 4) 0)=some v12 ∧
 asK .i64 v12 fun n13=>((.bool (n13==(0:Int))):Value)=.bool β5∧h4=h4))
 (((.bool false):Value)=.bool β5∧h4=h4)) ∧
 ∀d6:Nat→Value,
 cond β5
 (aI l_p fun a14 l15 c16=>asI i_2 fun n17=>0≤n17∧n17 < (l15:Int)∧∃C18,aj h4 (Addr.add a14 (n17.toNat*9)) 9 C18 ∧
 aa Tryz.prog ω 96 [c_p,s_p,.agg C18.toArray] h4 (fun r19 h20 =>
 asK .i64 i_2 fun n21=>I0 (.int .i64 (IntKind.wrap .i64 (n21+1))) h20∧μ1 (.int .i64 (IntKind.wrap .i64 (n21+1))) h20 < μ1 i_2 h4) X)
 (R (.tuple #[]) h4)
def lV:Ann :=
 (.T .L (.one (.loop [7,8,9,10,11,12,13,14,15,16,17,18,21,22,23,24,25,26,27,19,20,6] [6] (.T (.T (.jb [7,8,9,10,11,12,13,14,15,16,17,18] 18 .L) (.T .L .L)) (.T (.one .L) .L)))))
theorem eD (ω:Amb)(c_p s_p l_p:Value)(h:Hp)(R:RT)(X:XT)(hk:cQ ω c_p s_p l_p h R X):aa Tryz.prog ω 72 [c_p,s_p,l_p] h R X :=
 al (an:=lV) Tryz.func72 (by kernel_rfl) hk
def fj (ω:Amb)(c_p s_p qK:Value)(h:Hp)(R:RT)(X:XT):Prop :=
 nnK c_p (asP c_p fun p0 =>
 ∃v1,af (h.push (.cells (Value.cells qK) 39 (0,0))) (Addr.add p0 3)=some v1 ∧
 nnK c_p (asP c_p fun p2 =>
 ∃v3,af (h.push (.cells (Value.cells qK) 39 (0,0))) (Addr.add p2 3)=some v3 ∧
 asK .i64 v3 fun n4=>nnK c_p (asP c_p fun p5 =>
 aJ (h.push (.cells (Value.cells qK) 39 (0,0))) (Addr.add p5 3) (.int .i64 (IntKind.wrap .i64 (n4+1))) fun h6 =>
 ∃C7,aj h6 ⟨h.size,0,none⟩ 9 C7 ∧
 aa Tryz.prog ω 121 [.agg C7.toArray,.string ⟨#[]⟩] h6 (fun r8 h9 =>
 bR r8 fun a10 l11 c12=>∃(I13:RT) (μ14:Value→Hp→Nat),I13 (.int .i64 0) h9∧∀yE (d16:Nat→Value) (h17:Hp),I13 yE h17 →
 asK .i64 yE fun n18=>cond (decide (n18 < (l11:Int)))
 (∃J19:Hp→Prop,
 (aI r8 fun a22 l23 c24=>asI yE fun n25=>0≤n25∧n25 < (l23:Int)∧∃C26,aj h17 (Addr.add a22 (n25.toNat*2)) 2 C26 ∧
 C26.toArray.size=2∧(∀u∈C26.toArray.toList,one u)∧av (h17.push (.cells #[.string ⟨#[]⟩,.string ⟨#[]⟩] 56 (0,0))) ⟨h17.size,0,none⟩ C26.toArray.toList fun h27 =>
 ∃J28:RT,
 (nnK c_p (asP c_p fun p32 =>
 ∃v33,af h27 (Addr.add p32 1)=some v33 ∧
 ∃v34,af h27 (Addr.add ⟨h17.size,0,none⟩ 0)=some v34 ∧
 iT Tryz.prog 77 h27 v33 v34 false fun w35 h36 =>
 asK .i64 w35 fun n37=>cond (decide (n37 > 0))
 (J28 (.bool true) h36)
 (∃v38,af h36 (Addr.add ⟨h.size,0,none⟩ 0)=some v38 ∧
 asK .i64 v38 fun n39=>cond (n39==(4:Int))
 (∃v40,af h36 (Addr.add ⟨h.size,0,none⟩ 2)=some v40 ∧
 ∃v41,af h36 (Addr.add ⟨h.size,0,none⟩ 3)=some v41 ∧
 asS v40 fun s42=>asS v41 fun s43=>J28 (.bool (s42.toList==s43.toList)) h36)
 (J28 (.bool false) h36)))) ∧
 ∀JF (d30:Nat→Value) (h31:Hp),J28 JF h31 →
 ∃J44:Hp→Prop,
 (asB JF fun b47=>cond b47
 (aa Tryz.prog ω 70 [c_p,.int .i64 9,v1] h31 (fun r48 h49 =>
 J44 h49) X)
 (J44 h31)) ∧
 ∀(d45:Nat→Value) (h46:Hp),J44 h46 →
 J19 h46) ∧
 ∀(d20:Nat→Value) (h21:Hp),J19 h21 →
 asK .i64 yE fun n50=>I13 (.int .i64 (IntKind.wrap .i64 (n50+1))) h21∧μ14 (.int .i64 (IntKind.wrap .i64 (n50+1))) h21 < μ14 yE h17)
 (∃C51,aj h17 ⟨h.size,0,none⟩ 9 C51 ∧
 aa Tryz.prog ω 122 [c_p,s_p,.agg C51.toArray,v1] h17 (fun r52 h53 =>
 nnK c_p (asP c_p fun p54 =>
 ∃v55,af h53 (Addr.add (Addr.add p54 4) 0)=some v55 ∧
 asK .i64 v55 fun n56=>cond (n56 !=(0:Int))
 (R (.tuple #[]) h53)
 (cq s_p (cq (.map (some (h53.size))) (∃C57,aj (Array.push (h53.push (.map #[] 0)) (.cells #[s_p,(.map (some (h53.size)))] 124 (0,0))) ⟨h.size,0,none⟩ 9 C57 ∧
 aa Tryz.prog ω 121 [.agg C57.toArray,r52] (Array.push (h53.push (.map #[] 0)) (.cells #[s_p,(.map (some (h53.size)))] 124 (0,0))) (fun r58 h59 =>
 bR r58 fun a60 l61 c62=>∃(I63:RT) (μ64:Value→Hp→Nat),I63 (.int .i64 0) h59∧∀yy (d66:Nat→Value) (h67:Hp),I63 yy h67 →
 asK .i64 yy fun n68=>cond (decide (n68 < (l61:Int)))
 (∃J69:Hp→Prop,
 (aI r58 fun a72 l73 c74=>asI yy fun n75=>0≤n75∧n75 < (l73:Int)∧∃C76,aj h67 (Addr.add a72 (n75.toNat*2)) 2 C76 ∧
 C76.toArray.size=2∧(∀u∈C76.toArray.toList,one u)∧av (h67.push (.cells #[.string ⟨#[]⟩,.string ⟨#[]⟩] 56 (0,0))) ⟨h67.size,0,none⟩ C76.toArray.toList fun h77 =>
 ∃β78:Bool,
 (∃v80,af h77 (Addr.add ⟨h.size,0,none⟩ 0)=some v80 ∧
 asK .i64 v80 fun n81=>cond (n81==(11:Int))
 (((.bool true):Value)=.bool β78∧h77=h77)
 (∃v82,af h77 (Addr.add ⟨h.size,0,none⟩ 0)=some v82 ∧
 asK .i64 v82 fun n83=>((.bool (n83==(12:Int))):Value)=.bool β78∧h77=h77)) ∧
 ∀d79:Nat→Value,
 ∃J84:Hp→Prop,
 (cond β78
 (∃C87,aj h77 ⟨h67.size,0,none⟩ 2 C87 ∧
 aa Tryz.prog ω 71 [c_p,(.pointer (some ⟨Array.size (h53.push (.map #[] 0)),0,none⟩)),.agg C87.toArray,v1] h77 (fun r88 h89 =>
 J84 h89) X)
 (∃C90,aj h77 ⟨h67.size,0,none⟩ 2 C90 ∧
 aa Tryz.prog ω 71 [c_p,s_p,.agg C90.toArray,v1] h77 (fun r91 h92 =>
 J84 h92) X)) ∧
 ∀(d85:Nat→Value) (h86:Hp),J84 h86 →
 J69 h86) ∧
 ∀(d70:Nat→Value) (h71:Hp),J69 h71 →
 asK .i64 yy fun n93=>I63 (.int .i64 (IntKind.wrap .i64 (n93+1))) h71∧μ64 (.int .i64 (IntKind.wrap .i64 (n93+1))) h71 < μ64 yy h67)
 (∃v94,af h67 (Addr.add ⟨h.size,0,none⟩ 7)=some v94 ∧
 aa Tryz.prog ω 72 [c_p,(.pointer (some ⟨Array.size (h53.push (.map #[] 0)),0,none⟩)),v94] h67 (fun r95 h96 =>
 cq s_p (cq (.map (some (h96.size))) (∃v97,af (Array.push (h96.push (.map #[] 0)) (.cells #[s_p,(.map (some (h96.size)))] 124 (0,0))) (Addr.add ⟨h.size,0,none⟩ 8)=some v97 ∧
 aa Tryz.prog ω 72 [c_p,(.pointer (some ⟨Array.size (h96.push (.map #[] 0)),0,none⟩)),v97] (Array.push (h96.push (.map #[] 0)) (.cells #[s_p,(.map (some (h96.size)))] 124 (0,0))) (fun r98 h99 =>
 R (.tuple #[]) h99) X))) X)) X))))) X)) X)))
def mI:Ann :=
 (.T .L (.T .L (.T .L (.T (.T .L (.one (.loop [28,29,30,8,31,32,33,34,35,36,37,38,39,40,41,42,43,44,45,46,47,48,49,50,51,52,53,54,27] [27] (.T .L (.T (.T .L .L) (.T (.join [29,30,8,31,32,33,34,35,36,37,38,39,40,41,42,43,44,45,46,47,48,49,50,51,52,53] [] (.one (.T .L (.T (.join [31,32,33,34,35,36,37,38,39,40,41,42,43,44,45,46,47,48,49,50] [50] (.plan [0,1,2,3,4,5,6,7,8,9,10,11,12,13,14,15,16,17,18,19])) (.join [51,52,53] [] (.T .L .L)))))) .L)))))) (.T .L (.T (.T .L (.T .L .L)) (.T .L (.T (.T .L (.one (.loop [75,76,77,12,78,79,80,81,82,83,84,85,86,87,88,89,90,91,92,93,94,95,96,74] [74] (.T .L (.T (.T .L .L) (.T (.join [76,77,12,78,79,80,81,82,83,84,85,86,87,88,89,90,91,92,93,94,95] [] (.one (.T .L (.T (.jb [78,79,80,81,82,83,84,85] 85 .L) (.join [86,87,88,89,90,91,92,93,94,95] [] (.T .L .L)))))) .L)))))) (.T .L .L)))))))))
theorem mu (ω:Amb)(c_p s_p qK:Value)(h:Hp)(R:RT)(X:XT)(hk:fj ω c_p s_p qK h R X):aa Tryz.prog ω 96 [c_p,s_p,qK] h R X :=
 al (an:=mI) Tryz.func96 (by kernel_rfl) hk
abbrev bj (h:Hp)(s_p:Value):Hp:=h.push (.cells (Value.cells s_p) 39 (0,0))
def rQ (ω:Amb)(s_p An:Value)(h:Hp)(R:RT)(X:XT):Prop :=
 ∃v0,af (bj h s_p) (Addr.add ⟨h.size,0,none⟩ 0)=some v0 ∧
 asK .i64 v0 fun n1=>cond (n1==(1:Int))
 (∃v2,af (bj h s_p) (Addr.add ⟨h.size,0,none⟩ 2)=some v2 ∧
 cq v2 (2=2∧R (.slice (some ⟨Array.size (bj h s_p),0,none⟩) 1 1) (Array.push (bj h s_p) (.cells (List.toArray [v2,(.string ⟨#[105]⟩)]) 56 (0,0)))))
 (asK .i64 v0 fun n3=>cond (n3==(4:Int))
 (∃v4,af (bj h s_p) (Addr.add ⟨h.size,0,none⟩ 2)=some v4 ∧
 ∃v5,af (bj h s_p) (Addr.add ⟨h.size,0,none⟩ 4)=some v5 ∧
 asS v5 fun s6=>ByteArray.size ⟨#[115]⟩+s6.size≤9223372036854775807∧cq v4 (∃v7,af (bj h s_p) (Addr.add ⟨h.size,0,none⟩ 3)=some v7 ∧
 ∃v8,af (bj h s_p) (Addr.add ⟨h.size,0,none⟩ 4)=some v8 ∧
 asS v8 fun s9=>ByteArray.size ⟨#[114]⟩+s9.size≤9223372036854775807∧cq v7 (2=2∧2=2∧R (.slice (some ⟨Array.size (bj h s_p),0,none⟩) 2 2) (Array.push (bj h s_p) (.cells (List.toArray [v4,(.string (⟨#[115]⟩++s6)),v7,(.string (⟨#[114]⟩++s9))]) 56 (0,0))))))
 (asK .i64 v0 fun n10=>∃J11:RT,
 (cond (n10==(5:Int))
 (J11 (.bool (n10==(5:Int))) (bj h s_p))
 (asK .i64 v0 fun n15=>∃J16:RT,
 (cond (n15==(11:Int))
 (J16 (.bool (n15==(11:Int))) (bj h s_p))
 (asK .i64 v0 fun n20=>J16 (.bool (n20==(12:Int))) (bj h s_p))) ∧
 ∀K9 (d18:Nat→Value) (h19:Hp),J16 K9 h19 →
 J11 K9 h19)) ∧
 ∀Li (d13:Nat→Value) (h14:Hp),J11 Li h14 →
 asB Li fun b21=>cond b21
 (∃v22,af h14 (Addr.add ⟨h.size,0,none⟩ 2)=some v22 ∧
 cq v22 (cq An (2=2∧R (.slice (some ⟨h14.size,0,none⟩) 1 1) (h14.push (.cells (List.toArray [v22,An]) 56 (0,0))))))
 (R (.slice none 0 0) h14)))
def yh:Ann :=
 (.T .L (.T (.T .L (.one (.T .L (.T (.T .L .L) (.T .L (.T (.T .L .L) (.T (.T .L (.join [30,28,31] [28] (.T .L (.T .L (.join [31,28] [28] (.T .L .L)))))) (.T (.T .L .L) .L)))))))) (.T .L .L)))
theorem yv (ω:Amb)(s_p An:Value)(h:Hp)(R:RT)(X:XT)(hk:rQ ω s_p An h R X):aa Tryz.prog ω 121 [s_p,An] h R X :=
 al (an:=yh) Tryz.func121 (by kernel_rfl) hk
def fi (ω:Amb)(c_p s_p qK bU:Value)(h:Hp)(R:RT)(X:XT):Prop :=
 ∃C0,aj (h.push (.cells (Value.cells qK) 39 (0,0))) ⟨h.size,0,none⟩ 9 C0 ∧
 aa Tryz.prog ω 141 [c_p,s_p,.agg C0.toArray,bU] (h.push (.cells (Value.cells qK) 39 (0,0))) (fun r1 h2 =>
 nnK c_p (asP c_p fun p3 =>
 ∃v4,af h2 (Addr.add (Addr.add p3 4) 0)=some v4 ∧
 asK .i64 v4 fun n5=>cond (n5 !=(0:Int))
 (R (.string ⟨#[]⟩) h2)
 (∃v6,af h2 (Addr.add ⟨h.size,0,none⟩ 0)=some v6 ∧
 ∃J7:Hp→Prop,
 (asK .i64 v6 fun n10=>∃J11:Hp→Prop,
 (cond (n10==(2:Int))
 (∃v14,af h2 (Addr.add ⟨h.size,0,none⟩ 2)=some v14 ∧
 aa Tryz.prog ω 142 [c_p,s_p,v14,(.string ⟨#[105]⟩),bU] h2 (fun r15 h16 =>
 ∃v17,af h16 (Addr.add ⟨h.size,0,none⟩ 6)=some v17 ∧
 aI v17 fun a18 l19 c20=>0≤(0:Int)∧0 < (l19:Int)∧∃C21,aj h16 (Addr.add a18 (Int.toNat 0*4)) 4 C21 ∧
 aa Tryz.prog ω 143 [c_p,s_p,.agg C21.toArray,bU] h16 (fun r22 h23 =>
 J11 h23) X) X)
 (asK .i64 v6 fun n24=>∃J25:RT,
 (cond (n24==(1:Int))
 (J25 (.bool (n24==(1:Int))) h2)
 (asK .i64 v6 fun n29=>∃J30:RT,
 (cond (n29==(3:Int))
 (J30 (.bool (n29==(3:Int))) h2)
 (asK .i64 v6 fun n34=>∃J35:RT,
 (cond (n34==(13:Int))
 (J35 (.bool (n34==(13:Int))) h2)
 (asK .i64 v6 fun n39=>J35 (.bool (n39==(14:Int))) h2)) ∧
 ∀Ki (d37:Nat→Value) (h38:Hp),J35 Ki h38 →
 J30 Ki h38)) ∧
 ∀JK (d32:Nat→Value) (h33:Hp),J30 JK h33 →
 J25 JK h33)) ∧
 ∀Kh (d27:Nat→Value) (h28:Hp),J25 Kh h28 →
 ∃J40:Hp→Prop,
 (asB Kh fun b43=>cond b43
 (∃v44,af h28 (Addr.add ⟨h.size,0,none⟩ 6)=some v44 ∧
 aI v44 fun a45 l46 c47=>0≤(0:Int)∧0 < (l46:Int)∧∃C48,aj h28 (Addr.add a45 (Int.toNat 0*4)) 4 C48 ∧
 aa Tryz.prog ω 143 [c_p,s_p,.agg C48.toArray,bU] h28 (fun r49 h50 =>
 J40 h50) X)
 (asK .i64 v6 fun n51=>∃J52:Hp→Prop,
 (cond (n51==(6:Int))
 (∃v55,af h28 (Addr.add ⟨h.size,0,none⟩ 6)=some v55 ∧
 aI v55 fun a56 l57 c58=>0≤(0:Int)∧0 < (l57:Int)∧∃C59,aj h28 (Addr.add a56 (Int.toNat 0*4)) 4 C59 ∧
 aa Tryz.prog ω 144 [c_p,s_p,.agg C59.toArray,r1,bU] h28 (fun r60 h61 =>
 J52 h61) X)
 (asK .i64 v6 fun n62=>∃J63:Hp→Prop,
 (cond (n62==(10:Int))
 (∃C66,aj h28 ⟨h.size,0,none⟩ 9 C66 ∧
 aa Tryz.prog ω 145 [c_p,s_p,.agg C66.toArray,bU] h28 (fun r67 h68 =>
 J63 h68) X)
 (asK .i64 v6 fun n69=>∃J70:Hp→Prop,
 (cond (n69==(4:Int))
 (∃β73:Bool,
 (∃v75,af h28 (Addr.add ⟨h.size,0,none⟩ 5)=some v75 ∧
 asK .i64 v75 fun n76=>cond (decide (n76 < 1))
 (((.bool true):Value)=.bool β73∧h28=h28)
 (∃v77,af h28 (Addr.add ⟨h.size,0,none⟩ 5)=some v77 ∧
 asK .i64 v77 fun n78=>((.bool (decide (n78 > 5))):Value)=.bool β73∧h28=h28)) ∧
 ∀d74:Nat→Value,
 ∃J79:Hp→Prop,
 (cond β73
 (aa Tryz.prog ω 70 [c_p,.int .i64 14,bU] h28 (fun r82 h83 =>
 J79 h83) X)
 (J79 h28)) ∧
 ∀(d80:Nat→Value) (h81:Hp),J79 h81 →
 ∃v84,af h81 (Addr.add ⟨h.size,0,none⟩ 4)=some v84 ∧
 asS v84 fun s85=>∃J86:Hp→Prop,
 (cond (decide (((s85.size:Int):Int) > 3))
 (aa Tryz.prog ω 70 [c_p,.int .i64 11,bU] h81 (fun r89 h90 =>
 J86 h90) X)
 (J86 h81)) ∧
 ∀(d87:Nat→Value) (h88:Hp),J86 h88 →
 J70 h88)
 (J70 h28)) ∧
 ∀(d71:Nat→Value) (h72:Hp),J70 h72 →
 J63 h72)) ∧
 ∀(d64:Nat→Value) (h65:Hp),J63 h65 →
 J52 h65)) ∧
 ∀(d53:Nat→Value) (h54:Hp),J52 h54 →
 J40 h54)) ∧
 ∀(d41:Nat→Value) (h42:Hp),J40 h42 →
 J11 h42)) ∧
 ∀(d12:Nat→Value) (h13:Hp),J11 h13 →
 J7 h13) ∧
 ∀(d8:Nat→Value) (h9:Hp),J7 h9 →
 R r1 h9))) X
def nc:Ann :=
 (.T .L (.T .L (.T (.T .L (.T (.T .L .L) .L)) (.T (.T .L (.join [24,23,25,26,27,28,29,30,31,32,33,34,35,36,37,38,40,39,41,42,43,44,45,46,47,48,49,50,51,53,52,54,55,56,57,58,59,60,61,62,64,63,65,66,67,68,69,71,70,72,73,74,75,76,77,78,79,80,81,82,83,84,85,86,87,88,89] [] (.one (.T .L (.join [25,26,27,28,29,30,31,32,33,34,35,36,37,38,40,39,41,42,43,44,45,46,47,48,49,50,51,53,52,54,55,56,57,58,59,60,61,62,64,63,65,66,67,68,69,71,70,72,73,74,75,76,77,78,79,80,81,82,83,84,85,86,87,88,89] [] (.T (.T .L .L) (.T (.T .L (.join [41,39,42,43] [39] (.T .L (.T .L (.join [42,39,43] [39] (.T .L (.T .L (.join [43,39] [39] (.T .L .L))))))))) (.join [44,45,46,47,48,49,50,51,53,52,54,55,56,57,58,59,60,61,62,64,63,65,66,67,68,69,71,70,72,73,74,75,76,77,78,79,80,81,82,83,84,85,86,87,88,89] [] (.T .L (.T .L (.join [54,55,56,57,58,59,60,61,62,64,63,65,66,67,68,69,71,70,72,73,74,75,76,77,78,79,80,81,82,83,84,85,86,87,88,89] [] (.T .L (.T .L (.join [65,66,67,68,69,71,70,72,73,74,75,76,77,78,79,80,81,82,83,84,85,86,87,88,89] [] (.T .L (.T .L (.join [72,73,74,75,76,77,78,79,80,81,82,83,84,85,86,87,88,89] [] (.T (.T (.T (.jb [72,73,74,75,76,77,78,79] 79 .L) (.join [80,81,82] [] (.T .L .L))) (.T .L (.join [87,88,89] [] (.T .L .L)))) .L)))))))))))))))))) (.T .L .L)))))
theorem mJ (ω:Amb)(c_p s_p qK bU:Value)(h:Hp)(R:RT)(X:XT)(hk:fi ω c_p s_p qK bU h R X):aa Tryz.prog ω 122 [c_p,s_p,qK,bU] h R X :=
 al (an:=nc) Tryz.func122 (by kernel_rfl) hk
abbrev bq (h:Hp)(qK:Value):Hp:=h.push (.cells (Value.cells qK) 39 (0,0))
def gG (ω:Amb)(c_p s_p qK bU:Value)(h:Hp)(R:RT)(X:XT):Prop :=
 ∃v0,af (bq h qK) (Addr.add ⟨h.size,0,none⟩ 2)=some v0 ∧
 ∃v1,af (bq h qK) (Addr.add ⟨h.size,0,none⟩ 0)=some v1 ∧
 ∃J2:Value→RT,
 (asK .i64 v1 fun n7=>∃J8:Value→RT,
 (cond (n7==(5:Int))
 (∃v13,af (bq h qK) (Addr.add ⟨h.size,0,none⟩ 3)=some v13 ∧
 J8 v13 (.string ⟨#[115]⟩) (bq h qK))
 (asK .i64 v1 fun n14=>∃J15:RT,
 (cond (n14==(6:Int))
 (J15 (.bool (n14==(6:Int))) (bq h qK))
 (asK .i64 v1 fun n19=>J15 (.bool (n19==(7:Int))) (bq h qK))) ∧
 ∀Lb (d17:Nat→Value) (h18:Hp),J15 Lb h18 →
 ∃J20:Value→RT,
 (asB Lb fun b25=>cond b25
 (J20 (.string ⟨#[115]⟩) v0 h18)
 (asK .i64 v1 fun n26=>∃J27:RT,
 (cond (n26==(8:Int))
 (J27 (.bool (n26==(8:Int))) h18)
 (asK .i64 v1 fun n31=>J27 (.bool (n31==(9:Int))) h18)) ∧
 ∀JD (d29:Nat→Value) (h30:Hp),J27 JD h30 →
 ∃J32:Value→RT,
 (asB JD fun b37=>cond b37
 (J32 (.string ⟨#[114]⟩) v0 h30)
 (asK .i64 v1 fun n38=>∃J39:RT,
 (cond (n38==(11:Int))
 (J39 (.bool (n38==(11:Int))) h30)
 (asK .i64 v1 fun n43=>J39 (.bool (n43==(12:Int))) h30)) ∧
 ∀JS (d41:Nat→Value) (h42:Hp),J39 JS h42 →
 asB JS fun b44=>cond b44
 (∃v45,af h42 (Addr.add ⟨h.size,0,none⟩ 3)=some v45 ∧
 J32 (.string ⟨#[114]⟩) v45 h42)
 (R (.string ⟨#[]⟩) h42))) ∧
 ∀yT G4 (d35:Nat→Value) (h36:Hp),J32 yT G4 h36 →
 J20 yT G4 h36)) ∧
 ∀Ae GH (d23:Nat→Value) (h24:Hp),J20 Ae GH h24 →
 J8 GH Ae h24)) ∧
 ∀Ka yC (d11:Nat→Value) (h12:Hp),J8 Ka yC h12 →
 J2 Ka yC h12) ∧
 ∀JI CY (d5:Nat→Value) (h6:Hp),J2 JI CY h6 →
 aa Tryz.prog ω 142 [c_p,s_p,JI,CY,bU] h6 (fun r46 h47 =>
 ∃β48:Bool,
 (asS r46 fun s50=>cond (s50.toList==ByteArray.toList ⟨#[]⟩)
 (((.bool true):Value)=.bool β48∧h47=h47)
 (∃v51,af h47 (Addr.add ⟨h.size,0,none⟩ 0)=some v51 ∧
 asK .i64 v51 fun n52=>((.bool (n52==(5:Int))):Value)=.bool β48∧h47=h47)) ∧
 ∀d49:Nat→Value,
 cond β48
 (R r46 h47)
 (asS r46 fun s53=>0≤(1:Int)∧(1:Int)≤(s53.size:Int)∧(s53.size:Int)≤(s53.size:Int)∧R (.string (ByteArray.extract s53 (Int.toNat 1) (Int.toNat (s53.size:Int)))) h47)) X
def oF:Ann :=
 (.T .L (.T .L (.T (.T .L (.join [17,16,18,19,9,21,20,22,24,23,25,10,27,26,28,29,30,8] [9,10] (.one (.T .L (.join [18,19,9,21,20,22,24,23,25,10,27,26,28,29,30,8] [9,10] (.T .L (.T (.T .L (.join [22,20] [20] (.T .L .L))) (.join [24,23,25,10,27,26,28,29,30,9,8] [10,9] (.T .L (.T (.T .L (.join [25,23] [23] (.T .L .L))) (.join [10,27,26,28,29,30,9,8] [10,9] (.T .L (.T (.T .L (.join [28,26] [26] (.T .L .L))) (.T .L (.T .L .L))))))))))))))) (.T .L (.T (.T (.jb [37,38,39,40,41,42,43] 43 .L) (.T (.T .L .L) .L)) (.T .L .L))))))
theorem ox (ω:Amb)(c_p s_p qK bU:Value)(h:Hp)(R:RT)(X:XT)(hk:gG ω c_p s_p qK bU h R X):aa Tryz.prog ω 141 [c_p,s_p,qK,bU] h R X :=
 al (an:=oF) Tryz.func141 (by kernel_rfl) hk
def gC (ω:Amb)(c_p s_p qV rC bU:Value)(h:Hp)(R:RT)(X:XT):Prop :=
 aa Tryz.prog ω 155 [s_p,qV] h (fun r0 h1 =>
 asT r0 fun T2=>asO T2[0]? fun v3=>asT r0 fun T4=>asO T4[1]? fun v5=>asB v5 fun b6=>cond (!b6)
 (aa Tryz.prog ω 70 [c_p,.int .i64 10,bU] h1 (fun r7 h8 =>
 R (.string ⟨#[]⟩) h8) X)
 (asS rC fun s9=>asS v3 fun s10=>0≤(((0:Nat):Int):Int)∧(((0:Nat):Int):Int)≤(s9.size:Int)∧(s9.size:Int)≤(s10.size:Int)∧asS rC fun s11=>cond (!(ByteArray.toList (ByteArray.extract s10 (Int.toNat ((0:Nat):Int)) (Int.toNat (s9.size:Int)))==s11.toList))
 (aa Tryz.prog ω 70 [c_p,.int .i64 11,bU] h1 (fun r12 h13 =>
 R (.string ⟨#[]⟩) h13) X)
 (R v3 h1))) X
def nS:Ann :=
 (.T .L (.T .L (.T (.T .L (.T (.T .L (.T .L .L)) .L)) (.T (.T .L (.T (.T .L (.T .L .L)) .L)) (.T .L .L)))))
theorem nQ (ω:Amb)(c_p s_p qV rC bU:Value)(h:Hp)(R:RT)(X:XT)(hk:gC ω c_p s_p qV rC bU h R X):aa Tryz.prog ω 142 [c_p,s_p,qV,rC,bU] h R X :=
 al (an:=nS) Tryz.func142 (by kernel_rfl) hk
abbrev bK (h:Hp)(x_p:Value):Hp:=h.push (.cells (Value.cells x_p) 36 (0,0))
def eh (ω:Amb)(c_p s_p x_p bU:Value)(h:Hp)(R:RT)(X:XT):Prop :=
 ∃v0,af (bK h x_p) (Addr.add ⟨h.size,0,none⟩ 0)=some v0 ∧
 asK .i64 v0 fun n1=>∃J2:Hp→Prop,
 (cond (n1==(2:Int))
 (∃v5,af (bK h x_p) (Addr.add ⟨h.size,0,none⟩ 1)=some v5 ∧
 aa Tryz.prog ω 142 [c_p,s_p,v5,(.string ⟨#[105]⟩),bU] (bK h x_p) (fun r6 h7 =>
 J2 h7) X)
 (J2 (bK h x_p))) ∧
 ∀(d3:Nat→Value) (h4:Hp),J2 h4 →
 ∃v8,af h4 (Addr.add ⟨h.size,0,none⟩ 3)=some v8 ∧
 bR v8 fun a9 l10 c11=>∃(I12:RT) (μ13:Value→Hp→Nat),I12 (.int .i64 0) h4∧∀yZ (d15:Nat→Value) (h16:Hp),I12 yZ h16 →
 asK .i64 yZ fun n17=>cond (decide (n17 < (l10:Int)))
 (aI v8 fun a18 l19 c20=>asI yZ fun n21=>0≤n21∧n21 < (l19:Int)∧∃C22,aj h16 (Addr.add a18 (n21.toNat*4)) 4 C22 ∧
 C22.toArray.size=4∧(∀u∈C22.toArray.toList,one u)∧av (h16.push (.cells #[.int .i64 0,.string ⟨#[]⟩,.int .i64 0,.slice none 0 0] 36 (0,0))) ⟨h16.size,0,none⟩ C22.toArray.toList fun h23 =>
 ∃C24,aj h23 ⟨h16.size,0,none⟩ 4 C24 ∧
 aa Tryz.prog ω 143 [c_p,s_p,.agg C24.toArray,bU] h23 (fun r25 h26 =>
 asK .i64 yZ fun n27=>I12 (.int .i64 (IntKind.wrap .i64 (n27+1))) h26∧μ13 (.int .i64 (IntKind.wrap .i64 (n27+1))) h26 < μ13 yZ h16) X)
 (R (.tuple #[]) h16)
def kJ:Ann :=
 (.T .L (.T (.T .L (.join [13,14,15,16,17,18] [] (.T .L .L))) (.T .L (.one (.loop [23,24,25,9,26,27,28,29,30,31,22] [22] (.T .L (.T (.T .L .L) (.T (.one (.T .L .L)) .L))))))))
theorem kK (ω:Amb)(c_p s_p x_p bU:Value)(h:Hp)(R:RT)(X:XT)(hk:eh ω c_p s_p x_p bU h R X):aa Tryz.prog ω 143 [c_p,s_p,x_p,bU] h R X :=
 al (an:=kJ) Tryz.func143 (by kernel_rfl) hk
abbrev aY (h:Hp)(x_p:Value):Hp:=h.push (.cells (Value.cells x_p) 36 (0,0))
def ez (ω:Amb)(c_p s_p x_p t_p bU:Value)(h:Hp)(R:RT)(X:XT):Prop :=
 asS t_p fun s0=>cond (s0.toList==ByteArray.toList ⟨#[105]⟩)
 (∃C1,aj (aY h x_p) ⟨h.size,0,none⟩ 4 C1 ∧
 aa Tryz.prog ω 143 [c_p,s_p,.agg C1.toArray,bU] (aY h x_p) (fun r2 h3 =>
 R (.tuple #[]) h3) X)
 (∃v4,af (aY h x_p) (Addr.add ⟨h.size,0,none⟩ 0)=some v4 ∧
 asK .i64 v4 fun n5=>cond (n5 !=(2:Int))
 (aa Tryz.prog ω 70 [c_p,.int .i64 11,bU] (aY h x_p) (fun r6 h7 =>
 R (.tuple #[]) h7) X)
 (∃v8,af (aY h x_p) (Addr.add ⟨h.size,0,none⟩ 1)=some v8 ∧
 aa Tryz.prog ω 142 [c_p,s_p,v8,.string ⟨#[]⟩,bU] (aY h x_p) (fun r9 h10 =>
 asS r9 fun s11=>asS t_p fun s12=>∃J13:Hp→Prop,
 (cond (!(s11.toList==s12.toList))
 (aa Tryz.prog ω 70 [c_p,.int .i64 11,bU] h10 (fun r16 h17 =>
 J13 h17) X)
 (J13 h10)) ∧
 ∀(d14:Nat→Value) (h15:Hp),J13 h15 →
 R (.tuple #[]) h15) X))
def lk:Ann :=
 (.T .L (.T (.T .L (.T (.T .L .L) .L)) (.T (.T .L (.T (.T .L .L) .L)) (.T .L (.join [31,32,33] [] (.T .L .L))))))
theorem lK (ω:Amb)(c_p s_p x_p t_p bU:Value)(h:Hp)(R:RT)(X:XT)(hk:ez ω c_p s_p x_p t_p bU h R X):aa Tryz.prog ω 144 [c_p,s_p,x_p,t_p,bU] h R X :=
 al (an:=lk) Tryz.func144 (by kernel_rfl) hk
def eW (ω:Amb)(c_p s_p qK bU:Value)(h:Hp)(R:RT)(X:XT):Prop :=
 nnK c_p (asP c_p fun p0 =>
 ∃v1,af (h.push (.cells (Value.cells qK) 39 (0,0))) (Addr.add p0 0)=some v1 ∧
 aa Tryz.prog ω 156 [v1,(.func (.func 157) #[] #[(.pointer (some ⟨h.size,0,none⟩))])] (h.push (.cells (Value.cells qK) 39 (0,0))) (fun r2 h3 =>
 asK .i64 r2 fun n4=>cond (decide (n4 < 0))
 (aa Tryz.prog ω 70 [c_p,.int .i64 12,bU] h3 (fun r5 h6 =>
 R (.tuple #[]) h6) X)
 (nnK c_p (asP c_p fun p7 =>
 ∃v8,af h3 (Addr.add p7 0)=some v8 ∧
 aI v8 fun a9 l10 c11=>asI r2 fun n12=>0≤n12∧n12 < (l10:Int)∧∃v13,af h3 (Addr.add (Addr.add a9 (n12.toNat*4)) 2)=some v13 ∧
 bR v13 fun a14 l15 c16=>∃v17,af h3 (Addr.add ⟨h.size,0,none⟩ 6)=some v17 ∧
 bR v17 fun a18 l19 c20=>cond ((l15:Int) !=(l19:Int))
 (aa Tryz.prog ω 70 [c_p,.int .i64 15,bU] h3 (fun r21 h22 =>
 R (.tuple #[]) h22) X)
 (∃v23,af h3 (Addr.add ⟨h.size,0,none⟩ 6)=some v23 ∧
 bR v23 fun a24 l25 c26=>∃(I27:RT) (μ28:Value→Hp→Nat),I27 (.int .i64 0) h3∧∀vU (d30:Nat→Value) (h31:Hp),I27 vU h31 →
 asK .i64 vU fun n32=>cond (decide (n32 < (l25:Int)))
 (aI v23 fun a33 l34 c35=>asI vU fun n36=>0≤n36∧n36 < (l34:Int)∧∃C37,aj h31 (Addr.add a33 (n36.toNat*4)) 4 C37 ∧
 C37.toArray.size=4∧(∀u∈C37.toArray.toList,one u)∧av (h31.push (.cells #[.int .i64 0,.string ⟨#[]⟩,.int .i64 0,.slice none 0 0] 36 (0,0))) ⟨h31.size,0,none⟩ C37.toArray.toList fun h38 =>
 ∃C39,aj h38 ⟨h31.size,0,none⟩ 4 C39 ∧
 aI v13 fun a40 l41 c42=>asI vU fun n43=>0≤n43∧n43 < (l41:Int)∧∃v44,af h38 (Addr.add (Addr.add a40 (n43.toNat*2)) 1)=some v44 ∧
 aa Tryz.prog ω 144 [c_p,s_p,.agg C39.toArray,v44,bU] h38 (fun r45 h46 =>
 asK .i64 vU fun n47=>I27 (.int .i64 (IntKind.wrap .i64 (n47+1))) h46∧μ28 (.int .i64 (IntKind.wrap .i64 (n47+1))) h46 < μ28 vU h31) X)
 (R (.tuple #[]) h31))))) X)
def lL:Ann :=
 (.T .L (.T .L (.T (.T .L (.T (.T .L .L) .L)) (.T .L (.T (.T .L (.T (.T .L .L) .L)) (.T .L (.one (.loop [44,45,46,47,11,10,48,49,50,51,52,53,54,55,56,57,58,43] [43] (.T .L (.T (.T .L .L) (.T (.one (.T .L (.plan [0,1,2,3,4,5,6,7,8,9]))) .L)))))))))))
theorem lX (ω:Amb)(c_p s_p qK bU:Value)(h:Hp)(R:RT)(X:XT)(hk:eW ω c_p s_p qK bU h R X):aa Tryz.prog ω 145 [c_p,s_p,qK,bU] h R X :=
 al (an:=lL) Tryz.func145 (by kernel_rfl) hk
def gZ (ω:Amb)(s_p qV:Value)(h:Hp)(R:RT)(X:XT):Prop :=
 ∃(I0:RT) (μ1:Value→Hp→Nat),I0 s_p h∧∀s_2 (d3:Nat→Value) (h4:Hp),I0 s_2 h4 →
 MY s_2 fun q5=>cond (!(Option.isNone q5))
 (nnK s_2 (asP s_2 fun p6 =>
 ∃v7,af h4 (Addr.add p6 1)=some v7 ∧
 iT Tryz.prog 122 h4 v7 qV true fun w8 h9 =>
 asT w8 fun T10=>asO T10[0]? fun v11=>asT w8 fun T12=>asO T12[1]? fun v13=>asA v11 fun A14=>A14.size=2∧(∀u∈A14.toList,one u)∧av (h9.push (.cells #[.string ⟨#[]⟩,.string ⟨#[]⟩] 56 (0,0))) ⟨h9.size,0,none⟩ A14.toList fun h15 =>
 asB v13 fun b16=>cond b16
 (∃v17,af h15 (Addr.add ⟨h9.size,0,none⟩ 1)=some v17 ∧
 R (.tuple #[v17,.bool true]) h15)
 (nnK s_2 (asP s_2 fun p18 =>
 ∃v19,af h15 (Addr.add p18 0)=some v19 ∧
 I0 v19 h15∧μ1 v19 h15 < μ1 s_2 h4))))
 (R (.tuple #[.string ⟨#[]⟩,.bool false]) h4)
def pN:Ann :=
 (.T .L (.T (.one (.loop [8,9,15,16,17,18,19,20,14,21,22,6,7,23,24,25,4,5,10,11,12,13,0] [0] (.T (.T .L (.T .L .L)) (.T (.one (.T .L (.T .L (.T (.T .L .L) .L)))) .L)))) (.T .L .L)))
theorem qc (ω:Amb)(s_p qV:Value)(h:Hp)(R:RT)(X:XT)(hk:gZ ω s_p qV h R X):aa Tryz.prog ω 155 [s_p,qV] h R X :=
 al (an:=pN) Tryz.func155 (by kernel_rfl) hk
def bQ (ω:Amb)(s_p f_p:Value)(h:Hp)(R:RT)(X:XT):Prop :=
 bR s_p fun a0 l1 c2=>∃(I3:RT) (μ4:Value→Hp→Nat),I3 (.int .i64 0) h∧∀tg (d6:Nat→Value) (h7:Hp),I3 tg h7 →
 asK .i64 tg fun n8=>cond (decide (n8 < (l1:Int)))
 (aI s_p fun a9 l10 c11=>asI tg fun n12=>0≤n12∧n12 < (l10:Int)∧∃C13,aj h7 (Addr.add a9 (n12.toNat*4)) 4 C13 ∧
 F0 Tryz.prog ω f_p [.agg C13.toArray] h7 (fun r14 h15 =>
 asB r14 fun b16=>cond b16
 (R tg h15)
 (asK .i64 tg fun n17=>I3 (.int .i64 (IntKind.wrap .i64 (n17+1))) h15∧μ4 (.int .i64 (IntKind.wrap .i64 (n17+1))) h15 < μ4 tg h7)) X)
 (R (.int .i64 (-1)) h7)
def cY:Ann :=
 (.T .L (.T (.T .L (.one (.loop [9,10,5,11,12,13,14,15,16,17,4,18,8] [8] (.T .L (.T (.T .L .L) (.T (.one (.T .L (.T .L (.T (.T .L .L) .L)))) .L)))))) (.T .L .L)))
theorem cV (ω:Amb)(s_p f_p:Value)(h:Hp)(R:RT)(X:XT)(hk:bQ ω s_p f_p h R X):aa Tryz.prog ω 156 [s_p,f_p] h R X :=
 al (an:=cY) Tryz.func156 (by kernel_rfl) hk
def dF (ω:Amb)(g_p MW:Value)(h:Hp)(R:RT)(X:XT):Prop :=
 ∃v0,af (h.push (.cells (Value.cells g_p) 41 (0,0))) (Addr.add ⟨h.size,0,none⟩ 0)=some v0 ∧
 asP MW fun p1 =>
 ∃v2,af (h.push (.cells (Value.cells g_p) 41 (0,0))) (Addr.add p1 2)=some v2 ∧
 asS v0 fun s3=>asS v2 fun s4=>R (.bool (s3.toList==s4.toList)) (h.push (.cells (Value.cells g_p) 41 (0,0)))
def jY:Ann :=
 (.T .L (.T .L .L))
theorem ki (ω:Amb)(g_p MW:Value)(h:Hp)(R:RT)(X:XT)(hk:dF ω g_p MW h R X):aa Tryz.prog ω 157 [g_p,MW] h R X :=
 al (an:=jY) Tryz.func157 (by kernel_rfl) hk
end Go.Proofs.YtkeeboomikkojaaGreatDoor.Sx
set_option linter.unusedVariables false
set_option maxRecDepth 100000
namespace Go.Proofs.YtkeeboomikkojaaGreatDoor.Sx
open Go Go.Sx Go.Proofs
end Go.Proofs.YtkeeboomikkojaaGreatDoor.Sx
set_option linter.unusedVariables false
set_option maxRecDepth 100000
namespace Go.Proofs.YtkeeboomikkojaaGreatDoor.Sx
open Go Go.Sx Go.Proofs
def dz (ω:Amb)(p_p yg ym:Value)(h:Hp)(R:RT)(X:XT):Prop :=
 aa Tryz.prog ω 8 [] (h.push (.cells (Value.cells p_p) 24 (0,0))) (fun r0 h1 =>
 asB r0 fun b2=>cond (!b2)
 (R (.bool false) h1)
 (∃C3,aj h1 ⟨h.size,0,none⟩ 1 C3 ∧
 aa Tryz.prog ω 9 [.agg C3.toArray] h1 (fun r4 h5 =>
 asB r4 fun b6=>cond b6
 (R (.bool true) h5)
 (∃C7,aj h5 ⟨h.size,0,none⟩ 1 C7 ∧
 aa Tryz.prog ω 18 [.agg C7.toArray] h5 (fun r8 h9 =>
 asT r8 fun T10=>asO T10[0]? fun v11=>asT r8 fun T12=>asO T12[1]? fun v13=>asA v13 fun A14=>A14.size=2∧(∀u∈A14.toList,one u)∧av (h9.push (.cells #[.int .i64 0,.int .i64 0] 28 (0,0))) ⟨h9.size,0,none⟩ A14.toList fun h15 =>
 ∃v16,af h15 (Addr.add ⟨h9.size,0,none⟩ 0)=some v16 ∧
 asK .i64 v16 fun n17=>cond (n17 !=(0:Int))
 (bR v11 fun a18 l19 c20=>R (.bool ((l19:Int)==(0:Int))) h15)
 (asI yg fun n21=>bR v11 fun a22 l23 c24=>((IntKind.wrap .u64 (l23:Int)):Int)≠0∧aI v11 fun a25 l26 c27=>0≤((IntKind.wrap .i64 (Int.tmod (IntKind.wrap .u64 n21) (IntKind.wrap .u64 (l23:Int)))):Int)∧(IntKind.wrap .i64 (Int.tmod (IntKind.wrap .u64 n21) (IntKind.wrap .u64 (l23:Int)))) < (l26:Int)∧∃v28,af h15 (Addr.add a25 (Int.toNat (IntKind.wrap .i64 (Int.tmod (IntKind.wrap .u64 n21) (IntKind.wrap .u64 (l23:Int))))*1))=some v28 ∧
 bR v28 fun a29 l30 c31=>cond ((l30:Int)==(0:Int))
 (R (.bool true) h15)
 (asI ym fun n32=>aI v11 fun a33 l34 c35=>0≤((IntKind.wrap .i64 (Int.tmod (IntKind.wrap .u64 n21) (IntKind.wrap .u64 (l23:Int)))):Int)∧(IntKind.wrap .i64 (Int.tmod (IntKind.wrap .u64 n21) (IntKind.wrap .u64 (l23:Int)))) < (l34:Int)∧∃v36,af h15 (Addr.add a33 (Int.toNat (IntKind.wrap .i64 (Int.tmod (IntKind.wrap .u64 n21) (IntKind.wrap .u64 (l23:Int))))*1))=some v36 ∧
 bR v36 fun a37 l38 c39=>((IntKind.wrap .u64 (l38:Int)):Int)≠0∧∃(I40:RT) (μ41:Value→Hp→Nat),I40 (.int .i64 0) h15∧∀NR (d43:Nat→Value) (h44:Hp),I40 NR h44 →
 aI v11 fun a45 l46 c47=>0≤((IntKind.wrap .i64 (Int.tmod (IntKind.wrap .u64 n21) (IntKind.wrap .u64 (l23:Int)))):Int)∧(IntKind.wrap .i64 (Int.tmod (IntKind.wrap .u64 n21) (IntKind.wrap .u64 (l23:Int)))) < (l46:Int)∧∃v48,af h44 (Addr.add a45 (Int.toNat (IntKind.wrap .i64 (Int.tmod (IntKind.wrap .u64 n21) (IntKind.wrap .u64 (l23:Int))))*1))=some v48 ∧
 bR v48 fun a49 l50 c51=>asK .i64 NR fun n52=>cond (decide (n52 < (l50:Int)))
 (aI v11 fun a53 l54 c55=>0≤((IntKind.wrap .i64 (Int.tmod (IntKind.wrap .u64 n21) (IntKind.wrap .u64 (l23:Int)))):Int)∧(IntKind.wrap .i64 (Int.tmod (IntKind.wrap .u64 n21) (IntKind.wrap .u64 (l23:Int)))) < (l54:Int)∧∃v56,af h44 (Addr.add a53 (Int.toNat (IntKind.wrap .i64 (Int.tmod (IntKind.wrap .u64 n21) (IntKind.wrap .u64 (l23:Int))))*1))=some v56 ∧
 aI v56 fun a57 l58 c59=>asI NR fun n60=>0≤n60∧n60 < (l58:Int)∧∃v61,af h44 (Addr.add (Addr.add a57 (n60.toNat*2)) 0)=some v61 ∧
 asS v61 fun s62=>cond (s62.toList==ByteArray.toList ⟨#[122,122,122]⟩)
 (R (.bool true) h44)
 (asK .i64 NR fun n63=>I40 (.int .i64 (IntKind.wrap .i64 (n63+1))) h44∧μ41 (.int .i64 (IntKind.wrap .i64 (n63+1))) h44 < μ41 NR h44))
 (∃C64,aj h44 ⟨h.size,0,none⟩ 1 C64 ∧
 aa Tryz.prog ω 11 [.agg C64.toArray] h44 (fun r65 h66 =>
 asA r65 fun A67=>A67.size=1∧(∀u∈A67.toList,one u)∧av (h66.push (.cells #[.slice none 0 0] 24 (0,0))) ⟨h66.size,0,none⟩ A67.toList fun h68 =>
 ∃(I69:RT) (μ70:Value→Hp→Nat),I69 (.int .i64 0) h68∧∀MX (d72:Nat→Value) (h73:Hp),I69 MX h73 →
 ∃v74,af h73 (Addr.add ⟨h66.size,0,none⟩ 0)=some v74 ∧
 aI v74 fun a75 l76 c77=>0≤((IntKind.wrap .i64 (Int.tmod (IntKind.wrap .u64 n21) (IntKind.wrap .u64 (l23:Int)))):Int)∧(IntKind.wrap .i64 (Int.tmod (IntKind.wrap .u64 n21) (IntKind.wrap .u64 (l23:Int)))) < (l76:Int)∧∃v78,af h73 (Addr.add (Addr.add a75 (Int.toNat (IntKind.wrap .i64 (Int.tmod (IntKind.wrap .u64 n21) (IntKind.wrap .u64 (l23:Int))))*4)) 2)=some v78 ∧
 bR v78 fun a79 l80 c81=>asK .i64 MX fun n82=>cond (decide (n82 < (l80:Int)))
 (∃J83:Hp→Prop,
 (∃v86,af h73 (Addr.add ⟨h66.size,0,none⟩ 0)=some v86 ∧
 aI v86 fun a87 l88 c89=>0≤((IntKind.wrap .i64 (Int.tmod (IntKind.wrap .u64 n21) (IntKind.wrap .u64 (l23:Int)))):Int)∧(IntKind.wrap .i64 (Int.tmod (IntKind.wrap .u64 n21) (IntKind.wrap .u64 (l23:Int)))) < (l88:Int)∧∃v90,af h73 (Addr.add (Addr.add a87 (Int.toNat (IntKind.wrap .i64 (Int.tmod (IntKind.wrap .u64 n21) (IntKind.wrap .u64 (l23:Int))))*4)) 2)=some v90 ∧
 aI v90 fun a91 l92 c93=>asI MX fun n94=>0≤n94∧n94 < (l92:Int)∧∃v95,af h73 (Addr.add (Addr.add a91 (n94.toNat*2)) 0)=some v95 ∧
 aI v11 fun a96 l97 c98=>0≤((IntKind.wrap .i64 (Int.tmod (IntKind.wrap .u64 n21) (IntKind.wrap .u64 (l23:Int)))):Int)∧(IntKind.wrap .i64 (Int.tmod (IntKind.wrap .u64 n21) (IntKind.wrap .u64 (l23:Int)))) < (l97:Int)∧∃v99,af h73 (Addr.add a96 (Int.toNat (IntKind.wrap .i64 (Int.tmod (IntKind.wrap .u64 n21) (IntKind.wrap .u64 (l23:Int))))*1))=some v99 ∧
 aI v99 fun a100 l101 c102=>0≤((IntKind.wrap .i64 (Int.tmod (IntKind.wrap .u64 n32) (IntKind.wrap .u64 (l38:Int)))):Int)∧(IntKind.wrap .i64 (Int.tmod (IntKind.wrap .u64 n32) (IntKind.wrap .u64 (l38:Int)))) < (l101:Int)∧∃v103,af h73 (Addr.add (Addr.add a100 (Int.toNat (IntKind.wrap .i64 (Int.tmod (IntKind.wrap .u64 n32) (IntKind.wrap .u64 (l38:Int))))*2)) 0)=some v103 ∧
 asS v95 fun s104=>asS v103 fun s105=>∃J106:Hp→Prop,
 (cond (s104.toList==s105.toList)
 (∃v109,af h73 (Addr.add ⟨h66.size,0,none⟩ 0)=some v109 ∧
 aI v109 fun a110 l111 c112=>0≤((IntKind.wrap .i64 (Int.tmod (IntKind.wrap .u64 n21) (IntKind.wrap .u64 (l23:Int)))):Int)∧(IntKind.wrap .i64 (Int.tmod (IntKind.wrap .u64 n21) (IntKind.wrap .u64 (l23:Int)))) < (l111:Int)∧∃v113,af h73 (Addr.add (Addr.add a110 (Int.toNat (IntKind.wrap .i64 (Int.tmod (IntKind.wrap .u64 n21) (IntKind.wrap .u64 (l23:Int))))*4)) 2)=some v113 ∧
 aI v113 fun a114 l115 c116=>asI MX fun n117=>0≤n117∧n117 < (l115:Int)∧aJ h73 (Addr.add (Addr.add a114 (n117.toNat*2)) 0) (.string ⟨#[122,122,122]⟩) fun h118 =>
 J106 h118)
 (J106 h73)) ∧
 ∀(d107:Nat→Value) (h108:Hp),J106 h108 →
 J83 h108) ∧
 ∀(d84:Nat→Value) (h85:Hp),J83 h85 →
 asK .i64 MX fun n119=>I69 (.int .i64 (IntKind.wrap .i64 (n119+1))) h85∧μ70 (.int .i64 (IntKind.wrap .i64 (n119+1))) h85 < μ70 MX h73)
 (∃v120,af h73 (Addr.add ⟨h66.size,0,none⟩ 0)=some v120 ∧
 aI v120 fun a121 l122 c123=>0≤((IntKind.wrap .i64 (Int.tmod (IntKind.wrap .u64 n21) (IntKind.wrap .u64 (l23:Int)))):Int)∧(IntKind.wrap .i64 (Int.tmod (IntKind.wrap .u64 n21) (IntKind.wrap .u64 (l23:Int)))) < (l122:Int)∧∃v124,af h73 (Addr.add (Addr.add a121 (Int.toNat (IntKind.wrap .i64 (Int.tmod (IntKind.wrap .u64 n21) (IntKind.wrap .u64 (l23:Int))))*4)) 3)=some v124 ∧
 aI v11 fun a125 l126 c127=>0≤((IntKind.wrap .i64 (Int.tmod (IntKind.wrap .u64 n21) (IntKind.wrap .u64 (l23:Int)))):Int)∧(IntKind.wrap .i64 (Int.tmod (IntKind.wrap .u64 n21) (IntKind.wrap .u64 (l23:Int)))) < (l126:Int)∧∃v128,af h73 (Addr.add a125 (Int.toNat (IntKind.wrap .i64 (Int.tmod (IntKind.wrap .u64 n21) (IntKind.wrap .u64 (l23:Int))))*1))=some v128 ∧
 aI v128 fun a129 l130 c131=>0≤((IntKind.wrap .i64 (Int.tmod (IntKind.wrap .u64 n32) (IntKind.wrap .u64 (l38:Int)))):Int)∧(IntKind.wrap .i64 (Int.tmod (IntKind.wrap .u64 n32) (IntKind.wrap .u64 (l38:Int)))) < (l130:Int)∧∃v132,af h73 (Addr.add (Addr.add a129 (Int.toNat (IntKind.wrap .i64 (Int.tmod (IntKind.wrap .u64 n32) (IntKind.wrap .u64 (l38:Int))))*2)) 0)=some v132 ∧
 aa Tryz.prog ω 22 [v124,v132,(.string ⟨#[122,122,122]⟩)] h73 (fun r133 h134 =>
 ∃C135,aj h134 ⟨h66.size,0,none⟩ 1 C135 ∧
 aa Tryz.prog ω 12 [.agg C135.toArray] h134 (fun r136 h137 =>
 asA r136 fun A138=>asO A138[0]? fun v139=>asK .i64 v139 fun n140=>cond (n140 !=(0:Int))
 (R (.bool true) h137)
 (∃C141,aj h137 ⟨h66.size,0,none⟩ 1 C141 ∧
 aa Tryz.prog ω 18 [.agg C141.toArray] h137 (fun r142 h143 =>
 asT r142 fun T144=>asO T144[0]? fun v145=>asT r142 fun T146=>asO T146[1]? fun v147=>asA v147 fun A148=>A148.size=2∧(∀u∈A148.toList,one u)∧av (h143.push (.cells #[.int .i64 0,.int .i64 0] 28 (0,0))) ⟨h143.size,0,none⟩ A148.toList fun h149 =>
 ∃β150:Bool,
 (∃v152,af h149 (Addr.add ⟨h143.size,0,none⟩ 0)=some v152 ∧
 asK .i64 v152 fun n153=>cond (n153 !=(0:Int))
 (((.bool true):Value)=.bool β150∧h149=h149)
 (bR v145 fun a154 l155 c156=>bR v11 fun a157 l158 c159=>((.bool ((l155:Int) !=(l158:Int))):Value)=.bool β150∧h149=h149)) ∧
 ∀d151:Nat→Value,
 cond β150
 (R (.bool false) h149)
 (∃(I160:RT) (μ161:Value→Hp→Nat),I160 (.int .i64 0) h149∧∀tj (d163:Nat→Value) (h164:Hp),I160 tj h164 →
 bR v11 fun a165 l166 c167=>asK .i64 tj fun n168=>cond (decide (n168 < (l166:Int)))
 (aI v11 fun a169 l170 c171=>asI tj fun n172=>0≤n172∧n172 < (l170:Int)∧∃v173,af h164 (Addr.add a169 (n172.toNat*1))=some v173 ∧
 bR v173 fun a174 l175 c176=>aI v145 fun a177 l178 c179=>asI tj fun n180=>0≤n180∧n180 < (l178:Int)∧∃v181,af h164 (Addr.add a177 (n180.toNat*1))=some v181 ∧
 bR v181 fun a182 l183 c184=>cond ((l175:Int) !=(l183:Int))
 (R (.bool false) h164)
 (∃(I185:RT) (μ186:Value→Hp→Nat),I185 (.int .i64 0) h164∧∀xr (d188:Nat→Value) (h189:Hp),I185 xr h189 →
 aI v11 fun a190 l191 c192=>asI tj fun n193=>0≤n193∧n193 < (l191:Int)∧∃v194,af h189 (Addr.add a190 (n193.toNat*1))=some v194 ∧
 bR v194 fun a195 l196 c197=>asK .i64 xr fun n198=>cond (decide (n198 < (l196:Int)))
 (aI v11 fun a199 l200 c201=>asI tj fun n202=>0≤n202∧n202 < (l200:Int)∧∃v203,af h189 (Addr.add a199 (n202.toNat*1))=some v203 ∧
 aI v203 fun a204 l205 c206=>asI xr fun n207=>0≤n207∧n207 < (l205:Int)∧∃v208,af h189 (Addr.add (Addr.add a204 (n207.toNat*2)) 0)=some v208 ∧
 ∃β209:Bool,
 (asK .i64 tj fun n211=>cond (n211==((IntKind.wrap .i64 (Int.tmod (IntKind.wrap .u64 n21) (IntKind.wrap .u64 (l23:Int)))):Int))
 (asK .i64 xr fun n212=>((.bool (n212==((IntKind.wrap .i64 (Int.tmod (IntKind.wrap .u64 n32) (IntKind.wrap .u64 (l38:Int)))):Int))):Value)=.bool β209∧h189=h189)
 (((.bool false):Value)=.bool β209∧h189=h189)) ∧
 ∀d210:Nat→Value,
 ∃J213:RT,
 (cond β209
 (J213 (.string ⟨#[122,122,122]⟩) h189)
 (J213 v208 h189)) ∧
 ∀CK (d215:Nat→Value) (h216:Hp),J213 CK h216 →
 ∃β217:Bool,
 (aI v145 fun a219 l220 c221=>asI tj fun n222=>0≤n222∧n222 < (l220:Int)∧∃v223,af h216 (Addr.add a219 (n222.toNat*1))=some v223 ∧
 aI v223 fun a224 l225 c226=>asI xr fun n227=>0≤n227∧n227 < (l225:Int)∧∃v228,af h216 (Addr.add (Addr.add a224 (n227.toNat*2)) 1)=some v228 ∧
 aI v11 fun a229 l230 c231=>asI tj fun n232=>0≤n232∧n232 < (l230:Int)∧∃v233,af h216 (Addr.add a229 (n232.toNat*1))=some v233 ∧
 aI v233 fun a234 l235 c236=>asI xr fun n237=>0≤n237∧n237 < (l235:Int)∧∃v238,af h216 (Addr.add (Addr.add a234 (n237.toNat*2)) 1)=some v238 ∧
 asS v228 fun s239=>asS v238 fun s240=>cond (!(s239.toList==s240.toList))
 (((.bool true):Value)=.bool β217∧h216=h216)
 (aI v145 fun a241 l242 c243=>asI tj fun n244=>0≤n244∧n244 < (l242:Int)∧∃v245,af h216 (Addr.add a241 (n244.toNat*1))=some v245 ∧
 aI v245 fun a246 l247 c248=>asI xr fun n249=>0≤n249∧n249 < (l247:Int)∧∃v250,af h216 (Addr.add (Addr.add a246 (n249.toNat*2)) 0)=some v250 ∧
 asS v250 fun s251=>asS CK fun s252=>((.bool (!(s251.toList==s252.toList))):Value)=.bool β217∧h216=h216)) ∧
 ∀d218:Nat→Value,
 cond β217
 (R (.bool false) h216)
 (asK .i64 xr fun n253=>I185 (.int .i64 (IntKind.wrap .i64 (n253+1))) h216∧μ186 (.int .i64 (IntKind.wrap .i64 (n253+1))) h216 < μ186 xr h189))
 (asK .i64 tj fun n254=>I160 (.int .i64 (IntKind.wrap .i64 (n254+1))) h189∧μ161 (.int .i64 (IntKind.wrap .i64 (n254+1))) h189 < μ161 tj h164)))
 (R (.bool true) h164))) X)) X) X)) X)))) X)) X)) X
def jn:Ann :=
 (.T .L (.T (.T .L (.T (.T .L .L) .L)) (.T (.T .L (.T (.T .L .L) .L)) (.T .L (.T (.T .L (.T (.T .L .L) .L)) (.T .L (.T (.T .L (.T (.T .L .L) .L)) (.T .L (.T (.T .L (.one (.loop [57,58,59,60,61,62,63,66,67,68,69,70,71,72,73,74,6,64,65,11] [11] (.T (.T .L (.T .L .L)) (.T (.one (.T .L (.T (.T .L .L) .L))) .L))))) (.T .L (.T (.T .L (.one (.loop [77,78,79,80,81,82,83,84,85,88,89,90,91,92,93,94,95,96,97,98,99,100,101,102,103,104,105,106,107,108,109,110,111,112,113,114,115,86,87,13] [13] (.T (.T .L (.T .L .L)) (.T (.join [88,89,90,91,92,93,94,95,96,97,98,99,100,101,102,103,104,105,106,107,108,109,110,111,112,113,114,115] [] (.one (.T (.plan [0,1,2,3,4,5,6,7,8,9,10,11,12,13,14,15,16,17,18]) (.join [107,108,109,110,111,112,113,114,115] [] (.T .L .L))))) .L))))) (.T (.plan [0,1,2,3,4,5,6,7,8,9,10,11,12,13,14]) (.T (.T .L (.T (.T .L .L) .L)) (.T .L (.T (.T (.jb [140,141,142,143,144,145,146,147,148,149] 149 .L) (.T (.T .L .L) .L)) (.T (.T .L (.one (.loop [150,151,152,153,156,157,158,159,160,161,162,163,164,165,166,6,17,167,168,169,170,171,172,173,176,177,178,179,180,181,182,183,18,184,185,186,187,188,189,190,191,192,193,194,195,196,197,198,199,200,201,202,203,204,205,206,207,208,209,210,211,212,213,214,215,216,217,218,219,220,174,175,154,155,16] [16] (.T (.T .L (.T .L .L)) (.T (.one (.T (.T (.plan [0,1,2,3,4,5,6,7,8,9,10]) (.T (.T .L .L) .L)) (.T .L (.one (.loop [167,168,169,170,171,172,173,176,177,178,179,180,181,182,183,18,184,185,186,187,188,189,190,191,192,193,194,195,196,197,198,199,200,201,202,203,204,205,206,207,208,209,210,211,212,213,214,215,216,217,218,219,220,6,174,175,17] [17] (.T (.T .L (.T .L .L)) (.T (.one (.T .L (.T (.T (.jb [184,185,186,187,188,189,190,191] 191 .L) (.join [18] [18] (.T .L .L))) (.T (.jb [192,193,194,195,196,197,198,199,200,201,202,203,204,205,206,207,208,209,210,211,212,213,214,215,216,217,218,219,220] 220 (.plan [0,1,2,3,4,5,6,7,8,9,10,11,12,13,14,15,16,17,18,19,20,21,22,23,24,25,26,27,28])) (.T (.T .L .L) .L))))) .L))))))) .L))))) (.T .L .L)))))))))))))))))
theorem jx (ω:Amb)(p_p yg ym:Value)(h:Hp)(R:RT)(X:XT)(hk:dz ω p_p yg ym h R X):aa Tryz.prog ω 7 [p_p,yg,ym] h R X :=
 al (an:=jn) Tryz.func7 (by kernel_rfl) hk
def dx (ω:Amb)(h:Hp)(R:RT)(X:XT):Prop :=
 aa Tryz.prog ω 14 [(.string ⟨#[115,116,97,103,101,32,109,97,105,110,40,105,110,32,114,101,99,118,32,105,110,116,41,32,123,32,116,97,107,101,32,120,32,102,114,111,109,32,105,110,32,123,32,125,32,101,109,105,116,32,120,59,32,125]⟩)] h (fun r0 h1 =>
 asT r0 fun T2=>asO T2[0]? fun v3=>asT r0 fun T4=>asO T4[1]? fun v5=>asA v3 fun A6=>A6.size=1∧(∀u∈A6.toList,one u)∧av (Array.push (h1.push (.cells #[.slice none 0 0] 24 (0,0))) (.cells #[.int .i64 0,.int .i64 0] 28 (0,0))) ⟨h1.size,0,none⟩ A6.toList fun h7 =>
 asA v5 fun A8=>A8.size=2∧(∀u∈A8.toList,one u)∧av h7 ⟨Array.size (h1.push (.cells #[.slice none 0 0] 24 (0,0))),0,none⟩ A8.toList fun h9 =>
 ∃J10:RT,
 (∃v14,af h9 (Addr.add ⟨Array.size (h1.push (.cells #[.slice none 0 0] 24 (0,0))),0,none⟩ 0)=some v14 ∧
 asK .i64 v14 fun n15=>cond (n15==(0:Int))
 (∃C16,aj h9 ⟨h1.size,0,none⟩ 1 C16 ∧
 aa Tryz.prog ω 10 [.agg C16.toArray] h9 (fun r17 h18 =>
 asA r17 fun A19=>asO A19[0]? fun v20=>asK .i64 v20 fun n21=>asO A19[1]? fun v22=>asK .i64 v22 fun n23=>J10 (.bool ((n21==(10:Int))&&((n23==(1:Int))&&true))) h18) X)
 (J10 (.bool false) h9)) ∧
 ∀NU (d12:Nat→Value) (h13:Hp),J10 NU h13 →
 R NU h13) X
def jv:Ann :=
 (.T .L (.T .L (.T (.join [7,8,9,10,11,12,13,14,15,0] [0] .L) .L)))
theorem jB (ω:Amb)(h:Hp)(R:RT)(X:XT)(hk:dx ω  h R X):aa Tryz.prog ω 8 [] h R X :=
 al (an:=jv) Tryz.func8 (by kernel_rfl) hk
def dj (ω:Amb)(l_p a_p b_p:Value)(h:Hp)(R:RT)(X:XT):Prop :=
 ∃(I0:RT) (μ1:Value→Hp→Nat),I0 (.int .i64 0) h∧∀i_2 (d3:Nat→Value) (h4:Hp),I0 i_2 h4 →
 bR l_p fun a5 l6 c7=>asK .i64 i_2 fun n8=>cond (decide (n8 < (l6:Int)))
 (∃β9:Bool,
 (aI l_p fun a11 l12 c13=>asI i_2 fun n14=>0≤n14∧n14 < (l12:Int)∧∃v15,af h4 (Addr.add (Addr.add a11 (n14.toNat*9)) 2)=some v15 ∧
 asS v15 fun s16=>asS a_p fun s17=>cond (s16.toList==s17.toList)
 (aI l_p fun a18 l19 c20=>asI i_2 fun n21=>0≤n21∧n21 < (l19:Int)∧∃v22,af h4 (Addr.add (Addr.add a18 (n21.toNat*9)) 0)=some v22 ∧
 asK .i64 v22 fun n23=>((.bool (n23 !=(10:Int))):Value)=.bool β9∧h4=h4)
 (((.bool false):Value)=.bool β9∧h4=h4)) ∧
 ∀d10:Nat→Value,
 ∃J24:Hp→Prop,
 (cond β9
 (aI l_p fun a27 l28 c29=>asI i_2 fun n30=>0≤n30∧n30 < (l28:Int)∧cq b_p (aJ h4 (Addr.add (Addr.add a27 (n30.toNat*9)) 2) b_p fun h31 =>
 J24 h31))
 (J24 h4)) ∧
 ∀(d25:Nat→Value) (h26:Hp),J24 h26 →
 aI l_p fun a32 l33 c34=>asI i_2 fun n35=>0≤n35∧n35 < (l33:Int)∧∃v36,af h26 (Addr.add (Addr.add a32 (n35.toNat*9)) 3)=some v36 ∧
 asS v36 fun s37=>asS a_p fun s38=>∃J39:Hp→Prop,
 (cond (s37.toList==s38.toList)
 (aI l_p fun a42 l43 c44=>asI i_2 fun n45=>0≤n45∧n45 < (l43:Int)∧cq b_p (aJ h26 (Addr.add (Addr.add a42 (n45.toNat*9)) 3) b_p fun h46 =>
 J39 h46))
 (J39 h26)) ∧
 ∀(d40:Nat→Value) (h41:Hp),J39 h41 →
 aI l_p fun a47 l48 c49=>asI i_2 fun n50=>0≤n50∧n50 < (l48:Int)∧∃v51,af h41 (Addr.add (Addr.add a47 (n50.toNat*9)) 6)=some v51 ∧
 aa Tryz.prog ω 44 [v51,a_p,b_p] h41 (fun r52 h53 =>
 aI l_p fun a54 l55 c56=>asI i_2 fun n57=>0≤n57∧n57 < (l55:Int)∧∃v58,af h53 (Addr.add (Addr.add a54 (n57.toNat*9)) 7)=some v58 ∧
 aa Tryz.prog ω 22 [v58,a_p,b_p] h53 (fun r59 h60 =>
 aI l_p fun a61 l62 c63=>asI i_2 fun n64=>0≤n64∧n64 < (l62:Int)∧∃v65,af h60 (Addr.add (Addr.add a61 (n64.toNat*9)) 8)=some v65 ∧
 aa Tryz.prog ω 22 [v65,a_p,b_p] h60 (fun r66 h67 =>
 asK .i64 i_2 fun n68=>I0 (.int .i64 (IntKind.wrap .i64 (n68+1))) h67∧μ1 (.int .i64 (IntKind.wrap .i64 (n68+1))) h67 < μ1 i_2 h4) X) X) X)
 (R (.tuple #[]) h4)
def iK:Ann :=
 (.T .L (.one (.loop [7,8,9,10,13,14,15,16,17,18,19,20,21,22,23,24,25,26,27,28,29,30,31,32,33,34,35,36,37,38,39,40,41,42,43,44,45,46,47,48,49,50,51,52,53,54,55,56,57,58,59,60,61,62,63,64,65,66,67,68,11,12,6] [6] (.T (.T .L (.T .L .L)) (.T (.one (.T (.T (.jb [13,14,15,16,17,18,19,20,21,22,23,24,25,26,27] 27 .L) (.join [28,29,30,31,32] [] (.T .L .L))) (.T (.T .L (.join [40,41,42,43,44] [] (.T .L .L))) (.T .L (.T .L .L))))) .L)))))
theorem iV (ω:Amb)(l_p a_p b_p:Value)(h:Hp)(R:RT)(X:XT)(hk:dj ω l_p a_p b_p h R X):aa Tryz.prog ω 22 [l_p,a_p,b_p] h R X :=
 al (an:=iK) Tryz.func22 (by kernel_rfl) hk
def dn (ω:Amb)(l_p a_p b_p:Value)(h:Hp)(R:RT)(X:XT):Prop :=
 ∃(I0:RT) (μ1:Value→Hp→Nat),I0 (.int .i64 0) h∧∀i_2 (d3:Nat→Value) (h4:Hp),I0 i_2 h4 →
 bR l_p fun a5 l6 c7=>asK .i64 i_2 fun n8=>cond (decide (n8 < (l6:Int)))
 (∃β9:Bool,
 (aI l_p fun a11 l12 c13=>asI i_2 fun n14=>0≤n14∧n14 < (l12:Int)∧∃v15,af h4 (Addr.add (Addr.add a11 (n14.toNat*4)) 0)=some v15 ∧
 asK .i64 v15 fun n16=>cond (n16==(2:Int))
 (aI l_p fun a17 l18 c19=>asI i_2 fun n20=>0≤n20∧n20 < (l18:Int)∧∃v21,af h4 (Addr.add (Addr.add a17 (n20.toNat*4)) 1)=some v21 ∧
 asS v21 fun s22=>asS a_p fun s23=>((.bool (s22.toList==s23.toList)):Value)=.bool β9∧h4=h4)
 (((.bool false):Value)=.bool β9∧h4=h4)) ∧
 ∀d10:Nat→Value,
 ∃J24:Hp→Prop,
 (cond β9
 (aI l_p fun a27 l28 c29=>asI i_2 fun n30=>0≤n30∧n30 < (l28:Int)∧cq b_p (aJ h4 (Addr.add (Addr.add a27 (n30.toNat*4)) 1) b_p fun h31 =>
 J24 h31))
 (J24 h4)) ∧
 ∀(d25:Nat→Value) (h26:Hp),J24 h26 →
 aI l_p fun a32 l33 c34=>asI i_2 fun n35=>0≤n35∧n35 < (l33:Int)∧∃v36,af h26 (Addr.add (Addr.add a32 (n35.toNat*4)) 3)=some v36 ∧
 aa Tryz.prog ω 44 [v36,a_p,b_p] h26 (fun r37 h38 =>
 asK .i64 i_2 fun n39=>I0 (.int .i64 (IntKind.wrap .i64 (n39+1))) h38∧μ1 (.int .i64 (IntKind.wrap .i64 (n39+1))) h38 < μ1 i_2 h4) X)
 (R (.tuple #[]) h4)
def iR:Ann :=
 (.T .L (.one (.loop [7,8,9,10,13,14,15,16,17,18,19,20,21,22,23,24,25,26,27,28,29,30,31,32,33,34,35,36,37,38,39,40,11,12,6] [6] (.T (.T .L (.T .L .L)) (.T (.one (.T (.T (.jb [13,14,15,16,17,18,19,20,21,22,23,24,25,26,27] 27 .L) (.join [28,29,30,31,32] [] (.T .L .L))) .L)) .L)))))
theorem jg (ω:Amb)(l_p a_p b_p:Value)(h:Hp)(R:RT)(X:XT)(hk:dn ω l_p a_p b_p h R X):aa Tryz.prog ω 44 [l_p,a_p,b_p] h R X :=
 al (an:=iR) Tryz.func44 (by kernel_rfl) hk
end Go.Proofs.YtkeeboomikkojaaGreatDoor.Sx
set_option linter.unusedVariables false
set_option maxRecDepth 100000
namespace Go.Proofs.YtkeeboomikkojaaGreatDoor.Sx
open Go Go.Sx Go.Proofs
end Go.Proofs.YtkeeboomikkojaaGreatDoor.Sx
set_option linter.unusedVariables false
set_option maxRecDepth 100000
namespace Go.Proofs.YtkeeboomikkojaaGreatDoor.Sx
open Go Go.Sx Go.Proofs
abbrev fQ:Nat:=27
def kL (ω:Amb)(cC bU:Value)(h:Hp)(R:RT)(X:XT):Prop :=
 cq cC (cq bU (2=2∧(∀u∈[cC,bU],one u)∧av (h.push (.cells #[.int .i64 0,.int .i64 0] 28 (0,0))) ⟨h.size,0,none⟩ [cC,bU] fun h0 =>
 ∃C1,aj h0 ⟨h.size,0,none⟩ 2 C1∧R (.agg C1.toArray) h0))
def sJ:Ann :=
 (.T .L (.T .L .L))
theorem sa (ω:Amb)(cC bU:Value)(h:Hp)(R:RT)(X:XT)(hk:kL ω cC bU h R X):aa Tryz.prog ω 27 [cC,bU] h R X :=
 al (an:=sJ) Tryz.func27 (by kernel_rfl) hk
end Go.Proofs.YtkeeboomikkojaaGreatDoor.Sx
set_option linter.unusedVariables false
set_option maxRecDepth 100000
namespace Go.Proofs.YtkeeboomikkojaaGreatDoor.Sx
open Go Go.Sx Go.Proofs
abbrev iE:Nat:=11
abbrev bp (h:Hp)(p_p:Value):Hp:=Array.push (h.push (.cells (Value.cells p_p) 24 (0,0))) (.cells #[.slice none 0 0] 24 (0,0))
def df (ω:Amb)(p_p:Value)(h:Hp)(R:RT)(X:XT):Prop :=
 ∃(I0:RT) (μ1:Value→Hp→Nat),I0 (.int .i64 0) (Array.push (bp h p_p) (.cells #[.slice none 0 0] 24 (0,0)))∧∀i_2 (d3:Nat→Value) (h4:Hp),I0 i_2 h4 →
 ∃v5,af h4 (Addr.add ⟨h.size,0,none⟩ 0)=some v5 ∧
 bR v5 fun a6 l7 c8=>asK .i64 i_2 fun n9=>cond (decide (n9 < (l7:Int)))
 (∃v10,af h4 (Addr.add ⟨h.size,0,none⟩ 0)=some v10 ∧
 aI v10 fun a11 l12 c13=>asI i_2 fun n14=>0≤n14∧n14 < (l12:Int)∧∃C15,aj h4 (Addr.add a11 (n14.toNat*4)) 4 C15 ∧
 C15.toArray.size=4∧(∀u∈C15.toArray.toList,one u)∧av (h4.push (.cells #[.string ⟨#[]⟩,.int .i64 0,.slice none 0 0,.slice none 0 0] 41 (0,0))) ⟨h4.size,0,none⟩ C15.toArray.toList fun h16 =>
 ∃v17,af h16 (Addr.add ⟨h4.size,0,none⟩ 2)=some v17 ∧
 x2 Tryz.prog 33 h16 (.slice none 0 0) v17 fun w18 h19 =>
 cq w18 (aJ h19 (Addr.add ⟨h4.size,0,none⟩ 2) w18 fun h20 =>
 ∃v21,af h20 (Addr.add ⟨h4.size,0,none⟩ 3)=some v21 ∧
 aa Tryz.prog ω 24 [v21] h20 (fun r22 h23 =>
 cq r22 (aJ h23 (Addr.add ⟨h4.size,0,none⟩ 3) r22 fun h24 =>
 ∃v25,af h24 (Addr.add ⟨Array.size (bp h p_p),0,none⟩ 0)=some v25 ∧
 ∃C26,aj h24 ⟨h4.size,0,none⟩ 4 C26 ∧
 C26.toArray.size=4∧x2 Tryz.prog 22 (h24.push (.cells (List.toArray (C26.toArray.toList++[])) 41 (0,0))) v25 (.slice (some ⟨h24.size,0,none⟩) 1 1) fun w27 h28 =>
 cq w27 (aJ h28 (Addr.add ⟨Array.size (bp h p_p),0,none⟩ 0) w27 fun h29 =>
 asK .i64 i_2 fun n30=>I0 (.int .i64 (IntKind.wrap .i64 (n30+1))) h29∧μ1 (.int .i64 (IntKind.wrap .i64 (n30+1))) h29 < μ1 i_2 h4))) X))
 (∃C31,aj h4 ⟨Array.size (bp h p_p),0,none⟩ 1 C31 ∧
 C31.toArray.size=1∧(∀u∈C31.toArray.toList,one u)∧av h4 ⟨Array.size (h.push (.cells (Value.cells p_p) 24 (0,0))),0,none⟩ C31.toArray.toList fun h32 =>
 ∃C33,aj h32 ⟨Array.size (h.push (.cells (Value.cells p_p) 24 (0,0))),0,none⟩ 1 C33∧R (.agg C33.toArray) h32)
def iY:Ann :=
 (.T .L (.T .L (.T (.T .L (.one (.loop [7,8,9,10,11,14,15,16,17,18,5,6,19,20,21,22,23,24,25,26,27,28,29,30,31,32,33,12,13,4] [4] (.T (.T .L (.T .L .L)) (.T (.one (.T .L (.T .L (.T .L (.T .L .L))))) .L))))) (.T .L .L))))
theorem iM (ω:Amb)(p_p:Value)(h:Hp)(R:RT)(X:XT)(hk:df ω p_p h R X):aa Tryz.prog ω 11 [p_p] h R X :=
 al (an:=iY) Tryz.func11 (by kernel_rfl) hk
abbrev jh:Nat:=12
abbrev aR (h:Hp)(p_p:Value):Hp:=h.push (.cells (Value.cells p_p) 24 (0,0))
abbrev bM:Obj:=.cells #[.int .i64 0,.int .i64 0] 28 (0,0)
def di (ω:Amb)(p_p:Value)(h:Hp)(R:RT)(X:XT):Prop :=
 ∃C0,aj (Array.push (aR h p_p) (bM)) ⟨h.size,0,none⟩ 1 C0 ∧
 aa Tryz.prog ω 25 [.agg C0.toArray] (Array.push (aR h p_p) (bM)) (fun r1 h2 =>
 asA r1 fun A3=>A3.size=2∧(∀u∈A3.toList,one u)∧av (h2.push (bM)) ⟨h2.size,0,none⟩ A3.toList fun h4 =>
 ∃J5:RT,
 (∃v9,af h4 (Addr.add ⟨h2.size,0,none⟩ 0)=some v9 ∧
 asK .i64 v9 fun n10=>cond (n10==(0:Int))
 (∃C11,aj h4 ⟨h.size,0,none⟩ 1 C11 ∧
 aa Tryz.prog ω 26 [.agg C11.toArray] h4 (fun r12 h13 =>
 asS r12 fun s14=>J5 (.bool (decide (((s14.size:Int):Int) > 12000))) h13) X)
 (J5 (.bool false) h4)) ∧
 ∀uQ (d7:Nat→Value) (h8:Hp),J5 uQ h8 →
 asB uQ fun b15=>cond b15
 (aa Tryz.prog ω 27 [.int .i64 1,(.int .i64 (-1))] h8 (fun r16 h17 =>
 asA r16 fun A18=>A18.size=2∧(∀u∈A18.toList,one u)∧av h17 ⟨Array.size (aR h p_p),0,none⟩ A18.toList fun h19 =>
 ∃C20,aj h19 ⟨Array.size (aR h p_p),0,none⟩ 2 C20∧R (.agg C20.toArray) h19) X)
 (∃C21,aj h8 ⟨h2.size,0,none⟩ 2 C21 ∧
 C21.toArray.size=2∧(∀u∈C21.toArray.toList,one u)∧av h8 ⟨Array.size (aR h p_p),0,none⟩ C21.toArray.toList fun h22 =>
 ∃C23,aj h22 ⟨Array.size (aR h p_p),0,none⟩ 2 C23∧R (.agg C23.toArray) h22)) X
def iP:Ann :=
 (.T .L (.T .L (.T (.T (.join [6,7,8,9,10,11,12,13,14] [14] .L) (.T (.T .L .L) .L)) (.T .L .L))))
theorem iG (ω:Amb)(p_p:Value)(h:Hp)(R:RT)(X:XT)(hk:di ω p_p h R X):aa Tryz.prog ω 12 [p_p] h R X :=
 al (an:=iP) Tryz.func12 (by kernel_rfl) hk
abbrev km:Nat:=24
def dI (ω:Amb)(l_p:Value)(h:Hp)(R:RT)(X:XT):Prop :=
 ∃(I0:Value→RT) (μ1:Value→Value→Hp→Nat),I0 (.slice none 0 0) (.int .i64 0) h∧∀gU i_3 (d4:Nat→Value) (h5:Hp),I0 gU i_3 h5 →
 bR l_p fun a6 l7 c8=>asK .i64 i_3 fun n9=>cond (decide (n9 < (l7:Int)))
 (aI l_p fun a10 l11 c12=>asI i_3 fun n13=>0≤n13∧n13 < (l11:Int)∧∃C14,aj h5 (Addr.add a10 (n13.toNat*9)) 9 C14 ∧
 C14.toArray.size=9∧(∀u∈C14.toArray.toList,one u)∧av (h5.push (.cells #[.int .i64 0,.int .i64 0,.string ⟨#[]⟩,.string ⟨#[]⟩,.string ⟨#[]⟩,.int .i64 0,.slice none 0 0,.slice none 0 0,.slice none 0 0] 39 (0,0))) ⟨h5.size,0,none⟩ C14.toArray.toList fun h15 =>
 ∃v16,af h15 (Addr.add ⟨h5.size,0,none⟩ 6)=some v16 ∧
 aa Tryz.prog ω 46 [v16] h15 (fun r17 h18 =>
 cq r17 (aJ h18 (Addr.add ⟨h5.size,0,none⟩ 6) r17 fun h19 =>
 ∃v20,af h19 (Addr.add ⟨h5.size,0,none⟩ 7)=some v20 ∧
 aa Tryz.prog ω 24 [v20] h19 (fun r21 h22 =>
 cq r21 (aJ h22 (Addr.add ⟨h5.size,0,none⟩ 7) r21 fun h23 =>
 ∃v24,af h23 (Addr.add ⟨h5.size,0,none⟩ 8)=some v24 ∧
 aa Tryz.prog ω 24 [v24] h23 (fun r25 h26 =>
 cq r25 (aJ h26 (Addr.add ⟨h5.size,0,none⟩ 8) r25 fun h27 =>
 ∃C28,aj h27 ⟨h5.size,0,none⟩ 9 C28 ∧
 C28.toArray.size=9∧x2 Tryz.prog 37 (h27.push (.cells (List.toArray (C28.toArray.toList++[])) 39 (0,0))) gU (.slice (some ⟨h27.size,0,none⟩) 1 1) fun w29 h30 =>
 asK .i64 i_3 fun n31=>I0 w29 (.int .i64 (IntKind.wrap .i64 (n31+1))) h30∧μ1 w29 (.int .i64 (IntKind.wrap .i64 (n31+1))) h30 < μ1 gU i_3 h5)) X)) X)) X)
 (R gU h5)
def jZ:Ann :=
 (.T .L (.T .L (.T (.T .L (.one (.loop [6,7,8,9,12,13,14,15,5,16,17,18,19,20,21,22,23,24,25,26,27,28,29,30,31,3,10,11,4] [3,4] (.T (.T .L (.T .L .L)) (.T (.one (.T .L (.T .L (.T .L (.T .L .L))))) .L))))) (.T .L .L))))
theorem ke (ω:Amb)(l_p:Value)(h:Hp)(R:RT)(X:XT)(hk:dI ω l_p h R X):aa Tryz.prog ω 24 [l_p] h R X :=
 al (an:=jZ) Tryz.func24 (by kernel_rfl) hk
abbrev kq:Nat:=25
abbrev au (h:Hp)(p_p:Value):Hp:=h.push (.cells (Value.cells p_p) 24 (0,0))
abbrev bb (h:Hp)(p_p:Value):Hp:=Array.push (au h p_p) (.cells #[.int .i64 0,.int .i64 0] 28 (0,0))
def dE (ω:Amb)(p_p:Value)(h:Hp)(R:RT)(X:XT):Prop :=
 ∃v0,af (bb h p_p) (Addr.add ⟨h.size,0,none⟩ 0)=some v0 ∧
 bR v0 fun a1 l2 c3=>cond ((l2:Int)==(0:Int))
 (aa Tryz.prog ω 27 [.int .i64 10,(.int .i64 (-1))] (bb h p_p) (fun r4 h5 =>
 asA r4 fun A6=>A6.size=2∧(∀u∈A6.toList,one u)∧av h5 ⟨Array.size (au h p_p),0,none⟩ A6.toList fun h7 =>
 ∃C8,aj h7 ⟨Array.size (au h p_p),0,none⟩ 2 C8∧R (.agg C8.toArray) h7) X)
 (∃v9,af (bb h p_p) (Addr.add ⟨h.size,0,none⟩ 0)=some v9 ∧
 bR v9 fun a10 l11 c12=>cond (decide ((l11:Int) > 10))
 (aa Tryz.prog ω 27 [.int .i64 8,(.int .i64 (-1))] (bb h p_p) (fun r13 h14 =>
 asA r13 fun A15=>A15.size=2∧(∀u∈A15.toList,one u)∧av h14 ⟨Array.size (au h p_p),0,none⟩ A15.toList fun h16 =>
 ∃C17,aj h16 ⟨Array.size (au h p_p),0,none⟩ 2 C17∧R (.agg C17.toArray) h16) X)
 (∃(I18:Value→RT) (μ19:Value→Value→Hp→Nat),I18 (.int .i64 0) (.int .i64 0) (bb h p_p)∧∀ME I9 (d22:Nat→Value) (h23:Hp),I18 ME I9 h23 →
 ∃v24,af h23 (Addr.add ⟨h.size,0,none⟩ 0)=some v24 ∧
 bR v24 fun a25 l26 c27=>asK .i64 I9 fun n28=>cond (decide (n28 < (l26:Int)))
 (∃v29,af h23 (Addr.add ⟨h.size,0,none⟩ 0)=some v29 ∧
 aI v29 fun a30 l31 c32=>asI I9 fun n33=>0≤n33∧n33 < (l31:Int)∧∃C34,aj h23 (Addr.add a30 (n33.toNat*4)) 4 C34 ∧
 C34.toArray.size=4∧(∀u∈C34.toArray.toList,one u)∧av (h23.push (.cells #[.string ⟨#[]⟩,.int .i64 0,.slice none 0 0,.slice none 0 0] 41 (0,0))) ⟨h23.size,0,none⟩ C34.toArray.toList fun h35 =>
 ∃v36,af h35 (Addr.add ⟨h23.size,0,none⟩ 0)=some v36 ∧
 aa Tryz.prog ω 47 [v36] h35 (fun r37 h38 =>
 asB r37 fun b39=>cond (!b39)
 (asK .i64 I9 fun n40=>aa Tryz.prog ω 27 [.int .i64 4,(.int .i64 (IntKind.wrap .i64 ((-2) - n40)))] h38 (fun r41 h42 =>
 asA r41 fun A43=>A43.size=2∧(∀u∈A43.toList,one u)∧av h42 ⟨Array.size (au h p_p),0,none⟩ A43.toList fun h44 =>
 ∃C45,aj h44 ⟨Array.size (au h p_p),0,none⟩ 2 C45∧R (.agg C45.toArray) h44) X)
 (∃v46,af h38 (Addr.add ⟨h23.size,0,none⟩ 2)=some v46 ∧
 bR v46 fun a47 l48 c49=>cond (decide ((l48:Int) > 6))
 (asK .i64 I9 fun n50=>aa Tryz.prog ω 27 [.int .i64 8,(.int .i64 (IntKind.wrap .i64 ((-2) - n50)))] h38 (fun r51 h52 =>
 asA r51 fun A53=>A53.size=2∧(∀u∈A53.toList,one u)∧av h52 ⟨Array.size (au h p_p),0,none⟩ A53.toList fun h54 =>
 ∃C55,aj h54 ⟨Array.size (au h p_p),0,none⟩ 2 C55∧R (.agg C55.toArray) h54) X)
 (∃(I56:RT) (μ57:Value→Hp→Nat),I56 (.int .i64 0) h38∧∀MS (d59:Nat→Value) (h60:Hp),I56 MS h60 →
 ∃v61,af h60 (Addr.add ⟨h23.size,0,none⟩ 2)=some v61 ∧
 bR v61 fun a62 l63 c64=>asK .i64 MS fun n65=>cond (decide (n65 < (l63:Int)))
 (∃v66,af h60 (Addr.add ⟨h23.size,0,none⟩ 2)=some v66 ∧
 aI v66 fun a67 l68 c69=>asI MS fun n70=>0≤n70∧n70 < (l68:Int)∧∃v71,af h60 (Addr.add (Addr.add a67 (n70.toNat*2)) 0)=some v71 ∧
 aa Tryz.prog ω 47 [v71] h60 (fun r72 h73 =>
 asB r72 fun b74=>cond (!b74)
 (asK .i64 I9 fun n75=>aa Tryz.prog ω 27 [.int .i64 4,(.int .i64 (IntKind.wrap .i64 ((-2) - n75)))] h73 (fun r76 h77 =>
 asA r76 fun A78=>A78.size=2∧(∀u∈A78.toList,one u)∧av h77 ⟨Array.size (au h p_p),0,none⟩ A78.toList fun h79 =>
 ∃C80,aj h79 ⟨Array.size (au h p_p),0,none⟩ 2 C80∧R (.agg C80.toArray) h79) X)
 (∃v81,af h73 (Addr.add ⟨h23.size,0,none⟩ 2)=some v81 ∧
 aI v81 fun a82 l83 c84=>asI MS fun n85=>0≤n85∧n85 < (l83:Int)∧∃v86,af h73 (Addr.add (Addr.add a82 (n85.toNat*2)) 1)=some v86 ∧
 aa Tryz.prog ω 48 [v86,.int .i64 3] h73 (fun r87 h88 =>
 asB r87 fun b89=>cond (!b89)
 (asK .i64 I9 fun n90=>aa Tryz.prog ω 27 [.int .i64 11,(.int .i64 (IntKind.wrap .i64 ((-2) - n90)))] h88 (fun r91 h92 =>
 asA r91 fun A93=>A93.size=2∧(∀u∈A93.toList,one u)∧av h92 ⟨Array.size (au h p_p),0,none⟩ A93.toList fun h94 =>
 ∃C95,aj h94 ⟨Array.size (au h p_p),0,none⟩ 2 C95∧R (.agg C95.toArray) h94) X)
 (asK .i64 MS fun n96=>I56 (.int .i64 (IntKind.wrap .i64 (n96+1))) h88∧μ57 (.int .i64 (IntKind.wrap .i64 (n96+1))) h88 < μ57 MS h60)) X)) X)
 (∃v97,af h60 (Addr.add ⟨h23.size,0,none⟩ 3)=some v97 ∧
 aa Tryz.prog ω 49 [v97,ME,.int .i64 1] h60 (fun r98 h99 =>
 asT r98 fun T100=>asO T100[0]? fun v101=>asT r98 fun T102=>asO T102[1]? fun v103=>asA v101 fun A104=>A104.size=2∧(∀u∈A104.toList,one u)∧av (h99.push (.cells #[.int .i64 0,.int .i64 0] 28 (0,0))) ⟨h99.size,0,none⟩ A104.toList fun h105 =>
 ∃v106,af h105 (Addr.add ⟨h99.size,0,none⟩ 0)=some v106 ∧
 asK .i64 v106 fun n107=>cond (n107 !=(0:Int))
 (∃C108,aj h105 ⟨h99.size,0,none⟩ 2 C108 ∧
 C108.toArray.size=2∧(∀u∈C108.toArray.toList,one u)∧av h105 ⟨Array.size (au h p_p),0,none⟩ C108.toArray.toList fun h109 =>
 ∃C110,aj h109 ⟨Array.size (au h p_p),0,none⟩ 2 C110∧R (.agg C110.toArray) h109)
 (asK .i64 I9 fun n111=>I18 v103 (.int .i64 (IntKind.wrap .i64 (n111+1))) h105∧μ19 v103 (.int .i64 (IntKind.wrap .i64 (n111+1))) h105 < μ19 ME I9 h23)) X)))) X)
 (2=2∧(∀u∈[.int .i64 0,.int .i64 0],one u)∧av h23 ⟨Array.size (au h p_p),0,none⟩ [.int .i64 0,.int .i64 0] fun h112 =>
 ∃C113,aj h112 ⟨Array.size (au h p_p),0,none⟩ 2 C113∧R (.agg C113.toArray) h112)))
def j6:Ann :=
 (.T .L (.T (.T .L (.T (.T .L .L) .L)) (.T (.T .L (.T (.T .L .L) .L)) (.T .L (.T (.T .L (.one (.loop [19,20,21,22,23,26,27,28,29,30,5,31,32,33,34,35,36,37,38,39,40,41,42,43,44,6,45,46,47,48,49,52,53,54,55,56,57,58,59,60,61,62,63,64,65,66,67,68,69,70,71,72,73,50,51,75,76,77,78,74,79,80,7,8,81,82,83,84,85,3,24,25,4] [3,4] (.T (.T .L (.T .L .L)) (.T (.one (.T .L (.T (.T .L (.T (.T .L .L) .L)) (.T (.T .L (.T (.T .L .L) .L)) (.T (.T .L (.one (.loop [45,46,47,48,49,52,53,54,55,56,57,58,59,60,61,62,63,64,65,66,67,68,69,70,71,72,73,50,51,6] [6] (.T (.T .L (.T .L .L)) (.T (.one (.T (.T .L (.T (.T .L .L) .L)) (.T .L (.T (.T .L .L) .L)))) .L))))) (.T .L (.T (.T .L (.T (.T .L .L) .L)) .L))))))) .L))))) (.T .L .L))))))
theorem jW (ω:Amb)(p_p:Value)(h:Hp)(R:RT)(X:XT)(hk:dE ω p_p h R X):aa Tryz.prog ω 25 [p_p] h R X :=
 al (an:=j6) Tryz.func25 (by kernel_rfl) hk
abbrev pT:Nat:=26
def hY (ω:Amb)(p_p:Value)(h:Hp)(R:RT)(X:XT):Prop :=
 ∃(I0:Value→RT) (μ1:Value→Value→Hp→Nat),I0 (.string ⟨#[]⟩) (.int .i64 0) (h.push (.cells (Value.cells p_p) 24 (0,0)))∧∀gU i_3 (d4:Nat→Value) (h5:Hp),I0 gU i_3 h5 →
 ∃v6,af h5 (Addr.add ⟨h.size,0,none⟩ 0)=some v6 ∧
 bR v6 fun a7 l8 c9=>asK .i64 i_3 fun n10=>cond (decide (n10 < (l8:Int)))
 (∃v11,af h5 (Addr.add ⟨h.size,0,none⟩ 0)=some v11 ∧
 aI v11 fun a12 l13 c14=>asI i_3 fun n15=>0≤n15∧n15 < (l13:Int)∧∃C16,aj h5 (Addr.add a12 (n15.toNat*4)) 4 C16 ∧
 C16.toArray.size=4∧(∀u∈C16.toArray.toList,one u)∧av (h5.push (.cells #[.string ⟨#[]⟩,.int .i64 0,.slice none 0 0,.slice none 0 0] 41 (0,0))) ⟨h5.size,0,none⟩ C16.toArray.toList fun h17 =>
 ∃v18,af h17 (Addr.add ⟨h5.size,0,none⟩ 0)=some v18 ∧
 asS v18 fun s19=>ByteArray.size ⟨#[115,116,97,103,101,32]⟩+s19.size≤9223372036854775807∧ByteArray.size (⟨#[115,116,97,103,101,32]⟩++s19)+ByteArray.size ⟨#[40]⟩≤9223372036854775807∧asS gU fun s20=>s20.size+ByteArray.size ((⟨#[115,116,97,103,101,32]⟩++s19)++⟨#[40]⟩)≤9223372036854775807∧∃(I21:Value→RT) (μ22:Value→Value→Hp→Nat),I21 (.string (s20++((⟨#[115,116,97,103,101,32]⟩++s19)++⟨#[40]⟩))) (.int .i64 0) h17∧∀zH Mt (d25:Nat→Value) (h26:Hp),I21 zH Mt h26 →
 ∃v27,af h26 (Addr.add ⟨h5.size,0,none⟩ 2)=some v27 ∧
 bR v27 fun a28 l29 c30=>asK .i64 Mt fun n31=>cond (decide (n31 < (l29:Int)))
 (asK .i64 Mt fun n32=>∃J33:RT,
 (cond (decide (n32 > 0))
 (asS zH fun s37=>s37.size+ByteArray.size ⟨#[44,32]⟩≤9223372036854775807∧J33 (.string (s37++⟨#[44,32]⟩)) h26)
 (J33 zH h26)) ∧
 ∀KU (d35:Nat→Value) (h36:Hp),J33 KU h36 →
 ∃v38,af h36 (Addr.add ⟨h5.size,0,none⟩ 2)=some v38 ∧
 aI v38 fun a39 l40 c41=>asI Mt fun n42=>0≤n42∧n42 < (l40:Int)∧∃v43,af h36 (Addr.add (Addr.add a39 (n42.toNat*2)) 0)=some v43 ∧
 asS v43 fun s44=>s44.size+ByteArray.size ⟨#[32]⟩≤9223372036854775807∧∃v45,af h36 (Addr.add ⟨h5.size,0,none⟩ 2)=some v45 ∧
 aI v45 fun a46 l47 c48=>asI Mt fun n49=>0≤n49∧n49 < (l47:Int)∧∃v50,af h36 (Addr.add (Addr.add a46 (n49.toNat*2)) 1)=some v50 ∧
 aa Tryz.prog ω 50 [v50] h36 (fun r51 h52 =>
 af h52 (Addr.add (Addr.add a39 (n42.toNat*2)) 0)=some v43∧af h52 (Addr.add ⟨h5.size,0,none⟩ 2)=some v38∧asS r51 fun s53=>ByteArray.size (s44++⟨#[32]⟩)+s53.size≤9223372036854775807∧asS KU fun s54=>s54.size+ByteArray.size ((s44++⟨#[32]⟩)++s53)≤9223372036854775807∧asK .i64 Mt fun n55=>I21 (.string (s54++((s44++⟨#[32]⟩)++s53))) (.int .i64 (IntKind.wrap .i64 (n55+1))) h52∧μ22 (.string (s54++((s44++⟨#[32]⟩)++s53))) (.int .i64 (IntKind.wrap .i64 (n55+1))) h52 < μ22 zH Mt h26) X)
 (∃v56,af h26 (Addr.add ⟨h5.size,0,none⟩ 3)=some v56 ∧
 aa Tryz.prog ω 51 [v56,.string ⟨#[]⟩] h26 (fun r57 h58 =>
 asS r57 fun s59=>ByteArray.size ⟨#[41]⟩+s59.size≤9223372036854775807∧ByteArray.size (⟨#[41]⟩++s59)+ByteArray.size ⟨#[10]⟩≤9223372036854775807∧asS zH fun s60=>s60.size+ByteArray.size ((⟨#[41]⟩++s59)++⟨#[10]⟩)≤9223372036854775807∧asK .i64 i_3 fun n61=>I0 (.string (s60++((⟨#[41]⟩++s59)++⟨#[10]⟩))) (.int .i64 (IntKind.wrap .i64 (n61+1))) h58∧μ1 (.string (s60++((⟨#[41]⟩++s59)++⟨#[10]⟩))) (.int .i64 (IntKind.wrap .i64 (n61+1))) h58 < μ1 gU i_3 h5) X))
 (R gU h5)
def pO:Ann :=
 (.T .L (.T .L (.T (.T .L (.one (.loop [7,8,9,10,11,14,15,16,17,18,5,19,20,21,22,23,24,3,6,25,26,27,28,29,32,33,34,35,36,37,38,39,40,41,42,43,44,45,46,47,48,49,50,51,52,30,31,53,54,55,56,57,58,59,12,13,4] [3,4] (.T (.T .L (.T .L .L)) (.T (.one (.T .L (.T .L (.T (.T .L (.one (.loop [25,26,27,28,29,32,33,34,35,3,36,37,38,39,40,41,42,43,44,45,46,47,48,49,50,51,52,30,31,6] [3,6] (.T (.T .L (.T .L .L)) (.T (.one (.T (.T .L (.join [34,35,3] [3] (.T .L .L))) (.plan [0,1,2,3,4,5,6,7,8,9,10,11,12,13,14,15,16,17]))) .L))))) .L)))) .L))))) (.T .L .L))))
theorem pV (ω:Amb)(p_p:Value)(h:Hp)(R:RT)(X:XT)(hk:hY ω p_p h R X):aa Tryz.prog ω 26 [p_p] h R X :=
 al (an:=pO) Tryz.func26 (by kernel_rfl) hk
abbrev kn:Nat:=46
def dG (ω:Amb)(l_p:Value)(h:Hp)(R:RT)(X:XT):Prop :=
 ∃(I0:Value→RT) (μ1:Value→Value→Hp→Nat),I0 (.slice none 0 0) (.int .i64 0) h∧∀gU i_3 (d4:Nat→Value) (h5:Hp),I0 gU i_3 h5 →
 bR l_p fun a6 l7 c8=>asK .i64 i_3 fun n9=>cond (decide (n9 < (l7:Int)))
 (aI l_p fun a10 l11 c12=>asI i_3 fun n13=>0≤n13∧n13 < (l11:Int)∧∃C14,aj h5 (Addr.add a10 (n13.toNat*4)) 4 C14 ∧
 C14.toArray.size=4∧(∀u∈C14.toArray.toList,one u)∧av (h5.push (.cells #[.int .i64 0,.string ⟨#[]⟩,.int .i64 0,.slice none 0 0] 36 (0,0))) ⟨h5.size,0,none⟩ C14.toArray.toList fun h15 =>
 ∃v16,af h15 (Addr.add ⟨h5.size,0,none⟩ 3)=some v16 ∧
 aa Tryz.prog ω 46 [v16] h15 (fun r17 h18 =>
 cq r17 (aJ h18 (Addr.add ⟨h5.size,0,none⟩ 3) r17 fun h19 =>
 ∃C20,aj h19 ⟨h5.size,0,none⟩ 4 C20 ∧
 C20.toArray.size=4∧x2 Tryz.prog 34 (h19.push (.cells (List.toArray (C20.toArray.toList++[])) 36 (0,0))) gU (.slice (some ⟨h19.size,0,none⟩) 1 1) fun w21 h22 =>
 asK .i64 i_3 fun n23=>I0 w21 (.int .i64 (IntKind.wrap .i64 (n23+1))) h22∧μ1 w21 (.int .i64 (IntKind.wrap .i64 (n23+1))) h22 < μ1 gU i_3 h5)) X)
 (R gU h5)
def j5:Ann :=
 (.T .L (.T .L (.T (.T .L (.one (.loop [6,7,8,9,12,13,14,15,5,16,17,18,19,20,21,22,23,3,10,11,4] [3,4] (.T (.T .L (.T .L .L)) (.T (.one (.T .L (.T .L .L))) .L))))) (.T .L .L))))
theorem kd (ω:Amb)(l_p:Value)(h:Hp)(R:RT)(X:XT)(hk:dG ω l_p h R X):aa Tryz.prog ω 46 [l_p] h R X :=
 al (an:=j5) Tryz.func46 (by kernel_rfl) hk
abbrev nr:Nat:=47
def fG (ω:Amb)(s_p:Value)(h:Hp)(R:RT)(X:XT):Prop :=
 ∃J0:RT,
 (asS s_p fun s4=>cond (decide (((s4.size:Int):Int) < 1))
 (J0 (.bool true) h)
 (asS s_p fun s5=>cond (decide (((s5.size:Int):Int) > 12))
 (J0 (.bool true) h)
 (asS s_p fun s6=>0≤(0:Int)∧0 < (s6.size:Int)∧aa Tryz.prog ω 75 [(.int .u8 (aU s6 0))] h (fun r7 h8 =>
 asB r7 fun b9=>cond (!b9)
 (J0 (.bool true) h8)
 (aa Tryz.prog ω 76 [s_p] h8 (fun r10 h11 =>
 J0 r10 h11) X)) X))) ∧
 ∀Oy (d2:Nat→Value) (h3:Hp),J0 Oy h3 →
 asB Oy fun b12=>cond b12
 (R (.bool false) h3)
 (∃(I13:RT) (μ14:Value→Hp→Nat),I13 (.int .i64 0) h3∧∀MV (d16:Nat→Value) (h17:Hp),I13 MV h17 →
 asS s_p fun s18=>asK .i64 MV fun n19=>cond (decide (n19 < (s18.size:Int)))
 (∃J20:RT,
 (asS s_p fun s24=>asI MV fun n25=>0≤n25∧n25 < (s24.size:Int)∧aa Tryz.prog ω 75 [(.int .u8 (aU s24 n25))] h17 (fun r26 h27 =>
 asB r26 fun b28=>cond (!b28)
 (asS s_p fun s29=>asI MV fun n30=>0≤n30∧n30 < (s29.size:Int)∧aa Tryz.prog ω 77 [(.int .u8 (aU s29 n30))] h27 (fun r31 h32 =>
 asB r31 fun b33=>J20 (.bool (!b33)) h32) X)
 (J20 (.bool false) h27)) X) ∧
 ∀KW (d22:Nat→Value) (h23:Hp),J20 KW h23 →
 asB KW fun b34=>cond b34
 (R (.bool false) h23)
 (asK .i64 MV fun n35=>I13 (.int .i64 (IntKind.wrap .i64 (n35+1))) h23∧μ14 (.int .i64 (IntKind.wrap .i64 (n35+1))) h23 < μ14 MV h17))
 (R (.bool true) h17))
def np:Ann :=
 (.T .L (.T (.T (.join [4,5,6,7,8,9,10,11,12,13,14,15,16,17,18,19,20,21] [21] .L) (.T (.T .L .L) .L)) (.T (.T .L (.one (.loop [22,23,24,25,28,29,30,31,32,33,34,35,36,37,38,39,2,26,27,3] [3] (.T (.T .L (.T .L .L)) (.T (.one (.T (.join [28,29,30,31,32,33,34,35,36,37,38,39] [39] .L) (.T (.T .L .L) .L))) .L))))) (.T .L .L))))
theorem mG (ω:Amb)(s_p:Value)(h:Hp)(R:RT)(X:XT)(hk:fG ω s_p h R X):aa Tryz.prog ω 47 [s_p] h R X :=
 al (an:=np) Tryz.func47 (by kernel_rfl) hk
abbrev nj:Nat:=48
def fN (ω:Amb)(t_p rS:Value)(h:Hp)(R:RT)(X:XT):Prop :=
 ∃β0:Bool,
 (asS t_p fun s2=>cond (decide (((s2.size:Int):Int) < 1))
 (((.bool true):Value)=.bool β0∧h=h)
 (asS t_p fun s3=>asK .i64 rS fun n4=>cond (decide (((IntKind.wrap .i64 ((s3.size:Int) - 1)):Int) > n4))
 (((.bool true):Value)=.bool β0∧h=h)
 (asS t_p fun s5=>asS t_p fun s6=>0≤((IntKind.wrap .i64 ((s5.size:Int) - 1)):Int)∧((IntKind.wrap .i64 ((s5.size:Int) - 1)):Int)≤(s6.size:Int)∧(s6.size:Int)≤(s6.size:Int)∧((.bool (!(ByteArray.toList (ByteArray.extract s6 (Int.toNat (IntKind.wrap .i64 ((s5.size:Int) - 1))) (Int.toNat (s6.size:Int)))==ByteArray.toList ⟨#[105]⟩))):Value)=.bool β0∧h=h))) ∧
 ∀d1:Nat→Value,
 cond β0
 (R (.bool false) h)
 (∃(I7:RT) (μ8:Value→Hp→Nat),I7 (.int .i64 0) h∧∀i_9 (d10:Nat→Value) (h11:Hp),I7 i_9 h11 →
 asS t_p fun s12=>asK .i64 i_9 fun n13=>cond (decide (n13 < (IntKind.wrap .i64 ((s12.size:Int) - 1))))
 (∃β14:Bool,
 (asK .i64 i_9 fun n16=>asS t_p fun s17=>asI i_9 fun n18=>0≤n18∧n18≤(IntKind.wrap .i64 (n16+1))∧(IntKind.wrap .i64 (n16+1))≤(s17.size:Int)∧cond (!(ByteArray.toList (ByteArray.extract s17 (n18.toNat) (Int.toNat (IntKind.wrap .i64 (n16+1))))==ByteArray.toList ⟨#[115]⟩))
 (asK .i64 i_9 fun n19=>asS t_p fun s20=>asI i_9 fun n21=>0≤n21∧n21≤(IntKind.wrap .i64 (n19+1))∧(IntKind.wrap .i64 (n19+1))≤(s20.size:Int)∧((.bool (!(ByteArray.toList (ByteArray.extract s20 (n21.toNat) (Int.toNat (IntKind.wrap .i64 (n19+1))))==ByteArray.toList ⟨#[114]⟩))):Value)=.bool β14∧h11=h11)
 (((.bool false):Value)=.bool β14∧h11=h11)) ∧
 ∀d15:Nat→Value,
 cond β14
 (R (.bool false) h11)
 (asK .i64 i_9 fun n22=>I7 (.int .i64 (IntKind.wrap .i64 (n22+1))) h11∧μ8 (.int .i64 (IntKind.wrap .i64 (n22+1))) h11 < μ8 i_9 h11))
 (R (.bool true) h11))
def mC:Ann :=
 (.T .L (.T (.T (.jb [6,7,8,9,10,11,12,13,14,15,16,17,18,19,20,21,22,23] 23 .L) (.T (.T .L .L) .L)) (.T (.T .L (.one (.loop [24,25,26,27,28,31,32,33,34,35,36,37,38,39,40,41,42,43,44,4,29,30,5] [5] (.T (.T .L (.T .L .L)) (.T (.one (.T (.jb [31,32,33,34,35,36,37,38,39,40,41,42,43,44] 44 .L) (.T (.T .L .L) .L))) .L))))) (.T .L .L))))
theorem nK (ω:Amb)(t_p rS:Value)(h:Hp)(R:RT)(X:XT)(hk:fN ω t_p rS h R X):aa Tryz.prog ω 48 [t_p,rS] h R X :=
 al (an:=mC) Tryz.func48 (by kernel_rfl) hk
abbrev js:Nat:=49
def dy (ω:Amb)(l_p bU dm:Value)(h:Hp)(R:RT)(X:XT):Prop :=
 ∃(I0:Value→RT) (μ1:Value→Value→Hp→Nat),I0 bU (.int .i64 0) (h.push (.cells #[.int .i64 0,.int .i64 0] 28 (0,0)))∧∀LK i_3 (d4:Nat→Value) (h5:Hp),I0 LK i_3 h5 →
 bR l_p fun a6 l7 c8=>asK .i64 i_3 fun n9=>cond (decide (n9 < (l7:Int)))
 (aI l_p fun a10 l11 c12=>asI i_3 fun n13=>0≤n13∧n13 < (l11:Int)∧∃C14,aj h5 (Addr.add a10 (n13.toNat*9)) 9 C14 ∧
 aa Tryz.prog ω 78 [.agg C14.toArray,LK,dm] h5 (fun r15 h16 =>
 asK .i64 r15 fun n17=>cond (n17 !=(0:Int))
 (aa Tryz.prog ω 27 [r15,LK] h16 (fun r18 h19 =>
 asA r18 fun A20=>A20.size=2∧(∀u∈A20.toList,one u)∧av h19 ⟨h.size,0,none⟩ A20.toList fun h21 =>
 ∃C22,aj h21 ⟨h.size,0,none⟩ 2 C22∧R (.tuple #[.agg C22.toArray,LK]) h21) X)
 (asK .i64 LK fun n23=>aI l_p fun a24 l25 c26=>asI i_3 fun n27=>0≤n27∧n27 < (l25:Int)∧∃v28,af h16 (Addr.add (Addr.add a24 (n27.toNat*9)) 7)=some v28 ∧
 asK .i64 dm fun n29=>aa Tryz.prog ω 49 [v28,(.int .i64 (IntKind.wrap .i64 (n23+1))),(.int .i64 (IntKind.wrap .i64 (n29+1)))] h16 (fun r30 h31 =>
 asT r30 fun T32=>asO T32[0]? fun v33=>asT r30 fun T34=>asO T34[1]? fun v35=>asA v33 fun A36=>A36.size=2∧(∀u∈A36.toList,one u)∧av (h31.push (.cells #[.int .i64 0,.int .i64 0] 28 (0,0))) ⟨h31.size,0,none⟩ A36.toList fun h37 =>
 ∃v38,af h37 (Addr.add ⟨h31.size,0,none⟩ 0)=some v38 ∧
 asK .i64 v38 fun n39=>∃J40:RT,
 (cond (n39==(0:Int))
 (aI l_p fun a44 l45 c46=>asI i_3 fun n47=>0≤n47∧n47 < (l45:Int)∧∃v48,af h37 (Addr.add (Addr.add a44 (n47.toNat*9)) 8)=some v48 ∧
 asK .i64 dm fun n49=>aa Tryz.prog ω 49 [v48,v35,(.int .i64 (IntKind.wrap .i64 (n49+1)))] h37 (fun r50 h51 =>
 asT r50 fun T52=>asO T52[0]? fun v53=>asT r50 fun T54=>asO T54[1]? fun v55=>asA v53 fun A56=>A56.size=2∧(∀u∈A56.toList,one u)∧av h51 ⟨h31.size,0,none⟩ A56.toList fun h57 =>
 J40 v55 h57) X)
 (J40 v35 h37)) ∧
 ∀n_41 (d42:Nat→Value) (h43:Hp),J40 n_41 h43 →
 ∃v58,af h43 (Addr.add ⟨h31.size,0,none⟩ 0)=some v58 ∧
 asK .i64 v58 fun n59=>cond (n59 !=(0:Int))
 (∃C60,aj h43 ⟨h31.size,0,none⟩ 2 C60 ∧
 C60.toArray.size=2∧(∀u∈C60.toArray.toList,one u)∧av h43 ⟨h.size,0,none⟩ C60.toArray.toList fun h61 =>
 ∃C62,aj h61 ⟨h.size,0,none⟩ 2 C62∧R (.tuple #[.agg C62.toArray,n_41]) h61)
 (asK .i64 i_3 fun n63=>I0 n_41 (.int .i64 (IntKind.wrap .i64 (n63+1))) h43∧μ1 n_41 (.int .i64 (IntKind.wrap .i64 (n63+1))) h43 < μ1 LK i_3 h5)) X)) X)
 (2=2∧(∀u∈[.int .i64 0,.int .i64 0],one u)∧av h5 ⟨h.size,0,none⟩ [.int .i64 0,.int .i64 0] fun h64 =>
 ∃C65,aj h64 ⟨h.size,0,none⟩ 2 C65∧R (.tuple #[.agg C65.toArray,LK]) h64)
def jt:Ann :=
 (.T .L (.T (.T .L (.one (.loop [12,13,14,15,18,19,20,21,22,23,24,9,25,26,27,28,29,30,7,31,32,1,34,35,36,37,38,39,40,41,42,33,43,44,10,11,45,46,47,49,50,51,52,53,54,55,56,57,48,58,59,60,61,62,63,64,65,16,17,8] [1,8] (.T (.T .L (.T .L .L)) (.T (.one (.T (.T .L (.T .L (.T (.T .L .L) .L))) (.T .L (.T .L (.T (.T .L (.join [49,50,51,52,53,54,55,56,57,48,58,59,11] [11] (.T .L .L))) (.T (.T .L (.T (.T .L .L) .L)) .L)))))) .L))))) (.T .L .L)))
theorem jq (ω:Amb)(l_p bU dm:Value)(h:Hp)(R:RT)(X:XT)(hk:dy ω l_p bU dm h R X):aa Tryz.prog ω 49 [l_p,bU,dm] h R X :=
 al (an:=jt) Tryz.func49 (by kernel_rfl) hk
abbrev kB:Nat:=50
def eo (ω:Amb)(t_p:Value)(h:Hp)(R:RT)(X:XT):Prop :=
 ∃(I0:Value→RT) (μ1:Value→Value→Hp→Nat),I0 (.string ⟨#[]⟩) (.int .i64 0) h∧∀gU i_3 (d4:Nat→Value) (h5:Hp),I0 gU i_3 h5 →
 asS t_p fun s6=>asK .i64 i_3 fun n7=>cond (decide (n7 < (IntKind.wrap .i64 ((s6.size:Int) - 1))))
 (∃J8:RT,
 (asK .i64 i_3 fun n12=>asS t_p fun s13=>asI i_3 fun n14=>0≤n14∧n14≤(IntKind.wrap .i64 (n12+1))∧(IntKind.wrap .i64 (n12+1))≤(s13.size:Int)∧∃J15:RT,
 (cond (ByteArray.toList (ByteArray.extract s13 (n14.toNat) (Int.toNat (IntKind.wrap .i64 (n12+1))))==ByteArray.toList ⟨#[115]⟩)
 (asS gU fun s19=>s19.size+ByteArray.size ⟨#[115,101,110,100,32]⟩≤9223372036854775807∧J15 (.string (s19++⟨#[115,101,110,100,32]⟩)) h5)
 (asS gU fun s20=>s20.size+ByteArray.size ⟨#[114,101,99,118,32]⟩≤9223372036854775807∧J15 (.string (s20++⟨#[114,101,99,118,32]⟩)) h5)) ∧
 ∀Kx (d17:Nat→Value) (h18:Hp),J15 Kx h18 →
 J8 Kx h18) ∧
 ∀MN (d10:Nat→Value) (h11:Hp),J8 MN h11 →
 asK .i64 i_3 fun n21=>I0 MN (.int .i64 (IntKind.wrap .i64 (n21+1))) h11∧μ1 MN (.int .i64 (IntKind.wrap .i64 (n21+1))) h11 < μ1 gU i_3 h5)
 (asS gU fun s22=>s22.size+ByteArray.size ⟨#[105,110,116]⟩≤9223372036854775807∧R (.string (s22++⟨#[105,110,116]⟩)) h5)
def kI:Ann :=
 (.T .L (.T .L (.T (.T .L (.one (.loop [5,6,7,8,9,12,13,14,15,16,17,18,19,3,20,21,10,11,4] [3,4] (.T (.T .L (.T .L .L)) (.T (.join [12,13,14,15,16,17,18,19,3,20,21] [3] (.one (.T .L (.join [18,19,3,20,21] [3] (.T .L .L))))) .L))))) (.T .L .L))))
theorem kT (ω:Amb)(t_p:Value)(h:Hp)(R:RT)(X:XT)(hk:eo ω t_p h R X):aa Tryz.prog ω 50 [t_p] h R X :=
 al (an:=kI) Tryz.func50 (by kernel_rfl) hk
abbrev j8:Nat:=51
def dO (ω:Amb)(l_p mi:Value)(h:Hp)(R:RT)(X:XT):Prop :=
 ∃(I0:Value→RT) (μ1:Value→Value→Hp→Nat),I0 (.string ⟨#[32,123,10]⟩) (.int .i64 0) h∧∀gU i_3 (d4:Nat→Value) (h5:Hp),I0 gU i_3 h5 →
 bR l_p fun a6 l7 c8=>asK .i64 i_3 fun n9=>cond (decide (n9 < (l7:Int)))
 (aI l_p fun a10 l11 c12=>asI i_3 fun n13=>0≤n13∧n13 < (l11:Int)∧∃C14,aj h5 (Addr.add a10 (n13.toNat*9)) 9 C14 ∧
 asS mi fun s15=>s15.size+ByteArray.size ⟨#[9]⟩≤9223372036854775807∧aa Tryz.prog ω 79 [.agg C14.toArray,(.string (s15++⟨#[9]⟩))] h5 (fun r16 h17 =>
 asS gU fun s18=>asS r16 fun s19=>s18.size+s19.size≤9223372036854775807∧asK .i64 i_3 fun n20=>I0 (.string (s18++s19)) (.int .i64 (IntKind.wrap .i64 (n20+1))) h17∧μ1 (.string (s18++s19)) (.int .i64 (IntKind.wrap .i64 (n20+1))) h17 < μ1 gU i_3 h5) X)
 (asS gU fun s21=>asS mi fun s22=>s21.size+s22.size≤9223372036854775807∧ByteArray.size (s21++s22)+ByteArray.size ⟨#[125]⟩≤9223372036854775807∧R (.string ((s21++s22)++⟨#[125]⟩)) h5)
def kf:Ann :=
 (.T .L (.T .L (.T (.T .L (.one (.loop [7,8,9,10,13,14,15,16,17,18,19,20,21,5,11,12,6] [5,6] (.T (.T .L (.T .L .L)) (.T (.one .L) .L))))) (.T .L .L))))
theorem kl (ω:Amb)(l_p mi:Value)(h:Hp)(R:RT)(X:XT)(hk:dO ω l_p mi h R X):aa Tryz.prog ω 51 [l_p,mi] h R X :=
 al (an:=kf) Tryz.func51 (by kernel_rfl) hk
abbrev pn:Nat:=75
def gD (ω:Amb)(c_p:Value)(h:Hp)(R:RT)(X:XT):Prop :=
 ∃J0:RT,
 (asK .u8 c_p fun n4=>cond (decide (n4≥97))
 (asK .u8 c_p fun n5=>J0 (.bool (decide (n5≤122))) h)
 (J0 (.bool false) h)) ∧
 ∀HM (d2:Nat→Value) (h3:Hp),J0 HM h3 →
 R HM h3
def oz:Ann :=
 (.T .L (.T (.join [3,4,5,6,7,8,2] [2] .L) .L))
theorem o0 (ω:Amb)(c_p:Value)(h:Hp)(R:RT)(X:XT)(hk:gD ω c_p h R X):aa Tryz.prog ω 75 [c_p] h R X :=
 al (an:=oz) Tryz.func75 (by kernel_rfl) hk
abbrev mF:Nat:=76
def fh (ω:Amb)(s_p:Value)(h:Hp)(R:RT)(X:XT):Prop :=
 ∃(I0:RT) (μ1:Value→Hp→Nat),I0 (.int .i64 0) (h.push (.cells (List.toArray [(.string ⟨#[97,98,97,110,100,111,110]⟩),(.string ⟨#[99,104,97,110]⟩),(.string ⟨#[99,108,111,110,101]⟩),(.string ⟨#[99,108,111,115,101]⟩),(.string ⟨#[100,114,97,105,110]⟩),(.string ⟨#[101,108,115,101]⟩),(.string ⟨#[101,109,105,116]⟩),(.string ⟨#[102,111,114]⟩),(.string ⟨#[102,114,111,109]⟩),(.string ⟨#[105,102]⟩),(.string ⟨#[105,110,116]⟩),(.string ⟨#[108,101,116]⟩),(.string ⟨#[114,101,99,118]⟩),(.string ⟨#[114,101,112,101,97,116]⟩),(.string ⟨#[115,101,110,100]⟩),(.string ⟨#[115,101,116]⟩),(.string ⟨#[115,112,97,119,110]⟩),(.string ⟨#[115,116,97,103,101]⟩),(.string ⟨#[116,97,107,101]⟩)]) 9 (0,0)))∧∀i_2 (d3:Nat→Value) (h4:Hp),I0 i_2 h4 →
 asK .i64 i_2 fun n5=>cond (decide (n5 < (19:Int)))
 (asI i_2 fun n6=>0≤n6∧n6 < (19:Int)∧∃v7,af h4 (Addr.add ⟨h.size,0,none⟩ (n6.toNat*1))=some v7 ∧
 asS v7 fun s8=>asS s_p fun s9=>cond (s8.toList==s9.toList)
 (R (.bool true) h4)
 (asK .i64 i_2 fun n10=>I0 (.int .i64 (IntKind.wrap .i64 (n10+1))) h4∧μ1 (.int .i64 (IntKind.wrap .i64 (n10+1))) h4 < μ1 i_2 h4))
 (R (.bool false) h4)
def nl:Ann :=
 (.T .L (.T .L (.T (.T .L (.one (.loop [6,7,8,9,12,13,14,15,16,17,2,10,11,4] [4] (.T (.T .L (.T .L .L)) (.T (.one (.T .L (.T (.T .L .L) .L))) .L))))) (.T .L .L))))
theorem mV (ω:Amb)(s_p:Value)(h:Hp)(R:RT)(X:XT)(hk:fh ω s_p h R X):aa Tryz.prog ω 76 [s_p] h R X :=
 al (an:=nl) Tryz.func76 (by kernel_rfl) hk
abbrev nX:Nat:=77
def gq (ω:Amb)(c_p:Value)(h:Hp)(R:RT)(X:XT):Prop :=
 ∃J0:RT,
 (asK .u8 c_p fun n4=>cond (decide (n4≥48))
 (asK .u8 c_p fun n5=>J0 (.bool (decide (n5≤57))) h)
 (J0 (.bool false) h)) ∧
 ∀HM (d2:Nat→Value) (h3:Hp),J0 HM h3 →
 R HM h3
def oQ:Ann :=
 (.T .L (.T (.join [3,4,5,6,7,8,2] [2] .L) .L))
theorem oI (ω:Amb)(c_p:Value)(h:Hp)(R:RT)(X:XT)(hk:gq ω c_p h R X):aa Tryz.prog ω 77 [c_p] h R X :=
 al (an:=oQ) Tryz.func77 (by kernel_rfl) hk
abbrev j3:Nat:=78
def dN (ω:Amb)(s_p bU dm:Value)(h:Hp)(R:RT)(X:XT):Prop :=
 asK .i64 bU fun n0=>cond (decide (n0≥300))
 (R (.int .i64 8) (h.push (.cells (Value.cells s_p) 39 (0,0))))
 (∃C1,aj (h.push (.cells (Value.cells s_p) 39 (0,0))) ⟨h.size,0,none⟩ 9 C1 ∧
 aa Tryz.prog ω 102 [.agg C1.toArray] (h.push (.cells (Value.cells s_p) 39 (0,0))) (fun r2 h3 =>
 asB r2 fun b4=>cond (!b4)
 (R (.int .i64 5) h3)
 (∃v5,af h3 (Addr.add ⟨h.size,0,none⟩ 6)=some v5 ∧
 bR v5 fun a6 l7 c8=>cond (decide ((l7:Int) > 6))
 (R (.int .i64 8) h3)
 (∃v9,af h3 (Addr.add ⟨h.size,0,none⟩ 0)=some v9 ∧
 aa Tryz.prog ω 103 [v9] h3 (fun r10 h11 =>
 ∃J12:RT,
 (asS r10 fun s16=>0≤(0:Int)∧(0:Int)≤1∧1≤(s16.size:Int)∧cond (ByteArray.toList (ByteArray.extract s16 (Int.toNat 0) (Int.toNat 1))==ByteArray.toList ⟨#[65]⟩)
 (∃v17,af h11 (Addr.add ⟨h.size,0,none⟩ 2)=some v17 ∧
 aa Tryz.prog ω 47 [v17] h11 (fun r18 h19 =>
 asB r18 fun b20=>cond (!b20)
 (J12 (.bool true) h19)
 (asS r10 fun s21=>0≤(1:Int)∧(1:Int)≤2∧2≤(s21.size:Int)∧cond (ByteArray.toList (ByteArray.extract s21 (Int.toNat 1) (Int.toNat 2))==ByteArray.toList ⟨#[66]⟩)
 (∃v22,af h19 (Addr.add ⟨h.size,0,none⟩ 3)=some v22 ∧
 aa Tryz.prog ω 47 [v22] h19 (fun r23 h24 =>
 asB r23 fun b25=>J12 (.bool (!b25)) h24) X)
 (J12 (.bool false) h19))) X)
 (asS r10 fun s26=>0≤(1:Int)∧(1:Int)≤2∧2≤(s26.size:Int)∧cond (ByteArray.toList (ByteArray.extract s26 (Int.toNat 1) (Int.toNat 2))==ByteArray.toList ⟨#[66]⟩)
 (∃v27,af h11 (Addr.add ⟨h.size,0,none⟩ 3)=some v27 ∧
 aa Tryz.prog ω 47 [v27] h11 (fun r28 h29 =>
 asB r28 fun b30=>J12 (.bool (!b30)) h29) X)
 (J12 (.bool false) h11))) ∧
 ∀Kf (d14:Nat→Value) (h15:Hp),J12 Kf h15 →
 asB Kf fun b31=>cond b31
 (R (.int .i64 4) h15)
 (∃J32:RT,
 (asS r10 fun s36=>0≤(2:Int)∧(2:Int)≤3∧3≤(s36.size:Int)∧cond (ByteArray.toList (ByteArray.extract s36 (Int.toNat 2) (Int.toNat 3))==ByteArray.toList ⟨#[84]⟩)
 (∃v37,af h15 (Addr.add ⟨h.size,0,none⟩ 4)=some v37 ∧
 aa Tryz.prog ω 48 [v37,.int .i64 3] h15 (fun r38 h39 =>
 asB r38 fun b40=>J32 (.bool (!b40)) h39) X)
 (J32 (.bool false) h15)) ∧
 ∀Kn (d34:Nat→Value) (h35:Hp),J32 Kn h35 →
 asB Kn fun b41=>cond b41
 (R (.int .i64 11) h35)
 (∃β42:Bool,
 (∃v44,af h35 (Addr.add ⟨h.size,0,none⟩ 5)=some v44 ∧
 asK .i64 v44 fun n45=>cond (decide (n45 < 0))
 (((.bool true):Value)=.bool β42∧h35=h35)
 (∃v46,af h35 (Addr.add ⟨h.size,0,none⟩ 5)=some v46 ∧
 asK .i64 v46 fun n47=>((.bool (decide (n47≥1000000000000000000))):Value)=.bool β42∧h35=h35)) ∧
 ∀d43:Nat→Value,
 cond β42
 (R (.int .i64 14) h35)
 (∃(I48:RT) (μ49:Value→Hp→Nat),I48 (.int .i64 0) h35∧∀MU (d51:Nat→Value) (h52:Hp),I48 MU h52 →
 ∃v53,af h52 (Addr.add ⟨h.size,0,none⟩ 6)=some v53 ∧
 bR v53 fun a54 l55 c56=>asK .i64 MU fun n57=>cond (decide (n57 < (l55:Int)))
 (∃v58,af h52 (Addr.add ⟨h.size,0,none⟩ 6)=some v58 ∧
 aI v58 fun a59 l60 c61=>asI MU fun n62=>0≤n62∧n62 < (l60:Int)∧∃C63,aj h52 (Addr.add a59 (n62.toNat*4)) 4 C63 ∧
 aa Tryz.prog ω 104 [.agg C63.toArray] h52 (fun r64 h65 =>
 asK .i64 r64 fun n66=>cond (decide (n66 > 20))
 (R (.int .i64 8) h65)
 (∃v67,af h65 (Addr.add ⟨h.size,0,none⟩ 6)=some v67 ∧
 aI v67 fun a68 l69 c70=>asI MU fun n71=>0≤n71∧n71 < (l69:Int)∧∃C72,aj h65 (Addr.add a68 (n71.toNat*4)) 4 C72 ∧
 aa Tryz.prog ω 105 [.agg C72.toArray] h65 (fun r73 h74 =>
 asK .i64 r73 fun n75=>cond (n75 !=(0:Int))
 (R r73 h74)
 (asK .i64 MU fun n76=>I48 (.int .i64 (IntKind.wrap .i64 (n76+1))) h74∧μ49 (.int .i64 (IntKind.wrap .i64 (n76+1))) h74 < μ49 MU h52)) X)) X)
 (∃β77:Bool,
 (asS r10 fun s79=>0≤(5:Int)∧(5:Int)≤6∧6≤(s79.size:Int)∧cond (ByteArray.toList (ByteArray.extract s79 (Int.toNat 5) (Int.toNat 6))==ByteArray.toList ⟨#[66]⟩)
 (asK .i64 dm fun n80=>((.bool (decide (n80≥8))):Value)=.bool β77∧h52=h52)
 (((.bool false):Value)=.bool β77∧h52=h52)) ∧
 ∀d78:Nat→Value,
 cond β77
 (R (.int .i64 7) h52)
 (R (.int .i64 0) h52)))))) X))) X)
def jV:Ann :=
 (.T .L (.T (.T .L (.T (.T .L .L) .L)) (.T (.T .L (.T (.T .L .L) .L)) (.T (.T .L (.T (.T .L .L) .L)) (.T .L (.T (.T (.join [22,23,24,25,26,27,28,29,30,31,32,33,34,35,36,37,38,39,40,41] [41] .L) (.T (.T .L .L) .L)) (.T (.T (.join [42,43,44,45,46,47,48,49,50] [50] .L) (.T (.T .L .L) .L)) (.T (.T (.jb [51,52,53,54,55,56,57,58] 58 .L) (.T (.T .L .L) .L)) (.T (.T .L (.one (.loop [59,60,61,62,63,66,67,68,69,70,71,72,6,73,74,75,76,77,78,9,79,80,81,64,65,8] [8] (.T (.T .L (.T .L .L)) (.T (.one (.T (.T .L (.T (.T .L .L) .L)) (.T .L (.T .L (.T (.T .L .L) .L))))) .L))))) (.T (.T (.jb [82,83,84,85,86,87,88] 88 .L) (.T (.T .L .L) .L)) (.T .L .L)))))))))))
theorem j7 (ω:Amb)(s_p bU dm:Value)(h:Hp)(R:RT)(X:XT)(hk:dN ω s_p bU dm h R X):aa Tryz.prog ω 78 [s_p,bU,dm] h R X :=
 al (an:=jV) Tryz.func78 (by kernel_rfl) hk
abbrev kQ:Nat:=79
abbrev aX (h:Hp)(s_p:Value):Hp:=Array.push (h.push (.cells (Value.cells s_p) 39 (0,0))) (.cells (List.toArray [.string ⟨#[]⟩,(.string ⟨#[108,101,116]⟩),(.string ⟨#[115,101,116]⟩),(.string ⟨#[101,109,105,116]⟩),(.string ⟨#[99,104,97,110]⟩),(.string ⟨#[99,108,111,110,101]⟩),(.string ⟨#[115,101,110,100]⟩),(.string ⟨#[99,108,111,115,101]⟩),(.string ⟨#[97,98,97,110,100,111,110]⟩),(.string ⟨#[100,114,97,105,110]⟩),(.string ⟨#[115,112,97,119,110]⟩),(.string ⟨#[116,97,107,101]⟩),(.string ⟨#[102,111,114]⟩),(.string ⟨#[114,101,112,101,97,116]⟩),(.string ⟨#[105,102]⟩)]) 9 (0,0))
def ep (ω:Amb)(s_p mi:Value)(h:Hp)(R:RT)(X:XT):Prop :=
 ∃v0,af (aX h s_p) (Addr.add ⟨h.size,0,none⟩ 0)=some v0 ∧
 asI v0 fun n1=>0≤n1∧n1 < (15:Int)∧∃v2,af (aX h s_p) (Addr.add ⟨Array.size (h.push (.cells (Value.cells s_p) 39 (0,0))),0,none⟩ (n1.toNat*1))=some v2 ∧
 asS mi fun s3=>asS v2 fun s4=>s3.size+s4.size≤9223372036854775807∧∃v5,af (aX h s_p) (Addr.add ⟨h.size,0,none⟩ 2)=some v5 ∧
 asS v5 fun s6=>∃J7:RT,
 (cond (!(s6.toList==ByteArray.toList ⟨#[]⟩))
 (∃v11,af (aX h s_p) (Addr.add ⟨h.size,0,none⟩ 2)=some v11 ∧
 asS v11 fun s12=>ByteArray.size ⟨#[32]⟩+s12.size≤9223372036854775807∧ByteArray.size (s3++s4)+ByteArray.size (⟨#[32]⟩++s12)≤9223372036854775807∧J7 (.string ((s3++s4)++(⟨#[32]⟩++s12))) (aX h s_p))
 (J7 (.string (s3++s4)) (aX h s_p))) ∧
 ∀Lo (d9:Nat→Value) (h10:Hp),J7 Lo h10 →
 ∃β13:Bool,
 (∃v15,af h10 (Addr.add ⟨h.size,0,none⟩ 0)=some v15 ∧
 asK .i64 v15 fun n16=>cond (n16==(1:Int))
 (((.bool true):Value)=.bool β13∧h10=h10)
 (∃v17,af h10 (Addr.add ⟨h.size,0,none⟩ 0)=some v17 ∧
 asK .i64 v17 fun n18=>((.bool (n18==(2:Int))):Value)=.bool β13∧h10=h10)) ∧
 ∀d14:Nat→Value,
 ∃J19:RT,
 (cond β13
 (asS Lo fun s23=>s23.size+ByteArray.size ⟨#[32,61]⟩≤9223372036854775807∧J19 (.string (s23++⟨#[32,61]⟩)) h10)
 (J19 Lo h10)) ∧
 ∀Gq (d21:Nat→Value) (h22:Hp),J19 Gq h22 →
 ∃β24:Bool,
 (∃v26,af h22 (Addr.add ⟨h.size,0,none⟩ 0)=some v26 ∧
 asK .i64 v26 fun n27=>cond (n27==(11:Int))
 (((.bool true):Value)=.bool β24∧h22=h22)
 (∃v28,af h22 (Addr.add ⟨h.size,0,none⟩ 0)=some v28 ∧
 asK .i64 v28 fun n29=>((.bool (n29==(12:Int))):Value)=.bool β24∧h22=h22)) ∧
 ∀d25:Nat→Value,
 ∃J30:RT,
 (cond β24
 (asS Gq fun s34=>s34.size+ByteArray.size ⟨#[32,102,114,111,109]⟩≤9223372036854775807∧J30 (.string (s34++⟨#[32,102,114,111,109]⟩)) h22)
 (J30 Gq h22)) ∧
 ∀E9 (d32:Nat→Value) (h33:Hp),J30 E9 h33 →
 ∃v35,af h33 (Addr.add ⟨h.size,0,none⟩ 3)=some v35 ∧
 asS v35 fun s36=>∃J37:RT,
 (cond (!(s36.toList==ByteArray.toList ⟨#[]⟩))
 (∃v41,af h33 (Addr.add ⟨h.size,0,none⟩ 3)=some v41 ∧
 asS v41 fun s42=>ByteArray.size ⟨#[32]⟩+s42.size≤9223372036854775807∧asS E9 fun s43=>s43.size+ByteArray.size (⟨#[32]⟩++s42)≤9223372036854775807∧J37 (.string (s43++(⟨#[32]⟩++s42))) h33)
 (J37 E9 h33)) ∧
 ∀FT (d39:Nat→Value) (h40:Hp),J37 FT h40 →
 ∃v44,af h40 (Addr.add ⟨h.size,0,none⟩ 0)=some v44 ∧
 asK .i64 v44 fun n45=>∃J46:RT,
 (cond (n45==(4:Int))
 (∃v50,af h40 (Addr.add ⟨h.size,0,none⟩ 4)=some v50 ∧
 ∃v51,af h40 (Addr.add ⟨h.size,0,none⟩ 5)=some v51 ∧
 aa Tryz.prog ω 50 [v50] h40 (fun r52 h53 =>
 af h53 (Addr.add ⟨h.size,0,none⟩ 5)=some v51∧asS r52 fun s54=>ByteArray.size ⟨#[32]⟩+s54.size≤9223372036854775807∧ByteArray.size (⟨#[32]⟩++s54)+ByteArray.size ⟨#[32]⟩≤9223372036854775807∧aa Tryz.prog ω 106 [v51] h53 (fun r55 h56 =>
 asS r55 fun s57=>ByteArray.size ((⟨#[32]⟩++s54)++⟨#[32]⟩)+s57.size≤9223372036854775807∧asS FT fun s58=>s58.size+ByteArray.size (((⟨#[32]⟩++s54)++⟨#[32]⟩)++s57)≤9223372036854775807∧J46 (.string (s58++(((⟨#[32]⟩++s54)++⟨#[32]⟩)++s57))) h56) X) X)
 (J46 FT h40)) ∧
 ∀EG (d48:Nat→Value) (h49:Hp),J46 EG h49 →
 ∃v59,af h49 (Addr.add ⟨h.size,0,none⟩ 0)=some v59 ∧
 asK .i64 v59 fun n60=>∃J61:RT,
 (cond (n60==(10:Int))
 (asS EG fun s65=>s65.size+ByteArray.size ⟨#[40]⟩≤9223372036854775807∧J61 (.string (s65++⟨#[40]⟩)) h49)
 (J61 EG h49)) ∧
 ∀Ll (d63:Nat→Value) (h64:Hp),J61 Ll h64 →
 ∃(I66:Value→RT) (μ67:Value→Value→Hp→Nat),I66 Ll (.int .i64 0) h64∧∀vT MB (d70:Nat→Value) (h71:Hp),I66 vT MB h71 →
 ∃v72,af h71 (Addr.add ⟨h.size,0,none⟩ 6)=some v72 ∧
 bR v72 fun a73 l74 c75=>asK .i64 MB fun n76=>cond (decide (n76 < (l74:Int)))
 (asK .i64 MB fun n77=>∃J78:RT,
 (cond (decide (n77 > 0))
 (asS vT fun s82=>s82.size+ByteArray.size ⟨#[44]⟩≤9223372036854775807∧J78 (.string (s82++⟨#[44]⟩)) h71)
 (J78 vT h71)) ∧
 ∀Ge (d80:Nat→Value) (h81:Hp),J78 Ge h81 →
 ∃β83:Bool,
 (asK .i64 MB fun n85=>cond (decide (n85 > 0))
 (((.bool true):Value)=.bool β83∧h81=h81)
 (∃v86,af h81 (Addr.add ⟨h.size,0,none⟩ 0)=some v86 ∧
 asK .i64 v86 fun n87=>((.bool (n87 !=(10:Int))):Value)=.bool β83∧h81=h81)) ∧
 ∀d84:Nat→Value,
 ∃J88:RT,
 (cond β83
 (asS Ge fun s92=>s92.size+ByteArray.size ⟨#[32]⟩≤9223372036854775807∧J88 (.string (s92++⟨#[32]⟩)) h81)
 (J88 Ge h81)) ∧
 ∀JP (d90:Nat→Value) (h91:Hp),J88 JP h91 →
 ∃v93,af h91 (Addr.add ⟨h.size,0,none⟩ 6)=some v93 ∧
 aI v93 fun a94 l95 c96=>asI MB fun n97=>0≤n97∧n97 < (l95:Int)∧∃C98,aj h91 (Addr.add a94 (n97.toNat*4)) 4 C98 ∧
 aa Tryz.prog ω 107 [.agg C98.toArray,.int .i64 0] h91 (fun r99 h100 =>
 asS JP fun s101=>asS r99 fun s102=>s101.size+s102.size≤9223372036854775807∧asK .i64 MB fun n103=>I66 (.string (s101++s102)) (.int .i64 (IntKind.wrap .i64 (n103+1))) h100∧μ67 (.string (s101++s102)) (.int .i64 (IntKind.wrap .i64 (n103+1))) h100 < μ67 vT MB h71) X)
 (∃v104,af h71 (Addr.add ⟨h.size,0,none⟩ 0)=some v104 ∧
 asK .i64 v104 fun n105=>∃J106:RT,
 (cond (n105==(10:Int))
 (asS vT fun s110=>s110.size+ByteArray.size ⟨#[41]⟩≤9223372036854775807∧J106 (.string (s110++⟨#[41]⟩)) h71)
 (J106 vT h71)) ∧
 ∀AH (d108:Nat→Value) (h109:Hp),J106 AH h109 →
 ∃v111,af h109 (Addr.add ⟨h.size,0,none⟩ 0)=some v111 ∧
 asK .i64 v111 fun n112=>cond (decide (n112 < 11))
 (asS AH fun s113=>s113.size+ByteArray.size ⟨#[59,10]⟩≤9223372036854775807∧R (.string (s113++⟨#[59,10]⟩)) h109)
 (∃v114,af h109 (Addr.add ⟨h.size,0,none⟩ 7)=some v114 ∧
 aa Tryz.prog ω 51 [v114,mi] h109 (fun r115 h116 =>
 asS AH fun s117=>asS r115 fun s118=>s117.size+s118.size≤9223372036854775807∧∃v119,af h116 (Addr.add ⟨h.size,0,none⟩ 8)=some v119 ∧
 bR v119 fun a120 l121 c122=>∃J123:RT,
 (cond (decide ((l121:Int) > 0))
 (∃v127,af h116 (Addr.add ⟨h.size,0,none⟩ 8)=some v127 ∧
 aa Tryz.prog ω 51 [v127,mi] h116 (fun r128 h129 =>
 asS r128 fun s130=>ByteArray.size ⟨#[32,101,108,115,101]⟩+s130.size≤9223372036854775807∧ByteArray.size (s117++s118)+ByteArray.size (⟨#[32,101,108,115,101]⟩++s130)≤9223372036854775807∧J123 (.string ((s117++s118)++(⟨#[32,101,108,115,101]⟩++s130))) h129) X)
 (J123 (.string (s117++s118)) h116)) ∧
 ∀F7 (d125:Nat→Value) (h126:Hp),J123 F7 h126 →
 asS F7 fun s131=>s131.size+ByteArray.size ⟨#[10]⟩≤9223372036854775807∧R (.string (s131++⟨#[10]⟩)) h126) X))
def lh:Ann :=
 (.T .L (.T .L (.T .L (.T (.T .L (.join [19,20,21,22,23,6] [6] (.T .L .L))) (.T (.T (.jb [24,25,26,27,28,29,30,31] 31 .L) (.join [32,33,6] [6] (.T .L .L))) (.T (.T (.jb [34,35,36,37,38,39,40,41] 41 .L) (.join [42,43,6] [6] (.T .L .L))) (.T (.T .L (.join [47,48,49,50,51,6] [6] (.T .L .L))) (.T (.T .L (.join [55,56,57,58,59,60,61,62,63,64,65,6] [6] (.T (.plan [0,1,2,6,7,3,4,5,8,9,10,11]) .L))) (.T (.T .L (.join [69,70,6] [6] (.T .L .L))) (.T (.T .L (.one (.loop [71,72,73,74,75,78,79,80,81,6,82,83,84,85,86,87,88,89,90,91,92,93,94,95,96,97,98,76,77,7] [6,7] (.T (.T .L (.T .L .L)) (.T (.one (.T (.T .L (.join [80,81,6] [6] (.T .L .L))) (.T (.T (.jb [82,83,84,85,86,87,88] 88 .L) (.join [89,90,6] [6] (.T .L .L))) .L))) .L))))) (.T (.T .L (.join [102,103,6] [6] (.T .L .L))) (.T (.T .L (.T (.T .L .L) .L)) (.T .L (.T (.T .L (.join [119,120,121,122,123,124,125,6] [6] (.T .L .L))) (.T .L .L)))))))))))))))
theorem kt (ω:Amb)(s_p mi:Value)(h:Hp)(R:RT)(X:XT)(hk:ep ω s_p mi h R X):aa Tryz.prog ω 79 [s_p,mi] h R X :=
 al (an:=lh) Tryz.func79 (by kernel_rfl) hk
abbrev kR:Nat:=102
def ef (ω:Amb)(s_p:Value)(h:Hp)(R:RT)(X:XT):Prop :=
 ∃v0,af (h.push (.cells (Value.cells s_p) 39 (0,0))) (Addr.add ⟨h.size,0,none⟩ 0)=some v0 ∧
 aa Tryz.prog ω 103 [v0] (h.push (.cells (Value.cells s_p) 39 (0,0))) (fun r1 h2 =>
 asS r1 fun s3=>cond (s3.toList==ByteArray.toList ⟨#[]⟩)
 (R (.bool false) h2)
 (∃J4:RT,
 (asS r1 fun s8=>0≤(0:Int)∧(0:Int)≤1∧1≤(s8.size:Int)∧∃v9,af h2 (Addr.add ⟨h.size,0,none⟩ 2)=some v9 ∧
 asS v9 fun s10=>aa Tryz.prog ω 124 [(.string (ByteArray.extract s8 (Int.toNat 0) (Int.toNat 1))),(.bool (s10.toList==ByteArray.toList ⟨#[]⟩))] h2 (fun r11 h12 =>
 asB r11 fun b13=>cond (!b13)
 (J4 (.bool true) h12)
 (asS r1 fun s14=>0≤(1:Int)∧(1:Int)≤2∧2≤(s14.size:Int)∧∃v15,af h12 (Addr.add ⟨h.size,0,none⟩ 3)=some v15 ∧
 asS v15 fun s16=>aa Tryz.prog ω 124 [(.string (ByteArray.extract s14 (Int.toNat 1) (Int.toNat 2))),(.bool (s16.toList==ByteArray.toList ⟨#[]⟩))] h12 (fun r17 h18 =>
 asB r17 fun b19=>cond (!b19)
 (J4 (.bool true) h18)
 (asS r1 fun s20=>0≤(2:Int)∧(2:Int)≤3∧3≤(s20.size:Int)∧∃v21,af h18 (Addr.add ⟨h.size,0,none⟩ 4)=some v21 ∧
 asS v21 fun s22=>aa Tryz.prog ω 124 [(.string (ByteArray.extract s20 (Int.toNat 2) (Int.toNat 3))),(.bool (s22.toList==ByteArray.toList ⟨#[]⟩))] h18 (fun r23 h24 =>
 asB r23 fun b25=>cond (!b25)
 (J4 (.bool true) h24)
 (asS r1 fun s26=>0≤(3:Int)∧(3:Int)≤4∧4≤(s26.size:Int)∧∃v27,af h24 (Addr.add ⟨h.size,0,none⟩ 5)=some v27 ∧
 asK .i64 v27 fun n28=>aa Tryz.prog ω 124 [(.string (ByteArray.extract s26 (Int.toNat 3) (Int.toNat 4))),(.bool (n28==(0:Int)))] h24 (fun r29 h30 =>
 asB r29 fun b31=>cond (!b31)
 (J4 (.bool true) h30)
 (asS r1 fun s32=>0≤(5:Int)∧(5:Int)≤6∧6≤(s32.size:Int)∧∃v33,af h30 (Addr.add ⟨h.size,0,none⟩ 7)=some v33 ∧
 bR v33 fun a34 l35 c36=>aa Tryz.prog ω 124 [(.string (ByteArray.extract s32 (Int.toNat 5) (Int.toNat 6))),(.bool ((l35:Int)==(0:Int)))] h30 (fun r37 h38 =>
 asB r37 fun b39=>cond (!b39)
 (J4 (.bool true) h38)
 (asS r1 fun s40=>0≤(6:Int)∧(6:Int)≤7∧7≤(s40.size:Int)∧∃v41,af h38 (Addr.add ⟨h.size,0,none⟩ 8)=some v41 ∧
 bR v41 fun a42 l43 c44=>aa Tryz.prog ω 124 [(.string (ByteArray.extract s40 (Int.toNat 6) (Int.toNat 7))),(.bool ((l43:Int)==(0:Int)))] h38 (fun r45 h46 =>
 asB r45 fun b47=>J4 (.bool (!b47)) h46) X)) X)) X)) X)) X)) X) ∧
 ∀Ns (d6:Nat→Value) (h7:Hp),J4 Ns h7 →
 asB Ns fun b48=>cond b48
 (R (.bool false) h7)
 (∃J49:RT,
 (asS r1 fun s53=>0≤(4:Int)∧(4:Int)≤5∧5≤(s53.size:Int)∧cond (ByteArray.toList (ByteArray.extract s53 (Int.toNat 4) (Int.toNat 5))==ByteArray.toList ⟨#[42]⟩)
 (J49 (.bool true) h7)
 (asS r1 fun s54=>0≤(4:Int)∧(4:Int)≤5∧5≤(s54.size:Int)∧∃v55,af h7 (Addr.add ⟨h.size,0,none⟩ 6)=some v55 ∧
 bR v55 fun a56 l57 c58=>aa Tryz.prog ω 106 [(.int .i64 (l57:Int))] h7 (fun r59 h60 =>
 asS r59 fun s61=>J49 (.bool (ByteArray.toList (ByteArray.extract s54 (Int.toNat 4) (Int.toNat 5))==s61.toList)) h60) X)) ∧
 ∀OV (d51:Nat→Value) (h52:Hp),J49 OV h52 →
 R OV h52))) X
def ku:Ann :=
 (.T .L (.T .L (.T (.T .L (.T (.T .L .L) .L)) (.T (.T (.join [9,10,11,12,13,14,15,16,17,18,19,20,21,22,23,24,25,26,27,28,29,30,31,32,33,34,35,36,37,38,39,40,41,42,43,44,45,46,47,48,49,50,51,52,53,54,55,56,57,58,59,60,61,62] [62] (.plan [0,1,2,3,4,5,6,7,8,9,10,11,12,13,14,15,16,17,18,19,20,21,22,23,24,25,26,27,28,29,30,31,32,33,34,35,36,37,38,39,40,41,42,43,44,45,46,47,48,49,50,51,52,53])) (.T (.T .L .L) .L)) (.T (.join [63,64,65,66,67,68,69,70,71,72,73,74,2] [2] (.plan [0,1,2,3,4,5,6,7,8,9,10,11,12])) .L)))))
theorem kY (ω:Amb)(s_p:Value)(h:Hp)(R:RT)(X:XT)(hk:ef ω s_p h R X):aa Tryz.prog ω 102 [s_p] h R X :=
 al (an:=ku) Tryz.func102 (by kernel_rfl) hk
abbrev mX:Nat:=103
abbrev aV (h:Hp):Hp:=h.push (.cells (List.toArray [.string ⟨#[]⟩,(.string ⟨#[65,45,45,45,49,45,45]⟩),(.string ⟨#[65,45,45,45,49,45,45]⟩),(.string ⟨#[45,45,45,45,49,45,45]⟩),(.string ⟨#[65,66,84,78,48,45,45]⟩),(.string ⟨#[65,66,45,45,48,45,45]⟩),(.string ⟨#[65,45,45,45,49,45,45]⟩),(.string ⟨#[65,45,45,45,48,45,45]⟩),(.string ⟨#[65,45,45,45,48,45,45]⟩),(.string ⟨#[65,45,45,45,48,45,45]⟩),(.string ⟨#[65,45,45,45,42,45,45]⟩),(.string ⟨#[65,66,45,45,48,66,69]⟩),(.string ⟨#[65,66,45,45,48,66,45]⟩),(.string ⟨#[45,45,45,45,49,66,45]⟩),(.string ⟨#[45,45,45,45,49,66,69]⟩)]) 9 (0,0))
def ft (ω:Amb)(tz:Value)(h:Hp)(R:RT)(X:XT):Prop :=
 ∃β0:Bool,
 (asK .i64 tz fun n2=>cond (decide (n2 < 1))
 (((.bool true):Value)=.bool β0∧(aV h)=(aV h))
 (asK .i64 tz fun n3=>((.bool (decide (n3≥(15:Int)))):Value)=.bool β0∧(aV h)=(aV h))) ∧
 ∀d1:Nat→Value,
 cond β0
 (R (.string ⟨#[]⟩) (aV h))
 (asI tz fun n4=>0≤n4∧n4 < (15:Int)∧∃v5,af (aV h) (Addr.add ⟨h.size,0,none⟩ (n4.toNat*1))=some v5 ∧
 R v5 (aV h))
def nC:Ann :=
 (.T .L (.T .L (.T (.T (.jb [5,6,7,8,9,10,11,12] 12 .L) (.T (.T .L .L) .L)) (.T .L .L))))
theorem nq (ω:Amb)(tz:Value)(h:Hp)(R:RT)(X:XT)(hk:ft ω tz h R X):aa Tryz.prog ω 103 [tz] h R X :=
 al (an:=nC) Tryz.func103 (by kernel_rfl) hk
abbrev oN:Nat:=104
def gv (ω:Amb)(x_p:Value)(h:Hp)(R:RT)(X:XT):Prop :=
 ∃(I0:Value→RT) (μ1:Value→Value→Hp→Nat),I0 (.int .i64 1) (.int .i64 0) (h.push (.cells (Value.cells x_p) 36 (0,0)))∧∀n_2 i_3 (d4:Nat→Value) (h5:Hp),I0 n_2 i_3 h5 →
 ∃v6,af h5 (Addr.add ⟨h.size,0,none⟩ 3)=some v6 ∧
 bR v6 fun a7 l8 c9=>asK .i64 i_3 fun n10=>cond (decide (n10 < (l8:Int)))
 (∃v11,af h5 (Addr.add ⟨h.size,0,none⟩ 3)=some v11 ∧
 aI v11 fun a12 l13 c14=>asI i_3 fun n15=>0≤n15∧n15 < (l13:Int)∧∃C16,aj h5 (Addr.add a12 (n15.toNat*4)) 4 C16 ∧
 aa Tryz.prog ω 104 [.agg C16.toArray] h5 (fun r17 h18 =>
 asK .i64 n_2 fun n19=>asK .i64 r17 fun n20=>asK .i64 i_3 fun n21=>I0 (.int .i64 (IntKind.wrap .i64 (n19+n20))) (.int .i64 (IntKind.wrap .i64 (n21+1))) h18∧μ1 (.int .i64 (IntKind.wrap .i64 (n19+n20))) (.int .i64 (IntKind.wrap .i64 (n21+1))) h18 < μ1 n_2 i_3 h5) X)
 (R n_2 h5)
def o8:Ann :=
 (.T .L (.T .L (.T (.T .L (.one (.loop [5,6,7,8,9,12,13,14,15,16,17,18,19,3,10,11,4] [3,4] (.T (.T .L (.T .L .L)) (.T (.one .L) .L))))) (.T .L .L))))
theorem oZ (ω:Amb)(x_p:Value)(h:Hp)(R:RT)(X:XT)(hk:gv ω x_p h R X):aa Tryz.prog ω 104 [x_p] h R X :=
 al (an:=o8) Tryz.func104 (by kernel_rfl) hk
abbrev jX:Nat:=105
abbrev aO (h:Hp)(x_p:Value):Hp:=h.push (.cells (Value.cells x_p) 36 (0,0))
def dL (ω:Amb)(x_p:Value)(h:Hp)(R:RT)(X:XT):Prop :=
 ∃β0:Bool,
 (∃v2,af (aO h x_p) (Addr.add ⟨h.size,0,none⟩ 0)=some v2 ∧
 asK .i64 v2 fun n3=>cond (n3==(1:Int))
 (((.bool true):Value)=.bool β0∧(aO h x_p)=(aO h x_p))
 (∃v4,af (aO h x_p) (Addr.add ⟨h.size,0,none⟩ 0)=some v4 ∧
 asK .i64 v4 fun n5=>((.bool (n5==(2:Int))):Value)=.bool β0∧(aO h x_p)=(aO h x_p))) ∧
 ∀d1:Nat→Value,
 ∃J6:RT,
 (cond β0
 (J6 (.int .i64 0) (aO h x_p))
 (J6 (.int .i64 2) (aO h x_p))) ∧
 ∀Km (d8:Nat→Value) (h9:Hp),J6 Km h9 →
 ∃v10,af h9 (Addr.add ⟨h.size,0,none⟩ 0)=some v10 ∧
 asK .i64 v10 fun n11=>∃J12:RT,
 (cond (n11==(3:Int))
 (J12 (.int .i64 1) h9)
 (J12 Km h9)) ∧
 ∀HE (d14:Nat→Value) (h15:Hp),J12 HE h15 →
 ∃β16:Bool,
 (∃v18,af h15 (Addr.add ⟨h.size,0,none⟩ 0)=some v18 ∧
 asK .i64 v18 fun n19=>cond (decide (n19 < 1))
 (((.bool true):Value)=.bool β16∧h15=h15)
 (∃v20,af h15 (Addr.add ⟨h.size,0,none⟩ 0)=some v20 ∧
 asK .i64 v20 fun n21=>cond (decide (n21 > 8))
 (((.bool true):Value)=.bool β16∧h15=h15)
 (∃v22,af h15 (Addr.add ⟨h.size,0,none⟩ 3)=some v22 ∧
 bR v22 fun a23 l24 c25=>asK .i64 HE fun n26=>cond ((l24:Int) !=n26)
 (((.bool true):Value)=.bool β16∧h15=h15)
 (∃v27,af h15 (Addr.add ⟨h.size,0,none⟩ 2)=some v27 ∧
 asK .i64 v27 fun n28=>cond (n28 !=(0:Int))
 (∃v29,af h15 (Addr.add ⟨h.size,0,none⟩ 0)=some v29 ∧
 asK .i64 v29 fun n30=>cond (n30 !=(1:Int))
 (((.bool true):Value)=.bool β16∧h15=h15)
 (∃v31,af h15 (Addr.add ⟨h.size,0,none⟩ 1)=some v31 ∧
 asS v31 fun s32=>cond (!(s32.toList==ByteArray.toList ⟨#[]⟩))
 (∃v33,af h15 (Addr.add ⟨h.size,0,none⟩ 0)=some v33 ∧
 asK .i64 v33 fun n34=>((.bool (n34 !=(2:Int))):Value)=.bool β16∧h15=h15)
 (((.bool false):Value)=.bool β16∧h15=h15)))
 (∃v35,af h15 (Addr.add ⟨h.size,0,none⟩ 1)=some v35 ∧
 asS v35 fun s36=>cond (!(s36.toList==ByteArray.toList ⟨#[]⟩))
 (∃v37,af h15 (Addr.add ⟨h.size,0,none⟩ 0)=some v37 ∧
 asK .i64 v37 fun n38=>((.bool (n38 !=(2:Int))):Value)=.bool β16∧h15=h15)
 (((.bool false):Value)=.bool β16∧h15=h15)))))) ∧
 ∀d17:Nat→Value,
 cond β16
 (R (.int .i64 5) h15)
 (∃J39:RT,
 (∃v43,af h15 (Addr.add ⟨h.size,0,none⟩ 0)=some v43 ∧
 asK .i64 v43 fun n44=>cond (n44==(2:Int))
 (∃v45,af h15 (Addr.add ⟨h.size,0,none⟩ 1)=some v45 ∧
 aa Tryz.prog ω 47 [v45] h15 (fun r46 h47 =>
 asB r46 fun b48=>J39 (.bool (!b48)) h47) X)
 (J39 (.bool false) h15)) ∧
 ∀K8 (d41:Nat→Value) (h42:Hp),J39 K8 h42 →
 asB K8 fun b49=>cond b49
 (R (.int .i64 4) h42)
 (∃β50:Bool,
 (∃v52,af h42 (Addr.add ⟨h.size,0,none⟩ 2)=some v52 ∧
 asK .i64 v52 fun n53=>cond (decide (n53 < 0))
 (((.bool true):Value)=.bool β50∧h42=h42)
 (∃v54,af h42 (Addr.add ⟨h.size,0,none⟩ 2)=some v54 ∧
 asK .i64 v54 fun n55=>((.bool (decide (n55≥1000000000000000000))):Value)=.bool β50∧h42=h42)) ∧
 ∀d51:Nat→Value,
 cond β50
 (R (.int .i64 3) h42)
 (∃(I56:RT) (μ57:Value→Hp→Nat),I56 (.int .i64 0) h42∧∀OB (d59:Nat→Value) (h60:Hp),I56 OB h60 →
 ∃v61,af h60 (Addr.add ⟨h.size,0,none⟩ 3)=some v61 ∧
 bR v61 fun a62 l63 c64=>asK .i64 OB fun n65=>cond (decide (n65 < (l63:Int)))
 (∃v66,af h60 (Addr.add ⟨h.size,0,none⟩ 3)=some v66 ∧
 aI v66 fun a67 l68 c69=>asI OB fun n70=>0≤n70∧n70 < (l68:Int)∧∃C71,aj h60 (Addr.add a67 (n70.toNat*4)) 4 C71 ∧
 aa Tryz.prog ω 105 [.agg C71.toArray] h60 (fun r72 h73 =>
 asK .i64 r72 fun n74=>cond (n74 !=(0:Int))
 (R r72 h73)
 (asK .i64 OB fun n75=>I56 (.int .i64 (IntKind.wrap .i64 (n75+1))) h73∧μ57 (.int .i64 (IntKind.wrap .i64 (n75+1))) h73 < μ57 OB h60)) X)
 (R (.int .i64 0) h60))))
def ko:Ann :=
 (.T .L (.T .L (.T (.T (.jb [6,7,8,9,10,11,12,13] 13 .L) (.join [3] [3] (.T .L .L))) (.T (.T .L (.join [3] [3] (.T .L .L))) (.T (.T (.jb [17,18,19,20,21,22,23,24,25,26,27,28,29,30,31,32,33,34,35,36,37,38,39,40,41,42,43,44,45,46,47,48,49,50,51] 51 .L) (.T (.T .L .L) .L)) (.T (.T (.join [52,53,54,55,56,57,58,59,60] [60] .L) (.T (.T .L .L) .L)) (.T (.T (.jb [61,62,63,64,65,66,67,68] 68 .L) (.T (.T .L .L) .L)) (.T (.T .L (.one (.loop [69,70,71,72,73,76,77,78,79,80,81,5,82,83,84,2,74,75,4] [4] (.T (.T .L (.T .L .L)) (.T (.one (.T .L (.T .L (.T (.T .L .L) .L)))) .L))))) (.T .L .L)))))))))
theorem kc (ω:Amb)(x_p:Value)(h:Hp)(R:RT)(X:XT)(hk:dL ω x_p h R X):aa Tryz.prog ω 105 [x_p] h R X :=
 al (an:=ko) Tryz.func105 (by kernel_rfl) hk
abbrev cA:Nat:=107
abbrev az:Obj:=.cells (List.toArray [(.string ⟨#[32,43,32]⟩),(.string ⟨#[32,45,32]⟩),(.string ⟨#[32,42,32]⟩),(.string ⟨#[32,60,32]⟩),(.string ⟨#[32,61,61,32]⟩)]) 9 (0,0)
abbrev aG (h:Hp)(x_p:Value):Hp:=Array.push (h.push (.cells (Value.cells x_p) 36 (0,0))) (.cells (List.toArray [.int .i64 0,.int .i64 9,.int .i64 9,.int .i64 4,.int .i64 2,.int .i64 2,.int .i64 3,.int .i64 1,.int .i64 1]) 3 (0,0))
def eu (ω:Amb)(x_p De:Value)(h:Hp)(R:RT)(X:XT):Prop :=
 ∃v0,af (aG h x_p) (Addr.add ⟨h.size,0,none⟩ 0)=some v0 ∧
 asI v0 fun n1=>0≤n1∧n1 < (9:Int)∧∃v2,af (aG h x_p) (Addr.add ⟨Array.size (h.push (.cells (Value.cells x_p) 36 (0,0))),0,none⟩ (n1.toNat*1))=some v2 ∧
 ∃v3,af (aG h x_p) (Addr.add ⟨h.size,0,none⟩ 0)=some v3 ∧
 ∃J4:RT,
 (asK .i64 v3 fun n8=>∃J9:RT,
 (cond (n8==(1:Int))
 (∃v13,af (aG h x_p) (Addr.add ⟨h.size,0,none⟩ 2)=some v13 ∧
 aa Tryz.prog ω 126 [v13,.int .i64 10] (aG h x_p) (fun r14 h15 =>
 J9 r14 h15) X)
 (asK .i64 v3 fun n16=>∃J17:RT,
 (cond (n16==(2:Int))
 (∃v21,af (aG h x_p) (Addr.add ⟨h.size,0,none⟩ 1)=some v21 ∧
 J17 v21 (aG h x_p))
 (asK .i64 v3 fun n22=>∃J23:RT,
 (cond (n22==(3:Int))
 (∃v27,af (aG h x_p) (Addr.add ⟨h.size,0,none⟩ 3)=some v27 ∧
 aI v27 fun a28 l29 c30=>0≤(0:Int)∧0 < (l29:Int)∧∃C31,aj (aG h x_p) (Addr.add a28 (Int.toNat 0*4)) 4 C31 ∧
 aa Tryz.prog ω 107 [.agg C31.toArray,.int .i64 4] (aG h x_p) (fun r32 h33 =>
 asS r32 fun s34=>ByteArray.size ⟨#[45]⟩+s34.size≤9223372036854775807∧J23 (.string (⟨#[45]⟩++s34)) h33) X)
 (asK .i64 v2 fun n35=>∃J36:RT,
 (cond (n35==(1:Int))
 (J36 (.int .i64 2) (aG h x_p))
 (J36 v2 (aG h x_p))) ∧
 ∀uh (d38:Nat→Value) (h39:Hp),J36 uh h39 →
 ∃v40,af h39 (Addr.add ⟨h.size,0,none⟩ 3)=some v40 ∧
 aI v40 fun a41 l42 c43=>0≤(0:Int)∧0 < (l42:Int)∧∃C44,aj h39 (Addr.add a41 (Int.toNat 0*4)) 4 C44 ∧
 ∃v45,af h39 (Addr.add ⟨h.size,0,none⟩ 0)=some v45 ∧
 asK .i64 v45 fun n46=>∃v47,af h39 (Addr.add ⟨h.size,0,none⟩ 3)=some v47 ∧
 aI v47 fun a48 l49 c50=>0≤(1:Int)∧1 < (l49:Int)∧∃C51,aj h39 (Addr.add a48 (Int.toNat 1*4)) 4 C51 ∧
 asK .i64 v2 fun n52=>(aa Tryz.prog ω 107 [.agg C44.toArray,uh] h39 (fun r53 h54 =>
 aj h54 (Addr.add a48 (Int.toNat 1*4)) 4 C51∧af h54 (Addr.add ⟨h.size,0,none⟩ 3)=some v47∧af h54 (Addr.add ⟨h.size,0,none⟩ 0)=some v45∧(aj (h54.push (az)) (Addr.add a48 (Int.toNat 1*4)) 4 C51∧af (h54.push (az)) (Addr.add ⟨h.size,0,none⟩ 3)=some v47∧af (h54.push (az)) (Addr.add ⟨h.size,0,none⟩ 0)=some v45∧0≤((IntKind.wrap .i64 (n46 - 4)):Int)∧(IntKind.wrap .i64 (n46 - 4)) < (5:Int)∧∃v55,af (h54.push (az)) (Addr.add ⟨h54.size,0,none⟩ (Int.toNat (IntKind.wrap .i64 (n46 - 4))*1))=some v55 ∧
 asS r53 fun s56=>asS v55 fun s57=>s56.size+s57.size≤9223372036854775807∧aa Tryz.prog ω 107 [.agg C51.toArray,(.int .i64 (IntKind.wrap .i64 (n52+1)))] (h54.push (az)) (fun r58 h59 =>
 af h59 (Addr.add ⟨h54.size,0,none⟩ (Int.toNat (IntKind.wrap .i64 (n46 - 4))*1))=some v55∧af h59 (Addr.add ⟨h.size,0,none⟩ 0)=some v45∧asS r58 fun s60=>ByteArray.size (s56++s57)+s60.size≤9223372036854775807∧J23 (.string ((s56++s57)++s60)) h59) X) ∧
(aa Tryz.prog ω 107 [.agg C51.toArray,(.int .i64 (IntKind.wrap .i64 (n52+1)))] h54 (fun r61 h62 =>
 af h62 (Addr.add ⟨h.size,0,none⟩ 0)=some v45∧af (h62.push (az)) (Addr.add ⟨h.size,0,none⟩ 0)=some v45∧0≤((IntKind.wrap .i64 (n46 - 4)):Int)∧(IntKind.wrap .i64 (n46 - 4)) < (5:Int)∧∃v63,af (h62.push (az)) (Addr.add ⟨h62.size,0,none⟩ (Int.toNat (IntKind.wrap .i64 (n46 - 4))*1))=some v63 ∧
 asS r53 fun s64=>asS v63 fun s65=>s64.size+s65.size≤9223372036854775807∧asS r61 fun s66=>ByteArray.size (s64++s65)+s66.size≤9223372036854775807∧J23 (.string ((s64++s65)++s66)) (h62.push (az))) X)) X) ∧
(aj (h39.push (az)) (Addr.add a48 (Int.toNat 1*4)) 4 C51∧af (h39.push (az)) (Addr.add ⟨h.size,0,none⟩ 3)=some v47∧af (h39.push (az)) (Addr.add ⟨h.size,0,none⟩ 0)=some v45∧aj (h39.push (az)) (Addr.add a41 (Int.toNat 0*4)) 4 C44∧af (h39.push (az)) (Addr.add ⟨h.size,0,none⟩ 3)=some v40∧(aa Tryz.prog ω 107 [.agg C44.toArray,uh] (h39.push (az)) (fun r67 h68 =>
 aj h68 (Addr.add a48 (Int.toNat 1*4)) 4 C51∧af h68 (Addr.add ⟨h.size,0,none⟩ 3)=some v47∧af h68 (Addr.add ⟨h.size,0,none⟩ 0)=some v45∧0≤((IntKind.wrap .i64 (n46 - 4)):Int)∧(IntKind.wrap .i64 (n46 - 4)) < (5:Int)∧∃v69,af h68 (Addr.add ⟨h39.size,0,none⟩ (Int.toNat (IntKind.wrap .i64 (n46 - 4))*1))=some v69 ∧
 asS r67 fun s70=>asS v69 fun s71=>s70.size+s71.size≤9223372036854775807∧aa Tryz.prog ω 107 [.agg C51.toArray,(.int .i64 (IntKind.wrap .i64 (n52+1)))] h68 (fun r72 h73 =>
 af h73 (Addr.add ⟨h39.size,0,none⟩ (Int.toNat (IntKind.wrap .i64 (n46 - 4))*1))=some v69∧af h73 (Addr.add ⟨h.size,0,none⟩ 0)=some v45∧asS r72 fun s74=>ByteArray.size (s70++s71)+s74.size≤9223372036854775807∧J23 (.string ((s70++s71)++s74)) h73) X) X) ∧
(0≤((IntKind.wrap .i64 (n46 - 4)):Int)∧(IntKind.wrap .i64 (n46 - 4)) < (5:Int)∧(aa Tryz.prog ω 107 [.agg C44.toArray,uh] (h39.push (az)) (fun r75 h76 =>
 aj h76 (Addr.add a48 (Int.toNat 1*4)) 4 C51∧af h76 (Addr.add ⟨h.size,0,none⟩ 3)=some v47∧af h76 (Addr.add ⟨h.size,0,none⟩ 0)=some v45∧∃v77,af h76 (Addr.add ⟨h39.size,0,none⟩ (Int.toNat (IntKind.wrap .i64 (n46 - 4))*1))=some v77 ∧
 asS r75 fun s78=>asS v77 fun s79=>s78.size+s79.size≤9223372036854775807∧aa Tryz.prog ω 107 [.agg C51.toArray,(.int .i64 (IntKind.wrap .i64 (n52+1)))] h76 (fun r80 h81 =>
 af h81 (Addr.add ⟨h39.size,0,none⟩ (Int.toNat (IntKind.wrap .i64 (n46 - 4))*1))=some v77∧af h81 (Addr.add ⟨h.size,0,none⟩ 0)=some v45∧asS r80 fun s82=>ByteArray.size (s78++s79)+s82.size≤9223372036854775807∧J23 (.string ((s78++s79)++s82)) h81) X) X) ∧
(∃v83,af (h39.push (az)) (Addr.add ⟨h39.size,0,none⟩ (Int.toNat (IntKind.wrap .i64 (n46 - 4))*1))=some v83 ∧
 aa Tryz.prog ω 107 [.agg C44.toArray,uh] (h39.push (az)) (fun r84 h85 =>
 aj h85 (Addr.add a48 (Int.toNat 1*4)) 4 C51∧af h85 (Addr.add ⟨h.size,0,none⟩ 3)=some v47∧af h85 (Addr.add ⟨h.size,0,none⟩ 0)=some v45∧asS r84 fun s86=>asS v83 fun s87=>s86.size+s87.size≤9223372036854775807∧aa Tryz.prog ω 107 [.agg C51.toArray,(.int .i64 (IntKind.wrap .i64 (n52+1)))] h85 (fun r88 h89 =>
 af h89 (Addr.add ⟨h.size,0,none⟩ 0)=some v45∧asS r88 fun s90=>ByteArray.size (s86++s87)+s90.size≤9223372036854775807∧J23 (.string ((s86++s87)++s90)) h89) X) X))))) ∧
 ∀Lj (d25:Nat→Value) (h26:Hp),J23 Lj h26 →
 J17 Lj h26)) ∧
 ∀Ku (d19:Nat→Value) (h20:Hp),J17 Ku h20 →
 J9 Ku h20)) ∧
 ∀JY (d11:Nat→Value) (h12:Hp),J9 JY h12 →
 J4 JY h12) ∧
 ∀zP (d6:Nat→Value) (h7:Hp),J4 zP h7 →
 asK .i64 v2 fun n91=>asK .i64 De fun n92=>cond (decide (n91 < n92))
 (asS zP fun s93=>ByteArray.size ⟨#[40]⟩+s93.size≤9223372036854775807∧ByteArray.size (⟨#[40]⟩++s93)+ByteArray.size ⟨#[41]⟩≤9223372036854775807∧R (.string ((⟨#[40]⟩++s93)++⟨#[41]⟩)) h7)
 (R zP h7)
def kM:Ann :=
 (.T .L (.T .L (.T .L (.T (.T .L (.join [40,39,41,42,43,6,45,44,46,47,49,48,50,51,52,53,54,55,15,7,16,17,18,19,20,21,22,23,24,25,26,27,28,29,30,31,32,33,34,35,36,37,38] [6] (.one (.T .L (.join [41,42,43,6,45,44,46,47,49,48,50,51,52,53,54,55,15,7,16,17,18,19,20,21,22,23,24,25,26,27,28,29,30,31,32,33,34,35,36,37,38] [6] (.T .L (.T .L (.join [46,47,6,49,48,50,51,52,53,54,55,15,7,16,17,18,19,20,21,22,23,24,25,26,27,28,29,30,31,32,33,34,35,36,37,38] [6] (.T .L (.T .L (.join [50,51,52,53,54,55,6,15,7,16,17,18,19,20,21,22,23,24,25,26,27,28,29,30,31,32,33,34,35,36,37,38] [6] (.T .L (.T .L (.T (.T .L (.join [7] [7] (.T .L .L))) (.plan [0,1,2,3,4,7,8,9,13,14,15,16,17,18,5,6,10,11,12,19,20,21]))))))))))))))) (.T (.T .L (.T (.T .L .L) .L)) (.T .L .L))))))
theorem kw (ω:Amb)(x_p De:Value)(h:Hp)(R:RT)(X:XT)(hk:eu ω x_p De h R X):aa Tryz.prog ω 107 [x_p,De] h R X :=
 al (an:=kM) Tryz.func107 (by kernel_rfl) hk
abbrev mD:Nat:=124
def fE (ω:Amb)(c_p H3:Value)(h:Hp)(R:RT)(X:XT):Prop :=
 ∃J0:RT,
 (asS c_p fun s4=>cond (!(s4.toList==ByteArray.toList ⟨#[45]⟩))
 (J0 (.bool true) h)
 (J0 H3 h)) ∧
 ∀Ow (d2:Nat→Value) (h3:Hp),J0 Ow h3 →
 R Ow h3
def nD:Ann :=
 (.T .L (.T (.join [5,6,7,8,9,4] [4] .L) .L))
theorem nw (ω:Amb)(c_p H3:Value)(h:Hp)(R:RT)(X:XT)(hk:fE ω c_p H3 h R X):aa Tryz.prog ω 124 [c_p,H3] h R X :=
 al (an:=nD) Tryz.func124 (by kernel_rfl) hk
end Go.Proofs.YtkeeboomikkojaaGreatDoor.Sx
