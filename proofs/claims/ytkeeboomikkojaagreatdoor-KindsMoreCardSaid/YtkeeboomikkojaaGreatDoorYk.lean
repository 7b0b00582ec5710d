import Derived.Test.YtkeeboomikkojaaGreatDoorSxCore
import Derived.KernelRfl
import Derived.Test.YtkeeboomikkojaaGreatDoorProg
set_option linter.unusedVariables false
set_option maxRecDepth 100000
namespace Go.Proofs.YtkeeboomikkojaaGreatDoor.Sx
open Go Go.Sx Go.Proofs
def pN (ω:Amb)(p_p:Value)(h:Hp)(R:RT)(X:XT):Prop :=
 ∃C0,aj (Array.push (h.push (.cells (Value.cells p_p) 24 (0,0))) (.cells #[(.int .i64 0),(.int .i64 0)] 28 (0,0))) ⟨h.size,0,none⟩ 1 C0 ∧
 aa Tryz.prog ω 18 [(.agg C0.toArray)] (Array.push (h.push (.cells (Value.cells p_p) 24 (0,0))) (.cells #[(.int .i64 0),(.int .i64 0)] 28 (0,0))) (fun r1 h2 =>
 asT r1 fun T3=>asO T3[0]? fun v4=>asT r1 fun T5=>asO T5[1]? fun v6=>asA v6 fun A7=>A7.size=2∧(∀u∈A7.toList,one u)∧au (h2.push (.cells #[(.int .i64 0),(.int .i64 0)] 28 (0,0))) ⟨h2.size,0,none⟩ A7.toList fun h8 =>
 ∃C9,aj h8 ⟨h2.size,0,none⟩ 2 C9 ∧
 C9.toArray.size=2∧(∀u∈C9.toArray.toList,one u)∧au h8 ⟨Array.size (h.push (.cells (Value.cells p_p) 24 (0,0))),0,none⟩ C9.toArray.toList fun h10 =>
 ∃C11,aj h10 ⟨Array.size (h.push (.cells (Value.cells p_p) 24 (0,0))),0,none⟩ 2 C11∧R (.agg C11.toArray) h10) X
def uS:Ann :=
 (.two .leaf (.two .leaf (.two .leaf .leaf)))
theorem uP (ω:Amb)(p_p:Value)(h:Hp)(R:RT)(X:XT)(hk:pN ω p_p h R X):aa Tryz.prog ω 10 [p_p] h R X :=
 al (an:=uS) Tryz.func10 (by kernel_rfl) hk
def rh (ω:Amb)(p_p:Value)(h:Hp)(R:RT)(X:XT):Prop :=
 ∃C0,aj (Array.push (h.push (.cells (Value.cells p_p) 24 (0,0))) (.cells #[(.int .i64 0),(.int .i64 0)] 28 (0,0))) ⟨h.size,0,none⟩ 1 C0 ∧
 aa Tryz.prog ω 16 [(.agg C0.toArray)] (Array.push (h.push (.cells (Value.cells p_p) 24 (0,0))) (.cells #[(.int .i64 0),(.int .i64 0)] 28 (0,0))) (fun r1 h2 =>
 asA r1 fun A3=>A3.size=2∧(∀u∈A3.toList,one u)∧au (h2.push (.cells #[(.int .i64 0),(.int .i64 0)] 28 (0,0))) ⟨h2.size,0,none⟩ A3.toList fun h4 =>
 ∃v5,ah h4 (Addr.add ⟨h2.size,0,none⟩ 0)=some v5 ∧
 asK .i64 v5 fun n6=>cond (n6 !=(0:Int))
 (∃C7,aj h4 ⟨h2.size,0,none⟩ 2 C7 ∧
 C7.toArray.size=2∧(∀u∈C7.toArray.toList,one u)∧au h4 ⟨Array.size (h.push (.cells (Value.cells p_p) 24 (0,0))),0,none⟩ C7.toArray.toList fun h8 =>
 ∃C9,aj h8 ⟨Array.size (h.push (.cells (Value.cells p_p) 24 (0,0))),0,none⟩ 2 C9∧R (.tuple #[(.slice none 0 0),(.agg C9.toArray)]) h8)
 (∃v10,ah h4 (Addr.add ⟨h.size,0,none⟩ 0)=some v10 ∧
 bz v10 fun a11 l12 c13=>∃(I14:Value→Value→Value→RT) (μ15:Value→Value→Value→Value→Hp→Nat),I14 (.int .i64 0) (.slice none 0 0) (.bool false) (.int .i64 0) h4∧∀n_16 out_17 begins_18 t20_19 (d20:Nat→Value) (h21:Hp),I14 n_16 out_17 begins_18 t20_19 h21 →
 asK .i64 t20_19 fun n22=>cond (decide ((n22:Int) < (l12:Int)))
 (aI v10 fun a23 l24 c25=>asI t20_19 fun n26=>0≤(n26:Int)∧n26 < (l24:Int)∧∃C27,aj h21 (Addr.add a23 (n26.toNat*4)) 4 C27 ∧
 C27.toArray.size=4∧(∀u∈C27.toArray.toList,one u)∧au (h21.push (.cells #[(.string ⟨#[]⟩),(.int .i64 0),(.slice none 0 0),(.slice none 0 0)] 41 (0,0))) ⟨h21.size,0,none⟩ C27.toArray.toList fun h28 =>
 ∃v29,ah h28 (Addr.add ⟨h.size,0,none⟩ 0)=some v29 ∧
 bz v29 fun a30 l31 c32=>asI t20_19 fun n33=>0≤(((0:Nat):Int):Int)∧(((0:Nat):Int):Int)≤n33∧n33≤(c32:Int)∧bO (.map (some (h28.size))) (bO n_16 (∃C34,aj (Array.push (h28.push (.map #[] 0)) (.cells #[(.slice (if c32=Int.toNat ((0:Nat):Int) then a30 else Option.map (fun y=>Addr.add y (Int.toNat ((0:Nat):Int)*4)) a30) (n33.toNat - Int.toNat ((0:Nat):Int)) (c32 - Int.toNat ((0:Nat):Int))),(.map (some (h28.size))),(.slice none 0 0),n_16,(.int .i64 0),(.int .i64 0)] 79 (0,0))) ⟨h21.size,0,none⟩ 4 C34 ∧
 asK .i64 t20_19 fun n35=>aa Tryz.prog ω 38 [(.pointer (some ⟨Array.size (h28.push (.map #[] 0)),0,none⟩)),(.agg C34.toArray),(.int .i64 (IntKind.wrap .i64 ((-2) - n35)))] (Array.push (h28.push (.map #[] 0)) (.cells #[(.slice (if c32=Int.toNat ((0:Nat):Int) then a30 else Option.map (fun y=>Addr.add y (Int.toNat ((0:Nat):Int)*4)) a30) (n33.toNat - Int.toNat ((0:Nat):Int)) (c32 - Int.toNat ((0:Nat):Int))),(.map (some (h28.size))),(.slice none 0 0),n_16,(.int .i64 0),(.int .i64 0)] 79 (0,0))) (fun r36 h37 =>
 ∃v38,ah h37 (Addr.add (Addr.add ⟨Array.size (h28.push (.map #[] 0)),0,none⟩ 4) 0)=some v38 ∧
 asK .i64 v38 fun n39=>cond (n39 !=(0:Int))
 (∃C40,aj h37 (Addr.add ⟨Array.size (h28.push (.map #[] 0)),0,none⟩ 4) 2 C40 ∧
 C40.toArray.size=2∧(∀u∈C40.toArray.toList,one u)∧au h37 ⟨Array.size (h.push (.cells (Value.cells p_p) 24 (0,0))),0,none⟩ C40.toArray.toList fun h41 =>
 ∃C42,aj h41 ⟨Array.size (h.push (.cells (Value.cells p_p) 24 (0,0))),0,none⟩ 2 C42∧R (.tuple #[(.slice none 0 0),(.agg C42.toArray)]) h41)
 (∃v43,ah h37 (Addr.add ⟨Array.size (h28.push (.map #[] 0)),0,none⟩ 3)=some v43 ∧
 ∃v44,ah h37 (Addr.add ⟨Array.size (h28.push (.map #[] 0)),0,none⟩ 2)=some v44 ∧
 bO v44 (uo Tryz.prog 50 (h37.push (.cells (List.toArray [v44]) 55 (0,0))) out_17 (.slice (some ⟨h37.size,0,none⟩) 1 1) fun w45 h46 =>
 ∃J47:RT,
 (asB begins_18 fun b51=>cond b51
 (J47 (.bool true) h46)
 (∃v52,ah h46 (Addr.add ⟨h21.size,0,none⟩ 0)=some v52 ∧
 asS v52 fun s53=>cond (s53.toList==ByteArray.toList ⟨#[109,97,105,110]⟩)
 (∃v54,ah h46 (Addr.add ⟨h21.size,0,none⟩ 2)=some v54 ∧
 bz v54 fun a55 l56 c57=>cond ((l56:Int)==(1:Int))
 (∃v58,ah h46 (Addr.add ⟨h21.size,0,none⟩ 2)=some v58 ∧
 aI v58 fun a59 l60 c61=>0≤(0:Int)∧0 < (l60:Int)∧∃v62,ah h46 (Addr.add (Addr.add a59 (Int.toNat 0*2)) 1)=some v62 ∧
 asS v62 fun s63=>J47 (.bool (s63.toList==ByteArray.toList ⟨#[114,105]⟩)) h46)
 (J47 (.bool false) h46))
 (J47 (.bool false) h46))) ∧
 ∀begins_48 (d49:Nat→Value) (h50:Hp),J47 begins_48 h50 →
 asK .i64 t20_19 fun n64=>I14 v43 w45 begins_48 (.int .i64 (IntKind.wrap .i64 (n64+1))) h50∧μ15 v43 w45 begins_48 (.int .i64 (IntKind.wrap .i64 (n64+1))) h50 < μ15 n_16 out_17 begins_18 t20_19 h21))) X)))
 (asB begins_18 fun b65=>cond (!b65)
 (2=2∧(∀u∈[(.int .i64 13),(.int .i64 (-1))],one u)∧au h21 ⟨Array.size (h.push (.cells (Value.cells p_p) 24 (0,0))),0,none⟩ [(.int .i64 13),(.int .i64 (-1))] fun h66 =>
 ∃C67,aj h66 ⟨Array.size (h.push (.cells (Value.cells p_p) 24 (0,0))),0,none⟩ 2 C67∧R (.tuple #[(.slice none 0 0),(.agg C67.toArray)]) h66)
 (2=2∧(∀u∈[(.int .i64 0),(.int .i64 0)],one u)∧au h21 ⟨Array.size (h.push (.cells (Value.cells p_p) 24 (0,0))),0,none⟩ [(.int .i64 0),(.int .i64 0)] fun h68 =>
 ∃C69,aj h68 ⟨Array.size (h.push (.cells (Value.cells p_p) 24 (0,0))),0,none⟩ 2 C69∧R (.tuple #[out_17,(.agg C69.toArray)]) h68)))) X
def wF:Ann :=
 (.two .leaf (.two .leaf (.two (.two .leaf (.two (.two (.plan [0,1,2]) .leaf) .leaf)) (.two .leaf (.two .leaf (.two (.two .leaf (.one (.loop [21,22,23,24,9,8,25,26,27,28,29,30,31,32,10,33,34,35,36,37,38,39,40,41,42,43,44,45,46,47,2,48,49,50,51,6,52,53,54,55,56,57,58,5,59,60,61,62,63,64,65,66,67,68,69,70,71,72,73,74,75,76,77,78,7,79,20] [6,5,7,20] (.two .leaf (.two (.two .leaf .leaf) (.two (.one (.two .leaf (.two .leaf (.two .leaf (.two (.two .leaf (.two (.two (.plan [0,1,2,3,4,5]) .leaf) .leaf)) (.two .leaf (.two .leaf (.join [59,60,61,62,63,64,65,66,67,68,69,70,71,72,73,74,75,76,77,78,7] [7] .leaf)))))))) .leaf)))))) (.two (.two .leaf (.two (.two .leaf .leaf) .leaf)) (.two .leaf .leaf))))))))
theorem xQ (ω:Amb)(p_p:Value)(h:Hp)(R:RT)(X:XT)(hk:rh ω p_p h R X):aa Tryz.prog ω 18 [p_p] h R X :=
 al (an:=wF) Tryz.func18 (by kernel_rfl) hk
def dD (ω:Amb)(c_p g_p at_p:Value)(h:Hp)(R:RT)(X:XT):Prop :=
 bO (.map (some (Array.size (h.push (.cells (Value.cells g_p) 41 (0,0)))))) (nnK c_p (asP c_p fun p0 =>
 ∃v1,ah (Array.push (Array.push (h.push (.cells (Value.cells g_p) 41 (0,0))) (.map #[] 0)) (.cells #[(.pointer none),(.map (some (Array.size (h.push (.cells (Value.cells g_p) 41 (0,0))))))] 124 (0,0))) (Addr.add p0 0)=some v1 ∧
 bz v1 fun a2 l3 c4=>∃(I5:RT) (μ6:Value→Hp→Nat),I5 (.int .i64 0) (Array.push (Array.push (h.push (.cells (Value.cells g_p) 41 (0,0))) (.map #[] 0)) (.cells #[(.pointer none),(.map (some (Array.size (h.push (.cells (Value.cells g_p) 41 (0,0))))))] 124 (0,0)))∧∀t19_7 (d8:Nat→Value) (h9:Hp),I5 t19_7 h9 →
 asK .i64 t19_7 fun n10=>cond (decide ((n10:Int) < (l3:Int)))
 (∃J11:Hp→Prop,
 (aI v1 fun a14 l15 c16=>asI t19_7 fun n17=>0≤(n17:Int)∧n17 < (l15:Int)∧∃C18,aj h9 (Addr.add a14 (n17.toNat*4)) 4 C18 ∧
 C18.toArray.size=4∧(∀u∈C18.toArray.toList,one u)∧au (h9.push (.cells #[(.string ⟨#[]⟩),(.int .i64 0),(.slice none 0 0),(.slice none 0 0)] 41 (0,0))) ⟨h9.size,0,none⟩ C18.toArray.toList fun h19 =>
 ∃v20,ah h19 (Addr.add ⟨h9.size,0,none⟩ 0)=some v20 ∧
 ∃v21,ah h19 (Addr.add ⟨h.size,0,none⟩ 0)=some v21 ∧
 asS v20 fun s22=>asS v21 fun s23=>∃J24:Hp→Prop,
 (cond (s22.toList==s23.toList)
 (aa Tryz.prog ω 70 [c_p,(.int .i64 9),at_p] h19 (fun r27 h28 =>
 J24 h28) X)
 (J24 h19)) ∧
 ∀(d25:Nat→Value) (h26:Hp),J24 h26 →
 J11 h26) ∧
 ∀(d12:Nat→Value) (h13:Hp),J11 h13 →
 asK .i64 t19_7 fun n29=>I5 (.int .i64 (IntKind.wrap .i64 (n29+1))) h13∧μ6 (.int .i64 (IntKind.wrap .i64 (n29+1))) h13 < μ6 t19_7 h9)
 (∃v30,ah h9 (Addr.add ⟨h.size,0,none⟩ 2)=some v30 ∧
 bz v30 fun a31 l32 c33=>∃(I34:RT) (μ35:Value→Hp→Nat),I34 (.int .i64 0) h9∧∀t35_36 (d37:Nat→Value) (h38:Hp),I34 t35_36 h38 →
 asK .i64 t35_36 fun n39=>cond (decide ((n39:Int) < (l32:Int)))
 (aI v30 fun a40 l41 c42=>asI t35_36 fun n43=>0≤(n43:Int)∧n43 < (l41:Int)∧∃C44,aj h38 (Addr.add a40 (n43.toNat*2)) 2 C44 ∧
 C44.toArray.size=2∧(∀u∈C44.toArray.toList,one u)∧au (h38.push (.cells #[(.string ⟨#[]⟩),(.string ⟨#[]⟩)] 32 (0,0))) ⟨h38.size,0,none⟩ C44.toArray.toList fun h45 =>
 ∃v46,ah h45 (Addr.add ⟨h38.size,0,none⟩ 0)=some v46 ∧
 ∃v47,ah h45 (Addr.add ⟨h38.size,0,none⟩ 1)=some v47 ∧
 bO v46 (bO v47 (aa Tryz.prog ω 71 [c_p,(.pointer (some ⟨Array.size (Array.push (h.push (.cells (Value.cells g_p) 41 (0,0))) (.map #[] 0)),0,none⟩)),(.agg #[v46,v47]),at_p] h45 (fun r48 h49 =>
 asK .i64 t35_36 fun n50=>I34 (.int .i64 (IntKind.wrap .i64 (n50+1))) h49∧μ35 (.int .i64 (IntKind.wrap .i64 (n50+1))) h49 < μ35 t35_36 h38) X)))
 (∃v51,ah h38 (Addr.add ⟨h.size,0,none⟩ 3)=some v51 ∧
 aa Tryz.prog ω 72 [c_p,(.pointer (some ⟨Array.size (Array.push (h.push (.cells (Value.cells g_p) 41 (0,0))) (.map #[] 0)),0,none⟩)),v51] h38 (fun r52 h53 =>
 nnK c_p (asP c_p fun p54 =>
 ∃v55,ah h53 (Addr.add p54 2)=some v55 ∧
 bz v55 fun a56 l57 c58=>∃J59:Hp→Prop,
 (cond (decide (((l57:Int):Int) > 30))
 (aa Tryz.prog ω 70 [c_p,(.int .i64 8),at_p] h53 (fun r62 h63 =>
 J59 h63) X)
 (J59 h53)) ∧
 ∀(d60:Nat→Value) (h61:Hp),J59 h61 →
 R (.tuple #[]) h61)) X))))
def kn:Ann :=
 (.two .leaf (.two .leaf (.two (.two .leaf (.one (.loop [20,21,22,8,23,24,25,26,27,28,29,30,31,19] [19] (.two .leaf (.two (.two .leaf .leaf) (.two (.join [21,22,8,23,24,25,26,27,28,29,30] [] (.one (.two .leaf (.two .leaf (.join [28,29,30] [] (.two .leaf .leaf)))))) .leaf)))))) (.two (.two .leaf (.one (.loop [36,37,38,10,39,40,41,42,43,44,45,46,47,48,35] [35] (.two .leaf (.two (.two .leaf .leaf) (.two (.one (.two .leaf .leaf)) .leaf)))))) (.two .leaf (.two .leaf (.join [60,61,62] [] (.two .leaf .leaf))))))))
theorem jX (ω:Amb)(c_p g_p at_p:Value)(h:Hp)(R:RT)(X:XT)(hk:dD ω c_p g_p at_p h R X):aa Tryz.prog ω 38 [c_p,g_p,at_p] h R X :=
 al (an:=kn) Tryz.func38 (by kernel_rfl) hk
def ef (ω:Amb)(c_p code_p at_p:Value)(h:Hp)(R:RT)(X:XT):Prop :=
 nnK c_p (asP c_p fun p0 =>
 ∃v1,ah h (Addr.add (Addr.add p0 4) 0)=some v1 ∧
 asK .i64 v1 fun n2=>∃J3:Hp→Prop,
 (cond (n2==(0:Int))
 (bO code_p (bO at_p (nnK c_p (asP c_p fun p6 =>
 2=2∧(∀u∈[code_p,at_p],one u)∧au h (Addr.add p6 4) [code_p,at_p] fun h7 =>
 J3 h7))))
 (J3 h)) ∧
 ∀(d4:Nat→Value) (h5:Hp),J3 h5 →
 R (.tuple #[]) h5)
def lH:Ann :=
 (.two .leaf (.join [12,13,14,15,16,17] [] (.two .leaf .leaf)))
theorem lT (ω:Amb)(c_p code_p at_p:Value)(h:Hp)(R:RT)(X:XT)(hk:ef ω c_p code_p at_p h R X):aa Tryz.prog ω 70 [c_p,code_p,at_p] h R X :=
 al (an:=lH) Tryz.func70 (by kernel_rfl) hk
def ej (ω:Amb)(c_p s_p v_p at_p:Value)(h:Hp)(R:RT)(X:XT):Prop :=
 nnK c_p (asP c_p fun p0 =>
 ∃v1,ah (h.push (.cells (Value.cells v_p) 56 (0,0))) (Addr.add p0 1)=some v1 ∧
 ∃v2,ah (h.push (.cells (Value.cells v_p) 56 (0,0))) (Addr.add ⟨h.size,0,none⟩ 0)=some v2 ∧
 gC Tryz.prog 77 (h.push (.cells (Value.cells v_p) 56 (0,0))) v1 v2 false fun w3 h4 =>
 asK .i64 w3 fun n5=>∃J6:Hp→Prop,
 (cond (decide ((n5:Int) > 0))
 (aa Tryz.prog ω 70 [c_p,(.int .i64 9),at_p] h4 (fun r9 h10 =>
 J6 h10) X)
 (J6 h4)) ∧
 ∀(d7:Nat→Value) (h8:Hp),J6 h8 →
 nnK c_p (asP c_p fun p11 =>
 ∃v12,ah h8 (Addr.add p11 1)=some v12 ∧
 ∃v13,ah h8 (Addr.add ⟨h.size,0,none⟩ 0)=some v13 ∧
 gC Tryz.prog 77 h8 v12 v13 false fun w14 h15 =>
 asK .i64 w14 fun n16=>EQ Tryz.prog 77 h15 v12 v13 (.int .i64 (IntKind.wrap .i64 (n16+1))) fun h17 =>
 nnK c_p (asP c_p fun p18 =>
 ∃v19,ah h17 (Addr.add p18 2)=some v19 ∧
 ∃C20,aj h17 ⟨h.size,0,none⟩ 2 C20 ∧
 C20.toArray.size=2∧ah (h17.push (.cells (List.toArray (C20.toArray.toList++[])) 56 (0,0))) (Addr.add p18 2)=some v19∧uo Tryz.prog 55 (h17.push (.cells (List.toArray (C20.toArray.toList++[])) 56 (0,0))) v19 (.slice (some ⟨h17.size,0,none⟩) 1 1) fun w21 h22 =>
 nnK c_p (asP c_p fun p23 =>
 bO w21 (aE h22 (Addr.add p23 2) w21 fun h24 =>
 nnK s_p (asP s_p fun p25 =>
 ∃v26,ah h24 (Addr.add p25 1)=some v26 ∧
 ∃v27,ah h24 (Addr.add ⟨h.size,0,none⟩ 0)=some v27 ∧
 ∃C28,aj h24 ⟨h.size,0,none⟩ 2 C28 ∧
 EQ Tryz.prog 122 h24 v26 v27 (.agg C28.toArray) fun h29 =>
 R (.tuple #[]) h29))))))
def mn:Ann :=
 (.two .leaf (.two (.two (.plan [0,1,2,3,4,5,6,7]) (.join [16,17,18] [] (.two .leaf .leaf))) (.two (.plan [0,1,2,3,4,5,6,7,8]) (.two (.plan [0,1,2,3,4,5,6,7,8,9,10]) (.plan [0,1,2,3,4,5,6,7])))))
theorem lO (ω:Amb)(c_p s_p v_p at_p:Value)(h:Hp)(R:RT)(X:XT)(hk:ej ω c_p s_p v_p at_p h R X):aa Tryz.prog ω 71 [c_p,s_p,v_p,at_p] h R X :=
 al (an:=mn) Tryz.func71 (by kernel_rfl) hk
def ch (ω:Amb)(c_p s_p l_p:Value)(h:Hp)(R:RT)(X:XT):Prop :=
 ∃(I0:RT) (μ1:Value→Hp→Nat),I0 (.int .i64 0) h∧∀i_2 (d3:Nat→Value) (h4:Hp),I0 i_2 h4 →
 ∃β5:Bool,
 (bz l_p fun a7 l8 c9=>asK .i64 i_2 fun n10=>cond (decide ((n10:Int) < (l8:Int)))
 (nnK c_p (asP c_p fun p11 =>
 ∃v12,ah h4 (Addr.add (Addr.add p11 4) 0)=some v12 ∧
 asK .i64 v12 fun n13=>((.bool (n13==(0:Int))):Value)=.bool β5∧h4=h4))
 (((.bool false):Value)=.bool β5∧h4=h4)) ∧
 ∀d6:Nat→Value,
 cond β5
 (aI l_p fun a14 l15 c16=>asI i_2 fun n17=>0≤(n17:Int)∧n17 < (l15:Int)∧∃C18,aj h4 (Addr.add a14 (n17.toNat*9)) 9 C18 ∧
 aa Tryz.prog ω 96 [c_p,s_p,(.agg C18.toArray)] h4 (fun r19 h20 =>
 asK .i64 i_2 fun n21=>I0 (.int .i64 (IntKind.wrap .i64 (n21+1))) h20∧μ1 (.int .i64 (IntKind.wrap .i64 (n21+1))) h20 < μ1 i_2 h4) X)
 (R (.tuple #[]) h4)
def ki:Ann :=
 (.two .leaf (.one (.loop [7,8,9,10,11,12,13,14,15,16,17,18,21,22,23,24,25,26,27,19,20,6] [6] (.two (.two (.jb [7,8,9,10,11,12,13,14,15,16,17,18] 18 .leaf) (.two .leaf .leaf)) (.two (.one .leaf) .leaf)))))
theorem dF (ω:Amb)(c_p s_p l_p:Value)(h:Hp)(R:RT)(X:XT)(hk:ch ω c_p s_p l_p h R X):aa Tryz.prog ω 72 [c_p,s_p,l_p] h R X :=
 al (an:=ki) Tryz.func72 (by kernel_rfl) hk
def eo (ω:Amb)(c_p s_p st_p:Value)(h:Hp)(R:RT)(X:XT):Prop :=
 nnK c_p (asP c_p fun p0 =>
 ∃v1,ah (h.push (.cells (Value.cells st_p) 39 (0,0))) (Addr.add p0 3)=some v1 ∧
 nnK c_p (asP c_p fun p2 =>
 ∃v3,ah (h.push (.cells (Value.cells st_p) 39 (0,0))) (Addr.add p2 3)=some v3 ∧
 asK .i64 v3 fun n4=>nnK c_p (asP c_p fun p5 =>
 aE (h.push (.cells (Value.cells st_p) 39 (0,0))) (Addr.add p5 3) (.int .i64 (IntKind.wrap .i64 (n4+1))) fun h6 =>
 ∃C7,aj h6 ⟨h.size,0,none⟩ 9 C7 ∧
 aa Tryz.prog ω 121 [(.agg C7.toArray),(.string ⟨#[]⟩)] h6 (fun r8 h9 =>
 bz r8 fun a10 l11 c12=>∃(I13:RT) (μ14:Value→Hp→Nat),I13 (.int .i64 0) h9∧∀t27_15 (d16:Nat→Value) (h17:Hp),I13 t27_15 h17 →
 asK .i64 t27_15 fun n18=>cond (decide ((n18:Int) < (l11:Int)))
 (∃J19:Hp→Prop,
 (aI r8 fun a22 l23 c24=>asI t27_15 fun n25=>0≤(n25:Int)∧n25 < (l23:Int)∧∃C26,aj h17 (Addr.add a22 (n25.toNat*2)) 2 C26 ∧
 C26.toArray.size=2∧(∀u∈C26.toArray.toList,one u)∧au (h17.push (.cells #[(.string ⟨#[]⟩),(.string ⟨#[]⟩)] 56 (0,0))) ⟨h17.size,0,none⟩ C26.toArray.toList fun h27 =>
 ∃J28:RT,
 (nnK c_p (asP c_p fun p32 =>
 ∃v33,ah h27 (Addr.add p32 1)=some v33 ∧
 ∃v34,ah h27 (Addr.add ⟨h17.size,0,none⟩ 0)=some v34 ∧
 gC Tryz.prog 77 h27 v33 v34 false fun w35 h36 =>
 asK .i64 w35 fun n37=>cond (decide ((n37:Int) > 0))
 (J28 (.bool true) h36)
 (∃v38,ah h36 (Addr.add ⟨h.size,0,none⟩ 0)=some v38 ∧
 asK .i64 v38 fun n39=>cond (n39==(4:Int))
 (∃v40,ah h36 (Addr.add ⟨h.size,0,none⟩ 2)=some v40 ∧
 ∃v41,ah h36 (Addr.add ⟨h.size,0,none⟩ 3)=some v41 ∧
 asS v40 fun s42=>asS v41 fun s43=>J28 (.bool (s42.toList==s43.toList)) h36)
 (J28 (.bool false) h36)))) ∧
 ∀t50_29 (d30:Nat→Value) (h31:Hp),J28 t50_29 h31 →
 ∃J44:Hp→Prop,
 (asB t50_29 fun b47=>cond b47
 (aa Tryz.prog ω 70 [c_p,(.int .i64 9),v1] h31 (fun r48 h49 =>
 J44 h49) X)
 (J44 h31)) ∧
 ∀(d45:Nat→Value) (h46:Hp),J44 h46 →
 J19 h46) ∧
 ∀(d20:Nat→Value) (h21:Hp),J19 h21 →
 asK .i64 t27_15 fun n50=>I13 (.int .i64 (IntKind.wrap .i64 (n50+1))) h21∧μ14 (.int .i64 (IntKind.wrap .i64 (n50+1))) h21 < μ14 t27_15 h17)
 (∃C51,aj h17 ⟨h.size,0,none⟩ 9 C51 ∧
 aa Tryz.prog ω 122 [c_p,s_p,(.agg C51.toArray),v1] h17 (fun r52 h53 =>
 nnK c_p (asP c_p fun p54 =>
 ∃v55,ah h53 (Addr.add (Addr.add p54 4) 0)=some v55 ∧
 asK .i64 v55 fun n56=>cond (n56 !=(0:Int))
 (R (.tuple #[]) h53)
 (bO s_p (bO (.map (some (h53.size))) (∃C57,aj (Array.push (h53.push (.map #[] 0)) (.cells #[s_p,(.map (some (h53.size)))] 124 (0,0))) ⟨h.size,0,none⟩ 9 C57 ∧
 aa Tryz.prog ω 121 [(.agg C57.toArray),r52] (Array.push (h53.push (.map #[] 0)) (.cells #[s_p,(.map (some (h53.size)))] 124 (0,0))) (fun r58 h59 =>
 bz r58 fun a60 l61 c62=>∃(I63:RT) (μ64:Value→Hp→Nat),I63 (.int .i64 0) h59∧∀t74_65 (d66:Nat→Value) (h67:Hp),I63 t74_65 h67 →
 asK .i64 t74_65 fun n68=>cond (decide ((n68:Int) < (l61:Int)))
 (∃J69:Hp→Prop,
 (aI r58 fun a72 l73 c74=>asI t74_65 fun n75=>0≤(n75:Int)∧n75 < (l73:Int)∧∃C76,aj h67 (Addr.add a72 (n75.toNat*2)) 2 C76 ∧
 C76.toArray.size=2∧(∀u∈C76.toArray.toList,one u)∧au (h67.push (.cells #[(.string ⟨#[]⟩),(.string ⟨#[]⟩)] 56 (0,0))) ⟨h67.size,0,none⟩ C76.toArray.toList fun h77 =>
 ∃β78:Bool,
 (∃v80,ah h77 (Addr.add ⟨h.size,0,none⟩ 0)=some v80 ∧
 asK .i64 v80 fun n81=>cond (n81==(11:Int))
 (((.bool true):Value)=.bool β78∧h77=h77)
 (∃v82,ah h77 (Addr.add ⟨h.size,0,none⟩ 0)=some v82 ∧
 asK .i64 v82 fun n83=>((.bool (n83==(12:Int))):Value)=.bool β78∧h77=h77)) ∧
 ∀d79:Nat→Value,
 ∃J84:Hp→Prop,
 (cond β78
 (∃C87,aj h77 ⟨h67.size,0,none⟩ 2 C87 ∧
 aa Tryz.prog ω 71 [c_p,(.pointer (some ⟨Array.size (h53.push (.map #[] 0)),0,none⟩)),(.agg C87.toArray),v1] h77 (fun r88 h89 =>
 J84 h89) X)
 (∃C90,aj h77 ⟨h67.size,0,none⟩ 2 C90 ∧
 aa Tryz.prog ω 71 [c_p,s_p,(.agg C90.toArray),v1] h77 (fun r91 h92 =>
 J84 h92) X)) ∧
 ∀(d85:Nat→Value) (h86:Hp),J84 h86 →
 J69 h86) ∧
 ∀(d70:Nat→Value) (h71:Hp),J69 h71 →
 asK .i64 t74_65 fun n93=>I63 (.int .i64 (IntKind.wrap .i64 (n93+1))) h71∧μ64 (.int .i64 (IntKind.wrap .i64 (n93+1))) h71 < μ64 t74_65 h67)
 (∃v94,ah h67 (Addr.add ⟨h.size,0,none⟩ 7)=some v94 ∧
 aa Tryz.prog ω 72 [c_p,(.pointer (some ⟨Array.size (h53.push (.map #[] 0)),0,none⟩)),v94] h67 (fun r95 h96 =>
 bO s_p (bO (.map (some (h96.size))) (∃v97,ah (Array.push (h96.push (.map #[] 0)) (.cells #[s_p,(.map (some (h96.size)))] 124 (0,0))) (Addr.add ⟨h.size,0,none⟩ 8)=some v97 ∧
 aa Tryz.prog ω 72 [c_p,(.pointer (some ⟨Array.size (h96.push (.map #[] 0)),0,none⟩)),v97] (Array.push (h96.push (.map #[] 0)) (.cells #[s_p,(.map (some (h96.size)))] 124 (0,0))) (fun r98 h99 =>
 R (.tuple #[]) h99) X))) X)) X))))) X)) X)))
def mu:Ann :=
 (.two .leaf (.two .leaf (.two .leaf (.two (.two .leaf (.one (.loop [28,29,30,8,31,32,33,34,35,36,37,38,39,40,41,42,43,44,45,46,47,48,49,50,51,52,53,54,27] [27] (.two .leaf (.two (.two .leaf .leaf) (.two (.join [29,30,8,31,32,33,34,35,36,37,38,39,40,41,42,43,44,45,46,47,48,49,50,51,52,53] [] (.one (.two .leaf (.two (.join [31,32,33,34,35,36,37,38,39,40,41,42,43,44,45,46,47,48,49,50] [50] (.plan [0,1,2,3,4,5,6,7,8,9,10,11,12,13,14,15,16,17,18,19])) (.join [51,52,53] [] (.two .leaf .leaf)))))) .leaf)))))) (.two .leaf (.two (.two .leaf (.two .leaf .leaf)) (.two .leaf (.two (.two .leaf (.one (.loop [75,76,77,12,78,79,80,81,82,83,84,85,86,87,88,89,90,91,92,93,94,95,96,74] [74] (.two .leaf (.two (.two .leaf .leaf) (.two (.join [76,77,12,78,79,80,81,82,83,84,85,86,87,88,89,90,91,92,93,94,95] [] (.one (.two .leaf (.two (.jb [78,79,80,81,82,83,84,85] 85 .leaf) (.join [86,87,88,89,90,91,92,93,94,95] [] (.two .leaf .leaf)))))) .leaf)))))) (.two .leaf .leaf)))))))))
theorem lq (ω:Amb)(c_p s_p st_p:Value)(h:Hp)(R:RT)(X:XT)(hk:eo ω c_p s_p st_p h R X):aa Tryz.prog ω 96 [c_p,s_p,st_p] h R X :=
 al (an:=mu) Tryz.func96 (by kernel_rfl) hk
def pG (ω:Amb)(s_p elem_p:Value)(h:Hp)(R:RT)(X:XT):Prop :=
 ∃v0,ah (h.push (.cells (Value.cells s_p) 39 (0,0))) (Addr.add ⟨h.size,0,none⟩ 0)=some v0 ∧
 asK .i64 v0 fun n1=>cond (n1==(1:Int))
 (∃v2,ah (h.push (.cells (Value.cells s_p) 39 (0,0))) (Addr.add ⟨h.size,0,none⟩ 2)=some v2 ∧
 bO v2 (2=2∧R (.slice (some ⟨Array.size (h.push (.cells (Value.cells s_p) 39 (0,0))),0,none⟩) 1 1) (Array.push (h.push (.cells (Value.cells s_p) 39 (0,0))) (.cells (List.toArray [v2,(.string ⟨#[105]⟩)]) 56 (0,0)))))
 (asK .i64 v0 fun n3=>cond (n3==(4:Int))
 (∃v4,ah (h.push (.cells (Value.cells s_p) 39 (0,0))) (Addr.add ⟨h.size,0,none⟩ 2)=some v4 ∧
 ∃v5,ah (h.push (.cells (Value.cells s_p) 39 (0,0))) (Addr.add ⟨h.size,0,none⟩ 4)=some v5 ∧
 asS v5 fun s6=>ByteArray.size ⟨#[115]⟩+s6.size≤9223372036854775807∧bO v4 (∃v7,ah (h.push (.cells (Value.cells s_p) 39 (0,0))) (Addr.add ⟨h.size,0,none⟩ 3)=some v7 ∧
 ∃v8,ah (h.push (.cells (Value.cells s_p) 39 (0,0))) (Addr.add ⟨h.size,0,none⟩ 4)=some v8 ∧
 asS v8 fun s9=>ByteArray.size ⟨#[114]⟩+s9.size≤9223372036854775807∧bO v7 (2=2∧2=2∧R (.slice (some ⟨Array.size (h.push (.cells (Value.cells s_p) 39 (0,0))),0,none⟩) 2 2) (Array.push (h.push (.cells (Value.cells s_p) 39 (0,0))) (.cells (List.toArray [v4,(.string (⟨#[115]⟩++s6)),v7,(.string (⟨#[114]⟩++s9))]) 56 (0,0))))))
 (asK .i64 v0 fun n10=>∃J11:RT,
 (cond (n10==(5:Int))
 (J11 (.bool (n10==(5:Int))) (h.push (.cells (Value.cells s_p) 39 (0,0))))
 (asK .i64 v0 fun n15=>∃J16:RT,
 (cond (n15==(11:Int))
 (J16 (.bool (n15==(11:Int))) (h.push (.cells (Value.cells s_p) 39 (0,0))))
 (asK .i64 v0 fun n20=>J16 (.bool (n20==(12:Int))) (h.push (.cells (Value.cells s_p) 39 (0,0))))) ∧
 ∀t28_17 (d18:Nat→Value) (h19:Hp),J16 t28_17 h19 →
 J11 t28_17 h19)) ∧
 ∀t28_12 (d13:Nat→Value) (h14:Hp),J11 t28_12 h14 →
 asB t28_12 fun b21=>cond b21
 (∃v22,ah h14 (Addr.add ⟨h.size,0,none⟩ 2)=some v22 ∧
 bO v22 (bO elem_p (2=2∧R (.slice (some ⟨h14.size,0,none⟩) 1 1) (h14.push (.cells (List.toArray [v22,elem_p]) 56 (0,0))))))
 (R (.slice none 0 0) h14)))
def uB:Ann :=
 (.two .leaf (.two (.two .leaf (.one (.two .leaf (.two (.two .leaf .leaf) (.two .leaf (.two (.two .leaf .leaf) (.two (.two .leaf (.join [30,28,31] [28] (.two .leaf (.two .leaf (.join [31,28] [28] (.two .leaf .leaf)))))) (.two (.two .leaf .leaf) .leaf)))))))) (.two .leaf .leaf)))
theorem vH (ω:Amb)(s_p elem_p:Value)(h:Hp)(R:RT)(X:XT)(hk:pG ω s_p elem_p h R X):aa Tryz.prog ω 121 [s_p,elem_p] h R X :=
 al (an:=uB) Tryz.func121 (by kernel_rfl) hk
def eK (ω:Amb)(c_p s_p st_p at_p:Value)(h:Hp)(R:RT)(X:XT):Prop :=
 ∃C0,aj (h.push (.cells (Value.cells st_p) 39 (0,0))) ⟨h.size,0,none⟩ 9 C0 ∧
 aa Tryz.prog ω 141 [c_p,s_p,(.agg C0.toArray),at_p] (h.push (.cells (Value.cells st_p) 39 (0,0))) (fun r1 h2 =>
 nnK c_p (asP c_p fun p3 =>
 ∃v4,ah h2 (Addr.add (Addr.add p3 4) 0)=some v4 ∧
 asK .i64 v4 fun n5=>cond (n5 !=(0:Int))
 (R (.string ⟨#[]⟩) h2)
 (∃v6,ah h2 (Addr.add ⟨h.size,0,none⟩ 0)=some v6 ∧
 ∃J7:Hp→Prop,
 (asK .i64 v6 fun n10=>∃J11:Hp→Prop,
 (cond (n10==(2:Int))
 (∃v14,ah h2 (Addr.add ⟨h.size,0,none⟩ 2)=some v14 ∧
 aa Tryz.prog ω 142 [c_p,s_p,v14,(.string ⟨#[105]⟩),at_p] h2 (fun r15 h16 =>
 ∃v17,ah h16 (Addr.add ⟨h.size,0,none⟩ 6)=some v17 ∧
 aI v17 fun a18 l19 c20=>0≤(0:Int)∧0 < (l19:Int)∧∃C21,aj h16 (Addr.add a18 (Int.toNat 0*4)) 4 C21 ∧
 aa Tryz.prog ω 143 [c_p,s_p,(.agg C21.toArray),at_p] h16 (fun r22 h23 =>
 J11 h23) X) X)
 (asK .i64 v6 fun n24=>∃J25:RT,
 (cond (n24==(1:Int))
 (J25 (.bool (n24==(1:Int))) h2)
 (asK .i64 v6 fun n29=>∃J30:RT,
 (cond (n29==(3:Int))
 (J30 (.bool (n29==(3:Int))) h2)
 (asK .i64 v6 fun n34=>∃J35:RT,
 (cond (n34==(13:Int))
 (J35 (.bool (n34==(13:Int))) h2)
 (asK .i64 v6 fun n39=>J35 (.bool (n39==(14:Int))) h2)) ∧
 ∀t39_36 (d37:Nat→Value) (h38:Hp),J35 t39_36 h38 →
 J30 t39_36 h38)) ∧
 ∀t39_31 (d32:Nat→Value) (h33:Hp),J30 t39_31 h33 →
 J25 t39_31 h33)) ∧
 ∀t39_26 (d27:Nat→Value) (h28:Hp),J25 t39_26 h28 →
 ∃J40:Hp→Prop,
 (asB t39_26 fun b43=>cond b43
 (∃v44,ah h28 (Addr.add ⟨h.size,0,none⟩ 6)=some v44 ∧
 aI v44 fun a45 l46 c47=>0≤(0:Int)∧0 < (l46:Int)∧∃C48,aj h28 (Addr.add a45 (Int.toNat 0*4)) 4 C48 ∧
 aa Tryz.prog ω 143 [c_p,s_p,(.agg C48.toArray),at_p] h28 (fun r49 h50 =>
 J40 h50) X)
 (asK .i64 v6 fun n51=>∃J52:Hp→Prop,
 (cond (n51==(6:Int))
 (∃v55,ah h28 (Addr.add ⟨h.size,0,none⟩ 6)=some v55 ∧
 aI v55 fun a56 l57 c58=>0≤(0:Int)∧0 < (l57:Int)∧∃C59,aj h28 (Addr.add a56 (Int.toNat 0*4)) 4 C59 ∧
 aa Tryz.prog ω 144 [c_p,s_p,(.agg C59.toArray),r1,at_p] h28 (fun r60 h61 =>
 J52 h61) X)
 (asK .i64 v6 fun n62=>∃J63:Hp→Prop,
 (cond (n62==(10:Int))
 (∃C66,aj h28 ⟨h.size,0,none⟩ 9 C66 ∧
 aa Tryz.prog ω 145 [c_p,s_p,(.agg C66.toArray),at_p] h28 (fun r67 h68 =>
 J63 h68) X)
 (asK .i64 v6 fun n69=>∃J70:Hp→Prop,
 (cond (n69==(4:Int))
 (∃β73:Bool,
 (∃v75,ah h28 (Addr.add ⟨h.size,0,none⟩ 5)=some v75 ∧
 asK .i64 v75 fun n76=>cond (decide ((n76:Int) < 1))
 (((.bool true):Value)=.bool β73∧h28=h28)
 (∃v77,ah h28 (Addr.add ⟨h.size,0,none⟩ 5)=some v77 ∧
 asK .i64 v77 fun n78=>((.bool (decide ((n78:Int) > 5))):Value)=.bool β73∧h28=h28)) ∧
 ∀d74:Nat→Value,
 ∃J79:Hp→Prop,
 (cond β73
 (aa Tryz.prog ω 70 [c_p,(.int .i64 14),at_p] h28 (fun r82 h83 =>
 J79 h83) X)
 (J79 h28)) ∧
 ∀(d80:Nat→Value) (h81:Hp),J79 h81 →
 ∃v84,ah h81 (Addr.add ⟨h.size,0,none⟩ 4)=some v84 ∧
 asS v84 fun s85=>∃J86:Hp→Prop,
 (cond (decide (((s85.size:Int):Int) > 3))
 (aa Tryz.prog ω 70 [c_p,(.int .i64 11),at_p] h81 (fun r89 h90 =>
 J86 h90) X)
 (J86 h81)) ∧
 ∀(d87:Nat→Value) (h88:Hp),J86 h88 →
 J70 h88)
 (J70 h28)) ∧
 ∀(d71:Nat→Value) (h72:Hp),J70 h72 →
 J63 h72)) ∧
 ∀(d64:Nat→Value) (h65:Hp),J63 h65 →
 J52 h65)) ∧
 ∀(d53:Nat→Value) (h54:Hp),J52 h54 →
 J40 h54)) ∧
 ∀(d41:Nat→Value) (h42:Hp),J40 h42 →
 J11 h42)) ∧
 ∀(d12:Nat→Value) (h13:Hp),J11 h13 →
 J7 h13) ∧
 ∀(d8:Nat→Value) (h9:Hp),J7 h9 →
 R r1 h9))) X
def lN:Ann :=
 (.two .leaf (.two .leaf (.two (.two .leaf (.two (.two .leaf .leaf) .leaf)) (.two (.two .leaf (.join [24,23,25,26,27,28,29,30,31,32,33,34,35,36,37,38,40,39,41,42,43,44,45,46,47,48,49,50,51,53,52,54,55,56,57,58,59,60,61,62,64,63,65,66,67,68,69,71,70,72,73,74,75,76,77,78,79,80,81,82,83,84,85,86,87,88,89] [] (.one (.two .leaf (.join [25,26,27,28,29,30,31,32,33,34,35,36,37,38,40,39,41,42,43,44,45,46,47,48,49,50,51,53,52,54,55,56,57,58,59,60,61,62,64,63,65,66,67,68,69,71,70,72,73,74,75,76,77,78,79,80,81,82,83,84,85,86,87,88,89] [] (.two (.two .leaf .leaf) (.two (.two .leaf (.join [41,39,42,43] [39] (.two .leaf (.two .leaf (.join [42,39,43] [39] (.two .leaf (.two .leaf (.join [43,39] [39] (.two .leaf .leaf))))))))) (.join [44,45,46,47,48,49,50,51,53,52,54,55,56,57,58,59,60,61,62,64,63,65,66,67,68,69,71,70,72,73,74,75,76,77,78,79,80,81,82,83,84,85,86,87,88,89] [] (.two .leaf (.two .leaf (.join [54,55,56,57,58,59,60,61,62,64,63,65,66,67,68,69,71,70,72,73,74,75,76,77,78,79,80,81,82,83,84,85,86,87,88,89] [] (.two .leaf (.two .leaf (.join [65,66,67,68,69,71,70,72,73,74,75,76,77,78,79,80,81,82,83,84,85,86,87,88,89] [] (.two .leaf (.two .leaf (.join [72,73,74,75,76,77,78,79,80,81,82,83,84,85,86,87,88,89] [] (.two (.two (.two (.jb [72,73,74,75,76,77,78,79] 79 .leaf) (.join [80,81,82] [] (.two .leaf .leaf))) (.two .leaf (.join [87,88,89] [] (.two .leaf .leaf)))) .leaf)))))))))))))))))) (.two .leaf .leaf)))))
theorem mj (ω:Amb)(c_p s_p st_p at_p:Value)(h:Hp)(R:RT)(X:XT)(hk:eK ω c_p s_p st_p at_p h R X):aa Tryz.prog ω 122 [c_p,s_p,st_p,at_p] h R X :=
 al (an:=lN) Tryz.func122 (by kernel_rfl) hk
def fN (ω:Amb)(c_p s_p st_p at_p:Value)(h:Hp)(R:RT)(X:XT):Prop :=
 ∃v0,ah (h.push (.cells (Value.cells st_p) 39 (0,0))) (Addr.add ⟨h.size,0,none⟩ 2)=some v0 ∧
 ∃v1,ah (h.push (.cells (Value.cells st_p) 39 (0,0))) (Addr.add ⟨h.size,0,none⟩ 0)=some v1 ∧
 ∃J2:Value→RT,
 (asK .i64 v1 fun n7=>∃J8:Value→RT,
 (cond (n7==(5:Int))
 (∃v13,ah (h.push (.cells (Value.cells st_p) 39 (0,0))) (Addr.add ⟨h.size,0,none⟩ 3)=some v13 ∧
 J8 v13 (.string ⟨#[115]⟩) (h.push (.cells (Value.cells st_p) 39 (0,0))))
 (asK .i64 v1 fun n14=>∃J15:RT,
 (cond (n14==(6:Int))
 (J15 (.bool (n14==(6:Int))) (h.push (.cells (Value.cells st_p) 39 (0,0))))
 (asK .i64 v1 fun n19=>J15 (.bool (n19==(7:Int))) (h.push (.cells (Value.cells st_p) 39 (0,0))))) ∧
 ∀t20_16 (d17:Nat→Value) (h18:Hp),J15 t20_16 h18 →
 ∃J20:Value→RT,
 (asB t20_16 fun b25=>cond b25
 (J20 (.string ⟨#[115]⟩) v0 h18)
 (asK .i64 v1 fun n26=>∃J27:RT,
 (cond (n26==(8:Int))
 (J27 (.bool (n26==(8:Int))) h18)
 (asK .i64 v1 fun n31=>J27 (.bool (n31==(9:Int))) h18)) ∧
 ∀t23_28 (d29:Nat→Value) (h30:Hp),J27 t23_28 h30 →
 ∃J32:Value→RT,
 (asB t23_28 fun b37=>cond b37
 (J32 (.string ⟨#[114]⟩) v0 h30)
 (asK .i64 v1 fun n38=>∃J39:RT,
 (cond (n38==(11:Int))
 (J39 (.bool (n38==(11:Int))) h30)
 (asK .i64 v1 fun n43=>J39 (.bool (n43==(12:Int))) h30)) ∧
 ∀t26_40 (d41:Nat→Value) (h42:Hp),J39 t26_40 h42 →
 asB t26_40 fun b44=>cond b44
 (∃v45,ah h42 (Addr.add ⟨h.size,0,none⟩ 3)=some v45 ∧
 J32 (.string ⟨#[114]⟩) v45 h42)
 (R (.string ⟨#[]⟩) h42))) ∧
 ∀begins_33 name_34 (d35:Nat→Value) (h36:Hp),J32 begins_33 name_34 h36 →
 J20 begins_33 name_34 h36)) ∧
 ∀begins_21 name_22 (d23:Nat→Value) (h24:Hp),J20 begins_21 name_22 h24 →
 J8 name_22 begins_21 h24)) ∧
 ∀name_9 begins_10 (d11:Nat→Value) (h12:Hp),J8 name_9 begins_10 h12 →
 J2 name_9 begins_10 h12) ∧
 ∀name_3 begins_4 (d5:Nat→Value) (h6:Hp),J2 name_3 begins_4 h6 →
 aa Tryz.prog ω 142 [c_p,s_p,name_3,begins_4,at_p] h6 (fun r46 h47 =>
 ∃β48:Bool,
 (asS r46 fun s50=>cond (s50.toList==ByteArray.toList ⟨#[]⟩)
 (((.bool true):Value)=.bool β48∧h47=h47)
 (∃v51,ah h47 (Addr.add ⟨h.size,0,none⟩ 0)=some v51 ∧
 asK .i64 v51 fun n52=>((.bool (n52==(5:Int))):Value)=.bool β48∧h47=h47)) ∧
 ∀d49:Nat→Value,
 cond β48
 (R r46 h47)
 (asS r46 fun s53=>0≤(1:Int)∧(1:Int)≤(s53.size:Int)∧(s53.size:Int)≤(s53.size:Int)∧R (.string (ByteArray.extract s53 (Int.toNat 1) (Int.toNat (s53.size:Int)))) h47)) X
def mE:Ann :=
 (.two .leaf (.two .leaf (.two (.two .leaf (.join [17,16,18,19,9,21,20,22,24,23,25,10,27,26,28,29,30,8] [9,10] (.one (.two .leaf (.join [18,19,9,21,20,22,24,23,25,10,27,26,28,29,30,8] [9,10] (.two .leaf (.two (.two .leaf (.join [22,20] [20] (.two .leaf .leaf))) (.join [24,23,25,10,27,26,28,29,30,9,8] [10,9] (.two .leaf (.two (.two .leaf (.join [25,23] [23] (.two .leaf .leaf))) (.join [10,27,26,28,29,30,9,8] [10,9] (.two .leaf (.two (.two .leaf (.join [28,26] [26] (.two .leaf .leaf))) (.two .leaf (.two .leaf .leaf))))))))))))))) (.two .leaf (.two (.two (.jb [37,38,39,40,41,42,43] 43 .leaf) (.two (.two .leaf .leaf) .leaf)) (.two .leaf .leaf))))))
theorem nd (ω:Amb)(c_p s_p st_p at_p:Value)(h:Hp)(R:RT)(X:XT)(hk:fN ω c_p s_p st_p at_p h R X):aa Tryz.prog ω 141 [c_p,s_p,st_p,at_p] h R X :=
 al (an:=mE) Tryz.func141 (by kernel_rfl) hk
def fO (ω:Amb)(c_p s_p name_p begins_p at_p:Value)(h:Hp)(R:RT)(X:XT):Prop :=
 aa Tryz.prog ω 155 [s_p,name_p] h (fun r0 h1 =>
 asT r0 fun T2=>asO T2[0]? fun v3=>asT r0 fun T4=>asO T4[1]? fun v5=>asB v5 fun b6=>cond (!b6)
 (aa Tryz.prog ω 70 [c_p,(.int .i64 10),at_p] h1 (fun r7 h8 =>
 R (.string ⟨#[]⟩) h8) X)
 (asS begins_p fun s9=>asS v3 fun s10=>0≤(((0:Nat):Int):Int)∧(((0:Nat):Int):Int)≤(s9.size:Int)∧(s9.size:Int)≤(s10.size:Int)∧asS begins_p fun s11=>cond (!(ByteArray.toList (ByteArray.extract s10 (Int.toNat ((0:Nat):Int)) (Int.toNat (s9.size:Int)))==s11.toList))
 (aa Tryz.prog ω 70 [c_p,(.int .i64 11),at_p] h1 (fun r12 h13 =>
 R (.string ⟨#[]⟩) h13) X)
 (R v3 h1))) X
def nw:Ann :=
 (.two .leaf (.two .leaf (.two (.two .leaf (.two (.two .leaf (.two .leaf .leaf)) .leaf)) (.two (.two .leaf (.two (.two .leaf (.two .leaf .leaf)) .leaf)) (.two .leaf .leaf)))))
theorem nF (ω:Amb)(c_p s_p name_p begins_p at_p:Value)(h:Hp)(R:RT)(X:XT)(hk:fO ω c_p s_p name_p begins_p at_p h R X):aa Tryz.prog ω 142 [c_p,s_p,name_p,begins_p,at_p] h R X :=
 al (an:=nw) Tryz.func142 (by kernel_rfl) hk
def dq (ω:Amb)(c_p s_p x_p at_p:Value)(h:Hp)(R:RT)(X:XT):Prop :=
 ∃v0,ah (h.push (.cells (Value.cells x_p) 36 (0,0))) (Addr.add ⟨h.size,0,none⟩ 0)=some v0 ∧
 asK .i64 v0 fun n1=>∃J2:Hp→Prop,
 (cond (n1==(2:Int))
 (∃v5,ah (h.push (.cells (Value.cells x_p) 36 (0,0))) (Addr.add ⟨h.size,0,none⟩ 1)=some v5 ∧
 aa Tryz.prog ω 142 [c_p,s_p,v5,(.string ⟨#[105]⟩),at_p] (h.push (.cells (Value.cells x_p) 36 (0,0))) (fun r6 h7 =>
 J2 h7) X)
 (J2 (h.push (.cells (Value.cells x_p) 36 (0,0))))) ∧
 ∀(d3:Nat→Value) (h4:Hp),J2 h4 →
 ∃v8,ah h4 (Addr.add ⟨h.size,0,none⟩ 3)=some v8 ∧
 bz v8 fun a9 l10 c11=>∃(I12:RT) (μ13:Value→Hp→Nat),I12 (.int .i64 0) h4∧∀t22_14 (d15:Nat→Value) (h16:Hp),I12 t22_14 h16 →
 asK .i64 t22_14 fun n17=>cond (decide ((n17:Int) < (l10:Int)))
 (aI v8 fun a18 l19 c20=>asI t22_14 fun n21=>0≤(n21:Int)∧n21 < (l19:Int)∧∃C22,aj h16 (Addr.add a18 (n21.toNat*4)) 4 C22 ∧
 C22.toArray.size=4∧(∀u∈C22.toArray.toList,one u)∧au (h16.push (.cells #[(.int .i64 0),(.string ⟨#[]⟩),(.int .i64 0),(.slice none 0 0)] 36 (0,0))) ⟨h16.size,0,none⟩ C22.toArray.toList fun h23 =>
 ∃C24,aj h23 ⟨h16.size,0,none⟩ 4 C24 ∧
 aa Tryz.prog ω 143 [c_p,s_p,(.agg C24.toArray),at_p] h23 (fun r25 h26 =>
 asK .i64 t22_14 fun n27=>I12 (.int .i64 (IntKind.wrap .i64 (n27+1))) h26∧μ13 (.int .i64 (IntKind.wrap .i64 (n27+1))) h26 < μ13 t22_14 h16) X)
 (R (.tuple #[]) h16)
def jA:Ann :=
 (.two .leaf (.two (.two .leaf (.join [13,14,15,16,17,18] [] (.two .leaf .leaf))) (.two .leaf (.one (.loop [23,24,25,9,26,27,28,29,30,31,22] [22] (.two .leaf (.two (.two .leaf .leaf) (.two (.one (.two .leaf .leaf)) .leaf))))))))
theorem jG (ω:Amb)(c_p s_p x_p at_p:Value)(h:Hp)(R:RT)(X:XT)(hk:dq ω c_p s_p x_p at_p h R X):aa Tryz.prog ω 143 [c_p,s_p,x_p,at_p] h R X :=
 al (an:=jA) Tryz.func143 (by kernel_rfl) hk
def dM (ω:Amb)(c_p s_p x_p t_p at_p:Value)(h:Hp)(R:RT)(X:XT):Prop :=
 asS t_p fun s0=>cond (s0.toList==ByteArray.toList ⟨#[105]⟩)
 (∃C1,aj (h.push (.cells (Value.cells x_p) 36 (0,0))) ⟨h.size,0,none⟩ 4 C1 ∧
 aa Tryz.prog ω 143 [c_p,s_p,(.agg C1.toArray),at_p] (h.push (.cells (Value.cells x_p) 36 (0,0))) (fun r2 h3 =>
 R (.tuple #[]) h3) X)
 (∃v4,ah (h.push (.cells (Value.cells x_p) 36 (0,0))) (Addr.add ⟨h.size,0,none⟩ 0)=some v4 ∧
 asK .i64 v4 fun n5=>cond (n5 !=(2:Int))
 (aa Tryz.prog ω 70 [c_p,(.int .i64 11),at_p] (h.push (.cells (Value.cells x_p) 36 (0,0))) (fun r6 h7 =>
 R (.tuple #[]) h7) X)
 (∃v8,ah (h.push (.cells (Value.cells x_p) 36 (0,0))) (Addr.add ⟨h.size,0,none⟩ 1)=some v8 ∧
 aa Tryz.prog ω 142 [c_p,s_p,v8,(.string ⟨#[]⟩),at_p] (h.push (.cells (Value.cells x_p) 36 (0,0))) (fun r9 h10 =>
 asS r9 fun s11=>asS t_p fun s12=>∃J13:Hp→Prop,
 (cond (!(s11.toList==s12.toList))
 (aa Tryz.prog ω 70 [c_p,(.int .i64 11),at_p] h10 (fun r16 h17 =>
 J13 h17) X)
 (J13 h10)) ∧
 ∀(d14:Nat→Value) (h15:Hp),J13 h15 →
 R (.tuple #[]) h15) X))
def kC:Ann :=
 (.two .leaf (.two (.two .leaf (.two (.two .leaf .leaf) .leaf)) (.two (.two .leaf (.two (.two .leaf .leaf) .leaf)) (.two .leaf (.join [31,32,33] [] (.two .leaf .leaf))))))
theorem kB (ω:Amb)(c_p s_p x_p t_p at_p:Value)(h:Hp)(R:RT)(X:XT)(hk:dM ω c_p s_p x_p t_p at_p h R X):aa Tryz.prog ω 144 [c_p,s_p,x_p,t_p,at_p] h R X :=
 al (an:=kC) Tryz.func144 (by kernel_rfl) hk
def dW (ω:Amb)(c_p s_p st_p at_p:Value)(h:Hp)(R:RT)(X:XT):Prop :=
 nnK c_p (asP c_p fun p0 =>
 ∃v1,ah (h.push (.cells (Value.cells st_p) 39 (0,0))) (Addr.add p0 0)=some v1 ∧
 aa Tryz.prog ω 156 [v1,(.func (.func 157) #[] #[(.pointer (some ⟨h.size,0,none⟩))])] (h.push (.cells (Value.cells st_p) 39 (0,0))) (fun r2 h3 =>
 asK .i64 r2 fun n4=>cond (decide ((n4:Int) < 0))
 (aa Tryz.prog ω 70 [c_p,(.int .i64 12),at_p] h3 (fun r5 h6 =>
 R (.tuple #[]) h6) X)
 (nnK c_p (asP c_p fun p7 =>
 ∃v8,ah h3 (Addr.add p7 0)=some v8 ∧
 aI v8 fun a9 l10 c11=>asI r2 fun n12=>0≤(n12:Int)∧n12 < (l10:Int)∧∃v13,ah h3 (Addr.add (Addr.add a9 (n12.toNat*4)) 2)=some v13 ∧
 bz v13 fun a14 l15 c16=>∃v17,ah h3 (Addr.add ⟨h.size,0,none⟩ 6)=some v17 ∧
 bz v17 fun a18 l19 c20=>cond ((l15:Int) !=((l19:Int):Int))
 (aa Tryz.prog ω 70 [c_p,(.int .i64 15),at_p] h3 (fun r21 h22 =>
 R (.tuple #[]) h22) X)
 (∃v23,ah h3 (Addr.add ⟨h.size,0,none⟩ 6)=some v23 ∧
 bz v23 fun a24 l25 c26=>∃(I27:RT) (μ28:Value→Hp→Nat),I27 (.int .i64 0) h3∧∀t43_29 (d30:Nat→Value) (h31:Hp),I27 t43_29 h31 →
 asK .i64 t43_29 fun n32=>cond (decide ((n32:Int) < (l25:Int)))
 (aI v23 fun a33 l34 c35=>asI t43_29 fun n36=>0≤(n36:Int)∧n36 < (l34:Int)∧∃C37,aj h31 (Addr.add a33 (n36.toNat*4)) 4 C37 ∧
 C37.toArray.size=4∧(∀u∈C37.toArray.toList,one u)∧au (h31.push (.cells #[(.int .i64 0),(.string ⟨#[]⟩),(.int .i64 0),(.slice none 0 0)] 36 (0,0))) ⟨h31.size,0,none⟩ C37.toArray.toList fun h38 =>
 ∃C39,aj h38 ⟨h31.size,0,none⟩ 4 C39 ∧
 aI v13 fun a40 l41 c42=>asI t43_29 fun n43=>0≤(n43:Int)∧n43 < (l41:Int)∧∃v44,ah h38 (Addr.add (Addr.add a40 (n43.toNat*2)) 1)=some v44 ∧
 aa Tryz.prog ω 144 [c_p,s_p,(.agg C39.toArray),v44,at_p] h38 (fun r45 h46 =>
 asK .i64 t43_29 fun n47=>I27 (.int .i64 (IntKind.wrap .i64 (n47+1))) h46∧μ28 (.int .i64 (IntKind.wrap .i64 (n47+1))) h46 < μ28 t43_29 h31) X)
 (R (.tuple #[]) h31))))) X)
def kL:Ann :=
 (.two .leaf (.two .leaf (.two (.two .leaf (.two (.two .leaf .leaf) .leaf)) (.two .leaf (.two (.two .leaf (.two (.two .leaf .leaf) .leaf)) (.two .leaf (.one (.loop [44,45,46,47,11,10,48,49,50,51,52,53,54,55,56,57,58,43] [43] (.two .leaf (.two (.two .leaf .leaf) (.two (.one (.two .leaf (.plan [0,1,2,3,4,5,6,7,8,9]))) .leaf)))))))))))
theorem j8 (ω:Amb)(c_p s_p st_p at_p:Value)(h:Hp)(R:RT)(X:XT)(hk:dW ω c_p s_p st_p at_p h R X):aa Tryz.prog ω 145 [c_p,s_p,st_p,at_p] h R X :=
 al (an:=kL) Tryz.func145 (by kernel_rfl) hk
def gk (ω:Amb)(s_p name_p:Value)(h:Hp)(R:RT)(X:XT):Prop :=
 ∃(I0:RT) (μ1:Value→Hp→Nat),I0 s_p h∧∀s_2 (d3:Nat→Value) (h4:Hp),I0 s_2 h4 →
 HK s_2 fun q5=>cond (!(Option.isNone q5))
 (nnK s_2 (asP s_2 fun p6 =>
 ∃v7,ah h4 (Addr.add p6 1)=some v7 ∧
 gC Tryz.prog 122 h4 v7 name_p true fun w8 h9 =>
 asT w8 fun T10=>asO T10[0]? fun v11=>asT w8 fun T12=>asO T12[1]? fun v13=>asA v11 fun A14=>A14.size=2∧(∀u∈A14.toList,one u)∧au (h9.push (.cells #[(.string ⟨#[]⟩),(.string ⟨#[]⟩)] 56 (0,0))) ⟨h9.size,0,none⟩ A14.toList fun h15 =>
 asB v13 fun b16=>cond b16
 (∃v17,ah h15 (Addr.add ⟨h9.size,0,none⟩ 1)=some v17 ∧
 R (.tuple #[v17,(.bool true)]) h15)
 (nnK s_2 (asP s_2 fun p18 =>
 ∃v19,ah h15 (Addr.add p18 0)=some v19 ∧
 I0 v19 h15∧μ1 v19 h15 < μ1 s_2 h4))))
 (R (.tuple #[(.string ⟨#[]⟩),(.bool false)]) h4)
def oK:Ann :=
 (.two .leaf (.two (.one (.loop [8,9,15,16,17,18,19,20,14,21,22,6,7,23,24,25,4,5,10,11,12,13,0] [0] (.two (.two .leaf (.two .leaf .leaf)) (.two (.one (.two .leaf (.two .leaf (.two (.two .leaf .leaf) .leaf)))) .leaf)))) (.two .leaf .leaf)))
theorem oD (ω:Amb)(s_p name_p:Value)(h:Hp)(R:RT)(X:XT)(hk:gk ω s_p name_p h R X):aa Tryz.prog ω 155 [s_p,name_p] h R X :=
 al (an:=oK) Tryz.func155 (by kernel_rfl) hk
def bj (ω:Amb)(s_p f_p:Value)(h:Hp)(R:RT)(X:XT):Prop :=
 bz s_p fun a0 l1 c2=>∃(I3:RT) (μ4:Value→Hp→Nat),I3 (.int .i64 0) h∧∀t8_5 (d6:Nat→Value) (h7:Hp),I3 t8_5 h7 →
 asK .i64 t8_5 fun n8=>cond (decide ((n8:Int) < (l1:Int)))
 (aI s_p fun a9 l10 c11=>asI t8_5 fun n12=>0≤(n12:Int)∧n12 < (l10:Int)∧∃C13,aj h7 (Addr.add a9 (n12.toNat*4)) 4 C13 ∧
 D8 Tryz.prog ω f_p [(.agg C13.toArray)] h7 (fun r14 h15 =>
 asB r14 fun b16=>cond b16
 (R t8_5 h15)
 (asK .i64 t8_5 fun n17=>I3 (.int .i64 (IntKind.wrap .i64 (n17+1))) h15∧μ4 (.int .i64 (IntKind.wrap .i64 (n17+1))) h15 < μ4 t8_5 h7)) X)
 (R (.int .i64 (-1)) h7)
def ct:Ann :=
 (.two .leaf (.two (.two .leaf (.one (.loop [9,10,5,11,12,13,14,15,16,17,4,18,8] [8] (.two .leaf (.two (.two .leaf .leaf) (.two (.one (.two .leaf (.two .leaf (.two (.two .leaf .leaf) .leaf)))) .leaf)))))) (.two .leaf .leaf)))
theorem cr (ω:Amb)(s_p f_p:Value)(h:Hp)(R:RT)(X:XT)(hk:bj ω s_p f_p h R X):aa Tryz.prog ω 156 [s_p,f_p] h R X :=
 al (an:=ct) Tryz.func156 (by kernel_rfl) hk
def cS (ω:Amb)(g_p t1_p:Value)(h:Hp)(R:RT)(X:XT):Prop :=
 ∃v0,ah (h.push (.cells (Value.cells g_p) 41 (0,0))) (Addr.add ⟨h.size,0,none⟩ 0)=some v0 ∧
 asP t1_p fun p1 =>
 ∃v2,ah (h.push (.cells (Value.cells g_p) 41 (0,0))) (Addr.add p1 2)=some v2 ∧
 asS v0 fun s3=>asS v2 fun s4=>R (.bool (s3.toList==s4.toList)) (h.push (.cells (Value.cells g_p) 41 (0,0)))
def jm:Ann :=
 (.two .leaf (.two .leaf .leaf))
theorem iT (ω:Amb)(g_p t1_p:Value)(h:Hp)(R:RT)(X:XT)(hk:cS ω g_p t1_p h R X):aa Tryz.prog ω 157 [g_p,t1_p] h R X :=
 al (an:=jm) Tryz.func157 (by kernel_rfl) hk
end Go.Proofs.YtkeeboomikkojaaGreatDoor.Sx
set_option linter.unusedVariables false
set_option maxRecDepth 100000
namespace Go.Proofs.YtkeeboomikkojaaGreatDoor.Sx
open Go Go.Sx Go.Proofs
end Go.Proofs.YtkeeboomikkojaaGreatDoor.Sx
set_option linter.unusedVariables false
set_option maxRecDepth 100000
namespace Go.Proofs.YtkeeboomikkojaaGreatDoor.Sx
open Go Go.Sx Go.Proofs
def cU (ω:Amb)(p_p stage_p:Value)(h:Hp)(R:RT)(X:XT):Prop :=
 aa Tryz.prog ω 8 [] (h.push (.cells (Value.cells p_p) 24 (0,0))) (fun r0 h1 =>
 asB r0 fun b2=>cond (!b2)
 (R (.bool false) h1)
 (∃J3:RT,
 (∃C7,aj h1 ⟨h.size,0,none⟩ 1 C7 ∧
 aa Tryz.prog ω 9 [(.agg C7.toArray)] h1 (fun r8 h9 =>
 asB r8 fun b10=>cond b10
 (J3 (.bool true) h9)
 (∃v11,ah h9 (Addr.add ⟨h.size,0,none⟩ 0)=some v11 ∧
 bz v11 fun a12 l13 c14=>J3 (.bool ((l13:Int)==(0:Int))) h9)) X) ∧
 ∀t20_4 (d5:Nat→Value) (h6:Hp),J3 t20_4 h6 →
 asB t20_4 fun b15=>cond b15
 (R (.bool true) h6)
 (∃C16,aj h6 ⟨h.size,0,none⟩ 1 C16 ∧
 aa Tryz.prog ω 10 [(.agg C16.toArray)] h6 (fun r17 h18 =>
 asA r17 fun A19=>A19.size=2∧(∀u∈A19.toList,one u)∧au (h18.push (.cells #[(.int .i64 0),(.int .i64 0)] 28 (0,0))) ⟨h18.size,0,none⟩ A19.toList fun h20 =>
 ∃C21,aj h20 ⟨h.size,0,none⟩ 1 C21 ∧
 aa Tryz.prog ω 11 [(.agg C21.toArray)] h20 (fun r22 h23 =>
 asA r22 fun A24=>A24.size=1∧(∀u∈A24.toList,one u)∧au (h23.push (.cells #[(.slice none 0 0)] 24 (0,0))) ⟨h23.size,0,none⟩ A24.toList fun h25 =>
 ∃v26,ah h25 (Addr.add ⟨h23.size,0,none⟩ 0)=some v26 ∧
 2=2∧4=4∧9=9∧4=4∧uo Tryz.prog 22 (Array.push (Array.push (Array.push (h25.push (.cells (List.toArray [(.string ⟨#[97]⟩),(.string ⟨#[105]⟩)]) 32 (0,0))) (.cells (List.toArray [(.int .i64 2),(.string ⟨#[97]⟩),(.int .i64 0),(.slice none 0 0)]) 36 (0,0))) (.cells (List.toArray [(.int .i64 3),(.int .i64 0),(.string ⟨#[]⟩),(.string ⟨#[]⟩),(.string ⟨#[]⟩),(.int .i64 0),(.slice (some ⟨Array.size (h25.push (.cells (List.toArray [(.string ⟨#[97]⟩),(.string ⟨#[105]⟩)]) 32 (0,0))),0,none⟩) 1 1),(.slice none 0 0),(.slice none 0 0)]) 39 (0,0))) (.cells (List.toArray [(.string ⟨#[122,122,122]⟩),(.int .i64 0),(.slice (some ⟨h25.size,0,none⟩) 1 1),(.slice (some ⟨Array.size (Array.push (h25.push (.cells (List.toArray [(.string ⟨#[97]⟩),(.string ⟨#[105]⟩)]) 32 (0,0))) (.cells (List.toArray [(.int .i64 2),(.string ⟨#[97]⟩),(.int .i64 0),(.slice none 0 0)]) 36 (0,0))),0,none⟩) 1 1)]) 41 (0,0))) v26 (.slice (some ⟨Array.size (Array.push (Array.push (h25.push (.cells (List.toArray [(.string ⟨#[97]⟩),(.string ⟨#[105]⟩)]) 32 (0,0))) (.cells (List.toArray [(.int .i64 2),(.string ⟨#[97]⟩),(.int .i64 0),(.slice none 0 0)]) 36 (0,0))) (.cells (List.toArray [(.int .i64 3),(.int .i64 0),(.string ⟨#[]⟩),(.string ⟨#[]⟩),(.string ⟨#[]⟩),(.int .i64 0),(.slice (some ⟨Array.size (h25.push (.cells (List.toArray [(.string ⟨#[97]⟩),(.string ⟨#[105]⟩)]) 32 (0,0))),0,none⟩) 1 1),(.slice none 0 0),(.slice none 0 0)]) 39 (0,0))),0,none⟩) 1 1) fun w27 h28 =>
 bO w27 (aE h28 (Addr.add ⟨h23.size,0,none⟩ 0) w27 fun h29 =>
 ∃C30,aj h29 ⟨h.size,0,none⟩ 1 C30 ∧
 aa Tryz.prog ω 11 [(.agg C30.toArray)] h29 (fun r31 h32 =>
 asA r31 fun A33=>A33.size=1∧(∀u∈A33.toList,one u)∧au (h32.push (.cells #[(.slice none 0 0)] 24 (0,0))) ⟨h32.size,0,none⟩ A33.toList fun h34 =>
 asI stage_p fun n35=>∃v36,ah h34 (Addr.add ⟨h.size,0,none⟩ 0)=some v36 ∧
 bz v36 fun a37 l38 c39=>((IntKind.wrap .u64 (l38:Int)):Int)≠0∧∃v40,ah h34 (Addr.add ⟨h32.size,0,none⟩ 0)=some v40 ∧
 ∃v41,ah h34 (Addr.add ⟨h32.size,0,none⟩ 0)=some v41 ∧
 aI v41 fun a42 l43 c44=>0≤((IntKind.wrap .i64 (Int.tmod (IntKind.wrap .u64 n35) (IntKind.wrap .u64 (l38:Int)))):Int)∧(IntKind.wrap .i64 (Int.tmod (IntKind.wrap .u64 n35) (IntKind.wrap .u64 (l38:Int)))) < (l43:Int)∧∃v45,ah h34 (Addr.add (Addr.add a42 (Int.toNat (IntKind.wrap .i64 (Int.tmod (IntKind.wrap .u64 n35) (IntKind.wrap .u64 (l38:Int))))*4)) 3)=some v45 ∧
 4=4∧ah (h34.push (.cells (List.toArray [(.int .i64 1),(.string ⟨#[]⟩),(.int .i64 1),(.slice none 0 0)]) 36 (0,0))) (Addr.add (Addr.add a42 (Int.toNat (IntKind.wrap .i64 (Int.tmod (IntKind.wrap .u64 n35) (IntKind.wrap .u64 (l38:Int))))*4)) 3)=some v45∧ah (h34.push (.cells (List.toArray [(.int .i64 1),(.string ⟨#[]⟩),(.int .i64 1),(.slice none 0 0)]) 36 (0,0))) (Addr.add ⟨h32.size,0,none⟩ 0)=some v41∧ah (h34.push (.cells (List.toArray [(.int .i64 1),(.string ⟨#[]⟩),(.int .i64 1),(.slice none 0 0)]) 36 (0,0))) (Addr.add ⟨h32.size,0,none⟩ 0)=some v40∧bO v45 (9=9∧ah (Array.push (h34.push (.cells (List.toArray [(.int .i64 1),(.string ⟨#[]⟩),(.int .i64 1),(.slice none 0 0)]) 36 (0,0))) (.cells (List.toArray [(.int .i64 14),(.int .i64 0),(.string ⟨#[]⟩),(.string ⟨#[]⟩),(.string ⟨#[]⟩),(.int .i64 0),(.slice (some ⟨h34.size,0,none⟩) 1 1),v45,(.slice none 0 0)]) 39 (0,0))) (Addr.add ⟨h32.size,0,none⟩ 0)=some v40∧aI v40 fun a46 l47 c48=>0≤((IntKind.wrap .i64 (Int.tmod (IntKind.wrap .u64 n35) (IntKind.wrap .u64 (l38:Int)))):Int)∧(IntKind.wrap .i64 (Int.tmod (IntKind.wrap .u64 n35) (IntKind.wrap .u64 (l38:Int)))) < (l47:Int)∧aE (Array.push (h34.push (.cells (List.toArray [(.int .i64 1),(.string ⟨#[]⟩),(.int .i64 1),(.slice none 0 0)]) 36 (0,0))) (.cells (List.toArray [(.int .i64 14),(.int .i64 0),(.string ⟨#[]⟩),(.string ⟨#[]⟩),(.string ⟨#[]⟩),(.int .i64 0),(.slice (some ⟨h34.size,0,none⟩) 1 1),v45,(.slice none 0 0)]) 39 (0,0))) (Addr.add (Addr.add a46 (Int.toNat (IntKind.wrap .i64 (Int.tmod (IntKind.wrap .u64 n35) (IntKind.wrap .u64 (l38:Int))))*4)) 3) (.slice (some ⟨Array.size (h34.push (.cells (List.toArray [(.int .i64 1),(.string ⟨#[]⟩),(.int .i64 1),(.slice none 0 0)]) 36 (0,0))),0,none⟩) 1 1) fun h49 =>
 ∃v50,ah h49 (Addr.add ⟨h18.size,0,none⟩ 0)=some v50 ∧
 asK .i64 v50 fun n51=>cond (n51 !=(0:Int))
 (R (.bool true) h49)
 (∃(I52:Value→RT) (μ53:Value→Value→Hp→Nat),I52 (.bool false) (.int .i64 0) h49∧∀twice_54 i_55 (d56:Nat→Value) (h57:Hp),I52 twice_54 i_55 h57 →
 ∃v58,ah h57 (Addr.add ⟨h.size,0,none⟩ 0)=some v58 ∧
 bz v58 fun a59 l60 c61=>asK .i64 i_55 fun n62=>cond (decide ((n62:Int) < (l60:Int)))
 (∃J63:RT,
 (asB twice_54 fun b67=>cond b67
 (J63 (.bool true) h57)
 (∃v68,ah h57 (Addr.add ⟨h.size,0,none⟩ 0)=some v68 ∧
 aI v68 fun a69 l70 c71=>asI i_55 fun n72=>0≤(n72:Int)∧n72 < (l70:Int)∧∃v73,ah h57 (Addr.add (Addr.add a69 (n72.toNat*4)) 0)=some v73 ∧
 asS v73 fun s74=>J63 (.bool (s74.toList==ByteArray.toList ⟨#[122,122,122]⟩)) h57)) ∧
 ∀twice_64 (d65:Nat→Value) (h66:Hp),J63 twice_64 h66 →
 asK .i64 i_55 fun n75=>I52 twice_64 (.int .i64 (IntKind.wrap .i64 (n75+1))) h66∧μ53 twice_64 (.int .i64 (IntKind.wrap .i64 (n75+1))) h66 < μ53 twice_54 i_55 h57)
 (∃J76:RT,
 (∃C80,aj h57 ⟨h23.size,0,none⟩ 1 C80 ∧
 aa Tryz.prog ω 12 [(.agg C80.toArray)] h57 (fun r81 h82 =>
 asA r81 fun A83=>asO A83[0]? fun v84=>asK .i64 v84 fun n85=>cond (n85==(0:Int))
 (asB twice_54 fun b86=>cond (!b86)
 (∃C87,aj h82 ⟨h23.size,0,none⟩ 1 C87 ∧
 aa Tryz.prog ω 10 [(.agg C87.toArray)] h82 (fun r88 h89 =>
 asA r88 fun A90=>asO A90[0]? fun v91=>asK .i64 v91 fun n92=>J76 (.bool (n92 !=(0:Int))) h89) X)
 (J76 (.bool false) h82))
 (J76 (.bool false) h82)) X) ∧
 ∀t95_77 (d78:Nat→Value) (h79:Hp),J76 t95_77 h79 →
 asB t95_77 fun b93=>cond b93
 (R (.bool false) h79)
 (∃J94:RT,
 (∃C98,aj h79 ⟨h32.size,0,none⟩ 1 C98 ∧
 aa Tryz.prog ω 12 [(.agg C98.toArray)] h79 (fun r99 h100 =>
 asA r99 fun A101=>asO A101[0]? fun v102=>asK .i64 v102 fun n103=>cond (n103 !=(0:Int))
 (J94 (.bool true) h100)
 (∃C104,aj h100 ⟨h32.size,0,none⟩ 1 C104 ∧
 aa Tryz.prog ω 10 [(.agg C104.toArray)] h100 (fun r105 h106 =>
 asA r105 fun A107=>asO A107[0]? fun v108=>asK .i64 v108 fun n109=>J94 (.bool (n109==(0:Int))) h106) X)) X) ∧
 ∀t4_95 (d96:Nat→Value) (h97:Hp),J94 t4_95 h97 →
 R t4_95 h97))))) X)) X) X))) X
def jo:Ann :=
 (.two .leaf (.two (.two .leaf (.two (.two .leaf .leaf) .leaf)) (.two (.two (.join [13,14,15,16,17,18,19,20] [20] .leaf) (.two (.two .leaf .leaf) .leaf)) (.two .leaf (.two .leaf (.two .leaf (.two .leaf (.two .leaf (.two (.plan [0,1,2,3,5,6,7,8,9,10,4,11,12,13,14,15]) (.two (.two .leaf (.two (.two .leaf .leaf) .leaf)) (.two .leaf (.two (.two .leaf (.one (.loop [65,66,67,68,69,72,73,74,75,76,77,78,79,80,81,9,70,71,10] [9,10] (.two (.two .leaf (.two .leaf .leaf)) (.two (.one (.join [72,73,74,75,76,77,78,79,80,81,9] [9] .leaf)) .leaf))))) (.two (.two (.join [82,83,84,85,86,87,88,89,90,91,92,93,94,95] [95] .leaf) (.two (.two .leaf .leaf) .leaf)) (.two (.join [96,97,98,99,100,101,102,103,104,105,4] [4] .leaf) .leaf))))))))))))))
theorem ji (ω:Amb)(p_p stage_p:Value)(h:Hp)(R:RT)(X:XT)(hk:cU ω p_p stage_p h R X):aa Tryz.prog ω 3 [p_p,stage_p] h R X :=
 al (an:=jo) Tryz.func3 (by kernel_rfl) hk
def cM (ω:Amb)(h:Hp)(R:RT)(X:XT):Prop :=
 aa Tryz.prog ω 14 [(.string ⟨#[115,116,97,103,101,32,109,97,105,110,40,105,110,32,114,101,99,118,32,105,110,116,41,32,123,32,116,97,107,101,32,120,32,102,114,111,109,32,105,110,32,123,32,125,32,101,109,105,116,32,120,59,32,125]⟩)] h (fun r0 h1 =>
 asT r0 fun T2=>asO T2[0]? fun v3=>asT r0 fun T4=>asO T4[1]? fun v5=>asA v3 fun A6=>A6.size=1∧(∀u∈A6.toList,one u)∧au (Array.push (h1.push (.cells #[(.slice none 0 0)] 24 (0,0))) (.cells #[(.int .i64 0),(.int .i64 0)] 28 (0,0))) ⟨h1.size,0,none⟩ A6.toList fun h7 =>
 asA v5 fun A8=>A8.size=2∧(∀u∈A8.toList,one u)∧au h7 ⟨Array.size (h1.push (.cells #[(.slice none 0 0)] 24 (0,0))),0,none⟩ A8.toList fun h9 =>
 ∃J10:RT,
 (∃v14,ah h9 (Addr.add ⟨Array.size (h1.push (.cells #[(.slice none 0 0)] 24 (0,0))),0,none⟩ 0)=some v14 ∧
 asK .i64 v14 fun n15=>cond (n15==(0:Int))
 (∃C16,aj h9 ⟨h1.size,0,none⟩ 1 C16 ∧
 aa Tryz.prog ω 10 [(.agg C16.toArray)] h9 (fun r17 h18 =>
 asA r17 fun A19=>asO A19[0]? fun v20=>asK .i64 v20 fun n21=>asO A19[1]? fun v22=>asK .i64 v22 fun n23=>J10 (.bool ((n21==(10:Int))&&((n23==(1:Int))&&true))) h18) X)
 (J10 (.bool false) h9)) ∧
 ∀t0_11 (d12:Nat→Value) (h13:Hp),J10 t0_11 h13 →
 R t0_11 h13) X
def ik:Ann :=
 (.two .leaf (.two .leaf (.two (.join [7,8,9,10,11,12,13,14,15,0] [0] .leaf) .leaf)))
theorem iu (ω:Amb)(h:Hp)(R:RT)(X:XT)(hk:cM ω  h R X):aa Tryz.prog ω 8 [] h R X :=
 al (an:=ik) Tryz.func8 (by kernel_rfl) hk
end Go.Proofs.YtkeeboomikkojaaGreatDoor.Sx
set_option linter.unusedVariables false
set_option maxRecDepth 100000
namespace Go.Proofs.YtkeeboomikkojaaGreatDoor.Sx
open Go Go.Sx Go.Proofs
end Go.Proofs.YtkeeboomikkojaaGreatDoor.Sx
set_option linter.unusedVariables false
set_option maxRecDepth 100000
namespace Go.Proofs.YtkeeboomikkojaaGreatDoor.Sx
open Go Go.Sx Go.Proofs
abbrev eU:Nat:=27
def jz (ω:Amb)(code_p at_p:Value)(h:Hp)(R:RT)(X:XT):Prop :=
 bO code_p (bO at_p (2=2∧(∀u∈[code_p,at_p],one u)∧au (h.push (.cells #[(.int .i64 0),(.int .i64 0)] 28 (0,0))) ⟨h.size,0,none⟩ [code_p,at_p] fun h0 =>
 ∃C1,aj h0 ⟨h.size,0,none⟩ 2 C1∧R (.agg C1.toArray) h0))
def qO:Ann :=
 (.two .leaf (.two .leaf .leaf))
theorem qE (ω:Amb)(code_p at_p:Value)(h:Hp)(R:RT)(X:XT)(hk:jz ω code_p at_p h R X):aa Tryz.prog ω 27 [code_p,at_p] h R X :=
 al (an:=qO) Tryz.func27 (by kernel_rfl) hk
end Go.Proofs.YtkeeboomikkojaaGreatDoor.Sx
set_option linter.unusedVariables false
set_option maxRecDepth 100000
namespace Go.Proofs.YtkeeboomikkojaaGreatDoor.Sx
open Go Go.Sx Go.Proofs
abbrev gL:Nat:=11
def cC (ω:Amb)(p_p:Value)(h:Hp)(R:RT)(X:XT):Prop :=
 ∃(I0:RT) (μ1:Value→Hp→Nat),I0 (.int .i64 0) (Array.push (Array.push (h.push (.cells (Value.cells p_p) 24 (0,0))) (.cells #[(.slice none 0 0)] 24 (0,0))) (.cells #[(.slice none 0 0)] 24 (0,0)))∧∀i_2 (d3:Nat→Value) (h4:Hp),I0 i_2 h4 →
 ∃v5,ah h4 (Addr.add ⟨h.size,0,none⟩ 0)=some v5 ∧
 bz v5 fun a6 l7 c8=>asK .i64 i_2 fun n9=>cond (decide ((n9:Int) < (l7:Int)))
 (∃v10,ah h4 (Addr.add ⟨h.size,0,none⟩ 0)=some v10 ∧
 aI v10 fun a11 l12 c13=>asI i_2 fun n14=>0≤(n14:Int)∧n14 < (l12:Int)∧∃C15,aj h4 (Addr.add a11 (n14.toNat*4)) 4 C15 ∧
 C15.toArray.size=4∧(∀u∈C15.toArray.toList,one u)∧au (h4.push (.cells #[(.string ⟨#[]⟩),(.int .i64 0),(.slice none 0 0),(.slice none 0 0)] 41 (0,0))) ⟨h4.size,0,none⟩ C15.toArray.toList fun h16 =>
 ∃v17,ah h16 (Addr.add ⟨h4.size,0,none⟩ 2)=some v17 ∧
 uo Tryz.prog 33 h16 (.slice none 0 0) v17 fun w18 h19 =>
 bO w18 (aE h19 (Addr.add ⟨h4.size,0,none⟩ 2) w18 fun h20 =>
 ∃v21,ah h20 (Addr.add ⟨h4.size,0,none⟩ 3)=some v21 ∧
 aa Tryz.prog ω 24 [v21] h20 (fun r22 h23 =>
 bO r22 (aE h23 (Addr.add ⟨h4.size,0,none⟩ 3) r22 fun h24 =>
 ∃v25,ah h24 (Addr.add ⟨Array.size (Array.push (h.push (.cells (Value.cells p_p) 24 (0,0))) (.cells #[(.slice none 0 0)] 24 (0,0))),0,none⟩ 0)=some v25 ∧
 ∃C26,aj h24 ⟨h4.size,0,none⟩ 4 C26 ∧
 C26.toArray.size=4∧uo Tryz.prog 22 (h24.push (.cells (List.toArray (C26.toArray.toList++[])) 41 (0,0))) v25 (.slice (some ⟨h24.size,0,none⟩) 1 1) fun w27 h28 =>
 bO w27 (aE h28 (Addr.add ⟨Array.size (Array.push (h.push (.cells (Value.cells p_p) 24 (0,0))) (.cells #[(.slice none 0 0)] 24 (0,0))),0,none⟩ 0) w27 fun h29 =>
 asK .i64 i_2 fun n30=>I0 (.int .i64 (IntKind.wrap .i64 (n30+1))) h29∧μ1 (.int .i64 (IntKind.wrap .i64 (n30+1))) h29 < μ1 i_2 h4))) X))
 (∃C31,aj h4 ⟨Array.size (Array.push (h.push (.cells (Value.cells p_p) 24 (0,0))) (.cells #[(.slice none 0 0)] 24 (0,0))),0,none⟩ 1 C31 ∧
 C31.toArray.size=1∧(∀u∈C31.toArray.toList,one u)∧au h4 ⟨Array.size (h.push (.cells (Value.cells p_p) 24 (0,0))),0,none⟩ C31.toArray.toList fun h32 =>
 ∃C33,aj h32 ⟨Array.size (h.push (.cells (Value.cells p_p) 24 (0,0))),0,none⟩ 1 C33∧R (.agg C33.toArray) h32)
def gx:Ann :=
 (.two .leaf (.two .leaf (.two (.two .leaf (.one (.loop [7,8,9,10,11,14,15,16,17,18,5,6,19,20,21,22,23,24,25,26,27,28,29,30,31,32,33,12,13,4] [4] (.two (.two .leaf (.two .leaf .leaf)) (.two (.one (.two .leaf (.two .leaf (.two .leaf (.two .leaf .leaf))))) .leaf))))) (.two .leaf .leaf))))
theorem gG (ω:Amb)(p_p:Value)(h:Hp)(R:RT)(X:XT)(hk:cC ω p_p h R X):aa Tryz.prog ω 11 [p_p] h R X :=
 al (an:=gx) Tryz.func11 (by kernel_rfl) hk
abbrev gI:Nat:=12
def cA (ω:Amb)(p_p:Value)(h:Hp)(R:RT)(X:XT):Prop :=
 ∃C0,aj (Array.push (h.push (.cells (Value.cells p_p) 24 (0,0))) (.cells #[(.int .i64 0),(.int .i64 0)] 28 (0,0))) ⟨h.size,0,none⟩ 1 C0 ∧
 aa Tryz.prog ω 25 [(.agg C0.toArray)] (Array.push (h.push (.cells (Value.cells p_p) 24 (0,0))) (.cells #[(.int .i64 0),(.int .i64 0)] 28 (0,0))) (fun r1 h2 =>
 asA r1 fun A3=>A3.size=2∧(∀u∈A3.toList,one u)∧au (h2.push (.cells #[(.int .i64 0),(.int .i64 0)] 28 (0,0))) ⟨h2.size,0,none⟩ A3.toList fun h4 =>
 ∃J5:RT,
 (∃v9,ah h4 (Addr.add ⟨h2.size,0,none⟩ 0)=some v9 ∧
 asK .i64 v9 fun n10=>cond (n10==(0:Int))
 (∃C11,aj h4 ⟨h.size,0,none⟩ 1 C11 ∧
 aa Tryz.prog ω 26 [(.agg C11.toArray)] h4 (fun r12 h13 =>
 asS r12 fun s14=>J5 (.bool (decide (((s14.size:Int):Int) > 12000))) h13) X)
 (J5 (.bool false) h4)) ∧
 ∀t14_6 (d7:Nat→Value) (h8:Hp),J5 t14_6 h8 →
 asB t14_6 fun b15=>cond b15
 (aa Tryz.prog ω 27 [(.int .i64 1),(.int .i64 (-1))] h8 (fun r16 h17 =>
 asA r16 fun A18=>A18.size=2∧(∀u∈A18.toList,one u)∧au h17 ⟨Array.size (h.push (.cells (Value.cells p_p) 24 (0,0))),0,none⟩ A18.toList fun h19 =>
 ∃C20,aj h19 ⟨Array.size (h.push (.cells (Value.cells p_p) 24 (0,0))),0,none⟩ 2 C20∧R (.agg C20.toArray) h19) X)
 (∃C21,aj h8 ⟨h2.size,0,none⟩ 2 C21 ∧
 C21.toArray.size=2∧(∀u∈C21.toArray.toList,one u)∧au h8 ⟨Array.size (h.push (.cells (Value.cells p_p) 24 (0,0))),0,none⟩ C21.toArray.toList fun h22 =>
 ∃C23,aj h22 ⟨Array.size (h.push (.cells (Value.cells p_p) 24 (0,0))),0,none⟩ 2 C23∧R (.agg C23.toArray) h22)) X
def gN:Ann :=
 (.two .leaf (.two .leaf (.two (.two (.join [6,7,8,9,10,11,12,13,14] [14] .leaf) (.two (.two .leaf .leaf) .leaf)) (.two .leaf .leaf))))
theorem gU (ω:Amb)(p_p:Value)(h:Hp)(R:RT)(X:XT)(hk:cA ω p_p h R X):aa Tryz.prog ω 12 [p_p] h R X :=
 al (an:=gN) Tryz.func12 (by kernel_rfl) hk
abbrev jn:Nat:=24
def cZ (ω:Amb)(l_p:Value)(h:Hp)(R:RT)(X:XT):Prop :=
 ∃(I0:Value→RT) (μ1:Value→Value→Hp→Nat),I0 (.slice none 0 0) (.int .i64 0) h∧∀out_2 i_3 (d4:Nat→Value) (h5:Hp),I0 out_2 i_3 h5 →
 bz l_p fun a6 l7 c8=>asK .i64 i_3 fun n9=>cond (decide ((n9:Int) < (l7:Int)))
 (aI l_p fun a10 l11 c12=>asI i_3 fun n13=>0≤(n13:Int)∧n13 < (l11:Int)∧∃C14,aj h5 (Addr.add a10 (n13.toNat*9)) 9 C14 ∧
 C14.toArray.size=9∧(∀u∈C14.toArray.toList,one u)∧au (h5.push (.cells #[(.int .i64 0),(.int .i64 0),(.string ⟨#[]⟩),(.string ⟨#[]⟩),(.string ⟨#[]⟩),(.int .i64 0),(.slice none 0 0),(.slice none 0 0),(.slice none 0 0)] 39 (0,0))) ⟨h5.size,0,none⟩ C14.toArray.toList fun h15 =>
 ∃v16,ah h15 (Addr.add ⟨h5.size,0,none⟩ 6)=some v16 ∧
 aa Tryz.prog ω 46 [v16] h15 (fun r17 h18 =>
 bO r17 (aE h18 (Addr.add ⟨h5.size,0,none⟩ 6) r17 fun h19 =>
 ∃v20,ah h19 (Addr.add ⟨h5.size,0,none⟩ 7)=some v20 ∧
 aa Tryz.prog ω 24 [v20] h19 (fun r21 h22 =>
 bO r21 (aE h22 (Addr.add ⟨h5.size,0,none⟩ 7) r21 fun h23 =>
 ∃v24,ah h23 (Addr.add ⟨h5.size,0,none⟩ 8)=some v24 ∧
 aa Tryz.prog ω 24 [v24] h23 (fun r25 h26 =>
 bO r25 (aE h26 (Addr.add ⟨h5.size,0,none⟩ 8) r25 fun h27 =>
 ∃C28,aj h27 ⟨h5.size,0,none⟩ 9 C28 ∧
 C28.toArray.size=9∧uo Tryz.prog 37 (h27.push (.cells (List.toArray (C28.toArray.toList++[])) 39 (0,0))) out_2 (.slice (some ⟨h27.size,0,none⟩) 1 1) fun w29 h30 =>
 asK .i64 i_3 fun n31=>I0 w29 (.int .i64 (IntKind.wrap .i64 (n31+1))) h30∧μ1 w29 (.int .i64 (IntKind.wrap .i64 (n31+1))) h30 < μ1 out_2 i_3 h5)) X)) X)) X)
 (R out_2 h5)
def jf:Ann :=
 (.two .leaf (.two .leaf (.two (.two .leaf (.one (.loop [6,7,8,9,12,13,14,15,5,16,17,18,19,20,21,22,23,24,25,26,27,28,29,30,31,3,10,11,4] [3,4] (.two (.two .leaf (.two .leaf .leaf)) (.two (.one (.two .leaf (.two .leaf (.two .leaf (.two .leaf .leaf))))) .leaf))))) (.two .leaf .leaf))))
theorem iR (ω:Amb)(l_p:Value)(h:Hp)(R:RT)(X:XT)(hk:cZ ω l_p h R X):aa Tryz.prog ω 24 [l_p] h R X :=
 al (an:=jf) Tryz.func24 (by kernel_rfl) hk
abbrev ja:Nat:=25
def cY (ω:Amb)(p_p:Value)(h:Hp)(R:RT)(X:XT):Prop :=
 ∃v0,ah (Array.push (h.push (.cells (Value.cells p_p) 24 (0,0))) (.cells #[(.int .i64 0),(.int .i64 0)] 28 (0,0))) (Addr.add ⟨h.size,0,none⟩ 0)=some v0 ∧
 bz v0 fun a1 l2 c3=>cond ((l2:Int)==(0:Int))
 (aa Tryz.prog ω 27 [(.int .i64 10),(.int .i64 (-1))] (Array.push (h.push (.cells (Value.cells p_p) 24 (0,0))) (.cells #[(.int .i64 0),(.int .i64 0)] 28 (0,0))) (fun r4 h5 =>
 asA r4 fun A6=>A6.size=2∧(∀u∈A6.toList,one u)∧au h5 ⟨Array.size (h.push (.cells (Value.cells p_p) 24 (0,0))),0,none⟩ A6.toList fun h7 =>
 ∃C8,aj h7 ⟨Array.size (h.push (.cells (Value.cells p_p) 24 (0,0))),0,none⟩ 2 C8∧R (.agg C8.toArray) h7) X)
 (∃v9,ah (Array.push (h.push (.cells (Value.cells p_p) 24 (0,0))) (.cells #[(.int .i64 0),(.int .i64 0)] 28 (0,0))) (Addr.add ⟨h.size,0,none⟩ 0)=some v9 ∧
 bz v9 fun a10 l11 c12=>cond (decide (((l11:Int):Int) > 10))
 (aa Tryz.prog ω 27 [(.int .i64 8),(.int .i64 (-1))] (Array.push (h.push (.cells (Value.cells p_p) 24 (0,0))) (.cells #[(.int .i64 0),(.int .i64 0)] 28 (0,0))) (fun r13 h14 =>
 asA r13 fun A15=>A15.size=2∧(∀u∈A15.toList,one u)∧au h14 ⟨Array.size (h.push (.cells (Value.cells p_p) 24 (0,0))),0,none⟩ A15.toList fun h16 =>
 ∃C17,aj h16 ⟨Array.size (h.push (.cells (Value.cells p_p) 24 (0,0))),0,none⟩ 2 C17∧R (.agg C17.toArray) h16) X)
 (∃(I18:Value→RT) (μ19:Value→Value→Hp→Nat),I18 (.int .i64 0) (.int .i64 0) (Array.push (h.push (.cells (Value.cells p_p) 24 (0,0))) (.cells #[(.int .i64 0),(.int .i64 0)] 28 (0,0)))∧∀at_20 i_21 (d22:Nat→Value) (h23:Hp),I18 at_20 i_21 h23 →
 ∃v24,ah h23 (Addr.add ⟨h.size,0,none⟩ 0)=some v24 ∧
 bz v24 fun a25 l26 c27=>asK .i64 i_21 fun n28=>cond (decide ((n28:Int) < (l26:Int)))
 (∃v29,ah h23 (Addr.add ⟨h.size,0,none⟩ 0)=some v29 ∧
 aI v29 fun a30 l31 c32=>asI i_21 fun n33=>0≤(n33:Int)∧n33 < (l31:Int)∧∃C34,aj h23 (Addr.add a30 (n33.toNat*4)) 4 C34 ∧
 C34.toArray.size=4∧(∀u∈C34.toArray.toList,one u)∧au (h23.push (.cells #[(.string ⟨#[]⟩),(.int .i64 0),(.slice none 0 0),(.slice none 0 0)] 41 (0,0))) ⟨h23.size,0,none⟩ C34.toArray.toList fun h35 =>
 ∃v36,ah h35 (Addr.add ⟨h23.size,0,none⟩ 0)=some v36 ∧
 aa Tryz.prog ω 47 [v36] h35 (fun r37 h38 =>
 asB r37 fun b39=>cond (!b39)
 (asK .i64 i_21 fun n40=>aa Tryz.prog ω 27 [(.int .i64 4),(.int .i64 (IntKind.wrap .i64 ((-2) - n40)))] h38 (fun r41 h42 =>
 asA r41 fun A43=>A43.size=2∧(∀u∈A43.toList,one u)∧au h42 ⟨Array.size (h.push (.cells (Value.cells p_p) 24 (0,0))),0,none⟩ A43.toList fun h44 =>
 ∃C45,aj h44 ⟨Array.size (h.push (.cells (Value.cells p_p) 24 (0,0))),0,none⟩ 2 C45∧R (.agg C45.toArray) h44) X)
 (∃v46,ah h38 (Addr.add ⟨h23.size,0,none⟩ 2)=some v46 ∧
 bz v46 fun a47 l48 c49=>cond (decide (((l48:Int):Int) > 6))
 (asK .i64 i_21 fun n50=>aa Tryz.prog ω 27 [(.int .i64 8),(.int .i64 (IntKind.wrap .i64 ((-2) - n50)))] h38 (fun r51 h52 =>
 asA r51 fun A53=>A53.size=2∧(∀u∈A53.toList,one u)∧au h52 ⟨Array.size (h.push (.cells (Value.cells p_p) 24 (0,0))),0,none⟩ A53.toList fun h54 =>
 ∃C55,aj h54 ⟨Array.size (h.push (.cells (Value.cells p_p) 24 (0,0))),0,none⟩ 2 C55∧R (.agg C55.toArray) h54) X)
 (∃(I56:RT) (μ57:Value→Hp→Nat),I56 (.int .i64 0) h38∧∀k_58 (d59:Nat→Value) (h60:Hp),I56 k_58 h60 →
 ∃v61,ah h60 (Addr.add ⟨h23.size,0,none⟩ 2)=some v61 ∧
 bz v61 fun a62 l63 c64=>asK .i64 k_58 fun n65=>cond (decide ((n65:Int) < (l63:Int)))
 (∃v66,ah h60 (Addr.add ⟨h23.size,0,none⟩ 2)=some v66 ∧
 aI v66 fun a67 l68 c69=>asI k_58 fun n70=>0≤(n70:Int)∧n70 < (l68:Int)∧∃v71,ah h60 (Addr.add (Addr.add a67 (n70.toNat*2)) 0)=some v71 ∧
 aa Tryz.prog ω 47 [v71] h60 (fun r72 h73 =>
 asB r72 fun b74=>cond (!b74)
 (asK .i64 i_21 fun n75=>aa Tryz.prog ω 27 [(.int .i64 4),(.int .i64 (IntKind.wrap .i64 ((-2) - n75)))] h73 (fun r76 h77 =>
 asA r76 fun A78=>A78.size=2∧(∀u∈A78.toList,one u)∧au h77 ⟨Array.size (h.push (.cells (Value.cells p_p) 24 (0,0))),0,none⟩ A78.toList fun h79 =>
 ∃C80,aj h79 ⟨Array.size (h.push (.cells (Value.cells p_p) 24 (0,0))),0,none⟩ 2 C80∧R (.agg C80.toArray) h79) X)
 (∃v81,ah h73 (Addr.add ⟨h23.size,0,none⟩ 2)=some v81 ∧
 aI v81 fun a82 l83 c84=>asI k_58 fun n85=>0≤(n85:Int)∧n85 < (l83:Int)∧∃v86,ah h73 (Addr.add (Addr.add a82 (n85.toNat*2)) 1)=some v86 ∧
 aa Tryz.prog ω 48 [v86,(.int .i64 3)] h73 (fun r87 h88 =>
 asB r87 fun b89=>cond (!b89)
 (asK .i64 i_21 fun n90=>aa Tryz.prog ω 27 [(.int .i64 11),(.int .i64 (IntKind.wrap .i64 ((-2) - n90)))] h88 (fun r91 h92 =>
 asA r91 fun A93=>A93.size=2∧(∀u∈A93.toList,one u)∧au h92 ⟨Array.size (h.push (.cells (Value.cells p_p) 24 (0,0))),0,none⟩ A93.toList fun h94 =>
 ∃C95,aj h94 ⟨Array.size (h.push (.cells (Value.cells p_p) 24 (0,0))),0,none⟩ 2 C95∧R (.agg C95.toArray) h94) X)
 (asK .i64 k_58 fun n96=>I56 (.int .i64 (IntKind.wrap .i64 (n96+1))) h88∧μ57 (.int .i64 (IntKind.wrap .i64 (n96+1))) h88 < μ57 k_58 h60)) X)) X)
 (∃v97,ah h60 (Addr.add ⟨h23.size,0,none⟩ 3)=some v97 ∧
 aa Tryz.prog ω 49 [v97,at_20,(.int .i64 1)] h60 (fun r98 h99 =>
 asT r98 fun T100=>asO T100[0]? fun v101=>asT r98 fun T102=>asO T102[1]? fun v103=>asA v101 fun A104=>A104.size=2∧(∀u∈A104.toList,one u)∧au (h99.push (.cells #[(.int .i64 0),(.int .i64 0)] 28 (0,0))) ⟨h99.size,0,none⟩ A104.toList fun h105 =>
 ∃v106,ah h105 (Addr.add ⟨h99.size,0,none⟩ 0)=some v106 ∧
 asK .i64 v106 fun n107=>cond (n107 !=(0:Int))
 (∃C108,aj h105 ⟨h99.size,0,none⟩ 2 C108 ∧
 C108.toArray.size=2∧(∀u∈C108.toArray.toList,one u)∧au h105 ⟨Array.size (h.push (.cells (Value.cells p_p) 24 (0,0))),0,none⟩ C108.toArray.toList fun h109 =>
 ∃C110,aj h109 ⟨Array.size (h.push (.cells (Value.cells p_p) 24 (0,0))),0,none⟩ 2 C110∧R (.agg C110.toArray) h109)
 (asK .i64 i_21 fun n111=>I18 v103 (.int .i64 (IntKind.wrap .i64 (n111+1))) h105∧μ19 v103 (.int .i64 (IntKind.wrap .i64 (n111+1))) h105 < μ19 at_20 i_21 h23)) X)))) X)
 (2=2∧(∀u∈[(.int .i64 0),(.int .i64 0)],one u)∧au h23 ⟨Array.size (h.push (.cells (Value.cells p_p) 24 (0,0))),0,none⟩ [(.int .i64 0),(.int .i64 0)] fun h112 =>
 ∃C113,aj h112 ⟨Array.size (h.push (.cells (Value.cells p_p) 24 (0,0))),0,none⟩ 2 C113∧R (.agg C113.toArray) h112)))
def ju:Ann :=
 (.two .leaf (.two (.two .leaf (.two (.two .leaf .leaf) .leaf)) (.two (.two .leaf (.two (.two .leaf .leaf) .leaf)) (.two .leaf (.two (.two .leaf (.one (.loop [19,20,21,22,23,26,27,28,29,30,5,31,32,33,34,35,36,37,38,39,40,41,42,43,44,6,45,46,47,48,49,52,53,54,55,56,57,58,59,60,61,62,63,64,65,66,67,68,69,70,71,72,73,50,51,75,76,77,78,74,79,80,7,8,81,82,83,84,85,3,24,25,4] [3,4] (.two (.two .leaf (.two .leaf .leaf)) (.two (.one (.two .leaf (.two (.two .leaf (.two (.two .leaf .leaf) .leaf)) (.two (.two .leaf (.two (.two .leaf .leaf) .leaf)) (.two (.two .leaf (.one (.loop [45,46,47,48,49,52,53,54,55,56,57,58,59,60,61,62,63,64,65,66,67,68,69,70,71,72,73,50,51,6] [6] (.two (.two .leaf (.two .leaf .leaf)) (.two (.one (.two (.two .leaf (.two (.two .leaf .leaf) .leaf)) (.two .leaf (.two (.two .leaf .leaf) .leaf)))) .leaf))))) (.two .leaf (.two (.two .leaf (.two (.two .leaf .leaf) .leaf)) .leaf))))))) .leaf))))) (.two .leaf .leaf))))))
theorem jk (ω:Amb)(p_p:Value)(h:Hp)(R:RT)(X:XT)(hk:cY ω p_p h R X):aa Tryz.prog ω 25 [p_p] h R X :=
 al (an:=ju) Tryz.func25 (by kernel_rfl) hk
abbrev ou:Nat:=26
def gj (ω:Amb)(p_p:Value)(h:Hp)(R:RT)(X:XT):Prop :=
 ∃(I0:Value→RT) (μ1:Value→Value→Hp→Nat),I0 (.string ⟨#[]⟩) (.int .i64 0) (h.push (.cells (Value.cells p_p) 24 (0,0)))∧∀out_2 i_3 (d4:Nat→Value) (h5:Hp),I0 out_2 i_3 h5 →
 ∃v6,ah h5 (Addr.add ⟨h.size,0,none⟩ 0)=some v6 ∧
 bz v6 fun a7 l8 c9=>asK .i64 i_3 fun n10=>cond (decide ((n10:Int) < (l8:Int)))
 (∃v11,ah h5 (Addr.add ⟨h.size,0,none⟩ 0)=some v11 ∧
 aI v11 fun a12 l13 c14=>asI i_3 fun n15=>0≤(n15:Int)∧n15 < (l13:Int)∧∃C16,aj h5 (Addr.add a12 (n15.toNat*4)) 4 C16 ∧
 C16.toArray.size=4∧(∀u∈C16.toArray.toList,one u)∧au (h5.push (.cells #[(.string ⟨#[]⟩),(.int .i64 0),(.slice none 0 0),(.slice none 0 0)] 41 (0,0))) ⟨h5.size,0,none⟩ C16.toArray.toList fun h17 =>
 ∃v18,ah h17 (Addr.add ⟨h5.size,0,none⟩ 0)=some v18 ∧
 asS v18 fun s19=>ByteArray.size ⟨#[115,116,97,103,101,32]⟩+s19.size≤9223372036854775807∧ByteArray.size (⟨#[115,116,97,103,101,32]⟩++s19)+ByteArray.size ⟨#[40]⟩≤9223372036854775807∧asS out_2 fun s20=>s20.size+ByteArray.size ((⟨#[115,116,97,103,101,32]⟩++s19)++⟨#[40]⟩)≤9223372036854775807∧∃(I21:Value→RT) (μ22:Value→Value→Hp→Nat),I21 (.string (s20++((⟨#[115,116,97,103,101,32]⟩++s19)++⟨#[40]⟩))) (.int .i64 0) h17∧∀out_23 k_24 (d25:Nat→Value) (h26:Hp),I21 out_23 k_24 h26 →
 ∃v27,ah h26 (Addr.add ⟨h5.size,0,none⟩ 2)=some v27 ∧
 bz v27 fun a28 l29 c30=>asK .i64 k_24 fun n31=>cond (decide ((n31:Int) < (l29:Int)))
 (asK .i64 k_24 fun n32=>∃J33:RT,
 (cond (decide ((n32:Int) > 0))
 (asS out_23 fun s37=>s37.size+ByteArray.size ⟨#[44,32]⟩≤9223372036854775807∧J33 (.string (s37++⟨#[44,32]⟩)) h26)
 (J33 out_23 h26)) ∧
 ∀out_34 (d35:Nat→Value) (h36:Hp),J33 out_34 h36 →
 ∃v38,ah h36 (Addr.add ⟨h5.size,0,none⟩ 2)=some v38 ∧
 aI v38 fun a39 l40 c41=>asI k_24 fun n42=>0≤(n42:Int)∧n42 < (l40:Int)∧∃v43,ah h36 (Addr.add (Addr.add a39 (n42.toNat*2)) 0)=some v43 ∧
 asS v43 fun s44=>s44.size+ByteArray.size ⟨#[32]⟩≤9223372036854775807∧∃v45,ah h36 (Addr.add ⟨h5.size,0,none⟩ 2)=some v45 ∧
 aI v45 fun a46 l47 c48=>asI k_24 fun n49=>0≤(n49:Int)∧n49 < (l47:Int)∧∃v50,ah h36 (Addr.add (Addr.add a46 (n49.toNat*2)) 1)=some v50 ∧
 aa Tryz.prog ω 50 [v50] h36 (fun r51 h52 =>
 ah h52 (Addr.add (Addr.add a39 (n42.toNat*2)) 0)=some v43∧ah h52 (Addr.add ⟨h5.size,0,none⟩ 2)=some v38∧asS r51 fun s53=>ByteArray.size (s44++⟨#[32]⟩)+s53.size≤9223372036854775807∧asS out_34 fun s54=>s54.size+ByteArray.size ((s44++⟨#[32]⟩)++s53)≤9223372036854775807∧asK .i64 k_24 fun n55=>I21 (.string (s54++((s44++⟨#[32]⟩)++s53))) (.int .i64 (IntKind.wrap .i64 (n55+1))) h52∧μ22 (.string (s54++((s44++⟨#[32]⟩)++s53))) (.int .i64 (IntKind.wrap .i64 (n55+1))) h52 < μ22 out_23 k_24 h26) X)
 (∃v56,ah h26 (Addr.add ⟨h5.size,0,none⟩ 3)=some v56 ∧
 aa Tryz.prog ω 51 [v56,(.string ⟨#[]⟩)] h26 (fun r57 h58 =>
 asS r57 fun s59=>ByteArray.size ⟨#[41]⟩+s59.size≤9223372036854775807∧ByteArray.size (⟨#[41]⟩++s59)+ByteArray.size ⟨#[10]⟩≤9223372036854775807∧asS out_23 fun s60=>s60.size+ByteArray.size ((⟨#[41]⟩++s59)++⟨#[10]⟩)≤9223372036854775807∧asK .i64 i_3 fun n61=>I0 (.string (s60++((⟨#[41]⟩++s59)++⟨#[10]⟩))) (.int .i64 (IntKind.wrap .i64 (n61+1))) h58∧μ1 (.string (s60++((⟨#[41]⟩++s59)++⟨#[10]⟩))) (.int .i64 (IntKind.wrap .i64 (n61+1))) h58 < μ1 out_2 i_3 h5) X))
 (R out_2 h5)
def ox:Ann :=
 (.two .leaf (.two .leaf (.two (.two .leaf (.one (.loop [7,8,9,10,11,14,15,16,17,18,5,19,20,21,22,23,24,3,6,25,26,27,28,29,32,33,34,35,36,37,38,39,40,41,42,43,44,45,46,47,48,49,50,51,52,30,31,53,54,55,56,57,58,59,12,13,4] [3,4] (.two (.two .leaf (.two .leaf .leaf)) (.two (.one (.two .leaf (.two .leaf (.two (.two .leaf (.one (.loop [25,26,27,28,29,32,33,34,35,3,36,37,38,39,40,41,42,43,44,45,46,47,48,49,50,51,52,30,31,6] [3,6] (.two (.two .leaf (.two .leaf .leaf)) (.two (.one (.two (.two .leaf (.join [34,35,3] [3] (.two .leaf .leaf))) (.plan [0,1,2,3,4,5,6,7,8,9,10,11,12,13,14,15,16,17]))) .leaf))))) .leaf)))) .leaf))))) (.two .leaf .leaf))))
theorem ow (ω:Amb)(p_p:Value)(h:Hp)(R:RT)(X:XT)(hk:gj ω p_p h R X):aa Tryz.prog ω 26 [p_p] h R X :=
 al (an:=ox) Tryz.func26 (by kernel_rfl) hk
abbrev jg:Nat:=46
def cQ (ω:Amb)(l_p:Value)(h:Hp)(R:RT)(X:XT):Prop :=
 ∃(I0:Value→RT) (μ1:Value→Value→Hp→Nat),I0 (.slice none 0 0) (.int .i64 0) h∧∀out_2 i_3 (d4:Nat→Value) (h5:Hp),I0 out_2 i_3 h5 →
 bz l_p fun a6 l7 c8=>asK .i64 i_3 fun n9=>cond (decide ((n9:Int) < (l7:Int)))
 (aI l_p fun a10 l11 c12=>asI i_3 fun n13=>0≤(n13:Int)∧n13 < (l11:Int)∧∃C14,aj h5 (Addr.add a10 (n13.toNat*4)) 4 C14 ∧
 C14.toArray.size=4∧(∀u∈C14.toArray.toList,one u)∧au (h5.push (.cells #[(.int .i64 0),(.string ⟨#[]⟩),(.int .i64 0),(.slice none 0 0)] 36 (0,0))) ⟨h5.size,0,none⟩ C14.toArray.toList fun h15 =>
 ∃v16,ah h15 (Addr.add ⟨h5.size,0,none⟩ 3)=some v16 ∧
 aa Tryz.prog ω 46 [v16] h15 (fun r17 h18 =>
 bO r17 (aE h18 (Addr.add ⟨h5.size,0,none⟩ 3) r17 fun h19 =>
 ∃C20,aj h19 ⟨h5.size,0,none⟩ 4 C20 ∧
 C20.toArray.size=4∧uo Tryz.prog 34 (h19.push (.cells (List.toArray (C20.toArray.toList++[])) 36 (0,0))) out_2 (.slice (some ⟨h19.size,0,none⟩) 1 1) fun w21 h22 =>
 asK .i64 i_3 fun n23=>I0 w21 (.int .i64 (IntKind.wrap .i64 (n23+1))) h22∧μ1 w21 (.int .i64 (IntKind.wrap .i64 (n23+1))) h22 < μ1 out_2 i_3 h5)) X)
 (R out_2 h5)
def jq:Ann :=
 (.two .leaf (.two .leaf (.two (.two .leaf (.one (.loop [6,7,8,9,12,13,14,15,5,16,17,18,19,20,21,22,23,3,10,11,4] [3,4] (.two (.two .leaf (.two .leaf .leaf)) (.two (.one (.two .leaf (.two .leaf .leaf))) .leaf))))) (.two .leaf .leaf))))
theorem jd (ω:Amb)(l_p:Value)(h:Hp)(R:RT)(X:XT)(hk:cQ ω l_p h R X):aa Tryz.prog ω 46 [l_p] h R X :=
 al (an:=jq) Tryz.func46 (by kernel_rfl) hk
abbrev li:Nat:=47
def eP (ω:Amb)(s_p:Value)(h:Hp)(R:RT)(X:XT):Prop :=
 ∃J0:RT,
 (asS s_p fun s4=>cond (decide (((s4.size:Int):Int) < 1))
 (J0 (.bool true) h)
 (asS s_p fun s5=>cond (decide (((s5.size:Int):Int) > 12))
 (J0 (.bool true) h)
 (asS s_p fun s6=>0≤(0:Int)∧0 < (s6.size:Int)∧aa Tryz.prog ω 75 [(.int .u8 (aK s6 0))] h (fun r7 h8 =>
 asB r7 fun b9=>cond (!b9)
 (J0 (.bool true) h8)
 (aa Tryz.prog ω 76 [s_p] h8 (fun r10 h11 =>
 J0 r10 h11) X)) X))) ∧
 ∀t21_1 (d2:Nat→Value) (h3:Hp),J0 t21_1 h3 →
 asB t21_1 fun b12=>cond b12
 (R (.bool false) h3)
 (∃(I13:RT) (μ14:Value→Hp→Nat),I13 (.int .i64 0) h3∧∀i_15 (d16:Nat→Value) (h17:Hp),I13 i_15 h17 →
 asS s_p fun s18=>asK .i64 i_15 fun n19=>cond (decide ((n19:Int) < (s18.size:Int)))
 (∃J20:RT,
 (asS s_p fun s24=>asI i_15 fun n25=>0≤(n25:Int)∧n25 < (s24.size:Int)∧aa Tryz.prog ω 75 [(.int .u8 (aK s24 n25))] h17 (fun r26 h27 =>
 asB r26 fun b28=>cond (!b28)
 (asS s_p fun s29=>asI i_15 fun n30=>0≤(n30:Int)∧n30 < (s29.size:Int)∧aa Tryz.prog ω 77 [(.int .u8 (aK s29 n30))] h27 (fun r31 h32 =>
 asB r31 fun b33=>J20 (.bool (!b33)) h32) X)
 (J20 (.bool false) h27)) X) ∧
 ∀t39_21 (d22:Nat→Value) (h23:Hp),J20 t39_21 h23 →
 asB t39_21 fun b34=>cond b34
 (R (.bool false) h23)
 (asK .i64 i_15 fun n35=>I13 (.int .i64 (IntKind.wrap .i64 (n35+1))) h23∧μ14 (.int .i64 (IntKind.wrap .i64 (n35+1))) h23 < μ14 i_15 h17))
 (R (.bool true) h17))
def lD:Ann :=
 (.two .leaf (.two (.two (.join [4,5,6,7,8,9,10,11,12,13,14,15,16,17,18,19,20,21] [21] .leaf) (.two (.two .leaf .leaf) .leaf)) (.two (.two .leaf (.one (.loop [22,23,24,25,28,29,30,31,32,33,34,35,36,37,38,39,2,26,27,3] [3] (.two (.two .leaf (.two .leaf .leaf)) (.two (.one (.two (.join [28,29,30,31,32,33,34,35,36,37,38,39] [39] .leaf) (.two (.two .leaf .leaf) .leaf))) .leaf))))) (.two .leaf .leaf))))
theorem kX (ω:Amb)(s_p:Value)(h:Hp)(R:RT)(X:XT)(hk:eP ω s_p h R X):aa Tryz.prog ω 47 [s_p] h R X :=
 al (an:=lD) Tryz.func47 (by kernel_rfl) hk
abbrev lR:Nat:=48
def eS (ω:Amb)(t_p ends_p:Value)(h:Hp)(R:RT)(X:XT):Prop :=
 ∃β0:Bool,
 (asS t_p fun s2=>cond (decide (((s2.size:Int):Int) < 1))
 (((.bool true):Value)=.bool β0∧h=h)
 (asS t_p fun s3=>asK .i64 ends_p fun n4=>cond (decide (((IntKind.wrap .i64 ((s3.size:Int) - 1)):Int) > n4))
 (((.bool true):Value)=.bool β0∧h=h)
 (asS t_p fun s5=>asS t_p fun s6=>0≤((IntKind.wrap .i64 ((s5.size:Int) - 1)):Int)∧((IntKind.wrap .i64 ((s5.size:Int) - 1)):Int)≤(s6.size:Int)∧(s6.size:Int)≤(s6.size:Int)∧((.bool (!(ByteArray.toList (ByteArray.extract s6 (Int.toNat (IntKind.wrap .i64 ((s5.size:Int) - 1))) (Int.toNat (s6.size:Int)))==ByteArray.toList ⟨#[105]⟩))):Value)=.bool β0∧h=h))) ∧
 ∀d1:Nat→Value,
 cond β0
 (R (.bool false) h)
 (∃(I7:RT) (μ8:Value→Hp→Nat),I7 (.int .i64 0) h∧∀i_9 (d10:Nat→Value) (h11:Hp),I7 i_9 h11 →
 asS t_p fun s12=>asK .i64 i_9 fun n13=>cond (decide ((n13:Int) < (IntKind.wrap .i64 ((s12.size:Int) - 1))))
 (∃β14:Bool,
 (asK .i64 i_9 fun n16=>asS t_p fun s17=>asI i_9 fun n18=>0≤(n18:Int)∧(n18:Int)≤(IntKind.wrap .i64 (n16+1))∧(IntKind.wrap .i64 (n16+1))≤(s17.size:Int)∧cond (!(ByteArray.toList (ByteArray.extract s17 (n18.toNat) (Int.toNat (IntKind.wrap .i64 (n16+1))))==ByteArray.toList ⟨#[115]⟩))
 (asK .i64 i_9 fun n19=>asS t_p fun s20=>asI i_9 fun n21=>0≤(n21:Int)∧(n21:Int)≤(IntKind.wrap .i64 (n19+1))∧(IntKind.wrap .i64 (n19+1))≤(s20.size:Int)∧((.bool (!(ByteArray.toList (ByteArray.extract s20 (n21.toNat) (Int.toNat (IntKind.wrap .i64 (n19+1))))==ByteArray.toList ⟨#[114]⟩))):Value)=.bool β14∧h11=h11)
 (((.bool false):Value)=.bool β14∧h11=h11)) ∧
 ∀d15:Nat→Value,
 cond β14
 (R (.bool false) h11)
 (asK .i64 i_9 fun n22=>I7 (.int .i64 (IntKind.wrap .i64 (n22+1))) h11∧μ8 (.int .i64 (IntKind.wrap .i64 (n22+1))) h11 < μ8 i_9 h11))
 (R (.bool true) h11))
def kT:Ann :=
 (.two .leaf (.two (.two (.jb [6,7,8,9,10,11,12,13,14,15,16,17,18,19,20,21,22,23] 23 .leaf) (.two (.two .leaf .leaf) .leaf)) (.two (.two .leaf (.one (.loop [24,25,26,27,28,31,32,33,34,35,36,37,38,39,40,41,42,43,44,4,29,30,5] [5] (.two (.two .leaf (.two .leaf .leaf)) (.two (.one (.two (.jb [31,32,33,34,35,36,37,38,39,40,41,42,43,44] 44 .leaf) (.two (.two .leaf .leaf) .leaf))) .leaf))))) (.two .leaf .leaf))))
theorem l6 (ω:Amb)(t_p ends_p:Value)(h:Hp)(R:RT)(X:XT)(hk:eS ω t_p ends_p h R X):aa Tryz.prog ω 48 [t_p,ends_p] h R X :=
 al (an:=kT) Tryz.func48 (by kernel_rfl) hk
abbrev im:Nat:=49
def cN (ω:Amb)(l_p at_p deep_p:Value)(h:Hp)(R:RT)(X:XT):Prop :=
 ∃(I0:Value→RT) (μ1:Value→Value→Hp→Nat),I0 at_p (.int .i64 0) (h.push (.cells #[(.int .i64 0),(.int .i64 0)] 28 (0,0)))∧∀at_2 i_3 (d4:Nat→Value) (h5:Hp),I0 at_2 i_3 h5 →
 bz l_p fun a6 l7 c8=>asK .i64 i_3 fun n9=>cond (decide ((n9:Int) < (l7:Int)))
 (aI l_p fun a10 l11 c12=>asI i_3 fun n13=>0≤(n13:Int)∧n13 < (l11:Int)∧∃C14,aj h5 (Addr.add a10 (n13.toNat*9)) 9 C14 ∧
 aa Tryz.prog ω 78 [(.agg C14.toArray),at_2,deep_p] h5 (fun r15 h16 =>
 asK .i64 r15 fun n17=>cond (n17 !=(0:Int))
 (aa Tryz.prog ω 27 [r15,at_2] h16 (fun r18 h19 =>
 asA r18 fun A20=>A20.size=2∧(∀u∈A20.toList,one u)∧au h19 ⟨h.size,0,none⟩ A20.toList fun h21 =>
 ∃C22,aj h21 ⟨h.size,0,none⟩ 2 C22∧R (.tuple #[(.agg C22.toArray),at_2]) h21) X)
 (asK .i64 at_2 fun n23=>aI l_p fun a24 l25 c26=>asI i_3 fun n27=>0≤(n27:Int)∧n27 < (l25:Int)∧∃v28,ah h16 (Addr.add (Addr.add a24 (n27.toNat*9)) 7)=some v28 ∧
 asK .i64 deep_p fun n29=>aa Tryz.prog ω 49 [v28,(.int .i64 (IntKind.wrap .i64 (n23+1))),(.int .i64 (IntKind.wrap .i64 (n29+1)))] h16 (fun r30 h31 =>
 asT r30 fun T32=>asO T32[0]? fun v33=>asT r30 fun T34=>asO T34[1]? fun v35=>asA v33 fun A36=>A36.size=2∧(∀u∈A36.toList,one u)∧au (h31.push (.cells #[(.int .i64 0),(.int .i64 0)] 28 (0,0))) ⟨h31.size,0,none⟩ A36.toList fun h37 =>
 ∃v38,ah h37 (Addr.add ⟨h31.size,0,none⟩ 0)=some v38 ∧
 asK .i64 v38 fun n39=>∃J40:RT,
 (cond (n39==(0:Int))
 (aI l_p fun a44 l45 c46=>asI i_3 fun n47=>0≤(n47:Int)∧n47 < (l45:Int)∧∃v48,ah h37 (Addr.add (Addr.add a44 (n47.toNat*9)) 8)=some v48 ∧
 asK .i64 deep_p fun n49=>aa Tryz.prog ω 49 [v48,v35,(.int .i64 (IntKind.wrap .i64 (n49+1)))] h37 (fun r50 h51 =>
 asT r50 fun T52=>asO T52[0]? fun v53=>asT r50 fun T54=>asO T54[1]? fun v55=>asA v53 fun A56=>A56.size=2∧(∀u∈A56.toList,one u)∧au h51 ⟨h31.size,0,none⟩ A56.toList fun h57 =>
 J40 v55 h57) X)
 (J40 v35 h37)) ∧
 ∀n_41 (d42:Nat→Value) (h43:Hp),J40 n_41 h43 →
 ∃v58,ah h43 (Addr.add ⟨h31.size,0,none⟩ 0)=some v58 ∧
 asK .i64 v58 fun n59=>cond (n59 !=(0:Int))
 (∃C60,aj h43 ⟨h31.size,0,none⟩ 2 C60 ∧
 C60.toArray.size=2∧(∀u∈C60.toArray.toList,one u)∧au h43 ⟨h.size,0,none⟩ C60.toArray.toList fun h61 =>
 ∃C62,aj h61 ⟨h.size,0,none⟩ 2 C62∧R (.tuple #[(.agg C62.toArray),n_41]) h61)
 (asK .i64 i_3 fun n63=>I0 n_41 (.int .i64 (IntKind.wrap .i64 (n63+1))) h43∧μ1 n_41 (.int .i64 (IntKind.wrap .i64 (n63+1))) h43 < μ1 at_2 i_3 h5)) X)) X)
 (2=2∧(∀u∈[(.int .i64 0),(.int .i64 0)],one u)∧au h5 ⟨h.size,0,none⟩ [(.int .i64 0),(.int .i64 0)] fun h64 =>
 ∃C65,aj h64 ⟨h.size,0,none⟩ 2 C65∧R (.tuple #[(.agg C65.toArray),at_2]) h64)
def ie:Ann :=
 (.two .leaf (.two (.two .leaf (.one (.loop [12,13,14,15,18,19,20,21,22,23,24,9,25,26,27,28,29,30,7,31,32,1,34,35,36,37,38,39,40,41,42,33,43,44,10,11,45,46,47,49,50,51,52,53,54,55,56,57,48,58,59,60,61,62,63,64,65,16,17,8] [1,8] (.two (.two .leaf (.two .leaf .leaf)) (.two (.one (.two (.two .leaf (.two .leaf (.two (.two .leaf .leaf) .leaf))) (.two .leaf (.two .leaf (.two (.two .leaf (.join [49,50,51,52,53,54,55,56,57,48,58,59,11] [11] (.two .leaf .leaf))) (.two (.two .leaf (.two (.two .leaf .leaf) .leaf)) .leaf)))))) .leaf))))) (.two .leaf .leaf)))
theorem ig (ω:Amb)(l_p at_p deep_p:Value)(h:Hp)(R:RT)(X:XT)(hk:cN ω l_p at_p deep_p h R X):aa Tryz.prog ω 49 [l_p,at_p,deep_p] h R X :=
 al (an:=ie) Tryz.func49 (by kernel_rfl) hk
abbrev jV:Nat:=50
def dA (ω:Amb)(t_p:Value)(h:Hp)(R:RT)(X:XT):Prop :=
 ∃(I0:Value→RT) (μ1:Value→Value→Hp→Nat),I0 (.string ⟨#[]⟩) (.int .i64 0) h∧∀out_2 i_3 (d4:Nat→Value) (h5:Hp),I0 out_2 i_3 h5 →
 asS t_p fun s6=>asK .i64 i_3 fun n7=>cond (decide ((n7:Int) < (IntKind.wrap .i64 ((s6.size:Int) - 1))))
 (∃J8:RT,
 (asK .i64 i_3 fun n12=>asS t_p fun s13=>asI i_3 fun n14=>0≤(n14:Int)∧(n14:Int)≤(IntKind.wrap .i64 (n12+1))∧(IntKind.wrap .i64 (n12+1))≤(s13.size:Int)∧∃J15:RT,
 (cond (ByteArray.toList (ByteArray.extract s13 (n14.toNat) (Int.toNat (IntKind.wrap .i64 (n12+1))))==ByteArray.toList ⟨#[115]⟩)
 (asS out_2 fun s19=>s19.size+ByteArray.size ⟨#[115,101,110,100,32]⟩≤9223372036854775807∧J15 (.string (s19++⟨#[115,101,110,100,32]⟩)) h5)
 (asS out_2 fun s20=>s20.size+ByteArray.size ⟨#[114,101,99,118,32]⟩≤9223372036854775807∧J15 (.string (s20++⟨#[114,101,99,118,32]⟩)) h5)) ∧
 ∀out_16 (d17:Nat→Value) (h18:Hp),J15 out_16 h18 →
 J8 out_16 h18) ∧
 ∀out_9 (d10:Nat→Value) (h11:Hp),J8 out_9 h11 →
 asK .i64 i_3 fun n21=>I0 out_9 (.int .i64 (IntKind.wrap .i64 (n21+1))) h11∧μ1 out_9 (.int .i64 (IntKind.wrap .i64 (n21+1))) h11 < μ1 out_2 i_3 h5)
 (asS out_2 fun s22=>s22.size+ByteArray.size ⟨#[105,110,116]⟩≤9223372036854775807∧R (.string (s22++⟨#[105,110,116]⟩)) h5)
def jv:Ann :=
 (.two .leaf (.two .leaf (.two (.two .leaf (.one (.loop [5,6,7,8,9,12,13,14,15,16,17,18,19,3,20,21,10,11,4] [3,4] (.two (.two .leaf (.two .leaf .leaf)) (.two (.join [12,13,14,15,16,17,18,19,3,20,21] [3] (.one (.two .leaf (.join [18,19,3,20,21] [3] (.two .leaf .leaf))))) .leaf))))) (.two .leaf .leaf))))
theorem jI (ω:Amb)(t_p:Value)(h:Hp)(R:RT)(X:XT)(hk:dA ω t_p h R X):aa Tryz.prog ω 50 [t_p] h R X :=
 al (an:=jv) Tryz.func50 (by kernel_rfl) hk
abbrev jr:Nat:=51
def cT (ω:Amb)(l_p tabs_p:Value)(h:Hp)(R:RT)(X:XT):Prop :=
 ∃(I0:Value→RT) (μ1:Value→Value→Hp→Nat),I0 (.string ⟨#[32,123,10]⟩) (.int .i64 0) h∧∀out_2 i_3 (d4:Nat→Value) (h5:Hp),I0 out_2 i_3 h5 →
 bz l_p fun a6 l7 c8=>asK .i64 i_3 fun n9=>cond (decide ((n9:Int) < (l7:Int)))
 (aI l_p fun a10 l11 c12=>asI i_3 fun n13=>0≤(n13:Int)∧n13 < (l11:Int)∧∃C14,aj h5 (Addr.add a10 (n13.toNat*9)) 9 C14 ∧
 asS tabs_p fun s15=>s15.size+ByteArray.size ⟨#[9]⟩≤9223372036854775807∧aa Tryz.prog ω 79 [(.agg C14.toArray),(.string (s15++⟨#[9]⟩))] h5 (fun r16 h17 =>
 asS out_2 fun s18=>asS r16 fun s19=>s18.size+s19.size≤9223372036854775807∧asK .i64 i_3 fun n20=>I0 (.string (s18++s19)) (.int .i64 (IntKind.wrap .i64 (n20+1))) h17∧μ1 (.string (s18++s19)) (.int .i64 (IntKind.wrap .i64 (n20+1))) h17 < μ1 out_2 i_3 h5) X)
 (asS out_2 fun s21=>asS tabs_p fun s22=>s21.size+s22.size≤9223372036854775807∧ByteArray.size (s21++s22)+ByteArray.size ⟨#[125]⟩≤9223372036854775807∧R (.string ((s21++s22)++⟨#[125]⟩)) h5)
def iZ:Ann :=
 (.two .leaf (.two .leaf (.two (.two .leaf (.one (.loop [7,8,9,10,13,14,15,16,17,18,19,20,21,5,11,12,6] [5,6] (.two (.two .leaf (.two .leaf .leaf)) (.two (.one .leaf) .leaf))))) (.two .leaf .leaf))))
theorem iW (ω:Amb)(l_p tabs_p:Value)(h:Hp)(R:RT)(X:XT)(hk:cT ω l_p tabs_p h R X):aa Tryz.prog ω 51 [l_p,tabs_p] h R X :=
 al (an:=iZ) Tryz.func51 (by kernel_rfl) hk
abbrev nu:Nat:=75
def fM (ω:Amb)(c_p:Value)(h:Hp)(R:RT)(X:XT):Prop :=
 ∃J0:RT,
 (asK .u8 c_p fun n4=>cond (decide ((n4:Int)≥97))
 (asK .u8 c_p fun n5=>J0 (.bool (decide ((n5:Int)≤122))) h)
 (J0 (.bool false) h)) ∧
 ∀t2_1 (d2:Nat→Value) (h3:Hp),J0 t2_1 h3 →
 R t2_1 h3
def nx:Ann :=
 (.two .leaf (.two (.join [3,4,5,6,7,8,2] [2] .leaf) .leaf))
theorem nI (ω:Amb)(c_p:Value)(h:Hp)(R:RT)(X:XT)(hk:fM ω c_p h R X):aa Tryz.prog ω 75 [c_p] h R X :=
 al (an:=nx) Tryz.func75 (by kernel_rfl) hk
abbrev lL:Nat:=76
def eQ (ω:Amb)(s_p:Value)(h:Hp)(R:RT)(X:XT):Prop :=
 ∃(I0:RT) (μ1:Value→Hp→Nat),I0 (.int .i64 0) (h.push (.cells (List.toArray [(.string ⟨#[97,98,97,110,100,111,110]⟩),(.string ⟨#[99,104,97,110]⟩),(.string ⟨#[99,108,111,110,101]⟩),(.string ⟨#[99,108,111,115,101]⟩),(.string ⟨#[100,114,97,105,110]⟩),(.string ⟨#[101,108,115,101]⟩),(.string ⟨#[101,109,105,116]⟩),(.string ⟨#[102,111,114]⟩),(.string ⟨#[102,114,111,109]⟩),(.string ⟨#[105,102]⟩),(.string ⟨#[105,110,116]⟩),(.string ⟨#[108,101,116]⟩),(.string ⟨#[114,101,99,118]⟩),(.string ⟨#[114,101,112,101,97,116]⟩),(.string ⟨#[115,101,110,100]⟩),(.string ⟨#[115,101,116]⟩),(.string ⟨#[115,112,97,119,110]⟩),(.string ⟨#[115,116,97,103,101]⟩),(.string ⟨#[116,97,107,101]⟩)]) 9 (0,0)))∧∀i_2 (d3:Nat→Value) (h4:Hp),I0 i_2 h4 →
 asK .i64 i_2 fun n5=>cond (decide ((n5:Int) < (19:Int)))
 (asI i_2 fun n6=>0≤(n6:Int)∧n6 < (19:Int)∧∃v7,ah h4 (Addr.add ⟨h.size,0,none⟩ (n6.toNat*1))=some v7 ∧
 asS v7 fun s8=>asS s_p fun s9=>cond (s8.toList==s9.toList)
 (R (.bool true) h4)
 (asK .i64 i_2 fun n10=>I0 (.int .i64 (IntKind.wrap .i64 (n10+1))) h4∧μ1 (.int .i64 (IntKind.wrap .i64 (n10+1))) h4 < μ1 i_2 h4))
 (R (.bool false) h4)
def ly:Ann :=
 (.two .leaf (.two .leaf (.two (.two .leaf (.one (.loop [6,7,8,9,12,13,14,15,16,17,2,10,11,4] [4] (.two (.two .leaf (.two .leaf .leaf)) (.two (.one (.two .leaf (.two (.two .leaf .leaf) .leaf))) .leaf))))) (.two .leaf .leaf))))
theorem lS (ω:Amb)(s_p:Value)(h:Hp)(R:RT)(X:XT)(hk:eQ ω s_p h R X):aa Tryz.prog ω 76 [s_p] h R X :=
 al (an:=ly) Tryz.func76 (by kernel_rfl) hk
abbrev nE:Nat:=77
def fw (ω:Amb)(c_p:Value)(h:Hp)(R:RT)(X:XT):Prop :=
 ∃J0:RT,
 (asK .u8 c_p fun n4=>cond (decide ((n4:Int)≥48))
 (asK .u8 c_p fun n5=>J0 (.bool (decide ((n5:Int)≤57))) h)
 (J0 (.bool false) h)) ∧
 ∀t2_1 (d2:Nat→Value) (h3:Hp),J0 t2_1 h3 →
 R t2_1 h3
def mF:Ann :=
 (.two .leaf (.two (.join [3,4,5,6,7,8,2] [2] .leaf) .leaf))
theorem mY (ω:Amb)(c_p:Value)(h:Hp)(R:RT)(X:XT)(hk:fw ω c_p h R X):aa Tryz.prog ω 77 [c_p] h R X :=
 al (an:=mF) Tryz.func77 (by kernel_rfl) hk
abbrev jt:Nat:=78
def cV (ω:Amb)(s_p at_p deep_p:Value)(h:Hp)(R:RT)(X:XT):Prop :=
 asK .i64 at_p fun n0=>cond (decide ((n0:Int)≥300))
 (R (.int .i64 8) (h.push (.cells (Value.cells s_p) 39 (0,0))))
 (∃C1,aj (h.push (.cells (Value.cells s_p) 39 (0,0))) ⟨h.size,0,none⟩ 9 C1 ∧
 aa Tryz.prog ω 102 [(.agg C1.toArray)] (h.push (.cells (Value.cells s_p) 39 (0,0))) (fun r2 h3 =>
 asB r2 fun b4=>cond (!b4)
 (R (.int .i64 5) h3)
 (∃v5,ah h3 (Addr.add ⟨h.size,0,none⟩ 6)=some v5 ∧
 bz v5 fun a6 l7 c8=>cond (decide (((l7:Int):Int) > 6))
 (R (.int .i64 8) h3)
 (∃v9,ah h3 (Addr.add ⟨h.size,0,none⟩ 0)=some v9 ∧
 aa Tryz.prog ω 103 [v9] h3 (fun r10 h11 =>
 ∃J12:RT,
 (asS r10 fun s16=>0≤(0:Int)∧(0:Int)≤1∧1≤(s16.size:Int)∧cond (ByteArray.toList (ByteArray.extract s16 (Int.toNat 0) (Int.toNat 1))==ByteArray.toList ⟨#[65]⟩)
 (∃v17,ah h11 (Addr.add ⟨h.size,0,none⟩ 2)=some v17 ∧
 aa Tryz.prog ω 47 [v17] h11 (fun r18 h19 =>
 asB r18 fun b20=>cond (!b20)
 (J12 (.bool true) h19)
 (asS r10 fun s21=>0≤(1:Int)∧(1:Int)≤2∧2≤(s21.size:Int)∧cond (ByteArray.toList (ByteArray.extract s21 (Int.toNat 1) (Int.toNat 2))==ByteArray.toList ⟨#[66]⟩)
 (∃v22,ah h19 (Addr.add ⟨h.size,0,none⟩ 3)=some v22 ∧
 aa Tryz.prog ω 47 [v22] h19 (fun r23 h24 =>
 asB r23 fun b25=>J12 (.bool (!b25)) h24) X)
 (J12 (.bool false) h19))) X)
 (asS r10 fun s26=>0≤(1:Int)∧(1:Int)≤2∧2≤(s26.size:Int)∧cond (ByteArray.toList (ByteArray.extract s26 (Int.toNat 1) (Int.toNat 2))==ByteArray.toList ⟨#[66]⟩)
 (∃v27,ah h11 (Addr.add ⟨h.size,0,none⟩ 3)=some v27 ∧
 aa Tryz.prog ω 47 [v27] h11 (fun r28 h29 =>
 asB r28 fun b30=>J12 (.bool (!b30)) h29) X)
 (J12 (.bool false) h11))) ∧
 ∀t41_13 (d14:Nat→Value) (h15:Hp),J12 t41_13 h15 →
 asB t41_13 fun b31=>cond b31
 (R (.int .i64 4) h15)
 (∃J32:RT,
 (asS r10 fun s36=>0≤(2:Int)∧(2:Int)≤3∧3≤(s36.size:Int)∧cond (ByteArray.toList (ByteArray.extract s36 (Int.toNat 2) (Int.toNat 3))==ByteArray.toList ⟨#[84]⟩)
 (∃v37,ah h15 (Addr.add ⟨h.size,0,none⟩ 4)=some v37 ∧
 aa Tryz.prog ω 48 [v37,(.int .i64 3)] h15 (fun r38 h39 =>
 asB r38 fun b40=>J32 (.bool (!b40)) h39) X)
 (J32 (.bool false) h15)) ∧
 ∀t50_33 (d34:Nat→Value) (h35:Hp),J32 t50_33 h35 →
 asB t50_33 fun b41=>cond b41
 (R (.int .i64 11) h35)
 (∃β42:Bool,
 (∃v44,ah h35 (Addr.add ⟨h.size,0,none⟩ 5)=some v44 ∧
 asK .i64 v44 fun n45=>cond (decide ((n45:Int) < 0))
 (((.bool true):Value)=.bool β42∧h35=h35)
 (∃v46,ah h35 (Addr.add ⟨h.size,0,none⟩ 5)=some v46 ∧
 asK .i64 v46 fun n47=>((.bool (decide ((n47:Int)≥1000000000000000000))):Value)=.bool β42∧h35=h35)) ∧
 ∀d43:Nat→Value,
 cond β42
 (R (.int .i64 14) h35)
 (∃(I48:RT) (μ49:Value→Hp→Nat),I48 (.int .i64 0) h35∧∀i_50 (d51:Nat→Value) (h52:Hp),I48 i_50 h52 →
 ∃v53,ah h52 (Addr.add ⟨h.size,0,none⟩ 6)=some v53 ∧
 bz v53 fun a54 l55 c56=>asK .i64 i_50 fun n57=>cond (decide ((n57:Int) < (l55:Int)))
 (∃v58,ah h52 (Addr.add ⟨h.size,0,none⟩ 6)=some v58 ∧
 aI v58 fun a59 l60 c61=>asI i_50 fun n62=>0≤(n62:Int)∧n62 < (l60:Int)∧∃C63,aj h52 (Addr.add a59 (n62.toNat*4)) 4 C63 ∧
 aa Tryz.prog ω 104 [(.agg C63.toArray)] h52 (fun r64 h65 =>
 asK .i64 r64 fun n66=>cond (decide ((n66:Int) > 20))
 (R (.int .i64 8) h65)
 (∃v67,ah h65 (Addr.add ⟨h.size,0,none⟩ 6)=some v67 ∧
 aI v67 fun a68 l69 c70=>asI i_50 fun n71=>0≤(n71:Int)∧n71 < (l69:Int)∧∃C72,aj h65 (Addr.add a68 (n71.toNat*4)) 4 C72 ∧
 aa Tryz.prog ω 105 [(.agg C72.toArray)] h65 (fun r73 h74 =>
 asK .i64 r73 fun n75=>cond (n75 !=(0:Int))
 (R r73 h74)
 (asK .i64 i_50 fun n76=>I48 (.int .i64 (IntKind.wrap .i64 (n76+1))) h74∧μ49 (.int .i64 (IntKind.wrap .i64 (n76+1))) h74 < μ49 i_50 h52)) X)) X)
 (∃β77:Bool,
 (asS r10 fun s79=>0≤(5:Int)∧(5:Int)≤6∧6≤(s79.size:Int)∧cond (ByteArray.toList (ByteArray.extract s79 (Int.toNat 5) (Int.toNat 6))==ByteArray.toList ⟨#[66]⟩)
 (asK .i64 deep_p fun n80=>((.bool (decide ((n80:Int)≥8))):Value)=.bool β77∧h52=h52)
 (((.bool false):Value)=.bool β77∧h52=h52)) ∧
 ∀d78:Nat→Value,
 cond β77
 (R (.int .i64 7) h52)
 (R (.int .i64 0) h52)))))) X))) X)
def js:Ann :=
 (.two .leaf (.two (.two .leaf (.two (.two .leaf .leaf) .leaf)) (.two (.two .leaf (.two (.two .leaf .leaf) .leaf)) (.two (.two .leaf (.two (.two .leaf .leaf) .leaf)) (.two .leaf (.two (.two (.join [22,23,24,25,26,27,28,29,30,31,32,33,34,35,36,37,38,39,40,41] [41] .leaf) (.two (.two .leaf .leaf) .leaf)) (.two (.two (.join [42,43,44,45,46,47,48,49,50] [50] .leaf) (.two (.two .leaf .leaf) .leaf)) (.two (.two (.jb [51,52,53,54,55,56,57,58] 58 .leaf) (.two (.two .leaf .leaf) .leaf)) (.two (.two .leaf (.one (.loop [59,60,61,62,63,66,67,68,69,70,71,72,6,73,74,75,76,77,78,9,79,80,81,64,65,8] [8] (.two (.two .leaf (.two .leaf .leaf)) (.two (.one (.two (.two .leaf (.two (.two .leaf .leaf) .leaf)) (.two .leaf (.two .leaf (.two (.two .leaf .leaf) .leaf))))) .leaf))))) (.two (.two (.jb [82,83,84,85,86,87,88] 88 .leaf) (.two (.two .leaf .leaf) .leaf)) (.two .leaf .leaf)))))))))))
theorem iP (ω:Amb)(s_p at_p deep_p:Value)(h:Hp)(R:RT)(X:XT)(hk:cV ω s_p at_p deep_p h R X):aa Tryz.prog ω 78 [s_p,at_p,deep_p] h R X :=
 al (an:=js) Tryz.func78 (by kernel_rfl) hk
abbrev jP:Nat:=79
def dB (ω:Amb)(s_p tabs_p:Value)(h:Hp)(R:RT)(X:XT):Prop :=
 ∃v0,ah (Array.push (h.push (.cells (Value.cells s_p) 39 (0,0))) (.cells (List.toArray [(.string ⟨#[]⟩),(.string ⟨#[108,101,116]⟩),(.string ⟨#[115,101,116]⟩),(.string ⟨#[101,109,105,116]⟩),(.string ⟨#[99,104,97,110]⟩),(.string ⟨#[99,108,111,110,101]⟩),(.string ⟨#[115,101,110,100]⟩),(.string ⟨#[99,108,111,115,101]⟩),(.string ⟨#[97,98,97,110,100,111,110]⟩),(.string ⟨#[100,114,97,105,110]⟩),(.string ⟨#[115,112,97,119,110]⟩),(.string ⟨#[116,97,107,101]⟩),(.string ⟨#[102,111,114]⟩),(.string ⟨#[114,101,112,101,97,116]⟩),(.string ⟨#[105,102]⟩)]) 9 (0,0))) (Addr.add ⟨h.size,0,none⟩ 0)=some v0 ∧
 asI v0 fun n1=>0≤(n1:Int)∧n1 < (15:Int)∧∃v2,ah (Array.push (h.push (.cells (Value.cells s_p) 39 (0,0))) (.cells (List.toArray [(.string ⟨#[]⟩),(.string ⟨#[108,101,116]⟩),(.string ⟨#[115,101,116]⟩),(.string ⟨#[101,109,105,116]⟩),(.string ⟨#[99,104,97,110]⟩),(.string ⟨#[99,108,111,110,101]⟩),(.string ⟨#[115,101,110,100]⟩),(.string ⟨#[99,108,111,115,101]⟩),(.string ⟨#[97,98,97,110,100,111,110]⟩),(.string ⟨#[100,114,97,105,110]⟩),(.string ⟨#[115,112,97,119,110]⟩),(.string ⟨#[116,97,107,101]⟩),(.string ⟨#[102,111,114]⟩),(.string ⟨#[114,101,112,101,97,116]⟩),(.string ⟨#[105,102]⟩)]) 9 (0,0))) (Addr.add ⟨Array.size (h.push (.cells (Value.cells s_p) 39 (0,0))),0,none⟩ (n1.toNat*1))=some v2 ∧
 asS tabs_p fun s3=>asS v2 fun s4=>s3.size+s4.size≤9223372036854775807∧∃v5,ah (Array.push (h.push (.cells (Value.cells s_p) 39 (0,0))) (.cells (List.toArray [(.string ⟨#[]⟩),(.string ⟨#[108,101,116]⟩),(.string ⟨#[115,101,116]⟩),(.string ⟨#[101,109,105,116]⟩),(.string ⟨#[99,104,97,110]⟩),(.string ⟨#[99,108,111,110,101]⟩),(.string ⟨#[115,101,110,100]⟩),(.string ⟨#[99,108,111,115,101]⟩),(.string ⟨#[97,98,97,110,100,111,110]⟩),(.string ⟨#[100,114,97,105,110]⟩),(.string ⟨#[115,112,97,119,110]⟩),(.string ⟨#[116,97,107,101]⟩),(.string ⟨#[102,111,114]⟩),(.string ⟨#[114,101,112,101,97,116]⟩),(.string ⟨#[105,102]⟩)]) 9 (0,0))) (Addr.add ⟨h.size,0,none⟩ 2)=some v5 ∧
 asS v5 fun s6=>∃J7:RT,
 (cond (!(s6.toList==ByteArray.toList ⟨#[]⟩))
 (∃v11,ah (Array.push (h.push (.cells (Value.cells s_p) 39 (0,0))) (.cells (List.toArray [(.string ⟨#[]⟩),(.string ⟨#[108,101,116]⟩),(.string ⟨#[115,101,116]⟩),(.string ⟨#[101,109,105,116]⟩),(.string ⟨#[99,104,97,110]⟩),(.string ⟨#[99,108,111,110,101]⟩),(.string ⟨#[115,101,110,100]⟩),(.string ⟨#[99,108,111,115,101]⟩),(.string ⟨#[97,98,97,110,100,111,110]⟩),(.string ⟨#[100,114,97,105,110]⟩),(.string ⟨#[115,112,97,119,110]⟩),(.string ⟨#[116,97,107,101]⟩),(.string ⟨#[102,111,114]⟩),(.string ⟨#[114,101,112,101,97,116]⟩),(.string ⟨#[105,102]⟩)]) 9 (0,0))) (Addr.add ⟨h.size,0,none⟩ 2)=some v11 ∧
 asS v11 fun s12=>ByteArray.size ⟨#[32]⟩+s12.size≤9223372036854775807∧ByteArray.size (s3++s4)+ByteArray.size (⟨#[32]⟩++s12)≤9223372036854775807∧J7 (.string ((s3++s4)++(⟨#[32]⟩++s12))) (Array.push (h.push (.cells (Value.cells s_p) 39 (0,0))) (.cells (List.toArray [(.string ⟨#[]⟩),(.string ⟨#[108,101,116]⟩),(.string ⟨#[115,101,116]⟩),(.string ⟨#[101,109,105,116]⟩),(.string ⟨#[99,104,97,110]⟩),(.string ⟨#[99,108,111,110,101]⟩),(.string ⟨#[115,101,110,100]⟩),(.string ⟨#[99,108,111,115,101]⟩),(.string ⟨#[97,98,97,110,100,111,110]⟩),(.string ⟨#[100,114,97,105,110]⟩),(.string ⟨#[115,112,97,119,110]⟩),(.string ⟨#[116,97,107,101]⟩),(.string ⟨#[102,111,114]⟩),(.string ⟨#[114,101,112,101,97,116]⟩),(.string ⟨#[105,102]⟩)]) 9 (0,0))))
 (J7 (.string (s3++s4)) (Array.push (h.push (.cells (Value.cells s_p) 39 (0,0))) (.cells (List.toArray [(.string ⟨#[]⟩),(.string ⟨#[108,101,116]⟩),(.string ⟨#[115,101,116]⟩),(.string ⟨#[101,109,105,116]⟩),(.string ⟨#[99,104,97,110]⟩),(.string ⟨#[99,108,111,110,101]⟩),(.string ⟨#[115,101,110,100]⟩),(.string ⟨#[99,108,111,115,101]⟩),(.string ⟨#[97,98,97,110,100,111,110]⟩),(.string ⟨#[100,114,97,105,110]⟩),(.string ⟨#[115,112,97,119,110]⟩),(.string ⟨#[116,97,107,101]⟩),(.string ⟨#[102,111,114]⟩),(.string ⟨#[114,101,112,101,97,116]⟩),(.string ⟨#[105,102]⟩)]) 9 (0,0))))) ∧
 ∀out_8 (d9:Nat→Value) (h10:Hp),J7 out_8 h10 →
 ∃β13:Bool,
 (∃v15,ah h10 (Addr.add ⟨h.size,0,none⟩ 0)=some v15 ∧
 asK .i64 v15 fun n16=>cond (n16==(1:Int))
 (((.bool true):Value)=.bool β13∧h10=h10)
 (∃v17,ah h10 (Addr.add ⟨h.size,0,none⟩ 0)=some v17 ∧
 asK .i64 v17 fun n18=>((.bool (n18==(2:Int))):Value)=.bool β13∧h10=h10)) ∧
 ∀d14:Nat→Value,
 ∃J19:RT,
 (cond β13
 (asS out_8 fun s23=>s23.size+ByteArray.size ⟨#[32,61]⟩≤9223372036854775807∧J19 (.string (s23++⟨#[32,61]⟩)) h10)
 (J19 out_8 h10)) ∧
 ∀out_20 (d21:Nat→Value) (h22:Hp),J19 out_20 h22 →
 ∃β24:Bool,
 (∃v26,ah h22 (Addr.add ⟨h.size,0,none⟩ 0)=some v26 ∧
 asK .i64 v26 fun n27=>cond (n27==(11:Int))
 (((.bool true):Value)=.bool β24∧h22=h22)
 (∃v28,ah h22 (Addr.add ⟨h.size,0,none⟩ 0)=some v28 ∧
 asK .i64 v28 fun n29=>((.bool (n29==(12:Int))):Value)=.bool β24∧h22=h22)) ∧
 ∀d25:Nat→Value,
 ∃J30:RT,
 (cond β24
 (asS out_20 fun s34=>s34.size+ByteArray.size ⟨#[32,102,114,111,109]⟩≤9223372036854775807∧J30 (.string (s34++⟨#[32,102,114,111,109]⟩)) h22)
 (J30 out_20 h22)) ∧
 ∀out_31 (d32:Nat→Value) (h33:Hp),J30 out_31 h33 →
 ∃v35,ah h33 (Addr.add ⟨h.size,0,none⟩ 3)=some v35 ∧
 asS v35 fun s36=>∃J37:RT,
 (cond (!(s36.toList==ByteArray.toList ⟨#[]⟩))
 (∃v41,ah h33 (Addr.add ⟨h.size,0,none⟩ 3)=some v41 ∧
 asS v41 fun s42=>ByteArray.size ⟨#[32]⟩+s42.size≤9223372036854775807∧asS out_31 fun s43=>s43.size+ByteArray.size (⟨#[32]⟩++s42)≤9223372036854775807∧J37 (.string (s43++(⟨#[32]⟩++s42))) h33)
 (J37 out_31 h33)) ∧
 ∀out_38 (d39:Nat→Value) (h40:Hp),J37 out_38 h40 →
 ∃v44,ah h40 (Addr.add ⟨h.size,0,none⟩ 0)=some v44 ∧
 asK .i64 v44 fun n45=>∃J46:RT,
 (cond (n45==(4:Int))
 (∃v50,ah h40 (Addr.add ⟨h.size,0,none⟩ 4)=some v50 ∧
 ∃v51,ah h40 (Addr.add ⟨h.size,0,none⟩ 5)=some v51 ∧
 aa Tryz.prog ω 50 [v50] h40 (fun r52 h53 =>
 ah h53 (Addr.add ⟨h.size,0,none⟩ 5)=some v51∧asS r52 fun s54=>ByteArray.size ⟨#[32]⟩+s54.size≤9223372036854775807∧ByteArray.size (⟨#[32]⟩++s54)+ByteArray.size ⟨#[32]⟩≤9223372036854775807∧aa Tryz.prog ω 106 [v51] h53 (fun r55 h56 =>
 asS r55 fun s57=>ByteArray.size ((⟨#[32]⟩++s54)++⟨#[32]⟩)+s57.size≤9223372036854775807∧asS out_38 fun s58=>s58.size+ByteArray.size (((⟨#[32]⟩++s54)++⟨#[32]⟩)++s57)≤9223372036854775807∧J46 (.string (s58++(((⟨#[32]⟩++s54)++⟨#[32]⟩)++s57))) h56) X) X)
 (J46 out_38 h40)) ∧
 ∀out_47 (d48:Nat→Value) (h49:Hp),J46 out_47 h49 →
 ∃v59,ah h49 (Addr.add ⟨h.size,0,none⟩ 0)=some v59 ∧
 asK .i64 v59 fun n60=>∃J61:RT,
 (cond (n60==(10:Int))
 (asS out_47 fun s65=>s65.size+ByteArray.size ⟨#[40]⟩≤9223372036854775807∧J61 (.string (s65++⟨#[40]⟩)) h49)
 (J61 out_47 h49)) ∧
 ∀out_62 (d63:Nat→Value) (h64:Hp),J61 out_62 h64 →
 ∃(I66:Value→RT) (μ67:Value→Value→Hp→Nat),I66 out_62 (.int .i64 0) h64∧∀out_68 i_69 (d70:Nat→Value) (h71:Hp),I66 out_68 i_69 h71 →
 ∃v72,ah h71 (Addr.add ⟨h.size,0,none⟩ 6)=some v72 ∧
 bz v72 fun a73 l74 c75=>asK .i64 i_69 fun n76=>cond (decide ((n76:Int) < (l74:Int)))
 (asK .i64 i_69 fun n77=>∃J78:RT,
 (cond (decide ((n77:Int) > 0))
 (asS out_68 fun s82=>s82.size+ByteArray.size ⟨#[44]⟩≤9223372036854775807∧J78 (.string (s82++⟨#[44]⟩)) h71)
 (J78 out_68 h71)) ∧
 ∀out_79 (d80:Nat→Value) (h81:Hp),J78 out_79 h81 →
 ∃β83:Bool,
 (asK .i64 i_69 fun n85=>cond (decide ((n85:Int) > 0))
 (((.bool true):Value)=.bool β83∧h81=h81)
 (∃v86,ah h81 (Addr.add ⟨h.size,0,none⟩ 0)=some v86 ∧
 asK .i64 v86 fun n87=>((.bool (n87 !=(10:Int))):Value)=.bool β83∧h81=h81)) ∧
 ∀d84:Nat→Value,
 ∃J88:RT,
 (cond β83
 (asS out_79 fun s92=>s92.size+ByteArray.size ⟨#[32]⟩≤9223372036854775807∧J88 (.string (s92++⟨#[32]⟩)) h81)
 (J88 out_79 h81)) ∧
 ∀out_89 (d90:Nat→Value) (h91:Hp),J88 out_89 h91 →
 ∃v93,ah h91 (Addr.add ⟨h.size,0,none⟩ 6)=some v93 ∧
 aI v93 fun a94 l95 c96=>asI i_69 fun n97=>0≤(n97:Int)∧n97 < (l95:Int)∧∃C98,aj h91 (Addr.add a94 (n97.toNat*4)) 4 C98 ∧
 aa Tryz.prog ω 107 [(.agg C98.toArray),(.int .i64 0)] h91 (fun r99 h100 =>
 asS out_89 fun s101=>asS r99 fun s102=>s101.size+s102.size≤9223372036854775807∧asK .i64 i_69 fun n103=>I66 (.string (s101++s102)) (.int .i64 (IntKind.wrap .i64 (n103+1))) h100∧μ67 (.string (s101++s102)) (.int .i64 (IntKind.wrap .i64 (n103+1))) h100 < μ67 out_68 i_69 h71) X)
 (∃v104,ah h71 (Addr.add ⟨h.size,0,none⟩ 0)=some v104 ∧
 asK .i64 v104 fun n105=>∃J106:RT,
 (cond (n105==(10:Int))
 (asS out_68 fun s110=>s110.size+ByteArray.size ⟨#[41]⟩≤9223372036854775807∧J106 (.string (s110++⟨#[41]⟩)) h71)
 (J106 out_68 h71)) ∧
 ∀out_107 (d108:Nat→Value) (h109:Hp),J106 out_107 h109 →
 ∃v111,ah h109 (Addr.add ⟨h.size,0,none⟩ 0)=some v111 ∧
 asK .i64 v111 fun n112=>cond (decide ((n112:Int) < 11))
 (asS out_107 fun s113=>s113.size+ByteArray.size ⟨#[59,10]⟩≤9223372036854775807∧R (.string (s113++⟨#[59,10]⟩)) h109)
 (∃v114,ah h109 (Addr.add ⟨h.size,0,none⟩ 7)=some v114 ∧
 aa Tryz.prog ω 51 [v114,tabs_p] h109 (fun r115 h116 =>
 asS out_107 fun s117=>asS r115 fun s118=>s117.size+s118.size≤9223372036854775807∧∃v119,ah h116 (Addr.add ⟨h.size,0,none⟩ 8)=some v119 ∧
 bz v119 fun a120 l121 c122=>∃J123:RT,
 (cond (decide (((l121:Int):Int) > 0))
 (∃v127,ah h116 (Addr.add ⟨h.size,0,none⟩ 8)=some v127 ∧
 aa Tryz.prog ω 51 [v127,tabs_p] h116 (fun r128 h129 =>
 asS r128 fun s130=>ByteArray.size ⟨#[32,101,108,115,101]⟩+s130.size≤9223372036854775807∧ByteArray.size (s117++s118)+ByteArray.size (⟨#[32,101,108,115,101]⟩++s130)≤9223372036854775807∧J123 (.string ((s117++s118)++(⟨#[32,101,108,115,101]⟩++s130))) h129) X)
 (J123 (.string (s117++s118)) h116)) ∧
 ∀out_124 (d125:Nat→Value) (h126:Hp),J123 out_124 h126 →
 asS out_124 fun s131=>s131.size+ByteArray.size ⟨#[10]⟩≤9223372036854775807∧R (.string (s131++⟨#[10]⟩)) h126) X))
def jH:Ann :=
 (.two .leaf (.two .leaf (.two .leaf (.two (.two .leaf (.join [19,20,21,22,23,6] [6] (.two .leaf .leaf))) (.two (.two (.jb [24,25,26,27,28,29,30,31] 31 .leaf) (.join [32,33,6] [6] (.two .leaf .leaf))) (.two (.two (.jb [34,35,36,37,38,39,40,41] 41 .leaf) (.join [42,43,6] [6] (.two .leaf .leaf))) (.two (.two .leaf (.join [47,48,49,50,51,6] [6] (.two .leaf .leaf))) (.two (.two .leaf (.join [55,56,57,58,59,60,61,62,63,64,65,6] [6] (.two (.plan [0,1,2,6,7,3,4,5,8,9,10,11]) .leaf))) (.two (.two .leaf (.join [69,70,6] [6] (.two .leaf .leaf))) (.two (.two .leaf (.one (.loop [71,72,73,74,75,78,79,80,81,6,82,83,84,85,86,87,88,89,90,91,92,93,94,95,96,97,98,76,77,7] [6,7] (.two (.two .leaf (.two .leaf .leaf)) (.two (.one (.two (.two .leaf (.join [80,81,6] [6] (.two .leaf .leaf))) (.two (.two (.jb [82,83,84,85,86,87,88] 88 .leaf) (.join [89,90,6] [6] (.two .leaf .leaf))) .leaf))) .leaf))))) (.two (.two .leaf (.join [102,103,6] [6] (.two .leaf .leaf))) (.two (.two .leaf (.two (.two .leaf .leaf) .leaf)) (.two .leaf (.two (.two .leaf (.join [119,120,121,122,123,124,125,6] [6] (.two .leaf .leaf))) (.two .leaf .leaf)))))))))))))))
theorem jE (ω:Amb)(s_p tabs_p:Value)(h:Hp)(R:RT)(X:XT)(hk:dB ω s_p tabs_p h R X):aa Tryz.prog ω 79 [s_p,tabs_p] h R X :=
 al (an:=jH) Tryz.func79 (by kernel_rfl) hk
abbrev jy:Nat:=102
def dy (ω:Amb)(s_p:Value)(h:Hp)(R:RT)(X:XT):Prop :=
 ∃v0,ah (h.push (.cells (Value.cells s_p) 39 (0,0))) (Addr.add ⟨h.size,0,none⟩ 0)=some v0 ∧
 aa Tryz.prog ω 103 [v0] (h.push (.cells (Value.cells s_p) 39 (0,0))) (fun r1 h2 =>
 asS r1 fun s3=>cond (s3.toList==ByteArray.toList ⟨#[]⟩)
 (R (.bool false) h2)
 (∃J4:RT,
 (asS r1 fun s8=>0≤(0:Int)∧(0:Int)≤1∧1≤(s8.size:Int)∧∃v9,ah h2 (Addr.add ⟨h.size,0,none⟩ 2)=some v9 ∧
 asS v9 fun s10=>aa Tryz.prog ω 124 [(.string (ByteArray.extract s8 (Int.toNat 0) (Int.toNat 1))),(.bool (s10.toList==ByteArray.toList ⟨#[]⟩))] h2 (fun r11 h12 =>
 asB r11 fun b13=>cond (!b13)
 (J4 (.bool true) h12)
 (asS r1 fun s14=>0≤(1:Int)∧(1:Int)≤2∧2≤(s14.size:Int)∧∃v15,ah h12 (Addr.add ⟨h.size,0,none⟩ 3)=some v15 ∧
 asS v15 fun s16=>aa Tryz.prog ω 124 [(.string (ByteArray.extract s14 (Int.toNat 1) (Int.toNat 2))),(.bool (s16.toList==ByteArray.toList ⟨#[]⟩))] h12 (fun r17 h18 =>
 asB r17 fun b19=>cond (!b19)
 (J4 (.bool true) h18)
 (asS r1 fun s20=>0≤(2:Int)∧(2:Int)≤3∧3≤(s20.size:Int)∧∃v21,ah h18 (Addr.add ⟨h.size,0,none⟩ 4)=some v21 ∧
 asS v21 fun s22=>aa Tryz.prog ω 124 [(.string (ByteArray.extract s20 (Int.toNat 2) (Int.toNat 3))),(.bool (s22.toList==ByteArray.toList ⟨#[]⟩))] h18 (fun r23 h24 =>
 asB r23 fun b25=>cond (!b25)
 (J4 (.bool true) h24)
 (asS r1 fun s26=>0≤(3:Int)∧(3:Int)≤4∧4≤(s26.size:Int)∧∃v27,ah h24 (Addr.add ⟨h.size,0,none⟩ 5)=some v27 ∧
 asK .i64 v27 fun n28=>aa Tryz.prog ω 124 [(.string (ByteArray.extract s26 (Int.toNat 3) (Int.toNat 4))),(.bool (n28==(0:Int)))] h24 (fun r29 h30 =>
 asB r29 fun b31=>cond (!b31)
 (J4 (.bool true) h30)
 (asS r1 fun s32=>0≤(5:Int)∧(5:Int)≤6∧6≤(s32.size:Int)∧∃v33,ah h30 (Addr.add ⟨h.size,0,none⟩ 7)=some v33 ∧
 bz v33 fun a34 l35 c36=>aa Tryz.prog ω 124 [(.string (ByteArray.extract s32 (Int.toNat 5) (Int.toNat 6))),(.bool ((l35:Int)==(0:Int)))] h30 (fun r37 h38 =>
 asB r37 fun b39=>cond (!b39)
 (J4 (.bool true) h38)
 (asS r1 fun s40=>0≤(6:Int)∧(6:Int)≤7∧7≤(s40.size:Int)∧∃v41,ah h38 (Addr.add ⟨h.size,0,none⟩ 8)=some v41 ∧
 bz v41 fun a42 l43 c44=>aa Tryz.prog ω 124 [(.string (ByteArray.extract s40 (Int.toNat 6) (Int.toNat 7))),(.bool ((l43:Int)==(0:Int)))] h38 (fun r45 h46 =>
 asB r45 fun b47=>J4 (.bool (!b47)) h46) X)) X)) X)) X)) X)) X) ∧
 ∀t62_5 (d6:Nat→Value) (h7:Hp),J4 t62_5 h7 →
 asB t62_5 fun b48=>cond b48
 (R (.bool false) h7)
 (∃J49:RT,
 (asS r1 fun s53=>0≤(4:Int)∧(4:Int)≤5∧5≤(s53.size:Int)∧cond (ByteArray.toList (ByteArray.extract s53 (Int.toNat 4) (Int.toNat 5))==ByteArray.toList ⟨#[42]⟩)
 (J49 (.bool true) h7)
 (asS r1 fun s54=>0≤(4:Int)∧(4:Int)≤5∧5≤(s54.size:Int)∧∃v55,ah h7 (Addr.add ⟨h.size,0,none⟩ 6)=some v55 ∧
 bz v55 fun a56 l57 c58=>aa Tryz.prog ω 106 [(.int .i64 (l57:Int))] h7 (fun r59 h60 =>
 asS r59 fun s61=>J49 (.bool (ByteArray.toList (ByteArray.extract s54 (Int.toNat 4) (Int.toNat 5))==s61.toList)) h60) X)) ∧
 ∀t2_50 (d51:Nat→Value) (h52:Hp),J49 t2_50 h52 →
 R t2_50 h52))) X
def jK:Ann :=
 (.two .leaf (.two .leaf (.two (.two .leaf (.two (.two .leaf .leaf) .leaf)) (.two (.two (.join [9,10,11,12,13,14,15,16,17,18,19,20,21,22,23,24,25,26,27,28,29,30,31,32,33,34,35,36,37,38,39,40,41,42,43,44,45,46,47,48,49,50,51,52,53,54,55,56,57,58,59,60,61,62] [62] (.plan [0,1,2,3,4,5,6,7,8,9,10,11,12,13,14,15,16,17,18,19,20,21,22,23,24,25,26,27,28,29,30,31,32,33,34,35,36,37,38,39,40,41,42,43,44,45,46,47,48,49,50,51,52,53])) (.two (.two .leaf .leaf) .leaf)) (.two (.join [63,64,65,66,67,68,69,70,71,72,73,74,2] [2] (.plan [0,1,2,3,4,5,6,7,8,9,10,11,12])) .leaf)))))
theorem jF (ω:Amb)(s_p:Value)(h:Hp)(R:RT)(X:XT)(hk:dy ω s_p h R X):aa Tryz.prog ω 102 [s_p] h R X :=
 al (an:=jK) Tryz.func102 (by kernel_rfl) hk
abbrev mg:Nat:=103
def eA (ω:Amb)(do_p:Value)(h:Hp)(R:RT)(X:XT):Prop :=
 ∃β0:Bool,
 (asK .i64 do_p fun n2=>cond (decide ((n2:Int) < 1))
 (((.bool true):Value)=.bool β0∧(h.push (.cells (List.toArray [(.string ⟨#[]⟩),(.string ⟨#[65,45,45,45,49,45,45]⟩),(.string ⟨#[65,45,45,45,49,45,45]⟩),(.string ⟨#[45,45,45,45,49,45,45]⟩),(.string ⟨#[65,66,84,78,48,45,45]⟩),(.string ⟨#[65,66,45,45,48,45,45]⟩),(.string ⟨#[65,45,45,45,49,45,45]⟩),(.string ⟨#[65,45,45,45,48,45,45]⟩),(.string ⟨#[65,45,45,45,48,45,45]⟩),(.string ⟨#[65,45,45,45,48,45,45]⟩),(.string ⟨#[65,45,45,45,42,45,45]⟩),(.string ⟨#[65,66,45,45,48,66,69]⟩),(.string ⟨#[65,66,45,45,48,66,45]⟩),(.string ⟨#[45,45,45,45,49,66,45]⟩),(.string ⟨#[45,45,45,45,49,66,69]⟩)]) 9 (0,0)))=(h.push (.cells (List.toArray [(.string ⟨#[]⟩),(.string ⟨#[65,45,45,45,49,45,45]⟩),(.string ⟨#[65,45,45,45,49,45,45]⟩),(.string ⟨#[45,45,45,45,49,45,45]⟩),(.string ⟨#[65,66,84,78,48,45,45]⟩),(.string ⟨#[65,66,45,45,48,45,45]⟩),(.string ⟨#[65,45,45,45,49,45,45]⟩),(.string ⟨#[65,45,45,45,48,45,45]⟩),(.string ⟨#[65,45,45,45,48,45,45]⟩),(.string ⟨#[65,45,45,45,48,45,45]⟩),(.string ⟨#[65,45,45,45,42,45,45]⟩),(.string ⟨#[65,66,45,45,48,66,69]⟩),(.string ⟨#[65,66,45,45,48,66,45]⟩),(.string ⟨#[45,45,45,45,49,66,45]⟩),(.string ⟨#[45,45,45,45,49,66,69]⟩)]) 9 (0,0))))
 (asK .i64 do_p fun n3=>((.bool (decide ((n3:Int)≥(15:Int)))):Value)=.bool β0∧(h.push (.cells (List.toArray [(.string ⟨#[]⟩),(.string ⟨#[65,45,45,45,49,45,45]⟩),(.string ⟨#[65,45,45,45,49,45,45]⟩),(.string ⟨#[45,45,45,45,49,45,45]⟩),(.string ⟨#[65,66,84,78,48,45,45]⟩),(.string ⟨#[65,66,45,45,48,45,45]⟩),(.string ⟨#[65,45,45,45,49,45,45]⟩),(.string ⟨#[65,45,45,45,48,45,45]⟩),(.string ⟨#[65,45,45,45,48,45,45]⟩),(.string ⟨#[65,45,45,45,48,45,45]⟩),(.string ⟨#[65,45,45,45,42,45,45]⟩),(.string ⟨#[65,66,45,45,48,66,69]⟩),(.string ⟨#[65,66,45,45,48,66,45]⟩),(.string ⟨#[45,45,45,45,49,66,45]⟩),(.string ⟨#[45,45,45,45,49,66,69]⟩)]) 9 (0,0)))=(h.push (.cells (List.toArray [(.string ⟨#[]⟩),(.string ⟨#[65,45,45,45,49,45,45]⟩),(.string ⟨#[65,45,45,45,49,45,45]⟩),(.string ⟨#[45,45,45,45,49,45,45]⟩),(.string ⟨#[65,66,84,78,48,45,45]⟩),(.string ⟨#[65,66,45,45,48,45,45]⟩),(.string ⟨#[65,45,45,45,49,45,45]⟩),(.string ⟨#[65,45,45,45,48,45,45]⟩),(.string ⟨#[65,45,45,45,48,45,45]⟩),(.string ⟨#[65,45,45,45,48,45,45]⟩),(.string ⟨#[65,45,45,45,42,45,45]⟩),(.string ⟨#[65,66,45,45,48,66,69]⟩),(.string ⟨#[65,66,45,45,48,66,45]⟩),(.string ⟨#[45,45,45,45,49,66,45]⟩),(.string ⟨#[45,45,45,45,49,66,69]⟩)]) 9 (0,0))))) ∧
 ∀d1:Nat→Value,
 cond β0
 (R (.string ⟨#[]⟩) (h.push (.cells (List.toArray [(.string ⟨#[]⟩),(.string ⟨#[65,45,45,45,49,45,45]⟩),(.string ⟨#[65,45,45,45,49,45,45]⟩),(.string ⟨#[45,45,45,45,49,45,45]⟩),(.string ⟨#[65,66,84,78,48,45,45]⟩),(.string ⟨#[65,66,45,45,48,45,45]⟩),(.string ⟨#[65,45,45,45,49,45,45]⟩),(.string ⟨#[65,45,45,45,48,45,45]⟩),(.string ⟨#[65,45,45,45,48,45,45]⟩),(.string ⟨#[65,45,45,45,48,45,45]⟩),(.string ⟨#[65,45,45,45,42,45,45]⟩),(.string ⟨#[65,66,45,45,48,66,69]⟩),(.string ⟨#[65,66,45,45,48,66,45]⟩),(.string ⟨#[45,45,45,45,49,66,45]⟩),(.string ⟨#[45,45,45,45,49,66,69]⟩)]) 9 (0,0))))
 (asI do_p fun n4=>0≤(n4:Int)∧n4 < (15:Int)∧∃v5,ah (h.push (.cells (List.toArray [(.string ⟨#[]⟩),(.string ⟨#[65,45,45,45,49,45,45]⟩),(.string ⟨#[65,45,45,45,49,45,45]⟩),(.string ⟨#[45,45,45,45,49,45,45]⟩),(.string ⟨#[65,66,84,78,48,45,45]⟩),(.string ⟨#[65,66,45,45,48,45,45]⟩),(.string ⟨#[65,45,45,45,49,45,45]⟩),(.string ⟨#[65,45,45,45,48,45,45]⟩),(.string ⟨#[65,45,45,45,48,45,45]⟩),(.string ⟨#[65,45,45,45,48,45,45]⟩),(.string ⟨#[65,45,45,45,42,45,45]⟩),(.string ⟨#[65,66,45,45,48,66,69]⟩),(.string ⟨#[65,66,45,45,48,66,45]⟩),(.string ⟨#[45,45,45,45,49,66,45]⟩),(.string ⟨#[45,45,45,45,49,66,69]⟩)]) 9 (0,0))) (Addr.add ⟨h.size,0,none⟩ (n4.toNat*1))=some v5 ∧
 R v5 (h.push (.cells (List.toArray [(.string ⟨#[]⟩),(.string ⟨#[65,45,45,45,49,45,45]⟩),(.string ⟨#[65,45,45,45,49,45,45]⟩),(.string ⟨#[45,45,45,45,49,45,45]⟩),(.string ⟨#[65,66,84,78,48,45,45]⟩),(.string ⟨#[65,66,45,45,48,45,45]⟩),(.string ⟨#[65,45,45,45,49,45,45]⟩),(.string ⟨#[65,45,45,45,48,45,45]⟩),(.string ⟨#[65,45,45,45,48,45,45]⟩),(.string ⟨#[65,45,45,45,48,45,45]⟩),(.string ⟨#[65,45,45,45,42,45,45]⟩),(.string ⟨#[65,66,45,45,48,66,69]⟩),(.string ⟨#[65,66,45,45,48,66,45]⟩),(.string ⟨#[45,45,45,45,49,66,45]⟩),(.string ⟨#[45,45,45,45,49,66,69]⟩)]) 9 (0,0))))
def lc:Ann :=
 (.two .leaf (.two .leaf (.two (.two (.jb [5,6,7,8,9,10,11,12] 12 .leaf) (.two (.two .leaf .leaf) .leaf)) (.two .leaf .leaf))))
theorem mz (ω:Amb)(do_p:Value)(h:Hp)(R:RT)(X:XT)(hk:eA ω do_p h R X):aa Tryz.prog ω 103 [do_p] h R X :=
 al (an:=lc) Tryz.func103 (by kernel_rfl) hk
abbrev mP:Nat:=104
def fD (ω:Amb)(x_p:Value)(h:Hp)(R:RT)(X:XT):Prop :=
 ∃(I0:Value→RT) (μ1:Value→Value→Hp→Nat),I0 (.int .i64 1) (.int .i64 0) (h.push (.cells (Value.cells x_p) 36 (0,0)))∧∀n_2 i_3 (d4:Nat→Value) (h5:Hp),I0 n_2 i_3 h5 →
 ∃v6,ah h5 (Addr.add ⟨h.size,0,none⟩ 3)=some v6 ∧
 bz v6 fun a7 l8 c9=>asK .i64 i_3 fun n10=>cond (decide ((n10:Int) < (l8:Int)))
 (∃v11,ah h5 (Addr.add ⟨h.size,0,none⟩ 3)=some v11 ∧
 aI v11 fun a12 l13 c14=>asI i_3 fun n15=>0≤(n15:Int)∧n15 < (l13:Int)∧∃C16,aj h5 (Addr.add a12 (n15.toNat*4)) 4 C16 ∧
 aa Tryz.prog ω 104 [(.agg C16.toArray)] h5 (fun r17 h18 =>
 asK .i64 n_2 fun n19=>asK .i64 r17 fun n20=>asK .i64 i_3 fun n21=>I0 (.int .i64 (IntKind.wrap .i64 (n19+n20))) (.int .i64 (IntKind.wrap .i64 (n21+1))) h18∧μ1 (.int .i64 (IntKind.wrap .i64 (n19+n20))) (.int .i64 (IntKind.wrap .i64 (n21+1))) h18 < μ1 n_2 i_3 h5) X)
 (R n_2 h5)
def nD:Ann :=
 (.two .leaf (.two .leaf (.two (.two .leaf (.one (.loop [5,6,7,8,9,12,13,14,15,16,17,18,19,3,10,11,4] [3,4] (.two (.two .leaf (.two .leaf .leaf)) (.two (.one .leaf) .leaf))))) (.two .leaf .leaf))))
theorem nz (ω:Amb)(x_p:Value)(h:Hp)(R:RT)(X:XT)(hk:fD ω x_p h R X):aa Tryz.prog ω 104 [x_p] h R X :=
 al (an:=nD) Tryz.func104 (by kernel_rfl) hk
abbrev je:Nat:=105
def cR (ω:Amb)(x_p:Value)(h:Hp)(R:RT)(X:XT):Prop :=
 ∃β0:Bool,
 (∃v2,ah (h.push (.cells (Value.cells x_p) 36 (0,0))) (Addr.add ⟨h.size,0,none⟩ 0)=some v2 ∧
 asK .i64 v2 fun n3=>cond (n3==(1:Int))
 (((.bool true):Value)=.bool β0∧(h.push (.cells (Value.cells x_p) 36 (0,0)))=(h.push (.cells (Value.cells x_p) 36 (0,0))))
 (∃v4,ah (h.push (.cells (Value.cells x_p) 36 (0,0))) (Addr.add ⟨h.size,0,none⟩ 0)=some v4 ∧
 asK .i64 v4 fun n5=>((.bool (n5==(2:Int))):Value)=.bool β0∧(h.push (.cells (Value.cells x_p) 36 (0,0)))=(h.push (.cells (Value.cells x_p) 36 (0,0))))) ∧
 ∀d1:Nat→Value,
 ∃J6:RT,
 (cond β0
 (J6 (.int .i64 0) (h.push (.cells (Value.cells x_p) 36 (0,0))))
 (J6 (.int .i64 2) (h.push (.cells (Value.cells x_p) 36 (0,0))))) ∧
 ∀want_7 (d8:Nat→Value) (h9:Hp),J6 want_7 h9 →
 ∃v10,ah h9 (Addr.add ⟨h.size,0,none⟩ 0)=some v10 ∧
 asK .i64 v10 fun n11=>∃J12:RT,
 (cond (n11==(3:Int))
 (J12 (.int .i64 1) h9)
 (J12 want_7 h9)) ∧
 ∀want_13 (d14:Nat→Value) (h15:Hp),J12 want_13 h15 →
 ∃β16:Bool,
 (∃v18,ah h15 (Addr.add ⟨h.size,0,none⟩ 0)=some v18 ∧
 asK .i64 v18 fun n19=>cond (decide ((n19:Int) < 1))
 (((.bool true):Value)=.bool β16∧h15=h15)
 (∃v20,ah h15 (Addr.add ⟨h.size,0,none⟩ 0)=some v20 ∧
 asK .i64 v20 fun n21=>cond (decide ((n21:Int) > 8))
 (((.bool true):Value)=.bool β16∧h15=h15)
 (∃v22,ah h15 (Addr.add ⟨h.size,0,none⟩ 3)=some v22 ∧
 bz v22 fun a23 l24 c25=>asK .i64 want_13 fun n26=>cond ((l24:Int) !=(n26:Int))
 (((.bool true):Value)=.bool β16∧h15=h15)
 (∃v27,ah h15 (Addr.add ⟨h.size,0,none⟩ 2)=some v27 ∧
 asK .i64 v27 fun n28=>cond (n28 !=(0:Int))
 (∃v29,ah h15 (Addr.add ⟨h.size,0,none⟩ 0)=some v29 ∧
 asK .i64 v29 fun n30=>cond (n30 !=(1:Int))
 (((.bool true):Value)=.bool β16∧h15=h15)
 (∃v31,ah h15 (Addr.add ⟨h.size,0,none⟩ 1)=some v31 ∧
 asS v31 fun s32=>cond (!(s32.toList==ByteArray.toList ⟨#[]⟩))
 (∃v33,ah h15 (Addr.add ⟨h.size,0,none⟩ 0)=some v33 ∧
 asK .i64 v33 fun n34=>((.bool (n34 !=(2:Int))):Value)=.bool β16∧h15=h15)
 (((.bool false):Value)=.bool β16∧h15=h15)))
 (∃v35,ah h15 (Addr.add ⟨h.size,0,none⟩ 1)=some v35 ∧
 asS v35 fun s36=>cond (!(s36.toList==ByteArray.toList ⟨#[]⟩))
 (∃v37,ah h15 (Addr.add ⟨h.size,0,none⟩ 0)=some v37 ∧
 asK .i64 v37 fun n38=>((.bool (n38 !=(2:Int))):Value)=.bool β16∧h15=h15)
 (((.bool false):Value)=.bool β16∧h15=h15)))))) ∧
 ∀d17:Nat→Value,
 cond β16
 (R (.int .i64 5) h15)
 (∃J39:RT,
 (∃v43,ah h15 (Addr.add ⟨h.size,0,none⟩ 0)=some v43 ∧
 asK .i64 v43 fun n44=>cond (n44==(2:Int))
 (∃v45,ah h15 (Addr.add ⟨h.size,0,none⟩ 1)=some v45 ∧
 aa Tryz.prog ω 47 [v45] h15 (fun r46 h47 =>
 asB r46 fun b48=>J39 (.bool (!b48)) h47) X)
 (J39 (.bool false) h15)) ∧
 ∀t60_40 (d41:Nat→Value) (h42:Hp),J39 t60_40 h42 →
 asB t60_40 fun b49=>cond b49
 (R (.int .i64 4) h42)
 (∃β50:Bool,
 (∃v52,ah h42 (Addr.add ⟨h.size,0,none⟩ 2)=some v52 ∧
 asK .i64 v52 fun n53=>cond (decide ((n53:Int) < 0))
 (((.bool true):Value)=.bool β50∧h42=h42)
 (∃v54,ah h42 (Addr.add ⟨h.size,0,none⟩ 2)=some v54 ∧
 asK .i64 v54 fun n55=>((.bool (decide ((n55:Int)≥1000000000000000000))):Value)=.bool β50∧h42=h42)) ∧
 ∀d51:Nat→Value,
 cond β50
 (R (.int .i64 3) h42)
 (∃(I56:RT) (μ57:Value→Hp→Nat),I56 (.int .i64 0) h42∧∀i_58 (d59:Nat→Value) (h60:Hp),I56 i_58 h60 →
 ∃v61,ah h60 (Addr.add ⟨h.size,0,none⟩ 3)=some v61 ∧
 bz v61 fun a62 l63 c64=>asK .i64 i_58 fun n65=>cond (decide ((n65:Int) < (l63:Int)))
 (∃v66,ah h60 (Addr.add ⟨h.size,0,none⟩ 3)=some v66 ∧
 aI v66 fun a67 l68 c69=>asI i_58 fun n70=>0≤(n70:Int)∧n70 < (l68:Int)∧∃C71,aj h60 (Addr.add a67 (n70.toNat*4)) 4 C71 ∧
 aa Tryz.prog ω 105 [(.agg C71.toArray)] h60 (fun r72 h73 =>
 asK .i64 r72 fun n74=>cond (n74 !=(0:Int))
 (R r72 h73)
 (asK .i64 i_58 fun n75=>I56 (.int .i64 (IntKind.wrap .i64 (n75+1))) h73∧μ57 (.int .i64 (IntKind.wrap .i64 (n75+1))) h73 < μ57 i_58 h60)) X)
 (R (.int .i64 0) h60))))
def jj:Ann :=
 (.two .leaf (.two .leaf (.two (.two (.jb [6,7,8,9,10,11,12,13] 13 .leaf) (.join [3] [3] (.two .leaf .leaf))) (.two (.two .leaf (.join [3] [3] (.two .leaf .leaf))) (.two (.two (.jb [17,18,19,20,21,22,23,24,25,26,27,28,29,30,31,32,33,34,35,36,37,38,39,40,41,42,43,44,45,46,47,48,49,50,51] 51 .leaf) (.two (.two .leaf .leaf) .leaf)) (.two (.two (.join [52,53,54,55,56,57,58,59,60] [60] .leaf) (.two (.two .leaf .leaf) .leaf)) (.two (.two (.jb [61,62,63,64,65,66,67,68] 68 .leaf) (.two (.two .leaf .leaf) .leaf)) (.two (.two .leaf (.one (.loop [69,70,71,72,73,76,77,78,79,80,81,5,82,83,84,2,74,75,4] [4] (.two (.two .leaf (.two .leaf .leaf)) (.two (.one (.two .leaf (.two .leaf (.two (.two .leaf .leaf) .leaf)))) .leaf))))) (.two .leaf .leaf)))))))))
theorem iQ (ω:Amb)(x_p:Value)(h:Hp)(R:RT)(X:XT)(hk:cR ω x_p h R X):aa Tryz.prog ω 105 [x_p] h R X :=
 al (an:=jj) Tryz.func105 (by kernel_rfl) hk
abbrev ca:Nat:=107
def dr (ω:Amb)(x_p must_p:Value)(h:Hp)(R:RT)(X:XT):Prop :=
 ∃v0,ah (Array.push (h.push (.cells (Value.cells x_p) 36 (0,0))) (.cells (List.toArray [(.int .i64 0),(.int .i64 9),(.int .i64 9),(.int .i64 4),(.int .i64 2),(.int .i64 2),(.int .i64 3),(.int .i64 1),(.int .i64 1)]) 3 (0,0))) (Addr.add ⟨h.size,0,none⟩ 0)=some v0 ∧
 asI v0 fun n1=>0≤(n1:Int)∧n1 < (9:Int)∧∃v2,ah (Array.push (h.push (.cells (Value.cells x_p) 36 (0,0))) (.cells (List.toArray [(.int .i64 0),(.int .i64 9),(.int .i64 9),(.int .i64 4),(.int .i64 2),(.int .i64 2),(.int .i64 3),(.int .i64 1),(.int .i64 1)]) 3 (0,0))) (Addr.add ⟨Array.size (h.push (.cells (Value.cells x_p) 36 (0,0))),0,none⟩ (n1.toNat*1))=some v2 ∧
 ∃v3,ah (Array.push (h.push (.cells (Value.cells x_p) 36 (0,0))) (.cells (List.toArray [(.int .i64 0),(.int .i64 9),(.int .i64 9),(.int .i64 4),(.int .i64 2),(.int .i64 2),(.int .i64 3),(.int .i64 1),(.int .i64 1)]) 3 (0,0))) (Addr.add ⟨h.size,0,none⟩ 0)=some v3 ∧
 ∃J4:RT,
 (asK .i64 v3 fun n8=>∃J9:RT,
 (cond (n8==(1:Int))
 (∃v13,ah (Array.push (h.push (.cells (Value.cells x_p) 36 (0,0))) (.cells (List.toArray [(.int .i64 0),(.int .i64 9),(.int .i64 9),(.int .i64 4),(.int .i64 2),(.int .i64 2),(.int .i64 3),(.int .i64 1),(.int .i64 1)]) 3 (0,0))) (Addr.add ⟨h.size,0,none⟩ 2)=some v13 ∧
 aa Tryz.prog ω 126 [v13,(.int .i64 10)] (Array.push (h.push (.cells (Value.cells x_p) 36 (0,0))) (.cells (List.toArray [(.int .i64 0),(.int .i64 9),(.int .i64 9),(.int .i64 4),(.int .i64 2),(.int .i64 2),(.int .i64 3),(.int .i64 1),(.int .i64 1)]) 3 (0,0))) (fun r14 h15 =>
 J9 r14 h15) X)
 (asK .i64 v3 fun n16=>∃J17:RT,
 (cond (n16==(2:Int))
 (∃v21,ah (Array.push (h.push (.cells (Value.cells x_p) 36 (0,0))) (.cells (List.toArray [(.int .i64 0),(.int .i64 9),(.int .i64 9),(.int .i64 4),(.int .i64 2),(.int .i64 2),(.int .i64 3),(.int .i64 1),(.int .i64 1)]) 3 (0,0))) (Addr.add ⟨h.size,0,none⟩ 1)=some v21 ∧
 J17 v21 (Array.push (h.push (.cells (Value.cells x_p) 36 (0,0))) (.cells (List.toArray [(.int .i64 0),(.int .i64 9),(.int .i64 9),(.int .i64 4),(.int .i64 2),(.int .i64 2),(.int .i64 3),(.int .i64 1),(.int .i64 1)]) 3 (0,0))))
 (asK .i64 v3 fun n22=>∃J23:RT,
 (cond (n22==(3:Int))
 (∃v27,ah (Array.push (h.push (.cells (Value.cells x_p) 36 (0,0))) (.cells (List.toArray [(.int .i64 0),(.int .i64 9),(.int .i64 9),(.int .i64 4),(.int .i64 2),(.int .i64 2),(.int .i64 3),(.int .i64 1),(.int .i64 1)]) 3 (0,0))) (Addr.add ⟨h.size,0,none⟩ 3)=some v27 ∧
 aI v27 fun a28 l29 c30=>0≤(0:Int)∧0 < (l29:Int)∧∃C31,aj (Array.push (h.push (.cells (Value.cells x_p) 36 (0,0))) (.cells (List.toArray [(.int .i64 0),(.int .i64 9),(.int .i64 9),(.int .i64 4),(.int .i64 2),(.int .i64 2),(.int .i64 3),(.int .i64 1),(.int .i64 1)]) 3 (0,0))) (Addr.add a28 (Int.toNat 0*4)) 4 C31 ∧
 aa Tryz.prog ω 107 [(.agg C31.toArray),(.int .i64 4)] (Array.push (h.push (.cells (Value.cells x_p) 36 (0,0))) (.cells (List.toArray [(.int .i64 0),(.int .i64 9),(.int .i64 9),(.int .i64 4),(.int .i64 2),(.int .i64 2),(.int .i64 3),(.int .i64 1),(.int .i64 1)]) 3 (0,0))) (fun r32 h33 =>
 asS r32 fun s34=>ByteArray.size ⟨#[45]⟩+s34.size≤9223372036854775807∧J23 (.string (⟨#[45]⟩++s34)) h33) X)
 (asK .i64 v2 fun n35=>∃J36:RT,
 (cond (n35==(1:Int))
 (J36 (.int .i64 2) (Array.push (h.push (.cells (Value.cells x_p) 36 (0,0))) (.cells (List.toArray [(.int .i64 0),(.int .i64 9),(.int .i64 9),(.int .i64 4),(.int .i64 2),(.int .i64 2),(.int .i64 3),(.int .i64 1),(.int .i64 1)]) 3 (0,0))))
 (J36 v2 (Array.push (h.push (.cells (Value.cells x_p) 36 (0,0))) (.cells (List.toArray [(.int .i64 0),(.int .i64 9),(.int .i64 9),(.int .i64 4),(.int .i64 2),(.int .i64 2),(.int .i64 3),(.int .i64 1),(.int .i64 1)]) 3 (0,0))))) ∧
 ∀left_37 (d38:Nat→Value) (h39:Hp),J36 left_37 h39 →
 ∃v40,ah h39 (Addr.add ⟨h.size,0,none⟩ 3)=some v40 ∧
 aI v40 fun a41 l42 c43=>0≤(0:Int)∧0 < (l42:Int)∧∃C44,aj h39 (Addr.add a41 (Int.toNat 0*4)) 4 C44 ∧
 ∃v45,ah h39 (Addr.add ⟨h.size,0,none⟩ 0)=some v45 ∧
 asK .i64 v45 fun n46=>∃v47,ah h39 (Addr.add ⟨h.size,0,none⟩ 3)=some v47 ∧
 aI v47 fun a48 l49 c50=>0≤(1:Int)∧1 < (l49:Int)∧∃C51,aj h39 (Addr.add a48 (Int.toNat 1*4)) 4 C51 ∧
 asK .i64 v2 fun n52=>(aa Tryz.prog ω 107 [(.agg C44.toArray),left_37] h39 (fun r53 h54 =>
 aj h54 (Addr.add a48 (Int.toNat 1*4)) 4 C51∧ah h54 (Addr.add ⟨h.size,0,none⟩ 3)=some v47∧ah h54 (Addr.add ⟨h.size,0,none⟩ 0)=some v45∧(aj (h54.push (.cells (List.toArray [(.string ⟨#[32,43,32]⟩),(.string ⟨#[32,45,32]⟩),(.string ⟨#[32,42,32]⟩),(.string ⟨#[32,60,32]⟩),(.string ⟨#[32,61,61,32]⟩)]) 9 (0,0))) (Addr.add a48 (Int.toNat 1*4)) 4 C51∧ah (h54.push (.cells (List.toArray [(.string ⟨#[32,43,32]⟩),(.string ⟨#[32,45,32]⟩),(.string ⟨#[32,42,32]⟩),(.string ⟨#[32,60,32]⟩),(.string ⟨#[32,61,61,32]⟩)]) 9 (0,0))) (Addr.add ⟨h.size,0,none⟩ 3)=some v47∧ah (h54.push (.cells (List.toArray [(.string ⟨#[32,43,32]⟩),(.string ⟨#[32,45,32]⟩),(.string ⟨#[32,42,32]⟩),(.string ⟨#[32,60,32]⟩),(.string ⟨#[32,61,61,32]⟩)]) 9 (0,0))) (Addr.add ⟨h.size,0,none⟩ 0)=some v45∧0≤((IntKind.wrap .i64 (n46 - 4)):Int)∧(IntKind.wrap .i64 (n46 - 4)) < (5:Int)∧∃v55,ah (h54.push (.cells (List.toArray [(.string ⟨#[32,43,32]⟩),(.string ⟨#[32,45,32]⟩),(.string ⟨#[32,42,32]⟩),(.string ⟨#[32,60,32]⟩),(.string ⟨#[32,61,61,32]⟩)]) 9 (0,0))) (Addr.add ⟨h54.size,0,none⟩ (Int.toNat (IntKind.wrap .i64 (n46 - 4))*1))=some v55 ∧
 asS r53 fun s56=>asS v55 fun s57=>s56.size+s57.size≤9223372036854775807∧aa Tryz.prog ω 107 [(.agg C51.toArray),(.int .i64 (IntKind.wrap .i64 (n52+1)))] (h54.push (.cells (List.toArray [(.string ⟨#[32,43,32]⟩),(.string ⟨#[32,45,32]⟩),(.string ⟨#[32,42,32]⟩),(.string ⟨#[32,60,32]⟩),(.string ⟨#[32,61,61,32]⟩)]) 9 (0,0))) (fun r58 h59 =>
 ah h59 (Addr.add ⟨h54.size,0,none⟩ (Int.toNat (IntKind.wrap .i64 (n46 - 4))*1))=some v55∧ah h59 (Addr.add ⟨h.size,0,none⟩ 0)=some v45∧asS r58 fun s60=>ByteArray.size (s56++s57)+s60.size≤9223372036854775807∧J23 (.string ((s56++s57)++s60)) h59) X) ∧
(aa Tryz.prog ω 107 [(.agg C51.toArray),(.int .i64 (IntKind.wrap .i64 (n52+1)))] h54 (fun r61 h62 =>
 ah h62 (Addr.add ⟨h.size,0,none⟩ 0)=some v45∧ah (h62.push (.cells (List.toArray [(.string ⟨#[32,43,32]⟩),(.string ⟨#[32,45,32]⟩),(.string ⟨#[32,42,32]⟩),(.string ⟨#[32,60,32]⟩),(.string ⟨#[32,61,61,32]⟩)]) 9 (0,0))) (Addr.add ⟨h.size,0,none⟩ 0)=some v45∧0≤((IntKind.wrap .i64 (n46 - 4)):Int)∧(IntKind.wrap .i64 (n46 - 4)) < (5:Int)∧∃v63,ah (h62.push (.cells (List.toArray [(.string ⟨#[32,43,32]⟩),(.string ⟨#[32,45,32]⟩),(.string ⟨#[32,42,32]⟩),(.string ⟨#[32,60,32]⟩),(.string ⟨#[32,61,61,32]⟩)]) 9 (0,0))) (Addr.add ⟨h62.size,0,none⟩ (Int.toNat (IntKind.wrap .i64 (n46 - 4))*1))=some v63 ∧
 asS r53 fun s64=>asS v63 fun s65=>s64.size+s65.size≤9223372036854775807∧asS r61 fun s66=>ByteArray.size (s64++s65)+s66.size≤9223372036854775807∧J23 (.string ((s64++s65)++s66)) (h62.push (.cells (List.toArray [(.string ⟨#[32,43,32]⟩),(.string ⟨#[32,45,32]⟩),(.string ⟨#[32,42,32]⟩),(.string ⟨#[32,60,32]⟩),(.string ⟨#[32,61,61,32]⟩)]) 9 (0,0)))) X)) X) ∧
(aj (h39.push (.cells (List.toArray [(.string ⟨#[32,43,32]⟩),(.string ⟨#[32,45,32]⟩),(.string ⟨#[32,42,32]⟩),(.string ⟨#[32,60,32]⟩),(.string ⟨#[32,61,61,32]⟩)]) 9 (0,0))) (Addr.add a48 (Int.toNat 1*4)) 4 C51∧ah (h39.push (.cells (List.toArray [(.string ⟨#[32,43,32]⟩),(.string ⟨#[32,45,32]⟩),(.string ⟨#[32,42,32]⟩),(.string ⟨#[32,60,32]⟩),(.string ⟨#[32,61,61,32]⟩)]) 9 (0,0))) (Addr.add ⟨h.size,0,none⟩ 3)=some v47∧ah (h39.push (.cells (List.toArray [(.string ⟨#[32,43,32]⟩),(.string ⟨#[32,45,32]⟩),(.string ⟨#[32,42,32]⟩),(.string ⟨#[32,60,32]⟩),(.string ⟨#[32,61,61,32]⟩)]) 9 (0,0))) (Addr.add ⟨h.size,0,none⟩ 0)=some v45∧aj (h39.push (.cells (List.toArray [(.string ⟨#[32,43,32]⟩),(.string ⟨#[32,45,32]⟩),(.string ⟨#[32,42,32]⟩),(.string ⟨#[32,60,32]⟩),(.string ⟨#[32,61,61,32]⟩)]) 9 (0,0))) (Addr.add a41 (Int.toNat 0*4)) 4 C44∧ah (h39.push (.cells (List.toArray [(.string ⟨#[32,43,32]⟩),(.string ⟨#[32,45,32]⟩),(.string ⟨#[32,42,32]⟩),(.string ⟨#[32,60,32]⟩),(.string ⟨#[32,61,61,32]⟩)]) 9 (0,0))) (Addr.add ⟨h.size,0,none⟩ 3)=some v40∧(aa Tryz.prog ω 107 [(.agg C44.toArray),left_37] (h39.push (.cells (List.toArray [(.string ⟨#[32,43,32]⟩),(.string ⟨#[32,45,32]⟩),(.string ⟨#[32,42,32]⟩),(.string ⟨#[32,60,32]⟩),(.string ⟨#[32,61,61,32]⟩)]) 9 (0,0))) (fun r67 h68 =>
 aj h68 (Addr.add a48 (Int.toNat 1*4)) 4 C51∧ah h68 (Addr.add ⟨h.size,0,none⟩ 3)=some v47∧ah h68 (Addr.add ⟨h.size,0,none⟩ 0)=some v45∧0≤((IntKind.wrap .i64 (n46 - 4)):Int)∧(IntKind.wrap .i64 (n46 - 4)) < (5:Int)∧∃v69,ah h68 (Addr.add ⟨h39.size,0,none⟩ (Int.toNat (IntKind.wrap .i64 (n46 - 4))*1))=some v69 ∧
 asS r67 fun s70=>asS v69 fun s71=>s70.size+s71.size≤9223372036854775807∧aa Tryz.prog ω 107 [(.agg C51.toArray),(.int .i64 (IntKind.wrap .i64 (n52+1)))] h68 (fun r72 h73 =>
 ah h73 (Addr.add ⟨h39.size,0,none⟩ (Int.toNat (IntKind.wrap .i64 (n46 - 4))*1))=some v69∧ah h73 (Addr.add ⟨h.size,0,none⟩ 0)=some v45∧asS r72 fun s74=>ByteArray.size (s70++s71)+s74.size≤9223372036854775807∧J23 (.string ((s70++s71)++s74)) h73) X) X) ∧
(0≤((IntKind.wrap .i64 (n46 - 4)):Int)∧(IntKind.wrap .i64 (n46 - 4)) < (5:Int)∧(aa Tryz.prog ω 107 [(.agg C44.toArray),left_37] (h39.push (.cells (List.toArray [(.string ⟨#[32,43,32]⟩),(.string ⟨#[32,45,32]⟩),(.string ⟨#[32,42,32]⟩),(.string ⟨#[32,60,32]⟩),(.string ⟨#[32,61,61,32]⟩)]) 9 (0,0))) (fun r75 h76 =>
 aj h76 (Addr.add a48 (Int.toNat 1*4)) 4 C51∧ah h76 (Addr.add ⟨h.size,0,none⟩ 3)=some v47∧ah h76 (Addr.add ⟨h.size,0,none⟩ 0)=some v45∧∃v77,ah h76 (Addr.add ⟨h39.size,0,none⟩ (Int.toNat (IntKind.wrap .i64 (n46 - 4))*1))=some v77 ∧
 asS r75 fun s78=>asS v77 fun s79=>s78.size+s79.size≤9223372036854775807∧aa Tryz.prog ω 107 [(.agg C51.toArray),(.int .i64 (IntKind.wrap .i64 (n52+1)))] h76 (fun r80 h81 =>
 ah h81 (Addr.add ⟨h39.size,0,none⟩ (Int.toNat (IntKind.wrap .i64 (n46 - 4))*1))=some v77∧ah h81 (Addr.add ⟨h.size,0,none⟩ 0)=some v45∧asS r80 fun s82=>ByteArray.size (s78++s79)+s82.size≤9223372036854775807∧J23 (.string ((s78++s79)++s82)) h81) X) X) ∧
(∃v83,ah (h39.push (.cells (List.toArray [(.string ⟨#[32,43,32]⟩),(.string ⟨#[32,45,32]⟩),(.string ⟨#[32,42,32]⟩),(.string ⟨#[32,60,32]⟩),(.string ⟨#[32,61,61,32]⟩)]) 9 (0,0))) (Addr.add ⟨h39.size,0,none⟩ (Int.toNat (IntKind.wrap .i64 (n46 - 4))*1))=some v83 ∧
 aa Tryz.prog ω 107 [(.agg C44.toArray),left_37] (h39.push (.cells (List.toArray [(.string ⟨#[32,43,32]⟩),(.string ⟨#[32,45,32]⟩),(.string ⟨#[32,42,32]⟩),(.string ⟨#[32,60,32]⟩),(.string ⟨#[32,61,61,32]⟩)]) 9 (0,0))) (fun r84 h85 =>
 aj h85 (Addr.add a48 (Int.toNat 1*4)) 4 C51∧ah h85 (Addr.add ⟨h.size,0,none⟩ 3)=some v47∧ah h85 (Addr.add ⟨h.size,0,none⟩ 0)=some v45∧asS r84 fun s86=>asS v83 fun s87=>s86.size+s87.size≤9223372036854775807∧aa Tryz.prog ω 107 [(.agg C51.toArray),(.int .i64 (IntKind.wrap .i64 (n52+1)))] h85 (fun r88 h89 =>
 ah h89 (Addr.add ⟨h.size,0,none⟩ 0)=some v45∧asS r88 fun s90=>ByteArray.size (s86++s87)+s90.size≤9223372036854775807∧J23 (.string ((s86++s87)++s90)) h89) X) X))))) ∧
 ∀out_24 (d25:Nat→Value) (h26:Hp),J23 out_24 h26 →
 J17 out_24 h26)) ∧
 ∀out_18 (d19:Nat→Value) (h20:Hp),J17 out_18 h20 →
 J9 out_18 h20)) ∧
 ∀out_10 (d11:Nat→Value) (h12:Hp),J9 out_10 h12 →
 J4 out_10 h12) ∧
 ∀out_5 (d6:Nat→Value) (h7:Hp),J4 out_5 h7 →
 asK .i64 v2 fun n91=>asK .i64 must_p fun n92=>cond (decide ((n91:Int) < n92))
 (asS out_5 fun s93=>ByteArray.size ⟨#[40]⟩+s93.size≤9223372036854775807∧ByteArray.size (⟨#[40]⟩++s93)+ByteArray.size ⟨#[41]⟩≤9223372036854775807∧R (.string ((⟨#[40]⟩++s93)++⟨#[41]⟩)) h7)
 (R out_5 h7)
def jJ:Ann :=
 (.two .leaf (.two .leaf (.two .leaf (.two (.two .leaf (.join [40,39,41,42,43,6,45,44,46,47,49,48,50,51,52,53,54,55,15,7,16,17,18,19,20,21,22,23,24,25,26,27,28,29,30,31,32,33,34,35,36,37,38] [6] (.one (.two .leaf (.join [41,42,43,6,45,44,46,47,49,48,50,51,52,53,54,55,15,7,16,17,18,19,20,21,22,23,24,25,26,27,28,29,30,31,32,33,34,35,36,37,38] [6] (.two .leaf (.two .leaf (.join [46,47,6,49,48,50,51,52,53,54,55,15,7,16,17,18,19,20,21,22,23,24,25,26,27,28,29,30,31,32,33,34,35,36,37,38] [6] (.two .leaf (.two .leaf (.join [50,51,52,53,54,55,6,15,7,16,17,18,19,20,21,22,23,24,25,26,27,28,29,30,31,32,33,34,35,36,37,38] [6] (.two .leaf (.two .leaf (.two (.two .leaf (.join [7] [7] (.two .leaf .leaf))) (.plan [0,1,2,3,4,7,8,9,13,14,15,16,17,18,5,6,10,11,12,19,20,21]))))))))))))))) (.two (.two .leaf (.two (.two .leaf .leaf) .leaf)) (.two .leaf .leaf))))))
theorem jM (ω:Amb)(x_p must_p:Value)(h:Hp)(R:RT)(X:XT)(hk:dr ω x_p must_p h R X):aa Tryz.prog ω 107 [x_p,must_p] h R X :=
 al (an:=jJ) Tryz.func107 (by kernel_rfl) hk
abbrev mr:Nat:=124
def eH (ω:Amb)(c_p is_p:Value)(h:Hp)(R:RT)(X:XT):Prop :=
 ∃J0:RT,
 (asS c_p fun s4=>cond (!(s4.toList==ByteArray.toList ⟨#[45]⟩))
 (J0 (.bool true) h)
 (J0 is_p h)) ∧
 ∀t4_1 (d2:Nat→Value) (h3:Hp),J0 t4_1 h3 →
 R t4_1 h3
def mw:Ann :=
 (.two .leaf (.two (.join [5,6,7,8,9,4] [4] .leaf) .leaf))
theorem ma (ω:Amb)(c_p is_p:Value)(h:Hp)(R:RT)(X:XT)(hk:eH ω c_p is_p h R X):aa Tryz.prog ω 124 [c_p,is_p] h R X :=
 al (an:=mw) Tryz.func124 (by kernel_rfl) hk
end Go.Proofs.YtkeeboomikkojaaGreatDoor.Sx
