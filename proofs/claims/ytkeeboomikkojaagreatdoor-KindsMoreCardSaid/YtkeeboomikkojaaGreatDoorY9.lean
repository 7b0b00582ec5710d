import Derived.Test.YtkeeboomikkojaaGreatDoorSxCore
import Derived.KernelRfl
import Derived.Test.YtkeeboomikkojaaGreatDoorProg
set_option linter.unusedVariables false
set_option maxRecDepth 100000
namespace Go.Proofs.YtkeeboomikkojaaGreatDoor.Sx
open Go Go.Sx Go.Proofs
abbrev nB:Nat:=9
def ft (ω:Amb)(p_p:Value)(h:Hp)(R:RT)(X:XT):Prop :=
 ∃v0,ah (h.push (.cells (Value.cells p_p) 24 (0,0))) (Addr.add ⟨h.size,0,none⟩ 0)=some v0 ∧
 bz v0 fun a1 l2 c3=>cond (decide (((l2:Int):Int) > 100))
 (R (.bool true) (h.push (.cells (Value.cells p_p) 24 (0,0))))
 (∃(I4:Value→RT) (μ5:Value→Value→Hp→Nat),I4 (.int .i64 8000) (.int .i64 0) (h.push (.cells (Value.cells p_p) 24 (0,0)))∧∀left_6 i_7 (d8:Nat→Value) (h9:Hp),I4 left_6 i_7 h9 →
 ∃v10,ah h9 (Addr.add ⟨h.size,0,none⟩ 0)=some v10 ∧
 bz v10 fun a11 l12 c13=>asK .i64 i_7 fun n14=>cond (decide ((n14:Int) < (l12:Int)))
 (∃v15,ah h9 (Addr.add ⟨h.size,0,none⟩ 0)=some v15 ∧
 aI v15 fun a16 l17 c18=>asI i_7 fun n19=>0≤(n19:Int)∧n19 < (l17:Int)∧∃C20,aj h9 (Addr.add a16 (n19.toNat*4)) 4 C20 ∧
 C20.toArray.size=4∧(∀u∈C20.toArray.toList,one u)∧au (h9.push (.cells #[(.string ⟨#[]⟩),(.int .i64 0),(.slice none 0 0),(.slice none 0 0)] 41 (0,0))) ⟨h9.size,0,none⟩ C20.toArray.toList fun h21 =>
 ∃β22:Bool,
 (∃v24,ah h21 (Addr.add ⟨h9.size,0,none⟩ 0)=some v24 ∧
 asS v24 fun s25=>cond (decide (((s25.size:Int):Int) > 100))
 (((.bool true):Value)=.bool β22∧h21=h21)
 (∃v26,ah h21 (Addr.add ⟨h9.size,0,none⟩ 2)=some v26 ∧
 bz v26 fun a27 l28 c29=>((.bool (decide (((l28:Int):Int) > 100))):Value)=.bool β22∧h21=h21)) ∧
 ∀d23:Nat→Value,
 cond β22
 (R (.bool true) h21)
 (∃(I30:RT) (μ31:Value→Hp→Nat),I30 (.int .i64 0) h21∧∀k_32 (d33:Nat→Value) (h34:Hp),I30 k_32 h34 →
 ∃v35,ah h34 (Addr.add ⟨h9.size,0,none⟩ 2)=some v35 ∧
 bz v35 fun a36 l37 c38=>asK .i64 k_32 fun n39=>cond (decide ((n39:Int) < (l37:Int)))
 (∃β40:Bool,
 (∃v42,ah h34 (Addr.add ⟨h9.size,0,none⟩ 2)=some v42 ∧
 aI v42 fun a43 l44 c45=>asI k_32 fun n46=>0≤(n46:Int)∧n46 < (l44:Int)∧∃v47,ah h34 (Addr.add (Addr.add a43 (n46.toNat*2)) 0)=some v47 ∧
 asS v47 fun s48=>cond (decide (((s48.size:Int):Int) > 100))
 (((.bool true):Value)=.bool β40∧h34=h34)
 (∃v49,ah h34 (Addr.add ⟨h9.size,0,none⟩ 2)=some v49 ∧
 aI v49 fun a50 l51 c52=>asI k_32 fun n53=>0≤(n53:Int)∧n53 < (l51:Int)∧∃v54,ah h34 (Addr.add (Addr.add a50 (n53.toNat*2)) 1)=some v54 ∧
 asS v54 fun s55=>((.bool (decide (((s55.size:Int):Int) > 100))):Value)=.bool β40∧h34=h34)) ∧
 ∀d41:Nat→Value,
 cond β40
 (R (.bool true) h34)
 (asK .i64 k_32 fun n56=>I30 (.int .i64 (IntKind.wrap .i64 (n56+1))) h34∧μ31 (.int .i64 (IntKind.wrap .i64 (n56+1))) h34 < μ31 k_32 h34))
 (∃v57,ah h34 (Addr.add ⟨h9.size,0,none⟩ 3)=some v57 ∧
 aa Tryz.prog ω 23 [v57,left_6] h34 (fun r58 h59 =>
 asK .i64 r58 fun n60=>cond (decide ((n60:Int) < 0))
 (R (.bool true) h59)
 (asK .i64 i_7 fun n61=>I4 r58 (.int .i64 (IntKind.wrap .i64 (n61+1))) h59∧μ5 r58 (.int .i64 (IntKind.wrap .i64 (n61+1))) h59 < μ5 left_6 i_7 h9)) X)))
 (R (.bool false) h9))
def mN:Ann :=
 (.two .leaf (.two (.two .leaf (.two (.two .leaf .leaf) .leaf)) (.two .leaf (.two (.two .leaf (.one (.loop [11,12,13,14,15,18,19,20,21,22,5,23,24,25,26,27,28,29,30,31,32,2,6,33,34,35,36,37,40,41,42,43,44,45,46,47,48,49,50,51,52,53,54,55,56,57,38,39,58,59,60,61,3,62,63,16,17,4] [3,4] (.two (.two .leaf (.two .leaf .leaf)) (.two (.one (.two .leaf (.two (.two (.jb [23,24,25,26,27,28,29,30,31,32] 32 .leaf) (.two (.two .leaf .leaf) .leaf)) (.two (.two .leaf (.one (.loop [33,34,35,36,37,40,41,42,43,44,45,46,47,48,49,50,51,52,53,54,55,56,57,2,38,39,6] [6] (.two (.two .leaf (.two .leaf .leaf)) (.two (.one (.two (.jb [40,41,42,43,44,45,46,47,48,49,50,51,52,53,54,55,56,57] 57 .leaf) (.two (.two .leaf .leaf) .leaf))) .leaf))))) (.two .leaf (.two .leaf (.two (.two .leaf .leaf) .leaf))))))) .leaf))))) (.two .leaf .leaf)))))
theorem nc (ω:Amb)(p_p:Value)(h:Hp)(R:RT)(X:XT)(hk:ft ω p_p h R X):aa Tryz.prog ω 9 [p_p] h R X :=
 al (an:=mN) Tryz.func9 (by kernel_rfl) hk
abbrev iy:Nat:=23
def cO (ω:Amb)(l_p left_p:Value)(h:Hp)(R:RT)(X:XT):Prop :=
 bz l_p fun a0 l1 c2=>asK .i64 left_p fun n3=>∃(I4:Value→RT) (μ5:Value→Value→Hp→Nat),I4 (.int .i64 (IntKind.wrap .i64 (n3 - (l1:Int)))) (.int .i64 0) h∧∀left_6 i_7 (d8:Nat→Value) (h9:Hp),I4 left_6 i_7 h9 →
 ∃β10:Bool,
 (bz l_p fun a12 l13 c14=>asK .i64 i_7 fun n15=>cond (decide ((n15:Int) < (l13:Int)))
 (asK .i64 left_6 fun n16=>((.bool (decide ((n16:Int)≥0))):Value)=.bool β10∧h9=h9)
 (((.bool false):Value)=.bool β10∧h9=h9)) ∧
 ∀d11:Nat→Value,
 cond β10
 (∃J17:RT,
 (aI l_p fun a21 l22 c23=>asI i_7 fun n24=>0≤(n24:Int)∧n24 < (l22:Int)∧∃C25,aj h9 (Addr.add a21 (n24.toNat*9)) 9 C25 ∧
 C25.toArray.size=9∧(∀u∈C25.toArray.toList,one u)∧au (h9.push (.cells #[(.int .i64 0),(.int .i64 0),(.string ⟨#[]⟩),(.string ⟨#[]⟩),(.string ⟨#[]⟩),(.int .i64 0),(.slice none 0 0),(.slice none 0 0),(.slice none 0 0)] 39 (0,0))) ⟨h9.size,0,none⟩ C25.toArray.toList fun h26 =>
 ∃β27:Bool,
 (∃v29,ah h26 (Addr.add ⟨h9.size,0,none⟩ 2)=some v29 ∧
 asS v29 fun s30=>cond (decide (((s30.size:Int):Int) > 100))
 (((.bool true):Value)=.bool β27∧h26=h26)
 (∃v31,ah h26 (Addr.add ⟨h9.size,0,none⟩ 3)=some v31 ∧
 asS v31 fun s32=>cond (decide (((s32.size:Int):Int) > 100))
 (((.bool true):Value)=.bool β27∧h26=h26)
 (∃v33,ah h26 (Addr.add ⟨h9.size,0,none⟩ 4)=some v33 ∧
 asS v33 fun s34=>((.bool (decide (((s34.size:Int):Int) > 100))):Value)=.bool β27∧h26=h26))) ∧
 ∀d28:Nat→Value,
 cond β27
 (R (.int .i64 (-1)) h26)
 (∃v35,ah h26 (Addr.add ⟨h9.size,0,none⟩ 6)=some v35 ∧
 aa Tryz.prog ω 45 [v35,left_6] h26 (fun r36 h37 =>
 asK .i64 r36 fun n38=>∃J39:RT,
 (cond (decide ((n38:Int)≥0))
 (∃v43,ah h37 (Addr.add ⟨h9.size,0,none⟩ 7)=some v43 ∧
 aa Tryz.prog ω 23 [v43,r36] h37 (fun r44 h45 =>
 J39 r44 h45) X)
 (J39 r36 h37)) ∧
 ∀left_40 (d41:Nat→Value) (h42:Hp),J39 left_40 h42 →
 asK .i64 left_40 fun n46=>∃J47:RT,
 (cond (decide ((n46:Int)≥0))
 (∃v51,ah h42 (Addr.add ⟨h9.size,0,none⟩ 8)=some v51 ∧
 aa Tryz.prog ω 23 [v51,left_40] h42 (fun r52 h53 =>
 J47 r52 h53) X)
 (J47 left_40 h42)) ∧
 ∀left_48 (d49:Nat→Value) (h50:Hp),J47 left_48 h50 →
 J17 left_48 h50) X)) ∧
 ∀left_18 (d19:Nat→Value) (h20:Hp),J17 left_18 h20 →
 asK .i64 i_7 fun n54=>I4 left_18 (.int .i64 (IntKind.wrap .i64 (n54+1))) h20∧μ5 left_18 (.int .i64 (IntKind.wrap .i64 (n54+1))) h20 < μ5 left_6 i_7 h9)
 (R left_6 h9)
def hZ:Ann :=
 (.two .leaf (.two .leaf (.two (.two .leaf (.one (.loop [11,12,13,14,15,16,17,18,21,22,23,24,6,25,26,27,28,29,30,31,32,33,34,35,36,37,38,39,40,4,41,42,43,44,1,45,46,47,48,49,50,51,52,53,54,55,56,19,20,5] [1,5] (.two (.two (.jb [11,12,13,14,15,16,17,18] 18 .leaf) (.two .leaf .leaf)) (.two (.join [21,22,23,24,6,25,26,27,28,29,30,31,32,33,34,35,36,37,38,39,40,4,41,42,43,44,1,45,46,47,48,49,50,51,52,53,54,55,56] [1] (.one (.two .leaf (.two (.two (.jb [25,26,27,28,29,30,31,32,33,34,35,36,37,38,39,40] 40 .leaf) (.two (.two .leaf .leaf) .leaf)) (.two .leaf (.two (.two .leaf (.join [47,48,49,50,1] [1] (.two .leaf .leaf))) (.two .leaf (.join [53,54,55,56,1] [1] (.two .leaf .leaf))))))))) .leaf))))) (.two .leaf .leaf))))
theorem iw (ω:Amb)(l_p left_p:Value)(h:Hp)(R:RT)(X:XT)(hk:cO ω l_p left_p h R X):aa Tryz.prog ω 23 [l_p,left_p] h R X :=
 al (an:=hZ) Tryz.func23 (by kernel_rfl) hk
abbrev uD:Nat:=28
def qj (ω:Amb)(t_p ends_p:Value)(h:Hp)(R:RT)(X:XT):Prop :=
 asS t_p fun s0=>∃β1:Bool,
 (cond (decide (((IntKind.wrap .i64 ((s0.size:Int) - 1)):Int) < 0))
 (((.bool true):Value)=.bool β1∧h=h)
 (asK .i64 ends_p fun n3=>cond (decide (((IntKind.wrap .i64 ((s0.size:Int) - 1)):Int) > n3))
 (((.bool true):Value)=.bool β1∧h=h)
 (asS t_p fun s4=>0≤((IntKind.wrap .i64 ((s0.size:Int) - 1)):Int)∧(IntKind.wrap .i64 ((s0.size:Int) - 1)) < (s4.size:Int)∧((.bool ((aK s4 (IntKind.wrap .i64 ((s0.size:Int) - 1))) !=(105:Int))):Value)=.bool β1∧h=h))) ∧
 ∀d2:Nat→Value,
 cond β1
 (R (.bool false) h)
 (∃(I5:RT) (μ6:Value→Hp→Nat),I5 (.int .i64 0) h∧∀t24_7 (d8:Nat→Value) (h9:Hp),I5 t24_7 h9 →
 asK .i64 t24_7 fun n10=>cond (decide ((n10:Int) < (IntKind.wrap .i64 ((s0.size:Int) - 1))))
 (∃β11:Bool,
 (asS t_p fun s13=>asI t24_7 fun n14=>0≤(n14:Int)∧n14 < (s13.size:Int)∧cond ((aK s13 n14) !=(115:Int))
 (asS t_p fun s15=>asI t24_7 fun n16=>0≤(n16:Int)∧n16 < (s15.size:Int)∧((.bool ((aK s15 n16) !=(114:Int))):Value)=.bool β11∧h9=h9)
 (((.bool false):Value)=.bool β11∧h9=h9)) ∧
 ∀d12:Nat→Value,
 cond β11
 (R (.bool false) h9)
 (asK .i64 t24_7 fun n17=>I5 (.int .i64 (IntKind.wrap .i64 (n17+1))) h9∧μ6 (.int .i64 (IntKind.wrap .i64 (n17+1))) h9 < μ6 t24_7 h9))
 (R (.bool true) h9))
def vK:Ann :=
 (.two .leaf (.two .leaf (.two (.two (.jb [10,11,12,13,14,15,16,17,18,19,20,21,22] 22 .leaf) (.two (.two .leaf .leaf) .leaf)) (.two (.two .leaf (.one (.loop [25,26,6,27,28,29,30,31,32,33,34,35,36,4,37,24] [24] (.two .leaf (.two (.two .leaf .leaf) (.two (.one (.two .leaf (.two (.jb [27,28,29,30,31,32,33,34,35,36] 36 .leaf) (.two (.two .leaf .leaf) .leaf)))) .leaf)))))) (.two .leaf .leaf)))))
theorem vE (ω:Amb)(t_p ends_p:Value)(h:Hp)(R:RT)(X:XT)(hk:qj ω t_p ends_p h R X):aa Tryz.prog ω 28 [t_p,ends_p] h R X :=
 al (an:=vK) Tryz.func28 (by kernel_rfl) hk
abbrev iv:Nat:=45
def cL (ω:Amb)(l_p left_p:Value)(h:Hp)(R:RT)(X:XT):Prop :=
 bz l_p fun a0 l1 c2=>asK .i64 left_p fun n3=>∃(I4:Value→RT) (μ5:Value→Value→Hp→Nat),I4 (.int .i64 (IntKind.wrap .i64 (n3 - (l1:Int)))) (.int .i64 0) h∧∀left_6 i_7 (d8:Nat→Value) (h9:Hp),I4 left_6 i_7 h9 →
 ∃β10:Bool,
 (bz l_p fun a12 l13 c14=>asK .i64 i_7 fun n15=>cond (decide ((n15:Int) < (l13:Int)))
 (asK .i64 left_6 fun n16=>((.bool (decide ((n16:Int)≥0))):Value)=.bool β10∧h9=h9)
 (((.bool false):Value)=.bool β10∧h9=h9)) ∧
 ∀d11:Nat→Value,
 cond β10
 (aI l_p fun a17 l18 c19=>asI i_7 fun n20=>0≤(n20:Int)∧n20 < (l18:Int)∧∃v21,ah h9 (Addr.add (Addr.add a17 (n20.toNat*4)) 1)=some v21 ∧
 asS v21 fun s22=>cond (decide (((s22.size:Int):Int) > 100))
 (R (.int .i64 (-1)) h9)
 (aI l_p fun a23 l24 c25=>asI i_7 fun n26=>0≤(n26:Int)∧n26 < (l24:Int)∧∃v27,ah h9 (Addr.add (Addr.add a23 (n26.toNat*4)) 3)=some v27 ∧
 aa Tryz.prog ω 45 [v27,left_6] h9 (fun r28 h29 =>
 asK .i64 i_7 fun n30=>I4 r28 (.int .i64 (IntKind.wrap .i64 (n30+1))) h29∧μ5 r28 (.int .i64 (IntKind.wrap .i64 (n30+1))) h29 < μ5 left_6 i_7 h9) X))
 (R left_6 h9)
def ic:Ann :=
 (.two .leaf (.two .leaf (.two (.two .leaf (.one (.loop [10,11,12,13,14,15,16,17,20,21,22,23,24,25,26,4,27,28,29,30,31,32,33,1,18,19,5] [1,5] (.two (.two (.jb [10,11,12,13,14,15,16,17] 17 .leaf) (.two .leaf .leaf)) (.two (.one (.two (.two .leaf (.two (.two .leaf .leaf) .leaf)) .leaf)) .leaf))))) (.two .leaf .leaf))))
theorem gZ (ω:Amb)(l_p left_p:Value)(h:Hp)(R:RT)(X:XT)(hk:cL ω l_p left_p h R X):aa Tryz.prog ω 45 [l_p,left_p] h R X :=
 al (an:=ic) Tryz.func45 (by kernel_rfl) hk
abbrev tB:Nat:=80
def oO (ω:Amb)(c_p:Value)(h:Hp)(R:RT)(X:XT):Prop :=
 ∃J0:RT,
 (asK .u8 c_p fun n4=>cond (decide ((n4:Int)≥97))
 (asK .u8 c_p fun n5=>J0 (.bool (decide ((n5:Int)≤122))) h)
 (J0 (.bool false) h)) ∧
 ∀t2_1 (d2:Nat→Value) (h3:Hp),J0 t2_1 h3 →
 R t2_1 h3
def ti:Ann :=
 (.two .leaf (.two (.join [3,4,5,6,7,8,2] [2] .leaf) .leaf))
theorem tw (ω:Amb)(c_p:Value)(h:Hp)(R:RT)(X:XT)(hk:oO ω c_p h R X):aa Tryz.prog ω 80 [c_p] h R X :=
 al (an:=ti) Tryz.func80 (by kernel_rfl) hk
abbrev xa:Nat:=82
def rf (ω:Amb)(s_p:Value)(h:Hp)(R:RT)(X:XT):Prop :=
 asS s_p fun s0=>∃J1:RT,
 (cond (s0.toList==ByteArray.toList ⟨#[97,98,97,110,100,111,110]⟩)
 (J1 (.bool (s0.toList==ByteArray.toList ⟨#[97,98,97,110,100,111,110]⟩)) h)
 (asS s_p fun s5=>∃J6:RT,
 (cond (s5.toList==ByteArray.toList ⟨#[99,104,97,110]⟩)
 (J6 (.bool (s5.toList==ByteArray.toList ⟨#[99,104,97,110]⟩)) h)
 (asS s_p fun s10=>∃J11:RT,
 (cond (s10.toList==ByteArray.toList ⟨#[99,108,111,110,101]⟩)
 (J11 (.bool (s10.toList==ByteArray.toList ⟨#[99,108,111,110,101]⟩)) h)
 (asS s_p fun s15=>∃J16:RT,
 (cond (s15.toList==ByteArray.toList ⟨#[99,108,111,115,101]⟩)
 (J16 (.bool (s15.toList==ByteArray.toList ⟨#[99,108,111,115,101]⟩)) h)
 (asS s_p fun s20=>∃J21:RT,
 (cond (s20.toList==ByteArray.toList ⟨#[100,114,97,105,110]⟩)
 (J21 (.bool (s20.toList==ByteArray.toList ⟨#[100,114,97,105,110]⟩)) h)
 (asS s_p fun s25=>∃J26:RT,
 (cond (s25.toList==ByteArray.toList ⟨#[101,108,115,101]⟩)
 (J26 (.bool (s25.toList==ByteArray.toList ⟨#[101,108,115,101]⟩)) h)
 (asS s_p fun s30=>∃J31:RT,
 (cond (s30.toList==ByteArray.toList ⟨#[101,109,105,116]⟩)
 (J31 (.bool (s30.toList==ByteArray.toList ⟨#[101,109,105,116]⟩)) h)
 (asS s_p fun s35=>∃J36:RT,
 (cond (s35.toList==ByteArray.toList ⟨#[102,111,114]⟩)
 (J36 (.bool (s35.toList==ByteArray.toList ⟨#[102,111,114]⟩)) h)
 (asS s_p fun s40=>∃J41:RT,
 (cond (s40.toList==ByteArray.toList ⟨#[102,114,111,109]⟩)
 (J41 (.bool (s40.toList==ByteArray.toList ⟨#[102,114,111,109]⟩)) h)
 (asS s_p fun s45=>∃J46:RT,
 (cond (s45.toList==ByteArray.toList ⟨#[105,102]⟩)
 (J46 (.bool (s45.toList==ByteArray.toList ⟨#[105,102]⟩)) h)
 (asS s_p fun s50=>∃J51:RT,
 (cond (s50.toList==ByteArray.toList ⟨#[105,110,116]⟩)
 (J51 (.bool (s50.toList==ByteArray.toList ⟨#[105,110,116]⟩)) h)
 (asS s_p fun s55=>∃J56:RT,
 (cond (s55.toList==ByteArray.toList ⟨#[108,101,116]⟩)
 (J56 (.bool (s55.toList==ByteArray.toList ⟨#[108,101,116]⟩)) h)
 (asS s_p fun s60=>∃J61:RT,
 (cond (s60.toList==ByteArray.toList ⟨#[114,101,99,118]⟩)
 (J61 (.bool (s60.toList==ByteArray.toList ⟨#[114,101,99,118]⟩)) h)
 (asS s_p fun s65=>∃J66:RT,
 (cond (s65.toList==ByteArray.toList ⟨#[114,101,112,101,97,116]⟩)
 (J66 (.bool (s65.toList==ByteArray.toList ⟨#[114,101,112,101,97,116]⟩)) h)
 (asS s_p fun s70=>∃J71:RT,
 (cond (s70.toList==ByteArray.toList ⟨#[115,101,110,100]⟩)
 (J71 (.bool (s70.toList==ByteArray.toList ⟨#[115,101,110,100]⟩)) h)
 (asS s_p fun s75=>∃J76:RT,
 (cond (s75.toList==ByteArray.toList ⟨#[115,101,116]⟩)
 (J76 (.bool (s75.toList==ByteArray.toList ⟨#[115,101,116]⟩)) h)
 (asS s_p fun s80=>∃J81:RT,
 (cond (s80.toList==ByteArray.toList ⟨#[115,112,97,119,110]⟩)
 (J81 (.bool (s80.toList==ByteArray.toList ⟨#[115,112,97,119,110]⟩)) h)
 (asS s_p fun s85=>∃J86:RT,
 (cond (s85.toList==ByteArray.toList ⟨#[115,116,97,103,101]⟩)
 (J86 (.bool (s85.toList==ByteArray.toList ⟨#[115,116,97,103,101]⟩)) h)
 (asS s_p fun s90=>J86 (.bool (s90.toList==ByteArray.toList ⟨#[116,97,107,101]⟩)) h)) ∧
 ∀t4_87 (d88:Nat→Value) (h89:Hp),J86 t4_87 h89 →
 J81 t4_87 h89)) ∧
 ∀t4_82 (d83:Nat→Value) (h84:Hp),J81 t4_82 h84 →
 J76 t4_82 h84)) ∧
 ∀t4_77 (d78:Nat→Value) (h79:Hp),J76 t4_77 h79 →
 J71 t4_77 h79)) ∧
 ∀t4_72 (d73:Nat→Value) (h74:Hp),J71 t4_72 h74 →
 J66 t4_72 h74)) ∧
 ∀t4_67 (d68:Nat→Value) (h69:Hp),J66 t4_67 h69 →
 J61 t4_67 h69)) ∧
 ∀t4_62 (d63:Nat→Value) (h64:Hp),J61 t4_62 h64 →
 J56 t4_62 h64)) ∧
 ∀t4_57 (d58:Nat→Value) (h59:Hp),J56 t4_57 h59 →
 J51 t4_57 h59)) ∧
 ∀t4_52 (d53:Nat→Value) (h54:Hp),J51 t4_52 h54 →
 J46 t4_52 h54)) ∧
 ∀t4_47 (d48:Nat→Value) (h49:Hp),J46 t4_47 h49 →
 J41 t4_47 h49)) ∧
 ∀t4_42 (d43:Nat→Value) (h44:Hp),J41 t4_42 h44 →
 J36 t4_42 h44)) ∧
 ∀t4_37 (d38:Nat→Value) (h39:Hp),J36 t4_37 h39 →
 J31 t4_37 h39)) ∧
 ∀t4_32 (d33:Nat→Value) (h34:Hp),J31 t4_32 h34 →
 J26 t4_32 h34)) ∧
 ∀t4_27 (d28:Nat→Value) (h29:Hp),J26 t4_27 h29 →
 J21 t4_27 h29)) ∧
 ∀t4_22 (d23:Nat→Value) (h24:Hp),J21 t4_22 h24 →
 J16 t4_22 h24)) ∧
 ∀t4_17 (d18:Nat→Value) (h19:Hp),J16 t4_17 h19 →
 J11 t4_17 h19)) ∧
 ∀t4_12 (d13:Nat→Value) (h14:Hp),J11 t4_12 h14 →
 J6 t4_12 h14)) ∧
 ∀t4_7 (d8:Nat→Value) (h9:Hp),J6 t4_7 h9 →
 J1 t4_7 h9)) ∧
 ∀t4_2 (d3:Nat→Value) (h4:Hp),J1 t4_2 h4 →
 asB t4_2 fun b91=>cond b91
 (R (.bool true) h4)
 (R (.bool false) h4)
def wH:Ann :=
 (.two .leaf (.two (.two .leaf (.one (.two (.two .leaf (.join [6,4,7,8,9,10,11,12,13,14,15,16,17,18,19,20,21,22,23] [4] (.two .leaf (.two .leaf (.join [7,4,8,9,10,11,12,13,14,15,16,17,18,19,20,21,22,23] [4] (.two .leaf (.two .leaf (.join [8,4,9,10,11,12,13,14,15,16,17,18,19,20,21,22,23] [4] (.two .leaf (.two .leaf (.join [9,4,10,11,12,13,14,15,16,17,18,19,20,21,22,23] [4] (.two .leaf (.two .leaf (.join [10,4,11,12,13,14,15,16,17,18,19,20,21,22,23] [4] (.two .leaf (.two .leaf (.join [11,4,12,13,14,15,16,17,18,19,20,21,22,23] [4] (.two .leaf (.two .leaf (.join [12,4,13,14,15,16,17,18,19,20,21,22,23] [4] (.two .leaf (.two .leaf (.join [13,4,14,15,16,17,18,19,20,21,22,23] [4] (.two .leaf (.two .leaf (.join [14,4,15,16,17,18,19,20,21,22,23] [4] (.two .leaf (.two .leaf (.join [15,4,16,17,18,19,20,21,22,23] [4] (.two .leaf (.two .leaf (.join [16,4,17,18,19,20,21,22,23] [4] (.two .leaf (.two .leaf (.join [17,4,18,19,20,21,22,23] [4] (.two .leaf (.two .leaf (.join [18,4,19,20,21,22,23] [4] (.two .leaf (.two .leaf (.join [19,4,20,21,22,23] [4] (.two .leaf (.two .leaf (.join [20,4,21,22,23] [4] (.two .leaf (.two .leaf (.join [21,4,22,23] [4] (.two .leaf (.two .leaf (.join [22,4,23] [4] (.two .leaf (.two .leaf (.join [23,4] [4] (.two .leaf .leaf)))))))))))))))))))))))))))))))))))))))))))))))))))))) (.two (.two .leaf .leaf) .leaf)))) (.two .leaf .leaf)))
theorem x3 (ω:Amb)(s_p:Value)(h:Hp)(R:RT)(X:XT)(hk:rf ω s_p h R X):aa Tryz.prog ω 82 [s_p] h R X :=
 al (an:=wH) Tryz.func82 (by kernel_rfl) hk
abbrev vg:Nat:=83
def pP (ω:Amb)(c_p:Value)(h:Hp)(R:RT)(X:XT):Prop :=
 ∃J0:RT,
 (asK .u8 c_p fun n4=>cond (decide ((n4:Int)≥48))
 (asK .u8 c_p fun n5=>J0 (.bool (decide ((n5:Int)≤57))) h)
 (J0 (.bool false) h)) ∧
 ∀t2_1 (d2:Nat→Value) (h3:Hp),J0 t2_1 h3 →
 R t2_1 h3
def vJ:Ann :=
 (.two .leaf (.two (.join [3,4,5,6,7,8,2] [2] .leaf) .leaf))
theorem u6 (ω:Amb)(c_p:Value)(h:Hp)(R:RT)(X:XT)(hk:pP ω c_p h R X):aa Tryz.prog ω 83 [c_p] h R X :=
 al (an:=vJ) Tryz.func83 (by kernel_rfl) hk
abbrev xr:Nat:=92
def qS (ω:Amb)(s_p:Value)(h:Hp)(R:RT)(X:XT):Prop :=
 ∃J0:RT,
 (asS s_p fun s4=>cond (s4.toList==ByteArray.toList ⟨#[]⟩)
 (J0 (.bool true) h)
 (asS s_p fun s5=>cond (decide (((s5.size:Int):Int) > 12))
 (J0 (.bool true) h)
 (asS s_p fun s6=>0≤(0:Int)∧0 < (s6.size:Int)∧aa Tryz.prog ω 80 [(.int .u8 (aK s6 0))] h (fun r7 h8 =>
 asB r7 fun b9=>cond (!b9)
 (J0 (.bool true) h8)
 (aa Tryz.prog ω 82 [s_p] h8 (fun r10 h11 =>
 J0 r10 h11) X)) X))) ∧
 ∀t20_1 (d2:Nat→Value) (h3:Hp),J0 t20_1 h3 →
 asB t20_1 fun b12=>cond b12
 (R (.bool false) h3)
 (asS s_p fun s13=>∃(I14:RT) (μ15:Value→Hp→Nat),I14 (.int .i64 0) h3∧∀t23_16 (d17:Nat→Value) (h18:Hp),I14 t23_16 h18 →
 asK .i64 t23_16 fun n19=>cond (decide ((n19:Int) < (s13.size:Int)))
 (∃J20:RT,
 (asS s_p fun s24=>asI t23_16 fun n25=>0≤(n25:Int)∧n25 < (s24.size:Int)∧aa Tryz.prog ω 80 [(.int .u8 (aK s24 n25))] h18 (fun r26 h27 =>
 asB r26 fun b28=>cond (!b28)
 (asS s_p fun s29=>asI t23_16 fun n30=>0≤(n30:Int)∧n30 < (s29.size:Int)∧aa Tryz.prog ω 83 [(.int .u8 (aK s29 n30))] h27 (fun r31 h32 =>
 asB r31 fun b33=>J20 (.bool (!b33)) h32) X)
 (J20 (.bool false) h27)) X) ∧
 ∀t37_21 (d22:Nat→Value) (h23:Hp),J20 t37_21 h23 →
 asB t37_21 fun b34=>cond b34
 (R (.bool false) h23)
 (asK .i64 t23_16 fun n35=>I14 (.int .i64 (IntKind.wrap .i64 (n35+1))) h23∧μ15 (.int .i64 (IntKind.wrap .i64 (n35+1))) h23 < μ15 t23_16 h18))
 (R (.bool true) h18))
def xu:Ann :=
 (.two .leaf (.two (.two (.join [4,5,6,7,8,9,10,11,12,13,14,15,16,17,18,19,20] [20] .leaf) (.two (.two .leaf .leaf) .leaf)) (.two (.two .leaf (.one (.loop [24,25,3,26,27,28,29,30,31,32,33,34,35,36,37,2,38,23] [23] (.two .leaf (.two (.two .leaf .leaf) (.two (.one (.two .leaf (.two (.join [26,27,28,29,30,31,32,33,34,35,36,37] [37] .leaf) (.two (.two .leaf .leaf) .leaf)))) .leaf)))))) (.two .leaf .leaf))))
theorem xD (ω:Amb)(s_p:Value)(h:Hp)(R:RT)(X:XT)(hk:qS ω s_p h R X):aa Tryz.prog ω 92 [s_p] h R X :=
 al (an:=xu) Tryz.func92 (by kernel_rfl) hk
end Go.Proofs.YtkeeboomikkojaaGreatDoor.Sx
set_option linter.unusedVariables false
set_option maxRecDepth 100000
namespace Go.Proofs.YtkeeboomikkojaaGreatDoor.Sx
open Go Go.Sx Go.Proofs
abbrev tE:Nat:=16
def oR (ω:Amb)(p_p:Value)(h:Hp)(R:RT)(X:XT):Prop :=
 ∃C0,aj (Array.push (h.push (.cells (Value.cells p_p) 24 (0,0))) (.cells #[(.int .i64 0),(.int .i64 0)] 28 (0,0))) ⟨h.size,0,none⟩ 1 C0 ∧
 aa Tryz.prog ω 35 [(.agg C0.toArray)] (Array.push (h.push (.cells (Value.cells p_p) 24 (0,0))) (.cells #[(.int .i64 0),(.int .i64 0)] 28 (0,0))) (fun r1 h2 =>
 asA r1 fun A3=>A3.size=2∧(∀u∈A3.toList,one u)∧au (h2.push (.cells #[(.int .i64 0),(.int .i64 0)] 28 (0,0))) ⟨h2.size,0,none⟩ A3.toList fun h4 =>
 ∃J5:RT,
 (∃v9,ah h4 (Addr.add ⟨h2.size,0,none⟩ 0)=some v9 ∧
 asK .i64 v9 fun n10=>cond (n10==(0:Int))
 (∃C11,aj h4 ⟨h.size,0,none⟩ 1 C11 ∧
 aa Tryz.prog ω 34 [(.agg C11.toArray)] h4 (fun r12 h13 =>
 asS r12 fun s14=>J5 (.bool (decide (((s14.size:Int):Int) > 12000))) h13) X)
 (J5 (.bool false) h4)) ∧
 ∀t14_6 (d7:Nat→Value) (h8:Hp),J5 t14_6 h8 →
 ∃J15:Hp→Prop,
 (asB t14_6 fun b18=>cond b18
 (2=2∧(∀u∈[(.int .i64 1),(.int .i64 (-1))],one u)∧au h8 ⟨h2.size,0,none⟩ [(.int .i64 1),(.int .i64 (-1))] fun h19 =>
 J15 h19)
 (J15 h8)) ∧
 ∀(d16:Nat→Value) (h17:Hp),J15 h17 →
 ∃C20,aj h17 ⟨h2.size,0,none⟩ 2 C20 ∧
 C20.toArray.size=2∧(∀u∈C20.toArray.toList,one u)∧au h17 ⟨Array.size (h.push (.cells (Value.cells p_p) 24 (0,0))),0,none⟩ C20.toArray.toList fun h21 =>
 ∃C22,aj h21 ⟨Array.size (h.push (.cells (Value.cells p_p) 24 (0,0))),0,none⟩ 2 C22∧R (.agg C22.toArray) h21) X
def tA:Ann :=
 (.two .leaf (.two .leaf (.two (.two (.join [6,7,8,9,10,11,12,13,14] [14] .leaf) (.join [15] [] (.two .leaf .leaf))) (.two .leaf .leaf))))
theorem tg (ω:Amb)(p_p:Value)(h:Hp)(R:RT)(X:XT)(hk:oR ω p_p h R X):aa Tryz.prog ω 16 [p_p] h R X :=
 al (an:=tA) Tryz.func16 (by kernel_rfl) hk
abbrev ta:Nat:=35
def oL (ω:Amb)(p_p:Value)(h:Hp)(R:RT)(X:XT):Prop :=
 ∃v0,ah (Array.push (Array.push (h.push (.cells (Value.cells p_p) 24 (0,0))) (.cells #[(.int .i64 0),(.int .i64 0)] 28 (0,0))) (.cells #[(.int .i64 0),(.int .i64 0),(.int .i64 0)] 116 (0,0))) (Addr.add ⟨h.size,0,none⟩ 0)=some v0 ∧
 bz v0 fun a1 l2 c3=>∃J4:Hp→Prop,
 (cond ((l2:Int)==(0:Int))
 (aa Tryz.prog ω 65 [(.pointer (some ⟨Array.size (Array.push (h.push (.cells (Value.cells p_p) 24 (0,0))) (.cells #[(.int .i64 0),(.int .i64 0)] 28 (0,0))),0,none⟩)),(.int .i64 10),(.int .i64 (-1))] (Array.push (Array.push (h.push (.cells (Value.cells p_p) 24 (0,0))) (.cells #[(.int .i64 0),(.int .i64 0)] 28 (0,0))) (.cells #[(.int .i64 0),(.int .i64 0),(.int .i64 0)] 116 (0,0))) (fun r7 h8 =>
 J4 h8) X)
 (J4 (Array.push (Array.push (h.push (.cells (Value.cells p_p) 24 (0,0))) (.cells #[(.int .i64 0),(.int .i64 0)] 28 (0,0))) (.cells #[(.int .i64 0),(.int .i64 0),(.int .i64 0)] 116 (0,0))))) ∧
 ∀(d5:Nat→Value) (h6:Hp),J4 h6 →
 ∃v9,ah h6 (Addr.add ⟨h.size,0,none⟩ 0)=some v9 ∧
 bz v9 fun a10 l11 c12=>∃J13:Hp→Prop,
 (cond (decide (((l11:Int):Int) > 10))
 (aa Tryz.prog ω 65 [(.pointer (some ⟨Array.size (Array.push (h.push (.cells (Value.cells p_p) 24 (0,0))) (.cells #[(.int .i64 0),(.int .i64 0)] 28 (0,0))),0,none⟩)),(.int .i64 8),(.int .i64 (-1))] h6 (fun r16 h17 =>
 J13 h17) X)
 (J13 h6)) ∧
 ∀(d14:Nat→Value) (h15:Hp),J13 h15 →
 ∃(I18:RT) (μ19:Value→Hp→Nat),I18 (.int .i64 0) h15∧∀i_20 (d21:Nat→Value) (h22:Hp),I18 i_20 h22 →
 ∃β23:Bool,
 (∃v25,ah h22 (Addr.add ⟨h.size,0,none⟩ 0)=some v25 ∧
 bz v25 fun a26 l27 c28=>asK .i64 i_20 fun n29=>cond (decide ((n29:Int) < (l27:Int)))
 (∃v30,ah h22 (Addr.add (Addr.add ⟨Array.size (Array.push (h.push (.cells (Value.cells p_p) 24 (0,0))) (.cells #[(.int .i64 0),(.int .i64 0)] 28 (0,0))),0,none⟩ 1) 0)=some v30 ∧
 asK .i64 v30 fun n31=>((.bool (n31==(0:Int))):Value)=.bool β23∧h22=h22)
 (((.bool false):Value)=.bool β23∧h22=h22)) ∧
 ∀d24:Nat→Value,
 cond β23
 (∃v32,ah h22 (Addr.add ⟨h.size,0,none⟩ 0)=some v32 ∧
 aI v32 fun a33 l34 c35=>asI i_20 fun n36=>0≤(n36:Int)∧n36 < (l34:Int)∧∃C37,aj h22 (Addr.add a33 (n36.toNat*4)) 4 C37 ∧
 asK .i64 i_20 fun n38=>aa Tryz.prog ω 66 [(.pointer (some ⟨Array.size (Array.push (h.push (.cells (Value.cells p_p) 24 (0,0))) (.cells #[(.int .i64 0),(.int .i64 0)] 28 (0,0))),0,none⟩)),(.agg C37.toArray),(.int .i64 (IntKind.wrap .i64 ((-2) - n38)))] h22 (fun r39 h40 =>
 asK .i64 i_20 fun n41=>I18 (.int .i64 (IntKind.wrap .i64 (n41+1))) h40∧μ19 (.int .i64 (IntKind.wrap .i64 (n41+1))) h40 < μ19 i_20 h22) X)
 (∃C42,aj h22 (Addr.add ⟨Array.size (Array.push (h.push (.cells (Value.cells p_p) 24 (0,0))) (.cells #[(.int .i64 0),(.int .i64 0)] 28 (0,0))),0,none⟩ 1) 2 C42 ∧
 C42.toArray.size=2∧(∀u∈C42.toArray.toList,one u)∧au h22 ⟨Array.size (h.push (.cells (Value.cells p_p) 24 (0,0))),0,none⟩ C42.toArray.toList fun h43 =>
 ∃C44,aj h43 ⟨Array.size (h.push (.cells (Value.cells p_p) 24 (0,0))),0,none⟩ 2 C44∧R (.agg C44.toArray) h43)
def te:Ann :=
 (.two .leaf (.two .leaf (.two (.two .leaf (.join [11,12] [] (.two .leaf .leaf))) (.two (.two .leaf (.join [17,18] [] (.two .leaf .leaf))) (.two (.two .leaf (.one (.loop [19,20,21,22,23,24,25,26,27,28,29,30,31,34,35,36,37,38,39,40,41,42,32,33,4] [4] (.two (.two (.jb [19,20,21,22,23,24,25,26,27,28,29,30,31] 31 .leaf) (.two .leaf .leaf)) (.two (.one .leaf) .leaf))))) (.two .leaf .leaf))))))
theorem tp (ω:Amb)(p_p:Value)(h:Hp)(R:RT)(X:XT)(hk:oL ω p_p h R X):aa Tryz.prog ω 35 [p_p] h R X :=
 al (an:=te) Tryz.func35 (by kernel_rfl) hk
abbrev ei:Nat:=65
def ep (ω:Amb)(w_p code_p at_p:Value)(h:Hp)(R:RT)(X:XT):Prop :=
 nnK w_p (asP w_p fun p0 =>
 ∃v1,ah h (Addr.add (Addr.add p0 1) 0)=some v1 ∧
 asK .i64 v1 fun n2=>∃J3:Hp→Prop,
 (cond (n2==(0:Int))
 (bO code_p (bO at_p (nnK w_p (asP w_p fun p6 =>
 2=2∧(∀u∈[code_p,at_p],one u)∧au h (Addr.add p6 1) [code_p,at_p] fun h7 =>
 J3 h7))))
 (J3 h)) ∧
 ∀(d4:Nat→Value) (h5:Hp),J3 h5 →
 R (.tuple #[]) h5)
def lf:Ann :=
 (.two .leaf (.join [12,13,14,15,16,17] [] (.two .leaf .leaf)))
theorem lg (ω:Amb)(w_p code_p at_p:Value)(h:Hp)(R:RT)(X:XT)(hk:ep ω w_p code_p at_p h R X):aa Tryz.prog ω 65 [w_p,code_p,at_p] h R X :=
 al (an:=lf) Tryz.func65 (by kernel_rfl) hk
abbrev j3:Nat:=66
def dX (ω:Amb)(w_p s_p at_p:Value)(h:Hp)(R:RT)(X:XT):Prop :=
 ∃v0,ah (h.push (.cells (Value.cells s_p) 41 (0,0))) (Addr.add ⟨h.size,0,none⟩ 0)=some v0 ∧
 aa Tryz.prog ω 92 [v0] (h.push (.cells (Value.cells s_p) 41 (0,0))) (fun r1 h2 =>
 asB r1 fun b3=>∃J4:Hp→Prop,
 (cond (!b3)
 (aa Tryz.prog ω 65 [w_p,(.int .i64 4),at_p] h2 (fun r7 h8 =>
 J4 h8) X)
 (J4 h2)) ∧
 ∀(d5:Nat→Value) (h6:Hp),J4 h6 →
 ∃v9,ah h6 (Addr.add ⟨h.size,0,none⟩ 2)=some v9 ∧
 bz v9 fun a10 l11 c12=>∃J13:Hp→Prop,
 (cond (decide (((l11:Int):Int) > 6))
 (aa Tryz.prog ω 65 [w_p,(.int .i64 8),at_p] h6 (fun r16 h17 =>
 J13 h17) X)
 (J13 h6)) ∧
 ∀(d14:Nat→Value) (h15:Hp),J13 h15 →
 ∃(I18:RT) (μ19:Value→Hp→Nat),I18 (.int .i64 0) h15∧∀i_20 (d21:Nat→Value) (h22:Hp),I18 i_20 h22 →
 ∃β23:Bool,
 (∃v25,ah h22 (Addr.add ⟨h.size,0,none⟩ 2)=some v25 ∧
 bz v25 fun a26 l27 c28=>asK .i64 i_20 fun n29=>cond (decide ((n29:Int) < (l27:Int)))
 (nnK w_p (asP w_p fun p30 =>
 ∃v31,ah h22 (Addr.add (Addr.add p30 1) 0)=some v31 ∧
 asK .i64 v31 fun n32=>((.bool (n32==(0:Int))):Value)=.bool β23∧h22=h22))
 (((.bool false):Value)=.bool β23∧h22=h22)) ∧
 ∀d24:Nat→Value,
 cond β23
 (∃J33:Hp→Prop,
 (∃v36,ah h22 (Addr.add ⟨h.size,0,none⟩ 2)=some v36 ∧
 aI v36 fun a37 l38 c39=>asI i_20 fun n40=>0≤(n40:Int)∧n40 < (l38:Int)∧∃v41,ah h22 (Addr.add (Addr.add a37 (n40.toNat*2)) 0)=some v41 ∧
 aa Tryz.prog ω 92 [v41] h22 (fun r42 h43 =>
 asB r42 fun b44=>∃J45:Hp→Prop,
 (cond (!b44)
 (aa Tryz.prog ω 65 [w_p,(.int .i64 4),at_p] h43 (fun r48 h49 =>
 J45 h49) X)
 (J45 h43)) ∧
 ∀(d46:Nat→Value) (h47:Hp),J45 h47 →
 ∃v50,ah h47 (Addr.add ⟨h.size,0,none⟩ 2)=some v50 ∧
 aI v50 fun a51 l52 c53=>asI i_20 fun n54=>0≤(n54:Int)∧n54 < (l52:Int)∧∃v55,ah h47 (Addr.add (Addr.add a51 (n54.toNat*2)) 1)=some v55 ∧
 aa Tryz.prog ω 28 [v55,(.int .i64 3)] h47 (fun r56 h57 =>
 asB r56 fun b58=>∃J59:Hp→Prop,
 (cond (!b58)
 (aa Tryz.prog ω 65 [w_p,(.int .i64 11),at_p] h57 (fun r62 h63 =>
 J59 h63) X)
 (J59 h57)) ∧
 ∀(d60:Nat→Value) (h61:Hp),J59 h61 →
 J33 h61) X) X) ∧
 ∀(d34:Nat→Value) (h35:Hp),J33 h35 →
 asK .i64 i_20 fun n64=>I18 (.int .i64 (IntKind.wrap .i64 (n64+1))) h35∧μ19 (.int .i64 (IntKind.wrap .i64 (n64+1))) h35 < μ19 i_20 h22)
 (∃v65,ah h22 (Addr.add ⟨h.size,0,none⟩ 3)=some v65 ∧
 aa Tryz.prog ω 93 [w_p,v65,(.int .i64 1)] h22 (fun r66 h67 =>
 R (.tuple #[]) h67) X)) X
def kg:Ann :=
 (.two .leaf (.two (.two .leaf (.join [11,12,13] [] (.two .leaf .leaf))) (.two (.two .leaf (.join [18,19,20] [] (.two .leaf .leaf))) (.two (.two .leaf (.one (.loop [21,22,23,24,25,26,27,28,29,30,31,32,33,36,37,38,39,40,41,42,43,44,45,46,47,48,49,50,51,52,53,54,55,56,57,34,35,6] [6] (.two (.two (.jb [21,22,23,24,25,26,27,28,29,30,31,32,33] 33 .leaf) (.two .leaf .leaf)) (.two (.join [36,37,38,39,40,41,42,43,44,45,46,47,48,49,50,51,52,53,54,55,56,57] [] (.one (.two (.two .leaf (.join [44,45,46] [] (.two .leaf .leaf))) (.two .leaf (.join [55,56,57] [] (.two .leaf .leaf)))))) .leaf))))) .leaf))))
theorem kt (ω:Amb)(w_p s_p at_p:Value)(h:Hp)(R:RT)(X:XT)(hk:dX ω w_p s_p at_p h R X):aa Tryz.prog ω 66 [w_p,s_p,at_p] h R X :=
 al (an:=kg) Tryz.func66 (by kernel_rfl) hk
abbrev dR:Nat:=93
def ck (ω:Amb)(w_p l_p deep_p:Value)(h:Hp)(R:RT)(X:XT):Prop :=
 ∃(I0:RT) (μ1:Value→Hp→Nat),I0 (.int .i64 0) h∧∀i_2 (d3:Nat→Value) (h4:Hp),I0 i_2 h4 →
 ∃β5:Bool,
 (bz l_p fun a7 l8 c9=>asK .i64 i_2 fun n10=>cond (decide ((n10:Int) < (l8:Int)))
 (nnK w_p (asP w_p fun p11 =>
 ∃v12,ah h4 (Addr.add (Addr.add p11 1) 0)=some v12 ∧
 asK .i64 v12 fun n13=>((.bool (n13==(0:Int))):Value)=.bool β5∧h4=h4))
 (((.bool false):Value)=.bool β5∧h4=h4)) ∧
 ∀d6:Nat→Value,
 cond β5
 (aI l_p fun a14 l15 c16=>asI i_2 fun n17=>0≤(n17:Int)∧n17 < (l15:Int)∧∃C18,aj h4 (Addr.add a14 (n17.toNat*9)) 9 C18 ∧
 aa Tryz.prog ω 120 [w_p,(.agg C18.toArray),deep_p] h4 (fun r19 h20 =>
 asK .i64 i_2 fun n21=>I0 (.int .i64 (IntKind.wrap .i64 (n21+1))) h20∧μ1 (.int .i64 (IntKind.wrap .i64 (n21+1))) h20 < μ1 i_2 h4) X)
 (R (.tuple #[]) h4)
def kc:Ann :=
 (.two .leaf (.one (.loop [7,8,9,10,11,12,13,14,15,16,17,18,21,22,23,24,25,26,27,19,20,6] [6] (.two (.two (.jb [7,8,9,10,11,12,13,14,15,16,17,18] 18 .leaf) (.two .leaf .leaf)) (.two (.one .leaf) .leaf)))))
theorem dC (ω:Amb)(w_p l_p deep_p:Value)(h:Hp)(R:RT)(X:XT)(hk:ck ω w_p l_p deep_p h R X):aa Tryz.prog ω 93 [w_p,l_p,deep_p] h R X :=
 al (an:=kc) Tryz.func93 (by kernel_rfl) hk
abbrev xX:Nat:=119
def qY (ω:Amb)(do_p:Value)(h:Hp)(R:RT)(X:XT):Prop :=
 asK .i64 do_p fun n0=>∃J1:RT,
 (cond (n0==(1:Int))
 (J1 (.bool (n0==(1:Int))) (h.push (.cells #[(.bool false),(.bool false),(.bool false),(.bool false),(.int .i64 0),(.bool false),(.bool false)] 165 (0,0))))
 (asK .i64 do_p fun n5=>∃J6:RT,
 (cond (n5==(2:Int))
 (J6 (.bool (n5==(2:Int))) (h.push (.cells #[(.bool false),(.bool false),(.bool false),(.bool false),(.int .i64 0),(.bool false),(.bool false)] 165 (0,0))))
 (asK .i64 do_p fun n10=>J6 (.bool (n10==(6:Int))) (h.push (.cells #[(.bool false),(.bool false),(.bool false),(.bool false),(.int .i64 0),(.bool false),(.bool false)] 165 (0,0))))) ∧
 ∀t5_7 (d8:Nat→Value) (h9:Hp),J6 t5_7 h9 →
 J1 t5_7 h9)) ∧
 ∀t5_2 (d3:Nat→Value) (h4:Hp),J1 t5_2 h4 →
 asB t5_2 fun b11=>cond b11
 (7=7∧(∀u∈[(.bool true),(.bool false),(.bool false),(.bool false),(.int .i64 1),(.bool false),(.bool false)],one u)∧au h4 ⟨h.size,0,none⟩ [(.bool true),(.bool false),(.bool false),(.bool false),(.int .i64 1),(.bool false),(.bool false)] fun h12 =>
 ∃C13,aj h12 ⟨h.size,0,none⟩ 7 C13∧R (.tuple #[(.agg C13.toArray),(.bool true)]) h12)
 (asK .i64 do_p fun n14=>cond (n14==(3:Int))
 (7=7∧(∀u∈[(.bool false),(.bool false),(.bool false),(.bool false),(.int .i64 1),(.bool false),(.bool false)],one u)∧au h4 ⟨h.size,0,none⟩ [(.bool false),(.bool false),(.bool false),(.bool false),(.int .i64 1),(.bool false),(.bool false)] fun h15 =>
 ∃C16,aj h15 ⟨h.size,0,none⟩ 7 C16∧R (.tuple #[(.agg C16.toArray),(.bool true)]) h15)
 (asK .i64 do_p fun n17=>cond (n17==(4:Int))
 (7=7∧(∀u∈[(.bool true),(.bool true),(.bool true),(.bool true),(.int .i64 0),(.bool false),(.bool false)],one u)∧au h4 ⟨h.size,0,none⟩ [(.bool true),(.bool true),(.bool true),(.bool true),(.int .i64 0),(.bool false),(.bool false)] fun h18 =>
 ∃C19,aj h18 ⟨h.size,0,none⟩ 7 C19∧R (.tuple #[(.agg C19.toArray),(.bool true)]) h18)
 (asK .i64 do_p fun n20=>cond (n20==(5:Int))
 (7=7∧(∀u∈[(.bool true),(.bool true),(.bool false),(.bool false),(.int .i64 0),(.bool false),(.bool false)],one u)∧au h4 ⟨h.size,0,none⟩ [(.bool true),(.bool true),(.bool false),(.bool false),(.int .i64 0),(.bool false),(.bool false)] fun h21 =>
 ∃C22,aj h21 ⟨h.size,0,none⟩ 7 C22∧R (.tuple #[(.agg C22.toArray),(.bool true)]) h21)
 (asK .i64 do_p fun n23=>∃J24:RT,
 (cond (n23==(7:Int))
 (J24 (.bool (n23==(7:Int))) h4)
 (asK .i64 do_p fun n28=>∃J29:RT,
 (cond (n28==(8:Int))
 (J29 (.bool (n28==(8:Int))) h4)
 (asK .i64 do_p fun n33=>J29 (.bool (n33==(9:Int))) h4)) ∧
 ∀t19_30 (d31:Nat→Value) (h32:Hp),J29 t19_30 h32 →
 J24 t19_30 h32)) ∧
 ∀t19_25 (d26:Nat→Value) (h27:Hp),J24 t19_25 h27 →
 asB t19_25 fun b34=>cond b34
 (7=7∧(∀u∈[(.bool true),(.bool false),(.bool false),(.bool false),(.int .i64 0),(.bool false),(.bool false)],one u)∧au h27 ⟨h.size,0,none⟩ [(.bool true),(.bool false),(.bool false),(.bool false),(.int .i64 0),(.bool false),(.bool false)] fun h35 =>
 ∃C36,aj h35 ⟨h.size,0,none⟩ 7 C36∧R (.tuple #[(.agg C36.toArray),(.bool true)]) h35)
 (asK .i64 do_p fun n37=>cond (n37==(10:Int))
 (7=7∧(∀u∈[(.bool true),(.bool false),(.bool false),(.bool false),(.int .i64 (-1)),(.bool false),(.bool false)],one u)∧au h27 ⟨h.size,0,none⟩ [(.bool true),(.bool false),(.bool false),(.bool false),(.int .i64 (-1)),(.bool false),(.bool false)] fun h38 =>
 ∃C39,aj h38 ⟨h.size,0,none⟩ 7 C39∧R (.tuple #[(.agg C39.toArray),(.bool true)]) h38)
 (asK .i64 do_p fun n40=>cond (n40==(11:Int))
 (7=7∧(∀u∈[(.bool true),(.bool true),(.bool false),(.bool false),(.int .i64 0),(.bool true),(.bool true)],one u)∧au h27 ⟨h.size,0,none⟩ [(.bool true),(.bool true),(.bool false),(.bool false),(.int .i64 0),(.bool true),(.bool true)] fun h41 =>
 ∃C42,aj h41 ⟨h.size,0,none⟩ 7 C42∧R (.tuple #[(.agg C42.toArray),(.bool true)]) h41)
 (asK .i64 do_p fun n43=>cond (n43==(12:Int))
 (7=7∧(∀u∈[(.bool true),(.bool true),(.bool false),(.bool false),(.int .i64 0),(.bool true),(.bool false)],one u)∧au h27 ⟨h.size,0,none⟩ [(.bool true),(.bool true),(.bool false),(.bool false),(.int .i64 0),(.bool true),(.bool false)] fun h44 =>
 ∃C45,aj h44 ⟨h.size,0,none⟩ 7 C45∧R (.tuple #[(.agg C45.toArray),(.bool true)]) h44)
 (asK .i64 do_p fun n46=>cond (n46==(13:Int))
 (7=7∧(∀u∈[(.bool false),(.bool false),(.bool false),(.bool false),(.int .i64 1),(.bool true),(.bool false)],one u)∧au h27 ⟨h.size,0,none⟩ [(.bool false),(.bool false),(.bool false),(.bool false),(.int .i64 1),(.bool true),(.bool false)] fun h47 =>
 ∃C48,aj h47 ⟨h.size,0,none⟩ 7 C48∧R (.tuple #[(.agg C48.toArray),(.bool true)]) h47)
 (asK .i64 do_p fun n49=>cond (n49==(14:Int))
 (7=7∧(∀u∈[(.bool false),(.bool false),(.bool false),(.bool false),(.int .i64 1),(.bool true),(.bool true)],one u)∧au h27 ⟨h.size,0,none⟩ [(.bool false),(.bool false),(.bool false),(.bool false),(.int .i64 1),(.bool true),(.bool true)] fun h50 =>
 ∃C51,aj h50 ⟨h.size,0,none⟩ 7 C51∧R (.tuple #[(.agg C51.toArray),(.bool true)]) h50)
 (7=7∧(∀u∈[(.bool false),(.bool false),(.bool false),(.bool false),(.int .i64 0),(.bool false),(.bool false)],one u)∧au h27 ⟨h.size,0,none⟩ [(.bool false),(.bool false),(.bool false),(.bool false),(.int .i64 0),(.bool false),(.bool false)] fun h52 =>
 ∃C53,aj h52 ⟨h.size,0,none⟩ 7 C53∧R (.tuple #[(.agg C53.toArray),(.bool false)]) h52))))))))))
def xh:Ann :=
 (.two .leaf (.two (.two .leaf (.one (.two (.two .leaf (.join [7,5,8] [5] (.two .leaf (.two .leaf (.join [8,5] [5] (.two .leaf .leaf)))))) (.two (.two .leaf .leaf) (.two .leaf (.two (.two .leaf .leaf) (.two .leaf (.two (.two .leaf .leaf) (.two .leaf (.two (.two .leaf .leaf) (.two (.two .leaf (.join [21,19,22] [19] (.two .leaf (.two .leaf (.join [22,19] [19] (.two .leaf .leaf)))))) (.two (.two .leaf .leaf) (.two .leaf (.two (.two .leaf .leaf) (.two .leaf (.two (.two .leaf .leaf) (.two .leaf (.two (.two .leaf .leaf) (.two .leaf (.two (.two .leaf .leaf) (.two .leaf (.two (.two .leaf .leaf) .leaf)))))))))))))))))))))) (.two .leaf .leaf)))
theorem xb (ω:Amb)(do_p:Value)(h:Hp)(R:RT)(X:XT)(hk:qY ω do_p h R X):aa Tryz.prog ω 119 [do_p] h R X :=
 al (an:=xh) Tryz.func119 (by kernel_rfl) hk
abbrev lV:Nat:=120
def eD (ω:Amb)(w_p s_p deep_p:Value)(h:Hp)(R:RT)(X:XT):Prop :=
 nnK w_p (asP w_p fun p0 =>
 ∃v1,ah (h.push (.cells (Value.cells s_p) 39 (0,0))) (Addr.add p0 0)=some v1 ∧
 nnK w_p (asP w_p fun p2 =>
 ∃v3,ah (h.push (.cells (Value.cells s_p) 39 (0,0))) (Addr.add p2 0)=some v3 ∧
 asK .i64 v3 fun n4=>nnK w_p (asP w_p fun p5 =>
 aE (h.push (.cells (Value.cells s_p) 39 (0,0))) (Addr.add p5 0) (.int .i64 (IntKind.wrap .i64 (n4+1))) fun h6 =>
 ∃v7,ah h6 (Addr.add ⟨h.size,0,none⟩ 0)=some v7 ∧
 aa Tryz.prog ω 119 [v7] h6 (fun r8 h9 =>
 asT r8 fun T10=>asO T10[0]? fun v11=>asT r8 fun T12=>asO T12[1]? fun v13=>asA v11 fun A14=>A14.size=7∧(∀u∈A14.toList,one u)∧au (h9.push (.cells #[(.bool false),(.bool false),(.bool false),(.bool false),(.int .i64 0),(.bool false),(.bool false)] 165 (0,0))) ⟨h9.size,0,none⟩ A14.toList fun h15 =>
 ∃J16:Hp→Prop,
 (asK .i64 v1 fun n19=>∃J20:Hp→Prop,
 (cond (decide ((n19:Int)≥300))
 (aa Tryz.prog ω 65 [w_p,(.int .i64 8),v1] h15 (fun r23 h24 =>
 J20 h24) X)
 (asB v13 fun b25=>∃J26:RT,
 (cond (!b25)
 (J26 (.bool (!b25)) h15)
 (∃J30:RT,
 (∃v34,ah h15 (Addr.add ⟨h9.size,0,none⟩ 2)=some v34 ∧
 asB v34 fun b35=>cond (!b35)
 (∃v36,ah h15 (Addr.add ⟨h.size,0,none⟩ 4)=some v36 ∧
 asS v36 fun s37=>J30 (.bool (!(s37.toList==ByteArray.toList ⟨#[]⟩))) h15)
 (J30 (.bool false) h15)) ∧
 ∀t34_31 (d32:Nat→Value) (h33:Hp),J30 t34_31 h33 →
 ∃J38:RT,
 (asB t34_31 fun b42=>cond b42
 (J38 t34_31 h33)
 (∃J43:RT,
 (∃v47,ah h33 (Addr.add ⟨h9.size,0,none⟩ 3)=some v47 ∧
 asB v47 fun b48=>cond (!b48)
 (∃v49,ah h33 (Addr.add ⟨h.size,0,none⟩ 5)=some v49 ∧
 asK .i64 v49 fun n50=>J43 (.bool (n50 !=(0:Int))) h33)
 (J43 (.bool false) h33)) ∧
 ∀t34_44 (d45:Nat→Value) (h46:Hp),J43 t34_44 h46 →
 ∃J51:RT,
 (asB t34_44 fun b55=>cond b55
 (J51 t34_44 h46)
 (∃J56:RT,
 (∃v60,ah h46 (Addr.add ⟨h9.size,0,none⟩ 4)=some v60 ∧
 asK .i64 v60 fun n61=>cond (decide ((n61:Int)≥0))
 (∃v62,ah h46 (Addr.add ⟨h.size,0,none⟩ 6)=some v62 ∧
 bz v62 fun a63 l64 c65=>∃v66,ah h46 (Addr.add ⟨h9.size,0,none⟩ 4)=some v66 ∧
 asK .i64 v66 fun n67=>J56 (.bool ((l64:Int) !=(n67:Int))) h46)
 (J56 (.bool false) h46)) ∧
 ∀t34_57 (d58:Nat→Value) (h59:Hp),J56 t34_57 h59 →
 ∃J68:RT,
 (asB t34_57 fun b72=>cond b72
 (J68 t34_57 h59)
 (∃J73:RT,
 (∃v77,ah h59 (Addr.add ⟨h9.size,0,none⟩ 5)=some v77 ∧
 asB v77 fun b78=>cond (!b78)
 (∃v79,ah h59 (Addr.add ⟨h.size,0,none⟩ 7)=some v79 ∧
 bz v79 fun a80 l81 c82=>J73 (.bool (decide (((l81:Int):Int) > 0))) h59)
 (J73 (.bool false) h59)) ∧
 ∀t34_74 (d75:Nat→Value) (h76:Hp),J73 t34_74 h76 →
 ∃J83:RT,
 (asB t34_74 fun b87=>cond b87
 (J83 t34_74 h76)
 (∃J88:RT,
 (∃v92,ah h76 (Addr.add ⟨h9.size,0,none⟩ 6)=some v92 ∧
 asB v92 fun b93=>cond (!b93)
 (∃v94,ah h76 (Addr.add ⟨h.size,0,none⟩ 8)=some v94 ∧
 bz v94 fun a95 l96 c97=>J88 (.bool (decide (((l96:Int):Int) > 0))) h76)
 (J88 (.bool false) h76)) ∧
 ∀t34_89 (d90:Nat→Value) (h91:Hp),J88 t34_89 h91 →
 ∃J98:RT,
 (asB t34_89 fun b102=>cond b102
 (J98 t34_89 h91)
 (∃J103:RT,
 (∃v107,ah h91 (Addr.add ⟨h9.size,0,none⟩ 0)=some v107 ∧
 asB v107 fun b108=>cond (!b108)
 (∃v109,ah h91 (Addr.add ⟨h.size,0,none⟩ 2)=some v109 ∧
 asS v109 fun s110=>J103 (.bool (!(s110.toList==ByteArray.toList ⟨#[]⟩))) h91)
 (J103 (.bool false) h91)) ∧
 ∀t34_104 (d105:Nat→Value) (h106:Hp),J103 t34_104 h106 →
 ∃J111:RT,
 (asB t34_104 fun b115=>cond b115
 (J111 t34_104 h106)
 (∃J116:RT,
 (∃v120,ah h106 (Addr.add ⟨h9.size,0,none⟩ 1)=some v120 ∧
 asB v120 fun b121=>cond (!b121)
 (∃v122,ah h106 (Addr.add ⟨h.size,0,none⟩ 3)=some v122 ∧
 asS v122 fun s123=>J116 (.bool (!(s123.toList==ByteArray.toList ⟨#[]⟩))) h106)
 (J116 (.bool false) h106)) ∧
 ∀t34_117 (d118:Nat→Value) (h119:Hp),J116 t34_117 h119 →
 J111 t34_117 h119)) ∧
 ∀t34_112 (d113:Nat→Value) (h114:Hp),J111 t34_112 h114 →
 J98 t34_112 h114)) ∧
 ∀t34_99 (d100:Nat→Value) (h101:Hp),J98 t34_99 h101 →
 J83 t34_99 h101)) ∧
 ∀t34_84 (d85:Nat→Value) (h86:Hp),J83 t34_84 h86 →
 J68 t34_84 h86)) ∧
 ∀t34_69 (d70:Nat→Value) (h71:Hp),J68 t34_69 h71 →
 J51 t34_69 h71)) ∧
 ∀t34_52 (d53:Nat→Value) (h54:Hp),J51 t34_52 h54 →
 J38 t34_52 h54)) ∧
 ∀t34_39 (d40:Nat→Value) (h41:Hp),J38 t34_39 h41 →
 J26 t34_39 h41)) ∧
 ∀t34_27 (d28:Nat→Value) (h29:Hp),J26 t34_27 h29 →
 ∃J124:Hp→Prop,
 (asB t34_27 fun b127=>cond b127
 (aa Tryz.prog ω 65 [w_p,(.int .i64 5),v1] h29 (fun r128 h129 =>
 J124 h129) X)
 (∃v130,ah h29 (Addr.add ⟨h.size,0,none⟩ 6)=some v130 ∧
 bz v130 fun a131 l132 c133=>∃J134:Hp→Prop,
 (cond (decide (((l132:Int):Int) > 6))
 (aa Tryz.prog ω 65 [w_p,(.int .i64 8),v1] h29 (fun r137 h138 =>
 J134 h138) X)
 (J134 h29)) ∧
 ∀(d135:Nat→Value) (h136:Hp),J134 h136 →
 J124 h136)) ∧
 ∀(d125:Nat→Value) (h126:Hp),J124 h126 →
 J20 h126)) ∧
 ∀(d21:Nat→Value) (h22:Hp),J20 h22 →
 J16 h22) ∧
 ∀(d17:Nat→Value) (h18:Hp),J16 h18 →
 nnK w_p (asP w_p fun p139 =>
 ∃v140,ah h18 (Addr.add (Addr.add p139 1) 0)=some v140 ∧
 asK .i64 v140 fun n141=>cond (n141 !=(0:Int))
 (R (.tuple #[]) h18)
 (∃v142,ah h18 (Addr.add ⟨h9.size,0,none⟩ 0)=some v142 ∧
 ∃v143,ah h18 (Addr.add ⟨h.size,0,none⟩ 2)=some v143 ∧
 aa Tryz.prog ω 138 [w_p,v142,v143,v1] h18 (fun r144 h145 =>
 ∃v146,ah h145 (Addr.add ⟨h9.size,0,none⟩ 1)=some v146 ∧
 ∃v147,ah h145 (Addr.add ⟨h.size,0,none⟩ 3)=some v147 ∧
 aa Tryz.prog ω 138 [w_p,v146,v147,v1] h145 (fun r148 h149 =>
 ∃J150:RT,
 (∃v154,ah h149 (Addr.add ⟨h9.size,0,none⟩ 2)=some v154 ∧
 asB v154 fun b155=>cond b155
 (∃v156,ah h149 (Addr.add ⟨h.size,0,none⟩ 4)=some v156 ∧
 aa Tryz.prog ω 28 [v156,(.int .i64 3)] h149 (fun r157 h158 =>
 asB r157 fun b159=>J150 (.bool (!b159)) h158) X)
 (J150 (.bool false) h149)) ∧
 ∀t136_151 (d152:Nat→Value) (h153:Hp),J150 t136_151 h153 →
 ∃J160:Hp→Prop,
 (asB t136_151 fun b163=>cond b163
 (aa Tryz.prog ω 65 [w_p,(.int .i64 11),v1] h153 (fun r164 h165 =>
 J160 h165) X)
 (J160 h153)) ∧
 ∀(d161:Nat→Value) (h162:Hp),J160 h162 →
 ∃β166:Bool,
 (∃v168,ah h162 (Addr.add ⟨h.size,0,none⟩ 5)=some v168 ∧
 asK .i64 v168 fun n169=>cond (decide ((n169:Int) < 0))
 (((.bool true):Value)=.bool β166∧h162=h162)
 (∃v170,ah h162 (Addr.add ⟨h.size,0,none⟩ 5)=some v170 ∧
 asK .i64 v170 fun n171=>((.bool (decide ((n171:Int)≥1000000000000000000))):Value)=.bool β166∧h162=h162)) ∧
 ∀d167:Nat→Value,
 ∃J172:Hp→Prop,
 (cond β166
 (aa Tryz.prog ω 65 [w_p,(.int .i64 14),v1] h162 (fun r175 h176 =>
 J172 h176) X)
 (J172 h162)) ∧
 ∀(d173:Nat→Value) (h174:Hp),J172 h174 →
 ∃v177,ah h174 (Addr.add ⟨h.size,0,none⟩ 6)=some v177 ∧
 bz v177 fun a178 l179 c180=>∃(I181:RT) (μ182:Value→Hp→Nat),I181 (.int .i64 0) h174∧∀t154_183 (d184:Nat→Value) (h185:Hp),I181 t154_183 h185 →
 asK .i64 t154_183 fun n186=>cond (decide ((n186:Int) < (l179:Int)))
 (aI v177 fun a187 l188 c189=>asI t154_183 fun n190=>0≤(n190:Int)∧n190 < (l188:Int)∧∃C191,aj h185 (Addr.add a187 (n190.toNat*4)) 4 C191 ∧
 C191.toArray.size=4∧(∀u∈C191.toArray.toList,one u)∧au (h185.push (.cells #[(.int .i64 0),(.string ⟨#[]⟩),(.int .i64 0),(.slice none 0 0)] 36 (0,0))) ⟨h185.size,0,none⟩ C191.toArray.toList fun h192 =>
 ∃C193,aj h192 ⟨h185.size,0,none⟩ 4 C193 ∧
 aa Tryz.prog ω 139 [(.agg C193.toArray),(.int .i64 20)] h192 (fun r194 h195 =>
 asK .i64 r194 fun n196=>∃J197:Hp→Prop,
 (cond (decide ((n196:Int) < 0))
 (aa Tryz.prog ω 65 [w_p,(.int .i64 8),v1] h195 (fun r200 h201 =>
 J197 h201) X)
 (J197 h195)) ∧
 ∀(d198:Nat→Value) (h199:Hp),J197 h199 →
 ∃C202,aj h199 ⟨h185.size,0,none⟩ 4 C202 ∧
 aa Tryz.prog ω 140 [w_p,(.agg C202.toArray),v1] h199 (fun r203 h204 =>
 asK .i64 t154_183 fun n205=>I181 (.int .i64 (IntKind.wrap .i64 (n205+1))) h204∧μ182 (.int .i64 (IntKind.wrap .i64 (n205+1))) h204 < μ182 t154_183 h185) X) X)
 (∃β206:Bool,
 (∃v208,ah h185 (Addr.add ⟨h9.size,0,none⟩ 5)=some v208 ∧
 asB v208 fun b209=>cond b209
 (asK .i64 deep_p fun n210=>((.bool (n210==(8:Int))):Value)=.bool β206∧h185=h185)
 (((.bool false):Value)=.bool β206∧h185=h185)) ∧
 ∀d207:Nat→Value,
 ∃J211:Hp→Prop,
 (cond β206
 (aa Tryz.prog ω 65 [w_p,(.int .i64 7),v1] h185 (fun r214 h215 =>
 J211 h215) X)
 (J211 h185)) ∧
 ∀(d212:Nat→Value) (h213:Hp),J211 h213 →
 ∃v216,ah h213 (Addr.add ⟨h.size,0,none⟩ 7)=some v216 ∧
 asK .i64 deep_p fun n217=>aa Tryz.prog ω 93 [w_p,v216,(.int .i64 (IntKind.wrap .i64 (n217+1)))] h213 (fun r218 h219 =>
 ∃v220,ah h219 (Addr.add ⟨h.size,0,none⟩ 8)=some v220 ∧
 asK .i64 deep_p fun n221=>aa Tryz.prog ω 93 [w_p,v220,(.int .i64 (IntKind.wrap .i64 (n221+1)))] h219 (fun r222 h223 =>
 R (.tuple #[]) h223) X) X)) X) X))) X)))
def mq:Ann :=
 (.two .leaf (.two .leaf (.two .leaf (.two .leaf (.two (.join [29,30,28,31,32,33,35,36,34,37,38,39,40,41,42,43,44,45,46,47,48,49,50,51,52,53,54,55,56,57,58,59,60,61,62,63,64,65,66,67,68,69,70,71,72,73,74,75,76,77,78,79,80,81,82,83,84,85,86,87,88,89,90,91,92,93,94,95,96,97,98,99,100,102,103,104,105,101,106,107,108] [] (.one (.two .leaf (.join [31,32,33,35,36,34,37,38,39,40,41,42,43,44,45,46,47,48,49,50,51,52,53,54,55,56,57,58,59,60,61,62,63,64,65,66,67,68,69,70,71,72,73,74,75,76,77,78,79,80,81,82,83,84,85,86,87,88,89,90,91,92,93,94,95,96,97,98,99,100,102,103,104,105,101,106,107,108] [] (.two .leaf (.two (.two .leaf (.join [37,38,39,40,41,42,43,44,34,45,46,47,48,49,50,51,52,53,54,55,56,57,58,59,60,61,62,63,64,65,66,67,68,69,70,71,72,73,74,75,76,77,78,79,80,81,82,83,84,85,86,87,88,89,90,91,92,93,94,95,96,97] [34] (.two .leaf (.two (.join [37,38,39,40,41,42,43,44,34] [34] .leaf) (.join [45,46,47,48,49,50,51,52,34,53,54,55,56,57,58,59,60,61,62,63,64,65,66,67,68,69,70,71,72,73,74,75,76,77,78,79,80,81,82,83,84,85,86,87,88,89,90,91,92,93,94,95,96,97] [34] (.two .leaf (.two (.join [45,46,47,48,49,50,51,52,34] [34] .leaf) (.join [53,54,55,56,57,58,59,60,61,62,63,34,64,65,66,67,68,69,70,71,72,73,74,75,76,77,78,79,80,81,82,83,84,85,86,87,88,89,90,91,92,93,94,95,96,97] [34] (.two .leaf (.two (.join [53,54,55,56,57,58,59,60,61,62,63,34] [34] .leaf) (.join [64,65,66,67,68,69,70,71,72,34,73,74,75,76,77,78,79,80,81,82,83,84,85,86,87,88,89,90,91,92,93,94,95,96,97] [34] (.two .leaf (.two (.join [64,65,66,67,68,69,70,71,72,34] [34] .leaf) (.join [73,74,75,76,77,78,79,80,81,34,82,83,84,85,86,87,88,89,90,91,92,93,94,95,96,97] [34] (.two .leaf (.two (.join [73,74,75,76,77,78,79,80,81,34] [34] .leaf) (.join [82,83,84,85,86,87,88,89,34,90,91,92,93,94,95,96,97] [34] (.two .leaf (.two (.join [82,83,84,85,86,87,88,89,34] [34] .leaf) (.join [90,91,92,93,94,95,96,97,34] [34] (.two .leaf (.join [90,91,92,93,94,95,96,97,34] [34] .leaf)))))))))))))))))))))) (.join [98,99,100,102,103,104,105,101,106,107,108] [] (.two .leaf (.two .leaf (.join [106,107,108] [] (.two .leaf .leaf))))))))))) (.two (.two .leaf (.two .leaf .leaf)) (.two .leaf (.two .leaf (.two (.two (.join [129,130,131,132,133,134,135,136] [136] .leaf) (.join [137,138,139] [] (.two .leaf .leaf))) (.two (.two (.jb [140,141,142,143,144,145,146,147] 147 .leaf) (.join [148,149,150] [] (.two .leaf .leaf))) (.two (.two .leaf (.one (.loop [155,156,157,10,158,159,160,161,162,163,164,165,166,167,168,154] [154] (.two .leaf (.two (.two .leaf .leaf) (.two (.one (.two .leaf (.two (.two .leaf (.join [161,162,163] [] (.two .leaf .leaf))) .leaf))) .leaf)))))) (.two (.two (.jb [169,170,171,172,173,174] 174 .leaf) (.join [175,176,177] [] (.two .leaf .leaf))) (.two .leaf .leaf)))))))))))))
theorem lU (ω:Amb)(w_p s_p deep_p:Value)(h:Hp)(R:RT)(X:XT)(hk:eD ω w_p s_p deep_p h R X):aa Tryz.prog ω 120 [w_p,s_p,deep_p] h R X :=
 al (an:=mq) Tryz.func120 (by kernel_rfl) hk
abbrev mi:Nat:=138
def eh (ω:Amb)(w_p is_p s_p at_p:Value)(h:Hp)(R:RT)(X:XT):Prop :=
 ∃β0:Bool,
 (asB is_p fun b2=>cond (!b2)
 (asS s_p fun s3=>((.bool (!(s3.toList==ByteArray.toList ⟨#[]⟩))):Value)=.bool β0∧h=h)
 (((.bool false):Value)=.bool β0∧h=h)) ∧
 ∀d1:Nat→Value,
 ∃J4:Hp→Prop,
 (cond β0
 (aa Tryz.prog ω 65 [w_p,(.int .i64 5),at_p] h (fun r7 h8 =>
 J4 h8) X)
 (J4 h)) ∧
 ∀(d5:Nat→Value) (h6:Hp),J4 h6 →
 ∃J9:RT,
 (asB is_p fun b13=>cond b13
 (aa Tryz.prog ω 92 [s_p] h6 (fun r14 h15 =>
 asB r14 fun b16=>J9 (.bool (!b16)) h15) X)
 (J9 (.bool false) h6)) ∧
 ∀t22_10 (d11:Nat→Value) (h12:Hp),J9 t22_10 h12 →
 ∃J17:Hp→Prop,
 (asB t22_10 fun b20=>cond b20
 (aa Tryz.prog ω 65 [w_p,(.int .i64 4),at_p] h12 (fun r21 h22 =>
 J17 h22) X)
 (J17 h12)) ∧
 ∀(d18:Nat→Value) (h19:Hp),J17 h19 →
 R (.tuple #[]) h19
def lz:Ann :=
 (.two (.two (.jb [8,9,10,11,12,13] 13 .leaf) (.join [14,15,16] [] (.two .leaf .leaf))) (.two (.join [17,18,19,20,21,22] [22] .leaf) (.join [23,24,25] [] (.two .leaf .leaf))))
theorem lk (ω:Amb)(w_p is_p s_p at_p:Value)(h:Hp)(R:RT)(X:XT)(hk:eh ω w_p is_p s_p at_p h R X):aa Tryz.prog ω 138 [w_p,is_p,s_p,at_p] h R X :=
 al (an:=lz) Tryz.func138 (by kernel_rfl) hk
abbrev sZ:Nat:=139
def oM (ω:Amb)(x_p left_p:Value)(h:Hp)(R:RT)(X:XT):Prop :=
 asK .i64 left_p fun n0=>∃(I1:Value→RT) (μ2:Value→Value→Hp→Nat),I1 (.int .i64 (IntKind.wrap .i64 (n0 - 1))) (.int .i64 0) (h.push (.cells (Value.cells x_p) 36 (0,0)))∧∀left_3 i_4 (d5:Nat→Value) (h6:Hp),I1 left_3 i_4 h6 →
 ∃β7:Bool,
 (∃v9,ah h6 (Addr.add ⟨h.size,0,none⟩ 3)=some v9 ∧
 bz v9 fun a10 l11 c12=>asK .i64 i_4 fun n13=>cond (decide ((n13:Int) < (l11:Int)))
 (asK .i64 left_3 fun n14=>((.bool (decide ((n14:Int)≥0))):Value)=.bool β7∧h6=h6)
 (((.bool false):Value)=.bool β7∧h6=h6)) ∧
 ∀d8:Nat→Value,
 cond β7
 (∃v15,ah h6 (Addr.add ⟨h.size,0,none⟩ 3)=some v15 ∧
 aI v15 fun a16 l17 c18=>asI i_4 fun n19=>0≤(n19:Int)∧n19 < (l17:Int)∧∃C20,aj h6 (Addr.add a16 (n19.toNat*4)) 4 C20 ∧
 aa Tryz.prog ω 139 [(.agg C20.toArray),left_3] h6 (fun r21 h22 =>
 asK .i64 i_4 fun n23=>I1 r21 (.int .i64 (IntKind.wrap .i64 (n23+1))) h22∧μ2 r21 (.int .i64 (IntKind.wrap .i64 (n23+1))) h22 < μ2 left_3 i_4 h6) X)
 (R left_3 h6)
def tn:Ann :=
 (.two .leaf (.two .leaf (.two (.two .leaf (.one (.loop [8,9,10,11,12,13,14,15,16,19,20,21,22,23,24,25,1,17,18,5] [1,5] (.two (.two (.jb [8,9,10,11,12,13,14,15,16] 16 .leaf) (.two .leaf .leaf)) (.two (.one .leaf) .leaf))))) (.two .leaf .leaf))))
theorem tt (ω:Amb)(x_p left_p:Value)(h:Hp)(R:RT)(X:XT)(hk:oM ω x_p left_p h R X):aa Tryz.prog ω 139 [x_p,left_p] h R X :=
 al (an:=tn) Tryz.func139 (by kernel_rfl) hk
abbrev mf:Nat:=140
def eO (ω:Amb)(w_p x_p at_p:Value)(h:Hp)(R:RT)(X:XT):Prop :=
 nnK w_p (asP w_p fun p0 =>
 ∃v1,ah (h.push (.cells (Value.cells x_p) 36 (0,0))) (Addr.add (Addr.add p0 1) 0)=some v1 ∧
 asK .i64 v1 fun n2=>cond (n2 !=(0:Int))
 (R (.tuple #[]) (h.push (.cells (Value.cells x_p) 36 (0,0))))
 (∃J3:RT,
 (∃J7:RT,
 (∃v11,ah (h.push (.cells (Value.cells x_p) 36 (0,0))) (Addr.add ⟨h.size,0,none⟩ 0)=some v11 ∧
 asK .i64 v11 fun n12=>cond (n12==(1:Int))
 (J7 (.bool true) (h.push (.cells (Value.cells x_p) 36 (0,0))))
 (∃v13,ah (h.push (.cells (Value.cells x_p) 36 (0,0))) (Addr.add ⟨h.size,0,none⟩ 0)=some v13 ∧
 asK .i64 v13 fun n14=>J7 (.bool (n14==(2:Int))) (h.push (.cells (Value.cells x_p) 36 (0,0))))) ∧
 ∀t15_8 (d9:Nat→Value) (h10:Hp),J7 t15_8 h10 →
 ∃J15:RT,
 (asB t15_8 fun b19=>cond b19
 (J15 (.int .i64 0) h10)
 (∃v20,ah h10 (Addr.add ⟨h.size,0,none⟩ 0)=some v20 ∧
 asK .i64 v20 fun n21=>∃J22:RT,
 (cond (n21==(3:Int))
 (J22 (.int .i64 1) h10)
 (∃J26:RT,
 (∃v30,ah h10 (Addr.add ⟨h.size,0,none⟩ 0)=some v30 ∧
 asK .i64 v30 fun n31=>cond (decide ((n31:Int) < 1))
 (J26 (.bool true) h10)
 (∃v32,ah h10 (Addr.add ⟨h.size,0,none⟩ 0)=some v32 ∧
 asK .i64 v32 fun n33=>J26 (.bool (decide ((n33:Int) > 8))) h10)) ∧
 ∀t28_27 (d28:Nat→Value) (h29:Hp),J26 t28_27 h29 →
 asB t28_27 fun b34=>cond b34
 (aa Tryz.prog ω 65 [w_p,(.int .i64 5),at_p] h29 (fun r35 h36 =>
 R (.tuple #[]) h36) X)
 (J22 (.int .i64 2) h29))) ∧
 ∀parts_23 (d24:Nat→Value) (h25:Hp),J22 parts_23 h25 →
 J15 parts_23 h25)) ∧
 ∀parts_16 (d17:Nat→Value) (h18:Hp),J15 parts_16 h18 →
 J3 parts_16 h18) ∧
 ∀parts_4 (d5:Nat→Value) (h6:Hp),J3 parts_4 h6 →
 ∃β37:Bool,
 (∃v39,ah h6 (Addr.add ⟨h.size,0,none⟩ 3)=some v39 ∧
 bz v39 fun a40 l41 c42=>asK .i64 parts_4 fun n43=>cond ((l41:Int) !=(n43:Int))
 (((.bool true):Value)=.bool β37∧h6=h6)
 (∃v44,ah h6 (Addr.add ⟨h.size,0,none⟩ 0)=some v44 ∧
 asK .i64 v44 fun n45=>cond (n45 !=(1:Int))
 (∃v46,ah h6 (Addr.add ⟨h.size,0,none⟩ 2)=some v46 ∧
 asK .i64 v46 fun n47=>cond (n47 !=(0:Int))
 (((.bool true):Value)=.bool β37∧h6=h6)
 (∃v48,ah h6 (Addr.add ⟨h.size,0,none⟩ 0)=some v48 ∧
 asK .i64 v48 fun n49=>cond (n49 !=(2:Int))
 (∃v50,ah h6 (Addr.add ⟨h.size,0,none⟩ 1)=some v50 ∧
 asS v50 fun s51=>((.bool (!(s51.toList==ByteArray.toList ⟨#[]⟩))):Value)=.bool β37∧h6=h6)
 (((.bool false):Value)=.bool β37∧h6=h6)))
 (∃v52,ah h6 (Addr.add ⟨h.size,0,none⟩ 0)=some v52 ∧
 asK .i64 v52 fun n53=>cond (n53 !=(2:Int))
 (∃v54,ah h6 (Addr.add ⟨h.size,0,none⟩ 1)=some v54 ∧
 asS v54 fun s55=>((.bool (!(s55.toList==ByteArray.toList ⟨#[]⟩))):Value)=.bool β37∧h6=h6)
 (((.bool false):Value)=.bool β37∧h6=h6)))) ∧
 ∀d38:Nat→Value,
 cond β37
 (aa Tryz.prog ω 65 [w_p,(.int .i64 5),at_p] h6 (fun r56 h57 =>
 R (.tuple #[]) h57) X)
 (∃J58:RT,
 (∃v62,ah h6 (Addr.add ⟨h.size,0,none⟩ 0)=some v62 ∧
 asK .i64 v62 fun n63=>cond (n63==(2:Int))
 (∃v64,ah h6 (Addr.add ⟨h.size,0,none⟩ 1)=some v64 ∧
 aa Tryz.prog ω 92 [v64] h6 (fun r65 h66 =>
 asB r65 fun b67=>J58 (.bool (!b67)) h66) X)
 (J58 (.bool false) h6)) ∧
 ∀t76_59 (d60:Nat→Value) (h61:Hp),J58 t76_59 h61 →
 ∃J68:Hp→Prop,
 (asB t76_59 fun b71=>cond b71
 (aa Tryz.prog ω 65 [w_p,(.int .i64 4),at_p] h61 (fun r72 h73 =>
 J68 h73) X)
 (J68 h61)) ∧
 ∀(d69:Nat→Value) (h70:Hp),J68 h70 →
 ∃β74:Bool,
 (∃v76,ah h70 (Addr.add ⟨h.size,0,none⟩ 2)=some v76 ∧
 asK .i64 v76 fun n77=>cond (decide ((n77:Int) < 0))
 (((.bool true):Value)=.bool β74∧h70=h70)
 (∃v78,ah h70 (Addr.add ⟨h.size,0,none⟩ 2)=some v78 ∧
 asK .i64 v78 fun n79=>((.bool (decide ((n79:Int)≥1000000000000000000))):Value)=.bool β74∧h70=h70)) ∧
 ∀d75:Nat→Value,
 ∃J80:Hp→Prop,
 (cond β74
 (aa Tryz.prog ω 65 [w_p,(.int .i64 3),at_p] h70 (fun r83 h84 =>
 J80 h84) X)
 (J80 h70)) ∧
 ∀(d81:Nat→Value) (h82:Hp),J80 h82 →
 ∃v85,ah h82 (Addr.add ⟨h.size,0,none⟩ 3)=some v85 ∧
 bz v85 fun a86 l87 c88=>∃(I89:RT) (μ90:Value→Hp→Nat),I89 (.int .i64 0) h82∧∀t94_91 (d92:Nat→Value) (h93:Hp),I89 t94_91 h93 →
 asK .i64 t94_91 fun n94=>cond (decide ((n94:Int) < (l87:Int)))
 (aI v85 fun a95 l96 c97=>asI t94_91 fun n98=>0≤(n98:Int)∧n98 < (l96:Int)∧∃C99,aj h93 (Addr.add a95 (n98.toNat*4)) 4 C99 ∧
 C99.toArray.size=4∧(∀u∈C99.toArray.toList,one u)∧au (h93.push (.cells #[(.int .i64 0),(.string ⟨#[]⟩),(.int .i64 0),(.slice none 0 0)] 36 (0,0))) ⟨h93.size,0,none⟩ C99.toArray.toList fun h100 =>
 ∃C101,aj h100 ⟨h93.size,0,none⟩ 4 C101 ∧
 aa Tryz.prog ω 140 [w_p,(.agg C101.toArray),at_p] h100 (fun r102 h103 =>
 asK .i64 t94_91 fun n104=>I89 (.int .i64 (IntKind.wrap .i64 (n104+1))) h103∧μ90 (.int .i64 (IntKind.wrap .i64 (n104+1))) h103 < μ90 t94_91 h93) X)
 (R (.tuple #[]) h93))))
def lP:Ann :=
 (.two .leaf (.two (.two .leaf (.two .leaf .leaf)) (.two .leaf (.two (.join [16,17,18,19,20,21,22,23,15,6,25,26,27,24,29,30,31,32,33,34,35,36,28,37,38,39] [6] (.one (.two (.join [16,17,18,19,20,21,22,23,15] [15] .leaf) (.join [6,25,26,27,24,29,30,31,32,33,34,35,36,28,37,38,39] [6] (.two .leaf (.two .leaf (.join [6,29,30,31,32,33,34,35,36,28,37,38,39] [6] (.two .leaf (.two (.join [29,30,31,32,33,34,35,36,28] [28] .leaf) (.two (.two .leaf .leaf) .leaf)))))))))) (.two (.two (.jb [40,41,42,43,44,45,46,47,48,49,50,51,52,53,54,55,56,57,58,59,60,61,62,63,64] 64 .leaf) (.two (.two .leaf .leaf) .leaf)) (.two (.two (.join [68,69,70,71,72,73,74,75,76] [76] .leaf) (.join [77,78,79] [] (.two .leaf .leaf))) (.two (.two (.jb [80,81,82,83,84,85,86,87] 87 .leaf) (.join [88,89,90] [] (.two .leaf .leaf))) (.two .leaf (.one (.loop [95,96,97,8,98,99,100,101,102,94] [94] (.two .leaf (.two (.two .leaf .leaf) (.two (.one (.two .leaf .leaf)) .leaf)))))))))))))
theorem lZ (ω:Amb)(w_p x_p at_p:Value)(h:Hp)(R:RT)(X:XT)(hk:eO ω w_p x_p at_p h R X):aa Tryz.prog ω 140 [w_p,x_p,at_p] h R X :=
 al (an:=lP) Tryz.func140 (by kernel_rfl) hk
end Go.Proofs.YtkeeboomikkojaaGreatDoor.Sx
set_option linter.unusedVariables false
set_option maxRecDepth 100000
namespace Go.Proofs.YtkeeboomikkojaaGreatDoor.Sx
open Go Go.Sx Go.Proofs
abbrev tj:Nat:=34
def oN (ω:Amb)(prog_p:Value)(h:Hp)(R:RT)(X:XT):Prop :=
 ∃v0,ah (Array.push (h.push (.cells (Value.cells prog_p) 24 (0,0))) (.cells #[(.pointer none),(.slice none 0 0),(.int .i64 0)] 111 (0,0))) (Addr.add ⟨h.size,0,none⟩ 0)=some v0 ∧
 bz v0 fun a1 l2 c3=>∃(I4:RT) (μ5:Value→Hp→Nat),I4 (.int .i64 0) (Array.push (h.push (.cells (Value.cells prog_p) 24 (0,0))) (.cells #[(.pointer none),(.slice none 0 0),(.int .i64 0)] 111 (0,0)))∧∀t14_6 (d7:Nat→Value) (h8:Hp),I4 t14_6 h8 →
 asK .i64 t14_6 fun n9=>cond (decide ((n9:Int) < (l2:Int)))
 (aI v0 fun a10 l11 c12=>asI t14_6 fun n13=>0≤(n13:Int)∧n13 < (l11:Int)∧∃C14,aj h8 (Addr.add a10 (n13.toNat*4)) 4 C14 ∧
 C14.toArray.size=4∧(∀u∈C14.toArray.toList,one u)∧au (h8.push (.cells #[(.string ⟨#[]⟩),(.int .i64 0),(.slice none 0 0),(.slice none 0 0)] 41 (0,0))) ⟨h8.size,0,none⟩ C14.toArray.toList fun h15 =>
 ∃v16,ah h15 (Addr.add ⟨h8.size,0,none⟩ 2)=some v16 ∧
 bz v16 fun a17 l18 c19=>∃(I20:Value→RT) (μ21:Value→Value→Hp→Nat),I20 (.slice none 0 0) (.int .i64 0) h15∧∀l_22 t21_23 (d24:Nat→Value) (h25:Hp),I20 l_22 t21_23 h25 →
 asK .i64 t21_23 fun n26=>cond (decide ((n26:Int) < (l18:Int)))
 (aI v16 fun a27 l28 c29=>asI t21_23 fun n30=>0≤(n30:Int)∧n30 < (l28:Int)∧∃C31,aj h25 (Addr.add a27 (n30.toNat*2)) 2 C31 ∧
 C31.toArray.size=2∧(∀u∈C31.toArray.toList,one u)∧au (h25.push (.cells #[(.string ⟨#[]⟩),(.string ⟨#[]⟩)] 32 (0,0))) ⟨h25.size,0,none⟩ C31.toArray.toList fun h32 =>
 ∃v33,ah h32 (Addr.add ⟨h25.size,0,none⟩ 0)=some v33 ∧
 asS v33 fun s34=>s34.size+ByteArray.size ⟨#[32]⟩≤9223372036854775807∧∃v35,ah h32 (Addr.add ⟨h25.size,0,none⟩ 1)=some v35 ∧
 aa Tryz.prog ω 59 [v35] h32 (fun r36 h37 =>
 ah h37 (Addr.add ⟨h25.size,0,none⟩ 0)=some v33∧asS r36 fun s38=>ByteArray.size (s34++⟨#[32]⟩)+s38.size≤9223372036854775807∧uo Tryz.prog 112 (h37.push (.cells (List.toArray [(.string ((s34++⟨#[32]⟩)++s38))]) 9 (0,0))) l_22 (.slice (some ⟨h37.size,0,none⟩) 1 1) fun w39 h40 =>
 asK .i64 t21_23 fun n41=>I20 w39 (.int .i64 (IntKind.wrap .i64 (n41+1))) h40∧μ21 w39 (.int .i64 (IntKind.wrap .i64 (n41+1))) h40 < μ21 l_22 t21_23 h25) X)
 (∃v42,ah h25 (Addr.add ⟨h8.size,0,none⟩ 0)=some v42 ∧
 aa Tryz.prog ω 61 [l_22,(.string ⟨#[44,32]⟩)] h25 (fun r43 h44 =>
 ah h44 (Addr.add ⟨h8.size,0,none⟩ 0)=some v42∧bO v42 (bO r43 (aa Tryz.prog ω 60 [(.pointer (some ⟨Array.size (h.push (.cells (Value.cells prog_p) 24 (0,0))),0,none⟩)),(.slice (some ⟨h44.size,0,none⟩) 5 5)] (h44.push (.cells (List.toArray [(.string ⟨#[115,116,97,103,101,32]⟩),v42,(.string ⟨#[40]⟩),r43,(.string ⟨#[41]⟩)]) 9 (0,0))) (fun r45 h46 =>
 ∃v47,ah h46 (Addr.add ⟨h8.size,0,none⟩ 3)=some v47 ∧
 aa Tryz.prog ω 62 [(.pointer (some ⟨Array.size (h.push (.cells (Value.cells prog_p) 24 (0,0))),0,none⟩)),v47] h46 (fun r48 h49 =>
 aa Tryz.prog ω 63 [(.pointer (some ⟨Array.size (h.push (.cells (Value.cells prog_p) 24 (0,0))),0,none⟩)),(.slice (some ⟨h49.size,0,none⟩) 1 1)] (h49.push (.cells (List.toArray [(.string ⟨#[10]⟩)]) 9 (0,0))) (fun r50 h51 =>
 asK .i64 t14_6 fun n52=>I4 (.int .i64 (IntKind.wrap .i64 (n52+1))) h51∧μ5 (.int .i64 (IntKind.wrap .i64 (n52+1))) h51 < μ5 t14_6 h8) X) X) X))) X))
 (aa Tryz.prog ω 64 [(.pointer (some (Addr.add ⟨Array.size (h.push (.cells (Value.cells prog_p) 24 (0,0))),0,none⟩ 0)))] h8 (fun r53 h54 =>
 R r53 h54) X)
def tv:Ann :=
 (.two .leaf (.two .leaf (.two (.two .leaf (.one (.loop [15,16,17,5,6,18,19,20,21,22,23,24,8,25,26,27,28,29,30,31,32,33,34,35,36,37,38,39,40,41,42,43,44,45,46,47,48,49,50,14] [14] (.two .leaf (.two (.two .leaf .leaf) (.two (.one (.two .leaf (.two .leaf (.two (.two .leaf (.one (.loop [22,23,24,8,25,26,27,28,29,30,31,32,33,34,6,35,21] [6,21] (.two .leaf (.two (.two .leaf .leaf) (.two (.one (.two .leaf (.plan [0,1,2,3,4,5,6,7,8,9,10]))) .leaf)))))) (.two (.plan [0,1,2,3,4,5,6]) (.two .leaf .leaf)))))) .leaf)))))) (.two .leaf .leaf))))
theorem sY (ω:Amb)(prog_p:Value)(h:Hp)(R:RT)(X:XT)(hk:oN ω prog_p h R X):aa Tryz.prog ω 34 [prog_p] h R X :=
 al (an:=tv) Tryz.func34 (by kernel_rfl) hk
abbrev td:Nat:=59
def oQ (ω:Amb)(t_p:Value)(h:Hp)(R:RT)(X:XT):Prop :=
 asS t_p fun s0=>∃(I1:RT) (μ2:Value→Hp→Nat),I1 (.int .i64 0) (h.push (.cells #[(.pointer none),(.slice none 0 0)] 109 (0,0)))∧∀t8_3 (d4:Nat→Value) (h5:Hp),I1 t8_3 h5 →
 asK .i64 t8_3 fun n6=>cond (decide ((n6:Int) < (IntKind.wrap .i64 ((s0.size:Int) - 1))))
 (∃J7:Hp→Prop,
 (asS t_p fun s10=>asI t8_3 fun n11=>0≤(n11:Int)∧n11 < (s10.size:Int)∧∃J12:Hp→Prop,
 (cond ((aK s10 n11)==(115:Int))
 (aa Tryz.prog ω 88 [(.pointer (some ⟨h.size,0,none⟩)),(.string ⟨#[115,101,110,100,32]⟩)] h5 (fun r15 h16 =>
 J12 h16) X)
 (aa Tryz.prog ω 88 [(.pointer (some ⟨h.size,0,none⟩)),(.string ⟨#[114,101,99,118,32]⟩)] h5 (fun r17 h18 =>
 J12 h18) X)) ∧
 ∀(d13:Nat→Value) (h14:Hp),J12 h14 →
 J7 h14) ∧
 ∀(d8:Nat→Value) (h9:Hp),J7 h9 →
 asK .i64 t8_3 fun n19=>I1 (.int .i64 (IntKind.wrap .i64 (n19+1))) h9∧μ2 (.int .i64 (IntKind.wrap .i64 (n19+1))) h9 < μ2 t8_3 h5)
 (aa Tryz.prog ω 64 [(.pointer (some ⟨h.size,0,none⟩))] h5 (fun r20 h21 =>
 asS r20 fun s22=>s22.size+ByteArray.size ⟨#[105,110,116]⟩≤9223372036854775807∧R (.string (s22++⟨#[105,110,116]⟩)) h21) X)
def tm:Ann :=
 (.two .leaf (.two .leaf (.two (.two .leaf (.one (.loop [9,10,4,11,12,13,14,15,16,17,8] [8] (.two .leaf (.two (.two .leaf .leaf) (.two (.join [10,4,11,12,13,14,15,16] [] (.one (.two .leaf (.two .leaf (.join [15,16] [] (.two .leaf .leaf)))))) .leaf)))))) (.two .leaf .leaf))))
theorem tz (ω:Amb)(t_p:Value)(h:Hp)(R:RT)(X:XT)(hk:oQ ω t_p h R X):aa Tryz.prog ω 59 [t_p] h R X :=
 al (an:=tm) Tryz.func59 (by kernel_rfl) hk
abbrev oG:Nat:=60
def gf (ω:Amb)(p_p l_p:Value)(h:Hp)(R:RT)(X:XT):Prop :=
 nnK p_p (asP p_p fun p0 =>
 ∃v1,ah h (Addr.add p0 2)=some v1 ∧
 aa Tryz.prog ω 89 [(.string ⟨#[9]⟩),v1] h (fun r2 h3 =>
 bO r2 (aa Tryz.prog ω 63 [p_p,(.slice (some ⟨h3.size,0,none⟩) 1 1)] (h3.push (.cells (List.toArray [r2]) 9 (0,0))) (fun r4 h5 =>
 aa Tryz.prog ω 63 [p_p,l_p] h5 (fun r6 h7 =>
 R (.tuple #[]) h7) X) X)) X)
def oz:Ann :=
 (.two .leaf .leaf)
theorem oB (ω:Amb)(p_p l_p:Value)(h:Hp)(R:RT)(X:XT)(hk:gf ω p_p l_p h R X):aa Tryz.prog ω 60 [p_p,l_p] h R X :=
 al (an:=oz) Tryz.func60 (by kernel_rfl) hk
abbrev nH:Nat:=62
def fJ (ω:Amb)(p_p l_p:Value)(h:Hp)(R:RT)(X:XT):Prop :=
 aa Tryz.prog ω 63 [p_p,(.slice (some ⟨h.size,0,none⟩) 1 1)] (h.push (.cells (List.toArray [(.string ⟨#[32,123,10]⟩)]) 9 (0,0))) (fun r0 h1 =>
 nnK p_p (asP p_p fun p2 =>
 ∃v3,ah h1 (Addr.add p2 2)=some v3 ∧
 asK .i64 v3 fun n4=>nnK p_p (asP p_p fun p5 =>
 aE h1 (Addr.add p5 2) (.int .i64 (IntKind.wrap .i64 (n4+1))) fun h6 =>
 bz l_p fun a7 l8 c9=>∃(I10:RT) (μ11:Value→Hp→Nat),I10 (.int .i64 0) h6∧∀t18_12 (d13:Nat→Value) (h14:Hp),I10 t18_12 h14 →
 asK .i64 t18_12 fun n15=>cond (decide ((n15:Int) < (l8:Int)))
 (aI l_p fun a16 l17 c18=>asI t18_12 fun n19=>0≤(n19:Int)∧n19 < (l17:Int)∧∃C20,aj h14 (Addr.add a16 (n19.toNat*9)) 9 C20 ∧
 C20.toArray.size=9∧(∀u∈C20.toArray.toList,one u)∧au (h14.push (.cells #[(.int .i64 0),(.int .i64 0),(.string ⟨#[]⟩),(.string ⟨#[]⟩),(.string ⟨#[]⟩),(.int .i64 0),(.slice none 0 0),(.slice none 0 0),(.slice none 0 0)] 39 (0,0))) ⟨h14.size,0,none⟩ C20.toArray.toList fun h21 =>
 ∃C22,aj h21 ⟨h14.size,0,none⟩ 9 C22 ∧
 aa Tryz.prog ω 91 [p_p,(.agg C22.toArray)] h21 (fun r23 h24 =>
 asK .i64 t18_12 fun n25=>I10 (.int .i64 (IntKind.wrap .i64 (n25+1))) h24∧μ11 (.int .i64 (IntKind.wrap .i64 (n25+1))) h24 < μ11 t18_12 h14) X)
 (nnK p_p (asP p_p fun p26 =>
 ∃v27,ah h14 (Addr.add p26 2)=some v27 ∧
 asK .i64 v27 fun n28=>nnK p_p (asP p_p fun p29 =>
 aE h14 (Addr.add p29 2) (.int .i64 (IntKind.wrap .i64 (n28 - 1))) fun h30 =>
 aa Tryz.prog ω 60 [p_p,(.slice (some ⟨h30.size,0,none⟩) 1 1)] (h30.push (.cells (List.toArray [(.string ⟨#[125]⟩)]) 9 (0,0))) (fun r31 h32 =>
 R (.tuple #[]) h32) X)))))) X
def nl:Ann :=
 (.two .leaf (.two .leaf (.two (.two .leaf (.one (.loop [19,20,21,5,22,23,24,25,18] [18] (.two .leaf (.two (.two .leaf .leaf) (.two (.one (.two .leaf .leaf)) .leaf)))))) (.two .leaf .leaf))))
theorem ng (ω:Amb)(p_p l_p:Value)(h:Hp)(R:RT)(X:XT)(hk:fJ ω p_p l_p h R X):aa Tryz.prog ω 62 [p_p,l_p] h R X :=
 al (an:=nl) Tryz.func62 (by kernel_rfl) hk
abbrev gQ:Nat:=63
def gO (ω:Amb)(p_p l_p:Value)(h:Hp)(R:RT)(X:XT):Prop :=
 bz l_p fun a0 l1 c2=>∃(I3:RT) (μ4:Value→Hp→Nat),I3 (.int .i64 0) h∧∀t8_5 (d6:Nat→Value) (h7:Hp),I3 t8_5 h7 →
 asK .i64 t8_5 fun n8=>cond (decide ((n8:Int) < (l1:Int)))
 (aI l_p fun a9 l10 c11=>asI t8_5 fun n12=>0≤(n12:Int)∧n12 < (l10:Int)∧∃v13,ah h7 (Addr.add a9 (n12.toNat*1))=some v13 ∧
 nnK p_p (asP p_p fun p14 =>
 aa Tryz.prog ω 88 [(.pointer (some (Addr.add p14 0))),v13] h7 (fun r15 h16 =>
 asK .i64 t8_5 fun n17=>I3 (.int .i64 (IntKind.wrap .i64 (n17+1))) h16∧μ4 (.int .i64 (IntKind.wrap .i64 (n17+1))) h16 < μ4 t8_5 h7) X))
 (R (.tuple #[]) h7)
def o9:Ann :=
 (.two .leaf (.one (.loop [9,10,11,5,12,13,14,15,16,17,8] [8] (.two .leaf (.two (.two .leaf .leaf) (.two (.one (.two .leaf .leaf)) .leaf))))))
theorem o7 (ω:Amb)(p_p l_p:Value)(h:Hp)(R:RT)(X:XT)(hk:gO ω p_p l_p h R X):aa Tryz.prog ω 63 [p_p,l_p] h R X :=
 al (an:=o9) Tryz.func63 (by kernel_rfl) hk
abbrev ov:Nat:=91
def gd (ω:Amb)(p_p s_p:Value)(h:Hp)(R:RT)(X:XT):Prop :=
 ∃C0,aj (h.push (.cells (Value.cells s_p) 39 (0,0))) ⟨h.size,0,none⟩ 9 C0 ∧
 ∃v1,ah (h.push (.cells (Value.cells s_p) 39 (0,0))) (Addr.add ⟨h.size,0,none⟩ 6)=some v1 ∧
 aa Tryz.prog ω 117 [(.agg C0.toArray)] (h.push (.cells (Value.cells s_p) 39 (0,0))) (fun r2 h3 =>
 ah h3 (Addr.add ⟨h.size,0,none⟩ 6)=some v1∧aa Tryz.prog ω 118 [v1] h3 (fun r4 h5 =>
 bO r2 (bO r4 (aa Tryz.prog ω 60 [p_p,(.slice (some ⟨h5.size,0,none⟩) 2 2)] (h5.push (.cells (List.toArray [r2,r4]) 9 (0,0))) (fun r6 h7 =>
 ∃v8,ah h7 (Addr.add ⟨h.size,0,none⟩ 0)=some v8 ∧
 aa Tryz.prog ω 119 [v8] h7 (fun r9 h10 =>
 asT r9 fun T11=>asO T11[0]? fun v12=>asT r9 fun T13=>asO T13[1]? fun v14=>asA v12 fun A15=>A15.size=7∧(∀u∈A15.toList,one u)∧au (h10.push (.cells #[(.bool false),(.bool false),(.bool false),(.bool false),(.int .i64 0),(.bool false),(.bool false)] 165 (0,0))) ⟨h10.size,0,none⟩ A15.toList fun h16 =>
 ∃v17,ah h16 (Addr.add ⟨h10.size,0,none⟩ 5)=some v17 ∧
 asB v17 fun b18=>cond (!b18)
 (∃v19,ah h16 (Addr.add ⟨h.size,0,none⟩ 0)=some v19 ∧
 asK .i64 v19 fun n20=>∃J21:Hp→Prop,
 (cond (n20==(10:Int))
 (aa Tryz.prog ω 63 [p_p,(.slice (some ⟨h16.size,0,none⟩) 1 1)] (h16.push (.cells (List.toArray [(.string ⟨#[41]⟩)]) 9 (0,0))) (fun r24 h25 =>
 J21 h25) X)
 (J21 h16)) ∧
 ∀(d22:Nat→Value) (h23:Hp),J21 h23 →
 aa Tryz.prog ω 63 [p_p,(.slice (some ⟨h23.size,0,none⟩) 1 1)] (h23.push (.cells (List.toArray [(.string ⟨#[59,10]⟩)]) 9 (0,0))) (fun r26 h27 =>
 R (.tuple #[]) h27) X)
 (∃v28,ah h16 (Addr.add ⟨h.size,0,none⟩ 7)=some v28 ∧
 aa Tryz.prog ω 62 [p_p,v28] h16 (fun r29 h30 =>
 ∃v31,ah h30 (Addr.add ⟨h.size,0,none⟩ 8)=some v31 ∧
 bz v31 fun a32 l33 c34=>∃J35:Hp→Prop,
 (cond (decide (((l33:Int):Int) > 0))
 (aa Tryz.prog ω 63 [p_p,(.slice (some ⟨h30.size,0,none⟩) 1 1)] (h30.push (.cells (List.toArray [(.string ⟨#[32,101,108,115,101]⟩)]) 9 (0,0))) (fun r38 h39 =>
 ∃v40,ah h39 (Addr.add ⟨h.size,0,none⟩ 8)=some v40 ∧
 aa Tryz.prog ω 62 [p_p,v40] h39 (fun r41 h42 =>
 J35 h42) X) X)
 (J35 h30)) ∧
 ∀(d36:Nat→Value) (h37:Hp),J35 h37 →
 aa Tryz.prog ω 63 [p_p,(.slice (some ⟨h37.size,0,none⟩) 1 1)] (h37.push (.cells (List.toArray [(.string ⟨#[10]⟩)]) 9 (0,0))) (fun r43 h44 =>
 R (.tuple #[]) h44) X) X)) X) X))) X) X
def oJ:Ann :=
 (.two .leaf (.two (.plan [0,1,3,4,2,5,6,7]) (.two .leaf (.two (.two .leaf (.two (.two (.two .leaf (.join [26,27,28] [] (.two .leaf .leaf))) (.two .leaf .leaf)) .leaf)) (.two .leaf (.two (.two .leaf (.join [40,41,42,43,44,45,46] [] (.two (.two .leaf .leaf) .leaf))) .leaf))))))
theorem oI (ω:Amb)(p_p s_p:Value)(h:Hp)(R:RT)(X:XT)(hk:gd ω p_p s_p h R X):aa Tryz.prog ω 91 [p_p,s_p] h R X :=
 al (an:=oJ) Tryz.func91 (by kernel_rfl) hk
abbrev vG:Nat:=117
def pL (ω:Amb)(s_p:Value)(h:Hp)(R:RT)(X:XT):Prop :=
 ∃v0,ah (h.push (.cells (Value.cells s_p) 39 (0,0))) (Addr.add ⟨h.size,0,none⟩ 0)=some v0 ∧
 asK .i64 v0 fun n1=>cond (n1==(1:Int))
 (∃v2,ah (h.push (.cells (Value.cells s_p) 39 (0,0))) (Addr.add ⟨h.size,0,none⟩ 2)=some v2 ∧
 asS v2 fun s3=>ByteArray.size ⟨#[108,101,116,32]⟩+s3.size≤9223372036854775807∧ByteArray.size (⟨#[108,101,116,32]⟩++s3)+ByteArray.size ⟨#[32,61,32]⟩≤9223372036854775807∧R (.string ((⟨#[108,101,116,32]⟩++s3)++⟨#[32,61,32]⟩)) (h.push (.cells (Value.cells s_p) 39 (0,0))))
 (asK .i64 v0 fun n4=>cond (n4==(2:Int))
 (∃v5,ah (h.push (.cells (Value.cells s_p) 39 (0,0))) (Addr.add ⟨h.size,0,none⟩ 2)=some v5 ∧
 asS v5 fun s6=>ByteArray.size ⟨#[115,101,116,32]⟩+s6.size≤9223372036854775807∧ByteArray.size (⟨#[115,101,116,32]⟩++s6)+ByteArray.size ⟨#[32,61,32]⟩≤9223372036854775807∧R (.string ((⟨#[115,101,116,32]⟩++s6)++⟨#[32,61,32]⟩)) (h.push (.cells (Value.cells s_p) 39 (0,0))))
 (asK .i64 v0 fun n7=>cond (n7==(3:Int))
 (R (.string ⟨#[101,109,105,116,32]⟩) (h.push (.cells (Value.cells s_p) 39 (0,0))))
 (asK .i64 v0 fun n8=>cond (n8==(4:Int))
 (∃v9,ah (h.push (.cells (Value.cells s_p) 39 (0,0))) (Addr.add ⟨h.size,0,none⟩ 2)=some v9 ∧
 asS v9 fun s10=>ByteArray.size ⟨#[99,104,97,110,32]⟩+s10.size≤9223372036854775807∧ByteArray.size (⟨#[99,104,97,110,32]⟩++s10)+ByteArray.size ⟨#[32]⟩≤9223372036854775807∧∃v11,ah (h.push (.cells (Value.cells s_p) 39 (0,0))) (Addr.add ⟨h.size,0,none⟩ 3)=some v11 ∧
 asS v11 fun s12=>ByteArray.size ((⟨#[99,104,97,110,32]⟩++s10)++⟨#[32]⟩)+s12.size≤9223372036854775807∧ByteArray.size (((⟨#[99,104,97,110,32]⟩++s10)++⟨#[32]⟩)++s12)+ByteArray.size ⟨#[32]⟩≤9223372036854775807∧∃v13,ah (h.push (.cells (Value.cells s_p) 39 (0,0))) (Addr.add ⟨h.size,0,none⟩ 4)=some v13 ∧
 ∃v14,ah (h.push (.cells (Value.cells s_p) 39 (0,0))) (Addr.add ⟨h.size,0,none⟩ 5)=some v14 ∧
 aa Tryz.prog ω 59 [v13] (h.push (.cells (Value.cells s_p) 39 (0,0))) (fun r15 h16 =>
 ah h16 (Addr.add ⟨h.size,0,none⟩ 5)=some v14∧ah h16 (Addr.add ⟨h.size,0,none⟩ 3)=some v11∧ah h16 (Addr.add ⟨h.size,0,none⟩ 2)=some v9∧asS r15 fun s17=>ByteArray.size ((((⟨#[99,104,97,110,32]⟩++s10)++⟨#[32]⟩)++s12)++⟨#[32]⟩)+s17.size≤9223372036854775807∧ByteArray.size (((((⟨#[99,104,97,110,32]⟩++s10)++⟨#[32]⟩)++s12)++⟨#[32]⟩)++s17)+ByteArray.size ⟨#[32]⟩≤9223372036854775807∧aa Tryz.prog ω 106 [v14] h16 (fun r18 h19 =>
 ah h19 (Addr.add ⟨h.size,0,none⟩ 3)=some v11∧ah h19 (Addr.add ⟨h.size,0,none⟩ 2)=some v9∧asS r18 fun s20=>ByteArray.size ((((((⟨#[99,104,97,110,32]⟩++s10)++⟨#[32]⟩)++s12)++⟨#[32]⟩)++s17)++⟨#[32]⟩)+s20.size≤9223372036854775807∧R (.string (((((((⟨#[99,104,97,110,32]⟩++s10)++⟨#[32]⟩)++s12)++⟨#[32]⟩)++s17)++⟨#[32]⟩)++s20)) h19) X) X)
 (asK .i64 v0 fun n21=>cond (n21==(5:Int))
 (∃v22,ah (h.push (.cells (Value.cells s_p) 39 (0,0))) (Addr.add ⟨h.size,0,none⟩ 2)=some v22 ∧
 asS v22 fun s23=>ByteArray.size ⟨#[99,108,111,110,101,32]⟩+s23.size≤9223372036854775807∧ByteArray.size (⟨#[99,108,111,110,101,32]⟩++s23)+ByteArray.size ⟨#[32]⟩≤9223372036854775807∧∃v24,ah (h.push (.cells (Value.cells s_p) 39 (0,0))) (Addr.add ⟨h.size,0,none⟩ 3)=some v24 ∧
 asS v24 fun s25=>ByteArray.size ((⟨#[99,108,111,110,101,32]⟩++s23)++⟨#[32]⟩)+s25.size≤9223372036854775807∧R (.string (((⟨#[99,108,111,110,101,32]⟩++s23)++⟨#[32]⟩)++s25)) (h.push (.cells (Value.cells s_p) 39 (0,0))))
 (asK .i64 v0 fun n26=>cond (n26==(6:Int))
 (∃v27,ah (h.push (.cells (Value.cells s_p) 39 (0,0))) (Addr.add ⟨h.size,0,none⟩ 2)=some v27 ∧
 asS v27 fun s28=>ByteArray.size ⟨#[115,101,110,100,32]⟩+s28.size≤9223372036854775807∧ByteArray.size (⟨#[115,101,110,100,32]⟩++s28)+ByteArray.size ⟨#[32]⟩≤9223372036854775807∧R (.string ((⟨#[115,101,110,100,32]⟩++s28)++⟨#[32]⟩)) (h.push (.cells (Value.cells s_p) 39 (0,0))))
 (asK .i64 v0 fun n29=>cond (n29==(7:Int))
 (∃v30,ah (h.push (.cells (Value.cells s_p) 39 (0,0))) (Addr.add ⟨h.size,0,none⟩ 2)=some v30 ∧
 asS v30 fun s31=>ByteArray.size ⟨#[99,108,111,115,101,32]⟩+s31.size≤9223372036854775807∧R (.string (⟨#[99,108,111,115,101,32]⟩++s31)) (h.push (.cells (Value.cells s_p) 39 (0,0))))
 (asK .i64 v0 fun n32=>cond (n32==(8:Int))
 (∃v33,ah (h.push (.cells (Value.cells s_p) 39 (0,0))) (Addr.add ⟨h.size,0,none⟩ 2)=some v33 ∧
 asS v33 fun s34=>ByteArray.size ⟨#[97,98,97,110,100,111,110,32]⟩+s34.size≤9223372036854775807∧R (.string (⟨#[97,98,97,110,100,111,110,32]⟩++s34)) (h.push (.cells (Value.cells s_p) 39 (0,0))))
 (asK .i64 v0 fun n35=>cond (n35==(9:Int))
 (∃v36,ah (h.push (.cells (Value.cells s_p) 39 (0,0))) (Addr.add ⟨h.size,0,none⟩ 2)=some v36 ∧
 asS v36 fun s37=>ByteArray.size ⟨#[100,114,97,105,110,32]⟩+s37.size≤9223372036854775807∧R (.string (⟨#[100,114,97,105,110,32]⟩++s37)) (h.push (.cells (Value.cells s_p) 39 (0,0))))
 (asK .i64 v0 fun n38=>cond (n38==(10:Int))
 (∃v39,ah (h.push (.cells (Value.cells s_p) 39 (0,0))) (Addr.add ⟨h.size,0,none⟩ 2)=some v39 ∧
 asS v39 fun s40=>ByteArray.size ⟨#[115,112,97,119,110,32]⟩+s40.size≤9223372036854775807∧ByteArray.size (⟨#[115,112,97,119,110,32]⟩++s40)+ByteArray.size ⟨#[40]⟩≤9223372036854775807∧R (.string ((⟨#[115,112,97,119,110,32]⟩++s40)++⟨#[40]⟩)) (h.push (.cells (Value.cells s_p) 39 (0,0))))
 (asK .i64 v0 fun n41=>cond (n41==(11:Int))
 (∃v42,ah (h.push (.cells (Value.cells s_p) 39 (0,0))) (Addr.add ⟨h.size,0,none⟩ 2)=some v42 ∧
 asS v42 fun s43=>ByteArray.size ⟨#[116,97,107,101,32]⟩+s43.size≤9223372036854775807∧ByteArray.size (⟨#[116,97,107,101,32]⟩++s43)+ByteArray.size ⟨#[32,102,114,111,109,32]⟩≤9223372036854775807∧∃v44,ah (h.push (.cells (Value.cells s_p) 39 (0,0))) (Addr.add ⟨h.size,0,none⟩ 3)=some v44 ∧
 asS v44 fun s45=>ByteArray.size ((⟨#[116,97,107,101,32]⟩++s43)++⟨#[32,102,114,111,109,32]⟩)+s45.size≤9223372036854775807∧R (.string (((⟨#[116,97,107,101,32]⟩++s43)++⟨#[32,102,114,111,109,32]⟩)++s45)) (h.push (.cells (Value.cells s_p) 39 (0,0))))
 (asK .i64 v0 fun n46=>cond (n46==(12:Int))
 (∃v47,ah (h.push (.cells (Value.cells s_p) 39 (0,0))) (Addr.add ⟨h.size,0,none⟩ 2)=some v47 ∧
 asS v47 fun s48=>ByteArray.size ⟨#[102,111,114,32]⟩+s48.size≤9223372036854775807∧ByteArray.size (⟨#[102,111,114,32]⟩++s48)+ByteArray.size ⟨#[32,102,114,111,109,32]⟩≤9223372036854775807∧∃v49,ah (h.push (.cells (Value.cells s_p) 39 (0,0))) (Addr.add ⟨h.size,0,none⟩ 3)=some v49 ∧
 asS v49 fun s50=>ByteArray.size ((⟨#[102,111,114,32]⟩++s48)++⟨#[32,102,114,111,109,32]⟩)+s50.size≤9223372036854775807∧R (.string (((⟨#[102,111,114,32]⟩++s48)++⟨#[32,102,114,111,109,32]⟩)++s50)) (h.push (.cells (Value.cells s_p) 39 (0,0))))
 (asK .i64 v0 fun n51=>cond (n51==(13:Int))
 (R (.string ⟨#[114,101,112,101,97,116,32]⟩) (h.push (.cells (Value.cells s_p) 39 (0,0))))
 (R (.string ⟨#[105,102,32]⟩) (h.push (.cells (Value.cells s_p) 39 (0,0))))))))))))))))
def uH:Ann :=
 (.two .leaf (.two (.two .leaf (.one (.two .leaf (.two (.two .leaf .leaf) (.two .leaf (.two (.two .leaf .leaf) (.two .leaf (.two (.two .leaf .leaf) (.two .leaf (.two (.two (.plan [0,1,2,3,4,5,6,7,8,9,13,14,10,11,12,15,16,17]) .leaf) (.two .leaf (.two (.two .leaf .leaf) (.two .leaf (.two (.two .leaf .leaf) (.two .leaf (.two (.two .leaf .leaf) (.two .leaf (.two (.two .leaf .leaf) (.two .leaf (.two (.two .leaf .leaf) (.two .leaf (.two (.two .leaf .leaf) (.two .leaf (.two (.two .leaf .leaf) (.two .leaf (.two (.two .leaf .leaf) (.two .leaf (.two (.two .leaf .leaf) .leaf)))))))))))))))))))))))))))) (.two .leaf .leaf)))
theorem vn (ω:Amb)(s_p:Value)(h:Hp)(R:RT)(X:XT)(hk:pL ω s_p h R X):aa Tryz.prog ω 117 [s_p] h R X :=
 al (an:=uH) Tryz.func117 (by kernel_rfl) hk
abbrev vZ:Nat:=118
def qi (ω:Amb)(l_p:Value)(h:Hp)(R:RT)(X:XT):Prop :=
 bz l_p fun a0 l1 c2=>∃(I3:Value→RT) (μ4:Value→Value→Hp→Nat),I3 (.slice none 0 0) (.int .i64 0) h∧∀out_5 t8_6 (d7:Nat→Value) (h8:Hp),I3 out_5 t8_6 h8 →
 asK .i64 t8_6 fun n9=>cond (decide ((n9:Int) < (l1:Int)))
 (aI l_p fun a10 l11 c12=>asI t8_6 fun n13=>0≤(n13:Int)∧n13 < (l11:Int)∧∃C14,aj h8 (Addr.add a10 (n13.toNat*4)) 4 C14 ∧
 C14.toArray.size=4∧(∀u∈C14.toArray.toList,one u)∧au (h8.push (.cells #[(.int .i64 0),(.string ⟨#[]⟩),(.int .i64 0),(.slice none 0 0)] 36 (0,0))) ⟨h8.size,0,none⟩ C14.toArray.toList fun h15 =>
 ∃C16,aj h15 ⟨h8.size,0,none⟩ 4 C16 ∧
 aa Tryz.prog ω 137 [(.agg C16.toArray)] h15 (fun r17 h18 =>
 bO r17 (uo Tryz.prog 112 (h18.push (.cells (List.toArray [r17]) 9 (0,0))) out_5 (.slice (some ⟨h18.size,0,none⟩) 1 1) fun w19 h20 =>
 asK .i64 t8_6 fun n21=>I3 w19 (.int .i64 (IntKind.wrap .i64 (n21+1))) h20∧μ4 w19 (.int .i64 (IntKind.wrap .i64 (n21+1))) h20 < μ4 out_5 t8_6 h8)) X)
 (aa Tryz.prog ω 61 [out_5,(.string ⟨#[44,32]⟩)] h8 (fun r22 h23 =>
 R r22 h23) X)
def vi:Ann :=
 (.two .leaf (.two .leaf (.two (.two .leaf (.one (.loop [9,10,11,5,12,13,14,15,16,3,17,8] [3,8] (.two .leaf (.two (.two .leaf .leaf) (.two (.one (.two .leaf .leaf)) .leaf)))))) (.two .leaf .leaf))))
theorem vY (ω:Amb)(l_p:Value)(h:Hp)(R:RT)(X:XT)(hk:qi ω l_p h R X):aa Tryz.prog ω 118 [l_p] h R X :=
 al (an:=vi) Tryz.func118 (by kernel_rfl) hk
abbrev uJ:Nat:=137
def qf (ω:Amb)(x_p:Value)(h:Hp)(R:RT)(X:XT):Prop :=
 ∃v0,ah (h.push (.cells (Value.cells x_p) 36 (0,0))) (Addr.add ⟨h.size,0,none⟩ 0)=some v0 ∧
 aa Tryz.prog ω 153 [v0] (h.push (.cells (Value.cells x_p) 36 (0,0))) (fun r1 h2 =>
 ∃v3,ah h2 (Addr.add ⟨h.size,0,none⟩ 0)=some v3 ∧
 asK .i64 v3 fun n4=>cond (n4==(1:Int))
 (∃v5,ah h2 (Addr.add ⟨h.size,0,none⟩ 2)=some v5 ∧
 aa Tryz.prog ω 126 [v5,(.int .i64 10)] h2 (fun r6 h7 =>
 R r6 h7) X)
 (asK .i64 v3 fun n8=>cond (n8==(2:Int))
 (∃v9,ah h2 (Addr.add ⟨h.size,0,none⟩ 1)=some v9 ∧
 R v9 h2)
 (asK .i64 v3 fun n10=>cond (n10==(3:Int))
 (∃v11,ah h2 (Addr.add ⟨h.size,0,none⟩ 3)=some v11 ∧
 aI v11 fun a12 l13 c14=>0≤(0:Int)∧0 < (l13:Int)∧∃C15,aj h2 (Addr.add a12 (Int.toNat 0*4)) 4 C15 ∧
 aa Tryz.prog ω 154 [(.agg C15.toArray),r1] h2 (fun r16 h17 =>
 asS r16 fun s18=>ByteArray.size ⟨#[45]⟩+s18.size≤9223372036854775807∧R (.string (⟨#[45]⟩++s18)) h17) X)
 (asK .i64 v3 fun n19=>cond (n19==(7:Int))
 (∃v20,ah h2 (Addr.add ⟨h.size,0,none⟩ 3)=some v20 ∧
 aI v20 fun a21 l22 c23=>0≤(0:Int)∧0 < (l22:Int)∧∃C24,aj h2 (Addr.add a21 (Int.toNat 0*4)) 4 C24 ∧
 asK .i64 r1 fun n25=>∃v26,ah h2 (Addr.add ⟨h.size,0,none⟩ 3)=some v26 ∧
 aI v26 fun a27 l28 c29=>0≤(1:Int)∧1 < (l28:Int)∧∃C30,aj h2 (Addr.add a27 (Int.toNat 1*4)) 4 C30 ∧
 asK .i64 r1 fun n31=>aa Tryz.prog ω 154 [(.agg C24.toArray),(.int .i64 (IntKind.wrap .i64 (n25+1)))] h2 (fun r32 h33 =>
 aj h33 (Addr.add a27 (Int.toNat 1*4)) 4 C30∧ah h33 (Addr.add ⟨h.size,0,none⟩ 3)=some v26∧asS r32 fun s34=>s34.size+ByteArray.size ⟨#[32,60,32]⟩≤9223372036854775807∧aa Tryz.prog ω 154 [(.agg C30.toArray),(.int .i64 (IntKind.wrap .i64 (n31+1)))] h33 (fun r35 h36 =>
 asS r35 fun s37=>ByteArray.size (s34++⟨#[32,60,32]⟩)+s37.size≤9223372036854775807∧R (.string ((s34++⟨#[32,60,32]⟩)++s37)) h36) X) X)
 (asK .i64 v3 fun n38=>cond (n38==(8:Int))
 (∃v39,ah h2 (Addr.add ⟨h.size,0,none⟩ 3)=some v39 ∧
 aI v39 fun a40 l41 c42=>0≤(0:Int)∧0 < (l41:Int)∧∃C43,aj h2 (Addr.add a40 (Int.toNat 0*4)) 4 C43 ∧
 asK .i64 r1 fun n44=>∃v45,ah h2 (Addr.add ⟨h.size,0,none⟩ 3)=some v45 ∧
 aI v45 fun a46 l47 c48=>0≤(1:Int)∧1 < (l47:Int)∧∃C49,aj h2 (Addr.add a46 (Int.toNat 1*4)) 4 C49 ∧
 asK .i64 r1 fun n50=>aa Tryz.prog ω 154 [(.agg C43.toArray),(.int .i64 (IntKind.wrap .i64 (n44+1)))] h2 (fun r51 h52 =>
 aj h52 (Addr.add a46 (Int.toNat 1*4)) 4 C49∧ah h52 (Addr.add ⟨h.size,0,none⟩ 3)=some v45∧asS r51 fun s53=>s53.size+ByteArray.size ⟨#[32,61,61,32]⟩≤9223372036854775807∧aa Tryz.prog ω 154 [(.agg C49.toArray),(.int .i64 (IntKind.wrap .i64 (n50+1)))] h52 (fun r54 h55 =>
 asS r54 fun s56=>ByteArray.size (s53++⟨#[32,61,61,32]⟩)+s56.size≤9223372036854775807∧R (.string ((s53++⟨#[32,61,61,32]⟩)++s56)) h55) X) X)
 (∃v57,ah h2 (Addr.add ⟨h.size,0,none⟩ 0)=some v57 ∧
 asK .i64 v57 fun n58=>0≤((IntKind.wrap .i64 (n58 - 4)):Int)∧(IntKind.wrap .i64 (n58 - 4)) < ((3:Nat):Int)∧asO (#[(.string ⟨#[32,43,32]⟩),(.string ⟨#[32,45,32]⟩),(.string ⟨#[32,42,32]⟩)])[Int.toNat (IntKind.wrap .i64 (n58 - 4))*1]? fun v59=>∃v60,ah h2 (Addr.add ⟨h.size,0,none⟩ 3)=some v60 ∧
 aI v60 fun a61 l62 c63=>0≤(0:Int)∧0 < (l62:Int)∧∃C64,aj h2 (Addr.add a61 (Int.toNat 0*4)) 4 C64 ∧
 ∃v65,ah h2 (Addr.add ⟨h.size,0,none⟩ 3)=some v65 ∧
 aI v65 fun a66 l67 c68=>0≤(1:Int)∧1 < (l67:Int)∧∃C69,aj h2 (Addr.add a66 (Int.toNat 1*4)) 4 C69 ∧
 asK .i64 r1 fun n70=>aa Tryz.prog ω 154 [(.agg C64.toArray),r1] h2 (fun r71 h72 =>
 aj h72 (Addr.add a66 (Int.toNat 1*4)) 4 C69∧ah h72 (Addr.add ⟨h.size,0,none⟩ 3)=some v65∧asS r71 fun s73=>asS v59 fun s74=>s73.size+s74.size≤9223372036854775807∧aa Tryz.prog ω 154 [(.agg C69.toArray),(.int .i64 (IntKind.wrap .i64 (n70+1)))] h72 (fun r75 h76 =>
 asS r75 fun s77=>ByteArray.size (s73++s74)+s77.size≤9223372036854775807∧R (.string ((s73++s74)++s77)) h76) X) X)))))) X
def vt:Ann :=
 (.two .leaf (.two .leaf (.two (.two .leaf (.one (.two .leaf (.two (.two .leaf .leaf) (.two .leaf (.two (.two .leaf .leaf) (.two .leaf (.two (.two .leaf .leaf) (.two .leaf (.two (.two (.plan [0,1,2,3,4,5,8,9,10,11,12,13,6,7,14,15,16]) .leaf) (.two .leaf (.two (.two (.plan [0,1,2,3,4,5,8,9,10,11,12,13,6,7,14,15,16]) .leaf) .leaf)))))))))))) (.two .leaf (.two (.plan [0,1,2,3,4,6,8,9,10,11,12,13,5,7,14,15,16]) .leaf)))))
theorem vo (ω:Amb)(x_p:Value)(h:Hp)(R:RT)(X:XT)(hk:qf ω x_p h R X):aa Tryz.prog ω 137 [x_p] h R X :=
 al (an:=vt) Tryz.func137 (by kernel_rfl) hk
abbrev uT:Nat:=153
def pF (ω:Amb)(op_p:Value)(h:Hp)(R:RT)(X:XT):Prop :=
 asK .i64 op_p fun n0=>∃J1:RT,
 (cond (n0==(7:Int))
 (J1 (.bool (n0==(7:Int))) h)
 (asK .i64 op_p fun n5=>J1 (.bool (n5==(8:Int))) h)) ∧
 ∀t4_2 (d3:Nat→Value) (h4:Hp),J1 t4_2 h4 →
 asB t4_2 fun b6=>cond b6
 (R (.int .i64 1) h4)
 (asK .i64 op_p fun n7=>∃J8:RT,
 (cond (n7==(4:Int))
 (J8 (.bool (n7==(4:Int))) h4)
 (asK .i64 op_p fun n12=>J8 (.bool (n12==(5:Int))) h4)) ∧
 ∀t7_9 (d10:Nat→Value) (h11:Hp),J8 t7_9 h11 →
 asB t7_9 fun b13=>cond b13
 (R (.int .i64 2) h11)
 (asK .i64 op_p fun n14=>cond (n14==(6:Int))
 (R (.int .i64 3) h11)
 (asK .i64 op_p fun n15=>cond (n15==(3:Int))
 (R (.int .i64 4) h11)
 (R (.int .i64 5) h11))))
def vk:Ann :=
 (.two .leaf (.two (.two .leaf (.one (.two (.two .leaf (.join [6,4] [4] (.two .leaf .leaf))) (.two (.two .leaf .leaf) (.two (.two .leaf (.join [9,7] [7] (.two .leaf .leaf))) (.two (.two .leaf .leaf) (.two .leaf (.two (.two .leaf .leaf) (.two .leaf (.two (.two .leaf .leaf) .leaf)))))))))) (.two .leaf .leaf)))
theorem vy (ω:Amb)(op_p:Value)(h:Hp)(R:RT)(X:XT)(hk:pF ω op_p h R X):aa Tryz.prog ω 153 [op_p] h R X :=
 al (an:=vk) Tryz.func153 (by kernel_rfl) hk
abbrev oX:Nat:=154
def se (ω:Amb)(x_p least_p:Value)(h:Hp)(R:RT)(X:XT):Prop :=
 ∃C0,aj (h.push (.cells (Value.cells x_p) 36 (0,0))) ⟨h.size,0,none⟩ 4 C0 ∧
 aa Tryz.prog ω 137 [(.agg C0.toArray)] (h.push (.cells (Value.cells x_p) 36 (0,0))) (fun r1 h2 =>
 ∃v3,ah h2 (Addr.add ⟨h.size,0,none⟩ 0)=some v3 ∧
 aa Tryz.prog ω 153 [v3] h2 (fun r4 h5 =>
 asK .i64 r4 fun n6=>asK .i64 least_p fun n7=>cond (decide ((n6:Int) < n7))
 (asS r1 fun s8=>ByteArray.size ⟨#[40]⟩+s8.size≤9223372036854775807∧ByteArray.size (⟨#[40]⟩++s8)+ByteArray.size ⟨#[41]⟩≤9223372036854775807∧R (.string ((⟨#[40]⟩++s8)++⟨#[41]⟩)) h5)
 (R r1 h5)) X) X
def yq:Ann :=
 (.two .leaf (.two .leaf (.two (.two .leaf (.two (.two .leaf .leaf) .leaf)) (.two .leaf .leaf))))
theorem yv (ω:Amb)(x_p least_p:Value)(h:Hp)(R:RT)(X:XT)(hk:se ω x_p least_p h R X):aa Tryz.prog ω 154 [x_p,least_p] h R X :=
 al (an:=yq) Tryz.func154 (by kernel_rfl) hk
end Go.Proofs.YtkeeboomikkojaaGreatDoor.Sx
set_option linter.unusedVariables false
set_option maxRecDepth 100000
namespace Go.Proofs.YtkeeboomikkojaaGreatDoor.Sx
open Go Go.Sx Go.Proofs
abbrev xR:Nat:=29
def qZ (ω:Amb)(src_p:Value)(h:Hp)(R:RT)(X:XT):Prop :=
 asS src_p fun s0=>cond (decide (((s0.size:Int):Int) > 12000))
 (2=2∧(∀u∈[(.int .i64 1),(.int .i64 12000)],one u)∧au (h.push (.cells #[(.int .i64 0),(.int .i64 0)] 28 (0,0))) ⟨h.size,0,none⟩ [(.int .i64 1),(.int .i64 12000)] fun h1 =>
 ∃C2,aj h1 ⟨h.size,0,none⟩ 2 C2∧R (.tuple #[(.slice none 0 0),(.agg C2.toArray)]) h1)
 (bO src_p (aa Tryz.prog ω 52 [(.pointer (some ⟨Array.size (h.push (.cells #[(.int .i64 0),(.int .i64 0)] 28 (0,0))),0,none⟩))] (Array.push (h.push (.cells #[(.int .i64 0),(.int .i64 0)] 28 (0,0))) (.cells #[src_p,(.int .i64 0),(.slice none 0 0)] 97 (0,0))) (fun r3 h4 =>
 ∃(I5:Hp→Prop) (μ6:Hp→Nat),I5 h4∧∀(d7:Nat→Value) (h8:Hp),I5 h8 →
 ∃v9,ah h8 (Addr.add ⟨Array.size (h.push (.cells #[(.int .i64 0),(.int .i64 0)] 28 (0,0))),0,none⟩ 1)=some v9 ∧
 asS src_p fun s10=>asK .i64 v9 fun n11=>cond (decide ((n11:Int) < (s10.size:Int)))
 (∃v12,ah h8 (Addr.add ⟨Array.size (h.push (.cells #[(.int .i64 0),(.int .i64 0)] 28 (0,0))),0,none⟩ 1)=some v12 ∧
 aa Tryz.prog ω 53 [(.pointer (some ⟨Array.size (h.push (.cells #[(.int .i64 0),(.int .i64 0)] 28 (0,0))),0,none⟩))] h8 (fun r13 h14 =>
 asK .i64 r13 fun n15=>cond (n15 !=(0:Int))
 (bO r13 (bO v12 (2=2∧(∀u∈[r13,v12],one u)∧au h14 ⟨h.size,0,none⟩ [r13,v12] fun h16 =>
 ∃C17,aj h16 ⟨h.size,0,none⟩ 2 C17∧R (.tuple #[(.slice none 0 0),(.agg C17.toArray)]) h16)))
 (aa Tryz.prog ω 52 [(.pointer (some ⟨Array.size (h.push (.cells #[(.int .i64 0),(.int .i64 0)] 28 (0,0))),0,none⟩))] h14 (fun r18 h19 =>
 I5 h19∧μ6 h19 < μ6 h8) X)) X)
 (∃v20,ah h8 (Addr.add ⟨Array.size (h.push (.cells #[(.int .i64 0),(.int .i64 0)] 28 (0,0))),0,none⟩ 2)=some v20 ∧
 2=2∧(∀u∈[(.int .i64 0),(.int .i64 0)],one u)∧au h8 ⟨h.size,0,none⟩ [(.int .i64 0),(.int .i64 0)] fun h21 =>
 ∃C22,aj h21 ⟨h.size,0,none⟩ 2 C22∧R (.tuple #[v20,(.agg C22.toArray)]) h21)) X))
def wI:Ann :=
 (.two .leaf (.two (.two .leaf (.two (.two .leaf .leaf) .leaf)) (.two .leaf (.two (.two .leaf (.one (.loop [16,17,18,19,20,21,22,25,26,27,28,5,29,30,6,31,32,33,34,35,2,23,24] [] (.two (.two .leaf (.two .leaf .leaf)) (.two (.one (.two .leaf (.two .leaf (.two .leaf (.two (.two .leaf .leaf) .leaf))))) .leaf))))) (.two .leaf .leaf)))))
theorem xm (ω:Amb)(src_p:Value)(h:Hp)(R:RT)(X:XT)(hk:qZ ω src_p h R X):aa Tryz.prog ω 29 [src_p] h R X :=
 al (an:=wI) Tryz.func29 (by kernel_rfl) hk
abbrev j4:Nat:=52
def dG (ω:Amb)(s_p:Value)(h:Hp)(R:RT)(X:XT):Prop :=
 ∃(I0:RT) (μ1:Value→Hp→Nat),I0 (.bool false) h∧∀remark_2 (d3:Nat→Value) (h4:Hp),I0 remark_2 h4 →
 nnK s_p (asP s_p fun p5 =>
 ∃v6,ah h4 (Addr.add p5 1)=some v6 ∧
 nnK s_p (asP s_p fun p7 =>
 ∃v8,ah h4 (Addr.add p7 0)=some v8 ∧
 asS v8 fun s9=>asK .i64 v6 fun n10=>cond (decide ((n10:Int) < (s9.size:Int)))
 (nnK s_p (asP s_p fun p11 =>
 ∃v12,ah h4 (Addr.add p11 0)=some v12 ∧
 nnK s_p (asP s_p fun p13 =>
 ∃v14,ah h4 (Addr.add p13 1)=some v14 ∧
 asS v12 fun s15=>asI v14 fun n16=>0≤(n16:Int)∧n16 < (s15.size:Int)∧∃J17:RT,
 (∃J21:RT,
 (cond ((aK s15 n16)==(10:Int))
 (J21 (.bool false) h4)
 (∃J25:RT,
 (asB remark_2 fun b29=>cond b29
 (J25 remark_2 h4)
 (∃J30:RT,
 (cond ((aK s15 n16)==(32:Int))
 (J30 (.bool ((aK s15 n16)==(32:Int))) h4)
 (∃J34:RT,
 (cond ((aK s15 n16)==(9:Int))
 (J34 (.bool ((aK s15 n16)==(9:Int))) h4)
 (J34 (.bool ((aK s15 n16)==(13:Int))) h4)) ∧
 ∀t26_35 (d36:Nat→Value) (h37:Hp),J34 t26_35 h37 →
 J30 t26_35 h37)) ∧
 ∀t26_31 (d32:Nat→Value) (h33:Hp),J30 t26_31 h33 →
 J25 t26_31 h33)) ∧
 ∀t26_26 (d27:Nat→Value) (h28:Hp),J25 t26_26 h28 →
 ∃J38:RT,
 (asB t26_26 fun b42=>cond b42
 (J38 remark_2 h28)
 (cond ((aK s15 n16)==(35:Int))
 (J38 (.bool true) h28)
 (R (.tuple #[]) h28))) ∧
 ∀remark_39 (d40:Nat→Value) (h41:Hp),J38 remark_39 h41 →
 J21 remark_39 h41)) ∧
 ∀remark_22 (d23:Nat→Value) (h24:Hp),J21 remark_22 h24 →
 J17 remark_22 h24) ∧
 ∀remark_18 (d19:Nat→Value) (h20:Hp),J17 remark_18 h20 →
 nnK s_p (asP s_p fun p43 =>
 ∃v44,ah h20 (Addr.add p43 1)=some v44 ∧
 asK .i64 v44 fun n45=>nnK s_p (asP s_p fun p46 =>
 aE h20 (Addr.add p46 1) (.int .i64 (IntKind.wrap .i64 (n45+1))) fun h47 =>
 I0 remark_18 h47∧μ1 remark_18 h47 < μ1 remark_2 h4)))))
 (R (.tuple #[]) h4)))
def kK:Ann :=
 (.two .leaf (.one (.loop [4,5,6,7,8,9,10,11,12,13,14,15,16,17,18,19,20,21,22,3,24,25,23,2,27,26,28,29,30,31,32,33,35,36,34,37,38,39,40,41,42,43] [2] (.two (.two (.plan [0,1,2,3,4,5,6,7,8,9]) (.two .leaf .leaf)) (.one (.two (.two (.plan [0,1,2,3,4,5,6,7,8,9]) (.join [24,25,23,2,27,26,28,29,30,31,32,33,35,36,34] [2] (.one (.two .leaf (.join [2,27,26,28,29,30,31,32,33,35,36,34] [2] (.two .leaf (.two (.two .leaf (.join [28,29,26,30,31,32,33] [26] (.two .leaf (.two .leaf (.join [30,31,26,32,33] [26] (.two .leaf (.two .leaf (.join [32,33,26] [26] (.two .leaf .leaf))))))))) (.join [35,36,34,2] [2] (.two .leaf (.two .leaf (.two .leaf .leaf))))))))))) .leaf))))))
theorem kG (ω:Amb)(s_p:Value)(h:Hp)(R:RT)(X:XT)(hk:dG ω s_p h R X):aa Tryz.prog ω 52 [s_p] h R X :=
 al (an:=kK) Tryz.func52 (by kernel_rfl) hk
abbrev mA:Nat:=53
def fP (ω:Amb)(s_p:Value)(h:Hp)(R:RT)(X:XT):Prop :=
 nnK s_p (asP s_p fun p0 =>
 ∃v1,ah h (Addr.add p0 1)=some v1 ∧
 bO v1 (4=4∧(∀u∈[(.int .i64 0),v1,(.string ⟨#[]⟩),(.int .i64 0)],one u)∧au (h.push (.cells #[(.int .i64 0),(.int .i64 0),(.string ⟨#[]⟩),(.int .i64 0)] 100 (0,0))) ⟨h.size,0,none⟩ [(.int .i64 0),v1,(.string ⟨#[]⟩),(.int .i64 0)] fun h2 =>
 nnK s_p (asP s_p fun p3 =>
 ∃v4,ah h2 (Addr.add p3 0)=some v4 ∧
 nnK s_p (asP s_p fun p5 =>
 ∃v6,ah h2 (Addr.add p5 1)=some v6 ∧
 asS v4 fun s7=>asI v6 fun n8=>0≤(n8:Int)∧n8 < (s7.size:Int)∧∃J9:Hp→Prop,
 (aa Tryz.prog ω 80 [(.int .u8 (aK s7 n8))] h2 (fun r12 h13 =>
 ∃J14:Hp→Prop,
 (asB r12 fun b17=>cond b17
 (aa Tryz.prog ω 81 [s_p] h13 (fun r18 h19 =>
 bO r18 (aE h19 (Addr.add ⟨h.size,0,none⟩ 2) r18 fun h20 =>
 aE h20 (Addr.add ⟨h.size,0,none⟩ 0) (.int .i64 2) fun h21 =>
 ∃v22,ah h21 (Addr.add ⟨h.size,0,none⟩ 2)=some v22 ∧
 aa Tryz.prog ω 82 [v22] h21 (fun r23 h24 =>
 ∃J25:Hp→Prop,
 (asB r23 fun b28=>cond b28
 (aE h24 (Addr.add ⟨h.size,0,none⟩ 0) (.int .i64 1) fun h29 =>
 J25 h29)
 (∃v30,ah h24 (Addr.add ⟨h.size,0,none⟩ 2)=some v30 ∧
 asS v30 fun s31=>cond (decide (((s31.size:Int):Int) > 12))
 (R (.int .i64 4) h24)
 (J25 h24))) ∧
 ∀(d26:Nat→Value) (h27:Hp),J25 h27 →
 J14 h27) X)) X)
 (aa Tryz.prog ω 83 [(.int .u8 (aK s7 n8))] h13 (fun r32 h33 =>
 ∃J34:Hp→Prop,
 (asB r32 fun b37=>cond b37
 (aa Tryz.prog ω 81 [s_p] h33 (fun r38 h39 =>
 bO r38 (aE h39 (Addr.add ⟨h.size,0,none⟩ 2) r38 fun h40 =>
 ∃v41,ah h40 (Addr.add ⟨h.size,0,none⟩ 2)=some v41 ∧
 aa Tryz.prog ω 84 [v41] h40 (fun r42 h43 =>
 asT r42 fun T44=>asO T44[0]? fun v45=>asT r42 fun T46=>asO T46[1]? fun v47=>asB v47 fun b48=>cond (!b48)
 (R (.int .i64 3) h43)
 (aE h43 (Addr.add ⟨h.size,0,none⟩ 0) (.int .i64 3) fun h49 =>
 bO v45 (aE h49 (Addr.add ⟨h.size,0,none⟩ 3) v45 fun h50 =>
 J34 h50))) X)) X)
 (aa Tryz.prog ω 85 [s_p] h33 (fun r51 h52 =>
 aE h52 (Addr.add ⟨h.size,0,none⟩ 0) (.int .i64 4) fun h53 =>
 bO r51 (aE h53 (Addr.add ⟨h.size,0,none⟩ 2) r51 fun h54 =>
 ∃v55,ah h54 (Addr.add ⟨h.size,0,none⟩ 2)=some v55 ∧
 asS v55 fun s56=>cond (s56.toList==ByteArray.toList ⟨#[]⟩)
 (R (.int .i64 2) h54)
 (nnK s_p (asP s_p fun p57 =>
 ∃v58,ah h54 (Addr.add p57 1)=some v58 ∧
 ∃v59,ah h54 (Addr.add ⟨h.size,0,none⟩ 2)=some v59 ∧
 asS v59 fun s60=>asK .i64 v58 fun n61=>nnK s_p (asP s_p fun p62 =>
 aE h54 (Addr.add p62 1) (.int .i64 (IntKind.wrap .i64 (n61+(s60.size:Int)))) fun h63 =>
 J34 h63))))) X)) ∧
 ∀(d35:Nat→Value) (h36:Hp),J34 h36 →
 J14 h36) X)) ∧
 ∀(d15:Nat→Value) (h16:Hp),J14 h16 →
 J9 h16) X) ∧
 ∀(d10:Nat→Value) (h11:Hp),J9 h11 →
 nnK s_p (asP s_p fun p64 =>
 ∃v65,ah h11 (Addr.add p64 2)=some v65 ∧
 ∃C66,aj h11 ⟨h.size,0,none⟩ 4 C66 ∧
 C66.toArray.size=4∧ah (h11.push (.cells (List.toArray (C66.toArray.toList++[])) 100 (0,0))) (Addr.add p64 2)=some v65∧uo Tryz.prog 64 (h11.push (.cells (List.toArray (C66.toArray.toList++[])) 100 (0,0))) v65 (.slice (some ⟨h11.size,0,none⟩) 1 1) fun w67 h68 =>
 nnK s_p (asP s_p fun p69 =>
 bO w67 (aE h68 (Addr.add p69 2) w67 fun h70 =>
 R (.int .i64 0) h70)))))))
def mJ:Ann :=
 (.two .leaf (.two .leaf (.two (.two (.plan [0,1,2,3,4,5,6,7,8,9]) (.join [39,40,38,41,42,43,44,45,46,47,48,49,50,51,52,2,54,55,53,56,57,58,60,61,62,59,63,64,5,6,65,66,67,68,69,21,22,23,24,25,26,27,28,29,30,31,32,33,34,35,36,37] [] (.one (.two .leaf (.join [41,42,43,44,45,46,47,48,49,50,51,52,2,54,55,53,56,57,58,60,61,62,59,63,64,5,6,65,66,67,68,69,21,22,23,24,25,26,27,28,29,30,31,32,33,34,35,36,37] [] (.two (.two .leaf (.two .leaf (.two .leaf (.join [48,49,50,51,52,2] [] (.two .leaf (.two .leaf (.two (.two .leaf .leaf) .leaf))))))) (.two .leaf (.join [56,57,58,60,61,62,59,63,64,5,6,65,66,2,67,68,69,21,22,23,24,25,26,27,28,29,30,31,32,33,34,35,36,37] [] (.two (.two .leaf (.two .leaf (.two (.two .leaf (.two (.two .leaf .leaf) .leaf)) .leaf))) (.two .leaf (.two (.two .leaf (.two (.two .leaf .leaf) .leaf)) (.plan [0,1,2,3,4,5,6,7,8,9,10])))))))))))) (.two (.plan [0,1,2,3,4,5,6,7,8,9,10]) (.two .leaf .leaf)))))
theorem nh (ω:Amb)(s_p:Value)(h:Hp)(R:RT)(X:XT)(hk:fP ω s_p h R X):aa Tryz.prog ω 53 [s_p] h R X :=
 al (an:=mJ) Tryz.func53 (by kernel_rfl) hk
abbrev nk:Nat:=81
def fu (ω:Amb)(s_p:Value)(h:Hp)(R:RT)(X:XT):Prop :=
 nnK s_p (asP s_p fun p0 =>
 ∃v1,ah h (Addr.add p0 1)=some v1 ∧
 ∃(I2:Hp→Prop) (μ3:Hp→Nat),I2 h∧∀(d4:Nat→Value) (h5:Hp),I2 h5 →
 ∃J6:RT,
 (nnK s_p (asP s_p fun p10 =>
 ∃v11,ah h5 (Addr.add p10 1)=some v11 ∧
 nnK s_p (asP s_p fun p12 =>
 ∃v13,ah h5 (Addr.add p12 0)=some v13 ∧
 asS v13 fun s14=>asK .i64 v11 fun n15=>cond (decide ((n15:Int) < (s14.size:Int)))
 (nnK s_p (asP s_p fun p16 =>
 ∃v17,ah h5 (Addr.add p16 0)=some v17 ∧
 nnK s_p (asP s_p fun p18 =>
 ∃v19,ah h5 (Addr.add p18 1)=some v19 ∧
 asS v17 fun s20=>asI v19 fun n21=>0≤(n21:Int)∧n21 < (s20.size:Int)∧aa Tryz.prog ω 80 [(.int .u8 (aK s20 n21))] h5 (fun r22 h23 =>
 asB r22 fun b24=>cond b24
 (J6 (.bool true) h23)
 (nnK s_p (asP s_p fun p25 =>
 ∃v26,ah h23 (Addr.add p25 0)=some v26 ∧
 nnK s_p (asP s_p fun p27 =>
 ∃v28,ah h23 (Addr.add p27 1)=some v28 ∧
 asS v26 fun s29=>asI v28 fun n30=>0≤(n30:Int)∧n30 < (s29.size:Int)∧aa Tryz.prog ω 83 [(.int .u8 (aK s29 n30))] h23 (fun r31 h32 =>
 J6 r31 h32) X)))) X)))
 (J6 (.bool false) h5)))) ∧
 ∀t41_7 (d8:Nat→Value) (h9:Hp),J6 t41_7 h9 →
 asB t41_7 fun b33=>cond b33
 (nnK s_p (asP s_p fun p34 =>
 ∃v35,ah h9 (Addr.add p34 1)=some v35 ∧
 asK .i64 v35 fun n36=>nnK s_p (asP s_p fun p37 =>
 aE h9 (Addr.add p37 1) (.int .i64 (IntKind.wrap .i64 (n36+1))) fun h38 =>
 I2 h38∧μ3 h38 < μ3 h5)))
 (nnK s_p (asP s_p fun p39 =>
 ∃v40,ah h9 (Addr.add p39 0)=some v40 ∧
 nnK s_p (asP s_p fun p41 =>
 ∃v42,ah h9 (Addr.add p41 1)=some v42 ∧
 asS v40 fun s43=>asI v1 fun n44=>asI v42 fun n45=>0≤(n44:Int)∧(n44:Int)≤n45∧n45≤(s43.size:Int)∧R (.string (ByteArray.extract s43 (n44.toNat) (n45.toNat))) h9))))
def nC:Ann :=
 (.two .leaf (.two .leaf (.two (.one (.loop [8,9,10,11,12,13,14,15,16,17,18,19,20,21,22,23,24,25,26,27,28,29,30,31,32,33,34,35,36,37,38,39,40,41,42,43,44,45,46,47,48] [] (.two (.two (.join [8,9,10,11,12,13,14,15,16,17,18,19,20,21,22,23,24,25,26,27,28,29,30,31,32,33,34,35,36,37,38,39,40,41] [41] (.plan [0,1,2,3,4,5,6,7,8,9,10,11,12,13,14,15,16,17,18,19,20,21,22,23,24,25,26,27,28,29,30,31,32,33])) (.two .leaf .leaf)) (.one .leaf)))) (.two (.plan [0,1,2,3,4,5,6,7,8,9,10]) .leaf))))
theorem mR (ω:Amb)(s_p:Value)(h:Hp)(R:RT)(X:XT)(hk:fu ω s_p h R X):aa Tryz.prog ω 81 [s_p] h R X :=
 al (an:=nC) Tryz.func81 (by kernel_rfl) hk
abbrev tx:Nat:=84
def oP (ω:Amb)(s_p:Value)(h:Hp)(R:RT)(X:XT):Prop :=
 ∃β0:Bool,
 (asS s_p fun s2=>cond (decide (((s2.size:Int):Int) > 18))
 (((.bool true):Value)=.bool β0∧h=h)
 (asS s_p fun s3=>cond (decide (((s3.size:Int):Int) > 1))
 (asS s_p fun s4=>0≤(0:Int)∧0 < (s4.size:Int)∧((.bool ((aK s4 0)==(48:Int))):Value)=.bool β0∧h=h)
 (((.bool false):Value)=.bool β0∧h=h))) ∧
 ∀d1:Nat→Value,
 cond β0
 (R (.tuple #[(.int .i64 0),(.bool false)]) h)
 (asS s_p fun s5=>∃(I6:RT) (μ7:Value→Hp→Nat),I6 (.int .i64 0) h∧∀t22_8 (d9:Nat→Value) (h10:Hp),I6 t22_8 h10 →
 asK .i64 t22_8 fun n11=>cond (decide ((n11:Int) < (s5.size:Int)))
 (asS s_p fun s12=>asI t22_8 fun n13=>0≤(n13:Int)∧n13 < (s12.size:Int)∧aa Tryz.prog ω 83 [(.int .u8 (aK s12 n13))] h10 (fun r14 h15 =>
 asB r14 fun b16=>cond (!b16)
 (R (.tuple #[(.int .i64 0),(.bool false)]) h15)
 (asK .i64 t22_8 fun n17=>I6 (.int .i64 (IntKind.wrap .i64 (n17+1))) h15∧μ7 (.int .i64 (IntKind.wrap .i64 (n17+1))) h15 < μ7 t22_8 h10)) X)
 (aa Tryz.prog ω 108 [s_p,(.int .i64 10),(.int .i64 64)] h10 (fun r18 h19 =>
 asT r18 fun T20=>asO T20[0]? fun v21=>asT r18 fun T22=>asO T22[1]? fun v23=>GI v23 fun b24=>R (.tuple #[v21,(.bool b24)]) h19) X))
def tD:Ann :=
 (.two .leaf (.two (.two (.jb [7,8,9,10,11,12,13,14,15,16,17,18,19] 19 .leaf) (.two (.two .leaf .leaf) .leaf)) (.two (.two .leaf (.one (.loop [23,24,4,25,26,27,28,29,2,3,30,22] [22] (.two .leaf (.two (.two .leaf .leaf) (.two (.one (.two .leaf (.two .leaf (.two (.two .leaf .leaf) .leaf)))) .leaf)))))) (.two .leaf (.two (.plan [0,1,2,3,4]) .leaf)))))
theorem tr (ω:Amb)(s_p:Value)(h:Hp)(R:RT)(X:XT)(hk:oP ω s_p h R X):aa Tryz.prog ω 84 [s_p] h R X :=
 al (an:=tD) Tryz.func84 (by kernel_rfl) hk
abbrev lC:Nat:=85
def eI (ω:Amb)(s_p:Value)(h:Hp)(R:RT)(X:XT):Prop :=
 nnK s_p (asP s_p fun p0 =>
 ∃v1,ah h (Addr.add p0 0)=some v1 ∧
 nnK s_p (asP s_p fun p2 =>
 ∃v3,ah h (Addr.add p2 1)=some v3 ∧
 asS v1 fun s4=>asI v3 fun n5=>0≤(n5:Int)∧n5 < (s4.size:Int)∧cond ((aK s4 n5)==(61:Int))
 (∃β6:Bool,
 (nnK s_p (asP s_p fun p8 =>
 ∃v9,ah h (Addr.add p8 1)=some v9 ∧
 asK .i64 v9 fun n10=>nnK s_p (asP s_p fun p11 =>
 ∃v12,ah h (Addr.add p11 0)=some v12 ∧
 asS v12 fun s13=>cond (decide (((IntKind.wrap .i64 (n10+1)):Int) < (s13.size:Int)))
 (nnK s_p (asP s_p fun p14 =>
 ∃v15,ah h (Addr.add p14 0)=some v15 ∧
 nnK s_p (asP s_p fun p16 =>
 ∃v17,ah h (Addr.add p16 1)=some v17 ∧
 asK .i64 v17 fun n18=>asS v15 fun s19=>0≤((IntKind.wrap .i64 (n18+1)):Int)∧(IntKind.wrap .i64 (n18+1)) < (s19.size:Int)∧((.bool ((aK s19 (IntKind.wrap .i64 (n18+1)))==(61:Int))):Value)=.bool β6∧h=h)))
 (((.bool false):Value)=.bool β6∧h=h)))) ∧
 ∀d7:Nat→Value,
 cond β6
 (R (.string ⟨#[61,61]⟩) h)
 (R (.string ⟨#[61]⟩) h))
 (∃J20:RT,
 (cond ((aK s4 n5)==(40:Int))
 (J20 (.bool ((aK s4 n5)==(40:Int))) h)
 (∃J24:RT,
 (cond ((aK s4 n5)==(41:Int))
 (J24 (.bool ((aK s4 n5)==(41:Int))) h)
 (∃J28:RT,
 (cond ((aK s4 n5)==(123:Int))
 (J28 (.bool ((aK s4 n5)==(123:Int))) h)
 (∃J32:RT,
 (cond ((aK s4 n5)==(125:Int))
 (J32 (.bool ((aK s4 n5)==(125:Int))) h)
 (∃J36:RT,
 (cond ((aK s4 n5)==(44:Int))
 (J36 (.bool ((aK s4 n5)==(44:Int))) h)
 (∃J40:RT,
 (cond ((aK s4 n5)==(59:Int))
 (J40 (.bool ((aK s4 n5)==(59:Int))) h)
 (∃J44:RT,
 (cond ((aK s4 n5)==(43:Int))
 (J44 (.bool ((aK s4 n5)==(43:Int))) h)
 (∃J48:RT,
 (cond ((aK s4 n5)==(45:Int))
 (J48 (.bool ((aK s4 n5)==(45:Int))) h)
 (∃J52:RT,
 (cond ((aK s4 n5)==(42:Int))
 (J52 (.bool ((aK s4 n5)==(42:Int))) h)
 (J52 (.bool ((aK s4 n5)==(60:Int))) h)) ∧
 ∀t40_53 (d54:Nat→Value) (h55:Hp),J52 t40_53 h55 →
 J48 t40_53 h55)) ∧
 ∀t40_49 (d50:Nat→Value) (h51:Hp),J48 t40_49 h51 →
 J44 t40_49 h51)) ∧
 ∀t40_45 (d46:Nat→Value) (h47:Hp),J44 t40_45 h47 →
 J40 t40_45 h47)) ∧
 ∀t40_41 (d42:Nat→Value) (h43:Hp),J40 t40_41 h43 →
 J36 t40_41 h43)) ∧
 ∀t40_37 (d38:Nat→Value) (h39:Hp),J36 t40_37 h39 →
 J32 t40_37 h39)) ∧
 ∀t40_33 (d34:Nat→Value) (h35:Hp),J32 t40_33 h35 →
 J28 t40_33 h35)) ∧
 ∀t40_29 (d30:Nat→Value) (h31:Hp),J28 t40_29 h31 →
 J24 t40_29 h31)) ∧
 ∀t40_25 (d26:Nat→Value) (h27:Hp),J24 t40_25 h27 →
 J20 t40_25 h27)) ∧
 ∀t40_21 (d22:Nat→Value) (h23:Hp),J20 t40_21 h23 →
 asB t40_21 fun b56=>cond b56
 (R (.string (Utf8.encode (IntKind.wrap .i32 (aK s4 n5)))) h23)
 (R (.string ⟨#[]⟩) h23))))
def kV:Ann :=
 (.two .leaf (.two (.two (.plan [0,1,2,3,4,5,6,7,8,9]) (.two .leaf (.one (.two .leaf (.two (.two (.two (.jb [16,17,18,19,20,21,22,23,24,25,26,27,28,29,30,31,32,33,34,35,36,37,38,39] 39 (.plan [0,1,2,3,4,5,6,7,8,9,10,11,12,13,14,15,16,17,18,19,20,21,22,23])) (.two (.two .leaf .leaf) .leaf)) (.two .leaf .leaf)) (.two (.two .leaf (.join [42,40,43,44,45,46,47,48,49,50] [40] (.two .leaf (.two .leaf (.join [43,40,44,45,46,47,48,49,50] [40] (.two .leaf (.two .leaf (.join [44,40,45,46,47,48,49,50] [40] (.two .leaf (.two .leaf (.join [45,40,46,47,48,49,50] [40] (.two .leaf (.two .leaf (.join [46,40,47,48,49,50] [40] (.two .leaf (.two .leaf (.join [47,40,48,49,50] [40] (.two .leaf (.two .leaf (.join [48,40,49,50] [40] (.two .leaf (.two .leaf (.join [49,40,50] [40] (.two .leaf (.two .leaf (.join [50,40] [40] (.two .leaf .leaf))))))))))))))))))))))))))) (.two (.two .leaf .leaf) .leaf))))))) (.two .leaf .leaf)))
theorem lh (ω:Amb)(s_p:Value)(h:Hp)(R:RT)(X:XT)(hk:eI ω s_p h R X):aa Tryz.prog ω 85 [s_p] h R X :=
 al (an:=kV) Tryz.func85 (by kernel_rfl) hk
abbrev pA:Nat:=108
def iz (ω:Amb)(s_p base_p bitSize_p:Value)(h:Hp)(R:RT)(X:XT):Prop :=
 aa Tryz.prog ω 127 [s_p,base_p,bitSize_p] h (fun r0 h1 =>
 asT r0 fun T2=>asO T2[0]? fun v3=>asT r0 fun T4=>asO T4[1]? fun v5=>GI v5 fun b6=>cond (!b6)
 (aa Tryz.prog ω 128 [(.string ⟨#[80,97,114,115,101,73,110,116]⟩),s_p,base_p,bitSize_p,v5] h1 (fun r7 h8 =>
 R (.tuple #[v3,r7]) h8) X)
 (R (.tuple #[v3,.nilIface]) h1)) X
def py:Ann :=
 (.two .leaf (.two .leaf (.two (.two .leaf (.two (.two .leaf .leaf) .leaf)) (.two .leaf .leaf))))
theorem qg (ω:Amb)(s_p base_p bitSize_p:Value)(h:Hp)(R:RT)(X:XT)(hk:iz ω s_p base_p bitSize_p h R X):aa Tryz.prog ω 108 [s_p,base_p,bitSize_p] h R X :=
 al (an:=py) Tryz.func108 (by kernel_rfl) hk
abbrev gy:Nat:=127
def cD (ω:Amb)(s_p base_p bitSize_p:Value)(h:Hp)(R:RT)(X:XT):Prop :=
 asS s_p fun s0=>cond (s0.toList==ByteArray.toList ⟨#[]⟩)
 (R (.tuple #[(.int .i64 0),(.iface 194 (.int .i64 2))]) h)
 (asS s_p fun s1=>0≤(0:Int)∧0 < (s1.size:Int)∧∃J2:Value→RT,
 (∃J7:Value→RT,
 (cond ((aK s1 0)==(43:Int))
 (asS s_p fun s12=>0≤(1:Int)∧(1:Int)≤(s12.size:Int)∧(s12.size:Int)≤(s12.size:Int)∧J7 (.string (ByteArray.extract s12 (Int.toNat 1) (Int.toNat (s12.size:Int)))) (.bool false) h)
 (∃J13:Value→RT,
 (cond ((aK s1 0)==(45:Int))
 (asS s_p fun s18=>0≤(1:Int)∧(1:Int)≤(s18.size:Int)∧(s18.size:Int)≤(s18.size:Int)∧J13 (.string (ByteArray.extract s18 (Int.toNat 1) (Int.toNat (s18.size:Int)))) (.bool true) h)
 (J13 s_p (.bool false) h)) ∧
 ∀s_14 neg_15 (d16:Nat→Value) (h17:Hp),J13 s_14 neg_15 h17 →
 J7 s_14 neg_15 h17)) ∧
 ∀s_8 neg_9 (d10:Nat→Value) (h11:Hp),J7 s_8 neg_9 h11 →
 J2 s_8 neg_9 h11) ∧
 ∀s_3 neg_4 (d5:Nat→Value) (h6:Hp),J2 s_3 neg_4 h6 →
 aa Tryz.prog ω 147 [s_3,base_p,bitSize_p] h6 (fun r19 h20 =>
 asT r19 fun T21=>asO T21[0]? fun v22=>asT r19 fun T23=>asO T23[1]? fun v24=>∃β25:Bool,
 (GI v24 fun b27=>cond (!b27)
 (False)
 (((.bool false):Value)=.bool β25∧h20=h20)) ∧
 ∀d26:Nat→Value,
 cond β25
 (R (.tuple #[(.int .i64 0),v24]) h20)
 (asK .i64 bitSize_p fun n28=>∃J29:RT,
 (cond (n28==(0:Int))
 (J29 (.int .i64 64) h20)
 (J29 bitSize_p h20)) ∧
 ∀bitSize_30 (d31:Nat→Value) (h32:Hp),J29 bitSize_30 h32 →
 asK .i64 bitSize_30 fun n33=>0≤((IntKind.wrap .u64 (IntKind.wrap .i64 (n33 - 1))):Int)∧∃β34:Bool,
 (asB neg_4 fun b36=>cond (!b36)
 (asK .u64 v22 fun n37=>((.bool (decide ((n37:Int)≥(shI .u64 .shl 1 (IntKind.wrap .u64 (IntKind.wrap .i64 (n33 - 1))))))):Value)=.bool β34∧h32=h32)
 (((.bool false):Value)=.bool β34∧h32=h32)) ∧
 ∀d35:Nat→Value,
 cond β34
 (R (.tuple #[(.int .i64 (IntKind.wrap .i64 (IntKind.wrap .u64 ((shI .u64 .shl 1 (IntKind.wrap .u64 (IntKind.wrap .i64 (n33 - 1)))) - 1)))),(.iface 194 (.int .i64 1))]) h32)
 (∃β38:Bool,
 (asB neg_4 fun b40=>cond b40
 (asK .u64 v22 fun n41=>((.bool (decide ((n41:Int) > (shI .u64 .shl 1 (IntKind.wrap .u64 (IntKind.wrap .i64 (n33 - 1))))))):Value)=.bool β38∧h32=h32)
 (((.bool false):Value)=.bool β38∧h32=h32)) ∧
 ∀d39:Nat→Value,
 cond β38
 (R (.tuple #[(.int .i64 (IntKind.wrap .i64 (0 - (IntKind.wrap .i64 (shI .u64 .shl 1 (IntKind.wrap .u64 (IntKind.wrap .i64 (n33 - 1)))))))),(.iface 194 (.int .i64 1))]) h32)
 (asI v22 fun n42=>∃J43:RT,
 (asB neg_4 fun b47=>cond b47
 (J43 (.int .i64 (IntKind.wrap .i64 (0 - (IntKind.wrap .i64 n42)))) h32)
 (J43 (.int .i64 (IntKind.wrap .i64 n42)) h32)) ∧
 ∀n_44 (d45:Nat→Value) (h46:Hp),J43 n_44 h46 →
 R (.tuple #[n_44,.nilIface]) h46)))) X)
def gF:Ann :=
 (.two .leaf (.two (.two .leaf (.two (.two .leaf .leaf) .leaf)) (.two .leaf (.two (.two .leaf (.join [18,17,19,20,0,22,21,23,24,8] [0,8] (.one (.two .leaf (.join [19,20,0,22,21,23,24,8] [0,8] (.two .leaf (.two .leaf (.join [23,24,0,8] [0,8] (.two (.two .leaf .leaf) .leaf))))))))) (.two .leaf (.two .leaf (.two (.two (.jb [32,33,34,35,36,37,38] 38 .leaf) (.two (.two .leaf .leaf) .leaf)) (.two (.two .leaf (.join [2] [2] (.two .leaf .leaf))) (.two .leaf (.two (.two (.jb [46,47,48,49,50,51,52] 52 .leaf) (.two (.two .leaf .leaf) .leaf)) (.two (.two (.jb [57,58,59,60,61,62] 62 .leaf) (.two (.two .leaf .leaf) .leaf)) (.two .leaf (.two (.two .leaf (.join [70,71,11] [11] (.two .leaf .leaf))) (.two .leaf .leaf))))))))))))))
theorem gD (ω:Amb)(s_p base_p bitSize_p:Value)(h:Hp)(R:RT)(X:XT)(hk:cD ω s_p base_p bitSize_p h R X):aa Tryz.prog ω 127 [s_p,base_p,bitSize_p] h R X :=
 al (an:=gF) Tryz.func127 (by kernel_rfl) hk
abbrev gl:Nat:=147
def cx (ω:Amb)(s_p base_p bitSize_p:Value)(h:Hp)(R:RT)(X:XT):Prop :=
 asS s_p fun s0=>cond (s0.toList==ByteArray.toList ⟨#[]⟩)
 (R (.tuple #[(.int .u64 0),(.iface 194 (.int .i64 2))]) h)
 (asK .i64 base_p fun n1=>∃J2:Value→RT,
 (∃J7:RT,
 (asK .i64 base_p fun n11=>cond (decide ((2:Int)≤n11))
 (asK .i64 base_p fun n12=>J7 (.bool (decide ((n12:Int)≤36))) h)
 (J7 (.bool false) h)) ∧
 ∀t25_8 (d9:Nat→Value) (h10:Hp),J7 t25_8 h10 →
 ∃J13:Value→RT,
 (asB t25_8 fun b18=>cond b18
 (J13 base_p s_p h10)
 (asK .i64 base_p fun n19=>cond (n19==(0:Int))
 (asS s_p fun s20=>0≤(0:Int)∧0 < (s20.size:Int)∧∃J21:Value→RT,
 (cond ((aK s20 0)==(48:Int))
 (∃J26:Value→RT,
 (∃J31:RT,
 (asS s_p fun s35=>cond (decide (((s35.size:Int):Int)≥3))
 (asS s_p fun s36=>0≤(1:Int)∧1 < (s36.size:Int)∧aa Tryz.prog ω 162 [(.int .u8 (aK s36 1))] h10 (fun r37 h38 =>
 asK .u8 r37 fun n39=>J31 (.bool (n39==(98:Int))) h38) X)
 (J31 (.bool false) h10)) ∧
 ∀t40_32 (d33:Nat→Value) (h34:Hp),J31 t40_32 h34 →
 ∃J40:Value→RT,
 (asB t40_32 fun b45=>cond b45
 (asS s_p fun s46=>0≤(2:Int)∧(2:Int)≤(s46.size:Int)∧(s46.size:Int)≤(s46.size:Int)∧J40 (.int .i64 2) (.string (ByteArray.extract s46 (Int.toNat 2) (Int.toNat (s46.size:Int)))) h34)
 (∃J47:RT,
 (asS s_p fun s51=>cond (decide (((s51.size:Int):Int)≥3))
 (asS s_p fun s52=>0≤(1:Int)∧1 < (s52.size:Int)∧aa Tryz.prog ω 162 [(.int .u8 (aK s52 1))] h34 (fun r53 h54 =>
 asK .u8 r53 fun n55=>J47 (.bool (n55==(111:Int))) h54) X)
 (J47 (.bool false) h34)) ∧
 ∀t52_48 (d49:Nat→Value) (h50:Hp),J47 t52_48 h50 →
 ∃J56:Value→RT,
 (asB t52_48 fun b61=>cond b61
 (asS s_p fun s62=>0≤(2:Int)∧(2:Int)≤(s62.size:Int)∧(s62.size:Int)≤(s62.size:Int)∧J56 (.int .i64 8) (.string (ByteArray.extract s62 (Int.toNat 2) (Int.toNat (s62.size:Int)))) h50)
 (∃J63:RT,
 (asS s_p fun s67=>cond (decide (((s67.size:Int):Int)≥3))
 (asS s_p fun s68=>0≤(1:Int)∧1 < (s68.size:Int)∧aa Tryz.prog ω 162 [(.int .u8 (aK s68 1))] h50 (fun r69 h70 =>
 asK .u8 r69 fun n71=>J63 (.bool (n71==(120:Int))) h70) X)
 (J63 (.bool false) h50)) ∧
 ∀t64_64 (d65:Nat→Value) (h66:Hp),J63 t64_64 h66 →
 ∃J72:Value→RT,
 (asB t64_64 fun b77=>cond b77
 (asS s_p fun s78=>0≤(2:Int)∧(2:Int)≤(s78.size:Int)∧(s78.size:Int)≤(s78.size:Int)∧J72 (.int .i64 16) (.string (ByteArray.extract s78 (Int.toNat 2) (Int.toNat (s78.size:Int)))) h66)
 (asS s_p fun s79=>0≤(1:Int)∧(1:Int)≤(s79.size:Int)∧(s79.size:Int)≤(s79.size:Int)∧J72 (.int .i64 8) (.string (ByteArray.extract s79 (Int.toNat 1) (Int.toNat (s79.size:Int)))) h66)) ∧
 ∀base_73 s_74 (d75:Nat→Value) (h76:Hp),J72 base_73 s_74 h76 →
 J56 base_73 s_74 h76)) ∧
 ∀base_57 s_58 (d59:Nat→Value) (h60:Hp),J56 base_57 s_58 h60 →
 J40 base_57 s_58 h60)) ∧
 ∀base_41 s_42 (d43:Nat→Value) (h44:Hp),J40 base_41 s_42 h44 →
 J26 base_41 s_42 h44) ∧
 ∀base_27 s_28 (d29:Nat→Value) (h30:Hp),J26 base_27 s_28 h30 →
 J21 base_27 s_28 h30)
 (J21 (.int .i64 10) s_p h10)) ∧
 ∀base_22 s_23 (d24:Nat→Value) (h25:Hp),J21 base_22 s_23 h25 →
 J13 base_22 s_23 h25)
 (R (.tuple #[(.int .u64 0),(.iface 194 (.int .i64 3))]) h10))) ∧
 ∀base_14 s_15 (d16:Nat→Value) (h17:Hp),J13 base_14 s_15 h17 →
 J2 base_14 s_15 h17) ∧
 ∀base_3 s_4 (d5:Nat→Value) (h6:Hp),J2 base_3 s_4 h6 →
 asK .i64 bitSize_p fun n80=>∃J81:RT,
 (cond (n80==(0:Int))
 (J81 (.int .i64 64) h6)
 (∃β85:Bool,
 (asK .i64 bitSize_p fun n87=>cond (decide ((n87:Int) < 0))
 (((.bool true):Value)=.bool β85∧h6=h6)
 (asK .i64 bitSize_p fun n88=>((.bool (decide ((n88:Int) > 64))):Value)=.bool β85∧h6=h6)) ∧
 ∀d86:Nat→Value,
 cond β85
 (R (.tuple #[(.int .u64 0),(.iface 194 (.int .i64 4))]) h6)
 (J81 bitSize_p h6))) ∧
 ∀bitSize_82 (d83:Nat→Value) (h84:Hp),J81 bitSize_82 h84 →
 ∃J89:RT,
 (asK .i64 base_3 fun n93=>∃J94:RT,
 (cond (n93==(10:Int))
 (J94 (.int .u64 1844674407370955162) h84)
 (asK .i64 base_3 fun n98=>∃J99:RT,
 (cond (n98==(16:Int))
 (J99 (.int .u64 1152921504606846976) h84)
 (asI base_3 fun n103=>((IntKind.wrap .u64 n103):Int)≠0∧J99 (.int .u64 (IntKind.wrap .u64 ((IntKind.wrap .u64 (Int.tdiv 18446744073709551615 (IntKind.wrap .u64 n103)))+1))) h84)) ∧
 ∀cutoff_100 (d101:Nat→Value) (h102:Hp),J99 cutoff_100 h102 →
 J94 cutoff_100 h102)) ∧
 ∀cutoff_95 (d96:Nat→Value) (h97:Hp),J94 cutoff_95 h97 →
 J89 cutoff_95 h97) ∧
 ∀cutoff_90 (d91:Nat→Value) (h92:Hp),J89 cutoff_90 h92 →
 asI bitSize_82 fun n104=>0≤((IntKind.wrap .u64 n104):Int)∧xz Tryz.prog 9 107 h92 s_4 fun v105 h106 =>
 bz v105 fun a107 l108 c109=>∃(I110:Value→Value→RT) (μ111:Value→Value→Value→Hp→Nat),I110 (.bool false) (.int .u64 0) (.int .i64 0) h106∧∀underscores_112 n_113 t101_114 (d115:Nat→Value) (h116:Hp),I110 underscores_112 n_113 t101_114 h116 →
 asK .i64 t101_114 fun n117=>cond (decide ((n117:Int) < (l108:Int)))
 (∃J118:Value→RT,
 (aI v105 fun a123 l124 c125=>asI t101_114 fun n126=>0≤(n126:Int)∧n126 < (l124:Int)∧∃v127,ah h116 (Addr.add a123 (n126.toNat*1))=some v127 ∧
 ∃J128:Value→RT,
 (∃J133:RT,
 (asK .u8 v127 fun n137=>cond (n137==(95:Int))
 (J133 (.bool (n1==(0:Int))) h116)
 (J133 (.bool false) h116)) ∧
 ∀t106_134 (d135:Nat→Value) (h136:Hp),J133 t106_134 h136 →
 asB t106_134 fun b138=>cond b138
 (J118 (.bool true) n_113 h136)
 (∃J139:RT,
 (asK .u8 v127 fun n143=>cond (decide ((48:Int)≤n143))
 (asK .u8 v127 fun n144=>J139 (.bool (decide ((n144:Int)≤57))) h136)
 (J139 (.bool false) h136)) ∧
 ∀t112_140 (d141:Nat→Value) (h142:Hp),J139 t112_140 h142 →
 ∃J145:RT,
 (asB t112_140 fun b149=>cond b149
 (asK .u8 v127 fun n150=>J145 (.int .u8 (IntKind.wrap .u8 (n150 - 48))) h142)
 (∃J151:RT,
 (aa Tryz.prog ω 162 [v127] h142 (fun r155 h156 =>
 asK .u8 r155 fun n157=>cond (decide ((97:Int)≤n157))
 (aa Tryz.prog ω 162 [v127] h156 (fun r158 h159 =>
 asK .u8 r158 fun n160=>J151 (.bool (decide ((n160:Int)≤122))) h159) X)
 (J151 (.bool false) h156)) X) ∧
 ∀t121_152 (d153:Nat→Value) (h154:Hp),J151 t121_152 h154 →
 asB t121_152 fun b161=>cond b161
 (aa Tryz.prog ω 162 [v127] h154 (fun r162 h163 =>
 asK .u8 r162 fun n164=>J145 (.int .u8 (IntKind.wrap .u8 ((IntKind.wrap .u8 (n164 - 97))+10))) h163) X)
 (R (.tuple #[(.int .u64 0),(.iface 194 (.int .i64 2))]) h154))) ∧
 ∀d_146 (d147:Nat→Value) (h148:Hp),J145 d_146 h148 →
 J128 underscores_112 d_146 h148)) ∧
 ∀underscores_129 d_130 (d131:Nat→Value) (h132:Hp),J128 underscores_129 d_130 h132 →
 asI base_3 fun n165=>asK .u8 d_130 fun n166=>cond (decide ((n166:Int)≥(IntKind.wrap .u8 n165)))
 (R (.tuple #[(.int .u64 0),(.iface 194 (.int .i64 2))]) h132)
 (asK .u64 n_113 fun n167=>asK .u64 cutoff_90 fun n168=>cond (decide ((n167:Int)≥n168))
 (R (.tuple #[(.int .u64 (IntKind.wrap .u64 ((shI .u64 .shl 1 (IntKind.wrap .u64 n104)) - 1))),(.iface 194 (.int .i64 1))]) h132)
 (asI base_3 fun n169=>asK .u64 n_113 fun n170=>asI d_130 fun n171=>∃β172:Bool,
 (cond (decide (((IntKind.wrap .u64 ((IntKind.wrap .u64 (n170*(IntKind.wrap .u64 n169)))+(IntKind.wrap .u64 n171))):Int) < (IntKind.wrap .u64 (n170*(IntKind.wrap .u64 n169)))))
 (((.bool true):Value)=.bool β172∧h132=h132)
 (((.bool (decide (((IntKind.wrap .u64 ((IntKind.wrap .u64 (n170*(IntKind.wrap .u64 n169)))+(IntKind.wrap .u64 n171))):Int) > (IntKind.wrap .u64 ((shI .u64 .shl 1 (IntKind.wrap .u64 n104)) - 1))))):Value)=.bool β172∧h132=h132)) ∧
 ∀d173:Nat→Value,
 cond β172
 (R (.tuple #[(.int .u64 (IntKind.wrap .u64 ((shI .u64 .shl 1 (IntKind.wrap .u64 n104)) - 1))),(.iface 194 (.int .i64 1))]) h132)
 (J118 underscores_129 (.int .u64 (IntKind.wrap .u64 ((IntKind.wrap .u64 (n170*(IntKind.wrap .u64 n169)))+(IntKind.wrap .u64 n171)))) h132)))) ∧
 ∀underscores_119 n_120 (d121:Nat→Value) (h122:Hp),J118 underscores_119 n_120 h122 →
 asK .i64 t101_114 fun n174=>I110 underscores_119 n_120 (.int .i64 (IntKind.wrap .i64 (n174+1))) h122∧μ111 underscores_119 n_120 (.int .i64 (IntKind.wrap .i64 (n174+1))) h122 < μ111 underscores_112 n_113 t101_114 h116)
 (∃J175:RT,
 (asB underscores_112 fun b179=>cond b179
 (aa Tryz.prog ω 163 [s_p] h116 (fun r180 h181 =>
 asB r180 fun b182=>J175 (.bool (!b182)) h181) X)
 (J175 (.bool false) h116)) ∧
 ∀t169_176 (d177:Nat→Value) (h178:Hp),J175 t169_176 h178 →
 asB t169_176 fun b183=>cond b183
 (R (.tuple #[(.int .u64 0),(.iface 194 (.int .i64 2))]) h178)
 (R (.tuple #[n_113,.nilIface]) h178)))
def gq:Ann :=
 (.two .leaf (.two (.two .leaf (.two (.two .leaf .leaf) .leaf)) (.two .leaf (.two .leaf (.two (.join [26,27,28,29,30,31,25,33,34,32,1,35,36,37,41,42,43,44,45,46,47,48,49,40,50,51,0,53,54,55,56,57,58,59,60,61,52,62,63,65,66,67,68,69,70,71,72,73,64,74,75,38,39,24,6,7] [1,0] (.one (.two (.join [26,27,28,29,30,31,25] [25] .leaf) (.join [33,34,32,1,35,36,37,41,42,43,44,45,46,47,48,49,40,50,51,0,53,54,55,56,57,58,59,60,61,52,62,63,65,66,67,68,69,70,71,72,73,64,74,75,38,39,24,6,7] [1,0] (.two .leaf (.two .leaf (.two (.two .leaf (.two .leaf (.join [41,42,43,44,45,46,47,48,49,40,1,50,51,0,53,54,55,56,57,58,59,60,61,52,62,63,65,66,67,68,69,70,71,72,73,64,74,75,38,39] [1,0] (.two (.join [41,42,43,44,45,46,47,48,49,40,1,50,51,0,53,54,55,56,57,58,59,60,61,52,62,63,65,66,67,68,69,70,71,72,73,64,74,75,38,39] [1,0] (.one (.two (.join [41,42,43,44,45,46,47,48,49,40] [40] .leaf) (.join [1,50,51,0,53,54,55,56,57,58,59,60,61,52,62,63,65,66,67,68,69,70,71,72,73,64,74,75,38,39] [1,0] (.two (.two .leaf .leaf) (.two (.join [53,54,55,56,57,58,59,60,61,52] [52] .leaf) (.join [1,62,63,0,65,66,67,68,69,70,71,72,73,64,74,75,38,39] [1,0] (.two (.two .leaf .leaf) (.two (.join [65,66,67,68,69,70,71,72,73,64] [64] .leaf) (.join [1,74,75,0,38,39] [1,0] (.two (.two .leaf .leaf) (.two .leaf .leaf)))))))))))) .leaf)))) (.two .leaf .leaf)))))))) (.two (.two .leaf (.join [2,78,79,80,81,82,83,84,6,7] [2] (.two .leaf (.two (.jb [78,79,80,81,82,83] 83 .leaf) (.two (.two .leaf .leaf) .leaf))))) (.two .leaf (.two (.two .leaf (.join [91,90,10,93,92,86,87,88,89] [10] (.one (.two .leaf (.join [10,93,92,86,87,88,89] [10] (.two .leaf (.two .leaf (.join [10,86,87,88,89] [10] (.two .leaf .leaf))))))))) (.two .leaf (.two .leaf (.two .leaf (.two (.two .leaf (.one (.loop [102,103,104,15,16,107,108,109,110,111,106,12,113,114,115,116,117,118,112,119,120,122,123,124,125,126,127,128,129,121,130,131,132,133,105,6,7,134,135,136,137,138,139,140,141,142,143,144,145,146,147,13,148,149,150,151,17,152,153,154,155,156,157,158,159,160,161,162,163,101] [12,13,101] (.two .leaf (.two (.two .leaf .leaf) (.two (.join [103,104,15,16,107,108,109,110,111,106,12,113,114,115,116,117,118,112,119,120,122,123,124,125,126,127,128,129,121,130,131,132,133,105,6,7,134,135,136,137,138,139,140,141,142,143,144,145,146,147,13,148,149,150,151,17,152,153,154,155,156,157,158,159,160,161,162] [12,13] (.one (.two .leaf (.two .leaf (.two (.join [107,108,109,110,111,106,12,113,114,115,116,117,118,112,119,120,16,122,123,124,125,126,127,128,129,121,130,131,132,133,105,6,7] [12,16] (.one (.two (.join [107,108,109,110,111,106] [106] .leaf) (.two (.two .leaf .leaf) (.two (.join [113,114,115,116,117,118,112] [112] .leaf) (.join [119,120,16,122,123,124,125,126,127,128,129,121,130,131,132,133,105,6,7] [16] (.two .leaf (.two (.join [122,123,124,125,126,127,128,129,121] [121] .leaf) (.two .leaf (.two .leaf .leaf)))))))))) (.two (.two .leaf (.two (.two .leaf .leaf) .leaf)) (.two (.two .leaf (.two (.two .leaf .leaf) .leaf)) (.two .leaf (.two .leaf (.two (.two (.jb [152,153,154,155,156,157,158,159] 159 .leaf) (.two (.two .leaf .leaf) .leaf)) .leaf)))))))))) .leaf)))))) (.two (.two (.join [164,165,166,167,168,169] [169] .leaf) (.two (.two .leaf .leaf) .leaf)) (.two .leaf .leaf))))))))))))))
theorem gp (ω:Amb)(s_p base_p bitSize_p:Value)(h:Hp)(R:RT)(X:XT)(hk:cx ω s_p base_p bitSize_p h R X):aa Tryz.prog ω 147 [s_p,base_p,bitSize_p] h R X :=
 al (an:=gq) Tryz.func147 (by kernel_rfl) hk
end Go.Proofs.YtkeeboomikkojaaGreatDoor.Sx
set_option linter.unusedVariables false
set_option maxRecDepth 100000
namespace Go.Proofs.YtkeeboomikkojaaGreatDoor.Sx
open Go Go.Sx Go.Proofs
abbrev oy:Nat:=31
def gi (ω:Amb)(p_p s_p:Value)(h:Hp)(R:RT)(X:XT):Prop :=
 ∃J0:RT,
 (nnK p_p (asP p_p fun p4 =>
 ∃v5,ah h (Addr.add p4 0)=some v5 ∧
 bz v5 fun a6 l7 c8=>cond (decide (((l7:Int):Int) > 0))
 (nnK p_p (asP p_p fun p9 =>
 ∃v10,ah h (Addr.add p9 0)=some v10 ∧
 aI v10 fun a11 l12 c13=>0≤(0:Int)∧0 < (l12:Int)∧∃v14,ah h (Addr.add (Addr.add a11 (Int.toNat 0*4)) 0)=some v14 ∧
 asK .i64 v14 fun n15=>cond (n15 !=(2:Int))
 (nnK p_p (asP p_p fun p16 =>
 ∃v17,ah h (Addr.add p16 0)=some v17 ∧
 aI v17 fun a18 l19 c20=>0≤(0:Int)∧0 < (l19:Int)∧∃v21,ah h (Addr.add (Addr.add a18 (Int.toNat 0*4)) 2)=some v21 ∧
 asS v21 fun s22=>asS s_p fun s23=>J0 (.bool (s22.toList==s23.toList)) h))
 (J0 (.bool false) h)))
 (J0 (.bool false) h))) ∧
 ∀t4_1 (d2:Nat→Value) (h3:Hp),J0 t4_1 h3 →
 R t4_1 h3
def oC:Ann :=
 (.two .leaf (.two (.join [5,6,7,8,9,10,11,12,13,14,15,16,17,18,19,20,21,22,23,24,25,26,27,28,29,30,31,4] [4] .leaf) .leaf))
theorem oH (ω:Amb)(p_p s_p:Value)(h:Hp)(R:RT)(X:XT)(hk:gi ω p_p s_p h R X):aa Tryz.prog ω 31 [p_p,s_p] h R X :=
 al (an:=oC) Tryz.func31 (by kernel_rfl) hk
abbrev cu:Nat:=32
def eF (ω:Amb)(p_p code_p:Value)(h:Hp)(R:RT)(X:XT):Prop :=
 nnK p_p (asP p_p fun p0 =>
 ∃v1,ah h (Addr.add p0 1)=some v1 ∧
 nnK p_p (asP p_p fun p2 =>
 ∃v3,ah h (Addr.add p2 0)=some v3 ∧
 bz v3 fun a4 l5 c6=>∃J7:Value→RT,
 (cond (decide (((l5:Int):Int) > 0))
 (nnK p_p (asP p_p fun p12 =>
 ∃v13,ah h (Addr.add p12 0)=some v13 ∧
 aI v13 fun a14 l15 c16=>0≤(0:Int)∧0 < (l15:Int)∧∃v17,ah h (Addr.add (Addr.add a14 (Int.toNat 0*4)) 1)=some v17 ∧
 J7 v17 code_p h))
 (asK .i64 code_p fun n18=>∃J19:RT,
 (cond (n18==(5:Int))
 (J19 (.int .i64 6) h)
 (J19 code_p h)) ∧
 ∀code_20 (d21:Nat→Value) (h22:Hp),J19 code_20 h22 →
 J7 v1 code_20 h22)) ∧
 ∀at_8 code_9 (d10:Nat→Value) (h11:Hp),J7 at_8 code_9 h11 →
 bO code_9 (bO at_8 (X [⟨.iface 67 (.agg #[code_9,at_8]),false,false⟩] h11))))
def my:Ann :=
 (.two .leaf (.two (.two .leaf (.join [15,16,17,18,19,20,21,4,22,23,1] [4,1] (.two .leaf (.two .leaf (.join [1] [1] (.two .leaf .leaf)))))) .leaf))
theorem lW (ω:Amb)(p_p code_p:Value)(h:Hp)(R:RT)(X:XT)(hk:eF ω p_p code_p h R X):aa Tryz.prog ω 32 [p_p,code_p] h R X :=
 al (an:=my) Tryz.func32 (by kernel_rfl) hk
abbrev ke:Nat:=33
def dI (ω:Amb)(p_p:Value)(h:Hp)(R:RT)(X:XT):Prop :=
 nnK p_p (asP p_p fun p0 =>
 ∃v1,ah (h.push (.cells #[(.string ⟨#[]⟩),(.int .i64 0),(.slice none 0 0),(.slice none 0 0)] 41 (0,0))) (Addr.add p0 0)=some v1 ∧
 aI v1 fun a2 l3 c4=>0≤(0:Int)∧0 < (l3:Int)∧∃v5,ah (h.push (.cells #[(.string ⟨#[]⟩),(.int .i64 0),(.slice none 0 0),(.slice none 0 0)] 41 (0,0))) (Addr.add (Addr.add a2 (Int.toNat 0*4)) 1)=some v5 ∧
 bO v5 (4=4∧(∀u∈[(.string ⟨#[]⟩),v5,(.slice none 0 0),(.slice none 0 0)],one u)∧au (Array.push (h.push (.cells #[(.string ⟨#[]⟩),(.int .i64 0),(.slice none 0 0),(.slice none 0 0)] 41 (0,0))) (.cells #[(.string ⟨#[]⟩),(.int .i64 0),(.slice none 0 0),(.slice none 0 0)] 41 (0,0))) ⟨Array.size (h.push (.cells #[(.string ⟨#[]⟩),(.int .i64 0),(.slice none 0 0),(.slice none 0 0)] 41 (0,0))),0,none⟩ [(.string ⟨#[]⟩),v5,(.slice none 0 0),(.slice none 0 0)] fun h6 =>
 aa Tryz.prog ω 54 [p_p] h6 (fun r7 h8 =>
 aa Tryz.prog ω 55 [p_p] h8 (fun r9 h10 =>
 bO r9 (aE h10 (Addr.add ⟨Array.size (h.push (.cells #[(.string ⟨#[]⟩),(.int .i64 0),(.slice none 0 0),(.slice none 0 0)] 41 (0,0))),0,none⟩ 0) r9 fun h11 =>
 aa Tryz.prog ω 56 [p_p,(.slice (some ⟨h11.size,0,none⟩) 1 1)] (h11.push (.cells (List.toArray [(.string ⟨#[40]⟩)]) 9 (0,0))) (fun r12 h13 =>
 ∃(I14:Hp→Prop) (μ15:Hp→Nat),I14 h13∧∀(d16:Nat→Value) (h17:Hp),I14 h17 →
 aa Tryz.prog ω 31 [p_p,(.string ⟨#[41]⟩)] h17 (fun r18 h19 =>
 asB r18 fun b20=>cond (!b20)
 (∃v21,ah h19 (Addr.add ⟨Array.size (h.push (.cells #[(.string ⟨#[]⟩),(.int .i64 0),(.slice none 0 0),(.slice none 0 0)] 41 (0,0))),0,none⟩ 2)=some v21 ∧
 bz v21 fun a22 l23 c24=>∃J25:Hp→Prop,
 (cond (decide (((l23:Int):Int) > 0))
 (aa Tryz.prog ω 56 [p_p,(.slice (some ⟨h19.size,0,none⟩) 1 1)] (h19.push (.cells (List.toArray [(.string ⟨#[44]⟩)]) 9 (0,0))) (fun r28 h29 =>
 J25 h29) X)
 (J25 h19)) ∧
 ∀(d26:Nat→Value) (h27:Hp),J25 h27 →
 ∃v30,ah h27 (Addr.add ⟨Array.size (h.push (.cells #[(.string ⟨#[]⟩),(.int .i64 0),(.slice none 0 0),(.slice none 0 0)] 41 (0,0))),0,none⟩ 2)=some v30 ∧
 bz v30 fun a31 l32 c33=>∃J34:Hp→Prop,
 (cond ((l32:Int)==(6:Int))
 (aa Tryz.prog ω 32 [p_p,(.int .i64 8)] h27 (fun r37 h38 =>
 J34 h38) X)
 (J34 h27)) ∧
 ∀(d35:Nat→Value) (h36:Hp),J34 h36 →
 aa Tryz.prog ω 55 [p_p] h36 (fun r39 h40 =>
 ∃v41,ah h40 (Addr.add ⟨Array.size (h.push (.cells #[(.string ⟨#[]⟩),(.int .i64 0),(.slice none 0 0),(.slice none 0 0)] 41 (0,0))),0,none⟩ 2)=some v41 ∧
 aa Tryz.prog ω 57 [p_p] h40 (fun r42 h43 =>
 ah h43 (Addr.add ⟨Array.size (h.push (.cells #[(.string ⟨#[]⟩),(.int .i64 0),(.slice none 0 0),(.slice none 0 0)] 41 (0,0))),0,none⟩ 2)=some v41∧bO r39 (bO r42 (2=2∧ah (h43.push (.cells (List.toArray [r39,r42]) 32 (0,0))) (Addr.add ⟨Array.size (h.push (.cells #[(.string ⟨#[]⟩),(.int .i64 0),(.slice none 0 0),(.slice none 0 0)] 41 (0,0))),0,none⟩ 2)=some v41∧uo Tryz.prog 33 (h43.push (.cells (List.toArray [r39,r42]) 32 (0,0))) v41 (.slice (some ⟨h43.size,0,none⟩) 1 1) fun w44 h45 =>
 bO w44 (aE h45 (Addr.add ⟨Array.size (h.push (.cells #[(.string ⟨#[]⟩),(.int .i64 0),(.slice none 0 0),(.slice none 0 0)] 41 (0,0))),0,none⟩ 2) w44 fun h46 =>
 I14 h46∧μ15 h46 < μ15 h17)))) X) X)
 (aa Tryz.prog ω 54 [p_p] h19 (fun r47 h48 =>
 aa Tryz.prog ω 58 [p_p] h48 (fun r49 h50 =>
 bO r49 (aE h50 (Addr.add ⟨Array.size (h.push (.cells #[(.string ⟨#[]⟩),(.int .i64 0),(.slice none 0 0),(.slice none 0 0)] 41 (0,0))),0,none⟩ 3) r49 fun h51 =>
 ∃C52,aj h51 ⟨Array.size (h.push (.cells #[(.string ⟨#[]⟩),(.int .i64 0),(.slice none 0 0),(.slice none 0 0)] 41 (0,0))),0,none⟩ 4 C52 ∧
 C52.toArray.size=4∧(∀u∈C52.toArray.toList,one u)∧au h51 ⟨h.size,0,none⟩ C52.toArray.toList fun h53 =>
 ∃C54,aj h53 ⟨h.size,0,none⟩ 4 C54∧R (.agg C54.toArray) h53)) X) X)) X) X)) X) X))
def kv:Ann :=
 (.two .leaf (.two .leaf (.two .leaf (.two .leaf (.two .leaf (.two (.one (.loop [21,22,23,24,25,26,27,28,29,30,31,32,33,34,35,36,37,38,4,39,40,41,42,43,44,45,46,47] [] (.two (.two .leaf (.two .leaf .leaf)) (.one (.two (.two .leaf (.join [28,29,30] [] (.two .leaf .leaf))) (.two (.two .leaf (.join [35,36] [] (.two .leaf .leaf))) (.two .leaf (.plan [0,1,2,3,4,5,6,7,8,9])))))))) (.two .leaf (.two .leaf (.two .leaf .leaf)))))))))
theorem kA (ω:Amb)(p_p:Value)(h:Hp)(R:RT)(X:XT)(hk:dI ω p_p h R X):aa Tryz.prog ω 33 [p_p] h R X :=
 al (an:=kv) Tryz.func33 (by kernel_rfl) hk
abbrev cq:Nat:=54
def er (ω:Amb)(p_p:Value)(h:Hp)(R:RT)(X:XT):Prop :=
 nnK p_p (asP p_p fun p0 =>
 ∃v1,ah (h.push (.cells #[(.int .i64 0),(.int .i64 0),(.string ⟨#[]⟩),(.int .i64 0)] 100 (0,0))) (Addr.add p0 0)=some v1 ∧
 aI v1 fun a2 l3 c4=>0≤(0:Int)∧0 < (l3:Int)∧∃C5,aj (h.push (.cells #[(.int .i64 0),(.int .i64 0),(.string ⟨#[]⟩),(.int .i64 0)] 100 (0,0))) (Addr.add a2 (Int.toNat 0*4)) 4 C5 ∧
 C5.toArray.size=4∧(∀u∈C5.toArray.toList,one u)∧au (Array.push (h.push (.cells #[(.int .i64 0),(.int .i64 0),(.string ⟨#[]⟩),(.int .i64 0)] 100 (0,0))) (.cells #[(.int .i64 0),(.int .i64 0),(.string ⟨#[]⟩),(.int .i64 0)] 100 (0,0))) ⟨Array.size (h.push (.cells #[(.int .i64 0),(.int .i64 0),(.string ⟨#[]⟩),(.int .i64 0)] 100 (0,0))),0,none⟩ C5.toArray.toList fun h6 =>
 nnK p_p (asP p_p fun p7 =>
 ∃v8,ah h6 (Addr.add p7 0)=some v8 ∧
 bz v8 fun a9 l10 c11=>0≤(1:Int)∧(1:Int)≤(l10:Int)∧(l10:Int)≤(c11:Int)∧nnK p_p (asP p_p fun p12 =>
 aE h6 (Addr.add p12 0) (.slice (if c11=Int.toNat 1 then a9 else Option.map (fun y=>Addr.add y (Int.toNat 1*4)) a9) (Int.toNat (l10:Int) - Int.toNat 1) (c11 - Int.toNat 1)) fun h13 =>
 ∃C14,aj h13 ⟨Array.size (h.push (.cells #[(.int .i64 0),(.int .i64 0),(.string ⟨#[]⟩),(.int .i64 0)] 100 (0,0))),0,none⟩ 4 C14 ∧
 C14.toArray.size=4∧(∀u∈C14.toArray.toList,one u)∧au h13 ⟨h.size,0,none⟩ C14.toArray.toList fun h15 =>
 ∃C16,aj h15 ⟨h.size,0,none⟩ 4 C16∧R (.agg C16.toArray) h15)))
def lQ:Ann :=
 (.two .leaf (.two .leaf (.two .leaf (.two .leaf .leaf))))
theorem kY (ω:Amb)(p_p:Value)(h:Hp)(R:RT)(X:XT)(hk:er ω p_p h R X):aa Tryz.prog ω 54 [p_p] h R X :=
 al (an:=lQ) Tryz.func54 (by kernel_rfl) hk
abbrev lA:Nat:=55
def ez (ω:Amb)(p_p:Value)(h:Hp)(R:RT)(X:XT):Prop :=
 aa Tryz.prog ω 86 [p_p,(.int .i64 2)] h (fun r0 h1 =>
 asA r0 fun A2=>asO A2[2]? fun v3=>R v3 h1) X
def lK:Ann :=
 (.two .leaf (.two .leaf .leaf))
theorem mo (ω:Amb)(p_p:Value)(h:Hp)(R:RT)(X:XT)(hk:ez ω p_p h R X):aa Tryz.prog ω 55 [p_p] h R X :=
 al (an:=lK) Tryz.func55 (by kernel_rfl) hk
abbrev ey:Nat:=56
def eL (ω:Amb)(p_p l_p:Value)(h:Hp)(R:RT)(X:XT):Prop :=
 bz l_p fun a0 l1 c2=>∃(I3:RT) (μ4:Value→Hp→Nat),I3 (.int .i64 0) h∧∀t8_5 (d6:Nat→Value) (h7:Hp),I3 t8_5 h7 →
 asK .i64 t8_5 fun n8=>cond (decide ((n8:Int) < (l1:Int)))
 (aI l_p fun a9 l10 c11=>asI t8_5 fun n12=>0≤(n12:Int)∧n12 < (l10:Int)∧∃v13,ah h7 (Addr.add a9 (n12.toNat*1))=some v13 ∧
 aa Tryz.prog ω 31 [p_p,v13] h7 (fun r14 h15 =>
 asB r14 fun b16=>∃J17:Hp→Prop,
 (cond (!b16)
 (aa Tryz.prog ω 32 [p_p,(.int .i64 5)] h15 (fun r20 h21 =>
 J17 h21) X)
 (J17 h15)) ∧
 ∀(d18:Nat→Value) (h19:Hp),J17 h19 →
 aa Tryz.prog ω 54 [p_p] h19 (fun r22 h23 =>
 asK .i64 t8_5 fun n24=>I3 (.int .i64 (IntKind.wrap .i64 (n24+1))) h23∧μ4 (.int .i64 (IntKind.wrap .i64 (n24+1))) h23 < μ4 t8_5 h7) X) X)
 (R (.tuple #[]) h7)
def lp:Ann :=
 (.two .leaf (.one (.loop [9,10,11,5,12,13,14,15,16,17,18,19,20,8] [8] (.two .leaf (.two (.two .leaf .leaf) (.two (.one (.two .leaf (.two (.two .leaf (.join [16,17] [] (.two .leaf .leaf))) .leaf))) .leaf))))))
theorem lj (ω:Amb)(p_p l_p:Value)(h:Hp)(R:RT)(X:XT)(hk:eL ω p_p l_p h R X):aa Tryz.prog ω 56 [p_p,l_p] h R X :=
 al (an:=lp) Tryz.func56 (by kernel_rfl) hk
abbrev mZ:Nat:=57
def fL (ω:Amb)(p_p:Value)(h:Hp)(R:RT)(X:XT):Prop :=
 ∃(I0:RT) (μ1:Value→Hp→Nat),I0 (.string ⟨#[]⟩) h∧∀t_2 (d3:Nat→Value) (h4:Hp),I0 t_2 h4 →
 aa Tryz.prog ω 31 [p_p,(.string ⟨#[105,110,116]⟩)] h4 (fun r5 h6 =>
 asB r5 fun b7=>cond (!b7)
 (∃J8:RT,
 (aa Tryz.prog ω 31 [p_p,(.string ⟨#[115,101,110,100]⟩)] h6 (fun r12 h13 =>
 asB r12 fun b14=>cond (!b14)
 (aa Tryz.prog ω 31 [p_p,(.string ⟨#[114,101,99,118]⟩)] h13 (fun r15 h16 =>
 asB r15 fun b17=>J8 (.bool (!b17)) h16) X)
 (J8 (.bool false) h13)) X) ∧
 ∀t14_9 (d10:Nat→Value) (h11:Hp),J8 t14_9 h11 →
 ∃J18:Hp→Prop,
 (asB t14_9 fun b21=>cond b21
 (aa Tryz.prog ω 32 [p_p,(.int .i64 5)] h11 (fun r22 h23 =>
 J18 h23) X)
 (J18 h11)) ∧
 ∀(d19:Nat→Value) (h20:Hp),J18 h20 →
 asS t_2 fun s24=>∃J25:Hp→Prop,
 (cond ((s24.size:Int)==(3:Int))
 (aa Tryz.prog ω 32 [p_p,(.int .i64 7)] h20 (fun r28 h29 =>
 J25 h29) X)
 (J25 h20)) ∧
 ∀(d26:Nat→Value) (h27:Hp),J25 h27 →
 aa Tryz.prog ω 54 [p_p] h27 (fun r30 h31 =>
 asA r30 fun A32=>asO A32[2]? fun v33=>asS v33 fun s34=>0≤(((0:Nat):Int):Int)∧(((0:Nat):Int):Int)≤1∧1≤(s34.size:Int)∧asS t_2 fun s35=>s35.size+ByteArray.size (ByteArray.extract s34 (Int.toNat ((0:Nat):Int)) (Int.toNat 1))≤9223372036854775807∧I0 (.string (s35++(ByteArray.extract s34 (Int.toNat ((0:Nat):Int)) (Int.toNat 1)))) h31∧μ1 (.string (s35++(ByteArray.extract s34 (Int.toNat ((0:Nat):Int)) (Int.toNat 1)))) h31 < μ1 t_2 h4) X)
 (aa Tryz.prog ω 54 [p_p] h6 (fun r36 h37 =>
 asS t_2 fun s38=>s38.size+ByteArray.size ⟨#[105]⟩≤9223372036854775807∧R (.string (s38++⟨#[105]⟩)) h37) X)) X
def mH:Ann :=
 (.two .leaf (.two .leaf (.two (.one (.loop [4,5,6,7,8,9,10,11,12,13,14,15,16,17,18,19,20,21,22,23,24,25,26,27,3] [3] (.two (.two .leaf (.two .leaf .leaf)) (.one (.two (.two (.join [7,8,9,10,11,12,13,14] [14] .leaf) (.join [15,16] [] (.two .leaf .leaf))) (.two (.two .leaf (.join [20,21] [] (.two .leaf .leaf))) .leaf)))))) (.two .leaf (.two .leaf .leaf)))))
theorem mC (ω:Amb)(p_p:Value)(h:Hp)(R:RT)(X:XT)(hk:fL ω p_p h R X):aa Tryz.prog ω 57 [p_p] h R X :=
 al (an:=mH) Tryz.func57 (by kernel_rfl) hk
abbrev kI:Nat:=58
def dJ (ω:Amb)(p_p:Value)(h:Hp)(R:RT)(X:XT):Prop :=
 ∃J0:RT,
 (aa Tryz.prog ω 31 [p_p,(.string ⟨#[123]⟩)] h (fun r4 h5 =>
 asB r4 fun b6=>cond b6
 (nnK p_p (asP p_p fun p7 =>
 ∃v8,ah h5 (Addr.add p7 3)=some v8 ∧
 asK .i64 v8 fun n9=>J0 (.bool (n9==(8:Int))) h5))
 (J0 (.bool false) h5)) X) ∧
 ∀t12_1 (d2:Nat→Value) (h3:Hp),J0 t12_1 h3 →
 ∃J10:Hp→Prop,
 (asB t12_1 fun b13=>cond b13
 (aa Tryz.prog ω 32 [p_p,(.int .i64 7)] h3 (fun r14 h15 =>
 J10 h15) X)
 (J10 h3)) ∧
 ∀(d11:Nat→Value) (h12:Hp),J10 h12 →
 aa Tryz.prog ω 56 [p_p,(.slice (some ⟨h12.size,0,none⟩) 1 1)] (h12.push (.cells (List.toArray [(.string ⟨#[123]⟩)]) 9 (0,0))) (fun r16 h17 =>
 nnK p_p (asP p_p fun p18 =>
 ∃v19,ah h17 (Addr.add p18 3)=some v19 ∧
 asK .i64 v19 fun n20=>nnK p_p (asP p_p fun p21 =>
 aE h17 (Addr.add p21 3) (.int .i64 (IntKind.wrap .i64 (n20+1))) fun h22 =>
 ∃(I23:RT) (μ24:Value→Hp→Nat),I23 (.slice none 0 0) h22∧∀out_25 (d26:Nat→Value) (h27:Hp),I23 out_25 h27 →
 aa Tryz.prog ω 31 [p_p,(.string ⟨#[125]⟩)] h27 (fun r28 h29 =>
 asB r28 fun b30=>cond (!b30)
 (aa Tryz.prog ω 87 [p_p] h29 (fun r31 h32 =>
 asA r31 fun A33=>A33.size=9∧uo Tryz.prog 37 (h32.push (.cells (List.toArray (A33.toList++[])) 39 (0,0))) out_25 (.slice (some ⟨h32.size,0,none⟩) 1 1) fun w34 h35 =>
 I23 w34 h35∧μ24 w34 h35 < μ24 out_25 h27) X)
 (nnK p_p (asP p_p fun p36 =>
 ∃v37,ah h29 (Addr.add p36 3)=some v37 ∧
 asK .i64 v37 fun n38=>nnK p_p (asP p_p fun p39 =>
 aE h29 (Addr.add p39 3) (.int .i64 (IntKind.wrap .i64 (n38 - 1))) fun h40 =>
 aa Tryz.prog ω 54 [p_p] h40 (fun r41 h42 =>
 R out_25 h42) X)))) X))) X
def kF:Ann :=
 (.two .leaf (.two (.two (.join [4,5,6,7,8,9,10,11,12] [12] .leaf) (.join [13,14] [] (.two .leaf .leaf))) (.two .leaf (.two .leaf (.two .leaf (.two (.one (.loop [25,26,27,28,29,30,31,32,3] [3] (.two (.two .leaf (.two .leaf .leaf)) (.one .leaf)))) (.two .leaf (.two .leaf (.two .leaf .leaf)))))))))
theorem kj (ω:Amb)(p_p:Value)(h:Hp)(R:RT)(X:XT)(hk:dJ ω p_p h R X):aa Tryz.prog ω 58 [p_p] h R X :=
 al (an:=kF) Tryz.func58 (by kernel_rfl) hk
abbrev lB:Nat:=86
def eu (ω:Amb)(p_p k_p:Value)(h:Hp)(R:RT)(X:XT):Prop :=
 ∃β0:Bool,
 (nnK p_p (asP p_p fun p2 =>
 ∃v3,ah (h.push (.cells #[(.int .i64 0),(.int .i64 0),(.string ⟨#[]⟩),(.int .i64 0)] 100 (0,0))) (Addr.add p2 0)=some v3 ∧
 bz v3 fun a4 l5 c6=>cond ((l5:Int)==(0:Int))
 (((.bool true):Value)=.bool β0∧(h.push (.cells #[(.int .i64 0),(.int .i64 0),(.string ⟨#[]⟩),(.int .i64 0)] 100 (0,0)))=(h.push (.cells #[(.int .i64 0),(.int .i64 0),(.string ⟨#[]⟩),(.int .i64 0)] 100 (0,0))))
 (nnK p_p (asP p_p fun p7 =>
 ∃v8,ah (h.push (.cells #[(.int .i64 0),(.int .i64 0),(.string ⟨#[]⟩),(.int .i64 0)] 100 (0,0))) (Addr.add p7 0)=some v8 ∧
 aI v8 fun a9 l10 c11=>0≤(0:Int)∧0 < (l10:Int)∧∃v12,ah (h.push (.cells #[(.int .i64 0),(.int .i64 0),(.string ⟨#[]⟩),(.int .i64 0)] 100 (0,0))) (Addr.add (Addr.add a9 (Int.toNat 0*4)) 0)=some v12 ∧
 asK .i64 v12 fun n13=>asK .i64 k_p fun n14=>((.bool (n13 !=(n14:Int))):Value)=.bool β0∧(h.push (.cells #[(.int .i64 0),(.int .i64 0),(.string ⟨#[]⟩),(.int .i64 0)] 100 (0,0)))=(h.push (.cells #[(.int .i64 0),(.int .i64 0),(.string ⟨#[]⟩),(.int .i64 0)] 100 (0,0))))))) ∧
 ∀d1:Nat→Value,
 ∃J15:Hp→Prop,
 (cond β0
 (aa Tryz.prog ω 32 [p_p,(.int .i64 5)] (h.push (.cells #[(.int .i64 0),(.int .i64 0),(.string ⟨#[]⟩),(.int .i64 0)] 100 (0,0))) (fun r18 h19 =>
 J15 h19) X)
 (J15 (h.push (.cells #[(.int .i64 0),(.int .i64 0),(.string ⟨#[]⟩),(.int .i64 0)] 100 (0,0))))) ∧
 ∀(d16:Nat→Value) (h17:Hp),J15 h17 →
 aa Tryz.prog ω 54 [p_p] h17 (fun r20 h21 =>
 asA r20 fun A22=>A22.size=4∧(∀u∈A22.toList,one u)∧au h21 ⟨h.size,0,none⟩ A22.toList fun h23 =>
 ∃C24,aj h23 ⟨h.size,0,none⟩ 4 C24∧R (.agg C24.toArray) h23) X
def lI:Ann :=
 (.two .leaf (.two (.two (.jb [5,6,7,8,9,10,11,12,13,14,15,16,17,18,19,20,21] 21 .leaf) (.join [22,23] [] (.two .leaf .leaf))) (.two .leaf .leaf)))
theorem lr (ω:Amb)(p_p k_p:Value)(h:Hp)(R:RT)(X:XT)(hk:eu ω p_p k_p h R X):aa Tryz.prog ω 86 [p_p,k_p] h R X :=
 al (an:=lI) Tryz.func86 (by kernel_rfl) hk
abbrev me:Nat:=87
def eC (ω:Amb)(p_p:Value)(h:Hp)(R:RT)(X:XT):Prop :=
 ∃β0:Bool,
 (nnK p_p (asP p_p fun p2 =>
 ∃v3,ah (h.push (.cells #[(.int .i64 0),(.int .i64 0),(.string ⟨#[]⟩),(.string ⟨#[]⟩),(.string ⟨#[]⟩),(.int .i64 0),(.slice none 0 0),(.slice none 0 0),(.slice none 0 0)] 39 (0,0))) (Addr.add p2 0)=some v3 ∧
 bz v3 fun a4 l5 c6=>cond ((l5:Int)==(0:Int))
 (((.bool true):Value)=.bool β0∧(h.push (.cells #[(.int .i64 0),(.int .i64 0),(.string ⟨#[]⟩),(.string ⟨#[]⟩),(.string ⟨#[]⟩),(.int .i64 0),(.slice none 0 0),(.slice none 0 0),(.slice none 0 0)] 39 (0,0)))=(h.push (.cells #[(.int .i64 0),(.int .i64 0),(.string ⟨#[]⟩),(.string ⟨#[]⟩),(.string ⟨#[]⟩),(.int .i64 0),(.slice none 0 0),(.slice none 0 0),(.slice none 0 0)] 39 (0,0))))
 (nnK p_p (asP p_p fun p7 =>
 ∃v8,ah (h.push (.cells #[(.int .i64 0),(.int .i64 0),(.string ⟨#[]⟩),(.string ⟨#[]⟩),(.string ⟨#[]⟩),(.int .i64 0),(.slice none 0 0),(.slice none 0 0),(.slice none 0 0)] 39 (0,0))) (Addr.add p7 0)=some v8 ∧
 aI v8 fun a9 l10 c11=>0≤(0:Int)∧0 < (l10:Int)∧∃v12,ah (h.push (.cells #[(.int .i64 0),(.int .i64 0),(.string ⟨#[]⟩),(.string ⟨#[]⟩),(.string ⟨#[]⟩),(.int .i64 0),(.slice none 0 0),(.slice none 0 0),(.slice none 0 0)] 39 (0,0))) (Addr.add (Addr.add a9 (Int.toNat 0*4)) 0)=some v12 ∧
 asK .i64 v12 fun n13=>((.bool (n13 !=(1:Int))):Value)=.bool β0∧(h.push (.cells #[(.int .i64 0),(.int .i64 0),(.string ⟨#[]⟩),(.string ⟨#[]⟩),(.string ⟨#[]⟩),(.int .i64 0),(.slice none 0 0),(.slice none 0 0),(.slice none 0 0)] 39 (0,0)))=(h.push (.cells #[(.int .i64 0),(.int .i64 0),(.string ⟨#[]⟩),(.string ⟨#[]⟩),(.string ⟨#[]⟩),(.int .i64 0),(.slice none 0 0),(.slice none 0 0),(.slice none 0 0)] 39 (0,0))))))) ∧
 ∀d1:Nat→Value,
 ∃J14:Hp→Prop,
 (cond β0
 (aa Tryz.prog ω 32 [p_p,(.int .i64 5)] (h.push (.cells #[(.int .i64 0),(.int .i64 0),(.string ⟨#[]⟩),(.string ⟨#[]⟩),(.string ⟨#[]⟩),(.int .i64 0),(.slice none 0 0),(.slice none 0 0),(.slice none 0 0)] 39 (0,0))) (fun r17 h18 =>
 J14 h18) X)
 (J14 (h.push (.cells #[(.int .i64 0),(.int .i64 0),(.string ⟨#[]⟩),(.string ⟨#[]⟩),(.string ⟨#[]⟩),(.int .i64 0),(.slice none 0 0),(.slice none 0 0),(.slice none 0 0)] 39 (0,0))))) ∧
 ∀(d15:Nat→Value) (h16:Hp),J14 h16 →
 nnK p_p (asP p_p fun p19 =>
 ∃v20,ah h16 (Addr.add p19 0)=some v20 ∧
 aI v20 fun a21 l22 c23=>0≤(0:Int)∧0 < (l22:Int)∧∃v24,ah h16 (Addr.add (Addr.add a21 (Int.toNat 0*4)) 2)=some v24 ∧
 aa Tryz.prog ω 109 [(.slice (some ⟨h16.size,0,none⟩) 14 14),v24] (h16.push (.cells (List.toArray [(.string ⟨#[108,101,116]⟩),(.string ⟨#[115,101,116]⟩),(.string ⟨#[101,109,105,116]⟩),(.string ⟨#[99,104,97,110]⟩),(.string ⟨#[99,108,111,110,101]⟩),(.string ⟨#[115,101,110,100]⟩),(.string ⟨#[99,108,111,115,101]⟩),(.string ⟨#[97,98,97,110,100,111,110]⟩),(.string ⟨#[100,114,97,105,110]⟩),(.string ⟨#[115,112,97,119,110]⟩),(.string ⟨#[116,97,107,101]⟩),(.string ⟨#[102,111,114]⟩),(.string ⟨#[114,101,112,101,97,116]⟩),(.string ⟨#[105,102]⟩)]) 9 (0,0))) (fun r25 h26 =>
 asK .i64 r25 fun n27=>∃J28:Hp→Prop,
 (cond (decide ((n27:Int) < 0))
 (aa Tryz.prog ω 32 [p_p,(.int .i64 5)] h26 (fun r31 h32 =>
 J28 h32) X)
 (J28 h26)) ∧
 ∀(d29:Nat→Value) (h30:Hp),J28 h30 →
 nnK p_p (asP p_p fun p33 =>
 ∃v34,ah h30 (Addr.add p33 2)=some v34 ∧
 asK .i64 v34 fun n35=>∃J36:Hp→Prop,
 (cond (n35==(300:Int))
 (aa Tryz.prog ω 32 [p_p,(.int .i64 8)] h30 (fun r39 h40 =>
 J36 h40) X)
 (J36 h30)) ∧
 ∀(d37:Nat→Value) (h38:Hp),J36 h38 →
 nnK p_p (asP p_p fun p41 =>
 ∃v42,ah h38 (Addr.add p41 2)=some v42 ∧
 asK .i64 v42 fun n43=>nnK p_p (asP p_p fun p44 =>
 aE h38 (Addr.add p44 2) (.int .i64 (IntKind.wrap .i64 (n43+1))) fun h45 =>
 asK .i64 r25 fun n46=>aa Tryz.prog ω 54 [p_p] h45 (fun r47 h48 =>
 asA r47 fun A49=>asO A49[1]? fun v50=>bO v50 (9=9∧(∀u∈[(.int .i64 (IntKind.wrap .i64 (n46+1))),v50,(.string ⟨#[]⟩),(.string ⟨#[]⟩),(.string ⟨#[]⟩),(.int .i64 0),(.slice none 0 0),(.slice none 0 0),(.slice none 0 0)],one u)∧au (h48.push (.cells #[(.int .i64 0),(.int .i64 0),(.string ⟨#[]⟩),(.string ⟨#[]⟩),(.string ⟨#[]⟩),(.int .i64 0),(.slice none 0 0),(.slice none 0 0),(.slice none 0 0)] 39 (0,0))) ⟨h48.size,0,none⟩ [(.int .i64 (IntKind.wrap .i64 (n46+1))),v50,(.string ⟨#[]⟩),(.string ⟨#[]⟩),(.string ⟨#[]⟩),(.int .i64 0),(.slice none 0 0),(.slice none 0 0),(.slice none 0 0)] fun h51 =>
 ∃v52,ah h51 (Addr.add ⟨h48.size,0,none⟩ 0)=some v52 ∧
 asK .i64 v52 fun n53=>∃J54:RT,
 (cond (n53==(11:Int))
 (J54 (.bool (n53==(11:Int))) h51)
 (asK .i64 v52 fun n58=>∃J59:RT,
 (cond (n58==(12:Int))
 (J59 (.bool (n58==(12:Int))) h51)
 (asK .i64 v52 fun n63=>∃J64:RT,
 (cond (n63==(13:Int))
 (J64 (.bool (n63==(13:Int))) h51)
 (asK .i64 v52 fun n68=>J64 (.bool (n68==(14:Int))) h51)) ∧
 ∀t60_65 (d66:Nat→Value) (h67:Hp),J64 t60_65 h67 →
 J59 t60_65 h67)) ∧
 ∀t60_60 (d61:Nat→Value) (h62:Hp),J59 t60_60 h62 →
 J54 t60_60 h62)) ∧
 ∀t60_55 (d56:Nat→Value) (h57:Hp),J54 t60_55 h57 →
 asB t60_55 fun b69=>cond b69
 (aa Tryz.prog ω 110 [p_p,(.pointer (some ⟨h48.size,0,none⟩))] h57 (fun r70 h71 =>
 ∃C72,aj h71 ⟨h48.size,0,none⟩ 9 C72 ∧
 C72.toArray.size=9∧(∀u∈C72.toArray.toList,one u)∧au h71 ⟨h.size,0,none⟩ C72.toArray.toList fun h73 =>
 ∃C74,aj h73 ⟨h.size,0,none⟩ 9 C74∧R (.agg C74.toArray) h73) X)
 (aa Tryz.prog ω 111 [p_p,(.pointer (some ⟨h48.size,0,none⟩))] h57 (fun r75 h76 =>
 aa Tryz.prog ω 56 [p_p,(.slice (some ⟨h76.size,0,none⟩) 1 1)] (h76.push (.cells (List.toArray [(.string ⟨#[59]⟩)]) 9 (0,0))) (fun r77 h78 =>
 ∃C79,aj h78 ⟨h48.size,0,none⟩ 9 C79 ∧
 C79.toArray.size=9∧(∀u∈C79.toArray.toList,one u)∧au h78 ⟨h.size,0,none⟩ C79.toArray.toList fun h80 =>
 ∃C81,aj h80 ⟨h.size,0,none⟩ 9 C81∧R (.agg C81.toArray) h80) X) X))) X)))) X)
def lm:Ann :=
 (.two .leaf (.two (.two (.jb [6,7,8,9,10,11,12,13,14,15,16,17,18,19,20,21] 21 .leaf) (.join [22,23] [] (.two .leaf .leaf))) (.two .leaf (.two .leaf (.two (.two .leaf (.join [36,37] [] (.two .leaf .leaf))) (.two (.two .leaf (.join [43,44] [] (.two .leaf .leaf))) (.two .leaf (.two .leaf (.two (.two .leaf (.one (.two (.two .leaf (.join [62,60,63,64] [60] (.two .leaf (.two .leaf (.join [63,60,64] [60] (.two .leaf (.two .leaf (.join [64,60] [60] (.two .leaf .leaf))))))))) (.two (.two .leaf (.two .leaf .leaf)) .leaf)))) (.two .leaf (.two .leaf (.two .leaf .leaf))))))))))))
theorem lE (ω:Amb)(p_p:Value)(h:Hp)(R:RT)(X:XT)(hk:eC ω p_p h R X):aa Tryz.prog ω 87 [p_p] h R X :=
 al (an:=lm) Tryz.func87 (by kernel_rfl) hk
abbrev fb:Nat:=109
def bZ (ω:Amb)(s_p v_p:Value)(h:Hp)(R:RT)(X:XT):Prop :=
 bz s_p fun a0 l1 c2=>∃(I3:RT) (μ4:Value→Hp→Nat),I3 (.int .i64 0) h∧∀t8_5 (d6:Nat→Value) (h7:Hp),I3 t8_5 h7 →
 asK .i64 t8_5 fun n8=>cond (decide ((n8:Int) < (l1:Int)))
 (aI s_p fun a9 l10 c11=>asI t8_5 fun n12=>0≤(n12:Int)∧n12 < (l10:Int)∧∃v13,ah h7 (Addr.add a9 (n12.toNat*1))=some v13 ∧
 asS v_p fun s14=>asS v13 fun s15=>cond (s14.toList==s15.toList)
 (R t8_5 h7)
 (asK .i64 t8_5 fun n16=>I3 (.int .i64 (IntKind.wrap .i64 (n16+1))) h7∧μ4 (.int .i64 (IntKind.wrap .i64 (n16+1))) h7 < μ4 t8_5 h7))
 (R (.int .i64 (-1)) h7)
def eX:Ann :=
 (.two .leaf (.two (.two .leaf (.one (.loop [9,10,5,11,12,13,14,15,16,17,4,18,8] [8] (.two .leaf (.two (.two .leaf .leaf) (.two (.one (.two .leaf (.two .leaf (.two (.two .leaf .leaf) .leaf)))) .leaf)))))) (.two .leaf .leaf)))
theorem fc (ω:Amb)(s_p v_p:Value)(h:Hp)(R:RT)(X:XT)(hk:bZ ω s_p v_p h R X):aa Tryz.prog ω 109 [s_p,v_p] h R X :=
 al (an:=eX) Tryz.func109 (by kernel_rfl) hk
abbrev mm:Nat:=110
def eJ (ω:Amb)(p_p s_p:Value)(h:Hp)(R:RT)(X:XT):Prop :=
 ∃β0:Bool,
 (nnK s_p (asP s_p fun p2 =>
 ∃v3,ah h (Addr.add p2 0)=some v3 ∧
 asK .i64 v3 fun n4=>cond (n4==(11:Int))
 (((.bool true):Value)=.bool β0∧h=h)
 (nnK s_p (asP s_p fun p5 =>
 ∃v6,ah h (Addr.add p5 0)=some v6 ∧
 asK .i64 v6 fun n7=>((.bool (n7==(12:Int))):Value)=.bool β0∧h=h)))) ∧
 ∀d1:Nat→Value,
 ∃J8:Hp→Prop,
 (cond β0
 (aa Tryz.prog ω 55 [p_p] h (fun r11 h12 =>
 nnK s_p (asP s_p fun p13 =>
 bO r11 (aE h12 (Addr.add p13 2) r11 fun h14 =>
 aa Tryz.prog ω 56 [p_p,(.slice (some ⟨h14.size,0,none⟩) 1 1)] (h14.push (.cells (List.toArray [(.string ⟨#[102,114,111,109]⟩)]) 9 (0,0))) (fun r15 h16 =>
 aa Tryz.prog ω 55 [p_p] h16 (fun r17 h18 =>
 nnK s_p (asP s_p fun p19 =>
 bO r17 (aE h18 (Addr.add p19 3) r17 fun h20 =>
 J8 h20))) X) X))) X)
 (aa Tryz.prog ω 129 [p_p] h (fun r21 h22 =>
 asA r21 fun A23=>A23.size=4∧nnK s_p (asP s_p fun p24 =>
 aE (h22.push (.cells (List.toArray (A23.toList++[])) 36 (0,0))) (Addr.add p24 6) (.slice (some ⟨h22.size,0,none⟩) 1 1) fun h25 =>
 J8 h25)) X)) ∧
 ∀(d9:Nat→Value) (h10:Hp),J8 h10 →
 aa Tryz.prog ω 58 [p_p] h10 (fun r26 h27 =>
 nnK s_p (asP s_p fun p28 =>
 bO r26 (aE h27 (Addr.add p28 7) r26 fun h29 =>
 ∃β30:Bool,
 (nnK s_p (asP s_p fun p32 =>
 ∃v33,ah h29 (Addr.add p32 0)=some v33 ∧
 asK .i64 v33 fun n34=>cond (n34==(11:Int))
 (((.bool true):Value)=.bool β30∧h29=h29)
 (nnK s_p (asP s_p fun p35 =>
 ∃v36,ah h29 (Addr.add p35 0)=some v36 ∧
 asK .i64 v36 fun n37=>((.bool (n37==(14:Int))):Value)=.bool β30∧h29=h29)))) ∧
 ∀d31:Nat→Value,
 ∃J38:Hp→Prop,
 (cond β30
 (aa Tryz.prog ω 130 [p_p] h29 (fun r41 h42 =>
 nnK s_p (asP s_p fun p43 =>
 bO r41 (aE h42 (Addr.add p43 8) r41 fun h44 =>
 J38 h44))) X)
 (J38 h29)) ∧
 ∀(d39:Nat→Value) (h40:Hp),J38 h40 →
 R (.tuple #[]) h40))) X
def mc:Ann :=
 (.two (.two (.jb [4,5,6,7,8,9,10,11,12,13,14,15] 15 .leaf) (.join [16,17,18,19,20,21,22,23,24,25,26,27,28,29,30,31,32,33,34] [] (.two (.two .leaf (.two .leaf .leaf)) .leaf))) (.two .leaf (.two (.jb [40,41,42,43,44,45,46,47,48,49,50,51] 51 .leaf) (.join [52,53,54,55,56] [] (.two .leaf .leaf)))))
theorem lG (ω:Amb)(p_p s_p:Value)(h:Hp)(R:RT)(X:XT)(hk:eJ ω p_p s_p h R X):aa Tryz.prog ω 110 [p_p,s_p] h R X :=
 al (an:=mc) Tryz.func110 (by kernel_rfl) hk
abbrev jZ:Nat:=111
def dE (ω:Amb)(p_p s_p:Value)(h:Hp)(R:RT)(X:XT):Prop :=
 nnK s_p (asP s_p fun p0 =>
 ∃v1,ah h (Addr.add p0 0)=some v1 ∧
 asK .i64 v1 fun n2=>cond (n2==(3:Int))
 (aa Tryz.prog ω 129 [p_p] h (fun r3 h4 =>
 asA r3 fun A5=>A5.size=4∧nnK s_p (asP s_p fun p6 =>
 aE (h4.push (.cells (List.toArray (A5.toList++[])) 36 (0,0))) (Addr.add p6 6) (.slice (some ⟨h4.size,0,none⟩) 1 1) fun h7 =>
 R (.tuple #[]) h7)) X)
 (aa Tryz.prog ω 55 [p_p] h (fun r8 h9 =>
 nnK s_p (asP s_p fun p10 =>
 bO r8 (aE h9 (Addr.add p10 2) r8 fun h11 =>
 nnK s_p (asP s_p fun p12 =>
 ∃v13,ah h11 (Addr.add p12 0)=some v13 ∧
 ∃J14:Hp→Prop,
 (asK .i64 v13 fun n17=>∃J18:RT,
 (cond (n17==(1:Int))
 (J18 (.bool (n17==(1:Int))) h11)
 (asK .i64 v13 fun n22=>J18 (.bool (n22==(2:Int))) h11)) ∧
 ∀t25_19 (d20:Nat→Value) (h21:Hp),J18 t25_19 h21 →
 ∃J23:Hp→Prop,
 (asB t25_19 fun b26=>cond b26
 (aa Tryz.prog ω 56 [p_p,(.slice (some ⟨h21.size,0,none⟩) 1 1)] (h21.push (.cells (List.toArray [(.string ⟨#[61]⟩)]) 9 (0,0))) (fun r27 h28 =>
 aa Tryz.prog ω 129 [p_p] h28 (fun r29 h30 =>
 asA r29 fun A31=>A31.size=4∧nnK s_p (asP s_p fun p32 =>
 aE (h30.push (.cells (List.toArray (A31.toList++[])) 36 (0,0))) (Addr.add p32 6) (.slice (some ⟨h30.size,0,none⟩) 1 1) fun h33 =>
 J23 h33)) X) X)
 (asK .i64 v13 fun n34=>∃J35:Hp→Prop,
 (cond (n34==(4:Int))
 (aa Tryz.prog ω 55 [p_p] h21 (fun r38 h39 =>
 nnK s_p (asP s_p fun p40 =>
 bO r38 (aE h39 (Addr.add p40 3) r38 fun h41 =>
 aa Tryz.prog ω 57 [p_p] h41 (fun r42 h43 =>
 nnK s_p (asP s_p fun p44 =>
 bO r42 (aE h43 (Addr.add p44 4) r42 fun h45 =>
 aa Tryz.prog ω 86 [p_p,(.int .i64 3)] h45 (fun r46 h47 =>
 asA r46 fun A48=>asO A48[3]? fun v49=>nnK s_p (asP s_p fun p50 =>
 bO v49 (aE h47 (Addr.add p50 5) v49 fun h51 =>
 J35 h51))) X))) X))) X)
 (asK .i64 v13 fun n52=>∃J53:Hp→Prop,
 (cond (n52==(5:Int))
 (aa Tryz.prog ω 55 [p_p] h21 (fun r56 h57 =>
 nnK s_p (asP s_p fun p58 =>
 bO r56 (aE h57 (Addr.add p58 3) r56 fun h59 =>
 J53 h59))) X)
 (asK .i64 v13 fun n60=>∃J61:Hp→Prop,
 (cond (n60==(6:Int))
 (aa Tryz.prog ω 129 [p_p] h21 (fun r64 h65 =>
 asA r64 fun A66=>A66.size=4∧nnK s_p (asP s_p fun p67 =>
 aE (h65.push (.cells (List.toArray (A66.toList++[])) 36 (0,0))) (Addr.add p67 6) (.slice (some ⟨h65.size,0,none⟩) 1 1) fun h68 =>
 J61 h68)) X)
 (asK .i64 v13 fun n69=>∃J70:Hp→Prop,
 (cond (n69==(10:Int))
 (aa Tryz.prog ω 131 [p_p] h21 (fun r73 h74 =>
 nnK s_p (asP s_p fun p75 =>
 bO r73 (aE h74 (Addr.add p75 6) r73 fun h76 =>
 J70 h76))) X)
 (J70 h21)) ∧
 ∀(d71:Nat→Value) (h72:Hp),J70 h72 →
 J61 h72)) ∧
 ∀(d62:Nat→Value) (h63:Hp),J61 h63 →
 J53 h63)) ∧
 ∀(d54:Nat→Value) (h55:Hp),J53 h55 →
 J35 h55)) ∧
 ∀(d36:Nat→Value) (h37:Hp),J35 h37 →
 J23 h37)) ∧
 ∀(d24:Nat→Value) (h25:Hp),J23 h25 →
 J14 h25) ∧
 ∀(d15:Nat→Value) (h16:Hp),J14 h16 →
 R (.tuple #[]) h16)))) X))
def kw:Ann :=
 (.two (.two .leaf (.one (.two .leaf (.two (.two .leaf .leaf) .leaf)))) (.two .leaf (.two .leaf (.join [26,25,27,28,29,30,31,32,33,34,35,36,38,37,39,40,41,42,43,44,45,46,47,48,49,50,51,52,53,54,56,55,57,58,59,60,61,63,62,64,65,66,67,68,69,71,70,72,73,74,75,76] [] (.one (.two (.two .leaf (.join [27,25] [25] (.two .leaf .leaf))) (.join [28,29,30,31,32,33,34,35,36,38,37,39,40,41,42,43,44,45,46,47,48,49,50,51,52,53,54,56,55,57,58,59,60,61,63,62,64,65,66,67,68,69,71,70,72,73,74,75,76] [] (.two (.two .leaf .leaf) (.two .leaf (.join [39,40,41,42,43,44,45,46,47,48,49,50,51,52,53,54,56,55,57,58,59,60,61,63,62,64,65,66,67,68,69,71,70,72,73,74,75,76] [] (.two (.two .leaf (.two .leaf .leaf)) (.two .leaf (.join [57,58,59,60,61,63,62,64,65,66,67,68,69,71,70,72,73,74,75,76] [] (.two .leaf (.two .leaf (.join [64,65,66,67,68,69,71,70,72,73,74,75,76] [] (.two .leaf (.two .leaf (.join [72,73,74,75,76] [] (.two .leaf .leaf))))))))))))))))))))
theorem j6 (ω:Amb)(p_p s_p:Value)(h:Hp)(R:RT)(X:XT)(hk:dE ω p_p s_p h R X):aa Tryz.prog ω 111 [p_p,s_p] h R X :=
 al (an:=kw) Tryz.func111 (by kernel_rfl) hk
abbrev eE:Nat:=129
def eB (ω:Amb)(p_p:Value)(h:Hp)(R:RT)(X:XT):Prop :=
 nnK p_p (asP p_p fun p0 =>
 aE (h.push (.cells #[(.int .i64 0),(.string ⟨#[]⟩),(.int .i64 0),(.slice none 0 0)] 36 (0,0))) (Addr.add p0 5) (.int .i64 0) fun h1 =>
 nnK p_p (asP p_p fun p2 =>
 ∃v3,ah h1 (Addr.add p2 0)=some v3 ∧
 bz v3 fun a4 l5 c6=>∃J7:Hp→Prop,
 (cond ((l5:Int)==(0:Int))
 (aa Tryz.prog ω 32 [p_p,(.int .i64 5)] h1 (fun r10 h11 =>
 J7 h11) X)
 (J7 h1)) ∧
 ∀(d8:Nat→Value) (h9:Hp),J7 h9 →
 nnK p_p (asP p_p fun p12 =>
 ∃v13,ah h9 (Addr.add p12 0)=some v13 ∧
 aI v13 fun a14 l15 c16=>0≤(0:Int)∧0 < (l15:Int)∧∃v17,ah h9 (Addr.add (Addr.add a14 (Int.toNat 0*4)) 1)=some v17 ∧
 aa Tryz.prog ω 152 [p_p] h9 (fun r18 h19 =>
 asA r18 fun A20=>A20.size=4∧(∀u∈A20.toList,one u)∧au (h19.push (.cells #[(.int .i64 0),(.string ⟨#[]⟩),(.int .i64 0),(.slice none 0 0)] 36 (0,0))) ⟨h19.size,0,none⟩ A20.toList fun h21 =>
 nnK p_p (asP p_p fun p22 =>
 ∃v23,ah h21 (Addr.add p22 5)=some v23 ∧
 asK .i64 v23 fun n24=>∃J25:Hp→Prop,
 (cond (decide ((n24:Int) > 20))
 (bO v17 (X [⟨.iface 67 (.agg #[(.int .i64 8),v17]),false,false⟩] h21))
 (J25 h21)) ∧
 ∀(d26:Nat→Value) (h27:Hp),J25 h27 →
 ∃C28,aj h27 ⟨h19.size,0,none⟩ 4 C28 ∧
 C28.toArray.size=4∧(∀u∈C28.toArray.toList,one u)∧au h27 ⟨h.size,0,none⟩ C28.toArray.toList fun h29 =>
 ∃C30,aj h29 ⟨h.size,0,none⟩ 4 C30∧R (.agg C30.toArray) h29)) X)))
def lM:Ann :=
 (.two .leaf (.two .leaf (.two (.two .leaf (.join [14,15] [] (.two .leaf .leaf))) (.two .leaf (.two .leaf (.two (.two .leaf (.join [30,31,32] [] (.two .leaf .leaf))) (.two .leaf .leaf)))))))
theorem kZ (ω:Amb)(p_p:Value)(h:Hp)(R:RT)(X:XT)(hk:eB ω p_p h R X):aa Tryz.prog ω 129 [p_p] h R X :=
 al (an:=lM) Tryz.func129 (by kernel_rfl) hk
abbrev kD:Nat:=130
def dP (ω:Amb)(p_p:Value)(h:Hp)(R:RT)(X:XT):Prop :=
 aa Tryz.prog ω 31 [p_p,(.string ⟨#[101,108,115,101]⟩)] h (fun r0 h1 =>
 asB r0 fun b2=>cond (!b2)
 (R (.slice none 0 0) h1)
 (aa Tryz.prog ω 54 [p_p] h1 (fun r3 h4 =>
 aa Tryz.prog ω 58 [p_p] h4 (fun r5 h6 =>
 R r5 h6) X) X)) X
def j9:Ann :=
 (.two .leaf (.two (.two .leaf (.two (.two .leaf .leaf) .leaf)) (.two .leaf (.two .leaf .leaf))))
theorem j0 (ω:Amb)(p_p:Value)(h:Hp)(R:RT)(X:XT)(hk:dP ω p_p h R X):aa Tryz.prog ω 130 [p_p] h R X :=
 al (an:=j9) Tryz.func130 (by kernel_rfl) hk
abbrev ml:Nat:=131
def ew (ω:Amb)(p_p:Value)(h:Hp)(R:RT)(X:XT):Prop :=
 aa Tryz.prog ω 56 [p_p,(.slice (some ⟨h.size,0,none⟩) 1 1)] (h.push (.cells (List.toArray [(.string ⟨#[40]⟩)]) 9 (0,0))) (fun r0 h1 =>
 ∃(I2:RT) (μ3:Value→Hp→Nat),I2 (.slice none 0 0) h1∧∀out_4 (d5:Nat→Value) (h6:Hp),I2 out_4 h6 →
 aa Tryz.prog ω 31 [p_p,(.string ⟨#[41]⟩)] h6 (fun r7 h8 =>
 asB r7 fun b9=>cond (!b9)
 (bz out_4 fun a10 l11 c12=>∃J13:Hp→Prop,
 (cond (decide (((l11:Int):Int) > 0))
 (aa Tryz.prog ω 56 [p_p,(.slice (some ⟨h8.size,0,none⟩) 1 1)] (h8.push (.cells (List.toArray [(.string ⟨#[44]⟩)]) 9 (0,0))) (fun r16 h17 =>
 J13 h17) X)
 (J13 h8)) ∧
 ∀(d14:Nat→Value) (h15:Hp),J13 h15 →
 bz out_4 fun a18 l19 c20=>∃J21:Hp→Prop,
 (cond ((l19:Int)==(6:Int))
 (aa Tryz.prog ω 32 [p_p,(.int .i64 8)] h15 (fun r24 h25 =>
 J21 h25) X)
 (J21 h15)) ∧
 ∀(d22:Nat→Value) (h23:Hp),J21 h23 →
 aa Tryz.prog ω 129 [p_p] h23 (fun r26 h27 =>
 asA r26 fun A28=>A28.size=4∧uo Tryz.prog 34 (h27.push (.cells (List.toArray (A28.toList++[])) 36 (0,0))) out_4 (.slice (some ⟨h27.size,0,none⟩) 1 1) fun w29 h30 =>
 I2 w29 h30∧μ3 w29 h30 < μ3 out_4 h6) X)
 (aa Tryz.prog ω 54 [p_p] h8 (fun r31 h32 =>
 R out_4 h32) X)) X) X
def mb:Ann :=
 (.two .leaf (.two .leaf (.two .leaf (.two (.one (.loop [7,8,9,10,11,12,13,14,15,16,17,18,19,20,21,22,23,24,25,3] [3] (.two (.two .leaf (.two .leaf .leaf)) (.one (.two (.two .leaf (.join [13,14,15] [] (.two .leaf .leaf))) (.two (.two .leaf (.join [19,20] [] (.two .leaf .leaf))) .leaf)))))) (.two .leaf (.two .leaf .leaf))))))
theorem lY (ω:Amb)(p_p:Value)(h:Hp)(R:RT)(X:XT)(hk:ew ω p_p h R X):aa Tryz.prog ω 131 [p_p] h R X :=
 al (an:=mb) Tryz.func131 (by kernel_rfl) hk
abbrev bM:Nat:=152
def fk (ω:Amb)(p_p:Value)(h:Hp)(R:RT)(X:XT):Prop :=
 aa Tryz.prog ω 166 [p_p] (h.push (.cells #[(.int .i64 0),(.string ⟨#[]⟩),(.int .i64 0),(.slice none 0 0)] 36 (0,0))) (fun r0 h1 =>
 asA r0 fun A2=>A2.size=4∧(∀u∈A2.toList,one u)∧au (h1.push (.cells #[(.int .i64 0),(.string ⟨#[]⟩),(.int .i64 0),(.slice none 0 0)] 36 (0,0))) ⟨h1.size,0,none⟩ A2.toList fun h3 =>
 aa Tryz.prog ω 31 [p_p,(.string ⟨#[60]⟩)] h3 (fun r4 h5 =>
 asB r4 fun b6=>cond b6
 (aa Tryz.prog ω 54 [p_p] h5 (fun r7 h8 =>
 ∃C9,aj h8 ⟨h1.size,0,none⟩ 4 C9 ∧
 aa Tryz.prog ω 166 [p_p] h8 (fun r10 h11 =>
 aj h11 ⟨h1.size,0,none⟩ 4 C9∧aa Tryz.prog ω 167 [p_p,(.int .i64 7),(.agg C9.toArray),r10] h11 (fun r12 h13 =>
 asA r12 fun A14=>A14.size=4∧(∀u∈A14.toList,one u)∧au h13 ⟨h.size,0,none⟩ A14.toList fun h15 =>
 ∃C16,aj h15 ⟨h.size,0,none⟩ 4 C16∧R (.agg C16.toArray) h15) X) X) X)
 (aa Tryz.prog ω 31 [p_p,(.string ⟨#[61,61]⟩)] h5 (fun r17 h18 =>
 asB r17 fun b19=>cond b19
 (aa Tryz.prog ω 54 [p_p] h18 (fun r20 h21 =>
 ∃C22,aj h21 ⟨h1.size,0,none⟩ 4 C22 ∧
 aa Tryz.prog ω 166 [p_p] h21 (fun r23 h24 =>
 aj h24 ⟨h1.size,0,none⟩ 4 C22∧aa Tryz.prog ω 167 [p_p,(.int .i64 8),(.agg C22.toArray),r23] h24 (fun r25 h26 =>
 asA r25 fun A27=>A27.size=4∧(∀u∈A27.toList,one u)∧au h26 ⟨h.size,0,none⟩ A27.toList fun h28 =>
 ∃C29,aj h28 ⟨h.size,0,none⟩ 4 C29∧R (.agg C29.toArray) h28) X) X) X)
 (∃C30,aj h18 ⟨h1.size,0,none⟩ 4 C30 ∧
 C30.toArray.size=4∧(∀u∈C30.toArray.toList,one u)∧au h18 ⟨h.size,0,none⟩ C30.toArray.toList fun h31 =>
 ∃C32,aj h31 ⟨h.size,0,none⟩ 4 C32∧R (.agg C32.toArray) h31)) X)) X) X
def ns:Ann :=
 (.two .leaf (.two .leaf (.two (.one (.two .leaf (.two (.two .leaf (.two (.plan [0,1,2,3,4,5]) .leaf)) (.two .leaf (.two (.two .leaf (.two (.plan [0,1,2,3,4,5]) .leaf)) .leaf))))) (.two .leaf .leaf))))
theorem mV (ω:Amb)(p_p:Value)(h:Hp)(R:RT)(X:XT)(hk:fk ω p_p h R X):aa Tryz.prog ω 152 [p_p] h R X :=
 al (an:=ns) Tryz.func152 (by kernel_rfl) hk
abbrev bm:Nat:=166
def fy (ω:Amb)(p_p:Value)(h:Hp)(R:RT)(X:XT):Prop :=
 aa Tryz.prog ω 173 [p_p] (h.push (.cells #[(.int .i64 0),(.string ⟨#[]⟩),(.int .i64 0),(.slice none 0 0)] 36 (0,0))) (fun r0 h1 =>
 asA r0 fun A2=>A2.size=4∧(∀u∈A2.toList,one u)∧au (h1.push (.cells #[(.int .i64 0),(.string ⟨#[]⟩),(.int .i64 0),(.slice none 0 0)] 36 (0,0))) ⟨h1.size,0,none⟩ A2.toList fun h3 =>
 ∃(I4:Hp→Prop) (μ5:Hp→Nat),I4 h3∧∀(d6:Nat→Value) (h7:Hp),I4 h7 →
 ∃J8:RT,
 (aa Tryz.prog ω 31 [p_p,(.string ⟨#[43]⟩)] h7 (fun r12 h13 =>
 asB r12 fun b14=>cond b14
 (J8 (.bool true) h13)
 (aa Tryz.prog ω 31 [p_p,(.string ⟨#[45]⟩)] h13 (fun r15 h16 =>
 J8 r15 h16) X)) X) ∧
 ∀t12_9 (d10:Nat→Value) (h11:Hp),J8 t12_9 h11 →
 asB t12_9 fun b17=>cond b17
 (aa Tryz.prog ω 54 [p_p] h11 (fun r18 h19 =>
 asA r18 fun A20=>asO A20[2]? fun v21=>asS v21 fun s22=>∃J23:RT,
 (cond (s22.toList==ByteArray.toList ⟨#[45]⟩)
 (J23 (.int .i64 5) h19)
 (J23 (.int .i64 4) h19)) ∧
 ∀op_24 (d25:Nat→Value) (h26:Hp),J23 op_24 h26 →
 ∃C27,aj h26 ⟨h1.size,0,none⟩ 4 C27 ∧
 aa Tryz.prog ω 173 [p_p] h26 (fun r28 h29 =>
 aj h29 ⟨h1.size,0,none⟩ 4 C27∧aa Tryz.prog ω 167 [p_p,op_24,(.agg C27.toArray),r28] h29 (fun r30 h31 =>
 asA r30 fun A32=>A32.size=4∧(∀u∈A32.toList,one u)∧au h31 ⟨h1.size,0,none⟩ A32.toList fun h33 =>
 I4 h33∧μ5 h33 < μ5 h7) X) X) X)
 (∃C34,aj h11 ⟨h1.size,0,none⟩ 4 C34 ∧
 C34.toArray.size=4∧(∀u∈C34.toArray.toList,one u)∧au h11 ⟨h.size,0,none⟩ C34.toArray.toList fun h35 =>
 ∃C36,aj h35 ⟨h.size,0,none⟩ 4 C36∧R (.agg C36.toArray) h35)) X
def mT:Ann :=
 (.two .leaf (.two .leaf (.two (.one (.loop [7,8,9,10,11,12,4,13,14,15,16,17,18,19,20,21,22] [] (.two (.two (.join [7,8,9,10,11,12] [12] .leaf) (.two .leaf .leaf)) (.one (.two .leaf (.two (.two .leaf (.join [4] [4] (.two .leaf .leaf))) (.plan [0,1,2,3,4,5,6]))))))) (.two .leaf .leaf))))
theorem mS (ω:Amb)(p_p:Value)(h:Hp)(R:RT)(X:XT)(hk:fy ω p_p h R X):aa Tryz.prog ω 166 [p_p] h R X :=
 al (an:=mT) Tryz.func166 (by kernel_rfl) hk
abbrev cz:Nat:=167
def mM:Ann :=
 (.two .leaf (.two .leaf (.two .leaf .leaf)))
abbrev bP:Nat:=173
def cX (ω:Amb)(p_p:Value)(h:Hp)(R:RT)(X:XT):Prop :=
 aa Tryz.prog ω 176 [p_p] (h.push (.cells #[(.int .i64 0),(.string ⟨#[]⟩),(.int .i64 0),(.slice none 0 0)] 36 (0,0))) (fun r0 h1 =>
 asA r0 fun A2=>A2.size=4∧(∀u∈A2.toList,one u)∧au (h1.push (.cells #[(.int .i64 0),(.string ⟨#[]⟩),(.int .i64 0),(.slice none 0 0)] 36 (0,0))) ⟨h1.size,0,none⟩ A2.toList fun h3 =>
 ∃(I4:Hp→Prop) (μ5:Hp→Nat),I4 h3∧∀(d6:Nat→Value) (h7:Hp),I4 h7 →
 aa Tryz.prog ω 31 [p_p,(.string ⟨#[42]⟩)] h7 (fun r8 h9 =>
 asB r8 fun b10=>cond b10
 (aa Tryz.prog ω 54 [p_p] h9 (fun r11 h12 =>
 ∃C13,aj h12 ⟨h1.size,0,none⟩ 4 C13 ∧
 aa Tryz.prog ω 176 [p_p] h12 (fun r14 h15 =>
 aj h15 ⟨h1.size,0,none⟩ 4 C13∧aa Tryz.prog ω 167 [p_p,(.int .i64 6),(.agg C13.toArray),r14] h15 (fun r16 h17 =>
 asA r16 fun A18=>A18.size=4∧(∀u∈A18.toList,one u)∧au h17 ⟨h1.size,0,none⟩ A18.toList fun h19 =>
 I4 h19∧μ5 h19 < μ5 h7) X) X) X)
 (∃C20,aj h9 ⟨h1.size,0,none⟩ 4 C20 ∧
 C20.toArray.size=4∧(∀u∈C20.toArray.toList,one u)∧au h9 ⟨h.size,0,none⟩ C20.toArray.toList fun h21 =>
 ∃C22,aj h21 ⟨h.size,0,none⟩ 4 C22∧R (.agg C22.toArray) h21)) X) X
def iV:Ann :=
 (.two .leaf (.two .leaf (.two (.one (.loop [6,7,8,9,10,11,12,13,14] [] (.two (.two .leaf (.two .leaf .leaf)) (.one (.two .leaf (.plan [0,1,2,3,4,5])))))) (.two .leaf .leaf))))
theorem iX (ω:Amb)(p_p:Value)(h:Hp)(R:RT)(X:XT)(hk:cX ω p_p h R X):aa Tryz.prog ω 173 [p_p] h R X :=
 al (an:=iV) Tryz.func173 (by kernel_rfl) hk
def dv (ω:Amb)(t0_p:Value)(h:Hp)(R:RT)(X:XT):Prop :=
 asP t0_p fun p0 =>
 ∃v1,ah h p0=some v1 ∧
 nnK v1 (asP v1 fun p2 =>
 ∃v3,ah h (Addr.add p2 4)=some v3 ∧
 asK .i64 v3 fun n4=>nnK v1 (asP v1 fun p5 =>
 aE h (Addr.add p5 4) (.int .i64 (IntKind.wrap .i64 (n4 - 1))) fun h6 =>
 R (.tuple #[]) h6))
def dz:Ann :=
 .leaf
end Go.Proofs.YtkeeboomikkojaaGreatDoor.Sx
set_option linter.unusedVariables false
set_option maxRecDepth 100000
namespace Go.Proofs.YtkeeboomikkojaaGreatDoor.Sx
open Go Go.Sx Go.Proofs
def A4:List Value:=(cc [.int .i64 0,.string ⟨#[]⟩,.int .i64 0,.slice none 0 0] 2).toList
def Jl (C D:List Value):List Value:=(A4.take (0*4)++(C++A4.drop (0*4+4))).take (1*4)++(D++(A4.take (0*4)++(C++A4.drop (0*4+4))).drop (1*4+4))
def eg (ω:Amb)(p_p op_p a_p b_p:Value)(h:Hp)(R:RT)(X:XT):Prop :=
 nnK p_p (asP p_p fun p0 =>
 ∃v1,ah (Array.push (Array.push (h.push (.cells (Value.cells a_p) 36 (0,0))) (.cells (Value.cells b_p) 36 (0,0))) (.cells #[(.int .i64 0),(.string ⟨#[]⟩),(.int .i64 0),(.slice none 0 0)] 36 (0,0))) (Addr.add p0 5)=some v1 ∧
 asK .i64 v1 fun n2=>nnK p_p (asP p_p fun p3 =>
 aE (Array.push (Array.push (h.push (.cells (Value.cells a_p) 36 (0,0))) (.cells (Value.cells b_p) 36 (0,0))) (.cells #[(.int .i64 0),(.string ⟨#[]⟩),(.int .i64 0),(.slice none 0 0)] 36 (0,0))) (Addr.add p3 5) (.int .i64 (IntKind.wrap .i64 (n2+1))) fun h4 =>
 ∃C5,aj h4 ⟨h.size,0,none⟩ 4 C5 ∧
 ∃C6,aj h4 ⟨Array.size (h.push (.cells (Value.cells a_p) 36 (0,0))),0,none⟩ 4 C6 ∧
 C5.toArray.size=4∧C6.toArray.size=4∧bO op_p (4=4∧(∀u∈[op_p,(.string ⟨#[]⟩),(.int .i64 0),(.slice (some ⟨h4.size,0,none⟩) 2 2)],one u)∧au (h4.push (.cells (List.toArray (Jl C5.toArray.toList C6.toArray.toList)) 36 (0,0))) ⟨Array.size (Array.push (h.push (.cells (Value.cells a_p) 36 (0,0))) (.cells (Value.cells b_p) 36 (0,0))),0,none⟩ [op_p,(.string ⟨#[]⟩),(.int .i64 0),(.slice (some ⟨h4.size,0,none⟩) 2 2)] fun h7 =>
 ∃C8,aj h7 ⟨Array.size (Array.push (h.push (.cells (Value.cells a_p) 36 (0,0))) (.cells (Value.cells b_p) 36 (0,0))),0,none⟩ 4 C8∧R (.agg C8.toArray) h7)))
theorem lX (ω:Amb)(p_p op_p a_p b_p:Value)(h:Hp)(R:RT)(X:XT)(hk:eg ω p_p op_p a_p b_p h R X):aa Tryz.prog ω 167 [p_p,op_p,a_p,b_p] h R X :=
 al (an:=mM) Tryz.func167 (by kernel_rfl) hk
end Go.Proofs.YtkeeboomikkojaaGreatDoor.Sx
