import Derived.Test.YtkeeboomikkojaaGreatDoorSxCore
import Derived.KernelRfl
import Derived.Test.YtkeeboomikkojaaGreatDoorProg
set_option linter.unusedVariables false
set_option maxRecDepth 100000
namespace Go.Proofs.YtkeeboomikkojaaGreatDoor.Sx
open Go Go.Sx Go.Proofs
abbrev om:Nat:=9
def gI (ω:Amb)(p_p:Value)(h:Hp)(R:RT)(X:XT):Prop :=
 ∃v0,af (h.push (.cells (Value.cells p_p) 24 (0,0))) (Addr.add ⟨h.size,0,none⟩ 0)=some v0 ∧
 bR v0 fun a1 l2 c3=>cond (decide ((l2:Int) > 100))
 (R (.bool true) (h.push (.cells (Value.cells p_p) 24 (0,0))))
 (∃(I4:Value→RT) (μ5:Value→Value→Hp→Nat),I4 (.int .i64 8000) (.int .i64 0) (h.push (.cells (Value.cells p_p) 24 (0,0)))∧∀iz i_7 (d8:Nat→Value) (h9:Hp),I4 iz i_7 h9 →
 ∃v10,af h9 (Addr.add ⟨h.size,0,none⟩ 0)=some v10 ∧
 bR v10 fun a11 l12 c13=>asK .i64 i_7 fun n14=>cond (decide (n14 < (l12:Int)))
 (∃v15,af h9 (Addr.add ⟨h.size,0,none⟩ 0)=some v15 ∧
 aI v15 fun a16 l17 c18=>asI i_7 fun n19=>0≤n19∧n19 < (l17:Int)∧∃C20,aj h9 (Addr.add a16 (n19.toNat*4)) 4 C20 ∧
 C20.toArray.size=4∧(∀u∈C20.toArray.toList,one u)∧av (h9.push (.cells #[.string ⟨#[]⟩,.int .i64 0,.slice none 0 0,.slice none 0 0] 41 (0,0))) ⟨h9.size,0,none⟩ C20.toArray.toList fun h21 =>
 ∃β22:Bool,
 (∃v24,af h21 (Addr.add ⟨h9.size,0,none⟩ 0)=some v24 ∧
 asS v24 fun s25=>cond (decide (((s25.size:Int):Int) > 100))
 (((.bool true):Value)=.bool β22∧h21=h21)
 (∃v26,af h21 (Addr.add ⟨h9.size,0,none⟩ 2)=some v26 ∧
 bR v26 fun a27 l28 c29=>((.bool (decide ((l28:Int) > 100))):Value)=.bool β22∧h21=h21)) ∧
 ∀d23:Nat→Value,
 cond β22
 (R (.bool true) h21)
 (∃(I30:RT) (μ31:Value→Hp→Nat),I30 (.int .i64 0) h21∧∀MZ (d33:Nat→Value) (h34:Hp),I30 MZ h34 →
 ∃v35,af h34 (Addr.add ⟨h9.size,0,none⟩ 2)=some v35 ∧
 bR v35 fun a36 l37 c38=>asK .i64 MZ fun n39=>cond (decide (n39 < (l37:Int)))
 (∃β40:Bool,
 (∃v42,af h34 (Addr.add ⟨h9.size,0,none⟩ 2)=some v42 ∧
 aI v42 fun a43 l44 c45=>asI MZ fun n46=>0≤n46∧n46 < (l44:Int)∧∃v47,af h34 (Addr.add (Addr.add a43 (n46.toNat*2)) 0)=some v47 ∧
 asS v47 fun s48=>cond (decide (((s48.size:Int):Int) > 100))
 (((.bool true):Value)=.bool β40∧h34=h34)
 (∃v49,af h34 (Addr.add ⟨h9.size,0,none⟩ 2)=some v49 ∧
 aI v49 fun a50 l51 c52=>asI MZ fun n53=>0≤n53∧n53 < (l51:Int)∧∃v54,af h34 (Addr.add (Addr.add a50 (n53.toNat*2)) 1)=some v54 ∧
 asS v54 fun s55=>((.bool (decide (((s55.size:Int):Int) > 100))):Value)=.bool β40∧h34=h34)) ∧
 ∀d41:Nat→Value,
 cond β40
 (R (.bool true) h34)
 (asK .i64 MZ fun n56=>I30 (.int .i64 (IntKind.wrap .i64 (n56+1))) h34∧μ31 (.int .i64 (IntKind.wrap .i64 (n56+1))) h34 < μ31 MZ h34))
 (∃v57,af h34 (Addr.add ⟨h9.size,0,none⟩ 3)=some v57 ∧
 aa Tryz.prog ω 23 [v57,iz] h34 (fun r58 h59 =>
 asK .i64 r58 fun n60=>cond (decide (n60 < 0))
 (R (.bool true) h59)
 (asK .i64 i_7 fun n61=>I4 r58 (.int .i64 (IntKind.wrap .i64 (n61+1))) h59∧μ5 r58 (.int .i64 (IntKind.wrap .i64 (n61+1))) h59 < μ5 iz i_7 h9)) X)))
 (R (.bool false) h9))
def oB:Ann :=
 (.T .L (.T (.T .L (.T (.T .L .L) .L)) (.T .L (.T (.T .L (.one (.loop [11,12,13,14,15,18,19,20,21,22,5,23,24,25,26,27,28,29,30,31,32,2,6,33,34,35,36,37,40,41,42,43,44,45,46,47,48,49,50,51,52,53,54,55,56,57,38,39,58,59,60,61,3,62,63,16,17,4] [3,4] (.T (.T .L (.T .L .L)) (.T (.one (.T .L (.T (.T (.jb [23,24,25,26,27,28,29,30,31,32] 32 .L) (.T (.T .L .L) .L)) (.T (.T .L (.one (.loop [33,34,35,36,37,40,41,42,43,44,45,46,47,48,49,50,51,52,53,54,55,56,57,2,38,39,6] [6] (.T (.T .L (.T .L .L)) (.T (.one (.T (.jb [40,41,42,43,44,45,46,47,48,49,50,51,52,53,54,55,56,57] 57 .L) (.T (.T .L .L) .L))) .L))))) (.T .L (.T .L (.T (.T .L .L) .L))))))) .L))))) (.T .L .L)))))
theorem pi (ω:Amb)(p_p:Value)(h:Hp)(R:RT)(X:XT)(hk:gI ω p_p h R X):aa Tryz.prog ω 9 [p_p] h R X :=
 al (an:=oB) Tryz.func9 (by kernel_rfl) hk
abbrev jD:Nat:=23
def dB (ω:Amb)(l_p jP:Value)(h:Hp)(R:RT)(X:XT):Prop :=
 bR l_p fun a0 l1 c2=>asK .i64 jP fun n3=>∃(I4:Value→RT) (μ5:Value→Value→Hp→Nat),I4 (.int .i64 (IntKind.wrap .i64 (n3 - (l1:Int)))) (.int .i64 0) h∧∀iz i_7 (d8:Nat→Value) (h9:Hp),I4 iz i_7 h9 →
 ∃β10:Bool,
 (bR l_p fun a12 l13 c14=>asK .i64 i_7 fun n15=>cond (decide (n15 < (l13:Int)))
 (asK .i64 iz fun n16=>((.bool (decide (n16≥0))):Value)=.bool β10∧h9=h9)
 (((.bool false):Value)=.bool β10∧h9=h9)) ∧
 ∀d11:Nat→Value,
 cond β10
 (∃J17:RT,
 (aI l_p fun a21 l22 c23=>asI i_7 fun n24=>0≤n24∧n24 < (l22:Int)∧∃C25,aj h9 (Addr.add a21 (n24.toNat*9)) 9 C25 ∧
 C25.toArray.size=9∧(∀u∈C25.toArray.toList,one u)∧av (h9.push (.cells #[.int .i64 0,.int .i64 0,.string ⟨#[]⟩,.string ⟨#[]⟩,.string ⟨#[]⟩,.int .i64 0,.slice none 0 0,.slice none 0 0,.slice none 0 0] 39 (0,0))) ⟨h9.size,0,none⟩ C25.toArray.toList fun h26 =>
 ∃β27:Bool,
 (∃v29,af h26 (Addr.add ⟨h9.size,0,none⟩ 2)=some v29 ∧
 asS v29 fun s30=>cond (decide (((s30.size:Int):Int) > 100))
 (((.bool true):Value)=.bool β27∧h26=h26)
 (∃v31,af h26 (Addr.add ⟨h9.size,0,none⟩ 3)=some v31 ∧
 asS v31 fun s32=>cond (decide (((s32.size:Int):Int) > 100))
 (((.bool true):Value)=.bool β27∧h26=h26)
 (∃v33,af h26 (Addr.add ⟨h9.size,0,none⟩ 4)=some v33 ∧
 asS v33 fun s34=>((.bool (decide (((s34.size:Int):Int) > 100))):Value)=.bool β27∧h26=h26))) ∧
 ∀d28:Nat→Value,
 cond β27
 (R (.int .i64 (-1)) h26)
 (∃v35,af h26 (Addr.add ⟨h9.size,0,none⟩ 6)=some v35 ∧
 aa Tryz.prog ω 45 [v35,iz] h26 (fun r36 h37 =>
 asK .i64 r36 fun n38=>∃J39:RT,
 (cond (decide (n38≥0))
 (∃v43,af h37 (Addr.add ⟨h9.size,0,none⟩ 7)=some v43 ∧
 aa Tryz.prog ω 23 [v43,r36] h37 (fun r44 h45 =>
 J39 r44 h45) X)
 (J39 r36 h37)) ∧
 ∀xy (d41:Nat→Value) (h42:Hp),J39 xy h42 →
 asK .i64 xy fun n46=>∃J47:RT,
 (cond (decide (n46≥0))
 (∃v51,af h42 (Addr.add ⟨h9.size,0,none⟩ 8)=some v51 ∧
 aa Tryz.prog ω 23 [v51,xy] h42 (fun r52 h53 =>
 J47 r52 h53) X)
 (J47 xy h42)) ∧
 ∀GZ (d49:Nat→Value) (h50:Hp),J47 GZ h50 →
 J17 GZ h50) X)) ∧
 ∀A4 (d19:Nat→Value) (h20:Hp),J17 A4 h20 →
 asK .i64 i_7 fun n54=>I4 A4 (.int .i64 (IntKind.wrap .i64 (n54+1))) h20∧μ5 A4 (.int .i64 (IntKind.wrap .i64 (n54+1))) h20 < μ5 iz i_7 h9)
 (R iz h9)
def jw:Ann :=
 (.T .L (.T .L (.T (.T .L (.one (.loop [11,12,13,14,15,16,17,18,21,22,23,24,6,25,26,27,28,29,30,31,32,33,34,35,36,37,38,39,40,4,41,42,43,44,1,45,46,47,48,49,50,51,52,53,54,55,56,19,20,5] [1,5] (.T (.T (.jb [11,12,13,14,15,16,17,18] 18 .L) (.T .L .L)) (.T (.join [21,22,23,24,6,25,26,27,28,29,30,31,32,33,34,35,36,37,38,39,40,4,41,42,43,44,1,45,46,47,48,49,50,51,52,53,54,55,56] [1] (.one (.T .L (.T (.T (.jb [25,26,27,28,29,30,31,32,33,34,35,36,37,38,39,40] 40 .L) (.T (.T .L .L) .L)) (.T .L (.T (.T .L (.join [47,48,49,50,1] [1] (.T .L .L))) (.T .L (.join [53,54,55,56,1] [1] (.T .L .L))))))))) .L))))) (.T .L .L))))
theorem jl (ω:Amb)(l_p jP:Value)(h:Hp)(R:RT)(X:XT)(hk:dB ω l_p jP h R X):aa Tryz.prog ω 23 [l_p,jP] h R X :=
 al (an:=jw) Tryz.func23 (by kernel_rfl) hk
abbrev xb:Nat:=28
def rP (ω:Amb)(t_p rS:Value)(h:Hp)(R:RT)(X:XT):Prop :=
 asS t_p fun s0=>∃β1:Bool,
 (cond (decide (((IntKind.wrap .i64 ((s0.size:Int) - 1)):Int) < 0))
 (((.bool true):Value)=.bool β1∧h=h)
 (asK .i64 rS fun n3=>cond (decide (((IntKind.wrap .i64 ((s0.size:Int) - 1)):Int) > n3))
 (((.bool true):Value)=.bool β1∧h=h)
 (asS t_p fun s4=>0≤((IntKind.wrap .i64 ((s0.size:Int) - 1)):Int)∧(IntKind.wrap .i64 ((s0.size:Int) - 1)) < (s4.size:Int)∧((.bool ((aU s4 (IntKind.wrap .i64 ((s0.size:Int) - 1))) !=(105:Int))):Value)=.bool β1∧h=h))) ∧
 ∀d2:Nat→Value,
 cond β1
 (R (.bool false) h)
 (∃(I5:RT) (μ6:Value→Hp→Nat),I5 (.int .i64 0) h∧∀DQ (d8:Nat→Value) (h9:Hp),I5 DQ h9 →
 asK .i64 DQ fun n10=>cond (decide (n10 < (IntKind.wrap .i64 ((s0.size:Int) - 1))))
 (∃β11:Bool,
 (asS t_p fun s13=>asI DQ fun n14=>0≤n14∧n14 < (s13.size:Int)∧cond ((aU s13 n14) !=(115:Int))
 (asS t_p fun s15=>asI DQ fun n16=>0≤n16∧n16 < (s15.size:Int)∧((.bool ((aU s15 n16) !=(114:Int))):Value)=.bool β11∧h9=h9)
 (((.bool false):Value)=.bool β11∧h9=h9)) ∧
 ∀d12:Nat→Value,
 cond β11
 (R (.bool false) h9)
 (asK .i64 DQ fun n17=>I5 (.int .i64 (IntKind.wrap .i64 (n17+1))) h9∧μ6 (.int .i64 (IntKind.wrap .i64 (n17+1))) h9 < μ6 DQ h9))
 (R (.bool true) h9))
def wN:Ann :=
 (.T .L (.T .L (.T (.T (.jb [10,11,12,13,14,15,16,17,18,19,20,21,22] 22 .L) (.T (.T .L .L) .L)) (.T (.T .L (.one (.loop [25,26,6,27,28,29,30,31,32,33,34,35,36,4,37,24] [24] (.T .L (.T (.T .L .L) (.T (.one (.T .L (.T (.jb [27,28,29,30,31,32,33,34,35,36] 36 .L) (.T (.T .L .L) .L)))) .L)))))) (.T .L .L)))))
theorem xc (ω:Amb)(t_p rS:Value)(h:Hp)(R:RT)(X:XT)(hk:rP ω t_p rS h R X):aa Tryz.prog ω 28 [t_p,rS] h R X :=
 al (an:=wN) Tryz.func28 (by kernel_rfl) hk
abbrev ju:Nat:=45
def dA (ω:Amb)(l_p jP:Value)(h:Hp)(R:RT)(X:XT):Prop :=
 bR l_p fun a0 l1 c2=>asK .i64 jP fun n3=>∃(I4:Value→RT) (μ5:Value→Value→Hp→Nat),I4 (.int .i64 (IntKind.wrap .i64 (n3 - (l1:Int)))) (.int .i64 0) h∧∀iz i_7 (d8:Nat→Value) (h9:Hp),I4 iz i_7 h9 →
 ∃β10:Bool,
 (bR l_p fun a12 l13 c14=>asK .i64 i_7 fun n15=>cond (decide (n15 < (l13:Int)))
 (asK .i64 iz fun n16=>((.bool (decide (n16≥0))):Value)=.bool β10∧h9=h9)
 (((.bool false):Value)=.bool β10∧h9=h9)) ∧
 ∀d11:Nat→Value,
 cond β10
 (aI l_p fun a17 l18 c19=>asI i_7 fun n20=>0≤n20∧n20 < (l18:Int)∧∃v21,af h9 (Addr.add (Addr.add a17 (n20.toNat*4)) 1)=some v21 ∧
 asS v21 fun s22=>cond (decide (((s22.size:Int):Int) > 100))
 (R (.int .i64 (-1)) h9)
 (aI l_p fun a23 l24 c25=>asI i_7 fun n26=>0≤n26∧n26 < (l24:Int)∧∃v27,af h9 (Addr.add (Addr.add a23 (n26.toNat*4)) 3)=some v27 ∧
 aa Tryz.prog ω 45 [v27,iz] h9 (fun r28 h29 =>
 asK .i64 i_7 fun n30=>I4 r28 (.int .i64 (IntKind.wrap .i64 (n30+1))) h29∧μ5 r28 (.int .i64 (IntKind.wrap .i64 (n30+1))) h29 < μ5 iz i_7 h9) X))
 (R iz h9)
def jy:Ann :=
 (.T .L (.T .L (.T (.T .L (.one (.loop [10,11,12,13,14,15,16,17,20,21,22,23,24,25,26,4,27,28,29,30,31,32,33,1,18,19,5] [1,5] (.T (.T (.jb [10,11,12,13,14,15,16,17] 17 .L) (.T .L .L)) (.T (.one (.T (.T .L (.T (.T .L .L) .L)) .L)) .L))))) (.T .L .L))))
theorem jj (ω:Amb)(l_p jP:Value)(h:Hp)(R:RT)(X:XT)(hk:dA ω l_p jP h R X):aa Tryz.prog ω 45 [l_p,jP] h R X :=
 al (an:=jy) Tryz.func45 (by kernel_rfl) hk
abbrev vh:Nat:=80
def qh (ω:Amb)(c_p:Value)(h:Hp)(R:RT)(X:XT):Prop :=
 ∃J0:RT,
 (asK .u8 c_p fun n4=>cond (decide (n4≥97))
 (asK .u8 c_p fun n5=>J0 (.bool (decide (n5≤122))) h)
 (J0 (.bool false) h)) ∧
 ∀HM (d2:Nat→Value) (h3:Hp),J0 HM h3 →
 R HM h3
def vD:Ann :=
 (.T .L (.T (.join [3,4,5,6,7,8,2] [2] .L) .L))
theorem vJ (ω:Amb)(c_p:Value)(h:Hp)(R:RT)(X:XT)(hk:qh ω c_p h R X):aa Tryz.prog ω 80 [c_p] h R X :=
 al (an:=vD) Tryz.func80 (by kernel_rfl) hk
abbrev zD:Nat:=82
def sP (ω:Amb)(s_p:Value)(h:Hp)(R:RT)(X:XT):Prop :=
 asS s_p fun s0=>∃J1:RT,
 (cond (s0.toList==ByteArray.toList ⟨#[97,98,97,110,100,111,110]⟩)
 (J1 (.bool (s0.toList==ByteArray.toList ⟨#[97,98,97,110,100,111,110]⟩)) h)
 (asS s_p fun s5=>∃J6:RT,
 (cond (s5.toList==ByteArray.toList ⟨#[99,104,97,110]⟩)
 (J6 (.bool (s5.toList==ByteArray.toList ⟨#[99,104,97,110]⟩)) h)
 (asS s_p fun s10=>∃J11:RT,
 (cond (s10.toList==ByteArray.toList ⟨#[99,108,111,110,101]⟩)
 (J11 (.bool (s10.toList==ByteArray.toList ⟨#[99,108,111,110,101]⟩)) h)
 (asS s_p fun s15=>∃J16:RT,
 (cond (s15.toList==ByteArray.toList ⟨#[99,108,111,115,101]⟩)
 (J16 (.bool (s15.toList==ByteArray.toList ⟨#[99,108,111,115,101]⟩)) h)
 (asS s_p fun s20=>∃J21:RT,
 (cond (s20.toList==ByteArray.toList ⟨#[100,114,97,105,110]⟩)
 (J21 (.bool (s20.toList==ByteArray.toList ⟨#[100,114,97,105,110]⟩)) h)
 (asS s_p fun s25=>∃J26:RT,
 (cond (s25.toList==ByteArray.toList ⟨#[101,108,115,101]⟩)
 (J26 (.bool (s25.toList==ByteArray.toList ⟨#[101,108,115,101]⟩)) h)
 (asS s_p fun s30=>∃J31:RT,
 (cond (s30.toList==ByteArray.toList ⟨#[101,109,105,116]⟩)
 (J31 (.bool (s30.toList==ByteArray.toList ⟨#[101,109,105,116]⟩)) h)
 (asS s_p fun s35=>∃J36:RT,
 (cond (s35.toList==ByteArray.toList ⟨#[102,111,114]⟩)
 (J36 (.bool (s35.toList==ByteArray.toList ⟨#[102,111,114]⟩)) h)
 (asS s_p fun s40=>∃J41:RT,
 (cond (s40.toList==ByteArray.toList ⟨#[102,114,111,109]⟩)
 (J41 (.bool (s40.toList==ByteArray.toList ⟨#[102,114,111,109]⟩)) h)
 (asS s_p fun s45=>∃J46:RT,
 (cond (s45.toList==ByteArray.toList ⟨#[105,102]⟩)
 (J46 (.bool (s45.toList==ByteArray.toList ⟨#[105,102]⟩)) h)
 (asS s_p fun s50=>∃J51:RT,
 (cond (s50.toList==ByteArray.toList ⟨#[105,110,116]⟩)
 (J51 (.bool (s50.toList==ByteArray.toList ⟨#[105,110,116]⟩)) h)
 (asS s_p fun s55=>∃J56:RT,
 (cond (s55.toList==ByteArray.toList ⟨#[108,101,116]⟩)
 (J56 (.bool (s55.toList==ByteArray.toList ⟨#[108,101,116]⟩)) h)
 (asS s_p fun s60=>∃J61:RT,
 (cond (s60.toList==ByteArray.toList ⟨#[114,101,99,118]⟩)
 (J61 (.bool (s60.toList==ByteArray.toList ⟨#[114,101,99,118]⟩)) h)
 (asS s_p fun s65=>∃J66:RT,
 (cond (s65.toList==ByteArray.toList ⟨#[114,101,112,101,97,116]⟩)
 (J66 (.bool (s65.toList==ByteArray.toList ⟨#[114,101,112,101,97,116]⟩)) h)
 (asS s_p fun s70=>∃J71:RT,
 (cond (s70.toList==ByteArray.toList ⟨#[115,101,110,100]⟩)
 (J71 (.bool (s70.toList==ByteArray.toList ⟨#[115,101,110,100]⟩)) h)
 (asS s_p fun s75=>∃J76:RT,
 (cond (s75.toList==ByteArray.toList ⟨#[115,101,116]⟩)
 (J76 (.bool (s75.toList==ByteArray.toList ⟨#[115,101,116]⟩)) h)
 (asS s_p fun s80=>∃J81:RT,
 (cond (s80.toList==ByteArray.toList ⟨#[115,112,97,119,110]⟩)
 (J81 (.bool (s80.toList==ByteArray.toList ⟨#[115,112,97,119,110]⟩)) h)
 (asS s_p fun s85=>∃J86:RT,
 (cond (s85.toList==ByteArray.toList ⟨#[115,116,97,103,101]⟩)
 (J86 (.bool (s85.toList==ByteArray.toList ⟨#[115,116,97,103,101]⟩)) h)
 (asS s_p fun s90=>J86 (.bool (s90.toList==ByteArray.toList ⟨#[116,97,107,101]⟩)) h)) ∧
 ∀N5 (d88:Nat→Value) (h89:Hp),J86 N5 h89 →
 J81 N5 h89)) ∧
 ∀Oz (d83:Nat→Value) (h84:Hp),J81 Oz h84 →
 J76 Oz h84)) ∧
 ∀Oh (d78:Nat→Value) (h79:Hp),J76 Oh h79 →
 J71 Oh h79)) ∧
 ∀NI (d73:Nat→Value) (h74:Hp),J71 NI h74 →
 J66 NI h74)) ∧
 ∀Om (d68:Nat→Value) (h69:Hp),J66 Om h69 →
 J61 Om h69)) ∧
 ∀ON (d63:Nat→Value) (h64:Hp),J61 ON h64 →
 J56 ON h64)) ∧
 ∀NJ (d58:Nat→Value) (h59:Hp),J56 NJ h59 →
 J51 NJ h59)) ∧
 ∀Nv (d53:Nat→Value) (h54:Hp),J51 Nv h54 →
 J46 Nv h54)) ∧
 ∀M9 (d48:Nat→Value) (h49:Hp),J46 M9 h49 →
 J41 M9 h49)) ∧
 ∀Og (d43:Nat→Value) (h44:Hp),J41 Og h44 →
 J36 Og h44)) ∧
 ∀Nz (d38:Nat→Value) (h39:Hp),J36 Nz h39 →
 J31 Nz h39)) ∧
 ∀NE (d33:Nat→Value) (h34:Hp),J31 NE h34 →
 J26 NE h34)) ∧
 ∀Nq (d28:Nat→Value) (h29:Hp),J26 Nq h29 →
 J21 Nq h29)) ∧
 ∀Oo (d23:Nat→Value) (h24:Hp),J21 Oo h24 →
 J16 Oo h24)) ∧
 ∀Nf (d18:Nat→Value) (h19:Hp),J16 Nf h19 →
 J11 Nf h19)) ∧
 ∀Ng (d13:Nat→Value) (h14:Hp),J11 Ng h14 →
 J6 Ng h14)) ∧
 ∀t4_7 (d8:Nat→Value) (h9:Hp),J6 t4_7 h9 →
 J1 t4_7 h9)) ∧
 ∀NW (d3:Nat→Value) (h4:Hp),J1 NW h4 →
 asB NW fun b91=>cond b91
 (R (.bool true) h4)
 (R (.bool false) h4)
def zf:Ann :=
 (.T .L (.T (.T .L (.one (.T (.T .L (.join [6,4,7,8,9,10,11,12,13,14,15,16,17,18,19,20,21,22,23] [4] (.T .L (.T .L (.join [7,4,8,9,10,11,12,13,14,15,16,17,18,19,20,21,22,23] [4] (.T .L (.T .L (.join [8,4,9,10,11,12,13,14,15,16,17,18,19,20,21,22,23] [4] (.T .L (.T .L (.join [9,4,10,11,12,13,14,15,16,17,18,19,20,21,22,23] [4] (.T .L (.T .L (.join [10,4,11,12,13,14,15,16,17,18,19,20,21,22,23] [4] (.T .L (.T .L (.join [11,4,12,13,14,15,16,17,18,19,20,21,22,23] [4] (.T .L (.T .L (.join [12,4,13,14,15,16,17,18,19,20,21,22,23] [4] (.T .L (.T .L (.join [13,4,14,15,16,17,18,19,20,21,22,23] [4] (.T .L (.T .L (.join [14,4,15,16,17,18,19,20,21,22,23] [4] (.T .L (.T .L (.join [15,4,16,17,18,19,20,21,22,23] [4] (.T .L (.T .L (.join [16,4,17,18,19,20,21,22,23] [4] (.T .L (.T .L (.join [17,4,18,19,20,21,22,23] [4] (.T .L (.T .L (.join [18,4,19,20,21,22,23] [4] (.T .L (.T .L (.join [19,4,20,21,22,23] [4] (.T .L (.T .L (.join [20,4,21,22,23] [4] (.T .L (.T .L (.join [21,4,22,23] [4] (.T .L (.T .L (.join [22,4,23] [4] (.T .L (.T .L (.join [23,4] [4] (.T .L .L)))))))))))))))))))))))))))))))))))))))))))))))))))))) (.T (.T .L .L) .L)))) (.T .L .L)))
theorem Az (ω:Amb)(s_p:Value)(h:Hp)(R:RT)(X:XT)(hk:sP ω s_p h R X):aa Tryz.prog ω 82 [s_p] h R X :=
 al (an:=zf) Tryz.func82 (by kernel_rfl) hk
abbrev wZ:Nat:=83
def rM (ω:Amb)(c_p:Value)(h:Hp)(R:RT)(X:XT):Prop :=
 ∃J0:RT,
 (asK .u8 c_p fun n4=>cond (decide (n4≥48))
 (asK .u8 c_p fun n5=>J0 (.bool (decide (n5≤57))) h)
 (J0 (.bool false) h)) ∧
 ∀HM (d2:Nat→Value) (h3:Hp),J0 HM h3 →
 R HM h3
def xP:Ann :=
 (.T .L (.T (.join [3,4,5,6,7,8,2] [2] .L) .L))
theorem ya (ω:Amb)(c_p:Value)(h:Hp)(R:RT)(X:XT)(hk:rM ω c_p h R X):aa Tryz.prog ω 83 [c_p] h R X :=
 al (an:=xP) Tryz.func83 (by kernel_rfl) hk
abbrev zr:Nat:=92
def sR (ω:Amb)(s_p:Value)(h:Hp)(R:RT)(X:XT):Prop :=
 ∃J0:RT,
 (asS s_p fun s4=>cond (s4.toList==ByteArray.toList ⟨#[]⟩)
 (J0 (.bool true) h)
 (asS s_p fun s5=>cond (decide (((s5.size:Int):Int) > 12))
 (J0 (.bool true) h)
 (asS s_p fun s6=>0≤(0:Int)∧0 < (s6.size:Int)∧aa Tryz.prog ω 80 [(.int .u8 (aU s6 0))] h (fun r7 h8 =>
 asB r7 fun b9=>cond (!b9)
 (J0 (.bool true) h8)
 (aa Tryz.prog ω 82 [s_p] h8 (fun r10 h11 =>
 J0 r10 h11) X)) X))) ∧
 ∀NO (d2:Nat→Value) (h3:Hp),J0 NO h3 →
 asB NO fun b12=>cond b12
 (R (.bool false) h3)
 (asS s_p fun s13=>∃(I14:RT) (μ15:Value→Hp→Nat),I14 (.int .i64 0) h3∧∀vM (d17:Nat→Value) (h18:Hp),I14 vM h18 →
 asK .i64 vM fun n19=>cond (decide (n19 < (s13.size:Int)))
 (∃J20:RT,
 (asS s_p fun s24=>asI vM fun n25=>0≤n25∧n25 < (s24.size:Int)∧aa Tryz.prog ω 80 [(.int .u8 (aU s24 n25))] h18 (fun r26 h27 =>
 asB r26 fun b28=>cond (!b28)
 (asS s_p fun s29=>asI vM fun n30=>0≤n30∧n30 < (s29.size:Int)∧aa Tryz.prog ω 83 [(.int .u8 (aU s29 n30))] h27 (fun r31 h32 =>
 asB r31 fun b33=>J20 (.bool (!b33)) h32) X)
 (J20 (.bool false) h27)) X) ∧
 ∀JU (d22:Nat→Value) (h23:Hp),J20 JU h23 →
 asB JU fun b34=>cond b34
 (R (.bool false) h23)
 (asK .i64 vM fun n35=>I14 (.int .i64 (IntKind.wrap .i64 (n35+1))) h23∧μ15 (.int .i64 (IntKind.wrap .i64 (n35+1))) h23 < μ15 vM h18))
 (R (.bool true) h18))
def zj:Ann :=
 (.T .L (.T (.T (.join [4,5,6,7,8,9,10,11,12,13,14,15,16,17,18,19,20] [20] .L) (.T (.T .L .L) .L)) (.T (.T .L (.one (.loop [24,25,3,26,27,28,29,30,31,32,33,34,35,36,37,2,38,23] [23] (.T .L (.T (.T .L .L) (.T (.one (.T .L (.T (.join [26,27,28,29,30,31,32,33,34,35,36,37] [37] .L) (.T (.T .L .L) .L)))) .L)))))) (.T .L .L))))
theorem zl (ω:Amb)(s_p:Value)(h:Hp)(R:RT)(X:XT)(hk:sR ω s_p h R X):aa Tryz.prog ω 92 [s_p] h R X :=
 al (an:=zj) Tryz.func92 (by kernel_rfl) hk
end Go.Proofs.YtkeeboomikkojaaGreatDoor.Sx
set_option linter.unusedVariables false
set_option maxRecDepth 100000
namespace Go.Proofs.YtkeeboomikkojaaGreatDoor.Sx
open Go Go.Sx Go.Proofs
abbrev vz:Nat:=16
abbrev dD (h:Hp)(p_p:Value):Hp:=h.push (.cells (Value.cells p_p) 24 (0,0))
abbrev gk:Obj:=.cells #[.int .i64 0,.int .i64 0] 28 (0,0)
def qj (ω:Amb)(p_p:Value)(h:Hp)(R:RT)(X:XT):Prop :=
 ∃C0,aj (Array.push (dD h p_p) (gk)) ⟨h.size,0,none⟩ 1 C0 ∧
 aa Tryz.prog ω 35 [.agg C0.toArray] (Array.push (dD h p_p) (gk)) (fun r1 h2 =>
 asA r1 fun A3=>A3.size=2∧(∀u∈A3.toList,one u)∧av (h2.push (gk)) ⟨h2.size,0,none⟩ A3.toList fun h4 =>
 ∃J5:RT,
 (∃v9,af h4 (Addr.add ⟨h2.size,0,none⟩ 0)=some v9 ∧
 asK .i64 v9 fun n10=>cond (n10==(0:Int))
 (∃C11,aj h4 ⟨h.size,0,none⟩ 1 C11 ∧
 aa Tryz.prog ω 34 [.agg C11.toArray] h4 (fun r12 h13 =>
 asS r12 fun s14=>J5 (.bool (decide (((s14.size:Int):Int) > 12000))) h13) X)
 (J5 (.bool false) h4)) ∧
 ∀uQ (d7:Nat→Value) (h8:Hp),J5 uQ h8 →
 ∃J15:Hp→Prop,
 (asB uQ fun b18=>cond b18
 (2=2∧(∀u∈[.int .i64 1,(.int .i64 (-1))],one u)∧av h8 ⟨h2.size,0,none⟩ [.int .i64 1,(.int .i64 (-1))] fun h19 =>
 J15 h19)
 (J15 h8)) ∧
 ∀(d16:Nat→Value) (h17:Hp),J15 h17 →
 ∃C20,aj h17 ⟨h2.size,0,none⟩ 2 C20 ∧
 C20.toArray.size=2∧(∀u∈C20.toArray.toList,one u)∧av h17 ⟨Array.size (dD h p_p),0,none⟩ C20.toArray.toList fun h21 =>
 ∃C22,aj h21 ⟨Array.size (dD h p_p),0,none⟩ 2 C22∧R (.agg C22.toArray) h21) X
def vj:Ann :=
 (.T .L (.T .L (.T (.T (.join [6,7,8,9,10,11,12,13,14] [14] .L) (.join [15] [] (.T .L .L))) (.T .L .L))))
theorem vy (ω:Amb)(p_p:Value)(h:Hp)(R:RT)(X:XT)(hk:qj ω p_p h R X):aa Tryz.prog ω 16 [p_p] h R X :=
 al (an:=vj) Tryz.func16 (by kernel_rfl) hk
abbrev vf:Nat:=35
abbrev ct (h:Hp)(p_p:Value):Hp:=Array.push (h.push (.cells (Value.cells p_p) 24 (0,0))) (.cells #[.int .i64 0,.int .i64 0] 28 (0,0))
abbrev gm (h:Hp)(p_p:Value):Hp:=Array.push (ct h p_p) (.cells #[.int .i64 0,.int .i64 0,.int .i64 0] 116 (0,0))
def qo (ω:Amb)(p_p:Value)(h:Hp)(R:RT)(X:XT):Prop :=
 ∃v0,af (gm h p_p) (Addr.add ⟨h.size,0,none⟩ 0)=some v0 ∧
 bR v0 fun a1 l2 c3=>∃J4:Hp→Prop,
 (cond ((l2:Int)==(0:Int))
 (aa Tryz.prog ω 65 [(.pointer (some ⟨Array.size (ct h p_p),0,none⟩)),.int .i64 10,(.int .i64 (-1))] (gm h p_p) (fun r7 h8 =>
 J4 h8) X)
 (J4 (gm h p_p))) ∧
 ∀(d5:Nat→Value) (h6:Hp),J4 h6 →
 ∃v9,af h6 (Addr.add ⟨h.size,0,none⟩ 0)=some v9 ∧
 bR v9 fun a10 l11 c12=>∃J13:Hp→Prop,
 (cond (decide ((l11:Int) > 10))
 (aa Tryz.prog ω 65 [(.pointer (some ⟨Array.size (ct h p_p),0,none⟩)),.int .i64 8,(.int .i64 (-1))] h6 (fun r16 h17 =>
 J13 h17) X)
 (J13 h6)) ∧
 ∀(d14:Nat→Value) (h15:Hp),J13 h15 →
 ∃(I18:RT) (μ19:Value→Hp→Nat),I18 (.int .i64 0) h15∧∀Dx (d21:Nat→Value) (h22:Hp),I18 Dx h22 →
 ∃β23:Bool,
 (∃v25,af h22 (Addr.add ⟨h.size,0,none⟩ 0)=some v25 ∧
 bR v25 fun a26 l27 c28=>asK .i64 Dx fun n29=>cond (decide (n29 < (l27:Int)))
 (∃v30,af h22 (Addr.add (Addr.add ⟨Array.size (ct h p_p),0,none⟩ 1) 0)=some v30 ∧
 asK .i64 v30 fun n31=>((.bool (n31==(0:Int))):Value)=.bool β23∧h22=h22)
 (((.bool false):Value)=.bool β23∧h22=h22)) ∧
 ∀d24:Nat→Value,
 cond β23
 (∃v32,af h22 (Addr.add ⟨h.size,0,none⟩ 0)=some v32 ∧
 aI v32 fun a33 l34 c35=>asI Dx fun n36=>0≤n36∧n36 < (l34:Int)∧∃C37,aj h22 (Addr.add a33 (n36.toNat*4)) 4 C37 ∧
 asK .i64 Dx fun n38=>aa Tryz.prog ω 66 [(.pointer (some ⟨Array.size (ct h p_p),0,none⟩)),.agg C37.toArray,(.int .i64 (IntKind.wrap .i64 ((-2) - n38)))] h22 (fun r39 h40 =>
 asK .i64 Dx fun n41=>I18 (.int .i64 (IntKind.wrap .i64 (n41+1))) h40∧μ19 (.int .i64 (IntKind.wrap .i64 (n41+1))) h40 < μ19 Dx h22) X)
 (∃C42,aj h22 (Addr.add ⟨Array.size (ct h p_p),0,none⟩ 1) 2 C42 ∧
 C42.toArray.size=2∧(∀u∈C42.toArray.toList,one u)∧av h22 ⟨Array.size (h.push (.cells (Value.cells p_p) 24 (0,0))),0,none⟩ C42.toArray.toList fun h43 =>
 ∃C44,aj h43 ⟨Array.size (h.push (.cells (Value.cells p_p) 24 (0,0))),0,none⟩ 2 C44∧R (.agg C44.toArray) h43)
def vx:Ann :=
 (.T .L (.T .L (.T (.T .L (.join [11,12] [] (.T .L .L))) (.T (.T .L (.join [17,18] [] (.T .L .L))) (.T (.T .L (.one (.loop [19,20,21,22,23,24,25,26,27,28,29,30,31,34,35,36,37,38,39,40,41,42,32,33,4] [4] (.T (.T (.jb [19,20,21,22,23,24,25,26,27,28,29,30,31] 31 .L) (.T .L .L)) (.T (.one .L) .L))))) (.T .L .L))))))
theorem vH (ω:Amb)(p_p:Value)(h:Hp)(R:RT)(X:XT)(hk:qo ω p_p h R X):aa Tryz.prog ω 35 [p_p] h R X :=
 al (an:=vx) Tryz.func35 (by kernel_rfl) hk
abbrev fo:Nat:=65
def fD (ω:Amb)(w_p cC bU:Value)(h:Hp)(R:RT)(X:XT):Prop :=
 nnK w_p (asP w_p fun p0 =>
 ∃v1,af h (Addr.add (Addr.add p0 1) 0)=some v1 ∧
 asK .i64 v1 fun n2=>∃J3:Hp→Prop,
 (cond (n2==(0:Int))
 (cq cC (cq bU (nnK w_p (asP w_p fun p6 =>
 2=2∧(∀u∈[cC,bU],one u)∧av h (Addr.add p6 1) [cC,bU] fun h7 =>
 J3 h7))))
 (J3 h)) ∧
 ∀(d4:Nat→Value) (h5:Hp),J3 h5 →
 R (.tuple #[]) h5)
def mN:Ann :=
 (.T .L (.join [12,13,14,15,16,17] [] (.T .L .L)))
theorem mz (ω:Amb)(w_p cC bU:Value)(h:Hp)(R:RT)(X:XT)(hk:fD ω w_p cC bU h R X):aa Tryz.prog ω 65 [w_p,cC,bU] h R X :=
 al (an:=mN) Tryz.func65 (by kernel_rfl) hk
abbrev lD:Nat:=66
def eF (ω:Amb)(w_p s_p bU:Value)(h:Hp)(R:RT)(X:XT):Prop :=
 ∃v0,af (h.push (.cells (Value.cells s_p) 41 (0,0))) (Addr.add ⟨h.size,0,none⟩ 0)=some v0 ∧
 aa Tryz.prog ω 92 [v0] (h.push (.cells (Value.cells s_p) 41 (0,0))) (fun r1 h2 =>
 asB r1 fun b3=>∃J4:Hp→Prop,
 (cond (!b3)
 (aa Tryz.prog ω 65 [w_p,.int .i64 4,bU] h2 (fun r7 h8 =>
 J4 h8) X)
 (J4 h2)) ∧
 ∀(d5:Nat→Value) (h6:Hp),J4 h6 →
 ∃v9,af h6 (Addr.add ⟨h.size,0,none⟩ 2)=some v9 ∧
 bR v9 fun a10 l11 c12=>∃J13:Hp→Prop,
 (cond (decide ((l11:Int) > 6))
 (aa Tryz.prog ω 65 [w_p,.int .i64 8,bU] h6 (fun r16 h17 =>
 J13 h17) X)
 (J13 h6)) ∧
 ∀(d14:Nat→Value) (h15:Hp),J13 h15 →
 ∃(I18:RT) (μ19:Value→Hp→Nat),I18 (.int .i64 0) h15∧∀Dx (d21:Nat→Value) (h22:Hp),I18 Dx h22 →
 ∃β23:Bool,
 (∃v25,af h22 (Addr.add ⟨h.size,0,none⟩ 2)=some v25 ∧
 bR v25 fun a26 l27 c28=>asK .i64 Dx fun n29=>cond (decide (n29 < (l27:Int)))
 (nnK w_p (asP w_p fun p30 =>
 ∃v31,af h22 (Addr.add (Addr.add p30 1) 0)=some v31 ∧
 asK .i64 v31 fun n32=>((.bool (n32==(0:Int))):Value)=.bool β23∧h22=h22))
 (((.bool false):Value)=.bool β23∧h22=h22)) ∧
 ∀d24:Nat→Value,
 cond β23
 (∃J33:Hp→Prop,
 (∃v36,af h22 (Addr.add ⟨h.size,0,none⟩ 2)=some v36 ∧
 aI v36 fun a37 l38 c39=>asI Dx fun n40=>0≤n40∧n40 < (l38:Int)∧∃v41,af h22 (Addr.add (Addr.add a37 (n40.toNat*2)) 0)=some v41 ∧
 aa Tryz.prog ω 92 [v41] h22 (fun r42 h43 =>
 asB r42 fun b44=>∃J45:Hp→Prop,
 (cond (!b44)
 (aa Tryz.prog ω 65 [w_p,.int .i64 4,bU] h43 (fun r48 h49 =>
 J45 h49) X)
 (J45 h43)) ∧
 ∀(d46:Nat→Value) (h47:Hp),J45 h47 →
 ∃v50,af h47 (Addr.add ⟨h.size,0,none⟩ 2)=some v50 ∧
 aI v50 fun a51 l52 c53=>asI Dx fun n54=>0≤n54∧n54 < (l52:Int)∧∃v55,af h47 (Addr.add (Addr.add a51 (n54.toNat*2)) 1)=some v55 ∧
 aa Tryz.prog ω 28 [v55,.int .i64 3] h47 (fun r56 h57 =>
 asB r56 fun b58=>∃J59:Hp→Prop,
 (cond (!b58)
 (aa Tryz.prog ω 65 [w_p,.int .i64 11,bU] h57 (fun r62 h63 =>
 J59 h63) X)
 (J59 h57)) ∧
 ∀(d60:Nat→Value) (h61:Hp),J59 h61 →
 J33 h61) X) X) ∧
 ∀(d34:Nat→Value) (h35:Hp),J33 h35 →
 asK .i64 Dx fun n64=>I18 (.int .i64 (IntKind.wrap .i64 (n64+1))) h35∧μ19 (.int .i64 (IntKind.wrap .i64 (n64+1))) h35 < μ19 Dx h22)
 (∃v65,af h22 (Addr.add ⟨h.size,0,none⟩ 3)=some v65 ∧
 aa Tryz.prog ω 93 [w_p,v65,.int .i64 1] h22 (fun r66 h67 =>
 R (.tuple #[]) h67) X)) X
def lN:Ann :=
 (.T .L (.T (.T .L (.join [11,12,13] [] (.T .L .L))) (.T (.T .L (.join [18,19,20] [] (.T .L .L))) (.T (.T .L (.one (.loop [21,22,23,24,25,26,27,28,29,30,31,32,33,36,37,38,39,40,41,42,43,44,45,46,47,48,49,50,51,52,53,54,55,56,57,34,35,6] [6] (.T (.T (.jb [21,22,23,24,25,26,27,28,29,30,31,32,33] 33 .L) (.T .L .L)) (.T (.join [36,37,38,39,40,41,42,43,44,45,46,47,48,49,50,51,52,53,54,55,56,57] [] (.one (.T (.T .L (.join [44,45,46] [] (.T .L .L))) (.T .L (.join [55,56,57] [] (.T .L .L)))))) .L))))) .L))))
theorem lO (ω:Amb)(w_p s_p bU:Value)(h:Hp)(R:RT)(X:XT)(hk:eF ω w_p s_p bU h R X):aa Tryz.prog ω 66 [w_p,s_p,bU] h R X :=
 al (an:=lN) Tryz.func66 (by kernel_rfl) hk
abbrev eG:Nat:=93
def cK (ω:Amb)(w_p l_p dm:Value)(h:Hp)(R:RT)(X:XT):Prop :=
 ∃(I0:RT) (μ1:Value→Hp→Nat),I0 (.int .i64 0) h∧∀i_2 (d3:Nat→Value) (h4:Hp),I0 i_2 h4 →
 ∃β5:Bool,
 (bR l_p fun a7 l8 c9=>asK .i64 i_2 fun n10=>cond (decide (n10 < (l8:Int)))
 (nnK w_p (asP w_p fun p11 =>
 ∃v12,af h4 (Addr.add (Addr.add p11 1) 0)=some v12 ∧
 asK .i64 v12 fun n13=>((.bool (n13==(0:Int))):Value)=.bool β5∧h4=h4))
 (((.bool false):Value)=.bool β5∧h4=h4)) ∧
 ∀d6:Nat→Value,
 cond β5
 (aI l_p fun a14 l15 c16=>asI i_2 fun n17=>0≤n17∧n17 < (l15:Int)∧∃C18,aj h4 (Addr.add a14 (n17.toNat*9)) 9 C18 ∧
 aa Tryz.prog ω 120 [w_p,.agg C18.toArray,dm] h4 (fun r19 h20 =>
 asK .i64 i_2 fun n21=>I0 (.int .i64 (IntKind.wrap .i64 (n21+1))) h20∧μ1 (.int .i64 (IntKind.wrap .i64 (n21+1))) h20 < μ1 i_2 h4) X)
 (R (.tuple #[]) h4)
def lr:Ann :=
 (.T .L (.one (.loop [7,8,9,10,11,12,13,14,15,16,17,18,21,22,23,24,25,26,27,19,20,6] [6] (.T (.T (.jb [7,8,9,10,11,12,13,14,15,16,17,18] 18 .L) (.T .L .L)) (.T (.one .L) .L)))))
theorem eR (ω:Amb)(w_p l_p dm:Value)(h:Hp)(R:RT)(X:XT)(hk:cK ω w_p l_p dm h R X):aa Tryz.prog ω 93 [w_p,l_p,dm] h R X :=
 al (an:=lr) Tryz.func93 (by kernel_rfl) hk
abbrev yQ:Nat:=119
abbrev jR (h:Hp):Hp:=h.push (.cells #[.bool false,.bool false,.bool false,.bool false,.int .i64 0,.bool false,.bool false] 165 (0,0))
def sU (ω:Amb)(tz:Value)(h:Hp)(R:RT)(X:XT):Prop :=
 asK .i64 tz fun n0=>∃J1:RT,
 (cond (n0==(1:Int))
 (J1 (.bool (n0==(1:Int))) (jR h))
 (asK .i64 tz fun n5=>∃J6:RT,
 (cond (n5==(2:Int))
 (J6 (.bool (n5==(2:Int))) (jR h))
 (asK .i64 tz fun n10=>J6 (.bool (n10==(6:Int))) (jR h))) ∧
 ∀t5_7 (d8:Nat→Value) (h9:Hp),J6 t5_7 h9 →
 J1 t5_7 h9)) ∧
 ∀t5_2 (d3:Nat→Value) (h4:Hp),J1 t5_2 h4 →
 asB t5_2 fun b11=>cond b11
 (7=7∧(∀u∈[.bool true,.bool false,.bool false,.bool false,.int .i64 1,.bool false,.bool false],one u)∧av h4 ⟨h.size,0,none⟩ [.bool true,.bool false,.bool false,.bool false,.int .i64 1,.bool false,.bool false] fun h12 =>
 ∃C13,aj h12 ⟨h.size,0,none⟩ 7 C13∧R (.tuple #[.agg C13.toArray,.bool true]) h12)
 (asK .i64 tz fun n14=>cond (n14==(3:Int))
 (7=7∧(∀u∈[.bool false,.bool false,.bool false,.bool false,.int .i64 1,.bool false,.bool false],one u)∧av h4 ⟨h.size,0,none⟩ [.bool false,.bool false,.bool false,.bool false,.int .i64 1,.bool false,.bool false] fun h15 =>
 ∃C16,aj h15 ⟨h.size,0,none⟩ 7 C16∧R (.tuple #[.agg C16.toArray,.bool true]) h15)
 (asK .i64 tz fun n17=>cond (n17==(4:Int))
 (7=7∧(∀u∈[.bool true,.bool true,.bool true,.bool true,.int .i64 0,.bool false,.bool false],one u)∧av h4 ⟨h.size,0,none⟩ [.bool true,.bool true,.bool true,.bool true,.int .i64 0,.bool false,.bool false] fun h18 =>
 ∃C19,aj h18 ⟨h.size,0,none⟩ 7 C19∧R (.tuple #[.agg C19.toArray,.bool true]) h18)
 (asK .i64 tz fun n20=>cond (n20==(5:Int))
 (7=7∧(∀u∈[.bool true,.bool true,.bool false,.bool false,.int .i64 0,.bool false,.bool false],one u)∧av h4 ⟨h.size,0,none⟩ [.bool true,.bool true,.bool false,.bool false,.int .i64 0,.bool false,.bool false] fun h21 =>
 ∃C22,aj h21 ⟨h.size,0,none⟩ 7 C22∧R (.tuple #[.agg C22.toArray,.bool true]) h21)
 (asK .i64 tz fun n23=>∃J24:RT,
 (cond (n23==(7:Int))
 (J24 (.bool (n23==(7:Int))) h4)
 (asK .i64 tz fun n28=>∃J29:RT,
 (cond (n28==(8:Int))
 (J29 (.bool (n28==(8:Int))) h4)
 (asK .i64 tz fun n33=>J29 (.bool (n33==(9:Int))) h4)) ∧
 ∀KN (d31:Nat→Value) (h32:Hp),J29 KN h32 →
 J24 KN h32)) ∧
 ∀JT (d26:Nat→Value) (h27:Hp),J24 JT h27 →
 asB JT fun b34=>cond b34
 (7=7∧(∀u∈[.bool true,.bool false,.bool false,.bool false,.int .i64 0,.bool false,.bool false],one u)∧av h27 ⟨h.size,0,none⟩ [.bool true,.bool false,.bool false,.bool false,.int .i64 0,.bool false,.bool false] fun h35 =>
 ∃C36,aj h35 ⟨h.size,0,none⟩ 7 C36∧R (.tuple #[.agg C36.toArray,.bool true]) h35)
 (asK .i64 tz fun n37=>cond (n37==(10:Int))
 (7=7∧(∀u∈[.bool true,.bool false,.bool false,.bool false,(.int .i64 (-1)),.bool false,.bool false],one u)∧av h27 ⟨h.size,0,none⟩ [.bool true,.bool false,.bool false,.bool false,(.int .i64 (-1)),.bool false,.bool false] fun h38 =>
 ∃C39,aj h38 ⟨h.size,0,none⟩ 7 C39∧R (.tuple #[.agg C39.toArray,.bool true]) h38)
 (asK .i64 tz fun n40=>cond (n40==(11:Int))
 (7=7∧(∀u∈[.bool true,.bool true,.bool false,.bool false,.int .i64 0,.bool true,.bool true],one u)∧av h27 ⟨h.size,0,none⟩ [.bool true,.bool true,.bool false,.bool false,.int .i64 0,.bool true,.bool true] fun h41 =>
 ∃C42,aj h41 ⟨h.size,0,none⟩ 7 C42∧R (.tuple #[.agg C42.toArray,.bool true]) h41)
 (asK .i64 tz fun n43=>cond (n43==(12:Int))
 (7=7∧(∀u∈[.bool true,.bool true,.bool false,.bool false,.int .i64 0,.bool true,.bool false],one u)∧av h27 ⟨h.size,0,none⟩ [.bool true,.bool true,.bool false,.bool false,.int .i64 0,.bool true,.bool false] fun h44 =>
 ∃C45,aj h44 ⟨h.size,0,none⟩ 7 C45∧R (.tuple #[.agg C45.toArray,.bool true]) h44)
 (asK .i64 tz fun n46=>cond (n46==(13:Int))
 (7=7∧(∀u∈[.bool false,.bool false,.bool false,.bool false,.int .i64 1,.bool true,.bool false],one u)∧av h27 ⟨h.size,0,none⟩ [.bool false,.bool false,.bool false,.bool false,.int .i64 1,.bool true,.bool false] fun h47 =>
 ∃C48,aj h47 ⟨h.size,0,none⟩ 7 C48∧R (.tuple #[.agg C48.toArray,.bool true]) h47)
 (asK .i64 tz fun n49=>cond (n49==(14:Int))
 (7=7∧(∀u∈[.bool false,.bool false,.bool false,.bool false,.int .i64 1,.bool true,.bool true],one u)∧av h27 ⟨h.size,0,none⟩ [.bool false,.bool false,.bool false,.bool false,.int .i64 1,.bool true,.bool true] fun h50 =>
 ∃C51,aj h50 ⟨h.size,0,none⟩ 7 C51∧R (.tuple #[.agg C51.toArray,.bool true]) h50)
 (7=7∧(∀u∈[.bool false,.bool false,.bool false,.bool false,.int .i64 0,.bool false,.bool false],one u)∧av h27 ⟨h.size,0,none⟩ [.bool false,.bool false,.bool false,.bool false,.int .i64 0,.bool false,.bool false] fun h52 =>
 ∃C53,aj h52 ⟨h.size,0,none⟩ 7 C53∧R (.tuple #[.agg C53.toArray,.bool false]) h52))))))))))
def zx:Ann :=
 (.T .L (.T (.T .L (.one (.T (.T .L (.join [7,5,8] [5] (.T .L (.T .L (.join [8,5] [5] (.T .L .L)))))) (.T (.T .L .L) (.T .L (.T (.T .L .L) (.T .L (.T (.T .L .L) (.T .L (.T (.T .L .L) (.T (.T .L (.join [21,19,22] [19] (.T .L (.T .L (.join [22,19] [19] (.T .L .L)))))) (.T (.T .L .L) (.T .L (.T (.T .L .L) (.T .L (.T (.T .L .L) (.T .L (.T (.T .L .L) (.T .L (.T (.T .L .L) (.T .L (.T (.T .L .L) .L)))))))))))))))))))))) (.T .L .L)))
theorem Ac (ω:Amb)(tz:Value)(h:Hp)(R:RT)(X:XT)(hk:sU ω tz h R X):aa Tryz.prog ω 119 [tz] h R X :=
 al (an:=zx) Tryz.func119 (by kernel_rfl) hk
abbrev nh:Nat:=120
def fB (ω:Amb)(w_p s_p dm:Value)(h:Hp)(R:RT)(X:XT):Prop :=
 nnK w_p (asP w_p fun p0 =>
 ∃v1,af (h.push (.cells (Value.cells s_p) 39 (0,0))) (Addr.add p0 0)=some v1 ∧
 nnK w_p (asP w_p fun p2 =>
 ∃v3,af (h.push (.cells (Value.cells s_p) 39 (0,0))) (Addr.add p2 0)=some v3 ∧
 asK .i64 v3 fun n4=>nnK w_p (asP w_p fun p5 =>
 aJ (h.push (.cells (Value.cells s_p) 39 (0,0))) (Addr.add p5 0) (.int .i64 (IntKind.wrap .i64 (n4+1))) fun h6 =>
 ∃v7,af h6 (Addr.add ⟨h.size,0,none⟩ 0)=some v7 ∧
 aa Tryz.prog ω 119 [v7] h6 (fun r8 h9 =>
 asT r8 fun T10=>asO T10[0]? fun v11=>asT r8 fun T12=>asO T12[1]? fun v13=>asA v11 fun A14=>A14.size=7∧(∀u∈A14.toList,one u)∧av (h9.push (.cells #[.bool false,.bool false,.bool false,.bool false,.int .i64 0,.bool false,.bool false] 165 (0,0))) ⟨h9.size,0,none⟩ A14.toList fun h15 =>
 ∃J16:Hp→Prop,
 (asK .i64 v1 fun n19=>∃J20:Hp→Prop,
 (cond (decide (n19≥300))
 (aa Tryz.prog ω 65 [w_p,.int .i64 8,v1] h15 (fun r23 h24 =>
 J20 h24) X)
 (asB v13 fun b25=>∃J26:RT,
 (cond (!b25)
 (J26 (.bool (!b25)) h15)
 (∃J30:RT,
 (∃v34,af h15 (Addr.add ⟨h9.size,0,none⟩ 2)=some v34 ∧
 asB v34 fun b35=>cond (!b35)
 (∃v36,af h15 (Addr.add ⟨h.size,0,none⟩ 4)=some v36 ∧
 asS v36 fun s37=>J30 (.bool (!(s37.toList==ByteArray.toList ⟨#[]⟩))) h15)
 (J30 (.bool false) h15)) ∧
 ∀Gh (d32:Nat→Value) (h33:Hp),J30 Gh h33 →
 ∃J38:RT,
 (asB Gh fun b42=>cond b42
 (J38 Gh h33)
 (∃J43:RT,
 (∃v47,af h33 (Addr.add ⟨h9.size,0,none⟩ 3)=some v47 ∧
 asB v47 fun b48=>cond (!b48)
 (∃v49,af h33 (Addr.add ⟨h.size,0,none⟩ 5)=some v49 ∧
 asK .i64 v49 fun n50=>J43 (.bool (n50 !=(0:Int))) h33)
 (J43 (.bool false) h33)) ∧
 ∀Hr (d45:Nat→Value) (h46:Hp),J43 Hr h46 →
 ∃J51:RT,
 (asB Hr fun b55=>cond b55
 (J51 Hr h46)
 (∃J56:RT,
 (∃v60,af h46 (Addr.add ⟨h9.size,0,none⟩ 4)=some v60 ∧
 asK .i64 v60 fun n61=>cond (decide (n61≥0))
 (∃v62,af h46 (Addr.add ⟨h.size,0,none⟩ 6)=some v62 ∧
 bR v62 fun a63 l64 c65=>∃v66,af h46 (Addr.add ⟨h9.size,0,none⟩ 4)=some v66 ∧
 asK .i64 v66 fun n67=>J56 (.bool ((l64:Int) !=n67)) h46)
 (J56 (.bool false) h46)) ∧
 ∀Fh (d58:Nat→Value) (h59:Hp),J56 Fh h59 →
 ∃J68:RT,
 (asB Fh fun b72=>cond b72
 (J68 Fh h59)
 (∃J73:RT,
 (∃v77,af h59 (Addr.add ⟨h9.size,0,none⟩ 5)=some v77 ∧
 asB v77 fun b78=>cond (!b78)
 (∃v79,af h59 (Addr.add ⟨h.size,0,none⟩ 7)=some v79 ∧
 bR v79 fun a80 l81 c82=>J73 (.bool (decide ((l81:Int) > 0))) h59)
 (J73 (.bool false) h59)) ∧
 ∀HF (d75:Nat→Value) (h76:Hp),J73 HF h76 →
 ∃J83:RT,
 (asB HF fun b87=>cond b87
 (J83 HF h76)
 (∃J88:RT,
 (∃v92,af h76 (Addr.add ⟨h9.size,0,none⟩ 6)=some v92 ∧
 asB v92 fun b93=>cond (!b93)
 (∃v94,af h76 (Addr.add ⟨h.size,0,none⟩ 8)=some v94 ∧
 bR v94 fun a95 l96 c97=>J88 (.bool (decide ((l96:Int) > 0))) h76)
 (J88 (.bool false) h76)) ∧
 ∀Gl (d90:Nat→Value) (h91:Hp),J88 Gl h91 →
 ∃J98:RT,
 (asB Gl fun b102=>cond b102
 (J98 Gl h91)
 (∃J103:RT,
 (∃v107,af h91 (Addr.add ⟨h9.size,0,none⟩ 0)=some v107 ∧
 asB v107 fun b108=>cond (!b108)
 (∃v109,af h91 (Addr.add ⟨h.size,0,none⟩ 2)=some v109 ∧
 asS v109 fun s110=>J103 (.bool (!(s110.toList==ByteArray.toList ⟨#[]⟩))) h91)
 (J103 (.bool false) h91)) ∧
 ∀AO (d105:Nat→Value) (h106:Hp),J103 AO h106 →
 ∃J111:RT,
 (asB AO fun b115=>cond b115
 (J111 AO h106)
 (∃J116:RT,
 (∃v120,af h106 (Addr.add ⟨h9.size,0,none⟩ 1)=some v120 ∧
 asB v120 fun b121=>cond (!b121)
 (∃v122,af h106 (Addr.add ⟨h.size,0,none⟩ 3)=some v122 ∧
 asS v122 fun s123=>J116 (.bool (!(s123.toList==ByteArray.toList ⟨#[]⟩))) h106)
 (J116 (.bool false) h106)) ∧
 ∀F2 (d118:Nat→Value) (h119:Hp),J116 F2 h119 →
 J111 F2 h119)) ∧
 ∀GV (d113:Nat→Value) (h114:Hp),J111 GV h114 →
 J98 GV h114)) ∧
 ∀Kr (d100:Nat→Value) (h101:Hp),J98 Kr h101 →
 J83 Kr h101)) ∧
 ∀K3 (d85:Nat→Value) (h86:Hp),J83 K3 h86 →
 J68 K3 h86)) ∧
 ∀Ks (d70:Nat→Value) (h71:Hp),J68 Ks h71 →
 J51 Ks h71)) ∧
 ∀JQ (d53:Nat→Value) (h54:Hp),J51 JQ h54 →
 J38 JQ h54)) ∧
 ∀Kk (d40:Nat→Value) (h41:Hp),J38 Kk h41 →
 J26 Kk h41)) ∧
 ∀JN (d28:Nat→Value) (h29:Hp),J26 JN h29 →
 ∃J124:Hp→Prop,
 (asB JN fun b127=>cond b127
 (aa Tryz.prog ω 65 [w_p,.int .i64 5,v1] h29 (fun r128 h129 =>
 J124 h129) X)
 (∃v130,af h29 (Addr.add ⟨h.size,0,none⟩ 6)=some v130 ∧
 bR v130 fun a131 l132 c133=>∃J134:Hp→Prop,
 (cond (decide ((l132:Int) > 6))
 (aa Tryz.prog ω 65 [w_p,.int .i64 8,v1] h29 (fun r137 h138 =>
 J134 h138) X)
 (J134 h29)) ∧
 ∀(d135:Nat→Value) (h136:Hp),J134 h136 →
 J124 h136)) ∧
 ∀(d125:Nat→Value) (h126:Hp),J124 h126 →
 J20 h126)) ∧
 ∀(d21:Nat→Value) (h22:Hp),J20 h22 →
 J16 h22) ∧
 ∀(d17:Nat→Value) (h18:Hp),J16 h18 →
 nnK w_p (asP w_p fun p139 =>
 ∃v140,af h18 (Addr.add (Addr.add p139 1) 0)=some v140 ∧
 asK .i64 v140 fun n141=>cond (n141 !=(0:Int))
 (R (.tuple #[]) h18)
 (∃v142,af h18 (Addr.add ⟨h9.size,0,none⟩ 0)=some v142 ∧
 ∃v143,af h18 (Addr.add ⟨h.size,0,none⟩ 2)=some v143 ∧
 aa Tryz.prog ω 138 [w_p,v142,v143,v1] h18 (fun r144 h145 =>
 ∃v146,af h145 (Addr.add ⟨h9.size,0,none⟩ 1)=some v146 ∧
 ∃v147,af h145 (Addr.add ⟨h.size,0,none⟩ 3)=some v147 ∧
 aa Tryz.prog ω 138 [w_p,v146,v147,v1] h145 (fun r148 h149 =>
 ∃J150:RT,
 (∃v154,af h149 (Addr.add ⟨h9.size,0,none⟩ 2)=some v154 ∧
 asB v154 fun b155=>cond b155
 (∃v156,af h149 (Addr.add ⟨h.size,0,none⟩ 4)=some v156 ∧
 aa Tryz.prog ω 28 [v156,.int .i64 3] h149 (fun r157 h158 =>
 asB r157 fun b159=>J150 (.bool (!b159)) h158) X)
 (J150 (.bool false) h149)) ∧
 ∀B8 (d152:Nat→Value) (h153:Hp),J150 B8 h153 →
 ∃J160:Hp→Prop,
 (asB B8 fun b163=>cond b163
 (aa Tryz.prog ω 65 [w_p,.int .i64 11,v1] h153 (fun r164 h165 =>
 J160 h165) X)
 (J160 h153)) ∧
 ∀(d161:Nat→Value) (h162:Hp),J160 h162 →
 ∃β166:Bool,
 (∃v168,af h162 (Addr.add ⟨h.size,0,none⟩ 5)=some v168 ∧
 asK .i64 v168 fun n169=>cond (decide (n169 < 0))
 (((.bool true):Value)=.bool β166∧h162=h162)
 (∃v170,af h162 (Addr.add ⟨h.size,0,none⟩ 5)=some v170 ∧
 asK .i64 v170 fun n171=>((.bool (decide (n171≥1000000000000000000))):Value)=.bool β166∧h162=h162)) ∧
 ∀d167:Nat→Value,
 ∃J172:Hp→Prop,
 (cond β166
 (aa Tryz.prog ω 65 [w_p,.int .i64 14,v1] h162 (fun r175 h176 =>
 J172 h176) X)
 (J172 h162)) ∧
 ∀(d173:Nat→Value) (h174:Hp),J172 h174 →
 ∃v177,af h174 (Addr.add ⟨h.size,0,none⟩ 6)=some v177 ∧
 bR v177 fun a178 l179 c180=>∃(I181:RT) (μ182:Value→Hp→Nat),I181 (.int .i64 0) h174∧∀rm (d184:Nat→Value) (h185:Hp),I181 rm h185 →
 asK .i64 rm fun n186=>cond (decide (n186 < (l179:Int)))
 (aI v177 fun a187 l188 c189=>asI rm fun n190=>0≤n190∧n190 < (l188:Int)∧∃C191,aj h185 (Addr.add a187 (n190.toNat*4)) 4 C191 ∧
 C191.toArray.size=4∧(∀u∈C191.toArray.toList,one u)∧av (h185.push (.cells #[.int .i64 0,.string ⟨#[]⟩,.int .i64 0,.slice none 0 0] 36 (0,0))) ⟨h185.size,0,none⟩ C191.toArray.toList fun h192 =>
 ∃C193,aj h192 ⟨h185.size,0,none⟩ 4 C193 ∧
 aa Tryz.prog ω 139 [.agg C193.toArray,.int .i64 20] h192 (fun r194 h195 =>
 asK .i64 r194 fun n196=>∃J197:Hp→Prop,
 (cond (decide (n196 < 0))
 (aa Tryz.prog ω 65 [w_p,.int .i64 8,v1] h195 (fun r200 h201 =>
 J197 h201) X)
 (J197 h195)) ∧
 ∀(d198:Nat→Value) (h199:Hp),J197 h199 →
 ∃C202,aj h199 ⟨h185.size,0,none⟩ 4 C202 ∧
 aa Tryz.prog ω 140 [w_p,.agg C202.toArray,v1] h199 (fun r203 h204 =>
 asK .i64 rm fun n205=>I181 (.int .i64 (IntKind.wrap .i64 (n205+1))) h204∧μ182 (.int .i64 (IntKind.wrap .i64 (n205+1))) h204 < μ182 rm h185) X) X)
 (∃β206:Bool,
 (∃v208,af h185 (Addr.add ⟨h9.size,0,none⟩ 5)=some v208 ∧
 asB v208 fun b209=>cond b209
 (asK .i64 dm fun n210=>((.bool (n210==(8:Int))):Value)=.bool β206∧h185=h185)
 (((.bool false):Value)=.bool β206∧h185=h185)) ∧
 ∀d207:Nat→Value,
 ∃J211:Hp→Prop,
 (cond β206
 (aa Tryz.prog ω 65 [w_p,.int .i64 7,v1] h185 (fun r214 h215 =>
 J211 h215) X)
 (J211 h185)) ∧
 ∀(d212:Nat→Value) (h213:Hp),J211 h213 →
 ∃v216,af h213 (Addr.add ⟨h.size,0,none⟩ 7)=some v216 ∧
 asK .i64 dm fun n217=>aa Tryz.prog ω 93 [w_p,v216,(.int .i64 (IntKind.wrap .i64 (n217+1)))] h213 (fun r218 h219 =>
 ∃v220,af h219 (Addr.add ⟨h.size,0,none⟩ 8)=some v220 ∧
 asK .i64 dm fun n221=>aa Tryz.prog ω 93 [w_p,v220,(.int .i64 (IntKind.wrap .i64 (n221+1)))] h219 (fun r222 h223 =>
 R (.tuple #[]) h223) X) X)) X) X))) X)))
def mL:Ann :=
 (.T .L (.T .L (.T .L (.T .L (.T (.join [29,30,28,31,32,33,35,36,34,37,38,39,40,41,42,43,44,45,46,47,48,49,50,51,52,53,54,55,56,57,58,59,60,61,62,63,64,65,66,67,68,69,70,71,72,73,74,75,76,77,78,79,80,81,82,83,84,85,86,87,88,89,90,91,92,93,94,95,96,97,98,99,100,102,103,104,105,101,106,107,108] [] (.one (.T .L (.join [31,32,33,35,36,34,37,38,39,40,41,42,43,44,45,46,47,48,49,50,51,52,53,54,55,56,57,58,59,60,61,62,63,64,65,66,67,68,69,70,71,72,73,74,75,76,77,78,79,80,81,82,83,84,85,86,87,88,89,90,91,92,93,94,95,96,97,98,99,100,102,103,104,105,101,106,107,108] [] (.T .L (.T (.T .L (.join [37,38,39,40,41,42,43,44,34,45,46,47,48,49,50,51,52,53,54,55,56,57,58,59,60,61,62,63,64,65,66,67,68,69,70,71,72,73,74,75,76,77,78,79,80,81,82,83,84,85,86,87,88,89,90,91,92,93,94,95,96,97] [34] (.T .L (.T (.join [37,38,39,40,41,42,43,44,34] [34] .L) (.join [45,46,47,48,49,50,51,52,34,53,54,55,56,57,58,59,60,61,62,63,64,65,66,67,68,69,70,71,72,73,74,75,76,77,78,79,80,81,82,83,84,85,86,87,88,89,90,91,92,93,94,95,96,97] [34] (.T .L (.T (.join [45,46,47,48,49,50,51,52,34] [34] .L) (.join [53,54,55,56,57,58,59,60,61,62,63,34,64,65,66,67,68,69,70,71,72,73,74,75,76,77,78,79,80,81,82,83,84,85,86,87,88,89,90,91,92,93,94,95,96,97] [34] (.T .L (.T (.join [53,54,55,56,57,58,59,60,61,62,63,34] [34] .L) (.join [64,65,66,67,68,69,70,71,72,34,73,74,75,76,77,78,79,80,81,82,83,84,85,86,87,88,89,90,91,92,93,94,95,96,97] [34] (.T .L (.T (.join [64,65,66,67,68,69,70,71,72,34] [34] .L) (.join [73,74,75,76,77,78,79,80,81,34,82,83,84,85,86,87,88,89,90,91,92,93,94,95,96,97] [34] (.T .L (.T (.join [73,74,75,76,77,78,79,80,81,34] [34] .L) (.join [82,83,84,85,86,87,88,89,34,90,91,92,93,94,95,96,97] [34] (.T .L (.T (.join [82,83,84,85,86,87,88,89,34] [34] .L) (.join [90,91,92,93,94,95,96,97,34] [34] (.T .L (.join [90,91,92,93,94,95,96,97,34] [34] .L)))))))))))))))))))))) (.join [98,99,100,102,103,104,105,101,106,107,108] [] (.T .L (.T .L (.join [106,107,108] [] (.T .L .L))))))))))) (.T (.T .L (.T .L .L)) (.T .L (.T .L (.T (.T (.join [129,130,131,132,133,134,135,136] [136] .L) (.join [137,138,139] [] (.T .L .L))) (.T (.T (.jb [140,141,142,143,144,145,146,147] 147 .L) (.join [148,149,150] [] (.T .L .L))) (.T (.T .L (.one (.loop [155,156,157,10,158,159,160,161,162,163,164,165,166,167,168,154] [154] (.T .L (.T (.T .L .L) (.T (.one (.T .L (.T (.T .L (.join [161,162,163] [] (.T .L .L))) .L))) .L)))))) (.T (.T (.jb [169,170,171,172,173,174] 174 .L) (.join [175,176,177] [] (.T .L .L))) (.T .L .L)))))))))))))
theorem nA (ω:Amb)(w_p s_p dm:Value)(h:Hp)(R:RT)(X:XT)(hk:fB ω w_p s_p dm h R X):aa Tryz.prog ω 120 [w_p,s_p,dm] h R X :=
 al (an:=mL) Tryz.func120 (by kernel_rfl) hk
abbrev mH:Nat:=138
def fx (ω:Amb)(w_p H3 s_p bU:Value)(h:Hp)(R:RT)(X:XT):Prop :=
 ∃β0:Bool,
 (asB H3 fun b2=>cond (!b2)
 (asS s_p fun s3=>((.bool (!(s3.toList==ByteArray.toList ⟨#[]⟩))):Value)=.bool β0∧h=h)
 (((.bool false):Value)=.bool β0∧h=h)) ∧
 ∀d1:Nat→Value,
 ∃J4:Hp→Prop,
 (cond β0
 (aa Tryz.prog ω 65 [w_p,.int .i64 5,bU] h (fun r7 h8 =>
 J4 h8) X)
 (J4 h)) ∧
 ∀(d5:Nat→Value) (h6:Hp),J4 h6 →
 ∃J9:RT,
 (asB H3 fun b13=>cond b13
 (aa Tryz.prog ω 92 [s_p] h6 (fun r14 h15 =>
 asB r14 fun b16=>J9 (.bool (!b16)) h15) X)
 (J9 (.bool false) h6)) ∧
 ∀JW (d11:Nat→Value) (h12:Hp),J9 JW h12 →
 ∃J17:Hp→Prop,
 (asB JW fun b20=>cond b20
 (aa Tryz.prog ω 65 [w_p,.int .i64 4,bU] h12 (fun r21 h22 =>
 J17 h22) X)
 (J17 h12)) ∧
 ∀(d18:Nat→Value) (h19:Hp),J17 h19 →
 R (.tuple #[]) h19
def nf:Ann :=
 (.T (.T (.jb [8,9,10,11,12,13] 13 .L) (.join [14,15,16] [] (.T .L .L))) (.T (.join [17,18,19,20,21,22] [22] .L) (.join [23,24,25] [] (.T .L .L))))
theorem nJ (ω:Amb)(w_p H3 s_p bU:Value)(h:Hp)(R:RT)(X:XT)(hk:fx ω w_p H3 s_p bU h R X):aa Tryz.prog ω 138 [w_p,H3,s_p,bU] h R X :=
 al (an:=nf) Tryz.func138 (by kernel_rfl) hk
abbrev vA:Nat:=139
def qg (ω:Amb)(x_p jP:Value)(h:Hp)(R:RT)(X:XT):Prop :=
 asK .i64 jP fun n0=>∃(I1:Value→RT) (μ2:Value→Value→Hp→Nat),I1 (.int .i64 (IntKind.wrap .i64 (n0 - 1))) (.int .i64 0) (h.push (.cells (Value.cells x_p) 36 (0,0)))∧∀y4 i_4 (d5:Nat→Value) (h6:Hp),I1 y4 i_4 h6 →
 ∃β7:Bool,
 (∃v9,af h6 (Addr.add ⟨h.size,0,none⟩ 3)=some v9 ∧
 bR v9 fun a10 l11 c12=>asK .i64 i_4 fun n13=>cond (decide (n13 < (l11:Int)))
 (asK .i64 y4 fun n14=>((.bool (decide (n14≥0))):Value)=.bool β7∧h6=h6)
 (((.bool false):Value)=.bool β7∧h6=h6)) ∧
 ∀d8:Nat→Value,
 cond β7
 (∃v15,af h6 (Addr.add ⟨h.size,0,none⟩ 3)=some v15 ∧
 aI v15 fun a16 l17 c18=>asI i_4 fun n19=>0≤n19∧n19 < (l17:Int)∧∃C20,aj h6 (Addr.add a16 (n19.toNat*4)) 4 C20 ∧
 aa Tryz.prog ω 139 [.agg C20.toArray,y4] h6 (fun r21 h22 =>
 asK .i64 i_4 fun n23=>I1 r21 (.int .i64 (IntKind.wrap .i64 (n23+1))) h22∧μ2 r21 (.int .i64 (IntKind.wrap .i64 (n23+1))) h22 < μ2 y4 i_4 h6) X)
 (R y4 h6)
def vu:Ann :=
 (.T .L (.T .L (.T (.T .L (.one (.loop [8,9,10,11,12,13,14,15,16,19,20,21,22,23,24,25,1,17,18,5] [1,5] (.T (.T (.jb [8,9,10,11,12,13,14,15,16] 16 .L) (.T .L .L)) (.T (.one .L) .L))))) (.T .L .L))))
theorem vi (ω:Amb)(x_p jP:Value)(h:Hp)(R:RT)(X:XT)(hk:qg ω x_p jP h R X):aa Tryz.prog ω 139 [x_p,jP] h R X :=
 al (an:=vu) Tryz.func139 (by kernel_rfl) hk
abbrev mq:Nat:=140
abbrev bh (h:Hp)(x_p:Value):Hp:=h.push (.cells (Value.cells x_p) 36 (0,0))
def fM (ω:Amb)(w_p x_p bU:Value)(h:Hp)(R:RT)(X:XT):Prop :=
 nnK w_p (asP w_p fun p0 =>
 ∃v1,af (bh h x_p) (Addr.add (Addr.add p0 1) 0)=some v1 ∧
 asK .i64 v1 fun n2=>cond (n2 !=(0:Int))
 (R (.tuple #[]) (bh h x_p))
 (∃J3:RT,
 (∃J7:RT,
 (∃v11,af (bh h x_p) (Addr.add ⟨h.size,0,none⟩ 0)=some v11 ∧
 asK .i64 v11 fun n12=>cond (n12==(1:Int))
 (J7 (.bool true) (bh h x_p))
 (∃v13,af (bh h x_p) (Addr.add ⟨h.size,0,none⟩ 0)=some v13 ∧
 asK .i64 v13 fun n14=>J7 (.bool (n14==(2:Int))) (bh h x_p))) ∧
 ∀NF (d9:Nat→Value) (h10:Hp),J7 NF h10 →
 ∃J15:RT,
 (asB NF fun b19=>cond b19
 (J15 (.int .i64 0) h10)
 (∃v20,af h10 (Addr.add ⟨h.size,0,none⟩ 0)=some v20 ∧
 asK .i64 v20 fun n21=>∃J22:RT,
 (cond (n21==(3:Int))
 (J22 (.int .i64 1) h10)
 (∃J26:RT,
 (∃v30,af h10 (Addr.add ⟨h.size,0,none⟩ 0)=some v30 ∧
 asK .i64 v30 fun n31=>cond (decide (n31 < 1))
 (J26 (.bool true) h10)
 (∃v32,af h10 (Addr.add ⟨h.size,0,none⟩ 0)=some v32 ∧
 asK .i64 v32 fun n33=>J26 (.bool (decide (n33 > 8))) h10)) ∧
 ∀JL (d28:Nat→Value) (h29:Hp),J26 JL h29 →
 asB JL fun b34=>cond b34
 (aa Tryz.prog ω 65 [w_p,.int .i64 5,bU] h29 (fun r35 h36 =>
 R (.tuple #[]) h36) X)
 (J22 (.int .i64 2) h29))) ∧
 ∀Dc (d24:Nat→Value) (h25:Hp),J22 Dc h25 →
 J15 Dc h25)) ∧
 ∀CI (d17:Nat→Value) (h18:Hp),J15 CI h18 →
 J3 CI h18) ∧
 ∀GO (d5:Nat→Value) (h6:Hp),J3 GO h6 →
 ∃β37:Bool,
 (∃v39,af h6 (Addr.add ⟨h.size,0,none⟩ 3)=some v39 ∧
 bR v39 fun a40 l41 c42=>asK .i64 GO fun n43=>cond ((l41:Int) !=n43)
 (((.bool true):Value)=.bool β37∧h6=h6)
 (∃v44,af h6 (Addr.add ⟨h.size,0,none⟩ 0)=some v44 ∧
 asK .i64 v44 fun n45=>cond (n45 !=(1:Int))
 (∃v46,af h6 (Addr.add ⟨h.size,0,none⟩ 2)=some v46 ∧
 asK .i64 v46 fun n47=>cond (n47 !=(0:Int))
 (((.bool true):Value)=.bool β37∧h6=h6)
 (∃v48,af h6 (Addr.add ⟨h.size,0,none⟩ 0)=some v48 ∧
 asK .i64 v48 fun n49=>cond (n49 !=(2:Int))
 (∃v50,af h6 (Addr.add ⟨h.size,0,none⟩ 1)=some v50 ∧
 asS v50 fun s51=>((.bool (!(s51.toList==ByteArray.toList ⟨#[]⟩))):Value)=.bool β37∧h6=h6)
 (((.bool false):Value)=.bool β37∧h6=h6)))
 (∃v52,af h6 (Addr.add ⟨h.size,0,none⟩ 0)=some v52 ∧
 asK .i64 v52 fun n53=>cond (n53 !=(2:Int))
 (∃v54,af h6 (Addr.add ⟨h.size,0,none⟩ 1)=some v54 ∧
 asS v54 fun s55=>((.bool (!(s55.toList==ByteArray.toList ⟨#[]⟩))):Value)=.bool β37∧h6=h6)
 (((.bool false):Value)=.bool β37∧h6=h6)))) ∧
 ∀d38:Nat→Value,
 cond β37
 (aa Tryz.prog ω 65 [w_p,.int .i64 5,bU] h6 (fun r56 h57 =>
 R (.tuple #[]) h57) X)
 (∃J58:RT,
 (∃v62,af h6 (Addr.add ⟨h.size,0,none⟩ 0)=some v62 ∧
 asK .i64 v62 fun n63=>cond (n63==(2:Int))
 (∃v64,af h6 (Addr.add ⟨h.size,0,none⟩ 1)=some v64 ∧
 aa Tryz.prog ω 92 [v64] h6 (fun r65 h66 =>
 asB r65 fun b67=>J58 (.bool (!b67)) h66) X)
 (J58 (.bool false) h6)) ∧
 ∀KP (d60:Nat→Value) (h61:Hp),J58 KP h61 →
 ∃J68:Hp→Prop,
 (asB KP fun b71=>cond b71
 (aa Tryz.prog ω 65 [w_p,.int .i64 4,bU] h61 (fun r72 h73 =>
 J68 h73) X)
 (J68 h61)) ∧
 ∀(d69:Nat→Value) (h70:Hp),J68 h70 →
 ∃β74:Bool,
 (∃v76,af h70 (Addr.add ⟨h.size,0,none⟩ 2)=some v76 ∧
 asK .i64 v76 fun n77=>cond (decide (n77 < 0))
 (((.bool true):Value)=.bool β74∧h70=h70)
 (∃v78,af h70 (Addr.add ⟨h.size,0,none⟩ 2)=some v78 ∧
 asK .i64 v78 fun n79=>((.bool (decide (n79≥1000000000000000000))):Value)=.bool β74∧h70=h70)) ∧
 ∀d75:Nat→Value,
 ∃J80:Hp→Prop,
 (cond β74
 (aa Tryz.prog ω 65 [w_p,.int .i64 3,bU] h70 (fun r83 h84 =>
 J80 h84) X)
 (J80 h70)) ∧
 ∀(d81:Nat→Value) (h82:Hp),J80 h82 →
 ∃v85,af h82 (Addr.add ⟨h.size,0,none⟩ 3)=some v85 ∧
 bR v85 fun a86 l87 c88=>∃(I89:RT) (μ90:Value→Hp→Nat),I89 (.int .i64 0) h82∧∀yM (d92:Nat→Value) (h93:Hp),I89 yM h93 →
 asK .i64 yM fun n94=>cond (decide (n94 < (l87:Int)))
 (aI v85 fun a95 l96 c97=>asI yM fun n98=>0≤n98∧n98 < (l96:Int)∧∃C99,aj h93 (Addr.add a95 (n98.toNat*4)) 4 C99 ∧
 C99.toArray.size=4∧(∀u∈C99.toArray.toList,one u)∧av (h93.push (.cells #[.int .i64 0,.string ⟨#[]⟩,.int .i64 0,.slice none 0 0] 36 (0,0))) ⟨h93.size,0,none⟩ C99.toArray.toList fun h100 =>
 ∃C101,aj h100 ⟨h93.size,0,none⟩ 4 C101 ∧
 aa Tryz.prog ω 140 [w_p,.agg C101.toArray,bU] h100 (fun r102 h103 =>
 asK .i64 yM fun n104=>I89 (.int .i64 (IntKind.wrap .i64 (n104+1))) h103∧μ90 (.int .i64 (IntKind.wrap .i64 (n104+1))) h103 < μ90 yM h93) X)
 (R (.tuple #[]) h93))))
def mP:Ann :=
 (.T .L (.T (.T .L (.T .L .L)) (.T .L (.T (.join [16,17,18,19,20,21,22,23,15,6,25,26,27,24,29,30,31,32,33,34,35,36,28,37,38,39] [6] (.one (.T (.join [16,17,18,19,20,21,22,23,15] [15] .L) (.join [6,25,26,27,24,29,30,31,32,33,34,35,36,28,37,38,39] [6] (.T .L (.T .L (.join [6,29,30,31,32,33,34,35,36,28,37,38,39] [6] (.T .L (.T (.join [29,30,31,32,33,34,35,36,28] [28] .L) (.T (.T .L .L) .L)))))))))) (.T (.T (.jb [40,41,42,43,44,45,46,47,48,49,50,51,52,53,54,55,56,57,58,59,60,61,62,63,64] 64 .L) (.T (.T .L .L) .L)) (.T (.T (.join [68,69,70,71,72,73,74,75,76] [76] .L) (.join [77,78,79] [] (.T .L .L))) (.T (.T (.jb [80,81,82,83,84,85,86,87] 87 .L) (.join [88,89,90] [] (.T .L .L))) (.T .L (.one (.loop [95,96,97,8,98,99,100,101,102,94] [94] (.T .L (.T (.T .L .L) (.T (.one (.T .L .L)) .L)))))))))))))
theorem nB (ω:Amb)(w_p x_p bU:Value)(h:Hp)(R:RT)(X:XT)(hk:fM ω w_p x_p bU h R X):aa Tryz.prog ω 140 [w_p,x_p,bU] h R X :=
 al (an:=mP) Tryz.func140 (by kernel_rfl) hk
end Go.Proofs.YtkeeboomikkojaaGreatDoor.Sx
set_option linter.unusedVariables false
set_option maxRecDepth 100000
namespace Go.Proofs.YtkeeboomikkojaaGreatDoor.Sx
open Go Go.Sx Go.Proofs
abbrev vr:Nat:=34
abbrev cv (h:Hp)(o4:Value):Hp:=h.push (.cells (Value.cells o4) 24 (0,0))
def qd (ω:Amb)(o4:Value)(h:Hp)(R:RT)(X:XT):Prop :=
 ∃v0,af (Array.push (cv h o4) (.cells #[.pointer none,.slice none 0 0,.int .i64 0] 111 (0,0))) (Addr.add ⟨h.size,0,none⟩ 0)=some v0 ∧
 bR v0 fun a1 l2 c3=>∃(I4:RT) (μ5:Value→Hp→Nat),I4 (.int .i64 0) (Array.push (cv h o4) (.cells #[.pointer none,.slice none 0 0,.int .i64 0] 111 (0,0)))∧∀uQ (d7:Nat→Value) (h8:Hp),I4 uQ h8 →
 asK .i64 uQ fun n9=>cond (decide (n9 < (l2:Int)))
 (aI v0 fun a10 l11 c12=>asI uQ fun n13=>0≤n13∧n13 < (l11:Int)∧∃C14,aj h8 (Addr.add a10 (n13.toNat*4)) 4 C14 ∧
 C14.toArray.size=4∧(∀u∈C14.toArray.toList,one u)∧av (h8.push (.cells #[.string ⟨#[]⟩,.int .i64 0,.slice none 0 0,.slice none 0 0] 41 (0,0))) ⟨h8.size,0,none⟩ C14.toArray.toList fun h15 =>
 ∃v16,af h15 (Addr.add ⟨h8.size,0,none⟩ 2)=some v16 ∧
 bR v16 fun a17 l18 c19=>∃(I20:Value→RT) (μ21:Value→Value→Hp→Nat),I20 (.slice none 0 0) (.int .i64 0) h15∧∀O6 yF (d24:Nat→Value) (h25:Hp),I20 O6 yF h25 →
 asK .i64 yF fun n26=>cond (decide (n26 < (l18:Int)))
 (aI v16 fun a27 l28 c29=>asI yF fun n30=>0≤n30∧n30 < (l28:Int)∧∃C31,aj h25 (Addr.add a27 (n30.toNat*2)) 2 C31 ∧
 C31.toArray.size=2∧(∀u∈C31.toArray.toList,one u)∧av (h25.push (.cells #[.string ⟨#[]⟩,.string ⟨#[]⟩] 32 (0,0))) ⟨h25.size,0,none⟩ C31.toArray.toList fun h32 =>
 ∃v33,af h32 (Addr.add ⟨h25.size,0,none⟩ 0)=some v33 ∧
 asS v33 fun s34=>s34.size+ByteArray.size ⟨#[32]⟩≤9223372036854775807∧∃v35,af h32 (Addr.add ⟨h25.size,0,none⟩ 1)=some v35 ∧
 aa Tryz.prog ω 59 [v35] h32 (fun r36 h37 =>
 af h37 (Addr.add ⟨h25.size,0,none⟩ 0)=some v33∧asS r36 fun s38=>ByteArray.size (s34++⟨#[32]⟩)+s38.size≤9223372036854775807∧x2 Tryz.prog 112 (h37.push (.cells (List.toArray [(.string ((s34++⟨#[32]⟩)++s38))]) 9 (0,0))) O6 (.slice (some ⟨h37.size,0,none⟩) 1 1) fun w39 h40 =>
 asK .i64 yF fun n41=>I20 w39 (.int .i64 (IntKind.wrap .i64 (n41+1))) h40∧μ21 w39 (.int .i64 (IntKind.wrap .i64 (n41+1))) h40 < μ21 O6 yF h25) X)
 (∃v42,af h25 (Addr.add ⟨h8.size,0,none⟩ 0)=some v42 ∧
 aa Tryz.prog ω 61 [O6,(.string ⟨#[44,32]⟩)] h25 (fun r43 h44 =>
 af h44 (Addr.add ⟨h8.size,0,none⟩ 0)=some v42∧cq v42 (cq r43 (aa Tryz.prog ω 60 [(.pointer (some ⟨Array.size (cv h o4),0,none⟩)),(.slice (some ⟨h44.size,0,none⟩) 5 5)] (h44.push (.cells (List.toArray [(.string ⟨#[115,116,97,103,101,32]⟩),v42,(.string ⟨#[40]⟩),r43,(.string ⟨#[41]⟩)]) 9 (0,0))) (fun r45 h46 =>
 ∃v47,af h46 (Addr.add ⟨h8.size,0,none⟩ 3)=some v47 ∧
 aa Tryz.prog ω 62 [(.pointer (some ⟨Array.size (cv h o4),0,none⟩)),v47] h46 (fun r48 h49 =>
 aa Tryz.prog ω 63 [(.pointer (some ⟨Array.size (cv h o4),0,none⟩)),(.slice (some ⟨h49.size,0,none⟩) 1 1)] (h49.push (.cells (List.toArray [(.string ⟨#[10]⟩)]) 9 (0,0))) (fun r50 h51 =>
 asK .i64 uQ fun n52=>I4 (.int .i64 (IntKind.wrap .i64 (n52+1))) h51∧μ5 (.int .i64 (IntKind.wrap .i64 (n52+1))) h51 < μ5 uQ h8) X) X) X))) X))
 (aa Tryz.prog ω 64 [(.pointer (some (Addr.add ⟨Array.size (cv h o4),0,none⟩ 0)))] h8 (fun r53 h54 =>
 R r53 h54) X)
def vt:Ann :=
 (.T .L (.T .L (.T (.T .L (.one (.loop [15,16,17,5,6,18,19,20,21,22,23,24,8,25,26,27,28,29,30,31,32,33,34,35,36,37,38,39,40,41,42,43,44,45,46,47,48,49,50,14] [14] (.T .L (.T (.T .L .L) (.T (.one (.T .L (.T .L (.T (.T .L (.one (.loop [22,23,24,8,25,26,27,28,29,30,31,32,33,34,6,35,21] [6,21] (.T .L (.T (.T .L .L) (.T (.one (.T .L (.plan [0,1,2,3,4,5,6,7,8,9,10]))) .L)))))) (.T (.plan [0,1,2,3,4,5,6]) (.T .L .L)))))) .L)))))) (.T .L .L))))
theorem vB (ω:Amb)(o4:Value)(h:Hp)(R:RT)(X:XT)(hk:qd ω o4 h R X):aa Tryz.prog ω 34 [o4] h R X :=
 al (an:=vt) Tryz.func34 (by kernel_rfl) hk
abbrev vd:Nat:=59
def qm (ω:Amb)(t_p:Value)(h:Hp)(R:RT)(X:XT):Prop :=
 asS t_p fun s0=>∃(I1:RT) (μ2:Value→Hp→Nat),I1 (.int .i64 0) (h.push (.cells #[.pointer none,.slice none 0 0] 109 (0,0)))∧∀M2 (d4:Nat→Value) (h5:Hp),I1 M2 h5 →
 asK .i64 M2 fun n6=>cond (decide (n6 < (IntKind.wrap .i64 ((s0.size:Int) - 1))))
 (∃J7:Hp→Prop,
 (asS t_p fun s10=>asI M2 fun n11=>0≤n11∧n11 < (s10.size:Int)∧∃J12:Hp→Prop,
 (cond ((aU s10 n11)==(115:Int))
 (aa Tryz.prog ω 88 [(.pointer (some ⟨h.size,0,none⟩)),(.string ⟨#[115,101,110,100,32]⟩)] h5 (fun r15 h16 =>
 J12 h16) X)
 (aa Tryz.prog ω 88 [(.pointer (some ⟨h.size,0,none⟩)),(.string ⟨#[114,101,99,118,32]⟩)] h5 (fun r17 h18 =>
 J12 h18) X)) ∧
 ∀(d13:Nat→Value) (h14:Hp),J12 h14 →
 J7 h14) ∧
 ∀(d8:Nat→Value) (h9:Hp),J7 h9 →
 asK .i64 M2 fun n19=>I1 (.int .i64 (IntKind.wrap .i64 (n19+1))) h9∧μ2 (.int .i64 (IntKind.wrap .i64 (n19+1))) h9 < μ2 M2 h5)
 (aa Tryz.prog ω 64 [(.pointer (some ⟨h.size,0,none⟩))] h5 (fun r20 h21 =>
 asS r20 fun s22=>s22.size+ByteArray.size ⟨#[105,110,116]⟩≤9223372036854775807∧R (.string (s22++⟨#[105,110,116]⟩)) h21) X)
def u7:Ann :=
 (.T .L (.T .L (.T (.T .L (.one (.loop [9,10,4,11,12,13,14,15,16,17,8] [8] (.T .L (.T (.T .L .L) (.T (.join [10,4,11,12,13,14,15,16] [] (.one (.T .L (.T .L (.join [15,16] [] (.T .L .L)))))) .L)))))) (.T .L .L))))
theorem vk (ω:Amb)(t_p:Value)(h:Hp)(R:RT)(X:XT)(hk:qm ω t_p h R X):aa Tryz.prog ω 59 [t_p] h R X :=
 al (an:=u7) Tryz.func59 (by kernel_rfl) hk
abbrev pP:Nat:=60
def hZ (ω:Amb)(p_p l_p:Value)(h:Hp)(R:RT)(X:XT):Prop :=
 nnK p_p (asP p_p fun p0 =>
 ∃v1,af h (Addr.add p0 2)=some v1 ∧
 aa Tryz.prog ω 89 [(.string ⟨#[9]⟩),v1] h (fun r2 h3 =>
 cq r2 (aa Tryz.prog ω 63 [p_p,(.slice (some ⟨h3.size,0,none⟩) 1 1)] (h3.push (.cells (List.toArray [r2]) 9 (0,0))) (fun r4 h5 =>
 aa Tryz.prog ω 63 [p_p,l_p] h5 (fun r6 h7 =>
 R (.tuple #[]) h7) X) X)) X)
def pX:Ann :=
 (.T .L .L)
theorem pZ (ω:Amb)(p_p l_p:Value)(h:Hp)(R:RT)(X:XT)(hk:hZ ω p_p l_p h R X):aa Tryz.prog ω 60 [p_p,l_p] h R X :=
 al (an:=pX) Tryz.func60 (by kernel_rfl) hk
abbrev oH:Nat:=62
def gy (ω:Amb)(p_p l_p:Value)(h:Hp)(R:RT)(X:XT):Prop :=
 aa Tryz.prog ω 63 [p_p,(.slice (some ⟨h.size,0,none⟩) 1 1)] (h.push (.cells (List.toArray [(.string ⟨#[32,123,10]⟩)]) 9 (0,0))) (fun r0 h1 =>
 nnK p_p (asP p_p fun p2 =>
 ∃v3,af h1 (Addr.add p2 2)=some v3 ∧
 asK .i64 v3 fun n4=>nnK p_p (asP p_p fun p5 =>
 aJ h1 (Addr.add p5 2) (.int .i64 (IntKind.wrap .i64 (n4+1))) fun h6 =>
 bR l_p fun a7 l8 c9=>∃(I10:RT) (μ11:Value→Hp→Nat),I10 (.int .i64 0) h6∧∀yw (d13:Nat→Value) (h14:Hp),I10 yw h14 →
 asK .i64 yw fun n15=>cond (decide (n15 < (l8:Int)))
 (aI l_p fun a16 l17 c18=>asI yw fun n19=>0≤n19∧n19 < (l17:Int)∧∃C20,aj h14 (Addr.add a16 (n19.toNat*9)) 9 C20 ∧
 C20.toArray.size=9∧(∀u∈C20.toArray.toList,one u)∧av (h14.push (.cells #[.int .i64 0,.int .i64 0,.string ⟨#[]⟩,.string ⟨#[]⟩,.string ⟨#[]⟩,.int .i64 0,.slice none 0 0,.slice none 0 0,.slice none 0 0] 39 (0,0))) ⟨h14.size,0,none⟩ C20.toArray.toList fun h21 =>
 ∃C22,aj h21 ⟨h14.size,0,none⟩ 9 C22 ∧
 aa Tryz.prog ω 91 [p_p,.agg C22.toArray] h21 (fun r23 h24 =>
 asK .i64 yw fun n25=>I10 (.int .i64 (IntKind.wrap .i64 (n25+1))) h24∧μ11 (.int .i64 (IntKind.wrap .i64 (n25+1))) h24 < μ11 yw h14) X)
 (nnK p_p (asP p_p fun p26 =>
 ∃v27,af h14 (Addr.add p26 2)=some v27 ∧
 asK .i64 v27 fun n28=>nnK p_p (asP p_p fun p29 =>
 aJ h14 (Addr.add p29 2) (.int .i64 (IntKind.wrap .i64 (n28 - 1))) fun h30 =>
 aa Tryz.prog ω 60 [p_p,(.slice (some ⟨h30.size,0,none⟩) 1 1)] (h30.push (.cells (List.toArray [(.string ⟨#[125]⟩)]) 9 (0,0))) (fun r31 h32 =>
 R (.tuple #[]) h32) X)))))) X
def od:Ann :=
 (.T .L (.T .L (.T (.T .L (.one (.loop [19,20,21,5,22,23,24,25,18] [18] (.T .L (.T (.T .L .L) (.T (.one (.T .L .L)) .L)))))) (.T .L .L))))
theorem oP (ω:Amb)(p_p l_p:Value)(h:Hp)(R:RT)(X:XT)(hk:gy ω p_p l_p h R X):aa Tryz.prog ω 62 [p_p,l_p] h R X :=
 al (an:=od) Tryz.func62 (by kernel_rfl) hk
abbrev iF:Nat:=63
def ja (ω:Amb)(p_p l_p:Value)(h:Hp)(R:RT)(X:XT):Prop :=
 bR l_p fun a0 l1 c2=>∃(I3:RT) (μ4:Value→Hp→Nat),I3 (.int .i64 0) h∧∀tg (d6:Nat→Value) (h7:Hp),I3 tg h7 →
 asK .i64 tg fun n8=>cond (decide (n8 < (l1:Int)))
 (aI l_p fun a9 l10 c11=>asI tg fun n12=>0≤n12∧n12 < (l10:Int)∧∃v13,af h7 (Addr.add a9 (n12.toNat*1))=some v13 ∧
 nnK p_p (asP p_p fun p14 =>
 aa Tryz.prog ω 88 [(.pointer (some (Addr.add p14 0))),v13] h7 (fun r15 h16 =>
 asK .i64 tg fun n17=>I3 (.int .i64 (IntKind.wrap .i64 (n17+1))) h16∧μ4 (.int .i64 (IntKind.wrap .i64 (n17+1))) h16 < μ4 tg h7) X))
 (R (.tuple #[]) h7)
def qA:Ann :=
 (.T .L (.one (.loop [9,10,11,5,12,13,14,15,16,17,8] [8] (.T .L (.T (.T .L .L) (.T (.one (.T .L .L)) .L))))))
theorem qw (ω:Amb)(p_p l_p:Value)(h:Hp)(R:RT)(X:XT)(hk:ja ω p_p l_p h R X):aa Tryz.prog ω 63 [p_p,l_p] h R X :=
 al (an:=qA) Tryz.func63 (by kernel_rfl) hk
abbrev pM:Nat:=91
def ib (ω:Amb)(p_p s_p:Value)(h:Hp)(R:RT)(X:XT):Prop :=
 ∃C0,aj (h.push (.cells (Value.cells s_p) 39 (0,0))) ⟨h.size,0,none⟩ 9 C0 ∧
 ∃v1,af (h.push (.cells (Value.cells s_p) 39 (0,0))) (Addr.add ⟨h.size,0,none⟩ 6)=some v1 ∧
 aa Tryz.prog ω 117 [.agg C0.toArray] (h.push (.cells (Value.cells s_p) 39 (0,0))) (fun r2 h3 =>
 af h3 (Addr.add ⟨h.size,0,none⟩ 6)=some v1∧aa Tryz.prog ω 118 [v1] h3 (fun r4 h5 =>
 cq r2 (cq r4 (aa Tryz.prog ω 60 [p_p,(.slice (some ⟨h5.size,0,none⟩) 2 2)] (h5.push (.cells (List.toArray [r2,r4]) 9 (0,0))) (fun r6 h7 =>
 ∃v8,af h7 (Addr.add ⟨h.size,0,none⟩ 0)=some v8 ∧
 aa Tryz.prog ω 119 [v8] h7 (fun r9 h10 =>
 asT r9 fun T11=>asO T11[0]? fun v12=>asT r9 fun T13=>asO T13[1]? fun v14=>asA v12 fun A15=>A15.size=7∧(∀u∈A15.toList,one u)∧av (h10.push (.cells #[.bool false,.bool false,.bool false,.bool false,.int .i64 0,.bool false,.bool false] 165 (0,0))) ⟨h10.size,0,none⟩ A15.toList fun h16 =>
 ∃v17,af h16 (Addr.add ⟨h10.size,0,none⟩ 5)=some v17 ∧
 asB v17 fun b18=>cond (!b18)
 (∃v19,af h16 (Addr.add ⟨h.size,0,none⟩ 0)=some v19 ∧
 asK .i64 v19 fun n20=>∃J21:Hp→Prop,
 (cond (n20==(10:Int))
 (aa Tryz.prog ω 63 [p_p,(.slice (some ⟨h16.size,0,none⟩) 1 1)] (h16.push (.cells (List.toArray [(.string ⟨#[41]⟩)]) 9 (0,0))) (fun r24 h25 =>
 J21 h25) X)
 (J21 h16)) ∧
 ∀(d22:Nat→Value) (h23:Hp),J21 h23 →
 aa Tryz.prog ω 63 [p_p,(.slice (some ⟨h23.size,0,none⟩) 1 1)] (h23.push (.cells (List.toArray [(.string ⟨#[59,10]⟩)]) 9 (0,0))) (fun r26 h27 =>
 R (.tuple #[]) h27) X)
 (∃v28,af h16 (Addr.add ⟨h.size,0,none⟩ 7)=some v28 ∧
 aa Tryz.prog ω 62 [p_p,v28] h16 (fun r29 h30 =>
 ∃v31,af h30 (Addr.add ⟨h.size,0,none⟩ 8)=some v31 ∧
 bR v31 fun a32 l33 c34=>∃J35:Hp→Prop,
 (cond (decide ((l33:Int) > 0))
 (aa Tryz.prog ω 63 [p_p,(.slice (some ⟨h30.size,0,none⟩) 1 1)] (h30.push (.cells (List.toArray [(.string ⟨#[32,101,108,115,101]⟩)]) 9 (0,0))) (fun r38 h39 =>
 ∃v40,af h39 (Addr.add ⟨h.size,0,none⟩ 8)=some v40 ∧
 aa Tryz.prog ω 62 [p_p,v40] h39 (fun r41 h42 =>
 J35 h42) X) X)
 (J35 h30)) ∧
 ∀(d36:Nat→Value) (h37:Hp),J35 h37 →
 aa Tryz.prog ω 63 [p_p,(.slice (some ⟨h37.size,0,none⟩) 1 1)] (h37.push (.cells (List.toArray [(.string ⟨#[10]⟩)]) 9 (0,0))) (fun r43 h44 =>
 R (.tuple #[]) h44) X) X)) X) X))) X) X
def pW:Ann :=
 (.T .L (.T (.plan [0,1,3,4,2,5,6,7]) (.T .L (.T (.T .L (.T (.T (.T .L (.join [26,27,28] [] (.T .L .L))) (.T .L .L)) .L)) (.T .L (.T (.T .L (.join [40,41,42,43,44,45,46] [] (.T (.T .L .L) .L))) .L))))))
theorem qb (ω:Amb)(p_p s_p:Value)(h:Hp)(R:RT)(X:XT)(hk:ib ω p_p s_p h R X):aa Tryz.prog ω 91 [p_p,s_p] h R X :=
 al (an:=pW) Tryz.func91 (by kernel_rfl) hk
abbrev yi:Nat:=117
abbrev aB (h:Hp)(s_p:Value):Hp:=h.push (.cells (Value.cells s_p) 39 (0,0))
def rG (ω:Amb)(s_p:Value)(h:Hp)(R:RT)(X:XT):Prop :=
 ∃v0,af (aB h s_p) (Addr.add ⟨h.size,0,none⟩ 0)=some v0 ∧
 asK .i64 v0 fun n1=>cond (n1==(1:Int))
 (∃v2,af (aB h s_p) (Addr.add ⟨h.size,0,none⟩ 2)=some v2 ∧
 asS v2 fun s3=>ByteArray.size ⟨#[108,101,116,32]⟩+s3.size≤9223372036854775807∧ByteArray.size (⟨#[108,101,116,32]⟩++s3)+ByteArray.size ⟨#[32,61,32]⟩≤9223372036854775807∧R (.string ((⟨#[108,101,116,32]⟩++s3)++⟨#[32,61,32]⟩)) (aB h s_p))
 (asK .i64 v0 fun n4=>cond (n4==(2:Int))
 (∃v5,af (aB h s_p) (Addr.add ⟨h.size,0,none⟩ 2)=some v5 ∧
 asS v5 fun s6=>ByteArray.size ⟨#[115,101,116,32]⟩+s6.size≤9223372036854775807∧ByteArray.size (⟨#[115,101,116,32]⟩++s6)+ByteArray.size ⟨#[32,61,32]⟩≤9223372036854775807∧R (.string ((⟨#[115,101,116,32]⟩++s6)++⟨#[32,61,32]⟩)) (aB h s_p))
 (asK .i64 v0 fun n7=>cond (n7==(3:Int))
 (R (.string ⟨#[101,109,105,116,32]⟩) (aB h s_p))
 (asK .i64 v0 fun n8=>cond (n8==(4:Int))
 (∃v9,af (aB h s_p) (Addr.add ⟨h.size,0,none⟩ 2)=some v9 ∧
 asS v9 fun s10=>ByteArray.size ⟨#[99,104,97,110,32]⟩+s10.size≤9223372036854775807∧ByteArray.size (⟨#[99,104,97,110,32]⟩++s10)+ByteArray.size ⟨#[32]⟩≤9223372036854775807∧∃v11,af (aB h s_p) (Addr.add ⟨h.size,0,none⟩ 3)=some v11 ∧
 asS v11 fun s12=>ByteArray.size ((⟨#[99,104,97,110,32]⟩++s10)++⟨#[32]⟩)+s12.size≤9223372036854775807∧ByteArray.size (((⟨#[99,104,97,110,32]⟩++s10)++⟨#[32]⟩)++s12)+ByteArray.size ⟨#[32]⟩≤9223372036854775807∧∃v13,af (aB h s_p) (Addr.add ⟨h.size,0,none⟩ 4)=some v13 ∧
 ∃v14,af (aB h s_p) (Addr.add ⟨h.size,0,none⟩ 5)=some v14 ∧
 aa Tryz.prog ω 59 [v13] (aB h s_p) (fun r15 h16 =>
 af h16 (Addr.add ⟨h.size,0,none⟩ 5)=some v14∧af h16 (Addr.add ⟨h.size,0,none⟩ 3)=some v11∧af h16 (Addr.add ⟨h.size,0,none⟩ 2)=some v9∧asS r15 fun s17=>ByteArray.size ((((⟨#[99,104,97,110,32]⟩++s10)++⟨#[32]⟩)++s12)++⟨#[32]⟩)+s17.size≤9223372036854775807∧ByteArray.size (((((⟨#[99,104,97,110,32]⟩++s10)++⟨#[32]⟩)++s12)++⟨#[32]⟩)++s17)+ByteArray.size ⟨#[32]⟩≤9223372036854775807∧aa Tryz.prog ω 106 [v14] h16 (fun r18 h19 =>
 af h19 (Addr.add ⟨h.size,0,none⟩ 3)=some v11∧af h19 (Addr.add ⟨h.size,0,none⟩ 2)=some v9∧asS r18 fun s20=>ByteArray.size ((((((⟨#[99,104,97,110,32]⟩++s10)++⟨#[32]⟩)++s12)++⟨#[32]⟩)++s17)++⟨#[32]⟩)+s20.size≤9223372036854775807∧R (.string (((((((⟨#[99,104,97,110,32]⟩++s10)++⟨#[32]⟩)++s12)++⟨#[32]⟩)++s17)++⟨#[32]⟩)++s20)) h19) X) X)
 (asK .i64 v0 fun n21=>cond (n21==(5:Int))
 (∃v22,af (aB h s_p) (Addr.add ⟨h.size,0,none⟩ 2)=some v22 ∧
 asS v22 fun s23=>ByteArray.size ⟨#[99,108,111,110,101,32]⟩+s23.size≤9223372036854775807∧ByteArray.size (⟨#[99,108,111,110,101,32]⟩++s23)+ByteArray.size ⟨#[32]⟩≤9223372036854775807∧∃v24,af (aB h s_p) (Addr.add ⟨h.size,0,none⟩ 3)=some v24 ∧
 asS v24 fun s25=>ByteArray.size ((⟨#[99,108,111,110,101,32]⟩++s23)++⟨#[32]⟩)+s25.size≤9223372036854775807∧R (.string (((⟨#[99,108,111,110,101,32]⟩++s23)++⟨#[32]⟩)++s25)) (aB h s_p))
 (asK .i64 v0 fun n26=>cond (n26==(6:Int))
 (∃v27,af (aB h s_p) (Addr.add ⟨h.size,0,none⟩ 2)=some v27 ∧
 asS v27 fun s28=>ByteArray.size ⟨#[115,101,110,100,32]⟩+s28.size≤9223372036854775807∧ByteArray.size (⟨#[115,101,110,100,32]⟩++s28)+ByteArray.size ⟨#[32]⟩≤9223372036854775807∧R (.string ((⟨#[115,101,110,100,32]⟩++s28)++⟨#[32]⟩)) (aB h s_p))
 (asK .i64 v0 fun n29=>cond (n29==(7:Int))
 (∃v30,af (aB h s_p) (Addr.add ⟨h.size,0,none⟩ 2)=some v30 ∧
 asS v30 fun s31=>ByteArray.size ⟨#[99,108,111,115,101,32]⟩+s31.size≤9223372036854775807∧R (.string (⟨#[99,108,111,115,101,32]⟩++s31)) (aB h s_p))
 (asK .i64 v0 fun n32=>cond (n32==(8:Int))
 (∃v33,af (aB h s_p) (Addr.add ⟨h.size,0,none⟩ 2)=some v33 ∧
 asS v33 fun s34=>ByteArray.size ⟨#[97,98,97,110,100,111,110,32]⟩+s34.size≤9223372036854775807∧R (.string (⟨#[97,98,97,110,100,111,110,32]⟩++s34)) (aB h s_p))
 (asK .i64 v0 fun n35=>cond (n35==(9:Int))
 (∃v36,af (aB h s_p) (Addr.add ⟨h.size,0,none⟩ 2)=some v36 ∧
 asS v36 fun s37=>ByteArray.size ⟨#[100,114,97,105,110,32]⟩+s37.size≤9223372036854775807∧R (.string (⟨#[100,114,97,105,110,32]⟩++s37)) (aB h s_p))
 (asK .i64 v0 fun n38=>cond (n38==(10:Int))
 (∃v39,af (aB h s_p) (Addr.add ⟨h.size,0,none⟩ 2)=some v39 ∧
 asS v39 fun s40=>ByteArray.size ⟨#[115,112,97,119,110,32]⟩+s40.size≤9223372036854775807∧ByteArray.size (⟨#[115,112,97,119,110,32]⟩++s40)+ByteArray.size ⟨#[40]⟩≤9223372036854775807∧R (.string ((⟨#[115,112,97,119,110,32]⟩++s40)++⟨#[40]⟩)) (aB h s_p))
 (asK .i64 v0 fun n41=>cond (n41==(11:Int))
 (∃v42,af (aB h s_p) (Addr.add ⟨h.size,0,none⟩ 2)=some v42 ∧
 asS v42 fun s43=>ByteArray.size ⟨#[116,97,107,101,32]⟩+s43.size≤9223372036854775807∧ByteArray.size (⟨#[116,97,107,101,32]⟩++s43)+ByteArray.size ⟨#[32,102,114,111,109,32]⟩≤9223372036854775807∧∃v44,af (aB h s_p) (Addr.add ⟨h.size,0,none⟩ 3)=some v44 ∧
 asS v44 fun s45=>ByteArray.size ((⟨#[116,97,107,101,32]⟩++s43)++⟨#[32,102,114,111,109,32]⟩)+s45.size≤9223372036854775807∧R (.string (((⟨#[116,97,107,101,32]⟩++s43)++⟨#[32,102,114,111,109,32]⟩)++s45)) (aB h s_p))
 (asK .i64 v0 fun n46=>cond (n46==(12:Int))
 (∃v47,af (aB h s_p) (Addr.add ⟨h.size,0,none⟩ 2)=some v47 ∧
 asS v47 fun s48=>ByteArray.size ⟨#[102,111,114,32]⟩+s48.size≤9223372036854775807∧ByteArray.size (⟨#[102,111,114,32]⟩++s48)+ByteArray.size ⟨#[32,102,114,111,109,32]⟩≤9223372036854775807∧∃v49,af (aB h s_p) (Addr.add ⟨h.size,0,none⟩ 3)=some v49 ∧
 asS v49 fun s50=>ByteArray.size ((⟨#[102,111,114,32]⟩++s48)++⟨#[32,102,114,111,109,32]⟩)+s50.size≤9223372036854775807∧R (.string (((⟨#[102,111,114,32]⟩++s48)++⟨#[32,102,114,111,109,32]⟩)++s50)) (aB h s_p))
 (asK .i64 v0 fun n51=>cond (n51==(13:Int))
 (R (.string ⟨#[114,101,112,101,97,116,32]⟩) (aB h s_p))
 (R (.string ⟨#[105,102,32]⟩) (aB h s_p))))))))))))))
def wP:Ann :=
 (.T .L (.T (.T .L (.one (.T .L (.T (.T .L .L) (.T .L (.T (.T .L .L) (.T .L (.T (.T .L .L) (.T .L (.T (.T (.plan [0,1,2,3,4,5,6,7,8,9,13,14,10,11,12,15,16,17]) .L) (.T .L (.T (.T .L .L) (.T .L (.T (.T .L .L) (.T .L (.T (.T .L .L) (.T .L (.T (.T .L .L) (.T .L (.T (.T .L .L) (.T .L (.T (.T .L .L) (.T .L (.T (.T .L .L) (.T .L (.T (.T .L .L) (.T .L (.T (.T .L .L) .L)))))))))))))))))))))))))))) (.T .L .L)))
theorem wW (ω:Amb)(s_p:Value)(h:Hp)(R:RT)(X:XT)(hk:rG ω s_p h R X):aa Tryz.prog ω 117 [s_p] h R X :=
 al (an:=wP) Tryz.func117 (by kernel_rfl) hk
abbrev yo:Nat:=118
def rq (ω:Amb)(l_p:Value)(h:Hp)(R:RT)(X:XT):Prop :=
 bR l_p fun a0 l1 c2=>∃(I3:Value→RT) (μ4:Value→Value→Hp→Nat),I3 (.slice none 0 0) (.int .i64 0) h∧∀zP OO (d7:Nat→Value) (h8:Hp),I3 zP OO h8 →
 asK .i64 OO fun n9=>cond (decide (n9 < (l1:Int)))
 (aI l_p fun a10 l11 c12=>asI OO fun n13=>0≤n13∧n13 < (l11:Int)∧∃C14,aj h8 (Addr.add a10 (n13.toNat*4)) 4 C14 ∧
 C14.toArray.size=4∧(∀u∈C14.toArray.toList,one u)∧av (h8.push (.cells #[.int .i64 0,.string ⟨#[]⟩,.int .i64 0,.slice none 0 0] 36 (0,0))) ⟨h8.size,0,none⟩ C14.toArray.toList fun h15 =>
 ∃C16,aj h15 ⟨h8.size,0,none⟩ 4 C16 ∧
 aa Tryz.prog ω 137 [.agg C16.toArray] h15 (fun r17 h18 =>
 cq r17 (x2 Tryz.prog 112 (h18.push (.cells (List.toArray [r17]) 9 (0,0))) zP (.slice (some ⟨h18.size,0,none⟩) 1 1) fun w19 h20 =>
 asK .i64 OO fun n21=>I3 w19 (.int .i64 (IntKind.wrap .i64 (n21+1))) h20∧μ4 w19 (.int .i64 (IntKind.wrap .i64 (n21+1))) h20 < μ4 zP OO h8)) X)
 (aa Tryz.prog ω 61 [zP,(.string ⟨#[44,32]⟩)] h8 (fun r22 h23 =>
 R r22 h23) X)
def xj:Ann :=
 (.T .L (.T .L (.T (.T .L (.one (.loop [9,10,11,5,12,13,14,15,16,3,17,8] [3,8] (.T .L (.T (.T .L .L) (.T (.one (.T .L .L)) .L)))))) (.T .L .L))))
theorem xd (ω:Amb)(l_p:Value)(h:Hp)(R:RT)(X:XT)(hk:rq ω l_p h R X):aa Tryz.prog ω 118 [l_p] h R X :=
 al (an:=xj) Tryz.func118 (by kernel_rfl) hk
abbrev yr:Nat:=137
def rn (ω:Amb)(x_p:Value)(h:Hp)(R:RT)(X:XT):Prop :=
 ∃v0,af (h.push (.cells (Value.cells x_p) 36 (0,0))) (Addr.add ⟨h.size,0,none⟩ 0)=some v0 ∧
 aa Tryz.prog ω 153 [v0] (h.push (.cells (Value.cells x_p) 36 (0,0))) (fun r1 h2 =>
 ∃v3,af h2 (Addr.add ⟨h.size,0,none⟩ 0)=some v3 ∧
 asK .i64 v3 fun n4=>cond (n4==(1:Int))
 (∃v5,af h2 (Addr.add ⟨h.size,0,none⟩ 2)=some v5 ∧
 aa Tryz.prog ω 126 [v5,.int .i64 10] h2 (fun r6 h7 =>
 R r6 h7) X)
 (asK .i64 v3 fun n8=>cond (n8==(2:Int))
 (∃v9,af h2 (Addr.add ⟨h.size,0,none⟩ 1)=some v9 ∧
 R v9 h2)
 (asK .i64 v3 fun n10=>cond (n10==(3:Int))
 (∃v11,af h2 (Addr.add ⟨h.size,0,none⟩ 3)=some v11 ∧
 aI v11 fun a12 l13 c14=>0≤(0:Int)∧0 < (l13:Int)∧∃C15,aj h2 (Addr.add a12 (Int.toNat 0*4)) 4 C15 ∧
 aa Tryz.prog ω 154 [.agg C15.toArray,r1] h2 (fun r16 h17 =>
 asS r16 fun s18=>ByteArray.size ⟨#[45]⟩+s18.size≤9223372036854775807∧R (.string (⟨#[45]⟩++s18)) h17) X)
 (asK .i64 v3 fun n19=>cond (n19==(7:Int))
 (∃v20,af h2 (Addr.add ⟨h.size,0,none⟩ 3)=some v20 ∧
 aI v20 fun a21 l22 c23=>0≤(0:Int)∧0 < (l22:Int)∧∃C24,aj h2 (Addr.add a21 (Int.toNat 0*4)) 4 C24 ∧
 asK .i64 r1 fun n25=>∃v26,af h2 (Addr.add ⟨h.size,0,none⟩ 3)=some v26 ∧
 aI v26 fun a27 l28 c29=>0≤(1:Int)∧1 < (l28:Int)∧∃C30,aj h2 (Addr.add a27 (Int.toNat 1*4)) 4 C30 ∧
 asK .i64 r1 fun n31=>aa Tryz.prog ω 154 [.agg C24.toArray,(.int .i64 (IntKind.wrap .i64 (n25+1)))] h2 (fun r32 h33 =>
 aj h33 (Addr.add a27 (Int.toNat 1*4)) 4 C30∧af h33 (Addr.add ⟨h.size,0,none⟩ 3)=some v26∧asS r32 fun s34=>s34.size+ByteArray.size ⟨#[32,60,32]⟩≤9223372036854775807∧aa Tryz.prog ω 154 [.agg C30.toArray,(.int .i64 (IntKind.wrap .i64 (n31+1)))] h33 (fun r35 h36 =>
 asS r35 fun s37=>ByteArray.size (s34++⟨#[32,60,32]⟩)+s37.size≤9223372036854775807∧R (.string ((s34++⟨#[32,60,32]⟩)++s37)) h36) X) X)
 (asK .i64 v3 fun n38=>cond (n38==(8:Int))
 (∃v39,af h2 (Addr.add ⟨h.size,0,none⟩ 3)=some v39 ∧
 aI v39 fun a40 l41 c42=>0≤(0:Int)∧0 < (l41:Int)∧∃C43,aj h2 (Addr.add a40 (Int.toNat 0*4)) 4 C43 ∧
 asK .i64 r1 fun n44=>∃v45,af h2 (Addr.add ⟨h.size,0,none⟩ 3)=some v45 ∧
 aI v45 fun a46 l47 c48=>0≤(1:Int)∧1 < (l47:Int)∧∃C49,aj h2 (Addr.add a46 (Int.toNat 1*4)) 4 C49 ∧
 asK .i64 r1 fun n50=>aa Tryz.prog ω 154 [.agg C43.toArray,(.int .i64 (IntKind.wrap .i64 (n44+1)))] h2 (fun r51 h52 =>
 aj h52 (Addr.add a46 (Int.toNat 1*4)) 4 C49∧af h52 (Addr.add ⟨h.size,0,none⟩ 3)=some v45∧asS r51 fun s53=>s53.size+ByteArray.size ⟨#[32,61,61,32]⟩≤9223372036854775807∧aa Tryz.prog ω 154 [.agg C49.toArray,(.int .i64 (IntKind.wrap .i64 (n50+1)))] h52 (fun r54 h55 =>
 asS r54 fun s56=>ByteArray.size (s53++⟨#[32,61,61,32]⟩)+s56.size≤9223372036854775807∧R (.string ((s53++⟨#[32,61,61,32]⟩)++s56)) h55) X) X)
 (∃v57,af h2 (Addr.add ⟨h.size,0,none⟩ 0)=some v57 ∧
 asK .i64 v57 fun n58=>0≤((IntKind.wrap .i64 (n58 - 4)):Int)∧(IntKind.wrap .i64 (n58 - 4)) < ((3:Nat):Int)∧asO (#[(.string ⟨#[32,43,32]⟩),(.string ⟨#[32,45,32]⟩),(.string ⟨#[32,42,32]⟩)])[Int.toNat (IntKind.wrap .i64 (n58 - 4))*1]? fun v59=>∃v60,af h2 (Addr.add ⟨h.size,0,none⟩ 3)=some v60 ∧
 aI v60 fun a61 l62 c63=>0≤(0:Int)∧0 < (l62:Int)∧∃C64,aj h2 (Addr.add a61 (Int.toNat 0*4)) 4 C64 ∧
 ∃v65,af h2 (Addr.add ⟨h.size,0,none⟩ 3)=some v65 ∧
 aI v65 fun a66 l67 c68=>0≤(1:Int)∧1 < (l67:Int)∧∃C69,aj h2 (Addr.add a66 (Int.toNat 1*4)) 4 C69 ∧
 asK .i64 r1 fun n70=>aa Tryz.prog ω 154 [.agg C64.toArray,r1] h2 (fun r71 h72 =>
 aj h72 (Addr.add a66 (Int.toNat 1*4)) 4 C69∧af h72 (Addr.add ⟨h.size,0,none⟩ 3)=some v65∧asS r71 fun s73=>asS v59 fun s74=>s73.size+s74.size≤9223372036854775807∧aa Tryz.prog ω 154 [.agg C69.toArray,(.int .i64 (IntKind.wrap .i64 (n70+1)))] h72 (fun r75 h76 =>
 asS r75 fun s77=>ByteArray.size (s73++s74)+s77.size≤9223372036854775807∧R (.string ((s73++s74)++s77)) h76) X) X)))))) X
def yb:Ann :=
 (.T .L (.T .L (.T (.T .L (.one (.T .L (.T (.T .L .L) (.T .L (.T (.T .L .L) (.T .L (.T (.T .L .L) (.T .L (.T (.T (.plan [0,1,2,3,4,5,8,9,10,11,12,13,6,7,14,15,16]) .L) (.T .L (.T (.T (.plan [0,1,2,3,4,5,8,9,10,11,12,13,6,7,14,15,16]) .L) .L)))))))))))) (.T .L (.T (.plan [0,1,2,3,4,6,8,9,10,11,12,13,5,7,14,15,16]) .L)))))
theorem ye (ω:Amb)(x_p:Value)(h:Hp)(R:RT)(X:XT)(hk:rn ω x_p h R X):aa Tryz.prog ω 137 [x_p] h R X :=
 al (an:=yb) Tryz.func137 (by kernel_rfl) hk
abbrev xK:Nat:=153
def rD (ω:Amb)(AD:Value)(h:Hp)(R:RT)(X:XT):Prop :=
 asK .i64 AD fun n0=>∃J1:RT,
 (cond (n0==(7:Int))
 (J1 (.bool (n0==(7:Int))) h)
 (asK .i64 AD fun n5=>J1 (.bool (n5==(8:Int))) h)) ∧
 ∀NW (d3:Nat→Value) (h4:Hp),J1 NW h4 →
 asB NW fun b6=>cond b6
 (R (.int .i64 1) h4)
 (asK .i64 AD fun n7=>∃J8:RT,
 (cond (n7==(4:Int))
 (J8 (.bool (n7==(4:Int))) h4)
 (asK .i64 AD fun n12=>J8 (.bool (n12==(5:Int))) h4)) ∧
 ∀t7_9 (d10:Nat→Value) (h11:Hp),J8 t7_9 h11 →
 asB t7_9 fun b13=>cond b13
 (R (.int .i64 2) h11)
 (asK .i64 AD fun n14=>cond (n14==(6:Int))
 (R (.int .i64 3) h11)
 (asK .i64 AD fun n15=>cond (n15==(3:Int))
 (R (.int .i64 4) h11)
 (R (.int .i64 5) h11))))
def xO:Ann :=
 (.T .L (.T (.T .L (.one (.T (.T .L (.join [6,4] [4] (.T .L .L))) (.T (.T .L .L) (.T (.T .L (.join [9,7] [7] (.T .L .L))) (.T (.T .L .L) (.T .L (.T (.T .L .L) (.T .L (.T (.T .L .L) .L)))))))))) (.T .L .L)))
theorem xJ (ω:Amb)(AD:Value)(h:Hp)(R:RT)(X:XT)(hk:rD ω AD h R X):aa Tryz.prog ω 153 [AD] h R X :=
 al (an:=xO) Tryz.func153 (by kernel_rfl) hk
abbrev qp:Nat:=154
def uG (ω:Amb)(x_p yl:Value)(h:Hp)(R:RT)(X:XT):Prop :=
 ∃C0,aj (h.push (.cells (Value.cells x_p) 36 (0,0))) ⟨h.size,0,none⟩ 4 C0 ∧
 aa Tryz.prog ω 137 [.agg C0.toArray] (h.push (.cells (Value.cells x_p) 36 (0,0))) (fun r1 h2 =>
 ∃v3,af h2 (Addr.add ⟨h.size,0,none⟩ 0)=some v3 ∧
 aa Tryz.prog ω 153 [v3] h2 (fun r4 h5 =>
 asK .i64 r4 fun n6=>asK .i64 yl fun n7=>cond (decide (n6 < n7))
 (asS r1 fun s8=>ByteArray.size ⟨#[40]⟩+s8.size≤9223372036854775807∧ByteArray.size (⟨#[40]⟩++s8)+ByteArray.size ⟨#[41]⟩≤9223372036854775807∧R (.string ((⟨#[40]⟩++s8)++⟨#[41]⟩)) h5)
 (R r1 h5)) X) X
def AF:Ann :=
 (.T .L (.T .L (.T (.T .L (.T (.T .L .L) .L)) (.T .L .L))))
theorem AJ (ω:Amb)(x_p yl:Value)(h:Hp)(R:RT)(X:XT)(hk:uG ω x_p yl h R X):aa Tryz.prog ω 154 [x_p,yl] h R X :=
 al (an:=AF) Tryz.func154 (by kernel_rfl) hk
end Go.Proofs.YtkeeboomikkojaaGreatDoor.Sx
set_option linter.unusedVariables false
set_option maxRecDepth 100000
namespace Go.Proofs.YtkeeboomikkojaaGreatDoor.Sx
open Go Go.Sx Go.Proofs
abbrev yK:Nat:=29
abbrev cp (h:Hp):Hp:=h.push (.cells #[.int .i64 0,.int .i64 0] 28 (0,0))
def sW (ω:Amb)(vw:Value)(h:Hp)(R:RT)(X:XT):Prop :=
 asS vw fun s0=>cond (decide (((s0.size:Int):Int) > 12000))
 (2=2∧(∀u∈[.int .i64 1,.int .i64 12000],one u)∧av (cp h) ⟨h.size,0,none⟩ [.int .i64 1,.int .i64 12000] fun h1 =>
 ∃C2,aj h1 ⟨h.size,0,none⟩ 2 C2∧R (.tuple #[.slice none 0 0,.agg C2.toArray]) h1)
 (cq vw (aa Tryz.prog ω 52 [(.pointer (some ⟨Array.size (cp h),0,none⟩))] (Array.push (cp h) (.cells #[vw,.int .i64 0,.slice none 0 0] 97 (0,0))) (fun r3 h4 =>
 ∃(I5:Hp→Prop) (μ6:Hp→Nat),I5 h4∧∀(d7:Nat→Value) (h8:Hp),I5 h8 →
 ∃v9,af h8 (Addr.add ⟨Array.size (cp h),0,none⟩ 1)=some v9 ∧
 asS vw fun s10=>asK .i64 v9 fun n11=>cond (decide (n11 < (s10.size:Int)))
 (∃v12,af h8 (Addr.add ⟨Array.size (cp h),0,none⟩ 1)=some v12 ∧
 aa Tryz.prog ω 53 [(.pointer (some ⟨Array.size (cp h),0,none⟩))] h8 (fun r13 h14 =>
 asK .i64 r13 fun n15=>cond (n15 !=(0:Int))
 (cq r13 (cq v12 (2=2∧(∀u∈[r13,v12],one u)∧av h14 ⟨h.size,0,none⟩ [r13,v12] fun h16 =>
 ∃C17,aj h16 ⟨h.size,0,none⟩ 2 C17∧R (.tuple #[.slice none 0 0,.agg C17.toArray]) h16)))
 (aa Tryz.prog ω 52 [(.pointer (some ⟨Array.size (cp h),0,none⟩))] h14 (fun r18 h19 =>
 I5 h19∧μ6 h19 < μ6 h8) X)) X)
 (∃v20,af h8 (Addr.add ⟨Array.size (cp h),0,none⟩ 2)=some v20 ∧
 2=2∧(∀u∈[.int .i64 0,.int .i64 0],one u)∧av h8 ⟨h.size,0,none⟩ [.int .i64 0,.int .i64 0] fun h21 =>
 ∃C22,aj h21 ⟨h.size,0,none⟩ 2 C22∧R (.tuple #[v20,.agg C22.toArray]) h21)) X))
def As:Ann :=
 (.T .L (.T (.T .L (.T (.T .L .L) .L)) (.T .L (.T (.T .L (.one (.loop [16,17,18,19,20,21,22,25,26,27,28,5,29,30,6,31,32,33,34,35,2,23,24] [] (.T (.T .L (.T .L .L)) (.T (.one (.T .L (.T .L (.T .L (.T (.T .L .L) .L))))) .L))))) (.T .L .L)))))
theorem Aa (ω:Amb)(vw:Value)(h:Hp)(R:RT)(X:XT)(hk:sW ω vw h R X):aa Tryz.prog ω 29 [vw] h R X :=
 al (an:=As) Tryz.func29 (by kernel_rfl) hk
abbrev lS:Nat:=52
def fa (ω:Amb)(s_p:Value)(h:Hp)(R:RT)(X:XT):Prop :=
 ∃(I0:RT) (μ1:Value→Hp→Nat),I0 (.bool false) h∧∀rv (d3:Nat→Value) (h4:Hp),I0 rv h4 →
 nnK s_p (asP s_p fun p5 =>
 ∃v6,af h4 (Addr.add p5 1)=some v6 ∧
 nnK s_p (asP s_p fun p7 =>
 ∃v8,af h4 (Addr.add p7 0)=some v8 ∧
 asS v8 fun s9=>asK .i64 v6 fun n10=>cond (decide (n10 < (s9.size:Int)))
 (nnK s_p (asP s_p fun p11 =>
 ∃v12,af h4 (Addr.add p11 0)=some v12 ∧
 nnK s_p (asP s_p fun p13 =>
 ∃v14,af h4 (Addr.add p13 1)=some v14 ∧
 asS v12 fun s15=>asI v14 fun n16=>0≤n16∧n16 < (s15.size:Int)∧∃J17:RT,
 (∃J21:RT,
 (cond ((aU s15 n16)==(10:Int))
 (J21 (.bool false) h4)
 (∃J25:RT,
 (asB rv fun b29=>cond b29
 (J25 rv h4)
 (∃J30:RT,
 (cond ((aU s15 n16)==(32:Int))
 (J30 (.bool ((aU s15 n16)==(32:Int))) h4)
 (∃J34:RT,
 (cond ((aU s15 n16)==(9:Int))
 (J34 (.bool ((aU s15 n16)==(9:Int))) h4)
 (J34 (.bool ((aU s15 n16)==(13:Int))) h4)) ∧
 ∀Kz (d36:Nat→Value) (h37:Hp),J34 Kz h37 →
 J30 Kz h37)) ∧
 ∀JH (d32:Nat→Value) (h33:Hp),J30 JH h33 →
 J25 JH h33)) ∧
 ∀Kj (d27:Nat→Value) (h28:Hp),J25 Kj h28 →
 ∃J38:RT,
 (asB Kj fun b42=>cond b42
 (J38 rv h28)
 (cond ((aU s15 n16)==(35:Int))
 (J38 (.bool true) h28)
 (R (.tuple #[]) h28))) ∧
 ∀Ag (d40:Nat→Value) (h41:Hp),J38 Ag h41 →
 J21 Ag h41)) ∧
 ∀Ap (d23:Nat→Value) (h24:Hp),J21 Ap h24 →
 J17 Ap h24) ∧
 ∀uO (d19:Nat→Value) (h20:Hp),J17 uO h20 →
 nnK s_p (asP s_p fun p43 =>
 ∃v44,af h20 (Addr.add p43 1)=some v44 ∧
 asK .i64 v44 fun n45=>nnK s_p (asP s_p fun p46 =>
 aJ h20 (Addr.add p46 1) (.int .i64 (IntKind.wrap .i64 (n45+1))) fun h47 =>
 I0 uO h47∧μ1 uO h47 < μ1 rv h4)))))
 (R (.tuple #[]) h4)))
def lC:Ann :=
 (.T .L (.one (.loop [4,5,6,7,8,9,10,11,12,13,14,15,16,17,18,19,20,21,22,3,24,25,23,2,27,26,28,29,30,31,32,33,35,36,34,37,38,39,40,41,42,43] [2] (.T (.T (.plan [0,1,2,3,4,5,6,7,8,9]) (.T .L .L)) (.one (.T (.T (.plan [0,1,2,3,4,5,6,7,8,9]) (.join [24,25,23,2,27,26,28,29,30,31,32,33,35,36,34] [2] (.one (.T .L (.join [2,27,26,28,29,30,31,32,33,35,36,34] [2] (.T .L (.T (.T .L (.join [28,29,26,30,31,32,33] [26] (.T .L (.T .L (.join [30,31,26,32,33] [26] (.T .L (.T .L (.join [32,33,26] [26] (.T .L .L))))))))) (.join [35,36,34,2] [2] (.T .L (.T .L (.T .L .L))))))))))) .L))))))
theorem lR (ω:Amb)(s_p:Value)(h:Hp)(R:RT)(X:XT)(hk:fa ω s_p h R X):aa Tryz.prog ω 52 [s_p] h R X :=
 al (an:=lC) Tryz.func52 (by kernel_rfl) hk
abbrev ol:Nat:=53
def gB (ω:Amb)(s_p:Value)(h:Hp)(R:RT)(X:XT):Prop :=
 nnK s_p (asP s_p fun p0 =>
 ∃v1,af h (Addr.add p0 1)=some v1 ∧
 cq v1 (4=4∧(∀u∈[.int .i64 0,v1,.string ⟨#[]⟩,.int .i64 0],one u)∧av (h.push (.cells #[.int .i64 0,.int .i64 0,.string ⟨#[]⟩,.int .i64 0] 100 (0,0))) ⟨h.size,0,none⟩ [.int .i64 0,v1,.string ⟨#[]⟩,.int .i64 0] fun h2 =>
 nnK s_p (asP s_p fun p3 =>
 ∃v4,af h2 (Addr.add p3 0)=some v4 ∧
 nnK s_p (asP s_p fun p5 =>
 ∃v6,af h2 (Addr.add p5 1)=some v6 ∧
 asS v4 fun s7=>asI v6 fun n8=>0≤n8∧n8 < (s7.size:Int)∧∃J9:Hp→Prop,
 (aa Tryz.prog ω 80 [(.int .u8 (aU s7 n8))] h2 (fun r12 h13 =>
 ∃J14:Hp→Prop,
 (asB r12 fun b17=>cond b17
 (aa Tryz.prog ω 81 [s_p] h13 (fun r18 h19 =>
 cq r18 (aJ h19 (Addr.add ⟨h.size,0,none⟩ 2) r18 fun h20 =>
 aJ h20 (Addr.add ⟨h.size,0,none⟩ 0) (.int .i64 2) fun h21 =>
 ∃v22,af h21 (Addr.add ⟨h.size,0,none⟩ 2)=some v22 ∧
 aa Tryz.prog ω 82 [v22] h21 (fun r23 h24 =>
 ∃J25:Hp→Prop,
 (asB r23 fun b28=>cond b28
 (aJ h24 (Addr.add ⟨h.size,0,none⟩ 0) (.int .i64 1) fun h29 =>
 J25 h29)
 (∃v30,af h24 (Addr.add ⟨h.size,0,none⟩ 2)=some v30 ∧
 asS v30 fun s31=>cond (decide (((s31.size:Int):Int) > 12))
 (R (.int .i64 4) h24)
 (J25 h24))) ∧
 ∀(d26:Nat→Value) (h27:Hp),J25 h27 →
 J14 h27) X)) X)
 (aa Tryz.prog ω 83 [(.int .u8 (aU s7 n8))] h13 (fun r32 h33 =>
 ∃J34:Hp→Prop,
 (asB r32 fun b37=>cond b37
 (aa Tryz.prog ω 81 [s_p] h33 (fun r38 h39 =>
 cq r38 (aJ h39 (Addr.add ⟨h.size,0,none⟩ 2) r38 fun h40 =>
 ∃v41,af h40 (Addr.add ⟨h.size,0,none⟩ 2)=some v41 ∧
 aa Tryz.prog ω 84 [v41] h40 (fun r42 h43 =>
 asT r42 fun T44=>asO T44[0]? fun v45=>asT r42 fun T46=>asO T46[1]? fun v47=>asB v47 fun b48=>cond (!b48)
 (R (.int .i64 3) h43)
 (aJ h43 (Addr.add ⟨h.size,0,none⟩ 0) (.int .i64 3) fun h49 =>
 cq v45 (aJ h49 (Addr.add ⟨h.size,0,none⟩ 3) v45 fun h50 =>
 J34 h50))) X)) X)
 (aa Tryz.prog ω 85 [s_p] h33 (fun r51 h52 =>
 aJ h52 (Addr.add ⟨h.size,0,none⟩ 0) (.int .i64 4) fun h53 =>
 cq r51 (aJ h53 (Addr.add ⟨h.size,0,none⟩ 2) r51 fun h54 =>
 ∃v55,af h54 (Addr.add ⟨h.size,0,none⟩ 2)=some v55 ∧
 asS v55 fun s56=>cond (s56.toList==ByteArray.toList ⟨#[]⟩)
 (R (.int .i64 2) h54)
 (nnK s_p (asP s_p fun p57 =>
 ∃v58,af h54 (Addr.add p57 1)=some v58 ∧
 ∃v59,af h54 (Addr.add ⟨h.size,0,none⟩ 2)=some v59 ∧
 asS v59 fun s60=>asK .i64 v58 fun n61=>nnK s_p (asP s_p fun p62 =>
 aJ h54 (Addr.add p62 1) (.int .i64 (IntKind.wrap .i64 (n61+(s60.size:Int)))) fun h63 =>
 J34 h63))))) X)) ∧
 ∀(d35:Nat→Value) (h36:Hp),J34 h36 →
 J14 h36) X)) ∧
 ∀(d15:Nat→Value) (h16:Hp),J14 h16 →
 J9 h16) X) ∧
 ∀(d10:Nat→Value) (h11:Hp),J9 h11 →
 nnK s_p (asP s_p fun p64 =>
 ∃v65,af h11 (Addr.add p64 2)=some v65 ∧
 ∃C66,aj h11 ⟨h.size,0,none⟩ 4 C66 ∧
 C66.toArray.size=4∧af (h11.push (.cells (List.toArray (C66.toArray.toList++[])) 100 (0,0))) (Addr.add p64 2)=some v65∧x2 Tryz.prog 64 (h11.push (.cells (List.toArray (C66.toArray.toList++[])) 100 (0,0))) v65 (.slice (some ⟨h11.size,0,none⟩) 1 1) fun w67 h68 =>
 nnK s_p (asP s_p fun p69 =>
 cq w67 (aJ h68 (Addr.add p69 2) w67 fun h70 =>
 R (.int .i64 0) h70)))))))
def oU:Ann :=
 (.T .L (.T .L (.T (.T (.plan [0,1,2,3,4,5,6,7,8,9]) (.join [39,40,38,41,42,43,44,45,46,47,48,49,50,51,52,2,54,55,53,56,57,58,60,61,62,59,63,64,5,6,65,66,67,68,69,21,22,23,24,25,26,27,28,29,30,31,32,33,34,35,36,37] [] (.one (.T .L (.join [41,42,43,44,45,46,47,48,49,50,51,52,2,54,55,53,56,57,58,60,61,62,59,63,64,5,6,65,66,67,68,69,21,22,23,24,25,26,27,28,29,30,31,32,33,34,35,36,37] [] (.T (.T .L (.T .L (.T .L (.join [48,49,50,51,52,2] [] (.T .L (.T .L (.T (.T .L .L) .L))))))) (.T .L (.join [56,57,58,60,61,62,59,63,64,5,6,65,66,2,67,68,69,21,22,23,24,25,26,27,28,29,30,31,32,33,34,35,36,37] [] (.T (.T .L (.T .L (.T (.T .L (.T (.T .L .L) .L)) .L))) (.T .L (.T (.T .L (.T (.T .L .L) .L)) (.plan [0,1,2,3,4,5,6,7,8,9,10])))))))))))) (.T (.plan [0,1,2,3,4,5,6,7,8,9,10]) (.T .L .L)))))
theorem oL (ω:Amb)(s_p:Value)(h:Hp)(R:RT)(X:XT)(hk:gB ω s_p h R X):aa Tryz.prog ω 53 [s_p] h R X :=
 al (an:=oU) Tryz.func53 (by kernel_rfl) hk
abbrev oy:Nat:=81
def gJ (ω:Amb)(s_p:Value)(h:Hp)(R:RT)(X:XT):Prop :=
 nnK s_p (asP s_p fun p0 =>
 ∃v1,af h (Addr.add p0 1)=some v1 ∧
 ∃(I2:Hp→Prop) (μ3:Hp→Nat),I2 h∧∀(d4:Nat→Value) (h5:Hp),I2 h5 →
 ∃J6:RT,
 (nnK s_p (asP s_p fun p10 =>
 ∃v11,af h5 (Addr.add p10 1)=some v11 ∧
 nnK s_p (asP s_p fun p12 =>
 ∃v13,af h5 (Addr.add p12 0)=some v13 ∧
 asS v13 fun s14=>asK .i64 v11 fun n15=>cond (decide (n15 < (s14.size:Int)))
 (nnK s_p (asP s_p fun p16 =>
 ∃v17,af h5 (Addr.add p16 0)=some v17 ∧
 nnK s_p (asP s_p fun p18 =>
 ∃v19,af h5 (Addr.add p18 1)=some v19 ∧
 asS v17 fun s20=>asI v19 fun n21=>0≤n21∧n21 < (s20.size:Int)∧aa Tryz.prog ω 80 [(.int .u8 (aU s20 n21))] h5 (fun r22 h23 =>
 asB r22 fun b24=>cond b24
 (J6 (.bool true) h23)
 (nnK s_p (asP s_p fun p25 =>
 ∃v26,af h23 (Addr.add p25 0)=some v26 ∧
 nnK s_p (asP s_p fun p27 =>
 ∃v28,af h23 (Addr.add p27 1)=some v28 ∧
 asS v26 fun s29=>asI v28 fun n30=>0≤n30∧n30 < (s29.size:Int)∧aa Tryz.prog ω 83 [(.int .u8 (aU s29 n30))] h23 (fun r31 h32 =>
 J6 r31 h32) X)))) X)))
 (J6 (.bool false) h5)))) ∧
 ∀NK (d8:Nat→Value) (h9:Hp),J6 NK h9 →
 asB NK fun b33=>cond b33
 (nnK s_p (asP s_p fun p34 =>
 ∃v35,af h9 (Addr.add p34 1)=some v35 ∧
 asK .i64 v35 fun n36=>nnK s_p (asP s_p fun p37 =>
 aJ h9 (Addr.add p37 1) (.int .i64 (IntKind.wrap .i64 (n36+1))) fun h38 =>
 I2 h38∧μ3 h38 < μ3 h5)))
 (nnK s_p (asP s_p fun p39 =>
 ∃v40,af h9 (Addr.add p39 0)=some v40 ∧
 nnK s_p (asP s_p fun p41 =>
 ∃v42,af h9 (Addr.add p41 1)=some v42 ∧
 asS v40 fun s43=>asI v1 fun n44=>asI v42 fun n45=>0≤n44∧n44≤n45∧n45≤(s43.size:Int)∧R (.string (ByteArray.extract s43 (n44.toNat) (n45.toNat))) h9))))
def nY:Ann :=
 (.T .L (.T .L (.T (.one (.loop [8,9,10,11,12,13,14,15,16,17,18,19,20,21,22,23,24,25,26,27,28,29,30,31,32,33,34,35,36,37,38,39,40,41,42,43,44,45,46,47,48] [] (.T (.T (.join [8,9,10,11,12,13,14,15,16,17,18,19,20,21,22,23,24,25,26,27,28,29,30,31,32,33,34,35,36,37,38,39,40,41] [41] (.plan [0,1,2,3,4,5,6,7,8,9,10,11,12,13,14,15,16,17,18,19,20,21,22,23,24,25,26,27,28,29,30,31,32,33])) (.T .L .L)) (.one .L)))) (.T (.plan [0,1,2,3,4,5,6,7,8,9,10]) .L))))
theorem oh (ω:Amb)(s_p:Value)(h:Hp)(R:RT)(X:XT)(hk:gJ ω s_p h R X):aa Tryz.prog ω 81 [s_p] h R X :=
 al (an:=nY) Tryz.func81 (by kernel_rfl) hk
abbrev vG:Nat:=84
def qe (ω:Amb)(s_p:Value)(h:Hp)(R:RT)(X:XT):Prop :=
 ∃β0:Bool,
 (asS s_p fun s2=>cond (decide (((s2.size:Int):Int) > 18))
 (((.bool true):Value)=.bool β0∧h=h)
 (asS s_p fun s3=>cond (decide (((s3.size:Int):Int) > 1))
 (asS s_p fun s4=>0≤(0:Int)∧0 < (s4.size:Int)∧((.bool ((aU s4 0)==(48:Int))):Value)=.bool β0∧h=h)
 (((.bool false):Value)=.bool β0∧h=h))) ∧
 ∀d1:Nat→Value,
 cond β0
 (R (.tuple #[.int .i64 0,.bool false]) h)
 (asS s_p fun s5=>∃(I6:RT) (μ7:Value→Hp→Nat),I6 (.int .i64 0) h∧∀HR (d9:Nat→Value) (h10:Hp),I6 HR h10 →
 asK .i64 HR fun n11=>cond (decide (n11 < (s5.size:Int)))
 (asS s_p fun s12=>asI HR fun n13=>0≤n13∧n13 < (s12.size:Int)∧aa Tryz.prog ω 83 [(.int .u8 (aU s12 n13))] h10 (fun r14 h15 =>
 asB r14 fun b16=>cond (!b16)
 (R (.tuple #[.int .i64 0,.bool false]) h15)
 (asK .i64 HR fun n17=>I6 (.int .i64 (IntKind.wrap .i64 (n17+1))) h15∧μ7 (.int .i64 (IntKind.wrap .i64 (n17+1))) h15 < μ7 HR h10)) X)
 (aa Tryz.prog ω 108 [s_p,.int .i64 10,.int .i64 64] h10 (fun r18 h19 =>
 asT r18 fun T20=>asO T20[0]? fun v21=>asT r18 fun T22=>asO T22[1]? fun v23=>L0 v23 fun b24=>R (.tuple #[v21,.bool b24]) h19) X))
def vI:Ann :=
 (.T .L (.T (.T (.jb [7,8,9,10,11,12,13,14,15,16,17,18,19] 19 .L) (.T (.T .L .L) .L)) (.T (.T .L (.one (.loop [23,24,4,25,26,27,28,29,2,3,30,22] [22] (.T .L (.T (.T .L .L) (.T (.one (.T .L (.T .L (.T (.T .L .L) .L)))) .L)))))) (.T .L (.T (.plan [0,1,2,3,4]) .L)))))
theorem vC (ω:Amb)(s_p:Value)(h:Hp)(R:RT)(X:XT)(hk:qe ω s_p h R X):aa Tryz.prog ω 84 [s_p] h R X :=
 al (an:=vI) Tryz.func84 (by kernel_rfl) hk
abbrev mO:Nat:=85
def fH (ω:Amb)(s_p:Value)(h:Hp)(R:RT)(X:XT):Prop :=
 nnK s_p (asP s_p fun p0 =>
 ∃v1,af h (Addr.add p0 0)=some v1 ∧
 nnK s_p (asP s_p fun p2 =>
 ∃v3,af h (Addr.add p2 1)=some v3 ∧
 asS v1 fun s4=>asI v3 fun n5=>0≤n5∧n5 < (s4.size:Int)∧cond ((aU s4 n5)==(61:Int))
 (∃β6:Bool,
 (nnK s_p (asP s_p fun p8 =>
 ∃v9,af h (Addr.add p8 1)=some v9 ∧
 asK .i64 v9 fun n10=>nnK s_p (asP s_p fun p11 =>
 ∃v12,af h (Addr.add p11 0)=some v12 ∧
 asS v12 fun s13=>cond (decide (((IntKind.wrap .i64 (n10+1)):Int) < (s13.size:Int)))
 (nnK s_p (asP s_p fun p14 =>
 ∃v15,af h (Addr.add p14 0)=some v15 ∧
 nnK s_p (asP s_p fun p16 =>
 ∃v17,af h (Addr.add p16 1)=some v17 ∧
 asK .i64 v17 fun n18=>asS v15 fun s19=>0≤((IntKind.wrap .i64 (n18+1)):Int)∧(IntKind.wrap .i64 (n18+1)) < (s19.size:Int)∧((.bool ((aU s19 (IntKind.wrap .i64 (n18+1)))==(61:Int))):Value)=.bool β6∧h=h)))
 (((.bool false):Value)=.bool β6∧h=h)))) ∧
 ∀d7:Nat→Value,
 cond β6
 (R (.string ⟨#[61,61]⟩) h)
 (R (.string ⟨#[61]⟩) h))
 (∃J20:RT,
 (cond ((aU s4 n5)==(40:Int))
 (J20 (.bool ((aU s4 n5)==(40:Int))) h)
 (∃J24:RT,
 (cond ((aU s4 n5)==(41:Int))
 (J24 (.bool ((aU s4 n5)==(41:Int))) h)
 (∃J28:RT,
 (cond ((aU s4 n5)==(123:Int))
 (J28 (.bool ((aU s4 n5)==(123:Int))) h)
 (∃J32:RT,
 (cond ((aU s4 n5)==(125:Int))
 (J32 (.bool ((aU s4 n5)==(125:Int))) h)
 (∃J36:RT,
 (cond ((aU s4 n5)==(44:Int))
 (J36 (.bool ((aU s4 n5)==(44:Int))) h)
 (∃J40:RT,
 (cond ((aU s4 n5)==(59:Int))
 (J40 (.bool ((aU s4 n5)==(59:Int))) h)
 (∃J44:RT,
 (cond ((aU s4 n5)==(43:Int))
 (J44 (.bool ((aU s4 n5)==(43:Int))) h)
 (∃J48:RT,
 (cond ((aU s4 n5)==(45:Int))
 (J48 (.bool ((aU s4 n5)==(45:Int))) h)
 (∃J52:RT,
 (cond ((aU s4 n5)==(42:Int))
 (J52 (.bool ((aU s4 n5)==(42:Int))) h)
 (J52 (.bool ((aU s4 n5)==(60:Int))) h)) ∧
 ∀KO (d54:Nat→Value) (h55:Hp),J52 KO h55 →
 J48 KO h55)) ∧
 ∀Ld (d50:Nat→Value) (h51:Hp),J48 Ld h51 →
 J44 Ld h51)) ∧
 ∀Ko (d46:Nat→Value) (h47:Hp),J44 Ko h47 →
 J40 Ko h47)) ∧
 ∀Kw (d42:Nat→Value) (h43:Hp),J40 Kw h43 →
 J36 Kw h43)) ∧
 ∀KZ (d38:Nat→Value) (h39:Hp),J36 KZ h39 →
 J32 KZ h39)) ∧
 ∀KK (d34:Nat→Value) (h35:Hp),J32 KK h35 →
 J28 KK h35)) ∧
 ∀K7 (d30:Nat→Value) (h31:Hp),J28 K7 h31 →
 J24 K7 h31)) ∧
 ∀KL (d26:Nat→Value) (h27:Hp),J24 KL h27 →
 J20 KL h27)) ∧
 ∀Kg (d22:Nat→Value) (h23:Hp),J20 Kg h23 →
 asB Kg fun b56=>cond b56
 (R (.string (Utf8.encode (IntKind.wrap .i32 (aU s4 n5)))) h23)
 (R (.string ⟨#[]⟩) h23))))
def mZ:Ann :=
 (.T .L (.T (.T (.plan [0,1,2,3,4,5,6,7,8,9]) (.T .L (.one (.T .L (.T (.T (.T (.jb [16,17,18,19,20,21,22,23,24,25,26,27,28,29,30,31,32,33,34,35,36,37,38,39] 39 (.plan [0,1,2,3,4,5,6,7,8,9,10,11,12,13,14,15,16,17,18,19,20,21,22,23])) (.T (.T .L .L) .L)) (.T .L .L)) (.T (.T .L (.join [42,40,43,44,45,46,47,48,49,50] [40] (.T .L (.T .L (.join [43,40,44,45,46,47,48,49,50] [40] (.T .L (.T .L (.join [44,40,45,46,47,48,49,50] [40] (.T .L (.T .L (.join [45,40,46,47,48,49,50] [40] (.T .L (.T .L (.join [46,40,47,48,49,50] [40] (.T .L (.T .L (.join [47,40,48,49,50] [40] (.T .L (.T .L (.join [48,40,49,50] [40] (.T .L (.T .L (.join [49,40,50] [40] (.T .L (.T .L (.join [50,40] [40] (.T .L .L))))))))))))))))))))))))))) (.T (.T .L .L) .L))))))) (.T .L .L)))
theorem ny (ω:Amb)(s_p:Value)(h:Hp)(R:RT)(X:XT)(hk:fH ω s_p h R X):aa Tryz.prog ω 85 [s_p] h R X :=
 al (an:=mZ) Tryz.func85 (by kernel_rfl) hk
abbrev rl:Nat:=108
def jE (ω:Amb)(s_p e9 bJ:Value)(h:Hp)(R:RT)(X:XT):Prop :=
 aa Tryz.prog ω 127 [s_p,e9,bJ] h (fun r0 h1 =>
 asT r0 fun T2=>asO T2[0]? fun v3=>asT r0 fun T4=>asO T4[1]? fun v5=>L0 v5 fun b6=>cond (!b6)
 (aa Tryz.prog ω 128 [(.string ⟨#[80,97,114,115,101,73,110,116]⟩),s_p,e9,bJ,v5] h1 (fun r7 h8 =>
 R (.tuple #[v3,r7]) h8) X)
 (R (.tuple #[v3,.nilIface]) h1)) X
def rc:Ann :=
 (.T .L (.T .L (.T (.T .L (.T (.T .L .L) .L)) (.T .L .L))))
theorem ry (ω:Amb)(s_p e9 bJ:Value)(h:Hp)(R:RT)(X:XT)(hk:jE ω s_p e9 bJ h R X):aa Tryz.prog ω 108 [s_p,e9,bJ] h R X :=
 al (an:=rc) Tryz.func108 (by kernel_rfl) hk
abbrev je:Nat:=127
def dk (ω:Amb)(s_p e9 bJ:Value)(h:Hp)(R:RT)(X:XT):Prop :=
 asS s_p fun s0=>cond (s0.toList==ByteArray.toList ⟨#[]⟩)
 (R (.tuple #[.int .i64 0,(.iface 194 (.int .i64 2))]) h)
 (asS s_p fun s1=>0≤(0:Int)∧0 < (s1.size:Int)∧∃J2:Value→RT,
 (∃J7:Value→RT,
 (cond ((aU s1 0)==(43:Int))
 (asS s_p fun s12=>0≤(1:Int)∧(1:Int)≤(s12.size:Int)∧(s12.size:Int)≤(s12.size:Int)∧J7 (.string (ByteArray.extract s12 (Int.toNat 1) (Int.toNat (s12.size:Int)))) (.bool false) h)
 (∃J13:Value→RT,
 (cond ((aU s1 0)==(45:Int))
 (asS s_p fun s18=>0≤(1:Int)∧(1:Int)≤(s18.size:Int)∧(s18.size:Int)≤(s18.size:Int)∧J13 (.string (ByteArray.extract s18 (Int.toNat 1) (Int.toNat (s18.size:Int)))) (.bool true) h)
 (J13 s_p (.bool false) h)) ∧
 ∀s_14 Ky (d16:Nat→Value) (h17:Hp),J13 s_14 Ky h17 →
 J7 s_14 Ky h17)) ∧
 ∀s_8 ND (d10:Nat→Value) (h11:Hp),J7 s_8 ND h11 →
 J2 s_8 ND h11) ∧
 ∀s_3 ID (d5:Nat→Value) (h6:Hp),J2 s_3 ID h6 →
 aa Tryz.prog ω 147 [s_3,e9,bJ] h6 (fun r19 h20 =>
 asT r19 fun T21=>asO T21[0]? fun v22=>asT r19 fun T23=>asO T23[1]? fun v24=>∃β25:Bool,
 (L0 v24 fun b27=>cond (!b27)
 (False)
 (((.bool false):Value)=.bool β25∧h20=h20)) ∧
 ∀d26:Nat→Value,
 cond β25
 (R (.tuple #[.int .i64 0,v24]) h20)
 (asK .i64 bJ fun n28=>∃J29:RT,
 (cond (n28==(0:Int))
 (J29 (.int .i64 64) h20)
 (J29 bJ h20)) ∧
 ∀wy (d31:Nat→Value) (h32:Hp),J29 wy h32 →
 asK .i64 wy fun n33=>0≤((IntKind.wrap .u64 (IntKind.wrap .i64 (n33 - 1))):Int)∧∃β34:Bool,
 (asB ID fun b36=>cond (!b36)
 (asK .u64 v22 fun n37=>((.bool (decide (n37≥(shI .u64 .shl 1 (IntKind.wrap .u64 (IntKind.wrap .i64 (n33 - 1))))))):Value)=.bool β34∧h32=h32)
 (((.bool false):Value)=.bool β34∧h32=h32)) ∧
 ∀d35:Nat→Value,
 cond β34
 (R (.tuple #[(.int .i64 (IntKind.wrap .i64 (IntKind.wrap .u64 ((shI .u64 .shl 1 (IntKind.wrap .u64 (IntKind.wrap .i64 (n33 - 1)))) - 1)))),(.iface 194 (.int .i64 1))]) h32)
 (∃β38:Bool,
 (asB ID fun b40=>cond b40
 (asK .u64 v22 fun n41=>((.bool (decide (n41 > (shI .u64 .shl 1 (IntKind.wrap .u64 (IntKind.wrap .i64 (n33 - 1))))))):Value)=.bool β38∧h32=h32)
 (((.bool false):Value)=.bool β38∧h32=h32)) ∧
 ∀d39:Nat→Value,
 cond β38
 (R (.tuple #[(.int .i64 (IntKind.wrap .i64 (0 - (IntKind.wrap .i64 (shI .u64 .shl 1 (IntKind.wrap .u64 (IntKind.wrap .i64 (n33 - 1)))))))),(.iface 194 (.int .i64 1))]) h32)
 (asI v22 fun n42=>∃J43:RT,
 (asB ID fun b47=>cond b47
 (J43 (.int .i64 (IntKind.wrap .i64 (0 - (IntKind.wrap .i64 n42)))) h32)
 (J43 (.int .i64 (IntKind.wrap .i64 n42)) h32)) ∧
 ∀n_44 (d45:Nat→Value) (h46:Hp),J43 n_44 h46 →
 R (.tuple #[n_44,.nilIface]) h46)))) X)
def iC:Ann :=
 (.T .L (.T (.T .L (.T (.T .L .L) .L)) (.T .L (.T (.T .L (.join [18,17,19,20,0,22,21,23,24,8] [0,8] (.one (.T .L (.join [19,20,0,22,21,23,24,8] [0,8] (.T .L (.T .L (.join [23,24,0,8] [0,8] (.T (.T .L .L) .L))))))))) (.T .L (.T .L (.T (.T (.jb [32,33,34,35,36,37,38] 38 .L) (.T (.T .L .L) .L)) (.T (.T .L (.join [2] [2] (.T .L .L))) (.T .L (.T (.T (.jb [46,47,48,49,50,51,52] 52 .L) (.T (.T .L .L) .L)) (.T (.T (.jb [57,58,59,60,61,62] 62 .L) (.T (.T .L .L) .L)) (.T .L (.T (.T .L (.join [70,71,11] [11] (.T .L .L))) (.T .L .L))))))))))))))
theorem iW (ω:Amb)(s_p e9 bJ:Value)(h:Hp)(R:RT)(X:XT)(hk:dk ω s_p e9 bJ h R X):aa Tryz.prog ω 127 [s_p,e9,bJ] h R X :=
 al (an:=iC) Tryz.func127 (by kernel_rfl) hk
abbrev ig:Nat:=147
def da (ω:Amb)(s_p e9 bJ:Value)(h:Hp)(R:RT)(X:XT):Prop :=
 asS s_p fun s0=>cond (s0.toList==ByteArray.toList ⟨#[]⟩)
 (R (.tuple #[.int .u64 0,(.iface 194 (.int .i64 2))]) h)
 (asK .i64 e9 fun n1=>∃J2:Value→RT,
 (∃J7:RT,
 (asK .i64 e9 fun n11=>cond (decide ((2:Int)≤n11))
 (asK .i64 e9 fun n12=>J7 (.bool (decide (n12≤36))) h)
 (J7 (.bool false) h)) ∧
 ∀N7 (d9:Nat→Value) (h10:Hp),J7 N7 h10 →
 ∃J13:Value→RT,
 (asB N7 fun b18=>cond b18
 (J13 e9 s_p h10)
 (asK .i64 e9 fun n19=>cond (n19==(0:Int))
 (asS s_p fun s20=>0≤(0:Int)∧0 < (s20.size:Int)∧∃J21:Value→RT,
 (cond ((aU s20 0)==(48:Int))
 (∃J26:Value→RT,
 (∃J31:RT,
 (asS s_p fun s35=>cond (decide (((s35.size:Int):Int)≥3))
 (asS s_p fun s36=>0≤(1:Int)∧1 < (s36.size:Int)∧aa Tryz.prog ω 162 [(.int .u8 (aU s36 1))] h10 (fun r37 h38 =>
 asK .u8 r37 fun n39=>J31 (.bool (n39==(98:Int))) h38) X)
 (J31 (.bool false) h10)) ∧
 ∀JO (d33:Nat→Value) (h34:Hp),J31 JO h34 →
 ∃J40:Value→RT,
 (asB JO fun b45=>cond b45
 (asS s_p fun s46=>0≤(2:Int)∧(2:Int)≤(s46.size:Int)∧(s46.size:Int)≤(s46.size:Int)∧J40 (.int .i64 2) (.string (ByteArray.extract s46 (Int.toNat 2) (Int.toNat (s46.size:Int)))) h34)
 (∃J47:RT,
 (asS s_p fun s51=>cond (decide (((s51.size:Int):Int)≥3))
 (asS s_p fun s52=>0≤(1:Int)∧1 < (s52.size:Int)∧aa Tryz.prog ω 162 [(.int .u8 (aU s52 1))] h34 (fun r53 h54 =>
 asK .u8 r53 fun n55=>J47 (.bool (n55==(111:Int))) h54) X)
 (J47 (.bool false) h34)) ∧
 ∀JZ (d49:Nat→Value) (h50:Hp),J47 JZ h50 →
 ∃J56:Value→RT,
 (asB JZ fun b61=>cond b61
 (asS s_p fun s62=>0≤(2:Int)∧(2:Int)≤(s62.size:Int)∧(s62.size:Int)≤(s62.size:Int)∧J56 (.int .i64 8) (.string (ByteArray.extract s62 (Int.toNat 2) (Int.toNat (s62.size:Int)))) h50)
 (∃J63:RT,
 (asS s_p fun s67=>cond (decide (((s67.size:Int):Int)≥3))
 (asS s_p fun s68=>0≤(1:Int)∧1 < (s68.size:Int)∧aa Tryz.prog ω 162 [(.int .u8 (aU s68 1))] h50 (fun r69 h70 =>
 asK .u8 r69 fun n71=>J63 (.bool (n71==(120:Int))) h70) X)
 (J63 (.bool false) h50)) ∧
 ∀JE (d65:Nat→Value) (h66:Hp),J63 JE h66 →
 ∃J72:Value→RT,
 (asB JE fun b77=>cond b77
 (asS s_p fun s78=>0≤(2:Int)∧(2:Int)≤(s78.size:Int)∧(s78.size:Int)≤(s78.size:Int)∧J72 (.int .i64 16) (.string (ByteArray.extract s78 (Int.toNat 2) (Int.toNat (s78.size:Int)))) h66)
 (asS s_p fun s79=>0≤(1:Int)∧(1:Int)≤(s79.size:Int)∧(s79.size:Int)≤(s79.size:Int)∧J72 (.int .i64 8) (.string (ByteArray.extract s79 (Int.toNat 1) (Int.toNat (s79.size:Int)))) h66)) ∧
 ∀Hj s_74 (d75:Nat→Value) (h76:Hp),J72 Hj s_74 h76 →
 J56 Hj s_74 h76)) ∧
 ∀E5 s_58 (d59:Nat→Value) (h60:Hp),J56 E5 s_58 h60 →
 J40 E5 s_58 h60)) ∧
 ∀HP s_42 (d43:Nat→Value) (h44:Hp),J40 HP s_42 h44 →
 J26 HP s_42 h44) ∧
 ∀EN s_28 (d29:Nat→Value) (h30:Hp),J26 EN s_28 h30 →
 J21 EN s_28 h30)
 (J21 (.int .i64 10) s_p h10)) ∧
 ∀Gc s_23 (d24:Nat→Value) (h25:Hp),J21 Gc s_23 h25 →
 J13 Gc s_23 h25)
 (R (.tuple #[.int .u64 0,(.iface 194 (.int .i64 3))]) h10))) ∧
 ∀HL s_15 (d16:Nat→Value) (h17:Hp),J13 HL s_15 h17 →
 J2 HL s_15 h17) ∧
 ∀wD s_4 (d5:Nat→Value) (h6:Hp),J2 wD s_4 h6 →
 asK .i64 bJ fun n80=>∃J81:RT,
 (cond (n80==(0:Int))
 (J81 (.int .i64 64) h6)
 (∃β85:Bool,
 (asK .i64 bJ fun n87=>cond (decide (n87 < 0))
 (((.bool true):Value)=.bool β85∧h6=h6)
 (asK .i64 bJ fun n88=>((.bool (decide (n88 > 64))):Value)=.bool β85∧h6=h6)) ∧
 ∀d86:Nat→Value,
 cond β85
 (R (.tuple #[.int .u64 0,(.iface 194 (.int .i64 4))]) h6)
 (J81 bJ h6))) ∧
 ∀wE (d83:Nat→Value) (h84:Hp),J81 wE h84 →
 ∃J89:RT,
 (asK .i64 wD fun n93=>∃J94:RT,
 (cond (n93==(10:Int))
 (J94 (.int .u64 1844674407370955162) h84)
 (asK .i64 wD fun n98=>∃J99:RT,
 (cond (n98==(16:Int))
 (J99 (.int .u64 1152921504606846976) h84)
 (asI wD fun n103=>((IntKind.wrap .u64 n103):Int)≠0∧J99 (.int .u64 (IntKind.wrap .u64 ((IntKind.wrap .u64 (Int.tdiv 18446744073709551615 (IntKind.wrap .u64 n103)))+1))) h84)) ∧
 ∀wg (d101:Nat→Value) (h102:Hp),J99 wg h102 →
 J94 wg h102)) ∧
 ∀Ar (d96:Nat→Value) (h97:Hp),J94 Ar h97 →
 J89 Ar h97) ∧
 ∀zh (d91:Nat→Value) (h92:Hp),J89 zh h92 →
 asI wE fun n104=>0≤((IntKind.wrap .u64 n104):Int)∧yX Tryz.prog 9 107 h92 s_4 fun v105 h106 =>
 bR v105 fun a107 l108 c109=>∃(I110:Value→Value→RT) (μ111:Value→Value→Value→Hp→Nat),I110 (.bool false) (.int .u64 0) (.int .i64 0) h106∧∀eY n_113 rj (d115:Nat→Value) (h116:Hp),I110 eY n_113 rj h116 →
 asK .i64 rj fun n117=>cond (decide (n117 < (l108:Int)))
 (∃J118:Value→RT,
 (aI v105 fun a123 l124 c125=>asI rj fun n126=>0≤n126∧n126 < (l124:Int)∧∃v127,af h116 (Addr.add a123 (n126.toNat*1))=some v127 ∧
 ∃J128:Value→RT,
 (∃J133:RT,
 (asK .u8 v127 fun n137=>cond (n137==(95:Int))
 (J133 (.bool (n1==(0:Int))) h116)
 (J133 (.bool false) h116)) ∧
 ∀B6 (d135:Nat→Value) (h136:Hp),J133 B6 h136 →
 asB B6 fun b138=>cond b138
 (J118 (.bool true) n_113 h136)
 (∃J139:RT,
 (asK .u8 v127 fun n143=>cond (decide ((48:Int)≤n143))
 (asK .u8 v127 fun n144=>J139 (.bool (decide (n144≤57))) h136)
 (J139 (.bool false) h136)) ∧
 ∀CC (d141:Nat→Value) (h142:Hp),J139 CC h142 →
 ∃J145:RT,
 (asB CC fun b149=>cond b149
 (asK .u8 v127 fun n150=>J145 (.int .u8 (IntKind.wrap .u8 (n150 - 48))) h142)
 (∃J151:RT,
 (aa Tryz.prog ω 162 [v127] h142 (fun r155 h156 =>
 asK .u8 r155 fun n157=>cond (decide ((97:Int)≤n157))
 (aa Tryz.prog ω 162 [v127] h156 (fun r158 h159 =>
 asK .u8 r158 fun n160=>J151 (.bool (decide (n160≤122))) h159) X)
 (J151 (.bool false) h156)) X) ∧
 ∀Dn (d153:Nat→Value) (h154:Hp),J151 Dn h154 →
 asB Dn fun b161=>cond b161
 (aa Tryz.prog ω 162 [v127] h154 (fun r162 h163 =>
 asK .u8 r162 fun n164=>J145 (.int .u8 (IntKind.wrap .u8 ((IntKind.wrap .u8 (n164 - 97))+10))) h163) X)
 (R (.tuple #[.int .u64 0,(.iface 194 (.int .i64 2))]) h154))) ∧
 ∀OQ (d147:Nat→Value) (h148:Hp),J145 OQ h148 →
 J128 eY OQ h148)) ∧
 ∀nR L4 (d131:Nat→Value) (h132:Hp),J128 nR L4 h132 →
 asI wD fun n165=>asK .u8 L4 fun n166=>cond (decide (n166≥(IntKind.wrap .u8 n165)))
 (R (.tuple #[.int .u64 0,(.iface 194 (.int .i64 2))]) h132)
 (asK .u64 n_113 fun n167=>asK .u64 zh fun n168=>cond (decide (n167≥n168))
 (R (.tuple #[(.int .u64 (IntKind.wrap .u64 ((shI .u64 .shl 1 (IntKind.wrap .u64 n104)) - 1))),(.iface 194 (.int .i64 1))]) h132)
 (asI wD fun n169=>asK .u64 n_113 fun n170=>asI L4 fun n171=>∃β172:Bool,
 (cond (decide (((IntKind.wrap .u64 ((IntKind.wrap .u64 (n170*(IntKind.wrap .u64 n169)))+(IntKind.wrap .u64 n171))):Int) < (IntKind.wrap .u64 (n170*(IntKind.wrap .u64 n169)))))
 (((.bool true):Value)=.bool β172∧h132=h132)
 (((.bool (decide (((IntKind.wrap .u64 ((IntKind.wrap .u64 (n170*(IntKind.wrap .u64 n169)))+(IntKind.wrap .u64 n171))):Int) > (IntKind.wrap .u64 ((shI .u64 .shl 1 (IntKind.wrap .u64 n104)) - 1))))):Value)=.bool β172∧h132=h132)) ∧
 ∀d173:Nat→Value,
 cond β172
 (R (.tuple #[(.int .u64 (IntKind.wrap .u64 ((shI .u64 .shl 1 (IntKind.wrap .u64 n104)) - 1))),(.iface 194 (.int .i64 1))]) h132)
 (J118 nR (.int .u64 (IntKind.wrap .u64 ((IntKind.wrap .u64 (n170*(IntKind.wrap .u64 n169)))+(IntKind.wrap .u64 n171)))) h132)))) ∧
 ∀jd n_120 (d121:Nat→Value) (h122:Hp),J118 jd n_120 h122 →
 asK .i64 rj fun n174=>I110 jd n_120 (.int .i64 (IntKind.wrap .i64 (n174+1))) h122∧μ111 jd n_120 (.int .i64 (IntKind.wrap .i64 (n174+1))) h122 < μ111 eY n_113 rj h116)
 (∃J175:RT,
 (asB eY fun b179=>cond b179
 (aa Tryz.prog ω 163 [s_p] h116 (fun r180 h181 =>
 asB r180 fun b182=>J175 (.bool (!b182)) h181) X)
 (J175 (.bool false) h116)) ∧
 ∀BX (d177:Nat→Value) (h178:Hp),J175 BX h178 →
 asB BX fun b183=>cond b183
 (R (.tuple #[.int .u64 0,(.iface 194 (.int .i64 2))]) h178)
 (R (.tuple #[n_113,.nilIface]) h178)))
def ij:Ann :=
 (.T .L (.T (.T .L (.T (.T .L .L) .L)) (.T .L (.T .L (.T (.join [26,27,28,29,30,31,25,33,34,32,1,35,36,37,41,42,43,44,45,46,47,48,49,40,50,51,0,53,54,55,56,57,58,59,60,61,52,62,63,65,66,67,68,69,70,71,72,73,64,74,75,38,39,24,6,7] [1,0] (.one (.T (.join [26,27,28,29,30,31,25] [25] .L) (.join [33,34,32,1,35,36,37,41,42,43,44,45,46,47,48,49,40,50,51,0,53,54,55,56,57,58,59,60,61,52,62,63,65,66,67,68,69,70,71,72,73,64,74,75,38,39,24,6,7] [1,0] (.T .L (.T .L (.T (.T .L (.T .L (.join [41,42,43,44,45,46,47,48,49,40,1,50,51,0,53,54,55,56,57,58,59,60,61,52,62,63,65,66,67,68,69,70,71,72,73,64,74,75,38,39] [1,0] (.T (.join [41,42,43,44,45,46,47,48,49,40,1,50,51,0,53,54,55,56,57,58,59,60,61,52,62,63,65,66,67,68,69,70,71,72,73,64,74,75,38,39] [1,0] (.one (.T (.join [41,42,43,44,45,46,47,48,49,40] [40] .L) (.join [1,50,51,0,53,54,55,56,57,58,59,60,61,52,62,63,65,66,67,68,69,70,71,72,73,64,74,75,38,39] [1,0] (.T (.T .L .L) (.T (.join [53,54,55,56,57,58,59,60,61,52] [52] .L) (.join [1,62,63,0,65,66,67,68,69,70,71,72,73,64,74,75,38,39] [1,0] (.T (.T .L .L) (.T (.join [65,66,67,68,69,70,71,72,73,64] [64] .L) (.join [1,74,75,0,38,39] [1,0] (.T (.T .L .L) (.T .L .L)))))))))))) .L)))) (.T .L .L)))))))) (.T (.T .L (.join [2,78,79,80,81,82,83,84,6,7] [2] (.T .L (.T (.jb [78,79,80,81,82,83] 83 .L) (.T (.T .L .L) .L))))) (.T .L (.T (.T .L (.join [91,90,10,93,92,86,87,88,89] [10] (.one (.T .L (.join [10,93,92,86,87,88,89] [10] (.T .L (.T .L (.join [10,86,87,88,89] [10] (.T .L .L))))))))) (.T .L (.T .L (.T .L (.T (.T .L (.one (.loop [102,103,104,15,16,107,108,109,110,111,106,12,113,114,115,116,117,118,112,119,120,122,123,124,125,126,127,128,129,121,130,131,132,133,105,6,7,134,135,136,137,138,139,140,141,142,143,144,145,146,147,13,148,149,150,151,17,152,153,154,155,156,157,158,159,160,161,162,163,101] [12,13,101] (.T .L (.T (.T .L .L) (.T (.join [103,104,15,16,107,108,109,110,111,106,12,113,114,115,116,117,118,112,119,120,122,123,124,125,126,127,128,129,121,130,131,132,133,105,6,7,134,135,136,137,138,139,140,141,142,143,144,145,146,147,13,148,149,150,151,17,152,153,154,155,156,157,158,159,160,161,162] [12,13] (.one (.T .L (.T .L (.T (.join [107,108,109,110,111,106,12,113,114,115,116,117,118,112,119,120,16,122,123,124,125,126,127,128,129,121,130,131,132,133,105,6,7] [12,16] (.one (.T (.join [107,108,109,110,111,106] [106] .L) (.T (.T .L .L) (.T (.join [113,114,115,116,117,118,112] [112] .L) (.join [119,120,16,122,123,124,125,126,127,128,129,121,130,131,132,133,105,6,7] [16] (.T .L (.T (.join [122,123,124,125,126,127,128,129,121] [121] .L) (.T .L (.T .L .L)))))))))) (.T (.T .L (.T (.T .L .L) .L)) (.T (.T .L (.T (.T .L .L) .L)) (.T .L (.T .L (.T (.T (.jb [152,153,154,155,156,157,158,159] 159 .L) (.T (.T .L .L) .L)) .L)))))))))) .L)))))) (.T (.T (.join [164,165,166,167,168,169] [169] .L) (.T (.T .L .L) .L)) (.T .L .L))))))))))))))
theorem iq (ω:Amb)(s_p e9 bJ:Value)(h:Hp)(R:RT)(X:XT)(hk:da ω s_p e9 bJ h R X):aa Tryz.prog ω 147 [s_p,e9,bJ] h R X :=
 al (an:=ij) Tryz.func147 (by kernel_rfl) hk
end Go.Proofs.YtkeeboomikkojaaGreatDoor.Sx
set_option linter.unusedVariables false
set_option maxRecDepth 100000
namespace Go.Proofs.YtkeeboomikkojaaGreatDoor.Sx
open Go Go.Sx Go.Proofs
abbrev pU:Nat:=31
def ia (ω:Amb)(p_p s_p:Value)(h:Hp)(R:RT)(X:XT):Prop :=
 ∃J0:RT,
 (nnK p_p (asP p_p fun p4 =>
 ∃v5,af h (Addr.add p4 0)=some v5 ∧
 bR v5 fun a6 l7 c8=>cond (decide ((l7:Int) > 0))
 (nnK p_p (asP p_p fun p9 =>
 ∃v10,af h (Addr.add p9 0)=some v10 ∧
 aI v10 fun a11 l12 c13=>0≤(0:Int)∧0 < (l12:Int)∧∃v14,af h (Addr.add (Addr.add a11 (Int.toNat 0*4)) 0)=some v14 ∧
 asK .i64 v14 fun n15=>cond (n15 !=(2:Int))
 (nnK p_p (asP p_p fun p16 =>
 ∃v17,af h (Addr.add p16 0)=some v17 ∧
 aI v17 fun a18 l19 c20=>0≤(0:Int)∧0 < (l19:Int)∧∃v21,af h (Addr.add (Addr.add a18 (Int.toNat 0*4)) 2)=some v21 ∧
 asS v21 fun s22=>asS s_p fun s23=>J0 (.bool (s22.toList==s23.toList)) h))
 (J0 (.bool false) h)))
 (J0 (.bool false) h))) ∧
 ∀Ow (d2:Nat→Value) (h3:Hp),J0 Ow h3 →
 R Ow h3
def pS:Ann :=
 (.T .L (.T (.join [5,6,7,8,9,10,11,12,13,14,15,16,17,18,19,20,21,22,23,24,25,26,27,28,29,30,31,4] [4] .L) .L))
theorem pY (ω:Amb)(p_p s_p:Value)(h:Hp)(R:RT)(X:XT)(hk:ia ω p_p s_p h R X):aa Tryz.prog ω 31 [p_p,s_p] h R X :=
 al (an:=pS) Tryz.func31 (by kernel_rfl) hk
abbrev cW:Nat:=32
def fw (ω:Amb)(p_p cC:Value)(h:Hp)(R:RT)(X:XT):Prop :=
 nnK p_p (asP p_p fun p0 =>
 ∃v1,af h (Addr.add p0 1)=some v1 ∧
 nnK p_p (asP p_p fun p2 =>
 ∃v3,af h (Addr.add p2 0)=some v3 ∧
 bR v3 fun a4 l5 c6=>∃J7:Value→RT,
 (cond (decide ((l5:Int) > 0))
 (nnK p_p (asP p_p fun p12 =>
 ∃v13,af h (Addr.add p12 0)=some v13 ∧
 aI v13 fun a14 l15 c16=>0≤(0:Int)∧0 < (l15:Int)∧∃v17,af h (Addr.add (Addr.add a14 (Int.toNat 0*4)) 1)=some v17 ∧
 J7 v17 cC h))
 (asK .i64 cC fun n18=>∃J19:RT,
 (cond (n18==(5:Int))
 (J19 (.int .i64 6) h)
 (J19 cC h)) ∧
 ∀Gm (d21:Nat→Value) (h22:Hp),J19 Gm h22 →
 J7 v1 Gm h22)) ∧
 ∀Pm Fc (d10:Nat→Value) (h11:Hp),J7 Pm Fc h11 →
 cq Fc (cq Pm (X [⟨.iface 67 (.agg #[Fc,Pm]),false,false⟩] h11))))
def nx:Ann :=
 (.T .L (.T (.T .L (.join [15,16,17,18,19,20,21,4,22,23,1] [4,1] (.T .L (.T .L (.join [1] [1] (.T .L .L)))))) .L))
theorem mE (ω:Amb)(p_p cC:Value)(h:Hp)(R:RT)(X:XT)(hk:fw ω p_p cC h R X):aa Tryz.prog ω 32 [p_p,cC] h R X :=
 al (an:=nx) Tryz.func32 (by kernel_rfl) hk
abbrev ly:Nat:=33
abbrev aE (h:Hp):Hp:=h.push (.cells #[.string ⟨#[]⟩,.int .i64 0,.slice none 0 0,.slice none 0 0] 41 (0,0))
def eC (ω:Amb)(p_p:Value)(h:Hp)(R:RT)(X:XT):Prop :=
 nnK p_p (asP p_p fun p0 =>
 ∃v1,af (aE h) (Addr.add p0 0)=some v1 ∧
 aI v1 fun a2 l3 c4=>0≤(0:Int)∧0 < (l3:Int)∧∃v5,af (aE h) (Addr.add (Addr.add a2 (Int.toNat 0*4)) 1)=some v5 ∧
 cq v5 (4=4∧(∀u∈[.string ⟨#[]⟩,v5,.slice none 0 0,.slice none 0 0],one u)∧av (Array.push (aE h) (.cells #[.string ⟨#[]⟩,.int .i64 0,.slice none 0 0,.slice none 0 0] 41 (0,0))) ⟨Array.size (aE h),0,none⟩ [.string ⟨#[]⟩,v5,.slice none 0 0,.slice none 0 0] fun h6 =>
 aa Tryz.prog ω 54 [p_p] h6 (fun r7 h8 =>
 aa Tryz.prog ω 55 [p_p] h8 (fun r9 h10 =>
 cq r9 (aJ h10 (Addr.add ⟨Array.size (aE h),0,none⟩ 0) r9 fun h11 =>
 aa Tryz.prog ω 56 [p_p,(.slice (some ⟨h11.size,0,none⟩) 1 1)] (h11.push (.cells (List.toArray [(.string ⟨#[40]⟩)]) 9 (0,0))) (fun r12 h13 =>
 ∃(I14:Hp→Prop) (μ15:Hp→Nat),I14 h13∧∀(d16:Nat→Value) (h17:Hp),I14 h17 →
 aa Tryz.prog ω 31 [p_p,(.string ⟨#[41]⟩)] h17 (fun r18 h19 =>
 asB r18 fun b20=>cond (!b20)
 (∃v21,af h19 (Addr.add ⟨Array.size (aE h),0,none⟩ 2)=some v21 ∧
 bR v21 fun a22 l23 c24=>∃J25:Hp→Prop,
 (cond (decide ((l23:Int) > 0))
 (aa Tryz.prog ω 56 [p_p,(.slice (some ⟨h19.size,0,none⟩) 1 1)] (h19.push (.cells (List.toArray [(.string ⟨#[44]⟩)]) 9 (0,0))) (fun r28 h29 =>
 J25 h29) X)
 (J25 h19)) ∧
 ∀(d26:Nat→Value) (h27:Hp),J25 h27 →
 ∃v30,af h27 (Addr.add ⟨Array.size (aE h),0,none⟩ 2)=some v30 ∧
 bR v30 fun a31 l32 c33=>∃J34:Hp→Prop,
 (cond ((l32:Int)==(6:Int))
 (aa Tryz.prog ω 32 [p_p,.int .i64 8] h27 (fun r37 h38 =>
 J34 h38) X)
 (J34 h27)) ∧
 ∀(d35:Nat→Value) (h36:Hp),J34 h36 →
 aa Tryz.prog ω 55 [p_p] h36 (fun r39 h40 =>
 ∃v41,af h40 (Addr.add ⟨Array.size (aE h),0,none⟩ 2)=some v41 ∧
 aa Tryz.prog ω 57 [p_p] h40 (fun r42 h43 =>
 af h43 (Addr.add ⟨Array.size (aE h),0,none⟩ 2)=some v41∧cq r39 (cq r42 (2=2∧af (h43.push (.cells (List.toArray [r39,r42]) 32 (0,0))) (Addr.add ⟨Array.size (aE h),0,none⟩ 2)=some v41∧x2 Tryz.prog 33 (h43.push (.cells (List.toArray [r39,r42]) 32 (0,0))) v41 (.slice (some ⟨h43.size,0,none⟩) 1 1) fun w44 h45 =>
 cq w44 (aJ h45 (Addr.add ⟨Array.size (aE h),0,none⟩ 2) w44 fun h46 =>
 I14 h46∧μ15 h46 < μ15 h17)))) X) X)
 (aa Tryz.prog ω 54 [p_p] h19 (fun r47 h48 =>
 aa Tryz.prog ω 58 [p_p] h48 (fun r49 h50 =>
 cq r49 (aJ h50 (Addr.add ⟨Array.size (aE h),0,none⟩ 3) r49 fun h51 =>
 ∃C52,aj h51 ⟨Array.size (aE h),0,none⟩ 4 C52 ∧
 C52.toArray.size=4∧(∀u∈C52.toArray.toList,one u)∧av h51 ⟨h.size,0,none⟩ C52.toArray.toList fun h53 =>
 ∃C54,aj h53 ⟨h.size,0,none⟩ 4 C54∧R (.agg C54.toArray) h53)) X) X)) X) X)) X) X))
def lJ:Ann :=
 (.T .L (.T .L (.T .L (.T .L (.T .L (.T (.one (.loop [21,22,23,24,25,26,27,28,29,30,31,32,33,34,35,36,37,38,4,39,40,41,42,43,44,45,46,47] [] (.T (.T .L (.T .L .L)) (.one (.T (.T .L (.join [28,29,30] [] (.T .L .L))) (.T (.T .L (.join [35,36] [] (.T .L .L))) (.T .L (.plan [0,1,2,3,4,5,6,7,8,9])))))))) (.T .L (.T .L (.T .L .L)))))))))
theorem mb (ω:Amb)(p_p:Value)(h:Hp)(R:RT)(X:XT)(hk:eC ω p_p h R X):aa Tryz.prog ω 33 [p_p] h R X :=
 al (an:=lJ) Tryz.func33 (by kernel_rfl) hk
abbrev cU:Nat:=54
abbrev bf:Obj:=.cells #[.int .i64 0,.int .i64 0,.string ⟨#[]⟩,.int .i64 0] 100 (0,0)
def ff (ω:Amb)(p_p:Value)(h:Hp)(R:RT)(X:XT):Prop :=
 nnK p_p (asP p_p fun p0 =>
 ∃v1,af (h.push (bf)) (Addr.add p0 0)=some v1 ∧
 aI v1 fun a2 l3 c4=>0≤(0:Int)∧0 < (l3:Int)∧∃C5,aj (h.push (bf)) (Addr.add a2 (Int.toNat 0*4)) 4 C5 ∧
 C5.toArray.size=4∧(∀u∈C5.toArray.toList,one u)∧av (Array.push (h.push (bf)) (bf)) ⟨Array.size (h.push (bf)),0,none⟩ C5.toArray.toList fun h6 =>
 nnK p_p (asP p_p fun p7 =>
 ∃v8,af h6 (Addr.add p7 0)=some v8 ∧
 bR v8 fun a9 l10 c11=>0≤(1:Int)∧(1:Int)≤(l10:Int)∧(l10:Int)≤(c11:Int)∧nnK p_p (asP p_p fun p12 =>
 aJ h6 (Addr.add p12 0) (.slice (if c11=Int.toNat 1 then a9 else Option.map (fun y=>Addr.add y (Int.toNat 1*4)) a9) (Int.toNat (l10:Int) - Int.toNat 1) (c11 - Int.toNat 1)) fun h13 =>
 ∃C14,aj h13 ⟨Array.size (h.push (bf)),0,none⟩ 4 C14 ∧
 C14.toArray.size=4∧(∀u∈C14.toArray.toList,one u)∧av h13 ⟨h.size,0,none⟩ C14.toArray.toList fun h15 =>
 ∃C16,aj h15 ⟨h.size,0,none⟩ 4 C16∧R (.agg C16.toArray) h15)))
def nM:Ann :=
 (.T .L (.T .L (.T .L (.T .L .L))))
theorem nE (ω:Amb)(p_p:Value)(h:Hp)(R:RT)(X:XT)(hk:ff ω p_p h R X):aa Tryz.prog ω 54 [p_p] h R X :=
 al (an:=nM) Tryz.func54 (by kernel_rfl) hk
abbrev nk:Nat:=55
def fF (ω:Amb)(p_p:Value)(h:Hp)(R:RT)(X:XT):Prop :=
 aa Tryz.prog ω 86 [p_p,.int .i64 2] h (fun r0 h1 =>
 asA r0 fun A2=>asO A2[2]? fun v3=>R v3 h1) X
def mw:Ann :=
 (.T .L (.T .L .L))
theorem ns (ω:Amb)(p_p:Value)(h:Hp)(R:RT)(X:XT)(hk:fF ω p_p h R X):aa Tryz.prog ω 55 [p_p] h R X :=
 al (an:=mw) Tryz.func55 (by kernel_rfl) hk
abbrev fK:Nat:=56
def fu (ω:Amb)(p_p l_p:Value)(h:Hp)(R:RT)(X:XT):Prop :=
 bR l_p fun a0 l1 c2=>∃(I3:RT) (μ4:Value→Hp→Nat),I3 (.int .i64 0) h∧∀tg (d6:Nat→Value) (h7:Hp),I3 tg h7 →
 asK .i64 tg fun n8=>cond (decide (n8 < (l1:Int)))
 (aI l_p fun a9 l10 c11=>asI tg fun n12=>0≤n12∧n12 < (l10:Int)∧∃v13,af h7 (Addr.add a9 (n12.toNat*1))=some v13 ∧
 aa Tryz.prog ω 31 [p_p,v13] h7 (fun r14 h15 =>
 asB r14 fun b16=>∃J17:Hp→Prop,
 (cond (!b16)
 (aa Tryz.prog ω 32 [p_p,.int .i64 5] h15 (fun r20 h21 =>
 J17 h21) X)
 (J17 h15)) ∧
 ∀(d18:Nat→Value) (h19:Hp),J17 h19 →
 aa Tryz.prog ω 54 [p_p] h19 (fun r22 h23 =>
 asK .i64 tg fun n24=>I3 (.int .i64 (IntKind.wrap .i64 (n24+1))) h23∧μ4 (.int .i64 (IntKind.wrap .i64 (n24+1))) h23 < μ4 tg h7) X) X)
 (R (.tuple #[]) h7)
def nI:Ann :=
 (.T .L (.one (.loop [9,10,11,5,12,13,14,15,16,17,18,19,20,8] [8] (.T .L (.T (.T .L .L) (.T (.one (.T .L (.T (.T .L (.join [16,17] [] (.T .L .L))) .L))) .L))))))
theorem ng (ω:Amb)(p_p l_p:Value)(h:Hp)(R:RT)(X:XT)(hk:fu ω p_p l_p h R X):aa Tryz.prog ω 56 [p_p,l_p] h R X :=
 al (an:=nI) Tryz.func56 (by kernel_rfl) hk
abbrev oX:Nat:=57
def gr (ω:Amb)(p_p:Value)(h:Hp)(R:RT)(X:XT):Prop :=
 ∃(I0:RT) (μ1:Value→Hp→Nat),I0 (.string ⟨#[]⟩) h∧∀t_2 (d3:Nat→Value) (h4:Hp),I0 t_2 h4 →
 aa Tryz.prog ω 31 [p_p,(.string ⟨#[105,110,116]⟩)] h4 (fun r5 h6 =>
 asB r5 fun b7=>cond (!b7)
 (∃J8:RT,
 (aa Tryz.prog ω 31 [p_p,(.string ⟨#[115,101,110,100]⟩)] h6 (fun r12 h13 =>
 asB r12 fun b14=>cond (!b14)
 (aa Tryz.prog ω 31 [p_p,(.string ⟨#[114,101,99,118]⟩)] h13 (fun r15 h16 =>
 asB r15 fun b17=>J8 (.bool (!b17)) h16) X)
 (J8 (.bool false) h13)) X) ∧
 ∀M6 (d10:Nat→Value) (h11:Hp),J8 M6 h11 →
 ∃J18:Hp→Prop,
 (asB M6 fun b21=>cond b21
 (aa Tryz.prog ω 32 [p_p,.int .i64 5] h11 (fun r22 h23 =>
 J18 h23) X)
 (J18 h11)) ∧
 ∀(d19:Nat→Value) (h20:Hp),J18 h20 →
 asS t_2 fun s24=>∃J25:Hp→Prop,
 (cond ((s24.size:Int)==(3:Int))
 (aa Tryz.prog ω 32 [p_p,.int .i64 7] h20 (fun r28 h29 =>
 J25 h29) X)
 (J25 h20)) ∧
 ∀(d26:Nat→Value) (h27:Hp),J25 h27 →
 aa Tryz.prog ω 54 [p_p] h27 (fun r30 h31 =>
 asA r30 fun A32=>asO A32[2]? fun v33=>asS v33 fun s34=>0≤(((0:Nat):Int):Int)∧(((0:Nat):Int):Int)≤1∧1≤(s34.size:Int)∧asS t_2 fun s35=>s35.size+ByteArray.size (ByteArray.extract s34 (Int.toNat ((0:Nat):Int)) (Int.toNat 1))≤9223372036854775807∧I0 (.string (s35++(ByteArray.extract s34 (Int.toNat ((0:Nat):Int)) (Int.toNat 1)))) h31∧μ1 (.string (s35++(ByteArray.extract s34 (Int.toNat ((0:Nat):Int)) (Int.toNat 1)))) h31 < μ1 t_2 h4) X)
 (aa Tryz.prog ω 54 [p_p] h6 (fun r36 h37 =>
 asS t_2 fun s38=>s38.size+ByteArray.size ⟨#[105]⟩≤9223372036854775807∧R (.string (s38++⟨#[105]⟩)) h37) X)) X
def oE:Ann :=
 (.T .L (.T .L (.T (.one (.loop [4,5,6,7,8,9,10,11,12,13,14,15,16,17,18,19,20,21,22,23,24,25,26,27,3] [3] (.T (.T .L (.T .L .L)) (.one (.T (.T (.join [7,8,9,10,11,12,13,14] [14] .L) (.join [15,16] [] (.T .L .L))) (.T (.T .L (.join [20,21] [] (.T .L .L))) .L)))))) (.T .L (.T .L .L)))))
theorem nU (ω:Amb)(p_p:Value)(h:Hp)(R:RT)(X:XT)(hk:gr ω p_p h R X):aa Tryz.prog ω 57 [p_p] h R X :=
 al (an:=oE) Tryz.func57 (by kernel_rfl) hk
abbrev lZ:Nat:=58
def eK (ω:Amb)(p_p:Value)(h:Hp)(R:RT)(X:XT):Prop :=
 ∃J0:RT,
 (aa Tryz.prog ω 31 [p_p,(.string ⟨#[123]⟩)] h (fun r4 h5 =>
 asB r4 fun b6=>cond b6
 (nnK p_p (asP p_p fun p7 =>
 ∃v8,af h5 (Addr.add p7 3)=some v8 ∧
 asK .i64 v8 fun n9=>J0 (.bool (n9==(8:Int))) h5))
 (J0 (.bool false) h5)) X) ∧
 ∀OS (d2:Nat→Value) (h3:Hp),J0 OS h3 →
 ∃J10:Hp→Prop,
 (asB OS fun b13=>cond b13
 (aa Tryz.prog ω 32 [p_p,.int .i64 7] h3 (fun r14 h15 =>
 J10 h15) X)
 (J10 h3)) ∧
 ∀(d11:Nat→Value) (h12:Hp),J10 h12 →
 aa Tryz.prog ω 56 [p_p,(.slice (some ⟨h12.size,0,none⟩) 1 1)] (h12.push (.cells (List.toArray [(.string ⟨#[123]⟩)]) 9 (0,0))) (fun r16 h17 =>
 nnK p_p (asP p_p fun p18 =>
 ∃v19,af h17 (Addr.add p18 3)=some v19 ∧
 asK .i64 v19 fun n20=>nnK p_p (asP p_p fun p21 =>
 aJ h17 (Addr.add p21 3) (.int .i64 (IntKind.wrap .i64 (n20+1))) fun h22 =>
 ∃(I23:RT) (μ24:Value→Hp→Nat),I23 (.slice none 0 0) h22∧∀Cb (d26:Nat→Value) (h27:Hp),I23 Cb h27 →
 aa Tryz.prog ω 31 [p_p,(.string ⟨#[125]⟩)] h27 (fun r28 h29 =>
 asB r28 fun b30=>cond (!b30)
 (aa Tryz.prog ω 87 [p_p] h29 (fun r31 h32 =>
 asA r31 fun A33=>A33.size=9∧x2 Tryz.prog 37 (h32.push (.cells (List.toArray (A33.toList++[])) 39 (0,0))) Cb (.slice (some ⟨h32.size,0,none⟩) 1 1) fun w34 h35 =>
 I23 w34 h35∧μ24 w34 h35 < μ24 Cb h27) X)
 (nnK p_p (asP p_p fun p36 =>
 ∃v37,af h29 (Addr.add p36 3)=some v37 ∧
 asK .i64 v37 fun n38=>nnK p_p (asP p_p fun p39 =>
 aJ h29 (Addr.add p39 3) (.int .i64 (IntKind.wrap .i64 (n38 - 1))) fun h40 =>
 aa Tryz.prog ω 54 [p_p] h40 (fun r41 h42 =>
 R Cb h42) X)))) X))) X
def lm:Ann :=
 (.T .L (.T (.T (.join [4,5,6,7,8,9,10,11,12] [12] .L) (.join [13,14] [] (.T .L .L))) (.T .L (.T .L (.T .L (.T (.one (.loop [25,26,27,28,29,30,31,32,3] [3] (.T (.T .L (.T .L .L)) (.one .L)))) (.T .L (.T .L (.T .L .L)))))))))
theorem lu (ω:Amb)(p_p:Value)(h:Hp)(R:RT)(X:XT)(hk:eK ω p_p h R X):aa Tryz.prog ω 58 [p_p] h R X :=
 al (an:=lm) Tryz.func58 (by kernel_rfl) hk
abbrev nz:Nat:=86
abbrev aQ (h:Hp):Hp:=h.push (.cells #[.int .i64 0,.int .i64 0,.string ⟨#[]⟩,.int .i64 0] 100 (0,0))
def fC (ω:Amb)(p_p k_p:Value)(h:Hp)(R:RT)(X:XT):Prop :=
 ∃β0:Bool,
 (nnK p_p (asP p_p fun p2 =>
 ∃v3,af (aQ h) (Addr.add p2 0)=some v3 ∧
 bR v3 fun a4 l5 c6=>cond ((l5:Int)==(0:Int))
 (((.bool true):Value)=.bool β0∧(aQ h)=(aQ h))
 (nnK p_p (asP p_p fun p7 =>
 ∃v8,af (aQ h) (Addr.add p7 0)=some v8 ∧
 aI v8 fun a9 l10 c11=>0≤(0:Int)∧0 < (l10:Int)∧∃v12,af (aQ h) (Addr.add (Addr.add a9 (Int.toNat 0*4)) 0)=some v12 ∧
 asK .i64 v12 fun n13=>asK .i64 k_p fun n14=>((.bool (n13 !=n14)):Value)=.bool β0∧(aQ h)=(aQ h))))) ∧
 ∀d1:Nat→Value,
 ∃J15:Hp→Prop,
 (cond β0
 (aa Tryz.prog ω 32 [p_p,.int .i64 5] (aQ h) (fun r18 h19 =>
 J15 h19) X)
 (J15 (aQ h))) ∧
 ∀(d16:Nat→Value) (h17:Hp),J15 h17 →
 aa Tryz.prog ω 54 [p_p] h17 (fun r20 h21 =>
 asA r20 fun A22=>A22.size=4∧(∀u∈A22.toList,one u)∧av h21 ⟨h.size,0,none⟩ A22.toList fun h23 =>
 ∃C24,aj h23 ⟨h.size,0,none⟩ 4 C24∧R (.agg C24.toArray) h23) X
def mQ:Ann :=
 (.T .L (.T (.T (.jb [5,6,7,8,9,10,11,12,13,14,15,16,17,18,19,20,21] 21 .L) (.join [22,23] [] (.T .L .L))) (.T .L .L)))
theorem mY (ω:Amb)(p_p k_p:Value)(h:Hp)(R:RT)(X:XT)(hk:fC ω p_p k_p h R X):aa Tryz.prog ω 86 [p_p,k_p] h R X :=
 al (an:=mQ) Tryz.func86 (by kernel_rfl) hk
abbrev mT:Nat:=87
abbrev aN:Obj:=.cells #[.int .i64 0,.int .i64 0,.string ⟨#[]⟩,.string ⟨#[]⟩,.string ⟨#[]⟩,.int .i64 0,.slice none 0 0,.slice none 0 0,.slice none 0 0] 39 (0,0)
def fO (ω:Amb)(p_p:Value)(h:Hp)(R:RT)(X:XT):Prop :=
 ∃β0:Bool,
 (nnK p_p (asP p_p fun p2 =>
 ∃v3,af (h.push (aN)) (Addr.add p2 0)=some v3 ∧
 bR v3 fun a4 l5 c6=>cond ((l5:Int)==(0:Int))
 (((.bool true):Value)=.bool β0∧(h.push (aN))=(h.push (aN)))
 (nnK p_p (asP p_p fun p7 =>
 ∃v8,af (h.push (aN)) (Addr.add p7 0)=some v8 ∧
 aI v8 fun a9 l10 c11=>0≤(0:Int)∧0 < (l10:Int)∧∃v12,af (h.push (aN)) (Addr.add (Addr.add a9 (Int.toNat 0*4)) 0)=some v12 ∧
 asK .i64 v12 fun n13=>((.bool (n13 !=(1:Int))):Value)=.bool β0∧(h.push (aN))=(h.push (aN)))))) ∧
 ∀d1:Nat→Value,
 ∃J14:Hp→Prop,
 (cond β0
 (aa Tryz.prog ω 32 [p_p,.int .i64 5] (h.push (aN)) (fun r17 h18 =>
 J14 h18) X)
 (J14 (h.push (aN)))) ∧
 ∀(d15:Nat→Value) (h16:Hp),J14 h16 →
 nnK p_p (asP p_p fun p19 =>
 ∃v20,af h16 (Addr.add p19 0)=some v20 ∧
 aI v20 fun a21 l22 c23=>0≤(0:Int)∧0 < (l22:Int)∧∃v24,af h16 (Addr.add (Addr.add a21 (Int.toNat 0*4)) 2)=some v24 ∧
 aa Tryz.prog ω 109 [(.slice (some ⟨h16.size,0,none⟩) 14 14),v24] (h16.push (.cells (List.toArray [(.string ⟨#[108,101,116]⟩),(.string ⟨#[115,101,116]⟩),(.string ⟨#[101,109,105,116]⟩),(.string ⟨#[99,104,97,110]⟩),(.string ⟨#[99,108,111,110,101]⟩),(.string ⟨#[115,101,110,100]⟩),(.string ⟨#[99,108,111,115,101]⟩),(.string ⟨#[97,98,97,110,100,111,110]⟩),(.string ⟨#[100,114,97,105,110]⟩),(.string ⟨#[115,112,97,119,110]⟩),(.string ⟨#[116,97,107,101]⟩),(.string ⟨#[102,111,114]⟩),(.string ⟨#[114,101,112,101,97,116]⟩),(.string ⟨#[105,102]⟩)]) 9 (0,0))) (fun r25 h26 =>
 asK .i64 r25 fun n27=>∃J28:Hp→Prop,
 (cond (decide (n27 < 0))
 (aa Tryz.prog ω 32 [p_p,.int .i64 5] h26 (fun r31 h32 =>
 J28 h32) X)
 (J28 h26)) ∧
 ∀(d29:Nat→Value) (h30:Hp),J28 h30 →
 nnK p_p (asP p_p fun p33 =>
 ∃v34,af h30 (Addr.add p33 2)=some v34 ∧
 asK .i64 v34 fun n35=>∃J36:Hp→Prop,
 (cond (n35==(300:Int))
 (aa Tryz.prog ω 32 [p_p,.int .i64 8] h30 (fun r39 h40 =>
 J36 h40) X)
 (J36 h30)) ∧
 ∀(d37:Nat→Value) (h38:Hp),J36 h38 →
 nnK p_p (asP p_p fun p41 =>
 ∃v42,af h38 (Addr.add p41 2)=some v42 ∧
 asK .i64 v42 fun n43=>nnK p_p (asP p_p fun p44 =>
 aJ h38 (Addr.add p44 2) (.int .i64 (IntKind.wrap .i64 (n43+1))) fun h45 =>
 asK .i64 r25 fun n46=>aa Tryz.prog ω 54 [p_p] h45 (fun r47 h48 =>
 asA r47 fun A49=>asO A49[1]? fun v50=>cq v50 (9=9∧(∀u∈[(.int .i64 (IntKind.wrap .i64 (n46+1))),v50,.string ⟨#[]⟩,.string ⟨#[]⟩,.string ⟨#[]⟩,.int .i64 0,.slice none 0 0,.slice none 0 0,.slice none 0 0],one u)∧av (h48.push (aN)) ⟨h48.size,0,none⟩ [(.int .i64 (IntKind.wrap .i64 (n46+1))),v50,.string ⟨#[]⟩,.string ⟨#[]⟩,.string ⟨#[]⟩,.int .i64 0,.slice none 0 0,.slice none 0 0,.slice none 0 0] fun h51 =>
 ∃v52,af h51 (Addr.add ⟨h48.size,0,none⟩ 0)=some v52 ∧
 asK .i64 v52 fun n53=>∃J54:RT,
 (cond (n53==(11:Int))
 (J54 (.bool (n53==(11:Int))) h51)
 (asK .i64 v52 fun n58=>∃J59:RT,
 (cond (n58==(12:Int))
 (J59 (.bool (n58==(12:Int))) h51)
 (asK .i64 v52 fun n63=>∃J64:RT,
 (cond (n63==(13:Int))
 (J64 (.bool (n63==(13:Int))) h51)
 (asK .i64 v52 fun n68=>J64 (.bool (n68==(14:Int))) h51)) ∧
 ∀Kq (d66:Nat→Value) (h67:Hp),J64 Kq h67 →
 J59 Kq h67)) ∧
 ∀KY (d61:Nat→Value) (h62:Hp),J59 KY h62 →
 J54 KY h62)) ∧
 ∀Kt (d56:Nat→Value) (h57:Hp),J54 Kt h57 →
 asB Kt fun b69=>cond b69
 (aa Tryz.prog ω 110 [p_p,(.pointer (some ⟨h48.size,0,none⟩))] h57 (fun r70 h71 =>
 ∃C72,aj h71 ⟨h48.size,0,none⟩ 9 C72 ∧
 C72.toArray.size=9∧(∀u∈C72.toArray.toList,one u)∧av h71 ⟨h.size,0,none⟩ C72.toArray.toList fun h73 =>
 ∃C74,aj h73 ⟨h.size,0,none⟩ 9 C74∧R (.agg C74.toArray) h73) X)
 (aa Tryz.prog ω 111 [p_p,(.pointer (some ⟨h48.size,0,none⟩))] h57 (fun r75 h76 =>
 aa Tryz.prog ω 56 [p_p,(.slice (some ⟨h76.size,0,none⟩) 1 1)] (h76.push (.cells (List.toArray [(.string ⟨#[59]⟩)]) 9 (0,0))) (fun r77 h78 =>
 ∃C79,aj h78 ⟨h48.size,0,none⟩ 9 C79 ∧
 C79.toArray.size=9∧(∀u∈C79.toArray.toList,one u)∧av h78 ⟨h.size,0,none⟩ C79.toArray.toList fun h80 =>
 ∃C81,aj h80 ⟨h.size,0,none⟩ 9 C81∧R (.agg C81.toArray) h80) X) X))) X)))) X)
def nL:Ann :=
 (.T .L (.T (.T (.jb [6,7,8,9,10,11,12,13,14,15,16,17,18,19,20,21] 21 .L) (.join [22,23] [] (.T .L .L))) (.T .L (.T .L (.T (.T .L (.join [36,37] [] (.T .L .L))) (.T (.T .L (.join [43,44] [] (.T .L .L))) (.T .L (.T .L (.T (.T .L (.one (.T (.T .L (.join [62,60,63,64] [60] (.T .L (.T .L (.join [63,60,64] [60] (.T .L (.T .L (.join [64,60] [60] (.T .L .L))))))))) (.T (.T .L (.T .L .L)) .L)))) (.T .L (.T .L (.T .L .L))))))))))))
theorem mo (ω:Amb)(p_p:Value)(h:Hp)(R:RT)(X:XT)(hk:fO ω p_p h R X):aa Tryz.prog ω 87 [p_p] h R X :=
 al (an:=nL) Tryz.func87 (by kernel_rfl) hk
abbrev fW:Nat:=109
def cH (ω:Amb)(s_p v_p:Value)(h:Hp)(R:RT)(X:XT):Prop :=
 bR s_p fun a0 l1 c2=>∃(I3:RT) (μ4:Value→Hp→Nat),I3 (.int .i64 0) h∧∀tg (d6:Nat→Value) (h7:Hp),I3 tg h7 →
 asK .i64 tg fun n8=>cond (decide (n8 < (l1:Int)))
 (aI s_p fun a9 l10 c11=>asI tg fun n12=>0≤n12∧n12 < (l10:Int)∧∃v13,af h7 (Addr.add a9 (n12.toNat*1))=some v13 ∧
 asS v_p fun s14=>asS v13 fun s15=>cond (s14.toList==s15.toList)
 (R tg h7)
 (asK .i64 tg fun n16=>I3 (.int .i64 (IntKind.wrap .i64 (n16+1))) h7∧μ4 (.int .i64 (IntKind.wrap .i64 (n16+1))) h7 < μ4 tg h7))
 (R (.int .i64 (-1)) h7)
def fX:Ann :=
 (.T .L (.T (.T .L (.one (.loop [9,10,5,11,12,13,14,15,16,17,4,18,8] [8] (.T .L (.T (.T .L .L) (.T (.one (.T .L (.T .L (.T (.T .L .L) .L)))) .L)))))) (.T .L .L)))
theorem fZ (ω:Amb)(s_p v_p:Value)(h:Hp)(R:RT)(X:XT)(hk:cH ω s_p v_p h R X):aa Tryz.prog ω 109 [s_p,v_p] h R X :=
 al (an:=fX) Tryz.func109 (by kernel_rfl) hk
abbrev ni:Nat:=110
def fy (ω:Amb)(p_p s_p:Value)(h:Hp)(R:RT)(X:XT):Prop :=
 ∃β0:Bool,
 (nnK s_p (asP s_p fun p2 =>
 ∃v3,af h (Addr.add p2 0)=some v3 ∧
 asK .i64 v3 fun n4=>cond (n4==(11:Int))
 (((.bool true):Value)=.bool β0∧h=h)
 (nnK s_p (asP s_p fun p5 =>
 ∃v6,af h (Addr.add p5 0)=some v6 ∧
 asK .i64 v6 fun n7=>((.bool (n7==(12:Int))):Value)=.bool β0∧h=h)))) ∧
 ∀d1:Nat→Value,
 ∃J8:Hp→Prop,
 (cond β0
 (aa Tryz.prog ω 55 [p_p] h (fun r11 h12 =>
 nnK s_p (asP s_p fun p13 =>
 cq r11 (aJ h12 (Addr.add p13 2) r11 fun h14 =>
 aa Tryz.prog ω 56 [p_p,(.slice (some ⟨h14.size,0,none⟩) 1 1)] (h14.push (.cells (List.toArray [(.string ⟨#[102,114,111,109]⟩)]) 9 (0,0))) (fun r15 h16 =>
 aa Tryz.prog ω 55 [p_p] h16 (fun r17 h18 =>
 nnK s_p (asP s_p fun p19 =>
 cq r17 (aJ h18 (Addr.add p19 3) r17 fun h20 =>
 J8 h20))) X) X))) X)
 (aa Tryz.prog ω 129 [p_p] h (fun r21 h22 =>
 asA r21 fun A23=>A23.size=4∧nnK s_p (asP s_p fun p24 =>
 aJ (h22.push (.cells (List.toArray (A23.toList++[])) 36 (0,0))) (Addr.add p24 6) (.slice (some ⟨h22.size,0,none⟩) 1 1) fun h25 =>
 J8 h25)) X)) ∧
 ∀(d9:Nat→Value) (h10:Hp),J8 h10 →
 aa Tryz.prog ω 58 [p_p] h10 (fun r26 h27 =>
 nnK s_p (asP s_p fun p28 =>
 cq r26 (aJ h27 (Addr.add p28 7) r26 fun h29 =>
 ∃β30:Bool,
 (nnK s_p (asP s_p fun p32 =>
 ∃v33,af h29 (Addr.add p32 0)=some v33 ∧
 asK .i64 v33 fun n34=>cond (n34==(11:Int))
 (((.bool true):Value)=.bool β30∧h29=h29)
 (nnK s_p (asP s_p fun p35 =>
 ∃v36,af h29 (Addr.add p35 0)=some v36 ∧
 asK .i64 v36 fun n37=>((.bool (n37==(14:Int))):Value)=.bool β30∧h29=h29)))) ∧
 ∀d31:Nat→Value,
 ∃J38:Hp→Prop,
 (cond β30
 (aa Tryz.prog ω 130 [p_p] h29 (fun r41 h42 =>
 nnK s_p (asP s_p fun p43 =>
 cq r41 (aJ h42 (Addr.add p43 8) r41 fun h44 =>
 J38 h44))) X)
 (J38 h29)) ∧
 ∀(d39:Nat→Value) (h40:Hp),J38 h40 →
 R (.tuple #[]) h40))) X
def mK:Ann :=
 (.T (.T (.jb [4,5,6,7,8,9,10,11,12,13,14,15] 15 .L) (.join [16,17,18,19,20,21,22,23,24,25,26,27,28,29,30,31,32,33,34] [] (.T (.T .L (.T .L .L)) .L))) (.T .L (.T (.jb [40,41,42,43,44,45,46,47,48,49,50,51] 51 .L) (.join [52,53,54,55,56] [] (.T .L .L)))))
theorem mR (ω:Amb)(p_p s_p:Value)(h:Hp)(R:RT)(X:XT)(hk:fy ω p_p s_p h R X):aa Tryz.prog ω 110 [p_p,s_p] h R X :=
 al (an:=mK) Tryz.func110 (by kernel_rfl) hk
abbrev ln:Nat:=111
def eX (ω:Amb)(p_p s_p:Value)(h:Hp)(R:RT)(X:XT):Prop :=
 nnK s_p (asP s_p fun p0 =>
 ∃v1,af h (Addr.add p0 0)=some v1 ∧
 asK .i64 v1 fun n2=>cond (n2==(3:Int))
 (aa Tryz.prog ω 129 [p_p] h (fun r3 h4 =>
 asA r3 fun A5=>A5.size=4∧nnK s_p (asP s_p fun p6 =>
 aJ (h4.push (.cells (List.toArray (A5.toList++[])) 36 (0,0))) (Addr.add p6 6) (.slice (some ⟨h4.size,0,none⟩) 1 1) fun h7 =>
 R (.tuple #[]) h7)) X)
 (aa Tryz.prog ω 55 [p_p] h (fun r8 h9 =>
 nnK s_p (asP s_p fun p10 =>
 cq r8 (aJ h9 (Addr.add p10 2) r8 fun h11 =>
 nnK s_p (asP s_p fun p12 =>
 ∃v13,af h11 (Addr.add p12 0)=some v13 ∧
 ∃J14:Hp→Prop,
 (asK .i64 v13 fun n17=>∃J18:RT,
 (cond (n17==(1:Int))
 (J18 (.bool (n17==(1:Int))) h11)
 (asK .i64 v13 fun n22=>J18 (.bool (n22==(2:Int))) h11)) ∧
 ∀Lc (d20:Nat→Value) (h21:Hp),J18 Lc h21 →
 ∃J23:Hp→Prop,
 (asB Lc fun b26=>cond b26
 (aa Tryz.prog ω 56 [p_p,(.slice (some ⟨h21.size,0,none⟩) 1 1)] (h21.push (.cells (List.toArray [(.string ⟨#[61]⟩)]) 9 (0,0))) (fun r27 h28 =>
 aa Tryz.prog ω 129 [p_p] h28 (fun r29 h30 =>
 asA r29 fun A31=>A31.size=4∧nnK s_p (asP s_p fun p32 =>
 aJ (h30.push (.cells (List.toArray (A31.toList++[])) 36 (0,0))) (Addr.add p32 6) (.slice (some ⟨h30.size,0,none⟩) 1 1) fun h33 =>
 J23 h33)) X) X)
 (asK .i64 v13 fun n34=>∃J35:Hp→Prop,
 (cond (n34==(4:Int))
 (aa Tryz.prog ω 55 [p_p] h21 (fun r38 h39 =>
 nnK s_p (asP s_p fun p40 =>
 cq r38 (aJ h39 (Addr.add p40 3) r38 fun h41 =>
 aa Tryz.prog ω 57 [p_p] h41 (fun r42 h43 =>
 nnK s_p (asP s_p fun p44 =>
 cq r42 (aJ h43 (Addr.add p44 4) r42 fun h45 =>
 aa Tryz.prog ω 86 [p_p,.int .i64 3] h45 (fun r46 h47 =>
 asA r46 fun A48=>asO A48[3]? fun v49=>nnK s_p (asP s_p fun p50 =>
 cq v49 (aJ h47 (Addr.add p50 5) v49 fun h51 =>
 J35 h51))) X))) X))) X)
 (asK .i64 v13 fun n52=>∃J53:Hp→Prop,
 (cond (n52==(5:Int))
 (aa Tryz.prog ω 55 [p_p] h21 (fun r56 h57 =>
 nnK s_p (asP s_p fun p58 =>
 cq r56 (aJ h57 (Addr.add p58 3) r56 fun h59 =>
 J53 h59))) X)
 (asK .i64 v13 fun n60=>∃J61:Hp→Prop,
 (cond (n60==(6:Int))
 (aa Tryz.prog ω 129 [p_p] h21 (fun r64 h65 =>
 asA r64 fun A66=>A66.size=4∧nnK s_p (asP s_p fun p67 =>
 aJ (h65.push (.cells (List.toArray (A66.toList++[])) 36 (0,0))) (Addr.add p67 6) (.slice (some ⟨h65.size,0,none⟩) 1 1) fun h68 =>
 J61 h68)) X)
 (asK .i64 v13 fun n69=>∃J70:Hp→Prop,
 (cond (n69==(10:Int))
 (aa Tryz.prog ω 131 [p_p] h21 (fun r73 h74 =>
 nnK s_p (asP s_p fun p75 =>
 cq r73 (aJ h74 (Addr.add p75 6) r73 fun h76 =>
 J70 h76))) X)
 (J70 h21)) ∧
 ∀(d71:Nat→Value) (h72:Hp),J70 h72 →
 J61 h72)) ∧
 ∀(d62:Nat→Value) (h63:Hp),J61 h63 →
 J53 h63)) ∧
 ∀(d54:Nat→Value) (h55:Hp),J53 h55 →
 J35 h55)) ∧
 ∀(d36:Nat→Value) (h37:Hp),J35 h37 →
 J23 h37)) ∧
 ∀(d24:Nat→Value) (h25:Hp),J23 h25 →
 J14 h25) ∧
 ∀(d15:Nat→Value) (h16:Hp),J14 h16 →
 R (.tuple #[]) h16)))) X))
def lp:Ann :=
 (.T (.T .L (.one (.T .L (.T (.T .L .L) .L)))) (.T .L (.T .L (.join [26,25,27,28,29,30,31,32,33,34,35,36,38,37,39,40,41,42,43,44,45,46,47,48,49,50,51,52,53,54,56,55,57,58,59,60,61,63,62,64,65,66,67,68,69,71,70,72,73,74,75,76] [] (.one (.T (.T .L (.join [27,25] [25] (.T .L .L))) (.join [28,29,30,31,32,33,34,35,36,38,37,39,40,41,42,43,44,45,46,47,48,49,50,51,52,53,54,56,55,57,58,59,60,61,63,62,64,65,66,67,68,69,71,70,72,73,74,75,76] [] (.T (.T .L .L) (.T .L (.join [39,40,41,42,43,44,45,46,47,48,49,50,51,52,53,54,56,55,57,58,59,60,61,63,62,64,65,66,67,68,69,71,70,72,73,74,75,76] [] (.T (.T .L (.T .L .L)) (.T .L (.join [57,58,59,60,61,63,62,64,65,66,67,68,69,71,70,72,73,74,75,76] [] (.T .L (.T .L (.join [64,65,66,67,68,69,71,70,72,73,74,75,76] [] (.T .L (.T .L (.join [72,73,74,75,76] [] (.T .L .L))))))))))))))))))))
theorem mg (ω:Amb)(p_p s_p:Value)(h:Hp)(R:RT)(X:XT)(hk:eX ω p_p s_p h R X):aa Tryz.prog ω 111 [p_p,s_p] h R X :=
 al (an:=lp) Tryz.func111 (by kernel_rfl) hk
abbrev fJ:Nat:=129
def fk (ω:Amb)(p_p:Value)(h:Hp)(R:RT)(X:XT):Prop :=
 nnK p_p (asP p_p fun p0 =>
 aJ (h.push (.cells #[.int .i64 0,.string ⟨#[]⟩,.int .i64 0,.slice none 0 0] 36 (0,0))) (Addr.add p0 5) (.int .i64 0) fun h1 =>
 nnK p_p (asP p_p fun p2 =>
 ∃v3,af h1 (Addr.add p2 0)=some v3 ∧
 bR v3 fun a4 l5 c6=>∃J7:Hp→Prop,
 (cond ((l5:Int)==(0:Int))
 (aa Tryz.prog ω 32 [p_p,.int .i64 5] h1 (fun r10 h11 =>
 J7 h11) X)
 (J7 h1)) ∧
 ∀(d8:Nat→Value) (h9:Hp),J7 h9 →
 nnK p_p (asP p_p fun p12 =>
 ∃v13,af h9 (Addr.add p12 0)=some v13 ∧
 aI v13 fun a14 l15 c16=>0≤(0:Int)∧0 < (l15:Int)∧∃v17,af h9 (Addr.add (Addr.add a14 (Int.toNat 0*4)) 1)=some v17 ∧
 aa Tryz.prog ω 152 [p_p] h9 (fun r18 h19 =>
 asA r18 fun A20=>A20.size=4∧(∀u∈A20.toList,one u)∧av (h19.push (.cells #[.int .i64 0,.string ⟨#[]⟩,.int .i64 0,.slice none 0 0] 36 (0,0))) ⟨h19.size,0,none⟩ A20.toList fun h21 =>
 nnK p_p (asP p_p fun p22 =>
 ∃v23,af h21 (Addr.add p22 5)=some v23 ∧
 asK .i64 v23 fun n24=>∃J25:Hp→Prop,
 (cond (decide (n24 > 20))
 (cq v17 (X [⟨.iface 67 (.agg #[.int .i64 8,v17]),false,false⟩] h21))
 (J25 h21)) ∧
 ∀(d26:Nat→Value) (h27:Hp),J25 h27 →
 ∃C28,aj h27 ⟨h19.size,0,none⟩ 4 C28 ∧
 C28.toArray.size=4∧(∀u∈C28.toArray.toList,one u)∧av h27 ⟨h.size,0,none⟩ C28.toArray.toList fun h29 =>
 ∃C30,aj h29 ⟨h.size,0,none⟩ 4 C30∧R (.agg C30.toArray) h29)) X)))
def mU:Ann :=
 (.T .L (.T .L (.T (.T .L (.join [14,15] [] (.T .L .L))) (.T .L (.T .L (.T (.T .L (.join [30,31,32] [] (.T .L .L))) (.T .L .L)))))))
theorem nG (ω:Amb)(p_p:Value)(h:Hp)(R:RT)(X:XT)(hk:fk ω p_p h R X):aa Tryz.prog ω 129 [p_p] h R X :=
 al (an:=mU) Tryz.func129 (by kernel_rfl) hk
abbrev lG:Nat:=130
def eS (ω:Amb)(p_p:Value)(h:Hp)(R:RT)(X:XT):Prop :=
 aa Tryz.prog ω 31 [p_p,(.string ⟨#[101,108,115,101]⟩)] h (fun r0 h1 =>
 asB r0 fun b2=>cond (!b2)
 (R (.slice none 0 0) h1)
 (aa Tryz.prog ω 54 [p_p] h1 (fun r3 h4 =>
 aa Tryz.prog ω 58 [p_p] h4 (fun r5 h6 =>
 R r5 h6) X) X)) X
def lA:Ann :=
 (.T .L (.T (.T .L (.T (.T .L .L) .L)) (.T .L (.T .L .L))))
theorem mc (ω:Amb)(p_p:Value)(h:Hp)(R:RT)(X:XT)(hk:eS ω p_p h R X):aa Tryz.prog ω 130 [p_p] h R X :=
 al (an:=lA) Tryz.func130 (by kernel_rfl) hk
abbrev mA:Nat:=131
def fI (ω:Amb)(p_p:Value)(h:Hp)(R:RT)(X:XT):Prop :=
 aa Tryz.prog ω 56 [p_p,(.slice (some ⟨h.size,0,none⟩) 1 1)] (h.push (.cells (List.toArray [(.string ⟨#[40]⟩)]) 9 (0,0))) (fun r0 h1 =>
 ∃(I2:RT) (μ3:Value→Hp→Nat),I2 (.slice none 0 0) h1∧∀Eh (d5:Nat→Value) (h6:Hp),I2 Eh h6 →
 aa Tryz.prog ω 31 [p_p,(.string ⟨#[41]⟩)] h6 (fun r7 h8 =>
 asB r7 fun b9=>cond (!b9)
 (bR Eh fun a10 l11 c12=>∃J13:Hp→Prop,
 (cond (decide ((l11:Int) > 0))
 (aa Tryz.prog ω 56 [p_p,(.slice (some ⟨h8.size,0,none⟩) 1 1)] (h8.push (.cells (List.toArray [(.string ⟨#[44]⟩)]) 9 (0,0))) (fun r16 h17 =>
 J13 h17) X)
 (J13 h8)) ∧
 ∀(d14:Nat→Value) (h15:Hp),J13 h15 →
 bR Eh fun a18 l19 c20=>∃J21:Hp→Prop,
 (cond ((l19:Int)==(6:Int))
 (aa Tryz.prog ω 32 [p_p,.int .i64 8] h15 (fun r24 h25 =>
 J21 h25) X)
 (J21 h15)) ∧
 ∀(d22:Nat→Value) (h23:Hp),J21 h23 →
 aa Tryz.prog ω 129 [p_p] h23 (fun r26 h27 =>
 asA r26 fun A28=>A28.size=4∧x2 Tryz.prog 34 (h27.push (.cells (List.toArray (A28.toList++[])) 36 (0,0))) Eh (.slice (some ⟨h27.size,0,none⟩) 1 1) fun w29 h30 =>
 I2 w29 h30∧μ3 w29 h30 < μ3 Eh h6) X)
 (aa Tryz.prog ω 54 [p_p] h8 (fun r31 h32 =>
 R Eh h32) X)) X) X
def mr:Ann :=
 (.T .L (.T .L (.T .L (.T (.one (.loop [7,8,9,10,11,12,13,14,15,16,17,18,19,20,21,22,23,24,25,3] [3] (.T (.T .L (.T .L .L)) (.one (.T (.T .L (.join [13,14,15] [] (.T .L .L))) (.T (.T .L (.join [19,20] [] (.T .L .L))) .L)))))) (.T .L (.T .L .L))))))
theorem nd (ω:Amb)(p_p:Value)(h:Hp)(R:RT)(X:XT)(hk:fI ω p_p h R X):aa Tryz.prog ω 131 [p_p] h R X :=
 al (an:=mr) Tryz.func131 (by kernel_rfl) hk
abbrev cj:Nat:=152
def gK (ω:Amb)(p_p:Value)(h:Hp)(R:RT)(X:XT):Prop :=
 aa Tryz.prog ω 166 [p_p] (h.push (.cells #[.int .i64 0,.string ⟨#[]⟩,.int .i64 0,.slice none 0 0] 36 (0,0))) (fun r0 h1 =>
 asA r0 fun A2=>A2.size=4∧(∀u∈A2.toList,one u)∧av (h1.push (.cells #[.int .i64 0,.string ⟨#[]⟩,.int .i64 0,.slice none 0 0] 36 (0,0))) ⟨h1.size,0,none⟩ A2.toList fun h3 =>
 aa Tryz.prog ω 31 [p_p,(.string ⟨#[60]⟩)] h3 (fun r4 h5 =>
 asB r4 fun b6=>cond b6
 (aa Tryz.prog ω 54 [p_p] h5 (fun r7 h8 =>
 ∃C9,aj h8 ⟨h1.size,0,none⟩ 4 C9 ∧
 aa Tryz.prog ω 166 [p_p] h8 (fun r10 h11 =>
 aj h11 ⟨h1.size,0,none⟩ 4 C9∧aa Tryz.prog ω 167 [p_p,.int .i64 7,.agg C9.toArray,r10] h11 (fun r12 h13 =>
 asA r12 fun A14=>A14.size=4∧(∀u∈A14.toList,one u)∧av h13 ⟨h.size,0,none⟩ A14.toList fun h15 =>
 ∃C16,aj h15 ⟨h.size,0,none⟩ 4 C16∧R (.agg C16.toArray) h15) X) X) X)
 (aa Tryz.prog ω 31 [p_p,(.string ⟨#[61,61]⟩)] h5 (fun r17 h18 =>
 asB r17 fun b19=>cond b19
 (aa Tryz.prog ω 54 [p_p] h18 (fun r20 h21 =>
 ∃C22,aj h21 ⟨h1.size,0,none⟩ 4 C22 ∧
 aa Tryz.prog ω 166 [p_p] h21 (fun r23 h24 =>
 aj h24 ⟨h1.size,0,none⟩ 4 C22∧aa Tryz.prog ω 167 [p_p,.int .i64 8,.agg C22.toArray,r23] h24 (fun r25 h26 =>
 asA r25 fun A27=>A27.size=4∧(∀u∈A27.toList,one u)∧av h26 ⟨h.size,0,none⟩ A27.toList fun h28 =>
 ∃C29,aj h28 ⟨h.size,0,none⟩ 4 C29∧R (.agg C29.toArray) h28) X) X) X)
 (∃C30,aj h18 ⟨h1.size,0,none⟩ 4 C30 ∧
 C30.toArray.size=4∧(∀u∈C30.toArray.toList,one u)∧av h18 ⟨h.size,0,none⟩ C30.toArray.toList fun h31 =>
 ∃C32,aj h31 ⟨h.size,0,none⟩ 4 C32∧R (.agg C32.toArray) h31)) X)) X) X
def nW:Ann :=
 (.T .L (.T .L (.T (.one (.T .L (.T (.T .L (.T (.plan [0,1,2,3,4,5]) .L)) (.T .L (.T (.T .L (.T (.plan [0,1,2,3,4,5]) .L)) .L))))) (.T .L .L))))
theorem nZ (ω:Amb)(p_p:Value)(h:Hp)(R:RT)(X:XT)(hk:gK ω p_p h R X):aa Tryz.prog ω 152 [p_p] h R X :=
 al (an:=nW) Tryz.func152 (by kernel_rfl) hk
abbrev bW:Nat:=166
def gn (ω:Amb)(p_p:Value)(h:Hp)(R:RT)(X:XT):Prop :=
 aa Tryz.prog ω 173 [p_p] (h.push (.cells #[.int .i64 0,.string ⟨#[]⟩,.int .i64 0,.slice none 0 0] 36 (0,0))) (fun r0 h1 =>
 asA r0 fun A2=>A2.size=4∧(∀u∈A2.toList,one u)∧av (h1.push (.cells #[.int .i64 0,.string ⟨#[]⟩,.int .i64 0,.slice none 0 0] 36 (0,0))) ⟨h1.size,0,none⟩ A2.toList fun h3 =>
 ∃(I4:Hp→Prop) (μ5:Hp→Nat),I4 h3∧∀(d6:Nat→Value) (h7:Hp),I4 h7 →
 ∃J8:RT,
 (aa Tryz.prog ω 31 [p_p,(.string ⟨#[43]⟩)] h7 (fun r12 h13 =>
 asB r12 fun b14=>cond b14
 (J8 (.bool true) h13)
 (aa Tryz.prog ω 31 [p_p,(.string ⟨#[45]⟩)] h13 (fun r15 h16 =>
 J8 r15 h16) X)) X) ∧
 ∀NY (d10:Nat→Value) (h11:Hp),J8 NY h11 →
 asB NY fun b17=>cond b17
 (aa Tryz.prog ω 54 [p_p] h11 (fun r18 h19 =>
 asA r18 fun A20=>asO A20[2]? fun v21=>asS v21 fun s22=>∃J23:RT,
 (cond (s22.toList==ByteArray.toList ⟨#[45]⟩)
 (J23 (.int .i64 5) h19)
 (J23 (.int .i64 4) h19)) ∧
 ∀OF (d25:Nat→Value) (h26:Hp),J23 OF h26 →
 ∃C27,aj h26 ⟨h1.size,0,none⟩ 4 C27 ∧
 aa Tryz.prog ω 173 [p_p] h26 (fun r28 h29 =>
 aj h29 ⟨h1.size,0,none⟩ 4 C27∧aa Tryz.prog ω 167 [p_p,OF,.agg C27.toArray,r28] h29 (fun r30 h31 =>
 asA r30 fun A32=>A32.size=4∧(∀u∈A32.toList,one u)∧av h31 ⟨h1.size,0,none⟩ A32.toList fun h33 =>
 I4 h33∧μ5 h33 < μ5 h7) X) X) X)
 (∃C34,aj h11 ⟨h1.size,0,none⟩ 4 C34 ∧
 C34.toArray.size=4∧(∀u∈C34.toArray.toList,one u)∧av h11 ⟨h.size,0,none⟩ C34.toArray.toList fun h35 =>
 ∃C36,aj h35 ⟨h.size,0,none⟩ 4 C36∧R (.agg C36.toArray) h35)) X
def ou:Ann :=
 (.T .L (.T .L (.T (.one (.loop [7,8,9,10,11,12,4,13,14,15,16,17,18,19,20,21,22] [] (.T (.T (.join [7,8,9,10,11,12] [12] .L) (.T .L .L)) (.one (.T .L (.T (.T .L (.join [4] [4] (.T .L .L))) (.plan [0,1,2,3,4,5,6]))))))) (.T .L .L))))
theorem oq (ω:Amb)(p_p:Value)(h:Hp)(R:RT)(X:XT)(hk:gn ω p_p h R X):aa Tryz.prog ω 166 [p_p] h R X :=
 al (an:=ou) Tryz.func166 (by kernel_rfl) hk
abbrev dh:Nat:=167
def o9:Ann :=
 (.T .L (.T .L (.T .L .L)))
abbrev cu:Nat:=173
def dM (ω:Amb)(p_p:Value)(h:Hp)(R:RT)(X:XT):Prop :=
 aa Tryz.prog ω 176 [p_p] (h.push (.cells #[.int .i64 0,.string ⟨#[]⟩,.int .i64 0,.slice none 0 0] 36 (0,0))) (fun r0 h1 =>
 asA r0 fun A2=>A2.size=4∧(∀u∈A2.toList,one u)∧av (h1.push (.cells #[.int .i64 0,.string ⟨#[]⟩,.int .i64 0,.slice none 0 0] 36 (0,0))) ⟨h1.size,0,none⟩ A2.toList fun h3 =>
 ∃(I4:Hp→Prop) (μ5:Hp→Nat),I4 h3∧∀(d6:Nat→Value) (h7:Hp),I4 h7 →
 aa Tryz.prog ω 31 [p_p,(.string ⟨#[42]⟩)] h7 (fun r8 h9 =>
 asB r8 fun b10=>cond b10
 (aa Tryz.prog ω 54 [p_p] h9 (fun r11 h12 =>
 ∃C13,aj h12 ⟨h1.size,0,none⟩ 4 C13 ∧
 aa Tryz.prog ω 176 [p_p] h12 (fun r14 h15 =>
 aj h15 ⟨h1.size,0,none⟩ 4 C13∧aa Tryz.prog ω 167 [p_p,.int .i64 6,.agg C13.toArray,r14] h15 (fun r16 h17 =>
 asA r16 fun A18=>A18.size=4∧(∀u∈A18.toList,one u)∧av h17 ⟨h1.size,0,none⟩ A18.toList fun h19 =>
 I4 h19∧μ5 h19 < μ5 h7) X) X) X)
 (∃C20,aj h9 ⟨h1.size,0,none⟩ 4 C20 ∧
 C20.toArray.size=4∧(∀u∈C20.toArray.toList,one u)∧av h9 ⟨h.size,0,none⟩ C20.toArray.toList fun h21 =>
 ∃C22,aj h21 ⟨h.size,0,none⟩ 4 C22∧R (.agg C22.toArray) h21)) X) X
def kj:Ann :=
 (.T .L (.T .L (.T (.one (.loop [6,7,8,9,10,11,12,13,14] [] (.T (.T .L (.T .L .L)) (.one (.T .L (.plan [0,1,2,3,4,5])))))) (.T .L .L))))
theorem jU (ω:Amb)(p_p:Value)(h:Hp)(R:RT)(X:XT)(hk:dM ω p_p h R X):aa Tryz.prog ω 173 [p_p] h R X :=
 al (an:=kj) Tryz.func173 (by kernel_rfl) hk
def ej (ω:Amb)(P1:Value)(h:Hp)(R:RT)(X:XT):Prop :=
 asP P1 fun p0 =>
 ∃v1,af h p0=some v1 ∧
 nnK v1 (asP v1 fun p2 =>
 ∃v3,af h (Addr.add p2 4)=some v3 ∧
 asK .i64 v3 fun n4=>nnK v1 (asP v1 fun p5 =>
 aJ h (Addr.add p5 4) (.int .i64 (IntKind.wrap .i64 (n4 - 1))) fun h6 =>
 R (.tuple #[]) h6))
def ei:Ann :=
 .L
end Go.Proofs.YtkeeboomikkojaaGreatDoor.Sx
set_option linter.unusedVariables false
set_option maxRecDepth 100000
namespace Go.Proofs.YtkeeboomikkojaaGreatDoor.Sx
open Go Go.Sx Go.Proofs
def Ea:List Value:=(cD [.int .i64 0,.string ⟨#[]⟩,.int .i64 0,.slice none 0 0] 2).toList
def Pp (C D:List Value):List Value:=(Ea.take (0*4)++(C++Ea.drop (0*4+4))).take (1*4)++(D++(Ea.take (0*4)++(C++Ea.drop (0*4+4))).drop (1*4+4))
def fP (ω:Amb)(p_p AD a_p b_p:Value)(h:Hp)(R:RT)(X:XT):Prop :=
 nnK p_p (asP p_p fun p0 =>
 ∃v1,af (Array.push (Array.push (h.push (.cells (Value.cells a_p) 36 (0,0))) (.cells (Value.cells b_p) 36 (0,0))) (.cells #[.int .i64 0,.string ⟨#[]⟩,.int .i64 0,.slice none 0 0] 36 (0,0))) (Addr.add p0 5)=some v1 ∧
 asK .i64 v1 fun n2=>nnK p_p (asP p_p fun p3 =>
 aJ (Array.push (Array.push (h.push (.cells (Value.cells a_p) 36 (0,0))) (.cells (Value.cells b_p) 36 (0,0))) (.cells #[.int .i64 0,.string ⟨#[]⟩,.int .i64 0,.slice none 0 0] 36 (0,0))) (Addr.add p3 5) (.int .i64 (IntKind.wrap .i64 (n2+1))) fun h4 =>
 ∃C5,aj h4 ⟨h.size,0,none⟩ 4 C5 ∧
 ∃C6,aj h4 ⟨Array.size (h.push (.cells (Value.cells a_p) 36 (0,0))),0,none⟩ 4 C6 ∧
 C5.toArray.size=4∧C6.toArray.size=4∧cq AD (4=4∧(∀u∈[AD,.string ⟨#[]⟩,.int .i64 0,(.slice (some ⟨h4.size,0,none⟩) 2 2)],one u)∧av (h4.push (.cells (List.toArray (Pp C5.toArray.toList C6.toArray.toList)) 36 (0,0))) ⟨Array.size (Array.push (h.push (.cells (Value.cells a_p) 36 (0,0))) (.cells (Value.cells b_p) 36 (0,0))),0,none⟩ [AD,.string ⟨#[]⟩,.int .i64 0,(.slice (some ⟨h4.size,0,none⟩) 2 2)] fun h7 =>
 ∃C8,aj h7 ⟨Array.size (Array.push (h.push (.cells (Value.cells a_p) 36 (0,0))) (.cells (Value.cells b_p) 36 (0,0))),0,none⟩ 4 C8∧R (.agg C8.toArray) h7)))
theorem nN (ω:Amb)(p_p AD a_p b_p:Value)(h:Hp)(R:RT)(X:XT)(hk:fP ω p_p AD a_p b_p h R X):aa Tryz.prog ω 167 [p_p,AD,a_p,b_p] h R X :=
 al (an:=o9) Tryz.func167 (by kernel_rfl) hk
end Go.Proofs.YtkeeboomikkojaaGreatDoor.Sx
