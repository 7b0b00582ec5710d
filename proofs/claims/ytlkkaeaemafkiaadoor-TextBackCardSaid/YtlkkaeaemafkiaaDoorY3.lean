/- Formulas of the functions' texts, written by a program of ours; each is checked by the kernel. -/
import Derived.Test.YtlkkaeaemafkiaaDoorSxCore
import Derived.KernelRfl
import Derived.Test.YtlkkaeaemafkiaaDoorProg
set_option linter.unusedVariables false
set_option maxRecDepth 100000
namespace Go.Proofs.YtlkkaeaemafkiaaDoor.Sx
open Go Go.Sx Go.Proofs

/-- pipewright/pipewrightlaw.TextPlaces -/
abbrev n_pipewrightlaw_TextPlaces : Nat := 3
def W_pipewrightlaw_TextPlaces (ω : Amb) (src_p at_p : Value) (h : Hp) (R : Value → Hp → Prop) (X : List PanicEntry → Hp → Prop) : Prop :=
 CallX Tryd.prog ω 5 [] h (fun r0 h1 =>
 asB r0 fun b2 => cond (!b2)
 (R (.bool false) h1)
 (asS src_p fun s3 => cond (decide (((ByteArray.size s3 : Int) : Int) > 20000))
 (R (.bool true) h1)
 (CallX Tryd.prog ω 6 [src_p, at_p] h1 (fun r4 h5 =>
 asT r4 fun T6 => asO T6[0]? fun v7 => asT r4 fun T8 => asO T8[1]? fun v9 => asT r4 fun T10 => asO T10[2]? fun v11 => asA v11 fun A12 => A12.size = 2 ∧ (∀ u ∈ A12.toList, one u) ∧ storeK (Array.push h5 (.cells #[(.int .i64 0), (.int .i64 0)] 24 (0, 0))) ⟨Array.size h5, 0, none⟩ A12.toList fun h13 =>
 CallX Tryd.prog ω 7 [src_p, at_p] h13 (fun r14 h15 =>
 asT r14 fun T16 => asO T16[0]? fun v17 => asT r14 fun T18 => asO T18[1]? fun v19 => asT r14 fun T20 => asO T20[2]? fun v21 => asA v21 fun A22 => A22.size = 2 ∧ (∀ u ∈ A22.toList, one u) ∧ storeK (Array.push h15 (.cells #[(.int .i64 0), (.int .i64 0)] 24 (0, 0))) ⟨Array.size h15, 0, none⟩ A22.toList fun h23 =>
 ∃ J24 : Value → Hp → Prop,
 (asK .i64 v7 fun n28 => asK .i64 v17 fun n29 => cond (n28 == (n29 : Int))
 (asK .i64 v9 fun n30 => asK .i64 v19 fun n31 => cond (n30 == (n31 : Int))
 (∃ C32, cellsH h23 ⟨Array.size h5, 0, none⟩ 2 C32 ∧
 ∃ C33, cellsH h23 ⟨Array.size h15, 0, none⟩ 2 C33 ∧
 asO C32.toArray[0]? fun v34 => asO C33.toArray[0]? fun v35 => asK .i64 v34 fun n36 => asK .i64 v35 fun n37 => asO C32.toArray[1]? fun v38 => asO C33.toArray[1]? fun v39 => asK .i64 v38 fun n40 => asK .i64 v39 fun n41 => cond ((n36 == (n37 : Int)) && ((n40 == (n41 : Int)) && true))
 (CallX Tryd.prog ω 9 [src_p] h23 (fun r42 h43 =>
 CallX Tryd.prog ω 10 [src_p] h43 (fun r44 h45 =>
 CallX Tryd.prog ω 8 [r42, r44] h45 (fun r46 h47 =>
 J24 r46 h47) X) X) X)
 (J24 (.bool false) h23))
 (J24 (.bool false) h23))
 (J24 (.bool false) h23)) ∧
 ∀ t4_25 (d26 : Nat → Value) (h27 : Hp), J24 t4_25 h27 →
 R t4_25 h27) X) X))) X
def A_pipewrightlaw_TextPlaces : Ann :=
 (.two .leaf (.two (.two .leaf (.two (.two .leaf .leaf) .leaf)) (.two (.two .leaf (.two (.two .leaf .leaf) .leaf)) (.two .leaf (.two .leaf (.two (.join [30, 31, 32, 33, 34, 35, 36, 37, 38, 39, 40, 41, 42, 43, 44, 45, 46, 47, 48, 49, 4] [4] .leaf) .leaf))))))
theorem C_pipewrightlaw_TextPlaces (ω : Amb) (src_p at_p : Value) (h : Hp) (R : Value → Hp → Prop) (X : List PanicEntry → Hp → Prop) (hk : W_pipewrightlaw_TextPlaces ω src_p at_p h R X) : CallX Tryd.prog ω 3 [src_p, at_p] h R X :=
 callX_of (an := A_pipewrightlaw_TextPlaces) Tryd.func3 ((show fnX Tryd.prog ω A_pipewrightlaw_TextPlaces Tryd.f3 [src_p, at_p] h R X = W_pipewrightlaw_TextPlaces ω src_p at_p h R X by kernel_rfl) ▸ hk)

/-- pipewright/pipewrightlaw.TextBack -/
abbrev n_pipewrightlaw_TextBack : Nat := 4
def W_pipewrightlaw_TextBack (ω : Amb) (src_p ahead_p at_p : Value) (h : Hp) (R : Value → Hp → Prop) (X : List PanicEntry → Hp → Prop) : Prop :=
 CallX Tryd.prog ω 5 [] h (fun r0 h1 =>
 asB r0 fun b2 => cond (!b2)
 (R (.bool false) h1)
 (∃ β3 : Bool,
 (asS src_p fun s5 => cond (decide (((ByteArray.size s5 : Int) : Int) > 6000))
 (((.bool true) : Value) = .bool β3 ∧ h1 = h1)
 (asS ahead_p fun s6 => ((.bool (decide (((ByteArray.size s6 : Int) : Int) > 5000))) : Value) = .bool β3 ∧ h1 = h1)) ∧
 ∀ d4 : Nat → Value,
 cond β3
 (R (.bool true) h1)
 (CallX Tryd.prog ω 9 [src_p] h1 (fun r7 h8 =>
 CallX Tryd.prog ω 6 [src_p, at_p] h8 (fun r9 h10 =>
 asT r9 fun T11 => asO T11[0]? fun v12 => asT r9 fun T13 => asO T13[1]? fun v14 => asT r9 fun T15 => asO T15[2]? fun v16 => asA v16 fun A17 => A17.size = 2 ∧ (∀ u ∈ A17.toList, one u) ∧ storeK (Array.push h10 (.cells #[(.int .i64 0), (.int .i64 0)] 24 (0, 0))) ⟨Array.size h10, 0, none⟩ A17.toList fun h18 =>
 ∃ β19 : Bool,
 (asK .i64 at_p fun n21 => cond (decide ((n21 : Int) < 0))
 (((.bool true) : Value) = .bool β19 ∧ h18 = h18)
 (asS src_p fun s22 => asK .i64 at_p fun n23 => ((.bool (decide ((n23 : Int) > (ByteArray.size s22 : Int)))) : Value) = .bool β19 ∧ h18 = h18)) ∧
 ∀ d20 : Nat → Value,
 cond β19
 (∃ v24, cellH h18 (Addr.add ⟨Array.size h10, 0, none⟩ 0) = some v24 ∧
 asK .i64 v24 fun n25 => R (.bool (n25 == (14 : Int))) h18)
 (∃ β26 : Bool,
 (∃ v28, cellH h18 (Addr.add ⟨Array.size h10, 0, none⟩ 0) = some v28 ∧
 asK .i64 v28 fun n29 => cond (n29 != (0 : Int))
 (((.bool true) : Value) = .bool β26 ∧ h18 = h18)
 (asK .i64 v12 fun n30 => cond (decide ((n30 : Int) < 1))
 (((.bool true) : Value) = .bool β26 ∧ h18 = h18)
 (asSl r7 fun a31 l32 c33 => asK .i64 v12 fun n34 => cond (decide ((n34 : Int) > (l32 : Int)))
 (((.bool true) : Value) = .bool β26 ∧ h18 = h18)
 (asK .i64 v14 fun n35 => cond (decide ((n35 : Int) < 1))
 (((.bool true) : Value) = .bool β26 ∧ h18 = h18)
 (asK .i64 v12 fun n36 => asSl1 r7 fun a37 l38 c39 => 0 ≤ ((IntKind.wrap .i64 (n36 - 1)) : Int) ∧ (IntKind.wrap .i64 (n36 - 1)) < (l38 : Int) ∧ ∃ v40, cellH h18 (Addr.add a37 (Int.toNat (IntKind.wrap .i64 (n36 - 1)) * 1)) = some v40 ∧
 asK .i64 v40 fun n41 => asK .i64 v14 fun n42 => asK .i64 at_p fun n43 => ((.bool ((IntKind.wrap .i64 ((IntKind.wrap .i64 (n41 + n42)) - 1)) != (n43 : Int))) : Value) = .bool β26 ∧ h18 = h18))))) ∧
 ∀ d27 : Nat → Value,
 cond β26
 (R (.bool false) h18)
 (∃ (I44 : Value → Hp → Prop) (μ45 : Value → Hp → Nat), I44 (.int .i64 0) h18 ∧ ∀ i_46 (d47 : Nat → Value) (h48 : Hp), I44 i_46 h48 →
 asSl r7 fun a49 l50 c51 => asK .i64 i_46 fun n52 => cond (decide ((n52 : Int) < (l50 : Int)))
 (∃ β53 : Bool,
 (asK .i64 i_46 fun n55 => cond (n55 == (0 : Int))
 (asSl1 r7 fun a56 l57 c58 => asI i_46 fun n59 => 0 ≤ (n59 : Int) ∧ n59 < (l57 : Int) ∧ ∃ v60, cellH h48 (Addr.add a56 (Int.toNat n59 * 1)) = some v60 ∧
 asK .i64 v60 fun n61 => cond (n61 != (0 : Int))
 (((.bool true) : Value) = .bool β53 ∧ h48 = h48)
 (asK .i64 i_46 fun n62 => cond (decide ((n62 : Int) > 0))
 (asSl1 r7 fun a63 l64 c65 => asI i_46 fun n66 => 0 ≤ (n66 : Int) ∧ n66 < (l64 : Int) ∧ ∃ v67, cellH h48 (Addr.add a63 (Int.toNat n66 * 1)) = some v67 ∧
 asK .i64 i_46 fun n68 => asSl1 r7 fun a69 l70 c71 => 0 ≤ ((IntKind.wrap .i64 (n68 - 1)) : Int) ∧ (IntKind.wrap .i64 (n68 - 1)) < (l70 : Int) ∧ ∃ v72, cellH h48 (Addr.add a69 (Int.toNat (IntKind.wrap .i64 (n68 - 1)) * 1)) = some v72 ∧
 asK .i64 v67 fun n73 => asK .i64 v72 fun n74 => cond (decide ((n73 : Int) ≤ n74))
 (((.bool true) : Value) = .bool β53 ∧ h48 = h48)
 (asSl1 r7 fun a75 l76 c77 => asI i_46 fun n78 => 0 ≤ (n78 : Int) ∧ n78 < (l76 : Int) ∧ ∃ v79, cellH h48 (Addr.add a75 (Int.toNat n78 * 1)) = some v79 ∧
 asS src_p fun s80 => asK .i64 v79 fun n81 => cond (decide ((n81 : Int) > (ByteArray.size s80 : Int)))
 (((.bool true) : Value) = .bool β53 ∧ h48 = h48)
 (asSl1 r7 fun a82 l83 c84 => asI i_46 fun n85 => 0 ≤ (n85 : Int) ∧ n85 < (l83 : Int) ∧ ∃ v86, cellH h48 (Addr.add a82 (Int.toNat n85 * 1)) = some v86 ∧
 asK .i64 v86 fun n87 => asS src_p fun s88 => 0 ≤ ((IntKind.wrap .i64 (n87 - 1)) : Int) ∧ (IntKind.wrap .i64 (n87 - 1)) < (ByteArray.size s88 : Int) ∧ ((.bool ((byteAt s88 (IntKind.wrap .i64 (n87 - 1))) != (10 : Int))) : Value) = .bool β53 ∧ h48 = h48)))
 (((.bool false) : Value) = .bool β53 ∧ h48 = h48)))
 (asK .i64 i_46 fun n89 => cond (decide ((n89 : Int) > 0))
 (asSl1 r7 fun a90 l91 c92 => asI i_46 fun n93 => 0 ≤ (n93 : Int) ∧ n93 < (l91 : Int) ∧ ∃ v94, cellH h48 (Addr.add a90 (Int.toNat n93 * 1)) = some v94 ∧
 asK .i64 i_46 fun n95 => asSl1 r7 fun a96 l97 c98 => 0 ≤ ((IntKind.wrap .i64 (n95 - 1)) : Int) ∧ (IntKind.wrap .i64 (n95 - 1)) < (l97 : Int) ∧ ∃ v99, cellH h48 (Addr.add a96 (Int.toNat (IntKind.wrap .i64 (n95 - 1)) * 1)) = some v99 ∧
 asK .i64 v94 fun n100 => asK .i64 v99 fun n101 => cond (decide ((n100 : Int) ≤ n101))
 (((.bool true) : Value) = .bool β53 ∧ h48 = h48)
 (asSl1 r7 fun a102 l103 c104 => asI i_46 fun n105 => 0 ≤ (n105 : Int) ∧ n105 < (l103 : Int) ∧ ∃ v106, cellH h48 (Addr.add a102 (Int.toNat n105 * 1)) = some v106 ∧
 asS src_p fun s107 => asK .i64 v106 fun n108 => cond (decide ((n108 : Int) > (ByteArray.size s107 : Int)))
 (((.bool true) : Value) = .bool β53 ∧ h48 = h48)
 (asSl1 r7 fun a109 l110 c111 => asI i_46 fun n112 => 0 ≤ (n112 : Int) ∧ n112 < (l110 : Int) ∧ ∃ v113, cellH h48 (Addr.add a109 (Int.toNat n112 * 1)) = some v113 ∧
 asK .i64 v113 fun n114 => asS src_p fun s115 => 0 ≤ ((IntKind.wrap .i64 (n114 - 1)) : Int) ∧ (IntKind.wrap .i64 (n114 - 1)) < (ByteArray.size s115 : Int) ∧ ((.bool ((byteAt s115 (IntKind.wrap .i64 (n114 - 1))) != (10 : Int))) : Value) = .bool β53 ∧ h48 = h48)))
 (((.bool false) : Value) = .bool β53 ∧ h48 = h48))) ∧
 ∀ d54 : Nat → Value,
 cond β53
 (R (.bool false) h48)
 (asK .i64 i_46 fun n116 => I44 (.int .i64 (IntKind.wrap .i64 (n116 + 1))) h48 ∧ μ45 (.int .i64 (IntKind.wrap .i64 (n116 + 1))) h48 < μ45 i_46 h48))
 (asS ahead_p fun s117 => ByteArray.size s117 + ByteArray.size ⟨#[10]⟩ ≤ 9223372036854775807 ∧ asS src_p fun s118 => ByteArray.size (s117 ++ ⟨#[10]⟩) + ByteArray.size s118 ≤ 9223372036854775807 ∧ asS ahead_p fun s119 => asK .i64 at_p fun n120 => CallX Tryd.prog ω 6 [(.string ((s117 ++ ⟨#[10]⟩) ++ s118)), (.int .i64 (IntKind.wrap .i64 ((IntKind.wrap .i64 ((ByteArray.size s119 : Int) + 1)) + n120)))] h48 (fun r121 h122 =>
 asT r121 fun T123 => asO T123[0]? fun v124 => asT r121 fun T125 => asO T125[1]? fun v126 => asT r121 fun T127 => asO T127[2]? fun v128 => asA v128 fun A129 => A129.size = 2 ∧ (∀ u ∈ A129.toList, one u) ∧ storeK (Array.push h122 (.cells #[(.int .i64 0), (.int .i64 0)] 24 (0, 0))) ⟨Array.size h122, 0, none⟩ A129.toList fun h130 =>
 ∃ J131 : Value → Hp → Prop,
 (∃ v135, cellH h130 (Addr.add ⟨Array.size h122, 0, none⟩ 0) = some v135 ∧
 asK .i64 v135 fun n136 => cond (n136 == (0 : Int))
 (CallX Tryd.prog ω 9 [ahead_p] h130 (fun r137 h138 =>
 asSl r137 fun a139 l140 c141 => asK .i64 v12 fun n142 => asK .i64 v124 fun n143 => cond (n143 == ((IntKind.wrap .i64 (n142 + (l140 : Int))) : Int))
 (asK .i64 v126 fun n144 => asK .i64 v14 fun n145 => J131 (.bool (n144 == (n145 : Int))) h138)
 (J131 (.bool false) h138)) X)
 (J131 (.bool false) h130)) ∧
 ∀ t6_132 (d133 : Nat → Value) (h134 : Hp), J131 t6_132 h134 →
 R t6_132 h134) X)))) X) X))) X
def A_pipewrightlaw_TextBack : Ann :=
 (.two .leaf (.two (.two .leaf (.two (.two .leaf .leaf) .leaf)) (.two (.two (.jb [17, 18, 19, 20, 21, 22, 23, 24] 24 .leaf) (.two (.two .leaf .leaf) .leaf)) (.two .leaf (.two .leaf (.two (.two (.jb [34, 35, 36, 37, 38, 39, 40, 41] 41 .leaf) (.two (.two .leaf .leaf) .leaf)) (.two (.two (.jb [45, 46, 47, 48, 49, 50, 51, 52, 53, 54, 55, 56, 57, 58, 59, 60, 61, 62, 63, 64, 65, 66, 67, 68, 69, 70, 71, 72, 73] 73 .leaf) (.two (.two .leaf .leaf) .leaf)) (.two (.two .leaf (.one (.loop [74, 75, 76, 77, 80, 81, 82, 83, 84, 85, 86, 87, 88, 89, 90, 91, 92, 93, 94, 95, 96, 97, 98, 99, 100, 101, 102, 103, 104, 105, 106, 107, 108, 109, 110, 111, 112, 113, 114, 115, 116, 117, 118, 119, 120, 121, 122, 123, 6, 78, 79, 11] [11] (.two (.two .leaf (.two .leaf .leaf)) (.two (.one (.two (.jb [80, 81, 82, 83, 84, 85, 86, 87, 88, 89, 90, 91, 92, 93, 94, 95, 96, 97, 98, 99, 100, 101, 102, 103, 104, 105, 106, 107, 108, 109, 110, 111, 112, 113, 114, 115, 116, 117, 118, 119, 120, 121, 122, 123] 123 (.plan [0, 1, 2, 3, 4, 5, 6, 7, 8, 9, 10, 11, 12, 13, 14, 15, 16, 17, 18, 19, 20, 21, 22, 23, 24, 25, 26, 27, 28, 29, 30, 31, 32, 33, 34, 35, 36, 37, 38, 39, 40, 41, 42, 43])) (.two (.two .leaf .leaf) .leaf))) .leaf))))) (.two .leaf (.two (.join [138, 139, 140, 141, 142, 143, 144, 145, 146, 147, 148, 149, 150, 151, 152, 153, 154, 6] [6] .leaf) .leaf))))))))))
theorem C_pipewrightlaw_TextBack (ω : Amb) (src_p ahead_p at_p : Value) (h : Hp) (R : Value → Hp → Prop) (X : List PanicEntry → Hp → Prop) (hk : W_pipewrightlaw_TextBack ω src_p ahead_p at_p h R X) : CallX Tryd.prog ω 4 [src_p, ahead_p, at_p] h R X :=
 callX_of (an := A_pipewrightlaw_TextBack) Tryd.func4 ((show fnX Tryd.prog ω A_pipewrightlaw_TextBack Tryd.f4 [src_p, ahead_p, at_p] h R X = W_pipewrightlaw_TextBack ω src_p ahead_p at_p h R X by kernel_rfl) ▸ hk)

/-- pipewright/pipewrightlaw.textBegun -/
abbrev n_pipewrightlaw_textBegun : Nat := 5
def W_pipewrightlaw_textBegun (ω : Amb) (h : Hp) (R : Value → Hp → Prop) (X : List PanicEntry → Hp → Prop) : Prop :=
 CallX Tryd.prog ω 6 [(.string ⟨#[97, 98, 10, 99, 100]⟩), (.int .i64 4)] h (fun r0 h1 =>
 asT r0 fun T2 => asO T2[0]? fun v3 => asT r0 fun T4 => asO T4[1]? fun v5 => asT r0 fun T6 => asO T6[2]? fun v7 => asA v7 fun A8 => A8.size = 2 ∧ (∀ u ∈ A8.toList, one u) ∧ storeK (Array.push h1 (.cells #[(.int .i64 0), (.int .i64 0)] 24 (0, 0))) ⟨Array.size h1, 0, none⟩ A8.toList fun h9 =>
 ∃ J10 : Value → Hp → Prop,
 (asK .i64 v3 fun n14 => cond (n14 == (2 : Int))
 (asK .i64 v5 fun n15 => cond (n15 == (2 : Int))
 (∃ v16, cellH h9 (Addr.add ⟨Array.size h1, 0, none⟩ 0) = some v16 ∧
 asK .i64 v16 fun n17 => cond (n17 == (0 : Int))
 (CallX Tryd.prog ω 11 [(.int .i64 5)] h9 (fun r18 h19 =>
 asS r18 fun s20 => J10 (.bool (ByteArray.toList s20 == ByteArray.toList ⟨#[102, 111, 114, 109]⟩)) h19) X)
 (J10 (.bool false) h9))
 (J10 (.bool false) h9))
 (J10 (.bool false) h9)) ∧
 ∀ t0_11 (d12 : Nat → Value) (h13 : Hp), J10 t0_11 h13 →
 R t0_11 h13) X
def A_pipewrightlaw_textBegun : Ann :=
 (.two .leaf (.two .leaf (.two (.join [9, 10, 11, 12, 13, 14, 15, 16, 17, 18, 19, 20, 21, 22, 23, 0] [0] .leaf) .leaf)))
theorem C_pipewrightlaw_textBegun (ω : Amb) (h : Hp) (R : Value → Hp → Prop) (X : List PanicEntry → Hp → Prop) (hk : W_pipewrightlaw_textBegun ω  h R X) : CallX Tryd.prog ω 5 [] h R X :=
 callX_of (an := A_pipewrightlaw_textBegun) Tryd.func5 ((show fnX Tryd.prog ω A_pipewrightlaw_textBegun Tryd.f5 [] h R X = W_pipewrightlaw_textBegun ω  h R X by kernel_rfl) ▸ hk)

/-- pipewright/text.Place -/
abbrev n_text_Place : Nat := 6
def W_text_Place (ω : Amb) (src_p at_p : Value) (h : Hp) (R : Value → Hp → Prop) (X : List PanicEntry → Hp → Prop) : Prop :=
 asS src_p fun s0 => cond (decide (((ByteArray.size s0 : Int) : Int) > 12000))
 (2 = 2 ∧ (∀ u ∈ [(.int .i64 1), (.int .i64 (-1))], one u) ∧ storeK (Array.push h (.cells #[(.int .i64 0), (.int .i64 0)] 24 (0, 0))) ⟨Array.size h, 0, none⟩ [(.int .i64 1), (.int .i64 (-1))] fun h1 =>
 ∃ C2, cellsH h1 ⟨Array.size h, 0, none⟩ 2 C2 ∧ R (.tuple #[(.int .i64 0), (.int .i64 0), (.agg C2.toArray)]) h1)
 (∃ β3 : Bool,
 (asK .i64 at_p fun n5 => cond (decide ((n5 : Int) < 0))
 (((.bool true) : Value) = .bool β3 ∧ (Array.push h (.cells #[(.int .i64 0), (.int .i64 0)] 24 (0, 0))) = (Array.push h (.cells #[(.int .i64 0), (.int .i64 0)] 24 (0, 0))))
 (asS src_p fun s6 => asK .i64 at_p fun n7 => ((.bool (decide ((n7 : Int) > (ByteArray.size s6 : Int)))) : Value) = .bool β3 ∧ (Array.push h (.cells #[(.int .i64 0), (.int .i64 0)] 24 (0, 0))) = (Array.push h (.cells #[(.int .i64 0), (.int .i64 0)] 24 (0, 0))))) ∧
 ∀ d4 : Nat → Value,
 cond β3
 (2 = 2 ∧ (∀ u ∈ [(.int .i64 14), (.int .i64 (-1))], one u) ∧ storeK (Array.push h (.cells #[(.int .i64 0), (.int .i64 0)] 24 (0, 0))) ⟨Array.size h, 0, none⟩ [(.int .i64 14), (.int .i64 (-1))] fun h8 =>
 ∃ C9, cellsH h8 ⟨Array.size h, 0, none⟩ 2 C9 ∧ R (.tuple #[(.int .i64 0), (.int .i64 0), (.agg C9.toArray)]) h8)
 (CallX Tryd.prog ω 9 [src_p] (Array.push h (.cells #[(.int .i64 0), (.int .i64 0)] 24 (0, 0))) (fun r10 h11 =>
 CallX Tryd.prog ω 12 [r10, at_p] h11 (fun r12 h13 =>
 asT r12 fun T14 => asO T14[0]? fun v15 => asT r12 fun T16 => asO T16[1]? fun v17 => asB v17 fun b18 => ∃ J19 : Value → Hp → Prop,
 (cond (!b18)
 (asK .i64 v15 fun n23 => J19 (.int .i64 (IntKind.wrap .i64 (n23 - 1))) h13)
 (J19 v15 h13)) ∧
 ∀ n_20 (d21 : Nat → Value) (h22 : Hp), J19 n_20 h22 →
 asK .i64 n_20 fun n24 => asSl1 r10 fun a25 l26 c27 => asI n_20 fun n28 => 0 ≤ (n28 : Int) ∧ n28 < (l26 : Int) ∧ ∃ v29, cellH h22 (Addr.add a25 (Int.toNat n28 * 1)) = some v29 ∧
 asK .i64 at_p fun n30 => asK .i64 v29 fun n31 => 2 = 2 ∧ (∀ u ∈ [(.int .i64 0), (.int .i64 0)], one u) ∧ storeK h22 ⟨Array.size h, 0, none⟩ [(.int .i64 0), (.int .i64 0)] fun h32 =>
 ∃ C33, cellsH h32 ⟨Array.size h, 0, none⟩ 2 C33 ∧ R (.tuple #[(.int .i64 (IntKind.wrap .i64 (n24 + 1))), (.int .i64 (IntKind.wrap .i64 ((IntKind.wrap .i64 (n30 - n31)) + 1))), (.agg C33.toArray)]) h32) X) X))
def A_text_Place : Ann :=
 (.two .leaf (.two (.two .leaf (.two (.two .leaf .leaf) .leaf)) (.two (.two (.jb [14, 15, 16, 17, 18, 19, 20, 21] 21 .leaf) (.two (.two .leaf .leaf) .leaf)) (.two .leaf (.two .leaf (.two (.two .leaf (.join [33, 34, 8] [8] (.two .leaf .leaf))) (.two (.plan [0, 1, 2, 3, 4, 5, 6, 7, 8, 9, 10, 11, 12]) .leaf)))))))
theorem C_text_Place (ω : Amb) (src_p at_p : Value) (h : Hp) (R : Value → Hp → Prop) (X : List PanicEntry → Hp → Prop) (hk : W_text_Place ω src_p at_p h R X) : CallX Tryd.prog ω 6 [src_p, at_p] h R X :=
 callX_of (an := A_text_Place) Tryd.func6 ((show fnX Tryd.prog ω A_text_Place Tryd.f6 [src_p, at_p] h R X = W_text_Place ω src_p at_p h R X by kernel_rfl) ▸ hk)

/-- pipewright/pipewrightref.Place -/
abbrev n_pipewrightref_Place : Nat := 7
def W_pipewrightref_Place (ω : Amb) (src_p at_p : Value) (h : Hp) (R : Value → Hp → Prop) (X : List PanicEntry → Hp → Prop) : Prop :=
 asS src_p fun s0 => cond (decide (((ByteArray.size s0 : Int) : Int) > 12000))
 (CallX Tryd.prog ω 13 [(.int .i64 1), (.int .i64 (-1))] (Array.push h (.cells #[(.int .i64 0), (.int .i64 0)] 24 (0, 0))) (fun r1 h2 =>
 asA r1 fun A3 => A3.size = 2 ∧ (∀ u ∈ A3.toList, one u) ∧ storeK h2 ⟨Array.size h, 0, none⟩ A3.toList fun h4 =>
 ∃ C5, cellsH h4 ⟨Array.size h, 0, none⟩ 2 C5 ∧ R (.tuple #[(.int .i64 0), (.int .i64 0), (.agg C5.toArray)]) h4) X)
 (∃ β6 : Bool,
 (asK .i64 at_p fun n8 => cond (decide ((n8 : Int) < 0))
 (((.bool true) : Value) = .bool β6 ∧ (Array.push h (.cells #[(.int .i64 0), (.int .i64 0)] 24 (0, 0))) = (Array.push h (.cells #[(.int .i64 0), (.int .i64 0)] 24 (0, 0))))
 (asS src_p fun s9 => asK .i64 at_p fun n10 => ((.bool (decide ((n10 : Int) > (ByteArray.size s9 : Int)))) : Value) = .bool β6 ∧ (Array.push h (.cells #[(.int .i64 0), (.int .i64 0)] 24 (0, 0))) = (Array.push h (.cells #[(.int .i64 0), (.int .i64 0)] 24 (0, 0))))) ∧
 ∀ d7 : Nat → Value,
 cond β6
 (CallX Tryd.prog ω 13 [(.int .i64 14), (.int .i64 (-1))] (Array.push h (.cells #[(.int .i64 0), (.int .i64 0)] 24 (0, 0))) (fun r11 h12 =>
 asA r11 fun A13 => A13.size = 2 ∧ (∀ u ∈ A13.toList, one u) ∧ storeK h12 ⟨Array.size h, 0, none⟩ A13.toList fun h14 =>
 ∃ C15, cellsH h14 ⟨Array.size h, 0, none⟩ 2 C15 ∧ R (.tuple #[(.int .i64 0), (.int .i64 0), (.agg C15.toArray)]) h14) X)
 (∃ (I16 : Value → Value → Value → Hp → Prop) (μ17 : Value → Value → Value → Hp → Nat), I16 (.int .i64 1) (.int .i64 1) (.int .i64 0) (Array.push h (.cells #[(.int .i64 0), (.int .i64 0)] 24 (0, 0))) ∧ ∀ col_18 line_19 i_20 (d21 : Nat → Value) (h22 : Hp), I16 col_18 line_19 i_20 h22 →
 asK .i64 i_20 fun n23 => asK .i64 at_p fun n24 => cond (decide ((n23 : Int) < n24))
 (∃ J25 : Value → Value → Hp → Prop,
 (asK .i64 col_18 fun n30 => asS src_p fun s31 => asI i_20 fun n32 => 0 ≤ (n32 : Int) ∧ n32 < (ByteArray.size s31 : Int) ∧ ∃ J33 : Value → Value → Hp → Prop,
 (cond ((byteAt s31 n32) == (10 : Int))
 (asK .i64 line_19 fun n38 => J33 (.int .i64 (IntKind.wrap .i64 (n38 + 1))) (.int .i64 1) h22)
 (J33 line_19 (.int .i64 (IntKind.wrap .i64 (n30 + 1))) h22)) ∧
 ∀ line_34 col_35 (d36 : Nat → Value) (h37 : Hp), J33 line_34 col_35 h37 →
 J25 col_35 line_34 h37) ∧
 ∀ col_26 line_27 (d28 : Nat → Value) (h29 : Hp), J25 col_26 line_27 h29 →
 asK .i64 i_20 fun n39 => I16 col_26 line_27 (.int .i64 (IntKind.wrap .i64 (n39 + 1))) h29 ∧ μ17 col_26 line_27 (.int .i64 (IntKind.wrap .i64 (n39 + 1))) h29 < μ17 col_18 line_19 i_20 h22)
 (2 = 2 ∧ (∀ u ∈ [(.int .i64 0), (.int .i64 0)], one u) ∧ storeK h22 ⟨Array.size h, 0, none⟩ [(.int .i64 0), (.int .i64 0)] fun h40 =>
 ∃ C41, cellsH h40 ⟨Array.size h, 0, none⟩ 2 C41 ∧ R (.tuple #[line_19, col_18, (.agg C41.toArray)]) h40)))
def A_pipewrightref_Place : Ann :=
 (.two .leaf (.two (.two .leaf (.two (.two .leaf .leaf) .leaf)) (.two (.two (.jb [14, 15, 16, 17, 18, 19, 20, 21] 21 .leaf) (.two (.two .leaf .leaf) .leaf)) (.two .leaf (.two (.two .leaf (.one (.loop [23, 24, 25, 28, 29, 8, 30, 31, 32, 33, 34, 35, 7, 26, 27, 9] [8, 7, 9] (.two (.two .leaf (.two .leaf .leaf)) (.two (.join [28, 29, 8, 30, 31, 32, 33, 34, 35, 7] [8, 7] (.one (.two .leaf (.two .leaf (.join [34, 35, 7, 8] [7, 8] (.two (.two .leaf .leaf) .leaf)))))) .leaf))))) (.two .leaf .leaf))))))
theorem C_pipewrightref_Place (ω : Amb) (src_p at_p : Value) (h : Hp) (R : Value → Hp → Prop) (X : List PanicEntry → Hp → Prop) (hk : W_pipewrightref_Place ω src_p at_p h R X) : CallX Tryd.prog ω 7 [src_p, at_p] h R X :=
 callX_of (an := A_pipewrightref_Place) Tryd.func7 ((show fnX Tryd.prog ω A_pipewrightref_Place Tryd.f7 [src_p, at_p] h R X = W_pipewrightref_Place ω src_p at_p h R X by kernel_rfl) ▸ hk)

/-- pipewright/pipewrightref.SameInts -/
abbrev n_pipewrightref_SameInts : Nat := 8
def W_pipewrightref_SameInts (ω : Amb) (a_p b_p : Value) (h : Hp) (R : Value → Hp → Prop) (X : List PanicEntry → Hp → Prop) : Prop :=
 asSl a_p fun a0 l1 c2 => asSl b_p fun a3 l4 c5 => cond ((l1 : Int) != ((l4 : Int) : Int))
 (R (.bool false) h)
 (∃ (I6 : Value → Hp → Prop) (μ7 : Value → Hp → Nat), I6 (.int .i64 0) h ∧ ∀ i_8 (d9 : Nat → Value) (h10 : Hp), I6 i_8 h10 →
 asSl a_p fun a11 l12 c13 => asK .i64 i_8 fun n14 => cond (decide ((n14 : Int) < (l12 : Int)))
 (asSl1 a_p fun a15 l16 c17 => asI i_8 fun n18 => 0 ≤ (n18 : Int) ∧ n18 < (l16 : Int) ∧ ∃ v19, cellH h10 (Addr.add a15 (Int.toNat n18 * 1)) = some v19 ∧
 asSl1 b_p fun a20 l21 c22 => asI i_8 fun n23 => 0 ≤ (n23 : Int) ∧ n23 < (l21 : Int) ∧ ∃ v24, cellH h10 (Addr.add a20 (Int.toNat n23 * 1)) = some v24 ∧
 asK .i64 v19 fun n25 => asK .i64 v24 fun n26 => cond (n25 != (n26 : Int))
 (R (.bool false) h10)
 (asK .i64 i_8 fun n27 => I6 (.int .i64 (IntKind.wrap .i64 (n27 + 1))) h10 ∧ μ7 (.int .i64 (IntKind.wrap .i64 (n27 + 1))) h10 < μ7 i_8 h10))
 (R (.bool true) h10))
def A_pipewrightref_SameInts : Ann :=
 (.two .leaf (.two (.two .leaf (.two (.two .leaf .leaf) .leaf)) (.two (.two .leaf (.one (.loop [11, 12, 13, 14, 17, 18, 19, 20, 21, 22, 23, 24, 25, 4, 15, 16, 5] [5] (.two (.two .leaf (.two .leaf .leaf)) (.two (.one (.two (.plan [0, 1, 2, 3, 4, 5, 6, 7, 8]) (.two (.two .leaf .leaf) .leaf))) .leaf))))) (.two .leaf .leaf))))
theorem C_pipewrightref_SameInts (ω : Amb) (a_p b_p : Value) (h : Hp) (R : Value → Hp → Prop) (X : List PanicEntry → Hp → Prop) (hk : W_pipewrightref_SameInts ω a_p b_p h R X) : CallX Tryd.prog ω 8 [a_p, b_p] h R X :=
 callX_of (an := A_pipewrightref_SameInts) Tryd.func8 ((show fnX Tryd.prog ω A_pipewrightref_SameInts Tryd.f8 [a_p, b_p] h R X = W_pipewrightref_SameInts ω a_p b_p h R X by kernel_rfl) ▸ hk)

/-- pipewright/text.Lines -/
abbrev n_text_Lines : Nat := 9
def W_text_Lines (ω : Amb) (src_p : Value) (h : Hp) (R : Value → Hp → Prop) (X : List PanicEntry → Hp → Prop) : Prop :=
 asS src_p fun s0 => cond (decide (((ByteArray.size s0 : Int) : Int) > 12000))
 (R (.slice none 0 0) h)
 (asS src_p fun s1 => ∃ (I2 : Value → Value → Hp → Prop) (μ3 : Value → Value → Hp → Nat), I2 (.slice (some ⟨Array.size h, 0, none⟩) 1 1) (.int .i64 0) (Array.push h (.cells (List.toArray [(.int .i64 0)]) 3 (0, 0))) ∧ ∀ out_4 t11_5 (d6 : Nat → Value) (h7 : Hp), I2 out_4 t11_5 h7 →
 asK .i64 t11_5 fun n8 => cond (decide ((n8 : Int) < (ByteArray.size s1 : Int)))
 (∃ J9 : Value → Hp → Prop,
 (asS src_p fun s13 => asI t11_5 fun n14 => 0 ≤ (n14 : Int) ∧ n14 < (ByteArray.size s13 : Int) ∧ ∃ J15 : Value → Hp → Prop,
 (cond ((byteAt s13 n14) == (10 : Int))
 (asK .i64 t11_5 fun n19 => appK Tryd.prog 28 (Array.push h7 (.cells (List.toArray [(.int .i64 (IntKind.wrap .i64 (n19 + 1)))]) 3 (0, 0))) out_4 (.slice (some ⟨Array.size h7, 0, none⟩) 1 1) fun w20 h21 =>
 J15 w20 h21)
 (J15 out_4 h7)) ∧
 ∀ out_16 (d17 : Nat → Value) (h18 : Hp), J15 out_16 h18 →
 J9 out_16 h18) ∧
 ∀ out_10 (d11 : Nat → Value) (h12 : Hp), J9 out_10 h12 →
 asK .i64 t11_5 fun n22 => I2 out_10 (.int .i64 (IntKind.wrap .i64 (n22 + 1))) h12 ∧ μ3 out_10 (.int .i64 (IntKind.wrap .i64 (n22 + 1))) h12 < μ3 out_4 t11_5 h7)
 (R out_4 h7))
def A_text_Lines : Ann :=
 (.two .leaf (.two (.two .leaf (.two (.two .leaf .leaf) .leaf)) (.two .leaf (.two (.two .leaf (.one (.loop [12, 13, 4, 14, 15, 16, 17, 18, 19, 20, 21, 22, 3, 23, 11] [3, 11] (.two .leaf (.two (.two .leaf .leaf) (.two (.join [13, 4, 14, 15, 16, 17, 18, 19, 20, 21, 22, 3] [3] (.one (.two .leaf (.two .leaf (.join [18, 19, 20, 21, 22, 3] [3] (.two .leaf .leaf)))))) .leaf)))))) (.two .leaf .leaf)))))
theorem C_text_Lines (ω : Amb) (src_p : Value) (h : Hp) (R : Value → Hp → Prop) (X : List PanicEntry → Hp → Prop) (hk : W_text_Lines ω src_p h R X) : CallX Tryd.prog ω 9 [src_p] h R X :=
 callX_of (an := A_text_Lines) Tryd.func9 ((show fnX Tryd.prog ω A_text_Lines Tryd.f9 [src_p] h R X = W_text_Lines ω src_p h R X by kernel_rfl) ▸ hk)

/-- pipewright/pipewrightref.Lines -/
abbrev n_pipewrightref_Lines : Nat := 10
def W_pipewrightref_Lines (ω : Amb) (src_p : Value) (h : Hp) (R : Value → Hp → Prop) (X : List PanicEntry → Hp → Prop) : Prop :=
 asS src_p fun s0 => cond (decide (((ByteArray.size s0 : Int) : Int) > 12000))
 (R (.slice none 0 0) h)
 (∃ (I1 : Value → Value → Hp → Prop) (μ2 : Value → Value → Hp → Nat), I1 (.slice (some ⟨Array.size h, 0, none⟩) 1 1) (.int .i64 0) (Array.push h (.cells (List.toArray [(.int .i64 0)]) 3 (0, 0))) ∧ ∀ out_3 i_4 (d5 : Nat → Value) (h6 : Hp), I1 out_3 i_4 h6 →
 asS src_p fun s7 => asK .i64 i_4 fun n8 => cond (decide ((n8 : Int) < (ByteArray.size s7 : Int)))
 (∃ J9 : Value → Hp → Prop,
 (asS src_p fun s13 => asI i_4 fun n14 => 0 ≤ (n14 : Int) ∧ n14 < (ByteArray.size s13 : Int) ∧ ∃ J15 : Value → Hp → Prop,
 (cond ((byteAt s13 n14) == (10 : Int))
 (asK .i64 i_4 fun n19 => appK Tryd.prog 28 (Array.push h6 (.cells (List.toArray [(.int .i64 (IntKind.wrap .i64 (n19 + 1)))]) 3 (0, 0))) out_3 (.slice (some ⟨Array.size h6, 0, none⟩) 1 1) fun w20 h21 =>
 J15 w20 h21)
 (J15 out_3 h6)) ∧
 ∀ out_16 (d17 : Nat → Value) (h18 : Hp), J15 out_16 h18 →
 J9 out_16 h18) ∧
 ∀ out_10 (d11 : Nat → Value) (h12 : Hp), J9 out_10 h12 →
 asK .i64 i_4 fun n22 => I1 out_10 (.int .i64 (IntKind.wrap .i64 (n22 + 1))) h12 ∧ μ2 out_10 (.int .i64 (IntKind.wrap .i64 (n22 + 1))) h12 < μ2 out_3 i_4 h6)
 (R out_3 h6))
def A_pipewrightref_Lines : Ann :=
 (.two .leaf (.two (.two .leaf (.two (.two .leaf .leaf) .leaf)) (.two .leaf (.two (.two .leaf (.one (.loop [9, 10, 11, 12, 15, 16, 17, 18, 19, 20, 21, 22, 23, 3, 13, 14, 4] [3, 4] (.two (.two .leaf (.two .leaf .leaf)) (.two (.join [15, 16, 17, 18, 19, 20, 21, 22, 23, 3] [3] (.one (.two .leaf (.join [19, 20, 21, 22, 23, 3] [3] (.two .leaf .leaf))))) .leaf))))) (.two .leaf .leaf)))))
theorem C_pipewrightref_Lines (ω : Amb) (src_p : Value) (h : Hp) (R : Value → Hp → Prop) (X : List PanicEntry → Hp → Prop) (hk : W_pipewrightref_Lines ω src_p h R X) : CallX Tryd.prog ω 10 [src_p] h R X :=
 callX_of (an := A_pipewrightref_Lines) Tryd.func10 ((show fnX Tryd.prog ω A_pipewrightref_Lines Tryd.f10 [src_p] h R X = W_pipewrightref_Lines ω src_p h R X by kernel_rfl) ▸ hk)

/-- pipewright/text.Word -/
abbrev n_text_Word : Nat := 11
def W_text_Word (ω : Amb) (code_p : Value) (h : Hp) (R : Value → Hp → Prop) (X : List PanicEntry → Hp → Prop) : Prop :=
 CallX Tryd.prog ω 14 [(.string ⟨#[115, 105, 122, 101, 32, 116, 101, 120, 116, 32, 110, 117, 109, 98, 101, 114, 32, 110, 97, 109, 101, 32, 102, 111, 114, 109, 32, 115, 104, 111, 114, 116, 32, 100, 101, 101, 112, 32, 109, 97, 110, 121, 32, 116, 119, 105, 99, 101, 32, 110, 111, 110, 101, 32, 116, 121, 112, 101, 32, 115, 116, 97, 103, 101, 32, 109, 97, 105, 110, 32, 114, 97, 110, 103, 101, 32, 99, 111, 117, 110, 116, 32, 99, 111, 100, 101, 32, 114, 111, 117, 110, 100]⟩)] h (fun r0 h1 =>
 ∃ β2 : Bool,
 (asK .i64 code_p fun n4 => cond (decide ((n4 : Int) < 1))
 (((.bool true) : Value) = .bool β2 ∧ h1 = h1)
 (asSl r0 fun a5 l6 c7 => asK .i64 code_p fun n8 => ((.bool (decide ((n8 : Int) > (l6 : Int)))) : Value) = .bool β2 ∧ h1 = h1)) ∧
 ∀ d3 : Nat → Value,
 cond β2
 (R (.string ⟨#[]⟩) h1)
 (asK .i64 code_p fun n9 => asSl1 r0 fun a10 l11 c12 => 0 ≤ ((IntKind.wrap .i64 (n9 - 1)) : Int) ∧ (IntKind.wrap .i64 (n9 - 1)) < (l11 : Int) ∧ ∃ v13, cellH h1 (Addr.add a10 (Int.toNat (IntKind.wrap .i64 (n9 - 1)) * 1)) = some v13 ∧
 R v13 h1)) X
def A_text_Word : Ann :=
 (.two .leaf (.two .leaf (.two (.two (.jb [5, 6, 7, 8, 9, 10, 11, 12] 12 .leaf) (.two (.two .leaf .leaf) .leaf)) (.two .leaf .leaf))))
theorem C_text_Word (ω : Amb) (code_p : Value) (h : Hp) (R : Value → Hp → Prop) (X : List PanicEntry → Hp → Prop) (hk : W_text_Word ω code_p h R X) : CallX Tryd.prog ω 11 [code_p] h R X :=
 callX_of (an := A_text_Word) Tryd.func11 ((show fnX Tryd.prog ω A_text_Word Tryd.f11 [code_p] h R X = W_text_Word ω code_p h R X by kernel_rfl) ▸ hk)

/-- slices.BinarySearch[[]int,int] -/
abbrev n_slices_BinarySearch_sl_int_int : Nat := 12
def W_slices_BinarySearch_sl_int_int (ω : Amb) (x_p target_p : Value) (h : Hp) (R : Value → Hp → Prop) (X : List PanicEntry → Hp → Prop) : Prop :=
 asSl x_p fun a0 l1 c2 => ∃ (I3 : Value → Value → Hp → Prop) (μ4 : Value → Value → Hp → Nat), I3 (.int .i64 0) (.int .i64 (l1 : Int)) h ∧ ∀ i_5 j_6 (d7 : Nat → Value) (h8 : Hp), I3 i_5 j_6 h8 →
 asK .i64 i_5 fun n9 => asK .i64 j_6 fun n10 => cond (decide ((n9 : Int) < n10))
 (∃ J11 : Value → Value → Hp → Prop,
 (asK .i64 i_5 fun n16 => asK .i64 j_6 fun n17 => 0 ≤ (1 : Int) ∧ asSl1 x_p fun a18 l19 c20 => 0 ≤ ((IntKind.wrap .i64 (shI .u64 .shr (IntKind.wrap .u64 (IntKind.wrap .i64 (n16 + n17))) 1)) : Int) ∧ (IntKind.wrap .i64 (shI .u64 .shr (IntKind.wrap .u64 (IntKind.wrap .i64 (n16 + n17))) 1)) < (l19 : Int) ∧ ∃ v21, cellH h8 (Addr.add a18 (Int.toNat (IntKind.wrap .i64 (shI .u64 .shr (IntKind.wrap .u64 (IntKind.wrap .i64 (n16 + n17))) 1)) * 1)) = some v21 ∧
 CallX Tryd.prog ω 15 [v21, target_p] h8 (fun r22 h23 =>
 ∃ J24 : Value → Value → Hp → Prop,
 (asB r22 fun b29 => cond b29
 (J24 (.int .i64 (IntKind.wrap .i64 ((IntKind.wrap .i64 (shI .u64 .shr (IntKind.wrap .u64 (IntKind.wrap .i64 (n16 + n17))) 1)) + 1))) j_6 h23)
 (J24 i_5 (.int .i64 (IntKind.wrap .i64 (shI .u64 .shr (IntKind.wrap .u64 (IntKind.wrap .i64 (n16 + n17))) 1))) h23)) ∧
 ∀ i_25 j_26 (d27 : Nat → Value) (h28 : Hp), J24 i_25 j_26 h28 →
 J11 i_25 j_26 h28) X) ∧
 ∀ i_12 j_13 (d14 : Nat → Value) (h15 : Hp), J11 i_12 j_13 h15 →
 I3 i_12 j_13 h15 ∧ μ4 i_12 j_13 h15 < μ4 i_5 j_6 h8)
 (∃ J30 : Value → Value → Hp → Prop,
 (asK .i64 i_5 fun n35 => cond (decide ((n35 : Int) < (l1 : Int)))
 (asSl1 x_p fun a36 l37 c38 => asI i_5 fun n39 => 0 ≤ (n39 : Int) ∧ n39 < (l37 : Int) ∧ ∃ v40, cellH h8 (Addr.add a36 (Int.toNat n39 * 1)) = some v40 ∧
 asK .i64 v40 fun n41 => asK .i64 target_p fun n42 => cond (n41 == (n42 : Int))
 (J30 i_5 (.bool true) h8)
 (asSl1 x_p fun a43 l44 c45 => asI i_5 fun n46 => 0 ≤ (n46 : Int) ∧ n46 < (l44 : Int) ∧ ∃ v47, cellH h8 (Addr.add a43 (Int.toNat n46 * 1)) = some v47 ∧
 CallX Tryd.prog ω 16 [v47] h8 (fun r48 h49 =>
 asB r48 fun b50 => cond b50
 (CallX Tryd.prog ω 16 [target_p] h49 (fun r51 h52 =>
 J30 i_5 r51 h52) X)
 (J30 i_5 (.bool false) h49)) X))
 (J30 i_5 (.bool false) h8)) ∧
 ∀ t4_31 t5_32 (d33 : Nat → Value) (h34 : Hp), J30 t4_31 t5_32 h34 →
 R (.tuple #[t4_31, t5_32]) h34)
def A_slices_BinarySearch_sl_int_int : Ann :=
 (.two .leaf (.two .leaf (.two .leaf (.two (.one (.loop [13, 14, 15, 16, 17, 18, 19, 20, 21, 9, 22, 23, 24, 25, 26, 27, 28, 29, 7, 30, 8] [7, 8] (.two (.two .leaf (.two .leaf .leaf)) (.join [16, 17, 18, 19, 20, 21, 9, 22, 23, 24, 25, 26, 27, 28, 29, 7, 30, 8] [7, 8] (.one (.two .leaf (.two .leaf (.join [28, 29, 7, 30, 8] [7, 8] (.two .leaf .leaf))))))))) (.two (.join [31, 32, 33, 34, 35, 36, 37, 38, 39, 40, 41, 42, 43, 44, 45, 46, 47, 48, 49, 50, 51, 52, 53, 4, 5] [4, 5] .leaf) .leaf)))))
theorem C_slices_BinarySearch_sl_int_int (ω : Amb) (x_p target_p : Value) (h : Hp) (R : Value → Hp → Prop) (X : List PanicEntry → Hp → Prop) (hk : W_slices_BinarySearch_sl_int_int ω x_p target_p h R X) : CallX Tryd.prog ω 12 [x_p, target_p] h R X :=
 callX_of (an := A_slices_BinarySearch_sl_int_int) Tryd.func12 ((show fnX Tryd.prog ω A_slices_BinarySearch_sl_int_int Tryd.f12 [x_p, target_p] h R X = W_slices_BinarySearch_sl_int_int ω x_p target_p h R X by kernel_rfl) ▸ hk)

/-- pipewright/pipewrightref.F -/
abbrev n_pipewrightref_F : Nat := 13
def W_pipewrightref_F (ω : Amb) (code_p at_p : Value) (h : Hp) (R : Value → Hp → Prop) (X : List PanicEntry → Hp → Prop) : Prop :=
 oneK code_p (oneK at_p (2 = 2 ∧ (∀ u ∈ [code_p, at_p], one u) ∧ storeK (Array.push h (.cells #[(.int .i64 0), (.int .i64 0)] 24 (0, 0))) ⟨Array.size h, 0, none⟩ [code_p, at_p] fun h0 =>
 ∃ C1, cellsH h0 ⟨Array.size h, 0, none⟩ 2 C1 ∧ R (.agg C1.toArray) h0))
def A_pipewrightref_F : Ann :=
 (.two .leaf (.two .leaf .leaf))
theorem C_pipewrightref_F (ω : Amb) (code_p at_p : Value) (h : Hp) (R : Value → Hp → Prop) (X : List PanicEntry → Hp → Prop) (hk : W_pipewrightref_F ω code_p at_p h R X) : CallX Tryd.prog ω 13 [code_p, at_p] h R X :=
 callX_of (an := A_pipewrightref_F) Tryd.func13 ((show fnX Tryd.prog ω A_pipewrightref_F Tryd.f13 [code_p, at_p] h R X = W_pipewrightref_F ω code_p at_p h R X by kernel_rfl) ▸ hk)

/-- strings.Fields -/
abbrev n_strings_Fields : Nat := 14
def W_strings_Fields (ω : Amb) (s_p : Value) (h : Hp) (R : Value → Hp → Prop) (X : List PanicEntry → Hp → Prop) : Prop :=
 ∃ (I0 : Value → Value → Value → Value → Hp → Prop) (μ1 : Value → Value → Value → Value → Hp → Nat), I0 (.int .u8 0) (.int .i64 0) (.int .i64 1) (.int .i64 0) h ∧ ∀ setBits_2 n_3 wasSpace_4 i_5 (d6 : Nat → Value) (h7 : Hp), I0 setBits_2 n_3 wasSpace_4 i_5 h7 →
 asS s_p fun s8 => asK .i64 i_5 fun n9 => cond (decide ((n9 : Int) < (ByteArray.size s8 : Int)))
 (asS s_p fun s10 => asI i_5 fun n11 => 0 ≤ (n11 : Int) ∧ n11 < (ByteArray.size s10 : Int) ∧ asK .u8 setBits_2 fun n12 => 0 ≤ ((byteAt s10 n11) : Int) ∧ (byteAt s10 n11) < ((256 : Nat) : Int) ∧ ∃ v13, cellH h7 (Addr.add ⟨0, 0, none⟩ (Int.toNat (byteAt s10 n11) * 1)) = some v13 ∧
 asI v13 fun n14 => asK .i64 wasSpace_4 fun n15 => asK .i64 n_3 fun n16 => asK .i64 i_5 fun n17 => I0 (.int .u8 (bitI .u8 .or n12 (byteAt s10 n11))) (.int .i64 (IntKind.wrap .i64 (n16 + (bitI .i64 .and n15 (bitI .i64 .xor (if IntKind.signed .i64 then -1 else IntKind.max .i64) (IntKind.wrap .i64 n14)))))) (.int .i64 (IntKind.wrap .i64 n14)) (.int .i64 (IntKind.wrap .i64 (n17 + 1))) h7 ∧ μ1 (.int .u8 (bitI .u8 .or n12 (byteAt s10 n11))) (.int .i64 (IntKind.wrap .i64 (n16 + (bitI .i64 .and n15 (bitI .i64 .xor (if IntKind.signed .i64 then -1 else IntKind.max .i64) (IntKind.wrap .i64 n14)))))) (.int .i64 (IntKind.wrap .i64 n14)) (.int .i64 (IntKind.wrap .i64 (n17 + 1))) h7 < μ1 setBits_2 n_3 wasSpace_4 i_5 h7)
 (asK .u8 setBits_2 fun n18 => cond (decide ((n18 : Int) ≥ 128))
 (CallX Tryd.prog ω 17 [s_p, (.func (.func 18) #[] #[])] h7 (fun r19 h20 =>
 R r19 h20) X)
 (makeK Tryd.prog 36 h7 n_3 n_3 fun v21 h22 =>
 ∃ (I23 : Value → Hp → Prop) (μ24 : Value → Hp → Nat), I23 (.int .i64 0) h22 ∧ ∀ i_25 (d26 : Nat → Value) (h27 : Hp), I23 i_25 h27 →
 ∃ β28 : Bool,
 (asS s_p fun s30 => asK .i64 i_25 fun n31 => cond (decide ((n31 : Int) < (ByteArray.size s30 : Int)))
 (asS s_p fun s32 => asI i_25 fun n33 => 0 ≤ (n33 : Int) ∧ n33 < (ByteArray.size s32 : Int) ∧ 0 ≤ ((byteAt s32 n33) : Int) ∧ (byteAt s32 n33) < ((256 : Nat) : Int) ∧ ∃ v34, cellH h27 (Addr.add ⟨0, 0, none⟩ (Int.toNat (byteAt s32 n33) * 1)) = some v34 ∧
 asK .u8 v34 fun n35 => ((.bool (n35 != (0 : Int))) : Value) = .bool β28 ∧ h27 = h27)
 (((.bool false) : Value) = .bool β28 ∧ h27 = h27)) ∧
 ∀ d29 : Nat → Value,
 cond β28
 (asK .i64 i_25 fun n36 => I23 (.int .i64 (IntKind.wrap .i64 (n36 + 1))) h27 ∧ μ24 (.int .i64 (IntKind.wrap .i64 (n36 + 1))) h27 < μ24 i_25 h27)
 (∃ (I37 : Value → Value → Value → Hp → Prop) (μ38 : Value → Value → Value → Hp → Nat), I37 i_25 (.int .i64 0) i_25 h27 ∧ ∀ i_39 na_40 fieldStart_41 (d42 : Nat → Value) (h43 : Hp), I37 i_39 na_40 fieldStart_41 h43 →
 asS s_p fun s44 => asK .i64 i_39 fun n45 => cond (decide ((n45 : Int) < (ByteArray.size s44 : Int)))
 (∃ J46 : Value → Value → Value → Hp → Prop,
 (asS s_p fun s52 => asI i_39 fun n53 => 0 ≤ (n53 : Int) ∧ n53 < (ByteArray.size s52 : Int) ∧ 0 ≤ ((byteAt s52 n53) : Int) ∧ (byteAt s52 n53) < ((256 : Nat) : Int) ∧ ∃ v54, cellH h43 (Addr.add ⟨0, 0, none⟩ (Int.toNat (byteAt s52 n53) * 1)) = some v54 ∧
 asK .u8 v54 fun n55 => cond (n55 == (0 : Int))
 (asK .i64 i_39 fun n56 => J46 (.int .i64 (IntKind.wrap .i64 (n56 + 1))) na_40 fieldStart_41 h43)
 (asS s_p fun s57 => asI fieldStart_41 fun n58 => asI i_39 fun n59 => 0 ≤ (n58 : Int) ∧ (n58 : Int) ≤ n59 ∧ n59 ≤ (ByteArray.size s57 : Int) ∧ asSl1 v21 fun a60 l61 c62 => asI na_40 fun n63 => 0 ≤ (n63 : Int) ∧ n63 < (l61 : Int) ∧ storeK1 h43 (Addr.add a60 (Int.toNat n63 * 1)) (.string (ByteArray.extract s57 (Int.toNat n58) (Int.toNat n59))) fun h64 =>
 asK .i64 na_40 fun n65 => asK .i64 i_39 fun n66 => ∃ (I67 : Value → Hp → Prop) (μ68 : Value → Hp → Nat), I67 (.int .i64 (IntKind.wrap .i64 (n66 + 1))) h64 ∧ ∀ i_69 (d70 : Nat → Value) (h71 : Hp), I67 i_69 h71 →
 ∃ β72 : Bool,
 (asS s_p fun s74 => asK .i64 i_69 fun n75 => cond (decide ((n75 : Int) < (ByteArray.size s74 : Int)))
 (asS s_p fun s76 => asI i_69 fun n77 => 0 ≤ (n77 : Int) ∧ n77 < (ByteArray.size s76 : Int) ∧ 0 ≤ ((byteAt s76 n77) : Int) ∧ (byteAt s76 n77) < ((256 : Nat) : Int) ∧ ∃ v78, cellH h71 (Addr.add ⟨0, 0, none⟩ (Int.toNat (byteAt s76 n77) * 1)) = some v78 ∧
 asK .u8 v78 fun n79 => ((.bool (n79 != (0 : Int))) : Value) = .bool β72 ∧ h71 = h71)
 (((.bool false) : Value) = .bool β72 ∧ h71 = h71)) ∧
 ∀ d73 : Nat → Value,
 cond β72
 (asK .i64 i_69 fun n80 => I67 (.int .i64 (IntKind.wrap .i64 (n80 + 1))) h71 ∧ μ68 (.int .i64 (IntKind.wrap .i64 (n80 + 1))) h71 < μ68 i_69 h71)
 (J46 i_69 (.int .i64 (IntKind.wrap .i64 (n65 + 1))) i_69 h71))) ∧
 ∀ i_47 na_48 fieldStart_49 (d50 : Nat → Value) (h51 : Hp), J46 i_47 na_48 fieldStart_49 h51 →
 I37 i_47 na_48 fieldStart_49 h51 ∧ μ38 i_47 na_48 fieldStart_49 h51 < μ38 i_39 na_40 fieldStart_41 h43)
 (asS s_p fun s81 => asK .i64 fieldStart_41 fun n82 => ∃ J83 : Hp → Prop,
 (cond (decide ((n82 : Int) < (ByteArray.size s81 : Int)))
 (asS s_p fun s86 => asI fieldStart_41 fun n87 => 0 ≤ (n87 : Int) ∧ (n87 : Int) ≤ (ByteArray.size s86 : Int) ∧ (ByteArray.size s86 : Int) ≤ (ByteArray.size s86 : Int) ∧ asSl1 v21 fun a88 l89 c90 => asI na_40 fun n91 => 0 ≤ (n91 : Int) ∧ n91 < (l89 : Int) ∧ storeK1 h43 (Addr.add a88 (Int.toNat n91 * 1)) (.string (ByteArray.extract s86 (Int.toNat n87) (Int.toNat (ByteArray.size s86 : Int)))) fun h92 =>
 J83 h92)
 (J83 h43)) ∧
 ∀  (d84 : Nat → Value) (h85 : Hp), J83 h85 →
 R v21 h85))))
def A_strings_Fields : Ann :=
 (.two .leaf (.two .leaf (.two .leaf (.two .leaf (.two (.two .leaf (.one (.loop [13, 14, 15, 16, 19, 20, 21, 7, 22, 23, 24, 5, 25, 26, 27, 28, 8, 29, 30, 31, 32, 33, 34, 3, 35, 4, 17, 18, 6] [5, 3, 4, 6] (.two (.two .leaf (.two .leaf .leaf)) (.two (.one (.two .leaf (.two .leaf (.two .leaf (.two .leaf .leaf))))) .leaf))))) (.two (.two .leaf (.two (.two .leaf .leaf) .leaf)) (.two .leaf (.two .leaf (.two .leaf (.two .leaf (.two (.one (.loop [42, 43, 44, 45, 46, 47, 48, 49, 50, 51, 52, 53, 54, 55, 12] [12] (.two (.two (.jb [42, 43, 44, 45, 46, 47, 48, 49, 50, 51, 52, 53] 53 .leaf) (.two .leaf .leaf)) (.one .leaf)))) (.two .leaf (.two (.one (.loop [57, 58, 59, 60, 61, 62, 63, 64, 65, 66, 67, 68, 12, 69, 70, 71, 72, 73, 74, 75, 76, 77, 10, 78, 79, 80, 81, 82, 83, 84, 85, 86, 87, 88, 89, 90, 91, 92, 93, 94, 11] [12, 10, 11] (.two (.two .leaf (.two .leaf .leaf)) (.join [61, 62, 63, 64, 65, 66, 67, 68, 12, 69, 70, 71, 72, 73, 74, 75, 76, 77, 10, 78, 79, 80, 81, 82, 83, 84, 85, 86, 87, 88, 89, 90, 91, 92, 93, 94, 11] [12, 10, 11] (.one (.two (.two .leaf (.two (.two .leaf .leaf) .leaf)) (.two .leaf (.two .leaf (.two .leaf (.two (.one (.loop [80, 81, 82, 83, 84, 85, 86, 87, 88, 89, 90, 91, 92, 93, 12] [12] (.two (.two (.jb [80, 81, 82, 83, 84, 85, 86, 87, 88, 89, 90, 91] 91 .leaf) (.two .leaf .leaf)) (.one .leaf)))) .leaf)))))))))) (.two (.two .leaf (.join [99, 100, 101, 102, 103, 104] [] (.two .leaf .leaf))) (.two .leaf .leaf)))))))))))))))
theorem C_strings_Fields (ω : Amb) (s_p : Value) (h : Hp) (R : Value → Hp → Prop) (X : List PanicEntry → Hp → Prop) (hk : W_strings_Fields ω s_p h R X) : CallX Tryd.prog ω 14 [s_p] h R X :=
 callX_of (an := A_strings_Fields) Tryd.func14 ((show fnX Tryd.prog ω A_strings_Fields Tryd.f14 [s_p] h R X = W_strings_Fields ω s_p h R X by kernel_rfl) ▸ hk)

/-- cmp.Less[int] -/
abbrev n_cmp_Less_int : Nat := 15
def W_cmp_Less_int (ω : Amb) (x_p y_p : Value) (h : Hp) (R : Value → Hp → Prop) (X : List PanicEntry → Hp → Prop) : Prop :=
 ∃ J0 : Value → Hp → Prop,
 (CallX Tryd.prog ω 19 [x_p] h (fun r4 h5 =>
 asB r4 fun b6 => cond b6
 (CallX Tryd.prog ω 19 [y_p] h5 (fun r7 h8 =>
 asB r7 fun b9 => cond (!b9)
 (J0 (.bool true) h8)
 (asK .i64 x_p fun n10 => asK .i64 y_p fun n11 => J0 (.bool (decide ((n10 : Int) < n11))) h8)) X)
 (asK .i64 x_p fun n12 => asK .i64 y_p fun n13 => J0 (.bool (decide ((n12 : Int) < n13))) h5)) X) ∧
 ∀ t4_1 (d2 : Nat → Value) (h3 : Hp), J0 t4_1 h3 →
 R t4_1 h3
def A_cmp_Less_int : Ann :=
 (.two .leaf (.two (.join [5, 6, 7, 8, 9, 10, 11, 12, 13, 14, 15, 16, 4] [4] .leaf) .leaf))
theorem C_cmp_Less_int (ω : Amb) (x_p y_p : Value) (h : Hp) (R : Value → Hp → Prop) (X : List PanicEntry → Hp → Prop) (hk : W_cmp_Less_int ω x_p y_p h R X) : CallX Tryd.prog ω 15 [x_p, y_p] h R X :=
 callX_of (an := A_cmp_Less_int) Tryd.func15 ((show fnX Tryd.prog ω A_cmp_Less_int Tryd.f15 [x_p, y_p] h R X = W_cmp_Less_int ω x_p y_p h R X by kernel_rfl) ▸ hk)

/-- slices.isNaN[int] -/
abbrev n_slices_isNaN_int : Nat := 16
def W_slices_isNaN_int (ω : Amb) (x_p : Value) (h : Hp) (R : Value → Hp → Prop) (X : List PanicEntry → Hp → Prop) : Prop :=
 asK .i64 x_p fun n0 => asK .i64 x_p fun n1 => R (.bool (n0 != (n1 : Int))) h
def A_slices_isNaN_int : Ann :=
 (.two .leaf (.two .leaf .leaf))
theorem C_slices_isNaN_int (ω : Amb) (x_p : Value) (h : Hp) (R : Value → Hp → Prop) (X : List PanicEntry → Hp → Prop) (hk : W_slices_isNaN_int ω x_p h R X) : CallX Tryd.prog ω 16 [x_p] h R X :=
 callX_of (an := A_slices_isNaN_int) Tryd.func16 ((show fnX Tryd.prog ω A_slices_isNaN_int Tryd.f16 [x_p] h R X = W_slices_isNaN_int ω x_p h R X by kernel_rfl) ▸ hk)

/-- cmp.isNaN[int] -/
abbrev n_cmp_isNaN_int : Nat := 19
def W_cmp_isNaN_int (ω : Amb) (x_p : Value) (h : Hp) (R : Value → Hp → Prop) (X : List PanicEntry → Hp → Prop) : Prop :=
 asK .i64 x_p fun n0 => asK .i64 x_p fun n1 => R (.bool (n0 != (n1 : Int))) h
def A_cmp_isNaN_int : Ann :=
 (.two .leaf (.two .leaf .leaf))
theorem C_cmp_isNaN_int (ω : Amb) (x_p : Value) (h : Hp) (R : Value → Hp → Prop) (X : List PanicEntry → Hp → Prop) (hk : W_cmp_isNaN_int ω x_p h R X) : CallX Tryd.prog ω 19 [x_p] h R X :=
 callX_of (an := A_cmp_isNaN_int) Tryd.func19 ((show fnX Tryd.prog ω A_cmp_isNaN_int Tryd.f19 [x_p] h R X = W_cmp_isNaN_int ω x_p h R X by kernel_rfl) ▸ hk)

end Go.Proofs.YtlkkaeaemafkiaaDoor.Sx
