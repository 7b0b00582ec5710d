/- Formulas of the functions' texts, written by a program of ours; each is checked by the kernel. -/
import Derived.Test.YtfpedcmempljlaaDoorSxCore
import Derived.KernelRfl
import Derived.Test.YtfpedcmempljlaaDoorProg
set_option linter.unusedVariables false
set_option maxRecDepth 100000
namespace Go.Proofs.YtfpedcmempljlaaDoor.Sx
open Go Go.Sx Go.Proofs

/-- pipewright/pipewrightlaw.TextOrders -/
abbrev n_pipewrightlaw_TextOrders : Nat := 3
def W_pipewrightlaw_TextOrders (ω : Amb) (l_p : Value) (h : Hp) (R : Value → Hp → Prop) (X : List PanicEntry → Hp → Prop) : Prop :=
 CallX Tryd.prog ω 5 [] h (fun r0 h1 =>
 asB r0 fun b2 => cond (!b2)
 (R (.bool false) h1)
 (asSl l_p fun a3 l4 c5 => cond (decide (((l4 : Int) : Int) > 300))
 (R (.bool true) h1)
 (CallX Tryd.prog ω 6 [l_p] h1 (fun r6 h7 =>
 ∃ (I8 : Value → Hp → Prop) (μ9 : Value → Hp → Nat), I8 (.int .i64 0) h7 ∧ ∀ i_10 (d11 : Nat → Value) (h12 : Hp), I8 i_10 h12 →
 asSl r6 fun a13 l14 c15 => asK .i64 i_10 fun n16 => cond (decide ((n16 : Int) < (l14 : Int)))
 (∃ β17 : Bool,
 (asSl1 r6 fun a19 l20 c21 => asI i_10 fun n22 => 0 ≤ (n22 : Int) ∧ n22 < (l20 : Int) ∧ ∃ v23, cellH h12 (Addr.add (Addr.add a19 (Int.toNat n22 * 2)) 0) = some v23 ∧
 asK .i64 v23 fun n24 => cond (n24 == (0 : Int))
 (((.bool true) : Value) = .bool β17 ∧ h12 = h12)
 (asK .i64 i_10 fun n25 => cond (decide ((n25 : Int) > 0))
 (asSl1 r6 fun a26 l27 c28 => asI i_10 fun n29 => 0 ≤ (n29 : Int) ∧ n29 < (l27 : Int) ∧ ∃ v30, cellH h12 (Addr.add (Addr.add a26 (Int.toNat n29 * 2)) 1) = some v30 ∧
 asK .i64 i_10 fun n31 => asSl1 r6 fun a32 l33 c34 => 0 ≤ ((IntKind.wrap .i64 (n31 - 1)) : Int) ∧ (IntKind.wrap .i64 (n31 - 1)) < (l33 : Int) ∧ ∃ v35, cellH h12 (Addr.add (Addr.add a32 (Int.toNat (IntKind.wrap .i64 (n31 - 1)) * 2)) 1) = some v35 ∧
 asK .i64 v30 fun n36 => asK .i64 v35 fun n37 => cond (decide ((n36 : Int) < n37))
 (((.bool true) : Value) = .bool β17 ∧ h12 = h12)
 (asSl1 r6 fun a38 l39 c40 => asI i_10 fun n41 => 0 ≤ (n41 : Int) ∧ n41 < (l39 : Int) ∧ ∃ v42, cellH h12 (Addr.add (Addr.add a38 (Int.toNat n41 * 2)) 1) = some v42 ∧
 asK .i64 i_10 fun n43 => asSl1 r6 fun a44 l45 c46 => 0 ≤ ((IntKind.wrap .i64 (n43 - 1)) : Int) ∧ (IntKind.wrap .i64 (n43 - 1)) < (l45 : Int) ∧ ∃ v47, cellH h12 (Addr.add (Addr.add a44 (Int.toNat (IntKind.wrap .i64 (n43 - 1)) * 2)) 1) = some v47 ∧
 asK .i64 v42 fun n48 => asK .i64 v47 fun n49 => cond (n48 == (n49 : Int))
 (asSl1 r6 fun a50 l51 c52 => asI i_10 fun n53 => 0 ≤ (n53 : Int) ∧ n53 < (l51 : Int) ∧ ∃ v54, cellH h12 (Addr.add (Addr.add a50 (Int.toNat n53 * 2)) 0) = some v54 ∧
 asK .i64 i_10 fun n55 => asSl1 r6 fun a56 l57 c58 => 0 ≤ ((IntKind.wrap .i64 (n55 - 1)) : Int) ∧ (IntKind.wrap .i64 (n55 - 1)) < (l57 : Int) ∧ ∃ v59, cellH h12 (Addr.add (Addr.add a56 (Int.toNat (IntKind.wrap .i64 (n55 - 1)) * 2)) 0) = some v59 ∧
 asK .i64 v54 fun n60 => asK .i64 v59 fun n61 => ((.bool (decide ((n60 : Int) ≤ n61))) : Value) = .bool β17 ∧ h12 = h12)
 (((.bool false) : Value) = .bool β17 ∧ h12 = h12)))
 (((.bool false) : Value) = .bool β17 ∧ h12 = h12))) ∧
 ∀ d18 : Nat → Value,
 cond β17
 (R (.bool false) h12)
 (∃ (I62 : Value → Value → Hp → Prop) (μ63 : Value → Value → Hp → Nat), I62 (.bool false) (.int .i64 0) h12 ∧ ∀ found_64 k_65 (d66 : Nat → Value) (h67 : Hp), I62 found_64 k_65 h67 →
 asSl l_p fun a68 l69 c70 => asK .i64 k_65 fun n71 => cond (decide ((n71 : Int) < (l69 : Int)))
 (∃ J72 : Value → Hp → Prop,
 (asB found_64 fun b76 => cond b76
 (J72 (.bool true) h67)
 (asSl1 l_p fun a77 l78 c79 => asI k_65 fun n80 => 0 ≤ (n80 : Int) ∧ n80 < (l78 : Int) ∧ ∃ C81, cellsH h67 (Addr.add a77 (Int.toNat n80 * 2)) 2 C81 ∧
 asSl1 r6 fun a82 l83 c84 => asI i_10 fun n85 => 0 ≤ (n85 : Int) ∧ n85 < (l83 : Int) ∧ ∃ C86, cellsH h67 (Addr.add a82 (Int.toNat n85 * 2)) 2 C86 ∧
 asO C81.toArray[0]? fun v87 => asO C86.toArray[0]? fun v88 => asK .i64 v87 fun n89 => asK .i64 v88 fun n90 => asO C81.toArray[1]? fun v91 => asO C86.toArray[1]? fun v92 => asK .i64 v91 fun n93 => asK .i64 v92 fun n94 => J72 (.bool ((n89 == (n90 : Int)) && ((n93 == (n94 : Int)) && true))) h67)) ∧
 ∀ found_73 (d74 : Nat → Value) (h75 : Hp), J72 found_73 h75 →
 asK .i64 k_65 fun n95 => I62 found_73 (.int .i64 (IntKind.wrap .i64 (n95 + 1))) h75 ∧ μ63 found_73 (.int .i64 (IntKind.wrap .i64 (n95 + 1))) h75 < μ63 found_64 k_65 h67)
 (asB found_64 fun b96 => cond (!b96)
 (R (.bool false) h67)
 (asK .i64 i_10 fun n97 => I8 (.int .i64 (IntKind.wrap .i64 (n97 + 1))) h67 ∧ μ9 (.int .i64 (IntKind.wrap .i64 (n97 + 1))) h67 < μ9 i_10 h12))))
 (∃ (I98 : Value → Hp → Prop) (μ99 : Value → Hp → Nat), I98 (.int .i64 0) h12 ∧ ∀ k_100 (d101 : Nat → Value) (h102 : Hp), I98 k_100 h102 →
 asSl l_p fun a103 l104 c105 => asK .i64 k_100 fun n106 => cond (decide ((n106 : Int) < (l104 : Int)))
 (asSl1 l_p fun a107 l108 c109 => asI k_100 fun n110 => 0 ≤ (n110 : Int) ∧ n110 < (l108 : Int) ∧ ∃ v111, cellH h102 (Addr.add (Addr.add a107 (Int.toNat n110 * 2)) 0) = some v111 ∧
 asK .i64 v111 fun n112 => ∃ (I113 : Value → Value → Hp → Prop) (μ114 : Value → Value → Hp → Nat), I113 (.bool (n112 == (0 : Int))) (.int .i64 0) h102 ∧ ∀ found_115 i_116 (d117 : Nat → Value) (h118 : Hp), I113 found_115 i_116 h118 →
 asSl r6 fun a119 l120 c121 => asK .i64 i_116 fun n122 => cond (decide ((n122 : Int) < (l120 : Int)))
 (∃ J123 : Value → Hp → Prop,
 (asB found_115 fun b127 => cond b127
 (J123 (.bool true) h118)
 (asSl1 l_p fun a128 l129 c130 => asI k_100 fun n131 => 0 ≤ (n131 : Int) ∧ n131 < (l129 : Int) ∧ ∃ C132, cellsH h118 (Addr.add a128 (Int.toNat n131 * 2)) 2 C132 ∧
 asSl1 r6 fun a133 l134 c135 => asI i_116 fun n136 => 0 ≤ (n136 : Int) ∧ n136 < (l134 : Int) ∧ ∃ C137, cellsH h118 (Addr.add a133 (Int.toNat n136 * 2)) 2 C137 ∧
 asO C132.toArray[0]? fun v138 => asO C137.toArray[0]? fun v139 => asK .i64 v138 fun n140 => asK .i64 v139 fun n141 => asO C132.toArray[1]? fun v142 => asO C137.toArray[1]? fun v143 => asK .i64 v142 fun n144 => asK .i64 v143 fun n145 => J123 (.bool ((n140 == (n141 : Int)) && ((n144 == (n145 : Int)) && true))) h118)) ∧
 ∀ found_124 (d125 : Nat → Value) (h126 : Hp), J123 found_124 h126 →
 asK .i64 i_116 fun n146 => I113 found_124 (.int .i64 (IntKind.wrap .i64 (n146 + 1))) h126 ∧ μ114 found_124 (.int .i64 (IntKind.wrap .i64 (n146 + 1))) h126 < μ114 found_115 i_116 h118)
 (asB found_115 fun b147 => cond (!b147)
 (R (.bool false) h118)
 (asK .i64 k_100 fun n148 => I98 (.int .i64 (IntKind.wrap .i64 (n148 + 1))) h118 ∧ μ99 (.int .i64 (IntKind.wrap .i64 (n148 + 1))) h118 < μ99 k_100 h102)))
 (CallX Tryd.prog ω 6 [r6] h102 (fun r149 h150 =>
 CallX Tryd.prog ω 7 [r149, r6] h150 (fun r151 h152 =>
 R r151 h152) X) X))) X))) X
def A_pipewrightlaw_TextOrders : Ann :=
 (.two .leaf (.two (.two .leaf (.two (.two .leaf .leaf) .leaf)) (.two (.two .leaf (.two (.two .leaf .leaf) .leaf)) (.two .leaf (.two (.two .leaf (.one (.loop [17, 18, 19, 20, 23, 24, 25, 26, 27, 28, 29, 30, 31, 32, 33, 34, 35, 36, 37, 38, 39, 40, 41, 42, 43, 44, 45, 46, 47, 48, 49, 50, 51, 52, 53, 54, 55, 56, 57, 58, 59, 60, 61, 62, 63, 64, 65, 66, 67, 68, 69, 70, 71, 72, 73, 74, 2, 5, 6, 75, 76, 77, 78, 81, 82, 83, 84, 85, 86, 87, 88, 89, 90, 91, 92, 79, 80, 93, 94, 21, 22, 4] [4] (.two (.two .leaf (.two .leaf .leaf)) (.two (.one (.two (.two (.jb [23, 24, 25, 26, 27, 28, 29, 30, 31, 32, 33, 34, 35, 36, 37, 38, 39, 40, 41, 42, 43, 44, 45, 46, 47, 48, 49, 50, 51, 52, 53, 54, 55, 56, 57, 58, 59, 60, 61, 62, 63, 64, 65, 66, 67, 68, 69, 70, 71, 72, 73, 74] 74 (.plan [0, 1, 2, 3, 4, 5, 6, 7, 8, 9, 10, 11, 12, 13, 14, 15, 16, 17, 18, 19, 20, 21, 22, 23, 24, 25, 26, 27, 28, 29, 30, 31, 32, 33, 34, 35, 36, 37, 38, 39, 40, 41, 42, 43, 44, 45, 46, 47, 48, 49, 50, 51])) (.two (.two .leaf .leaf) .leaf)) (.two .leaf (.two (.two .leaf (.one (.loop [75, 76, 77, 78, 81, 82, 83, 84, 85, 86, 87, 88, 89, 90, 91, 92, 5, 79, 80, 6] [5, 6] (.two (.two .leaf (.two .leaf .leaf)) (.two (.one (.join [81, 82, 83, 84, 85, 86, 87, 88, 89, 90, 91, 92, 5] [5] (.plan [0, 1, 2, 3, 4, 5, 6, 7, 8, 9, 10, 11, 12]))) .leaf))))) (.two .leaf (.two (.two .leaf .leaf) .leaf)))))) .leaf))))) (.two (.two .leaf (.one (.loop [95, 96, 97, 98, 101, 102, 103, 104, 105, 106, 8, 9, 107, 108, 109, 110, 113, 114, 115, 116, 117, 118, 119, 120, 121, 122, 123, 124, 111, 112, 125, 126, 2, 99, 100, 7] [7] (.two (.two .leaf (.two .leaf .leaf)) (.two (.one (.two .leaf (.two (.two .leaf (.one (.loop [107, 108, 109, 110, 113, 114, 115, 116, 117, 118, 119, 120, 121, 122, 123, 124, 8, 111, 112, 9] [8, 9] (.two (.two .leaf (.two .leaf .leaf)) (.two (.one (.join [113, 114, 115, 116, 117, 118, 119, 120, 121, 122, 123, 124, 8] [8] (.plan [0, 1, 2, 3, 4, 5, 6, 7, 8, 9, 10, 11, 12]))) .leaf))))) (.two .leaf (.two (.two .leaf .leaf) .leaf))))) .leaf))))) (.two .leaf .leaf)))))))
theorem C_pipewrightlaw_TextOrders (ω : Amb) (l_p : Value) (h : Hp) (R : Value → Hp → Prop) (X : List PanicEntry → Hp → Prop) (hk : W_pipewrightlaw_TextOrders ω l_p h R X) : CallX Tryd.prog ω 3 [l_p] h R X :=
 callX_of (an := A_pipewrightlaw_TextOrders) Tryd.func3 ((show fnX Tryd.prog ω A_pipewrightlaw_TextOrders Tryd.f3 [l_p] h R X = W_pipewrightlaw_TextOrders ω l_p h R X by kernel_rfl) ▸ hk)

/-- pipewright/pipewrightlaw.textBegun -/
abbrev n_pipewrightlaw_textBegun : Nat := 5
def W_pipewrightlaw_textBegun (ω : Amb) (h : Hp) (R : Value → Hp → Prop) (X : List PanicEntry → Hp → Prop) : Prop :=
 CallX Tryd.prog ω 15 [(.string ⟨#[97, 98, 10, 99, 100]⟩), (.int .i64 4)] h (fun r0 h1 =>
 asT r0 fun T2 => asO T2[0]? fun v3 => asT r0 fun T4 => asO T4[1]? fun v5 => asT r0 fun T6 => asO T6[2]? fun v7 => asA v7 fun A8 => A8.size = 2 ∧ (∀ u ∈ A8.toList, one u) ∧ storeK (Array.push h1 (.cells #[(.int .i64 0), (.int .i64 0)] 26 (0, 0))) ⟨Array.size h1, 0, none⟩ A8.toList fun h9 =>
 ∃ J10 : Value → Hp → Prop,
 (asK .i64 v3 fun n14 => cond (n14 == (2 : Int))
 (asK .i64 v5 fun n15 => cond (n15 == (2 : Int))
 (∃ v16, cellH h9 (Addr.add ⟨Array.size h1, 0, none⟩ 0) = some v16 ∧
 asK .i64 v16 fun n17 => cond (n17 == (0 : Int))
 (CallX Tryd.prog ω 13 [(.int .i64 5)] h9 (fun r18 h19 =>
 asS r18 fun s20 => J10 (.bool (ByteArray.toList s20 == ByteArray.toList ⟨#[102, 111, 114, 109]⟩)) h19) X)
 (J10 (.bool false) h9))
 (J10 (.bool false) h9))
 (J10 (.bool false) h9)) ∧
 ∀ t0_11 (d12 : Nat → Value) (h13 : Hp), J10 t0_11 h13 →
 R t0_11 h13) X
def A_pipewrightlaw_textBegun : Ann :=
 (.two .leaf (.two .leaf (.two (.join [9, 10, 11, 12, 13, 14, 15, 16, 17, 18, 19, 20, 21, 22, 23, 0] [0] .leaf) .leaf)))
theorem C_pipewrightlaw_textBegun (ω : Amb) (h : Hp) (R : Value → Hp → Prop) (X : List PanicEntry → Hp → Prop) (hk : W_pipewrightlaw_textBegun ω  h R X) : CallX Tryd.prog ω 5 [] h R X :=
 callX_of (an := A_pipewrightlaw_textBegun) Tryd.func5 ((show fnX Tryd.prog ω A_pipewrightlaw_textBegun Tryd.f5 [] h R X = W_pipewrightlaw_textBegun ω  h R X by kernel_rfl) ▸ hk)

/-- pipewright/text.Order -/
abbrev n_text_Order : Nat := 6
def W_text_Order (ω : Amb) (l_p : Value) (h : Hp) (R : Value → Hp → Prop) (X : List PanicEntry → Hp → Prop) : Prop :=
 asSl l_p fun a0 l1 c2 => ∃ (I3 : Value → Value → Hp → Prop) (μ4 : Value → Value → Hp → Nat), I3 (.slice none 0 0) (.int .i64 0) h ∧ ∀ out_5 t8_6 (d7 : Nat → Value) (h8 : Hp), I3 out_5 t8_6 h8 →
 asK .i64 t8_6 fun n9 => cond (decide ((n9 : Int) < (l1 : Int)))
 (∃ J10 : Value → Hp → Prop,
 (asSl1 l_p fun a14 l15 c16 => asI t8_6 fun n17 => 0 ≤ (n17 : Int) ∧ n17 < (l15 : Int) ∧ ∃ C18, cellsH h8 (Addr.add a14 (Int.toNat n17 * 2)) 2 C18 ∧
 C18.toArray.size = 2 ∧ (∀ u ∈ C18.toArray.toList, one u) ∧ storeK (Array.push h8 (.cells #[(.int .i64 0), (.int .i64 0)] 26 (0, 0))) ⟨Array.size h8, 0, none⟩ C18.toArray.toList fun h19 =>
 ∃ v20, cellH h19 (Addr.add ⟨Array.size h8, 0, none⟩ 0) = some v20 ∧
 asK .i64 v20 fun n21 => ∃ J22 : Value → Hp → Prop,
 (cond (n21 != (0 : Int))
 (∃ C26, cellsH h19 ⟨Array.size h8, 0, none⟩ 2 C26 ∧
 C26.toArray.size = 2 ∧ appK Tryd.prog 22 (Array.push h19 (.cells (List.toArray (C26.toArray.toList ++ [])) 26 (0, 0))) out_5 (.slice (some ⟨Array.size h19, 0, none⟩) 1 1) fun w27 h28 =>
 J22 w27 h28)
 (J22 out_5 h19)) ∧
 ∀ out_23 (d24 : Nat → Value) (h25 : Hp), J22 out_23 h25 →
 J10 out_23 h25) ∧
 ∀ out_11 (d12 : Nat → Value) (h13 : Hp), J10 out_11 h13 →
 asK .i64 t8_6 fun n29 => I3 out_11 (.int .i64 (IntKind.wrap .i64 (n29 + 1))) h13 ∧ μ4 out_11 (.int .i64 (IntKind.wrap .i64 (n29 + 1))) h13 < μ4 out_5 t8_6 h8)
 (CallX Tryd.prog ω 16 [out_5, (.func (.func 17) #[] #[])] h8 (fun r30 h31 =>
 CallX Tryd.prog ω 20 [out_5] h31 (fun r32 h33 =>
 R r32 h33) X) X)
def A_text_Order : Ann :=
 (.two .leaf (.two .leaf (.two (.two .leaf (.one (.loop [9, 10, 11, 5, 12, 13, 14, 15, 16, 17, 18, 3, 19, 8] [3, 8] (.two .leaf (.two (.two .leaf .leaf) (.two (.join [10, 11, 5, 12, 13, 14, 15, 16, 17, 18, 3] [3] (.one (.two .leaf (.two .leaf (.join [15, 16, 17, 18, 3] [3] (.two .leaf .leaf)))))) .leaf)))))) (.two .leaf (.two .leaf .leaf)))))
theorem C_text_Order (ω : Amb) (l_p : Value) (h : Hp) (R : Value → Hp → Prop) (X : List PanicEntry → Hp → Prop) (hk : W_text_Order ω l_p h R X) : CallX Tryd.prog ω 6 [l_p] h R X :=
 callX_of (an := A_text_Order) Tryd.func6 ((show fnX Tryd.prog ω A_text_Order Tryd.f6 [l_p] h R X = W_text_Order ω l_p h R X by kernel_rfl) ▸ hk)

/-- pipewright/pipewrightref.SameFaults -/
abbrev n_pipewrightref_SameFaults : Nat := 7
def W_pipewrightref_SameFaults (ω : Amb) (a_p b_p : Value) (h : Hp) (R : Value → Hp → Prop) (X : List PanicEntry → Hp → Prop) : Prop :=
 asSl a_p fun a0 l1 c2 => asSl b_p fun a3 l4 c5 => cond ((l1 : Int) != ((l4 : Int) : Int))
 (R (.bool false) h)
 (∃ (I6 : Value → Hp → Prop) (μ7 : Value → Hp → Nat), I6 (.int .i64 0) h ∧ ∀ i_8 (d9 : Nat → Value) (h10 : Hp), I6 i_8 h10 →
 asSl a_p fun a11 l12 c13 => asK .i64 i_8 fun n14 => cond (decide ((n14 : Int) < (l12 : Int)))
 (asSl1 a_p fun a15 l16 c17 => asI i_8 fun n18 => 0 ≤ (n18 : Int) ∧ n18 < (l16 : Int) ∧ ∃ C19, cellsH h10 (Addr.add a15 (Int.toNat n18 * 2)) 2 C19 ∧
 asSl1 b_p fun a20 l21 c22 => asI i_8 fun n23 => 0 ≤ (n23 : Int) ∧ n23 < (l21 : Int) ∧ ∃ C24, cellsH h10 (Addr.add a20 (Int.toNat n23 * 2)) 2 C24 ∧
 asO C19.toArray[0]? fun v25 => asO C24.toArray[0]? fun v26 => asK .i64 v25 fun n27 => asK .i64 v26 fun n28 => asO C19.toArray[1]? fun v29 => asO C24.toArray[1]? fun v30 => asK .i64 v29 fun n31 => asK .i64 v30 fun n32 => cond (!((n27 == (n28 : Int)) && ((n31 == (n32 : Int)) && true)))
 (R (.bool false) h10)
 (asK .i64 i_8 fun n33 => I6 (.int .i64 (IntKind.wrap .i64 (n33 + 1))) h10 ∧ μ7 (.int .i64 (IntKind.wrap .i64 (n33 + 1))) h10 < μ7 i_8 h10))
 (R (.bool true) h10))
def A_pipewrightref_SameFaults : Ann :=
 (.two .leaf (.two (.two .leaf (.two (.two .leaf .leaf) .leaf)) (.two (.two .leaf (.one (.loop [11, 12, 13, 14, 17, 18, 19, 20, 21, 22, 23, 24, 25, 4, 15, 16, 5] [5] (.two (.two .leaf (.two .leaf .leaf)) (.two (.one (.two (.plan [0, 1, 2, 3, 4, 5, 6, 7, 8]) (.two (.two .leaf .leaf) .leaf))) .leaf))))) (.two .leaf .leaf))))
theorem C_pipewrightref_SameFaults (ω : Amb) (a_p b_p : Value) (h : Hp) (R : Value → Hp → Prop) (X : List PanicEntry → Hp → Prop) (hk : W_pipewrightref_SameFaults ω a_p b_p h R X) : CallX Tryd.prog ω 7 [a_p, b_p] h R X :=
 callX_of (an := A_pipewrightref_SameFaults) Tryd.func7 ((show fnX Tryd.prog ω A_pipewrightref_SameFaults Tryd.f7 [a_p, b_p] h R X = W_pipewrightref_SameFaults ω a_p b_p h R X by kernel_rfl) ▸ hk)

/-- pipewright/text.Word -/
abbrev n_text_Word : Nat := 13
def W_text_Word (ω : Amb) (code_p : Value) (h : Hp) (R : Value → Hp → Prop) (X : List PanicEntry → Hp → Prop) : Prop :=
 CallX Tryd.prog ω 26 [(.string ⟨#[115, 105, 122, 101, 32, 116, 101, 120, 116, 32, 110, 117, 109, 98, 101, 114, 32, 110, 97, 109, 101, 32, 102, 111, 114, 109, 32, 115, 104, 111, 114, 116, 32, 100, 101, 101, 112, 32, 109, 97, 110, 121, 32, 116, 119, 105, 99, 101, 32, 110, 111, 110, 101, 32, 116, 121, 112, 101, 32, 115, 116, 97, 103, 101, 32, 109, 97, 105, 110, 32, 114, 97, 110, 103, 101, 32, 99, 111, 117, 110, 116, 32, 99, 111, 100, 101, 32, 114, 111, 117, 110, 100]⟩)] h (fun r0 h1 =>
 ∃ β2 : Bool,
 (asK .i64 code_p fun n4 => cond (decide ((n4 : Int) < 1))
 (((.bool true) : Value) = .bool β2 ∧ h1 = h1)
 (asSl r0 fun a5 l6 c7 => asK .i64 code_p fun n8 => ((.bool (decide ((n8 : Int) > (l6 : Int)))) : Value) = .bool β2 ∧ h1 = h1)) ∧
 ∀ d3 : Nat → Value,
 cond β2
 (R (.string ⟨#[]⟩) h1)
 (asK .i64 code_p fun n9 => asSl1 r0 fun a10 l11 c12 => 0 ≤ ((IntKind.wrap .i64 (n9 - 1)) : Int) ∧ (IntKind.wrap .i64 (n9 - 1)) < (l11 : Int) ∧ ∃ v13, cellH h1 (Addr.add a10 (Int.toNat (IntKind.wrap .i64 (n9 - 1)) * 1)) = some v13 ∧
 R v13 h1)) X
def A_text_Word : Ann :=
 (.two .leaf (.two .leaf (.two (.two (.jb [5, 6, 7, 8, 9, 10, 11, 12] 12 .leaf) (.two (.two .leaf .leaf) .leaf)) (.two .leaf .leaf))))
theorem C_text_Word (ω : Amb) (code_p : Value) (h : Hp) (R : Value → Hp → Prop) (X : List PanicEntry → Hp → Prop) (hk : W_text_Word ω code_p h R X) : CallX Tryd.prog ω 13 [code_p] h R X :=
 callX_of (an := A_text_Word) Tryd.func13 ((show fnX Tryd.prog ω A_text_Word Tryd.f13 [code_p] h R X = W_text_Word ω code_p h R X by kernel_rfl) ▸ hk)

/-- pipewright/text.Place -/
abbrev n_text_Place : Nat := 15
def W_text_Place (ω : Amb) (src_p at_p : Value) (h : Hp) (R : Value → Hp → Prop) (X : List PanicEntry → Hp → Prop) : Prop :=
 asS src_p fun s0 => cond (decide (((ByteArray.size s0 : Int) : Int) > 12000))
 (2 = 2 ∧ (∀ u ∈ [(.int .i64 1), (.int .i64 (-1))], one u) ∧ storeK (Array.push h (.cells #[(.int .i64 0), (.int .i64 0)] 26 (0, 0))) ⟨Array.size h, 0, none⟩ [(.int .i64 1), (.int .i64 (-1))] fun h1 =>
 ∃ C2, cellsH h1 ⟨Array.size h, 0, none⟩ 2 C2 ∧ R (.tuple #[(.int .i64 0), (.int .i64 0), (.agg C2.toArray)]) h1)
 (∃ β3 : Bool,
 (asK .i64 at_p fun n5 => cond (decide ((n5 : Int) < 0))
 (((.bool true) : Value) = .bool β3 ∧ (Array.push h (.cells #[(.int .i64 0), (.int .i64 0)] 26 (0, 0))) = (Array.push h (.cells #[(.int .i64 0), (.int .i64 0)] 26 (0, 0))))
 (asS src_p fun s6 => asK .i64 at_p fun n7 => ((.bool (decide ((n7 : Int) > (ByteArray.size s6 : Int)))) : Value) = .bool β3 ∧ (Array.push h (.cells #[(.int .i64 0), (.int .i64 0)] 26 (0, 0))) = (Array.push h (.cells #[(.int .i64 0), (.int .i64 0)] 26 (0, 0))))) ∧
 ∀ d4 : Nat → Value,
 cond β3
 (2 = 2 ∧ (∀ u ∈ [(.int .i64 14), (.int .i64 (-1))], one u) ∧ storeK (Array.push h (.cells #[(.int .i64 0), (.int .i64 0)] 26 (0, 0))) ⟨Array.size h, 0, none⟩ [(.int .i64 14), (.int .i64 (-1))] fun h8 =>
 ∃ C9, cellsH h8 ⟨Array.size h, 0, none⟩ 2 C9 ∧ R (.tuple #[(.int .i64 0), (.int .i64 0), (.agg C9.toArray)]) h8)
 (CallX Tryd.prog ω 27 [src_p] (Array.push h (.cells #[(.int .i64 0), (.int .i64 0)] 26 (0, 0))) (fun r10 h11 =>
 CallX Tryd.prog ω 28 [r10, at_p] h11 (fun r12 h13 =>
 asT r12 fun T14 => asO T14[0]? fun v15 => asT r12 fun T16 => asO T16[1]? fun v17 => asB v17 fun b18 => ∃ J19 : Value → Hp → Prop,
 (cond (!b18)
 (asK .i64 v15 fun n23 => J19 (.int .i64 (IntKind.wrap .i64 (n23 - 1))) h13)
 (J19 v15 h13)) ∧
 ∀ n_20 (d21 : Nat → Value) (h22 : Hp), J19 n_20 h22 →
 asK .i64 n_20 fun n24 => asSl1 r10 fun a25 l26 c27 => asI n_20 fun n28 => 0 ≤ (n28 : Int) ∧ n28 < (l26 : Int) ∧ ∃ v29, cellH h22 (Addr.add a25 (Int.toNat n28 * 1)) = some v29 ∧
 asK .i64 at_p fun n30 => asK .i64 v29 fun n31 => 2 = 2 ∧ (∀ u ∈ [(.int .i64 0), (.int .i64 0)], one u) ∧ storeK h22 ⟨Array.size h, 0, none⟩ [(.int .i64 0), (.int .i64 0)] fun h32 =>
 ∃ C33, cellsH h32 ⟨Array.size h, 0, none⟩ 2 C33 ∧ R (.tuple #[(.int .i64 (IntKind.wrap .i64 (n24 + 1))), (.int .i64 (IntKind.wrap .i64 ((IntKind.wrap .i64 (n30 - n31)) + 1))), (.agg C33.toArray)]) h32) X) X))
def A_text_Place : Ann :=
 (.two .leaf (.two (.two .leaf (.two (.two .leaf .leaf) .leaf)) (.two (.two (.jb [14, 15, 16, 17, 18, 19, 20, 21] 21 .leaf) (.two (.two .leaf .leaf) .leaf)) (.two .leaf (.two .leaf (.two (.two .leaf (.join [33, 34, 8] [8] (.two .leaf .leaf))) (.two (.plan [0, 1, 2, 3, 4, 5, 6, 7, 8, 9, 10, 11, 12]) .leaf)))))))
theorem C_text_Place (ω : Amb) (src_p at_p : Value) (h : Hp) (R : Value → Hp → Prop) (X : List PanicEntry → Hp → Prop) (hk : W_text_Place ω src_p at_p h R X) : CallX Tryd.prog ω 15 [src_p, at_p] h R X :=
 callX_of (an := A_text_Place) Tryd.func15 ((show fnX Tryd.prog ω A_text_Place Tryd.f15 [src_p, at_p] h R X = W_text_Place ω src_p at_p h R X by kernel_rfl) ▸ hk)

/-- slices.SortFunc[[]pipewright/api.Fault,pipewright/api.Fault] -/
abbrev n_slices_SortFunc_sl_api_Fault_api_Fault : Nat := 16
def W_slices_SortFunc_sl_api_Fault_api_Fault (ω : Amb) (x_p cmp_p : Value) (h : Hp) (R : Value → Hp → Prop) (X : List PanicEntry → Hp → Prop) : Prop :=
 asSl x_p fun a0 l1 c2 => CallX Tryd.prog ω 30 [(.int .u64 (IntKind.wrap .u64 (l1 : Int)))] h (fun r3 h4 =>
 CallX Tryd.prog ω 29 [x_p, (.int .i64 0), (.int .i64 (l1 : Int)), r3, cmp_p] h4 (fun r5 h6 =>
 R (.tuple #[]) h6) X) X
def A_slices_SortFunc_sl_api_Fault_api_Fault : Ann :=
 (.two .leaf .leaf)
theorem C_slices_SortFunc_sl_api_Fault_api_Fault (ω : Amb) (x_p cmp_p : Value) (h : Hp) (R : Value → Hp → Prop) (X : List PanicEntry → Hp → Prop) (hk : W_slices_SortFunc_sl_api_Fault_api_Fault ω x_p cmp_p h R X) : CallX Tryd.prog ω 16 [x_p, cmp_p] h R X :=
 callX_of (an := A_slices_SortFunc_sl_api_Fault_api_Fault) Tryd.func16 ((show fnX Tryd.prog ω A_slices_SortFunc_sl_api_Fault_api_Fault Tryd.f16 [x_p, cmp_p] h R X = W_slices_SortFunc_sl_api_Fault_api_Fault ω x_p cmp_p h R X by kernel_rfl) ▸ hk)

/-- pipewright/text.Order$1 -/
abbrev n_text_Order_1 : Nat := 17
def W_text_Order_1 (ω : Amb) (a_p b_p : Value) (h : Hp) (R : Value → Hp → Prop) (X : List PanicEntry → Hp → Prop) : Prop :=
 ∃ v0, cellH (Array.push (Array.push h (.cells (Value.cells a_p) 26 (0, 0))) (.cells (Value.cells b_p) 26 (0, 0))) (Addr.add ⟨Array.size h, 0, none⟩ 1) = some v0 ∧
 ∃ v1, cellH (Array.push (Array.push h (.cells (Value.cells a_p) 26 (0, 0))) (.cells (Value.cells b_p) 26 (0, 0))) (Addr.add ⟨Array.size (Array.push h (.cells (Value.cells a_p) 26 (0, 0))), 0, none⟩ 1) = some v1 ∧
 ∃ v2, cellH (Array.push (Array.push h (.cells (Value.cells a_p) 26 (0, 0))) (.cells (Value.cells b_p) 26 (0, 0))) (Addr.add ⟨Array.size h, 0, none⟩ 0) = some v2 ∧
 ∃ v3, cellH (Array.push (Array.push h (.cells (Value.cells a_p) 26 (0, 0))) (.cells (Value.cells b_p) 26 (0, 0))) (Addr.add ⟨Array.size (Array.push h (.cells (Value.cells a_p) 26 (0, 0))), 0, none⟩ 0) = some v3 ∧
 CallX Tryd.prog ω 19 [v0, v1] (Array.push (Array.push h (.cells (Value.cells a_p) 26 (0, 0))) (.cells (Value.cells b_p) 26 (0, 0))) (fun r4 h5 =>
 cellH h5 (Addr.add ⟨Array.size (Array.push h (.cells (Value.cells a_p) 26 (0, 0))), 0, none⟩ 0) = some v3 ∧ cellH h5 (Addr.add ⟨Array.size h, 0, none⟩ 0) = some v2 ∧ CallX Tryd.prog ω 19 [v2, v3] h5 (fun r6 h7 =>
 oneK r4 (oneK r6 (CallX Tryd.prog ω 18 [(.slice (some ⟨Array.size h7, 0, none⟩) 2 2)] (Array.push h7 (.cells (List.toArray [r4, r6]) 3 (0, 0))) (fun r8 h9 =>
 R r8 h9) X))) X) X
def A_text_Order_1 : Ann :=
 (.two .leaf (.two (.plan [0, 1, 2, 3, 5, 6, 7, 8, 4, 9, 10, 11, 12]) .leaf))
theorem C_text_Order_1 (ω : Amb) (a_p b_p : Value) (h : Hp) (R : Value → Hp → Prop) (X : List PanicEntry → Hp → Prop) (hk : W_text_Order_1 ω a_p b_p h R X) : CallX Tryd.prog ω 17 [a_p, b_p] h R X :=
 callX_of (an := A_text_Order_1) Tryd.func17 ((show fnX Tryd.prog ω A_text_Order_1 Tryd.f17 [a_p, b_p] h R X = W_text_Order_1 ω a_p b_p h R X by kernel_rfl) ▸ hk)

/-- cmp.Or[int] -/
abbrev n_cmp_Or_int : Nat := 18
def W_cmp_Or_int (ω : Amb) (vals_p : Value) (h : Hp) (R : Value → Hp → Prop) (X : List PanicEntry → Hp → Prop) : Prop :=
 asSl vals_p fun a0 l1 c2 => ∃ (I3 : Value → Hp → Prop) (μ4 : Value → Hp → Nat), I3 (.int .i64 0) h ∧ ∀ t8_5 (d6 : Nat → Value) (h7 : Hp), I3 t8_5 h7 →
 asK .i64 t8_5 fun n8 => cond (decide ((n8 : Int) < (l1 : Int)))
 (asSl1 vals_p fun a9 l10 c11 => asI t8_5 fun n12 => 0 ≤ (n12 : Int) ∧ n12 < (l10 : Int) ∧ ∃ v13, cellH h7 (Addr.add a9 (Int.toNat n12 * 1)) = some v13 ∧
 asK .i64 v13 fun n14 => cond (n14 != (0 : Int))
 (R v13 h7)
 (asK .i64 t8_5 fun n15 => I3 (.int .i64 (IntKind.wrap .i64 (n15 + 1))) h7 ∧ μ4 (.int .i64 (IntKind.wrap .i64 (n15 + 1))) h7 < μ4 t8_5 h7))
 (R (.int .i64 0) h7)
def A_cmp_Or_int : Ann :=
 (.two .leaf (.two .leaf (.two (.two .leaf (.one (.loop [9, 10, 11, 5, 12, 13, 14, 15, 2, 16, 8] [8] (.two .leaf (.two (.two .leaf .leaf) (.two (.one (.two .leaf (.two .leaf (.two (.two .leaf .leaf) .leaf)))) .leaf)))))) (.two .leaf .leaf))))
theorem C_cmp_Or_int (ω : Amb) (vals_p : Value) (h : Hp) (R : Value → Hp → Prop) (X : List PanicEntry → Hp → Prop) (hk : W_cmp_Or_int ω vals_p h R X) : CallX Tryd.prog ω 18 [vals_p] h R X :=
 callX_of (an := A_cmp_Or_int) Tryd.func18 ((show fnX Tryd.prog ω A_cmp_Or_int Tryd.f18 [vals_p] h R X = W_cmp_Or_int ω vals_p h R X by kernel_rfl) ▸ hk)

/-- cmp.Compare[int] -/
abbrev n_cmp_Compare_int : Nat := 19
def W_cmp_Compare_int (ω : Amb) (x_p y_p : Value) (h : Hp) (R : Value → Hp → Prop) (X : List PanicEntry → Hp → Prop) : Prop :=
 CallX Tryd.prog ω 31 [x_p] h (fun r0 h1 =>
 CallX Tryd.prog ω 31 [y_p] h1 (fun r2 h3 =>
 asB r0 fun b4 => cond b4
 (asB r2 fun b5 => cond b5
 (R (.int .i64 0) h3)
 (R (.int .i64 (-1)) h3))
 (asB r2 fun b6 => cond b6
 (R (.int .i64 1) h3)
 (asK .i64 x_p fun n7 => asK .i64 y_p fun n8 => cond (decide ((n7 : Int) < n8))
 (R (.int .i64 (-1)) h3)
 (asK .i64 x_p fun n9 => asK .i64 y_p fun n10 => cond (decide ((n9 : Int) > n10))
 (R (.int .i64 1) h3)
 (R (.int .i64 0) h3))))) X) X
def A_cmp_Compare_int : Ann :=
 (.two .leaf (.two .leaf (.two .leaf (.two (.two .leaf (.two (.two (.two .leaf (.two (.two .leaf .leaf) .leaf)) (.two .leaf .leaf)) .leaf)) (.two (.two .leaf (.two (.two .leaf .leaf) .leaf)) (.two (.two .leaf (.two (.two .leaf .leaf) .leaf)) (.two (.two .leaf (.two (.two .leaf .leaf) .leaf)) (.two .leaf .leaf))))))))
theorem C_cmp_Compare_int (ω : Amb) (x_p y_p : Value) (h : Hp) (R : Value → Hp → Prop) (X : List PanicEntry → Hp → Prop) (hk : W_cmp_Compare_int ω x_p y_p h R X) : CallX Tryd.prog ω 19 [x_p, y_p] h R X :=
 callX_of (an := A_cmp_Compare_int) Tryd.func19 ((show fnX Tryd.prog ω A_cmp_Compare_int Tryd.f19 [x_p, y_p] h R X = W_cmp_Compare_int ω x_p y_p h R X by kernel_rfl) ▸ hk)

/-- slices.Compact[[]pipewright/api.Fault,pipewright/api.Fault] -/
abbrev n_slices_Compact_sl_api_Fault_api_Fault : Nat := 20
def W_slices_Compact_sl_api_Fault_api_Fault (ω : Amb) (s_p : Value) (h : Hp) (R : Value → Hp → Prop) (X : List PanicEntry → Hp → Prop) : Prop :=
 asSl s_p fun a0 l1 c2 => cond (decide (((l1 : Int) : Int) < 2))
 (R s_p h)
 (∃ (I3 : Value → Hp → Prop) (μ4 : Value → Hp → Nat), I3 (.int .i64 1) h ∧ ∀ k_5 (d6 : Nat → Value) (h7 : Hp), I3 k_5 h7 →
 asSl s_p fun a8 l9 c10 => asK .i64 k_5 fun n11 => cond (decide ((n11 : Int) < (l9 : Int)))
 (asSl1 s_p fun a12 l13 c14 => asI k_5 fun n15 => 0 ≤ (n15 : Int) ∧ n15 < (l13 : Int) ∧ ∃ C16, cellsH h7 (Addr.add a12 (Int.toNat n15 * 2)) 2 C16 ∧
 asK .i64 k_5 fun n17 => asSl1 s_p fun a18 l19 c20 => 0 ≤ ((IntKind.wrap .i64 (n17 - 1)) : Int) ∧ (IntKind.wrap .i64 (n17 - 1)) < (l19 : Int) ∧ ∃ C21, cellsH h7 (Addr.add a18 (Int.toNat (IntKind.wrap .i64 (n17 - 1)) * 2)) 2 C21 ∧
 asO C16.toArray[0]? fun v22 => asO C21.toArray[0]? fun v23 => asK .i64 v22 fun n24 => asK .i64 v23 fun n25 => asO C16.toArray[1]? fun v26 => asO C21.toArray[1]? fun v27 => asK .i64 v26 fun n28 => asK .i64 v27 fun n29 => cond ((n24 == (n25 : Int)) && ((n28 == (n29 : Int)) && true))
 (asSl s_p fun a30 l31 c32 => asI k_5 fun n33 => 0 ≤ (n33 : Int) ∧ (n33 : Int) ≤ (l31 : Int) ∧ (l31 : Int) ≤ (c32 : Int) ∧ ∃ (I34 : Value → Value → Hp → Prop) (μ35 : Value → Value → Hp → Nat), I34 k_5 (.int .i64 1) h7 ∧ ∀ k_36 k2_37 (d38 : Nat → Value) (h39 : Hp), I34 k_36 k2_37 h39 →
 asK .i64 k2_37 fun n40 => cond (decide ((n40 : Int) < (((Int.toNat (l31 : Int) - Int.toNat n33) : Nat) : Int)))
 (∃ J41 : Value → Hp → Prop,
 (asSl1 (.slice (if c32 = Int.toNat n33 then a30 else Option.map (fun y => Addr.add y (Int.toNat n33 * 2)) a30) (Int.toNat (l31 : Int) - Int.toNat n33) (c32 - Int.toNat n33)) fun a45 l46 c47 => asI k2_37 fun n48 => 0 ≤ (n48 : Int) ∧ n48 < (l46 : Int) ∧ ∃ C49, cellsH h39 (Addr.add a45 (Int.toNat n48 * 2)) 2 C49 ∧
 asK .i64 k2_37 fun n50 => asSl1 (.slice (if c32 = Int.toNat n33 then a30 else Option.map (fun y => Addr.add y (Int.toNat n33 * 2)) a30) (Int.toNat (l31 : Int) - Int.toNat n33) (c32 - Int.toNat n33)) fun a51 l52 c53 => 0 ≤ ((IntKind.wrap .i64 (n50 - 1)) : Int) ∧ (IntKind.wrap .i64 (n50 - 1)) < (l52 : Int) ∧ ∃ C54, cellsH h39 (Addr.add a51 (Int.toNat (IntKind.wrap .i64 (n50 - 1)) * 2)) 2 C54 ∧
 asO C49.toArray[0]? fun v55 => asO C54.toArray[0]? fun v56 => asK .i64 v55 fun n57 => asK .i64 v56 fun n58 => asO C49.toArray[1]? fun v59 => asO C54.toArray[1]? fun v60 => asK .i64 v59 fun n61 => asK .i64 v60 fun n62 => ∃ J63 : Value → Hp → Prop,
 (cond (!((n57 == (n58 : Int)) && ((n61 == (n62 : Int)) && true)))
 (asSl1 (.slice (if c32 = Int.toNat n33 then a30 else Option.map (fun y => Addr.add y (Int.toNat n33 * 2)) a30) (Int.toNat (l31 : Int) - Int.toNat n33) (c32 - Int.toNat n33)) fun a67 l68 c69 => asI k2_37 fun n70 => 0 ≤ (n70 : Int) ∧ n70 < (l68 : Int) ∧ ∃ C71, cellsH h39 (Addr.add a67 (Int.toNat n70 * 2)) 2 C71 ∧
 asSl1 s_p fun a72 l73 c74 => asI k_36 fun n75 => 0 ≤ (n75 : Int) ∧ n75 < (l73 : Int) ∧ C71.toArray.size = 2 ∧ (∀ u ∈ C71.toArray.toList, one u) ∧ storeK h39 (Addr.add a72 (Int.toNat n75 * 2)) C71.toArray.toList fun h76 =>
 asK .i64 k_36 fun n77 => J63 (.int .i64 (IntKind.wrap .i64 (n77 + 1))) h76)
 (J63 k_36 h39)) ∧
 ∀ k_64 (d65 : Nat → Value) (h66 : Hp), J63 k_64 h66 →
 J41 k_64 h66) ∧
 ∀ k_42 (d43 : Nat → Value) (h44 : Hp), J41 k_42 h44 →
 asK .i64 k2_37 fun n78 => I34 k_42 (.int .i64 (IntKind.wrap .i64 (n78 + 1))) h44 ∧ μ35 k_42 (.int .i64 (IntKind.wrap .i64 (n78 + 1))) h44 < μ35 k_36 k2_37 h39)
 (asSl s_p fun a79 l80 c81 => asI k_36 fun n82 => 0 ≤ (n82 : Int) ∧ (n82 : Int) ≤ (l80 : Int) ∧ (l80 : Int) ≤ (c81 : Int) ∧ clearK Tryd.prog 22 h39 (.slice (if c81 = Int.toNat n82 then a79 else Option.map (fun y => Addr.add y (Int.toNat n82 * 2)) a79) (Int.toNat (l80 : Int) - Int.toNat n82) (c81 - Int.toNat n82)) fun w83 h84 =>
 asSl s_p fun a85 l86 c87 => asI k_36 fun n88 => 0 ≤ (((0 : Nat) : Int) : Int) ∧ (((0 : Nat) : Int) : Int) ≤ n88 ∧ n88 ≤ (c87 : Int) ∧ R (.slice (if c87 = Int.toNat ((0 : Nat) : Int) then a85 else Option.map (fun y => Addr.add y (Int.toNat ((0 : Nat) : Int) * 2)) a85) (Int.toNat n88 - Int.toNat ((0 : Nat) : Int)) (c87 - Int.toNat ((0 : Nat) : Int))) h84))
 (asK .i64 k_5 fun n89 => I3 (.int .i64 (IntKind.wrap .i64 (n89 + 1))) h7 ∧ μ4 (.int .i64 (IntKind.wrap .i64 (n89 + 1))) h7 < μ4 k_5 h7))
 (R s_p h7))
def A_slices_Compact_sl_api_Fault_api_Fault : Ann :=
 (.two .leaf (.two (.two .leaf (.two (.two .leaf .leaf) .leaf)) (.two (.two .leaf (.one (.loop [10, 11, 12, 13, 16, 17, 18, 19, 20, 21, 22, 23, 24, 25, 26, 27, 28, 4, 5, 29, 30, 31, 32, 35, 36, 37, 38, 39, 40, 41, 42, 43, 44, 45, 46, 47, 48, 49, 50, 51, 52, 53, 3, 33, 34, 54, 55, 56, 57, 58, 59, 2, 14, 15] [3] (.two (.two .leaf (.two .leaf .leaf)) (.two (.one (.two (.plan [0, 1, 2, 3, 4, 5, 6, 7, 8, 9]) (.two (.two .leaf (.two (.two .leaf (.one (.loop [29, 30, 31, 32, 35, 36, 37, 38, 39, 40, 41, 42, 43, 44, 45, 46, 47, 48, 49, 50, 51, 52, 53, 3, 33, 34, 5] [3, 5] (.two (.two .leaf (.two .leaf .leaf)) (.two (.join [35, 36, 37, 38, 39, 40, 41, 42, 43, 44, 45, 46, 47, 48, 49, 50, 51, 52, 53, 3] [3] (.one (.two (.plan [0, 1, 2, 3, 4, 5, 6, 7, 8, 9]) (.join [45, 46, 47, 48, 49, 50, 51, 52, 53, 3] [3] (.two (.two .leaf .leaf) .leaf))))) .leaf))))) (.two .leaf (.two .leaf .leaf)))) .leaf))) .leaf))))) (.two .leaf .leaf))))
theorem C_slices_Compact_sl_api_Fault_api_Fault (ω : Amb) (s_p : Value) (h : Hp) (R : Value → Hp → Prop) (X : List PanicEntry → Hp → Prop) (hk : W_slices_Compact_sl_api_Fault_api_Fault ω s_p h R X) : CallX Tryd.prog ω 20 [s_p] h R X :=
 callX_of (an := A_slices_Compact_sl_api_Fault_api_Fault) Tryd.func20 ((show fnX Tryd.prog ω A_slices_Compact_sl_api_Fault_api_Fault Tryd.f20 [s_p] h R X = W_slices_Compact_sl_api_Fault_api_Fault ω s_p h R X by kernel_rfl) ▸ hk)

/-- pipewright/pipewrightref.Place -/
abbrev n_pipewrightref_Place : Nat := 24
def W_pipewrightref_Place (ω : Amb) (src_p at_p : Value) (h : Hp) (R : Value → Hp → Prop) (X : List PanicEntry → Hp → Prop) : Prop :=
 asS src_p fun s0 => cond (decide (((ByteArray.size s0 : Int) : Int) > 12000))
 (CallX Tryd.prog ω 25 [(.int .i64 1), (.int .i64 (-1))] (Array.push h (.cells #[(.int .i64 0), (.int .i64 0)] 26 (0, 0))) (fun r1 h2 =>
 asA r1 fun A3 => A3.size = 2 ∧ (∀ u ∈ A3.toList, one u) ∧ storeK h2 ⟨Array.size h, 0, none⟩ A3.toList fun h4 =>
 ∃ C5, cellsH h4 ⟨Array.size h, 0, none⟩ 2 C5 ∧ R (.tuple #[(.int .i64 0), (.int .i64 0), (.agg C5.toArray)]) h4) X)
 (∃ β6 : Bool,
 (asK .i64 at_p fun n8 => cond (decide ((n8 : Int) < 0))
 (((.bool true) : Value) = .bool β6 ∧ (Array.push h (.cells #[(.int .i64 0), (.int .i64 0)] 26 (0, 0))) = (Array.push h (.cells #[(.int .i64 0), (.int .i64 0)] 26 (0, 0))))
 (asS src_p fun s9 => asK .i64 at_p fun n10 => ((.bool (decide ((n10 : Int) > (ByteArray.size s9 : Int)))) : Value) = .bool β6 ∧ (Array.push h (.cells #[(.int .i64 0), (.int .i64 0)] 26 (0, 0))) = (Array.push h (.cells #[(.int .i64 0), (.int .i64 0)] 26 (0, 0))))) ∧
 ∀ d7 : Nat → Value,
 cond β6
 (CallX Tryd.prog ω 25 [(.int .i64 14), (.int .i64 (-1))] (Array.push h (.cells #[(.int .i64 0), (.int .i64 0)] 26 (0, 0))) (fun r11 h12 =>
 asA r11 fun A13 => A13.size = 2 ∧ (∀ u ∈ A13.toList, one u) ∧ storeK h12 ⟨Array.size h, 0, none⟩ A13.toList fun h14 =>
 ∃ C15, cellsH h14 ⟨Array.size h, 0, none⟩ 2 C15 ∧ R (.tuple #[(.int .i64 0), (.int .i64 0), (.agg C15.toArray)]) h14) X)
 (∃ (I16 : Value → Value → Value → Hp → Prop) (μ17 : Value → Value → Value → Hp → Nat), I16 (.int .i64 1) (.int .i64 1) (.int .i64 0) (Array.push h (.cells #[(.int .i64 0), (.int .i64 0)] 26 (0, 0))) ∧ ∀ col_18 line_19 i_20 (d21 : Nat → Value) (h22 : Hp), I16 col_18 line_19 i_20 h22 →
 asK .i64 i_20 fun n23 => asK .i64 at_p fun n24 => cond (decide ((n23 : Int) < n24))
 (∃ J25 : Value → Value → Hp → Prop,
 (asK .i64 col_18 fun n30 => asS src_p fun s31 => asI i_20 fun n32 => 0 ≤ (n32 : Int) ∧ n32 < (ByteArray.size s31 : Int) ∧ ∃ J33 : Value → Value → Hp → Prop,
 (cond ((byteAt s31 n32) == (10 : Int))
 (asK .i64 line_19 fun n38 => J33 (.int .i64 (IntKind.wrap .i64 (n38 + 1))) (.int .i64 1) h22)
 (J33 line_19 (.int .i64 (IntKind.wrap .i64 (n30 + 1))) h22)) ∧
 ∀ line_34 col_35 (d36 : Nat → Value) (h37 : Hp), J33 line_34 col_35 h37 →
 J25 col_35 line_34 h37) ∧
 ∀ col_26 line_27 (d28 : Nat → Value) (h29 : Hp), J25 col_26 line_27 h29 →
 asK .i64 i_20 fun n39 => I16 col_26 line_27 (.int .i64 (IntKind.wrap .i64 (n39 + 1))) h29 ∧ μ17 col_26 line_27 (.int .i64 (IntKind.wrap .i64 (n39 + 1))) h29 < μ17 col_18 line_19 i_20 h22)
 (2 = 2 ∧ (∀ u ∈ [(.int .i64 0), (.int .i64 0)], one u) ∧ storeK h22 ⟨Array.size h, 0, none⟩ [(.int .i64 0), (.int .i64 0)] fun h40 =>
 ∃ C41, cellsH h40 ⟨Array.size h, 0, none⟩ 2 C41 ∧ R (.tuple #[line_19, col_18, (.agg C41.toArray)]) h40)))
def A_pipewrightref_Place : Ann :=
 (.two .leaf (.two (.two .leaf (.two (.two .leaf .leaf) .leaf)) (.two (.two (.jb [14, 15, 16, 17, 18, 19, 20, 21] 21 .leaf) (.two (.two .leaf .leaf) .leaf)) (.two .leaf (.two (.two .leaf (.one (.loop [23, 24, 25, 28, 29, 8, 30, 31, 32, 33, 34, 35, 7, 26, 27, 9] [8, 7, 9] (.two (.two .leaf (.two .leaf .leaf)) (.two (.join [28, 29, 8, 30, 31, 32, 33, 34, 35, 7] [8, 7] (.one (.two .leaf (.two .leaf (.join [34, 35, 7, 8] [7, 8] (.two (.two .leaf .leaf) .leaf)))))) .leaf))))) (.two .leaf .leaf))))))
theorem C_pipewrightref_Place (ω : Amb) (src_p at_p : Value) (h : Hp) (R : Value → Hp → Prop) (X : List PanicEntry → Hp → Prop) (hk : W_pipewrightref_Place ω src_p at_p h R X) : CallX Tryd.prog ω 24 [src_p, at_p] h R X :=
 callX_of (an := A_pipewrightref_Place) Tryd.func24 ((show fnX Tryd.prog ω A_pipewrightref_Place Tryd.f24 [src_p, at_p] h R X = W_pipewrightref_Place ω src_p at_p h R X by kernel_rfl) ▸ hk)

/-- pipewright/pipewrightref.F -/
abbrev n_pipewrightref_F : Nat := 25
def W_pipewrightref_F (ω : Amb) (code_p at_p : Value) (h : Hp) (R : Value → Hp → Prop) (X : List PanicEntry → Hp → Prop) : Prop :=
 oneK code_p (oneK at_p (2 = 2 ∧ (∀ u ∈ [code_p, at_p], one u) ∧ storeK (Array.push h (.cells #[(.int .i64 0), (.int .i64 0)] 26 (0, 0))) ⟨Array.size h, 0, none⟩ [code_p, at_p] fun h0 =>
 ∃ C1, cellsH h0 ⟨Array.size h, 0, none⟩ 2 C1 ∧ R (.agg C1.toArray) h0))
def A_pipewrightref_F : Ann :=
 (.two .leaf (.two .leaf .leaf))
theorem C_pipewrightref_F (ω : Amb) (code_p at_p : Value) (h : Hp) (R : Value → Hp → Prop) (X : List PanicEntry → Hp → Prop) (hk : W_pipewrightref_F ω code_p at_p h R X) : CallX Tryd.prog ω 25 [code_p, at_p] h R X :=
 callX_of (an := A_pipewrightref_F) Tryd.func25 ((show fnX Tryd.prog ω A_pipewrightref_F Tryd.f25 [code_p, at_p] h R X = W_pipewrightref_F ω code_p at_p h R X by kernel_rfl) ▸ hk)

/-- strings.Fields -/
abbrev n_strings_Fields : Nat := 26
def W_strings_Fields (ω : Amb) (s_p : Value) (h : Hp) (R : Value → Hp → Prop) (X : List PanicEntry → Hp → Prop) : Prop :=
 ∃ (I0 : Value → Value → Value → Value → Hp → Prop) (μ1 : Value → Value → Value → Value → Hp → Nat), I0 (.int .u8 0) (.int .i64 0) (.int .i64 1) (.int .i64 0) h ∧ ∀ setBits_2 n_3 wasSpace_4 i_5 (d6 : Nat → Value) (h7 : Hp), I0 setBits_2 n_3 wasSpace_4 i_5 h7 →
 asS s_p fun s8 => asK .i64 i_5 fun n9 => cond (decide ((n9 : Int) < (ByteArray.size s8 : Int)))
 (asS s_p fun s10 => asI i_5 fun n11 => 0 ≤ (n11 : Int) ∧ n11 < (ByteArray.size s10 : Int) ∧ asK .u8 setBits_2 fun n12 => 0 ≤ ((byteAt s10 n11) : Int) ∧ (byteAt s10 n11) < ((256 : Nat) : Int) ∧ ∃ v13, cellH h7 (Addr.add ⟨0, 0, none⟩ (Int.toNat (byteAt s10 n11) * 1)) = some v13 ∧
 asI v13 fun n14 => asK .i64 wasSpace_4 fun n15 => asK .i64 n_3 fun n16 => asK .i64 i_5 fun n17 => I0 (.int .u8 (bitI .u8 .or n12 (byteAt s10 n11))) (.int .i64 (IntKind.wrap .i64 (n16 + (bitI .i64 .and n15 (bitI .i64 .xor (if IntKind.signed .i64 then -1 else IntKind.max .i64) (IntKind.wrap .i64 n14)))))) (.int .i64 (IntKind.wrap .i64 n14)) (.int .i64 (IntKind.wrap .i64 (n17 + 1))) h7 ∧ μ1 (.int .u8 (bitI .u8 .or n12 (byteAt s10 n11))) (.int .i64 (IntKind.wrap .i64 (n16 + (bitI .i64 .and n15 (bitI .i64 .xor (if IntKind.signed .i64 then -1 else IntKind.max .i64) (IntKind.wrap .i64 n14)))))) (.int .i64 (IntKind.wrap .i64 n14)) (.int .i64 (IntKind.wrap .i64 (n17 + 1))) h7 < μ1 setBits_2 n_3 wasSpace_4 i_5 h7)
 (asK .u8 setBits_2 fun n18 => cond (decide ((n18 : Int) ≥ 128))
 (CallX Tryd.prog ω 34 [s_p, (.func (.func 35) #[] #[])] h7 (fun r19 h20 =>
 R r19 h20) X)
 (makeK Tryd.prog 50 h7 n_3 n_3 fun v21 h22 =>
 ∃ (I23 : Value → Hp → Prop) (μ24 : Value → Hp → Nat), I23 (.int .i64 0) h22 ∧ ∀ i_25 (d26 : Nat → Value) (h27 : Hp), I23 i_25 h27 →
 ∃ β28 : Bool,
 (asS s_p fun s30 => asK .i64 i_25 fun n31 => cond (decide ((n31 : Int) < (ByteArray.size s30 : Int)))
 (asS s_p fun s32 => asI i_25 fun n33 => 0 ≤ (n33 : Int) ∧ n33 < (ByteArray.size s32 : Int) ∧ 0 ≤ ((byteAt s32 n33) : Int) ∧ (byteAt s32 n33) < ((256 : Nat) : Int) ∧ ∃ v34, cellH h27 (Addr.add ⟨0, 0, none⟩ (Int.toNat (byteAt s32 n33) * 1)) = some v34 ∧
 asK .u8 v34 fun n35 => ((.bool (n35 != (0 : Int))) : Value) = .bool β28 ∧ h27 = h27)
 (((.bool false) : Value) = .bool β28 ∧ h27 = h27)) ∧
 ∀ d29 : Nat → Value,
 cond β28
 (asK .i64 i_25 fun n36 => I23 (.int .i64 (IntKind.wrap .i64 (n36 + 1))) h27 ∧ μ24 (.int .i64 (IntKind.wrap .i64 (n36 + 1))) h27 < μ24 i_25 h27)
 (∃ (I37 : Value → Value → Value → Hp → Prop) (μ38 : Value → Value → Value → Hp → Nat), I37 i_25 (.int .i64 0) i_25 h27 ∧ ∀ i_39 na_40 fieldStart_41 (d42 : Nat → Value) (h43 : Hp), I37 i_39 na_40 fieldStart_41 h43 →
 asS s_p fun s44 => asK .i64 i_39 fun n45 => cond (decide ((n45 : Int) < (ByteArray.size s44 : Int)))
 (∃ J46 : Value → Value → Value → Hp → Prop,
 (asS s_p fun s52 => asI i_39 fun n53 => 0 ≤ (n53 : Int) ∧ n53 < (ByteArray.size s52 : Int) ∧ 0 ≤ ((byteAt s52 n53) : Int) ∧ (byteAt s52 n53) < ((256 : Nat) : Int) ∧ ∃ v54, cellH h43 (Addr.add ⟨0, 0, none⟩ (Int.toNat (byteAt s52 n53) * 1)) = some v54 ∧
 asK .u8 v54 fun n55 => cond (n55 == (0 : Int))
 (asK .i64 i_39 fun n56 => J46 (.int .i64 (IntKind.wrap .i64 (n56 + 1))) na_40 fieldStart_41 h43)
 (asS s_p fun s57 => asI fieldStart_41 fun n58 => asI i_39 fun n59 => 0 ≤ (n58 : Int) ∧ (n58 : Int) ≤ n59 ∧ n59 ≤ (ByteArray.size s57 : Int) ∧ asSl1 v21 fun a60 l61 c62 => asI na_40 fun n63 => 0 ≤ (n63 : Int) ∧ n63 < (l61 : Int) ∧ storeK1 h43 (Addr.add a60 (Int.toNat n63 * 1)) (.string (ByteArray.extract s57 (Int.toNat n58) (Int.toNat n59))) fun h64 =>
 asK .i64 na_40 fun n65 => asK .i64 i_39 fun n66 => ∃ (I67 : Value → Hp → Prop) (μ68 : Value → Hp → Nat), I67 (.int .i64 (IntKind.wrap .i64 (n66 + 1))) h64 ∧ ∀ i_69 (d70 : Nat → Value) (h71 : Hp), I67 i_69 h71 →
 ∃ β72 : Bool,
 (asS s_p fun s74 => asK .i64 i_69 fun n75 => cond (decide ((n75 : Int) < (ByteArray.size s74 : Int)))
 (asS s_p fun s76 => asI i_69 fun n77 => 0 ≤ (n77 : Int) ∧ n77 < (ByteArray.size s76 : Int) ∧ 0 ≤ ((byteAt s76 n77) : Int) ∧ (byteAt s76 n77) < ((256 : Nat) : Int) ∧ ∃ v78, cellH h71 (Addr.add ⟨0, 0, none⟩ (Int.toNat (byteAt s76 n77) * 1)) = some v78 ∧
 asK .u8 v78 fun n79 => ((.bool (n79 != (0 : Int))) : Value) = .bool β72 ∧ h71 = h71)
 (((.bool false) : Value) = .bool β72 ∧ h71 = h71)) ∧
 ∀ d73 : Nat → Value,
 cond β72
 (asK .i64 i_69 fun n80 => I67 (.int .i64 (IntKind.wrap .i64 (n80 + 1))) h71 ∧ μ68 (.int .i64 (IntKind.wrap .i64 (n80 + 1))) h71 < μ68 i_69 h71)
 (J46 i_69 (.int .i64 (IntKind.wrap .i64 (n65 + 1))) i_69 h71))) ∧
 ∀ i_47 na_48 fieldStart_49 (d50 : Nat → Value) (h51 : Hp), J46 i_47 na_48 fieldStart_49 h51 →
 I37 i_47 na_48 fieldStart_49 h51 ∧ μ38 i_47 na_48 fieldStart_49 h51 < μ38 i_39 na_40 fieldStart_41 h43)
 (asS s_p fun s81 => asK .i64 fieldStart_41 fun n82 => ∃ J83 : Hp → Prop,
 (cond (decide ((n82 : Int) < (ByteArray.size s81 : Int)))
 (asS s_p fun s86 => asI fieldStart_41 fun n87 => 0 ≤ (n87 : Int) ∧ (n87 : Int) ≤ (ByteArray.size s86 : Int) ∧ (ByteArray.size s86 : Int) ≤ (ByteArray.size s86 : Int) ∧ asSl1 v21 fun a88 l89 c90 => asI na_40 fun n91 => 0 ≤ (n91 : Int) ∧ n91 < (l89 : Int) ∧ storeK1 h43 (Addr.add a88 (Int.toNat n91 * 1)) (.string (ByteArray.extract s86 (Int.toNat n87) (Int.toNat (ByteArray.size s86 : Int)))) fun h92 =>
 J83 h92)
 (J83 h43)) ∧
 ∀  (d84 : Nat → Value) (h85 : Hp), J83 h85 →
 R v21 h85))))
def A_strings_Fields : Ann :=
 (.two .leaf (.two .leaf (.two .leaf (.two .leaf (.two (.two .leaf (.one (.loop [13, 14, 15, 16, 19, 20, 21, 7, 22, 23, 24, 5, 25, 26, 27, 28, 8, 29, 30, 31, 32, 33, 34, 3, 35, 4, 17, 18, 6] [5, 3, 4, 6] (.two (.two .leaf (.two .leaf .leaf)) (.two (.one (.two .leaf (.two .leaf (.two .leaf (.two .leaf .leaf))))) .leaf))))) (.two (.two .leaf (.two (.two .leaf .leaf) .leaf)) (.two .leaf (.two .leaf (.two .leaf (.two .leaf (.two (.one (.loop [42, 43, 44, 45, 46, 47, 48, 49, 50, 51, 52, 53, 54, 55, 12] [12] (.two (.two (.jb [42, 43, 44, 45, 46, 47, 48, 49, 50, 51, 52, 53] 53 .leaf) (.two .leaf .leaf)) (.one .leaf)))) (.two .leaf (.two (.one (.loop [57, 58, 59, 60, 61, 62, 63, 64, 65, 66, 67, 68, 12, 69, 70, 71, 72, 73, 74, 75, 76, 77, 10, 78, 79, 80, 81, 82, 83, 84, 85, 86, 87, 88, 89, 90, 91, 92, 93, 94, 11] [12, 10, 11] (.two (.two .leaf (.two .leaf .leaf)) (.join [61, 62, 63, 64, 65, 66, 67, 68, 12, 69, 70, 71, 72, 73, 74, 75, 76, 77, 10, 78, 79, 80, 81, 82, 83, 84, 85, 86, 87, 88, 89, 90, 91, 92, 93, 94, 11] [12, 10, 11] (.one (.two (.two .leaf (.two (.two .leaf .leaf) .leaf)) (.two .leaf (.two .leaf (.two .leaf (.two (.one (.loop [80, 81, 82, 83, 84, 85, 86, 87, 88, 89, 90, 91, 92, 93, 12] [12] (.two (.two (.jb [80, 81, 82, 83, 84, 85, 86, 87, 88, 89, 90, 91] 91 .leaf) (.two .leaf .leaf)) (.one .leaf)))) .leaf)))))))))) (.two (.two .leaf (.join [99, 100, 101, 102, 103, 104] [] (.two .leaf .leaf))) (.two .leaf .leaf)))))))))))))))
theorem C_strings_Fields (ω : Amb) (s_p : Value) (h : Hp) (R : Value → Hp → Prop) (X : List PanicEntry → Hp → Prop) (hk : W_strings_Fields ω s_p h R X) : CallX Tryd.prog ω 26 [s_p] h R X :=
 callX_of (an := A_strings_Fields) Tryd.func26 ((show fnX Tryd.prog ω A_strings_Fields Tryd.f26 [s_p] h R X = W_strings_Fields ω s_p h R X by kernel_rfl) ▸ hk)

/-- pipewright/text.Lines -/
abbrev n_text_Lines : Nat := 27
def W_text_Lines (ω : Amb) (src_p : Value) (h : Hp) (R : Value → Hp → Prop) (X : List PanicEntry → Hp → Prop) : Prop :=
 asS src_p fun s0 => cond (decide (((ByteArray.size s0 : Int) : Int) > 12000))
 (R (.slice none 0 0) h)
 (asS src_p fun s1 => ∃ (I2 : Value → Value → Hp → Prop) (μ3 : Value → Value → Hp → Nat), I2 (.slice (some ⟨Array.size h, 0, none⟩) 1 1) (.int .i64 0) (Array.push h (.cells (List.toArray [(.int .i64 0)]) 3 (0, 0))) ∧ ∀ out_4 t11_5 (d6 : Nat → Value) (h7 : Hp), I2 out_4 t11_5 h7 →
 asK .i64 t11_5 fun n8 => cond (decide ((n8 : Int) < (ByteArray.size s1 : Int)))
 (∃ J9 : Value → Hp → Prop,
 (asS src_p fun s13 => asI t11_5 fun n14 => 0 ≤ (n14 : Int) ∧ n14 < (ByteArray.size s13 : Int) ∧ ∃ J15 : Value → Hp → Prop,
 (cond ((byteAt s13 n14) == (10 : Int))
 (asK .i64 t11_5 fun n19 => appK Tryd.prog 52 (Array.push h7 (.cells (List.toArray [(.int .i64 (IntKind.wrap .i64 (n19 + 1)))]) 3 (0, 0))) out_4 (.slice (some ⟨Array.size h7, 0, none⟩) 1 1) fun w20 h21 =>
 J15 w20 h21)
 (J15 out_4 h7)) ∧
 ∀ out_16 (d17 : Nat → Value) (h18 : Hp), J15 out_16 h18 →
 J9 out_16 h18) ∧
 ∀ out_10 (d11 : Nat → Value) (h12 : Hp), J9 out_10 h12 →
 asK .i64 t11_5 fun n22 => I2 out_10 (.int .i64 (IntKind.wrap .i64 (n22 + 1))) h12 ∧ μ3 out_10 (.int .i64 (IntKind.wrap .i64 (n22 + 1))) h12 < μ3 out_4 t11_5 h7)
 (R out_4 h7))
def A_text_Lines : Ann :=
 (.two .leaf (.two (.two .leaf (.two (.two .leaf .leaf) .leaf)) (.two .leaf (.two (.two .leaf (.one (.loop [12, 13, 4, 14, 15, 16, 17, 18, 19, 20, 21, 22, 3, 23, 11] [3, 11] (.two .leaf (.two (.two .leaf .leaf) (.two (.join [13, 4, 14, 15, 16, 17, 18, 19, 20, 21, 22, 3] [3] (.one (.two .leaf (.two .leaf (.join [18, 19, 20, 21, 22, 3] [3] (.two .leaf .leaf)))))) .leaf)))))) (.two .leaf .leaf)))))
theorem C_text_Lines (ω : Amb) (src_p : Value) (h : Hp) (R : Value → Hp → Prop) (X : List PanicEntry → Hp → Prop) (hk : W_text_Lines ω src_p h R X) : CallX Tryd.prog ω 27 [src_p] h R X :=
 callX_of (an := A_text_Lines) Tryd.func27 ((show fnX Tryd.prog ω A_text_Lines Tryd.f27 [src_p] h R X = W_text_Lines ω src_p h R X by kernel_rfl) ▸ hk)

/-- slices.BinarySearch[[]int,int] -/
abbrev n_slices_BinarySearch_sl_int_int : Nat := 28
def W_slices_BinarySearch_sl_int_int (ω : Amb) (x_p target_p : Value) (h : Hp) (R : Value → Hp → Prop) (X : List PanicEntry → Hp → Prop) : Prop :=
 asSl x_p fun a0 l1 c2 => ∃ (I3 : Value → Value → Hp → Prop) (μ4 : Value → Value → Hp → Nat), I3 (.int .i64 0) (.int .i64 (l1 : Int)) h ∧ ∀ i_5 j_6 (d7 : Nat → Value) (h8 : Hp), I3 i_5 j_6 h8 →
 asK .i64 i_5 fun n9 => asK .i64 j_6 fun n10 => cond (decide ((n9 : Int) < n10))
 (∃ J11 : Value → Value → Hp → Prop,
 (asK .i64 i_5 fun n16 => asK .i64 j_6 fun n17 => 0 ≤ (1 : Int) ∧ asSl1 x_p fun a18 l19 c20 => 0 ≤ ((IntKind.wrap .i64 (shI .u64 .shr (IntKind.wrap .u64 (IntKind.wrap .i64 (n16 + n17))) 1)) : Int) ∧ (IntKind.wrap .i64 (shI .u64 .shr (IntKind.wrap .u64 (IntKind.wrap .i64 (n16 + n17))) 1)) < (l19 : Int) ∧ ∃ v21, cellH h8 (Addr.add a18 (Int.toNat (IntKind.wrap .i64 (shI .u64 .shr (IntKind.wrap .u64 (IntKind.wrap .i64 (n16 + n17))) 1)) * 1)) = some v21 ∧
 CallX Tryd.prog ω 36 [v21, target_p] h8 (fun r22 h23 =>
 ∃ J24 : Value → Value → Hp → Prop,
 (asB r22 fun b29 => cond b29
 (J24 (.int .i64 (IntKind.wrap .i64 ((IntKind.wrap .i64 (shI .u64 .shr (IntKind.wrap .u64 (IntKind.wrap .i64 (n16 + n17))) 1)) + 1))) j_6 h23)
 (J24 i_5 (.int .i64 (IntKind.wrap .i64 (shI .u64 .shr (IntKind.wrap .u64 (IntKind.wrap .i64 (n16 + n17))) 1))) h23)) ∧
 ∀ i_25 j_26 (d27 : Nat → Value) (h28 : Hp), J24 i_25 j_26 h28 →
 J11 i_25 j_26 h28) X) ∧
 ∀ i_12 j_13 (d14 : Nat → Value) (h15 : Hp), J11 i_12 j_13 h15 →
 I3 i_12 j_13 h15 ∧ μ4 i_12 j_13 h15 < μ4 i_5 j_6 h8)
 (∃ J30 : Value → Value → Hp → Prop,
 (asK .i64 i_5 fun n35 => cond (decide ((n35 : Int) < (l1 : Int)))
 (asSl1 x_p fun a36 l37 c38 => asI i_5 fun n39 => 0 ≤ (n39 : Int) ∧ n39 < (l37 : Int) ∧ ∃ v40, cellH h8 (Addr.add a36 (Int.toNat n39 * 1)) = some v40 ∧
 asK .i64 v40 fun n41 => asK .i64 target_p fun n42 => cond (n41 == (n42 : Int))
 (J30 i_5 (.bool true) h8)
 (asSl1 x_p fun a43 l44 c45 => asI i_5 fun n46 => 0 ≤ (n46 : Int) ∧ n46 < (l44 : Int) ∧ ∃ v47, cellH h8 (Addr.add a43 (Int.toNat n46 * 1)) = some v47 ∧
 CallX Tryd.prog ω 37 [v47] h8 (fun r48 h49 =>
 asB r48 fun b50 => cond b50
 (CallX Tryd.prog ω 37 [target_p] h49 (fun r51 h52 =>
 J30 i_5 r51 h52) X)
 (J30 i_5 (.bool false) h49)) X))
 (J30 i_5 (.bool false) h8)) ∧
 ∀ t4_31 t5_32 (d33 : Nat → Value) (h34 : Hp), J30 t4_31 t5_32 h34 →
 R (.tuple #[t4_31, t5_32]) h34)
def A_slices_BinarySearch_sl_int_int : Ann :=
 (.two .leaf (.two .leaf (.two .leaf (.two (.one (.loop [13, 14, 15, 16, 17, 18, 19, 20, 21, 9, 22, 23, 24, 25, 26, 27, 28, 29, 7, 30, 8] [7, 8] (.two (.two .leaf (.two .leaf .leaf)) (.join [16, 17, 18, 19, 20, 21, 9, 22, 23, 24, 25, 26, 27, 28, 29, 7, 30, 8] [7, 8] (.one (.two .leaf (.two .leaf (.join [28, 29, 7, 30, 8] [7, 8] (.two .leaf .leaf))))))))) (.two (.join [31, 32, 33, 34, 35, 36, 37, 38, 39, 40, 41, 42, 43, 44, 45, 46, 47, 48, 49, 50, 51, 52, 53, 4, 5] [4, 5] .leaf) .leaf)))))
theorem C_slices_BinarySearch_sl_int_int (ω : Amb) (x_p target_p : Value) (h : Hp) (R : Value → Hp → Prop) (X : List PanicEntry → Hp → Prop) (hk : W_slices_BinarySearch_sl_int_int ω x_p target_p h R X) : CallX Tryd.prog ω 28 [x_p, target_p] h R X :=
 callX_of (an := A_slices_BinarySearch_sl_int_int) Tryd.func28 ((show fnX Tryd.prog ω A_slices_BinarySearch_sl_int_int Tryd.f28 [x_p, target_p] h R X = W_slices_BinarySearch_sl_int_int ω x_p target_p h R X by kernel_rfl) ▸ hk)

/-- cmp.isNaN[int] -/
abbrev n_cmp_isNaN_int : Nat := 31
def W_cmp_isNaN_int (ω : Amb) (x_p : Value) (h : Hp) (R : Value → Hp → Prop) (X : List PanicEntry → Hp → Prop) : Prop :=
 asK .i64 x_p fun n0 => asK .i64 x_p fun n1 => R (.bool (n0 != (n1 : Int))) h
def A_cmp_isNaN_int : Ann :=
 (.two .leaf (.two .leaf .leaf))
theorem C_cmp_isNaN_int (ω : Amb) (x_p : Value) (h : Hp) (R : Value → Hp → Prop) (X : List PanicEntry → Hp → Prop) (hk : W_cmp_isNaN_int ω x_p h R X) : CallX Tryd.prog ω 31 [x_p] h R X :=
 callX_of (an := A_cmp_isNaN_int) Tryd.func31 ((show fnX Tryd.prog ω A_cmp_isNaN_int Tryd.f31 [x_p] h R X = W_cmp_isNaN_int ω x_p h R X by kernel_rfl) ▸ hk)

/-- cmp.Less[int] -/
abbrev n_cmp_Less_int : Nat := 36
def W_cmp_Less_int (ω : Amb) (x_p y_p : Value) (h : Hp) (R : Value → Hp → Prop) (X : List PanicEntry → Hp → Prop) : Prop :=
 ∃ J0 : Value → Hp → Prop,
 (CallX Tryd.prog ω 31 [x_p] h (fun r4 h5 =>
 asB r4 fun b6 => cond b6
 (CallX Tryd.prog ω 31 [y_p] h5 (fun r7 h8 =>
 asB r7 fun b9 => cond (!b9)
 (J0 (.bool true) h8)
 (asK .i64 x_p fun n10 => asK .i64 y_p fun n11 => J0 (.bool (decide ((n10 : Int) < n11))) h8)) X)
 (asK .i64 x_p fun n12 => asK .i64 y_p fun n13 => J0 (.bool (decide ((n12 : Int) < n13))) h5)) X) ∧
 ∀ t4_1 (d2 : Nat → Value) (h3 : Hp), J0 t4_1 h3 →
 R t4_1 h3
def A_cmp_Less_int : Ann :=
 (.two .leaf (.two (.join [5, 6, 7, 8, 9, 10, 11, 12, 13, 14, 15, 16, 4] [4] .leaf) .leaf))
theorem C_cmp_Less_int (ω : Amb) (x_p y_p : Value) (h : Hp) (R : Value → Hp → Prop) (X : List PanicEntry → Hp → Prop) (hk : W_cmp_Less_int ω x_p y_p h R X) : CallX Tryd.prog ω 36 [x_p, y_p] h R X :=
 callX_of (an := A_cmp_Less_int) Tryd.func36 ((show fnX Tryd.prog ω A_cmp_Less_int Tryd.f36 [x_p, y_p] h R X = W_cmp_Less_int ω x_p y_p h R X by kernel_rfl) ▸ hk)

/-- slices.isNaN[int] -/
abbrev n_slices_isNaN_int : Nat := 37
def W_slices_isNaN_int (ω : Amb) (x_p : Value) (h : Hp) (R : Value → Hp → Prop) (X : List PanicEntry → Hp → Prop) : Prop :=
 asK .i64 x_p fun n0 => asK .i64 x_p fun n1 => R (.bool (n0 != (n1 : Int))) h
def A_slices_isNaN_int : Ann :=
 (.two .leaf (.two .leaf .leaf))
theorem C_slices_isNaN_int (ω : Amb) (x_p : Value) (h : Hp) (R : Value → Hp → Prop) (X : List PanicEntry → Hp → Prop) (hk : W_slices_isNaN_int ω x_p h R X) : CallX Tryd.prog ω 37 [x_p] h R X :=
 callX_of (an := A_slices_isNaN_int) Tryd.func37 ((show fnX Tryd.prog ω A_slices_isNaN_int Tryd.f37 [x_p] h R X = W_slices_isNaN_int ω x_p h R X by kernel_rfl) ▸ hk)

end Go.Proofs.YtfpedcmempljlaaDoor.Sx
