/- Formulas of the functions' texts, written by a program of ours; each is checked by the kernel. -/
import Derived.Test.YtkeeboomikkojaaGreatDoorSxCore
import Derived.KernelRfl
import Derived.Test.YtkeeboomikkojaaGreatDoorProg
set_option linter.unusedVariables false
set_option maxRecDepth 100000
namespace Go.Proofs.YtkeeboomikkojaaGreatDoor.Sx
open Go Go.Sx Go.Proofs

/-- pipewright/pipewrightref.Great -/
abbrev n_pipewrightref_Great : Nat := 9
def W_pipewrightref_Great (ω : Amb) (p_p : Value) (h : Hp) (R : Value → Hp → Prop) (X : List PanicEntry → Hp → Prop) : Prop :=
 ∃ v0, cellH (Array.push h (.cells (Value.cells p_p) 24 (0, 0))) (Addr.add ⟨Array.size h, 0, none⟩ 0) = some v0 ∧
 asSl v0 fun a1 l2 c3 => cond (decide (((l2 : Int) : Int) > 100))
 (R (.bool true) (Array.push h (.cells (Value.cells p_p) 24 (0, 0))))
 (∃ (I4 : Value → Value → Hp → Prop) (μ5 : Value → Value → Hp → Nat), I4 (.int .i64 8000) (.int .i64 0) (Array.push h (.cells (Value.cells p_p) 24 (0, 0))) ∧ ∀ left_6 i_7 (d8 : Nat → Value) (h9 : Hp), I4 left_6 i_7 h9 →
 ∃ v10, cellH h9 (Addr.add ⟨Array.size h, 0, none⟩ 0) = some v10 ∧
 asSl v10 fun a11 l12 c13 => asK .i64 i_7 fun n14 => cond (decide ((n14 : Int) < (l12 : Int)))
 (∃ v15, cellH h9 (Addr.add ⟨Array.size h, 0, none⟩ 0) = some v15 ∧
 asSl1 v15 fun a16 l17 c18 => asI i_7 fun n19 => 0 ≤ (n19 : Int) ∧ n19 < (l17 : Int) ∧ ∃ C20, cellsH h9 (Addr.add a16 (Int.toNat n19 * 4)) 4 C20 ∧
 C20.toArray.size = 4 ∧ (∀ u ∈ C20.toArray.toList, one u) ∧ storeK (Array.push h9 (.cells #[(.string ⟨#[]⟩), (.int .i64 0), (.slice none 0 0), (.slice none 0 0)] 41 (0, 0))) ⟨Array.size h9, 0, none⟩ C20.toArray.toList fun h21 =>
 ∃ β22 : Bool,
 (∃ v24, cellH h21 (Addr.add ⟨Array.size h9, 0, none⟩ 0) = some v24 ∧
 asS v24 fun s25 => cond (decide (((ByteArray.size s25 : Int) : Int) > 100))
 (((.bool true) : Value) = .bool β22 ∧ h21 = h21)
 (∃ v26, cellH h21 (Addr.add ⟨Array.size h9, 0, none⟩ 2) = some v26 ∧
 asSl v26 fun a27 l28 c29 => ((.bool (decide (((l28 : Int) : Int) > 100))) : Value) = .bool β22 ∧ h21 = h21)) ∧
 ∀ d23 : Nat → Value,
 cond β22
 (R (.bool true) h21)
 (∃ (I30 : Value → Hp → Prop) (μ31 : Value → Hp → Nat), I30 (.int .i64 0) h21 ∧ ∀ k_32 (d33 : Nat → Value) (h34 : Hp), I30 k_32 h34 →
 ∃ v35, cellH h34 (Addr.add ⟨Array.size h9, 0, none⟩ 2) = some v35 ∧
 asSl v35 fun a36 l37 c38 => asK .i64 k_32 fun n39 => cond (decide ((n39 : Int) < (l37 : Int)))
 (∃ β40 : Bool,
 (∃ v42, cellH h34 (Addr.add ⟨Array.size h9, 0, none⟩ 2) = some v42 ∧
 asSl1 v42 fun a43 l44 c45 => asI k_32 fun n46 => 0 ≤ (n46 : Int) ∧ n46 < (l44 : Int) ∧ ∃ v47, cellH h34 (Addr.add (Addr.add a43 (Int.toNat n46 * 2)) 0) = some v47 ∧
 asS v47 fun s48 => cond (decide (((ByteArray.size s48 : Int) : Int) > 100))
 (((.bool true) : Value) = .bool β40 ∧ h34 = h34)
 (∃ v49, cellH h34 (Addr.add ⟨Array.size h9, 0, none⟩ 2) = some v49 ∧
 asSl1 v49 fun a50 l51 c52 => asI k_32 fun n53 => 0 ≤ (n53 : Int) ∧ n53 < (l51 : Int) ∧ ∃ v54, cellH h34 (Addr.add (Addr.add a50 (Int.toNat n53 * 2)) 1) = some v54 ∧
 asS v54 fun s55 => ((.bool (decide (((ByteArray.size s55 : Int) : Int) > 100))) : Value) = .bool β40 ∧ h34 = h34)) ∧
 ∀ d41 : Nat → Value,
 cond β40
 (R (.bool true) h34)
 (asK .i64 k_32 fun n56 => I30 (.int .i64 (IntKind.wrap .i64 (n56 + 1))) h34 ∧ μ31 (.int .i64 (IntKind.wrap .i64 (n56 + 1))) h34 < μ31 k_32 h34))
 (∃ v57, cellH h34 (Addr.add ⟨Array.size h9, 0, none⟩ 3) = some v57 ∧
 CallX Tryz.prog ω 23 [v57, left_6] h34 (fun r58 h59 =>
 asK .i64 r58 fun n60 => cond (decide ((n60 : Int) < 0))
 (R (.bool true) h59)
 (asK .i64 i_7 fun n61 => I4 r58 (.int .i64 (IntKind.wrap .i64 (n61 + 1))) h59 ∧ μ5 r58 (.int .i64 (IntKind.wrap .i64 (n61 + 1))) h59 < μ5 left_6 i_7 h9)) X)))
 (R (.bool false) h9))
def A_pipewrightref_Great : Ann :=
 (.two .leaf (.two (.two .leaf (.two (.two .leaf .leaf) .leaf)) (.two .leaf (.two (.two .leaf (.one (.loop [11, 12, 13, 14, 15, 18, 19, 20, 21, 22, 5, 23, 24, 25, 26, 27, 28, 29, 30, 31, 32, 2, 6, 33, 34, 35, 36, 37, 40, 41, 42, 43, 44, 45, 46, 47, 48, 49, 50, 51, 52, 53, 54, 55, 56, 57, 38, 39, 58, 59, 60, 61, 3, 62, 63, 16, 17, 4] [3, 4] (.two (.two .leaf (.two .leaf .leaf)) (.two (.one (.two .leaf (.two (.two (.jb [23, 24, 25, 26, 27, 28, 29, 30, 31, 32] 32 .leaf) (.two (.two .leaf .leaf) .leaf)) (.two (.two .leaf (.one (.loop [33, 34, 35, 36, 37, 40, 41, 42, 43, 44, 45, 46, 47, 48, 49, 50, 51, 52, 53, 54, 55, 56, 57, 2, 38, 39, 6] [6] (.two (.two .leaf (.two .leaf .leaf)) (.two (.one (.two (.jb [40, 41, 42, 43, 44, 45, 46, 47, 48, 49, 50, 51, 52, 53, 54, 55, 56, 57] 57 .leaf) (.two (.two .leaf .leaf) .leaf))) .leaf))))) (.two .leaf (.two .leaf (.two (.two .leaf .leaf) .leaf))))))) .leaf))))) (.two .leaf .leaf)))))
theorem C_pipewrightref_Great (ω : Amb) (p_p : Value) (h : Hp) (R : Value → Hp → Prop) (X : List PanicEntry → Hp → Prop) (hk : W_pipewrightref_Great ω p_p h R X) : CallX Tryz.prog ω 9 [p_p] h R X :=
 callX_of (an := A_pipewrightref_Great) Tryz.func9 ((show fnX Tryz.prog ω A_pipewrightref_Great Tryz.f9 [p_p] h R X = W_pipewrightref_Great ω p_p h R X by kernel_rfl) ▸ hk)

/-- pipewright/syntax.Same -/
abbrev n_syntax_Same : Nat := 17
def W_syntax_Same (ω : Amb) (a_p b_p : Value) (h : Hp) (R : Value → Hp → Prop) (X : List PanicEntry → Hp → Prop) : Prop :=
 ∃ v0, cellH (Array.push (Array.push h (.cells (Value.cells a_p) 24 (0, 0))) (.cells (Value.cells b_p) 24 (0, 0))) (Addr.add ⟨Array.size h, 0, none⟩ 0) = some v0 ∧
 ∃ v1, cellH (Array.push (Array.push h (.cells (Value.cells a_p) 24 (0, 0))) (.cells (Value.cells b_p) 24 (0, 0))) (Addr.add ⟨Array.size (Array.push h (.cells (Value.cells a_p) 24 (0, 0))), 0, none⟩ 0) = some v1 ∧
 CallX Tryz.prog ω 36 [v0, v1, (.func (.func 37) #[] #[])] (Array.push (Array.push h (.cells (Value.cells a_p) 24 (0, 0))) (.cells (Value.cells b_p) 24 (0, 0))) (fun r2 h3 =>
 R r2 h3) X
def A_syntax_Same : Ann :=
 (.two .leaf (.two .leaf .leaf))
theorem C_syntax_Same (ω : Amb) (a_p b_p : Value) (h : Hp) (R : Value → Hp → Prop) (X : List PanicEntry → Hp → Prop) (hk : W_syntax_Same ω a_p b_p h R X) : CallX Tryz.prog ω 17 [a_p, b_p] h R X :=
 callX_of (an := A_syntax_Same) Tryz.func17 ((show fnX Tryz.prog ω A_syntax_Same Tryz.f17 [a_p, b_p] h R X = W_syntax_Same ω a_p b_p h R X by kernel_rfl) ▸ hk)

/-- pipewright/pipewrightref.weighStmts -/
abbrev n_pipewrightref_weighStmts : Nat := 23
def W_pipewrightref_weighStmts (ω : Amb) (l_p left_p : Value) (h : Hp) (R : Value → Hp → Prop) (X : List PanicEntry → Hp → Prop) : Prop :=
 asSl l_p fun a0 l1 c2 => asK .i64 left_p fun n3 => ∃ (I4 : Value → Value → Hp → Prop) (μ5 : Value → Value → Hp → Nat), I4 (.int .i64 (IntKind.wrap .i64 (n3 - (l1 : Int)))) (.int .i64 0) h ∧ ∀ left_6 i_7 (d8 : Nat → Value) (h9 : Hp), I4 left_6 i_7 h9 →
 ∃ β10 : Bool,
 (asSl l_p fun a12 l13 c14 => asK .i64 i_7 fun n15 => cond (decide ((n15 : Int) < (l13 : Int)))
 (asK .i64 left_6 fun n16 => ((.bool (decide ((n16 : Int) ≥ 0))) : Value) = .bool β10 ∧ h9 = h9)
 (((.bool false) : Value) = .bool β10 ∧ h9 = h9)) ∧
 ∀ d11 : Nat → Value,
 cond β10
 (∃ J17 : Value → Hp → Prop,
 (asSl1 l_p fun a21 l22 c23 => asI i_7 fun n24 => 0 ≤ (n24 : Int) ∧ n24 < (l22 : Int) ∧ ∃ C25, cellsH h9 (Addr.add a21 (Int.toNat n24 * 9)) 9 C25 ∧
 C25.toArray.size = 9 ∧ (∀ u ∈ C25.toArray.toList, one u) ∧ storeK (Array.push h9 (.cells #[(.int .i64 0), (.int .i64 0), (.string ⟨#[]⟩), (.string ⟨#[]⟩), (.string ⟨#[]⟩), (.int .i64 0), (.slice none 0 0), (.slice none 0 0), (.slice none 0 0)] 39 (0, 0))) ⟨Array.size h9, 0, none⟩ C25.toArray.toList fun h26 =>
 ∃ β27 : Bool,
 (∃ v29, cellH h26 (Addr.add ⟨Array.size h9, 0, none⟩ 2) = some v29 ∧
 asS v29 fun s30 => cond (decide (((ByteArray.size s30 : Int) : Int) > 100))
 (((.bool true) : Value) = .bool β27 ∧ h26 = h26)
 (∃ v31, cellH h26 (Addr.add ⟨Array.size h9, 0, none⟩ 3) = some v31 ∧
 asS v31 fun s32 => cond (decide (((ByteArray.size s32 : Int) : Int) > 100))
 (((.bool true) : Value) = .bool β27 ∧ h26 = h26)
 (∃ v33, cellH h26 (Addr.add ⟨Array.size h9, 0, none⟩ 4) = some v33 ∧
 asS v33 fun s34 => ((.bool (decide (((ByteArray.size s34 : Int) : Int) > 100))) : Value) = .bool β27 ∧ h26 = h26))) ∧
 ∀ d28 : Nat → Value,
 cond β27
 (R (.int .i64 (-1)) h26)
 (∃ v35, cellH h26 (Addr.add ⟨Array.size h9, 0, none⟩ 6) = some v35 ∧
 CallX Tryz.prog ω 45 [v35, left_6] h26 (fun r36 h37 =>
 asK .i64 r36 fun n38 => ∃ J39 : Value → Hp → Prop,
 (cond (decide ((n38 : Int) ≥ 0))
 (∃ v43, cellH h37 (Addr.add ⟨Array.size h9, 0, none⟩ 7) = some v43 ∧
 CallX Tryz.prog ω 23 [v43, r36] h37 (fun r44 h45 =>
 J39 r44 h45) X)
 (J39 r36 h37)) ∧
 ∀ left_40 (d41 : Nat → Value) (h42 : Hp), J39 left_40 h42 →
 asK .i64 left_40 fun n46 => ∃ J47 : Value → Hp → Prop,
 (cond (decide ((n46 : Int) ≥ 0))
 (∃ v51, cellH h42 (Addr.add ⟨Array.size h9, 0, none⟩ 8) = some v51 ∧
 CallX Tryz.prog ω 23 [v51, left_40] h42 (fun r52 h53 =>
 J47 r52 h53) X)
 (J47 left_40 h42)) ∧
 ∀ left_48 (d49 : Nat → Value) (h50 : Hp), J47 left_48 h50 →
 J17 left_48 h50) X)) ∧
 ∀ left_18 (d19 : Nat → Value) (h20 : Hp), J17 left_18 h20 →
 asK .i64 i_7 fun n54 => I4 left_18 (.int .i64 (IntKind.wrap .i64 (n54 + 1))) h20 ∧ μ5 left_18 (.int .i64 (IntKind.wrap .i64 (n54 + 1))) h20 < μ5 left_6 i_7 h9)
 (R left_6 h9)
def A_pipewrightref_weighStmts : Ann :=
 (.two .leaf (.two .leaf (.two (.two .leaf (.one (.loop [11, 12, 13, 14, 15, 16, 17, 18, 21, 22, 23, 24, 6, 25, 26, 27, 28, 29, 30, 31, 32, 33, 34, 35, 36, 37, 38, 39, 40, 4, 41, 42, 43, 44, 1, 45, 46, 47, 48, 49, 50, 51, 52, 53, 54, 55, 56, 19, 20, 5] [1, 5] (.two (.two (.jb [11, 12, 13, 14, 15, 16, 17, 18] 18 .leaf) (.two .leaf .leaf)) (.two (.join [21, 22, 23, 24, 6, 25, 26, 27, 28, 29, 30, 31, 32, 33, 34, 35, 36, 37, 38, 39, 40, 4, 41, 42, 43, 44, 1, 45, 46, 47, 48, 49, 50, 51, 52, 53, 54, 55, 56] [1] (.one (.two .leaf (.two (.two (.jb [25, 26, 27, 28, 29, 30, 31, 32, 33, 34, 35, 36, 37, 38, 39, 40] 40 .leaf) (.two (.two .leaf .leaf) .leaf)) (.two .leaf (.two (.two .leaf (.join [47, 48, 49, 50, 1] [1] (.two .leaf .leaf))) (.two .leaf (.join [53, 54, 55, 56, 1] [1] (.two .leaf .leaf))))))))) .leaf))))) (.two .leaf .leaf))))
theorem C_pipewrightref_weighStmts (ω : Amb) (l_p left_p : Value) (h : Hp) (R : Value → Hp → Prop) (X : List PanicEntry → Hp → Prop) (hk : W_pipewrightref_weighStmts ω l_p left_p h R X) : CallX Tryz.prog ω 23 [l_p, left_p] h R X :=
 callX_of (an := A_pipewrightref_weighStmts) Tryz.func23 ((show fnX Tryz.prog ω A_pipewrightref_weighStmts Tryz.f23 [l_p, left_p] h R X = W_pipewrightref_weighStmts ω l_p left_p h R X by kernel_rfl) ▸ hk)

/-- pipewright/render.Type -/
abbrev n_render_Type : Nat := 28
def W_render_Type (ω : Amb) (t_p ends_p : Value) (h : Hp) (R : Value → Hp → Prop) (X : List PanicEntry → Hp → Prop) : Prop :=
 asS t_p fun s0 => ∃ β1 : Bool,
 (cond (decide (((IntKind.wrap .i64 ((ByteArray.size s0 : Int) - 1)) : Int) < 0))
 (((.bool true) : Value) = .bool β1 ∧ h = h)
 (asK .i64 ends_p fun n3 => cond (decide (((IntKind.wrap .i64 ((ByteArray.size s0 : Int) - 1)) : Int) > n3))
 (((.bool true) : Value) = .bool β1 ∧ h = h)
 (asS t_p fun s4 => 0 ≤ ((IntKind.wrap .i64 ((ByteArray.size s0 : Int) - 1)) : Int) ∧ (IntKind.wrap .i64 ((ByteArray.size s0 : Int) - 1)) < (ByteArray.size s4 : Int) ∧ ((.bool ((byteAt s4 (IntKind.wrap .i64 ((ByteArray.size s0 : Int) - 1))) != (105 : Int))) : Value) = .bool β1 ∧ h = h))) ∧
 ∀ d2 : Nat → Value,
 cond β1
 (R (.bool false) h)
 (∃ (I5 : Value → Hp → Prop) (μ6 : Value → Hp → Nat), I5 (.int .i64 0) h ∧ ∀ t24_7 (d8 : Nat → Value) (h9 : Hp), I5 t24_7 h9 →
 asK .i64 t24_7 fun n10 => cond (decide ((n10 : Int) < (IntKind.wrap .i64 ((ByteArray.size s0 : Int) - 1))))
 (∃ β11 : Bool,
 (asS t_p fun s13 => asI t24_7 fun n14 => 0 ≤ (n14 : Int) ∧ n14 < (ByteArray.size s13 : Int) ∧ cond ((byteAt s13 n14) != (115 : Int))
 (asS t_p fun s15 => asI t24_7 fun n16 => 0 ≤ (n16 : Int) ∧ n16 < (ByteArray.size s15 : Int) ∧ ((.bool ((byteAt s15 n16) != (114 : Int))) : Value) = .bool β11 ∧ h9 = h9)
 (((.bool false) : Value) = .bool β11 ∧ h9 = h9)) ∧
 ∀ d12 : Nat → Value,
 cond β11
 (R (.bool false) h9)
 (asK .i64 t24_7 fun n17 => I5 (.int .i64 (IntKind.wrap .i64 (n17 + 1))) h9 ∧ μ6 (.int .i64 (IntKind.wrap .i64 (n17 + 1))) h9 < μ6 t24_7 h9))
 (R (.bool true) h9))
def A_render_Type : Ann :=
 (.two .leaf (.two .leaf (.two (.two (.jb [10, 11, 12, 13, 14, 15, 16, 17, 18, 19, 20, 21, 22] 22 .leaf) (.two (.two .leaf .leaf) .leaf)) (.two (.two .leaf (.one (.loop [25, 26, 6, 27, 28, 29, 30, 31, 32, 33, 34, 35, 36, 4, 37, 24] [24] (.two .leaf (.two (.two .leaf .leaf) (.two (.one (.two .leaf (.two (.jb [27, 28, 29, 30, 31, 32, 33, 34, 35, 36] 36 .leaf) (.two (.two .leaf .leaf) .leaf)))) .leaf)))))) (.two .leaf .leaf)))))
theorem C_render_Type (ω : Amb) (t_p ends_p : Value) (h : Hp) (R : Value → Hp → Prop) (X : List PanicEntry → Hp → Prop) (hk : W_render_Type ω t_p ends_p h R X) : CallX Tryz.prog ω 28 [t_p, ends_p] h R X :=
 callX_of (an := A_render_Type) Tryz.func28 ((show fnX Tryz.prog ω A_render_Type Tryz.f28 [t_p, ends_p] h R X = W_render_Type ω t_p ends_p h R X by kernel_rfl) ▸ hk)

def W_slices_EqualFunc_sl_api_Stage_sl_api_Stage_api_Stage_api_Stage (ω : Amb) (s1_p s2_p eq_p : Value) (h : Hp) (R : Value → Hp → Prop) (X : List PanicEntry → Hp → Prop) : Prop :=
 asSl s1_p fun a0 l1 c2 => asSl s2_p fun a3 l4 c5 => cond ((l1 : Int) != ((l4 : Int) : Int))
 (R (.bool false) h)
 (asSl s1_p fun a6 l7 c8 => ∃ (I9 : Value → Hp → Prop) (μ10 : Value → Hp → Nat), I9 (.int .i64 0) h ∧ ∀ t17_11 (d12 : Nat → Value) (h13 : Hp), I9 t17_11 h13 →
 asK .i64 t17_11 fun n14 => cond (decide ((n14 : Int) < (l7 : Int)))
 (asSl1 s1_p fun a15 l16 c17 => asI t17_11 fun n18 => 0 ≤ (n18 : Int) ∧ n18 < (l16 : Int) ∧ ∃ C19, cellsH h13 (Addr.add a15 (Int.toNat n18 * 4)) 4 C19 ∧
 C19.toArray.size = 4 ∧ (∀ u ∈ C19.toArray.toList, one u) ∧ storeK (Array.push h13 (.cells #[(.string ⟨#[]⟩), (.int .i64 0), (.slice none 0 0), (.slice none 0 0)] 41 (0, 0))) ⟨Array.size h13, 0, none⟩ C19.toArray.toList fun h20 =>
 asSl1 s2_p fun a21 l22 c23 => asI t17_11 fun n24 => 0 ≤ (n24 : Int) ∧ n24 < (l22 : Int) ∧ ∃ C25, cellsH h20 (Addr.add a21 (Int.toNat n24 * 4)) 4 C25 ∧
 C25.toArray.size = 4 ∧ (∀ u ∈ C25.toArray.toList, one u) ∧ storeK (Array.push h20 (.cells #[(.string ⟨#[]⟩), (.int .i64 0), (.slice none 0 0), (.slice none 0 0)] 41 (0, 0))) ⟨Array.size h20, 0, none⟩ C25.toArray.toList fun h26 =>
 ∃ C27, cellsH h26 ⟨Array.size h13, 0, none⟩ 4 C27 ∧
 ∃ C28, cellsH h26 ⟨Array.size h20, 0, none⟩ 4 C28 ∧
 callK Tryz.prog ω eq_p [(.agg C27.toArray), (.agg C28.toArray)] h26 (fun r29 h30 =>
 asB r29 fun b31 => cond (!b31)
 (R (.bool false) h30)
 (asK .i64 t17_11 fun n32 => I9 (.int .i64 (IntKind.wrap .i64 (n32 + 1))) h30 ∧ μ10 (.int .i64 (IntKind.wrap .i64 (n32 + 1))) h30 < μ10 t17_11 h13)) X)
 (R (.bool true) h13))
def A_slices_EqualFunc_sl_api_Stage_sl_api_Stage_api_Stage_api_Stage : Ann :=
 (.two .leaf (.two (.two .leaf (.two (.two .leaf .leaf) .leaf)) (.two (.two .leaf (.one (.loop [18, 19, 20, 21, 8, 7, 22, 23, 24, 25, 9, 26, 27, 28, 29, 30, 6, 31, 17] [17] (.two .leaf (.two (.two .leaf .leaf) (.two (.one (.two .leaf (.two .leaf (.two .leaf (.two (.two .leaf .leaf) .leaf))))) .leaf)))))) (.two .leaf .leaf))))
theorem C_slices_EqualFunc_sl_api_Stage_sl_api_Stage_api_Stage_api_Stage (ω : Amb) (s1_p s2_p eq_p : Value) (h : Hp) (R : Value → Hp → Prop) (X : List PanicEntry → Hp → Prop) (hk : W_slices_EqualFunc_sl_api_Stage_sl_api_Stage_api_Stage_api_Stage ω s1_p s2_p eq_p h R X) : CallX Tryz.prog ω 36 [s1_p, s2_p, eq_p] h R X :=
 callX_of (an := A_slices_EqualFunc_sl_api_Stage_sl_api_Stage_api_Stage_api_Stage) Tryz.func36 ((show fnX Tryz.prog ω A_slices_EqualFunc_sl_api_Stage_sl_api_Stage_api_Stage_api_Stage Tryz.f36 [s1_p, s2_p, eq_p] h R X = W_slices_EqualFunc_sl_api_Stage_sl_api_Stage_api_Stage_api_Stage ω s1_p s2_p eq_p h R X by kernel_rfl) ▸ hk)

/-- pipewright/syntax.sameStage -/
abbrev n_syntax_sameStage : Nat := 37
def W_syntax_sameStage (ω : Amb) (a_p b_p : Value) (h : Hp) (R : Value → Hp → Prop) (X : List PanicEntry → Hp → Prop) : Prop :=
 ∃ J0 : Value → Hp → Prop,
 (∃ v4, cellH (Array.push (Array.push h (.cells (Value.cells a_p) 41 (0, 0))) (.cells (Value.cells b_p) 41 (0, 0))) (Addr.add ⟨Array.size h, 0, none⟩ 0) = some v4 ∧
 ∃ v5, cellH (Array.push (Array.push h (.cells (Value.cells a_p) 41 (0, 0))) (.cells (Value.cells b_p) 41 (0, 0))) (Addr.add ⟨Array.size (Array.push h (.cells (Value.cells a_p) 41 (0, 0))), 0, none⟩ 0) = some v5 ∧
 asS v4 fun s6 => asS v5 fun s7 => cond (ByteArray.toList s6 == ByteArray.toList s7)
 (∃ v8, cellH (Array.push (Array.push h (.cells (Value.cells a_p) 41 (0, 0))) (.cells (Value.cells b_p) 41 (0, 0))) (Addr.add ⟨Array.size h, 0, none⟩ 2) = some v8 ∧
 ∃ v9, cellH (Array.push (Array.push h (.cells (Value.cells a_p) 41 (0, 0))) (.cells (Value.cells b_p) 41 (0, 0))) (Addr.add ⟨Array.size (Array.push h (.cells (Value.cells a_p) 41 (0, 0))), 0, none⟩ 2) = some v9 ∧
 CallX Tryz.prog ω 67 [v8, v9] (Array.push (Array.push h (.cells (Value.cells a_p) 41 (0, 0))) (.cells (Value.cells b_p) 41 (0, 0))) (fun r10 h11 =>
 asB r10 fun b12 => cond b12
 (∃ v13, cellH h11 (Addr.add ⟨Array.size h, 0, none⟩ 3) = some v13 ∧
 ∃ v14, cellH h11 (Addr.add ⟨Array.size (Array.push h (.cells (Value.cells a_p) 41 (0, 0))), 0, none⟩ 3) = some v14 ∧
 CallX Tryz.prog ω 68 [v13, v14, (.func (.func 69) #[] #[])] h11 (fun r15 h16 =>
 J0 r15 h16) X)
 (J0 (.bool false) h11)) X)
 (J0 (.bool false) (Array.push (Array.push h (.cells (Value.cells a_p) 41 (0, 0))) (.cells (Value.cells b_p) 41 (0, 0))))) ∧
 ∀ t4_1 (d2 : Nat → Value) (h3 : Hp), J0 t4_1 h3 →
 R t4_1 h3
def A_syntax_sameStage : Ann :=
 (.two .leaf (.two (.join [5, 6, 7, 8, 9, 10, 11, 12, 13, 14, 15, 16, 17, 18, 19, 20, 21, 22, 23, 4] [4] .leaf) .leaf))
theorem C_syntax_sameStage (ω : Amb) (a_p b_p : Value) (h : Hp) (R : Value → Hp → Prop) (X : List PanicEntry → Hp → Prop) (hk : W_syntax_sameStage ω a_p b_p h R X) : CallX Tryz.prog ω 37 [a_p, b_p] h R X :=
 callX_of (an := A_syntax_sameStage) Tryz.func37 ((show fnX Tryz.prog ω A_syntax_sameStage Tryz.f37 [a_p, b_p] h R X = W_syntax_sameStage ω a_p b_p h R X by kernel_rfl) ▸ hk)

/-- pipewright/pipewrightref.weighExprs -/
abbrev n_pipewrightref_weighExprs : Nat := 45
def W_pipewrightref_weighExprs (ω : Amb) (l_p left_p : Value) (h : Hp) (R : Value → Hp → Prop) (X : List PanicEntry → Hp → Prop) : Prop :=
 asSl l_p fun a0 l1 c2 => asK .i64 left_p fun n3 => ∃ (I4 : Value → Value → Hp → Prop) (μ5 : Value → Value → Hp → Nat), I4 (.int .i64 (IntKind.wrap .i64 (n3 - (l1 : Int)))) (.int .i64 0) h ∧ ∀ left_6 i_7 (d8 : Nat → Value) (h9 : Hp), I4 left_6 i_7 h9 →
 ∃ β10 : Bool,
 (asSl l_p fun a12 l13 c14 => asK .i64 i_7 fun n15 => cond (decide ((n15 : Int) < (l13 : Int)))
 (asK .i64 left_6 fun n16 => ((.bool (decide ((n16 : Int) ≥ 0))) : Value) = .bool β10 ∧ h9 = h9)
 (((.bool false) : Value) = .bool β10 ∧ h9 = h9)) ∧
 ∀ d11 : Nat → Value,
 cond β10
 (asSl1 l_p fun a17 l18 c19 => asI i_7 fun n20 => 0 ≤ (n20 : Int) ∧ n20 < (l18 : Int) ∧ ∃ v21, cellH h9 (Addr.add (Addr.add a17 (Int.toNat n20 * 4)) 1) = some v21 ∧
 asS v21 fun s22 => cond (decide (((ByteArray.size s22 : Int) : Int) > 100))
 (R (.int .i64 (-1)) h9)
 (asSl1 l_p fun a23 l24 c25 => asI i_7 fun n26 => 0 ≤ (n26 : Int) ∧ n26 < (l24 : Int) ∧ ∃ v27, cellH h9 (Addr.add (Addr.add a23 (Int.toNat n26 * 4)) 3) = some v27 ∧
 CallX Tryz.prog ω 45 [v27, left_6] h9 (fun r28 h29 =>
 asK .i64 i_7 fun n30 => I4 r28 (.int .i64 (IntKind.wrap .i64 (n30 + 1))) h29 ∧ μ5 r28 (.int .i64 (IntKind.wrap .i64 (n30 + 1))) h29 < μ5 left_6 i_7 h9) X))
 (R left_6 h9)
def A_pipewrightref_weighExprs : Ann :=
 (.two .leaf (.two .leaf (.two (.two .leaf (.one (.loop [10, 11, 12, 13, 14, 15, 16, 17, 20, 21, 22, 23, 24, 25, 26, 4, 27, 28, 29, 30, 31, 32, 33, 1, 18, 19, 5] [1, 5] (.two (.two (.jb [10, 11, 12, 13, 14, 15, 16, 17] 17 .leaf) (.two .leaf .leaf)) (.two (.one (.two (.two .leaf (.two (.two .leaf .leaf) .leaf)) .leaf)) .leaf))))) (.two .leaf .leaf))))
theorem C_pipewrightref_weighExprs (ω : Amb) (l_p left_p : Value) (h : Hp) (R : Value → Hp → Prop) (X : List PanicEntry → Hp → Prop) (hk : W_pipewrightref_weighExprs ω l_p left_p h R X) : CallX Tryz.prog ω 45 [l_p, left_p] h R X :=
 callX_of (an := A_pipewrightref_weighExprs) Tryz.func45 ((show fnX Tryz.prog ω A_pipewrightref_weighExprs Tryz.f45 [l_p, left_p] h R X = W_pipewrightref_weighExprs ω l_p left_p h R X by kernel_rfl) ▸ hk)

/-- slices.Equal[[]pipewright/api.Param,pipewright/api.Param] -/
abbrev n_slices_Equal_sl_api_Param_api_Param : Nat := 67
def W_slices_Equal_sl_api_Param_api_Param (ω : Amb) (s1_p s2_p : Value) (h : Hp) (R : Value → Hp → Prop) (X : List PanicEntry → Hp → Prop) : Prop :=
 asSl s1_p fun a0 l1 c2 => asSl s2_p fun a3 l4 c5 => cond ((l1 : Int) != ((l4 : Int) : Int))
 (R (.bool false) h)
 (asSl s1_p fun a6 l7 c8 => ∃ (I9 : Value → Hp → Prop) (μ10 : Value → Hp → Nat), I9 (.int .i64 0) h ∧ ∀ t13_11 (d12 : Nat → Value) (h13 : Hp), I9 t13_11 h13 →
 asK .i64 t13_11 fun n14 => cond (decide ((n14 : Int) < (l7 : Int)))
 (asSl1 s1_p fun a15 l16 c17 => asI t13_11 fun n18 => 0 ≤ (n18 : Int) ∧ n18 < (l16 : Int) ∧ ∃ C19, cellsH h13 (Addr.add a15 (Int.toNat n18 * 2)) 2 C19 ∧
 asSl1 s2_p fun a20 l21 c22 => asI t13_11 fun n23 => 0 ≤ (n23 : Int) ∧ n23 < (l21 : Int) ∧ ∃ C24, cellsH h13 (Addr.add a20 (Int.toNat n23 * 2)) 2 C24 ∧
 asO C19.toArray[0]? fun v25 => asO C24.toArray[0]? fun v26 => asS v25 fun s27 => asS v26 fun s28 => asO C19.toArray[1]? fun v29 => asO C24.toArray[1]? fun v30 => asS v29 fun s31 => asS v30 fun s32 => cond (!((ByteArray.toList s27 == ByteArray.toList s28) && ((ByteArray.toList s31 == ByteArray.toList s32) && true)))
 (R (.bool false) h13)
 (asK .i64 t13_11 fun n33 => I9 (.int .i64 (IntKind.wrap .i64 (n33 + 1))) h13 ∧ μ10 (.int .i64 (IntKind.wrap .i64 (n33 + 1))) h13 < μ10 t13_11 h13))
 (R (.bool true) h13))
def A_slices_Equal_sl_api_Param_api_Param : Ann :=
 (.two .leaf (.two (.two .leaf (.two (.two .leaf .leaf) .leaf)) (.two (.two .leaf (.one (.loop [14, 15, 5, 16, 17, 18, 19, 20, 21, 22, 23, 24, 4, 25, 13] [13] (.two .leaf (.two (.two .leaf .leaf) (.two (.one (.two .leaf (.two (.plan [0, 1, 2, 3, 4, 5, 6, 7, 8]) (.two (.two .leaf .leaf) .leaf)))) .leaf)))))) (.two .leaf .leaf))))
theorem C_slices_Equal_sl_api_Param_api_Param (ω : Amb) (s1_p s2_p : Value) (h : Hp) (R : Value → Hp → Prop) (X : List PanicEntry → Hp → Prop) (hk : W_slices_Equal_sl_api_Param_api_Param ω s1_p s2_p h R X) : CallX Tryz.prog ω 67 [s1_p, s2_p] h R X :=
 callX_of (an := A_slices_Equal_sl_api_Param_api_Param) Tryz.func67 ((show fnX Tryz.prog ω A_slices_Equal_sl_api_Param_api_Param Tryz.f67 [s1_p, s2_p] h R X = W_slices_Equal_sl_api_Param_api_Param ω s1_p s2_p h R X by kernel_rfl) ▸ hk)

/-- slices.EqualFunc[[]pipewright/api.Stmt,[]pipewright/api.Stmt,pipewright/api.Stmt,pipewright/api.Stmt] -/
abbrev n_slices_EqualFunc_sl_api_Stmt_sl_api_Stmt_api_Stmt_api_Stmt : Nat := 68
def W_slices_EqualFunc_sl_api_Stmt_sl_api_Stmt_api_Stmt_api_Stmt (ω : Amb) (s1_p s2_p eq_p : Value) (h : Hp) (R : Value → Hp → Prop) (X : List PanicEntry → Hp → Prop) : Prop :=
 asSl s1_p fun a0 l1 c2 => asSl s2_p fun a3 l4 c5 => cond ((l1 : Int) != ((l4 : Int) : Int))
 (R (.bool false) h)
 (asSl s1_p fun a6 l7 c8 => ∃ (I9 : Value → Hp → Prop) (μ10 : Value → Hp → Nat), I9 (.int .i64 0) h ∧ ∀ t17_11 (d12 : Nat → Value) (h13 : Hp), I9 t17_11 h13 →
 asK .i64 t17_11 fun n14 => cond (decide ((n14 : Int) < (l7 : Int)))
 (asSl1 s1_p fun a15 l16 c17 => asI t17_11 fun n18 => 0 ≤ (n18 : Int) ∧ n18 < (l16 : Int) ∧ ∃ C19, cellsH h13 (Addr.add a15 (Int.toNat n18 * 9)) 9 C19 ∧
 C19.toArray.size = 9 ∧ (∀ u ∈ C19.toArray.toList, one u) ∧ storeK (Array.push h13 (.cells #[(.int .i64 0), (.int .i64 0), (.string ⟨#[]⟩), (.string ⟨#[]⟩), (.string ⟨#[]⟩), (.int .i64 0), (.slice none 0 0), (.slice none 0 0), (.slice none 0 0)] 39 (0, 0))) ⟨Array.size h13, 0, none⟩ C19.toArray.toList fun h20 =>
 asSl1 s2_p fun a21 l22 c23 => asI t17_11 fun n24 => 0 ≤ (n24 : Int) ∧ n24 < (l22 : Int) ∧ ∃ C25, cellsH h20 (Addr.add a21 (Int.toNat n24 * 9)) 9 C25 ∧
 C25.toArray.size = 9 ∧ (∀ u ∈ C25.toArray.toList, one u) ∧ storeK (Array.push h20 (.cells #[(.int .i64 0), (.int .i64 0), (.string ⟨#[]⟩), (.string ⟨#[]⟩), (.string ⟨#[]⟩), (.int .i64 0), (.slice none 0 0), (.slice none 0 0), (.slice none 0 0)] 39 (0, 0))) ⟨Array.size h20, 0, none⟩ C25.toArray.toList fun h26 =>
 ∃ C27, cellsH h26 ⟨Array.size h13, 0, none⟩ 9 C27 ∧
 ∃ C28, cellsH h26 ⟨Array.size h20, 0, none⟩ 9 C28 ∧
 callK Tryz.prog ω eq_p [(.agg C27.toArray), (.agg C28.toArray)] h26 (fun r29 h30 =>
 asB r29 fun b31 => cond (!b31)
 (R (.bool false) h30)
 (asK .i64 t17_11 fun n32 => I9 (.int .i64 (IntKind.wrap .i64 (n32 + 1))) h30 ∧ μ10 (.int .i64 (IntKind.wrap .i64 (n32 + 1))) h30 < μ10 t17_11 h13)) X)
 (R (.bool true) h13))
def A_slices_EqualFunc_sl_api_Stmt_sl_api_Stmt_api_Stmt_api_Stmt : Ann :=
 (.two .leaf (.two (.two .leaf (.two (.two .leaf .leaf) .leaf)) (.two (.two .leaf (.one (.loop [18, 19, 20, 21, 8, 7, 22, 23, 24, 25, 9, 26, 27, 28, 29, 30, 6, 31, 17] [17] (.two .leaf (.two (.two .leaf .leaf) (.two (.one (.two .leaf (.two .leaf (.two .leaf (.two (.two .leaf .leaf) .leaf))))) .leaf)))))) (.two .leaf .leaf))))
theorem C_slices_EqualFunc_sl_api_Stmt_sl_api_Stmt_api_Stmt_api_Stmt (ω : Amb) (s1_p s2_p eq_p : Value) (h : Hp) (R : Value → Hp → Prop) (X : List PanicEntry → Hp → Prop) (hk : W_slices_EqualFunc_sl_api_Stmt_sl_api_Stmt_api_Stmt_api_Stmt ω s1_p s2_p eq_p h R X) : CallX Tryz.prog ω 68 [s1_p, s2_p, eq_p] h R X :=
 callX_of (an := A_slices_EqualFunc_sl_api_Stmt_sl_api_Stmt_api_Stmt_api_Stmt) Tryz.func68 ((show fnX Tryz.prog ω A_slices_EqualFunc_sl_api_Stmt_sl_api_Stmt_api_Stmt_api_Stmt Tryz.f68 [s1_p, s2_p, eq_p] h R X = W_slices_EqualFunc_sl_api_Stmt_sl_api_Stmt_api_Stmt_api_Stmt ω s1_p s2_p eq_p h R X by kernel_rfl) ▸ hk)

/-- pipewright/syntax.sameStmt -/
abbrev n_syntax_sameStmt : Nat := 69
def W_syntax_sameStmt (ω : Amb) (a_p b_p : Value) (h : Hp) (R : Value → Hp → Prop) (X : List PanicEntry → Hp → Prop) : Prop :=
 ∃ J0 : Value → Hp → Prop,
 (∃ v4, cellH (Array.push (Array.push h (.cells (Value.cells a_p) 39 (0, 0))) (.cells (Value.cells b_p) 39 (0, 0))) (Addr.add ⟨Array.size h, 0, none⟩ 0) = some v4 ∧
 ∃ v5, cellH (Array.push (Array.push h (.cells (Value.cells a_p) 39 (0, 0))) (.cells (Value.cells b_p) 39 (0, 0))) (Addr.add ⟨Array.size (Array.push h (.cells (Value.cells a_p) 39 (0, 0))), 0, none⟩ 0) = some v5 ∧
 asK .i64 v4 fun n6 => asK .i64 v5 fun n7 => cond (n6 == (n7 : Int))
 (∃ v8, cellH (Array.push (Array.push h (.cells (Value.cells a_p) 39 (0, 0))) (.cells (Value.cells b_p) 39 (0, 0))) (Addr.add ⟨Array.size h, 0, none⟩ 2) = some v8 ∧
 ∃ v9, cellH (Array.push (Array.push h (.cells (Value.cells a_p) 39 (0, 0))) (.cells (Value.cells b_p) 39 (0, 0))) (Addr.add ⟨Array.size (Array.push h (.cells (Value.cells a_p) 39 (0, 0))), 0, none⟩ 2) = some v9 ∧
 asS v8 fun s10 => asS v9 fun s11 => cond (ByteArray.toList s10 == ByteArray.toList s11)
 (∃ v12, cellH (Array.push (Array.push h (.cells (Value.cells a_p) 39 (0, 0))) (.cells (Value.cells b_p) 39 (0, 0))) (Addr.add ⟨Array.size h, 0, none⟩ 3) = some v12 ∧
 ∃ v13, cellH (Array.push (Array.push h (.cells (Value.cells a_p) 39 (0, 0))) (.cells (Value.cells b_p) 39 (0, 0))) (Addr.add ⟨Array.size (Array.push h (.cells (Value.cells a_p) 39 (0, 0))), 0, none⟩ 3) = some v13 ∧
 asS v12 fun s14 => asS v13 fun s15 => cond (ByteArray.toList s14 == ByteArray.toList s15)
 (∃ v16, cellH (Array.push (Array.push h (.cells (Value.cells a_p) 39 (0, 0))) (.cells (Value.cells b_p) 39 (0, 0))) (Addr.add ⟨Array.size h, 0, none⟩ 4) = some v16 ∧
 ∃ v17, cellH (Array.push (Array.push h (.cells (Value.cells a_p) 39 (0, 0))) (.cells (Value.cells b_p) 39 (0, 0))) (Addr.add ⟨Array.size (Array.push h (.cells (Value.cells a_p) 39 (0, 0))), 0, none⟩ 4) = some v17 ∧
 asS v16 fun s18 => asS v17 fun s19 => cond (ByteArray.toList s18 == ByteArray.toList s19)
 (∃ v20, cellH (Array.push (Array.push h (.cells (Value.cells a_p) 39 (0, 0))) (.cells (Value.cells b_p) 39 (0, 0))) (Addr.add ⟨Array.size h, 0, none⟩ 5) = some v20 ∧
 ∃ v21, cellH (Array.push (Array.push h (.cells (Value.cells a_p) 39 (0, 0))) (.cells (Value.cells b_p) 39 (0, 0))) (Addr.add ⟨Array.size (Array.push h (.cells (Value.cells a_p) 39 (0, 0))), 0, none⟩ 5) = some v21 ∧
 asK .i64 v20 fun n22 => asK .i64 v21 fun n23 => cond (n22 == (n23 : Int))
 (∃ v24, cellH (Array.push (Array.push h (.cells (Value.cells a_p) 39 (0, 0))) (.cells (Value.cells b_p) 39 (0, 0))) (Addr.add ⟨Array.size h, 0, none⟩ 6) = some v24 ∧
 ∃ v25, cellH (Array.push (Array.push h (.cells (Value.cells a_p) 39 (0, 0))) (.cells (Value.cells b_p) 39 (0, 0))) (Addr.add ⟨Array.size (Array.push h (.cells (Value.cells a_p) 39 (0, 0))), 0, none⟩ 6) = some v25 ∧
 CallX Tryz.prog ω 94 [v24, v25, (.func (.func 95) #[] #[])] (Array.push (Array.push h (.cells (Value.cells a_p) 39 (0, 0))) (.cells (Value.cells b_p) 39 (0, 0))) (fun r26 h27 =>
 asB r26 fun b28 => cond b28
 (∃ v29, cellH h27 (Addr.add ⟨Array.size h, 0, none⟩ 7) = some v29 ∧
 ∃ v30, cellH h27 (Addr.add ⟨Array.size (Array.push h (.cells (Value.cells a_p) 39 (0, 0))), 0, none⟩ 7) = some v30 ∧
 CallX Tryz.prog ω 68 [v29, v30, (.func (.func 69) #[] #[])] h27 (fun r31 h32 =>
 asB r31 fun b33 => cond b33
 (∃ v34, cellH h32 (Addr.add ⟨Array.size h, 0, none⟩ 8) = some v34 ∧
 ∃ v35, cellH h32 (Addr.add ⟨Array.size (Array.push h (.cells (Value.cells a_p) 39 (0, 0))), 0, none⟩ 8) = some v35 ∧
 CallX Tryz.prog ω 68 [v34, v35, (.func (.func 69) #[] #[])] h32 (fun r36 h37 =>
 J0 r36 h37) X)
 (J0 (.bool false) h32)) X)
 (J0 (.bool false) h27)) X)
 (J0 (.bool false) (Array.push (Array.push h (.cells (Value.cells a_p) 39 (0, 0))) (.cells (Value.cells b_p) 39 (0, 0)))))
 (J0 (.bool false) (Array.push (Array.push h (.cells (Value.cells a_p) 39 (0, 0))) (.cells (Value.cells b_p) 39 (0, 0)))))
 (J0 (.bool false) (Array.push (Array.push h (.cells (Value.cells a_p) 39 (0, 0))) (.cells (Value.cells b_p) 39 (0, 0)))))
 (J0 (.bool false) (Array.push (Array.push h (.cells (Value.cells a_p) 39 (0, 0))) (.cells (Value.cells b_p) 39 (0, 0)))))
 (J0 (.bool false) (Array.push (Array.push h (.cells (Value.cells a_p) 39 (0, 0))) (.cells (Value.cells b_p) 39 (0, 0))))) ∧
 ∀ t4_1 (d2 : Nat → Value) (h3 : Hp), J0 t4_1 h3 →
 R t4_1 h3
def A_syntax_sameStmt : Ann :=
 (.two .leaf (.two (.join [5, 6, 7, 8, 9, 10, 11, 12, 13, 14, 15, 16, 17, 18, 19, 20, 21, 22, 23, 24, 25, 26, 27, 28, 29, 30, 31, 32, 33, 34, 35, 36, 37, 38, 39, 40, 41, 42, 43, 44, 45, 46, 47, 48, 49, 50, 51, 52, 53, 54, 55, 56, 57, 58, 4] [4] .leaf) .leaf))
theorem C_syntax_sameStmt (ω : Amb) (a_p b_p : Value) (h : Hp) (R : Value → Hp → Prop) (X : List PanicEntry → Hp → Prop) (hk : W_syntax_sameStmt ω a_p b_p h R X) : CallX Tryz.prog ω 69 [a_p, b_p] h R X :=
 callX_of (an := A_syntax_sameStmt) Tryz.func69 ((show fnX Tryz.prog ω A_syntax_sameStmt Tryz.f69 [a_p, b_p] h R X = W_syntax_sameStmt ω a_p b_p h R X by kernel_rfl) ▸ hk)

/-- pipewright/token.letter -/
abbrev n_token_letter : Nat := 80
def W_token_letter (ω : Amb) (c_p : Value) (h : Hp) (R : Value → Hp → Prop) (X : List PanicEntry → Hp → Prop) : Prop :=
 ∃ J0 : Value → Hp → Prop,
 (asK .u8 c_p fun n4 => cond (decide ((n4 : Int) ≥ 97))
 (asK .u8 c_p fun n5 => J0 (.bool (decide ((n5 : Int) ≤ 122))) h)
 (J0 (.bool false) h)) ∧
 ∀ t2_1 (d2 : Nat → Value) (h3 : Hp), J0 t2_1 h3 →
 R t2_1 h3
def A_token_letter : Ann :=
 (.two .leaf (.two (.join [3, 4, 5, 6, 7, 8, 2] [2] .leaf) .leaf))
theorem C_token_letter (ω : Amb) (c_p : Value) (h : Hp) (R : Value → Hp → Prop) (X : List PanicEntry → Hp → Prop) (hk : W_token_letter ω c_p h R X) : CallX Tryz.prog ω 80 [c_p] h R X :=
 callX_of (an := A_token_letter) Tryz.func80 ((show fnX Tryz.prog ω A_token_letter Tryz.f80 [c_p] h R X = W_token_letter ω c_p h R X by kernel_rfl) ▸ hk)

/-- pipewright/token.Word -/
abbrev n_token_Word : Nat := 82
def W_token_Word (ω : Amb) (s_p : Value) (h : Hp) (R : Value → Hp → Prop) (X : List PanicEntry → Hp → Prop) : Prop :=
 asS s_p fun s0 => ∃ J1 : Value → Hp → Prop,
 (cond (ByteArray.toList s0 == ByteArray.toList ⟨#[97, 98, 97, 110, 100, 111, 110]⟩)
 (J1 (.bool (ByteArray.toList s0 == ByteArray.toList ⟨#[97, 98, 97, 110, 100, 111, 110]⟩)) h)
 (asS s_p fun s5 => ∃ J6 : Value → Hp → Prop,
 (cond (ByteArray.toList s5 == ByteArray.toList ⟨#[99, 104, 97, 110]⟩)
 (J6 (.bool (ByteArray.toList s5 == ByteArray.toList ⟨#[99, 104, 97, 110]⟩)) h)
 (asS s_p fun s10 => ∃ J11 : Value → Hp → Prop,
 (cond (ByteArray.toList s10 == ByteArray.toList ⟨#[99, 108, 111, 110, 101]⟩)
 (J11 (.bool (ByteArray.toList s10 == ByteArray.toList ⟨#[99, 108, 111, 110, 101]⟩)) h)
 (asS s_p fun s15 => ∃ J16 : Value → Hp → Prop,
 (cond (ByteArray.toList s15 == ByteArray.toList ⟨#[99, 108, 111, 115, 101]⟩)
 (J16 (.bool (ByteArray.toList s15 == ByteArray.toList ⟨#[99, 108, 111, 115, 101]⟩)) h)
 (asS s_p fun s20 => ∃ J21 : Value → Hp → Prop,
 (cond (ByteArray.toList s20 == ByteArray.toList ⟨#[100, 114, 97, 105, 110]⟩)
 (J21 (.bool (ByteArray.toList s20 == ByteArray.toList ⟨#[100, 114, 97, 105, 110]⟩)) h)
 (asS s_p fun s25 => ∃ J26 : Value → Hp → Prop,
 (cond (ByteArray.toList s25 == ByteArray.toList ⟨#[101, 108, 115, 101]⟩)
 (J26 (.bool (ByteArray.toList s25 == ByteArray.toList ⟨#[101, 108, 115, 101]⟩)) h)
 (asS s_p fun s30 => ∃ J31 : Value → Hp → Prop,
 (cond (ByteArray.toList s30 == ByteArray.toList ⟨#[101, 109, 105, 116]⟩)
 (J31 (.bool (ByteArray.toList s30 == ByteArray.toList ⟨#[101, 109, 105, 116]⟩)) h)
 (asS s_p fun s35 => ∃ J36 : Value → Hp → Prop,
 (cond (ByteArray.toList s35 == ByteArray.toList ⟨#[102, 111, 114]⟩)
 (J36 (.bool (ByteArray.toList s35 == ByteArray.toList ⟨#[102, 111, 114]⟩)) h)
 (asS s_p fun s40 => ∃ J41 : Value → Hp → Prop,
 (cond (ByteArray.toList s40 == ByteArray.toList ⟨#[102, 114, 111, 109]⟩)
 (J41 (.bool (ByteArray.toList s40 == ByteArray.toList ⟨#[102, 114, 111, 109]⟩)) h)
 (asS s_p fun s45 => ∃ J46 : Value → Hp → Prop,
 (cond (ByteArray.toList s45 == ByteArray.toList ⟨#[105, 102]⟩)
 (J46 (.bool (ByteArray.toList s45 == ByteArray.toList ⟨#[105, 102]⟩)) h)
 (asS s_p fun s50 => ∃ J51 : Value → Hp → Prop,
 (cond (ByteArray.toList s50 == ByteArray.toList ⟨#[105, 110, 116]⟩)
 (J51 (.bool (ByteArray.toList s50 == ByteArray.toList ⟨#[105, 110, 116]⟩)) h)
 (asS s_p fun s55 => ∃ J56 : Value → Hp → Prop,
 (cond (ByteArray.toList s55 == ByteArray.toList ⟨#[108, 101, 116]⟩)
 (J56 (.bool (ByteArray.toList s55 == ByteArray.toList ⟨#[108, 101, 116]⟩)) h)
 (asS s_p fun s60 => ∃ J61 : Value → Hp → Prop,
 (cond (ByteArray.toList s60 == ByteArray.toList ⟨#[114, 101, 99, 118]⟩)
 (J61 (.bool (ByteArray.toList s60 == ByteArray.toList ⟨#[114, 101, 99, 118]⟩)) h)
 (asS s_p fun s65 => ∃ J66 : Value → Hp → Prop,
 (cond (ByteArray.toList s65 == ByteArray.toList ⟨#[114, 101, 112, 101, 97, 116]⟩)
 (J66 (.bool (ByteArray.toList s65 == ByteArray.toList ⟨#[114, 101, 112, 101, 97, 116]⟩)) h)
 (asS s_p fun s70 => ∃ J71 : Value → Hp → Prop,
 (cond (ByteArray.toList s70 == ByteArray.toList ⟨#[115, 101, 110, 100]⟩)
 (J71 (.bool (ByteArray.toList s70 == ByteArray.toList ⟨#[115, 101, 110, 100]⟩)) h)
 (asS s_p fun s75 => ∃ J76 : Value → Hp → Prop,
 (cond (ByteArray.toList s75 == ByteArray.toList ⟨#[115, 101, 116]⟩)
 (J76 (.bool (ByteArray.toList s75 == ByteArray.toList ⟨#[115, 101, 116]⟩)) h)
 (asS s_p fun s80 => ∃ J81 : Value → Hp → Prop,
 (cond (ByteArray.toList s80 == ByteArray.toList ⟨#[115, 112, 97, 119, 110]⟩)
 (J81 (.bool (ByteArray.toList s80 == ByteArray.toList ⟨#[115, 112, 97, 119, 110]⟩)) h)
 (asS s_p fun s85 => ∃ J86 : Value → Hp → Prop,
 (cond (ByteArray.toList s85 == ByteArray.toList ⟨#[115, 116, 97, 103, 101]⟩)
 (J86 (.bool (ByteArray.toList s85 == ByteArray.toList ⟨#[115, 116, 97, 103, 101]⟩)) h)
 (asS s_p fun s90 => J86 (.bool (ByteArray.toList s90 == ByteArray.toList ⟨#[116, 97, 107, 101]⟩)) h)) ∧
 ∀ t4_87 (d88 : Nat → Value) (h89 : Hp), J86 t4_87 h89 →
 J81 t4_87 h89)) ∧
 ∀ t4_82 (d83 : Nat → Value) (h84 : Hp), J81 t4_82 h84 →
 J76 t4_82 h84)) ∧
 ∀ t4_77 (d78 : Nat → Value) (h79 : Hp), J76 t4_77 h79 →
 J71 t4_77 h79)) ∧
 ∀ t4_72 (d73 : Nat → Value) (h74 : Hp), J71 t4_72 h74 →
 J66 t4_72 h74)) ∧
 ∀ t4_67 (d68 : Nat → Value) (h69 : Hp), J66 t4_67 h69 →
 J61 t4_67 h69)) ∧
 ∀ t4_62 (d63 : Nat → Value) (h64 : Hp), J61 t4_62 h64 →
 J56 t4_62 h64)) ∧
 ∀ t4_57 (d58 : Nat → Value) (h59 : Hp), J56 t4_57 h59 →
 J51 t4_57 h59)) ∧
 ∀ t4_52 (d53 : Nat → Value) (h54 : Hp), J51 t4_52 h54 →
 J46 t4_52 h54)) ∧
 ∀ t4_47 (d48 : Nat → Value) (h49 : Hp), J46 t4_47 h49 →
 J41 t4_47 h49)) ∧
 ∀ t4_42 (d43 : Nat → Value) (h44 : Hp), J41 t4_42 h44 →
 J36 t4_42 h44)) ∧
 ∀ t4_37 (d38 : Nat → Value) (h39 : Hp), J36 t4_37 h39 →
 J31 t4_37 h39)) ∧
 ∀ t4_32 (d33 : Nat → Value) (h34 : Hp), J31 t4_32 h34 →
 J26 t4_32 h34)) ∧
 ∀ t4_27 (d28 : Nat → Value) (h29 : Hp), J26 t4_27 h29 →
 J21 t4_27 h29)) ∧
 ∀ t4_22 (d23 : Nat → Value) (h24 : Hp), J21 t4_22 h24 →
 J16 t4_22 h24)) ∧
 ∀ t4_17 (d18 : Nat → Value) (h19 : Hp), J16 t4_17 h19 →
 J11 t4_17 h19)) ∧
 ∀ t4_12 (d13 : Nat → Value) (h14 : Hp), J11 t4_12 h14 →
 J6 t4_12 h14)) ∧
 ∀ t4_7 (d8 : Nat → Value) (h9 : Hp), J6 t4_7 h9 →
 J1 t4_7 h9)) ∧
 ∀ t4_2 (d3 : Nat → Value) (h4 : Hp), J1 t4_2 h4 →
 asB t4_2 fun b91 => cond b91
 (R (.bool true) h4)
 (R (.bool false) h4)
def A_token_Word : Ann :=
 (.two .leaf (.two (.two .leaf (.one (.two (.two .leaf (.join [6, 4, 7, 8, 9, 10, 11, 12, 13, 14, 15, 16, 17, 18, 19, 20, 21, 22, 23] [4] (.two .leaf (.two .leaf (.join [7, 4, 8, 9, 10, 11, 12, 13, 14, 15, 16, 17, 18, 19, 20, 21, 22, 23] [4] (.two .leaf (.two .leaf (.join [8, 4, 9, 10, 11, 12, 13, 14, 15, 16, 17, 18, 19, 20, 21, 22, 23] [4] (.two .leaf (.two .leaf (.join [9, 4, 10, 11, 12, 13, 14, 15, 16, 17, 18, 19, 20, 21, 22, 23] [4] (.two .leaf (.two .leaf (.join [10, 4, 11, 12, 13, 14, 15, 16, 17, 18, 19, 20, 21, 22, 23] [4] (.two .leaf (.two .leaf (.join [11, 4, 12, 13, 14, 15, 16, 17, 18, 19, 20, 21, 22, 23] [4] (.two .leaf (.two .leaf (.join [12, 4, 13, 14, 15, 16, 17, 18, 19, 20, 21, 22, 23] [4] (.two .leaf (.two .leaf (.join [13, 4, 14, 15, 16, 17, 18, 19, 20, 21, 22, 23] [4] (.two .leaf (.two .leaf (.join [14, 4, 15, 16, 17, 18, 19, 20, 21, 22, 23] [4] (.two .leaf (.two .leaf (.join [15, 4, 16, 17, 18, 19, 20, 21, 22, 23] [4] (.two .leaf (.two .leaf (.join [16, 4, 17, 18, 19, 20, 21, 22, 23] [4] (.two .leaf (.two .leaf (.join [17, 4, 18, 19, 20, 21, 22, 23] [4] (.two .leaf (.two .leaf (.join [18, 4, 19, 20, 21, 22, 23] [4] (.two .leaf (.two .leaf (.join [19, 4, 20, 21, 22, 23] [4] (.two .leaf (.two .leaf (.join [20, 4, 21, 22, 23] [4] (.two .leaf (.two .leaf (.join [21, 4, 22, 23] [4] (.two .leaf (.two .leaf (.join [22, 4, 23] [4] (.two .leaf (.two .leaf (.join [23, 4] [4] (.two .leaf .leaf)))))))))))))))))))))))))))))))))))))))))))))))))))))) (.two (.two .leaf .leaf) .leaf)))) (.two .leaf .leaf)))
theorem C_token_Word (ω : Amb) (s_p : Value) (h : Hp) (R : Value → Hp → Prop) (X : List PanicEntry → Hp → Prop) (hk : W_token_Word ω s_p h R X) : CallX Tryz.prog ω 82 [s_p] h R X :=
 callX_of (an := A_token_Word) Tryz.func82 ((show fnX Tryz.prog ω A_token_Word Tryz.f82 [s_p] h R X = W_token_Word ω s_p h R X by kernel_rfl) ▸ hk)

/-- pipewright/token.digit -/
abbrev n_token_digit : Nat := 83
def W_token_digit (ω : Amb) (c_p : Value) (h : Hp) (R : Value → Hp → Prop) (X : List PanicEntry → Hp → Prop) : Prop :=
 ∃ J0 : Value → Hp → Prop,
 (asK .u8 c_p fun n4 => cond (decide ((n4 : Int) ≥ 48))
 (asK .u8 c_p fun n5 => J0 (.bool (decide ((n5 : Int) ≤ 57))) h)
 (J0 (.bool false) h)) ∧
 ∀ t2_1 (d2 : Nat → Value) (h3 : Hp), J0 t2_1 h3 →
 R t2_1 h3
def A_token_digit : Ann :=
 (.two .leaf (.two (.join [3, 4, 5, 6, 7, 8, 2] [2] .leaf) .leaf))
theorem C_token_digit (ω : Amb) (c_p : Value) (h : Hp) (R : Value → Hp → Prop) (X : List PanicEntry → Hp → Prop) (hk : W_token_digit ω c_p h R X) : CallX Tryz.prog ω 83 [c_p] h R X :=
 callX_of (an := A_token_digit) Tryz.func83 ((show fnX Tryz.prog ω A_token_digit Tryz.f83 [c_p] h R X = W_token_digit ω c_p h R X by kernel_rfl) ▸ hk)

/-- pipewright/token.Name -/
abbrev n_token_Name : Nat := 92
def W_token_Name (ω : Amb) (s_p : Value) (h : Hp) (R : Value → Hp → Prop) (X : List PanicEntry → Hp → Prop) : Prop :=
 ∃ J0 : Value → Hp → Prop,
 (asS s_p fun s4 => cond (ByteArray.toList s4 == ByteArray.toList ⟨#[]⟩)
 (J0 (.bool true) h)
 (asS s_p fun s5 => cond (decide (((ByteArray.size s5 : Int) : Int) > 12))
 (J0 (.bool true) h)
 (asS s_p fun s6 => 0 ≤ (0 : Int) ∧ 0 < (ByteArray.size s6 : Int) ∧ CallX Tryz.prog ω 80 [(.int .u8 (byteAt s6 0))] h (fun r7 h8 =>
 asB r7 fun b9 => cond (!b9)
 (J0 (.bool true) h8)
 (CallX Tryz.prog ω 82 [s_p] h8 (fun r10 h11 =>
 J0 r10 h11) X)) X))) ∧
 ∀ t20_1 (d2 : Nat → Value) (h3 : Hp), J0 t20_1 h3 →
 asB t20_1 fun b12 => cond b12
 (R (.bool false) h3)
 (asS s_p fun s13 => ∃ (I14 : Value → Hp → Prop) (μ15 : Value → Hp → Nat), I14 (.int .i64 0) h3 ∧ ∀ t23_16 (d17 : Nat → Value) (h18 : Hp), I14 t23_16 h18 →
 asK .i64 t23_16 fun n19 => cond (decide ((n19 : Int) < (ByteArray.size s13 : Int)))
 (∃ J20 : Value → Hp → Prop,
 (asS s_p fun s24 => asI t23_16 fun n25 => 0 ≤ (n25 : Int) ∧ n25 < (ByteArray.size s24 : Int) ∧ CallX Tryz.prog ω 80 [(.int .u8 (byteAt s24 n25))] h18 (fun r26 h27 =>
 asB r26 fun b28 => cond (!b28)
 (asS s_p fun s29 => asI t23_16 fun n30 => 0 ≤ (n30 : Int) ∧ n30 < (ByteArray.size s29 : Int) ∧ CallX Tryz.prog ω 83 [(.int .u8 (byteAt s29 n30))] h27 (fun r31 h32 =>
 asB r31 fun b33 => J20 (.bool (!b33)) h32) X)
 (J20 (.bool false) h27)) X) ∧
 ∀ t37_21 (d22 : Nat → Value) (h23 : Hp), J20 t37_21 h23 →
 asB t37_21 fun b34 => cond b34
 (R (.bool false) h23)
 (asK .i64 t23_16 fun n35 => I14 (.int .i64 (IntKind.wrap .i64 (n35 + 1))) h23 ∧ μ15 (.int .i64 (IntKind.wrap .i64 (n35 + 1))) h23 < μ15 t23_16 h18))
 (R (.bool true) h18))
def A_token_Name : Ann :=
 (.two .leaf (.two (.two (.join [4, 5, 6, 7, 8, 9, 10, 11, 12, 13, 14, 15, 16, 17, 18, 19, 20] [20] .leaf) (.two (.two .leaf .leaf) .leaf)) (.two (.two .leaf (.one (.loop [24, 25, 3, 26, 27, 28, 29, 30, 31, 32, 33, 34, 35, 36, 37, 2, 38, 23] [23] (.two .leaf (.two (.two .leaf .leaf) (.two (.one (.two .leaf (.two (.join [26, 27, 28, 29, 30, 31, 32, 33, 34, 35, 36, 37] [37] .leaf) (.two (.two .leaf .leaf) .leaf)))) .leaf)))))) (.two .leaf .leaf))))
theorem C_token_Name (ω : Amb) (s_p : Value) (h : Hp) (R : Value → Hp → Prop) (X : List PanicEntry → Hp → Prop) (hk : W_token_Name ω s_p h R X) : CallX Tryz.prog ω 92 [s_p] h R X :=
 callX_of (an := A_token_Name) Tryz.func92 ((show fnX Tryz.prog ω A_token_Name Tryz.f92 [s_p] h R X = W_token_Name ω s_p h R X by kernel_rfl) ▸ hk)

/-- slices.EqualFunc[[]pipewright/api.Expr,[]pipewright/api.Expr,pipewright/api.Expr,pipewright/api.Expr] -/
abbrev n_slices_EqualFunc_sl_api_Expr_sl_api_Expr_api_Expr_api_Expr : Nat := 94
def W_slices_EqualFunc_sl_api_Expr_sl_api_Expr_api_Expr_api_Expr (ω : Amb) (s1_p s2_p eq_p : Value) (h : Hp) (R : Value → Hp → Prop) (X : List PanicEntry → Hp → Prop) : Prop :=
 asSl s1_p fun a0 l1 c2 => asSl s2_p fun a3 l4 c5 => cond ((l1 : Int) != ((l4 : Int) : Int))
 (R (.bool false) h)
 (asSl s1_p fun a6 l7 c8 => ∃ (I9 : Value → Hp → Prop) (μ10 : Value → Hp → Nat), I9 (.int .i64 0) h ∧ ∀ t17_11 (d12 : Nat → Value) (h13 : Hp), I9 t17_11 h13 →
 asK .i64 t17_11 fun n14 => cond (decide ((n14 : Int) < (l7 : Int)))
 (asSl1 s1_p fun a15 l16 c17 => asI t17_11 fun n18 => 0 ≤ (n18 : Int) ∧ n18 < (l16 : Int) ∧ ∃ C19, cellsH h13 (Addr.add a15 (Int.toNat n18 * 4)) 4 C19 ∧
 C19.toArray.size = 4 ∧ (∀ u ∈ C19.toArray.toList, one u) ∧ storeK (Array.push h13 (.cells #[(.int .i64 0), (.string ⟨#[]⟩), (.int .i64 0), (.slice none 0 0)] 36 (0, 0))) ⟨Array.size h13, 0, none⟩ C19.toArray.toList fun h20 =>
 asSl1 s2_p fun a21 l22 c23 => asI t17_11 fun n24 => 0 ≤ (n24 : Int) ∧ n24 < (l22 : Int) ∧ ∃ C25, cellsH h20 (Addr.add a21 (Int.toNat n24 * 4)) 4 C25 ∧
 C25.toArray.size = 4 ∧ (∀ u ∈ C25.toArray.toList, one u) ∧ storeK (Array.push h20 (.cells #[(.int .i64 0), (.string ⟨#[]⟩), (.int .i64 0), (.slice none 0 0)] 36 (0, 0))) ⟨Array.size h20, 0, none⟩ C25.toArray.toList fun h26 =>
 ∃ C27, cellsH h26 ⟨Array.size h13, 0, none⟩ 4 C27 ∧
 ∃ C28, cellsH h26 ⟨Array.size h20, 0, none⟩ 4 C28 ∧
 callK Tryz.prog ω eq_p [(.agg C27.toArray), (.agg C28.toArray)] h26 (fun r29 h30 =>
 asB r29 fun b31 => cond (!b31)
 (R (.bool false) h30)
 (asK .i64 t17_11 fun n32 => I9 (.int .i64 (IntKind.wrap .i64 (n32 + 1))) h30 ∧ μ10 (.int .i64 (IntKind.wrap .i64 (n32 + 1))) h30 < μ10 t17_11 h13)) X)
 (R (.bool true) h13))
def A_slices_EqualFunc_sl_api_Expr_sl_api_Expr_api_Expr_api_Expr : Ann :=
 (.two .leaf (.two (.two .leaf (.two (.two .leaf .leaf) .leaf)) (.two (.two .leaf (.one (.loop [18, 19, 20, 21, 8, 7, 22, 23, 24, 25, 9, 26, 27, 28, 29, 30, 6, 31, 17] [17] (.two .leaf (.two (.two .leaf .leaf) (.two (.one (.two .leaf (.two .leaf (.two .leaf (.two (.two .leaf .leaf) .leaf))))) .leaf)))))) (.two .leaf .leaf))))
theorem C_slices_EqualFunc_sl_api_Expr_sl_api_Expr_api_Expr_api_Expr (ω : Amb) (s1_p s2_p eq_p : Value) (h : Hp) (R : Value → Hp → Prop) (X : List PanicEntry → Hp → Prop) (hk : W_slices_EqualFunc_sl_api_Expr_sl_api_Expr_api_Expr_api_Expr ω s1_p s2_p eq_p h R X) : CallX Tryz.prog ω 94 [s1_p, s2_p, eq_p] h R X :=
 callX_of (an := A_slices_EqualFunc_sl_api_Expr_sl_api_Expr_api_Expr_api_Expr) Tryz.func94 ((show fnX Tryz.prog ω A_slices_EqualFunc_sl_api_Expr_sl_api_Expr_api_Expr_api_Expr Tryz.f94 [s1_p, s2_p, eq_p] h R X = W_slices_EqualFunc_sl_api_Expr_sl_api_Expr_api_Expr_api_Expr ω s1_p s2_p eq_p h R X by kernel_rfl) ▸ hk)

/-- pipewright/syntax.sameExpr -/
abbrev n_syntax_sameExpr : Nat := 95
def W_syntax_sameExpr (ω : Amb) (a_p b_p : Value) (h : Hp) (R : Value → Hp → Prop) (X : List PanicEntry → Hp → Prop) : Prop :=
 ∃ J0 : Value → Hp → Prop,
 (∃ v4, cellH (Array.push (Array.push h (.cells (Value.cells a_p) 36 (0, 0))) (.cells (Value.cells b_p) 36 (0, 0))) (Addr.add ⟨Array.size h, 0, none⟩ 0) = some v4 ∧
 ∃ v5, cellH (Array.push (Array.push h (.cells (Value.cells a_p) 36 (0, 0))) (.cells (Value.cells b_p) 36 (0, 0))) (Addr.add ⟨Array.size (Array.push h (.cells (Value.cells a_p) 36 (0, 0))), 0, none⟩ 0) = some v5 ∧
 asK .i64 v4 fun n6 => asK .i64 v5 fun n7 => cond (n6 == (n7 : Int))
 (∃ v8, cellH (Array.push (Array.push h (.cells (Value.cells a_p) 36 (0, 0))) (.cells (Value.cells b_p) 36 (0, 0))) (Addr.add ⟨Array.size h, 0, none⟩ 1) = some v8 ∧
 ∃ v9, cellH (Array.push (Array.push h (.cells (Value.cells a_p) 36 (0, 0))) (.cells (Value.cells b_p) 36 (0, 0))) (Addr.add ⟨Array.size (Array.push h (.cells (Value.cells a_p) 36 (0, 0))), 0, none⟩ 1) = some v9 ∧
 asS v8 fun s10 => asS v9 fun s11 => cond (ByteArray.toList s10 == ByteArray.toList s11)
 (∃ v12, cellH (Array.push (Array.push h (.cells (Value.cells a_p) 36 (0, 0))) (.cells (Value.cells b_p) 36 (0, 0))) (Addr.add ⟨Array.size h, 0, none⟩ 2) = some v12 ∧
 ∃ v13, cellH (Array.push (Array.push h (.cells (Value.cells a_p) 36 (0, 0))) (.cells (Value.cells b_p) 36 (0, 0))) (Addr.add ⟨Array.size (Array.push h (.cells (Value.cells a_p) 36 (0, 0))), 0, none⟩ 2) = some v13 ∧
 asK .i64 v12 fun n14 => asK .i64 v13 fun n15 => cond (n14 == (n15 : Int))
 (∃ v16, cellH (Array.push (Array.push h (.cells (Value.cells a_p) 36 (0, 0))) (.cells (Value.cells b_p) 36 (0, 0))) (Addr.add ⟨Array.size h, 0, none⟩ 3) = some v16 ∧
 ∃ v17, cellH (Array.push (Array.push h (.cells (Value.cells a_p) 36 (0, 0))) (.cells (Value.cells b_p) 36 (0, 0))) (Addr.add ⟨Array.size (Array.push h (.cells (Value.cells a_p) 36 (0, 0))), 0, none⟩ 3) = some v17 ∧
 CallX Tryz.prog ω 94 [v16, v17, (.func (.func 95) #[] #[])] (Array.push (Array.push h (.cells (Value.cells a_p) 36 (0, 0))) (.cells (Value.cells b_p) 36 (0, 0))) (fun r18 h19 =>
 J0 r18 h19) X)
 (J0 (.bool false) (Array.push (Array.push h (.cells (Value.cells a_p) 36 (0, 0))) (.cells (Value.cells b_p) 36 (0, 0)))))
 (J0 (.bool false) (Array.push (Array.push h (.cells (Value.cells a_p) 36 (0, 0))) (.cells (Value.cells b_p) 36 (0, 0)))))
 (J0 (.bool false) (Array.push (Array.push h (.cells (Value.cells a_p) 36 (0, 0))) (.cells (Value.cells b_p) 36 (0, 0))))) ∧
 ∀ t4_1 (d2 : Nat → Value) (h3 : Hp), J0 t4_1 h3 →
 R t4_1 h3
def A_syntax_sameExpr : Ann :=
 (.two .leaf (.two (.join [5, 6, 7, 8, 9, 10, 11, 12, 13, 14, 15, 16, 17, 18, 19, 20, 21, 22, 23, 24, 25, 26, 27, 28, 29, 30, 4] [4] .leaf) .leaf))
theorem C_syntax_sameExpr (ω : Amb) (a_p b_p : Value) (h : Hp) (R : Value → Hp → Prop) (X : List PanicEntry → Hp → Prop) (hk : W_syntax_sameExpr ω a_p b_p h R X) : CallX Tryz.prog ω 95 [a_p, b_p] h R X :=
 callX_of (an := A_syntax_sameExpr) Tryz.func95 ((show fnX Tryz.prog ω A_syntax_sameExpr Tryz.f95 [a_p, b_p] h R X = W_syntax_sameExpr ω a_p b_p h R X by kernel_rfl) ▸ hk)

end Go.Proofs.YtkeeboomikkojaaGreatDoor.Sx
