/- Formulas of the functions' texts, written by a program of ours; each is checked by the kernel. -/
import Derived.Test.YtaehnpilebkcoaaDoorSxCore
import Derived.KernelRfl
import Derived.Test.YtaehnpilebkcoaaDoorProg
set_option linter.unusedVariables false
set_option maxRecDepth 100000
namespace Go.Proofs.YtaehnpilebkcoaaDoor.Sx
open Go Go.Sx Go.Proofs

/-- pipewright/pipewrightref.CopyProgram -/
abbrev n_pipewrightref_CopyProgram : Nat := 13
def W_pipewrightref_CopyProgram (ω : Amb) (p_p : Value) (h : Hp) (R : Value → Hp → Prop) (X : List PanicEntry → Hp → Prop) : Prop :=
 ∃ (I0 : Value → Hp → Prop) (μ1 : Value → Hp → Nat), I0 (.int .i64 0) (Array.push (Array.push (Array.push h (.cells (Value.cells p_p) 24 (0, 0))) (.cells #[(.slice none 0 0)] 24 (0, 0))) (.cells #[(.slice none 0 0)] 24 (0, 0))) ∧ ∀ i_2 (d3 : Nat → Value) (h4 : Hp), I0 i_2 h4 →
 ∃ v5, cellH h4 (Addr.add ⟨Array.size h, 0, none⟩ 0) = some v5 ∧
 asSl v5 fun a6 l7 c8 => asK .i64 i_2 fun n9 => cond (decide ((n9 : Int) < (l7 : Int)))
 (∃ v10, cellH h4 (Addr.add ⟨Array.size h, 0, none⟩ 0) = some v10 ∧
 asSl1 v10 fun a11 l12 c13 => asI i_2 fun n14 => 0 ≤ (n14 : Int) ∧ n14 < (l12 : Int) ∧ ∃ C15, cellsH h4 (Addr.add a11 (Int.toNat n14 * 4)) 4 C15 ∧
 C15.toArray.size = 4 ∧ (∀ u ∈ C15.toArray.toList, one u) ∧ storeK (Array.push h4 (.cells #[(.string ⟨#[]⟩), (.int .i64 0), (.slice none 0 0), (.slice none 0 0)] 51 (0, 0))) ⟨Array.size h4, 0, none⟩ C15.toArray.toList fun h16 =>
 ∃ v17, cellH h16 (Addr.add ⟨Array.size h4, 0, none⟩ 2) = some v17 ∧
 appK Tryd.prog 48 h16 (.slice none 0 0) v17 fun w18 h19 =>
 oneK w18 (storeK1 h19 (Addr.add ⟨Array.size h4, 0, none⟩ 2) w18 fun h20 =>
 ∃ v21, cellH h20 (Addr.add ⟨Array.size h4, 0, none⟩ 3) = some v21 ∧
 CallX Tryd.prog ω 30 [v21] h20 (fun r22 h23 =>
 oneK r22 (storeK1 h23 (Addr.add ⟨Array.size h4, 0, none⟩ 3) r22 fun h24 =>
 ∃ v25, cellH h24 (Addr.add ⟨Array.size (Array.push (Array.push h (.cells (Value.cells p_p) 24 (0, 0))) (.cells #[(.slice none 0 0)] 24 (0, 0))), 0, none⟩ 0) = some v25 ∧
 ∃ C26, cellsH h24 ⟨Array.size h4, 0, none⟩ 4 C26 ∧
 C26.toArray.size = 4 ∧ appK Tryd.prog 22 (Array.push h24 (.cells (List.toArray (C26.toArray.toList ++ [])) 51 (0, 0))) v25 (.slice (some ⟨Array.size h24, 0, none⟩) 1 1) fun w27 h28 =>
 oneK w27 (storeK1 h28 (Addr.add ⟨Array.size (Array.push (Array.push h (.cells (Value.cells p_p) 24 (0, 0))) (.cells #[(.slice none 0 0)] 24 (0, 0))), 0, none⟩ 0) w27 fun h29 =>
 asK .i64 i_2 fun n30 => I0 (.int .i64 (IntKind.wrap .i64 (n30 + 1))) h29 ∧ μ1 (.int .i64 (IntKind.wrap .i64 (n30 + 1))) h29 < μ1 i_2 h4))) X))
 (∃ C31, cellsH h4 ⟨Array.size (Array.push (Array.push h (.cells (Value.cells p_p) 24 (0, 0))) (.cells #[(.slice none 0 0)] 24 (0, 0))), 0, none⟩ 1 C31 ∧
 C31.toArray.size = 1 ∧ (∀ u ∈ C31.toArray.toList, one u) ∧ storeK h4 ⟨Array.size (Array.push h (.cells (Value.cells p_p) 24 (0, 0))), 0, none⟩ C31.toArray.toList fun h32 =>
 ∃ C33, cellsH h32 ⟨Array.size (Array.push h (.cells (Value.cells p_p) 24 (0, 0))), 0, none⟩ 1 C33 ∧ R (.agg C33.toArray) h32)
def A_pipewrightref_CopyProgram : Ann :=
 (.two .leaf (.two .leaf (.two (.two .leaf (.one (.loop [7, 8, 9, 10, 11, 14, 15, 16, 17, 18, 5, 6, 19, 20, 21, 22, 23, 24, 25, 26, 27, 28, 29, 30, 31, 32, 33, 12, 13, 4] [4] (.two (.two .leaf (.two .leaf .leaf)) (.two (.one (.two .leaf (.two .leaf (.two .leaf (.two .leaf .leaf))))) .leaf))))) (.two .leaf .leaf))))
theorem C_pipewrightref_CopyProgram (ω : Amb) (p_p : Value) (h : Hp) (R : Value → Hp → Prop) (X : List PanicEntry → Hp → Prop) (hk : W_pipewrightref_CopyProgram ω p_p h R X) : CallX Tryd.prog ω 13 [p_p] h R X :=
 callX_of (an := A_pipewrightref_CopyProgram) Tryd.func13 ((show fnX Tryd.prog ω A_pipewrightref_CopyProgram Tryd.f13 [p_p] h R X = W_pipewrightref_CopyProgram ω p_p h R X by kernel_rfl) ▸ hk)

/-- pipewright/syntax.Same -/
abbrev n_syntax_Same : Nat := 20
def W_syntax_Same (ω : Amb) (a_p b_p : Value) (h : Hp) (R : Value → Hp → Prop) (X : List PanicEntry → Hp → Prop) : Prop :=
 ∃ v0, cellH (Array.push (Array.push h (.cells (Value.cells a_p) 24 (0, 0))) (.cells (Value.cells b_p) 24 (0, 0))) (Addr.add ⟨Array.size h, 0, none⟩ 0) = some v0 ∧
 ∃ v1, cellH (Array.push (Array.push h (.cells (Value.cells a_p) 24 (0, 0))) (.cells (Value.cells b_p) 24 (0, 0))) (Addr.add ⟨Array.size (Array.push h (.cells (Value.cells a_p) 24 (0, 0))), 0, none⟩ 0) = some v1 ∧
 CallX Tryd.prog ω 36 [v0, v1, (.func (.func 37) #[] #[])] (Array.push (Array.push h (.cells (Value.cells a_p) 24 (0, 0))) (.cells (Value.cells b_p) 24 (0, 0))) (fun r2 h3 =>
 R r2 h3) X
def A_syntax_Same : Ann :=
 (.two .leaf (.two .leaf .leaf))
theorem C_syntax_Same (ω : Amb) (a_p b_p : Value) (h : Hp) (R : Value → Hp → Prop) (X : List PanicEntry → Hp → Prop) (hk : W_syntax_Same ω a_p b_p h R X) : CallX Tryd.prog ω 20 [a_p, b_p] h R X :=
 callX_of (an := A_syntax_Same) Tryd.func20 ((show fnX Tryd.prog ω A_syntax_Same Tryd.f20 [a_p, b_p] h R X = W_syntax_Same ω a_p b_p h R X by kernel_rfl) ▸ hk)

/-- pipewright/syntax.Count -/
abbrev n_syntax_Count : Nat := 24
def W_syntax_Count (ω : Amb) (p_p : Value) (h : Hp) (R : Value → Hp → Prop) (X : List PanicEntry → Hp → Prop) : Prop :=
 ∃ v0, cellH (Array.push h (.cells (Value.cells p_p) 24 (0, 0))) (Addr.add ⟨Array.size h, 0, none⟩ 0) = some v0 ∧
 asSl v0 fun a1 l2 c3 => ∃ (I4 : Value → Value → Hp → Prop) (μ5 : Value → Value → Hp → Nat), I4 (.int .i64 0) (.int .i64 0) (Array.push h (.cells (Value.cells p_p) 24 (0, 0))) ∧ ∀ n_6 t9_7 (d8 : Nat → Value) (h9 : Hp), I4 n_6 t9_7 h9 →
 asK .i64 t9_7 fun n10 => cond (decide ((n10 : Int) < (l2 : Int)))
 (asSl1 v0 fun a11 l12 c13 => asI t9_7 fun n14 => 0 ≤ (n14 : Int) ∧ n14 < (l12 : Int) ∧ ∃ C15, cellsH h9 (Addr.add a11 (Int.toNat n14 * 4)) 4 C15 ∧
 C15.toArray.size = 4 ∧ (∀ u ∈ C15.toArray.toList, one u) ∧ storeK (Array.push h9 (.cells #[(.string ⟨#[]⟩), (.int .i64 0), (.slice none 0 0), (.slice none 0 0)] 51 (0, 0))) ⟨Array.size h9, 0, none⟩ C15.toArray.toList fun h16 =>
 ∃ v17, cellH h16 (Addr.add ⟨Array.size h9, 0, none⟩ 3) = some v17 ∧
 CallX Tryd.prog ω 50 [v17] h16 (fun r18 h19 =>
 asK .i64 n_6 fun n20 => asK .i64 r18 fun n21 => asK .i64 t9_7 fun n22 => I4 (.int .i64 (IntKind.wrap .i64 (n20 + n21))) (.int .i64 (IntKind.wrap .i64 (n22 + 1))) h19 ∧ μ5 (.int .i64 (IntKind.wrap .i64 (n20 + n21))) (.int .i64 (IntKind.wrap .i64 (n22 + 1))) h19 < μ5 n_6 t9_7 h9) X)
 (R n_6 h9)
def A_syntax_Count : Ann :=
 (.two .leaf (.two .leaf (.two (.two .leaf (.one (.loop [10, 11, 12, 5, 13, 14, 15, 16, 17, 3, 18, 9] [3, 9] (.two .leaf (.two (.two .leaf .leaf) (.two (.one (.two .leaf .leaf)) .leaf)))))) (.two .leaf .leaf))))
theorem C_syntax_Count (ω : Amb) (p_p : Value) (h : Hp) (R : Value → Hp → Prop) (X : List PanicEntry → Hp → Prop) (hk : W_syntax_Count ω p_p h R X) : CallX Tryd.prog ω 24 [p_p] h R X :=
 callX_of (an := A_syntax_Count) Tryd.func24 ((show fnX Tryd.prog ω A_syntax_Count Tryd.f24 [p_p] h R X = W_syntax_Count ω p_p h R X by kernel_rfl) ▸ hk)

/-- pipewright/pipewrightref.Count -/
abbrev n_pipewrightref_Count : Nat := 25
def W_pipewrightref_Count (ω : Amb) (p_p : Value) (h : Hp) (R : Value → Hp → Prop) (X : List PanicEntry → Hp → Prop) : Prop :=
 ∃ (I0 : Value → Value → Hp → Prop) (μ1 : Value → Value → Hp → Nat), I0 (.int .i64 0) (.int .i64 0) (Array.push h (.cells (Value.cells p_p) 24 (0, 0))) ∧ ∀ n_2 i_3 (d4 : Nat → Value) (h5 : Hp), I0 n_2 i_3 h5 →
 ∃ v6, cellH h5 (Addr.add ⟨Array.size h, 0, none⟩ 0) = some v6 ∧
 asSl v6 fun a7 l8 c9 => asK .i64 i_3 fun n10 => cond (decide ((n10 : Int) < (l8 : Int)))
 (∃ v11, cellH h5 (Addr.add ⟨Array.size h, 0, none⟩ 0) = some v11 ∧
 asSl1 v11 fun a12 l13 c14 => asI i_3 fun n15 => 0 ≤ (n15 : Int) ∧ n15 < (l13 : Int) ∧ ∃ v16, cellH h5 (Addr.add (Addr.add a12 (Int.toNat n15 * 4)) 3) = some v16 ∧
 CallX Tryd.prog ω 51 [v16] h5 (fun r17 h18 =>
 asK .i64 n_2 fun n19 => asK .i64 r17 fun n20 => asK .i64 i_3 fun n21 => I0 (.int .i64 (IntKind.wrap .i64 (n19 + n20))) (.int .i64 (IntKind.wrap .i64 (n21 + 1))) h18 ∧ μ1 (.int .i64 (IntKind.wrap .i64 (n19 + n20))) (.int .i64 (IntKind.wrap .i64 (n21 + 1))) h18 < μ1 n_2 i_3 h5) X)
 (R n_2 h5)
def A_pipewrightref_Count : Ann :=
 (.two .leaf (.two .leaf (.two (.two .leaf (.one (.loop [5, 6, 7, 8, 9, 12, 13, 14, 15, 16, 17, 18, 19, 20, 3, 10, 11, 4] [3, 4] (.two (.two .leaf (.two .leaf .leaf)) (.two (.one .leaf) .leaf))))) (.two .leaf .leaf))))
theorem C_pipewrightref_Count (ω : Amb) (p_p : Value) (h : Hp) (R : Value → Hp → Prop) (X : List PanicEntry → Hp → Prop) (hk : W_pipewrightref_Count ω p_p h R X) : CallX Tryd.prog ω 25 [p_p] h R X :=
 callX_of (an := A_pipewrightref_Count) Tryd.func25 ((show fnX Tryd.prog ω A_pipewrightref_Count Tryd.f25 [p_p] h R X = W_pipewrightref_Count ω p_p h R X by kernel_rfl) ▸ hk)

/-- pipewright/pipewrightref.copyStmts -/
abbrev n_pipewrightref_copyStmts : Nat := 30
def W_pipewrightref_copyStmts (ω : Amb) (l_p : Value) (h : Hp) (R : Value → Hp → Prop) (X : List PanicEntry → Hp → Prop) : Prop :=
 ∃ (I0 : Value → Value → Hp → Prop) (μ1 : Value → Value → Hp → Nat), I0 (.slice none 0 0) (.int .i64 0) h ∧ ∀ out_2 i_3 (d4 : Nat → Value) (h5 : Hp), I0 out_2 i_3 h5 →
 asSl l_p fun a6 l7 c8 => asK .i64 i_3 fun n9 => cond (decide ((n9 : Int) < (l7 : Int)))
 (asSl1 l_p fun a10 l11 c12 => asI i_3 fun n13 => 0 ≤ (n13 : Int) ∧ n13 < (l11 : Int) ∧ ∃ C14, cellsH h5 (Addr.add a10 (Int.toNat n13 * 9)) 9 C14 ∧
 C14.toArray.size = 9 ∧ (∀ u ∈ C14.toArray.toList, one u) ∧ storeK (Array.push h5 (.cells #[(.int .i64 0), (.int .i64 0), (.string ⟨#[]⟩), (.string ⟨#[]⟩), (.string ⟨#[]⟩), (.int .i64 0), (.slice none 0 0), (.slice none 0 0), (.slice none 0 0)] 65 (0, 0))) ⟨Array.size h5, 0, none⟩ C14.toArray.toList fun h15 =>
 ∃ v16, cellH h15 (Addr.add ⟨Array.size h5, 0, none⟩ 6) = some v16 ∧
 CallX Tryd.prog ω 66 [v16] h15 (fun r17 h18 =>
 oneK r17 (storeK1 h18 (Addr.add ⟨Array.size h5, 0, none⟩ 6) r17 fun h19 =>
 ∃ v20, cellH h19 (Addr.add ⟨Array.size h5, 0, none⟩ 7) = some v20 ∧
 CallX Tryd.prog ω 30 [v20] h19 (fun r21 h22 =>
 oneK r21 (storeK1 h22 (Addr.add ⟨Array.size h5, 0, none⟩ 7) r21 fun h23 =>
 ∃ v24, cellH h23 (Addr.add ⟨Array.size h5, 0, none⟩ 8) = some v24 ∧
 CallX Tryd.prog ω 30 [v24] h23 (fun r25 h26 =>
 oneK r25 (storeK1 h26 (Addr.add ⟨Array.size h5, 0, none⟩ 8) r25 fun h27 =>
 ∃ C28, cellsH h27 ⟨Array.size h5, 0, none⟩ 9 C28 ∧
 C28.toArray.size = 9 ∧ appK Tryd.prog 49 (Array.push h27 (.cells (List.toArray (C28.toArray.toList ++ [])) 65 (0, 0))) out_2 (.slice (some ⟨Array.size h27, 0, none⟩) 1 1) fun w29 h30 =>
 asK .i64 i_3 fun n31 => I0 w29 (.int .i64 (IntKind.wrap .i64 (n31 + 1))) h30 ∧ μ1 w29 (.int .i64 (IntKind.wrap .i64 (n31 + 1))) h30 < μ1 out_2 i_3 h5)) X)) X)) X)
 (R out_2 h5)
def A_pipewrightref_copyStmts : Ann :=
 (.two .leaf (.two .leaf (.two (.two .leaf (.one (.loop [6, 7, 8, 9, 12, 13, 14, 15, 5, 16, 17, 18, 19, 20, 21, 22, 23, 24, 25, 26, 27, 28, 29, 30, 31, 3, 10, 11, 4] [3, 4] (.two (.two .leaf (.two .leaf .leaf)) (.two (.one (.two .leaf (.two .leaf (.two .leaf (.two .leaf .leaf))))) .leaf))))) (.two .leaf .leaf))))
theorem C_pipewrightref_copyStmts (ω : Amb) (l_p : Value) (h : Hp) (R : Value → Hp → Prop) (X : List PanicEntry → Hp → Prop) (hk : W_pipewrightref_copyStmts ω l_p h R X) : CallX Tryd.prog ω 30 [l_p] h R X :=
 callX_of (an := A_pipewrightref_copyStmts) Tryd.func30 ((show fnX Tryd.prog ω A_pipewrightref_copyStmts Tryd.f30 [l_p] h R X = W_pipewrightref_copyStmts ω l_p h R X by kernel_rfl) ▸ hk)

/-- pipewright/pipewrightref.F -/
abbrev n_pipewrightref_F : Nat := 32
def W_pipewrightref_F (ω : Amb) (code_p at_p : Value) (h : Hp) (R : Value → Hp → Prop) (X : List PanicEntry → Hp → Prop) : Prop :=
 oneK code_p (oneK at_p (2 = 2 ∧ (∀ u ∈ [code_p, at_p], one u) ∧ storeK (Array.push h (.cells #[(.int .i64 0), (.int .i64 0)] 28 (0, 0))) ⟨Array.size h, 0, none⟩ [code_p, at_p] fun h0 =>
 ∃ C1, cellsH h0 ⟨Array.size h, 0, none⟩ 2 C1 ∧ R (.agg C1.toArray) h0))
def A_pipewrightref_F : Ann :=
 (.two .leaf (.two .leaf .leaf))
theorem C_pipewrightref_F (ω : Amb) (code_p at_p : Value) (h : Hp) (R : Value → Hp → Prop) (X : List PanicEntry → Hp → Prop) (hk : W_pipewrightref_F ω code_p at_p h R X) : CallX Tryd.prog ω 32 [code_p, at_p] h R X :=
 callX_of (an := A_pipewrightref_F) Tryd.func32 ((show fnX Tryd.prog ω A_pipewrightref_F Tryd.f32 [code_p, at_p] h R X = W_pipewrightref_F ω code_p at_p h R X by kernel_rfl) ▸ hk)

def W_slices_EqualFunc_sl_api_Stage_sl_api_Stage_api_Stage_api_Stage (ω : Amb) (s1_p s2_p eq_p : Value) (h : Hp) (R : Value → Hp → Prop) (X : List PanicEntry → Hp → Prop) : Prop :=
 asSl s1_p fun a0 l1 c2 => asSl s2_p fun a3 l4 c5 => cond ((l1 : Int) != ((l4 : Int) : Int))
 (R (.bool false) h)
 (asSl s1_p fun a6 l7 c8 => ∃ (I9 : Value → Hp → Prop) (μ10 : Value → Hp → Nat), I9 (.int .i64 0) h ∧ ∀ t17_11 (d12 : Nat → Value) (h13 : Hp), I9 t17_11 h13 →
 asK .i64 t17_11 fun n14 => cond (decide ((n14 : Int) < (l7 : Int)))
 (asSl1 s1_p fun a15 l16 c17 => asI t17_11 fun n18 => 0 ≤ (n18 : Int) ∧ n18 < (l16 : Int) ∧ ∃ C19, cellsH h13 (Addr.add a15 (Int.toNat n18 * 4)) 4 C19 ∧
 C19.toArray.size = 4 ∧ (∀ u ∈ C19.toArray.toList, one u) ∧ storeK (Array.push h13 (.cells #[(.string ⟨#[]⟩), (.int .i64 0), (.slice none 0 0), (.slice none 0 0)] 51 (0, 0))) ⟨Array.size h13, 0, none⟩ C19.toArray.toList fun h20 =>
 asSl1 s2_p fun a21 l22 c23 => asI t17_11 fun n24 => 0 ≤ (n24 : Int) ∧ n24 < (l22 : Int) ∧ ∃ C25, cellsH h20 (Addr.add a21 (Int.toNat n24 * 4)) 4 C25 ∧
 C25.toArray.size = 4 ∧ (∀ u ∈ C25.toArray.toList, one u) ∧ storeK (Array.push h20 (.cells #[(.string ⟨#[]⟩), (.int .i64 0), (.slice none 0 0), (.slice none 0 0)] 51 (0, 0))) ⟨Array.size h20, 0, none⟩ C25.toArray.toList fun h26 =>
 ∃ C27, cellsH h26 ⟨Array.size h13, 0, none⟩ 4 C27 ∧
 ∃ C28, cellsH h26 ⟨Array.size h20, 0, none⟩ 4 C28 ∧
 callK Tryd.prog ω eq_p [(.agg C27.toArray), (.agg C28.toArray)] h26 (fun r29 h30 =>
 asB r29 fun b31 => cond (!b31)
 (R (.bool false) h30)
 (asK .i64 t17_11 fun n32 => I9 (.int .i64 (IntKind.wrap .i64 (n32 + 1))) h30 ∧ μ10 (.int .i64 (IntKind.wrap .i64 (n32 + 1))) h30 < μ10 t17_11 h13)) X)
 (R (.bool true) h13))
def A_slices_EqualFunc_sl_api_Stage_sl_api_Stage_api_Stage_api_Stage : Ann :=
 (.two .leaf (.two (.two .leaf (.two (.two .leaf .leaf) .leaf)) (.two (.two .leaf (.one (.loop [18, 19, 20, 21, 8, 7, 22, 23, 24, 25, 9, 26, 27, 28, 29, 30, 6, 31, 17] [17] (.two .leaf (.two (.two .leaf .leaf) (.two (.one (.two .leaf (.two .leaf (.two .leaf (.two (.two .leaf .leaf) .leaf))))) .leaf)))))) (.two .leaf .leaf))))
theorem C_slices_EqualFunc_sl_api_Stage_sl_api_Stage_api_Stage_api_Stage (ω : Amb) (s1_p s2_p eq_p : Value) (h : Hp) (R : Value → Hp → Prop) (X : List PanicEntry → Hp → Prop) (hk : W_slices_EqualFunc_sl_api_Stage_sl_api_Stage_api_Stage_api_Stage ω s1_p s2_p eq_p h R X) : CallX Tryd.prog ω 36 [s1_p, s2_p, eq_p] h R X :=
 callX_of (an := A_slices_EqualFunc_sl_api_Stage_sl_api_Stage_api_Stage_api_Stage) Tryd.func36 ((show fnX Tryd.prog ω A_slices_EqualFunc_sl_api_Stage_sl_api_Stage_api_Stage_api_Stage Tryd.f36 [s1_p, s2_p, eq_p] h R X = W_slices_EqualFunc_sl_api_Stage_sl_api_Stage_api_Stage_api_Stage ω s1_p s2_p eq_p h R X by kernel_rfl) ▸ hk)

/-- pipewright/syntax.sameStage -/
abbrev n_syntax_sameStage : Nat := 37
def W_syntax_sameStage (ω : Amb) (a_p b_p : Value) (h : Hp) (R : Value → Hp → Prop) (X : List PanicEntry → Hp → Prop) : Prop :=
 ∃ J0 : Value → Hp → Prop,
 (∃ v4, cellH (Array.push (Array.push h (.cells (Value.cells a_p) 51 (0, 0))) (.cells (Value.cells b_p) 51 (0, 0))) (Addr.add ⟨Array.size h, 0, none⟩ 0) = some v4 ∧
 ∃ v5, cellH (Array.push (Array.push h (.cells (Value.cells a_p) 51 (0, 0))) (.cells (Value.cells b_p) 51 (0, 0))) (Addr.add ⟨Array.size (Array.push h (.cells (Value.cells a_p) 51 (0, 0))), 0, none⟩ 0) = some v5 ∧
 asS v4 fun s6 => asS v5 fun s7 => cond (ByteArray.toList s6 == ByteArray.toList s7)
 (∃ v8, cellH (Array.push (Array.push h (.cells (Value.cells a_p) 51 (0, 0))) (.cells (Value.cells b_p) 51 (0, 0))) (Addr.add ⟨Array.size h, 0, none⟩ 2) = some v8 ∧
 ∃ v9, cellH (Array.push (Array.push h (.cells (Value.cells a_p) 51 (0, 0))) (.cells (Value.cells b_p) 51 (0, 0))) (Addr.add ⟨Array.size (Array.push h (.cells (Value.cells a_p) 51 (0, 0))), 0, none⟩ 2) = some v9 ∧
 CallX Tryd.prog ω 71 [v8, v9] (Array.push (Array.push h (.cells (Value.cells a_p) 51 (0, 0))) (.cells (Value.cells b_p) 51 (0, 0))) (fun r10 h11 =>
 asB r10 fun b12 => cond b12
 (∃ v13, cellH h11 (Addr.add ⟨Array.size h, 0, none⟩ 3) = some v13 ∧
 ∃ v14, cellH h11 (Addr.add ⟨Array.size (Array.push h (.cells (Value.cells a_p) 51 (0, 0))), 0, none⟩ 3) = some v14 ∧
 CallX Tryd.prog ω 72 [v13, v14, (.func (.func 73) #[] #[])] h11 (fun r15 h16 =>
 J0 r15 h16) X)
 (J0 (.bool false) h11)) X)
 (J0 (.bool false) (Array.push (Array.push h (.cells (Value.cells a_p) 51 (0, 0))) (.cells (Value.cells b_p) 51 (0, 0))))) ∧
 ∀ t4_1 (d2 : Nat → Value) (h3 : Hp), J0 t4_1 h3 →
 R t4_1 h3
def A_syntax_sameStage : Ann :=
 (.two .leaf (.two (.join [5, 6, 7, 8, 9, 10, 11, 12, 13, 14, 15, 16, 17, 18, 19, 20, 21, 22, 23, 4] [4] .leaf) .leaf))
theorem C_syntax_sameStage (ω : Amb) (a_p b_p : Value) (h : Hp) (R : Value → Hp → Prop) (X : List PanicEntry → Hp → Prop) (hk : W_syntax_sameStage ω a_p b_p h R X) : CallX Tryd.prog ω 37 [a_p, b_p] h R X :=
 callX_of (an := A_syntax_sameStage) Tryd.func37 ((show fnX Tryd.prog ω A_syntax_sameStage Tryd.f37 [a_p, b_p] h R X = W_syntax_sameStage ω a_p b_p h R X by kernel_rfl) ▸ hk)

/-- pipewright/syntax.count -/
abbrev n_syntax_count : Nat := 50
def W_syntax_count (ω : Amb) (l_p : Value) (h : Hp) (R : Value → Hp → Prop) (X : List PanicEntry → Hp → Prop) : Prop :=
 asSl l_p fun a0 l1 c2 => ∃ (I3 : Value → Value → Hp → Prop) (μ4 : Value → Value → Hp → Nat), I3 (.int .i64 0) (.int .i64 0) h ∧ ∀ n_5 t8_6 (d7 : Nat → Value) (h8 : Hp), I3 n_5 t8_6 h8 →
 asK .i64 t8_6 fun n9 => cond (decide ((n9 : Int) < (l1 : Int)))
 (asSl1 l_p fun a10 l11 c12 => asI t8_6 fun n13 => 0 ≤ (n13 : Int) ∧ n13 < (l11 : Int) ∧ ∃ C14, cellsH h8 (Addr.add a10 (Int.toNat n13 * 9)) 9 C14 ∧
 C14.toArray.size = 9 ∧ (∀ u ∈ C14.toArray.toList, one u) ∧ storeK (Array.push h8 (.cells #[(.int .i64 0), (.int .i64 0), (.string ⟨#[]⟩), (.string ⟨#[]⟩), (.string ⟨#[]⟩), (.int .i64 0), (.slice none 0 0), (.slice none 0 0), (.slice none 0 0)] 65 (0, 0))) ⟨Array.size h8, 0, none⟩ C14.toArray.toList fun h15 =>
 ∃ v16, cellH h15 (Addr.add ⟨Array.size h8, 0, none⟩ 7) = some v16 ∧
 ∃ v17, cellH h15 (Addr.add ⟨Array.size h8, 0, none⟩ 8) = some v17 ∧
 CallX Tryd.prog ω 50 [v16] h15 (fun r18 h19 =>
 cellH h19 (Addr.add ⟨Array.size h8, 0, none⟩ 8) = some v17 ∧ asK .i64 r18 fun n20 => CallX Tryd.prog ω 50 [v17] h19 (fun r21 h22 =>
 asK .i64 r21 fun n23 => asK .i64 n_5 fun n24 => asK .i64 t8_6 fun n25 => I3 (.int .i64 (IntKind.wrap .i64 (n24 + (IntKind.wrap .i64 ((IntKind.wrap .i64 (1 + n20)) + n23))))) (.int .i64 (IntKind.wrap .i64 (n25 + 1))) h22 ∧ μ4 (.int .i64 (IntKind.wrap .i64 (n24 + (IntKind.wrap .i64 ((IntKind.wrap .i64 (1 + n20)) + n23))))) (.int .i64 (IntKind.wrap .i64 (n25 + 1))) h22 < μ4 n_5 t8_6 h8) X) X)
 (R n_5 h8)
def A_syntax_count : Ann :=
 (.two .leaf (.two .leaf (.two (.two .leaf (.one (.loop [9, 10, 11, 5, 12, 13, 14, 15, 16, 17, 18, 19, 20, 21, 3, 22, 8] [3, 8] (.two .leaf (.two (.two .leaf .leaf) (.two (.one (.two .leaf (.plan [0, 1, 2, 5, 6, 3, 4, 7, 8, 9, 10]))) .leaf)))))) (.two .leaf .leaf))))
theorem C_syntax_count (ω : Amb) (l_p : Value) (h : Hp) (R : Value → Hp → Prop) (X : List PanicEntry → Hp → Prop) (hk : W_syntax_count ω l_p h R X) : CallX Tryd.prog ω 50 [l_p] h R X :=
 callX_of (an := A_syntax_count) Tryd.func50 ((show fnX Tryd.prog ω A_syntax_count Tryd.f50 [l_p] h R X = W_syntax_count ω l_p h R X by kernel_rfl) ▸ hk)

/-- pipewright/pipewrightref.countStmts -/
abbrev n_pipewrightref_countStmts : Nat := 51
def W_pipewrightref_countStmts (ω : Amb) (l_p : Value) (h : Hp) (R : Value → Hp → Prop) (X : List PanicEntry → Hp → Prop) : Prop :=
 asSl l_p fun a0 l1 c2 => ∃ (I3 : Value → Value → Hp → Prop) (μ4 : Value → Value → Hp → Nat), I3 (.int .i64 (l1 : Int)) (.int .i64 0) h ∧ ∀ n_5 i_6 (d7 : Nat → Value) (h8 : Hp), I3 n_5 i_6 h8 →
 asSl l_p fun a9 l10 c11 => asK .i64 i_6 fun n12 => cond (decide ((n12 : Int) < (l10 : Int)))
 (asSl1 l_p fun a13 l14 c15 => asI i_6 fun n16 => 0 ≤ (n16 : Int) ∧ n16 < (l14 : Int) ∧ ∃ v17, cellH h8 (Addr.add (Addr.add a13 (Int.toNat n16 * 9)) 7) = some v17 ∧
 asSl1 l_p fun a18 l19 c20 => asI i_6 fun n21 => 0 ≤ (n21 : Int) ∧ n21 < (l19 : Int) ∧ ∃ v22, cellH h8 (Addr.add (Addr.add a18 (Int.toNat n21 * 9)) 8) = some v22 ∧
 CallX Tryd.prog ω 51 [v17] h8 (fun r23 h24 =>
 cellH h24 (Addr.add (Addr.add a18 (Int.toNat n21 * 9)) 8) = some v22 ∧ CallX Tryd.prog ω 51 [v22] h24 (fun r25 h26 =>
 asK .i64 r23 fun n27 => asK .i64 r25 fun n28 => asK .i64 n_5 fun n29 => asK .i64 i_6 fun n30 => I3 (.int .i64 (IntKind.wrap .i64 (n29 + (IntKind.wrap .i64 (n27 + n28))))) (.int .i64 (IntKind.wrap .i64 (n30 + 1))) h26 ∧ μ4 (.int .i64 (IntKind.wrap .i64 (n29 + (IntKind.wrap .i64 (n27 + n28))))) (.int .i64 (IntKind.wrap .i64 (n30 + 1))) h26 < μ4 n_5 i_6 h8) X) X)
 (R n_5 h8)
def A_pipewrightref_countStmts : Ann :=
 (.two .leaf (.two .leaf (.two (.two .leaf (.one (.loop [7, 8, 9, 10, 13, 14, 15, 16, 17, 18, 19, 20, 21, 22, 23, 24, 25, 26, 27, 3, 11, 12, 4] [3, 4] (.two (.two .leaf (.two .leaf .leaf)) (.two (.one (.plan [0, 1, 2, 3, 4, 5, 7, 8, 9, 10, 11, 6, 12, 13, 14, 15])) .leaf))))) (.two .leaf .leaf))))
theorem C_pipewrightref_countStmts (ω : Amb) (l_p : Value) (h : Hp) (R : Value → Hp → Prop) (X : List PanicEntry → Hp → Prop) (hk : W_pipewrightref_countStmts ω l_p h R X) : CallX Tryd.prog ω 51 [l_p] h R X :=
 callX_of (an := A_pipewrightref_countStmts) Tryd.func51 ((show fnX Tryd.prog ω A_pipewrightref_countStmts Tryd.f51 [l_p] h R X = W_pipewrightref_countStmts ω l_p h R X by kernel_rfl) ▸ hk)

/-- pipewright/pipewrightref.small -/
abbrev n_pipewrightref_small : Nat := 52
def W_pipewrightref_small (ω : Amb) (c_p : Value) (h : Hp) (R : Value → Hp → Prop) (X : List PanicEntry → Hp → Prop) : Prop :=
 ∃ J0 : Value → Hp → Prop,
 (asK .u8 c_p fun n4 => cond (decide ((n4 : Int) ≥ 97))
 (asK .u8 c_p fun n5 => J0 (.bool (decide ((n5 : Int) ≤ 122))) h)
 (J0 (.bool false) h)) ∧
 ∀ t2_1 (d2 : Nat → Value) (h3 : Hp), J0 t2_1 h3 →
 R t2_1 h3
def A_pipewrightref_small : Ann :=
 (.two .leaf (.two (.join [3, 4, 5, 6, 7, 8, 2] [2] .leaf) .leaf))
theorem C_pipewrightref_small (ω : Amb) (c_p : Value) (h : Hp) (R : Value → Hp → Prop) (X : List PanicEntry → Hp → Prop) (hk : W_pipewrightref_small ω c_p h R X) : CallX Tryd.prog ω 52 [c_p] h R X :=
 callX_of (an := A_pipewrightref_small) Tryd.func52 ((show fnX Tryd.prog ω A_pipewrightref_small Tryd.f52 [c_p] h R X = W_pipewrightref_small ω c_p h R X by kernel_rfl) ▸ hk)

/-- pipewright/pipewrightref.long -/
abbrev n_pipewrightref_long : Nat := 53
def W_pipewrightref_long (ω : Amb) (src_p at_p : Value) (h : Hp) (R : Value → Hp → Prop) (X : List PanicEntry → Hp → Prop) : Prop :=
 ∃ (I0 : Value → Hp → Prop) (μ1 : Value → Hp → Nat), I0 at_p h ∧ ∀ at_2 (d3 : Nat → Value) (h4 : Hp), I0 at_2 h4 →
 ∃ J5 : Value → Hp → Prop,
 (asS src_p fun s9 => asK .i64 at_2 fun n10 => cond (decide ((n10 : Int) < (ByteArray.size s9 : Int)))
 (asS src_p fun s11 => asI at_2 fun n12 => 0 ≤ (n12 : Int) ∧ n12 < (ByteArray.size s11 : Int) ∧ CallX Tryd.prog ω 52 [(.int .u8 (byteAt s11 n12))] h4 (fun r13 h14 =>
 asB r13 fun b15 => cond b15
 (J5 (.bool true) h14)
 (asS src_p fun s16 => asI at_2 fun n17 => 0 ≤ (n17 : Int) ∧ n17 < (ByteArray.size s16 : Int) ∧ CallX Tryd.prog ω 55 [(.int .u8 (byteAt s16 n17))] h14 (fun r18 h19 =>
 J5 r18 h19) X)) X)
 (J5 (.bool false) h4)) ∧
 ∀ t20_6 (d7 : Nat → Value) (h8 : Hp), J5 t20_6 h8 →
 asB t20_6 fun b20 => cond b20
 (asK .i64 at_2 fun n21 => I0 (.int .i64 (IntKind.wrap .i64 (n21 + 1))) h8 ∧ μ1 (.int .i64 (IntKind.wrap .i64 (n21 + 1))) h8 < μ1 at_2 h4)
 (R at_2 h8)
def A_pipewrightref_long : Ann :=
 (.two .leaf (.two (.one (.loop [5, 6, 7, 8, 9, 10, 11, 12, 13, 14, 15, 16, 17, 18, 19, 20, 21, 22, 1] [1] (.two (.two (.join [5, 6, 7, 8, 9, 10, 11, 12, 13, 14, 15, 16, 17, 18, 19, 20] [20] .leaf) (.two .leaf .leaf)) (.one .leaf)))) (.two .leaf .leaf)))
theorem C_pipewrightref_long (ω : Amb) (src_p at_p : Value) (h : Hp) (R : Value → Hp → Prop) (X : List PanicEntry → Hp → Prop) (hk : W_pipewrightref_long ω src_p at_p h R X) : CallX Tryd.prog ω 53 [src_p, at_p] h R X :=
 callX_of (an := A_pipewrightref_long) Tryd.func53 ((show fnX Tryd.prog ω A_pipewrightref_long Tryd.f53 [src_p, at_p] h R X = W_pipewrightref_long ω src_p at_p h R X by kernel_rfl) ▸ hk)

/-- pipewright/pipewrightref.IsWord -/
abbrev n_pipewrightref_IsWord : Nat := 54
def W_pipewrightref_IsWord (ω : Amb) (s_p : Value) (h : Hp) (R : Value → Hp → Prop) (X : List PanicEntry → Hp → Prop) : Prop :=
 ∃ (I0 : Value → Hp → Prop) (μ1 : Value → Hp → Nat), I0 (.int .i64 0) (Array.push h (.cells (List.toArray [(.string ⟨#[97, 98, 97, 110, 100, 111, 110]⟩), (.string ⟨#[99, 104, 97, 110]⟩), (.string ⟨#[99, 108, 111, 110, 101]⟩), (.string ⟨#[99, 108, 111, 115, 101]⟩), (.string ⟨#[100, 114, 97, 105, 110]⟩), (.string ⟨#[101, 108, 115, 101]⟩), (.string ⟨#[101, 109, 105, 116]⟩), (.string ⟨#[102, 111, 114]⟩), (.string ⟨#[102, 114, 111, 109]⟩), (.string ⟨#[105, 102]⟩), (.string ⟨#[105, 110, 116]⟩), (.string ⟨#[108, 101, 116]⟩), (.string ⟨#[114, 101, 99, 118]⟩), (.string ⟨#[114, 101, 112, 101, 97, 116]⟩), (.string ⟨#[115, 101, 110, 100]⟩), (.string ⟨#[115, 101, 116]⟩), (.string ⟨#[115, 112, 97, 119, 110]⟩), (.string ⟨#[115, 116, 97, 103, 101]⟩), (.string ⟨#[116, 97, 107, 101]⟩)]) 9 (0, 0))) ∧ ∀ i_2 (d3 : Nat → Value) (h4 : Hp), I0 i_2 h4 →
 asK .i64 i_2 fun n5 => cond (decide ((n5 : Int) < (19 : Int)))
 (asI i_2 fun n6 => 0 ≤ (n6 : Int) ∧ n6 < (19 : Int) ∧ ∃ v7, cellH h4 (Addr.add ⟨Array.size h, 0, none⟩ (Int.toNat n6 * 1)) = some v7 ∧
 asS v7 fun s8 => asS s_p fun s9 => cond (ByteArray.toList s8 == ByteArray.toList s9)
 (R (.bool true) h4)
 (asK .i64 i_2 fun n10 => I0 (.int .i64 (IntKind.wrap .i64 (n10 + 1))) h4 ∧ μ1 (.int .i64 (IntKind.wrap .i64 (n10 + 1))) h4 < μ1 i_2 h4))
 (R (.bool false) h4)
def A_pipewrightref_IsWord : Ann :=
 (.two .leaf (.two .leaf (.two (.two .leaf (.one (.loop [6, 7, 8, 9, 12, 13, 14, 15, 16, 17, 2, 10, 11, 4] [4] (.two (.two .leaf (.two .leaf .leaf)) (.two (.one (.two .leaf (.two (.two .leaf .leaf) .leaf))) .leaf))))) (.two .leaf .leaf))))
theorem C_pipewrightref_IsWord (ω : Amb) (s_p : Value) (h : Hp) (R : Value → Hp → Prop) (X : List PanicEntry → Hp → Prop) (hk : W_pipewrightref_IsWord ω s_p h R X) : CallX Tryd.prog ω 54 [s_p] h R X :=
 callX_of (an := A_pipewrightref_IsWord) Tryd.func54 ((show fnX Tryd.prog ω A_pipewrightref_IsWord Tryd.f54 [s_p] h R X = W_pipewrightref_IsWord ω s_p h R X by kernel_rfl) ▸ hk)

/-- pipewright/pipewrightref.digit -/
abbrev n_pipewrightref_digit : Nat := 55
def W_pipewrightref_digit (ω : Amb) (c_p : Value) (h : Hp) (R : Value → Hp → Prop) (X : List PanicEntry → Hp → Prop) : Prop :=
 ∃ J0 : Value → Hp → Prop,
 (asK .u8 c_p fun n4 => cond (decide ((n4 : Int) ≥ 48))
 (asK .u8 c_p fun n5 => J0 (.bool (decide ((n5 : Int) ≤ 57))) h)
 (J0 (.bool false) h)) ∧
 ∀ t2_1 (d2 : Nat → Value) (h3 : Hp), J0 t2_1 h3 →
 R t2_1 h3
def A_pipewrightref_digit : Ann :=
 (.two .leaf (.two (.join [3, 4, 5, 6, 7, 8, 2] [2] .leaf) .leaf))
theorem C_pipewrightref_digit (ω : Amb) (c_p : Value) (h : Hp) (R : Value → Hp → Prop) (X : List PanicEntry → Hp → Prop) (hk : W_pipewrightref_digit ω c_p h R X) : CallX Tryd.prog ω 55 [c_p] h R X :=
 callX_of (an := A_pipewrightref_digit) Tryd.func55 ((show fnX Tryd.prog ω A_pipewrightref_digit Tryd.f55 [c_p] h R X = W_pipewrightref_digit ω c_p h R X by kernel_rfl) ▸ hk)

/-- pipewright/pipewrightref.copyExprs -/
abbrev n_pipewrightref_copyExprs : Nat := 66
def W_pipewrightref_copyExprs (ω : Amb) (l_p : Value) (h : Hp) (R : Value → Hp → Prop) (X : List PanicEntry → Hp → Prop) : Prop :=
 ∃ (I0 : Value → Value → Hp → Prop) (μ1 : Value → Value → Hp → Nat), I0 (.slice none 0 0) (.int .i64 0) h ∧ ∀ out_2 i_3 (d4 : Nat → Value) (h5 : Hp), I0 out_2 i_3 h5 →
 asSl l_p fun a6 l7 c8 => asK .i64 i_3 fun n9 => cond (decide ((n9 : Int) < (l7 : Int)))
 (asSl1 l_p fun a10 l11 c12 => asI i_3 fun n13 => 0 ≤ (n13 : Int) ∧ n13 < (l11 : Int) ∧ ∃ C14, cellsH h5 (Addr.add a10 (Int.toNat n13 * 4)) 4 C14 ∧
 C14.toArray.size = 4 ∧ (∀ u ∈ C14.toArray.toList, one u) ∧ storeK (Array.push h5 (.cells #[(.int .i64 0), (.string ⟨#[]⟩), (.int .i64 0), (.slice none 0 0)] 118 (0, 0))) ⟨Array.size h5, 0, none⟩ C14.toArray.toList fun h15 =>
 ∃ v16, cellH h15 (Addr.add ⟨Array.size h5, 0, none⟩ 3) = some v16 ∧
 CallX Tryd.prog ω 66 [v16] h15 (fun r17 h18 =>
 oneK r17 (storeK1 h18 (Addr.add ⟨Array.size h5, 0, none⟩ 3) r17 fun h19 =>
 ∃ C20, cellsH h19 ⟨Array.size h5, 0, none⟩ 4 C20 ∧
 C20.toArray.size = 4 ∧ appK Tryd.prog 63 (Array.push h19 (.cells (List.toArray (C20.toArray.toList ++ [])) 118 (0, 0))) out_2 (.slice (some ⟨Array.size h19, 0, none⟩) 1 1) fun w21 h22 =>
 asK .i64 i_3 fun n23 => I0 w21 (.int .i64 (IntKind.wrap .i64 (n23 + 1))) h22 ∧ μ1 w21 (.int .i64 (IntKind.wrap .i64 (n23 + 1))) h22 < μ1 out_2 i_3 h5)) X)
 (R out_2 h5)
def A_pipewrightref_copyExprs : Ann :=
 (.two .leaf (.two .leaf (.two (.two .leaf (.one (.loop [6, 7, 8, 9, 12, 13, 14, 15, 5, 16, 17, 18, 19, 20, 21, 22, 23, 3, 10, 11, 4] [3, 4] (.two (.two .leaf (.two .leaf .leaf)) (.two (.one (.two .leaf (.two .leaf .leaf))) .leaf))))) (.two .leaf .leaf))))
theorem C_pipewrightref_copyExprs (ω : Amb) (l_p : Value) (h : Hp) (R : Value → Hp → Prop) (X : List PanicEntry → Hp → Prop) (hk : W_pipewrightref_copyExprs ω l_p h R X) : CallX Tryd.prog ω 66 [l_p] h R X :=
 callX_of (an := A_pipewrightref_copyExprs) Tryd.func66 ((show fnX Tryd.prog ω A_pipewrightref_copyExprs Tryd.f66 [l_p] h R X = W_pipewrightref_copyExprs ω l_p h R X by kernel_rfl) ▸ hk)

/-- slices.Equal[[]pipewright/api.Param,pipewright/api.Param] -/
abbrev n_slices_Equal_sl_api_Param_api_Param : Nat := 71
def W_slices_Equal_sl_api_Param_api_Param (ω : Amb) (s1_p s2_p : Value) (h : Hp) (R : Value → Hp → Prop) (X : List PanicEntry → Hp → Prop) : Prop :=
 asSl s1_p fun a0 l1 c2 => asSl s2_p fun a3 l4 c5 => cond ((l1 : Int) != ((l4 : Int) : Int))
 (R (.bool false) h)
 (asSl s1_p fun a6 l7 c8 => ∃ (I9 : Value → Hp → Prop) (μ10 : Value → Hp → Nat), I9 (.int .i64 0) h ∧ ∀ t13_11 (d12 : Nat → Value) (h13 : Hp), I9 t13_11 h13 →
 asK .i64 t13_11 fun n14 => cond (decide ((n14 : Int) < (l7 : Int)))
 (asSl1 s1_p fun a15 l16 c17 => asI t13_11 fun n18 => 0 ≤ (n18 : Int) ∧ n18 < (l16 : Int) ∧ ∃ C19, cellsH h13 (Addr.add a15 (Int.toNat n18 * 2)) 2 C19 ∧
 asSl1 s2_p fun a20 l21 c22 => asI t13_11 fun n23 => 0 ≤ (n23 : Int) ∧ n23 < (l21 : Int) ∧ ∃ C24, cellsH h13 (Addr.add a20 (Int.toNat n23 * 2)) 2 C24 ∧
 asO C19.toArray[0]? fun v25 => asO C24.toArray[0]? fun v26 => asS v25 fun s27 => asS v26 fun s28 => asO C19.toArray[1]? fun v29 => asO C24.toArray[1]? fun v30 => asS v29 fun s31 => asS v30 fun s32 => cond (!((ByteArray.toList s27 == ByteArray.toList s28) && ((ByteArray.toList s31 == ByteArray.toList s32) && true)))
 (R (.bool false) h13)
 (asK .i64 t13_11 fun n33 => I9 (.int .i64 (IntKind.wrap .i64 (n33 + 1))) h13 ∧ μ10 (.int .i64 (IntKind.wrap .i64 (n33 + 1))) h13 < μ10 t13_11 h13))
 (R (.bool true) h13))
def A_slices_Equal_sl_api_Param_api_Param : Ann :=
 (.two .leaf (.two (.two .leaf (.two (.two .leaf .leaf) .leaf)) (.two (.two .leaf (.one (.loop [14, 15, 5, 16, 17, 18, 19, 20, 21, 22, 23, 24, 4, 25, 13] [13] (.two .leaf (.two (.two .leaf .leaf) (.two (.one (.two .leaf (.two (.plan [0, 1, 2, 3, 4, 5, 6, 7, 8]) (.two (.two .leaf .leaf) .leaf)))) .leaf)))))) (.two .leaf .leaf))))
theorem C_slices_Equal_sl_api_Param_api_Param (ω : Amb) (s1_p s2_p : Value) (h : Hp) (R : Value → Hp → Prop) (X : List PanicEntry → Hp → Prop) (hk : W_slices_Equal_sl_api_Param_api_Param ω s1_p s2_p h R X) : CallX Tryd.prog ω 71 [s1_p, s2_p] h R X :=
 callX_of (an := A_slices_Equal_sl_api_Param_api_Param) Tryd.func71 ((show fnX Tryd.prog ω A_slices_Equal_sl_api_Param_api_Param Tryd.f71 [s1_p, s2_p] h R X = W_slices_Equal_sl_api_Param_api_Param ω s1_p s2_p h R X by kernel_rfl) ▸ hk)

/-- slices.EqualFunc[[]pipewright/api.Stmt,[]pipewright/api.Stmt,pipewright/api.Stmt,pipewright/api.Stmt] -/
abbrev n_slices_EqualFunc_sl_api_Stmt_sl_api_Stmt_api_Stmt_api_Stmt : Nat := 72
def W_slices_EqualFunc_sl_api_Stmt_sl_api_Stmt_api_Stmt_api_Stmt (ω : Amb) (s1_p s2_p eq_p : Value) (h : Hp) (R : Value → Hp → Prop) (X : List PanicEntry → Hp → Prop) : Prop :=
 asSl s1_p fun a0 l1 c2 => asSl s2_p fun a3 l4 c5 => cond ((l1 : Int) != ((l4 : Int) : Int))
 (R (.bool false) h)
 (asSl s1_p fun a6 l7 c8 => ∃ (I9 : Value → Hp → Prop) (μ10 : Value → Hp → Nat), I9 (.int .i64 0) h ∧ ∀ t17_11 (d12 : Nat → Value) (h13 : Hp), I9 t17_11 h13 →
 asK .i64 t17_11 fun n14 => cond (decide ((n14 : Int) < (l7 : Int)))
 (asSl1 s1_p fun a15 l16 c17 => asI t17_11 fun n18 => 0 ≤ (n18 : Int) ∧ n18 < (l16 : Int) ∧ ∃ C19, cellsH h13 (Addr.add a15 (Int.toNat n18 * 9)) 9 C19 ∧
 C19.toArray.size = 9 ∧ (∀ u ∈ C19.toArray.toList, one u) ∧ storeK (Array.push h13 (.cells #[(.int .i64 0), (.int .i64 0), (.string ⟨#[]⟩), (.string ⟨#[]⟩), (.string ⟨#[]⟩), (.int .i64 0), (.slice none 0 0), (.slice none 0 0), (.slice none 0 0)] 65 (0, 0))) ⟨Array.size h13, 0, none⟩ C19.toArray.toList fun h20 =>
 asSl1 s2_p fun a21 l22 c23 => asI t17_11 fun n24 => 0 ≤ (n24 : Int) ∧ n24 < (l22 : Int) ∧ ∃ C25, cellsH h20 (Addr.add a21 (Int.toNat n24 * 9)) 9 C25 ∧
 C25.toArray.size = 9 ∧ (∀ u ∈ C25.toArray.toList, one u) ∧ storeK (Array.push h20 (.cells #[(.int .i64 0), (.int .i64 0), (.string ⟨#[]⟩), (.string ⟨#[]⟩), (.string ⟨#[]⟩), (.int .i64 0), (.slice none 0 0), (.slice none 0 0), (.slice none 0 0)] 65 (0, 0))) ⟨Array.size h20, 0, none⟩ C25.toArray.toList fun h26 =>
 ∃ C27, cellsH h26 ⟨Array.size h13, 0, none⟩ 9 C27 ∧
 ∃ C28, cellsH h26 ⟨Array.size h20, 0, none⟩ 9 C28 ∧
 callK Tryd.prog ω eq_p [(.agg C27.toArray), (.agg C28.toArray)] h26 (fun r29 h30 =>
 asB r29 fun b31 => cond (!b31)
 (R (.bool false) h30)
 (asK .i64 t17_11 fun n32 => I9 (.int .i64 (IntKind.wrap .i64 (n32 + 1))) h30 ∧ μ10 (.int .i64 (IntKind.wrap .i64 (n32 + 1))) h30 < μ10 t17_11 h13)) X)
 (R (.bool true) h13))
def A_slices_EqualFunc_sl_api_Stmt_sl_api_Stmt_api_Stmt_api_Stmt : Ann :=
 (.two .leaf (.two (.two .leaf (.two (.two .leaf .leaf) .leaf)) (.two (.two .leaf (.one (.loop [18, 19, 20, 21, 8, 7, 22, 23, 24, 25, 9, 26, 27, 28, 29, 30, 6, 31, 17] [17] (.two .leaf (.two (.two .leaf .leaf) (.two (.one (.two .leaf (.two .leaf (.two .leaf (.two (.two .leaf .leaf) .leaf))))) .leaf)))))) (.two .leaf .leaf))))
theorem C_slices_EqualFunc_sl_api_Stmt_sl_api_Stmt_api_Stmt_api_Stmt (ω : Amb) (s1_p s2_p eq_p : Value) (h : Hp) (R : Value → Hp → Prop) (X : List PanicEntry → Hp → Prop) (hk : W_slices_EqualFunc_sl_api_Stmt_sl_api_Stmt_api_Stmt_api_Stmt ω s1_p s2_p eq_p h R X) : CallX Tryd.prog ω 72 [s1_p, s2_p, eq_p] h R X :=
 callX_of (an := A_slices_EqualFunc_sl_api_Stmt_sl_api_Stmt_api_Stmt_api_Stmt) Tryd.func72 ((show fnX Tryd.prog ω A_slices_EqualFunc_sl_api_Stmt_sl_api_Stmt_api_Stmt_api_Stmt Tryd.f72 [s1_p, s2_p, eq_p] h R X = W_slices_EqualFunc_sl_api_Stmt_sl_api_Stmt_api_Stmt_api_Stmt ω s1_p s2_p eq_p h R X by kernel_rfl) ▸ hk)

/-- pipewright/syntax.sameStmt -/
abbrev n_syntax_sameStmt : Nat := 73
def W_syntax_sameStmt (ω : Amb) (a_p b_p : Value) (h : Hp) (R : Value → Hp → Prop) (X : List PanicEntry → Hp → Prop) : Prop :=
 ∃ J0 : Value → Hp → Prop,
 (∃ v4, cellH (Array.push (Array.push h (.cells (Value.cells a_p) 65 (0, 0))) (.cells (Value.cells b_p) 65 (0, 0))) (Addr.add ⟨Array.size h, 0, none⟩ 0) = some v4 ∧
 ∃ v5, cellH (Array.push (Array.push h (.cells (Value.cells a_p) 65 (0, 0))) (.cells (Value.cells b_p) 65 (0, 0))) (Addr.add ⟨Array.size (Array.push h (.cells (Value.cells a_p) 65 (0, 0))), 0, none⟩ 0) = some v5 ∧
 asK .i64 v4 fun n6 => asK .i64 v5 fun n7 => cond (n6 == (n7 : Int))
 (∃ v8, cellH (Array.push (Array.push h (.cells (Value.cells a_p) 65 (0, 0))) (.cells (Value.cells b_p) 65 (0, 0))) (Addr.add ⟨Array.size h, 0, none⟩ 2) = some v8 ∧
 ∃ v9, cellH (Array.push (Array.push h (.cells (Value.cells a_p) 65 (0, 0))) (.cells (Value.cells b_p) 65 (0, 0))) (Addr.add ⟨Array.size (Array.push h (.cells (Value.cells a_p) 65 (0, 0))), 0, none⟩ 2) = some v9 ∧
 asS v8 fun s10 => asS v9 fun s11 => cond (ByteArray.toList s10 == ByteArray.toList s11)
 (∃ v12, cellH (Array.push (Array.push h (.cells (Value.cells a_p) 65 (0, 0))) (.cells (Value.cells b_p) 65 (0, 0))) (Addr.add ⟨Array.size h, 0, none⟩ 3) = some v12 ∧
 ∃ v13, cellH (Array.push (Array.push h (.cells (Value.cells a_p) 65 (0, 0))) (.cells (Value.cells b_p) 65 (0, 0))) (Addr.add ⟨Array.size (Array.push h (.cells (Value.cells a_p) 65 (0, 0))), 0, none⟩ 3) = some v13 ∧
 asS v12 fun s14 => asS v13 fun s15 => cond (ByteArray.toList s14 == ByteArray.toList s15)
 (∃ v16, cellH (Array.push (Array.push h (.cells (Value.cells a_p) 65 (0, 0))) (.cells (Value.cells b_p) 65 (0, 0))) (Addr.add ⟨Array.size h, 0, none⟩ 4) = some v16 ∧
 ∃ v17, cellH (Array.push (Array.push h (.cells (Value.cells a_p) 65 (0, 0))) (.cells (Value.cells b_p) 65 (0, 0))) (Addr.add ⟨Array.size (Array.push h (.cells (Value.cells a_p) 65 (0, 0))), 0, none⟩ 4) = some v17 ∧
 asS v16 fun s18 => asS v17 fun s19 => cond (ByteArray.toList s18 == ByteArray.toList s19)
 (∃ v20, cellH (Array.push (Array.push h (.cells (Value.cells a_p) 65 (0, 0))) (.cells (Value.cells b_p) 65 (0, 0))) (Addr.add ⟨Array.size h, 0, none⟩ 5) = some v20 ∧
 ∃ v21, cellH (Array.push (Array.push h (.cells (Value.cells a_p) 65 (0, 0))) (.cells (Value.cells b_p) 65 (0, 0))) (Addr.add ⟨Array.size (Array.push h (.cells (Value.cells a_p) 65 (0, 0))), 0, none⟩ 5) = some v21 ∧
 asK .i64 v20 fun n22 => asK .i64 v21 fun n23 => cond (n22 == (n23 : Int))
 (∃ v24, cellH (Array.push (Array.push h (.cells (Value.cells a_p) 65 (0, 0))) (.cells (Value.cells b_p) 65 (0, 0))) (Addr.add ⟨Array.size h, 0, none⟩ 6) = some v24 ∧
 ∃ v25, cellH (Array.push (Array.push h (.cells (Value.cells a_p) 65 (0, 0))) (.cells (Value.cells b_p) 65 (0, 0))) (Addr.add ⟨Array.size (Array.push h (.cells (Value.cells a_p) 65 (0, 0))), 0, none⟩ 6) = some v25 ∧
 CallX Tryd.prog ω 94 [v24, v25, (.func (.func 95) #[] #[])] (Array.push (Array.push h (.cells (Value.cells a_p) 65 (0, 0))) (.cells (Value.cells b_p) 65 (0, 0))) (fun r26 h27 =>
 asB r26 fun b28 => cond b28
 (∃ v29, cellH h27 (Addr.add ⟨Array.size h, 0, none⟩ 7) = some v29 ∧
 ∃ v30, cellH h27 (Addr.add ⟨Array.size (Array.push h (.cells (Value.cells a_p) 65 (0, 0))), 0, none⟩ 7) = some v30 ∧
 CallX Tryd.prog ω 72 [v29, v30, (.func (.func 73) #[] #[])] h27 (fun r31 h32 =>
 asB r31 fun b33 => cond b33
 (∃ v34, cellH h32 (Addr.add ⟨Array.size h, 0, none⟩ 8) = some v34 ∧
 ∃ v35, cellH h32 (Addr.add ⟨Array.size (Array.push h (.cells (Value.cells a_p) 65 (0, 0))), 0, none⟩ 8) = some v35 ∧
 CallX Tryd.prog ω 72 [v34, v35, (.func (.func 73) #[] #[])] h32 (fun r36 h37 =>
 J0 r36 h37) X)
 (J0 (.bool false) h32)) X)
 (J0 (.bool false) h27)) X)
 (J0 (.bool false) (Array.push (Array.push h (.cells (Value.cells a_p) 65 (0, 0))) (.cells (Value.cells b_p) 65 (0, 0)))))
 (J0 (.bool false) (Array.push (Array.push h (.cells (Value.cells a_p) 65 (0, 0))) (.cells (Value.cells b_p) 65 (0, 0)))))
 (J0 (.bool false) (Array.push (Array.push h (.cells (Value.cells a_p) 65 (0, 0))) (.cells (Value.cells b_p) 65 (0, 0)))))
 (J0 (.bool false) (Array.push (Array.push h (.cells (Value.cells a_p) 65 (0, 0))) (.cells (Value.cells b_p) 65 (0, 0)))))
 (J0 (.bool false) (Array.push (Array.push h (.cells (Value.cells a_p) 65 (0, 0))) (.cells (Value.cells b_p) 65 (0, 0))))) ∧
 ∀ t4_1 (d2 : Nat → Value) (h3 : Hp), J0 t4_1 h3 →
 R t4_1 h3
def A_syntax_sameStmt : Ann :=
 (.two .leaf (.two (.join [5, 6, 7, 8, 9, 10, 11, 12, 13, 14, 15, 16, 17, 18, 19, 20, 21, 22, 23, 24, 25, 26, 27, 28, 29, 30, 31, 32, 33, 34, 35, 36, 37, 38, 39, 40, 41, 42, 43, 44, 45, 46, 47, 48, 49, 50, 51, 52, 53, 54, 55, 56, 57, 58, 4] [4] .leaf) .leaf))
theorem C_syntax_sameStmt (ω : Amb) (a_p b_p : Value) (h : Hp) (R : Value → Hp → Prop) (X : List PanicEntry → Hp → Prop) (hk : W_syntax_sameStmt ω a_p b_p h R X) : CallX Tryd.prog ω 73 [a_p, b_p] h R X :=
 callX_of (an := A_syntax_sameStmt) Tryd.func73 ((show fnX Tryd.prog ω A_syntax_sameStmt Tryd.f73 [a_p, b_p] h R X = W_syntax_sameStmt ω a_p b_p h R X by kernel_rfl) ▸ hk)

/-- slices.EqualFunc[[]pipewright/api.Expr,[]pipewright/api.Expr,pipewright/api.Expr,pipewright/api.Expr] -/
abbrev n_slices_EqualFunc_sl_api_Expr_sl_api_Expr_api_Expr_api_Expr : Nat := 94
def W_slices_EqualFunc_sl_api_Expr_sl_api_Expr_api_Expr_api_Expr (ω : Amb) (s1_p s2_p eq_p : Value) (h : Hp) (R : Value → Hp → Prop) (X : List PanicEntry → Hp → Prop) : Prop :=
 asSl s1_p fun a0 l1 c2 => asSl s2_p fun a3 l4 c5 => cond ((l1 : Int) != ((l4 : Int) : Int))
 (R (.bool false) h)
 (asSl s1_p fun a6 l7 c8 => ∃ (I9 : Value → Hp → Prop) (μ10 : Value → Hp → Nat), I9 (.int .i64 0) h ∧ ∀ t17_11 (d12 : Nat → Value) (h13 : Hp), I9 t17_11 h13 →
 asK .i64 t17_11 fun n14 => cond (decide ((n14 : Int) < (l7 : Int)))
 (asSl1 s1_p fun a15 l16 c17 => asI t17_11 fun n18 => 0 ≤ (n18 : Int) ∧ n18 < (l16 : Int) ∧ ∃ C19, cellsH h13 (Addr.add a15 (Int.toNat n18 * 4)) 4 C19 ∧
 C19.toArray.size = 4 ∧ (∀ u ∈ C19.toArray.toList, one u) ∧ storeK (Array.push h13 (.cells #[(.int .i64 0), (.string ⟨#[]⟩), (.int .i64 0), (.slice none 0 0)] 118 (0, 0))) ⟨Array.size h13, 0, none⟩ C19.toArray.toList fun h20 =>
 asSl1 s2_p fun a21 l22 c23 => asI t17_11 fun n24 => 0 ≤ (n24 : Int) ∧ n24 < (l22 : Int) ∧ ∃ C25, cellsH h20 (Addr.add a21 (Int.toNat n24 * 4)) 4 C25 ∧
 C25.toArray.size = 4 ∧ (∀ u ∈ C25.toArray.toList, one u) ∧ storeK (Array.push h20 (.cells #[(.int .i64 0), (.string ⟨#[]⟩), (.int .i64 0), (.slice none 0 0)] 118 (0, 0))) ⟨Array.size h20, 0, none⟩ C25.toArray.toList fun h26 =>
 ∃ C27, cellsH h26 ⟨Array.size h13, 0, none⟩ 4 C27 ∧
 ∃ C28, cellsH h26 ⟨Array.size h20, 0, none⟩ 4 C28 ∧
 callK Tryd.prog ω eq_p [(.agg C27.toArray), (.agg C28.toArray)] h26 (fun r29 h30 =>
 asB r29 fun b31 => cond (!b31)
 (R (.bool false) h30)
 (asK .i64 t17_11 fun n32 => I9 (.int .i64 (IntKind.wrap .i64 (n32 + 1))) h30 ∧ μ10 (.int .i64 (IntKind.wrap .i64 (n32 + 1))) h30 < μ10 t17_11 h13)) X)
 (R (.bool true) h13))
def A_slices_EqualFunc_sl_api_Expr_sl_api_Expr_api_Expr_api_Expr : Ann :=
 (.two .leaf (.two (.two .leaf (.two (.two .leaf .leaf) .leaf)) (.two (.two .leaf (.one (.loop [18, 19, 20, 21, 8, 7, 22, 23, 24, 25, 9, 26, 27, 28, 29, 30, 6, 31, 17] [17] (.two .leaf (.two (.two .leaf .leaf) (.two (.one (.two .leaf (.two .leaf (.two .leaf (.two (.two .leaf .leaf) .leaf))))) .leaf)))))) (.two .leaf .leaf))))
theorem C_slices_EqualFunc_sl_api_Expr_sl_api_Expr_api_Expr_api_Expr (ω : Amb) (s1_p s2_p eq_p : Value) (h : Hp) (R : Value → Hp → Prop) (X : List PanicEntry → Hp → Prop) (hk : W_slices_EqualFunc_sl_api_Expr_sl_api_Expr_api_Expr_api_Expr ω s1_p s2_p eq_p h R X) : CallX Tryd.prog ω 94 [s1_p, s2_p, eq_p] h R X :=
 callX_of (an := A_slices_EqualFunc_sl_api_Expr_sl_api_Expr_api_Expr_api_Expr) Tryd.func94 ((show fnX Tryd.prog ω A_slices_EqualFunc_sl_api_Expr_sl_api_Expr_api_Expr_api_Expr Tryd.f94 [s1_p, s2_p, eq_p] h R X = W_slices_EqualFunc_sl_api_Expr_sl_api_Expr_api_Expr_api_Expr ω s1_p s2_p eq_p h R X by kernel_rfl) ▸ hk)

/-- pipewright/syntax.sameExpr -/
abbrev n_syntax_sameExpr : Nat := 95
def W_syntax_sameExpr (ω : Amb) (a_p b_p : Value) (h : Hp) (R : Value → Hp → Prop) (X : List PanicEntry → Hp → Prop) : Prop :=
 ∃ J0 : Value → Hp → Prop,
 (∃ v4, cellH (Array.push (Array.push h (.cells (Value.cells a_p) 118 (0, 0))) (.cells (Value.cells b_p) 118 (0, 0))) (Addr.add ⟨Array.size h, 0, none⟩ 0) = some v4 ∧
 ∃ v5, cellH (Array.push (Array.push h (.cells (Value.cells a_p) 118 (0, 0))) (.cells (Value.cells b_p) 118 (0, 0))) (Addr.add ⟨Array.size (Array.push h (.cells (Value.cells a_p) 118 (0, 0))), 0, none⟩ 0) = some v5 ∧
 asK .i64 v4 fun n6 => asK .i64 v5 fun n7 => cond (n6 == (n7 : Int))
 (∃ v8, cellH (Array.push (Array.push h (.cells (Value.cells a_p) 118 (0, 0))) (.cells (Value.cells b_p) 118 (0, 0))) (Addr.add ⟨Array.size h, 0, none⟩ 1) = some v8 ∧
 ∃ v9, cellH (Array.push (Array.push h (.cells (Value.cells a_p) 118 (0, 0))) (.cells (Value.cells b_p) 118 (0, 0))) (Addr.add ⟨Array.size (Array.push h (.cells (Value.cells a_p) 118 (0, 0))), 0, none⟩ 1) = some v9 ∧
 asS v8 fun s10 => asS v9 fun s11 => cond (ByteArray.toList s10 == ByteArray.toList s11)
 (∃ v12, cellH (Array.push (Array.push h (.cells (Value.cells a_p) 118 (0, 0))) (.cells (Value.cells b_p) 118 (0, 0))) (Addr.add ⟨Array.size h, 0, none⟩ 2) = some v12 ∧
 ∃ v13, cellH (Array.push (Array.push h (.cells (Value.cells a_p) 118 (0, 0))) (.cells (Value.cells b_p) 118 (0, 0))) (Addr.add ⟨Array.size (Array.push h (.cells (Value.cells a_p) 118 (0, 0))), 0, none⟩ 2) = some v13 ∧
 asK .i64 v12 fun n14 => asK .i64 v13 fun n15 => cond (n14 == (n15 : Int))
 (∃ v16, cellH (Array.push (Array.push h (.cells (Value.cells a_p) 118 (0, 0))) (.cells (Value.cells b_p) 118 (0, 0))) (Addr.add ⟨Array.size h, 0, none⟩ 3) = some v16 ∧
 ∃ v17, cellH (Array.push (Array.push h (.cells (Value.cells a_p) 118 (0, 0))) (.cells (Value.cells b_p) 118 (0, 0))) (Addr.add ⟨Array.size (Array.push h (.cells (Value.cells a_p) 118 (0, 0))), 0, none⟩ 3) = some v17 ∧
 CallX Tryd.prog ω 94 [v16, v17, (.func (.func 95) #[] #[])] (Array.push (Array.push h (.cells (Value.cells a_p) 118 (0, 0))) (.cells (Value.cells b_p) 118 (0, 0))) (fun r18 h19 =>
 J0 r18 h19) X)
 (J0 (.bool false) (Array.push (Array.push h (.cells (Value.cells a_p) 118 (0, 0))) (.cells (Value.cells b_p) 118 (0, 0)))))
 (J0 (.bool false) (Array.push (Array.push h (.cells (Value.cells a_p) 118 (0, 0))) (.cells (Value.cells b_p) 118 (0, 0)))))
 (J0 (.bool false) (Array.push (Array.push h (.cells (Value.cells a_p) 118 (0, 0))) (.cells (Value.cells b_p) 118 (0, 0))))) ∧
 ∀ t4_1 (d2 : Nat → Value) (h3 : Hp), J0 t4_1 h3 →
 R t4_1 h3
def A_syntax_sameExpr : Ann :=
 (.two .leaf (.two (.join [5, 6, 7, 8, 9, 10, 11, 12, 13, 14, 15, 16, 17, 18, 19, 20, 21, 22, 23, 24, 25, 26, 27, 28, 29, 30, 4] [4] .leaf) .leaf))
theorem C_syntax_sameExpr (ω : Amb) (a_p b_p : Value) (h : Hp) (R : Value → Hp → Prop) (X : List PanicEntry → Hp → Prop) (hk : W_syntax_sameExpr ω a_p b_p h R X) : CallX Tryd.prog ω 95 [a_p, b_p] h R X :=
 callX_of (an := A_syntax_sameExpr) Tryd.func95 ((show fnX Tryd.prog ω A_syntax_sameExpr Tryd.f95 [a_p, b_p] h R X = W_syntax_sameExpr ω a_p b_p h R X by kernel_rfl) ▸ hk)

/-- pipewright/token.letter -/
abbrev n_token_letter : Nat := 96
def W_token_letter (ω : Amb) (c_p : Value) (h : Hp) (R : Value → Hp → Prop) (X : List PanicEntry → Hp → Prop) : Prop :=
 ∃ J0 : Value → Hp → Prop,
 (asK .u8 c_p fun n4 => cond (decide ((n4 : Int) ≥ 97))
 (asK .u8 c_p fun n5 => J0 (.bool (decide ((n5 : Int) ≤ 122))) h)
 (J0 (.bool false) h)) ∧
 ∀ t2_1 (d2 : Nat → Value) (h3 : Hp), J0 t2_1 h3 →
 R t2_1 h3
def A_token_letter : Ann :=
 (.two .leaf (.two (.join [3, 4, 5, 6, 7, 8, 2] [2] .leaf) .leaf))
theorem C_token_letter (ω : Amb) (c_p : Value) (h : Hp) (R : Value → Hp → Prop) (X : List PanicEntry → Hp → Prop) (hk : W_token_letter ω c_p h R X) : CallX Tryd.prog ω 96 [c_p] h R X :=
 callX_of (an := A_token_letter) Tryd.func96 ((show fnX Tryd.prog ω A_token_letter Tryd.f96 [c_p] h R X = W_token_letter ω c_p h R X by kernel_rfl) ▸ hk)

/-- pipewright/token.Word -/
abbrev n_token_Word : Nat := 98
def W_token_Word (ω : Amb) (s_p : Value) (h : Hp) (R : Value → Hp → Prop) (X : List PanicEntry → Hp → Prop) : Prop :=
 asS s_p fun s0 => ∃ J1 : Value → Hp → Prop,
 (cond (ByteArray.toList s0 == ByteArray.toList ⟨#[97, 98, 97, 110, 100, 111, 110]⟩)
 (J1 (.bool (ByteArray.toList s0 == ByteArray.toList ⟨#[97, 98, 97, 110, 100, 111, 110]⟩)) h)
 (asS s_p fun s5 => ∃ J6 : Value → Hp → Prop,
 (cond (ByteArray.toList s5 == ByteArray.toList ⟨#[99, 104, 97, 110]⟩)
 (J6 (.bool (ByteArray.toList s5 == ByteArray.toList ⟨#[99, 104, 97, 110]⟩)) h)
 (asS s_p fun s10 => ∃ J11 : Value → Hp → Prop,
 (cond (ByteArray.toList s10 == ByteArray.toList ⟨#[99, 108, 111, 110, 101]⟩)
 (J11 (.bool (ByteArray.toList s10 == ByteArray.toList ⟨#[99, 108, 111, 110, 101]⟩)) h)
 (asS s_p fun s15 => ∃ J16 : Value → Hp → Prop,
 (cond (ByteArray.toList s15 == ByteArray.toList ⟨#[99, 108, 111, 115, 101]⟩)
 (J16 (.bool (ByteArray.toList s15 == ByteArray.toList ⟨#[99, 108, 111, 115, 101]⟩)) h)
 (asS s_p fun s20 => ∃ J21 : Value → Hp → Prop,
 (cond (ByteArray.toList s20 == ByteArray.toList ⟨#[100, 114, 97, 105, 110]⟩)
 (J21 (.bool (ByteArray.toList s20 == ByteArray.toList ⟨#[100, 114, 97, 105, 110]⟩)) h)
 (asS s_p fun s25 => ∃ J26 : Value → Hp → Prop,
 (cond (ByteArray.toList s25 == ByteArray.toList ⟨#[101, 108, 115, 101]⟩)
 (J26 (.bool (ByteArray.toList s25 == ByteArray.toList ⟨#[101, 108, 115, 101]⟩)) h)
 (asS s_p fun s30 => ∃ J31 : Value → Hp → Prop,
 (cond (ByteArray.toList s30 == ByteArray.toList ⟨#[101, 109, 105, 116]⟩)
 (J31 (.bool (ByteArray.toList s30 == ByteArray.toList ⟨#[101, 109, 105, 116]⟩)) h)
 (asS s_p fun s35 => ∃ J36 : Value → Hp → Prop,
 (cond (ByteArray.toList s35 == ByteArray.toList ⟨#[102, 111, 114]⟩)
 (J36 (.bool (ByteArray.toList s35 == ByteArray.toList ⟨#[102, 111, 114]⟩)) h)
 (asS s_p fun s40 => ∃ J41 : Value → Hp → Prop,
 (cond (ByteArray.toList s40 == ByteArray.toList ⟨#[102, 114, 111, 109]⟩)
 (J41 (.bool (ByteArray.toList s40 == ByteArray.toList ⟨#[102, 114, 111, 109]⟩)) h)
 (asS s_p fun s45 => ∃ J46 : Value → Hp → Prop,
 (cond (ByteArray.toList s45 == ByteArray.toList ⟨#[105, 102]⟩)
 (J46 (.bool (ByteArray.toList s45 == ByteArray.toList ⟨#[105, 102]⟩)) h)
 (asS s_p fun s50 => ∃ J51 : Value → Hp → Prop,
 (cond (ByteArray.toList s50 == ByteArray.toList ⟨#[105, 110, 116]⟩)
 (J51 (.bool (ByteArray.toList s50 == ByteArray.toList ⟨#[105, 110, 116]⟩)) h)
 (asS s_p fun s55 => ∃ J56 : Value → Hp → Prop,
 (cond (ByteArray.toList s55 == ByteArray.toList ⟨#[108, 101, 116]⟩)
 (J56 (.bool (ByteArray.toList s55 == ByteArray.toList ⟨#[108, 101, 116]⟩)) h)
 (asS s_p fun s60 => ∃ J61 : Value → Hp → Prop,
 (cond (ByteArray.toList s60 == ByteArray.toList ⟨#[114, 101, 99, 118]⟩)
 (J61 (.bool (ByteArray.toList s60 == ByteArray.toList ⟨#[114, 101, 99, 118]⟩)) h)
 (asS s_p fun s65 => ∃ J66 : Value → Hp → Prop,
 (cond (ByteArray.toList s65 == ByteArray.toList ⟨#[114, 101, 112, 101, 97, 116]⟩)
 (J66 (.bool (ByteArray.toList s65 == ByteArray.toList ⟨#[114, 101, 112, 101, 97, 116]⟩)) h)
 (asS s_p fun s70 => ∃ J71 : Value → Hp → Prop,
 (cond (ByteArray.toList s70 == ByteArray.toList ⟨#[115, 101, 110, 100]⟩)
 (J71 (.bool (ByteArray.toList s70 == ByteArray.toList ⟨#[115, 101, 110, 100]⟩)) h)
 (asS s_p fun s75 => ∃ J76 : Value → Hp → Prop,
 (cond (ByteArray.toList s75 == ByteArray.toList ⟨#[115, 101, 116]⟩)
 (J76 (.bool (ByteArray.toList s75 == ByteArray.toList ⟨#[115, 101, 116]⟩)) h)
 (asS s_p fun s80 => ∃ J81 : Value → Hp → Prop,
 (cond (ByteArray.toList s80 == ByteArray.toList ⟨#[115, 112, 97, 119, 110]⟩)
 (J81 (.bool (ByteArray.toList s80 == ByteArray.toList ⟨#[115, 112, 97, 119, 110]⟩)) h)
 (asS s_p fun s85 => ∃ J86 : Value → Hp → Prop,
 (cond (ByteArray.toList s85 == ByteArray.toList ⟨#[115, 116, 97, 103, 101]⟩)
 (J86 (.bool (ByteArray.toList s85 == ByteArray.toList ⟨#[115, 116, 97, 103, 101]⟩)) h)
 (asS s_p fun s90 => J86 (.bool (ByteArray.toList s90 == ByteArray.toList ⟨#[116, 97, 107, 101]⟩)) h)) ∧
 ∀ t4_87 (d88 : Nat → Value) (h89 : Hp), J86 t4_87 h89 →
 J81 t4_87 h89)) ∧
 ∀ t4_82 (d83 : Nat → Value) (h84 : Hp), J81 t4_82 h84 →
 J76 t4_82 h84)) ∧
 ∀ t4_77 (d78 : Nat → Value) (h79 : Hp), J76 t4_77 h79 →
 J71 t4_77 h79)) ∧
 ∀ t4_72 (d73 : Nat → Value) (h74 : Hp), J71 t4_72 h74 →
 J66 t4_72 h74)) ∧
 ∀ t4_67 (d68 : Nat → Value) (h69 : Hp), J66 t4_67 h69 →
 J61 t4_67 h69)) ∧
 ∀ t4_62 (d63 : Nat → Value) (h64 : Hp), J61 t4_62 h64 →
 J56 t4_62 h64)) ∧
 ∀ t4_57 (d58 : Nat → Value) (h59 : Hp), J56 t4_57 h59 →
 J51 t4_57 h59)) ∧
 ∀ t4_52 (d53 : Nat → Value) (h54 : Hp), J51 t4_52 h54 →
 J46 t4_52 h54)) ∧
 ∀ t4_47 (d48 : Nat → Value) (h49 : Hp), J46 t4_47 h49 →
 J41 t4_47 h49)) ∧
 ∀ t4_42 (d43 : Nat → Value) (h44 : Hp), J41 t4_42 h44 →
 J36 t4_42 h44)) ∧
 ∀ t4_37 (d38 : Nat → Value) (h39 : Hp), J36 t4_37 h39 →
 J31 t4_37 h39)) ∧
 ∀ t4_32 (d33 : Nat → Value) (h34 : Hp), J31 t4_32 h34 →
 J26 t4_32 h34)) ∧
 ∀ t4_27 (d28 : Nat → Value) (h29 : Hp), J26 t4_27 h29 →
 J21 t4_27 h29)) ∧
 ∀ t4_22 (d23 : Nat → Value) (h24 : Hp), J21 t4_22 h24 →
 J16 t4_22 h24)) ∧
 ∀ t4_17 (d18 : Nat → Value) (h19 : Hp), J16 t4_17 h19 →
 J11 t4_17 h19)) ∧
 ∀ t4_12 (d13 : Nat → Value) (h14 : Hp), J11 t4_12 h14 →
 J6 t4_12 h14)) ∧
 ∀ t4_7 (d8 : Nat → Value) (h9 : Hp), J6 t4_7 h9 →
 J1 t4_7 h9)) ∧
 ∀ t4_2 (d3 : Nat → Value) (h4 : Hp), J1 t4_2 h4 →
 asB t4_2 fun b91 => cond b91
 (R (.bool true) h4)
 (R (.bool false) h4)
def A_token_Word : Ann :=
 (.two .leaf (.two (.two .leaf (.one (.two (.two .leaf (.join [6, 4, 7, 8, 9, 10, 11, 12, 13, 14, 15, 16, 17, 18, 19, 20, 21, 22, 23] [4] (.two .leaf (.two .leaf (.join [7, 4, 8, 9, 10, 11, 12, 13, 14, 15, 16, 17, 18, 19, 20, 21, 22, 23] [4] (.two .leaf (.two .leaf (.join [8, 4, 9, 10, 11, 12, 13, 14, 15, 16, 17, 18, 19, 20, 21, 22, 23] [4] (.two .leaf (.two .leaf (.join [9, 4, 10, 11, 12, 13, 14, 15, 16, 17, 18, 19, 20, 21, 22, 23] [4] (.two .leaf (.two .leaf (.join [10, 4, 11, 12, 13, 14, 15, 16, 17, 18, 19, 20, 21, 22, 23] [4] (.two .leaf (.two .leaf (.join [11, 4, 12, 13, 14, 15, 16, 17, 18, 19, 20, 21, 22, 23] [4] (.two .leaf (.two .leaf (.join [12, 4, 13, 14, 15, 16, 17, 18, 19, 20, 21, 22, 23] [4] (.two .leaf (.two .leaf (.join [13, 4, 14, 15, 16, 17, 18, 19, 20, 21, 22, 23] [4] (.two .leaf (.two .leaf (.join [14, 4, 15, 16, 17, 18, 19, 20, 21, 22, 23] [4] (.two .leaf (.two .leaf (.join [15, 4, 16, 17, 18, 19, 20, 21, 22, 23] [4] (.two .leaf (.two .leaf (.join [16, 4, 17, 18, 19, 20, 21, 22, 23] [4] (.two .leaf (.two .leaf (.join [17, 4, 18, 19, 20, 21, 22, 23] [4] (.two .leaf (.two .leaf (.join [18, 4, 19, 20, 21, 22, 23] [4] (.two .leaf (.two .leaf (.join [19, 4, 20, 21, 22, 23] [4] (.two .leaf (.two .leaf (.join [20, 4, 21, 22, 23] [4] (.two .leaf (.two .leaf (.join [21, 4, 22, 23] [4] (.two .leaf (.two .leaf (.join [22, 4, 23] [4] (.two .leaf (.two .leaf (.join [23, 4] [4] (.two .leaf .leaf)))))))))))))))))))))))))))))))))))))))))))))))))))))) (.two (.two .leaf .leaf) .leaf)))) (.two .leaf .leaf)))
theorem C_token_Word (ω : Amb) (s_p : Value) (h : Hp) (R : Value → Hp → Prop) (X : List PanicEntry → Hp → Prop) (hk : W_token_Word ω s_p h R X) : CallX Tryd.prog ω 98 [s_p] h R X :=
 callX_of (an := A_token_Word) Tryd.func98 ((show fnX Tryd.prog ω A_token_Word Tryd.f98 [s_p] h R X = W_token_Word ω s_p h R X by kernel_rfl) ▸ hk)

/-- pipewright/token.digit -/
abbrev n_token_digit : Nat := 99
def W_token_digit (ω : Amb) (c_p : Value) (h : Hp) (R : Value → Hp → Prop) (X : List PanicEntry → Hp → Prop) : Prop :=
 ∃ J0 : Value → Hp → Prop,
 (asK .u8 c_p fun n4 => cond (decide ((n4 : Int) ≥ 48))
 (asK .u8 c_p fun n5 => J0 (.bool (decide ((n5 : Int) ≤ 57))) h)
 (J0 (.bool false) h)) ∧
 ∀ t2_1 (d2 : Nat → Value) (h3 : Hp), J0 t2_1 h3 →
 R t2_1 h3
def A_token_digit : Ann :=
 (.two .leaf (.two (.join [3, 4, 5, 6, 7, 8, 2] [2] .leaf) .leaf))
theorem C_token_digit (ω : Amb) (c_p : Value) (h : Hp) (R : Value → Hp → Prop) (X : List PanicEntry → Hp → Prop) (hk : W_token_digit ω c_p h R X) : CallX Tryd.prog ω 99 [c_p] h R X :=
 callX_of (an := A_token_digit) Tryd.func99 ((show fnX Tryd.prog ω A_token_digit Tryd.f99 [c_p] h R X = W_token_digit ω c_p h R X by kernel_rfl) ▸ hk)

end Go.Proofs.YtaehnpilebkcoaaDoor.Sx
