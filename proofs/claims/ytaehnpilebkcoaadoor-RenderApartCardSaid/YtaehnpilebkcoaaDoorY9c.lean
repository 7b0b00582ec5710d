/- Formulas of the functions' texts, written by a program of ours; each is checked by the kernel. -/
import Derived.Test.YtaehnpilebkcoaaDoorSxCore
import Derived.KernelRfl
import Derived.Test.YtaehnpilebkcoaaDoorProg
set_option linter.unusedVariables false
set_option maxRecDepth 100000
namespace Go.Proofs.YtaehnpilebkcoaaDoor.Sx
open Go Go.Sx Go.Proofs

/-- pipewright/pipewrightlaw.RenderChecks -/
abbrev n_pipewrightlaw_RenderChecks : Nat := 3
def W_pipewrightlaw_RenderChecks (ω : Amb) (p_p t_p ends_p : Value) (h : Hp) (R : Value → Hp → Prop) (X : List PanicEntry → Hp → Prop) : Prop :=
 CallX Tryd.prog ω 10 [] (Array.push h (.cells (Value.cells p_p) 24 (0, 0))) (fun r0 h1 =>
 asB r0 fun b2 => cond (!b2)
 (R (.bool false) h1)
 (∃ J3 : Value → Hp → Prop,
 (∃ C7, cellsH h1 ⟨Array.size h, 0, none⟩ 1 C7 ∧
 CallX Tryd.prog ω 11 [(.agg C7.toArray)] h1 (fun r8 h9 =>
 asB r8 fun b10 => cond b10
 (J3 (.bool true) h9)
 (asS t_p fun s11 => J3 (.bool (decide (((ByteArray.size s11 : Int) : Int) > 1000))) h9)) X) ∧
 ∀ t15_4 (d5 : Nat → Value) (h6 : Hp), J3 t15_4 h6 →
 asB t15_4 fun b12 => cond b12
 (R (.bool true) h6)
 (∃ J13 : Value → Hp → Prop,
 (∃ C17, cellsH h6 ⟨Array.size h, 0, none⟩ 1 C17 ∧
 ∃ C18, cellsH h6 ⟨Array.size h, 0, none⟩ 1 C18 ∧
 CallX Tryd.prog ω 13 [(.agg C17.toArray)] h6 (fun r19 h20 =>
 cellsH h20 ⟨Array.size h, 0, none⟩ 1 C18 ∧ CallX Tryd.prog ω 12 [r19] h20 (fun r21 h22 =>
 cellsH h22 ⟨Array.size h, 0, none⟩ 1 C18 ∧ CallX Tryd.prog ω 14 [(.agg C18.toArray)] h22 (fun r23 h24 =>
 asA r21 fun A25 => asA r23 fun A26 => asO A25[0]? fun v27 => asO A26[0]? fun v28 => asK .i64 v27 fun n29 => asK .i64 v28 fun n30 => asO A25[1]? fun v31 => asO A26[1]? fun v32 => asK .i64 v31 fun n33 => asK .i64 v32 fun n34 => cond ((n29 == (n30 : Int)) && ((n33 == (n34 : Int)) && true))
 (CallX Tryd.prog ω 15 [t_p, ends_p] h24 (fun r35 h36 =>
 CallX Tryd.prog ω 16 [t_p, ends_p] h36 (fun r37 h38 =>
 asB r35 fun b39 => asB r37 fun b40 => J13 (.bool (b39 == b40)) h38) X) X)
 (J13 (.bool false) h24)) X) X) X) ∧
 ∀ t6_14 (d15 : Nat → Value) (h16 : Hp), J13 t6_14 h16 →
 R t6_14 h16))) X
def A_pipewrightlaw_RenderChecks : Ann :=
 (.two .leaf (.two (.two .leaf (.two (.two .leaf .leaf) .leaf)) (.two (.two (.join [9, 10, 11, 12, 13, 14, 15] [15] .leaf) (.two (.two .leaf .leaf) .leaf)) (.two (.join [16, 17, 18, 19, 20, 21, 22, 23, 24, 25, 26, 27, 28, 29, 30, 6] [6] (.plan [0, 3, 1, 2, 4, 5, 6, 7, 8, 10, 11, 9, 12, 13, 14, 15])) .leaf))))
theorem C_pipewrightlaw_RenderChecks (ω : Amb) (p_p t_p ends_p : Value) (h : Hp) (R : Value → Hp → Prop) (X : List PanicEntry → Hp → Prop) (hk : W_pipewrightlaw_RenderChecks ω p_p t_p ends_p h R X) : CallX Tryd.prog ω 3 [p_p, t_p, ends_p] h R X :=
 callX_of (an := A_pipewrightlaw_RenderChecks) Tryd.func3 ((show fnX Tryd.prog ω A_pipewrightlaw_RenderChecks Tryd.f3 [p_p, t_p, ends_p] h R X = W_pipewrightlaw_RenderChecks ω p_p t_p ends_p h R X by kernel_rfl) ▸ hk)

/-- pipewright/pipewrightlaw.RenderPrints -/
abbrev n_pipewrightlaw_RenderPrints : Nat := 4
def W_pipewrightlaw_RenderPrints (ω : Amb) (p_p : Value) (h : Hp) (R : Value → Hp → Prop) (X : List PanicEntry → Hp → Prop) : Prop :=
 CallX Tryd.prog ω 10 [] (Array.push h (.cells (Value.cells p_p) 24 (0, 0))) (fun r0 h1 =>
 asB r0 fun b2 => cond (!b2)
 (R (.bool false) h1)
 (∃ C3, cellsH h1 ⟨Array.size h, 0, none⟩ 1 C3 ∧
 CallX Tryd.prog ω 11 [(.agg C3.toArray)] h1 (fun r4 h5 =>
 asB r4 fun b6 => cond b6
 (R (.bool true) h5)
 (∃ C7, cellsH h5 ⟨Array.size h, 0, none⟩ 1 C7 ∧
 CallX Tryd.prog ω 13 [(.agg C7.toArray)] h5 (fun r8 h9 =>
 asA r8 fun A10 => A10.size = 1 ∧ (∀ u ∈ A10.toList, one u) ∧ storeK (Array.push h9 (.cells #[(.slice none 0 0)] 24 (0, 0))) ⟨Array.size h9, 0, none⟩ A10.toList fun h11 =>
 ∃ C12, cellsH h11 ⟨Array.size h9, 0, none⟩ 1 C12 ∧
 CallX Tryd.prog ω 17 [(.agg C12.toArray)] h11 (fun r13 h14 =>
 asT r13 fun T15 => asO T15[0]? fun v16 => asT r13 fun T17 => asO T17[1]? fun v18 => asA v18 fun A19 => A19.size = 2 ∧ (∀ u ∈ A19.toList, one u) ∧ storeK (Array.push h14 (.cells #[(.int .i64 0), (.int .i64 0)] 28 (0, 0))) ⟨Array.size h14, 0, none⟩ A19.toList fun h20 =>
 ∃ C21, cellsH h20 ⟨Array.size h, 0, none⟩ 1 C21 ∧
 CallX Tryd.prog ω 14 [(.agg C21.toArray)] h20 (fun r22 h23 =>
 asA r22 fun A24 => A24.size = 2 ∧ (∀ u ∈ A24.toList, one u) ∧ storeK (Array.push h23 (.cells #[(.int .i64 0), (.int .i64 0)] 28 (0, 0))) ⟨Array.size h23, 0, none⟩ A24.toList fun h25 =>
 ∃ J26 : Value → Hp → Prop,
 (∃ C30, cellsH h25 ⟨Array.size h14, 0, none⟩ 2 C30 ∧
 ∃ C31, cellsH h25 ⟨Array.size h23, 0, none⟩ 2 C31 ∧
 asO C30.toArray[0]? fun v32 => asO C31.toArray[0]? fun v33 => asK .i64 v32 fun n34 => asK .i64 v33 fun n35 => asO C30.toArray[1]? fun v36 => asO C31.toArray[1]? fun v37 => asK .i64 v36 fun n38 => asK .i64 v37 fun n39 => cond (!((n34 == (n35 : Int)) && ((n38 == (n39 : Int)) && true)))
 (J26 (.bool true) h25)
 (∃ C40, cellsH h25 ⟨Array.size h9, 0, none⟩ 1 C40 ∧
 ∃ C41, cellsH h25 ⟨Array.size h, 0, none⟩ 1 C41 ∧
 CallX Tryd.prog ω 18 [(.agg C40.toArray), (.agg C41.toArray), (.bool true)] h25 (fun r42 h43 =>
 asB r42 fun b44 => J26 (.bool (!b44)) h43) X)) ∧
 ∀ t28_27 (d28 : Nat → Value) (h29 : Hp), J26 t28_27 h29 →
 asB t28_27 fun b45 => cond b45
 (R (.bool false) h29)
 (∃ J46 : Value → Hp → Prop,
 (∃ v50, cellH h29 (Addr.add ⟨Array.size h23, 0, none⟩ 0) = some v50 ∧
 asK .i64 v50 fun n51 => cond (n51 != (0 : Int))
 (asS v16 fun s52 => cond (ByteArray.toList s52 == ByteArray.toList ⟨#[]⟩)
 (J46 (.bool true) h29)
 (∃ v53, cellH h29 (Addr.add ⟨Array.size h23, 0, none⟩ 0) = some v53 ∧
 asK .i64 v53 fun n54 => cond (n54 == (0 : Int))
 (∃ C55, cellsH h29 ⟨Array.size h, 0, none⟩ 1 C55 ∧
 CallX Tryd.prog ω 19 [(.agg C55.toArray)] h29 (fun r56 h57 =>
 asS v16 fun s58 => asS r56 fun s59 => J46 (.bool (ByteArray.toList s58 == ByteArray.toList s59)) h57) X)
 (J46 (.bool false) h29)))
 (∃ v60, cellH h29 (Addr.add ⟨Array.size h23, 0, none⟩ 0) = some v60 ∧
 asK .i64 v60 fun n61 => cond (n61 == (0 : Int))
 (∃ C62, cellsH h29 ⟨Array.size h, 0, none⟩ 1 C62 ∧
 CallX Tryd.prog ω 19 [(.agg C62.toArray)] h29 (fun r63 h64 =>
 asS v16 fun s65 => asS r63 fun s66 => J46 (.bool (ByteArray.toList s65 == ByteArray.toList s66)) h64) X)
 (J46 (.bool false) h29))) ∧
 ∀ t2_47 (d48 : Nat → Value) (h49 : Hp), J46 t2_47 h49 →
 R t2_47 h49)) X) X) X)) X)) X
def A_pipewrightlaw_RenderPrints : Ann :=
 (.two .leaf (.two (.two .leaf (.two (.two .leaf .leaf) .leaf)) (.two (.two .leaf (.two (.two .leaf .leaf) .leaf)) (.two .leaf (.two .leaf (.two .leaf (.two (.two (.join [20, 21, 22, 23, 24, 25, 26, 27, 28] [28] .leaf) (.two (.two .leaf .leaf) .leaf)) (.two (.join [29, 30, 31, 32, 33, 34, 35, 36, 37, 38, 39, 40, 41, 42, 43, 44, 45, 46, 2] [2] .leaf) .leaf))))))))
theorem C_pipewrightlaw_RenderPrints (ω : Amb) (p_p : Value) (h : Hp) (R : Value → Hp → Prop) (X : List PanicEntry → Hp → Prop) (hk : W_pipewrightlaw_RenderPrints ω p_p h R X) : CallX Tryd.prog ω 4 [p_p] h R X :=
 callX_of (an := A_pipewrightlaw_RenderPrints) Tryd.func4 ((show fnX Tryd.prog ω A_pipewrightlaw_RenderPrints Tryd.f4 [p_p] h R X = W_pipewrightlaw_RenderPrints ω p_p h R X by kernel_rfl) ▸ hk)

/-- pipewright/pipewrightlaw.RenderApart -/
abbrev n_pipewrightlaw_RenderApart : Nat := 5
def W_pipewrightlaw_RenderApart (ω : Amb) (a_p b_p : Value) (h : Hp) (R : Value → Hp → Prop) (X : List PanicEntry → Hp → Prop) : Prop :=
 CallX Tryd.prog ω 10 [] (Array.push (Array.push h (.cells (Value.cells a_p) 24 (0, 0))) (.cells (Value.cells b_p) 24 (0, 0))) (fun r0 h1 =>
 asB r0 fun b2 => cond (!b2)
 (R (.bool false) h1)
 (∃ J3 : Value → Hp → Prop,
 (∃ C7, cellsH h1 ⟨Array.size h, 0, none⟩ 1 C7 ∧
 CallX Tryd.prog ω 11 [(.agg C7.toArray)] h1 (fun r8 h9 =>
 asB r8 fun b10 => cond b10
 (J3 (.bool true) h9)
 (∃ C11, cellsH h9 ⟨Array.size (Array.push h (.cells (Value.cells a_p) 24 (0, 0))), 0, none⟩ 1 C11 ∧
 CallX Tryd.prog ω 11 [(.agg C11.toArray)] h9 (fun r12 h13 =>
 J3 r12 h13) X)) X) ∧
 ∀ t16_4 (d5 : Nat → Value) (h6 : Hp), J3 t16_4 h6 →
 asB t16_4 fun b14 => cond b14
 (R (.bool true) h6)
 (∃ C15, cellsH h6 ⟨Array.size h, 0, none⟩ 1 C15 ∧
 CallX Tryd.prog ω 17 [(.agg C15.toArray)] h6 (fun r16 h17 =>
 asT r16 fun T18 => asO T18[0]? fun v19 => asT r16 fun T20 => asO T20[1]? fun v21 => asA v21 fun A22 => A22.size = 2 ∧ (∀ u ∈ A22.toList, one u) ∧ storeK (Array.push h17 (.cells #[(.int .i64 0), (.int .i64 0)] 28 (0, 0))) ⟨Array.size h17, 0, none⟩ A22.toList fun h23 =>
 ∃ C24, cellsH h23 ⟨Array.size (Array.push h (.cells (Value.cells a_p) 24 (0, 0))), 0, none⟩ 1 C24 ∧
 CallX Tryd.prog ω 17 [(.agg C24.toArray)] h23 (fun r25 h26 =>
 asT r25 fun T27 => asO T27[0]? fun v28 => asT r25 fun T29 => asO T29[1]? fun v30 => asA v30 fun A31 => A31.size = 2 ∧ (∀ u ∈ A31.toList, one u) ∧ storeK (Array.push h26 (.cells #[(.int .i64 0), (.int .i64 0)] 28 (0, 0))) ⟨Array.size h26, 0, none⟩ A31.toList fun h32 =>
 ∃ β33 : Bool,
 (∃ v35, cellH h32 (Addr.add ⟨Array.size h17, 0, none⟩ 0) = some v35 ∧
 asK .i64 v35 fun n36 => cond (n36 != (0 : Int))
 (((.bool true) : Value) = .bool β33 ∧ h32 = h32)
 (∃ v37, cellH h32 (Addr.add ⟨Array.size h26, 0, none⟩ 0) = some v37 ∧
 asK .i64 v37 fun n38 => ((.bool (n38 != (0 : Int))) : Value) = .bool β33 ∧ h32 = h32)) ∧
 ∀ d34 : Nat → Value,
 cond β33
 (R (.bool true) h32)
 (asS v19 fun s39 => asS v28 fun s40 => ∃ C41, cellsH h32 ⟨Array.size h, 0, none⟩ 1 C41 ∧
 ∃ C42, cellsH h32 ⟨Array.size (Array.push h (.cells (Value.cells a_p) 24 (0, 0))), 0, none⟩ 1 C42 ∧
 CallX Tryd.prog ω 20 [(.agg C41.toArray), (.agg C42.toArray)] h32 (fun r43 h44 =>
 asB r43 fun b45 => R (.bool ((ByteArray.toList s39 == ByteArray.toList s40) == b45)) h44) X)) X) X))) X
def A_pipewrightlaw_RenderApart : Ann :=
 (.two .leaf (.two (.two .leaf (.two (.two .leaf .leaf) .leaf)) (.two (.two (.join [11, 12, 13, 14, 15, 16] [16] .leaf) (.two (.two .leaf .leaf) .leaf)) (.two .leaf (.two .leaf (.two (.two (.jb [27, 28, 29, 30, 31, 32, 33, 34] 34 .leaf) (.two (.two .leaf .leaf) .leaf)) (.two .leaf .leaf)))))))
theorem C_pipewrightlaw_RenderApart (ω : Amb) (a_p b_p : Value) (h : Hp) (R : Value → Hp → Prop) (X : List PanicEntry → Hp → Prop) (hk : W_pipewrightlaw_RenderApart ω a_p b_p h R X) : CallX Tryd.prog ω 5 [a_p, b_p] h R X :=
 callX_of (an := A_pipewrightlaw_RenderApart) Tryd.func5 ((show fnX Tryd.prog ω A_pipewrightlaw_RenderApart Tryd.f5 [a_p, b_p] h R X = W_pipewrightlaw_RenderApart ω a_p b_p h R X by kernel_rfl) ▸ hk)

/-- pipewright/pipewrightlaw.renderBegun -/
abbrev n_pipewrightlaw_renderBegun : Nat := 10
def W_pipewrightlaw_renderBegun (ω : Amb) (h : Hp) (R : Value → Hp → Prop) (X : List PanicEntry → Hp → Prop) : Prop :=
 4 = 4 ∧ CallX Tryd.prog ω 17 [(.agg #[(.slice (some ⟨Array.size h, 0, none⟩) 1 1)])] (Array.push h (.cells (List.toArray [(.string ⟨#[97]⟩), (.int .i64 0), (.slice none 0 0), (.slice none 0 0)]) 51 (0, 0))) (fun r0 h1 =>
 asT r0 fun T2 => asO T2[0]? fun v3 => asT r0 fun T4 => asO T4[1]? fun v5 => asA v5 fun A6 => A6.size = 2 ∧ (∀ u ∈ A6.toList, one u) ∧ storeK (Array.push h1 (.cells #[(.int .i64 0), (.int .i64 0)] 28 (0, 0))) ⟨Array.size h1, 0, none⟩ A6.toList fun h7 =>
 ∃ J8 : Value → Hp → Prop,
 (∃ v12, cellH h7 (Addr.add ⟨Array.size h1, 0, none⟩ 0) = some v12 ∧
 asK .i64 v12 fun n13 => cond (n13 == (0 : Int))
 (asS v3 fun s14 => cond (ByteArray.toList s14 == ByteArray.toList ⟨#[115, 116, 97, 103, 101, 32, 97, 40, 41, 32, 123, 10, 125, 10]⟩)
 (CallX Tryd.prog ω 15 [(.string ⟨#[114, 115, 105]⟩), (.int .i64 2)] h7 (fun r15 h16 =>
 J8 r15 h16) X)
 (J8 (.bool false) h7))
 (J8 (.bool false) h7)) ∧
 ∀ t0_9 (d10 : Nat → Value) (h11 : Hp), J8 t0_9 h11 →
 R t0_9 h11) X
def A_pipewrightlaw_renderBegun : Ann :=
 (.two .leaf (.two .leaf (.two (.join [10, 11, 12, 13, 14, 15, 16, 17, 18, 19, 0] [0] .leaf) .leaf)))
theorem C_pipewrightlaw_renderBegun (ω : Amb) (h : Hp) (R : Value → Hp → Prop) (X : List PanicEntry → Hp → Prop) (hk : W_pipewrightlaw_renderBegun ω  h R X) : CallX Tryd.prog ω 10 [] h R X :=
 callX_of (an := A_pipewrightlaw_renderBegun) Tryd.func10 ((show fnX Tryd.prog ω A_pipewrightlaw_renderBegun Tryd.f10 [] h R X = W_pipewrightlaw_renderBegun ω  h R X by kernel_rfl) ▸ hk)

/-- pipewright/render.Print -/
abbrev n_render_Print : Nat := 17
def W_render_Print (ω : Amb) (p_p : Value) (h : Hp) (R : Value → Hp → Prop) (X : List PanicEntry → Hp → Prop) : Prop :=
 ∃ C0, cellsH (Array.push (Array.push h (.cells (Value.cells p_p) 24 (0, 0))) (.cells #[(.int .i64 0), (.int .i64 0)] 28 (0, 0))) ⟨Array.size h, 0, none⟩ 1 C0 ∧
 CallX Tryd.prog ω 12 [(.agg C0.toArray)] (Array.push (Array.push h (.cells (Value.cells p_p) 24 (0, 0))) (.cells #[(.int .i64 0), (.int .i64 0)] 28 (0, 0))) (fun r1 h2 =>
 asA r1 fun A3 => A3.size = 2 ∧ (∀ u ∈ A3.toList, one u) ∧ storeK (Array.push h2 (.cells #[(.int .i64 0), (.int .i64 0)] 28 (0, 0))) ⟨Array.size h2, 0, none⟩ A3.toList fun h4 =>
 ∃ v5, cellH h4 (Addr.add ⟨Array.size h2, 0, none⟩ 0) = some v5 ∧
 asK .i64 v5 fun n6 => cond (n6 != (0 : Int))
 (∃ C7, cellsH h4 ⟨Array.size h2, 0, none⟩ 2 C7 ∧
 C7.toArray.size = 2 ∧ (∀ u ∈ C7.toArray.toList, one u) ∧ storeK h4 ⟨Array.size (Array.push h (.cells (Value.cells p_p) 24 (0, 0))), 0, none⟩ C7.toArray.toList fun h8 =>
 ∃ C9, cellsH h8 ⟨Array.size (Array.push h (.cells (Value.cells p_p) 24 (0, 0))), 0, none⟩ 2 C9 ∧ R (.tuple #[(.string ⟨#[]⟩), (.agg C9.toArray)]) h8)
 (∃ C10, cellsH h4 ⟨Array.size h, 0, none⟩ 1 C10 ∧
 CallX Tryd.prog ω 29 [(.agg C10.toArray)] h4 (fun r11 h12 =>
 2 = 2 ∧ (∀ u ∈ [(.int .i64 0), (.int .i64 0)], one u) ∧ storeK h12 ⟨Array.size (Array.push h (.cells (Value.cells p_p) 24 (0, 0))), 0, none⟩ [(.int .i64 0), (.int .i64 0)] fun h13 =>
 ∃ C14, cellsH h13 ⟨Array.size (Array.push h (.cells (Value.cells p_p) 24 (0, 0))), 0, none⟩ 2 C14 ∧ R (.tuple #[r11, (.agg C14.toArray)]) h13) X)) X
def A_render_Print : Ann :=
 (.two .leaf (.two .leaf (.two (.two .leaf (.two (.two (.plan [0, 1, 2]) .leaf) .leaf)) (.two .leaf .leaf))))
theorem C_render_Print (ω : Amb) (p_p : Value) (h : Hp) (R : Value → Hp → Prop) (X : List PanicEntry → Hp → Prop) (hk : W_render_Print ω p_p h R X) : CallX Tryd.prog ω 17 [p_p] h R X :=
 callX_of (an := A_render_Print) Tryd.func17 ((show fnX Tryd.prog ω A_render_Print Tryd.f17 [p_p] h R X = W_render_Print ω p_p h R X by kernel_rfl) ▸ hk)

/-- pipewright/pipewrightref.Text -/
abbrev n_pipewrightref_Text : Nat := 19
def W_pipewrightref_Text (ω : Amb) (p_p : Value) (h : Hp) (R : Value → Hp → Prop) (X : List PanicEntry → Hp → Prop) : Prop :=
 ∃ (I0 : Value → Value → Hp → Prop) (μ1 : Value → Value → Hp → Nat), I0 (.string ⟨#[]⟩) (.int .i64 0) (Array.push h (.cells (Value.cells p_p) 24 (0, 0))) ∧ ∀ out_2 i_3 (d4 : Nat → Value) (h5 : Hp), I0 out_2 i_3 h5 →
 ∃ v6, cellH h5 (Addr.add ⟨Array.size h, 0, none⟩ 0) = some v6 ∧
 asSl v6 fun a7 l8 c9 => asK .i64 i_3 fun n10 => cond (decide ((n10 : Int) < (l8 : Int)))
 (∃ v11, cellH h5 (Addr.add ⟨Array.size h, 0, none⟩ 0) = some v11 ∧
 asSl1 v11 fun a12 l13 c14 => asI i_3 fun n15 => 0 ≤ (n15 : Int) ∧ n15 < (l13 : Int) ∧ ∃ C16, cellsH h5 (Addr.add a12 (Int.toNat n15 * 4)) 4 C16 ∧
 C16.toArray.size = 4 ∧ (∀ u ∈ C16.toArray.toList, one u) ∧ storeK (Array.push h5 (.cells #[(.string ⟨#[]⟩), (.int .i64 0), (.slice none 0 0), (.slice none 0 0)] 51 (0, 0))) ⟨Array.size h5, 0, none⟩ C16.toArray.toList fun h17 =>
 ∃ v18, cellH h17 (Addr.add ⟨Array.size h5, 0, none⟩ 0) = some v18 ∧
 asS v18 fun s19 => ByteArray.size ⟨#[115, 116, 97, 103, 101, 32]⟩ + ByteArray.size s19 ≤ 9223372036854775807 ∧ ByteArray.size (⟨#[115, 116, 97, 103, 101, 32]⟩ ++ s19) + ByteArray.size ⟨#[40]⟩ ≤ 9223372036854775807 ∧ asS out_2 fun s20 => ByteArray.size s20 + ByteArray.size ((⟨#[115, 116, 97, 103, 101, 32]⟩ ++ s19) ++ ⟨#[40]⟩) ≤ 9223372036854775807 ∧ ∃ (I21 : Value → Value → Hp → Prop) (μ22 : Value → Value → Hp → Nat), I21 (.string (s20 ++ ((⟨#[115, 116, 97, 103, 101, 32]⟩ ++ s19) ++ ⟨#[40]⟩))) (.int .i64 0) h17 ∧ ∀ out_23 k_24 (d25 : Nat → Value) (h26 : Hp), I21 out_23 k_24 h26 →
 ∃ v27, cellH h26 (Addr.add ⟨Array.size h5, 0, none⟩ 2) = some v27 ∧
 asSl v27 fun a28 l29 c30 => asK .i64 k_24 fun n31 => cond (decide ((n31 : Int) < (l29 : Int)))
 (asK .i64 k_24 fun n32 => ∃ J33 : Value → Hp → Prop,
 (cond (decide ((n32 : Int) > 0))
 (asS out_23 fun s37 => ByteArray.size s37 + ByteArray.size ⟨#[44, 32]⟩ ≤ 9223372036854775807 ∧ J33 (.string (s37 ++ ⟨#[44, 32]⟩)) h26)
 (J33 out_23 h26)) ∧
 ∀ out_34 (d35 : Nat → Value) (h36 : Hp), J33 out_34 h36 →
 ∃ v38, cellH h36 (Addr.add ⟨Array.size h5, 0, none⟩ 2) = some v38 ∧
 asSl1 v38 fun a39 l40 c41 => asI k_24 fun n42 => 0 ≤ (n42 : Int) ∧ n42 < (l40 : Int) ∧ ∃ v43, cellH h36 (Addr.add (Addr.add a39 (Int.toNat n42 * 2)) 0) = some v43 ∧
 asS v43 fun s44 => ByteArray.size s44 + ByteArray.size ⟨#[32]⟩ ≤ 9223372036854775807 ∧ ∃ v45, cellH h36 (Addr.add ⟨Array.size h5, 0, none⟩ 2) = some v45 ∧
 asSl1 v45 fun a46 l47 c48 => asI k_24 fun n49 => 0 ≤ (n49 : Int) ∧ n49 < (l47 : Int) ∧ ∃ v50, cellH h36 (Addr.add (Addr.add a46 (Int.toNat n49 * 2)) 1) = some v50 ∧
 CallX Tryd.prog ω 34 [v50] h36 (fun r51 h52 =>
 cellH h52 (Addr.add (Addr.add a39 (Int.toNat n42 * 2)) 0) = some v43 ∧ cellH h52 (Addr.add ⟨Array.size h5, 0, none⟩ 2) = some v38 ∧ asS r51 fun s53 => ByteArray.size (s44 ++ ⟨#[32]⟩) + ByteArray.size s53 ≤ 9223372036854775807 ∧ asS out_34 fun s54 => ByteArray.size s54 + ByteArray.size ((s44 ++ ⟨#[32]⟩) ++ s53) ≤ 9223372036854775807 ∧ asK .i64 k_24 fun n55 => I21 (.string (s54 ++ ((s44 ++ ⟨#[32]⟩) ++ s53))) (.int .i64 (IntKind.wrap .i64 (n55 + 1))) h52 ∧ μ22 (.string (s54 ++ ((s44 ++ ⟨#[32]⟩) ++ s53))) (.int .i64 (IntKind.wrap .i64 (n55 + 1))) h52 < μ22 out_23 k_24 h26) X)
 (∃ v56, cellH h26 (Addr.add ⟨Array.size h5, 0, none⟩ 3) = some v56 ∧
 CallX Tryd.prog ω 35 [v56, (.string ⟨#[]⟩)] h26 (fun r57 h58 =>
 asS r57 fun s59 => ByteArray.size ⟨#[41]⟩ + ByteArray.size s59 ≤ 9223372036854775807 ∧ ByteArray.size (⟨#[41]⟩ ++ s59) + ByteArray.size ⟨#[10]⟩ ≤ 9223372036854775807 ∧ asS out_23 fun s60 => ByteArray.size s60 + ByteArray.size ((⟨#[41]⟩ ++ s59) ++ ⟨#[10]⟩) ≤ 9223372036854775807 ∧ asK .i64 i_3 fun n61 => I0 (.string (s60 ++ ((⟨#[41]⟩ ++ s59) ++ ⟨#[10]⟩))) (.int .i64 (IntKind.wrap .i64 (n61 + 1))) h58 ∧ μ1 (.string (s60 ++ ((⟨#[41]⟩ ++ s59) ++ ⟨#[10]⟩))) (.int .i64 (IntKind.wrap .i64 (n61 + 1))) h58 < μ1 out_2 i_3 h5) X))
 (R out_2 h5)
def A_pipewrightref_Text : Ann :=
 (.two .leaf (.two .leaf (.two (.two .leaf (.one (.loop [7, 8, 9, 10, 11, 14, 15, 16, 17, 18, 5, 19, 20, 21, 22, 23, 24, 3, 6, 25, 26, 27, 28, 29, 32, 33, 34, 35, 36, 37, 38, 39, 40, 41, 42, 43, 44, 45, 46, 47, 48, 49, 50, 51, 52, 30, 31, 53, 54, 55, 56, 57, 58, 59, 12, 13, 4] [3, 4] (.two (.two .leaf (.two .leaf .leaf)) (.two (.one (.two .leaf (.two .leaf (.two (.two .leaf (.one (.loop [25, 26, 27, 28, 29, 32, 33, 34, 35, 3, 36, 37, 38, 39, 40, 41, 42, 43, 44, 45, 46, 47, 48, 49, 50, 51, 52, 30, 31, 6] [3, 6] (.two (.two .leaf (.two .leaf .leaf)) (.two (.one (.two (.two .leaf (.join [34, 35, 3] [3] (.two .leaf .leaf))) (.plan [0, 1, 2, 3, 4, 5, 6, 7, 8, 9, 10, 11, 12, 13, 14, 15, 16, 17]))) .leaf))))) .leaf)))) .leaf))))) (.two .leaf .leaf))))
theorem C_pipewrightref_Text (ω : Amb) (p_p : Value) (h : Hp) (R : Value → Hp → Prop) (X : List PanicEntry → Hp → Prop) (hk : W_pipewrightref_Text ω p_p h R X) : CallX Tryd.prog ω 19 [p_p] h R X :=
 callX_of (an := A_pipewrightref_Text) Tryd.func19 ((show fnX Tryd.prog ω A_pipewrightref_Text Tryd.f19 [p_p] h R X = W_pipewrightref_Text ω p_p h R X by kernel_rfl) ▸ hk)

/-- pipewright/render.whole -/
abbrev n_render_whole : Nat := 29
def W_render_whole (ω : Amb) (prog_p : Value) (h : Hp) (R : Value → Hp → Prop) (X : List PanicEntry → Hp → Prop) : Prop :=
 ∃ v0, cellH (Array.push (Array.push h (.cells (Value.cells prog_p) 24 (0, 0))) (.cells #[(.pointer none), (.slice none 0 0), (.int .i64 0)] 97 (0, 0))) (Addr.add ⟨Array.size h, 0, none⟩ 0) = some v0 ∧
 asSl v0 fun a1 l2 c3 => ∃ (I4 : Value → Hp → Prop) (μ5 : Value → Hp → Nat), I4 (.int .i64 0) (Array.push (Array.push h (.cells (Value.cells prog_p) 24 (0, 0))) (.cells #[(.pointer none), (.slice none 0 0), (.int .i64 0)] 97 (0, 0))) ∧ ∀ t14_6 (d7 : Nat → Value) (h8 : Hp), I4 t14_6 h8 →
 asK .i64 t14_6 fun n9 => cond (decide ((n9 : Int) < (l2 : Int)))
 (asSl1 v0 fun a10 l11 c12 => asI t14_6 fun n13 => 0 ≤ (n13 : Int) ∧ n13 < (l11 : Int) ∧ ∃ C14, cellsH h8 (Addr.add a10 (Int.toNat n13 * 4)) 4 C14 ∧
 C14.toArray.size = 4 ∧ (∀ u ∈ C14.toArray.toList, one u) ∧ storeK (Array.push h8 (.cells #[(.string ⟨#[]⟩), (.int .i64 0), (.slice none 0 0), (.slice none 0 0)] 51 (0, 0))) ⟨Array.size h8, 0, none⟩ C14.toArray.toList fun h15 =>
 ∃ v16, cellH h15 (Addr.add ⟨Array.size h8, 0, none⟩ 2) = some v16 ∧
 asSl v16 fun a17 l18 c19 => ∃ (I20 : Value → Value → Hp → Prop) (μ21 : Value → Value → Hp → Nat), I20 (.slice none 0 0) (.int .i64 0) h15 ∧ ∀ l_22 t21_23 (d24 : Nat → Value) (h25 : Hp), I20 l_22 t21_23 h25 →
 asK .i64 t21_23 fun n26 => cond (decide ((n26 : Int) < (l18 : Int)))
 (asSl1 v16 fun a27 l28 c29 => asI t21_23 fun n30 => 0 ≤ (n30 : Int) ∧ n30 < (l28 : Int) ∧ ∃ C31, cellsH h25 (Addr.add a27 (Int.toNat n30 * 2)) 2 C31 ∧
 C31.toArray.size = 2 ∧ (∀ u ∈ C31.toArray.toList, one u) ∧ storeK (Array.push h25 (.cells #[(.string ⟨#[]⟩), (.string ⟨#[]⟩)] 54 (0, 0))) ⟨Array.size h25, 0, none⟩ C31.toArray.toList fun h32 =>
 ∃ v33, cellH h32 (Addr.add ⟨Array.size h25, 0, none⟩ 0) = some v33 ∧
 asS v33 fun s34 => ByteArray.size s34 + ByteArray.size ⟨#[32]⟩ ≤ 9223372036854775807 ∧ ∃ v35, cellH h32 (Addr.add ⟨Array.size h25, 0, none⟩ 1) = some v35 ∧
 CallX Tryd.prog ω 60 [v35] h32 (fun r36 h37 =>
 cellH h37 (Addr.add ⟨Array.size h25, 0, none⟩ 0) = some v33 ∧ asS r36 fun s38 => ByteArray.size (s34 ++ ⟨#[32]⟩) + ByteArray.size s38 ≤ 9223372036854775807 ∧ appK Tryd.prog 98 (Array.push h37 (.cells (List.toArray [(.string ((s34 ++ ⟨#[32]⟩) ++ s38))]) 9 (0, 0))) l_22 (.slice (some ⟨Array.size h37, 0, none⟩) 1 1) fun w39 h40 =>
 asK .i64 t21_23 fun n41 => I20 w39 (.int .i64 (IntKind.wrap .i64 (n41 + 1))) h40 ∧ μ21 w39 (.int .i64 (IntKind.wrap .i64 (n41 + 1))) h40 < μ21 l_22 t21_23 h25) X)
 (∃ v42, cellH h25 (Addr.add ⟨Array.size h8, 0, none⟩ 0) = some v42 ∧
 CallX Tryd.prog ω 62 [l_22, (.string ⟨#[44, 32]⟩)] h25 (fun r43 h44 =>
 cellH h44 (Addr.add ⟨Array.size h8, 0, none⟩ 0) = some v42 ∧ oneK v42 (oneK r43 (CallX Tryd.prog ω 61 [(.pointer (some ⟨Array.size (Array.push h (.cells (Value.cells prog_p) 24 (0, 0))), 0, none⟩)), (.slice (some ⟨Array.size h44, 0, none⟩) 5 5)] (Array.push h44 (.cells (List.toArray [(.string ⟨#[115, 116, 97, 103, 101, 32]⟩), v42, (.string ⟨#[40]⟩), r43, (.string ⟨#[41]⟩)]) 9 (0, 0))) (fun r45 h46 =>
 ∃ v47, cellH h46 (Addr.add ⟨Array.size h8, 0, none⟩ 3) = some v47 ∧
 CallX Tryd.prog ω 63 [(.pointer (some ⟨Array.size (Array.push h (.cells (Value.cells prog_p) 24 (0, 0))), 0, none⟩)), v47] h46 (fun r48 h49 =>
 CallX Tryd.prog ω 64 [(.pointer (some ⟨Array.size (Array.push h (.cells (Value.cells prog_p) 24 (0, 0))), 0, none⟩)), (.slice (some ⟨Array.size h49, 0, none⟩) 1 1)] (Array.push h49 (.cells (List.toArray [(.string ⟨#[10]⟩)]) 9 (0, 0))) (fun r50 h51 =>
 asK .i64 t14_6 fun n52 => I4 (.int .i64 (IntKind.wrap .i64 (n52 + 1))) h51 ∧ μ5 (.int .i64 (IntKind.wrap .i64 (n52 + 1))) h51 < μ5 t14_6 h8) X) X) X))) X))
 (CallX Tryd.prog ω 65 [(.pointer (some (Addr.add ⟨Array.size (Array.push h (.cells (Value.cells prog_p) 24 (0, 0))), 0, none⟩ 0)))] h8 (fun r53 h54 =>
 R r53 h54) X)
def A_render_whole : Ann :=
 (.two .leaf (.two .leaf (.two (.two .leaf (.one (.loop [15, 16, 17, 5, 6, 18, 19, 20, 21, 22, 23, 24, 8, 25, 26, 27, 28, 29, 30, 31, 32, 33, 34, 35, 36, 37, 38, 39, 40, 41, 42, 43, 44, 45, 46, 47, 48, 49, 50, 14] [14] (.two .leaf (.two (.two .leaf .leaf) (.two (.one (.two .leaf (.two .leaf (.two (.two .leaf (.one (.loop [22, 23, 24, 8, 25, 26, 27, 28, 29, 30, 31, 32, 33, 34, 6, 35, 21] [6, 21] (.two .leaf (.two (.two .leaf .leaf) (.two (.one (.two .leaf (.plan [0, 1, 2, 3, 4, 5, 6, 7, 8, 9, 10]))) .leaf)))))) (.two (.plan [0, 1, 2, 3, 4, 5, 6]) (.two .leaf .leaf)))))) .leaf)))))) (.two .leaf .leaf))))
theorem C_render_whole (ω : Amb) (prog_p : Value) (h : Hp) (R : Value → Hp → Prop) (X : List PanicEntry → Hp → Prop) (hk : W_render_whole ω prog_p h R X) : CallX Tryd.prog ω 29 [prog_p] h R X :=
 callX_of (an := A_render_whole) Tryd.func29 ((show fnX Tryd.prog ω A_render_whole Tryd.f29 [prog_p] h R X = W_render_whole ω prog_p h R X by kernel_rfl) ▸ hk)

/-- pipewright/pipewrightref.kindText -/
abbrev n_pipewrightref_kindText : Nat := 34
def W_pipewrightref_kindText (ω : Amb) (t_p : Value) (h : Hp) (R : Value → Hp → Prop) (X : List PanicEntry → Hp → Prop) : Prop :=
 ∃ (I0 : Value → Value → Hp → Prop) (μ1 : Value → Value → Hp → Nat), I0 (.string ⟨#[]⟩) (.int .i64 0) h ∧ ∀ out_2 i_3 (d4 : Nat → Value) (h5 : Hp), I0 out_2 i_3 h5 →
 asS t_p fun s6 => asK .i64 i_3 fun n7 => cond (decide ((n7 : Int) < (IntKind.wrap .i64 ((ByteArray.size s6 : Int) - 1))))
 (∃ J8 : Value → Hp → Prop,
 (asK .i64 i_3 fun n12 => asS t_p fun s13 => asI i_3 fun n14 => 0 ≤ (n14 : Int) ∧ (n14 : Int) ≤ (IntKind.wrap .i64 (n12 + 1)) ∧ (IntKind.wrap .i64 (n12 + 1)) ≤ (ByteArray.size s13 : Int) ∧ ∃ J15 : Value → Hp → Prop,
 (cond (ByteArray.toList (ByteArray.extract s13 (Int.toNat n14) (Int.toNat (IntKind.wrap .i64 (n12 + 1)))) == ByteArray.toList ⟨#[115]⟩)
 (asS out_2 fun s19 => ByteArray.size s19 + ByteArray.size ⟨#[115, 101, 110, 100, 32]⟩ ≤ 9223372036854775807 ∧ J15 (.string (s19 ++ ⟨#[115, 101, 110, 100, 32]⟩)) h5)
 (asS out_2 fun s20 => ByteArray.size s20 + ByteArray.size ⟨#[114, 101, 99, 118, 32]⟩ ≤ 9223372036854775807 ∧ J15 (.string (s20 ++ ⟨#[114, 101, 99, 118, 32]⟩)) h5)) ∧
 ∀ out_16 (d17 : Nat → Value) (h18 : Hp), J15 out_16 h18 →
 J8 out_16 h18) ∧
 ∀ out_9 (d10 : Nat → Value) (h11 : Hp), J8 out_9 h11 →
 asK .i64 i_3 fun n21 => I0 out_9 (.int .i64 (IntKind.wrap .i64 (n21 + 1))) h11 ∧ μ1 out_9 (.int .i64 (IntKind.wrap .i64 (n21 + 1))) h11 < μ1 out_2 i_3 h5)
 (asS out_2 fun s22 => ByteArray.size s22 + ByteArray.size ⟨#[105, 110, 116]⟩ ≤ 9223372036854775807 ∧ R (.string (s22 ++ ⟨#[105, 110, 116]⟩)) h5)
def A_pipewrightref_kindText : Ann :=
 (.two .leaf (.two .leaf (.two (.two .leaf (.one (.loop [5, 6, 7, 8, 9, 12, 13, 14, 15, 16, 17, 18, 19, 3, 20, 21, 10, 11, 4] [3, 4] (.two (.two .leaf (.two .leaf .leaf)) (.two (.join [12, 13, 14, 15, 16, 17, 18, 19, 3, 20, 21] [3] (.one (.two .leaf (.join [18, 19, 3, 20, 21] [3] (.two .leaf .leaf))))) .leaf))))) (.two .leaf .leaf))))
theorem C_pipewrightref_kindText (ω : Amb) (t_p : Value) (h : Hp) (R : Value → Hp → Prop) (X : List PanicEntry → Hp → Prop) (hk : W_pipewrightref_kindText ω t_p h R X) : CallX Tryd.prog ω 34 [t_p] h R X :=
 callX_of (an := A_pipewrightref_kindText) Tryd.func34 ((show fnX Tryd.prog ω A_pipewrightref_kindText Tryd.f34 [t_p] h R X = W_pipewrightref_kindText ω t_p h R X by kernel_rfl) ▸ hk)

/-- pipewright/pipewrightref.blockText -/
abbrev n_pipewrightref_blockText : Nat := 35
def W_pipewrightref_blockText (ω : Amb) (l_p tabs_p : Value) (h : Hp) (R : Value → Hp → Prop) (X : List PanicEntry → Hp → Prop) : Prop :=
 ∃ (I0 : Value → Value → Hp → Prop) (μ1 : Value → Value → Hp → Nat), I0 (.string ⟨#[32, 123, 10]⟩) (.int .i64 0) h ∧ ∀ out_2 i_3 (d4 : Nat → Value) (h5 : Hp), I0 out_2 i_3 h5 →
 asSl l_p fun a6 l7 c8 => asK .i64 i_3 fun n9 => cond (decide ((n9 : Int) < (l7 : Int)))
 (asSl1 l_p fun a10 l11 c12 => asI i_3 fun n13 => 0 ≤ (n13 : Int) ∧ n13 < (l11 : Int) ∧ ∃ C14, cellsH h5 (Addr.add a10 (Int.toNat n13 * 9)) 9 C14 ∧
 asS tabs_p fun s15 => ByteArray.size s15 + ByteArray.size ⟨#[9]⟩ ≤ 9223372036854775807 ∧ CallX Tryd.prog ω 70 [(.agg C14.toArray), (.string (s15 ++ ⟨#[9]⟩))] h5 (fun r16 h17 =>
 asS out_2 fun s18 => asS r16 fun s19 => ByteArray.size s18 + ByteArray.size s19 ≤ 9223372036854775807 ∧ asK .i64 i_3 fun n20 => I0 (.string (s18 ++ s19)) (.int .i64 (IntKind.wrap .i64 (n20 + 1))) h17 ∧ μ1 (.string (s18 ++ s19)) (.int .i64 (IntKind.wrap .i64 (n20 + 1))) h17 < μ1 out_2 i_3 h5) X)
 (asS out_2 fun s21 => asS tabs_p fun s22 => ByteArray.size s21 + ByteArray.size s22 ≤ 9223372036854775807 ∧ ByteArray.size (s21 ++ s22) + ByteArray.size ⟨#[125]⟩ ≤ 9223372036854775807 ∧ R (.string ((s21 ++ s22) ++ ⟨#[125]⟩)) h5)
def A_pipewrightref_blockText : Ann :=
 (.two .leaf (.two .leaf (.two (.two .leaf (.one (.loop [7, 8, 9, 10, 13, 14, 15, 16, 17, 18, 19, 20, 21, 5, 11, 12, 6] [5, 6] (.two (.two .leaf (.two .leaf .leaf)) (.two (.one .leaf) .leaf))))) (.two .leaf .leaf))))
theorem C_pipewrightref_blockText (ω : Amb) (l_p tabs_p : Value) (h : Hp) (R : Value → Hp → Prop) (X : List PanicEntry → Hp → Prop) (hk : W_pipewrightref_blockText ω l_p tabs_p h R X) : CallX Tryd.prog ω 35 [l_p, tabs_p] h R X :=
 callX_of (an := A_pipewrightref_blockText) Tryd.func35 ((show fnX Tryd.prog ω A_pipewrightref_blockText Tryd.f35 [l_p, tabs_p] h R X = W_pipewrightref_blockText ω l_p tabs_p h R X by kernel_rfl) ▸ hk)

/-- pipewright/render.words -/
abbrev n_render_words : Nat := 60
def W_render_words (ω : Amb) (t_p : Value) (h : Hp) (R : Value → Hp → Prop) (X : List PanicEntry → Hp → Prop) : Prop :=
 asS t_p fun s0 => ∃ (I1 : Value → Hp → Prop) (μ2 : Value → Hp → Nat), I1 (.int .i64 0) (Array.push h (.cells #[(.pointer none), (.slice none 0 0)] 95 (0, 0))) ∧ ∀ t8_3 (d4 : Nat → Value) (h5 : Hp), I1 t8_3 h5 →
 asK .i64 t8_3 fun n6 => cond (decide ((n6 : Int) < (IntKind.wrap .i64 ((ByteArray.size s0 : Int) - 1))))
 (∃ J7 : Hp → Prop,
 (asS t_p fun s10 => asI t8_3 fun n11 => 0 ≤ (n11 : Int) ∧ n11 < (ByteArray.size s10 : Int) ∧ ∃ J12 : Hp → Prop,
 (cond ((byteAt s10 n11) == (115 : Int))
 (CallX Tryd.prog ω 87 [(.pointer (some ⟨Array.size h, 0, none⟩)), (.string ⟨#[115, 101, 110, 100, 32]⟩)] h5 (fun r15 h16 =>
 J12 h16) X)
 (CallX Tryd.prog ω 87 [(.pointer (some ⟨Array.size h, 0, none⟩)), (.string ⟨#[114, 101, 99, 118, 32]⟩)] h5 (fun r17 h18 =>
 J12 h18) X)) ∧
 ∀  (d13 : Nat → Value) (h14 : Hp), J12 h14 →
 J7 h14) ∧
 ∀  (d8 : Nat → Value) (h9 : Hp), J7 h9 →
 asK .i64 t8_3 fun n19 => I1 (.int .i64 (IntKind.wrap .i64 (n19 + 1))) h9 ∧ μ2 (.int .i64 (IntKind.wrap .i64 (n19 + 1))) h9 < μ2 t8_3 h5)
 (CallX Tryd.prog ω 65 [(.pointer (some ⟨Array.size h, 0, none⟩))] h5 (fun r20 h21 =>
 asS r20 fun s22 => ByteArray.size s22 + ByteArray.size ⟨#[105, 110, 116]⟩ ≤ 9223372036854775807 ∧ R (.string (s22 ++ ⟨#[105, 110, 116]⟩)) h21) X)
def A_render_words : Ann :=
 (.two .leaf (.two .leaf (.two (.two .leaf (.one (.loop [9, 10, 4, 11, 12, 13, 14, 15, 16, 17, 8] [8] (.two .leaf (.two (.two .leaf .leaf) (.two (.join [10, 4, 11, 12, 13, 14, 15, 16] [] (.one (.two .leaf (.two .leaf (.join [15, 16] [] (.two .leaf .leaf)))))) .leaf)))))) (.two .leaf .leaf))))
theorem C_render_words (ω : Amb) (t_p : Value) (h : Hp) (R : Value → Hp → Prop) (X : List PanicEntry → Hp → Prop) (hk : W_render_words ω t_p h R X) : CallX Tryd.prog ω 60 [t_p] h R X :=
 callX_of (an := A_render_words) Tryd.func60 ((show fnX Tryd.prog ω A_render_words Tryd.f60 [t_p] h R X = W_render_words ω t_p h R X by kernel_rfl) ▸ hk)

/-- (*pipewright/render.page).line -/
abbrev n_p_render_page_line : Nat := 61
def W_p_render_page_line (ω : Amb) (p_p l_p : Value) (h : Hp) (R : Value → Hp → Prop) (X : List PanicEntry → Hp → Prop) : Prop :=
 nnK p_p (asP p_p fun p0 =>
 ∃ v1, cellH h (Addr.add p0 2) = some v1 ∧
 CallX Tryd.prog ω 88 [(.string ⟨#[9]⟩), v1] h (fun r2 h3 =>
 oneK r2 (CallX Tryd.prog ω 64 [p_p, (.slice (some ⟨Array.size h3, 0, none⟩) 1 1)] (Array.push h3 (.cells (List.toArray [r2]) 9 (0, 0))) (fun r4 h5 =>
 CallX Tryd.prog ω 64 [p_p, l_p] h5 (fun r6 h7 =>
 R (.tuple #[]) h7) X) X)) X)
def A_p_render_page_line : Ann :=
 (.two .leaf .leaf)
theorem C_p_render_page_line (ω : Amb) (p_p l_p : Value) (h : Hp) (R : Value → Hp → Prop) (X : List PanicEntry → Hp → Prop) (hk : W_p_render_page_line ω p_p l_p h R X) : CallX Tryd.prog ω 61 [p_p, l_p] h R X :=
 callX_of (an := A_p_render_page_line) Tryd.func61 ((show fnX Tryd.prog ω A_p_render_page_line Tryd.f61 [p_p, l_p] h R X = W_p_render_page_line ω p_p l_p h R X by kernel_rfl) ▸ hk)

/-- strings.Join -/
abbrev n_strings_Join : Nat := 62
def W_strings_Join (ω : Amb) (elems_p sep_p : Value) (h : Hp) (R : Value → Hp → Prop) (X : List PanicEntry → Hp → Prop) : Prop :=
 asSl elems_p fun a0 l1 c2 => cond ((l1 : Int) == (0 : Int))
 (R (.string ⟨#[]⟩) h)
 (cond ((l1 : Int) == (1 : Int))
 (asSl1 elems_p fun a3 l4 c5 => 0 ≤ (0 : Int) ∧ 0 < (l4 : Int) ∧ ∃ v6, cellH h (Addr.add a3 (Int.toNat 0 * 1)) = some v6 ∧
 R v6 h)
 (asS sep_p fun s7 => ∃ J8 : Value → Hp → Prop,
 (cond (decide (((ByteArray.size s7 : Int) : Int) > 0))
 (asS sep_p fun s12 => asSl elems_p fun a13 l14 c15 => ((IntKind.wrap .i64 ((l14 : Int) - 1)) : Int) ≠ 0 ∧ ∃ J16 : Hp → Prop,
 (cond (decide (((ByteArray.size s12 : Int) : Int) ≥ (IntKind.wrap .i64 (Int.tdiv 9223372036854775807 (IntKind.wrap .i64 ((l14 : Int) - 1))))))
 (X [⟨.iface 9 (.string ⟨#[115, 116, 114, 105, 110, 103, 115, 58, 32, 74, 111, 105, 110, 32, 111, 117, 116, 112, 117, 116, 32, 108, 101, 110, 103, 116, 104, 32, 111, 118, 101, 114, 102, 108, 111, 119]⟩), false, false⟩] h)
 (J16 h)) ∧
 ∀  (d17 : Nat → Value) (h18 : Hp), J16 h18 →
 asS sep_p fun s19 => asSl elems_p fun a20 l21 c22 => J8 (.int .i64 (IntKind.wrap .i64 (0 + (IntKind.wrap .i64 ((ByteArray.size s19 : Int) * (IntKind.wrap .i64 ((l21 : Int) - 1))))))) h18)
 (J8 (.int .i64 0) h)) ∧
 ∀ n_9 (d10 : Nat → Value) (h11 : Hp), J8 n_9 h11 →
 asSl elems_p fun a23 l24 c25 => ∃ (I26 : Value → Value → Hp → Prop) (μ27 : Value → Value → Hp → Nat), I26 n_9 (.int .i64 0) h11 ∧ ∀ n_28 t41_29 (d30 : Nat → Value) (h31 : Hp), I26 n_28 t41_29 h31 →
 asK .i64 t41_29 fun n32 => cond (decide ((n32 : Int) < (l24 : Int)))
 (asSl1 elems_p fun a33 l34 c35 => asI t41_29 fun n36 => 0 ≤ (n36 : Int) ∧ n36 < (l34 : Int) ∧ ∃ v37, cellH h31 (Addr.add a33 (Int.toNat n36 * 1)) = some v37 ∧
 asS v37 fun s38 => asK .i64 n_28 fun n39 => ∃ J40 : Hp → Prop,
 (cond (decide (((ByteArray.size s38 : Int) : Int) > (IntKind.wrap .i64 (9223372036854775807 - n39))))
 (X [⟨.iface 9 (.string ⟨#[115, 116, 114, 105, 110, 103, 115, 58, 32, 74, 111, 105, 110, 32, 111, 117, 116, 112, 117, 116, 32, 108, 101, 110, 103, 116, 104, 32, 111, 118, 101, 114, 102, 108, 111, 119]⟩), false, false⟩] h31)
 (J40 h31)) ∧
 ∀  (d41 : Nat → Value) (h42 : Hp), J40 h42 →
 asS v37 fun s43 => asK .i64 n_28 fun n44 => asK .i64 t41_29 fun n45 => I26 (.int .i64 (IntKind.wrap .i64 (n44 + (ByteArray.size s43 : Int)))) (.int .i64 (IntKind.wrap .i64 (n45 + 1))) h42 ∧ μ27 (.int .i64 (IntKind.wrap .i64 (n44 + (ByteArray.size s43 : Int)))) (.int .i64 (IntKind.wrap .i64 (n45 + 1))) h42 < μ27 n_28 t41_29 h31)
 (CallX Tryd.prog ω 89 [(.pointer (some ⟨Array.size h31, 0, none⟩)), n_28] (Array.push h31 (.cells #[(.pointer none), (.slice none 0 0)] 95 (0, 0))) (fun r46 h47 =>
 asSl1 elems_p fun a48 l49 c50 => 0 ≤ (0 : Int) ∧ 0 < (l49 : Int) ∧ ∃ v51, cellH h47 (Addr.add a48 (Int.toNat 0 * 1)) = some v51 ∧
 CallX Tryd.prog ω 87 [(.pointer (some ⟨Array.size h31, 0, none⟩)), v51] h47 (fun r52 h53 =>
 asSl elems_p fun a54 l55 c56 => 0 ≤ (1 : Int) ∧ (1 : Int) ≤ (l55 : Int) ∧ (l55 : Int) ≤ (c56 : Int) ∧ ∃ (I57 : Value → Hp → Prop) (μ58 : Value → Hp → Nat), I57 (.int .i64 0) h53 ∧ ∀ t65_59 (d60 : Nat → Value) (h61 : Hp), I57 t65_59 h61 →
 asK .i64 t65_59 fun n62 => cond (decide ((n62 : Int) < (((Int.toNat (l55 : Int) - Int.toNat 1) : Nat) : Int)))
 (asSl1 (.slice (if c56 = Int.toNat 1 then a54 else Option.map (fun y => Addr.add y (Int.toNat 1 * 1)) a54) (Int.toNat (l55 : Int) - Int.toNat 1) (c56 - Int.toNat 1)) fun a63 l64 c65 => asI t65_59 fun n66 => 0 ≤ (n66 : Int) ∧ n66 < (l64 : Int) ∧ ∃ v67, cellH h61 (Addr.add a63 (Int.toNat n66 * 1)) = some v67 ∧
 CallX Tryd.prog ω 87 [(.pointer (some ⟨Array.size h31, 0, none⟩)), sep_p] h61 (fun r68 h69 =>
 CallX Tryd.prog ω 87 [(.pointer (some ⟨Array.size h31, 0, none⟩)), v67] h69 (fun r70 h71 =>
 asK .i64 t65_59 fun n72 => I57 (.int .i64 (IntKind.wrap .i64 (n72 + 1))) h71 ∧ μ58 (.int .i64 (IntKind.wrap .i64 (n72 + 1))) h71 < μ58 t65_59 h61) X) X)
 (CallX Tryd.prog ω 65 [(.pointer (some ⟨Array.size h31, 0, none⟩))] h61 (fun r73 h74 =>
 R r73 h74) X)) X) X)))
def A_strings_Join : Ann :=
 (.two .leaf (.two (.two .leaf (.one (.two .leaf (.two (.two .leaf .leaf) (.two .leaf (.two (.two .leaf .leaf) .leaf)))))) (.two .leaf (.two (.two .leaf (.join [23, 24, 25, 26, 27, 28, 29, 30, 31, 32, 33, 34, 35, 36, 37, 38, 5] [5] (.two (.two (.two .leaf (.join [30] [] (.two .leaf .leaf))) .leaf) .leaf))) (.two (.two .leaf (.one (.loop [42, 43, 44, 7, 45, 46, 47, 48, 49, 50, 51, 52, 53, 54, 5, 55, 41] [5, 41] (.two .leaf (.two (.two .leaf .leaf) (.two (.one (.two .leaf (.two (.two .leaf (.join [50] [] (.two .leaf .leaf))) .leaf))) .leaf)))))) (.two .leaf (.two .leaf (.two .leaf (.two (.two .leaf (.one (.loop [66, 67, 68, 10, 69, 70, 71, 72, 73, 65] [65] (.two .leaf (.two (.two .leaf .leaf) (.two (.one (.two .leaf (.two .leaf .leaf))) .leaf)))))) (.two .leaf .leaf))))))))))
theorem C_strings_Join (ω : Amb) (elems_p sep_p : Value) (h : Hp) (R : Value → Hp → Prop) (X : List PanicEntry → Hp → Prop) (hk : W_strings_Join ω elems_p sep_p h R X) : CallX Tryd.prog ω 62 [elems_p, sep_p] h R X :=
 callX_of (an := A_strings_Join) Tryd.func62 ((show fnX Tryd.prog ω A_strings_Join Tryd.f62 [elems_p, sep_p] h R X = W_strings_Join ω elems_p sep_p h R X by kernel_rfl) ▸ hk)

/-- (*pipewright/render.page).block -/
abbrev n_p_render_page_block : Nat := 63
def W_p_render_page_block (ω : Amb) (p_p l_p : Value) (h : Hp) (R : Value → Hp → Prop) (X : List PanicEntry → Hp → Prop) : Prop :=
 CallX Tryd.prog ω 64 [p_p, (.slice (some ⟨Array.size h, 0, none⟩) 1 1)] (Array.push h (.cells (List.toArray [(.string ⟨#[32, 123, 10]⟩)]) 9 (0, 0))) (fun r0 h1 =>
 nnK p_p (asP p_p fun p2 =>
 ∃ v3, cellH h1 (Addr.add p2 2) = some v3 ∧
 asK .i64 v3 fun n4 => nnK p_p (asP p_p fun p5 =>
 storeK1 h1 (Addr.add p5 2) (.int .i64 (IntKind.wrap .i64 (n4 + 1))) fun h6 =>
 asSl l_p fun a7 l8 c9 => ∃ (I10 : Value → Hp → Prop) (μ11 : Value → Hp → Nat), I10 (.int .i64 0) h6 ∧ ∀ t18_12 (d13 : Nat → Value) (h14 : Hp), I10 t18_12 h14 →
 asK .i64 t18_12 fun n15 => cond (decide ((n15 : Int) < (l8 : Int)))
 (asSl1 l_p fun a16 l17 c18 => asI t18_12 fun n19 => 0 ≤ (n19 : Int) ∧ n19 < (l17 : Int) ∧ ∃ C20, cellsH h14 (Addr.add a16 (Int.toNat n19 * 9)) 9 C20 ∧
 C20.toArray.size = 9 ∧ (∀ u ∈ C20.toArray.toList, one u) ∧ storeK (Array.push h14 (.cells #[(.int .i64 0), (.int .i64 0), (.string ⟨#[]⟩), (.string ⟨#[]⟩), (.string ⟨#[]⟩), (.int .i64 0), (.slice none 0 0), (.slice none 0 0), (.slice none 0 0)] 65 (0, 0))) ⟨Array.size h14, 0, none⟩ C20.toArray.toList fun h21 =>
 ∃ C22, cellsH h21 ⟨Array.size h14, 0, none⟩ 9 C22 ∧
 CallX Tryd.prog ω 90 [p_p, (.agg C22.toArray)] h21 (fun r23 h24 =>
 asK .i64 t18_12 fun n25 => I10 (.int .i64 (IntKind.wrap .i64 (n25 + 1))) h24 ∧ μ11 (.int .i64 (IntKind.wrap .i64 (n25 + 1))) h24 < μ11 t18_12 h14) X)
 (nnK p_p (asP p_p fun p26 =>
 ∃ v27, cellH h14 (Addr.add p26 2) = some v27 ∧
 asK .i64 v27 fun n28 => nnK p_p (asP p_p fun p29 =>
 storeK1 h14 (Addr.add p29 2) (.int .i64 (IntKind.wrap .i64 (n28 - 1))) fun h30 =>
 CallX Tryd.prog ω 61 [p_p, (.slice (some ⟨Array.size h30, 0, none⟩) 1 1)] (Array.push h30 (.cells (List.toArray [(.string ⟨#[125]⟩)]) 9 (0, 0))) (fun r31 h32 =>
 R (.tuple #[]) h32) X)))))) X
def A_p_render_page_block : Ann :=
 (.two .leaf (.two .leaf (.two (.two .leaf (.one (.loop [19, 20, 21, 5, 22, 23, 24, 25, 18] [18] (.two .leaf (.two (.two .leaf .leaf) (.two (.one (.two .leaf .leaf)) .leaf)))))) (.two .leaf .leaf))))
theorem C_p_render_page_block (ω : Amb) (p_p l_p : Value) (h : Hp) (R : Value → Hp → Prop) (X : List PanicEntry → Hp → Prop) (hk : W_p_render_page_block ω p_p l_p h R X) : CallX Tryd.prog ω 63 [p_p, l_p] h R X :=
 callX_of (an := A_p_render_page_block) Tryd.func63 ((show fnX Tryd.prog ω A_p_render_page_block Tryd.f63 [p_p, l_p] h R X = W_p_render_page_block ω p_p l_p h R X by kernel_rfl) ▸ hk)

/-- (*pipewright/render.page).put -/
abbrev n_p_render_page_put : Nat := 64
def W_p_render_page_put (ω : Amb) (p_p l_p : Value) (h : Hp) (R : Value → Hp → Prop) (X : List PanicEntry → Hp → Prop) : Prop :=
 asSl l_p fun a0 l1 c2 => ∃ (I3 : Value → Hp → Prop) (μ4 : Value → Hp → Nat), I3 (.int .i64 0) h ∧ ∀ t8_5 (d6 : Nat → Value) (h7 : Hp), I3 t8_5 h7 →
 asK .i64 t8_5 fun n8 => cond (decide ((n8 : Int) < (l1 : Int)))
 (asSl1 l_p fun a9 l10 c11 => asI t8_5 fun n12 => 0 ≤ (n12 : Int) ∧ n12 < (l10 : Int) ∧ ∃ v13, cellH h7 (Addr.add a9 (Int.toNat n12 * 1)) = some v13 ∧
 nnK p_p (asP p_p fun p14 =>
 CallX Tryd.prog ω 87 [(.pointer (some (Addr.add p14 0))), v13] h7 (fun r15 h16 =>
 asK .i64 t8_5 fun n17 => I3 (.int .i64 (IntKind.wrap .i64 (n17 + 1))) h16 ∧ μ4 (.int .i64 (IntKind.wrap .i64 (n17 + 1))) h16 < μ4 t8_5 h7) X))
 (R (.tuple #[]) h7)
def A_p_render_page_put : Ann :=
 (.two .leaf (.one (.loop [9, 10, 11, 5, 12, 13, 14, 15, 16, 17, 8] [8] (.two .leaf (.two (.two .leaf .leaf) (.two (.one (.two .leaf .leaf)) .leaf))))))
theorem C_p_render_page_put (ω : Amb) (p_p l_p : Value) (h : Hp) (R : Value → Hp → Prop) (X : List PanicEntry → Hp → Prop) (hk : W_p_render_page_put ω p_p l_p h R X) : CallX Tryd.prog ω 64 [p_p, l_p] h R X :=
 callX_of (an := A_p_render_page_put) Tryd.func64 ((show fnX Tryd.prog ω A_p_render_page_put Tryd.f64 [p_p, l_p] h R X = W_p_render_page_put ω p_p l_p h R X by kernel_rfl) ▸ hk)

/-- pipewright/pipewrightref.stmtText -/
abbrev n_pipewrightref_stmtText : Nat := 70
def W_pipewrightref_stmtText (ω : Amb) (s_p tabs_p : Value) (h : Hp) (R : Value → Hp → Prop) (X : List PanicEntry → Hp → Prop) : Prop :=
 ∃ v0, cellH (Array.push (Array.push h (.cells (Value.cells s_p) 65 (0, 0))) (.cells (List.toArray [(.string ⟨#[]⟩), (.string ⟨#[108, 101, 116]⟩), (.string ⟨#[115, 101, 116]⟩), (.string ⟨#[101, 109, 105, 116]⟩), (.string ⟨#[99, 104, 97, 110]⟩), (.string ⟨#[99, 108, 111, 110, 101]⟩), (.string ⟨#[115, 101, 110, 100]⟩), (.string ⟨#[99, 108, 111, 115, 101]⟩), (.string ⟨#[97, 98, 97, 110, 100, 111, 110]⟩), (.string ⟨#[100, 114, 97, 105, 110]⟩), (.string ⟨#[115, 112, 97, 119, 110]⟩), (.string ⟨#[116, 97, 107, 101]⟩), (.string ⟨#[102, 111, 114]⟩), (.string ⟨#[114, 101, 112, 101, 97, 116]⟩), (.string ⟨#[105, 102]⟩)]) 9 (0, 0))) (Addr.add ⟨Array.size h, 0, none⟩ 0) = some v0 ∧
 asI v0 fun n1 => 0 ≤ (n1 : Int) ∧ n1 < (15 : Int) ∧ ∃ v2, cellH (Array.push (Array.push h (.cells (Value.cells s_p) 65 (0, 0))) (.cells (List.toArray [(.string ⟨#[]⟩), (.string ⟨#[108, 101, 116]⟩), (.string ⟨#[115, 101, 116]⟩), (.string ⟨#[101, 109, 105, 116]⟩), (.string ⟨#[99, 104, 97, 110]⟩), (.string ⟨#[99, 108, 111, 110, 101]⟩), (.string ⟨#[115, 101, 110, 100]⟩), (.string ⟨#[99, 108, 111, 115, 101]⟩), (.string ⟨#[97, 98, 97, 110, 100, 111, 110]⟩), (.string ⟨#[100, 114, 97, 105, 110]⟩), (.string ⟨#[115, 112, 97, 119, 110]⟩), (.string ⟨#[116, 97, 107, 101]⟩), (.string ⟨#[102, 111, 114]⟩), (.string ⟨#[114, 101, 112, 101, 97, 116]⟩), (.string ⟨#[105, 102]⟩)]) 9 (0, 0))) (Addr.add ⟨Array.size (Array.push h (.cells (Value.cells s_p) 65 (0, 0))), 0, none⟩ (Int.toNat n1 * 1)) = some v2 ∧
 asS tabs_p fun s3 => asS v2 fun s4 => ByteArray.size s3 + ByteArray.size s4 ≤ 9223372036854775807 ∧ ∃ v5, cellH (Array.push (Array.push h (.cells (Value.cells s_p) 65 (0, 0))) (.cells (List.toArray [(.string ⟨#[]⟩), (.string ⟨#[108, 101, 116]⟩), (.string ⟨#[115, 101, 116]⟩), (.string ⟨#[101, 109, 105, 116]⟩), (.string ⟨#[99, 104, 97, 110]⟩), (.string ⟨#[99, 108, 111, 110, 101]⟩), (.string ⟨#[115, 101, 110, 100]⟩), (.string ⟨#[99, 108, 111, 115, 101]⟩), (.string ⟨#[97, 98, 97, 110, 100, 111, 110]⟩), (.string ⟨#[100, 114, 97, 105, 110]⟩), (.string ⟨#[115, 112, 97, 119, 110]⟩), (.string ⟨#[116, 97, 107, 101]⟩), (.string ⟨#[102, 111, 114]⟩), (.string ⟨#[114, 101, 112, 101, 97, 116]⟩), (.string ⟨#[105, 102]⟩)]) 9 (0, 0))) (Addr.add ⟨Array.size h, 0, none⟩ 2) = some v5 ∧
 asS v5 fun s6 => ∃ J7 : Value → Hp → Prop,
 (cond (!(ByteArray.toList s6 == ByteArray.toList ⟨#[]⟩))
 (∃ v11, cellH (Array.push (Array.push h (.cells (Value.cells s_p) 65 (0, 0))) (.cells (List.toArray [(.string ⟨#[]⟩), (.string ⟨#[108, 101, 116]⟩), (.string ⟨#[115, 101, 116]⟩), (.string ⟨#[101, 109, 105, 116]⟩), (.string ⟨#[99, 104, 97, 110]⟩), (.string ⟨#[99, 108, 111, 110, 101]⟩), (.string ⟨#[115, 101, 110, 100]⟩), (.string ⟨#[99, 108, 111, 115, 101]⟩), (.string ⟨#[97, 98, 97, 110, 100, 111, 110]⟩), (.string ⟨#[100, 114, 97, 105, 110]⟩), (.string ⟨#[115, 112, 97, 119, 110]⟩), (.string ⟨#[116, 97, 107, 101]⟩), (.string ⟨#[102, 111, 114]⟩), (.string ⟨#[114, 101, 112, 101, 97, 116]⟩), (.string ⟨#[105, 102]⟩)]) 9 (0, 0))) (Addr.add ⟨Array.size h, 0, none⟩ 2) = some v11 ∧
 asS v11 fun s12 => ByteArray.size ⟨#[32]⟩ + ByteArray.size s12 ≤ 9223372036854775807 ∧ ByteArray.size (s3 ++ s4) + ByteArray.size (⟨#[32]⟩ ++ s12) ≤ 9223372036854775807 ∧ J7 (.string ((s3 ++ s4) ++ (⟨#[32]⟩ ++ s12))) (Array.push (Array.push h (.cells (Value.cells s_p) 65 (0, 0))) (.cells (List.toArray [(.string ⟨#[]⟩), (.string ⟨#[108, 101, 116]⟩), (.string ⟨#[115, 101, 116]⟩), (.string ⟨#[101, 109, 105, 116]⟩), (.string ⟨#[99, 104, 97, 110]⟩), (.string ⟨#[99, 108, 111, 110, 101]⟩), (.string ⟨#[115, 101, 110, 100]⟩), (.string ⟨#[99, 108, 111, 115, 101]⟩), (.string ⟨#[97, 98, 97, 110, 100, 111, 110]⟩), (.string ⟨#[100, 114, 97, 105, 110]⟩), (.string ⟨#[115, 112, 97, 119, 110]⟩), (.string ⟨#[116, 97, 107, 101]⟩), (.string ⟨#[102, 111, 114]⟩), (.string ⟨#[114, 101, 112, 101, 97, 116]⟩), (.string ⟨#[105, 102]⟩)]) 9 (0, 0))))
 (J7 (.string (s3 ++ s4)) (Array.push (Array.push h (.cells (Value.cells s_p) 65 (0, 0))) (.cells (List.toArray [(.string ⟨#[]⟩), (.string ⟨#[108, 101, 116]⟩), (.string ⟨#[115, 101, 116]⟩), (.string ⟨#[101, 109, 105, 116]⟩), (.string ⟨#[99, 104, 97, 110]⟩), (.string ⟨#[99, 108, 111, 110, 101]⟩), (.string ⟨#[115, 101, 110, 100]⟩), (.string ⟨#[99, 108, 111, 115, 101]⟩), (.string ⟨#[97, 98, 97, 110, 100, 111, 110]⟩), (.string ⟨#[100, 114, 97, 105, 110]⟩), (.string ⟨#[115, 112, 97, 119, 110]⟩), (.string ⟨#[116, 97, 107, 101]⟩), (.string ⟨#[102, 111, 114]⟩), (.string ⟨#[114, 101, 112, 101, 97, 116]⟩), (.string ⟨#[105, 102]⟩)]) 9 (0, 0))))) ∧
 ∀ out_8 (d9 : Nat → Value) (h10 : Hp), J7 out_8 h10 →
 ∃ β13 : Bool,
 (∃ v15, cellH h10 (Addr.add ⟨Array.size h, 0, none⟩ 0) = some v15 ∧
 asK .i64 v15 fun n16 => cond (n16 == (1 : Int))
 (((.bool true) : Value) = .bool β13 ∧ h10 = h10)
 (∃ v17, cellH h10 (Addr.add ⟨Array.size h, 0, none⟩ 0) = some v17 ∧
 asK .i64 v17 fun n18 => ((.bool (n18 == (2 : Int))) : Value) = .bool β13 ∧ h10 = h10)) ∧
 ∀ d14 : Nat → Value,
 ∃ J19 : Value → Hp → Prop,
 (cond β13
 (asS out_8 fun s23 => ByteArray.size s23 + ByteArray.size ⟨#[32, 61]⟩ ≤ 9223372036854775807 ∧ J19 (.string (s23 ++ ⟨#[32, 61]⟩)) h10)
 (J19 out_8 h10)) ∧
 ∀ out_20 (d21 : Nat → Value) (h22 : Hp), J19 out_20 h22 →
 ∃ β24 : Bool,
 (∃ v26, cellH h22 (Addr.add ⟨Array.size h, 0, none⟩ 0) = some v26 ∧
 asK .i64 v26 fun n27 => cond (n27 == (11 : Int))
 (((.bool true) : Value) = .bool β24 ∧ h22 = h22)
 (∃ v28, cellH h22 (Addr.add ⟨Array.size h, 0, none⟩ 0) = some v28 ∧
 asK .i64 v28 fun n29 => ((.bool (n29 == (12 : Int))) : Value) = .bool β24 ∧ h22 = h22)) ∧
 ∀ d25 : Nat → Value,
 ∃ J30 : Value → Hp → Prop,
 (cond β24
 (asS out_20 fun s34 => ByteArray.size s34 + ByteArray.size ⟨#[32, 102, 114, 111, 109]⟩ ≤ 9223372036854775807 ∧ J30 (.string (s34 ++ ⟨#[32, 102, 114, 111, 109]⟩)) h22)
 (J30 out_20 h22)) ∧
 ∀ out_31 (d32 : Nat → Value) (h33 : Hp), J30 out_31 h33 →
 ∃ v35, cellH h33 (Addr.add ⟨Array.size h, 0, none⟩ 3) = some v35 ∧
 asS v35 fun s36 => ∃ J37 : Value → Hp → Prop,
 (cond (!(ByteArray.toList s36 == ByteArray.toList ⟨#[]⟩))
 (∃ v41, cellH h33 (Addr.add ⟨Array.size h, 0, none⟩ 3) = some v41 ∧
 asS v41 fun s42 => ByteArray.size ⟨#[32]⟩ + ByteArray.size s42 ≤ 9223372036854775807 ∧ asS out_31 fun s43 => ByteArray.size s43 + ByteArray.size (⟨#[32]⟩ ++ s42) ≤ 9223372036854775807 ∧ J37 (.string (s43 ++ (⟨#[32]⟩ ++ s42))) h33)
 (J37 out_31 h33)) ∧
 ∀ out_38 (d39 : Nat → Value) (h40 : Hp), J37 out_38 h40 →
 ∃ v44, cellH h40 (Addr.add ⟨Array.size h, 0, none⟩ 0) = some v44 ∧
 asK .i64 v44 fun n45 => ∃ J46 : Value → Hp → Prop,
 (cond (n45 == (4 : Int))
 (∃ v50, cellH h40 (Addr.add ⟨Array.size h, 0, none⟩ 4) = some v50 ∧
 ∃ v51, cellH h40 (Addr.add ⟨Array.size h, 0, none⟩ 5) = some v51 ∧
 CallX Tryd.prog ω 34 [v50] h40 (fun r52 h53 =>
 cellH h53 (Addr.add ⟨Array.size h, 0, none⟩ 5) = some v51 ∧ asS r52 fun s54 => ByteArray.size ⟨#[32]⟩ + ByteArray.size s54 ≤ 9223372036854775807 ∧ ByteArray.size (⟨#[32]⟩ ++ s54) + ByteArray.size ⟨#[32]⟩ ≤ 9223372036854775807 ∧ CallX Tryd.prog ω 92 [v51] h53 (fun r55 h56 =>
 asS r55 fun s57 => ByteArray.size ((⟨#[32]⟩ ++ s54) ++ ⟨#[32]⟩) + ByteArray.size s57 ≤ 9223372036854775807 ∧ asS out_38 fun s58 => ByteArray.size s58 + ByteArray.size (((⟨#[32]⟩ ++ s54) ++ ⟨#[32]⟩) ++ s57) ≤ 9223372036854775807 ∧ J46 (.string (s58 ++ (((⟨#[32]⟩ ++ s54) ++ ⟨#[32]⟩) ++ s57))) h56) X) X)
 (J46 out_38 h40)) ∧
 ∀ out_47 (d48 : Nat → Value) (h49 : Hp), J46 out_47 h49 →
 ∃ v59, cellH h49 (Addr.add ⟨Array.size h, 0, none⟩ 0) = some v59 ∧
 asK .i64 v59 fun n60 => ∃ J61 : Value → Hp → Prop,
 (cond (n60 == (10 : Int))
 (asS out_47 fun s65 => ByteArray.size s65 + ByteArray.size ⟨#[40]⟩ ≤ 9223372036854775807 ∧ J61 (.string (s65 ++ ⟨#[40]⟩)) h49)
 (J61 out_47 h49)) ∧
 ∀ out_62 (d63 : Nat → Value) (h64 : Hp), J61 out_62 h64 →
 ∃ (I66 : Value → Value → Hp → Prop) (μ67 : Value → Value → Hp → Nat), I66 out_62 (.int .i64 0) h64 ∧ ∀ out_68 i_69 (d70 : Nat → Value) (h71 : Hp), I66 out_68 i_69 h71 →
 ∃ v72, cellH h71 (Addr.add ⟨Array.size h, 0, none⟩ 6) = some v72 ∧
 asSl v72 fun a73 l74 c75 => asK .i64 i_69 fun n76 => cond (decide ((n76 : Int) < (l74 : Int)))
 (asK .i64 i_69 fun n77 => ∃ J78 : Value → Hp → Prop,
 (cond (decide ((n77 : Int) > 0))
 (asS out_68 fun s82 => ByteArray.size s82 + ByteArray.size ⟨#[44]⟩ ≤ 9223372036854775807 ∧ J78 (.string (s82 ++ ⟨#[44]⟩)) h71)
 (J78 out_68 h71)) ∧
 ∀ out_79 (d80 : Nat → Value) (h81 : Hp), J78 out_79 h81 →
 ∃ β83 : Bool,
 (asK .i64 i_69 fun n85 => cond (decide ((n85 : Int) > 0))
 (((.bool true) : Value) = .bool β83 ∧ h81 = h81)
 (∃ v86, cellH h81 (Addr.add ⟨Array.size h, 0, none⟩ 0) = some v86 ∧
 asK .i64 v86 fun n87 => ((.bool (n87 != (10 : Int))) : Value) = .bool β83 ∧ h81 = h81)) ∧
 ∀ d84 : Nat → Value,
 ∃ J88 : Value → Hp → Prop,
 (cond β83
 (asS out_79 fun s92 => ByteArray.size s92 + ByteArray.size ⟨#[32]⟩ ≤ 9223372036854775807 ∧ J88 (.string (s92 ++ ⟨#[32]⟩)) h81)
 (J88 out_79 h81)) ∧
 ∀ out_89 (d90 : Nat → Value) (h91 : Hp), J88 out_89 h91 →
 ∃ v93, cellH h91 (Addr.add ⟨Array.size h, 0, none⟩ 6) = some v93 ∧
 asSl1 v93 fun a94 l95 c96 => asI i_69 fun n97 => 0 ≤ (n97 : Int) ∧ n97 < (l95 : Int) ∧ ∃ C98, cellsH h91 (Addr.add a94 (Int.toNat n97 * 4)) 4 C98 ∧
 CallX Tryd.prog ω 93 [(.agg C98.toArray), (.int .i64 0)] h91 (fun r99 h100 =>
 asS out_89 fun s101 => asS r99 fun s102 => ByteArray.size s101 + ByteArray.size s102 ≤ 9223372036854775807 ∧ asK .i64 i_69 fun n103 => I66 (.string (s101 ++ s102)) (.int .i64 (IntKind.wrap .i64 (n103 + 1))) h100 ∧ μ67 (.string (s101 ++ s102)) (.int .i64 (IntKind.wrap .i64 (n103 + 1))) h100 < μ67 out_68 i_69 h71) X)
 (∃ v104, cellH h71 (Addr.add ⟨Array.size h, 0, none⟩ 0) = some v104 ∧
 asK .i64 v104 fun n105 => ∃ J106 : Value → Hp → Prop,
 (cond (n105 == (10 : Int))
 (asS out_68 fun s110 => ByteArray.size s110 + ByteArray.size ⟨#[41]⟩ ≤ 9223372036854775807 ∧ J106 (.string (s110 ++ ⟨#[41]⟩)) h71)
 (J106 out_68 h71)) ∧
 ∀ out_107 (d108 : Nat → Value) (h109 : Hp), J106 out_107 h109 →
 ∃ v111, cellH h109 (Addr.add ⟨Array.size h, 0, none⟩ 0) = some v111 ∧
 asK .i64 v111 fun n112 => cond (decide ((n112 : Int) < 11))
 (asS out_107 fun s113 => ByteArray.size s113 + ByteArray.size ⟨#[59, 10]⟩ ≤ 9223372036854775807 ∧ R (.string (s113 ++ ⟨#[59, 10]⟩)) h109)
 (∃ v114, cellH h109 (Addr.add ⟨Array.size h, 0, none⟩ 7) = some v114 ∧
 CallX Tryd.prog ω 35 [v114, tabs_p] h109 (fun r115 h116 =>
 asS out_107 fun s117 => asS r115 fun s118 => ByteArray.size s117 + ByteArray.size s118 ≤ 9223372036854775807 ∧ ∃ v119, cellH h116 (Addr.add ⟨Array.size h, 0, none⟩ 8) = some v119 ∧
 asSl v119 fun a120 l121 c122 => ∃ J123 : Value → Hp → Prop,
 (cond (decide (((l121 : Int) : Int) > 0))
 (∃ v127, cellH h116 (Addr.add ⟨Array.size h, 0, none⟩ 8) = some v127 ∧
 CallX Tryd.prog ω 35 [v127, tabs_p] h116 (fun r128 h129 =>
 asS r128 fun s130 => ByteArray.size ⟨#[32, 101, 108, 115, 101]⟩ + ByteArray.size s130 ≤ 9223372036854775807 ∧ ByteArray.size (s117 ++ s118) + ByteArray.size (⟨#[32, 101, 108, 115, 101]⟩ ++ s130) ≤ 9223372036854775807 ∧ J123 (.string ((s117 ++ s118) ++ (⟨#[32, 101, 108, 115, 101]⟩ ++ s130))) h129) X)
 (J123 (.string (s117 ++ s118)) h116)) ∧
 ∀ out_124 (d125 : Nat → Value) (h126 : Hp), J123 out_124 h126 →
 asS out_124 fun s131 => ByteArray.size s131 + ByteArray.size ⟨#[10]⟩ ≤ 9223372036854775807 ∧ R (.string (s131 ++ ⟨#[10]⟩)) h126) X))
def A_pipewrightref_stmtText : Ann :=
 (.two .leaf (.two .leaf (.two .leaf (.two (.two .leaf (.join [19, 20, 21, 22, 23, 6] [6] (.two .leaf .leaf))) (.two (.two (.jb [24, 25, 26, 27, 28, 29, 30, 31] 31 .leaf) (.join [32, 33, 6] [6] (.two .leaf .leaf))) (.two (.two (.jb [34, 35, 36, 37, 38, 39, 40, 41] 41 .leaf) (.join [42, 43, 6] [6] (.two .leaf .leaf))) (.two (.two .leaf (.join [47, 48, 49, 50, 51, 6] [6] (.two .leaf .leaf))) (.two (.two .leaf (.join [55, 56, 57, 58, 59, 60, 61, 62, 63, 64, 65, 6] [6] (.two (.plan [0, 1, 2, 6, 7, 3, 4, 5, 8, 9, 10, 11]) .leaf))) (.two (.two .leaf (.join [69, 70, 6] [6] (.two .leaf .leaf))) (.two (.two .leaf (.one (.loop [71, 72, 73, 74, 75, 78, 79, 80, 81, 6, 82, 83, 84, 85, 86, 87, 88, 89, 90, 91, 92, 93, 94, 95, 96, 97, 98, 76, 77, 7] [6, 7] (.two (.two .leaf (.two .leaf .leaf)) (.two (.one (.two (.two .leaf (.join [80, 81, 6] [6] (.two .leaf .leaf))) (.two (.two (.jb [82, 83, 84, 85, 86, 87, 88] 88 .leaf) (.join [89, 90, 6] [6] (.two .leaf .leaf))) .leaf))) .leaf))))) (.two (.two .leaf (.join [102, 103, 6] [6] (.two .leaf .leaf))) (.two (.two .leaf (.two (.two .leaf .leaf) .leaf)) (.two .leaf (.two (.two .leaf (.join [119, 120, 121, 122, 123, 124, 125, 6] [6] (.two .leaf .leaf))) (.two .leaf .leaf)))))))))))))))
theorem C_pipewrightref_stmtText (ω : Amb) (s_p tabs_p : Value) (h : Hp) (R : Value → Hp → Prop) (X : List PanicEntry → Hp → Prop) (hk : W_pipewrightref_stmtText ω s_p tabs_p h R X) : CallX Tryd.prog ω 70 [s_p, tabs_p] h R X :=
 callX_of (an := A_pipewrightref_stmtText) Tryd.func70 ((show fnX Tryd.prog ω A_pipewrightref_stmtText Tryd.f70 [s_p, tabs_p] h R X = W_pipewrightref_stmtText ω s_p tabs_p h R X by kernel_rfl) ▸ hk)

/-- (*pipewright/render.page).stmt -/
abbrev n_p_render_page_stmt : Nat := 90
def W_p_render_page_stmt (ω : Amb) (p_p s_p : Value) (h : Hp) (R : Value → Hp → Prop) (X : List PanicEntry → Hp → Prop) : Prop :=
 ∃ C0, cellsH (Array.push h (.cells (Value.cells s_p) 65 (0, 0))) ⟨Array.size h, 0, none⟩ 9 C0 ∧
 ∃ v1, cellH (Array.push h (.cells (Value.cells s_p) 65 (0, 0))) (Addr.add ⟨Array.size h, 0, none⟩ 6) = some v1 ∧
 CallX Tryd.prog ω 111 [(.agg C0.toArray)] (Array.push h (.cells (Value.cells s_p) 65 (0, 0))) (fun r2 h3 =>
 cellH h3 (Addr.add ⟨Array.size h, 0, none⟩ 6) = some v1 ∧ CallX Tryd.prog ω 112 [v1] h3 (fun r4 h5 =>
 oneK r2 (oneK r4 (CallX Tryd.prog ω 61 [p_p, (.slice (some ⟨Array.size h5, 0, none⟩) 2 2)] (Array.push h5 (.cells (List.toArray [r2, r4]) 9 (0, 0))) (fun r6 h7 =>
 ∃ v8, cellH h7 (Addr.add ⟨Array.size h, 0, none⟩ 0) = some v8 ∧
 CallX Tryd.prog ω 113 [v8] h7 (fun r9 h10 =>
 asT r9 fun T11 => asO T11[0]? fun v12 => asT r9 fun T13 => asO T13[1]? fun v14 => asA v12 fun A15 => A15.size = 7 ∧ (∀ u ∈ A15.toList, one u) ∧ storeK (Array.push h10 (.cells #[(.bool false), (.bool false), (.bool false), (.bool false), (.int .i64 0), (.bool false), (.bool false)] 144 (0, 0))) ⟨Array.size h10, 0, none⟩ A15.toList fun h16 =>
 ∃ v17, cellH h16 (Addr.add ⟨Array.size h10, 0, none⟩ 5) = some v17 ∧
 asB v17 fun b18 => cond (!b18)
 (∃ v19, cellH h16 (Addr.add ⟨Array.size h, 0, none⟩ 0) = some v19 ∧
 asK .i64 v19 fun n20 => ∃ J21 : Hp → Prop,
 (cond (n20 == (10 : Int))
 (CallX Tryd.prog ω 64 [p_p, (.slice (some ⟨Array.size h16, 0, none⟩) 1 1)] (Array.push h16 (.cells (List.toArray [(.string ⟨#[41]⟩)]) 9 (0, 0))) (fun r24 h25 =>
 J21 h25) X)
 (J21 h16)) ∧
 ∀  (d22 : Nat → Value) (h23 : Hp), J21 h23 →
 CallX Tryd.prog ω 64 [p_p, (.slice (some ⟨Array.size h23, 0, none⟩) 1 1)] (Array.push h23 (.cells (List.toArray [(.string ⟨#[59, 10]⟩)]) 9 (0, 0))) (fun r26 h27 =>
 R (.tuple #[]) h27) X)
 (∃ v28, cellH h16 (Addr.add ⟨Array.size h, 0, none⟩ 7) = some v28 ∧
 CallX Tryd.prog ω 63 [p_p, v28] h16 (fun r29 h30 =>
 ∃ v31, cellH h30 (Addr.add ⟨Array.size h, 0, none⟩ 8) = some v31 ∧
 asSl v31 fun a32 l33 c34 => ∃ J35 : Hp → Prop,
 (cond (decide (((l33 : Int) : Int) > 0))
 (CallX Tryd.prog ω 64 [p_p, (.slice (some ⟨Array.size h30, 0, none⟩) 1 1)] (Array.push h30 (.cells (List.toArray [(.string ⟨#[32, 101, 108, 115, 101]⟩)]) 9 (0, 0))) (fun r38 h39 =>
 ∃ v40, cellH h39 (Addr.add ⟨Array.size h, 0, none⟩ 8) = some v40 ∧
 CallX Tryd.prog ω 63 [p_p, v40] h39 (fun r41 h42 =>
 J35 h42) X) X)
 (J35 h30)) ∧
 ∀  (d36 : Nat → Value) (h37 : Hp), J35 h37 →
 CallX Tryd.prog ω 64 [p_p, (.slice (some ⟨Array.size h37, 0, none⟩) 1 1)] (Array.push h37 (.cells (List.toArray [(.string ⟨#[10]⟩)]) 9 (0, 0))) (fun r43 h44 =>
 R (.tuple #[]) h44) X) X)) X) X))) X) X
def A_p_render_page_stmt : Ann :=
 (.two .leaf (.two (.plan [0, 1, 3, 4, 2, 5, 6, 7]) (.two .leaf (.two (.two .leaf (.two (.two (.two .leaf (.join [26, 27, 28] [] (.two .leaf .leaf))) (.two .leaf .leaf)) .leaf)) (.two .leaf (.two (.two .leaf (.join [40, 41, 42, 43, 44, 45, 46] [] (.two (.two .leaf .leaf) .leaf))) .leaf))))))
theorem C_p_render_page_stmt (ω : Amb) (p_p s_p : Value) (h : Hp) (R : Value → Hp → Prop) (X : List PanicEntry → Hp → Prop) (hk : W_p_render_page_stmt ω p_p s_p h R X) : CallX Tryd.prog ω 90 [p_p, s_p] h R X :=
 callX_of (an := A_p_render_page_stmt) Tryd.func90 ((show fnX Tryd.prog ω A_p_render_page_stmt Tryd.f90 [p_p, s_p] h R X = W_p_render_page_stmt ω p_p s_p h R X by kernel_rfl) ▸ hk)

/-- pipewright/pipewrightref.exprText -/
abbrev n_pipewrightref_exprText : Nat := 93
def W_pipewrightref_exprText (ω : Amb) (x_p must_p : Value) (h : Hp) (R : Value → Hp → Prop) (X : List PanicEntry → Hp → Prop) : Prop :=
 ∃ v0, cellH (Array.push (Array.push h (.cells (Value.cells x_p) 118 (0, 0))) (.cells (List.toArray [(.int .i64 0), (.int .i64 9), (.int .i64 9), (.int .i64 4), (.int .i64 2), (.int .i64 2), (.int .i64 3), (.int .i64 1), (.int .i64 1)]) 3 (0, 0))) (Addr.add ⟨Array.size h, 0, none⟩ 0) = some v0 ∧
 asI v0 fun n1 => 0 ≤ (n1 : Int) ∧ n1 < (9 : Int) ∧ ∃ v2, cellH (Array.push (Array.push h (.cells (Value.cells x_p) 118 (0, 0))) (.cells (List.toArray [(.int .i64 0), (.int .i64 9), (.int .i64 9), (.int .i64 4), (.int .i64 2), (.int .i64 2), (.int .i64 3), (.int .i64 1), (.int .i64 1)]) 3 (0, 0))) (Addr.add ⟨Array.size (Array.push h (.cells (Value.cells x_p) 118 (0, 0))), 0, none⟩ (Int.toNat n1 * 1)) = some v2 ∧
 ∃ v3, cellH (Array.push (Array.push h (.cells (Value.cells x_p) 118 (0, 0))) (.cells (List.toArray [(.int .i64 0), (.int .i64 9), (.int .i64 9), (.int .i64 4), (.int .i64 2), (.int .i64 2), (.int .i64 3), (.int .i64 1), (.int .i64 1)]) 3 (0, 0))) (Addr.add ⟨Array.size h, 0, none⟩ 0) = some v3 ∧
 ∃ J4 : Value → Hp → Prop,
 (asK .i64 v3 fun n8 => ∃ J9 : Value → Hp → Prop,
 (cond (n8 == (1 : Int))
 (∃ v13, cellH (Array.push (Array.push h (.cells (Value.cells x_p) 118 (0, 0))) (.cells (List.toArray [(.int .i64 0), (.int .i64 9), (.int .i64 9), (.int .i64 4), (.int .i64 2), (.int .i64 2), (.int .i64 3), (.int .i64 1), (.int .i64 1)]) 3 (0, 0))) (Addr.add ⟨Array.size h, 0, none⟩ 2) = some v13 ∧
 CallX Tryd.prog ω 119 [v13, (.int .i64 10)] (Array.push (Array.push h (.cells (Value.cells x_p) 118 (0, 0))) (.cells (List.toArray [(.int .i64 0), (.int .i64 9), (.int .i64 9), (.int .i64 4), (.int .i64 2), (.int .i64 2), (.int .i64 3), (.int .i64 1), (.int .i64 1)]) 3 (0, 0))) (fun r14 h15 =>
 J9 r14 h15) X)
 (asK .i64 v3 fun n16 => ∃ J17 : Value → Hp → Prop,
 (cond (n16 == (2 : Int))
 (∃ v21, cellH (Array.push (Array.push h (.cells (Value.cells x_p) 118 (0, 0))) (.cells (List.toArray [(.int .i64 0), (.int .i64 9), (.int .i64 9), (.int .i64 4), (.int .i64 2), (.int .i64 2), (.int .i64 3), (.int .i64 1), (.int .i64 1)]) 3 (0, 0))) (Addr.add ⟨Array.size h, 0, none⟩ 1) = some v21 ∧
 J17 v21 (Array.push (Array.push h (.cells (Value.cells x_p) 118 (0, 0))) (.cells (List.toArray [(.int .i64 0), (.int .i64 9), (.int .i64 9), (.int .i64 4), (.int .i64 2), (.int .i64 2), (.int .i64 3), (.int .i64 1), (.int .i64 1)]) 3 (0, 0))))
 (asK .i64 v3 fun n22 => ∃ J23 : Value → Hp → Prop,
 (cond (n22 == (3 : Int))
 (∃ v27, cellH (Array.push (Array.push h (.cells (Value.cells x_p) 118 (0, 0))) (.cells (List.toArray [(.int .i64 0), (.int .i64 9), (.int .i64 9), (.int .i64 4), (.int .i64 2), (.int .i64 2), (.int .i64 3), (.int .i64 1), (.int .i64 1)]) 3 (0, 0))) (Addr.add ⟨Array.size h, 0, none⟩ 3) = some v27 ∧
 asSl1 v27 fun a28 l29 c30 => 0 ≤ (0 : Int) ∧ 0 < (l29 : Int) ∧ ∃ C31, cellsH (Array.push (Array.push h (.cells (Value.cells x_p) 118 (0, 0))) (.cells (List.toArray [(.int .i64 0), (.int .i64 9), (.int .i64 9), (.int .i64 4), (.int .i64 2), (.int .i64 2), (.int .i64 3), (.int .i64 1), (.int .i64 1)]) 3 (0, 0))) (Addr.add a28 (Int.toNat 0 * 4)) 4 C31 ∧
 CallX Tryd.prog ω 93 [(.agg C31.toArray), (.int .i64 4)] (Array.push (Array.push h (.cells (Value.cells x_p) 118 (0, 0))) (.cells (List.toArray [(.int .i64 0), (.int .i64 9), (.int .i64 9), (.int .i64 4), (.int .i64 2), (.int .i64 2), (.int .i64 3), (.int .i64 1), (.int .i64 1)]) 3 (0, 0))) (fun r32 h33 =>
 asS r32 fun s34 => ByteArray.size ⟨#[45]⟩ + ByteArray.size s34 ≤ 9223372036854775807 ∧ J23 (.string (⟨#[45]⟩ ++ s34)) h33) X)
 (asK .i64 v2 fun n35 => ∃ J36 : Value → Hp → Prop,
 (cond (n35 == (1 : Int))
 (J36 (.int .i64 2) (Array.push (Array.push h (.cells (Value.cells x_p) 118 (0, 0))) (.cells (List.toArray [(.int .i64 0), (.int .i64 9), (.int .i64 9), (.int .i64 4), (.int .i64 2), (.int .i64 2), (.int .i64 3), (.int .i64 1), (.int .i64 1)]) 3 (0, 0))))
 (J36 v2 (Array.push (Array.push h (.cells (Value.cells x_p) 118 (0, 0))) (.cells (List.toArray [(.int .i64 0), (.int .i64 9), (.int .i64 9), (.int .i64 4), (.int .i64 2), (.int .i64 2), (.int .i64 3), (.int .i64 1), (.int .i64 1)]) 3 (0, 0))))) ∧
 ∀ left_37 (d38 : Nat → Value) (h39 : Hp), J36 left_37 h39 →
 ∃ v40, cellH h39 (Addr.add ⟨Array.size h, 0, none⟩ 3) = some v40 ∧
 asSl1 v40 fun a41 l42 c43 => 0 ≤ (0 : Int) ∧ 0 < (l42 : Int) ∧ ∃ C44, cellsH h39 (Addr.add a41 (Int.toNat 0 * 4)) 4 C44 ∧
 ∃ v45, cellH h39 (Addr.add ⟨Array.size h, 0, none⟩ 0) = some v45 ∧
 asK .i64 v45 fun n46 => ∃ v47, cellH h39 (Addr.add ⟨Array.size h, 0, none⟩ 3) = some v47 ∧
 asSl1 v47 fun a48 l49 c50 => 0 ≤ (1 : Int) ∧ 1 < (l49 : Int) ∧ ∃ C51, cellsH h39 (Addr.add a48 (Int.toNat 1 * 4)) 4 C51 ∧
 asK .i64 v2 fun n52 => (CallX Tryd.prog ω 93 [(.agg C44.toArray), left_37] h39 (fun r53 h54 =>
 cellsH h54 (Addr.add a48 (Int.toNat 1 * 4)) 4 C51 ∧ cellH h54 (Addr.add ⟨Array.size h, 0, none⟩ 3) = some v47 ∧ cellH h54 (Addr.add ⟨Array.size h, 0, none⟩ 0) = some v45 ∧ (cellsH (Array.push h54 (.cells (List.toArray [(.string ⟨#[32, 43, 32]⟩), (.string ⟨#[32, 45, 32]⟩), (.string ⟨#[32, 42, 32]⟩), (.string ⟨#[32, 60, 32]⟩), (.string ⟨#[32, 61, 61, 32]⟩)]) 9 (0, 0))) (Addr.add a48 (Int.toNat 1 * 4)) 4 C51 ∧ cellH (Array.push h54 (.cells (List.toArray [(.string ⟨#[32, 43, 32]⟩), (.string ⟨#[32, 45, 32]⟩), (.string ⟨#[32, 42, 32]⟩), (.string ⟨#[32, 60, 32]⟩), (.string ⟨#[32, 61, 61, 32]⟩)]) 9 (0, 0))) (Addr.add ⟨Array.size h, 0, none⟩ 3) = some v47 ∧ cellH (Array.push h54 (.cells (List.toArray [(.string ⟨#[32, 43, 32]⟩), (.string ⟨#[32, 45, 32]⟩), (.string ⟨#[32, 42, 32]⟩), (.string ⟨#[32, 60, 32]⟩), (.string ⟨#[32, 61, 61, 32]⟩)]) 9 (0, 0))) (Addr.add ⟨Array.size h, 0, none⟩ 0) = some v45 ∧ 0 ≤ ((IntKind.wrap .i64 (n46 - 4)) : Int) ∧ (IntKind.wrap .i64 (n46 - 4)) < (5 : Int) ∧ ∃ v55, cellH (Array.push h54 (.cells (List.toArray [(.string ⟨#[32, 43, 32]⟩), (.string ⟨#[32, 45, 32]⟩), (.string ⟨#[32, 42, 32]⟩), (.string ⟨#[32, 60, 32]⟩), (.string ⟨#[32, 61, 61, 32]⟩)]) 9 (0, 0))) (Addr.add ⟨Array.size h54, 0, none⟩ (Int.toNat (IntKind.wrap .i64 (n46 - 4)) * 1)) = some v55 ∧
 asS r53 fun s56 => asS v55 fun s57 => ByteArray.size s56 + ByteArray.size s57 ≤ 9223372036854775807 ∧ CallX Tryd.prog ω 93 [(.agg C51.toArray), (.int .i64 (IntKind.wrap .i64 (n52 + 1)))] (Array.push h54 (.cells (List.toArray [(.string ⟨#[32, 43, 32]⟩), (.string ⟨#[32, 45, 32]⟩), (.string ⟨#[32, 42, 32]⟩), (.string ⟨#[32, 60, 32]⟩), (.string ⟨#[32, 61, 61, 32]⟩)]) 9 (0, 0))) (fun r58 h59 =>
 cellH h59 (Addr.add ⟨Array.size h54, 0, none⟩ (Int.toNat (IntKind.wrap .i64 (n46 - 4)) * 1)) = some v55 ∧ cellH h59 (Addr.add ⟨Array.size h, 0, none⟩ 0) = some v45 ∧ asS r58 fun s60 => ByteArray.size (s56 ++ s57) + ByteArray.size s60 ≤ 9223372036854775807 ∧ J23 (.string ((s56 ++ s57) ++ s60)) h59) X) ∧
(CallX Tryd.prog ω 93 [(.agg C51.toArray), (.int .i64 (IntKind.wrap .i64 (n52 + 1)))] h54 (fun r61 h62 =>
 cellH h62 (Addr.add ⟨Array.size h, 0, none⟩ 0) = some v45 ∧ cellH (Array.push h62 (.cells (List.toArray [(.string ⟨#[32, 43, 32]⟩), (.string ⟨#[32, 45, 32]⟩), (.string ⟨#[32, 42, 32]⟩), (.string ⟨#[32, 60, 32]⟩), (.string ⟨#[32, 61, 61, 32]⟩)]) 9 (0, 0))) (Addr.add ⟨Array.size h, 0, none⟩ 0) = some v45 ∧ 0 ≤ ((IntKind.wrap .i64 (n46 - 4)) : Int) ∧ (IntKind.wrap .i64 (n46 - 4)) < (5 : Int) ∧ ∃ v63, cellH (Array.push h62 (.cells (List.toArray [(.string ⟨#[32, 43, 32]⟩), (.string ⟨#[32, 45, 32]⟩), (.string ⟨#[32, 42, 32]⟩), (.string ⟨#[32, 60, 32]⟩), (.string ⟨#[32, 61, 61, 32]⟩)]) 9 (0, 0))) (Addr.add ⟨Array.size h62, 0, none⟩ (Int.toNat (IntKind.wrap .i64 (n46 - 4)) * 1)) = some v63 ∧
 asS r53 fun s64 => asS v63 fun s65 => ByteArray.size s64 + ByteArray.size s65 ≤ 9223372036854775807 ∧ asS r61 fun s66 => ByteArray.size (s64 ++ s65) + ByteArray.size s66 ≤ 9223372036854775807 ∧ J23 (.string ((s64 ++ s65) ++ s66)) (Array.push h62 (.cells (List.toArray [(.string ⟨#[32, 43, 32]⟩), (.string ⟨#[32, 45, 32]⟩), (.string ⟨#[32, 42, 32]⟩), (.string ⟨#[32, 60, 32]⟩), (.string ⟨#[32, 61, 61, 32]⟩)]) 9 (0, 0)))) X)) X) ∧
(cellsH (Array.push h39 (.cells (List.toArray [(.string ⟨#[32, 43, 32]⟩), (.string ⟨#[32, 45, 32]⟩), (.string ⟨#[32, 42, 32]⟩), (.string ⟨#[32, 60, 32]⟩), (.string ⟨#[32, 61, 61, 32]⟩)]) 9 (0, 0))) (Addr.add a48 (Int.toNat 1 * 4)) 4 C51 ∧ cellH (Array.push h39 (.cells (List.toArray [(.string ⟨#[32, 43, 32]⟩), (.string ⟨#[32, 45, 32]⟩), (.string ⟨#[32, 42, 32]⟩), (.string ⟨#[32, 60, 32]⟩), (.string ⟨#[32, 61, 61, 32]⟩)]) 9 (0, 0))) (Addr.add ⟨Array.size h, 0, none⟩ 3) = some v47 ∧ cellH (Array.push h39 (.cells (List.toArray [(.string ⟨#[32, 43, 32]⟩), (.string ⟨#[32, 45, 32]⟩), (.string ⟨#[32, 42, 32]⟩), (.string ⟨#[32, 60, 32]⟩), (.string ⟨#[32, 61, 61, 32]⟩)]) 9 (0, 0))) (Addr.add ⟨Array.size h, 0, none⟩ 0) = some v45 ∧ cellsH (Array.push h39 (.cells (List.toArray [(.string ⟨#[32, 43, 32]⟩), (.string ⟨#[32, 45, 32]⟩), (.string ⟨#[32, 42, 32]⟩), (.string ⟨#[32, 60, 32]⟩), (.string ⟨#[32, 61, 61, 32]⟩)]) 9 (0, 0))) (Addr.add a41 (Int.toNat 0 * 4)) 4 C44 ∧ cellH (Array.push h39 (.cells (List.toArray [(.string ⟨#[32, 43, 32]⟩), (.string ⟨#[32, 45, 32]⟩), (.string ⟨#[32, 42, 32]⟩), (.string ⟨#[32, 60, 32]⟩), (.string ⟨#[32, 61, 61, 32]⟩)]) 9 (0, 0))) (Addr.add ⟨Array.size h, 0, none⟩ 3) = some v40 ∧ (CallX Tryd.prog ω 93 [(.agg C44.toArray), left_37] (Array.push h39 (.cells (List.toArray [(.string ⟨#[32, 43, 32]⟩), (.string ⟨#[32, 45, 32]⟩), (.string ⟨#[32, 42, 32]⟩), (.string ⟨#[32, 60, 32]⟩), (.string ⟨#[32, 61, 61, 32]⟩)]) 9 (0, 0))) (fun r67 h68 =>
 cellsH h68 (Addr.add a48 (Int.toNat 1 * 4)) 4 C51 ∧ cellH h68 (Addr.add ⟨Array.size h, 0, none⟩ 3) = some v47 ∧ cellH h68 (Addr.add ⟨Array.size h, 0, none⟩ 0) = some v45 ∧ 0 ≤ ((IntKind.wrap .i64 (n46 - 4)) : Int) ∧ (IntKind.wrap .i64 (n46 - 4)) < (5 : Int) ∧ ∃ v69, cellH h68 (Addr.add ⟨Array.size h39, 0, none⟩ (Int.toNat (IntKind.wrap .i64 (n46 - 4)) * 1)) = some v69 ∧
 asS r67 fun s70 => asS v69 fun s71 => ByteArray.size s70 + ByteArray.size s71 ≤ 9223372036854775807 ∧ CallX Tryd.prog ω 93 [(.agg C51.toArray), (.int .i64 (IntKind.wrap .i64 (n52 + 1)))] h68 (fun r72 h73 =>
 cellH h73 (Addr.add ⟨Array.size h39, 0, none⟩ (Int.toNat (IntKind.wrap .i64 (n46 - 4)) * 1)) = some v69 ∧ cellH h73 (Addr.add ⟨Array.size h, 0, none⟩ 0) = some v45 ∧ asS r72 fun s74 => ByteArray.size (s70 ++ s71) + ByteArray.size s74 ≤ 9223372036854775807 ∧ J23 (.string ((s70 ++ s71) ++ s74)) h73) X) X) ∧
(0 ≤ ((IntKind.wrap .i64 (n46 - 4)) : Int) ∧ (IntKind.wrap .i64 (n46 - 4)) < (5 : Int) ∧ (CallX Tryd.prog ω 93 [(.agg C44.toArray), left_37] (Array.push h39 (.cells (List.toArray [(.string ⟨#[32, 43, 32]⟩), (.string ⟨#[32, 45, 32]⟩), (.string ⟨#[32, 42, 32]⟩), (.string ⟨#[32, 60, 32]⟩), (.string ⟨#[32, 61, 61, 32]⟩)]) 9 (0, 0))) (fun r75 h76 =>
 cellsH h76 (Addr.add a48 (Int.toNat 1 * 4)) 4 C51 ∧ cellH h76 (Addr.add ⟨Array.size h, 0, none⟩ 3) = some v47 ∧ cellH h76 (Addr.add ⟨Array.size h, 0, none⟩ 0) = some v45 ∧ ∃ v77, cellH h76 (Addr.add ⟨Array.size h39, 0, none⟩ (Int.toNat (IntKind.wrap .i64 (n46 - 4)) * 1)) = some v77 ∧
 asS r75 fun s78 => asS v77 fun s79 => ByteArray.size s78 + ByteArray.size s79 ≤ 9223372036854775807 ∧ CallX Tryd.prog ω 93 [(.agg C51.toArray), (.int .i64 (IntKind.wrap .i64 (n52 + 1)))] h76 (fun r80 h81 =>
 cellH h81 (Addr.add ⟨Array.size h39, 0, none⟩ (Int.toNat (IntKind.wrap .i64 (n46 - 4)) * 1)) = some v77 ∧ cellH h81 (Addr.add ⟨Array.size h, 0, none⟩ 0) = some v45 ∧ asS r80 fun s82 => ByteArray.size (s78 ++ s79) + ByteArray.size s82 ≤ 9223372036854775807 ∧ J23 (.string ((s78 ++ s79) ++ s82)) h81) X) X) ∧
(∃ v83, cellH (Array.push h39 (.cells (List.toArray [(.string ⟨#[32, 43, 32]⟩), (.string ⟨#[32, 45, 32]⟩), (.string ⟨#[32, 42, 32]⟩), (.string ⟨#[32, 60, 32]⟩), (.string ⟨#[32, 61, 61, 32]⟩)]) 9 (0, 0))) (Addr.add ⟨Array.size h39, 0, none⟩ (Int.toNat (IntKind.wrap .i64 (n46 - 4)) * 1)) = some v83 ∧
 CallX Tryd.prog ω 93 [(.agg C44.toArray), left_37] (Array.push h39 (.cells (List.toArray [(.string ⟨#[32, 43, 32]⟩), (.string ⟨#[32, 45, 32]⟩), (.string ⟨#[32, 42, 32]⟩), (.string ⟨#[32, 60, 32]⟩), (.string ⟨#[32, 61, 61, 32]⟩)]) 9 (0, 0))) (fun r84 h85 =>
 cellsH h85 (Addr.add a48 (Int.toNat 1 * 4)) 4 C51 ∧ cellH h85 (Addr.add ⟨Array.size h, 0, none⟩ 3) = some v47 ∧ cellH h85 (Addr.add ⟨Array.size h, 0, none⟩ 0) = some v45 ∧ asS r84 fun s86 => asS v83 fun s87 => ByteArray.size s86 + ByteArray.size s87 ≤ 9223372036854775807 ∧ CallX Tryd.prog ω 93 [(.agg C51.toArray), (.int .i64 (IntKind.wrap .i64 (n52 + 1)))] h85 (fun r88 h89 =>
 cellH h89 (Addr.add ⟨Array.size h, 0, none⟩ 0) = some v45 ∧ asS r88 fun s90 => ByteArray.size (s86 ++ s87) + ByteArray.size s90 ≤ 9223372036854775807 ∧ J23 (.string ((s86 ++ s87) ++ s90)) h89) X) X))))) ∧
 ∀ out_24 (d25 : Nat → Value) (h26 : Hp), J23 out_24 h26 →
 J17 out_24 h26)) ∧
 ∀ out_18 (d19 : Nat → Value) (h20 : Hp), J17 out_18 h20 →
 J9 out_18 h20)) ∧
 ∀ out_10 (d11 : Nat → Value) (h12 : Hp), J9 out_10 h12 →
 J4 out_10 h12) ∧
 ∀ out_5 (d6 : Nat → Value) (h7 : Hp), J4 out_5 h7 →
 asK .i64 v2 fun n91 => asK .i64 must_p fun n92 => cond (decide ((n91 : Int) < n92))
 (asS out_5 fun s93 => ByteArray.size ⟨#[40]⟩ + ByteArray.size s93 ≤ 9223372036854775807 ∧ ByteArray.size (⟨#[40]⟩ ++ s93) + ByteArray.size ⟨#[41]⟩ ≤ 9223372036854775807 ∧ R (.string ((⟨#[40]⟩ ++ s93) ++ ⟨#[41]⟩)) h7)
 (R out_5 h7)
def A_pipewrightref_exprText : Ann :=
 (.two .leaf (.two .leaf (.two .leaf (.two (.two .leaf (.join [40, 39, 41, 42, 43, 6, 45, 44, 46, 47, 49, 48, 50, 51, 52, 53, 54, 55, 15, 7, 16, 17, 18, 19, 20, 21, 22, 23, 24, 25, 26, 27, 28, 29, 30, 31, 32, 33, 34, 35, 36, 37, 38] [6] (.one (.two .leaf (.join [41, 42, 43, 6, 45, 44, 46, 47, 49, 48, 50, 51, 52, 53, 54, 55, 15, 7, 16, 17, 18, 19, 20, 21, 22, 23, 24, 25, 26, 27, 28, 29, 30, 31, 32, 33, 34, 35, 36, 37, 38] [6] (.two .leaf (.two .leaf (.join [46, 47, 6, 49, 48, 50, 51, 52, 53, 54, 55, 15, 7, 16, 17, 18, 19, 20, 21, 22, 23, 24, 25, 26, 27, 28, 29, 30, 31, 32, 33, 34, 35, 36, 37, 38] [6] (.two .leaf (.two .leaf (.join [50, 51, 52, 53, 54, 55, 6, 15, 7, 16, 17, 18, 19, 20, 21, 22, 23, 24, 25, 26, 27, 28, 29, 30, 31, 32, 33, 34, 35, 36, 37, 38] [6] (.two .leaf (.two .leaf (.two (.two .leaf (.join [7] [7] (.two .leaf .leaf))) (.plan [0, 1, 2, 3, 4, 7, 8, 9, 13, 14, 15, 16, 17, 18, 5, 6, 10, 11, 12, 19, 20, 21]))))))))))))))) (.two (.two .leaf (.two (.two .leaf .leaf) .leaf)) (.two .leaf .leaf))))))
theorem C_pipewrightref_exprText (ω : Amb) (x_p must_p : Value) (h : Hp) (R : Value → Hp → Prop) (X : List PanicEntry → Hp → Prop) (hk : W_pipewrightref_exprText ω x_p must_p h R X) : CallX Tryd.prog ω 93 [x_p, must_p] h R X :=
 callX_of (an := A_pipewrightref_exprText) Tryd.func93 ((show fnX Tryd.prog ω A_pipewrightref_exprText Tryd.f93 [x_p, must_p] h R X = W_pipewrightref_exprText ω x_p must_p h R X by kernel_rfl) ▸ hk)

/-- pipewright/render.head -/
abbrev n_render_head : Nat := 111
def W_render_head (ω : Amb) (s_p : Value) (h : Hp) (R : Value → Hp → Prop) (X : List PanicEntry → Hp → Prop) : Prop :=
 ∃ v0, cellH (Array.push h (.cells (Value.cells s_p) 65 (0, 0))) (Addr.add ⟨Array.size h, 0, none⟩ 0) = some v0 ∧
 asK .i64 v0 fun n1 => cond (n1 == (1 : Int))
 (∃ v2, cellH (Array.push h (.cells (Value.cells s_p) 65 (0, 0))) (Addr.add ⟨Array.size h, 0, none⟩ 2) = some v2 ∧
 asS v2 fun s3 => ByteArray.size ⟨#[108, 101, 116, 32]⟩ + ByteArray.size s3 ≤ 9223372036854775807 ∧ ByteArray.size (⟨#[108, 101, 116, 32]⟩ ++ s3) + ByteArray.size ⟨#[32, 61, 32]⟩ ≤ 9223372036854775807 ∧ R (.string ((⟨#[108, 101, 116, 32]⟩ ++ s3) ++ ⟨#[32, 61, 32]⟩)) (Array.push h (.cells (Value.cells s_p) 65 (0, 0))))
 (asK .i64 v0 fun n4 => cond (n4 == (2 : Int))
 (∃ v5, cellH (Array.push h (.cells (Value.cells s_p) 65 (0, 0))) (Addr.add ⟨Array.size h, 0, none⟩ 2) = some v5 ∧
 asS v5 fun s6 => ByteArray.size ⟨#[115, 101, 116, 32]⟩ + ByteArray.size s6 ≤ 9223372036854775807 ∧ ByteArray.size (⟨#[115, 101, 116, 32]⟩ ++ s6) + ByteArray.size ⟨#[32, 61, 32]⟩ ≤ 9223372036854775807 ∧ R (.string ((⟨#[115, 101, 116, 32]⟩ ++ s6) ++ ⟨#[32, 61, 32]⟩)) (Array.push h (.cells (Value.cells s_p) 65 (0, 0))))
 (asK .i64 v0 fun n7 => cond (n7 == (3 : Int))
 (R (.string ⟨#[101, 109, 105, 116, 32]⟩) (Array.push h (.cells (Value.cells s_p) 65 (0, 0))))
 (asK .i64 v0 fun n8 => cond (n8 == (4 : Int))
 (∃ v9, cellH (Array.push h (.cells (Value.cells s_p) 65 (0, 0))) (Addr.add ⟨Array.size h, 0, none⟩ 2) = some v9 ∧
 asS v9 fun s10 => ByteArray.size ⟨#[99, 104, 97, 110, 32]⟩ + ByteArray.size s10 ≤ 9223372036854775807 ∧ ByteArray.size (⟨#[99, 104, 97, 110, 32]⟩ ++ s10) + ByteArray.size ⟨#[32]⟩ ≤ 9223372036854775807 ∧ ∃ v11, cellH (Array.push h (.cells (Value.cells s_p) 65 (0, 0))) (Addr.add ⟨Array.size h, 0, none⟩ 3) = some v11 ∧
 asS v11 fun s12 => ByteArray.size ((⟨#[99, 104, 97, 110, 32]⟩ ++ s10) ++ ⟨#[32]⟩) + ByteArray.size s12 ≤ 9223372036854775807 ∧ ByteArray.size (((⟨#[99, 104, 97, 110, 32]⟩ ++ s10) ++ ⟨#[32]⟩) ++ s12) + ByteArray.size ⟨#[32]⟩ ≤ 9223372036854775807 ∧ ∃ v13, cellH (Array.push h (.cells (Value.cells s_p) 65 (0, 0))) (Addr.add ⟨Array.size h, 0, none⟩ 4) = some v13 ∧
 ∃ v14, cellH (Array.push h (.cells (Value.cells s_p) 65 (0, 0))) (Addr.add ⟨Array.size h, 0, none⟩ 5) = some v14 ∧
 CallX Tryd.prog ω 60 [v13] (Array.push h (.cells (Value.cells s_p) 65 (0, 0))) (fun r15 h16 =>
 cellH h16 (Addr.add ⟨Array.size h, 0, none⟩ 5) = some v14 ∧ cellH h16 (Addr.add ⟨Array.size h, 0, none⟩ 3) = some v11 ∧ cellH h16 (Addr.add ⟨Array.size h, 0, none⟩ 2) = some v9 ∧ asS r15 fun s17 => ByteArray.size ((((⟨#[99, 104, 97, 110, 32]⟩ ++ s10) ++ ⟨#[32]⟩) ++ s12) ++ ⟨#[32]⟩) + ByteArray.size s17 ≤ 9223372036854775807 ∧ ByteArray.size (((((⟨#[99, 104, 97, 110, 32]⟩ ++ s10) ++ ⟨#[32]⟩) ++ s12) ++ ⟨#[32]⟩) ++ s17) + ByteArray.size ⟨#[32]⟩ ≤ 9223372036854775807 ∧ CallX Tryd.prog ω 92 [v14] h16 (fun r18 h19 =>
 cellH h19 (Addr.add ⟨Array.size h, 0, none⟩ 3) = some v11 ∧ cellH h19 (Addr.add ⟨Array.size h, 0, none⟩ 2) = some v9 ∧ asS r18 fun s20 => ByteArray.size ((((((⟨#[99, 104, 97, 110, 32]⟩ ++ s10) ++ ⟨#[32]⟩) ++ s12) ++ ⟨#[32]⟩) ++ s17) ++ ⟨#[32]⟩) + ByteArray.size s20 ≤ 9223372036854775807 ∧ R (.string (((((((⟨#[99, 104, 97, 110, 32]⟩ ++ s10) ++ ⟨#[32]⟩) ++ s12) ++ ⟨#[32]⟩) ++ s17) ++ ⟨#[32]⟩) ++ s20)) h19) X) X)
 (asK .i64 v0 fun n21 => cond (n21 == (5 : Int))
 (∃ v22, cellH (Array.push h (.cells (Value.cells s_p) 65 (0, 0))) (Addr.add ⟨Array.size h, 0, none⟩ 2) = some v22 ∧
 asS v22 fun s23 => ByteArray.size ⟨#[99, 108, 111, 110, 101, 32]⟩ + ByteArray.size s23 ≤ 9223372036854775807 ∧ ByteArray.size (⟨#[99, 108, 111, 110, 101, 32]⟩ ++ s23) + ByteArray.size ⟨#[32]⟩ ≤ 9223372036854775807 ∧ ∃ v24, cellH (Array.push h (.cells (Value.cells s_p) 65 (0, 0))) (Addr.add ⟨Array.size h, 0, none⟩ 3) = some v24 ∧
 asS v24 fun s25 => ByteArray.size ((⟨#[99, 108, 111, 110, 101, 32]⟩ ++ s23) ++ ⟨#[32]⟩) + ByteArray.size s25 ≤ 9223372036854775807 ∧ R (.string (((⟨#[99, 108, 111, 110, 101, 32]⟩ ++ s23) ++ ⟨#[32]⟩) ++ s25)) (Array.push h (.cells (Value.cells s_p) 65 (0, 0))))
 (asK .i64 v0 fun n26 => cond (n26 == (6 : Int))
 (∃ v27, cellH (Array.push h (.cells (Value.cells s_p) 65 (0, 0))) (Addr.add ⟨Array.size h, 0, none⟩ 2) = some v27 ∧
 asS v27 fun s28 => ByteArray.size ⟨#[115, 101, 110, 100, 32]⟩ + ByteArray.size s28 ≤ 9223372036854775807 ∧ ByteArray.size (⟨#[115, 101, 110, 100, 32]⟩ ++ s28) + ByteArray.size ⟨#[32]⟩ ≤ 9223372036854775807 ∧ R (.string ((⟨#[115, 101, 110, 100, 32]⟩ ++ s28) ++ ⟨#[32]⟩)) (Array.push h (.cells (Value.cells s_p) 65 (0, 0))))
 (asK .i64 v0 fun n29 => cond (n29 == (7 : Int))
 (∃ v30, cellH (Array.push h (.cells (Value.cells s_p) 65 (0, 0))) (Addr.add ⟨Array.size h, 0, none⟩ 2) = some v30 ∧
 asS v30 fun s31 => ByteArray.size ⟨#[99, 108, 111, 115, 101, 32]⟩ + ByteArray.size s31 ≤ 9223372036854775807 ∧ R (.string (⟨#[99, 108, 111, 115, 101, 32]⟩ ++ s31)) (Array.push h (.cells (Value.cells s_p) 65 (0, 0))))
 (asK .i64 v0 fun n32 => cond (n32 == (8 : Int))
 (∃ v33, cellH (Array.push h (.cells (Value.cells s_p) 65 (0, 0))) (Addr.add ⟨Array.size h, 0, none⟩ 2) = some v33 ∧
 asS v33 fun s34 => ByteArray.size ⟨#[97, 98, 97, 110, 100, 111, 110, 32]⟩ + ByteArray.size s34 ≤ 9223372036854775807 ∧ R (.string (⟨#[97, 98, 97, 110, 100, 111, 110, 32]⟩ ++ s34)) (Array.push h (.cells (Value.cells s_p) 65 (0, 0))))
 (asK .i64 v0 fun n35 => cond (n35 == (9 : Int))
 (∃ v36, cellH (Array.push h (.cells (Value.cells s_p) 65 (0, 0))) (Addr.add ⟨Array.size h, 0, none⟩ 2) = some v36 ∧
 asS v36 fun s37 => ByteArray.size ⟨#[100, 114, 97, 105, 110, 32]⟩ + ByteArray.size s37 ≤ 9223372036854775807 ∧ R (.string (⟨#[100, 114, 97, 105, 110, 32]⟩ ++ s37)) (Array.push h (.cells (Value.cells s_p) 65 (0, 0))))
 (asK .i64 v0 fun n38 => cond (n38 == (10 : Int))
 (∃ v39, cellH (Array.push h (.cells (Value.cells s_p) 65 (0, 0))) (Addr.add ⟨Array.size h, 0, none⟩ 2) = some v39 ∧
 asS v39 fun s40 => ByteArray.size ⟨#[115, 112, 97, 119, 110, 32]⟩ + ByteArray.size s40 ≤ 9223372036854775807 ∧ ByteArray.size (⟨#[115, 112, 97, 119, 110, 32]⟩ ++ s40) + ByteArray.size ⟨#[40]⟩ ≤ 9223372036854775807 ∧ R (.string ((⟨#[115, 112, 97, 119, 110, 32]⟩ ++ s40) ++ ⟨#[40]⟩)) (Array.push h (.cells (Value.cells s_p) 65 (0, 0))))
 (asK .i64 v0 fun n41 => cond (n41 == (11 : Int))
 (∃ v42, cellH (Array.push h (.cells (Value.cells s_p) 65 (0, 0))) (Addr.add ⟨Array.size h, 0, none⟩ 2) = some v42 ∧
 asS v42 fun s43 => ByteArray.size ⟨#[116, 97, 107, 101, 32]⟩ + ByteArray.size s43 ≤ 9223372036854775807 ∧ ByteArray.size (⟨#[116, 97, 107, 101, 32]⟩ ++ s43) + ByteArray.size ⟨#[32, 102, 114, 111, 109, 32]⟩ ≤ 9223372036854775807 ∧ ∃ v44, cellH (Array.push h (.cells (Value.cells s_p) 65 (0, 0))) (Addr.add ⟨Array.size h, 0, none⟩ 3) = some v44 ∧
 asS v44 fun s45 => ByteArray.size ((⟨#[116, 97, 107, 101, 32]⟩ ++ s43) ++ ⟨#[32, 102, 114, 111, 109, 32]⟩) + ByteArray.size s45 ≤ 9223372036854775807 ∧ R (.string (((⟨#[116, 97, 107, 101, 32]⟩ ++ s43) ++ ⟨#[32, 102, 114, 111, 109, 32]⟩) ++ s45)) (Array.push h (.cells (Value.cells s_p) 65 (0, 0))))
 (asK .i64 v0 fun n46 => cond (n46 == (12 : Int))
 (∃ v47, cellH (Array.push h (.cells (Value.cells s_p) 65 (0, 0))) (Addr.add ⟨Array.size h, 0, none⟩ 2) = some v47 ∧
 asS v47 fun s48 => ByteArray.size ⟨#[102, 111, 114, 32]⟩ + ByteArray.size s48 ≤ 9223372036854775807 ∧ ByteArray.size (⟨#[102, 111, 114, 32]⟩ ++ s48) + ByteArray.size ⟨#[32, 102, 114, 111, 109, 32]⟩ ≤ 9223372036854775807 ∧ ∃ v49, cellH (Array.push h (.cells (Value.cells s_p) 65 (0, 0))) (Addr.add ⟨Array.size h, 0, none⟩ 3) = some v49 ∧
 asS v49 fun s50 => ByteArray.size ((⟨#[102, 111, 114, 32]⟩ ++ s48) ++ ⟨#[32, 102, 114, 111, 109, 32]⟩) + ByteArray.size s50 ≤ 9223372036854775807 ∧ R (.string (((⟨#[102, 111, 114, 32]⟩ ++ s48) ++ ⟨#[32, 102, 114, 111, 109, 32]⟩) ++ s50)) (Array.push h (.cells (Value.cells s_p) 65 (0, 0))))
 (asK .i64 v0 fun n51 => cond (n51 == (13 : Int))
 (R (.string ⟨#[114, 101, 112, 101, 97, 116, 32]⟩) (Array.push h (.cells (Value.cells s_p) 65 (0, 0))))
 (R (.string ⟨#[105, 102, 32]⟩) (Array.push h (.cells (Value.cells s_p) 65 (0, 0))))))))))))))))
def A_render_head : Ann :=
 (.two .leaf (.two (.two .leaf (.one (.two .leaf (.two (.two .leaf .leaf) (.two .leaf (.two (.two .leaf .leaf) (.two .leaf (.two (.two .leaf .leaf) (.two .leaf (.two (.two (.plan [0, 1, 2, 3, 4, 5, 6, 7, 8, 9, 13, 14, 10, 11, 12, 15, 16, 17]) .leaf) (.two .leaf (.two (.two .leaf .leaf) (.two .leaf (.two (.two .leaf .leaf) (.two .leaf (.two (.two .leaf .leaf) (.two .leaf (.two (.two .leaf .leaf) (.two .leaf (.two (.two .leaf .leaf) (.two .leaf (.two (.two .leaf .leaf) (.two .leaf (.two (.two .leaf .leaf) (.two .leaf (.two (.two .leaf .leaf) (.two .leaf (.two (.two .leaf .leaf) .leaf)))))))))))))))))))))))))))) (.two .leaf .leaf)))
theorem C_render_head (ω : Amb) (s_p : Value) (h : Hp) (R : Value → Hp → Prop) (X : List PanicEntry → Hp → Prop) (hk : W_render_head ω s_p h R X) : CallX Tryd.prog ω 111 [s_p] h R X :=
 callX_of (an := A_render_head) Tryd.func111 ((show fnX Tryd.prog ω A_render_head Tryd.f111 [s_p] h R X = W_render_head ω s_p h R X by kernel_rfl) ▸ hk)

/-- pipewright/render.list -/
abbrev n_render_list : Nat := 112
def W_render_list (ω : Amb) (l_p : Value) (h : Hp) (R : Value → Hp → Prop) (X : List PanicEntry → Hp → Prop) : Prop :=
 asSl l_p fun a0 l1 c2 => ∃ (I3 : Value → Value → Hp → Prop) (μ4 : Value → Value → Hp → Nat), I3 (.slice none 0 0) (.int .i64 0) h ∧ ∀ out_5 t8_6 (d7 : Nat → Value) (h8 : Hp), I3 out_5 t8_6 h8 →
 asK .i64 t8_6 fun n9 => cond (decide ((n9 : Int) < (l1 : Int)))
 (asSl1 l_p fun a10 l11 c12 => asI t8_6 fun n13 => 0 ≤ (n13 : Int) ∧ n13 < (l11 : Int) ∧ ∃ C14, cellsH h8 (Addr.add a10 (Int.toNat n13 * 4)) 4 C14 ∧
 C14.toArray.size = 4 ∧ (∀ u ∈ C14.toArray.toList, one u) ∧ storeK (Array.push h8 (.cells #[(.int .i64 0), (.string ⟨#[]⟩), (.int .i64 0), (.slice none 0 0)] 118 (0, 0))) ⟨Array.size h8, 0, none⟩ C14.toArray.toList fun h15 =>
 ∃ C16, cellsH h15 ⟨Array.size h8, 0, none⟩ 4 C16 ∧
 CallX Tryd.prog ω 133 [(.agg C16.toArray)] h15 (fun r17 h18 =>
 oneK r17 (appK Tryd.prog 98 (Array.push h18 (.cells (List.toArray [r17]) 9 (0, 0))) out_5 (.slice (some ⟨Array.size h18, 0, none⟩) 1 1) fun w19 h20 =>
 asK .i64 t8_6 fun n21 => I3 w19 (.int .i64 (IntKind.wrap .i64 (n21 + 1))) h20 ∧ μ4 w19 (.int .i64 (IntKind.wrap .i64 (n21 + 1))) h20 < μ4 out_5 t8_6 h8)) X)
 (CallX Tryd.prog ω 62 [out_5, (.string ⟨#[44, 32]⟩)] h8 (fun r22 h23 =>
 R r22 h23) X)
def A_render_list : Ann :=
 (.two .leaf (.two .leaf (.two (.two .leaf (.one (.loop [9, 10, 11, 5, 12, 13, 14, 15, 16, 3, 17, 8] [3, 8] (.two .leaf (.two (.two .leaf .leaf) (.two (.one (.two .leaf .leaf)) .leaf)))))) (.two .leaf .leaf))))
theorem C_render_list (ω : Amb) (l_p : Value) (h : Hp) (R : Value → Hp → Prop) (X : List PanicEntry → Hp → Prop) (hk : W_render_list ω l_p h R X) : CallX Tryd.prog ω 112 [l_p] h R X :=
 callX_of (an := A_render_list) Tryd.func112 ((show fnX Tryd.prog ω A_render_list Tryd.f112 [l_p] h R X = W_render_list ω l_p h R X by kernel_rfl) ▸ hk)

/-- strconv.FormatInt -/
abbrev n_strconv_FormatInt : Nat := 119
def W_strconv_FormatInt (ω : Amb) (i_p base_p : Value) (h : Hp) (R : Value → Hp → Prop) (X : List PanicEntry → Hp → Prop) : Prop :=
 CallX Tryd.prog ω 135 [i_p, base_p] h (fun r0 h1 =>
 R r0 h1) X
def A_strconv_FormatInt : Ann :=
 (.two .leaf (.two .leaf .leaf))
theorem C_strconv_FormatInt (ω : Amb) (i_p base_p : Value) (h : Hp) (R : Value → Hp → Prop) (X : List PanicEntry → Hp → Prop) (hk : W_strconv_FormatInt ω i_p base_p h R X) : CallX Tryd.prog ω 119 [i_p, base_p] h R X :=
 callX_of (an := A_strconv_FormatInt) Tryd.func119 ((show fnX Tryd.prog ω A_strconv_FormatInt Tryd.f119 [i_p, base_p] h R X = W_strconv_FormatInt ω i_p base_p h R X by kernel_rfl) ▸ hk)

/-- pipewright/render.expr -/
abbrev n_render_expr : Nat := 133
def W_render_expr (ω : Amb) (x_p : Value) (h : Hp) (R : Value → Hp → Prop) (X : List PanicEntry → Hp → Prop) : Prop :=
 ∃ v0, cellH (Array.push h (.cells (Value.cells x_p) 118 (0, 0))) (Addr.add ⟨Array.size h, 0, none⟩ 0) = some v0 ∧
 CallX Tryd.prog ω 141 [v0] (Array.push h (.cells (Value.cells x_p) 118 (0, 0))) (fun r1 h2 =>
 ∃ v3, cellH h2 (Addr.add ⟨Array.size h, 0, none⟩ 0) = some v3 ∧
 asK .i64 v3 fun n4 => cond (n4 == (1 : Int))
 (∃ v5, cellH h2 (Addr.add ⟨Array.size h, 0, none⟩ 2) = some v5 ∧
 CallX Tryd.prog ω 119 [v5, (.int .i64 10)] h2 (fun r6 h7 =>
 R r6 h7) X)
 (asK .i64 v3 fun n8 => cond (n8 == (2 : Int))
 (∃ v9, cellH h2 (Addr.add ⟨Array.size h, 0, none⟩ 1) = some v9 ∧
 R v9 h2)
 (asK .i64 v3 fun n10 => cond (n10 == (3 : Int))
 (∃ v11, cellH h2 (Addr.add ⟨Array.size h, 0, none⟩ 3) = some v11 ∧
 asSl1 v11 fun a12 l13 c14 => 0 ≤ (0 : Int) ∧ 0 < (l13 : Int) ∧ ∃ C15, cellsH h2 (Addr.add a12 (Int.toNat 0 * 4)) 4 C15 ∧
 CallX Tryd.prog ω 142 [(.agg C15.toArray), r1] h2 (fun r16 h17 =>
 asS r16 fun s18 => ByteArray.size ⟨#[45]⟩ + ByteArray.size s18 ≤ 9223372036854775807 ∧ R (.string (⟨#[45]⟩ ++ s18)) h17) X)
 (asK .i64 v3 fun n19 => cond (n19 == (7 : Int))
 (∃ v20, cellH h2 (Addr.add ⟨Array.size h, 0, none⟩ 3) = some v20 ∧
 asSl1 v20 fun a21 l22 c23 => 0 ≤ (0 : Int) ∧ 0 < (l22 : Int) ∧ ∃ C24, cellsH h2 (Addr.add a21 (Int.toNat 0 * 4)) 4 C24 ∧
 asK .i64 r1 fun n25 => ∃ v26, cellH h2 (Addr.add ⟨Array.size h, 0, none⟩ 3) = some v26 ∧
 asSl1 v26 fun a27 l28 c29 => 0 ≤ (1 : Int) ∧ 1 < (l28 : Int) ∧ ∃ C30, cellsH h2 (Addr.add a27 (Int.toNat 1 * 4)) 4 C30 ∧
 asK .i64 r1 fun n31 => CallX Tryd.prog ω 142 [(.agg C24.toArray), (.int .i64 (IntKind.wrap .i64 (n25 + 1)))] h2 (fun r32 h33 =>
 cellsH h33 (Addr.add a27 (Int.toNat 1 * 4)) 4 C30 ∧ cellH h33 (Addr.add ⟨Array.size h, 0, none⟩ 3) = some v26 ∧ asS r32 fun s34 => ByteArray.size s34 + ByteArray.size ⟨#[32, 60, 32]⟩ ≤ 9223372036854775807 ∧ CallX Tryd.prog ω 142 [(.agg C30.toArray), (.int .i64 (IntKind.wrap .i64 (n31 + 1)))] h33 (fun r35 h36 =>
 asS r35 fun s37 => ByteArray.size (s34 ++ ⟨#[32, 60, 32]⟩) + ByteArray.size s37 ≤ 9223372036854775807 ∧ R (.string ((s34 ++ ⟨#[32, 60, 32]⟩) ++ s37)) h36) X) X)
 (asK .i64 v3 fun n38 => cond (n38 == (8 : Int))
 (∃ v39, cellH h2 (Addr.add ⟨Array.size h, 0, none⟩ 3) = some v39 ∧
 asSl1 v39 fun a40 l41 c42 => 0 ≤ (0 : Int) ∧ 0 < (l41 : Int) ∧ ∃ C43, cellsH h2 (Addr.add a40 (Int.toNat 0 * 4)) 4 C43 ∧
 asK .i64 r1 fun n44 => ∃ v45, cellH h2 (Addr.add ⟨Array.size h, 0, none⟩ 3) = some v45 ∧
 asSl1 v45 fun a46 l47 c48 => 0 ≤ (1 : Int) ∧ 1 < (l47 : Int) ∧ ∃ C49, cellsH h2 (Addr.add a46 (Int.toNat 1 * 4)) 4 C49 ∧
 asK .i64 r1 fun n50 => CallX Tryd.prog ω 142 [(.agg C43.toArray), (.int .i64 (IntKind.wrap .i64 (n44 + 1)))] h2 (fun r51 h52 =>
 cellsH h52 (Addr.add a46 (Int.toNat 1 * 4)) 4 C49 ∧ cellH h52 (Addr.add ⟨Array.size h, 0, none⟩ 3) = some v45 ∧ asS r51 fun s53 => ByteArray.size s53 + ByteArray.size ⟨#[32, 61, 61, 32]⟩ ≤ 9223372036854775807 ∧ CallX Tryd.prog ω 142 [(.agg C49.toArray), (.int .i64 (IntKind.wrap .i64 (n50 + 1)))] h52 (fun r54 h55 =>
 asS r54 fun s56 => ByteArray.size (s53 ++ ⟨#[32, 61, 61, 32]⟩) + ByteArray.size s56 ≤ 9223372036854775807 ∧ R (.string ((s53 ++ ⟨#[32, 61, 61, 32]⟩) ++ s56)) h55) X) X)
 (∃ v57, cellH h2 (Addr.add ⟨Array.size h, 0, none⟩ 0) = some v57 ∧
 asK .i64 v57 fun n58 => 0 ≤ ((IntKind.wrap .i64 (n58 - 4)) : Int) ∧ (IntKind.wrap .i64 (n58 - 4)) < ((3 : Nat) : Int) ∧ asO (#[(.string ⟨#[32, 43, 32]⟩), (.string ⟨#[32, 45, 32]⟩), (.string ⟨#[32, 42, 32]⟩)])[Int.toNat (IntKind.wrap .i64 (n58 - 4)) * 1]? fun v59 => ∃ v60, cellH h2 (Addr.add ⟨Array.size h, 0, none⟩ 3) = some v60 ∧
 asSl1 v60 fun a61 l62 c63 => 0 ≤ (0 : Int) ∧ 0 < (l62 : Int) ∧ ∃ C64, cellsH h2 (Addr.add a61 (Int.toNat 0 * 4)) 4 C64 ∧
 ∃ v65, cellH h2 (Addr.add ⟨Array.size h, 0, none⟩ 3) = some v65 ∧
 asSl1 v65 fun a66 l67 c68 => 0 ≤ (1 : Int) ∧ 1 < (l67 : Int) ∧ ∃ C69, cellsH h2 (Addr.add a66 (Int.toNat 1 * 4)) 4 C69 ∧
 asK .i64 r1 fun n70 => CallX Tryd.prog ω 142 [(.agg C64.toArray), r1] h2 (fun r71 h72 =>
 cellsH h72 (Addr.add a66 (Int.toNat 1 * 4)) 4 C69 ∧ cellH h72 (Addr.add ⟨Array.size h, 0, none⟩ 3) = some v65 ∧ asS r71 fun s73 => asS v59 fun s74 => ByteArray.size s73 + ByteArray.size s74 ≤ 9223372036854775807 ∧ CallX Tryd.prog ω 142 [(.agg C69.toArray), (.int .i64 (IntKind.wrap .i64 (n70 + 1)))] h72 (fun r75 h76 =>
 asS r75 fun s77 => ByteArray.size (s73 ++ s74) + ByteArray.size s77 ≤ 9223372036854775807 ∧ R (.string ((s73 ++ s74) ++ s77)) h76) X) X)))))) X
def A_render_expr : Ann :=
 (.two .leaf (.two .leaf (.two (.two .leaf (.one (.two .leaf (.two (.two .leaf .leaf) (.two .leaf (.two (.two .leaf .leaf) (.two .leaf (.two (.two .leaf .leaf) (.two .leaf (.two (.two (.plan [0, 1, 2, 3, 4, 5, 8, 9, 10, 11, 12, 13, 6, 7, 14, 15, 16]) .leaf) (.two .leaf (.two (.two (.plan [0, 1, 2, 3, 4, 5, 8, 9, 10, 11, 12, 13, 6, 7, 14, 15, 16]) .leaf) .leaf)))))))))))) (.two .leaf (.two (.plan [0, 1, 2, 3, 4, 6, 8, 9, 10, 11, 12, 13, 5, 7, 14, 15, 16]) .leaf)))))
theorem C_render_expr (ω : Amb) (x_p : Value) (h : Hp) (R : Value → Hp → Prop) (X : List PanicEntry → Hp → Prop) (hk : W_render_expr ω x_p h R X) : CallX Tryd.prog ω 133 [x_p] h R X :=
 callX_of (an := A_render_expr) Tryd.func133 ((show fnX Tryd.prog ω A_render_expr Tryd.f133 [x_p] h R X = W_render_expr ω x_p h R X by kernel_rfl) ▸ hk)

/-- pipewright/render.rank -/
abbrev n_render_rank : Nat := 141
def W_render_rank (ω : Amb) (op_p : Value) (h : Hp) (R : Value → Hp → Prop) (X : List PanicEntry → Hp → Prop) : Prop :=
 asK .i64 op_p fun n0 => ∃ J1 : Value → Hp → Prop,
 (cond (n0 == (7 : Int))
 (J1 (.bool (n0 == (7 : Int))) h)
 (asK .i64 op_p fun n5 => J1 (.bool (n5 == (8 : Int))) h)) ∧
 ∀ t4_2 (d3 : Nat → Value) (h4 : Hp), J1 t4_2 h4 →
 asB t4_2 fun b6 => cond b6
 (R (.int .i64 1) h4)
 (asK .i64 op_p fun n7 => ∃ J8 : Value → Hp → Prop,
 (cond (n7 == (4 : Int))
 (J8 (.bool (n7 == (4 : Int))) h4)
 (asK .i64 op_p fun n12 => J8 (.bool (n12 == (5 : Int))) h4)) ∧
 ∀ t7_9 (d10 : Nat → Value) (h11 : Hp), J8 t7_9 h11 →
 asB t7_9 fun b13 => cond b13
 (R (.int .i64 2) h11)
 (asK .i64 op_p fun n14 => cond (n14 == (6 : Int))
 (R (.int .i64 3) h11)
 (asK .i64 op_p fun n15 => cond (n15 == (3 : Int))
 (R (.int .i64 4) h11)
 (R (.int .i64 5) h11))))
def A_render_rank : Ann :=
 (.two .leaf (.two (.two .leaf (.one (.two (.two .leaf (.join [6, 4] [4] (.two .leaf .leaf))) (.two (.two .leaf .leaf) (.two (.two .leaf (.join [9, 7] [7] (.two .leaf .leaf))) (.two (.two .leaf .leaf) (.two .leaf (.two (.two .leaf .leaf) (.two .leaf (.two (.two .leaf .leaf) .leaf)))))))))) (.two .leaf .leaf)))
theorem C_render_rank (ω : Amb) (op_p : Value) (h : Hp) (R : Value → Hp → Prop) (X : List PanicEntry → Hp → Prop) (hk : W_render_rank ω op_p h R X) : CallX Tryd.prog ω 141 [op_p] h R X :=
 callX_of (an := A_render_rank) Tryd.func141 ((show fnX Tryd.prog ω A_render_rank Tryd.f141 [op_p] h R X = W_render_rank ω op_p h R X by kernel_rfl) ▸ hk)

/-- pipewright/render.at -/
abbrev n_render_at : Nat := 142
def W_render_at (ω : Amb) (x_p least_p : Value) (h : Hp) (R : Value → Hp → Prop) (X : List PanicEntry → Hp → Prop) : Prop :=
 ∃ C0, cellsH (Array.push h (.cells (Value.cells x_p) 118 (0, 0))) ⟨Array.size h, 0, none⟩ 4 C0 ∧
 CallX Tryd.prog ω 133 [(.agg C0.toArray)] (Array.push h (.cells (Value.cells x_p) 118 (0, 0))) (fun r1 h2 =>
 ∃ v3, cellH h2 (Addr.add ⟨Array.size h, 0, none⟩ 0) = some v3 ∧
 CallX Tryd.prog ω 141 [v3] h2 (fun r4 h5 =>
 asK .i64 r4 fun n6 => asK .i64 least_p fun n7 => cond (decide ((n6 : Int) < n7))
 (asS r1 fun s8 => ByteArray.size ⟨#[40]⟩ + ByteArray.size s8 ≤ 9223372036854775807 ∧ ByteArray.size (⟨#[40]⟩ ++ s8) + ByteArray.size ⟨#[41]⟩ ≤ 9223372036854775807 ∧ R (.string ((⟨#[40]⟩ ++ s8) ++ ⟨#[41]⟩)) h5)
 (R r1 h5)) X) X
def A_render_at : Ann :=
 (.two .leaf (.two .leaf (.two (.two .leaf (.two (.two .leaf .leaf) .leaf)) (.two .leaf .leaf))))
theorem C_render_at (ω : Amb) (x_p least_p : Value) (h : Hp) (R : Value → Hp → Prop) (X : List PanicEntry → Hp → Prop) (hk : W_render_at ω x_p least_p h R X) : CallX Tryd.prog ω 142 [x_p, least_p] h R X :=
 callX_of (an := A_render_at) Tryd.func142 ((show fnX Tryd.prog ω A_render_at Tryd.f142 [x_p, least_p] h R X = W_render_at ω x_p least_p h R X by kernel_rfl) ▸ hk)

end Go.Proofs.YtaehnpilebkcoaaDoor.Sx
