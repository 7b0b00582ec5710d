/- Formulas of the functions' texts, written by a program of ours; each is checked by the kernel. -/
import Derived.Test.YtkeeboomikkojaaGreatDoorSxCore
import Derived.KernelRfl
import Derived.Test.YtkeeboomikkojaaGreatDoorProg
set_option linter.unusedVariables false
set_option maxRecDepth 100000
namespace Go.Proofs.YtkeeboomikkojaaGreatDoor.Sx
open Go Go.Sx Go.Proofs

/-- pipewright/pipewrightlaw.renderBegun -/
abbrev n_pipewrightlaw_renderBegun : Nat := 13
def W_pipewrightlaw_renderBegun (ω : Amb) (h : Hp) (R : Value → Hp → Prop) (X : List PanicEntry → Hp → Prop) : Prop :=
 4 = 4 ∧ CallX Tryz.prog ω 15 [(.agg #[(.slice (some ⟨Array.size h, 0, none⟩) 1 1)])] (Array.push h (.cells (List.toArray [(.string ⟨#[97]⟩), (.int .i64 0), (.slice none 0 0), (.slice none 0 0)]) 41 (0, 0))) (fun r0 h1 =>
 asT r0 fun T2 => asO T2[0]? fun v3 => asT r0 fun T4 => asO T4[1]? fun v5 => asA v5 fun A6 => A6.size = 2 ∧ (∀ u ∈ A6.toList, one u) ∧ storeK (Array.push h1 (.cells #[(.int .i64 0), (.int .i64 0)] 28 (0, 0))) ⟨Array.size h1, 0, none⟩ A6.toList fun h7 =>
 ∃ J8 : Value → Hp → Prop,
 (∃ v12, cellH h7 (Addr.add ⟨Array.size h1, 0, none⟩ 0) = some v12 ∧
 asK .i64 v12 fun n13 => cond (n13 == (0 : Int))
 (asS v3 fun s14 => cond (ByteArray.toList s14 == ByteArray.toList ⟨#[115, 116, 97, 103, 101, 32, 97, 40, 41, 32, 123, 10, 125, 10]⟩)
 (CallX Tryz.prog ω 28 [(.string ⟨#[114, 115, 105]⟩), (.int .i64 2)] h7 (fun r15 h16 =>
 J8 r15 h16) X)
 (J8 (.bool false) h7))
 (J8 (.bool false) h7)) ∧
 ∀ t0_9 (d10 : Nat → Value) (h11 : Hp), J8 t0_9 h11 →
 R t0_9 h11) X
def A_pipewrightlaw_renderBegun : Ann :=
 (.two .leaf (.two .leaf (.two (.join [10, 11, 12, 13, 14, 15, 16, 17, 18, 19, 0] [0] .leaf) .leaf)))
theorem C_pipewrightlaw_renderBegun (ω : Amb) (h : Hp) (R : Value → Hp → Prop) (X : List PanicEntry → Hp → Prop) (hk : W_pipewrightlaw_renderBegun ω  h R X) : CallX Tryz.prog ω 13 [] h R X :=
 callX_of (an := A_pipewrightlaw_renderBegun) Tryz.func13 ((show fnX Tryz.prog ω A_pipewrightlaw_renderBegun Tryz.f13 [] h R X = W_pipewrightlaw_renderBegun ω  h R X by kernel_rfl) ▸ hk)

/-- pipewright/render.Print -/
abbrev n_render_Print : Nat := 15
def W_render_Print (ω : Amb) (p_p : Value) (h : Hp) (R : Value → Hp → Prop) (X : List PanicEntry → Hp → Prop) : Prop :=
 ∃ C0, cellsH (Array.push (Array.push h (.cells (Value.cells p_p) 24 (0, 0))) (.cells #[(.int .i64 0), (.int .i64 0)] 28 (0, 0))) ⟨Array.size h, 0, none⟩ 1 C0 ∧
 CallX Tryz.prog ω 16 [(.agg C0.toArray)] (Array.push (Array.push h (.cells (Value.cells p_p) 24 (0, 0))) (.cells #[(.int .i64 0), (.int .i64 0)] 28 (0, 0))) (fun r1 h2 =>
 asA r1 fun A3 => A3.size = 2 ∧ (∀ u ∈ A3.toList, one u) ∧ storeK (Array.push h2 (.cells #[(.int .i64 0), (.int .i64 0)] 28 (0, 0))) ⟨Array.size h2, 0, none⟩ A3.toList fun h4 =>
 ∃ v5, cellH h4 (Addr.add ⟨Array.size h2, 0, none⟩ 0) = some v5 ∧
 asK .i64 v5 fun n6 => cond (n6 != (0 : Int))
 (∃ C7, cellsH h4 ⟨Array.size h2, 0, none⟩ 2 C7 ∧
 C7.toArray.size = 2 ∧ (∀ u ∈ C7.toArray.toList, one u) ∧ storeK h4 ⟨Array.size (Array.push h (.cells (Value.cells p_p) 24 (0, 0))), 0, none⟩ C7.toArray.toList fun h8 =>
 ∃ C9, cellsH h8 ⟨Array.size (Array.push h (.cells (Value.cells p_p) 24 (0, 0))), 0, none⟩ 2 C9 ∧ R (.tuple #[(.string ⟨#[]⟩), (.agg C9.toArray)]) h8)
 (∃ C10, cellsH h4 ⟨Array.size h, 0, none⟩ 1 C10 ∧
 CallX Tryz.prog ω 34 [(.agg C10.toArray)] h4 (fun r11 h12 =>
 2 = 2 ∧ (∀ u ∈ [(.int .i64 0), (.int .i64 0)], one u) ∧ storeK h12 ⟨Array.size (Array.push h (.cells (Value.cells p_p) 24 (0, 0))), 0, none⟩ [(.int .i64 0), (.int .i64 0)] fun h13 =>
 ∃ C14, cellsH h13 ⟨Array.size (Array.push h (.cells (Value.cells p_p) 24 (0, 0))), 0, none⟩ 2 C14 ∧ R (.tuple #[r11, (.agg C14.toArray)]) h13) X)) X
def A_render_Print : Ann :=
 (.two .leaf (.two .leaf (.two (.two .leaf (.two (.two (.plan [0, 1, 2]) .leaf) .leaf)) (.two .leaf .leaf))))
theorem C_render_Print (ω : Amb) (p_p : Value) (h : Hp) (R : Value → Hp → Prop) (X : List PanicEntry → Hp → Prop) (hk : W_render_Print ω p_p h R X) : CallX Tryz.prog ω 15 [p_p] h R X :=
 callX_of (an := A_render_Print) Tryz.func15 ((show fnX Tryz.prog ω A_render_Print Tryz.f15 [p_p] h R X = W_render_Print ω p_p h R X by kernel_rfl) ▸ hk)

/-- pipewright/render.whole -/
abbrev n_render_whole : Nat := 34
def W_render_whole (ω : Amb) (prog_p : Value) (h : Hp) (R : Value → Hp → Prop) (X : List PanicEntry → Hp → Prop) : Prop :=
 ∃ v0, cellH (Array.push (Array.push h (.cells (Value.cells prog_p) 24 (0, 0))) (.cells #[(.pointer none), (.slice none 0 0), (.int .i64 0)] 111 (0, 0))) (Addr.add ⟨Array.size h, 0, none⟩ 0) = some v0 ∧
 asSl v0 fun a1 l2 c3 => ∃ (I4 : Value → Hp → Prop) (μ5 : Value → Hp → Nat), I4 (.int .i64 0) (Array.push (Array.push h (.cells (Value.cells prog_p) 24 (0, 0))) (.cells #[(.pointer none), (.slice none 0 0), (.int .i64 0)] 111 (0, 0))) ∧ ∀ t14_6 (d7 : Nat → Value) (h8 : Hp), I4 t14_6 h8 →
 asK .i64 t14_6 fun n9 => cond (decide ((n9 : Int) < (l2 : Int)))
 (asSl1 v0 fun a10 l11 c12 => asI t14_6 fun n13 => 0 ≤ (n13 : Int) ∧ n13 < (l11 : Int) ∧ ∃ C14, cellsH h8 (Addr.add a10 (Int.toNat n13 * 4)) 4 C14 ∧
 C14.toArray.size = 4 ∧ (∀ u ∈ C14.toArray.toList, one u) ∧ storeK (Array.push h8 (.cells #[(.string ⟨#[]⟩), (.int .i64 0), (.slice none 0 0), (.slice none 0 0)] 41 (0, 0))) ⟨Array.size h8, 0, none⟩ C14.toArray.toList fun h15 =>
 ∃ v16, cellH h15 (Addr.add ⟨Array.size h8, 0, none⟩ 2) = some v16 ∧
 asSl v16 fun a17 l18 c19 => ∃ (I20 : Value → Value → Hp → Prop) (μ21 : Value → Value → Hp → Nat), I20 (.slice none 0 0) (.int .i64 0) h15 ∧ ∀ l_22 t21_23 (d24 : Nat → Value) (h25 : Hp), I20 l_22 t21_23 h25 →
 asK .i64 t21_23 fun n26 => cond (decide ((n26 : Int) < (l18 : Int)))
 (asSl1 v16 fun a27 l28 c29 => asI t21_23 fun n30 => 0 ≤ (n30 : Int) ∧ n30 < (l28 : Int) ∧ ∃ C31, cellsH h25 (Addr.add a27 (Int.toNat n30 * 2)) 2 C31 ∧
 C31.toArray.size = 2 ∧ (∀ u ∈ C31.toArray.toList, one u) ∧ storeK (Array.push h25 (.cells #[(.string ⟨#[]⟩), (.string ⟨#[]⟩)] 32 (0, 0))) ⟨Array.size h25, 0, none⟩ C31.toArray.toList fun h32 =>
 ∃ v33, cellH h32 (Addr.add ⟨Array.size h25, 0, none⟩ 0) = some v33 ∧
 asS v33 fun s34 => ByteArray.size s34 + ByteArray.size ⟨#[32]⟩ ≤ 9223372036854775807 ∧ ∃ v35, cellH h32 (Addr.add ⟨Array.size h25, 0, none⟩ 1) = some v35 ∧
 CallX Tryz.prog ω 59 [v35] h32 (fun r36 h37 =>
 cellH h37 (Addr.add ⟨Array.size h25, 0, none⟩ 0) = some v33 ∧ asS r36 fun s38 => ByteArray.size (s34 ++ ⟨#[32]⟩) + ByteArray.size s38 ≤ 9223372036854775807 ∧ appK Tryz.prog 112 (Array.push h37 (.cells (List.toArray [(.string ((s34 ++ ⟨#[32]⟩) ++ s38))]) 9 (0, 0))) l_22 (.slice (some ⟨Array.size h37, 0, none⟩) 1 1) fun w39 h40 =>
 asK .i64 t21_23 fun n41 => I20 w39 (.int .i64 (IntKind.wrap .i64 (n41 + 1))) h40 ∧ μ21 w39 (.int .i64 (IntKind.wrap .i64 (n41 + 1))) h40 < μ21 l_22 t21_23 h25) X)
 (∃ v42, cellH h25 (Addr.add ⟨Array.size h8, 0, none⟩ 0) = some v42 ∧
 CallX Tryz.prog ω 61 [l_22, (.string ⟨#[44, 32]⟩)] h25 (fun r43 h44 =>
 cellH h44 (Addr.add ⟨Array.size h8, 0, none⟩ 0) = some v42 ∧ oneK v42 (oneK r43 (CallX Tryz.prog ω 60 [(.pointer (some ⟨Array.size (Array.push h (.cells (Value.cells prog_p) 24 (0, 0))), 0, none⟩)), (.slice (some ⟨Array.size h44, 0, none⟩) 5 5)] (Array.push h44 (.cells (List.toArray [(.string ⟨#[115, 116, 97, 103, 101, 32]⟩), v42, (.string ⟨#[40]⟩), r43, (.string ⟨#[41]⟩)]) 9 (0, 0))) (fun r45 h46 =>
 ∃ v47, cellH h46 (Addr.add ⟨Array.size h8, 0, none⟩ 3) = some v47 ∧
 CallX Tryz.prog ω 62 [(.pointer (some ⟨Array.size (Array.push h (.cells (Value.cells prog_p) 24 (0, 0))), 0, none⟩)), v47] h46 (fun r48 h49 =>
 CallX Tryz.prog ω 63 [(.pointer (some ⟨Array.size (Array.push h (.cells (Value.cells prog_p) 24 (0, 0))), 0, none⟩)), (.slice (some ⟨Array.size h49, 0, none⟩) 1 1)] (Array.push h49 (.cells (List.toArray [(.string ⟨#[10]⟩)]) 9 (0, 0))) (fun r50 h51 =>
 asK .i64 t14_6 fun n52 => I4 (.int .i64 (IntKind.wrap .i64 (n52 + 1))) h51 ∧ μ5 (.int .i64 (IntKind.wrap .i64 (n52 + 1))) h51 < μ5 t14_6 h8) X) X) X))) X))
 (CallX Tryz.prog ω 64 [(.pointer (some (Addr.add ⟨Array.size (Array.push h (.cells (Value.cells prog_p) 24 (0, 0))), 0, none⟩ 0)))] h8 (fun r53 h54 =>
 R r53 h54) X)
def A_render_whole : Ann :=
 (.two .leaf (.two .leaf (.two (.two .leaf (.one (.loop [15, 16, 17, 5, 6, 18, 19, 20, 21, 22, 23, 24, 8, 25, 26, 27, 28, 29, 30, 31, 32, 33, 34, 35, 36, 37, 38, 39, 40, 41, 42, 43, 44, 45, 46, 47, 48, 49, 50, 14] [14] (.two .leaf (.two (.two .leaf .leaf) (.two (.one (.two .leaf (.two .leaf (.two (.two .leaf (.one (.loop [22, 23, 24, 8, 25, 26, 27, 28, 29, 30, 31, 32, 33, 34, 6, 35, 21] [6, 21] (.two .leaf (.two (.two .leaf .leaf) (.two (.one (.two .leaf (.plan [0, 1, 2, 3, 4, 5, 6, 7, 8, 9, 10]))) .leaf)))))) (.two (.plan [0, 1, 2, 3, 4, 5, 6]) (.two .leaf .leaf)))))) .leaf)))))) (.two .leaf .leaf))))
theorem C_render_whole (ω : Amb) (prog_p : Value) (h : Hp) (R : Value → Hp → Prop) (X : List PanicEntry → Hp → Prop) (hk : W_render_whole ω prog_p h R X) : CallX Tryz.prog ω 34 [prog_p] h R X :=
 callX_of (an := A_render_whole) Tryz.func34 ((show fnX Tryz.prog ω A_render_whole Tryz.f34 [prog_p] h R X = W_render_whole ω prog_p h R X by kernel_rfl) ▸ hk)

/-- pipewright/render.words -/
abbrev n_render_words : Nat := 59
def W_render_words (ω : Amb) (t_p : Value) (h : Hp) (R : Value → Hp → Prop) (X : List PanicEntry → Hp → Prop) : Prop :=
 asS t_p fun s0 => ∃ (I1 : Value → Hp → Prop) (μ2 : Value → Hp → Nat), I1 (.int .i64 0) (Array.push h (.cells #[(.pointer none), (.slice none 0 0)] 109 (0, 0))) ∧ ∀ t8_3 (d4 : Nat → Value) (h5 : Hp), I1 t8_3 h5 →
 asK .i64 t8_3 fun n6 => cond (decide ((n6 : Int) < (IntKind.wrap .i64 ((ByteArray.size s0 : Int) - 1))))
 (∃ J7 : Hp → Prop,
 (asS t_p fun s10 => asI t8_3 fun n11 => 0 ≤ (n11 : Int) ∧ n11 < (ByteArray.size s10 : Int) ∧ ∃ J12 : Hp → Prop,
 (cond ((byteAt s10 n11) == (115 : Int))
 (CallX Tryz.prog ω 88 [(.pointer (some ⟨Array.size h, 0, none⟩)), (.string ⟨#[115, 101, 110, 100, 32]⟩)] h5 (fun r15 h16 =>
 J12 h16) X)
 (CallX Tryz.prog ω 88 [(.pointer (some ⟨Array.size h, 0, none⟩)), (.string ⟨#[114, 101, 99, 118, 32]⟩)] h5 (fun r17 h18 =>
 J12 h18) X)) ∧
 ∀  (d13 : Nat → Value) (h14 : Hp), J12 h14 →
 J7 h14) ∧
 ∀  (d8 : Nat → Value) (h9 : Hp), J7 h9 →
 asK .i64 t8_3 fun n19 => I1 (.int .i64 (IntKind.wrap .i64 (n19 + 1))) h9 ∧ μ2 (.int .i64 (IntKind.wrap .i64 (n19 + 1))) h9 < μ2 t8_3 h5)
 (CallX Tryz.prog ω 64 [(.pointer (some ⟨Array.size h, 0, none⟩))] h5 (fun r20 h21 =>
 asS r20 fun s22 => ByteArray.size s22 + ByteArray.size ⟨#[105, 110, 116]⟩ ≤ 9223372036854775807 ∧ R (.string (s22 ++ ⟨#[105, 110, 116]⟩)) h21) X)
def A_render_words : Ann :=
 (.two .leaf (.two .leaf (.two (.two .leaf (.one (.loop [9, 10, 4, 11, 12, 13, 14, 15, 16, 17, 8] [8] (.two .leaf (.two (.two .leaf .leaf) (.two (.join [10, 4, 11, 12, 13, 14, 15, 16] [] (.one (.two .leaf (.two .leaf (.join [15, 16] [] (.two .leaf .leaf)))))) .leaf)))))) (.two .leaf .leaf))))
theorem C_render_words (ω : Amb) (t_p : Value) (h : Hp) (R : Value → Hp → Prop) (X : List PanicEntry → Hp → Prop) (hk : W_render_words ω t_p h R X) : CallX Tryz.prog ω 59 [t_p] h R X :=
 callX_of (an := A_render_words) Tryz.func59 ((show fnX Tryz.prog ω A_render_words Tryz.f59 [t_p] h R X = W_render_words ω t_p h R X by kernel_rfl) ▸ hk)

/-- (*pipewright/render.page).line -/
abbrev n_p_render_page_line : Nat := 60
def W_p_render_page_line (ω : Amb) (p_p l_p : Value) (h : Hp) (R : Value → Hp → Prop) (X : List PanicEntry → Hp → Prop) : Prop :=
 nnK p_p (asP p_p fun p0 =>
 ∃ v1, cellH h (Addr.add p0 2) = some v1 ∧
 CallX Tryz.prog ω 89 [(.string ⟨#[9]⟩), v1] h (fun r2 h3 =>
 oneK r2 (CallX Tryz.prog ω 63 [p_p, (.slice (some ⟨Array.size h3, 0, none⟩) 1 1)] (Array.push h3 (.cells (List.toArray [r2]) 9 (0, 0))) (fun r4 h5 =>
 CallX Tryz.prog ω 63 [p_p, l_p] h5 (fun r6 h7 =>
 R (.tuple #[]) h7) X) X)) X)
def A_p_render_page_line : Ann :=
 (.two .leaf .leaf)
theorem C_p_render_page_line (ω : Amb) (p_p l_p : Value) (h : Hp) (R : Value → Hp → Prop) (X : List PanicEntry → Hp → Prop) (hk : W_p_render_page_line ω p_p l_p h R X) : CallX Tryz.prog ω 60 [p_p, l_p] h R X :=
 callX_of (an := A_p_render_page_line) Tryz.func60 ((show fnX Tryz.prog ω A_p_render_page_line Tryz.f60 [p_p, l_p] h R X = W_p_render_page_line ω p_p l_p h R X by kernel_rfl) ▸ hk)

/-- (*pipewright/render.page).block -/
abbrev n_p_render_page_block : Nat := 62
def W_p_render_page_block (ω : Amb) (p_p l_p : Value) (h : Hp) (R : Value → Hp → Prop) (X : List PanicEntry → Hp → Prop) : Prop :=
 CallX Tryz.prog ω 63 [p_p, (.slice (some ⟨Array.size h, 0, none⟩) 1 1)] (Array.push h (.cells (List.toArray [(.string ⟨#[32, 123, 10]⟩)]) 9 (0, 0))) (fun r0 h1 =>
 nnK p_p (asP p_p fun p2 =>
 ∃ v3, cellH h1 (Addr.add p2 2) = some v3 ∧
 asK .i64 v3 fun n4 => nnK p_p (asP p_p fun p5 =>
 storeK1 h1 (Addr.add p5 2) (.int .i64 (IntKind.wrap .i64 (n4 + 1))) fun h6 =>
 asSl l_p fun a7 l8 c9 => ∃ (I10 : Value → Hp → Prop) (μ11 : Value → Hp → Nat), I10 (.int .i64 0) h6 ∧ ∀ t18_12 (d13 : Nat → Value) (h14 : Hp), I10 t18_12 h14 →
 asK .i64 t18_12 fun n15 => cond (decide ((n15 : Int) < (l8 : Int)))
 (asSl1 l_p fun a16 l17 c18 => asI t18_12 fun n19 => 0 ≤ (n19 : Int) ∧ n19 < (l17 : Int) ∧ ∃ C20, cellsH h14 (Addr.add a16 (Int.toNat n19 * 9)) 9 C20 ∧
 C20.toArray.size = 9 ∧ (∀ u ∈ C20.toArray.toList, one u) ∧ storeK (Array.push h14 (.cells #[(.int .i64 0), (.int .i64 0), (.string ⟨#[]⟩), (.string ⟨#[]⟩), (.string ⟨#[]⟩), (.int .i64 0), (.slice none 0 0), (.slice none 0 0), (.slice none 0 0)] 39 (0, 0))) ⟨Array.size h14, 0, none⟩ C20.toArray.toList fun h21 =>
 ∃ C22, cellsH h21 ⟨Array.size h14, 0, none⟩ 9 C22 ∧
 CallX Tryz.prog ω 91 [p_p, (.agg C22.toArray)] h21 (fun r23 h24 =>
 asK .i64 t18_12 fun n25 => I10 (.int .i64 (IntKind.wrap .i64 (n25 + 1))) h24 ∧ μ11 (.int .i64 (IntKind.wrap .i64 (n25 + 1))) h24 < μ11 t18_12 h14) X)
 (nnK p_p (asP p_p fun p26 =>
 ∃ v27, cellH h14 (Addr.add p26 2) = some v27 ∧
 asK .i64 v27 fun n28 => nnK p_p (asP p_p fun p29 =>
 storeK1 h14 (Addr.add p29 2) (.int .i64 (IntKind.wrap .i64 (n28 - 1))) fun h30 =>
 CallX Tryz.prog ω 60 [p_p, (.slice (some ⟨Array.size h30, 0, none⟩) 1 1)] (Array.push h30 (.cells (List.toArray [(.string ⟨#[125]⟩)]) 9 (0, 0))) (fun r31 h32 =>
 R (.tuple #[]) h32) X)))))) X
def A_p_render_page_block : Ann :=
 (.two .leaf (.two .leaf (.two (.two .leaf (.one (.loop [19, 20, 21, 5, 22, 23, 24, 25, 18] [18] (.two .leaf (.two (.two .leaf .leaf) (.two (.one (.two .leaf .leaf)) .leaf)))))) (.two .leaf .leaf))))
theorem C_p_render_page_block (ω : Amb) (p_p l_p : Value) (h : Hp) (R : Value → Hp → Prop) (X : List PanicEntry → Hp → Prop) (hk : W_p_render_page_block ω p_p l_p h R X) : CallX Tryz.prog ω 62 [p_p, l_p] h R X :=
 callX_of (an := A_p_render_page_block) Tryz.func62 ((show fnX Tryz.prog ω A_p_render_page_block Tryz.f62 [p_p, l_p] h R X = W_p_render_page_block ω p_p l_p h R X by kernel_rfl) ▸ hk)

/-- (*pipewright/render.page).put -/
abbrev n_p_render_page_put : Nat := 63
def W_p_render_page_put (ω : Amb) (p_p l_p : Value) (h : Hp) (R : Value → Hp → Prop) (X : List PanicEntry → Hp → Prop) : Prop :=
 asSl l_p fun a0 l1 c2 => ∃ (I3 : Value → Hp → Prop) (μ4 : Value → Hp → Nat), I3 (.int .i64 0) h ∧ ∀ t8_5 (d6 : Nat → Value) (h7 : Hp), I3 t8_5 h7 →
 asK .i64 t8_5 fun n8 => cond (decide ((n8 : Int) < (l1 : Int)))
 (asSl1 l_p fun a9 l10 c11 => asI t8_5 fun n12 => 0 ≤ (n12 : Int) ∧ n12 < (l10 : Int) ∧ ∃ v13, cellH h7 (Addr.add a9 (Int.toNat n12 * 1)) = some v13 ∧
 nnK p_p (asP p_p fun p14 =>
 CallX Tryz.prog ω 88 [(.pointer (some (Addr.add p14 0))), v13] h7 (fun r15 h16 =>
 asK .i64 t8_5 fun n17 => I3 (.int .i64 (IntKind.wrap .i64 (n17 + 1))) h16 ∧ μ4 (.int .i64 (IntKind.wrap .i64 (n17 + 1))) h16 < μ4 t8_5 h7) X))
 (R (.tuple #[]) h7)
def A_p_render_page_put : Ann :=
 (.two .leaf (.one (.loop [9, 10, 11, 5, 12, 13, 14, 15, 16, 17, 8] [8] (.two .leaf (.two (.two .leaf .leaf) (.two (.one (.two .leaf .leaf)) .leaf))))))
theorem C_p_render_page_put (ω : Amb) (p_p l_p : Value) (h : Hp) (R : Value → Hp → Prop) (X : List PanicEntry → Hp → Prop) (hk : W_p_render_page_put ω p_p l_p h R X) : CallX Tryz.prog ω 63 [p_p, l_p] h R X :=
 callX_of (an := A_p_render_page_put) Tryz.func63 ((show fnX Tryz.prog ω A_p_render_page_put Tryz.f63 [p_p, l_p] h R X = W_p_render_page_put ω p_p l_p h R X by kernel_rfl) ▸ hk)

/-- (*pipewright/render.page).stmt -/
abbrev n_p_render_page_stmt : Nat := 91
def W_p_render_page_stmt (ω : Amb) (p_p s_p : Value) (h : Hp) (R : Value → Hp → Prop) (X : List PanicEntry → Hp → Prop) : Prop :=
 ∃ C0, cellsH (Array.push h (.cells (Value.cells s_p) 39 (0, 0))) ⟨Array.size h, 0, none⟩ 9 C0 ∧
 ∃ v1, cellH (Array.push h (.cells (Value.cells s_p) 39 (0, 0))) (Addr.add ⟨Array.size h, 0, none⟩ 6) = some v1 ∧
 CallX Tryz.prog ω 117 [(.agg C0.toArray)] (Array.push h (.cells (Value.cells s_p) 39 (0, 0))) (fun r2 h3 =>
 cellH h3 (Addr.add ⟨Array.size h, 0, none⟩ 6) = some v1 ∧ CallX Tryz.prog ω 118 [v1] h3 (fun r4 h5 =>
 oneK r2 (oneK r4 (CallX Tryz.prog ω 60 [p_p, (.slice (some ⟨Array.size h5, 0, none⟩) 2 2)] (Array.push h5 (.cells (List.toArray [r2, r4]) 9 (0, 0))) (fun r6 h7 =>
 ∃ v8, cellH h7 (Addr.add ⟨Array.size h, 0, none⟩ 0) = some v8 ∧
 CallX Tryz.prog ω 119 [v8] h7 (fun r9 h10 =>
 asT r9 fun T11 => asO T11[0]? fun v12 => asT r9 fun T13 => asO T13[1]? fun v14 => asA v12 fun A15 => A15.size = 7 ∧ (∀ u ∈ A15.toList, one u) ∧ storeK (Array.push h10 (.cells #[(.bool false), (.bool false), (.bool false), (.bool false), (.int .i64 0), (.bool false), (.bool false)] 165 (0, 0))) ⟨Array.size h10, 0, none⟩ A15.toList fun h16 =>
 ∃ v17, cellH h16 (Addr.add ⟨Array.size h10, 0, none⟩ 5) = some v17 ∧
 asB v17 fun b18 => cond (!b18)
 (∃ v19, cellH h16 (Addr.add ⟨Array.size h, 0, none⟩ 0) = some v19 ∧
 asK .i64 v19 fun n20 => ∃ J21 : Hp → Prop,
 (cond (n20 == (10 : Int))
 (CallX Tryz.prog ω 63 [p_p, (.slice (some ⟨Array.size h16, 0, none⟩) 1 1)] (Array.push h16 (.cells (List.toArray [(.string ⟨#[41]⟩)]) 9 (0, 0))) (fun r24 h25 =>
 J21 h25) X)
 (J21 h16)) ∧
 ∀  (d22 : Nat → Value) (h23 : Hp), J21 h23 →
 CallX Tryz.prog ω 63 [p_p, (.slice (some ⟨Array.size h23, 0, none⟩) 1 1)] (Array.push h23 (.cells (List.toArray [(.string ⟨#[59, 10]⟩)]) 9 (0, 0))) (fun r26 h27 =>
 R (.tuple #[]) h27) X)
 (∃ v28, cellH h16 (Addr.add ⟨Array.size h, 0, none⟩ 7) = some v28 ∧
 CallX Tryz.prog ω 62 [p_p, v28] h16 (fun r29 h30 =>
 ∃ v31, cellH h30 (Addr.add ⟨Array.size h, 0, none⟩ 8) = some v31 ∧
 asSl v31 fun a32 l33 c34 => ∃ J35 : Hp → Prop,
 (cond (decide (((l33 : Int) : Int) > 0))
 (CallX Tryz.prog ω 63 [p_p, (.slice (some ⟨Array.size h30, 0, none⟩) 1 1)] (Array.push h30 (.cells (List.toArray [(.string ⟨#[32, 101, 108, 115, 101]⟩)]) 9 (0, 0))) (fun r38 h39 =>
 ∃ v40, cellH h39 (Addr.add ⟨Array.size h, 0, none⟩ 8) = some v40 ∧
 CallX Tryz.prog ω 62 [p_p, v40] h39 (fun r41 h42 =>
 J35 h42) X) X)
 (J35 h30)) ∧
 ∀  (d36 : Nat → Value) (h37 : Hp), J35 h37 →
 CallX Tryz.prog ω 63 [p_p, (.slice (some ⟨Array.size h37, 0, none⟩) 1 1)] (Array.push h37 (.cells (List.toArray [(.string ⟨#[10]⟩)]) 9 (0, 0))) (fun r43 h44 =>
 R (.tuple #[]) h44) X) X)) X) X))) X) X
def A_p_render_page_stmt : Ann :=
 (.two .leaf (.two (.plan [0, 1, 3, 4, 2, 5, 6, 7]) (.two .leaf (.two (.two .leaf (.two (.two (.two .leaf (.join [26, 27, 28] [] (.two .leaf .leaf))) (.two .leaf .leaf)) .leaf)) (.two .leaf (.two (.two .leaf (.join [40, 41, 42, 43, 44, 45, 46] [] (.two (.two .leaf .leaf) .leaf))) .leaf))))))
theorem C_p_render_page_stmt (ω : Amb) (p_p s_p : Value) (h : Hp) (R : Value → Hp → Prop) (X : List PanicEntry → Hp → Prop) (hk : W_p_render_page_stmt ω p_p s_p h R X) : CallX Tryz.prog ω 91 [p_p, s_p] h R X :=
 callX_of (an := A_p_render_page_stmt) Tryz.func91 ((show fnX Tryz.prog ω A_p_render_page_stmt Tryz.f91 [p_p, s_p] h R X = W_p_render_page_stmt ω p_p s_p h R X by kernel_rfl) ▸ hk)

/-- pipewright/render.head -/
abbrev n_render_head : Nat := 117
def W_render_head (ω : Amb) (s_p : Value) (h : Hp) (R : Value → Hp → Prop) (X : List PanicEntry → Hp → Prop) : Prop :=
 ∃ v0, cellH (Array.push h (.cells (Value.cells s_p) 39 (0, 0))) (Addr.add ⟨Array.size h, 0, none⟩ 0) = some v0 ∧
 asK .i64 v0 fun n1 => cond (n1 == (1 : Int))
 (∃ v2, cellH (Array.push h (.cells (Value.cells s_p) 39 (0, 0))) (Addr.add ⟨Array.size h, 0, none⟩ 2) = some v2 ∧
 asS v2 fun s3 => ByteArray.size ⟨#[108, 101, 116, 32]⟩ + ByteArray.size s3 ≤ 9223372036854775807 ∧ ByteArray.size (⟨#[108, 101, 116, 32]⟩ ++ s3) + ByteArray.size ⟨#[32, 61, 32]⟩ ≤ 9223372036854775807 ∧ R (.string ((⟨#[108, 101, 116, 32]⟩ ++ s3) ++ ⟨#[32, 61, 32]⟩)) (Array.push h (.cells (Value.cells s_p) 39 (0, 0))))
 (asK .i64 v0 fun n4 => cond (n4 == (2 : Int))
 (∃ v5, cellH (Array.push h (.cells (Value.cells s_p) 39 (0, 0))) (Addr.add ⟨Array.size h, 0, none⟩ 2) = some v5 ∧
 asS v5 fun s6 => ByteArray.size ⟨#[115, 101, 116, 32]⟩ + ByteArray.size s6 ≤ 9223372036854775807 ∧ ByteArray.size (⟨#[115, 101, 116, 32]⟩ ++ s6) + ByteArray.size ⟨#[32, 61, 32]⟩ ≤ 9223372036854775807 ∧ R (.string ((⟨#[115, 101, 116, 32]⟩ ++ s6) ++ ⟨#[32, 61, 32]⟩)) (Array.push h (.cells (Value.cells s_p) 39 (0, 0))))
 (asK .i64 v0 fun n7 => cond (n7 == (3 : Int))
 (R (.string ⟨#[101, 109, 105, 116, 32]⟩) (Array.push h (.cells (Value.cells s_p) 39 (0, 0))))
 (asK .i64 v0 fun n8 => cond (n8 == (4 : Int))
 (∃ v9, cellH (Array.push h (.cells (Value.cells s_p) 39 (0, 0))) (Addr.add ⟨Array.size h, 0, none⟩ 2) = some v9 ∧
 asS v9 fun s10 => ByteArray.size ⟨#[99, 104, 97, 110, 32]⟩ + ByteArray.size s10 ≤ 9223372036854775807 ∧ ByteArray.size (⟨#[99, 104, 97, 110, 32]⟩ ++ s10) + ByteArray.size ⟨#[32]⟩ ≤ 9223372036854775807 ∧ ∃ v11, cellH (Array.push h (.cells (Value.cells s_p) 39 (0, 0))) (Addr.add ⟨Array.size h, 0, none⟩ 3) = some v11 ∧
 asS v11 fun s12 => ByteArray.size ((⟨#[99, 104, 97, 110, 32]⟩ ++ s10) ++ ⟨#[32]⟩) + ByteArray.size s12 ≤ 9223372036854775807 ∧ ByteArray.size (((⟨#[99, 104, 97, 110, 32]⟩ ++ s10) ++ ⟨#[32]⟩) ++ s12) + ByteArray.size ⟨#[32]⟩ ≤ 9223372036854775807 ∧ ∃ v13, cellH (Array.push h (.cells (Value.cells s_p) 39 (0, 0))) (Addr.add ⟨Array.size h, 0, none⟩ 4) = some v13 ∧
 ∃ v14, cellH (Array.push h (.cells (Value.cells s_p) 39 (0, 0))) (Addr.add ⟨Array.size h, 0, none⟩ 5) = some v14 ∧
 CallX Tryz.prog ω 59 [v13] (Array.push h (.cells (Value.cells s_p) 39 (0, 0))) (fun r15 h16 =>
 cellH h16 (Addr.add ⟨Array.size h, 0, none⟩ 5) = some v14 ∧ cellH h16 (Addr.add ⟨Array.size h, 0, none⟩ 3) = some v11 ∧ cellH h16 (Addr.add ⟨Array.size h, 0, none⟩ 2) = some v9 ∧ asS r15 fun s17 => ByteArray.size ((((⟨#[99, 104, 97, 110, 32]⟩ ++ s10) ++ ⟨#[32]⟩) ++ s12) ++ ⟨#[32]⟩) + ByteArray.size s17 ≤ 9223372036854775807 ∧ ByteArray.size (((((⟨#[99, 104, 97, 110, 32]⟩ ++ s10) ++ ⟨#[32]⟩) ++ s12) ++ ⟨#[32]⟩) ++ s17) + ByteArray.size ⟨#[32]⟩ ≤ 9223372036854775807 ∧ CallX Tryz.prog ω 106 [v14] h16 (fun r18 h19 =>
 cellH h19 (Addr.add ⟨Array.size h, 0, none⟩ 3) = some v11 ∧ cellH h19 (Addr.add ⟨Array.size h, 0, none⟩ 2) = some v9 ∧ asS r18 fun s20 => ByteArray.size ((((((⟨#[99, 104, 97, 110, 32]⟩ ++ s10) ++ ⟨#[32]⟩) ++ s12) ++ ⟨#[32]⟩) ++ s17) ++ ⟨#[32]⟩) + ByteArray.size s20 ≤ 9223372036854775807 ∧ R (.string (((((((⟨#[99, 104, 97, 110, 32]⟩ ++ s10) ++ ⟨#[32]⟩) ++ s12) ++ ⟨#[32]⟩) ++ s17) ++ ⟨#[32]⟩) ++ s20)) h19) X) X)
 (asK .i64 v0 fun n21 => cond (n21 == (5 : Int))
 (∃ v22, cellH (Array.push h (.cells (Value.cells s_p) 39 (0, 0))) (Addr.add ⟨Array.size h, 0, none⟩ 2) = some v22 ∧
 asS v22 fun s23 => ByteArray.size ⟨#[99, 108, 111, 110, 101, 32]⟩ + ByteArray.size s23 ≤ 9223372036854775807 ∧ ByteArray.size (⟨#[99, 108, 111, 110, 101, 32]⟩ ++ s23) + ByteArray.size ⟨#[32]⟩ ≤ 9223372036854775807 ∧ ∃ v24, cellH (Array.push h (.cells (Value.cells s_p) 39 (0, 0))) (Addr.add ⟨Array.size h, 0, none⟩ 3) = some v24 ∧
 asS v24 fun s25 => ByteArray.size ((⟨#[99, 108, 111, 110, 101, 32]⟩ ++ s23) ++ ⟨#[32]⟩) + ByteArray.size s25 ≤ 9223372036854775807 ∧ R (.string (((⟨#[99, 108, 111, 110, 101, 32]⟩ ++ s23) ++ ⟨#[32]⟩) ++ s25)) (Array.push h (.cells (Value.cells s_p) 39 (0, 0))))
 (asK .i64 v0 fun n26 => cond (n26 == (6 : Int))
 (∃ v27, cellH (Array.push h (.cells (Value.cells s_p) 39 (0, 0))) (Addr.add ⟨Array.size h, 0, none⟩ 2) = some v27 ∧
 asS v27 fun s28 => ByteArray.size ⟨#[115, 101, 110, 100, 32]⟩ + ByteArray.size s28 ≤ 9223372036854775807 ∧ ByteArray.size (⟨#[115, 101, 110, 100, 32]⟩ ++ s28) + ByteArray.size ⟨#[32]⟩ ≤ 9223372036854775807 ∧ R (.string ((⟨#[115, 101, 110, 100, 32]⟩ ++ s28) ++ ⟨#[32]⟩)) (Array.push h (.cells (Value.cells s_p) 39 (0, 0))))
 (asK .i64 v0 fun n29 => cond (n29 == (7 : Int))
 (∃ v30, cellH (Array.push h (.cells (Value.cells s_p) 39 (0, 0))) (Addr.add ⟨Array.size h, 0, none⟩ 2) = some v30 ∧
 asS v30 fun s31 => ByteArray.size ⟨#[99, 108, 111, 115, 101, 32]⟩ + ByteArray.size s31 ≤ 9223372036854775807 ∧ R (.string (⟨#[99, 108, 111, 115, 101, 32]⟩ ++ s31)) (Array.push h (.cells (Value.cells s_p) 39 (0, 0))))
 (asK .i64 v0 fun n32 => cond (n32 == (8 : Int))
 (∃ v33, cellH (Array.push h (.cells (Value.cells s_p) 39 (0, 0))) (Addr.add ⟨Array.size h, 0, none⟩ 2) = some v33 ∧
 asS v33 fun s34 => ByteArray.size ⟨#[97, 98, 97, 110, 100, 111, 110, 32]⟩ + ByteArray.size s34 ≤ 9223372036854775807 ∧ R (.string (⟨#[97, 98, 97, 110, 100, 111, 110, 32]⟩ ++ s34)) (Array.push h (.cells (Value.cells s_p) 39 (0, 0))))
 (asK .i64 v0 fun n35 => cond (n35 == (9 : Int))
 (∃ v36, cellH (Array.push h (.cells (Value.cells s_p) 39 (0, 0))) (Addr.add ⟨Array.size h, 0, none⟩ 2) = some v36 ∧
 asS v36 fun s37 => ByteArray.size ⟨#[100, 114, 97, 105, 110, 32]⟩ + ByteArray.size s37 ≤ 9223372036854775807 ∧ R (.string (⟨#[100, 114, 97, 105, 110, 32]⟩ ++ s37)) (Array.push h (.cells (Value.cells s_p) 39 (0, 0))))
 (asK .i64 v0 fun n38 => cond (n38 == (10 : Int))
 (∃ v39, cellH (Array.push h (.cells (Value.cells s_p) 39 (0, 0))) (Addr.add ⟨Array.size h, 0, none⟩ 2) = some v39 ∧
 asS v39 fun s40 => ByteArray.size ⟨#[115, 112, 97, 119, 110, 32]⟩ + ByteArray.size s40 ≤ 9223372036854775807 ∧ ByteArray.size (⟨#[115, 112, 97, 119, 110, 32]⟩ ++ s40) + ByteArray.size ⟨#[40]⟩ ≤ 9223372036854775807 ∧ R (.string ((⟨#[115, 112, 97, 119, 110, 32]⟩ ++ s40) ++ ⟨#[40]⟩)) (Array.push h (.cells (Value.cells s_p) 39 (0, 0))))
 (asK .i64 v0 fun n41 => cond (n41 == (11 : Int))
 (∃ v42, cellH (Array.push h (.cells (Value.cells s_p) 39 (0, 0))) (Addr.add ⟨Array.size h, 0, none⟩ 2) = some v42 ∧
 asS v42 fun s43 => ByteArray.size ⟨#[116, 97, 107, 101, 32]⟩ + ByteArray.size s43 ≤ 9223372036854775807 ∧ ByteArray.size (⟨#[116, 97, 107, 101, 32]⟩ ++ s43) + ByteArray.size ⟨#[32, 102, 114, 111, 109, 32]⟩ ≤ 9223372036854775807 ∧ ∃ v44, cellH (Array.push h (.cells (Value.cells s_p) 39 (0, 0))) (Addr.add ⟨Array.size h, 0, none⟩ 3) = some v44 ∧
 asS v44 fun s45 => ByteArray.size ((⟨#[116, 97, 107, 101, 32]⟩ ++ s43) ++ ⟨#[32, 102, 114, 111, 109, 32]⟩) + ByteArray.size s45 ≤ 9223372036854775807 ∧ R (.string (((⟨#[116, 97, 107, 101, 32]⟩ ++ s43) ++ ⟨#[32, 102, 114, 111, 109, 32]⟩) ++ s45)) (Array.push h (.cells (Value.cells s_p) 39 (0, 0))))
 (asK .i64 v0 fun n46 => cond (n46 == (12 : Int))
 (∃ v47, cellH (Array.push h (.cells (Value.cells s_p) 39 (0, 0))) (Addr.add ⟨Array.size h, 0, none⟩ 2) = some v47 ∧
 asS v47 fun s48 => ByteArray.size ⟨#[102, 111, 114, 32]⟩ + ByteArray.size s48 ≤ 9223372036854775807 ∧ ByteArray.size (⟨#[102, 111, 114, 32]⟩ ++ s48) + ByteArray.size ⟨#[32, 102, 114, 111, 109, 32]⟩ ≤ 9223372036854775807 ∧ ∃ v49, cellH (Array.push h (.cells (Value.cells s_p) 39 (0, 0))) (Addr.add ⟨Array.size h, 0, none⟩ 3) = some v49 ∧
 asS v49 fun s50 => ByteArray.size ((⟨#[102, 111, 114, 32]⟩ ++ s48) ++ ⟨#[32, 102, 114, 111, 109, 32]⟩) + ByteArray.size s50 ≤ 9223372036854775807 ∧ R (.string (((⟨#[102, 111, 114, 32]⟩ ++ s48) ++ ⟨#[32, 102, 114, 111, 109, 32]⟩) ++ s50)) (Array.push h (.cells (Value.cells s_p) 39 (0, 0))))
 (asK .i64 v0 fun n51 => cond (n51 == (13 : Int))
 (R (.string ⟨#[114, 101, 112, 101, 97, 116, 32]⟩) (Array.push h (.cells (Value.cells s_p) 39 (0, 0))))
 (R (.string ⟨#[105, 102, 32]⟩) (Array.push h (.cells (Value.cells s_p) 39 (0, 0))))))))))))))))
def A_render_head : Ann :=
 (.two .leaf (.two (.two .leaf (.one (.two .leaf (.two (.two .leaf .leaf) (.two .leaf (.two (.two .leaf .leaf) (.two .leaf (.two (.two .leaf .leaf) (.two .leaf (.two (.two (.plan [0, 1, 2, 3, 4, 5, 6, 7, 8, 9, 13, 14, 10, 11, 12, 15, 16, 17]) .leaf) (.two .leaf (.two (.two .leaf .leaf) (.two .leaf (.two (.two .leaf .leaf) (.two .leaf (.two (.two .leaf .leaf) (.two .leaf (.two (.two .leaf .leaf) (.two .leaf (.two (.two .leaf .leaf) (.two .leaf (.two (.two .leaf .leaf) (.two .leaf (.two (.two .leaf .leaf) (.two .leaf (.two (.two .leaf .leaf) (.two .leaf (.two (.two .leaf .leaf) .leaf)))))))))))))))))))))))))))) (.two .leaf .leaf)))
theorem C_render_head (ω : Amb) (s_p : Value) (h : Hp) (R : Value → Hp → Prop) (X : List PanicEntry → Hp → Prop) (hk : W_render_head ω s_p h R X) : CallX Tryz.prog ω 117 [s_p] h R X :=
 callX_of (an := A_render_head) Tryz.func117 ((show fnX Tryz.prog ω A_render_head Tryz.f117 [s_p] h R X = W_render_head ω s_p h R X by kernel_rfl) ▸ hk)

/-- pipewright/render.list -/
abbrev n_render_list : Nat := 118
def W_render_list (ω : Amb) (l_p : Value) (h : Hp) (R : Value → Hp → Prop) (X : List PanicEntry → Hp → Prop) : Prop :=
 asSl l_p fun a0 l1 c2 => ∃ (I3 : Value → Value → Hp → Prop) (μ4 : Value → Value → Hp → Nat), I3 (.slice none 0 0) (.int .i64 0) h ∧ ∀ out_5 t8_6 (d7 : Nat → Value) (h8 : Hp), I3 out_5 t8_6 h8 →
 asK .i64 t8_6 fun n9 => cond (decide ((n9 : Int) < (l1 : Int)))
 (asSl1 l_p fun a10 l11 c12 => asI t8_6 fun n13 => 0 ≤ (n13 : Int) ∧ n13 < (l11 : Int) ∧ ∃ C14, cellsH h8 (Addr.add a10 (Int.toNat n13 * 4)) 4 C14 ∧
 C14.toArray.size = 4 ∧ (∀ u ∈ C14.toArray.toList, one u) ∧ storeK (Array.push h8 (.cells #[(.int .i64 0), (.string ⟨#[]⟩), (.int .i64 0), (.slice none 0 0)] 36 (0, 0))) ⟨Array.size h8, 0, none⟩ C14.toArray.toList fun h15 =>
 ∃ C16, cellsH h15 ⟨Array.size h8, 0, none⟩ 4 C16 ∧
 CallX Tryz.prog ω 137 [(.agg C16.toArray)] h15 (fun r17 h18 =>
 oneK r17 (appK Tryz.prog 112 (Array.push h18 (.cells (List.toArray [r17]) 9 (0, 0))) out_5 (.slice (some ⟨Array.size h18, 0, none⟩) 1 1) fun w19 h20 =>
 asK .i64 t8_6 fun n21 => I3 w19 (.int .i64 (IntKind.wrap .i64 (n21 + 1))) h20 ∧ μ4 w19 (.int .i64 (IntKind.wrap .i64 (n21 + 1))) h20 < μ4 out_5 t8_6 h8)) X)
 (CallX Tryz.prog ω 61 [out_5, (.string ⟨#[44, 32]⟩)] h8 (fun r22 h23 =>
 R r22 h23) X)
def A_render_list : Ann :=
 (.two .leaf (.two .leaf (.two (.two .leaf (.one (.loop [9, 10, 11, 5, 12, 13, 14, 15, 16, 3, 17, 8] [3, 8] (.two .leaf (.two (.two .leaf .leaf) (.two (.one (.two .leaf .leaf)) .leaf)))))) (.two .leaf .leaf))))
theorem C_render_list (ω : Amb) (l_p : Value) (h : Hp) (R : Value → Hp → Prop) (X : List PanicEntry → Hp → Prop) (hk : W_render_list ω l_p h R X) : CallX Tryz.prog ω 118 [l_p] h R X :=
 callX_of (an := A_render_list) Tryz.func118 ((show fnX Tryz.prog ω A_render_list Tryz.f118 [l_p] h R X = W_render_list ω l_p h R X by kernel_rfl) ▸ hk)

/-- pipewright/render.expr -/
abbrev n_render_expr : Nat := 137
def W_render_expr (ω : Amb) (x_p : Value) (h : Hp) (R : Value → Hp → Prop) (X : List PanicEntry → Hp → Prop) : Prop :=
 ∃ v0, cellH (Array.push h (.cells (Value.cells x_p) 36 (0, 0))) (Addr.add ⟨Array.size h, 0, none⟩ 0) = some v0 ∧
 CallX Tryz.prog ω 153 [v0] (Array.push h (.cells (Value.cells x_p) 36 (0, 0))) (fun r1 h2 =>
 ∃ v3, cellH h2 (Addr.add ⟨Array.size h, 0, none⟩ 0) = some v3 ∧
 asK .i64 v3 fun n4 => cond (n4 == (1 : Int))
 (∃ v5, cellH h2 (Addr.add ⟨Array.size h, 0, none⟩ 2) = some v5 ∧
 CallX Tryz.prog ω 126 [v5, (.int .i64 10)] h2 (fun r6 h7 =>
 R r6 h7) X)
 (asK .i64 v3 fun n8 => cond (n8 == (2 : Int))
 (∃ v9, cellH h2 (Addr.add ⟨Array.size h, 0, none⟩ 1) = some v9 ∧
 R v9 h2)
 (asK .i64 v3 fun n10 => cond (n10 == (3 : Int))
 (∃ v11, cellH h2 (Addr.add ⟨Array.size h, 0, none⟩ 3) = some v11 ∧
 asSl1 v11 fun a12 l13 c14 => 0 ≤ (0 : Int) ∧ 0 < (l13 : Int) ∧ ∃ C15, cellsH h2 (Addr.add a12 (Int.toNat 0 * 4)) 4 C15 ∧
 CallX Tryz.prog ω 154 [(.agg C15.toArray), r1] h2 (fun r16 h17 =>
 asS r16 fun s18 => ByteArray.size ⟨#[45]⟩ + ByteArray.size s18 ≤ 9223372036854775807 ∧ R (.string (⟨#[45]⟩ ++ s18)) h17) X)
 (asK .i64 v3 fun n19 => cond (n19 == (7 : Int))
 (∃ v20, cellH h2 (Addr.add ⟨Array.size h, 0, none⟩ 3) = some v20 ∧
 asSl1 v20 fun a21 l22 c23 => 0 ≤ (0 : Int) ∧ 0 < (l22 : Int) ∧ ∃ C24, cellsH h2 (Addr.add a21 (Int.toNat 0 * 4)) 4 C24 ∧
 asK .i64 r1 fun n25 => ∃ v26, cellH h2 (Addr.add ⟨Array.size h, 0, none⟩ 3) = some v26 ∧
 asSl1 v26 fun a27 l28 c29 => 0 ≤ (1 : Int) ∧ 1 < (l28 : Int) ∧ ∃ C30, cellsH h2 (Addr.add a27 (Int.toNat 1 * 4)) 4 C30 ∧
 asK .i64 r1 fun n31 => CallX Tryz.prog ω 154 [(.agg C24.toArray), (.int .i64 (IntKind.wrap .i64 (n25 + 1)))] h2 (fun r32 h33 =>
 cellsH h33 (Addr.add a27 (Int.toNat 1 * 4)) 4 C30 ∧ cellH h33 (Addr.add ⟨Array.size h, 0, none⟩ 3) = some v26 ∧ asS r32 fun s34 => ByteArray.size s34 + ByteArray.size ⟨#[32, 60, 32]⟩ ≤ 9223372036854775807 ∧ CallX Tryz.prog ω 154 [(.agg C30.toArray), (.int .i64 (IntKind.wrap .i64 (n31 + 1)))] h33 (fun r35 h36 =>
 asS r35 fun s37 => ByteArray.size (s34 ++ ⟨#[32, 60, 32]⟩) + ByteArray.size s37 ≤ 9223372036854775807 ∧ R (.string ((s34 ++ ⟨#[32, 60, 32]⟩) ++ s37)) h36) X) X)
 (asK .i64 v3 fun n38 => cond (n38 == (8 : Int))
 (∃ v39, cellH h2 (Addr.add ⟨Array.size h, 0, none⟩ 3) = some v39 ∧
 asSl1 v39 fun a40 l41 c42 => 0 ≤ (0 : Int) ∧ 0 < (l41 : Int) ∧ ∃ C43, cellsH h2 (Addr.add a40 (Int.toNat 0 * 4)) 4 C43 ∧
 asK .i64 r1 fun n44 => ∃ v45, cellH h2 (Addr.add ⟨Array.size h, 0, none⟩ 3) = some v45 ∧
 asSl1 v45 fun a46 l47 c48 => 0 ≤ (1 : Int) ∧ 1 < (l47 : Int) ∧ ∃ C49, cellsH h2 (Addr.add a46 (Int.toNat 1 * 4)) 4 C49 ∧
 asK .i64 r1 fun n50 => CallX Tryz.prog ω 154 [(.agg C43.toArray), (.int .i64 (IntKind.wrap .i64 (n44 + 1)))] h2 (fun r51 h52 =>
 cellsH h52 (Addr.add a46 (Int.toNat 1 * 4)) 4 C49 ∧ cellH h52 (Addr.add ⟨Array.size h, 0, none⟩ 3) = some v45 ∧ asS r51 fun s53 => ByteArray.size s53 + ByteArray.size ⟨#[32, 61, 61, 32]⟩ ≤ 9223372036854775807 ∧ CallX Tryz.prog ω 154 [(.agg C49.toArray), (.int .i64 (IntKind.wrap .i64 (n50 + 1)))] h52 (fun r54 h55 =>
 asS r54 fun s56 => ByteArray.size (s53 ++ ⟨#[32, 61, 61, 32]⟩) + ByteArray.size s56 ≤ 9223372036854775807 ∧ R (.string ((s53 ++ ⟨#[32, 61, 61, 32]⟩) ++ s56)) h55) X) X)
 (∃ v57, cellH h2 (Addr.add ⟨Array.size h, 0, none⟩ 0) = some v57 ∧
 asK .i64 v57 fun n58 => 0 ≤ ((IntKind.wrap .i64 (n58 - 4)) : Int) ∧ (IntKind.wrap .i64 (n58 - 4)) < ((3 : Nat) : Int) ∧ asO (#[(.string ⟨#[32, 43, 32]⟩), (.string ⟨#[32, 45, 32]⟩), (.string ⟨#[32, 42, 32]⟩)])[Int.toNat (IntKind.wrap .i64 (n58 - 4)) * 1]? fun v59 => ∃ v60, cellH h2 (Addr.add ⟨Array.size h, 0, none⟩ 3) = some v60 ∧
 asSl1 v60 fun a61 l62 c63 => 0 ≤ (0 : Int) ∧ 0 < (l62 : Int) ∧ ∃ C64, cellsH h2 (Addr.add a61 (Int.toNat 0 * 4)) 4 C64 ∧
 ∃ v65, cellH h2 (Addr.add ⟨Array.size h, 0, none⟩ 3) = some v65 ∧
 asSl1 v65 fun a66 l67 c68 => 0 ≤ (1 : Int) ∧ 1 < (l67 : Int) ∧ ∃ C69, cellsH h2 (Addr.add a66 (Int.toNat 1 * 4)) 4 C69 ∧
 asK .i64 r1 fun n70 => CallX Tryz.prog ω 154 [(.agg C64.toArray), r1] h2 (fun r71 h72 =>
 cellsH h72 (Addr.add a66 (Int.toNat 1 * 4)) 4 C69 ∧ cellH h72 (Addr.add ⟨Array.size h, 0, none⟩ 3) = some v65 ∧ asS r71 fun s73 => asS v59 fun s74 => ByteArray.size s73 + ByteArray.size s74 ≤ 9223372036854775807 ∧ CallX Tryz.prog ω 154 [(.agg C69.toArray), (.int .i64 (IntKind.wrap .i64 (n70 + 1)))] h72 (fun r75 h76 =>
 asS r75 fun s77 => ByteArray.size (s73 ++ s74) + ByteArray.size s77 ≤ 9223372036854775807 ∧ R (.string ((s73 ++ s74) ++ s77)) h76) X) X)))))) X
def A_render_expr : Ann :=
 (.two .leaf (.two .leaf (.two (.two .leaf (.one (.two .leaf (.two (.two .leaf .leaf) (.two .leaf (.two (.two .leaf .leaf) (.two .leaf (.two (.two .leaf .leaf) (.two .leaf (.two (.two (.plan [0, 1, 2, 3, 4, 5, 8, 9, 10, 11, 12, 13, 6, 7, 14, 15, 16]) .leaf) (.two .leaf (.two (.two (.plan [0, 1, 2, 3, 4, 5, 8, 9, 10, 11, 12, 13, 6, 7, 14, 15, 16]) .leaf) .leaf)))))))))))) (.two .leaf (.two (.plan [0, 1, 2, 3, 4, 6, 8, 9, 10, 11, 12, 13, 5, 7, 14, 15, 16]) .leaf)))))
theorem C_render_expr (ω : Amb) (x_p : Value) (h : Hp) (R : Value → Hp → Prop) (X : List PanicEntry → Hp → Prop) (hk : W_render_expr ω x_p h R X) : CallX Tryz.prog ω 137 [x_p] h R X :=
 callX_of (an := A_render_expr) Tryz.func137 ((show fnX Tryz.prog ω A_render_expr Tryz.f137 [x_p] h R X = W_render_expr ω x_p h R X by kernel_rfl) ▸ hk)

/-- pipewright/render.rank -/
abbrev n_render_rank : Nat := 153
def W_render_rank (ω : Amb) (op_p : Value) (h : Hp) (R : Value → Hp → Prop) (X : List PanicEntry → Hp → Prop) : Prop :=
 asK .i64 op_p fun n0 => ∃ J1 : Value → Hp → Prop,
 (cond (n0 == (7 : Int))
 (J1 (.bool (n0 == (7 : Int))) h)
 (asK .i64 op_p fun n5 => J1 (.bool (n5 == (8 : Int))) h)) ∧
 ∀ t4_2 (d3 : Nat → Value) (h4 : Hp), J1 t4_2 h4 →
 asB t4_2 fun b6 => cond b6
 (R (.int .i64 1) h4)
 (asK .i64 op_p fun n7 => ∃ J8 : Value → Hp → Prop,
 (cond (n7 == (4 : Int))
 (J8 (.bool (n7 == (4 : Int))) h4)
 (asK .i64 op_p fun n12 => J8 (.bool (n12 == (5 : Int))) h4)) ∧
 ∀ t7_9 (d10 : Nat → Value) (h11 : Hp), J8 t7_9 h11 →
 asB t7_9 fun b13 => cond b13
 (R (.int .i64 2) h11)
 (asK .i64 op_p fun n14 => cond (n14 == (6 : Int))
 (R (.int .i64 3) h11)
 (asK .i64 op_p fun n15 => cond (n15 == (3 : Int))
 (R (.int .i64 4) h11)
 (R (.int .i64 5) h11))))
def A_render_rank : Ann :=
 (.two .leaf (.two (.two .leaf (.one (.two (.two .leaf (.join [6, 4] [4] (.two .leaf .leaf))) (.two (.two .leaf .leaf) (.two (.two .leaf (.join [9, 7] [7] (.two .leaf .leaf))) (.two (.two .leaf .leaf) (.two .leaf (.two (.two .leaf .leaf) (.two .leaf (.two (.two .leaf .leaf) .leaf)))))))))) (.two .leaf .leaf)))
theorem C_render_rank (ω : Amb) (op_p : Value) (h : Hp) (R : Value → Hp → Prop) (X : List PanicEntry → Hp → Prop) (hk : W_render_rank ω op_p h R X) : CallX Tryz.prog ω 153 [op_p] h R X :=
 callX_of (an := A_render_rank) Tryz.func153 ((show fnX Tryz.prog ω A_render_rank Tryz.f153 [op_p] h R X = W_render_rank ω op_p h R X by kernel_rfl) ▸ hk)

/-- pipewright/render.at -/
abbrev n_render_at : Nat := 154
def W_render_at (ω : Amb) (x_p least_p : Value) (h : Hp) (R : Value → Hp → Prop) (X : List PanicEntry → Hp → Prop) : Prop :=
 ∃ C0, cellsH (Array.push h (.cells (Value.cells x_p) 36 (0, 0))) ⟨Array.size h, 0, none⟩ 4 C0 ∧
 CallX Tryz.prog ω 137 [(.agg C0.toArray)] (Array.push h (.cells (Value.cells x_p) 36 (0, 0))) (fun r1 h2 =>
 ∃ v3, cellH h2 (Addr.add ⟨Array.size h, 0, none⟩ 0) = some v3 ∧
 CallX Tryz.prog ω 153 [v3] h2 (fun r4 h5 =>
 asK .i64 r4 fun n6 => asK .i64 least_p fun n7 => cond (decide ((n6 : Int) < n7))
 (asS r1 fun s8 => ByteArray.size ⟨#[40]⟩ + ByteArray.size s8 ≤ 9223372036854775807 ∧ ByteArray.size (⟨#[40]⟩ ++ s8) + ByteArray.size ⟨#[41]⟩ ≤ 9223372036854775807 ∧ R (.string ((⟨#[40]⟩ ++ s8) ++ ⟨#[41]⟩)) h5)
 (R r1 h5)) X) X
def A_render_at : Ann :=
 (.two .leaf (.two .leaf (.two (.two .leaf (.two (.two .leaf .leaf) .leaf)) (.two .leaf .leaf))))
theorem C_render_at (ω : Amb) (x_p least_p : Value) (h : Hp) (R : Value → Hp → Prop) (X : List PanicEntry → Hp → Prop) (hk : W_render_at ω x_p least_p h R X) : CallX Tryz.prog ω 154 [x_p, least_p] h R X :=
 callX_of (an := A_render_at) Tryz.func154 ((show fnX Tryz.prog ω A_render_at Tryz.f154 [x_p, least_p] h R X = W_render_at ω x_p least_p h R X by kernel_rfl) ▸ hk)

end Go.Proofs.YtkeeboomikkojaaGreatDoor.Sx
