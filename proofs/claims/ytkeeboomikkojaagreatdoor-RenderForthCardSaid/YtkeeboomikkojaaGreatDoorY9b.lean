/- Formulas of the functions' texts, written by a program of ours; each is checked by the kernel. -/
import Derived.Test.YtkeeboomikkojaaGreatDoorSxCore
import Derived.KernelRfl
import Derived.Test.YtkeeboomikkojaaGreatDoorProg
set_option linter.unusedVariables false
set_option maxRecDepth 100000
namespace Go.Proofs.YtkeeboomikkojaaGreatDoor.Sx
open Go Go.Sx Go.Proofs

/-- pipewright/render.Check -/
abbrev n_render_Check : Nat := 16
def W_render_Check (ω : Amb) (p_p : Value) (h : Hp) (R : Value → Hp → Prop) (X : List PanicEntry → Hp → Prop) : Prop :=
 ∃ C0, cellsH (Array.push (Array.push h (.cells (Value.cells p_p) 24 (0, 0))) (.cells #[(.int .i64 0), (.int .i64 0)] 28 (0, 0))) ⟨Array.size h, 0, none⟩ 1 C0 ∧
 CallX Tryz.prog ω 35 [(.agg C0.toArray)] (Array.push (Array.push h (.cells (Value.cells p_p) 24 (0, 0))) (.cells #[(.int .i64 0), (.int .i64 0)] 28 (0, 0))) (fun r1 h2 =>
 asA r1 fun A3 => A3.size = 2 ∧ (∀ u ∈ A3.toList, one u) ∧ storeK (Array.push h2 (.cells #[(.int .i64 0), (.int .i64 0)] 28 (0, 0))) ⟨Array.size h2, 0, none⟩ A3.toList fun h4 =>
 ∃ J5 : Value → Hp → Prop,
 (∃ v9, cellH h4 (Addr.add ⟨Array.size h2, 0, none⟩ 0) = some v9 ∧
 asK .i64 v9 fun n10 => cond (n10 == (0 : Int))
 (∃ C11, cellsH h4 ⟨Array.size h, 0, none⟩ 1 C11 ∧
 CallX Tryz.prog ω 34 [(.agg C11.toArray)] h4 (fun r12 h13 =>
 asS r12 fun s14 => J5 (.bool (decide (((ByteArray.size s14 : Int) : Int) > 12000))) h13) X)
 (J5 (.bool false) h4)) ∧
 ∀ t14_6 (d7 : Nat → Value) (h8 : Hp), J5 t14_6 h8 →
 ∃ J15 : Hp → Prop,
 (asB t14_6 fun b18 => cond b18
 (2 = 2 ∧ (∀ u ∈ [(.int .i64 1), (.int .i64 (-1))], one u) ∧ storeK h8 ⟨Array.size h2, 0, none⟩ [(.int .i64 1), (.int .i64 (-1))] fun h19 =>
 J15 h19)
 (J15 h8)) ∧
 ∀  (d16 : Nat → Value) (h17 : Hp), J15 h17 →
 ∃ C20, cellsH h17 ⟨Array.size h2, 0, none⟩ 2 C20 ∧
 C20.toArray.size = 2 ∧ (∀ u ∈ C20.toArray.toList, one u) ∧ storeK h17 ⟨Array.size (Array.push h (.cells (Value.cells p_p) 24 (0, 0))), 0, none⟩ C20.toArray.toList fun h21 =>
 ∃ C22, cellsH h21 ⟨Array.size (Array.push h (.cells (Value.cells p_p) 24 (0, 0))), 0, none⟩ 2 C22 ∧ R (.agg C22.toArray) h21) X
def A_render_Check : Ann :=
 (.two .leaf (.two .leaf (.two (.two (.join [6, 7, 8, 9, 10, 11, 12, 13, 14] [14] .leaf) (.join [15] [] (.two .leaf .leaf))) (.two .leaf .leaf))))
theorem C_render_Check (ω : Amb) (p_p : Value) (h : Hp) (R : Value → Hp → Prop) (X : List PanicEntry → Hp → Prop) (hk : W_render_Check ω p_p h R X) : CallX Tryz.prog ω 16 [p_p] h R X :=
 callX_of (an := A_render_Check) Tryz.func16 ((show fnX Tryz.prog ω A_render_Check Tryz.f16 [p_p] h R X = W_render_Check ω p_p h R X by kernel_rfl) ▸ hk)

/-- pipewright/render.check -/
abbrev n_render_check : Nat := 35
def W_render_check (ω : Amb) (p_p : Value) (h : Hp) (R : Value → Hp → Prop) (X : List PanicEntry → Hp → Prop) : Prop :=
 ∃ v0, cellH (Array.push (Array.push (Array.push h (.cells (Value.cells p_p) 24 (0, 0))) (.cells #[(.int .i64 0), (.int .i64 0)] 28 (0, 0))) (.cells #[(.int .i64 0), (.int .i64 0), (.int .i64 0)] 116 (0, 0))) (Addr.add ⟨Array.size h, 0, none⟩ 0) = some v0 ∧
 asSl v0 fun a1 l2 c3 => ∃ J4 : Hp → Prop,
 (cond ((l2 : Int) == (0 : Int))
 (CallX Tryz.prog ω 65 [(.pointer (some ⟨Array.size (Array.push (Array.push h (.cells (Value.cells p_p) 24 (0, 0))) (.cells #[(.int .i64 0), (.int .i64 0)] 28 (0, 0))), 0, none⟩)), (.int .i64 10), (.int .i64 (-1))] (Array.push (Array.push (Array.push h (.cells (Value.cells p_p) 24 (0, 0))) (.cells #[(.int .i64 0), (.int .i64 0)] 28 (0, 0))) (.cells #[(.int .i64 0), (.int .i64 0), (.int .i64 0)] 116 (0, 0))) (fun r7 h8 =>
 J4 h8) X)
 (J4 (Array.push (Array.push (Array.push h (.cells (Value.cells p_p) 24 (0, 0))) (.cells #[(.int .i64 0), (.int .i64 0)] 28 (0, 0))) (.cells #[(.int .i64 0), (.int .i64 0), (.int .i64 0)] 116 (0, 0))))) ∧
 ∀  (d5 : Nat → Value) (h6 : Hp), J4 h6 →
 ∃ v9, cellH h6 (Addr.add ⟨Array.size h, 0, none⟩ 0) = some v9 ∧
 asSl v9 fun a10 l11 c12 => ∃ J13 : Hp → Prop,
 (cond (decide (((l11 : Int) : Int) > 10))
 (CallX Tryz.prog ω 65 [(.pointer (some ⟨Array.size (Array.push (Array.push h (.cells (Value.cells p_p) 24 (0, 0))) (.cells #[(.int .i64 0), (.int .i64 0)] 28 (0, 0))), 0, none⟩)), (.int .i64 8), (.int .i64 (-1))] h6 (fun r16 h17 =>
 J13 h17) X)
 (J13 h6)) ∧
 ∀  (d14 : Nat → Value) (h15 : Hp), J13 h15 →
 ∃ (I18 : Value → Hp → Prop) (μ19 : Value → Hp → Nat), I18 (.int .i64 0) h15 ∧ ∀ i_20 (d21 : Nat → Value) (h22 : Hp), I18 i_20 h22 →
 ∃ β23 : Bool,
 (∃ v25, cellH h22 (Addr.add ⟨Array.size h, 0, none⟩ 0) = some v25 ∧
 asSl v25 fun a26 l27 c28 => asK .i64 i_20 fun n29 => cond (decide ((n29 : Int) < (l27 : Int)))
 (∃ v30, cellH h22 (Addr.add (Addr.add ⟨Array.size (Array.push (Array.push h (.cells (Value.cells p_p) 24 (0, 0))) (.cells #[(.int .i64 0), (.int .i64 0)] 28 (0, 0))), 0, none⟩ 1) 0) = some v30 ∧
 asK .i64 v30 fun n31 => ((.bool (n31 == (0 : Int))) : Value) = .bool β23 ∧ h22 = h22)
 (((.bool false) : Value) = .bool β23 ∧ h22 = h22)) ∧
 ∀ d24 : Nat → Value,
 cond β23
 (∃ v32, cellH h22 (Addr.add ⟨Array.size h, 0, none⟩ 0) = some v32 ∧
 asSl1 v32 fun a33 l34 c35 => asI i_20 fun n36 => 0 ≤ (n36 : Int) ∧ n36 < (l34 : Int) ∧ ∃ C37, cellsH h22 (Addr.add a33 (Int.toNat n36 * 4)) 4 C37 ∧
 asK .i64 i_20 fun n38 => CallX Tryz.prog ω 66 [(.pointer (some ⟨Array.size (Array.push (Array.push h (.cells (Value.cells p_p) 24 (0, 0))) (.cells #[(.int .i64 0), (.int .i64 0)] 28 (0, 0))), 0, none⟩)), (.agg C37.toArray), (.int .i64 (IntKind.wrap .i64 ((-2) - n38)))] h22 (fun r39 h40 =>
 asK .i64 i_20 fun n41 => I18 (.int .i64 (IntKind.wrap .i64 (n41 + 1))) h40 ∧ μ19 (.int .i64 (IntKind.wrap .i64 (n41 + 1))) h40 < μ19 i_20 h22) X)
 (∃ C42, cellsH h22 (Addr.add ⟨Array.size (Array.push (Array.push h (.cells (Value.cells p_p) 24 (0, 0))) (.cells #[(.int .i64 0), (.int .i64 0)] 28 (0, 0))), 0, none⟩ 1) 2 C42 ∧
 C42.toArray.size = 2 ∧ (∀ u ∈ C42.toArray.toList, one u) ∧ storeK h22 ⟨Array.size (Array.push h (.cells (Value.cells p_p) 24 (0, 0))), 0, none⟩ C42.toArray.toList fun h43 =>
 ∃ C44, cellsH h43 ⟨Array.size (Array.push h (.cells (Value.cells p_p) 24 (0, 0))), 0, none⟩ 2 C44 ∧ R (.agg C44.toArray) h43)
def A_render_check : Ann :=
 (.two .leaf (.two .leaf (.two (.two .leaf (.join [11, 12] [] (.two .leaf .leaf))) (.two (.two .leaf (.join [17, 18] [] (.two .leaf .leaf))) (.two (.two .leaf (.one (.loop [19, 20, 21, 22, 23, 24, 25, 26, 27, 28, 29, 30, 31, 34, 35, 36, 37, 38, 39, 40, 41, 42, 32, 33, 4] [4] (.two (.two (.jb [19, 20, 21, 22, 23, 24, 25, 26, 27, 28, 29, 30, 31] 31 .leaf) (.two .leaf .leaf)) (.two (.one .leaf) .leaf))))) (.two .leaf .leaf))))))
theorem C_render_check (ω : Amb) (p_p : Value) (h : Hp) (R : Value → Hp → Prop) (X : List PanicEntry → Hp → Prop) (hk : W_render_check ω p_p h R X) : CallX Tryz.prog ω 35 [p_p] h R X :=
 callX_of (an := A_render_check) Tryz.func35 ((show fnX Tryz.prog ω A_render_check Tryz.f35 [p_p] h R X = W_render_check ω p_p h R X by kernel_rfl) ▸ hk)

/-- (*pipewright/render.walker).fail -/
abbrev n_p_render_walker_fail : Nat := 65
def W_p_render_walker_fail (ω : Amb) (w_p code_p at_p : Value) (h : Hp) (R : Value → Hp → Prop) (X : List PanicEntry → Hp → Prop) : Prop :=
 nnK w_p (asP w_p fun p0 =>
 ∃ v1, cellH h (Addr.add (Addr.add p0 1) 0) = some v1 ∧
 asK .i64 v1 fun n2 => ∃ J3 : Hp → Prop,
 (cond (n2 == (0 : Int))
 (oneK code_p (oneK at_p (nnK w_p (asP w_p fun p6 =>
 2 = 2 ∧ (∀ u ∈ [code_p, at_p], one u) ∧ storeK h (Addr.add p6 1) [code_p, at_p] fun h7 =>
 J3 h7))))
 (J3 h)) ∧
 ∀  (d4 : Nat → Value) (h5 : Hp), J3 h5 →
 R (.tuple #[]) h5)
def A_p_render_walker_fail : Ann :=
 (.two .leaf (.join [12, 13, 14, 15, 16, 17] [] (.two .leaf .leaf)))
theorem C_p_render_walker_fail (ω : Amb) (w_p code_p at_p : Value) (h : Hp) (R : Value → Hp → Prop) (X : List PanicEntry → Hp → Prop) (hk : W_p_render_walker_fail ω w_p code_p at_p h R X) : CallX Tryz.prog ω 65 [w_p, code_p, at_p] h R X :=
 callX_of (an := A_p_render_walker_fail) Tryz.func65 ((show fnX Tryz.prog ω A_p_render_walker_fail Tryz.f65 [w_p, code_p, at_p] h R X = W_p_render_walker_fail ω w_p code_p at_p h R X by kernel_rfl) ▸ hk)

/-- (*pipewright/render.walker).stage -/
abbrev n_p_render_walker_stage : Nat := 66
def W_p_render_walker_stage (ω : Amb) (w_p s_p at_p : Value) (h : Hp) (R : Value → Hp → Prop) (X : List PanicEntry → Hp → Prop) : Prop :=
 ∃ v0, cellH (Array.push h (.cells (Value.cells s_p) 41 (0, 0))) (Addr.add ⟨Array.size h, 0, none⟩ 0) = some v0 ∧
 CallX Tryz.prog ω 92 [v0] (Array.push h (.cells (Value.cells s_p) 41 (0, 0))) (fun r1 h2 =>
 asB r1 fun b3 => ∃ J4 : Hp → Prop,
 (cond (!b3)
 (CallX Tryz.prog ω 65 [w_p, (.int .i64 4), at_p] h2 (fun r7 h8 =>
 J4 h8) X)
 (J4 h2)) ∧
 ∀  (d5 : Nat → Value) (h6 : Hp), J4 h6 →
 ∃ v9, cellH h6 (Addr.add ⟨Array.size h, 0, none⟩ 2) = some v9 ∧
 asSl v9 fun a10 l11 c12 => ∃ J13 : Hp → Prop,
 (cond (decide (((l11 : Int) : Int) > 6))
 (CallX Tryz.prog ω 65 [w_p, (.int .i64 8), at_p] h6 (fun r16 h17 =>
 J13 h17) X)
 (J13 h6)) ∧
 ∀  (d14 : Nat → Value) (h15 : Hp), J13 h15 →
 ∃ (I18 : Value → Hp → Prop) (μ19 : Value → Hp → Nat), I18 (.int .i64 0) h15 ∧ ∀ i_20 (d21 : Nat → Value) (h22 : Hp), I18 i_20 h22 →
 ∃ β23 : Bool,
 (∃ v25, cellH h22 (Addr.add ⟨Array.size h, 0, none⟩ 2) = some v25 ∧
 asSl v25 fun a26 l27 c28 => asK .i64 i_20 fun n29 => cond (decide ((n29 : Int) < (l27 : Int)))
 (nnK w_p (asP w_p fun p30 =>
 ∃ v31, cellH h22 (Addr.add (Addr.add p30 1) 0) = some v31 ∧
 asK .i64 v31 fun n32 => ((.bool (n32 == (0 : Int))) : Value) = .bool β23 ∧ h22 = h22))
 (((.bool false) : Value) = .bool β23 ∧ h22 = h22)) ∧
 ∀ d24 : Nat → Value,
 cond β23
 (∃ J33 : Hp → Prop,
 (∃ v36, cellH h22 (Addr.add ⟨Array.size h, 0, none⟩ 2) = some v36 ∧
 asSl1 v36 fun a37 l38 c39 => asI i_20 fun n40 => 0 ≤ (n40 : Int) ∧ n40 < (l38 : Int) ∧ ∃ v41, cellH h22 (Addr.add (Addr.add a37 (Int.toNat n40 * 2)) 0) = some v41 ∧
 CallX Tryz.prog ω 92 [v41] h22 (fun r42 h43 =>
 asB r42 fun b44 => ∃ J45 : Hp → Prop,
 (cond (!b44)
 (CallX Tryz.prog ω 65 [w_p, (.int .i64 4), at_p] h43 (fun r48 h49 =>
 J45 h49) X)
 (J45 h43)) ∧
 ∀  (d46 : Nat → Value) (h47 : Hp), J45 h47 →
 ∃ v50, cellH h47 (Addr.add ⟨Array.size h, 0, none⟩ 2) = some v50 ∧
 asSl1 v50 fun a51 l52 c53 => asI i_20 fun n54 => 0 ≤ (n54 : Int) ∧ n54 < (l52 : Int) ∧ ∃ v55, cellH h47 (Addr.add (Addr.add a51 (Int.toNat n54 * 2)) 1) = some v55 ∧
 CallX Tryz.prog ω 28 [v55, (.int .i64 3)] h47 (fun r56 h57 =>
 asB r56 fun b58 => ∃ J59 : Hp → Prop,
 (cond (!b58)
 (CallX Tryz.prog ω 65 [w_p, (.int .i64 11), at_p] h57 (fun r62 h63 =>
 J59 h63) X)
 (J59 h57)) ∧
 ∀  (d60 : Nat → Value) (h61 : Hp), J59 h61 →
 J33 h61) X) X) ∧
 ∀  (d34 : Nat → Value) (h35 : Hp), J33 h35 →
 asK .i64 i_20 fun n64 => I18 (.int .i64 (IntKind.wrap .i64 (n64 + 1))) h35 ∧ μ19 (.int .i64 (IntKind.wrap .i64 (n64 + 1))) h35 < μ19 i_20 h22)
 (∃ v65, cellH h22 (Addr.add ⟨Array.size h, 0, none⟩ 3) = some v65 ∧
 CallX Tryz.prog ω 93 [w_p, v65, (.int .i64 1)] h22 (fun r66 h67 =>
 R (.tuple #[]) h67) X)) X
def A_p_render_walker_stage : Ann :=
 (.two .leaf (.two (.two .leaf (.join [11, 12, 13] [] (.two .leaf .leaf))) (.two (.two .leaf (.join [18, 19, 20] [] (.two .leaf .leaf))) (.two (.two .leaf (.one (.loop [21, 22, 23, 24, 25, 26, 27, 28, 29, 30, 31, 32, 33, 36, 37, 38, 39, 40, 41, 42, 43, 44, 45, 46, 47, 48, 49, 50, 51, 52, 53, 54, 55, 56, 57, 34, 35, 6] [6] (.two (.two (.jb [21, 22, 23, 24, 25, 26, 27, 28, 29, 30, 31, 32, 33] 33 .leaf) (.two .leaf .leaf)) (.two (.join [36, 37, 38, 39, 40, 41, 42, 43, 44, 45, 46, 47, 48, 49, 50, 51, 52, 53, 54, 55, 56, 57] [] (.one (.two (.two .leaf (.join [44, 45, 46] [] (.two .leaf .leaf))) (.two .leaf (.join [55, 56, 57] [] (.two .leaf .leaf)))))) .leaf))))) .leaf))))
theorem C_p_render_walker_stage (ω : Amb) (w_p s_p at_p : Value) (h : Hp) (R : Value → Hp → Prop) (X : List PanicEntry → Hp → Prop) (hk : W_p_render_walker_stage ω w_p s_p at_p h R X) : CallX Tryz.prog ω 66 [w_p, s_p, at_p] h R X :=
 callX_of (an := A_p_render_walker_stage) Tryz.func66 ((show fnX Tryz.prog ω A_p_render_walker_stage Tryz.f66 [w_p, s_p, at_p] h R X = W_p_render_walker_stage ω w_p s_p at_p h R X by kernel_rfl) ▸ hk)

/-- (*pipewright/render.walker).stmts -/
abbrev n_p_render_walker_stmts : Nat := 93
def W_p_render_walker_stmts (ω : Amb) (w_p l_p deep_p : Value) (h : Hp) (R : Value → Hp → Prop) (X : List PanicEntry → Hp → Prop) : Prop :=
 ∃ (I0 : Value → Hp → Prop) (μ1 : Value → Hp → Nat), I0 (.int .i64 0) h ∧ ∀ i_2 (d3 : Nat → Value) (h4 : Hp), I0 i_2 h4 →
 ∃ β5 : Bool,
 (asSl l_p fun a7 l8 c9 => asK .i64 i_2 fun n10 => cond (decide ((n10 : Int) < (l8 : Int)))
 (nnK w_p (asP w_p fun p11 =>
 ∃ v12, cellH h4 (Addr.add (Addr.add p11 1) 0) = some v12 ∧
 asK .i64 v12 fun n13 => ((.bool (n13 == (0 : Int))) : Value) = .bool β5 ∧ h4 = h4))
 (((.bool false) : Value) = .bool β5 ∧ h4 = h4)) ∧
 ∀ d6 : Nat → Value,
 cond β5
 (asSl1 l_p fun a14 l15 c16 => asI i_2 fun n17 => 0 ≤ (n17 : Int) ∧ n17 < (l15 : Int) ∧ ∃ C18, cellsH h4 (Addr.add a14 (Int.toNat n17 * 9)) 9 C18 ∧
 CallX Tryz.prog ω 120 [w_p, (.agg C18.toArray), deep_p] h4 (fun r19 h20 =>
 asK .i64 i_2 fun n21 => I0 (.int .i64 (IntKind.wrap .i64 (n21 + 1))) h20 ∧ μ1 (.int .i64 (IntKind.wrap .i64 (n21 + 1))) h20 < μ1 i_2 h4) X)
 (R (.tuple #[]) h4)
def A_p_render_walker_stmts : Ann :=
 (.two .leaf (.one (.loop [7, 8, 9, 10, 11, 12, 13, 14, 15, 16, 17, 18, 21, 22, 23, 24, 25, 26, 27, 19, 20, 6] [6] (.two (.two (.jb [7, 8, 9, 10, 11, 12, 13, 14, 15, 16, 17, 18] 18 .leaf) (.two .leaf .leaf)) (.two (.one .leaf) .leaf)))))
theorem C_p_render_walker_stmts (ω : Amb) (w_p l_p deep_p : Value) (h : Hp) (R : Value → Hp → Prop) (X : List PanicEntry → Hp → Prop) (hk : W_p_render_walker_stmts ω w_p l_p deep_p h R X) : CallX Tryz.prog ω 93 [w_p, l_p, deep_p] h R X :=
 callX_of (an := A_p_render_walker_stmts) Tryz.func93 ((show fnX Tryz.prog ω A_p_render_walker_stmts Tryz.f93 [w_p, l_p, deep_p] h R X = W_p_render_walker_stmts ω w_p l_p deep_p h R X by kernel_rfl) ▸ hk)

/-- pipewright/render.has -/
abbrev n_render_has : Nat := 119
def W_render_has (ω : Amb) (do_p : Value) (h : Hp) (R : Value → Hp → Prop) (X : List PanicEntry → Hp → Prop) : Prop :=
 asK .i64 do_p fun n0 => ∃ J1 : Value → Hp → Prop,
 (cond (n0 == (1 : Int))
 (J1 (.bool (n0 == (1 : Int))) (Array.push h (.cells #[(.bool false), (.bool false), (.bool false), (.bool false), (.int .i64 0), (.bool false), (.bool false)] 165 (0, 0))))
 (asK .i64 do_p fun n5 => ∃ J6 : Value → Hp → Prop,
 (cond (n5 == (2 : Int))
 (J6 (.bool (n5 == (2 : Int))) (Array.push h (.cells #[(.bool false), (.bool false), (.bool false), (.bool false), (.int .i64 0), (.bool false), (.bool false)] 165 (0, 0))))
 (asK .i64 do_p fun n10 => J6 (.bool (n10 == (6 : Int))) (Array.push h (.cells #[(.bool false), (.bool false), (.bool false), (.bool false), (.int .i64 0), (.bool false), (.bool false)] 165 (0, 0))))) ∧
 ∀ t5_7 (d8 : Nat → Value) (h9 : Hp), J6 t5_7 h9 →
 J1 t5_7 h9)) ∧
 ∀ t5_2 (d3 : Nat → Value) (h4 : Hp), J1 t5_2 h4 →
 asB t5_2 fun b11 => cond b11
 (7 = 7 ∧ (∀ u ∈ [(.bool true), (.bool false), (.bool false), (.bool false), (.int .i64 1), (.bool false), (.bool false)], one u) ∧ storeK h4 ⟨Array.size h, 0, none⟩ [(.bool true), (.bool false), (.bool false), (.bool false), (.int .i64 1), (.bool false), (.bool false)] fun h12 =>
 ∃ C13, cellsH h12 ⟨Array.size h, 0, none⟩ 7 C13 ∧ R (.tuple #[(.agg C13.toArray), (.bool true)]) h12)
 (asK .i64 do_p fun n14 => cond (n14 == (3 : Int))
 (7 = 7 ∧ (∀ u ∈ [(.bool false), (.bool false), (.bool false), (.bool false), (.int .i64 1), (.bool false), (.bool false)], one u) ∧ storeK h4 ⟨Array.size h, 0, none⟩ [(.bool false), (.bool false), (.bool false), (.bool false), (.int .i64 1), (.bool false), (.bool false)] fun h15 =>
 ∃ C16, cellsH h15 ⟨Array.size h, 0, none⟩ 7 C16 ∧ R (.tuple #[(.agg C16.toArray), (.bool true)]) h15)
 (asK .i64 do_p fun n17 => cond (n17 == (4 : Int))
 (7 = 7 ∧ (∀ u ∈ [(.bool true), (.bool true), (.bool true), (.bool true), (.int .i64 0), (.bool false), (.bool false)], one u) ∧ storeK h4 ⟨Array.size h, 0, none⟩ [(.bool true), (.bool true), (.bool true), (.bool true), (.int .i64 0), (.bool false), (.bool false)] fun h18 =>
 ∃ C19, cellsH h18 ⟨Array.size h, 0, none⟩ 7 C19 ∧ R (.tuple #[(.agg C19.toArray), (.bool true)]) h18)
 (asK .i64 do_p fun n20 => cond (n20 == (5 : Int))
 (7 = 7 ∧ (∀ u ∈ [(.bool true), (.bool true), (.bool false), (.bool false), (.int .i64 0), (.bool false), (.bool false)], one u) ∧ storeK h4 ⟨Array.size h, 0, none⟩ [(.bool true), (.bool true), (.bool false), (.bool false), (.int .i64 0), (.bool false), (.bool false)] fun h21 =>
 ∃ C22, cellsH h21 ⟨Array.size h, 0, none⟩ 7 C22 ∧ R (.tuple #[(.agg C22.toArray), (.bool true)]) h21)
 (asK .i64 do_p fun n23 => ∃ J24 : Value → Hp → Prop,
 (cond (n23 == (7 : Int))
 (J24 (.bool (n23 == (7 : Int))) h4)
 (asK .i64 do_p fun n28 => ∃ J29 : Value → Hp → Prop,
 (cond (n28 == (8 : Int))
 (J29 (.bool (n28 == (8 : Int))) h4)
 (asK .i64 do_p fun n33 => J29 (.bool (n33 == (9 : Int))) h4)) ∧
 ∀ t19_30 (d31 : Nat → Value) (h32 : Hp), J29 t19_30 h32 →
 J24 t19_30 h32)) ∧
 ∀ t19_25 (d26 : Nat → Value) (h27 : Hp), J24 t19_25 h27 →
 asB t19_25 fun b34 => cond b34
 (7 = 7 ∧ (∀ u ∈ [(.bool true), (.bool false), (.bool false), (.bool false), (.int .i64 0), (.bool false), (.bool false)], one u) ∧ storeK h27 ⟨Array.size h, 0, none⟩ [(.bool true), (.bool false), (.bool false), (.bool false), (.int .i64 0), (.bool false), (.bool false)] fun h35 =>
 ∃ C36, cellsH h35 ⟨Array.size h, 0, none⟩ 7 C36 ∧ R (.tuple #[(.agg C36.toArray), (.bool true)]) h35)
 (asK .i64 do_p fun n37 => cond (n37 == (10 : Int))
 (7 = 7 ∧ (∀ u ∈ [(.bool true), (.bool false), (.bool false), (.bool false), (.int .i64 (-1)), (.bool false), (.bool false)], one u) ∧ storeK h27 ⟨Array.size h, 0, none⟩ [(.bool true), (.bool false), (.bool false), (.bool false), (.int .i64 (-1)), (.bool false), (.bool false)] fun h38 =>
 ∃ C39, cellsH h38 ⟨Array.size h, 0, none⟩ 7 C39 ∧ R (.tuple #[(.agg C39.toArray), (.bool true)]) h38)
 (asK .i64 do_p fun n40 => cond (n40 == (11 : Int))
 (7 = 7 ∧ (∀ u ∈ [(.bool true), (.bool true), (.bool false), (.bool false), (.int .i64 0), (.bool true), (.bool true)], one u) ∧ storeK h27 ⟨Array.size h, 0, none⟩ [(.bool true), (.bool true), (.bool false), (.bool false), (.int .i64 0), (.bool true), (.bool true)] fun h41 =>
 ∃ C42, cellsH h41 ⟨Array.size h, 0, none⟩ 7 C42 ∧ R (.tuple #[(.agg C42.toArray), (.bool true)]) h41)
 (asK .i64 do_p fun n43 => cond (n43 == (12 : Int))
 (7 = 7 ∧ (∀ u ∈ [(.bool true), (.bool true), (.bool false), (.bool false), (.int .i64 0), (.bool true), (.bool false)], one u) ∧ storeK h27 ⟨Array.size h, 0, none⟩ [(.bool true), (.bool true), (.bool false), (.bool false), (.int .i64 0), (.bool true), (.bool false)] fun h44 =>
 ∃ C45, cellsH h44 ⟨Array.size h, 0, none⟩ 7 C45 ∧ R (.tuple #[(.agg C45.toArray), (.bool true)]) h44)
 (asK .i64 do_p fun n46 => cond (n46 == (13 : Int))
 (7 = 7 ∧ (∀ u ∈ [(.bool false), (.bool false), (.bool false), (.bool false), (.int .i64 1), (.bool true), (.bool false)], one u) ∧ storeK h27 ⟨Array.size h, 0, none⟩ [(.bool false), (.bool false), (.bool false), (.bool false), (.int .i64 1), (.bool true), (.bool false)] fun h47 =>
 ∃ C48, cellsH h47 ⟨Array.size h, 0, none⟩ 7 C48 ∧ R (.tuple #[(.agg C48.toArray), (.bool true)]) h47)
 (asK .i64 do_p fun n49 => cond (n49 == (14 : Int))
 (7 = 7 ∧ (∀ u ∈ [(.bool false), (.bool false), (.bool false), (.bool false), (.int .i64 1), (.bool true), (.bool true)], one u) ∧ storeK h27 ⟨Array.size h, 0, none⟩ [(.bool false), (.bool false), (.bool false), (.bool false), (.int .i64 1), (.bool true), (.bool true)] fun h50 =>
 ∃ C51, cellsH h50 ⟨Array.size h, 0, none⟩ 7 C51 ∧ R (.tuple #[(.agg C51.toArray), (.bool true)]) h50)
 (7 = 7 ∧ (∀ u ∈ [(.bool false), (.bool false), (.bool false), (.bool false), (.int .i64 0), (.bool false), (.bool false)], one u) ∧ storeK h27 ⟨Array.size h, 0, none⟩ [(.bool false), (.bool false), (.bool false), (.bool false), (.int .i64 0), (.bool false), (.bool false)] fun h52 =>
 ∃ C53, cellsH h52 ⟨Array.size h, 0, none⟩ 7 C53 ∧ R (.tuple #[(.agg C53.toArray), (.bool false)]) h52))))))))))
def A_render_has : Ann :=
 (.two .leaf (.two (.two .leaf (.one (.two (.two .leaf (.join [7, 5, 8] [5] (.two .leaf (.two .leaf (.join [8, 5] [5] (.two .leaf .leaf)))))) (.two (.two .leaf .leaf) (.two .leaf (.two (.two .leaf .leaf) (.two .leaf (.two (.two .leaf .leaf) (.two .leaf (.two (.two .leaf .leaf) (.two (.two .leaf (.join [21, 19, 22] [19] (.two .leaf (.two .leaf (.join [22, 19] [19] (.two .leaf .leaf)))))) (.two (.two .leaf .leaf) (.two .leaf (.two (.two .leaf .leaf) (.two .leaf (.two (.two .leaf .leaf) (.two .leaf (.two (.two .leaf .leaf) (.two .leaf (.two (.two .leaf .leaf) (.two .leaf (.two (.two .leaf .leaf) .leaf)))))))))))))))))))))) (.two .leaf .leaf)))
theorem C_render_has (ω : Amb) (do_p : Value) (h : Hp) (R : Value → Hp → Prop) (X : List PanicEntry → Hp → Prop) (hk : W_render_has ω do_p h R X) : CallX Tryz.prog ω 119 [do_p] h R X :=
 callX_of (an := A_render_has) Tryz.func119 ((show fnX Tryz.prog ω A_render_has Tryz.f119 [do_p] h R X = W_render_has ω do_p h R X by kernel_rfl) ▸ hk)

/-- (*pipewright/render.walker).stmt -/
abbrev n_p_render_walker_stmt : Nat := 120
def W_p_render_walker_stmt (ω : Amb) (w_p s_p deep_p : Value) (h : Hp) (R : Value → Hp → Prop) (X : List PanicEntry → Hp → Prop) : Prop :=
 nnK w_p (asP w_p fun p0 =>
 ∃ v1, cellH (Array.push h (.cells (Value.cells s_p) 39 (0, 0))) (Addr.add p0 0) = some v1 ∧
 nnK w_p (asP w_p fun p2 =>
 ∃ v3, cellH (Array.push h (.cells (Value.cells s_p) 39 (0, 0))) (Addr.add p2 0) = some v3 ∧
 asK .i64 v3 fun n4 => nnK w_p (asP w_p fun p5 =>
 storeK1 (Array.push h (.cells (Value.cells s_p) 39 (0, 0))) (Addr.add p5 0) (.int .i64 (IntKind.wrap .i64 (n4 + 1))) fun h6 =>
 ∃ v7, cellH h6 (Addr.add ⟨Array.size h, 0, none⟩ 0) = some v7 ∧
 CallX Tryz.prog ω 119 [v7] h6 (fun r8 h9 =>
 asT r8 fun T10 => asO T10[0]? fun v11 => asT r8 fun T12 => asO T12[1]? fun v13 => asA v11 fun A14 => A14.size = 7 ∧ (∀ u ∈ A14.toList, one u) ∧ storeK (Array.push h9 (.cells #[(.bool false), (.bool false), (.bool false), (.bool false), (.int .i64 0), (.bool false), (.bool false)] 165 (0, 0))) ⟨Array.size h9, 0, none⟩ A14.toList fun h15 =>
 ∃ J16 : Hp → Prop,
 (asK .i64 v1 fun n19 => ∃ J20 : Hp → Prop,
 (cond (decide ((n19 : Int) ≥ 300))
 (CallX Tryz.prog ω 65 [w_p, (.int .i64 8), v1] h15 (fun r23 h24 =>
 J20 h24) X)
 (asB v13 fun b25 => ∃ J26 : Value → Hp → Prop,
 (cond (!b25)
 (J26 (.bool (!b25)) h15)
 (∃ J30 : Value → Hp → Prop,
 (∃ v34, cellH h15 (Addr.add ⟨Array.size h9, 0, none⟩ 2) = some v34 ∧
 asB v34 fun b35 => cond (!b35)
 (∃ v36, cellH h15 (Addr.add ⟨Array.size h, 0, none⟩ 4) = some v36 ∧
 asS v36 fun s37 => J30 (.bool (!(ByteArray.toList s37 == ByteArray.toList ⟨#[]⟩))) h15)
 (J30 (.bool false) h15)) ∧
 ∀ t34_31 (d32 : Nat → Value) (h33 : Hp), J30 t34_31 h33 →
 ∃ J38 : Value → Hp → Prop,
 (asB t34_31 fun b42 => cond b42
 (J38 t34_31 h33)
 (∃ J43 : Value → Hp → Prop,
 (∃ v47, cellH h33 (Addr.add ⟨Array.size h9, 0, none⟩ 3) = some v47 ∧
 asB v47 fun b48 => cond (!b48)
 (∃ v49, cellH h33 (Addr.add ⟨Array.size h, 0, none⟩ 5) = some v49 ∧
 asK .i64 v49 fun n50 => J43 (.bool (n50 != (0 : Int))) h33)
 (J43 (.bool false) h33)) ∧
 ∀ t34_44 (d45 : Nat → Value) (h46 : Hp), J43 t34_44 h46 →
 ∃ J51 : Value → Hp → Prop,
 (asB t34_44 fun b55 => cond b55
 (J51 t34_44 h46)
 (∃ J56 : Value → Hp → Prop,
 (∃ v60, cellH h46 (Addr.add ⟨Array.size h9, 0, none⟩ 4) = some v60 ∧
 asK .i64 v60 fun n61 => cond (decide ((n61 : Int) ≥ 0))
 (∃ v62, cellH h46 (Addr.add ⟨Array.size h, 0, none⟩ 6) = some v62 ∧
 asSl v62 fun a63 l64 c65 => ∃ v66, cellH h46 (Addr.add ⟨Array.size h9, 0, none⟩ 4) = some v66 ∧
 asK .i64 v66 fun n67 => J56 (.bool ((l64 : Int) != (n67 : Int))) h46)
 (J56 (.bool false) h46)) ∧
 ∀ t34_57 (d58 : Nat → Value) (h59 : Hp), J56 t34_57 h59 →
 ∃ J68 : Value → Hp → Prop,
 (asB t34_57 fun b72 => cond b72
 (J68 t34_57 h59)
 (∃ J73 : Value → Hp → Prop,
 (∃ v77, cellH h59 (Addr.add ⟨Array.size h9, 0, none⟩ 5) = some v77 ∧
 asB v77 fun b78 => cond (!b78)
 (∃ v79, cellH h59 (Addr.add ⟨Array.size h, 0, none⟩ 7) = some v79 ∧
 asSl v79 fun a80 l81 c82 => J73 (.bool (decide (((l81 : Int) : Int) > 0))) h59)
 (J73 (.bool false) h59)) ∧
 ∀ t34_74 (d75 : Nat → Value) (h76 : Hp), J73 t34_74 h76 →
 ∃ J83 : Value → Hp → Prop,
 (asB t34_74 fun b87 => cond b87
 (J83 t34_74 h76)
 (∃ J88 : Value → Hp → Prop,
 (∃ v92, cellH h76 (Addr.add ⟨Array.size h9, 0, none⟩ 6) = some v92 ∧
 asB v92 fun b93 => cond (!b93)
 (∃ v94, cellH h76 (Addr.add ⟨Array.size h, 0, none⟩ 8) = some v94 ∧
 asSl v94 fun a95 l96 c97 => J88 (.bool (decide (((l96 : Int) : Int) > 0))) h76)
 (J88 (.bool false) h76)) ∧
 ∀ t34_89 (d90 : Nat → Value) (h91 : Hp), J88 t34_89 h91 →
 ∃ J98 : Value → Hp → Prop,
 (asB t34_89 fun b102 => cond b102
 (J98 t34_89 h91)
 (∃ J103 : Value → Hp → Prop,
 (∃ v107, cellH h91 (Addr.add ⟨Array.size h9, 0, none⟩ 0) = some v107 ∧
 asB v107 fun b108 => cond (!b108)
 (∃ v109, cellH h91 (Addr.add ⟨Array.size h, 0, none⟩ 2) = some v109 ∧
 asS v109 fun s110 => J103 (.bool (!(ByteArray.toList s110 == ByteArray.toList ⟨#[]⟩))) h91)
 (J103 (.bool false) h91)) ∧
 ∀ t34_104 (d105 : Nat → Value) (h106 : Hp), J103 t34_104 h106 →
 ∃ J111 : Value → Hp → Prop,
 (asB t34_104 fun b115 => cond b115
 (J111 t34_104 h106)
 (∃ J116 : Value → Hp → Prop,
 (∃ v120, cellH h106 (Addr.add ⟨Array.size h9, 0, none⟩ 1) = some v120 ∧
 asB v120 fun b121 => cond (!b121)
 (∃ v122, cellH h106 (Addr.add ⟨Array.size h, 0, none⟩ 3) = some v122 ∧
 asS v122 fun s123 => J116 (.bool (!(ByteArray.toList s123 == ByteArray.toList ⟨#[]⟩))) h106)
 (J116 (.bool false) h106)) ∧
 ∀ t34_117 (d118 : Nat → Value) (h119 : Hp), J116 t34_117 h119 →
 J111 t34_117 h119)) ∧
 ∀ t34_112 (d113 : Nat → Value) (h114 : Hp), J111 t34_112 h114 →
 J98 t34_112 h114)) ∧
 ∀ t34_99 (d100 : Nat → Value) (h101 : Hp), J98 t34_99 h101 →
 J83 t34_99 h101)) ∧
 ∀ t34_84 (d85 : Nat → Value) (h86 : Hp), J83 t34_84 h86 →
 J68 t34_84 h86)) ∧
 ∀ t34_69 (d70 : Nat → Value) (h71 : Hp), J68 t34_69 h71 →
 J51 t34_69 h71)) ∧
 ∀ t34_52 (d53 : Nat → Value) (h54 : Hp), J51 t34_52 h54 →
 J38 t34_52 h54)) ∧
 ∀ t34_39 (d40 : Nat → Value) (h41 : Hp), J38 t34_39 h41 →
 J26 t34_39 h41)) ∧
 ∀ t34_27 (d28 : Nat → Value) (h29 : Hp), J26 t34_27 h29 →
 ∃ J124 : Hp → Prop,
 (asB t34_27 fun b127 => cond b127
 (CallX Tryz.prog ω 65 [w_p, (.int .i64 5), v1] h29 (fun r128 h129 =>
 J124 h129) X)
 (∃ v130, cellH h29 (Addr.add ⟨Array.size h, 0, none⟩ 6) = some v130 ∧
 asSl v130 fun a131 l132 c133 => ∃ J134 : Hp → Prop,
 (cond (decide (((l132 : Int) : Int) > 6))
 (CallX Tryz.prog ω 65 [w_p, (.int .i64 8), v1] h29 (fun r137 h138 =>
 J134 h138) X)
 (J134 h29)) ∧
 ∀  (d135 : Nat → Value) (h136 : Hp), J134 h136 →
 J124 h136)) ∧
 ∀  (d125 : Nat → Value) (h126 : Hp), J124 h126 →
 J20 h126)) ∧
 ∀  (d21 : Nat → Value) (h22 : Hp), J20 h22 →
 J16 h22) ∧
 ∀  (d17 : Nat → Value) (h18 : Hp), J16 h18 →
 nnK w_p (asP w_p fun p139 =>
 ∃ v140, cellH h18 (Addr.add (Addr.add p139 1) 0) = some v140 ∧
 asK .i64 v140 fun n141 => cond (n141 != (0 : Int))
 (R (.tuple #[]) h18)
 (∃ v142, cellH h18 (Addr.add ⟨Array.size h9, 0, none⟩ 0) = some v142 ∧
 ∃ v143, cellH h18 (Addr.add ⟨Array.size h, 0, none⟩ 2) = some v143 ∧
 CallX Tryz.prog ω 138 [w_p, v142, v143, v1] h18 (fun r144 h145 =>
 ∃ v146, cellH h145 (Addr.add ⟨Array.size h9, 0, none⟩ 1) = some v146 ∧
 ∃ v147, cellH h145 (Addr.add ⟨Array.size h, 0, none⟩ 3) = some v147 ∧
 CallX Tryz.prog ω 138 [w_p, v146, v147, v1] h145 (fun r148 h149 =>
 ∃ J150 : Value → Hp → Prop,
 (∃ v154, cellH h149 (Addr.add ⟨Array.size h9, 0, none⟩ 2) = some v154 ∧
 asB v154 fun b155 => cond b155
 (∃ v156, cellH h149 (Addr.add ⟨Array.size h, 0, none⟩ 4) = some v156 ∧
 CallX Tryz.prog ω 28 [v156, (.int .i64 3)] h149 (fun r157 h158 =>
 asB r157 fun b159 => J150 (.bool (!b159)) h158) X)
 (J150 (.bool false) h149)) ∧
 ∀ t136_151 (d152 : Nat → Value) (h153 : Hp), J150 t136_151 h153 →
 ∃ J160 : Hp → Prop,
 (asB t136_151 fun b163 => cond b163
 (CallX Tryz.prog ω 65 [w_p, (.int .i64 11), v1] h153 (fun r164 h165 =>
 J160 h165) X)
 (J160 h153)) ∧
 ∀  (d161 : Nat → Value) (h162 : Hp), J160 h162 →
 ∃ β166 : Bool,
 (∃ v168, cellH h162 (Addr.add ⟨Array.size h, 0, none⟩ 5) = some v168 ∧
 asK .i64 v168 fun n169 => cond (decide ((n169 : Int) < 0))
 (((.bool true) : Value) = .bool β166 ∧ h162 = h162)
 (∃ v170, cellH h162 (Addr.add ⟨Array.size h, 0, none⟩ 5) = some v170 ∧
 asK .i64 v170 fun n171 => ((.bool (decide ((n171 : Int) ≥ 1000000000000000000))) : Value) = .bool β166 ∧ h162 = h162)) ∧
 ∀ d167 : Nat → Value,
 ∃ J172 : Hp → Prop,
 (cond β166
 (CallX Tryz.prog ω 65 [w_p, (.int .i64 14), v1] h162 (fun r175 h176 =>
 J172 h176) X)
 (J172 h162)) ∧
 ∀  (d173 : Nat → Value) (h174 : Hp), J172 h174 →
 ∃ v177, cellH h174 (Addr.add ⟨Array.size h, 0, none⟩ 6) = some v177 ∧
 asSl v177 fun a178 l179 c180 => ∃ (I181 : Value → Hp → Prop) (μ182 : Value → Hp → Nat), I181 (.int .i64 0) h174 ∧ ∀ t154_183 (d184 : Nat → Value) (h185 : Hp), I181 t154_183 h185 →
 asK .i64 t154_183 fun n186 => cond (decide ((n186 : Int) < (l179 : Int)))
 (asSl1 v177 fun a187 l188 c189 => asI t154_183 fun n190 => 0 ≤ (n190 : Int) ∧ n190 < (l188 : Int) ∧ ∃ C191, cellsH h185 (Addr.add a187 (Int.toNat n190 * 4)) 4 C191 ∧
 C191.toArray.size = 4 ∧ (∀ u ∈ C191.toArray.toList, one u) ∧ storeK (Array.push h185 (.cells #[(.int .i64 0), (.string ⟨#[]⟩), (.int .i64 0), (.slice none 0 0)] 36 (0, 0))) ⟨Array.size h185, 0, none⟩ C191.toArray.toList fun h192 =>
 ∃ C193, cellsH h192 ⟨Array.size h185, 0, none⟩ 4 C193 ∧
 CallX Tryz.prog ω 139 [(.agg C193.toArray), (.int .i64 20)] h192 (fun r194 h195 =>
 asK .i64 r194 fun n196 => ∃ J197 : Hp → Prop,
 (cond (decide ((n196 : Int) < 0))
 (CallX Tryz.prog ω 65 [w_p, (.int .i64 8), v1] h195 (fun r200 h201 =>
 J197 h201) X)
 (J197 h195)) ∧
 ∀  (d198 : Nat → Value) (h199 : Hp), J197 h199 →
 ∃ C202, cellsH h199 ⟨Array.size h185, 0, none⟩ 4 C202 ∧
 CallX Tryz.prog ω 140 [w_p, (.agg C202.toArray), v1] h199 (fun r203 h204 =>
 asK .i64 t154_183 fun n205 => I181 (.int .i64 (IntKind.wrap .i64 (n205 + 1))) h204 ∧ μ182 (.int .i64 (IntKind.wrap .i64 (n205 + 1))) h204 < μ182 t154_183 h185) X) X)
 (∃ β206 : Bool,
 (∃ v208, cellH h185 (Addr.add ⟨Array.size h9, 0, none⟩ 5) = some v208 ∧
 asB v208 fun b209 => cond b209
 (asK .i64 deep_p fun n210 => ((.bool (n210 == (8 : Int))) : Value) = .bool β206 ∧ h185 = h185)
 (((.bool false) : Value) = .bool β206 ∧ h185 = h185)) ∧
 ∀ d207 : Nat → Value,
 ∃ J211 : Hp → Prop,
 (cond β206
 (CallX Tryz.prog ω 65 [w_p, (.int .i64 7), v1] h185 (fun r214 h215 =>
 J211 h215) X)
 (J211 h185)) ∧
 ∀  (d212 : Nat → Value) (h213 : Hp), J211 h213 →
 ∃ v216, cellH h213 (Addr.add ⟨Array.size h, 0, none⟩ 7) = some v216 ∧
 asK .i64 deep_p fun n217 => CallX Tryz.prog ω 93 [w_p, v216, (.int .i64 (IntKind.wrap .i64 (n217 + 1)))] h213 (fun r218 h219 =>
 ∃ v220, cellH h219 (Addr.add ⟨Array.size h, 0, none⟩ 8) = some v220 ∧
 asK .i64 deep_p fun n221 => CallX Tryz.prog ω 93 [w_p, v220, (.int .i64 (IntKind.wrap .i64 (n221 + 1)))] h219 (fun r222 h223 =>
 R (.tuple #[]) h223) X) X)) X) X))) X)))
def A_p_render_walker_stmt : Ann :=
 (.two .leaf (.two .leaf (.two .leaf (.two .leaf (.two (.join [29, 30, 28, 31, 32, 33, 35, 36, 34, 37, 38, 39, 40, 41, 42, 43, 44, 45, 46, 47, 48, 49, 50, 51, 52, 53, 54, 55, 56, 57, 58, 59, 60, 61, 62, 63, 64, 65, 66, 67, 68, 69, 70, 71, 72, 73, 74, 75, 76, 77, 78, 79, 80, 81, 82, 83, 84, 85, 86, 87, 88, 89, 90, 91, 92, 93, 94, 95, 96, 97, 98, 99, 100, 102, 103, 104, 105, 101, 106, 107, 108] [] (.one (.two .leaf (.join [31, 32, 33, 35, 36, 34, 37, 38, 39, 40, 41, 42, 43, 44, 45, 46, 47, 48, 49, 50, 51, 52, 53, 54, 55, 56, 57, 58, 59, 60, 61, 62, 63, 64, 65, 66, 67, 68, 69, 70, 71, 72, 73, 74, 75, 76, 77, 78, 79, 80, 81, 82, 83, 84, 85, 86, 87, 88, 89, 90, 91, 92, 93, 94, 95, 96, 97, 98, 99, 100, 102, 103, 104, 105, 101, 106, 107, 108] [] (.two .leaf (.two (.two .leaf (.join [37, 38, 39, 40, 41, 42, 43, 44, 34, 45, 46, 47, 48, 49, 50, 51, 52, 53, 54, 55, 56, 57, 58, 59, 60, 61, 62, 63, 64, 65, 66, 67, 68, 69, 70, 71, 72, 73, 74, 75, 76, 77, 78, 79, 80, 81, 82, 83, 84, 85, 86, 87, 88, 89, 90, 91, 92, 93, 94, 95, 96, 97] [34] (.two .leaf (.two (.join [37, 38, 39, 40, 41, 42, 43, 44, 34] [34] .leaf) (.join [45, 46, 47, 48, 49, 50, 51, 52, 34, 53, 54, 55, 56, 57, 58, 59, 60, 61, 62, 63, 64, 65, 66, 67, 68, 69, 70, 71, 72, 73, 74, 75, 76, 77, 78, 79, 80, 81, 82, 83, 84, 85, 86, 87, 88, 89, 90, 91, 92, 93, 94, 95, 96, 97] [34] (.two .leaf (.two (.join [45, 46, 47, 48, 49, 50, 51, 52, 34] [34] .leaf) (.join [53, 54, 55, 56, 57, 58, 59, 60, 61, 62, 63, 34, 64, 65, 66, 67, 68, 69, 70, 71, 72, 73, 74, 75, 76, 77, 78, 79, 80, 81, 82, 83, 84, 85, 86, 87, 88, 89, 90, 91, 92, 93, 94, 95, 96, 97] [34] (.two .leaf (.two (.join [53, 54, 55, 56, 57, 58, 59, 60, 61, 62, 63, 34] [34] .leaf) (.join [64, 65, 66, 67, 68, 69, 70, 71, 72, 34, 73, 74, 75, 76, 77, 78, 79, 80, 81, 82, 83, 84, 85, 86, 87, 88, 89, 90, 91, 92, 93, 94, 95, 96, 97] [34] (.two .leaf (.two (.join [64, 65, 66, 67, 68, 69, 70, 71, 72, 34] [34] .leaf) (.join [73, 74, 75, 76, 77, 78, 79, 80, 81, 34, 82, 83, 84, 85, 86, 87, 88, 89, 90, 91, 92, 93, 94, 95, 96, 97] [34] (.two .leaf (.two (.join [73, 74, 75, 76, 77, 78, 79, 80, 81, 34] [34] .leaf) (.join [82, 83, 84, 85, 86, 87, 88, 89, 34, 90, 91, 92, 93, 94, 95, 96, 97] [34] (.two .leaf (.two (.join [82, 83, 84, 85, 86, 87, 88, 89, 34] [34] .leaf) (.join [90, 91, 92, 93, 94, 95, 96, 97, 34] [34] (.two .leaf (.join [90, 91, 92, 93, 94, 95, 96, 97, 34] [34] .leaf)))))))))))))))))))))) (.join [98, 99, 100, 102, 103, 104, 105, 101, 106, 107, 108] [] (.two .leaf (.two .leaf (.join [106, 107, 108] [] (.two .leaf .leaf))))))))))) (.two (.two .leaf (.two .leaf .leaf)) (.two .leaf (.two .leaf (.two (.two (.join [129, 130, 131, 132, 133, 134, 135, 136] [136] .leaf) (.join [137, 138, 139] [] (.two .leaf .leaf))) (.two (.two (.jb [140, 141, 142, 143, 144, 145, 146, 147] 147 .leaf) (.join [148, 149, 150] [] (.two .leaf .leaf))) (.two (.two .leaf (.one (.loop [155, 156, 157, 10, 158, 159, 160, 161, 162, 163, 164, 165, 166, 167, 168, 154] [154] (.two .leaf (.two (.two .leaf .leaf) (.two (.one (.two .leaf (.two (.two .leaf (.join [161, 162, 163] [] (.two .leaf .leaf))) .leaf))) .leaf)))))) (.two (.two (.jb [169, 170, 171, 172, 173, 174] 174 .leaf) (.join [175, 176, 177] [] (.two .leaf .leaf))) (.two .leaf .leaf)))))))))))))
theorem C_p_render_walker_stmt (ω : Amb) (w_p s_p deep_p : Value) (h : Hp) (R : Value → Hp → Prop) (X : List PanicEntry → Hp → Prop) (hk : W_p_render_walker_stmt ω w_p s_p deep_p h R X) : CallX Tryz.prog ω 120 [w_p, s_p, deep_p] h R X :=
 callX_of (an := A_p_render_walker_stmt) Tryz.func120 ((show fnX Tryz.prog ω A_p_render_walker_stmt Tryz.f120 [w_p, s_p, deep_p] h R X = W_p_render_walker_stmt ω w_p s_p deep_p h R X by kernel_rfl) ▸ hk)

/-- (*pipewright/render.walker).name -/
abbrev n_p_render_walker_name : Nat := 138
def W_p_render_walker_name (ω : Amb) (w_p is_p s_p at_p : Value) (h : Hp) (R : Value → Hp → Prop) (X : List PanicEntry → Hp → Prop) : Prop :=
 ∃ β0 : Bool,
 (asB is_p fun b2 => cond (!b2)
 (asS s_p fun s3 => ((.bool (!(ByteArray.toList s3 == ByteArray.toList ⟨#[]⟩))) : Value) = .bool β0 ∧ h = h)
 (((.bool false) : Value) = .bool β0 ∧ h = h)) ∧
 ∀ d1 : Nat → Value,
 ∃ J4 : Hp → Prop,
 (cond β0
 (CallX Tryz.prog ω 65 [w_p, (.int .i64 5), at_p] h (fun r7 h8 =>
 J4 h8) X)
 (J4 h)) ∧
 ∀  (d5 : Nat → Value) (h6 : Hp), J4 h6 →
 ∃ J9 : Value → Hp → Prop,
 (asB is_p fun b13 => cond b13
 (CallX Tryz.prog ω 92 [s_p] h6 (fun r14 h15 =>
 asB r14 fun b16 => J9 (.bool (!b16)) h15) X)
 (J9 (.bool false) h6)) ∧
 ∀ t22_10 (d11 : Nat → Value) (h12 : Hp), J9 t22_10 h12 →
 ∃ J17 : Hp → Prop,
 (asB t22_10 fun b20 => cond b20
 (CallX Tryz.prog ω 65 [w_p, (.int .i64 4), at_p] h12 (fun r21 h22 =>
 J17 h22) X)
 (J17 h12)) ∧
 ∀  (d18 : Nat → Value) (h19 : Hp), J17 h19 →
 R (.tuple #[]) h19
def A_p_render_walker_name : Ann :=
 (.two (.two (.jb [8, 9, 10, 11, 12, 13] 13 .leaf) (.join [14, 15, 16] [] (.two .leaf .leaf))) (.two (.join [17, 18, 19, 20, 21, 22] [22] .leaf) (.join [23, 24, 25] [] (.two .leaf .leaf))))
theorem C_p_render_walker_name (ω : Amb) (w_p is_p s_p at_p : Value) (h : Hp) (R : Value → Hp → Prop) (X : List PanicEntry → Hp → Prop) (hk : W_p_render_walker_name ω w_p is_p s_p at_p h R X) : CallX Tryz.prog ω 138 [w_p, is_p, s_p, at_p] h R X :=
 callX_of (an := A_p_render_walker_name) Tryz.func138 ((show fnX Tryz.prog ω A_p_render_walker_name Tryz.f138 [w_p, is_p, s_p, at_p] h R X = W_p_render_walker_name ω w_p is_p s_p at_p h R X by kernel_rfl) ▸ hk)

/-- pipewright/render.terms -/
abbrev n_render_terms : Nat := 139
def W_render_terms (ω : Amb) (x_p left_p : Value) (h : Hp) (R : Value → Hp → Prop) (X : List PanicEntry → Hp → Prop) : Prop :=
 asK .i64 left_p fun n0 => ∃ (I1 : Value → Value → Hp → Prop) (μ2 : Value → Value → Hp → Nat), I1 (.int .i64 (IntKind.wrap .i64 (n0 - 1))) (.int .i64 0) (Array.push h (.cells (Value.cells x_p) 36 (0, 0))) ∧ ∀ left_3 i_4 (d5 : Nat → Value) (h6 : Hp), I1 left_3 i_4 h6 →
 ∃ β7 : Bool,
 (∃ v9, cellH h6 (Addr.add ⟨Array.size h, 0, none⟩ 3) = some v9 ∧
 asSl v9 fun a10 l11 c12 => asK .i64 i_4 fun n13 => cond (decide ((n13 : Int) < (l11 : Int)))
 (asK .i64 left_3 fun n14 => ((.bool (decide ((n14 : Int) ≥ 0))) : Value) = .bool β7 ∧ h6 = h6)
 (((.bool false) : Value) = .bool β7 ∧ h6 = h6)) ∧
 ∀ d8 : Nat → Value,
 cond β7
 (∃ v15, cellH h6 (Addr.add ⟨Array.size h, 0, none⟩ 3) = some v15 ∧
 asSl1 v15 fun a16 l17 c18 => asI i_4 fun n19 => 0 ≤ (n19 : Int) ∧ n19 < (l17 : Int) ∧ ∃ C20, cellsH h6 (Addr.add a16 (Int.toNat n19 * 4)) 4 C20 ∧
 CallX Tryz.prog ω 139 [(.agg C20.toArray), left_3] h6 (fun r21 h22 =>
 asK .i64 i_4 fun n23 => I1 r21 (.int .i64 (IntKind.wrap .i64 (n23 + 1))) h22 ∧ μ2 r21 (.int .i64 (IntKind.wrap .i64 (n23 + 1))) h22 < μ2 left_3 i_4 h6) X)
 (R left_3 h6)
def A_render_terms : Ann :=
 (.two .leaf (.two .leaf (.two (.two .leaf (.one (.loop [8, 9, 10, 11, 12, 13, 14, 15, 16, 19, 20, 21, 22, 23, 24, 25, 1, 17, 18, 5] [1, 5] (.two (.two (.jb [8, 9, 10, 11, 12, 13, 14, 15, 16] 16 .leaf) (.two .leaf .leaf)) (.two (.one .leaf) .leaf))))) (.two .leaf .leaf))))
theorem C_render_terms (ω : Amb) (x_p left_p : Value) (h : Hp) (R : Value → Hp → Prop) (X : List PanicEntry → Hp → Prop) (hk : W_render_terms ω x_p left_p h R X) : CallX Tryz.prog ω 139 [x_p, left_p] h R X :=
 callX_of (an := A_render_terms) Tryz.func139 ((show fnX Tryz.prog ω A_render_terms Tryz.f139 [x_p, left_p] h R X = W_render_terms ω x_p left_p h R X by kernel_rfl) ▸ hk)

/-- (*pipewright/render.walker).expr -/
abbrev n_p_render_walker_expr : Nat := 140
def W_p_render_walker_expr (ω : Amb) (w_p x_p at_p : Value) (h : Hp) (R : Value → Hp → Prop) (X : List PanicEntry → Hp → Prop) : Prop :=
 nnK w_p (asP w_p fun p0 =>
 ∃ v1, cellH (Array.push h (.cells (Value.cells x_p) 36 (0, 0))) (Addr.add (Addr.add p0 1) 0) = some v1 ∧
 asK .i64 v1 fun n2 => cond (n2 != (0 : Int))
 (R (.tuple #[]) (Array.push h (.cells (Value.cells x_p) 36 (0, 0))))
 (∃ J3 : Value → Hp → Prop,
 (∃ J7 : Value → Hp → Prop,
 (∃ v11, cellH (Array.push h (.cells (Value.cells x_p) 36 (0, 0))) (Addr.add ⟨Array.size h, 0, none⟩ 0) = some v11 ∧
 asK .i64 v11 fun n12 => cond (n12 == (1 : Int))
 (J7 (.bool true) (Array.push h (.cells (Value.cells x_p) 36 (0, 0))))
 (∃ v13, cellH (Array.push h (.cells (Value.cells x_p) 36 (0, 0))) (Addr.add ⟨Array.size h, 0, none⟩ 0) = some v13 ∧
 asK .i64 v13 fun n14 => J7 (.bool (n14 == (2 : Int))) (Array.push h (.cells (Value.cells x_p) 36 (0, 0))))) ∧
 ∀ t15_8 (d9 : Nat → Value) (h10 : Hp), J7 t15_8 h10 →
 ∃ J15 : Value → Hp → Prop,
 (asB t15_8 fun b19 => cond b19
 (J15 (.int .i64 0) h10)
 (∃ v20, cellH h10 (Addr.add ⟨Array.size h, 0, none⟩ 0) = some v20 ∧
 asK .i64 v20 fun n21 => ∃ J22 : Value → Hp → Prop,
 (cond (n21 == (3 : Int))
 (J22 (.int .i64 1) h10)
 (∃ J26 : Value → Hp → Prop,
 (∃ v30, cellH h10 (Addr.add ⟨Array.size h, 0, none⟩ 0) = some v30 ∧
 asK .i64 v30 fun n31 => cond (decide ((n31 : Int) < 1))
 (J26 (.bool true) h10)
 (∃ v32, cellH h10 (Addr.add ⟨Array.size h, 0, none⟩ 0) = some v32 ∧
 asK .i64 v32 fun n33 => J26 (.bool (decide ((n33 : Int) > 8))) h10)) ∧
 ∀ t28_27 (d28 : Nat → Value) (h29 : Hp), J26 t28_27 h29 →
 asB t28_27 fun b34 => cond b34
 (CallX Tryz.prog ω 65 [w_p, (.int .i64 5), at_p] h29 (fun r35 h36 =>
 R (.tuple #[]) h36) X)
 (J22 (.int .i64 2) h29))) ∧
 ∀ parts_23 (d24 : Nat → Value) (h25 : Hp), J22 parts_23 h25 →
 J15 parts_23 h25)) ∧
 ∀ parts_16 (d17 : Nat → Value) (h18 : Hp), J15 parts_16 h18 →
 J3 parts_16 h18) ∧
 ∀ parts_4 (d5 : Nat → Value) (h6 : Hp), J3 parts_4 h6 →
 ∃ β37 : Bool,
 (∃ v39, cellH h6 (Addr.add ⟨Array.size h, 0, none⟩ 3) = some v39 ∧
 asSl v39 fun a40 l41 c42 => asK .i64 parts_4 fun n43 => cond ((l41 : Int) != (n43 : Int))
 (((.bool true) : Value) = .bool β37 ∧ h6 = h6)
 (∃ v44, cellH h6 (Addr.add ⟨Array.size h, 0, none⟩ 0) = some v44 ∧
 asK .i64 v44 fun n45 => cond (n45 != (1 : Int))
 (∃ v46, cellH h6 (Addr.add ⟨Array.size h, 0, none⟩ 2) = some v46 ∧
 asK .i64 v46 fun n47 => cond (n47 != (0 : Int))
 (((.bool true) : Value) = .bool β37 ∧ h6 = h6)
 (∃ v48, cellH h6 (Addr.add ⟨Array.size h, 0, none⟩ 0) = some v48 ∧
 asK .i64 v48 fun n49 => cond (n49 != (2 : Int))
 (∃ v50, cellH h6 (Addr.add ⟨Array.size h, 0, none⟩ 1) = some v50 ∧
 asS v50 fun s51 => ((.bool (!(ByteArray.toList s51 == ByteArray.toList ⟨#[]⟩))) : Value) = .bool β37 ∧ h6 = h6)
 (((.bool false) : Value) = .bool β37 ∧ h6 = h6)))
 (∃ v52, cellH h6 (Addr.add ⟨Array.size h, 0, none⟩ 0) = some v52 ∧
 asK .i64 v52 fun n53 => cond (n53 != (2 : Int))
 (∃ v54, cellH h6 (Addr.add ⟨Array.size h, 0, none⟩ 1) = some v54 ∧
 asS v54 fun s55 => ((.bool (!(ByteArray.toList s55 == ByteArray.toList ⟨#[]⟩))) : Value) = .bool β37 ∧ h6 = h6)
 (((.bool false) : Value) = .bool β37 ∧ h6 = h6)))) ∧
 ∀ d38 : Nat → Value,
 cond β37
 (CallX Tryz.prog ω 65 [w_p, (.int .i64 5), at_p] h6 (fun r56 h57 =>
 R (.tuple #[]) h57) X)
 (∃ J58 : Value → Hp → Prop,
 (∃ v62, cellH h6 (Addr.add ⟨Array.size h, 0, none⟩ 0) = some v62 ∧
 asK .i64 v62 fun n63 => cond (n63 == (2 : Int))
 (∃ v64, cellH h6 (Addr.add ⟨Array.size h, 0, none⟩ 1) = some v64 ∧
 CallX Tryz.prog ω 92 [v64] h6 (fun r65 h66 =>
 asB r65 fun b67 => J58 (.bool (!b67)) h66) X)
 (J58 (.bool false) h6)) ∧
 ∀ t76_59 (d60 : Nat → Value) (h61 : Hp), J58 t76_59 h61 →
 ∃ J68 : Hp → Prop,
 (asB t76_59 fun b71 => cond b71
 (CallX Tryz.prog ω 65 [w_p, (.int .i64 4), at_p] h61 (fun r72 h73 =>
 J68 h73) X)
 (J68 h61)) ∧
 ∀  (d69 : Nat → Value) (h70 : Hp), J68 h70 →
 ∃ β74 : Bool,
 (∃ v76, cellH h70 (Addr.add ⟨Array.size h, 0, none⟩ 2) = some v76 ∧
 asK .i64 v76 fun n77 => cond (decide ((n77 : Int) < 0))
 (((.bool true) : Value) = .bool β74 ∧ h70 = h70)
 (∃ v78, cellH h70 (Addr.add ⟨Array.size h, 0, none⟩ 2) = some v78 ∧
 asK .i64 v78 fun n79 => ((.bool (decide ((n79 : Int) ≥ 1000000000000000000))) : Value) = .bool β74 ∧ h70 = h70)) ∧
 ∀ d75 : Nat → Value,
 ∃ J80 : Hp → Prop,
 (cond β74
 (CallX Tryz.prog ω 65 [w_p, (.int .i64 3), at_p] h70 (fun r83 h84 =>
 J80 h84) X)
 (J80 h70)) ∧
 ∀  (d81 : Nat → Value) (h82 : Hp), J80 h82 →
 ∃ v85, cellH h82 (Addr.add ⟨Array.size h, 0, none⟩ 3) = some v85 ∧
 asSl v85 fun a86 l87 c88 => ∃ (I89 : Value → Hp → Prop) (μ90 : Value → Hp → Nat), I89 (.int .i64 0) h82 ∧ ∀ t94_91 (d92 : Nat → Value) (h93 : Hp), I89 t94_91 h93 →
 asK .i64 t94_91 fun n94 => cond (decide ((n94 : Int) < (l87 : Int)))
 (asSl1 v85 fun a95 l96 c97 => asI t94_91 fun n98 => 0 ≤ (n98 : Int) ∧ n98 < (l96 : Int) ∧ ∃ C99, cellsH h93 (Addr.add a95 (Int.toNat n98 * 4)) 4 C99 ∧
 C99.toArray.size = 4 ∧ (∀ u ∈ C99.toArray.toList, one u) ∧ storeK (Array.push h93 (.cells #[(.int .i64 0), (.string ⟨#[]⟩), (.int .i64 0), (.slice none 0 0)] 36 (0, 0))) ⟨Array.size h93, 0, none⟩ C99.toArray.toList fun h100 =>
 ∃ C101, cellsH h100 ⟨Array.size h93, 0, none⟩ 4 C101 ∧
 CallX Tryz.prog ω 140 [w_p, (.agg C101.toArray), at_p] h100 (fun r102 h103 =>
 asK .i64 t94_91 fun n104 => I89 (.int .i64 (IntKind.wrap .i64 (n104 + 1))) h103 ∧ μ90 (.int .i64 (IntKind.wrap .i64 (n104 + 1))) h103 < μ90 t94_91 h93) X)
 (R (.tuple #[]) h93))))
def A_p_render_walker_expr : Ann :=
 (.two .leaf (.two (.two .leaf (.two .leaf .leaf)) (.two .leaf (.two (.join [16, 17, 18, 19, 20, 21, 22, 23, 15, 6, 25, 26, 27, 24, 29, 30, 31, 32, 33, 34, 35, 36, 28, 37, 38, 39] [6] (.one (.two (.join [16, 17, 18, 19, 20, 21, 22, 23, 15] [15] .leaf) (.join [6, 25, 26, 27, 24, 29, 30, 31, 32, 33, 34, 35, 36, 28, 37, 38, 39] [6] (.two .leaf (.two .leaf (.join [6, 29, 30, 31, 32, 33, 34, 35, 36, 28, 37, 38, 39] [6] (.two .leaf (.two (.join [29, 30, 31, 32, 33, 34, 35, 36, 28] [28] .leaf) (.two (.two .leaf .leaf) .leaf)))))))))) (.two (.two (.jb [40, 41, 42, 43, 44, 45, 46, 47, 48, 49, 50, 51, 52, 53, 54, 55, 56, 57, 58, 59, 60, 61, 62, 63, 64] 64 .leaf) (.two (.two .leaf .leaf) .leaf)) (.two (.two (.join [68, 69, 70, 71, 72, 73, 74, 75, 76] [76] .leaf) (.join [77, 78, 79] [] (.two .leaf .leaf))) (.two (.two (.jb [80, 81, 82, 83, 84, 85, 86, 87] 87 .leaf) (.join [88, 89, 90] [] (.two .leaf .leaf))) (.two .leaf (.one (.loop [95, 96, 97, 8, 98, 99, 100, 101, 102, 94] [94] (.two .leaf (.two (.two .leaf .leaf) (.two (.one (.two .leaf .leaf)) .leaf)))))))))))))
theorem C_p_render_walker_expr (ω : Amb) (w_p x_p at_p : Value) (h : Hp) (R : Value → Hp → Prop) (X : List PanicEntry → Hp → Prop) (hk : W_p_render_walker_expr ω w_p x_p at_p h R X) : CallX Tryz.prog ω 140 [w_p, x_p, at_p] h R X :=
 callX_of (an := A_p_render_walker_expr) Tryz.func140 ((show fnX Tryz.prog ω A_p_render_walker_expr Tryz.f140 [w_p, x_p, at_p] h R X = W_p_render_walker_expr ω w_p x_p at_p h R X by kernel_rfl) ▸ hk)

end Go.Proofs.YtkeeboomikkojaaGreatDoor.Sx
