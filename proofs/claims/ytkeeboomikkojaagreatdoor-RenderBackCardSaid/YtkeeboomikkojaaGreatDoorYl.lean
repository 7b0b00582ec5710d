/- Formulas of the functions' texts, written by a program of ours; each is checked by the kernel. -/
import Derived.Test.YtkeeboomikkojaaGreatDoorSxCore
import Derived.KernelRfl
import Derived.Test.YtkeeboomikkojaaGreatDoorProg
set_option linter.unusedVariables false
set_option maxRecDepth 100000
namespace Go.Proofs.YtkeeboomikkojaaGreatDoor.Sx
open Go Go.Sx Go.Proofs

abbrev n_pipewrightlaw_RenderBack : Nat := 5
def W_pipewrightlaw_RenderBack (ω : Amb) (p_p : Value) (h : Hp) (R : Value → Hp → Prop) (X : List PanicEntry → Hp → Prop) : Prop :=
 CallX Tryz.prog ω 13 [] (Array.push h (.cells (Value.cells p_p) 24 (0, 0))) (fun r0 h1 =>
 asB r0 fun b2 => cond (!b2)
 (R (.bool false) h1)
 (∃ C3, cellsH h1 ⟨Array.size h, 0, none⟩ 1 C3 ∧
 CallX Tryz.prog ω 9 [(.agg C3.toArray)] h1 (fun r4 h5 =>
 asB r4 fun b6 => cond b6
 (R (.bool true) h5)
 (∃ C7, cellsH h5 ⟨Array.size h, 0, none⟩ 1 C7 ∧
 CallX Tryz.prog ω 15 [(.agg C7.toArray)] h5 (fun r8 h9 =>
 asT r8 fun T10 => asO T10[0]? fun v11 => asT r8 fun T12 => asO T12[1]? fun v13 => asA v13 fun A14 => A14.size = 2 ∧ (∀ u ∈ A14.toList, one u) ∧ storeK (Array.push h9 (.cells #[(.int .i64 0), (.int .i64 0)] 28 (0, 0))) ⟨Array.size h9, 0, none⟩ A14.toList fun h15 =>
 ∃ v16, cellH h15 (Addr.add ⟨Array.size h9, 0, none⟩ 0) = some v16 ∧
 asK .i64 v16 fun n17 => cond (n17 != (0 : Int))
 (∃ C18, cellsH h15 ⟨Array.size h, 0, none⟩ 1 C18 ∧
 ∃ C19, cellsH h15 ⟨Array.size h9, 0, none⟩ 2 C19 ∧
 CallX Tryz.prog ω 16 [(.agg C18.toArray)] h15 (fun r20 h21 =>
 cellsH h21 ⟨Array.size h9, 0, none⟩ 2 C19 ∧ asA r20 fun A22 => asO A22[0]? fun v23 => asO C19.toArray[0]? fun v24 => asK .i64 v23 fun n25 => asK .i64 v24 fun n26 => asO A22[1]? fun v27 => asO C19.toArray[1]? fun v28 => asK .i64 v27 fun n29 => asK .i64 v28 fun n30 => R (.bool ((n25 == (n26 : Int)) && ((n29 == (n30 : Int)) && true))) h21) X)
 (CallX Tryz.prog ω 14 [v11] h15 (fun r31 h32 =>
 asT r31 fun T33 => asO T33[0]? fun v34 => asT r31 fun T35 => asO T35[1]? fun v36 => asA v34 fun A37 => A37.size = 1 ∧ (∀ u ∈ A37.toList, one u) ∧ storeK (Array.push (Array.push h32 (.cells #[(.slice none 0 0)] 24 (0, 0))) (.cells #[(.int .i64 0), (.int .i64 0)] 28 (0, 0))) ⟨Array.size h32, 0, none⟩ A37.toList fun h38 =>
 asA v36 fun A39 => A39.size = 2 ∧ (∀ u ∈ A39.toList, one u) ∧ storeK h38 ⟨Array.size (Array.push h32 (.cells #[(.slice none 0 0)] 24 (0, 0))), 0, none⟩ A39.toList fun h40 =>
 ∃ J41 : Value → Hp → Prop,
 (∃ v45, cellH h40 (Addr.add ⟨Array.size (Array.push h32 (.cells #[(.slice none 0 0)] 24 (0, 0))), 0, none⟩ 0) = some v45 ∧
 asK .i64 v45 fun n46 => cond (n46 == (0 : Int))
 (∃ C47, cellsH h40 ⟨Array.size h, 0, none⟩ 1 C47 ∧
 ∃ C48, cellsH h40 ⟨Array.size h32, 0, none⟩ 1 C48 ∧
 CallX Tryz.prog ω 17 [(.agg C47.toArray), (.agg C48.toArray)] h40 (fun r49 h50 =>
 asB r49 fun b51 => cond b51
 (asS v11 fun s52 => J41 (.bool (decide (((ByteArray.size s52 : Int) : Int) ≤ 12000))) h50)
 (J41 (.bool false) h50)) X)
 (J41 (.bool false) h40)) ∧
 ∀ t2_42 (d43 : Nat → Value) (h44 : Hp), J41 t2_42 h44 →
 R t2_42 h44) X)) X)) X)) X
def A_pipewrightlaw_RenderBack : Ann :=
 (.two .leaf (.two (.two .leaf (.two (.two .leaf .leaf) .leaf)) (.two (.two .leaf (.two (.two .leaf .leaf) .leaf)) (.two .leaf (.two (.two .leaf (.two (.two (.plan [0, 2, 1, 3, 4]) .leaf) .leaf)) (.two .leaf (.two (.join [28, 29, 30, 31, 32, 33, 34, 35, 36, 37, 38, 39, 40, 2] [2] .leaf) .leaf)))))))
theorem C_pipewrightlaw_RenderBack (ω : Amb) (p_p : Value) (h : Hp) (R : Value → Hp → Prop) (X : List PanicEntry → Hp → Prop) (hk : W_pipewrightlaw_RenderBack ω p_p h R X) : CallX Tryz.prog ω 5 [p_p] h R X :=
 callX_of (an := A_pipewrightlaw_RenderBack) Tryz.func5 ((show fnX Tryz.prog ω A_pipewrightlaw_RenderBack Tryz.f5 [p_p] h R X = W_pipewrightlaw_RenderBack ω p_p h R X by kernel_rfl) ▸ hk)

end Go.Proofs.YtkeeboomikkojaaGreatDoor.Sx
