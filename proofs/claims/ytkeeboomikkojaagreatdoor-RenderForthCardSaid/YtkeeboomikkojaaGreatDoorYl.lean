/- Formulas of the functions' texts, written by a program of ours; each is checked by the kernel. -/
import Derived.Test.YtkeeboomikkojaaGreatDoorSxCore
import Derived.KernelRfl
import Derived.Test.YtkeeboomikkojaaGreatDoorProg
set_option linter.unusedVariables false
set_option maxRecDepth 100000
namespace Go.Proofs.YtkeeboomikkojaaGreatDoor.Sx
open Go Go.Sx Go.Proofs

abbrev n_pipewrightlaw_RenderForth : Nat := 4
def W_pipewrightlaw_RenderForth (ω : Amb) (src_p : Value) (h : Hp) (R : Value → Hp → Prop) (X : List PanicEntry → Hp → Prop) : Prop :=
 CallX Tryz.prog ω 13 [] h (fun r0 h1 =>
 asB r0 fun b2 => cond (!b2)
 (R (.bool false) h1)
 (asS src_p fun s3 => cond (decide (((ByteArray.size s3 : Int) : Int) > 12000))
 (R (.bool true) h1)
 (CallX Tryz.prog ω 14 [src_p] h1 (fun r4 h5 =>
 asT r4 fun T6 => asO T6[0]? fun v7 => asT r4 fun T8 => asO T8[1]? fun v9 => asA v7 fun A10 => A10.size = 1 ∧ (∀ u ∈ A10.toList, one u) ∧ storeK (Array.push (Array.push h5 (.cells #[(.slice none 0 0)] 24 (0, 0))) (.cells #[(.int .i64 0), (.int .i64 0)] 28 (0, 0))) ⟨Array.size h5, 0, none⟩ A10.toList fun h11 =>
 asA v9 fun A12 => A12.size = 2 ∧ (∀ u ∈ A12.toList, one u) ∧ storeK h11 ⟨Array.size (Array.push h5 (.cells #[(.slice none 0 0)] 24 (0, 0))), 0, none⟩ A12.toList fun h13 =>
 ∃ v14, cellH h13 (Addr.add ⟨Array.size (Array.push h5 (.cells #[(.slice none 0 0)] 24 (0, 0))), 0, none⟩ 0) = some v14 ∧
 asK .i64 v14 fun n15 => cond (n15 != (0 : Int))
 (R (.bool true) h13)
 (∃ C16, cellsH h13 ⟨Array.size h5, 0, none⟩ 1 C16 ∧
 CallX Tryz.prog ω 15 [(.agg C16.toArray)] h13 (fun r17 h18 =>
 asT r17 fun T19 => asO T19[0]? fun v20 => asT r17 fun T21 => asO T21[1]? fun v22 => asA v22 fun A23 => A23.size = 2 ∧ (∀ u ∈ A23.toList, one u) ∧ storeK (Array.push h18 (.cells #[(.int .i64 0), (.int .i64 0)] 28 (0, 0))) ⟨Array.size h18, 0, none⟩ A23.toList fun h24 =>
 ∃ v25, cellH h24 (Addr.add ⟨Array.size h18, 0, none⟩ 0) = some v25 ∧
 asK .i64 v25 fun n26 => cond (n26 != (0 : Int))
 (∃ J27 : Value → Hp → Prop,
 (∃ v31, cellH h24 (Addr.add ⟨Array.size h18, 0, none⟩ 0) = some v31 ∧
 asK .i64 v31 fun n32 => cond (n32 == (1 : Int))
 (∃ v33, cellH h24 (Addr.add ⟨Array.size h18, 0, none⟩ 1) = some v33 ∧
 asK .i64 v33 fun n34 => J27 (.bool (n34 == ((-1) : Int))) h24)
 (J27 (.bool false) h24)) ∧
 ∀ t2_28 (d29 : Nat → Value) (h30 : Hp), J27 t2_28 h30 →
 R t2_28 h30)
 (CallX Tryz.prog ω 14 [v20] h24 (fun r35 h36 =>
 asT r35 fun T37 => asO T37[0]? fun v38 => asT r35 fun T39 => asO T39[1]? fun v40 => asA v38 fun A41 => A41.size = 1 ∧ (∀ u ∈ A41.toList, one u) ∧ storeK (Array.push (Array.push h36 (.cells #[(.slice none 0 0)] 24 (0, 0))) (.cells #[(.int .i64 0), (.int .i64 0)] 28 (0, 0))) ⟨Array.size h36, 0, none⟩ A41.toList fun h42 =>
 asA v40 fun A43 => A43.size = 2 ∧ (∀ u ∈ A43.toList, one u) ∧ storeK h42 ⟨Array.size (Array.push h36 (.cells #[(.slice none 0 0)] 24 (0, 0))), 0, none⟩ A43.toList fun h44 =>
 ∃ C45, cellsH h44 ⟨Array.size h36, 0, none⟩ 1 C45 ∧
 CallX Tryz.prog ω 15 [(.agg C45.toArray)] h44 (fun r46 h47 =>
 asT r46 fun T48 => asO T48[0]? fun v49 => asT r46 fun T50 => asO T50[1]? fun v51 => asA v51 fun A52 => A52.size = 2 ∧ (∀ u ∈ A52.toList, one u) ∧ storeK (Array.push h47 (.cells #[(.int .i64 0), (.int .i64 0)] 28 (0, 0))) ⟨Array.size h47, 0, none⟩ A52.toList fun h53 =>
 ∃ J54 : Value → Hp → Prop,
 (∃ v58, cellH h53 (Addr.add ⟨Array.size (Array.push h36 (.cells #[(.slice none 0 0)] 24 (0, 0))), 0, none⟩ 0) = some v58 ∧
 asK .i64 v58 fun n59 => cond (n59 == (0 : Int))
 (∃ v60, cellH h53 (Addr.add ⟨Array.size h47, 0, none⟩ 0) = some v60 ∧
 asK .i64 v60 fun n61 => cond (n61 == (0 : Int))
 (asS v49 fun s62 => asS v20 fun s63 => J54 (.bool (ByteArray.toList s62 == ByteArray.toList s63)) h53)
 (J54 (.bool false) h53))
 (J54 (.bool false) h53)) ∧
 ∀ t2_55 (d56 : Nat → Value) (h57 : Hp), J54 t2_55 h57 →
 R t2_55 h57) X) X)) X)) X))) X
def A_pipewrightlaw_RenderForth : Ann :=
 (.two .leaf (.two (.two .leaf (.two (.two .leaf .leaf) .leaf)) (.two (.two .leaf (.two (.two .leaf .leaf) .leaf)) (.two .leaf (.two (.two .leaf (.two (.two .leaf .leaf) .leaf)) (.two .leaf (.two (.two .leaf (.two (.two (.join [32, 33, 34, 35, 36, 37, 38, 39, 2] [2] .leaf) .leaf) .leaf)) (.two .leaf (.two .leaf (.two (.join [50, 51, 52, 53, 54, 55, 56, 57, 58, 59, 60, 61, 62, 2] [2] .leaf) .leaf))))))))))
theorem C_pipewrightlaw_RenderForth (ω : Amb) (src_p : Value) (h : Hp) (R : Value → Hp → Prop) (X : List PanicEntry → Hp → Prop) (hk : W_pipewrightlaw_RenderForth ω src_p h R X) : CallX Tryz.prog ω 4 [src_p] h R X :=
 callX_of (an := A_pipewrightlaw_RenderForth) Tryz.func4 ((show fnX Tryz.prog ω A_pipewrightlaw_RenderForth Tryz.f4 [src_p] h R X = W_pipewrightlaw_RenderForth ω src_p h R X by kernel_rfl) ▸ hk)

end Go.Proofs.YtkeeboomikkojaaGreatDoor.Sx
