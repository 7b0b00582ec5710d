/- Formulas of the functions' texts, written by a program of ours; each is checked by the kernel. -/
import Derived.Test.YtaehnpilebkcoaaDoorSxCore
import Derived.KernelRfl
import Derived.Test.YtaehnpilebkcoaaDoorProg
set_option linter.unusedVariables false
set_option maxRecDepth 100000
namespace Go.Proofs.YtaehnpilebkcoaaDoor.Sx
open Go Go.Sx Go.Proofs

/-- pipewright/pipewrightlaw.SyntaxParses -/
abbrev n_pipewrightlaw_SyntaxParses : Nat := 6
def W_pipewrightlaw_SyntaxParses (ω : Amb) (src_p : Value) (h : Hp) (R : Value → Hp → Prop) (X : List PanicEntry → Hp → Prop) : Prop :=
 CallX Tryd.prog ω 21 [] h (fun r0 h1 =>
 asB r0 fun b2 => cond (!b2)
 (R (.bool false) h1)
 (asS src_p fun s3 => cond (decide (((ByteArray.size s3 : Int) : Int) > 13000))
 (R (.bool true) h1)
 (CallX Tryd.prog ω 22 [src_p] h1 (fun r4 h5 =>
 asT r4 fun T6 => asO T6[0]? fun v7 => asT r4 fun T8 => asO T8[1]? fun v9 => asA v7 fun A10 => A10.size = 1 ∧ (∀ u ∈ A10.toList, one u) ∧ storeK (Array.push (Array.push h5 (.cells #[(.slice none 0 0)] 24 (0, 0))) (.cells #[(.int .i64 0), (.int .i64 0)] 28 (0, 0))) ⟨Array.size h5, 0, none⟩ A10.toList fun h11 =>
 asA v9 fun A12 => A12.size = 2 ∧ (∀ u ∈ A12.toList, one u) ∧ storeK h11 ⟨Array.size (Array.push h5 (.cells #[(.slice none 0 0)] 24 (0, 0))), 0, none⟩ A12.toList fun h13 =>
 CallX Tryd.prog ω 23 [src_p] h13 (fun r14 h15 =>
 asT r14 fun T16 => asO T16[0]? fun v17 => asT r14 fun T18 => asO T18[1]? fun v19 => asA v17 fun A20 => A20.size = 1 ∧ (∀ u ∈ A20.toList, one u) ∧ storeK (Array.push (Array.push h15 (.cells #[(.slice none 0 0)] 24 (0, 0))) (.cells #[(.int .i64 0), (.int .i64 0)] 28 (0, 0))) ⟨Array.size h15, 0, none⟩ A20.toList fun h21 =>
 asA v19 fun A22 => A22.size = 2 ∧ (∀ u ∈ A22.toList, one u) ∧ storeK h21 ⟨Array.size (Array.push h15 (.cells #[(.slice none 0 0)] 24 (0, 0))), 0, none⟩ A22.toList fun h23 =>
 ∃ J24 : Value → Hp → Prop,
 (∃ C28, cellsH h23 ⟨Array.size (Array.push h5 (.cells #[(.slice none 0 0)] 24 (0, 0))), 0, none⟩ 2 C28 ∧
 ∃ C29, cellsH h23 ⟨Array.size (Array.push h15 (.cells #[(.slice none 0 0)] 24 (0, 0))), 0, none⟩ 2 C29 ∧
 asO C28.toArray[0]? fun v30 => asO C29.toArray[0]? fun v31 => asK .i64 v30 fun n32 => asK .i64 v31 fun n33 => asO C28.toArray[1]? fun v34 => asO C29.toArray[1]? fun v35 => asK .i64 v34 fun n36 => asK .i64 v35 fun n37 => cond ((n32 == (n33 : Int)) && ((n36 == (n37 : Int)) && true))
 (∃ C38, cellsH h23 ⟨Array.size h5, 0, none⟩ 1 C38 ∧
 ∃ C39, cellsH h23 ⟨Array.size h15, 0, none⟩ 1 C39 ∧
 CallX Tryd.prog ω 18 [(.agg C38.toArray), (.agg C39.toArray), (.bool true)] h23 (fun r40 h41 =>
 asB r40 fun b42 => cond b42
 (∃ C43, cellsH h41 ⟨Array.size h5, 0, none⟩ 1 C43 ∧
 ∃ C44, cellsH h41 ⟨Array.size h15, 0, none⟩ 1 C44 ∧
 CallX Tryd.prog ω 24 [(.agg C43.toArray)] h41 (fun r45 h46 =>
 cellsH h46 ⟨Array.size h15, 0, none⟩ 1 C44 ∧ CallX Tryd.prog ω 25 [(.agg C44.toArray)] h46 (fun r47 h48 =>
 asK .i64 r45 fun n49 => asK .i64 r47 fun n50 => J24 (.bool (n49 == (n50 : Int))) h48) X) X)
 (J24 (.bool false) h41)) X)
 (J24 (.bool false) h23)) ∧
 ∀ t2_25 (d26 : Nat → Value) (h27 : Hp), J24 t2_25 h27 →
 R t2_25 h27) X) X))) X
def A_pipewrightlaw_SyntaxParses : Ann :=
 (.two .leaf (.two (.two .leaf (.two (.two .leaf .leaf) .leaf)) (.two (.two .leaf (.two (.two .leaf .leaf) .leaf)) (.two .leaf (.two .leaf (.two (.join [22, 23, 24, 25, 26, 27, 28, 29, 30, 31, 32, 33, 34, 35, 36, 2] [2] (.plan [0, 1, 2, 3, 4, 5, 6, 7, 8, 9, 11, 10, 12, 13, 14, 15])) .leaf))))))
theorem C_pipewrightlaw_SyntaxParses (ω : Amb) (src_p : Value) (h : Hp) (R : Value → Hp → Prop) (X : List PanicEntry → Hp → Prop) (hk : W_pipewrightlaw_SyntaxParses ω src_p h R X) : CallX Tryd.prog ω 6 [src_p] h R X :=
 callX_of (an := A_pipewrightlaw_SyntaxParses) Tryd.func6 ((show fnX Tryd.prog ω A_pipewrightlaw_SyntaxParses Tryd.f6 [src_p] h R X = W_pipewrightlaw_SyntaxParses ω src_p h R X by kernel_rfl) ▸ hk)

/-- pipewright/pipewrightlaw.syntaxBegun -/
abbrev n_pipewrightlaw_syntaxBegun : Nat := 21
def W_pipewrightlaw_syntaxBegun (ω : Amb) (h : Hp) (R : Value → Hp → Prop) (X : List PanicEntry → Hp → Prop) : Prop :=
 CallX Tryd.prog ω 22 [(.string ⟨#[115, 116, 97, 103, 101, 32, 97, 40, 41, 32, 123, 32, 101, 109, 105, 116, 32, 49, 32, 45, 32, 50, 32, 45, 32, 51, 59, 32, 125]⟩)] h (fun r0 h1 =>
 asT r0 fun T2 => asO T2[0]? fun v3 => asT r0 fun T4 => asO T4[1]? fun v5 => asA v3 fun A6 => A6.size = 1 ∧ (∀ u ∈ A6.toList, one u) ∧ storeK (Array.push (Array.push h1 (.cells #[(.slice none 0 0)] 24 (0, 0))) (.cells #[(.int .i64 0), (.int .i64 0)] 28 (0, 0))) ⟨Array.size h1, 0, none⟩ A6.toList fun h7 =>
 asA v5 fun A8 => A8.size = 2 ∧ (∀ u ∈ A8.toList, one u) ∧ storeK h7 ⟨Array.size (Array.push h1 (.cells #[(.slice none 0 0)] 24 (0, 0))), 0, none⟩ A8.toList fun h9 =>
 ∃ J10 : Value → Hp → Prop,
 (∃ v14, cellH h9 (Addr.add ⟨Array.size (Array.push h1 (.cells #[(.slice none 0 0)] 24 (0, 0))), 0, none⟩ 0) = some v14 ∧
 asK .i64 v14 fun n15 => cond (n15 == (0 : Int))
 (∃ v16, cellH h9 (Addr.add ⟨Array.size h1, 0, none⟩ 0) = some v16 ∧
 asSl v16 fun a17 l18 c19 => cond ((l18 : Int) == (1 : Int))
 (∃ v20, cellH h9 (Addr.add ⟨Array.size h1, 0, none⟩ 0) = some v20 ∧
 asSl1 v20 fun a21 l22 c23 => 0 ≤ (0 : Int) ∧ 0 < (l22 : Int) ∧ ∃ v24, cellH h9 (Addr.add (Addr.add a21 (Int.toNat 0 * 4)) 3) = some v24 ∧
 asSl v24 fun a25 l26 c27 => cond ((l26 : Int) == (1 : Int))
 (∃ v28, cellH h9 (Addr.add ⟨Array.size h1, 0, none⟩ 0) = some v28 ∧
 asSl1 v28 fun a29 l30 c31 => 0 ≤ (0 : Int) ∧ 0 < (l30 : Int) ∧ ∃ v32, cellH h9 (Addr.add (Addr.add a29 (Int.toNat 0 * 4)) 3) = some v32 ∧
 asSl1 v32 fun a33 l34 c35 => 0 ≤ (0 : Int) ∧ 0 < (l34 : Int) ∧ ∃ v36, cellH h9 (Addr.add (Addr.add a33 (Int.toNat 0 * 9)) 0) = some v36 ∧
 asK .i64 v36 fun n37 => cond (n37 == (3 : Int))
 (∃ C38, cellsH h9 ⟨Array.size h1, 0, none⟩ 1 C38 ∧
 CallX Tryd.prog ω 24 [(.agg C38.toArray)] h9 (fun r39 h40 =>
 asK .i64 r39 fun n41 => J10 (.bool (n41 == (1 : Int))) h40) X)
 (J10 (.bool false) h9))
 (J10 (.bool false) h9))
 (J10 (.bool false) h9))
 (J10 (.bool false) h9)) ∧
 ∀ t0_11 (d12 : Nat → Value) (h13 : Hp), J10 t0_11 h13 →
 R t0_11 h13) X
def A_pipewrightlaw_syntaxBegun : Ann :=
 (.two .leaf (.two .leaf (.two (.join [7, 8, 9, 10, 11, 12, 13, 14, 15, 16, 17, 18, 19, 20, 21, 22, 23, 24, 25, 26, 27, 28, 29, 30, 31, 32, 33, 34, 35, 36, 37, 38, 39, 40, 0] [0] .leaf) .leaf)))
theorem C_pipewrightlaw_syntaxBegun (ω : Amb) (h : Hp) (R : Value → Hp → Prop) (X : List PanicEntry → Hp → Prop) (hk : W_pipewrightlaw_syntaxBegun ω  h R X) : CallX Tryd.prog ω 21 [] h R X :=
 callX_of (an := A_pipewrightlaw_syntaxBegun) Tryd.func21 ((show fnX Tryd.prog ω A_pipewrightlaw_syntaxBegun Tryd.f21 [] h R X = W_pipewrightlaw_syntaxBegun ω  h R X by kernel_rfl) ▸ hk)

/-- pipewright/pipewrightref.Parse -/
abbrev n_pipewrightref_Parse : Nat := 23
def W_pipewrightref_Parse (ω : Amb) (src_p : Value) (h : Hp) (R : Value → Hp → Prop) (X : List PanicEntry → Hp → Prop) : Prop :=
 CallX Tryd.prog ω 26 [src_p] (Array.push (Array.push h (.cells #[(.slice none 0 0)] 24 (0, 0))) (.cells #[(.int .i64 0), (.int .i64 0)] 28 (0, 0))) (fun r0 h1 =>
 asT r0 fun T2 => asO T2[0]? fun v3 => asT r0 fun T4 => asO T4[1]? fun v5 => asA v5 fun A6 => A6.size = 2 ∧ (∀ u ∈ A6.toList, one u) ∧ storeK (Array.push h1 (.cells #[(.int .i64 0), (.int .i64 0)] 28 (0, 0))) ⟨Array.size h1, 0, none⟩ A6.toList fun h7 =>
 ∃ v8, cellH h7 (Addr.add ⟨Array.size h1, 0, none⟩ 0) = some v8 ∧
 asK .i64 v8 fun n9 => cond (n9 != (0 : Int))
 (∃ C10, cellsH h7 ⟨Array.size h1, 0, none⟩ 2 C10 ∧
 1 = 1 ∧ (∀ u ∈ [(.slice none 0 0)], one u) ∧ storeK h7 ⟨Array.size h, 0, none⟩ [(.slice none 0 0)] fun h11 =>
 cellsH h11 ⟨Array.size h1, 0, none⟩ 2 C10 ∧ C10.toArray.size = 2 ∧ (∀ u ∈ C10.toArray.toList, one u) ∧ storeK h11 ⟨Array.size (Array.push h (.cells #[(.slice none 0 0)] 24 (0, 0))), 0, none⟩ C10.toArray.toList fun h12 =>
 ∃ C13, cellsH h12 ⟨Array.size h, 0, none⟩ 1 C13 ∧ ∃ C14, cellsH h12 ⟨Array.size (Array.push h (.cells #[(.slice none 0 0)] 24 (0, 0))), 0, none⟩ 2 C14 ∧ R (.tuple #[(.agg C13.toArray), (.agg C14.toArray)]) h12)
 (asS src_p fun s15 => oneK v3 (∃ J16 : Hp → Prop,
 (∃ (I19 : Hp → Prop) (μ20 : Hp → Nat), I19 (Array.push (Array.push h7 (.cells #[v3, (.int .i64 0), (.int .i64 (ByteArray.size s15 : Int)), (.int .i64 0), (.int .i64 0), (.int .i64 0), (.int .i64 0)] 75 (0, 0))) (.cells #[(.slice none 0 0)] 24 (0, 0))) ∧ ∀  (d21 : Nat → Value) (h22 : Hp), I19 h22 →
 ∃ J23 : Value → Hp → Prop,
 (CallX Tryd.prog ω 43 [(.pointer (some ⟨Array.size h7, 0, none⟩))] h22 (fun r27 h28 =>
 asB r27 fun b29 => cond (!b29)
 (∃ v30, cellH h28 (Addr.add ⟨Array.size h7, 0, none⟩ 1) = some v30 ∧
 asSl v3 fun a31 l32 c33 => asK .i64 v30 fun n34 => cond (decide ((n34 : Int) < (l32 : Int)))
 (J23 (.bool true) h28)
 (∃ v35, cellH h28 (Addr.add ⟨Array.size (Array.push h7 (.cells #[v3, (.int .i64 0), (.int .i64 (ByteArray.size s15 : Int)), (.int .i64 0), (.int .i64 0), (.int .i64 0), (.int .i64 0)] 75 (0, 0))), 0, none⟩ 0) = some v35 ∧
 asSl v35 fun a36 l37 c38 => J23 (.bool ((l37 : Int) == (0 : Int))) h28))
 (J23 (.bool false) h28)) X) ∧
 ∀ t41_24 (d25 : Nat → Value) (h26 : Hp), J23 t41_24 h26 →
 asB t41_24 fun b39 => cond b39
 (CallX Tryd.prog ω 44 [(.pointer (some ⟨Array.size h7, 0, none⟩)), (.string ⟨#[115, 116, 97, 103, 101]⟩)] h26 (fun r40 h41 =>
 asB r40 fun b42 => cond (!b42)
 (CallX Tryd.prog ω 45 [(.pointer (some ⟨Array.size h7, 0, none⟩)), (.int .i64 5)] h41 (fun r43 h44 =>
 J16 h44) X)
 (∃ v45, cellH h41 (Addr.add ⟨Array.size (Array.push h7 (.cells #[v3, (.int .i64 0), (.int .i64 (ByteArray.size s15 : Int)), (.int .i64 0), (.int .i64 0), (.int .i64 0), (.int .i64 0)] 75 (0, 0))), 0, none⟩ 0) = some v45 ∧
 asSl v45 fun a46 l47 c48 => cond (decide (((l47 : Int) : Int) ≥ 10))
 (CallX Tryd.prog ω 45 [(.pointer (some ⟨Array.size h7, 0, none⟩)), (.int .i64 8)] h41 (fun r49 h50 =>
 J16 h50) X)
 (CallX Tryd.prog ω 46 [(.pointer (some ⟨Array.size h7, 0, none⟩))] h41 (fun r51 h52 =>
 oneK r51 (4 = 4 ∧ (∀ u ∈ [(.string ⟨#[]⟩), r51, (.slice none 0 0), (.slice none 0 0)], one u) ∧ storeK (Array.push h52 (.cells #[(.string ⟨#[]⟩), (.int .i64 0), (.slice none 0 0), (.slice none 0 0)] 51 (0, 0))) ⟨Array.size h52, 0, none⟩ [(.string ⟨#[]⟩), r51, (.slice none 0 0), (.slice none 0 0)] fun h53 =>
 ∃ v54, cellH h53 (Addr.add ⟨Array.size h7, 0, none⟩ 1) = some v54 ∧
 asK .i64 v54 fun n55 => storeK1 h53 (Addr.add ⟨Array.size h7, 0, none⟩ 1) (.int .i64 (IntKind.wrap .i64 (n55 + 1))) fun h56 =>
 CallX Tryd.prog ω 47 [(.pointer (some ⟨Array.size h7, 0, none⟩)), (.int .i64 2)] h56 (fun r57 h58 =>
 asA r57 fun A59 => asO A59[2]? fun v60 => oneK v60 (storeK1 h58 (Addr.add ⟨Array.size h52, 0, none⟩ 0) v60 fun h61 =>
 CallX Tryd.prog ω 48 [(.pointer (some ⟨Array.size h7, 0, none⟩)), (.bool true)] h61 (fun r62 h63 =>
 asT r62 fun T64 => asO T64[0]? fun v65 => asT r62 fun T66 => asO T66[1]? fun v67 => oneK v67 (storeK1 h63 (Addr.add ⟨Array.size h52, 0, none⟩ 2) v67 fun h68 =>
 CallX Tryd.prog ω 49 [(.pointer (some ⟨Array.size h7, 0, none⟩)), (.int .i64 1)] h68 (fun r69 h70 =>
 oneK r69 (storeK1 h70 (Addr.add ⟨Array.size h52, 0, none⟩ 3) r69 fun h71 =>
 ∃ v72, cellH h71 (Addr.add ⟨Array.size (Array.push h7 (.cells #[v3, (.int .i64 0), (.int .i64 (ByteArray.size s15 : Int)), (.int .i64 0), (.int .i64 0), (.int .i64 0), (.int .i64 0)] 75 (0, 0))), 0, none⟩ 0) = some v72 ∧
 ∃ C73, cellsH h71 ⟨Array.size h52, 0, none⟩ 4 C73 ∧
 C73.toArray.size = 4 ∧ appK Tryd.prog 22 (Array.push h71 (.cells (List.toArray (C73.toArray.toList ++ [])) 51 (0, 0))) v72 (.slice (some ⟨Array.size h71, 0, none⟩) 1 1) fun w74 h75 =>
 oneK w74 (storeK1 h75 (Addr.add ⟨Array.size (Array.push h7 (.cells #[v3, (.int .i64 0), (.int .i64 (ByteArray.size s15 : Int)), (.int .i64 0), (.int .i64 0), (.int .i64 0), (.int .i64 0)] 75 (0, 0))), 0, none⟩ 0) w74 fun h76 =>
 I19 h76 ∧ μ20 h76 < μ20 h22))) X)) X)) X)) X))) X)
 (J16 h26)) ∧
 ∀  (d17 : Nat → Value) (h18 : Hp), J16 h18 →
 CallX Tryd.prog ω 43 [(.pointer (some ⟨Array.size h7, 0, none⟩))] h18 (fun r77 h78 =>
 asB r77 fun b79 => cond b79
 (∃ C80, cellsH h78 (Addr.add ⟨Array.size h7, 0, none⟩ 3) 2 C80 ∧
 1 = 1 ∧ (∀ u ∈ [(.slice none 0 0)], one u) ∧ storeK h78 ⟨Array.size h, 0, none⟩ [(.slice none 0 0)] fun h81 =>
 cellsH h81 (Addr.add ⟨Array.size h7, 0, none⟩ 3) 2 C80 ∧ C80.toArray.size = 2 ∧ (∀ u ∈ C80.toArray.toList, one u) ∧ storeK h81 ⟨Array.size (Array.push h (.cells #[(.slice none 0 0)] 24 (0, 0))), 0, none⟩ C80.toArray.toList fun h82 =>
 ∃ C83, cellsH h82 ⟨Array.size h, 0, none⟩ 1 C83 ∧ ∃ C84, cellsH h82 ⟨Array.size (Array.push h (.cells #[(.slice none 0 0)] 24 (0, 0))), 0, none⟩ 2 C84 ∧ R (.tuple #[(.agg C83.toArray), (.agg C84.toArray)]) h82)
 (∃ C85, cellsH h78 ⟨Array.size (Array.push h7 (.cells #[v3, (.int .i64 0), (.int .i64 (ByteArray.size s15 : Int)), (.int .i64 0), (.int .i64 0), (.int .i64 0), (.int .i64 0)] 75 (0, 0))), 0, none⟩ 1 C85 ∧
 C85.toArray.size = 1 ∧ (∀ u ∈ C85.toArray.toList, one u) ∧ storeK h78 ⟨Array.size h, 0, none⟩ C85.toArray.toList fun h86 =>
 2 = 2 ∧ (∀ u ∈ [(.int .i64 0), (.int .i64 0)], one u) ∧ storeK h86 ⟨Array.size (Array.push h (.cells #[(.slice none 0 0)] 24 (0, 0))), 0, none⟩ [(.int .i64 0), (.int .i64 0)] fun h87 =>
 ∃ C88, cellsH h87 ⟨Array.size h, 0, none⟩ 1 C88 ∧ ∃ C89, cellsH h87 ⟨Array.size (Array.push h (.cells #[(.slice none 0 0)] 24 (0, 0))), 0, none⟩ 2 C89 ∧ R (.tuple #[(.agg C88.toArray), (.agg C89.toArray)]) h87)) X))) X
def A_pipewrightref_Parse : Ann :=
 (.two .leaf (.two .leaf (.two (.two .leaf (.two (.two (.plan [0, 1, 2, 3]) .leaf) .leaf)) (.two .leaf (.two .leaf (.two (.join [24, 25, 26, 27, 28, 29, 30, 31, 32, 33, 34, 35, 36, 37, 38, 39, 40, 41, 42, 43, 44, 45, 46, 47, 48, 49, 50, 51, 52, 53, 54, 55, 8, 56, 57, 58, 59, 60, 61, 62, 63, 64, 65, 66, 68, 69, 67, 70, 71, 72, 73, 74, 75, 76, 77, 78, 79, 80, 81] [] (.one (.loop [24, 25, 26, 27, 28, 29, 30, 31, 32, 33, 34, 35, 36, 37, 38, 39, 40, 41, 42, 43, 44, 45, 46, 47, 48, 49, 50, 51, 52, 53, 54, 55, 8, 56, 57, 58, 59, 60, 61, 62, 63, 64, 65, 66, 68, 69, 67, 70, 71, 72, 73, 74, 75, 76, 77, 78, 79, 80, 81] [] (.two (.two (.join [24, 25, 26, 27, 28, 29, 30, 31, 32, 33, 34, 35, 36, 37, 38, 39, 40, 41] [41] .leaf) (.two .leaf .leaf)) (.one (.two (.two .leaf (.two (.two .leaf .leaf) .leaf)) (.two (.two .leaf (.two (.two .leaf .leaf) .leaf)) (.two .leaf (.two .leaf (.two .leaf (.two .leaf (.two .leaf .leaf)))))))))))) (.two (.two .leaf (.two (.two (.plan [0, 1, 2, 3, 4, 5, 6]) .leaf) .leaf)) (.two .leaf .leaf))))))))
theorem C_pipewrightref_Parse (ω : Amb) (src_p : Value) (h : Hp) (R : Value → Hp → Prop) (X : List PanicEntry → Hp → Prop) (hk : W_pipewrightref_Parse ω src_p h R X) : CallX Tryd.prog ω 23 [src_p] h R X :=
 callX_of (an := A_pipewrightref_Parse) Tryd.func23 ((show fnX Tryd.prog ω A_pipewrightref_Parse Tryd.f23 [src_p] h R X = W_pipewrightref_Parse ω src_p h R X by kernel_rfl) ▸ hk)

/-- (*pipewright/syntax.parser).is -/
abbrev n_p_syntax_parser_is : Nat := 40
def W_p_syntax_parser_is (ω : Amb) (p_p s_p : Value) (h : Hp) (R : Value → Hp → Prop) (X : List PanicEntry → Hp → Prop) : Prop :=
 ∃ J0 : Value → Hp → Prop,
 (nnK p_p (asP p_p fun p4 =>
 ∃ v5, cellH h (Addr.add p4 0) = some v5 ∧
 asSl v5 fun a6 l7 c8 => cond (decide (((l7 : Int) : Int) > 0))
 (nnK p_p (asP p_p fun p9 =>
 ∃ v10, cellH h (Addr.add p9 0) = some v10 ∧
 asSl1 v10 fun a11 l12 c13 => 0 ≤ (0 : Int) ∧ 0 < (l12 : Int) ∧ ∃ v14, cellH h (Addr.add (Addr.add a11 (Int.toNat 0 * 4)) 0) = some v14 ∧
 asK .i64 v14 fun n15 => cond (n15 != (2 : Int))
 (nnK p_p (asP p_p fun p16 =>
 ∃ v17, cellH h (Addr.add p16 0) = some v17 ∧
 asSl1 v17 fun a18 l19 c20 => 0 ≤ (0 : Int) ∧ 0 < (l19 : Int) ∧ ∃ v21, cellH h (Addr.add (Addr.add a18 (Int.toNat 0 * 4)) 2) = some v21 ∧
 asS v21 fun s22 => asS s_p fun s23 => J0 (.bool (ByteArray.toList s22 == ByteArray.toList s23)) h))
 (J0 (.bool false) h)))
 (J0 (.bool false) h))) ∧
 ∀ t4_1 (d2 : Nat → Value) (h3 : Hp), J0 t4_1 h3 →
 R t4_1 h3
def A_p_syntax_parser_is : Ann :=
 (.two .leaf (.two (.join [5, 6, 7, 8, 9, 10, 11, 12, 13, 14, 15, 16, 17, 18, 19, 20, 21, 22, 23, 24, 25, 26, 27, 28, 29, 30, 31, 4] [4] .leaf) .leaf))
theorem C_p_syntax_parser_is (ω : Amb) (p_p s_p : Value) (h : Hp) (R : Value → Hp → Prop) (X : List PanicEntry → Hp → Prop) (hk : W_p_syntax_parser_is ω p_p s_p h R X) : CallX Tryd.prog ω 40 [p_p, s_p] h R X :=
 callX_of (an := A_p_syntax_parser_is) Tryd.func40 ((show fnX Tryd.prog ω A_p_syntax_parser_is Tryd.f40 [p_p, s_p] h R X = W_p_syntax_parser_is ω p_p s_p h R X by kernel_rfl) ▸ hk)

/-- (*pipewright/syntax.parser).fail -/
abbrev n_p_syntax_parser_fail : Nat := 41
def W_p_syntax_parser_fail (ω : Amb) (p_p code_p : Value) (h : Hp) (R : Value → Hp → Prop) (X : List PanicEntry → Hp → Prop) : Prop :=
 nnK p_p (asP p_p fun p0 =>
 ∃ v1, cellH h (Addr.add p0 1) = some v1 ∧
 nnK p_p (asP p_p fun p2 =>
 ∃ v3, cellH h (Addr.add p2 0) = some v3 ∧
 asSl v3 fun a4 l5 c6 => ∃ J7 : Value → Value → Hp → Prop,
 (cond (decide (((l5 : Int) : Int) > 0))
 (nnK p_p (asP p_p fun p12 =>
 ∃ v13, cellH h (Addr.add p12 0) = some v13 ∧
 asSl1 v13 fun a14 l15 c16 => 0 ≤ (0 : Int) ∧ 0 < (l15 : Int) ∧ ∃ v17, cellH h (Addr.add (Addr.add a14 (Int.toNat 0 * 4)) 1) = some v17 ∧
 J7 v17 code_p h))
 (asK .i64 code_p fun n18 => ∃ J19 : Value → Hp → Prop,
 (cond (n18 == (5 : Int))
 (J19 (.int .i64 6) h)
 (J19 code_p h)) ∧
 ∀ code_20 (d21 : Nat → Value) (h22 : Hp), J19 code_20 h22 →
 J7 v1 code_20 h22)) ∧
 ∀ at_8 code_9 (d10 : Nat → Value) (h11 : Hp), J7 at_8 code_9 h11 →
 oneK code_9 (oneK at_8 (X [⟨.iface 66 (.agg #[code_9, at_8]), false, false⟩] h11))))
def A_p_syntax_parser_fail : Ann :=
 (.two .leaf (.two (.two .leaf (.join [15, 16, 17, 18, 19, 20, 21, 4, 22, 23, 1] [4, 1] (.two .leaf (.two .leaf (.join [1] [1] (.two .leaf .leaf)))))) .leaf))
theorem C_p_syntax_parser_fail (ω : Amb) (p_p code_p : Value) (h : Hp) (R : Value → Hp → Prop) (X : List PanicEntry → Hp → Prop) (hk : W_p_syntax_parser_fail ω p_p code_p h R X) : CallX Tryd.prog ω 41 [p_p, code_p] h R X :=
 callX_of (an := A_p_syntax_parser_fail) Tryd.func41 ((show fnX Tryd.prog ω A_p_syntax_parser_fail Tryd.f41 [p_p, code_p] h R X = W_p_syntax_parser_fail ω p_p code_p h R X by kernel_rfl) ▸ hk)

/-- (*pipewright/syntax.parser).stage -/
abbrev n_p_syntax_parser_stage : Nat := 42
def W_p_syntax_parser_stage (ω : Amb) (p_p : Value) (h : Hp) (R : Value → Hp → Prop) (X : List PanicEntry → Hp → Prop) : Prop :=
 nnK p_p (asP p_p fun p0 =>
 ∃ v1, cellH (Array.push h (.cells #[(.string ⟨#[]⟩), (.int .i64 0), (.slice none 0 0), (.slice none 0 0)] 51 (0, 0))) (Addr.add p0 0) = some v1 ∧
 asSl1 v1 fun a2 l3 c4 => 0 ≤ (0 : Int) ∧ 0 < (l3 : Int) ∧ ∃ v5, cellH (Array.push h (.cells #[(.string ⟨#[]⟩), (.int .i64 0), (.slice none 0 0), (.slice none 0 0)] 51 (0, 0))) (Addr.add (Addr.add a2 (Int.toNat 0 * 4)) 1) = some v5 ∧
 oneK v5 (4 = 4 ∧ (∀ u ∈ [(.string ⟨#[]⟩), v5, (.slice none 0 0), (.slice none 0 0)], one u) ∧ storeK (Array.push (Array.push h (.cells #[(.string ⟨#[]⟩), (.int .i64 0), (.slice none 0 0), (.slice none 0 0)] 51 (0, 0))) (.cells #[(.string ⟨#[]⟩), (.int .i64 0), (.slice none 0 0), (.slice none 0 0)] 51 (0, 0))) ⟨Array.size (Array.push h (.cells #[(.string ⟨#[]⟩), (.int .i64 0), (.slice none 0 0), (.slice none 0 0)] 51 (0, 0))), 0, none⟩ [(.string ⟨#[]⟩), v5, (.slice none 0 0), (.slice none 0 0)] fun h6 =>
 CallX Tryd.prog ω 76 [p_p] h6 (fun r7 h8 =>
 CallX Tryd.prog ω 77 [p_p] h8 (fun r9 h10 =>
 oneK r9 (storeK1 h10 (Addr.add ⟨Array.size (Array.push h (.cells #[(.string ⟨#[]⟩), (.int .i64 0), (.slice none 0 0), (.slice none 0 0)] 51 (0, 0))), 0, none⟩ 0) r9 fun h11 =>
 CallX Tryd.prog ω 78 [p_p, (.slice (some ⟨Array.size h11, 0, none⟩) 1 1)] (Array.push h11 (.cells (List.toArray [(.string ⟨#[40]⟩)]) 9 (0, 0))) (fun r12 h13 =>
 ∃ (I14 : Hp → Prop) (μ15 : Hp → Nat), I14 h13 ∧ ∀  (d16 : Nat → Value) (h17 : Hp), I14 h17 →
 CallX Tryd.prog ω 40 [p_p, (.string ⟨#[41]⟩)] h17 (fun r18 h19 =>
 asB r18 fun b20 => cond (!b20)
 (∃ v21, cellH h19 (Addr.add ⟨Array.size (Array.push h (.cells #[(.string ⟨#[]⟩), (.int .i64 0), (.slice none 0 0), (.slice none 0 0)] 51 (0, 0))), 0, none⟩ 2) = some v21 ∧
 asSl v21 fun a22 l23 c24 => ∃ J25 : Hp → Prop,
 (cond (decide (((l23 : Int) : Int) > 0))
 (CallX Tryd.prog ω 78 [p_p, (.slice (some ⟨Array.size h19, 0, none⟩) 1 1)] (Array.push h19 (.cells (List.toArray [(.string ⟨#[44]⟩)]) 9 (0, 0))) (fun r28 h29 =>
 J25 h29) X)
 (J25 h19)) ∧
 ∀  (d26 : Nat → Value) (h27 : Hp), J25 h27 →
 ∃ v30, cellH h27 (Addr.add ⟨Array.size (Array.push h (.cells #[(.string ⟨#[]⟩), (.int .i64 0), (.slice none 0 0), (.slice none 0 0)] 51 (0, 0))), 0, none⟩ 2) = some v30 ∧
 asSl v30 fun a31 l32 c33 => ∃ J34 : Hp → Prop,
 (cond ((l32 : Int) == (6 : Int))
 (CallX Tryd.prog ω 41 [p_p, (.int .i64 8)] h27 (fun r37 h38 =>
 J34 h38) X)
 (J34 h27)) ∧
 ∀  (d35 : Nat → Value) (h36 : Hp), J34 h36 →
 CallX Tryd.prog ω 77 [p_p] h36 (fun r39 h40 =>
 ∃ v41, cellH h40 (Addr.add ⟨Array.size (Array.push h (.cells #[(.string ⟨#[]⟩), (.int .i64 0), (.slice none 0 0), (.slice none 0 0)] 51 (0, 0))), 0, none⟩ 2) = some v41 ∧
 CallX Tryd.prog ω 79 [p_p] h40 (fun r42 h43 =>
 cellH h43 (Addr.add ⟨Array.size (Array.push h (.cells #[(.string ⟨#[]⟩), (.int .i64 0), (.slice none 0 0), (.slice none 0 0)] 51 (0, 0))), 0, none⟩ 2) = some v41 ∧ oneK r39 (oneK r42 (2 = 2 ∧ cellH (Array.push h43 (.cells (List.toArray [r39, r42]) 54 (0, 0))) (Addr.add ⟨Array.size (Array.push h (.cells #[(.string ⟨#[]⟩), (.int .i64 0), (.slice none 0 0), (.slice none 0 0)] 51 (0, 0))), 0, none⟩ 2) = some v41 ∧ appK Tryd.prog 48 (Array.push h43 (.cells (List.toArray [r39, r42]) 54 (0, 0))) v41 (.slice (some ⟨Array.size h43, 0, none⟩) 1 1) fun w44 h45 =>
 oneK w44 (storeK1 h45 (Addr.add ⟨Array.size (Array.push h (.cells #[(.string ⟨#[]⟩), (.int .i64 0), (.slice none 0 0), (.slice none 0 0)] 51 (0, 0))), 0, none⟩ 2) w44 fun h46 =>
 I14 h46 ∧ μ15 h46 < μ15 h17)))) X) X)
 (CallX Tryd.prog ω 76 [p_p] h19 (fun r47 h48 =>
 CallX Tryd.prog ω 80 [p_p] h48 (fun r49 h50 =>
 oneK r49 (storeK1 h50 (Addr.add ⟨Array.size (Array.push h (.cells #[(.string ⟨#[]⟩), (.int .i64 0), (.slice none 0 0), (.slice none 0 0)] 51 (0, 0))), 0, none⟩ 3) r49 fun h51 =>
 ∃ C52, cellsH h51 ⟨Array.size (Array.push h (.cells #[(.string ⟨#[]⟩), (.int .i64 0), (.slice none 0 0), (.slice none 0 0)] 51 (0, 0))), 0, none⟩ 4 C52 ∧
 C52.toArray.size = 4 ∧ (∀ u ∈ C52.toArray.toList, one u) ∧ storeK h51 ⟨Array.size h, 0, none⟩ C52.toArray.toList fun h53 =>
 ∃ C54, cellsH h53 ⟨Array.size h, 0, none⟩ 4 C54 ∧ R (.agg C54.toArray) h53)) X) X)) X) X)) X) X))
def A_p_syntax_parser_stage : Ann :=
 (.two .leaf (.two .leaf (.two .leaf (.two .leaf (.two .leaf (.two (.one (.loop [21, 22, 23, 24, 25, 26, 27, 28, 29, 30, 31, 32, 33, 34, 35, 36, 37, 38, 4, 39, 40, 41, 42, 43, 44, 45, 46, 47] [] (.two (.two .leaf (.two .leaf .leaf)) (.one (.two (.two .leaf (.join [28, 29, 30] [] (.two .leaf .leaf))) (.two (.two .leaf (.join [35, 36] [] (.two .leaf .leaf))) (.two .leaf (.plan [0, 1, 2, 3, 4, 5, 6, 7, 8, 9])))))))) (.two .leaf (.two .leaf (.two .leaf .leaf)))))))))
theorem C_p_syntax_parser_stage (ω : Amb) (p_p : Value) (h : Hp) (R : Value → Hp → Prop) (X : List PanicEntry → Hp → Prop) (hk : W_p_syntax_parser_stage ω p_p h R X) : CallX Tryd.prog ω 42 [p_p] h R X :=
 callX_of (an := A_p_syntax_parser_stage) Tryd.func42 ((show fnX Tryd.prog ω A_p_syntax_parser_stage Tryd.f42 [p_p] h R X = W_p_syntax_parser_stage ω p_p h R X by kernel_rfl) ▸ hk)

/-- (*pipewright/pipewrightref.reading).bad -/
abbrev n_p_pipewrightref_reading_bad : Nat := 43
def W_p_pipewrightref_reading_bad (ω : Amb) (r_p : Value) (h : Hp) (R : Value → Hp → Prop) (X : List PanicEntry → Hp → Prop) : Prop :=
 nnK r_p (asP r_p fun p0 =>
 ∃ v1, cellH h (Addr.add (Addr.add p0 3) 0) = some v1 ∧
 asK .i64 v1 fun n2 => R (.bool (n2 != (0 : Int))) h)
def A_p_pipewrightref_reading_bad : Ann :=
 (.two .leaf (.two .leaf .leaf))
theorem C_p_pipewrightref_reading_bad (ω : Amb) (r_p : Value) (h : Hp) (R : Value → Hp → Prop) (X : List PanicEntry → Hp → Prop) (hk : W_p_pipewrightref_reading_bad ω r_p h R X) : CallX Tryd.prog ω 43 [r_p] h R X :=
 callX_of (an := A_p_pipewrightref_reading_bad) Tryd.func43 ((show fnX Tryd.prog ω A_p_pipewrightref_reading_bad Tryd.f43 [r_p] h R X = W_p_pipewrightref_reading_bad ω r_p h R X by kernel_rfl) ▸ hk)

/-- (*pipewright/pipewrightref.reading).sees -/
abbrev n_p_pipewrightref_reading_sees : Nat := 44
def W_p_pipewrightref_reading_sees (ω : Amb) (r_p s_p : Value) (h : Hp) (R : Value → Hp → Prop) (X : List PanicEntry → Hp → Prop) : Prop :=
 ∃ J0 : Value → Hp → Prop,
 (nnK r_p (asP r_p fun p4 =>
 ∃ v5, cellH h (Addr.add p4 1) = some v5 ∧
 nnK r_p (asP r_p fun p6 =>
 ∃ v7, cellH h (Addr.add p6 0) = some v7 ∧
 asSl v7 fun a8 l9 c10 => asK .i64 v5 fun n11 => cond (decide ((n11 : Int) < (l9 : Int)))
 (nnK r_p (asP r_p fun p12 =>
 ∃ v13, cellH h (Addr.add p12 0) = some v13 ∧
 nnK r_p (asP r_p fun p14 =>
 ∃ v15, cellH h (Addr.add p14 1) = some v15 ∧
 asSl1 v13 fun a16 l17 c18 => asI v15 fun n19 => 0 ≤ (n19 : Int) ∧ n19 < (l17 : Int) ∧ ∃ v20, cellH h (Addr.add (Addr.add a16 (Int.toNat n19 * 4)) 2) = some v20 ∧
 asS v20 fun s21 => asS s_p fun s22 => cond (ByteArray.toList s21 == ByteArray.toList s22)
 (nnK r_p (asP r_p fun p23 =>
 ∃ v24, cellH h (Addr.add p23 0) = some v24 ∧
 nnK r_p (asP r_p fun p25 =>
 ∃ v26, cellH h (Addr.add p25 1) = some v26 ∧
 asSl1 v24 fun a27 l28 c29 => asI v26 fun n30 => 0 ≤ (n30 : Int) ∧ n30 < (l28 : Int) ∧ ∃ v31, cellH h (Addr.add (Addr.add a27 (Int.toNat n30 * 4)) 0) = some v31 ∧
 asK .i64 v31 fun n32 => cond (n32 == (1 : Int))
 (J0 (.bool true) h)
 (nnK r_p (asP r_p fun p33 =>
 ∃ v34, cellH h (Addr.add p33 0) = some v34 ∧
 nnK r_p (asP r_p fun p35 =>
 ∃ v36, cellH h (Addr.add p35 1) = some v36 ∧
 asSl1 v34 fun a37 l38 c39 => asI v36 fun n40 => 0 ≤ (n40 : Int) ∧ n40 < (l38 : Int) ∧ ∃ v41, cellH h (Addr.add (Addr.add a37 (Int.toNat n40 * 4)) 0) = some v41 ∧
 asK .i64 v41 fun n42 => J0 (.bool (n42 == (4 : Int))) h))))))
 (J0 (.bool false) h))))
 (J0 (.bool false) h)))) ∧
 ∀ t4_1 (d2 : Nat → Value) (h3 : Hp), J0 t4_1 h3 →
 R t4_1 h3
def A_p_pipewrightref_reading_sees : Ann :=
 (.two .leaf (.two (.join [5, 6, 7, 8, 9, 10, 11, 12, 13, 14, 15, 16, 17, 18, 19, 20, 21, 22, 23, 24, 25, 26, 27, 28, 29, 30, 31, 32, 33, 34, 35, 36, 37, 38, 39, 40, 41, 42, 43, 44, 45, 46, 47, 48, 49, 50, 51, 52, 53, 54, 55, 56, 57, 4] [4] (.plan [0, 1, 2, 3, 4, 5, 6, 7, 8, 9, 10, 11, 12, 13, 14, 15, 16, 17, 18, 19, 20, 21, 22, 23, 24, 25, 26, 27, 28, 29, 30, 31, 32, 33, 34, 35, 36, 37, 38, 39, 40, 41, 42, 43, 44, 45, 46, 47, 48, 49, 50, 51, 52, 53])) .leaf))
theorem C_p_pipewrightref_reading_sees (ω : Amb) (r_p s_p : Value) (h : Hp) (R : Value → Hp → Prop) (X : List PanicEntry → Hp → Prop) (hk : W_p_pipewrightref_reading_sees ω r_p s_p h R X) : CallX Tryd.prog ω 44 [r_p, s_p] h R X :=
 callX_of (an := A_p_pipewrightref_reading_sees) Tryd.func44 ((show fnX Tryd.prog ω A_p_pipewrightref_reading_sees Tryd.f44 [r_p, s_p] h R X = W_p_pipewrightref_reading_sees ω r_p s_p h R X by kernel_rfl) ▸ hk)

/-- (*pipewright/pipewrightref.reading).wrong -/
abbrev n_p_pipewrightref_reading_wrong : Nat := 45
def W_p_pipewrightref_reading_wrong (ω : Amb) (r_p code_p : Value) (h : Hp) (R : Value → Hp → Prop) (X : List PanicEntry → Hp → Prop) : Prop :=
 CallX Tryd.prog ω 43 [r_p] h (fun r0 h1 =>
 asB r0 fun b2 => cond b2
 (R (.tuple #[]) h1)
 (∃ β3 : Bool,
 (asK .i64 code_p fun n5 => cond (n5 == (5 : Int))
 (nnK r_p (asP r_p fun p6 =>
 ∃ v7, cellH h1 (Addr.add p6 1) = some v7 ∧
 nnK r_p (asP r_p fun p8 =>
 ∃ v9, cellH h1 (Addr.add p8 0) = some v9 ∧
 asSl v9 fun a10 l11 c12 => asK .i64 v7 fun n13 => ((.bool (decide ((n13 : Int) ≥ (l11 : Int)))) : Value) = .bool β3 ∧ h1 = h1)))
 (((.bool false) : Value) = .bool β3 ∧ h1 = h1)) ∧
 ∀ d4 : Nat → Value,
 ∃ J14 : Value → Hp → Prop,
 (cond β3
 (J14 (.int .i64 6) h1)
 (J14 code_p h1)) ∧
 ∀ code_15 (d16 : Nat → Value) (h17 : Hp), J14 code_15 h17 →
 CallX Tryd.prog ω 46 [r_p] h17 (fun r18 h19 =>
 CallX Tryd.prog ω 32 [code_15, r18] h19 (fun r20 h21 =>
 nnK r_p (asP r_p fun p22 =>
 asA r20 fun A23 => A23.size = 2 ∧ (∀ u ∈ A23.toList, one u) ∧ storeK h21 (Addr.add p22 3) A23.toList fun h24 =>
 R (.tuple #[]) h24)) X) X)) X
def A_p_pipewrightref_reading_wrong : Ann :=
 (.two (.two .leaf (.two .leaf .leaf)) (.two (.two (.jb [6, 7, 8, 9, 10, 11, 12, 13, 14, 15, 16, 17, 18, 19] 19 (.plan [0, 1, 2, 3, 4, 5, 6, 7, 8, 9, 10, 11, 12, 13])) (.join [1] [1] (.two .leaf .leaf))) .leaf))
theorem C_p_pipewrightref_reading_wrong (ω : Amb) (r_p code_p : Value) (h : Hp) (R : Value → Hp → Prop) (X : List PanicEntry → Hp → Prop) (hk : W_p_pipewrightref_reading_wrong ω r_p code_p h R X) : CallX Tryd.prog ω 45 [r_p, code_p] h R X :=
 callX_of (an := A_p_pipewrightref_reading_wrong) Tryd.func45 ((show fnX Tryd.prog ω A_p_pipewrightref_reading_wrong Tryd.f45 [r_p, code_p] h R X = W_p_pipewrightref_reading_wrong ω r_p code_p h R X by kernel_rfl) ▸ hk)

/-- (*pipewright/pipewrightref.reading).place -/
abbrev n_p_pipewrightref_reading_place : Nat := 46
def W_p_pipewrightref_reading_place (ω : Amb) (r_p : Value) (h : Hp) (R : Value → Hp → Prop) (X : List PanicEntry → Hp → Prop) : Prop :=
 nnK r_p (asP r_p fun p0 =>
 ∃ v1, cellH h (Addr.add p0 1) = some v1 ∧
 nnK r_p (asP r_p fun p2 =>
 ∃ v3, cellH h (Addr.add p2 0) = some v3 ∧
 asSl v3 fun a4 l5 c6 => asK .i64 v1 fun n7 => cond (decide ((n7 : Int) < (l5 : Int)))
 (nnK r_p (asP r_p fun p8 =>
 ∃ v9, cellH h (Addr.add p8 0) = some v9 ∧
 nnK r_p (asP r_p fun p10 =>
 ∃ v11, cellH h (Addr.add p10 1) = some v11 ∧
 asSl1 v9 fun a12 l13 c14 => asI v11 fun n15 => 0 ≤ (n15 : Int) ∧ n15 < (l13 : Int) ∧ ∃ v16, cellH h (Addr.add (Addr.add a12 (Int.toNat n15 * 4)) 1) = some v16 ∧
 R v16 h)))
 (nnK r_p (asP r_p fun p17 =>
 ∃ v18, cellH h (Addr.add p17 2) = some v18 ∧
 R v18 h))))
def A_p_pipewrightref_reading_place : Ann :=
 (.two .leaf (.two (.two (.plan [0, 1, 2, 3, 4, 5, 6, 7, 8, 9]) (.two (.two (.plan [0, 1, 2, 3, 4, 5, 6, 7, 8, 9, 10, 11]) .leaf) .leaf)) (.two .leaf .leaf)))
theorem C_p_pipewrightref_reading_place (ω : Amb) (r_p : Value) (h : Hp) (R : Value → Hp → Prop) (X : List PanicEntry → Hp → Prop) (hk : W_p_pipewrightref_reading_place ω r_p h R X) : CallX Tryd.prog ω 46 [r_p] h R X :=
 callX_of (an := A_p_pipewrightref_reading_place) Tryd.func46 ((show fnX Tryd.prog ω A_p_pipewrightref_reading_place Tryd.f46 [r_p] h R X = W_p_pipewrightref_reading_place ω r_p h R X by kernel_rfl) ▸ hk)

/-- (*pipewright/pipewrightref.reading).of -/
abbrev n_p_pipewrightref_reading_of : Nat := 47
def W_p_pipewrightref_reading_of (ω : Amb) (r_p kind_p : Value) (h : Hp) (R : Value → Hp → Prop) (X : List PanicEntry → Hp → Prop) : Prop :=
 CallX Tryd.prog ω 43 [r_p] (Array.push h (.cells #[(.int .i64 0), (.int .i64 0), (.string ⟨#[]⟩), (.int .i64 0)] 46 (0, 0))) (fun r0 h1 =>
 asB r0 fun b2 => cond b2
 (4 = 4 ∧ (∀ u ∈ [(.int .i64 0), (.int .i64 0), (.string ⟨#[]⟩), (.int .i64 0)], one u) ∧ storeK h1 ⟨Array.size h, 0, none⟩ [(.int .i64 0), (.int .i64 0), (.string ⟨#[]⟩), (.int .i64 0)] fun h3 =>
 ∃ C4, cellsH h3 ⟨Array.size h, 0, none⟩ 4 C4 ∧ R (.agg C4.toArray) h3)
 (∃ β5 : Bool,
 (nnK r_p (asP r_p fun p7 =>
 ∃ v8, cellH h1 (Addr.add p7 1) = some v8 ∧
 nnK r_p (asP r_p fun p9 =>
 ∃ v10, cellH h1 (Addr.add p9 0) = some v10 ∧
 asSl v10 fun a11 l12 c13 => asK .i64 v8 fun n14 => cond (decide ((n14 : Int) ≥ (l12 : Int)))
 (((.bool true) : Value) = .bool β5 ∧ h1 = h1)
 (nnK r_p (asP r_p fun p15 =>
 ∃ v16, cellH h1 (Addr.add p15 0) = some v16 ∧
 nnK r_p (asP r_p fun p17 =>
 ∃ v18, cellH h1 (Addr.add p17 1) = some v18 ∧
 asSl1 v16 fun a19 l20 c21 => asI v18 fun n22 => 0 ≤ (n22 : Int) ∧ n22 < (l20 : Int) ∧ ∃ v23, cellH h1 (Addr.add (Addr.add a19 (Int.toNat n22 * 4)) 0) = some v23 ∧
 asK .i64 v23 fun n24 => asK .i64 kind_p fun n25 => ((.bool (n24 != (n25 : Int))) : Value) = .bool β5 ∧ h1 = h1)))))) ∧
 ∀ d6 : Nat → Value,
 cond β5
 (CallX Tryd.prog ω 45 [r_p, (.int .i64 5)] h1 (fun r26 h27 =>
 4 = 4 ∧ (∀ u ∈ [(.int .i64 0), (.int .i64 0), (.string ⟨#[]⟩), (.int .i64 0)], one u) ∧ storeK h27 ⟨Array.size h, 0, none⟩ [(.int .i64 0), (.int .i64 0), (.string ⟨#[]⟩), (.int .i64 0)] fun h28 =>
 ∃ C29, cellsH h28 ⟨Array.size h, 0, none⟩ 4 C29 ∧ R (.agg C29.toArray) h28) X)
 (nnK r_p (asP r_p fun p30 =>
 ∃ v31, cellH h1 (Addr.add p30 1) = some v31 ∧
 asK .i64 v31 fun n32 => nnK r_p (asP r_p fun p33 =>
 storeK1 h1 (Addr.add p33 1) (.int .i64 (IntKind.wrap .i64 (n32 + 1))) fun h34 =>
 nnK r_p (asP r_p fun p35 =>
 ∃ v36, cellH h34 (Addr.add p35 0) = some v36 ∧
 nnK r_p (asP r_p fun p37 =>
 ∃ v38, cellH h34 (Addr.add p37 1) = some v38 ∧
 asK .i64 v38 fun n39 => asSl1 v36 fun a40 l41 c42 => 0 ≤ ((IntKind.wrap .i64 (n39 - 1)) : Int) ∧ (IntKind.wrap .i64 (n39 - 1)) < (l41 : Int) ∧ ∃ C43, cellsH h34 (Addr.add a40 (Int.toNat (IntKind.wrap .i64 (n39 - 1)) * 4)) 4 C43 ∧
 C43.toArray.size = 4 ∧ (∀ u ∈ C43.toArray.toList, one u) ∧ storeK h34 ⟨Array.size h, 0, none⟩ C43.toArray.toList fun h44 =>
 ∃ C45, cellsH h44 ⟨Array.size h, 0, none⟩ 4 C45 ∧ R (.agg C45.toArray) h44))))))) X
def A_p_pipewrightref_reading_of : Ann :=
 (.two .leaf (.two (.two .leaf (.two (.two .leaf .leaf) .leaf)) (.two (.two (.jb [8, 9, 10, 11, 12, 13, 14, 15, 16, 17, 18, 19, 20, 21, 22, 23, 24, 25, 26, 27, 28, 29, 30, 31, 32] 32 (.plan [0, 1, 2, 3, 4, 5, 6, 7, 8, 9, 10, 11, 12, 13, 14, 15, 16, 17, 18, 19, 20, 21, 22, 23, 24])) (.two (.two .leaf (.two .leaf .leaf)) .leaf)) (.two .leaf (.two (.plan [0, 1, 2, 3, 4, 5, 6, 7, 8, 9, 10, 11]) .leaf)))))
theorem C_p_pipewrightref_reading_of (ω : Amb) (r_p kind_p : Value) (h : Hp) (R : Value → Hp → Prop) (X : List PanicEntry → Hp → Prop) (hk : W_p_pipewrightref_reading_of ω r_p kind_p h R X) : CallX Tryd.prog ω 47 [r_p, kind_p] h R X :=
 callX_of (an := A_p_pipewrightref_reading_of) Tryd.func47 ((show fnX Tryd.prog ω A_p_pipewrightref_reading_of Tryd.f47 [r_p, kind_p] h R X = W_p_pipewrightref_reading_of ω r_p kind_p h R X by kernel_rfl) ▸ hk)

/-- (*pipewright/pipewrightref.reading).list -/
abbrev n_p_pipewrightref_reading_list : Nat := 48
def W_p_pipewrightref_reading_list (ω : Amb) (r_p params_p : Value) (h : Hp) (R : Value → Hp → Prop) (X : List PanicEntry → Hp → Prop) : Prop :=
 CallX Tryd.prog ω 81 [r_p, (.string ⟨#[40]⟩)] h (fun r0 h1 =>
 ∃ (I2 : Value → Value → Value → Hp → Prop) (μ3 : Value → Value → Value → Hp → Nat), I2 (.slice none 0 0) (.slice none 0 0) (.int .i64 0) h1 ∧ ∀ p_4 l_5 n_6 (d7 : Nat → Value) (h8 : Hp), I2 p_4 l_5 n_6 h8 →
 ∃ J9 : Value → Hp → Prop,
 (CallX Tryd.prog ω 43 [r_p] h8 (fun r13 h14 =>
 asB r13 fun b15 => cond (!b15)
 (CallX Tryd.prog ω 44 [r_p, (.string ⟨#[41]⟩)] h14 (fun r16 h17 =>
 asB r16 fun b18 => J9 (.bool (!b18)) h17) X)
 (J9 (.bool false) h14)) X) ∧
 ∀ t19_10 (d11 : Nat → Value) (h12 : Hp), J9 t19_10 h12 →
 asB t19_10 fun b19 => cond b19
 (∃ J20 : Value → Value → Hp → Prop,
 (asK .i64 n_6 fun n25 => ∃ J26 : Hp → Prop,
 (cond (decide ((n25 : Int) > 0))
 (CallX Tryd.prog ω 81 [r_p, (.string ⟨#[44]⟩)] h12 (fun r29 h30 =>
 J26 h30) X)
 (J26 h12)) ∧
 ∀  (d27 : Nat → Value) (h28 : Hp), J26 h28 →
 asK .i64 n_6 fun n31 => ∃ J32 : Hp → Prop,
 (cond (decide ((n31 : Int) ≥ 6))
 (CallX Tryd.prog ω 45 [r_p, (.int .i64 8)] h28 (fun r35 h36 =>
 J32 h36) X)
 (J32 h28)) ∧
 ∀  (d33 : Nat → Value) (h34 : Hp), J32 h34 →
 ∃ J37 : Value → Value → Hp → Prop,
 (asB params_p fun b42 => cond b42
 (CallX Tryd.prog ω 47 [r_p, (.int .i64 2)] h34 (fun r43 h44 =>
 asA r43 fun A45 => asO A45[2]? fun v46 => CallX Tryd.prog ω 82 [r_p] h44 (fun r47 h48 =>
 oneK v46 (oneK r47 (2 = 2 ∧ appK Tryd.prog 48 (Array.push h48 (.cells (List.toArray [v46, r47]) 54 (0, 0))) p_4 (.slice (some ⟨Array.size h48, 0, none⟩) 1 1) fun w49 h50 =>
 J37 w49 l_5 h50))) X) X)
 (CallX Tryd.prog ω 83 [r_p] h34 (fun r51 h52 =>
 asA r51 fun A53 => A53.size = 4 ∧ appK Tryd.prog 63 (Array.push h52 (.cells (List.toArray (A53.toList ++ [])) 118 (0, 0))) l_5 (.slice (some ⟨Array.size h52, 0, none⟩) 1 1) fun w54 h55 =>
 J37 p_4 w54 h55) X)) ∧
 ∀ p_38 l_39 (d40 : Nat → Value) (h41 : Hp), J37 p_38 l_39 h41 →
 J20 p_38 l_39 h41) ∧
 ∀ p_21 l_22 (d23 : Nat → Value) (h24 : Hp), J20 p_21 l_22 h24 →
 asK .i64 n_6 fun n56 => I2 p_21 l_22 (.int .i64 (IntKind.wrap .i64 (n56 + 1))) h24 ∧ μ3 p_21 l_22 (.int .i64 (IntKind.wrap .i64 (n56 + 1))) h24 < μ3 p_4 l_5 n_6 h8)
 (CallX Tryd.prog ω 81 [r_p, (.string ⟨#[41]⟩)] h12 (fun r57 h58 =>
 R (.tuple #[l_5, p_4]) h58) X)) X
def A_p_pipewrightref_reading_list : Ann :=
 (.two .leaf (.two .leaf (.two .leaf (.two .leaf (.two (.two .leaf (.one (.loop [12, 13, 14, 15, 16, 17, 18, 19, 22, 23, 24, 25, 26, 27, 28, 29, 30, 31, 32, 33, 9, 34, 35, 36, 37, 38, 39, 40, 7, 41, 42, 43, 44, 45, 6, 20, 21, 8] [7, 6, 8] (.two (.two (.join [12, 13, 14, 15, 16, 17, 18, 19] [19] .leaf) (.two .leaf .leaf)) (.two (.join [22, 23, 24, 25, 26, 27, 28, 29, 30, 31, 32, 33, 9, 34, 35, 36, 37, 38, 39, 40, 7, 41, 42, 43, 44, 45, 6] [7, 6] (.one (.two (.two .leaf (.join [24, 25] [] (.two .leaf .leaf))) (.two (.two .leaf (.join [28, 29] [] (.two .leaf .leaf))) (.two .leaf (.join [31, 32, 33, 9, 34, 35, 36, 37, 38, 39, 40, 7, 41, 42, 43, 44, 45, 6] [7, 6] (.two (.two .leaf .leaf) .leaf))))))) .leaf))))) (.two .leaf (.two .leaf .leaf)))))))
theorem C_p_pipewrightref_reading_list (ω : Amb) (r_p params_p : Value) (h : Hp) (R : Value → Hp → Prop) (X : List PanicEntry → Hp → Prop) (hk : W_p_pipewrightref_reading_list ω r_p params_p h R X) : CallX Tryd.prog ω 48 [r_p, params_p] h R X :=
 callX_of (an := A_p_pipewrightref_reading_list) Tryd.func48 ((show fnX Tryd.prog ω A_p_pipewrightref_reading_list Tryd.f48 [r_p, params_p] h R X = W_p_pipewrightref_reading_list ω r_p params_p h R X by kernel_rfl) ▸ hk)

/-- (*pipewright/pipewrightref.reading).block -/
abbrev n_p_pipewrightref_reading_block : Nat := 49
def W_p_pipewrightref_reading_block (ω : Amb) (r_p deep_p : Value) (h : Hp) (R : Value → Hp → Prop) (X : List PanicEntry → Hp → Prop) : Prop :=
 CallX Tryd.prog ω 43 [r_p] h (fun r0 h1 =>
 asB r0 fun b2 => cond b2
 (R (.slice none 0 0) h1)
 (∃ J3 : Value → Hp → Prop,
 (CallX Tryd.prog ω 44 [r_p, (.string ⟨#[123]⟩)] h1 (fun r7 h8 =>
 asB r7 fun b9 => cond b9
 (asK .i64 deep_p fun n10 => J3 (.bool (decide ((n10 : Int) > 8))) h8)
 (J3 (.bool false) h8)) X) ∧
 ∀ t13_4 (d5 : Nat → Value) (h6 : Hp), J3 t13_4 h6 →
 asB t13_4 fun b11 => cond b11
 (CallX Tryd.prog ω 45 [r_p, (.int .i64 7)] h6 (fun r12 h13 =>
 R (.slice none 0 0) h13) X)
 (CallX Tryd.prog ω 81 [r_p, (.string ⟨#[123]⟩)] h6 (fun r14 h15 =>
 ∃ (I16 : Value → Hp → Prop) (μ17 : Value → Hp → Nat), I16 (.slice none 0 0) h15 ∧ ∀ out_18 (d19 : Nat → Value) (h20 : Hp), I16 out_18 h20 →
 ∃ J21 : Value → Hp → Prop,
 (CallX Tryd.prog ω 43 [r_p] h20 (fun r25 h26 =>
 asB r25 fun b27 => cond (!b27)
 (CallX Tryd.prog ω 44 [r_p, (.string ⟨#[125]⟩)] h26 (fun r28 h29 =>
 asB r28 fun b30 => J21 (.bool (!b30)) h29) X)
 (J21 (.bool false) h26)) X) ∧
 ∀ t25_22 (d23 : Nat → Value) (h24 : Hp), J21 t25_22 h24 →
 asB t25_22 fun b31 => cond b31
 (CallX Tryd.prog ω 84 [r_p, deep_p] h24 (fun r32 h33 =>
 asA r32 fun A34 => A34.size = 9 ∧ appK Tryd.prog 49 (Array.push h33 (.cells (List.toArray (A34.toList ++ [])) 65 (0, 0))) out_18 (.slice (some ⟨Array.size h33, 0, none⟩) 1 1) fun w35 h36 =>
 I16 w35 h36 ∧ μ17 w35 h36 < μ17 out_18 h20) X)
 (CallX Tryd.prog ω 81 [r_p, (.string ⟨#[125]⟩)] h24 (fun r37 h38 =>
 R out_18 h38) X)) X))) X
def A_p_pipewrightref_reading_block : Ann :=
 (.two .leaf (.two (.two .leaf (.two (.two .leaf .leaf) .leaf)) (.two (.two (.join [8, 9, 10, 11, 12, 13] [13] .leaf) (.two (.two .leaf (.two .leaf .leaf)) .leaf)) (.two .leaf (.two .leaf (.two (.one (.loop [18, 19, 20, 21, 22, 23, 24, 25, 26, 27, 28, 29, 30, 31, 5] [5] (.two (.two (.join [18, 19, 20, 21, 22, 23, 24, 25] [25] .leaf) (.two .leaf .leaf)) (.one .leaf)))) (.two .leaf (.two .leaf .leaf))))))))
theorem C_p_pipewrightref_reading_block (ω : Amb) (r_p deep_p : Value) (h : Hp) (R : Value → Hp → Prop) (X : List PanicEntry → Hp → Prop) (hk : W_p_pipewrightref_reading_block ω r_p deep_p h R X) : CallX Tryd.prog ω 49 [r_p, deep_p] h R X :=
 callX_of (an := A_p_pipewrightref_reading_block) Tryd.func49 ((show fnX Tryd.prog ω A_p_pipewrightref_reading_block Tryd.f49 [r_p, deep_p] h R X = W_p_pipewrightref_reading_block ω r_p deep_p h R X by kernel_rfl) ▸ hk)

/-- (*pipewright/syntax.parser).next -/
abbrev n_p_syntax_parser_next : Nat := 76
def W_p_syntax_parser_next (ω : Amb) (p_p : Value) (h : Hp) (R : Value → Hp → Prop) (X : List PanicEntry → Hp → Prop) : Prop :=
 nnK p_p (asP p_p fun p0 =>
 ∃ v1, cellH (Array.push h (.cells #[(.int .i64 0), (.int .i64 0), (.string ⟨#[]⟩), (.int .i64 0)] 46 (0, 0))) (Addr.add p0 0) = some v1 ∧
 asSl1 v1 fun a2 l3 c4 => 0 ≤ (0 : Int) ∧ 0 < (l3 : Int) ∧ ∃ C5, cellsH (Array.push h (.cells #[(.int .i64 0), (.int .i64 0), (.string ⟨#[]⟩), (.int .i64 0)] 46 (0, 0))) (Addr.add a2 (Int.toNat 0 * 4)) 4 C5 ∧
 C5.toArray.size = 4 ∧ (∀ u ∈ C5.toArray.toList, one u) ∧ storeK (Array.push (Array.push h (.cells #[(.int .i64 0), (.int .i64 0), (.string ⟨#[]⟩), (.int .i64 0)] 46 (0, 0))) (.cells #[(.int .i64 0), (.int .i64 0), (.string ⟨#[]⟩), (.int .i64 0)] 46 (0, 0))) ⟨Array.size (Array.push h (.cells #[(.int .i64 0), (.int .i64 0), (.string ⟨#[]⟩), (.int .i64 0)] 46 (0, 0))), 0, none⟩ C5.toArray.toList fun h6 =>
 nnK p_p (asP p_p fun p7 =>
 ∃ v8, cellH h6 (Addr.add p7 0) = some v8 ∧
 asSl v8 fun a9 l10 c11 => 0 ≤ (1 : Int) ∧ (1 : Int) ≤ (l10 : Int) ∧ (l10 : Int) ≤ (c11 : Int) ∧ nnK p_p (asP p_p fun p12 =>
 storeK1 h6 (Addr.add p12 0) (.slice (if c11 = Int.toNat 1 then a9 else Option.map (fun y => Addr.add y (Int.toNat 1 * 4)) a9) (Int.toNat (l10 : Int) - Int.toNat 1) (c11 - Int.toNat 1)) fun h13 =>
 ∃ C14, cellsH h13 ⟨Array.size (Array.push h (.cells #[(.int .i64 0), (.int .i64 0), (.string ⟨#[]⟩), (.int .i64 0)] 46 (0, 0))), 0, none⟩ 4 C14 ∧
 C14.toArray.size = 4 ∧ (∀ u ∈ C14.toArray.toList, one u) ∧ storeK h13 ⟨Array.size h, 0, none⟩ C14.toArray.toList fun h15 =>
 ∃ C16, cellsH h15 ⟨Array.size h, 0, none⟩ 4 C16 ∧ R (.agg C16.toArray) h15)))
def A_p_syntax_parser_next : Ann :=
 (.two .leaf (.two .leaf (.two .leaf (.two .leaf .leaf))))
theorem C_p_syntax_parser_next (ω : Amb) (p_p : Value) (h : Hp) (R : Value → Hp → Prop) (X : List PanicEntry → Hp → Prop) (hk : W_p_syntax_parser_next ω p_p h R X) : CallX Tryd.prog ω 76 [p_p] h R X :=
 callX_of (an := A_p_syntax_parser_next) Tryd.func76 ((show fnX Tryd.prog ω A_p_syntax_parser_next Tryd.f76 [p_p] h R X = W_p_syntax_parser_next ω p_p h R X by kernel_rfl) ▸ hk)

/-- (*pipewright/syntax.parser).name -/
abbrev n_p_syntax_parser_name : Nat := 77
def W_p_syntax_parser_name (ω : Amb) (p_p : Value) (h : Hp) (R : Value → Hp → Prop) (X : List PanicEntry → Hp → Prop) : Prop :=
 CallX Tryd.prog ω 102 [p_p, (.int .i64 2)] h (fun r0 h1 =>
 asA r0 fun A2 => asO A2[2]? fun v3 => R v3 h1) X
def A_p_syntax_parser_name : Ann :=
 (.two .leaf (.two .leaf .leaf))
theorem C_p_syntax_parser_name (ω : Amb) (p_p : Value) (h : Hp) (R : Value → Hp → Prop) (X : List PanicEntry → Hp → Prop) (hk : W_p_syntax_parser_name ω p_p h R X) : CallX Tryd.prog ω 77 [p_p] h R X :=
 callX_of (an := A_p_syntax_parser_name) Tryd.func77 ((show fnX Tryd.prog ω A_p_syntax_parser_name Tryd.f77 [p_p] h R X = W_p_syntax_parser_name ω p_p h R X by kernel_rfl) ▸ hk)

/-- (*pipewright/syntax.parser).want -/
abbrev n_p_syntax_parser_want : Nat := 78
def W_p_syntax_parser_want (ω : Amb) (p_p l_p : Value) (h : Hp) (R : Value → Hp → Prop) (X : List PanicEntry → Hp → Prop) : Prop :=
 asSl l_p fun a0 l1 c2 => ∃ (I3 : Value → Hp → Prop) (μ4 : Value → Hp → Nat), I3 (.int .i64 0) h ∧ ∀ t8_5 (d6 : Nat → Value) (h7 : Hp), I3 t8_5 h7 →
 asK .i64 t8_5 fun n8 => cond (decide ((n8 : Int) < (l1 : Int)))
 (asSl1 l_p fun a9 l10 c11 => asI t8_5 fun n12 => 0 ≤ (n12 : Int) ∧ n12 < (l10 : Int) ∧ ∃ v13, cellH h7 (Addr.add a9 (Int.toNat n12 * 1)) = some v13 ∧
 CallX Tryd.prog ω 40 [p_p, v13] h7 (fun r14 h15 =>
 asB r14 fun b16 => ∃ J17 : Hp → Prop,
 (cond (!b16)
 (CallX Tryd.prog ω 41 [p_p, (.int .i64 5)] h15 (fun r20 h21 =>
 J17 h21) X)
 (J17 h15)) ∧
 ∀  (d18 : Nat → Value) (h19 : Hp), J17 h19 →
 CallX Tryd.prog ω 76 [p_p] h19 (fun r22 h23 =>
 asK .i64 t8_5 fun n24 => I3 (.int .i64 (IntKind.wrap .i64 (n24 + 1))) h23 ∧ μ4 (.int .i64 (IntKind.wrap .i64 (n24 + 1))) h23 < μ4 t8_5 h7) X) X)
 (R (.tuple #[]) h7)
def A_p_syntax_parser_want : Ann :=
 (.two .leaf (.one (.loop [9, 10, 11, 5, 12, 13, 14, 15, 16, 17, 18, 19, 20, 8] [8] (.two .leaf (.two (.two .leaf .leaf) (.two (.one (.two .leaf (.two (.two .leaf (.join [16, 17] [] (.two .leaf .leaf))) .leaf))) .leaf))))))
theorem C_p_syntax_parser_want (ω : Amb) (p_p l_p : Value) (h : Hp) (R : Value → Hp → Prop) (X : List PanicEntry → Hp → Prop) (hk : W_p_syntax_parser_want ω p_p l_p h R X) : CallX Tryd.prog ω 78 [p_p, l_p] h R X :=
 callX_of (an := A_p_syntax_parser_want) Tryd.func78 ((show fnX Tryd.prog ω A_p_syntax_parser_want Tryd.f78 [p_p, l_p] h R X = W_p_syntax_parser_want ω p_p l_p h R X by kernel_rfl) ▸ hk)

/-- (*pipewright/syntax.parser).typ -/
abbrev n_p_syntax_parser_typ : Nat := 79
def W_p_syntax_parser_typ (ω : Amb) (p_p : Value) (h : Hp) (R : Value → Hp → Prop) (X : List PanicEntry → Hp → Prop) : Prop :=
 ∃ (I0 : Value → Hp → Prop) (μ1 : Value → Hp → Nat), I0 (.string ⟨#[]⟩) h ∧ ∀ t_2 (d3 : Nat → Value) (h4 : Hp), I0 t_2 h4 →
 CallX Tryd.prog ω 40 [p_p, (.string ⟨#[105, 110, 116]⟩)] h4 (fun r5 h6 =>
 asB r5 fun b7 => cond (!b7)
 (∃ J8 : Value → Hp → Prop,
 (CallX Tryd.prog ω 40 [p_p, (.string ⟨#[115, 101, 110, 100]⟩)] h6 (fun r12 h13 =>
 asB r12 fun b14 => cond (!b14)
 (CallX Tryd.prog ω 40 [p_p, (.string ⟨#[114, 101, 99, 118]⟩)] h13 (fun r15 h16 =>
 asB r15 fun b17 => J8 (.bool (!b17)) h16) X)
 (J8 (.bool false) h13)) X) ∧
 ∀ t14_9 (d10 : Nat → Value) (h11 : Hp), J8 t14_9 h11 →
 ∃ J18 : Hp → Prop,
 (asB t14_9 fun b21 => cond b21
 (CallX Tryd.prog ω 41 [p_p, (.int .i64 5)] h11 (fun r22 h23 =>
 J18 h23) X)
 (J18 h11)) ∧
 ∀  (d19 : Nat → Value) (h20 : Hp), J18 h20 →
 asS t_2 fun s24 => ∃ J25 : Hp → Prop,
 (cond ((ByteArray.size s24 : Int) == (3 : Int))
 (CallX Tryd.prog ω 41 [p_p, (.int .i64 7)] h20 (fun r28 h29 =>
 J25 h29) X)
 (J25 h20)) ∧
 ∀  (d26 : Nat → Value) (h27 : Hp), J25 h27 →
 CallX Tryd.prog ω 76 [p_p] h27 (fun r30 h31 =>
 asA r30 fun A32 => asO A32[2]? fun v33 => asS v33 fun s34 => 0 ≤ (((0 : Nat) : Int) : Int) ∧ (((0 : Nat) : Int) : Int) ≤ 1 ∧ 1 ≤ (ByteArray.size s34 : Int) ∧ asS t_2 fun s35 => ByteArray.size s35 + ByteArray.size (ByteArray.extract s34 (Int.toNat ((0 : Nat) : Int)) (Int.toNat 1)) ≤ 9223372036854775807 ∧ I0 (.string (s35 ++ (ByteArray.extract s34 (Int.toNat ((0 : Nat) : Int)) (Int.toNat 1)))) h31 ∧ μ1 (.string (s35 ++ (ByteArray.extract s34 (Int.toNat ((0 : Nat) : Int)) (Int.toNat 1)))) h31 < μ1 t_2 h4) X)
 (CallX Tryd.prog ω 76 [p_p] h6 (fun r36 h37 =>
 asS t_2 fun s38 => ByteArray.size s38 + ByteArray.size ⟨#[105]⟩ ≤ 9223372036854775807 ∧ R (.string (s38 ++ ⟨#[105]⟩)) h37) X)) X
def A_p_syntax_parser_typ : Ann :=
 (.two .leaf (.two .leaf (.two (.one (.loop [4, 5, 6, 7, 8, 9, 10, 11, 12, 13, 14, 15, 16, 17, 18, 19, 20, 21, 22, 23, 24, 25, 26, 27, 3] [3] (.two (.two .leaf (.two .leaf .leaf)) (.one (.two (.two (.join [7, 8, 9, 10, 11, 12, 13, 14] [14] .leaf) (.join [15, 16] [] (.two .leaf .leaf))) (.two (.two .leaf (.join [20, 21] [] (.two .leaf .leaf))) .leaf)))))) (.two .leaf (.two .leaf .leaf)))))
theorem C_p_syntax_parser_typ (ω : Amb) (p_p : Value) (h : Hp) (R : Value → Hp → Prop) (X : List PanicEntry → Hp → Prop) (hk : W_p_syntax_parser_typ ω p_p h R X) : CallX Tryd.prog ω 79 [p_p] h R X :=
 callX_of (an := A_p_syntax_parser_typ) Tryd.func79 ((show fnX Tryd.prog ω A_p_syntax_parser_typ Tryd.f79 [p_p] h R X = W_p_syntax_parser_typ ω p_p h R X by kernel_rfl) ▸ hk)

/-- (*pipewright/syntax.parser).block -/
abbrev n_p_syntax_parser_block : Nat := 80
def W_p_syntax_parser_block (ω : Amb) (p_p : Value) (h : Hp) (R : Value → Hp → Prop) (X : List PanicEntry → Hp → Prop) : Prop :=
 ∃ J0 : Value → Hp → Prop,
 (CallX Tryd.prog ω 40 [p_p, (.string ⟨#[123]⟩)] h (fun r4 h5 =>
 asB r4 fun b6 => cond b6
 (nnK p_p (asP p_p fun p7 =>
 ∃ v8, cellH h5 (Addr.add p7 3) = some v8 ∧
 asK .i64 v8 fun n9 => J0 (.bool (n9 == (8 : Int))) h5))
 (J0 (.bool false) h5)) X) ∧
 ∀ t12_1 (d2 : Nat → Value) (h3 : Hp), J0 t12_1 h3 →
 ∃ J10 : Hp → Prop,
 (asB t12_1 fun b13 => cond b13
 (CallX Tryd.prog ω 41 [p_p, (.int .i64 7)] h3 (fun r14 h15 =>
 J10 h15) X)
 (J10 h3)) ∧
 ∀  (d11 : Nat → Value) (h12 : Hp), J10 h12 →
 CallX Tryd.prog ω 78 [p_p, (.slice (some ⟨Array.size h12, 0, none⟩) 1 1)] (Array.push h12 (.cells (List.toArray [(.string ⟨#[123]⟩)]) 9 (0, 0))) (fun r16 h17 =>
 nnK p_p (asP p_p fun p18 =>
 ∃ v19, cellH h17 (Addr.add p18 3) = some v19 ∧
 asK .i64 v19 fun n20 => nnK p_p (asP p_p fun p21 =>
 storeK1 h17 (Addr.add p21 3) (.int .i64 (IntKind.wrap .i64 (n20 + 1))) fun h22 =>
 ∃ (I23 : Value → Hp → Prop) (μ24 : Value → Hp → Nat), I23 (.slice none 0 0) h22 ∧ ∀ out_25 (d26 : Nat → Value) (h27 : Hp), I23 out_25 h27 →
 CallX Tryd.prog ω 40 [p_p, (.string ⟨#[125]⟩)] h27 (fun r28 h29 =>
 asB r28 fun b30 => cond (!b30)
 (CallX Tryd.prog ω 103 [p_p] h29 (fun r31 h32 =>
 asA r31 fun A33 => A33.size = 9 ∧ appK Tryd.prog 49 (Array.push h32 (.cells (List.toArray (A33.toList ++ [])) 65 (0, 0))) out_25 (.slice (some ⟨Array.size h32, 0, none⟩) 1 1) fun w34 h35 =>
 I23 w34 h35 ∧ μ24 w34 h35 < μ24 out_25 h27) X)
 (nnK p_p (asP p_p fun p36 =>
 ∃ v37, cellH h29 (Addr.add p36 3) = some v37 ∧
 asK .i64 v37 fun n38 => nnK p_p (asP p_p fun p39 =>
 storeK1 h29 (Addr.add p39 3) (.int .i64 (IntKind.wrap .i64 (n38 - 1))) fun h40 =>
 CallX Tryd.prog ω 76 [p_p] h40 (fun r41 h42 =>
 R out_25 h42) X)))) X))) X
def A_p_syntax_parser_block : Ann :=
 (.two .leaf (.two (.two (.join [4, 5, 6, 7, 8, 9, 10, 11, 12] [12] .leaf) (.join [13, 14] [] (.two .leaf .leaf))) (.two .leaf (.two .leaf (.two .leaf (.two (.one (.loop [25, 26, 27, 28, 29, 30, 31, 32, 3] [3] (.two (.two .leaf (.two .leaf .leaf)) (.one .leaf)))) (.two .leaf (.two .leaf (.two .leaf .leaf)))))))))
theorem C_p_syntax_parser_block (ω : Amb) (p_p : Value) (h : Hp) (R : Value → Hp → Prop) (X : List PanicEntry → Hp → Prop) (hk : W_p_syntax_parser_block ω p_p h R X) : CallX Tryd.prog ω 80 [p_p] h R X :=
 callX_of (an := A_p_syntax_parser_block) Tryd.func80 ((show fnX Tryd.prog ω A_p_syntax_parser_block Tryd.f80 [p_p] h R X = W_p_syntax_parser_block ω p_p h R X by kernel_rfl) ▸ hk)

/-- (*pipewright/pipewrightref.reading).must -/
abbrev n_p_pipewrightref_reading_must : Nat := 81
def W_p_pipewrightref_reading_must (ω : Amb) (r_p s_p : Value) (h : Hp) (R : Value → Hp → Prop) (X : List PanicEntry → Hp → Prop) : Prop :=
 CallX Tryd.prog ω 43 [r_p] h (fun r0 h1 =>
 asB r0 fun b2 => cond b2
 (R (.tuple #[]) h1)
 (CallX Tryd.prog ω 44 [r_p, s_p] h1 (fun r3 h4 =>
 asB r3 fun b5 => cond (!b5)
 (CallX Tryd.prog ω 45 [r_p, (.int .i64 5)] h4 (fun r6 h7 =>
 R (.tuple #[]) h7) X)
 (nnK r_p (asP r_p fun p8 =>
 ∃ v9, cellH h4 (Addr.add p8 1) = some v9 ∧
 asK .i64 v9 fun n10 => nnK r_p (asP r_p fun p11 =>
 storeK1 h4 (Addr.add p11 1) (.int .i64 (IntKind.wrap .i64 (n10 + 1))) fun h12 =>
 R (.tuple #[]) h12)))) X)) X
def A_p_pipewrightref_reading_must : Ann :=
 (.two (.two .leaf (.two .leaf .leaf)) (.two (.two .leaf (.two (.two .leaf .leaf) .leaf)) .leaf))
theorem C_p_pipewrightref_reading_must (ω : Amb) (r_p s_p : Value) (h : Hp) (R : Value → Hp → Prop) (X : List PanicEntry → Hp → Prop) (hk : W_p_pipewrightref_reading_must ω r_p s_p h R X) : CallX Tryd.prog ω 81 [r_p, s_p] h R X :=
 callX_of (an := A_p_pipewrightref_reading_must) Tryd.func81 ((show fnX Tryd.prog ω A_p_pipewrightref_reading_must Tryd.f81 [r_p, s_p] h R X = W_p_pipewrightref_reading_must ω r_p s_p h R X by kernel_rfl) ▸ hk)

/-- (*pipewright/pipewrightref.reading).kind -/
abbrev n_p_pipewrightref_reading_kind : Nat := 82
def W_p_pipewrightref_reading_kind (ω : Amb) (r_p : Value) (h : Hp) (R : Value → Hp → Prop) (X : List PanicEntry → Hp → Prop) : Prop :=
 ∃ (I0 : Value → Hp → Prop) (μ1 : Value → Hp → Nat), I0 (.string ⟨#[]⟩) h ∧ ∀ out_2 (d3 : Nat → Value) (h4 : Hp), I0 out_2 h4 →
 ∃ J5 : Value → Hp → Prop,
 (CallX Tryd.prog ω 43 [r_p] h4 (fun r9 h10 =>
 asB r9 fun b11 => cond (!b11)
 (CallX Tryd.prog ω 44 [r_p, (.string ⟨#[105, 110, 116]⟩)] h10 (fun r12 h13 =>
 asB r12 fun b14 => J5 (.bool (!b14)) h13) X)
 (J5 (.bool false) h10)) X) ∧
 ∀ t11_6 (d7 : Nat → Value) (h8 : Hp), J5 t11_6 h8 →
 asB t11_6 fun b15 => cond b15
 (∃ J16 : Value → Hp → Prop,
 (CallX Tryd.prog ω 44 [r_p, (.string ⟨#[115, 101, 110, 100]⟩)] h8 (fun r20 h21 =>
 asB r20 fun b22 => cond (!b22)
 (CallX Tryd.prog ω 44 [r_p, (.string ⟨#[114, 101, 99, 118]⟩)] h21 (fun r23 h24 =>
 asB r23 fun b25 => J16 (.bool (!b25)) h24) X)
 (J16 (.bool false) h21)) X) ∧
 ∀ t19_17 (d18 : Nat → Value) (h19 : Hp), J16 t19_17 h19 →
 asB t19_17 fun b26 => cond b26
 (CallX Tryd.prog ω 45 [r_p, (.int .i64 5)] h19 (fun r27 h28 =>
 R (.string ⟨#[]⟩) h28) X)
 (asS out_2 fun s29 => cond (decide (((ByteArray.size s29 : Int) : Int) ≥ 3))
 (CallX Tryd.prog ω 45 [r_p, (.int .i64 7)] h19 (fun r30 h31 =>
 R (.string ⟨#[]⟩) h31) X)
 (CallX Tryd.prog ω 44 [r_p, (.string ⟨#[115, 101, 110, 100]⟩)] h19 (fun r32 h33 =>
 ∃ J34 : Value → Hp → Prop,
 (asB r32 fun b38 => cond b38
 (asS out_2 fun s39 => ByteArray.size s39 + ByteArray.size ⟨#[115]⟩ ≤ 9223372036854775807 ∧ J34 (.string (s39 ++ ⟨#[115]⟩)) h33)
 (asS out_2 fun s40 => ByteArray.size s40 + ByteArray.size ⟨#[114]⟩ ≤ 9223372036854775807 ∧ J34 (.string (s40 ++ ⟨#[114]⟩)) h33)) ∧
 ∀ out_35 (d36 : Nat → Value) (h37 : Hp), J34 out_35 h37 →
 nnK r_p (asP r_p fun p41 =>
 ∃ v42, cellH h37 (Addr.add p41 1) = some v42 ∧
 asK .i64 v42 fun n43 => nnK r_p (asP r_p fun p44 =>
 storeK1 h37 (Addr.add p44 1) (.int .i64 (IntKind.wrap .i64 (n43 + 1))) fun h45 =>
 I0 out_35 h45 ∧ μ1 out_35 h45 < μ1 out_2 h4))) X)))
 (CallX Tryd.prog ω 81 [r_p, (.string ⟨#[105, 110, 116]⟩)] h8 (fun r46 h47 =>
 asS out_2 fun s48 => ByteArray.size s48 + ByteArray.size ⟨#[105]⟩ ≤ 9223372036854775807 ∧ R (.string (s48 ++ ⟨#[105]⟩)) h47) X)
def A_p_pipewrightref_reading_kind : Ann :=
 (.two .leaf (.two .leaf (.two (.one (.loop [4, 5, 6, 7, 8, 9, 10, 11, 12, 13, 14, 15, 16, 17, 18, 19, 20, 21, 2, 22, 23, 24, 25, 26, 27, 28, 29, 30, 3, 31, 32, 33, 34, 35, 36, 37, 38, 39] [3] (.two (.two (.join [4, 5, 6, 7, 8, 9, 10, 11] [11] .leaf) (.two .leaf .leaf)) (.one (.two (.two (.join [12, 13, 14, 15, 16, 17, 18, 19] [19] .leaf) (.two (.two .leaf (.two .leaf .leaf)) .leaf)) (.two (.two .leaf (.two (.two .leaf (.two .leaf .leaf)) .leaf)) (.two (.two .leaf (.join [29, 30, 3, 31, 32] [3] (.two .leaf .leaf))) .leaf))))))) (.two .leaf (.two .leaf .leaf)))))
theorem C_p_pipewrightref_reading_kind (ω : Amb) (r_p : Value) (h : Hp) (R : Value → Hp → Prop) (X : List PanicEntry → Hp → Prop) (hk : W_p_pipewrightref_reading_kind ω r_p h R X) : CallX Tryd.prog ω 82 [r_p] h R X :=
 callX_of (an := A_p_pipewrightref_reading_kind) Tryd.func82 ((show fnX Tryd.prog ω A_p_pipewrightref_reading_kind Tryd.f82 [r_p] h R X = W_p_pipewrightref_reading_kind ω r_p h R X by kernel_rfl) ▸ hk)

/-- (*pipewright/pipewrightref.reading).expr -/
abbrev n_p_pipewrightref_reading_expr : Nat := 83
def W_p_pipewrightref_reading_expr (ω : Amb) (r_p : Value) (h : Hp) (R : Value → Hp → Prop) (X : List PanicEntry → Hp → Prop) : Prop :=
 CallX Tryd.prog ω 46 [r_p] (Array.push h (.cells #[(.int .i64 0), (.string ⟨#[]⟩), (.int .i64 0), (.slice none 0 0)] 118 (0, 0))) (fun r0 h1 =>
 nnK r_p (asP r_p fun p2 =>
 storeK1 h1 (Addr.add p2 6) (.int .i64 0) fun h3 =>
 CallX Tryd.prog ω 104 [r_p, (.int .i64 0), (.int .i64 0)] h3 (fun r4 h5 =>
 asA r4 fun A6 => A6.size = 4 ∧ (∀ u ∈ A6.toList, one u) ∧ storeK (Array.push h5 (.cells #[(.int .i64 0), (.string ⟨#[]⟩), (.int .i64 0), (.slice none 0 0)] 118 (0, 0))) ⟨Array.size h5, 0, none⟩ A6.toList fun h7 =>
 ∃ J8 : Value → Hp → Prop,
 (CallX Tryd.prog ω 43 [r_p] h7 (fun r12 h13 =>
 asB r12 fun b14 => cond (!b14)
 (nnK r_p (asP r_p fun p15 =>
 ∃ v16, cellH h13 (Addr.add p15 6) = some v16 ∧
 asK .i64 v16 fun n17 => J8 (.bool (decide ((n17 : Int) > 20))) h13))
 (J8 (.bool false) h13)) X) ∧
 ∀ t21_9 (d10 : Nat → Value) (h11 : Hp), J8 t21_9 h11 →
 ∃ J18 : Hp → Prop,
 (asB t21_9 fun b21 => cond b21
 (CallX Tryd.prog ω 32 [(.int .i64 8), r0] h11 (fun r22 h23 =>
 nnK r_p (asP r_p fun p24 =>
 asA r22 fun A25 => A25.size = 2 ∧ (∀ u ∈ A25.toList, one u) ∧ storeK h23 (Addr.add p24 3) A25.toList fun h26 =>
 J18 h26)) X)
 (J18 h11)) ∧
 ∀  (d19 : Nat → Value) (h20 : Hp), J18 h20 →
 ∃ C27, cellsH h20 ⟨Array.size h5, 0, none⟩ 4 C27 ∧
 C27.toArray.size = 4 ∧ (∀ u ∈ C27.toArray.toList, one u) ∧ storeK h20 ⟨Array.size h, 0, none⟩ C27.toArray.toList fun h28 =>
 ∃ C29, cellsH h28 ⟨Array.size h, 0, none⟩ 4 C29 ∧ R (.agg C29.toArray) h28) X)) X
def A_p_pipewrightref_reading_expr : Ann :=
 (.two .leaf (.two .leaf (.two .leaf (.two .leaf (.two (.two (.join [12, 13, 14, 15, 16, 17, 18, 19, 20, 21] [21] .leaf) (.join [22, 23, 24, 25, 26] [] (.two .leaf .leaf))) (.two .leaf .leaf))))))
theorem C_p_pipewrightref_reading_expr (ω : Amb) (r_p : Value) (h : Hp) (R : Value → Hp → Prop) (X : List PanicEntry → Hp → Prop) (hk : W_p_pipewrightref_reading_expr ω r_p h R X) : CallX Tryd.prog ω 83 [r_p] h R X :=
 callX_of (an := A_p_pipewrightref_reading_expr) Tryd.func83 ((show fnX Tryd.prog ω A_p_pipewrightref_reading_expr Tryd.f83 [r_p] h R X = W_p_pipewrightref_reading_expr ω r_p h R X by kernel_rfl) ▸ hk)

/-- (*pipewright/pipewrightref.reading).stmt -/
abbrev n_p_pipewrightref_reading_stmt : Nat := 84
def W_p_pipewrightref_reading_stmt (ω : Amb) (r_p deep_p : Value) (h : Hp) (R : Value → Hp → Prop) (X : List PanicEntry → Hp → Prop) : Prop :=
 CallX Tryd.prog ω 46 [r_p] (Array.push (Array.push h (.cells #[(.int .i64 0), (.int .i64 0), (.string ⟨#[]⟩), (.string ⟨#[]⟩), (.string ⟨#[]⟩), (.int .i64 0), (.slice none 0 0), (.slice none 0 0), (.slice none 0 0)] 65 (0, 0))) (.cells (List.toArray [(.string ⟨#[108, 101, 116]⟩), (.string ⟨#[115, 101, 116]⟩), (.string ⟨#[101, 109, 105, 116]⟩), (.string ⟨#[99, 104, 97, 110]⟩), (.string ⟨#[99, 108, 111, 110, 101]⟩), (.string ⟨#[115, 101, 110, 100]⟩), (.string ⟨#[99, 108, 111, 115, 101]⟩), (.string ⟨#[97, 98, 97, 110, 100, 111, 110]⟩), (.string ⟨#[100, 114, 97, 105, 110]⟩), (.string ⟨#[115, 112, 97, 119, 110]⟩), (.string ⟨#[116, 97, 107, 101]⟩), (.string ⟨#[102, 111, 114]⟩), (.string ⟨#[114, 101, 112, 101, 97, 116]⟩), (.string ⟨#[105, 102]⟩)]) 9 (0, 0))) (fun r0 h1 =>
 oneK r0 (9 = 9 ∧ (∀ u ∈ [(.int .i64 0), r0, (.string ⟨#[]⟩), (.string ⟨#[]⟩), (.string ⟨#[]⟩), (.int .i64 0), (.slice none 0 0), (.slice none 0 0), (.slice none 0 0)], one u) ∧ storeK (Array.push h1 (.cells #[(.int .i64 0), (.int .i64 0), (.string ⟨#[]⟩), (.string ⟨#[]⟩), (.string ⟨#[]⟩), (.int .i64 0), (.slice none 0 0), (.slice none 0 0), (.slice none 0 0)] 65 (0, 0))) ⟨Array.size h1, 0, none⟩ [(.int .i64 0), r0, (.string ⟨#[]⟩), (.string ⟨#[]⟩), (.string ⟨#[]⟩), (.int .i64 0), (.slice none 0 0), (.slice none 0 0), (.slice none 0 0)] fun h2 =>
 ∃ (I3 : Value → Hp → Prop) (μ4 : Value → Hp → Nat), I3 (.int .i64 0) h2 ∧ ∀ i_5 (d6 : Nat → Value) (h7 : Hp), I3 i_5 h7 →
 asK .i64 i_5 fun n8 => cond (decide ((n8 : Int) < (14 : Int)))
 (∃ J9 : Hp → Prop,
 (asI i_5 fun n12 => 0 ≤ (n12 : Int) ∧ n12 < (14 : Int) ∧ ∃ v13, cellH h7 (Addr.add ⟨Array.size (Array.push h (.cells #[(.int .i64 0), (.int .i64 0), (.string ⟨#[]⟩), (.string ⟨#[]⟩), (.string ⟨#[]⟩), (.int .i64 0), (.slice none 0 0), (.slice none 0 0), (.slice none 0 0)] 65 (0, 0))), 0, none⟩ (Int.toNat n12 * 1)) = some v13 ∧
 CallX Tryd.prog ω 44 [r_p, v13] h7 (fun r14 h15 =>
 ∃ J16 : Hp → Prop,
 (asB r14 fun b19 => cond b19
 (asK .i64 i_5 fun n20 => storeK1 h15 (Addr.add ⟨Array.size h1, 0, none⟩ 0) (.int .i64 (IntKind.wrap .i64 (n20 + 1))) fun h21 =>
 J16 h21)
 (J16 h15)) ∧
 ∀  (d17 : Nat → Value) (h18 : Hp), J16 h18 →
 J9 h18) X) ∧
 ∀  (d10 : Nat → Value) (h11 : Hp), J9 h11 →
 asK .i64 i_5 fun n22 => I3 (.int .i64 (IntKind.wrap .i64 (n22 + 1))) h11 ∧ μ4 (.int .i64 (IntKind.wrap .i64 (n22 + 1))) h11 < μ4 i_5 h7)
 (∃ v23, cellH h7 (Addr.add ⟨Array.size h1, 0, none⟩ 0) = some v23 ∧
 asK .i64 v23 fun n24 => cond (n24 == (0 : Int))
 (CallX Tryd.prog ω 45 [r_p, (.int .i64 5)] h7 (fun r25 h26 =>
 ∃ C27, cellsH h26 ⟨Array.size h1, 0, none⟩ 9 C27 ∧
 C27.toArray.size = 9 ∧ (∀ u ∈ C27.toArray.toList, one u) ∧ storeK h26 ⟨Array.size h, 0, none⟩ C27.toArray.toList fun h28 =>
 ∃ C29, cellsH h28 ⟨Array.size h, 0, none⟩ 9 C29 ∧ R (.agg C29.toArray) h28) X)
 (nnK r_p (asP r_p fun p30 =>
 ∃ v31, cellH h7 (Addr.add p30 5) = some v31 ∧
 asK .i64 v31 fun n32 => cond (decide ((n32 : Int) ≥ 300))
 (CallX Tryd.prog ω 45 [r_p, (.int .i64 8)] h7 (fun r33 h34 =>
 ∃ C35, cellsH h34 ⟨Array.size h1, 0, none⟩ 9 C35 ∧
 C35.toArray.size = 9 ∧ (∀ u ∈ C35.toArray.toList, one u) ∧ storeK h34 ⟨Array.size h, 0, none⟩ C35.toArray.toList fun h36 =>
 ∃ C37, cellsH h36 ⟨Array.size h, 0, none⟩ 9 C37 ∧ R (.agg C37.toArray) h36) X)
 (nnK r_p (asP r_p fun p38 =>
 ∃ v39, cellH h7 (Addr.add p38 5) = some v39 ∧
 asK .i64 v39 fun n40 => nnK r_p (asP r_p fun p41 =>
 storeK1 h7 (Addr.add p41 5) (.int .i64 (IntKind.wrap .i64 (n40 + 1))) fun h42 =>
 nnK r_p (asP r_p fun p43 =>
 ∃ v44, cellH h42 (Addr.add p43 1) = some v44 ∧
 asK .i64 v44 fun n45 => nnK r_p (asP r_p fun p46 =>
 storeK1 h42 (Addr.add p46 1) (.int .i64 (IntKind.wrap .i64 (n45 + 1))) fun h47 =>
 ∃ β48 : Bool,
 (∃ v50, cellH h47 (Addr.add ⟨Array.size h1, 0, none⟩ 0) = some v50 ∧
 asK .i64 v50 fun n51 => cond (n51 != (3 : Int))
 (∃ v52, cellH h47 (Addr.add ⟨Array.size h1, 0, none⟩ 0) = some v52 ∧
 asK .i64 v52 fun n53 => cond (n53 != (13 : Int))
 (∃ v54, cellH h47 (Addr.add ⟨Array.size h1, 0, none⟩ 0) = some v54 ∧
 asK .i64 v54 fun n55 => ((.bool (n55 != (14 : Int))) : Value) = .bool β48 ∧ h47 = h47)
 (((.bool false) : Value) = .bool β48 ∧ h47 = h47))
 (((.bool false) : Value) = .bool β48 ∧ h47 = h47)) ∧
 ∀ d49 : Nat → Value,
 ∃ J56 : Hp → Prop,
 (cond β48
 (CallX Tryd.prog ω 47 [r_p, (.int .i64 2)] h47 (fun r59 h60 =>
 asA r59 fun A61 => asO A61[2]? fun v62 => oneK v62 (storeK1 h60 (Addr.add ⟨Array.size h1, 0, none⟩ 2) v62 fun h63 =>
 J56 h63)) X)
 (J56 h47)) ∧
 ∀  (d57 : Nat → Value) (h58 : Hp), J56 h58 →
 ∃ v64, cellH h58 (Addr.add ⟨Array.size h1, 0, none⟩ 0) = some v64 ∧
 ∃ J65 : Hp → Prop,
 (asK .i64 v64 fun n68 => ∃ J69 : Value → Hp → Prop,
 (cond (n68 == (1 : Int))
 (J69 (.bool (n68 == (1 : Int))) h58)
 (asK .i64 v64 fun n73 => J69 (.bool (n73 == (2 : Int))) h58)) ∧
 ∀ t74_70 (d71 : Nat → Value) (h72 : Hp), J69 t74_70 h72 →
 ∃ J74 : Hp → Prop,
 (asB t74_70 fun b77 => cond b77
 (CallX Tryd.prog ω 81 [r_p, (.string ⟨#[61]⟩)] h72 (fun r78 h79 =>
 J74 h79) X)
 (asK .i64 v64 fun n80 => ∃ J81 : Value → Hp → Prop,
 (cond (n80 == (4 : Int))
 (J81 (.bool (n80 == (4 : Int))) h72)
 (asK .i64 v64 fun n85 => J81 (.bool (n85 == (5 : Int))) h72)) ∧
 ∀ t79_82 (d83 : Nat → Value) (h84 : Hp), J81 t79_82 h84 →
 ∃ J86 : Hp → Prop,
 (asB t79_82 fun b89 => cond b89
 (CallX Tryd.prog ω 47 [r_p, (.int .i64 2)] h84 (fun r90 h91 =>
 asA r90 fun A92 => asO A92[2]? fun v93 => oneK v93 (storeK1 h91 (Addr.add ⟨Array.size h1, 0, none⟩ 3) v93 fun h94 =>
 J86 h94)) X)
 (asK .i64 v64 fun n95 => ∃ J96 : Value → Hp → Prop,
 (cond (n95 == (11 : Int))
 (J96 (.bool (n95 == (11 : Int))) h84)
 (asK .i64 v64 fun n100 => J96 (.bool (n100 == (12 : Int))) h84)) ∧
 ∀ t86_97 (d98 : Nat → Value) (h99 : Hp), J96 t86_97 h99 →
 ∃ J101 : Hp → Prop,
 (asB t86_97 fun b104 => cond b104
 (CallX Tryd.prog ω 81 [r_p, (.string ⟨#[102, 114, 111, 109]⟩)] h99 (fun r105 h106 =>
 CallX Tryd.prog ω 47 [r_p, (.int .i64 2)] h106 (fun r107 h108 =>
 asA r107 fun A109 => asO A109[2]? fun v110 => oneK v110 (storeK1 h108 (Addr.add ⟨Array.size h1, 0, none⟩ 3) v110 fun h111 =>
 J101 h111)) X) X)
 (asK .i64 v64 fun n112 => ∃ J113 : Hp → Prop,
 (cond (n112 == (10 : Int))
 (CallX Tryd.prog ω 48 [r_p, (.bool false)] h99 (fun r116 h117 =>
 asT r116 fun T118 => asO T118[0]? fun v119 => asT r116 fun T120 => asO T120[1]? fun v121 => oneK v119 (storeK1 h117 (Addr.add ⟨Array.size h1, 0, none⟩ 6) v119 fun h122 =>
 J113 h122)) X)
 (J113 h99)) ∧
 ∀  (d114 : Nat → Value) (h115 : Hp), J113 h115 →
 J101 h115)) ∧
 ∀  (d102 : Nat → Value) (h103 : Hp), J101 h103 →
 J86 h103)) ∧
 ∀  (d87 : Nat → Value) (h88 : Hp), J86 h88 →
 J74 h88)) ∧
 ∀  (d75 : Nat → Value) (h76 : Hp), J74 h76 →
 J65 h76) ∧
 ∀  (d66 : Nat → Value) (h67 : Hp), J65 h67 →
 ∃ v123, cellH h67 (Addr.add ⟨Array.size h1, 0, none⟩ 0) = some v123 ∧
 ∃ J124 : Hp → Prop,
 (asK .i64 v123 fun n127 => ∃ J128 : Hp → Prop,
 (cond (n127 == (4 : Int))
 (CallX Tryd.prog ω 82 [r_p] h67 (fun r131 h132 =>
 oneK r131 (storeK1 h132 (Addr.add ⟨Array.size h1, 0, none⟩ 4) r131 fun h133 =>
 CallX Tryd.prog ω 47 [r_p, (.int .i64 3)] h133 (fun r134 h135 =>
 asA r134 fun A136 => asO A136[3]? fun v137 => oneK v137 (storeK1 h135 (Addr.add ⟨Array.size h1, 0, none⟩ 5) v137 fun h138 =>
 J128 h138)) X)) X)
 (asK .i64 v123 fun n139 => ∃ J140 : Value → Hp → Prop,
 (cond (n139 == (1 : Int))
 (J140 (.bool (n139 == (1 : Int))) h67)
 (asK .i64 v123 fun n144 => ∃ J145 : Value → Hp → Prop,
 (cond (n144 == (2 : Int))
 (J145 (.bool (n144 == (2 : Int))) h67)
 (asK .i64 v123 fun n149 => ∃ J150 : Value → Hp → Prop,
 (cond (n149 == (3 : Int))
 (J150 (.bool (n149 == (3 : Int))) h67)
 (asK .i64 v123 fun n154 => ∃ J155 : Value → Hp → Prop,
 (cond (n154 == (6 : Int))
 (J155 (.bool (n154 == (6 : Int))) h67)
 (asK .i64 v123 fun n159 => ∃ J160 : Value → Hp → Prop,
 (cond (n159 == (13 : Int))
 (J160 (.bool (n159 == (13 : Int))) h67)
 (asK .i64 v123 fun n164 => J160 (.bool (n164 == (14 : Int))) h67)) ∧
 ∀ t114_161 (d162 : Nat → Value) (h163 : Hp), J160 t114_161 h163 →
 J155 t114_161 h163)) ∧
 ∀ t114_156 (d157 : Nat → Value) (h158 : Hp), J155 t114_156 h158 →
 J150 t114_156 h158)) ∧
 ∀ t114_151 (d152 : Nat → Value) (h153 : Hp), J150 t114_151 h153 →
 J145 t114_151 h153)) ∧
 ∀ t114_146 (d147 : Nat → Value) (h148 : Hp), J145 t114_146 h148 →
 J140 t114_146 h148)) ∧
 ∀ t114_141 (d142 : Nat → Value) (h143 : Hp), J140 t114_141 h143 →
 ∃ J165 : Hp → Prop,
 (asB t114_141 fun b168 => cond b168
 (CallX Tryd.prog ω 43 [r_p] h143 (fun r169 h170 =>
 asB r169 fun b171 => ∃ J172 : Hp → Prop,
 (cond (!b171)
 (CallX Tryd.prog ω 83 [r_p] h170 (fun r175 h176 =>
 asA r175 fun A177 => A177.size = 4 ∧ storeK1 (Array.push h176 (.cells (List.toArray (A177.toList ++ [])) 118 (0, 0))) (Addr.add ⟨Array.size h1, 0, none⟩ 6) (.slice (some ⟨Array.size h176, 0, none⟩) 1 1) fun h178 =>
 J172 h178) X)
 (J172 h170)) ∧
 ∀  (d173 : Nat → Value) (h174 : Hp), J172 h174 →
 J165 h174) X)
 (J165 h143)) ∧
 ∀  (d166 : Nat → Value) (h167 : Hp), J165 h167 →
 J128 h167)) ∧
 ∀  (d129 : Nat → Value) (h130 : Hp), J128 h130 →
 J124 h130) ∧
 ∀  (d125 : Nat → Value) (h126 : Hp), J124 h126 →
 ∃ v179, cellH h126 (Addr.add ⟨Array.size h1, 0, none⟩ 0) = some v179 ∧
 asK .i64 v179 fun n180 => cond (decide ((n180 : Int) < 11))
 (CallX Tryd.prog ω 81 [r_p, (.string ⟨#[59]⟩)] h126 (fun r181 h182 =>
 ∃ C183, cellsH h182 ⟨Array.size h1, 0, none⟩ 9 C183 ∧
 C183.toArray.size = 9 ∧ (∀ u ∈ C183.toArray.toList, one u) ∧ storeK h182 ⟨Array.size h, 0, none⟩ C183.toArray.toList fun h184 =>
 ∃ C185, cellsH h184 ⟨Array.size h, 0, none⟩ 9 C185 ∧ R (.agg C185.toArray) h184) X)
 (asK .i64 deep_p fun n186 => CallX Tryd.prog ω 49 [r_p, (.int .i64 (IntKind.wrap .i64 (n186 + 1)))] h126 (fun r187 h188 =>
 oneK r187 (storeK1 h188 (Addr.add ⟨Array.size h1, 0, none⟩ 7) r187 fun h189 =>
 ∃ J190 : Value → Hp → Prop,
 (∃ v194, cellH h189 (Addr.add ⟨Array.size h1, 0, none⟩ 0) = some v194 ∧
 asK .i64 v194 fun n195 => cond (n195 == (11 : Int))
 (CallX Tryd.prog ω 43 [r_p] h189 (fun r196 h197 =>
 asB r196 fun b198 => cond (!b198)
 (CallX Tryd.prog ω 44 [r_p, (.string ⟨#[101, 108, 115, 101]⟩)] h197 (fun r199 h200 =>
 J190 r199 h200) X)
 (J190 (.bool false) h197)) X)
 (∃ v201, cellH h189 (Addr.add ⟨Array.size h1, 0, none⟩ 0) = some v201 ∧
 asK .i64 v201 fun n202 => cond (n202 == (14 : Int))
 (CallX Tryd.prog ω 43 [r_p] h189 (fun r203 h204 =>
 asB r203 fun b205 => cond (!b205)
 (CallX Tryd.prog ω 44 [r_p, (.string ⟨#[101, 108, 115, 101]⟩)] h204 (fun r206 h207 =>
 J190 r206 h207) X)
 (J190 (.bool false) h204)) X)
 (J190 (.bool false) h189))) ∧
 ∀ t155_191 (d192 : Nat → Value) (h193 : Hp), J190 t155_191 h193 →
 ∃ J208 : Hp → Prop,
 (asB t155_191 fun b211 => cond b211
 (nnK r_p (asP r_p fun p212 =>
 ∃ v213, cellH h193 (Addr.add p212 1) = some v213 ∧
 asK .i64 v213 fun n214 => nnK r_p (asP r_p fun p215 =>
 storeK1 h193 (Addr.add p215 1) (.int .i64 (IntKind.wrap .i64 (n214 + 1))) fun h216 =>
 asK .i64 deep_p fun n217 => CallX Tryd.prog ω 49 [r_p, (.int .i64 (IntKind.wrap .i64 (n217 + 1)))] h216 (fun r218 h219 =>
 oneK r218 (storeK1 h219 (Addr.add ⟨Array.size h1, 0, none⟩ 8) r218 fun h220 =>
 J208 h220)) X)))
 (J208 h193)) ∧
 ∀  (d209 : Nat → Value) (h210 : Hp), J208 h210 →
 ∃ C221, cellsH h210 ⟨Array.size h1, 0, none⟩ 9 C221 ∧
 C221.toArray.size = 9 ∧ (∀ u ∈ C221.toArray.toList, one u) ∧ storeK h210 ⟨Array.size h, 0, none⟩ C221.toArray.toList fun h222 =>
 ∃ C223, cellsH h222 ⟨Array.size h, 0, none⟩ 9 C223 ∧ R (.agg C223.toArray) h222)) X))))))))))) X
def A_p_pipewrightref_reading_stmt : Ann :=
 (.two .leaf (.two .leaf (.two .leaf (.two (.two .leaf (.one (.loop [12, 13, 14, 15, 18, 19, 20, 21, 22, 23, 24, 25, 26, 16, 17, 7] [7] (.two (.two .leaf (.two .leaf .leaf)) (.two (.join [18, 19, 20, 21, 22, 23, 24, 25, 26] [] (.one (.two .leaf (.join [24, 25, 26] [] (.two .leaf .leaf))))) .leaf))))) (.two (.two .leaf (.two (.two .leaf (.two .leaf .leaf)) .leaf)) (.two (.two .leaf (.two (.two .leaf (.two .leaf .leaf)) .leaf)) (.two .leaf (.two .leaf (.two (.two (.jb [55, 56, 57, 58, 59, 60, 61, 62, 63, 64, 65, 66, 67] 67 .leaf) (.join [68, 69, 70, 71] [] (.two .leaf .leaf))) (.two (.two .leaf (.join [75, 74, 76, 77, 78, 80, 79, 81, 82, 83, 84, 85, 87, 86, 88, 89, 90, 91, 92, 93, 94, 96, 95, 98, 99, 97, 100, 101, 102] [] (.one (.two (.two .leaf (.join [76, 74] [74] (.two .leaf .leaf))) (.join [77, 78, 80, 79, 81, 82, 83, 84, 85, 87, 86, 88, 89, 90, 91, 92, 93, 94, 96, 95, 98, 99, 97, 100, 101, 102] [] (.two .leaf (.two (.two .leaf (.join [81, 79] [79] (.two .leaf .leaf))) (.join [82, 83, 84, 85, 87, 86, 88, 89, 90, 91, 92, 93, 94, 96, 95, 98, 99, 97, 100, 101, 102] [] (.two .leaf (.two (.two .leaf (.join [88, 86] [86] (.two .leaf .leaf))) (.join [89, 90, 91, 92, 93, 94, 96, 95, 98, 99, 97, 100, 101, 102] [] (.two (.two .leaf .leaf) (.two .leaf (.join [98, 99, 97, 100, 101, 102] [] (.two .leaf .leaf))))))))))))))) (.two (.two .leaf (.join [106, 105, 107, 108, 109, 110, 111, 112, 113, 115, 114, 116, 117, 118, 119, 120, 121, 122, 123, 124, 125, 126, 127] [] (.one (.two .leaf (.join [107, 108, 109, 110, 111, 112, 113, 115, 114, 116, 117, 118, 119, 120, 121, 122, 123, 124, 125, 126, 127] [] (.two (.two .leaf .leaf) (.two (.two .leaf (.join [116, 114, 117, 118, 119, 120] [114] (.two .leaf (.two .leaf (.join [117, 114, 118, 119, 120] [114] (.two .leaf (.two .leaf (.join [118, 114, 119, 120] [114] (.two .leaf (.two .leaf (.join [119, 114, 120] [114] (.two .leaf (.two .leaf (.join [120, 114] [114] (.two .leaf .leaf))))))))))))))) (.join [121, 122, 123, 124, 125, 126, 127] [] (.two (.two .leaf (.join [124, 125, 126, 127] [] (.two .leaf .leaf))) .leaf))))))))) (.two (.two .leaf (.two (.two .leaf (.two .leaf .leaf)) .leaf)) (.two .leaf (.two (.two (.join [139, 140, 141, 142, 143, 144, 145, 146, 147, 148, 149, 150, 151, 152, 153, 154, 155] [155] .leaf) (.join [156, 157, 158, 159, 160, 161, 162, 163, 164, 165, 166, 167] [] (.two (.two .leaf .leaf) .leaf))) (.two .leaf .leaf)))))))))))))))
theorem C_p_pipewrightref_reading_stmt (ω : Amb) (r_p deep_p : Value) (h : Hp) (R : Value → Hp → Prop) (X : List PanicEntry → Hp → Prop) (hk : W_p_pipewrightref_reading_stmt ω r_p deep_p h R X) : CallX Tryd.prog ω 84 [r_p, deep_p] h R X :=
 callX_of (an := A_p_pipewrightref_reading_stmt) Tryd.func84 ((show fnX Tryd.prog ω A_p_pipewrightref_reading_stmt Tryd.f84 [r_p, deep_p] h R X = W_p_pipewrightref_reading_stmt ω r_p deep_p h R X by kernel_rfl) ▸ hk)

/-- (*pipewright/syntax.parser).kind -/
abbrev n_p_syntax_parser_kind : Nat := 102
def W_p_syntax_parser_kind (ω : Amb) (p_p k_p : Value) (h : Hp) (R : Value → Hp → Prop) (X : List PanicEntry → Hp → Prop) : Prop :=
 ∃ β0 : Bool,
 (nnK p_p (asP p_p fun p2 =>
 ∃ v3, cellH (Array.push h (.cells #[(.int .i64 0), (.int .i64 0), (.string ⟨#[]⟩), (.int .i64 0)] 46 (0, 0))) (Addr.add p2 0) = some v3 ∧
 asSl v3 fun a4 l5 c6 => cond ((l5 : Int) == (0 : Int))
 (((.bool true) : Value) = .bool β0 ∧ (Array.push h (.cells #[(.int .i64 0), (.int .i64 0), (.string ⟨#[]⟩), (.int .i64 0)] 46 (0, 0))) = (Array.push h (.cells #[(.int .i64 0), (.int .i64 0), (.string ⟨#[]⟩), (.int .i64 0)] 46 (0, 0))))
 (nnK p_p (asP p_p fun p7 =>
 ∃ v8, cellH (Array.push h (.cells #[(.int .i64 0), (.int .i64 0), (.string ⟨#[]⟩), (.int .i64 0)] 46 (0, 0))) (Addr.add p7 0) = some v8 ∧
 asSl1 v8 fun a9 l10 c11 => 0 ≤ (0 : Int) ∧ 0 < (l10 : Int) ∧ ∃ v12, cellH (Array.push h (.cells #[(.int .i64 0), (.int .i64 0), (.string ⟨#[]⟩), (.int .i64 0)] 46 (0, 0))) (Addr.add (Addr.add a9 (Int.toNat 0 * 4)) 0) = some v12 ∧
 asK .i64 v12 fun n13 => asK .i64 k_p fun n14 => ((.bool (n13 != (n14 : Int))) : Value) = .bool β0 ∧ (Array.push h (.cells #[(.int .i64 0), (.int .i64 0), (.string ⟨#[]⟩), (.int .i64 0)] 46 (0, 0))) = (Array.push h (.cells #[(.int .i64 0), (.int .i64 0), (.string ⟨#[]⟩), (.int .i64 0)] 46 (0, 0))))))) ∧
 ∀ d1 : Nat → Value,
 ∃ J15 : Hp → Prop,
 (cond β0
 (CallX Tryd.prog ω 41 [p_p, (.int .i64 5)] (Array.push h (.cells #[(.int .i64 0), (.int .i64 0), (.string ⟨#[]⟩), (.int .i64 0)] 46 (0, 0))) (fun r18 h19 =>
 J15 h19) X)
 (J15 (Array.push h (.cells #[(.int .i64 0), (.int .i64 0), (.string ⟨#[]⟩), (.int .i64 0)] 46 (0, 0))))) ∧
 ∀  (d16 : Nat → Value) (h17 : Hp), J15 h17 →
 CallX Tryd.prog ω 76 [p_p] h17 (fun r20 h21 =>
 asA r20 fun A22 => A22.size = 4 ∧ (∀ u ∈ A22.toList, one u) ∧ storeK h21 ⟨Array.size h, 0, none⟩ A22.toList fun h23 =>
 ∃ C24, cellsH h23 ⟨Array.size h, 0, none⟩ 4 C24 ∧ R (.agg C24.toArray) h23) X
def A_p_syntax_parser_kind : Ann :=
 (.two .leaf (.two (.two (.jb [5, 6, 7, 8, 9, 10, 11, 12, 13, 14, 15, 16, 17, 18, 19, 20, 21] 21 .leaf) (.join [22, 23] [] (.two .leaf .leaf))) (.two .leaf .leaf)))
theorem C_p_syntax_parser_kind (ω : Amb) (p_p k_p : Value) (h : Hp) (R : Value → Hp → Prop) (X : List PanicEntry → Hp → Prop) (hk : W_p_syntax_parser_kind ω p_p k_p h R X) : CallX Tryd.prog ω 102 [p_p, k_p] h R X :=
 callX_of (an := A_p_syntax_parser_kind) Tryd.func102 ((show fnX Tryd.prog ω A_p_syntax_parser_kind Tryd.f102 [p_p, k_p] h R X = W_p_syntax_parser_kind ω p_p k_p h R X by kernel_rfl) ▸ hk)

/-- (*pipewright/syntax.parser).stmt -/
abbrev n_p_syntax_parser_stmt : Nat := 103
def W_p_syntax_parser_stmt (ω : Amb) (p_p : Value) (h : Hp) (R : Value → Hp → Prop) (X : List PanicEntry → Hp → Prop) : Prop :=
 ∃ β0 : Bool,
 (nnK p_p (asP p_p fun p2 =>
 ∃ v3, cellH (Array.push h (.cells #[(.int .i64 0), (.int .i64 0), (.string ⟨#[]⟩), (.string ⟨#[]⟩), (.string ⟨#[]⟩), (.int .i64 0), (.slice none 0 0), (.slice none 0 0), (.slice none 0 0)] 65 (0, 0))) (Addr.add p2 0) = some v3 ∧
 asSl v3 fun a4 l5 c6 => cond ((l5 : Int) == (0 : Int))
 (((.bool true) : Value) = .bool β0 ∧ (Array.push h (.cells #[(.int .i64 0), (.int .i64 0), (.string ⟨#[]⟩), (.string ⟨#[]⟩), (.string ⟨#[]⟩), (.int .i64 0), (.slice none 0 0), (.slice none 0 0), (.slice none 0 0)] 65 (0, 0))) = (Array.push h (.cells #[(.int .i64 0), (.int .i64 0), (.string ⟨#[]⟩), (.string ⟨#[]⟩), (.string ⟨#[]⟩), (.int .i64 0), (.slice none 0 0), (.slice none 0 0), (.slice none 0 0)] 65 (0, 0))))
 (nnK p_p (asP p_p fun p7 =>
 ∃ v8, cellH (Array.push h (.cells #[(.int .i64 0), (.int .i64 0), (.string ⟨#[]⟩), (.string ⟨#[]⟩), (.string ⟨#[]⟩), (.int .i64 0), (.slice none 0 0), (.slice none 0 0), (.slice none 0 0)] 65 (0, 0))) (Addr.add p7 0) = some v8 ∧
 asSl1 v8 fun a9 l10 c11 => 0 ≤ (0 : Int) ∧ 0 < (l10 : Int) ∧ ∃ v12, cellH (Array.push h (.cells #[(.int .i64 0), (.int .i64 0), (.string ⟨#[]⟩), (.string ⟨#[]⟩), (.string ⟨#[]⟩), (.int .i64 0), (.slice none 0 0), (.slice none 0 0), (.slice none 0 0)] 65 (0, 0))) (Addr.add (Addr.add a9 (Int.toNat 0 * 4)) 0) = some v12 ∧
 asK .i64 v12 fun n13 => ((.bool (n13 != (1 : Int))) : Value) = .bool β0 ∧ (Array.push h (.cells #[(.int .i64 0), (.int .i64 0), (.string ⟨#[]⟩), (.string ⟨#[]⟩), (.string ⟨#[]⟩), (.int .i64 0), (.slice none 0 0), (.slice none 0 0), (.slice none 0 0)] 65 (0, 0))) = (Array.push h (.cells #[(.int .i64 0), (.int .i64 0), (.string ⟨#[]⟩), (.string ⟨#[]⟩), (.string ⟨#[]⟩), (.int .i64 0), (.slice none 0 0), (.slice none 0 0), (.slice none 0 0)] 65 (0, 0))))))) ∧
 ∀ d1 : Nat → Value,
 ∃ J14 : Hp → Prop,
 (cond β0
 (CallX Tryd.prog ω 41 [p_p, (.int .i64 5)] (Array.push h (.cells #[(.int .i64 0), (.int .i64 0), (.string ⟨#[]⟩), (.string ⟨#[]⟩), (.string ⟨#[]⟩), (.int .i64 0), (.slice none 0 0), (.slice none 0 0), (.slice none 0 0)] 65 (0, 0))) (fun r17 h18 =>
 J14 h18) X)
 (J14 (Array.push h (.cells #[(.int .i64 0), (.int .i64 0), (.string ⟨#[]⟩), (.string ⟨#[]⟩), (.string ⟨#[]⟩), (.int .i64 0), (.slice none 0 0), (.slice none 0 0), (.slice none 0 0)] 65 (0, 0))))) ∧
 ∀  (d15 : Nat → Value) (h16 : Hp), J14 h16 →
 nnK p_p (asP p_p fun p19 =>
 ∃ v20, cellH h16 (Addr.add p19 0) = some v20 ∧
 asSl1 v20 fun a21 l22 c23 => 0 ≤ (0 : Int) ∧ 0 < (l22 : Int) ∧ ∃ v24, cellH h16 (Addr.add (Addr.add a21 (Int.toNat 0 * 4)) 2) = some v24 ∧
 CallX Tryd.prog ω 121 [(.slice (some ⟨Array.size h16, 0, none⟩) 14 14), v24] (Array.push h16 (.cells (List.toArray [(.string ⟨#[108, 101, 116]⟩), (.string ⟨#[115, 101, 116]⟩), (.string ⟨#[101, 109, 105, 116]⟩), (.string ⟨#[99, 104, 97, 110]⟩), (.string ⟨#[99, 108, 111, 110, 101]⟩), (.string ⟨#[115, 101, 110, 100]⟩), (.string ⟨#[99, 108, 111, 115, 101]⟩), (.string ⟨#[97, 98, 97, 110, 100, 111, 110]⟩), (.string ⟨#[100, 114, 97, 105, 110]⟩), (.string ⟨#[115, 112, 97, 119, 110]⟩), (.string ⟨#[116, 97, 107, 101]⟩), (.string ⟨#[102, 111, 114]⟩), (.string ⟨#[114, 101, 112, 101, 97, 116]⟩), (.string ⟨#[105, 102]⟩)]) 9 (0, 0))) (fun r25 h26 =>
 asK .i64 r25 fun n27 => ∃ J28 : Hp → Prop,
 (cond (decide ((n27 : Int) < 0))
 (CallX Tryd.prog ω 41 [p_p, (.int .i64 5)] h26 (fun r31 h32 =>
 J28 h32) X)
 (J28 h26)) ∧
 ∀  (d29 : Nat → Value) (h30 : Hp), J28 h30 →
 nnK p_p (asP p_p fun p33 =>
 ∃ v34, cellH h30 (Addr.add p33 2) = some v34 ∧
 asK .i64 v34 fun n35 => ∃ J36 : Hp → Prop,
 (cond (n35 == (300 : Int))
 (CallX Tryd.prog ω 41 [p_p, (.int .i64 8)] h30 (fun r39 h40 =>
 J36 h40) X)
 (J36 h30)) ∧
 ∀  (d37 : Nat → Value) (h38 : Hp), J36 h38 →
 nnK p_p (asP p_p fun p41 =>
 ∃ v42, cellH h38 (Addr.add p41 2) = some v42 ∧
 asK .i64 v42 fun n43 => nnK p_p (asP p_p fun p44 =>
 storeK1 h38 (Addr.add p44 2) (.int .i64 (IntKind.wrap .i64 (n43 + 1))) fun h45 =>
 asK .i64 r25 fun n46 => CallX Tryd.prog ω 76 [p_p] h45 (fun r47 h48 =>
 asA r47 fun A49 => asO A49[1]? fun v50 => oneK v50 (9 = 9 ∧ (∀ u ∈ [(.int .i64 (IntKind.wrap .i64 (n46 + 1))), v50, (.string ⟨#[]⟩), (.string ⟨#[]⟩), (.string ⟨#[]⟩), (.int .i64 0), (.slice none 0 0), (.slice none 0 0), (.slice none 0 0)], one u) ∧ storeK (Array.push h48 (.cells #[(.int .i64 0), (.int .i64 0), (.string ⟨#[]⟩), (.string ⟨#[]⟩), (.string ⟨#[]⟩), (.int .i64 0), (.slice none 0 0), (.slice none 0 0), (.slice none 0 0)] 65 (0, 0))) ⟨Array.size h48, 0, none⟩ [(.int .i64 (IntKind.wrap .i64 (n46 + 1))), v50, (.string ⟨#[]⟩), (.string ⟨#[]⟩), (.string ⟨#[]⟩), (.int .i64 0), (.slice none 0 0), (.slice none 0 0), (.slice none 0 0)] fun h51 =>
 ∃ v52, cellH h51 (Addr.add ⟨Array.size h48, 0, none⟩ 0) = some v52 ∧
 asK .i64 v52 fun n53 => ∃ J54 : Value → Hp → Prop,
 (cond (n53 == (11 : Int))
 (J54 (.bool (n53 == (11 : Int))) h51)
 (asK .i64 v52 fun n58 => ∃ J59 : Value → Hp → Prop,
 (cond (n58 == (12 : Int))
 (J59 (.bool (n58 == (12 : Int))) h51)
 (asK .i64 v52 fun n63 => ∃ J64 : Value → Hp → Prop,
 (cond (n63 == (13 : Int))
 (J64 (.bool (n63 == (13 : Int))) h51)
 (asK .i64 v52 fun n68 => J64 (.bool (n68 == (14 : Int))) h51)) ∧
 ∀ t60_65 (d66 : Nat → Value) (h67 : Hp), J64 t60_65 h67 →
 J59 t60_65 h67)) ∧
 ∀ t60_60 (d61 : Nat → Value) (h62 : Hp), J59 t60_60 h62 →
 J54 t60_60 h62)) ∧
 ∀ t60_55 (d56 : Nat → Value) (h57 : Hp), J54 t60_55 h57 →
 asB t60_55 fun b69 => cond b69
 (CallX Tryd.prog ω 122 [p_p, (.pointer (some ⟨Array.size h48, 0, none⟩))] h57 (fun r70 h71 =>
 ∃ C72, cellsH h71 ⟨Array.size h48, 0, none⟩ 9 C72 ∧
 C72.toArray.size = 9 ∧ (∀ u ∈ C72.toArray.toList, one u) ∧ storeK h71 ⟨Array.size h, 0, none⟩ C72.toArray.toList fun h73 =>
 ∃ C74, cellsH h73 ⟨Array.size h, 0, none⟩ 9 C74 ∧ R (.agg C74.toArray) h73) X)
 (CallX Tryd.prog ω 123 [p_p, (.pointer (some ⟨Array.size h48, 0, none⟩))] h57 (fun r75 h76 =>
 CallX Tryd.prog ω 78 [p_p, (.slice (some ⟨Array.size h76, 0, none⟩) 1 1)] (Array.push h76 (.cells (List.toArray [(.string ⟨#[59]⟩)]) 9 (0, 0))) (fun r77 h78 =>
 ∃ C79, cellsH h78 ⟨Array.size h48, 0, none⟩ 9 C79 ∧
 C79.toArray.size = 9 ∧ (∀ u ∈ C79.toArray.toList, one u) ∧ storeK h78 ⟨Array.size h, 0, none⟩ C79.toArray.toList fun h80 =>
 ∃ C81, cellsH h80 ⟨Array.size h, 0, none⟩ 9 C81 ∧ R (.agg C81.toArray) h80) X) X))) X)))) X)
def A_p_syntax_parser_stmt : Ann :=
 (.two .leaf (.two (.two (.jb [6, 7, 8, 9, 10, 11, 12, 13, 14, 15, 16, 17, 18, 19, 20, 21] 21 .leaf) (.join [22, 23] [] (.two .leaf .leaf))) (.two .leaf (.two .leaf (.two (.two .leaf (.join [36, 37] [] (.two .leaf .leaf))) (.two (.two .leaf (.join [43, 44] [] (.two .leaf .leaf))) (.two .leaf (.two .leaf (.two (.two .leaf (.one (.two (.two .leaf (.join [62, 60, 63, 64] [60] (.two .leaf (.two .leaf (.join [63, 60, 64] [60] (.two .leaf (.two .leaf (.join [64, 60] [60] (.two .leaf .leaf))))))))) (.two (.two .leaf (.two .leaf .leaf)) .leaf)))) (.two .leaf (.two .leaf (.two .leaf .leaf))))))))))))
theorem C_p_syntax_parser_stmt (ω : Amb) (p_p : Value) (h : Hp) (R : Value → Hp → Prop) (X : List PanicEntry → Hp → Prop) (hk : W_p_syntax_parser_stmt ω p_p h R X) : CallX Tryd.prog ω 103 [p_p] h R X :=
 callX_of (an := A_p_syntax_parser_stmt) Tryd.func103 ((show fnX Tryd.prog ω A_p_syntax_parser_stmt Tryd.f103 [p_p] h R X = W_p_syntax_parser_stmt ω p_p h R X by kernel_rfl) ▸ hk)

/-- (*pipewright/pipewrightref.reading).binary -/
abbrev n_p_pipewrightref_reading_binary : Nat := 104
def A_p_pipewrightref_reading_binary : Ann :=
 (.two .leaf (.two (.two .leaf (.two (.two .leaf .leaf) .leaf)) (.two .leaf (.two (.join [20, 21, 22, 8, 24, 25, 26, 27, 28, 29, 23, 31, 32, 33, 34, 35, 36, 30, 38, 39, 40, 41, 42, 43, 37, 45, 46, 47, 48, 49, 50, 44, 52, 53, 54, 55, 56, 57, 51, 58, 59, 60, 61, 62, 63, 64, 65, 66, 67, 68, 69, 70, 71, 9, 72, 73, 74, 75, 76, 77, 78, 79, 80, 81, 82, 83, 84, 85] [] (.one (.loop [20, 21, 22, 8, 24, 25, 26, 27, 28, 29, 23, 31, 32, 33, 34, 35, 36, 30, 38, 39, 40, 41, 42, 43, 37, 45, 46, 47, 48, 49, 50, 44, 52, 53, 54, 55, 56, 57, 51, 58, 59, 60, 61, 62, 63, 64, 65, 66, 67, 68, 69, 70, 71, 9, 72, 73, 74, 75, 76, 77, 78, 79, 80, 81, 82, 83, 84, 85] [] (.two (.two .leaf (.two .leaf .leaf)) (.one (.two .leaf (.two (.join [24, 25, 26, 27, 28, 29, 23, 8, 31, 32, 33, 34, 35, 36, 30, 38, 39, 40, 41, 42, 43, 37, 45, 46, 47, 48, 49, 50, 44, 52, 53, 54, 55, 56, 57, 51] [8] (.one (.two (.join [24, 25, 26, 27, 28, 29, 23] [23] .leaf) (.join [8, 31, 32, 33, 34, 35, 36, 30, 38, 39, 40, 41, 42, 43, 37, 45, 46, 47, 48, 49, 50, 44, 52, 53, 54, 55, 56, 57, 51] [8] (.two .leaf (.two (.join [31, 32, 33, 34, 35, 36, 30] [30] .leaf) (.join [8, 38, 39, 40, 41, 42, 43, 37, 45, 46, 47, 48, 49, 50, 44, 52, 53, 54, 55, 56, 57, 51] [8] (.two .leaf (.two (.join [38, 39, 40, 41, 42, 43, 37] [37] .leaf) (.join [8, 45, 46, 47, 48, 49, 50, 44, 52, 53, 54, 55, 56, 57, 51] [8] (.two .leaf (.two (.join [45, 46, 47, 48, 49, 50, 44] [44] .leaf) (.join [8, 52, 53, 54, 55, 56, 57, 51] [8] (.two .leaf (.two (.join [52, 53, 54, 55, 56, 57, 51] [51] .leaf) (.join [8] [8] (.two .leaf .leaf))))))))))))))))) (.two (.two .leaf (.two .leaf .leaf)) (.two .leaf (.two .leaf (.two .leaf (.two .leaf (.two .leaf (.two .leaf .leaf)))))))))))))) (.two .leaf .leaf)))))
/-- slices.Index[[]string,string] -/
abbrev n_slices_Index_sl_string_string : Nat := 121
def W_slices_Index_sl_string_string (ω : Amb) (s_p v_p : Value) (h : Hp) (R : Value → Hp → Prop) (X : List PanicEntry → Hp → Prop) : Prop :=
 asSl s_p fun a0 l1 c2 => ∃ (I3 : Value → Hp → Prop) (μ4 : Value → Hp → Nat), I3 (.int .i64 0) h ∧ ∀ t8_5 (d6 : Nat → Value) (h7 : Hp), I3 t8_5 h7 →
 asK .i64 t8_5 fun n8 => cond (decide ((n8 : Int) < (l1 : Int)))
 (asSl1 s_p fun a9 l10 c11 => asI t8_5 fun n12 => 0 ≤ (n12 : Int) ∧ n12 < (l10 : Int) ∧ ∃ v13, cellH h7 (Addr.add a9 (Int.toNat n12 * 1)) = some v13 ∧
 asS v_p fun s14 => asS v13 fun s15 => cond (ByteArray.toList s14 == ByteArray.toList s15)
 (R t8_5 h7)
 (asK .i64 t8_5 fun n16 => I3 (.int .i64 (IntKind.wrap .i64 (n16 + 1))) h7 ∧ μ4 (.int .i64 (IntKind.wrap .i64 (n16 + 1))) h7 < μ4 t8_5 h7))
 (R (.int .i64 (-1)) h7)
def A_slices_Index_sl_string_string : Ann :=
 (.two .leaf (.two (.two .leaf (.one (.loop [9, 10, 5, 11, 12, 13, 14, 15, 16, 17, 4, 18, 8] [8] (.two .leaf (.two (.two .leaf .leaf) (.two (.one (.two .leaf (.two .leaf (.two (.two .leaf .leaf) .leaf)))) .leaf)))))) (.two .leaf .leaf)))
theorem C_slices_Index_sl_string_string (ω : Amb) (s_p v_p : Value) (h : Hp) (R : Value → Hp → Prop) (X : List PanicEntry → Hp → Prop) (hk : W_slices_Index_sl_string_string ω s_p v_p h R X) : CallX Tryd.prog ω 121 [s_p, v_p] h R X :=
 callX_of (an := A_slices_Index_sl_string_string) Tryd.func121 ((show fnX Tryd.prog ω A_slices_Index_sl_string_string Tryd.f121 [s_p, v_p] h R X = W_slices_Index_sl_string_string ω s_p v_p h R X by kernel_rfl) ▸ hk)

/-- (*pipewright/syntax.parser).long -/
abbrev n_p_syntax_parser_long : Nat := 122
def W_p_syntax_parser_long (ω : Amb) (p_p s_p : Value) (h : Hp) (R : Value → Hp → Prop) (X : List PanicEntry → Hp → Prop) : Prop :=
 ∃ β0 : Bool,
 (nnK s_p (asP s_p fun p2 =>
 ∃ v3, cellH h (Addr.add p2 0) = some v3 ∧
 asK .i64 v3 fun n4 => cond (n4 == (11 : Int))
 (((.bool true) : Value) = .bool β0 ∧ h = h)
 (nnK s_p (asP s_p fun p5 =>
 ∃ v6, cellH h (Addr.add p5 0) = some v6 ∧
 asK .i64 v6 fun n7 => ((.bool (n7 == (12 : Int))) : Value) = .bool β0 ∧ h = h)))) ∧
 ∀ d1 : Nat → Value,
 ∃ J8 : Hp → Prop,
 (cond β0
 (CallX Tryd.prog ω 77 [p_p] h (fun r11 h12 =>
 nnK s_p (asP s_p fun p13 =>
 oneK r11 (storeK1 h12 (Addr.add p13 2) r11 fun h14 =>
 CallX Tryd.prog ω 78 [p_p, (.slice (some ⟨Array.size h14, 0, none⟩) 1 1)] (Array.push h14 (.cells (List.toArray [(.string ⟨#[102, 114, 111, 109]⟩)]) 9 (0, 0))) (fun r15 h16 =>
 CallX Tryd.prog ω 77 [p_p] h16 (fun r17 h18 =>
 nnK s_p (asP s_p fun p19 =>
 oneK r17 (storeK1 h18 (Addr.add p19 3) r17 fun h20 =>
 J8 h20))) X) X))) X)
 (CallX Tryd.prog ω 138 [p_p] h (fun r21 h22 =>
 asA r21 fun A23 => A23.size = 4 ∧ nnK s_p (asP s_p fun p24 =>
 storeK1 (Array.push h22 (.cells (List.toArray (A23.toList ++ [])) 118 (0, 0))) (Addr.add p24 6) (.slice (some ⟨Array.size h22, 0, none⟩) 1 1) fun h25 =>
 J8 h25)) X)) ∧
 ∀  (d9 : Nat → Value) (h10 : Hp), J8 h10 →
 CallX Tryd.prog ω 80 [p_p] h10 (fun r26 h27 =>
 nnK s_p (asP s_p fun p28 =>
 oneK r26 (storeK1 h27 (Addr.add p28 7) r26 fun h29 =>
 ∃ β30 : Bool,
 (nnK s_p (asP s_p fun p32 =>
 ∃ v33, cellH h29 (Addr.add p32 0) = some v33 ∧
 asK .i64 v33 fun n34 => cond (n34 == (11 : Int))
 (((.bool true) : Value) = .bool β30 ∧ h29 = h29)
 (nnK s_p (asP s_p fun p35 =>
 ∃ v36, cellH h29 (Addr.add p35 0) = some v36 ∧
 asK .i64 v36 fun n37 => ((.bool (n37 == (14 : Int))) : Value) = .bool β30 ∧ h29 = h29)))) ∧
 ∀ d31 : Nat → Value,
 ∃ J38 : Hp → Prop,
 (cond β30
 (CallX Tryd.prog ω 139 [p_p] h29 (fun r41 h42 =>
 nnK s_p (asP s_p fun p43 =>
 oneK r41 (storeK1 h42 (Addr.add p43 8) r41 fun h44 =>
 J38 h44))) X)
 (J38 h29)) ∧
 ∀  (d39 : Nat → Value) (h40 : Hp), J38 h40 →
 R (.tuple #[]) h40))) X
def A_p_syntax_parser_long : Ann :=
 (.two (.two (.jb [4, 5, 6, 7, 8, 9, 10, 11, 12, 13, 14, 15] 15 .leaf) (.join [16, 17, 18, 19, 20, 21, 22, 23, 24, 25, 26, 27, 28, 29, 30, 31, 32, 33, 34] [] (.two (.two .leaf (.two .leaf .leaf)) .leaf))) (.two .leaf (.two (.jb [40, 41, 42, 43, 44, 45, 46, 47, 48, 49, 50, 51] 51 .leaf) (.join [52, 53, 54, 55, 56] [] (.two .leaf .leaf)))))
theorem C_p_syntax_parser_long (ω : Amb) (p_p s_p : Value) (h : Hp) (R : Value → Hp → Prop) (X : List PanicEntry → Hp → Prop) (hk : W_p_syntax_parser_long ω p_p s_p h R X) : CallX Tryd.prog ω 122 [p_p, s_p] h R X :=
 callX_of (an := A_p_syntax_parser_long) Tryd.func122 ((show fnX Tryd.prog ω A_p_syntax_parser_long Tryd.f122 [p_p, s_p] h R X = W_p_syntax_parser_long ω p_p s_p h R X by kernel_rfl) ▸ hk)

/-- (*pipewright/syntax.parser).short -/
abbrev n_p_syntax_parser_short : Nat := 123
def W_p_syntax_parser_short (ω : Amb) (p_p s_p : Value) (h : Hp) (R : Value → Hp → Prop) (X : List PanicEntry → Hp → Prop) : Prop :=
 nnK s_p (asP s_p fun p0 =>
 ∃ v1, cellH h (Addr.add p0 0) = some v1 ∧
 asK .i64 v1 fun n2 => cond (n2 == (3 : Int))
 (CallX Tryd.prog ω 138 [p_p] h (fun r3 h4 =>
 asA r3 fun A5 => A5.size = 4 ∧ nnK s_p (asP s_p fun p6 =>
 storeK1 (Array.push h4 (.cells (List.toArray (A5.toList ++ [])) 118 (0, 0))) (Addr.add p6 6) (.slice (some ⟨Array.size h4, 0, none⟩) 1 1) fun h7 =>
 R (.tuple #[]) h7)) X)
 (CallX Tryd.prog ω 77 [p_p] h (fun r8 h9 =>
 nnK s_p (asP s_p fun p10 =>
 oneK r8 (storeK1 h9 (Addr.add p10 2) r8 fun h11 =>
 nnK s_p (asP s_p fun p12 =>
 ∃ v13, cellH h11 (Addr.add p12 0) = some v13 ∧
 ∃ J14 : Hp → Prop,
 (asK .i64 v13 fun n17 => ∃ J18 : Value → Hp → Prop,
 (cond (n17 == (1 : Int))
 (J18 (.bool (n17 == (1 : Int))) h11)
 (asK .i64 v13 fun n22 => J18 (.bool (n22 == (2 : Int))) h11)) ∧
 ∀ t25_19 (d20 : Nat → Value) (h21 : Hp), J18 t25_19 h21 →
 ∃ J23 : Hp → Prop,
 (asB t25_19 fun b26 => cond b26
 (CallX Tryd.prog ω 78 [p_p, (.slice (some ⟨Array.size h21, 0, none⟩) 1 1)] (Array.push h21 (.cells (List.toArray [(.string ⟨#[61]⟩)]) 9 (0, 0))) (fun r27 h28 =>
 CallX Tryd.prog ω 138 [p_p] h28 (fun r29 h30 =>
 asA r29 fun A31 => A31.size = 4 ∧ nnK s_p (asP s_p fun p32 =>
 storeK1 (Array.push h30 (.cells (List.toArray (A31.toList ++ [])) 118 (0, 0))) (Addr.add p32 6) (.slice (some ⟨Array.size h30, 0, none⟩) 1 1) fun h33 =>
 J23 h33)) X) X)
 (asK .i64 v13 fun n34 => ∃ J35 : Hp → Prop,
 (cond (n34 == (4 : Int))
 (CallX Tryd.prog ω 77 [p_p] h21 (fun r38 h39 =>
 nnK s_p (asP s_p fun p40 =>
 oneK r38 (storeK1 h39 (Addr.add p40 3) r38 fun h41 =>
 CallX Tryd.prog ω 79 [p_p] h41 (fun r42 h43 =>
 nnK s_p (asP s_p fun p44 =>
 oneK r42 (storeK1 h43 (Addr.add p44 4) r42 fun h45 =>
 CallX Tryd.prog ω 102 [p_p, (.int .i64 3)] h45 (fun r46 h47 =>
 asA r46 fun A48 => asO A48[3]? fun v49 => nnK s_p (asP s_p fun p50 =>
 oneK v49 (storeK1 h47 (Addr.add p50 5) v49 fun h51 =>
 J35 h51))) X))) X))) X)
 (asK .i64 v13 fun n52 => ∃ J53 : Hp → Prop,
 (cond (n52 == (5 : Int))
 (CallX Tryd.prog ω 77 [p_p] h21 (fun r56 h57 =>
 nnK s_p (asP s_p fun p58 =>
 oneK r56 (storeK1 h57 (Addr.add p58 3) r56 fun h59 =>
 J53 h59))) X)
 (asK .i64 v13 fun n60 => ∃ J61 : Hp → Prop,
 (cond (n60 == (6 : Int))
 (CallX Tryd.prog ω 138 [p_p] h21 (fun r64 h65 =>
 asA r64 fun A66 => A66.size = 4 ∧ nnK s_p (asP s_p fun p67 =>
 storeK1 (Array.push h65 (.cells (List.toArray (A66.toList ++ [])) 118 (0, 0))) (Addr.add p67 6) (.slice (some ⟨Array.size h65, 0, none⟩) 1 1) fun h68 =>
 J61 h68)) X)
 (asK .i64 v13 fun n69 => ∃ J70 : Hp → Prop,
 (cond (n69 == (10 : Int))
 (CallX Tryd.prog ω 140 [p_p] h21 (fun r73 h74 =>
 nnK s_p (asP s_p fun p75 =>
 oneK r73 (storeK1 h74 (Addr.add p75 6) r73 fun h76 =>
 J70 h76))) X)
 (J70 h21)) ∧
 ∀  (d71 : Nat → Value) (h72 : Hp), J70 h72 →
 J61 h72)) ∧
 ∀  (d62 : Nat → Value) (h63 : Hp), J61 h63 →
 J53 h63)) ∧
 ∀  (d54 : Nat → Value) (h55 : Hp), J53 h55 →
 J35 h55)) ∧
 ∀  (d36 : Nat → Value) (h37 : Hp), J35 h37 →
 J23 h37)) ∧
 ∀  (d24 : Nat → Value) (h25 : Hp), J23 h25 →
 J14 h25) ∧
 ∀  (d15 : Nat → Value) (h16 : Hp), J14 h16 →
 R (.tuple #[]) h16)))) X))
def A_p_syntax_parser_short : Ann :=
 (.two (.two .leaf (.one (.two .leaf (.two (.two .leaf .leaf) .leaf)))) (.two .leaf (.two .leaf (.join [26, 25, 27, 28, 29, 30, 31, 32, 33, 34, 35, 36, 38, 37, 39, 40, 41, 42, 43, 44, 45, 46, 47, 48, 49, 50, 51, 52, 53, 54, 56, 55, 57, 58, 59, 60, 61, 63, 62, 64, 65, 66, 67, 68, 69, 71, 70, 72, 73, 74, 75, 76] [] (.one (.two (.two .leaf (.join [27, 25] [25] (.two .leaf .leaf))) (.join [28, 29, 30, 31, 32, 33, 34, 35, 36, 38, 37, 39, 40, 41, 42, 43, 44, 45, 46, 47, 48, 49, 50, 51, 52, 53, 54, 56, 55, 57, 58, 59, 60, 61, 63, 62, 64, 65, 66, 67, 68, 69, 71, 70, 72, 73, 74, 75, 76] [] (.two (.two .leaf .leaf) (.two .leaf (.join [39, 40, 41, 42, 43, 44, 45, 46, 47, 48, 49, 50, 51, 52, 53, 54, 56, 55, 57, 58, 59, 60, 61, 63, 62, 64, 65, 66, 67, 68, 69, 71, 70, 72, 73, 74, 75, 76] [] (.two (.two .leaf (.two .leaf .leaf)) (.two .leaf (.join [57, 58, 59, 60, 61, 63, 62, 64, 65, 66, 67, 68, 69, 71, 70, 72, 73, 74, 75, 76] [] (.two .leaf (.two .leaf (.join [64, 65, 66, 67, 68, 69, 71, 70, 72, 73, 74, 75, 76] [] (.two .leaf (.two .leaf (.join [72, 73, 74, 75, 76] [] (.two .leaf .leaf))))))))))))))))))))
theorem C_p_syntax_parser_short (ω : Amb) (p_p s_p : Value) (h : Hp) (R : Value → Hp → Prop) (X : List PanicEntry → Hp → Prop) (hk : W_p_syntax_parser_short ω p_p s_p h R X) : CallX Tryd.prog ω 123 [p_p, s_p] h R X :=
 callX_of (an := A_p_syntax_parser_short) Tryd.func123 ((show fnX Tryd.prog ω A_p_syntax_parser_short Tryd.f123 [p_p, s_p] h R X = W_p_syntax_parser_short ω p_p s_p h R X by kernel_rfl) ▸ hk)

/-- (*pipewright/pipewrightref.reading).unit -/
abbrev n_p_pipewrightref_reading_unit : Nat := 124
def W_p_pipewrightref_reading_unit (ω : Amb) (r_p open_p : Value) (h : Hp) (R : Value → Hp → Prop) (X : List PanicEntry → Hp → Prop) : Prop :=
 CallX Tryd.prog ω 43 [r_p] (Array.push h (.cells #[(.int .i64 0), (.string ⟨#[]⟩), (.int .i64 0), (.slice none 0 0)] 118 (0, 0))) (fun r0 h1 =>
 asB r0 fun b2 => cond b2
 (4 = 4 ∧ (∀ u ∈ [(.int .i64 0), (.string ⟨#[]⟩), (.int .i64 0), (.slice none 0 0)], one u) ∧ storeK h1 ⟨Array.size h, 0, none⟩ [(.int .i64 0), (.string ⟨#[]⟩), (.int .i64 0), (.slice none 0 0)] fun h3 =>
 ∃ C4, cellsH h3 ⟨Array.size h, 0, none⟩ 4 C4 ∧ R (.agg C4.toArray) h3)
 (∃ J5 : Value → Hp → Prop,
 (CallX Tryd.prog ω 44 [r_p, (.string ⟨#[40]⟩)] h1 (fun r9 h10 =>
 asB r9 fun b11 => cond b11
 (asK .i64 open_p fun n12 => J5 (.bool (decide ((n12 : Int) ≥ 60))) h10)
 (CallX Tryd.prog ω 44 [r_p, (.string ⟨#[45]⟩)] h10 (fun r13 h14 =>
 asB r13 fun b15 => cond b15
 (asK .i64 open_p fun n16 => J5 (.bool (decide ((n16 : Int) ≥ 60))) h14)
 (J5 (.bool false) h14)) X)) X) ∧
 ∀ t18_6 (d7 : Nat → Value) (h8 : Hp), J5 t18_6 h8 →
 asB t18_6 fun b17 => cond b17
 (CallX Tryd.prog ω 45 [r_p, (.int .i64 7)] h8 (fun r18 h19 =>
 4 = 4 ∧ (∀ u ∈ [(.int .i64 0), (.string ⟨#[]⟩), (.int .i64 0), (.slice none 0 0)], one u) ∧ storeK h19 ⟨Array.size h, 0, none⟩ [(.int .i64 0), (.string ⟨#[]⟩), (.int .i64 0), (.slice none 0 0)] fun h20 =>
 ∃ C21, cellsH h20 ⟨Array.size h, 0, none⟩ 4 C21 ∧ R (.agg C21.toArray) h20) X)
 (CallX Tryd.prog ω 44 [r_p, (.string ⟨#[40]⟩)] h8 (fun r22 h23 =>
 asB r22 fun b24 => cond b24
 (nnK r_p (asP r_p fun p25 =>
 ∃ v26, cellH h23 (Addr.add p25 1) = some v26 ∧
 asK .i64 v26 fun n27 => nnK r_p (asP r_p fun p28 =>
 storeK1 h23 (Addr.add p28 1) (.int .i64 (IntKind.wrap .i64 (n27 + 1))) fun h29 =>
 asK .i64 open_p fun n30 => CallX Tryd.prog ω 104 [r_p, (.int .i64 0), (.int .i64 (IntKind.wrap .i64 (n30 + 1)))] h29 (fun r31 h32 =>
 asA r31 fun A33 => A33.size = 4 ∧ (∀ u ∈ A33.toList, one u) ∧ storeK (Array.push h32 (.cells #[(.int .i64 0), (.string ⟨#[]⟩), (.int .i64 0), (.slice none 0 0)] 118 (0, 0))) ⟨Array.size h32, 0, none⟩ A33.toList fun h34 =>
 CallX Tryd.prog ω 81 [r_p, (.string ⟨#[41]⟩)] h34 (fun r35 h36 =>
 ∃ C37, cellsH h36 ⟨Array.size h32, 0, none⟩ 4 C37 ∧
 C37.toArray.size = 4 ∧ (∀ u ∈ C37.toArray.toList, one u) ∧ storeK h36 ⟨Array.size h, 0, none⟩ C37.toArray.toList fun h38 =>
 ∃ C39, cellsH h38 ⟨Array.size h, 0, none⟩ 4 C39 ∧ R (.agg C39.toArray) h38) X) X)))
 (nnK r_p (asP r_p fun p40 =>
 ∃ v41, cellH h23 (Addr.add p40 6) = some v41 ∧
 asK .i64 v41 fun n42 => nnK r_p (asP r_p fun p43 =>
 storeK1 h23 (Addr.add p43 6) (.int .i64 (IntKind.wrap .i64 (n42 + 1))) fun h44 =>
 CallX Tryd.prog ω 44 [r_p, (.string ⟨#[45]⟩)] h44 (fun r45 h46 =>
 asB r45 fun b47 => cond b47
 (nnK r_p (asP r_p fun p48 =>
 ∃ v49, cellH h46 (Addr.add p48 1) = some v49 ∧
 asK .i64 v49 fun n50 => nnK r_p (asP r_p fun p51 =>
 storeK1 h46 (Addr.add p51 1) (.int .i64 (IntKind.wrap .i64 (n50 + 1))) fun h52 =>
 asK .i64 open_p fun n53 => CallX Tryd.prog ω 124 [r_p, (.int .i64 (IntKind.wrap .i64 (n53 + 1)))] h52 (fun r54 h55 =>
 asA r54 fun A56 => A56.size = 4 ∧ 4 = 4 ∧ (∀ u ∈ [(.int .i64 3), (.string ⟨#[]⟩), (.int .i64 0), (.slice (some ⟨Array.size h55, 0, none⟩) 1 1)], one u) ∧ storeK (Array.push h55 (.cells (List.toArray (A56.toList ++ [])) 118 (0, 0))) ⟨Array.size h, 0, none⟩ [(.int .i64 3), (.string ⟨#[]⟩), (.int .i64 0), (.slice (some ⟨Array.size h55, 0, none⟩) 1 1)] fun h57 =>
 ∃ C58, cellsH h57 ⟨Array.size h, 0, none⟩ 4 C58 ∧ R (.agg C58.toArray) h57) X)))
 (∃ β59 : Bool,
 (nnK r_p (asP r_p fun p61 =>
 ∃ v62, cellH h46 (Addr.add p61 1) = some v62 ∧
 nnK r_p (asP r_p fun p63 =>
 ∃ v64, cellH h46 (Addr.add p63 0) = some v64 ∧
 asSl v64 fun a65 l66 c67 => asK .i64 v62 fun n68 => cond (decide ((n68 : Int) < (l66 : Int)))
 (nnK r_p (asP r_p fun p69 =>
 ∃ v70, cellH h46 (Addr.add p69 0) = some v70 ∧
 nnK r_p (asP r_p fun p71 =>
 ∃ v72, cellH h46 (Addr.add p71 1) = some v72 ∧
 asSl1 v70 fun a73 l74 c75 => asI v72 fun n76 => 0 ≤ (n76 : Int) ∧ n76 < (l74 : Int) ∧ ∃ v77, cellH h46 (Addr.add (Addr.add a73 (Int.toNat n76 * 4)) 0) = some v77 ∧
 asK .i64 v77 fun n78 => ((.bool (n78 == (3 : Int))) : Value) = .bool β59 ∧ h46 = h46)))
 (((.bool false) : Value) = .bool β59 ∧ h46 = h46)))) ∧
 ∀ d60 : Nat → Value,
 cond β59
 (CallX Tryd.prog ω 47 [r_p, (.int .i64 3)] h46 (fun r79 h80 =>
 asA r79 fun A81 => asO A81[3]? fun v82 => oneK v82 (4 = 4 ∧ (∀ u ∈ [(.int .i64 1), (.string ⟨#[]⟩), v82, (.slice none 0 0)], one u) ∧ storeK h80 ⟨Array.size h, 0, none⟩ [(.int .i64 1), (.string ⟨#[]⟩), v82, (.slice none 0 0)] fun h83 =>
 ∃ C84, cellsH h83 ⟨Array.size h, 0, none⟩ 4 C84 ∧ R (.agg C84.toArray) h83)) X)
 (CallX Tryd.prog ω 47 [r_p, (.int .i64 2)] h46 (fun r85 h86 =>
 asA r85 fun A87 => asO A87[2]? fun v88 => oneK v88 (4 = 4 ∧ (∀ u ∈ [(.int .i64 2), v88, (.int .i64 0), (.slice none 0 0)], one u) ∧ storeK h86 ⟨Array.size h, 0, none⟩ [(.int .i64 2), v88, (.int .i64 0), (.slice none 0 0)] fun h89 =>
 ∃ C90, cellsH h89 ⟨Array.size h, 0, none⟩ 4 C90 ∧ R (.agg C90.toArray) h89)) X))) X)))) X))) X
def A_p_pipewrightref_reading_unit : Ann :=
 (.two .leaf (.two (.two .leaf (.two (.two .leaf .leaf) .leaf)) (.two (.two (.join [9, 10, 11, 12, 13, 14, 15, 16, 17, 18] [18] .leaf) (.two (.two .leaf (.two .leaf .leaf)) .leaf)) (.two (.two .leaf (.two (.two .leaf (.two .leaf (.two .leaf (.two .leaf .leaf)))) .leaf)) (.two .leaf (.two (.two .leaf (.two (.two .leaf (.two .leaf .leaf)) .leaf)) (.two (.two (.jb [60, 61, 62, 63, 64, 65, 66, 67, 68, 69, 70, 71, 72, 73, 74, 75, 76, 77, 78, 79, 80, 81, 82, 83] 83 (.plan [0, 1, 2, 3, 4, 5, 6, 7, 8, 9, 10, 11, 12, 13, 14, 15, 16, 17, 18, 19, 20, 21, 22, 23])) (.two (.two .leaf .leaf) .leaf)) (.two .leaf .leaf))))))))
theorem C_p_pipewrightref_reading_unit (ω : Amb) (r_p open_p : Value) (h : Hp) (R : Value → Hp → Prop) (X : List PanicEntry → Hp → Prop) (hk : W_p_pipewrightref_reading_unit ω r_p open_p h R X) : CallX Tryd.prog ω 124 [r_p, open_p] h R X :=
 callX_of (an := A_p_pipewrightref_reading_unit) Tryd.func124 ((show fnX Tryd.prog ω A_p_pipewrightref_reading_unit Tryd.f124 [r_p, open_p] h R X = W_p_pipewrightref_reading_unit ω r_p open_p h R X by kernel_rfl) ▸ hk)

/-- (*pipewright/syntax.parser).expr -/
abbrev n_p_syntax_parser_expr : Nat := 138
def W_p_syntax_parser_expr (ω : Amb) (p_p : Value) (h : Hp) (R : Value → Hp → Prop) (X : List PanicEntry → Hp → Prop) : Prop :=
 nnK p_p (asP p_p fun p0 =>
 storeK1 (Array.push h (.cells #[(.int .i64 0), (.string ⟨#[]⟩), (.int .i64 0), (.slice none 0 0)] 118 (0, 0))) (Addr.add p0 5) (.int .i64 0) fun h1 =>
 nnK p_p (asP p_p fun p2 =>
 ∃ v3, cellH h1 (Addr.add p2 0) = some v3 ∧
 asSl v3 fun a4 l5 c6 => ∃ J7 : Hp → Prop,
 (cond ((l5 : Int) == (0 : Int))
 (CallX Tryd.prog ω 41 [p_p, (.int .i64 5)] h1 (fun r10 h11 =>
 J7 h11) X)
 (J7 h1)) ∧
 ∀  (d8 : Nat → Value) (h9 : Hp), J7 h9 →
 nnK p_p (asP p_p fun p12 =>
 ∃ v13, cellH h9 (Addr.add p12 0) = some v13 ∧
 asSl1 v13 fun a14 l15 c16 => 0 ≤ (0 : Int) ∧ 0 < (l15 : Int) ∧ ∃ v17, cellH h9 (Addr.add (Addr.add a14 (Int.toNat 0 * 4)) 1) = some v17 ∧
 CallX Tryd.prog ω 152 [p_p] h9 (fun r18 h19 =>
 asA r18 fun A20 => A20.size = 4 ∧ (∀ u ∈ A20.toList, one u) ∧ storeK (Array.push h19 (.cells #[(.int .i64 0), (.string ⟨#[]⟩), (.int .i64 0), (.slice none 0 0)] 118 (0, 0))) ⟨Array.size h19, 0, none⟩ A20.toList fun h21 =>
 nnK p_p (asP p_p fun p22 =>
 ∃ v23, cellH h21 (Addr.add p22 5) = some v23 ∧
 asK .i64 v23 fun n24 => ∃ J25 : Hp → Prop,
 (cond (decide ((n24 : Int) > 20))
 (oneK v17 (X [⟨.iface 66 (.agg #[(.int .i64 8), v17]), false, false⟩] h21))
 (J25 h21)) ∧
 ∀  (d26 : Nat → Value) (h27 : Hp), J25 h27 →
 ∃ C28, cellsH h27 ⟨Array.size h19, 0, none⟩ 4 C28 ∧
 C28.toArray.size = 4 ∧ (∀ u ∈ C28.toArray.toList, one u) ∧ storeK h27 ⟨Array.size h, 0, none⟩ C28.toArray.toList fun h29 =>
 ∃ C30, cellsH h29 ⟨Array.size h, 0, none⟩ 4 C30 ∧ R (.agg C30.toArray) h29)) X)))
def A_p_syntax_parser_expr : Ann :=
 (.two .leaf (.two .leaf (.two (.two .leaf (.join [14, 15] [] (.two .leaf .leaf))) (.two .leaf (.two .leaf (.two (.two .leaf (.join [30, 31, 32] [] (.two .leaf .leaf))) (.two .leaf .leaf)))))))
theorem C_p_syntax_parser_expr (ω : Amb) (p_p : Value) (h : Hp) (R : Value → Hp → Prop) (X : List PanicEntry → Hp → Prop) (hk : W_p_syntax_parser_expr ω p_p h R X) : CallX Tryd.prog ω 138 [p_p] h R X :=
 callX_of (an := A_p_syntax_parser_expr) Tryd.func138 ((show fnX Tryd.prog ω A_p_syntax_parser_expr Tryd.f138 [p_p] h R X = W_p_syntax_parser_expr ω p_p h R X by kernel_rfl) ▸ hk)

/-- (*pipewright/syntax.parser).other -/
abbrev n_p_syntax_parser_other : Nat := 139
def W_p_syntax_parser_other (ω : Amb) (p_p : Value) (h : Hp) (R : Value → Hp → Prop) (X : List PanicEntry → Hp → Prop) : Prop :=
 CallX Tryd.prog ω 40 [p_p, (.string ⟨#[101, 108, 115, 101]⟩)] h (fun r0 h1 =>
 asB r0 fun b2 => cond (!b2)
 (R (.slice none 0 0) h1)
 (CallX Tryd.prog ω 76 [p_p] h1 (fun r3 h4 =>
 CallX Tryd.prog ω 80 [p_p] h4 (fun r5 h6 =>
 R r5 h6) X) X)) X
def A_p_syntax_parser_other : Ann :=
 (.two .leaf (.two (.two .leaf (.two (.two .leaf .leaf) .leaf)) (.two .leaf (.two .leaf .leaf))))
theorem C_p_syntax_parser_other (ω : Amb) (p_p : Value) (h : Hp) (R : Value → Hp → Prop) (X : List PanicEntry → Hp → Prop) (hk : W_p_syntax_parser_other ω p_p h R X) : CallX Tryd.prog ω 139 [p_p] h R X :=
 callX_of (an := A_p_syntax_parser_other) Tryd.func139 ((show fnX Tryd.prog ω A_p_syntax_parser_other Tryd.f139 [p_p] h R X = W_p_syntax_parser_other ω p_p h R X by kernel_rfl) ▸ hk)

/-- (*pipewright/syntax.parser).args -/
abbrev n_p_syntax_parser_args : Nat := 140
def W_p_syntax_parser_args (ω : Amb) (p_p : Value) (h : Hp) (R : Value → Hp → Prop) (X : List PanicEntry → Hp → Prop) : Prop :=
 CallX Tryd.prog ω 78 [p_p, (.slice (some ⟨Array.size h, 0, none⟩) 1 1)] (Array.push h (.cells (List.toArray [(.string ⟨#[40]⟩)]) 9 (0, 0))) (fun r0 h1 =>
 ∃ (I2 : Value → Hp → Prop) (μ3 : Value → Hp → Nat), I2 (.slice none 0 0) h1 ∧ ∀ out_4 (d5 : Nat → Value) (h6 : Hp), I2 out_4 h6 →
 CallX Tryd.prog ω 40 [p_p, (.string ⟨#[41]⟩)] h6 (fun r7 h8 =>
 asB r7 fun b9 => cond (!b9)
 (asSl out_4 fun a10 l11 c12 => ∃ J13 : Hp → Prop,
 (cond (decide (((l11 : Int) : Int) > 0))
 (CallX Tryd.prog ω 78 [p_p, (.slice (some ⟨Array.size h8, 0, none⟩) 1 1)] (Array.push h8 (.cells (List.toArray [(.string ⟨#[44]⟩)]) 9 (0, 0))) (fun r16 h17 =>
 J13 h17) X)
 (J13 h8)) ∧
 ∀  (d14 : Nat → Value) (h15 : Hp), J13 h15 →
 asSl out_4 fun a18 l19 c20 => ∃ J21 : Hp → Prop,
 (cond ((l19 : Int) == (6 : Int))
 (CallX Tryd.prog ω 41 [p_p, (.int .i64 8)] h15 (fun r24 h25 =>
 J21 h25) X)
 (J21 h15)) ∧
 ∀  (d22 : Nat → Value) (h23 : Hp), J21 h23 →
 CallX Tryd.prog ω 138 [p_p] h23 (fun r26 h27 =>
 asA r26 fun A28 => A28.size = 4 ∧ appK Tryd.prog 63 (Array.push h27 (.cells (List.toArray (A28.toList ++ [])) 118 (0, 0))) out_4 (.slice (some ⟨Array.size h27, 0, none⟩) 1 1) fun w29 h30 =>
 I2 w29 h30 ∧ μ3 w29 h30 < μ3 out_4 h6) X)
 (CallX Tryd.prog ω 76 [p_p] h8 (fun r31 h32 =>
 R out_4 h32) X)) X) X
def A_p_syntax_parser_args : Ann :=
 (.two .leaf (.two .leaf (.two .leaf (.two (.one (.loop [7, 8, 9, 10, 11, 12, 13, 14, 15, 16, 17, 18, 19, 20, 21, 22, 23, 24, 25, 3] [3] (.two (.two .leaf (.two .leaf .leaf)) (.one (.two (.two .leaf (.join [13, 14, 15] [] (.two .leaf .leaf))) (.two (.two .leaf (.join [19, 20] [] (.two .leaf .leaf))) .leaf)))))) (.two .leaf (.two .leaf .leaf))))))
theorem C_p_syntax_parser_args (ω : Amb) (p_p : Value) (h : Hp) (R : Value → Hp → Prop) (X : List PanicEntry → Hp → Prop) (hk : W_p_syntax_parser_args ω p_p h R X) : CallX Tryd.prog ω 140 [p_p] h R X :=
 callX_of (an := A_p_syntax_parser_args) Tryd.func140 ((show fnX Tryd.prog ω A_p_syntax_parser_args Tryd.f140 [p_p] h R X = W_p_syntax_parser_args ω p_p h R X by kernel_rfl) ▸ hk)

/-- (*pipewright/syntax.parser).cmp -/
abbrev n_p_syntax_parser_cmp : Nat := 152
def W_p_syntax_parser_cmp (ω : Amb) (p_p : Value) (h : Hp) (R : Value → Hp → Prop) (X : List PanicEntry → Hp → Prop) : Prop :=
 CallX Tryd.prog ω 162 [p_p] (Array.push h (.cells #[(.int .i64 0), (.string ⟨#[]⟩), (.int .i64 0), (.slice none 0 0)] 118 (0, 0))) (fun r0 h1 =>
 asA r0 fun A2 => A2.size = 4 ∧ (∀ u ∈ A2.toList, one u) ∧ storeK (Array.push h1 (.cells #[(.int .i64 0), (.string ⟨#[]⟩), (.int .i64 0), (.slice none 0 0)] 118 (0, 0))) ⟨Array.size h1, 0, none⟩ A2.toList fun h3 =>
 CallX Tryd.prog ω 40 [p_p, (.string ⟨#[60]⟩)] h3 (fun r4 h5 =>
 asB r4 fun b6 => cond b6
 (CallX Tryd.prog ω 76 [p_p] h5 (fun r7 h8 =>
 ∃ C9, cellsH h8 ⟨Array.size h1, 0, none⟩ 4 C9 ∧
 CallX Tryd.prog ω 162 [p_p] h8 (fun r10 h11 =>
 cellsH h11 ⟨Array.size h1, 0, none⟩ 4 C9 ∧ CallX Tryd.prog ω 163 [p_p, (.int .i64 7), (.agg C9.toArray), r10] h11 (fun r12 h13 =>
 asA r12 fun A14 => A14.size = 4 ∧ (∀ u ∈ A14.toList, one u) ∧ storeK h13 ⟨Array.size h, 0, none⟩ A14.toList fun h15 =>
 ∃ C16, cellsH h15 ⟨Array.size h, 0, none⟩ 4 C16 ∧ R (.agg C16.toArray) h15) X) X) X)
 (CallX Tryd.prog ω 40 [p_p, (.string ⟨#[61, 61]⟩)] h5 (fun r17 h18 =>
 asB r17 fun b19 => cond b19
 (CallX Tryd.prog ω 76 [p_p] h18 (fun r20 h21 =>
 ∃ C22, cellsH h21 ⟨Array.size h1, 0, none⟩ 4 C22 ∧
 CallX Tryd.prog ω 162 [p_p] h21 (fun r23 h24 =>
 cellsH h24 ⟨Array.size h1, 0, none⟩ 4 C22 ∧ CallX Tryd.prog ω 163 [p_p, (.int .i64 8), (.agg C22.toArray), r23] h24 (fun r25 h26 =>
 asA r25 fun A27 => A27.size = 4 ∧ (∀ u ∈ A27.toList, one u) ∧ storeK h26 ⟨Array.size h, 0, none⟩ A27.toList fun h28 =>
 ∃ C29, cellsH h28 ⟨Array.size h, 0, none⟩ 4 C29 ∧ R (.agg C29.toArray) h28) X) X) X)
 (∃ C30, cellsH h18 ⟨Array.size h1, 0, none⟩ 4 C30 ∧
 C30.toArray.size = 4 ∧ (∀ u ∈ C30.toArray.toList, one u) ∧ storeK h18 ⟨Array.size h, 0, none⟩ C30.toArray.toList fun h31 =>
 ∃ C32, cellsH h31 ⟨Array.size h, 0, none⟩ 4 C32 ∧ R (.agg C32.toArray) h31)) X)) X) X
def A_p_syntax_parser_cmp : Ann :=
 (.two .leaf (.two .leaf (.two (.one (.two .leaf (.two (.two .leaf (.two (.plan [0, 1, 2, 3, 4, 5]) .leaf)) (.two .leaf (.two (.two .leaf (.two (.plan [0, 1, 2, 3, 4, 5]) .leaf)) .leaf))))) (.two .leaf .leaf))))
theorem C_p_syntax_parser_cmp (ω : Amb) (p_p : Value) (h : Hp) (R : Value → Hp → Prop) (X : List PanicEntry → Hp → Prop) (hk : W_p_syntax_parser_cmp ω p_p h R X) : CallX Tryd.prog ω 152 [p_p] h R X :=
 callX_of (an := A_p_syntax_parser_cmp) Tryd.func152 ((show fnX Tryd.prog ω A_p_syntax_parser_cmp Tryd.f152 [p_p] h R X = W_p_syntax_parser_cmp ω p_p h R X by kernel_rfl) ▸ hk)

/-- (*pipewright/syntax.parser).sum -/
abbrev n_p_syntax_parser_sum : Nat := 162
def W_p_syntax_parser_sum (ω : Amb) (p_p : Value) (h : Hp) (R : Value → Hp → Prop) (X : List PanicEntry → Hp → Prop) : Prop :=
 CallX Tryd.prog ω 166 [p_p] (Array.push h (.cells #[(.int .i64 0), (.string ⟨#[]⟩), (.int .i64 0), (.slice none 0 0)] 118 (0, 0))) (fun r0 h1 =>
 asA r0 fun A2 => A2.size = 4 ∧ (∀ u ∈ A2.toList, one u) ∧ storeK (Array.push h1 (.cells #[(.int .i64 0), (.string ⟨#[]⟩), (.int .i64 0), (.slice none 0 0)] 118 (0, 0))) ⟨Array.size h1, 0, none⟩ A2.toList fun h3 =>
 ∃ (I4 : Hp → Prop) (μ5 : Hp → Nat), I4 h3 ∧ ∀  (d6 : Nat → Value) (h7 : Hp), I4 h7 →
 ∃ J8 : Value → Hp → Prop,
 (CallX Tryd.prog ω 40 [p_p, (.string ⟨#[43]⟩)] h7 (fun r12 h13 =>
 asB r12 fun b14 => cond b14
 (J8 (.bool true) h13)
 (CallX Tryd.prog ω 40 [p_p, (.string ⟨#[45]⟩)] h13 (fun r15 h16 =>
 J8 r15 h16) X)) X) ∧
 ∀ t12_9 (d10 : Nat → Value) (h11 : Hp), J8 t12_9 h11 →
 asB t12_9 fun b17 => cond b17
 (CallX Tryd.prog ω 76 [p_p] h11 (fun r18 h19 =>
 asA r18 fun A20 => asO A20[2]? fun v21 => asS v21 fun s22 => ∃ J23 : Value → Hp → Prop,
 (cond (ByteArray.toList s22 == ByteArray.toList ⟨#[45]⟩)
 (J23 (.int .i64 5) h19)
 (J23 (.int .i64 4) h19)) ∧
 ∀ op_24 (d25 : Nat → Value) (h26 : Hp), J23 op_24 h26 →
 ∃ C27, cellsH h26 ⟨Array.size h1, 0, none⟩ 4 C27 ∧
 CallX Tryd.prog ω 166 [p_p] h26 (fun r28 h29 =>
 cellsH h29 ⟨Array.size h1, 0, none⟩ 4 C27 ∧ CallX Tryd.prog ω 163 [p_p, op_24, (.agg C27.toArray), r28] h29 (fun r30 h31 =>
 asA r30 fun A32 => A32.size = 4 ∧ (∀ u ∈ A32.toList, one u) ∧ storeK h31 ⟨Array.size h1, 0, none⟩ A32.toList fun h33 =>
 I4 h33 ∧ μ5 h33 < μ5 h7) X) X) X)
 (∃ C34, cellsH h11 ⟨Array.size h1, 0, none⟩ 4 C34 ∧
 C34.toArray.size = 4 ∧ (∀ u ∈ C34.toArray.toList, one u) ∧ storeK h11 ⟨Array.size h, 0, none⟩ C34.toArray.toList fun h35 =>
 ∃ C36, cellsH h35 ⟨Array.size h, 0, none⟩ 4 C36 ∧ R (.agg C36.toArray) h35)) X
def A_p_syntax_parser_sum : Ann :=
 (.two .leaf (.two .leaf (.two (.one (.loop [7, 8, 9, 10, 11, 12, 4, 13, 14, 15, 16, 17, 18, 19, 20, 21, 22] [] (.two (.two (.join [7, 8, 9, 10, 11, 12] [12] .leaf) (.two .leaf .leaf)) (.one (.two .leaf (.two (.two .leaf (.join [4] [4] (.two .leaf .leaf))) (.plan [0, 1, 2, 3, 4, 5, 6]))))))) (.two .leaf .leaf))))
theorem C_p_syntax_parser_sum (ω : Amb) (p_p : Value) (h : Hp) (R : Value → Hp → Prop) (X : List PanicEntry → Hp → Prop) (hk : W_p_syntax_parser_sum ω p_p h R X) : CallX Tryd.prog ω 162 [p_p] h R X :=
 callX_of (an := A_p_syntax_parser_sum) Tryd.func162 ((show fnX Tryd.prog ω A_p_syntax_parser_sum Tryd.f162 [p_p] h R X = W_p_syntax_parser_sum ω p_p h R X by kernel_rfl) ▸ hk)

/-- (*pipewright/syntax.parser).two -/
abbrev n_p_syntax_parser_two : Nat := 163
def A_p_syntax_parser_two : Ann :=
 (.two .leaf (.two .leaf (.two .leaf .leaf)))
/-- (*pipewright/syntax.parser).product -/
abbrev n_p_syntax_parser_product : Nat := 166
def W_p_syntax_parser_product (ω : Amb) (p_p : Value) (h : Hp) (R : Value → Hp → Prop) (X : List PanicEntry → Hp → Prop) : Prop :=
 CallX Tryd.prog ω 167 [p_p] (Array.push h (.cells #[(.int .i64 0), (.string ⟨#[]⟩), (.int .i64 0), (.slice none 0 0)] 118 (0, 0))) (fun r0 h1 =>
 asA r0 fun A2 => A2.size = 4 ∧ (∀ u ∈ A2.toList, one u) ∧ storeK (Array.push h1 (.cells #[(.int .i64 0), (.string ⟨#[]⟩), (.int .i64 0), (.slice none 0 0)] 118 (0, 0))) ⟨Array.size h1, 0, none⟩ A2.toList fun h3 =>
 ∃ (I4 : Hp → Prop) (μ5 : Hp → Nat), I4 h3 ∧ ∀  (d6 : Nat → Value) (h7 : Hp), I4 h7 →
 CallX Tryd.prog ω 40 [p_p, (.string ⟨#[42]⟩)] h7 (fun r8 h9 =>
 asB r8 fun b10 => cond b10
 (CallX Tryd.prog ω 76 [p_p] h9 (fun r11 h12 =>
 ∃ C13, cellsH h12 ⟨Array.size h1, 0, none⟩ 4 C13 ∧
 CallX Tryd.prog ω 167 [p_p] h12 (fun r14 h15 =>
 cellsH h15 ⟨Array.size h1, 0, none⟩ 4 C13 ∧ CallX Tryd.prog ω 163 [p_p, (.int .i64 6), (.agg C13.toArray), r14] h15 (fun r16 h17 =>
 asA r16 fun A18 => A18.size = 4 ∧ (∀ u ∈ A18.toList, one u) ∧ storeK h17 ⟨Array.size h1, 0, none⟩ A18.toList fun h19 =>
 I4 h19 ∧ μ5 h19 < μ5 h7) X) X) X)
 (∃ C20, cellsH h9 ⟨Array.size h1, 0, none⟩ 4 C20 ∧
 C20.toArray.size = 4 ∧ (∀ u ∈ C20.toArray.toList, one u) ∧ storeK h9 ⟨Array.size h, 0, none⟩ C20.toArray.toList fun h21 =>
 ∃ C22, cellsH h21 ⟨Array.size h, 0, none⟩ 4 C22 ∧ R (.agg C22.toArray) h21)) X) X
def A_p_syntax_parser_product : Ann :=
 (.two .leaf (.two .leaf (.two (.one (.loop [6, 7, 8, 9, 10, 11, 12, 13, 14] [] (.two (.two .leaf (.two .leaf .leaf)) (.one (.two .leaf (.plan [0, 1, 2, 3, 4, 5])))))) (.two .leaf .leaf))))
theorem C_p_syntax_parser_product (ω : Amb) (p_p : Value) (h : Hp) (R : Value → Hp → Prop) (X : List PanicEntry → Hp → Prop) (hk : W_p_syntax_parser_product ω p_p h R X) : CallX Tryd.prog ω 166 [p_p] h R X :=
 callX_of (an := A_p_syntax_parser_product) Tryd.func166 ((show fnX Tryd.prog ω A_p_syntax_parser_product Tryd.f166 [p_p] h R X = W_p_syntax_parser_product ω p_p h R X by kernel_rfl) ▸ hk)

def W_p_syntax_parser_unit_1 (ω : Amb) (t0_p : Value) (h : Hp) (R : Value → Hp → Prop) (X : List PanicEntry → Hp → Prop) : Prop :=
 asP t0_p fun p0 =>
 ∃ v1, cellH h p0 = some v1 ∧
 nnK v1 (asP v1 fun p2 =>
 ∃ v3, cellH h (Addr.add p2 4) = some v3 ∧
 asK .i64 v3 fun n4 => nnK v1 (asP v1 fun p5 =>
 storeK1 h (Addr.add p5 4) (.int .i64 (IntKind.wrap .i64 (n4 - 1))) fun h6 =>
 R (.tuple #[]) h6))
def A_p_syntax_parser_unit_1 : Ann :=
 .leaf
end Go.Proofs.YtaehnpilebkcoaaDoor.Sx
