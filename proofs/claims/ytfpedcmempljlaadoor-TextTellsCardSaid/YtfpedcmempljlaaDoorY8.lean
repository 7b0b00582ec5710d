/- Formulas of the functions' texts, written by a program of ours; each is checked by the kernel. -/
import Derived.Test.YtfpedcmempljlaaDoorSxCore
import Derived.KernelRfl
import Derived.Test.YtfpedcmempljlaaDoorProg
set_option linter.unusedVariables false
set_option maxRecDepth 100000
namespace Go.Proofs.YtfpedcmempljlaaDoor.Sx
open Go Go.Sx Go.Proofs

/-- pipewright/pipewrightlaw.TextTells -/
abbrev n_pipewrightlaw_TextTells : Nat := 4
def W_pipewrightlaw_TextTells (ω : Amb) (src_p f_p l_p : Value) (h : Hp) (R : Value → Hp → Prop) (X : List PanicEntry → Hp → Prop) : Prop :=
 CallX Tryd.prog ω 5 [] (Array.push h (.cells (Value.cells f_p) 26 (0, 0))) (fun r0 h1 =>
 asB r0 fun b2 => cond (!b2)
 (R (.bool false) h1)
 (∃ β3 : Bool,
 (asS src_p fun s5 => cond (decide (((ByteArray.size s5 : Int) : Int) > 20000))
 (((.bool true) : Value) = .bool β3 ∧ h1 = h1)
 (asSl l_p fun a6 l7 c8 => ((.bool (decide (((l7 : Int) : Int) > 300))) : Value) = .bool β3 ∧ h1 = h1)) ∧
 ∀ d4 : Nat → Value,
 cond β3
 (R (.bool true) h1)
 (appK Tryd.prog 22 h1 (.slice none 0 0) l_p fun w9 h10 =>
 CallX Tryd.prog ω 6 [w9] h10 (fun r11 h12 =>
 CallX Tryd.prog ω 8 [src_p, w9] h12 (fun r13 h14 =>
 asT r13 fun T15 => asO T15[0]? fun v16 => asT r13 fun T17 => asO T17[1]? fun v18 => asA v18 fun A19 => A19.size = 2 ∧ (∀ u ∈ A19.toList, one u) ∧ storeK (Array.push h14 (.cells #[(.int .i64 0), (.int .i64 0)] 26 (0, 0))) ⟨Array.size h14, 0, none⟩ A19.toList fun h20 =>
 ∃ C21, cellsH h20 ⟨Array.size h, 0, none⟩ 2 C21 ∧
 CallX Tryd.prog ω 9 [src_p, (.agg C21.toArray)] h20 (fun r22 h23 =>
 asT r22 fun T24 => asO T24[0]? fun v25 => asT r22 fun T26 => asO T26[1]? fun v27 => asA v27 fun A28 => A28.size = 2 ∧ (∀ u ∈ A28.toList, one u) ∧ storeK (Array.push h23 (.cells #[(.int .i64 0), (.int .i64 0)] 26 (0, 0))) ⟨Array.size h23, 0, none⟩ A28.toList fun h29 =>
 ∃ C30, cellsH h29 ⟨Array.size h, 0, none⟩ 2 C30 ∧
 CallX Tryd.prog ω 10 [src_p, (.agg C30.toArray)] h29 (fun r31 h32 =>
 asT r31 fun T33 => asO T33[0]? fun v34 => asT r31 fun T35 => asO T35[1]? fun v36 => asA v36 fun A37 => A37.size = 2 ∧ (∀ u ∈ A37.toList, one u) ∧ storeK (Array.push h32 (.cells #[(.int .i64 0), (.int .i64 0)] 26 (0, 0))) ⟨Array.size h32, 0, none⟩ A37.toList fun h38 =>
 CallX Tryd.prog ω 11 [src_p, l_p] h38 (fun r39 h40 =>
 asT r39 fun T41 => asO T41[0]? fun v42 => asT r39 fun T43 => asO T43[1]? fun v44 => asA v44 fun A45 => A45.size = 2 ∧ (∀ u ∈ A45.toList, one u) ∧ storeK (Array.push h40 (.cells #[(.int .i64 0), (.int .i64 0)] 26 (0, 0))) ⟨Array.size h40, 0, none⟩ A45.toList fun h46 =>
 ∃ J47 : Value → Hp → Prop,
 (CallX Tryd.prog ω 7 [w9, l_p] h46 (fun r51 h52 =>
 asB r51 fun b53 => cond b53
 (CallX Tryd.prog ω 12 [l_p] h52 (fun r54 h55 =>
 CallX Tryd.prog ω 7 [r11, r54] h55 (fun r56 h57 =>
 asB r56 fun b58 => cond b58
 (∃ v59, cellH h57 (Addr.add ⟨Array.size h, 0, none⟩ 0) = some v59 ∧
 ∃ v60, cellH h57 (Addr.add ⟨Array.size h, 0, none⟩ 0) = some v60 ∧
 CallX Tryd.prog ω 13 [v59] h57 (fun r61 h62 =>
 cellH h62 (Addr.add ⟨Array.size h, 0, none⟩ 0) = some v60 ∧ CallX Tryd.prog ω 14 [v60] h62 (fun r63 h64 =>
 asS r61 fun s65 => asS r63 fun s66 => cond (ByteArray.toList s65 == ByteArray.toList s66)
 (asS v25 fun s67 => asS v34 fun s68 => cond (ByteArray.toList s67 == ByteArray.toList s68)
 (∃ C69, cellsH h64 ⟨Array.size h23, 0, none⟩ 2 C69 ∧
 ∃ C70, cellsH h64 ⟨Array.size h32, 0, none⟩ 2 C70 ∧
 asO C69.toArray[0]? fun v71 => asO C70.toArray[0]? fun v72 => asK .i64 v71 fun n73 => asK .i64 v72 fun n74 => asO C69.toArray[1]? fun v75 => asO C70.toArray[1]? fun v76 => asK .i64 v75 fun n77 => asK .i64 v76 fun n78 => cond ((n73 == (n74 : Int)) && ((n77 == (n78 : Int)) && true))
 (asS v16 fun s79 => asS v42 fun s80 => cond (ByteArray.toList s79 == ByteArray.toList s80)
 (∃ C81, cellsH h64 ⟨Array.size h14, 0, none⟩ 2 C81 ∧
 ∃ C82, cellsH h64 ⟨Array.size h40, 0, none⟩ 2 C82 ∧
 asO C81.toArray[0]? fun v83 => asO C82.toArray[0]? fun v84 => asK .i64 v83 fun n85 => asK .i64 v84 fun n86 => asO C81.toArray[1]? fun v87 => asO C82.toArray[1]? fun v88 => asK .i64 v87 fun n89 => asK .i64 v88 fun n90 => J47 (.bool ((n85 == (n86 : Int)) && ((n89 == (n90 : Int)) && true))) h64)
 (J47 (.bool false) h64))
 (J47 (.bool false) h64))
 (J47 (.bool false) h64))
 (J47 (.bool false) h64)) X) X)
 (J47 (.bool false) h57)) X) X)
 (J47 (.bool false) h52)) X) ∧
 ∀ t6_48 (d49 : Nat → Value) (h50 : Hp), J47 t6_48 h50 →
 R t6_48 h50) X) X) X) X) X))) X
def A_pipewrightlaw_TextTells : Ann :=
 (.two .leaf (.two (.two .leaf (.two (.two .leaf .leaf) .leaf)) (.two (.two (.jb [19, 20, 21, 22, 23, 24, 25, 26] 26 .leaf) (.two (.two .leaf .leaf) .leaf)) (.two .leaf (.two .leaf (.two .leaf (.two .leaf (.two .leaf (.two .leaf (.two (.join [55, 56, 57, 58, 59, 60, 61, 62, 63, 64, 65, 66, 67, 68, 69, 70, 71, 72, 73, 74, 75, 76, 77, 78, 79, 80, 81, 82, 83, 84, 85, 86, 87, 88, 89, 90, 91, 92, 6] [6] (.plan [0, 1, 2, 3, 4, 5, 6, 7, 8, 9, 10, 11, 13, 14, 12, 15, 16, 17, 18, 19, 20, 21, 22, 23, 24, 25, 26, 27, 28, 29, 30, 31, 32, 33, 34, 35, 36, 37, 38])) .leaf))))))))))
theorem C_pipewrightlaw_TextTells (ω : Amb) (src_p f_p l_p : Value) (h : Hp) (R : Value → Hp → Prop) (X : List PanicEntry → Hp → Prop) (hk : W_pipewrightlaw_TextTells ω src_p f_p l_p h R X) : CallX Tryd.prog ω 4 [src_p, f_p, l_p] h R X :=
 callX_of (an := A_pipewrightlaw_TextTells) Tryd.func4 ((show fnX Tryd.prog ω A_pipewrightlaw_TextTells Tryd.f4 [src_p, f_p, l_p] h R X = W_pipewrightlaw_TextTells ω src_p f_p l_p h R X by kernel_rfl) ▸ hk)

/-- pipewright/text.All -/
abbrev n_text_All : Nat := 8
def W_text_All (ω : Amb) (src_p l_p : Value) (h : Hp) (R : Value → Hp → Prop) (X : List PanicEntry → Hp → Prop) : Prop :=
 CallX Tryd.prog ω 6 [l_p] (Array.push (Array.push h (.cells #[(.int .i64 0), (.int .i64 0)] 26 (0, 0))) (.cells #[(.pointer none), (.slice none 0 0)] 43 (0, 0))) (fun r0 h1 =>
 asSl r0 fun a2 l3 c4 => ∃ (I5 : Value → Hp → Prop) (μ6 : Value → Hp → Nat), I5 (.int .i64 0) h1 ∧ ∀ t14_7 (d8 : Nat → Value) (h9 : Hp), I5 t14_7 h9 →
 asK .i64 t14_7 fun n10 => cond (decide ((n10 : Int) < (l3 : Int)))
 (asSl1 r0 fun a11 l12 c13 => asI t14_7 fun n14 => 0 ≤ (n14 : Int) ∧ n14 < (l12 : Int) ∧ ∃ C15, cellsH h9 (Addr.add a11 (Int.toNat n14 * 2)) 2 C15 ∧
 C15.toArray.size = 2 ∧ (∀ u ∈ C15.toArray.toList, one u) ∧ storeK (Array.push h9 (.cells #[(.int .i64 0), (.int .i64 0)] 26 (0, 0))) ⟨Array.size h9, 0, none⟩ C15.toArray.toList fun h16 =>
 ∃ C17, cellsH h16 ⟨Array.size h9, 0, none⟩ 2 C17 ∧
 CallX Tryd.prog ω 9 [src_p, (.agg C17.toArray)] h16 (fun r18 h19 =>
 asT r18 fun T20 => asO T20[0]? fun v21 => asT r18 fun T22 => asO T22[1]? fun v23 => asA v23 fun A24 => A24.size = 2 ∧ (∀ u ∈ A24.toList, one u) ∧ storeK (Array.push h19 (.cells #[(.int .i64 0), (.int .i64 0)] 26 (0, 0))) ⟨Array.size h19, 0, none⟩ A24.toList fun h25 =>
 ∃ v26, cellH h25 (Addr.add ⟨Array.size h19, 0, none⟩ 0) = some v26 ∧
 asK .i64 v26 fun n27 => cond (n27 != (0 : Int))
 (∃ C28, cellsH h25 ⟨Array.size h19, 0, none⟩ 2 C28 ∧
 C28.toArray.size = 2 ∧ (∀ u ∈ C28.toArray.toList, one u) ∧ storeK h25 ⟨Array.size h, 0, none⟩ C28.toArray.toList fun h29 =>
 ∃ C30, cellsH h29 ⟨Array.size h, 0, none⟩ 2 C30 ∧ R (.tuple #[(.string ⟨#[]⟩), (.agg C30.toArray)]) h29)
 (asS v21 fun s31 => ByteArray.size s31 + ByteArray.size ⟨#[10]⟩ ≤ 9223372036854775807 ∧ CallX Tryd.prog ω 21 [(.pointer (some ⟨Array.size (Array.push h (.cells #[(.int .i64 0), (.int .i64 0)] 26 (0, 0))), 0, none⟩)), (.string (s31 ++ ⟨#[10]⟩))] h25 (fun r32 h33 =>
 asK .i64 t14_7 fun n34 => I5 (.int .i64 (IntKind.wrap .i64 (n34 + 1))) h33 ∧ μ6 (.int .i64 (IntKind.wrap .i64 (n34 + 1))) h33 < μ6 t14_7 h9) X)) X)
 (CallX Tryd.prog ω 22 [(.pointer (some ⟨Array.size (Array.push h (.cells #[(.int .i64 0), (.int .i64 0)] 26 (0, 0))), 0, none⟩))] h9 (fun r35 h36 =>
 2 = 2 ∧ (∀ u ∈ [(.int .i64 0), (.int .i64 0)], one u) ∧ storeK h36 ⟨Array.size h, 0, none⟩ [(.int .i64 0), (.int .i64 0)] fun h37 =>
 ∃ C38, cellsH h37 ⟨Array.size h, 0, none⟩ 2 C38 ∧ R (.tuple #[r35, (.agg C38.toArray)]) h37) X)) X
def A_text_All : Ann :=
 (.two .leaf (.two .leaf (.two (.two .leaf (.one (.loop [15, 16, 17, 8, 19, 20, 21, 18, 22, 23, 10, 9, 24, 25, 26, 27, 4, 28, 29, 30, 31, 14] [14] (.two .leaf (.two (.two .leaf .leaf) (.two (.one (.two .leaf (.two .leaf (.two (.two .leaf (.two (.two (.plan [0, 1, 2]) .leaf) .leaf)) .leaf)))) .leaf)))))) (.two .leaf .leaf))))
theorem C_text_All (ω : Amb) (src_p l_p : Value) (h : Hp) (R : Value → Hp → Prop) (X : List PanicEntry → Hp → Prop) (hk : W_text_All ω src_p l_p h R X) : CallX Tryd.prog ω 8 [src_p, l_p] h R X :=
 callX_of (an := A_text_All) Tryd.func8 ((show fnX Tryd.prog ω A_text_All Tryd.f8 [src_p, l_p] h R X = W_text_All ω src_p l_p h R X by kernel_rfl) ▸ hk)

/-- pipewright/text.Tell -/
abbrev n_text_Tell : Nat := 9
def W_text_Tell (ω : Amb) (src_p f_p : Value) (h : Hp) (R : Value → Hp → Prop) (X : List PanicEntry → Hp → Prop) : Prop :=
 ∃ v0, cellH (Array.push (Array.push h (.cells (Value.cells f_p) 26 (0, 0))) (.cells #[(.int .i64 0), (.int .i64 0)] 26 (0, 0))) (Addr.add ⟨Array.size h, 0, none⟩ 1) = some v0 ∧
 CallX Tryd.prog ω 15 [src_p, v0] (Array.push (Array.push h (.cells (Value.cells f_p) 26 (0, 0))) (.cells #[(.int .i64 0), (.int .i64 0)] 26 (0, 0))) (fun r1 h2 =>
 asT r1 fun T3 => asO T3[0]? fun v4 => asT r1 fun T5 => asO T5[1]? fun v6 => asT r1 fun T7 => asO T7[2]? fun v8 => asA v8 fun A9 => A9.size = 2 ∧ (∀ u ∈ A9.toList, one u) ∧ storeK (Array.push h2 (.cells #[(.int .i64 0), (.int .i64 0)] 26 (0, 0))) ⟨Array.size h2, 0, none⟩ A9.toList fun h10 =>
 ∃ v11, cellH h10 (Addr.add ⟨Array.size h2, 0, none⟩ 0) = some v11 ∧
 asK .i64 v11 fun n12 => cond (n12 != (0 : Int))
 (∃ C13, cellsH h10 ⟨Array.size h2, 0, none⟩ 2 C13 ∧
 C13.toArray.size = 2 ∧ (∀ u ∈ C13.toArray.toList, one u) ∧ storeK h10 ⟨Array.size (Array.push h (.cells (Value.cells f_p) 26 (0, 0))), 0, none⟩ C13.toArray.toList fun h14 =>
 ∃ C15, cellsH h14 ⟨Array.size (Array.push h (.cells (Value.cells f_p) 26 (0, 0))), 0, none⟩ 2 C15 ∧ R (.tuple #[(.string ⟨#[]⟩), (.agg C15.toArray)]) h14)
 (∃ v16, cellH h10 (Addr.add ⟨Array.size h, 0, none⟩ 0) = some v16 ∧
 CallX Tryd.prog ω 13 [v16] h10 (fun r17 h18 =>
 asS r17 fun s19 => cond (ByteArray.toList s19 == ByteArray.toList ⟨#[]⟩)
 (2 = 2 ∧ (∀ u ∈ [(.int .i64 16), (.int .i64 (-1))], one u) ∧ storeK h18 ⟨Array.size (Array.push h (.cells (Value.cells f_p) 26 (0, 0))), 0, none⟩ [(.int .i64 16), (.int .i64 (-1))] fun h20 =>
 ∃ C21, cellsH h20 ⟨Array.size (Array.push h (.cells (Value.cells f_p) 26 (0, 0))), 0, none⟩ 2 C21 ∧ R (.tuple #[(.string ⟨#[]⟩), (.agg C21.toArray)]) h20)
 (CallX Tryd.prog ω 23 [v4] h18 (fun r22 h23 =>
 asS r22 fun s24 => ByteArray.size s24 + ByteArray.size ⟨#[58]⟩ ≤ 9223372036854775807 ∧ CallX Tryd.prog ω 23 [v6] h23 (fun r25 h26 =>
 asS r25 fun s27 => ByteArray.size (s24 ++ ⟨#[58]⟩) + ByteArray.size s27 ≤ 9223372036854775807 ∧ ByteArray.size ((s24 ++ ⟨#[58]⟩) ++ s27) + ByteArray.size ⟨#[32]⟩ ≤ 9223372036854775807 ∧ asS r17 fun s28 => ByteArray.size (((s24 ++ ⟨#[58]⟩) ++ s27) ++ ⟨#[32]⟩) + ByteArray.size s28 ≤ 9223372036854775807 ∧ 2 = 2 ∧ (∀ u ∈ [(.int .i64 0), (.int .i64 0)], one u) ∧ storeK h26 ⟨Array.size (Array.push h (.cells (Value.cells f_p) 26 (0, 0))), 0, none⟩ [(.int .i64 0), (.int .i64 0)] fun h29 =>
 ∃ C30, cellsH h29 ⟨Array.size (Array.push h (.cells (Value.cells f_p) 26 (0, 0))), 0, none⟩ 2 C30 ∧ R (.tuple #[(.string ((((s24 ++ ⟨#[58]⟩) ++ s27) ++ ⟨#[32]⟩) ++ s28)), (.agg C30.toArray)]) h29) X) X)) X)) X
def A_text_Tell : Ann :=
 (.two .leaf (.two .leaf (.two (.two .leaf (.two (.two (.plan [0, 1, 2]) .leaf) .leaf)) (.two .leaf (.two (.two .leaf (.two (.two .leaf .leaf) .leaf)) (.two .leaf .leaf))))))
theorem C_text_Tell (ω : Amb) (src_p f_p : Value) (h : Hp) (R : Value → Hp → Prop) (X : List PanicEntry → Hp → Prop) (hk : W_text_Tell ω src_p f_p h R X) : CallX Tryd.prog ω 9 [src_p, f_p] h R X :=
 callX_of (an := A_text_Tell) Tryd.func9 ((show fnX Tryd.prog ω A_text_Tell Tryd.f9 [src_p, f_p] h R X = W_text_Tell ω src_p f_p h R X by kernel_rfl) ▸ hk)

/-- pipewright/pipewrightref.Tell -/
abbrev n_pipewrightref_Tell : Nat := 10
def W_pipewrightref_Tell (ω : Amb) (src_p f_p : Value) (h : Hp) (R : Value → Hp → Prop) (X : List PanicEntry → Hp → Prop) : Prop :=
 ∃ v0, cellH (Array.push (Array.push h (.cells (Value.cells f_p) 26 (0, 0))) (.cells #[(.int .i64 0), (.int .i64 0)] 26 (0, 0))) (Addr.add ⟨Array.size h, 0, none⟩ 1) = some v0 ∧
 CallX Tryd.prog ω 24 [src_p, v0] (Array.push (Array.push h (.cells (Value.cells f_p) 26 (0, 0))) (.cells #[(.int .i64 0), (.int .i64 0)] 26 (0, 0))) (fun r1 h2 =>
 asT r1 fun T3 => asO T3[0]? fun v4 => asT r1 fun T5 => asO T5[1]? fun v6 => asT r1 fun T7 => asO T7[2]? fun v8 => asA v8 fun A9 => A9.size = 2 ∧ (∀ u ∈ A9.toList, one u) ∧ storeK (Array.push h2 (.cells #[(.int .i64 0), (.int .i64 0)] 26 (0, 0))) ⟨Array.size h2, 0, none⟩ A9.toList fun h10 =>
 ∃ v11, cellH h10 (Addr.add ⟨Array.size h2, 0, none⟩ 0) = some v11 ∧
 asK .i64 v11 fun n12 => cond (n12 != (0 : Int))
 (∃ C13, cellsH h10 ⟨Array.size h2, 0, none⟩ 2 C13 ∧
 C13.toArray.size = 2 ∧ (∀ u ∈ C13.toArray.toList, one u) ∧ storeK h10 ⟨Array.size (Array.push h (.cells (Value.cells f_p) 26 (0, 0))), 0, none⟩ C13.toArray.toList fun h14 =>
 ∃ C15, cellsH h14 ⟨Array.size (Array.push h (.cells (Value.cells f_p) 26 (0, 0))), 0, none⟩ 2 C15 ∧ R (.tuple #[(.string ⟨#[]⟩), (.agg C15.toArray)]) h14)
 (∃ v16, cellH h10 (Addr.add ⟨Array.size h, 0, none⟩ 0) = some v16 ∧
 CallX Tryd.prog ω 14 [v16] h10 (fun r17 h18 =>
 asS r17 fun s19 => cond (ByteArray.toList s19 == ByteArray.toList ⟨#[]⟩)
 (CallX Tryd.prog ω 25 [(.int .i64 16), (.int .i64 (-1))] h18 (fun r20 h21 =>
 asA r20 fun A22 => A22.size = 2 ∧ (∀ u ∈ A22.toList, one u) ∧ storeK h21 ⟨Array.size (Array.push h (.cells (Value.cells f_p) 26 (0, 0))), 0, none⟩ A22.toList fun h23 =>
 ∃ C24, cellsH h23 ⟨Array.size (Array.push h (.cells (Value.cells f_p) 26 (0, 0))), 0, none⟩ 2 C24 ∧ R (.tuple #[(.string ⟨#[]⟩), (.agg C24.toArray)]) h23) X)
 (CallX Tryd.prog ω 23 [v4] h18 (fun r25 h26 =>
 asS r25 fun s27 => ByteArray.size s27 + ByteArray.size ⟨#[58]⟩ ≤ 9223372036854775807 ∧ CallX Tryd.prog ω 23 [v6] h26 (fun r28 h29 =>
 asS r28 fun s30 => ByteArray.size (s27 ++ ⟨#[58]⟩) + ByteArray.size s30 ≤ 9223372036854775807 ∧ ByteArray.size ((s27 ++ ⟨#[58]⟩) ++ s30) + ByteArray.size ⟨#[32]⟩ ≤ 9223372036854775807 ∧ asS r17 fun s31 => ByteArray.size (((s27 ++ ⟨#[58]⟩) ++ s30) ++ ⟨#[32]⟩) + ByteArray.size s31 ≤ 9223372036854775807 ∧ 2 = 2 ∧ (∀ u ∈ [(.int .i64 0), (.int .i64 0)], one u) ∧ storeK h29 ⟨Array.size (Array.push h (.cells (Value.cells f_p) 26 (0, 0))), 0, none⟩ [(.int .i64 0), (.int .i64 0)] fun h32 =>
 ∃ C33, cellsH h32 ⟨Array.size (Array.push h (.cells (Value.cells f_p) 26 (0, 0))), 0, none⟩ 2 C33 ∧ R (.tuple #[(.string ((((s27 ++ ⟨#[58]⟩) ++ s30) ++ ⟨#[32]⟩) ++ s31)), (.agg C33.toArray)]) h32) X) X)) X)) X
def A_pipewrightref_Tell : Ann :=
 (.two .leaf (.two .leaf (.two (.two .leaf (.two (.two (.plan [0, 1, 2]) .leaf) .leaf)) (.two .leaf (.two (.two .leaf (.two (.two .leaf .leaf) .leaf)) (.two .leaf .leaf))))))
theorem C_pipewrightref_Tell (ω : Amb) (src_p f_p : Value) (h : Hp) (R : Value → Hp → Prop) (X : List PanicEntry → Hp → Prop) (hk : W_pipewrightref_Tell ω src_p f_p h R X) : CallX Tryd.prog ω 10 [src_p, f_p] h R X :=
 callX_of (an := A_pipewrightref_Tell) Tryd.func10 ((show fnX Tryd.prog ω A_pipewrightref_Tell Tryd.f10 [src_p, f_p] h R X = W_pipewrightref_Tell ω src_p f_p h R X by kernel_rfl) ▸ hk)

/-- pipewright/pipewrightref.All -/
abbrev n_pipewrightref_All : Nat := 11
def W_pipewrightref_All (ω : Amb) (src_p l_p : Value) (h : Hp) (R : Value → Hp → Prop) (X : List PanicEntry → Hp → Prop) : Prop :=
 CallX Tryd.prog ω 12 [l_p] (Array.push h (.cells #[(.int .i64 0), (.int .i64 0)] 26 (0, 0))) (fun r0 h1 =>
 ∃ (I2 : Value → Value → Hp → Prop) (μ3 : Value → Value → Hp → Nat), I2 (.string ⟨#[]⟩) (.int .i64 0) h1 ∧ ∀ out_4 i_5 (d6 : Nat → Value) (h7 : Hp), I2 out_4 i_5 h7 →
 asSl r0 fun a8 l9 c10 => asK .i64 i_5 fun n11 => cond (decide ((n11 : Int) < (l9 : Int)))
 (asSl1 r0 fun a12 l13 c14 => asI i_5 fun n15 => 0 ≤ (n15 : Int) ∧ n15 < (l13 : Int) ∧ ∃ C16, cellsH h7 (Addr.add a12 (Int.toNat n15 * 2)) 2 C16 ∧
 CallX Tryd.prog ω 10 [src_p, (.agg C16.toArray)] h7 (fun r17 h18 =>
 asT r17 fun T19 => asO T19[0]? fun v20 => asT r17 fun T21 => asO T21[1]? fun v22 => asA v22 fun A23 => A23.size = 2 ∧ (∀ u ∈ A23.toList, one u) ∧ storeK (Array.push h18 (.cells #[(.int .i64 0), (.int .i64 0)] 26 (0, 0))) ⟨Array.size h18, 0, none⟩ A23.toList fun h24 =>
 ∃ v25, cellH h24 (Addr.add ⟨Array.size h18, 0, none⟩ 0) = some v25 ∧
 asK .i64 v25 fun n26 => cond (n26 != (0 : Int))
 (∃ C27, cellsH h24 ⟨Array.size h18, 0, none⟩ 2 C27 ∧
 C27.toArray.size = 2 ∧ (∀ u ∈ C27.toArray.toList, one u) ∧ storeK h24 ⟨Array.size h, 0, none⟩ C27.toArray.toList fun h28 =>
 ∃ C29, cellsH h28 ⟨Array.size h, 0, none⟩ 2 C29 ∧ R (.tuple #[(.string ⟨#[]⟩), (.agg C29.toArray)]) h28)
 (asS v20 fun s30 => ByteArray.size s30 + ByteArray.size ⟨#[10]⟩ ≤ 9223372036854775807 ∧ asS out_4 fun s31 => ByteArray.size s31 + ByteArray.size (s30 ++ ⟨#[10]⟩) ≤ 9223372036854775807 ∧ asK .i64 i_5 fun n32 => I2 (.string (s31 ++ (s30 ++ ⟨#[10]⟩))) (.int .i64 (IntKind.wrap .i64 (n32 + 1))) h24 ∧ μ3 (.string (s31 ++ (s30 ++ ⟨#[10]⟩))) (.int .i64 (IntKind.wrap .i64 (n32 + 1))) h24 < μ3 out_4 i_5 h7)) X)
 (2 = 2 ∧ (∀ u ∈ [(.int .i64 0), (.int .i64 0)], one u) ∧ storeK h7 ⟨Array.size h, 0, none⟩ [(.int .i64 0), (.int .i64 0)] fun h33 =>
 ∃ C34, cellsH h33 ⟨Array.size h, 0, none⟩ 2 C34 ∧ R (.tuple #[out_4, (.agg C34.toArray)]) h33)) X
def A_pipewrightref_All : Ann :=
 (.two .leaf (.two .leaf (.two .leaf (.two (.two .leaf (.one (.loop [13, 14, 15, 16, 20, 21, 22, 23, 24, 25, 19, 26, 27, 10, 9, 28, 29, 30, 31, 4, 32, 33, 34, 35, 6, 17, 18, 8] [6, 8] (.two (.two .leaf (.two .leaf .leaf)) (.two (.one (.two .leaf (.two (.two .leaf (.two (.two (.plan [0, 1, 2]) .leaf) .leaf)) .leaf))) .leaf))))) (.two .leaf .leaf)))))
theorem C_pipewrightref_All (ω : Amb) (src_p l_p : Value) (h : Hp) (R : Value → Hp → Prop) (X : List PanicEntry → Hp → Prop) (hk : W_pipewrightref_All ω src_p l_p h R X) : CallX Tryd.prog ω 11 [src_p, l_p] h R X :=
 callX_of (an := A_pipewrightref_All) Tryd.func11 ((show fnX Tryd.prog ω A_pipewrightref_All Tryd.f11 [src_p, l_p] h R X = W_pipewrightref_All ω src_p l_p h R X by kernel_rfl) ▸ hk)

/-- pipewright/pipewrightref.Order -/
abbrev n_pipewrightref_Order : Nat := 12
def W_pipewrightref_Order (ω : Amb) (l_p : Value) (h : Hp) (R : Value → Hp → Prop) (X : List PanicEntry → Hp → Prop) : Prop :=
 ∃ (I0 : Value → Value → Hp → Prop) (μ1 : Value → Value → Hp → Nat), I0 (.slice none 0 0) (.int .i64 0) h ∧ ∀ out_2 i_3 (d4 : Nat → Value) (h5 : Hp), I0 out_2 i_3 h5 →
 asSl l_p fun a6 l7 c8 => asK .i64 i_3 fun n9 => cond (decide ((n9 : Int) < (l7 : Int)))
 (∃ J10 : Value → Hp → Prop,
 (asSl1 l_p fun a14 l15 c16 => asI i_3 fun n17 => 0 ≤ (n17 : Int) ∧ n17 < (l15 : Int) ∧ ∃ v18, cellH h5 (Addr.add (Addr.add a14 (Int.toNat n17 * 2)) 0) = some v18 ∧
 asK .i64 v18 fun n19 => cond (n19 == (0 : Int))
 (J10 out_2 h5)
 (∃ (I20 : Value → Hp → Prop) (μ21 : Value → Hp → Nat), I20 (.int .i64 0) h5 ∧ ∀ k_22 (d23 : Nat → Value) (h24 : Hp), I20 k_22 h24 →
 ∃ β25 : Bool,
 (asSl out_2 fun a27 l28 c29 => asK .i64 k_22 fun n30 => cond (decide ((n30 : Int) < (l28 : Int)))
 (asSl1 out_2 fun a31 l32 c33 => asI k_22 fun n34 => 0 ≤ (n34 : Int) ∧ n34 < (l32 : Int) ∧ ∃ v35, cellH h24 (Addr.add (Addr.add a31 (Int.toNat n34 * 2)) 1) = some v35 ∧
 asSl1 l_p fun a36 l37 c38 => asI i_3 fun n39 => 0 ≤ (n39 : Int) ∧ n39 < (l37 : Int) ∧ ∃ v40, cellH h24 (Addr.add (Addr.add a36 (Int.toNat n39 * 2)) 1) = some v40 ∧
 asK .i64 v35 fun n41 => asK .i64 v40 fun n42 => cond (decide ((n41 : Int) < n42))
 (((.bool true) : Value) = .bool β25 ∧ h24 = h24)
 (asSl1 out_2 fun a43 l44 c45 => asI k_22 fun n46 => 0 ≤ (n46 : Int) ∧ n46 < (l44 : Int) ∧ ∃ v47, cellH h24 (Addr.add (Addr.add a43 (Int.toNat n46 * 2)) 1) = some v47 ∧
 asSl1 l_p fun a48 l49 c50 => asI i_3 fun n51 => 0 ≤ (n51 : Int) ∧ n51 < (l49 : Int) ∧ ∃ v52, cellH h24 (Addr.add (Addr.add a48 (Int.toNat n51 * 2)) 1) = some v52 ∧
 asK .i64 v47 fun n53 => asK .i64 v52 fun n54 => cond (n53 == (n54 : Int))
 (asSl1 out_2 fun a55 l56 c57 => asI k_22 fun n58 => 0 ≤ (n58 : Int) ∧ n58 < (l56 : Int) ∧ ∃ v59, cellH h24 (Addr.add (Addr.add a55 (Int.toNat n58 * 2)) 0) = some v59 ∧
 asSl1 l_p fun a60 l61 c62 => asI i_3 fun n63 => 0 ≤ (n63 : Int) ∧ n63 < (l61 : Int) ∧ ∃ v64, cellH h24 (Addr.add (Addr.add a60 (Int.toNat n63 * 2)) 0) = some v64 ∧
 asK .i64 v59 fun n65 => asK .i64 v64 fun n66 => ((.bool (decide ((n65 : Int) < n66))) : Value) = .bool β25 ∧ h24 = h24)
 (((.bool false) : Value) = .bool β25 ∧ h24 = h24)))
 (((.bool false) : Value) = .bool β25 ∧ h24 = h24)) ∧
 ∀ d26 : Nat → Value,
 cond β25
 (asK .i64 k_22 fun n67 => I20 (.int .i64 (IntKind.wrap .i64 (n67 + 1))) h24 ∧ μ21 (.int .i64 (IntKind.wrap .i64 (n67 + 1))) h24 < μ21 k_22 h24)
 (∃ β68 : Bool,
 (asSl out_2 fun a70 l71 c72 => asK .i64 k_22 fun n73 => cond (decide ((n73 : Int) < (l71 : Int)))
 (asSl1 out_2 fun a74 l75 c76 => asI k_22 fun n77 => 0 ≤ (n77 : Int) ∧ n77 < (l75 : Int) ∧ ∃ C78, cellsH h24 (Addr.add a74 (Int.toNat n77 * 2)) 2 C78 ∧
 asSl1 l_p fun a79 l80 c81 => asI i_3 fun n82 => 0 ≤ (n82 : Int) ∧ n82 < (l80 : Int) ∧ ∃ C83, cellsH h24 (Addr.add a79 (Int.toNat n82 * 2)) 2 C83 ∧
 asO C78.toArray[0]? fun v84 => asO C83.toArray[0]? fun v85 => asK .i64 v84 fun n86 => asK .i64 v85 fun n87 => asO C78.toArray[1]? fun v88 => asO C83.toArray[1]? fun v89 => asK .i64 v88 fun n90 => asK .i64 v89 fun n91 => ((.bool ((n86 == (n87 : Int)) && ((n90 == (n91 : Int)) && true))) : Value) = .bool β68 ∧ h24 = h24)
 (((.bool false) : Value) = .bool β68 ∧ h24 = h24)) ∧
 ∀ d69 : Nat → Value,
 cond β68
 (J10 out_2 h24)
 (2 = 2 ∧ appK Tryd.prog 22 (Array.push h24 (.cells (List.toArray [(.int .i64 0), (.int .i64 0)]) 26 (0, 0))) out_2 (.slice (some ⟨Array.size h24, 0, none⟩) 1 1) fun w92 h93 =>
 asSl w92 fun a94 l95 c96 => ∃ (I97 : Value → Hp → Prop) (μ98 : Value → Hp → Nat), I97 (.int .i64 (IntKind.wrap .i64 ((l95 : Int) - 1))) h93 ∧ ∀ j_99 (d100 : Nat → Value) (h101 : Hp), I97 j_99 h101 →
 asK .i64 j_99 fun n102 => asK .i64 k_22 fun n103 => cond (decide ((n102 : Int) > n103))
 (asK .i64 j_99 fun n104 => asSl1 w92 fun a105 l106 c107 => 0 ≤ ((IntKind.wrap .i64 (n104 - 1)) : Int) ∧ (IntKind.wrap .i64 (n104 - 1)) < (l106 : Int) ∧ ∃ C108, cellsH h101 (Addr.add a105 (Int.toNat (IntKind.wrap .i64 (n104 - 1)) * 2)) 2 C108 ∧
 asSl1 w92 fun a109 l110 c111 => asI j_99 fun n112 => 0 ≤ (n112 : Int) ∧ n112 < (l110 : Int) ∧ C108.toArray.size = 2 ∧ (∀ u ∈ C108.toArray.toList, one u) ∧ storeK h101 (Addr.add a109 (Int.toNat n112 * 2)) C108.toArray.toList fun h113 =>
 asK .i64 j_99 fun n114 => I97 (.int .i64 (IntKind.wrap .i64 (n114 - 1))) h113 ∧ μ98 (.int .i64 (IntKind.wrap .i64 (n114 - 1))) h113 < μ98 j_99 h101)
 (asSl1 l_p fun a115 l116 c117 => asI i_3 fun n118 => 0 ≤ (n118 : Int) ∧ n118 < (l116 : Int) ∧ ∃ C119, cellsH h101 (Addr.add a115 (Int.toNat n118 * 2)) 2 C119 ∧
 asSl1 w92 fun a120 l121 c122 => asI k_22 fun n123 => 0 ≤ (n123 : Int) ∧ n123 < (l121 : Int) ∧ C119.toArray.size = 2 ∧ (∀ u ∈ C119.toArray.toList, one u) ∧ storeK h101 (Addr.add a120 (Int.toNat n123 * 2)) C119.toArray.toList fun h124 =>
 J10 w92 h124))))) ∧
 ∀ out_11 (d12 : Nat → Value) (h13 : Hp), J10 out_11 h13 →
 asK .i64 i_3 fun n125 => I0 out_11 (.int .i64 (IntKind.wrap .i64 (n125 + 1))) h13 ∧ μ1 out_11 (.int .i64 (IntKind.wrap .i64 (n125 + 1))) h13 < μ1 out_2 i_3 h5)
 (R out_2 h5)
def A_pipewrightref_Order : Ann :=
 (.two .leaf (.two .leaf (.two (.two .leaf (.one (.loop [7, 8, 9, 10, 13, 14, 15, 16, 17, 18, 5, 19, 20, 21, 22, 23, 24, 25, 26, 27, 28, 29, 30, 31, 32, 33, 34, 35, 36, 37, 38, 39, 40, 41, 42, 43, 44, 45, 46, 47, 48, 49, 50, 51, 52, 53, 54, 55, 56, 57, 58, 59, 60, 61, 62, 63, 64, 65, 66, 67, 68, 69, 70, 71, 72, 73, 74, 75, 76, 77, 78, 79, 80, 81, 82, 3, 83, 84, 85, 6, 86, 87, 88, 91, 92, 93, 94, 95, 96, 97, 98, 89, 90, 99, 100, 101, 102, 103, 104, 105, 11, 12, 4] [3, 4] (.two (.two .leaf (.two .leaf .leaf)) (.two (.join [13, 14, 15, 16, 17, 18, 5, 19, 20, 21, 22, 23, 24, 25, 26, 27, 28, 29, 30, 31, 32, 33, 34, 35, 36, 37, 38, 39, 40, 41, 42, 43, 44, 45, 46, 47, 48, 49, 50, 51, 52, 53, 54, 55, 56, 57, 58, 59, 60, 61, 62, 63, 64, 65, 66, 67, 68, 69, 70, 71, 72, 73, 74, 75, 76, 77, 78, 79, 80, 81, 82, 3, 83, 84, 85, 6, 86, 87, 88, 91, 92, 93, 94, 95, 96, 97, 98, 89, 90, 99, 100, 101, 102, 103, 104, 105] [3] (.one (.two (.two .leaf (.two .leaf .leaf)) (.two .leaf (.two (.one (.loop [19, 20, 21, 22, 23, 24, 25, 26, 27, 28, 29, 30, 31, 32, 33, 34, 35, 36, 37, 38, 39, 40, 41, 42, 43, 44, 45, 46, 47, 48, 49, 50, 51, 52, 53, 54, 55, 56, 57, 58, 59, 60, 61, 62, 63, 5] [5] (.two (.two (.jb [19, 20, 21, 22, 23, 24, 25, 26, 27, 28, 29, 30, 31, 32, 33, 34, 35, 36, 37, 38, 39, 40, 41, 42, 43, 44, 45, 46, 47, 48, 49, 50, 51, 52, 53, 54, 55, 56, 57, 58, 59, 60, 61] 61 (.plan [0, 1, 2, 3, 4, 5, 6, 7, 8, 9, 10, 11, 12, 13, 14, 15, 16, 17, 18, 19, 20, 21, 22, 23, 24, 25, 26, 27, 28, 29, 30, 31, 32, 33, 34, 35, 36, 37, 38, 39, 40, 41, 42])) (.two .leaf .leaf)) (.one .leaf)))) (.two (.two (.jb [64, 65, 66, 67, 68, 69, 70, 71, 72, 73, 74, 75, 76, 77, 78] 78 (.plan [0, 1, 2, 3, 4, 5, 6, 7, 8, 9, 10, 11, 12, 13, 14])) (.two .leaf .leaf)) (.two .leaf (.two (.two .leaf (.one (.loop [86, 87, 88, 91, 92, 93, 94, 95, 96, 97, 98, 89, 90, 6] [6] (.two (.two .leaf (.two .leaf .leaf)) (.two (.one .leaf) .leaf))))) .leaf)))))))) .leaf))))) (.two .leaf .leaf))))
theorem C_pipewrightref_Order (ω : Amb) (l_p : Value) (h : Hp) (R : Value → Hp → Prop) (X : List PanicEntry → Hp → Prop) (hk : W_pipewrightref_Order ω l_p h R X) : CallX Tryd.prog ω 12 [l_p] h R X :=
 callX_of (an := A_pipewrightref_Order) Tryd.func12 ((show fnX Tryd.prog ω A_pipewrightref_Order Tryd.f12 [l_p] h R X = W_pipewrightref_Order ω l_p h R X by kernel_rfl) ▸ hk)

/-- pipewright/pipewrightref.Word -/
abbrev n_pipewrightref_Word : Nat := 14
def W_pipewrightref_Word (ω : Amb) (code_p : Value) (h : Hp) (R : Value → Hp → Prop) (X : List PanicEntry → Hp → Prop) : Prop :=
 ∃ β0 : Bool,
 (asK .i64 code_p fun n2 => cond (decide ((n2 : Int) < 0))
 (((.bool true) : Value) = .bool β0 ∧ (Array.push h (.cells (List.toArray [(.string ⟨#[]⟩), (.string ⟨#[115, 105, 122, 101]⟩), (.string ⟨#[116, 101, 120, 116]⟩), (.string ⟨#[110, 117, 109, 98, 101, 114]⟩), (.string ⟨#[110, 97, 109, 101]⟩), (.string ⟨#[102, 111, 114, 109]⟩), (.string ⟨#[115, 104, 111, 114, 116]⟩), (.string ⟨#[100, 101, 101, 112]⟩), (.string ⟨#[109, 97, 110, 121]⟩), (.string ⟨#[116, 119, 105, 99, 101]⟩), (.string ⟨#[110, 111, 110, 101]⟩), (.string ⟨#[116, 121, 112, 101]⟩), (.string ⟨#[115, 116, 97, 103, 101]⟩), (.string ⟨#[109, 97, 105, 110]⟩), (.string ⟨#[114, 97, 110, 103, 101]⟩), (.string ⟨#[99, 111, 117, 110, 116]⟩), (.string ⟨#[99, 111, 100, 101]⟩), (.string ⟨#[114, 111, 117, 110, 100]⟩)]) 9 (0, 0))) = (Array.push h (.cells (List.toArray [(.string ⟨#[]⟩), (.string ⟨#[115, 105, 122, 101]⟩), (.string ⟨#[116, 101, 120, 116]⟩), (.string ⟨#[110, 117, 109, 98, 101, 114]⟩), (.string ⟨#[110, 97, 109, 101]⟩), (.string ⟨#[102, 111, 114, 109]⟩), (.string ⟨#[115, 104, 111, 114, 116]⟩), (.string ⟨#[100, 101, 101, 112]⟩), (.string ⟨#[109, 97, 110, 121]⟩), (.string ⟨#[116, 119, 105, 99, 101]⟩), (.string ⟨#[110, 111, 110, 101]⟩), (.string ⟨#[116, 121, 112, 101]⟩), (.string ⟨#[115, 116, 97, 103, 101]⟩), (.string ⟨#[109, 97, 105, 110]⟩), (.string ⟨#[114, 97, 110, 103, 101]⟩), (.string ⟨#[99, 111, 117, 110, 116]⟩), (.string ⟨#[99, 111, 100, 101]⟩), (.string ⟨#[114, 111, 117, 110, 100]⟩)]) 9 (0, 0))))
 (asK .i64 code_p fun n3 => ((.bool (decide ((n3 : Int) ≥ (18 : Int)))) : Value) = .bool β0 ∧ (Array.push h (.cells (List.toArray [(.string ⟨#[]⟩), (.string ⟨#[115, 105, 122, 101]⟩), (.string ⟨#[116, 101, 120, 116]⟩), (.string ⟨#[110, 117, 109, 98, 101, 114]⟩), (.string ⟨#[110, 97, 109, 101]⟩), (.string ⟨#[102, 111, 114, 109]⟩), (.string ⟨#[115, 104, 111, 114, 116]⟩), (.string ⟨#[100, 101, 101, 112]⟩), (.string ⟨#[109, 97, 110, 121]⟩), (.string ⟨#[116, 119, 105, 99, 101]⟩), (.string ⟨#[110, 111, 110, 101]⟩), (.string ⟨#[116, 121, 112, 101]⟩), (.string ⟨#[115, 116, 97, 103, 101]⟩), (.string ⟨#[109, 97, 105, 110]⟩), (.string ⟨#[114, 97, 110, 103, 101]⟩), (.string ⟨#[99, 111, 117, 110, 116]⟩), (.string ⟨#[99, 111, 100, 101]⟩), (.string ⟨#[114, 111, 117, 110, 100]⟩)]) 9 (0, 0))) = (Array.push h (.cells (List.toArray [(.string ⟨#[]⟩), (.string ⟨#[115, 105, 122, 101]⟩), (.string ⟨#[116, 101, 120, 116]⟩), (.string ⟨#[110, 117, 109, 98, 101, 114]⟩), (.string ⟨#[110, 97, 109, 101]⟩), (.string ⟨#[102, 111, 114, 109]⟩), (.string ⟨#[115, 104, 111, 114, 116]⟩), (.string ⟨#[100, 101, 101, 112]⟩), (.string ⟨#[109, 97, 110, 121]⟩), (.string ⟨#[116, 119, 105, 99, 101]⟩), (.string ⟨#[110, 111, 110, 101]⟩), (.string ⟨#[116, 121, 112, 101]⟩), (.string ⟨#[115, 116, 97, 103, 101]⟩), (.string ⟨#[109, 97, 105, 110]⟩), (.string ⟨#[114, 97, 110, 103, 101]⟩), (.string ⟨#[99, 111, 117, 110, 116]⟩), (.string ⟨#[99, 111, 100, 101]⟩), (.string ⟨#[114, 111, 117, 110, 100]⟩)]) 9 (0, 0))))) ∧
 ∀ d1 : Nat → Value,
 cond β0
 (R (.string ⟨#[]⟩) (Array.push h (.cells (List.toArray [(.string ⟨#[]⟩), (.string ⟨#[115, 105, 122, 101]⟩), (.string ⟨#[116, 101, 120, 116]⟩), (.string ⟨#[110, 117, 109, 98, 101, 114]⟩), (.string ⟨#[110, 97, 109, 101]⟩), (.string ⟨#[102, 111, 114, 109]⟩), (.string ⟨#[115, 104, 111, 114, 116]⟩), (.string ⟨#[100, 101, 101, 112]⟩), (.string ⟨#[109, 97, 110, 121]⟩), (.string ⟨#[116, 119, 105, 99, 101]⟩), (.string ⟨#[110, 111, 110, 101]⟩), (.string ⟨#[116, 121, 112, 101]⟩), (.string ⟨#[115, 116, 97, 103, 101]⟩), (.string ⟨#[109, 97, 105, 110]⟩), (.string ⟨#[114, 97, 110, 103, 101]⟩), (.string ⟨#[99, 111, 117, 110, 116]⟩), (.string ⟨#[99, 111, 100, 101]⟩), (.string ⟨#[114, 111, 117, 110, 100]⟩)]) 9 (0, 0))))
 (asI code_p fun n4 => 0 ≤ (n4 : Int) ∧ n4 < (18 : Int) ∧ ∃ v5, cellH (Array.push h (.cells (List.toArray [(.string ⟨#[]⟩), (.string ⟨#[115, 105, 122, 101]⟩), (.string ⟨#[116, 101, 120, 116]⟩), (.string ⟨#[110, 117, 109, 98, 101, 114]⟩), (.string ⟨#[110, 97, 109, 101]⟩), (.string ⟨#[102, 111, 114, 109]⟩), (.string ⟨#[115, 104, 111, 114, 116]⟩), (.string ⟨#[100, 101, 101, 112]⟩), (.string ⟨#[109, 97, 110, 121]⟩), (.string ⟨#[116, 119, 105, 99, 101]⟩), (.string ⟨#[110, 111, 110, 101]⟩), (.string ⟨#[116, 121, 112, 101]⟩), (.string ⟨#[115, 116, 97, 103, 101]⟩), (.string ⟨#[109, 97, 105, 110]⟩), (.string ⟨#[114, 97, 110, 103, 101]⟩), (.string ⟨#[99, 111, 117, 110, 116]⟩), (.string ⟨#[99, 111, 100, 101]⟩), (.string ⟨#[114, 111, 117, 110, 100]⟩)]) 9 (0, 0))) (Addr.add ⟨Array.size h, 0, none⟩ (Int.toNat n4 * 1)) = some v5 ∧
 R v5 (Array.push h (.cells (List.toArray [(.string ⟨#[]⟩), (.string ⟨#[115, 105, 122, 101]⟩), (.string ⟨#[116, 101, 120, 116]⟩), (.string ⟨#[110, 117, 109, 98, 101, 114]⟩), (.string ⟨#[110, 97, 109, 101]⟩), (.string ⟨#[102, 111, 114, 109]⟩), (.string ⟨#[115, 104, 111, 114, 116]⟩), (.string ⟨#[100, 101, 101, 112]⟩), (.string ⟨#[109, 97, 110, 121]⟩), (.string ⟨#[116, 119, 105, 99, 101]⟩), (.string ⟨#[110, 111, 110, 101]⟩), (.string ⟨#[116, 121, 112, 101]⟩), (.string ⟨#[115, 116, 97, 103, 101]⟩), (.string ⟨#[109, 97, 105, 110]⟩), (.string ⟨#[114, 97, 110, 103, 101]⟩), (.string ⟨#[99, 111, 117, 110, 116]⟩), (.string ⟨#[99, 111, 100, 101]⟩), (.string ⟨#[114, 111, 117, 110, 100]⟩)]) 9 (0, 0))))
def A_pipewrightref_Word : Ann :=
 (.two .leaf (.two .leaf (.two (.two (.jb [5, 6, 7, 8, 9, 10, 11, 12] 12 .leaf) (.two (.two .leaf .leaf) .leaf)) (.two .leaf .leaf))))
theorem C_pipewrightref_Word (ω : Amb) (code_p : Value) (h : Hp) (R : Value → Hp → Prop) (X : List PanicEntry → Hp → Prop) (hk : W_pipewrightref_Word ω code_p h R X) : CallX Tryd.prog ω 14 [code_p] h R X :=
 callX_of (an := A_pipewrightref_Word) Tryd.func14 ((show fnX Tryd.prog ω A_pipewrightref_Word Tryd.f14 [code_p] h R X = W_pipewrightref_Word ω code_p h R X by kernel_rfl) ▸ hk)

end Go.Proofs.YtfpedcmempljlaaDoor.Sx
