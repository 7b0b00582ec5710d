/- Formulas of the functions' texts, written by a program of ours; each is checked by the kernel. -/
import Derived.Test.YtaehnpilebkcoaaDoorSxCore
import Derived.KernelRfl
import Derived.Test.YtaehnpilebkcoaaDoorProg
set_option linter.unusedVariables false
set_option maxRecDepth 100000
namespace Go.Proofs.YtaehnpilebkcoaaDoor.Sx
open Go Go.Sx Go.Proofs

/-- pipewright/pipewrightref.Scan -/
abbrev n_pipewrightref_Scan : Nat := 26
def W_pipewrightref_Scan (ω : Amb) (src_p : Value) (h : Hp) (R : Value → Hp → Prop) (X : List PanicEntry → Hp → Prop) : Prop :=
 asS src_p fun s0 => cond (decide (((ByteArray.size s0 : Int) : Int) > 12000))
 (CallX Tryd.prog ω 32 [(.int .i64 1), (.int .i64 12000)] (Array.push h (.cells #[(.int .i64 0), (.int .i64 0)] 28 (0, 0))) (fun r1 h2 =>
 asA r1 fun A3 => A3.size = 2 ∧ (∀ u ∈ A3.toList, one u) ∧ storeK h2 ⟨Array.size h, 0, none⟩ A3.toList fun h4 =>
 ∃ C5, cellsH h4 ⟨Array.size h, 0, none⟩ 2 C5 ∧ R (.tuple #[(.slice none 0 0), (.agg C5.toArray)]) h4) X)
 (∃ (I6 : Value → Value → Hp → Prop) (μ7 : Value → Value → Hp → Nat), I6 (.int .i64 0) (.slice none 0 0) (Array.push h (.cells #[(.int .i64 0), (.int .i64 0)] 28 (0, 0))) ∧ ∀ at_8 out_9 (d10 : Nat → Value) (h11 : Hp), I6 at_8 out_9 h11 →
 asS src_p fun s12 => asK .i64 at_8 fun n13 => cond (decide ((n13 : Int) < (ByteArray.size s12 : Int)))
 (∃ J14 : Value → Value → Hp → Prop,
 (asS src_p fun s19 => asI at_8 fun n20 => 0 ≤ (n20 : Int) ∧ n20 < (ByteArray.size s19 : Int) ∧ ∃ J21 : Value → Value → Hp → Prop,
 (∃ J26 : Value → Hp → Prop,
 (cond ((byteAt s19 n20) == (32 : Int))
 (J26 (.bool true) h11)
 (cond ((byteAt s19 n20) == (9 : Int))
 (J26 (.bool true) h11)
 (cond ((byteAt s19 n20) == (10 : Int))
 (J26 (.bool true) h11)
 (J26 (.bool ((byteAt s19 n20) == (13 : Int))) h11)))) ∧
 ∀ t24_27 (d28 : Nat → Value) (h29 : Hp), J26 t24_27 h29 →
 ∃ J30 : Value → Value → Hp → Prop,
 (asB t24_27 fun b35 => cond b35
 (asK .i64 at_8 fun n36 => J30 (.int .i64 (IntKind.wrap .i64 (n36 + 1))) out_9 h29)
 (∃ J37 : Value → Value → Hp → Prop,
 (cond ((byteAt s19 n20) == (35 : Int))
 (∃ (I42 : Value → Hp → Prop) (μ43 : Value → Hp → Nat), I42 at_8 h29 ∧ ∀ at_44 (d45 : Nat → Value) (h46 : Hp), I42 at_44 h46 →
 ∃ β47 : Bool,
 (asS src_p fun s49 => asK .i64 at_44 fun n50 => cond (decide ((n50 : Int) < (ByteArray.size s49 : Int)))
 (asS src_p fun s51 => asI at_44 fun n52 => 0 ≤ (n52 : Int) ∧ n52 < (ByteArray.size s51 : Int) ∧ ((.bool ((byteAt s51 n52) != (10 : Int))) : Value) = .bool β47 ∧ h46 = h46)
 (((.bool false) : Value) = .bool β47 ∧ h46 = h46)) ∧
 ∀ d48 : Nat → Value,
 cond β47
 (asK .i64 at_44 fun n53 => I42 (.int .i64 (IntKind.wrap .i64 (n53 + 1))) h46 ∧ μ43 (.int .i64 (IntKind.wrap .i64 (n53 + 1))) h46 < μ43 at_44 h46)
 (J37 at_44 out_9 h46))
 (CallX Tryd.prog ω 52 [(.int .u8 (byteAt s19 n20))] h29 (fun r54 h55 =>
 ∃ J56 : Value → Value → Hp → Prop,
 (asB r54 fun b61 => cond b61
 (CallX Tryd.prog ω 53 [src_p, at_8] h55 (fun r62 h63 =>
 asS src_p fun s64 => asI at_8 fun n65 => asI r62 fun n66 => 0 ≤ (n65 : Int) ∧ (n65 : Int) ≤ n66 ∧ n66 ≤ (ByteArray.size s64 : Int) ∧ CallX Tryd.prog ω 54 [(.string (ByteArray.extract s64 (Int.toNat n65) (Int.toNat n66)))] h63 (fun r67 h68 =>
 ∃ J69 : Value → Hp → Prop,
 (asB r67 fun b73 => cond b73
 (J69 (.int .i64 1) h68)
 (asK .i64 r62 fun n74 => asK .i64 at_8 fun n75 => cond (decide (((IntKind.wrap .i64 (n74 - n75)) : Int) > 12))
 (CallX Tryd.prog ω 32 [(.int .i64 4), at_8] h68 (fun r76 h77 =>
 asA r76 fun A78 => A78.size = 2 ∧ (∀ u ∈ A78.toList, one u) ∧ storeK h77 ⟨Array.size h, 0, none⟩ A78.toList fun h79 =>
 ∃ C80, cellsH h79 ⟨Array.size h, 0, none⟩ 2 C80 ∧ R (.tuple #[(.slice none 0 0), (.agg C80.toArray)]) h79) X)
 (J69 (.int .i64 2) h68))) ∧
 ∀ k_70 (d71 : Nat → Value) (h72 : Hp), J69 k_70 h72 →
 asS src_p fun s81 => asI at_8 fun n82 => asI r62 fun n83 => 0 ≤ (n82 : Int) ∧ (n82 : Int) ≤ n83 ∧ n83 ≤ (ByteArray.size s81 : Int) ∧ oneK k_70 (oneK at_8 (4 = 4 ∧ appK Tryd.prog 42 (Array.push h72 (.cells (List.toArray [k_70, at_8, (.string (ByteArray.extract s81 (Int.toNat n82) (Int.toNat n83))), (.int .i64 0)]) 46 (0, 0))) out_9 (.slice (some ⟨Array.size h72, 0, none⟩) 1 1) fun w84 h85 =>
 J56 w84 r62 h85))) X) X)
 (CallX Tryd.prog ω 55 [(.int .u8 (byteAt s19 n20))] h55 (fun r86 h87 =>
 ∃ J88 : Value → Value → Hp → Prop,
 (asB r86 fun b93 => cond b93
 (CallX Tryd.prog ω 53 [src_p, at_8] h87 (fun r94 h95 =>
 asS src_p fun s96 => asI at_8 fun n97 => asI r94 fun n98 => 0 ≤ (n97 : Int) ∧ (n97 : Int) ≤ n98 ∧ n98 ≤ (ByteArray.size s96 : Int) ∧ CallX Tryd.prog ω 56 [(.string (ByteArray.extract s96 (Int.toNat n97) (Int.toNat n98)))] h95 (fun r99 h100 =>
 asK .i64 r99 fun n101 => cond (decide ((n101 : Int) < 0))
 (CallX Tryd.prog ω 32 [(.int .i64 3), at_8] h100 (fun r102 h103 =>
 asA r102 fun A104 => A104.size = 2 ∧ (∀ u ∈ A104.toList, one u) ∧ storeK h103 ⟨Array.size h, 0, none⟩ A104.toList fun h105 =>
 ∃ C106, cellsH h105 ⟨Array.size h, 0, none⟩ 2 C106 ∧ R (.tuple #[(.slice none 0 0), (.agg C106.toArray)]) h105) X)
 (asS src_p fun s107 => asI at_8 fun n108 => asI r94 fun n109 => 0 ≤ (n108 : Int) ∧ (n108 : Int) ≤ n109 ∧ n109 ≤ (ByteArray.size s107 : Int) ∧ oneK at_8 (oneK r99 (4 = 4 ∧ appK Tryd.prog 42 (Array.push h100 (.cells (List.toArray [(.int .i64 3), at_8, (.string (ByteArray.extract s107 (Int.toNat n108) (Int.toNat n109))), r99]) 46 (0, 0))) out_9 (.slice (some ⟨Array.size h100, 0, none⟩) 1 1) fun w110 h111 =>
 J88 w110 r94 h111)))) X) X)
 (∃ J112 : Value → Hp → Prop,
 (cond ((byteAt s19 n20) == (61 : Int))
 (asK .i64 at_8 fun n116 => asS src_p fun s117 => cond (decide (((IntKind.wrap .i64 (n116 + 1)) : Int) < (ByteArray.size s117 : Int)))
 (asK .i64 at_8 fun n118 => asS src_p fun s119 => 0 ≤ ((IntKind.wrap .i64 (n118 + 1)) : Int) ∧ (IntKind.wrap .i64 (n118 + 1)) < (ByteArray.size s119 : Int) ∧ J112 (.bool ((byteAt s119 (IntKind.wrap .i64 (n118 + 1))) == (61 : Int))) h87)
 (J112 (.bool false) h87))
 (J112 (.bool false) h87)) ∧
 ∀ t110_113 (d114 : Nat → Value) (h115 : Hp), J112 t110_113 h115 →
 ∃ J120 : Value → Value → Hp → Prop,
 (asB t110_113 fun b125 => cond b125
 (oneK at_8 (4 = 4 ∧ appK Tryd.prog 42 (Array.push h115 (.cells (List.toArray [(.int .i64 4), at_8, (.string ⟨#[61, 61]⟩), (.int .i64 0)]) 46 (0, 0))) out_9 (.slice (some ⟨Array.size h115, 0, none⟩) 1 1) fun w126 h127 =>
 asK .i64 at_8 fun n128 => J120 w126 (.int .i64 (IntKind.wrap .i64 (n128 + 2))) h127))
 (∃ J129 : Value → Hp → Prop,
 (cond ((byteAt s19 n20) == (40 : Int))
 (J129 (.bool true) h115)
 (cond ((byteAt s19 n20) == (41 : Int))
 (J129 (.bool true) h115)
 (cond ((byteAt s19 n20) == (123 : Int))
 (J129 (.bool true) h115)
 (cond ((byteAt s19 n20) == (125 : Int))
 (J129 (.bool true) h115)
 (cond ((byteAt s19 n20) == (44 : Int))
 (J129 (.bool true) h115)
 (cond ((byteAt s19 n20) == (59 : Int))
 (J129 (.bool true) h115)
 (cond ((byteAt s19 n20) == (43 : Int))
 (J129 (.bool true) h115)
 (cond ((byteAt s19 n20) == (45 : Int))
 (J129 (.bool true) h115)
 (cond ((byteAt s19 n20) == (42 : Int))
 (J129 (.bool true) h115)
 (cond ((byteAt s19 n20) == (60 : Int))
 (J129 (.bool true) h115)
 (J129 (.bool ((byteAt s19 n20) == (61 : Int))) h115))))))))))) ∧
 ∀ t134_130 (d131 : Nat → Value) (h132 : Hp), J129 t134_130 h132 →
 asB t134_130 fun b133 => cond b133
 (asK .i64 at_8 fun n134 => asS src_p fun s135 => asI at_8 fun n136 => 0 ≤ (n136 : Int) ∧ (n136 : Int) ≤ (IntKind.wrap .i64 (n134 + 1)) ∧ (IntKind.wrap .i64 (n134 + 1)) ≤ (ByteArray.size s135 : Int) ∧ oneK at_8 (4 = 4 ∧ appK Tryd.prog 42 (Array.push h132 (.cells (List.toArray [(.int .i64 4), at_8, (.string (ByteArray.extract s135 (Int.toNat n136) (Int.toNat (IntKind.wrap .i64 (n134 + 1))))), (.int .i64 0)]) 46 (0, 0))) out_9 (.slice (some ⟨Array.size h132, 0, none⟩) 1 1) fun w137 h138 =>
 asK .i64 at_8 fun n139 => J120 w137 (.int .i64 (IntKind.wrap .i64 (n139 + 1))) h138))
 (CallX Tryd.prog ω 32 [(.int .i64 2), at_8] h132 (fun r140 h141 =>
 asA r140 fun A142 => A142.size = 2 ∧ (∀ u ∈ A142.toList, one u) ∧ storeK h141 ⟨Array.size h, 0, none⟩ A142.toList fun h143 =>
 ∃ C144, cellsH h143 ⟨Array.size h, 0, none⟩ 2 C144 ∧ R (.tuple #[(.slice none 0 0), (.agg C144.toArray)]) h143) X))) ∧
 ∀ out_121 at_122 (d123 : Nat → Value) (h124 : Hp), J120 out_121 at_122 h124 →
 J88 out_121 at_122 h124)) ∧
 ∀ out_89 at_90 (d91 : Nat → Value) (h92 : Hp), J88 out_89 at_90 h92 →
 J56 out_89 at_90 h92) X)) ∧
 ∀ out_57 at_58 (d59 : Nat → Value) (h60 : Hp), J56 out_57 at_58 h60 →
 J37 at_58 out_57 h60) X)) ∧
 ∀ at_38 out_39 (d40 : Nat → Value) (h41 : Hp), J37 at_38 out_39 h41 →
 J30 at_38 out_39 h41)) ∧
 ∀ at_31 out_32 (d33 : Nat → Value) (h34 : Hp), J30 at_31 out_32 h34 →
 J21 at_31 out_32 h34) ∧
 ∀ at_22 out_23 (d24 : Nat → Value) (h25 : Hp), J21 at_22 out_23 h25 →
 J14 at_22 out_23 h25) ∧
 ∀ at_15 out_16 (d17 : Nat → Value) (h18 : Hp), J14 at_15 out_16 h18 →
 I6 at_15 out_16 h18 ∧ μ7 at_15 out_16 h18 < μ7 at_8 out_9 h11)
 (2 = 2 ∧ (∀ u ∈ [(.int .i64 0), (.int .i64 0)], one u) ∧ storeK h11 ⟨Array.size h, 0, none⟩ [(.int .i64 0), (.int .i64 0)] fun h145 =>
 ∃ C146, cellsH h145 ⟨Array.size h, 0, none⟩ 2 C146 ∧ R (.tuple #[out_9, (.agg C146.toArray)]) h145))
def A_pipewrightref_Scan : Ann :=
 (.two .leaf (.two (.two .leaf (.two (.two .leaf .leaf) .leaf)) (.two .leaf (.two .leaf (.two (.one (.loop [15, 16, 17, 18, 19, 20, 21, 6, 25, 26, 27, 28, 29, 30, 31, 32, 33, 34, 35, 36, 37, 38, 24, 39, 40, 5, 42, 43, 41, 44, 45, 46, 47, 48, 49, 50, 51, 52, 53, 54, 55, 57, 58, 56, 59, 60, 61, 7, 8, 62, 63, 64, 65, 66, 67, 68, 69, 70, 71, 72, 2, 73, 74, 75, 76, 77, 78, 79, 80, 81, 82, 4, 83, 85, 86, 84, 87, 88, 89, 9, 90, 91, 92, 93, 94, 10, 95, 96, 97, 98, 99, 100, 101, 102, 103, 104, 105, 106, 107, 108, 109, 111, 112, 113, 114, 115, 116, 117, 118, 119, 120, 121, 122, 123, 124, 125, 126, 110, 127, 128, 129, 130, 131, 132, 133, 135, 136, 137, 138, 139, 140, 141, 142, 143, 144, 145, 146, 147, 148, 149, 150, 151, 152, 153, 154, 155, 156, 157, 158, 159, 160, 161, 162, 163, 164, 165, 166, 167, 168, 169, 170, 171, 172, 173, 174, 175, 176, 134, 177, 178, 179, 180, 181, 182, 183, 184, 185, 186, 187, 188, 22, 23] [5, 4] (.two (.two .leaf (.two .leaf .leaf)) (.join [19, 20, 21, 6, 25, 26, 27, 28, 29, 30, 31, 32, 33, 34, 35, 36, 37, 38, 24, 39, 40, 5, 42, 43, 41, 44, 45, 46, 47, 48, 49, 50, 51, 52, 53, 54, 55, 57, 58, 56, 59, 60, 61, 7, 8, 62, 63, 64, 65, 66, 67, 68, 69, 70, 71, 72, 2, 73, 74, 75, 76, 77, 78, 79, 80, 81, 82, 4, 83, 85, 86, 84, 87, 88, 89, 9, 90, 91, 92, 93, 94, 10, 95, 96, 97, 98, 99, 100, 101, 102, 103, 104, 105, 106, 107, 108, 109, 111, 112, 113, 114, 115, 116, 117, 118, 119, 120, 121, 122, 123, 124, 125, 126, 110, 127, 128, 129, 130, 131, 132, 133, 135, 136, 137, 138, 139, 140, 141, 142, 143, 144, 145, 146, 147, 148, 149, 150, 151, 152, 153, 154, 155, 156, 157, 158, 159, 160, 161, 162, 163, 164, 165, 166, 167, 168, 169, 170, 171, 172, 173, 174, 175, 176, 134, 177, 178, 179, 180, 181, 182, 183, 184, 185, 186, 187, 188, 22, 23] [5, 4] (.one (.two .leaf (.join [25, 26, 27, 28, 29, 30, 31, 32, 33, 34, 35, 36, 37, 38, 24, 39, 40, 5, 42, 43, 41, 44, 45, 46, 47, 48, 49, 50, 51, 52, 53, 54, 55, 57, 58, 56, 59, 60, 61, 7, 8, 62, 63, 64, 65, 66, 67, 68, 69, 70, 71, 72, 2, 73, 74, 75, 76, 77, 78, 79, 80, 81, 82, 4, 83, 85, 86, 84, 87, 88, 89, 9, 90, 91, 92, 93, 94, 10, 95, 96, 97, 98, 99, 100, 101, 102, 103, 104, 105, 106, 107, 108, 109, 111, 112, 113, 114, 115, 116, 117, 118, 119, 120, 121, 122, 123, 124, 125, 126, 110, 127, 128, 129, 130, 131, 132, 133, 135, 136, 137, 138, 139, 140, 141, 142, 143, 144, 145, 146, 147, 148, 149, 150, 151, 152, 153, 154, 155, 156, 157, 158, 159, 160, 161, 162, 163, 164, 165, 166, 167, 168, 169, 170, 171, 172, 173, 174, 175, 176, 134, 177, 178, 179, 180, 181, 182, 183, 184, 185, 186, 187, 188, 22, 23] [5, 4] (.one (.two (.join [25, 26, 27, 28, 29, 30, 31, 32, 33, 34, 35, 36, 37, 38, 24] [24] .leaf) (.join [39, 40, 5, 42, 43, 41, 44, 45, 46, 47, 48, 49, 50, 51, 52, 53, 54, 55, 57, 58, 56, 59, 60, 61, 7, 8, 62, 63, 64, 65, 66, 67, 68, 69, 70, 71, 72, 2, 73, 74, 75, 76, 77, 78, 79, 80, 81, 82, 4, 83, 85, 86, 84, 87, 88, 89, 9, 90, 91, 92, 93, 94, 10, 95, 96, 97, 98, 99, 100, 101, 102, 103, 104, 105, 106, 107, 108, 109, 111, 112, 113, 114, 115, 116, 117, 118, 119, 120, 121, 122, 123, 124, 125, 126, 110, 127, 128, 129, 130, 131, 132, 133, 135, 136, 137, 138, 139, 140, 141, 142, 143, 144, 145, 146, 147, 148, 149, 150, 151, 152, 153, 154, 155, 156, 157, 158, 159, 160, 161, 162, 163, 164, 165, 166, 167, 168, 169, 170, 171, 172, 173, 174, 175, 176, 134, 177, 178, 179, 180, 181, 182, 183, 184, 185, 186, 187, 188, 22, 23] [5, 4] (.two .leaf (.two .leaf (.join [44, 45, 46, 47, 48, 49, 50, 51, 52, 53, 54, 55, 5, 57, 58, 56, 59, 60, 61, 7, 8, 62, 63, 64, 65, 66, 67, 68, 69, 70, 71, 72, 2, 73, 74, 75, 76, 77, 78, 79, 80, 81, 82, 4, 83, 85, 86, 84, 87, 88, 89, 9, 90, 91, 92, 93, 94, 10, 95, 96, 97, 98, 99, 100, 101, 102, 103, 104, 105, 106, 107, 108, 109, 111, 112, 113, 114, 115, 116, 117, 118, 119, 120, 121, 122, 123, 124, 125, 126, 110, 127, 128, 129, 130, 131, 132, 133, 135, 136, 137, 138, 139, 140, 141, 142, 143, 144, 145, 146, 147, 148, 149, 150, 151, 152, 153, 154, 155, 156, 157, 158, 159, 160, 161, 162, 163, 164, 165, 166, 167, 168, 169, 170, 171, 172, 173, 174, 175, 176, 134, 177, 178, 179, 180, 181, 182, 183, 184, 185, 186, 187, 188, 22, 23] [5, 4] (.two (.one (.loop [44, 45, 46, 47, 48, 49, 50, 51, 52, 53, 54, 55, 5] [5] (.two (.two (.jb [44, 45, 46, 47, 48, 49, 50, 51, 52, 53] 53 .leaf) (.two .leaf .leaf)) (.one .leaf)))) (.two .leaf (.join [59, 60, 61, 7, 8, 62, 63, 64, 65, 66, 67, 68, 69, 70, 71, 72, 2, 73, 74, 75, 76, 77, 78, 79, 80, 81, 82, 4, 83, 5, 85, 86, 84, 87, 88, 89, 9, 90, 91, 92, 93, 94, 10, 95, 96, 97, 98, 99, 100, 101, 102, 103, 104, 105, 106, 107, 108, 109, 111, 112, 113, 114, 115, 116, 117, 118, 119, 120, 121, 122, 123, 124, 125, 126, 110, 127, 128, 129, 130, 131, 132, 133, 135, 136, 137, 138, 139, 140, 141, 142, 143, 144, 145, 146, 147, 148, 149, 150, 151, 152, 153, 154, 155, 156, 157, 158, 159, 160, 161, 162, 163, 164, 165, 166, 167, 168, 169, 170, 171, 172, 173, 174, 175, 176, 134, 177, 178, 179, 180, 181, 182, 183, 184, 185, 186, 187, 188, 22, 23] [4, 5] (.two (.two .leaf (.two .leaf (.two (.two .leaf (.join [8, 67, 68, 69, 70, 71, 72, 2] [8] (.two .leaf (.two .leaf (.two (.two .leaf .leaf) .leaf))))) (.two .leaf .leaf)))) (.two .leaf (.join [87, 88, 89, 9, 90, 91, 92, 93, 94, 10, 95, 96, 97, 98, 2, 99, 100, 101, 102, 103, 104, 105, 106, 107, 108, 4, 109, 5, 111, 112, 113, 114, 115, 116, 117, 118, 119, 120, 121, 122, 123, 124, 125, 126, 110, 127, 128, 129, 130, 131, 132, 133, 135, 136, 137, 138, 139, 140, 141, 142, 143, 144, 145, 146, 147, 148, 149, 150, 151, 152, 153, 154, 155, 156, 157, 158, 159, 160, 161, 162, 163, 164, 165, 166, 167, 168, 169, 170, 171, 172, 173, 174, 175, 176, 134, 177, 178, 179, 180, 181, 182, 183, 184, 185, 186, 187, 188, 22, 23] [4, 5] (.two (.two .leaf (.two .leaf (.two (.two .leaf (.two (.two .leaf .leaf) .leaf)) (.two .leaf .leaf)))) (.two (.join [111, 112, 113, 114, 115, 116, 117, 118, 119, 120, 121, 122, 123, 124, 125, 126, 110] [110] .leaf) (.join [127, 128, 129, 130, 131, 4, 132, 133, 5, 135, 136, 137, 138, 139, 140, 141, 142, 143, 144, 145, 146, 147, 148, 149, 150, 151, 152, 153, 154, 155, 156, 157, 158, 159, 160, 161, 162, 163, 164, 165, 166, 167, 168, 169, 170, 171, 172, 173, 174, 175, 176, 134, 177, 178, 179, 180, 181, 182, 183, 184, 185, 186, 187, 188, 22, 23, 2] [4, 5] (.two (.two .leaf .leaf) (.two (.join [135, 136, 137, 138, 139, 140, 141, 142, 143, 144, 145, 146, 147, 148, 149, 150, 151, 152, 153, 154, 155, 156, 157, 158, 159, 160, 161, 162, 163, 164, 165, 166, 167, 168, 169, 170, 171, 172, 173, 174, 175, 176, 134] [134] .leaf) (.two (.two .leaf .leaf) (.two .leaf .leaf)))))))))))))))))))))))))) (.two .leaf .leaf))))))
theorem C_pipewrightref_Scan (ω : Amb) (src_p : Value) (h : Hp) (R : Value → Hp → Prop) (X : List PanicEntry → Hp → Prop) (hk : W_pipewrightref_Scan ω src_p h R X) : CallX Tryd.prog ω 26 [src_p] h R X :=
 callX_of (an := A_pipewrightref_Scan) Tryd.func26 ((show fnX Tryd.prog ω A_pipewrightref_Scan Tryd.f26 [src_p] h R X = W_pipewrightref_Scan ω src_p h R X by kernel_rfl) ▸ hk)

/-- pipewright/token.Scan -/
abbrev n_token_Scan : Nat := 38
def W_token_Scan (ω : Amb) (src_p : Value) (h : Hp) (R : Value → Hp → Prop) (X : List PanicEntry → Hp → Prop) : Prop :=
 asS src_p fun s0 => cond (decide (((ByteArray.size s0 : Int) : Int) > 12000))
 (2 = 2 ∧ (∀ u ∈ [(.int .i64 1), (.int .i64 12000)], one u) ∧ storeK (Array.push h (.cells #[(.int .i64 0), (.int .i64 0)] 28 (0, 0))) ⟨Array.size h, 0, none⟩ [(.int .i64 1), (.int .i64 12000)] fun h1 =>
 ∃ C2, cellsH h1 ⟨Array.size h, 0, none⟩ 2 C2 ∧ R (.tuple #[(.slice none 0 0), (.agg C2.toArray)]) h1)
 (oneK src_p (CallX Tryd.prog ω 74 [(.pointer (some ⟨Array.size (Array.push h (.cells #[(.int .i64 0), (.int .i64 0)] 28 (0, 0))), 0, none⟩))] (Array.push (Array.push h (.cells #[(.int .i64 0), (.int .i64 0)] 28 (0, 0))) (.cells #[src_p, (.int .i64 0), (.slice none 0 0)] 113 (0, 0))) (fun r3 h4 =>
 ∃ (I5 : Hp → Prop) (μ6 : Hp → Nat), I5 h4 ∧ ∀  (d7 : Nat → Value) (h8 : Hp), I5 h8 →
 ∃ v9, cellH h8 (Addr.add ⟨Array.size (Array.push h (.cells #[(.int .i64 0), (.int .i64 0)] 28 (0, 0))), 0, none⟩ 1) = some v9 ∧
 asS src_p fun s10 => asK .i64 v9 fun n11 => cond (decide ((n11 : Int) < (ByteArray.size s10 : Int)))
 (∃ v12, cellH h8 (Addr.add ⟨Array.size (Array.push h (.cells #[(.int .i64 0), (.int .i64 0)] 28 (0, 0))), 0, none⟩ 1) = some v12 ∧
 CallX Tryd.prog ω 75 [(.pointer (some ⟨Array.size (Array.push h (.cells #[(.int .i64 0), (.int .i64 0)] 28 (0, 0))), 0, none⟩))] h8 (fun r13 h14 =>
 asK .i64 r13 fun n15 => cond (n15 != (0 : Int))
 (oneK r13 (oneK v12 (2 = 2 ∧ (∀ u ∈ [r13, v12], one u) ∧ storeK h14 ⟨Array.size h, 0, none⟩ [r13, v12] fun h16 =>
 ∃ C17, cellsH h16 ⟨Array.size h, 0, none⟩ 2 C17 ∧ R (.tuple #[(.slice none 0 0), (.agg C17.toArray)]) h16)))
 (CallX Tryd.prog ω 74 [(.pointer (some ⟨Array.size (Array.push h (.cells #[(.int .i64 0), (.int .i64 0)] 28 (0, 0))), 0, none⟩))] h14 (fun r18 h19 =>
 I5 h19 ∧ μ6 h19 < μ6 h8) X)) X)
 (∃ v20, cellH h8 (Addr.add ⟨Array.size (Array.push h (.cells #[(.int .i64 0), (.int .i64 0)] 28 (0, 0))), 0, none⟩ 2) = some v20 ∧
 2 = 2 ∧ (∀ u ∈ [(.int .i64 0), (.int .i64 0)], one u) ∧ storeK h8 ⟨Array.size h, 0, none⟩ [(.int .i64 0), (.int .i64 0)] fun h21 =>
 ∃ C22, cellsH h21 ⟨Array.size h, 0, none⟩ 2 C22 ∧ R (.tuple #[v20, (.agg C22.toArray)]) h21)) X))
def A_token_Scan : Ann :=
 (.two .leaf (.two (.two .leaf (.two (.two .leaf .leaf) .leaf)) (.two .leaf (.two (.two .leaf (.one (.loop [16, 17, 18, 19, 20, 21, 22, 25, 26, 27, 28, 5, 29, 30, 6, 31, 32, 33, 34, 35, 2, 23, 24] [] (.two (.two .leaf (.two .leaf .leaf)) (.two (.one (.two .leaf (.two .leaf (.two .leaf (.two (.two .leaf .leaf) .leaf))))) .leaf))))) (.two .leaf .leaf)))))
theorem C_token_Scan (ω : Amb) (src_p : Value) (h : Hp) (R : Value → Hp → Prop) (X : List PanicEntry → Hp → Prop) (hk : W_token_Scan ω src_p h R X) : CallX Tryd.prog ω 38 [src_p] h R X :=
 callX_of (an := A_token_Scan) Tryd.func38 ((show fnX Tryd.prog ω A_token_Scan Tryd.f38 [src_p] h R X = W_token_Scan ω src_p h R X by kernel_rfl) ▸ hk)

/-- pipewright/pipewrightref.num -/
abbrev n_pipewrightref_num : Nat := 56
def W_pipewrightref_num (ω : Amb) (s_p : Value) (h : Hp) (R : Value → Hp → Prop) (X : List PanicEntry → Hp → Prop) : Prop :=
 ∃ β0 : Bool,
 (asS s_p fun s2 => cond (decide (((ByteArray.size s2 : Int) : Int) > 18))
 (((.bool true) : Value) = .bool β0 ∧ h = h)
 (asS s_p fun s3 => cond (decide (((ByteArray.size s3 : Int) : Int) > 1))
 (asS s_p fun s4 => 0 ≤ (0 : Int) ∧ 0 < (ByteArray.size s4 : Int) ∧ ((.bool ((byteAt s4 0) == (48 : Int))) : Value) = .bool β0 ∧ h = h)
 (((.bool false) : Value) = .bool β0 ∧ h = h))) ∧
 ∀ d1 : Nat → Value,
 cond β0
 (R (.int .i64 (-1)) h)
 (∃ (I5 : Value → Value → Hp → Prop) (μ6 : Value → Value → Hp → Nat), I5 (.int .i64 0) (.int .i64 0) h ∧ ∀ n_7 i_8 (d9 : Nat → Value) (h10 : Hp), I5 n_7 i_8 h10 →
 asS s_p fun s11 => asK .i64 i_8 fun n12 => cond (decide ((n12 : Int) < (ByteArray.size s11 : Int)))
 (asS s_p fun s13 => asI i_8 fun n14 => 0 ≤ (n14 : Int) ∧ n14 < (ByteArray.size s13 : Int) ∧ CallX Tryd.prog ω 55 [(.int .u8 (byteAt s13 n14))] h10 (fun r15 h16 =>
 asB r15 fun b17 => cond (!b17)
 (R (.int .i64 (-1)) h16)
 (asK .i64 n_7 fun n18 => asS s_p fun s19 => asI i_8 fun n20 => 0 ≤ (n20 : Int) ∧ n20 < (ByteArray.size s19 : Int) ∧ asK .i64 i_8 fun n21 => I5 (.int .i64 (IntKind.wrap .i64 ((IntKind.wrap .i64 (10 * n18)) + (IntKind.wrap .i64 (IntKind.wrap .u8 ((byteAt s19 n20) - 48)))))) (.int .i64 (IntKind.wrap .i64 (n21 + 1))) h16 ∧ μ6 (.int .i64 (IntKind.wrap .i64 ((IntKind.wrap .i64 (10 * n18)) + (IntKind.wrap .i64 (IntKind.wrap .u8 ((byteAt s19 n20) - 48)))))) (.int .i64 (IntKind.wrap .i64 (n21 + 1))) h16 < μ6 n_7 i_8 h10)) X)
 (R n_7 h10))
def A_pipewrightref_num : Ann :=
 (.two .leaf (.two (.two (.jb [5, 6, 7, 8, 9, 10, 11, 12, 13, 14, 15, 16, 17] 17 .leaf) (.two (.two .leaf .leaf) .leaf)) (.two .leaf (.two (.two .leaf (.one (.loop [18, 19, 20, 21, 24, 25, 26, 27, 28, 2, 29, 30, 31, 32, 33, 34, 35, 36, 3, 22, 23, 4] [3, 4] (.two (.two .leaf (.two .leaf .leaf)) (.two (.one (.two (.two .leaf (.two (.two .leaf .leaf) .leaf)) .leaf)) .leaf))))) (.two .leaf .leaf)))))
theorem C_pipewrightref_num (ω : Amb) (s_p : Value) (h : Hp) (R : Value → Hp → Prop) (X : List PanicEntry → Hp → Prop) (hk : W_pipewrightref_num ω s_p h R X) : CallX Tryd.prog ω 56 [s_p] h R X :=
 callX_of (an := A_pipewrightref_num) Tryd.func56 ((show fnX Tryd.prog ω A_pipewrightref_num Tryd.f56 [s_p] h R X = W_pipewrightref_num ω s_p h R X by kernel_rfl) ▸ hk)

/-- (*pipewright/token.scanner).blank -/
abbrev n_p_token_scanner_blank : Nat := 74
def W_p_token_scanner_blank (ω : Amb) (s_p : Value) (h : Hp) (R : Value → Hp → Prop) (X : List PanicEntry → Hp → Prop) : Prop :=
 ∃ (I0 : Value → Hp → Prop) (μ1 : Value → Hp → Nat), I0 (.bool false) h ∧ ∀ remark_2 (d3 : Nat → Value) (h4 : Hp), I0 remark_2 h4 →
 nnK s_p (asP s_p fun p5 =>
 ∃ v6, cellH h4 (Addr.add p5 1) = some v6 ∧
 nnK s_p (asP s_p fun p7 =>
 ∃ v8, cellH h4 (Addr.add p7 0) = some v8 ∧
 asS v8 fun s9 => asK .i64 v6 fun n10 => cond (decide ((n10 : Int) < (ByteArray.size s9 : Int)))
 (nnK s_p (asP s_p fun p11 =>
 ∃ v12, cellH h4 (Addr.add p11 0) = some v12 ∧
 nnK s_p (asP s_p fun p13 =>
 ∃ v14, cellH h4 (Addr.add p13 1) = some v14 ∧
 asS v12 fun s15 => asI v14 fun n16 => 0 ≤ (n16 : Int) ∧ n16 < (ByteArray.size s15 : Int) ∧ ∃ J17 : Value → Hp → Prop,
 (∃ J21 : Value → Hp → Prop,
 (cond ((byteAt s15 n16) == (10 : Int))
 (J21 (.bool false) h4)
 (∃ J25 : Value → Hp → Prop,
 (asB remark_2 fun b29 => cond b29
 (J25 remark_2 h4)
 (∃ J30 : Value → Hp → Prop,
 (cond ((byteAt s15 n16) == (32 : Int))
 (J30 (.bool ((byteAt s15 n16) == (32 : Int))) h4)
 (∃ J34 : Value → Hp → Prop,
 (cond ((byteAt s15 n16) == (9 : Int))
 (J34 (.bool ((byteAt s15 n16) == (9 : Int))) h4)
 (J34 (.bool ((byteAt s15 n16) == (13 : Int))) h4)) ∧
 ∀ t26_35 (d36 : Nat → Value) (h37 : Hp), J34 t26_35 h37 →
 J30 t26_35 h37)) ∧
 ∀ t26_31 (d32 : Nat → Value) (h33 : Hp), J30 t26_31 h33 →
 J25 t26_31 h33)) ∧
 ∀ t26_26 (d27 : Nat → Value) (h28 : Hp), J25 t26_26 h28 →
 ∃ J38 : Value → Hp → Prop,
 (asB t26_26 fun b42 => cond b42
 (J38 remark_2 h28)
 (cond ((byteAt s15 n16) == (35 : Int))
 (J38 (.bool true) h28)
 (R (.tuple #[]) h28))) ∧
 ∀ remark_39 (d40 : Nat → Value) (h41 : Hp), J38 remark_39 h41 →
 J21 remark_39 h41)) ∧
 ∀ remark_22 (d23 : Nat → Value) (h24 : Hp), J21 remark_22 h24 →
 J17 remark_22 h24) ∧
 ∀ remark_18 (d19 : Nat → Value) (h20 : Hp), J17 remark_18 h20 →
 nnK s_p (asP s_p fun p43 =>
 ∃ v44, cellH h20 (Addr.add p43 1) = some v44 ∧
 asK .i64 v44 fun n45 => nnK s_p (asP s_p fun p46 =>
 storeK1 h20 (Addr.add p46 1) (.int .i64 (IntKind.wrap .i64 (n45 + 1))) fun h47 =>
 I0 remark_18 h47 ∧ μ1 remark_18 h47 < μ1 remark_2 h4)))))
 (R (.tuple #[]) h4)))
def A_p_token_scanner_blank : Ann :=
 (.two .leaf (.one (.loop [4, 5, 6, 7, 8, 9, 10, 11, 12, 13, 14, 15, 16, 17, 18, 19, 20, 21, 22, 3, 24, 25, 23, 2, 27, 26, 28, 29, 30, 31, 32, 33, 35, 36, 34, 37, 38, 39, 40, 41, 42, 43] [2] (.two (.two (.plan [0, 1, 2, 3, 4, 5, 6, 7, 8, 9]) (.two .leaf .leaf)) (.one (.two (.two (.plan [0, 1, 2, 3, 4, 5, 6, 7, 8, 9]) (.join [24, 25, 23, 2, 27, 26, 28, 29, 30, 31, 32, 33, 35, 36, 34] [2] (.one (.two .leaf (.join [2, 27, 26, 28, 29, 30, 31, 32, 33, 35, 36, 34] [2] (.two .leaf (.two (.two .leaf (.join [28, 29, 26, 30, 31, 32, 33] [26] (.two .leaf (.two .leaf (.join [30, 31, 26, 32, 33] [26] (.two .leaf (.two .leaf (.join [32, 33, 26] [26] (.two .leaf .leaf))))))))) (.join [35, 36, 34, 2] [2] (.two .leaf (.two .leaf (.two .leaf .leaf))))))))))) .leaf))))))
theorem C_p_token_scanner_blank (ω : Amb) (s_p : Value) (h : Hp) (R : Value → Hp → Prop) (X : List PanicEntry → Hp → Prop) (hk : W_p_token_scanner_blank ω s_p h R X) : CallX Tryd.prog ω 74 [s_p] h R X :=
 callX_of (an := A_p_token_scanner_blank) Tryd.func74 ((show fnX Tryd.prog ω A_p_token_scanner_blank Tryd.f74 [s_p] h R X = W_p_token_scanner_blank ω s_p h R X by kernel_rfl) ▸ hk)

/-- (*pipewright/token.scanner).one -/
abbrev n_p_token_scanner_one : Nat := 75
def W_p_token_scanner_one (ω : Amb) (s_p : Value) (h : Hp) (R : Value → Hp → Prop) (X : List PanicEntry → Hp → Prop) : Prop :=
 nnK s_p (asP s_p fun p0 =>
 ∃ v1, cellH h (Addr.add p0 1) = some v1 ∧
 oneK v1 (4 = 4 ∧ (∀ u ∈ [(.int .i64 0), v1, (.string ⟨#[]⟩), (.int .i64 0)], one u) ∧ storeK (Array.push h (.cells #[(.int .i64 0), (.int .i64 0), (.string ⟨#[]⟩), (.int .i64 0)] 46 (0, 0))) ⟨Array.size h, 0, none⟩ [(.int .i64 0), v1, (.string ⟨#[]⟩), (.int .i64 0)] fun h2 =>
 nnK s_p (asP s_p fun p3 =>
 ∃ v4, cellH h2 (Addr.add p3 0) = some v4 ∧
 nnK s_p (asP s_p fun p5 =>
 ∃ v6, cellH h2 (Addr.add p5 1) = some v6 ∧
 asS v4 fun s7 => asI v6 fun n8 => 0 ≤ (n8 : Int) ∧ n8 < (ByteArray.size s7 : Int) ∧ ∃ J9 : Hp → Prop,
 (CallX Tryd.prog ω 96 [(.int .u8 (byteAt s7 n8))] h2 (fun r12 h13 =>
 ∃ J14 : Hp → Prop,
 (asB r12 fun b17 => cond b17
 (CallX Tryd.prog ω 97 [s_p] h13 (fun r18 h19 =>
 oneK r18 (storeK1 h19 (Addr.add ⟨Array.size h, 0, none⟩ 2) r18 fun h20 =>
 storeK1 h20 (Addr.add ⟨Array.size h, 0, none⟩ 0) (.int .i64 2) fun h21 =>
 ∃ v22, cellH h21 (Addr.add ⟨Array.size h, 0, none⟩ 2) = some v22 ∧
 CallX Tryd.prog ω 98 [v22] h21 (fun r23 h24 =>
 ∃ J25 : Hp → Prop,
 (asB r23 fun b28 => cond b28
 (storeK1 h24 (Addr.add ⟨Array.size h, 0, none⟩ 0) (.int .i64 1) fun h29 =>
 J25 h29)
 (∃ v30, cellH h24 (Addr.add ⟨Array.size h, 0, none⟩ 2) = some v30 ∧
 asS v30 fun s31 => cond (decide (((ByteArray.size s31 : Int) : Int) > 12))
 (R (.int .i64 4) h24)
 (J25 h24))) ∧
 ∀  (d26 : Nat → Value) (h27 : Hp), J25 h27 →
 J14 h27) X)) X)
 (CallX Tryd.prog ω 99 [(.int .u8 (byteAt s7 n8))] h13 (fun r32 h33 =>
 ∃ J34 : Hp → Prop,
 (asB r32 fun b37 => cond b37
 (CallX Tryd.prog ω 97 [s_p] h33 (fun r38 h39 =>
 oneK r38 (storeK1 h39 (Addr.add ⟨Array.size h, 0, none⟩ 2) r38 fun h40 =>
 ∃ v41, cellH h40 (Addr.add ⟨Array.size h, 0, none⟩ 2) = some v41 ∧
 CallX Tryd.prog ω 100 [v41] h40 (fun r42 h43 =>
 asT r42 fun T44 => asO T44[0]? fun v45 => asT r42 fun T46 => asO T46[1]? fun v47 => asB v47 fun b48 => cond (!b48)
 (R (.int .i64 3) h43)
 (storeK1 h43 (Addr.add ⟨Array.size h, 0, none⟩ 0) (.int .i64 3) fun h49 =>
 oneK v45 (storeK1 h49 (Addr.add ⟨Array.size h, 0, none⟩ 3) v45 fun h50 =>
 J34 h50))) X)) X)
 (CallX Tryd.prog ω 101 [s_p] h33 (fun r51 h52 =>
 storeK1 h52 (Addr.add ⟨Array.size h, 0, none⟩ 0) (.int .i64 4) fun h53 =>
 oneK r51 (storeK1 h53 (Addr.add ⟨Array.size h, 0, none⟩ 2) r51 fun h54 =>
 ∃ v55, cellH h54 (Addr.add ⟨Array.size h, 0, none⟩ 2) = some v55 ∧
 asS v55 fun s56 => cond (ByteArray.toList s56 == ByteArray.toList ⟨#[]⟩)
 (R (.int .i64 2) h54)
 (nnK s_p (asP s_p fun p57 =>
 ∃ v58, cellH h54 (Addr.add p57 1) = some v58 ∧
 ∃ v59, cellH h54 (Addr.add ⟨Array.size h, 0, none⟩ 2) = some v59 ∧
 asS v59 fun s60 => asK .i64 v58 fun n61 => nnK s_p (asP s_p fun p62 =>
 storeK1 h54 (Addr.add p62 1) (.int .i64 (IntKind.wrap .i64 (n61 + (ByteArray.size s60 : Int)))) fun h63 =>
 J34 h63))))) X)) ∧
 ∀  (d35 : Nat → Value) (h36 : Hp), J34 h36 →
 J14 h36) X)) ∧
 ∀  (d15 : Nat → Value) (h16 : Hp), J14 h16 →
 J9 h16) X) ∧
 ∀  (d10 : Nat → Value) (h11 : Hp), J9 h11 →
 nnK s_p (asP s_p fun p64 =>
 ∃ v65, cellH h11 (Addr.add p64 2) = some v65 ∧
 ∃ C66, cellsH h11 ⟨Array.size h, 0, none⟩ 4 C66 ∧
 C66.toArray.size = 4 ∧ cellH (Array.push h11 (.cells (List.toArray (C66.toArray.toList ++ [])) 46 (0, 0))) (Addr.add p64 2) = some v65 ∧ appK Tryd.prog 42 (Array.push h11 (.cells (List.toArray (C66.toArray.toList ++ [])) 46 (0, 0))) v65 (.slice (some ⟨Array.size h11, 0, none⟩) 1 1) fun w67 h68 =>
 nnK s_p (asP s_p fun p69 =>
 oneK w67 (storeK1 h68 (Addr.add p69 2) w67 fun h70 =>
 R (.int .i64 0) h70)))))))
def A_p_token_scanner_one : Ann :=
 (.two .leaf (.two .leaf (.two (.two (.plan [0, 1, 2, 3, 4, 5, 6, 7, 8, 9]) (.join [39, 40, 38, 41, 42, 43, 44, 45, 46, 47, 48, 49, 50, 51, 52, 2, 54, 55, 53, 56, 57, 58, 60, 61, 62, 59, 63, 64, 5, 6, 65, 66, 67, 68, 69, 21, 22, 23, 24, 25, 26, 27, 28, 29, 30, 31, 32, 33, 34, 35, 36, 37] [] (.one (.two .leaf (.join [41, 42, 43, 44, 45, 46, 47, 48, 49, 50, 51, 52, 2, 54, 55, 53, 56, 57, 58, 60, 61, 62, 59, 63, 64, 5, 6, 65, 66, 67, 68, 69, 21, 22, 23, 24, 25, 26, 27, 28, 29, 30, 31, 32, 33, 34, 35, 36, 37] [] (.two (.two .leaf (.two .leaf (.two .leaf (.join [48, 49, 50, 51, 52, 2] [] (.two .leaf (.two .leaf (.two (.two .leaf .leaf) .leaf))))))) (.two .leaf (.join [56, 57, 58, 60, 61, 62, 59, 63, 64, 5, 6, 65, 66, 2, 67, 68, 69, 21, 22, 23, 24, 25, 26, 27, 28, 29, 30, 31, 32, 33, 34, 35, 36, 37] [] (.two (.two .leaf (.two .leaf (.two (.two .leaf (.two (.two .leaf .leaf) .leaf)) .leaf))) (.two .leaf (.two (.two .leaf (.two (.two .leaf .leaf) .leaf)) (.plan [0, 1, 2, 3, 4, 5, 6, 7, 8, 9, 10])))))))))))) (.two (.plan [0, 1, 2, 3, 4, 5, 6, 7, 8, 9, 10]) (.two .leaf .leaf)))))
theorem C_p_token_scanner_one (ω : Amb) (s_p : Value) (h : Hp) (R : Value → Hp → Prop) (X : List PanicEntry → Hp → Prop) (hk : W_p_token_scanner_one ω s_p h R X) : CallX Tryd.prog ω 75 [s_p] h R X :=
 callX_of (an := A_p_token_scanner_one) Tryd.func75 ((show fnX Tryd.prog ω A_p_token_scanner_one Tryd.f75 [s_p] h R X = W_p_token_scanner_one ω s_p h R X by kernel_rfl) ▸ hk)

/-- (*pipewright/token.scanner).run -/
abbrev n_p_token_scanner_run : Nat := 97
def W_p_token_scanner_run (ω : Amb) (s_p : Value) (h : Hp) (R : Value → Hp → Prop) (X : List PanicEntry → Hp → Prop) : Prop :=
 nnK s_p (asP s_p fun p0 =>
 ∃ v1, cellH h (Addr.add p0 1) = some v1 ∧
 ∃ (I2 : Hp → Prop) (μ3 : Hp → Nat), I2 h ∧ ∀  (d4 : Nat → Value) (h5 : Hp), I2 h5 →
 ∃ J6 : Value → Hp → Prop,
 (nnK s_p (asP s_p fun p10 =>
 ∃ v11, cellH h5 (Addr.add p10 1) = some v11 ∧
 nnK s_p (asP s_p fun p12 =>
 ∃ v13, cellH h5 (Addr.add p12 0) = some v13 ∧
 asS v13 fun s14 => asK .i64 v11 fun n15 => cond (decide ((n15 : Int) < (ByteArray.size s14 : Int)))
 (nnK s_p (asP s_p fun p16 =>
 ∃ v17, cellH h5 (Addr.add p16 0) = some v17 ∧
 nnK s_p (asP s_p fun p18 =>
 ∃ v19, cellH h5 (Addr.add p18 1) = some v19 ∧
 asS v17 fun s20 => asI v19 fun n21 => 0 ≤ (n21 : Int) ∧ n21 < (ByteArray.size s20 : Int) ∧ CallX Tryd.prog ω 96 [(.int .u8 (byteAt s20 n21))] h5 (fun r22 h23 =>
 asB r22 fun b24 => cond b24
 (J6 (.bool true) h23)
 (nnK s_p (asP s_p fun p25 =>
 ∃ v26, cellH h23 (Addr.add p25 0) = some v26 ∧
 nnK s_p (asP s_p fun p27 =>
 ∃ v28, cellH h23 (Addr.add p27 1) = some v28 ∧
 asS v26 fun s29 => asI v28 fun n30 => 0 ≤ (n30 : Int) ∧ n30 < (ByteArray.size s29 : Int) ∧ CallX Tryd.prog ω 99 [(.int .u8 (byteAt s29 n30))] h23 (fun r31 h32 =>
 J6 r31 h32) X)))) X)))
 (J6 (.bool false) h5)))) ∧
 ∀ t41_7 (d8 : Nat → Value) (h9 : Hp), J6 t41_7 h9 →
 asB t41_7 fun b33 => cond b33
 (nnK s_p (asP s_p fun p34 =>
 ∃ v35, cellH h9 (Addr.add p34 1) = some v35 ∧
 asK .i64 v35 fun n36 => nnK s_p (asP s_p fun p37 =>
 storeK1 h9 (Addr.add p37 1) (.int .i64 (IntKind.wrap .i64 (n36 + 1))) fun h38 =>
 I2 h38 ∧ μ3 h38 < μ3 h5)))
 (nnK s_p (asP s_p fun p39 =>
 ∃ v40, cellH h9 (Addr.add p39 0) = some v40 ∧
 nnK s_p (asP s_p fun p41 =>
 ∃ v42, cellH h9 (Addr.add p41 1) = some v42 ∧
 asS v40 fun s43 => asI v1 fun n44 => asI v42 fun n45 => 0 ≤ (n44 : Int) ∧ (n44 : Int) ≤ n45 ∧ n45 ≤ (ByteArray.size s43 : Int) ∧ R (.string (ByteArray.extract s43 (Int.toNat n44) (Int.toNat n45))) h9))))
def A_p_token_scanner_run : Ann :=
 (.two .leaf (.two .leaf (.two (.one (.loop [8, 9, 10, 11, 12, 13, 14, 15, 16, 17, 18, 19, 20, 21, 22, 23, 24, 25, 26, 27, 28, 29, 30, 31, 32, 33, 34, 35, 36, 37, 38, 39, 40, 41, 42, 43, 44, 45, 46, 47, 48] [] (.two (.two (.join [8, 9, 10, 11, 12, 13, 14, 15, 16, 17, 18, 19, 20, 21, 22, 23, 24, 25, 26, 27, 28, 29, 30, 31, 32, 33, 34, 35, 36, 37, 38, 39, 40, 41] [41] (.plan [0, 1, 2, 3, 4, 5, 6, 7, 8, 9, 10, 11, 12, 13, 14, 15, 16, 17, 18, 19, 20, 21, 22, 23, 24, 25, 26, 27, 28, 29, 30, 31, 32, 33])) (.two .leaf .leaf)) (.one .leaf)))) (.two (.plan [0, 1, 2, 3, 4, 5, 6, 7, 8, 9, 10]) .leaf))))
theorem C_p_token_scanner_run (ω : Amb) (s_p : Value) (h : Hp) (R : Value → Hp → Prop) (X : List PanicEntry → Hp → Prop) (hk : W_p_token_scanner_run ω s_p h R X) : CallX Tryd.prog ω 97 [s_p] h R X :=
 callX_of (an := A_p_token_scanner_run) Tryd.func97 ((show fnX Tryd.prog ω A_p_token_scanner_run Tryd.f97 [s_p] h R X = W_p_token_scanner_run ω s_p h R X by kernel_rfl) ▸ hk)

/-- pipewright/token.number -/
abbrev n_token_number : Nat := 100
def W_token_number (ω : Amb) (s_p : Value) (h : Hp) (R : Value → Hp → Prop) (X : List PanicEntry → Hp → Prop) : Prop :=
 ∃ β0 : Bool,
 (asS s_p fun s2 => cond (decide (((ByteArray.size s2 : Int) : Int) > 18))
 (((.bool true) : Value) = .bool β0 ∧ h = h)
 (asS s_p fun s3 => cond (decide (((ByteArray.size s3 : Int) : Int) > 1))
 (asS s_p fun s4 => 0 ≤ (0 : Int) ∧ 0 < (ByteArray.size s4 : Int) ∧ ((.bool ((byteAt s4 0) == (48 : Int))) : Value) = .bool β0 ∧ h = h)
 (((.bool false) : Value) = .bool β0 ∧ h = h))) ∧
 ∀ d1 : Nat → Value,
 cond β0
 (R (.tuple #[(.int .i64 0), (.bool false)]) h)
 (asS s_p fun s5 => ∃ (I6 : Value → Hp → Prop) (μ7 : Value → Hp → Nat), I6 (.int .i64 0) h ∧ ∀ t22_8 (d9 : Nat → Value) (h10 : Hp), I6 t22_8 h10 →
 asK .i64 t22_8 fun n11 => cond (decide ((n11 : Int) < (ByteArray.size s5 : Int)))
 (asS s_p fun s12 => asI t22_8 fun n13 => 0 ≤ (n13 : Int) ∧ n13 < (ByteArray.size s12 : Int) ∧ CallX Tryd.prog ω 99 [(.int .u8 (byteAt s12 n13))] h10 (fun r14 h15 =>
 asB r14 fun b16 => cond (!b16)
 (R (.tuple #[(.int .i64 0), (.bool false)]) h15)
 (asK .i64 t22_8 fun n17 => I6 (.int .i64 (IntKind.wrap .i64 (n17 + 1))) h15 ∧ μ7 (.int .i64 (IntKind.wrap .i64 (n17 + 1))) h15 < μ7 t22_8 h10)) X)
 (CallX Tryd.prog ω 120 [s_p, (.int .i64 10), (.int .i64 64)] h10 (fun r18 h19 =>
 asT r18 fun T20 => asO T20[0]? fun v21 => asT r18 fun T22 => asO T22[1]? fun v23 => asIf v23 fun b24 => R (.tuple #[v21, (.bool b24)]) h19) X))
def A_token_number : Ann :=
 (.two .leaf (.two (.two (.jb [7, 8, 9, 10, 11, 12, 13, 14, 15, 16, 17, 18, 19] 19 .leaf) (.two (.two .leaf .leaf) .leaf)) (.two (.two .leaf (.one (.loop [23, 24, 4, 25, 26, 27, 28, 29, 2, 3, 30, 22] [22] (.two .leaf (.two (.two .leaf .leaf) (.two (.one (.two .leaf (.two .leaf (.two (.two .leaf .leaf) .leaf)))) .leaf)))))) (.two .leaf (.two (.plan [0, 1, 2, 3, 4]) .leaf)))))
theorem C_token_number (ω : Amb) (s_p : Value) (h : Hp) (R : Value → Hp → Prop) (X : List PanicEntry → Hp → Prop) (hk : W_token_number ω s_p h R X) : CallX Tryd.prog ω 100 [s_p] h R X :=
 callX_of (an := A_token_number) Tryd.func100 ((show fnX Tryd.prog ω A_token_number Tryd.f100 [s_p] h R X = W_token_number ω s_p h R X by kernel_rfl) ▸ hk)

/-- (*pipewright/token.scanner).sign -/
abbrev n_p_token_scanner_sign : Nat := 101
def W_p_token_scanner_sign (ω : Amb) (s_p : Value) (h : Hp) (R : Value → Hp → Prop) (X : List PanicEntry → Hp → Prop) : Prop :=
 nnK s_p (asP s_p fun p0 =>
 ∃ v1, cellH h (Addr.add p0 0) = some v1 ∧
 nnK s_p (asP s_p fun p2 =>
 ∃ v3, cellH h (Addr.add p2 1) = some v3 ∧
 asS v1 fun s4 => asI v3 fun n5 => 0 ≤ (n5 : Int) ∧ n5 < (ByteArray.size s4 : Int) ∧ cond ((byteAt s4 n5) == (61 : Int))
 (∃ β6 : Bool,
 (nnK s_p (asP s_p fun p8 =>
 ∃ v9, cellH h (Addr.add p8 1) = some v9 ∧
 asK .i64 v9 fun n10 => nnK s_p (asP s_p fun p11 =>
 ∃ v12, cellH h (Addr.add p11 0) = some v12 ∧
 asS v12 fun s13 => cond (decide (((IntKind.wrap .i64 (n10 + 1)) : Int) < (ByteArray.size s13 : Int)))
 (nnK s_p (asP s_p fun p14 =>
 ∃ v15, cellH h (Addr.add p14 0) = some v15 ∧
 nnK s_p (asP s_p fun p16 =>
 ∃ v17, cellH h (Addr.add p16 1) = some v17 ∧
 asK .i64 v17 fun n18 => asS v15 fun s19 => 0 ≤ ((IntKind.wrap .i64 (n18 + 1)) : Int) ∧ (IntKind.wrap .i64 (n18 + 1)) < (ByteArray.size s19 : Int) ∧ ((.bool ((byteAt s19 (IntKind.wrap .i64 (n18 + 1))) == (61 : Int))) : Value) = .bool β6 ∧ h = h)))
 (((.bool false) : Value) = .bool β6 ∧ h = h)))) ∧
 ∀ d7 : Nat → Value,
 cond β6
 (R (.string ⟨#[61, 61]⟩) h)
 (R (.string ⟨#[61]⟩) h))
 (∃ J20 : Value → Hp → Prop,
 (cond ((byteAt s4 n5) == (40 : Int))
 (J20 (.bool ((byteAt s4 n5) == (40 : Int))) h)
 (∃ J24 : Value → Hp → Prop,
 (cond ((byteAt s4 n5) == (41 : Int))
 (J24 (.bool ((byteAt s4 n5) == (41 : Int))) h)
 (∃ J28 : Value → Hp → Prop,
 (cond ((byteAt s4 n5) == (123 : Int))
 (J28 (.bool ((byteAt s4 n5) == (123 : Int))) h)
 (∃ J32 : Value → Hp → Prop,
 (cond ((byteAt s4 n5) == (125 : Int))
 (J32 (.bool ((byteAt s4 n5) == (125 : Int))) h)
 (∃ J36 : Value → Hp → Prop,
 (cond ((byteAt s4 n5) == (44 : Int))
 (J36 (.bool ((byteAt s4 n5) == (44 : Int))) h)
 (∃ J40 : Value → Hp → Prop,
 (cond ((byteAt s4 n5) == (59 : Int))
 (J40 (.bool ((byteAt s4 n5) == (59 : Int))) h)
 (∃ J44 : Value → Hp → Prop,
 (cond ((byteAt s4 n5) == (43 : Int))
 (J44 (.bool ((byteAt s4 n5) == (43 : Int))) h)
 (∃ J48 : Value → Hp → Prop,
 (cond ((byteAt s4 n5) == (45 : Int))
 (J48 (.bool ((byteAt s4 n5) == (45 : Int))) h)
 (∃ J52 : Value → Hp → Prop,
 (cond ((byteAt s4 n5) == (42 : Int))
 (J52 (.bool ((byteAt s4 n5) == (42 : Int))) h)
 (J52 (.bool ((byteAt s4 n5) == (60 : Int))) h)) ∧
 ∀ t40_53 (d54 : Nat → Value) (h55 : Hp), J52 t40_53 h55 →
 J48 t40_53 h55)) ∧
 ∀ t40_49 (d50 : Nat → Value) (h51 : Hp), J48 t40_49 h51 →
 J44 t40_49 h51)) ∧
 ∀ t40_45 (d46 : Nat → Value) (h47 : Hp), J44 t40_45 h47 →
 J40 t40_45 h47)) ∧
 ∀ t40_41 (d42 : Nat → Value) (h43 : Hp), J40 t40_41 h43 →
 J36 t40_41 h43)) ∧
 ∀ t40_37 (d38 : Nat → Value) (h39 : Hp), J36 t40_37 h39 →
 J32 t40_37 h39)) ∧
 ∀ t40_33 (d34 : Nat → Value) (h35 : Hp), J32 t40_33 h35 →
 J28 t40_33 h35)) ∧
 ∀ t40_29 (d30 : Nat → Value) (h31 : Hp), J28 t40_29 h31 →
 J24 t40_29 h31)) ∧
 ∀ t40_25 (d26 : Nat → Value) (h27 : Hp), J24 t40_25 h27 →
 J20 t40_25 h27)) ∧
 ∀ t40_21 (d22 : Nat → Value) (h23 : Hp), J20 t40_21 h23 →
 asB t40_21 fun b56 => cond b56
 (R (.string (Utf8.encode (IntKind.wrap .i32 (byteAt s4 n5)))) h23)
 (R (.string ⟨#[]⟩) h23))))
def A_p_token_scanner_sign : Ann :=
 (.two .leaf (.two (.two (.plan [0, 1, 2, 3, 4, 5, 6, 7, 8, 9]) (.two .leaf (.one (.two .leaf (.two (.two (.two (.jb [16, 17, 18, 19, 20, 21, 22, 23, 24, 25, 26, 27, 28, 29, 30, 31, 32, 33, 34, 35, 36, 37, 38, 39] 39 (.plan [0, 1, 2, 3, 4, 5, 6, 7, 8, 9, 10, 11, 12, 13, 14, 15, 16, 17, 18, 19, 20, 21, 22, 23])) (.two (.two .leaf .leaf) .leaf)) (.two .leaf .leaf)) (.two (.two .leaf (.join [42, 40, 43, 44, 45, 46, 47, 48, 49, 50] [40] (.two .leaf (.two .leaf (.join [43, 40, 44, 45, 46, 47, 48, 49, 50] [40] (.two .leaf (.two .leaf (.join [44, 40, 45, 46, 47, 48, 49, 50] [40] (.two .leaf (.two .leaf (.join [45, 40, 46, 47, 48, 49, 50] [40] (.two .leaf (.two .leaf (.join [46, 40, 47, 48, 49, 50] [40] (.two .leaf (.two .leaf (.join [47, 40, 48, 49, 50] [40] (.two .leaf (.two .leaf (.join [48, 40, 49, 50] [40] (.two .leaf (.two .leaf (.join [49, 40, 50] [40] (.two .leaf (.two .leaf (.join [50, 40] [40] (.two .leaf .leaf))))))))))))))))))))))))))) (.two (.two .leaf .leaf) .leaf))))))) (.two .leaf .leaf)))
theorem C_p_token_scanner_sign (ω : Amb) (s_p : Value) (h : Hp) (R : Value → Hp → Prop) (X : List PanicEntry → Hp → Prop) (hk : W_p_token_scanner_sign ω s_p h R X) : CallX Tryd.prog ω 101 [s_p] h R X :=
 callX_of (an := A_p_token_scanner_sign) Tryd.func101 ((show fnX Tryd.prog ω A_p_token_scanner_sign Tryd.f101 [s_p] h R X = W_p_token_scanner_sign ω s_p h R X by kernel_rfl) ▸ hk)

/-- strconv.ParseInt -/
abbrev n_strconv_ParseInt : Nat := 120
def W_strconv_ParseInt (ω : Amb) (s_p base_p bitSize_p : Value) (h : Hp) (R : Value → Hp → Prop) (X : List PanicEntry → Hp → Prop) : Prop :=
 CallX Tryd.prog ω 136 [s_p, base_p, bitSize_p] h (fun r0 h1 =>
 asT r0 fun T2 => asO T2[0]? fun v3 => asT r0 fun T4 => asO T4[1]? fun v5 => asIf v5 fun b6 => cond (!b6)
 (CallX Tryd.prog ω 137 [(.string ⟨#[80, 97, 114, 115, 101, 73, 110, 116]⟩), s_p, base_p, bitSize_p, v5] h1 (fun r7 h8 =>
 R (.tuple #[v3, r7]) h8) X)
 (R (.tuple #[v3, .nilIface]) h1)) X
def A_strconv_ParseInt : Ann :=
 (.two .leaf (.two .leaf (.two (.two .leaf (.two (.two .leaf .leaf) .leaf)) (.two .leaf .leaf))))
theorem C_strconv_ParseInt (ω : Amb) (s_p base_p bitSize_p : Value) (h : Hp) (R : Value → Hp → Prop) (X : List PanicEntry → Hp → Prop) (hk : W_strconv_ParseInt ω s_p base_p bitSize_p h R X) : CallX Tryd.prog ω 120 [s_p, base_p, bitSize_p] h R X :=
 callX_of (an := A_strconv_ParseInt) Tryd.func120 ((show fnX Tryd.prog ω A_strconv_ParseInt Tryd.f120 [s_p, base_p, bitSize_p] h R X = W_strconv_ParseInt ω s_p base_p bitSize_p h R X by kernel_rfl) ▸ hk)

/-- internal/strconv.ParseInt -/
abbrev n_internal_strconv_ParseInt : Nat := 136
def W_internal_strconv_ParseInt (ω : Amb) (s_p base_p bitSize_p : Value) (h : Hp) (R : Value → Hp → Prop) (X : List PanicEntry → Hp → Prop) : Prop :=
 asS s_p fun s0 => cond (ByteArray.toList s0 == ByteArray.toList ⟨#[]⟩)
 (R (.tuple #[(.int .i64 0), (.iface 180 (.int .i64 2))]) h)
 (asS s_p fun s1 => 0 ≤ (0 : Int) ∧ 0 < (ByteArray.size s1 : Int) ∧ ∃ J2 : Value → Value → Hp → Prop,
 (∃ J7 : Value → Value → Hp → Prop,
 (cond ((byteAt s1 0) == (43 : Int))
 (asS s_p fun s12 => 0 ≤ (1 : Int) ∧ (1 : Int) ≤ (ByteArray.size s12 : Int) ∧ (ByteArray.size s12 : Int) ≤ (ByteArray.size s12 : Int) ∧ J7 (.string (ByteArray.extract s12 (Int.toNat 1) (Int.toNat (ByteArray.size s12 : Int)))) (.bool false) h)
 (∃ J13 : Value → Value → Hp → Prop,
 (cond ((byteAt s1 0) == (45 : Int))
 (asS s_p fun s18 => 0 ≤ (1 : Int) ∧ (1 : Int) ≤ (ByteArray.size s18 : Int) ∧ (ByteArray.size s18 : Int) ≤ (ByteArray.size s18 : Int) ∧ J13 (.string (ByteArray.extract s18 (Int.toNat 1) (Int.toNat (ByteArray.size s18 : Int)))) (.bool true) h)
 (J13 s_p (.bool false) h)) ∧
 ∀ s_14 neg_15 (d16 : Nat → Value) (h17 : Hp), J13 s_14 neg_15 h17 →
 J7 s_14 neg_15 h17)) ∧
 ∀ s_8 neg_9 (d10 : Nat → Value) (h11 : Hp), J7 s_8 neg_9 h11 →
 J2 s_8 neg_9 h11) ∧
 ∀ s_3 neg_4 (d5 : Nat → Value) (h6 : Hp), J2 s_3 neg_4 h6 →
 CallX Tryd.prog ω 147 [s_3, base_p, bitSize_p] h6 (fun r19 h20 =>
 asT r19 fun T21 => asO T21[0]? fun v22 => asT r19 fun T23 => asO T23[1]? fun v24 => ∃ β25 : Bool,
 (asIf v24 fun b27 => cond (!b27)
 (False)
 (((.bool false) : Value) = .bool β25 ∧ h20 = h20)) ∧
 ∀ d26 : Nat → Value,
 cond β25
 (R (.tuple #[(.int .i64 0), v24]) h20)
 (asK .i64 bitSize_p fun n28 => ∃ J29 : Value → Hp → Prop,
 (cond (n28 == (0 : Int))
 (J29 (.int .i64 64) h20)
 (J29 bitSize_p h20)) ∧
 ∀ bitSize_30 (d31 : Nat → Value) (h32 : Hp), J29 bitSize_30 h32 →
 asK .i64 bitSize_30 fun n33 => 0 ≤ ((IntKind.wrap .u64 (IntKind.wrap .i64 (n33 - 1))) : Int) ∧ ∃ β34 : Bool,
 (asB neg_4 fun b36 => cond (!b36)
 (asK .u64 v22 fun n37 => ((.bool (decide ((n37 : Int) ≥ (shI .u64 .shl 1 (IntKind.wrap .u64 (IntKind.wrap .i64 (n33 - 1))))))) : Value) = .bool β34 ∧ h32 = h32)
 (((.bool false) : Value) = .bool β34 ∧ h32 = h32)) ∧
 ∀ d35 : Nat → Value,
 cond β34
 (R (.tuple #[(.int .i64 (IntKind.wrap .i64 (IntKind.wrap .u64 ((shI .u64 .shl 1 (IntKind.wrap .u64 (IntKind.wrap .i64 (n33 - 1)))) - 1)))), (.iface 180 (.int .i64 1))]) h32)
 (∃ β38 : Bool,
 (asB neg_4 fun b40 => cond b40
 (asK .u64 v22 fun n41 => ((.bool (decide ((n41 : Int) > (shI .u64 .shl 1 (IntKind.wrap .u64 (IntKind.wrap .i64 (n33 - 1))))))) : Value) = .bool β38 ∧ h32 = h32)
 (((.bool false) : Value) = .bool β38 ∧ h32 = h32)) ∧
 ∀ d39 : Nat → Value,
 cond β38
 (R (.tuple #[(.int .i64 (IntKind.wrap .i64 (0 - (IntKind.wrap .i64 (shI .u64 .shl 1 (IntKind.wrap .u64 (IntKind.wrap .i64 (n33 - 1)))))))), (.iface 180 (.int .i64 1))]) h32)
 (asI v22 fun n42 => ∃ J43 : Value → Hp → Prop,
 (asB neg_4 fun b47 => cond b47
 (J43 (.int .i64 (IntKind.wrap .i64 (0 - (IntKind.wrap .i64 n42)))) h32)
 (J43 (.int .i64 (IntKind.wrap .i64 n42)) h32)) ∧
 ∀ n_44 (d45 : Nat → Value) (h46 : Hp), J43 n_44 h46 →
 R (.tuple #[n_44, .nilIface]) h46)))) X)
def A_internal_strconv_ParseInt : Ann :=
 (.two .leaf (.two (.two .leaf (.two (.two .leaf .leaf) .leaf)) (.two .leaf (.two (.two .leaf (.join [18, 17, 19, 20, 0, 22, 21, 23, 24, 8] [0, 8] (.one (.two .leaf (.join [19, 20, 0, 22, 21, 23, 24, 8] [0, 8] (.two .leaf (.two .leaf (.join [23, 24, 0, 8] [0, 8] (.two (.two .leaf .leaf) .leaf))))))))) (.two .leaf (.two .leaf (.two (.two (.jb [32, 33, 34, 35, 36, 37, 38] 38 .leaf) (.two (.two .leaf .leaf) .leaf)) (.two (.two .leaf (.join [2] [2] (.two .leaf .leaf))) (.two .leaf (.two (.two (.jb [46, 47, 48, 49, 50, 51, 52] 52 .leaf) (.two (.two .leaf .leaf) .leaf)) (.two (.two (.jb [57, 58, 59, 60, 61, 62] 62 .leaf) (.two (.two .leaf .leaf) .leaf)) (.two .leaf (.two (.two .leaf (.join [70, 71, 11] [11] (.two .leaf .leaf))) (.two .leaf .leaf))))))))))))))
theorem C_internal_strconv_ParseInt (ω : Amb) (s_p base_p bitSize_p : Value) (h : Hp) (R : Value → Hp → Prop) (X : List PanicEntry → Hp → Prop) (hk : W_internal_strconv_ParseInt ω s_p base_p bitSize_p h R X) : CallX Tryd.prog ω 136 [s_p, base_p, bitSize_p] h R X :=
 callX_of (an := A_internal_strconv_ParseInt) Tryd.func136 ((show fnX Tryd.prog ω A_internal_strconv_ParseInt Tryd.f136 [s_p, base_p, bitSize_p] h R X = W_internal_strconv_ParseInt ω s_p base_p bitSize_p h R X by kernel_rfl) ▸ hk)

/-- internal/strconv.ParseUint -/
abbrev n_internal_strconv_ParseUint : Nat := 147
def W_internal_strconv_ParseUint (ω : Amb) (s_p base_p bitSize_p : Value) (h : Hp) (R : Value → Hp → Prop) (X : List PanicEntry → Hp → Prop) : Prop :=
 asS s_p fun s0 => cond (ByteArray.toList s0 == ByteArray.toList ⟨#[]⟩)
 (R (.tuple #[(.int .u64 0), (.iface 180 (.int .i64 2))]) h)
 (asK .i64 base_p fun n1 => ∃ J2 : Value → Value → Hp → Prop,
 (∃ J7 : Value → Hp → Prop,
 (asK .i64 base_p fun n11 => cond (decide ((2 : Int) ≤ n11))
 (asK .i64 base_p fun n12 => J7 (.bool (decide ((n12 : Int) ≤ 36))) h)
 (J7 (.bool false) h)) ∧
 ∀ t25_8 (d9 : Nat → Value) (h10 : Hp), J7 t25_8 h10 →
 ∃ J13 : Value → Value → Hp → Prop,
 (asB t25_8 fun b18 => cond b18
 (J13 base_p s_p h10)
 (asK .i64 base_p fun n19 => cond (n19 == (0 : Int))
 (asS s_p fun s20 => 0 ≤ (0 : Int) ∧ 0 < (ByteArray.size s20 : Int) ∧ ∃ J21 : Value → Value → Hp → Prop,
 (cond ((byteAt s20 0) == (48 : Int))
 (∃ J26 : Value → Value → Hp → Prop,
 (∃ J31 : Value → Hp → Prop,
 (asS s_p fun s35 => cond (decide (((ByteArray.size s35 : Int) : Int) ≥ 3))
 (asS s_p fun s36 => 0 ≤ (1 : Int) ∧ 1 < (ByteArray.size s36 : Int) ∧ CallX Tryd.prog ω 158 [(.int .u8 (byteAt s36 1))] h10 (fun r37 h38 =>
 asK .u8 r37 fun n39 => J31 (.bool (n39 == (98 : Int))) h38) X)
 (J31 (.bool false) h10)) ∧
 ∀ t40_32 (d33 : Nat → Value) (h34 : Hp), J31 t40_32 h34 →
 ∃ J40 : Value → Value → Hp → Prop,
 (asB t40_32 fun b45 => cond b45
 (asS s_p fun s46 => 0 ≤ (2 : Int) ∧ (2 : Int) ≤ (ByteArray.size s46 : Int) ∧ (ByteArray.size s46 : Int) ≤ (ByteArray.size s46 : Int) ∧ J40 (.int .i64 2) (.string (ByteArray.extract s46 (Int.toNat 2) (Int.toNat (ByteArray.size s46 : Int)))) h34)
 (∃ J47 : Value → Hp → Prop,
 (asS s_p fun s51 => cond (decide (((ByteArray.size s51 : Int) : Int) ≥ 3))
 (asS s_p fun s52 => 0 ≤ (1 : Int) ∧ 1 < (ByteArray.size s52 : Int) ∧ CallX Tryd.prog ω 158 [(.int .u8 (byteAt s52 1))] h34 (fun r53 h54 =>
 asK .u8 r53 fun n55 => J47 (.bool (n55 == (111 : Int))) h54) X)
 (J47 (.bool false) h34)) ∧
 ∀ t52_48 (d49 : Nat → Value) (h50 : Hp), J47 t52_48 h50 →
 ∃ J56 : Value → Value → Hp → Prop,
 (asB t52_48 fun b61 => cond b61
 (asS s_p fun s62 => 0 ≤ (2 : Int) ∧ (2 : Int) ≤ (ByteArray.size s62 : Int) ∧ (ByteArray.size s62 : Int) ≤ (ByteArray.size s62 : Int) ∧ J56 (.int .i64 8) (.string (ByteArray.extract s62 (Int.toNat 2) (Int.toNat (ByteArray.size s62 : Int)))) h50)
 (∃ J63 : Value → Hp → Prop,
 (asS s_p fun s67 => cond (decide (((ByteArray.size s67 : Int) : Int) ≥ 3))
 (asS s_p fun s68 => 0 ≤ (1 : Int) ∧ 1 < (ByteArray.size s68 : Int) ∧ CallX Tryd.prog ω 158 [(.int .u8 (byteAt s68 1))] h50 (fun r69 h70 =>
 asK .u8 r69 fun n71 => J63 (.bool (n71 == (120 : Int))) h70) X)
 (J63 (.bool false) h50)) ∧
 ∀ t64_64 (d65 : Nat → Value) (h66 : Hp), J63 t64_64 h66 →
 ∃ J72 : Value → Value → Hp → Prop,
 (asB t64_64 fun b77 => cond b77
 (asS s_p fun s78 => 0 ≤ (2 : Int) ∧ (2 : Int) ≤ (ByteArray.size s78 : Int) ∧ (ByteArray.size s78 : Int) ≤ (ByteArray.size s78 : Int) ∧ J72 (.int .i64 16) (.string (ByteArray.extract s78 (Int.toNat 2) (Int.toNat (ByteArray.size s78 : Int)))) h66)
 (asS s_p fun s79 => 0 ≤ (1 : Int) ∧ (1 : Int) ≤ (ByteArray.size s79 : Int) ∧ (ByteArray.size s79 : Int) ≤ (ByteArray.size s79 : Int) ∧ J72 (.int .i64 8) (.string (ByteArray.extract s79 (Int.toNat 1) (Int.toNat (ByteArray.size s79 : Int)))) h66)) ∧
 ∀ base_73 s_74 (d75 : Nat → Value) (h76 : Hp), J72 base_73 s_74 h76 →
 J56 base_73 s_74 h76)) ∧
 ∀ base_57 s_58 (d59 : Nat → Value) (h60 : Hp), J56 base_57 s_58 h60 →
 J40 base_57 s_58 h60)) ∧
 ∀ base_41 s_42 (d43 : Nat → Value) (h44 : Hp), J40 base_41 s_42 h44 →
 J26 base_41 s_42 h44) ∧
 ∀ base_27 s_28 (d29 : Nat → Value) (h30 : Hp), J26 base_27 s_28 h30 →
 J21 base_27 s_28 h30)
 (J21 (.int .i64 10) s_p h10)) ∧
 ∀ base_22 s_23 (d24 : Nat → Value) (h25 : Hp), J21 base_22 s_23 h25 →
 J13 base_22 s_23 h25)
 (R (.tuple #[(.int .u64 0), (.iface 180 (.int .i64 3))]) h10))) ∧
 ∀ base_14 s_15 (d16 : Nat → Value) (h17 : Hp), J13 base_14 s_15 h17 →
 J2 base_14 s_15 h17) ∧
 ∀ base_3 s_4 (d5 : Nat → Value) (h6 : Hp), J2 base_3 s_4 h6 →
 asK .i64 bitSize_p fun n80 => ∃ J81 : Value → Hp → Prop,
 (cond (n80 == (0 : Int))
 (J81 (.int .i64 64) h6)
 (∃ β85 : Bool,
 (asK .i64 bitSize_p fun n87 => cond (decide ((n87 : Int) < 0))
 (((.bool true) : Value) = .bool β85 ∧ h6 = h6)
 (asK .i64 bitSize_p fun n88 => ((.bool (decide ((n88 : Int) > 64))) : Value) = .bool β85 ∧ h6 = h6)) ∧
 ∀ d86 : Nat → Value,
 cond β85
 (R (.tuple #[(.int .u64 0), (.iface 180 (.int .i64 4))]) h6)
 (J81 bitSize_p h6))) ∧
 ∀ bitSize_82 (d83 : Nat → Value) (h84 : Hp), J81 bitSize_82 h84 →
 ∃ J89 : Value → Hp → Prop,
 (asK .i64 base_3 fun n93 => ∃ J94 : Value → Hp → Prop,
 (cond (n93 == (10 : Int))
 (J94 (.int .u64 1844674407370955162) h84)
 (asK .i64 base_3 fun n98 => ∃ J99 : Value → Hp → Prop,
 (cond (n98 == (16 : Int))
 (J99 (.int .u64 1152921504606846976) h84)
 (asI base_3 fun n103 => ((IntKind.wrap .u64 n103) : Int) ≠ 0 ∧ J99 (.int .u64 (IntKind.wrap .u64 ((IntKind.wrap .u64 (Int.tdiv 18446744073709551615 (IntKind.wrap .u64 n103))) + 1))) h84)) ∧
 ∀ cutoff_100 (d101 : Nat → Value) (h102 : Hp), J99 cutoff_100 h102 →
 J94 cutoff_100 h102)) ∧
 ∀ cutoff_95 (d96 : Nat → Value) (h97 : Hp), J94 cutoff_95 h97 →
 J89 cutoff_95 h97) ∧
 ∀ cutoff_90 (d91 : Nat → Value) (h92 : Hp), J89 cutoff_90 h92 →
 asI bitSize_82 fun n104 => 0 ≤ ((IntKind.wrap .u64 n104) : Int) ∧ bytesK Tryd.prog 9 93 h92 s_4 fun v105 h106 =>
 asSl v105 fun a107 l108 c109 => ∃ (I110 : Value → Value → Value → Hp → Prop) (μ111 : Value → Value → Value → Hp → Nat), I110 (.bool false) (.int .u64 0) (.int .i64 0) h106 ∧ ∀ underscores_112 n_113 t101_114 (d115 : Nat → Value) (h116 : Hp), I110 underscores_112 n_113 t101_114 h116 →
 asK .i64 t101_114 fun n117 => cond (decide ((n117 : Int) < (l108 : Int)))
 (∃ J118 : Value → Value → Hp → Prop,
 (asSl1 v105 fun a123 l124 c125 => asI t101_114 fun n126 => 0 ≤ (n126 : Int) ∧ n126 < (l124 : Int) ∧ ∃ v127, cellH h116 (Addr.add a123 (Int.toNat n126 * 1)) = some v127 ∧
 ∃ J128 : Value → Value → Hp → Prop,
 (∃ J133 : Value → Hp → Prop,
 (asK .u8 v127 fun n137 => cond (n137 == (95 : Int))
 (J133 (.bool (n1 == (0 : Int))) h116)
 (J133 (.bool false) h116)) ∧
 ∀ t106_134 (d135 : Nat → Value) (h136 : Hp), J133 t106_134 h136 →
 asB t106_134 fun b138 => cond b138
 (J118 (.bool true) n_113 h136)
 (∃ J139 : Value → Hp → Prop,
 (asK .u8 v127 fun n143 => cond (decide ((48 : Int) ≤ n143))
 (asK .u8 v127 fun n144 => J139 (.bool (decide ((n144 : Int) ≤ 57))) h136)
 (J139 (.bool false) h136)) ∧
 ∀ t112_140 (d141 : Nat → Value) (h142 : Hp), J139 t112_140 h142 →
 ∃ J145 : Value → Hp → Prop,
 (asB t112_140 fun b149 => cond b149
 (asK .u8 v127 fun n150 => J145 (.int .u8 (IntKind.wrap .u8 (n150 - 48))) h142)
 (∃ J151 : Value → Hp → Prop,
 (CallX Tryd.prog ω 158 [v127] h142 (fun r155 h156 =>
 asK .u8 r155 fun n157 => cond (decide ((97 : Int) ≤ n157))
 (CallX Tryd.prog ω 158 [v127] h156 (fun r158 h159 =>
 asK .u8 r158 fun n160 => J151 (.bool (decide ((n160 : Int) ≤ 122))) h159) X)
 (J151 (.bool false) h156)) X) ∧
 ∀ t121_152 (d153 : Nat → Value) (h154 : Hp), J151 t121_152 h154 →
 asB t121_152 fun b161 => cond b161
 (CallX Tryd.prog ω 158 [v127] h154 (fun r162 h163 =>
 asK .u8 r162 fun n164 => J145 (.int .u8 (IntKind.wrap .u8 ((IntKind.wrap .u8 (n164 - 97)) + 10))) h163) X)
 (R (.tuple #[(.int .u64 0), (.iface 180 (.int .i64 2))]) h154))) ∧
 ∀ d_146 (d147 : Nat → Value) (h148 : Hp), J145 d_146 h148 →
 J128 underscores_112 d_146 h148)) ∧
 ∀ underscores_129 d_130 (d131 : Nat → Value) (h132 : Hp), J128 underscores_129 d_130 h132 →
 asI base_3 fun n165 => asK .u8 d_130 fun n166 => cond (decide ((n166 : Int) ≥ (IntKind.wrap .u8 n165)))
 (R (.tuple #[(.int .u64 0), (.iface 180 (.int .i64 2))]) h132)
 (asK .u64 n_113 fun n167 => asK .u64 cutoff_90 fun n168 => cond (decide ((n167 : Int) ≥ n168))
 (R (.tuple #[(.int .u64 (IntKind.wrap .u64 ((shI .u64 .shl 1 (IntKind.wrap .u64 n104)) - 1))), (.iface 180 (.int .i64 1))]) h132)
 (asI base_3 fun n169 => asK .u64 n_113 fun n170 => asI d_130 fun n171 => ∃ β172 : Bool,
 (cond (decide (((IntKind.wrap .u64 ((IntKind.wrap .u64 (n170 * (IntKind.wrap .u64 n169))) + (IntKind.wrap .u64 n171))) : Int) < (IntKind.wrap .u64 (n170 * (IntKind.wrap .u64 n169)))))
 (((.bool true) : Value) = .bool β172 ∧ h132 = h132)
 (((.bool (decide (((IntKind.wrap .u64 ((IntKind.wrap .u64 (n170 * (IntKind.wrap .u64 n169))) + (IntKind.wrap .u64 n171))) : Int) > (IntKind.wrap .u64 ((shI .u64 .shl 1 (IntKind.wrap .u64 n104)) - 1))))) : Value) = .bool β172 ∧ h132 = h132)) ∧
 ∀ d173 : Nat → Value,
 cond β172
 (R (.tuple #[(.int .u64 (IntKind.wrap .u64 ((shI .u64 .shl 1 (IntKind.wrap .u64 n104)) - 1))), (.iface 180 (.int .i64 1))]) h132)
 (J118 underscores_129 (.int .u64 (IntKind.wrap .u64 ((IntKind.wrap .u64 (n170 * (IntKind.wrap .u64 n169))) + (IntKind.wrap .u64 n171)))) h132)))) ∧
 ∀ underscores_119 n_120 (d121 : Nat → Value) (h122 : Hp), J118 underscores_119 n_120 h122 →
 asK .i64 t101_114 fun n174 => I110 underscores_119 n_120 (.int .i64 (IntKind.wrap .i64 (n174 + 1))) h122 ∧ μ111 underscores_119 n_120 (.int .i64 (IntKind.wrap .i64 (n174 + 1))) h122 < μ111 underscores_112 n_113 t101_114 h116)
 (∃ J175 : Value → Hp → Prop,
 (asB underscores_112 fun b179 => cond b179
 (CallX Tryd.prog ω 159 [s_p] h116 (fun r180 h181 =>
 asB r180 fun b182 => J175 (.bool (!b182)) h181) X)
 (J175 (.bool false) h116)) ∧
 ∀ t169_176 (d177 : Nat → Value) (h178 : Hp), J175 t169_176 h178 →
 asB t169_176 fun b183 => cond b183
 (R (.tuple #[(.int .u64 0), (.iface 180 (.int .i64 2))]) h178)
 (R (.tuple #[n_113, .nilIface]) h178)))
def A_internal_strconv_ParseUint : Ann :=
 (.two .leaf (.two (.two .leaf (.two (.two .leaf .leaf) .leaf)) (.two .leaf (.two .leaf (.two (.join [26, 27, 28, 29, 30, 31, 25, 33, 34, 32, 1, 35, 36, 37, 41, 42, 43, 44, 45, 46, 47, 48, 49, 40, 50, 51, 0, 53, 54, 55, 56, 57, 58, 59, 60, 61, 52, 62, 63, 65, 66, 67, 68, 69, 70, 71, 72, 73, 64, 74, 75, 38, 39, 24, 6, 7] [1, 0] (.one (.two (.join [26, 27, 28, 29, 30, 31, 25] [25] .leaf) (.join [33, 34, 32, 1, 35, 36, 37, 41, 42, 43, 44, 45, 46, 47, 48, 49, 40, 50, 51, 0, 53, 54, 55, 56, 57, 58, 59, 60, 61, 52, 62, 63, 65, 66, 67, 68, 69, 70, 71, 72, 73, 64, 74, 75, 38, 39, 24, 6, 7] [1, 0] (.two .leaf (.two .leaf (.two (.two .leaf (.two .leaf (.join [41, 42, 43, 44, 45, 46, 47, 48, 49, 40, 1, 50, 51, 0, 53, 54, 55, 56, 57, 58, 59, 60, 61, 52, 62, 63, 65, 66, 67, 68, 69, 70, 71, 72, 73, 64, 74, 75, 38, 39] [1, 0] (.two (.join [41, 42, 43, 44, 45, 46, 47, 48, 49, 40, 1, 50, 51, 0, 53, 54, 55, 56, 57, 58, 59, 60, 61, 52, 62, 63, 65, 66, 67, 68, 69, 70, 71, 72, 73, 64, 74, 75, 38, 39] [1, 0] (.one (.two (.join [41, 42, 43, 44, 45, 46, 47, 48, 49, 40] [40] .leaf) (.join [1, 50, 51, 0, 53, 54, 55, 56, 57, 58, 59, 60, 61, 52, 62, 63, 65, 66, 67, 68, 69, 70, 71, 72, 73, 64, 74, 75, 38, 39] [1, 0] (.two (.two .leaf .leaf) (.two (.join [53, 54, 55, 56, 57, 58, 59, 60, 61, 52] [52] .leaf) (.join [1, 62, 63, 0, 65, 66, 67, 68, 69, 70, 71, 72, 73, 64, 74, 75, 38, 39] [1, 0] (.two (.two .leaf .leaf) (.two (.join [65, 66, 67, 68, 69, 70, 71, 72, 73, 64] [64] .leaf) (.join [1, 74, 75, 0, 38, 39] [1, 0] (.two (.two .leaf .leaf) (.two .leaf .leaf)))))))))))) .leaf)))) (.two .leaf .leaf)))))))) (.two (.two .leaf (.join [2, 78, 79, 80, 81, 82, 83, 84, 6, 7] [2] (.two .leaf (.two (.jb [78, 79, 80, 81, 82, 83] 83 .leaf) (.two (.two .leaf .leaf) .leaf))))) (.two .leaf (.two (.two .leaf (.join [91, 90, 10, 93, 92, 86, 87, 88, 89] [10] (.one (.two .leaf (.join [10, 93, 92, 86, 87, 88, 89] [10] (.two .leaf (.two .leaf (.join [10, 86, 87, 88, 89] [10] (.two .leaf .leaf))))))))) (.two .leaf (.two .leaf (.two .leaf (.two (.two .leaf (.one (.loop [102, 103, 104, 15, 16, 107, 108, 109, 110, 111, 106, 12, 113, 114, 115, 116, 117, 118, 112, 119, 120, 122, 123, 124, 125, 126, 127, 128, 129, 121, 130, 131, 132, 133, 105, 6, 7, 134, 135, 136, 137, 138, 139, 140, 141, 142, 143, 144, 145, 146, 147, 13, 148, 149, 150, 151, 17, 152, 153, 154, 155, 156, 157, 158, 159, 160, 161, 162, 163, 101] [12, 13, 101] (.two .leaf (.two (.two .leaf .leaf) (.two (.join [103, 104, 15, 16, 107, 108, 109, 110, 111, 106, 12, 113, 114, 115, 116, 117, 118, 112, 119, 120, 122, 123, 124, 125, 126, 127, 128, 129, 121, 130, 131, 132, 133, 105, 6, 7, 134, 135, 136, 137, 138, 139, 140, 141, 142, 143, 144, 145, 146, 147, 13, 148, 149, 150, 151, 17, 152, 153, 154, 155, 156, 157, 158, 159, 160, 161, 162] [12, 13] (.one (.two .leaf (.two .leaf (.two (.join [107, 108, 109, 110, 111, 106, 12, 113, 114, 115, 116, 117, 118, 112, 119, 120, 16, 122, 123, 124, 125, 126, 127, 128, 129, 121, 130, 131, 132, 133, 105, 6, 7] [12, 16] (.one (.two (.join [107, 108, 109, 110, 111, 106] [106] .leaf) (.two (.two .leaf .leaf) (.two (.join [113, 114, 115, 116, 117, 118, 112] [112] .leaf) (.join [119, 120, 16, 122, 123, 124, 125, 126, 127, 128, 129, 121, 130, 131, 132, 133, 105, 6, 7] [16] (.two .leaf (.two (.join [122, 123, 124, 125, 126, 127, 128, 129, 121] [121] .leaf) (.two .leaf (.two .leaf .leaf)))))))))) (.two (.two .leaf (.two (.two .leaf .leaf) .leaf)) (.two (.two .leaf (.two (.two .leaf .leaf) .leaf)) (.two .leaf (.two .leaf (.two (.two (.jb [152, 153, 154, 155, 156, 157, 158, 159] 159 .leaf) (.two (.two .leaf .leaf) .leaf)) .leaf)))))))))) .leaf)))))) (.two (.two (.join [164, 165, 166, 167, 168, 169] [169] .leaf) (.two (.two .leaf .leaf) .leaf)) (.two .leaf .leaf))))))))))))))
theorem C_internal_strconv_ParseUint (ω : Amb) (s_p base_p bitSize_p : Value) (h : Hp) (R : Value → Hp → Prop) (X : List PanicEntry → Hp → Prop) (hk : W_internal_strconv_ParseUint ω s_p base_p bitSize_p h R X) : CallX Tryd.prog ω 147 [s_p, base_p, bitSize_p] h R X :=
 callX_of (an := A_internal_strconv_ParseUint) Tryd.func147 ((show fnX Tryd.prog ω A_internal_strconv_ParseUint Tryd.f147 [s_p, base_p, bitSize_p] h R X = W_internal_strconv_ParseUint ω s_p base_p bitSize_p h R X by kernel_rfl) ▸ hk)

end Go.Proofs.YtaehnpilebkcoaaDoor.Sx
