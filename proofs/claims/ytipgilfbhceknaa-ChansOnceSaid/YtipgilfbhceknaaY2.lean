/- Formulas of the functions' texts, written by a program of ours; each is checked by the kernel. -/
import Derived.Test.YtipgilfbhceknaaSxCore
import Derived.KernelRfl
import Derived.Test.YtipgilfbhceknaaProg
set_option linter.unusedVariables false
set_option maxRecDepth 100000
namespace Go.Proofs.Ytipgilfbhceknaa.Sx
open Go Go.Sx Go.Proofs

/-- pipewright/pipewrightlaw.LedgerDoes -/
abbrev n_pipewrightlaw_LedgerDoes : Nat := 3
def W_pipewrightlaw_LedgerDoes (ω : Amb) (l_p : Value) (h : Hp) (R : Value → Hp → Prop) (X : List PanicEntry → Hp → Prop) : Prop :=
 CallX Try.prog ω 7 [] h (fun r0 h1 =>
 asB r0 fun b2 => cond (!b2)
 (R (.bool false) h1)
 (asSl l_p fun a3 l4 c5 => cond (decide (((l4 : Int) : Int) > 200))
 (R (.bool true) h1)
 (CallX Try.prog ω 8 [] h1 (fun r6 h7 =>
 ∃ (I8 : Value → Hp → Prop) (μ9 : Value → Hp → Nat), I8 (.int .i64 0) (Array.push h7 (.cells #[(.slice none 0 0), (.slice none 0 0), (.slice none 0 0), (.slice none 0 0)] 32 (0, 0))) ∧ ∀ i_10 (d11 : Nat → Value) (h12 : Hp), I8 i_10 h12 →
 asSl l_p fun a13 l14 c15 => asK .i64 i_10 fun n16 => cond (decide ((n16 : Int) < (l14 : Int)))
 (asSl1 l_p fun a17 l18 c19 => asI i_10 fun n20 => 0 ≤ (n20 : Int) ∧ n20 < (l18 : Int) ∧ ∃ C21, cellsH h12 (Addr.add a17 (Int.toNat n20 * 5)) 5 C21 ∧
 C21.toArray.size = 5 ∧ (∀ u ∈ C21.toArray.toList, one u) ∧ storeK (Array.push h12 (.cells #[(.int .i64 0), (.int .i64 0), (.int .i64 0), (.int .i64 0), (.bool false)] 34 (0, 0))) ⟨Array.size h12, 0, none⟩ C21.toArray.toList fun h22 =>
 ∃ v23, cellH h22 (Addr.add ⟨Array.size h12, 0, none⟩ 1) = some v23 ∧
 CallX Try.prog ω 9 [(.pointer (some ⟨Array.size h7, 0, none⟩)), v23] h22 (fun r24 h25 =>
 asT r24 fun T26 => asO T26[0]? fun v27 => asT r24 fun T28 => asO T28[1]? fun v29 => asA v27 fun A30 => A30.size = 4 ∧ (∀ u ∈ A30.toList, one u) ∧ storeK (Array.push h25 (.cells #[(.int .i64 0), (.bool false), (.int .i64 0), (.int .i64 0)] 36 (0, 0))) ⟨Array.size h25, 0, none⟩ A30.toList fun h31 =>
 ∃ v32, cellH h31 (Addr.add ⟨Array.size h12, 0, none⟩ 1) = some v32 ∧
 CallX Try.prog ω 10 [r6, v32] h31 (fun r33 h34 =>
 asT r33 fun T35 => asO T35[0]? fun v36 => asT r33 fun T37 => asO T37[1]? fun v38 => asA v36 fun A39 => A39.size = 4 ∧ (∀ u ∈ A39.toList, one u) ∧ storeK (Array.push h34 (.cells #[(.int .i64 0), (.bool false), (.int .i64 0), (.int .i64 0)] 36 (0, 0))) ⟨Array.size h34, 0, none⟩ A39.toList fun h40 =>
 ∃ β41 : Bool,
 (asB v38 fun b43 => asB v29 fun b44 => cond (!(b43 == b44))
 (((.bool true) : Value) = .bool β41 ∧ h40 = h40)
 (∃ C45, cellsH h40 ⟨Array.size h34, 0, none⟩ 4 C45 ∧
 ∃ C46, cellsH h40 ⟨Array.size h25, 0, none⟩ 4 C46 ∧
 asO C45.toArray[0]? fun v47 => asO C46.toArray[0]? fun v48 => asK .i64 v47 fun n49 => asK .i64 v48 fun n50 => asO C45.toArray[1]? fun v51 => asO C46.toArray[1]? fun v52 => asB v51 fun b53 => asB v52 fun b54 => asO C45.toArray[2]? fun v55 => asO C46.toArray[2]? fun v56 => asK .i64 v55 fun n57 => asK .i64 v56 fun n58 => asO C45.toArray[3]? fun v59 => asO C46.toArray[3]? fun v60 => asK .i64 v59 fun n61 => asK .i64 v60 fun n62 => ((.bool (!((n49 == (n50 : Int)) && ((b53 == b54) && ((n57 == (n58 : Int)) && ((n61 == (n62 : Int)) && true)))))) : Value) = .bool β41 ∧ h40 = h40)) ∧
 ∀ d42 : Nat → Value,
 cond β41
 (R (.bool false) h40)
 (∃ v63, cellH h40 (Addr.add ⟨Array.size h12, 0, none⟩ 0) = some v63 ∧
 asI v63 fun n64 => (8 : Int) ≠ 0 ∧ ∃ J65 : Hp → Prop,
 (∃ J68 : Value → Hp → Prop,
 (cond ((IntKind.wrap .i64 (Int.tmod (IntKind.wrap .u64 n64) 8)) == (0 : Int))
 (J68 (.bool ((IntKind.wrap .i64 (Int.tmod (IntKind.wrap .u64 n64) 8)) == (0 : Int))) h40)
 (∃ J72 : Value → Hp → Prop,
 (cond ((IntKind.wrap .i64 (Int.tmod (IntKind.wrap .u64 n64) 8)) == (1 : Int))
 (J72 (.bool ((IntKind.wrap .i64 (Int.tmod (IntKind.wrap .u64 n64) 8)) == (1 : Int))) h40)
 (J72 (.bool ((IntKind.wrap .i64 (Int.tmod (IntKind.wrap .u64 n64) 8)) == (2 : Int))) h40)) ∧
 ∀ t77_73 (d74 : Nat → Value) (h75 : Hp), J72 t77_73 h75 →
 J68 t77_73 h75)) ∧
 ∀ t77_69 (d70 : Nat → Value) (h71 : Hp), J68 t77_69 h71 →
 ∃ J76 : Hp → Prop,
 (asB t77_69 fun b79 => cond b79
 (∃ v80, cellH h71 (Addr.add ⟨Array.size h12, 0, none⟩ 3) = some v80 ∧
 ∃ v81, cellH h71 (Addr.add ⟨Array.size h12, 0, none⟩ 4) = some v81 ∧
 ∃ v82, cellH h71 (Addr.add ⟨Array.size h12, 0, none⟩ 2) = some v82 ∧
 CallX Try.prog ω 11 [r6, v80, v81, v82] h71 (fun r83 h84 =>
 ∃ v85, cellH h84 (Addr.add ⟨Array.size h12, 0, none⟩ 2) = some v85 ∧
 asK .i64 v85 fun n86 => cond (decide ((n86 : Int) < (-1)))
 (asK .i64 r83 fun n87 => cond (n87 != ((-1) : Int))
 (R (.bool false) h84)
 (J65 h84))
 (∃ v88, cellH h84 (Addr.add ⟨Array.size h7, 0, none⟩ 0) = some v88 ∧
 asSl v88 fun a89 l90 c91 => asK .i64 r83 fun n92 => cond (n92 != ((l90 : Int) : Int))
 (R (.bool false) h84)
 (∃ v93, cellH h84 (Addr.add ⟨Array.size h7, 0, none⟩ 0) = some v93 ∧
 ∃ v94, cellH h84 (Addr.add ⟨Array.size h12, 0, none⟩ 3) = some v94 ∧
 ∃ v95, cellH h84 (Addr.add ⟨Array.size h12, 0, none⟩ 4) = some v95 ∧
 ∃ v96, cellH h84 (Addr.add ⟨Array.size h12, 0, none⟩ 2) = some v96 ∧
 oneK v94 (oneK v95 (oneK v96 (4 = 4 ∧ cellH (Array.push h84 (.cells (List.toArray [v94, v95, v96, (.int .i64 0)]) 36 (0, 0))) (Addr.add ⟨Array.size h7, 0, none⟩ 0) = some v93 ∧ appK Try.prog 27 (Array.push h84 (.cells (List.toArray [v94, v95, v96, (.int .i64 0)]) 36 (0, 0))) v93 (.slice (some ⟨Array.size h84, 0, none⟩) 1 1) fun w97 h98 =>
 oneK w97 (storeK1 h98 (Addr.add ⟨Array.size h7, 0, none⟩ 0) w97 fun h99 =>
 J76 h99))))))) X)
 (∃ J100 : Value → Hp → Prop,
 (cond ((IntKind.wrap .i64 (Int.tmod (IntKind.wrap .u64 n64) 8)) == (3 : Int))
 (J100 (.bool ((IntKind.wrap .i64 (Int.tmod (IntKind.wrap .u64 n64) 8)) == (3 : Int))) h71)
 (J100 (.bool ((IntKind.wrap .i64 (Int.tmod (IntKind.wrap .u64 n64) 8)) == (4 : Int))) h71)) ∧
 ∀ t117_101 (d102 : Nat → Value) (h103 : Hp), J100 t117_101 h103 →
 ∃ J104 : Hp → Prop,
 (asB t117_101 fun b107 => cond b107
 (∃ J108 : Value → Hp → Prop,
 (asB v29 fun b112 => cond b112
 (∃ v113, cellH h103 (Addr.add ⟨Array.size h12, 0, none⟩ 2) = some v113 ∧
 asK .i64 v113 fun n114 => cond (decide ((n114 : Int) ≥ (-1)))
 (∃ v115, cellH h103 (Addr.add ⟨Array.size h25, 0, none⟩ 2) = some v115 ∧
 asK .i64 v115 fun n116 => J108 (.bool (n116 != ((-2) : Int))) h103)
 (J108 (.bool false) h103))
 (J108 (.bool false) h103)) ∧
 ∀ may_109 (d110 : Nat → Value) (h111 : Hp), J108 may_109 h111 →
 ∃ v117, cellH h111 (Addr.add ⟨Array.size h12, 0, none⟩ 1) = some v117 ∧
 ∃ v118, cellH h111 (Addr.add ⟨Array.size h12, 0, none⟩ 2) = some v118 ∧
 CallX Try.prog ω 12 [r6, v117, v118] h111 (fun r119 h120 =>
 asB r119 fun b121 => asB may_109 fun b122 => cond (!(b121 == b122))
 (R (.bool false) h120)
 (∃ J123 : Hp → Prop,
 (asB may_109 fun b126 => cond b126
 (∃ v127, cellH h120 (Addr.add ⟨Array.size h7, 0, none⟩ 0) = some v127 ∧
 ∃ v128, cellH h120 (Addr.add ⟨Array.size h12, 0, none⟩ 1) = some v128 ∧
 ∃ v129, cellH h120 (Addr.add ⟨Array.size h12, 0, none⟩ 2) = some v129 ∧
 asSl1 v127 fun a130 l131 c132 => asI v128 fun n133 => 0 ≤ (n133 : Int) ∧ n133 < (l131 : Int) ∧ oneK v129 (storeK1 h120 (Addr.add (Addr.add a130 (Int.toNat n133 * 4)) 2) v129 fun h134 =>
 J123 h134))
 (J123 h120)) ∧
 ∀  (d124 : Nat → Value) (h125 : Hp), J123 h125 →
 J104 h125)) X)
 (∃ J135 : Hp → Prop,
 (cond ((IntKind.wrap .i64 (Int.tmod (IntKind.wrap .u64 n64) 8)) == (5 : Int))
 (∃ J138 : Value → Hp → Prop,
 (∃ v142, cellH h103 (Addr.add ⟨Array.size h12, 0, none⟩ 1) = some v142 ∧
 CallX Try.prog ω 13 [r6, v142] h103 (fun r143 h144 =>
 asB v29 fun b145 => cond b145
 (∃ v146, cellH h144 (Addr.add ⟨Array.size h25, 0, none⟩ 2) = some v146 ∧
 asK .i64 v146 fun n147 => asB r143 fun b148 => J138 (.bool (!(b148 == (n147 != ((-2) : Int))))) h144)
 (asB r143 fun b149 => J138 (.bool (!(b149 == false))) h144)) X) ∧
 ∀ t162_139 (d140 : Nat → Value) (h141 : Hp), J138 t162_139 h141 →
 asB t162_139 fun b150 => cond b150
 (R (.bool false) h141)
 (∃ J151 : Hp → Prop,
 (asB v29 fun b154 => cond b154
 (∃ v155, cellH h141 (Addr.add ⟨Array.size h7, 0, none⟩ 0) = some v155 ∧
 ∃ v156, cellH h141 (Addr.add ⟨Array.size h12, 0, none⟩ 1) = some v156 ∧
 asSl1 v155 fun a157 l158 c159 => asI v156 fun n160 => 0 ≤ (n160 : Int) ∧ n160 < (l158 : Int) ∧ storeK1 h141 (Addr.add (Addr.add a157 (Int.toNat n160 * 4)) 2) (.int .i64 (-2)) fun h161 =>
 ∃ v162, cellH h161 (Addr.add ⟨Array.size h7, 0, none⟩ 0) = some v162 ∧
 ∃ v163, cellH h161 (Addr.add ⟨Array.size h12, 0, none⟩ 1) = some v163 ∧
 asSl1 v162 fun a164 l165 c166 => asI v163 fun n167 => 0 ≤ (n167 : Int) ∧ n167 < (l165 : Int) ∧ ∃ v168, cellH h161 (Addr.add (Addr.add a164 (Int.toNat n167 * 4)) 3) = some v168 ∧
 asK .i64 v168 fun n169 => asSl1 v162 fun a170 l171 c172 => asI v163 fun n173 => 0 ≤ (n173 : Int) ∧ n173 < (l171 : Int) ∧ storeK1 h161 (Addr.add (Addr.add a170 (Int.toNat n173 * 4)) 3) (.int .i64 (IntKind.wrap .i64 (n169 + 1))) fun h174 =>
 J151 h174)
 (J151 h141)) ∧
 ∀  (d152 : Nat → Value) (h153 : Hp), J151 h153 →
 J135 h153))
 (∃ J175 : Hp → Prop,
 (cond ((IntKind.wrap .i64 (Int.tmod (IntKind.wrap .u64 n64) 8)) == (6 : Int))
 (∃ v178, cellH h103 (Addr.add ⟨Array.size h12, 0, none⟩ 2) = some v178 ∧
 ∃ v179, cellH h103 (Addr.add ⟨Array.size h12, 0, none⟩ 2) = some v179 ∧
 CallX Try.prog ω 15 [r6, v178] h103 (fun r180 h181 =>
 cellH h181 (Addr.add ⟨Array.size h12, 0, none⟩ 2) = some v179 ∧ CallX Try.prog ω 16 [(.pointer (some ⟨Array.size h7, 0, none⟩)), v179] h181 (fun r182 h183 =>
 CallX Try.prog ω 14 [r180, r182] h183 (fun r184 h185 =>
 asB r184 fun b186 => cond (!b186)
 (R (.bool false) h185)
 (J175 h185)) X) X) X)
 (∃ v187, cellH h103 (Addr.add ⟨Array.size h12, 0, none⟩ 1) = some v187 ∧
 ∃ v188, cellH h103 (Addr.add ⟨Array.size h12, 0, none⟩ 2) = some v188 ∧
 ∃ v189, cellH h103 (Addr.add ⟨Array.size h12, 0, none⟩ 3) = some v189 ∧
 ∃ v190, cellH h103 (Addr.add ⟨Array.size h12, 0, none⟩ 1) = some v190 ∧
 ∃ v191, cellH h103 (Addr.add ⟨Array.size h12, 0, none⟩ 2) = some v191 ∧
 ∃ v192, cellH h103 (Addr.add ⟨Array.size h12, 0, none⟩ 3) = some v192 ∧
 CallX Try.prog ω 17 [r6, v187, v188, v189] h103 (fun r193 h194 =>
 cellH h194 (Addr.add ⟨Array.size h12, 0, none⟩ 3) = some v192 ∧ cellH h194 (Addr.add ⟨Array.size h12, 0, none⟩ 2) = some v191 ∧ cellH h194 (Addr.add ⟨Array.size h12, 0, none⟩ 1) = some v190 ∧ CallX Try.prog ω 18 [(.pointer (some ⟨Array.size h7, 0, none⟩)), v190, v191, v192] h194 (fun r195 h196 =>
 asK .i64 r193 fun n197 => asK .i64 r195 fun n198 => cond (n197 != (n198 : Int))
 (R (.bool false) h196)
 (J175 h196)) X) X)) ∧
 ∀  (d176 : Nat → Value) (h177 : Hp), J175 h177 →
 J135 h177)) ∧
 ∀  (d136 : Nat → Value) (h137 : Hp), J135 h137 →
 J104 h137)) ∧
 ∀  (d105 : Nat → Value) (h106 : Hp), J104 h106 →
 J76 h106)) ∧
 ∀  (d77 : Nat → Value) (h78 : Hp), J76 h78 →
 J65 h78) ∧
 ∀  (d66 : Nat → Value) (h67 : Hp), J65 h67 →
 CallX Try.prog ω 19 [r6] h67 (fun r199 h200 =>
 ∃ v201, cellH h200 (Addr.add ⟨Array.size h7, 0, none⟩ 0) = some v201 ∧
 CallX Try.prog ω 20 [r199, v201] h200 (fun r202 h203 =>
 asB r202 fun b204 => cond (!b204)
 (R (.bool false) h203)
 (∃ (I205 : Value → Hp → Prop) (μ206 : Value → Hp → Nat), I205 (.int .i64 0) h203 ∧ ∀ k_207 (d208 : Nat → Value) (h209 : Hp), I205 k_207 h209 →
 asSl r199 fun a210 l211 c212 => asK .i64 k_207 fun n213 => cond (decide ((n213 : Int) < (l211 : Int)))
 (asSl1 r199 fun a214 l215 c216 => asI k_207 fun n217 => 0 ≤ (n217 : Int) ∧ n217 < (l215 : Int) ∧ storeK1 h209 (Addr.add (Addr.add a214 (Int.toNat n217 * 4)) 3) (.int .i64 99) fun h218 =>
 asK .i64 k_207 fun n219 => I205 (.int .i64 (IntKind.wrap .i64 (n219 + 1))) h218 ∧ μ206 (.int .i64 (IntKind.wrap .i64 (n219 + 1))) h218 < μ206 k_207 h209)
 (asK .i64 i_10 fun n220 => I8 (.int .i64 (IntKind.wrap .i64 (n220 + 1))) h209 ∧ μ9 (.int .i64 (IntKind.wrap .i64 (n220 + 1))) h209 < μ9 i_10 h12))) X) X)) X) X)
 (∃ v221, cellH h12 (Addr.add ⟨Array.size h7, 0, none⟩ 0) = some v221 ∧
 CallX Try.prog ω 19 [r6] h12 (fun r222 h223 =>
 cellH h223 (Addr.add ⟨Array.size h7, 0, none⟩ 0) = some v221 ∧ CallX Try.prog ω 20 [r222, v221] h223 (fun r224 h225 =>
 R r224 h225) X) X)) X))) X
def A_pipewrightlaw_LedgerDoes : Ann :=
 (.two .leaf (.two (.two .leaf (.two (.two .leaf .leaf) .leaf)) (.two (.two .leaf (.two (.two .leaf .leaf) .leaf)) (.two .leaf (.two .leaf (.two (.two .leaf (.one (.loop [23, 24, 25, 26, 29, 30, 31, 32, 6, 34, 35, 36, 37, 33, 38, 39, 7, 8, 41, 42, 43, 44, 40, 45, 46, 9, 10, 47, 48, 49, 50, 51, 52, 53, 54, 2, 55, 56, 57, 58, 59, 78, 77, 79, 80, 81, 82, 83, 84, 85, 86, 87, 88, 11, 89, 90, 91, 92, 93, 94, 95, 96, 97, 98, 99, 100, 101, 102, 103, 104, 105, 106, 107, 108, 109, 110, 111, 112, 113, 114, 115, 116, 118, 117, 119, 120, 121, 122, 123, 124, 125, 126, 127, 128, 129, 130, 12, 131, 132, 133, 134, 135, 136, 137, 138, 139, 140, 141, 142, 143, 144, 145, 146, 147, 148, 149, 151, 150, 152, 153, 154, 155, 156, 157, 158, 159, 160, 161, 162, 163, 164, 165, 166, 167, 168, 169, 170, 171, 172, 173, 174, 175, 176, 177, 178, 179, 180, 181, 182, 183, 185, 184, 186, 187, 188, 189, 190, 191, 192, 193, 194, 195, 60, 61, 62, 63, 64, 65, 66, 67, 68, 69, 70, 71, 72, 73, 74, 75, 76, 196, 197, 13, 198, 199, 200, 201, 202, 203, 204, 14, 205, 206, 207, 208, 211, 212, 213, 214, 209, 210, 27, 28, 5] [5] (.two (.two .leaf (.two .leaf .leaf)) (.two (.one (.two .leaf (.two .leaf (.two .leaf (.two (.two (.jb [47, 48, 49, 50, 51, 52, 53, 54] 54 .leaf) (.two (.two .leaf .leaf) .leaf)) (.two (.two .leaf (.join [78, 77, 79, 80, 81, 82, 83, 84, 85, 86, 87, 88, 11, 89, 90, 91, 92, 93, 2, 94, 95, 96, 97, 98, 99, 100, 101, 102, 103, 104, 105, 106, 107, 108, 109, 110, 111, 112, 113, 114, 115, 116, 118, 117, 119, 120, 121, 122, 123, 124, 125, 126, 127, 128, 129, 130, 12, 131, 132, 133, 134, 135, 136, 137, 138, 139, 140, 141, 142, 143, 144, 145, 146, 147, 148, 149, 151, 150, 152, 153, 154, 155, 156, 157, 158, 159, 160, 161, 162, 163, 164, 165, 166, 167, 168, 169, 170, 171, 172, 173, 174, 175, 176, 177, 178, 179, 180, 181, 182, 183, 185, 184, 186, 187, 188, 189, 190, 191, 192, 193, 194, 195, 60, 61, 62, 63, 64, 65, 66, 67, 68, 69, 70, 71, 72, 73, 74, 75, 76] [] (.one (.two (.two .leaf (.join [79, 77, 80] [77] (.two .leaf (.two .leaf (.join [80, 77] [77] (.two .leaf .leaf)))))) (.join [81, 82, 83, 84, 85, 86, 87, 88, 11, 89, 90, 91, 92, 93, 2, 94, 95, 96, 97, 98, 99, 100, 101, 102, 103, 104, 105, 106, 107, 108, 109, 110, 111, 112, 113, 114, 115, 116, 118, 117, 119, 120, 121, 122, 123, 124, 125, 126, 127, 128, 129, 130, 12, 131, 132, 133, 134, 135, 136, 137, 138, 139, 140, 141, 142, 143, 144, 145, 146, 147, 148, 149, 151, 150, 152, 153, 154, 155, 156, 157, 158, 159, 160, 161, 162, 163, 164, 165, 166, 167, 168, 169, 170, 171, 172, 173, 174, 175, 176, 177, 178, 179, 180, 181, 182, 183, 185, 184, 186, 187, 188, 189, 190, 191, 192, 193, 194, 195, 60, 61, 62, 63, 64, 65, 66, 67, 68, 69, 70, 71, 72, 73, 74, 75, 76] [] (.two (.two .leaf (.two (.two .leaf (.two (.two (.two .leaf (.two (.two .leaf .leaf) .leaf)) .leaf) .leaf)) (.two (.two .leaf (.two (.two .leaf .leaf) .leaf)) (.plan [0, 1, 2, 3, 4, 5, 6, 7, 8, 9, 10, 11, 12, 13, 14, 15, 16])))) (.two (.two .leaf (.join [119, 117] [117] (.two .leaf .leaf))) (.join [120, 121, 122, 123, 124, 125, 126, 127, 128, 129, 130, 12, 131, 132, 133, 134, 135, 136, 137, 138, 2, 139, 140, 141, 142, 143, 144, 145, 146, 147, 148, 149, 151, 150, 152, 153, 154, 155, 156, 157, 158, 159, 160, 161, 162, 163, 164, 165, 166, 167, 168, 169, 170, 171, 172, 173, 174, 175, 176, 177, 178, 179, 180, 181, 182, 183, 185, 184, 186, 187, 188, 189, 190, 191, 192, 193, 194, 195, 60, 61, 62, 63, 64, 65, 66, 67, 68, 69, 70, 71, 72, 73, 74, 75, 76] [] (.two (.two (.join [120, 121, 122, 123, 124, 125, 126, 127, 128, 129, 130, 12] [12] .leaf) (.two (.two .leaf (.two (.two .leaf .leaf) .leaf)) (.two .leaf (.join [140, 141, 142, 143, 144, 145, 146, 147, 148, 149] [] (.two (.plan [0, 1, 2, 3, 4, 5, 6, 7, 8, 9, 10]) .leaf))))) (.two .leaf (.join [152, 153, 154, 155, 156, 157, 158, 159, 160, 161, 162, 2, 163, 164, 165, 166, 167, 168, 169, 170, 171, 172, 173, 174, 175, 176, 177, 178, 179, 180, 181, 182, 183, 185, 184, 186, 187, 188, 189, 190, 191, 192, 193, 194, 195, 60, 61, 62, 63, 64, 65, 66, 67, 68, 69, 70, 71, 72, 73, 74, 75, 76] [] (.two (.two (.two (.join [152, 153, 154, 155, 156, 157, 158, 159, 160, 161, 162] [162] .leaf) (.two (.two .leaf .leaf) .leaf)) (.two .leaf (.join [164, 165, 166, 167, 168, 169, 170, 171, 172, 173, 174, 175, 176, 177, 178, 179, 180, 181, 182, 183] [] (.two (.two (.plan [0, 1, 2, 3, 4, 5, 6, 7, 8]) (.plan [0, 1, 2, 3, 4, 5, 6, 7, 8, 9, 10, 11, 12])) .leaf)))) (.two .leaf (.join [186, 187, 188, 189, 190, 191, 192, 193, 194, 195, 2, 60, 61, 62, 63, 64, 65, 66, 67, 68, 69, 70, 71, 72, 73, 74, 75, 76] [] (.two (.two (.plan [0, 1, 2, 4, 5, 6, 3, 7, 8, 9]) (.two (.two .leaf .leaf) .leaf)) (.two (.plan [0, 1, 2, 3, 4, 5, 6, 8, 9, 10, 11, 12, 13, 14, 7, 15, 16]) (.two (.two .leaf .leaf) .leaf))))))))))))))))) (.two .leaf (.two (.two .leaf (.two (.two .leaf .leaf) .leaf)) (.two .leaf (.one (.loop [205, 206, 207, 208, 211, 212, 213, 214, 209, 210, 14] [14] (.two (.two .leaf (.two .leaf .leaf)) (.two (.one .leaf) .leaf))))))))))))) .leaf))))) (.two (.plan [0, 2, 3, 4, 5, 1, 6, 7]) .leaf)))))))
theorem C_pipewrightlaw_LedgerDoes (ω : Amb) (l_p : Value) (h : Hp) (R : Value → Hp → Prop) (X : List PanicEntry → Hp → Prop) (hk : W_pipewrightlaw_LedgerDoes ω l_p h R X) : CallX Try.prog ω 3 [l_p] h R X :=
 callX_of (an := A_pipewrightlaw_LedgerDoes) Try.func3 ((show fnX Try.prog ω A_pipewrightlaw_LedgerDoes Try.f3 [l_p] h R X = W_pipewrightlaw_LedgerDoes ω l_p h R X by kernel_rfl) ▸ hk)

/-- pipewright/pipewrightlaw.LedgerOnce -/
abbrev n_pipewrightlaw_LedgerOnce : Nat := 4
def W_pipewrightlaw_LedgerOnce (ω : Amb) (l_p task_p : Value) (h : Hp) (R : Value → Hp → Prop) (X : List PanicEntry → Hp → Prop) : Prop :=
 CallX Try.prog ω 7 [] h (fun r0 h1 =>
 asB r0 fun b2 => cond (!b2)
 (R (.bool false) h1)
 (asSl l_p fun a3 l4 c5 => cond (decide (((l4 : Int) : Int) > 100))
 (R (.bool true) h1)
 (CallX Try.prog ω 8 [] h1 (fun r6 h7 =>
 ∃ (I8 : Value → Hp → Prop) (μ9 : Value → Hp → Nat), I8 (.int .i64 0) h7 ∧ ∀ i_10 (d11 : Nat → Value) (h12 : Hp), I8 i_10 h12 →
 asSl l_p fun a13 l14 c15 => asK .i64 i_10 fun n16 => cond (decide ((n16 : Int) < (l14 : Int)))
 (∃ J17 : Hp → Prop,
 (asSl1 l_p fun a20 l21 c22 => asI i_10 fun n23 => 0 ≤ (n23 : Int) ∧ n23 < (l21 : Int) ∧ ∃ v24, cellH h12 (Addr.add (Addr.add a20 (Int.toNat n23 * 5)) 0) = some v24 ∧
 asI v24 fun n25 => (8 : Int) ≠ 0 ∧ ∃ J26 : Hp → Prop,
 (∃ J29 : Value → Hp → Prop,
 (cond ((IntKind.wrap .i64 (Int.tmod (IntKind.wrap .u64 n25) 8)) == (0 : Int))
 (J29 (.bool ((IntKind.wrap .i64 (Int.tmod (IntKind.wrap .u64 n25) 8)) == (0 : Int))) h12)
 (∃ J33 : Value → Hp → Prop,
 (cond ((IntKind.wrap .i64 (Int.tmod (IntKind.wrap .u64 n25) 8)) == (1 : Int))
 (J33 (.bool ((IntKind.wrap .i64 (Int.tmod (IntKind.wrap .u64 n25) 8)) == (1 : Int))) h12)
 (J33 (.bool ((IntKind.wrap .i64 (Int.tmod (IntKind.wrap .u64 n25) 8)) == (2 : Int))) h12)) ∧
 ∀ t43_34 (d35 : Nat → Value) (h36 : Hp), J33 t43_34 h36 →
 J29 t43_34 h36)) ∧
 ∀ t43_30 (d31 : Nat → Value) (h32 : Hp), J29 t43_30 h32 →
 ∃ J37 : Hp → Prop,
 (asB t43_30 fun b40 => cond b40
 (asSl1 l_p fun a41 l42 c43 => asI i_10 fun n44 => 0 ≤ (n44 : Int) ∧ n44 < (l42 : Int) ∧ ∃ v45, cellH h32 (Addr.add (Addr.add a41 (Int.toNat n44 * 5)) 3) = some v45 ∧
 asSl1 l_p fun a46 l47 c48 => asI i_10 fun n49 => 0 ≤ (n49 : Int) ∧ n49 < (l47 : Int) ∧ ∃ v50, cellH h32 (Addr.add (Addr.add a46 (Int.toNat n49 * 5)) 4) = some v50 ∧
 asSl1 l_p fun a51 l52 c53 => asI i_10 fun n54 => 0 ≤ (n54 : Int) ∧ n54 < (l52 : Int) ∧ ∃ v55, cellH h32 (Addr.add (Addr.add a51 (Int.toNat n54 * 5)) 2) = some v55 ∧
 CallX Try.prog ω 11 [r6, v45, v50, v55] h32 (fun r56 h57 =>
 J37 h57) X)
 (∃ J58 : Value → Hp → Prop,
 (cond ((IntKind.wrap .i64 (Int.tmod (IntKind.wrap .u64 n25) 8)) == (3 : Int))
 (J58 (.bool ((IntKind.wrap .i64 (Int.tmod (IntKind.wrap .u64 n25) 8)) == (3 : Int))) h32)
 (∃ J62 : Value → Hp → Prop,
 (cond ((IntKind.wrap .i64 (Int.tmod (IntKind.wrap .u64 n25) 8)) == (4 : Int))
 (J62 (.bool ((IntKind.wrap .i64 (Int.tmod (IntKind.wrap .u64 n25) 8)) == (4 : Int))) h32)
 (J62 (.bool ((IntKind.wrap .i64 (Int.tmod (IntKind.wrap .u64 n25) 8)) == (7 : Int))) h32)) ∧
 ∀ t64_63 (d64 : Nat → Value) (h65 : Hp), J62 t64_63 h65 →
 J58 t64_63 h65)) ∧
 ∀ t64_59 (d60 : Nat → Value) (h61 : Hp), J58 t64_59 h61 →
 ∃ J66 : Hp → Prop,
 (asB t64_59 fun b69 => cond b69
 (asSl1 l_p fun a70 l71 c72 => asI i_10 fun n73 => 0 ≤ (n73 : Int) ∧ n73 < (l71 : Int) ∧ ∃ v74, cellH h61 (Addr.add (Addr.add a70 (Int.toNat n73 * 5)) 1) = some v74 ∧
 asSl1 l_p fun a75 l76 c77 => asI i_10 fun n78 => 0 ≤ (n78 : Int) ∧ n78 < (l76 : Int) ∧ ∃ v79, cellH h61 (Addr.add (Addr.add a75 (Int.toNat n78 * 5)) 2) = some v79 ∧
 CallX Try.prog ω 12 [r6, v74, v79] h61 (fun r80 h81 =>
 J66 h81) X)
 (asSl1 l_p fun a82 l83 c84 => asI i_10 fun n85 => 0 ≤ (n85 : Int) ∧ n85 < (l83 : Int) ∧ ∃ v86, cellH h61 (Addr.add (Addr.add a82 (Int.toNat n85 * 5)) 1) = some v86 ∧
 CallX Try.prog ω 13 [r6, v86] h61 (fun r87 h88 =>
 J66 h88) X)) ∧
 ∀  (d67 : Nat → Value) (h68 : Hp), J66 h68 →
 J37 h68)) ∧
 ∀  (d38 : Nat → Value) (h39 : Hp), J37 h39 →
 J26 h39) ∧
 ∀  (d27 : Nat → Value) (h28 : Hp), J26 h28 →
 J17 h28) ∧
 ∀  (d18 : Nat → Value) (h19 : Hp), J17 h19 →
 asK .i64 i_10 fun n89 => I8 (.int .i64 (IntKind.wrap .i64 (n89 + 1))) h19 ∧ μ9 (.int .i64 (IntKind.wrap .i64 (n89 + 1))) h19 < μ9 i_10 h12)
 (CallX Try.prog ω 19 [r6] h12 (fun r90 h91 =>
 ∃ (I92 : Value → Hp → Prop) (μ93 : Value → Hp → Nat), I92 (.int .i64 0) h91 ∧ ∀ e_94 (d95 : Nat → Value) (h96 : Hp), I92 e_94 h96 →
 asSl r90 fun a97 l98 c99 => asK .i64 e_94 fun n100 => cond (decide ((n100 : Int) < (l98 : Int)))
 (CallX Try.prog ω 10 [r6, e_94] h96 (fun r101 h102 =>
 asT r101 fun T103 => asO T103[0]? fun v104 => asT r101 fun T105 => asO T105[1]? fun v106 => asA v104 fun A107 => A107.size = 4 ∧ (∀ u ∈ A107.toList, one u) ∧ storeK (Array.push h102 (.cells #[(.int .i64 0), (.bool false), (.int .i64 0), (.int .i64 0)] 36 (0, 0))) ⟨Array.size h102, 0, none⟩ A107.toList fun h108 =>
 ∃ β109 : Bool,
 (asB v106 fun b111 => cond (!b111)
 (((.bool true) : Value) = .bool β109 ∧ h108 = h108)
 (∃ C112, cellsH h108 ⟨Array.size h102, 0, none⟩ 4 C112 ∧
 asSl1 r90 fun a113 l114 c115 => asI e_94 fun n116 => 0 ≤ (n116 : Int) ∧ n116 < (l114 : Int) ∧ ∃ C117, cellsH h108 (Addr.add a113 (Int.toNat n116 * 4)) 4 C117 ∧
 asO C112.toArray[0]? fun v118 => asO C117.toArray[0]? fun v119 => asK .i64 v118 fun n120 => asK .i64 v119 fun n121 => asO C112.toArray[1]? fun v122 => asO C117.toArray[1]? fun v123 => asB v122 fun b124 => asB v123 fun b125 => asO C112.toArray[2]? fun v126 => asO C117.toArray[2]? fun v127 => asK .i64 v126 fun n128 => asK .i64 v127 fun n129 => asO C112.toArray[3]? fun v130 => asO C117.toArray[3]? fun v131 => asK .i64 v130 fun n132 => asK .i64 v131 fun n133 => cond (!((n120 == (n121 : Int)) && ((b124 == b125) && ((n128 == (n129 : Int)) && ((n132 == (n133 : Int)) && true)))))
 (((.bool true) : Value) = .bool β109 ∧ h108 = h108)
 (∃ v134, cellH h108 (Addr.add ⟨Array.size h102, 0, none⟩ 3) = some v134 ∧
 asK .i64 v134 fun n135 => ∃ v136, cellH h108 (Addr.add ⟨Array.size h102, 0, none⟩ 2) = some v136 ∧
 asK .i64 v136 fun n137 => cond (!((decide ((n135 : Int) > 0)) == (n137 == ((-2) : Int))))
 (((.bool true) : Value) = .bool β109 ∧ h108 = h108)
 (∃ v138, cellH h108 (Addr.add ⟨Array.size h102, 0, none⟩ 2) = some v138 ∧
 asK .i64 v138 fun n139 => ((.bool (decide ((n139 : Int) < (-2)))) : Value) = .bool β109 ∧ h108 = h108)))) ∧
 ∀ d110 : Nat → Value,
 cond β109
 (R (.bool false) h108)
 (∃ v140, cellH h108 (Addr.add ⟨Array.size h102, 0, none⟩ 2) = some v140 ∧
 oneK task_p (oneK v140 (∃ (I141 : Value → Hp → Prop) (μ142 : Value → Hp → Nat), I141 (.int .i64 0) (Array.push h108 (.cells (List.toArray [(.int .i64 (-2)), (.int .i64 (-1)), task_p, v140]) 3 (0, 0))) ∧ ∀ k_143 (d144 : Nat → Value) (h145 : Hp), I141 k_143 h145 →
 asK .i64 k_143 fun n146 => cond (decide ((n146 : Int) < (4 : Int)))
 (asI k_143 fun n147 => 0 ≤ (n147 : Int) ∧ n147 < (4 : Int) ∧ ∃ v148, cellH h145 (Addr.add ⟨Array.size h108, 0, none⟩ (Int.toNat n147 * 1)) = some v148 ∧
 CallX Try.prog ω 15 [r6, v148] h145 (fun r149 h150 =>
 ∃ (I151 : Value → Value → Hp → Prop) (μ152 : Value → Value → Hp → Nat), I151 (.bool false) (.int .i64 0) h150 ∧ ∀ found_153 i_154 (d155 : Nat → Value) (h156 : Hp), I151 found_153 i_154 h156 →
 asSl r149 fun a157 l158 c159 => asK .i64 i_154 fun n160 => cond (decide ((n160 : Int) < (l158 : Int)))
 (∃ J161 : Value → Hp → Prop,
 (asB found_153 fun b165 => cond b165
 (J161 (.bool true) h156)
 (asSl1 r149 fun a166 l167 c168 => asI i_154 fun n169 => 0 ≤ (n169 : Int) ∧ n169 < (l167 : Int) ∧ ∃ v170, cellH h156 (Addr.add a166 (Int.toNat n169 * 1)) = some v170 ∧
 asK .i64 v170 fun n171 => asK .i64 e_94 fun n172 => J161 (.bool (n171 == (n172 : Int))) h156)) ∧
 ∀ found_162 (d163 : Nat → Value) (h164 : Hp), J161 found_162 h164 →
 asK .i64 i_154 fun n173 => I151 found_162 (.int .i64 (IntKind.wrap .i64 (n173 + 1))) h164 ∧ μ152 found_162 (.int .i64 (IntKind.wrap .i64 (n173 + 1))) h164 < μ152 found_153 i_154 h156)
 (∃ v174, cellH h156 (Addr.add ⟨Array.size h102, 0, none⟩ 2) = some v174 ∧
 asI k_143 fun n175 => 0 ≤ (n175 : Int) ∧ n175 < (4 : Int) ∧ ∃ v176, cellH h156 (Addr.add ⟨Array.size h108, 0, none⟩ (Int.toNat n175 * 1)) = some v176 ∧
 asK .i64 v174 fun n177 => asK .i64 v176 fun n178 => asB found_153 fun b179 => cond (!(b179 == (n177 == (n178 : Int))))
 (R (.bool false) h156)
 (∃ J180 : Value → Hp → Prop,
 (asI k_143 fun n184 => 0 ≤ (n184 : Int) ∧ n184 < (4 : Int) ∧ ∃ v185, cellH h156 (Addr.add ⟨Array.size h108, 0, none⟩ (Int.toNat n184 * 1)) = some v185 ∧
 asK .i64 v185 fun n186 => cond (decide ((n186 : Int) ≥ 0))
 (asI k_143 fun n187 => 0 ≤ (n187 : Int) ∧ n187 < (4 : Int) ∧ ∃ v188, cellH h156 (Addr.add ⟨Array.size h108, 0, none⟩ (Int.toNat n187 * 1)) = some v188 ∧
 CallX Try.prog ω 17 [r6, e_94, v188, (.int .i64 3)] h156 (fun r189 h190 =>
 asK .i64 r189 fun n191 => asB found_153 fun b192 => J180 (.bool (!((n191 == (0 : Int)) == b192))) h190) X)
 (J180 (.bool false) h156)) ∧
 ∀ t174_181 (d182 : Nat → Value) (h183 : Hp), J180 t174_181 h183 →
 asB t174_181 fun b193 => cond b193
 (R (.bool false) h183)
 (asK .i64 k_143 fun n194 => I141 (.int .i64 (IntKind.wrap .i64 (n194 + 1))) h183 ∧ μ142 (.int .i64 (IntKind.wrap .i64 (n194 + 1))) h183 < μ142 k_143 h145)))) X)
 (∃ J195 : Value → Hp → Prop,
 (∃ v199, cellH h145 (Addr.add ⟨Array.size h102, 0, none⟩ 2) = some v199 ∧
 asK .i64 v199 fun n200 => cond (n200 == ((-2) : Int))
 (CallX Try.prog ω 17 [r6, e_94, task_p, (.int .i64 2)] h145 (fun r201 h202 =>
 asK .i64 r201 fun n203 => cond (n203 != (3 : Int))
 (J195 (.bool true) h202)
 (CallX Try.prog ω 12 [r6, e_94, (.int .i64 0)] h202 (fun r204 h205 =>
 J195 r204 h205) X)) X)
 (J195 (.bool false) h145)) ∧
 ∀ t189_196 (d197 : Nat → Value) (h198 : Hp), J195 t189_196 h198 →
 asB t189_196 fun b206 => cond b206
 (R (.bool false) h198)
 (asK .i64 e_94 fun n207 => I92 (.int .i64 (IntKind.wrap .i64 (n207 + 1))) h198 ∧ μ93 (.int .i64 (IntKind.wrap .i64 (n207 + 1))) h198 < μ93 e_94 h96)))))) X)
 (R (.bool true) h96)) X)) X))) X
def A_pipewrightlaw_LedgerOnce : Ann :=
 (.two .leaf (.two (.two .leaf (.two (.two .leaf .leaf) .leaf)) (.two (.two .leaf (.two (.two .leaf .leaf) .leaf)) (.two .leaf (.two (.two .leaf (.one (.loop [22, 23, 24, 25, 28, 29, 30, 31, 32, 33, 34, 35, 44, 43, 45, 46, 47, 48, 49, 50, 51, 52, 53, 54, 55, 56, 57, 58, 59, 60, 61, 62, 63, 65, 64, 66, 67, 68, 69, 70, 71, 72, 73, 74, 75, 76, 77, 78, 79, 36, 37, 38, 39, 40, 41, 42, 26, 27, 6] [6] (.two (.two .leaf (.two .leaf .leaf)) (.two (.join [28, 29, 30, 31, 32, 33, 34, 35, 44, 43, 45, 46, 47, 48, 49, 50, 51, 52, 53, 54, 55, 56, 57, 58, 59, 60, 61, 62, 63, 65, 64, 66, 67, 68, 69, 70, 71, 72, 73, 74, 75, 76, 77, 78, 79, 36, 37, 38, 39, 40, 41, 42] [] (.one (.two .leaf (.join [44, 43, 45, 46, 47, 48, 49, 50, 51, 52, 53, 54, 55, 56, 57, 58, 59, 60, 61, 62, 63, 65, 64, 66, 67, 68, 69, 70, 71, 72, 73, 74, 75, 76, 77, 78, 79, 36, 37, 38, 39, 40, 41, 42] [] (.one (.two (.two .leaf (.join [45, 43, 46] [43] (.two .leaf (.two .leaf (.join [46, 43] [43] (.two .leaf .leaf)))))) (.join [47, 48, 49, 50, 51, 52, 53, 54, 55, 56, 57, 58, 59, 60, 61, 62, 63, 65, 64, 66, 67, 68, 69, 70, 71, 72, 73, 74, 75, 76, 77, 78, 79, 36, 37, 38, 39, 40, 41, 42] [] (.two (.plan [0, 1, 2, 3, 4, 5, 6, 7, 8, 9, 10, 11, 12, 13, 14, 15, 16]) (.two (.two .leaf (.join [66, 64, 67] [64] (.two .leaf (.two .leaf (.join [67, 64] [64] (.two .leaf .leaf)))))) (.join [68, 69, 70, 71, 72, 73, 74, 75, 76, 77, 78, 79, 36, 37, 38, 39, 40, 41, 42] [] (.two (.plan [0, 1, 2, 3, 4, 5, 6, 7, 8, 9, 10, 11]) .leaf))))))))))) .leaf))))) (.two .leaf (.two (.two .leaf (.one (.loop [82, 83, 84, 85, 89, 90, 91, 88, 92, 93, 9, 10, 94, 95, 96, 97, 98, 99, 100, 101, 102, 103, 104, 105, 106, 107, 108, 109, 110, 111, 112, 113, 114, 115, 116, 117, 4, 118, 119, 120, 121, 11, 12, 122, 123, 124, 125, 128, 129, 130, 131, 132, 133, 13, 14, 15, 134, 135, 136, 137, 140, 141, 142, 143, 144, 145, 146, 147, 148, 138, 139, 149, 150, 151, 152, 153, 154, 155, 156, 157, 158, 159, 160, 161, 162, 163, 164, 165, 166, 167, 168, 169, 170, 171, 172, 173, 174, 126, 127, 175, 176, 177, 178, 179, 180, 181, 182, 183, 184, 185, 186, 187, 188, 189, 86, 87, 8] [8] (.two (.two .leaf (.two .leaf .leaf)) (.two (.one (.two .leaf (.two (.two (.jb [94, 95, 96, 97, 98, 99, 100, 101, 102, 103, 104, 105, 106, 107, 108, 109, 110, 111, 112, 113, 114, 115, 116, 117] 117 (.plan [0, 1, 2, 3, 4, 5, 6, 7, 8, 9, 10, 11, 12, 13, 14, 15, 16, 17, 18, 19, 20, 21, 22, 23])) (.two (.two .leaf .leaf) .leaf)) (.two .leaf (.two (.two .leaf (.one (.loop [122, 123, 124, 125, 128, 129, 130, 131, 132, 133, 13, 14, 15, 134, 135, 136, 137, 140, 141, 142, 143, 144, 145, 146, 147, 148, 138, 139, 149, 150, 151, 152, 153, 154, 155, 156, 157, 4, 158, 159, 160, 161, 162, 163, 164, 165, 166, 167, 168, 169, 170, 171, 172, 173, 174, 126, 127, 12] [12] (.two (.two .leaf (.two .leaf .leaf)) (.two (.one (.two .leaf (.two .leaf (.two (.two .leaf (.one (.loop [134, 135, 136, 137, 140, 141, 142, 143, 144, 145, 146, 147, 148, 14, 138, 139, 15] [14, 15] (.two (.two .leaf (.two .leaf .leaf)) (.two (.one (.join [140, 141, 142, 143, 144, 145, 146, 147, 148, 14] [14] .leaf)) .leaf))))) (.two (.two (.plan [0, 1, 2, 3, 4, 5, 6, 7, 8]) (.two (.two .leaf .leaf) .leaf)) (.two (.join [158, 159, 160, 161, 162, 163, 164, 165, 166, 167, 168, 169, 170, 171, 172, 173, 174] [174] .leaf) (.two (.two .leaf .leaf) .leaf))))))) .leaf))))) (.two (.join [175, 176, 177, 178, 179, 180, 181, 182, 183, 184, 185, 186, 187, 188, 189] [189] .leaf) (.two (.two .leaf .leaf) .leaf))))))) .leaf))))) (.two .leaf .leaf))))))))
theorem C_pipewrightlaw_LedgerOnce (ω : Amb) (l_p task_p : Value) (h : Hp) (R : Value → Hp → Prop) (X : List PanicEntry → Hp → Prop) (hk : W_pipewrightlaw_LedgerOnce ω l_p task_p h R X) : CallX Try.prog ω 4 [l_p, task_p] h R X :=
 callX_of (an := A_pipewrightlaw_LedgerOnce) Try.func4 ((show fnX Try.prog ω A_pipewrightlaw_LedgerOnce Try.f4 [l_p, task_p] h R X = W_pipewrightlaw_LedgerOnce ω l_p task_p h R X by kernel_rfl) ▸ hk)

/-- pipewright/pipewrightlaw.ChansDoes -/
abbrev n_pipewrightlaw_ChansDoes : Nat := 5
def W_pipewrightlaw_ChansDoes (ω : Amb) (l_p : Value) (h : Hp) (R : Value → Hp → Prop) (X : List PanicEntry → Hp → Prop) : Prop :=
 CallX Try.prog ω 21 [] h (fun r0 h1 =>
 asB r0 fun b2 => cond (!b2)
 (R (.bool false) h1)
 (asSl l_p fun a3 l4 c5 => cond (decide (((l4 : Int) : Int) > 200))
 (R (.bool true) h1)
 (CallX Try.prog ω 22 [] h1 (fun r6 h7 =>
 ∃ (I8 : Value → Hp → Prop) (μ9 : Value → Hp → Nat), I8 (.int .i64 0) (Array.push h7 (.cells #[(.slice none 0 0), (.slice none 0 0), (.slice none 0 0), (.slice none 0 0)] 32 (0, 0))) ∧ ∀ i_10 (d11 : Nat → Value) (h12 : Hp), I8 i_10 h12 →
 asSl l_p fun a13 l14 c15 => asK .i64 i_10 fun n16 => cond (decide ((n16 : Int) < (l14 : Int)))
 (∃ J17 : Value → Hp → Prop,
 (asSl1 l_p fun a21 l22 c23 => asI i_10 fun n24 => 0 ≤ (n24 : Int) ∧ n24 < (l22 : Int) ∧ ∃ v25, cellH h12 (Addr.add (Addr.add a21 (Int.toNat n24 * 5)) 1) = some v25 ∧
 asSl1 l_p fun a26 l27 c28 => asI i_10 fun n29 => 0 ≤ (n29 : Int) ∧ n29 < (l27 : Int) ∧ ∃ v30, cellH h12 (Addr.add (Addr.add a26 (Int.toNat n29 * 5)) 1) = some v30 ∧
 CallX Try.prog ω 23 [r6, v25] h12 (fun r31 h32 =>
 cellH h32 (Addr.add (Addr.add a26 (Int.toNat n29 * 5)) 1) = some v30 ∧ CallX Try.prog ω 24 [(.pointer (some ⟨Array.size h7, 0, none⟩)), v30] h32 (fun r33 h34 =>
 asB r31 fun b35 => asB r33 fun b36 => cond (!(b35 == b36))
 (J17 (.bool true) h34)
 (asSl1 l_p fun a37 l38 c39 => asI i_10 fun n40 => 0 ≤ (n40 : Int) ∧ n40 < (l38 : Int) ∧ ∃ C41, cellsH h34 (Addr.add a37 (Int.toNat n40 * 5)) 5 C41 ∧
 CallX Try.prog ω 25 [r6, (.pointer (some ⟨Array.size h7, 0, none⟩)), (.agg C41.toArray)] h34 (fun r42 h43 =>
 asB r42 fun b44 => cond (!b44)
 (J17 (.bool true) h43)
 (CallX Try.prog ω 27 [r6] h43 (fun r45 h46 =>
 CallX Try.prog ω 28 [(.pointer (some ⟨Array.size h7, 0, none⟩))] h46 (fun r47 h48 =>
 CallX Try.prog ω 26 [r45, r47] h48 (fun r49 h50 =>
 asB r49 fun b51 => cond (!b51)
 (J17 (.bool true) h50)
 (nnK r6 (asP r6 fun p52 =>
 ∃ v53, cellH h50 (Addr.add p52 0) = some v53 ∧
 ∃ v54, cellH h50 (Addr.add ⟨Array.size h7, 0, none⟩ 0) = some v54 ∧
 CallX Try.prog ω 19 [v53] h50 (fun r55 h56 =>
 cellH h56 (Addr.add ⟨Array.size h7, 0, none⟩ 0) = some v54 ∧ CallX Try.prog ω 20 [r55, v54] h56 (fun r57 h58 =>
 asB r57 fun b59 => J17 (.bool (!b59)) h58) X) X))) X) X) X)) X)) X) X) ∧
 ∀ t65_18 (d19 : Nat → Value) (h20 : Hp), J17 t65_18 h20 →
 asB t65_18 fun b60 => cond b60
 (R (.bool false) h20)
 (asK .i64 i_10 fun n61 => I8 (.int .i64 (IntKind.wrap .i64 (n61 + 1))) h20 ∧ μ9 (.int .i64 (IntKind.wrap .i64 (n61 + 1))) h20 < μ9 i_10 h12))
 (R (.bool true) h12)) X))) X
def A_pipewrightlaw_ChansDoes : Ann :=
 (.two .leaf (.two (.two .leaf (.two (.two .leaf .leaf) .leaf)) (.two (.two .leaf (.two (.two .leaf .leaf) .leaf)) (.two .leaf (.two .leaf (.two (.two .leaf (.one (.loop [14, 15, 16, 17, 20, 21, 22, 23, 24, 25, 26, 27, 28, 29, 30, 31, 32, 33, 34, 35, 36, 37, 38, 39, 40, 41, 42, 43, 44, 45, 46, 47, 48, 49, 50, 51, 52, 53, 54, 55, 56, 57, 58, 59, 60, 61, 62, 63, 64, 65, 2, 18, 19, 5] [5] (.two (.two .leaf (.two .leaf .leaf)) (.two (.one (.two (.join [20, 21, 22, 23, 24, 25, 26, 27, 28, 29, 30, 31, 32, 33, 34, 35, 36, 37, 38, 39, 40, 41, 42, 43, 44, 45, 46, 47, 48, 49, 50, 51, 52, 53, 54, 55, 56, 57, 58, 59, 60, 61, 62, 63, 64, 65] [65] (.plan [0, 1, 2, 3, 4, 5, 7, 8, 9, 10, 11, 12, 6, 13, 14, 15, 16, 17, 18, 19, 20, 21, 22, 23, 24, 25, 26, 28, 27, 29, 30, 31, 32, 33, 34, 35, 36, 37, 39, 40, 41, 42, 38, 43, 44, 45])) (.two (.two .leaf .leaf) .leaf))) .leaf))))) (.two .leaf .leaf)))))))
theorem C_pipewrightlaw_ChansDoes (ω : Amb) (l_p : Value) (h : Hp) (R : Value → Hp → Prop) (X : List PanicEntry → Hp → Prop) (hk : W_pipewrightlaw_ChansDoes ω l_p h R X) : CallX Try.prog ω 5 [l_p] h R X :=
 callX_of (an := A_pipewrightlaw_ChansDoes) Try.func5 ((show fnX Try.prog ω A_pipewrightlaw_ChansDoes Try.f5 [l_p] h R X = W_pipewrightlaw_ChansDoes ω l_p h R X by kernel_rfl) ▸ hk)

/-- pipewright/pipewrightlaw.ChansOnce -/
abbrev n_pipewrightlaw_ChansOnce : Nat := 6
def W_pipewrightlaw_ChansOnce (ω : Amb) (l_p : Value) (h : Hp) (R : Value → Hp → Prop) (X : List PanicEntry → Hp → Prop) : Prop :=
 CallX Try.prog ω 21 [] h (fun r0 h1 =>
 asB r0 fun b2 => cond (!b2)
 (R (.bool false) h1)
 (asSl l_p fun a3 l4 c5 => cond (decide (((l4 : Int) : Int) > 200))
 (R (.bool true) h1)
 (CallX Try.prog ω 22 [] h1 (fun r6 h7 =>
 ∃ (I8 : Value → Hp → Prop) (μ9 : Value → Hp → Nat), I8 (.int .i64 0) h7 ∧ ∀ i_10 (d11 : Nat → Value) (h12 : Hp), I8 i_10 h12 →
 asSl l_p fun a13 l14 c15 => asK .i64 i_10 fun n16 => cond (decide ((n16 : Int) < (l14 : Int)))
 (∃ J17 : Hp → Prop,
 (asSl1 l_p fun a20 l21 c22 => asI i_10 fun n23 => 0 ≤ (n23 : Int) ∧ n23 < (l21 : Int) ∧ ∃ C24, cellsH h12 (Addr.add a20 (Int.toNat n23 * 5)) 5 C24 ∧
 C24.toArray.size = 5 ∧ (∀ u ∈ C24.toArray.toList, one u) ∧ storeK (Array.push h12 (.cells #[(.int .i64 0), (.int .i64 0), (.int .i64 0), (.int .i64 0), (.bool false)] 54 (0, 0))) ⟨Array.size h12, 0, none⟩ C24.toArray.toList fun h25 =>
 nnK r6 (asP r6 fun p26 =>
 ∃ v27, cellH h25 (Addr.add p26 0) = some v27 ∧
 ∃ v28, cellH h25 (Addr.add ⟨Array.size h12, 0, none⟩ 1) = some v28 ∧
 (CallX Try.prog ω 10 [v27, v28] h25 (fun r29 h30 =>
 asT r29 fun T31 => asO T31[0]? fun v32 => asT r29 fun T33 => asO T33[1]? fun v34 => asA v32 fun A35 => A35.size = 4 ∧ (∀ u ∈ A35.toList, one u) ∧ storeK (Array.push h30 (.cells #[(.int .i64 0), (.bool false), (.int .i64 0), (.int .i64 0)] 36 (0, 0))) ⟨Array.size h30, 0, none⟩ A35.toList fun h36 =>
 ∃ β37 : Bool,
 (∃ v39, cellH h36 (Addr.add ⟨Array.size h12, 0, none⟩ 0) = some v39 ∧
 asI v39 fun n40 => (10 : Int) ≠ 0 ∧ cond (decide (((IntKind.wrap .i64 (Int.tmod (IntKind.wrap .u64 n40) 10)) : Int) ≥ 8))
 (asB v34 fun b41 => cond (!b41)
 (((.bool true) : Value) = .bool β37 ∧ h36 = h36)
 (∃ v42, cellH h36 (Addr.add ⟨Array.size h30, 0, none⟩ 2) = some v42 ∧
 asK .i64 v42 fun n43 => ((.bool (decide ((n43 : Int) < 0))) : Value) = .bool β37 ∧ h36 = h36))
 (((.bool false) : Value) = .bool β37 ∧ h36 = h36)) ∧
 ∀ d38 : Nat → Value,
 cond β37
 (J17 h36)
 (∃ C44, cellsH (Array.push h36 (.cells #[(.slice none 0 0), (.slice none 0 0), (.slice none 0 0), (.slice none 0 0)] 32 (0, 0))) ⟨Array.size h12, 0, none⟩ 5 C44 ∧
 CallX Try.prog ω 25 [r6, (.pointer (some ⟨Array.size h36, 0, none⟩)), (.agg C44.toArray)] (Array.push h36 (.cells #[(.slice none 0 0), (.slice none 0 0), (.slice none 0 0), (.slice none 0 0)] 32 (0, 0))) (fun r45 h46 =>
 J17 h46) X)) X) ∧
(cellH (Array.push h25 (.cells #[(.int .i64 0), (.bool false), (.int .i64 0), (.int .i64 0)] 36 (0, 0))) (Addr.add ⟨Array.size h12, 0, none⟩ 1) = some v28 ∧ cellH (Array.push h25 (.cells #[(.int .i64 0), (.bool false), (.int .i64 0), (.int .i64 0)] 36 (0, 0))) (Addr.add p26 0) = some v27 ∧ CallX Try.prog ω 10 [v27, v28] (Array.push h25 (.cells #[(.int .i64 0), (.bool false), (.int .i64 0), (.int .i64 0)] 36 (0, 0))) (fun r47 h48 =>
 asT r47 fun T49 => asO T49[0]? fun v50 => asT r47 fun T51 => asO T51[1]? fun v52 => asA v50 fun A53 => A53.size = 4 ∧ (∀ u ∈ A53.toList, one u) ∧ storeK h48 ⟨Array.size h25, 0, none⟩ A53.toList fun h54 =>
 ∃ β55 : Bool,
 (∃ v57, cellH h54 (Addr.add ⟨Array.size h12, 0, none⟩ 0) = some v57 ∧
 asI v57 fun n58 => (10 : Int) ≠ 0 ∧ cond (decide (((IntKind.wrap .i64 (Int.tmod (IntKind.wrap .u64 n58) 10)) : Int) ≥ 8))
 (asB v52 fun b59 => cond (!b59)
 (((.bool true) : Value) = .bool β55 ∧ h54 = h54)
 (∃ v60, cellH h54 (Addr.add ⟨Array.size h25, 0, none⟩ 2) = some v60 ∧
 asK .i64 v60 fun n61 => ((.bool (decide ((n61 : Int) < 0))) : Value) = .bool β55 ∧ h54 = h54))
 (((.bool false) : Value) = .bool β55 ∧ h54 = h54)) ∧
 ∀ d56 : Nat → Value,
 cond β55
 (J17 h54)
 (∃ C62, cellsH (Array.push h54 (.cells #[(.slice none 0 0), (.slice none 0 0), (.slice none 0 0), (.slice none 0 0)] 32 (0, 0))) ⟨Array.size h12, 0, none⟩ 5 C62 ∧
 CallX Try.prog ω 25 [r6, (.pointer (some ⟨Array.size h54, 0, none⟩)), (.agg C62.toArray)] (Array.push h54 (.cells #[(.slice none 0 0), (.slice none 0 0), (.slice none 0 0), (.slice none 0 0)] 32 (0, 0))) (fun r63 h64 =>
 J17 h64) X)) X))) ∧
 ∀  (d18 : Nat → Value) (h19 : Hp), J17 h19 →
 asK .i64 i_10 fun n65 => I8 (.int .i64 (IntKind.wrap .i64 (n65 + 1))) h19 ∧ μ9 (.int .i64 (IntKind.wrap .i64 (n65 + 1))) h19 < μ9 i_10 h12)
 (nnK r6 (asP r6 fun p66 =>
 ∃ v67, cellH h12 (Addr.add p66 0) = some v67 ∧
 CallX Try.prog ω 19 [v67] h12 (fun r68 h69 =>
 ∃ (I70 : Value → Hp → Prop) (μ71 : Value → Hp → Nat), I70 (.int .i64 0) h69 ∧ ∀ e_72 (d73 : Nat → Value) (h74 : Hp), I70 e_72 h74 →
 asSl r68 fun a75 l76 c77 => asK .i64 e_72 fun n78 => cond (decide ((n78 : Int) < (l76 : Int)))
 (nnK r6 (asP r6 fun p79 =>
 ∃ v80, cellH h74 (Addr.add p79 0) = some v80 ∧
 CallX Try.prog ω 10 [v80, e_72] h74 (fun r81 h82 =>
 asT r81 fun T83 => asO T83[0]? fun v84 => asT r81 fun T85 => asO T85[1]? fun v86 => asA v84 fun A87 => A87.size = 4 ∧ (∀ u ∈ A87.toList, one u) ∧ storeK (Array.push h82 (.cells #[(.int .i64 0), (.bool false), (.int .i64 0), (.int .i64 0)] 36 (0, 0))) ⟨Array.size h82, 0, none⟩ A87.toList fun h88 =>
 ∃ J89 : Value → Hp → Prop,
 (∃ v93, cellH h88 (Addr.add ⟨Array.size h82, 0, none⟩ 2) = some v93 ∧
 asK .i64 v93 fun n94 => cond (decide ((n94 : Int) ≥ 0))
 (CallX Try.prog ω 29 [r6, e_72] h88 (fun r95 h96 =>
 asB r95 fun b97 => J89 (.bool (!b97)) h96) X)
 (J89 (.bool false) h88)) ∧
 ∀ t92_90 (d91 : Nat → Value) (h92 : Hp), J89 t92_90 h92 →
 asB t92_90 fun b98 => cond b98
 (R (.bool false) h92)
 (asK .i64 e_72 fun n99 => I70 (.int .i64 (IntKind.wrap .i64 (n99 + 1))) h92 ∧ μ71 (.int .i64 (IntKind.wrap .i64 (n99 + 1))) h92 < μ71 e_72 h74)) X))
 (nnK r6 (asP r6 fun p100 =>
 ∃ v101, cellH h74 (Addr.add p100 0) = some v101 ∧
 CallX Try.prog ω 19 [v101] h74 (fun r102 h103 =>
 CallX Try.prog ω 27 [r6] h103 (fun r104 h105 =>
 ∃ (I106 : Value → Hp → Prop) (μ107 : Value → Hp → Nat), I106 (.int .i64 0) h105 ∧ ∀ e_108 (d109 : Nat → Value) (h110 : Hp), I106 e_108 h110 →
 asSl r102 fun a111 l112 c113 => asK .i64 e_108 fun n114 => cond (decide ((n114 : Int) < (l112 : Int)))
 (asSl1 r102 fun a115 l116 c117 => asI e_108 fun n118 => 0 ≤ (n118 : Int) ∧ n118 < (l116 : Int) ∧ ∃ C119, cellsH h110 (Addr.add a115 (Int.toNat n118 * 4)) 4 C119 ∧
 C119.toArray.size = 4 ∧ (∀ u ∈ C119.toArray.toList, one u) ∧ storeK (Array.push h110 (.cells #[(.int .i64 0), (.bool false), (.int .i64 0), (.int .i64 0)] 36 (0, 0))) ⟨Array.size h110, 0, none⟩ C119.toArray.toList fun h120 =>
 ∃ J121 : Value → Hp → Prop,
 (∃ v125, cellH h120 (Addr.add ⟨Array.size h110, 0, none⟩ 2) = some v125 ∧
 asK .i64 v125 fun n126 => cond (decide ((n126 : Int) ≥ 0))
 (J121 (.bool true) h120)
 (∃ v127, cellH h120 (Addr.add ⟨Array.size h110, 0, none⟩ 3) = some v127 ∧
 asK .i64 v127 fun n128 => cond (decide ((n128 : Int) > 1))
 (J121 (.bool true) h120)
 (∃ v129, cellH h120 (Addr.add ⟨Array.size h110, 0, none⟩ 3) = some v129 ∧
 asK .i64 v129 fun n130 => ∃ v131, cellH h120 (Addr.add ⟨Array.size h110, 0, none⟩ 2) = some v131 ∧
 asK .i64 v131 fun n132 => J121 (.bool (!((n130 == (1 : Int)) == (n132 == ((-2) : Int))))) h120))) ∧
 ∀ t110_122 (d123 : Nat → Value) (h124 : Hp), J121 t110_122 h124 →
 asB t110_122 fun b133 => cond b133
 (R (.bool false) h124)
 (∃ J134 : Value → Hp → Prop,
 (∃ v138, cellH h124 (Addr.add ⟨Array.size h110, 0, none⟩ 2) = some v138 ∧
 asK .i64 v138 fun n139 => cond (n139 == ((-1) : Int))
 (∃ v140, cellH h124 (Addr.add ⟨Array.size h110, 0, none⟩ 0) = some v140 ∧
 asSl1 r104 fun a141 l142 c143 => asI v140 fun n144 => 0 ≤ (n144 : Int) ∧ n144 < (l142 : Int) ∧ ∃ v145, cellH h124 (Addr.add (Addr.add a141 (Int.toNat n144 * 4)) 1) = some v145 ∧
 asK .i64 v145 fun n146 => cond (n146 == (0 : Int))
 (∃ v147, cellH h124 (Addr.add ⟨Array.size h110, 0, none⟩ 1) = some v147 ∧
 J134 v147 h124)
 (J134 (.bool false) h124))
 (J134 (.bool false) h124)) ∧
 ∀ t128_135 (d136 : Nat → Value) (h137 : Hp), J134 t128_135 h137 →
 asB t128_135 fun b148 => cond b148
 (R (.bool false) h137)
 (∃ J149 : Value → Hp → Prop,
 (∃ v153, cellH h137 (Addr.add ⟨Array.size h110, 0, none⟩ 1) = some v153 ∧
 asB v153 fun b154 => cond (!b154)
 (∃ v155, cellH h137 (Addr.add ⟨Array.size h110, 0, none⟩ 0) = some v155 ∧
 asSl1 r104 fun a156 l157 c158 => asI v155 fun n159 => 0 ≤ (n159 : Int) ∧ n159 < (l157 : Int) ∧ ∃ v160, cellH h137 (Addr.add (Addr.add a156 (Int.toNat n159 * 4)) 2) = some v160 ∧
 ∃ v161, cellH h137 (Addr.add ⟨Array.size h110, 0, none⟩ 2) = some v161 ∧
 asK .i64 v161 fun n162 => asB v160 fun b163 => J149 (.bool (!(b163 == (n162 == ((-2) : Int))))) h137)
 (J149 (.bool false) h137)) ∧
 ∀ t145_150 (d151 : Nat → Value) (h152 : Hp), J149 t145_150 h152 →
 asB t145_150 fun b164 => cond b164
 (R (.bool false) h152)
 (asK .i64 e_108 fun n165 => I106 (.int .i64 (IntKind.wrap .i64 (n165 + 1))) h152 ∧ μ107 (.int .i64 (IntKind.wrap .i64 (n165 + 1))) h152 < μ107 e_108 h110))))
 (∃ (I166 : Value → Hp → Prop) (μ167 : Value → Hp → Nat), I166 (.int .i64 0) h110 ∧ ∀ k_168 (d169 : Nat → Value) (h170 : Hp), I166 k_168 h170 →
 asSl r104 fun a171 l172 c173 => asK .i64 k_168 fun n174 => cond (decide ((n174 : Int) < (l172 : Int)))
 (∃ β175 : Bool,
 (asSl1 r104 fun a177 l178 c179 => asI k_168 fun n180 => 0 ≤ (n180 : Int) ∧ n180 < (l178 : Int) ∧ ∃ v181, cellH h170 (Addr.add (Addr.add a177 (Int.toNat n180 * 4)) 2) = some v181 ∧
 asB v181 fun b182 => cond b182
 (asSl1 r104 fun a183 l184 c185 => asI k_168 fun n186 => 0 ≤ (n186 : Int) ∧ n186 < (l184 : Int) ∧ ∃ v187, cellH h170 (Addr.add (Addr.add a183 (Int.toNat n186 * 4)) 3) = some v187 ∧
 asSl v187 fun a188 l189 c190 => cond (decide (((l189 : Int) : Int) > 0))
 (((.bool true) : Value) = .bool β175 ∧ h170 = h170)
 (asSl1 r104 fun a191 l192 c193 => asI k_168 fun n194 => 0 ≤ (n194 : Int) ∧ n194 < (l192 : Int) ∧ ∃ v195, cellH h170 (Addr.add (Addr.add a191 (Int.toNat n194 * 4)) 0) = some v195 ∧
 asK .i64 v195 fun n196 => cond (decide ((n196 : Int) > 0))
 (asSl1 r104 fun a197 l198 c199 => asI k_168 fun n200 => 0 ≤ (n200 : Int) ∧ n200 < (l198 : Int) ∧ ∃ v201, cellH h170 (Addr.add (Addr.add a197 (Int.toNat n200 * 4)) 3) = some v201 ∧
 asSl v201 fun a202 l203 c204 => asSl1 r104 fun a205 l206 c207 => asI k_168 fun n208 => 0 ≤ (n208 : Int) ∧ n208 < (l206 : Int) ∧ ∃ v209, cellH h170 (Addr.add (Addr.add a205 (Int.toNat n208 * 4)) 0) = some v209 ∧
 asK .i64 v209 fun n210 => ((.bool (decide (((l203 : Int) : Int) > n210))) : Value) = .bool β175 ∧ h170 = h170)
 (((.bool false) : Value) = .bool β175 ∧ h170 = h170)))
 (asSl1 r104 fun a211 l212 c213 => asI k_168 fun n214 => 0 ≤ (n214 : Int) ∧ n214 < (l212 : Int) ∧ ∃ v215, cellH h170 (Addr.add (Addr.add a211 (Int.toNat n214 * 4)) 0) = some v215 ∧
 asK .i64 v215 fun n216 => cond (decide ((n216 : Int) > 0))
 (asSl1 r104 fun a217 l218 c219 => asI k_168 fun n220 => 0 ≤ (n220 : Int) ∧ n220 < (l218 : Int) ∧ ∃ v221, cellH h170 (Addr.add (Addr.add a217 (Int.toNat n220 * 4)) 3) = some v221 ∧
 asSl v221 fun a222 l223 c224 => asSl1 r104 fun a225 l226 c227 => asI k_168 fun n228 => 0 ≤ (n228 : Int) ∧ n228 < (l226 : Int) ∧ ∃ v229, cellH h170 (Addr.add (Addr.add a225 (Int.toNat n228 * 4)) 0) = some v229 ∧
 asK .i64 v229 fun n230 => ((.bool (decide (((l223 : Int) : Int) > n230))) : Value) = .bool β175 ∧ h170 = h170)
 (((.bool false) : Value) = .bool β175 ∧ h170 = h170))) ∧
 ∀ d176 : Nat → Value,
 cond β175
 (R (.bool false) h170)
 (∃ (I231 : Value → Value → Hp → Prop) (μ232 : Value → Value → Hp → Nat), I231 (.int .i64 0) (.int .i64 0) h170 ∧ ∀ n_233 e_234 (d235 : Nat → Value) (h236 : Hp), I231 n_233 e_234 h236 →
 asSl r102 fun a237 l238 c239 => asK .i64 e_234 fun n240 => cond (decide ((n240 : Int) < (l238 : Int)))
 (∃ J241 : Value → Hp → Prop,
 (∃ β245 : Bool,
 (asSl1 r102 fun a247 l248 c249 => asI e_234 fun n250 => 0 ≤ (n250 : Int) ∧ n250 < (l248 : Int) ∧ ∃ v251, cellH h236 (Addr.add (Addr.add a247 (Int.toNat n250 * 4)) 0) = some v251 ∧
 asK .i64 v251 fun n252 => asK .i64 k_168 fun n253 => cond (n252 == (n253 : Int))
 (asSl1 r102 fun a254 l255 c256 => asI e_234 fun n257 => 0 ≤ (n257 : Int) ∧ n257 < (l255 : Int) ∧ ∃ v258, cellH h236 (Addr.add (Addr.add a254 (Int.toNat n257 * 4)) 1) = some v258 ∧
 asB v258 fun b259 => cond b259
 (asSl1 r102 fun a260 l261 c262 => asI e_234 fun n263 => 0 ≤ (n263 : Int) ∧ n263 < (l261 : Int) ∧ ∃ v264, cellH h236 (Addr.add (Addr.add a260 (Int.toNat n263 * 4)) 2) = some v264 ∧
 asK .i64 v264 fun n265 => ((.bool (n265 != ((-2) : Int))) : Value) = .bool β245 ∧ h236 = h236)
 (((.bool false) : Value) = .bool β245 ∧ h236 = h236))
 (((.bool false) : Value) = .bool β245 ∧ h236 = h236)) ∧
 ∀ d246 : Nat → Value,
 ∃ J266 : Value → Hp → Prop,
 (cond β245
 (asK .i64 n_233 fun n270 => J266 (.int .i64 (IntKind.wrap .i64 (n270 + 1))) h236)
 (J266 n_233 h236)) ∧
 ∀ n_267 (d268 : Nat → Value) (h269 : Hp), J266 n_267 h269 →
 J241 n_267 h269) ∧
 ∀ n_242 (d243 : Nat → Value) (h244 : Hp), J241 n_242 h244 →
 asK .i64 e_234 fun n271 => I231 n_242 (.int .i64 (IntKind.wrap .i64 (n271 + 1))) h244 ∧ μ232 n_242 (.int .i64 (IntKind.wrap .i64 (n271 + 1))) h244 < μ232 n_233 e_234 h236)
 (asSl1 r104 fun a272 l273 c274 => asI k_168 fun n275 => 0 ≤ (n275 : Int) ∧ n275 < (l273 : Int) ∧ ∃ v276, cellH h236 (Addr.add (Addr.add a272 (Int.toNat n275 * 4)) 1) = some v276 ∧
 asK .i64 n_233 fun n277 => asK .i64 v276 fun n278 => cond (n277 != (n278 : Int))
 (R (.bool false) h236)
 (asK .i64 k_168 fun n279 => I166 (.int .i64 (IntKind.wrap .i64 (n279 + 1))) h236 ∧ μ167 (.int .i64 (IntKind.wrap .i64 (n279 + 1))) h236 < μ167 k_168 h170))))
 (R (.bool true) h170))) X) X))) X))) X))) X
def A_pipewrightlaw_ChansOnce : Ann :=
 (.two .leaf (.two (.two .leaf (.two (.two .leaf .leaf) .leaf)) (.two (.two .leaf (.two (.two .leaf .leaf) .leaf)) (.two .leaf (.two (.two .leaf (.one (.loop [24, 25, 26, 27, 30, 31, 32, 33, 5, 35, 36, 37, 38, 39, 40, 41, 34, 42, 43, 6, 7, 44, 45, 46, 47, 48, 49, 50, 51, 52, 53, 54, 55, 56, 57, 58, 59, 60, 61, 62, 63, 28, 29, 4] [4] (.two (.two .leaf (.two .leaf .leaf)) (.two (.join [30, 31, 32, 33, 5, 35, 36, 37, 38, 39, 40, 41, 34, 42, 43, 6, 7, 44, 45, 46, 47, 48, 49, 50, 51, 52, 53, 54, 55, 56, 57, 58, 59, 60, 61, 62, 63] [] (.one (.two .leaf (.two (.plan [0, 1, 2, 3, 4, 5, 6, 7, 8, 9, 10, 11, 12]) (.two (.two (.jb [44, 45, 46, 47, 48, 49, 50, 51, 52, 53, 54, 55, 56, 57, 58] 58 .leaf) (.two .leaf .leaf)) .leaf))))) .leaf))))) (.two .leaf (.two (.two .leaf (.one (.loop [69, 70, 71, 72, 76, 77, 78, 79, 80, 81, 75, 82, 83, 10, 11, 84, 85, 86, 87, 88, 89, 90, 91, 92, 2, 73, 74, 9] [9] (.two (.two .leaf (.two .leaf .leaf)) (.two (.one (.two .leaf (.two (.join [84, 85, 86, 87, 88, 89, 90, 91, 92] [92] .leaf) (.two (.two .leaf .leaf) .leaf)))) .leaf))))) (.two .leaf (.two .leaf (.two (.two .leaf (.one (.loop [100, 101, 102, 103, 106, 107, 108, 109, 14, 111, 112, 113, 114, 115, 116, 117, 118, 119, 120, 121, 122, 123, 124, 125, 126, 127, 110, 2, 129, 130, 131, 132, 133, 134, 135, 136, 137, 138, 139, 140, 141, 142, 143, 144, 128, 146, 147, 148, 149, 150, 151, 152, 153, 154, 155, 156, 157, 158, 159, 160, 145, 104, 105, 13] [13] (.two (.two .leaf (.two .leaf .leaf)) (.two (.one (.two .leaf (.one (.two (.join [111, 112, 113, 114, 115, 116, 117, 118, 119, 120, 121, 122, 123, 124, 125, 126, 127, 110] [110] .leaf) (.two (.two .leaf .leaf) (.two (.join [129, 130, 131, 132, 133, 134, 135, 136, 137, 138, 139, 140, 141, 142, 143, 144, 128] [128] .leaf) (.two (.two .leaf .leaf) (.two (.join [146, 147, 148, 149, 150, 151, 152, 153, 154, 155, 156, 157, 158, 159, 160, 145] [145] (.plan [0, 1, 2, 3, 4, 5, 6, 7, 8, 9, 10, 11, 12, 13, 14, 15])) (.two (.two .leaf .leaf) .leaf))))))))) .leaf))))) (.two (.two .leaf (.one (.loop [161, 162, 163, 164, 167, 168, 169, 170, 171, 172, 173, 174, 175, 176, 177, 178, 179, 180, 181, 182, 183, 184, 185, 186, 187, 188, 189, 190, 191, 192, 193, 194, 195, 196, 197, 198, 199, 200, 201, 202, 2, 16, 17, 203, 204, 205, 206, 209, 210, 211, 212, 213, 214, 215, 216, 217, 218, 219, 220, 221, 222, 223, 224, 225, 226, 227, 228, 229, 230, 231, 232, 207, 208, 233, 234, 235, 236, 237, 238, 239, 165, 166, 15] [15] (.two (.two .leaf (.two .leaf .leaf)) (.two (.one (.two (.two (.jb [167, 168, 169, 170, 171, 172, 173, 174, 175, 176, 177, 178, 179, 180, 181, 182, 183, 184, 185, 186, 187, 188, 189, 190, 191, 192, 193, 194, 195, 196, 197, 198, 199, 200, 201, 202] 202 (.plan [0, 1, 2, 3, 4, 5, 6, 7, 8, 9, 10, 11, 12, 13, 14, 15, 16, 17, 18, 19, 20, 21, 22, 23, 24, 25, 26, 27, 28, 29, 30, 31, 32, 33, 34, 35])) (.two (.two .leaf .leaf) .leaf)) (.two .leaf (.two (.two .leaf (.one (.loop [203, 204, 205, 206, 209, 210, 211, 212, 213, 214, 215, 216, 217, 218, 219, 220, 221, 222, 223, 224, 225, 226, 227, 228, 229, 230, 231, 232, 16, 207, 208, 17] [16, 17] (.two (.two .leaf (.two .leaf .leaf)) (.two (.join [209, 210, 211, 212, 213, 214, 215, 216, 217, 218, 219, 220, 221, 222, 223, 224, 225, 226, 227, 228, 229, 230, 231, 232, 16] [16] (.one (.two (.jb [209, 210, 211, 212, 213, 214, 215, 216, 217, 218, 219, 220, 221, 222, 223, 224, 225, 226, 227, 228, 229, 230] 230 .leaf) (.join [231, 232, 16] [16] (.two .leaf .leaf))))) .leaf))))) (.two .leaf (.two (.two .leaf .leaf) .leaf)))))) .leaf))))) (.two .leaf .leaf))))))))))))
theorem C_pipewrightlaw_ChansOnce (ω : Amb) (l_p : Value) (h : Hp) (R : Value → Hp → Prop) (X : List PanicEntry → Hp → Prop) (hk : W_pipewrightlaw_ChansOnce ω l_p h R X) : CallX Try.prog ω 6 [l_p] h R X :=
 callX_of (an := A_pipewrightlaw_ChansOnce) Try.func6 ((show fnX Try.prog ω A_pipewrightlaw_ChansOnce Try.f6 [l_p] h R X = W_pipewrightlaw_ChansOnce ω l_p h R X by kernel_rfl) ▸ hk)

/-- pipewright/pipewrightlaw.ledgerBegun -/
abbrev n_pipewrightlaw_ledgerBegun : Nat := 7
def W_pipewrightlaw_ledgerBegun (ω : Amb) (h : Hp) (R : Value → Hp → Prop) (X : List PanicEntry → Hp → Prop) : Prop :=
 CallX Try.prog ω 8 [] h (fun r0 h1 =>
 ∃ J2 : Value → Hp → Prop,
 (CallX Try.prog ω 11 [r0, (.int .i64 3), (.bool true), (.int .i64 0)] h1 (fun r6 h7 =>
 asK .i64 r6 fun n8 => cond (n8 == (0 : Int))
 (CallX Try.prog ω 17 [r0, (.int .i64 0), (.int .i64 1), (.int .i64 2)] h7 (fun r9 h10 =>
 asK .i64 r9 fun n11 => cond (n11 == (4 : Int))
 (CallX Try.prog ω 13 [r0, (.int .i64 0)] h10 (fun r12 h13 =>
 asB r12 fun b14 => cond b14
 (CallX Try.prog ω 13 [r0, (.int .i64 0)] h13 (fun r15 h16 =>
 asB r15 fun b17 => cond (!b17)
 (CallX Try.prog ω 17 [r0, (.int .i64 0), (.int .i64 0), (.int .i64 1)] h16 (fun r18 h19 =>
 asK .i64 r18 fun n20 => J2 (.bool (n20 == (2 : Int))) h19) X)
 (J2 (.bool false) h16)) X)
 (J2 (.bool false) h13)) X)
 (J2 (.bool false) h10)) X)
 (J2 (.bool false) h7)) X) ∧
 ∀ t0_3 (d4 : Nat → Value) (h5 : Hp), J2 t0_3 h5 →
 R t0_3 h5) X
def A_pipewrightlaw_ledgerBegun : Ann :=
 (.two .leaf (.two .leaf (.two (.join [3, 4, 5, 6, 7, 8, 9, 10, 11, 12, 13, 14, 15, 16, 17, 18, 19, 20, 21, 22, 23, 24, 0] [0] .leaf) .leaf)))
theorem C_pipewrightlaw_ledgerBegun (ω : Amb) (h : Hp) (R : Value → Hp → Prop) (X : List PanicEntry → Hp → Prop) (hk : W_pipewrightlaw_ledgerBegun ω  h R X) : CallX Try.prog ω 7 [] h R X :=
 callX_of (an := A_pipewrightlaw_ledgerBegun) Try.func7 ((show fnX Try.prog ω A_pipewrightlaw_ledgerBegun Try.f7 [] h R X = W_pipewrightlaw_ledgerBegun ω  h R X by kernel_rfl) ▸ hk)

/-- pipewright/ledger.New -/
abbrev n_ledger_New : Nat := 8
def W_ledger_New (ω : Amb) (h : Hp) (R : Value → Hp → Prop) (X : List PanicEntry → Hp → Prop) : Prop :=
 R (.pointer (some ⟨Array.size h, 0, none⟩)) (Array.push h (.cells #[(.slice none 0 0)] 67 (0, 0)))
def A_ledger_New : Ann :=
 (.two .leaf (.two .leaf .leaf))
theorem C_ledger_New (ω : Amb) (h : Hp) (R : Value → Hp → Prop) (X : List PanicEntry → Hp → Prop) (hk : W_ledger_New ω  h R X) : CallX Try.prog ω 8 [] h R X :=
 callX_of (an := A_ledger_New) Try.func8 ((show fnX Try.prog ω A_ledger_New Try.f8 [] h R X = W_ledger_New ω  h R X by kernel_rfl) ▸ hk)

/-- (*pipewright/pipewrightref.Book).At -/
abbrev n_p_pipewrightref_Book_At : Nat := 9
def W_p_pipewrightref_Book_At (ω : Amb) (b_p e_p : Value) (h : Hp) (R : Value → Hp → Prop) (X : List PanicEntry → Hp → Prop) : Prop :=
 ∃ β0 : Bool,
 (asK .i64 e_p fun n2 => cond (decide ((n2 : Int) < 0))
 (((.bool true) : Value) = .bool β0 ∧ (Array.push h (.cells #[(.int .i64 0), (.bool false), (.int .i64 0), (.int .i64 0)] 36 (0, 0))) = (Array.push h (.cells #[(.int .i64 0), (.bool false), (.int .i64 0), (.int .i64 0)] 36 (0, 0))))
 (nnK b_p (asP b_p fun p3 =>
 ∃ v4, cellH (Array.push h (.cells #[(.int .i64 0), (.bool false), (.int .i64 0), (.int .i64 0)] 36 (0, 0))) (Addr.add p3 0) = some v4 ∧
 asSl v4 fun a5 l6 c7 => asK .i64 e_p fun n8 => ((.bool (decide ((n8 : Int) ≥ (l6 : Int)))) : Value) = .bool β0 ∧ (Array.push h (.cells #[(.int .i64 0), (.bool false), (.int .i64 0), (.int .i64 0)] 36 (0, 0))) = (Array.push h (.cells #[(.int .i64 0), (.bool false), (.int .i64 0), (.int .i64 0)] 36 (0, 0)))))) ∧
 ∀ d1 : Nat → Value,
 cond β0
 (4 = 4 ∧ (∀ u ∈ [(.int .i64 0), (.bool false), (.int .i64 0), (.int .i64 0)], one u) ∧ storeK (Array.push h (.cells #[(.int .i64 0), (.bool false), (.int .i64 0), (.int .i64 0)] 36 (0, 0))) ⟨Array.size h, 0, none⟩ [(.int .i64 0), (.bool false), (.int .i64 0), (.int .i64 0)] fun h9 =>
 ∃ C10, cellsH h9 ⟨Array.size h, 0, none⟩ 4 C10 ∧ R (.tuple #[(.agg C10.toArray), (.bool false)]) h9)
 (nnK b_p (asP b_p fun p11 =>
 ∃ v12, cellH (Array.push h (.cells #[(.int .i64 0), (.bool false), (.int .i64 0), (.int .i64 0)] 36 (0, 0))) (Addr.add p11 0) = some v12 ∧
 asSl1 v12 fun a13 l14 c15 => asI e_p fun n16 => 0 ≤ (n16 : Int) ∧ n16 < (l14 : Int) ∧ ∃ C17, cellsH (Array.push h (.cells #[(.int .i64 0), (.bool false), (.int .i64 0), (.int .i64 0)] 36 (0, 0))) (Addr.add a13 (Int.toNat n16 * 4)) 4 C17 ∧
 C17.toArray.size = 4 ∧ (∀ u ∈ C17.toArray.toList, one u) ∧ storeK (Array.push h (.cells #[(.int .i64 0), (.bool false), (.int .i64 0), (.int .i64 0)] 36 (0, 0))) ⟨Array.size h, 0, none⟩ C17.toArray.toList fun h18 =>
 ∃ C19, cellsH h18 ⟨Array.size h, 0, none⟩ 4 C19 ∧ R (.tuple #[(.agg C19.toArray), (.bool true)]) h18))
def A_p_pipewrightref_Book_At : Ann :=
 (.two .leaf (.two (.two (.jb [6, 7, 8, 9, 10, 11, 12, 13, 14, 15, 16] 16 .leaf) (.two (.two .leaf .leaf) .leaf)) (.two .leaf .leaf)))
theorem C_p_pipewrightref_Book_At (ω : Amb) (b_p e_p : Value) (h : Hp) (R : Value → Hp → Prop) (X : List PanicEntry → Hp → Prop) (hk : W_p_pipewrightref_Book_At ω b_p e_p h R X) : CallX Try.prog ω 9 [b_p, e_p] h R X :=
 callX_of (an := A_p_pipewrightref_Book_At) Try.func9 ((show fnX Try.prog ω A_p_pipewrightref_Book_At Try.f9 [b_p, e_p] h R X = W_p_pipewrightref_Book_At ω b_p e_p h R X by kernel_rfl) ▸ hk)

/-- (*pipewright/ledger.Ledger).End -/
abbrev n_p_ledger_Ledger_End : Nat := 10
def W_p_ledger_Ledger_End (ω : Amb) (g_p e_p : Value) (h : Hp) (R : Value → Hp → Prop) (X : List PanicEntry → Hp → Prop) : Prop :=
 ∃ β0 : Bool,
 (asPo g_p fun q2 => cond (Option.isNone q2)
 (((.bool true) : Value) = .bool β0 ∧ (Array.push h (.cells #[(.int .i64 0), (.bool false), (.int .i64 0), (.int .i64 0)] 36 (0, 0))) = (Array.push h (.cells #[(.int .i64 0), (.bool false), (.int .i64 0), (.int .i64 0)] 36 (0, 0))))
 (asK .i64 e_p fun n3 => cond (decide ((n3 : Int) < 0))
 (((.bool true) : Value) = .bool β0 ∧ (Array.push h (.cells #[(.int .i64 0), (.bool false), (.int .i64 0), (.int .i64 0)] 36 (0, 0))) = (Array.push h (.cells #[(.int .i64 0), (.bool false), (.int .i64 0), (.int .i64 0)] 36 (0, 0))))
 (nnK g_p (asP g_p fun p4 =>
 ∃ v5, cellH (Array.push h (.cells #[(.int .i64 0), (.bool false), (.int .i64 0), (.int .i64 0)] 36 (0, 0))) (Addr.add p4 0) = some v5 ∧
 asSl v5 fun a6 l7 c8 => asK .i64 e_p fun n9 => ((.bool (decide ((n9 : Int) ≥ (l7 : Int)))) : Value) = .bool β0 ∧ (Array.push h (.cells #[(.int .i64 0), (.bool false), (.int .i64 0), (.int .i64 0)] 36 (0, 0))) = (Array.push h (.cells #[(.int .i64 0), (.bool false), (.int .i64 0), (.int .i64 0)] 36 (0, 0))))))) ∧
 ∀ d1 : Nat → Value,
 cond β0
 (4 = 4 ∧ (∀ u ∈ [(.int .i64 0), (.bool false), (.int .i64 0), (.int .i64 0)], one u) ∧ storeK (Array.push h (.cells #[(.int .i64 0), (.bool false), (.int .i64 0), (.int .i64 0)] 36 (0, 0))) ⟨Array.size h, 0, none⟩ [(.int .i64 0), (.bool false), (.int .i64 0), (.int .i64 0)] fun h10 =>
 ∃ C11, cellsH h10 ⟨Array.size h, 0, none⟩ 4 C11 ∧ R (.tuple #[(.agg C11.toArray), (.bool false)]) h10)
 (nnK g_p (asP g_p fun p12 =>
 ∃ v13, cellH (Array.push h (.cells #[(.int .i64 0), (.bool false), (.int .i64 0), (.int .i64 0)] 36 (0, 0))) (Addr.add p12 0) = some v13 ∧
 asSl1 v13 fun a14 l15 c16 => asI e_p fun n17 => 0 ≤ (n17 : Int) ∧ n17 < (l15 : Int) ∧ ∃ C18, cellsH (Array.push h (.cells #[(.int .i64 0), (.bool false), (.int .i64 0), (.int .i64 0)] 36 (0, 0))) (Addr.add a14 (Int.toNat n17 * 4)) 4 C18 ∧
 C18.toArray.size = 4 ∧ (∀ u ∈ C18.toArray.toList, one u) ∧ storeK (Array.push h (.cells #[(.int .i64 0), (.bool false), (.int .i64 0), (.int .i64 0)] 36 (0, 0))) ⟨Array.size h, 0, none⟩ C18.toArray.toList fun h19 =>
 ∃ C20, cellsH h19 ⟨Array.size h, 0, none⟩ 4 C20 ∧ R (.tuple #[(.agg C20.toArray), (.bool true)]) h19))
def A_p_ledger_Ledger_End : Ann :=
 (.two .leaf (.two (.two (.jb [6, 7, 8, 9, 10, 11, 12, 13, 14, 15, 16, 17, 18, 19, 20] 20 .leaf) (.two (.two .leaf .leaf) .leaf)) (.two .leaf .leaf)))
theorem C_p_ledger_Ledger_End (ω : Amb) (g_p e_p : Value) (h : Hp) (R : Value → Hp → Prop) (X : List PanicEntry → Hp → Prop) (hk : W_p_ledger_Ledger_End ω g_p e_p h R X) : CallX Try.prog ω 10 [g_p, e_p] h R X :=
 callX_of (an := A_p_ledger_Ledger_End) Try.func10 ((show fnX Try.prog ω A_p_ledger_Ledger_End Try.f10 [g_p, e_p] h R X = W_p_ledger_Ledger_End ω g_p e_p h R X by kernel_rfl) ▸ hk)

/-- (*pipewright/ledger.Ledger).Born -/
abbrev n_p_ledger_Ledger_Born : Nat := 11
def W_p_ledger_Ledger_Born (ω : Amb) (g_p channel_p send_p home_p : Value) (h : Hp) (R : Value → Hp → Prop) (X : List PanicEntry → Hp → Prop) : Prop :=
 ∃ β0 : Bool,
 (asPo g_p fun q2 => cond (Option.isNone q2)
 (((.bool true) : Value) = .bool β0 ∧ h = h)
 (asK .i64 home_p fun n3 => ((.bool (decide ((n3 : Int) < (-1)))) : Value) = .bool β0 ∧ h = h)) ∧
 ∀ d1 : Nat → Value,
 cond β0
 (R (.int .i64 (-1)) h)
 (nnK g_p (asP g_p fun p4 =>
 ∃ v5, cellH h (Addr.add p4 0) = some v5 ∧
 oneK channel_p (oneK send_p (oneK home_p (4 = 4 ∧ appK Try.prog 27 (Array.push h (.cells (List.toArray [channel_p, send_p, home_p, (.int .i64 0)]) 36 (0, 0))) v5 (.slice (some ⟨Array.size h, 0, none⟩) 1 1) fun w6 h7 =>
 nnK g_p (asP g_p fun p8 =>
 oneK w6 (storeK1 h7 (Addr.add p8 0) w6 fun h9 =>
 nnK g_p (asP g_p fun p10 =>
 ∃ v11, cellH h9 (Addr.add p10 0) = some v11 ∧
 asSl v11 fun a12 l13 c14 => R (.int .i64 (IntKind.wrap .i64 ((l13 : Int) - 1))) h9))))))))
def A_p_ledger_Ledger_Born : Ann :=
 (.two .leaf (.two (.two (.jb [9, 10, 11, 12, 13, 14] 14 .leaf) (.two (.two .leaf .leaf) .leaf)) (.two .leaf (.two .leaf .leaf))))
theorem C_p_ledger_Ledger_Born (ω : Amb) (g_p channel_p send_p home_p : Value) (h : Hp) (R : Value → Hp → Prop) (X : List PanicEntry → Hp → Prop) (hk : W_p_ledger_Ledger_Born ω g_p channel_p send_p home_p h R X) : CallX Try.prog ω 11 [g_p, channel_p, send_p, home_p] h R X :=
 callX_of (an := A_p_ledger_Ledger_Born) Try.func11 ((show fnX Try.prog ω A_p_ledger_Ledger_Born Try.f11 [g_p, channel_p, send_p, home_p] h R X = W_p_ledger_Ledger_Born ω g_p channel_p send_p home_p h R X by kernel_rfl) ▸ hk)

/-- (*pipewright/ledger.Ledger).Move -/
abbrev n_p_ledger_Ledger_Move : Nat := 12
def W_p_ledger_Ledger_Move (ω : Amb) (g_p e_p home_p : Value) (h : Hp) (R : Value → Hp → Prop) (X : List PanicEntry → Hp → Prop) : Prop :=
 CallX Try.prog ω 10 [g_p, e_p] h (fun r0 h1 =>
 asT r0 fun T2 => asO T2[0]? fun v3 => asT r0 fun T4 => asO T4[1]? fun v5 => asA v3 fun A6 => A6.size = 4 ∧ (∀ u ∈ A6.toList, one u) ∧ storeK (Array.push h1 (.cells #[(.int .i64 0), (.bool false), (.int .i64 0), (.int .i64 0)] 36 (0, 0))) ⟨Array.size h1, 0, none⟩ A6.toList fun h7 =>
 ∃ β8 : Bool,
 (asB v5 fun b10 => cond (!b10)
 (((.bool true) : Value) = .bool β8 ∧ h7 = h7)
 (asK .i64 home_p fun n11 => cond (decide ((n11 : Int) < (-1)))
 (((.bool true) : Value) = .bool β8 ∧ h7 = h7)
 (∃ v12, cellH h7 (Addr.add ⟨Array.size h1, 0, none⟩ 2) = some v12 ∧
 asK .i64 v12 fun n13 => ((.bool (n13 == ((-2) : Int))) : Value) = .bool β8 ∧ h7 = h7))) ∧
 ∀ d9 : Nat → Value,
 cond β8
 (R (.bool false) h7)
 (nnK g_p (asP g_p fun p14 =>
 ∃ v15, cellH h7 (Addr.add p14 0) = some v15 ∧
 asSl1 v15 fun a16 l17 c18 => asI e_p fun n19 => 0 ≤ (n19 : Int) ∧ n19 < (l17 : Int) ∧ oneK home_p (storeK1 h7 (Addr.add (Addr.add a16 (Int.toNat n19 * 4)) 2) home_p fun h20 =>
 R (.bool true) h20)))) X
def A_p_ledger_Ledger_Move : Ann :=
 (.two .leaf (.two .leaf (.two (.two (.jb [15, 16, 17, 18, 19, 20, 21, 22, 23, 24, 25] 25 .leaf) (.two (.two .leaf .leaf) .leaf)) (.two .leaf (.two .leaf .leaf)))))
theorem C_p_ledger_Ledger_Move (ω : Amb) (g_p e_p home_p : Value) (h : Hp) (R : Value → Hp → Prop) (X : List PanicEntry → Hp → Prop) (hk : W_p_ledger_Ledger_Move ω g_p e_p home_p h R X) : CallX Try.prog ω 12 [g_p, e_p, home_p] h R X :=
 callX_of (an := A_p_ledger_Ledger_Move) Try.func12 ((show fnX Try.prog ω A_p_ledger_Ledger_Move Try.f12 [g_p, e_p, home_p] h R X = W_p_ledger_Ledger_Move ω g_p e_p home_p h R X by kernel_rfl) ▸ hk)

/-- (*pipewright/ledger.Ledger).Gone -/
abbrev n_p_ledger_Ledger_Gone : Nat := 13
def W_p_ledger_Ledger_Gone (ω : Amb) (g_p e_p : Value) (h : Hp) (R : Value → Hp → Prop) (X : List PanicEntry → Hp → Prop) : Prop :=
 CallX Try.prog ω 10 [g_p, e_p] h (fun r0 h1 =>
 asT r0 fun T2 => asO T2[0]? fun v3 => asT r0 fun T4 => asO T4[1]? fun v5 => asA v3 fun A6 => A6.size = 4 ∧ (∀ u ∈ A6.toList, one u) ∧ storeK (Array.push h1 (.cells #[(.int .i64 0), (.bool false), (.int .i64 0), (.int .i64 0)] 36 (0, 0))) ⟨Array.size h1, 0, none⟩ A6.toList fun h7 =>
 asB v5 fun b8 => cond (!b8)
 (R (.bool false) h7)
 (nnK g_p (asP g_p fun p9 =>
 ∃ v10, cellH h7 (Addr.add p9 0) = some v10 ∧
 asSl1 v10 fun a11 l12 c13 => asI e_p fun n14 => 0 ≤ (n14 : Int) ∧ n14 < (l12 : Int) ∧ ∃ v15, cellH h7 (Addr.add (Addr.add a11 (Int.toNat n14 * 4)) 3) = some v15 ∧
 asK .i64 v15 fun n16 => asSl1 v10 fun a17 l18 c19 => asI e_p fun n20 => 0 ≤ (n20 : Int) ∧ n20 < (l18 : Int) ∧ storeK1 h7 (Addr.add (Addr.add a17 (Int.toNat n20 * 4)) 3) (.int .i64 (IntKind.wrap .i64 (n16 + 1))) fun h21 =>
 nnK g_p (asP g_p fun p22 =>
 ∃ v23, cellH h21 (Addr.add p22 0) = some v23 ∧
 asSl1 v23 fun a24 l25 c26 => asI e_p fun n27 => 0 ≤ (n27 : Int) ∧ n27 < (l25 : Int) ∧ storeK1 h21 (Addr.add (Addr.add a24 (Int.toNat n27 * 4)) 2) (.int .i64 (-2)) fun h28 =>
 ∃ v29, cellH h28 (Addr.add ⟨Array.size h1, 0, none⟩ 2) = some v29 ∧
 asK .i64 v29 fun n30 => R (.bool (n30 != ((-2) : Int))) h28)))) X
def A_p_ledger_Ledger_Gone : Ann :=
 (.two .leaf (.two .leaf (.two (.two .leaf (.two (.two .leaf .leaf) .leaf)) (.two .leaf (.two .leaf (.two .leaf .leaf))))))
theorem C_p_ledger_Ledger_Gone (ω : Amb) (g_p e_p : Value) (h : Hp) (R : Value → Hp → Prop) (X : List PanicEntry → Hp → Prop) (hk : W_p_ledger_Ledger_Gone ω g_p e_p h R X) : CallX Try.prog ω 13 [g_p, e_p] h R X :=
 callX_of (an := A_p_ledger_Ledger_Gone) Try.func13 ((show fnX Try.prog ω A_p_ledger_Ledger_Gone Try.f13 [g_p, e_p] h R X = W_p_ledger_Ledger_Gone ω g_p e_p h R X by kernel_rfl) ▸ hk)

/-- pipewright/pipewrightref.SameInts -/
abbrev n_pipewrightref_SameInts : Nat := 14
def W_pipewrightref_SameInts (ω : Amb) (a_p b_p : Value) (h : Hp) (R : Value → Hp → Prop) (X : List PanicEntry → Hp → Prop) : Prop :=
 asSl a_p fun a0 l1 c2 => asSl b_p fun a3 l4 c5 => cond ((l1 : Int) != ((l4 : Int) : Int))
 (R (.bool false) h)
 (∃ (I6 : Value → Hp → Prop) (μ7 : Value → Hp → Nat), I6 (.int .i64 0) h ∧ ∀ i_8 (d9 : Nat → Value) (h10 : Hp), I6 i_8 h10 →
 asSl a_p fun a11 l12 c13 => asK .i64 i_8 fun n14 => cond (decide ((n14 : Int) < (l12 : Int)))
 (asSl1 a_p fun a15 l16 c17 => asI i_8 fun n18 => 0 ≤ (n18 : Int) ∧ n18 < (l16 : Int) ∧ ∃ v19, cellH h10 (Addr.add a15 (Int.toNat n18 * 1)) = some v19 ∧
 asSl1 b_p fun a20 l21 c22 => asI i_8 fun n23 => 0 ≤ (n23 : Int) ∧ n23 < (l21 : Int) ∧ ∃ v24, cellH h10 (Addr.add a20 (Int.toNat n23 * 1)) = some v24 ∧
 asK .i64 v19 fun n25 => asK .i64 v24 fun n26 => cond (n25 != (n26 : Int))
 (R (.bool false) h10)
 (asK .i64 i_8 fun n27 => I6 (.int .i64 (IntKind.wrap .i64 (n27 + 1))) h10 ∧ μ7 (.int .i64 (IntKind.wrap .i64 (n27 + 1))) h10 < μ7 i_8 h10))
 (R (.bool true) h10))
def A_pipewrightref_SameInts : Ann :=
 (.two .leaf (.two (.two .leaf (.two (.two .leaf .leaf) .leaf)) (.two (.two .leaf (.one (.loop [11, 12, 13, 14, 17, 18, 19, 20, 21, 22, 23, 24, 25, 4, 15, 16, 5] [5] (.two (.two .leaf (.two .leaf .leaf)) (.two (.one (.two (.plan [0, 1, 2, 3, 4, 5, 6, 7, 8]) (.two (.two .leaf .leaf) .leaf))) .leaf))))) (.two .leaf .leaf))))
theorem C_pipewrightref_SameInts (ω : Amb) (a_p b_p : Value) (h : Hp) (R : Value → Hp → Prop) (X : List PanicEntry → Hp → Prop) (hk : W_pipewrightref_SameInts ω a_p b_p h R X) : CallX Try.prog ω 14 [a_p, b_p] h R X :=
 callX_of (an := A_pipewrightref_SameInts) Try.func14 ((show fnX Try.prog ω A_pipewrightref_SameInts Try.f14 [a_p, b_p] h R X = W_pipewrightref_SameInts ω a_p b_p h R X by kernel_rfl) ▸ hk)

/-- (*pipewright/ledger.Ledger).Of -/
abbrev n_p_ledger_Ledger_Of : Nat := 15
def W_p_ledger_Ledger_Of (ω : Amb) (g_p home_p : Value) (h : Hp) (R : Value → Hp → Prop) (X : List PanicEntry → Hp → Prop) : Prop :=
 asPo g_p fun q0 => cond (Option.isNone q0)
 (R (.slice none 0 0) h)
 (nnK g_p (asP g_p fun p1 =>
 ∃ v2, cellH h (Addr.add p1 0) = some v2 ∧
 asSl v2 fun a3 l4 c5 => ∃ (I6 : Value → Value → Hp → Prop) (μ7 : Value → Value → Hp → Nat), I6 (.slice none 0 0) (.int .i64 0) h ∧ ∀ out_8 t15_9 (d10 : Nat → Value) (h11 : Hp), I6 out_8 t15_9 h11 →
 asK .i64 t15_9 fun n12 => cond (decide ((n12 : Int) < (l4 : Int)))
 (∃ J13 : Value → Hp → Prop,
 (asSl1 v2 fun a17 l18 c19 => asI t15_9 fun n20 => 0 ≤ (n20 : Int) ∧ n20 < (l18 : Int) ∧ ∃ C21, cellsH h11 (Addr.add a17 (Int.toNat n20 * 4)) 4 C21 ∧
 C21.toArray.size = 4 ∧ (∀ u ∈ C21.toArray.toList, one u) ∧ storeK (Array.push h11 (.cells #[(.int .i64 0), (.bool false), (.int .i64 0), (.int .i64 0)] 36 (0, 0))) ⟨Array.size h11, 0, none⟩ C21.toArray.toList fun h22 =>
 ∃ v23, cellH h22 (Addr.add ⟨Array.size h11, 0, none⟩ 2) = some v23 ∧
 asK .i64 v23 fun n24 => asK .i64 home_p fun n25 => ∃ J26 : Value → Hp → Prop,
 (cond (n24 == (n25 : Int))
 (oneK t15_9 (appK Try.prog 28 (Array.push h22 (.cells (List.toArray [t15_9]) 3 (0, 0))) out_8 (.slice (some ⟨Array.size h22, 0, none⟩) 1 1) fun w30 h31 =>
 J26 w30 h31))
 (J26 out_8 h22)) ∧
 ∀ out_27 (d28 : Nat → Value) (h29 : Hp), J26 out_27 h29 →
 J13 out_27 h29) ∧
 ∀ out_14 (d15 : Nat → Value) (h16 : Hp), J13 out_14 h16 →
 asK .i64 t15_9 fun n32 => I6 out_14 (.int .i64 (IntKind.wrap .i64 (n32 + 1))) h16 ∧ μ7 out_14 (.int .i64 (IntKind.wrap .i64 (n32 + 1))) h16 < μ7 out_8 t15_9 h11)
 (R out_8 h11)))
def A_p_ledger_Ledger_Of : Ann :=
 (.two .leaf (.two .leaf (.two (.two .leaf (.two (.two .leaf .leaf) .leaf)) (.two (.two .leaf (.one (.loop [16, 17, 18, 19, 7, 6, 20, 21, 22, 23, 24, 25, 26, 27, 5, 28, 15] [5, 15] (.two .leaf (.two (.two .leaf .leaf) (.two (.join [17, 18, 19, 7, 6, 20, 21, 22, 23, 24, 25, 26, 27, 5] [5] (.one (.two .leaf (.two .leaf (.join [24, 25, 26, 27, 5] [5] (.two .leaf .leaf)))))) .leaf)))))) (.two .leaf .leaf)))))
theorem C_p_ledger_Ledger_Of (ω : Amb) (g_p home_p : Value) (h : Hp) (R : Value → Hp → Prop) (X : List PanicEntry → Hp → Prop) (hk : W_p_ledger_Ledger_Of ω g_p home_p h R X) : CallX Try.prog ω 15 [g_p, home_p] h R X :=
 callX_of (an := A_p_ledger_Ledger_Of) Try.func15 ((show fnX Try.prog ω A_p_ledger_Ledger_Of Try.f15 [g_p, home_p] h R X = W_p_ledger_Ledger_Of ω g_p home_p h R X by kernel_rfl) ▸ hk)

/-- (*pipewright/pipewrightref.Book).Of -/
abbrev n_p_pipewrightref_Book_Of : Nat := 16
def W_p_pipewrightref_Book_Of (ω : Amb) (b_p home_p : Value) (h : Hp) (R : Value → Hp → Prop) (X : List PanicEntry → Hp → Prop) : Prop :=
 ∃ (I0 : Value → Value → Hp → Prop) (μ1 : Value → Value → Hp → Nat), I0 (.slice none 0 0) (.int .i64 0) h ∧ ∀ out_2 e_3 (d4 : Nat → Value) (h5 : Hp), I0 out_2 e_3 h5 →
 nnK b_p (asP b_p fun p6 =>
 ∃ v7, cellH h5 (Addr.add p6 0) = some v7 ∧
 asSl v7 fun a8 l9 c10 => asK .i64 e_3 fun n11 => cond (decide ((n11 : Int) < (l9 : Int)))
 (∃ J12 : Value → Hp → Prop,
 (nnK b_p (asP b_p fun p16 =>
 ∃ v17, cellH h5 (Addr.add p16 0) = some v17 ∧
 asSl1 v17 fun a18 l19 c20 => asI e_3 fun n21 => 0 ≤ (n21 : Int) ∧ n21 < (l19 : Int) ∧ ∃ v22, cellH h5 (Addr.add (Addr.add a18 (Int.toNat n21 * 4)) 2) = some v22 ∧
 asK .i64 v22 fun n23 => asK .i64 home_p fun n24 => ∃ J25 : Value → Hp → Prop,
 (cond (n23 == (n24 : Int))
 (oneK e_3 (appK Try.prog 28 (Array.push h5 (.cells (List.toArray [e_3]) 3 (0, 0))) out_2 (.slice (some ⟨Array.size h5, 0, none⟩) 1 1) fun w29 h30 =>
 J25 w29 h30))
 (J25 out_2 h5)) ∧
 ∀ out_26 (d27 : Nat → Value) (h28 : Hp), J25 out_26 h28 →
 J12 out_26 h28)) ∧
 ∀ out_13 (d14 : Nat → Value) (h15 : Hp), J12 out_13 h15 →
 asK .i64 e_3 fun n31 => I0 out_13 (.int .i64 (IntKind.wrap .i64 (n31 + 1))) h15 ∧ μ1 out_13 (.int .i64 (IntKind.wrap .i64 (n31 + 1))) h15 < μ1 out_2 e_3 h5)
 (R out_2 h5))
def A_p_pipewrightref_Book_Of : Ann :=
 (.two .leaf (.two .leaf (.two (.two .leaf (.one (.loop [7, 8, 9, 10, 11, 12, 13, 16, 17, 18, 19, 20, 21, 22, 23, 24, 25, 26, 27, 28, 29, 5, 14, 15, 6] [5, 6] (.two (.two .leaf (.two .leaf .leaf)) (.two (.join [16, 17, 18, 19, 20, 21, 22, 23, 24, 25, 26, 27, 28, 29, 5] [5] (.one (.two .leaf (.join [26, 27, 28, 29, 5] [5] (.two .leaf .leaf))))) .leaf))))) (.two .leaf .leaf))))
theorem C_p_pipewrightref_Book_Of (ω : Amb) (b_p home_p : Value) (h : Hp) (R : Value → Hp → Prop) (X : List PanicEntry → Hp → Prop) (hk : W_p_pipewrightref_Book_Of ω b_p home_p h R X) : CallX Try.prog ω 16 [b_p, home_p] h R X :=
 callX_of (an := A_p_pipewrightref_Book_Of) Try.func16 ((show fnX Try.prog ω A_p_pipewrightref_Book_Of Try.f16 [b_p, home_p] h R X = W_p_pipewrightref_Book_Of ω b_p home_p h R X by kernel_rfl) ▸ hk)

/-- (*pipewright/ledger.Ledger).Use -/
abbrev n_p_ledger_Ledger_Use : Nat := 17
def W_p_ledger_Ledger_Use (ω : Amb) (g_p e_p task_p what_p : Value) (h : Hp) (R : Value → Hp → Prop) (X : List PanicEntry → Hp → Prop) : Prop :=
 CallX Try.prog ω 10 [g_p, e_p] h (fun r0 h1 =>
 asT r0 fun T2 => asO T2[0]? fun v3 => asT r0 fun T4 => asO T4[1]? fun v5 => asA v3 fun A6 => A6.size = 4 ∧ (∀ u ∈ A6.toList, one u) ∧ storeK (Array.push h1 (.cells #[(.int .i64 0), (.bool false), (.int .i64 0), (.int .i64 0)] 36 (0, 0))) ⟨Array.size h1, 0, none⟩ A6.toList fun h7 =>
 asB v5 fun b8 => cond (!b8)
 (R (.int .i64 1) h7)
 (∃ J9 : Value → Hp → Prop,
 (∃ v13, cellH h7 (Addr.add ⟨Array.size h1, 0, none⟩ 2) = some v13 ∧
 asK .i64 v13 fun n14 => cond (n14 == ((-2) : Int))
 (asK .i64 what_p fun n15 => J9 (.bool (n15 == (1 : Int))) h7)
 (J9 (.bool false) h7)) ∧
 ∀ t20_10 (d11 : Nat → Value) (h12 : Hp), J9 t20_10 h12 →
 asB t20_10 fun b16 => cond b16
 (R (.int .i64 2) h12)
 (∃ J17 : Value → Hp → Prop,
 (∃ v21, cellH h12 (Addr.add ⟨Array.size h1, 0, none⟩ 2) = some v21 ∧
 asK .i64 v21 fun n22 => cond (n22 == ((-2) : Int))
 (asK .i64 what_p fun n23 => J17 (.bool (n23 == (2 : Int))) h12)
 (J17 (.bool false) h12)) ∧
 ∀ t28_18 (d19 : Nat → Value) (h20 : Hp), J17 t28_18 h20 →
 asB t28_18 fun b24 => cond b24
 (R (.int .i64 3) h20)
 (∃ v25, cellH h20 (Addr.add ⟨Array.size h1, 0, none⟩ 2) = some v25 ∧
 asK .i64 v25 fun n26 => cond (n26 == ((-2) : Int))
 (R (.int .i64 6) h20)
 (∃ J27 : Value → Hp → Prop,
 (∃ v31, cellH h20 (Addr.add ⟨Array.size h1, 0, none⟩ 2) = some v31 ∧
 asK .i64 v31 fun n32 => asK .i64 task_p fun n33 => cond (n32 != (n33 : Int))
 (asK .i64 what_p fun n34 => J27 (.bool (n34 == (2 : Int))) h20)
 (J27 (.bool false) h20)) ∧
 ∀ t40_28 (d29 : Nat → Value) (h30 : Hp), J27 t40_28 h30 →
 asB t40_28 fun b35 => cond b35
 (R (.int .i64 4) h30)
 (∃ v36, cellH h30 (Addr.add ⟨Array.size h1, 0, none⟩ 2) = some v36 ∧
 asK .i64 v36 fun n37 => asK .i64 task_p fun n38 => cond (n37 != (n38 : Int))
 (R (.int .i64 5) h30)
 (R (.int .i64 0) h30))))))) X
def A_p_ledger_Ledger_Use : Ann :=
 (.two .leaf (.two .leaf (.two (.one (.two .leaf (.two (.two .leaf .leaf) (.two (.join [21, 22, 23, 24, 25, 26, 27, 20] [20] .leaf) (.two (.two .leaf .leaf) (.two (.join [29, 30, 31, 32, 33, 34, 35, 28] [28] .leaf) (.two (.two .leaf .leaf) (.two .leaf (.two (.two .leaf .leaf) (.two (.join [41, 42, 43, 44, 45, 46, 47, 48, 40] [40] .leaf) (.two (.two .leaf .leaf) (.two .leaf (.two (.two .leaf .leaf) .leaf))))))))))))) (.two .leaf .leaf))))
theorem C_p_ledger_Ledger_Use (ω : Amb) (g_p e_p task_p what_p : Value) (h : Hp) (R : Value → Hp → Prop) (X : List PanicEntry → Hp → Prop) (hk : W_p_ledger_Ledger_Use ω g_p e_p task_p what_p h R X) : CallX Try.prog ω 17 [g_p, e_p, task_p, what_p] h R X :=
 callX_of (an := A_p_ledger_Ledger_Use) Try.func17 ((show fnX Try.prog ω A_p_ledger_Ledger_Use Try.f17 [g_p, e_p, task_p, what_p] h R X = W_p_ledger_Ledger_Use ω g_p e_p task_p what_p h R X by kernel_rfl) ▸ hk)

/-- (*pipewright/pipewrightref.Book).Use -/
abbrev n_p_pipewrightref_Book_Use : Nat := 18
def W_p_pipewrightref_Book_Use (ω : Amb) (b_p e_p task_p what_p : Value) (h : Hp) (R : Value → Hp → Prop) (X : List PanicEntry → Hp → Prop) : Prop :=
 CallX Try.prog ω 9 [b_p, e_p] h (fun r0 h1 =>
 asT r0 fun T2 => asO T2[0]? fun v3 => asT r0 fun T4 => asO T4[1]? fun v5 => asA v3 fun A6 => A6.size = 4 ∧ (∀ u ∈ A6.toList, one u) ∧ storeK (Array.push h1 (.cells #[(.int .i64 0), (.bool false), (.int .i64 0), (.int .i64 0)] 36 (0, 0))) ⟨Array.size h1, 0, none⟩ A6.toList fun h7 =>
 asB v5 fun b8 => cond (!b8)
 (R (.int .i64 1) h7)
 (∃ v9, cellH h7 (Addr.add ⟨Array.size h1, 0, none⟩ 2) = some v9 ∧
 asK .i64 v9 fun n10 => cond (n10 == ((-2) : Int))
 (CallX Try.prog ω 30 [what_p] (Array.push h7 (.cells (List.toArray [(.int .i64 6), (.int .i64 2), (.int .i64 3)]) 3 (0, 0))) (fun r11 h12 =>
 asI r11 fun n13 => 0 ≤ (n13 : Int) ∧ n13 < (3 : Int) ∧ ∃ v14, cellH h12 (Addr.add ⟨Array.size h7, 0, none⟩ (Int.toNat n13 * 1)) = some v14 ∧
 R v14 h12) X)
 (∃ v15, cellH h7 (Addr.add ⟨Array.size h1, 0, none⟩ 2) = some v15 ∧
 asK .i64 v15 fun n16 => asK .i64 task_p fun n17 => cond (n16 != (n17 : Int))
 (CallX Try.prog ω 30 [what_p] (Array.push h7 (.cells (List.toArray [(.int .i64 5), (.int .i64 5), (.int .i64 4)]) 3 (0, 0))) (fun r18 h19 =>
 asI r18 fun n20 => 0 ≤ (n20 : Int) ∧ n20 < (3 : Int) ∧ ∃ v21, cellH h19 (Addr.add ⟨Array.size h7, 0, none⟩ (Int.toNat n20 * 1)) = some v21 ∧
 R v21 h19) X)
 (R (.int .i64 0) h7)))) X
def A_p_pipewrightref_Book_Use : Ann :=
 (.two .leaf (.two .leaf (.two (.two .leaf (.two (.two .leaf .leaf) .leaf)) (.two (.two .leaf (.two (.two .leaf .leaf) .leaf)) (.two (.two .leaf (.two (.two .leaf .leaf) .leaf)) (.two .leaf .leaf))))))
theorem C_p_pipewrightref_Book_Use (ω : Amb) (b_p e_p task_p what_p : Value) (h : Hp) (R : Value → Hp → Prop) (X : List PanicEntry → Hp → Prop) (hk : W_p_pipewrightref_Book_Use ω b_p e_p task_p what_p h R X) : CallX Try.prog ω 18 [b_p, e_p, task_p, what_p] h R X :=
 callX_of (an := A_p_pipewrightref_Book_Use) Try.func18 ((show fnX Try.prog ω A_p_pipewrightref_Book_Use Try.f18 [b_p, e_p, task_p, what_p] h R X = W_p_pipewrightref_Book_Use ω b_p e_p task_p what_p h R X by kernel_rfl) ▸ hk)

/-- (*pipewright/ledger.Ledger).All -/
abbrev n_p_ledger_Ledger_All : Nat := 19
def W_p_ledger_Ledger_All (ω : Amb) (g_p : Value) (h : Hp) (R : Value → Hp → Prop) (X : List PanicEntry → Hp → Prop) : Prop :=
 asPo g_p fun q0 => cond (Option.isNone q0)
 (R (.slice none 0 0) h)
 (nnK g_p (asP g_p fun p1 =>
 ∃ v2, cellH h (Addr.add p1 0) = some v2 ∧
 CallX Try.prog ω 31 [v2] h (fun r3 h4 =>
 R r3 h4) X))
def A_p_ledger_Ledger_All : Ann :=
 (.two .leaf (.two (.two .leaf (.two (.two .leaf .leaf) .leaf)) (.two .leaf .leaf)))
theorem C_p_ledger_Ledger_All (ω : Amb) (g_p : Value) (h : Hp) (R : Value → Hp → Prop) (X : List PanicEntry → Hp → Prop) (hk : W_p_ledger_Ledger_All ω g_p h R X) : CallX Try.prog ω 19 [g_p] h R X :=
 callX_of (an := A_p_ledger_Ledger_All) Try.func19 ((show fnX Try.prog ω A_p_ledger_Ledger_All Try.f19 [g_p] h R X = W_p_ledger_Ledger_All ω g_p h R X by kernel_rfl) ▸ hk)

/-- pipewright/pipewrightref.SameEnds -/
abbrev n_pipewrightref_SameEnds : Nat := 20
def W_pipewrightref_SameEnds (ω : Amb) (a_p b_p : Value) (h : Hp) (R : Value → Hp → Prop) (X : List PanicEntry → Hp → Prop) : Prop :=
 asSl a_p fun a0 l1 c2 => asSl b_p fun a3 l4 c5 => cond ((l1 : Int) != ((l4 : Int) : Int))
 (R (.bool false) h)
 (∃ (I6 : Value → Hp → Prop) (μ7 : Value → Hp → Nat), I6 (.int .i64 0) h ∧ ∀ i_8 (d9 : Nat → Value) (h10 : Hp), I6 i_8 h10 →
 asSl a_p fun a11 l12 c13 => asK .i64 i_8 fun n14 => cond (decide ((n14 : Int) < (l12 : Int)))
 (asSl1 a_p fun a15 l16 c17 => asI i_8 fun n18 => 0 ≤ (n18 : Int) ∧ n18 < (l16 : Int) ∧ ∃ C19, cellsH h10 (Addr.add a15 (Int.toNat n18 * 4)) 4 C19 ∧
 asSl1 b_p fun a20 l21 c22 => asI i_8 fun n23 => 0 ≤ (n23 : Int) ∧ n23 < (l21 : Int) ∧ ∃ C24, cellsH h10 (Addr.add a20 (Int.toNat n23 * 4)) 4 C24 ∧
 asO C19.toArray[0]? fun v25 => asO C24.toArray[0]? fun v26 => asK .i64 v25 fun n27 => asK .i64 v26 fun n28 => asO C19.toArray[1]? fun v29 => asO C24.toArray[1]? fun v30 => asB v29 fun b31 => asB v30 fun b32 => asO C19.toArray[2]? fun v33 => asO C24.toArray[2]? fun v34 => asK .i64 v33 fun n35 => asK .i64 v34 fun n36 => asO C19.toArray[3]? fun v37 => asO C24.toArray[3]? fun v38 => asK .i64 v37 fun n39 => asK .i64 v38 fun n40 => cond (!((n27 == (n28 : Int)) && ((b31 == b32) && ((n35 == (n36 : Int)) && ((n39 == (n40 : Int)) && true)))))
 (R (.bool false) h10)
 (asK .i64 i_8 fun n41 => I6 (.int .i64 (IntKind.wrap .i64 (n41 + 1))) h10 ∧ μ7 (.int .i64 (IntKind.wrap .i64 (n41 + 1))) h10 < μ7 i_8 h10))
 (R (.bool true) h10))
def A_pipewrightref_SameEnds : Ann :=
 (.two .leaf (.two (.two .leaf (.two (.two .leaf .leaf) .leaf)) (.two (.two .leaf (.one (.loop [11, 12, 13, 14, 17, 18, 19, 20, 21, 22, 23, 24, 25, 4, 15, 16, 5] [5] (.two (.two .leaf (.two .leaf .leaf)) (.two (.one (.two (.plan [0, 1, 2, 3, 4, 5, 6, 7, 8]) (.two (.two .leaf .leaf) .leaf))) .leaf))))) (.two .leaf .leaf))))
theorem C_pipewrightref_SameEnds (ω : Amb) (a_p b_p : Value) (h : Hp) (R : Value → Hp → Prop) (X : List PanicEntry → Hp → Prop) (hk : W_pipewrightref_SameEnds ω a_p b_p h R X) : CallX Try.prog ω 20 [a_p, b_p] h R X :=
 callX_of (an := A_pipewrightref_SameEnds) Try.func20 ((show fnX Try.prog ω A_pipewrightref_SameEnds Try.f20 [a_p, b_p] h R X = W_pipewrightref_SameEnds ω a_p b_p h R X by kernel_rfl) ▸ hk)

/-- pipewright/pipewrightlaw.chansBegun -/
abbrev n_pipewrightlaw_chansBegun : Nat := 21
def W_pipewrightlaw_chansBegun (ω : Amb) (h : Hp) (R : Value → Hp → Prop) (X : List PanicEntry → Hp → Prop) : Prop :=
 CallX Try.prog ω 22 [] h (fun r0 h1 =>
 CallX Try.prog ω 32 [r0, (.int .i64 1), (.int .i64 0)] h1 (fun r2 h3 =>
 asT r2 fun T4 => asO T4[0]? fun v5 => asT r2 fun T6 => asO T6[1]? fun v7 => ∃ J8 : Value → Hp → Prop,
 (asK .i64 v5 fun n12 => cond (n12 != (0 : Int))
 (J8 (.bool true) h3)
 (asK .i64 v7 fun n13 => cond (n13 != (1 : Int))
 (J8 (.bool true) h3)
 (CallX Try.prog ω 33 [r0, (.int .i64 0), (.agg #[(.int .i64 5), (.int .i64 (-1))])] h3 (fun r14 h15 =>
 asB r14 fun b16 => cond (!b16)
 (J8 (.bool true) h15)
 (CallX Try.prog ω 23 [r0, (.int .i64 0)] h15 (fun r17 h18 =>
 asB r17 fun b19 => J8 (.bool (!b19)) h18) X)) X))) ∧
 ∀ t28_9 (d10 : Nat → Value) (h11 : Hp), J8 t28_9 h11 →
 asB t28_9 fun b20 => cond b20
 (R (.bool false) h11)
 (CallX Try.prog ω 34 [r0, (.int .i64 1), (.int .i64 0)] h11 (fun r21 h22 =>
 asT r21 fun T23 => asO T23[0]? fun v24 => asT r21 fun T25 => asO T25[1]? fun v26 => asA v24 fun A27 => A27.size = 2 ∧ (∀ u ∈ A27.toList, one u) ∧ storeK (Array.push h22 (.cells #[(.int .i64 0), (.int .i64 0)] 74 (0, 0))) ⟨Array.size h22, 0, none⟩ A27.toList fun h28 =>
 ∃ J29 : Value → Hp → Prop,
 (∃ v33, cellH h28 (Addr.add ⟨Array.size h22, 0, none⟩ 0) = some v33 ∧
 asK .i64 v33 fun n34 => cond (n34 == (5 : Int))
 (asK .i64 v26 fun n35 => cond (n35 == (1 : Int))
 (CallX Try.prog ω 23 [r0, (.int .i64 1)] h28 (fun r36 h37 =>
 asB r36 fun b38 => cond b38
 (CallX Try.prog ω 29 [r0, (.int .i64 0)] h37 (fun r39 h40 =>
 asB r39 fun b41 => cond b41
 (CallX Try.prog ω 23 [r0, (.int .i64 1)] h40 (fun r42 h43 =>
 asB r42 fun b44 => J29 (.bool (!b44)) h43) X)
 (J29 (.bool false) h40)) X)
 (J29 (.bool false) h37)) X)
 (J29 (.bool false) h28))
 (J29 (.bool false) h28)) ∧
 ∀ t0_30 (d31 : Nat → Value) (h32 : Hp), J29 t0_30 h32 →
 R t0_30 h32) X)) X) X
def A_pipewrightlaw_chansBegun : Ann :=
 (.two .leaf (.two .leaf (.two .leaf (.two (.two (.join [12, 13, 14, 15, 16, 17, 18, 19, 20, 21, 22, 23, 24, 25, 26, 27, 28] [28] .leaf) (.two (.two .leaf .leaf) .leaf)) (.two .leaf (.two (.join [34, 35, 36, 37, 38, 39, 40, 41, 42, 43, 44, 45, 46, 47, 48, 49, 50, 51, 52, 53, 0] [0] .leaf) .leaf))))))
theorem C_pipewrightlaw_chansBegun (ω : Amb) (h : Hp) (R : Value → Hp → Prop) (X : List PanicEntry → Hp → Prop) (hk : W_pipewrightlaw_chansBegun ω  h R X) : CallX Try.prog ω 21 [] h R X :=
 callX_of (an := A_pipewrightlaw_chansBegun) Try.func21 ((show fnX Try.prog ω A_pipewrightlaw_chansBegun Try.f21 [] h R X = W_pipewrightlaw_chansBegun ω  h R X by kernel_rfl) ▸ hk)

/-- pipewright/chans.New -/
abbrev n_chans_New : Nat := 22
def W_chans_New (ω : Amb) (h : Hp) (R : Value → Hp → Prop) (X : List PanicEntry → Hp → Prop) : Prop :=
 CallX Try.prog ω 8 [] h (fun r0 h1 =>
 oneK r0 (R (.pointer (some ⟨Array.size h1, 0, none⟩)) (Array.push h1 (.cells #[r0, (.slice none 0 0)] 61 (0, 0))))) X
def A_chans_New : Ann :=
 (.two .leaf (.two .leaf .leaf))
theorem C_chans_New (ω : Amb) (h : Hp) (R : Value → Hp → Prop) (X : List PanicEntry → Hp → Prop) (hk : W_chans_New ω  h R X) : CallX Try.prog ω 22 [] h R X :=
 callX_of (an := A_chans_New) Try.func22 ((show fnX Try.prog ω A_chans_New Try.f22 [] h R X = W_chans_New ω  h R X by kernel_rfl) ▸ hk)

/-- (*pipewright/chans.Store).Waits -/
abbrev n_p_chans_Store_Waits : Nat := 23
def W_p_chans_Store_Waits (ω : Amb) (s_p e_p : Value) (h : Hp) (R : Value → Hp → Prop) (X : List PanicEntry → Hp → Prop) : Prop :=
 CallX Try.prog ω 35 [s_p, e_p, (.bool true)] h (fun r0 h1 =>
 asPo r0 fun q2 => cond (!(Option.isNone q2))
 (∃ J3 : Value → Hp → Prop,
 (nnK r0 (asP r0 fun p7 =>
 ∃ v8, cellH h1 (Addr.add p7 2) = some v8 ∧
 asB v8 fun b9 => cond (!b9)
 (nnK r0 (asP r0 fun p10 =>
 ∃ v11, cellH h1 (Addr.add p10 0) = some v11 ∧
 CallX Try.prog ω 36 [v11] h1 (fun r12 h13 =>
 J3 r12 h13) X))
 (J3 (.bool false) h1))) ∧
 ∀ t4_4 (d5 : Nat → Value) (h6 : Hp), J3 t4_4 h6 →
 R t4_4 h6)
 (CallX Try.prog ω 35 [s_p, e_p, (.bool false)] h1 (fun r14 h15 =>
 ∃ J16 : Value → Hp → Prop,
 (asPo r14 fun q20 => cond (!(Option.isNone q20))
 (nnK r14 (asP r14 fun p21 =>
 ∃ v22, cellH h15 (Addr.add p21 0) = some v22 ∧
 CallX Try.prog ω 37 [v22] h15 (fun r23 h24 =>
 asK .i64 r23 fun n25 => cond (n25 == (0 : Int))
 (nnK r14 (asP r14 fun p26 =>
 ∃ v27, cellH h24 (Addr.add p26 1) = some v27 ∧
 asK .i64 v27 fun n28 => J16 (.bool (decide ((n28 : Int) > 0))) h24))
 (J16 (.bool false) h24)) X))
 (J16 (.bool false) h15)) ∧
 ∀ t4_17 (d18 : Nat → Value) (h19 : Hp), J16 t4_17 h19 →
 R t4_17 h19) X)) X
def A_p_chans_Store_Waits : Ann :=
 (.two .leaf (.two (.two .leaf (.two .leaf (.two (.two (.join [12, 13, 14, 15, 16, 17, 18, 19, 20, 21, 22, 23, 4] [4] .leaf) .leaf) .leaf))) (.two .leaf (.two (.join [27, 28, 29, 30, 31, 32, 33, 34, 35, 36, 37, 38, 39, 40, 41, 42, 43, 4] [4] .leaf) .leaf))))
theorem C_p_chans_Store_Waits (ω : Amb) (s_p e_p : Value) (h : Hp) (R : Value → Hp → Prop) (X : List PanicEntry → Hp → Prop) (hk : W_p_chans_Store_Waits ω s_p e_p h R X) : CallX Try.prog ω 23 [s_p, e_p] h R X :=
 callX_of (an := A_p_chans_Store_Waits) Try.func23 ((show fnX Try.prog ω A_p_chans_Store_Waits Try.f23 [s_p, e_p] h R X = W_p_chans_Store_Waits ω s_p e_p h R X by kernel_rfl) ▸ hk)

/-- (*pipewright/pipewrightref.Book).Waits -/
abbrev n_p_pipewrightref_Book_Waits : Nat := 24
def W_p_pipewrightref_Book_Waits (ω : Amb) (b_p e_p : Value) (h : Hp) (R : Value → Hp → Prop) (X : List PanicEntry → Hp → Prop) : Prop :=
 CallX Try.prog ω 38 [b_p, e_p, (.bool true)] h (fun r0 h1 =>
 asB r0 fun b2 => cond b2
 (nnK b_p (asP b_p fun p3 =>
 ∃ v4, cellH h1 (Addr.add p3 0) = some v4 ∧
 asSl1 v4 fun a5 l6 c7 => asI e_p fun n8 => 0 ≤ (n8 : Int) ∧ n8 < (l6 : Int) ∧ ∃ v9, cellH h1 (Addr.add (Addr.add a5 (Int.toNat n8 * 4)) 0) = some v9 ∧
 ∃ J10 : Value → Hp → Prop,
 (nnK b_p (asP b_p fun p14 =>
 ∃ v15, cellH h1 (Addr.add p14 3) = some v15 ∧
 asSl1 v15 fun a16 l17 c18 => asI v9 fun n19 => 0 ≤ (n19 : Int) ∧ n19 < (l17 : Int) ∧ ∃ v20, cellH h1 (Addr.add a16 (Int.toNat n19 * 1)) = some v20 ∧
 asB v20 fun b21 => cond (!b21)
 (nnK b_p (asP b_p fun p22 =>
 ∃ v23, cellH h1 (Addr.add p22 1) = some v23 ∧
 asSl1 v23 fun a24 l25 c26 => asI v9 fun n27 => 0 ≤ (n27 : Int) ∧ n27 < (l25 : Int) ∧ ∃ v28, cellH h1 (Addr.add a24 (Int.toNat n27 * 1)) = some v28 ∧
 asK .i64 v28 fun n29 => cond (decide ((n29 : Int) > 0))
 (nnK b_p (asP b_p fun p30 =>
 ∃ v31, cellH h1 (Addr.add p30 2) = some v31 ∧
 asSl1 v31 fun a32 l33 c34 => asI v9 fun n35 => 0 ≤ (n35 : Int) ∧ n35 < (l33 : Int) ∧ ∃ v36, cellH h1 (Addr.add a32 (Int.toNat n35 * 1)) = some v36 ∧
 asSl v36 fun a37 l38 c39 => nnK b_p (asP b_p fun p40 =>
 ∃ v41, cellH h1 (Addr.add p40 1) = some v41 ∧
 asSl1 v41 fun a42 l43 c44 => asI v9 fun n45 => 0 ≤ (n45 : Int) ∧ n45 < (l43 : Int) ∧ ∃ v46, cellH h1 (Addr.add a42 (Int.toNat n45 * 1)) = some v46 ∧
 asK .i64 v46 fun n47 => J10 (.bool (decide (((l38 : Int) : Int) ≥ n47))) h1)))
 (J10 (.bool false) h1)))
 (J10 (.bool false) h1))) ∧
 ∀ t4_11 (d12 : Nat → Value) (h13 : Hp), J10 t4_11 h13 →
 R t4_11 h13))
 (CallX Try.prog ω 38 [b_p, e_p, (.bool false)] h1 (fun r48 h49 =>
 asB r48 fun b50 => cond b50
 (nnK b_p (asP b_p fun p51 =>
 ∃ v52, cellH h49 (Addr.add p51 0) = some v52 ∧
 asSl1 v52 fun a53 l54 c55 => asI e_p fun n56 => 0 ≤ (n56 : Int) ∧ n56 < (l54 : Int) ∧ ∃ v57, cellH h49 (Addr.add (Addr.add a53 (Int.toNat n56 * 4)) 0) = some v57 ∧
 ∃ J58 : Value → Hp → Prop,
 (nnK b_p (asP b_p fun p62 =>
 ∃ v63, cellH h49 (Addr.add p62 2) = some v63 ∧
 asSl1 v63 fun a64 l65 c66 => asI v57 fun n67 => 0 ≤ (n67 : Int) ∧ n67 < (l65 : Int) ∧ ∃ v68, cellH h49 (Addr.add a64 (Int.toNat n67 * 1)) = some v68 ∧
 asSl v68 fun a69 l70 c71 => cond ((l70 : Int) == (0 : Int))
 (CallX Try.prog ω 39 [b_p, v57] h49 (fun r72 h73 =>
 asK .i64 r72 fun n74 => J58 (.bool (decide ((n74 : Int) > 0))) h73) X)
 (J58 (.bool false) h49))) ∧
 ∀ t4_59 (d60 : Nat → Value) (h61 : Hp), J58 t4_59 h61 →
 R t4_59 h61))
 (R (.bool false) h49)) X)) X
def A_p_pipewrightref_Book_Waits : Ann :=
 (.two .leaf (.two (.two .leaf (.two (.two .leaf (.two (.join [18, 19, 20, 21, 22, 23, 24, 25, 26, 27, 28, 29, 30, 31, 32, 33, 34, 35, 36, 37, 38, 39, 40, 41, 42, 43, 44, 45, 46, 47, 48, 49, 50, 51, 52, 53, 4] [4] (.plan [0, 1, 2, 3, 4, 5, 6, 7, 8, 9, 10, 11, 12, 13, 14, 15, 16, 17, 18, 19, 20, 21, 22, 23, 24, 25, 26, 27, 28, 29, 30, 31, 32, 33, 34, 35, 36])) .leaf)) .leaf)) (.two (.two .leaf (.two (.two .leaf (.two (.join [65, 66, 67, 68, 69, 70, 71, 72, 73, 74, 75, 76, 77, 78, 79, 4] [4] .leaf) .leaf)) .leaf)) (.two .leaf .leaf))))
theorem C_p_pipewrightref_Book_Waits (ω : Amb) (b_p e_p : Value) (h : Hp) (R : Value → Hp → Prop) (X : List PanicEntry → Hp → Prop) (hk : W_p_pipewrightref_Book_Waits ω b_p e_p h R X) : CallX Try.prog ω 24 [b_p, e_p] h R X :=
 callX_of (an := A_p_pipewrightref_Book_Waits) Try.func24 ((show fnX Try.prog ω A_p_pipewrightref_Book_Waits Try.f24 [b_p, e_p] h R X = W_p_pipewrightref_Book_Waits ω b_p e_p h R X by kernel_rfl) ▸ hk)

/-- pipewright/pipewrightlaw.done -/
abbrev n_pipewrightlaw_done : Nat := 25
def W_pipewrightlaw_done (ω : Amb) (s_p b_p x_p : Value) (h : Hp) (R : Value → Hp → Prop) (X : List PanicEntry → Hp → Prop) : Prop :=
 ∃ v0, cellH (Array.push h (.cells (Value.cells x_p) 54 (0, 0))) (Addr.add ⟨Array.size h, 0, none⟩ 0) = some v0 ∧
 asI v0 fun n1 => (10 : Int) ≠ 0 ∧ cond ((IntKind.wrap .i64 (Int.tmod (IntKind.wrap .u64 n1) 10)) == (0 : Int))
 (∃ v2, cellH (Array.push h (.cells (Value.cells x_p) 54 (0, 0))) (Addr.add ⟨Array.size h, 0, none⟩ 3) = some v2 ∧
 ∃ v3, cellH (Array.push h (.cells (Value.cells x_p) 54 (0, 0))) (Addr.add ⟨Array.size h, 0, none⟩ 2) = some v3 ∧
 CallX Try.prog ω 32 [s_p, v2, v3] (Array.push h (.cells (Value.cells x_p) 54 (0, 0))) (fun r4 h5 =>
 asT r4 fun T6 => asO T6[0]? fun v7 => asT r4 fun T8 => asO T8[1]? fun v9 => ∃ v10, cellH h5 (Addr.add ⟨Array.size h, 0, none⟩ 3) = some v10 ∧
 ∃ v11, cellH h5 (Addr.add ⟨Array.size h, 0, none⟩ 2) = some v11 ∧
 CallX Try.prog ω 40 [b_p, v10, v11] h5 (fun r12 h13 =>
 asT r12 fun T14 => asO T14[0]? fun v15 => asT r12 fun T16 => asO T16[1]? fun v17 => ∃ J18 : Value → Hp → Prop,
 (asK .i64 v7 fun n22 => asK .i64 v15 fun n23 => cond (n22 == (n23 : Int))
 (asK .i64 v9 fun n24 => asK .i64 v17 fun n25 => J18 (.bool (n24 == (n25 : Int))) h13)
 (J18 (.bool false) h13)) ∧
 ∀ t6_19 (d20 : Nat → Value) (h21 : Hp), J18 t6_19 h21 →
 R t6_19 h21) X) X)
 (cond ((IntKind.wrap .i64 (Int.tmod (IntKind.wrap .u64 n1) 10)) == (1 : Int))
 (∃ v26, cellH (Array.push h (.cells (Value.cells x_p) 54 (0, 0))) (Addr.add ⟨Array.size h, 0, none⟩ 1) = some v26 ∧
 ∃ v27, cellH (Array.push h (.cells (Value.cells x_p) 54 (0, 0))) (Addr.add ⟨Array.size h, 0, none⟩ 2) = some v27 ∧
 ∃ v28, cellH (Array.push h (.cells (Value.cells x_p) 54 (0, 0))) (Addr.add ⟨Array.size h, 0, none⟩ 1) = some v28 ∧
 ∃ v29, cellH (Array.push h (.cells (Value.cells x_p) 54 (0, 0))) (Addr.add ⟨Array.size h, 0, none⟩ 2) = some v29 ∧
 CallX Try.prog ω 41 [s_p, v26, v27] (Array.push h (.cells (Value.cells x_p) 54 (0, 0))) (fun r30 h31 =>
 cellH h31 (Addr.add ⟨Array.size h, 0, none⟩ 2) = some v29 ∧ cellH h31 (Addr.add ⟨Array.size h, 0, none⟩ 1) = some v28 ∧ CallX Try.prog ω 42 [b_p, v28, v29] h31 (fun r32 h33 =>
 asK .i64 r30 fun n34 => asK .i64 r32 fun n35 => R (.bool (n34 == (n35 : Int))) h33) X) X)
 (∃ J36 : Value → Hp → Prop,
 (cond ((IntKind.wrap .i64 (Int.tmod (IntKind.wrap .u64 n1) 10)) == (2 : Int))
 (J36 (.bool ((IntKind.wrap .i64 (Int.tmod (IntKind.wrap .u64 n1) 10)) == (2 : Int))) (Array.push h (.cells (Value.cells x_p) 54 (0, 0))))
 (∃ J40 : Value → Hp → Prop,
 (cond ((IntKind.wrap .i64 (Int.tmod (IntKind.wrap .u64 n1) 10)) == (3 : Int))
 (J40 (.bool ((IntKind.wrap .i64 (Int.tmod (IntKind.wrap .u64 n1) 10)) == (3 : Int))) (Array.push h (.cells (Value.cells x_p) 54 (0, 0))))
 (J40 (.bool ((IntKind.wrap .i64 (Int.tmod (IntKind.wrap .u64 n1) 10)) == (4 : Int))) (Array.push h (.cells (Value.cells x_p) 54 (0, 0))))) ∧
 ∀ t64_41 (d42 : Nat → Value) (h43 : Hp), J40 t64_41 h43 →
 J36 t64_41 h43)) ∧
 ∀ t64_37 (d38 : Nat → Value) (h39 : Hp), J36 t64_37 h39 →
 asB t64_37 fun b44 => cond b44
 (∃ v45, cellH h39 (Addr.add ⟨Array.size h, 0, none⟩ 3) = some v45 ∧
 ∃ v46, cellH h39 (Addr.add ⟨Array.size h, 0, none⟩ 2) = some v46 ∧
 asK .i64 v46 fun n47 => (2 : Int) ≠ 0 ∧ oneK v45 (2 = 2 ∧ (∀ u ∈ [v45, (.int .i64 (IntKind.wrap .i64 ((-1) - (Int.tmod n47 2))))], one u) ∧ storeK (Array.push h39 (.cells #[(.int .i64 0), (.int .i64 0)] 74 (0, 0))) ⟨Array.size h39, 0, none⟩ [v45, (.int .i64 (IntKind.wrap .i64 ((-1) - (Int.tmod n47 2))))] fun h48 =>
 ∃ v49, cellH h48 (Addr.add ⟨Array.size h39, 0, none⟩ 1) = some v49 ∧
 asK .i64 v49 fun n50 => ∃ J51 : Hp → Prop,
 (cond (decide ((n50 : Int) > (-1)))
 (storeK1 h48 (Addr.add ⟨Array.size h39, 0, none⟩ 1) (.int .i64 (-1)) fun h54 =>
 J51 h54)
 (J51 h48)) ∧
 ∀  (d52 : Nat → Value) (h53 : Hp), J51 h53 →
 ∃ v55, cellH h53 (Addr.add ⟨Array.size h, 0, none⟩ 4) = some v55 ∧
 ∃ J56 : Hp → Prop,
 (asB v55 fun b59 => cond b59
 (∃ v60, cellH h53 (Addr.add ⟨Array.size h, 0, none⟩ 3) = some v60 ∧
 oneK v60 (storeK1 h53 (Addr.add ⟨Array.size h39, 0, none⟩ 1) v60 fun h61 =>
 J56 h61))
 (J56 h53)) ∧
 ∀  (d57 : Nat → Value) (h58 : Hp), J56 h58 →
 ∃ v62, cellH h58 (Addr.add ⟨Array.size h, 0, none⟩ 1) = some v62 ∧
 ∃ C63, cellsH h58 ⟨Array.size h39, 0, none⟩ 2 C63 ∧
 ∃ v64, cellH h58 (Addr.add ⟨Array.size h, 0, none⟩ 1) = some v64 ∧
 ∃ C65, cellsH h58 ⟨Array.size h39, 0, none⟩ 2 C65 ∧
 CallX Try.prog ω 33 [s_p, v62, (.agg C63.toArray)] h58 (fun r66 h67 =>
 cellsH h67 ⟨Array.size h39, 0, none⟩ 2 C65 ∧ cellH h67 (Addr.add ⟨Array.size h, 0, none⟩ 1) = some v64 ∧ CallX Try.prog ω 43 [b_p, v64, (.agg C65.toArray)] h67 (fun r68 h69 =>
 asB r66 fun b70 => asB r68 fun b71 => R (.bool (b70 == b71)) h69) X) X))
 (∃ J72 : Value → Hp → Prop,
 (cond ((IntKind.wrap .i64 (Int.tmod (IntKind.wrap .u64 n1) 10)) == (5 : Int))
 (J72 (.bool ((IntKind.wrap .i64 (Int.tmod (IntKind.wrap .u64 n1) 10)) == (5 : Int))) h39)
 (∃ J76 : Value → Hp → Prop,
 (cond ((IntKind.wrap .i64 (Int.tmod (IntKind.wrap .u64 n1) 10)) == (6 : Int))
 (J76 (.bool ((IntKind.wrap .i64 (Int.tmod (IntKind.wrap .u64 n1) 10)) == (6 : Int))) h39)
 (J76 (.bool ((IntKind.wrap .i64 (Int.tmod (IntKind.wrap .u64 n1) 10)) == (7 : Int))) h39)) ∧
 ∀ t95_77 (d78 : Nat → Value) (h79 : Hp), J76 t95_77 h79 →
 J72 t95_77 h79)) ∧
 ∀ t95_73 (d74 : Nat → Value) (h75 : Hp), J72 t95_73 h75 →
 asB t95_73 fun b80 => cond b80
 (∃ v81, cellH h75 (Addr.add ⟨Array.size h, 0, none⟩ 1) = some v81 ∧
 ∃ v82, cellH h75 (Addr.add ⟨Array.size h, 0, none⟩ 2) = some v82 ∧
 CallX Try.prog ω 34 [s_p, v81, v82] h75 (fun r83 h84 =>
 asT r83 fun T85 => asO T85[0]? fun v86 => asT r83 fun T87 => asO T87[1]? fun v88 => asA v86 fun A89 => A89.size = 2 ∧ (∀ u ∈ A89.toList, one u) ∧ storeK (Array.push h84 (.cells #[(.int .i64 0), (.int .i64 0)] 74 (0, 0))) ⟨Array.size h84, 0, none⟩ A89.toList fun h90 =>
 ∃ v91, cellH h90 (Addr.add ⟨Array.size h, 0, none⟩ 1) = some v91 ∧
 ∃ v92, cellH h90 (Addr.add ⟨Array.size h, 0, none⟩ 2) = some v92 ∧
 CallX Try.prog ω 44 [b_p, v91, v92] h90 (fun r93 h94 =>
 asT r93 fun T95 => asO T95[0]? fun v96 => asT r93 fun T97 => asO T97[1]? fun v98 => asA v96 fun A99 => A99.size = 2 ∧ (∀ u ∈ A99.toList, one u) ∧ storeK (Array.push h94 (.cells #[(.int .i64 0), (.int .i64 0)] 74 (0, 0))) ⟨Array.size h94, 0, none⟩ A99.toList fun h100 =>
 ∃ J101 : Value → Hp → Prop,
 (∃ C105, cellsH h100 ⟨Array.size h84, 0, none⟩ 2 C105 ∧
 ∃ C106, cellsH h100 ⟨Array.size h94, 0, none⟩ 2 C106 ∧
 asO C105.toArray[0]? fun v107 => asO C106.toArray[0]? fun v108 => asK .i64 v107 fun n109 => asK .i64 v108 fun n110 => asO C105.toArray[1]? fun v111 => asO C106.toArray[1]? fun v112 => asK .i64 v111 fun n113 => asK .i64 v112 fun n114 => cond ((n109 == (n110 : Int)) && ((n113 == (n114 : Int)) && true))
 (asK .i64 v88 fun n115 => asK .i64 v98 fun n116 => J101 (.bool (n115 == (n116 : Int))) h100)
 (J101 (.bool false) h100)) ∧
 ∀ t6_102 (d103 : Nat → Value) (h104 : Hp), J101 t6_102 h104 →
 R t6_102 h104) X) X)
 (∃ v117, cellH h75 (Addr.add ⟨Array.size h, 0, none⟩ 1) = some v117 ∧
 ∃ v118, cellH h75 (Addr.add ⟨Array.size h, 0, none⟩ 1) = some v118 ∧
 CallX Try.prog ω 29 [s_p, v117] h75 (fun r119 h120 =>
 cellH h120 (Addr.add ⟨Array.size h, 0, none⟩ 1) = some v118 ∧ CallX Try.prog ω 45 [b_p, v118] h120 (fun r121 h122 =>
 asB r119 fun b123 => asB r121 fun b124 => R (.bool (b123 == b124)) h122) X) X))))
def A_pipewrightlaw_done : Ann :=
 (.two .leaf (.two (.two .leaf (.one (.two .leaf (.two (.two .leaf (.two .leaf (.two (.join [41, 42, 43, 44, 45, 46, 47, 48, 6] [6] .leaf) .leaf))) (.two .leaf (.two (.two (.plan [0, 1, 2, 3, 4, 6, 7, 8, 9, 10, 5, 11, 12, 13]) .leaf) (.two (.two .leaf (.join [66, 64, 67] [64] (.two .leaf (.two .leaf (.join [67, 64] [64] (.two .leaf .leaf)))))) (.two (.two .leaf (.two (.two .leaf (.join [78] [] (.two .leaf .leaf))) (.two (.two .leaf (.join [81, 82, 83] [] (.two .leaf .leaf))) (.two (.plan [0, 1, 2, 3, 5, 6, 7, 8, 4, 9, 10, 11]) .leaf)))) (.two (.two .leaf (.join [97, 95, 98] [95] (.two .leaf (.two .leaf (.join [98, 95] [95] (.two .leaf .leaf)))))) (.two (.two .leaf (.two .leaf (.two (.join [117, 118, 119, 120, 121, 122, 123, 124, 6] [6] .leaf) .leaf))) .leaf)))))))))) (.two (.plan [0, 1, 2, 4, 5, 6, 3, 7, 8, 9]) .leaf)))
theorem C_pipewrightlaw_done (ω : Amb) (s_p b_p x_p : Value) (h : Hp) (R : Value → Hp → Prop) (X : List PanicEntry → Hp → Prop) (hk : W_pipewrightlaw_done ω s_p b_p x_p h R X) : CallX Try.prog ω 25 [s_p, b_p, x_p] h R X :=
 callX_of (an := A_pipewrightlaw_done) Try.func25 ((show fnX Try.prog ω A_pipewrightlaw_done Try.f25 [s_p, b_p, x_p] h R X = W_pipewrightlaw_done ω s_p b_p x_p h R X by kernel_rfl) ▸ hk)

/-- pipewright/pipewrightref.SameChans -/
abbrev n_pipewrightref_SameChans : Nat := 26
def W_pipewrightref_SameChans (ω : Amb) (a_p b_p : Value) (h : Hp) (R : Value → Hp → Prop) (X : List PanicEntry → Hp → Prop) : Prop :=
 asSl a_p fun a0 l1 c2 => asSl b_p fun a3 l4 c5 => cond ((l1 : Int) != ((l4 : Int) : Int))
 (R (.bool false) h)
 (∃ (I6 : Value → Hp → Prop) (μ7 : Value → Hp → Nat), I6 (.int .i64 0) h ∧ ∀ i_8 (d9 : Nat → Value) (h10 : Hp), I6 i_8 h10 →
 asSl a_p fun a11 l12 c13 => asK .i64 i_8 fun n14 => cond (decide ((n14 : Int) < (l12 : Int)))
 (∃ J15 : Value → Hp → Prop,
 (asSl1 a_p fun a19 l20 c21 => asI i_8 fun n22 => 0 ≤ (n22 : Int) ∧ n22 < (l20 : Int) ∧ ∃ v23, cellH h10 (Addr.add (Addr.add a19 (Int.toNat n22 * 4)) 0) = some v23 ∧
 asSl1 b_p fun a24 l25 c26 => asI i_8 fun n27 => 0 ≤ (n27 : Int) ∧ n27 < (l25 : Int) ∧ ∃ v28, cellH h10 (Addr.add (Addr.add a24 (Int.toNat n27 * 4)) 0) = some v28 ∧
 asK .i64 v23 fun n29 => asK .i64 v28 fun n30 => cond (n29 != (n30 : Int))
 (J15 (.bool true) h10)
 (asSl1 a_p fun a31 l32 c33 => asI i_8 fun n34 => 0 ≤ (n34 : Int) ∧ n34 < (l32 : Int) ∧ ∃ v35, cellH h10 (Addr.add (Addr.add a31 (Int.toNat n34 * 4)) 1) = some v35 ∧
 asSl1 b_p fun a36 l37 c38 => asI i_8 fun n39 => 0 ≤ (n39 : Int) ∧ n39 < (l37 : Int) ∧ ∃ v40, cellH h10 (Addr.add (Addr.add a36 (Int.toNat n39 * 4)) 1) = some v40 ∧
 asK .i64 v35 fun n41 => asK .i64 v40 fun n42 => cond (n41 != (n42 : Int))
 (J15 (.bool true) h10)
 (asSl1 a_p fun a43 l44 c45 => asI i_8 fun n46 => 0 ≤ (n46 : Int) ∧ n46 < (l44 : Int) ∧ ∃ v47, cellH h10 (Addr.add (Addr.add a43 (Int.toNat n46 * 4)) 2) = some v47 ∧
 asSl1 b_p fun a48 l49 c50 => asI i_8 fun n51 => 0 ≤ (n51 : Int) ∧ n51 < (l49 : Int) ∧ ∃ v52, cellH h10 (Addr.add (Addr.add a48 (Int.toNat n51 * 4)) 2) = some v52 ∧
 asB v47 fun b53 => asB v52 fun b54 => cond (!(b53 == b54))
 (J15 (.bool true) h10)
 (asSl1 a_p fun a55 l56 c57 => asI i_8 fun n58 => 0 ≤ (n58 : Int) ∧ n58 < (l56 : Int) ∧ ∃ v59, cellH h10 (Addr.add (Addr.add a55 (Int.toNat n58 * 4)) 3) = some v59 ∧
 asSl1 b_p fun a60 l61 c62 => asI i_8 fun n63 => 0 ≤ (n63 : Int) ∧ n63 < (l61 : Int) ∧ ∃ v64, cellH h10 (Addr.add (Addr.add a60 (Int.toNat n63 * 4)) 3) = some v64 ∧
 CallX Try.prog ω 46 [v59, v64] h10 (fun r65 h66 =>
 asB r65 fun b67 => J15 (.bool (!b67)) h66) X)))) ∧
 ∀ t67_16 (d17 : Nat → Value) (h18 : Hp), J15 t67_16 h18 →
 asB t67_16 fun b68 => cond b68
 (R (.bool false) h18)
 (asK .i64 i_8 fun n69 => I6 (.int .i64 (IntKind.wrap .i64 (n69 + 1))) h18 ∧ μ7 (.int .i64 (IntKind.wrap .i64 (n69 + 1))) h18 < μ7 i_8 h10))
 (R (.bool true) h10))
def A_pipewrightref_SameChans : Ann :=
 (.two .leaf (.two (.two .leaf (.two (.two .leaf .leaf) .leaf)) (.two (.two .leaf (.one (.loop [11, 12, 13, 14, 17, 18, 19, 20, 21, 22, 23, 24, 25, 26, 27, 28, 29, 30, 31, 32, 33, 34, 35, 36, 37, 38, 39, 40, 41, 42, 43, 44, 45, 46, 47, 48, 49, 50, 51, 52, 53, 54, 55, 56, 57, 58, 59, 60, 61, 62, 63, 64, 65, 66, 67, 4, 15, 16, 5] [5] (.two (.two .leaf (.two .leaf .leaf)) (.two (.one (.two (.join [17, 18, 19, 20, 21, 22, 23, 24, 25, 26, 27, 28, 29, 30, 31, 32, 33, 34, 35, 36, 37, 38, 39, 40, 41, 42, 43, 44, 45, 46, 47, 48, 49, 50, 51, 52, 53, 54, 55, 56, 57, 58, 59, 60, 61, 62, 63, 64, 65, 66, 67] [67] (.plan [0, 1, 2, 3, 4, 5, 6, 7, 8, 9, 10, 11, 12, 13, 14, 15, 16, 17, 18, 19, 20, 21, 22, 23, 24, 25, 26, 27, 28, 29, 30, 31, 32, 33, 34, 35, 36, 37, 38, 39, 40, 41, 42, 43, 44, 45, 46, 47, 48, 49, 50])) (.two (.two .leaf .leaf) .leaf))) .leaf))))) (.two .leaf .leaf))))
theorem C_pipewrightref_SameChans (ω : Amb) (a_p b_p : Value) (h : Hp) (R : Value → Hp → Prop) (X : List PanicEntry → Hp → Prop) (hk : W_pipewrightref_SameChans ω a_p b_p h R X) : CallX Try.prog ω 26 [a_p, b_p] h R X :=
 callX_of (an := A_pipewrightref_SameChans) Try.func26 ((show fnX Try.prog ω A_pipewrightref_SameChans Try.f26 [a_p, b_p] h R X = W_pipewrightref_SameChans ω a_p b_p h R X by kernel_rfl) ▸ hk)

/-- (*pipewright/chans.Store).Chans -/
abbrev n_p_chans_Store_Chans : Nat := 27
def W_p_chans_Store_Chans (ω : Amb) (s_p : Value) (h : Hp) (R : Value → Hp → Prop) (X : List PanicEntry → Hp → Prop) : Prop :=
 asPo s_p fun q0 => cond (Option.isNone q0)
 (R (.slice none 0 0) h)
 (nnK s_p (asP s_p fun p1 =>
 ∃ v2, cellH h (Addr.add p1 1) = some v2 ∧
 asSl v2 fun a3 l4 c5 => ∃ (I6 : Value → Value → Hp → Prop) (μ7 : Value → Value → Hp → Nat), I6 (.slice none 0 0) (.int .i64 0) h ∧ ∀ out_8 t13_9 (d10 : Nat → Value) (h11 : Hp), I6 out_8 t13_9 h11 →
 asK .i64 t13_9 fun n12 => cond (decide ((n12 : Int) < (l4 : Int)))
 (asSl1 v2 fun a13 l14 c15 => asI t13_9 fun n16 => 0 ≤ (n16 : Int) ∧ n16 < (l14 : Int) ∧ ∃ v17, cellH h11 (Addr.add a13 (Int.toNat n16 * 1)) = some v17 ∧
 nnK v17 (asP v17 fun p18 =>
 ∃ v19, cellH h11 (Addr.add p18 0) = some v19 ∧
 nnK v17 (asP v17 fun p20 =>
 ∃ v21, cellH h11 (Addr.add p20 1) = some v21 ∧
 nnK v17 (asP v17 fun p22 =>
 ∃ v23, cellH h11 (Addr.add p22 2) = some v23 ∧
 nnK v17 (asP v17 fun p24 =>
 ∃ v25, cellH h11 (Addr.add p24 0) = some v25 ∧
 CallX Try.prog ω 47 [v19] h11 (fun r26 h27 =>
 cellH h27 (Addr.add p24 0) = some v25 ∧ cellH h27 (Addr.add p22 2) = some v23 ∧ cellH h27 (Addr.add p20 1) = some v21 ∧ CallX Try.prog ω 48 [v25] h27 (fun r28 h29 =>
 cellH h29 (Addr.add p22 2) = some v23 ∧ cellH h29 (Addr.add p20 1) = some v21 ∧ oneK r26 (oneK v21 (oneK v23 (oneK r28 (4 = 4 ∧ appK Try.prog 57 (Array.push h29 (.cells (List.toArray [r26, v21, v23, r28]) 65 (0, 0))) out_8 (.slice (some ⟨Array.size h29, 0, none⟩) 1 1) fun w30 h31 =>
 asK .i64 t13_9 fun n32 => I6 w30 (.int .i64 (IntKind.wrap .i64 (n32 + 1))) h31 ∧ μ7 w30 (.int .i64 (IntKind.wrap .i64 (n32 + 1))) h31 < μ7 out_8 t13_9 h11))))) X) X)))))
 (R out_8 h11)))
def A_p_chans_Store_Chans : Ann :=
 (.two .leaf (.two (.two .leaf (.two (.two .leaf .leaf) .leaf)) (.two .leaf (.two (.two .leaf (.one (.loop [14, 15, 16, 5, 17, 18, 19, 20, 21, 22, 23, 24, 25, 26, 27, 28, 29, 30, 31, 32, 33, 34, 35, 36, 37, 38, 3, 39, 13] [3, 13] (.two .leaf (.two (.two .leaf .leaf) (.two (.one (.two .leaf (.plan [0, 1, 2, 3, 4, 6, 7, 8, 9, 10, 11, 12, 13, 14, 15, 16, 17, 5, 18, 19, 20, 21, 22]))) .leaf)))))) (.two .leaf .leaf)))))
theorem C_p_chans_Store_Chans (ω : Amb) (s_p : Value) (h : Hp) (R : Value → Hp → Prop) (X : List PanicEntry → Hp → Prop) (hk : W_p_chans_Store_Chans ω s_p h R X) : CallX Try.prog ω 27 [s_p] h R X :=
 callX_of (an := A_p_chans_Store_Chans) Try.func27 ((show fnX Try.prog ω A_p_chans_Store_Chans Try.f27 [s_p] h R X = W_p_chans_Store_Chans ω s_p h R X by kernel_rfl) ▸ hk)

/-- (*pipewright/pipewrightref.Book).Chans -/
abbrev n_p_pipewrightref_Book_Chans : Nat := 28
def W_p_pipewrightref_Book_Chans (ω : Amb) (b_p : Value) (h : Hp) (R : Value → Hp → Prop) (X : List PanicEntry → Hp → Prop) : Prop :=
 ∃ (I0 : Value → Value → Hp → Prop) (μ1 : Value → Value → Hp → Nat), I0 (.slice none 0 0) (.int .i64 0) h ∧ ∀ out_2 c_3 (d4 : Nat → Value) (h5 : Hp), I0 out_2 c_3 h5 →
 nnK b_p (asP b_p fun p6 =>
 ∃ v7, cellH h5 (Addr.add p6 1) = some v7 ∧
 asSl v7 fun a8 l9 c10 => asK .i64 c_3 fun n11 => cond (decide ((n11 : Int) < (l9 : Int)))
 (nnK b_p (asP b_p fun p12 =>
 ∃ v13, cellH h5 (Addr.add p12 1) = some v13 ∧
 asSl1 v13 fun a14 l15 c16 => asI c_3 fun n17 => 0 ≤ (n17 : Int) ∧ n17 < (l15 : Int) ∧ ∃ v18, cellH h5 (Addr.add a14 (Int.toNat n17 * 1)) = some v18 ∧
 nnK b_p (asP b_p fun p19 =>
 ∃ v20, cellH h5 (Addr.add p19 3) = some v20 ∧
 asSl1 v20 fun a21 l22 c23 => asI c_3 fun n24 => 0 ≤ (n24 : Int) ∧ n24 < (l22 : Int) ∧ ∃ v25, cellH h5 (Addr.add a21 (Int.toNat n24 * 1)) = some v25 ∧
 nnK b_p (asP b_p fun p26 =>
 ∃ v27, cellH h5 (Addr.add p26 2) = some v27 ∧
 asSl1 v27 fun a28 l29 c30 => asI c_3 fun n31 => 0 ≤ (n31 : Int) ∧ n31 < (l29 : Int) ∧ ∃ v32, cellH h5 (Addr.add a28 (Int.toNat n31 * 1)) = some v32 ∧
 CallX Try.prog ω 39 [b_p, c_3] h5 (fun r33 h34 =>
 cellH h34 (Addr.add a28 (Int.toNat n31 * 1)) = some v32 ∧ cellH h34 (Addr.add p26 2) = some v27 ∧ cellH h34 (Addr.add a21 (Int.toNat n24 * 1)) = some v25 ∧ cellH h34 (Addr.add p19 3) = some v20 ∧ cellH h34 (Addr.add a14 (Int.toNat n17 * 1)) = some v18 ∧ cellH h34 (Addr.add p12 1) = some v13 ∧ oneK v18 (oneK r33 (oneK v25 (oneK v32 (4 = 4 ∧ appK Try.prog 57 (Array.push h34 (.cells (List.toArray [v18, r33, v25, v32]) 65 (0, 0))) out_2 (.slice (some ⟨Array.size h34, 0, none⟩) 1 1) fun w35 h36 =>
 asK .i64 c_3 fun n37 => I0 w35 (.int .i64 (IntKind.wrap .i64 (n37 + 1))) h36 ∧ μ1 w35 (.int .i64 (IntKind.wrap .i64 (n37 + 1))) h36 < μ1 out_2 c_3 h5))))) X))))
 (R out_2 h5))
def A_p_pipewrightref_Book_Chans : Ann :=
 (.two .leaf (.two .leaf (.two (.two .leaf (.one (.loop [5, 6, 7, 8, 9, 10, 11, 14, 15, 16, 17, 18, 19, 20, 21, 22, 23, 24, 25, 26, 27, 28, 29, 30, 31, 32, 33, 34, 35, 36, 37, 38, 39, 40, 41, 3, 12, 13, 4] [3, 4] (.two (.two .leaf (.two .leaf .leaf)) (.two (.one (.plan [0, 1, 2, 3, 4, 5, 6, 7, 8, 9, 11, 12, 13, 14, 15, 16, 17, 18, 19, 20, 21, 22, 23, 24, 10, 25, 26, 27, 28])) .leaf))))) (.two .leaf .leaf))))
theorem C_p_pipewrightref_Book_Chans (ω : Amb) (b_p : Value) (h : Hp) (R : Value → Hp → Prop) (X : List PanicEntry → Hp → Prop) (hk : W_p_pipewrightref_Book_Chans ω b_p h R X) : CallX Try.prog ω 28 [b_p] h R X :=
 callX_of (an := A_p_pipewrightref_Book_Chans) Try.func28 ((show fnX Try.prog ω A_p_pipewrightref_Book_Chans Try.f28 [b_p] h R X = W_p_pipewrightref_Book_Chans ω b_p h R X by kernel_rfl) ▸ hk)

/-- (*pipewright/chans.Store).Drop -/
abbrev n_p_chans_Store_Drop : Nat := 29
def W_p_chans_Store_Drop (ω : Amb) (s_p e_p : Value) (h : Hp) (R : Value → Hp → Prop) (X : List PanicEntry → Hp → Prop) : Prop :=
 asPo s_p fun q0 => cond (Option.isNone q0)
 (R (.bool false) h)
 (nnK s_p (asP s_p fun p1 =>
 ∃ v2, cellH h (Addr.add p1 0) = some v2 ∧
 CallX Try.prog ω 10 [v2, e_p] h (fun r3 h4 =>
 asT r3 fun T5 => asO T5[0]? fun v6 => asT r3 fun T7 => asO T7[1]? fun v8 => asA v6 fun A9 => A9.size = 4 ∧ (∀ u ∈ A9.toList, one u) ∧ storeK (Array.push h4 (.cells #[(.int .i64 0), (.bool false), (.int .i64 0), (.int .i64 0)] 36 (0, 0))) ⟨Array.size h4, 0, none⟩ A9.toList fun h10 =>
 ∃ J11 : Value → Hp → Prop,
 (nnK s_p (asP s_p fun p15 =>
 ∃ v16, cellH h10 (Addr.add p15 0) = some v16 ∧
 CallX Try.prog ω 13 [v16, e_p] h10 (fun r17 h18 =>
 asB r17 fun b19 => cond (!b19)
 (J11 (.bool true) h18)
 (asB v8 fun b20 => J11 (.bool (!b20)) h18)) X)) ∧
 ∀ t31_12 (d13 : Nat → Value) (h14 : Hp), J11 t31_12 h14 →
 asB t31_12 fun b21 => cond b21
 (R (.bool false) h14)
 (nnK s_p (asP s_p fun p22 =>
 ∃ v23, cellH h14 (Addr.add p22 1) = some v23 ∧
 ∃ v24, cellH h14 (Addr.add ⟨Array.size h4, 0, none⟩ 0) = some v24 ∧
 asSl1 v23 fun a25 l26 c27 => asI v24 fun n28 => 0 ≤ (n28 : Int) ∧ n28 < (l26 : Int) ∧ ∃ v29, cellH h14 (Addr.add a25 (Int.toNat n28 * 1)) = some v29 ∧
 ∃ v30, cellH h14 (Addr.add ⟨Array.size h4, 0, none⟩ 1) = some v30 ∧
 asB v30 fun b31 => cond b31
 (nnK v29 (asP v29 fun p32 =>
 ∃ v33, cellH h14 (Addr.add p32 1) = some v33 ∧
 asK .i64 v33 fun n34 => nnK v29 (asP v29 fun p35 =>
 storeK1 h14 (Addr.add p35 1) (.int .i64 (IntKind.wrap .i64 (n34 - 1))) fun h36 =>
 R (.bool true) h36)))
 (nnK v29 (asP v29 fun p37 =>
 storeK1 h14 (Addr.add p37 2) (.bool true) fun h38 =>
 nnK v29 (asP v29 fun p39 =>
 ∃ v40, cellH h38 (Addr.add p39 0) = some v40 ∧
 CallX Try.prog ω 49 [v40] h38 (fun r41 h42 =>
 asSl r41 fun a43 l44 c45 => ∃ (I46 : Value → Hp → Prop) (μ47 : Value → Hp → Nat), I46 (.int .i64 0) h42 ∧ ∀ t58_48 (d49 : Nat → Value) (h50 : Hp), I46 t58_48 h50 →
 asK .i64 t58_48 fun n51 => cond (decide ((n51 : Int) < (l44 : Int)))
 (asSl1 r41 fun a52 l53 c54 => asI t58_48 fun n55 => 0 ≤ (n55 : Int) ∧ n55 < (l53 : Int) ∧ ∃ C56, cellsH h50 (Addr.add a52 (Int.toNat n55 * 2)) 2 C56 ∧
 C56.toArray.size = 2 ∧ (∀ u ∈ C56.toArray.toList, one u) ∧ storeK (Array.push h50 (.cells #[(.int .i64 0), (.int .i64 0)] 74 (0, 0))) ⟨Array.size h50, 0, none⟩ C56.toArray.toList fun h57 =>
 ∃ v58, cellH h57 (Addr.add ⟨Array.size h50, 0, none⟩ 1) = some v58 ∧
 CallX Try.prog ω 29 [s_p, v58] h57 (fun r59 h60 =>
 asK .i64 t58_48 fun n61 => I46 (.int .i64 (IntKind.wrap .i64 (n61 + 1))) h60 ∧ μ47 (.int .i64 (IntKind.wrap .i64 (n61 + 1))) h60 < μ47 t58_48 h50) X)
 (R (.bool true) h50)) X)))))) X))
def A_p_chans_Store_Drop : Ann :=
 (.two .leaf (.two (.two .leaf (.two (.two .leaf .leaf) .leaf)) (.two .leaf (.two (.two (.join [21, 22, 23, 24, 25, 26, 27, 28, 29, 30, 31] [31] .leaf) (.two (.two .leaf .leaf) .leaf)) (.two (.plan [0, 1, 2, 3, 4, 5, 6, 7, 8]) (.two (.two .leaf (.two (.two .leaf (.two .leaf .leaf)) .leaf)) (.two .leaf (.two (.two .leaf (.one (.loop [59, 60, 61, 9, 62, 63, 64, 65, 66, 58] [58] (.two .leaf (.two (.two .leaf .leaf) (.two (.one (.two .leaf .leaf)) .leaf)))))) (.two .leaf .leaf)))))))))
theorem C_p_chans_Store_Drop (ω : Amb) (s_p e_p : Value) (h : Hp) (R : Value → Hp → Prop) (X : List PanicEntry → Hp → Prop) (hk : W_p_chans_Store_Drop ω s_p e_p h R X) : CallX Try.prog ω 29 [s_p, e_p] h R X :=
 callX_of (an := A_p_chans_Store_Drop) Try.func29 ((show fnX Try.prog ω A_p_chans_Store_Drop Try.f29 [s_p, e_p] h R X = W_p_chans_Store_Drop ω s_p e_p h R X by kernel_rfl) ▸ hk)

/-- pipewright/pipewrightref.pickWhat -/
abbrev n_pipewrightref_pickWhat : Nat := 30
def W_pipewrightref_pickWhat (ω : Amb) (what_p : Value) (h : Hp) (R : Value → Hp → Prop) (X : List PanicEntry → Hp → Prop) : Prop :=
 ∃ β0 : Bool,
 (asK .i64 what_p fun n2 => cond (n2 == (1 : Int))
 (((.bool true) : Value) = .bool β0 ∧ h = h)
 (asK .i64 what_p fun n3 => ((.bool (n3 == (2 : Int))) : Value) = .bool β0 ∧ h = h)) ∧
 ∀ d1 : Nat → Value,
 cond β0
 (R what_p h)
 (R (.int .i64 0) h)
def A_pipewrightref_pickWhat : Ann :=
 (.two .leaf (.two (.two (.jb [3, 4, 5, 6, 7, 8] 8 .leaf) (.two (.two .leaf .leaf) .leaf)) (.two .leaf .leaf)))
theorem C_pipewrightref_pickWhat (ω : Amb) (what_p : Value) (h : Hp) (R : Value → Hp → Prop) (X : List PanicEntry → Hp → Prop) (hk : W_pipewrightref_pickWhat ω what_p h R X) : CallX Try.prog ω 30 [what_p] h R X :=
 callX_of (an := A_pipewrightref_pickWhat) Try.func30 ((show fnX Try.prog ω A_pipewrightref_pickWhat Try.f30 [what_p] h R X = W_pipewrightref_pickWhat ω what_p h R X by kernel_rfl) ▸ hk)

/-- slices.Clone[[]pipewright/api.End,pipewright/api.End] -/
abbrev n_slices_Clone_sl_api_End_api_End : Nat := 31
def W_slices_Clone_sl_api_End_api_End (ω : Amb) (s_p : Value) (h : Hp) (R : Value → Hp → Prop) (X : List PanicEntry → Hp → Prop) : Prop :=
 asSl s_p fun a0 l1 c2 => cond (Option.isNone a0)
 (R (.slice none 0 0) h)
 (appK Try.prog 27 (Array.push h (.cells (List.toArray []) 36 (0, 0))) (.slice (some ⟨Array.size h, 0, none⟩) 0 0) s_p fun w3 h4 =>
 R w3 h4)
def A_slices_Clone_sl_api_End_api_End : Ann :=
 (.two .leaf (.two (.two .leaf (.two (.two .leaf .leaf) .leaf)) (.two .leaf .leaf)))
theorem C_slices_Clone_sl_api_End_api_End (ω : Amb) (s_p : Value) (h : Hp) (R : Value → Hp → Prop) (X : List PanicEntry → Hp → Prop) (hk : W_slices_Clone_sl_api_End_api_End ω s_p h R X) : CallX Try.prog ω 31 [s_p] h R X :=
 callX_of (an := A_slices_Clone_sl_api_End_api_End) Try.func31 ((show fnX Try.prog ω A_slices_Clone_sl_api_End_api_End Try.f31 [s_p] h R X = W_slices_Clone_sl_api_End_api_End ω s_p h R X by kernel_rfl) ▸ hk)

/-- (*pipewright/chans.Store).Make -/
abbrev n_p_chans_Store_Make : Nat := 32
def W_p_chans_Store_Make (ω : Amb) (s_p slots_p task_p : Value) (h : Hp) (R : Value → Hp → Prop) (X : List PanicEntry → Hp → Prop) : Prop :=
 ∃ β0 : Bool,
 (asPo s_p fun q2 => cond (Option.isNone q2)
 (((.bool true) : Value) = .bool β0 ∧ h = h)
 (asK .i64 task_p fun n3 => ((.bool (decide ((n3 : Int) < 0))) : Value) = .bool β0 ∧ h = h)) ∧
 ∀ d1 : Nat → Value,
 cond β0
 (R (.tuple #[(.int .i64 (-1)), (.int .i64 (-1))]) h)
 (nnK s_p (asP s_p fun p4 =>
 ∃ v5, cellH h (Addr.add p4 1) = some v5 ∧
 asSl v5 fun a6 l7 c8 => nnK s_p (asP s_p fun p9 =>
 ∃ v10, cellH h (Addr.add p9 1) = some v10 ∧
 CallX Try.prog ω 50 [slots_p] h (fun r11 h12 =>
 cellH h12 (Addr.add p9 1) = some v10 ∧ oneK r11 (cellH (Array.push h12 (.cells #[r11, (.int .i64 1), (.bool false)] 81 (0, 0))) (Addr.add p9 1) = some v10 ∧ cellH (Array.push (Array.push h12 (.cells #[r11, (.int .i64 1), (.bool false)] 81 (0, 0))) (.cells (List.toArray [(.pointer (some ⟨Array.size h12, 0, none⟩))]) 77 (0, 0))) (Addr.add p9 1) = some v10 ∧ appK Try.prog 59 (Array.push (Array.push h12 (.cells #[r11, (.int .i64 1), (.bool false)] 81 (0, 0))) (.cells (List.toArray [(.pointer (some ⟨Array.size h12, 0, none⟩))]) 77 (0, 0))) v10 (.slice (some ⟨Array.size (Array.push h12 (.cells #[r11, (.int .i64 1), (.bool false)] 81 (0, 0))), 0, none⟩) 1 1) fun w13 h14 =>
 nnK s_p (asP s_p fun p15 =>
 oneK w13 (storeK1 h14 (Addr.add p15 1) w13 fun h16 =>
 nnK s_p (asP s_p fun p17 =>
 ∃ v18, cellH h16 (Addr.add p17 0) = some v18 ∧
 nnK s_p (asP s_p fun p19 =>
 ∃ v20, cellH h16 (Addr.add p19 0) = some v20 ∧
 CallX Try.prog ω 11 [v18, (.int .i64 (l7 : Int)), (.bool true), task_p] h16 (fun r21 h22 =>
 cellH h22 (Addr.add p19 0) = some v20 ∧ CallX Try.prog ω 11 [v20, (.int .i64 (l7 : Int)), (.bool false), task_p] h22 (fun r23 h24 =>
 R (.tuple #[r21, r23]) h24) X) X)))))) X)))
def A_p_chans_Store_Make : Ann :=
 (.two .leaf (.two (.two (.jb [9, 10, 11, 12, 13, 14] 14 .leaf) (.two (.two .leaf .leaf) .leaf)) (.two .leaf (.two (.plan [0, 1, 2, 3, 4, 5, 6, 7, 8, 9, 10, 11, 12, 13]) (.two (.plan [0, 1, 2, 3, 4, 5, 7, 8, 9, 10, 11, 12, 6, 13, 14, 15]) .leaf)))))
theorem C_p_chans_Store_Make (ω : Amb) (s_p slots_p task_p : Value) (h : Hp) (R : Value → Hp → Prop) (X : List PanicEntry → Hp → Prop) (hk : W_p_chans_Store_Make ω s_p slots_p task_p h R X) : CallX Try.prog ω 32 [s_p, slots_p, task_p] h R X :=
 callX_of (an := A_p_chans_Store_Make) Try.func32 ((show fnX Try.prog ω A_p_chans_Store_Make Try.f32 [s_p, slots_p, task_p] h R X = W_p_chans_Store_Make ω s_p slots_p task_p h R X by kernel_rfl) ▸ hk)

/-- (*pipewright/chans.Store).Put -/
abbrev n_p_chans_Store_Put : Nat := 33
def W_p_chans_Store_Put (ω : Amb) (s_p e_p x_p : Value) (h : Hp) (R : Value → Hp → Prop) (X : List PanicEntry → Hp → Prop) : Prop :=
 CallX Try.prog ω 35 [s_p, e_p, (.bool true)] (Array.push h (.cells (Value.cells x_p) 74 (0, 0))) (fun r0 h1 =>
 ∃ J2 : Value → Hp → Prop,
 (asPo r0 fun q6 => cond (Option.isNone q6)
 (J2 (.bool true) h1)
 (CallX Try.prog ω 23 [s_p, e_p] h1 (fun r7 h8 =>
 J2 r7 h8) X)) ∧
 ∀ t19_3 (d4 : Nat → Value) (h5 : Hp), J2 t19_3 h5 →
 asB t19_3 fun b9 => cond b9
 (R (.bool false) h5)
 (∃ v10, cellH h5 (Addr.add ⟨Array.size h, 0, none⟩ 1) = some v10 ∧
 asK .i64 v10 fun n11 => ∃ J12 : Hp → Prop,
 (cond (decide ((n11 : Int) ≥ 0))
 (nnK s_p (asP s_p fun p15 =>
 ∃ v16, cellH h5 (Addr.add p15 0) = some v16 ∧
 ∃ v17, cellH h5 (Addr.add ⟨Array.size h, 0, none⟩ 1) = some v17 ∧
 (CallX Try.prog ω 10 [v16, v17] h5 (fun r18 h19 =>
 asT r18 fun T20 => asO T20[0]? fun v21 => asT r18 fun T22 => asO T22[1]? fun v23 => asA v21 fun A24 => A24.size = 4 ∧ (∀ u ∈ A24.toList, one u) ∧ storeK (Array.push h19 (.cells #[(.int .i64 0), (.bool false), (.int .i64 0), (.int .i64 0)] 36 (0, 0))) ⟨Array.size h19, 0, none⟩ A24.toList fun h25 =>
 ∃ β26 : Bool,
 (asB v23 fun b28 => cond (!b28)
 (((.bool true) : Value) = .bool β26 ∧ h25 = h25)
 (∃ v29, cellH h25 (Addr.add ⟨Array.size h19, 0, none⟩ 2) = some v29 ∧
 asK .i64 v29 fun n30 => cond (decide ((n30 : Int) < 0))
 (((.bool true) : Value) = .bool β26 ∧ h25 = h25)
 (∃ v31, cellH h25 (Addr.add ⟨Array.size h, 0, none⟩ 1) = some v31 ∧
 asK .i64 v31 fun n32 => asK .i64 e_p fun n33 => ((.bool (n32 == (n33 : Int))) : Value) = .bool β26 ∧ h25 = h25))) ∧
 ∀ d27 : Nat → Value,
 cond β26
 (R (.bool false) h25)
 (storeK1 h25 (Addr.add ⟨Array.size h, 0, none⟩ 0) (.int .i64 0) fun h34 =>
 nnK s_p (asP s_p fun p35 =>
 ∃ v36, cellH h34 (Addr.add p35 0) = some v36 ∧
 ∃ v37, cellH h34 (Addr.add ⟨Array.size h, 0, none⟩ 1) = some v37 ∧
 CallX Try.prog ω 12 [v36, v37, (.int .i64 (-1))] h34 (fun r38 h39 =>
 J12 h39) X))) X) ∧
(cellH (Array.push h5 (.cells #[(.int .i64 0), (.bool false), (.int .i64 0), (.int .i64 0)] 36 (0, 0))) (Addr.add ⟨Array.size h, 0, none⟩ 1) = some v17 ∧ cellH (Array.push h5 (.cells #[(.int .i64 0), (.bool false), (.int .i64 0), (.int .i64 0)] 36 (0, 0))) (Addr.add p15 0) = some v16 ∧ CallX Try.prog ω 10 [v16, v17] (Array.push h5 (.cells #[(.int .i64 0), (.bool false), (.int .i64 0), (.int .i64 0)] 36 (0, 0))) (fun r40 h41 =>
 asT r40 fun T42 => asO T42[0]? fun v43 => asT r40 fun T44 => asO T44[1]? fun v45 => asA v43 fun A46 => A46.size = 4 ∧ (∀ u ∈ A46.toList, one u) ∧ storeK h41 ⟨Array.size h5, 0, none⟩ A46.toList fun h47 =>
 ∃ β48 : Bool,
 (asB v45 fun b50 => cond (!b50)
 (((.bool true) : Value) = .bool β48 ∧ h47 = h47)
 (∃ v51, cellH h47 (Addr.add ⟨Array.size h5, 0, none⟩ 2) = some v51 ∧
 asK .i64 v51 fun n52 => cond (decide ((n52 : Int) < 0))
 (((.bool true) : Value) = .bool β48 ∧ h47 = h47)
 (∃ v53, cellH h47 (Addr.add ⟨Array.size h, 0, none⟩ 1) = some v53 ∧
 asK .i64 v53 fun n54 => asK .i64 e_p fun n55 => ((.bool (n54 == (n55 : Int))) : Value) = .bool β48 ∧ h47 = h47))) ∧
 ∀ d49 : Nat → Value,
 cond β48
 (R (.bool false) h47)
 (storeK1 h47 (Addr.add ⟨Array.size h, 0, none⟩ 0) (.int .i64 0) fun h56 =>
 nnK s_p (asP s_p fun p57 =>
 ∃ v58, cellH h56 (Addr.add p57 0) = some v58 ∧
 ∃ v59, cellH h56 (Addr.add ⟨Array.size h, 0, none⟩ 1) = some v59 ∧
 CallX Try.prog ω 12 [v58, v59, (.int .i64 (-1))] h56 (fun r60 h61 =>
 J12 h61) X))) X)))
 (storeK1 h5 (Addr.add ⟨Array.size h, 0, none⟩ 1) (.int .i64 (-1)) fun h62 =>
 J12 h62)) ∧
 ∀  (d13 : Nat → Value) (h14 : Hp), J12 h14 →
 nnK r0 (asP r0 fun p63 =>
 ∃ v64, cellH h14 (Addr.add p63 2) = some v64 ∧
 asB v64 fun b65 => cond b65
 (∃ v66, cellH h14 (Addr.add ⟨Array.size h, 0, none⟩ 1) = some v66 ∧
 CallX Try.prog ω 29 [s_p, v66] h14 (fun r67 h68 =>
 R (.bool true) h68) X)
 (nnK r0 (asP r0 fun p69 =>
 ∃ v70, cellH h14 (Addr.add p69 0) = some v70 ∧
 ∃ C71, cellsH h14 ⟨Array.size h, 0, none⟩ 2 C71 ∧
 CallX Try.prog ω 51 [v70, (.agg C71.toArray)] h14 (fun r72 h73 =>
 R r72 h73) X))))) X
def A_p_chans_Store_Put : Ann :=
 (.two .leaf (.two .leaf (.two (.two (.join [13, 14, 15, 16, 17, 18, 19] [19] .leaf) (.two (.two .leaf .leaf) .leaf)) (.two (.two .leaf (.join [24, 25, 26, 27, 28, 29, 30, 23, 31, 32, 8, 9, 33, 34, 35, 36, 37, 38, 39, 40, 41, 42, 43, 44, 45, 6, 46, 47, 48, 49, 50, 51, 52, 53, 54] [] (.two (.two (.plan [0, 1, 2, 3, 4, 5, 6, 7, 8, 9, 10, 11, 12]) (.two (.two (.jb [33, 34, 35, 36, 37, 38, 39, 40, 41, 42, 43, 44, 45] 45 .leaf) (.two (.two .leaf .leaf) .leaf)) (.two .leaf (.plan [0, 1, 2, 3, 4, 5, 6])))) .leaf))) (.two (.two .leaf (.two (.two .leaf (.two .leaf .leaf)) .leaf)) (.two (.plan [0, 1, 2, 3, 4, 5, 6]) .leaf))))))
theorem C_p_chans_Store_Put (ω : Amb) (s_p e_p x_p : Value) (h : Hp) (R : Value → Hp → Prop) (X : List PanicEntry → Hp → Prop) (hk : W_p_chans_Store_Put ω s_p e_p x_p h R X) : CallX Try.prog ω 33 [s_p, e_p, x_p] h R X :=
 callX_of (an := A_p_chans_Store_Put) Try.func33 ((show fnX Try.prog ω A_p_chans_Store_Put Try.f33 [s_p, e_p, x_p] h R X = W_p_chans_Store_Put ω s_p e_p x_p h R X by kernel_rfl) ▸ hk)

/-- (*pipewright/chans.Store).Take -/
abbrev n_p_chans_Store_Take : Nat := 34
def W_p_chans_Store_Take (ω : Amb) (s_p e_p task_p : Value) (h : Hp) (R : Value → Hp → Prop) (X : List PanicEntry → Hp → Prop) : Prop :=
 CallX Try.prog ω 35 [s_p, e_p, (.bool false)] (Array.push h (.cells #[(.int .i64 0), (.int .i64 0)] 74 (0, 0))) (fun r0 h1 =>
 ∃ J2 : Value → Hp → Prop,
 (asPo r0 fun q6 => cond (Option.isNone q6)
 (J2 (.bool true) h1)
 (asK .i64 task_p fun n7 => cond (decide ((n7 : Int) < 0))
 (J2 (.bool true) h1)
 (CallX Try.prog ω 23 [s_p, e_p] h1 (fun r8 h9 =>
 J2 r8 h9) X))) ∧
 ∀ t24_3 (d4 : Nat → Value) (h5 : Hp), J2 t24_3 h5 →
 asB t24_3 fun b10 => cond b10
 (2 = 2 ∧ (∀ u ∈ [(.int .i64 0), (.int .i64 0)], one u) ∧ storeK h5 ⟨Array.size h, 0, none⟩ [(.int .i64 0), (.int .i64 0)] fun h11 =>
 ∃ C12, cellsH h11 ⟨Array.size h, 0, none⟩ 2 C12 ∧ R (.tuple #[(.agg C12.toArray), (.int .i64 (-1))]) h11)
 (nnK r0 (asP r0 fun p13 =>
 ∃ v14, cellH h5 (Addr.add p13 0) = some v14 ∧
 CallX Try.prog ω 52 [v14] h5 (fun r15 h16 =>
 asT r15 fun T17 => asO T17[0]? fun v18 => asT r15 fun T19 => asO T19[1]? fun v20 => asA v18 fun A21 => A21.size = 2 ∧ (∀ u ∈ A21.toList, one u) ∧ storeK (Array.push h16 (.cells #[(.int .i64 0), (.int .i64 0)] 74 (0, 0))) ⟨Array.size h16, 0, none⟩ A21.toList fun h22 =>
 asB v20 fun b23 => cond (!b23)
 (2 = 2 ∧ (∀ u ∈ [(.int .i64 0), (.int .i64 0)], one u) ∧ storeK h22 ⟨Array.size h, 0, none⟩ [(.int .i64 0), (.int .i64 0)] fun h24 =>
 ∃ C25, cellsH h24 ⟨Array.size h, 0, none⟩ 2 C25 ∧ R (.tuple #[(.agg C25.toArray), (.int .i64 0)]) h24)
 (nnK s_p (asP s_p fun p26 =>
 ∃ v27, cellH h22 (Addr.add p26 0) = some v27 ∧
 ∃ v28, cellH h22 (Addr.add ⟨Array.size h16, 0, none⟩ 1) = some v28 ∧
 CallX Try.prog ω 12 [v27, v28, task_p] h22 (fun r29 h30 =>
 ∃ C31, cellsH h30 ⟨Array.size h16, 0, none⟩ 2 C31 ∧
 C31.toArray.size = 2 ∧ (∀ u ∈ C31.toArray.toList, one u) ∧ storeK h30 ⟨Array.size h, 0, none⟩ C31.toArray.toList fun h32 =>
 ∃ C33, cellsH h32 ⟨Array.size h, 0, none⟩ 2 C33 ∧ R (.tuple #[(.agg C33.toArray), (.int .i64 1)]) h32) X))) X))) X
def A_p_chans_Store_Take : Ann :=
 (.two .leaf (.two .leaf (.two (.two (.join [14, 15, 16, 17, 18, 19, 20, 21, 22, 23, 24] [24] .leaf) (.two (.two .leaf .leaf) .leaf)) (.two .leaf (.two (.two .leaf (.two (.two .leaf .leaf) .leaf)) (.two (.plan [0, 1, 2, 3, 4, 5, 6, 7]) (.two .leaf .leaf)))))))
theorem C_p_chans_Store_Take (ω : Amb) (s_p e_p task_p : Value) (h : Hp) (R : Value → Hp → Prop) (X : List PanicEntry → Hp → Prop) (hk : W_p_chans_Store_Take ω s_p e_p task_p h R X) : CallX Try.prog ω 34 [s_p, e_p, task_p] h R X :=
 callX_of (an := A_p_chans_Store_Take) Try.func34 ((show fnX Try.prog ω A_p_chans_Store_Take Try.f34 [s_p, e_p, task_p] h R X = W_p_chans_Store_Take ω s_p e_p task_p h R X by kernel_rfl) ▸ hk)

/-- (*pipewright/chans.Store).side -/
abbrev n_p_chans_Store_side : Nat := 35
def W_p_chans_Store_side (ω : Amb) (s_p e_p send_p : Value) (h : Hp) (R : Value → Hp → Prop) (X : List PanicEntry → Hp → Prop) : Prop :=
 asPo s_p fun q0 => cond (Option.isNone q0)
 (R (.pointer none) h)
 (nnK s_p (asP s_p fun p1 =>
 ∃ v2, cellH h (Addr.add p1 0) = some v2 ∧
 CallX Try.prog ω 10 [v2, e_p] h (fun r3 h4 =>
 asT r3 fun T5 => asO T5[0]? fun v6 => asT r3 fun T7 => asO T7[1]? fun v8 => asA v6 fun A9 => A9.size = 4 ∧ (∀ u ∈ A9.toList, one u) ∧ storeK (Array.push h4 (.cells #[(.int .i64 0), (.bool false), (.int .i64 0), (.int .i64 0)] 36 (0, 0))) ⟨Array.size h4, 0, none⟩ A9.toList fun h10 =>
 ∃ β11 : Bool,
 (asB v8 fun b13 => cond (!b13)
 (((.bool true) : Value) = .bool β11 ∧ h10 = h10)
 (∃ v14, cellH h10 (Addr.add ⟨Array.size h4, 0, none⟩ 1) = some v14 ∧
 asB v14 fun b15 => asB send_p fun b16 => cond (!(b15 == b16))
 (((.bool true) : Value) = .bool β11 ∧ h10 = h10)
 (∃ v17, cellH h10 (Addr.add ⟨Array.size h4, 0, none⟩ 2) = some v17 ∧
 asK .i64 v17 fun n18 => ((.bool (n18 == ((-2) : Int))) : Value) = .bool β11 ∧ h10 = h10))) ∧
 ∀ d12 : Nat → Value,
 cond β11
 (R (.pointer none) h10)
 (nnK s_p (asP s_p fun p19 =>
 ∃ v20, cellH h10 (Addr.add p19 1) = some v20 ∧
 ∃ v21, cellH h10 (Addr.add ⟨Array.size h4, 0, none⟩ 0) = some v21 ∧
 asSl1 v20 fun a22 l23 c24 => asI v21 fun n25 => 0 ≤ (n25 : Int) ∧ n25 < (l23 : Int) ∧ ∃ v26, cellH h10 (Addr.add a22 (Int.toNat n25 * 1)) = some v26 ∧
 R v26 h10))) X))
def A_p_chans_Store_side : Ann :=
 (.two .leaf (.two (.two .leaf (.two (.two .leaf .leaf) .leaf)) (.two .leaf (.two (.two (.jb [20, 21, 22, 23, 24, 25, 26, 27, 28, 29, 30, 31, 32] 32 .leaf) (.two (.two .leaf .leaf) .leaf)) (.two (.plan [0, 1, 2, 3, 4, 5, 6, 7, 8]) .leaf)))))
theorem C_p_chans_Store_side (ω : Amb) (s_p e_p send_p : Value) (h : Hp) (R : Value → Hp → Prop) (X : List PanicEntry → Hp → Prop) (hk : W_p_chans_Store_side ω s_p e_p send_p h R X) : CallX Try.prog ω 35 [s_p, e_p, send_p] h R X :=
 callX_of (an := A_p_chans_Store_side) Try.func35 ((show fnX Try.prog ω A_p_chans_Store_side Try.f35 [s_p, e_p, send_p] h R X = W_p_chans_Store_side ω s_p e_p send_p h R X by kernel_rfl) ▸ hk)

/-- (*pipewright/ring.Ring[pipewright/api.Item]).Full -/
abbrev n_p_ring_Ring_api_Item_Full : Nat := 36
def W_p_ring_Ring_api_Item_Full (ω : Amb) (r_p : Value) (h : Hp) (R : Value → Hp → Prop) (X : List PanicEntry → Hp → Prop) : Prop :=
 ∃ J0 : Value → Hp → Prop,
 (asPo r_p fun q4 => cond (!(Option.isNone q4))
 (nnK r_p (asP r_p fun p5 =>
 ∃ v6, cellH h (Addr.add p5 0) = some v6 ∧
 asK .i64 v6 fun n7 => cond (decide ((n7 : Int) > 0))
 (nnK r_p (asP r_p fun p8 =>
 ∃ v9, cellH h (Addr.add p8 2) = some v9 ∧
 nnK r_p (asP r_p fun p10 =>
 ∃ v11, cellH h (Addr.add p10 0) = some v11 ∧
 asK .i64 v9 fun n12 => asK .i64 v11 fun n13 => J0 (.bool (n12 == (n13 : Int))) h)))
 (J0 (.bool false) h)))
 (J0 (.bool false) h)) ∧
 ∀ t2_1 (d2 : Nat → Value) (h3 : Hp), J0 t2_1 h3 →
 R t2_1 h3
def A_p_ring_Ring_api_Item_Full : Ann :=
 (.two .leaf (.two (.join [3, 4, 5, 6, 7, 8, 9, 10, 11, 12, 13, 14, 15, 16, 17, 18, 19, 20, 21, 22, 2] [2] (.plan [0, 1, 2, 3, 4, 5, 6, 7, 8, 9, 10, 11, 12, 13, 14, 15, 16, 17, 18, 19, 20])) .leaf))
theorem C_p_ring_Ring_api_Item_Full (ω : Amb) (r_p : Value) (h : Hp) (R : Value → Hp → Prop) (X : List PanicEntry → Hp → Prop) (hk : W_p_ring_Ring_api_Item_Full ω r_p h R X) : CallX Try.prog ω 36 [r_p] h R X :=
 callX_of (an := A_p_ring_Ring_api_Item_Full) Try.func36 ((show fnX Try.prog ω A_p_ring_Ring_api_Item_Full Try.f36 [r_p] h R X = W_p_ring_Ring_api_Item_Full ω r_p h R X by kernel_rfl) ▸ hk)

/-- (*pipewright/ring.Ring[pipewright/api.Item]).Len -/
abbrev n_p_ring_Ring_api_Item_Len : Nat := 37
def W_p_ring_Ring_api_Item_Len (ω : Amb) (r_p : Value) (h : Hp) (R : Value → Hp → Prop) (X : List PanicEntry → Hp → Prop) : Prop :=
 asPo r_p fun q0 => cond (Option.isNone q0)
 (R (.int .i64 0) h)
 (nnK r_p (asP r_p fun p1 =>
 ∃ v2, cellH h (Addr.add p1 2) = some v2 ∧
 R v2 h))
def A_p_ring_Ring_api_Item_Len : Ann :=
 (.two .leaf (.two (.two .leaf (.two (.two .leaf .leaf) .leaf)) (.two .leaf .leaf)))
theorem C_p_ring_Ring_api_Item_Len (ω : Amb) (r_p : Value) (h : Hp) (R : Value → Hp → Prop) (X : List PanicEntry → Hp → Prop) (hk : W_p_ring_Ring_api_Item_Len ω r_p h R X) : CallX Try.prog ω 37 [r_p] h R X :=
 callX_of (an := A_p_ring_Ring_api_Item_Len) Try.func37 ((show fnX Try.prog ω A_p_ring_Ring_api_Item_Len Try.f37 [r_p] h R X = W_p_ring_Ring_api_Item_Len ω r_p h R X by kernel_rfl) ▸ hk)

/-- (*pipewright/pipewrightref.Book).there -/
abbrev n_p_pipewrightref_Book_there : Nat := 38
def W_p_pipewrightref_Book_there (ω : Amb) (b_p e_p send_p : Value) (h : Hp) (R : Value → Hp → Prop) (X : List PanicEntry → Hp → Prop) : Prop :=
 CallX Try.prog ω 9 [b_p, e_p] h (fun r0 h1 =>
 asT r0 fun T2 => asO T2[0]? fun v3 => asT r0 fun T4 => asO T4[1]? fun v5 => asA v3 fun A6 => A6.size = 4 ∧ (∀ u ∈ A6.toList, one u) ∧ storeK (Array.push h1 (.cells #[(.int .i64 0), (.bool false), (.int .i64 0), (.int .i64 0)] 36 (0, 0))) ⟨Array.size h1, 0, none⟩ A6.toList fun h7 =>
 ∃ J8 : Value → Hp → Prop,
 (asB v5 fun b12 => cond b12
 (∃ v13, cellH h7 (Addr.add ⟨Array.size h1, 0, none⟩ 1) = some v13 ∧
 asB v13 fun b14 => asB send_p fun b15 => cond (b14 == b15)
 (∃ v16, cellH h7 (Addr.add ⟨Array.size h1, 0, none⟩ 2) = some v16 ∧
 asK .i64 v16 fun n17 => J8 (.bool (n17 != ((-2) : Int))) h7)
 (J8 (.bool false) h7))
 (J8 (.bool false) h7)) ∧
 ∀ t6_9 (d10 : Nat → Value) (h11 : Hp), J8 t6_9 h11 →
 R t6_9 h11) X
def A_p_pipewrightref_Book_there : Ann :=
 (.two .leaf (.two .leaf (.two (.join [15, 16, 17, 18, 19, 20, 21, 22, 23, 24, 25, 26, 6] [6] .leaf) .leaf)))
theorem C_p_pipewrightref_Book_there (ω : Amb) (b_p e_p send_p : Value) (h : Hp) (R : Value → Hp → Prop) (X : List PanicEntry → Hp → Prop) (hk : W_p_pipewrightref_Book_there ω b_p e_p send_p h R X) : CallX Try.prog ω 38 [b_p, e_p, send_p] h R X :=
 callX_of (an := A_p_pipewrightref_Book_there) Try.func38 ((show fnX Try.prog ω A_p_pipewrightref_Book_there Try.f38 [b_p, e_p, send_p] h R X = W_p_pipewrightref_Book_there ω b_p e_p send_p h R X by kernel_rfl) ▸ hk)

/-- (*pipewright/pipewrightref.Book).Senders -/
abbrev n_p_pipewrightref_Book_Senders : Nat := 39
def W_p_pipewrightref_Book_Senders (ω : Amb) (b_p c_p : Value) (h : Hp) (R : Value → Hp → Prop) (X : List PanicEntry → Hp → Prop) : Prop :=
 ∃ (I0 : Value → Value → Hp → Prop) (μ1 : Value → Value → Hp → Nat), I0 (.int .i64 0) (.int .i64 0) h ∧ ∀ n_2 e_3 (d4 : Nat → Value) (h5 : Hp), I0 n_2 e_3 h5 →
 nnK b_p (asP b_p fun p6 =>
 ∃ v7, cellH h5 (Addr.add p6 0) = some v7 ∧
 asSl v7 fun a8 l9 c10 => asK .i64 e_3 fun n11 => cond (decide ((n11 : Int) < (l9 : Int)))
 (∃ J12 : Value → Hp → Prop,
 (∃ β16 : Bool,
 (nnK b_p (asP b_p fun p18 =>
 ∃ v19, cellH h5 (Addr.add p18 0) = some v19 ∧
 asSl1 v19 fun a20 l21 c22 => asI e_3 fun n23 => 0 ≤ (n23 : Int) ∧ n23 < (l21 : Int) ∧ ∃ v24, cellH h5 (Addr.add (Addr.add a20 (Int.toNat n23 * 4)) 0) = some v24 ∧
 asK .i64 v24 fun n25 => asK .i64 c_p fun n26 => cond (n25 == (n26 : Int))
 (nnK b_p (asP b_p fun p27 =>
 ∃ v28, cellH h5 (Addr.add p27 0) = some v28 ∧
 asSl1 v28 fun a29 l30 c31 => asI e_3 fun n32 => 0 ≤ (n32 : Int) ∧ n32 < (l30 : Int) ∧ ∃ v33, cellH h5 (Addr.add (Addr.add a29 (Int.toNat n32 * 4)) 1) = some v33 ∧
 asB v33 fun b34 => cond b34
 (nnK b_p (asP b_p fun p35 =>
 ∃ v36, cellH h5 (Addr.add p35 0) = some v36 ∧
 asSl1 v36 fun a37 l38 c39 => asI e_3 fun n40 => 0 ≤ (n40 : Int) ∧ n40 < (l38 : Int) ∧ ∃ v41, cellH h5 (Addr.add (Addr.add a37 (Int.toNat n40 * 4)) 2) = some v41 ∧
 asK .i64 v41 fun n42 => ((.bool (n42 != ((-2) : Int))) : Value) = .bool β16 ∧ h5 = h5))
 (((.bool false) : Value) = .bool β16 ∧ h5 = h5)))
 (((.bool false) : Value) = .bool β16 ∧ h5 = h5))) ∧
 ∀ d17 : Nat → Value,
 ∃ J43 : Value → Hp → Prop,
 (cond β16
 (asK .i64 n_2 fun n47 => J43 (.int .i64 (IntKind.wrap .i64 (n47 + 1))) h5)
 (J43 n_2 h5)) ∧
 ∀ n_44 (d45 : Nat → Value) (h46 : Hp), J43 n_44 h46 →
 J12 n_44 h46) ∧
 ∀ n_13 (d14 : Nat → Value) (h15 : Hp), J12 n_13 h15 →
 asK .i64 e_3 fun n48 => I0 n_13 (.int .i64 (IntKind.wrap .i64 (n48 + 1))) h15 ∧ μ1 n_13 (.int .i64 (IntKind.wrap .i64 (n48 + 1))) h15 < μ1 n_2 e_3 h5)
 (R n_2 h5))
def A_p_pipewrightref_Book_Senders : Ann :=
 (.two .leaf (.two .leaf (.two (.two .leaf (.one (.loop [7, 8, 9, 10, 11, 12, 13, 16, 17, 18, 19, 20, 21, 22, 23, 24, 25, 26, 27, 28, 29, 30, 31, 32, 33, 34, 35, 36, 37, 38, 39, 40, 41, 42, 43, 44, 45, 46, 47, 48, 5, 14, 15, 6] [5, 6] (.two (.two .leaf (.two .leaf .leaf)) (.two (.join [16, 17, 18, 19, 20, 21, 22, 23, 24, 25, 26, 27, 28, 29, 30, 31, 32, 33, 34, 35, 36, 37, 38, 39, 40, 41, 42, 43, 44, 45, 46, 47, 48, 5] [5] (.one (.two (.jb [16, 17, 18, 19, 20, 21, 22, 23, 24, 25, 26, 27, 28, 29, 30, 31, 32, 33, 34, 35, 36, 37, 38, 39, 40, 41, 42, 43, 44, 45, 46] 46 .leaf) (.join [47, 48, 5] [5] (.two .leaf .leaf))))) .leaf))))) (.two .leaf .leaf))))
theorem C_p_pipewrightref_Book_Senders (ω : Amb) (b_p c_p : Value) (h : Hp) (R : Value → Hp → Prop) (X : List PanicEntry → Hp → Prop) (hk : W_p_pipewrightref_Book_Senders ω b_p c_p h R X) : CallX Try.prog ω 39 [b_p, c_p] h R X :=
 callX_of (an := A_p_pipewrightref_Book_Senders) Try.func39 ((show fnX Try.prog ω A_p_pipewrightref_Book_Senders Try.f39 [b_p, c_p] h R X = W_p_pipewrightref_Book_Senders ω b_p c_p h R X by kernel_rfl) ▸ hk)

/-- (*pipewright/pipewrightref.Book).Make -/
abbrev n_p_pipewrightref_Book_Make : Nat := 40
def W_p_pipewrightref_Book_Make (ω : Amb) (b_p slots_p task_p : Value) (h : Hp) (R : Value → Hp → Prop) (X : List PanicEntry → Hp → Prop) : Prop :=
 asK .i64 task_p fun n0 => cond (decide ((n0 : Int) < 0))
 (R (.tuple #[(.int .i64 (-1)), (.int .i64 (-1))]) h)
 (nnK b_p (asP b_p fun p1 =>
 ∃ v2, cellH h (Addr.add p1 1) = some v2 ∧
 asSl v2 fun a3 l4 c5 => nnK b_p (asP b_p fun p6 =>
 ∃ v7, cellH h (Addr.add p6 1) = some v7 ∧
 asK .i64 slots_p fun n8 => appK Try.prog 28 (Array.push h (.cells (List.toArray [(.int .i64 (if (0 : Int) > n8 then (0 : Int) else n8))]) 3 (0, 0))) v7 (.slice (some ⟨Array.size h, 0, none⟩) 1 1) fun w9 h10 =>
 nnK b_p (asP b_p fun p11 =>
 oneK w9 (storeK1 h10 (Addr.add p11 1) w9 fun h12 =>
 nnK b_p (asP b_p fun p13 =>
 ∃ v14, cellH h12 (Addr.add p13 2) = some v14 ∧
 appK Try.prog 29 (Array.push h12 (.cells (List.toArray [(.slice none 0 0)]) 63 (0, 0))) v14 (.slice (some ⟨Array.size h12, 0, none⟩) 1 1) fun w15 h16 =>
 nnK b_p (asP b_p fun p17 =>
 oneK w15 (storeK1 h16 (Addr.add p17 2) w15 fun h18 =>
 nnK b_p (asP b_p fun p19 =>
 ∃ v20, cellH h18 (Addr.add p19 3) = some v20 ∧
 appK Try.prog 30 (Array.push h18 (.cells (List.toArray [(.bool false)]) 4 (0, 0))) v20 (.slice (some ⟨Array.size h18, 0, none⟩) 1 1) fun w21 h22 =>
 nnK b_p (asP b_p fun p23 =>
 oneK w21 (storeK1 h22 (Addr.add p23 3) w21 fun h24 =>
 nnK b_p (asP b_p fun p25 =>
 ∃ v26, cellH h24 (Addr.add p25 0) = some v26 ∧
 oneK task_p (oneK task_p (4 = 4 ∧ 4 = 4 ∧ appK Try.prog 27 (Array.push h24 (.cells (List.toArray [(.int .i64 (l4 : Int)), (.bool true), task_p, (.int .i64 0), (.int .i64 (l4 : Int)), (.bool false), task_p, (.int .i64 0)]) 36 (0, 0))) v26 (.slice (some ⟨Array.size h24, 0, none⟩) 2 2) fun w27 h28 =>
 nnK b_p (asP b_p fun p29 =>
 oneK w27 (storeK1 h28 (Addr.add p29 0) w27 fun h30 =>
 nnK b_p (asP b_p fun p31 =>
 ∃ v32, cellH h30 (Addr.add p31 0) = some v32 ∧
 asSl v32 fun a33 l34 c35 => nnK b_p (asP b_p fun p36 =>
 ∃ v37, cellH h30 (Addr.add p36 0) = some v37 ∧
 asSl v37 fun a38 l39 c40 => R (.tuple #[(.int .i64 (IntKind.wrap .i64 ((l34 : Int) - 2))), (.int .i64 (IntKind.wrap .i64 ((l39 : Int) - 1)))]) h30))))))))))))))))))
def A_p_pipewrightref_Book_Make : Ann :=
 (.two .leaf (.two (.two .leaf (.two (.two .leaf .leaf) .leaf)) (.two .leaf (.two .leaf (.two .leaf (.two .leaf (.two .leaf (.two (.plan [0, 1, 2, 3, 4, 5, 6, 7, 8, 9, 10, 11, 12, 13]) .leaf))))))))
theorem C_p_pipewrightref_Book_Make (ω : Amb) (b_p slots_p task_p : Value) (h : Hp) (R : Value → Hp → Prop) (X : List PanicEntry → Hp → Prop) (hk : W_p_pipewrightref_Book_Make ω b_p slots_p task_p h R X) : CallX Try.prog ω 40 [b_p, slots_p, task_p] h R X :=
 callX_of (an := A_p_pipewrightref_Book_Make) Try.func40 ((show fnX Try.prog ω A_p_pipewrightref_Book_Make Try.f40 [b_p, slots_p, task_p] h R X = W_p_pipewrightref_Book_Make ω b_p slots_p task_p h R X by kernel_rfl) ▸ hk)

/-- (*pipewright/chans.Store).Clone -/
abbrev n_p_chans_Store_Clone : Nat := 41
def W_p_chans_Store_Clone (ω : Amb) (s_p e_p task_p : Value) (h : Hp) (R : Value → Hp → Prop) (X : List PanicEntry → Hp → Prop) : Prop :=
 CallX Try.prog ω 35 [s_p, e_p, (.bool true)] h (fun r0 h1 =>
 ∃ β2 : Bool,
 (asPo r0 fun q4 => cond (Option.isNone q4)
 (((.bool true) : Value) = .bool β2 ∧ h1 = h1)
 (asK .i64 task_p fun n5 => ((.bool (decide ((n5 : Int) < 0))) : Value) = .bool β2 ∧ h1 = h1)) ∧
 ∀ d3 : Nat → Value,
 cond β2
 (R (.int .i64 (-1)) h1)
 (nnK r0 (asP r0 fun p6 =>
 ∃ v7, cellH h1 (Addr.add p6 1) = some v7 ∧
 asK .i64 v7 fun n8 => nnK r0 (asP r0 fun p9 =>
 storeK1 h1 (Addr.add p9 1) (.int .i64 (IntKind.wrap .i64 (n8 + 1))) fun h10 =>
 nnK s_p (asP s_p fun p11 =>
 ∃ v12, cellH h10 (Addr.add p11 0) = some v12 ∧
 CallX Try.prog ω 10 [v12, e_p] h10 (fun r13 h14 =>
 asT r13 fun T15 => asO T15[0]? fun v16 => asT r13 fun T17 => asO T17[1]? fun v18 => asA v16 fun A19 => A19.size = 4 ∧ (∀ u ∈ A19.toList, one u) ∧ storeK (Array.push h14 (.cells #[(.int .i64 0), (.bool false), (.int .i64 0), (.int .i64 0)] 36 (0, 0))) ⟨Array.size h14, 0, none⟩ A19.toList fun h20 =>
 nnK s_p (asP s_p fun p21 =>
 ∃ v22, cellH h20 (Addr.add p21 0) = some v22 ∧
 ∃ v23, cellH h20 (Addr.add ⟨Array.size h14, 0, none⟩ 0) = some v23 ∧
 CallX Try.prog ω 11 [v22, v23, (.bool true), task_p] h20 (fun r24 h25 =>
 R r24 h25) X)) X))))) X
def A_p_chans_Store_Clone : Ann :=
 (.two .leaf (.two .leaf (.two (.two (.jb [13, 14, 15, 16, 17, 18] 18 .leaf) (.two (.two .leaf .leaf) .leaf)) (.two .leaf (.two .leaf (.two (.plan [0, 1, 2, 3, 4, 5, 6, 7, 8]) .leaf))))))
theorem C_p_chans_Store_Clone (ω : Amb) (s_p e_p task_p : Value) (h : Hp) (R : Value → Hp → Prop) (X : List PanicEntry → Hp → Prop) (hk : W_p_chans_Store_Clone ω s_p e_p task_p h R X) : CallX Try.prog ω 41 [s_p, e_p, task_p] h R X :=
 callX_of (an := A_p_chans_Store_Clone) Try.func41 ((show fnX Try.prog ω A_p_chans_Store_Clone Try.f41 [s_p, e_p, task_p] h R X = W_p_chans_Store_Clone ω s_p e_p task_p h R X by kernel_rfl) ▸ hk)

/-- (*pipewright/pipewrightref.Book).Clone -/
abbrev n_p_pipewrightref_Book_Clone : Nat := 42
def W_p_pipewrightref_Book_Clone (ω : Amb) (b_p e_p task_p : Value) (h : Hp) (R : Value → Hp → Prop) (X : List PanicEntry → Hp → Prop) : Prop :=
 ∃ J0 : Value → Hp → Prop,
 (CallX Try.prog ω 38 [b_p, e_p, (.bool true)] h (fun r4 h5 =>
 asB r4 fun b6 => cond (!b6)
 (J0 (.bool true) h5)
 (asK .i64 task_p fun n7 => J0 (.bool (decide ((n7 : Int) < 0))) h5)) X) ∧
 ∀ t14_1 (d2 : Nat → Value) (h3 : Hp), J0 t14_1 h3 →
 asB t14_1 fun b8 => cond b8
 (R (.int .i64 (-1)) h3)
 (nnK b_p (asP b_p fun p9 =>
 ∃ v10, cellH h3 (Addr.add p9 0) = some v10 ∧
 nnK b_p (asP b_p fun p11 =>
 ∃ v12, cellH h3 (Addr.add p11 0) = some v12 ∧
 asSl1 v12 fun a13 l14 c15 => asI e_p fun n16 => 0 ≤ (n16 : Int) ∧ n16 < (l14 : Int) ∧ ∃ v17, cellH h3 (Addr.add (Addr.add a13 (Int.toNat n16 * 4)) 0) = some v17 ∧
 oneK v17 (oneK task_p (4 = 4 ∧ cellH (Array.push h3 (.cells (List.toArray [v17, (.bool true), task_p, (.int .i64 0)]) 36 (0, 0))) (Addr.add p9 0) = some v10 ∧ appK Try.prog 27 (Array.push h3 (.cells (List.toArray [v17, (.bool true), task_p, (.int .i64 0)]) 36 (0, 0))) v10 (.slice (some ⟨Array.size h3, 0, none⟩) 1 1) fun w18 h19 =>
 nnK b_p (asP b_p fun p20 =>
 oneK w18 (storeK1 h19 (Addr.add p20 0) w18 fun h21 =>
 nnK b_p (asP b_p fun p22 =>
 ∃ v23, cellH h21 (Addr.add p22 0) = some v23 ∧
 asSl v23 fun a24 l25 c26 => R (.int .i64 (IntKind.wrap .i64 ((l25 : Int) - 1))) h21))))))))
def A_p_pipewrightref_Book_Clone : Ann :=
 (.two .leaf (.two (.two (.join [7, 8, 9, 10, 11, 12, 13, 14] [14] .leaf) (.two (.two .leaf .leaf) .leaf)) (.two (.plan [0, 1, 2, 3, 4, 5, 6, 7, 8, 9, 10, 11, 12, 13, 14, 15, 16, 17, 18, 19]) (.two .leaf .leaf))))
theorem C_p_pipewrightref_Book_Clone (ω : Amb) (b_p e_p task_p : Value) (h : Hp) (R : Value → Hp → Prop) (X : List PanicEntry → Hp → Prop) (hk : W_p_pipewrightref_Book_Clone ω b_p e_p task_p h R X) : CallX Try.prog ω 42 [b_p, e_p, task_p] h R X :=
 callX_of (an := A_p_pipewrightref_Book_Clone) Try.func42 ((show fnX Try.prog ω A_p_pipewrightref_Book_Clone Try.f42 [b_p, e_p, task_p] h R X = W_p_pipewrightref_Book_Clone ω b_p e_p task_p h R X by kernel_rfl) ▸ hk)

/-- (*pipewright/pipewrightref.Book).Put -/
abbrev n_p_pipewrightref_Book_Put : Nat := 43
def W_p_pipewrightref_Book_Put (ω : Amb) (b_p e_p x_p : Value) (h : Hp) (R : Value → Hp → Prop) (X : List PanicEntry → Hp → Prop) : Prop :=
 ∃ J0 : Value → Hp → Prop,
 (CallX Try.prog ω 38 [b_p, e_p, (.bool true)] (Array.push h (.cells (Value.cells x_p) 74 (0, 0))) (fun r4 h5 =>
 asB r4 fun b6 => cond (!b6)
 (J0 (.bool true) h5)
 (CallX Try.prog ω 24 [b_p, e_p] h5 (fun r7 h8 =>
 J0 r7 h8) X)) X) ∧
 ∀ t18_1 (d2 : Nat → Value) (h3 : Hp), J0 t18_1 h3 →
 asB t18_1 fun b9 => cond b9
 (R (.bool false) h3)
 (nnK b_p (asP b_p fun p10 =>
 ∃ v11, cellH h3 (Addr.add p10 0) = some v11 ∧
 asSl1 v11 fun a12 l13 c14 => asI e_p fun n15 => 0 ≤ (n15 : Int) ∧ n15 < (l13 : Int) ∧ ∃ v16, cellH h3 (Addr.add (Addr.add a12 (Int.toNat n15 * 4)) 0) = some v16 ∧
 ∃ v17, cellH h3 (Addr.add ⟨Array.size h, 0, none⟩ 1) = some v17 ∧
 asK .i64 v17 fun n18 => cond (decide ((n18 : Int) < 0))
 (nnK b_p (asP b_p fun p19 =>
 ∃ v20, cellH h3 (Addr.add p19 3) = some v20 ∧
 asSl1 v20 fun a21 l22 c23 => asI v16 fun n24 => 0 ≤ (n24 : Int) ∧ n24 < (l22 : Int) ∧ ∃ v25, cellH h3 (Addr.add a21 (Int.toNat n24 * 1)) = some v25 ∧
 asB v25 fun b26 => ∃ J27 : Hp → Prop,
 (cond (!b26)
 (nnK b_p (asP b_p fun p30 =>
 ∃ v31, cellH h3 (Addr.add p30 2) = some v31 ∧
 nnK b_p (asP b_p fun p32 =>
 ∃ v33, cellH h3 (Addr.add p32 2) = some v33 ∧
 asSl1 v33 fun a34 l35 c36 => asI v16 fun n37 => 0 ≤ (n37 : Int) ∧ n37 < (l35 : Int) ∧ ∃ v38, cellH h3 (Addr.add a34 (Int.toNat n37 * 1)) = some v38 ∧
 ∃ v39, cellH h3 (Addr.add ⟨Array.size h, 0, none⟩ 0) = some v39 ∧
 oneK v39 (2 = 2 ∧ cellH (Array.push h3 (.cells (List.toArray [v39, (.int .i64 (-1))]) 74 (0, 0))) (Addr.add a34 (Int.toNat n37 * 1)) = some v38 ∧ cellH (Array.push h3 (.cells (List.toArray [v39, (.int .i64 (-1))]) 74 (0, 0))) (Addr.add p32 2) = some v33 ∧ cellH (Array.push h3 (.cells (List.toArray [v39, (.int .i64 (-1))]) 74 (0, 0))) (Addr.add p30 2) = some v31 ∧ appK Try.prog 63 (Array.push h3 (.cells (List.toArray [v39, (.int .i64 (-1))]) 74 (0, 0))) v38 (.slice (some ⟨Array.size h3, 0, none⟩) 1 1) fun w40 h41 =>
 cellH h41 (Addr.add p30 2) = some v31 ∧ asSl1 v31 fun a42 l43 c44 => asI v16 fun n45 => 0 ≤ (n45 : Int) ∧ n45 < (l43 : Int) ∧ oneK w40 (storeK1 h41 (Addr.add a42 (Int.toNat n45 * 1)) w40 fun h46 =>
 J27 h46)))))
 (J27 h3)) ∧
 ∀  (d28 : Nat → Value) (h29 : Hp), J27 h29 →
 R (.bool true) h29))
 (∃ v47, cellH h3 (Addr.add ⟨Array.size h, 0, none⟩ 1) = some v47 ∧
 CallX Try.prog ω 9 [b_p, v47] h3 (fun r48 h49 =>
 asT r48 fun T50 => asO T50[0]? fun v51 => asT r48 fun T52 => asO T52[1]? fun v53 => asA v51 fun A54 => A54.size = 4 ∧ (∀ u ∈ A54.toList, one u) ∧ storeK (Array.push h49 (.cells #[(.int .i64 0), (.bool false), (.int .i64 0), (.int .i64 0)] 36 (0, 0))) ⟨Array.size h49, 0, none⟩ A54.toList fun h55 =>
 ∃ β56 : Bool,
 (asB v53 fun b58 => cond (!b58)
 (((.bool true) : Value) = .bool β56 ∧ h55 = h55)
 (∃ v59, cellH h55 (Addr.add ⟨Array.size h49, 0, none⟩ 2) = some v59 ∧
 asK .i64 v59 fun n60 => cond (decide ((n60 : Int) < 0))
 (((.bool true) : Value) = .bool β56 ∧ h55 = h55)
 (∃ v61, cellH h55 (Addr.add ⟨Array.size h, 0, none⟩ 1) = some v61 ∧
 asK .i64 v61 fun n62 => asK .i64 e_p fun n63 => ((.bool (n62 == (n63 : Int))) : Value) = .bool β56 ∧ h55 = h55))) ∧
 ∀ d57 : Nat → Value,
 cond β56
 (R (.bool false) h55)
 (nnK b_p (asP b_p fun p64 =>
 ∃ v65, cellH h55 (Addr.add p64 3) = some v65 ∧
 asSl1 v65 fun a66 l67 c68 => asI v16 fun n69 => 0 ≤ (n69 : Int) ∧ n69 < (l67 : Int) ∧ ∃ v70, cellH h55 (Addr.add a66 (Int.toNat n69 * 1)) = some v70 ∧
 asB v70 fun b71 => cond b71
 (∃ v72, cellH h55 (Addr.add ⟨Array.size h, 0, none⟩ 1) = some v72 ∧
 CallX Try.prog ω 45 [b_p, v72] h55 (fun r73 h74 =>
 R (.bool true) h74) X)
 (nnK b_p (asP b_p fun p75 =>
 ∃ v76, cellH h55 (Addr.add p75 0) = some v76 ∧
 ∃ v77, cellH h55 (Addr.add ⟨Array.size h, 0, none⟩ 1) = some v77 ∧
 asSl1 v76 fun a78 l79 c80 => asI v77 fun n81 => 0 ≤ (n81 : Int) ∧ n81 < (l79 : Int) ∧ storeK1 h55 (Addr.add (Addr.add a78 (Int.toNat n81 * 4)) 2) (.int .i64 (-1)) fun h82 =>
 nnK b_p (asP b_p fun p83 =>
 ∃ v84, cellH h82 (Addr.add p83 2) = some v84 ∧
 nnK b_p (asP b_p fun p85 =>
 ∃ v86, cellH h82 (Addr.add p85 2) = some v86 ∧
 asSl1 v86 fun a87 l88 c89 => asI v16 fun n90 => 0 ≤ (n90 : Int) ∧ n90 < (l88 : Int) ∧ ∃ v91, cellH h82 (Addr.add a87 (Int.toNat n90 * 1)) = some v91 ∧
 ∃ v92, cellH h82 (Addr.add ⟨Array.size h, 0, none⟩ 1) = some v92 ∧
 oneK v92 (2 = 2 ∧ cellH (Array.push h82 (.cells (List.toArray [(.int .i64 0), v92]) 74 (0, 0))) (Addr.add a87 (Int.toNat n90 * 1)) = some v91 ∧ cellH (Array.push h82 (.cells (List.toArray [(.int .i64 0), v92]) 74 (0, 0))) (Addr.add p85 2) = some v86 ∧ cellH (Array.push h82 (.cells (List.toArray [(.int .i64 0), v92]) 74 (0, 0))) (Addr.add p83 2) = some v84 ∧ appK Try.prog 63 (Array.push h82 (.cells (List.toArray [(.int .i64 0), v92]) 74 (0, 0))) v91 (.slice (some ⟨Array.size h82, 0, none⟩) 1 1) fun w93 h94 =>
 cellH h94 (Addr.add p83 2) = some v84 ∧ asSl1 v84 fun a95 l96 c97 => asI v16 fun n98 => 0 ≤ (n98 : Int) ∧ n98 < (l96 : Int) ∧ oneK w93 (storeK1 h94 (Addr.add a95 (Int.toNat n98 * 1)) w93 fun h99 =>
 R (.bool true) h99))))))))) X)))
def A_p_pipewrightref_Book_Put : Ann :=
 (.two .leaf (.two (.two (.join [10, 11, 12, 13, 14, 15, 16, 17, 18] [18] .leaf) (.two (.two .leaf .leaf) .leaf)) (.two .leaf (.two (.two .leaf (.two (.two (.two .leaf (.join [38, 39, 40, 41, 42, 43, 44, 45, 46, 47, 48, 49, 50, 51, 52, 53, 54, 55] [] (.two (.plan [0, 1, 2, 3, 4, 5, 6, 7, 8, 9, 10, 11, 12, 13, 14, 15, 16, 17, 18]) .leaf))) (.two .leaf .leaf)) .leaf)) (.two .leaf (.two (.two (.jb [63, 64, 65, 66, 67, 68, 69, 70, 71, 72, 73, 74, 75] 75 .leaf) (.two (.two .leaf .leaf) .leaf)) (.two (.two .leaf (.two (.two .leaf (.two .leaf .leaf)) .leaf)) (.two (.plan [0, 1, 2, 3, 4, 5, 6, 7, 8]) (.two (.plan [0, 1, 2, 3, 4, 5, 6, 7, 8, 9, 10, 11, 12, 13, 14, 15, 16, 17, 18]) (.two .leaf .leaf))))))))))
theorem C_p_pipewrightref_Book_Put (ω : Amb) (b_p e_p x_p : Value) (h : Hp) (R : Value → Hp → Prop) (X : List PanicEntry → Hp → Prop) (hk : W_p_pipewrightref_Book_Put ω b_p e_p x_p h R X) : CallX Try.prog ω 43 [b_p, e_p, x_p] h R X :=
 callX_of (an := A_p_pipewrightref_Book_Put) Try.func43 ((show fnX Try.prog ω A_p_pipewrightref_Book_Put Try.f43 [b_p, e_p, x_p] h R X = W_p_pipewrightref_Book_Put ω b_p e_p x_p h R X by kernel_rfl) ▸ hk)

/-- (*pipewright/pipewrightref.Book).Take -/
abbrev n_p_pipewrightref_Book_Take : Nat := 44
def W_p_pipewrightref_Book_Take (ω : Amb) (b_p e_p task_p : Value) (h : Hp) (R : Value → Hp → Prop) (X : List PanicEntry → Hp → Prop) : Prop :=
 ∃ J0 : Value → Hp → Prop,
 (CallX Try.prog ω 38 [b_p, e_p, (.bool false)] (Array.push h (.cells #[(.int .i64 0), (.int .i64 0)] 74 (0, 0))) (fun r4 h5 =>
 asB r4 fun b6 => cond (!b6)
 (J0 (.bool true) h5)
 (CallX Try.prog ω 24 [b_p, e_p] h5 (fun r7 h8 =>
 asB r7 fun b9 => cond b9
 (J0 (.bool true) h8)
 (asK .i64 task_p fun n10 => J0 (.bool (decide ((n10 : Int) < 0))) h8)) X)) X) ∧
 ∀ t22_1 (d2 : Nat → Value) (h3 : Hp), J0 t22_1 h3 →
 asB t22_1 fun b11 => cond b11
 (2 = 2 ∧ (∀ u ∈ [(.int .i64 0), (.int .i64 0)], one u) ∧ storeK h3 ⟨Array.size h, 0, none⟩ [(.int .i64 0), (.int .i64 0)] fun h12 =>
 ∃ C13, cellsH h12 ⟨Array.size h, 0, none⟩ 2 C13 ∧ R (.tuple #[(.agg C13.toArray), (.int .i64 (-1))]) h12)
 (nnK b_p (asP b_p fun p14 =>
 ∃ v15, cellH h3 (Addr.add p14 0) = some v15 ∧
 asSl1 v15 fun a16 l17 c18 => asI e_p fun n19 => 0 ≤ (n19 : Int) ∧ n19 < (l17 : Int) ∧ ∃ v20, cellH h3 (Addr.add (Addr.add a16 (Int.toNat n19 * 4)) 0) = some v20 ∧
 nnK b_p (asP b_p fun p21 =>
 ∃ v22, cellH h3 (Addr.add p21 2) = some v22 ∧
 asSl1 v22 fun a23 l24 c25 => asI v20 fun n26 => 0 ≤ (n26 : Int) ∧ n26 < (l24 : Int) ∧ ∃ v27, cellH h3 (Addr.add a23 (Int.toNat n26 * 1)) = some v27 ∧
 asSl v27 fun a28 l29 c30 => cond ((l29 : Int) == (0 : Int))
 (2 = 2 ∧ (∀ u ∈ [(.int .i64 0), (.int .i64 0)], one u) ∧ storeK h3 ⟨Array.size h, 0, none⟩ [(.int .i64 0), (.int .i64 0)] fun h31 =>
 ∃ C32, cellsH h31 ⟨Array.size h, 0, none⟩ 2 C32 ∧ R (.tuple #[(.agg C32.toArray), (.int .i64 0)]) h31)
 (nnK b_p (asP b_p fun p33 =>
 ∃ v34, cellH h3 (Addr.add p33 2) = some v34 ∧
 asSl1 v34 fun a35 l36 c37 => asI v20 fun n38 => 0 ≤ (n38 : Int) ∧ n38 < (l36 : Int) ∧ ∃ v39, cellH h3 (Addr.add a35 (Int.toNat n38 * 1)) = some v39 ∧
 asSl1 v39 fun a40 l41 c42 => 0 ≤ (0 : Int) ∧ 0 < (l41 : Int) ∧ ∃ C43, cellsH h3 (Addr.add a40 (Int.toNat 0 * 2)) 2 C43 ∧
 C43.toArray.size = 2 ∧ (∀ u ∈ C43.toArray.toList, one u) ∧ storeK (Array.push h3 (.cells #[(.int .i64 0), (.int .i64 0)] 74 (0, 0))) ⟨Array.size h3, 0, none⟩ C43.toArray.toList fun h44 =>
 nnK b_p (asP b_p fun p45 =>
 ∃ v46, cellH h44 (Addr.add p45 2) = some v46 ∧
 nnK b_p (asP b_p fun p47 =>
 ∃ v48, cellH h44 (Addr.add p47 2) = some v48 ∧
 asSl1 v48 fun a49 l50 c51 => asI v20 fun n52 => 0 ≤ (n52 : Int) ∧ n52 < (l50 : Int) ∧ ∃ v53, cellH h44 (Addr.add a49 (Int.toNat n52 * 1)) = some v53 ∧
 asSl v53 fun a54 l55 c56 => 0 ≤ (1 : Int) ∧ (1 : Int) ≤ (l55 : Int) ∧ (l55 : Int) ≤ (c56 : Int) ∧ asSl1 v46 fun a57 l58 c59 => asI v20 fun n60 => 0 ≤ (n60 : Int) ∧ n60 < (l58 : Int) ∧ storeK1 h44 (Addr.add a57 (Int.toNat n60 * 1)) (.slice (if c56 = Int.toNat 1 then a54 else Option.map (fun y => Addr.add y (Int.toNat 1 * 2)) a54) (Int.toNat (l55 : Int) - Int.toNat 1) (c56 - Int.toNat 1)) fun h61 =>
 ∃ β62 : Bool,
 (∃ v64, cellH h61 (Addr.add ⟨Array.size h3, 0, none⟩ 1) = some v64 ∧
 asK .i64 v64 fun n65 => cond (decide ((n65 : Int) ≥ 0))
 (nnK b_p (asP b_p fun p66 =>
 ∃ v67, cellH h61 (Addr.add p66 0) = some v67 ∧
 ∃ v68, cellH h61 (Addr.add ⟨Array.size h3, 0, none⟩ 1) = some v68 ∧
 asSl1 v67 fun a69 l70 c71 => asI v68 fun n72 => 0 ≤ (n72 : Int) ∧ n72 < (l70 : Int) ∧ ∃ v73, cellH h61 (Addr.add (Addr.add a69 (Int.toNat n72 * 4)) 2) = some v73 ∧
 asK .i64 v73 fun n74 => ((.bool (n74 != ((-2) : Int))) : Value) = .bool β62 ∧ h61 = h61))
 (((.bool false) : Value) = .bool β62 ∧ h61 = h61)) ∧
 ∀ d63 : Nat → Value,
 ∃ J75 : Hp → Prop,
 (cond β62
 (nnK b_p (asP b_p fun p78 =>
 ∃ v79, cellH h61 (Addr.add p78 0) = some v79 ∧
 ∃ v80, cellH h61 (Addr.add ⟨Array.size h3, 0, none⟩ 1) = some v80 ∧
 asSl1 v79 fun a81 l82 c83 => asI v80 fun n84 => 0 ≤ (n84 : Int) ∧ n84 < (l82 : Int) ∧ oneK task_p (storeK1 h61 (Addr.add (Addr.add a81 (Int.toNat n84 * 4)) 2) task_p fun h85 =>
 J75 h85)))
 (J75 h61)) ∧
 ∀  (d76 : Nat → Value) (h77 : Hp), J75 h77 →
 ∃ C86, cellsH h77 ⟨Array.size h3, 0, none⟩ 2 C86 ∧
 C86.toArray.size = 2 ∧ (∀ u ∈ C86.toArray.toList, one u) ∧ storeK h77 ⟨Array.size h, 0, none⟩ C86.toArray.toList fun h87 =>
 ∃ C88, cellsH h87 ⟨Array.size h, 0, none⟩ 2 C88 ∧ R (.tuple #[(.agg C88.toArray), (.int .i64 1)]) h87)))))))
def A_p_pipewrightref_Book_Take : Ann :=
 (.two .leaf (.two (.two (.join [10, 11, 12, 13, 14, 15, 16, 17, 18, 19, 20, 21, 22] [22] .leaf) (.two (.two .leaf .leaf) .leaf)) (.two .leaf (.two (.two .leaf (.two (.two .leaf .leaf) .leaf)) (.two .leaf (.two (.plan [0, 1, 2, 3, 4, 5, 6, 7, 8, 9, 10, 11, 12, 13, 14]) (.two (.two (.jb [65, 66, 67, 68, 69, 70, 71, 72, 73, 74, 75, 76, 77, 78, 79] 79 (.plan [0, 1, 2, 3, 4, 5, 6, 7, 8, 9, 10, 11, 12, 13, 14])) (.join [80, 81, 82, 83, 84, 85, 86, 87, 88] [] (.two (.plan [0, 1, 2, 3, 4, 5, 6, 7, 8, 9]) .leaf))) (.two .leaf .leaf))))))))
theorem C_p_pipewrightref_Book_Take (ω : Amb) (b_p e_p task_p : Value) (h : Hp) (R : Value → Hp → Prop) (X : List PanicEntry → Hp → Prop) (hk : W_p_pipewrightref_Book_Take ω b_p e_p task_p h R X) : CallX Try.prog ω 44 [b_p, e_p, task_p] h R X :=
 callX_of (an := A_p_pipewrightref_Book_Take) Try.func44 ((show fnX Try.prog ω A_p_pipewrightref_Book_Take Try.f44 [b_p, e_p, task_p] h R X = W_p_pipewrightref_Book_Take ω b_p e_p task_p h R X by kernel_rfl) ▸ hk)

/-- (*pipewright/pipewrightref.Book).Drop -/
abbrev n_p_pipewrightref_Book_Drop : Nat := 45
def W_p_pipewrightref_Book_Drop (ω : Amb) (b_p e_p : Value) (h : Hp) (R : Value → Hp → Prop) (X : List PanicEntry → Hp → Prop) : Prop :=
 CallX Try.prog ω 9 [b_p, e_p] h (fun r0 h1 =>
 asT r0 fun T2 => asO T2[0]? fun v3 => asT r0 fun T4 => asO T4[1]? fun v5 => asA v3 fun A6 => A6.size = 4 ∧ (∀ u ∈ A6.toList, one u) ∧ storeK (Array.push h1 (.cells #[(.int .i64 0), (.bool false), (.int .i64 0), (.int .i64 0)] 36 (0, 0))) ⟨Array.size h1, 0, none⟩ A6.toList fun h7 =>
 asB v5 fun b8 => cond (!b8)
 (R (.bool false) h7)
 (nnK b_p (asP b_p fun p9 =>
 ∃ v10, cellH h7 (Addr.add p9 0) = some v10 ∧
 asSl1 v10 fun a11 l12 c13 => asI e_p fun n14 => 0 ≤ (n14 : Int) ∧ n14 < (l12 : Int) ∧ ∃ v15, cellH h7 (Addr.add (Addr.add a11 (Int.toNat n14 * 4)) 3) = some v15 ∧
 asK .i64 v15 fun n16 => asSl1 v10 fun a17 l18 c19 => asI e_p fun n20 => 0 ≤ (n20 : Int) ∧ n20 < (l18 : Int) ∧ storeK1 h7 (Addr.add (Addr.add a17 (Int.toNat n20 * 4)) 3) (.int .i64 (IntKind.wrap .i64 (n16 + 1))) fun h21 =>
 ∃ v22, cellH h21 (Addr.add ⟨Array.size h1, 0, none⟩ 2) = some v22 ∧
 asK .i64 v22 fun n23 => cond (n23 == ((-2) : Int))
 (R (.bool false) h21)
 (nnK b_p (asP b_p fun p24 =>
 ∃ v25, cellH h21 (Addr.add p24 0) = some v25 ∧
 asSl1 v25 fun a26 l27 c28 => asI e_p fun n29 => 0 ≤ (n29 : Int) ∧ n29 < (l27 : Int) ∧ storeK1 h21 (Addr.add (Addr.add a26 (Int.toNat n29 * 4)) 2) (.int .i64 (-2)) fun h30 =>
 ∃ v31, cellH h30 (Addr.add ⟨Array.size h1, 0, none⟩ 1) = some v31 ∧
 asB v31 fun b32 => cond b32
 (R (.bool true) h30)
 (nnK b_p (asP b_p fun p33 =>
 ∃ v34, cellH h30 (Addr.add p33 3) = some v34 ∧
 ∃ v35, cellH h30 (Addr.add ⟨Array.size h1, 0, none⟩ 0) = some v35 ∧
 asSl1 v34 fun a36 l37 c38 => asI v35 fun n39 => 0 ≤ (n39 : Int) ∧ n39 < (l37 : Int) ∧ storeK1 h30 (Addr.add a36 (Int.toNat n39 * 1)) (.bool true) fun h40 =>
 nnK b_p (asP b_p fun p41 =>
 ∃ v42, cellH h40 (Addr.add p41 2) = some v42 ∧
 ∃ v43, cellH h40 (Addr.add ⟨Array.size h1, 0, none⟩ 0) = some v43 ∧
 asSl1 v42 fun a44 l45 c46 => asI v43 fun n47 => 0 ≤ (n47 : Int) ∧ n47 < (l45 : Int) ∧ ∃ v48, cellH h40 (Addr.add a44 (Int.toNat n47 * 1)) = some v48 ∧
 nnK b_p (asP b_p fun p49 =>
 ∃ v50, cellH h40 (Addr.add p49 2) = some v50 ∧
 ∃ v51, cellH h40 (Addr.add ⟨Array.size h1, 0, none⟩ 0) = some v51 ∧
 asSl1 v50 fun a52 l53 c54 => asI v51 fun n55 => 0 ≤ (n55 : Int) ∧ n55 < (l53 : Int) ∧ storeK1 h40 (Addr.add a52 (Int.toNat n55 * 1)) (.slice none 0 0) fun h56 =>
 ∃ (I57 : Value → Hp → Prop) (μ58 : Value → Hp → Nat), I57 (.int .i64 0) h56 ∧ ∀ i_59 (d60 : Nat → Value) (h61 : Hp), I57 i_59 h61 →
 asSl v48 fun a62 l63 c64 => asK .i64 i_59 fun n65 => cond (decide ((n65 : Int) < (l63 : Int)))
 (∃ J66 : Hp → Prop,
 (asSl1 v48 fun a69 l70 c71 => asI i_59 fun n72 => 0 ≤ (n72 : Int) ∧ n72 < (l70 : Int) ∧ ∃ v73, cellH h61 (Addr.add (Addr.add a69 (Int.toNat n72 * 2)) 1) = some v73 ∧
 asK .i64 v73 fun n74 => ∃ J75 : Hp → Prop,
 (cond (decide ((n74 : Int) ≥ 0))
 (asSl1 v48 fun a78 l79 c80 => asI i_59 fun n81 => 0 ≤ (n81 : Int) ∧ n81 < (l79 : Int) ∧ ∃ v82, cellH h61 (Addr.add (Addr.add a78 (Int.toNat n81 * 2)) 1) = some v82 ∧
 CallX Try.prog ω 45 [b_p, v82] h61 (fun r83 h84 =>
 J75 h84) X)
 (J75 h61)) ∧
 ∀  (d76 : Nat → Value) (h77 : Hp), J75 h77 →
 J66 h77) ∧
 ∀  (d67 : Nat → Value) (h68 : Hp), J66 h68 →
 asK .i64 i_59 fun n85 => I57 (.int .i64 (IntKind.wrap .i64 (n85 + 1))) h68 ∧ μ58 (.int .i64 (IntKind.wrap .i64 (n85 + 1))) h68 < μ58 i_59 h61)
 (R (.bool true) h61)))))))))) X
def A_p_pipewrightref_Book_Drop : Ann :=
 (.two .leaf (.two .leaf (.two (.two .leaf (.two (.two .leaf .leaf) .leaf)) (.two .leaf (.two (.two .leaf (.two (.two .leaf .leaf) .leaf)) (.two .leaf (.two (.two .leaf (.two (.two .leaf .leaf) .leaf)) (.two (.plan [0, 1, 2, 3, 4, 5, 6, 7]) (.two (.plan [0, 1, 2, 3, 4, 5, 6, 7, 8]) (.two (.plan [0, 1, 2, 3, 4, 5, 6, 7]) (.two (.two .leaf (.one (.loop [62, 63, 64, 65, 68, 69, 70, 71, 72, 73, 74, 75, 76, 77, 78, 79, 80, 66, 67, 8] [8] (.two (.two .leaf (.two .leaf .leaf)) (.two (.join [68, 69, 70, 71, 72, 73, 74, 75, 76, 77, 78, 79, 80] [] (.one (.two .leaf (.join [74, 75, 76, 77, 78, 79, 80] [] (.two .leaf .leaf))))) .leaf))))) (.two .leaf .leaf))))))))))))
theorem C_p_pipewrightref_Book_Drop (ω : Amb) (b_p e_p : Value) (h : Hp) (R : Value → Hp → Prop) (X : List PanicEntry → Hp → Prop) (hk : W_p_pipewrightref_Book_Drop ω b_p e_p h R X) : CallX Try.prog ω 45 [b_p, e_p] h R X :=
 callX_of (an := A_p_pipewrightref_Book_Drop) Try.func45 ((show fnX Try.prog ω A_p_pipewrightref_Book_Drop Try.f45 [b_p, e_p] h R X = W_p_pipewrightref_Book_Drop ω b_p e_p h R X by kernel_rfl) ▸ hk)

/-- pipewright/pipewrightref.SameItems -/
abbrev n_pipewrightref_SameItems : Nat := 46
def W_pipewrightref_SameItems (ω : Amb) (a_p b_p : Value) (h : Hp) (R : Value → Hp → Prop) (X : List PanicEntry → Hp → Prop) : Prop :=
 asSl a_p fun a0 l1 c2 => asSl b_p fun a3 l4 c5 => cond ((l1 : Int) != ((l4 : Int) : Int))
 (R (.bool false) h)
 (∃ (I6 : Value → Hp → Prop) (μ7 : Value → Hp → Nat), I6 (.int .i64 0) h ∧ ∀ i_8 (d9 : Nat → Value) (h10 : Hp), I6 i_8 h10 →
 asSl a_p fun a11 l12 c13 => asK .i64 i_8 fun n14 => cond (decide ((n14 : Int) < (l12 : Int)))
 (asSl1 a_p fun a15 l16 c17 => asI i_8 fun n18 => 0 ≤ (n18 : Int) ∧ n18 < (l16 : Int) ∧ ∃ C19, cellsH h10 (Addr.add a15 (Int.toNat n18 * 2)) 2 C19 ∧
 asSl1 b_p fun a20 l21 c22 => asI i_8 fun n23 => 0 ≤ (n23 : Int) ∧ n23 < (l21 : Int) ∧ ∃ C24, cellsH h10 (Addr.add a20 (Int.toNat n23 * 2)) 2 C24 ∧
 asO C19.toArray[0]? fun v25 => asO C24.toArray[0]? fun v26 => asK .i64 v25 fun n27 => asK .i64 v26 fun n28 => asO C19.toArray[1]? fun v29 => asO C24.toArray[1]? fun v30 => asK .i64 v29 fun n31 => asK .i64 v30 fun n32 => cond (!((n27 == (n28 : Int)) && ((n31 == (n32 : Int)) && true)))
 (R (.bool false) h10)
 (asK .i64 i_8 fun n33 => I6 (.int .i64 (IntKind.wrap .i64 (n33 + 1))) h10 ∧ μ7 (.int .i64 (IntKind.wrap .i64 (n33 + 1))) h10 < μ7 i_8 h10))
 (R (.bool true) h10))
def A_pipewrightref_SameItems : Ann :=
 (.two .leaf (.two (.two .leaf (.two (.two .leaf .leaf) .leaf)) (.two (.two .leaf (.one (.loop [11, 12, 13, 14, 17, 18, 19, 20, 21, 22, 23, 24, 25, 4, 15, 16, 5] [5] (.two (.two .leaf (.two .leaf .leaf)) (.two (.one (.two (.plan [0, 1, 2, 3, 4, 5, 6, 7, 8]) (.two (.two .leaf .leaf) .leaf))) .leaf))))) (.two .leaf .leaf))))
theorem C_pipewrightref_SameItems (ω : Amb) (a_p b_p : Value) (h : Hp) (R : Value → Hp → Prop) (X : List PanicEntry → Hp → Prop) (hk : W_pipewrightref_SameItems ω a_p b_p h R X) : CallX Try.prog ω 46 [a_p, b_p] h R X :=
 callX_of (an := A_pipewrightref_SameItems) Try.func46 ((show fnX Try.prog ω A_pipewrightref_SameItems Try.f46 [a_p, b_p] h R X = W_pipewrightref_SameItems ω a_p b_p h R X by kernel_rfl) ▸ hk)

/-- (*pipewright/ring.Ring[pipewright/api.Item]).Slots -/
abbrev n_p_ring_Ring_api_Item_Slots : Nat := 47
def W_p_ring_Ring_api_Item_Slots (ω : Amb) (r_p : Value) (h : Hp) (R : Value → Hp → Prop) (X : List PanicEntry → Hp → Prop) : Prop :=
 asPo r_p fun q0 => cond (Option.isNone q0)
 (R (.int .i64 0) h)
 (nnK r_p (asP r_p fun p1 =>
 ∃ v2, cellH h (Addr.add p1 0) = some v2 ∧
 R v2 h))
def A_p_ring_Ring_api_Item_Slots : Ann :=
 (.two .leaf (.two (.two .leaf (.two (.two .leaf .leaf) .leaf)) (.two .leaf .leaf)))
theorem C_p_ring_Ring_api_Item_Slots (ω : Amb) (r_p : Value) (h : Hp) (R : Value → Hp → Prop) (X : List PanicEntry → Hp → Prop) (hk : W_p_ring_Ring_api_Item_Slots ω r_p h R X) : CallX Try.prog ω 47 [r_p] h R X :=
 callX_of (an := A_p_ring_Ring_api_Item_Slots) Try.func47 ((show fnX Try.prog ω A_p_ring_Ring_api_Item_Slots Try.f47 [r_p] h R X = W_p_ring_Ring_api_Item_Slots ω r_p h R X by kernel_rfl) ▸ hk)

/-- (*pipewright/ring.Ring[pipewright/api.Item]).All -/
abbrev n_p_ring_Ring_api_Item_All : Nat := 48
def W_p_ring_Ring_api_Item_All (ω : Amb) (r_p : Value) (h : Hp) (R : Value → Hp → Prop) (X : List PanicEntry → Hp → Prop) : Prop :=
 asPo r_p fun q0 => cond (Option.isNone q0)
 (R (.slice none 0 0) h)
 (nnK r_p (asP r_p fun p1 =>
 ∃ v2, cellH h (Addr.add p1 2) = some v2 ∧
 ∃ (I3 : Value → Value → Hp → Prop) (μ4 : Value → Value → Hp → Nat), I3 (.slice none 0 0) (.int .i64 0) h ∧ ∀ out_5 t11_6 (d7 : Nat → Value) (h8 : Hp), I3 out_5 t11_6 h8 →
 asK .i64 t11_6 fun n9 => asK .i64 v2 fun n10 => cond (decide ((n9 : Int) < n10))
 (nnK r_p (asP r_p fun p11 =>
 ∃ v12, cellH h8 (Addr.add p11 3) = some v12 ∧
 nnK r_p (asP r_p fun p13 =>
 ∃ v14, cellH h8 (Addr.add p13 1) = some v14 ∧
 asK .i64 v14 fun n15 => asK .i64 t11_6 fun n16 => nnK r_p (asP r_p fun p17 =>
 ∃ v18, cellH h8 (Addr.add p17 3) = some v18 ∧
 asSl v18 fun a19 l20 c21 => ((l20 : Int) : Int) ≠ 0 ∧ asSl1 v12 fun a22 l23 c24 => 0 ≤ ((Int.tmod (IntKind.wrap .i64 (n15 + n16)) (l20 : Int)) : Int) ∧ (Int.tmod (IntKind.wrap .i64 (n15 + n16)) (l20 : Int)) < (l23 : Int) ∧ ∃ C25, cellsH h8 (Addr.add a22 (Int.toNat (Int.tmod (IntKind.wrap .i64 (n15 + n16)) (l20 : Int)) * 2)) 2 C25 ∧
 C25.toArray.size = 2 ∧ appK Try.prog 63 (Array.push h8 (.cells (List.toArray (C25.toArray.toList ++ [])) 74 (0, 0))) out_5 (.slice (some ⟨Array.size h8, 0, none⟩) 1 1) fun w26 h27 =>
 asK .i64 t11_6 fun n28 => I3 w26 (.int .i64 (IntKind.wrap .i64 (n28 + 1))) h27 ∧ μ4 w26 (.int .i64 (IntKind.wrap .i64 (n28 + 1))) h27 < μ4 out_5 t11_6 h8))))
 (R out_5 h8)))
def A_p_ring_Ring_api_Item_All : Ann :=
 (.two .leaf (.two (.two .leaf (.two (.two .leaf .leaf) .leaf)) (.two .leaf (.two (.two .leaf (.one (.loop [12, 13, 4, 14, 15, 16, 17, 18, 19, 20, 21, 22, 23, 24, 25, 26, 27, 28, 29, 30, 31, 32, 33, 34, 3, 35, 11] [3, 11] (.two .leaf (.two (.two .leaf .leaf) (.two (.one (.two .leaf (.plan [0, 1, 2, 3, 4, 5, 6, 7, 8, 9, 10, 11, 12, 13, 14, 15, 16, 17, 18, 19, 20, 21]))) .leaf)))))) (.two .leaf .leaf)))))
theorem C_p_ring_Ring_api_Item_All (ω : Amb) (r_p : Value) (h : Hp) (R : Value → Hp → Prop) (X : List PanicEntry → Hp → Prop) (hk : W_p_ring_Ring_api_Item_All ω r_p h R X) : CallX Try.prog ω 48 [r_p] h R X :=
 callX_of (an := A_p_ring_Ring_api_Item_All) Try.func48 ((show fnX Try.prog ω A_p_ring_Ring_api_Item_All Try.f48 [r_p] h R X = W_p_ring_Ring_api_Item_All ω r_p h R X by kernel_rfl) ▸ hk)

/-- (*pipewright/ring.Ring[pipewright/api.Item]).Clear -/
abbrev n_p_ring_Ring_api_Item_Clear : Nat := 49
def W_p_ring_Ring_api_Item_Clear (ω : Amb) (r_p : Value) (h : Hp) (R : Value → Hp → Prop) (X : List PanicEntry → Hp → Prop) : Prop :=
 CallX Try.prog ω 48 [r_p] h (fun r0 h1 =>
 asPo r_p fun q2 => ∃ J3 : Hp → Prop,
 (cond (!(Option.isNone q2))
 (nnK r_p (asP r_p fun p6 =>
 ∃ v7, cellH h1 (Addr.add p6 3) = some v7 ∧
 clearK Try.prog 63 h1 v7 fun w8 h9 =>
 nnK r_p (asP r_p fun p10 =>
 storeK1 h9 (Addr.add p10 1) (.int .i64 0) fun h11 =>
 nnK r_p (asP r_p fun p12 =>
 storeK1 h11 (Addr.add p12 2) (.int .i64 0) fun h13 =>
 J3 h13))))
 (J3 h1)) ∧
 ∀  (d4 : Nat → Value) (h5 : Hp), J3 h5 →
 R r0 h5) X
def A_p_ring_Ring_api_Item_Clear : Ann :=
 (.two .leaf (.two .leaf (.two (.two .leaf (.join [8, 9, 10, 11, 12, 13, 14, 15, 16, 17] [] (.two (.two .leaf .leaf) .leaf))) (.two .leaf .leaf))))
theorem C_p_ring_Ring_api_Item_Clear (ω : Amb) (r_p : Value) (h : Hp) (R : Value → Hp → Prop) (X : List PanicEntry → Hp → Prop) (hk : W_p_ring_Ring_api_Item_Clear ω r_p h R X) : CallX Try.prog ω 49 [r_p] h R X :=
 callX_of (an := A_p_ring_Ring_api_Item_Clear) Try.func49 ((show fnX Try.prog ω A_p_ring_Ring_api_Item_Clear Try.f49 [r_p] h R X = W_p_ring_Ring_api_Item_Clear ω r_p h R X by kernel_rfl) ▸ hk)

/-- pipewright/ring.New[pipewright/api.Item] -/
abbrev n_ring_New_api_Item : Nat := 50
def W_ring_New_api_Item (ω : Amb) (slots_p : Value) (h : Hp) (R : Value → Hp → Prop) (X : List PanicEntry → Hp → Prop) : Prop :=
 asK .i64 slots_p fun n0 => R (.pointer (some ⟨Array.size h, 0, none⟩)) (Array.push h (.cells #[(.int .i64 (if (0 : Int) > n0 then (0 : Int) else n0)), (.int .i64 0), (.int .i64 0), (.slice none 0 0)] 92 (0, 0)))
def A_ring_New_api_Item : Ann :=
 (.two .leaf (.two .leaf .leaf))
theorem C_ring_New_api_Item (ω : Amb) (slots_p : Value) (h : Hp) (R : Value → Hp → Prop) (X : List PanicEntry → Hp → Prop) (hk : W_ring_New_api_Item ω slots_p h R X) : CallX Try.prog ω 50 [slots_p] h R X :=
 callX_of (an := A_ring_New_api_Item) Try.func50 ((show fnX Try.prog ω A_ring_New_api_Item Try.f50 [slots_p] h R X = W_ring_New_api_Item ω slots_p h R X by kernel_rfl) ▸ hk)

/-- (*pipewright/ring.Ring[pipewright/api.Item]).Put -/
abbrev n_p_ring_Ring_api_Item_Put : Nat := 51
def W_p_ring_Ring_api_Item_Put (ω : Amb) (r_p x_p : Value) (h : Hp) (R : Value → Hp → Prop) (X : List PanicEntry → Hp → Prop) : Prop :=
 ∃ J0 : Value → Hp → Prop,
 (asPo r_p fun q4 => cond (Option.isNone q4)
 (J0 (.bool true) (Array.push h (.cells (Value.cells x_p) 74 (0, 0))))
 (CallX Try.prog ω 36 [r_p] (Array.push h (.cells (Value.cells x_p) 74 (0, 0))) (fun r5 h6 =>
 J0 r5 h6) X)) ∧
 ∀ t10_1 (d2 : Nat → Value) (h3 : Hp), J0 t10_1 h3 →
 asB t10_1 fun b7 => cond b7
 (R (.bool false) h3)
 (CallX Try.prog ω 53 [r_p] h3 (fun r8 h9 =>
 nnK r_p (asP r_p fun p10 =>
 ∃ v11, cellH h9 (Addr.add p10 3) = some v11 ∧
 nnK r_p (asP r_p fun p12 =>
 ∃ v13, cellH h9 (Addr.add p12 1) = some v13 ∧
 nnK r_p (asP r_p fun p14 =>
 ∃ v15, cellH h9 (Addr.add p14 2) = some v15 ∧
 asK .i64 v13 fun n16 => asK .i64 v15 fun n17 => nnK r_p (asP r_p fun p18 =>
 ∃ v19, cellH h9 (Addr.add p18 3) = some v19 ∧
 asSl v19 fun a20 l21 c22 => ((l21 : Int) : Int) ≠ 0 ∧ ∃ C23, cellsH h9 ⟨Array.size h, 0, none⟩ 2 C23 ∧
 asSl1 v11 fun a24 l25 c26 => 0 ≤ ((Int.tmod (IntKind.wrap .i64 (n16 + n17)) (l21 : Int)) : Int) ∧ (Int.tmod (IntKind.wrap .i64 (n16 + n17)) (l21 : Int)) < (l25 : Int) ∧ C23.toArray.size = 2 ∧ (∀ u ∈ C23.toArray.toList, one u) ∧ storeK h9 (Addr.add a24 (Int.toNat (Int.tmod (IntKind.wrap .i64 (n16 + n17)) (l21 : Int)) * 2)) C23.toArray.toList fun h27 =>
 nnK r_p (asP r_p fun p28 =>
 ∃ v29, cellH h27 (Addr.add p28 2) = some v29 ∧
 asK .i64 v29 fun n30 => nnK r_p (asP r_p fun p31 =>
 storeK1 h27 (Addr.add p31 2) (.int .i64 (IntKind.wrap .i64 (n30 + 1))) fun h32 =>
 R (.bool true) h32))))))) X)
def A_p_ring_Ring_api_Item_Put : Ann :=
 (.two .leaf (.two (.two (.join [5, 6, 7, 8, 9, 10] [10] .leaf) (.two (.two .leaf .leaf) .leaf)) (.two .leaf (.two (.plan [0, 1, 2, 3, 4, 5, 6, 7, 8, 9, 10, 11, 12, 13, 14, 15, 16, 17, 18, 19, 20, 21]) (.two .leaf (.two .leaf .leaf))))))
theorem C_p_ring_Ring_api_Item_Put (ω : Amb) (r_p x_p : Value) (h : Hp) (R : Value → Hp → Prop) (X : List PanicEntry → Hp → Prop) (hk : W_p_ring_Ring_api_Item_Put ω r_p x_p h R X) : CallX Try.prog ω 51 [r_p, x_p] h R X :=
 callX_of (an := A_p_ring_Ring_api_Item_Put) Try.func51 ((show fnX Try.prog ω A_p_ring_Ring_api_Item_Put Try.f51 [r_p, x_p] h R X = W_p_ring_Ring_api_Item_Put ω r_p x_p h R X by kernel_rfl) ▸ hk)

/-- (*pipewright/ring.Ring[pipewright/api.Item]).Take -/
abbrev n_p_ring_Ring_api_Item_Take : Nat := 52
def W_p_ring_Ring_api_Item_Take (ω : Amb) (r_p : Value) (h : Hp) (R : Value → Hp → Prop) (X : List PanicEntry → Hp → Prop) : Prop :=
 ∃ β0 : Bool,
 (asPo r_p fun q2 => cond (Option.isNone q2)
 (((.bool true) : Value) = .bool β0 ∧ (Array.push (Array.push h (.cells #[(.int .i64 0), (.int .i64 0)] 74 (0, 0))) (.cells #[(.int .i64 0), (.int .i64 0)] 74 (0, 0))) = (Array.push (Array.push h (.cells #[(.int .i64 0), (.int .i64 0)] 74 (0, 0))) (.cells #[(.int .i64 0), (.int .i64 0)] 74 (0, 0))))
 (nnK r_p (asP r_p fun p3 =>
 ∃ v4, cellH (Array.push (Array.push h (.cells #[(.int .i64 0), (.int .i64 0)] 74 (0, 0))) (.cells #[(.int .i64 0), (.int .i64 0)] 74 (0, 0))) (Addr.add p3 2) = some v4 ∧
 asK .i64 v4 fun n5 => ((.bool (n5 == (0 : Int))) : Value) = .bool β0 ∧ (Array.push (Array.push h (.cells #[(.int .i64 0), (.int .i64 0)] 74 (0, 0))) (.cells #[(.int .i64 0), (.int .i64 0)] 74 (0, 0))) = (Array.push (Array.push h (.cells #[(.int .i64 0), (.int .i64 0)] 74 (0, 0))) (.cells #[(.int .i64 0), (.int .i64 0)] 74 (0, 0)))))) ∧
 ∀ d1 : Nat → Value,
 cond β0
 (∃ C6, cellsH (Array.push (Array.push h (.cells #[(.int .i64 0), (.int .i64 0)] 74 (0, 0))) (.cells #[(.int .i64 0), (.int .i64 0)] 74 (0, 0))) ⟨Array.size (Array.push h (.cells #[(.int .i64 0), (.int .i64 0)] 74 (0, 0))), 0, none⟩ 2 C6 ∧
 C6.toArray.size = 2 ∧ (∀ u ∈ C6.toArray.toList, one u) ∧ storeK (Array.push (Array.push h (.cells #[(.int .i64 0), (.int .i64 0)] 74 (0, 0))) (.cells #[(.int .i64 0), (.int .i64 0)] 74 (0, 0))) ⟨Array.size h, 0, none⟩ C6.toArray.toList fun h7 =>
 ∃ C8, cellsH h7 ⟨Array.size h, 0, none⟩ 2 C8 ∧ R (.tuple #[(.agg C8.toArray), (.bool false)]) h7)
 (nnK r_p (asP r_p fun p9 =>
 ∃ v10, cellH (Array.push (Array.push h (.cells #[(.int .i64 0), (.int .i64 0)] 74 (0, 0))) (.cells #[(.int .i64 0), (.int .i64 0)] 74 (0, 0))) (Addr.add p9 3) = some v10 ∧
 nnK r_p (asP r_p fun p11 =>
 ∃ v12, cellH (Array.push (Array.push h (.cells #[(.int .i64 0), (.int .i64 0)] 74 (0, 0))) (.cells #[(.int .i64 0), (.int .i64 0)] 74 (0, 0))) (Addr.add p11 1) = some v12 ∧
 nnK r_p (asP r_p fun p13 =>
 ∃ v14, cellH (Array.push (Array.push h (.cells #[(.int .i64 0), (.int .i64 0)] 74 (0, 0))) (.cells #[(.int .i64 0), (.int .i64 0)] 74 (0, 0))) (Addr.add p13 3) = some v14 ∧
 nnK r_p (asP r_p fun p15 =>
 ∃ v16, cellH (Array.push (Array.push h (.cells #[(.int .i64 0), (.int .i64 0)] 74 (0, 0))) (.cells #[(.int .i64 0), (.int .i64 0)] 74 (0, 0))) (Addr.add p15 1) = some v16 ∧
 asSl1 v14 fun a17 l18 c19 => asI v16 fun n20 => 0 ≤ (n20 : Int) ∧ n20 < (l18 : Int) ∧ ∃ C21, cellsH (Array.push (Array.push h (.cells #[(.int .i64 0), (.int .i64 0)] 74 (0, 0))) (.cells #[(.int .i64 0), (.int .i64 0)] 74 (0, 0))) (Addr.add a17 (Int.toNat n20 * 2)) 2 C21 ∧
 ∃ C22, cellsH (Array.push (Array.push h (.cells #[(.int .i64 0), (.int .i64 0)] 74 (0, 0))) (.cells #[(.int .i64 0), (.int .i64 0)] 74 (0, 0))) ⟨Array.size (Array.push h (.cells #[(.int .i64 0), (.int .i64 0)] 74 (0, 0))), 0, none⟩ 2 C22 ∧
 C21.toArray.size = 2 ∧ (∀ u ∈ C21.toArray.toList, one u) ∧ storeK (Array.push (Array.push h (.cells #[(.int .i64 0), (.int .i64 0)] 74 (0, 0))) (.cells #[(.int .i64 0), (.int .i64 0)] 74 (0, 0))) ⟨Array.size (Array.push h (.cells #[(.int .i64 0), (.int .i64 0)] 74 (0, 0))), 0, none⟩ C21.toArray.toList fun h23 =>
 cellH h23 (Addr.add p11 1) = some v12 ∧ cellH h23 (Addr.add p9 3) = some v10 ∧ asSl1 v10 fun a24 l25 c26 => asI v12 fun n27 => 0 ≤ (n27 : Int) ∧ n27 < (l25 : Int) ∧ C22.toArray.size = 2 ∧ (∀ u ∈ C22.toArray.toList, one u) ∧ storeK h23 (Addr.add a24 (Int.toNat n27 * 2)) C22.toArray.toList fun h28 =>
 nnK r_p (asP r_p fun p29 =>
 ∃ v30, cellH h28 (Addr.add p29 1) = some v30 ∧
 asK .i64 v30 fun n31 => nnK r_p (asP r_p fun p32 =>
 ∃ v33, cellH h28 (Addr.add p32 3) = some v33 ∧
 asSl v33 fun a34 l35 c36 => ((l35 : Int) : Int) ≠ 0 ∧ nnK r_p (asP r_p fun p37 =>
 storeK1 h28 (Addr.add p37 1) (.int .i64 (Int.tmod (IntKind.wrap .i64 (n31 + 1)) (l35 : Int))) fun h38 =>
 nnK r_p (asP r_p fun p39 =>
 ∃ v40, cellH h38 (Addr.add p39 2) = some v40 ∧
 asK .i64 v40 fun n41 => nnK r_p (asP r_p fun p42 =>
 storeK1 h38 (Addr.add p42 2) (.int .i64 (IntKind.wrap .i64 (n41 - 1))) fun h43 =>
 ∃ C44, cellsH h43 ⟨Array.size (Array.push h (.cells #[(.int .i64 0), (.int .i64 0)] 74 (0, 0))), 0, none⟩ 2 C44 ∧
 C44.toArray.size = 2 ∧ (∀ u ∈ C44.toArray.toList, one u) ∧ storeK h43 ⟨Array.size h, 0, none⟩ C44.toArray.toList fun h45 =>
 ∃ C46, cellsH h45 ⟨Array.size h, 0, none⟩ 2 C46 ∧ R (.tuple #[(.agg C46.toArray), (.bool true)]) h45))))))))))
def A_p_ring_Ring_api_Item_Take : Ann :=
 (.two .leaf (.two .leaf (.two (.two (.jb [5, 6, 7, 8, 9, 10, 11, 12, 13] 13 .leaf) (.two (.two .leaf .leaf) .leaf)) (.two (.plan [0, 1, 2, 3, 4, 5, 6, 7, 8, 9, 10, 11, 12, 13, 14, 15, 16, 17, 18, 19, 20, 21]) (.two (.plan [0, 1, 2, 3, 4, 5, 6, 7, 8, 9, 10, 11, 12, 13, 14]) (.two .leaf (.two .leaf .leaf)))))))
theorem C_p_ring_Ring_api_Item_Take (ω : Amb) (r_p : Value) (h : Hp) (R : Value → Hp → Prop) (X : List PanicEntry → Hp → Prop) (hk : W_p_ring_Ring_api_Item_Take ω r_p h R X) : CallX Try.prog ω 52 [r_p] h R X :=
 callX_of (an := A_p_ring_Ring_api_Item_Take) Try.func52 ((show fnX Try.prog ω A_p_ring_Ring_api_Item_Take Try.f52 [r_p] h R X = W_p_ring_Ring_api_Item_Take ω r_p h R X by kernel_rfl) ▸ hk)

/-- (*pipewright/ring.Ring[pipewright/api.Item]).grow -/
abbrev n_p_ring_Ring_api_Item_grow : Nat := 53
def W_p_ring_Ring_api_Item_grow (ω : Amb) (r_p : Value) (h : Hp) (R : Value → Hp → Prop) (X : List PanicEntry → Hp → Prop) : Prop :=
 nnK r_p (asP r_p fun p0 =>
 ∃ v1, cellH h (Addr.add p0 2) = some v1 ∧
 nnK r_p (asP r_p fun p2 =>
 ∃ v3, cellH h (Addr.add p2 3) = some v3 ∧
 asSl v3 fun a4 l5 c6 => asK .i64 v1 fun n7 => cond (decide ((n7 : Int) < (l5 : Int)))
 (R (.tuple #[]) h)
 (nnK r_p (asP r_p fun p8 =>
 ∃ v9, cellH h (Addr.add p8 2) = some v9 ∧
 asK .i64 v9 fun n10 => makeK Try.prog 63 h (.int .i64 (IntKind.wrap .i64 ((IntKind.wrap .i64 (2 * n10)) + 2))) (.int .i64 (IntKind.wrap .i64 ((IntKind.wrap .i64 (2 * n10)) + 2))) fun v11 h12 =>
 CallX Try.prog ω 48 [r_p] h12 (fun r13 h14 =>
 copyK Try.prog 63 h14 v11 r13 fun w15 h16 =>
 nnK r_p (asP r_p fun p17 =>
 oneK v11 (storeK1 h16 (Addr.add p17 3) v11 fun h18 =>
 nnK r_p (asP r_p fun p19 =>
 storeK1 h18 (Addr.add p19 1) (.int .i64 0) fun h20 =>
 R (.tuple #[]) h20)))) X))))
def A_p_ring_Ring_api_Item_grow : Ann :=
 (.two (.two (.plan [0, 1, 2, 3, 4, 5, 6, 7, 8, 9]) (.two .leaf .leaf)) (.two .leaf (.two .leaf .leaf)))
theorem C_p_ring_Ring_api_Item_grow (ω : Amb) (r_p : Value) (h : Hp) (R : Value → Hp → Prop) (X : List PanicEntry → Hp → Prop) (hk : W_p_ring_Ring_api_Item_grow ω r_p h R X) : CallX Try.prog ω 53 [r_p] h R X :=
 callX_of (an := A_p_ring_Ring_api_Item_grow) Try.func53 ((show fnX Try.prog ω A_p_ring_Ring_api_Item_grow Try.f53 [r_p] h R X = W_p_ring_Ring_api_Item_grow ω r_p h R X by kernel_rfl) ▸ hk)

end Go.Proofs.Ytipgilfbhceknaa.Sx
