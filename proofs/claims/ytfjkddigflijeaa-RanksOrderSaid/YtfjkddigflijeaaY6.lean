/- Formulas of the functions' texts, written by a program of ours; each is checked by the kernel. -/
import Derived.Test.YtfjkddigflijeaaSxCore
import Derived.KernelRfl
import Derived.Test.YtfjkddigflijeaaProg
set_option linter.unusedVariables false
set_option maxRecDepth 100000
namespace Go.Proofs.Ytfjkddigflijeaa.Sx
open Go Go.Sx Go.Proofs

/-- pipewright/pipewrightlaw.RanksDoes -/
abbrev n_pipewrightlaw_RanksDoes : Nat := 3
def W_pipewrightlaw_RanksDoes (ω : Amb) (n_p edges_p : Value) (h : Hp) (R : Value → Hp → Prop) (X : List PanicEntry → Hp → Prop) : Prop :=
 CallX Try.prog ω 6 [] h (fun r0 h1 =>
 asB r0 fun b2 => cond (!b2)
 (R (.bool false) h1)
 (∃ β3 : Bool,
 (asK .i64 n_p fun n5 => cond (decide ((n5 : Int) > 60))
 (asK .i64 n_p fun n6 => cond (decide ((n6 : Int) ≤ 1000))
 (((.bool true) : Value) = .bool β3 ∧ h1 = h1)
 (asSl edges_p fun a7 l8 c9 => ((.bool (decide (((l8 : Int) : Int) > 300))) : Value) = .bool β3 ∧ h1 = h1))
 (asSl edges_p fun a10 l11 c12 => ((.bool (decide (((l11 : Int) : Int) > 300))) : Value) = .bool β3 ∧ h1 = h1)) ∧
 ∀ d4 : Nat → Value,
 cond β3
 (R (.bool true) h1)
 (appK Try.prog 22 h1 (.slice none 0 0) edges_p fun w13 h14 =>
 CallX Try.prog ω 7 [n_p, w13] h14 (fun r15 h16 =>
 asA r15 fun A17 => A17.size = 2 ∧ (∀ u ∈ A17.toList, one u) ∧ storeK (Array.push h16 (.cells #[(.int .i64 0), (.int .i64 0)] 25 (0, 0))) ⟨Array.size h16, 0, none⟩ A17.toList fun h18 =>
 CallX Try.prog ω 8 [n_p, w13] h18 (fun r19 h20 =>
 asT r19 fun T21 => asO T21[0]? fun v22 => asT r19 fun T23 => asO T23[1]? fun v24 => asA v24 fun A25 => A25.size = 2 ∧ (∀ u ∈ A25.toList, one u) ∧ storeK (Array.push h20 (.cells #[(.int .i64 0), (.int .i64 0)] 25 (0, 0))) ⟨Array.size h20, 0, none⟩ A25.toList fun h26 =>
 CallX Try.prog ω 9 [n_p, w13] h26 (fun r27 h28 =>
 asT r27 fun T29 => asO T29[0]? fun v30 => asT r27 fun T31 => asO T31[1]? fun v32 => asA v32 fun A33 => A33.size = 2 ∧ (∀ u ∈ A33.toList, one u) ∧ storeK (Array.push h28 (.cells #[(.int .i64 0), (.int .i64 0)] 25 (0, 0))) ⟨Array.size h28, 0, none⟩ A33.toList fun h34 =>
 ∃ (I35 : Value → Hp → Prop) (μ36 : Value → Hp → Nat), I35 (.int .i64 0) h34 ∧ ∀ i_37 (d38 : Nat → Value) (h39 : Hp), I35 i_37 h39 →
 asSl w13 fun a40 l41 c42 => asK .i64 i_37 fun n43 => cond (decide ((n43 : Int) < (l41 : Int)))
 (asSl1 w13 fun a44 l45 c46 => asI i_37 fun n47 => 0 ≤ (n47 : Int) ∧ n47 < (l45 : Int) ∧ ∃ C48, cellsH h39 (Addr.add a44 (Int.toNat n47 * 2)) 2 C48 ∧
 asSl1 edges_p fun a49 l50 c51 => asI i_37 fun n52 => 0 ≤ (n52 : Int) ∧ n52 < (l50 : Int) ∧ ∃ C53, cellsH h39 (Addr.add a49 (Int.toNat n52 * 2)) 2 C53 ∧
 asO C48.toArray[0]? fun v54 => asO C53.toArray[0]? fun v55 => asK .i64 v54 fun n56 => asK .i64 v55 fun n57 => asO C48.toArray[1]? fun v58 => asO C53.toArray[1]? fun v59 => asK .i64 v58 fun n60 => asK .i64 v59 fun n61 => cond (!((n56 == (n57 : Int)) && ((n60 == (n61 : Int)) && true)))
 (R (.bool false) h39)
 (asK .i64 i_37 fun n62 => I35 (.int .i64 (IntKind.wrap .i64 (n62 + 1))) h39 ∧ μ36 (.int .i64 (IntKind.wrap .i64 (n62 + 1))) h39 < μ36 i_37 h39))
 (CallX Try.prog ω 10 [n_p, edges_p] h39 (fun r63 h64 =>
 asA r63 fun A65 => A65.size = 2 ∧ (∀ u ∈ A65.toList, one u) ∧ storeK (Array.push h64 (.cells #[(.int .i64 0), (.int .i64 0)] 25 (0, 0))) ⟨Array.size h64, 0, none⟩ A65.toList fun h66 =>
 ∃ C67, cellsH h66 ⟨Array.size h16, 0, none⟩ 2 C67 ∧
 ∃ C68, cellsH h66 ⟨Array.size h64, 0, none⟩ 2 C68 ∧
 asO C67.toArray[0]? fun v69 => asO C68.toArray[0]? fun v70 => asK .i64 v69 fun n71 => asK .i64 v70 fun n72 => asO C67.toArray[1]? fun v73 => asO C68.toArray[1]? fun v74 => asK .i64 v73 fun n75 => asK .i64 v74 fun n76 => cond (!((n71 == (n72 : Int)) && ((n75 == (n76 : Int)) && true)))
 (R (.bool false) h66)
 (∃ v77, cellH h66 (Addr.add ⟨Array.size h64, 0, none⟩ 0) = some v77 ∧
 asK .i64 v77 fun n78 => cond (n78 != (0 : Int))
 (∃ J79 : Value → Hp → Prop,
 (∃ C83, cellsH h66 ⟨Array.size h20, 0, none⟩ 2 C83 ∧
 ∃ C84, cellsH h66 ⟨Array.size h64, 0, none⟩ 2 C84 ∧
 asO C83.toArray[0]? fun v85 => asO C84.toArray[0]? fun v86 => asK .i64 v85 fun n87 => asK .i64 v86 fun n88 => asO C83.toArray[1]? fun v89 => asO C84.toArray[1]? fun v90 => asK .i64 v89 fun n91 => asK .i64 v90 fun n92 => cond ((n87 == (n88 : Int)) && ((n91 == (n92 : Int)) && true))
 (∃ C93, cellsH h66 ⟨Array.size h28, 0, none⟩ 2 C93 ∧
 ∃ C94, cellsH h66 ⟨Array.size h64, 0, none⟩ 2 C94 ∧
 asO C93.toArray[0]? fun v95 => asO C94.toArray[0]? fun v96 => asK .i64 v95 fun n97 => asK .i64 v96 fun n98 => asO C93.toArray[1]? fun v99 => asO C94.toArray[1]? fun v100 => asK .i64 v99 fun n101 => asK .i64 v100 fun n102 => cond ((n97 == (n98 : Int)) && ((n101 == (n102 : Int)) && true))
 (asSl v22 fun a103 l104 c105 => asSl v30 fun a106 l107 c108 => J79 (.bool ((IntKind.wrap .i64 ((l104 : Int) + (l107 : Int))) == (0 : Int))) h66)
 (J79 (.bool false) h66))
 (J79 (.bool false) h66)) ∧
 ∀ t4_80 (d81 : Nat → Value) (h82 : Hp), J79 t4_80 h82 →
 R t4_80 h82)
 (CallX Try.prog ω 11 [n_p, edges_p] h66 (fun r109 h110 =>
 asT r109 fun T111 => asO T111[0]? fun v112 => asT r109 fun T113 => asO T113[1]? fun v114 => ∃ J115 : Value → Hp → Prop,
 (∃ v119, cellH h110 (Addr.add ⟨Array.size h20, 0, none⟩ 0) = some v119 ∧
 asK .i64 v119 fun n120 => asB v114 fun b121 => cond (!(b121 == (n120 == (0 : Int))))
 (J115 (.bool true) h110)
 (asB v114 fun b122 => cond (!b122)
 (∃ C123, cellsH h110 ⟨Array.size h20, 0, none⟩ 2 C123 ∧
 asO C123.toArray[0]? fun v124 => asK .i64 v124 fun n125 => asO C123.toArray[1]? fun v126 => asK .i64 v126 fun n127 => cond (!((n125 == (17 : Int)) && ((n127 == ((-1) : Int)) && true)))
 (J115 (.bool true) h110)
 (asSl v22 fun a128 l129 c130 => cond ((l129 : Int) != (0 : Int))
 (J115 (.bool true) h110)
 (asB v114 fun b131 => cond b131
 (CallX Try.prog ω 12 [v22, v112] h110 (fun r132 h133 =>
 asB r132 fun b134 => J115 (.bool (!b134)) h133) X)
 (J115 (.bool false) h110))))
 (asB v114 fun b135 => cond b135
 (CallX Try.prog ω 12 [v22, v112] h110 (fun r136 h137 =>
 asB r136 fun b138 => J115 (.bool (!b138)) h137) X)
 (J115 (.bool false) h110)))) ∧
 ∀ t118_116 (d117 : Nat → Value) (h118 : Hp), J115 t118_116 h118 →
 asB t118_116 fun b139 => cond b139
 (R (.bool false) h118)
 (∃ J140 : Value → Hp → Prop,
 (∃ v144, cellH h118 (Addr.add ⟨Array.size h28, 0, none⟩ 0) = some v144 ∧
 asK .i64 v144 fun n145 => cond (n145 == (0 : Int))
 (CallX Try.prog ω 13 [n_p, edges_p] h118 (fun r146 h147 =>
 CallX Try.prog ω 12 [v30, r146] h147 (fun r148 h149 =>
 J140 r148 h149) X) X)
 (J140 (.bool false) h118)) ∧
 ∀ t4_141 (d142 : Nat → Value) (h143 : Hp), J140 t4_141 h143 →
 R t4_141 h143)) X))) X)) X) X) X))) X
def A_pipewrightlaw_RanksDoes : Ann :=
 (.two .leaf (.two (.two .leaf (.two (.two .leaf .leaf) .leaf)) (.two (.two (.jb [17, 18, 19, 20, 21, 22, 23, 24, 25, 26, 27] 27 .leaf) (.two (.two .leaf .leaf) .leaf)) (.two .leaf (.two .leaf (.two .leaf (.two .leaf (.two (.two .leaf (.one (.loop [45, 46, 47, 48, 51, 52, 53, 54, 55, 56, 57, 58, 59, 4, 49, 50, 11] [11] (.two (.two .leaf (.two .leaf .leaf)) (.two (.one (.two (.plan [0, 1, 2, 3, 4, 5, 6, 7, 8]) (.two (.two .leaf .leaf) .leaf))) .leaf))))) (.two .leaf (.two (.two .leaf (.two (.two .leaf .leaf) .leaf)) (.two (.two .leaf (.two (.two (.join [69, 70, 71, 72, 73, 74, 75, 76, 77, 78, 79, 80, 81, 82, 83, 84, 4] [4] .leaf) .leaf) .leaf)) (.two .leaf (.two (.two (.join [91, 92, 93, 94, 95, 96, 97, 98, 99, 100, 101, 102, 103, 104, 105, 106, 107, 108, 109, 110, 111, 112, 113, 114, 115, 116, 117, 118] [118] .leaf) (.two (.two .leaf .leaf) .leaf)) (.two (.join [119, 120, 121, 122, 123, 124, 125, 126, 127, 128, 4] [4] .leaf) .leaf))))))))))))))
theorem C_pipewrightlaw_RanksDoes (ω : Amb) (n_p edges_p : Value) (h : Hp) (R : Value → Hp → Prop) (X : List PanicEntry → Hp → Prop) (hk : W_pipewrightlaw_RanksDoes ω n_p edges_p h R X) : CallX Try.prog ω 3 [n_p, edges_p] h R X :=
 callX_of (an := A_pipewrightlaw_RanksDoes) Try.func3 ((show fnX Try.prog ω A_pipewrightlaw_RanksDoes Try.f3 [n_p, edges_p] h R X = W_pipewrightlaw_RanksDoes ω n_p edges_p h R X by kernel_rfl) ▸ hk)

/-- pipewright/pipewrightlaw.RanksOrder -/
abbrev n_pipewrightlaw_RanksOrder : Nat := 4
def W_pipewrightlaw_RanksOrder (ω : Amb) (n_p edges_p picks_p : Value) (h : Hp) (R : Value → Hp → Prop) (X : List PanicEntry → Hp → Prop) : Prop :=
 CallX Try.prog ω 6 [] h (fun r0 h1 =>
 asB r0 fun b2 => cond (!b2)
 (R (.bool false) h1)
 (∃ J3 : Value → Hp → Prop,
 (asK .i64 n_p fun n7 => cond (decide ((n7 : Int) < 1))
 (J3 (.bool true) h1)
 (asK .i64 n_p fun n8 => cond (decide ((n8 : Int) > 60))
 (J3 (.bool true) h1)
 (asSl edges_p fun a9 l10 c11 => cond (decide (((l10 : Int) : Int) > 300))
 (J3 (.bool true) h1)
 (asSl picks_p fun a12 l13 c14 => cond (decide (((l13 : Int) : Int) > 200))
 (J3 (.bool true) h1)
 (CallX Try.prog ω 7 [n_p, edges_p] h1 (fun r15 h16 =>
 asA r15 fun A17 => asO A17[0]? fun v18 => asK .i64 v18 fun n19 => J3 (.bool (n19 != (0 : Int))) h16) X))))) ∧
 ∀ t48_4 (d5 : Nat → Value) (h6 : Hp), J3 t48_4 h6 →
 asB t48_4 fun b20 => cond b20
 (R (.bool true) h6)
 (CallX Try.prog ω 8 [n_p, edges_p] h6 (fun r21 h22 =>
 asT r21 fun T23 => asO T23[0]? fun v24 => asT r21 fun T25 => asO T25[1]? fun v26 => asA v26 fun A27 => A27.size = 2 ∧ (∀ u ∈ A27.toList, one u) ∧ storeK (Array.push h22 (.cells #[(.int .i64 0), (.int .i64 0)] 25 (0, 0))) ⟨Array.size h22, 0, none⟩ A27.toList fun h28 =>
 CallX Try.prog ω 9 [n_p, edges_p] h28 (fun r29 h30 =>
 asT r29 fun T31 => asO T31[0]? fun v32 => asT r29 fun T33 => asO T33[1]? fun v34 => asA v34 fun A35 => A35.size = 2 ∧ (∀ u ∈ A35.toList, one u) ∧ storeK (Array.push h30 (.cells #[(.int .i64 0), (.int .i64 0)] 25 (0, 0))) ⟨Array.size h30, 0, none⟩ A35.toList fun h36 =>
 ∃ β37 : Bool,
 (∃ v39, cellH h36 (Addr.add ⟨Array.size h30, 0, none⟩ 0) = some v39 ∧
 asK .i64 v39 fun n40 => cond (n40 != (0 : Int))
 (((.bool true) : Value) = .bool β37 ∧ h36 = h36)
 (∃ v41, cellH h36 (Addr.add ⟨Array.size h22, 0, none⟩ 0) = some v41 ∧
 asK .i64 v41 fun n42 => asSl v32 fun a43 l44 c45 => ((.bool (!((n42 == (0 : Int)) == ((l44 : Int) == (0 : Int))))) : Value) = .bool β37 ∧ h36 = h36)) ∧
 ∀ d38 : Nat → Value,
 cond β37
 (R (.bool false) h36)
 (makeK Try.prog 36 h36 n_p n_p fun v46 h47 =>
 ∃ (I48 : Value → Hp → Prop) (μ49 : Value → Hp → Nat), I48 (.int .i64 0) h47 ∧ ∀ i_50 (d51 : Nat → Value) (h52 : Hp), I48 i_50 h52 →
 asK .i64 i_50 fun n53 => asK .i64 n_p fun n54 => cond (decide ((n53 : Int) < n54))
 (makeK Try.prog 37 h52 n_p n_p fun v55 h56 =>
 asSl1 v46 fun a57 l58 c59 => asI i_50 fun n60 => 0 ≤ (n60 : Int) ∧ n60 < (l58 : Int) ∧ oneK v55 (storeK1 h56 (Addr.add a57 (Int.toNat n60 * 1)) v55 fun h61 =>
 asK .i64 i_50 fun n62 => I48 (.int .i64 (IntKind.wrap .i64 (n62 + 1))) h61 ∧ μ49 (.int .i64 (IntKind.wrap .i64 (n62 + 1))) h61 < μ49 i_50 h52))
 (∃ (I63 : Value → Hp → Prop) (μ64 : Value → Hp → Nat), I63 (.int .i64 0) h52 ∧ ∀ i_65 (d66 : Nat → Value) (h67 : Hp), I63 i_65 h67 →
 asSl edges_p fun a68 l69 c70 => asK .i64 i_65 fun n71 => cond (decide ((n71 : Int) < (l69 : Int)))
 (asSl1 edges_p fun a72 l73 c74 => asI i_65 fun n75 => 0 ≤ (n75 : Int) ∧ n75 < (l73 : Int) ∧ 0 ≤ (0 : Int) ∧ 0 < ((2 : Nat) : Int) ∧ ∃ v76, cellH h67 (Addr.add (Addr.add a72 (Int.toNat n75 * 2)) (Int.toNat 0 * 1)) = some v76 ∧
 asSl1 v46 fun a77 l78 c79 => asI v76 fun n80 => 0 ≤ (n80 : Int) ∧ n80 < (l78 : Int) ∧ ∃ v81, cellH h67 (Addr.add a77 (Int.toNat n80 * 1)) = some v81 ∧
 asSl1 edges_p fun a82 l83 c84 => asI i_65 fun n85 => 0 ≤ (n85 : Int) ∧ n85 < (l83 : Int) ∧ 0 ≤ (1 : Int) ∧ 1 < ((2 : Nat) : Int) ∧ ∃ v86, cellH h67 (Addr.add (Addr.add a82 (Int.toNat n85 * 2)) (Int.toNat 1 * 1)) = some v86 ∧
 asSl1 v81 fun a87 l88 c89 => asI v86 fun n90 => 0 ≤ (n90 : Int) ∧ n90 < (l88 : Int) ∧ storeK1 h67 (Addr.add a87 (Int.toNat n90 * 1)) (.bool true) fun h91 =>
 asK .i64 i_65 fun n92 => I63 (.int .i64 (IntKind.wrap .i64 (n92 + 1))) h91 ∧ μ64 (.int .i64 (IntKind.wrap .i64 (n92 + 1))) h91 < μ64 i_65 h67)
 (∃ v93, cellH h67 (Addr.add ⟨Array.size h22, 0, none⟩ 0) = some v93 ∧
 asK .i64 v93 fun n94 => cond (n94 == (0 : Int))
 (∃ (I95 : Value → Hp → Prop) (μ96 : Value → Hp → Nat), I95 (.int .i64 0) h67 ∧ ∀ b_97 (d98 : Nat → Value) (h99 : Hp), I95 b_97 h99 →
 asK .i64 b_97 fun n100 => asK .i64 n_p fun n101 => cond (decide ((n100 : Int) < n101))
 (asSl1 v24 fun a102 l103 c104 => asI b_97 fun n105 => 0 ≤ (n105 : Int) ∧ n105 < (l103 : Int) ∧ ∃ v106, cellH h99 (Addr.add a102 (Int.toNat n105 * 1)) = some v106 ∧
 asK .i64 v106 fun n107 => ∃ (I108 : Value → Value → Hp → Prop) (μ109 : Value → Value → Hp → Nat), I108 (.bool (n107 == (0 : Int))) (.int .i64 0) h99 ∧ ∀ from_110 a_111 (d112 : Nat → Value) (h113 : Hp), I108 from_110 a_111 h113 →
 asK .i64 a_111 fun n114 => asK .i64 n_p fun n115 => cond (decide ((n114 : Int) < n115))
 (∃ β116 : Bool,
 (asSl1 v46 fun a118 l119 c120 => asI a_111 fun n121 => 0 ≤ (n121 : Int) ∧ n121 < (l119 : Int) ∧ ∃ v122, cellH h113 (Addr.add a118 (Int.toNat n121 * 1)) = some v122 ∧
 asSl1 v122 fun a123 l124 c125 => asI b_97 fun n126 => 0 ≤ (n126 : Int) ∧ n126 < (l124 : Int) ∧ ∃ v127, cellH h113 (Addr.add a123 (Int.toNat n126 * 1)) = some v127 ∧
 asB v127 fun b128 => cond b128
 (asSl1 v24 fun a129 l130 c131 => asI b_97 fun n132 => 0 ≤ (n132 : Int) ∧ n132 < (l130 : Int) ∧ ∃ v133, cellH h113 (Addr.add a129 (Int.toNat n132 * 1)) = some v133 ∧
 asSl1 v24 fun a134 l135 c136 => asI a_111 fun n137 => 0 ≤ (n137 : Int) ∧ n137 < (l135 : Int) ∧ ∃ v138, cellH h113 (Addr.add a134 (Int.toNat n137 * 1)) = some v138 ∧
 asK .i64 v133 fun n139 => asK .i64 v138 fun n140 => ((.bool (decide ((n139 : Int) ≤ n140))) : Value) = .bool β116 ∧ h113 = h113)
 (((.bool false) : Value) = .bool β116 ∧ h113 = h113)) ∧
 ∀ d117 : Nat → Value,
 cond β116
 (R (.bool false) h113)
 (∃ J141 : Value → Hp → Prop,
 (asB from_110 fun b145 => cond b145
 (J141 (.bool true) h113)
 (asSl1 v46 fun a146 l147 c148 => asI a_111 fun n149 => 0 ≤ (n149 : Int) ∧ n149 < (l147 : Int) ∧ ∃ v150, cellH h113 (Addr.add a146 (Int.toNat n149 * 1)) = some v150 ∧
 asSl1 v150 fun a151 l152 c153 => asI b_97 fun n154 => 0 ≤ (n154 : Int) ∧ n154 < (l152 : Int) ∧ ∃ v155, cellH h113 (Addr.add a151 (Int.toNat n154 * 1)) = some v155 ∧
 asB v155 fun b156 => cond b156
 (asSl1 v24 fun a157 l158 c159 => asI b_97 fun n160 => 0 ≤ (n160 : Int) ∧ n160 < (l158 : Int) ∧ ∃ v161, cellH h113 (Addr.add a157 (Int.toNat n160 * 1)) = some v161 ∧
 asSl1 v24 fun a162 l163 c164 => asI a_111 fun n165 => 0 ≤ (n165 : Int) ∧ n165 < (l163 : Int) ∧ ∃ v166, cellH h113 (Addr.add a162 (Int.toNat n165 * 1)) = some v166 ∧
 asK .i64 v166 fun n167 => asK .i64 v161 fun n168 => J141 (.bool (n168 == ((IntKind.wrap .i64 (n167 + 1)) : Int))) h113)
 (J141 (.bool false) h113))) ∧
 ∀ from_142 (d143 : Nat → Value) (h144 : Hp), J141 from_142 h144 →
 asK .i64 a_111 fun n169 => I108 from_142 (.int .i64 (IntKind.wrap .i64 (n169 + 1))) h144 ∧ μ109 from_142 (.int .i64 (IntKind.wrap .i64 (n169 + 1))) h144 < μ109 from_110 a_111 h113))
 (asB from_110 fun b170 => cond (!b170)
 (R (.bool false) h113)
 (asK .i64 b_97 fun n171 => I95 (.int .i64 (IntKind.wrap .i64 (n171 + 1))) h113 ∧ μ96 (.int .i64 (IntKind.wrap .i64 (n171 + 1))) h113 < μ96 b_97 h99)))
 (R (.bool true) h99))
 (∃ (I172 : Value → Hp → Prop) (μ173 : Value → Hp → Nat), I172 (.int .i64 0) h67 ∧ ∀ i_174 (d175 : Nat → Value) (h176 : Hp), I172 i_174 h176 →
 asSl v32 fun a177 l178 c179 => asK .i64 i_174 fun n180 => cond (decide ((n180 : Int) < (l178 : Int)))
 (asSl1 v32 fun a181 l182 c183 => 0 ≤ (0 : Int) ∧ 0 < (l182 : Int) ∧ ∃ v184, cellH h176 (Addr.add a181 (Int.toNat 0 * 1)) = some v184 ∧
 asK .i64 i_174 fun n185 => asSl v32 fun a186 l187 c188 => ∃ J189 : Value → Hp → Prop,
 (cond (decide (((IntKind.wrap .i64 (n185 + 1)) : Int) < (l187 : Int)))
 (asK .i64 i_174 fun n193 => asSl1 v32 fun a194 l195 c196 => 0 ≤ ((IntKind.wrap .i64 (n193 + 1)) : Int) ∧ (IntKind.wrap .i64 (n193 + 1)) < (l195 : Int) ∧ ∃ v197, cellH h176 (Addr.add a194 (Int.toNat (IntKind.wrap .i64 (n193 + 1)) * 1)) = some v197 ∧
 J189 v197 h176)
 (J189 v184 h176)) ∧
 ∀ to_190 (d191 : Nat → Value) (h192 : Hp), J189 to_190 h192 →
 ∃ β198 : Bool,
 (asSl1 v32 fun a200 l201 c202 => asI i_174 fun n203 => 0 ≤ (n203 : Int) ∧ n203 < (l201 : Int) ∧ ∃ v204, cellH h192 (Addr.add a200 (Int.toNat n203 * 1)) = some v204 ∧
 asSl1 v46 fun a205 l206 c207 => asI v204 fun n208 => 0 ≤ (n208 : Int) ∧ n208 < (l206 : Int) ∧ ∃ v209, cellH h192 (Addr.add a205 (Int.toNat n208 * 1)) = some v209 ∧
 asSl1 v209 fun a210 l211 c212 => asI to_190 fun n213 => 0 ≤ (n213 : Int) ∧ n213 < (l211 : Int) ∧ ∃ v214, cellH h192 (Addr.add a210 (Int.toNat n213 * 1)) = some v214 ∧
 asB v214 fun b215 => cond (!b215)
 (((.bool true) : Value) = .bool β198 ∧ h192 = h192)
 (asK .i64 i_174 fun n216 => cond (decide ((n216 : Int) > 0))
 (asSl1 v32 fun a217 l218 c219 => asI i_174 fun n220 => 0 ≤ (n220 : Int) ∧ n220 < (l218 : Int) ∧ ∃ v221, cellH h192 (Addr.add a217 (Int.toNat n220 * 1)) = some v221 ∧
 asSl1 v32 fun a222 l223 c224 => 0 ≤ (0 : Int) ∧ 0 < (l223 : Int) ∧ ∃ v225, cellH h192 (Addr.add a222 (Int.toNat 0 * 1)) = some v225 ∧
 asK .i64 v221 fun n226 => asK .i64 v225 fun n227 => ((.bool (decide ((n226 : Int) ≤ n227))) : Value) = .bool β198 ∧ h192 = h192)
 (((.bool false) : Value) = .bool β198 ∧ h192 = h192))) ∧
 ∀ d199 : Nat → Value,
 cond β198
 (R (.bool false) h192)
 (asK .i64 i_174 fun n228 => I172 (.int .i64 (IntKind.wrap .i64 (n228 + 1))) h192 ∧ μ173 (.int .i64 (IntKind.wrap .i64 (n228 + 1))) h192 < μ173 i_174 h176))
 (∃ (I229 : Value → Value → Value → Hp → Prop) (μ230 : Value → Value → Value → Hp → Nat), I229 (.int .i64 0) (.slice (some ⟨Array.size h176, 0, none⟩) 1 1) (.int .i64 0) (Array.push h176 (.cells (List.toArray [(.int .i64 0)]) 3 (0, 0))) ∧ ∀ at_231 walk_232 i_233 (d234 : Nat → Value) (h235 : Hp), I229 at_231 walk_232 i_233 h235 →
 asSl picks_p fun a236 l237 c238 => asK .i64 i_233 fun n239 => cond (decide ((n239 : Int) < (l237 : Int)))
 (∃ J240 : Value → Value → Hp → Prop,
 (asSl1 picks_p fun a245 l246 c247 => asI i_233 fun n248 => 0 ≤ (n248 : Int) ∧ n248 < (l246 : Int) ∧ ∃ v249, cellH h235 (Addr.add a245 (Int.toNat n248 * 1)) = some v249 ∧
 asI v249 fun n250 => asI n_p fun n251 => ((IntKind.wrap .u64 n251) : Int) ≠ 0 ∧ asSl1 v46 fun a252 l253 c254 => asI at_231 fun n255 => 0 ≤ (n255 : Int) ∧ n255 < (l253 : Int) ∧ ∃ v256, cellH h235 (Addr.add a252 (Int.toNat n255 * 1)) = some v256 ∧
 asSl1 v256 fun a257 l258 c259 => 0 ≤ ((IntKind.wrap .i64 (Int.tmod (IntKind.wrap .u64 n250) (IntKind.wrap .u64 n251))) : Int) ∧ (IntKind.wrap .i64 (Int.tmod (IntKind.wrap .u64 n250) (IntKind.wrap .u64 n251))) < (l258 : Int) ∧ ∃ v260, cellH h235 (Addr.add a257 (Int.toNat (IntKind.wrap .i64 (Int.tmod (IntKind.wrap .u64 n250) (IntKind.wrap .u64 n251))) * 1)) = some v260 ∧
 asB v260 fun b261 => cond (!b261)
 (J240 (.int .i64 (IntKind.wrap .i64 (Int.tmod (IntKind.wrap .u64 n250) (IntKind.wrap .u64 n251)))) (.slice (some ⟨Array.size h235, 0, none⟩) 1 1) (Array.push h235 (.cells (List.toArray [(.int .i64 (IntKind.wrap .i64 (Int.tmod (IntKind.wrap .u64 n250) (IntKind.wrap .u64 n251))))]) 3 (0, 0))))
 (∃ (I262 : Value → Hp → Prop) (μ263 : Value → Hp → Nat), I262 (.int .i64 0) h235 ∧ ∀ j_264 (d265 : Nat → Value) (h266 : Hp), I262 j_264 h266 →
 asSl walk_232 fun a267 l268 c269 => asK .i64 j_264 fun n270 => cond (decide ((n270 : Int) < (l268 : Int)))
 (∃ β271 : Bool,
 (asSl1 walk_232 fun a273 l274 c275 => asI j_264 fun n276 => 0 ≤ (n276 : Int) ∧ n276 < (l274 : Int) ∧ ∃ v277, cellH h266 (Addr.add a273 (Int.toNat n276 * 1)) = some v277 ∧
 asK .i64 v277 fun n278 => cond (n278 == ((IntKind.wrap .i64 (Int.tmod (IntKind.wrap .u64 n250) (IntKind.wrap .u64 n251))) : Int))
 (asSl walk_232 fun a279 l280 c281 => asK .i64 j_264 fun n282 => asSl v32 fun a283 l284 c285 => ((.bool (decide (((IntKind.wrap .i64 ((l280 : Int) - n282)) : Int) < (l284 : Int)))) : Value) = .bool β271 ∧ h266 = h266)
 (((.bool false) : Value) = .bool β271 ∧ h266 = h266)) ∧
 ∀ d272 : Nat → Value,
 cond β271
 (R (.bool false) h266)
 (asK .i64 j_264 fun n286 => I262 (.int .i64 (IntKind.wrap .i64 (n286 + 1))) h266 ∧ μ263 (.int .i64 (IntKind.wrap .i64 (n286 + 1))) h266 < μ263 j_264 h266))
 (appK Try.prog 27 (Array.push h266 (.cells (List.toArray [(.int .i64 (IntKind.wrap .i64 (Int.tmod (IntKind.wrap .u64 n250) (IntKind.wrap .u64 n251))))]) 3 (0, 0))) walk_232 (.slice (some ⟨Array.size h266, 0, none⟩) 1 1) fun w287 h288 =>
 J240 (.int .i64 (IntKind.wrap .i64 (Int.tmod (IntKind.wrap .u64 n250) (IntKind.wrap .u64 n251)))) w287 h288))) ∧
 ∀ at_241 walk_242 (d243 : Nat → Value) (h244 : Hp), J240 at_241 walk_242 h244 →
 asK .i64 i_233 fun n289 => I229 at_241 walk_242 (.int .i64 (IntKind.wrap .i64 (n289 + 1))) h244 ∧ μ230 at_241 walk_242 (.int .i64 (IntKind.wrap .i64 (n289 + 1))) h244 < μ230 at_231 walk_232 i_233 h235)
 (R (.bool true) h235))))))) X) X))) X
def A_pipewrightlaw_RanksOrder : Ann :=
 (.two .leaf (.two (.two .leaf (.two (.two .leaf .leaf) .leaf)) (.two (.two (.join [26, 27, 28, 29, 30, 31, 32, 33, 34, 35, 36, 37, 38, 39, 40, 41, 42, 43, 44, 45, 46, 47, 48] [48] .leaf) (.two (.two .leaf .leaf) .leaf)) (.two .leaf (.two .leaf (.two (.two (.jb [61, 62, 63, 64, 65, 66, 67, 68, 69, 70, 71, 72] 72 .leaf) (.two (.two .leaf .leaf) .leaf)) (.two .leaf (.two (.two .leaf (.one (.loop [75, 76, 77, 80, 81, 82, 83, 84, 78, 79, 12] [12] (.two (.two .leaf (.two .leaf .leaf)) (.two (.one .leaf) .leaf))))) (.two (.two .leaf (.one (.loop [85, 86, 87, 88, 91, 92, 93, 94, 95, 96, 97, 98, 99, 100, 101, 102, 103, 104, 89, 90, 13] [13] (.two (.two .leaf (.two .leaf .leaf)) (.two (.one (.plan [0, 1, 2, 3, 4, 5, 6, 7, 8, 9, 10, 11, 12, 13, 14])) .leaf))))) (.two (.two .leaf (.two (.two (.two .leaf (.one (.loop [108, 109, 110, 113, 114, 115, 116, 117, 15, 16, 118, 119, 120, 123, 124, 125, 126, 127, 128, 129, 130, 131, 132, 133, 134, 135, 136, 137, 138, 139, 140, 6, 141, 142, 143, 144, 145, 146, 147, 148, 149, 150, 151, 152, 153, 154, 155, 156, 157, 158, 159, 160, 161, 162, 121, 122, 163, 164, 111, 112, 14] [14] (.two (.two .leaf (.two .leaf .leaf)) (.two (.one (.two .leaf (.two (.two .leaf (.one (.loop [118, 119, 120, 123, 124, 125, 126, 127, 128, 129, 130, 131, 132, 133, 134, 135, 136, 137, 138, 139, 140, 6, 141, 142, 143, 144, 145, 146, 147, 148, 149, 150, 151, 152, 153, 154, 155, 156, 157, 158, 159, 160, 161, 162, 15, 121, 122, 16] [15, 16] (.two (.two .leaf (.two .leaf .leaf)) (.two (.one (.two (.two (.jb [123, 124, 125, 126, 127, 128, 129, 130, 131, 132, 133, 134, 135, 136, 137, 138, 139, 140] 140 (.plan [0, 1, 2, 3, 4, 5, 6, 7, 8, 9, 10, 11, 12, 13, 14, 15, 16, 17])) (.two (.two .leaf .leaf) .leaf)) (.join [141, 142, 143, 144, 145, 146, 147, 148, 149, 150, 151, 152, 153, 154, 155, 156, 157, 158, 159, 160, 161, 162, 15] [15] (.plan [0, 1, 2, 3, 4, 5, 6, 7, 8, 9, 10, 11, 12, 13, 14, 15, 16, 17, 18, 19, 20, 21, 22])))) .leaf))))) (.two .leaf (.two (.two .leaf .leaf) .leaf))))) .leaf))))) (.two .leaf .leaf)) .leaf)) (.two (.two .leaf (.one (.loop [165, 166, 167, 168, 171, 172, 173, 18, 174, 175, 176, 177, 178, 179, 180, 181, 182, 183, 184, 185, 186, 187, 188, 189, 190, 191, 192, 193, 194, 195, 196, 197, 198, 199, 200, 201, 202, 203, 204, 205, 206, 207, 208, 6, 169, 170, 17] [17] (.two (.two .leaf (.two .leaf .leaf)) (.two (.one (.two .leaf (.two (.two .leaf (.join [179, 180, 181, 182, 183, 18] [18] (.two .leaf .leaf))) (.two (.jb [184, 185, 186, 187, 188, 189, 190, 191, 192, 193, 194, 195, 196, 197, 198, 199, 200, 201, 202, 203, 204, 205, 206, 207, 208] 208 (.plan [0, 1, 2, 3, 4, 5, 6, 7, 8, 9, 10, 11, 12, 13, 14, 15, 16, 17, 18, 19, 20, 21, 22, 23, 24])) (.two (.two .leaf .leaf) .leaf))))) .leaf))))) (.two .leaf (.two (.two .leaf (.one (.loop [210, 211, 212, 213, 216, 217, 218, 219, 220, 221, 222, 223, 224, 22, 225, 226, 227, 228, 229, 230, 231, 232, 233, 234, 235, 19, 20, 23, 236, 237, 238, 239, 242, 243, 244, 245, 246, 247, 248, 249, 250, 251, 252, 253, 254, 255, 256, 6, 240, 241, 257, 258, 259, 260, 261, 214, 215, 21] [19, 20, 21] (.two (.two .leaf (.two .leaf .leaf)) (.two (.join [216, 217, 218, 219, 220, 221, 222, 223, 224, 22, 225, 226, 227, 228, 229, 230, 231, 232, 233, 234, 235, 19, 20, 23, 236, 237, 238, 239, 242, 243, 244, 245, 246, 247, 248, 249, 250, 251, 252, 253, 254, 255, 256, 6, 240, 241, 257, 258, 259, 260, 261] [19, 20] (.one (.two .leaf (.two (.two .leaf (.two (.two .leaf .leaf) .leaf)) (.two (.two .leaf (.one (.loop [236, 237, 238, 239, 242, 243, 244, 245, 246, 247, 248, 249, 250, 251, 252, 253, 254, 255, 256, 6, 240, 241, 23] [23] (.two (.two .leaf (.two .leaf .leaf)) (.two (.one (.two (.jb [242, 243, 244, 245, 246, 247, 248, 249, 250, 251, 252, 253, 254, 255, 256] 256 .leaf) (.two (.two .leaf .leaf) .leaf))) .leaf))))) (.two .leaf .leaf)))))) .leaf))))) (.two .leaf .leaf))))))))))))))
theorem C_pipewrightlaw_RanksOrder (ω : Amb) (n_p edges_p picks_p : Value) (h : Hp) (R : Value → Hp → Prop) (X : List PanicEntry → Hp → Prop) (hk : W_pipewrightlaw_RanksOrder ω n_p edges_p picks_p h R X) : CallX Try.prog ω 4 [n_p, edges_p, picks_p] h R X :=
 callX_of (an := A_pipewrightlaw_RanksOrder) Try.func4 ((show fnX Try.prog ω A_pipewrightlaw_RanksOrder Try.f4 [n_p, edges_p, picks_p] h R X = W_pipewrightlaw_RanksOrder ω n_p edges_p picks_p h R X by kernel_rfl) ▸ hk)

/-- pipewright/pipewrightlaw.RanksMore -/
abbrev n_pipewrightlaw_RanksMore : Nat := 5
def W_pipewrightlaw_RanksMore (ω : Amb) (n_p edges_p a_p b_p cut_p : Value) (h : Hp) (R : Value → Hp → Prop) (X : List PanicEntry → Hp → Prop) : Prop :=
 CallX Try.prog ω 6 [] h (fun r0 h1 =>
 asB r0 fun b2 => cond (!b2)
 (R (.bool false) h1)
 (∃ J3 : Value → Hp → Prop,
 (asK .i64 n_p fun n7 => cond (decide ((n7 : Int) < 1))
 (J3 (.bool true) h1)
 (asK .i64 n_p fun n8 => cond (decide ((n8 : Int) > 60))
 (J3 (.bool true) h1)
 (asSl edges_p fun a9 l10 c11 => cond (decide (((l10 : Int) : Int) > 150))
 (J3 (.bool true) h1)
 (CallX Try.prog ω 7 [n_p, edges_p] h1 (fun r12 h13 =>
 asA r12 fun A14 => asO A14[0]? fun v15 => asK .i64 v15 fun n16 => J3 (.bool (n16 != (0 : Int))) h13) X)))) ∧
 ∀ t46_4 (d5 : Nat → Value) (h6 : Hp), J3 t46_4 h6 →
 asB t46_4 fun b17 => cond b17
 (R (.bool true) h6)
 (asI cut_p fun n18 => asSl edges_p fun a19 l20 c21 => ((IntKind.wrap .u64 (IntKind.wrap .i64 ((l20 : Int) + 1))) : Int) ≠ 0 ∧ asSl edges_p fun a22 l23 c24 => 0 ≤ ((IntKind.wrap .i64 (Int.tmod (IntKind.wrap .u64 n18) (IntKind.wrap .u64 (IntKind.wrap .i64 ((l20 : Int) + 1))))) : Int) ∧ ((IntKind.wrap .i64 (Int.tmod (IntKind.wrap .u64 n18) (IntKind.wrap .u64 (IntKind.wrap .i64 ((l20 : Int) + 1))))) : Int) ≤ (l23 : Int) ∧ (l23 : Int) ≤ (c24 : Int) ∧ appK Try.prog 22 h6 (.slice none 0 0) (.slice (if c24 = Int.toNat (IntKind.wrap .i64 (Int.tmod (IntKind.wrap .u64 n18) (IntKind.wrap .u64 (IntKind.wrap .i64 ((l20 : Int) + 1))))) then a22 else Option.map (fun y => Addr.add y (Int.toNat (IntKind.wrap .i64 (Int.tmod (IntKind.wrap .u64 n18) (IntKind.wrap .u64 (IntKind.wrap .i64 ((l20 : Int) + 1))))) * 2)) a22) (Int.toNat (l23 : Int) - Int.toNat (IntKind.wrap .i64 (Int.tmod (IntKind.wrap .u64 n18) (IntKind.wrap .u64 (IntKind.wrap .i64 ((l20 : Int) + 1)))))) (c24 - Int.toNat (IntKind.wrap .i64 (Int.tmod (IntKind.wrap .u64 n18) (IntKind.wrap .u64 (IntKind.wrap .i64 ((l20 : Int) + 1))))))) fun w25 h26 =>
 asSl edges_p fun a27 l28 c29 => 0 ≤ (((0 : Nat) : Int) : Int) ∧ (((0 : Nat) : Int) : Int) ≤ (IntKind.wrap .i64 (Int.tmod (IntKind.wrap .u64 n18) (IntKind.wrap .u64 (IntKind.wrap .i64 ((l20 : Int) + 1))))) ∧ (IntKind.wrap .i64 (Int.tmod (IntKind.wrap .u64 n18) (IntKind.wrap .u64 (IntKind.wrap .i64 ((l20 : Int) + 1))))) ≤ (c29 : Int) ∧ appK Try.prog 22 h26 w25 (.slice (if c29 = Int.toNat ((0 : Nat) : Int) then a27 else Option.map (fun y => Addr.add y (Int.toNat ((0 : Nat) : Int) * 2)) a27) (Int.toNat (IntKind.wrap .i64 (Int.tmod (IntKind.wrap .u64 n18) (IntKind.wrap .u64 (IntKind.wrap .i64 ((l20 : Int) + 1))))) - Int.toNat ((0 : Nat) : Int)) (c29 - Int.toNat ((0 : Nat) : Int))) fun w30 h31 =>
 asSl edges_p fun a32 l33 c34 => 0 ≤ ((IntKind.wrap .i64 (Int.tmod (IntKind.wrap .u64 n18) (IntKind.wrap .u64 (IntKind.wrap .i64 ((l20 : Int) + 1))))) : Int) ∧ ((IntKind.wrap .i64 (Int.tmod (IntKind.wrap .u64 n18) (IntKind.wrap .u64 (IntKind.wrap .i64 ((l20 : Int) + 1))))) : Int) ≤ (l33 : Int) ∧ (l33 : Int) ≤ (c34 : Int) ∧ appK Try.prog 22 h31 w30 (.slice (if c34 = Int.toNat (IntKind.wrap .i64 (Int.tmod (IntKind.wrap .u64 n18) (IntKind.wrap .u64 (IntKind.wrap .i64 ((l20 : Int) + 1))))) then a32 else Option.map (fun y => Addr.add y (Int.toNat (IntKind.wrap .i64 (Int.tmod (IntKind.wrap .u64 n18) (IntKind.wrap .u64 (IntKind.wrap .i64 ((l20 : Int) + 1))))) * 2)) a32) (Int.toNat (l33 : Int) - Int.toNat (IntKind.wrap .i64 (Int.tmod (IntKind.wrap .u64 n18) (IntKind.wrap .u64 (IntKind.wrap .i64 ((l20 : Int) + 1)))))) (c34 - Int.toNat (IntKind.wrap .i64 (Int.tmod (IntKind.wrap .u64 n18) (IntKind.wrap .u64 (IntKind.wrap .i64 ((l20 : Int) + 1))))))) fun w35 h36 =>
 CallX Try.prog ω 8 [n_p, edges_p] h36 (fun r37 h38 =>
 asT r37 fun T39 => asO T39[0]? fun v40 => asT r37 fun T41 => asO T41[1]? fun v42 => asA v42 fun A43 => A43.size = 2 ∧ (∀ u ∈ A43.toList, one u) ∧ storeK (Array.push h38 (.cells #[(.int .i64 0), (.int .i64 0)] 25 (0, 0))) ⟨Array.size h38, 0, none⟩ A43.toList fun h44 =>
 CallX Try.prog ω 8 [n_p, w35] h44 (fun r45 h46 =>
 asT r45 fun T47 => asO T47[0]? fun v48 => asT r45 fun T49 => asO T49[1]? fun v50 => asA v50 fun A51 => A51.size = 2 ∧ (∀ u ∈ A51.toList, one u) ∧ storeK (Array.push h46 (.cells #[(.int .i64 0), (.int .i64 0)] 25 (0, 0))) ⟨Array.size h46, 0, none⟩ A51.toList fun h52 =>
 CallX Try.prog ω 9 [n_p, edges_p] h52 (fun r53 h54 =>
 asT r53 fun T55 => asO T55[0]? fun v56 => asT r53 fun T57 => asO T57[1]? fun v58 => asA v58 fun A59 => A59.size = 2 ∧ (∀ u ∈ A59.toList, one u) ∧ storeK (Array.push h54 (.cells #[(.int .i64 0), (.int .i64 0)] 25 (0, 0))) ⟨Array.size h54, 0, none⟩ A59.toList fun h60 =>
 CallX Try.prog ω 9 [n_p, w35] h60 (fun r61 h62 =>
 asT r61 fun T63 => asO T63[0]? fun v64 => asT r61 fun T65 => asO T65[1]? fun v66 => asA v66 fun A67 => A67.size = 2 ∧ (∀ u ∈ A67.toList, one u) ∧ storeK (Array.push h62 (.cells #[(.int .i64 0), (.int .i64 0)] 25 (0, 0))) ⟨Array.size h62, 0, none⟩ A67.toList fun h68 =>
 ∃ J69 : Value → Hp → Prop,
 (∃ C73, cellsH h68 ⟨Array.size h38, 0, none⟩ 2 C73 ∧
 ∃ C74, cellsH h68 ⟨Array.size h46, 0, none⟩ 2 C74 ∧
 asO C73.toArray[0]? fun v75 => asO C74.toArray[0]? fun v76 => asK .i64 v75 fun n77 => asK .i64 v76 fun n78 => asO C73.toArray[1]? fun v79 => asO C74.toArray[1]? fun v80 => asK .i64 v79 fun n81 => asK .i64 v80 fun n82 => cond (!((n77 == (n78 : Int)) && ((n81 == (n82 : Int)) && true)))
 (J69 (.bool true) h68)
 (CallX Try.prog ω 12 [v40, v48] h68 (fun r83 h84 =>
 asB r83 fun b85 => cond (!b85)
 (J69 (.bool true) h84)
 (CallX Try.prog ω 12 [v56, v64] h84 (fun r86 h87 =>
 asB r86 fun b88 => J69 (.bool (!b88)) h87) X)) X)) ∧
 ∀ t108_70 (d71 : Nat → Value) (h72 : Hp), J69 t108_70 h72 →
 asB t108_70 fun b89 => cond b89
 (R (.bool false) h72)
 (asI a_p fun n90 => asI n_p fun n91 => ((IntKind.wrap .u64 n91) : Int) ≠ 0 ∧ asI b_p fun n92 => asI n_p fun n93 => ((IntKind.wrap .u64 n93) : Int) ≠ 0 ∧ 2 = 2 ∧ appK Try.prog 22 (Array.push h72 (.cells (List.toArray [(.int .i64 (IntKind.wrap .i64 (Int.tmod (IntKind.wrap .u64 n90) (IntKind.wrap .u64 n91)))), (.int .i64 (IntKind.wrap .i64 (Int.tmod (IntKind.wrap .u64 n92) (IntKind.wrap .u64 n93))))]) 30 (0, 0))) w35 (.slice (some ⟨Array.size h72, 0, none⟩) 1 1) fun w94 h95 =>
 CallX Try.prog ω 8 [n_p, w94] h95 (fun r96 h97 =>
 asT r96 fun T98 => asO T98[0]? fun v99 => asT r96 fun T100 => asO T100[1]? fun v101 => asA v101 fun A102 => A102.size = 2 ∧ (∀ u ∈ A102.toList, one u) ∧ storeK (Array.push h97 (.cells #[(.int .i64 0), (.int .i64 0)] 25 (0, 0))) ⟨Array.size h97, 0, none⟩ A102.toList fun h103 =>
 CallX Try.prog ω 9 [n_p, w94] h103 (fun r104 h105 =>
 asT r104 fun T106 => asO T106[0]? fun v107 => asT r104 fun T108 => asO T108[1]? fun v109 => asA v109 fun A110 => A110.size = 2 ∧ (∀ u ∈ A110.toList, one u) ∧ storeK (Array.push h105 (.cells #[(.int .i64 0), (.int .i64 0)] 25 (0, 0))) ⟨Array.size h105, 0, none⟩ A110.toList fun h111 =>
 ∃ v112, cellH h111 (Addr.add ⟨Array.size h38, 0, none⟩ 0) = some v112 ∧
 asK .i64 v112 fun n113 => cond (n113 != (0 : Int))
 (∃ J114 : Value → Hp → Prop,
 (∃ C118, cellsH h111 ⟨Array.size h97, 0, none⟩ 2 C118 ∧
 ∃ C119, cellsH h111 ⟨Array.size h38, 0, none⟩ 2 C119 ∧
 asO C118.toArray[0]? fun v120 => asO C119.toArray[0]? fun v121 => asK .i64 v120 fun n122 => asK .i64 v121 fun n123 => asO C118.toArray[1]? fun v124 => asO C119.toArray[1]? fun v125 => asK .i64 v124 fun n126 => asK .i64 v125 fun n127 => cond ((n122 == (n123 : Int)) && ((n126 == (n127 : Int)) && true))
 (asSl v107 fun a128 l129 c130 => asSl v56 fun a131 l132 c133 => cond (decide (((l129 : Int) : Int) ≤ (l132 : Int)))
 (asSl v107 fun a134 l135 c136 => J114 (.bool (decide (((l135 : Int) : Int) > 0))) h111)
 (J114 (.bool false) h111))
 (J114 (.bool false) h111)) ∧
 ∀ t10_115 (d116 : Nat → Value) (h117 : Hp), J114 t10_115 h117 →
 R t10_115 h117)
 (∃ v137, cellH h111 (Addr.add ⟨Array.size h97, 0, none⟩ 0) = some v137 ∧
 asK .i64 v137 fun n138 => cond (n138 != (0 : Int))
 (asSl v107 fun a139 l140 c141 => R (.bool (decide (((l140 : Int) : Int) > 0))) h111)
 (∃ (I142 : Value → Hp → Prop) (μ143 : Value → Hp → Nat), I142 (.int .i64 0) h111 ∧ ∀ i_144 (d145 : Nat → Value) (h146 : Hp), I142 i_144 h146 →
 asK .i64 i_144 fun n147 => asK .i64 n_p fun n148 => cond (decide ((n147 : Int) < n148))
 (asSl1 v99 fun a149 l150 c151 => asI i_144 fun n152 => 0 ≤ (n152 : Int) ∧ n152 < (l150 : Int) ∧ ∃ v153, cellH h146 (Addr.add a149 (Int.toNat n152 * 1)) = some v153 ∧
 asSl1 v40 fun a154 l155 c156 => asI i_144 fun n157 => 0 ≤ (n157 : Int) ∧ n157 < (l155 : Int) ∧ ∃ v158, cellH h146 (Addr.add a154 (Int.toNat n157 * 1)) = some v158 ∧
 asK .i64 v153 fun n159 => asK .i64 v158 fun n160 => cond (decide ((n159 : Int) < n160))
 (R (.bool false) h146)
 (asK .i64 i_144 fun n161 => I142 (.int .i64 (IntKind.wrap .i64 (n161 + 1))) h146 ∧ μ143 (.int .i64 (IntKind.wrap .i64 (n161 + 1))) h146 < μ143 i_144 h146))
 (R (.bool true) h146)))) X) X)) X) X) X) X))) X
def A_pipewrightlaw_RanksMore : Ann :=
 (.two .leaf (.two (.two .leaf (.two (.two .leaf .leaf) .leaf)) (.two (.two (.join [29, 30, 31, 32, 33, 34, 35, 36, 37, 38, 39, 40, 41, 42, 43, 44, 45, 46] [46] .leaf) (.two (.two .leaf .leaf) .leaf)) (.two .leaf (.two .leaf (.two .leaf (.two .leaf (.two .leaf (.two .leaf (.two .leaf (.two .leaf (.two .leaf (.two (.two (.join [94, 95, 96, 97, 98, 99, 100, 101, 102, 103, 104, 105, 106, 107, 108] [108] .leaf) (.two (.two .leaf .leaf) .leaf)) (.two (.plan [0, 1, 2, 3, 4, 5, 6, 7, 8, 9, 10, 11, 12, 13, 14, 15, 16]) (.two .leaf (.two .leaf (.two (.two .leaf (.two (.two (.join [140, 141, 142, 143, 144, 145, 146, 147, 148, 149, 150, 151, 152, 153, 154, 10] [10] .leaf) .leaf) .leaf)) (.two (.two .leaf (.two (.two .leaf .leaf) .leaf)) (.two (.two .leaf (.one (.loop [161, 162, 163, 166, 167, 168, 169, 170, 171, 172, 173, 174, 10, 164, 165, 26] [26] (.two (.two .leaf (.two .leaf .leaf)) (.two (.one (.two (.plan [0, 1, 2, 3, 4, 5, 6, 7, 8]) (.two (.two .leaf .leaf) .leaf))) .leaf))))) (.two .leaf .leaf))))))))))))))))))))
theorem C_pipewrightlaw_RanksMore (ω : Amb) (n_p edges_p a_p b_p cut_p : Value) (h : Hp) (R : Value → Hp → Prop) (X : List PanicEntry → Hp → Prop) (hk : W_pipewrightlaw_RanksMore ω n_p edges_p a_p b_p cut_p h R X) : CallX Try.prog ω 5 [n_p, edges_p, a_p, b_p, cut_p] h R X :=
 callX_of (an := A_pipewrightlaw_RanksMore) Try.func5 ((show fnX Try.prog ω A_pipewrightlaw_RanksMore Try.f5 [n_p, edges_p, a_p, b_p, cut_p] h R X = W_pipewrightlaw_RanksMore ω n_p edges_p a_p b_p cut_p h R X by kernel_rfl) ▸ hk)

/-- pipewright/pipewrightlaw.ranksBegun -/
abbrev n_pipewrightlaw_ranksBegun : Nat := 6
def W_pipewrightlaw_ranksBegun (ω : Amb) (h : Hp) (R : Value → Hp → Prop) (X : List PanicEntry → Hp → Prop) : Prop :=
 2 = 2 ∧ 2 = 2 ∧ 2 = 2 ∧ CallX Try.prog ω 8 [(.int .i64 3), (.slice (some ⟨Array.size h, 0, none⟩) 3 3)] (Array.push h (.cells (List.toArray [(.int .i64 0), (.int .i64 1), (.int .i64 1), (.int .i64 2), (.int .i64 0), (.int .i64 2)]) 30 (0, 0))) (fun r0 h1 =>
 asT r0 fun T2 => asO T2[0]? fun v3 => asT r0 fun T4 => asO T4[1]? fun v5 => asA v5 fun A6 => A6.size = 2 ∧ (∀ u ∈ A6.toList, one u) ∧ storeK (Array.push h1 (.cells #[(.int .i64 0), (.int .i64 0)] 25 (0, 0))) ⟨Array.size h1, 0, none⟩ A6.toList fun h7 =>
 2 = 2 ∧ 2 = 2 ∧ 2 = 2 ∧ CallX Try.prog ω 9 [(.int .i64 3), (.slice (some ⟨Array.size h7, 0, none⟩) 3 3)] (Array.push h7 (.cells (List.toArray [(.int .i64 0), (.int .i64 1), (.int .i64 1), (.int .i64 2), (.int .i64 2), (.int .i64 1)]) 30 (0, 0))) (fun r8 h9 =>
 asT r8 fun T10 => asO T10[0]? fun v11 => asT r8 fun T12 => asO T12[1]? fun v13 => asA v13 fun A14 => A14.size = 2 ∧ (∀ u ∈ A14.toList, one u) ∧ storeK (Array.push h9 (.cells #[(.int .i64 0), (.int .i64 0)] 25 (0, 0))) ⟨Array.size h9, 0, none⟩ A14.toList fun h15 =>
 ∃ J16 : Value → Hp → Prop,
 (∃ v20, cellH h15 (Addr.add ⟨Array.size h1, 0, none⟩ 0) = some v20 ∧
 asK .i64 v20 fun n21 => cond (n21 == (0 : Int))
 (∃ v22, cellH h15 (Addr.add ⟨Array.size h9, 0, none⟩ 0) = some v22 ∧
 asK .i64 v22 fun n23 => cond (n23 == (0 : Int))
 (CallX Try.prog ω 12 [v3, (.slice (some ⟨Array.size h15, 0, none⟩) 3 3)] (Array.push h15 (.cells (List.toArray [(.int .i64 0), (.int .i64 1), (.int .i64 2)]) 3 (0, 0))) (fun r24 h25 =>
 asB r24 fun b26 => cond b26
 (CallX Try.prog ω 12 [v11, (.slice (some ⟨Array.size h25, 0, none⟩) 2 2)] (Array.push h25 (.cells (List.toArray [(.int .i64 1), (.int .i64 2)]) 3 (0, 0))) (fun r27 h28 =>
 J16 r27 h28) X)
 (J16 (.bool false) h25)) X)
 (J16 (.bool false) h15))
 (J16 (.bool false) h15)) ∧
 ∀ t0_17 (d18 : Nat → Value) (h19 : Hp), J16 t0_17 h19 →
 R t0_17 h19) X) X
def A_pipewrightlaw_ranksBegun : Ann :=
 (.two .leaf (.two .leaf (.two .leaf (.two (.join [21, 22, 23, 24, 25, 26, 27, 28, 29, 30, 31, 32, 33, 34, 35, 36, 37, 38, 0] [0] .leaf) .leaf))))
theorem C_pipewrightlaw_ranksBegun (ω : Amb) (h : Hp) (R : Value → Hp → Prop) (X : List PanicEntry → Hp → Prop) (hk : W_pipewrightlaw_ranksBegun ω  h R X) : CallX Try.prog ω 6 [] h R X :=
 callX_of (an := A_pipewrightlaw_ranksBegun) Try.func6 ((show fnX Try.prog ω A_pipewrightlaw_ranksBegun Try.f6 [] h R X = W_pipewrightlaw_ranksBegun ω  h R X by kernel_rfl) ▸ hk)

/-- pipewright/ranks.Check -/
abbrev n_ranks_Check : Nat := 7
def W_ranks_Check (ω : Amb) (n_p edges_p : Value) (h : Hp) (R : Value → Hp → Prop) (X : List PanicEntry → Hp → Prop) : Prop :=
 ∃ β0 : Bool,
 (asK .i64 n_p fun n2 => cond (decide ((n2 : Int) < 0))
 (((.bool true) : Value) = .bool β0 ∧ (Array.push h (.cells #[(.int .i64 0), (.int .i64 0)] 25 (0, 0))) = (Array.push h (.cells #[(.int .i64 0), (.int .i64 0)] 25 (0, 0))))
 (asK .i64 n_p fun n3 => cond (decide ((n3 : Int) > 1000))
 (((.bool true) : Value) = .bool β0 ∧ (Array.push h (.cells #[(.int .i64 0), (.int .i64 0)] 25 (0, 0))) = (Array.push h (.cells #[(.int .i64 0), (.int .i64 0)] 25 (0, 0))))
 (asSl edges_p fun a4 l5 c6 => ((.bool (decide (((l5 : Int) : Int) > 20000))) : Value) = .bool β0 ∧ (Array.push h (.cells #[(.int .i64 0), (.int .i64 0)] 25 (0, 0))) = (Array.push h (.cells #[(.int .i64 0), (.int .i64 0)] 25 (0, 0)))))) ∧
 ∀ d1 : Nat → Value,
 cond β0
 (2 = 2 ∧ (∀ u ∈ [(.int .i64 8), (.int .i64 (-1))], one u) ∧ storeK (Array.push h (.cells #[(.int .i64 0), (.int .i64 0)] 25 (0, 0))) ⟨Array.size h, 0, none⟩ [(.int .i64 8), (.int .i64 (-1))] fun h7 =>
 ∃ C8, cellsH h7 ⟨Array.size h, 0, none⟩ 2 C8 ∧ R (.agg C8.toArray) h7)
 (asSl edges_p fun a9 l10 c11 => ∃ (I12 : Value → Hp → Prop) (μ13 : Value → Hp → Nat), I12 (.int .i64 0) (Array.push h (.cells #[(.int .i64 0), (.int .i64 0)] 25 (0, 0))) ∧ ∀ t21_14 (d15 : Nat → Value) (h16 : Hp), I12 t21_14 h16 →
 asK .i64 t21_14 fun n17 => cond (decide ((n17 : Int) < (l10 : Int)))
 (asSl1 edges_p fun a18 l19 c20 => asI t21_14 fun n21 => 0 ≤ (n21 : Int) ∧ n21 < (l19 : Int) ∧ ∃ C22, cellsH h16 (Addr.add a18 (Int.toNat n21 * 2)) 2 C22 ∧
 C22.toArray.size = 2 ∧ (∀ u ∈ C22.toArray.toList, one u) ∧ storeK (Array.push h16 (.cells #[(.int .i64 0), (.int .i64 0)] 30 (0, 0))) ⟨Array.size h16, 0, none⟩ C22.toArray.toList fun h23 =>
 ∃ β24 : Bool,
 (0 ≤ (0 : Int) ∧ 0 < ((2 : Nat) : Int) ∧ ∃ v26, cellH h23 (Addr.add ⟨Array.size h16, 0, none⟩ (Int.toNat 0 * 1)) = some v26 ∧
 asK .i64 v26 fun n27 => cond (decide ((n27 : Int) < 0))
 (((.bool true) : Value) = .bool β24 ∧ h23 = h23)
 (0 ≤ (0 : Int) ∧ 0 < ((2 : Nat) : Int) ∧ ∃ v28, cellH h23 (Addr.add ⟨Array.size h16, 0, none⟩ (Int.toNat 0 * 1)) = some v28 ∧
 asK .i64 v28 fun n29 => asK .i64 n_p fun n30 => cond (decide ((n29 : Int) ≥ n30))
 (((.bool true) : Value) = .bool β24 ∧ h23 = h23)
 (0 ≤ (1 : Int) ∧ 1 < ((2 : Nat) : Int) ∧ ∃ v31, cellH h23 (Addr.add ⟨Array.size h16, 0, none⟩ (Int.toNat 1 * 1)) = some v31 ∧
 asK .i64 v31 fun n32 => cond (decide ((n32 : Int) < 0))
 (((.bool true) : Value) = .bool β24 ∧ h23 = h23)
 (0 ≤ (1 : Int) ∧ 1 < ((2 : Nat) : Int) ∧ ∃ v33, cellH h23 (Addr.add ⟨Array.size h16, 0, none⟩ (Int.toNat 1 * 1)) = some v33 ∧
 asK .i64 v33 fun n34 => asK .i64 n_p fun n35 => ((.bool (decide ((n34 : Int) ≥ n35))) : Value) = .bool β24 ∧ h23 = h23)))) ∧
 ∀ d25 : Nat → Value,
 cond β24
 (oneK t21_14 (2 = 2 ∧ (∀ u ∈ [(.int .i64 14), t21_14], one u) ∧ storeK h23 ⟨Array.size h, 0, none⟩ [(.int .i64 14), t21_14] fun h36 =>
 ∃ C37, cellsH h36 ⟨Array.size h, 0, none⟩ 2 C37 ∧ R (.agg C37.toArray) h36))
 (asK .i64 t21_14 fun n38 => I12 (.int .i64 (IntKind.wrap .i64 (n38 + 1))) h23 ∧ μ13 (.int .i64 (IntKind.wrap .i64 (n38 + 1))) h23 < μ13 t21_14 h16))
 (2 = 2 ∧ (∀ u ∈ [(.int .i64 0), (.int .i64 0)], one u) ∧ storeK h16 ⟨Array.size h, 0, none⟩ [(.int .i64 0), (.int .i64 0)] fun h39 =>
 ∃ C40, cellsH h39 ⟨Array.size h, 0, none⟩ 2 C40 ∧ R (.agg C40.toArray) h39))
def A_ranks_Check : Ann :=
 (.two .leaf (.two (.two (.jb [7, 8, 9, 10, 11, 12, 13, 14, 15, 16, 17] 17 .leaf) (.two (.two .leaf .leaf) .leaf)) (.two (.two .leaf (.one (.loop [22, 23, 24, 25, 6, 5, 26, 27, 28, 29, 30, 31, 32, 33, 34, 35, 36, 37, 38, 39, 40, 41, 42, 43, 44, 45, 46, 47, 48, 21] [21] (.two .leaf (.two (.two .leaf .leaf) (.two (.one (.two .leaf (.two (.jb [26, 27, 28, 29, 30, 31, 32, 33, 34, 35, 36, 37, 38, 39, 40, 41, 42, 43, 44, 45] 45 .leaf) (.two (.two .leaf .leaf) .leaf)))) .leaf)))))) (.two .leaf .leaf))))
theorem C_ranks_Check (ω : Amb) (n_p edges_p : Value) (h : Hp) (R : Value → Hp → Prop) (X : List PanicEntry → Hp → Prop) (hk : W_ranks_Check ω n_p edges_p h R X) : CallX Try.prog ω 7 [n_p, edges_p] h R X :=
 callX_of (an := A_ranks_Check) Try.func7 ((show fnX Try.prog ω A_ranks_Check Try.f7 [n_p, edges_p] h R X = W_ranks_Check ω n_p edges_p h R X by kernel_rfl) ▸ hk)

/-- pipewright/ranks.Ranks -/
abbrev n_ranks_Ranks : Nat := 8
def W_ranks_Ranks (ω : Amb) (n_p edges_p : Value) (h : Hp) (R : Value → Hp → Prop) (X : List PanicEntry → Hp → Prop) : Prop :=
 CallX Try.prog ω 7 [n_p, edges_p] (Array.push h (.cells #[(.int .i64 0), (.int .i64 0)] 25 (0, 0))) (fun r0 h1 =>
 asA r0 fun A2 => A2.size = 2 ∧ (∀ u ∈ A2.toList, one u) ∧ storeK (Array.push h1 (.cells #[(.int .i64 0), (.int .i64 0)] 25 (0, 0))) ⟨Array.size h1, 0, none⟩ A2.toList fun h3 =>
 ∃ v4, cellH h3 (Addr.add ⟨Array.size h1, 0, none⟩ 0) = some v4 ∧
 asK .i64 v4 fun n5 => cond (n5 != (0 : Int))
 (∃ C6, cellsH h3 ⟨Array.size h1, 0, none⟩ 2 C6 ∧
 C6.toArray.size = 2 ∧ (∀ u ∈ C6.toArray.toList, one u) ∧ storeK h3 ⟨Array.size h, 0, none⟩ C6.toArray.toList fun h7 =>
 ∃ C8, cellsH h7 ⟨Array.size h, 0, none⟩ 2 C8 ∧ R (.tuple #[(.slice none 0 0), (.agg C8.toArray)]) h7)
 (CallX Try.prog ω 14 [n_p, edges_p] h3 (fun r9 h10 =>
 makeK Try.prog 27 h10 n_p n_p fun v11 h12 =>
 asSl r9 fun a13 l14 c15 => ∃ (I16 : Value → Hp → Prop) (μ17 : Value → Hp → Nat), I16 (.int .i64 0) h12 ∧ ∀ t34_18 (d19 : Nat → Value) (h20 : Hp), I16 t34_18 h20 →
 asK .i64 t34_18 fun n21 => cond (decide ((n21 : Int) < (l14 : Int)))
 (asSl1 r9 fun a22 l23 c24 => asI t34_18 fun n25 => 0 ≤ (n25 : Int) ∧ n25 < (l23 : Int) ∧ ∃ v26, cellH h20 (Addr.add a22 (Int.toNat n25 * 1)) = some v26 ∧
 asSl v26 fun a27 l28 c29 => ∃ (I30 : Value → Hp → Prop) (μ31 : Value → Hp → Nat), I30 (.int .i64 0) h20 ∧ ∀ t40_32 (d33 : Nat → Value) (h34 : Hp), I30 t40_32 h34 →
 asK .i64 t40_32 fun n35 => cond (decide ((n35 : Int) < (l28 : Int)))
 (asSl1 v26 fun a36 l37 c38 => asI t40_32 fun n39 => 0 ≤ (n39 : Int) ∧ n39 < (l37 : Int) ∧ ∃ v40, cellH h34 (Addr.add a36 (Int.toNat n39 * 1)) = some v40 ∧
 asSl1 v11 fun a41 l42 c43 => asI v40 fun n44 => 0 ≤ (n44 : Int) ∧ n44 < (l42 : Int) ∧ ∃ v45, cellH h34 (Addr.add a41 (Int.toNat n44 * 1)) = some v45 ∧
 asK .i64 v45 fun n46 => asSl1 v11 fun a47 l48 c49 => asI v40 fun n50 => 0 ≤ (n50 : Int) ∧ n50 < (l48 : Int) ∧ storeK1 h34 (Addr.add a47 (Int.toNat n50 * 1)) (.int .i64 (IntKind.wrap .i64 (n46 + 1))) fun h51 =>
 asK .i64 t40_32 fun n52 => I30 (.int .i64 (IntKind.wrap .i64 (n52 + 1))) h51 ∧ μ31 (.int .i64 (IntKind.wrap .i64 (n52 + 1))) h51 < μ31 t40_32 h34)
 (asK .i64 t34_18 fun n53 => I16 (.int .i64 (IntKind.wrap .i64 (n53 + 1))) h34 ∧ μ17 (.int .i64 (IntKind.wrap .i64 (n53 + 1))) h34 < μ17 t34_18 h20))
 (makeK Try.prog 27 h20 n_p n_p fun v54 h55 =>
 asSl v11 fun a56 l57 c58 => ∃ (I59 : Value → Value → Hp → Prop) (μ60 : Value → Value → Hp → Nat), I59 (.slice none 0 0) (.int .i64 0) h55 ∧ ∀ row_61 t56_62 (d63 : Nat → Value) (h64 : Hp), I59 row_61 t56_62 h64 →
 asK .i64 t56_62 fun n65 => cond (decide ((n65 : Int) < (l57 : Int)))
 (∃ J66 : Value → Hp → Prop,
 (asSl1 v11 fun a70 l71 c72 => asI t56_62 fun n73 => 0 ≤ (n73 : Int) ∧ n73 < (l71 : Int) ∧ ∃ v74, cellH h64 (Addr.add a70 (Int.toNat n73 * 1)) = some v74 ∧
 asK .i64 v74 fun n75 => ∃ J76 : Value → Hp → Prop,
 (cond (n75 == (0 : Int))
 (oneK t56_62 (appK Try.prog 27 (Array.push h64 (.cells (List.toArray [t56_62]) 3 (0, 0))) row_61 (.slice (some ⟨Array.size h64, 0, none⟩) 1 1) fun w80 h81 =>
 J76 w80 h81))
 (J76 row_61 h64)) ∧
 ∀ row_77 (d78 : Nat → Value) (h79 : Hp), J76 row_77 h79 →
 J66 row_77 h79) ∧
 ∀ row_67 (d68 : Nat → Value) (h69 : Hp), J66 row_67 h69 →
 asK .i64 t56_62 fun n82 => I59 row_67 (.int .i64 (IntKind.wrap .i64 (n82 + 1))) h69 ∧ μ60 row_67 (.int .i64 (IntKind.wrap .i64 (n82 + 1))) h69 < μ60 row_61 t56_62 h64)
 (∃ (I83 : Value → Value → Hp → Prop) (μ84 : Value → Value → Hp → Nat), I83 (.int .i64 0) row_61 h64 ∧ ∀ done_85 row_86 (d87 : Nat → Value) (h88 : Hp), I83 done_85 row_86 h88 →
 asSl row_86 fun a89 l90 c91 => cond (decide (((l90 : Int) : Int) > 0))
 (asK .i64 done_85 fun n92 => asSl1 row_86 fun a93 l94 c95 => 0 ≤ (0 : Int) ∧ 0 < (l94 : Int) ∧ ∃ v96, cellH h88 (Addr.add a93 (Int.toNat 0 * 1)) = some v96 ∧
 asSl1 r9 fun a97 l98 c99 => asI v96 fun n100 => 0 ≤ (n100 : Int) ∧ n100 < (l98 : Int) ∧ ∃ v101, cellH h88 (Addr.add a97 (Int.toNat n100 * 1)) = some v101 ∧
 asSl v101 fun a102 l103 c104 => ∃ (I105 : Value → Value → Hp → Prop) (μ106 : Value → Value → Hp → Nat), I105 row_86 (.int .i64 0) h88 ∧ ∀ row_107 t82_108 (d109 : Nat → Value) (h110 : Hp), I105 row_107 t82_108 h110 →
 asK .i64 t82_108 fun n111 => cond (decide ((n111 : Int) < (l103 : Int)))
 (∃ J112 : Value → Hp → Prop,
 (asSl1 v101 fun a116 l117 c118 => asI t82_108 fun n119 => 0 ≤ (n119 : Int) ∧ n119 < (l117 : Int) ∧ ∃ v120, cellH h110 (Addr.add a116 (Int.toNat n119 * 1)) = some v120 ∧
 asSl1 v54 fun a121 l122 c123 => asI v120 fun n124 => 0 ≤ (n124 : Int) ∧ n124 < (l122 : Int) ∧ ∃ v125, cellH h110 (Addr.add a121 (Int.toNat n124 * 1)) = some v125 ∧
 asSl1 row_107 fun a126 l127 c128 => 0 ≤ (0 : Int) ∧ 0 < (l127 : Int) ∧ ∃ v129, cellH h110 (Addr.add a126 (Int.toNat 0 * 1)) = some v129 ∧
 asSl1 v54 fun a130 l131 c132 => asI v129 fun n133 => 0 ≤ (n133 : Int) ∧ n133 < (l131 : Int) ∧ ∃ v134, cellH h110 (Addr.add a130 (Int.toNat n133 * 1)) = some v134 ∧
 asK .i64 v134 fun n135 => asK .i64 v125 fun n136 => asSl1 v54 fun a137 l138 c139 => asI v120 fun n140 => 0 ≤ (n140 : Int) ∧ n140 < (l138 : Int) ∧ storeK1 h110 (Addr.add a137 (Int.toNat n140 * 1)) (.int .i64 (if ((IntKind.wrap .i64 (n135 + 1)) : Int) > n136 then ((IntKind.wrap .i64 (n135 + 1)) : Int) else n136)) fun h141 =>
 asSl1 v11 fun a142 l143 c144 => asI v120 fun n145 => 0 ≤ (n145 : Int) ∧ n145 < (l143 : Int) ∧ ∃ v146, cellH h141 (Addr.add a142 (Int.toNat n145 * 1)) = some v146 ∧
 asK .i64 v146 fun n147 => asSl1 v11 fun a148 l149 c150 => asI v120 fun n151 => 0 ≤ (n151 : Int) ∧ n151 < (l149 : Int) ∧ storeK1 h141 (Addr.add a148 (Int.toNat n151 * 1)) (.int .i64 (IntKind.wrap .i64 (n147 - 1))) fun h152 =>
 asSl1 v11 fun a153 l154 c155 => asI v120 fun n156 => 0 ≤ (n156 : Int) ∧ n156 < (l154 : Int) ∧ ∃ v157, cellH h152 (Addr.add a153 (Int.toNat n156 * 1)) = some v157 ∧
 asK .i64 v157 fun n158 => ∃ J159 : Value → Hp → Prop,
 (cond (n158 == (0 : Int))
 (oneK v120 (appK Try.prog 27 (Array.push h152 (.cells (List.toArray [v120]) 3 (0, 0))) row_107 (.slice (some ⟨Array.size h152, 0, none⟩) 1 1) fun w163 h164 =>
 J159 w163 h164))
 (J159 row_107 h152)) ∧
 ∀ row_160 (d161 : Nat → Value) (h162 : Hp), J159 row_160 h162 →
 J112 row_160 h162) ∧
 ∀ row_113 (d114 : Nat → Value) (h115 : Hp), J112 row_113 h115 →
 asK .i64 t82_108 fun n165 => I105 row_113 (.int .i64 (IntKind.wrap .i64 (n165 + 1))) h115 ∧ μ106 row_113 (.int .i64 (IntKind.wrap .i64 (n165 + 1))) h115 < μ106 row_107 t82_108 h110)
 (asSl row_107 fun a166 l167 c168 => 0 ≤ (1 : Int) ∧ (1 : Int) ≤ (l167 : Int) ∧ (l167 : Int) ≤ (c168 : Int) ∧ I83 (.int .i64 (IntKind.wrap .i64 (n92 + 1))) (.slice (if c168 = Int.toNat 1 then a166 else Option.map (fun y => Addr.add y (Int.toNat 1 * 1)) a166) (Int.toNat (l167 : Int) - Int.toNat 1) (c168 - Int.toNat 1)) h110 ∧ μ84 (.int .i64 (IntKind.wrap .i64 (n92 + 1))) (.slice (if c168 = Int.toNat 1 then a166 else Option.map (fun y => Addr.add y (Int.toNat 1 * 1)) a166) (Int.toNat (l167 : Int) - Int.toNat 1) (c168 - Int.toNat 1)) h110 < μ84 done_85 row_86 h88))
 (asK .i64 done_85 fun n169 => asK .i64 n_p fun n170 => cond (decide ((n169 : Int) < n170))
 (2 = 2 ∧ (∀ u ∈ [(.int .i64 17), (.int .i64 (-1))], one u) ∧ storeK h88 ⟨Array.size h, 0, none⟩ [(.int .i64 17), (.int .i64 (-1))] fun h171 =>
 ∃ C172, cellsH h171 ⟨Array.size h, 0, none⟩ 2 C172 ∧ R (.tuple #[(.slice none 0 0), (.agg C172.toArray)]) h171)
 (2 = 2 ∧ (∀ u ∈ [(.int .i64 0), (.int .i64 0)], one u) ∧ storeK h88 ⟨Array.size h, 0, none⟩ [(.int .i64 0), (.int .i64 0)] fun h173 =>
 ∃ C174, cellsH h173 ⟨Array.size h, 0, none⟩ 2 C174 ∧ R (.tuple #[v54, (.agg C174.toArray)]) h173))))) X)) X
def A_ranks_Ranks : Ann :=
 (.two .leaf (.two (.two .leaf (.two .leaf (.two (.two (.plan [0, 1, 2]) .leaf) .leaf))) (.two .leaf (.two .leaf (.two (.two .leaf (.one (.loop [35, 36, 37, 10, 38, 39, 40, 41, 42, 43, 12, 44, 45, 46, 47, 48, 49, 50, 51, 34] [34] (.two .leaf (.two (.two .leaf .leaf) (.two (.one (.two .leaf (.two .leaf (.one (.loop [41, 42, 43, 12, 44, 45, 46, 47, 48, 49, 50, 40] [40] (.two .leaf (.two (.two .leaf .leaf) (.two (.one (.two .leaf .leaf)) .leaf)))))))) .leaf)))))) (.two .leaf (.two .leaf (.two (.two .leaf (.one (.loop [57, 58, 59, 60, 15, 16, 61, 62, 63, 64, 65, 66, 14, 67, 56] [14, 56] (.two .leaf (.two (.two .leaf .leaf) (.two (.join [58, 59, 60, 15, 16, 61, 62, 63, 64, 65, 66, 14] [14] (.one (.two .leaf (.two .leaf (.join [63, 64, 65, 66, 14] [14] (.two .leaf .leaf)))))) .leaf)))))) (.two .leaf (.two (.one (.loop [68, 69, 70, 73, 74, 17, 75, 76, 77, 78, 79, 80, 81, 82, 83, 84, 85, 19, 86, 87, 88, 89, 90, 91, 92, 93, 94, 95, 96, 97, 98, 99, 100, 101, 102, 103, 104, 105, 106, 107, 108, 109, 110, 111, 112, 113, 114, 115, 14, 116, 71, 72] [17, 14] (.two (.two .leaf (.two .leaf .leaf)) (.two (.one (.two .leaf (.two .leaf (.one (.loop [83, 84, 85, 19, 86, 87, 88, 89, 90, 91, 92, 93, 94, 95, 96, 97, 98, 99, 100, 101, 102, 103, 104, 105, 106, 107, 108, 109, 110, 111, 112, 113, 114, 115, 14, 116, 82] [14, 82] (.two .leaf (.two (.two .leaf .leaf) (.two (.join [84, 85, 19, 86, 87, 88, 89, 90, 91, 92, 93, 94, 95, 96, 97, 98, 99, 100, 101, 102, 103, 104, 105, 106, 107, 108, 109, 110, 111, 112, 113, 114, 115, 14] [14] (.one (.two .leaf (.two (.plan [0, 1, 2, 3, 4, 5, 6, 7, 8, 9, 10, 11, 12, 13, 14, 15]) (.two .leaf (.two .leaf (.join [112, 113, 114, 115, 14] [14] (.two .leaf .leaf)))))))) .leaf)))))))) .leaf)))) (.two (.two .leaf (.two (.two .leaf .leaf) .leaf)) (.two .leaf .leaf))))))))))))
theorem C_ranks_Ranks (ω : Amb) (n_p edges_p : Value) (h : Hp) (R : Value → Hp → Prop) (X : List PanicEntry → Hp → Prop) (hk : W_ranks_Ranks ω n_p edges_p h R X) : CallX Try.prog ω 8 [n_p, edges_p] h R X :=
 callX_of (an := A_ranks_Ranks) Try.func8 ((show fnX Try.prog ω A_ranks_Ranks Try.f8 [n_p, edges_p] h R X = W_ranks_Ranks ω n_p edges_p h R X by kernel_rfl) ▸ hk)

/-- pipewright/ranks.Round -/
abbrev n_ranks_Round : Nat := 9
def W_ranks_Round (ω : Amb) (n_p edges_p : Value) (h : Hp) (R : Value → Hp → Prop) (X : List PanicEntry → Hp → Prop) : Prop :=
 CallX Try.prog ω 7 [n_p, edges_p] (Array.push h (.cells #[(.int .i64 0), (.int .i64 0)] 25 (0, 0))) (fun r0 h1 =>
 asA r0 fun A2 => A2.size = 2 ∧ (∀ u ∈ A2.toList, one u) ∧ storeK (Array.push h1 (.cells #[(.int .i64 0), (.int .i64 0)] 25 (0, 0))) ⟨Array.size h1, 0, none⟩ A2.toList fun h3 =>
 ∃ v4, cellH h3 (Addr.add ⟨Array.size h1, 0, none⟩ 0) = some v4 ∧
 asK .i64 v4 fun n5 => cond (n5 != (0 : Int))
 (∃ C6, cellsH h3 ⟨Array.size h1, 0, none⟩ 2 C6 ∧
 C6.toArray.size = 2 ∧ (∀ u ∈ C6.toArray.toList, one u) ∧ storeK h3 ⟨Array.size h, 0, none⟩ C6.toArray.toList fun h7 =>
 ∃ C8, cellsH h7 ⟨Array.size h, 0, none⟩ 2 C8 ∧ R (.tuple #[(.slice none 0 0), (.agg C8.toArray)]) h7)
 (CallX Try.prog ω 14 [n_p, edges_p] h3 (fun r9 h10 =>
 asSl edges_p fun a11 l12 c13 => makeK Try.prog 22 h10 (.int .i64 (l12 : Int)) (.int .i64 (l12 : Int)) fun v14 h15 =>
 asSl edges_p fun a16 l17 c18 => ∃ (I19 : Value → Hp → Prop) (μ20 : Value → Hp → Nat), I19 (.int .i64 0) h15 ∧ ∀ t31_21 (d22 : Nat → Value) (h23 : Hp), I19 t31_21 h23 →
 asK .i64 t31_21 fun n24 => cond (decide ((n24 : Int) < (l17 : Int)))
 (asSl1 edges_p fun a25 l26 c27 => asI t31_21 fun n28 => 0 ≤ (n28 : Int) ∧ n28 < (l26 : Int) ∧ ∃ C29, cellsH h23 (Addr.add a25 (Int.toNat n28 * 2)) 2 C29 ∧
 C29.toArray.size = 2 ∧ (∀ u ∈ C29.toArray.toList, one u) ∧ storeK (Array.push h23 (.cells #[(.int .i64 0), (.int .i64 0)] 30 (0, 0))) ⟨Array.size h23, 0, none⟩ C29.toArray.toList fun h30 =>
 0 ≤ (1 : Int) ∧ 1 < ((2 : Nat) : Int) ∧ ∃ v31, cellH h30 (Addr.add ⟨Array.size h23, 0, none⟩ (Int.toNat 1 * 1)) = some v31 ∧
 0 ≤ (0 : Int) ∧ 0 < ((2 : Nat) : Int) ∧ ∃ v32, cellH h30 (Addr.add ⟨Array.size h23, 0, none⟩ (Int.toNat 0 * 1)) = some v32 ∧
 oneK v31 (oneK v32 (asSl1 v14 fun a33 l34 c35 => asI t31_21 fun n36 => 0 ≤ (n36 : Int) ∧ n36 < (l34 : Int) ∧ 2 = 2 ∧ (∀ u ∈ [v31, v32], one u) ∧ storeK h30 (Addr.add a33 (Int.toNat n36 * 2)) [v31, v32] fun h37 =>
 asK .i64 t31_21 fun n38 => I19 (.int .i64 (IntKind.wrap .i64 (n38 + 1))) h37 ∧ μ20 (.int .i64 (IntKind.wrap .i64 (n38 + 1))) h37 < μ20 t31_21 h23)))
 (CallX Try.prog ω 14 [n_p, v14] h23 (fun r39 h40 =>
 ∃ (I41 : Value → Value → Value → Hp → Prop) (μ42 : Value → Value → Value → Hp → Nat), I41 (.slice none 0 0) n_p (.int .i64 0) h40 ∧ ∀ out_43 most_44 t50_45 (d46 : Nat → Value) (h47 : Hp), I41 out_43 most_44 t50_45 h47 →
 asK .i64 t50_45 fun n48 => asK .i64 n_p fun n49 => cond (decide ((n48 : Int) < n49))
 (∃ J50 : Value → Value → Hp → Prop,
 (CallX Try.prog ω 15 [r9, r39, t50_45, most_44] h47 (fun r55 h56 =>
 asSl r55 fun a57 l58 c59 => ∃ J60 : Value → Value → Hp → Prop,
 (cond (decide (((l58 : Int) : Int) > 0))
 (asSl r55 fun a65 l66 c67 => J60 r55 (.int .i64 (IntKind.wrap .i64 ((l66 : Int) - 1))) h56)
 (J60 out_43 most_44 h56)) ∧
 ∀ out_61 most_62 (d63 : Nat → Value) (h64 : Hp), J60 out_61 most_62 h64 →
 J50 out_61 most_62 h64) X) ∧
 ∀ out_51 most_52 (d53 : Nat → Value) (h54 : Hp), J50 out_51 most_52 h54 →
 asK .i64 t50_45 fun n68 => I41 out_51 most_52 (.int .i64 (IntKind.wrap .i64 (n68 + 1))) h54 ∧ μ42 out_51 most_52 (.int .i64 (IntKind.wrap .i64 (n68 + 1))) h54 < μ42 out_43 most_44 t50_45 h47)
 (2 = 2 ∧ (∀ u ∈ [(.int .i64 0), (.int .i64 0)], one u) ∧ storeK h47 ⟨Array.size h, 0, none⟩ [(.int .i64 0), (.int .i64 0)] fun h69 =>
 ∃ C70, cellsH h69 ⟨Array.size h, 0, none⟩ 2 C70 ∧ R (.tuple #[out_43, (.agg C70.toArray)]) h69)) X)) X)) X
def A_ranks_Round : Ann :=
 (.two .leaf (.two (.two .leaf (.two .leaf (.two (.two (.plan [0, 1, 2]) .leaf) .leaf))) (.two .leaf (.two .leaf (.two (.two .leaf (.one (.loop [32, 33, 34, 35, 10, 9, 36, 37, 38, 39, 40, 41, 42, 43, 44, 31] [31] (.two .leaf (.two (.two .leaf .leaf) (.two (.one (.two .leaf .leaf)) .leaf)))))) (.two .leaf (.two .leaf (.two .leaf (.two (.two .leaf (.one (.loop [51, 52, 14, 53, 54, 55, 56, 57, 15, 58, 59, 60, 61, 62, 63, 64, 12, 13, 65, 50] [12, 13, 50] (.two .leaf (.two (.two .leaf .leaf) (.two (.join [52, 14, 53, 54, 55, 56, 57, 15, 58, 59, 60, 61, 62, 63, 64, 12, 13] [12, 13] (.one (.two .leaf (.two .leaf (.two .leaf (.join [61, 62, 63, 64, 12, 13] [12, 13] (.two .leaf .leaf))))))) .leaf)))))) (.two .leaf .leaf))))))))))
theorem C_ranks_Round (ω : Amb) (n_p edges_p : Value) (h : Hp) (R : Value → Hp → Prop) (X : List PanicEntry → Hp → Prop) (hk : W_ranks_Round ω n_p edges_p h R X) : CallX Try.prog ω 9 [n_p, edges_p] h R X :=
 callX_of (an := A_ranks_Round) Try.func9 ((show fnX Try.prog ω A_ranks_Round Try.f9 [n_p, edges_p] h R X = W_ranks_Round ω n_p edges_p h R X by kernel_rfl) ▸ hk)

/-- pipewright/pipewrightref.GraphFault -/
abbrev n_pipewrightref_GraphFault : Nat := 10
def W_pipewrightref_GraphFault (ω : Amb) (n_p edges_p : Value) (h : Hp) (R : Value → Hp → Prop) (X : List PanicEntry → Hp → Prop) : Prop :=
 ∃ β0 : Bool,
 (asK .i64 n_p fun n2 => cond (decide ((n2 : Int) < 0))
 (((.bool true) : Value) = .bool β0 ∧ (Array.push h (.cells #[(.int .i64 0), (.int .i64 0)] 25 (0, 0))) = (Array.push h (.cells #[(.int .i64 0), (.int .i64 0)] 25 (0, 0))))
 (asK .i64 n_p fun n3 => cond (decide ((n3 : Int) > 1000))
 (((.bool true) : Value) = .bool β0 ∧ (Array.push h (.cells #[(.int .i64 0), (.int .i64 0)] 25 (0, 0))) = (Array.push h (.cells #[(.int .i64 0), (.int .i64 0)] 25 (0, 0))))
 (asSl edges_p fun a4 l5 c6 => ((.bool (decide (((l5 : Int) : Int) > 20000))) : Value) = .bool β0 ∧ (Array.push h (.cells #[(.int .i64 0), (.int .i64 0)] 25 (0, 0))) = (Array.push h (.cells #[(.int .i64 0), (.int .i64 0)] 25 (0, 0)))))) ∧
 ∀ d1 : Nat → Value,
 cond β0
 (CallX Try.prog ω 16 [(.int .i64 8), (.int .i64 (-1))] (Array.push h (.cells #[(.int .i64 0), (.int .i64 0)] 25 (0, 0))) (fun r7 h8 =>
 asA r7 fun A9 => A9.size = 2 ∧ (∀ u ∈ A9.toList, one u) ∧ storeK h8 ⟨Array.size h, 0, none⟩ A9.toList fun h10 =>
 ∃ C11, cellsH h10 ⟨Array.size h, 0, none⟩ 2 C11 ∧ R (.agg C11.toArray) h10) X)
 (∃ (I12 : Value → Hp → Prop) (μ13 : Value → Hp → Nat), I12 (.int .i64 0) (Array.push h (.cells #[(.int .i64 0), (.int .i64 0)] 25 (0, 0))) ∧ ∀ i_14 (d15 : Nat → Value) (h16 : Hp), I12 i_14 h16 →
 asSl edges_p fun a17 l18 c19 => asK .i64 i_14 fun n20 => cond (decide ((n20 : Int) < (l18 : Int)))
 (asSl1 edges_p fun a21 l22 c23 => asI i_14 fun n24 => 0 ≤ (n24 : Int) ∧ n24 < (l22 : Int) ∧ 0 ≤ (0 : Int) ∧ 0 < ((2 : Nat) : Int) ∧ ∃ v25, cellH h16 (Addr.add (Addr.add a21 (Int.toNat n24 * 2)) (Int.toNat 0 * 1)) = some v25 ∧
 asSl1 edges_p fun a26 l27 c28 => asI i_14 fun n29 => 0 ≤ (n29 : Int) ∧ n29 < (l27 : Int) ∧ 0 ≤ (1 : Int) ∧ 1 < ((2 : Nat) : Int) ∧ ∃ v30, cellH h16 (Addr.add (Addr.add a26 (Int.toNat n29 * 2)) (Int.toNat 1 * 1)) = some v30 ∧
 ∃ β31 : Bool,
 (asK .i64 v25 fun n33 => cond (decide ((n33 : Int) < 0))
 (((.bool true) : Value) = .bool β31 ∧ h16 = h16)
 (asK .i64 v30 fun n34 => cond (decide ((n34 : Int) < 0))
 (((.bool true) : Value) = .bool β31 ∧ h16 = h16)
 (asK .i64 v25 fun n35 => asK .i64 n_p fun n36 => cond (decide ((n35 : Int) ≥ n36))
 (((.bool true) : Value) = .bool β31 ∧ h16 = h16)
 (asK .i64 v30 fun n37 => asK .i64 n_p fun n38 => ((.bool (decide ((n37 : Int) ≥ n38))) : Value) = .bool β31 ∧ h16 = h16)))) ∧
 ∀ d32 : Nat → Value,
 cond β31
 (CallX Try.prog ω 16 [(.int .i64 14), i_14] h16 (fun r39 h40 =>
 asA r39 fun A41 => A41.size = 2 ∧ (∀ u ∈ A41.toList, one u) ∧ storeK h40 ⟨Array.size h, 0, none⟩ A41.toList fun h42 =>
 ∃ C43, cellsH h42 ⟨Array.size h, 0, none⟩ 2 C43 ∧ R (.agg C43.toArray) h42) X)
 (asK .i64 i_14 fun n44 => I12 (.int .i64 (IntKind.wrap .i64 (n44 + 1))) h16 ∧ μ13 (.int .i64 (IntKind.wrap .i64 (n44 + 1))) h16 < μ13 i_14 h16))
 (2 = 2 ∧ (∀ u ∈ [(.int .i64 0), (.int .i64 0)], one u) ∧ storeK h16 ⟨Array.size h, 0, none⟩ [(.int .i64 0), (.int .i64 0)] fun h45 =>
 ∃ C46, cellsH h45 ⟨Array.size h, 0, none⟩ 2 C46 ∧ R (.agg C46.toArray) h45))
def A_pipewrightref_GraphFault : Ann :=
 (.two .leaf (.two (.two (.jb [8, 9, 10, 11, 12, 13, 14, 15, 16, 17, 18] 18 .leaf) (.two (.two .leaf .leaf) .leaf)) (.two (.two .leaf (.one (.loop [20, 21, 22, 23, 26, 27, 28, 29, 30, 31, 32, 33, 34, 35, 6, 7, 36, 37, 38, 39, 40, 41, 42, 43, 44, 45, 46, 47, 48, 49, 50, 51, 52, 53, 24, 25, 5] [5] (.two (.two .leaf (.two .leaf .leaf)) (.two (.one (.two (.plan [0, 1, 2, 3, 4, 5, 6, 7, 8, 9, 10, 11]) (.two (.jb [36, 37, 38, 39, 40, 41, 42, 43, 44, 45, 46, 47, 48, 49, 50, 51] 51 .leaf) (.two (.two .leaf .leaf) .leaf)))) .leaf))))) (.two .leaf .leaf))))
theorem C_pipewrightref_GraphFault (ω : Amb) (n_p edges_p : Value) (h : Hp) (R : Value → Hp → Prop) (X : List PanicEntry → Hp → Prop) (hk : W_pipewrightref_GraphFault ω n_p edges_p h R X) : CallX Try.prog ω 10 [n_p, edges_p] h R X :=
 callX_of (an := A_pipewrightref_GraphFault) Try.func10 ((show fnX Try.prog ω A_pipewrightref_GraphFault Try.f10 [n_p, edges_p] h R X = W_pipewrightref_GraphFault ω n_p edges_p h R X by kernel_rfl) ▸ hk)

/-- pipewright/pipewrightref.Ranks -/
abbrev n_pipewrightref_Ranks : Nat := 11
def W_pipewrightref_Ranks (ω : Amb) (n_p edges_p : Value) (h : Hp) (R : Value → Hp → Prop) (X : List PanicEntry → Hp → Prop) : Prop :=
 makeK Try.prog 27 h n_p n_p fun v0 h1 =>
 ∃ (I2 : Value → Hp → Prop) (μ3 : Value → Hp → Nat), I2 (.int .i64 0) h1 ∧ ∀ turn_4 (d5 : Nat → Value) (h6 : Hp), I2 turn_4 h6 →
 asK .i64 turn_4 fun n7 => asK .i64 n_p fun n8 => cond (decide ((n7 : Int) ≤ n8))
 (∃ (I9 : Value → Value → Hp → Prop) (μ10 : Value → Value → Hp → Nat), I9 (.bool false) (.int .i64 0) h6 ∧ ∀ more_11 i_12 (d13 : Nat → Value) (h14 : Hp), I9 more_11 i_12 h14 →
 asSl edges_p fun a15 l16 c17 => asK .i64 i_12 fun n18 => cond (decide ((n18 : Int) < (l16 : Int)))
 (∃ J19 : Value → Hp → Prop,
 (asSl1 edges_p fun a23 l24 c25 => asI i_12 fun n26 => 0 ≤ (n26 : Int) ∧ n26 < (l24 : Int) ∧ 0 ≤ (0 : Int) ∧ 0 < ((2 : Nat) : Int) ∧ ∃ v27, cellH h14 (Addr.add (Addr.add a23 (Int.toNat n26 * 2)) (Int.toNat 0 * 1)) = some v27 ∧
 asSl1 edges_p fun a28 l29 c30 => asI i_12 fun n31 => 0 ≤ (n31 : Int) ∧ n31 < (l29 : Int) ∧ 0 ≤ (1 : Int) ∧ 1 < ((2 : Nat) : Int) ∧ ∃ v32, cellH h14 (Addr.add (Addr.add a28 (Int.toNat n31 * 2)) (Int.toNat 1 * 1)) = some v32 ∧
 asSl1 v0 fun a33 l34 c35 => asI v32 fun n36 => 0 ≤ (n36 : Int) ∧ n36 < (l34 : Int) ∧ ∃ v37, cellH h14 (Addr.add a33 (Int.toNat n36 * 1)) = some v37 ∧
 asSl1 v0 fun a38 l39 c40 => asI v27 fun n41 => 0 ≤ (n41 : Int) ∧ n41 < (l39 : Int) ∧ ∃ v42, cellH h14 (Addr.add a38 (Int.toNat n41 * 1)) = some v42 ∧
 asK .i64 v42 fun n43 => asK .i64 v37 fun n44 => ∃ J45 : Value → Hp → Prop,
 (cond (decide ((n44 : Int) < (IntKind.wrap .i64 (n43 + 1))))
 (asSl1 v0 fun a49 l50 c51 => asI v27 fun n52 => 0 ≤ (n52 : Int) ∧ n52 < (l50 : Int) ∧ ∃ v53, cellH h14 (Addr.add a49 (Int.toNat n52 * 1)) = some v53 ∧
 asK .i64 v53 fun n54 => asSl1 v0 fun a55 l56 c57 => asI v32 fun n58 => 0 ≤ (n58 : Int) ∧ n58 < (l56 : Int) ∧ storeK1 h14 (Addr.add a55 (Int.toNat n58 * 1)) (.int .i64 (IntKind.wrap .i64 (n54 + 1))) fun h59 =>
 J45 (.bool true) h59)
 (J45 more_11 h14)) ∧
 ∀ more_46 (d47 : Nat → Value) (h48 : Hp), J45 more_46 h48 →
 J19 more_46 h48) ∧
 ∀ more_20 (d21 : Nat → Value) (h22 : Hp), J19 more_20 h22 →
 asK .i64 i_12 fun n60 => I9 more_20 (.int .i64 (IntKind.wrap .i64 (n60 + 1))) h22 ∧ μ10 more_20 (.int .i64 (IntKind.wrap .i64 (n60 + 1))) h22 < μ10 more_11 i_12 h14)
 (asB more_11 fun b61 => cond (!b61)
 (R (.tuple #[v0, (.bool true)]) h14)
 (asK .i64 turn_4 fun n62 => I2 (.int .i64 (IntKind.wrap .i64 (n62 + 1))) h14 ∧ μ3 (.int .i64 (IntKind.wrap .i64 (n62 + 1))) h14 < μ3 turn_4 h6)))
 (R (.tuple #[(.slice none 0 0), (.bool false)]) h6)
def A_pipewrightref_Ranks : Ann :=
 (.two .leaf (.two .leaf (.two (.two .leaf (.one (.loop [14, 15, 16, 8, 9, 19, 20, 21, 22, 25, 26, 27, 28, 29, 30, 31, 32, 33, 34, 10, 11, 35, 36, 37, 38, 39, 40, 41, 42, 43, 44, 45, 46, 47, 48, 49, 50, 51, 52, 23, 24, 53, 54, 55, 4, 5, 17, 18, 7] [7] (.two (.two .leaf (.two .leaf .leaf)) (.two (.one (.two .leaf (.two (.two .leaf (.one (.loop [19, 20, 21, 22, 25, 26, 27, 28, 29, 30, 31, 32, 33, 34, 10, 11, 35, 36, 37, 38, 39, 40, 41, 42, 43, 44, 45, 46, 47, 48, 49, 50, 51, 52, 8, 23, 24, 9] [8, 9] (.two (.two .leaf (.two .leaf .leaf)) (.two (.join [25, 26, 27, 28, 29, 30, 31, 32, 33, 34, 10, 11, 35, 36, 37, 38, 39, 40, 41, 42, 43, 44, 45, 46, 47, 48, 49, 50, 51, 52, 8] [8] (.one (.two (.plan [0, 1, 2, 3, 4, 5, 6, 7, 8, 9, 10, 11]) (.two (.plan [0, 1, 2, 3, 4, 5, 6, 7, 8, 9]) (.join [45, 46, 47, 48, 49, 50, 51, 52, 8] [8] (.two (.two .leaf .leaf) .leaf)))))) .leaf))))) (.two .leaf (.two (.two .leaf .leaf) .leaf))))) .leaf))))) (.two .leaf .leaf))))
theorem C_pipewrightref_Ranks (ω : Amb) (n_p edges_p : Value) (h : Hp) (R : Value → Hp → Prop) (X : List PanicEntry → Hp → Prop) (hk : W_pipewrightref_Ranks ω n_p edges_p h R X) : CallX Try.prog ω 11 [n_p, edges_p] h R X :=
 callX_of (an := A_pipewrightref_Ranks) Try.func11 ((show fnX Try.prog ω A_pipewrightref_Ranks Try.f11 [n_p, edges_p] h R X = W_pipewrightref_Ranks ω n_p edges_p h R X by kernel_rfl) ▸ hk)

/-- pipewright/pipewrightref.SameInts -/
abbrev n_pipewrightref_SameInts : Nat := 12
def W_pipewrightref_SameInts (ω : Amb) (a_p b_p : Value) (h : Hp) (R : Value → Hp → Prop) (X : List PanicEntry → Hp → Prop) : Prop :=
 asSl a_p fun a0 l1 c2 => asSl b_p fun a3 l4 c5 => cond ((l1 : Int) != ((l4 : Int) : Int))
 (R (.bool false) h)
 (∃ (I6 : Value → Hp → Prop) (μ7 : Value → Hp → Nat), I6 (.int .i64 0) h ∧ ∀ i_8 (d9 : Nat → Value) (h10 : Hp), I6 i_8 h10 →
 asSl a_p fun a11 l12 c13 => asK .i64 i_8 fun n14 => cond (decide ((n14 : Int) < (l12 : Int)))
 (asSl1 a_p fun a15 l16 c17 => asI i_8 fun n18 => 0 ≤ (n18 : Int) ∧ n18 < (l16 : Int) ∧ ∃ v19, cellH h10 (Addr.add a15 (Int.toNat n18 * 1)) = some v19 ∧
 asSl1 b_p fun a20 l21 c22 => asI i_8 fun n23 => 0 ≤ (n23 : Int) ∧ n23 < (l21 : Int) ∧ ∃ v24, cellH h10 (Addr.add a20 (Int.toNat n23 * 1)) = some v24 ∧
 asK .i64 v19 fun n25 => asK .i64 v24 fun n26 => cond (n25 != (n26 : Int))
 (R (.bool false) h10)
 (asK .i64 i_8 fun n27 => I6 (.int .i64 (IntKind.wrap .i64 (n27 + 1))) h10 ∧ μ7 (.int .i64 (IntKind.wrap .i64 (n27 + 1))) h10 < μ7 i_8 h10))
 (R (.bool true) h10))
def A_pipewrightref_SameInts : Ann :=
 (.two .leaf (.two (.two .leaf (.two (.two .leaf .leaf) .leaf)) (.two (.two .leaf (.one (.loop [11, 12, 13, 14, 17, 18, 19, 20, 21, 22, 23, 24, 25, 4, 15, 16, 5] [5] (.two (.two .leaf (.two .leaf .leaf)) (.two (.one (.two (.plan [0, 1, 2, 3, 4, 5, 6, 7, 8]) (.two (.two .leaf .leaf) .leaf))) .leaf))))) (.two .leaf .leaf))))
theorem C_pipewrightref_SameInts (ω : Amb) (a_p b_p : Value) (h : Hp) (R : Value → Hp → Prop) (X : List PanicEntry → Hp → Prop) (hk : W_pipewrightref_SameInts ω a_p b_p h R X) : CallX Try.prog ω 12 [a_p, b_p] h R X :=
 callX_of (an := A_pipewrightref_SameInts) Try.func12 ((show fnX Try.prog ω A_pipewrightref_SameInts Try.f12 [a_p, b_p] h R X = W_pipewrightref_SameInts ω a_p b_p h R X by kernel_rfl) ▸ hk)

/-- pipewright/pipewrightref.Round -/
abbrev n_pipewrightref_Round : Nat := 13
def W_pipewrightref_Round (ω : Amb) (n_p edges_p : Value) (h : Hp) (R : Value → Hp → Prop) (X : List PanicEntry → Hp → Prop) : Prop :=
 ∃ (I0 : Value → Value → Value → Hp → Prop) (μ1 : Value → Value → Value → Hp → Nat), I0 (.int .i64 1073741824) (.int .i64 (-1)) (.int .i64 0) h ∧ ∀ best_2 from_3 v_4 (d5 : Nat → Value) (h6 : Hp), I0 best_2 from_3 v_4 h6 →
 asK .i64 v_4 fun n7 => asK .i64 n_p fun n8 => cond (decide ((n7 : Int) < n8))
 (∃ J9 : Value → Value → Hp → Prop,
 (CallX Try.prog ω 17 [n_p, edges_p, v_4, v_4] h6 (fun r14 h15 =>
 asSl1 r14 fun a16 l17 c18 => asI v_4 fun n19 => 0 ≤ (n19 : Int) ∧ n19 < (l17 : Int) ∧ ∃ v20, cellH h15 (Addr.add a16 (Int.toNat n19 * 1)) = some v20 ∧
 asK .i64 v20 fun n21 => asK .i64 best_2 fun n22 => ∃ J23 : Value → Value → Hp → Prop,
 (cond (decide ((n21 : Int) < n22))
 (J23 v20 v_4 h15)
 (J23 best_2 from_3 h15)) ∧
 ∀ best_24 from_25 (d26 : Nat → Value) (h27 : Hp), J23 best_24 from_25 h27 →
 J9 best_24 from_25 h27) X) ∧
 ∀ best_10 from_11 (d12 : Nat → Value) (h13 : Hp), J9 best_10 from_11 h13 →
 asK .i64 v_4 fun n28 => I0 best_10 from_11 (.int .i64 (IntKind.wrap .i64 (n28 + 1))) h13 ∧ μ1 best_10 from_11 (.int .i64 (IntKind.wrap .i64 (n28 + 1))) h13 < μ1 best_2 from_3 v_4 h6)
 (asK .i64 from_3 fun n29 => cond (decide ((n29 : Int) < 0))
 (R (.slice none 0 0) h6)
 (CallX Try.prog ω 17 [n_p, edges_p, from_3, from_3] h6 (fun r30 h31 =>
 oneK from_3 (∃ (I32 : Value → Value → Hp → Prop) (μ33 : Value → Value → Hp → Nat), I32 from_3 (.slice (some ⟨Array.size h31, 0, none⟩) 1 1) (Array.push h31 (.cells (List.toArray [from_3]) 3 (0, 0))) ∧ ∀ at_34 out_35 (d36 : Nat → Value) (h37 : Hp), I32 at_34 out_35 h37 →
 asSl out_35 fun a38 l39 c40 => asK .i64 best_2 fun n41 => cond (decide (((l39 : Int) : Int) < n41))
 (∃ (I42 : Value → Value → Hp → Prop) (μ43 : Value → Value → Hp → Nat), I42 n_p (.int .i64 0) h37 ∧ ∀ next_44 i_45 (d46 : Nat → Value) (h47 : Hp), I42 next_44 i_45 h47 →
 asSl edges_p fun a48 l49 c50 => asK .i64 i_45 fun n51 => cond (decide ((n51 : Int) < (l49 : Int)))
 (∃ J52 : Value → Hp → Prop,
 (asSl1 edges_p fun a56 l57 c58 => asI i_45 fun n59 => 0 ≤ (n59 : Int) ∧ n59 < (l57 : Int) ∧ 0 ≤ (1 : Int) ∧ 1 < ((2 : Nat) : Int) ∧ ∃ v60, cellH h47 (Addr.add (Addr.add a56 (Int.toNat n59 * 2)) (Int.toNat 1 * 1)) = some v60 ∧
 ∃ β61 : Bool,
 (asSl1 edges_p fun a63 l64 c65 => asI i_45 fun n66 => 0 ≤ (n66 : Int) ∧ n66 < (l64 : Int) ∧ 0 ≤ (0 : Int) ∧ 0 < ((2 : Nat) : Int) ∧ ∃ v67, cellH h47 (Addr.add (Addr.add a63 (Int.toNat n66 * 2)) (Int.toNat 0 * 1)) = some v67 ∧
 asK .i64 v67 fun n68 => asK .i64 at_34 fun n69 => cond (n68 == (n69 : Int))
 (asK .i64 v60 fun n70 => asK .i64 from_3 fun n71 => cond (decide ((n70 : Int) > n71))
 (asSl1 r30 fun a72 l73 c74 => asI v60 fun n75 => 0 ≤ (n75 : Int) ∧ n75 < (l73 : Int) ∧ ∃ v76, cellH h47 (Addr.add a72 (Int.toNat n75 * 1)) = some v76 ∧
 asSl out_35 fun a77 l78 c79 => asK .i64 best_2 fun n80 => asK .i64 v76 fun n81 => cond (n81 == ((IntKind.wrap .i64 (n80 - (l78 : Int))) : Int))
 (asK .i64 v60 fun n82 => asK .i64 next_44 fun n83 => ((.bool (decide ((n82 : Int) < n83))) : Value) = .bool β61 ∧ h47 = h47)
 (((.bool false) : Value) = .bool β61 ∧ h47 = h47))
 (((.bool false) : Value) = .bool β61 ∧ h47 = h47))
 (((.bool false) : Value) = .bool β61 ∧ h47 = h47)) ∧
 ∀ d62 : Nat → Value,
 ∃ J84 : Value → Hp → Prop,
 (cond β61
 (J84 v60 h47)
 (J84 next_44 h47)) ∧
 ∀ next_85 (d86 : Nat → Value) (h87 : Hp), J84 next_85 h87 →
 J52 next_85 h87) ∧
 ∀ next_53 (d54 : Nat → Value) (h55 : Hp), J52 next_53 h55 →
 asK .i64 i_45 fun n88 => I42 next_53 (.int .i64 (IntKind.wrap .i64 (n88 + 1))) h55 ∧ μ43 next_53 (.int .i64 (IntKind.wrap .i64 (n88 + 1))) h55 < μ43 next_44 i_45 h47)
 (oneK next_44 (appK Try.prog 27 (Array.push h47 (.cells (List.toArray [next_44]) 3 (0, 0))) out_35 (.slice (some ⟨Array.size h47, 0, none⟩) 1 1) fun w89 h90 =>
 I32 next_44 w89 h90 ∧ μ33 next_44 w89 h90 < μ33 at_34 out_35 h37)))
 (R out_35 h37))) X))
def A_pipewrightref_Round : Ann :=
 (.two .leaf (.two .leaf (.two (.two .leaf (.one (.loop [15, 16, 17, 20, 21, 22, 23, 24, 25, 26, 27, 8, 28, 29, 30, 31, 32, 5, 6, 18, 19, 7] [5, 6, 7] (.two (.two .leaf (.two .leaf .leaf)) (.two (.join [20, 21, 22, 23, 24, 25, 26, 27, 8, 28, 29, 30, 31, 32, 5, 6] [5, 6] (.one (.two .leaf (.two .leaf (.join [31, 32, 5, 6] [5, 6] (.two .leaf .leaf)))))) .leaf))))) (.two (.two .leaf (.two (.two .leaf .leaf) .leaf)) (.two .leaf (.two .leaf (.two (.two .leaf (.one (.loop [43, 44, 45, 46, 47, 12, 13, 48, 49, 50, 51, 54, 55, 56, 57, 58, 14, 59, 60, 61, 62, 63, 64, 65, 66, 67, 68, 69, 70, 71, 72, 73, 74, 75, 76, 77, 78, 79, 80, 81, 82, 83, 84, 85, 86, 87, 52, 53, 88, 11, 89, 90, 91, 92, 10] [11, 10] (.two (.two .leaf (.two .leaf .leaf)) (.one (.two .leaf (.two (.two .leaf (.one (.loop [48, 49, 50, 51, 54, 55, 56, 57, 58, 14, 59, 60, 61, 62, 63, 64, 65, 66, 67, 68, 69, 70, 71, 72, 73, 74, 75, 76, 77, 78, 79, 80, 81, 82, 83, 84, 85, 86, 87, 12, 52, 53, 13] [12, 13] (.two (.two .leaf (.two .leaf .leaf)) (.two (.join [54, 55, 56, 57, 58, 14, 59, 60, 61, 62, 63, 64, 65, 66, 67, 68, 69, 70, 71, 72, 73, 74, 75, 76, 77, 78, 79, 80, 81, 82, 83, 84, 85, 86, 87, 12] [12] (.one (.two .leaf (.two (.jb [59, 60, 61, 62, 63, 64, 65, 66, 67, 68, 69, 70, 71, 72, 73, 74, 75, 76, 77, 78, 79, 80, 81, 82, 83, 84, 85, 86] 86 .leaf) (.join [87, 12] [12] (.two .leaf .leaf)))))) .leaf))))) (.two .leaf .leaf)))))))) (.two .leaf .leaf))))))))
theorem C_pipewrightref_Round (ω : Amb) (n_p edges_p : Value) (h : Hp) (R : Value → Hp → Prop) (X : List PanicEntry → Hp → Prop) (hk : W_pipewrightref_Round ω n_p edges_p h R X) : CallX Try.prog ω 13 [n_p, edges_p] h R X :=
 callX_of (an := A_pipewrightref_Round) Try.func13 ((show fnX Try.prog ω A_pipewrightref_Round Try.f13 [n_p, edges_p] h R X = W_pipewrightref_Round ω n_p edges_p h R X by kernel_rfl) ▸ hk)

/-- pipewright/ranks.next -/
abbrev n_ranks_next : Nat := 14
def W_ranks_next (ω : Amb) (n_p edges_p : Value) (h : Hp) (R : Value → Hp → Prop) (X : List PanicEntry → Hp → Prop) : Prop :=
 makeK Try.prog 41 h n_p n_p fun v0 h1 =>
 asSl edges_p fun a2 l3 c4 => ∃ (I5 : Value → Hp → Prop) (μ6 : Value → Hp → Nat), I5 (.int .i64 0) h1 ∧ ∀ t13_7 (d8 : Nat → Value) (h9 : Hp), I5 t13_7 h9 →
 asK .i64 t13_7 fun n10 => cond (decide ((n10 : Int) < (l3 : Int)))
 (asSl1 edges_p fun a11 l12 c13 => asI t13_7 fun n14 => 0 ≤ (n14 : Int) ∧ n14 < (l12 : Int) ∧ ∃ C15, cellsH h9 (Addr.add a11 (Int.toNat n14 * 2)) 2 C15 ∧
 C15.toArray.size = 2 ∧ (∀ u ∈ C15.toArray.toList, one u) ∧ storeK (Array.push h9 (.cells #[(.int .i64 0), (.int .i64 0)] 30 (0, 0))) ⟨Array.size h9, 0, none⟩ C15.toArray.toList fun h16 =>
 0 ≤ (0 : Int) ∧ 0 < ((2 : Nat) : Int) ∧ ∃ v17, cellH h16 (Addr.add ⟨Array.size h9, 0, none⟩ (Int.toNat 0 * 1)) = some v17 ∧
 0 ≤ (0 : Int) ∧ 0 < ((2 : Nat) : Int) ∧ ∃ v18, cellH h16 (Addr.add ⟨Array.size h9, 0, none⟩ (Int.toNat 0 * 1)) = some v18 ∧
 asSl1 v0 fun a19 l20 c21 => asI v18 fun n22 => 0 ≤ (n22 : Int) ∧ n22 < (l20 : Int) ∧ ∃ v23, cellH h16 (Addr.add a19 (Int.toNat n22 * 1)) = some v23 ∧
 0 ≤ (1 : Int) ∧ 1 < ((2 : Nat) : Int) ∧ ∃ v24, cellH h16 (Addr.add ⟨Array.size h9, 0, none⟩ (Int.toNat 1 * 1)) = some v24 ∧
 oneK v24 (cellH (Array.push h16 (.cells (List.toArray [v24]) 3 (0, 0))) (Addr.add a19 (Int.toNat n22 * 1)) = some v23 ∧ cellH (Array.push h16 (.cells (List.toArray [v24]) 3 (0, 0))) (Addr.add ⟨Array.size h9, 0, none⟩ (Int.toNat 0 * 1)) = some v18 ∧ cellH (Array.push h16 (.cells (List.toArray [v24]) 3 (0, 0))) (Addr.add ⟨Array.size h9, 0, none⟩ (Int.toNat 0 * 1)) = some v17 ∧ appK Try.prog 27 (Array.push h16 (.cells (List.toArray [v24]) 3 (0, 0))) v23 (.slice (some ⟨Array.size h16, 0, none⟩) 1 1) fun w25 h26 =>
 cellH h26 (Addr.add ⟨Array.size h9, 0, none⟩ (Int.toNat 0 * 1)) = some v17 ∧ asSl1 v0 fun a27 l28 c29 => asI v17 fun n30 => 0 ≤ (n30 : Int) ∧ n30 < (l28 : Int) ∧ oneK w25 (storeK1 h26 (Addr.add a27 (Int.toNat n30 * 1)) w25 fun h31 =>
 asK .i64 t13_7 fun n32 => I5 (.int .i64 (IntKind.wrap .i64 (n32 + 1))) h31 ∧ μ6 (.int .i64 (IntKind.wrap .i64 (n32 + 1))) h31 < μ6 t13_7 h9)))
 (asSl v0 fun a33 l34 c35 => ∃ (I36 : Value → Hp → Prop) (μ37 : Value → Hp → Nat), I36 (.int .i64 0) h9 ∧ ∀ t33_38 (d39 : Nat → Value) (h40 : Hp), I36 t33_38 h40 →
 asK .i64 t33_38 fun n41 => cond (decide ((n41 : Int) < (l34 : Int)))
 (asSl1 v0 fun a42 l43 c44 => asI t33_38 fun n45 => 0 ≤ (n45 : Int) ∧ n45 < (l43 : Int) ∧ ∃ v46, cellH h40 (Addr.add a42 (Int.toNat n45 * 1)) = some v46 ∧
 CallX Try.prog ω 18 [v46] h40 (fun r47 h48 =>
 asSl1 v0 fun a49 l50 c51 => asI t33_38 fun n52 => 0 ≤ (n52 : Int) ∧ n52 < (l50 : Int) ∧ ∃ v53, cellH h48 (Addr.add a49 (Int.toNat n52 * 1)) = some v53 ∧
 CallX Try.prog ω 19 [v53] h48 (fun r54 h55 =>
 asSl1 v0 fun a56 l57 c58 => asI t33_38 fun n59 => 0 ≤ (n59 : Int) ∧ n59 < (l57 : Int) ∧ oneK r54 (storeK1 h55 (Addr.add a56 (Int.toNat n59 * 1)) r54 fun h60 =>
 asK .i64 t33_38 fun n61 => I36 (.int .i64 (IntKind.wrap .i64 (n61 + 1))) h60 ∧ μ37 (.int .i64 (IntKind.wrap .i64 (n61 + 1))) h60 < μ37 t33_38 h40)) X) X)
 (R v0 h40))
def A_ranks_next : Ann :=
 (.two .leaf (.two .leaf (.two (.two .leaf (.one (.loop [14, 15, 16, 7, 17, 18, 19, 20, 21, 22, 23, 24, 25, 26, 27, 28, 29, 30, 13] [13] (.two .leaf (.two (.two .leaf .leaf) (.two (.one (.two .leaf (.plan [0, 1, 2, 3, 4, 5, 6, 7, 8, 9, 10, 11, 12, 13]))) .leaf)))))) (.two (.two .leaf (.one (.loop [34, 35, 8, 36, 37, 38, 39, 40, 41, 42, 43, 44, 45, 46, 47, 48, 49, 33] [33] (.two .leaf (.two (.two .leaf .leaf) (.two (.one (.two .leaf (.two .leaf .leaf))) .leaf)))))) (.two .leaf .leaf)))))
theorem C_ranks_next (ω : Amb) (n_p edges_p : Value) (h : Hp) (R : Value → Hp → Prop) (X : List PanicEntry → Hp → Prop) (hk : W_ranks_next ω n_p edges_p h R X) : CallX Try.prog ω 14 [n_p, edges_p] h R X :=
 callX_of (an := A_ranks_next) Try.func14 ((show fnX Try.prog ω A_ranks_next Try.f14 [n_p, edges_p] h R X = W_ranks_next ω n_p edges_p h R X by kernel_rfl) ▸ hk)

/-- pipewright/ranks.round -/
abbrev n_ranks_round : Nat := 15
def W_ranks_round (ω : Amb) (to_p from_p least_p most_p : Value) (h : Hp) (R : Value → Hp → Prop) (X : List PanicEntry → Hp → Prop) : Prop :=
 ∃ v0, cellH (Array.push (Array.push h (.cells (Value.cells to_p) 41 (0, 0))) (.cells (Value.cells least_p) 3 (0, 0))) ⟨Array.size (Array.push h (.cells (Value.cells to_p) 41 (0, 0))), 0, none⟩ = some v0 ∧
 CallX Try.prog ω 20 [from_p, v0] (Array.push (Array.push h (.cells (Value.cells to_p) 41 (0, 0))) (.cells (Value.cells least_p) 3 (0, 0))) (fun r1 h2 =>
 oneK r1 (storeK1 (Array.push h2 (.cells #[(.slice none 0 0)] 27 (0, 0))) ⟨Array.size h2, 0, none⟩ r1 fun h3 =>
 ∃ (I4 : Value → Hp → Prop) (μ5 : Value → Hp → Nat), I4 (.int .i64 0) h3 ∧ ∀ t19_6 (d7 : Nat → Value) (h8 : Hp), I4 t19_6 h8 →
 asK .i64 t19_6 fun n9 => asK .i64 most_p fun n10 => cond (decide ((n9 : Int) < n10))
 (∃ v11, cellH h8 ⟨Array.size (Array.push h (.cells (Value.cells to_p) 41 (0, 0))), 0, none⟩ = some v11 ∧
 CallX Try.prog ω 21 [v11, t19_6, (.pointer (some ⟨Array.size h, 0, none⟩)), (.pointer (some ⟨Array.size (Array.push h (.cells (Value.cells to_p) 41 (0, 0))), 0, none⟩)), (.pointer (some ⟨Array.size h2, 0, none⟩))] h8 (fun r12 h13 =>
 asK .i64 r12 fun n14 => cond (decide ((n14 : Int) < 0))
 (asK .i64 t19_6 fun n15 => I4 (.int .i64 (IntKind.wrap .i64 (n15 + 1))) h13 ∧ μ5 (.int .i64 (IntKind.wrap .i64 (n15 + 1))) h13 < μ5 t19_6 h8)
 (∃ v16, cellH h13 ⟨Array.size (Array.push h (.cells (Value.cells to_p) 41 (0, 0))), 0, none⟩ = some v16 ∧
 oneK v16 (∃ v17, cellH (Array.push h13 (.cells (List.toArray [v16]) 3 (0, 0))) ⟨Array.size (Array.push h (.cells (Value.cells to_p) 41 (0, 0))), 0, none⟩ = some v17 ∧
 ∃ (I18 : Value → Value → Value → Hp → Prop) (μ19 : Value → Value → Value → Hp → Nat), I18 v17 (.slice (some ⟨Array.size h13, 0, none⟩) 1 1) t19_6 (Array.push h13 (.cells (List.toArray [v16]) 3 (0, 0))) ∧ ∀ v_20 out_21 n_22 (d23 : Nat → Value) (h24 : Hp), I18 v_20 out_21 n_22 h24 →
 asK .i64 n_22 fun n25 => cond (decide ((n25 : Int) > 0))
 (∃ v26, cellH h24 ⟨Array.size h, 0, none⟩ = some v26 ∧
 asSl1 v26 fun a27 l28 c29 => asI v_20 fun n30 => 0 ≤ (n30 : Int) ∧ n30 < (l28 : Int) ∧ ∃ v31, cellH h24 (Addr.add a27 (Int.toNat n30 * 1)) = some v31 ∧
 CallX Try.prog ω 21 [v_20, n_22, (.pointer (some ⟨Array.size h, 0, none⟩)), (.pointer (some ⟨Array.size (Array.push h (.cells (Value.cells to_p) 41 (0, 0))), 0, none⟩)), (.pointer (some ⟨Array.size h2, 0, none⟩))] h24 (fun r32 h33 =>
 cellH h33 (Addr.add a27 (Int.toNat n30 * 1)) = some v31 ∧ cellH h33 ⟨Array.size h, 0, none⟩ = some v26 ∧ asSl1 v31 fun a34 l35 c36 => asI r32 fun n37 => 0 ≤ (n37 : Int) ∧ n37 < (l35 : Int) ∧ ∃ v38, cellH h33 (Addr.add a34 (Int.toNat n37 * 1)) = some v38 ∧
 oneK v38 (appK Try.prog 27 (Array.push h33 (.cells (List.toArray [v38]) 3 (0, 0))) out_21 (.slice (some ⟨Array.size h33, 0, none⟩) 1 1) fun w39 h40 =>
 asK .i64 n_22 fun n41 => I18 v38 w39 (.int .i64 (IntKind.wrap .i64 (n41 - 1))) h40 ∧ μ19 v38 w39 (.int .i64 (IntKind.wrap .i64 (n41 - 1))) h40 < μ19 v_20 out_21 n_22 h24)) X)
 (R out_21 h24)))) X)
 (R (.slice none 0 0) h8))) X
def A_ranks_round : Ann :=
 (.two .leaf (.two .leaf (.two .leaf (.two (.two .leaf (.one (.loop [20, 21, 11, 22, 23, 24, 25, 26, 27, 28, 12, 29, 13, 30, 31, 34, 35, 36, 37, 38, 39, 40, 41, 42, 43, 44, 45, 46, 47, 32, 33, 48, 8, 49, 19] [19] (.two .leaf (.two (.two .leaf .leaf) (.two (.one (.two .leaf (.two (.two .leaf (.two .leaf .leaf)) (.two .leaf (.two (.two .leaf (.one (.loop [30, 31, 34, 35, 36, 37, 38, 39, 40, 41, 42, 43, 13, 44, 45, 46, 47, 12, 32, 33, 11] [13, 12, 11] (.two (.two .leaf (.two .leaf .leaf)) (.two (.one (.two (.plan [0, 1, 2, 3, 4, 5, 6, 7, 8, 9, 10]) .leaf)) .leaf))))) (.two .leaf .leaf)))))) .leaf)))))) (.two .leaf .leaf)))))
theorem C_ranks_round (ω : Amb) (to_p from_p least_p most_p : Value) (h : Hp) (R : Value → Hp → Prop) (X : List PanicEntry → Hp → Prop) (hk : W_ranks_round ω to_p from_p least_p most_p h R X) : CallX Try.prog ω 15 [to_p, from_p, least_p, most_p] h R X :=
 callX_of (an := A_ranks_round) Try.func15 ((show fnX Try.prog ω A_ranks_round Try.f15 [to_p, from_p, least_p, most_p] h R X = W_ranks_round ω to_p from_p least_p most_p h R X by kernel_rfl) ▸ hk)

/-- pipewright/pipewrightref.F -/
abbrev n_pipewrightref_F : Nat := 16
def W_pipewrightref_F (ω : Amb) (code_p at_p : Value) (h : Hp) (R : Value → Hp → Prop) (X : List PanicEntry → Hp → Prop) : Prop :=
 oneK code_p (oneK at_p (2 = 2 ∧ (∀ u ∈ [code_p, at_p], one u) ∧ storeK (Array.push h (.cells #[(.int .i64 0), (.int .i64 0)] 25 (0, 0))) ⟨Array.size h, 0, none⟩ [code_p, at_p] fun h0 =>
 ∃ C1, cellsH h0 ⟨Array.size h, 0, none⟩ 2 C1 ∧ R (.agg C1.toArray) h0))
def A_pipewrightref_F : Ann :=
 (.two .leaf (.two .leaf .leaf))
theorem C_pipewrightref_F (ω : Amb) (code_p at_p : Value) (h : Hp) (R : Value → Hp → Prop) (X : List PanicEntry → Hp → Prop) (hk : W_pipewrightref_F ω code_p at_p h R X) : CallX Try.prog ω 16 [code_p, at_p] h R X :=
 callX_of (an := A_pipewrightref_F) Try.func16 ((show fnX Try.prog ω A_pipewrightref_F Try.f16 [code_p, at_p] h R X = W_pipewrightref_F ω code_p at_p h R X by kernel_rfl) ▸ hk)

/-- pipewright/pipewrightref.Shortest -/
abbrev n_pipewrightref_Shortest : Nat := 17
def W_pipewrightref_Shortest (ω : Amb) (n_p edges_p to_p least_p : Value) (h : Hp) (R : Value → Hp → Prop) (X : List PanicEntry → Hp → Prop) : Prop :=
 makeK Try.prog 27 h n_p n_p fun v0 h1 =>
 ∃ (I2 : Value → Hp → Prop) (μ3 : Value → Hp → Nat), I2 (.int .i64 0) h1 ∧ ∀ i_4 (d5 : Nat → Value) (h6 : Hp), I2 i_4 h6 →
 asK .i64 i_4 fun n7 => asK .i64 n_p fun n8 => cond (decide ((n7 : Int) < n8))
 (asSl1 v0 fun a9 l10 c11 => asI i_4 fun n12 => 0 ≤ (n12 : Int) ∧ n12 < (l10 : Int) ∧ storeK1 h6 (Addr.add a9 (Int.toNat n12 * 1)) (.int .i64 1073741824) fun h13 =>
 asK .i64 i_4 fun n14 => I2 (.int .i64 (IntKind.wrap .i64 (n14 + 1))) h13 ∧ μ3 (.int .i64 (IntKind.wrap .i64 (n14 + 1))) h13 < μ3 i_4 h6)
 (∃ (I15 : Value → Hp → Prop) (μ16 : Value → Hp → Nat), I15 (.bool true) h6 ∧ ∀ more_17 (d18 : Nat → Value) (h19 : Hp), I15 more_17 h19 →
 asB more_17 fun b20 => cond b20
 (∃ (I21 : Value → Value → Hp → Prop) (μ22 : Value → Value → Hp → Nat), I21 (.bool false) (.int .i64 0) h19 ∧ ∀ more_23 i_24 (d25 : Nat → Value) (h26 : Hp), I21 more_23 i_24 h26 →
 asSl edges_p fun a27 l28 c29 => asK .i64 i_24 fun n30 => cond (decide ((n30 : Int) < (l28 : Int)))
 (∃ J31 : Value → Hp → Prop,
 (asSl1 edges_p fun a35 l36 c37 => asI i_24 fun n38 => 0 ≤ (n38 : Int) ∧ n38 < (l36 : Int) ∧ 0 ≤ (0 : Int) ∧ 0 < ((2 : Nat) : Int) ∧ ∃ v39, cellH h26 (Addr.add (Addr.add a35 (Int.toNat n38 * 2)) (Int.toNat 0 * 1)) = some v39 ∧
 asSl1 edges_p fun a40 l41 c42 => asI i_24 fun n43 => 0 ≤ (n43 : Int) ∧ n43 < (l41 : Int) ∧ 0 ≤ (1 : Int) ∧ 1 < ((2 : Nat) : Int) ∧ ∃ v44, cellH h26 (Addr.add (Addr.add a40 (Int.toNat n43 * 2)) (Int.toNat 1 * 1)) = some v44 ∧
 ∃ β45 : Bool,
 (asK .i64 v39 fun n47 => asK .i64 least_p fun n48 => cond (decide ((n47 : Int) < n48))
 (((.bool true) : Value) = .bool β45 ∧ h26 = h26)
 (asK .i64 v44 fun n49 => asK .i64 least_p fun n50 => ((.bool (decide ((n49 : Int) < n50))) : Value) = .bool β45 ∧ h26 = h26)) ∧
 ∀ d46 : Nat → Value,
 cond β45
 (J31 more_23 h26)
 (asK .i64 v44 fun n51 => asK .i64 to_p fun n52 => ∃ J53 : Value → Hp → Prop,
 (cond (n51 == (n52 : Int))
 (J53 (.int .i64 1) h26)
 (asSl1 v0 fun a57 l58 c59 => asI v44 fun n60 => 0 ≤ (n60 : Int) ∧ n60 < (l58 : Int) ∧ ∃ v61, cellH h26 (Addr.add a57 (Int.toNat n60 * 1)) = some v61 ∧
 asK .i64 v61 fun n62 => ∃ J63 : Value → Hp → Prop,
 (cond (decide ((n62 : Int) < 1073741824))
 (asSl1 v0 fun a67 l68 c69 => asI v44 fun n70 => 0 ≤ (n70 : Int) ∧ n70 < (l68 : Int) ∧ ∃ v71, cellH h26 (Addr.add a67 (Int.toNat n70 * 1)) = some v71 ∧
 asK .i64 v71 fun n72 => J63 (.int .i64 (IntKind.wrap .i64 (n72 + 1))) h26)
 (J63 (.int .i64 1073741824) h26)) ∧
 ∀ d_64 (d65 : Nat → Value) (h66 : Hp), J63 d_64 h66 →
 J53 d_64 h66)) ∧
 ∀ d_54 (d55 : Nat → Value) (h56 : Hp), J53 d_54 h56 →
 asSl1 v0 fun a73 l74 c75 => asI v39 fun n76 => 0 ≤ (n76 : Int) ∧ n76 < (l74 : Int) ∧ ∃ v77, cellH h56 (Addr.add a73 (Int.toNat n76 * 1)) = some v77 ∧
 asK .i64 d_54 fun n78 => asK .i64 v77 fun n79 => ∃ J80 : Value → Hp → Prop,
 (cond (decide ((n78 : Int) < n79))
 (asSl1 v0 fun a84 l85 c86 => asI v39 fun n87 => 0 ≤ (n87 : Int) ∧ n87 < (l85 : Int) ∧ oneK d_54 (storeK1 h56 (Addr.add a84 (Int.toNat n87 * 1)) d_54 fun h88 =>
 J80 (.bool true) h88))
 (J80 more_23 h56)) ∧
 ∀ more_81 (d82 : Nat → Value) (h83 : Hp), J80 more_81 h83 →
 J31 more_81 h83)) ∧
 ∀ more_32 (d33 : Nat → Value) (h34 : Hp), J31 more_32 h34 →
 asK .i64 i_24 fun n89 => I21 more_32 (.int .i64 (IntKind.wrap .i64 (n89 + 1))) h34 ∧ μ22 more_32 (.int .i64 (IntKind.wrap .i64 (n89 + 1))) h34 < μ22 more_23 i_24 h26)
 (I15 more_23 h26 ∧ μ16 more_23 h26 < μ16 more_17 h19))
 (R v0 h19))
def A_pipewrightref_Shortest : Ann :=
 (.two .leaf (.two .leaf (.two (.two .leaf (.one (.loop [18, 19, 20, 23, 24, 25, 21, 22, 10] [10] (.two (.two .leaf (.two .leaf .leaf)) (.two (.one .leaf) .leaf))))) (.two (.two .leaf (.one (.loop [26, 11, 12, 27, 28, 29, 30, 33, 34, 35, 36, 37, 38, 39, 40, 41, 42, 13, 14, 43, 44, 45, 46, 47, 48, 49, 50, 15, 51, 52, 53, 54, 55, 56, 57, 58, 59, 60, 61, 62, 63, 64, 65, 66, 67, 68, 69, 70, 71, 72, 73, 31, 32] [11] (.two (.two .leaf (.two .leaf .leaf)) (.one (.two .leaf (.two .leaf (.one (.loop [27, 28, 29, 30, 33, 34, 35, 36, 37, 38, 39, 40, 41, 42, 13, 14, 43, 44, 45, 46, 47, 48, 49, 50, 15, 51, 52, 53, 54, 55, 56, 57, 58, 59, 60, 61, 62, 63, 64, 65, 66, 67, 68, 69, 70, 71, 72, 73, 11, 31, 32, 12] [11, 12] (.two (.two .leaf (.two .leaf .leaf)) (.two (.join [33, 34, 35, 36, 37, 38, 39, 40, 41, 42, 13, 14, 43, 44, 45, 46, 47, 48, 49, 50, 15, 51, 52, 53, 54, 55, 56, 57, 58, 59, 60, 61, 62, 63, 64, 65, 66, 67, 68, 69, 70, 71, 72, 73, 11] [11] (.one (.two (.plan [0, 1, 2, 3, 4, 5, 6, 7, 8, 9, 10, 11]) (.two (.two (.jb [43, 44, 45, 46, 47, 48, 49, 50] 50 .leaf) (.two .leaf .leaf)) (.two .leaf (.two (.two .leaf (.join [15, 54, 55, 56, 57, 58, 59, 60, 61, 62, 63] [15] (.two .leaf (.two .leaf (.join [59, 60, 61, 62, 63, 15] [15] (.two .leaf .leaf)))))) (.two .leaf (.join [70, 71, 72, 73, 11] [11] (.two (.two .leaf .leaf) .leaf))))))))) .leaf))))))))))) (.two .leaf .leaf)))))
theorem C_pipewrightref_Shortest (ω : Amb) (n_p edges_p to_p least_p : Value) (h : Hp) (R : Value → Hp → Prop) (X : List PanicEntry → Hp → Prop) (hk : W_pipewrightref_Shortest ω n_p edges_p to_p least_p h R X) : CallX Try.prog ω 17 [n_p, edges_p, to_p, least_p] h R X :=
 callX_of (an := A_pipewrightref_Shortest) Try.func17 ((show fnX Try.prog ω A_pipewrightref_Shortest Try.f17 [n_p, edges_p, to_p, least_p] h R X = W_pipewrightref_Shortest ω n_p edges_p to_p least_p h R X by kernel_rfl) ▸ hk)

/-- slices.Sort[[]int,int] -/
abbrev n_slices_Sort_sl_int_int : Nat := 18
def W_slices_Sort_sl_int_int (ω : Amb) (x_p : Value) (h : Hp) (R : Value → Hp → Prop) (X : List PanicEntry → Hp → Prop) : Prop :=
 asSl x_p fun a0 l1 c2 => CallX Try.prog ω 25 [(.int .u64 (IntKind.wrap .u64 (l1 : Int)))] h (fun r3 h4 =>
 CallX Try.prog ω 24 [x_p, (.int .i64 0), (.int .i64 (l1 : Int)), r3] h4 (fun r5 h6 =>
 R (.tuple #[]) h6) X) X
def A_slices_Sort_sl_int_int : Ann :=
 (.two .leaf .leaf)
theorem C_slices_Sort_sl_int_int (ω : Amb) (x_p : Value) (h : Hp) (R : Value → Hp → Prop) (X : List PanicEntry → Hp → Prop) (hk : W_slices_Sort_sl_int_int ω x_p h R X) : CallX Try.prog ω 18 [x_p] h R X :=
 callX_of (an := A_slices_Sort_sl_int_int) Try.func18 ((show fnX Try.prog ω A_slices_Sort_sl_int_int Try.f18 [x_p] h R X = W_slices_Sort_sl_int_int ω x_p h R X by kernel_rfl) ▸ hk)

/-- slices.Compact[[]int,int] -/
abbrev n_slices_Compact_sl_int_int : Nat := 19
def W_slices_Compact_sl_int_int (ω : Amb) (s_p : Value) (h : Hp) (R : Value → Hp → Prop) (X : List PanicEntry → Hp → Prop) : Prop :=
 asSl s_p fun a0 l1 c2 => cond (decide (((l1 : Int) : Int) < 2))
 (R s_p h)
 (∃ (I3 : Value → Hp → Prop) (μ4 : Value → Hp → Nat), I3 (.int .i64 1) h ∧ ∀ k_5 (d6 : Nat → Value) (h7 : Hp), I3 k_5 h7 →
 asSl s_p fun a8 l9 c10 => asK .i64 k_5 fun n11 => cond (decide ((n11 : Int) < (l9 : Int)))
 (asSl1 s_p fun a12 l13 c14 => asI k_5 fun n15 => 0 ≤ (n15 : Int) ∧ n15 < (l13 : Int) ∧ ∃ v16, cellH h7 (Addr.add a12 (Int.toNat n15 * 1)) = some v16 ∧
 asK .i64 k_5 fun n17 => asSl1 s_p fun a18 l19 c20 => 0 ≤ ((IntKind.wrap .i64 (n17 - 1)) : Int) ∧ (IntKind.wrap .i64 (n17 - 1)) < (l19 : Int) ∧ ∃ v21, cellH h7 (Addr.add a18 (Int.toNat (IntKind.wrap .i64 (n17 - 1)) * 1)) = some v21 ∧
 asK .i64 v16 fun n22 => asK .i64 v21 fun n23 => cond (n22 == (n23 : Int))
 (asSl s_p fun a24 l25 c26 => asI k_5 fun n27 => 0 ≤ (n27 : Int) ∧ (n27 : Int) ≤ (l25 : Int) ∧ (l25 : Int) ≤ (c26 : Int) ∧ ∃ (I28 : Value → Value → Hp → Prop) (μ29 : Value → Value → Hp → Nat), I28 k_5 (.int .i64 1) h7 ∧ ∀ k_30 k2_31 (d32 : Nat → Value) (h33 : Hp), I28 k_30 k2_31 h33 →
 asK .i64 k2_31 fun n34 => cond (decide ((n34 : Int) < (((Int.toNat (l25 : Int) - Int.toNat n27) : Nat) : Int)))
 (∃ J35 : Value → Hp → Prop,
 (asSl1 (.slice (if c26 = Int.toNat n27 then a24 else Option.map (fun y => Addr.add y (Int.toNat n27 * 1)) a24) (Int.toNat (l25 : Int) - Int.toNat n27) (c26 - Int.toNat n27)) fun a39 l40 c41 => asI k2_31 fun n42 => 0 ≤ (n42 : Int) ∧ n42 < (l40 : Int) ∧ ∃ v43, cellH h33 (Addr.add a39 (Int.toNat n42 * 1)) = some v43 ∧
 asK .i64 k2_31 fun n44 => asSl1 (.slice (if c26 = Int.toNat n27 then a24 else Option.map (fun y => Addr.add y (Int.toNat n27 * 1)) a24) (Int.toNat (l25 : Int) - Int.toNat n27) (c26 - Int.toNat n27)) fun a45 l46 c47 => 0 ≤ ((IntKind.wrap .i64 (n44 - 1)) : Int) ∧ (IntKind.wrap .i64 (n44 - 1)) < (l46 : Int) ∧ ∃ v48, cellH h33 (Addr.add a45 (Int.toNat (IntKind.wrap .i64 (n44 - 1)) * 1)) = some v48 ∧
 asK .i64 v43 fun n49 => asK .i64 v48 fun n50 => ∃ J51 : Value → Hp → Prop,
 (cond (n49 != (n50 : Int))
 (asSl1 (.slice (if c26 = Int.toNat n27 then a24 else Option.map (fun y => Addr.add y (Int.toNat n27 * 1)) a24) (Int.toNat (l25 : Int) - Int.toNat n27) (c26 - Int.toNat n27)) fun a55 l56 c57 => asI k2_31 fun n58 => 0 ≤ (n58 : Int) ∧ n58 < (l56 : Int) ∧ ∃ v59, cellH h33 (Addr.add a55 (Int.toNat n58 * 1)) = some v59 ∧
 asSl1 s_p fun a60 l61 c62 => asI k_30 fun n63 => 0 ≤ (n63 : Int) ∧ n63 < (l61 : Int) ∧ oneK v59 (storeK1 h33 (Addr.add a60 (Int.toNat n63 * 1)) v59 fun h64 =>
 asK .i64 k_30 fun n65 => J51 (.int .i64 (IntKind.wrap .i64 (n65 + 1))) h64))
 (J51 k_30 h33)) ∧
 ∀ k_52 (d53 : Nat → Value) (h54 : Hp), J51 k_52 h54 →
 J35 k_52 h54) ∧
 ∀ k_36 (d37 : Nat → Value) (h38 : Hp), J35 k_36 h38 →
 asK .i64 k2_31 fun n66 => I28 k_36 (.int .i64 (IntKind.wrap .i64 (n66 + 1))) h38 ∧ μ29 k_36 (.int .i64 (IntKind.wrap .i64 (n66 + 1))) h38 < μ29 k_30 k2_31 h33)
 (asSl s_p fun a67 l68 c69 => asI k_30 fun n70 => 0 ≤ (n70 : Int) ∧ (n70 : Int) ≤ (l68 : Int) ∧ (l68 : Int) ≤ (c69 : Int) ∧ clearK Try.prog 27 h33 (.slice (if c69 = Int.toNat n70 then a67 else Option.map (fun y => Addr.add y (Int.toNat n70 * 1)) a67) (Int.toNat (l68 : Int) - Int.toNat n70) (c69 - Int.toNat n70)) fun w71 h72 =>
 asSl s_p fun a73 l74 c75 => asI k_30 fun n76 => 0 ≤ (((0 : Nat) : Int) : Int) ∧ (((0 : Nat) : Int) : Int) ≤ n76 ∧ n76 ≤ (c75 : Int) ∧ R (.slice (if c75 = Int.toNat ((0 : Nat) : Int) then a73 else Option.map (fun y => Addr.add y (Int.toNat ((0 : Nat) : Int) * 1)) a73) (Int.toNat n76 - Int.toNat ((0 : Nat) : Int)) (c75 - Int.toNat ((0 : Nat) : Int))) h72))
 (asK .i64 k_5 fun n77 => I3 (.int .i64 (IntKind.wrap .i64 (n77 + 1))) h7 ∧ μ4 (.int .i64 (IntKind.wrap .i64 (n77 + 1))) h7 < μ4 k_5 h7))
 (R s_p h7))
def A_slices_Compact_sl_int_int : Ann :=
 (.two .leaf (.two (.two .leaf (.two (.two .leaf .leaf) .leaf)) (.two (.two .leaf (.one (.loop [10, 11, 12, 13, 16, 17, 18, 19, 20, 21, 22, 23, 24, 25, 26, 27, 28, 4, 5, 29, 30, 31, 32, 35, 36, 37, 38, 39, 40, 41, 42, 43, 44, 45, 46, 47, 48, 49, 50, 51, 52, 53, 3, 33, 34, 54, 55, 56, 57, 58, 59, 2, 14, 15] [3] (.two (.two .leaf (.two .leaf .leaf)) (.two (.one (.two (.plan [0, 1, 2, 3, 4, 5, 6, 7, 8, 9]) (.two (.two .leaf (.two (.two .leaf (.one (.loop [29, 30, 31, 32, 35, 36, 37, 38, 39, 40, 41, 42, 43, 44, 45, 46, 47, 48, 49, 50, 51, 52, 53, 3, 33, 34, 5] [3, 5] (.two (.two .leaf (.two .leaf .leaf)) (.two (.join [35, 36, 37, 38, 39, 40, 41, 42, 43, 44, 45, 46, 47, 48, 49, 50, 51, 52, 53, 3] [3] (.one (.two (.plan [0, 1, 2, 3, 4, 5, 6, 7, 8, 9]) (.join [45, 46, 47, 48, 49, 50, 51, 52, 53, 3] [3] (.two (.two .leaf .leaf) .leaf))))) .leaf))))) (.two .leaf (.two .leaf .leaf)))) .leaf))) .leaf))))) (.two .leaf .leaf))))
theorem C_slices_Compact_sl_int_int (ω : Amb) (s_p : Value) (h : Hp) (R : Value → Hp → Prop) (X : List PanicEntry → Hp → Prop) (hk : W_slices_Compact_sl_int_int ω s_p h R X) : CallX Try.prog ω 19 [s_p] h R X :=
 callX_of (an := A_slices_Compact_sl_int_int) Try.func19 ((show fnX Try.prog ω A_slices_Compact_sl_int_int Try.f19 [s_p] h R X = W_slices_Compact_sl_int_int ω s_p h R X by kernel_rfl) ▸ hk)

/-- pipewright/ranks.away -/
abbrev n_ranks_away : Nat := 20
def W_ranks_away (ω : Amb) (from_p least_p : Value) (h : Hp) (R : Value → Hp → Prop) (X : List PanicEntry → Hp → Prop) : Prop :=
 asSl from_p fun a0 l1 c2 => CallX Try.prog ω 26 [(.slice (some ⟨Array.size h, 0, none⟩) 1 1), (.int .i64 (l1 : Int))] (Array.push h (.cells (List.toArray [(.int .i64 (-1))]) 3 (0, 0))) (fun r3 h4 =>
 asSl1 r3 fun a5 l6 c7 => asI least_p fun n8 => 0 ≤ (n8 : Int) ∧ n8 < (l6 : Int) ∧ storeK1 h4 (Addr.add a5 (Int.toNat n8 * 1)) (.int .i64 0) fun h9 =>
 oneK least_p (∃ (I10 : Value → Hp → Prop) (μ11 : Value → Hp → Nat), I10 (.slice (some ⟨Array.size h9, 0, none⟩) 1 1) (Array.push h9 (.cells (List.toArray [least_p]) 3 (0, 0))) ∧ ∀ row_12 (d13 : Nat → Value) (h14 : Hp), I10 row_12 h14 →
 asSl row_12 fun a15 l16 c17 => cond (decide (((l16 : Int) : Int) > 0))
 (asSl1 row_12 fun a18 l19 c20 => 0 ≤ (0 : Int) ∧ 0 < (l19 : Int) ∧ ∃ v21, cellH h14 (Addr.add a18 (Int.toNat 0 * 1)) = some v21 ∧
 asSl1 from_p fun a22 l23 c24 => asI v21 fun n25 => 0 ≤ (n25 : Int) ∧ n25 < (l23 : Int) ∧ ∃ v26, cellH h14 (Addr.add a22 (Int.toNat n25 * 1)) = some v26 ∧
 asSl v26 fun a27 l28 c29 => ∃ (I30 : Value → Value → Hp → Prop) (μ31 : Value → Value → Hp → Nat), I30 row_12 (.int .i64 0) h14 ∧ ∀ row_32 t30_33 (d34 : Nat → Value) (h35 : Hp), I30 row_32 t30_33 h35 →
 asK .i64 t30_33 fun n36 => cond (decide ((n36 : Int) < (l28 : Int)))
 (∃ J37 : Value → Hp → Prop,
 (asSl1 v26 fun a41 l42 c43 => asI t30_33 fun n44 => 0 ≤ (n44 : Int) ∧ n44 < (l42 : Int) ∧ ∃ v45, cellH h35 (Addr.add a41 (Int.toNat n44 * 1)) = some v45 ∧
 ∃ β46 : Bool,
 (asK .i64 v45 fun n48 => asK .i64 least_p fun n49 => cond (decide ((n48 : Int) > n49))
 (asSl1 r3 fun a50 l51 c52 => asI v45 fun n53 => 0 ≤ (n53 : Int) ∧ n53 < (l51 : Int) ∧ ∃ v54, cellH h35 (Addr.add a50 (Int.toNat n53 * 1)) = some v54 ∧
 asK .i64 v54 fun n55 => ((.bool (decide ((n55 : Int) < 0))) : Value) = .bool β46 ∧ h35 = h35)
 (((.bool false) : Value) = .bool β46 ∧ h35 = h35)) ∧
 ∀ d47 : Nat → Value,
 ∃ J56 : Value → Hp → Prop,
 (cond β46
 (asSl1 row_32 fun a60 l61 c62 => 0 ≤ (0 : Int) ∧ 0 < (l61 : Int) ∧ ∃ v63, cellH h35 (Addr.add a60 (Int.toNat 0 * 1)) = some v63 ∧
 asSl1 r3 fun a64 l65 c66 => asI v63 fun n67 => 0 ≤ (n67 : Int) ∧ n67 < (l65 : Int) ∧ ∃ v68, cellH h35 (Addr.add a64 (Int.toNat n67 * 1)) = some v68 ∧
 asK .i64 v68 fun n69 => asSl1 r3 fun a70 l71 c72 => asI v45 fun n73 => 0 ≤ (n73 : Int) ∧ n73 < (l71 : Int) ∧ storeK1 h35 (Addr.add a70 (Int.toNat n73 * 1)) (.int .i64 (IntKind.wrap .i64 (n69 + 1))) fun h74 =>
 oneK v45 (appK Try.prog 27 (Array.push h74 (.cells (List.toArray [v45]) 3 (0, 0))) row_32 (.slice (some ⟨Array.size h74, 0, none⟩) 1 1) fun w75 h76 =>
 J56 w75 h76))
 (J56 row_32 h35)) ∧
 ∀ row_57 (d58 : Nat → Value) (h59 : Hp), J56 row_57 h59 →
 J37 row_57 h59) ∧
 ∀ row_38 (d39 : Nat → Value) (h40 : Hp), J37 row_38 h40 →
 asK .i64 t30_33 fun n77 => I30 row_38 (.int .i64 (IntKind.wrap .i64 (n77 + 1))) h40 ∧ μ31 row_38 (.int .i64 (IntKind.wrap .i64 (n77 + 1))) h40 < μ31 row_32 t30_33 h35)
 (asSl row_32 fun a78 l79 c80 => 0 ≤ (1 : Int) ∧ (1 : Int) ≤ (l79 : Int) ∧ (l79 : Int) ≤ (c80 : Int) ∧ I10 (.slice (if c80 = Int.toNat 1 then a78 else Option.map (fun y => Addr.add y (Int.toNat 1 * 1)) a78) (Int.toNat (l79 : Int) - Int.toNat 1) (c80 - Int.toNat 1)) h35 ∧ μ11 (.slice (if c80 = Int.toNat 1 then a78 else Option.map (fun y => Addr.add y (Int.toNat 1 * 1)) a78) (Int.toNat (l79 : Int) - Int.toNat 1) (c80 - Int.toNat 1)) h35 < μ11 row_12 h14))
 (R r3 h14))) X
def A_ranks_away : Ann :=
 (.two .leaf (.two .leaf (.two .leaf (.two (.two .leaf (.one (.loop [18, 19, 20, 23, 24, 25, 26, 27, 28, 29, 30, 31, 32, 33, 8, 34, 35, 36, 37, 38, 39, 40, 41, 42, 43, 44, 45, 46, 47, 48, 49, 50, 51, 52, 53, 54, 55, 56, 57, 6, 58, 21, 22] [6] (.two (.two .leaf (.two .leaf .leaf)) (.two (.one (.two .leaf (.one (.loop [31, 32, 33, 8, 34, 35, 36, 37, 38, 39, 40, 41, 42, 43, 44, 45, 46, 47, 48, 49, 50, 51, 52, 53, 54, 55, 56, 57, 6, 58, 30] [6, 30] (.two .leaf (.two (.two .leaf .leaf) (.two (.join [32, 33, 8, 34, 35, 36, 37, 38, 39, 40, 41, 42, 43, 44, 45, 46, 47, 48, 49, 50, 51, 52, 53, 54, 55, 56, 57, 6] [6] (.one (.two .leaf (.two (.jb [34, 35, 36, 37, 38, 39, 40, 41, 42, 43] 43 .leaf) (.join [44, 45, 46, 47, 48, 49, 50, 51, 52, 53, 54, 55, 56, 57, 6] [6] (.two (.two .leaf .leaf) .leaf)))))) .leaf))))))) .leaf))))) (.two .leaf .leaf)))))
theorem C_ranks_away (ω : Amb) (from_p least_p : Value) (h : Hp) (R : Value → Hp → Prop) (X : List PanicEntry → Hp → Prop) (hk : W_ranks_away ω from_p least_p h R X) : CallX Try.prog ω 20 [from_p, least_p] h R X :=
 callX_of (an := A_ranks_away) Try.func20 ((show fnX Try.prog ω A_ranks_away Try.f20 [from_p, least_p] h R X = W_ranks_away ω from_p least_p h R X by kernel_rfl) ▸ hk)

/-- pipewright/ranks.round$1 -/
abbrev n_ranks_round_1 : Nat := 21
def W_ranks_round_1 (ω : Amb) (v_p left_p t2_p t3_p t4_p : Value) (h : Hp) (R : Value → Hp → Prop) (X : List PanicEntry → Hp → Prop) : Prop :=
 asP t2_p fun p0 =>
 ∃ v1, cellH (Array.push h (.cells (Value.cells left_p) 3 (0, 0))) p0 = some v1 ∧
 asSl1 v1 fun a2 l3 c4 => asI v_p fun n5 => 0 ≤ (n5 : Int) ∧ n5 < (l3 : Int) ∧ ∃ v6, cellH (Array.push h (.cells (Value.cells left_p) 3 (0, 0))) (Addr.add a2 (Int.toNat n5 * 1)) = some v6 ∧
 CallX Try.prog ω 22 [v6, (.func (.func 23) #[] #[t3_p, t4_p, (.pointer (some ⟨Array.size h, 0, none⟩))])] (Array.push h (.cells (Value.cells left_p) 3 (0, 0))) (fun r7 h8 =>
 R r7 h8) X
def A_ranks_round_1 : Ann :=
 (.two .leaf (.two .leaf .leaf))
theorem C_ranks_round_1 (ω : Amb) (v_p left_p t2_p t3_p t4_p : Value) (h : Hp) (R : Value → Hp → Prop) (X : List PanicEntry → Hp → Prop) (hk : W_ranks_round_1 ω v_p left_p t2_p t3_p t4_p h R X) : CallX Try.prog ω 21 [v_p, left_p, t2_p, t3_p, t4_p] h R X :=
 callX_of (an := A_ranks_round_1) Try.func21 ((show fnX Try.prog ω A_ranks_round_1 Try.f21 [v_p, left_p, t2_p, t3_p, t4_p] h R X = W_ranks_round_1 ω v_p left_p t2_p t3_p t4_p h R X by kernel_rfl) ▸ hk)

/-- slices.IndexFunc[[]int,int] -/
abbrev n_slices_IndexFunc_sl_int_int : Nat := 22
def W_slices_IndexFunc_sl_int_int (ω : Amb) (s_p f_p : Value) (h : Hp) (R : Value → Hp → Prop) (X : List PanicEntry → Hp → Prop) : Prop :=
 asSl s_p fun a0 l1 c2 => ∃ (I3 : Value → Hp → Prop) (μ4 : Value → Hp → Nat), I3 (.int .i64 0) h ∧ ∀ t8_5 (d6 : Nat → Value) (h7 : Hp), I3 t8_5 h7 →
 asK .i64 t8_5 fun n8 => cond (decide ((n8 : Int) < (l1 : Int)))
 (asSl1 s_p fun a9 l10 c11 => asI t8_5 fun n12 => 0 ≤ (n12 : Int) ∧ n12 < (l10 : Int) ∧ ∃ v13, cellH h7 (Addr.add a9 (Int.toNat n12 * 1)) = some v13 ∧
 callK Try.prog ω f_p [v13] h7 (fun r14 h15 =>
 asB r14 fun b16 => cond b16
 (R t8_5 h15)
 (asK .i64 t8_5 fun n17 => I3 (.int .i64 (IntKind.wrap .i64 (n17 + 1))) h15 ∧ μ4 (.int .i64 (IntKind.wrap .i64 (n17 + 1))) h15 < μ4 t8_5 h7)) X)
 (R (.int .i64 (-1)) h7)
def A_slices_IndexFunc_sl_int_int : Ann :=
 (.two .leaf (.two (.two .leaf (.one (.loop [9, 10, 5, 11, 12, 13, 14, 15, 16, 17, 4, 18, 8] [8] (.two .leaf (.two (.two .leaf .leaf) (.two (.one (.two .leaf (.two .leaf (.two (.two .leaf .leaf) .leaf)))) .leaf)))))) (.two .leaf .leaf)))
theorem C_slices_IndexFunc_sl_int_int (ω : Amb) (s_p f_p : Value) (h : Hp) (R : Value → Hp → Prop) (X : List PanicEntry → Hp → Prop) (hk : W_slices_IndexFunc_sl_int_int ω s_p f_p h R X) : CallX Try.prog ω 22 [s_p, f_p] h R X :=
 callX_of (an := A_slices_IndexFunc_sl_int_int) Try.func22 ((show fnX Try.prog ω A_slices_IndexFunc_sl_int_int Try.f22 [s_p, f_p] h R X = W_slices_IndexFunc_sl_int_int ω s_p f_p h R X by kernel_rfl) ▸ hk)

/-- pipewright/ranks.round$1$1 -/
abbrev n_ranks_round_1_1 : Nat := 23
def W_ranks_round_1_1 (ω : Amb) (k_p t1_p t2_p t3_p : Value) (h : Hp) (R : Value → Hp → Prop) (X : List PanicEntry → Hp → Prop) : Prop :=
 ∃ J0 : Value → Hp → Prop,
 (asP t1_p fun p4 =>
 ∃ v5, cellH h p4 = some v5 ∧
 asK .i64 k_p fun n6 => asK .i64 v5 fun n7 => cond (decide ((n6 : Int) ≥ n7))
 (asP t2_p fun p8 =>
 ∃ v9, cellH h p8 = some v9 ∧
 asSl1 v9 fun a10 l11 c12 => asI k_p fun n13 => 0 ≤ (n13 : Int) ∧ n13 < (l11 : Int) ∧ ∃ v14, cellH h (Addr.add a10 (Int.toNat n13 * 1)) = some v14 ∧
 asP t3_p fun p15 =>
 ∃ v16, cellH h p15 = some v16 ∧
 asK .i64 v14 fun n17 => asK .i64 v16 fun n18 => J0 (.bool (n17 == (n18 : Int))) h)
 (J0 (.bool false) h)) ∧
 ∀ t5_1 (d2 : Nat → Value) (h3 : Hp), J0 t5_1 h3 →
 R t5_1 h3
def A_ranks_round_1_1 : Ann :=
 (.two .leaf (.two (.join [6, 7, 8, 9, 10, 11, 12, 13, 14, 15, 16, 5] [5] (.plan [0, 1, 2, 3, 4, 5, 6, 7, 8, 9, 10, 11])) .leaf))
theorem C_ranks_round_1_1 (ω : Amb) (k_p t1_p t2_p t3_p : Value) (h : Hp) (R : Value → Hp → Prop) (X : List PanicEntry → Hp → Prop) (hk : W_ranks_round_1_1 ω k_p t1_p t2_p t3_p h R X) : CallX Try.prog ω 23 [k_p, t1_p, t2_p, t3_p] h R X :=
 callX_of (an := A_ranks_round_1_1) Try.func23 ((show fnX Try.prog ω A_ranks_round_1_1 Try.f23 [k_p, t1_p, t2_p, t3_p] h R X = W_ranks_round_1_1 ω k_p t1_p t2_p t3_p h R X by kernel_rfl) ▸ hk)

/-- slices.pdqsortOrdered[int] -/
abbrev n_slices_pdqsortOrdered_int : Nat := 24
def W_slices_pdqsortOrdered_int (ω : Amb) (data_p a_p b_p limit_p : Value) (h : Hp) (R : Value → Hp → Prop) (X : List PanicEntry → Hp → Prop) : Prop :=
 ∃ (I0 : Value → Value → Value → Value → Value → Hp → Prop) (μ1 : Value → Value → Value → Value → Value → Hp → Nat), I0 limit_p a_p (.bool true) (.bool true) b_p h ∧ ∀ limit_2 a_3 wasPartitioned_4 wasBalanced_5 b_6 (d7 : Nat → Value) (h8 : Hp), I0 limit_2 a_3 wasPartitioned_4 wasBalanced_5 b_6 h8 →
 ∃ J9 : Value → Value → Value → Value → Value → Hp → Prop,
 (asK .i64 b_6 fun n17 => asK .i64 a_3 fun n18 => cond (decide (((IntKind.wrap .i64 (n17 - n18)) : Int) ≤ 12))
 (CallX Try.prog ω 27 [data_p, a_3, b_6] h8 (fun r19 h20 =>
 R (.tuple #[]) h20) X)
 (asK .i64 limit_2 fun n21 => cond (n21 == (0 : Int))
 (CallX Try.prog ω 28 [data_p, a_3, b_6] h8 (fun r22 h23 =>
 R (.tuple #[]) h23) X)
 (asB wasBalanced_5 fun b24 => ∃ J25 : Value → Hp → Prop,
 (cond (!b24)
 (CallX Try.prog ω 29 [data_p, a_3, b_6] h8 (fun r29 h30 =>
 asK .i64 limit_2 fun n31 => J25 (.int .i64 (IntKind.wrap .i64 (n31 - 1))) h30) X)
 (J25 limit_2 h8)) ∧
 ∀ limit_26 (d27 : Nat → Value) (h28 : Hp), J25 limit_26 h28 →
 CallX Try.prog ω 30 [data_p, a_3, b_6] h28 (fun r32 h33 =>
 asT r32 fun T34 => asO T34[0]? fun v35 => asT r32 fun T36 => asO T36[1]? fun v37 => asK .i64 v37 fun n38 => ∃ J39 : Value → Value → Hp → Prop,
 (cond (n38 == (2 : Int))
 (CallX Try.prog ω 31 [data_p, a_3, b_6] h33 (fun r44 h45 =>
 asK .i64 b_6 fun n46 => asK .i64 v35 fun n47 => asK .i64 a_3 fun n48 => J39 (.int .i64 (IntKind.wrap .i64 ((IntKind.wrap .i64 (n46 - 1)) - (IntKind.wrap .i64 (n47 - n48))))) (.int .i64 1) h45) X)
 (J39 v35 v37 h33)) ∧
 ∀ pivot_40 hint_41 (d42 : Nat → Value) (h43 : Hp), J39 pivot_40 hint_41 h43 →
 ∃ β49 : Bool,
 (asB wasBalanced_5 fun b51 => cond b51
 (asB wasPartitioned_4 fun b52 => cond b52
 (asK .i64 hint_41 fun n53 => ((.bool (n53 == (1 : Int))) : Value) = .bool β49 ∧ h43 = h43)
 (((.bool false) : Value) = .bool β49 ∧ h43 = h43))
 (((.bool false) : Value) = .bool β49 ∧ h43 = h43)) ∧
 ∀ d50 : Nat → Value,
 ∃ J54 : Hp → Prop,
 (cond β49
 (CallX Try.prog ω 32 [data_p, a_3, b_6] h43 (fun r57 h58 =>
 asB r57 fun b59 => cond b59
 (R (.tuple #[]) h58)
 (J54 h58)) X)
 (J54 h43)) ∧
 ∀  (d55 : Nat → Value) (h56 : Hp), J54 h56 →
 ∃ J60 : Value → Hp → Prop,
 (asK .i64 a_3 fun n64 => cond (decide ((n64 : Int) > 0))
 (asK .i64 a_3 fun n65 => asSl1 data_p fun a66 l67 c68 => 0 ≤ ((IntKind.wrap .i64 (n65 - 1)) : Int) ∧ (IntKind.wrap .i64 (n65 - 1)) < (l67 : Int) ∧ ∃ v69, cellH h56 (Addr.add a66 (Int.toNat (IntKind.wrap .i64 (n65 - 1)) * 1)) = some v69 ∧
 asSl1 data_p fun a70 l71 c72 => asI pivot_40 fun n73 => 0 ≤ (n73 : Int) ∧ n73 < (l71 : Int) ∧ ∃ v74, cellH h56 (Addr.add a70 (Int.toNat n73 * 1)) = some v74 ∧
 CallX Try.prog ω 33 [v69, v74] h56 (fun r75 h76 =>
 asB r75 fun b77 => J60 (.bool (!b77)) h76) X)
 (J60 (.bool false) h56)) ∧
 ∀ t87_61 (d62 : Nat → Value) (h63 : Hp), J60 t87_61 h63 →
 asB t87_61 fun b78 => cond b78
 (CallX Try.prog ω 34 [data_p, a_3, b_6, pivot_40] h63 (fun r79 h80 =>
 J9 limit_26 r79 wasPartitioned_4 wasBalanced_5 b_6 h80) X)
 (CallX Try.prog ω 35 [data_p, a_3, b_6, pivot_40] h63 (fun r81 h82 =>
 asT r81 fun T83 => asO T83[0]? fun v84 => asT r81 fun T85 => asO T85[1]? fun v86 => asK .i64 v84 fun n87 => asK .i64 a_3 fun n88 => asK .i64 b_6 fun n89 => asK .i64 v84 fun n90 => (8 : Int) ≠ 0 ∧ ∃ J91 : Value → Value → Value → Hp → Prop,
 (cond (decide (((IntKind.wrap .i64 (n87 - n88)) : Int) < (IntKind.wrap .i64 (n89 - n90))))
 (CallX Try.prog ω 24 [data_p, a_3, v84, limit_26] h82 (fun r97 h98 =>
 asK .i64 v84 fun n99 => J91 (.bool (decide (((IntKind.wrap .i64 (n87 - n88)) : Int) ≥ (IntKind.wrap .i64 (Int.tdiv (IntKind.wrap .i64 (n17 - n18)) 8))))) (.int .i64 (IntKind.wrap .i64 (n99 + 1))) b_6 h98) X)
 (asK .i64 v84 fun n100 => CallX Try.prog ω 24 [data_p, (.int .i64 (IntKind.wrap .i64 (n100 + 1))), b_6, limit_26] h82 (fun r101 h102 =>
 J91 (.bool (decide (((IntKind.wrap .i64 (n89 - n90)) : Int) ≥ (IntKind.wrap .i64 (Int.tdiv (IntKind.wrap .i64 (n17 - n18)) 8))))) a_3 v84 h102) X)) ∧
 ∀ wasBalanced_92 a_93 b_94 (d95 : Nat → Value) (h96 : Hp), J91 wasBalanced_92 a_93 b_94 h96 →
 J9 limit_26 a_93 v86 wasBalanced_92 b_94 h96) X)) X))) ∧
 ∀ limit_10 a_11 wasPartitioned_12 wasBalanced_13 b_14 (d15 : Nat → Value) (h16 : Hp), J9 limit_10 a_11 wasPartitioned_12 wasBalanced_13 b_14 h16 →
 I0 limit_10 a_11 wasPartitioned_12 wasBalanced_13 b_14 h16 ∧ μ1 limit_10 a_11 wasPartitioned_12 wasBalanced_13 b_14 h16 < μ1 limit_2 a_3 wasPartitioned_4 wasBalanced_5 b_6 h8
def A_slices_pdqsortOrdered_int : Ann :=
 (.two .leaf (.two .leaf (.one (.loop [19, 20, 21, 10, 22, 23, 24, 25, 26, 27, 28, 29, 30, 31, 32, 33, 34, 35, 36, 37, 38, 39, 40, 41, 3, 43, 44, 45, 46, 42, 47, 48, 11, 12, 49, 50, 51, 52, 53, 54, 55, 56, 57, 58, 59, 60, 61, 62, 63, 64, 65, 66, 67, 68, 69, 70, 71, 72, 73, 74, 75, 76, 77, 78, 79, 80, 81, 82, 83, 84, 85, 86, 87, 88, 89, 90, 91, 92, 13, 93, 1, 95, 96, 97, 98, 99, 94, 100, 101, 14, 15, 102, 9, 103, 104, 105, 106, 107, 108, 16, 17, 109, 110, 18, 111, 112, 113, 114, 115, 116, 8, 117, 118, 119, 120, 121, 122, 123, 124, 125, 126, 127, 128, 129, 130, 131, 132, 133, 2] [3, 1, 9, 8, 2] (.join [19, 20, 21, 10, 22, 23, 24, 25, 26, 27, 28, 29, 30, 31, 32, 33, 34, 35, 36, 37, 38, 39, 40, 41, 3, 43, 44, 45, 46, 42, 47, 48, 11, 12, 49, 50, 51, 52, 53, 54, 55, 56, 57, 58, 59, 60, 61, 62, 63, 64, 65, 66, 67, 68, 69, 70, 71, 72, 73, 74, 75, 76, 77, 78, 79, 80, 81, 82, 83, 84, 85, 86, 87, 88, 89, 90, 91, 92, 13, 93, 1, 95, 96, 97, 98, 99, 94, 100, 101, 14, 15, 102, 9, 103, 104, 105, 106, 107, 108, 16, 17, 109, 110, 18, 111, 112, 113, 114, 115, 116, 8, 117, 118, 119, 120, 121, 122, 123, 124, 125, 126, 127, 128, 129, 130, 131, 132, 133, 2] [3, 1, 9, 8, 2] (.one (.two .leaf (.two (.two .leaf (.two (.two .leaf .leaf) .leaf)) (.two (.two .leaf (.two (.two .leaf .leaf) .leaf)) (.two (.two .leaf (.join [36, 37, 38, 39, 40, 41, 3] [3] (.two (.two .leaf .leaf) .leaf))) (.two .leaf (.two (.two .leaf (.join [51, 52, 53, 54, 55, 56, 57, 58, 59, 60, 11, 12] [11, 12] (.two (.two .leaf (.two .leaf .leaf)) .leaf))) (.two (.two (.jb [61, 62, 63, 64, 65, 66, 67, 68] 68 .leaf) (.join [69, 70, 71, 72] [] (.two (.two .leaf (.two .leaf .leaf)) .leaf))) (.two (.two (.join [73, 74, 75, 76, 77, 78, 79, 80, 81, 82, 83, 84, 85, 86, 87] [87] (.plan [0, 1, 2, 3, 4, 5, 6, 7, 8, 9, 10, 11, 12, 13, 14])) (.two (.two .leaf (.two .leaf .leaf)) .leaf)) (.two .leaf (.two .leaf (.two .leaf (.two .leaf (.two .leaf (.join [114, 115, 116, 8, 117, 118, 119, 120, 121, 122, 123, 1, 124, 125, 126, 127, 128, 129, 130, 131, 132, 133, 2] [8, 1, 2] (.two (.two .leaf (.two .leaf .leaf)) (.two .leaf (.two .leaf .leaf)))))))))))))))))))))))
theorem C_slices_pdqsortOrdered_int (ω : Amb) (data_p a_p b_p limit_p : Value) (h : Hp) (R : Value → Hp → Prop) (X : List PanicEntry → Hp → Prop) (hk : W_slices_pdqsortOrdered_int ω data_p a_p b_p limit_p h R X) : CallX Try.prog ω 24 [data_p, a_p, b_p, limit_p] h R X :=
 callX_of (an := A_slices_pdqsortOrdered_int) Try.func24 ((show fnX Try.prog ω A_slices_pdqsortOrdered_int Try.f24 [data_p, a_p, b_p, limit_p] h R X = W_slices_pdqsortOrdered_int ω data_p a_p b_p limit_p h R X by kernel_rfl) ▸ hk)

/-- math/bits.Len -/
abbrev n_math_bits_Len : Nat := 25
def W_math_bits_Len (ω : Amb) (x_p : Value) (h : Hp) (R : Value → Hp → Prop) (X : List PanicEntry → Hp → Prop) : Prop :=
 CallX Try.prog ω 37 [x_p] h (fun r0 h1 =>
 R r0 h1) X
def A_math_bits_Len : Ann :=
 (.two .leaf (.two (.two (.two .leaf .leaf) .leaf) (.two .leaf .leaf)))
theorem C_math_bits_Len (ω : Amb) (x_p : Value) (h : Hp) (R : Value → Hp → Prop) (X : List PanicEntry → Hp → Prop) (hk : W_math_bits_Len ω x_p h R X) : CallX Try.prog ω 25 [x_p] h R X :=
 callX_of (an := A_math_bits_Len) Try.func25 ((show fnX Try.prog ω A_math_bits_Len Try.f25 [x_p] h R X = W_math_bits_Len ω x_p h R X by kernel_rfl) ▸ hk)

/-- slices.Repeat[[]int,int] -/
abbrev n_slices_Repeat_sl_int_int : Nat := 26
def W_slices_Repeat_sl_int_int (ω : Amb) (x_p count_p : Value) (h : Hp) (R : Value → Hp → Prop) (X : List PanicEntry → Hp → Prop) : Prop :=
 asK .i64 count_p fun n0 => ∃ J1 : Hp → Prop,
 (cond (decide ((n0 : Int) < 0))
 (X [⟨.iface 9 (.string ⟨#[99, 97, 110, 110, 111, 116, 32, 98, 101, 32, 110, 101, 103, 97, 116, 105, 118, 101]⟩), false, false⟩] h)
 (J1 h)) ∧
 ∀  (d2 : Nat → Value) (h3 : Hp), J1 h3 →
 asSl x_p fun a4 l5 c6 => asI count_p fun n7 => CallX Try.prog ω 38 [(.int .u64 (IntKind.wrap .u64 (l5 : Int))), (.int .u64 (IntKind.wrap .u64 n7))] h3 (fun r8 h9 =>
 asT r8 fun T10 => asO T10[0]? fun v11 => asT r8 fun T12 => asO T12[1]? fun v13 => ∃ β14 : Bool,
 (asK .u64 v11 fun n16 => cond (decide ((n16 : Int) > 0))
 (((.bool true) : Value) = .bool β14 ∧ h9 = h9)
 (asK .u64 v13 fun n17 => ((.bool (decide ((n17 : Int) > 9223372036854775807))) : Value) = .bool β14 ∧ h9 = h9)) ∧
 ∀ d15 : Nat → Value,
 ∃ J18 : Hp → Prop,
 (cond β14
 (X [⟨.iface 9 (.string ⟨#[116, 104, 101, 32, 114, 101, 115, 117, 108, 116, 32, 111, 102, 32, 40, 108, 101, 110, 40, 120, 41, 32, 42, 32, 99, 111, 117, 110, 116, 41, 32, 111, 118, 101, 114, 102, 108, 111, 119, 115]⟩), false, false⟩] h9)
 (J18 h9)) ∧
 ∀  (d19 : Nat → Value) (h20 : Hp), J18 h20 →
 asI v13 fun n21 => makeK Try.prog 27 h20 (.int .i64 (IntKind.wrap .i64 n21)) (.int .i64 (IntKind.wrap .i64 n21)) fun v22 h23 =>
 copyK Try.prog 27 h23 v22 x_p fun w24 h25 =>
 ∃ (I26 : Value → Hp → Prop) (μ27 : Value → Hp → Nat), I26 w24 h25 ∧ ∀ n_28 (d29 : Nat → Value) (h30 : Hp), I26 n_28 h30 →
 asSl v22 fun a31 l32 c33 => asK .i64 n_28 fun n34 => cond (decide ((n34 : Int) < (l32 : Int)))
 (asSl v22 fun a35 l36 c37 => asI n_28 fun n38 => 0 ≤ (n38 : Int) ∧ (n38 : Int) ≤ (l36 : Int) ∧ (l36 : Int) ≤ (c37 : Int) ∧ asSl v22 fun a39 l40 c41 => asI n_28 fun n42 => 0 ≤ (((0 : Nat) : Int) : Int) ∧ (((0 : Nat) : Int) : Int) ≤ n42 ∧ n42 ≤ (c41 : Int) ∧ copyK Try.prog 27 h30 (.slice (if c37 = Int.toNat n38 then a35 else Option.map (fun y => Addr.add y (Int.toNat n38 * 1)) a35) (Int.toNat (l36 : Int) - Int.toNat n38) (c37 - Int.toNat n38)) (.slice (if c41 = Int.toNat ((0 : Nat) : Int) then a39 else Option.map (fun y => Addr.add y (Int.toNat ((0 : Nat) : Int) * 1)) a39) (Int.toNat n42 - Int.toNat ((0 : Nat) : Int)) (c41 - Int.toNat ((0 : Nat) : Int))) fun w43 h44 =>
 asK .i64 n_28 fun n45 => asK .i64 w43 fun n46 => I26 (.int .i64 (IntKind.wrap .i64 (n45 + n46))) h44 ∧ μ27 (.int .i64 (IntKind.wrap .i64 (n45 + n46))) h44 < μ27 n_28 h30)
 (R v22 h30)) X
def A_slices_Repeat_sl_int_int : Ann :=
 (.two .leaf (.two (.two .leaf (.join [11] [] (.two .leaf .leaf))) (.two .leaf (.two (.two (.jb [21, 22, 23, 24, 25, 26] 26 .leaf) (.join [27] [] (.two .leaf .leaf))) (.two .leaf (.two .leaf (.two (.one (.loop [34, 35, 36, 37, 38, 39, 40, 41, 42, 43, 44, 45, 46, 8] [8] (.two (.two .leaf (.two .leaf .leaf)) (.one (.plan [0, 1, 2, 3, 4, 5, 6, 7, 8, 9]))))) (.two .leaf .leaf))))))))
theorem C_slices_Repeat_sl_int_int (ω : Amb) (x_p count_p : Value) (h : Hp) (R : Value → Hp → Prop) (X : List PanicEntry → Hp → Prop) (hk : W_slices_Repeat_sl_int_int ω x_p count_p h R X) : CallX Try.prog ω 26 [x_p, count_p] h R X :=
 callX_of (an := A_slices_Repeat_sl_int_int) Try.func26 ((show fnX Try.prog ω A_slices_Repeat_sl_int_int Try.f26 [x_p, count_p] h R X = W_slices_Repeat_sl_int_int ω x_p count_p h R X by kernel_rfl) ▸ hk)

/-- slices.insertionSortOrdered[int] -/
abbrev n_slices_insertionSortOrdered_int : Nat := 27
def W_slices_insertionSortOrdered_int (ω : Amb) (data_p a_p b_p : Value) (h : Hp) (R : Value → Hp → Prop) (X : List PanicEntry → Hp → Prop) : Prop :=
 asK .i64 a_p fun n0 => ∃ (I1 : Value → Hp → Prop) (μ2 : Value → Hp → Nat), I1 (.int .i64 (IntKind.wrap .i64 (n0 + 1))) h ∧ ∀ i_3 (d4 : Nat → Value) (h5 : Hp), I1 i_3 h5 →
 asK .i64 i_3 fun n6 => asK .i64 b_p fun n7 => cond (decide ((n6 : Int) < n7))
 (∃ (I8 : Value → Hp → Prop) (μ9 : Value → Hp → Nat), I8 i_3 h5 ∧ ∀ j_10 (d11 : Nat → Value) (h12 : Hp), I8 j_10 h12 →
 ∃ J13 : Value → Hp → Prop,
 (asK .i64 j_10 fun n17 => asK .i64 a_p fun n18 => cond (decide ((n17 : Int) > n18))
 (asSl1 data_p fun a19 l20 c21 => asI j_10 fun n22 => 0 ≤ (n22 : Int) ∧ n22 < (l20 : Int) ∧ ∃ v23, cellH h12 (Addr.add a19 (Int.toNat n22 * 1)) = some v23 ∧
 asK .i64 j_10 fun n24 => asSl1 data_p fun a25 l26 c27 => 0 ≤ ((IntKind.wrap .i64 (n24 - 1)) : Int) ∧ (IntKind.wrap .i64 (n24 - 1)) < (l26 : Int) ∧ ∃ v28, cellH h12 (Addr.add a25 (Int.toNat (IntKind.wrap .i64 (n24 - 1)) * 1)) = some v28 ∧
 CallX Try.prog ω 33 [v23, v28] h12 (fun r29 h30 =>
 J13 r29 h30) X)
 (J13 (.bool false) h12)) ∧
 ∀ t30_14 (d15 : Nat → Value) (h16 : Hp), J13 t30_14 h16 →
 asB t30_14 fun b31 => cond b31
 (asK .i64 j_10 fun n32 => asK .i64 j_10 fun n33 => asSl1 data_p fun a34 l35 c36 => 0 ≤ ((IntKind.wrap .i64 (n33 - 1)) : Int) ∧ (IntKind.wrap .i64 (n33 - 1)) < (l35 : Int) ∧ ∃ v37, cellH h16 (Addr.add a34 (Int.toNat (IntKind.wrap .i64 (n33 - 1)) * 1)) = some v37 ∧
 asSl1 data_p fun a38 l39 c40 => asI j_10 fun n41 => 0 ≤ (n41 : Int) ∧ n41 < (l39 : Int) ∧ ∃ v42, cellH h16 (Addr.add a38 (Int.toNat n41 * 1)) = some v42 ∧
 asSl1 data_p fun a43 l44 c45 => asI j_10 fun n46 => 0 ≤ (n46 : Int) ∧ n46 < (l44 : Int) ∧ oneK v37 (storeK1 h16 (Addr.add a43 (Int.toNat n46 * 1)) v37 fun h47 =>
 asSl1 data_p fun a48 l49 c50 => 0 ≤ ((IntKind.wrap .i64 (n32 - 1)) : Int) ∧ (IntKind.wrap .i64 (n32 - 1)) < (l49 : Int) ∧ oneK v42 (storeK1 h47 (Addr.add a48 (Int.toNat (IntKind.wrap .i64 (n32 - 1)) * 1)) v42 fun h51 =>
 asK .i64 j_10 fun n52 => I8 (.int .i64 (IntKind.wrap .i64 (n52 - 1))) h51 ∧ μ9 (.int .i64 (IntKind.wrap .i64 (n52 - 1))) h51 < μ9 j_10 h12)))
 (asK .i64 i_3 fun n53 => I1 (.int .i64 (IntKind.wrap .i64 (n53 + 1))) h16 ∧ μ2 (.int .i64 (IntKind.wrap .i64 (n53 + 1))) h16 < μ2 i_3 h5))
 (R (.tuple #[]) h5)
def A_slices_insertionSortOrdered_int : Ann :=
 (.two .leaf (.one (.loop [10, 11, 12, 15, 7, 16, 17, 18, 19, 20, 21, 22, 23, 24, 25, 26, 27, 28, 29, 30, 33, 34, 35, 36, 37, 38, 39, 40, 41, 42, 43, 44, 45, 46, 47, 48, 31, 32, 13, 14, 6] [6] (.two (.two .leaf (.two .leaf .leaf)) (.two (.one (.two .leaf (.one (.loop [16, 17, 18, 19, 20, 21, 22, 23, 24, 25, 26, 27, 28, 29, 30, 33, 34, 35, 36, 37, 38, 39, 40, 41, 42, 43, 44, 45, 46, 47, 48, 31, 32, 7] [7] (.two (.two (.join [16, 17, 18, 19, 20, 21, 22, 23, 24, 25, 26, 27, 28, 29, 30] [30] (.plan [0, 1, 2, 3, 4, 5, 6, 7, 8, 9, 10, 11, 12, 13, 14])) (.two .leaf .leaf)) (.two (.one (.plan [0, 1, 2, 3, 4, 5, 6, 7, 8, 9, 10, 11, 12, 13, 14, 15, 16, 17])) .leaf)))))) .leaf)))))
theorem C_slices_insertionSortOrdered_int (ω : Amb) (data_p a_p b_p : Value) (h : Hp) (R : Value → Hp → Prop) (X : List PanicEntry → Hp → Prop) (hk : W_slices_insertionSortOrdered_int ω data_p a_p b_p h R X) : CallX Try.prog ω 27 [data_p, a_p, b_p] h R X :=
 callX_of (an := A_slices_insertionSortOrdered_int) Try.func27 ((show fnX Try.prog ω A_slices_insertionSortOrdered_int Try.f27 [data_p, a_p, b_p] h R X = W_slices_insertionSortOrdered_int ω data_p a_p b_p h R X by kernel_rfl) ▸ hk)

/-- slices.heapSortOrdered[int] -/
abbrev n_slices_heapSortOrdered_int : Nat := 28
def W_slices_heapSortOrdered_int (ω : Amb) (data_p a_p b_p : Value) (h : Hp) (R : Value → Hp → Prop) (X : List PanicEntry → Hp → Prop) : Prop :=
 asK .i64 b_p fun n0 => asK .i64 a_p fun n1 => (2 : Int) ≠ 0 ∧ ∃ (I2 : Value → Hp → Prop) (μ3 : Value → Hp → Nat), I2 (.int .i64 (IntKind.wrap .i64 (Int.tdiv (IntKind.wrap .i64 ((IntKind.wrap .i64 (n0 - n1)) - 1)) 2))) h ∧ ∀ i_4 (d5 : Nat → Value) (h6 : Hp), I2 i_4 h6 →
 asK .i64 i_4 fun n7 => cond (decide ((n7 : Int) ≥ 0))
 (CallX Try.prog ω 39 [data_p, i_4, (.int .i64 (IntKind.wrap .i64 (n0 - n1))), a_p] h6 (fun r8 h9 =>
 asK .i64 i_4 fun n10 => I2 (.int .i64 (IntKind.wrap .i64 (n10 - 1))) h9 ∧ μ3 (.int .i64 (IntKind.wrap .i64 (n10 - 1))) h9 < μ3 i_4 h6) X)
 (∃ (I11 : Value → Hp → Prop) (μ12 : Value → Hp → Nat), I11 (.int .i64 (IntKind.wrap .i64 ((IntKind.wrap .i64 (n0 - n1)) - 1))) h6 ∧ ∀ i_13 (d14 : Nat → Value) (h15 : Hp), I11 i_13 h15 →
 asK .i64 i_13 fun n16 => cond (decide ((n16 : Int) ≥ 0))
 (asK .i64 a_p fun n17 => asK .i64 i_13 fun n18 => asK .i64 a_p fun n19 => asK .i64 i_13 fun n20 => asSl1 data_p fun a21 l22 c23 => 0 ≤ ((IntKind.wrap .i64 (n19 + n20)) : Int) ∧ (IntKind.wrap .i64 (n19 + n20)) < (l22 : Int) ∧ ∃ v24, cellH h15 (Addr.add a21 (Int.toNat (IntKind.wrap .i64 (n19 + n20)) * 1)) = some v24 ∧
 asSl1 data_p fun a25 l26 c27 => asI a_p fun n28 => 0 ≤ (n28 : Int) ∧ n28 < (l26 : Int) ∧ ∃ v29, cellH h15 (Addr.add a25 (Int.toNat n28 * 1)) = some v29 ∧
 asSl1 data_p fun a30 l31 c32 => asI a_p fun n33 => 0 ≤ (n33 : Int) ∧ n33 < (l31 : Int) ∧ oneK v24 (storeK1 h15 (Addr.add a30 (Int.toNat n33 * 1)) v24 fun h34 =>
 asSl1 data_p fun a35 l36 c37 => 0 ≤ ((IntKind.wrap .i64 (n17 + n18)) : Int) ∧ (IntKind.wrap .i64 (n17 + n18)) < (l36 : Int) ∧ oneK v29 (storeK1 h34 (Addr.add a35 (Int.toNat (IntKind.wrap .i64 (n17 + n18)) * 1)) v29 fun h38 =>
 CallX Try.prog ω 39 [data_p, (.int .i64 0), i_13, a_p] h38 (fun r39 h40 =>
 asK .i64 i_13 fun n41 => I11 (.int .i64 (IntKind.wrap .i64 (n41 - 1))) h40 ∧ μ12 (.int .i64 (IntKind.wrap .i64 (n41 - 1))) h40 < μ12 i_13 h15) X)))
 (R (.tuple #[]) h15))
def A_slices_heapSortOrdered_int : Ann :=
 (.two .leaf (.two .leaf (.two .leaf (.two (.two .leaf (.one (.loop [18, 19, 22, 23, 24, 25, 26, 20, 21, 9] [9] (.two (.two .leaf (.two .leaf .leaf)) (.two (.one .leaf) .leaf))))) (.two .leaf (.one (.loop [29, 30, 33, 34, 35, 36, 37, 38, 39, 40, 41, 42, 43, 44, 45, 46, 47, 48, 49, 50, 51, 52, 53, 54, 55, 31, 32, 10] [10] (.two (.two .leaf (.two .leaf .leaf)) (.two (.one (.two (.plan [0, 1, 2, 3, 4, 5, 6, 7, 8, 9, 10, 11, 12, 13, 14, 15, 16, 17, 18, 19]) .leaf)) .leaf)))))))))
theorem C_slices_heapSortOrdered_int (ω : Amb) (data_p a_p b_p : Value) (h : Hp) (R : Value → Hp → Prop) (X : List PanicEntry → Hp → Prop) (hk : W_slices_heapSortOrdered_int ω data_p a_p b_p h R X) : CallX Try.prog ω 28 [data_p, a_p, b_p] h R X :=
 callX_of (an := A_slices_heapSortOrdered_int) Try.func28 ((show fnX Try.prog ω A_slices_heapSortOrdered_int Try.f28 [data_p, a_p, b_p] h R X = W_slices_heapSortOrdered_int ω data_p a_p b_p h R X by kernel_rfl) ▸ hk)

/-- slices.breakPatternsOrdered[int] -/
abbrev n_slices_breakPatternsOrdered_int : Nat := 29
def W_slices_breakPatternsOrdered_int (ω : Amb) (data_p a_p b_p : Value) (h : Hp) (R : Value → Hp → Prop) (X : List PanicEntry → Hp → Prop) : Prop :=
 asK .i64 b_p fun n0 => asK .i64 a_p fun n1 => ∃ J2 : Hp → Prop,
 (cond (decide (((IntKind.wrap .i64 (n0 - n1)) : Int) ≥ 8))
 (storeK1 (Array.push h (.cells #[(.int .u64 0)] 70 (0, 0))) ⟨Array.size h, 0, none⟩ (.int .u64 (IntKind.wrap .u64 (IntKind.wrap .i64 (n0 - n1)))) fun h5 =>
 CallX Try.prog ω 40 [(.int .i64 (IntKind.wrap .i64 (n0 - n1)))] h5 (fun r6 h7 =>
 (4 : Int) ≠ 0 ∧ asK .i64 a_p fun n8 => ∃ (I9 : Value → Hp → Prop) (μ10 : Value → Hp → Nat), I9 (.int .i64 (IntKind.wrap .i64 ((IntKind.wrap .i64 (n8 + (IntKind.wrap .i64 ((IntKind.wrap .i64 (Int.tdiv (IntKind.wrap .i64 (n0 - n1)) 4)) * 2)))) - 1))) h7 ∧ ∀ idx_11 (d12 : Nat → Value) (h13 : Hp), I9 idx_11 h13 →
 (4 : Int) ≠ 0 ∧ asK .i64 a_p fun n14 => asK .i64 idx_11 fun n15 => cond (decide ((n15 : Int) ≤ (IntKind.wrap .i64 ((IntKind.wrap .i64 (n14 + (IntKind.wrap .i64 ((IntKind.wrap .i64 (Int.tdiv (IntKind.wrap .i64 (n0 - n1)) 4)) * 2)))) + 1))))
 (CallX Try.prog ω 41 [(.pointer (some ⟨Array.size h, 0, none⟩))] h13 (fun r16 h17 =>
 asK .u64 r6 fun n18 => asK .u64 r16 fun n19 => ∃ J20 : Value → Hp → Prop,
 (cond (decide (((IntKind.wrap .i64 (bitI .u64 .and n19 (IntKind.wrap .u64 (n18 - 1)))) : Int) ≥ (IntKind.wrap .i64 (n0 - n1))))
 (J20 (.int .i64 (IntKind.wrap .i64 ((IntKind.wrap .i64 (bitI .u64 .and n19 (IntKind.wrap .u64 (n18 - 1)))) - (IntKind.wrap .i64 (n0 - n1))))) h17)
 (J20 (.int .i64 (IntKind.wrap .i64 (bitI .u64 .and n19 (IntKind.wrap .u64 (n18 - 1))))) h17)) ∧
 ∀ other_21 (d22 : Nat → Value) (h23 : Hp), J20 other_21 h23 →
 asK .i64 a_p fun n24 => asK .i64 other_21 fun n25 => asK .i64 a_p fun n26 => asK .i64 other_21 fun n27 => asSl1 data_p fun a28 l29 c30 => 0 ≤ ((IntKind.wrap .i64 (n26 + n27)) : Int) ∧ (IntKind.wrap .i64 (n26 + n27)) < (l29 : Int) ∧ ∃ v31, cellH h23 (Addr.add a28 (Int.toNat (IntKind.wrap .i64 (n26 + n27)) * 1)) = some v31 ∧
 asSl1 data_p fun a32 l33 c34 => asI idx_11 fun n35 => 0 ≤ (n35 : Int) ∧ n35 < (l33 : Int) ∧ ∃ v36, cellH h23 (Addr.add a32 (Int.toNat n35 * 1)) = some v36 ∧
 asSl1 data_p fun a37 l38 c39 => asI idx_11 fun n40 => 0 ≤ (n40 : Int) ∧ n40 < (l38 : Int) ∧ oneK v31 (storeK1 h23 (Addr.add a37 (Int.toNat n40 * 1)) v31 fun h41 =>
 asSl1 data_p fun a42 l43 c44 => 0 ≤ ((IntKind.wrap .i64 (n24 + n25)) : Int) ∧ (IntKind.wrap .i64 (n24 + n25)) < (l43 : Int) ∧ oneK v36 (storeK1 h41 (Addr.add a42 (Int.toNat (IntKind.wrap .i64 (n24 + n25)) * 1)) v36 fun h45 =>
 asK .i64 idx_11 fun n46 => I9 (.int .i64 (IntKind.wrap .i64 (n46 + 1))) h45 ∧ μ10 (.int .i64 (IntKind.wrap .i64 (n46 + 1))) h45 < μ10 idx_11 h13))) X)
 (J2 h13)) X)
 (J2 h)) ∧
 ∀  (d3 : Nat → Value) (h4 : Hp), J2 h4 →
 R (.tuple #[]) h4
def A_slices_breakPatternsOrdered_int : Ann :=
 (.two .leaf (.two .leaf (.join [16, 17, 7, 18, 19, 8, 20, 21, 22, 23, 24, 25, 9, 26, 27, 28, 29, 30, 31, 32, 33, 36, 37, 38, 39, 40, 10, 41, 42, 43, 44, 45, 46, 47, 48, 49, 50, 51, 52, 53, 54, 55, 56, 57, 58, 59, 60, 61, 62, 63, 64, 34, 35] [] (.two (.two .leaf (.two .leaf (.two .leaf (.one (.loop [26, 27, 28, 29, 30, 31, 32, 33, 36, 37, 38, 39, 40, 10, 41, 42, 43, 44, 45, 46, 47, 48, 49, 50, 51, 52, 53, 54, 55, 56, 57, 58, 59, 60, 61, 62, 63, 64, 34, 35, 9] [9] (.two (.two .leaf (.two .leaf .leaf)) (.two (.one (.two .leaf (.two (.two .leaf (.join [44, 45, 46, 10] [10] (.two .leaf .leaf))) (.plan [0, 1, 2, 3, 4, 5, 6, 7, 8, 9, 10, 11, 12, 13, 14, 15, 16, 17, 18, 19])))) .leaf))))))) .leaf))))
theorem C_slices_breakPatternsOrdered_int (ω : Amb) (data_p a_p b_p : Value) (h : Hp) (R : Value → Hp → Prop) (X : List PanicEntry → Hp → Prop) (hk : W_slices_breakPatternsOrdered_int ω data_p a_p b_p h R X) : CallX Try.prog ω 29 [data_p, a_p, b_p] h R X :=
 callX_of (an := A_slices_breakPatternsOrdered_int) Try.func29 ((show fnX Try.prog ω A_slices_breakPatternsOrdered_int Try.f29 [data_p, a_p, b_p] h R X = W_slices_breakPatternsOrdered_int ω data_p a_p b_p h R X by kernel_rfl) ▸ hk)

/-- slices.choosePivotOrdered[int] -/
abbrev n_slices_choosePivotOrdered_int : Nat := 30
def W_slices_choosePivotOrdered_int (ω : Amb) (data_p a_p b_p : Value) (h : Hp) (R : Value → Hp → Prop) (X : List PanicEntry → Hp → Prop) : Prop :=
 asK .i64 b_p fun n0 => asK .i64 a_p fun n1 => (4 : Int) ≠ 0 ∧ asK .i64 a_p fun n2 => (4 : Int) ≠ 0 ∧ asK .i64 a_p fun n3 => (4 : Int) ≠ 0 ∧ asK .i64 a_p fun n4 => ∃ J5 : Value → Hp → Prop,
 (cond (decide (((IntKind.wrap .i64 (n0 - n1)) : Int) ≥ 8))
 (∃ J9 : Value → Value → Value → Hp → Prop,
 (cond (decide (((IntKind.wrap .i64 (n0 - n1)) : Int) ≥ 50))
 (CallX Try.prog ω 42 [data_p, (.int .i64 (IntKind.wrap .i64 (n2 + (IntKind.wrap .i64 ((IntKind.wrap .i64 (Int.tdiv (IntKind.wrap .i64 (n0 - n1)) 4)) * 1))))), (.pointer (some ⟨Array.size h, 0, none⟩))] (Array.push h (.cells #[(.int .i64 0)] 3 (0, 0))) (fun r15 h16 =>
 CallX Try.prog ω 42 [data_p, (.int .i64 (IntKind.wrap .i64 (n3 + (IntKind.wrap .i64 ((IntKind.wrap .i64 (Int.tdiv (IntKind.wrap .i64 (n0 - n1)) 4)) * 2))))), (.pointer (some ⟨Array.size h, 0, none⟩))] h16 (fun r17 h18 =>
 CallX Try.prog ω 42 [data_p, (.int .i64 (IntKind.wrap .i64 (n4 + (IntKind.wrap .i64 ((IntKind.wrap .i64 (Int.tdiv (IntKind.wrap .i64 (n0 - n1)) 4)) * 3))))), (.pointer (some ⟨Array.size h, 0, none⟩))] h18 (fun r19 h20 =>
 J9 r15 r17 r19 h20) X) X) X)
 (J9 (.int .i64 (IntKind.wrap .i64 (n2 + (IntKind.wrap .i64 ((IntKind.wrap .i64 (Int.tdiv (IntKind.wrap .i64 (n0 - n1)) 4)) * 1))))) (.int .i64 (IntKind.wrap .i64 (n3 + (IntKind.wrap .i64 ((IntKind.wrap .i64 (Int.tdiv (IntKind.wrap .i64 (n0 - n1)) 4)) * 2))))) (.int .i64 (IntKind.wrap .i64 (n4 + (IntKind.wrap .i64 ((IntKind.wrap .i64 (Int.tdiv (IntKind.wrap .i64 (n0 - n1)) 4)) * 3))))) (Array.push h (.cells #[(.int .i64 0)] 3 (0, 0))))) ∧
 ∀ i_10 j_11 k_12 (d13 : Nat → Value) (h14 : Hp), J9 i_10 j_11 k_12 h14 →
 CallX Try.prog ω 43 [data_p, i_10, j_11, k_12, (.pointer (some ⟨Array.size h, 0, none⟩))] h14 (fun r21 h22 =>
 J5 r21 h22) X)
 (J5 (.int .i64 (IntKind.wrap .i64 (n3 + (IntKind.wrap .i64 ((IntKind.wrap .i64 (Int.tdiv (IntKind.wrap .i64 (n0 - n1)) 4)) * 2))))) (Array.push h (.cells #[(.int .i64 0)] 3 (0, 0))))) ∧
 ∀ j_6 (d7 : Nat → Value) (h8 : Hp), J5 j_6 h8 →
 ∃ v23, cellH h8 ⟨Array.size h, 0, none⟩ = some v23 ∧
 asK .i64 v23 fun n24 => cond (n24 == (0 : Int))
 (R (.tuple #[j_6, (.int .i64 1)]) h8)
 (asK .i64 v23 fun n25 => cond (n25 == (12 : Int))
 (R (.tuple #[j_6, (.int .i64 2)]) h8)
 (R (.tuple #[j_6, (.int .i64 0)]) h8))
def A_slices_choosePivotOrdered_int : Ann :=
 (.two .leaf (.two .leaf (.two .leaf (.two .leaf (.two .leaf (.two .leaf (.two (.two .leaf (.join [33, 34, 35, 36, 37, 10, 38, 39, 40, 11, 41, 42, 43, 12, 44, 45, 46, 47, 48] [11] (.two (.two (.two .leaf (.join [35, 36, 37, 10, 38, 39, 40, 11, 41, 42, 43, 12] [10, 11, 12] (.two (.two .leaf (.two .leaf .leaf)) .leaf))) .leaf) .leaf))) (.two .leaf (.one (.two .leaf (.two (.two .leaf .leaf) (.two .leaf (.two (.two .leaf .leaf) (.two .leaf .leaf))))))))))))))
theorem C_slices_choosePivotOrdered_int (ω : Amb) (data_p a_p b_p : Value) (h : Hp) (R : Value → Hp → Prop) (X : List PanicEntry → Hp → Prop) (hk : W_slices_choosePivotOrdered_int ω data_p a_p b_p h R X) : CallX Try.prog ω 30 [data_p, a_p, b_p] h R X :=
 callX_of (an := A_slices_choosePivotOrdered_int) Try.func30 ((show fnX Try.prog ω A_slices_choosePivotOrdered_int Try.f30 [data_p, a_p, b_p] h R X = W_slices_choosePivotOrdered_int ω data_p a_p b_p h R X by kernel_rfl) ▸ hk)

/-- slices.reverseRangeOrdered[int] -/
abbrev n_slices_reverseRangeOrdered_int : Nat := 31
def W_slices_reverseRangeOrdered_int (ω : Amb) (data_p a_p b_p : Value) (h : Hp) (R : Value → Hp → Prop) (X : List PanicEntry → Hp → Prop) : Prop :=
 asK .i64 b_p fun n0 => ∃ (I1 : Value → Value → Hp → Prop) (μ2 : Value → Value → Hp → Nat), I1 a_p (.int .i64 (IntKind.wrap .i64 (n0 - 1))) h ∧ ∀ i_3 j_4 (d5 : Nat → Value) (h6 : Hp), I1 i_3 j_4 h6 →
 asK .i64 i_3 fun n7 => asK .i64 j_4 fun n8 => cond (decide ((n7 : Int) < n8))
 (asSl1 data_p fun a9 l10 c11 => asI j_4 fun n12 => 0 ≤ (n12 : Int) ∧ n12 < (l10 : Int) ∧ ∃ v13, cellH h6 (Addr.add a9 (Int.toNat n12 * 1)) = some v13 ∧
 asSl1 data_p fun a14 l15 c16 => asI i_3 fun n17 => 0 ≤ (n17 : Int) ∧ n17 < (l15 : Int) ∧ ∃ v18, cellH h6 (Addr.add a14 (Int.toNat n17 * 1)) = some v18 ∧
 asSl1 data_p fun a19 l20 c21 => asI i_3 fun n22 => 0 ≤ (n22 : Int) ∧ n22 < (l20 : Int) ∧ oneK v13 (storeK1 h6 (Addr.add a19 (Int.toNat n22 * 1)) v13 fun h23 =>
 asSl1 data_p fun a24 l25 c26 => asI j_4 fun n27 => 0 ≤ (n27 : Int) ∧ n27 < (l25 : Int) ∧ oneK v18 (storeK1 h23 (Addr.add a24 (Int.toNat n27 * 1)) v18 fun h28 =>
 asK .i64 i_3 fun n29 => asK .i64 j_4 fun n30 => I1 (.int .i64 (IntKind.wrap .i64 (n29 + 1))) (.int .i64 (IntKind.wrap .i64 (n30 - 1))) h28 ∧ μ2 (.int .i64 (IntKind.wrap .i64 (n29 + 1))) (.int .i64 (IntKind.wrap .i64 (n30 - 1))) h28 < μ2 i_3 j_4 h6)))
 (R (.tuple #[]) h6)
def A_slices_reverseRangeOrdered_int : Ann :=
 (.two .leaf (.two .leaf (.one (.loop [11, 12, 13, 14, 15, 16, 17, 18, 19, 20, 21, 22, 23, 24, 25, 26, 27, 28, 29, 6, 30, 31, 7] [6, 7] (.two (.two .leaf (.two .leaf .leaf)) (.one (.two (.plan [0, 1, 2, 3, 4, 5, 6, 7, 8, 9, 10, 11, 12, 13, 14, 15]) (.two .leaf .leaf))))))))
theorem C_slices_reverseRangeOrdered_int (ω : Amb) (data_p a_p b_p : Value) (h : Hp) (R : Value → Hp → Prop) (X : List PanicEntry → Hp → Prop) (hk : W_slices_reverseRangeOrdered_int ω data_p a_p b_p h R X) : CallX Try.prog ω 31 [data_p, a_p, b_p] h R X :=
 callX_of (an := A_slices_reverseRangeOrdered_int) Try.func31 ((show fnX Try.prog ω A_slices_reverseRangeOrdered_int Try.f31 [data_p, a_p, b_p] h R X = W_slices_reverseRangeOrdered_int ω data_p a_p b_p h R X by kernel_rfl) ▸ hk)

/-- slices.partialInsertionSortOrdered[int] -/
abbrev n_slices_partialInsertionSortOrdered_int : Nat := 32
def W_slices_partialInsertionSortOrdered_int (ω : Amb) (data_p a_p b_p : Value) (h : Hp) (R : Value → Hp → Prop) (X : List PanicEntry → Hp → Prop) : Prop :=
 asK .i64 a_p fun n0 => ∃ (I1 : Value → Value → Hp → Prop) (μ2 : Value → Value → Hp → Nat), I1 (.int .i64 (IntKind.wrap .i64 (n0 + 1))) (.int .i64 0) h ∧ ∀ i_3 j_4 (d5 : Nat → Value) (h6 : Hp), I1 i_3 j_4 h6 →
 asK .i64 j_4 fun n7 => cond (decide ((n7 : Int) < 5))
 (∃ J8 : Value → Hp → Prop,
 (∃ (I12 : Value → Hp → Prop) (μ13 : Value → Hp → Nat), I12 i_3 h6 ∧ ∀ i_14 (d15 : Nat → Value) (h16 : Hp), I12 i_14 h16 →
 ∃ J17 : Value → Hp → Prop,
 (asK .i64 i_14 fun n21 => asK .i64 b_p fun n22 => cond (decide ((n21 : Int) < n22))
 (asSl1 data_p fun a23 l24 c25 => asI i_14 fun n26 => 0 ≤ (n26 : Int) ∧ n26 < (l24 : Int) ∧ ∃ v27, cellH h16 (Addr.add a23 (Int.toNat n26 * 1)) = some v27 ∧
 asK .i64 i_14 fun n28 => asSl1 data_p fun a29 l30 c31 => 0 ≤ ((IntKind.wrap .i64 (n28 - 1)) : Int) ∧ (IntKind.wrap .i64 (n28 - 1)) < (l30 : Int) ∧ ∃ v32, cellH h16 (Addr.add a29 (Int.toNat (IntKind.wrap .i64 (n28 - 1)) * 1)) = some v32 ∧
 CallX Try.prog ω 33 [v27, v32] h16 (fun r33 h34 =>
 asB r33 fun b35 => J17 (.bool (!b35)) h34) X)
 (J17 (.bool false) h16)) ∧
 ∀ t32_18 (d19 : Nat → Value) (h20 : Hp), J17 t32_18 h20 →
 asB t32_18 fun b36 => cond b36
 (asK .i64 i_14 fun n37 => I12 (.int .i64 (IntKind.wrap .i64 (n37 + 1))) h20 ∧ μ13 (.int .i64 (IntKind.wrap .i64 (n37 + 1))) h20 < μ13 i_14 h16)
 (asK .i64 i_14 fun n38 => asK .i64 b_p fun n39 => cond (n38 == (n39 : Int))
 (R (.bool true) h20)
 (asK .i64 b_p fun n40 => asK .i64 a_p fun n41 => cond (decide (((IntKind.wrap .i64 (n40 - n41)) : Int) < 50))
 (R (.bool false) h20)
 (asK .i64 i_14 fun n42 => asK .i64 i_14 fun n43 => asSl1 data_p fun a44 l45 c46 => 0 ≤ ((IntKind.wrap .i64 (n43 - 1)) : Int) ∧ (IntKind.wrap .i64 (n43 - 1)) < (l45 : Int) ∧ ∃ v47, cellH h20 (Addr.add a44 (Int.toNat (IntKind.wrap .i64 (n43 - 1)) * 1)) = some v47 ∧
 asSl1 data_p fun a48 l49 c50 => asI i_14 fun n51 => 0 ≤ (n51 : Int) ∧ n51 < (l49 : Int) ∧ ∃ v52, cellH h20 (Addr.add a48 (Int.toNat n51 * 1)) = some v52 ∧
 asSl1 data_p fun a53 l54 c55 => asI i_14 fun n56 => 0 ≤ (n56 : Int) ∧ n56 < (l54 : Int) ∧ oneK v47 (storeK1 h20 (Addr.add a53 (Int.toNat n56 * 1)) v47 fun h57 =>
 asSl1 data_p fun a58 l59 c60 => 0 ≤ ((IntKind.wrap .i64 (n42 - 1)) : Int) ∧ (IntKind.wrap .i64 (n42 - 1)) < (l59 : Int) ∧ oneK v52 (storeK1 h57 (Addr.add a58 (Int.toNat (IntKind.wrap .i64 (n42 - 1)) * 1)) v52 fun h61 =>
 asK .i64 i_14 fun n62 => asK .i64 a_p fun n63 => ∃ J64 : Hp → Prop,
 (cond (decide (((IntKind.wrap .i64 (n62 - n63)) : Int) ≥ 2))
 (asK .i64 i_14 fun n67 => ∃ J68 : Hp → Prop,
 (∃ (I71 : Value → Hp → Prop) (μ72 : Value → Hp → Nat), I71 (.int .i64 (IntKind.wrap .i64 (n67 - 1))) h61 ∧ ∀ j_73 (d74 : Nat → Value) (h75 : Hp), I71 j_73 h75 →
 asK .i64 j_73 fun n76 => cond (decide ((n76 : Int) ≥ 1))
 (asSl1 data_p fun a77 l78 c79 => asI j_73 fun n80 => 0 ≤ (n80 : Int) ∧ n80 < (l78 : Int) ∧ ∃ v81, cellH h75 (Addr.add a77 (Int.toNat n80 * 1)) = some v81 ∧
 asK .i64 j_73 fun n82 => asSl1 data_p fun a83 l84 c85 => 0 ≤ ((IntKind.wrap .i64 (n82 - 1)) : Int) ∧ (IntKind.wrap .i64 (n82 - 1)) < (l84 : Int) ∧ ∃ v86, cellH h75 (Addr.add a83 (Int.toNat (IntKind.wrap .i64 (n82 - 1)) * 1)) = some v86 ∧
 CallX Try.prog ω 33 [v81, v86] h75 (fun r87 h88 =>
 asB r87 fun b89 => cond (!b89)
 (J68 h88)
 (asK .i64 j_73 fun n90 => asK .i64 j_73 fun n91 => asSl1 data_p fun a92 l93 c94 => 0 ≤ ((IntKind.wrap .i64 (n91 - 1)) : Int) ∧ (IntKind.wrap .i64 (n91 - 1)) < (l93 : Int) ∧ ∃ v95, cellH h88 (Addr.add a92 (Int.toNat (IntKind.wrap .i64 (n91 - 1)) * 1)) = some v95 ∧
 asSl1 data_p fun a96 l97 c98 => asI j_73 fun n99 => 0 ≤ (n99 : Int) ∧ n99 < (l97 : Int) ∧ ∃ v100, cellH h88 (Addr.add a96 (Int.toNat n99 * 1)) = some v100 ∧
 asSl1 data_p fun a101 l102 c103 => asI j_73 fun n104 => 0 ≤ (n104 : Int) ∧ n104 < (l102 : Int) ∧ oneK v95 (storeK1 h88 (Addr.add a101 (Int.toNat n104 * 1)) v95 fun h105 =>
 asSl1 data_p fun a106 l107 c108 => 0 ≤ ((IntKind.wrap .i64 (n90 - 1)) : Int) ∧ (IntKind.wrap .i64 (n90 - 1)) < (l107 : Int) ∧ oneK v100 (storeK1 h105 (Addr.add a106 (Int.toNat (IntKind.wrap .i64 (n90 - 1)) * 1)) v100 fun h109 =>
 asK .i64 j_73 fun n110 => I71 (.int .i64 (IntKind.wrap .i64 (n110 - 1))) h109 ∧ μ72 (.int .i64 (IntKind.wrap .i64 (n110 - 1))) h109 < μ72 j_73 h75)))) X)
 (J68 h75)) ∧
 ∀  (d69 : Nat → Value) (h70 : Hp), J68 h70 →
 J64 h70)
 (J64 h61)) ∧
 ∀  (d65 : Nat → Value) (h66 : Hp), J64 h66 →
 asK .i64 b_p fun n111 => asK .i64 i_14 fun n112 => ∃ J113 : Hp → Prop,
 (cond (decide (((IntKind.wrap .i64 (n111 - n112)) : Int) ≥ 2))
 (asK .i64 i_14 fun n116 => ∃ J117 : Hp → Prop,
 (∃ (I120 : Value → Hp → Prop) (μ121 : Value → Hp → Nat), I120 (.int .i64 (IntKind.wrap .i64 (n116 + 1))) h66 ∧ ∀ j_122 (d123 : Nat → Value) (h124 : Hp), I120 j_122 h124 →
 asK .i64 j_122 fun n125 => asK .i64 b_p fun n126 => cond (decide ((n125 : Int) < n126))
 (asSl1 data_p fun a127 l128 c129 => asI j_122 fun n130 => 0 ≤ (n130 : Int) ∧ n130 < (l128 : Int) ∧ ∃ v131, cellH h124 (Addr.add a127 (Int.toNat n130 * 1)) = some v131 ∧
 asK .i64 j_122 fun n132 => asSl1 data_p fun a133 l134 c135 => 0 ≤ ((IntKind.wrap .i64 (n132 - 1)) : Int) ∧ (IntKind.wrap .i64 (n132 - 1)) < (l134 : Int) ∧ ∃ v136, cellH h124 (Addr.add a133 (Int.toNat (IntKind.wrap .i64 (n132 - 1)) * 1)) = some v136 ∧
 CallX Try.prog ω 33 [v131, v136] h124 (fun r137 h138 =>
 asB r137 fun b139 => cond (!b139)
 (J117 h138)
 (asK .i64 j_122 fun n140 => asK .i64 j_122 fun n141 => asSl1 data_p fun a142 l143 c144 => 0 ≤ ((IntKind.wrap .i64 (n141 - 1)) : Int) ∧ (IntKind.wrap .i64 (n141 - 1)) < (l143 : Int) ∧ ∃ v145, cellH h138 (Addr.add a142 (Int.toNat (IntKind.wrap .i64 (n141 - 1)) * 1)) = some v145 ∧
 asSl1 data_p fun a146 l147 c148 => asI j_122 fun n149 => 0 ≤ (n149 : Int) ∧ n149 < (l147 : Int) ∧ ∃ v150, cellH h138 (Addr.add a146 (Int.toNat n149 * 1)) = some v150 ∧
 asSl1 data_p fun a151 l152 c153 => asI j_122 fun n154 => 0 ≤ (n154 : Int) ∧ n154 < (l152 : Int) ∧ oneK v145 (storeK1 h138 (Addr.add a151 (Int.toNat n154 * 1)) v145 fun h155 =>
 asSl1 data_p fun a156 l157 c158 => 0 ≤ ((IntKind.wrap .i64 (n140 - 1)) : Int) ∧ (IntKind.wrap .i64 (n140 - 1)) < (l157 : Int) ∧ oneK v150 (storeK1 h155 (Addr.add a156 (Int.toNat (IntKind.wrap .i64 (n140 - 1)) * 1)) v150 fun h159 =>
 asK .i64 j_122 fun n160 => I120 (.int .i64 (IntKind.wrap .i64 (n160 + 1))) h159 ∧ μ121 (.int .i64 (IntKind.wrap .i64 (n160 + 1))) h159 < μ121 j_122 h124)))) X)
 (J117 h124)) ∧
 ∀  (d118 : Nat → Value) (h119 : Hp), J117 h119 →
 J113 h119)
 (J113 h66)) ∧
 ∀  (d114 : Nat → Value) (h115 : Hp), J113 h115 →
 J8 i_14 h115)))))) ∧
 ∀ i_9 (d10 : Nat → Value) (h11 : Hp), J8 i_9 h11 →
 asK .i64 j_4 fun n161 => I1 i_9 (.int .i64 (IntKind.wrap .i64 (n161 + 1))) h11 ∧ μ2 i_9 (.int .i64 (IntKind.wrap .i64 (n161 + 1))) h11 < μ2 i_3 j_4 h6)
 (R (.bool false) h6)
def A_slices_partialInsertionSortOrdered_int : Ann :=
 (.two .leaf (.two .leaf (.two (.two .leaf (.one (.loop [13, 14, 17, 18, 19, 20, 21, 22, 23, 24, 25, 26, 27, 28, 29, 30, 31, 32, 33, 34, 7, 35, 36, 37, 6, 38, 39, 40, 41, 42, 43, 44, 45, 46, 47, 48, 49, 50, 51, 52, 53, 54, 55, 56, 57, 58, 59, 60, 61, 62, 63, 9, 64, 65, 68, 69, 70, 71, 72, 73, 74, 75, 76, 77, 78, 79, 80, 81, 82, 83, 84, 85, 86, 87, 88, 89, 90, 91, 92, 93, 94, 66, 67, 95, 96, 97, 98, 99, 100, 10, 101, 102, 103, 106, 107, 108, 109, 110, 111, 112, 113, 114, 115, 116, 117, 118, 119, 120, 121, 122, 123, 124, 125, 126, 127, 128, 129, 130, 131, 132, 104, 105, 15, 16, 8] [7, 8] (.two (.two .leaf (.two .leaf .leaf)) (.two (.join [17, 18, 19, 20, 21, 22, 23, 24, 25, 26, 27, 28, 29, 30, 31, 32, 33, 34, 7, 35, 36, 37, 6, 38, 39, 40, 41, 42, 43, 44, 45, 46, 47, 48, 49, 50, 51, 52, 53, 54, 55, 56, 57, 58, 59, 60, 61, 62, 63, 9, 64, 65, 68, 69, 70, 71, 72, 73, 74, 75, 76, 77, 78, 79, 80, 81, 82, 83, 84, 85, 86, 87, 88, 89, 90, 91, 92, 93, 94, 66, 67, 95, 96, 97, 98, 99, 100, 10, 101, 102, 103, 106, 107, 108, 109, 110, 111, 112, 113, 114, 115, 116, 117, 118, 119, 120, 121, 122, 123, 124, 125, 126, 127, 128, 129, 130, 131, 132, 104, 105] [7] (.one (.two (.one (.loop [17, 18, 19, 20, 21, 22, 23, 24, 25, 26, 27, 28, 29, 30, 31, 32, 33, 34, 7] [7] (.two (.two (.join [17, 18, 19, 20, 21, 22, 23, 24, 25, 26, 27, 28, 29, 30, 31, 32] [32] (.plan [0, 1, 2, 3, 4, 5, 6, 7, 8, 9, 10, 11, 12, 13, 14, 15])) (.two .leaf .leaf)) (.one .leaf)))) (.two (.two .leaf (.two (.two .leaf .leaf) .leaf)) (.two (.two .leaf (.two (.two .leaf .leaf) .leaf)) (.two (.plan [0, 1, 2, 3, 4, 5, 6, 7, 8, 9, 10, 11, 12, 13, 14, 15, 16, 17]) (.two (.two .leaf (.join [62, 63, 9, 64, 65, 68, 69, 70, 71, 72, 73, 74, 75, 76, 77, 78, 79, 80, 81, 82, 83, 84, 85, 86, 87, 88, 89, 90, 91, 92, 93, 94, 66, 67] [] (.two (.two .leaf (.join [64, 65, 68, 69, 70, 71, 72, 73, 74, 75, 76, 77, 78, 79, 80, 81, 82, 83, 84, 85, 86, 87, 88, 89, 90, 91, 92, 93, 94, 66, 67, 9] [] (.one (.loop [64, 65, 68, 69, 70, 71, 72, 73, 74, 75, 76, 77, 78, 79, 80, 81, 82, 83, 84, 85, 86, 87, 88, 89, 90, 91, 92, 93, 94, 66, 67, 9] [9] (.two (.two .leaf (.two .leaf .leaf)) (.two (.one (.two (.two (.plan [0, 1, 2, 3, 4, 5, 6, 7, 8, 9, 10]) (.two .leaf .leaf)) (.plan [0, 1, 2, 3, 4, 5, 6, 7, 8, 9, 10, 11, 12, 13, 14, 15, 16, 17]))) .leaf)))))) .leaf))) (.two .leaf (.join [99, 100, 10, 101, 102, 103, 106, 107, 108, 109, 110, 111, 112, 113, 114, 115, 116, 117, 118, 119, 120, 121, 122, 123, 124, 125, 126, 127, 128, 129, 130, 131, 132, 104, 105] [] (.two (.two .leaf (.join [101, 102, 103, 106, 107, 108, 109, 110, 111, 112, 113, 114, 115, 116, 117, 118, 119, 120, 121, 122, 123, 124, 125, 126, 127, 128, 129, 130, 131, 132, 104, 105, 10] [] (.one (.loop [101, 102, 103, 106, 107, 108, 109, 110, 111, 112, 113, 114, 115, 116, 117, 118, 119, 120, 121, 122, 123, 124, 125, 126, 127, 128, 129, 130, 131, 132, 104, 105, 10] [10] (.two (.two .leaf (.two .leaf .leaf)) (.two (.one (.two (.two (.plan [0, 1, 2, 3, 4, 5, 6, 7, 8, 9, 10]) (.two .leaf .leaf)) (.plan [0, 1, 2, 3, 4, 5, 6, 7, 8, 9, 10, 11, 12, 13, 14, 15, 16, 17]))) .leaf)))))) .leaf)))))))))) .leaf))))) (.two .leaf .leaf))))
theorem C_slices_partialInsertionSortOrdered_int (ω : Amb) (data_p a_p b_p : Value) (h : Hp) (R : Value → Hp → Prop) (X : List PanicEntry → Hp → Prop) (hk : W_slices_partialInsertionSortOrdered_int ω data_p a_p b_p h R X) : CallX Try.prog ω 32 [data_p, a_p, b_p] h R X :=
 callX_of (an := A_slices_partialInsertionSortOrdered_int) Try.func32 ((show fnX Try.prog ω A_slices_partialInsertionSortOrdered_int Try.f32 [data_p, a_p, b_p] h R X = W_slices_partialInsertionSortOrdered_int ω data_p a_p b_p h R X by kernel_rfl) ▸ hk)

/-- cmp.Less[int] -/
abbrev n_cmp_Less_int : Nat := 33
def W_cmp_Less_int (ω : Amb) (x_p y_p : Value) (h : Hp) (R : Value → Hp → Prop) (X : List PanicEntry → Hp → Prop) : Prop :=
 ∃ J0 : Value → Hp → Prop,
 (CallX Try.prog ω 44 [x_p] h (fun r4 h5 =>
 asB r4 fun b6 => cond b6
 (CallX Try.prog ω 44 [y_p] h5 (fun r7 h8 =>
 asB r7 fun b9 => cond (!b9)
 (J0 (.bool true) h8)
 (asK .i64 x_p fun n10 => asK .i64 y_p fun n11 => J0 (.bool (decide ((n10 : Int) < n11))) h8)) X)
 (asK .i64 x_p fun n12 => asK .i64 y_p fun n13 => J0 (.bool (decide ((n12 : Int) < n13))) h5)) X) ∧
 ∀ t4_1 (d2 : Nat → Value) (h3 : Hp), J0 t4_1 h3 →
 R t4_1 h3
def A_cmp_Less_int : Ann :=
 (.two .leaf (.two (.join [5, 6, 7, 8, 9, 10, 11, 12, 13, 14, 15, 16, 4] [4] .leaf) .leaf))
theorem C_cmp_Less_int (ω : Amb) (x_p y_p : Value) (h : Hp) (R : Value → Hp → Prop) (X : List PanicEntry → Hp → Prop) (hk : W_cmp_Less_int ω x_p y_p h R X) : CallX Try.prog ω 33 [x_p, y_p] h R X :=
 callX_of (an := A_cmp_Less_int) Try.func33 ((show fnX Try.prog ω A_cmp_Less_int Try.f33 [x_p, y_p] h R X = W_cmp_Less_int ω x_p y_p h R X by kernel_rfl) ▸ hk)

/-- slices.partitionEqualOrdered[int] -/
abbrev n_slices_partitionEqualOrdered_int : Nat := 34
def W_slices_partitionEqualOrdered_int (ω : Amb) (data_p a_p b_p pivot_p : Value) (h : Hp) (R : Value → Hp → Prop) (X : List PanicEntry → Hp → Prop) : Prop :=
 asSl1 data_p fun a0 l1 c2 => asI pivot_p fun n3 => 0 ≤ (n3 : Int) ∧ n3 < (l1 : Int) ∧ ∃ v4, cellH h (Addr.add a0 (Int.toNat n3 * 1)) = some v4 ∧
 asSl1 data_p fun a5 l6 c7 => asI a_p fun n8 => 0 ≤ (n8 : Int) ∧ n8 < (l6 : Int) ∧ ∃ v9, cellH h (Addr.add a5 (Int.toNat n8 * 1)) = some v9 ∧
 asSl1 data_p fun a10 l11 c12 => asI a_p fun n13 => 0 ≤ (n13 : Int) ∧ n13 < (l11 : Int) ∧ oneK v4 (storeK1 h (Addr.add a10 (Int.toNat n13 * 1)) v4 fun h14 =>
 asSl1 data_p fun a15 l16 c17 => asI pivot_p fun n18 => 0 ≤ (n18 : Int) ∧ n18 < (l16 : Int) ∧ oneK v9 (storeK1 h14 (Addr.add a15 (Int.toNat n18 * 1)) v9 fun h19 =>
 asK .i64 a_p fun n20 => asK .i64 b_p fun n21 => ∃ (I22 : Value → Value → Hp → Prop) (μ23 : Value → Value → Hp → Nat), I22 (.int .i64 (IntKind.wrap .i64 (n20 + 1))) (.int .i64 (IntKind.wrap .i64 (n21 - 1))) h19 ∧ ∀ i_24 j_25 (d26 : Nat → Value) (h27 : Hp), I22 i_24 j_25 h27 →
 ∃ (I28 : Value → Hp → Prop) (μ29 : Value → Hp → Nat), I28 i_24 h27 ∧ ∀ i_30 (d31 : Nat → Value) (h32 : Hp), I28 i_30 h32 →
 ∃ J33 : Value → Hp → Prop,
 (asK .i64 i_30 fun n37 => asK .i64 j_25 fun n38 => cond (decide ((n37 : Int) ≤ n38))
 (asSl1 data_p fun a39 l40 c41 => asI a_p fun n42 => 0 ≤ (n42 : Int) ∧ n42 < (l40 : Int) ∧ ∃ v43, cellH h32 (Addr.add a39 (Int.toNat n42 * 1)) = some v43 ∧
 asSl1 data_p fun a44 l45 c46 => asI i_30 fun n47 => 0 ≤ (n47 : Int) ∧ n47 < (l45 : Int) ∧ ∃ v48, cellH h32 (Addr.add a44 (Int.toNat n47 * 1)) = some v48 ∧
 CallX Try.prog ω 33 [v43, v48] h32 (fun r49 h50 =>
 asB r49 fun b51 => J33 (.bool (!b51)) h50) X)
 (J33 (.bool false) h32)) ∧
 ∀ t43_34 (d35 : Nat → Value) (h36 : Hp), J33 t43_34 h36 →
 asB t43_34 fun b52 => cond b52
 (asK .i64 i_30 fun n53 => I28 (.int .i64 (IntKind.wrap .i64 (n53 + 1))) h36 ∧ μ29 (.int .i64 (IntKind.wrap .i64 (n53 + 1))) h36 < μ29 i_30 h32)
 (∃ (I54 : Value → Hp → Prop) (μ55 : Value → Hp → Nat), I54 j_25 h36 ∧ ∀ j_56 (d57 : Nat → Value) (h58 : Hp), I54 j_56 h58 →
 ∃ J59 : Value → Hp → Prop,
 (asK .i64 i_30 fun n63 => asK .i64 j_56 fun n64 => cond (decide ((n63 : Int) ≤ n64))
 (asSl1 data_p fun a65 l66 c67 => asI a_p fun n68 => 0 ≤ (n68 : Int) ∧ n68 < (l66 : Int) ∧ ∃ v69, cellH h58 (Addr.add a65 (Int.toNat n68 * 1)) = some v69 ∧
 asSl1 data_p fun a70 l71 c72 => asI j_56 fun n73 => 0 ≤ (n73 : Int) ∧ n73 < (l71 : Int) ∧ ∃ v74, cellH h58 (Addr.add a70 (Int.toNat n73 * 1)) = some v74 ∧
 CallX Try.prog ω 33 [v69, v74] h58 (fun r75 h76 =>
 J59 r75 h76) X)
 (J59 (.bool false) h58)) ∧
 ∀ t59_60 (d61 : Nat → Value) (h62 : Hp), J59 t59_60 h62 →
 asB t59_60 fun b77 => cond b77
 (asK .i64 j_56 fun n78 => I54 (.int .i64 (IntKind.wrap .i64 (n78 - 1))) h62 ∧ μ55 (.int .i64 (IntKind.wrap .i64 (n78 - 1))) h62 < μ55 j_56 h58)
 (asK .i64 i_30 fun n79 => asK .i64 j_56 fun n80 => cond (decide ((n79 : Int) > n80))
 (R i_30 h62)
 (asSl1 data_p fun a81 l82 c83 => asI j_56 fun n84 => 0 ≤ (n84 : Int) ∧ n84 < (l82 : Int) ∧ ∃ v85, cellH h62 (Addr.add a81 (Int.toNat n84 * 1)) = some v85 ∧
 asSl1 data_p fun a86 l87 c88 => asI i_30 fun n89 => 0 ≤ (n89 : Int) ∧ n89 < (l87 : Int) ∧ ∃ v90, cellH h62 (Addr.add a86 (Int.toNat n89 * 1)) = some v90 ∧
 asSl1 data_p fun a91 l92 c93 => asI i_30 fun n94 => 0 ≤ (n94 : Int) ∧ n94 < (l92 : Int) ∧ oneK v85 (storeK1 h62 (Addr.add a91 (Int.toNat n94 * 1)) v85 fun h95 =>
 asSl1 data_p fun a96 l97 c98 => asI j_56 fun n99 => 0 ≤ (n99 : Int) ∧ n99 < (l97 : Int) ∧ oneK v90 (storeK1 h95 (Addr.add a96 (Int.toNat n99 * 1)) v90 fun h100 =>
 asK .i64 i_30 fun n101 => asK .i64 j_56 fun n102 => I22 (.int .i64 (IntKind.wrap .i64 (n101 + 1))) (.int .i64 (IntKind.wrap .i64 (n102 - 1))) h100 ∧ μ23 (.int .i64 (IntKind.wrap .i64 (n101 + 1))) (.int .i64 (IntKind.wrap .i64 (n102 - 1))) h100 < μ23 i_24 j_25 h27)))))))
def A_slices_partitionEqualOrdered_int : Ann :=
 (.two .leaf (.two (.plan [0, 1, 2, 3, 4, 5, 6, 7, 8, 9, 10, 11, 12, 13, 14, 15]) (.two .leaf (.two (.one (.loop [29, 30, 31, 32, 33, 34, 35, 36, 37, 38, 39, 40, 41, 42, 43, 44, 45, 9, 46, 47, 48, 49, 50, 51, 52, 53, 54, 55, 56, 57, 58, 59, 60, 61, 10, 62, 63, 64, 65, 66, 67, 68, 69, 70, 71, 72, 73, 74, 75, 76, 77, 78, 79, 80, 81, 82] [9, 10] (.one (.two (.one (.loop [29, 30, 31, 32, 33, 34, 35, 36, 37, 38, 39, 40, 41, 42, 43, 44, 45, 9] [9] (.two (.two (.join [29, 30, 31, 32, 33, 34, 35, 36, 37, 38, 39, 40, 41, 42, 43] [43] (.plan [0, 1, 2, 3, 4, 5, 6, 7, 8, 9, 10, 11, 12, 13, 14])) (.two .leaf .leaf)) (.one .leaf)))) (.two (.one (.loop [46, 47, 48, 49, 50, 51, 52, 53, 54, 55, 56, 57, 58, 59, 60, 61, 10] [10] (.two (.two (.join [46, 47, 48, 49, 50, 51, 52, 53, 54, 55, 56, 57, 58, 59] [59] (.plan [0, 1, 2, 3, 4, 5, 6, 7, 8, 9, 10, 11, 12, 13])) (.two .leaf .leaf)) (.one .leaf)))) (.two (.two .leaf (.two .leaf .leaf)) (.two (.plan [0, 1, 2, 3, 4, 5, 6, 7, 8, 9, 10, 11, 12, 13, 14, 15]) (.two .leaf .leaf)))))))) (.two .leaf .leaf)))))
theorem C_slices_partitionEqualOrdered_int (ω : Amb) (data_p a_p b_p pivot_p : Value) (h : Hp) (R : Value → Hp → Prop) (X : List PanicEntry → Hp → Prop) (hk : W_slices_partitionEqualOrdered_int ω data_p a_p b_p pivot_p h R X) : CallX Try.prog ω 34 [data_p, a_p, b_p, pivot_p] h R X :=
 callX_of (an := A_slices_partitionEqualOrdered_int) Try.func34 ((show fnX Try.prog ω A_slices_partitionEqualOrdered_int Try.f34 [data_p, a_p, b_p, pivot_p] h R X = W_slices_partitionEqualOrdered_int ω data_p a_p b_p pivot_p h R X by kernel_rfl) ▸ hk)

/-- slices.partitionOrdered[int] -/
abbrev n_slices_partitionOrdered_int : Nat := 35
def W_slices_partitionOrdered_int (ω : Amb) (data_p a_p b_p pivot_p : Value) (h : Hp) (R : Value → Hp → Prop) (X : List PanicEntry → Hp → Prop) : Prop :=
 asSl1 data_p fun a0 l1 c2 => asI pivot_p fun n3 => 0 ≤ (n3 : Int) ∧ n3 < (l1 : Int) ∧ ∃ v4, cellH h (Addr.add a0 (Int.toNat n3 * 1)) = some v4 ∧
 asSl1 data_p fun a5 l6 c7 => asI a_p fun n8 => 0 ≤ (n8 : Int) ∧ n8 < (l6 : Int) ∧ ∃ v9, cellH h (Addr.add a5 (Int.toNat n8 * 1)) = some v9 ∧
 asSl1 data_p fun a10 l11 c12 => asI a_p fun n13 => 0 ≤ (n13 : Int) ∧ n13 < (l11 : Int) ∧ oneK v4 (storeK1 h (Addr.add a10 (Int.toNat n13 * 1)) v4 fun h14 =>
 asSl1 data_p fun a15 l16 c17 => asI pivot_p fun n18 => 0 ≤ (n18 : Int) ∧ n18 < (l16 : Int) ∧ oneK v9 (storeK1 h14 (Addr.add a15 (Int.toNat n18 * 1)) v9 fun h19 =>
 asK .i64 a_p fun n20 => asK .i64 b_p fun n21 => ∃ (I22 : Value → Hp → Prop) (μ23 : Value → Hp → Nat), I22 (.int .i64 (IntKind.wrap .i64 (n20 + 1))) h19 ∧ ∀ i_24 (d25 : Nat → Value) (h26 : Hp), I22 i_24 h26 →
 ∃ J27 : Value → Hp → Prop,
 (asK .i64 i_24 fun n31 => cond (decide ((n31 : Int) ≤ (IntKind.wrap .i64 (n21 - 1))))
 (asSl1 data_p fun a32 l33 c34 => asI i_24 fun n35 => 0 ≤ (n35 : Int) ∧ n35 < (l33 : Int) ∧ ∃ v36, cellH h26 (Addr.add a32 (Int.toNat n35 * 1)) = some v36 ∧
 asSl1 data_p fun a37 l38 c39 => asI a_p fun n40 => 0 ≤ (n40 : Int) ∧ n40 < (l38 : Int) ∧ ∃ v41, cellH h26 (Addr.add a37 (Int.toNat n40 * 1)) = some v41 ∧
 CallX Try.prog ω 33 [v36, v41] h26 (fun r42 h43 =>
 J27 r42 h43) X)
 (J27 (.bool false) h26)) ∧
 ∀ t43_28 (d29 : Nat → Value) (h30 : Hp), J27 t43_28 h30 →
 asB t43_28 fun b44 => cond b44
 (asK .i64 i_24 fun n45 => I22 (.int .i64 (IntKind.wrap .i64 (n45 + 1))) h30 ∧ μ23 (.int .i64 (IntKind.wrap .i64 (n45 + 1))) h30 < μ23 i_24 h26)
 (∃ (I46 : Value → Hp → Prop) (μ47 : Value → Hp → Nat), I46 (.int .i64 (IntKind.wrap .i64 (n21 - 1))) h30 ∧ ∀ j_48 (d49 : Nat → Value) (h50 : Hp), I46 j_48 h50 →
 ∃ J51 : Value → Hp → Prop,
 (asK .i64 i_24 fun n55 => asK .i64 j_48 fun n56 => cond (decide ((n55 : Int) ≤ n56))
 (asSl1 data_p fun a57 l58 c59 => asI j_48 fun n60 => 0 ≤ (n60 : Int) ∧ n60 < (l58 : Int) ∧ ∃ v61, cellH h50 (Addr.add a57 (Int.toNat n60 * 1)) = some v61 ∧
 asSl1 data_p fun a62 l63 c64 => asI a_p fun n65 => 0 ≤ (n65 : Int) ∧ n65 < (l63 : Int) ∧ ∃ v66, cellH h50 (Addr.add a62 (Int.toNat n65 * 1)) = some v66 ∧
 CallX Try.prog ω 33 [v61, v66] h50 (fun r67 h68 =>
 asB r67 fun b69 => J51 (.bool (!b69)) h68) X)
 (J51 (.bool false) h50)) ∧
 ∀ t60_52 (d53 : Nat → Value) (h54 : Hp), J51 t60_52 h54 →
 asB t60_52 fun b70 => cond b70
 (asK .i64 j_48 fun n71 => I46 (.int .i64 (IntKind.wrap .i64 (n71 - 1))) h54 ∧ μ47 (.int .i64 (IntKind.wrap .i64 (n71 - 1))) h54 < μ47 j_48 h50)
 (asK .i64 i_24 fun n72 => asK .i64 j_48 fun n73 => cond (decide ((n72 : Int) > n73))
 (asSl1 data_p fun a74 l75 c76 => asI a_p fun n77 => 0 ≤ (n77 : Int) ∧ n77 < (l75 : Int) ∧ ∃ v78, cellH h54 (Addr.add a74 (Int.toNat n77 * 1)) = some v78 ∧
 asSl1 data_p fun a79 l80 c81 => asI j_48 fun n82 => 0 ≤ (n82 : Int) ∧ n82 < (l80 : Int) ∧ ∃ v83, cellH h54 (Addr.add a79 (Int.toNat n82 * 1)) = some v83 ∧
 asSl1 data_p fun a84 l85 c86 => asI j_48 fun n87 => 0 ≤ (n87 : Int) ∧ n87 < (l85 : Int) ∧ oneK v78 (storeK1 h54 (Addr.add a84 (Int.toNat n87 * 1)) v78 fun h88 =>
 asSl1 data_p fun a89 l90 c91 => asI a_p fun n92 => 0 ≤ (n92 : Int) ∧ n92 < (l90 : Int) ∧ oneK v83 (storeK1 h88 (Addr.add a89 (Int.toNat n92 * 1)) v83 fun h93 =>
 R (.tuple #[j_48, (.bool true)]) h93)))
 (asSl1 data_p fun a94 l95 c96 => asI j_48 fun n97 => 0 ≤ (n97 : Int) ∧ n97 < (l95 : Int) ∧ ∃ v98, cellH h54 (Addr.add a94 (Int.toNat n97 * 1)) = some v98 ∧
 asSl1 data_p fun a99 l100 c101 => asI i_24 fun n102 => 0 ≤ (n102 : Int) ∧ n102 < (l100 : Int) ∧ ∃ v103, cellH h54 (Addr.add a99 (Int.toNat n102 * 1)) = some v103 ∧
 asSl1 data_p fun a104 l105 c106 => asI i_24 fun n107 => 0 ≤ (n107 : Int) ∧ n107 < (l105 : Int) ∧ oneK v98 (storeK1 h54 (Addr.add a104 (Int.toNat n107 * 1)) v98 fun h108 =>
 asSl1 data_p fun a109 l110 c111 => asI j_48 fun n112 => 0 ≤ (n112 : Int) ∧ n112 < (l110 : Int) ∧ oneK v103 (storeK1 h108 (Addr.add a109 (Int.toNat n112 * 1)) v103 fun h113 =>
 asK .i64 i_24 fun n114 => asK .i64 j_48 fun n115 => ∃ (I116 : Value → Value → Hp → Prop) (μ117 : Value → Value → Hp → Nat), I116 (.int .i64 (IntKind.wrap .i64 (n114 + 1))) (.int .i64 (IntKind.wrap .i64 (n115 - 1))) h113 ∧ ∀ i_118 j_119 (d120 : Nat → Value) (h121 : Hp), I116 i_118 j_119 h121 →
 ∃ (I122 : Value → Hp → Prop) (μ123 : Value → Hp → Nat), I122 i_118 h121 ∧ ∀ i_124 (d125 : Nat → Value) (h126 : Hp), I122 i_124 h126 →
 ∃ J127 : Value → Hp → Prop,
 (asK .i64 i_124 fun n131 => asK .i64 j_119 fun n132 => cond (decide ((n131 : Int) ≤ n132))
 (asSl1 data_p fun a133 l134 c135 => asI i_124 fun n136 => 0 ≤ (n136 : Int) ∧ n136 < (l134 : Int) ∧ ∃ v137, cellH h126 (Addr.add a133 (Int.toNat n136 * 1)) = some v137 ∧
 asSl1 data_p fun a138 l139 c140 => asI a_p fun n141 => 0 ≤ (n141 : Int) ∧ n141 < (l139 : Int) ∧ ∃ v142, cellH h126 (Addr.add a138 (Int.toNat n141 * 1)) = some v142 ∧
 CallX Try.prog ω 33 [v137, v142] h126 (fun r143 h144 =>
 J127 r143 h144) X)
 (J127 (.bool false) h126)) ∧
 ∀ t112_128 (d129 : Nat → Value) (h130 : Hp), J127 t112_128 h130 →
 asB t112_128 fun b145 => cond b145
 (asK .i64 i_124 fun n146 => I122 (.int .i64 (IntKind.wrap .i64 (n146 + 1))) h130 ∧ μ123 (.int .i64 (IntKind.wrap .i64 (n146 + 1))) h130 < μ123 i_124 h126)
 (∃ (I147 : Value → Hp → Prop) (μ148 : Value → Hp → Nat), I147 j_119 h130 ∧ ∀ j_149 (d150 : Nat → Value) (h151 : Hp), I147 j_149 h151 →
 ∃ J152 : Value → Hp → Prop,
 (asK .i64 i_124 fun n156 => asK .i64 j_149 fun n157 => cond (decide ((n156 : Int) ≤ n157))
 (asSl1 data_p fun a158 l159 c160 => asI j_149 fun n161 => 0 ≤ (n161 : Int) ∧ n161 < (l159 : Int) ∧ ∃ v162, cellH h151 (Addr.add a158 (Int.toNat n161 * 1)) = some v162 ∧
 asSl1 data_p fun a163 l164 c165 => asI a_p fun n166 => 0 ≤ (n166 : Int) ∧ n166 < (l164 : Int) ∧ ∃ v167, cellH h151 (Addr.add a163 (Int.toNat n166 * 1)) = some v167 ∧
 CallX Try.prog ω 33 [v162, v167] h151 (fun r168 h169 =>
 asB r168 fun b170 => J152 (.bool (!b170)) h169) X)
 (J152 (.bool false) h151)) ∧
 ∀ t129_153 (d154 : Nat → Value) (h155 : Hp), J152 t129_153 h155 →
 asB t129_153 fun b171 => cond b171
 (asK .i64 j_149 fun n172 => I147 (.int .i64 (IntKind.wrap .i64 (n172 - 1))) h155 ∧ μ148 (.int .i64 (IntKind.wrap .i64 (n172 - 1))) h155 < μ148 j_149 h151)
 (asK .i64 i_124 fun n173 => asK .i64 j_149 fun n174 => cond (decide ((n173 : Int) > n174))
 (asSl1 data_p fun a175 l176 c177 => asI a_p fun n178 => 0 ≤ (n178 : Int) ∧ n178 < (l176 : Int) ∧ ∃ v179, cellH h155 (Addr.add a175 (Int.toNat n178 * 1)) = some v179 ∧
 asSl1 data_p fun a180 l181 c182 => asI j_149 fun n183 => 0 ≤ (n183 : Int) ∧ n183 < (l181 : Int) ∧ ∃ v184, cellH h155 (Addr.add a180 (Int.toNat n183 * 1)) = some v184 ∧
 asSl1 data_p fun a185 l186 c187 => asI j_149 fun n188 => 0 ≤ (n188 : Int) ∧ n188 < (l186 : Int) ∧ oneK v179 (storeK1 h155 (Addr.add a185 (Int.toNat n188 * 1)) v179 fun h189 =>
 asSl1 data_p fun a190 l191 c192 => asI a_p fun n193 => 0 ≤ (n193 : Int) ∧ n193 < (l191 : Int) ∧ oneK v184 (storeK1 h189 (Addr.add a190 (Int.toNat n193 * 1)) v184 fun h194 =>
 R (.tuple #[j_149, (.bool false)]) h194)))
 (asSl1 data_p fun a195 l196 c197 => asI j_149 fun n198 => 0 ≤ (n198 : Int) ∧ n198 < (l196 : Int) ∧ ∃ v199, cellH h155 (Addr.add a195 (Int.toNat n198 * 1)) = some v199 ∧
 asSl1 data_p fun a200 l201 c202 => asI i_124 fun n203 => 0 ≤ (n203 : Int) ∧ n203 < (l201 : Int) ∧ ∃ v204, cellH h155 (Addr.add a200 (Int.toNat n203 * 1)) = some v204 ∧
 asSl1 data_p fun a205 l206 c207 => asI i_124 fun n208 => 0 ≤ (n208 : Int) ∧ n208 < (l206 : Int) ∧ oneK v199 (storeK1 h155 (Addr.add a205 (Int.toNat n208 * 1)) v199 fun h209 =>
 asSl1 data_p fun a210 l211 c212 => asI j_149 fun n213 => 0 ≤ (n213 : Int) ∧ n213 < (l211 : Int) ∧ oneK v204 (storeK1 h209 (Addr.add a210 (Int.toNat n213 * 1)) v204 fun h214 =>
 asK .i64 i_124 fun n215 => asK .i64 j_149 fun n216 => I116 (.int .i64 (IntKind.wrap .i64 (n215 + 1))) (.int .i64 (IntKind.wrap .i64 (n216 - 1))) h214 ∧ μ117 (.int .i64 (IntKind.wrap .i64 (n215 + 1))) (.int .i64 (IntKind.wrap .i64 (n216 - 1))) h214 < μ117 i_118 j_119 h121))))))))))))
def A_slices_partitionOrdered_int : Ann :=
 (.two .leaf (.two (.plan [0, 1, 2, 3, 4, 5, 6, 7, 8, 9, 10, 11, 12, 13, 14, 15]) (.two .leaf (.two (.one (.loop [30, 31, 32, 33, 34, 35, 36, 37, 38, 39, 40, 41, 42, 43, 44, 45, 10] [10] (.two (.two (.join [30, 31, 32, 33, 34, 35, 36, 37, 38, 39, 40, 41, 42, 43] [43] (.plan [0, 1, 2, 3, 4, 5, 6, 7, 8, 9, 10, 11, 12, 13])) (.two .leaf .leaf)) (.one .leaf)))) (.two (.one (.loop [46, 47, 48, 49, 50, 51, 52, 53, 54, 55, 56, 57, 58, 59, 60, 61, 62, 11] [11] (.two (.two (.join [46, 47, 48, 49, 50, 51, 52, 53, 54, 55, 56, 57, 58, 59, 60] [60] (.plan [0, 1, 2, 3, 4, 5, 6, 7, 8, 9, 10, 11, 12, 13, 14])) (.two .leaf .leaf)) (.one .leaf)))) (.two (.two .leaf (.two (.two (.plan [0, 1, 2, 3, 4, 5, 6, 7, 8, 9, 10, 11, 12, 13, 14, 15]) (.two .leaf .leaf)) .leaf)) (.two (.plan [0, 1, 2, 3, 4, 5, 6, 7, 8, 9, 10, 11, 12, 13, 14, 15]) (.two .leaf (.two .leaf (.two (.one (.loop [99, 100, 101, 102, 103, 104, 105, 106, 107, 108, 109, 110, 111, 112, 113, 114, 10, 115, 116, 117, 118, 119, 120, 121, 122, 123, 124, 125, 126, 127, 128, 129, 130, 131, 11, 132, 133, 134, 135, 136, 137, 138, 139, 140, 141, 142, 143, 144, 145, 146, 147, 148, 149, 150, 151, 152] [10, 11] (.one (.two (.one (.loop [99, 100, 101, 102, 103, 104, 105, 106, 107, 108, 109, 110, 111, 112, 113, 114, 10] [10] (.two (.two (.join [99, 100, 101, 102, 103, 104, 105, 106, 107, 108, 109, 110, 111, 112] [112] (.plan [0, 1, 2, 3, 4, 5, 6, 7, 8, 9, 10, 11, 12, 13])) (.two .leaf .leaf)) (.one .leaf)))) (.two (.one (.loop [115, 116, 117, 118, 119, 120, 121, 122, 123, 124, 125, 126, 127, 128, 129, 130, 131, 11] [11] (.two (.two (.join [115, 116, 117, 118, 119, 120, 121, 122, 123, 124, 125, 126, 127, 128, 129] [129] (.plan [0, 1, 2, 3, 4, 5, 6, 7, 8, 9, 10, 11, 12, 13, 14])) (.two .leaf .leaf)) (.one .leaf)))) (.two (.two .leaf (.two .leaf .leaf)) (.two (.plan [0, 1, 2, 3, 4, 5, 6, 7, 8, 9, 10, 11, 12, 13, 14, 15]) (.two .leaf .leaf)))))))) (.two (.plan [0, 1, 2, 3, 4, 5, 6, 7, 8, 9, 10, 11, 12, 13, 14, 15]) (.two .leaf .leaf))))))))))))
theorem C_slices_partitionOrdered_int (ω : Amb) (data_p a_p b_p pivot_p : Value) (h : Hp) (R : Value → Hp → Prop) (X : List PanicEntry → Hp → Prop) (hk : W_slices_partitionOrdered_int ω data_p a_p b_p pivot_p h R X) : CallX Try.prog ω 35 [data_p, a_p, b_p, pivot_p] h R X :=
 callX_of (an := A_slices_partitionOrdered_int) Try.func35 ((show fnX Try.prog ω A_slices_partitionOrdered_int Try.f35 [data_p, a_p, b_p, pivot_p] h R X = W_slices_partitionOrdered_int ω data_p a_p b_p pivot_p h R X by kernel_rfl) ▸ hk)

/-- math/bits.Len32 -/
abbrev n_math_bits_Len32 : Nat := 36
def W_math_bits_Len32 (ω : Amb) (x_p : Value) (h : Hp) (R : Value → Hp → Prop) (X : List PanicEntry → Hp → Prop) : Prop :=
 asK .u32 x_p fun n0 => ∃ J1 : Value → Value → Hp → Prop,
 (cond (decide ((n0 : Int) ≥ 65536))
 (asK .u32 x_p fun n6 => 0 ≤ (16 : Int) ∧ J1 (.int .u32 (shI .u32 .shr n6 16)) (.int .i64 16) h)
 (J1 x_p (.int .i64 0) h)) ∧
 ∀ x_2 n_3 (d4 : Nat → Value) (h5 : Hp), J1 x_2 n_3 h5 →
 asK .u32 x_2 fun n7 => ∃ J8 : Value → Value → Hp → Prop,
 (cond (decide ((n7 : Int) ≥ 256))
 (asK .u32 x_2 fun n13 => 0 ≤ (8 : Int) ∧ asK .i64 n_3 fun n14 => J8 (.int .u32 (shI .u32 .shr n13 8)) (.int .i64 (IntKind.wrap .i64 (n14 + 8))) h5)
 (J8 x_2 n_3 h5)) ∧
 ∀ x_9 n_10 (d11 : Nat → Value) (h12 : Hp), J8 x_9 n_10 h12 →
 asI x_9 fun n15 => 0 ≤ ((IntKind.wrap .u8 n15) : Int) ∧ (IntKind.wrap .u8 n15) < (ByteArray.size ⟨#[0, 1, 2, 2, 3, 3, 3, 3, 4, 4, 4, 4, 4, 4, 4, 4, 5, 5, 5, 5, 5, 5, 5, 5, 5, 5, 5, 5, 5, 5, 5, 5, 6, 6, 6, 6, 6, 6, 6, 6, 6, 6, 6, 6, 6, 6, 6, 6, 6, 6, 6, 6, 6, 6, 6, 6, 6, 6, 6, 6, 6, 6, 6, 6, 7, 7, 7, 7, 7, 7, 7, 7, 7, 7, 7, 7, 7, 7, 7, 7, 7, 7, 7, 7, 7, 7, 7, 7, 7, 7, 7, 7, 7, 7, 7, 7, 7, 7, 7, 7, 7, 7, 7, 7, 7, 7, 7, 7, 7, 7, 7, 7, 7, 7, 7, 7, 7, 7, 7, 7, 7, 7, 7, 7, 7, 7, 7, 7, 8, 8, 8, 8, 8, 8, 8, 8, 8, 8, 8, 8, 8, 8, 8, 8, 8, 8, 8, 8, 8, 8, 8, 8, 8, 8, 8, 8, 8, 8, 8, 8, 8, 8, 8, 8, 8, 8, 8, 8, 8, 8, 8, 8, 8, 8, 8, 8, 8, 8, 8, 8, 8, 8, 8, 8, 8, 8, 8, 8, 8, 8, 8, 8, 8, 8, 8, 8, 8, 8, 8, 8, 8, 8, 8, 8, 8, 8, 8, 8, 8, 8, 8, 8, 8, 8, 8, 8, 8, 8, 8, 8, 8, 8, 8, 8, 8, 8, 8, 8, 8, 8, 8, 8, 8, 8, 8, 8, 8, 8, 8, 8, 8, 8, 8, 8, 8, 8, 8, 8, 8, 8, 8, 8, 8, 8, 8, 8]⟩ : Int) ∧ asK .i64 n_10 fun n16 => R (.int .i64 (IntKind.wrap .i64 (n16 + (IntKind.wrap .i64 (byteAt ⟨#[0, 1, 2, 2, 3, 3, 3, 3, 4, 4, 4, 4, 4, 4, 4, 4, 5, 5, 5, 5, 5, 5, 5, 5, 5, 5, 5, 5, 5, 5, 5, 5, 6, 6, 6, 6, 6, 6, 6, 6, 6, 6, 6, 6, 6, 6, 6, 6, 6, 6, 6, 6, 6, 6, 6, 6, 6, 6, 6, 6, 6, 6, 6, 6, 7, 7, 7, 7, 7, 7, 7, 7, 7, 7, 7, 7, 7, 7, 7, 7, 7, 7, 7, 7, 7, 7, 7, 7, 7, 7, 7, 7, 7, 7, 7, 7, 7, 7, 7, 7, 7, 7, 7, 7, 7, 7, 7, 7, 7, 7, 7, 7, 7, 7, 7, 7, 7, 7, 7, 7, 7, 7, 7, 7, 7, 7, 7, 7, 8, 8, 8, 8, 8, 8, 8, 8, 8, 8, 8, 8, 8, 8, 8, 8, 8, 8, 8, 8, 8, 8, 8, 8, 8, 8, 8, 8, 8, 8, 8, 8, 8, 8, 8, 8, 8, 8, 8, 8, 8, 8, 8, 8, 8, 8, 8, 8, 8, 8, 8, 8, 8, 8, 8, 8, 8, 8, 8, 8, 8, 8, 8, 8, 8, 8, 8, 8, 8, 8, 8, 8, 8, 8, 8, 8, 8, 8, 8, 8, 8, 8, 8, 8, 8, 8, 8, 8, 8, 8, 8, 8, 8, 8, 8, 8, 8, 8, 8, 8, 8, 8, 8, 8, 8, 8, 8, 8, 8, 8, 8, 8, 8, 8, 8, 8, 8, 8, 8, 8, 8, 8, 8, 8, 8, 8, 8, 8]⟩ (IntKind.wrap .u8 n15)))))) h12
def A_math_bits_Len32 : Ann :=
 (.two .leaf (.two (.two .leaf (.join [5, 6, 0, 2] [0, 2] (.two (.two .leaf .leaf) .leaf))) (.two (.two .leaf (.join [9, 10, 0, 11, 12, 2] [0, 2] (.two (.two .leaf .leaf) .leaf))) (.two .leaf .leaf))))
theorem C_math_bits_Len32 (ω : Amb) (x_p : Value) (h : Hp) (R : Value → Hp → Prop) (X : List PanicEntry → Hp → Prop) (hk : W_math_bits_Len32 ω x_p h R X) : CallX Try.prog ω 36 [x_p] h R X :=
 callX_of (an := A_math_bits_Len32) Try.func36 ((show fnX Try.prog ω A_math_bits_Len32 Try.f36 [x_p] h R X = W_math_bits_Len32 ω x_p h R X by kernel_rfl) ▸ hk)

/-- math/bits.Len64 -/
abbrev n_math_bits_Len64 : Nat := 37
def W_math_bits_Len64 (ω : Amb) (x_p : Value) (h : Hp) (R : Value → Hp → Prop) (X : List PanicEntry → Hp → Prop) : Prop :=
 asK .u64 x_p fun n0 => ∃ J1 : Value → Value → Hp → Prop,
 (cond (decide ((n0 : Int) ≥ 4294967296))
 (asK .u64 x_p fun n6 => 0 ≤ (32 : Int) ∧ J1 (.int .u64 (shI .u64 .shr n6 32)) (.int .i64 32) h)
 (J1 x_p (.int .i64 0) h)) ∧
 ∀ x_2 n_3 (d4 : Nat → Value) (h5 : Hp), J1 x_2 n_3 h5 →
 asK .u64 x_2 fun n7 => ∃ J8 : Value → Value → Hp → Prop,
 (cond (decide ((n7 : Int) ≥ 65536))
 (asK .u64 x_2 fun n13 => 0 ≤ (16 : Int) ∧ asK .i64 n_3 fun n14 => J8 (.int .u64 (shI .u64 .shr n13 16)) (.int .i64 (IntKind.wrap .i64 (n14 + 16))) h5)
 (J8 x_2 n_3 h5)) ∧
 ∀ x_9 n_10 (d11 : Nat → Value) (h12 : Hp), J8 x_9 n_10 h12 →
 asK .u64 x_9 fun n15 => ∃ J16 : Value → Value → Hp → Prop,
 (cond (decide ((n15 : Int) ≥ 256))
 (asK .u64 x_9 fun n21 => 0 ≤ (8 : Int) ∧ asK .i64 n_10 fun n22 => J16 (.int .u64 (shI .u64 .shr n21 8)) (.int .i64 (IntKind.wrap .i64 (n22 + 8))) h12)
 (J16 x_9 n_10 h12)) ∧
 ∀ x_17 n_18 (d19 : Nat → Value) (h20 : Hp), J16 x_17 n_18 h20 →
 asI x_17 fun n23 => 0 ≤ ((IntKind.wrap .u8 n23) : Int) ∧ (IntKind.wrap .u8 n23) < (ByteArray.size ⟨#[0, 1, 2, 2, 3, 3, 3, 3, 4, 4, 4, 4, 4, 4, 4, 4, 5, 5, 5, 5, 5, 5, 5, 5, 5, 5, 5, 5, 5, 5, 5, 5, 6, 6, 6, 6, 6, 6, 6, 6, 6, 6, 6, 6, 6, 6, 6, 6, 6, 6, 6, 6, 6, 6, 6, 6, 6, 6, 6, 6, 6, 6, 6, 6, 7, 7, 7, 7, 7, 7, 7, 7, 7, 7, 7, 7, 7, 7, 7, 7, 7, 7, 7, 7, 7, 7, 7, 7, 7, 7, 7, 7, 7, 7, 7, 7, 7, 7, 7, 7, 7, 7, 7, 7, 7, 7, 7, 7, 7, 7, 7, 7, 7, 7, 7, 7, 7, 7, 7, 7, 7, 7, 7, 7, 7, 7, 7, 7, 8, 8, 8, 8, 8, 8, 8, 8, 8, 8, 8, 8, 8, 8, 8, 8, 8, 8, 8, 8, 8, 8, 8, 8, 8, 8, 8, 8, 8, 8, 8, 8, 8, 8, 8, 8, 8, 8, 8, 8, 8, 8, 8, 8, 8, 8, 8, 8, 8, 8, 8, 8, 8, 8, 8, 8, 8, 8, 8, 8, 8, 8, 8, 8, 8, 8, 8, 8, 8, 8, 8, 8, 8, 8, 8, 8, 8, 8, 8, 8, 8, 8, 8, 8, 8, 8, 8, 8, 8, 8, 8, 8, 8, 8, 8, 8, 8, 8, 8, 8, 8, 8, 8, 8, 8, 8, 8, 8, 8, 8, 8, 8, 8, 8, 8, 8, 8, 8, 8, 8, 8, 8, 8, 8, 8, 8, 8, 8]⟩ : Int) ∧ asK .i64 n_18 fun n24 => R (.int .i64 (IntKind.wrap .i64 (n24 + (IntKind.wrap .i64 (byteAt ⟨#[0, 1, 2, 2, 3, 3, 3, 3, 4, 4, 4, 4, 4, 4, 4, 4, 5, 5, 5, 5, 5, 5, 5, 5, 5, 5, 5, 5, 5, 5, 5, 5, 6, 6, 6, 6, 6, 6, 6, 6, 6, 6, 6, 6, 6, 6, 6, 6, 6, 6, 6, 6, 6, 6, 6, 6, 6, 6, 6, 6, 6, 6, 6, 6, 7, 7, 7, 7, 7, 7, 7, 7, 7, 7, 7, 7, 7, 7, 7, 7, 7, 7, 7, 7, 7, 7, 7, 7, 7, 7, 7, 7, 7, 7, 7, 7, 7, 7, 7, 7, 7, 7, 7, 7, 7, 7, 7, 7, 7, 7, 7, 7, 7, 7, 7, 7, 7, 7, 7, 7, 7, 7, 7, 7, 7, 7, 7, 7, 8, 8, 8, 8, 8, 8, 8, 8, 8, 8, 8, 8, 8, 8, 8, 8, 8, 8, 8, 8, 8, 8, 8, 8, 8, 8, 8, 8, 8, 8, 8, 8, 8, 8, 8, 8, 8, 8, 8, 8, 8, 8, 8, 8, 8, 8, 8, 8, 8, 8, 8, 8, 8, 8, 8, 8, 8, 8, 8, 8, 8, 8, 8, 8, 8, 8, 8, 8, 8, 8, 8, 8, 8, 8, 8, 8, 8, 8, 8, 8, 8, 8, 8, 8, 8, 8, 8, 8, 8, 8, 8, 8, 8, 8, 8, 8, 8, 8, 8, 8, 8, 8, 8, 8, 8, 8, 8, 8, 8, 8, 8, 8, 8, 8, 8, 8, 8, 8, 8, 8, 8, 8, 8, 8, 8, 8, 8, 8]⟩ (IntKind.wrap .u8 n23)))))) h20
def A_math_bits_Len64 : Ann :=
 (.two .leaf (.two (.two .leaf (.join [5, 6, 0, 2] [0, 2] (.two (.two .leaf .leaf) .leaf))) (.two (.two .leaf (.join [9, 10, 0, 11, 12, 2] [0, 2] (.two (.two .leaf .leaf) .leaf))) (.two (.two .leaf (.join [15, 16, 0, 17, 18, 2] [0, 2] (.two (.two .leaf .leaf) .leaf))) (.two .leaf .leaf)))))
theorem C_math_bits_Len64 (ω : Amb) (x_p : Value) (h : Hp) (R : Value → Hp → Prop) (X : List PanicEntry → Hp → Prop) (hk : W_math_bits_Len64 ω x_p h R X) : CallX Try.prog ω 37 [x_p] h R X :=
 callX_of (an := A_math_bits_Len64) Try.func37 ((show fnX Try.prog ω A_math_bits_Len64 Try.f37 [x_p] h R X = W_math_bits_Len64 ω x_p h R X by kernel_rfl) ▸ hk)

/-- math/bits.Mul -/
abbrev n_math_bits_Mul : Nat := 38
def W_math_bits_Mul (ω : Amb) (x_p y_p : Value) (h : Hp) (R : Value → Hp → Prop) (X : List PanicEntry → Hp → Prop) : Prop :=
 CallX Try.prog ω 46 [x_p, y_p] h (fun r0 h1 =>
 asT r0 fun T2 => asO T2[0]? fun v3 => asT r0 fun T4 => asO T4[1]? fun v5 => R (.tuple #[v3, v5]) h1) X
def A_math_bits_Mul : Ann :=
 (.two .leaf (.two (.two (.two .leaf (.two .leaf .leaf)) .leaf) (.two .leaf (.two .leaf .leaf))))
theorem C_math_bits_Mul (ω : Amb) (x_p y_p : Value) (h : Hp) (R : Value → Hp → Prop) (X : List PanicEntry → Hp → Prop) (hk : W_math_bits_Mul ω x_p y_p h R X) : CallX Try.prog ω 38 [x_p, y_p] h R X :=
 callX_of (an := A_math_bits_Mul) Try.func38 ((show fnX Try.prog ω A_math_bits_Mul Try.f38 [x_p, y_p] h R X = W_math_bits_Mul ω x_p y_p h R X by kernel_rfl) ▸ hk)

/-- slices.siftDownOrdered[int] -/
abbrev n_slices_siftDownOrdered_int : Nat := 39
def W_slices_siftDownOrdered_int (ω : Amb) (data_p lo_p hi_p first_p : Value) (h : Hp) (R : Value → Hp → Prop) (X : List PanicEntry → Hp → Prop) : Prop :=
 ∃ (I0 : Value → Hp → Prop) (μ1 : Value → Hp → Nat), I0 lo_p h ∧ ∀ root_2 (d3 : Nat → Value) (h4 : Hp), I0 root_2 h4 →
 asK .i64 root_2 fun n5 => asK .i64 hi_p fun n6 => cond (decide (((IntKind.wrap .i64 ((IntKind.wrap .i64 (2 * n5)) + 1)) : Int) ≥ n6))
 (R (.tuple #[]) h4)
 (∃ J7 : Value → Hp → Prop,
 (asK .i64 hi_p fun n11 => cond (decide (((IntKind.wrap .i64 ((IntKind.wrap .i64 ((IntKind.wrap .i64 (2 * n5)) + 1)) + 1)) : Int) < n11))
 (asK .i64 first_p fun n12 => asSl1 data_p fun a13 l14 c15 => 0 ≤ ((IntKind.wrap .i64 (n12 + (IntKind.wrap .i64 ((IntKind.wrap .i64 (2 * n5)) + 1)))) : Int) ∧ (IntKind.wrap .i64 (n12 + (IntKind.wrap .i64 ((IntKind.wrap .i64 (2 * n5)) + 1)))) < (l14 : Int) ∧ ∃ v16, cellH h4 (Addr.add a13 (Int.toNat (IntKind.wrap .i64 (n12 + (IntKind.wrap .i64 ((IntKind.wrap .i64 (2 * n5)) + 1)))) * 1)) = some v16 ∧
 asK .i64 first_p fun n17 => asSl1 data_p fun a18 l19 c20 => 0 ≤ ((IntKind.wrap .i64 ((IntKind.wrap .i64 (n17 + (IntKind.wrap .i64 ((IntKind.wrap .i64 (2 * n5)) + 1)))) + 1)) : Int) ∧ (IntKind.wrap .i64 ((IntKind.wrap .i64 (n17 + (IntKind.wrap .i64 ((IntKind.wrap .i64 (2 * n5)) + 1)))) + 1)) < (l19 : Int) ∧ ∃ v21, cellH h4 (Addr.add a18 (Int.toNat (IntKind.wrap .i64 ((IntKind.wrap .i64 (n17 + (IntKind.wrap .i64 ((IntKind.wrap .i64 (2 * n5)) + 1)))) + 1)) * 1)) = some v21 ∧
 CallX Try.prog ω 33 [v16, v21] h4 (fun r22 h23 =>
 J7 r22 h23) X)
 (J7 (.bool false) h4)) ∧
 ∀ t36_8 (d9 : Nat → Value) (h10 : Hp), J7 t36_8 h10 →
 ∃ J24 : Value → Hp → Prop,
 (asB t36_8 fun b28 => cond b28
 (J24 (.int .i64 (IntKind.wrap .i64 ((IntKind.wrap .i64 ((IntKind.wrap .i64 (2 * n5)) + 1)) + 1))) h10)
 (J24 (.int .i64 (IntKind.wrap .i64 ((IntKind.wrap .i64 (2 * n5)) + 1))) h10)) ∧
 ∀ child_25 (d26 : Nat → Value) (h27 : Hp), J24 child_25 h27 →
 asK .i64 first_p fun n29 => asK .i64 root_2 fun n30 => asSl1 data_p fun a31 l32 c33 => 0 ≤ ((IntKind.wrap .i64 (n29 + n30)) : Int) ∧ (IntKind.wrap .i64 (n29 + n30)) < (l32 : Int) ∧ ∃ v34, cellH h27 (Addr.add a31 (Int.toNat (IntKind.wrap .i64 (n29 + n30)) * 1)) = some v34 ∧
 asK .i64 first_p fun n35 => asK .i64 child_25 fun n36 => asSl1 data_p fun a37 l38 c39 => 0 ≤ ((IntKind.wrap .i64 (n35 + n36)) : Int) ∧ (IntKind.wrap .i64 (n35 + n36)) < (l38 : Int) ∧ ∃ v40, cellH h27 (Addr.add a37 (Int.toNat (IntKind.wrap .i64 (n35 + n36)) * 1)) = some v40 ∧
 CallX Try.prog ω 33 [v34, v40] h27 (fun r41 h42 =>
 asB r41 fun b43 => cond (!b43)
 (R (.tuple #[]) h42)
 (asK .i64 first_p fun n44 => asK .i64 root_2 fun n45 => asK .i64 first_p fun n46 => asK .i64 child_25 fun n47 => asK .i64 first_p fun n48 => asK .i64 child_25 fun n49 => asSl1 data_p fun a50 l51 c52 => 0 ≤ ((IntKind.wrap .i64 (n48 + n49)) : Int) ∧ (IntKind.wrap .i64 (n48 + n49)) < (l51 : Int) ∧ ∃ v53, cellH h42 (Addr.add a50 (Int.toNat (IntKind.wrap .i64 (n48 + n49)) * 1)) = some v53 ∧
 asK .i64 first_p fun n54 => asK .i64 root_2 fun n55 => asSl1 data_p fun a56 l57 c58 => 0 ≤ ((IntKind.wrap .i64 (n54 + n55)) : Int) ∧ (IntKind.wrap .i64 (n54 + n55)) < (l57 : Int) ∧ ∃ v59, cellH h42 (Addr.add a56 (Int.toNat (IntKind.wrap .i64 (n54 + n55)) * 1)) = some v59 ∧
 asSl1 data_p fun a60 l61 c62 => 0 ≤ ((IntKind.wrap .i64 (n44 + n45)) : Int) ∧ (IntKind.wrap .i64 (n44 + n45)) < (l61 : Int) ∧ oneK v53 (storeK1 h42 (Addr.add a60 (Int.toNat (IntKind.wrap .i64 (n44 + n45)) * 1)) v53 fun h63 =>
 asSl1 data_p fun a64 l65 c66 => 0 ≤ ((IntKind.wrap .i64 (n46 + n47)) : Int) ∧ (IntKind.wrap .i64 (n46 + n47)) < (l65 : Int) ∧ oneK v59 (storeK1 h63 (Addr.add a64 (Int.toNat (IntKind.wrap .i64 (n46 + n47)) * 1)) v59 fun h67 =>
 I0 child_25 h67 ∧ μ1 child_25 h67 < μ1 root_2 h4)))) X)
def A_slices_siftDownOrdered_int : Ann :=
 (.two .leaf (.one (.loop [11, 12, 13, 9, 14, 15, 16, 17, 18, 19, 20, 21, 22, 23, 24, 25, 26, 27, 28, 29, 30, 31, 32, 33, 34, 35, 36, 37, 38, 39, 40, 41, 42, 43, 44, 45, 46, 47, 48, 49, 50, 51, 52, 53, 54, 55, 56, 57, 58, 59, 60, 61, 62, 63, 64, 65, 66, 67, 68, 69, 70, 71, 72, 73, 74, 75, 8] [8] (.one (.two .leaf (.two (.two .leaf (.two .leaf .leaf)) (.two (.two (.join [17, 18, 19, 20, 21, 22, 23, 24, 25, 26, 27, 28, 29, 30, 31, 32, 33, 34, 35, 36] [36] (.plan [0, 1, 2, 3, 4, 5, 6, 7, 8, 9, 10, 11, 12, 13, 14, 15, 16, 17, 18, 19])) (.join [37, 38, 9] [9] (.two .leaf .leaf))) (.two (.two (.plan [0, 1, 2, 3, 4, 5, 6, 7, 8, 9, 10, 11, 12, 13]) (.two .leaf .leaf)) (.two (.plan [0, 1, 2, 3, 4, 5, 6, 7, 8, 9, 10, 11, 12, 13, 14, 15, 16, 17, 18, 19, 20, 21, 22, 23]) .leaf)))))))))
theorem C_slices_siftDownOrdered_int (ω : Amb) (data_p lo_p hi_p first_p : Value) (h : Hp) (R : Value → Hp → Prop) (X : List PanicEntry → Hp → Prop) (hk : W_slices_siftDownOrdered_int ω data_p lo_p hi_p first_p h R X) : CallX Try.prog ω 39 [data_p, lo_p, hi_p, first_p] h R X :=
 callX_of (an := A_slices_siftDownOrdered_int) Try.func39 ((show fnX Try.prog ω A_slices_siftDownOrdered_int Try.f39 [data_p, lo_p, hi_p, first_p] h R X = W_slices_siftDownOrdered_int ω data_p lo_p hi_p first_p h R X by kernel_rfl) ▸ hk)

/-- slices.nextPowerOfTwo -/
abbrev n_slices_nextPowerOfTwo : Nat := 40
def W_slices_nextPowerOfTwo (ω : Amb) (length_p : Value) (h : Hp) (R : Value → Hp → Prop) (X : List PanicEntry → Hp → Prop) : Prop :=
 asI length_p fun n0 => CallX Try.prog ω 25 [(.int .u64 (IntKind.wrap .u64 n0))] h (fun r1 h2 =>
 asI r1 fun n3 => 0 ≤ (n3 : Int) ∧ R (.int .u64 (shI .u64 .shl 1 n3)) h2) X
def A_slices_nextPowerOfTwo : Ann :=
 (.two .leaf (.two .leaf .leaf))
theorem C_slices_nextPowerOfTwo (ω : Amb) (length_p : Value) (h : Hp) (R : Value → Hp → Prop) (X : List PanicEntry → Hp → Prop) (hk : W_slices_nextPowerOfTwo ω length_p h R X) : CallX Try.prog ω 40 [length_p] h R X :=
 callX_of (an := A_slices_nextPowerOfTwo) Try.func40 ((show fnX Try.prog ω A_slices_nextPowerOfTwo Try.f40 [length_p] h R X = W_slices_nextPowerOfTwo ω length_p h R X by kernel_rfl) ▸ hk)

/-- (*slices.xorshift).Next -/
abbrev n_p_slices_xorshift_Next : Nat := 41
def W_p_slices_xorshift_Next (ω : Amb) (r_p : Value) (h : Hp) (R : Value → Hp → Prop) (X : List PanicEntry → Hp → Prop) : Prop :=
 nnK r_p (asP r_p fun p0 =>
 ∃ v1, cellH h p0 = some v1 ∧
 nnK r_p (asP r_p fun p2 =>
 ∃ v3, cellH h p2 = some v3 ∧
 asK .u64 v3 fun n4 => 0 ≤ (13 : Int) ∧ asK .u64 v1 fun n5 => nnK r_p (asP r_p fun p6 =>
 storeK1 h p6 (.int .u64 (bitI .u64 .xor n5 (shI .u64 .shl n4 13))) fun h7 =>
 nnK r_p (asP r_p fun p8 =>
 ∃ v9, cellH h7 p8 = some v9 ∧
 nnK r_p (asP r_p fun p10 =>
 ∃ v11, cellH h7 p10 = some v11 ∧
 asK .u64 v11 fun n12 => 0 ≤ (7 : Int) ∧ asK .u64 v9 fun n13 => nnK r_p (asP r_p fun p14 =>
 storeK1 h7 p14 (.int .u64 (bitI .u64 .xor n13 (shI .u64 .shr n12 7))) fun h15 =>
 nnK r_p (asP r_p fun p16 =>
 ∃ v17, cellH h15 p16 = some v17 ∧
 nnK r_p (asP r_p fun p18 =>
 ∃ v19, cellH h15 p18 = some v19 ∧
 asK .u64 v19 fun n20 => 0 ≤ (17 : Int) ∧ asK .u64 v17 fun n21 => nnK r_p (asP r_p fun p22 =>
 storeK1 h15 p22 (.int .u64 (bitI .u64 .xor n21 (shI .u64 .shl n20 17))) fun h23 =>
 nnK r_p (asP r_p fun p24 =>
 ∃ v25, cellH h23 p24 = some v25 ∧
 R v25 h23))))))))))
def A_p_slices_xorshift_Next : Ann :=
 (.two .leaf (.two (.plan [0, 1, 2, 3, 4, 5, 6, 7, 8, 9]) (.two (.plan [0, 1, 2, 3, 4, 5, 6, 7, 8, 9]) (.two (.plan [0, 1, 2, 3, 4, 5, 6, 7, 8, 9]) (.two .leaf .leaf)))))
theorem C_p_slices_xorshift_Next (ω : Amb) (r_p : Value) (h : Hp) (R : Value → Hp → Prop) (X : List PanicEntry → Hp → Prop) (hk : W_p_slices_xorshift_Next ω r_p h R X) : CallX Try.prog ω 41 [r_p] h R X :=
 callX_of (an := A_p_slices_xorshift_Next) Try.func41 ((show fnX Try.prog ω A_p_slices_xorshift_Next Try.f41 [r_p] h R X = W_p_slices_xorshift_Next ω r_p h R X by kernel_rfl) ▸ hk)

/-- slices.medianAdjacentOrdered[int] -/
abbrev n_slices_medianAdjacentOrdered_int : Nat := 42
def W_slices_medianAdjacentOrdered_int (ω : Amb) (data_p a_p swaps_p : Value) (h : Hp) (R : Value → Hp → Prop) (X : List PanicEntry → Hp → Prop) : Prop :=
 asK .i64 a_p fun n0 => asK .i64 a_p fun n1 => CallX Try.prog ω 43 [data_p, (.int .i64 (IntKind.wrap .i64 (n0 - 1))), a_p, (.int .i64 (IntKind.wrap .i64 (n1 + 1))), swaps_p] h (fun r2 h3 =>
 R r2 h3) X
def A_slices_medianAdjacentOrdered_int : Ann :=
 (.two .leaf (.two .leaf .leaf))
theorem C_slices_medianAdjacentOrdered_int (ω : Amb) (data_p a_p swaps_p : Value) (h : Hp) (R : Value → Hp → Prop) (X : List PanicEntry → Hp → Prop) (hk : W_slices_medianAdjacentOrdered_int ω data_p a_p swaps_p h R X) : CallX Try.prog ω 42 [data_p, a_p, swaps_p] h R X :=
 callX_of (an := A_slices_medianAdjacentOrdered_int) Try.func42 ((show fnX Try.prog ω A_slices_medianAdjacentOrdered_int Try.f42 [data_p, a_p, swaps_p] h R X = W_slices_medianAdjacentOrdered_int ω data_p a_p swaps_p h R X by kernel_rfl) ▸ hk)

/-- slices.medianOrdered[int] -/
abbrev n_slices_medianOrdered_int : Nat := 43
def W_slices_medianOrdered_int (ω : Amb) (data_p a_p b_p c_p swaps_p : Value) (h : Hp) (R : Value → Hp → Prop) (X : List PanicEntry → Hp → Prop) : Prop :=
 CallX Try.prog ω 47 [data_p, a_p, b_p, swaps_p] h (fun r0 h1 =>
 asT r0 fun T2 => asO T2[0]? fun v3 => asT r0 fun T4 => asO T4[1]? fun v5 => CallX Try.prog ω 47 [data_p, v5, c_p, swaps_p] h1 (fun r6 h7 =>
 asT r6 fun T8 => asO T8[0]? fun v9 => asT r6 fun T10 => asO T10[1]? fun v11 => CallX Try.prog ω 47 [data_p, v3, v9, swaps_p] h7 (fun r12 h13 =>
 asT r12 fun T14 => asO T14[0]? fun v15 => asT r12 fun T16 => asO T16[1]? fun v17 => R v17 h13) X) X) X
def A_slices_medianOrdered_int : Ann :=
 (.two .leaf (.two .leaf (.two .leaf (.two .leaf (.two .leaf .leaf)))))
theorem C_slices_medianOrdered_int (ω : Amb) (data_p a_p b_p c_p swaps_p : Value) (h : Hp) (R : Value → Hp → Prop) (X : List PanicEntry → Hp → Prop) (hk : W_slices_medianOrdered_int ω data_p a_p b_p c_p swaps_p h R X) : CallX Try.prog ω 43 [data_p, a_p, b_p, c_p, swaps_p] h R X :=
 callX_of (an := A_slices_medianOrdered_int) Try.func43 ((show fnX Try.prog ω A_slices_medianOrdered_int Try.f43 [data_p, a_p, b_p, c_p, swaps_p] h R X = W_slices_medianOrdered_int ω data_p a_p b_p c_p swaps_p h R X by kernel_rfl) ▸ hk)

/-- cmp.isNaN[int] -/
abbrev n_cmp_isNaN_int : Nat := 44
def W_cmp_isNaN_int (ω : Amb) (x_p : Value) (h : Hp) (R : Value → Hp → Prop) (X : List PanicEntry → Hp → Prop) : Prop :=
 asK .i64 x_p fun n0 => asK .i64 x_p fun n1 => R (.bool (n0 != (n1 : Int))) h
def A_cmp_isNaN_int : Ann :=
 (.two .leaf (.two .leaf .leaf))
theorem C_cmp_isNaN_int (ω : Amb) (x_p : Value) (h : Hp) (R : Value → Hp → Prop) (X : List PanicEntry → Hp → Prop) (hk : W_cmp_isNaN_int ω x_p h R X) : CallX Try.prog ω 44 [x_p] h R X :=
 callX_of (an := A_cmp_isNaN_int) Try.func44 ((show fnX Try.prog ω A_cmp_isNaN_int Try.f44 [x_p] h R X = W_cmp_isNaN_int ω x_p h R X by kernel_rfl) ▸ hk)

/-- math/bits.Mul32 -/
abbrev n_math_bits_Mul32 : Nat := 45
def W_math_bits_Mul32 (ω : Amb) (x_p y_p : Value) (h : Hp) (R : Value → Hp → Prop) (X : List PanicEntry → Hp → Prop) : Prop :=
 asI x_p fun n0 => asI y_p fun n1 => 0 ≤ (32 : Int) ∧ R (.tuple #[(.int .u32 (IntKind.wrap .u32 (shI .u64 .shr (IntKind.wrap .u64 ((IntKind.wrap .u64 n0) * (IntKind.wrap .u64 n1))) 32))), (.int .u32 (IntKind.wrap .u32 (IntKind.wrap .u64 ((IntKind.wrap .u64 n0) * (IntKind.wrap .u64 n1)))))]) h
def A_math_bits_Mul32 : Ann :=
 (.two .leaf (.two .leaf (.two .leaf .leaf)))
theorem C_math_bits_Mul32 (ω : Amb) (x_p y_p : Value) (h : Hp) (R : Value → Hp → Prop) (X : List PanicEntry → Hp → Prop) (hk : W_math_bits_Mul32 ω x_p y_p h R X) : CallX Try.prog ω 45 [x_p, y_p] h R X :=
 callX_of (an := A_math_bits_Mul32) Try.func45 ((show fnX Try.prog ω A_math_bits_Mul32 Try.f45 [x_p, y_p] h R X = W_math_bits_Mul32 ω x_p y_p h R X by kernel_rfl) ▸ hk)

/-- math/bits.Mul64 -/
abbrev n_math_bits_Mul64 : Nat := 46
def W_math_bits_Mul64 (ω : Amb) (x_p y_p : Value) (h : Hp) (R : Value → Hp → Prop) (X : List PanicEntry → Hp → Prop) : Prop :=
 asK .u64 x_p fun n0 => asK .u64 x_p fun n1 => 0 ≤ (32 : Int) ∧ asK .u64 y_p fun n2 => asK .u64 y_p fun n3 => 0 ≤ (32 : Int) ∧ 0 ≤ (32 : Int) ∧ 0 ≤ (32 : Int) ∧ 0 ≤ (32 : Int) ∧ asK .u64 x_p fun n4 => asK .u64 y_p fun n5 => R (.tuple #[(.int .u64 (IntKind.wrap .u64 ((IntKind.wrap .u64 ((IntKind.wrap .u64 ((shI .u64 .shr n1 32) * (shI .u64 .shr n3 32))) + (shI .u64 .shr (IntKind.wrap .u64 ((IntKind.wrap .u64 ((shI .u64 .shr n1 32) * (bitI .u64 .and n2 4294967295))) + (shI .u64 .shr (IntKind.wrap .u64 ((bitI .u64 .and n0 4294967295) * (bitI .u64 .and n2 4294967295))) 32))) 32))) + (shI .u64 .shr (IntKind.wrap .u64 ((bitI .u64 .and (IntKind.wrap .u64 ((IntKind.wrap .u64 ((shI .u64 .shr n1 32) * (bitI .u64 .and n2 4294967295))) + (shI .u64 .shr (IntKind.wrap .u64 ((bitI .u64 .and n0 4294967295) * (bitI .u64 .and n2 4294967295))) 32))) 4294967295) + (IntKind.wrap .u64 ((bitI .u64 .and n0 4294967295) * (shI .u64 .shr n3 32))))) 32)))), (.int .u64 (IntKind.wrap .u64 (n4 * n5)))]) h
def A_math_bits_Mul64 : Ann :=
 (.two .leaf (.two .leaf (.two .leaf (.two .leaf (.two .leaf (.two .leaf (.two .leaf (.two .leaf (.two .leaf (.two .leaf (.two .leaf (.two .leaf .leaf))))))))))))
theorem C_math_bits_Mul64 (ω : Amb) (x_p y_p : Value) (h : Hp) (R : Value → Hp → Prop) (X : List PanicEntry → Hp → Prop) (hk : W_math_bits_Mul64 ω x_p y_p h R X) : CallX Try.prog ω 46 [x_p, y_p] h R X :=
 callX_of (an := A_math_bits_Mul64) Try.func46 ((show fnX Try.prog ω A_math_bits_Mul64 Try.f46 [x_p, y_p] h R X = W_math_bits_Mul64 ω x_p y_p h R X by kernel_rfl) ▸ hk)

/-- slices.order2Ordered[int] -/
abbrev n_slices_order2Ordered_int : Nat := 47
def W_slices_order2Ordered_int (ω : Amb) (data_p a_p b_p swaps_p : Value) (h : Hp) (R : Value → Hp → Prop) (X : List PanicEntry → Hp → Prop) : Prop :=
 asSl1 data_p fun a0 l1 c2 => asI b_p fun n3 => 0 ≤ (n3 : Int) ∧ n3 < (l1 : Int) ∧ ∃ v4, cellH h (Addr.add a0 (Int.toNat n3 * 1)) = some v4 ∧
 asSl1 data_p fun a5 l6 c7 => asI a_p fun n8 => 0 ≤ (n8 : Int) ∧ n8 < (l6 : Int) ∧ ∃ v9, cellH h (Addr.add a5 (Int.toNat n8 * 1)) = some v9 ∧
 CallX Try.prog ω 33 [v4, v9] h (fun r10 h11 =>
 asB r10 fun b12 => cond b12
 (nnK swaps_p (asP swaps_p fun p13 =>
 ∃ v14, cellH h11 p13 = some v14 ∧
 asK .i64 v14 fun n15 => nnK swaps_p (asP swaps_p fun p16 =>
 storeK1 h11 p16 (.int .i64 (IntKind.wrap .i64 (n15 + 1))) fun h17 =>
 R (.tuple #[b_p, a_p]) h17)))
 (R (.tuple #[a_p, b_p]) h11)) X
def A_slices_order2Ordered_int : Ann :=
 (.two .leaf (.two (.two (.plan [0, 1, 2, 3, 4, 5, 6, 7, 8]) (.two (.two .leaf (.two .leaf .leaf)) .leaf)) (.two .leaf .leaf)))
theorem C_slices_order2Ordered_int (ω : Amb) (data_p a_p b_p swaps_p : Value) (h : Hp) (R : Value → Hp → Prop) (X : List PanicEntry → Hp → Prop) (hk : W_slices_order2Ordered_int ω data_p a_p b_p swaps_p h R X) : CallX Try.prog ω 47 [data_p, a_p, b_p, swaps_p] h R X :=
 callX_of (an := A_slices_order2Ordered_int) Try.func47 ((show fnX Try.prog ω A_slices_order2Ordered_int Try.f47 [data_p, a_p, b_p, swaps_p] h R X = W_slices_order2Ordered_int ω data_p a_p b_p swaps_p h R X by kernel_rfl) ▸ hk)
/- 48 (runtime.boundsError).Error: not printed: [no body] -/
/- 49 (runtime.boundsError).RuntimeError: not printed: [no body] -/
/- 50 (runtime.errorString).Error: not printed: [no body] -/
/- 51 (runtime.errorString).RuntimeError: not printed: [no body] -/
/- 52 (runtime.plainError).Error: not printed: [no body] -/
/- 53 (runtime.plainError).RuntimeError: not printed: [no body] -/
/- 54 (runtime.errorAddressString).Error: not printed: [no body] -/
/- 55 (runtime.errorAddressString).RuntimeError: not printed: [no body] -/
/- 56 (*runtime.TypeAssertionError).Error: not printed: [no body] -/
/- 57 (*runtime.TypeAssertionError).RuntimeError: not printed: [no body] -/
/- 58 (*runtime.PanicNilError).Error: not printed: [no body] -/
/- 59 (*runtime.PanicNilError).RuntimeError: not printed: [no body] -/

end Go.Proofs.Ytfjkddigflijeaa.Sx
