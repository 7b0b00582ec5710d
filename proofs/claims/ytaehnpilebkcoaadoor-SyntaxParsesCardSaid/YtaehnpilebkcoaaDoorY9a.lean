/- Formulas of the functions' texts, written by a program of ours; each is checked by the kernel. -/
import Derived.Test.YtaehnpilebkcoaaDoorSxCore
import Derived.KernelRfl
import Derived.Test.YtaehnpilebkcoaaDoorProg
set_option linter.unusedVariables false
set_option maxRecDepth 100000
namespace Go.Proofs.YtaehnpilebkcoaaDoor.Sx
open Go Go.Sx Go.Proofs

/-- pipewright/pipewrightref.SameProgram -/
abbrev n_pipewrightref_SameProgram : Nat := 18
def W_pipewrightref_SameProgram (ω : Amb) (a_p b_p places_p : Value) (h : Hp) (R : Value → Hp → Prop) (X : List PanicEntry → Hp → Prop) : Prop :=
 ∃ v0, cellH (Array.push (Array.push h (.cells (Value.cells a_p) 24 (0, 0))) (.cells (Value.cells b_p) 24 (0, 0))) (Addr.add ⟨Array.size h, 0, none⟩ 0) = some v0 ∧
 asSl v0 fun a1 l2 c3 => ∃ v4, cellH (Array.push (Array.push h (.cells (Value.cells a_p) 24 (0, 0))) (.cells (Value.cells b_p) 24 (0, 0))) (Addr.add ⟨Array.size (Array.push h (.cells (Value.cells a_p) 24 (0, 0))), 0, none⟩ 0) = some v4 ∧
 asSl v4 fun a5 l6 c7 => cond ((l2 : Int) != ((l6 : Int) : Int))
 (R (.bool false) (Array.push (Array.push h (.cells (Value.cells a_p) 24 (0, 0))) (.cells (Value.cells b_p) 24 (0, 0))))
 (∃ (I8 : Value → Hp → Prop) (μ9 : Value → Hp → Nat), I8 (.int .i64 0) (Array.push (Array.push h (.cells (Value.cells a_p) 24 (0, 0))) (.cells (Value.cells b_p) 24 (0, 0))) ∧ ∀ i_10 (d11 : Nat → Value) (h12 : Hp), I8 i_10 h12 →
 ∃ v13, cellH h12 (Addr.add ⟨Array.size h, 0, none⟩ 0) = some v13 ∧
 asSl v13 fun a14 l15 c16 => asK .i64 i_10 fun n17 => cond (decide ((n17 : Int) < (l15 : Int)))
 (∃ v18, cellH h12 (Addr.add ⟨Array.size h, 0, none⟩ 0) = some v18 ∧
 asSl1 v18 fun a19 l20 c21 => asI i_10 fun n22 => 0 ≤ (n22 : Int) ∧ n22 < (l20 : Int) ∧ ∃ C23, cellsH h12 (Addr.add a19 (Int.toNat n22 * 4)) 4 C23 ∧
 ∃ v24, cellH h12 (Addr.add ⟨Array.size (Array.push h (.cells (Value.cells a_p) 24 (0, 0))), 0, none⟩ 0) = some v24 ∧
 asSl1 v24 fun a25 l26 c27 => asI i_10 fun n28 => 0 ≤ (n28 : Int) ∧ n28 < (l26 : Int) ∧ ∃ C29, cellsH h12 (Addr.add a25 (Int.toNat n28 * 4)) 4 C29 ∧
 (cellsH (Array.push h12 (.cells #[(.string ⟨#[]⟩), (.int .i64 0), (.slice none 0 0), (.slice none 0 0)] 51 (0, 0))) (Addr.add a25 (Int.toNat n28 * 4)) 4 C29 ∧ cellH (Array.push h12 (.cells #[(.string ⟨#[]⟩), (.int .i64 0), (.slice none 0 0), (.slice none 0 0)] 51 (0, 0))) (Addr.add ⟨Array.size (Array.push h (.cells (Value.cells a_p) 24 (0, 0))), 0, none⟩ 0) = some v24 ∧ cellsH (Array.push h12 (.cells #[(.string ⟨#[]⟩), (.int .i64 0), (.slice none 0 0), (.slice none 0 0)] 51 (0, 0))) (Addr.add a19 (Int.toNat n22 * 4)) 4 C23 ∧ cellH (Array.push h12 (.cells #[(.string ⟨#[]⟩), (.int .i64 0), (.slice none 0 0), (.slice none 0 0)] 51 (0, 0))) (Addr.add ⟨Array.size h, 0, none⟩ 0) = some v18 ∧ cellsH (Array.push (Array.push h12 (.cells #[(.string ⟨#[]⟩), (.int .i64 0), (.slice none 0 0), (.slice none 0 0)] 51 (0, 0))) (.cells #[(.string ⟨#[]⟩), (.int .i64 0), (.slice none 0 0), (.slice none 0 0)] 51 (0, 0))) (Addr.add a25 (Int.toNat n28 * 4)) 4 C29 ∧ cellH (Array.push (Array.push h12 (.cells #[(.string ⟨#[]⟩), (.int .i64 0), (.slice none 0 0), (.slice none 0 0)] 51 (0, 0))) (.cells #[(.string ⟨#[]⟩), (.int .i64 0), (.slice none 0 0), (.slice none 0 0)] 51 (0, 0))) (Addr.add ⟨Array.size (Array.push h (.cells (Value.cells a_p) 24 (0, 0))), 0, none⟩ 0) = some v24 ∧ cellsH (Array.push (Array.push h12 (.cells #[(.string ⟨#[]⟩), (.int .i64 0), (.slice none 0 0), (.slice none 0 0)] 51 (0, 0))) (.cells #[(.string ⟨#[]⟩), (.int .i64 0), (.slice none 0 0), (.slice none 0 0)] 51 (0, 0))) (Addr.add a19 (Int.toNat n22 * 4)) 4 C23 ∧ cellH (Array.push (Array.push h12 (.cells #[(.string ⟨#[]⟩), (.int .i64 0), (.slice none 0 0), (.slice none 0 0)] 51 (0, 0))) (.cells #[(.string ⟨#[]⟩), (.int .i64 0), (.slice none 0 0), (.slice none 0 0)] 51 (0, 0))) (Addr.add ⟨Array.size h, 0, none⟩ 0) = some v18 ∧ C23.toArray.size = 4 ∧ (∀ u ∈ C23.toArray.toList, one u) ∧ storeK (Array.push (Array.push h12 (.cells #[(.string ⟨#[]⟩), (.int .i64 0), (.slice none 0 0), (.slice none 0 0)] 51 (0, 0))) (.cells #[(.string ⟨#[]⟩), (.int .i64 0), (.slice none 0 0), (.slice none 0 0)] 51 (0, 0))) ⟨Array.size h12, 0, none⟩ C23.toArray.toList fun h30 =>
 cellsH h30 (Addr.add a25 (Int.toNat n28 * 4)) 4 C29 ∧ cellH h30 (Addr.add ⟨Array.size (Array.push h (.cells (Value.cells a_p) 24 (0, 0))), 0, none⟩ 0) = some v24 ∧ C29.toArray.size = 4 ∧ (∀ u ∈ C29.toArray.toList, one u) ∧ storeK h30 ⟨Array.size (Array.push h12 (.cells #[(.string ⟨#[]⟩), (.int .i64 0), (.slice none 0 0), (.slice none 0 0)] 51 (0, 0))), 0, none⟩ C29.toArray.toList fun h31 =>
 ∃ J32 : Value → Hp → Prop,
 (∃ v36, cellH h31 (Addr.add ⟨Array.size h12, 0, none⟩ 0) = some v36 ∧
 ∃ v37, cellH h31 (Addr.add ⟨Array.size (Array.push h12 (.cells #[(.string ⟨#[]⟩), (.int .i64 0), (.slice none 0 0), (.slice none 0 0)] 51 (0, 0))), 0, none⟩ 0) = some v37 ∧
 asS v36 fun s38 => asS v37 fun s39 => cond (!(ByteArray.toList s38 == ByteArray.toList s39))
 (J32 (.bool true) h31)
 (asB places_p fun b40 => cond b40
 (∃ v41, cellH h31 (Addr.add ⟨Array.size h12, 0, none⟩ 1) = some v41 ∧
 ∃ v42, cellH h31 (Addr.add ⟨Array.size (Array.push h12 (.cells #[(.string ⟨#[]⟩), (.int .i64 0), (.slice none 0 0), (.slice none 0 0)] 51 (0, 0))), 0, none⟩ 1) = some v42 ∧
 asK .i64 v41 fun n43 => asK .i64 v42 fun n44 => cond (n43 != (n44 : Int))
 (J32 (.bool true) h31)
 (∃ v45, cellH h31 (Addr.add ⟨Array.size h12, 0, none⟩ 2) = some v45 ∧
 asSl v45 fun a46 l47 c48 => ∃ v49, cellH h31 (Addr.add ⟨Array.size (Array.push h12 (.cells #[(.string ⟨#[]⟩), (.int .i64 0), (.slice none 0 0), (.slice none 0 0)] 51 (0, 0))), 0, none⟩ 2) = some v49 ∧
 asSl v49 fun a50 l51 c52 => cond ((l47 : Int) != ((l51 : Int) : Int))
 (J32 (.bool true) h31)
 (∃ v53, cellH h31 (Addr.add ⟨Array.size h12, 0, none⟩ 3) = some v53 ∧
 ∃ v54, cellH h31 (Addr.add ⟨Array.size (Array.push h12 (.cells #[(.string ⟨#[]⟩), (.int .i64 0), (.slice none 0 0), (.slice none 0 0)] 51 (0, 0))), 0, none⟩ 3) = some v54 ∧
 CallX Tryd.prog ω 33 [v53, v54, places_p] h31 (fun r55 h56 =>
 asB r55 fun b57 => J32 (.bool (!b57)) h56) X)))
 (∃ v58, cellH h31 (Addr.add ⟨Array.size h12, 0, none⟩ 2) = some v58 ∧
 asSl v58 fun a59 l60 c61 => ∃ v62, cellH h31 (Addr.add ⟨Array.size (Array.push h12 (.cells #[(.string ⟨#[]⟩), (.int .i64 0), (.slice none 0 0), (.slice none 0 0)] 51 (0, 0))), 0, none⟩ 2) = some v62 ∧
 asSl v62 fun a63 l64 c65 => cond ((l60 : Int) != ((l64 : Int) : Int))
 (J32 (.bool true) h31)
 (∃ v66, cellH h31 (Addr.add ⟨Array.size h12, 0, none⟩ 3) = some v66 ∧
 ∃ v67, cellH h31 (Addr.add ⟨Array.size (Array.push h12 (.cells #[(.string ⟨#[]⟩), (.int .i64 0), (.slice none 0 0), (.slice none 0 0)] 51 (0, 0))), 0, none⟩ 3) = some v67 ∧
 CallX Tryd.prog ω 33 [v66, v67, places_p] h31 (fun r68 h69 =>
 asB r68 fun b70 => J32 (.bool (!b70)) h69) X)))) ∧
 ∀ t67_33 (d34 : Nat → Value) (h35 : Hp), J32 t67_33 h35 →
 asB t67_33 fun b71 => cond b71
 (R (.bool false) h35)
 (∃ (I72 : Value → Hp → Prop) (μ73 : Value → Hp → Nat), I72 (.int .i64 0) h35 ∧ ∀ k_74 (d75 : Nat → Value) (h76 : Hp), I72 k_74 h76 →
 ∃ v77, cellH h76 (Addr.add ⟨Array.size h12, 0, none⟩ 2) = some v77 ∧
 asSl v77 fun a78 l79 c80 => asK .i64 k_74 fun n81 => cond (decide ((n81 : Int) < (l79 : Int)))
 (∃ v82, cellH h76 (Addr.add ⟨Array.size h12, 0, none⟩ 2) = some v82 ∧
 asSl1 v82 fun a83 l84 c85 => asI k_74 fun n86 => 0 ≤ (n86 : Int) ∧ n86 < (l84 : Int) ∧ ∃ C87, cellsH h76 (Addr.add a83 (Int.toNat n86 * 2)) 2 C87 ∧
 ∃ v88, cellH h76 (Addr.add ⟨Array.size (Array.push h12 (.cells #[(.string ⟨#[]⟩), (.int .i64 0), (.slice none 0 0), (.slice none 0 0)] 51 (0, 0))), 0, none⟩ 2) = some v88 ∧
 asSl1 v88 fun a89 l90 c91 => asI k_74 fun n92 => 0 ≤ (n92 : Int) ∧ n92 < (l90 : Int) ∧ ∃ C93, cellsH h76 (Addr.add a89 (Int.toNat n92 * 2)) 2 C93 ∧
 asO C87.toArray[0]? fun v94 => asO C93.toArray[0]? fun v95 => asS v94 fun s96 => asS v95 fun s97 => asO C87.toArray[1]? fun v98 => asO C93.toArray[1]? fun v99 => asS v98 fun s100 => asS v99 fun s101 => cond (!((ByteArray.toList s96 == ByteArray.toList s97) && ((ByteArray.toList s100 == ByteArray.toList s101) && true)))
 (R (.bool false) h76)
 (asK .i64 k_74 fun n102 => I72 (.int .i64 (IntKind.wrap .i64 (n102 + 1))) h76 ∧ μ73 (.int .i64 (IntKind.wrap .i64 (n102 + 1))) h76 < μ73 k_74 h76))
 (asK .i64 i_10 fun n103 => I8 (.int .i64 (IntKind.wrap .i64 (n103 + 1))) h76 ∧ μ9 (.int .i64 (IntKind.wrap .i64 (n103 + 1))) h76 < μ9 i_10 h12))) ∧
(cellsH (Array.push h12 (.cells #[(.string ⟨#[]⟩), (.int .i64 0), (.slice none 0 0), (.slice none 0 0)] 51 (0, 0))) (Addr.add a25 (Int.toNat n28 * 4)) 4 C29 ∧ cellH (Array.push h12 (.cells #[(.string ⟨#[]⟩), (.int .i64 0), (.slice none 0 0), (.slice none 0 0)] 51 (0, 0))) (Addr.add ⟨Array.size (Array.push h (.cells (Value.cells a_p) 24 (0, 0))), 0, none⟩ 0) = some v24 ∧ cellsH (Array.push h12 (.cells #[(.string ⟨#[]⟩), (.int .i64 0), (.slice none 0 0), (.slice none 0 0)] 51 (0, 0))) (Addr.add a19 (Int.toNat n22 * 4)) 4 C23 ∧ cellH (Array.push h12 (.cells #[(.string ⟨#[]⟩), (.int .i64 0), (.slice none 0 0), (.slice none 0 0)] 51 (0, 0))) (Addr.add ⟨Array.size h, 0, none⟩ 0) = some v18 ∧ cellsH (Array.push (Array.push h12 (.cells #[(.string ⟨#[]⟩), (.int .i64 0), (.slice none 0 0), (.slice none 0 0)] 51 (0, 0))) (.cells #[(.string ⟨#[]⟩), (.int .i64 0), (.slice none 0 0), (.slice none 0 0)] 51 (0, 0))) (Addr.add a25 (Int.toNat n28 * 4)) 4 C29 ∧ cellH (Array.push (Array.push h12 (.cells #[(.string ⟨#[]⟩), (.int .i64 0), (.slice none 0 0), (.slice none 0 0)] 51 (0, 0))) (.cells #[(.string ⟨#[]⟩), (.int .i64 0), (.slice none 0 0), (.slice none 0 0)] 51 (0, 0))) (Addr.add ⟨Array.size (Array.push h (.cells (Value.cells a_p) 24 (0, 0))), 0, none⟩ 0) = some v24 ∧ cellsH (Array.push (Array.push h12 (.cells #[(.string ⟨#[]⟩), (.int .i64 0), (.slice none 0 0), (.slice none 0 0)] 51 (0, 0))) (.cells #[(.string ⟨#[]⟩), (.int .i64 0), (.slice none 0 0), (.slice none 0 0)] 51 (0, 0))) (Addr.add a19 (Int.toNat n22 * 4)) 4 C23 ∧ cellH (Array.push (Array.push h12 (.cells #[(.string ⟨#[]⟩), (.int .i64 0), (.slice none 0 0), (.slice none 0 0)] 51 (0, 0))) (.cells #[(.string ⟨#[]⟩), (.int .i64 0), (.slice none 0 0), (.slice none 0 0)] 51 (0, 0))) (Addr.add ⟨Array.size h, 0, none⟩ 0) = some v18 ∧ C23.toArray.size = 4 ∧ (∀ u ∈ C23.toArray.toList, one u) ∧ storeK (Array.push (Array.push h12 (.cells #[(.string ⟨#[]⟩), (.int .i64 0), (.slice none 0 0), (.slice none 0 0)] 51 (0, 0))) (.cells #[(.string ⟨#[]⟩), (.int .i64 0), (.slice none 0 0), (.slice none 0 0)] 51 (0, 0))) ⟨Array.size (Array.push h12 (.cells #[(.string ⟨#[]⟩), (.int .i64 0), (.slice none 0 0), (.slice none 0 0)] 51 (0, 0))), 0, none⟩ C23.toArray.toList fun h104 =>
 cellsH h104 (Addr.add a25 (Int.toNat n28 * 4)) 4 C29 ∧ cellH h104 (Addr.add ⟨Array.size (Array.push h (.cells (Value.cells a_p) 24 (0, 0))), 0, none⟩ 0) = some v24 ∧ C29.toArray.size = 4 ∧ (∀ u ∈ C29.toArray.toList, one u) ∧ storeK h104 ⟨Array.size h12, 0, none⟩ C29.toArray.toList fun h105 =>
 ∃ J106 : Value → Hp → Prop,
 (∃ v110, cellH h105 (Addr.add ⟨Array.size (Array.push h12 (.cells #[(.string ⟨#[]⟩), (.int .i64 0), (.slice none 0 0), (.slice none 0 0)] 51 (0, 0))), 0, none⟩ 0) = some v110 ∧
 ∃ v111, cellH h105 (Addr.add ⟨Array.size h12, 0, none⟩ 0) = some v111 ∧
 asS v110 fun s112 => asS v111 fun s113 => cond (!(ByteArray.toList s112 == ByteArray.toList s113))
 (J106 (.bool true) h105)
 (asB places_p fun b114 => cond b114
 (∃ v115, cellH h105 (Addr.add ⟨Array.size (Array.push h12 (.cells #[(.string ⟨#[]⟩), (.int .i64 0), (.slice none 0 0), (.slice none 0 0)] 51 (0, 0))), 0, none⟩ 1) = some v115 ∧
 ∃ v116, cellH h105 (Addr.add ⟨Array.size h12, 0, none⟩ 1) = some v116 ∧
 asK .i64 v115 fun n117 => asK .i64 v116 fun n118 => cond (n117 != (n118 : Int))
 (J106 (.bool true) h105)
 (∃ v119, cellH h105 (Addr.add ⟨Array.size (Array.push h12 (.cells #[(.string ⟨#[]⟩), (.int .i64 0), (.slice none 0 0), (.slice none 0 0)] 51 (0, 0))), 0, none⟩ 2) = some v119 ∧
 asSl v119 fun a120 l121 c122 => ∃ v123, cellH h105 (Addr.add ⟨Array.size h12, 0, none⟩ 2) = some v123 ∧
 asSl v123 fun a124 l125 c126 => cond ((l121 : Int) != ((l125 : Int) : Int))
 (J106 (.bool true) h105)
 (∃ v127, cellH h105 (Addr.add ⟨Array.size (Array.push h12 (.cells #[(.string ⟨#[]⟩), (.int .i64 0), (.slice none 0 0), (.slice none 0 0)] 51 (0, 0))), 0, none⟩ 3) = some v127 ∧
 ∃ v128, cellH h105 (Addr.add ⟨Array.size h12, 0, none⟩ 3) = some v128 ∧
 CallX Tryd.prog ω 33 [v127, v128, places_p] h105 (fun r129 h130 =>
 asB r129 fun b131 => J106 (.bool (!b131)) h130) X)))
 (∃ v132, cellH h105 (Addr.add ⟨Array.size (Array.push h12 (.cells #[(.string ⟨#[]⟩), (.int .i64 0), (.slice none 0 0), (.slice none 0 0)] 51 (0, 0))), 0, none⟩ 2) = some v132 ∧
 asSl v132 fun a133 l134 c135 => ∃ v136, cellH h105 (Addr.add ⟨Array.size h12, 0, none⟩ 2) = some v136 ∧
 asSl v136 fun a137 l138 c139 => cond ((l134 : Int) != ((l138 : Int) : Int))
 (J106 (.bool true) h105)
 (∃ v140, cellH h105 (Addr.add ⟨Array.size (Array.push h12 (.cells #[(.string ⟨#[]⟩), (.int .i64 0), (.slice none 0 0), (.slice none 0 0)] 51 (0, 0))), 0, none⟩ 3) = some v140 ∧
 ∃ v141, cellH h105 (Addr.add ⟨Array.size h12, 0, none⟩ 3) = some v141 ∧
 CallX Tryd.prog ω 33 [v140, v141, places_p] h105 (fun r142 h143 =>
 asB r142 fun b144 => J106 (.bool (!b144)) h143) X)))) ∧
 ∀ t67_107 (d108 : Nat → Value) (h109 : Hp), J106 t67_107 h109 →
 asB t67_107 fun b145 => cond b145
 (R (.bool false) h109)
 (∃ (I146 : Value → Hp → Prop) (μ147 : Value → Hp → Nat), I146 (.int .i64 0) h109 ∧ ∀ k_148 (d149 : Nat → Value) (h150 : Hp), I146 k_148 h150 →
 ∃ v151, cellH h150 (Addr.add ⟨Array.size (Array.push h12 (.cells #[(.string ⟨#[]⟩), (.int .i64 0), (.slice none 0 0), (.slice none 0 0)] 51 (0, 0))), 0, none⟩ 2) = some v151 ∧
 asSl v151 fun a152 l153 c154 => asK .i64 k_148 fun n155 => cond (decide ((n155 : Int) < (l153 : Int)))
 (∃ v156, cellH h150 (Addr.add ⟨Array.size (Array.push h12 (.cells #[(.string ⟨#[]⟩), (.int .i64 0), (.slice none 0 0), (.slice none 0 0)] 51 (0, 0))), 0, none⟩ 2) = some v156 ∧
 asSl1 v156 fun a157 l158 c159 => asI k_148 fun n160 => 0 ≤ (n160 : Int) ∧ n160 < (l158 : Int) ∧ ∃ C161, cellsH h150 (Addr.add a157 (Int.toNat n160 * 2)) 2 C161 ∧
 ∃ v162, cellH h150 (Addr.add ⟨Array.size h12, 0, none⟩ 2) = some v162 ∧
 asSl1 v162 fun a163 l164 c165 => asI k_148 fun n166 => 0 ≤ (n166 : Int) ∧ n166 < (l164 : Int) ∧ ∃ C167, cellsH h150 (Addr.add a163 (Int.toNat n166 * 2)) 2 C167 ∧
 asO C161.toArray[0]? fun v168 => asO C167.toArray[0]? fun v169 => asS v168 fun s170 => asS v169 fun s171 => asO C161.toArray[1]? fun v172 => asO C167.toArray[1]? fun v173 => asS v172 fun s174 => asS v173 fun s175 => cond (!((ByteArray.toList s170 == ByteArray.toList s171) && ((ByteArray.toList s174 == ByteArray.toList s175) && true)))
 (R (.bool false) h150)
 (asK .i64 k_148 fun n176 => I146 (.int .i64 (IntKind.wrap .i64 (n176 + 1))) h150 ∧ μ147 (.int .i64 (IntKind.wrap .i64 (n176 + 1))) h150 < μ147 k_148 h150))
 (asK .i64 i_10 fun n177 => I8 (.int .i64 (IntKind.wrap .i64 (n177 + 1))) h150 ∧ μ9 (.int .i64 (IntKind.wrap .i64 (n177 + 1))) h150 < μ9 i_10 h12))))
 (R (.bool true) h12))
def A_pipewrightref_SameProgram : Ann :=
 (.two .leaf (.two (.two .leaf (.two (.two .leaf .leaf) .leaf)) (.two (.two .leaf (.one (.loop [18, 19, 20, 21, 22, 25, 26, 27, 28, 29, 30, 31, 32, 33, 34, 8, 9, 35, 36, 37, 38, 39, 40, 41, 42, 43, 44, 45, 46, 47, 48, 49, 50, 51, 52, 53, 54, 55, 56, 57, 58, 59, 60, 61, 62, 63, 64, 65, 66, 67, 6, 10, 68, 69, 70, 71, 72, 75, 76, 77, 78, 79, 80, 81, 82, 83, 84, 85, 73, 74, 23, 24, 7] [7] (.two (.two .leaf (.two .leaf .leaf)) (.two (.one (.two (.plan [0, 1, 2, 3, 4, 5, 6, 7, 8, 9, 10, 11, 12, 13]) (.two (.two (.join [35, 36, 37, 38, 39, 40, 41, 42, 43, 44, 45, 46, 47, 48, 49, 50, 51, 52, 53, 54, 55, 56, 57, 58, 59, 60, 61, 62, 63, 64, 65, 66, 67] [67] .leaf) (.two (.two .leaf .leaf) .leaf)) (.two .leaf (.one (.loop [68, 69, 70, 71, 72, 75, 76, 77, 78, 79, 80, 81, 82, 83, 84, 85, 6, 73, 74, 10] [10] (.two (.two .leaf (.two .leaf .leaf)) (.two (.one (.two (.plan [0, 1, 2, 3, 4, 5, 6, 7, 8, 9, 10]) (.two (.two .leaf .leaf) .leaf))) .leaf)))))))) .leaf))))) (.two .leaf .leaf))))
theorem C_pipewrightref_SameProgram (ω : Amb) (a_p b_p places_p : Value) (h : Hp) (R : Value → Hp → Prop) (X : List PanicEntry → Hp → Prop) (hk : W_pipewrightref_SameProgram ω a_p b_p places_p h R X) : CallX Tryd.prog ω 18 [a_p, b_p, places_p] h R X :=
 callX_of (an := A_pipewrightref_SameProgram) Tryd.func18 ((show fnX Tryd.prog ω A_pipewrightref_SameProgram Tryd.f18 [a_p, b_p, places_p] h R X = W_pipewrightref_SameProgram ω a_p b_p places_p h R X by kernel_rfl) ▸ hk)

/-- pipewright/syntax.Count -/
abbrev n_syntax_Count : Nat := 24
def W_syntax_Count (ω : Amb) (p_p : Value) (h : Hp) (R : Value → Hp → Prop) (X : List PanicEntry → Hp → Prop) : Prop :=
 ∃ v0, cellH (Array.push h (.cells (Value.cells p_p) 24 (0, 0))) (Addr.add ⟨Array.size h, 0, none⟩ 0) = some v0 ∧
 asSl v0 fun a1 l2 c3 => ∃ (I4 : Value → Value → Hp → Prop) (μ5 : Value → Value → Hp → Nat), I4 (.int .i64 0) (.int .i64 0) (Array.push h (.cells (Value.cells p_p) 24 (0, 0))) ∧ ∀ n_6 t9_7 (d8 : Nat → Value) (h9 : Hp), I4 n_6 t9_7 h9 →
 asK .i64 t9_7 fun n10 => cond (decide ((n10 : Int) < (l2 : Int)))
 (asSl1 v0 fun a11 l12 c13 => asI t9_7 fun n14 => 0 ≤ (n14 : Int) ∧ n14 < (l12 : Int) ∧ ∃ C15, cellsH h9 (Addr.add a11 (Int.toNat n14 * 4)) 4 C15 ∧
 C15.toArray.size = 4 ∧ (∀ u ∈ C15.toArray.toList, one u) ∧ storeK (Array.push h9 (.cells #[(.string ⟨#[]⟩), (.int .i64 0), (.slice none 0 0), (.slice none 0 0)] 51 (0, 0))) ⟨Array.size h9, 0, none⟩ C15.toArray.toList fun h16 =>
 ∃ v17, cellH h16 (Addr.add ⟨Array.size h9, 0, none⟩ 3) = some v17 ∧
 CallX Tryd.prog ω 50 [v17] h16 (fun r18 h19 =>
 asK .i64 n_6 fun n20 => asK .i64 r18 fun n21 => asK .i64 t9_7 fun n22 => I4 (.int .i64 (IntKind.wrap .i64 (n20 + n21))) (.int .i64 (IntKind.wrap .i64 (n22 + 1))) h19 ∧ μ5 (.int .i64 (IntKind.wrap .i64 (n20 + n21))) (.int .i64 (IntKind.wrap .i64 (n22 + 1))) h19 < μ5 n_6 t9_7 h9) X)
 (R n_6 h9)
def A_syntax_Count : Ann :=
 (.two .leaf (.two .leaf (.two (.two .leaf (.one (.loop [10, 11, 12, 5, 13, 14, 15, 16, 17, 3, 18, 9] [3, 9] (.two .leaf (.two (.two .leaf .leaf) (.two (.one (.two .leaf .leaf)) .leaf)))))) (.two .leaf .leaf))))
theorem C_syntax_Count (ω : Amb) (p_p : Value) (h : Hp) (R : Value → Hp → Prop) (X : List PanicEntry → Hp → Prop) (hk : W_syntax_Count ω p_p h R X) : CallX Tryd.prog ω 24 [p_p] h R X :=
 callX_of (an := A_syntax_Count) Tryd.func24 ((show fnX Tryd.prog ω A_syntax_Count Tryd.f24 [p_p] h R X = W_syntax_Count ω p_p h R X by kernel_rfl) ▸ hk)

/-- pipewright/pipewrightref.Count -/
abbrev n_pipewrightref_Count : Nat := 25
def W_pipewrightref_Count (ω : Amb) (p_p : Value) (h : Hp) (R : Value → Hp → Prop) (X : List PanicEntry → Hp → Prop) : Prop :=
 ∃ (I0 : Value → Value → Hp → Prop) (μ1 : Value → Value → Hp → Nat), I0 (.int .i64 0) (.int .i64 0) (Array.push h (.cells (Value.cells p_p) 24 (0, 0))) ∧ ∀ n_2 i_3 (d4 : Nat → Value) (h5 : Hp), I0 n_2 i_3 h5 →
 ∃ v6, cellH h5 (Addr.add ⟨Array.size h, 0, none⟩ 0) = some v6 ∧
 asSl v6 fun a7 l8 c9 => asK .i64 i_3 fun n10 => cond (decide ((n10 : Int) < (l8 : Int)))
 (∃ v11, cellH h5 (Addr.add ⟨Array.size h, 0, none⟩ 0) = some v11 ∧
 asSl1 v11 fun a12 l13 c14 => asI i_3 fun n15 => 0 ≤ (n15 : Int) ∧ n15 < (l13 : Int) ∧ ∃ v16, cellH h5 (Addr.add (Addr.add a12 (Int.toNat n15 * 4)) 3) = some v16 ∧
 CallX Tryd.prog ω 51 [v16] h5 (fun r17 h18 =>
 asK .i64 n_2 fun n19 => asK .i64 r17 fun n20 => asK .i64 i_3 fun n21 => I0 (.int .i64 (IntKind.wrap .i64 (n19 + n20))) (.int .i64 (IntKind.wrap .i64 (n21 + 1))) h18 ∧ μ1 (.int .i64 (IntKind.wrap .i64 (n19 + n20))) (.int .i64 (IntKind.wrap .i64 (n21 + 1))) h18 < μ1 n_2 i_3 h5) X)
 (R n_2 h5)
def A_pipewrightref_Count : Ann :=
 (.two .leaf (.two .leaf (.two (.two .leaf (.one (.loop [5, 6, 7, 8, 9, 12, 13, 14, 15, 16, 17, 18, 19, 20, 3, 10, 11, 4] [3, 4] (.two (.two .leaf (.two .leaf .leaf)) (.two (.one .leaf) .leaf))))) (.two .leaf .leaf))))
theorem C_pipewrightref_Count (ω : Amb) (p_p : Value) (h : Hp) (R : Value → Hp → Prop) (X : List PanicEntry → Hp → Prop) (hk : W_pipewrightref_Count ω p_p h R X) : CallX Tryd.prog ω 25 [p_p] h R X :=
 callX_of (an := A_pipewrightref_Count) Tryd.func25 ((show fnX Tryd.prog ω A_pipewrightref_Count Tryd.f25 [p_p] h R X = W_pipewrightref_Count ω p_p h R X by kernel_rfl) ▸ hk)

/-- pipewright/pipewrightref.F -/
abbrev n_pipewrightref_F : Nat := 32
def W_pipewrightref_F (ω : Amb) (code_p at_p : Value) (h : Hp) (R : Value → Hp → Prop) (X : List PanicEntry → Hp → Prop) : Prop :=
 oneK code_p (oneK at_p (2 = 2 ∧ (∀ u ∈ [code_p, at_p], one u) ∧ storeK (Array.push h (.cells #[(.int .i64 0), (.int .i64 0)] 28 (0, 0))) ⟨Array.size h, 0, none⟩ [code_p, at_p] fun h0 =>
 ∃ C1, cellsH h0 ⟨Array.size h, 0, none⟩ 2 C1 ∧ R (.agg C1.toArray) h0))
def A_pipewrightref_F : Ann :=
 (.two .leaf (.two .leaf .leaf))
theorem C_pipewrightref_F (ω : Amb) (code_p at_p : Value) (h : Hp) (R : Value → Hp → Prop) (X : List PanicEntry → Hp → Prop) (hk : W_pipewrightref_F ω code_p at_p h R X) : CallX Tryd.prog ω 32 [code_p, at_p] h R X :=
 callX_of (an := A_pipewrightref_F) Tryd.func32 ((show fnX Tryd.prog ω A_pipewrightref_F Tryd.f32 [code_p, at_p] h R X = W_pipewrightref_F ω code_p at_p h R X by kernel_rfl) ▸ hk)

/-- pipewright/pipewrightref.sameStmts -/
abbrev n_pipewrightref_sameStmts : Nat := 33
def W_pipewrightref_sameStmts (ω : Amb) (a_p b_p places_p : Value) (h : Hp) (R : Value → Hp → Prop) (X : List PanicEntry → Hp → Prop) : Prop :=
 asSl a_p fun a0 l1 c2 => asSl b_p fun a3 l4 c5 => cond ((l1 : Int) != ((l4 : Int) : Int))
 (R (.bool false) h)
 (∃ (I6 : Value → Hp → Prop) (μ7 : Value → Hp → Nat), I6 (.int .i64 0) h ∧ ∀ i_8 (d9 : Nat → Value) (h10 : Hp), I6 i_8 h10 →
 asSl a_p fun a11 l12 c13 => asK .i64 i_8 fun n14 => cond (decide ((n14 : Int) < (l12 : Int)))
 (asSl1 a_p fun a15 l16 c17 => asI i_8 fun n18 => 0 ≤ (n18 : Int) ∧ n18 < (l16 : Int) ∧ ∃ C19, cellsH h10 (Addr.add a15 (Int.toNat n18 * 9)) 9 C19 ∧
 asSl1 b_p fun a20 l21 c22 => asI i_8 fun n23 => 0 ≤ (n23 : Int) ∧ n23 < (l21 : Int) ∧ ∃ C24, cellsH h10 (Addr.add a20 (Int.toNat n23 * 9)) 9 C24 ∧
 (cellsH (Array.push h10 (.cells #[(.int .i64 0), (.int .i64 0), (.string ⟨#[]⟩), (.string ⟨#[]⟩), (.string ⟨#[]⟩), (.int .i64 0), (.slice none 0 0), (.slice none 0 0), (.slice none 0 0)] 65 (0, 0))) (Addr.add a20 (Int.toNat n23 * 9)) 9 C24 ∧ cellsH (Array.push h10 (.cells #[(.int .i64 0), (.int .i64 0), (.string ⟨#[]⟩), (.string ⟨#[]⟩), (.string ⟨#[]⟩), (.int .i64 0), (.slice none 0 0), (.slice none 0 0), (.slice none 0 0)] 65 (0, 0))) (Addr.add a15 (Int.toNat n18 * 9)) 9 C19 ∧ cellsH (Array.push (Array.push h10 (.cells #[(.int .i64 0), (.int .i64 0), (.string ⟨#[]⟩), (.string ⟨#[]⟩), (.string ⟨#[]⟩), (.int .i64 0), (.slice none 0 0), (.slice none 0 0), (.slice none 0 0)] 65 (0, 0))) (.cells #[(.int .i64 0), (.int .i64 0), (.string ⟨#[]⟩), (.string ⟨#[]⟩), (.string ⟨#[]⟩), (.int .i64 0), (.slice none 0 0), (.slice none 0 0), (.slice none 0 0)] 65 (0, 0))) (Addr.add a20 (Int.toNat n23 * 9)) 9 C24 ∧ cellsH (Array.push (Array.push h10 (.cells #[(.int .i64 0), (.int .i64 0), (.string ⟨#[]⟩), (.string ⟨#[]⟩), (.string ⟨#[]⟩), (.int .i64 0), (.slice none 0 0), (.slice none 0 0), (.slice none 0 0)] 65 (0, 0))) (.cells #[(.int .i64 0), (.int .i64 0), (.string ⟨#[]⟩), (.string ⟨#[]⟩), (.string ⟨#[]⟩), (.int .i64 0), (.slice none 0 0), (.slice none 0 0), (.slice none 0 0)] 65 (0, 0))) (Addr.add a15 (Int.toNat n18 * 9)) 9 C19 ∧ C19.toArray.size = 9 ∧ (∀ u ∈ C19.toArray.toList, one u) ∧ storeK (Array.push (Array.push h10 (.cells #[(.int .i64 0), (.int .i64 0), (.string ⟨#[]⟩), (.string ⟨#[]⟩), (.string ⟨#[]⟩), (.int .i64 0), (.slice none 0 0), (.slice none 0 0), (.slice none 0 0)] 65 (0, 0))) (.cells #[(.int .i64 0), (.int .i64 0), (.string ⟨#[]⟩), (.string ⟨#[]⟩), (.string ⟨#[]⟩), (.int .i64 0), (.slice none 0 0), (.slice none 0 0), (.slice none 0 0)] 65 (0, 0))) ⟨Array.size h10, 0, none⟩ C19.toArray.toList fun h25 =>
 cellsH h25 (Addr.add a20 (Int.toNat n23 * 9)) 9 C24 ∧ C24.toArray.size = 9 ∧ (∀ u ∈ C24.toArray.toList, one u) ∧ storeK h25 ⟨Array.size (Array.push h10 (.cells #[(.int .i64 0), (.int .i64 0), (.string ⟨#[]⟩), (.string ⟨#[]⟩), (.string ⟨#[]⟩), (.int .i64 0), (.slice none 0 0), (.slice none 0 0), (.slice none 0 0)] 65 (0, 0))), 0, none⟩ C24.toArray.toList fun h26 =>
 ∃ β27 : Bool,
 (∃ v29, cellH h26 (Addr.add ⟨Array.size h10, 0, none⟩ 0) = some v29 ∧
 ∃ v30, cellH h26 (Addr.add ⟨Array.size (Array.push h10 (.cells #[(.int .i64 0), (.int .i64 0), (.string ⟨#[]⟩), (.string ⟨#[]⟩), (.string ⟨#[]⟩), (.int .i64 0), (.slice none 0 0), (.slice none 0 0), (.slice none 0 0)] 65 (0, 0))), 0, none⟩ 0) = some v30 ∧
 asK .i64 v29 fun n31 => asK .i64 v30 fun n32 => cond (n31 != (n32 : Int))
 (((.bool true) : Value) = .bool β27 ∧ h26 = h26)
 (∃ v33, cellH h26 (Addr.add ⟨Array.size h10, 0, none⟩ 2) = some v33 ∧
 ∃ v34, cellH h26 (Addr.add ⟨Array.size (Array.push h10 (.cells #[(.int .i64 0), (.int .i64 0), (.string ⟨#[]⟩), (.string ⟨#[]⟩), (.string ⟨#[]⟩), (.int .i64 0), (.slice none 0 0), (.slice none 0 0), (.slice none 0 0)] 65 (0, 0))), 0, none⟩ 2) = some v34 ∧
 asS v33 fun s35 => asS v34 fun s36 => cond (!(ByteArray.toList s35 == ByteArray.toList s36))
 (((.bool true) : Value) = .bool β27 ∧ h26 = h26)
 (∃ v37, cellH h26 (Addr.add ⟨Array.size h10, 0, none⟩ 3) = some v37 ∧
 ∃ v38, cellH h26 (Addr.add ⟨Array.size (Array.push h10 (.cells #[(.int .i64 0), (.int .i64 0), (.string ⟨#[]⟩), (.string ⟨#[]⟩), (.string ⟨#[]⟩), (.int .i64 0), (.slice none 0 0), (.slice none 0 0), (.slice none 0 0)] 65 (0, 0))), 0, none⟩ 3) = some v38 ∧
 asS v37 fun s39 => asS v38 fun s40 => cond (!(ByteArray.toList s39 == ByteArray.toList s40))
 (((.bool true) : Value) = .bool β27 ∧ h26 = h26)
 (∃ v41, cellH h26 (Addr.add ⟨Array.size h10, 0, none⟩ 4) = some v41 ∧
 ∃ v42, cellH h26 (Addr.add ⟨Array.size (Array.push h10 (.cells #[(.int .i64 0), (.int .i64 0), (.string ⟨#[]⟩), (.string ⟨#[]⟩), (.string ⟨#[]⟩), (.int .i64 0), (.slice none 0 0), (.slice none 0 0), (.slice none 0 0)] 65 (0, 0))), 0, none⟩ 4) = some v42 ∧
 asS v41 fun s43 => asS v42 fun s44 => cond (!(ByteArray.toList s43 == ByteArray.toList s44))
 (((.bool true) : Value) = .bool β27 ∧ h26 = h26)
 (∃ v45, cellH h26 (Addr.add ⟨Array.size h10, 0, none⟩ 5) = some v45 ∧
 ∃ v46, cellH h26 (Addr.add ⟨Array.size (Array.push h10 (.cells #[(.int .i64 0), (.int .i64 0), (.string ⟨#[]⟩), (.string ⟨#[]⟩), (.string ⟨#[]⟩), (.int .i64 0), (.slice none 0 0), (.slice none 0 0), (.slice none 0 0)] 65 (0, 0))), 0, none⟩ 5) = some v46 ∧
 asK .i64 v45 fun n47 => asK .i64 v46 fun n48 => cond (n47 != (n48 : Int))
 (((.bool true) : Value) = .bool β27 ∧ h26 = h26)
 (asB places_p fun b49 => cond b49
 (∃ v50, cellH h26 (Addr.add ⟨Array.size h10, 0, none⟩ 1) = some v50 ∧
 ∃ v51, cellH h26 (Addr.add ⟨Array.size (Array.push h10 (.cells #[(.int .i64 0), (.int .i64 0), (.string ⟨#[]⟩), (.string ⟨#[]⟩), (.string ⟨#[]⟩), (.int .i64 0), (.slice none 0 0), (.slice none 0 0), (.slice none 0 0)] 65 (0, 0))), 0, none⟩ 1) = some v51 ∧
 asK .i64 v50 fun n52 => asK .i64 v51 fun n53 => ((.bool (n52 != (n53 : Int))) : Value) = .bool β27 ∧ h26 = h26)
 (((.bool false) : Value) = .bool β27 ∧ h26 = h26))))))) ∧
 ∀ d28 : Nat → Value,
 cond β27
 (R (.bool false) h26)
 (∃ J54 : Value → Hp → Prop,
 (∃ v58, cellH h26 (Addr.add ⟨Array.size h10, 0, none⟩ 6) = some v58 ∧
 ∃ v59, cellH h26 (Addr.add ⟨Array.size (Array.push h10 (.cells #[(.int .i64 0), (.int .i64 0), (.string ⟨#[]⟩), (.string ⟨#[]⟩), (.string ⟨#[]⟩), (.int .i64 0), (.slice none 0 0), (.slice none 0 0), (.slice none 0 0)] 65 (0, 0))), 0, none⟩ 6) = some v59 ∧
 CallX Tryd.prog ω 69 [v58, v59] h26 (fun r60 h61 =>
 asB r60 fun b62 => cond (!b62)
 (J54 (.bool true) h61)
 (∃ v63, cellH h61 (Addr.add ⟨Array.size h10, 0, none⟩ 7) = some v63 ∧
 ∃ v64, cellH h61 (Addr.add ⟨Array.size (Array.push h10 (.cells #[(.int .i64 0), (.int .i64 0), (.string ⟨#[]⟩), (.string ⟨#[]⟩), (.string ⟨#[]⟩), (.int .i64 0), (.slice none 0 0), (.slice none 0 0), (.slice none 0 0)] 65 (0, 0))), 0, none⟩ 7) = some v64 ∧
 CallX Tryd.prog ω 33 [v63, v64, places_p] h61 (fun r65 h66 =>
 asB r65 fun b67 => cond (!b67)
 (J54 (.bool true) h66)
 (∃ v68, cellH h66 (Addr.add ⟨Array.size h10, 0, none⟩ 8) = some v68 ∧
 ∃ v69, cellH h66 (Addr.add ⟨Array.size (Array.push h10 (.cells #[(.int .i64 0), (.int .i64 0), (.string ⟨#[]⟩), (.string ⟨#[]⟩), (.string ⟨#[]⟩), (.int .i64 0), (.slice none 0 0), (.slice none 0 0), (.slice none 0 0)] 65 (0, 0))), 0, none⟩ 8) = some v69 ∧
 CallX Tryd.prog ω 33 [v68, v69, places_p] h66 (fun r70 h71 =>
 asB r70 fun b72 => J54 (.bool (!b72)) h71) X)) X)) X) ∧
 ∀ t95_55 (d56 : Nat → Value) (h57 : Hp), J54 t95_55 h57 →
 asB t95_55 fun b73 => cond b73
 (R (.bool false) h57)
 (asK .i64 i_8 fun n74 => I6 (.int .i64 (IntKind.wrap .i64 (n74 + 1))) h57 ∧ μ7 (.int .i64 (IntKind.wrap .i64 (n74 + 1))) h57 < μ7 i_8 h10))) ∧
(cellsH (Array.push h10 (.cells #[(.int .i64 0), (.int .i64 0), (.string ⟨#[]⟩), (.string ⟨#[]⟩), (.string ⟨#[]⟩), (.int .i64 0), (.slice none 0 0), (.slice none 0 0), (.slice none 0 0)] 65 (0, 0))) (Addr.add a20 (Int.toNat n23 * 9)) 9 C24 ∧ cellsH (Array.push h10 (.cells #[(.int .i64 0), (.int .i64 0), (.string ⟨#[]⟩), (.string ⟨#[]⟩), (.string ⟨#[]⟩), (.int .i64 0), (.slice none 0 0), (.slice none 0 0), (.slice none 0 0)] 65 (0, 0))) (Addr.add a15 (Int.toNat n18 * 9)) 9 C19 ∧ cellsH (Array.push (Array.push h10 (.cells #[(.int .i64 0), (.int .i64 0), (.string ⟨#[]⟩), (.string ⟨#[]⟩), (.string ⟨#[]⟩), (.int .i64 0), (.slice none 0 0), (.slice none 0 0), (.slice none 0 0)] 65 (0, 0))) (.cells #[(.int .i64 0), (.int .i64 0), (.string ⟨#[]⟩), (.string ⟨#[]⟩), (.string ⟨#[]⟩), (.int .i64 0), (.slice none 0 0), (.slice none 0 0), (.slice none 0 0)] 65 (0, 0))) (Addr.add a20 (Int.toNat n23 * 9)) 9 C24 ∧ cellsH (Array.push (Array.push h10 (.cells #[(.int .i64 0), (.int .i64 0), (.string ⟨#[]⟩), (.string ⟨#[]⟩), (.string ⟨#[]⟩), (.int .i64 0), (.slice none 0 0), (.slice none 0 0), (.slice none 0 0)] 65 (0, 0))) (.cells #[(.int .i64 0), (.int .i64 0), (.string ⟨#[]⟩), (.string ⟨#[]⟩), (.string ⟨#[]⟩), (.int .i64 0), (.slice none 0 0), (.slice none 0 0), (.slice none 0 0)] 65 (0, 0))) (Addr.add a15 (Int.toNat n18 * 9)) 9 C19 ∧ C19.toArray.size = 9 ∧ (∀ u ∈ C19.toArray.toList, one u) ∧ storeK (Array.push (Array.push h10 (.cells #[(.int .i64 0), (.int .i64 0), (.string ⟨#[]⟩), (.string ⟨#[]⟩), (.string ⟨#[]⟩), (.int .i64 0), (.slice none 0 0), (.slice none 0 0), (.slice none 0 0)] 65 (0, 0))) (.cells #[(.int .i64 0), (.int .i64 0), (.string ⟨#[]⟩), (.string ⟨#[]⟩), (.string ⟨#[]⟩), (.int .i64 0), (.slice none 0 0), (.slice none 0 0), (.slice none 0 0)] 65 (0, 0))) ⟨Array.size (Array.push h10 (.cells #[(.int .i64 0), (.int .i64 0), (.string ⟨#[]⟩), (.string ⟨#[]⟩), (.string ⟨#[]⟩), (.int .i64 0), (.slice none 0 0), (.slice none 0 0), (.slice none 0 0)] 65 (0, 0))), 0, none⟩ C19.toArray.toList fun h75 =>
 cellsH h75 (Addr.add a20 (Int.toNat n23 * 9)) 9 C24 ∧ C24.toArray.size = 9 ∧ (∀ u ∈ C24.toArray.toList, one u) ∧ storeK h75 ⟨Array.size h10, 0, none⟩ C24.toArray.toList fun h76 =>
 ∃ β77 : Bool,
 (∃ v79, cellH h76 (Addr.add ⟨Array.size (Array.push h10 (.cells #[(.int .i64 0), (.int .i64 0), (.string ⟨#[]⟩), (.string ⟨#[]⟩), (.string ⟨#[]⟩), (.int .i64 0), (.slice none 0 0), (.slice none 0 0), (.slice none 0 0)] 65 (0, 0))), 0, none⟩ 0) = some v79 ∧
 ∃ v80, cellH h76 (Addr.add ⟨Array.size h10, 0, none⟩ 0) = some v80 ∧
 asK .i64 v79 fun n81 => asK .i64 v80 fun n82 => cond (n81 != (n82 : Int))
 (((.bool true) : Value) = .bool β77 ∧ h76 = h76)
 (∃ v83, cellH h76 (Addr.add ⟨Array.size (Array.push h10 (.cells #[(.int .i64 0), (.int .i64 0), (.string ⟨#[]⟩), (.string ⟨#[]⟩), (.string ⟨#[]⟩), (.int .i64 0), (.slice none 0 0), (.slice none 0 0), (.slice none 0 0)] 65 (0, 0))), 0, none⟩ 2) = some v83 ∧
 ∃ v84, cellH h76 (Addr.add ⟨Array.size h10, 0, none⟩ 2) = some v84 ∧
 asS v83 fun s85 => asS v84 fun s86 => cond (!(ByteArray.toList s85 == ByteArray.toList s86))
 (((.bool true) : Value) = .bool β77 ∧ h76 = h76)
 (∃ v87, cellH h76 (Addr.add ⟨Array.size (Array.push h10 (.cells #[(.int .i64 0), (.int .i64 0), (.string ⟨#[]⟩), (.string ⟨#[]⟩), (.string ⟨#[]⟩), (.int .i64 0), (.slice none 0 0), (.slice none 0 0), (.slice none 0 0)] 65 (0, 0))), 0, none⟩ 3) = some v87 ∧
 ∃ v88, cellH h76 (Addr.add ⟨Array.size h10, 0, none⟩ 3) = some v88 ∧
 asS v87 fun s89 => asS v88 fun s90 => cond (!(ByteArray.toList s89 == ByteArray.toList s90))
 (((.bool true) : Value) = .bool β77 ∧ h76 = h76)
 (∃ v91, cellH h76 (Addr.add ⟨Array.size (Array.push h10 (.cells #[(.int .i64 0), (.int .i64 0), (.string ⟨#[]⟩), (.string ⟨#[]⟩), (.string ⟨#[]⟩), (.int .i64 0), (.slice none 0 0), (.slice none 0 0), (.slice none 0 0)] 65 (0, 0))), 0, none⟩ 4) = some v91 ∧
 ∃ v92, cellH h76 (Addr.add ⟨Array.size h10, 0, none⟩ 4) = some v92 ∧
 asS v91 fun s93 => asS v92 fun s94 => cond (!(ByteArray.toList s93 == ByteArray.toList s94))
 (((.bool true) : Value) = .bool β77 ∧ h76 = h76)
 (∃ v95, cellH h76 (Addr.add ⟨Array.size (Array.push h10 (.cells #[(.int .i64 0), (.int .i64 0), (.string ⟨#[]⟩), (.string ⟨#[]⟩), (.string ⟨#[]⟩), (.int .i64 0), (.slice none 0 0), (.slice none 0 0), (.slice none 0 0)] 65 (0, 0))), 0, none⟩ 5) = some v95 ∧
 ∃ v96, cellH h76 (Addr.add ⟨Array.size h10, 0, none⟩ 5) = some v96 ∧
 asK .i64 v95 fun n97 => asK .i64 v96 fun n98 => cond (n97 != (n98 : Int))
 (((.bool true) : Value) = .bool β77 ∧ h76 = h76)
 (asB places_p fun b99 => cond b99
 (∃ v100, cellH h76 (Addr.add ⟨Array.size (Array.push h10 (.cells #[(.int .i64 0), (.int .i64 0), (.string ⟨#[]⟩), (.string ⟨#[]⟩), (.string ⟨#[]⟩), (.int .i64 0), (.slice none 0 0), (.slice none 0 0), (.slice none 0 0)] 65 (0, 0))), 0, none⟩ 1) = some v100 ∧
 ∃ v101, cellH h76 (Addr.add ⟨Array.size h10, 0, none⟩ 1) = some v101 ∧
 asK .i64 v100 fun n102 => asK .i64 v101 fun n103 => ((.bool (n102 != (n103 : Int))) : Value) = .bool β77 ∧ h76 = h76)
 (((.bool false) : Value) = .bool β77 ∧ h76 = h76))))))) ∧
 ∀ d78 : Nat → Value,
 cond β77
 (R (.bool false) h76)
 (∃ J104 : Value → Hp → Prop,
 (∃ v108, cellH h76 (Addr.add ⟨Array.size (Array.push h10 (.cells #[(.int .i64 0), (.int .i64 0), (.string ⟨#[]⟩), (.string ⟨#[]⟩), (.string ⟨#[]⟩), (.int .i64 0), (.slice none 0 0), (.slice none 0 0), (.slice none 0 0)] 65 (0, 0))), 0, none⟩ 6) = some v108 ∧
 ∃ v109, cellH h76 (Addr.add ⟨Array.size h10, 0, none⟩ 6) = some v109 ∧
 CallX Tryd.prog ω 69 [v108, v109] h76 (fun r110 h111 =>
 asB r110 fun b112 => cond (!b112)
 (J104 (.bool true) h111)
 (∃ v113, cellH h111 (Addr.add ⟨Array.size (Array.push h10 (.cells #[(.int .i64 0), (.int .i64 0), (.string ⟨#[]⟩), (.string ⟨#[]⟩), (.string ⟨#[]⟩), (.int .i64 0), (.slice none 0 0), (.slice none 0 0), (.slice none 0 0)] 65 (0, 0))), 0, none⟩ 7) = some v113 ∧
 ∃ v114, cellH h111 (Addr.add ⟨Array.size h10, 0, none⟩ 7) = some v114 ∧
 CallX Tryd.prog ω 33 [v113, v114, places_p] h111 (fun r115 h116 =>
 asB r115 fun b117 => cond (!b117)
 (J104 (.bool true) h116)
 (∃ v118, cellH h116 (Addr.add ⟨Array.size (Array.push h10 (.cells #[(.int .i64 0), (.int .i64 0), (.string ⟨#[]⟩), (.string ⟨#[]⟩), (.string ⟨#[]⟩), (.int .i64 0), (.slice none 0 0), (.slice none 0 0), (.slice none 0 0)] 65 (0, 0))), 0, none⟩ 8) = some v118 ∧
 ∃ v119, cellH h116 (Addr.add ⟨Array.size h10, 0, none⟩ 8) = some v119 ∧
 CallX Tryd.prog ω 33 [v118, v119, places_p] h116 (fun r120 h121 =>
 asB r120 fun b122 => J104 (.bool (!b122)) h121) X)) X)) X) ∧
 ∀ t95_105 (d106 : Nat → Value) (h107 : Hp), J104 t95_105 h107 →
 asB t95_105 fun b123 => cond b123
 (R (.bool false) h107)
 (asK .i64 i_8 fun n124 => I6 (.int .i64 (IntKind.wrap .i64 (n124 + 1))) h107 ∧ μ7 (.int .i64 (IntKind.wrap .i64 (n124 + 1))) h107 < μ7 i_8 h10))))
 (R (.bool true) h10))
def A_pipewrightref_sameStmts : Ann :=
 (.two .leaf (.two (.two .leaf (.two (.two .leaf .leaf) .leaf)) (.two (.two .leaf (.one (.loop [15, 16, 17, 18, 21, 22, 23, 24, 25, 26, 27, 28, 8, 9, 29, 30, 31, 32, 33, 34, 35, 36, 37, 38, 39, 40, 41, 42, 43, 44, 45, 46, 47, 48, 49, 50, 51, 52, 53, 54, 55, 56, 57, 58, 59, 60, 61, 62, 63, 64, 65, 66, 67, 68, 69, 70, 71, 6, 72, 73, 74, 75, 76, 77, 78, 79, 80, 81, 82, 83, 84, 85, 86, 87, 88, 89, 90, 91, 92, 93, 94, 95, 19, 20, 7] [7] (.two (.two .leaf (.two .leaf .leaf)) (.two (.one (.two (.plan [0, 1, 2, 3, 4, 5, 6, 7, 8, 9, 10, 11]) (.two (.two (.jb [29, 30, 31, 32, 33, 34, 35, 36, 37, 38, 39, 40, 41, 42, 43, 44, 45, 46, 47, 48, 49, 50, 51, 52, 53, 54, 55, 56, 57, 58, 59, 60, 61, 62, 63, 64, 65, 66, 67, 68, 69, 70, 71] 71 .leaf) (.two (.two .leaf .leaf) .leaf)) (.two (.join [72, 73, 74, 75, 76, 77, 78, 79, 80, 81, 82, 83, 84, 85, 86, 87, 88, 89, 90, 91, 92, 93, 94, 95] [95] .leaf) (.two (.two .leaf .leaf) .leaf))))) .leaf))))) (.two .leaf .leaf))))
theorem C_pipewrightref_sameStmts (ω : Amb) (a_p b_p places_p : Value) (h : Hp) (R : Value → Hp → Prop) (X : List PanicEntry → Hp → Prop) (hk : W_pipewrightref_sameStmts ω a_p b_p places_p h R X) : CallX Tryd.prog ω 33 [a_p, b_p, places_p] h R X :=
 callX_of (an := A_pipewrightref_sameStmts) Tryd.func33 ((show fnX Tryd.prog ω A_pipewrightref_sameStmts Tryd.f33 [a_p, b_p, places_p] h R X = W_pipewrightref_sameStmts ω a_p b_p places_p h R X by kernel_rfl) ▸ hk)

/-- pipewright/syntax.count -/
abbrev n_syntax_count : Nat := 50
def W_syntax_count (ω : Amb) (l_p : Value) (h : Hp) (R : Value → Hp → Prop) (X : List PanicEntry → Hp → Prop) : Prop :=
 asSl l_p fun a0 l1 c2 => ∃ (I3 : Value → Value → Hp → Prop) (μ4 : Value → Value → Hp → Nat), I3 (.int .i64 0) (.int .i64 0) h ∧ ∀ n_5 t8_6 (d7 : Nat → Value) (h8 : Hp), I3 n_5 t8_6 h8 →
 asK .i64 t8_6 fun n9 => cond (decide ((n9 : Int) < (l1 : Int)))
 (asSl1 l_p fun a10 l11 c12 => asI t8_6 fun n13 => 0 ≤ (n13 : Int) ∧ n13 < (l11 : Int) ∧ ∃ C14, cellsH h8 (Addr.add a10 (Int.toNat n13 * 9)) 9 C14 ∧
 C14.toArray.size = 9 ∧ (∀ u ∈ C14.toArray.toList, one u) ∧ storeK (Array.push h8 (.cells #[(.int .i64 0), (.int .i64 0), (.string ⟨#[]⟩), (.string ⟨#[]⟩), (.string ⟨#[]⟩), (.int .i64 0), (.slice none 0 0), (.slice none 0 0), (.slice none 0 0)] 65 (0, 0))) ⟨Array.size h8, 0, none⟩ C14.toArray.toList fun h15 =>
 ∃ v16, cellH h15 (Addr.add ⟨Array.size h8, 0, none⟩ 7) = some v16 ∧
 ∃ v17, cellH h15 (Addr.add ⟨Array.size h8, 0, none⟩ 8) = some v17 ∧
 CallX Tryd.prog ω 50 [v16] h15 (fun r18 h19 =>
 cellH h19 (Addr.add ⟨Array.size h8, 0, none⟩ 8) = some v17 ∧ asK .i64 r18 fun n20 => CallX Tryd.prog ω 50 [v17] h19 (fun r21 h22 =>
 asK .i64 r21 fun n23 => asK .i64 n_5 fun n24 => asK .i64 t8_6 fun n25 => I3 (.int .i64 (IntKind.wrap .i64 (n24 + (IntKind.wrap .i64 ((IntKind.wrap .i64 (1 + n20)) + n23))))) (.int .i64 (IntKind.wrap .i64 (n25 + 1))) h22 ∧ μ4 (.int .i64 (IntKind.wrap .i64 (n24 + (IntKind.wrap .i64 ((IntKind.wrap .i64 (1 + n20)) + n23))))) (.int .i64 (IntKind.wrap .i64 (n25 + 1))) h22 < μ4 n_5 t8_6 h8) X) X)
 (R n_5 h8)
def A_syntax_count : Ann :=
 (.two .leaf (.two .leaf (.two (.two .leaf (.one (.loop [9, 10, 11, 5, 12, 13, 14, 15, 16, 17, 18, 19, 20, 21, 3, 22, 8] [3, 8] (.two .leaf (.two (.two .leaf .leaf) (.two (.one (.two .leaf (.plan [0, 1, 2, 5, 6, 3, 4, 7, 8, 9, 10]))) .leaf)))))) (.two .leaf .leaf))))
theorem C_syntax_count (ω : Amb) (l_p : Value) (h : Hp) (R : Value → Hp → Prop) (X : List PanicEntry → Hp → Prop) (hk : W_syntax_count ω l_p h R X) : CallX Tryd.prog ω 50 [l_p] h R X :=
 callX_of (an := A_syntax_count) Tryd.func50 ((show fnX Tryd.prog ω A_syntax_count Tryd.f50 [l_p] h R X = W_syntax_count ω l_p h R X by kernel_rfl) ▸ hk)

/-- pipewright/pipewrightref.countStmts -/
abbrev n_pipewrightref_countStmts : Nat := 51
def W_pipewrightref_countStmts (ω : Amb) (l_p : Value) (h : Hp) (R : Value → Hp → Prop) (X : List PanicEntry → Hp → Prop) : Prop :=
 asSl l_p fun a0 l1 c2 => ∃ (I3 : Value → Value → Hp → Prop) (μ4 : Value → Value → Hp → Nat), I3 (.int .i64 (l1 : Int)) (.int .i64 0) h ∧ ∀ n_5 i_6 (d7 : Nat → Value) (h8 : Hp), I3 n_5 i_6 h8 →
 asSl l_p fun a9 l10 c11 => asK .i64 i_6 fun n12 => cond (decide ((n12 : Int) < (l10 : Int)))
 (asSl1 l_p fun a13 l14 c15 => asI i_6 fun n16 => 0 ≤ (n16 : Int) ∧ n16 < (l14 : Int) ∧ ∃ v17, cellH h8 (Addr.add (Addr.add a13 (Int.toNat n16 * 9)) 7) = some v17 ∧
 asSl1 l_p fun a18 l19 c20 => asI i_6 fun n21 => 0 ≤ (n21 : Int) ∧ n21 < (l19 : Int) ∧ ∃ v22, cellH h8 (Addr.add (Addr.add a18 (Int.toNat n21 * 9)) 8) = some v22 ∧
 CallX Tryd.prog ω 51 [v17] h8 (fun r23 h24 =>
 cellH h24 (Addr.add (Addr.add a18 (Int.toNat n21 * 9)) 8) = some v22 ∧ CallX Tryd.prog ω 51 [v22] h24 (fun r25 h26 =>
 asK .i64 r23 fun n27 => asK .i64 r25 fun n28 => asK .i64 n_5 fun n29 => asK .i64 i_6 fun n30 => I3 (.int .i64 (IntKind.wrap .i64 (n29 + (IntKind.wrap .i64 (n27 + n28))))) (.int .i64 (IntKind.wrap .i64 (n30 + 1))) h26 ∧ μ4 (.int .i64 (IntKind.wrap .i64 (n29 + (IntKind.wrap .i64 (n27 + n28))))) (.int .i64 (IntKind.wrap .i64 (n30 + 1))) h26 < μ4 n_5 i_6 h8) X) X)
 (R n_5 h8)
def A_pipewrightref_countStmts : Ann :=
 (.two .leaf (.two .leaf (.two (.two .leaf (.one (.loop [7, 8, 9, 10, 13, 14, 15, 16, 17, 18, 19, 20, 21, 22, 23, 24, 25, 26, 27, 3, 11, 12, 4] [3, 4] (.two (.two .leaf (.two .leaf .leaf)) (.two (.one (.plan [0, 1, 2, 3, 4, 5, 7, 8, 9, 10, 11, 6, 12, 13, 14, 15])) .leaf))))) (.two .leaf .leaf))))
theorem C_pipewrightref_countStmts (ω : Amb) (l_p : Value) (h : Hp) (R : Value → Hp → Prop) (X : List PanicEntry → Hp → Prop) (hk : W_pipewrightref_countStmts ω l_p h R X) : CallX Tryd.prog ω 51 [l_p] h R X :=
 callX_of (an := A_pipewrightref_countStmts) Tryd.func51 ((show fnX Tryd.prog ω A_pipewrightref_countStmts Tryd.f51 [l_p] h R X = W_pipewrightref_countStmts ω l_p h R X by kernel_rfl) ▸ hk)

/-- pipewright/pipewrightref.small -/
abbrev n_pipewrightref_small : Nat := 52
def W_pipewrightref_small (ω : Amb) (c_p : Value) (h : Hp) (R : Value → Hp → Prop) (X : List PanicEntry → Hp → Prop) : Prop :=
 ∃ J0 : Value → Hp → Prop,
 (asK .u8 c_p fun n4 => cond (decide ((n4 : Int) ≥ 97))
 (asK .u8 c_p fun n5 => J0 (.bool (decide ((n5 : Int) ≤ 122))) h)
 (J0 (.bool false) h)) ∧
 ∀ t2_1 (d2 : Nat → Value) (h3 : Hp), J0 t2_1 h3 →
 R t2_1 h3
def A_pipewrightref_small : Ann :=
 (.two .leaf (.two (.join [3, 4, 5, 6, 7, 8, 2] [2] .leaf) .leaf))
theorem C_pipewrightref_small (ω : Amb) (c_p : Value) (h : Hp) (R : Value → Hp → Prop) (X : List PanicEntry → Hp → Prop) (hk : W_pipewrightref_small ω c_p h R X) : CallX Tryd.prog ω 52 [c_p] h R X :=
 callX_of (an := A_pipewrightref_small) Tryd.func52 ((show fnX Tryd.prog ω A_pipewrightref_small Tryd.f52 [c_p] h R X = W_pipewrightref_small ω c_p h R X by kernel_rfl) ▸ hk)

/-- pipewright/pipewrightref.long -/
abbrev n_pipewrightref_long : Nat := 53
def W_pipewrightref_long (ω : Amb) (src_p at_p : Value) (h : Hp) (R : Value → Hp → Prop) (X : List PanicEntry → Hp → Prop) : Prop :=
 ∃ (I0 : Value → Hp → Prop) (μ1 : Value → Hp → Nat), I0 at_p h ∧ ∀ at_2 (d3 : Nat → Value) (h4 : Hp), I0 at_2 h4 →
 ∃ J5 : Value → Hp → Prop,
 (asS src_p fun s9 => asK .i64 at_2 fun n10 => cond (decide ((n10 : Int) < (ByteArray.size s9 : Int)))
 (asS src_p fun s11 => asI at_2 fun n12 => 0 ≤ (n12 : Int) ∧ n12 < (ByteArray.size s11 : Int) ∧ CallX Tryd.prog ω 52 [(.int .u8 (byteAt s11 n12))] h4 (fun r13 h14 =>
 asB r13 fun b15 => cond b15
 (J5 (.bool true) h14)
 (asS src_p fun s16 => asI at_2 fun n17 => 0 ≤ (n17 : Int) ∧ n17 < (ByteArray.size s16 : Int) ∧ CallX Tryd.prog ω 55 [(.int .u8 (byteAt s16 n17))] h14 (fun r18 h19 =>
 J5 r18 h19) X)) X)
 (J5 (.bool false) h4)) ∧
 ∀ t20_6 (d7 : Nat → Value) (h8 : Hp), J5 t20_6 h8 →
 asB t20_6 fun b20 => cond b20
 (asK .i64 at_2 fun n21 => I0 (.int .i64 (IntKind.wrap .i64 (n21 + 1))) h8 ∧ μ1 (.int .i64 (IntKind.wrap .i64 (n21 + 1))) h8 < μ1 at_2 h4)
 (R at_2 h8)
def A_pipewrightref_long : Ann :=
 (.two .leaf (.two (.one (.loop [5, 6, 7, 8, 9, 10, 11, 12, 13, 14, 15, 16, 17, 18, 19, 20, 21, 22, 1] [1] (.two (.two (.join [5, 6, 7, 8, 9, 10, 11, 12, 13, 14, 15, 16, 17, 18, 19, 20] [20] .leaf) (.two .leaf .leaf)) (.one .leaf)))) (.two .leaf .leaf)))
theorem C_pipewrightref_long (ω : Amb) (src_p at_p : Value) (h : Hp) (R : Value → Hp → Prop) (X : List PanicEntry → Hp → Prop) (hk : W_pipewrightref_long ω src_p at_p h R X) : CallX Tryd.prog ω 53 [src_p, at_p] h R X :=
 callX_of (an := A_pipewrightref_long) Tryd.func53 ((show fnX Tryd.prog ω A_pipewrightref_long Tryd.f53 [src_p, at_p] h R X = W_pipewrightref_long ω src_p at_p h R X by kernel_rfl) ▸ hk)

/-- pipewright/pipewrightref.IsWord -/
abbrev n_pipewrightref_IsWord : Nat := 54
def W_pipewrightref_IsWord (ω : Amb) (s_p : Value) (h : Hp) (R : Value → Hp → Prop) (X : List PanicEntry → Hp → Prop) : Prop :=
 ∃ (I0 : Value → Hp → Prop) (μ1 : Value → Hp → Nat), I0 (.int .i64 0) (Array.push h (.cells (List.toArray [(.string ⟨#[97, 98, 97, 110, 100, 111, 110]⟩), (.string ⟨#[99, 104, 97, 110]⟩), (.string ⟨#[99, 108, 111, 110, 101]⟩), (.string ⟨#[99, 108, 111, 115, 101]⟩), (.string ⟨#[100, 114, 97, 105, 110]⟩), (.string ⟨#[101, 108, 115, 101]⟩), (.string ⟨#[101, 109, 105, 116]⟩), (.string ⟨#[102, 111, 114]⟩), (.string ⟨#[102, 114, 111, 109]⟩), (.string ⟨#[105, 102]⟩), (.string ⟨#[105, 110, 116]⟩), (.string ⟨#[108, 101, 116]⟩), (.string ⟨#[114, 101, 99, 118]⟩), (.string ⟨#[114, 101, 112, 101, 97, 116]⟩), (.string ⟨#[115, 101, 110, 100]⟩), (.string ⟨#[115, 101, 116]⟩), (.string ⟨#[115, 112, 97, 119, 110]⟩), (.string ⟨#[115, 116, 97, 103, 101]⟩), (.string ⟨#[116, 97, 107, 101]⟩)]) 9 (0, 0))) ∧ ∀ i_2 (d3 : Nat → Value) (h4 : Hp), I0 i_2 h4 →
 asK .i64 i_2 fun n5 => cond (decide ((n5 : Int) < (19 : Int)))
 (asI i_2 fun n6 => 0 ≤ (n6 : Int) ∧ n6 < (19 : Int) ∧ ∃ v7, cellH h4 (Addr.add ⟨Array.size h, 0, none⟩ (Int.toNat n6 * 1)) = some v7 ∧
 asS v7 fun s8 => asS s_p fun s9 => cond (ByteArray.toList s8 == ByteArray.toList s9)
 (R (.bool true) h4)
 (asK .i64 i_2 fun n10 => I0 (.int .i64 (IntKind.wrap .i64 (n10 + 1))) h4 ∧ μ1 (.int .i64 (IntKind.wrap .i64 (n10 + 1))) h4 < μ1 i_2 h4))
 (R (.bool false) h4)
def A_pipewrightref_IsWord : Ann :=
 (.two .leaf (.two .leaf (.two (.two .leaf (.one (.loop [6, 7, 8, 9, 12, 13, 14, 15, 16, 17, 2, 10, 11, 4] [4] (.two (.two .leaf (.two .leaf .leaf)) (.two (.one (.two .leaf (.two (.two .leaf .leaf) .leaf))) .leaf))))) (.two .leaf .leaf))))
theorem C_pipewrightref_IsWord (ω : Amb) (s_p : Value) (h : Hp) (R : Value → Hp → Prop) (X : List PanicEntry → Hp → Prop) (hk : W_pipewrightref_IsWord ω s_p h R X) : CallX Tryd.prog ω 54 [s_p] h R X :=
 callX_of (an := A_pipewrightref_IsWord) Tryd.func54 ((show fnX Tryd.prog ω A_pipewrightref_IsWord Tryd.f54 [s_p] h R X = W_pipewrightref_IsWord ω s_p h R X by kernel_rfl) ▸ hk)

/-- pipewright/pipewrightref.digit -/
abbrev n_pipewrightref_digit : Nat := 55
def W_pipewrightref_digit (ω : Amb) (c_p : Value) (h : Hp) (R : Value → Hp → Prop) (X : List PanicEntry → Hp → Prop) : Prop :=
 ∃ J0 : Value → Hp → Prop,
 (asK .u8 c_p fun n4 => cond (decide ((n4 : Int) ≥ 48))
 (asK .u8 c_p fun n5 => J0 (.bool (decide ((n5 : Int) ≤ 57))) h)
 (J0 (.bool false) h)) ∧
 ∀ t2_1 (d2 : Nat → Value) (h3 : Hp), J0 t2_1 h3 →
 R t2_1 h3
def A_pipewrightref_digit : Ann :=
 (.two .leaf (.two (.join [3, 4, 5, 6, 7, 8, 2] [2] .leaf) .leaf))
theorem C_pipewrightref_digit (ω : Amb) (c_p : Value) (h : Hp) (R : Value → Hp → Prop) (X : List PanicEntry → Hp → Prop) (hk : W_pipewrightref_digit ω c_p h R X) : CallX Tryd.prog ω 55 [c_p] h R X :=
 callX_of (an := A_pipewrightref_digit) Tryd.func55 ((show fnX Tryd.prog ω A_pipewrightref_digit Tryd.f55 [c_p] h R X = W_pipewrightref_digit ω c_p h R X by kernel_rfl) ▸ hk)

/-- pipewright/pipewrightref.sameExprs -/
abbrev n_pipewrightref_sameExprs : Nat := 69
def W_pipewrightref_sameExprs (ω : Amb) (a_p b_p : Value) (h : Hp) (R : Value → Hp → Prop) (X : List PanicEntry → Hp → Prop) : Prop :=
 asSl a_p fun a0 l1 c2 => asSl b_p fun a3 l4 c5 => cond ((l1 : Int) != ((l4 : Int) : Int))
 (R (.bool false) h)
 (∃ (I6 : Value → Hp → Prop) (μ7 : Value → Hp → Nat), I6 (.int .i64 0) h ∧ ∀ i_8 (d9 : Nat → Value) (h10 : Hp), I6 i_8 h10 →
 asSl a_p fun a11 l12 c13 => asK .i64 i_8 fun n14 => cond (decide ((n14 : Int) < (l12 : Int)))
 (∃ J15 : Value → Hp → Prop,
 (asSl1 a_p fun a19 l20 c21 => asI i_8 fun n22 => 0 ≤ (n22 : Int) ∧ n22 < (l20 : Int) ∧ ∃ v23, cellH h10 (Addr.add (Addr.add a19 (Int.toNat n22 * 4)) 0) = some v23 ∧
 asSl1 b_p fun a24 l25 c26 => asI i_8 fun n27 => 0 ≤ (n27 : Int) ∧ n27 < (l25 : Int) ∧ ∃ v28, cellH h10 (Addr.add (Addr.add a24 (Int.toNat n27 * 4)) 0) = some v28 ∧
 asK .i64 v23 fun n29 => asK .i64 v28 fun n30 => cond (n29 != (n30 : Int))
 (J15 (.bool true) h10)
 (asSl1 a_p fun a31 l32 c33 => asI i_8 fun n34 => 0 ≤ (n34 : Int) ∧ n34 < (l32 : Int) ∧ ∃ v35, cellH h10 (Addr.add (Addr.add a31 (Int.toNat n34 * 4)) 1) = some v35 ∧
 asSl1 b_p fun a36 l37 c38 => asI i_8 fun n39 => 0 ≤ (n39 : Int) ∧ n39 < (l37 : Int) ∧ ∃ v40, cellH h10 (Addr.add (Addr.add a36 (Int.toNat n39 * 4)) 1) = some v40 ∧
 asS v35 fun s41 => asS v40 fun s42 => cond (!(ByteArray.toList s41 == ByteArray.toList s42))
 (J15 (.bool true) h10)
 (asSl1 a_p fun a43 l44 c45 => asI i_8 fun n46 => 0 ≤ (n46 : Int) ∧ n46 < (l44 : Int) ∧ ∃ v47, cellH h10 (Addr.add (Addr.add a43 (Int.toNat n46 * 4)) 2) = some v47 ∧
 asSl1 b_p fun a48 l49 c50 => asI i_8 fun n51 => 0 ≤ (n51 : Int) ∧ n51 < (l49 : Int) ∧ ∃ v52, cellH h10 (Addr.add (Addr.add a48 (Int.toNat n51 * 4)) 2) = some v52 ∧
 asK .i64 v47 fun n53 => asK .i64 v52 fun n54 => cond (n53 != (n54 : Int))
 (J15 (.bool true) h10)
 (asSl1 a_p fun a55 l56 c57 => asI i_8 fun n58 => 0 ≤ (n58 : Int) ∧ n58 < (l56 : Int) ∧ ∃ v59, cellH h10 (Addr.add (Addr.add a55 (Int.toNat n58 * 4)) 3) = some v59 ∧
 asSl1 b_p fun a60 l61 c62 => asI i_8 fun n63 => 0 ≤ (n63 : Int) ∧ n63 < (l61 : Int) ∧ ∃ v64, cellH h10 (Addr.add (Addr.add a60 (Int.toNat n63 * 4)) 3) = some v64 ∧
 CallX Tryd.prog ω 69 [v59, v64] h10 (fun r65 h66 =>
 asB r65 fun b67 => J15 (.bool (!b67)) h66) X)))) ∧
 ∀ t67_16 (d17 : Nat → Value) (h18 : Hp), J15 t67_16 h18 →
 asB t67_16 fun b68 => cond b68
 (R (.bool false) h18)
 (asK .i64 i_8 fun n69 => I6 (.int .i64 (IntKind.wrap .i64 (n69 + 1))) h18 ∧ μ7 (.int .i64 (IntKind.wrap .i64 (n69 + 1))) h18 < μ7 i_8 h10))
 (R (.bool true) h10))
def A_pipewrightref_sameExprs : Ann :=
 (.two .leaf (.two (.two .leaf (.two (.two .leaf .leaf) .leaf)) (.two (.two .leaf (.one (.loop [11, 12, 13, 14, 17, 18, 19, 20, 21, 22, 23, 24, 25, 26, 27, 28, 29, 30, 31, 32, 33, 34, 35, 36, 37, 38, 39, 40, 41, 42, 43, 44, 45, 46, 47, 48, 49, 50, 51, 52, 53, 54, 55, 56, 57, 58, 59, 60, 61, 62, 63, 64, 65, 66, 67, 4, 15, 16, 5] [5] (.two (.two .leaf (.two .leaf .leaf)) (.two (.one (.two (.join [17, 18, 19, 20, 21, 22, 23, 24, 25, 26, 27, 28, 29, 30, 31, 32, 33, 34, 35, 36, 37, 38, 39, 40, 41, 42, 43, 44, 45, 46, 47, 48, 49, 50, 51, 52, 53, 54, 55, 56, 57, 58, 59, 60, 61, 62, 63, 64, 65, 66, 67] [67] (.plan [0, 1, 2, 3, 4, 5, 6, 7, 8, 9, 10, 11, 12, 13, 14, 15, 16, 17, 18, 19, 20, 21, 22, 23, 24, 25, 26, 27, 28, 29, 30, 31, 32, 33, 34, 35, 36, 37, 38, 39, 40, 41, 42, 43, 44, 45, 46, 47, 48, 49, 50])) (.two (.two .leaf .leaf) .leaf))) .leaf))))) (.two .leaf .leaf))))
theorem C_pipewrightref_sameExprs (ω : Amb) (a_p b_p : Value) (h : Hp) (R : Value → Hp → Prop) (X : List PanicEntry → Hp → Prop) (hk : W_pipewrightref_sameExprs ω a_p b_p h R X) : CallX Tryd.prog ω 69 [a_p, b_p] h R X :=
 callX_of (an := A_pipewrightref_sameExprs) Tryd.func69 ((show fnX Tryd.prog ω A_pipewrightref_sameExprs Tryd.f69 [a_p, b_p] h R X = W_pipewrightref_sameExprs ω a_p b_p h R X by kernel_rfl) ▸ hk)

/-- pipewright/token.letter -/
abbrev n_token_letter : Nat := 96
def W_token_letter (ω : Amb) (c_p : Value) (h : Hp) (R : Value → Hp → Prop) (X : List PanicEntry → Hp → Prop) : Prop :=
 ∃ J0 : Value → Hp → Prop,
 (asK .u8 c_p fun n4 => cond (decide ((n4 : Int) ≥ 97))
 (asK .u8 c_p fun n5 => J0 (.bool (decide ((n5 : Int) ≤ 122))) h)
 (J0 (.bool false) h)) ∧
 ∀ t2_1 (d2 : Nat → Value) (h3 : Hp), J0 t2_1 h3 →
 R t2_1 h3
def A_token_letter : Ann :=
 (.two .leaf (.two (.join [3, 4, 5, 6, 7, 8, 2] [2] .leaf) .leaf))
theorem C_token_letter (ω : Amb) (c_p : Value) (h : Hp) (R : Value → Hp → Prop) (X : List PanicEntry → Hp → Prop) (hk : W_token_letter ω c_p h R X) : CallX Tryd.prog ω 96 [c_p] h R X :=
 callX_of (an := A_token_letter) Tryd.func96 ((show fnX Tryd.prog ω A_token_letter Tryd.f96 [c_p] h R X = W_token_letter ω c_p h R X by kernel_rfl) ▸ hk)

/-- pipewright/token.Word -/
abbrev n_token_Word : Nat := 98
def W_token_Word (ω : Amb) (s_p : Value) (h : Hp) (R : Value → Hp → Prop) (X : List PanicEntry → Hp → Prop) : Prop :=
 asS s_p fun s0 => ∃ J1 : Value → Hp → Prop,
 (cond (ByteArray.toList s0 == ByteArray.toList ⟨#[97, 98, 97, 110, 100, 111, 110]⟩)
 (J1 (.bool (ByteArray.toList s0 == ByteArray.toList ⟨#[97, 98, 97, 110, 100, 111, 110]⟩)) h)
 (asS s_p fun s5 => ∃ J6 : Value → Hp → Prop,
 (cond (ByteArray.toList s5 == ByteArray.toList ⟨#[99, 104, 97, 110]⟩)
 (J6 (.bool (ByteArray.toList s5 == ByteArray.toList ⟨#[99, 104, 97, 110]⟩)) h)
 (asS s_p fun s10 => ∃ J11 : Value → Hp → Prop,
 (cond (ByteArray.toList s10 == ByteArray.toList ⟨#[99, 108, 111, 110, 101]⟩)
 (J11 (.bool (ByteArray.toList s10 == ByteArray.toList ⟨#[99, 108, 111, 110, 101]⟩)) h)
 (asS s_p fun s15 => ∃ J16 : Value → Hp → Prop,
 (cond (ByteArray.toList s15 == ByteArray.toList ⟨#[99, 108, 111, 115, 101]⟩)
 (J16 (.bool (ByteArray.toList s15 == ByteArray.toList ⟨#[99, 108, 111, 115, 101]⟩)) h)
 (asS s_p fun s20 => ∃ J21 : Value → Hp → Prop,
 (cond (ByteArray.toList s20 == ByteArray.toList ⟨#[100, 114, 97, 105, 110]⟩)
 (J21 (.bool (ByteArray.toList s20 == ByteArray.toList ⟨#[100, 114, 97, 105, 110]⟩)) h)
 (asS s_p fun s25 => ∃ J26 : Value → Hp → Prop,
 (cond (ByteArray.toList s25 == ByteArray.toList ⟨#[101, 108, 115, 101]⟩)
 (J26 (.bool (ByteArray.toList s25 == ByteArray.toList ⟨#[101, 108, 115, 101]⟩)) h)
 (asS s_p fun s30 => ∃ J31 : Value → Hp → Prop,
 (cond (ByteArray.toList s30 == ByteArray.toList ⟨#[101, 109, 105, 116]⟩)
 (J31 (.bool (ByteArray.toList s30 == ByteArray.toList ⟨#[101, 109, 105, 116]⟩)) h)
 (asS s_p fun s35 => ∃ J36 : Value → Hp → Prop,
 (cond (ByteArray.toList s35 == ByteArray.toList ⟨#[102, 111, 114]⟩)
 (J36 (.bool (ByteArray.toList s35 == ByteArray.toList ⟨#[102, 111, 114]⟩)) h)
 (asS s_p fun s40 => ∃ J41 : Value → Hp → Prop,
 (cond (ByteArray.toList s40 == ByteArray.toList ⟨#[102, 114, 111, 109]⟩)
 (J41 (.bool (ByteArray.toList s40 == ByteArray.toList ⟨#[102, 114, 111, 109]⟩)) h)
 (asS s_p fun s45 => ∃ J46 : Value → Hp → Prop,
 (cond (ByteArray.toList s45 == ByteArray.toList ⟨#[105, 102]⟩)
 (J46 (.bool (ByteArray.toList s45 == ByteArray.toList ⟨#[105, 102]⟩)) h)
 (asS s_p fun s50 => ∃ J51 : Value → Hp → Prop,
 (cond (ByteArray.toList s50 == ByteArray.toList ⟨#[105, 110, 116]⟩)
 (J51 (.bool (ByteArray.toList s50 == ByteArray.toList ⟨#[105, 110, 116]⟩)) h)
 (asS s_p fun s55 => ∃ J56 : Value → Hp → Prop,
 (cond (ByteArray.toList s55 == ByteArray.toList ⟨#[108, 101, 116]⟩)
 (J56 (.bool (ByteArray.toList s55 == ByteArray.toList ⟨#[108, 101, 116]⟩)) h)
 (asS s_p fun s60 => ∃ J61 : Value → Hp → Prop,
 (cond (ByteArray.toList s60 == ByteArray.toList ⟨#[114, 101, 99, 118]⟩)
 (J61 (.bool (ByteArray.toList s60 == ByteArray.toList ⟨#[114, 101, 99, 118]⟩)) h)
 (asS s_p fun s65 => ∃ J66 : Value → Hp → Prop,
 (cond (ByteArray.toList s65 == ByteArray.toList ⟨#[114, 101, 112, 101, 97, 116]⟩)
 (J66 (.bool (ByteArray.toList s65 == ByteArray.toList ⟨#[114, 101, 112, 101, 97, 116]⟩)) h)
 (asS s_p fun s70 => ∃ J71 : Value → Hp → Prop,
 (cond (ByteArray.toList s70 == ByteArray.toList ⟨#[115, 101, 110, 100]⟩)
 (J71 (.bool (ByteArray.toList s70 == ByteArray.toList ⟨#[115, 101, 110, 100]⟩)) h)
 (asS s_p fun s75 => ∃ J76 : Value → Hp → Prop,
 (cond (ByteArray.toList s75 == ByteArray.toList ⟨#[115, 101, 116]⟩)
 (J76 (.bool (ByteArray.toList s75 == ByteArray.toList ⟨#[115, 101, 116]⟩)) h)
 (asS s_p fun s80 => ∃ J81 : Value → Hp → Prop,
 (cond (ByteArray.toList s80 == ByteArray.toList ⟨#[115, 112, 97, 119, 110]⟩)
 (J81 (.bool (ByteArray.toList s80 == ByteArray.toList ⟨#[115, 112, 97, 119, 110]⟩)) h)
 (asS s_p fun s85 => ∃ J86 : Value → Hp → Prop,
 (cond (ByteArray.toList s85 == ByteArray.toList ⟨#[115, 116, 97, 103, 101]⟩)
 (J86 (.bool (ByteArray.toList s85 == ByteArray.toList ⟨#[115, 116, 97, 103, 101]⟩)) h)
 (asS s_p fun s90 => J86 (.bool (ByteArray.toList s90 == ByteArray.toList ⟨#[116, 97, 107, 101]⟩)) h)) ∧
 ∀ t4_87 (d88 : Nat → Value) (h89 : Hp), J86 t4_87 h89 →
 J81 t4_87 h89)) ∧
 ∀ t4_82 (d83 : Nat → Value) (h84 : Hp), J81 t4_82 h84 →
 J76 t4_82 h84)) ∧
 ∀ t4_77 (d78 : Nat → Value) (h79 : Hp), J76 t4_77 h79 →
 J71 t4_77 h79)) ∧
 ∀ t4_72 (d73 : Nat → Value) (h74 : Hp), J71 t4_72 h74 →
 J66 t4_72 h74)) ∧
 ∀ t4_67 (d68 : Nat → Value) (h69 : Hp), J66 t4_67 h69 →
 J61 t4_67 h69)) ∧
 ∀ t4_62 (d63 : Nat → Value) (h64 : Hp), J61 t4_62 h64 →
 J56 t4_62 h64)) ∧
 ∀ t4_57 (d58 : Nat → Value) (h59 : Hp), J56 t4_57 h59 →
 J51 t4_57 h59)) ∧
 ∀ t4_52 (d53 : Nat → Value) (h54 : Hp), J51 t4_52 h54 →
 J46 t4_52 h54)) ∧
 ∀ t4_47 (d48 : Nat → Value) (h49 : Hp), J46 t4_47 h49 →
 J41 t4_47 h49)) ∧
 ∀ t4_42 (d43 : Nat → Value) (h44 : Hp), J41 t4_42 h44 →
 J36 t4_42 h44)) ∧
 ∀ t4_37 (d38 : Nat → Value) (h39 : Hp), J36 t4_37 h39 →
 J31 t4_37 h39)) ∧
 ∀ t4_32 (d33 : Nat → Value) (h34 : Hp), J31 t4_32 h34 →
 J26 t4_32 h34)) ∧
 ∀ t4_27 (d28 : Nat → Value) (h29 : Hp), J26 t4_27 h29 →
 J21 t4_27 h29)) ∧
 ∀ t4_22 (d23 : Nat → Value) (h24 : Hp), J21 t4_22 h24 →
 J16 t4_22 h24)) ∧
 ∀ t4_17 (d18 : Nat → Value) (h19 : Hp), J16 t4_17 h19 →
 J11 t4_17 h19)) ∧
 ∀ t4_12 (d13 : Nat → Value) (h14 : Hp), J11 t4_12 h14 →
 J6 t4_12 h14)) ∧
 ∀ t4_7 (d8 : Nat → Value) (h9 : Hp), J6 t4_7 h9 →
 J1 t4_7 h9)) ∧
 ∀ t4_2 (d3 : Nat → Value) (h4 : Hp), J1 t4_2 h4 →
 asB t4_2 fun b91 => cond b91
 (R (.bool true) h4)
 (R (.bool false) h4)
def A_token_Word : Ann :=
 (.two .leaf (.two (.two .leaf (.one (.two (.two .leaf (.join [6, 4, 7, 8, 9, 10, 11, 12, 13, 14, 15, 16, 17, 18, 19, 20, 21, 22, 23] [4] (.two .leaf (.two .leaf (.join [7, 4, 8, 9, 10, 11, 12, 13, 14, 15, 16, 17, 18, 19, 20, 21, 22, 23] [4] (.two .leaf (.two .leaf (.join [8, 4, 9, 10, 11, 12, 13, 14, 15, 16, 17, 18, 19, 20, 21, 22, 23] [4] (.two .leaf (.two .leaf (.join [9, 4, 10, 11, 12, 13, 14, 15, 16, 17, 18, 19, 20, 21, 22, 23] [4] (.two .leaf (.two .leaf (.join [10, 4, 11, 12, 13, 14, 15, 16, 17, 18, 19, 20, 21, 22, 23] [4] (.two .leaf (.two .leaf (.join [11, 4, 12, 13, 14, 15, 16, 17, 18, 19, 20, 21, 22, 23] [4] (.two .leaf (.two .leaf (.join [12, 4, 13, 14, 15, 16, 17, 18, 19, 20, 21, 22, 23] [4] (.two .leaf (.two .leaf (.join [13, 4, 14, 15, 16, 17, 18, 19, 20, 21, 22, 23] [4] (.two .leaf (.two .leaf (.join [14, 4, 15, 16, 17, 18, 19, 20, 21, 22, 23] [4] (.two .leaf (.two .leaf (.join [15, 4, 16, 17, 18, 19, 20, 21, 22, 23] [4] (.two .leaf (.two .leaf (.join [16, 4, 17, 18, 19, 20, 21, 22, 23] [4] (.two .leaf (.two .leaf (.join [17, 4, 18, 19, 20, 21, 22, 23] [4] (.two .leaf (.two .leaf (.join [18, 4, 19, 20, 21, 22, 23] [4] (.two .leaf (.two .leaf (.join [19, 4, 20, 21, 22, 23] [4] (.two .leaf (.two .leaf (.join [20, 4, 21, 22, 23] [4] (.two .leaf (.two .leaf (.join [21, 4, 22, 23] [4] (.two .leaf (.two .leaf (.join [22, 4, 23] [4] (.two .leaf (.two .leaf (.join [23, 4] [4] (.two .leaf .leaf)))))))))))))))))))))))))))))))))))))))))))))))))))))) (.two (.two .leaf .leaf) .leaf)))) (.two .leaf .leaf)))
theorem C_token_Word (ω : Amb) (s_p : Value) (h : Hp) (R : Value → Hp → Prop) (X : List PanicEntry → Hp → Prop) (hk : W_token_Word ω s_p h R X) : CallX Tryd.prog ω 98 [s_p] h R X :=
 callX_of (an := A_token_Word) Tryd.func98 ((show fnX Tryd.prog ω A_token_Word Tryd.f98 [s_p] h R X = W_token_Word ω s_p h R X by kernel_rfl) ▸ hk)

/-- pipewright/token.digit -/
abbrev n_token_digit : Nat := 99
def W_token_digit (ω : Amb) (c_p : Value) (h : Hp) (R : Value → Hp → Prop) (X : List PanicEntry → Hp → Prop) : Prop :=
 ∃ J0 : Value → Hp → Prop,
 (asK .u8 c_p fun n4 => cond (decide ((n4 : Int) ≥ 48))
 (asK .u8 c_p fun n5 => J0 (.bool (decide ((n5 : Int) ≤ 57))) h)
 (J0 (.bool false) h)) ∧
 ∀ t2_1 (d2 : Nat → Value) (h3 : Hp), J0 t2_1 h3 →
 R t2_1 h3
def A_token_digit : Ann :=
 (.two .leaf (.two (.join [3, 4, 5, 6, 7, 8, 2] [2] .leaf) .leaf))
theorem C_token_digit (ω : Amb) (c_p : Value) (h : Hp) (R : Value → Hp → Prop) (X : List PanicEntry → Hp → Prop) (hk : W_token_digit ω c_p h R X) : CallX Tryd.prog ω 99 [c_p] h R X :=
 callX_of (an := A_token_digit) Tryd.func99 ((show fnX Tryd.prog ω A_token_digit Tryd.f99 [c_p] h R X = W_token_digit ω c_p h R X by kernel_rfl) ▸ hk)

end Go.Proofs.YtaehnpilebkcoaaDoor.Sx
