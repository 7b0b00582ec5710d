/- Formulas of the functions' texts, written by a program of ours; each is checked by the kernel. -/
import Derived.Test.YtihibbejjmldjaaSxCore
import Derived.KernelRfl
import Derived.Test.YtihibbejjmldjaaProg
set_option linter.unusedVariables false
set_option maxRecDepth 100000
namespace Go.Proofs.Ytihibbejjmldjaa.Sx
open Go Go.Sx Go.Proofs

/-- pipewright/pipewrightlaw.PathsFinds -/
abbrev n_pipewrightlaw_PathsFinds : Nat := 3
def W_pipewrightlaw_PathsFinds (ω : Amb) (p_p from_p to_p : Value) (h : Hp) (R : Value → Hp → Prop) (X : List PanicEntry → Hp → Prop) : Prop :=
 CallX Try.prog ω 6 [] (Array.push h (.cells (Value.cells p_p) 26 (0, 0))) (fun r0 h1 =>
 asB r0 fun b2 => cond (!b2)
 (R (.bool false) h1)
 (∃ C3, cellsH h1 ⟨Array.size h, 0, none⟩ 5 C3 ∧
 CallX Try.prog ω 7 [(.agg C3.toArray), (.int .i64 300)] h1 (fun r4 h5 =>
 asB r4 fun b6 => cond b6
 (R (.bool true) h5)
 (∃ C7, cellsH h5 ⟨Array.size h, 0, none⟩ 5 C7 ∧
 ∃ C8, cellsH h5 ⟨Array.size h, 0, none⟩ 5 C8 ∧
 CallX Try.prog ω 9 [(.agg C7.toArray), from_p, to_p] h5 (fun r9 h10 =>
 cellsH h10 ⟨Array.size h, 0, none⟩ 5 C8 ∧ CallX Try.prog ω 10 [(.agg C8.toArray), from_p, to_p] h10 (fun r11 h12 =>
 CallX Try.prog ω 8 [r9, r11] h12 (fun r13 h14 =>
 R r13 h14) X) X) X)) X)) X
def A_pipewrightlaw_PathsFinds : Ann :=
 (.two .leaf (.two (.two .leaf (.two (.two .leaf .leaf) .leaf)) (.two (.two .leaf (.two (.two .leaf .leaf) .leaf)) (.two (.plan [0, 1, 2, 4, 5, 6, 3, 7, 8, 9]) .leaf))))
theorem C_pipewrightlaw_PathsFinds (ω : Amb) (p_p from_p to_p : Value) (h : Hp) (R : Value → Hp → Prop) (X : List PanicEntry → Hp → Prop) (hk : W_pipewrightlaw_PathsFinds ω p_p from_p to_p h R X) : CallX Try.prog ω 3 [p_p, from_p, to_p] h R X :=
 callX_of (an := A_pipewrightlaw_PathsFinds) Try.func3 ((show fnX Try.prog ω A_pipewrightlaw_PathsFinds Try.f3 [p_p, from_p, to_p] h R X = W_pipewrightlaw_PathsFinds ω p_p from_p to_p h R X by kernel_rfl) ▸ hk)

/-- pipewright/pipewrightlaw.PathsNexts -/
abbrev n_pipewrightlaw_PathsNexts : Nat := 4
def W_pipewrightlaw_PathsNexts (ω : Amb) (p_p i_p way_p : Value) (h : Hp) (R : Value → Hp → Prop) (X : List PanicEntry → Hp → Prop) : Prop :=
 CallX Try.prog ω 6 [] (Array.push h (.cells (Value.cells p_p) 26 (0, 0))) (fun r0 h1 =>
 asB r0 fun b2 => cond (!b2)
 (R (.bool false) h1)
 (∃ J3 : Value → Hp → Prop,
 (∃ C7, cellsH h1 ⟨Array.size h, 0, none⟩ 5 C7 ∧
 CallX Try.prog ω 7 [(.agg C7.toArray), (.int .i64 300)] h1 (fun r8 h9 =>
 asB r8 fun b10 => cond b10
 (J3 (.bool true) h9)
 (asSl way_p fun a11 l12 c13 => J3 (.bool (decide (((l12 : Int) : Int) > 1000))) h9)) X) ∧
 ∀ t15_4 (d5 : Nat → Value) (h6 : Hp), J3 t15_4 h6 →
 asB t15_4 fun b14 => cond b14
 (R (.bool true) h6)
 (∃ J15 : Value → Hp → Prop,
 (∃ C19, cellsH h6 ⟨Array.size h, 0, none⟩ 5 C19 ∧
 ∃ C20, cellsH h6 ⟨Array.size h, 0, none⟩ 5 C20 ∧
 CallX Try.prog ω 11 [(.agg C19.toArray), i_p] h6 (fun r21 h22 =>
 cellsH h22 ⟨Array.size h, 0, none⟩ 5 C20 ∧ CallX Try.prog ω 12 [(.agg C20.toArray), i_p] h22 (fun r23 h24 =>
 CallX Try.prog ω 8 [r21, r23] h24 (fun r25 h26 =>
 asB r25 fun b27 => cond b27
 (∃ C28, cellsH h26 ⟨Array.size h, 0, none⟩ 5 C28 ∧
 ∃ C29, cellsH h26 ⟨Array.size h, 0, none⟩ 5 C29 ∧
 CallX Try.prog ω 13 [(.agg C28.toArray)] h26 (fun r30 h31 =>
 cellsH h31 ⟨Array.size h, 0, none⟩ 5 C29 ∧ CallX Try.prog ω 14 [(.agg C29.toArray)] h31 (fun r32 h33 =>
 CallX Try.prog ω 8 [r30, r32] h33 (fun r34 h35 =>
 asB r34 fun b36 => cond b36
 (∃ C37, cellsH h35 ⟨Array.size h, 0, none⟩ 5 C37 ∧
 ∃ C38, cellsH h35 ⟨Array.size h, 0, none⟩ 5 C38 ∧
 CallX Try.prog ω 15 [(.agg C37.toArray), way_p] h35 (fun r39 h40 =>
 cellsH h40 ⟨Array.size h, 0, none⟩ 5 C38 ∧ CallX Try.prog ω 16 [(.agg C38.toArray), way_p] h40 (fun r41 h42 =>
 asB r39 fun b43 => asB r41 fun b44 => J15 (.bool (b43 == b44)) h42) X) X)
 (J15 (.bool false) h35)) X) X) X)
 (J15 (.bool false) h26)) X) X) X) ∧
 ∀ t6_16 (d17 : Nat → Value) (h18 : Hp), J15 t6_16 h18 →
 R t6_16 h18))) X
def A_pipewrightlaw_PathsNexts : Ann :=
 (.two .leaf (.two (.two .leaf (.two (.two .leaf .leaf) .leaf)) (.two (.two (.join [9, 10, 11, 12, 13, 14, 15] [15] .leaf) (.two (.two .leaf .leaf) .leaf)) (.two (.join [16, 17, 18, 19, 20, 21, 22, 23, 24, 25, 26, 27, 28, 29, 30, 31, 32, 33, 34, 35, 36, 37, 38, 6] [6] (.plan [0, 1, 3, 4, 2, 5, 6, 7, 8, 10, 9, 11, 12, 13, 14, 15, 16, 18, 19, 17, 20, 21, 22, 23])) .leaf))))
theorem C_pipewrightlaw_PathsNexts (ω : Amb) (p_p i_p way_p : Value) (h : Hp) (R : Value → Hp → Prop) (X : List PanicEntry → Hp → Prop) (hk : W_pipewrightlaw_PathsNexts ω p_p i_p way_p h R X) : CallX Try.prog ω 4 [p_p, i_p, way_p] h R X :=
 callX_of (an := A_pipewrightlaw_PathsNexts) Try.func4 ((show fnX Try.prog ω A_pipewrightlaw_PathsNexts Try.f4 [p_p, i_p, way_p] h R X = W_pipewrightlaw_PathsNexts ω p_p i_p way_p h R X by kernel_rfl) ▸ hk)

/-- pipewright/pipewrightlaw.PathsShort -/
abbrev n_pipewrightlaw_PathsShort : Nat := 5
def W_pipewrightlaw_PathsShort (ω : Amb) (p_p picks_p : Value) (h : Hp) (R : Value → Hp → Prop) (X : List PanicEntry → Hp → Prop) : Prop :=
 CallX Try.prog ω 6 [] (Array.push h (.cells (Value.cells p_p) 26 (0, 0))) (fun r0 h1 =>
 asB r0 fun b2 => cond (!b2)
 (R (.bool false) h1)
 (∃ J3 : Value → Hp → Prop,
 (∃ C7, cellsH h1 ⟨Array.size h, 0, none⟩ 5 C7 ∧
 CallX Try.prog ω 7 [(.agg C7.toArray), (.int .i64 300)] h1 (fun r8 h9 =>
 asB r8 fun b10 => cond b10
 (J3 (.bool true) h9)
 (asSl picks_p fun a11 l12 c13 => cond (decide (((l12 : Int) : Int) > 300))
 (J3 (.bool true) h9)
 (∃ v14, cellH h9 (Addr.add ⟨Array.size h, 0, none⟩ 4) = some v14 ∧
 asSl v14 fun a15 l16 c17 => J3 (.bool ((l16 : Int) == (0 : Int))) h9))) X) ∧
 ∀ t28_4 (d5 : Nat → Value) (h6 : Hp), J3 t28_4 h6 →
 asB t28_4 fun b18 => cond b18
 (R (.bool true) h6)
 (∃ J19 : Hp → Prop,
 (∃ (I22 : Value → Value → Value → Hp → Prop) (μ23 : Value → Value → Value → Hp → Nat), I22 (.int .i64 0) (.slice (some ⟨Array.size h6, 0, none⟩) 1 1) (.int .i64 0) (Array.push h6 (.cells (List.toArray [(.int .i64 0)]) 3 (0, 0))) ∧ ∀ at_24 walk_25 i_26 (d27 : Nat → Value) (h28 : Hp), I22 at_24 walk_25 i_26 h28 →
 asSl picks_p fun a29 l30 c31 => asK .i64 i_26 fun n32 => cond (decide ((n32 : Int) < (l30 : Int)))
 (∃ C33, cellsH h28 ⟨Array.size h, 0, none⟩ 5 C33 ∧
 CallX Try.prog ω 11 [(.agg C33.toArray), at_24] h28 (fun r34 h35 =>
 asSl r34 fun a36 l37 c38 => cond ((l37 : Int) == (0 : Int))
 (J19 h35)
 (asSl1 picks_p fun a39 l40 c41 => asI i_26 fun n42 => 0 ≤ (n42 : Int) ∧ n42 < (l40 : Int) ∧ ∃ v43, cellH h35 (Addr.add a39 (Int.toNat n42 * 1)) = some v43 ∧
 asI v43 fun n44 => asSl r34 fun a45 l46 c47 => ((IntKind.wrap .u64 (l46 : Int)) : Int) ≠ 0 ∧ asSl1 r34 fun a48 l49 c50 => 0 ≤ ((IntKind.wrap .i64 (Int.tmod (IntKind.wrap .u64 n44) (IntKind.wrap .u64 (l46 : Int)))) : Int) ∧ (IntKind.wrap .i64 (Int.tmod (IntKind.wrap .u64 n44) (IntKind.wrap .u64 (l46 : Int)))) < (l49 : Int) ∧ ∃ v51, cellH h35 (Addr.add a48 (Int.toNat (IntKind.wrap .i64 (Int.tmod (IntKind.wrap .u64 n44) (IntKind.wrap .u64 (l46 : Int)))) * 1)) = some v51 ∧
 oneK v51 (appK Try.prog 30 (Array.push h35 (.cells (List.toArray [v51]) 3 (0, 0))) walk_25 (.slice (some ⟨Array.size h35, 0, none⟩) 1 1) fun w52 h53 =>
 ∃ C54, cellsH h53 ⟨Array.size h, 0, none⟩ 5 C54 ∧
 CallX Try.prog ω 9 [(.agg C54.toArray), (.int .i64 0), v51] h53 (fun r55 h56 =>
 ∃ J57 : Value → Hp → Prop,
 (∃ C61, cellsH h56 ⟨Array.size h, 0, none⟩ 5 C61 ∧
 CallX Try.prog ω 15 [(.agg C61.toArray), r55] h56 (fun r62 h63 =>
 asB r62 fun b64 => cond (!b64)
 (J57 (.bool true) h63)
 (∃ C65, cellsH h63 ⟨Array.size h, 0, none⟩ 5 C65 ∧
 CallX Try.prog ω 15 [(.agg C65.toArray), w52] h63 (fun r66 h67 =>
 asB r66 fun b68 => cond (!b68)
 (J57 (.bool true) h67)
 (asSl r55 fun a69 l70 c71 => asSl w52 fun a72 l73 c74 => cond (decide (((l70 : Int) : Int) > (l73 : Int)))
 (J57 (.bool true) h67)
 (asSl1 r55 fun a75 l76 c77 => 0 ≤ (0 : Int) ∧ 0 < (l76 : Int) ∧ ∃ v78, cellH h67 (Addr.add a75 (Int.toNat 0 * 1)) = some v78 ∧
 asK .i64 v78 fun n79 => cond (n79 != (0 : Int))
 (J57 (.bool true) h67)
 (asSl r55 fun a80 l81 c82 => asSl1 r55 fun a83 l84 c85 => 0 ≤ ((IntKind.wrap .i64 ((l81 : Int) - 1)) : Int) ∧ (IntKind.wrap .i64 ((l81 : Int) - 1)) < (l84 : Int) ∧ ∃ v86, cellH h67 (Addr.add a83 (Int.toNat (IntKind.wrap .i64 ((l81 : Int) - 1)) * 1)) = some v86 ∧
 asK .i64 v86 fun n87 => asK .i64 v51 fun n88 => J57 (.bool (n87 != (n88 : Int))) h67)))) X)) X) ∧
 ∀ t94_58 (d59 : Nat → Value) (h60 : Hp), J57 t94_58 h60 →
 asB t94_58 fun b89 => cond b89
 (R (.bool false) h60)
 (∃ J90 : Value → Hp → Prop,
 (asSl r55 fun a94 l95 c96 => asSl w52 fun a97 l98 c99 => cond ((l95 : Int) == ((l98 : Int) : Int))
 (CallX Try.prog ω 17 [r55, w52] h60 (fun r100 h101 =>
 J90 r100 h101) X)
 (J90 (.bool false) h60)) ∧
 ∀ t104_91 (d92 : Nat → Value) (h93 : Hp), J90 t104_91 h93 →
 asB t104_91 fun b102 => cond b102
 (R (.bool false) h93)
 (asK .i64 i_26 fun n103 => I22 v51 w52 (.int .i64 (IntKind.wrap .i64 (n103 + 1))) h93 ∧ μ23 v51 w52 (.int .i64 (IntKind.wrap .i64 (n103 + 1))) h93 < μ23 at_24 walk_25 i_26 h28))) X))) X)
 (J19 h28)) ∧
 ∀  (d20 : Nat → Value) (h21 : Hp), J19 h21 →
 ∃ C104, cellsH h21 ⟨Array.size h, 0, none⟩ 5 C104 ∧
 CallX Try.prog ω 13 [(.agg C104.toArray)] h21 (fun r105 h106 =>
 ∃ (I107 : Value → Value → Hp → Prop) (μ108 : Value → Value → Hp → Nat), I107 (.int .i64 0) (.int .i64 0) h106 ∧ ∀ k_109 i_110 (d111 : Nat → Value) (h112 : Hp), I107 k_109 i_110 h112 →
 ∃ v113, cellH h112 (Addr.add ⟨Array.size h, 0, none⟩ 4) = some v113 ∧
 asSl v113 fun a114 l115 c116 => asK .i64 i_110 fun n117 => cond (decide ((n117 : Int) < (l115 : Int)))
 (∃ J118 : Value → Hp → Prop,
 (asSl r105 fun a122 l123 c124 => asK .i64 k_109 fun n125 => cond (decide ((n125 : Int) < (l123 : Int)))
 (asSl1 r105 fun a126 l127 c128 => asI k_109 fun n129 => 0 ≤ (n129 : Int) ∧ n129 < (l127 : Int) ∧ ∃ v130, cellH h112 (Addr.add a126 (Int.toNat n129 * 1)) = some v130 ∧
 asK .i64 v130 fun n131 => asK .i64 i_110 fun n132 => J118 (.bool (n131 == (n132 : Int))) h112)
 (J118 (.bool false) h112)) ∧
 ∀ is_119 (d120 : Nat → Value) (h121 : Hp), J118 is_119 h121 →
 ∃ J133 : Value → Hp → Prop,
 (asB is_119 fun b137 => cond b137
 (asK .i64 k_109 fun n138 => J133 (.int .i64 (IntKind.wrap .i64 (n138 + 1))) h121)
 (J133 k_109 h121)) ∧
 ∀ k_134 (d135 : Nat → Value) (h136 : Hp), J133 k_134 h136 →
 ∃ C139, cellsH h136 ⟨Array.size h, 0, none⟩ 5 C139 ∧
 CallX Try.prog ω 9 [(.agg C139.toArray), (.int .i64 0), i_110] h136 (fun r140 h141 =>
 asSl r140 fun a142 l143 c144 => asB is_119 fun b145 => cond (!((decide (((l143 : Int) : Int) > 0)) == b145))
 (R (.bool false) h141)
 (asK .i64 i_110 fun n146 => I107 k_134 (.int .i64 (IntKind.wrap .i64 (n146 + 1))) h141 ∧ μ108 k_134 (.int .i64 (IntKind.wrap .i64 (n146 + 1))) h141 < μ108 k_109 i_110 h112)) X)
 (R (.bool true) h112)) X))) X
def A_pipewrightlaw_PathsShort : Ann :=
 (.two .leaf (.two (.two .leaf (.two (.two .leaf .leaf) .leaf)) (.two (.two (.join [16, 17, 18, 19, 20, 21, 22, 23, 24, 25, 26, 27, 28] [28] .leaf) (.two (.two .leaf .leaf) .leaf)) (.two .leaf (.two .leaf (.two (.two .leaf (.join [30, 31, 32, 33, 36, 37, 38, 8, 39, 40, 41, 42, 43, 44, 45, 46, 47, 48, 49, 50, 51, 52, 53, 54, 5, 55, 56, 57, 58, 6, 59, 60, 61, 9, 62, 63, 64, 65, 66, 67, 68, 69, 70, 71, 72, 73, 74, 75, 76, 77, 78, 79, 80, 81, 82, 83, 84, 85, 86, 87, 88, 89, 90, 91, 92, 93, 94, 4, 95, 96, 97, 98, 99, 100, 101, 102, 103, 104, 34, 35, 7] [] (.one (.loop [30, 31, 32, 33, 36, 37, 38, 8, 39, 40, 41, 42, 43, 44, 45, 46, 47, 48, 49, 50, 51, 52, 53, 54, 5, 55, 56, 57, 58, 6, 59, 60, 61, 9, 62, 63, 64, 65, 66, 67, 68, 69, 70, 71, 72, 73, 74, 75, 76, 77, 78, 79, 80, 81, 82, 83, 84, 85, 86, 87, 88, 89, 90, 91, 92, 93, 94, 4, 95, 96, 97, 98, 99, 100, 101, 102, 103, 104, 34, 35, 7] [5, 6, 7] (.two (.two .leaf (.two .leaf .leaf)) (.two (.one (.two .leaf (.two (.two .leaf (.two .leaf .leaf)) (.two .leaf (.two .leaf (.two .leaf (.two (.two (.join [62, 63, 64, 65, 66, 67, 68, 69, 70, 71, 72, 73, 74, 75, 76, 77, 78, 79, 80, 81, 82, 83, 84, 85, 86, 87, 88, 89, 90, 91, 92, 93, 94] [94] .leaf) (.two (.two .leaf .leaf) .leaf)) (.two (.join [95, 96, 97, 98, 99, 100, 101, 102, 103, 104] [104] .leaf) (.two (.two .leaf .leaf) .leaf))))))))) .leaf)))))) (.two .leaf (.two (.two .leaf (.one (.loop [107, 108, 109, 110, 111, 114, 115, 116, 117, 118, 119, 120, 121, 122, 123, 124, 125, 13, 126, 127, 128, 12, 129, 130, 131, 132, 133, 134, 135, 4, 112, 113, 11] [12, 11] (.two (.two .leaf (.two .leaf .leaf)) (.two (.one (.two (.join [114, 115, 116, 117, 118, 119, 120, 121, 122, 123, 124, 125, 13] [13] .leaf) (.two (.two .leaf (.join [127, 128, 12] [12] (.two .leaf .leaf))) (.two .leaf (.two (.two .leaf .leaf) .leaf))))) .leaf))))) (.two .leaf .leaf)))))))))
theorem C_pipewrightlaw_PathsShort (ω : Amb) (p_p picks_p : Value) (h : Hp) (R : Value → Hp → Prop) (X : List PanicEntry → Hp → Prop) (hk : W_pipewrightlaw_PathsShort ω p_p picks_p h R X) : CallX Try.prog ω 5 [p_p, picks_p] h R X :=
 callX_of (an := A_pipewrightlaw_PathsShort) Try.func5 ((show fnX Try.prog ω A_pipewrightlaw_PathsShort Try.f5 [p_p, picks_p] h R X = W_pipewrightlaw_PathsShort ω p_p picks_p h R X by kernel_rfl) ▸ hk)

/-- pipewright/pipewrightlaw.pathsBegun -/
abbrev n_pipewrightlaw_pathsBegun : Nat := 6
def W_pipewrightlaw_pathsBegun (ω : Amb) (h : Hp) (R : Value → Hp → Prop) (X : List PanicEntry → Hp → Prop) : Prop :=
 11 = 11 ∧ 11 = 11 ∧ 11 = 11 ∧ 5 = 5 ∧ (∀ u ∈ [(.string ⟨#[]⟩), (.slice none 0 0), (.int .i64 0), (.slice none 0 0), (.slice (some ⟨Array.size h, 0, none⟩) 3 3)], one u) ∧ storeK (Array.push (Array.push h (.cells (List.toArray [(.int .i64 14), (.int .i64 0), (.int .i64 0), (.int .i64 0), (.int .i64 2), (.string ⟨#[]⟩), (.slice none 0 0), (.slice none 0 0), (.int .i64 0), (.int .i64 0), (.int .i64 0), (.int .i64 15), (.int .i64 0), (.int .i64 0), (.int .i64 0), (.int .i64 0), (.string ⟨#[]⟩), (.slice none 0 0), (.slice none 0 0), (.int .i64 0), (.int .i64 0), (.int .i64 0), (.int .i64 17), (.int .i64 0), (.int .i64 0), (.int .i64 0), (.int .i64 0), (.string ⟨#[]⟩), (.slice none 0 0), (.slice none 0 0), (.int .i64 0), (.int .i64 0), (.int .i64 0)]) 41 (0, 0))) (.cells #[(.string ⟨#[]⟩), (.slice none 0 0), (.int .i64 0), (.slice none 0 0), (.slice none 0 0)] 26 (0, 0))) ⟨Array.size (Array.push h (.cells (List.toArray [(.int .i64 14), (.int .i64 0), (.int .i64 0), (.int .i64 0), (.int .i64 2), (.string ⟨#[]⟩), (.slice none 0 0), (.slice none 0 0), (.int .i64 0), (.int .i64 0), (.int .i64 0), (.int .i64 15), (.int .i64 0), (.int .i64 0), (.int .i64 0), (.int .i64 0), (.string ⟨#[]⟩), (.slice none 0 0), (.slice none 0 0), (.int .i64 0), (.int .i64 0), (.int .i64 0), (.int .i64 17), (.int .i64 0), (.int .i64 0), (.int .i64 0), (.int .i64 0), (.string ⟨#[]⟩), (.slice none 0 0), (.slice none 0 0), (.int .i64 0), (.int .i64 0), (.int .i64 0)]) 41 (0, 0))), 0, none⟩ [(.string ⟨#[]⟩), (.slice none 0 0), (.int .i64 0), (.slice none 0 0), (.slice (some ⟨Array.size h, 0, none⟩) 3 3)] fun h0 =>
 ∃ J1 : Value → Hp → Prop,
 (∃ C5, cellsH h0 ⟨Array.size (Array.push h (.cells (List.toArray [(.int .i64 14), (.int .i64 0), (.int .i64 0), (.int .i64 0), (.int .i64 2), (.string ⟨#[]⟩), (.slice none 0 0), (.slice none 0 0), (.int .i64 0), (.int .i64 0), (.int .i64 0), (.int .i64 15), (.int .i64 0), (.int .i64 0), (.int .i64 0), (.int .i64 0), (.string ⟨#[]⟩), (.slice none 0 0), (.slice none 0 0), (.int .i64 0), (.int .i64 0), (.int .i64 0), (.int .i64 17), (.int .i64 0), (.int .i64 0), (.int .i64 0), (.int .i64 0), (.string ⟨#[]⟩), (.slice none 0 0), (.slice none 0 0), (.int .i64 0), (.int .i64 0), (.int .i64 0)]) 41 (0, 0))), 0, none⟩ 5 C5 ∧
 CallX Try.prog ω 11 [(.agg C5.toArray), (.int .i64 0)] h0 (fun r6 h7 =>
 CallX Try.prog ω 8 [r6, (.slice (some ⟨Array.size h7, 0, none⟩) 2 2)] (Array.push h7 (.cells (List.toArray [(.int .i64 1), (.int .i64 2)]) 3 (0, 0))) (fun r8 h9 =>
 asB r8 fun b10 => cond b10
 (∃ C11, cellsH h9 ⟨Array.size (Array.push h (.cells (List.toArray [(.int .i64 14), (.int .i64 0), (.int .i64 0), (.int .i64 0), (.int .i64 2), (.string ⟨#[]⟩), (.slice none 0 0), (.slice none 0 0), (.int .i64 0), (.int .i64 0), (.int .i64 0), (.int .i64 15), (.int .i64 0), (.int .i64 0), (.int .i64 0), (.int .i64 0), (.string ⟨#[]⟩), (.slice none 0 0), (.slice none 0 0), (.int .i64 0), (.int .i64 0), (.int .i64 0), (.int .i64 17), (.int .i64 0), (.int .i64 0), (.int .i64 0), (.int .i64 0), (.string ⟨#[]⟩), (.slice none 0 0), (.slice none 0 0), (.int .i64 0), (.int .i64 0), (.int .i64 0)]) 41 (0, 0))), 0, none⟩ 5 C11 ∧
 CallX Try.prog ω 9 [(.agg C11.toArray), (.int .i64 1), (.int .i64 2)] h9 (fun r12 h13 =>
 CallX Try.prog ω 8 [r12, (.slice (some ⟨Array.size h13, 0, none⟩) 3 3)] (Array.push h13 (.cells (List.toArray [(.int .i64 1), (.int .i64 0), (.int .i64 2)]) 3 (0, 0))) (fun r14 h15 =>
 asB r14 fun b16 => cond b16
 (∃ C17, cellsH h15 ⟨Array.size (Array.push h (.cells (List.toArray [(.int .i64 14), (.int .i64 0), (.int .i64 0), (.int .i64 0), (.int .i64 2), (.string ⟨#[]⟩), (.slice none 0 0), (.slice none 0 0), (.int .i64 0), (.int .i64 0), (.int .i64 0), (.int .i64 15), (.int .i64 0), (.int .i64 0), (.int .i64 0), (.int .i64 0), (.string ⟨#[]⟩), (.slice none 0 0), (.slice none 0 0), (.int .i64 0), (.int .i64 0), (.int .i64 0), (.int .i64 17), (.int .i64 0), (.int .i64 0), (.int .i64 0), (.int .i64 0), (.string ⟨#[]⟩), (.slice none 0 0), (.slice none 0 0), (.int .i64 0), (.int .i64 0), (.int .i64 0)]) 41 (0, 0))), 0, none⟩ 5 C17 ∧
 CallX Try.prog ω 13 [(.agg C17.toArray)] h15 (fun r18 h19 =>
 CallX Try.prog ω 8 [r18, (.slice (some ⟨Array.size h19, 0, none⟩) 3 3)] (Array.push h19 (.cells (List.toArray [(.int .i64 0), (.int .i64 1), (.int .i64 2)]) 3 (0, 0))) (fun r20 h21 =>
 J1 r20 h21) X) X)
 (J1 (.bool false) h15)) X) X)
 (J1 (.bool false) h9)) X) X) ∧
 ∀ t0_2 (d3 : Nat → Value) (h4 : Hp), J1 t0_2 h4 →
 R t0_2 h4
def A_pipewrightlaw_pathsBegun : Ann :=
 (.two .leaf (.two .leaf (.two (.join [7, 8, 9, 10, 11, 12, 13, 14, 15, 16, 17, 18, 19, 20, 21, 22, 0] [0] .leaf) .leaf)))
theorem C_pipewrightlaw_pathsBegun (ω : Amb) (h : Hp) (R : Value → Hp → Prop) (X : List PanicEntry → Hp → Prop) (hk : W_pipewrightlaw_pathsBegun ω  h R X) : CallX Try.prog ω 6 [] h R X :=
 callX_of (an := A_pipewrightlaw_pathsBegun) Try.func6 ((show fnX Try.prog ω A_pipewrightlaw_pathsBegun Try.f6 [] h R X = W_pipewrightlaw_pathsBegun ω  h R X by kernel_rfl) ▸ hk)

/-- pipewright/pipewrightref.GreatProc -/
abbrev n_pipewrightref_GreatProc : Nat := 7
def W_pipewrightref_GreatProc (ω : Amb) (p_p most_p : Value) (h : Hp) (R : Value → Hp → Prop) (X : List PanicEntry → Hp → Prop) : Prop :=
 ∃ β0 : Bool,
 (∃ v2, cellH (Array.push h (.cells (Value.cells p_p) 26 (0, 0))) (Addr.add ⟨Array.size h, 0, none⟩ 0) = some v2 ∧
 asS v2 fun s3 => cond (decide (((ByteArray.size s3 : Int) : Int) > 1000))
 (((.bool true) : Value) = .bool β0 ∧ (Array.push h (.cells (Value.cells p_p) 26 (0, 0))) = (Array.push h (.cells (Value.cells p_p) 26 (0, 0))))
 (∃ v4, cellH (Array.push h (.cells (Value.cells p_p) 26 (0, 0))) (Addr.add ⟨Array.size h, 0, none⟩ 1) = some v4 ∧
 asSl v4 fun a5 l6 c7 => asK .i64 most_p fun n8 => cond (decide (((l6 : Int) : Int) > n8))
 (((.bool true) : Value) = .bool β0 ∧ (Array.push h (.cells (Value.cells p_p) 26 (0, 0))) = (Array.push h (.cells (Value.cells p_p) 26 (0, 0))))
 (∃ v9, cellH (Array.push h (.cells (Value.cells p_p) 26 (0, 0))) (Addr.add ⟨Array.size h, 0, none⟩ 3) = some v9 ∧
 asSl v9 fun a10 l11 c12 => asK .i64 most_p fun n13 => cond (decide (((l11 : Int) : Int) > n13))
 (((.bool true) : Value) = .bool β0 ∧ (Array.push h (.cells (Value.cells p_p) 26 (0, 0))) = (Array.push h (.cells (Value.cells p_p) 26 (0, 0))))
 (∃ v14, cellH (Array.push h (.cells (Value.cells p_p) 26 (0, 0))) (Addr.add ⟨Array.size h, 0, none⟩ 4) = some v14 ∧
 asSl v14 fun a15 l16 c17 => asK .i64 most_p fun n18 => ((.bool (decide (((l16 : Int) : Int) > n18))) : Value) = .bool β0 ∧ (Array.push h (.cells (Value.cells p_p) 26 (0, 0))) = (Array.push h (.cells (Value.cells p_p) 26 (0, 0))))))) ∧
 ∀ d1 : Nat → Value,
 cond β0
 (R (.bool true) (Array.push h (.cells (Value.cells p_p) 26 (0, 0))))
 (∃ (I19 : Value → Hp → Prop) (μ20 : Value → Hp → Nat), I19 (.int .i64 0) (Array.push h (.cells (Value.cells p_p) 26 (0, 0))) ∧ ∀ i_21 (d22 : Nat → Value) (h23 : Hp), I19 i_21 h23 →
 ∃ v24, cellH h23 (Addr.add ⟨Array.size h, 0, none⟩ 1) = some v24 ∧
 asSl v24 fun a25 l26 c27 => asK .i64 i_21 fun n28 => cond (decide ((n28 : Int) < (l26 : Int)))
 (∃ β29 : Bool,
 (∃ v31, cellH h23 (Addr.add ⟨Array.size h, 0, none⟩ 1) = some v31 ∧
 asSl1 v31 fun a32 l33 c34 => asI i_21 fun n35 => 0 ≤ (n35 : Int) ∧ n35 < (l33 : Int) ∧ ∃ v36, cellH h23 (Addr.add (Addr.add a32 (Int.toNat n35 * 2)) 0) = some v36 ∧
 asS v36 fun s37 => cond (decide (((ByteArray.size s37 : Int) : Int) > 100))
 (((.bool true) : Value) = .bool β29 ∧ h23 = h23)
 (∃ v38, cellH h23 (Addr.add ⟨Array.size h, 0, none⟩ 1) = some v38 ∧
 asSl1 v38 fun a39 l40 c41 => asI i_21 fun n42 => 0 ≤ (n42 : Int) ∧ n42 < (l40 : Int) ∧ ∃ v43, cellH h23 (Addr.add (Addr.add a39 (Int.toNat n42 * 2)) 1) = some v43 ∧
 asS v43 fun s44 => ((.bool (decide (((ByteArray.size s44 : Int) : Int) > 100))) : Value) = .bool β29 ∧ h23 = h23)) ∧
 ∀ d30 : Nat → Value,
 cond β29
 (R (.bool true) h23)
 (asK .i64 i_21 fun n45 => I19 (.int .i64 (IntKind.wrap .i64 (n45 + 1))) h23 ∧ μ20 (.int .i64 (IntKind.wrap .i64 (n45 + 1))) h23 < μ20 i_21 h23))
 (∃ (I46 : Value → Value → Hp → Prop) (μ47 : Value → Value → Hp → Nat), I46 (.int .i64 0) (.int .i64 0) h23 ∧ ∀ n_48 i_49 (d50 : Nat → Value) (h51 : Hp), I46 n_48 i_49 h51 →
 ∃ v52, cellH h51 (Addr.add ⟨Array.size h, 0, none⟩ 4) = some v52 ∧
 asSl v52 fun a53 l54 c55 => asK .i64 i_49 fun n56 => cond (decide ((n56 : Int) < (l54 : Int)))
 (∃ v57, cellH h51 (Addr.add ⟨Array.size h, 0, none⟩ 4) = some v57 ∧
 asSl1 v57 fun a58 l59 c60 => asI i_49 fun n61 => 0 ≤ (n61 : Int) ∧ n61 < (l59 : Int) ∧ ∃ C62, cellsH h51 (Addr.add a58 (Int.toNat n61 * 11)) 11 C62 ∧
 C62.toArray.size = 11 ∧ (∀ u ∈ C62.toArray.toList, one u) ∧ storeK (Array.push h51 (.cells #[(.int .i64 0), (.int .i64 0), (.int .i64 0), (.int .i64 0), (.int .i64 0), (.string ⟨#[]⟩), (.slice none 0 0), (.slice none 0 0), (.int .i64 0), (.int .i64 0), (.int .i64 0)] 41 (0, 0))) ⟨Array.size h51, 0, none⟩ C62.toArray.toList fun h63 =>
 ∃ β64 : Bool,
 (∃ v66, cellH h63 (Addr.add ⟨Array.size h51, 0, none⟩ 5) = some v66 ∧
 asS v66 fun s67 => cond (decide (((ByteArray.size s67 : Int) : Int) > 100))
 (((.bool true) : Value) = .bool β64 ∧ h63 = h63)
 (∃ v68, cellH h63 (Addr.add ⟨Array.size h51, 0, none⟩ 7) = some v68 ∧
 asSl v68 fun a69 l70 c71 => cond (decide (((l70 : Int) : Int) > 100))
 (((.bool true) : Value) = .bool β64 ∧ h63 = h63)
 (∃ v72, cellH h63 (Addr.add ⟨Array.size h51, 0, none⟩ 6) = some v72 ∧
 asSl v72 fun a73 l74 c75 => ((.bool (decide (((l74 : Int) : Int) > 1000))) : Value) = .bool β64 ∧ h63 = h63))) ∧
 ∀ d65 : Nat → Value,
 cond β64
 (R (.bool true) h63)
 (∃ v76, cellH h63 (Addr.add ⟨Array.size h51, 0, none⟩ 6) = some v76 ∧
 asSl v76 fun a77 l78 c79 => asK .i64 n_48 fun n80 => ∃ (I81 : Value → Value → Hp → Prop) (μ82 : Value → Value → Hp → Nat), I81 (.int .i64 (IntKind.wrap .i64 (n80 + (l78 : Int)))) (.int .i64 0) h63 ∧ ∀ n_83 k_84 (d85 : Nat → Value) (h86 : Hp), I81 n_83 k_84 h86 →
 ∃ v87, cellH h86 (Addr.add ⟨Array.size h51, 0, none⟩ 7) = some v87 ∧
 asSl v87 fun a88 l89 c90 => asK .i64 k_84 fun n91 => cond (decide ((n91 : Int) < (l89 : Int)))
 (∃ v92, cellH h86 (Addr.add ⟨Array.size h51, 0, none⟩ 7) = some v92 ∧
 asSl1 v92 fun a93 l94 c95 => asI k_84 fun n96 => 0 ≤ (n96 : Int) ∧ n96 < (l94 : Int) ∧ ∃ v97, cellH h86 (Addr.add (Addr.add a93 (Int.toNat n96 * 2)) 0) = some v97 ∧
 asSl v97 fun a98 l99 c100 => cond (decide (((l99 : Int) : Int) > 1000))
 (R (.bool true) h86)
 (∃ v101, cellH h86 (Addr.add ⟨Array.size h51, 0, none⟩ 7) = some v101 ∧
 asSl1 v101 fun a102 l103 c104 => asI k_84 fun n105 => 0 ≤ (n105 : Int) ∧ n105 < (l103 : Int) ∧ ∃ v106, cellH h86 (Addr.add (Addr.add a102 (Int.toNat n105 * 2)) 0) = some v106 ∧
 asSl v106 fun a107 l108 c109 => asK .i64 n_83 fun n110 => asK .i64 k_84 fun n111 => I81 (.int .i64 (IntKind.wrap .i64 (n110 + (l108 : Int)))) (.int .i64 (IntKind.wrap .i64 (n111 + 1))) h86 ∧ μ82 (.int .i64 (IntKind.wrap .i64 (n110 + (l108 : Int)))) (.int .i64 (IntKind.wrap .i64 (n111 + 1))) h86 < μ82 n_83 k_84 h86))
 (asK .i64 most_p fun n112 => asK .i64 n_83 fun n113 => cond (decide ((n113 : Int) > (IntKind.wrap .i64 (20 * n112))))
 (R (.bool true) h86)
 (asK .i64 i_49 fun n114 => I46 n_83 (.int .i64 (IntKind.wrap .i64 (n114 + 1))) h86 ∧ μ47 n_83 (.int .i64 (IntKind.wrap .i64 (n114 + 1))) h86 < μ47 n_48 i_49 h51))))
 (R (.bool false) h51)))
def A_pipewrightref_GreatProc : Ann :=
 (.two .leaf (.two (.two (.jb [10, 11, 12, 13, 14, 15, 16, 17, 18, 19, 20, 21, 22, 23, 24, 25, 26, 27, 28, 29, 30, 31, 32, 33, 34] 34 .leaf) (.two (.two .leaf .leaf) .leaf)) (.two .leaf (.two (.two .leaf (.one (.loop [35, 36, 37, 38, 39, 42, 43, 44, 45, 46, 47, 48, 49, 50, 51, 52, 53, 54, 55, 56, 57, 58, 59, 4, 40, 41, 6] [6] (.two (.two .leaf (.two .leaf .leaf)) (.two (.one (.two (.jb [42, 43, 44, 45, 46, 47, 48, 49, 50, 51, 52, 53, 54, 55, 56, 57, 58, 59] 59 .leaf) (.two (.two .leaf .leaf) .leaf))) .leaf))))) (.two (.two .leaf (.one (.loop [60, 61, 62, 63, 64, 67, 68, 69, 70, 71, 8, 72, 73, 74, 75, 76, 77, 78, 79, 80, 81, 82, 83, 84, 85, 86, 87, 4, 88, 89, 90, 91, 92, 5, 9, 93, 94, 95, 96, 97, 100, 101, 102, 103, 104, 105, 106, 107, 108, 109, 110, 111, 112, 113, 114, 115, 116, 98, 99, 117, 118, 119, 120, 65, 66, 7] [5, 7] (.two (.two .leaf (.two .leaf .leaf)) (.two (.one (.two .leaf (.two (.two (.jb [72, 73, 74, 75, 76, 77, 78, 79, 80, 81, 82, 83, 84, 85, 86, 87] 87 .leaf) (.two (.two .leaf .leaf) .leaf)) (.two .leaf (.two (.two .leaf (.one (.loop [93, 94, 95, 96, 97, 100, 101, 102, 103, 104, 105, 106, 107, 4, 108, 109, 110, 111, 112, 113, 114, 115, 116, 5, 98, 99, 9] [5, 9] (.two (.two .leaf (.two .leaf .leaf)) (.two (.one (.two (.two .leaf (.two (.two .leaf .leaf) .leaf)) .leaf)) .leaf))))) (.two .leaf (.two (.two .leaf .leaf) .leaf))))))) .leaf))))) (.two .leaf .leaf))))))
theorem C_pipewrightref_GreatProc (ω : Amb) (p_p most_p : Value) (h : Hp) (R : Value → Hp → Prop) (X : List PanicEntry → Hp → Prop) (hk : W_pipewrightref_GreatProc ω p_p most_p h R X) : CallX Try.prog ω 7 [p_p, most_p] h R X :=
 callX_of (an := A_pipewrightref_GreatProc) Try.func7 ((show fnX Try.prog ω A_pipewrightref_GreatProc Try.f7 [p_p, most_p] h R X = W_pipewrightref_GreatProc ω p_p most_p h R X by kernel_rfl) ▸ hk)

/-- pipewright/pipewrightref.SameInts -/
abbrev n_pipewrightref_SameInts : Nat := 8
def W_pipewrightref_SameInts (ω : Amb) (a_p b_p : Value) (h : Hp) (R : Value → Hp → Prop) (X : List PanicEntry → Hp → Prop) : Prop :=
 asSl a_p fun a0 l1 c2 => asSl b_p fun a3 l4 c5 => cond ((l1 : Int) != ((l4 : Int) : Int))
 (R (.bool false) h)
 (∃ (I6 : Value → Hp → Prop) (μ7 : Value → Hp → Nat), I6 (.int .i64 0) h ∧ ∀ i_8 (d9 : Nat → Value) (h10 : Hp), I6 i_8 h10 →
 asSl a_p fun a11 l12 c13 => asK .i64 i_8 fun n14 => cond (decide ((n14 : Int) < (l12 : Int)))
 (asSl1 a_p fun a15 l16 c17 => asI i_8 fun n18 => 0 ≤ (n18 : Int) ∧ n18 < (l16 : Int) ∧ ∃ v19, cellH h10 (Addr.add a15 (Int.toNat n18 * 1)) = some v19 ∧
 asSl1 b_p fun a20 l21 c22 => asI i_8 fun n23 => 0 ≤ (n23 : Int) ∧ n23 < (l21 : Int) ∧ ∃ v24, cellH h10 (Addr.add a20 (Int.toNat n23 * 1)) = some v24 ∧
 asK .i64 v19 fun n25 => asK .i64 v24 fun n26 => cond (n25 != (n26 : Int))
 (R (.bool false) h10)
 (asK .i64 i_8 fun n27 => I6 (.int .i64 (IntKind.wrap .i64 (n27 + 1))) h10 ∧ μ7 (.int .i64 (IntKind.wrap .i64 (n27 + 1))) h10 < μ7 i_8 h10))
 (R (.bool true) h10))
def A_pipewrightref_SameInts : Ann :=
 (.two .leaf (.two (.two .leaf (.two (.two .leaf .leaf) .leaf)) (.two (.two .leaf (.one (.loop [11, 12, 13, 14, 17, 18, 19, 20, 21, 22, 23, 24, 25, 4, 15, 16, 5] [5] (.two (.two .leaf (.two .leaf .leaf)) (.two (.one (.two (.plan [0, 1, 2, 3, 4, 5, 6, 7, 8]) (.two (.two .leaf .leaf) .leaf))) .leaf))))) (.two .leaf .leaf))))
theorem C_pipewrightref_SameInts (ω : Amb) (a_p b_p : Value) (h : Hp) (R : Value → Hp → Prop) (X : List PanicEntry → Hp → Prop) (hk : W_pipewrightref_SameInts ω a_p b_p h R X) : CallX Try.prog ω 8 [a_p, b_p] h R X :=
 callX_of (an := A_pipewrightref_SameInts) Try.func8 ((show fnX Try.prog ω A_pipewrightref_SameInts Try.f8 [a_p, b_p] h R X = W_pipewrightref_SameInts ω a_p b_p h R X by kernel_rfl) ▸ hk)

/-- pipewright/paths.Path -/
abbrev n_paths_Path : Nat := 9
def W_paths_Path (ω : Amb) (p_p from_p to_p : Value) (h : Hp) (R : Value → Hp → Prop) (X : List PanicEntry → Hp → Prop) : Prop :=
 ∃ C0, cellsH (Array.push (Array.push h (.cells (Value.cells p_p) 26 (0, 0))) (.cells (Value.cells from_p) 3 (0, 0))) ⟨Array.size h, 0, none⟩ 5 C0 ∧
 CallX Try.prog ω 18 [(.agg C0.toArray)] (Array.push (Array.push h (.cells (Value.cells p_p) 26 (0, 0))) (.cells (Value.cells from_p) 3 (0, 0))) (fun r1 h2 =>
 oneK r1 (storeK1 (Array.push h2 (.cells #[(.slice none 0 0)] 46 (0, 0))) ⟨Array.size h2, 0, none⟩ r1 fun h3 =>
 ∃ v4, cellH h3 (Addr.add ⟨Array.size h, 0, none⟩ 4) = some v4 ∧
 asSl v4 fun a5 l6 c7 => CallX Try.prog ω 19 [(.int .i64 (l6 : Int)), to_p, (.func (.func 20) #[] #[(.pointer (some ⟨Array.size h2, 0, none⟩))])] h3 (fun r8 h9 =>
 oneK r8 (storeK1 (Array.push h9 (.cells #[(.slice none 0 0)] 30 (0, 0))) ⟨Array.size h9, 0, none⟩ r8 fun h10 =>
 ∃ β11 : Bool,
 (∃ v13, cellH h10 ⟨Array.size (Array.push h (.cells (Value.cells p_p) 26 (0, 0))), 0, none⟩ = some v13 ∧
 asK .i64 v13 fun n14 => cond (decide ((n14 : Int) < 0))
 (((.bool true) : Value) = .bool β11 ∧ h10 = h10)
 (∃ v15, cellH h10 ⟨Array.size (Array.push h (.cells (Value.cells p_p) 26 (0, 0))), 0, none⟩ = some v15 ∧
 ∃ v16, cellH h10 (Addr.add ⟨Array.size h, 0, none⟩ 4) = some v16 ∧
 asSl v16 fun a17 l18 c19 => asK .i64 v15 fun n20 => cond (decide ((n20 : Int) ≥ (l18 : Int)))
 (((.bool true) : Value) = .bool β11 ∧ h10 = h10)
 (∃ v21, cellH h10 ⟨Array.size h9, 0, none⟩ = some v21 ∧
 ∃ v22, cellH h10 ⟨Array.size (Array.push h (.cells (Value.cells p_p) 26 (0, 0))), 0, none⟩ = some v22 ∧
 asSl1 v21 fun a23 l24 c25 => asI v22 fun n26 => 0 ≤ (n26 : Int) ∧ n26 < (l24 : Int) ∧ ∃ v27, cellH h10 (Addr.add a23 (Int.toNat n26 * 1)) = some v27 ∧
 asK .i64 v27 fun n28 => ((.bool (decide ((n28 : Int) < 0))) : Value) = .bool β11 ∧ h10 = h10))) ∧
 ∀ d12 : Nat → Value,
 cond β11
 (R (.slice none 0 0) h10)
 (∃ v29, cellH h10 ⟨Array.size (Array.push h (.cells (Value.cells p_p) 26 (0, 0))), 0, none⟩ = some v29 ∧
 oneK v29 (∃ (I30 : Value → Hp → Prop) (μ31 : Value → Hp → Nat), I30 (.slice (some ⟨Array.size h10, 0, none⟩) 1 1) (Array.push h10 (.cells (List.toArray [v29]) 3 (0, 0))) ∧ ∀ out_32 (d33 : Nat → Value) (h34 : Hp), I30 out_32 h34 →
 ∃ v35, cellH h34 ⟨Array.size (Array.push h (.cells (Value.cells p_p) 26 (0, 0))), 0, none⟩ = some v35 ∧
 asK .i64 v35 fun n36 => asK .i64 to_p fun n37 => cond (n36 != (n37 : Int))
 (∃ C38, cellsH h34 ⟨Array.size h, 0, none⟩ 5 C38 ∧
 ∃ v39, cellH h34 ⟨Array.size (Array.push h (.cells (Value.cells p_p) 26 (0, 0))), 0, none⟩ = some v39 ∧
 CallX Try.prog ω 11 [(.agg C38.toArray), v39] h34 (fun r40 h41 =>
 CallX Try.prog ω 21 [r40, (.func (.func 22) #[] #[(.pointer (some ⟨Array.size h9, 0, none⟩)), (.pointer (some ⟨Array.size (Array.push h (.cells (Value.cells p_p) 26 (0, 0))), 0, none⟩))])] h41 (fun r42 h43 =>
 asSl1 r40 fun a44 l45 c46 => asI r42 fun n47 => 0 ≤ (n47 : Int) ∧ n47 < (l45 : Int) ∧ ∃ v48, cellH h43 (Addr.add a44 (Int.toNat n47 * 1)) = some v48 ∧
 oneK v48 (storeK1 h43 ⟨Array.size (Array.push h (.cells (Value.cells p_p) 26 (0, 0))), 0, none⟩ v48 fun h49 =>
 ∃ v50, cellH h49 ⟨Array.size (Array.push h (.cells (Value.cells p_p) 26 (0, 0))), 0, none⟩ = some v50 ∧
 oneK v50 (appK Try.prog 30 (Array.push h49 (.cells (List.toArray [v50]) 3 (0, 0))) out_32 (.slice (some ⟨Array.size h49, 0, none⟩) 1 1) fun w51 h52 =>
 I30 w51 h52 ∧ μ31 w51 h52 < μ31 out_32 h34))) X) X)
 (R out_32 h34))))) X)) X
def A_paths_Path : Ann :=
 (.two .leaf (.two .leaf (.two .leaf (.two (.two (.jb [19, 20, 21, 22, 23, 24, 25, 26, 27, 28, 29, 30, 31, 32, 33, 34] 34 .leaf) (.two (.two .leaf .leaf) .leaf)) (.two .leaf (.two (.one (.loop [37, 38, 39, 40, 41, 42, 10, 43, 44, 45, 46, 47, 48, 49, 50, 51, 52, 9] [9] (.two (.two .leaf (.two .leaf .leaf)) (.one (.two .leaf (.two .leaf .leaf)))))) (.two .leaf .leaf)))))))
theorem C_paths_Path (ω : Amb) (p_p from_p to_p : Value) (h : Hp) (R : Value → Hp → Prop) (X : List PanicEntry → Hp → Prop) (hk : W_paths_Path ω p_p from_p to_p h R X) : CallX Try.prog ω 9 [p_p, from_p, to_p] h R X :=
 callX_of (an := A_paths_Path) Try.func9 ((show fnX Try.prog ω A_paths_Path Try.f9 [p_p, from_p, to_p] h R X = W_paths_Path ω p_p from_p to_p h R X by kernel_rfl) ▸ hk)

/-- pipewright/pipewrightref.WayTo -/
abbrev n_pipewrightref_WayTo : Nat := 10
def W_pipewrightref_WayTo (ω : Amb) (p_p from_p to_p : Value) (h : Hp) (R : Value → Hp → Prop) (X : List PanicEntry → Hp → Prop) : Prop :=
 ∃ β0 : Bool,
 (asK .i64 from_p fun n2 => cond (decide ((n2 : Int) < 0))
 (((.bool true) : Value) = .bool β0 ∧ (Array.push h (.cells (Value.cells p_p) 26 (0, 0))) = (Array.push h (.cells (Value.cells p_p) 26 (0, 0))))
 (∃ v3, cellH (Array.push h (.cells (Value.cells p_p) 26 (0, 0))) (Addr.add ⟨Array.size h, 0, none⟩ 4) = some v3 ∧
 asSl v3 fun a4 l5 c6 => asK .i64 from_p fun n7 => ((.bool (decide ((n7 : Int) ≥ (l5 : Int)))) : Value) = .bool β0 ∧ (Array.push h (.cells (Value.cells p_p) 26 (0, 0))) = (Array.push h (.cells (Value.cells p_p) 26 (0, 0))))) ∧
 ∀ d1 : Nat → Value,
 cond β0
 (R (.slice none 0 0) (Array.push h (.cells (Value.cells p_p) 26 (0, 0))))
 (∃ C8, cellsH (Array.push h (.cells (Value.cells p_p) 26 (0, 0))) ⟨Array.size h, 0, none⟩ 5 C8 ∧
 CallX Try.prog ω 23 [(.agg C8.toArray), to_p] (Array.push h (.cells (Value.cells p_p) 26 (0, 0))) (fun r9 h10 =>
 asSl1 r9 fun a11 l12 c13 => asI from_p fun n14 => 0 ≤ (n14 : Int) ∧ n14 < (l12 : Int) ∧ ∃ v15, cellH h10 (Addr.add a11 (Int.toNat n14 * 1)) = some v15 ∧
 asK .i64 v15 fun n16 => cond (decide ((n16 : Int) ≥ 1073741824))
 (R (.slice none 0 0) h10)
 (oneK from_p (∃ (I17 : Value → Value → Hp → Prop) (μ18 : Value → Value → Hp → Nat), I17 from_p (.slice (some ⟨Array.size h10, 0, none⟩) 1 1) (Array.push h10 (.cells (List.toArray [from_p]) 3 (0, 0))) ∧ ∀ at_19 out_20 (d21 : Nat → Value) (h22 : Hp), I17 at_19 out_20 h22 →
 asSl1 r9 fun a23 l24 c25 => asI at_19 fun n26 => 0 ≤ (n26 : Int) ∧ n26 < (l24 : Int) ∧ ∃ v27, cellH h22 (Addr.add a23 (Int.toNat n26 * 1)) = some v27 ∧
 asK .i64 v27 fun n28 => cond (decide ((n28 : Int) > 0))
 (∃ C29, cellsH h22 ⟨Array.size h, 0, none⟩ 5 C29 ∧
 CallX Try.prog ω 12 [(.agg C29.toArray), at_19] h22 (fun r30 h31 =>
 ∃ (I32 : Value → Hp → Prop) (μ33 : Value → Hp → Nat), I32 (.int .i64 0) h31 ∧ ∀ k_34 (d35 : Nat → Value) (h36 : Hp), I32 k_34 h36 →
 asSl1 r30 fun a37 l38 c39 => asI k_34 fun n40 => 0 ≤ (n40 : Int) ∧ n40 < (l38 : Int) ∧ ∃ v41, cellH h36 (Addr.add a37 (Int.toNat n40 * 1)) = some v41 ∧
 asSl1 r9 fun a42 l43 c44 => asI v41 fun n45 => 0 ≤ (n45 : Int) ∧ n45 < (l43 : Int) ∧ ∃ v46, cellH h36 (Addr.add a42 (Int.toNat n45 * 1)) = some v46 ∧
 asSl1 r9 fun a47 l48 c49 => asI at_19 fun n50 => 0 ≤ (n50 : Int) ∧ n50 < (l48 : Int) ∧ ∃ v51, cellH h36 (Addr.add a47 (Int.toNat n50 * 1)) = some v51 ∧
 asK .i64 v51 fun n52 => asK .i64 v46 fun n53 => cond (n53 != ((IntKind.wrap .i64 (n52 - 1)) : Int))
 (asK .i64 k_34 fun n54 => I32 (.int .i64 (IntKind.wrap .i64 (n54 + 1))) h36 ∧ μ33 (.int .i64 (IntKind.wrap .i64 (n54 + 1))) h36 < μ33 k_34 h36)
 (asSl1 r30 fun a55 l56 c57 => asI k_34 fun n58 => 0 ≤ (n58 : Int) ∧ n58 < (l56 : Int) ∧ ∃ v59, cellH h36 (Addr.add a55 (Int.toNat n58 * 1)) = some v59 ∧
 oneK v59 (appK Try.prog 30 (Array.push h36 (.cells (List.toArray [v59]) 3 (0, 0))) out_20 (.slice (some ⟨Array.size h36, 0, none⟩) 1 1) fun w60 h61 =>
 I17 v59 w60 h61 ∧ μ18 v59 w60 h61 < μ18 at_19 out_20 h22))) X)
 (R out_20 h22)))) X)
def A_pipewrightref_WayTo : Ann :=
 (.two .leaf (.two (.two (.jb [12, 13, 14, 15, 16, 17, 18, 19, 20] 20 .leaf) (.two (.two .leaf .leaf) .leaf)) (.two .leaf (.two (.two .leaf (.two (.two .leaf .leaf) .leaf)) (.two .leaf (.two (.two .leaf (.one (.loop [32, 33, 34, 35, 36, 37, 38, 39, 10, 11, 40, 41, 42, 43, 44, 45, 46, 47, 48, 49, 50, 51, 52, 53, 54, 55, 56, 57, 58, 9, 59, 60, 61, 62, 8] [9, 8] (.two (.two .leaf (.two .leaf .leaf)) (.one (.two .leaf (.two .leaf (.two (.one (.loop [40, 41, 42, 43, 44, 45, 46, 47, 48, 49, 50, 51, 52, 53, 54, 11] [11] (.two (.two (.plan [0, 1, 2, 3, 4, 5, 6, 7, 8, 9, 10, 11, 12]) (.two .leaf .leaf)) (.one .leaf)))) (.two .leaf .leaf))))))))) (.two .leaf .leaf)))))))
theorem C_pipewrightref_WayTo (ω : Amb) (p_p from_p to_p : Value) (h : Hp) (R : Value → Hp → Prop) (X : List PanicEntry → Hp → Prop) (hk : W_pipewrightref_WayTo ω p_p from_p to_p h R X) : CallX Try.prog ω 10 [p_p, from_p, to_p] h R X :=
 callX_of (an := A_pipewrightref_WayTo) Try.func10 ((show fnX Try.prog ω A_pipewrightref_WayTo Try.f10 [p_p, from_p, to_p] h R X = W_pipewrightref_WayTo ω p_p from_p to_p h R X by kernel_rfl) ▸ hk)

/-- pipewright/paths.Next -/
abbrev n_paths_Next : Nat := 11
def W_paths_Next (ω : Amb) (p_p i_p : Value) (h : Hp) (R : Value → Hp → Prop) (X : List PanicEntry → Hp → Prop) : Prop :=
 ∃ β0 : Bool,
 (asK .i64 i_p fun n2 => cond (decide ((n2 : Int) < 0))
 (((.bool true) : Value) = .bool β0 ∧ (Array.push h (.cells (Value.cells p_p) 26 (0, 0))) = (Array.push h (.cells (Value.cells p_p) 26 (0, 0))))
 (∃ v3, cellH (Array.push h (.cells (Value.cells p_p) 26 (0, 0))) (Addr.add ⟨Array.size h, 0, none⟩ 4) = some v3 ∧
 asSl v3 fun a4 l5 c6 => asK .i64 i_p fun n7 => ((.bool (decide ((n7 : Int) ≥ (l5 : Int)))) : Value) = .bool β0 ∧ (Array.push h (.cells (Value.cells p_p) 26 (0, 0))) = (Array.push h (.cells (Value.cells p_p) 26 (0, 0))))) ∧
 ∀ d1 : Nat → Value,
 cond β0
 (R (.slice none 0 0) (Array.push h (.cells (Value.cells p_p) 26 (0, 0))))
 (∃ v8, cellH (Array.push h (.cells (Value.cells p_p) 26 (0, 0))) (Addr.add ⟨Array.size h, 0, none⟩ 4) = some v8 ∧
 asSl1 v8 fun a9 l10 c11 => asI i_p fun n12 => 0 ≤ (n12 : Int) ∧ n12 < (l10 : Int) ∧ ∃ C13, cellsH (Array.push h (.cells (Value.cells p_p) 26 (0, 0))) (Addr.add a9 (Int.toNat n12 * 11)) 11 C13 ∧
 C13.toArray.size = 11 ∧ (∀ u ∈ C13.toArray.toList, one u) ∧ storeK (Array.push (Array.push h (.cells (Value.cells p_p) 26 (0, 0))) (.cells #[(.int .i64 0), (.int .i64 0), (.int .i64 0), (.int .i64 0), (.int .i64 0), (.string ⟨#[]⟩), (.slice none 0 0), (.slice none 0 0), (.int .i64 0), (.int .i64 0), (.int .i64 0)] 41 (0, 0))) ⟨Array.size (Array.push h (.cells (Value.cells p_p) 26 (0, 0))), 0, none⟩ C13.toArray.toList fun h14 =>
 ∃ v15, cellH h14 (Addr.add ⟨Array.size (Array.push h (.cells (Value.cells p_p) 26 (0, 0))), 0, none⟩ 0) = some v15 ∧
 ∃ J16 : Value → Hp → Prop,
 (asK .i64 v15 fun n20 => ∃ J21 : Value → Hp → Prop,
 (cond (n20 == (17 : Int))
 (J21 (.slice none 0 0) h14)
 (asK .i64 v15 fun n25 => ∃ J26 : Value → Hp → Prop,
 (cond (n25 == (15 : Int))
 (∃ v30, cellH h14 (Addr.add ⟨Array.size (Array.push h (.cells (Value.cells p_p) 26 (0, 0))), 0, none⟩ 4) = some v30 ∧
 oneK v30 (J26 (.slice (some ⟨Array.size h14, 0, none⟩) 1 1) (Array.push h14 (.cells (List.toArray [v30]) 3 (0, 0)))))
 (asK .i64 v15 fun n31 => ∃ J32 : Value → Hp → Prop,
 (cond (n31 == (14 : Int))
 (J32 (.bool (n31 == (14 : Int))) h14)
 (asK .i64 v15 fun n36 => ∃ J37 : Value → Hp → Prop,
 (cond (n36 == (13 : Int))
 (J37 (.bool (n36 == (13 : Int))) h14)
 (asK .i64 v15 fun n41 => J37 (.bool (n41 == (11 : Int))) h14)) ∧
 ∀ t33_38 (d39 : Nat → Value) (h40 : Hp), J37 t33_38 h40 →
 J32 t33_38 h40)) ∧
 ∀ t33_33 (d34 : Nat → Value) (h35 : Hp), J32 t33_33 h35 →
 ∃ J42 : Value → Hp → Prop,
 (asB t33_33 fun b46 => cond b46
 (asK .i64 i_p fun n47 => ∃ v48, cellH h35 (Addr.add ⟨Array.size (Array.push h (.cells (Value.cells p_p) 26 (0, 0))), 0, none⟩ 4) = some v48 ∧
 oneK v48 (J42 (.slice (some ⟨Array.size h35, 0, none⟩) 2 2) (Array.push h35 (.cells (List.toArray [(.int .i64 (IntKind.wrap .i64 (n47 + 1))), v48]) 3 (0, 0)))))
 (asK .i64 i_p fun n49 => J42 (.slice (some ⟨Array.size h35, 0, none⟩) 1 1) (Array.push h35 (.cells (List.toArray [(.int .i64 (IntKind.wrap .i64 (n49 + 1)))]) 3 (0, 0))))) ∧
 ∀ l_43 (d44 : Nat → Value) (h45 : Hp), J42 l_43 h45 →
 J26 l_43 h45)) ∧
 ∀ l_27 (d28 : Nat → Value) (h29 : Hp), J26 l_27 h29 →
 J21 l_27 h29)) ∧
 ∀ l_22 (d23 : Nat → Value) (h24 : Hp), J21 l_22 h24 →
 J16 l_22 h24) ∧
 ∀ l_17 (d18 : Nat → Value) (h19 : Hp), J16 l_17 h19 →
 CallX Try.prog ω 24 [l_17, (.func (.func 25) #[] #[(.pointer (some ⟨Array.size h, 0, none⟩))])] h19 (fun r50 h51 =>
 CallX Try.prog ω 26 [r50] h51 (fun r52 h53 =>
 CallX Try.prog ω 27 [r50] h53 (fun r54 h55 =>
 R r54 h55) X) X) X)
def A_paths_Next : Ann :=
 (.two .leaf (.two (.two (.jb [7, 8, 9, 10, 11, 12, 13, 14, 15] 15 .leaf) (.two (.two .leaf .leaf) .leaf)) (.two .leaf (.two (.two .leaf (.two .leaf (.join [27, 26, 29, 28, 30, 31, 32, 5, 34, 33, 35, 36, 37, 38, 39, 40, 41, 23, 24, 25] [5] (.one (.two .leaf (.join [29, 28, 30, 31, 32, 5, 34, 33, 35, 36, 37, 38, 39, 40, 41, 23, 24, 25] [5] (.two .leaf (.two .leaf (.join [30, 31, 32, 5, 34, 33, 35, 36, 37, 38, 39, 40, 41, 23, 24, 25] [5] (.two .leaf (.two (.two .leaf (.join [35, 33, 36] [33] (.two .leaf (.two .leaf (.join [36, 33] [33] (.two .leaf .leaf)))))) (.join [37, 38, 39, 40, 41, 5, 23, 24, 25] [5] (.two .leaf .leaf))))))))))))) (.two .leaf (.two .leaf (.two .leaf .leaf)))))))
theorem C_paths_Next (ω : Amb) (p_p i_p : Value) (h : Hp) (R : Value → Hp → Prop) (X : List PanicEntry → Hp → Prop) (hk : W_paths_Next ω p_p i_p h R X) : CallX Try.prog ω 11 [p_p, i_p] h R X :=
 callX_of (an := A_paths_Next) Try.func11 ((show fnX Try.prog ω A_paths_Next Try.f11 [p_p, i_p] h R X = W_paths_Next ω p_p i_p h R X by kernel_rfl) ▸ hk)

/-- pipewright/pipewrightref.Nexts -/
abbrev n_pipewrightref_Nexts : Nat := 12
def W_pipewrightref_Nexts (ω : Amb) (p_p i_p : Value) (h : Hp) (R : Value → Hp → Prop) (X : List PanicEntry → Hp → Prop) : Prop :=
 ∃ (I0 : Value → Value → Hp → Prop) (μ1 : Value → Value → Hp → Nat), I0 (.slice none 0 0) (.int .i64 0) (Array.push h (.cells (Value.cells p_p) 26 (0, 0))) ∧ ∀ out_2 k_3 (d4 : Nat → Value) (h5 : Hp), I0 out_2 k_3 h5 →
 ∃ v6, cellH h5 (Addr.add ⟨Array.size h, 0, none⟩ 4) = some v6 ∧
 asSl v6 fun a7 l8 c9 => asK .i64 k_3 fun n10 => cond (decide ((n10 : Int) < (l8 : Int)))
 (∃ J11 : Value → Hp → Prop,
 (∃ C15, cellsH h5 ⟨Array.size h, 0, none⟩ 5 C15 ∧
 CallX Try.prog ω 28 [(.agg C15.toArray), i_p, k_3] h5 (fun r16 h17 =>
 ∃ J18 : Value → Hp → Prop,
 (asB r16 fun b22 => cond b22
 (oneK k_3 (appK Try.prog 30 (Array.push h17 (.cells (List.toArray [k_3]) 3 (0, 0))) out_2 (.slice (some ⟨Array.size h17, 0, none⟩) 1 1) fun w23 h24 =>
 J18 w23 h24))
 (J18 out_2 h17)) ∧
 ∀ out_19 (d20 : Nat → Value) (h21 : Hp), J18 out_19 h21 →
 J11 out_19 h21) X) ∧
 ∀ out_12 (d13 : Nat → Value) (h14 : Hp), J11 out_12 h14 →
 asK .i64 k_3 fun n25 => I0 out_12 (.int .i64 (IntKind.wrap .i64 (n25 + 1))) h14 ∧ μ1 out_12 (.int .i64 (IntKind.wrap .i64 (n25 + 1))) h14 < μ1 out_2 k_3 h5)
 (R out_2 h5)
def A_pipewrightref_Nexts : Ann :=
 (.two .leaf (.two .leaf (.two (.two .leaf (.one (.loop [7, 8, 9, 10, 11, 14, 15, 16, 17, 18, 19, 20, 21, 5, 12, 13, 6] [5, 6] (.two (.two .leaf (.two .leaf .leaf)) (.two (.join [14, 15, 16, 17, 18, 19, 20, 21, 5] [5] (.one (.two .leaf (.join [18, 19, 20, 21, 5] [5] (.two .leaf .leaf))))) .leaf))))) (.two .leaf .leaf))))
theorem C_pipewrightref_Nexts (ω : Amb) (p_p i_p : Value) (h : Hp) (R : Value → Hp → Prop) (X : List PanicEntry → Hp → Prop) (hk : W_pipewrightref_Nexts ω p_p i_p h R X) : CallX Try.prog ω 12 [p_p, i_p] h R X :=
 callX_of (an := A_pipewrightref_Nexts) Try.func12 ((show fnX Try.prog ω A_pipewrightref_Nexts Try.f12 [p_p, i_p] h R X = W_pipewrightref_Nexts ω p_p i_p h R X by kernel_rfl) ▸ hk)

/-- pipewright/paths.Reach -/
abbrev n_paths_Reach : Nat := 13
def W_paths_Reach (ω : Amb) (p_p : Value) (h : Hp) (R : Value → Hp → Prop) (X : List PanicEntry → Hp → Prop) : Prop :=
 ∃ v0, cellH (Array.push h (.cells (Value.cells p_p) 26 (0, 0))) (Addr.add ⟨Array.size h, 0, none⟩ 4) = some v0 ∧
 asSl v0 fun a1 l2 c3 => CallX Try.prog ω 19 [(.int .i64 (l2 : Int)), (.int .i64 0), (.func (.func 29) #[] #[(.pointer (some ⟨Array.size h, 0, none⟩))])] (Array.push h (.cells (Value.cells p_p) 26 (0, 0))) (fun r4 h5 =>
 asSl r4 fun a6 l7 c8 => ∃ (I9 : Value → Value → Hp → Prop) (μ10 : Value → Value → Hp → Nat), I9 (.slice none 0 0) (.int .i64 0) h5 ∧ ∀ out_11 t12_12 (d13 : Nat → Value) (h14 : Hp), I9 out_11 t12_12 h14 →
 asK .i64 t12_12 fun n15 => cond (decide ((n15 : Int) < (l7 : Int)))
 (∃ J16 : Value → Hp → Prop,
 (asSl1 r4 fun a20 l21 c22 => asI t12_12 fun n23 => 0 ≤ (n23 : Int) ∧ n23 < (l21 : Int) ∧ ∃ v24, cellH h14 (Addr.add a20 (Int.toNat n23 * 1)) = some v24 ∧
 asK .i64 v24 fun n25 => ∃ J26 : Value → Hp → Prop,
 (cond (decide ((n25 : Int) ≥ 0))
 (oneK t12_12 (appK Try.prog 30 (Array.push h14 (.cells (List.toArray [t12_12]) 3 (0, 0))) out_11 (.slice (some ⟨Array.size h14, 0, none⟩) 1 1) fun w30 h31 =>
 J26 w30 h31))
 (J26 out_11 h14)) ∧
 ∀ out_27 (d28 : Nat → Value) (h29 : Hp), J26 out_27 h29 →
 J16 out_27 h29) ∧
 ∀ out_17 (d18 : Nat → Value) (h19 : Hp), J16 out_17 h19 →
 asK .i64 t12_12 fun n32 => I9 out_17 (.int .i64 (IntKind.wrap .i64 (n32 + 1))) h19 ∧ μ10 out_17 (.int .i64 (IntKind.wrap .i64 (n32 + 1))) h19 < μ10 out_11 t12_12 h14)
 (R out_11 h14)) X
def A_paths_Reach : Ann :=
 (.two .leaf (.two .leaf (.two (.two .leaf (.one (.loop [13, 14, 15, 16, 4, 5, 17, 18, 19, 20, 21, 22, 3, 23, 12] [3, 12] (.two .leaf (.two (.two .leaf .leaf) (.two (.join [14, 15, 16, 4, 5, 17, 18, 19, 20, 21, 22, 3] [3] (.one (.two .leaf (.two .leaf (.join [19, 20, 21, 22, 3] [3] (.two .leaf .leaf)))))) .leaf)))))) (.two .leaf .leaf))))
theorem C_paths_Reach (ω : Amb) (p_p : Value) (h : Hp) (R : Value → Hp → Prop) (X : List PanicEntry → Hp → Prop) (hk : W_paths_Reach ω p_p h R X) : CallX Try.prog ω 13 [p_p] h R X :=
 callX_of (an := A_paths_Reach) Try.func13 ((show fnX Try.prog ω A_paths_Reach Try.f13 [p_p] h R X = W_paths_Reach ω p_p h R X by kernel_rfl) ▸ hk)

/-- pipewright/pipewrightref.Reached -/
abbrev n_pipewrightref_Reached : Nat := 14
def W_pipewrightref_Reached (ω : Amb) (p_p : Value) (h : Hp) (R : Value → Hp → Prop) (X : List PanicEntry → Hp → Prop) : Prop :=
 ∃ v0, cellH (Array.push h (.cells (Value.cells p_p) 26 (0, 0))) (Addr.add ⟨Array.size h, 0, none⟩ 4) = some v0 ∧
 asSl v0 fun a1 l2 c3 => makeK Try.prog 55 (Array.push h (.cells (Value.cells p_p) 26 (0, 0))) (.int .i64 (l2 : Int)) (.int .i64 (l2 : Int)) fun v4 h5 =>
 asSl v4 fun a6 l7 c8 => ∃ J9 : Hp → Prop,
 (cond (decide (((l7 : Int) : Int) > 0))
 (asSl1 v4 fun a12 l13 c14 => 0 ≤ (0 : Int) ∧ 0 < (l13 : Int) ∧ storeK1 h5 (Addr.add a12 (Int.toNat 0 * 1)) (.bool true) fun h15 =>
 J9 h15)
 (J9 h5)) ∧
 ∀  (d10 : Nat → Value) (h11 : Hp), J9 h11 →
 ∃ (I16 : Value → Hp → Prop) (μ17 : Value → Hp → Nat), I16 (.bool true) h11 ∧ ∀ more_18 (d19 : Nat → Value) (h20 : Hp), I16 more_18 h20 →
 asB more_18 fun b21 => cond b21
 (∃ (I22 : Value → Value → Hp → Prop) (μ23 : Value → Value → Hp → Nat), I22 (.bool false) (.int .i64 0) h20 ∧ ∀ more_24 i_25 (d26 : Nat → Value) (h27 : Hp), I22 more_24 i_25 h27 →
 asSl v4 fun a28 l29 c30 => asK .i64 i_25 fun n31 => cond (decide ((n31 : Int) < (l29 : Int)))
 (asK .i64 i_25 fun n32 => ∃ v33, cellH h27 (Addr.add ⟨Array.size h, 0, none⟩ 4) = some v33 ∧
 asSl1 v33 fun a34 l35 c36 => asI i_25 fun n37 => 0 ≤ (n37 : Int) ∧ n37 < (l35 : Int) ∧ ∃ v38, cellH h27 (Addr.add (Addr.add a34 (Int.toNat n37 * 11)) 4) = some v38 ∧
 oneK v38 (∃ (I39 : Value → Value → Hp → Prop) (μ40 : Value → Value → Hp → Nat), I39 more_24 (.int .i64 0) (Array.push h27 (.cells (List.toArray [(.int .i64 (IntKind.wrap .i64 (n32 + 1))), v38]) 3 (0, 0))) ∧ ∀ more_41 k_42 (d43 : Nat → Value) (h44 : Hp), I39 more_41 k_42 h44 →
 asK .i64 k_42 fun n45 => cond (decide ((n45 : Int) < 2))
 (∃ J46 : Value → Hp → Prop,
 (∃ J50 : Value → Hp → Prop,
 (asSl1 v4 fun a54 l55 c56 => asI i_25 fun n57 => 0 ≤ (n57 : Int) ∧ n57 < (l55 : Int) ∧ ∃ v58, cellH h44 (Addr.add a54 (Int.toNat n57 * 1)) = some v58 ∧
 asB v58 fun b59 => cond b59
 (∃ C60, cellsH h44 ⟨Array.size h, 0, none⟩ 5 C60 ∧
 asI k_42 fun n61 => 0 ≤ (n61 : Int) ∧ n61 < (2 : Int) ∧ ∃ v62, cellH h44 (Addr.add ⟨Array.size h27, 0, none⟩ (Int.toNat n61 * 1)) = some v62 ∧
 CallX Try.prog ω 28 [(.agg C60.toArray), i_25, v62] h44 (fun r63 h64 =>
 asB r63 fun b65 => cond b65
 (asI k_42 fun n66 => 0 ≤ (n66 : Int) ∧ n66 < (2 : Int) ∧ ∃ v67, cellH h64 (Addr.add ⟨Array.size h27, 0, none⟩ (Int.toNat n66 * 1)) = some v67 ∧
 asSl1 v4 fun a68 l69 c70 => asI v67 fun n71 => 0 ≤ (n71 : Int) ∧ n71 < (l69 : Int) ∧ ∃ v72, cellH h64 (Addr.add a68 (Int.toNat n71 * 1)) = some v72 ∧
 asB v72 fun b73 => J50 (.bool (!b73)) h64)
 (J50 (.bool false) h64)) X)
 (J50 (.bool false) h44)) ∧
 ∀ t61_51 (d52 : Nat → Value) (h53 : Hp), J50 t61_51 h53 →
 ∃ J74 : Value → Hp → Prop,
 (asB t61_51 fun b78 => cond b78
 (asI k_42 fun n79 => 0 ≤ (n79 : Int) ∧ n79 < (2 : Int) ∧ ∃ v80, cellH h53 (Addr.add ⟨Array.size h27, 0, none⟩ (Int.toNat n79 * 1)) = some v80 ∧
 asSl1 v4 fun a81 l82 c83 => asI v80 fun n84 => 0 ≤ (n84 : Int) ∧ n84 < (l82 : Int) ∧ storeK1 h53 (Addr.add a81 (Int.toNat n84 * 1)) (.bool true) fun h85 =>
 J74 (.bool true) h85)
 (J74 more_41 h53)) ∧
 ∀ more_75 (d76 : Nat → Value) (h77 : Hp), J74 more_75 h77 →
 J46 more_75 h77) ∧
 ∀ more_47 (d48 : Nat → Value) (h49 : Hp), J46 more_47 h49 →
 asK .i64 k_42 fun n86 => I39 more_47 (.int .i64 (IntKind.wrap .i64 (n86 + 1))) h49 ∧ μ40 more_47 (.int .i64 (IntKind.wrap .i64 (n86 + 1))) h49 < μ40 more_41 k_42 h44)
 (asK .i64 i_25 fun n87 => I22 more_41 (.int .i64 (IntKind.wrap .i64 (n87 + 1))) h44 ∧ μ23 more_41 (.int .i64 (IntKind.wrap .i64 (n87 + 1))) h44 < μ23 more_24 i_25 h27)))
 (I16 more_24 h27 ∧ μ17 more_24 h27 < μ17 more_18 h20))
 (∃ (I88 : Value → Value → Hp → Prop) (μ89 : Value → Value → Hp → Nat), I88 (.slice none 0 0) (.int .i64 0) h20 ∧ ∀ out_90 i_91 (d92 : Nat → Value) (h93 : Hp), I88 out_90 i_91 h93 →
 asSl v4 fun a94 l95 c96 => asK .i64 i_91 fun n97 => cond (decide ((n97 : Int) < (l95 : Int)))
 (∃ J98 : Value → Hp → Prop,
 (asSl1 v4 fun a102 l103 c104 => asI i_91 fun n105 => 0 ≤ (n105 : Int) ∧ n105 < (l103 : Int) ∧ ∃ v106, cellH h93 (Addr.add a102 (Int.toNat n105 * 1)) = some v106 ∧
 ∃ J107 : Value → Hp → Prop,
 (asB v106 fun b111 => cond b111
 (oneK i_91 (appK Try.prog 30 (Array.push h93 (.cells (List.toArray [i_91]) 3 (0, 0))) out_90 (.slice (some ⟨Array.size h93, 0, none⟩) 1 1) fun w112 h113 =>
 J107 w112 h113))
 (J107 out_90 h93)) ∧
 ∀ out_108 (d109 : Nat → Value) (h110 : Hp), J107 out_108 h110 →
 J98 out_108 h110) ∧
 ∀ out_99 (d100 : Nat → Value) (h101 : Hp), J98 out_99 h101 →
 asK .i64 i_91 fun n114 => I88 out_99 (.int .i64 (IntKind.wrap .i64 (n114 + 1))) h101 ∧ μ89 out_99 (.int .i64 (IntKind.wrap .i64 (n114 + 1))) h101 < μ89 out_90 i_91 h93)
 (R out_90 h93))
def A_pipewrightref_Reached : Ann :=
 (.two .leaf (.two .leaf (.two (.two .leaf (.join [17, 18] [] (.two .leaf .leaf))) (.two (.two .leaf (.one (.loop [19, 4, 5, 20, 21, 22, 23, 26, 27, 28, 29, 30, 31, 32, 33, 34, 6, 7, 35, 36, 39, 40, 41, 42, 43, 44, 45, 46, 47, 48, 49, 50, 51, 52, 53, 54, 55, 56, 57, 58, 59, 60, 61, 62, 63, 64, 65, 66, 67, 37, 38, 24, 25] [4] (.two (.two .leaf (.two .leaf .leaf)) (.one (.two .leaf (.two .leaf (.one (.loop [20, 21, 22, 23, 26, 27, 28, 29, 30, 31, 32, 33, 34, 6, 7, 35, 36, 39, 40, 41, 42, 43, 44, 45, 46, 47, 48, 49, 50, 51, 52, 53, 54, 55, 56, 57, 58, 59, 60, 61, 62, 63, 64, 65, 66, 67, 4, 37, 38, 24, 25, 5] [4, 5] (.two (.two .leaf (.two .leaf .leaf)) (.two (.one (.two .leaf (.two .leaf (.one (.loop [35, 36, 39, 40, 41, 42, 43, 44, 45, 46, 47, 48, 49, 50, 51, 52, 53, 54, 55, 56, 57, 58, 59, 60, 61, 62, 63, 64, 65, 66, 67, 4, 37, 38, 7] [4, 7] (.two (.two .leaf (.two .leaf .leaf)) (.two (.join [39, 40, 41, 42, 43, 44, 45, 46, 47, 48, 49, 50, 51, 52, 53, 54, 55, 56, 57, 58, 59, 60, 61, 62, 63, 64, 65, 66, 67, 4] [4] (.one (.two (.join [39, 40, 41, 42, 43, 44, 45, 46, 47, 48, 49, 50, 51, 52, 53, 54, 55, 56, 57, 58, 59, 60, 61] [61] (.plan [0, 1, 2, 3, 4, 5, 6, 7, 8, 9, 10, 11, 12, 13, 14, 15, 16, 17, 18, 19, 20, 21, 22])) (.join [62, 63, 64, 65, 66, 67, 4] [4] (.two (.two .leaf .leaf) .leaf))))) .leaf))))))) .leaf))))))))))) (.two .leaf (.two (.two .leaf (.one (.loop [68, 69, 70, 71, 74, 75, 76, 77, 78, 79, 80, 81, 8, 72, 73, 9] [8, 9] (.two (.two .leaf (.two .leaf .leaf)) (.two (.join [74, 75, 76, 77, 78, 79, 80, 81, 8] [8] (.one (.two .leaf (.join [78, 79, 80, 81, 8] [8] (.two .leaf .leaf))))) .leaf))))) (.two .leaf .leaf)))))))
theorem C_pipewrightref_Reached (ω : Amb) (p_p : Value) (h : Hp) (R : Value → Hp → Prop) (X : List PanicEntry → Hp → Prop) (hk : W_pipewrightref_Reached ω p_p h R X) : CallX Try.prog ω 14 [p_p] h R X :=
 callX_of (an := A_pipewrightref_Reached) Try.func14 ((show fnX Try.prog ω A_pipewrightref_Reached Try.f14 [p_p] h R X = W_pipewrightref_Reached ω p_p h R X by kernel_rfl) ▸ hk)

/-- pipewright/paths.Is -/
abbrev n_paths_Is : Nat := 15
def W_paths_Is (ω : Amb) (p_p l_p : Value) (h : Hp) (R : Value → Hp → Prop) (X : List PanicEntry → Hp → Prop) : Prop :=
 asSl l_p fun a0 l1 c2 => ∃ (I3 : Value → Hp → Prop) (μ4 : Value → Hp → Nat), I3 (.int .i64 0) (Array.push h (.cells (Value.cells p_p) 26 (0, 0))) ∧ ∀ t9_5 (d6 : Nat → Value) (h7 : Hp), I3 t9_5 h7 →
 asK .i64 t9_5 fun n8 => cond (decide ((n8 : Int) < (l1 : Int)))
 (asSl1 l_p fun a9 l10 c11 => asI t9_5 fun n12 => 0 ≤ (n12 : Int) ∧ n12 < (l10 : Int) ∧ ∃ v13, cellH h7 (Addr.add a9 (Int.toNat n12 * 1)) = some v13 ∧
 ∃ J14 : Value → Hp → Prop,
 (asK .i64 v13 fun n18 => cond (decide ((n18 : Int) < 0))
 (J14 (.bool true) h7)
 (∃ v19, cellH h7 (Addr.add ⟨Array.size h, 0, none⟩ 4) = some v19 ∧
 asSl v19 fun a20 l21 c22 => asK .i64 v13 fun n23 => cond (decide ((n23 : Int) ≥ (l21 : Int)))
 (J14 (.bool true) h7)
 (asK .i64 t9_5 fun n24 => cond (decide ((n24 : Int) > 0))
 (∃ C25, cellsH h7 ⟨Array.size h, 0, none⟩ 5 C25 ∧
 asK .i64 t9_5 fun n26 => asSl1 l_p fun a27 l28 c29 => 0 ≤ ((IntKind.wrap .i64 (n26 - 1)) : Int) ∧ (IntKind.wrap .i64 (n26 - 1)) < (l28 : Int) ∧ ∃ v30, cellH h7 (Addr.add a27 (Int.toNat (IntKind.wrap .i64 (n26 - 1)) * 1)) = some v30 ∧
 CallX Try.prog ω 11 [(.agg C25.toArray), v30] h7 (fun r31 h32 =>
 CallX Try.prog ω 30 [r31, v13] h32 (fun r33 h34 =>
 asB r33 fun b35 => J14 (.bool (!b35)) h34) X) X)
 (J14 (.bool false) h7)))) ∧
 ∀ t38_15 (d16 : Nat → Value) (h17 : Hp), J14 t38_15 h17 →
 asB t38_15 fun b36 => cond b36
 (R (.bool false) h17)
 (asK .i64 t9_5 fun n37 => I3 (.int .i64 (IntKind.wrap .i64 (n37 + 1))) h17 ∧ μ4 (.int .i64 (IntKind.wrap .i64 (n37 + 1))) h17 < μ4 t9_5 h7))
 (asSl l_p fun a38 l39 c40 => R (.bool (decide (((l39 : Int) : Int) > 0))) h7)
def A_paths_Is : Ann :=
 (.two .leaf (.two (.two .leaf (.one (.loop [10, 11, 12, 13, 5, 6, 14, 15, 16, 17, 18, 19, 20, 21, 22, 23, 24, 25, 26, 27, 28, 29, 30, 31, 32, 33, 34, 35, 36, 37, 38, 4, 39, 9] [9] (.two .leaf (.two (.two .leaf .leaf) (.two (.one (.two .leaf (.two (.join [14, 15, 16, 17, 18, 19, 20, 21, 22, 23, 24, 25, 26, 27, 28, 29, 30, 31, 32, 33, 34, 35, 36, 37, 38] [38] (.plan [0, 1, 2, 3, 4, 5, 6, 7, 8, 9, 10, 11, 12, 13, 14, 15, 16, 17, 18, 20, 19, 21, 22, 23, 24])) (.two (.two .leaf .leaf) .leaf)))) .leaf)))))) (.two .leaf .leaf)))
theorem C_paths_Is (ω : Amb) (p_p l_p : Value) (h : Hp) (R : Value → Hp → Prop) (X : List PanicEntry → Hp → Prop) (hk : W_paths_Is ω p_p l_p h R X) : CallX Try.prog ω 15 [p_p, l_p] h R X :=
 callX_of (an := A_paths_Is) Try.func15 ((show fnX Try.prog ω A_paths_Is Try.f15 [p_p, l_p] h R X = W_paths_Is ω p_p l_p h R X by kernel_rfl) ▸ hk)

/-- pipewright/pipewrightref.IsWay -/
abbrev n_pipewrightref_IsWay : Nat := 16
def W_pipewrightref_IsWay (ω : Amb) (p_p l_p : Value) (h : Hp) (R : Value → Hp → Prop) (X : List PanicEntry → Hp → Prop) : Prop :=
 ∃ β0 : Bool,
 (asSl l_p fun a2 l3 c4 => cond ((l3 : Int) == (0 : Int))
 (((.bool true) : Value) = .bool β0 ∧ (Array.push h (.cells (Value.cells p_p) 26 (0, 0))) = (Array.push h (.cells (Value.cells p_p) 26 (0, 0))))
 (asSl1 l_p fun a5 l6 c7 => 0 ≤ (0 : Int) ∧ 0 < (l6 : Int) ∧ ∃ v8, cellH (Array.push h (.cells (Value.cells p_p) 26 (0, 0))) (Addr.add a5 (Int.toNat 0 * 1)) = some v8 ∧
 asK .i64 v8 fun n9 => cond (decide ((n9 : Int) < 0))
 (((.bool true) : Value) = .bool β0 ∧ (Array.push h (.cells (Value.cells p_p) 26 (0, 0))) = (Array.push h (.cells (Value.cells p_p) 26 (0, 0))))
 (asSl1 l_p fun a10 l11 c12 => 0 ≤ (0 : Int) ∧ 0 < (l11 : Int) ∧ ∃ v13, cellH (Array.push h (.cells (Value.cells p_p) 26 (0, 0))) (Addr.add a10 (Int.toNat 0 * 1)) = some v13 ∧
 ∃ v14, cellH (Array.push h (.cells (Value.cells p_p) 26 (0, 0))) (Addr.add ⟨Array.size h, 0, none⟩ 4) = some v14 ∧
 asSl v14 fun a15 l16 c17 => asK .i64 v13 fun n18 => ((.bool (decide ((n18 : Int) ≥ (l16 : Int)))) : Value) = .bool β0 ∧ (Array.push h (.cells (Value.cells p_p) 26 (0, 0))) = (Array.push h (.cells (Value.cells p_p) 26 (0, 0)))))) ∧
 ∀ d1 : Nat → Value,
 cond β0
 (R (.bool false) (Array.push h (.cells (Value.cells p_p) 26 (0, 0))))
 (∃ (I19 : Value → Hp → Prop) (μ20 : Value → Hp → Nat), I19 (.int .i64 1) (Array.push h (.cells (Value.cells p_p) 26 (0, 0))) ∧ ∀ i_21 (d22 : Nat → Value) (h23 : Hp), I19 i_21 h23 →
 asSl l_p fun a24 l25 c26 => asK .i64 i_21 fun n27 => cond (decide ((n27 : Int) < (l25 : Int)))
 (∃ C28, cellsH h23 ⟨Array.size h, 0, none⟩ 5 C28 ∧
 asK .i64 i_21 fun n29 => asSl1 l_p fun a30 l31 c32 => 0 ≤ ((IntKind.wrap .i64 (n29 - 1)) : Int) ∧ (IntKind.wrap .i64 (n29 - 1)) < (l31 : Int) ∧ ∃ v33, cellH h23 (Addr.add a30 (Int.toNat (IntKind.wrap .i64 (n29 - 1)) * 1)) = some v33 ∧
 asSl1 l_p fun a34 l35 c36 => asI i_21 fun n37 => 0 ≤ (n37 : Int) ∧ n37 < (l35 : Int) ∧ ∃ v38, cellH h23 (Addr.add a34 (Int.toNat n37 * 1)) = some v38 ∧
 CallX Try.prog ω 28 [(.agg C28.toArray), v33, v38] h23 (fun r39 h40 =>
 asB r39 fun b41 => cond (!b41)
 (R (.bool false) h40)
 (asK .i64 i_21 fun n42 => I19 (.int .i64 (IntKind.wrap .i64 (n42 + 1))) h40 ∧ μ20 (.int .i64 (IntKind.wrap .i64 (n42 + 1))) h40 < μ20 i_21 h23)) X)
 (R (.bool true) h23))
def A_pipewrightref_IsWay : Ann :=
 (.two .leaf (.two (.two (.jb [6, 7, 8, 9, 10, 11, 12, 13, 14, 15, 16, 17, 18, 19, 20, 21, 22, 23] 23 (.plan [0, 1, 2, 3, 4, 5, 6, 7, 8, 9, 10, 11, 12, 13, 14, 15, 16, 17])) (.two (.two .leaf .leaf) .leaf)) (.two (.two .leaf (.one (.loop [24, 25, 26, 27, 30, 31, 32, 33, 34, 35, 36, 37, 38, 39, 40, 41, 4, 28, 29, 5] [5] (.two (.two .leaf (.two .leaf .leaf)) (.two (.one (.two (.plan [0, 1, 2, 3, 4, 5, 6, 7, 8, 9, 10, 11]) (.two (.two .leaf .leaf) .leaf))) .leaf))))) (.two .leaf .leaf))))
theorem C_pipewrightref_IsWay (ω : Amb) (p_p l_p : Value) (h : Hp) (R : Value → Hp → Prop) (X : List PanicEntry → Hp → Prop) (hk : W_pipewrightref_IsWay ω p_p l_p h R X) : CallX Try.prog ω 16 [p_p, l_p] h R X :=
 callX_of (an := A_pipewrightref_IsWay) Try.func16 ((show fnX Try.prog ω A_pipewrightref_IsWay Try.f16 [p_p, l_p] h R X = W_pipewrightref_IsWay ω p_p l_p h R X by kernel_rfl) ▸ hk)

/-- pipewright/pipewrightlaw.above -/
abbrev n_pipewrightlaw_above : Nat := 17
def W_pipewrightlaw_above (ω : Amb) (a_p b_p : Value) (h : Hp) (R : Value → Hp → Prop) (X : List PanicEntry → Hp → Prop) : Prop :=
 ∃ (I0 : Value → Hp → Prop) (μ1 : Value → Hp → Nat), I0 (.int .i64 0) h ∧ ∀ i_2 (d3 : Nat → Value) (h4 : Hp), I0 i_2 h4 →
 ∃ β5 : Bool,
 (asSl a_p fun a7 l8 c9 => asK .i64 i_2 fun n10 => cond (decide ((n10 : Int) < (l8 : Int)))
 (asSl b_p fun a11 l12 c13 => asK .i64 i_2 fun n14 => ((.bool (decide ((n14 : Int) < (l12 : Int)))) : Value) = .bool β5 ∧ h4 = h4)
 (((.bool false) : Value) = .bool β5 ∧ h4 = h4)) ∧
 ∀ d6 : Nat → Value,
 cond β5
 (asSl1 a_p fun a15 l16 c17 => asI i_2 fun n18 => 0 ≤ (n18 : Int) ∧ n18 < (l16 : Int) ∧ ∃ v19, cellH h4 (Addr.add a15 (Int.toNat n18 * 1)) = some v19 ∧
 asSl1 b_p fun a20 l21 c22 => asI i_2 fun n23 => 0 ≤ (n23 : Int) ∧ n23 < (l21 : Int) ∧ ∃ v24, cellH h4 (Addr.add a20 (Int.toNat n23 * 1)) = some v24 ∧
 asK .i64 v19 fun n25 => asK .i64 v24 fun n26 => cond (n25 != (n26 : Int))
 (asSl1 a_p fun a27 l28 c29 => asI i_2 fun n30 => 0 ≤ (n30 : Int) ∧ n30 < (l28 : Int) ∧ ∃ v31, cellH h4 (Addr.add a27 (Int.toNat n30 * 1)) = some v31 ∧
 asSl1 b_p fun a32 l33 c34 => asI i_2 fun n35 => 0 ≤ (n35 : Int) ∧ n35 < (l33 : Int) ∧ ∃ v36, cellH h4 (Addr.add a32 (Int.toNat n35 * 1)) = some v36 ∧
 asK .i64 v31 fun n37 => asK .i64 v36 fun n38 => R (.bool (decide ((n37 : Int) > n38))) h4)
 (asK .i64 i_2 fun n39 => I0 (.int .i64 (IntKind.wrap .i64 (n39 + 1))) h4 ∧ μ1 (.int .i64 (IntKind.wrap .i64 (n39 + 1))) h4 < μ1 i_2 h4))
 (R (.bool false) h4)
def A_pipewrightlaw_above : Ann :=
 (.two .leaf (.two (.two .leaf (.one (.loop [6, 7, 8, 9, 10, 11, 12, 13, 14, 15, 18, 19, 20, 21, 22, 23, 24, 25, 26, 27, 28, 29, 30, 31, 32, 33, 34, 35, 4, 16, 17, 5] [5] (.two (.two (.jb [6, 7, 8, 9, 10, 11, 12, 13, 14, 15] 15 .leaf) (.two .leaf .leaf)) (.two (.one (.two (.plan [0, 1, 2, 3, 4, 5, 6, 7, 8]) (.two (.two (.plan [0, 1, 2, 3, 4, 5, 6, 7, 8, 9]) .leaf) .leaf))) .leaf))))) (.two .leaf .leaf)))
theorem C_pipewrightlaw_above (ω : Amb) (a_p b_p : Value) (h : Hp) (R : Value → Hp → Prop) (X : List PanicEntry → Hp → Prop) (hk : W_pipewrightlaw_above ω a_p b_p h R X) : CallX Try.prog ω 17 [a_p, b_p] h R X :=
 callX_of (an := A_pipewrightlaw_above) Try.func17 ((show fnX Try.prog ω A_pipewrightlaw_above Try.f17 [a_p, b_p] h R X = W_pipewrightlaw_above ω a_p b_p h R X by kernel_rfl) ▸ hk)

/-- pipewright/paths.behind -/
abbrev n_paths_behind : Nat := 18
def W_paths_behind (ω : Amb) (p_p : Value) (h : Hp) (R : Value → Hp → Prop) (X : List PanicEntry → Hp → Prop) : Prop :=
 ∃ v0, cellH (Array.push h (.cells (Value.cells p_p) 26 (0, 0))) (Addr.add ⟨Array.size h, 0, none⟩ 4) = some v0 ∧
 asSl v0 fun a1 l2 c3 => makeK Try.prog 46 (Array.push h (.cells (Value.cells p_p) 26 (0, 0))) (.int .i64 (l2 : Int)) (.int .i64 (l2 : Int)) fun v4 h5 =>
 ∃ v6, cellH h5 (Addr.add ⟨Array.size h, 0, none⟩ 4) = some v6 ∧
 asSl v6 fun a7 l8 c9 => ∃ (I10 : Value → Hp → Prop) (μ11 : Value → Hp → Nat), I10 (.int .i64 0) h5 ∧ ∀ t14_12 (d13 : Nat → Value) (h14 : Hp), I10 t14_12 h14 →
 asK .i64 t14_12 fun n15 => cond (decide ((n15 : Int) < (l8 : Int)))
 (∃ C16, cellsH h14 ⟨Array.size h, 0, none⟩ 5 C16 ∧
 CallX Try.prog ω 11 [(.agg C16.toArray), t14_12] h14 (fun r17 h18 =>
 asSl r17 fun a19 l20 c21 => ∃ (I22 : Value → Hp → Prop) (μ23 : Value → Hp → Nat), I22 (.int .i64 0) h18 ∧ ∀ t21_24 (d25 : Nat → Value) (h26 : Hp), I22 t21_24 h26 →
 asK .i64 t21_24 fun n27 => cond (decide ((n27 : Int) < (l20 : Int)))
 (asSl1 r17 fun a28 l29 c30 => asI t21_24 fun n31 => 0 ≤ (n31 : Int) ∧ n31 < (l29 : Int) ∧ ∃ v32, cellH h26 (Addr.add a28 (Int.toNat n31 * 1)) = some v32 ∧
 asSl1 v4 fun a33 l34 c35 => asI v32 fun n36 => 0 ≤ (n36 : Int) ∧ n36 < (l34 : Int) ∧ ∃ v37, cellH h26 (Addr.add a33 (Int.toNat n36 * 1)) = some v37 ∧
 oneK t14_12 (appK Try.prog 30 (Array.push h26 (.cells (List.toArray [t14_12]) 3 (0, 0))) v37 (.slice (some ⟨Array.size h26, 0, none⟩) 1 1) fun w38 h39 =>
 asSl1 v4 fun a40 l41 c42 => asI v32 fun n43 => 0 ≤ (n43 : Int) ∧ n43 < (l41 : Int) ∧ oneK w38 (storeK1 h39 (Addr.add a40 (Int.toNat n43 * 1)) w38 fun h44 =>
 asK .i64 t21_24 fun n45 => I22 (.int .i64 (IntKind.wrap .i64 (n45 + 1))) h44 ∧ μ23 (.int .i64 (IntKind.wrap .i64 (n45 + 1))) h44 < μ23 t21_24 h26)))
 (asK .i64 t14_12 fun n46 => I10 (.int .i64 (IntKind.wrap .i64 (n46 + 1))) h26 ∧ μ11 (.int .i64 (IntKind.wrap .i64 (n46 + 1))) h26 < μ11 t14_12 h14)) X)
 (R v4 h14)
def A_paths_behind : Ann :=
 (.two .leaf (.two .leaf (.two (.two .leaf (.one (.loop [15, 16, 4, 17, 18, 19, 20, 21, 22, 23, 24, 6, 25, 26, 27, 28, 29, 30, 31, 32, 33, 34, 35, 36, 14] [14] (.two .leaf (.two (.two .leaf .leaf) (.two (.one (.two .leaf (.two .leaf (.one (.loop [22, 23, 24, 6, 25, 26, 27, 28, 29, 30, 31, 32, 33, 34, 35, 21] [21] (.two .leaf (.two (.two .leaf .leaf) (.two (.one (.two .leaf .leaf)) .leaf)))))))) .leaf)))))) (.two .leaf .leaf))))
theorem C_paths_behind (ω : Amb) (p_p : Value) (h : Hp) (R : Value → Hp → Prop) (X : List PanicEntry → Hp → Prop) (hk : W_paths_behind ω p_p h R X) : CallX Try.prog ω 18 [p_p] h R X :=
 callX_of (an := A_paths_behind) Try.func18 ((show fnX Try.prog ω A_paths_behind Try.f18 [p_p] h R X = W_paths_behind ω p_p h R X by kernel_rfl) ▸ hk)

/-- pipewright/paths.far -/
abbrev n_paths_far : Nat := 19
def W_paths_far (ω : Amb) (n_p from_p ahead_p : Value) (h : Hp) (R : Value → Hp → Prop) (X : List PanicEntry → Hp → Prop) : Prop :=
 CallX Try.prog ω 31 [(.slice (some ⟨Array.size h, 0, none⟩) 1 1), n_p] (Array.push h (.cells (List.toArray [(.int .i64 (-1))]) 3 (0, 0))) (fun r0 h1 =>
 ∃ β2 : Bool,
 (asK .i64 from_p fun n4 => cond (decide ((n4 : Int) < 0))
 (((.bool true) : Value) = .bool β2 ∧ h1 = h1)
 (asK .i64 from_p fun n5 => asK .i64 n_p fun n6 => ((.bool (decide ((n5 : Int) ≥ n6))) : Value) = .bool β2 ∧ h1 = h1)) ∧
 ∀ d3 : Nat → Value,
 cond β2
 (R r0 h1)
 (asSl1 r0 fun a7 l8 c9 => asI from_p fun n10 => 0 ≤ (n10 : Int) ∧ n10 < (l8 : Int) ∧ storeK1 h1 (Addr.add a7 (Int.toNat n10 * 1)) (.int .i64 0) fun h11 =>
 oneK from_p (∃ (I12 : Value → Hp → Prop) (μ13 : Value → Hp → Nat), I12 (.slice (some ⟨Array.size h11, 0, none⟩) 1 1) (Array.push h11 (.cells (List.toArray [from_p]) 3 (0, 0))) ∧ ∀ l_14 (d15 : Nat → Value) (h16 : Hp), I12 l_14 h16 →
 asSl l_14 fun a17 l18 c19 => cond (decide (((l18 : Int) : Int) > 0))
 (asSl1 l_14 fun a20 l21 c22 => 0 ≤ (0 : Int) ∧ 0 < (l21 : Int) ∧ ∃ v23, cellH h16 (Addr.add a20 (Int.toNat 0 * 1)) = some v23 ∧
 callK Try.prog ω ahead_p [v23] h16 (fun r24 h25 =>
 asSl r24 fun a26 l27 c28 => ∃ (I29 : Value → Value → Hp → Prop) (μ30 : Value → Value → Hp → Nat), I29 l_14 (.int .i64 0) h25 ∧ ∀ l_31 t38_32 (d33 : Nat → Value) (h34 : Hp), I29 l_31 t38_32 h34 →
 asK .i64 t38_32 fun n35 => cond (decide ((n35 : Int) < (l27 : Int)))
 (∃ J36 : Value → Hp → Prop,
 (asSl1 r24 fun a40 l41 c42 => asI t38_32 fun n43 => 0 ≤ (n43 : Int) ∧ n43 < (l41 : Int) ∧ ∃ v44, cellH h34 (Addr.add a40 (Int.toNat n43 * 1)) = some v44 ∧
 asSl1 r0 fun a45 l46 c47 => asI v44 fun n48 => 0 ≤ (n48 : Int) ∧ n48 < (l46 : Int) ∧ ∃ v49, cellH h34 (Addr.add a45 (Int.toNat n48 * 1)) = some v49 ∧
 asK .i64 v49 fun n50 => ∃ J51 : Value → Hp → Prop,
 (cond (decide ((n50 : Int) < 0))
 (asSl1 l_31 fun a55 l56 c57 => 0 ≤ (0 : Int) ∧ 0 < (l56 : Int) ∧ ∃ v58, cellH h34 (Addr.add a55 (Int.toNat 0 * 1)) = some v58 ∧
 asSl1 r0 fun a59 l60 c61 => asI v58 fun n62 => 0 ≤ (n62 : Int) ∧ n62 < (l60 : Int) ∧ ∃ v63, cellH h34 (Addr.add a59 (Int.toNat n62 * 1)) = some v63 ∧
 asK .i64 v63 fun n64 => asSl1 r0 fun a65 l66 c67 => asI v44 fun n68 => 0 ≤ (n68 : Int) ∧ n68 < (l66 : Int) ∧ storeK1 h34 (Addr.add a65 (Int.toNat n68 * 1)) (.int .i64 (IntKind.wrap .i64 (n64 + 1))) fun h69 =>
 oneK v44 (appK Try.prog 30 (Array.push h69 (.cells (List.toArray [v44]) 3 (0, 0))) l_31 (.slice (some ⟨Array.size h69, 0, none⟩) 1 1) fun w70 h71 =>
 J51 w70 h71))
 (J51 l_31 h34)) ∧
 ∀ l_52 (d53 : Nat → Value) (h54 : Hp), J51 l_52 h54 →
 J36 l_52 h54) ∧
 ∀ l_37 (d38 : Nat → Value) (h39 : Hp), J36 l_37 h39 →
 asK .i64 t38_32 fun n72 => I29 l_37 (.int .i64 (IntKind.wrap .i64 (n72 + 1))) h39 ∧ μ30 l_37 (.int .i64 (IntKind.wrap .i64 (n72 + 1))) h39 < μ30 l_31 t38_32 h34)
 (asSl l_31 fun a73 l74 c75 => 0 ≤ (1 : Int) ∧ (1 : Int) ≤ (l74 : Int) ∧ (l74 : Int) ≤ (c75 : Int) ∧ I12 (.slice (if c75 = Int.toNat 1 then a73 else Option.map (fun y => Addr.add y (Int.toNat 1 * 1)) a73) (Int.toNat (l74 : Int) - Int.toNat 1) (c75 - Int.toNat 1)) h34 ∧ μ13 (.slice (if c75 = Int.toNat 1 then a73 else Option.map (fun y => Addr.add y (Int.toNat 1 * 1)) a73) (Int.toNat (l74 : Int) - Int.toNat 1) (c75 - Int.toNat 1)) h34 < μ13 l_14 h16)) X)
 (R r0 h16)))) X
def A_paths_far : Ann :=
 (.two .leaf (.two .leaf (.two (.two (.jb [14, 15, 16, 17, 18, 19, 20] 20 .leaf) (.two (.two .leaf .leaf) .leaf)) (.two .leaf (.two (.two .leaf (.one (.loop [27, 28, 29, 32, 33, 34, 35, 36, 37, 38, 39, 40, 41, 10, 42, 43, 44, 45, 46, 47, 48, 49, 50, 51, 52, 53, 54, 55, 56, 57, 58, 59, 60, 8, 61, 30, 31] [8] (.two (.two .leaf (.two .leaf .leaf)) (.two (.one (.two .leaf (.one (.loop [39, 40, 41, 10, 42, 43, 44, 45, 46, 47, 48, 49, 50, 51, 52, 53, 54, 55, 56, 57, 58, 59, 60, 8, 61, 38] [8, 38] (.two .leaf (.two (.two .leaf .leaf) (.two (.join [40, 41, 10, 42, 43, 44, 45, 46, 47, 48, 49, 50, 51, 52, 53, 54, 55, 56, 57, 58, 59, 60, 8] [8] (.one (.two .leaf (.two .leaf (.join [47, 48, 49, 50, 51, 52, 53, 54, 55, 56, 57, 58, 59, 60, 8] [8] (.two (.two .leaf .leaf) .leaf)))))) .leaf))))))) .leaf))))) (.two .leaf .leaf))))))
theorem C_paths_far (ω : Amb) (n_p from_p ahead_p : Value) (h : Hp) (R : Value → Hp → Prop) (X : List PanicEntry → Hp → Prop) (hk : W_paths_far ω n_p from_p ahead_p h R X) : CallX Try.prog ω 19 [n_p, from_p, ahead_p] h R X :=
 callX_of (an := A_paths_far) Try.func19 ((show fnX Try.prog ω A_paths_far Try.f19 [n_p, from_p, ahead_p] h R X = W_paths_far ω n_p from_p ahead_p h R X by kernel_rfl) ▸ hk)

/-- pipewright/paths.Path$1 -/
abbrev n_paths_Path_1 : Nat := 20
def W_paths_Path_1 (ω : Amb) (i_p t1_p : Value) (h : Hp) (R : Value → Hp → Prop) (X : List PanicEntry → Hp → Prop) : Prop :=
 asP t1_p fun p0 =>
 ∃ v1, cellH h p0 = some v1 ∧
 asSl1 v1 fun a2 l3 c4 => asI i_p fun n5 => 0 ≤ (n5 : Int) ∧ n5 < (l3 : Int) ∧ ∃ v6, cellH h (Addr.add a2 (Int.toNat n5 * 1)) = some v6 ∧
 R v6 h
def A_paths_Path_1 : Ann :=
 (.two .leaf (.two .leaf .leaf))
theorem C_paths_Path_1 (ω : Amb) (i_p t1_p : Value) (h : Hp) (R : Value → Hp → Prop) (X : List PanicEntry → Hp → Prop) (hk : W_paths_Path_1 ω i_p t1_p h R X) : CallX Try.prog ω 20 [i_p, t1_p] h R X :=
 callX_of (an := A_paths_Path_1) Try.func20 ((show fnX Try.prog ω A_paths_Path_1 Try.f20 [i_p, t1_p] h R X = W_paths_Path_1 ω i_p t1_p h R X by kernel_rfl) ▸ hk)

/-- slices.IndexFunc[[]int,int] -/
abbrev n_slices_IndexFunc_sl_int_int : Nat := 21
def W_slices_IndexFunc_sl_int_int (ω : Amb) (s_p f_p : Value) (h : Hp) (R : Value → Hp → Prop) (X : List PanicEntry → Hp → Prop) : Prop :=
 asSl s_p fun a0 l1 c2 => ∃ (I3 : Value → Hp → Prop) (μ4 : Value → Hp → Nat), I3 (.int .i64 0) h ∧ ∀ t8_5 (d6 : Nat → Value) (h7 : Hp), I3 t8_5 h7 →
 asK .i64 t8_5 fun n8 => cond (decide ((n8 : Int) < (l1 : Int)))
 (asSl1 s_p fun a9 l10 c11 => asI t8_5 fun n12 => 0 ≤ (n12 : Int) ∧ n12 < (l10 : Int) ∧ ∃ v13, cellH h7 (Addr.add a9 (Int.toNat n12 * 1)) = some v13 ∧
 callK Try.prog ω f_p [v13] h7 (fun r14 h15 =>
 asB r14 fun b16 => cond b16
 (R t8_5 h15)
 (asK .i64 t8_5 fun n17 => I3 (.int .i64 (IntKind.wrap .i64 (n17 + 1))) h15 ∧ μ4 (.int .i64 (IntKind.wrap .i64 (n17 + 1))) h15 < μ4 t8_5 h7)) X)
 (R (.int .i64 (-1)) h7)
def A_slices_IndexFunc_sl_int_int : Ann :=
 (.two .leaf (.two (.two .leaf (.one (.loop [9, 10, 5, 11, 12, 13, 14, 15, 16, 17, 4, 18, 8] [8] (.two .leaf (.two (.two .leaf .leaf) (.two (.one (.two .leaf (.two .leaf (.two (.two .leaf .leaf) .leaf)))) .leaf)))))) (.two .leaf .leaf)))
theorem C_slices_IndexFunc_sl_int_int (ω : Amb) (s_p f_p : Value) (h : Hp) (R : Value → Hp → Prop) (X : List PanicEntry → Hp → Prop) (hk : W_slices_IndexFunc_sl_int_int ω s_p f_p h R X) : CallX Try.prog ω 21 [s_p, f_p] h R X :=
 callX_of (an := A_slices_IndexFunc_sl_int_int) Try.func21 ((show fnX Try.prog ω A_slices_IndexFunc_sl_int_int Try.f21 [s_p, f_p] h R X = W_slices_IndexFunc_sl_int_int ω s_p f_p h R X by kernel_rfl) ▸ hk)

/-- pipewright/paths.Path$2 -/
abbrev n_paths_Path_2 : Nat := 22
def W_paths_Path_2 (ω : Amb) (k_p t1_p t2_p : Value) (h : Hp) (R : Value → Hp → Prop) (X : List PanicEntry → Hp → Prop) : Prop :=
 asP t1_p fun p0 =>
 ∃ v1, cellH h p0 = some v1 ∧
 asSl1 v1 fun a2 l3 c4 => asI k_p fun n5 => 0 ≤ (n5 : Int) ∧ n5 < (l3 : Int) ∧ ∃ v6, cellH h (Addr.add a2 (Int.toNat n5 * 1)) = some v6 ∧
 asP t1_p fun p7 =>
 ∃ v8, cellH h p7 = some v8 ∧
 asP t2_p fun p9 =>
 ∃ v10, cellH h p9 = some v10 ∧
 asSl1 v8 fun a11 l12 c13 => asI v10 fun n14 => 0 ≤ (n14 : Int) ∧ n14 < (l12 : Int) ∧ ∃ v15, cellH h (Addr.add a11 (Int.toNat n14 * 1)) = some v15 ∧
 asK .i64 v15 fun n16 => asK .i64 v6 fun n17 => R (.bool (n17 == ((IntKind.wrap .i64 (n16 - 1)) : Int))) h
def A_paths_Path_2 : Ann :=
 (.two .leaf (.two (.plan [0, 1, 2, 3, 4, 5, 6, 7, 8, 9, 10]) .leaf))
theorem C_paths_Path_2 (ω : Amb) (k_p t1_p t2_p : Value) (h : Hp) (R : Value → Hp → Prop) (X : List PanicEntry → Hp → Prop) (hk : W_paths_Path_2 ω k_p t1_p t2_p h R X) : CallX Try.prog ω 22 [k_p, t1_p, t2_p] h R X :=
 callX_of (an := A_paths_Path_2) Try.func22 ((show fnX Try.prog ω A_paths_Path_2 Try.f22 [k_p, t1_p, t2_p] h R X = W_paths_Path_2 ω k_p t1_p t2_p h R X by kernel_rfl) ▸ hk)

/-- pipewright/pipewrightref.Away -/
abbrev n_pipewrightref_Away : Nat := 23
def W_pipewrightref_Away (ω : Amb) (p_p to_p : Value) (h : Hp) (R : Value → Hp → Prop) (X : List PanicEntry → Hp → Prop) : Prop :=
 ∃ v0, cellH (Array.push h (.cells (Value.cells p_p) 26 (0, 0))) (Addr.add ⟨Array.size h, 0, none⟩ 4) = some v0 ∧
 asSl v0 fun a1 l2 c3 => makeK Try.prog 30 (Array.push h (.cells (Value.cells p_p) 26 (0, 0))) (.int .i64 (l2 : Int)) (.int .i64 (l2 : Int)) fun v4 h5 =>
 ∃ (I6 : Value → Hp → Prop) (μ7 : Value → Hp → Nat), I6 (.int .i64 0) h5 ∧ ∀ i_8 (d9 : Nat → Value) (h10 : Hp), I6 i_8 h10 →
 asSl v4 fun a11 l12 c13 => asK .i64 i_8 fun n14 => cond (decide ((n14 : Int) < (l12 : Int)))
 (asSl1 v4 fun a15 l16 c17 => asI i_8 fun n18 => 0 ≤ (n18 : Int) ∧ n18 < (l16 : Int) ∧ storeK1 h10 (Addr.add a15 (Int.toNat n18 * 1)) (.int .i64 1073741824) fun h19 =>
 asK .i64 i_8 fun n20 => I6 (.int .i64 (IntKind.wrap .i64 (n20 + 1))) h19 ∧ μ7 (.int .i64 (IntKind.wrap .i64 (n20 + 1))) h19 < μ7 i_8 h10)
 (∃ β21 : Bool,
 (asK .i64 to_p fun n23 => cond (decide ((n23 : Int) ≥ 0))
 (asSl v4 fun a24 l25 c26 => asK .i64 to_p fun n27 => ((.bool (decide ((n27 : Int) < (l25 : Int)))) : Value) = .bool β21 ∧ h10 = h10)
 (((.bool false) : Value) = .bool β21 ∧ h10 = h10)) ∧
 ∀ d22 : Nat → Value,
 ∃ J28 : Hp → Prop,
 (cond β21
 (asSl1 v4 fun a31 l32 c33 => asI to_p fun n34 => 0 ≤ (n34 : Int) ∧ n34 < (l32 : Int) ∧ storeK1 h10 (Addr.add a31 (Int.toNat n34 * 1)) (.int .i64 0) fun h35 =>
 J28 h35)
 (J28 h10)) ∧
 ∀  (d29 : Nat → Value) (h30 : Hp), J28 h30 →
 ∃ (I36 : Value → Hp → Prop) (μ37 : Value → Hp → Nat), I36 (.bool true) h30 ∧ ∀ more_38 (d39 : Nat → Value) (h40 : Hp), I36 more_38 h40 →
 asB more_38 fun b41 => cond b41
 (∃ (I42 : Value → Value → Hp → Prop) (μ43 : Value → Value → Hp → Nat), I42 (.bool false) (.int .i64 0) h40 ∧ ∀ more_44 i_45 (d46 : Nat → Value) (h47 : Hp), I42 more_44 i_45 h47 →
 asSl v4 fun a48 l49 c50 => asK .i64 i_45 fun n51 => cond (decide ((n51 : Int) < (l49 : Int)))
 (asK .i64 i_45 fun n52 => ∃ v53, cellH h47 (Addr.add ⟨Array.size h, 0, none⟩ 4) = some v53 ∧
 asSl1 v53 fun a54 l55 c56 => asI i_45 fun n57 => 0 ≤ (n57 : Int) ∧ n57 < (l55 : Int) ∧ ∃ v58, cellH h47 (Addr.add (Addr.add a54 (Int.toNat n57 * 11)) 4) = some v58 ∧
 oneK v58 (∃ (I59 : Value → Value → Hp → Prop) (μ60 : Value → Value → Hp → Nat), I59 more_44 (.int .i64 0) (Array.push h47 (.cells (List.toArray [(.int .i64 (IntKind.wrap .i64 (n52 + 1))), v58]) 3 (0, 0))) ∧ ∀ more_61 k_62 (d63 : Nat → Value) (h64 : Hp), I59 more_61 k_62 h64 →
 asK .i64 k_62 fun n65 => cond (decide ((n65 : Int) < 2))
 (∃ J66 : Value → Hp → Prop,
 (∃ J70 : Value → Hp → Prop,
 (∃ C74, cellsH h64 ⟨Array.size h, 0, none⟩ 5 C74 ∧
 asI k_62 fun n75 => 0 ≤ (n75 : Int) ∧ n75 < (2 : Int) ∧ ∃ v76, cellH h64 (Addr.add ⟨Array.size h47, 0, none⟩ (Int.toNat n75 * 1)) = some v76 ∧
 CallX Try.prog ω 28 [(.agg C74.toArray), i_45, v76] h64 (fun r77 h78 =>
 asB r77 fun b79 => cond b79
 (asI k_62 fun n80 => 0 ≤ (n80 : Int) ∧ n80 < (2 : Int) ∧ ∃ v81, cellH h78 (Addr.add ⟨Array.size h47, 0, none⟩ (Int.toNat n80 * 1)) = some v81 ∧
 asSl1 v4 fun a82 l83 c84 => asI v81 fun n85 => 0 ≤ (n85 : Int) ∧ n85 < (l83 : Int) ∧ ∃ v86, cellH h78 (Addr.add a82 (Int.toNat n85 * 1)) = some v86 ∧
 asK .i64 v86 fun n87 => asSl1 v4 fun a88 l89 c90 => asI i_45 fun n91 => 0 ≤ (n91 : Int) ∧ n91 < (l89 : Int) ∧ ∃ v92, cellH h78 (Addr.add a88 (Int.toNat n91 * 1)) = some v92 ∧
 asK .i64 v92 fun n93 => J70 (.bool (decide (((IntKind.wrap .i64 (n87 + 1)) : Int) < n93))) h78)
 (J70 (.bool false) h78)) X) ∧
 ∀ t76_71 (d72 : Nat → Value) (h73 : Hp), J70 t76_71 h73 →
 ∃ J94 : Value → Hp → Prop,
 (asB t76_71 fun b98 => cond b98
 (asI k_62 fun n99 => 0 ≤ (n99 : Int) ∧ n99 < (2 : Int) ∧ ∃ v100, cellH h73 (Addr.add ⟨Array.size h47, 0, none⟩ (Int.toNat n99 * 1)) = some v100 ∧
 asSl1 v4 fun a101 l102 c103 => asI v100 fun n104 => 0 ≤ (n104 : Int) ∧ n104 < (l102 : Int) ∧ ∃ v105, cellH h73 (Addr.add a101 (Int.toNat n104 * 1)) = some v105 ∧
 asK .i64 v105 fun n106 => asSl1 v4 fun a107 l108 c109 => asI i_45 fun n110 => 0 ≤ (n110 : Int) ∧ n110 < (l108 : Int) ∧ storeK1 h73 (Addr.add a107 (Int.toNat n110 * 1)) (.int .i64 (IntKind.wrap .i64 (n106 + 1))) fun h111 =>
 J94 (.bool true) h111)
 (J94 more_61 h73)) ∧
 ∀ more_95 (d96 : Nat → Value) (h97 : Hp), J94 more_95 h97 →
 J66 more_95 h97) ∧
 ∀ more_67 (d68 : Nat → Value) (h69 : Hp), J66 more_67 h69 →
 asK .i64 k_62 fun n112 => I59 more_67 (.int .i64 (IntKind.wrap .i64 (n112 + 1))) h69 ∧ μ60 more_67 (.int .i64 (IntKind.wrap .i64 (n112 + 1))) h69 < μ60 more_61 k_62 h64)
 (asK .i64 i_45 fun n113 => I42 more_61 (.int .i64 (IntKind.wrap .i64 (n113 + 1))) h64 ∧ μ43 more_61 (.int .i64 (IntKind.wrap .i64 (n113 + 1))) h64 < μ43 more_44 i_45 h47)))
 (I36 more_44 h47 ∧ μ37 more_44 h47 < μ37 more_38 h40))
 (R v4 h40))
def A_pipewrightref_Away : Ann :=
 (.two .leaf (.two .leaf (.two (.two .leaf (.one (.loop [15, 16, 17, 18, 21, 22, 23, 19, 20, 6] [6] (.two (.two .leaf (.two .leaf .leaf)) (.two (.one .leaf) .leaf))))) (.two (.two (.jb [24, 25, 26, 27, 28, 29, 30, 31] 31 .leaf) (.join [32, 33, 34] [] (.two .leaf .leaf))) (.two (.two .leaf (.one (.loop [35, 7, 8, 36, 37, 38, 39, 42, 43, 44, 45, 46, 47, 48, 49, 50, 9, 10, 51, 52, 55, 56, 57, 58, 59, 60, 61, 62, 63, 64, 65, 66, 67, 68, 69, 70, 71, 72, 73, 74, 75, 76, 77, 78, 79, 80, 81, 82, 83, 84, 85, 86, 87, 53, 54, 40, 41] [7] (.two (.two .leaf (.two .leaf .leaf)) (.one (.two .leaf (.two .leaf (.one (.loop [36, 37, 38, 39, 42, 43, 44, 45, 46, 47, 48, 49, 50, 9, 10, 51, 52, 55, 56, 57, 58, 59, 60, 61, 62, 63, 64, 65, 66, 67, 68, 69, 70, 71, 72, 73, 74, 75, 76, 77, 78, 79, 80, 81, 82, 83, 84, 85, 86, 87, 7, 53, 54, 40, 41, 8] [7, 8] (.two (.two .leaf (.two .leaf .leaf)) (.two (.one (.two .leaf (.two .leaf (.one (.loop [51, 52, 55, 56, 57, 58, 59, 60, 61, 62, 63, 64, 65, 66, 67, 68, 69, 70, 71, 72, 73, 74, 75, 76, 77, 78, 79, 80, 81, 82, 83, 84, 85, 86, 87, 7, 53, 54, 10] [7, 10] (.two (.two .leaf (.two .leaf .leaf)) (.two (.join [55, 56, 57, 58, 59, 60, 61, 62, 63, 64, 65, 66, 67, 68, 69, 70, 71, 72, 73, 74, 75, 76, 77, 78, 79, 80, 81, 82, 83, 84, 85, 86, 87, 7] [7] (.one (.two (.join [55, 56, 57, 58, 59, 60, 61, 62, 63, 64, 65, 66, 67, 68, 69, 70, 71, 72, 73, 74, 75, 76] [76] (.plan [0, 1, 2, 3, 4, 5, 6, 7, 8, 9, 10, 11, 12, 13, 14, 15, 16, 17, 18, 19, 20, 21])) (.join [77, 78, 79, 80, 81, 82, 83, 84, 85, 86, 87, 7] [7] (.two (.two .leaf .leaf) .leaf))))) .leaf))))))) .leaf))))))))))) (.two .leaf .leaf))))))
theorem C_pipewrightref_Away (ω : Amb) (p_p to_p : Value) (h : Hp) (R : Value → Hp → Prop) (X : List PanicEntry → Hp → Prop) (hk : W_pipewrightref_Away ω p_p to_p h R X) : CallX Try.prog ω 23 [p_p, to_p] h R X :=
 callX_of (an := A_pipewrightref_Away) Try.func23 ((show fnX Try.prog ω A_pipewrightref_Away Try.f23 [p_p, to_p] h R X = W_pipewrightref_Away ω p_p to_p h R X by kernel_rfl) ▸ hk)

/-- slices.DeleteFunc[[]int,int] -/
abbrev n_slices_DeleteFunc_sl_int_int : Nat := 24
def W_slices_DeleteFunc_sl_int_int (ω : Amb) (s_p del_p : Value) (h : Hp) (R : Value → Hp → Prop) (X : List PanicEntry → Hp → Prop) : Prop :=
 CallX Try.prog ω 21 [s_p, del_p] h (fun r0 h1 =>
 asK .i64 r0 fun n2 => cond (n2 == ((-1) : Int))
 (R s_p h1)
 (asK .i64 r0 fun n3 => ∃ (I4 : Value → Value → Hp → Prop) (μ5 : Value → Value → Hp → Nat), I4 r0 (.int .i64 (IntKind.wrap .i64 (n3 + 1))) h1 ∧ ∀ i_6 j_7 (d8 : Nat → Value) (h9 : Hp), I4 i_6 j_7 h9 →
 asSl s_p fun a10 l11 c12 => asK .i64 j_7 fun n13 => cond (decide ((n13 : Int) < (l11 : Int)))
 (∃ J14 : Value → Hp → Prop,
 (asSl1 s_p fun a18 l19 c20 => asI j_7 fun n21 => 0 ≤ (n21 : Int) ∧ n21 < (l19 : Int) ∧ ∃ v22, cellH h9 (Addr.add a18 (Int.toNat n21 * 1)) = some v22 ∧
 callK Try.prog ω del_p [v22] h9 (fun r23 h24 =>
 asB r23 fun b25 => ∃ J26 : Value → Hp → Prop,
 (cond (!b25)
 (asSl1 s_p fun a30 l31 c32 => asI i_6 fun n33 => 0 ≤ (n33 : Int) ∧ n33 < (l31 : Int) ∧ oneK v22 (storeK1 h24 (Addr.add a30 (Int.toNat n33 * 1)) v22 fun h34 =>
 asK .i64 i_6 fun n35 => J26 (.int .i64 (IntKind.wrap .i64 (n35 + 1))) h34))
 (J26 i_6 h24)) ∧
 ∀ i_27 (d28 : Nat → Value) (h29 : Hp), J26 i_27 h29 →
 J14 i_27 h29) X) ∧
 ∀ i_15 (d16 : Nat → Value) (h17 : Hp), J14 i_15 h17 →
 asK .i64 j_7 fun n36 => I4 i_15 (.int .i64 (IntKind.wrap .i64 (n36 + 1))) h17 ∧ μ5 i_15 (.int .i64 (IntKind.wrap .i64 (n36 + 1))) h17 < μ5 i_6 j_7 h9)
 (asSl s_p fun a37 l38 c39 => asI i_6 fun n40 => 0 ≤ (n40 : Int) ∧ (n40 : Int) ≤ (l38 : Int) ∧ (l38 : Int) ≤ (c39 : Int) ∧ clearK Try.prog 30 h9 (.slice (if c39 = Int.toNat n40 then a37 else Option.map (fun y => Addr.add y (Int.toNat n40 * 1)) a37) (Int.toNat (l38 : Int) - Int.toNat n40) (c39 - Int.toNat n40)) fun w41 h42 =>
 asSl s_p fun a43 l44 c45 => asI i_6 fun n46 => 0 ≤ (((0 : Nat) : Int) : Int) ∧ (((0 : Nat) : Int) : Int) ≤ n46 ∧ n46 ≤ (c45 : Int) ∧ R (.slice (if c45 = Int.toNat ((0 : Nat) : Int) then a43 else Option.map (fun y => Addr.add y (Int.toNat ((0 : Nat) : Int) * 1)) a43) (Int.toNat n46 - Int.toNat ((0 : Nat) : Int)) (c45 - Int.toNat ((0 : Nat) : Int))) h42))) X
def A_slices_DeleteFunc_sl_int_int : Ann :=
 (.two .leaf (.two .leaf (.two (.two .leaf (.two (.two .leaf .leaf) .leaf)) (.two (.two .leaf (.one (.loop [16, 17, 18, 19, 22, 23, 24, 25, 7, 26, 27, 28, 29, 30, 31, 32, 33, 34, 35, 5, 20, 21, 6] [5, 6] (.two (.two .leaf (.two .leaf .leaf)) (.two (.join [22, 23, 24, 25, 7, 26, 27, 28, 29, 30, 31, 32, 33, 34, 35, 5] [5] (.one (.two .leaf (.two .leaf (.join [30, 31, 32, 33, 34, 35, 5] [5] (.two (.two .leaf .leaf) .leaf)))))) .leaf))))) (.two .leaf (.two .leaf .leaf))))))
theorem C_slices_DeleteFunc_sl_int_int (ω : Amb) (s_p del_p : Value) (h : Hp) (R : Value → Hp → Prop) (X : List PanicEntry → Hp → Prop) (hk : W_slices_DeleteFunc_sl_int_int ω s_p del_p h R X) : CallX Try.prog ω 24 [s_p, del_p] h R X :=
 callX_of (an := A_slices_DeleteFunc_sl_int_int) Try.func24 ((show fnX Try.prog ω A_slices_DeleteFunc_sl_int_int Try.f24 [s_p, del_p] h R X = W_slices_DeleteFunc_sl_int_int ω s_p del_p h R X by kernel_rfl) ▸ hk)

/-- pipewright/paths.Next$1 -/
abbrev n_paths_Next_1 : Nat := 25
def W_paths_Next_1 (ω : Amb) (k_p t1_p : Value) (h : Hp) (R : Value → Hp → Prop) (X : List PanicEntry → Hp → Prop) : Prop :=
 ∃ J0 : Value → Hp → Prop,
 (asK .i64 k_p fun n4 => cond (decide ((n4 : Int) < 0))
 (J0 (.bool true) h)
 (asP t1_p fun p5 =>
 ∃ v6, cellH h (Addr.add p5 4) = some v6 ∧
 asSl v6 fun a7 l8 c9 => asK .i64 k_p fun n10 => J0 (.bool (decide ((n10 : Int) ≥ (l8 : Int)))) h)) ∧
 ∀ t3_1 (d2 : Nat → Value) (h3 : Hp), J0 t3_1 h3 →
 R t3_1 h3
def A_paths_Next_1 : Ann :=
 (.two .leaf (.two (.join [4, 5, 6, 7, 8, 9, 10, 11, 12, 3] [3] .leaf) .leaf))
theorem C_paths_Next_1 (ω : Amb) (k_p t1_p : Value) (h : Hp) (R : Value → Hp → Prop) (X : List PanicEntry → Hp → Prop) (hk : W_paths_Next_1 ω k_p t1_p h R X) : CallX Try.prog ω 25 [k_p, t1_p] h R X :=
 callX_of (an := A_paths_Next_1) Try.func25 ((show fnX Try.prog ω A_paths_Next_1 Try.f25 [k_p, t1_p] h R X = W_paths_Next_1 ω k_p t1_p h R X by kernel_rfl) ▸ hk)

/-- slices.Sort[[]int,int] -/
abbrev n_slices_Sort_sl_int_int : Nat := 26
def W_slices_Sort_sl_int_int (ω : Amb) (x_p : Value) (h : Hp) (R : Value → Hp → Prop) (X : List PanicEntry → Hp → Prop) : Prop :=
 asSl x_p fun a0 l1 c2 => CallX Try.prog ω 33 [(.int .u64 (IntKind.wrap .u64 (l1 : Int)))] h (fun r3 h4 =>
 CallX Try.prog ω 32 [x_p, (.int .i64 0), (.int .i64 (l1 : Int)), r3] h4 (fun r5 h6 =>
 R (.tuple #[]) h6) X) X
def A_slices_Sort_sl_int_int : Ann :=
 (.two .leaf .leaf)
theorem C_slices_Sort_sl_int_int (ω : Amb) (x_p : Value) (h : Hp) (R : Value → Hp → Prop) (X : List PanicEntry → Hp → Prop) (hk : W_slices_Sort_sl_int_int ω x_p h R X) : CallX Try.prog ω 26 [x_p] h R X :=
 callX_of (an := A_slices_Sort_sl_int_int) Try.func26 ((show fnX Try.prog ω A_slices_Sort_sl_int_int Try.f26 [x_p] h R X = W_slices_Sort_sl_int_int ω x_p h R X by kernel_rfl) ▸ hk)

/-- slices.Compact[[]int,int] -/
abbrev n_slices_Compact_sl_int_int : Nat := 27
def W_slices_Compact_sl_int_int (ω : Amb) (s_p : Value) (h : Hp) (R : Value → Hp → Prop) (X : List PanicEntry → Hp → Prop) : Prop :=
 asSl s_p fun a0 l1 c2 => cond (decide (((l1 : Int) : Int) < 2))
 (R s_p h)
 (∃ (I3 : Value → Hp → Prop) (μ4 : Value → Hp → Nat), I3 (.int .i64 1) h ∧ ∀ k_5 (d6 : Nat → Value) (h7 : Hp), I3 k_5 h7 →
 asSl s_p fun a8 l9 c10 => asK .i64 k_5 fun n11 => cond (decide ((n11 : Int) < (l9 : Int)))
 (asSl1 s_p fun a12 l13 c14 => asI k_5 fun n15 => 0 ≤ (n15 : Int) ∧ n15 < (l13 : Int) ∧ ∃ v16, cellH h7 (Addr.add a12 (Int.toNat n15 * 1)) = some v16 ∧
 asK .i64 k_5 fun n17 => asSl1 s_p fun a18 l19 c20 => 0 ≤ ((IntKind.wrap .i64 (n17 - 1)) : Int) ∧ (IntKind.wrap .i64 (n17 - 1)) < (l19 : Int) ∧ ∃ v21, cellH h7 (Addr.add a18 (Int.toNat (IntKind.wrap .i64 (n17 - 1)) * 1)) = some v21 ∧
 asK .i64 v16 fun n22 => asK .i64 v21 fun n23 => cond (n22 == (n23 : Int))
 (asSl s_p fun a24 l25 c26 => asI k_5 fun n27 => 0 ≤ (n27 : Int) ∧ (n27 : Int) ≤ (l25 : Int) ∧ (l25 : Int) ≤ (c26 : Int) ∧ ∃ (I28 : Value → Value → Hp → Prop) (μ29 : Value → Value → Hp → Nat), I28 k_5 (.int .i64 1) h7 ∧ ∀ k_30 k2_31 (d32 : Nat → Value) (h33 : Hp), I28 k_30 k2_31 h33 →
 asK .i64 k2_31 fun n34 => cond (decide ((n34 : Int) < (((Int.toNat (l25 : Int) - Int.toNat n27) : Nat) : Int)))
 (∃ J35 : Value → Hp → Prop,
 (asSl1 (.slice (if c26 = Int.toNat n27 then a24 else Option.map (fun y => Addr.add y (Int.toNat n27 * 1)) a24) (Int.toNat (l25 : Int) - Int.toNat n27) (c26 - Int.toNat n27)) fun a39 l40 c41 => asI k2_31 fun n42 => 0 ≤ (n42 : Int) ∧ n42 < (l40 : Int) ∧ ∃ v43, cellH h33 (Addr.add a39 (Int.toNat n42 * 1)) = some v43 ∧
 asK .i64 k2_31 fun n44 => asSl1 (.slice (if c26 = Int.toNat n27 then a24 else Option.map (fun y => Addr.add y (Int.toNat n27 * 1)) a24) (Int.toNat (l25 : Int) - Int.toNat n27) (c26 - Int.toNat n27)) fun a45 l46 c47 => 0 ≤ ((IntKind.wrap .i64 (n44 - 1)) : Int) ∧ (IntKind.wrap .i64 (n44 - 1)) < (l46 : Int) ∧ ∃ v48, cellH h33 (Addr.add a45 (Int.toNat (IntKind.wrap .i64 (n44 - 1)) * 1)) = some v48 ∧
 asK .i64 v43 fun n49 => asK .i64 v48 fun n50 => ∃ J51 : Value → Hp → Prop,
 (cond (n49 != (n50 : Int))
 (asSl1 (.slice (if c26 = Int.toNat n27 then a24 else Option.map (fun y => Addr.add y (Int.toNat n27 * 1)) a24) (Int.toNat (l25 : Int) - Int.toNat n27) (c26 - Int.toNat n27)) fun a55 l56 c57 => asI k2_31 fun n58 => 0 ≤ (n58 : Int) ∧ n58 < (l56 : Int) ∧ ∃ v59, cellH h33 (Addr.add a55 (Int.toNat n58 * 1)) = some v59 ∧
 asSl1 s_p fun a60 l61 c62 => asI k_30 fun n63 => 0 ≤ (n63 : Int) ∧ n63 < (l61 : Int) ∧ oneK v59 (storeK1 h33 (Addr.add a60 (Int.toNat n63 * 1)) v59 fun h64 =>
 asK .i64 k_30 fun n65 => J51 (.int .i64 (IntKind.wrap .i64 (n65 + 1))) h64))
 (J51 k_30 h33)) ∧
 ∀ k_52 (d53 : Nat → Value) (h54 : Hp), J51 k_52 h54 →
 J35 k_52 h54) ∧
 ∀ k_36 (d37 : Nat → Value) (h38 : Hp), J35 k_36 h38 →
 asK .i64 k2_31 fun n66 => I28 k_36 (.int .i64 (IntKind.wrap .i64 (n66 + 1))) h38 ∧ μ29 k_36 (.int .i64 (IntKind.wrap .i64 (n66 + 1))) h38 < μ29 k_30 k2_31 h33)
 (asSl s_p fun a67 l68 c69 => asI k_30 fun n70 => 0 ≤ (n70 : Int) ∧ (n70 : Int) ≤ (l68 : Int) ∧ (l68 : Int) ≤ (c69 : Int) ∧ clearK Try.prog 30 h33 (.slice (if c69 = Int.toNat n70 then a67 else Option.map (fun y => Addr.add y (Int.toNat n70 * 1)) a67) (Int.toNat (l68 : Int) - Int.toNat n70) (c69 - Int.toNat n70)) fun w71 h72 =>
 asSl s_p fun a73 l74 c75 => asI k_30 fun n76 => 0 ≤ (((0 : Nat) : Int) : Int) ∧ (((0 : Nat) : Int) : Int) ≤ n76 ∧ n76 ≤ (c75 : Int) ∧ R (.slice (if c75 = Int.toNat ((0 : Nat) : Int) then a73 else Option.map (fun y => Addr.add y (Int.toNat ((0 : Nat) : Int) * 1)) a73) (Int.toNat n76 - Int.toNat ((0 : Nat) : Int)) (c75 - Int.toNat ((0 : Nat) : Int))) h72))
 (asK .i64 k_5 fun n77 => I3 (.int .i64 (IntKind.wrap .i64 (n77 + 1))) h7 ∧ μ4 (.int .i64 (IntKind.wrap .i64 (n77 + 1))) h7 < μ4 k_5 h7))
 (R s_p h7))
def A_slices_Compact_sl_int_int : Ann :=
 (.two .leaf (.two (.two .leaf (.two (.two .leaf .leaf) .leaf)) (.two (.two .leaf (.one (.loop [10, 11, 12, 13, 16, 17, 18, 19, 20, 21, 22, 23, 24, 25, 26, 27, 28, 4, 5, 29, 30, 31, 32, 35, 36, 37, 38, 39, 40, 41, 42, 43, 44, 45, 46, 47, 48, 49, 50, 51, 52, 53, 3, 33, 34, 54, 55, 56, 57, 58, 59, 2, 14, 15] [3] (.two (.two .leaf (.two .leaf .leaf)) (.two (.one (.two (.plan [0, 1, 2, 3, 4, 5, 6, 7, 8, 9]) (.two (.two .leaf (.two (.two .leaf (.one (.loop [29, 30, 31, 32, 35, 36, 37, 38, 39, 40, 41, 42, 43, 44, 45, 46, 47, 48, 49, 50, 51, 52, 53, 3, 33, 34, 5] [3, 5] (.two (.two .leaf (.two .leaf .leaf)) (.two (.join [35, 36, 37, 38, 39, 40, 41, 42, 43, 44, 45, 46, 47, 48, 49, 50, 51, 52, 53, 3] [3] (.one (.two (.plan [0, 1, 2, 3, 4, 5, 6, 7, 8, 9]) (.join [45, 46, 47, 48, 49, 50, 51, 52, 53, 3] [3] (.two (.two .leaf .leaf) .leaf))))) .leaf))))) (.two .leaf (.two .leaf .leaf)))) .leaf))) .leaf))))) (.two .leaf .leaf))))
theorem C_slices_Compact_sl_int_int (ω : Amb) (s_p : Value) (h : Hp) (R : Value → Hp → Prop) (X : List PanicEntry → Hp → Prop) (hk : W_slices_Compact_sl_int_int ω s_p h R X) : CallX Try.prog ω 27 [s_p] h R X :=
 callX_of (an := A_slices_Compact_sl_int_int) Try.func27 ((show fnX Try.prog ω A_slices_Compact_sl_int_int Try.f27 [s_p] h R X = W_slices_Compact_sl_int_int ω s_p h R X by kernel_rfl) ▸ hk)

/-- pipewright/pipewrightref.Comes -/
abbrev n_pipewrightref_Comes : Nat := 28
def W_pipewrightref_Comes (ω : Amb) (p_p i_p k_p : Value) (h : Hp) (R : Value → Hp → Prop) (X : List PanicEntry → Hp → Prop) : Prop :=
 ∃ β0 : Bool,
 (asK .i64 i_p fun n2 => cond (decide ((n2 : Int) < 0))
 (((.bool true) : Value) = .bool β0 ∧ (Array.push h (.cells (Value.cells p_p) 26 (0, 0))) = (Array.push h (.cells (Value.cells p_p) 26 (0, 0))))
 (asK .i64 k_p fun n3 => cond (decide ((n3 : Int) < 0))
 (((.bool true) : Value) = .bool β0 ∧ (Array.push h (.cells (Value.cells p_p) 26 (0, 0))) = (Array.push h (.cells (Value.cells p_p) 26 (0, 0))))
 (∃ v4, cellH (Array.push h (.cells (Value.cells p_p) 26 (0, 0))) (Addr.add ⟨Array.size h, 0, none⟩ 4) = some v4 ∧
 asSl v4 fun a5 l6 c7 => asK .i64 i_p fun n8 => cond (decide ((n8 : Int) ≥ (l6 : Int)))
 (((.bool true) : Value) = .bool β0 ∧ (Array.push h (.cells (Value.cells p_p) 26 (0, 0))) = (Array.push h (.cells (Value.cells p_p) 26 (0, 0))))
 (∃ v9, cellH (Array.push h (.cells (Value.cells p_p) 26 (0, 0))) (Addr.add ⟨Array.size h, 0, none⟩ 4) = some v9 ∧
 asSl v9 fun a10 l11 c12 => asK .i64 k_p fun n13 => ((.bool (decide ((n13 : Int) ≥ (l11 : Int)))) : Value) = .bool β0 ∧ (Array.push h (.cells (Value.cells p_p) 26 (0, 0))) = (Array.push h (.cells (Value.cells p_p) 26 (0, 0))))))) ∧
 ∀ d1 : Nat → Value,
 cond β0
 (R (.bool false) (Array.push h (.cells (Value.cells p_p) 26 (0, 0))))
 (∃ v14, cellH (Array.push h (.cells (Value.cells p_p) 26 (0, 0))) (Addr.add ⟨Array.size h, 0, none⟩ 4) = some v14 ∧
 asSl1 v14 fun a15 l16 c17 => asI i_p fun n18 => 0 ≤ (n18 : Int) ∧ n18 < (l16 : Int) ∧ ∃ C19, cellsH (Array.push h (.cells (Value.cells p_p) 26 (0, 0))) (Addr.add a15 (Int.toNat n18 * 11)) 11 C19 ∧
 C19.toArray.size = 11 ∧ (∀ u ∈ C19.toArray.toList, one u) ∧ storeK (Array.push (Array.push h (.cells (Value.cells p_p) 26 (0, 0))) (.cells #[(.int .i64 0), (.int .i64 0), (.int .i64 0), (.int .i64 0), (.int .i64 0), (.string ⟨#[]⟩), (.slice none 0 0), (.slice none 0 0), (.int .i64 0), (.int .i64 0), (.int .i64 0)] 41 (0, 0))) ⟨Array.size (Array.push h (.cells (Value.cells p_p) 26 (0, 0))), 0, none⟩ C19.toArray.toList fun h20 =>
 ∃ v21, cellH h20 (Addr.add ⟨Array.size (Array.push h (.cells (Value.cells p_p) 26 (0, 0))), 0, none⟩ 0) = some v21 ∧
 asK .i64 v21 fun n22 => cond (n22 == (17 : Int))
 (R (.bool false) h20)
 (asK .i64 v21 fun n23 => cond (n23 == (15 : Int))
 (∃ v24, cellH h20 (Addr.add ⟨Array.size (Array.push h (.cells (Value.cells p_p) 26 (0, 0))), 0, none⟩ 4) = some v24 ∧
 asK .i64 k_p fun n25 => asK .i64 v24 fun n26 => R (.bool (n25 == (n26 : Int))) h20)
 (asK .i64 v21 fun n27 => ∃ J28 : Value → Hp → Prop,
 (cond (n27 == (14 : Int))
 (J28 (.bool (n27 == (14 : Int))) h20)
 (asK .i64 v21 fun n32 => ∃ J33 : Value → Hp → Prop,
 (cond (n32 == (13 : Int))
 (J33 (.bool (n32 == (13 : Int))) h20)
 (asK .i64 v21 fun n37 => J33 (.bool (n37 == (11 : Int))) h20)) ∧
 ∀ t43_34 (d35 : Nat → Value) (h36 : Hp), J33 t43_34 h36 →
 J28 t43_34 h36)) ∧
 ∀ t43_29 (d30 : Nat → Value) (h31 : Hp), J28 t43_29 h31 →
 asB t43_29 fun b38 => cond b38
 (∃ J39 : Value → Hp → Prop,
 (asK .i64 i_p fun n43 => asK .i64 k_p fun n44 => cond (n44 == ((IntKind.wrap .i64 (n43 + 1)) : Int))
 (J39 (.bool true) h31)
 (∃ v45, cellH h31 (Addr.add ⟨Array.size (Array.push h (.cells (Value.cells p_p) 26 (0, 0))), 0, none⟩ 4) = some v45 ∧
 asK .i64 k_p fun n46 => asK .i64 v45 fun n47 => J39 (.bool (n46 == (n47 : Int))) h31)) ∧
 ∀ t6_40 (d41 : Nat → Value) (h42 : Hp), J39 t6_40 h42 →
 R t6_40 h42)
 (asK .i64 i_p fun n48 => asK .i64 k_p fun n49 => R (.bool (n49 == ((IntKind.wrap .i64 (n48 + 1)) : Int))) h31))))
def A_pipewrightref_Comes : Ann :=
 (.two .leaf (.two (.two (.jb [8, 9, 10, 11, 12, 13, 14, 15, 16, 17, 18, 19, 20, 21, 22, 23, 24, 25, 26, 27] 27 .leaf) (.two (.two .leaf .leaf) .leaf)) (.two .leaf (.two (.two .leaf (.one (.two .leaf (.two (.two .leaf .leaf) (.two .leaf (.two (.two .leaf .leaf) (.two (.two .leaf (.join [45, 43, 46] [43] (.two .leaf (.two .leaf (.join [46, 43] [43] (.two .leaf .leaf)))))) (.two (.two (.join [47, 48, 49, 50, 51, 52, 53, 54, 55, 56, 6] [6] .leaf) .leaf) .leaf)))))))) (.two .leaf .leaf)))))
theorem C_pipewrightref_Comes (ω : Amb) (p_p i_p k_p : Value) (h : Hp) (R : Value → Hp → Prop) (X : List PanicEntry → Hp → Prop) (hk : W_pipewrightref_Comes ω p_p i_p k_p h R X) : CallX Try.prog ω 28 [p_p, i_p, k_p] h R X :=
 callX_of (an := A_pipewrightref_Comes) Try.func28 ((show fnX Try.prog ω A_pipewrightref_Comes Try.f28 [p_p, i_p, k_p] h R X = W_pipewrightref_Comes ω p_p i_p k_p h R X by kernel_rfl) ▸ hk)

/-- pipewright/paths.Reach$1 -/
abbrev n_paths_Reach_1 : Nat := 29
def W_paths_Reach_1 (ω : Amb) (i_p t1_p : Value) (h : Hp) (R : Value → Hp → Prop) (X : List PanicEntry → Hp → Prop) : Prop :=
 asP t1_p fun p0 =>
 ∃ C1, cellsH h p0 5 C1 ∧
 CallX Try.prog ω 11 [(.agg C1.toArray), i_p] h (fun r2 h3 =>
 R r2 h3) X
def A_paths_Reach_1 : Ann :=
 (.two .leaf (.two .leaf .leaf))
theorem C_paths_Reach_1 (ω : Amb) (i_p t1_p : Value) (h : Hp) (R : Value → Hp → Prop) (X : List PanicEntry → Hp → Prop) (hk : W_paths_Reach_1 ω i_p t1_p h R X) : CallX Try.prog ω 29 [i_p, t1_p] h R X :=
 callX_of (an := A_paths_Reach_1) Try.func29 ((show fnX Try.prog ω A_paths_Reach_1 Try.f29 [i_p, t1_p] h R X = W_paths_Reach_1 ω i_p t1_p h R X by kernel_rfl) ▸ hk)

/-- slices.Contains[[]int,int] -/
abbrev n_slices_Contains_sl_int_int : Nat := 30
def W_slices_Contains_sl_int_int (ω : Amb) (s_p v_p : Value) (h : Hp) (R : Value → Hp → Prop) (X : List PanicEntry → Hp → Prop) : Prop :=
 CallX Try.prog ω 34 [s_p, v_p] h (fun r0 h1 =>
 asK .i64 r0 fun n2 => R (.bool (decide ((n2 : Int) ≥ 0))) h1) X
def A_slices_Contains_sl_int_int : Ann :=
 (.two .leaf (.two .leaf .leaf))
theorem C_slices_Contains_sl_int_int (ω : Amb) (s_p v_p : Value) (h : Hp) (R : Value → Hp → Prop) (X : List PanicEntry → Hp → Prop) (hk : W_slices_Contains_sl_int_int ω s_p v_p h R X) : CallX Try.prog ω 30 [s_p, v_p] h R X :=
 callX_of (an := A_slices_Contains_sl_int_int) Try.func30 ((show fnX Try.prog ω A_slices_Contains_sl_int_int Try.f30 [s_p, v_p] h R X = W_slices_Contains_sl_int_int ω s_p v_p h R X by kernel_rfl) ▸ hk)

/-- slices.Repeat[[]int,int] -/
abbrev n_slices_Repeat_sl_int_int : Nat := 31
def W_slices_Repeat_sl_int_int (ω : Amb) (x_p count_p : Value) (h : Hp) (R : Value → Hp → Prop) (X : List PanicEntry → Hp → Prop) : Prop :=
 asK .i64 count_p fun n0 => ∃ J1 : Hp → Prop,
 (cond (decide ((n0 : Int) < 0))
 (X [⟨.iface 9 (.string ⟨#[99, 97, 110, 110, 111, 116, 32, 98, 101, 32, 110, 101, 103, 97, 116, 105, 118, 101]⟩), false, false⟩] h)
 (J1 h)) ∧
 ∀  (d2 : Nat → Value) (h3 : Hp), J1 h3 →
 asSl x_p fun a4 l5 c6 => asI count_p fun n7 => CallX Try.prog ω 35 [(.int .u64 (IntKind.wrap .u64 (l5 : Int))), (.int .u64 (IntKind.wrap .u64 n7))] h3 (fun r8 h9 =>
 asT r8 fun T10 => asO T10[0]? fun v11 => asT r8 fun T12 => asO T12[1]? fun v13 => ∃ β14 : Bool,
 (asK .u64 v11 fun n16 => cond (decide ((n16 : Int) > 0))
 (((.bool true) : Value) = .bool β14 ∧ h9 = h9)
 (asK .u64 v13 fun n17 => ((.bool (decide ((n17 : Int) > 9223372036854775807))) : Value) = .bool β14 ∧ h9 = h9)) ∧
 ∀ d15 : Nat → Value,
 ∃ J18 : Hp → Prop,
 (cond β14
 (X [⟨.iface 9 (.string ⟨#[116, 104, 101, 32, 114, 101, 115, 117, 108, 116, 32, 111, 102, 32, 40, 108, 101, 110, 40, 120, 41, 32, 42, 32, 99, 111, 117, 110, 116, 41, 32, 111, 118, 101, 114, 102, 108, 111, 119, 115]⟩), false, false⟩] h9)
 (J18 h9)) ∧
 ∀  (d19 : Nat → Value) (h20 : Hp), J18 h20 →
 asI v13 fun n21 => makeK Try.prog 30 h20 (.int .i64 (IntKind.wrap .i64 n21)) (.int .i64 (IntKind.wrap .i64 n21)) fun v22 h23 =>
 copyK Try.prog 30 h23 v22 x_p fun w24 h25 =>
 ∃ (I26 : Value → Hp → Prop) (μ27 : Value → Hp → Nat), I26 w24 h25 ∧ ∀ n_28 (d29 : Nat → Value) (h30 : Hp), I26 n_28 h30 →
 asSl v22 fun a31 l32 c33 => asK .i64 n_28 fun n34 => cond (decide ((n34 : Int) < (l32 : Int)))
 (asSl v22 fun a35 l36 c37 => asI n_28 fun n38 => 0 ≤ (n38 : Int) ∧ (n38 : Int) ≤ (l36 : Int) ∧ (l36 : Int) ≤ (c37 : Int) ∧ asSl v22 fun a39 l40 c41 => asI n_28 fun n42 => 0 ≤ (((0 : Nat) : Int) : Int) ∧ (((0 : Nat) : Int) : Int) ≤ n42 ∧ n42 ≤ (c41 : Int) ∧ copyK Try.prog 30 h30 (.slice (if c37 = Int.toNat n38 then a35 else Option.map (fun y => Addr.add y (Int.toNat n38 * 1)) a35) (Int.toNat (l36 : Int) - Int.toNat n38) (c37 - Int.toNat n38)) (.slice (if c41 = Int.toNat ((0 : Nat) : Int) then a39 else Option.map (fun y => Addr.add y (Int.toNat ((0 : Nat) : Int) * 1)) a39) (Int.toNat n42 - Int.toNat ((0 : Nat) : Int)) (c41 - Int.toNat ((0 : Nat) : Int))) fun w43 h44 =>
 asK .i64 n_28 fun n45 => asK .i64 w43 fun n46 => I26 (.int .i64 (IntKind.wrap .i64 (n45 + n46))) h44 ∧ μ27 (.int .i64 (IntKind.wrap .i64 (n45 + n46))) h44 < μ27 n_28 h30)
 (R v22 h30)) X
def A_slices_Repeat_sl_int_int : Ann :=
 (.two .leaf (.two (.two .leaf (.join [11] [] (.two .leaf .leaf))) (.two .leaf (.two (.two (.jb [21, 22, 23, 24, 25, 26] 26 .leaf) (.join [27] [] (.two .leaf .leaf))) (.two .leaf (.two .leaf (.two (.one (.loop [34, 35, 36, 37, 38, 39, 40, 41, 42, 43, 44, 45, 46, 8] [8] (.two (.two .leaf (.two .leaf .leaf)) (.one (.plan [0, 1, 2, 3, 4, 5, 6, 7, 8, 9]))))) (.two .leaf .leaf))))))))
theorem C_slices_Repeat_sl_int_int (ω : Amb) (x_p count_p : Value) (h : Hp) (R : Value → Hp → Prop) (X : List PanicEntry → Hp → Prop) (hk : W_slices_Repeat_sl_int_int ω x_p count_p h R X) : CallX Try.prog ω 31 [x_p, count_p] h R X :=
 callX_of (an := A_slices_Repeat_sl_int_int) Try.func31 ((show fnX Try.prog ω A_slices_Repeat_sl_int_int Try.f31 [x_p, count_p] h R X = W_slices_Repeat_sl_int_int ω x_p count_p h R X by kernel_rfl) ▸ hk)

/-- slices.pdqsortOrdered[int] -/
abbrev n_slices_pdqsortOrdered_int : Nat := 32
def W_slices_pdqsortOrdered_int (ω : Amb) (data_p a_p b_p limit_p : Value) (h : Hp) (R : Value → Hp → Prop) (X : List PanicEntry → Hp → Prop) : Prop :=
 ∃ (I0 : Value → Value → Value → Value → Value → Hp → Prop) (μ1 : Value → Value → Value → Value → Value → Hp → Nat), I0 limit_p a_p (.bool true) (.bool true) b_p h ∧ ∀ limit_2 a_3 wasPartitioned_4 wasBalanced_5 b_6 (d7 : Nat → Value) (h8 : Hp), I0 limit_2 a_3 wasPartitioned_4 wasBalanced_5 b_6 h8 →
 ∃ J9 : Value → Value → Value → Value → Value → Hp → Prop,
 (asK .i64 b_6 fun n17 => asK .i64 a_3 fun n18 => cond (decide (((IntKind.wrap .i64 (n17 - n18)) : Int) ≤ 12))
 (CallX Try.prog ω 36 [data_p, a_3, b_6] h8 (fun r19 h20 =>
 R (.tuple #[]) h20) X)
 (asK .i64 limit_2 fun n21 => cond (n21 == (0 : Int))
 (CallX Try.prog ω 37 [data_p, a_3, b_6] h8 (fun r22 h23 =>
 R (.tuple #[]) h23) X)
 (asB wasBalanced_5 fun b24 => ∃ J25 : Value → Hp → Prop,
 (cond (!b24)
 (CallX Try.prog ω 38 [data_p, a_3, b_6] h8 (fun r29 h30 =>
 asK .i64 limit_2 fun n31 => J25 (.int .i64 (IntKind.wrap .i64 (n31 - 1))) h30) X)
 (J25 limit_2 h8)) ∧
 ∀ limit_26 (d27 : Nat → Value) (h28 : Hp), J25 limit_26 h28 →
 CallX Try.prog ω 39 [data_p, a_3, b_6] h28 (fun r32 h33 =>
 asT r32 fun T34 => asO T34[0]? fun v35 => asT r32 fun T36 => asO T36[1]? fun v37 => asK .i64 v37 fun n38 => ∃ J39 : Value → Value → Hp → Prop,
 (cond (n38 == (2 : Int))
 (CallX Try.prog ω 40 [data_p, a_3, b_6] h33 (fun r44 h45 =>
 asK .i64 b_6 fun n46 => asK .i64 v35 fun n47 => asK .i64 a_3 fun n48 => J39 (.int .i64 (IntKind.wrap .i64 ((IntKind.wrap .i64 (n46 - 1)) - (IntKind.wrap .i64 (n47 - n48))))) (.int .i64 1) h45) X)
 (J39 v35 v37 h33)) ∧
 ∀ pivot_40 hint_41 (d42 : Nat → Value) (h43 : Hp), J39 pivot_40 hint_41 h43 →
 ∃ β49 : Bool,
 (asB wasBalanced_5 fun b51 => cond b51
 (asB wasPartitioned_4 fun b52 => cond b52
 (asK .i64 hint_41 fun n53 => ((.bool (n53 == (1 : Int))) : Value) = .bool β49 ∧ h43 = h43)
 (((.bool false) : Value) = .bool β49 ∧ h43 = h43))
 (((.bool false) : Value) = .bool β49 ∧ h43 = h43)) ∧
 ∀ d50 : Nat → Value,
 ∃ J54 : Hp → Prop,
 (cond β49
 (CallX Try.prog ω 41 [data_p, a_3, b_6] h43 (fun r57 h58 =>
 asB r57 fun b59 => cond b59
 (R (.tuple #[]) h58)
 (J54 h58)) X)
 (J54 h43)) ∧
 ∀  (d55 : Nat → Value) (h56 : Hp), J54 h56 →
 ∃ J60 : Value → Hp → Prop,
 (asK .i64 a_3 fun n64 => cond (decide ((n64 : Int) > 0))
 (asK .i64 a_3 fun n65 => asSl1 data_p fun a66 l67 c68 => 0 ≤ ((IntKind.wrap .i64 (n65 - 1)) : Int) ∧ (IntKind.wrap .i64 (n65 - 1)) < (l67 : Int) ∧ ∃ v69, cellH h56 (Addr.add a66 (Int.toNat (IntKind.wrap .i64 (n65 - 1)) * 1)) = some v69 ∧
 asSl1 data_p fun a70 l71 c72 => asI pivot_40 fun n73 => 0 ≤ (n73 : Int) ∧ n73 < (l71 : Int) ∧ ∃ v74, cellH h56 (Addr.add a70 (Int.toNat n73 * 1)) = some v74 ∧
 CallX Try.prog ω 42 [v69, v74] h56 (fun r75 h76 =>
 asB r75 fun b77 => J60 (.bool (!b77)) h76) X)
 (J60 (.bool false) h56)) ∧
 ∀ t87_61 (d62 : Nat → Value) (h63 : Hp), J60 t87_61 h63 →
 asB t87_61 fun b78 => cond b78
 (CallX Try.prog ω 43 [data_p, a_3, b_6, pivot_40] h63 (fun r79 h80 =>
 J9 limit_26 r79 wasPartitioned_4 wasBalanced_5 b_6 h80) X)
 (CallX Try.prog ω 44 [data_p, a_3, b_6, pivot_40] h63 (fun r81 h82 =>
 asT r81 fun T83 => asO T83[0]? fun v84 => asT r81 fun T85 => asO T85[1]? fun v86 => asK .i64 v84 fun n87 => asK .i64 a_3 fun n88 => asK .i64 b_6 fun n89 => asK .i64 v84 fun n90 => (8 : Int) ≠ 0 ∧ ∃ J91 : Value → Value → Value → Hp → Prop,
 (cond (decide (((IntKind.wrap .i64 (n87 - n88)) : Int) < (IntKind.wrap .i64 (n89 - n90))))
 (CallX Try.prog ω 32 [data_p, a_3, v84, limit_26] h82 (fun r97 h98 =>
 asK .i64 v84 fun n99 => J91 (.bool (decide (((IntKind.wrap .i64 (n87 - n88)) : Int) ≥ (IntKind.wrap .i64 (Int.tdiv (IntKind.wrap .i64 (n17 - n18)) 8))))) (.int .i64 (IntKind.wrap .i64 (n99 + 1))) b_6 h98) X)
 (asK .i64 v84 fun n100 => CallX Try.prog ω 32 [data_p, (.int .i64 (IntKind.wrap .i64 (n100 + 1))), b_6, limit_26] h82 (fun r101 h102 =>
 J91 (.bool (decide (((IntKind.wrap .i64 (n89 - n90)) : Int) ≥ (IntKind.wrap .i64 (Int.tdiv (IntKind.wrap .i64 (n17 - n18)) 8))))) a_3 v84 h102) X)) ∧
 ∀ wasBalanced_92 a_93 b_94 (d95 : Nat → Value) (h96 : Hp), J91 wasBalanced_92 a_93 b_94 h96 →
 J9 limit_26 a_93 v86 wasBalanced_92 b_94 h96) X)) X))) ∧
 ∀ limit_10 a_11 wasPartitioned_12 wasBalanced_13 b_14 (d15 : Nat → Value) (h16 : Hp), J9 limit_10 a_11 wasPartitioned_12 wasBalanced_13 b_14 h16 →
 I0 limit_10 a_11 wasPartitioned_12 wasBalanced_13 b_14 h16 ∧ μ1 limit_10 a_11 wasPartitioned_12 wasBalanced_13 b_14 h16 < μ1 limit_2 a_3 wasPartitioned_4 wasBalanced_5 b_6 h8
def A_slices_pdqsortOrdered_int : Ann :=
 (.two .leaf (.two .leaf (.one (.loop [19, 20, 21, 10, 22, 23, 24, 25, 26, 27, 28, 29, 30, 31, 32, 33, 34, 35, 36, 37, 38, 39, 40, 41, 3, 43, 44, 45, 46, 42, 47, 48, 11, 12, 49, 50, 51, 52, 53, 54, 55, 56, 57, 58, 59, 60, 61, 62, 63, 64, 65, 66, 67, 68, 69, 70, 71, 72, 73, 74, 75, 76, 77, 78, 79, 80, 81, 82, 83, 84, 85, 86, 87, 88, 89, 90, 91, 92, 13, 93, 1, 95, 96, 97, 98, 99, 94, 100, 101, 14, 15, 102, 9, 103, 104, 105, 106, 107, 108, 16, 17, 109, 110, 18, 111, 112, 113, 114, 115, 116, 8, 117, 118, 119, 120, 121, 122, 123, 124, 125, 126, 127, 128, 129, 130, 131, 132, 133, 2] [3, 1, 9, 8, 2] (.join [19, 20, 21, 10, 22, 23, 24, 25, 26, 27, 28, 29, 30, 31, 32, 33, 34, 35, 36, 37, 38, 39, 40, 41, 3, 43, 44, 45, 46, 42, 47, 48, 11, 12, 49, 50, 51, 52, 53, 54, 55, 56, 57, 58, 59, 60, 61, 62, 63, 64, 65, 66, 67, 68, 69, 70, 71, 72, 73, 74, 75, 76, 77, 78, 79, 80, 81, 82, 83, 84, 85, 86, 87, 88, 89, 90, 91, 92, 13, 93, 1, 95, 96, 97, 98, 99, 94, 100, 101, 14, 15, 102, 9, 103, 104, 105, 106, 107, 108, 16, 17, 109, 110, 18, 111, 112, 113, 114, 115, 116, 8, 117, 118, 119, 120, 121, 122, 123, 124, 125, 126, 127, 128, 129, 130, 131, 132, 133, 2] [3, 1, 9, 8, 2] (.one (.two .leaf (.two (.two .leaf (.two (.two .leaf .leaf) .leaf)) (.two (.two .leaf (.two (.two .leaf .leaf) .leaf)) (.two (.two .leaf (.join [36, 37, 38, 39, 40, 41, 3] [3] (.two (.two .leaf .leaf) .leaf))) (.two .leaf (.two (.two .leaf (.join [51, 52, 53, 54, 55, 56, 57, 58, 59, 60, 11, 12] [11, 12] (.two (.two .leaf (.two .leaf .leaf)) .leaf))) (.two (.two (.jb [61, 62, 63, 64, 65, 66, 67, 68] 68 .leaf) (.join [69, 70, 71, 72] [] (.two (.two .leaf (.two .leaf .leaf)) .leaf))) (.two (.two (.join [73, 74, 75, 76, 77, 78, 79, 80, 81, 82, 83, 84, 85, 86, 87] [87] (.plan [0, 1, 2, 3, 4, 5, 6, 7, 8, 9, 10, 11, 12, 13, 14])) (.two (.two .leaf (.two .leaf .leaf)) .leaf)) (.two .leaf (.two .leaf (.two .leaf (.two .leaf (.two .leaf (.join [114, 115, 116, 8, 117, 118, 119, 120, 121, 122, 123, 1, 124, 125, 126, 127, 128, 129, 130, 131, 132, 133, 2] [8, 1, 2] (.two (.two .leaf (.two .leaf .leaf)) (.two .leaf (.two .leaf .leaf)))))))))))))))))))))))
theorem C_slices_pdqsortOrdered_int (ω : Amb) (data_p a_p b_p limit_p : Value) (h : Hp) (R : Value → Hp → Prop) (X : List PanicEntry → Hp → Prop) (hk : W_slices_pdqsortOrdered_int ω data_p a_p b_p limit_p h R X) : CallX Try.prog ω 32 [data_p, a_p, b_p, limit_p] h R X :=
 callX_of (an := A_slices_pdqsortOrdered_int) Try.func32 ((show fnX Try.prog ω A_slices_pdqsortOrdered_int Try.f32 [data_p, a_p, b_p, limit_p] h R X = W_slices_pdqsortOrdered_int ω data_p a_p b_p limit_p h R X by kernel_rfl) ▸ hk)

/-- math/bits.Len -/
abbrev n_math_bits_Len : Nat := 33
def W_math_bits_Len (ω : Amb) (x_p : Value) (h : Hp) (R : Value → Hp → Prop) (X : List PanicEntry → Hp → Prop) : Prop :=
 CallX Try.prog ω 46 [x_p] h (fun r0 h1 =>
 R r0 h1) X
def A_math_bits_Len : Ann :=
 (.two .leaf (.two (.two (.two .leaf .leaf) .leaf) (.two .leaf .leaf)))
theorem C_math_bits_Len (ω : Amb) (x_p : Value) (h : Hp) (R : Value → Hp → Prop) (X : List PanicEntry → Hp → Prop) (hk : W_math_bits_Len ω x_p h R X) : CallX Try.prog ω 33 [x_p] h R X :=
 callX_of (an := A_math_bits_Len) Try.func33 ((show fnX Try.prog ω A_math_bits_Len Try.f33 [x_p] h R X = W_math_bits_Len ω x_p h R X by kernel_rfl) ▸ hk)

/-- slices.Index[[]int,int] -/
abbrev n_slices_Index_sl_int_int : Nat := 34
def W_slices_Index_sl_int_int (ω : Amb) (s_p v_p : Value) (h : Hp) (R : Value → Hp → Prop) (X : List PanicEntry → Hp → Prop) : Prop :=
 asSl s_p fun a0 l1 c2 => ∃ (I3 : Value → Hp → Prop) (μ4 : Value → Hp → Nat), I3 (.int .i64 0) h ∧ ∀ t8_5 (d6 : Nat → Value) (h7 : Hp), I3 t8_5 h7 →
 asK .i64 t8_5 fun n8 => cond (decide ((n8 : Int) < (l1 : Int)))
 (asSl1 s_p fun a9 l10 c11 => asI t8_5 fun n12 => 0 ≤ (n12 : Int) ∧ n12 < (l10 : Int) ∧ ∃ v13, cellH h7 (Addr.add a9 (Int.toNat n12 * 1)) = some v13 ∧
 asK .i64 v_p fun n14 => asK .i64 v13 fun n15 => cond (n14 == (n15 : Int))
 (R t8_5 h7)
 (asK .i64 t8_5 fun n16 => I3 (.int .i64 (IntKind.wrap .i64 (n16 + 1))) h7 ∧ μ4 (.int .i64 (IntKind.wrap .i64 (n16 + 1))) h7 < μ4 t8_5 h7))
 (R (.int .i64 (-1)) h7)
def A_slices_Index_sl_int_int : Ann :=
 (.two .leaf (.two (.two .leaf (.one (.loop [9, 10, 5, 11, 12, 13, 14, 15, 16, 17, 4, 18, 8] [8] (.two .leaf (.two (.two .leaf .leaf) (.two (.one (.two .leaf (.two .leaf (.two (.two .leaf .leaf) .leaf)))) .leaf)))))) (.two .leaf .leaf)))
theorem C_slices_Index_sl_int_int (ω : Amb) (s_p v_p : Value) (h : Hp) (R : Value → Hp → Prop) (X : List PanicEntry → Hp → Prop) (hk : W_slices_Index_sl_int_int ω s_p v_p h R X) : CallX Try.prog ω 34 [s_p, v_p] h R X :=
 callX_of (an := A_slices_Index_sl_int_int) Try.func34 ((show fnX Try.prog ω A_slices_Index_sl_int_int Try.f34 [s_p, v_p] h R X = W_slices_Index_sl_int_int ω s_p v_p h R X by kernel_rfl) ▸ hk)

/-- math/bits.Mul -/
abbrev n_math_bits_Mul : Nat := 35
def W_math_bits_Mul (ω : Amb) (x_p y_p : Value) (h : Hp) (R : Value → Hp → Prop) (X : List PanicEntry → Hp → Prop) : Prop :=
 CallX Try.prog ω 48 [x_p, y_p] h (fun r0 h1 =>
 asT r0 fun T2 => asO T2[0]? fun v3 => asT r0 fun T4 => asO T4[1]? fun v5 => R (.tuple #[v3, v5]) h1) X
def A_math_bits_Mul : Ann :=
 (.two .leaf (.two (.two (.two .leaf (.two .leaf .leaf)) .leaf) (.two .leaf (.two .leaf .leaf))))
theorem C_math_bits_Mul (ω : Amb) (x_p y_p : Value) (h : Hp) (R : Value → Hp → Prop) (X : List PanicEntry → Hp → Prop) (hk : W_math_bits_Mul ω x_p y_p h R X) : CallX Try.prog ω 35 [x_p, y_p] h R X :=
 callX_of (an := A_math_bits_Mul) Try.func35 ((show fnX Try.prog ω A_math_bits_Mul Try.f35 [x_p, y_p] h R X = W_math_bits_Mul ω x_p y_p h R X by kernel_rfl) ▸ hk)

/-- slices.insertionSortOrdered[int] -/
abbrev n_slices_insertionSortOrdered_int : Nat := 36
def W_slices_insertionSortOrdered_int (ω : Amb) (data_p a_p b_p : Value) (h : Hp) (R : Value → Hp → Prop) (X : List PanicEntry → Hp → Prop) : Prop :=
 asK .i64 a_p fun n0 => ∃ (I1 : Value → Hp → Prop) (μ2 : Value → Hp → Nat), I1 (.int .i64 (IntKind.wrap .i64 (n0 + 1))) h ∧ ∀ i_3 (d4 : Nat → Value) (h5 : Hp), I1 i_3 h5 →
 asK .i64 i_3 fun n6 => asK .i64 b_p fun n7 => cond (decide ((n6 : Int) < n7))
 (∃ (I8 : Value → Hp → Prop) (μ9 : Value → Hp → Nat), I8 i_3 h5 ∧ ∀ j_10 (d11 : Nat → Value) (h12 : Hp), I8 j_10 h12 →
 ∃ J13 : Value → Hp → Prop,
 (asK .i64 j_10 fun n17 => asK .i64 a_p fun n18 => cond (decide ((n17 : Int) > n18))
 (asSl1 data_p fun a19 l20 c21 => asI j_10 fun n22 => 0 ≤ (n22 : Int) ∧ n22 < (l20 : Int) ∧ ∃ v23, cellH h12 (Addr.add a19 (Int.toNat n22 * 1)) = some v23 ∧
 asK .i64 j_10 fun n24 => asSl1 data_p fun a25 l26 c27 => 0 ≤ ((IntKind.wrap .i64 (n24 - 1)) : Int) ∧ (IntKind.wrap .i64 (n24 - 1)) < (l26 : Int) ∧ ∃ v28, cellH h12 (Addr.add a25 (Int.toNat (IntKind.wrap .i64 (n24 - 1)) * 1)) = some v28 ∧
 CallX Try.prog ω 42 [v23, v28] h12 (fun r29 h30 =>
 J13 r29 h30) X)
 (J13 (.bool false) h12)) ∧
 ∀ t30_14 (d15 : Nat → Value) (h16 : Hp), J13 t30_14 h16 →
 asB t30_14 fun b31 => cond b31
 (asK .i64 j_10 fun n32 => asK .i64 j_10 fun n33 => asSl1 data_p fun a34 l35 c36 => 0 ≤ ((IntKind.wrap .i64 (n33 - 1)) : Int) ∧ (IntKind.wrap .i64 (n33 - 1)) < (l35 : Int) ∧ ∃ v37, cellH h16 (Addr.add a34 (Int.toNat (IntKind.wrap .i64 (n33 - 1)) * 1)) = some v37 ∧
 asSl1 data_p fun a38 l39 c40 => asI j_10 fun n41 => 0 ≤ (n41 : Int) ∧ n41 < (l39 : Int) ∧ ∃ v42, cellH h16 (Addr.add a38 (Int.toNat n41 * 1)) = some v42 ∧
 asSl1 data_p fun a43 l44 c45 => asI j_10 fun n46 => 0 ≤ (n46 : Int) ∧ n46 < (l44 : Int) ∧ oneK v37 (storeK1 h16 (Addr.add a43 (Int.toNat n46 * 1)) v37 fun h47 =>
 asSl1 data_p fun a48 l49 c50 => 0 ≤ ((IntKind.wrap .i64 (n32 - 1)) : Int) ∧ (IntKind.wrap .i64 (n32 - 1)) < (l49 : Int) ∧ oneK v42 (storeK1 h47 (Addr.add a48 (Int.toNat (IntKind.wrap .i64 (n32 - 1)) * 1)) v42 fun h51 =>
 asK .i64 j_10 fun n52 => I8 (.int .i64 (IntKind.wrap .i64 (n52 - 1))) h51 ∧ μ9 (.int .i64 (IntKind.wrap .i64 (n52 - 1))) h51 < μ9 j_10 h12)))
 (asK .i64 i_3 fun n53 => I1 (.int .i64 (IntKind.wrap .i64 (n53 + 1))) h16 ∧ μ2 (.int .i64 (IntKind.wrap .i64 (n53 + 1))) h16 < μ2 i_3 h5))
 (R (.tuple #[]) h5)
def A_slices_insertionSortOrdered_int : Ann :=
 (.two .leaf (.one (.loop [10, 11, 12, 15, 7, 16, 17, 18, 19, 20, 21, 22, 23, 24, 25, 26, 27, 28, 29, 30, 33, 34, 35, 36, 37, 38, 39, 40, 41, 42, 43, 44, 45, 46, 47, 48, 31, 32, 13, 14, 6] [6] (.two (.two .leaf (.two .leaf .leaf)) (.two (.one (.two .leaf (.one (.loop [16, 17, 18, 19, 20, 21, 22, 23, 24, 25, 26, 27, 28, 29, 30, 33, 34, 35, 36, 37, 38, 39, 40, 41, 42, 43, 44, 45, 46, 47, 48, 31, 32, 7] [7] (.two (.two (.join [16, 17, 18, 19, 20, 21, 22, 23, 24, 25, 26, 27, 28, 29, 30] [30] (.plan [0, 1, 2, 3, 4, 5, 6, 7, 8, 9, 10, 11, 12, 13, 14])) (.two .leaf .leaf)) (.two (.one (.plan [0, 1, 2, 3, 4, 5, 6, 7, 8, 9, 10, 11, 12, 13, 14, 15, 16, 17])) .leaf)))))) .leaf)))))
theorem C_slices_insertionSortOrdered_int (ω : Amb) (data_p a_p b_p : Value) (h : Hp) (R : Value → Hp → Prop) (X : List PanicEntry → Hp → Prop) (hk : W_slices_insertionSortOrdered_int ω data_p a_p b_p h R X) : CallX Try.prog ω 36 [data_p, a_p, b_p] h R X :=
 callX_of (an := A_slices_insertionSortOrdered_int) Try.func36 ((show fnX Try.prog ω A_slices_insertionSortOrdered_int Try.f36 [data_p, a_p, b_p] h R X = W_slices_insertionSortOrdered_int ω data_p a_p b_p h R X by kernel_rfl) ▸ hk)

/-- slices.heapSortOrdered[int] -/
abbrev n_slices_heapSortOrdered_int : Nat := 37
def W_slices_heapSortOrdered_int (ω : Amb) (data_p a_p b_p : Value) (h : Hp) (R : Value → Hp → Prop) (X : List PanicEntry → Hp → Prop) : Prop :=
 asK .i64 b_p fun n0 => asK .i64 a_p fun n1 => (2 : Int) ≠ 0 ∧ ∃ (I2 : Value → Hp → Prop) (μ3 : Value → Hp → Nat), I2 (.int .i64 (IntKind.wrap .i64 (Int.tdiv (IntKind.wrap .i64 ((IntKind.wrap .i64 (n0 - n1)) - 1)) 2))) h ∧ ∀ i_4 (d5 : Nat → Value) (h6 : Hp), I2 i_4 h6 →
 asK .i64 i_4 fun n7 => cond (decide ((n7 : Int) ≥ 0))
 (CallX Try.prog ω 49 [data_p, i_4, (.int .i64 (IntKind.wrap .i64 (n0 - n1))), a_p] h6 (fun r8 h9 =>
 asK .i64 i_4 fun n10 => I2 (.int .i64 (IntKind.wrap .i64 (n10 - 1))) h9 ∧ μ3 (.int .i64 (IntKind.wrap .i64 (n10 - 1))) h9 < μ3 i_4 h6) X)
 (∃ (I11 : Value → Hp → Prop) (μ12 : Value → Hp → Nat), I11 (.int .i64 (IntKind.wrap .i64 ((IntKind.wrap .i64 (n0 - n1)) - 1))) h6 ∧ ∀ i_13 (d14 : Nat → Value) (h15 : Hp), I11 i_13 h15 →
 asK .i64 i_13 fun n16 => cond (decide ((n16 : Int) ≥ 0))
 (asK .i64 a_p fun n17 => asK .i64 i_13 fun n18 => asK .i64 a_p fun n19 => asK .i64 i_13 fun n20 => asSl1 data_p fun a21 l22 c23 => 0 ≤ ((IntKind.wrap .i64 (n19 + n20)) : Int) ∧ (IntKind.wrap .i64 (n19 + n20)) < (l22 : Int) ∧ ∃ v24, cellH h15 (Addr.add a21 (Int.toNat (IntKind.wrap .i64 (n19 + n20)) * 1)) = some v24 ∧
 asSl1 data_p fun a25 l26 c27 => asI a_p fun n28 => 0 ≤ (n28 : Int) ∧ n28 < (l26 : Int) ∧ ∃ v29, cellH h15 (Addr.add a25 (Int.toNat n28 * 1)) = some v29 ∧
 asSl1 data_p fun a30 l31 c32 => asI a_p fun n33 => 0 ≤ (n33 : Int) ∧ n33 < (l31 : Int) ∧ oneK v24 (storeK1 h15 (Addr.add a30 (Int.toNat n33 * 1)) v24 fun h34 =>
 asSl1 data_p fun a35 l36 c37 => 0 ≤ ((IntKind.wrap .i64 (n17 + n18)) : Int) ∧ (IntKind.wrap .i64 (n17 + n18)) < (l36 : Int) ∧ oneK v29 (storeK1 h34 (Addr.add a35 (Int.toNat (IntKind.wrap .i64 (n17 + n18)) * 1)) v29 fun h38 =>
 CallX Try.prog ω 49 [data_p, (.int .i64 0), i_13, a_p] h38 (fun r39 h40 =>
 asK .i64 i_13 fun n41 => I11 (.int .i64 (IntKind.wrap .i64 (n41 - 1))) h40 ∧ μ12 (.int .i64 (IntKind.wrap .i64 (n41 - 1))) h40 < μ12 i_13 h15) X)))
 (R (.tuple #[]) h15))
def A_slices_heapSortOrdered_int : Ann :=
 (.two .leaf (.two .leaf (.two .leaf (.two (.two .leaf (.one (.loop [18, 19, 22, 23, 24, 25, 26, 20, 21, 9] [9] (.two (.two .leaf (.two .leaf .leaf)) (.two (.one .leaf) .leaf))))) (.two .leaf (.one (.loop [29, 30, 33, 34, 35, 36, 37, 38, 39, 40, 41, 42, 43, 44, 45, 46, 47, 48, 49, 50, 51, 52, 53, 54, 55, 31, 32, 10] [10] (.two (.two .leaf (.two .leaf .leaf)) (.two (.one (.two (.plan [0, 1, 2, 3, 4, 5, 6, 7, 8, 9, 10, 11, 12, 13, 14, 15, 16, 17, 18, 19]) .leaf)) .leaf)))))))))
theorem C_slices_heapSortOrdered_int (ω : Amb) (data_p a_p b_p : Value) (h : Hp) (R : Value → Hp → Prop) (X : List PanicEntry → Hp → Prop) (hk : W_slices_heapSortOrdered_int ω data_p a_p b_p h R X) : CallX Try.prog ω 37 [data_p, a_p, b_p] h R X :=
 callX_of (an := A_slices_heapSortOrdered_int) Try.func37 ((show fnX Try.prog ω A_slices_heapSortOrdered_int Try.f37 [data_p, a_p, b_p] h R X = W_slices_heapSortOrdered_int ω data_p a_p b_p h R X by kernel_rfl) ▸ hk)

/-- slices.breakPatternsOrdered[int] -/
abbrev n_slices_breakPatternsOrdered_int : Nat := 38
def W_slices_breakPatternsOrdered_int (ω : Amb) (data_p a_p b_p : Value) (h : Hp) (R : Value → Hp → Prop) (X : List PanicEntry → Hp → Prop) : Prop :=
 asK .i64 b_p fun n0 => asK .i64 a_p fun n1 => ∃ J2 : Hp → Prop,
 (cond (decide (((IntKind.wrap .i64 (n0 - n1)) : Int) ≥ 8))
 (storeK1 (Array.push h (.cells #[(.int .u64 0)] 80 (0, 0))) ⟨Array.size h, 0, none⟩ (.int .u64 (IntKind.wrap .u64 (IntKind.wrap .i64 (n0 - n1)))) fun h5 =>
 CallX Try.prog ω 50 [(.int .i64 (IntKind.wrap .i64 (n0 - n1)))] h5 (fun r6 h7 =>
 (4 : Int) ≠ 0 ∧ asK .i64 a_p fun n8 => ∃ (I9 : Value → Hp → Prop) (μ10 : Value → Hp → Nat), I9 (.int .i64 (IntKind.wrap .i64 ((IntKind.wrap .i64 (n8 + (IntKind.wrap .i64 ((IntKind.wrap .i64 (Int.tdiv (IntKind.wrap .i64 (n0 - n1)) 4)) * 2)))) - 1))) h7 ∧ ∀ idx_11 (d12 : Nat → Value) (h13 : Hp), I9 idx_11 h13 →
 (4 : Int) ≠ 0 ∧ asK .i64 a_p fun n14 => asK .i64 idx_11 fun n15 => cond (decide ((n15 : Int) ≤ (IntKind.wrap .i64 ((IntKind.wrap .i64 (n14 + (IntKind.wrap .i64 ((IntKind.wrap .i64 (Int.tdiv (IntKind.wrap .i64 (n0 - n1)) 4)) * 2)))) + 1))))
 (CallX Try.prog ω 51 [(.pointer (some ⟨Array.size h, 0, none⟩))] h13 (fun r16 h17 =>
 asK .u64 r6 fun n18 => asK .u64 r16 fun n19 => ∃ J20 : Value → Hp → Prop,
 (cond (decide (((IntKind.wrap .i64 (bitI .u64 .and n19 (IntKind.wrap .u64 (n18 - 1)))) : Int) ≥ (IntKind.wrap .i64 (n0 - n1))))
 (J20 (.int .i64 (IntKind.wrap .i64 ((IntKind.wrap .i64 (bitI .u64 .and n19 (IntKind.wrap .u64 (n18 - 1)))) - (IntKind.wrap .i64 (n0 - n1))))) h17)
 (J20 (.int .i64 (IntKind.wrap .i64 (bitI .u64 .and n19 (IntKind.wrap .u64 (n18 - 1))))) h17)) ∧
 ∀ other_21 (d22 : Nat → Value) (h23 : Hp), J20 other_21 h23 →
 asK .i64 a_p fun n24 => asK .i64 other_21 fun n25 => asK .i64 a_p fun n26 => asK .i64 other_21 fun n27 => asSl1 data_p fun a28 l29 c30 => 0 ≤ ((IntKind.wrap .i64 (n26 + n27)) : Int) ∧ (IntKind.wrap .i64 (n26 + n27)) < (l29 : Int) ∧ ∃ v31, cellH h23 (Addr.add a28 (Int.toNat (IntKind.wrap .i64 (n26 + n27)) * 1)) = some v31 ∧
 asSl1 data_p fun a32 l33 c34 => asI idx_11 fun n35 => 0 ≤ (n35 : Int) ∧ n35 < (l33 : Int) ∧ ∃ v36, cellH h23 (Addr.add a32 (Int.toNat n35 * 1)) = some v36 ∧
 asSl1 data_p fun a37 l38 c39 => asI idx_11 fun n40 => 0 ≤ (n40 : Int) ∧ n40 < (l38 : Int) ∧ oneK v31 (storeK1 h23 (Addr.add a37 (Int.toNat n40 * 1)) v31 fun h41 =>
 asSl1 data_p fun a42 l43 c44 => 0 ≤ ((IntKind.wrap .i64 (n24 + n25)) : Int) ∧ (IntKind.wrap .i64 (n24 + n25)) < (l43 : Int) ∧ oneK v36 (storeK1 h41 (Addr.add a42 (Int.toNat (IntKind.wrap .i64 (n24 + n25)) * 1)) v36 fun h45 =>
 asK .i64 idx_11 fun n46 => I9 (.int .i64 (IntKind.wrap .i64 (n46 + 1))) h45 ∧ μ10 (.int .i64 (IntKind.wrap .i64 (n46 + 1))) h45 < μ10 idx_11 h13))) X)
 (J2 h13)) X)
 (J2 h)) ∧
 ∀  (d3 : Nat → Value) (h4 : Hp), J2 h4 →
 R (.tuple #[]) h4
def A_slices_breakPatternsOrdered_int : Ann :=
 (.two .leaf (.two .leaf (.join [16, 17, 7, 18, 19, 8, 20, 21, 22, 23, 24, 25, 9, 26, 27, 28, 29, 30, 31, 32, 33, 36, 37, 38, 39, 40, 10, 41, 42, 43, 44, 45, 46, 47, 48, 49, 50, 51, 52, 53, 54, 55, 56, 57, 58, 59, 60, 61, 62, 63, 64, 34, 35] [] (.two (.two .leaf (.two .leaf (.two .leaf (.one (.loop [26, 27, 28, 29, 30, 31, 32, 33, 36, 37, 38, 39, 40, 10, 41, 42, 43, 44, 45, 46, 47, 48, 49, 50, 51, 52, 53, 54, 55, 56, 57, 58, 59, 60, 61, 62, 63, 64, 34, 35, 9] [9] (.two (.two .leaf (.two .leaf .leaf)) (.two (.one (.two .leaf (.two (.two .leaf (.join [44, 45, 46, 10] [10] (.two .leaf .leaf))) (.plan [0, 1, 2, 3, 4, 5, 6, 7, 8, 9, 10, 11, 12, 13, 14, 15, 16, 17, 18, 19])))) .leaf))))))) .leaf))))
theorem C_slices_breakPatternsOrdered_int (ω : Amb) (data_p a_p b_p : Value) (h : Hp) (R : Value → Hp → Prop) (X : List PanicEntry → Hp → Prop) (hk : W_slices_breakPatternsOrdered_int ω data_p a_p b_p h R X) : CallX Try.prog ω 38 [data_p, a_p, b_p] h R X :=
 callX_of (an := A_slices_breakPatternsOrdered_int) Try.func38 ((show fnX Try.prog ω A_slices_breakPatternsOrdered_int Try.f38 [data_p, a_p, b_p] h R X = W_slices_breakPatternsOrdered_int ω data_p a_p b_p h R X by kernel_rfl) ▸ hk)

/-- slices.choosePivotOrdered[int] -/
abbrev n_slices_choosePivotOrdered_int : Nat := 39
def W_slices_choosePivotOrdered_int (ω : Amb) (data_p a_p b_p : Value) (h : Hp) (R : Value → Hp → Prop) (X : List PanicEntry → Hp → Prop) : Prop :=
 asK .i64 b_p fun n0 => asK .i64 a_p fun n1 => (4 : Int) ≠ 0 ∧ asK .i64 a_p fun n2 => (4 : Int) ≠ 0 ∧ asK .i64 a_p fun n3 => (4 : Int) ≠ 0 ∧ asK .i64 a_p fun n4 => ∃ J5 : Value → Hp → Prop,
 (cond (decide (((IntKind.wrap .i64 (n0 - n1)) : Int) ≥ 8))
 (∃ J9 : Value → Value → Value → Hp → Prop,
 (cond (decide (((IntKind.wrap .i64 (n0 - n1)) : Int) ≥ 50))
 (CallX Try.prog ω 52 [data_p, (.int .i64 (IntKind.wrap .i64 (n2 + (IntKind.wrap .i64 ((IntKind.wrap .i64 (Int.tdiv (IntKind.wrap .i64 (n0 - n1)) 4)) * 1))))), (.pointer (some ⟨Array.size h, 0, none⟩))] (Array.push h (.cells #[(.int .i64 0)] 3 (0, 0))) (fun r15 h16 =>
 CallX Try.prog ω 52 [data_p, (.int .i64 (IntKind.wrap .i64 (n3 + (IntKind.wrap .i64 ((IntKind.wrap .i64 (Int.tdiv (IntKind.wrap .i64 (n0 - n1)) 4)) * 2))))), (.pointer (some ⟨Array.size h, 0, none⟩))] h16 (fun r17 h18 =>
 CallX Try.prog ω 52 [data_p, (.int .i64 (IntKind.wrap .i64 (n4 + (IntKind.wrap .i64 ((IntKind.wrap .i64 (Int.tdiv (IntKind.wrap .i64 (n0 - n1)) 4)) * 3))))), (.pointer (some ⟨Array.size h, 0, none⟩))] h18 (fun r19 h20 =>
 J9 r15 r17 r19 h20) X) X) X)
 (J9 (.int .i64 (IntKind.wrap .i64 (n2 + (IntKind.wrap .i64 ((IntKind.wrap .i64 (Int.tdiv (IntKind.wrap .i64 (n0 - n1)) 4)) * 1))))) (.int .i64 (IntKind.wrap .i64 (n3 + (IntKind.wrap .i64 ((IntKind.wrap .i64 (Int.tdiv (IntKind.wrap .i64 (n0 - n1)) 4)) * 2))))) (.int .i64 (IntKind.wrap .i64 (n4 + (IntKind.wrap .i64 ((IntKind.wrap .i64 (Int.tdiv (IntKind.wrap .i64 (n0 - n1)) 4)) * 3))))) (Array.push h (.cells #[(.int .i64 0)] 3 (0, 0))))) ∧
 ∀ i_10 j_11 k_12 (d13 : Nat → Value) (h14 : Hp), J9 i_10 j_11 k_12 h14 →
 CallX Try.prog ω 53 [data_p, i_10, j_11, k_12, (.pointer (some ⟨Array.size h, 0, none⟩))] h14 (fun r21 h22 =>
 J5 r21 h22) X)
 (J5 (.int .i64 (IntKind.wrap .i64 (n3 + (IntKind.wrap .i64 ((IntKind.wrap .i64 (Int.tdiv (IntKind.wrap .i64 (n0 - n1)) 4)) * 2))))) (Array.push h (.cells #[(.int .i64 0)] 3 (0, 0))))) ∧
 ∀ j_6 (d7 : Nat → Value) (h8 : Hp), J5 j_6 h8 →
 ∃ v23, cellH h8 ⟨Array.size h, 0, none⟩ = some v23 ∧
 asK .i64 v23 fun n24 => cond (n24 == (0 : Int))
 (R (.tuple #[j_6, (.int .i64 1)]) h8)
 (asK .i64 v23 fun n25 => cond (n25 == (12 : Int))
 (R (.tuple #[j_6, (.int .i64 2)]) h8)
 (R (.tuple #[j_6, (.int .i64 0)]) h8))
def A_slices_choosePivotOrdered_int : Ann :=
 (.two .leaf (.two .leaf (.two .leaf (.two .leaf (.two .leaf (.two .leaf (.two (.two .leaf (.join [33, 34, 35, 36, 37, 10, 38, 39, 40, 11, 41, 42, 43, 12, 44, 45, 46, 47, 48] [11] (.two (.two (.two .leaf (.join [35, 36, 37, 10, 38, 39, 40, 11, 41, 42, 43, 12] [10, 11, 12] (.two (.two .leaf (.two .leaf .leaf)) .leaf))) .leaf) .leaf))) (.two .leaf (.one (.two .leaf (.two (.two .leaf .leaf) (.two .leaf (.two (.two .leaf .leaf) (.two .leaf .leaf))))))))))))))
theorem C_slices_choosePivotOrdered_int (ω : Amb) (data_p a_p b_p : Value) (h : Hp) (R : Value → Hp → Prop) (X : List PanicEntry → Hp → Prop) (hk : W_slices_choosePivotOrdered_int ω data_p a_p b_p h R X) : CallX Try.prog ω 39 [data_p, a_p, b_p] h R X :=
 callX_of (an := A_slices_choosePivotOrdered_int) Try.func39 ((show fnX Try.prog ω A_slices_choosePivotOrdered_int Try.f39 [data_p, a_p, b_p] h R X = W_slices_choosePivotOrdered_int ω data_p a_p b_p h R X by kernel_rfl) ▸ hk)

/-- slices.reverseRangeOrdered[int] -/
abbrev n_slices_reverseRangeOrdered_int : Nat := 40
def W_slices_reverseRangeOrdered_int (ω : Amb) (data_p a_p b_p : Value) (h : Hp) (R : Value → Hp → Prop) (X : List PanicEntry → Hp → Prop) : Prop :=
 asK .i64 b_p fun n0 => ∃ (I1 : Value → Value → Hp → Prop) (μ2 : Value → Value → Hp → Nat), I1 a_p (.int .i64 (IntKind.wrap .i64 (n0 - 1))) h ∧ ∀ i_3 j_4 (d5 : Nat → Value) (h6 : Hp), I1 i_3 j_4 h6 →
 asK .i64 i_3 fun n7 => asK .i64 j_4 fun n8 => cond (decide ((n7 : Int) < n8))
 (asSl1 data_p fun a9 l10 c11 => asI j_4 fun n12 => 0 ≤ (n12 : Int) ∧ n12 < (l10 : Int) ∧ ∃ v13, cellH h6 (Addr.add a9 (Int.toNat n12 * 1)) = some v13 ∧
 asSl1 data_p fun a14 l15 c16 => asI i_3 fun n17 => 0 ≤ (n17 : Int) ∧ n17 < (l15 : Int) ∧ ∃ v18, cellH h6 (Addr.add a14 (Int.toNat n17 * 1)) = some v18 ∧
 asSl1 data_p fun a19 l20 c21 => asI i_3 fun n22 => 0 ≤ (n22 : Int) ∧ n22 < (l20 : Int) ∧ oneK v13 (storeK1 h6 (Addr.add a19 (Int.toNat n22 * 1)) v13 fun h23 =>
 asSl1 data_p fun a24 l25 c26 => asI j_4 fun n27 => 0 ≤ (n27 : Int) ∧ n27 < (l25 : Int) ∧ oneK v18 (storeK1 h23 (Addr.add a24 (Int.toNat n27 * 1)) v18 fun h28 =>
 asK .i64 i_3 fun n29 => asK .i64 j_4 fun n30 => I1 (.int .i64 (IntKind.wrap .i64 (n29 + 1))) (.int .i64 (IntKind.wrap .i64 (n30 - 1))) h28 ∧ μ2 (.int .i64 (IntKind.wrap .i64 (n29 + 1))) (.int .i64 (IntKind.wrap .i64 (n30 - 1))) h28 < μ2 i_3 j_4 h6)))
 (R (.tuple #[]) h6)
def A_slices_reverseRangeOrdered_int : Ann :=
 (.two .leaf (.two .leaf (.one (.loop [11, 12, 13, 14, 15, 16, 17, 18, 19, 20, 21, 22, 23, 24, 25, 26, 27, 28, 29, 6, 30, 31, 7] [6, 7] (.two (.two .leaf (.two .leaf .leaf)) (.one (.two (.plan [0, 1, 2, 3, 4, 5, 6, 7, 8, 9, 10, 11, 12, 13, 14, 15]) (.two .leaf .leaf))))))))
theorem C_slices_reverseRangeOrdered_int (ω : Amb) (data_p a_p b_p : Value) (h : Hp) (R : Value → Hp → Prop) (X : List PanicEntry → Hp → Prop) (hk : W_slices_reverseRangeOrdered_int ω data_p a_p b_p h R X) : CallX Try.prog ω 40 [data_p, a_p, b_p] h R X :=
 callX_of (an := A_slices_reverseRangeOrdered_int) Try.func40 ((show fnX Try.prog ω A_slices_reverseRangeOrdered_int Try.f40 [data_p, a_p, b_p] h R X = W_slices_reverseRangeOrdered_int ω data_p a_p b_p h R X by kernel_rfl) ▸ hk)

/-- slices.partialInsertionSortOrdered[int] -/
abbrev n_slices_partialInsertionSortOrdered_int : Nat := 41
def W_slices_partialInsertionSortOrdered_int (ω : Amb) (data_p a_p b_p : Value) (h : Hp) (R : Value → Hp → Prop) (X : List PanicEntry → Hp → Prop) : Prop :=
 asK .i64 a_p fun n0 => ∃ (I1 : Value → Value → Hp → Prop) (μ2 : Value → Value → Hp → Nat), I1 (.int .i64 (IntKind.wrap .i64 (n0 + 1))) (.int .i64 0) h ∧ ∀ i_3 j_4 (d5 : Nat → Value) (h6 : Hp), I1 i_3 j_4 h6 →
 asK .i64 j_4 fun n7 => cond (decide ((n7 : Int) < 5))
 (∃ J8 : Value → Hp → Prop,
 (∃ (I12 : Value → Hp → Prop) (μ13 : Value → Hp → Nat), I12 i_3 h6 ∧ ∀ i_14 (d15 : Nat → Value) (h16 : Hp), I12 i_14 h16 →
 ∃ J17 : Value → Hp → Prop,
 (asK .i64 i_14 fun n21 => asK .i64 b_p fun n22 => cond (decide ((n21 : Int) < n22))
 (asSl1 data_p fun a23 l24 c25 => asI i_14 fun n26 => 0 ≤ (n26 : Int) ∧ n26 < (l24 : Int) ∧ ∃ v27, cellH h16 (Addr.add a23 (Int.toNat n26 * 1)) = some v27 ∧
 asK .i64 i_14 fun n28 => asSl1 data_p fun a29 l30 c31 => 0 ≤ ((IntKind.wrap .i64 (n28 - 1)) : Int) ∧ (IntKind.wrap .i64 (n28 - 1)) < (l30 : Int) ∧ ∃ v32, cellH h16 (Addr.add a29 (Int.toNat (IntKind.wrap .i64 (n28 - 1)) * 1)) = some v32 ∧
 CallX Try.prog ω 42 [v27, v32] h16 (fun r33 h34 =>
 asB r33 fun b35 => J17 (.bool (!b35)) h34) X)
 (J17 (.bool false) h16)) ∧
 ∀ t32_18 (d19 : Nat → Value) (h20 : Hp), J17 t32_18 h20 →
 asB t32_18 fun b36 => cond b36
 (asK .i64 i_14 fun n37 => I12 (.int .i64 (IntKind.wrap .i64 (n37 + 1))) h20 ∧ μ13 (.int .i64 (IntKind.wrap .i64 (n37 + 1))) h20 < μ13 i_14 h16)
 (asK .i64 i_14 fun n38 => asK .i64 b_p fun n39 => cond (n38 == (n39 : Int))
 (R (.bool true) h20)
 (asK .i64 b_p fun n40 => asK .i64 a_p fun n41 => cond (decide (((IntKind.wrap .i64 (n40 - n41)) : Int) < 50))
 (R (.bool false) h20)
 (asK .i64 i_14 fun n42 => asK .i64 i_14 fun n43 => asSl1 data_p fun a44 l45 c46 => 0 ≤ ((IntKind.wrap .i64 (n43 - 1)) : Int) ∧ (IntKind.wrap .i64 (n43 - 1)) < (l45 : Int) ∧ ∃ v47, cellH h20 (Addr.add a44 (Int.toNat (IntKind.wrap .i64 (n43 - 1)) * 1)) = some v47 ∧
 asSl1 data_p fun a48 l49 c50 => asI i_14 fun n51 => 0 ≤ (n51 : Int) ∧ n51 < (l49 : Int) ∧ ∃ v52, cellH h20 (Addr.add a48 (Int.toNat n51 * 1)) = some v52 ∧
 asSl1 data_p fun a53 l54 c55 => asI i_14 fun n56 => 0 ≤ (n56 : Int) ∧ n56 < (l54 : Int) ∧ oneK v47 (storeK1 h20 (Addr.add a53 (Int.toNat n56 * 1)) v47 fun h57 =>
 asSl1 data_p fun a58 l59 c60 => 0 ≤ ((IntKind.wrap .i64 (n42 - 1)) : Int) ∧ (IntKind.wrap .i64 (n42 - 1)) < (l59 : Int) ∧ oneK v52 (storeK1 h57 (Addr.add a58 (Int.toNat (IntKind.wrap .i64 (n42 - 1)) * 1)) v52 fun h61 =>
 asK .i64 i_14 fun n62 => asK .i64 a_p fun n63 => ∃ J64 : Hp → Prop,
 (cond (decide (((IntKind.wrap .i64 (n62 - n63)) : Int) ≥ 2))
 (asK .i64 i_14 fun n67 => ∃ J68 : Hp → Prop,
 (∃ (I71 : Value → Hp → Prop) (μ72 : Value → Hp → Nat), I71 (.int .i64 (IntKind.wrap .i64 (n67 - 1))) h61 ∧ ∀ j_73 (d74 : Nat → Value) (h75 : Hp), I71 j_73 h75 →
 asK .i64 j_73 fun n76 => cond (decide ((n76 : Int) ≥ 1))
 (asSl1 data_p fun a77 l78 c79 => asI j_73 fun n80 => 0 ≤ (n80 : Int) ∧ n80 < (l78 : Int) ∧ ∃ v81, cellH h75 (Addr.add a77 (Int.toNat n80 * 1)) = some v81 ∧
 asK .i64 j_73 fun n82 => asSl1 data_p fun a83 l84 c85 => 0 ≤ ((IntKind.wrap .i64 (n82 - 1)) : Int) ∧ (IntKind.wrap .i64 (n82 - 1)) < (l84 : Int) ∧ ∃ v86, cellH h75 (Addr.add a83 (Int.toNat (IntKind.wrap .i64 (n82 - 1)) * 1)) = some v86 ∧
 CallX Try.prog ω 42 [v81, v86] h75 (fun r87 h88 =>
 asB r87 fun b89 => cond (!b89)
 (J68 h88)
 (asK .i64 j_73 fun n90 => asK .i64 j_73 fun n91 => asSl1 data_p fun a92 l93 c94 => 0 ≤ ((IntKind.wrap .i64 (n91 - 1)) : Int) ∧ (IntKind.wrap .i64 (n91 - 1)) < (l93 : Int) ∧ ∃ v95, cellH h88 (Addr.add a92 (Int.toNat (IntKind.wrap .i64 (n91 - 1)) * 1)) = some v95 ∧
 asSl1 data_p fun a96 l97 c98 => asI j_73 fun n99 => 0 ≤ (n99 : Int) ∧ n99 < (l97 : Int) ∧ ∃ v100, cellH h88 (Addr.add a96 (Int.toNat n99 * 1)) = some v100 ∧
 asSl1 data_p fun a101 l102 c103 => asI j_73 fun n104 => 0 ≤ (n104 : Int) ∧ n104 < (l102 : Int) ∧ oneK v95 (storeK1 h88 (Addr.add a101 (Int.toNat n104 * 1)) v95 fun h105 =>
 asSl1 data_p fun a106 l107 c108 => 0 ≤ ((IntKind.wrap .i64 (n90 - 1)) : Int) ∧ (IntKind.wrap .i64 (n90 - 1)) < (l107 : Int) ∧ oneK v100 (storeK1 h105 (Addr.add a106 (Int.toNat (IntKind.wrap .i64 (n90 - 1)) * 1)) v100 fun h109 =>
 asK .i64 j_73 fun n110 => I71 (.int .i64 (IntKind.wrap .i64 (n110 - 1))) h109 ∧ μ72 (.int .i64 (IntKind.wrap .i64 (n110 - 1))) h109 < μ72 j_73 h75)))) X)
 (J68 h75)) ∧
 ∀  (d69 : Nat → Value) (h70 : Hp), J68 h70 →
 J64 h70)
 (J64 h61)) ∧
 ∀  (d65 : Nat → Value) (h66 : Hp), J64 h66 →
 asK .i64 b_p fun n111 => asK .i64 i_14 fun n112 => ∃ J113 : Hp → Prop,
 (cond (decide (((IntKind.wrap .i64 (n111 - n112)) : Int) ≥ 2))
 (asK .i64 i_14 fun n116 => ∃ J117 : Hp → Prop,
 (∃ (I120 : Value → Hp → Prop) (μ121 : Value → Hp → Nat), I120 (.int .i64 (IntKind.wrap .i64 (n116 + 1))) h66 ∧ ∀ j_122 (d123 : Nat → Value) (h124 : Hp), I120 j_122 h124 →
 asK .i64 j_122 fun n125 => asK .i64 b_p fun n126 => cond (decide ((n125 : Int) < n126))
 (asSl1 data_p fun a127 l128 c129 => asI j_122 fun n130 => 0 ≤ (n130 : Int) ∧ n130 < (l128 : Int) ∧ ∃ v131, cellH h124 (Addr.add a127 (Int.toNat n130 * 1)) = some v131 ∧
 asK .i64 j_122 fun n132 => asSl1 data_p fun a133 l134 c135 => 0 ≤ ((IntKind.wrap .i64 (n132 - 1)) : Int) ∧ (IntKind.wrap .i64 (n132 - 1)) < (l134 : Int) ∧ ∃ v136, cellH h124 (Addr.add a133 (Int.toNat (IntKind.wrap .i64 (n132 - 1)) * 1)) = some v136 ∧
 CallX Try.prog ω 42 [v131, v136] h124 (fun r137 h138 =>
 asB r137 fun b139 => cond (!b139)
 (J117 h138)
 (asK .i64 j_122 fun n140 => asK .i64 j_122 fun n141 => asSl1 data_p fun a142 l143 c144 => 0 ≤ ((IntKind.wrap .i64 (n141 - 1)) : Int) ∧ (IntKind.wrap .i64 (n141 - 1)) < (l143 : Int) ∧ ∃ v145, cellH h138 (Addr.add a142 (Int.toNat (IntKind.wrap .i64 (n141 - 1)) * 1)) = some v145 ∧
 asSl1 data_p fun a146 l147 c148 => asI j_122 fun n149 => 0 ≤ (n149 : Int) ∧ n149 < (l147 : Int) ∧ ∃ v150, cellH h138 (Addr.add a146 (Int.toNat n149 * 1)) = some v150 ∧
 asSl1 data_p fun a151 l152 c153 => asI j_122 fun n154 => 0 ≤ (n154 : Int) ∧ n154 < (l152 : Int) ∧ oneK v145 (storeK1 h138 (Addr.add a151 (Int.toNat n154 * 1)) v145 fun h155 =>
 asSl1 data_p fun a156 l157 c158 => 0 ≤ ((IntKind.wrap .i64 (n140 - 1)) : Int) ∧ (IntKind.wrap .i64 (n140 - 1)) < (l157 : Int) ∧ oneK v150 (storeK1 h155 (Addr.add a156 (Int.toNat (IntKind.wrap .i64 (n140 - 1)) * 1)) v150 fun h159 =>
 asK .i64 j_122 fun n160 => I120 (.int .i64 (IntKind.wrap .i64 (n160 + 1))) h159 ∧ μ121 (.int .i64 (IntKind.wrap .i64 (n160 + 1))) h159 < μ121 j_122 h124)))) X)
 (J117 h124)) ∧
 ∀  (d118 : Nat → Value) (h119 : Hp), J117 h119 →
 J113 h119)
 (J113 h66)) ∧
 ∀  (d114 : Nat → Value) (h115 : Hp), J113 h115 →
 J8 i_14 h115)))))) ∧
 ∀ i_9 (d10 : Nat → Value) (h11 : Hp), J8 i_9 h11 →
 asK .i64 j_4 fun n161 => I1 i_9 (.int .i64 (IntKind.wrap .i64 (n161 + 1))) h11 ∧ μ2 i_9 (.int .i64 (IntKind.wrap .i64 (n161 + 1))) h11 < μ2 i_3 j_4 h6)
 (R (.bool false) h6)
def A_slices_partialInsertionSortOrdered_int : Ann :=
 (.two .leaf (.two .leaf (.two (.two .leaf (.one (.loop [13, 14, 17, 18, 19, 20, 21, 22, 23, 24, 25, 26, 27, 28, 29, 30, 31, 32, 33, 34, 7, 35, 36, 37, 6, 38, 39, 40, 41, 42, 43, 44, 45, 46, 47, 48, 49, 50, 51, 52, 53, 54, 55, 56, 57, 58, 59, 60, 61, 62, 63, 9, 64, 65, 68, 69, 70, 71, 72, 73, 74, 75, 76, 77, 78, 79, 80, 81, 82, 83, 84, 85, 86, 87, 88, 89, 90, 91, 92, 93, 94, 66, 67, 95, 96, 97, 98, 99, 100, 10, 101, 102, 103, 106, 107, 108, 109, 110, 111, 112, 113, 114, 115, 116, 117, 118, 119, 120, 121, 122, 123, 124, 125, 126, 127, 128, 129, 130, 131, 132, 104, 105, 15, 16, 8] [7, 8] (.two (.two .leaf (.two .leaf .leaf)) (.two (.join [17, 18, 19, 20, 21, 22, 23, 24, 25, 26, 27, 28, 29, 30, 31, 32, 33, 34, 7, 35, 36, 37, 6, 38, 39, 40, 41, 42, 43, 44, 45, 46, 47, 48, 49, 50, 51, 52, 53, 54, 55, 56, 57, 58, 59, 60, 61, 62, 63, 9, 64, 65, 68, 69, 70, 71, 72, 73, 74, 75, 76, 77, 78, 79, 80, 81, 82, 83, 84, 85, 86, 87, 88, 89, 90, 91, 92, 93, 94, 66, 67, 95, 96, 97, 98, 99, 100, 10, 101, 102, 103, 106, 107, 108, 109, 110, 111, 112, 113, 114, 115, 116, 117, 118, 119, 120, 121, 122, 123, 124, 125, 126, 127, 128, 129, 130, 131, 132, 104, 105] [7] (.one (.two (.one (.loop [17, 18, 19, 20, 21, 22, 23, 24, 25, 26, 27, 28, 29, 30, 31, 32, 33, 34, 7] [7] (.two (.two (.join [17, 18, 19, 20, 21, 22, 23, 24, 25, 26, 27, 28, 29, 30, 31, 32] [32] (.plan [0, 1, 2, 3, 4, 5, 6, 7, 8, 9, 10, 11, 12, 13, 14, 15])) (.two .leaf .leaf)) (.one .leaf)))) (.two (.two .leaf (.two (.two .leaf .leaf) .leaf)) (.two (.two .leaf (.two (.two .leaf .leaf) .leaf)) (.two (.plan [0, 1, 2, 3, 4, 5, 6, 7, 8, 9, 10, 11, 12, 13, 14, 15, 16, 17]) (.two (.two .leaf (.join [62, 63, 9, 64, 65, 68, 69, 70, 71, 72, 73, 74, 75, 76, 77, 78, 79, 80, 81, 82, 83, 84, 85, 86, 87, 88, 89, 90, 91, 92, 93, 94, 66, 67] [] (.two (.two .leaf (.join [64, 65, 68, 69, 70, 71, 72, 73, 74, 75, 76, 77, 78, 79, 80, 81, 82, 83, 84, 85, 86, 87, 88, 89, 90, 91, 92, 93, 94, 66, 67, 9] [] (.one (.loop [64, 65, 68, 69, 70, 71, 72, 73, 74, 75, 76, 77, 78, 79, 80, 81, 82, 83, 84, 85, 86, 87, 88, 89, 90, 91, 92, 93, 94, 66, 67, 9] [9] (.two (.two .leaf (.two .leaf .leaf)) (.two (.one (.two (.two (.plan [0, 1, 2, 3, 4, 5, 6, 7, 8, 9, 10]) (.two .leaf .leaf)) (.plan [0, 1, 2, 3, 4, 5, 6, 7, 8, 9, 10, 11, 12, 13, 14, 15, 16, 17]))) .leaf)))))) .leaf))) (.two .leaf (.join [99, 100, 10, 101, 102, 103, 106, 107, 108, 109, 110, 111, 112, 113, 114, 115, 116, 117, 118, 119, 120, 121, 122, 123, 124, 125, 126, 127, 128, 129, 130, 131, 132, 104, 105] [] (.two (.two .leaf (.join [101, 102, 103, 106, 107, 108, 109, 110, 111, 112, 113, 114, 115, 116, 117, 118, 119, 120, 121, 122, 123, 124, 125, 126, 127, 128, 129, 130, 131, 132, 104, 105, 10] [] (.one (.loop [101, 102, 103, 106, 107, 108, 109, 110, 111, 112, 113, 114, 115, 116, 117, 118, 119, 120, 121, 122, 123, 124, 125, 126, 127, 128, 129, 130, 131, 132, 104, 105, 10] [10] (.two (.two .leaf (.two .leaf .leaf)) (.two (.one (.two (.two (.plan [0, 1, 2, 3, 4, 5, 6, 7, 8, 9, 10]) (.two .leaf .leaf)) (.plan [0, 1, 2, 3, 4, 5, 6, 7, 8, 9, 10, 11, 12, 13, 14, 15, 16, 17]))) .leaf)))))) .leaf)))))))))) .leaf))))) (.two .leaf .leaf))))
theorem C_slices_partialInsertionSortOrdered_int (ω : Amb) (data_p a_p b_p : Value) (h : Hp) (R : Value → Hp → Prop) (X : List PanicEntry → Hp → Prop) (hk : W_slices_partialInsertionSortOrdered_int ω data_p a_p b_p h R X) : CallX Try.prog ω 41 [data_p, a_p, b_p] h R X :=
 callX_of (an := A_slices_partialInsertionSortOrdered_int) Try.func41 ((show fnX Try.prog ω A_slices_partialInsertionSortOrdered_int Try.f41 [data_p, a_p, b_p] h R X = W_slices_partialInsertionSortOrdered_int ω data_p a_p b_p h R X by kernel_rfl) ▸ hk)

/-- cmp.Less[int] -/
abbrev n_cmp_Less_int : Nat := 42
def W_cmp_Less_int (ω : Amb) (x_p y_p : Value) (h : Hp) (R : Value → Hp → Prop) (X : List PanicEntry → Hp → Prop) : Prop :=
 ∃ J0 : Value → Hp → Prop,
 (CallX Try.prog ω 54 [x_p] h (fun r4 h5 =>
 asB r4 fun b6 => cond b6
 (CallX Try.prog ω 54 [y_p] h5 (fun r7 h8 =>
 asB r7 fun b9 => cond (!b9)
 (J0 (.bool true) h8)
 (asK .i64 x_p fun n10 => asK .i64 y_p fun n11 => J0 (.bool (decide ((n10 : Int) < n11))) h8)) X)
 (asK .i64 x_p fun n12 => asK .i64 y_p fun n13 => J0 (.bool (decide ((n12 : Int) < n13))) h5)) X) ∧
 ∀ t4_1 (d2 : Nat → Value) (h3 : Hp), J0 t4_1 h3 →
 R t4_1 h3
def A_cmp_Less_int : Ann :=
 (.two .leaf (.two (.join [5, 6, 7, 8, 9, 10, 11, 12, 13, 14, 15, 16, 4] [4] .leaf) .leaf))
theorem C_cmp_Less_int (ω : Amb) (x_p y_p : Value) (h : Hp) (R : Value → Hp → Prop) (X : List PanicEntry → Hp → Prop) (hk : W_cmp_Less_int ω x_p y_p h R X) : CallX Try.prog ω 42 [x_p, y_p] h R X :=
 callX_of (an := A_cmp_Less_int) Try.func42 ((show fnX Try.prog ω A_cmp_Less_int Try.f42 [x_p, y_p] h R X = W_cmp_Less_int ω x_p y_p h R X by kernel_rfl) ▸ hk)

/-- slices.partitionEqualOrdered[int] -/
abbrev n_slices_partitionEqualOrdered_int : Nat := 43
def W_slices_partitionEqualOrdered_int (ω : Amb) (data_p a_p b_p pivot_p : Value) (h : Hp) (R : Value → Hp → Prop) (X : List PanicEntry → Hp → Prop) : Prop :=
 asSl1 data_p fun a0 l1 c2 => asI pivot_p fun n3 => 0 ≤ (n3 : Int) ∧ n3 < (l1 : Int) ∧ ∃ v4, cellH h (Addr.add a0 (Int.toNat n3 * 1)) = some v4 ∧
 asSl1 data_p fun a5 l6 c7 => asI a_p fun n8 => 0 ≤ (n8 : Int) ∧ n8 < (l6 : Int) ∧ ∃ v9, cellH h (Addr.add a5 (Int.toNat n8 * 1)) = some v9 ∧
 asSl1 data_p fun a10 l11 c12 => asI a_p fun n13 => 0 ≤ (n13 : Int) ∧ n13 < (l11 : Int) ∧ oneK v4 (storeK1 h (Addr.add a10 (Int.toNat n13 * 1)) v4 fun h14 =>
 asSl1 data_p fun a15 l16 c17 => asI pivot_p fun n18 => 0 ≤ (n18 : Int) ∧ n18 < (l16 : Int) ∧ oneK v9 (storeK1 h14 (Addr.add a15 (Int.toNat n18 * 1)) v9 fun h19 =>
 asK .i64 a_p fun n20 => asK .i64 b_p fun n21 => ∃ (I22 : Value → Value → Hp → Prop) (μ23 : Value → Value → Hp → Nat), I22 (.int .i64 (IntKind.wrap .i64 (n20 + 1))) (.int .i64 (IntKind.wrap .i64 (n21 - 1))) h19 ∧ ∀ i_24 j_25 (d26 : Nat → Value) (h27 : Hp), I22 i_24 j_25 h27 →
 ∃ (I28 : Value → Hp → Prop) (μ29 : Value → Hp → Nat), I28 i_24 h27 ∧ ∀ i_30 (d31 : Nat → Value) (h32 : Hp), I28 i_30 h32 →
 ∃ J33 : Value → Hp → Prop,
 (asK .i64 i_30 fun n37 => asK .i64 j_25 fun n38 => cond (decide ((n37 : Int) ≤ n38))
 (asSl1 data_p fun a39 l40 c41 => asI a_p fun n42 => 0 ≤ (n42 : Int) ∧ n42 < (l40 : Int) ∧ ∃ v43, cellH h32 (Addr.add a39 (Int.toNat n42 * 1)) = some v43 ∧
 asSl1 data_p fun a44 l45 c46 => asI i_30 fun n47 => 0 ≤ (n47 : Int) ∧ n47 < (l45 : Int) ∧ ∃ v48, cellH h32 (Addr.add a44 (Int.toNat n47 * 1)) = some v48 ∧
 CallX Try.prog ω 42 [v43, v48] h32 (fun r49 h50 =>
 asB r49 fun b51 => J33 (.bool (!b51)) h50) X)
 (J33 (.bool false) h32)) ∧
 ∀ t43_34 (d35 : Nat → Value) (h36 : Hp), J33 t43_34 h36 →
 asB t43_34 fun b52 => cond b52
 (asK .i64 i_30 fun n53 => I28 (.int .i64 (IntKind.wrap .i64 (n53 + 1))) h36 ∧ μ29 (.int .i64 (IntKind.wrap .i64 (n53 + 1))) h36 < μ29 i_30 h32)
 (∃ (I54 : Value → Hp → Prop) (μ55 : Value → Hp → Nat), I54 j_25 h36 ∧ ∀ j_56 (d57 : Nat → Value) (h58 : Hp), I54 j_56 h58 →
 ∃ J59 : Value → Hp → Prop,
 (asK .i64 i_30 fun n63 => asK .i64 j_56 fun n64 => cond (decide ((n63 : Int) ≤ n64))
 (asSl1 data_p fun a65 l66 c67 => asI a_p fun n68 => 0 ≤ (n68 : Int) ∧ n68 < (l66 : Int) ∧ ∃ v69, cellH h58 (Addr.add a65 (Int.toNat n68 * 1)) = some v69 ∧
 asSl1 data_p fun a70 l71 c72 => asI j_56 fun n73 => 0 ≤ (n73 : Int) ∧ n73 < (l71 : Int) ∧ ∃ v74, cellH h58 (Addr.add a70 (Int.toNat n73 * 1)) = some v74 ∧
 CallX Try.prog ω 42 [v69, v74] h58 (fun r75 h76 =>
 J59 r75 h76) X)
 (J59 (.bool false) h58)) ∧
 ∀ t59_60 (d61 : Nat → Value) (h62 : Hp), J59 t59_60 h62 →
 asB t59_60 fun b77 => cond b77
 (asK .i64 j_56 fun n78 => I54 (.int .i64 (IntKind.wrap .i64 (n78 - 1))) h62 ∧ μ55 (.int .i64 (IntKind.wrap .i64 (n78 - 1))) h62 < μ55 j_56 h58)
 (asK .i64 i_30 fun n79 => asK .i64 j_56 fun n80 => cond (decide ((n79 : Int) > n80))
 (R i_30 h62)
 (asSl1 data_p fun a81 l82 c83 => asI j_56 fun n84 => 0 ≤ (n84 : Int) ∧ n84 < (l82 : Int) ∧ ∃ v85, cellH h62 (Addr.add a81 (Int.toNat n84 * 1)) = some v85 ∧
 asSl1 data_p fun a86 l87 c88 => asI i_30 fun n89 => 0 ≤ (n89 : Int) ∧ n89 < (l87 : Int) ∧ ∃ v90, cellH h62 (Addr.add a86 (Int.toNat n89 * 1)) = some v90 ∧
 asSl1 data_p fun a91 l92 c93 => asI i_30 fun n94 => 0 ≤ (n94 : Int) ∧ n94 < (l92 : Int) ∧ oneK v85 (storeK1 h62 (Addr.add a91 (Int.toNat n94 * 1)) v85 fun h95 =>
 asSl1 data_p fun a96 l97 c98 => asI j_56 fun n99 => 0 ≤ (n99 : Int) ∧ n99 < (l97 : Int) ∧ oneK v90 (storeK1 h95 (Addr.add a96 (Int.toNat n99 * 1)) v90 fun h100 =>
 asK .i64 i_30 fun n101 => asK .i64 j_56 fun n102 => I22 (.int .i64 (IntKind.wrap .i64 (n101 + 1))) (.int .i64 (IntKind.wrap .i64 (n102 - 1))) h100 ∧ μ23 (.int .i64 (IntKind.wrap .i64 (n101 + 1))) (.int .i64 (IntKind.wrap .i64 (n102 - 1))) h100 < μ23 i_24 j_25 h27)))))))
def A_slices_partitionEqualOrdered_int : Ann :=
 (.two .leaf (.two (.plan [0, 1, 2, 3, 4, 5, 6, 7, 8, 9, 10, 11, 12, 13, 14, 15]) (.two .leaf (.two (.one (.loop [29, 30, 31, 32, 33, 34, 35, 36, 37, 38, 39, 40, 41, 42, 43, 44, 45, 9, 46, 47, 48, 49, 50, 51, 52, 53, 54, 55, 56, 57, 58, 59, 60, 61, 10, 62, 63, 64, 65, 66, 67, 68, 69, 70, 71, 72, 73, 74, 75, 76, 77, 78, 79, 80, 81, 82] [9, 10] (.one (.two (.one (.loop [29, 30, 31, 32, 33, 34, 35, 36, 37, 38, 39, 40, 41, 42, 43, 44, 45, 9] [9] (.two (.two (.join [29, 30, 31, 32, 33, 34, 35, 36, 37, 38, 39, 40, 41, 42, 43] [43] (.plan [0, 1, 2, 3, 4, 5, 6, 7, 8, 9, 10, 11, 12, 13, 14])) (.two .leaf .leaf)) (.one .leaf)))) (.two (.one (.loop [46, 47, 48, 49, 50, 51, 52, 53, 54, 55, 56, 57, 58, 59, 60, 61, 10] [10] (.two (.two (.join [46, 47, 48, 49, 50, 51, 52, 53, 54, 55, 56, 57, 58, 59] [59] (.plan [0, 1, 2, 3, 4, 5, 6, 7, 8, 9, 10, 11, 12, 13])) (.two .leaf .leaf)) (.one .leaf)))) (.two (.two .leaf (.two .leaf .leaf)) (.two (.plan [0, 1, 2, 3, 4, 5, 6, 7, 8, 9, 10, 11, 12, 13, 14, 15]) (.two .leaf .leaf)))))))) (.two .leaf .leaf)))))
theorem C_slices_partitionEqualOrdered_int (ω : Amb) (data_p a_p b_p pivot_p : Value) (h : Hp) (R : Value → Hp → Prop) (X : List PanicEntry → Hp → Prop) (hk : W_slices_partitionEqualOrdered_int ω data_p a_p b_p pivot_p h R X) : CallX Try.prog ω 43 [data_p, a_p, b_p, pivot_p] h R X :=
 callX_of (an := A_slices_partitionEqualOrdered_int) Try.func43 ((show fnX Try.prog ω A_slices_partitionEqualOrdered_int Try.f43 [data_p, a_p, b_p, pivot_p] h R X = W_slices_partitionEqualOrdered_int ω data_p a_p b_p pivot_p h R X by kernel_rfl) ▸ hk)

/-- slices.partitionOrdered[int] -/
abbrev n_slices_partitionOrdered_int : Nat := 44
def W_slices_partitionOrdered_int (ω : Amb) (data_p a_p b_p pivot_p : Value) (h : Hp) (R : Value → Hp → Prop) (X : List PanicEntry → Hp → Prop) : Prop :=
 asSl1 data_p fun a0 l1 c2 => asI pivot_p fun n3 => 0 ≤ (n3 : Int) ∧ n3 < (l1 : Int) ∧ ∃ v4, cellH h (Addr.add a0 (Int.toNat n3 * 1)) = some v4 ∧
 asSl1 data_p fun a5 l6 c7 => asI a_p fun n8 => 0 ≤ (n8 : Int) ∧ n8 < (l6 : Int) ∧ ∃ v9, cellH h (Addr.add a5 (Int.toNat n8 * 1)) = some v9 ∧
 asSl1 data_p fun a10 l11 c12 => asI a_p fun n13 => 0 ≤ (n13 : Int) ∧ n13 < (l11 : Int) ∧ oneK v4 (storeK1 h (Addr.add a10 (Int.toNat n13 * 1)) v4 fun h14 =>
 asSl1 data_p fun a15 l16 c17 => asI pivot_p fun n18 => 0 ≤ (n18 : Int) ∧ n18 < (l16 : Int) ∧ oneK v9 (storeK1 h14 (Addr.add a15 (Int.toNat n18 * 1)) v9 fun h19 =>
 asK .i64 a_p fun n20 => asK .i64 b_p fun n21 => ∃ (I22 : Value → Hp → Prop) (μ23 : Value → Hp → Nat), I22 (.int .i64 (IntKind.wrap .i64 (n20 + 1))) h19 ∧ ∀ i_24 (d25 : Nat → Value) (h26 : Hp), I22 i_24 h26 →
 ∃ J27 : Value → Hp → Prop,
 (asK .i64 i_24 fun n31 => cond (decide ((n31 : Int) ≤ (IntKind.wrap .i64 (n21 - 1))))
 (asSl1 data_p fun a32 l33 c34 => asI i_24 fun n35 => 0 ≤ (n35 : Int) ∧ n35 < (l33 : Int) ∧ ∃ v36, cellH h26 (Addr.add a32 (Int.toNat n35 * 1)) = some v36 ∧
 asSl1 data_p fun a37 l38 c39 => asI a_p fun n40 => 0 ≤ (n40 : Int) ∧ n40 < (l38 : Int) ∧ ∃ v41, cellH h26 (Addr.add a37 (Int.toNat n40 * 1)) = some v41 ∧
 CallX Try.prog ω 42 [v36, v41] h26 (fun r42 h43 =>
 J27 r42 h43) X)
 (J27 (.bool false) h26)) ∧
 ∀ t43_28 (d29 : Nat → Value) (h30 : Hp), J27 t43_28 h30 →
 asB t43_28 fun b44 => cond b44
 (asK .i64 i_24 fun n45 => I22 (.int .i64 (IntKind.wrap .i64 (n45 + 1))) h30 ∧ μ23 (.int .i64 (IntKind.wrap .i64 (n45 + 1))) h30 < μ23 i_24 h26)
 (∃ (I46 : Value → Hp → Prop) (μ47 : Value → Hp → Nat), I46 (.int .i64 (IntKind.wrap .i64 (n21 - 1))) h30 ∧ ∀ j_48 (d49 : Nat → Value) (h50 : Hp), I46 j_48 h50 →
 ∃ J51 : Value → Hp → Prop,
 (asK .i64 i_24 fun n55 => asK .i64 j_48 fun n56 => cond (decide ((n55 : Int) ≤ n56))
 (asSl1 data_p fun a57 l58 c59 => asI j_48 fun n60 => 0 ≤ (n60 : Int) ∧ n60 < (l58 : Int) ∧ ∃ v61, cellH h50 (Addr.add a57 (Int.toNat n60 * 1)) = some v61 ∧
 asSl1 data_p fun a62 l63 c64 => asI a_p fun n65 => 0 ≤ (n65 : Int) ∧ n65 < (l63 : Int) ∧ ∃ v66, cellH h50 (Addr.add a62 (Int.toNat n65 * 1)) = some v66 ∧
 CallX Try.prog ω 42 [v61, v66] h50 (fun r67 h68 =>
 asB r67 fun b69 => J51 (.bool (!b69)) h68) X)
 (J51 (.bool false) h50)) ∧
 ∀ t60_52 (d53 : Nat → Value) (h54 : Hp), J51 t60_52 h54 →
 asB t60_52 fun b70 => cond b70
 (asK .i64 j_48 fun n71 => I46 (.int .i64 (IntKind.wrap .i64 (n71 - 1))) h54 ∧ μ47 (.int .i64 (IntKind.wrap .i64 (n71 - 1))) h54 < μ47 j_48 h50)
 (asK .i64 i_24 fun n72 => asK .i64 j_48 fun n73 => cond (decide ((n72 : Int) > n73))
 (asSl1 data_p fun a74 l75 c76 => asI a_p fun n77 => 0 ≤ (n77 : Int) ∧ n77 < (l75 : Int) ∧ ∃ v78, cellH h54 (Addr.add a74 (Int.toNat n77 * 1)) = some v78 ∧
 asSl1 data_p fun a79 l80 c81 => asI j_48 fun n82 => 0 ≤ (n82 : Int) ∧ n82 < (l80 : Int) ∧ ∃ v83, cellH h54 (Addr.add a79 (Int.toNat n82 * 1)) = some v83 ∧
 asSl1 data_p fun a84 l85 c86 => asI j_48 fun n87 => 0 ≤ (n87 : Int) ∧ n87 < (l85 : Int) ∧ oneK v78 (storeK1 h54 (Addr.add a84 (Int.toNat n87 * 1)) v78 fun h88 =>
 asSl1 data_p fun a89 l90 c91 => asI a_p fun n92 => 0 ≤ (n92 : Int) ∧ n92 < (l90 : Int) ∧ oneK v83 (storeK1 h88 (Addr.add a89 (Int.toNat n92 * 1)) v83 fun h93 =>
 R (.tuple #[j_48, (.bool true)]) h93)))
 (asSl1 data_p fun a94 l95 c96 => asI j_48 fun n97 => 0 ≤ (n97 : Int) ∧ n97 < (l95 : Int) ∧ ∃ v98, cellH h54 (Addr.add a94 (Int.toNat n97 * 1)) = some v98 ∧
 asSl1 data_p fun a99 l100 c101 => asI i_24 fun n102 => 0 ≤ (n102 : Int) ∧ n102 < (l100 : Int) ∧ ∃ v103, cellH h54 (Addr.add a99 (Int.toNat n102 * 1)) = some v103 ∧
 asSl1 data_p fun a104 l105 c106 => asI i_24 fun n107 => 0 ≤ (n107 : Int) ∧ n107 < (l105 : Int) ∧ oneK v98 (storeK1 h54 (Addr.add a104 (Int.toNat n107 * 1)) v98 fun h108 =>
 asSl1 data_p fun a109 l110 c111 => asI j_48 fun n112 => 0 ≤ (n112 : Int) ∧ n112 < (l110 : Int) ∧ oneK v103 (storeK1 h108 (Addr.add a109 (Int.toNat n112 * 1)) v103 fun h113 =>
 asK .i64 i_24 fun n114 => asK .i64 j_48 fun n115 => ∃ (I116 : Value → Value → Hp → Prop) (μ117 : Value → Value → Hp → Nat), I116 (.int .i64 (IntKind.wrap .i64 (n114 + 1))) (.int .i64 (IntKind.wrap .i64 (n115 - 1))) h113 ∧ ∀ i_118 j_119 (d120 : Nat → Value) (h121 : Hp), I116 i_118 j_119 h121 →
 ∃ (I122 : Value → Hp → Prop) (μ123 : Value → Hp → Nat), I122 i_118 h121 ∧ ∀ i_124 (d125 : Nat → Value) (h126 : Hp), I122 i_124 h126 →
 ∃ J127 : Value → Hp → Prop,
 (asK .i64 i_124 fun n131 => asK .i64 j_119 fun n132 => cond (decide ((n131 : Int) ≤ n132))
 (asSl1 data_p fun a133 l134 c135 => asI i_124 fun n136 => 0 ≤ (n136 : Int) ∧ n136 < (l134 : Int) ∧ ∃ v137, cellH h126 (Addr.add a133 (Int.toNat n136 * 1)) = some v137 ∧
 asSl1 data_p fun a138 l139 c140 => asI a_p fun n141 => 0 ≤ (n141 : Int) ∧ n141 < (l139 : Int) ∧ ∃ v142, cellH h126 (Addr.add a138 (Int.toNat n141 * 1)) = some v142 ∧
 CallX Try.prog ω 42 [v137, v142] h126 (fun r143 h144 =>
 J127 r143 h144) X)
 (J127 (.bool false) h126)) ∧
 ∀ t112_128 (d129 : Nat → Value) (h130 : Hp), J127 t112_128 h130 →
 asB t112_128 fun b145 => cond b145
 (asK .i64 i_124 fun n146 => I122 (.int .i64 (IntKind.wrap .i64 (n146 + 1))) h130 ∧ μ123 (.int .i64 (IntKind.wrap .i64 (n146 + 1))) h130 < μ123 i_124 h126)
 (∃ (I147 : Value → Hp → Prop) (μ148 : Value → Hp → Nat), I147 j_119 h130 ∧ ∀ j_149 (d150 : Nat → Value) (h151 : Hp), I147 j_149 h151 →
 ∃ J152 : Value → Hp → Prop,
 (asK .i64 i_124 fun n156 => asK .i64 j_149 fun n157 => cond (decide ((n156 : Int) ≤ n157))
 (asSl1 data_p fun a158 l159 c160 => asI j_149 fun n161 => 0 ≤ (n161 : Int) ∧ n161 < (l159 : Int) ∧ ∃ v162, cellH h151 (Addr.add a158 (Int.toNat n161 * 1)) = some v162 ∧
 asSl1 data_p fun a163 l164 c165 => asI a_p fun n166 => 0 ≤ (n166 : Int) ∧ n166 < (l164 : Int) ∧ ∃ v167, cellH h151 (Addr.add a163 (Int.toNat n166 * 1)) = some v167 ∧
 CallX Try.prog ω 42 [v162, v167] h151 (fun r168 h169 =>
 asB r168 fun b170 => J152 (.bool (!b170)) h169) X)
 (J152 (.bool false) h151)) ∧
 ∀ t129_153 (d154 : Nat → Value) (h155 : Hp), J152 t129_153 h155 →
 asB t129_153 fun b171 => cond b171
 (asK .i64 j_149 fun n172 => I147 (.int .i64 (IntKind.wrap .i64 (n172 - 1))) h155 ∧ μ148 (.int .i64 (IntKind.wrap .i64 (n172 - 1))) h155 < μ148 j_149 h151)
 (asK .i64 i_124 fun n173 => asK .i64 j_149 fun n174 => cond (decide ((n173 : Int) > n174))
 (asSl1 data_p fun a175 l176 c177 => asI a_p fun n178 => 0 ≤ (n178 : Int) ∧ n178 < (l176 : Int) ∧ ∃ v179, cellH h155 (Addr.add a175 (Int.toNat n178 * 1)) = some v179 ∧
 asSl1 data_p fun a180 l181 c182 => asI j_149 fun n183 => 0 ≤ (n183 : Int) ∧ n183 < (l181 : Int) ∧ ∃ v184, cellH h155 (Addr.add a180 (Int.toNat n183 * 1)) = some v184 ∧
 asSl1 data_p fun a185 l186 c187 => asI j_149 fun n188 => 0 ≤ (n188 : Int) ∧ n188 < (l186 : Int) ∧ oneK v179 (storeK1 h155 (Addr.add a185 (Int.toNat n188 * 1)) v179 fun h189 =>
 asSl1 data_p fun a190 l191 c192 => asI a_p fun n193 => 0 ≤ (n193 : Int) ∧ n193 < (l191 : Int) ∧ oneK v184 (storeK1 h189 (Addr.add a190 (Int.toNat n193 * 1)) v184 fun h194 =>
 R (.tuple #[j_149, (.bool false)]) h194)))
 (asSl1 data_p fun a195 l196 c197 => asI j_149 fun n198 => 0 ≤ (n198 : Int) ∧ n198 < (l196 : Int) ∧ ∃ v199, cellH h155 (Addr.add a195 (Int.toNat n198 * 1)) = some v199 ∧
 asSl1 data_p fun a200 l201 c202 => asI i_124 fun n203 => 0 ≤ (n203 : Int) ∧ n203 < (l201 : Int) ∧ ∃ v204, cellH h155 (Addr.add a200 (Int.toNat n203 * 1)) = some v204 ∧
 asSl1 data_p fun a205 l206 c207 => asI i_124 fun n208 => 0 ≤ (n208 : Int) ∧ n208 < (l206 : Int) ∧ oneK v199 (storeK1 h155 (Addr.add a205 (Int.toNat n208 * 1)) v199 fun h209 =>
 asSl1 data_p fun a210 l211 c212 => asI j_149 fun n213 => 0 ≤ (n213 : Int) ∧ n213 < (l211 : Int) ∧ oneK v204 (storeK1 h209 (Addr.add a210 (Int.toNat n213 * 1)) v204 fun h214 =>
 asK .i64 i_124 fun n215 => asK .i64 j_149 fun n216 => I116 (.int .i64 (IntKind.wrap .i64 (n215 + 1))) (.int .i64 (IntKind.wrap .i64 (n216 - 1))) h214 ∧ μ117 (.int .i64 (IntKind.wrap .i64 (n215 + 1))) (.int .i64 (IntKind.wrap .i64 (n216 - 1))) h214 < μ117 i_118 j_119 h121))))))))))))
def A_slices_partitionOrdered_int : Ann :=
 (.two .leaf (.two (.plan [0, 1, 2, 3, 4, 5, 6, 7, 8, 9, 10, 11, 12, 13, 14, 15]) (.two .leaf (.two (.one (.loop [30, 31, 32, 33, 34, 35, 36, 37, 38, 39, 40, 41, 42, 43, 44, 45, 10] [10] (.two (.two (.join [30, 31, 32, 33, 34, 35, 36, 37, 38, 39, 40, 41, 42, 43] [43] (.plan [0, 1, 2, 3, 4, 5, 6, 7, 8, 9, 10, 11, 12, 13])) (.two .leaf .leaf)) (.one .leaf)))) (.two (.one (.loop [46, 47, 48, 49, 50, 51, 52, 53, 54, 55, 56, 57, 58, 59, 60, 61, 62, 11] [11] (.two (.two (.join [46, 47, 48, 49, 50, 51, 52, 53, 54, 55, 56, 57, 58, 59, 60] [60] (.plan [0, 1, 2, 3, 4, 5, 6, 7, 8, 9, 10, 11, 12, 13, 14])) (.two .leaf .leaf)) (.one .leaf)))) (.two (.two .leaf (.two (.two (.plan [0, 1, 2, 3, 4, 5, 6, 7, 8, 9, 10, 11, 12, 13, 14, 15]) (.two .leaf .leaf)) .leaf)) (.two (.plan [0, 1, 2, 3, 4, 5, 6, 7, 8, 9, 10, 11, 12, 13, 14, 15]) (.two .leaf (.two .leaf (.two (.one (.loop [99, 100, 101, 102, 103, 104, 105, 106, 107, 108, 109, 110, 111, 112, 113, 114, 10, 115, 116, 117, 118, 119, 120, 121, 122, 123, 124, 125, 126, 127, 128, 129, 130, 131, 11, 132, 133, 134, 135, 136, 137, 138, 139, 140, 141, 142, 143, 144, 145, 146, 147, 148, 149, 150, 151, 152] [10, 11] (.one (.two (.one (.loop [99, 100, 101, 102, 103, 104, 105, 106, 107, 108, 109, 110, 111, 112, 113, 114, 10] [10] (.two (.two (.join [99, 100, 101, 102, 103, 104, 105, 106, 107, 108, 109, 110, 111, 112] [112] (.plan [0, 1, 2, 3, 4, 5, 6, 7, 8, 9, 10, 11, 12, 13])) (.two .leaf .leaf)) (.one .leaf)))) (.two (.one (.loop [115, 116, 117, 118, 119, 120, 121, 122, 123, 124, 125, 126, 127, 128, 129, 130, 131, 11] [11] (.two (.two (.join [115, 116, 117, 118, 119, 120, 121, 122, 123, 124, 125, 126, 127, 128, 129] [129] (.plan [0, 1, 2, 3, 4, 5, 6, 7, 8, 9, 10, 11, 12, 13, 14])) (.two .leaf .leaf)) (.one .leaf)))) (.two (.two .leaf (.two .leaf .leaf)) (.two (.plan [0, 1, 2, 3, 4, 5, 6, 7, 8, 9, 10, 11, 12, 13, 14, 15]) (.two .leaf .leaf)))))))) (.two (.plan [0, 1, 2, 3, 4, 5, 6, 7, 8, 9, 10, 11, 12, 13, 14, 15]) (.two .leaf .leaf))))))))))))
theorem C_slices_partitionOrdered_int (ω : Amb) (data_p a_p b_p pivot_p : Value) (h : Hp) (R : Value → Hp → Prop) (X : List PanicEntry → Hp → Prop) (hk : W_slices_partitionOrdered_int ω data_p a_p b_p pivot_p h R X) : CallX Try.prog ω 44 [data_p, a_p, b_p, pivot_p] h R X :=
 callX_of (an := A_slices_partitionOrdered_int) Try.func44 ((show fnX Try.prog ω A_slices_partitionOrdered_int Try.f44 [data_p, a_p, b_p, pivot_p] h R X = W_slices_partitionOrdered_int ω data_p a_p b_p pivot_p h R X by kernel_rfl) ▸ hk)

/-- math/bits.Len32 -/
abbrev n_math_bits_Len32 : Nat := 45
def W_math_bits_Len32 (ω : Amb) (x_p : Value) (h : Hp) (R : Value → Hp → Prop) (X : List PanicEntry → Hp → Prop) : Prop :=
 asK .u32 x_p fun n0 => ∃ J1 : Value → Value → Hp → Prop,
 (cond (decide ((n0 : Int) ≥ 65536))
 (asK .u32 x_p fun n6 => 0 ≤ (16 : Int) ∧ J1 (.int .u32 (shI .u32 .shr n6 16)) (.int .i64 16) h)
 (J1 x_p (.int .i64 0) h)) ∧
 ∀ x_2 n_3 (d4 : Nat → Value) (h5 : Hp), J1 x_2 n_3 h5 →
 asK .u32 x_2 fun n7 => ∃ J8 : Value → Value → Hp → Prop,
 (cond (decide ((n7 : Int) ≥ 256))
 (asK .u32 x_2 fun n13 => 0 ≤ (8 : Int) ∧ asK .i64 n_3 fun n14 => J8 (.int .u32 (shI .u32 .shr n13 8)) (.int .i64 (IntKind.wrap .i64 (n14 + 8))) h5)
 (J8 x_2 n_3 h5)) ∧
 ∀ x_9 n_10 (d11 : Nat → Value) (h12 : Hp), J8 x_9 n_10 h12 →
 asI x_9 fun n15 => 0 ≤ ((IntKind.wrap .u8 n15) : Int) ∧ (IntKind.wrap .u8 n15) < (ByteArray.size ⟨#[0, 1, 2, 2, 3, 3, 3, 3, 4, 4, 4, 4, 4, 4, 4, 4, 5, 5, 5, 5, 5, 5, 5, 5, 5, 5, 5, 5, 5, 5, 5, 5, 6, 6, 6, 6, 6, 6, 6, 6, 6, 6, 6, 6, 6, 6, 6, 6, 6, 6, 6, 6, 6, 6, 6, 6, 6, 6, 6, 6, 6, 6, 6, 6, 7, 7, 7, 7, 7, 7, 7, 7, 7, 7, 7, 7, 7, 7, 7, 7, 7, 7, 7, 7, 7, 7, 7, 7, 7, 7, 7, 7, 7, 7, 7, 7, 7, 7, 7, 7, 7, 7, 7, 7, 7, 7, 7, 7, 7, 7, 7, 7, 7, 7, 7, 7, 7, 7, 7, 7, 7, 7, 7, 7, 7, 7, 7, 7, 8, 8, 8, 8, 8, 8, 8, 8, 8, 8, 8, 8, 8, 8, 8, 8, 8, 8, 8, 8, 8, 8, 8, 8, 8, 8, 8, 8, 8, 8, 8, 8, 8, 8, 8, 8, 8, 8, 8, 8, 8, 8, 8, 8, 8, 8, 8, 8, 8, 8, 8, 8, 8, 8, 8, 8, 8, 8, 8, 8, 8, 8, 8, 8, 8, 8, 8, 8, 8, 8, 8, 8, 8, 8, 8, 8, 8, 8, 8, 8, 8, 8, 8, 8, 8, 8, 8, 8, 8, 8, 8, 8, 8, 8, 8, 8, 8, 8, 8, 8, 8, 8, 8, 8, 8, 8, 8, 8, 8, 8, 8, 8, 8, 8, 8, 8, 8, 8, 8, 8, 8, 8, 8, 8, 8, 8, 8, 8]⟩ : Int) ∧ asK .i64 n_10 fun n16 => R (.int .i64 (IntKind.wrap .i64 (n16 + (IntKind.wrap .i64 (byteAt ⟨#[0, 1, 2, 2, 3, 3, 3, 3, 4, 4, 4, 4, 4, 4, 4, 4, 5, 5, 5, 5, 5, 5, 5, 5, 5, 5, 5, 5, 5, 5, 5, 5, 6, 6, 6, 6, 6, 6, 6, 6, 6, 6, 6, 6, 6, 6, 6, 6, 6, 6, 6, 6, 6, 6, 6, 6, 6, 6, 6, 6, 6, 6, 6, 6, 7, 7, 7, 7, 7, 7, 7, 7, 7, 7, 7, 7, 7, 7, 7, 7, 7, 7, 7, 7, 7, 7, 7, 7, 7, 7, 7, 7, 7, 7, 7, 7, 7, 7, 7, 7, 7, 7, 7, 7, 7, 7, 7, 7, 7, 7, 7, 7, 7, 7, 7, 7, 7, 7, 7, 7, 7, 7, 7, 7, 7, 7, 7, 7, 8, 8, 8, 8, 8, 8, 8, 8, 8, 8, 8, 8, 8, 8, 8, 8, 8, 8, 8, 8, 8, 8, 8, 8, 8, 8, 8, 8, 8, 8, 8, 8, 8, 8, 8, 8, 8, 8, 8, 8, 8, 8, 8, 8, 8, 8, 8, 8, 8, 8, 8, 8, 8, 8, 8, 8, 8, 8, 8, 8, 8, 8, 8, 8, 8, 8, 8, 8, 8, 8, 8, 8, 8, 8, 8, 8, 8, 8, 8, 8, 8, 8, 8, 8, 8, 8, 8, 8, 8, 8, 8, 8, 8, 8, 8, 8, 8, 8, 8, 8, 8, 8, 8, 8, 8, 8, 8, 8, 8, 8, 8, 8, 8, 8, 8, 8, 8, 8, 8, 8, 8, 8, 8, 8, 8, 8, 8, 8]⟩ (IntKind.wrap .u8 n15)))))) h12
def A_math_bits_Len32 : Ann :=
 (.two .leaf (.two (.two .leaf (.join [5, 6, 0, 2] [0, 2] (.two (.two .leaf .leaf) .leaf))) (.two (.two .leaf (.join [9, 10, 0, 11, 12, 2] [0, 2] (.two (.two .leaf .leaf) .leaf))) (.two .leaf .leaf))))
theorem C_math_bits_Len32 (ω : Amb) (x_p : Value) (h : Hp) (R : Value → Hp → Prop) (X : List PanicEntry → Hp → Prop) (hk : W_math_bits_Len32 ω x_p h R X) : CallX Try.prog ω 45 [x_p] h R X :=
 callX_of (an := A_math_bits_Len32) Try.func45 ((show fnX Try.prog ω A_math_bits_Len32 Try.f45 [x_p] h R X = W_math_bits_Len32 ω x_p h R X by kernel_rfl) ▸ hk)

/-- math/bits.Len64 -/
abbrev n_math_bits_Len64 : Nat := 46
def W_math_bits_Len64 (ω : Amb) (x_p : Value) (h : Hp) (R : Value → Hp → Prop) (X : List PanicEntry → Hp → Prop) : Prop :=
 asK .u64 x_p fun n0 => ∃ J1 : Value → Value → Hp → Prop,
 (cond (decide ((n0 : Int) ≥ 4294967296))
 (asK .u64 x_p fun n6 => 0 ≤ (32 : Int) ∧ J1 (.int .u64 (shI .u64 .shr n6 32)) (.int .i64 32) h)
 (J1 x_p (.int .i64 0) h)) ∧
 ∀ x_2 n_3 (d4 : Nat → Value) (h5 : Hp), J1 x_2 n_3 h5 →
 asK .u64 x_2 fun n7 => ∃ J8 : Value → Value → Hp → Prop,
 (cond (decide ((n7 : Int) ≥ 65536))
 (asK .u64 x_2 fun n13 => 0 ≤ (16 : Int) ∧ asK .i64 n_3 fun n14 => J8 (.int .u64 (shI .u64 .shr n13 16)) (.int .i64 (IntKind.wrap .i64 (n14 + 16))) h5)
 (J8 x_2 n_3 h5)) ∧
 ∀ x_9 n_10 (d11 : Nat → Value) (h12 : Hp), J8 x_9 n_10 h12 →
 asK .u64 x_9 fun n15 => ∃ J16 : Value → Value → Hp → Prop,
 (cond (decide ((n15 : Int) ≥ 256))
 (asK .u64 x_9 fun n21 => 0 ≤ (8 : Int) ∧ asK .i64 n_10 fun n22 => J16 (.int .u64 (shI .u64 .shr n21 8)) (.int .i64 (IntKind.wrap .i64 (n22 + 8))) h12)
 (J16 x_9 n_10 h12)) ∧
 ∀ x_17 n_18 (d19 : Nat → Value) (h20 : Hp), J16 x_17 n_18 h20 →
 asI x_17 fun n23 => 0 ≤ ((IntKind.wrap .u8 n23) : Int) ∧ (IntKind.wrap .u8 n23) < (ByteArray.size ⟨#[0, 1, 2, 2, 3, 3, 3, 3, 4, 4, 4, 4, 4, 4, 4, 4, 5, 5, 5, 5, 5, 5, 5, 5, 5, 5, 5, 5, 5, 5, 5, 5, 6, 6, 6, 6, 6, 6, 6, 6, 6, 6, 6, 6, 6, 6, 6, 6, 6, 6, 6, 6, 6, 6, 6, 6, 6, 6, 6, 6, 6, 6, 6, 6, 7, 7, 7, 7, 7, 7, 7, 7, 7, 7, 7, 7, 7, 7, 7, 7, 7, 7, 7, 7, 7, 7, 7, 7, 7, 7, 7, 7, 7, 7, 7, 7, 7, 7, 7, 7, 7, 7, 7, 7, 7, 7, 7, 7, 7, 7, 7, 7, 7, 7, 7, 7, 7, 7, 7, 7, 7, 7, 7, 7, 7, 7, 7, 7, 8, 8, 8, 8, 8, 8, 8, 8, 8, 8, 8, 8, 8, 8, 8, 8, 8, 8, 8, 8, 8, 8, 8, 8, 8, 8, 8, 8, 8, 8, 8, 8, 8, 8, 8, 8, 8, 8, 8, 8, 8, 8, 8, 8, 8, 8, 8, 8, 8, 8, 8, 8, 8, 8, 8, 8, 8, 8, 8, 8, 8, 8, 8, 8, 8, 8, 8, 8, 8, 8, 8, 8, 8, 8, 8, 8, 8, 8, 8, 8, 8, 8, 8, 8, 8, 8, 8, 8, 8, 8, 8, 8, 8, 8, 8, 8, 8, 8, 8, 8, 8, 8, 8, 8, 8, 8, 8, 8, 8, 8, 8, 8, 8, 8, 8, 8, 8, 8, 8, 8, 8, 8, 8, 8, 8, 8, 8, 8]⟩ : Int) ∧ asK .i64 n_18 fun n24 => R (.int .i64 (IntKind.wrap .i64 (n24 + (IntKind.wrap .i64 (byteAt ⟨#[0, 1, 2, 2, 3, 3, 3, 3, 4, 4, 4, 4, 4, 4, 4, 4, 5, 5, 5, 5, 5, 5, 5, 5, 5, 5, 5, 5, 5, 5, 5, 5, 6, 6, 6, 6, 6, 6, 6, 6, 6, 6, 6, 6, 6, 6, 6, 6, 6, 6, 6, 6, 6, 6, 6, 6, 6, 6, 6, 6, 6, 6, 6, 6, 7, 7, 7, 7, 7, 7, 7, 7, 7, 7, 7, 7, 7, 7, 7, 7, 7, 7, 7, 7, 7, 7, 7, 7, 7, 7, 7, 7, 7, 7, 7, 7, 7, 7, 7, 7, 7, 7, 7, 7, 7, 7, 7, 7, 7, 7, 7, 7, 7, 7, 7, 7, 7, 7, 7, 7, 7, 7, 7, 7, 7, 7, 7, 7, 8, 8, 8, 8, 8, 8, 8, 8, 8, 8, 8, 8, 8, 8, 8, 8, 8, 8, 8, 8, 8, 8, 8, 8, 8, 8, 8, 8, 8, 8, 8, 8, 8, 8, 8, 8, 8, 8, 8, 8, 8, 8, 8, 8, 8, 8, 8, 8, 8, 8, 8, 8, 8, 8, 8, 8, 8, 8, 8, 8, 8, 8, 8, 8, 8, 8, 8, 8, 8, 8, 8, 8, 8, 8, 8, 8, 8, 8, 8, 8, 8, 8, 8, 8, 8, 8, 8, 8, 8, 8, 8, 8, 8, 8, 8, 8, 8, 8, 8, 8, 8, 8, 8, 8, 8, 8, 8, 8, 8, 8, 8, 8, 8, 8, 8, 8, 8, 8, 8, 8, 8, 8, 8, 8, 8, 8, 8, 8]⟩ (IntKind.wrap .u8 n23)))))) h20
def A_math_bits_Len64 : Ann :=
 (.two .leaf (.two (.two .leaf (.join [5, 6, 0, 2] [0, 2] (.two (.two .leaf .leaf) .leaf))) (.two (.two .leaf (.join [9, 10, 0, 11, 12, 2] [0, 2] (.two (.two .leaf .leaf) .leaf))) (.two (.two .leaf (.join [15, 16, 0, 17, 18, 2] [0, 2] (.two (.two .leaf .leaf) .leaf))) (.two .leaf .leaf)))))
theorem C_math_bits_Len64 (ω : Amb) (x_p : Value) (h : Hp) (R : Value → Hp → Prop) (X : List PanicEntry → Hp → Prop) (hk : W_math_bits_Len64 ω x_p h R X) : CallX Try.prog ω 46 [x_p] h R X :=
 callX_of (an := A_math_bits_Len64) Try.func46 ((show fnX Try.prog ω A_math_bits_Len64 Try.f46 [x_p] h R X = W_math_bits_Len64 ω x_p h R X by kernel_rfl) ▸ hk)

/-- math/bits.Mul32 -/
abbrev n_math_bits_Mul32 : Nat := 47
def W_math_bits_Mul32 (ω : Amb) (x_p y_p : Value) (h : Hp) (R : Value → Hp → Prop) (X : List PanicEntry → Hp → Prop) : Prop :=
 asI x_p fun n0 => asI y_p fun n1 => 0 ≤ (32 : Int) ∧ R (.tuple #[(.int .u32 (IntKind.wrap .u32 (shI .u64 .shr (IntKind.wrap .u64 ((IntKind.wrap .u64 n0) * (IntKind.wrap .u64 n1))) 32))), (.int .u32 (IntKind.wrap .u32 (IntKind.wrap .u64 ((IntKind.wrap .u64 n0) * (IntKind.wrap .u64 n1)))))]) h
def A_math_bits_Mul32 : Ann :=
 (.two .leaf (.two .leaf (.two .leaf .leaf)))
theorem C_math_bits_Mul32 (ω : Amb) (x_p y_p : Value) (h : Hp) (R : Value → Hp → Prop) (X : List PanicEntry → Hp → Prop) (hk : W_math_bits_Mul32 ω x_p y_p h R X) : CallX Try.prog ω 47 [x_p, y_p] h R X :=
 callX_of (an := A_math_bits_Mul32) Try.func47 ((show fnX Try.prog ω A_math_bits_Mul32 Try.f47 [x_p, y_p] h R X = W_math_bits_Mul32 ω x_p y_p h R X by kernel_rfl) ▸ hk)

/-- math/bits.Mul64 -/
abbrev n_math_bits_Mul64 : Nat := 48
def W_math_bits_Mul64 (ω : Amb) (x_p y_p : Value) (h : Hp) (R : Value → Hp → Prop) (X : List PanicEntry → Hp → Prop) : Prop :=
 asK .u64 x_p fun n0 => asK .u64 x_p fun n1 => 0 ≤ (32 : Int) ∧ asK .u64 y_p fun n2 => asK .u64 y_p fun n3 => 0 ≤ (32 : Int) ∧ 0 ≤ (32 : Int) ∧ 0 ≤ (32 : Int) ∧ 0 ≤ (32 : Int) ∧ asK .u64 x_p fun n4 => asK .u64 y_p fun n5 => R (.tuple #[(.int .u64 (IntKind.wrap .u64 ((IntKind.wrap .u64 ((IntKind.wrap .u64 ((shI .u64 .shr n1 32) * (shI .u64 .shr n3 32))) + (shI .u64 .shr (IntKind.wrap .u64 ((IntKind.wrap .u64 ((shI .u64 .shr n1 32) * (bitI .u64 .and n2 4294967295))) + (shI .u64 .shr (IntKind.wrap .u64 ((bitI .u64 .and n0 4294967295) * (bitI .u64 .and n2 4294967295))) 32))) 32))) + (shI .u64 .shr (IntKind.wrap .u64 ((bitI .u64 .and (IntKind.wrap .u64 ((IntKind.wrap .u64 ((shI .u64 .shr n1 32) * (bitI .u64 .and n2 4294967295))) + (shI .u64 .shr (IntKind.wrap .u64 ((bitI .u64 .and n0 4294967295) * (bitI .u64 .and n2 4294967295))) 32))) 4294967295) + (IntKind.wrap .u64 ((bitI .u64 .and n0 4294967295) * (shI .u64 .shr n3 32))))) 32)))), (.int .u64 (IntKind.wrap .u64 (n4 * n5)))]) h
def A_math_bits_Mul64 : Ann :=
 (.two .leaf (.two .leaf (.two .leaf (.two .leaf (.two .leaf (.two .leaf (.two .leaf (.two .leaf (.two .leaf (.two .leaf (.two .leaf (.two .leaf .leaf))))))))))))
theorem C_math_bits_Mul64 (ω : Amb) (x_p y_p : Value) (h : Hp) (R : Value → Hp → Prop) (X : List PanicEntry → Hp → Prop) (hk : W_math_bits_Mul64 ω x_p y_p h R X) : CallX Try.prog ω 48 [x_p, y_p] h R X :=
 callX_of (an := A_math_bits_Mul64) Try.func48 ((show fnX Try.prog ω A_math_bits_Mul64 Try.f48 [x_p, y_p] h R X = W_math_bits_Mul64 ω x_p y_p h R X by kernel_rfl) ▸ hk)

/-- slices.siftDownOrdered[int] -/
abbrev n_slices_siftDownOrdered_int : Nat := 49
def W_slices_siftDownOrdered_int (ω : Amb) (data_p lo_p hi_p first_p : Value) (h : Hp) (R : Value → Hp → Prop) (X : List PanicEntry → Hp → Prop) : Prop :=
 ∃ (I0 : Value → Hp → Prop) (μ1 : Value → Hp → Nat), I0 lo_p h ∧ ∀ root_2 (d3 : Nat → Value) (h4 : Hp), I0 root_2 h4 →
 asK .i64 root_2 fun n5 => asK .i64 hi_p fun n6 => cond (decide (((IntKind.wrap .i64 ((IntKind.wrap .i64 (2 * n5)) + 1)) : Int) ≥ n6))
 (R (.tuple #[]) h4)
 (∃ J7 : Value → Hp → Prop,
 (asK .i64 hi_p fun n11 => cond (decide (((IntKind.wrap .i64 ((IntKind.wrap .i64 ((IntKind.wrap .i64 (2 * n5)) + 1)) + 1)) : Int) < n11))
 (asK .i64 first_p fun n12 => asSl1 data_p fun a13 l14 c15 => 0 ≤ ((IntKind.wrap .i64 (n12 + (IntKind.wrap .i64 ((IntKind.wrap .i64 (2 * n5)) + 1)))) : Int) ∧ (IntKind.wrap .i64 (n12 + (IntKind.wrap .i64 ((IntKind.wrap .i64 (2 * n5)) + 1)))) < (l14 : Int) ∧ ∃ v16, cellH h4 (Addr.add a13 (Int.toNat (IntKind.wrap .i64 (n12 + (IntKind.wrap .i64 ((IntKind.wrap .i64 (2 * n5)) + 1)))) * 1)) = some v16 ∧
 asK .i64 first_p fun n17 => asSl1 data_p fun a18 l19 c20 => 0 ≤ ((IntKind.wrap .i64 ((IntKind.wrap .i64 (n17 + (IntKind.wrap .i64 ((IntKind.wrap .i64 (2 * n5)) + 1)))) + 1)) : Int) ∧ (IntKind.wrap .i64 ((IntKind.wrap .i64 (n17 + (IntKind.wrap .i64 ((IntKind.wrap .i64 (2 * n5)) + 1)))) + 1)) < (l19 : Int) ∧ ∃ v21, cellH h4 (Addr.add a18 (Int.toNat (IntKind.wrap .i64 ((IntKind.wrap .i64 (n17 + (IntKind.wrap .i64 ((IntKind.wrap .i64 (2 * n5)) + 1)))) + 1)) * 1)) = some v21 ∧
 CallX Try.prog ω 42 [v16, v21] h4 (fun r22 h23 =>
 J7 r22 h23) X)
 (J7 (.bool false) h4)) ∧
 ∀ t36_8 (d9 : Nat → Value) (h10 : Hp), J7 t36_8 h10 →
 ∃ J24 : Value → Hp → Prop,
 (asB t36_8 fun b28 => cond b28
 (J24 (.int .i64 (IntKind.wrap .i64 ((IntKind.wrap .i64 ((IntKind.wrap .i64 (2 * n5)) + 1)) + 1))) h10)
 (J24 (.int .i64 (IntKind.wrap .i64 ((IntKind.wrap .i64 (2 * n5)) + 1))) h10)) ∧
 ∀ child_25 (d26 : Nat → Value) (h27 : Hp), J24 child_25 h27 →
 asK .i64 first_p fun n29 => asK .i64 root_2 fun n30 => asSl1 data_p fun a31 l32 c33 => 0 ≤ ((IntKind.wrap .i64 (n29 + n30)) : Int) ∧ (IntKind.wrap .i64 (n29 + n30)) < (l32 : Int) ∧ ∃ v34, cellH h27 (Addr.add a31 (Int.toNat (IntKind.wrap .i64 (n29 + n30)) * 1)) = some v34 ∧
 asK .i64 first_p fun n35 => asK .i64 child_25 fun n36 => asSl1 data_p fun a37 l38 c39 => 0 ≤ ((IntKind.wrap .i64 (n35 + n36)) : Int) ∧ (IntKind.wrap .i64 (n35 + n36)) < (l38 : Int) ∧ ∃ v40, cellH h27 (Addr.add a37 (Int.toNat (IntKind.wrap .i64 (n35 + n36)) * 1)) = some v40 ∧
 CallX Try.prog ω 42 [v34, v40] h27 (fun r41 h42 =>
 asB r41 fun b43 => cond (!b43)
 (R (.tuple #[]) h42)
 (asK .i64 first_p fun n44 => asK .i64 root_2 fun n45 => asK .i64 first_p fun n46 => asK .i64 child_25 fun n47 => asK .i64 first_p fun n48 => asK .i64 child_25 fun n49 => asSl1 data_p fun a50 l51 c52 => 0 ≤ ((IntKind.wrap .i64 (n48 + n49)) : Int) ∧ (IntKind.wrap .i64 (n48 + n49)) < (l51 : Int) ∧ ∃ v53, cellH h42 (Addr.add a50 (Int.toNat (IntKind.wrap .i64 (n48 + n49)) * 1)) = some v53 ∧
 asK .i64 first_p fun n54 => asK .i64 root_2 fun n55 => asSl1 data_p fun a56 l57 c58 => 0 ≤ ((IntKind.wrap .i64 (n54 + n55)) : Int) ∧ (IntKind.wrap .i64 (n54 + n55)) < (l57 : Int) ∧ ∃ v59, cellH h42 (Addr.add a56 (Int.toNat (IntKind.wrap .i64 (n54 + n55)) * 1)) = some v59 ∧
 asSl1 data_p fun a60 l61 c62 => 0 ≤ ((IntKind.wrap .i64 (n44 + n45)) : Int) ∧ (IntKind.wrap .i64 (n44 + n45)) < (l61 : Int) ∧ oneK v53 (storeK1 h42 (Addr.add a60 (Int.toNat (IntKind.wrap .i64 (n44 + n45)) * 1)) v53 fun h63 =>
 asSl1 data_p fun a64 l65 c66 => 0 ≤ ((IntKind.wrap .i64 (n46 + n47)) : Int) ∧ (IntKind.wrap .i64 (n46 + n47)) < (l65 : Int) ∧ oneK v59 (storeK1 h63 (Addr.add a64 (Int.toNat (IntKind.wrap .i64 (n46 + n47)) * 1)) v59 fun h67 =>
 I0 child_25 h67 ∧ μ1 child_25 h67 < μ1 root_2 h4)))) X)
def A_slices_siftDownOrdered_int : Ann :=
 (.two .leaf (.one (.loop [11, 12, 13, 9, 14, 15, 16, 17, 18, 19, 20, 21, 22, 23, 24, 25, 26, 27, 28, 29, 30, 31, 32, 33, 34, 35, 36, 37, 38, 39, 40, 41, 42, 43, 44, 45, 46, 47, 48, 49, 50, 51, 52, 53, 54, 55, 56, 57, 58, 59, 60, 61, 62, 63, 64, 65, 66, 67, 68, 69, 70, 71, 72, 73, 74, 75, 8] [8] (.one (.two .leaf (.two (.two .leaf (.two .leaf .leaf)) (.two (.two (.join [17, 18, 19, 20, 21, 22, 23, 24, 25, 26, 27, 28, 29, 30, 31, 32, 33, 34, 35, 36] [36] (.plan [0, 1, 2, 3, 4, 5, 6, 7, 8, 9, 10, 11, 12, 13, 14, 15, 16, 17, 18, 19])) (.join [37, 38, 9] [9] (.two .leaf .leaf))) (.two (.two (.plan [0, 1, 2, 3, 4, 5, 6, 7, 8, 9, 10, 11, 12, 13]) (.two .leaf .leaf)) (.two (.plan [0, 1, 2, 3, 4, 5, 6, 7, 8, 9, 10, 11, 12, 13, 14, 15, 16, 17, 18, 19, 20, 21, 22, 23]) .leaf)))))))))
theorem C_slices_siftDownOrdered_int (ω : Amb) (data_p lo_p hi_p first_p : Value) (h : Hp) (R : Value → Hp → Prop) (X : List PanicEntry → Hp → Prop) (hk : W_slices_siftDownOrdered_int ω data_p lo_p hi_p first_p h R X) : CallX Try.prog ω 49 [data_p, lo_p, hi_p, first_p] h R X :=
 callX_of (an := A_slices_siftDownOrdered_int) Try.func49 ((show fnX Try.prog ω A_slices_siftDownOrdered_int Try.f49 [data_p, lo_p, hi_p, first_p] h R X = W_slices_siftDownOrdered_int ω data_p lo_p hi_p first_p h R X by kernel_rfl) ▸ hk)

/-- slices.nextPowerOfTwo -/
abbrev n_slices_nextPowerOfTwo : Nat := 50
def W_slices_nextPowerOfTwo (ω : Amb) (length_p : Value) (h : Hp) (R : Value → Hp → Prop) (X : List PanicEntry → Hp → Prop) : Prop :=
 asI length_p fun n0 => CallX Try.prog ω 33 [(.int .u64 (IntKind.wrap .u64 n0))] h (fun r1 h2 =>
 asI r1 fun n3 => 0 ≤ (n3 : Int) ∧ R (.int .u64 (shI .u64 .shl 1 n3)) h2) X
def A_slices_nextPowerOfTwo : Ann :=
 (.two .leaf (.two .leaf .leaf))
theorem C_slices_nextPowerOfTwo (ω : Amb) (length_p : Value) (h : Hp) (R : Value → Hp → Prop) (X : List PanicEntry → Hp → Prop) (hk : W_slices_nextPowerOfTwo ω length_p h R X) : CallX Try.prog ω 50 [length_p] h R X :=
 callX_of (an := A_slices_nextPowerOfTwo) Try.func50 ((show fnX Try.prog ω A_slices_nextPowerOfTwo Try.f50 [length_p] h R X = W_slices_nextPowerOfTwo ω length_p h R X by kernel_rfl) ▸ hk)

/-- (*slices.xorshift).Next -/
abbrev n_p_slices_xorshift_Next : Nat := 51
def W_p_slices_xorshift_Next (ω : Amb) (r_p : Value) (h : Hp) (R : Value → Hp → Prop) (X : List PanicEntry → Hp → Prop) : Prop :=
 nnK r_p (asP r_p fun p0 =>
 ∃ v1, cellH h p0 = some v1 ∧
 nnK r_p (asP r_p fun p2 =>
 ∃ v3, cellH h p2 = some v3 ∧
 asK .u64 v3 fun n4 => 0 ≤ (13 : Int) ∧ asK .u64 v1 fun n5 => nnK r_p (asP r_p fun p6 =>
 storeK1 h p6 (.int .u64 (bitI .u64 .xor n5 (shI .u64 .shl n4 13))) fun h7 =>
 nnK r_p (asP r_p fun p8 =>
 ∃ v9, cellH h7 p8 = some v9 ∧
 nnK r_p (asP r_p fun p10 =>
 ∃ v11, cellH h7 p10 = some v11 ∧
 asK .u64 v11 fun n12 => 0 ≤ (7 : Int) ∧ asK .u64 v9 fun n13 => nnK r_p (asP r_p fun p14 =>
 storeK1 h7 p14 (.int .u64 (bitI .u64 .xor n13 (shI .u64 .shr n12 7))) fun h15 =>
 nnK r_p (asP r_p fun p16 =>
 ∃ v17, cellH h15 p16 = some v17 ∧
 nnK r_p (asP r_p fun p18 =>
 ∃ v19, cellH h15 p18 = some v19 ∧
 asK .u64 v19 fun n20 => 0 ≤ (17 : Int) ∧ asK .u64 v17 fun n21 => nnK r_p (asP r_p fun p22 =>
 storeK1 h15 p22 (.int .u64 (bitI .u64 .xor n21 (shI .u64 .shl n20 17))) fun h23 =>
 nnK r_p (asP r_p fun p24 =>
 ∃ v25, cellH h23 p24 = some v25 ∧
 R v25 h23))))))))))
def A_p_slices_xorshift_Next : Ann :=
 (.two .leaf (.two (.plan [0, 1, 2, 3, 4, 5, 6, 7, 8, 9]) (.two (.plan [0, 1, 2, 3, 4, 5, 6, 7, 8, 9]) (.two (.plan [0, 1, 2, 3, 4, 5, 6, 7, 8, 9]) (.two .leaf .leaf)))))
theorem C_p_slices_xorshift_Next (ω : Amb) (r_p : Value) (h : Hp) (R : Value → Hp → Prop) (X : List PanicEntry → Hp → Prop) (hk : W_p_slices_xorshift_Next ω r_p h R X) : CallX Try.prog ω 51 [r_p] h R X :=
 callX_of (an := A_p_slices_xorshift_Next) Try.func51 ((show fnX Try.prog ω A_p_slices_xorshift_Next Try.f51 [r_p] h R X = W_p_slices_xorshift_Next ω r_p h R X by kernel_rfl) ▸ hk)

/-- slices.medianAdjacentOrdered[int] -/
abbrev n_slices_medianAdjacentOrdered_int : Nat := 52
def W_slices_medianAdjacentOrdered_int (ω : Amb) (data_p a_p swaps_p : Value) (h : Hp) (R : Value → Hp → Prop) (X : List PanicEntry → Hp → Prop) : Prop :=
 asK .i64 a_p fun n0 => asK .i64 a_p fun n1 => CallX Try.prog ω 53 [data_p, (.int .i64 (IntKind.wrap .i64 (n0 - 1))), a_p, (.int .i64 (IntKind.wrap .i64 (n1 + 1))), swaps_p] h (fun r2 h3 =>
 R r2 h3) X
def A_slices_medianAdjacentOrdered_int : Ann :=
 (.two .leaf (.two .leaf .leaf))
theorem C_slices_medianAdjacentOrdered_int (ω : Amb) (data_p a_p swaps_p : Value) (h : Hp) (R : Value → Hp → Prop) (X : List PanicEntry → Hp → Prop) (hk : W_slices_medianAdjacentOrdered_int ω data_p a_p swaps_p h R X) : CallX Try.prog ω 52 [data_p, a_p, swaps_p] h R X :=
 callX_of (an := A_slices_medianAdjacentOrdered_int) Try.func52 ((show fnX Try.prog ω A_slices_medianAdjacentOrdered_int Try.f52 [data_p, a_p, swaps_p] h R X = W_slices_medianAdjacentOrdered_int ω data_p a_p swaps_p h R X by kernel_rfl) ▸ hk)

/-- slices.medianOrdered[int] -/
abbrev n_slices_medianOrdered_int : Nat := 53
def W_slices_medianOrdered_int (ω : Amb) (data_p a_p b_p c_p swaps_p : Value) (h : Hp) (R : Value → Hp → Prop) (X : List PanicEntry → Hp → Prop) : Prop :=
 CallX Try.prog ω 55 [data_p, a_p, b_p, swaps_p] h (fun r0 h1 =>
 asT r0 fun T2 => asO T2[0]? fun v3 => asT r0 fun T4 => asO T4[1]? fun v5 => CallX Try.prog ω 55 [data_p, v5, c_p, swaps_p] h1 (fun r6 h7 =>
 asT r6 fun T8 => asO T8[0]? fun v9 => asT r6 fun T10 => asO T10[1]? fun v11 => CallX Try.prog ω 55 [data_p, v3, v9, swaps_p] h7 (fun r12 h13 =>
 asT r12 fun T14 => asO T14[0]? fun v15 => asT r12 fun T16 => asO T16[1]? fun v17 => R v17 h13) X) X) X
def A_slices_medianOrdered_int : Ann :=
 (.two .leaf (.two .leaf (.two .leaf (.two .leaf (.two .leaf .leaf)))))
theorem C_slices_medianOrdered_int (ω : Amb) (data_p a_p b_p c_p swaps_p : Value) (h : Hp) (R : Value → Hp → Prop) (X : List PanicEntry → Hp → Prop) (hk : W_slices_medianOrdered_int ω data_p a_p b_p c_p swaps_p h R X) : CallX Try.prog ω 53 [data_p, a_p, b_p, c_p, swaps_p] h R X :=
 callX_of (an := A_slices_medianOrdered_int) Try.func53 ((show fnX Try.prog ω A_slices_medianOrdered_int Try.f53 [data_p, a_p, b_p, c_p, swaps_p] h R X = W_slices_medianOrdered_int ω data_p a_p b_p c_p swaps_p h R X by kernel_rfl) ▸ hk)

/-- cmp.isNaN[int] -/
abbrev n_cmp_isNaN_int : Nat := 54
def W_cmp_isNaN_int (ω : Amb) (x_p : Value) (h : Hp) (R : Value → Hp → Prop) (X : List PanicEntry → Hp → Prop) : Prop :=
 asK .i64 x_p fun n0 => asK .i64 x_p fun n1 => R (.bool (n0 != (n1 : Int))) h
def A_cmp_isNaN_int : Ann :=
 (.two .leaf (.two .leaf .leaf))
theorem C_cmp_isNaN_int (ω : Amb) (x_p : Value) (h : Hp) (R : Value → Hp → Prop) (X : List PanicEntry → Hp → Prop) (hk : W_cmp_isNaN_int ω x_p h R X) : CallX Try.prog ω 54 [x_p] h R X :=
 callX_of (an := A_cmp_isNaN_int) Try.func54 ((show fnX Try.prog ω A_cmp_isNaN_int Try.f54 [x_p] h R X = W_cmp_isNaN_int ω x_p h R X by kernel_rfl) ▸ hk)

/-- slices.order2Ordered[int] -/
abbrev n_slices_order2Ordered_int : Nat := 55
def W_slices_order2Ordered_int (ω : Amb) (data_p a_p b_p swaps_p : Value) (h : Hp) (R : Value → Hp → Prop) (X : List PanicEntry → Hp → Prop) : Prop :=
 asSl1 data_p fun a0 l1 c2 => asI b_p fun n3 => 0 ≤ (n3 : Int) ∧ n3 < (l1 : Int) ∧ ∃ v4, cellH h (Addr.add a0 (Int.toNat n3 * 1)) = some v4 ∧
 asSl1 data_p fun a5 l6 c7 => asI a_p fun n8 => 0 ≤ (n8 : Int) ∧ n8 < (l6 : Int) ∧ ∃ v9, cellH h (Addr.add a5 (Int.toNat n8 * 1)) = some v9 ∧
 CallX Try.prog ω 42 [v4, v9] h (fun r10 h11 =>
 asB r10 fun b12 => cond b12
 (nnK swaps_p (asP swaps_p fun p13 =>
 ∃ v14, cellH h11 p13 = some v14 ∧
 asK .i64 v14 fun n15 => nnK swaps_p (asP swaps_p fun p16 =>
 storeK1 h11 p16 (.int .i64 (IntKind.wrap .i64 (n15 + 1))) fun h17 =>
 R (.tuple #[b_p, a_p]) h17)))
 (R (.tuple #[a_p, b_p]) h11)) X
def A_slices_order2Ordered_int : Ann :=
 (.two .leaf (.two (.two (.plan [0, 1, 2, 3, 4, 5, 6, 7, 8]) (.two (.two .leaf (.two .leaf .leaf)) .leaf)) (.two .leaf .leaf)))
theorem C_slices_order2Ordered_int (ω : Amb) (data_p a_p b_p swaps_p : Value) (h : Hp) (R : Value → Hp → Prop) (X : List PanicEntry → Hp → Prop) (hk : W_slices_order2Ordered_int ω data_p a_p b_p swaps_p h R X) : CallX Try.prog ω 55 [data_p, a_p, b_p, swaps_p] h R X :=
 callX_of (an := A_slices_order2Ordered_int) Try.func55 ((show fnX Try.prog ω A_slices_order2Ordered_int Try.f55 [data_p, a_p, b_p, swaps_p] h R X = W_slices_order2Ordered_int ω data_p a_p b_p swaps_p h R X by kernel_rfl) ▸ hk)
/- 56 (runtime.boundsError).Error: not printed: [no body] -/
/- 57 (runtime.boundsError).RuntimeError: not printed: [no body] -/
/- 58 (runtime.errorString).Error: not printed: [no body] -/
/- 59 (runtime.errorString).RuntimeError: not printed: [no body] -/

end Go.Proofs.Ytihibbejjmldjaa.Sx
