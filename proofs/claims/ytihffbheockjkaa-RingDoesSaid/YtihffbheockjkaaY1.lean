/- Formulas of the functions' texts, written by a program of ours; each is checked by the kernel. -/
import Derived.Test.YtihffbheockjkaaSxCore
import Derived.KernelRfl
import Derived.Test.YtihffbheockjkaaProg
set_option linter.unusedVariables false
set_option maxRecDepth 100000
namespace Go.Proofs.Ytihffbheockjkaa.Sx
open Go Go.Sx Go.Proofs

/-- pipewright/pipewrightlaw.RingKeeps -/
abbrev n_pipewrightlaw_RingKeeps : Nat := 3
def W_pipewrightlaw_RingKeeps (ω : Amb) (slots_p l_p takes_p : Value) (h : Hp) (R : Value → Hp → Prop) (X : List PanicEntry → Hp → Prop) : Prop :=
 CallX Try.prog ω 5 [] h (fun r0 h1 =>
 asB r0 fun b2 => cond (!b2)
 (R (.bool false) h1)
 (asSl l_p fun a3 l4 c5 => cond (decide (((l4 : Int) : Int) > 200))
 (R (.bool true) h1)
 (CallX Try.prog ω 6 [slots_p] h1 (fun r6 h7 =>
 ∃ (I8 : Value → Value → Value → Hp → Prop) (μ9 : Value → Value → Value → Hp → Nat), I8 (.slice none 0 0) (.slice none 0 0) (.int .i64 0) h7 ∧ ∀ put_10 got_11 i_12 (d13 : Nat → Value) (h14 : Hp), I8 put_10 got_11 i_12 h14 →
 asSl l_p fun a15 l16 c17 => asK .i64 i_12 fun n18 => cond (decide ((n18 : Int) < (l16 : Int)))
 (asSl1 l_p fun a19 l20 c21 => asI i_12 fun n22 => 0 ≤ (n22 : Int) ∧ n22 < (l20 : Int) ∧ ∃ v23, cellH h14 (Addr.add a19 (Int.toNat n22 * 1)) = some v23 ∧
 CallX Try.prog ω 7 [r6, v23] h14 (fun r24 h25 =>
 ∃ J26 : Value → Hp → Prop,
 (asB r24 fun b30 => cond b30
 (asSl1 l_p fun a31 l32 c33 => asI i_12 fun n34 => 0 ≤ (n34 : Int) ∧ n34 < (l32 : Int) ∧ ∃ v35, cellH h25 (Addr.add a31 (Int.toNat n34 * 1)) = some v35 ∧
 oneK v35 (appK Try.prog 22 (Array.push h25 (.cells (List.toArray [v35]) 9 (0, 0))) put_10 (.slice (some ⟨Array.size h25, 0, none⟩) 1 1) fun w36 h37 =>
 J26 w36 h37))
 (∃ β38 : Bool,
 (asK .i64 slots_p fun n40 => cond (decide ((n40 : Int) < 1))
 (((.bool true) : Value) = .bool β38 ∧ h25 = h25)
 (CallX Try.prog ω 8 [r6] h25 (fun r41 h42 =>
 asK .i64 r41 fun n43 => asK .i64 slots_p fun n44 => ((.bool (n43 != (n44 : Int))) : Value) = .bool β38 ∧ h42 = h25) X)) ∧
 ∀ d39 : Nat → Value,
 cond β38
 (R (.bool false) h25)
 (J26 put_10 h25))) ∧
 ∀ put_27 (d28 : Nat → Value) (h29 : Hp), J26 put_27 h29 →
 asSl takes_p fun a45 l46 c47 => ∃ J48 : Value → Hp → Prop,
 (cond (decide (((l46 : Int) : Int) > 0))
 (asSl takes_p fun a52 l53 c54 => asK .i64 i_12 fun n55 => ((l53 : Int) : Int) ≠ 0 ∧ asSl1 takes_p fun a56 l57 c58 => 0 ≤ ((Int.tmod n55 (l53 : Int)) : Int) ∧ (Int.tmod n55 (l53 : Int)) < (l57 : Int) ∧ ∃ v59, cellH h29 (Addr.add a56 (Int.toNat (Int.tmod n55 (l53 : Int)) * 1)) = some v59 ∧
 asI v59 fun n60 => (4 : Int) ≠ 0 ∧ J48 (.int .i64 (IntKind.wrap .i64 (Int.tmod (IntKind.wrap .u64 n60) 4))) h29)
 (J48 (.int .i64 0) h29)) ∧
 ∀ n_49 (d50 : Nat → Value) (h51 : Hp), J48 n_49 h51 →
 ∃ (I61 : Value → Value → Hp → Prop) (μ62 : Value → Value → Hp → Nat), I61 got_11 n_49 h51 ∧ ∀ got_63 n_64 (d65 : Nat → Value) (h66 : Hp), I61 got_63 n_64 h66 →
 asK .i64 n_64 fun n67 => cond (decide ((n67 : Int) > 0))
 (∃ J68 : Value → Hp → Prop,
 (CallX Try.prog ω 9 [r6] h66 (fun r72 h73 =>
 asT r72 fun T74 => asO T74[0]? fun v75 => asT r72 fun T76 => asO T76[1]? fun v77 => ∃ J78 : Value → Hp → Prop,
 (asB v77 fun b82 => cond b82
 (oneK v75 (appK Try.prog 22 (Array.push h73 (.cells (List.toArray [v75]) 9 (0, 0))) got_63 (.slice (some ⟨Array.size h73, 0, none⟩) 1 1) fun w83 h84 =>
 J78 w83 h84))
 (∃ β85 : Bool,
 (CallX Try.prog ω 8 [r6] h73 (fun r87 h88 =>
 asK .i64 r87 fun n89 => cond (n89 != (0 : Int))
 (((.bool true) : Value) = .bool β85 ∧ h88 = h73)
 (asS v75 fun s90 => ((.bool (!(ByteArray.toList s90 == ByteArray.toList ⟨#[]⟩))) : Value) = .bool β85 ∧ h88 = h73)) X) ∧
 ∀ d86 : Nat → Value,
 cond β85
 (R (.bool false) h73)
 (J78 got_63 h73))) ∧
 ∀ got_79 (d80 : Nat → Value) (h81 : Hp), J78 got_79 h81 →
 J68 got_79 h81) X) ∧
 ∀ got_69 (d70 : Nat → Value) (h71 : Hp), J68 got_69 h71 →
 asK .i64 n_64 fun n91 => I61 got_69 (.int .i64 (IntKind.wrap .i64 (n91 - 1))) h71 ∧ μ62 got_69 (.int .i64 (IntKind.wrap .i64 (n91 - 1))) h71 < μ62 got_63 n_64 h66)
 (asK .i64 i_12 fun n92 => I8 put_27 got_63 (.int .i64 (IntKind.wrap .i64 (n92 + 1))) h66 ∧ μ9 put_27 got_63 (.int .i64 (IntKind.wrap .i64 (n92 + 1))) h66 < μ9 put_10 got_11 i_12 h14)) X)
 (CallX Try.prog ω 10 [r6] h14 (fun r93 h94 =>
 appK Try.prog 22 h94 got_11 r93 fun w95 h96 =>
 asSl w95 fun a97 l98 c99 => asSl put_10 fun a100 l101 c102 => cond ((l98 : Int) != ((l101 : Int) : Int))
 (R (.bool false) h96)
 (∃ (I103 : Value → Hp → Prop) (μ104 : Value → Hp → Nat), I103 (.int .i64 0) h96 ∧ ∀ i_105 (d106 : Nat → Value) (h107 : Hp), I103 i_105 h107 →
 asSl put_10 fun a108 l109 c110 => asK .i64 i_105 fun n111 => cond (decide ((n111 : Int) < (l109 : Int)))
 (asSl1 w95 fun a112 l113 c114 => asI i_105 fun n115 => 0 ≤ (n115 : Int) ∧ n115 < (l113 : Int) ∧ ∃ v116, cellH h107 (Addr.add a112 (Int.toNat n115 * 1)) = some v116 ∧
 asSl1 put_10 fun a117 l118 c119 => asI i_105 fun n120 => 0 ≤ (n120 : Int) ∧ n120 < (l118 : Int) ∧ ∃ v121, cellH h107 (Addr.add a117 (Int.toNat n120 * 1)) = some v121 ∧
 asS v116 fun s122 => asS v121 fun s123 => cond (!(ByteArray.toList s122 == ByteArray.toList s123))
 (R (.bool false) h107)
 (asK .i64 i_105 fun n124 => I103 (.int .i64 (IntKind.wrap .i64 (n124 + 1))) h107 ∧ μ104 (.int .i64 (IntKind.wrap .i64 (n124 + 1))) h107 < μ104 i_105 h107))
 (R (.bool true) h107))) X)) X))) X
def A_pipewrightlaw_RingKeeps : Ann :=
 (.two .leaf (.two (.two .leaf (.two (.two .leaf .leaf) .leaf)) (.two (.two .leaf (.two (.two .leaf .leaf) .leaf)) (.two .leaf (.two .leaf (.two (.two .leaf (.one (.loop [22, 23, 24, 25, 28, 29, 30, 31, 32, 33, 34, 35, 36, 37, 38, 39, 40, 8, 41, 42, 43, 44, 45, 46, 47, 48, 6, 11, 49, 50, 51, 52, 53, 54, 55, 56, 57, 58, 59, 60, 61, 62, 63, 67, 68, 66, 69, 70, 12, 13, 71, 72, 73, 74, 75, 9, 76, 77, 78, 79, 80, 81, 82, 64, 65, 26, 27, 10] [8, 9, 10] (.two (.two .leaf (.two .leaf .leaf)) (.two (.one (.two (.two .leaf (.join [34, 35, 36, 37, 38, 39, 40, 8, 41, 42, 43, 44, 45, 46, 47, 48, 6] [8] (.two .leaf (.two (.jb [41, 42, 43, 44, 45, 46, 47, 48] 48 .leaf) (.two (.two .leaf .leaf) .leaf))))) (.two .leaf (.two (.two .leaf (.join [52, 53, 54, 55, 56, 57, 58, 59, 60, 61, 11] [11] (.two .leaf .leaf))) (.one (.loop [62, 63, 67, 68, 66, 69, 70, 12, 13, 71, 72, 73, 74, 75, 9, 76, 77, 78, 79, 80, 81, 82, 6, 64, 65, 11] [9, 11] (.two (.two .leaf (.two .leaf .leaf)) (.two (.join [67, 68, 66, 69, 70, 12, 13, 71, 72, 73, 74, 75, 9, 76, 77, 78, 79, 80, 81, 82, 6] [9] (.one (.two .leaf (.two .leaf (.join [72, 73, 74, 75, 9, 76, 77, 78, 79, 80, 81, 82, 6] [9] (.two .leaf (.two (.jb [76, 77, 78, 79, 80, 81, 82] 82 .leaf) (.two (.two .leaf .leaf) .leaf)))))))) .leaf)))))))) .leaf))))) (.two .leaf (.two (.two .leaf (.two (.two .leaf .leaf) .leaf)) (.two (.two .leaf (.one (.loop [92, 93, 94, 95, 98, 99, 100, 101, 102, 103, 104, 105, 106, 6, 96, 97, 14] [14] (.two (.two .leaf (.two .leaf .leaf)) (.two (.one (.two (.plan [0, 1, 2, 3, 4, 5, 6, 7, 8]) (.two (.two .leaf .leaf) .leaf))) .leaf))))) (.two .leaf .leaf))))))))))
theorem C_pipewrightlaw_RingKeeps (ω : Amb) (slots_p l_p takes_p : Value) (h : Hp) (R : Value → Hp → Prop) (X : List PanicEntry → Hp → Prop) (hk : W_pipewrightlaw_RingKeeps ω slots_p l_p takes_p h R X) : CallX Try.prog ω 3 [slots_p, l_p, takes_p] h R X :=
 callX_of (an := A_pipewrightlaw_RingKeeps) Try.func3 ((show fnX Try.prog ω A_pipewrightlaw_RingKeeps Try.f3 [slots_p, l_p, takes_p] h R X = W_pipewrightlaw_RingKeeps ω slots_p l_p takes_p h R X by kernel_rfl) ▸ hk)

/-- pipewright/pipewrightlaw.RingDoes -/
abbrev n_pipewrightlaw_RingDoes : Nat := 4
def W_pipewrightlaw_RingDoes (ω : Amb) (a_p b_p l_p : Value) (h : Hp) (R : Value → Hp → Prop) (X : List PanicEntry → Hp → Prop) : Prop :=
 CallX Try.prog ω 5 [] h (fun r0 h1 =>
 asB r0 fun b2 => cond (!b2)
 (R (.bool false) h1)
 (asSl l_p fun a3 l4 c5 => cond (decide (((l4 : Int) : Int) > 500))
 (R (.bool true) h1)
 (CallX Try.prog ω 11 [a_p] h1 (fun r6 h7 =>
 CallX Try.prog ω 11 [b_p] h7 (fun r8 h9 =>
 oneK r6 (oneK r8 (asK .i64 a_p fun n10 => asK .i64 b_p fun n11 => ∃ (I12 : Value → Hp → Prop) (μ13 : Value → Hp → Nat), I12 (.int .i64 0) (Array.push (Array.push (Array.push h9 (.cells (List.toArray [r6, r8]) 35 (0, 0))) (.cells (List.toArray [(.slice none 0 0), (.slice none 0 0)]) 23 (0, 0))) (.cells (List.toArray [(.int .i64 (if (0 : Int) > n10 then (0 : Int) else n10)), (.int .i64 (if (0 : Int) > n11 then (0 : Int) else n11))]) 3 (0, 0))) ∧ ∀ i_14 (d15 : Nat → Value) (h16 : Hp), I12 i_14 h16 →
 asSl l_p fun a17 l18 c19 => asK .i64 i_14 fun n20 => cond (decide ((n20 : Int) < (l18 : Int)))
 (∃ J21 : Hp → Prop,
 (asSl1 l_p fun a24 l25 c26 => asI i_14 fun n27 => 0 ≤ (n27 : Int) ∧ n27 < (l25 : Int) ∧ ∃ v28, cellH h16 (Addr.add (Addr.add a24 (Int.toNat n27 * 3)) 2) = some v28 ∧
 ∃ J29 : Value → Hp → Prop,
 (asB v28 fun b33 => cond b33
 (J29 (.int .i64 1) h16)
 (J29 (.int .i64 0) h16)) ∧
 ∀ k_30 (d31 : Nat → Value) (h32 : Hp), J29 k_30 h32 →
 asI k_30 fun n34 => 0 ≤ (n34 : Int) ∧ n34 < (2 : Int) ∧ ∃ v35, cellH h32 (Addr.add ⟨Array.size h9, 0, none⟩ (Int.toNat n34 * 1)) = some v35 ∧
 ∃ J36 : Value → Hp → Prop,
 (asI k_30 fun n40 => 0 ≤ (n40 : Int) ∧ n40 < (2 : Int) ∧ ∃ v41, cellH h32 (Addr.add ⟨Array.size (Array.push (Array.push h9 (.cells (List.toArray [r6, r8]) 35 (0, 0))) (.cells (List.toArray [(.slice none 0 0), (.slice none 0 0)]) 23 (0, 0))), 0, none⟩ (Int.toNat n40 * 1)) = some v41 ∧
 asK .i64 v41 fun n42 => cond (decide ((n42 : Int) > 0))
 (asI k_30 fun n43 => 0 ≤ (n43 : Int) ∧ n43 < (2 : Int) ∧ ∃ v44, cellH h32 (Addr.add ⟨Array.size (Array.push h9 (.cells (List.toArray [r6, r8]) 35 (0, 0))), 0, none⟩ (Int.toNat n43 * 1)) = some v44 ∧
 asSl v44 fun a45 l46 c47 => asI k_30 fun n48 => 0 ≤ (n48 : Int) ∧ n48 < (2 : Int) ∧ ∃ v49, cellH h32 (Addr.add ⟨Array.size (Array.push (Array.push h9 (.cells (List.toArray [r6, r8]) 35 (0, 0))) (.cells (List.toArray [(.slice none 0 0), (.slice none 0 0)]) 23 (0, 0))), 0, none⟩ (Int.toNat n48 * 1)) = some v49 ∧
 asK .i64 v49 fun n50 => J36 (.bool (decide (((l46 : Int) : Int) ≥ n50))) h32)
 (J36 (.bool false) h32)) ∧
 ∀ full_37 (d38 : Nat → Value) (h39 : Hp), J36 full_37 h39 →
 ∃ β51 : Bool,
 (asI k_30 fun n53 => 0 ≤ (n53 : Int) ∧ n53 < (2 : Int) ∧ ∃ v54, cellH h39 (Addr.add ⟨Array.size (Array.push (Array.push h9 (.cells (List.toArray [r6, r8]) 35 (0, 0))) (.cells (List.toArray [(.slice none 0 0), (.slice none 0 0)]) 23 (0, 0))), 0, none⟩ (Int.toNat n53 * 1)) = some v54 ∧
 CallX Try.prog ω 12 [v35] h39 (fun r55 h56 =>
 cellH h56 (Addr.add ⟨Array.size (Array.push (Array.push h9 (.cells (List.toArray [r6, r8]) 35 (0, 0))) (.cells (List.toArray [(.slice none 0 0), (.slice none 0 0)]) 23 (0, 0))), 0, none⟩ (Int.toNat n53 * 1)) = some v54 ∧ asK .i64 r55 fun n57 => asK .i64 v54 fun n58 => cond (n57 != (n58 : Int))
 (((.bool true) : Value) = .bool β51 ∧ h56 = h39)
 (asI k_30 fun n59 => 0 ≤ (n59 : Int) ∧ n59 < (2 : Int) ∧ ∃ v60, cellH h56 (Addr.add ⟨Array.size (Array.push h9 (.cells (List.toArray [r6, r8]) 35 (0, 0))), 0, none⟩ (Int.toNat n59 * 1)) = some v60 ∧
 asSl v60 fun a61 l62 c63 => CallX Try.prog ω 13 [v35] h56 (fun r64 h65 =>
 cellH h65 (Addr.add ⟨Array.size (Array.push h9 (.cells (List.toArray [r6, r8]) 35 (0, 0))), 0, none⟩ (Int.toNat n59 * 1)) = some v60 ∧ asK .i64 r64 fun n66 => cond (n66 != ((l62 : Int) : Int))
 (((.bool true) : Value) = .bool β51 ∧ h65 = h39)
 (CallX Try.prog ω 14 [v35] h65 (fun r67 h68 =>
 asB r67 fun b69 => asB full_37 fun b70 => ((.bool (!(b69 == b70))) : Value) = .bool β51 ∧ h68 = h39) X)) X)) X) ∧
 ∀ d52 : Nat → Value,
 cond β51
 (R (.bool false) h39)
 (asSl1 l_p fun a71 l72 c73 => asI i_14 fun n74 => 0 ≤ (n74 : Int) ∧ n74 < (l72 : Int) ∧ ∃ v75, cellH h39 (Addr.add (Addr.add a71 (Int.toNat n74 * 3)) 0) = some v75 ∧
 asI v75 fun n76 => (9 : Int) ≠ 0 ∧ ∃ J77 : Hp → Prop,
 (∃ J80 : Hp → Prop,
 (cond (decide (((IntKind.wrap .i64 (Int.tmod (IntKind.wrap .u64 n76) 9)) : Int) < 4))
 (asSl1 l_p fun a83 l84 c85 => asI i_14 fun n86 => 0 ≤ (n86 : Int) ∧ n86 < (l84 : Int) ∧ ∃ v87, cellH h39 (Addr.add (Addr.add a83 (Int.toNat n86 * 3)) 1) = some v87 ∧
 CallX Try.prog ω 15 [v35, v87] h39 (fun r88 h89 =>
 asB r88 fun b90 => asB full_37 fun b91 => cond (b90 == b91)
 (R (.bool false) h89)
 (asB full_37 fun b92 => ∃ J93 : Hp → Prop,
 (cond (!b92)
 (asI k_30 fun n96 => 0 ≤ (n96 : Int) ∧ n96 < (2 : Int) ∧ ∃ v97, cellH h89 (Addr.add ⟨Array.size (Array.push h9 (.cells (List.toArray [r6, r8]) 35 (0, 0))), 0, none⟩ (Int.toNat n96 * 1)) = some v97 ∧
 asSl1 l_p fun a98 l99 c100 => asI i_14 fun n101 => 0 ≤ (n101 : Int) ∧ n101 < (l99 : Int) ∧ ∃ v102, cellH h89 (Addr.add (Addr.add a98 (Int.toNat n101 * 3)) 1) = some v102 ∧
 oneK v102 (cellH (Array.push h89 (.cells (List.toArray [v102]) 3 (0, 0))) (Addr.add ⟨Array.size (Array.push h9 (.cells (List.toArray [r6, r8]) 35 (0, 0))), 0, none⟩ (Int.toNat n96 * 1)) = some v97 ∧ appK Try.prog 23 (Array.push h89 (.cells (List.toArray [v102]) 3 (0, 0))) v97 (.slice (some ⟨Array.size h89, 0, none⟩) 1 1) fun w103 h104 =>
 asI k_30 fun n105 => 0 ≤ (n105 : Int) ∧ n105 < (2 : Int) ∧ oneK w103 (storeK1 h104 (Addr.add ⟨Array.size (Array.push h9 (.cells (List.toArray [r6, r8]) 35 (0, 0))), 0, none⟩ (Int.toNat n105 * 1)) w103 fun h106 =>
 J93 h106)))
 (J93 h89)) ∧
 ∀  (d94 : Nat → Value) (h95 : Hp), J93 h95 →
 J80 h95)) X)
 (∃ J107 : Hp → Prop,
 (cond (decide (((IntKind.wrap .i64 (Int.tmod (IntKind.wrap .u64 n76) 9)) : Int) < 7))
 (CallX Try.prog ω 16 [v35] h39 (fun r110 h111 =>
 asT r110 fun T112 => asO T112[0]? fun v113 => asT r110 fun T114 => asO T114[1]? fun v115 => ∃ β116 : Bool,
 (asI k_30 fun n118 => 0 ≤ (n118 : Int) ∧ n118 < (2 : Int) ∧ ∃ v119, cellH h111 (Addr.add ⟨Array.size (Array.push h9 (.cells (List.toArray [r6, r8]) 35 (0, 0))), 0, none⟩ (Int.toNat n118 * 1)) = some v119 ∧
 asSl v119 fun a120 l121 c122 => asB v115 fun b123 => cond (!(b123 == (decide (((l121 : Int) : Int) > 0))))
 (((.bool true) : Value) = .bool β116 ∧ h111 = h111)
 (asB v115 fun b124 => cond (!b124)
 (asK .i64 v113 fun n125 => ((.bool (n125 != (0 : Int))) : Value) = .bool β116 ∧ h111 = h111)
 (((.bool false) : Value) = .bool β116 ∧ h111 = h111))) ∧
 ∀ d117 : Nat → Value,
 cond β116
 (R (.bool false) h111)
 (∃ J126 : Hp → Prop,
 (asB v115 fun b129 => cond b129
 (asI k_30 fun n130 => 0 ≤ (n130 : Int) ∧ n130 < (2 : Int) ∧ ∃ v131, cellH h111 (Addr.add ⟨Array.size (Array.push h9 (.cells (List.toArray [r6, r8]) 35 (0, 0))), 0, none⟩ (Int.toNat n130 * 1)) = some v131 ∧
 asSl1 v131 fun a132 l133 c134 => 0 ≤ (0 : Int) ∧ 0 < (l133 : Int) ∧ ∃ v135, cellH h111 (Addr.add a132 (Int.toNat 0 * 1)) = some v135 ∧
 asK .i64 v113 fun n136 => asK .i64 v135 fun n137 => cond (n136 != (n137 : Int))
 (R (.bool false) h111)
 (asI k_30 fun n138 => 0 ≤ (n138 : Int) ∧ n138 < (2 : Int) ∧ ∃ v139, cellH h111 (Addr.add ⟨Array.size (Array.push h9 (.cells (List.toArray [r6, r8]) 35 (0, 0))), 0, none⟩ (Int.toNat n138 * 1)) = some v139 ∧
 asSl v139 fun a140 l141 c142 => 0 ≤ (1 : Int) ∧ (1 : Int) ≤ (l141 : Int) ∧ (l141 : Int) ≤ (c142 : Int) ∧ asI k_30 fun n143 => 0 ≤ (n143 : Int) ∧ n143 < (2 : Int) ∧ storeK1 h111 (Addr.add ⟨Array.size (Array.push h9 (.cells (List.toArray [r6, r8]) 35 (0, 0))), 0, none⟩ (Int.toNat n143 * 1)) (.slice (if c142 = Int.toNat 1 then a140 else Option.map (fun y => Addr.add y (Int.toNat 1 * 1)) a140) (Int.toNat (l141 : Int) - Int.toNat 1) (c142 - Int.toNat 1)) fun h144 =>
 J126 h144))
 (J126 h111)) ∧
 ∀  (d127 : Nat → Value) (h128 : Hp), J126 h128 →
 J107 h128)) X)
 (∃ J145 : Hp → Prop,
 (cond ((IntKind.wrap .i64 (Int.tmod (IntKind.wrap .u64 n76) 9)) == (7 : Int))
 (CallX Try.prog ω 17 [v35] h39 (fun r148 h149 =>
 asI k_30 fun n150 => 0 ≤ (n150 : Int) ∧ n150 < (2 : Int) ∧ ∃ v151, cellH h149 (Addr.add ⟨Array.size (Array.push h9 (.cells (List.toArray [r6, r8]) 35 (0, 0))), 0, none⟩ (Int.toNat n150 * 1)) = some v151 ∧
 CallX Try.prog ω 18 [r148, v151] h149 (fun r152 h153 =>
 asB r152 fun b154 => cond (!b154)
 (R (.bool false) h153)
 (∃ (I155 : Value → Hp → Prop) (μ156 : Value → Hp → Nat), I155 (.int .i64 0) h153 ∧ ∀ j_157 (d158 : Nat → Value) (h159 : Hp), I155 j_157 h159 →
 asSl r148 fun a160 l161 c162 => asK .i64 j_157 fun n163 => cond (decide ((n163 : Int) < (l161 : Int)))
 (asSl1 r148 fun a164 l165 c166 => asI j_157 fun n167 => 0 ≤ (n167 : Int) ∧ n167 < (l165 : Int) ∧ ∃ v168, cellH h159 (Addr.add a164 (Int.toNat n167 * 1)) = some v168 ∧
 asK .i64 v168 fun n169 => asSl1 r148 fun a170 l171 c172 => asI j_157 fun n173 => 0 ≤ (n173 : Int) ∧ n173 < (l171 : Int) ∧ storeK1 h159 (Addr.add a170 (Int.toNat n173 * 1)) (.int .i64 (IntKind.wrap .i64 (n169 + 1))) fun h174 =>
 asK .i64 j_157 fun n175 => I155 (.int .i64 (IntKind.wrap .i64 (n175 + 1))) h174 ∧ μ156 (.int .i64 (IntKind.wrap .i64 (n175 + 1))) h174 < μ156 j_157 h159)
 (asI k_30 fun n176 => 0 ≤ (n176 : Int) ∧ n176 < (2 : Int) ∧ ∃ v177, cellH h159 (Addr.add ⟨Array.size (Array.push h9 (.cells (List.toArray [r6, r8]) 35 (0, 0))), 0, none⟩ (Int.toNat n176 * 1)) = some v177 ∧
 CallX Try.prog ω 17 [v35] h159 (fun r178 h179 =>
 cellH h179 (Addr.add ⟨Array.size (Array.push h9 (.cells (List.toArray [r6, r8]) 35 (0, 0))), 0, none⟩ (Int.toNat n176 * 1)) = some v177 ∧ CallX Try.prog ω 18 [r178, v177] h179 (fun r180 h181 =>
 asB r180 fun b182 => cond (!b182)
 (R (.bool false) h181)
 (J145 h181)) X) X))) X) X)
 (asI k_30 fun n183 => 0 ≤ (n183 : Int) ∧ n183 < (2 : Int) ∧ ∃ v184, cellH h39 (Addr.add ⟨Array.size (Array.push h9 (.cells (List.toArray [r6, r8]) 35 (0, 0))), 0, none⟩ (Int.toNat n183 * 1)) = some v184 ∧
 CallX Try.prog ω 19 [v35] h39 (fun r185 h186 =>
 cellH h186 (Addr.add ⟨Array.size (Array.push h9 (.cells (List.toArray [r6, r8]) 35 (0, 0))), 0, none⟩ (Int.toNat n183 * 1)) = some v184 ∧ CallX Try.prog ω 18 [r185, v184] h186 (fun r187 h188 =>
 asB r187 fun b189 => cond (!b189)
 (R (.bool false) h188)
 (asI k_30 fun n190 => 0 ≤ (n190 : Int) ∧ n190 < (2 : Int) ∧ storeK1 h188 (Addr.add ⟨Array.size (Array.push h9 (.cells (List.toArray [r6, r8]) 35 (0, 0))), 0, none⟩ (Int.toNat n190 * 1)) (.slice none 0 0) fun h191 =>
 J145 h191)) X) X)) ∧
 ∀  (d146 : Nat → Value) (h147 : Hp), J145 h147 →
 J107 h147)) ∧
 ∀  (d108 : Nat → Value) (h109 : Hp), J107 h109 →
 J80 h109)) ∧
 ∀  (d81 : Nat → Value) (h82 : Hp), J80 h82 →
 J77 h82) ∧
 ∀  (d78 : Nat → Value) (h79 : Hp), J77 h79 →
 J21 h79)) ∧
 ∀  (d22 : Nat → Value) (h23 : Hp), J21 h23 →
 asK .i64 i_14 fun n192 => I12 (.int .i64 (IntKind.wrap .i64 (n192 + 1))) h23 ∧ μ13 (.int .i64 (IntKind.wrap .i64 (n192 + 1))) h23 < μ13 i_14 h16)
 (∃ J193 : Value → Hp → Prop,
 (0 ≤ (0 : Int) ∧ 0 < (2 : Int) ∧ ∃ v197, cellH h16 (Addr.add ⟨Array.size h9, 0, none⟩ (Int.toNat 0 * 1)) = some v197 ∧
 0 ≤ (0 : Int) ∧ 0 < (2 : Int) ∧ ∃ v198, cellH h16 (Addr.add ⟨Array.size (Array.push h9 (.cells (List.toArray [r6, r8]) 35 (0, 0))), 0, none⟩ (Int.toNat 0 * 1)) = some v198 ∧
 CallX Try.prog ω 17 [v197] h16 (fun r199 h200 =>
 cellH h200 (Addr.add ⟨Array.size (Array.push h9 (.cells (List.toArray [r6, r8]) 35 (0, 0))), 0, none⟩ (Int.toNat 0 * 1)) = some v198 ∧ CallX Try.prog ω 18 [r199, v198] h200 (fun r201 h202 =>
 asB r201 fun b203 => cond b203
 (0 ≤ (1 : Int) ∧ 1 < (2 : Int) ∧ ∃ v204, cellH h202 (Addr.add ⟨Array.size h9, 0, none⟩ (Int.toNat 1 * 1)) = some v204 ∧
 0 ≤ (1 : Int) ∧ 1 < (2 : Int) ∧ ∃ v205, cellH h202 (Addr.add ⟨Array.size (Array.push h9 (.cells (List.toArray [r6, r8]) 35 (0, 0))), 0, none⟩ (Int.toNat 1 * 1)) = some v205 ∧
 CallX Try.prog ω 17 [v204] h202 (fun r206 h207 =>
 cellH h207 (Addr.add ⟨Array.size (Array.push h9 (.cells (List.toArray [r6, r8]) 35 (0, 0))), 0, none⟩ (Int.toNat 1 * 1)) = some v205 ∧ CallX Try.prog ω 18 [r206, v205] h207 (fun r208 h209 =>
 J193 r208 h209) X) X)
 (J193 (.bool false) h202)) X) X) ∧
 ∀ t6_194 (d195 : Nat → Value) (h196 : Hp), J193 t6_194 h196 →
 R t6_194 h196)))) X) X))) X
def A_pipewrightlaw_RingDoes : Ann :=
 (.two .leaf (.two (.two .leaf (.two (.two .leaf .leaf) .leaf)) (.two (.two .leaf (.two (.two .leaf .leaf) .leaf)) (.two .leaf (.two .leaf (.two .leaf (.two (.two .leaf (.one (.loop [35, 36, 37, 38, 11, 41, 42, 43, 44, 45, 46, 47, 48, 49, 12, 50, 51, 52, 53, 54, 55, 56, 57, 58, 59, 60, 61, 62, 63, 64, 65, 66, 13, 67, 68, 69, 70, 71, 72, 73, 74, 75, 76, 77, 78, 79, 80, 81, 82, 83, 84, 85, 86, 87, 88, 89, 6, 90, 91, 92, 93, 94, 95, 96, 97, 14, 110, 111, 109, 112, 113, 114, 115, 116, 117, 118, 119, 120, 121, 122, 123, 124, 125, 126, 127, 128, 129, 130, 131, 132, 133, 134, 135, 136, 138, 139, 137, 141, 142, 140, 143, 144, 15, 16, 145, 146, 147, 148, 149, 150, 151, 152, 153, 154, 155, 156, 157, 158, 159, 160, 161, 162, 163, 164, 165, 166, 167, 168, 169, 170, 171, 172, 173, 174, 175, 176, 177, 179, 180, 178, 181, 182, 17, 183, 184, 185, 186, 187, 188, 189, 18, 190, 191, 192, 193, 196, 197, 198, 199, 200, 201, 194, 195, 202, 203, 204, 205, 206, 207, 208, 209, 98, 99, 100, 101, 102, 103, 104, 105, 106, 107, 108, 39, 40, 10] [10] (.two (.two .leaf (.two .leaf .leaf)) (.two (.join [11, 41, 42, 43, 44, 45, 46, 47, 48, 49, 12, 50, 51, 52, 53, 54, 55, 56, 57, 58, 59, 60, 61, 62, 63, 64, 65, 66, 13, 67, 68, 69, 70, 71, 72, 73, 74, 75, 76, 77, 78, 79, 80, 81, 82, 83, 84, 85, 86, 87, 88, 89, 6, 90, 91, 92, 93, 94, 95, 96, 97, 14, 110, 111, 109, 112, 113, 114, 115, 116, 117, 118, 119, 120, 121, 122, 123, 124, 125, 126, 127, 128, 129, 130, 131, 132, 133, 134, 135, 136, 138, 139, 137, 141, 142, 140, 143, 144, 15, 16, 145, 146, 147, 148, 149, 150, 151, 152, 153, 154, 155, 156, 157, 158, 159, 160, 161, 162, 163, 164, 165, 166, 167, 168, 169, 170, 171, 172, 173, 174, 175, 176, 177, 179, 180, 178, 181, 182, 17, 183, 184, 185, 186, 187, 188, 189, 18, 190, 191, 192, 193, 196, 197, 198, 199, 200, 201, 194, 195, 202, 203, 204, 205, 206, 207, 208, 209, 98, 99, 100, 101, 102, 103, 104, 105, 106, 107, 108] [] (.one (.two .leaf (.two (.two .leaf (.join [11] [11] (.two .leaf .leaf))) (.two .leaf (.two (.join [50, 51, 52, 53, 54, 55, 56, 57, 58, 59, 60, 61, 62, 63, 64, 65, 66, 13] [13] (.plan [0, 1, 2, 3, 4, 5, 6, 7, 8, 9, 10, 11, 12, 13, 14, 15, 16, 17])) (.two (.two (.jb [67, 68, 69, 70, 71, 72, 73, 74, 75, 76, 77, 78, 79, 80, 81, 82, 83, 84, 85, 86, 87, 88, 89] 89 (.plan [0, 2, 3, 4, 5, 1, 6, 7, 8, 10, 11, 12, 13, 14, 9, 15, 16, 17, 18, 20, 19, 21, 22])) (.two (.two .leaf .leaf) .leaf)) (.two .leaf (.join [110, 111, 109, 112, 113, 114, 115, 116, 117, 118, 119, 120, 6, 121, 122, 123, 124, 125, 126, 127, 128, 129, 130, 131, 132, 133, 134, 135, 136, 138, 139, 137, 141, 142, 140, 143, 144, 15, 16, 145, 146, 147, 148, 149, 150, 151, 152, 153, 154, 155, 156, 157, 158, 159, 160, 161, 162, 163, 164, 165, 166, 167, 168, 169, 170, 171, 172, 173, 174, 175, 176, 177, 179, 180, 178, 181, 182, 17, 183, 184, 185, 186, 187, 188, 189, 18, 190, 191, 192, 193, 196, 197, 198, 199, 200, 201, 194, 195, 202, 203, 204, 205, 206, 207, 208, 209, 98, 99, 100, 101, 102, 103, 104, 105, 106, 107, 108] [] (.one (.two .leaf (.join [112, 113, 114, 115, 116, 117, 118, 119, 120, 6, 121, 122, 123, 124, 125, 126, 127, 128, 129, 130, 131, 132, 133, 134, 135, 136, 138, 139, 137, 141, 142, 140, 143, 144, 15, 16, 145, 146, 147, 148, 149, 150, 151, 152, 153, 154, 155, 156, 157, 158, 159, 160, 161, 162, 163, 164, 165, 166, 167, 168, 169, 170, 171, 172, 173, 174, 175, 176, 177, 179, 180, 178, 181, 182, 17, 183, 184, 185, 186, 187, 188, 189, 18, 190, 191, 192, 193, 196, 197, 198, 199, 200, 201, 194, 195, 202, 203, 204, 205, 206, 207, 208, 209, 98, 99, 100, 101, 102, 103, 104, 105, 106, 107, 108] [] (.two (.two (.two .leaf (.two (.two .leaf .leaf) .leaf)) (.two .leaf (.join [123, 124, 125, 126, 127, 128, 129, 130, 131, 132, 133, 134, 135, 136] [] (.two (.plan [0, 1, 2, 3, 4, 5, 6, 7, 8, 9, 10, 11, 12, 13, 14]) .leaf)))) (.two .leaf (.join [141, 142, 140, 143, 144, 15, 16, 145, 146, 147, 148, 149, 150, 151, 152, 153, 154, 155, 156, 157, 158, 159, 160, 6, 161, 162, 163, 164, 165, 166, 167, 168, 169, 170, 171, 172, 173, 174, 175, 176, 177, 179, 180, 178, 181, 182, 17, 183, 184, 185, 186, 187, 188, 189, 18, 190, 191, 192, 193, 196, 197, 198, 199, 200, 201, 194, 195, 202, 203, 204, 205, 206, 207, 208, 209, 98, 99, 100, 101, 102, 103, 104, 105, 106, 107, 108] [] (.two (.two .leaf (.two (.two (.jb [145, 146, 147, 148, 149, 150, 151, 152, 153, 154, 155, 156, 157, 158, 159, 160] 160 .leaf) (.two (.two .leaf .leaf) .leaf)) (.two .leaf (.join [162, 163, 164, 165, 166, 167, 168, 169, 6, 170, 171, 172, 173, 174, 175, 176, 177] [] (.two (.two (.two .leaf (.two (.two .leaf .leaf) .leaf)) .leaf) .leaf))))) (.two .leaf (.join [181, 182, 17, 183, 184, 185, 186, 187, 188, 189, 6, 18, 190, 191, 192, 193, 196, 197, 198, 199, 200, 201, 194, 195, 202, 203, 204, 205, 206, 207, 208, 209, 98, 99, 100, 101, 102, 103, 104, 105, 106, 107, 108] [] (.two (.two .leaf (.two (.two .leaf (.two (.two .leaf .leaf) .leaf)) (.two (.two .leaf (.one (.loop [190, 191, 192, 193, 196, 197, 198, 199, 200, 201, 194, 195, 18] [18] (.two (.two .leaf (.two .leaf .leaf)) (.two (.one .leaf) .leaf))))) (.two (.plan [0, 2, 3, 4, 5, 1, 6, 7]) (.two (.two .leaf .leaf) .leaf))))) (.two (.two (.plan [0, 2, 3, 4, 5, 1, 6, 7]) (.two (.two .leaf .leaf) .leaf)) .leaf)))))))))))))))))))) .leaf))))) (.two (.join [210, 211, 212, 213, 214, 215, 216, 217, 218, 219, 220, 221, 222, 223, 224, 225, 226, 227, 6] [6] (.plan [0, 1, 2, 4, 5, 6, 3, 7, 8, 9, 10, 11, 13, 14, 15, 12, 16, 17, 18])) .leaf))))))))
theorem C_pipewrightlaw_RingDoes (ω : Amb) (a_p b_p l_p : Value) (h : Hp) (R : Value → Hp → Prop) (X : List PanicEntry → Hp → Prop) (hk : W_pipewrightlaw_RingDoes ω a_p b_p l_p h R X) : CallX Try.prog ω 4 [a_p, b_p, l_p] h R X :=
 callX_of (an := A_pipewrightlaw_RingDoes) Try.func4 ((show fnX Try.prog ω A_pipewrightlaw_RingDoes Try.f4 [a_p, b_p, l_p] h R X = W_pipewrightlaw_RingDoes ω a_p b_p l_p h R X by kernel_rfl) ▸ hk)

/-- pipewright/pipewrightlaw.ringBegun -/
abbrev n_pipewrightlaw_ringBegun : Nat := 5
def W_pipewrightlaw_ringBegun (ω : Amb) (h : Hp) (R : Value → Hp → Prop) (X : List PanicEntry → Hp → Prop) : Prop :=
 CallX Try.prog ω 11 [(.int .i64 2)] h (fun r0 h1 =>
 ∃ J2 : Value → Hp → Prop,
 (CallX Try.prog ω 15 [r0, (.int .i64 5)] h1 (fun r6 h7 =>
 asB r6 fun b8 => cond b8
 (CallX Try.prog ω 15 [r0, (.int .i64 6)] h7 (fun r9 h10 =>
 asB r9 fun b11 => cond b11
 (CallX Try.prog ω 15 [r0, (.int .i64 7)] h10 (fun r12 h13 =>
 asB r12 fun b14 => cond (!b14)
 (CallX Try.prog ω 13 [r0] h13 (fun r15 h16 =>
 asK .i64 r15 fun n17 => J2 (.bool (n17 == (2 : Int))) h16) X)
 (J2 (.bool false) h13)) X)
 (J2 (.bool false) h10)) X)
 (J2 (.bool false) h7)) X) ∧
 ∀ t0_3 (d4 : Nat → Value) (h5 : Hp), J2 t0_3 h5 →
 R t0_3 h5) X
def A_pipewrightlaw_ringBegun : Ann :=
 (.two .leaf (.two .leaf (.two (.join [3, 4, 5, 6, 7, 8, 9, 10, 11, 12, 13, 14, 15, 16, 17, 18, 0] [0] .leaf) .leaf)))
theorem C_pipewrightlaw_ringBegun (ω : Amb) (h : Hp) (R : Value → Hp → Prop) (X : List PanicEntry → Hp → Prop) (hk : W_pipewrightlaw_ringBegun ω  h R X) : CallX Try.prog ω 5 [] h R X :=
 callX_of (an := A_pipewrightlaw_ringBegun) Try.func5 ((show fnX Try.prog ω A_pipewrightlaw_ringBegun Try.f5 [] h R X = W_pipewrightlaw_ringBegun ω  h R X by kernel_rfl) ▸ hk)

/-- pipewright/ring.New[string] -/
abbrev n_ring_New_string : Nat := 6
def W_ring_New_string (ω : Amb) (slots_p : Value) (h : Hp) (R : Value → Hp → Prop) (X : List PanicEntry → Hp → Prop) : Prop :=
 asK .i64 slots_p fun n0 => R (.pointer (some ⟨Array.size h, 0, none⟩)) (Array.push h (.cells #[(.int .i64 (if (0 : Int) > n0 then (0 : Int) else n0)), (.int .i64 0), (.int .i64 0), (.slice none 0 0)] 48 (0, 0)))
def A_ring_New_string : Ann :=
 (.two .leaf (.two .leaf .leaf))
theorem C_ring_New_string (ω : Amb) (slots_p : Value) (h : Hp) (R : Value → Hp → Prop) (X : List PanicEntry → Hp → Prop) (hk : W_ring_New_string ω slots_p h R X) : CallX Try.prog ω 6 [slots_p] h R X :=
 callX_of (an := A_ring_New_string) Try.func6 ((show fnX Try.prog ω A_ring_New_string Try.f6 [slots_p] h R X = W_ring_New_string ω slots_p h R X by kernel_rfl) ▸ hk)

/-- (*pipewright/ring.Ring[string]).Put -/
abbrev n_p_ring_Ring_string_Put : Nat := 7
def W_p_ring_Ring_string_Put (ω : Amb) (r_p x_p : Value) (h : Hp) (R : Value → Hp → Prop) (X : List PanicEntry → Hp → Prop) : Prop :=
 ∃ β0 : Bool,
 (asPo r_p fun q2 => cond (Option.isNone q2)
 (((.bool true) : Value) = .bool β0 ∧ h = h)
 (CallX Try.prog ω 20 [r_p] h (fun r3 h4 =>
 (r3 : Value) = .bool β0 ∧ h4 = h) X)) ∧
 ∀ d1 : Nat → Value,
 cond β0
 (R (.bool false) h)
 (CallX Try.prog ω 21 [r_p] h (fun r5 h6 =>
 nnK r_p (asP r_p fun p7 =>
 ∃ v8, cellH h6 (Addr.add p7 3) = some v8 ∧
 nnK r_p (asP r_p fun p9 =>
 ∃ v10, cellH h6 (Addr.add p9 1) = some v10 ∧
 nnK r_p (asP r_p fun p11 =>
 ∃ v12, cellH h6 (Addr.add p11 2) = some v12 ∧
 asK .i64 v10 fun n13 => asK .i64 v12 fun n14 => nnK r_p (asP r_p fun p15 =>
 ∃ v16, cellH h6 (Addr.add p15 3) = some v16 ∧
 asSl v16 fun a17 l18 c19 => ((l18 : Int) : Int) ≠ 0 ∧ asSl1 v8 fun a20 l21 c22 => 0 ≤ ((Int.tmod (IntKind.wrap .i64 (n13 + n14)) (l18 : Int)) : Int) ∧ (Int.tmod (IntKind.wrap .i64 (n13 + n14)) (l18 : Int)) < (l21 : Int) ∧ oneK x_p (storeK1 h6 (Addr.add a20 (Int.toNat (Int.tmod (IntKind.wrap .i64 (n13 + n14)) (l18 : Int)) * 1)) x_p fun h23 =>
 nnK r_p (asP r_p fun p24 =>
 ∃ v25, cellH h23 (Addr.add p24 2) = some v25 ∧
 asK .i64 v25 fun n26 => nnK r_p (asP r_p fun p27 =>
 storeK1 h23 (Addr.add p27 2) (.int .i64 (IntKind.wrap .i64 (n26 + 1))) fun h28 =>
 R (.bool true) h28)))))))) X)
def A_p_ring_Ring_string_Put : Ann :=
 (.two .leaf (.two (.two (.jb [5, 6, 7, 8, 9, 10] 10 .leaf) (.two (.two .leaf .leaf) .leaf)) (.two .leaf (.two (.plan [0, 1, 2, 3, 4, 5, 6, 7, 8, 9, 10, 11, 12, 13, 14, 15, 16, 17, 18, 19, 20, 21]) (.two .leaf (.two .leaf .leaf))))))
theorem C_p_ring_Ring_string_Put (ω : Amb) (r_p x_p : Value) (h : Hp) (R : Value → Hp → Prop) (X : List PanicEntry → Hp → Prop) (hk : W_p_ring_Ring_string_Put ω r_p x_p h R X) : CallX Try.prog ω 7 [r_p, x_p] h R X :=
 callX_of (an := A_p_ring_Ring_string_Put) Try.func7 ((show fnX Try.prog ω A_p_ring_Ring_string_Put Try.f7 [r_p, x_p] h R X = W_p_ring_Ring_string_Put ω r_p x_p h R X by kernel_rfl) ▸ hk)

/-- (*pipewright/ring.Ring[string]).Len -/
abbrev n_p_ring_Ring_string_Len : Nat := 8
def W_p_ring_Ring_string_Len (ω : Amb) (r_p : Value) (h : Hp) (R : Value → Hp → Prop) (X : List PanicEntry → Hp → Prop) : Prop :=
 asPo r_p fun q0 => cond (Option.isNone q0)
 (R (.int .i64 0) h)
 (nnK r_p (asP r_p fun p1 =>
 ∃ v2, cellH h (Addr.add p1 2) = some v2 ∧
 R v2 h))
def A_p_ring_Ring_string_Len : Ann :=
 (.two .leaf (.two (.two .leaf (.two (.two .leaf .leaf) .leaf)) (.two .leaf .leaf)))
theorem C_p_ring_Ring_string_Len (ω : Amb) (r_p : Value) (h : Hp) (R : Value → Hp → Prop) (X : List PanicEntry → Hp → Prop) (hk : W_p_ring_Ring_string_Len ω r_p h R X) : CallX Try.prog ω 8 [r_p] h R X :=
 callX_of (an := A_p_ring_Ring_string_Len) Try.func8 ((show fnX Try.prog ω A_p_ring_Ring_string_Len Try.f8 [r_p] h R X = W_p_ring_Ring_string_Len ω r_p h R X by kernel_rfl) ▸ hk)

/-- (*pipewright/ring.Ring[string]).Take -/
abbrev n_p_ring_Ring_string_Take : Nat := 9
def W_p_ring_Ring_string_Take (ω : Amb) (r_p : Value) (h : Hp) (R : Value → Hp → Prop) (X : List PanicEntry → Hp → Prop) : Prop :=
 ∃ β0 : Bool,
 (asPo r_p fun q2 => cond (Option.isNone q2)
 (((.bool true) : Value) = .bool β0 ∧ h = h)
 (nnK r_p (asP r_p fun p3 =>
 ∃ v4, cellH h (Addr.add p3 2) = some v4 ∧
 asK .i64 v4 fun n5 => ((.bool (n5 == (0 : Int))) : Value) = .bool β0 ∧ h = h))) ∧
 ∀ d1 : Nat → Value,
 cond β0
 (R (.tuple #[(.string ⟨#[]⟩), (.bool false)]) h)
 (nnK r_p (asP r_p fun p6 =>
 ∃ v7, cellH h (Addr.add p6 3) = some v7 ∧
 nnK r_p (asP r_p fun p8 =>
 ∃ v9, cellH h (Addr.add p8 1) = some v9 ∧
 nnK r_p (asP r_p fun p10 =>
 ∃ v11, cellH h (Addr.add p10 3) = some v11 ∧
 nnK r_p (asP r_p fun p12 =>
 ∃ v13, cellH h (Addr.add p12 1) = some v13 ∧
 asSl1 v11 fun a14 l15 c16 => asI v13 fun n17 => 0 ≤ (n17 : Int) ∧ n17 < (l15 : Int) ∧ ∃ v18, cellH h (Addr.add a14 (Int.toNat n17 * 1)) = some v18 ∧
 asSl1 v7 fun a19 l20 c21 => asI v9 fun n22 => 0 ≤ (n22 : Int) ∧ n22 < (l20 : Int) ∧ storeK1 h (Addr.add a19 (Int.toNat n22 * 1)) (.string ⟨#[]⟩) fun h23 =>
 nnK r_p (asP r_p fun p24 =>
 ∃ v25, cellH h23 (Addr.add p24 1) = some v25 ∧
 asK .i64 v25 fun n26 => nnK r_p (asP r_p fun p27 =>
 ∃ v28, cellH h23 (Addr.add p27 3) = some v28 ∧
 asSl v28 fun a29 l30 c31 => ((l30 : Int) : Int) ≠ 0 ∧ nnK r_p (asP r_p fun p32 =>
 storeK1 h23 (Addr.add p32 1) (.int .i64 (Int.tmod (IntKind.wrap .i64 (n26 + 1)) (l30 : Int))) fun h33 =>
 nnK r_p (asP r_p fun p34 =>
 ∃ v35, cellH h33 (Addr.add p34 2) = some v35 ∧
 asK .i64 v35 fun n36 => nnK r_p (asP r_p fun p37 =>
 storeK1 h33 (Addr.add p37 2) (.int .i64 (IntKind.wrap .i64 (n36 - 1))) fun h38 =>
 R (.tuple #[v18, (.bool true)]) h38))))))))))
def A_p_ring_Ring_string_Take : Ann :=
 (.two .leaf (.two .leaf (.two (.two (.jb [5, 6, 7, 8, 9, 10, 11, 12, 13] 13 .leaf) (.two (.two .leaf .leaf) .leaf)) (.two (.plan [0, 1, 2, 3, 4, 5, 6, 7, 8, 9, 10, 11, 12, 13, 14, 15, 16, 17, 18, 19, 20, 21]) (.two (.plan [0, 1, 2, 3, 4, 5, 6, 7, 8, 9, 10, 11, 12, 13, 14]) (.two .leaf (.two .leaf .leaf)))))))
theorem C_p_ring_Ring_string_Take (ω : Amb) (r_p : Value) (h : Hp) (R : Value → Hp → Prop) (X : List PanicEntry → Hp → Prop) (hk : W_p_ring_Ring_string_Take ω r_p h R X) : CallX Try.prog ω 9 [r_p] h R X :=
 callX_of (an := A_p_ring_Ring_string_Take) Try.func9 ((show fnX Try.prog ω A_p_ring_Ring_string_Take Try.f9 [r_p] h R X = W_p_ring_Ring_string_Take ω r_p h R X by kernel_rfl) ▸ hk)

/-- (*pipewright/ring.Ring[string]).All -/
abbrev n_p_ring_Ring_string_All : Nat := 10
def W_p_ring_Ring_string_All (ω : Amb) (r_p : Value) (h : Hp) (R : Value → Hp → Prop) (X : List PanicEntry → Hp → Prop) : Prop :=
 asPo r_p fun q0 => cond (Option.isNone q0)
 (R (.slice none 0 0) h)
 (nnK r_p (asP r_p fun p1 =>
 ∃ v2, cellH h (Addr.add p1 2) = some v2 ∧
 ∃ (I3 : Value → Value → Hp → Prop) (μ4 : Value → Value → Hp → Nat), I3 (.slice none 0 0) (.int .i64 0) h ∧ ∀ out_5 t11_6 (d7 : Nat → Value) (h8 : Hp), I3 out_5 t11_6 h8 →
 asK .i64 t11_6 fun n9 => asK .i64 v2 fun n10 => cond (decide ((n9 : Int) < n10))
 (nnK r_p (asP r_p fun p11 =>
 ∃ v12, cellH h8 (Addr.add p11 3) = some v12 ∧
 nnK r_p (asP r_p fun p13 =>
 ∃ v14, cellH h8 (Addr.add p13 1) = some v14 ∧
 asK .i64 v14 fun n15 => asK .i64 t11_6 fun n16 => nnK r_p (asP r_p fun p17 =>
 ∃ v18, cellH h8 (Addr.add p17 3) = some v18 ∧
 asSl v18 fun a19 l20 c21 => ((l20 : Int) : Int) ≠ 0 ∧ asSl1 v12 fun a22 l23 c24 => 0 ≤ ((Int.tmod (IntKind.wrap .i64 (n15 + n16)) (l20 : Int)) : Int) ∧ (Int.tmod (IntKind.wrap .i64 (n15 + n16)) (l20 : Int)) < (l23 : Int) ∧ ∃ v25, cellH h8 (Addr.add a22 (Int.toNat (Int.tmod (IntKind.wrap .i64 (n15 + n16)) (l20 : Int)) * 1)) = some v25 ∧
 oneK v25 (appK Try.prog 22 (Array.push h8 (.cells (List.toArray [v25]) 9 (0, 0))) out_5 (.slice (some ⟨Array.size h8, 0, none⟩) 1 1) fun w26 h27 =>
 asK .i64 t11_6 fun n28 => I3 w26 (.int .i64 (IntKind.wrap .i64 (n28 + 1))) h27 ∧ μ4 w26 (.int .i64 (IntKind.wrap .i64 (n28 + 1))) h27 < μ4 out_5 t11_6 h8)))))
 (R out_5 h8)))
def A_p_ring_Ring_string_All : Ann :=
 (.two .leaf (.two (.two .leaf (.two (.two .leaf .leaf) .leaf)) (.two .leaf (.two (.two .leaf (.one (.loop [12, 13, 4, 14, 15, 16, 17, 18, 19, 20, 21, 22, 23, 24, 25, 26, 27, 28, 29, 30, 31, 32, 33, 34, 3, 35, 11] [3, 11] (.two .leaf (.two (.two .leaf .leaf) (.two (.one (.two .leaf (.plan [0, 1, 2, 3, 4, 5, 6, 7, 8, 9, 10, 11, 12, 13, 14, 15, 16, 17, 18, 19, 20, 21]))) .leaf)))))) (.two .leaf .leaf)))))
theorem C_p_ring_Ring_string_All (ω : Amb) (r_p : Value) (h : Hp) (R : Value → Hp → Prop) (X : List PanicEntry → Hp → Prop) (hk : W_p_ring_Ring_string_All ω r_p h R X) : CallX Try.prog ω 10 [r_p] h R X :=
 callX_of (an := A_p_ring_Ring_string_All) Try.func10 ((show fnX Try.prog ω A_p_ring_Ring_string_All Try.f10 [r_p] h R X = W_p_ring_Ring_string_All ω r_p h R X by kernel_rfl) ▸ hk)

/-- pipewright/ring.New[int] -/
abbrev n_ring_New_int : Nat := 11
def W_ring_New_int (ω : Amb) (slots_p : Value) (h : Hp) (R : Value → Hp → Prop) (X : List PanicEntry → Hp → Prop) : Prop :=
 asK .i64 slots_p fun n0 => R (.pointer (some ⟨Array.size h, 0, none⟩)) (Array.push h (.cells #[(.int .i64 (if (0 : Int) > n0 then (0 : Int) else n0)), (.int .i64 0), (.int .i64 0), (.slice none 0 0)] 50 (0, 0)))
def A_ring_New_int : Ann :=
 (.two .leaf (.two .leaf .leaf))
theorem C_ring_New_int (ω : Amb) (slots_p : Value) (h : Hp) (R : Value → Hp → Prop) (X : List PanicEntry → Hp → Prop) (hk : W_ring_New_int ω slots_p h R X) : CallX Try.prog ω 11 [slots_p] h R X :=
 callX_of (an := A_ring_New_int) Try.func11 ((show fnX Try.prog ω A_ring_New_int Try.f11 [slots_p] h R X = W_ring_New_int ω slots_p h R X by kernel_rfl) ▸ hk)

/-- (*pipewright/ring.Ring[int]).Slots -/
abbrev n_p_ring_Ring_int_Slots : Nat := 12
def W_p_ring_Ring_int_Slots (ω : Amb) (r_p : Value) (h : Hp) (R : Value → Hp → Prop) (X : List PanicEntry → Hp → Prop) : Prop :=
 asPo r_p fun q0 => cond (Option.isNone q0)
 (R (.int .i64 0) h)
 (nnK r_p (asP r_p fun p1 =>
 ∃ v2, cellH h (Addr.add p1 0) = some v2 ∧
 R v2 h))
def A_p_ring_Ring_int_Slots : Ann :=
 (.two .leaf (.two (.two .leaf (.two (.two .leaf .leaf) .leaf)) (.two .leaf .leaf)))
theorem C_p_ring_Ring_int_Slots (ω : Amb) (r_p : Value) (h : Hp) (R : Value → Hp → Prop) (X : List PanicEntry → Hp → Prop) (hk : W_p_ring_Ring_int_Slots ω r_p h R X) : CallX Try.prog ω 12 [r_p] h R X :=
 callX_of (an := A_p_ring_Ring_int_Slots) Try.func12 ((show fnX Try.prog ω A_p_ring_Ring_int_Slots Try.f12 [r_p] h R X = W_p_ring_Ring_int_Slots ω r_p h R X by kernel_rfl) ▸ hk)

/-- (*pipewright/ring.Ring[int]).Len -/
abbrev n_p_ring_Ring_int_Len : Nat := 13
def W_p_ring_Ring_int_Len (ω : Amb) (r_p : Value) (h : Hp) (R : Value → Hp → Prop) (X : List PanicEntry → Hp → Prop) : Prop :=
 asPo r_p fun q0 => cond (Option.isNone q0)
 (R (.int .i64 0) h)
 (nnK r_p (asP r_p fun p1 =>
 ∃ v2, cellH h (Addr.add p1 2) = some v2 ∧
 R v2 h))
def A_p_ring_Ring_int_Len : Ann :=
 (.two .leaf (.two (.two .leaf (.two (.two .leaf .leaf) .leaf)) (.two .leaf .leaf)))
theorem C_p_ring_Ring_int_Len (ω : Amb) (r_p : Value) (h : Hp) (R : Value → Hp → Prop) (X : List PanicEntry → Hp → Prop) (hk : W_p_ring_Ring_int_Len ω r_p h R X) : CallX Try.prog ω 13 [r_p] h R X :=
 callX_of (an := A_p_ring_Ring_int_Len) Try.func13 ((show fnX Try.prog ω A_p_ring_Ring_int_Len Try.f13 [r_p] h R X = W_p_ring_Ring_int_Len ω r_p h R X by kernel_rfl) ▸ hk)

/-- (*pipewright/ring.Ring[int]).Full -/
abbrev n_p_ring_Ring_int_Full : Nat := 14
def W_p_ring_Ring_int_Full (ω : Amb) (r_p : Value) (h : Hp) (R : Value → Hp → Prop) (X : List PanicEntry → Hp → Prop) : Prop :=
 ∃ J0 : Value → Hp → Prop,
 (asPo r_p fun q4 => cond (!(Option.isNone q4))
 (nnK r_p (asP r_p fun p5 =>
 ∃ v6, cellH h (Addr.add p5 0) = some v6 ∧
 asK .i64 v6 fun n7 => cond (decide ((n7 : Int) > 0))
 (nnK r_p (asP r_p fun p8 =>
 ∃ v9, cellH h (Addr.add p8 2) = some v9 ∧
 nnK r_p (asP r_p fun p10 =>
 ∃ v11, cellH h (Addr.add p10 0) = some v11 ∧
 asK .i64 v9 fun n12 => asK .i64 v11 fun n13 => J0 (.bool (n12 == (n13 : Int))) h)))
 (J0 (.bool false) h)))
 (J0 (.bool false) h)) ∧
 ∀ t2_1 (d2 : Nat → Value) (h3 : Hp), J0 t2_1 h3 →
 R t2_1 h3
def A_p_ring_Ring_int_Full : Ann :=
 (.two .leaf (.two (.join [3, 4, 5, 6, 7, 8, 9, 10, 11, 12, 13, 14, 15, 16, 17, 18, 19, 20, 21, 22, 2] [2] (.plan [0, 1, 2, 3, 4, 5, 6, 7, 8, 9, 10, 11, 12, 13, 14, 15, 16, 17, 18, 19, 20])) .leaf))
theorem C_p_ring_Ring_int_Full (ω : Amb) (r_p : Value) (h : Hp) (R : Value → Hp → Prop) (X : List PanicEntry → Hp → Prop) (hk : W_p_ring_Ring_int_Full ω r_p h R X) : CallX Try.prog ω 14 [r_p] h R X :=
 callX_of (an := A_p_ring_Ring_int_Full) Try.func14 ((show fnX Try.prog ω A_p_ring_Ring_int_Full Try.f14 [r_p] h R X = W_p_ring_Ring_int_Full ω r_p h R X by kernel_rfl) ▸ hk)

/-- (*pipewright/ring.Ring[int]).Put -/
abbrev n_p_ring_Ring_int_Put : Nat := 15
def W_p_ring_Ring_int_Put (ω : Amb) (r_p x_p : Value) (h : Hp) (R : Value → Hp → Prop) (X : List PanicEntry → Hp → Prop) : Prop :=
 ∃ β0 : Bool,
 (asPo r_p fun q2 => cond (Option.isNone q2)
 (((.bool true) : Value) = .bool β0 ∧ h = h)
 (CallX Try.prog ω 14 [r_p] h (fun r3 h4 =>
 (r3 : Value) = .bool β0 ∧ h4 = h) X)) ∧
 ∀ d1 : Nat → Value,
 cond β0
 (R (.bool false) h)
 (CallX Try.prog ω 22 [r_p] h (fun r5 h6 =>
 nnK r_p (asP r_p fun p7 =>
 ∃ v8, cellH h6 (Addr.add p7 3) = some v8 ∧
 nnK r_p (asP r_p fun p9 =>
 ∃ v10, cellH h6 (Addr.add p9 1) = some v10 ∧
 nnK r_p (asP r_p fun p11 =>
 ∃ v12, cellH h6 (Addr.add p11 2) = some v12 ∧
 asK .i64 v10 fun n13 => asK .i64 v12 fun n14 => nnK r_p (asP r_p fun p15 =>
 ∃ v16, cellH h6 (Addr.add p15 3) = some v16 ∧
 asSl v16 fun a17 l18 c19 => ((l18 : Int) : Int) ≠ 0 ∧ asSl1 v8 fun a20 l21 c22 => 0 ≤ ((Int.tmod (IntKind.wrap .i64 (n13 + n14)) (l18 : Int)) : Int) ∧ (Int.tmod (IntKind.wrap .i64 (n13 + n14)) (l18 : Int)) < (l21 : Int) ∧ oneK x_p (storeK1 h6 (Addr.add a20 (Int.toNat (Int.tmod (IntKind.wrap .i64 (n13 + n14)) (l18 : Int)) * 1)) x_p fun h23 =>
 nnK r_p (asP r_p fun p24 =>
 ∃ v25, cellH h23 (Addr.add p24 2) = some v25 ∧
 asK .i64 v25 fun n26 => nnK r_p (asP r_p fun p27 =>
 storeK1 h23 (Addr.add p27 2) (.int .i64 (IntKind.wrap .i64 (n26 + 1))) fun h28 =>
 R (.bool true) h28)))))))) X)
def A_p_ring_Ring_int_Put : Ann :=
 (.two .leaf (.two (.two (.jb [5, 6, 7, 8, 9, 10] 10 .leaf) (.two (.two .leaf .leaf) .leaf)) (.two .leaf (.two (.plan [0, 1, 2, 3, 4, 5, 6, 7, 8, 9, 10, 11, 12, 13, 14, 15, 16, 17, 18, 19, 20, 21]) (.two .leaf (.two .leaf .leaf))))))
theorem C_p_ring_Ring_int_Put (ω : Amb) (r_p x_p : Value) (h : Hp) (R : Value → Hp → Prop) (X : List PanicEntry → Hp → Prop) (hk : W_p_ring_Ring_int_Put ω r_p x_p h R X) : CallX Try.prog ω 15 [r_p, x_p] h R X :=
 callX_of (an := A_p_ring_Ring_int_Put) Try.func15 ((show fnX Try.prog ω A_p_ring_Ring_int_Put Try.f15 [r_p, x_p] h R X = W_p_ring_Ring_int_Put ω r_p x_p h R X by kernel_rfl) ▸ hk)

/-- (*pipewright/ring.Ring[int]).Take -/
abbrev n_p_ring_Ring_int_Take : Nat := 16
def W_p_ring_Ring_int_Take (ω : Amb) (r_p : Value) (h : Hp) (R : Value → Hp → Prop) (X : List PanicEntry → Hp → Prop) : Prop :=
 ∃ β0 : Bool,
 (asPo r_p fun q2 => cond (Option.isNone q2)
 (((.bool true) : Value) = .bool β0 ∧ h = h)
 (nnK r_p (asP r_p fun p3 =>
 ∃ v4, cellH h (Addr.add p3 2) = some v4 ∧
 asK .i64 v4 fun n5 => ((.bool (n5 == (0 : Int))) : Value) = .bool β0 ∧ h = h))) ∧
 ∀ d1 : Nat → Value,
 cond β0
 (R (.tuple #[(.int .i64 0), (.bool false)]) h)
 (nnK r_p (asP r_p fun p6 =>
 ∃ v7, cellH h (Addr.add p6 3) = some v7 ∧
 nnK r_p (asP r_p fun p8 =>
 ∃ v9, cellH h (Addr.add p8 1) = some v9 ∧
 nnK r_p (asP r_p fun p10 =>
 ∃ v11, cellH h (Addr.add p10 3) = some v11 ∧
 nnK r_p (asP r_p fun p12 =>
 ∃ v13, cellH h (Addr.add p12 1) = some v13 ∧
 asSl1 v11 fun a14 l15 c16 => asI v13 fun n17 => 0 ≤ (n17 : Int) ∧ n17 < (l15 : Int) ∧ ∃ v18, cellH h (Addr.add a14 (Int.toNat n17 * 1)) = some v18 ∧
 asSl1 v7 fun a19 l20 c21 => asI v9 fun n22 => 0 ≤ (n22 : Int) ∧ n22 < (l20 : Int) ∧ storeK1 h (Addr.add a19 (Int.toNat n22 * 1)) (.int .i64 0) fun h23 =>
 nnK r_p (asP r_p fun p24 =>
 ∃ v25, cellH h23 (Addr.add p24 1) = some v25 ∧
 asK .i64 v25 fun n26 => nnK r_p (asP r_p fun p27 =>
 ∃ v28, cellH h23 (Addr.add p27 3) = some v28 ∧
 asSl v28 fun a29 l30 c31 => ((l30 : Int) : Int) ≠ 0 ∧ nnK r_p (asP r_p fun p32 =>
 storeK1 h23 (Addr.add p32 1) (.int .i64 (Int.tmod (IntKind.wrap .i64 (n26 + 1)) (l30 : Int))) fun h33 =>
 nnK r_p (asP r_p fun p34 =>
 ∃ v35, cellH h33 (Addr.add p34 2) = some v35 ∧
 asK .i64 v35 fun n36 => nnK r_p (asP r_p fun p37 =>
 storeK1 h33 (Addr.add p37 2) (.int .i64 (IntKind.wrap .i64 (n36 - 1))) fun h38 =>
 R (.tuple #[v18, (.bool true)]) h38))))))))))
def A_p_ring_Ring_int_Take : Ann :=
 (.two .leaf (.two .leaf (.two (.two (.jb [5, 6, 7, 8, 9, 10, 11, 12, 13] 13 .leaf) (.two (.two .leaf .leaf) .leaf)) (.two (.plan [0, 1, 2, 3, 4, 5, 6, 7, 8, 9, 10, 11, 12, 13, 14, 15, 16, 17, 18, 19, 20, 21]) (.two (.plan [0, 1, 2, 3, 4, 5, 6, 7, 8, 9, 10, 11, 12, 13, 14]) (.two .leaf (.two .leaf .leaf)))))))
theorem C_p_ring_Ring_int_Take (ω : Amb) (r_p : Value) (h : Hp) (R : Value → Hp → Prop) (X : List PanicEntry → Hp → Prop) (hk : W_p_ring_Ring_int_Take ω r_p h R X) : CallX Try.prog ω 16 [r_p] h R X :=
 callX_of (an := A_p_ring_Ring_int_Take) Try.func16 ((show fnX Try.prog ω A_p_ring_Ring_int_Take Try.f16 [r_p] h R X = W_p_ring_Ring_int_Take ω r_p h R X by kernel_rfl) ▸ hk)

/-- (*pipewright/ring.Ring[int]).All -/
abbrev n_p_ring_Ring_int_All : Nat := 17
def W_p_ring_Ring_int_All (ω : Amb) (r_p : Value) (h : Hp) (R : Value → Hp → Prop) (X : List PanicEntry → Hp → Prop) : Prop :=
 asPo r_p fun q0 => cond (Option.isNone q0)
 (R (.slice none 0 0) h)
 (nnK r_p (asP r_p fun p1 =>
 ∃ v2, cellH h (Addr.add p1 2) = some v2 ∧
 ∃ (I3 : Value → Value → Hp → Prop) (μ4 : Value → Value → Hp → Nat), I3 (.slice none 0 0) (.int .i64 0) h ∧ ∀ out_5 t11_6 (d7 : Nat → Value) (h8 : Hp), I3 out_5 t11_6 h8 →
 asK .i64 t11_6 fun n9 => asK .i64 v2 fun n10 => cond (decide ((n9 : Int) < n10))
 (nnK r_p (asP r_p fun p11 =>
 ∃ v12, cellH h8 (Addr.add p11 3) = some v12 ∧
 nnK r_p (asP r_p fun p13 =>
 ∃ v14, cellH h8 (Addr.add p13 1) = some v14 ∧
 asK .i64 v14 fun n15 => asK .i64 t11_6 fun n16 => nnK r_p (asP r_p fun p17 =>
 ∃ v18, cellH h8 (Addr.add p17 3) = some v18 ∧
 asSl v18 fun a19 l20 c21 => ((l20 : Int) : Int) ≠ 0 ∧ asSl1 v12 fun a22 l23 c24 => 0 ≤ ((Int.tmod (IntKind.wrap .i64 (n15 + n16)) (l20 : Int)) : Int) ∧ (Int.tmod (IntKind.wrap .i64 (n15 + n16)) (l20 : Int)) < (l23 : Int) ∧ ∃ v25, cellH h8 (Addr.add a22 (Int.toNat (Int.tmod (IntKind.wrap .i64 (n15 + n16)) (l20 : Int)) * 1)) = some v25 ∧
 oneK v25 (appK Try.prog 23 (Array.push h8 (.cells (List.toArray [v25]) 3 (0, 0))) out_5 (.slice (some ⟨Array.size h8, 0, none⟩) 1 1) fun w26 h27 =>
 asK .i64 t11_6 fun n28 => I3 w26 (.int .i64 (IntKind.wrap .i64 (n28 + 1))) h27 ∧ μ4 w26 (.int .i64 (IntKind.wrap .i64 (n28 + 1))) h27 < μ4 out_5 t11_6 h8)))))
 (R out_5 h8)))
def A_p_ring_Ring_int_All : Ann :=
 (.two .leaf (.two (.two .leaf (.two (.two .leaf .leaf) .leaf)) (.two .leaf (.two (.two .leaf (.one (.loop [12, 13, 4, 14, 15, 16, 17, 18, 19, 20, 21, 22, 23, 24, 25, 26, 27, 28, 29, 30, 31, 32, 33, 34, 3, 35, 11] [3, 11] (.two .leaf (.two (.two .leaf .leaf) (.two (.one (.two .leaf (.plan [0, 1, 2, 3, 4, 5, 6, 7, 8, 9, 10, 11, 12, 13, 14, 15, 16, 17, 18, 19, 20, 21]))) .leaf)))))) (.two .leaf .leaf)))))
theorem C_p_ring_Ring_int_All (ω : Amb) (r_p : Value) (h : Hp) (R : Value → Hp → Prop) (X : List PanicEntry → Hp → Prop) (hk : W_p_ring_Ring_int_All ω r_p h R X) : CallX Try.prog ω 17 [r_p] h R X :=
 callX_of (an := A_p_ring_Ring_int_All) Try.func17 ((show fnX Try.prog ω A_p_ring_Ring_int_All Try.f17 [r_p] h R X = W_p_ring_Ring_int_All ω r_p h R X by kernel_rfl) ▸ hk)

/-- pipewright/pipewrightref.SameInts -/
abbrev n_pipewrightref_SameInts : Nat := 18
def W_pipewrightref_SameInts (ω : Amb) (a_p b_p : Value) (h : Hp) (R : Value → Hp → Prop) (X : List PanicEntry → Hp → Prop) : Prop :=
 asSl a_p fun a0 l1 c2 => asSl b_p fun a3 l4 c5 => cond ((l1 : Int) != ((l4 : Int) : Int))
 (R (.bool false) h)
 (∃ (I6 : Value → Hp → Prop) (μ7 : Value → Hp → Nat), I6 (.int .i64 0) h ∧ ∀ i_8 (d9 : Nat → Value) (h10 : Hp), I6 i_8 h10 →
 asSl a_p fun a11 l12 c13 => asK .i64 i_8 fun n14 => cond (decide ((n14 : Int) < (l12 : Int)))
 (asSl1 a_p fun a15 l16 c17 => asI i_8 fun n18 => 0 ≤ (n18 : Int) ∧ n18 < (l16 : Int) ∧ ∃ v19, cellH h10 (Addr.add a15 (Int.toNat n18 * 1)) = some v19 ∧
 asSl1 b_p fun a20 l21 c22 => asI i_8 fun n23 => 0 ≤ (n23 : Int) ∧ n23 < (l21 : Int) ∧ ∃ v24, cellH h10 (Addr.add a20 (Int.toNat n23 * 1)) = some v24 ∧
 asK .i64 v19 fun n25 => asK .i64 v24 fun n26 => cond (n25 != (n26 : Int))
 (R (.bool false) h10)
 (asK .i64 i_8 fun n27 => I6 (.int .i64 (IntKind.wrap .i64 (n27 + 1))) h10 ∧ μ7 (.int .i64 (IntKind.wrap .i64 (n27 + 1))) h10 < μ7 i_8 h10))
 (R (.bool true) h10))
def A_pipewrightref_SameInts : Ann :=
 (.two .leaf (.two (.two .leaf (.two (.two .leaf .leaf) .leaf)) (.two (.two .leaf (.one (.loop [11, 12, 13, 14, 17, 18, 19, 20, 21, 22, 23, 24, 25, 4, 15, 16, 5] [5] (.two (.two .leaf (.two .leaf .leaf)) (.two (.one (.two (.plan [0, 1, 2, 3, 4, 5, 6, 7, 8]) (.two (.two .leaf .leaf) .leaf))) .leaf))))) (.two .leaf .leaf))))
theorem C_pipewrightref_SameInts (ω : Amb) (a_p b_p : Value) (h : Hp) (R : Value → Hp → Prop) (X : List PanicEntry → Hp → Prop) (hk : W_pipewrightref_SameInts ω a_p b_p h R X) : CallX Try.prog ω 18 [a_p, b_p] h R X :=
 callX_of (an := A_pipewrightref_SameInts) Try.func18 ((show fnX Try.prog ω A_pipewrightref_SameInts Try.f18 [a_p, b_p] h R X = W_pipewrightref_SameInts ω a_p b_p h R X by kernel_rfl) ▸ hk)

/-- (*pipewright/ring.Ring[int]).Clear -/
abbrev n_p_ring_Ring_int_Clear : Nat := 19
def W_p_ring_Ring_int_Clear (ω : Amb) (r_p : Value) (h : Hp) (R : Value → Hp → Prop) (X : List PanicEntry → Hp → Prop) : Prop :=
 CallX Try.prog ω 17 [r_p] h (fun r0 h1 =>
 asPo r_p fun q2 => ∃ J3 : Hp → Prop,
 (cond (!(Option.isNone q2))
 (nnK r_p (asP r_p fun p6 =>
 ∃ v7, cellH h1 (Addr.add p6 3) = some v7 ∧
 clearK Try.prog 23 h1 v7 fun w8 h9 =>
 nnK r_p (asP r_p fun p10 =>
 storeK1 h9 (Addr.add p10 1) (.int .i64 0) fun h11 =>
 nnK r_p (asP r_p fun p12 =>
 storeK1 h11 (Addr.add p12 2) (.int .i64 0) fun h13 =>
 J3 h13))))
 (J3 h1)) ∧
 ∀  (d4 : Nat → Value) (h5 : Hp), J3 h5 →
 R r0 h5) X
def A_p_ring_Ring_int_Clear : Ann :=
 (.two .leaf (.two .leaf (.two (.two .leaf (.join [8, 9, 10, 11, 12, 13, 14, 15, 16, 17] [] (.two (.two .leaf .leaf) .leaf))) (.two .leaf .leaf))))
theorem C_p_ring_Ring_int_Clear (ω : Amb) (r_p : Value) (h : Hp) (R : Value → Hp → Prop) (X : List PanicEntry → Hp → Prop) (hk : W_p_ring_Ring_int_Clear ω r_p h R X) : CallX Try.prog ω 19 [r_p] h R X :=
 callX_of (an := A_p_ring_Ring_int_Clear) Try.func19 ((show fnX Try.prog ω A_p_ring_Ring_int_Clear Try.f19 [r_p] h R X = W_p_ring_Ring_int_Clear ω r_p h R X by kernel_rfl) ▸ hk)

/-- (*pipewright/ring.Ring[string]).Full -/
abbrev n_p_ring_Ring_string_Full : Nat := 20
def W_p_ring_Ring_string_Full (ω : Amb) (r_p : Value) (h : Hp) (R : Value → Hp → Prop) (X : List PanicEntry → Hp → Prop) : Prop :=
 ∃ J0 : Value → Hp → Prop,
 (asPo r_p fun q4 => cond (!(Option.isNone q4))
 (nnK r_p (asP r_p fun p5 =>
 ∃ v6, cellH h (Addr.add p5 0) = some v6 ∧
 asK .i64 v6 fun n7 => cond (decide ((n7 : Int) > 0))
 (nnK r_p (asP r_p fun p8 =>
 ∃ v9, cellH h (Addr.add p8 2) = some v9 ∧
 nnK r_p (asP r_p fun p10 =>
 ∃ v11, cellH h (Addr.add p10 0) = some v11 ∧
 asK .i64 v9 fun n12 => asK .i64 v11 fun n13 => J0 (.bool (n12 == (n13 : Int))) h)))
 (J0 (.bool false) h)))
 (J0 (.bool false) h)) ∧
 ∀ t2_1 (d2 : Nat → Value) (h3 : Hp), J0 t2_1 h3 →
 R t2_1 h3
def A_p_ring_Ring_string_Full : Ann :=
 (.two .leaf (.two (.join [3, 4, 5, 6, 7, 8, 9, 10, 11, 12, 13, 14, 15, 16, 17, 18, 19, 20, 21, 22, 2] [2] (.plan [0, 1, 2, 3, 4, 5, 6, 7, 8, 9, 10, 11, 12, 13, 14, 15, 16, 17, 18, 19, 20])) .leaf))
theorem C_p_ring_Ring_string_Full (ω : Amb) (r_p : Value) (h : Hp) (R : Value → Hp → Prop) (X : List PanicEntry → Hp → Prop) (hk : W_p_ring_Ring_string_Full ω r_p h R X) : CallX Try.prog ω 20 [r_p] h R X :=
 callX_of (an := A_p_ring_Ring_string_Full) Try.func20 ((show fnX Try.prog ω A_p_ring_Ring_string_Full Try.f20 [r_p] h R X = W_p_ring_Ring_string_Full ω r_p h R X by kernel_rfl) ▸ hk)

/-- (*pipewright/ring.Ring[string]).grow -/
abbrev n_p_ring_Ring_string_grow : Nat := 21
def W_p_ring_Ring_string_grow (ω : Amb) (r_p : Value) (h : Hp) (R : Value → Hp → Prop) (X : List PanicEntry → Hp → Prop) : Prop :=
 nnK r_p (asP r_p fun p0 =>
 ∃ v1, cellH h (Addr.add p0 2) = some v1 ∧
 nnK r_p (asP r_p fun p2 =>
 ∃ v3, cellH h (Addr.add p2 3) = some v3 ∧
 asSl v3 fun a4 l5 c6 => asK .i64 v1 fun n7 => cond (decide ((n7 : Int) < (l5 : Int)))
 (R (.tuple #[]) h)
 (nnK r_p (asP r_p fun p8 =>
 ∃ v9, cellH h (Addr.add p8 2) = some v9 ∧
 asK .i64 v9 fun n10 => makeK Try.prog 22 h (.int .i64 (IntKind.wrap .i64 ((IntKind.wrap .i64 (2 * n10)) + 2))) (.int .i64 (IntKind.wrap .i64 ((IntKind.wrap .i64 (2 * n10)) + 2))) fun v11 h12 =>
 CallX Try.prog ω 10 [r_p] h12 (fun r13 h14 =>
 copyK Try.prog 22 h14 v11 r13 fun w15 h16 =>
 nnK r_p (asP r_p fun p17 =>
 oneK v11 (storeK1 h16 (Addr.add p17 3) v11 fun h18 =>
 nnK r_p (asP r_p fun p19 =>
 storeK1 h18 (Addr.add p19 1) (.int .i64 0) fun h20 =>
 R (.tuple #[]) h20)))) X))))
def A_p_ring_Ring_string_grow : Ann :=
 (.two (.two (.plan [0, 1, 2, 3, 4, 5, 6, 7, 8, 9]) (.two .leaf .leaf)) (.two .leaf (.two .leaf .leaf)))
theorem C_p_ring_Ring_string_grow (ω : Amb) (r_p : Value) (h : Hp) (R : Value → Hp → Prop) (X : List PanicEntry → Hp → Prop) (hk : W_p_ring_Ring_string_grow ω r_p h R X) : CallX Try.prog ω 21 [r_p] h R X :=
 callX_of (an := A_p_ring_Ring_string_grow) Try.func21 ((show fnX Try.prog ω A_p_ring_Ring_string_grow Try.f21 [r_p] h R X = W_p_ring_Ring_string_grow ω r_p h R X by kernel_rfl) ▸ hk)

/-- (*pipewright/ring.Ring[int]).grow -/
abbrev n_p_ring_Ring_int_grow : Nat := 22
def W_p_ring_Ring_int_grow (ω : Amb) (r_p : Value) (h : Hp) (R : Value → Hp → Prop) (X : List PanicEntry → Hp → Prop) : Prop :=
 nnK r_p (asP r_p fun p0 =>
 ∃ v1, cellH h (Addr.add p0 2) = some v1 ∧
 nnK r_p (asP r_p fun p2 =>
 ∃ v3, cellH h (Addr.add p2 3) = some v3 ∧
 asSl v3 fun a4 l5 c6 => asK .i64 v1 fun n7 => cond (decide ((n7 : Int) < (l5 : Int)))
 (R (.tuple #[]) h)
 (nnK r_p (asP r_p fun p8 =>
 ∃ v9, cellH h (Addr.add p8 2) = some v9 ∧
 asK .i64 v9 fun n10 => makeK Try.prog 23 h (.int .i64 (IntKind.wrap .i64 ((IntKind.wrap .i64 (2 * n10)) + 2))) (.int .i64 (IntKind.wrap .i64 ((IntKind.wrap .i64 (2 * n10)) + 2))) fun v11 h12 =>
 CallX Try.prog ω 17 [r_p] h12 (fun r13 h14 =>
 copyK Try.prog 23 h14 v11 r13 fun w15 h16 =>
 nnK r_p (asP r_p fun p17 =>
 oneK v11 (storeK1 h16 (Addr.add p17 3) v11 fun h18 =>
 nnK r_p (asP r_p fun p19 =>
 storeK1 h18 (Addr.add p19 1) (.int .i64 0) fun h20 =>
 R (.tuple #[]) h20)))) X))))
def A_p_ring_Ring_int_grow : Ann :=
 (.two (.two (.plan [0, 1, 2, 3, 4, 5, 6, 7, 8, 9]) (.two .leaf .leaf)) (.two .leaf (.two .leaf .leaf)))
theorem C_p_ring_Ring_int_grow (ω : Amb) (r_p : Value) (h : Hp) (R : Value → Hp → Prop) (X : List PanicEntry → Hp → Prop) (hk : W_p_ring_Ring_int_grow ω r_p h R X) : CallX Try.prog ω 22 [r_p] h R X :=
 callX_of (an := A_p_ring_Ring_int_grow) Try.func22 ((show fnX Try.prog ω A_p_ring_Ring_int_grow Try.f22 [r_p] h R X = W_p_ring_Ring_int_grow ω r_p h R X by kernel_rfl) ▸ hk)

end Go.Proofs.Ytihffbheockjkaa.Sx
