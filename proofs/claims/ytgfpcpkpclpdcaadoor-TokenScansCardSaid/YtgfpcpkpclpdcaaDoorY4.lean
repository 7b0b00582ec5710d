/- Formulas of the functions' texts, written by a program of ours; each is checked by the kernel. -/
import Derived.Test.YtgfpcpkpclpdcaaDoorSxCore
import Derived.KernelRfl
import Derived.Test.YtgfpcpkpclpdcaaDoorProg
set_option linter.unusedVariables false
set_option maxRecDepth 100000
namespace Go.Proofs.YtgfpcpkpclpdcaaDoor.Sx
open Go Go.Sx Go.Proofs

/-- pipewright/pipewrightlaw.TokenScans -/
abbrev n_pipewrightlaw_TokenScans : Nat := 3
def W_pipewrightlaw_TokenScans (ω : Amb) (src_p : Value) (h : Hp) (R : Value → Hp → Prop) (X : List PanicEntry → Hp → Prop) : Prop :=
 CallX Tryd.prog ω 6 [] h (fun r0 h1 =>
 asB r0 fun b2 => cond (!b2)
 (R (.bool false) h1)
 (asS src_p fun s3 => cond (decide (((ByteArray.size s3 : Int) : Int) > 20000))
 (R (.bool true) h1)
 (CallX Tryd.prog ω 7 [src_p] h1 (fun r4 h5 =>
 asT r4 fun T6 => asO T6[0]? fun v7 => asT r4 fun T8 => asO T8[1]? fun v9 => asA v9 fun A10 => A10.size = 2 ∧ (∀ u ∈ A10.toList, one u) ∧ storeK (Array.push h5 (.cells #[(.int .i64 0), (.int .i64 0)] 25 (0, 0))) ⟨Array.size h5, 0, none⟩ A10.toList fun h11 =>
 CallX Tryd.prog ω 8 [src_p] h11 (fun r12 h13 =>
 asT r12 fun T14 => asO T14[0]? fun v15 => asT r12 fun T16 => asO T16[1]? fun v17 => asA v17 fun A18 => A18.size = 2 ∧ (∀ u ∈ A18.toList, one u) ∧ storeK (Array.push h13 (.cells #[(.int .i64 0), (.int .i64 0)] 25 (0, 0))) ⟨Array.size h13, 0, none⟩ A18.toList fun h19 =>
 ∃ J20 : Value → Hp → Prop,
 (∃ C24, cellsH h19 ⟨Array.size h5, 0, none⟩ 2 C24 ∧
 ∃ C25, cellsH h19 ⟨Array.size h13, 0, none⟩ 2 C25 ∧
 asO C24.toArray[0]? fun v26 => asO C25.toArray[0]? fun v27 => asK .i64 v26 fun n28 => asK .i64 v27 fun n29 => asO C24.toArray[1]? fun v30 => asO C25.toArray[1]? fun v31 => asK .i64 v30 fun n32 => asK .i64 v31 fun n33 => cond ((n28 == (n29 : Int)) && ((n32 == (n33 : Int)) && true))
 (CallX Tryd.prog ω 9 [v7, v15] h19 (fun r34 h35 =>
 asB r34 fun b36 => cond b36
 (CallX Tryd.prog ω 10 [src_p] h35 (fun r37 h38 =>
 CallX Tryd.prog ω 11 [src_p] h38 (fun r39 h40 =>
 asB r37 fun b41 => asB r39 fun b42 => cond (b41 == b42)
 (CallX Tryd.prog ω 12 [src_p] h40 (fun r43 h44 =>
 CallX Tryd.prog ω 13 [src_p] h44 (fun r45 h46 =>
 asB r43 fun b47 => asB r45 fun b48 => J20 (.bool (b47 == b48)) h46) X) X)
 (J20 (.bool false) h40)) X) X)
 (J20 (.bool false) h35)) X)
 (J20 (.bool false) h19)) ∧
 ∀ t2_21 (d22 : Nat → Value) (h23 : Hp), J20 t2_21 h23 →
 R t2_21 h23) X) X))) X
def A_pipewrightlaw_TokenScans : Ann :=
 (.two .leaf (.two (.two .leaf (.two (.two .leaf .leaf) .leaf)) (.two (.two .leaf (.two (.two .leaf .leaf) .leaf)) (.two .leaf (.two .leaf (.two (.join [22, 23, 24, 25, 26, 27, 28, 29, 30, 31, 32, 33, 34, 35, 36, 37, 38, 39, 40, 41, 42, 43, 2] [2] .leaf) .leaf))))))
theorem C_pipewrightlaw_TokenScans (ω : Amb) (src_p : Value) (h : Hp) (R : Value → Hp → Prop) (X : List PanicEntry → Hp → Prop) (hk : W_pipewrightlaw_TokenScans ω src_p h R X) : CallX Tryd.prog ω 3 [src_p] h R X :=
 callX_of (an := A_pipewrightlaw_TokenScans) Tryd.func3 ((show fnX Tryd.prog ω A_pipewrightlaw_TokenScans Tryd.f3 [src_p] h R X = W_pipewrightlaw_TokenScans ω src_p h R X by kernel_rfl) ▸ hk)

/-- pipewright/pipewrightlaw.TokenCovers -/
abbrev n_pipewrightlaw_TokenCovers : Nat := 4
def W_pipewrightlaw_TokenCovers (ω : Amb) (src_p : Value) (h : Hp) (R : Value → Hp → Prop) (X : List PanicEntry → Hp → Prop) : Prop :=
 CallX Tryd.prog ω 6 [] h (fun r0 h1 =>
 asB r0 fun b2 => cond (!b2)
 (R (.bool false) h1)
 (asS src_p fun s3 => cond (decide (((ByteArray.size s3 : Int) : Int) > 12000))
 (R (.bool true) h1)
 (CallX Tryd.prog ω 7 [src_p] h1 (fun r4 h5 =>
 asT r4 fun T6 => asO T6[0]? fun v7 => asT r4 fun T8 => asO T8[1]? fun v9 => asA v9 fun A10 => A10.size = 2 ∧ (∀ u ∈ A10.toList, one u) ∧ storeK (Array.push h5 (.cells #[(.int .i64 0), (.int .i64 0)] 25 (0, 0))) ⟨Array.size h5, 0, none⟩ A10.toList fun h11 =>
 ∃ v12, cellH h11 (Addr.add ⟨Array.size h5, 0, none⟩ 0) = some v12 ∧
 asK .i64 v12 fun n13 => cond (n13 != (0 : Int))
 (∃ J14 : Value → Hp → Prop,
 (asSl v7 fun a18 l19 c20 => cond ((l19 : Int) == (0 : Int))
 (∃ v21, cellH h11 (Addr.add ⟨Array.size h5, 0, none⟩ 1) = some v21 ∧
 asK .i64 v21 fun n22 => cond (decide ((n22 : Int) ≥ 0))
 (∃ v23, cellH h11 (Addr.add ⟨Array.size h5, 0, none⟩ 1) = some v23 ∧
 asS src_p fun s24 => asK .i64 v23 fun n25 => J14 (.bool (decide ((n25 : Int) ≤ (ByteArray.size s24 : Int)))) h11)
 (J14 (.bool false) h11))
 (J14 (.bool false) h11)) ∧
 ∀ t2_15 (d16 : Nat → Value) (h17 : Hp), J14 t2_15 h17 →
 R t2_15 h17)
 (∃ (I26 : Value → Value → Hp → Prop) (μ27 : Value → Value → Hp → Nat), I26 (.int .i64 0) (.int .i64 0) h11 ∧ ∀ at_28 i_29 (d30 : Nat → Value) (h31 : Hp), I26 at_28 i_29 h31 →
 asSl v7 fun a32 l33 c34 => asK .i64 i_29 fun n35 => cond (decide ((n35 : Int) ≤ (l33 : Int)))
 (∃ J36 : Value → Hp → Prop,
 (asS src_p fun s40 => asSl v7 fun a41 l42 c43 => asK .i64 i_29 fun n44 => ∃ J45 : Value → Hp → Prop,
 (cond (decide ((n44 : Int) < (l42 : Int)))
 (asSl1 v7 fun a49 l50 c51 => asI i_29 fun n52 => 0 ≤ (n52 : Int) ∧ n52 < (l50 : Int) ∧ ∃ v53, cellH h31 (Addr.add (Addr.add a49 (Int.toNat n52 * 4)) 1) = some v53 ∧
 J45 v53 h31)
 (J45 (.int .i64 (ByteArray.size s40 : Int)) h31)) ∧
 ∀ to_46 (d47 : Nat → Value) (h48 : Hp), J45 to_46 h48 →
 asK .i64 to_46 fun n54 => asK .i64 at_28 fun n55 => cond (decide ((n54 : Int) < n55))
 (R (.bool false) h48)
 (∃ (I56 : Value → Value → Hp → Prop) (μ57 : Value → Value → Hp → Nat), I56 (.bool false) at_28 h48 ∧ ∀ remark_58 at_59 (d60 : Nat → Value) (h61 : Hp), I56 remark_58 at_59 h61 →
 asK .i64 at_59 fun n62 => asK .i64 to_46 fun n63 => cond (decide ((n62 : Int) < n63))
 (asS src_p fun s64 => asI at_59 fun n65 => 0 ≤ (n65 : Int) ∧ n65 < (ByteArray.size s64 : Int) ∧ ∃ J66 : Value → Hp → Prop,
 (cond ((byteAt s64 n65) == (10 : Int))
 (J66 (.bool false) h61)
 (J66 remark_58 h61)) ∧
 ∀ remark_67 (d68 : Nat → Value) (h69 : Hp), J66 remark_67 h69 →
 asS src_p fun s70 => asI at_59 fun n71 => 0 ≤ (n71 : Int) ∧ n71 < (ByteArray.size s70 : Int) ∧ ∃ J72 : Value → Hp → Prop,
 (cond ((byteAt s70 n71) == (35 : Int))
 (J72 (.bool true) h69)
 (J72 remark_67 h69)) ∧
 ∀ remark_73 (d74 : Nat → Value) (h75 : Hp), J72 remark_73 h75 →
 ∃ β76 : Bool,
 (asB remark_73 fun b78 => cond (!b78)
 (asS src_p fun s79 => asI at_59 fun n80 => 0 ≤ (n80 : Int) ∧ n80 < (ByteArray.size s79 : Int) ∧ cond ((byteAt s79 n80) != (32 : Int))
 (asS src_p fun s81 => asI at_59 fun n82 => 0 ≤ (n82 : Int) ∧ n82 < (ByteArray.size s81 : Int) ∧ cond ((byteAt s81 n82) != (9 : Int))
 (asS src_p fun s83 => asI at_59 fun n84 => 0 ≤ (n84 : Int) ∧ n84 < (ByteArray.size s83 : Int) ∧ cond ((byteAt s83 n84) != (10 : Int))
 (asS src_p fun s85 => asI at_59 fun n86 => 0 ≤ (n86 : Int) ∧ n86 < (ByteArray.size s85 : Int) ∧ ((.bool ((byteAt s85 n86) != (13 : Int))) : Value) = .bool β76 ∧ h75 = h75)
 (((.bool false) : Value) = .bool β76 ∧ h75 = h75))
 (((.bool false) : Value) = .bool β76 ∧ h75 = h75))
 (((.bool false) : Value) = .bool β76 ∧ h75 = h75))
 (((.bool false) : Value) = .bool β76 ∧ h75 = h75)) ∧
 ∀ d77 : Nat → Value,
 cond β76
 (R (.bool false) h75)
 (asK .i64 at_59 fun n87 => I56 remark_73 (.int .i64 (IntKind.wrap .i64 (n87 + 1))) h75 ∧ μ57 remark_73 (.int .i64 (IntKind.wrap .i64 (n87 + 1))) h75 < μ57 remark_58 at_59 h61))
 (asSl v7 fun a88 l89 c90 => asK .i64 i_29 fun n91 => ∃ J92 : Value → Hp → Prop,
 (cond (decide ((n91 : Int) < (l89 : Int)))
 (asSl1 v7 fun a96 l97 c98 => asI i_29 fun n99 => 0 ≤ (n99 : Int) ∧ n99 < (l97 : Int) ∧ ∃ v100, cellH h61 (Addr.add (Addr.add a96 (Int.toNat n99 * 4)) 2) = some v100 ∧
 asS v100 fun s101 => ∃ β102 : Bool,
 (cond ((ByteArray.size s101 : Int) == (0 : Int))
 (((.bool true) : Value) = .bool β102 ∧ h61 = h61)
 (asS src_p fun s104 => asK .i64 at_59 fun n105 => cond (decide (((ByteArray.size s101 : Int) : Int) > (IntKind.wrap .i64 ((ByteArray.size s104 : Int) - n105))))
 (((.bool true) : Value) = .bool β102 ∧ h61 = h61)
 (asK .i64 at_59 fun n106 => asS src_p fun s107 => asI at_59 fun n108 => 0 ≤ (n108 : Int) ∧ (n108 : Int) ≤ (IntKind.wrap .i64 (n106 + (ByteArray.size s101 : Int))) ∧ (IntKind.wrap .i64 (n106 + (ByteArray.size s101 : Int))) ≤ (ByteArray.size s107 : Int) ∧ asSl1 v7 fun a109 l110 c111 => asI i_29 fun n112 => 0 ≤ (n112 : Int) ∧ n112 < (l110 : Int) ∧ ∃ v113, cellH h61 (Addr.add (Addr.add a109 (Int.toNat n112 * 4)) 2) = some v113 ∧
 asS v113 fun s114 => ((.bool (!(ByteArray.toList (ByteArray.extract s107 (Int.toNat n108) (Int.toNat (IntKind.wrap .i64 (n106 + (ByteArray.size s101 : Int))))) == ByteArray.toList s114))) : Value) = .bool β102 ∧ h61 = h61))) ∧
 ∀ d103 : Nat → Value,
 cond β102
 (R (.bool false) h61)
 (asK .i64 at_59 fun n115 => J92 (.int .i64 (IntKind.wrap .i64 (n115 + (ByteArray.size s101 : Int)))) h61))
 (J92 at_59 h61)) ∧
 ∀ at_93 (d94 : Nat → Value) (h95 : Hp), J92 at_93 h95 →
 J36 at_93 h95))) ∧
 ∀ at_37 (d38 : Nat → Value) (h39 : Hp), J36 at_37 h39 →
 asK .i64 i_29 fun n116 => I26 at_37 (.int .i64 (IntKind.wrap .i64 (n116 + 1))) h39 ∧ μ27 at_37 (.int .i64 (IntKind.wrap .i64 (n116 + 1))) h39 < μ27 at_28 i_29 h31)
 (R (.bool true) h31))) X))) X
def A_pipewrightlaw_TokenCovers : Ann :=
 (.two .leaf (.two (.two .leaf (.two (.two .leaf .leaf) .leaf)) (.two (.two .leaf (.two (.two .leaf .leaf) .leaf)) (.two .leaf (.two (.two .leaf (.two (.two (.join [23, 24, 25, 26, 27, 28, 29, 30, 31, 32, 33, 34, 35, 36, 37, 2] [2] .leaf) .leaf) .leaf)) (.two .leaf (.two (.two .leaf (.one (.loop [38, 39, 40, 41, 44, 45, 7, 46, 47, 48, 49, 50, 51, 52, 53, 54, 55, 56, 57, 2, 8, 58, 59, 60, 63, 64, 65, 66, 67, 68, 69, 70, 71, 72, 73, 74, 75, 76, 77, 78, 79, 80, 81, 82, 83, 84, 85, 86, 87, 88, 89, 90, 91, 92, 93, 94, 95, 96, 61, 62, 5, 97, 98, 99, 100, 101, 102, 103, 104, 105, 106, 9, 107, 108, 109, 110, 111, 112, 113, 114, 115, 116, 117, 118, 119, 120, 121, 122, 123, 124, 125, 126, 127, 128, 129, 130, 131, 132, 133, 42, 43, 6] [5, 6] (.two (.two .leaf (.two .leaf .leaf)) (.two (.join [44, 45, 7, 46, 47, 48, 49, 50, 51, 52, 53, 54, 55, 56, 57, 2, 8, 58, 59, 60, 63, 64, 65, 66, 67, 68, 69, 70, 71, 72, 73, 74, 75, 76, 77, 78, 79, 80, 81, 82, 83, 84, 85, 86, 87, 88, 89, 90, 91, 92, 93, 94, 95, 96, 61, 62, 5, 97, 98, 99, 100, 101, 102, 103, 104, 105, 106, 9, 107, 108, 109, 110, 111, 112, 113, 114, 115, 116, 117, 118, 119, 120, 121, 122, 123, 124, 125, 126, 127, 128, 129, 130, 131, 132, 133] [5] (.one (.two .leaf (.two (.two .leaf (.join [50, 51, 52, 53, 54, 7] [7] (.two .leaf .leaf))) (.two (.two .leaf (.two (.two .leaf .leaf) .leaf)) (.two .leaf (.two (.one (.loop [58, 59, 60, 63, 64, 65, 66, 8, 67, 68, 69, 70, 71, 72, 73, 74, 75, 76, 77, 78, 79, 80, 81, 82, 83, 84, 85, 86, 87, 88, 89, 90, 91, 92, 93, 94, 95, 96, 2, 61, 62, 5] [8, 5] (.two (.two .leaf (.two .leaf .leaf)) (.two (.one (.two (.two .leaf (.join [8] [8] (.two .leaf .leaf))) (.two (.two .leaf (.join [8] [8] (.two .leaf .leaf))) (.two (.jb [71, 72, 73, 74, 75, 76, 77, 78, 79, 80, 81, 82, 83, 84, 85, 86, 87, 88, 89, 90, 91, 92, 93, 94, 95, 96] 96 .leaf) (.two (.two .leaf .leaf) .leaf))))) .leaf)))) (.two .leaf (.join [101, 102, 103, 104, 105, 106, 9, 107, 108, 109, 110, 111, 112, 113, 114, 115, 116, 117, 118, 119, 120, 121, 122, 123, 124, 125, 126, 127, 128, 129, 130, 2, 131, 132, 133, 5] [5] (.two (.two .leaf (.two (.two (.jb [107, 108, 109, 110, 111, 112, 113, 114, 115, 116, 117, 118, 119, 120, 121, 122, 123, 124, 125, 126, 127, 128, 129, 130] 130 (.plan [0, 1, 2, 3, 4, 5, 6, 7, 8, 9, 10, 11, 12, 13, 14, 15, 16, 17, 18, 19, 20, 21, 22, 23])) (.two (.two .leaf .leaf) .leaf)) .leaf)) .leaf)))))))))) .leaf))))) (.two .leaf .leaf))))))))
theorem C_pipewrightlaw_TokenCovers (ω : Amb) (src_p : Value) (h : Hp) (R : Value → Hp → Prop) (X : List PanicEntry → Hp → Prop) (hk : W_pipewrightlaw_TokenCovers ω src_p h R X) : CallX Tryd.prog ω 4 [src_p] h R X :=
 callX_of (an := A_pipewrightlaw_TokenCovers) Tryd.func4 ((show fnX Tryd.prog ω A_pipewrightlaw_TokenCovers Tryd.f4 [src_p] h R X = W_pipewrightlaw_TokenCovers ω src_p h R X by kernel_rfl) ▸ hk)

/-- pipewright/pipewrightlaw.TokenJoins -/
abbrev n_pipewrightlaw_TokenJoins : Nat := 5
def W_pipewrightlaw_TokenJoins (ω : Amb) (a_p b_p : Value) (h : Hp) (R : Value → Hp → Prop) (X : List PanicEntry → Hp → Prop) : Prop :=
 CallX Tryd.prog ω 6 [] h (fun r0 h1 =>
 asB r0 fun b2 => cond (!b2)
 (R (.bool false) h1)
 (∃ β3 : Bool,
 (asS a_p fun s5 => cond (decide (((ByteArray.size s5 : Int) : Int) > 5900))
 (((.bool true) : Value) = .bool β3 ∧ h1 = h1)
 (asS b_p fun s6 => ((.bool (decide (((ByteArray.size s6 : Int) : Int) > 5900))) : Value) = .bool β3 ∧ h1 = h1)) ∧
 ∀ d4 : Nat → Value,
 cond β3
 (R (.bool true) h1)
 (CallX Tryd.prog ω 7 [a_p] h1 (fun r7 h8 =>
 asT r7 fun T9 => asO T9[0]? fun v10 => asT r7 fun T11 => asO T11[1]? fun v12 => asA v12 fun A13 => A13.size = 2 ∧ (∀ u ∈ A13.toList, one u) ∧ storeK (Array.push h8 (.cells #[(.int .i64 0), (.int .i64 0)] 25 (0, 0))) ⟨Array.size h8, 0, none⟩ A13.toList fun h14 =>
 CallX Tryd.prog ω 7 [b_p] h14 (fun r15 h16 =>
 asT r15 fun T17 => asO T17[0]? fun v18 => asT r15 fun T19 => asO T19[1]? fun v20 => asA v20 fun A21 => A21.size = 2 ∧ (∀ u ∈ A21.toList, one u) ∧ storeK (Array.push h16 (.cells #[(.int .i64 0), (.int .i64 0)] 25 (0, 0))) ⟨Array.size h16, 0, none⟩ A21.toList fun h22 =>
 asS a_p fun s23 => ByteArray.size s23 + ByteArray.size ⟨#[10]⟩ ≤ 9223372036854775807 ∧ asS b_p fun s24 => ByteArray.size (s23 ++ ⟨#[10]⟩) + ByteArray.size s24 ≤ 9223372036854775807 ∧ CallX Tryd.prog ω 7 [(.string ((s23 ++ ⟨#[10]⟩) ++ s24))] h22 (fun r25 h26 =>
 asT r25 fun T27 => asO T27[0]? fun v28 => asT r25 fun T29 => asO T29[1]? fun v30 => asA v30 fun A31 => A31.size = 2 ∧ (∀ u ∈ A31.toList, one u) ∧ storeK (Array.push h26 (.cells #[(.int .i64 0), (.int .i64 0)] 25 (0, 0))) ⟨Array.size h26, 0, none⟩ A31.toList fun h32 =>
 ∃ v33, cellH h32 (Addr.add ⟨Array.size h8, 0, none⟩ 0) = some v33 ∧
 asK .i64 v33 fun n34 => cond (n34 != (0 : Int))
 (∃ C35, cellsH h32 ⟨Array.size h26, 0, none⟩ 2 C35 ∧
 ∃ C36, cellsH h32 ⟨Array.size h8, 0, none⟩ 2 C36 ∧
 asO C35.toArray[0]? fun v37 => asO C36.toArray[0]? fun v38 => asK .i64 v37 fun n39 => asK .i64 v38 fun n40 => asO C35.toArray[1]? fun v41 => asO C36.toArray[1]? fun v42 => asK .i64 v41 fun n43 => asK .i64 v42 fun n44 => R (.bool ((n39 == (n40 : Int)) && ((n43 == (n44 : Int)) && true))) h32)
 (∃ v45, cellH h32 (Addr.add ⟨Array.size h16, 0, none⟩ 0) = some v45 ∧
 asK .i64 v45 fun n46 => cond (n46 != (0 : Int))
 (∃ J47 : Value → Hp → Prop,
 (∃ v51, cellH h32 (Addr.add ⟨Array.size h26, 0, none⟩ 0) = some v51 ∧
 ∃ v52, cellH h32 (Addr.add ⟨Array.size h16, 0, none⟩ 0) = some v52 ∧
 asK .i64 v51 fun n53 => asK .i64 v52 fun n54 => cond (n53 == (n54 : Int))
 (∃ v55, cellH h32 (Addr.add ⟨Array.size h26, 0, none⟩ 1) = some v55 ∧
 ∃ v56, cellH h32 (Addr.add ⟨Array.size h16, 0, none⟩ 1) = some v56 ∧
 asS a_p fun s57 => asK .i64 v56 fun n58 => asK .i64 v55 fun n59 => J47 (.bool (n59 == ((IntKind.wrap .i64 ((IntKind.wrap .i64 (n58 + (ByteArray.size s57 : Int))) + 1)) : Int))) h32)
 (J47 (.bool false) h32)) ∧
 ∀ t4_48 (d49 : Nat → Value) (h50 : Hp), J47 t4_48 h50 →
 R t4_48 h50)
 (∃ β60 : Bool,
 (∃ v62, cellH h32 (Addr.add ⟨Array.size h26, 0, none⟩ 0) = some v62 ∧
 asK .i64 v62 fun n63 => cond (n63 != (0 : Int))
 (((.bool true) : Value) = .bool β60 ∧ h32 = h32)
 (asSl v28 fun a64 l65 c66 => asSl v10 fun a67 l68 c69 => asSl v18 fun a70 l71 c72 => ((.bool ((l65 : Int) != ((IntKind.wrap .i64 ((l68 : Int) + (l71 : Int))) : Int))) : Value) = .bool β60 ∧ h32 = h32)) ∧
 ∀ d61 : Nat → Value,
 cond β60
 (R (.bool false) h32)
 (∃ (I73 : Value → Hp → Prop) (μ74 : Value → Hp → Nat), I73 (.int .i64 0) h32 ∧ ∀ i_75 (d76 : Nat → Value) (h77 : Hp), I73 i_75 h77 →
 asSl v28 fun a78 l79 c80 => asK .i64 i_75 fun n81 => cond (decide ((n81 : Int) < (l79 : Int)))
 (4 = 4 ∧ (∀ u ∈ [(.int .i64 0), (.int .i64 0), (.string ⟨#[]⟩), (.int .i64 0)], one u) ∧ storeK (Array.push h77 (.cells #[(.int .i64 0), (.int .i64 0), (.string ⟨#[]⟩), (.int .i64 0)] 31 (0, 0))) ⟨Array.size h77, 0, none⟩ [(.int .i64 0), (.int .i64 0), (.string ⟨#[]⟩), (.int .i64 0)] fun h82 =>
 asSl v10 fun a83 l84 c85 => asK .i64 i_75 fun n86 => ∃ J87 : Hp → Prop,
 (cond (decide ((n86 : Int) < (l84 : Int)))
 (asSl1 v10 fun a90 l91 c92 => asI i_75 fun n93 => 0 ≤ (n93 : Int) ∧ n93 < (l91 : Int) ∧ ∃ C94, cellsH h82 (Addr.add a90 (Int.toNat n93 * 4)) 4 C94 ∧
 C94.toArray.size = 4 ∧ (∀ u ∈ C94.toArray.toList, one u) ∧ storeK h82 ⟨Array.size h77, 0, none⟩ C94.toArray.toList fun h95 =>
 J87 h95)
 (asSl v10 fun a96 l97 c98 => asK .i64 i_75 fun n99 => asSl1 v18 fun a100 l101 c102 => 0 ≤ ((IntKind.wrap .i64 (n99 - (l97 : Int))) : Int) ∧ (IntKind.wrap .i64 (n99 - (l97 : Int))) < (l101 : Int) ∧ ∃ C103, cellsH h82 (Addr.add a100 (Int.toNat (IntKind.wrap .i64 (n99 - (l97 : Int))) * 4)) 4 C103 ∧
 C103.toArray.size = 4 ∧ (∀ u ∈ C103.toArray.toList, one u) ∧ storeK h82 ⟨Array.size h77, 0, none⟩ C103.toArray.toList fun h104 =>
 ∃ v105, cellH h104 (Addr.add ⟨Array.size h77, 0, none⟩ 1) = some v105 ∧
 asS a_p fun s106 => asK .i64 v105 fun n107 => storeK1 h104 (Addr.add ⟨Array.size h77, 0, none⟩ 1) (.int .i64 (IntKind.wrap .i64 (n107 + (IntKind.wrap .i64 ((ByteArray.size s106 : Int) + 1))))) fun h108 =>
 J87 h108)) ∧
 ∀  (d88 : Nat → Value) (h89 : Hp), J87 h89 →
 asSl1 v28 fun a109 l110 c111 => asI i_75 fun n112 => 0 ≤ (n112 : Int) ∧ n112 < (l110 : Int) ∧ ∃ C113, cellsH h89 (Addr.add a109 (Int.toNat n112 * 4)) 4 C113 ∧
 ∃ C114, cellsH h89 ⟨Array.size h77, 0, none⟩ 4 C114 ∧
 asO C113.toArray[0]? fun v115 => asO C114.toArray[0]? fun v116 => asK .i64 v115 fun n117 => asK .i64 v116 fun n118 => asO C113.toArray[1]? fun v119 => asO C114.toArray[1]? fun v120 => asK .i64 v119 fun n121 => asK .i64 v120 fun n122 => asO C113.toArray[2]? fun v123 => asO C114.toArray[2]? fun v124 => asS v123 fun s125 => asS v124 fun s126 => asO C113.toArray[3]? fun v127 => asO C114.toArray[3]? fun v128 => asK .i64 v127 fun n129 => asK .i64 v128 fun n130 => cond (!((n117 == (n118 : Int)) && ((n121 == (n122 : Int)) && ((ByteArray.toList s125 == ByteArray.toList s126) && ((n129 == (n130 : Int)) && true)))))
 (R (.bool false) h89)
 (asK .i64 i_75 fun n131 => I73 (.int .i64 (IntKind.wrap .i64 (n131 + 1))) h89 ∧ μ74 (.int .i64 (IntKind.wrap .i64 (n131 + 1))) h89 < μ74 i_75 h77))
 (R (.bool true) h77))))) X) X) X))) X
def A_pipewrightlaw_TokenJoins : Ann :=
 (.two .leaf (.two (.two .leaf (.two (.two .leaf .leaf) .leaf)) (.two (.two (.jb [15, 16, 17, 18, 19, 20, 21, 22] 22 .leaf) (.two (.two .leaf .leaf) .leaf)) (.two .leaf (.two .leaf (.two .leaf (.two (.two .leaf (.two (.two .leaf .leaf) .leaf)) (.two (.two .leaf (.two (.two (.join [50, 51, 52, 53, 54, 55, 56, 57, 58, 59, 60, 61, 62, 63, 64, 65, 4] [4] .leaf) .leaf) .leaf)) (.two (.two (.jb [66, 67, 68, 69, 70, 71, 72, 73, 74, 75, 76, 77, 78] 78 .leaf) (.two (.two .leaf .leaf) .leaf)) (.two (.two .leaf (.one (.loop [79, 80, 81, 82, 85, 12, 86, 87, 88, 89, 90, 91, 92, 93, 94, 95, 96, 97, 98, 99, 100, 101, 102, 103, 104, 105, 106, 107, 108, 109, 110, 111, 112, 113, 4, 83, 84, 11] [11] (.two (.two .leaf (.two .leaf .leaf)) (.two (.one (.two .leaf (.two (.two .leaf (.join [90, 91, 92, 93, 94, 95, 96, 97, 98, 99, 100, 101, 102, 103, 104, 105, 106, 107] [] (.two .leaf (.two .leaf .leaf)))) (.two (.plan [0, 1, 2, 3, 4, 5]) (.two (.two .leaf .leaf) .leaf))))) .leaf))))) (.two .leaf .leaf)))))))))))
theorem C_pipewrightlaw_TokenJoins (ω : Amb) (a_p b_p : Value) (h : Hp) (R : Value → Hp → Prop) (X : List PanicEntry → Hp → Prop) (hk : W_pipewrightlaw_TokenJoins ω a_p b_p h R X) : CallX Tryd.prog ω 5 [a_p, b_p] h R X :=
 callX_of (an := A_pipewrightlaw_TokenJoins) Tryd.func5 ((show fnX Tryd.prog ω A_pipewrightlaw_TokenJoins Tryd.f5 [a_p, b_p] h R X = W_pipewrightlaw_TokenJoins ω a_p b_p h R X by kernel_rfl) ▸ hk)

/-- pipewright/pipewrightlaw.tokenBegun -/
abbrev n_pipewrightlaw_tokenBegun : Nat := 6
def W_pipewrightlaw_tokenBegun (ω : Amb) (h : Hp) (R : Value → Hp → Prop) (X : List PanicEntry → Hp → Prop) : Prop :=
 CallX Tryd.prog ω 7 [(.string ⟨#[108, 101, 116, 32, 120, 49, 61, 49, 48, 35, 97, 10, 59]⟩)] h (fun r0 h1 =>
 asT r0 fun T2 => asO T2[0]? fun v3 => asT r0 fun T4 => asO T4[1]? fun v5 => asA v5 fun A6 => A6.size = 2 ∧ (∀ u ∈ A6.toList, one u) ∧ storeK (Array.push h1 (.cells #[(.int .i64 0), (.int .i64 0)] 25 (0, 0))) ⟨Array.size h1, 0, none⟩ A6.toList fun h7 =>
 ∃ J8 : Value → Hp → Prop,
 (∃ v12, cellH h7 (Addr.add ⟨Array.size h1, 0, none⟩ 0) = some v12 ∧
 asK .i64 v12 fun n13 => cond (n13 == (0 : Int))
 (asSl v3 fun a14 l15 c16 => cond ((l15 : Int) == (5 : Int))
 (asSl1 v3 fun a17 l18 c19 => 0 ≤ (3 : Int) ∧ 3 < (l18 : Int) ∧ ∃ v20, cellH h7 (Addr.add (Addr.add a17 (Int.toNat 3 * 4)) 3) = some v20 ∧
 asK .i64 v20 fun n21 => cond (n21 == (10 : Int))
 (asSl1 v3 fun a22 l23 c24 => 0 ≤ (4 : Int) ∧ 4 < (l23 : Int) ∧ ∃ v25, cellH h7 (Addr.add (Addr.add a22 (Int.toNat 4 * 4)) 1) = some v25 ∧
 asK .i64 v25 fun n26 => cond (n26 == (12 : Int))
 (CallX Tryd.prog ω 10 [(.string ⟨#[108, 101, 116]⟩)] h7 (fun r27 h28 =>
 asB r27 fun b29 => cond b29
 (CallX Tryd.prog ω 12 [(.string ⟨#[108, 101, 116]⟩)] h28 (fun r30 h31 =>
 asB r30 fun b32 => J8 (.bool (!b32)) h31) X)
 (J8 (.bool false) h28)) X)
 (J8 (.bool false) h7))
 (J8 (.bool false) h7))
 (J8 (.bool false) h7))
 (J8 (.bool false) h7)) ∧
 ∀ t0_9 (d10 : Nat → Value) (h11 : Hp), J8 t0_9 h11 →
 R t0_9 h11) X
def A_pipewrightlaw_tokenBegun : Ann :=
 (.two .leaf (.two .leaf (.two (.join [7, 8, 9, 10, 11, 12, 13, 14, 15, 16, 17, 18, 19, 20, 21, 22, 23, 24, 25, 26, 27, 28, 29, 30, 31, 32, 33, 34, 35, 0] [0] .leaf) .leaf)))
theorem C_pipewrightlaw_tokenBegun (ω : Amb) (h : Hp) (R : Value → Hp → Prop) (X : List PanicEntry → Hp → Prop) (hk : W_pipewrightlaw_tokenBegun ω  h R X) : CallX Tryd.prog ω 6 [] h R X :=
 callX_of (an := A_pipewrightlaw_tokenBegun) Tryd.func6 ((show fnX Tryd.prog ω A_pipewrightlaw_tokenBegun Tryd.f6 [] h R X = W_pipewrightlaw_tokenBegun ω  h R X by kernel_rfl) ▸ hk)

/-- pipewright/token.Scan -/
abbrev n_token_Scan : Nat := 7
def W_token_Scan (ω : Amb) (src_p : Value) (h : Hp) (R : Value → Hp → Prop) (X : List PanicEntry → Hp → Prop) : Prop :=
 asS src_p fun s0 => cond (decide (((ByteArray.size s0 : Int) : Int) > 12000))
 (2 = 2 ∧ (∀ u ∈ [(.int .i64 1), (.int .i64 12000)], one u) ∧ storeK (Array.push h (.cells #[(.int .i64 0), (.int .i64 0)] 25 (0, 0))) ⟨Array.size h, 0, none⟩ [(.int .i64 1), (.int .i64 12000)] fun h1 =>
 ∃ C2, cellsH h1 ⟨Array.size h, 0, none⟩ 2 C2 ∧ R (.tuple #[(.slice none 0 0), (.agg C2.toArray)]) h1)
 (oneK src_p (CallX Tryd.prog ω 14 [(.pointer (some ⟨Array.size (Array.push h (.cells #[(.int .i64 0), (.int .i64 0)] 25 (0, 0))), 0, none⟩))] (Array.push (Array.push h (.cells #[(.int .i64 0), (.int .i64 0)] 25 (0, 0))) (.cells #[src_p, (.int .i64 0), (.slice none 0 0)] 35 (0, 0))) (fun r3 h4 =>
 ∃ (I5 : Hp → Prop) (μ6 : Hp → Nat), I5 h4 ∧ ∀  (d7 : Nat → Value) (h8 : Hp), I5 h8 →
 ∃ v9, cellH h8 (Addr.add ⟨Array.size (Array.push h (.cells #[(.int .i64 0), (.int .i64 0)] 25 (0, 0))), 0, none⟩ 1) = some v9 ∧
 asS src_p fun s10 => asK .i64 v9 fun n11 => cond (decide ((n11 : Int) < (ByteArray.size s10 : Int)))
 (∃ v12, cellH h8 (Addr.add ⟨Array.size (Array.push h (.cells #[(.int .i64 0), (.int .i64 0)] 25 (0, 0))), 0, none⟩ 1) = some v12 ∧
 CallX Tryd.prog ω 15 [(.pointer (some ⟨Array.size (Array.push h (.cells #[(.int .i64 0), (.int .i64 0)] 25 (0, 0))), 0, none⟩))] h8 (fun r13 h14 =>
 asK .i64 r13 fun n15 => cond (n15 != (0 : Int))
 (oneK r13 (oneK v12 (2 = 2 ∧ (∀ u ∈ [r13, v12], one u) ∧ storeK h14 ⟨Array.size h, 0, none⟩ [r13, v12] fun h16 =>
 ∃ C17, cellsH h16 ⟨Array.size h, 0, none⟩ 2 C17 ∧ R (.tuple #[(.slice none 0 0), (.agg C17.toArray)]) h16)))
 (CallX Tryd.prog ω 14 [(.pointer (some ⟨Array.size (Array.push h (.cells #[(.int .i64 0), (.int .i64 0)] 25 (0, 0))), 0, none⟩))] h14 (fun r18 h19 =>
 I5 h19 ∧ μ6 h19 < μ6 h8) X)) X)
 (∃ v20, cellH h8 (Addr.add ⟨Array.size (Array.push h (.cells #[(.int .i64 0), (.int .i64 0)] 25 (0, 0))), 0, none⟩ 2) = some v20 ∧
 2 = 2 ∧ (∀ u ∈ [(.int .i64 0), (.int .i64 0)], one u) ∧ storeK h8 ⟨Array.size h, 0, none⟩ [(.int .i64 0), (.int .i64 0)] fun h21 =>
 ∃ C22, cellsH h21 ⟨Array.size h, 0, none⟩ 2 C22 ∧ R (.tuple #[v20, (.agg C22.toArray)]) h21)) X))
def A_token_Scan : Ann :=
 (.two .leaf (.two (.two .leaf (.two (.two .leaf .leaf) .leaf)) (.two .leaf (.two (.two .leaf (.one (.loop [16, 17, 18, 19, 20, 21, 22, 25, 26, 27, 28, 5, 29, 30, 6, 31, 32, 33, 34, 35, 2, 23, 24] [] (.two (.two .leaf (.two .leaf .leaf)) (.two (.one (.two .leaf (.two .leaf (.two .leaf (.two (.two .leaf .leaf) .leaf))))) .leaf))))) (.two .leaf .leaf)))))
theorem C_token_Scan (ω : Amb) (src_p : Value) (h : Hp) (R : Value → Hp → Prop) (X : List PanicEntry → Hp → Prop) (hk : W_token_Scan ω src_p h R X) : CallX Tryd.prog ω 7 [src_p] h R X :=
 callX_of (an := A_token_Scan) Tryd.func7 ((show fnX Tryd.prog ω A_token_Scan Tryd.f7 [src_p] h R X = W_token_Scan ω src_p h R X by kernel_rfl) ▸ hk)

/-- pipewright/pipewrightref.Scan -/
abbrev n_pipewrightref_Scan : Nat := 8
def W_pipewrightref_Scan (ω : Amb) (src_p : Value) (h : Hp) (R : Value → Hp → Prop) (X : List PanicEntry → Hp → Prop) : Prop :=
 asS src_p fun s0 => cond (decide (((ByteArray.size s0 : Int) : Int) > 12000))
 (CallX Tryd.prog ω 16 [(.int .i64 1), (.int .i64 12000)] (Array.push h (.cells #[(.int .i64 0), (.int .i64 0)] 25 (0, 0))) (fun r1 h2 =>
 asA r1 fun A3 => A3.size = 2 ∧ (∀ u ∈ A3.toList, one u) ∧ storeK h2 ⟨Array.size h, 0, none⟩ A3.toList fun h4 =>
 ∃ C5, cellsH h4 ⟨Array.size h, 0, none⟩ 2 C5 ∧ R (.tuple #[(.slice none 0 0), (.agg C5.toArray)]) h4) X)
 (∃ (I6 : Value → Value → Hp → Prop) (μ7 : Value → Value → Hp → Nat), I6 (.int .i64 0) (.slice none 0 0) (Array.push h (.cells #[(.int .i64 0), (.int .i64 0)] 25 (0, 0))) ∧ ∀ at_8 out_9 (d10 : Nat → Value) (h11 : Hp), I6 at_8 out_9 h11 →
 asS src_p fun s12 => asK .i64 at_8 fun n13 => cond (decide ((n13 : Int) < (ByteArray.size s12 : Int)))
 (∃ J14 : Value → Value → Hp → Prop,
 (asS src_p fun s19 => asI at_8 fun n20 => 0 ≤ (n20 : Int) ∧ n20 < (ByteArray.size s19 : Int) ∧ ∃ J21 : Value → Value → Hp → Prop,
 (∃ J26 : Value → Hp → Prop,
 (cond ((byteAt s19 n20) == (32 : Int))
 (J26 (.bool true) h11)
 (cond ((byteAt s19 n20) == (9 : Int))
 (J26 (.bool true) h11)
 (cond ((byteAt s19 n20) == (10 : Int))
 (J26 (.bool true) h11)
 (J26 (.bool ((byteAt s19 n20) == (13 : Int))) h11)))) ∧
 ∀ t24_27 (d28 : Nat → Value) (h29 : Hp), J26 t24_27 h29 →
 ∃ J30 : Value → Value → Hp → Prop,
 (asB t24_27 fun b35 => cond b35
 (asK .i64 at_8 fun n36 => J30 (.int .i64 (IntKind.wrap .i64 (n36 + 1))) out_9 h29)
 (∃ J37 : Value → Value → Hp → Prop,
 (cond ((byteAt s19 n20) == (35 : Int))
 (∃ (I42 : Value → Hp → Prop) (μ43 : Value → Hp → Nat), I42 at_8 h29 ∧ ∀ at_44 (d45 : Nat → Value) (h46 : Hp), I42 at_44 h46 →
 ∃ β47 : Bool,
 (asS src_p fun s49 => asK .i64 at_44 fun n50 => cond (decide ((n50 : Int) < (ByteArray.size s49 : Int)))
 (asS src_p fun s51 => asI at_44 fun n52 => 0 ≤ (n52 : Int) ∧ n52 < (ByteArray.size s51 : Int) ∧ ((.bool ((byteAt s51 n52) != (10 : Int))) : Value) = .bool β47 ∧ h46 = h46)
 (((.bool false) : Value) = .bool β47 ∧ h46 = h46)) ∧
 ∀ d48 : Nat → Value,
 cond β47
 (asK .i64 at_44 fun n53 => I42 (.int .i64 (IntKind.wrap .i64 (n53 + 1))) h46 ∧ μ43 (.int .i64 (IntKind.wrap .i64 (n53 + 1))) h46 < μ43 at_44 h46)
 (J37 at_44 out_9 h46))
 (CallX Tryd.prog ω 17 [(.int .u8 (byteAt s19 n20))] h29 (fun r54 h55 =>
 ∃ J56 : Value → Value → Hp → Prop,
 (asB r54 fun b61 => cond b61
 (CallX Tryd.prog ω 18 [src_p, at_8] h55 (fun r62 h63 =>
 asS src_p fun s64 => asI at_8 fun n65 => asI r62 fun n66 => 0 ≤ (n65 : Int) ∧ (n65 : Int) ≤ n66 ∧ n66 ≤ (ByteArray.size s64 : Int) ∧ CallX Tryd.prog ω 11 [(.string (ByteArray.extract s64 (Int.toNat n65) (Int.toNat n66)))] h63 (fun r67 h68 =>
 ∃ J69 : Value → Hp → Prop,
 (asB r67 fun b73 => cond b73
 (J69 (.int .i64 1) h68)
 (asK .i64 r62 fun n74 => asK .i64 at_8 fun n75 => cond (decide (((IntKind.wrap .i64 (n74 - n75)) : Int) > 12))
 (CallX Tryd.prog ω 16 [(.int .i64 4), at_8] h68 (fun r76 h77 =>
 asA r76 fun A78 => A78.size = 2 ∧ (∀ u ∈ A78.toList, one u) ∧ storeK h77 ⟨Array.size h, 0, none⟩ A78.toList fun h79 =>
 ∃ C80, cellsH h79 ⟨Array.size h, 0, none⟩ 2 C80 ∧ R (.tuple #[(.slice none 0 0), (.agg C80.toArray)]) h79) X)
 (J69 (.int .i64 2) h68))) ∧
 ∀ k_70 (d71 : Nat → Value) (h72 : Hp), J69 k_70 h72 →
 asS src_p fun s81 => asI at_8 fun n82 => asI r62 fun n83 => 0 ≤ (n82 : Int) ∧ (n82 : Int) ≤ n83 ∧ n83 ≤ (ByteArray.size s81 : Int) ∧ oneK k_70 (oneK at_8 (4 = 4 ∧ appK Tryd.prog 23 (Array.push h72 (.cells (List.toArray [k_70, at_8, (.string (ByteArray.extract s81 (Int.toNat n82) (Int.toNat n83))), (.int .i64 0)]) 31 (0, 0))) out_9 (.slice (some ⟨Array.size h72, 0, none⟩) 1 1) fun w84 h85 =>
 J56 w84 r62 h85))) X) X)
 (CallX Tryd.prog ω 19 [(.int .u8 (byteAt s19 n20))] h55 (fun r86 h87 =>
 ∃ J88 : Value → Value → Hp → Prop,
 (asB r86 fun b93 => cond b93
 (CallX Tryd.prog ω 18 [src_p, at_8] h87 (fun r94 h95 =>
 asS src_p fun s96 => asI at_8 fun n97 => asI r94 fun n98 => 0 ≤ (n97 : Int) ∧ (n97 : Int) ≤ n98 ∧ n98 ≤ (ByteArray.size s96 : Int) ∧ CallX Tryd.prog ω 20 [(.string (ByteArray.extract s96 (Int.toNat n97) (Int.toNat n98)))] h95 (fun r99 h100 =>
 asK .i64 r99 fun n101 => cond (decide ((n101 : Int) < 0))
 (CallX Tryd.prog ω 16 [(.int .i64 3), at_8] h100 (fun r102 h103 =>
 asA r102 fun A104 => A104.size = 2 ∧ (∀ u ∈ A104.toList, one u) ∧ storeK h103 ⟨Array.size h, 0, none⟩ A104.toList fun h105 =>
 ∃ C106, cellsH h105 ⟨Array.size h, 0, none⟩ 2 C106 ∧ R (.tuple #[(.slice none 0 0), (.agg C106.toArray)]) h105) X)
 (asS src_p fun s107 => asI at_8 fun n108 => asI r94 fun n109 => 0 ≤ (n108 : Int) ∧ (n108 : Int) ≤ n109 ∧ n109 ≤ (ByteArray.size s107 : Int) ∧ oneK at_8 (oneK r99 (4 = 4 ∧ appK Tryd.prog 23 (Array.push h100 (.cells (List.toArray [(.int .i64 3), at_8, (.string (ByteArray.extract s107 (Int.toNat n108) (Int.toNat n109))), r99]) 31 (0, 0))) out_9 (.slice (some ⟨Array.size h100, 0, none⟩) 1 1) fun w110 h111 =>
 J88 w110 r94 h111)))) X) X)
 (∃ J112 : Value → Hp → Prop,
 (cond ((byteAt s19 n20) == (61 : Int))
 (asK .i64 at_8 fun n116 => asS src_p fun s117 => cond (decide (((IntKind.wrap .i64 (n116 + 1)) : Int) < (ByteArray.size s117 : Int)))
 (asK .i64 at_8 fun n118 => asS src_p fun s119 => 0 ≤ ((IntKind.wrap .i64 (n118 + 1)) : Int) ∧ (IntKind.wrap .i64 (n118 + 1)) < (ByteArray.size s119 : Int) ∧ J112 (.bool ((byteAt s119 (IntKind.wrap .i64 (n118 + 1))) == (61 : Int))) h87)
 (J112 (.bool false) h87))
 (J112 (.bool false) h87)) ∧
 ∀ t110_113 (d114 : Nat → Value) (h115 : Hp), J112 t110_113 h115 →
 ∃ J120 : Value → Value → Hp → Prop,
 (asB t110_113 fun b125 => cond b125
 (oneK at_8 (4 = 4 ∧ appK Tryd.prog 23 (Array.push h115 (.cells (List.toArray [(.int .i64 4), at_8, (.string ⟨#[61, 61]⟩), (.int .i64 0)]) 31 (0, 0))) out_9 (.slice (some ⟨Array.size h115, 0, none⟩) 1 1) fun w126 h127 =>
 asK .i64 at_8 fun n128 => J120 w126 (.int .i64 (IntKind.wrap .i64 (n128 + 2))) h127))
 (∃ J129 : Value → Hp → Prop,
 (cond ((byteAt s19 n20) == (40 : Int))
 (J129 (.bool true) h115)
 (cond ((byteAt s19 n20) == (41 : Int))
 (J129 (.bool true) h115)
 (cond ((byteAt s19 n20) == (123 : Int))
 (J129 (.bool true) h115)
 (cond ((byteAt s19 n20) == (125 : Int))
 (J129 (.bool true) h115)
 (cond ((byteAt s19 n20) == (44 : Int))
 (J129 (.bool true) h115)
 (cond ((byteAt s19 n20) == (59 : Int))
 (J129 (.bool true) h115)
 (cond ((byteAt s19 n20) == (43 : Int))
 (J129 (.bool true) h115)
 (cond ((byteAt s19 n20) == (45 : Int))
 (J129 (.bool true) h115)
 (cond ((byteAt s19 n20) == (42 : Int))
 (J129 (.bool true) h115)
 (cond ((byteAt s19 n20) == (60 : Int))
 (J129 (.bool true) h115)
 (J129 (.bool ((byteAt s19 n20) == (61 : Int))) h115))))))))))) ∧
 ∀ t134_130 (d131 : Nat → Value) (h132 : Hp), J129 t134_130 h132 →
 asB t134_130 fun b133 => cond b133
 (asK .i64 at_8 fun n134 => asS src_p fun s135 => asI at_8 fun n136 => 0 ≤ (n136 : Int) ∧ (n136 : Int) ≤ (IntKind.wrap .i64 (n134 + 1)) ∧ (IntKind.wrap .i64 (n134 + 1)) ≤ (ByteArray.size s135 : Int) ∧ oneK at_8 (4 = 4 ∧ appK Tryd.prog 23 (Array.push h132 (.cells (List.toArray [(.int .i64 4), at_8, (.string (ByteArray.extract s135 (Int.toNat n136) (Int.toNat (IntKind.wrap .i64 (n134 + 1))))), (.int .i64 0)]) 31 (0, 0))) out_9 (.slice (some ⟨Array.size h132, 0, none⟩) 1 1) fun w137 h138 =>
 asK .i64 at_8 fun n139 => J120 w137 (.int .i64 (IntKind.wrap .i64 (n139 + 1))) h138))
 (CallX Tryd.prog ω 16 [(.int .i64 2), at_8] h132 (fun r140 h141 =>
 asA r140 fun A142 => A142.size = 2 ∧ (∀ u ∈ A142.toList, one u) ∧ storeK h141 ⟨Array.size h, 0, none⟩ A142.toList fun h143 =>
 ∃ C144, cellsH h143 ⟨Array.size h, 0, none⟩ 2 C144 ∧ R (.tuple #[(.slice none 0 0), (.agg C144.toArray)]) h143) X))) ∧
 ∀ out_121 at_122 (d123 : Nat → Value) (h124 : Hp), J120 out_121 at_122 h124 →
 J88 out_121 at_122 h124)) ∧
 ∀ out_89 at_90 (d91 : Nat → Value) (h92 : Hp), J88 out_89 at_90 h92 →
 J56 out_89 at_90 h92) X)) ∧
 ∀ out_57 at_58 (d59 : Nat → Value) (h60 : Hp), J56 out_57 at_58 h60 →
 J37 at_58 out_57 h60) X)) ∧
 ∀ at_38 out_39 (d40 : Nat → Value) (h41 : Hp), J37 at_38 out_39 h41 →
 J30 at_38 out_39 h41)) ∧
 ∀ at_31 out_32 (d33 : Nat → Value) (h34 : Hp), J30 at_31 out_32 h34 →
 J21 at_31 out_32 h34) ∧
 ∀ at_22 out_23 (d24 : Nat → Value) (h25 : Hp), J21 at_22 out_23 h25 →
 J14 at_22 out_23 h25) ∧
 ∀ at_15 out_16 (d17 : Nat → Value) (h18 : Hp), J14 at_15 out_16 h18 →
 I6 at_15 out_16 h18 ∧ μ7 at_15 out_16 h18 < μ7 at_8 out_9 h11)
 (2 = 2 ∧ (∀ u ∈ [(.int .i64 0), (.int .i64 0)], one u) ∧ storeK h11 ⟨Array.size h, 0, none⟩ [(.int .i64 0), (.int .i64 0)] fun h145 =>
 ∃ C146, cellsH h145 ⟨Array.size h, 0, none⟩ 2 C146 ∧ R (.tuple #[out_9, (.agg C146.toArray)]) h145))
def A_pipewrightref_Scan : Ann :=
 (.two .leaf (.two (.two .leaf (.two (.two .leaf .leaf) .leaf)) (.two .leaf (.two .leaf (.two (.one (.loop [15, 16, 17, 18, 19, 20, 21, 6, 25, 26, 27, 28, 29, 30, 31, 32, 33, 34, 35, 36, 37, 38, 24, 39, 40, 5, 42, 43, 41, 44, 45, 46, 47, 48, 49, 50, 51, 52, 53, 54, 55, 57, 58, 56, 59, 60, 61, 7, 8, 62, 63, 64, 65, 66, 67, 68, 69, 70, 71, 72, 2, 73, 74, 75, 76, 77, 78, 79, 80, 81, 82, 4, 83, 85, 86, 84, 87, 88, 89, 9, 90, 91, 92, 93, 94, 10, 95, 96, 97, 98, 99, 100, 101, 102, 103, 104, 105, 106, 107, 108, 109, 111, 112, 113, 114, 115, 116, 117, 118, 119, 120, 121, 122, 123, 124, 125, 126, 110, 127, 128, 129, 130, 131, 132, 133, 135, 136, 137, 138, 139, 140, 141, 142, 143, 144, 145, 146, 147, 148, 149, 150, 151, 152, 153, 154, 155, 156, 157, 158, 159, 160, 161, 162, 163, 164, 165, 166, 167, 168, 169, 170, 171, 172, 173, 174, 175, 176, 134, 177, 178, 179, 180, 181, 182, 183, 184, 185, 186, 187, 188, 22, 23] [5, 4] (.two (.two .leaf (.two .leaf .leaf)) (.join [19, 20, 21, 6, 25, 26, 27, 28, 29, 30, 31, 32, 33, 34, 35, 36, 37, 38, 24, 39, 40, 5, 42, 43, 41, 44, 45, 46, 47, 48, 49, 50, 51, 52, 53, 54, 55, 57, 58, 56, 59, 60, 61, 7, 8, 62, 63, 64, 65, 66, 67, 68, 69, 70, 71, 72, 2, 73, 74, 75, 76, 77, 78, 79, 80, 81, 82, 4, 83, 85, 86, 84, 87, 88, 89, 9, 90, 91, 92, 93, 94, 10, 95, 96, 97, 98, 99, 100, 101, 102, 103, 104, 105, 106, 107, 108, 109, 111, 112, 113, 114, 115, 116, 117, 118, 119, 120, 121, 122, 123, 124, 125, 126, 110, 127, 128, 129, 130, 131, 132, 133, 135, 136, 137, 138, 139, 140, 141, 142, 143, 144, 145, 146, 147, 148, 149, 150, 151, 152, 153, 154, 155, 156, 157, 158, 159, 160, 161, 162, 163, 164, 165, 166, 167, 168, 169, 170, 171, 172, 173, 174, 175, 176, 134, 177, 178, 179, 180, 181, 182, 183, 184, 185, 186, 187, 188, 22, 23] [5, 4] (.one (.two .leaf (.join [25, 26, 27, 28, 29, 30, 31, 32, 33, 34, 35, 36, 37, 38, 24, 39, 40, 5, 42, 43, 41, 44, 45, 46, 47, 48, 49, 50, 51, 52, 53, 54, 55, 57, 58, 56, 59, 60, 61, 7, 8, 62, 63, 64, 65, 66, 67, 68, 69, 70, 71, 72, 2, 73, 74, 75, 76, 77, 78, 79, 80, 81, 82, 4, 83, 85, 86, 84, 87, 88, 89, 9, 90, 91, 92, 93, 94, 10, 95, 96, 97, 98, 99, 100, 101, 102, 103, 104, 105, 106, 107, 108, 109, 111, 112, 113, 114, 115, 116, 117, 118, 119, 120, 121, 122, 123, 124, 125, 126, 110, 127, 128, 129, 130, 131, 132, 133, 135, 136, 137, 138, 139, 140, 141, 142, 143, 144, 145, 146, 147, 148, 149, 150, 151, 152, 153, 154, 155, 156, 157, 158, 159, 160, 161, 162, 163, 164, 165, 166, 167, 168, 169, 170, 171, 172, 173, 174, 175, 176, 134, 177, 178, 179, 180, 181, 182, 183, 184, 185, 186, 187, 188, 22, 23] [5, 4] (.one (.two (.join [25, 26, 27, 28, 29, 30, 31, 32, 33, 34, 35, 36, 37, 38, 24] [24] .leaf) (.join [39, 40, 5, 42, 43, 41, 44, 45, 46, 47, 48, 49, 50, 51, 52, 53, 54, 55, 57, 58, 56, 59, 60, 61, 7, 8, 62, 63, 64, 65, 66, 67, 68, 69, 70, 71, 72, 2, 73, 74, 75, 76, 77, 78, 79, 80, 81, 82, 4, 83, 85, 86, 84, 87, 88, 89, 9, 90, 91, 92, 93, 94, 10, 95, 96, 97, 98, 99, 100, 101, 102, 103, 104, 105, 106, 107, 108, 109, 111, 112, 113, 114, 115, 116, 117, 118, 119, 120, 121, 122, 123, 124, 125, 126, 110, 127, 128, 129, 130, 131, 132, 133, 135, 136, 137, 138, 139, 140, 141, 142, 143, 144, 145, 146, 147, 148, 149, 150, 151, 152, 153, 154, 155, 156, 157, 158, 159, 160, 161, 162, 163, 164, 165, 166, 167, 168, 169, 170, 171, 172, 173, 174, 175, 176, 134, 177, 178, 179, 180, 181, 182, 183, 184, 185, 186, 187, 188, 22, 23] [5, 4] (.two .leaf (.two .leaf (.join [44, 45, 46, 47, 48, 49, 50, 51, 52, 53, 54, 55, 5, 57, 58, 56, 59, 60, 61, 7, 8, 62, 63, 64, 65, 66, 67, 68, 69, 70, 71, 72, 2, 73, 74, 75, 76, 77, 78, 79, 80, 81, 82, 4, 83, 85, 86, 84, 87, 88, 89, 9, 90, 91, 92, 93, 94, 10, 95, 96, 97, 98, 99, 100, 101, 102, 103, 104, 105, 106, 107, 108, 109, 111, 112, 113, 114, 115, 116, 117, 118, 119, 120, 121, 122, 123, 124, 125, 126, 110, 127, 128, 129, 130, 131, 132, 133, 135, 136, 137, 138, 139, 140, 141, 142, 143, 144, 145, 146, 147, 148, 149, 150, 151, 152, 153, 154, 155, 156, 157, 158, 159, 160, 161, 162, 163, 164, 165, 166, 167, 168, 169, 170, 171, 172, 173, 174, 175, 176, 134, 177, 178, 179, 180, 181, 182, 183, 184, 185, 186, 187, 188, 22, 23] [5, 4] (.two (.one (.loop [44, 45, 46, 47, 48, 49, 50, 51, 52, 53, 54, 55, 5] [5] (.two (.two (.jb [44, 45, 46, 47, 48, 49, 50, 51, 52, 53] 53 .leaf) (.two .leaf .leaf)) (.one .leaf)))) (.two .leaf (.join [59, 60, 61, 7, 8, 62, 63, 64, 65, 66, 67, 68, 69, 70, 71, 72, 2, 73, 74, 75, 76, 77, 78, 79, 80, 81, 82, 4, 83, 5, 85, 86, 84, 87, 88, 89, 9, 90, 91, 92, 93, 94, 10, 95, 96, 97, 98, 99, 100, 101, 102, 103, 104, 105, 106, 107, 108, 109, 111, 112, 113, 114, 115, 116, 117, 118, 119, 120, 121, 122, 123, 124, 125, 126, 110, 127, 128, 129, 130, 131, 132, 133, 135, 136, 137, 138, 139, 140, 141, 142, 143, 144, 145, 146, 147, 148, 149, 150, 151, 152, 153, 154, 155, 156, 157, 158, 159, 160, 161, 162, 163, 164, 165, 166, 167, 168, 169, 170, 171, 172, 173, 174, 175, 176, 134, 177, 178, 179, 180, 181, 182, 183, 184, 185, 186, 187, 188, 22, 23] [4, 5] (.two (.two .leaf (.two .leaf (.two (.two .leaf (.join [8, 67, 68, 69, 70, 71, 72, 2] [8] (.two .leaf (.two .leaf (.two (.two .leaf .leaf) .leaf))))) (.two .leaf .leaf)))) (.two .leaf (.join [87, 88, 89, 9, 90, 91, 92, 93, 94, 10, 95, 96, 97, 98, 2, 99, 100, 101, 102, 103, 104, 105, 106, 107, 108, 4, 109, 5, 111, 112, 113, 114, 115, 116, 117, 118, 119, 120, 121, 122, 123, 124, 125, 126, 110, 127, 128, 129, 130, 131, 132, 133, 135, 136, 137, 138, 139, 140, 141, 142, 143, 144, 145, 146, 147, 148, 149, 150, 151, 152, 153, 154, 155, 156, 157, 158, 159, 160, 161, 162, 163, 164, 165, 166, 167, 168, 169, 170, 171, 172, 173, 174, 175, 176, 134, 177, 178, 179, 180, 181, 182, 183, 184, 185, 186, 187, 188, 22, 23] [4, 5] (.two (.two .leaf (.two .leaf (.two (.two .leaf (.two (.two .leaf .leaf) .leaf)) (.two .leaf .leaf)))) (.two (.join [111, 112, 113, 114, 115, 116, 117, 118, 119, 120, 121, 122, 123, 124, 125, 126, 110] [110] .leaf) (.join [127, 128, 129, 130, 131, 4, 132, 133, 5, 135, 136, 137, 138, 139, 140, 141, 142, 143, 144, 145, 146, 147, 148, 149, 150, 151, 152, 153, 154, 155, 156, 157, 158, 159, 160, 161, 162, 163, 164, 165, 166, 167, 168, 169, 170, 171, 172, 173, 174, 175, 176, 134, 177, 178, 179, 180, 181, 182, 183, 184, 185, 186, 187, 188, 22, 23, 2] [4, 5] (.two (.two .leaf .leaf) (.two (.join [135, 136, 137, 138, 139, 140, 141, 142, 143, 144, 145, 146, 147, 148, 149, 150, 151, 152, 153, 154, 155, 156, 157, 158, 159, 160, 161, 162, 163, 164, 165, 166, 167, 168, 169, 170, 171, 172, 173, 174, 175, 176, 134] [134] .leaf) (.two (.two .leaf .leaf) (.two .leaf .leaf)))))))))))))))))))))))))) (.two .leaf .leaf))))))
theorem C_pipewrightref_Scan (ω : Amb) (src_p : Value) (h : Hp) (R : Value → Hp → Prop) (X : List PanicEntry → Hp → Prop) (hk : W_pipewrightref_Scan ω src_p h R X) : CallX Tryd.prog ω 8 [src_p] h R X :=
 callX_of (an := A_pipewrightref_Scan) Tryd.func8 ((show fnX Tryd.prog ω A_pipewrightref_Scan Tryd.f8 [src_p] h R X = W_pipewrightref_Scan ω src_p h R X by kernel_rfl) ▸ hk)

/-- pipewright/pipewrightref.SameTokens -/
abbrev n_pipewrightref_SameTokens : Nat := 9
def W_pipewrightref_SameTokens (ω : Amb) (a_p b_p : Value) (h : Hp) (R : Value → Hp → Prop) (X : List PanicEntry → Hp → Prop) : Prop :=
 asSl a_p fun a0 l1 c2 => asSl b_p fun a3 l4 c5 => cond ((l1 : Int) != ((l4 : Int) : Int))
 (R (.bool false) h)
 (∃ (I6 : Value → Hp → Prop) (μ7 : Value → Hp → Nat), I6 (.int .i64 0) h ∧ ∀ i_8 (d9 : Nat → Value) (h10 : Hp), I6 i_8 h10 →
 asSl a_p fun a11 l12 c13 => asK .i64 i_8 fun n14 => cond (decide ((n14 : Int) < (l12 : Int)))
 (asSl1 a_p fun a15 l16 c17 => asI i_8 fun n18 => 0 ≤ (n18 : Int) ∧ n18 < (l16 : Int) ∧ ∃ C19, cellsH h10 (Addr.add a15 (Int.toNat n18 * 4)) 4 C19 ∧
 asSl1 b_p fun a20 l21 c22 => asI i_8 fun n23 => 0 ≤ (n23 : Int) ∧ n23 < (l21 : Int) ∧ ∃ C24, cellsH h10 (Addr.add a20 (Int.toNat n23 * 4)) 4 C24 ∧
 asO C19.toArray[0]? fun v25 => asO C24.toArray[0]? fun v26 => asK .i64 v25 fun n27 => asK .i64 v26 fun n28 => asO C19.toArray[1]? fun v29 => asO C24.toArray[1]? fun v30 => asK .i64 v29 fun n31 => asK .i64 v30 fun n32 => asO C19.toArray[2]? fun v33 => asO C24.toArray[2]? fun v34 => asS v33 fun s35 => asS v34 fun s36 => asO C19.toArray[3]? fun v37 => asO C24.toArray[3]? fun v38 => asK .i64 v37 fun n39 => asK .i64 v38 fun n40 => cond (!((n27 == (n28 : Int)) && ((n31 == (n32 : Int)) && ((ByteArray.toList s35 == ByteArray.toList s36) && ((n39 == (n40 : Int)) && true)))))
 (R (.bool false) h10)
 (asK .i64 i_8 fun n41 => I6 (.int .i64 (IntKind.wrap .i64 (n41 + 1))) h10 ∧ μ7 (.int .i64 (IntKind.wrap .i64 (n41 + 1))) h10 < μ7 i_8 h10))
 (R (.bool true) h10))
def A_pipewrightref_SameTokens : Ann :=
 (.two .leaf (.two (.two .leaf (.two (.two .leaf .leaf) .leaf)) (.two (.two .leaf (.one (.loop [11, 12, 13, 14, 17, 18, 19, 20, 21, 22, 23, 24, 25, 4, 15, 16, 5] [5] (.two (.two .leaf (.two .leaf .leaf)) (.two (.one (.two (.plan [0, 1, 2, 3, 4, 5, 6, 7, 8]) (.two (.two .leaf .leaf) .leaf))) .leaf))))) (.two .leaf .leaf))))
theorem C_pipewrightref_SameTokens (ω : Amb) (a_p b_p : Value) (h : Hp) (R : Value → Hp → Prop) (X : List PanicEntry → Hp → Prop) (hk : W_pipewrightref_SameTokens ω a_p b_p h R X) : CallX Tryd.prog ω 9 [a_p, b_p] h R X :=
 callX_of (an := A_pipewrightref_SameTokens) Tryd.func9 ((show fnX Tryd.prog ω A_pipewrightref_SameTokens Tryd.f9 [a_p, b_p] h R X = W_pipewrightref_SameTokens ω a_p b_p h R X by kernel_rfl) ▸ hk)

/-- pipewright/token.Word -/
abbrev n_token_Word : Nat := 10
def W_token_Word (ω : Amb) (s_p : Value) (h : Hp) (R : Value → Hp → Prop) (X : List PanicEntry → Hp → Prop) : Prop :=
 asS s_p fun s0 => ∃ J1 : Value → Hp → Prop,
 (cond (ByteArray.toList s0 == ByteArray.toList ⟨#[97, 98, 97, 110, 100, 111, 110]⟩)
 (J1 (.bool (ByteArray.toList s0 == ByteArray.toList ⟨#[97, 98, 97, 110, 100, 111, 110]⟩)) h)
 (asS s_p fun s5 => ∃ J6 : Value → Hp → Prop,
 (cond (ByteArray.toList s5 == ByteArray.toList ⟨#[99, 104, 97, 110]⟩)
 (J6 (.bool (ByteArray.toList s5 == ByteArray.toList ⟨#[99, 104, 97, 110]⟩)) h)
 (asS s_p fun s10 => ∃ J11 : Value → Hp → Prop,
 (cond (ByteArray.toList s10 == ByteArray.toList ⟨#[99, 108, 111, 110, 101]⟩)
 (J11 (.bool (ByteArray.toList s10 == ByteArray.toList ⟨#[99, 108, 111, 110, 101]⟩)) h)
 (asS s_p fun s15 => ∃ J16 : Value → Hp → Prop,
 (cond (ByteArray.toList s15 == ByteArray.toList ⟨#[99, 108, 111, 115, 101]⟩)
 (J16 (.bool (ByteArray.toList s15 == ByteArray.toList ⟨#[99, 108, 111, 115, 101]⟩)) h)
 (asS s_p fun s20 => ∃ J21 : Value → Hp → Prop,
 (cond (ByteArray.toList s20 == ByteArray.toList ⟨#[100, 114, 97, 105, 110]⟩)
 (J21 (.bool (ByteArray.toList s20 == ByteArray.toList ⟨#[100, 114, 97, 105, 110]⟩)) h)
 (asS s_p fun s25 => ∃ J26 : Value → Hp → Prop,
 (cond (ByteArray.toList s25 == ByteArray.toList ⟨#[101, 108, 115, 101]⟩)
 (J26 (.bool (ByteArray.toList s25 == ByteArray.toList ⟨#[101, 108, 115, 101]⟩)) h)
 (asS s_p fun s30 => ∃ J31 : Value → Hp → Prop,
 (cond (ByteArray.toList s30 == ByteArray.toList ⟨#[101, 109, 105, 116]⟩)
 (J31 (.bool (ByteArray.toList s30 == ByteArray.toList ⟨#[101, 109, 105, 116]⟩)) h)
 (asS s_p fun s35 => ∃ J36 : Value → Hp → Prop,
 (cond (ByteArray.toList s35 == ByteArray.toList ⟨#[102, 111, 114]⟩)
 (J36 (.bool (ByteArray.toList s35 == ByteArray.toList ⟨#[102, 111, 114]⟩)) h)
 (asS s_p fun s40 => ∃ J41 : Value → Hp → Prop,
 (cond (ByteArray.toList s40 == ByteArray.toList ⟨#[102, 114, 111, 109]⟩)
 (J41 (.bool (ByteArray.toList s40 == ByteArray.toList ⟨#[102, 114, 111, 109]⟩)) h)
 (asS s_p fun s45 => ∃ J46 : Value → Hp → Prop,
 (cond (ByteArray.toList s45 == ByteArray.toList ⟨#[105, 102]⟩)
 (J46 (.bool (ByteArray.toList s45 == ByteArray.toList ⟨#[105, 102]⟩)) h)
 (asS s_p fun s50 => ∃ J51 : Value → Hp → Prop,
 (cond (ByteArray.toList s50 == ByteArray.toList ⟨#[105, 110, 116]⟩)
 (J51 (.bool (ByteArray.toList s50 == ByteArray.toList ⟨#[105, 110, 116]⟩)) h)
 (asS s_p fun s55 => ∃ J56 : Value → Hp → Prop,
 (cond (ByteArray.toList s55 == ByteArray.toList ⟨#[108, 101, 116]⟩)
 (J56 (.bool (ByteArray.toList s55 == ByteArray.toList ⟨#[108, 101, 116]⟩)) h)
 (asS s_p fun s60 => ∃ J61 : Value → Hp → Prop,
 (cond (ByteArray.toList s60 == ByteArray.toList ⟨#[114, 101, 99, 118]⟩)
 (J61 (.bool (ByteArray.toList s60 == ByteArray.toList ⟨#[114, 101, 99, 118]⟩)) h)
 (asS s_p fun s65 => ∃ J66 : Value → Hp → Prop,
 (cond (ByteArray.toList s65 == ByteArray.toList ⟨#[114, 101, 112, 101, 97, 116]⟩)
 (J66 (.bool (ByteArray.toList s65 == ByteArray.toList ⟨#[114, 101, 112, 101, 97, 116]⟩)) h)
 (asS s_p fun s70 => ∃ J71 : Value → Hp → Prop,
 (cond (ByteArray.toList s70 == ByteArray.toList ⟨#[115, 101, 110, 100]⟩)
 (J71 (.bool (ByteArray.toList s70 == ByteArray.toList ⟨#[115, 101, 110, 100]⟩)) h)
 (asS s_p fun s75 => ∃ J76 : Value → Hp → Prop,
 (cond (ByteArray.toList s75 == ByteArray.toList ⟨#[115, 101, 116]⟩)
 (J76 (.bool (ByteArray.toList s75 == ByteArray.toList ⟨#[115, 101, 116]⟩)) h)
 (asS s_p fun s80 => ∃ J81 : Value → Hp → Prop,
 (cond (ByteArray.toList s80 == ByteArray.toList ⟨#[115, 112, 97, 119, 110]⟩)
 (J81 (.bool (ByteArray.toList s80 == ByteArray.toList ⟨#[115, 112, 97, 119, 110]⟩)) h)
 (asS s_p fun s85 => ∃ J86 : Value → Hp → Prop,
 (cond (ByteArray.toList s85 == ByteArray.toList ⟨#[115, 116, 97, 103, 101]⟩)
 (J86 (.bool (ByteArray.toList s85 == ByteArray.toList ⟨#[115, 116, 97, 103, 101]⟩)) h)
 (asS s_p fun s90 => J86 (.bool (ByteArray.toList s90 == ByteArray.toList ⟨#[116, 97, 107, 101]⟩)) h)) ∧
 ∀ t4_87 (d88 : Nat → Value) (h89 : Hp), J86 t4_87 h89 →
 J81 t4_87 h89)) ∧
 ∀ t4_82 (d83 : Nat → Value) (h84 : Hp), J81 t4_82 h84 →
 J76 t4_82 h84)) ∧
 ∀ t4_77 (d78 : Nat → Value) (h79 : Hp), J76 t4_77 h79 →
 J71 t4_77 h79)) ∧
 ∀ t4_72 (d73 : Nat → Value) (h74 : Hp), J71 t4_72 h74 →
 J66 t4_72 h74)) ∧
 ∀ t4_67 (d68 : Nat → Value) (h69 : Hp), J66 t4_67 h69 →
 J61 t4_67 h69)) ∧
 ∀ t4_62 (d63 : Nat → Value) (h64 : Hp), J61 t4_62 h64 →
 J56 t4_62 h64)) ∧
 ∀ t4_57 (d58 : Nat → Value) (h59 : Hp), J56 t4_57 h59 →
 J51 t4_57 h59)) ∧
 ∀ t4_52 (d53 : Nat → Value) (h54 : Hp), J51 t4_52 h54 →
 J46 t4_52 h54)) ∧
 ∀ t4_47 (d48 : Nat → Value) (h49 : Hp), J46 t4_47 h49 →
 J41 t4_47 h49)) ∧
 ∀ t4_42 (d43 : Nat → Value) (h44 : Hp), J41 t4_42 h44 →
 J36 t4_42 h44)) ∧
 ∀ t4_37 (d38 : Nat → Value) (h39 : Hp), J36 t4_37 h39 →
 J31 t4_37 h39)) ∧
 ∀ t4_32 (d33 : Nat → Value) (h34 : Hp), J31 t4_32 h34 →
 J26 t4_32 h34)) ∧
 ∀ t4_27 (d28 : Nat → Value) (h29 : Hp), J26 t4_27 h29 →
 J21 t4_27 h29)) ∧
 ∀ t4_22 (d23 : Nat → Value) (h24 : Hp), J21 t4_22 h24 →
 J16 t4_22 h24)) ∧
 ∀ t4_17 (d18 : Nat → Value) (h19 : Hp), J16 t4_17 h19 →
 J11 t4_17 h19)) ∧
 ∀ t4_12 (d13 : Nat → Value) (h14 : Hp), J11 t4_12 h14 →
 J6 t4_12 h14)) ∧
 ∀ t4_7 (d8 : Nat → Value) (h9 : Hp), J6 t4_7 h9 →
 J1 t4_7 h9)) ∧
 ∀ t4_2 (d3 : Nat → Value) (h4 : Hp), J1 t4_2 h4 →
 asB t4_2 fun b91 => cond b91
 (R (.bool true) h4)
 (R (.bool false) h4)
def A_token_Word : Ann :=
 (.two .leaf (.two (.two .leaf (.one (.two (.two .leaf (.join [6, 4, 7, 8, 9, 10, 11, 12, 13, 14, 15, 16, 17, 18, 19, 20, 21, 22, 23] [4] (.two .leaf (.two .leaf (.join [7, 4, 8, 9, 10, 11, 12, 13, 14, 15, 16, 17, 18, 19, 20, 21, 22, 23] [4] (.two .leaf (.two .leaf (.join [8, 4, 9, 10, 11, 12, 13, 14, 15, 16, 17, 18, 19, 20, 21, 22, 23] [4] (.two .leaf (.two .leaf (.join [9, 4, 10, 11, 12, 13, 14, 15, 16, 17, 18, 19, 20, 21, 22, 23] [4] (.two .leaf (.two .leaf (.join [10, 4, 11, 12, 13, 14, 15, 16, 17, 18, 19, 20, 21, 22, 23] [4] (.two .leaf (.two .leaf (.join [11, 4, 12, 13, 14, 15, 16, 17, 18, 19, 20, 21, 22, 23] [4] (.two .leaf (.two .leaf (.join [12, 4, 13, 14, 15, 16, 17, 18, 19, 20, 21, 22, 23] [4] (.two .leaf (.two .leaf (.join [13, 4, 14, 15, 16, 17, 18, 19, 20, 21, 22, 23] [4] (.two .leaf (.two .leaf (.join [14, 4, 15, 16, 17, 18, 19, 20, 21, 22, 23] [4] (.two .leaf (.two .leaf (.join [15, 4, 16, 17, 18, 19, 20, 21, 22, 23] [4] (.two .leaf (.two .leaf (.join [16, 4, 17, 18, 19, 20, 21, 22, 23] [4] (.two .leaf (.two .leaf (.join [17, 4, 18, 19, 20, 21, 22, 23] [4] (.two .leaf (.two .leaf (.join [18, 4, 19, 20, 21, 22, 23] [4] (.two .leaf (.two .leaf (.join [19, 4, 20, 21, 22, 23] [4] (.two .leaf (.two .leaf (.join [20, 4, 21, 22, 23] [4] (.two .leaf (.two .leaf (.join [21, 4, 22, 23] [4] (.two .leaf (.two .leaf (.join [22, 4, 23] [4] (.two .leaf (.two .leaf (.join [23, 4] [4] (.two .leaf .leaf)))))))))))))))))))))))))))))))))))))))))))))))))))))) (.two (.two .leaf .leaf) .leaf)))) (.two .leaf .leaf)))
theorem C_token_Word (ω : Amb) (s_p : Value) (h : Hp) (R : Value → Hp → Prop) (X : List PanicEntry → Hp → Prop) (hk : W_token_Word ω s_p h R X) : CallX Tryd.prog ω 10 [s_p] h R X :=
 callX_of (an := A_token_Word) Tryd.func10 ((show fnX Tryd.prog ω A_token_Word Tryd.f10 [s_p] h R X = W_token_Word ω s_p h R X by kernel_rfl) ▸ hk)

/-- pipewright/pipewrightref.IsWord -/
abbrev n_pipewrightref_IsWord : Nat := 11
def W_pipewrightref_IsWord (ω : Amb) (s_p : Value) (h : Hp) (R : Value → Hp → Prop) (X : List PanicEntry → Hp → Prop) : Prop :=
 ∃ (I0 : Value → Hp → Prop) (μ1 : Value → Hp → Nat), I0 (.int .i64 0) (Array.push h (.cells (List.toArray [(.string ⟨#[97, 98, 97, 110, 100, 111, 110]⟩), (.string ⟨#[99, 104, 97, 110]⟩), (.string ⟨#[99, 108, 111, 110, 101]⟩), (.string ⟨#[99, 108, 111, 115, 101]⟩), (.string ⟨#[100, 114, 97, 105, 110]⟩), (.string ⟨#[101, 108, 115, 101]⟩), (.string ⟨#[101, 109, 105, 116]⟩), (.string ⟨#[102, 111, 114]⟩), (.string ⟨#[102, 114, 111, 109]⟩), (.string ⟨#[105, 102]⟩), (.string ⟨#[105, 110, 116]⟩), (.string ⟨#[108, 101, 116]⟩), (.string ⟨#[114, 101, 99, 118]⟩), (.string ⟨#[114, 101, 112, 101, 97, 116]⟩), (.string ⟨#[115, 101, 110, 100]⟩), (.string ⟨#[115, 101, 116]⟩), (.string ⟨#[115, 112, 97, 119, 110]⟩), (.string ⟨#[115, 116, 97, 103, 101]⟩), (.string ⟨#[116, 97, 107, 101]⟩)]) 9 (0, 0))) ∧ ∀ i_2 (d3 : Nat → Value) (h4 : Hp), I0 i_2 h4 →
 asK .i64 i_2 fun n5 => cond (decide ((n5 : Int) < (19 : Int)))
 (asI i_2 fun n6 => 0 ≤ (n6 : Int) ∧ n6 < (19 : Int) ∧ ∃ v7, cellH h4 (Addr.add ⟨Array.size h, 0, none⟩ (Int.toNat n6 * 1)) = some v7 ∧
 asS v7 fun s8 => asS s_p fun s9 => cond (ByteArray.toList s8 == ByteArray.toList s9)
 (R (.bool true) h4)
 (asK .i64 i_2 fun n10 => I0 (.int .i64 (IntKind.wrap .i64 (n10 + 1))) h4 ∧ μ1 (.int .i64 (IntKind.wrap .i64 (n10 + 1))) h4 < μ1 i_2 h4))
 (R (.bool false) h4)
def A_pipewrightref_IsWord : Ann :=
 (.two .leaf (.two .leaf (.two (.two .leaf (.one (.loop [6, 7, 8, 9, 12, 13, 14, 15, 16, 17, 2, 10, 11, 4] [4] (.two (.two .leaf (.two .leaf .leaf)) (.two (.one (.two .leaf (.two (.two .leaf .leaf) .leaf))) .leaf))))) (.two .leaf .leaf))))
theorem C_pipewrightref_IsWord (ω : Amb) (s_p : Value) (h : Hp) (R : Value → Hp → Prop) (X : List PanicEntry → Hp → Prop) (hk : W_pipewrightref_IsWord ω s_p h R X) : CallX Tryd.prog ω 11 [s_p] h R X :=
 callX_of (an := A_pipewrightref_IsWord) Tryd.func11 ((show fnX Tryd.prog ω A_pipewrightref_IsWord Tryd.f11 [s_p] h R X = W_pipewrightref_IsWord ω s_p h R X by kernel_rfl) ▸ hk)

/-- pipewright/token.Name -/
abbrev n_token_Name : Nat := 12
def W_token_Name (ω : Amb) (s_p : Value) (h : Hp) (R : Value → Hp → Prop) (X : List PanicEntry → Hp → Prop) : Prop :=
 ∃ J0 : Value → Hp → Prop,
 (asS s_p fun s4 => cond (ByteArray.toList s4 == ByteArray.toList ⟨#[]⟩)
 (J0 (.bool true) h)
 (asS s_p fun s5 => cond (decide (((ByteArray.size s5 : Int) : Int) > 12))
 (J0 (.bool true) h)
 (asS s_p fun s6 => 0 ≤ (0 : Int) ∧ 0 < (ByteArray.size s6 : Int) ∧ CallX Tryd.prog ω 21 [(.int .u8 (byteAt s6 0))] h (fun r7 h8 =>
 asB r7 fun b9 => cond (!b9)
 (J0 (.bool true) h8)
 (CallX Tryd.prog ω 10 [s_p] h8 (fun r10 h11 =>
 J0 r10 h11) X)) X))) ∧
 ∀ t20_1 (d2 : Nat → Value) (h3 : Hp), J0 t20_1 h3 →
 asB t20_1 fun b12 => cond b12
 (R (.bool false) h3)
 (asS s_p fun s13 => ∃ (I14 : Value → Hp → Prop) (μ15 : Value → Hp → Nat), I14 (.int .i64 0) h3 ∧ ∀ t23_16 (d17 : Nat → Value) (h18 : Hp), I14 t23_16 h18 →
 asK .i64 t23_16 fun n19 => cond (decide ((n19 : Int) < (ByteArray.size s13 : Int)))
 (∃ J20 : Value → Hp → Prop,
 (asS s_p fun s24 => asI t23_16 fun n25 => 0 ≤ (n25 : Int) ∧ n25 < (ByteArray.size s24 : Int) ∧ CallX Tryd.prog ω 21 [(.int .u8 (byteAt s24 n25))] h18 (fun r26 h27 =>
 asB r26 fun b28 => cond (!b28)
 (asS s_p fun s29 => asI t23_16 fun n30 => 0 ≤ (n30 : Int) ∧ n30 < (ByteArray.size s29 : Int) ∧ CallX Tryd.prog ω 22 [(.int .u8 (byteAt s29 n30))] h27 (fun r31 h32 =>
 asB r31 fun b33 => J20 (.bool (!b33)) h32) X)
 (J20 (.bool false) h27)) X) ∧
 ∀ t37_21 (d22 : Nat → Value) (h23 : Hp), J20 t37_21 h23 →
 asB t37_21 fun b34 => cond b34
 (R (.bool false) h23)
 (asK .i64 t23_16 fun n35 => I14 (.int .i64 (IntKind.wrap .i64 (n35 + 1))) h23 ∧ μ15 (.int .i64 (IntKind.wrap .i64 (n35 + 1))) h23 < μ15 t23_16 h18))
 (R (.bool true) h18))
def A_token_Name : Ann :=
 (.two .leaf (.two (.two (.join [4, 5, 6, 7, 8, 9, 10, 11, 12, 13, 14, 15, 16, 17, 18, 19, 20] [20] .leaf) (.two (.two .leaf .leaf) .leaf)) (.two (.two .leaf (.one (.loop [24, 25, 3, 26, 27, 28, 29, 30, 31, 32, 33, 34, 35, 36, 37, 2, 38, 23] [23] (.two .leaf (.two (.two .leaf .leaf) (.two (.one (.two .leaf (.two (.join [26, 27, 28, 29, 30, 31, 32, 33, 34, 35, 36, 37] [37] .leaf) (.two (.two .leaf .leaf) .leaf)))) .leaf)))))) (.two .leaf .leaf))))
theorem C_token_Name (ω : Amb) (s_p : Value) (h : Hp) (R : Value → Hp → Prop) (X : List PanicEntry → Hp → Prop) (hk : W_token_Name ω s_p h R X) : CallX Tryd.prog ω 12 [s_p] h R X :=
 callX_of (an := A_token_Name) Tryd.func12 ((show fnX Tryd.prog ω A_token_Name Tryd.f12 [s_p] h R X = W_token_Name ω s_p h R X by kernel_rfl) ▸ hk)

/-- pipewright/pipewrightref.IsName -/
abbrev n_pipewrightref_IsName : Nat := 13
def W_pipewrightref_IsName (ω : Amb) (s_p : Value) (h : Hp) (R : Value → Hp → Prop) (X : List PanicEntry → Hp → Prop) : Prop :=
 ∃ J0 : Value → Hp → Prop,
 (asS s_p fun s4 => cond (decide (((ByteArray.size s4 : Int) : Int) < 1))
 (J0 (.bool true) h)
 (asS s_p fun s5 => cond (decide (((ByteArray.size s5 : Int) : Int) > 12))
 (J0 (.bool true) h)
 (asS s_p fun s6 => 0 ≤ (0 : Int) ∧ 0 < (ByteArray.size s6 : Int) ∧ CallX Tryd.prog ω 17 [(.int .u8 (byteAt s6 0))] h (fun r7 h8 =>
 asB r7 fun b9 => cond (!b9)
 (J0 (.bool true) h8)
 (CallX Tryd.prog ω 11 [s_p] h8 (fun r10 h11 =>
 J0 r10 h11) X)) X))) ∧
 ∀ t21_1 (d2 : Nat → Value) (h3 : Hp), J0 t21_1 h3 →
 asB t21_1 fun b12 => cond b12
 (R (.bool false) h3)
 (∃ (I13 : Value → Hp → Prop) (μ14 : Value → Hp → Nat), I13 (.int .i64 0) h3 ∧ ∀ i_15 (d16 : Nat → Value) (h17 : Hp), I13 i_15 h17 →
 asS s_p fun s18 => asK .i64 i_15 fun n19 => cond (decide ((n19 : Int) < (ByteArray.size s18 : Int)))
 (∃ J20 : Value → Hp → Prop,
 (asS s_p fun s24 => asI i_15 fun n25 => 0 ≤ (n25 : Int) ∧ n25 < (ByteArray.size s24 : Int) ∧ CallX Tryd.prog ω 17 [(.int .u8 (byteAt s24 n25))] h17 (fun r26 h27 =>
 asB r26 fun b28 => cond (!b28)
 (asS s_p fun s29 => asI i_15 fun n30 => 0 ≤ (n30 : Int) ∧ n30 < (ByteArray.size s29 : Int) ∧ CallX Tryd.prog ω 19 [(.int .u8 (byteAt s29 n30))] h27 (fun r31 h32 =>
 asB r31 fun b33 => J20 (.bool (!b33)) h32) X)
 (J20 (.bool false) h27)) X) ∧
 ∀ t39_21 (d22 : Nat → Value) (h23 : Hp), J20 t39_21 h23 →
 asB t39_21 fun b34 => cond b34
 (R (.bool false) h23)
 (asK .i64 i_15 fun n35 => I13 (.int .i64 (IntKind.wrap .i64 (n35 + 1))) h23 ∧ μ14 (.int .i64 (IntKind.wrap .i64 (n35 + 1))) h23 < μ14 i_15 h17))
 (R (.bool true) h17))
def A_pipewrightref_IsName : Ann :=
 (.two .leaf (.two (.two (.join [4, 5, 6, 7, 8, 9, 10, 11, 12, 13, 14, 15, 16, 17, 18, 19, 20, 21] [21] .leaf) (.two (.two .leaf .leaf) .leaf)) (.two (.two .leaf (.one (.loop [22, 23, 24, 25, 28, 29, 30, 31, 32, 33, 34, 35, 36, 37, 38, 39, 2, 26, 27, 3] [3] (.two (.two .leaf (.two .leaf .leaf)) (.two (.one (.two (.join [28, 29, 30, 31, 32, 33, 34, 35, 36, 37, 38, 39] [39] .leaf) (.two (.two .leaf .leaf) .leaf))) .leaf))))) (.two .leaf .leaf))))
theorem C_pipewrightref_IsName (ω : Amb) (s_p : Value) (h : Hp) (R : Value → Hp → Prop) (X : List PanicEntry → Hp → Prop) (hk : W_pipewrightref_IsName ω s_p h R X) : CallX Tryd.prog ω 13 [s_p] h R X :=
 callX_of (an := A_pipewrightref_IsName) Tryd.func13 ((show fnX Tryd.prog ω A_pipewrightref_IsName Tryd.f13 [s_p] h R X = W_pipewrightref_IsName ω s_p h R X by kernel_rfl) ▸ hk)

/-- (*pipewright/token.scanner).blank -/
abbrev n_p_token_scanner_blank : Nat := 14
def W_p_token_scanner_blank (ω : Amb) (s_p : Value) (h : Hp) (R : Value → Hp → Prop) (X : List PanicEntry → Hp → Prop) : Prop :=
 ∃ (I0 : Value → Hp → Prop) (μ1 : Value → Hp → Nat), I0 (.bool false) h ∧ ∀ remark_2 (d3 : Nat → Value) (h4 : Hp), I0 remark_2 h4 →
 nnK s_p (asP s_p fun p5 =>
 ∃ v6, cellH h4 (Addr.add p5 1) = some v6 ∧
 nnK s_p (asP s_p fun p7 =>
 ∃ v8, cellH h4 (Addr.add p7 0) = some v8 ∧
 asS v8 fun s9 => asK .i64 v6 fun n10 => cond (decide ((n10 : Int) < (ByteArray.size s9 : Int)))
 (nnK s_p (asP s_p fun p11 =>
 ∃ v12, cellH h4 (Addr.add p11 0) = some v12 ∧
 nnK s_p (asP s_p fun p13 =>
 ∃ v14, cellH h4 (Addr.add p13 1) = some v14 ∧
 asS v12 fun s15 => asI v14 fun n16 => 0 ≤ (n16 : Int) ∧ n16 < (ByteArray.size s15 : Int) ∧ ∃ J17 : Value → Hp → Prop,
 (∃ J21 : Value → Hp → Prop,
 (cond ((byteAt s15 n16) == (10 : Int))
 (J21 (.bool false) h4)
 (∃ J25 : Value → Hp → Prop,
 (asB remark_2 fun b29 => cond b29
 (J25 remark_2 h4)
 (∃ J30 : Value → Hp → Prop,
 (cond ((byteAt s15 n16) == (32 : Int))
 (J30 (.bool ((byteAt s15 n16) == (32 : Int))) h4)
 (∃ J34 : Value → Hp → Prop,
 (cond ((byteAt s15 n16) == (9 : Int))
 (J34 (.bool ((byteAt s15 n16) == (9 : Int))) h4)
 (J34 (.bool ((byteAt s15 n16) == (13 : Int))) h4)) ∧
 ∀ t26_35 (d36 : Nat → Value) (h37 : Hp), J34 t26_35 h37 →
 J30 t26_35 h37)) ∧
 ∀ t26_31 (d32 : Nat → Value) (h33 : Hp), J30 t26_31 h33 →
 J25 t26_31 h33)) ∧
 ∀ t26_26 (d27 : Nat → Value) (h28 : Hp), J25 t26_26 h28 →
 ∃ J38 : Value → Hp → Prop,
 (asB t26_26 fun b42 => cond b42
 (J38 remark_2 h28)
 (cond ((byteAt s15 n16) == (35 : Int))
 (J38 (.bool true) h28)
 (R (.tuple #[]) h28))) ∧
 ∀ remark_39 (d40 : Nat → Value) (h41 : Hp), J38 remark_39 h41 →
 J21 remark_39 h41)) ∧
 ∀ remark_22 (d23 : Nat → Value) (h24 : Hp), J21 remark_22 h24 →
 J17 remark_22 h24) ∧
 ∀ remark_18 (d19 : Nat → Value) (h20 : Hp), J17 remark_18 h20 →
 nnK s_p (asP s_p fun p43 =>
 ∃ v44, cellH h20 (Addr.add p43 1) = some v44 ∧
 asK .i64 v44 fun n45 => nnK s_p (asP s_p fun p46 =>
 storeK1 h20 (Addr.add p46 1) (.int .i64 (IntKind.wrap .i64 (n45 + 1))) fun h47 =>
 I0 remark_18 h47 ∧ μ1 remark_18 h47 < μ1 remark_2 h4)))))
 (R (.tuple #[]) h4)))
def A_p_token_scanner_blank : Ann :=
 (.two .leaf (.one (.loop [4, 5, 6, 7, 8, 9, 10, 11, 12, 13, 14, 15, 16, 17, 18, 19, 20, 21, 22, 3, 24, 25, 23, 2, 27, 26, 28, 29, 30, 31, 32, 33, 35, 36, 34, 37, 38, 39, 40, 41, 42, 43] [2] (.two (.two (.plan [0, 1, 2, 3, 4, 5, 6, 7, 8, 9]) (.two .leaf .leaf)) (.one (.two (.two (.plan [0, 1, 2, 3, 4, 5, 6, 7, 8, 9]) (.join [24, 25, 23, 2, 27, 26, 28, 29, 30, 31, 32, 33, 35, 36, 34] [2] (.one (.two .leaf (.join [2, 27, 26, 28, 29, 30, 31, 32, 33, 35, 36, 34] [2] (.two .leaf (.two (.two .leaf (.join [28, 29, 26, 30, 31, 32, 33] [26] (.two .leaf (.two .leaf (.join [30, 31, 26, 32, 33] [26] (.two .leaf (.two .leaf (.join [32, 33, 26] [26] (.two .leaf .leaf))))))))) (.join [35, 36, 34, 2] [2] (.two .leaf (.two .leaf (.two .leaf .leaf))))))))))) .leaf))))))
theorem C_p_token_scanner_blank (ω : Amb) (s_p : Value) (h : Hp) (R : Value → Hp → Prop) (X : List PanicEntry → Hp → Prop) (hk : W_p_token_scanner_blank ω s_p h R X) : CallX Tryd.prog ω 14 [s_p] h R X :=
 callX_of (an := A_p_token_scanner_blank) Tryd.func14 ((show fnX Tryd.prog ω A_p_token_scanner_blank Tryd.f14 [s_p] h R X = W_p_token_scanner_blank ω s_p h R X by kernel_rfl) ▸ hk)

/-- (*pipewright/token.scanner).one -/
abbrev n_p_token_scanner_one : Nat := 15
def W_p_token_scanner_one (ω : Amb) (s_p : Value) (h : Hp) (R : Value → Hp → Prop) (X : List PanicEntry → Hp → Prop) : Prop :=
 nnK s_p (asP s_p fun p0 =>
 ∃ v1, cellH h (Addr.add p0 1) = some v1 ∧
 oneK v1 (4 = 4 ∧ (∀ u ∈ [(.int .i64 0), v1, (.string ⟨#[]⟩), (.int .i64 0)], one u) ∧ storeK (Array.push h (.cells #[(.int .i64 0), (.int .i64 0), (.string ⟨#[]⟩), (.int .i64 0)] 31 (0, 0))) ⟨Array.size h, 0, none⟩ [(.int .i64 0), v1, (.string ⟨#[]⟩), (.int .i64 0)] fun h2 =>
 nnK s_p (asP s_p fun p3 =>
 ∃ v4, cellH h2 (Addr.add p3 0) = some v4 ∧
 nnK s_p (asP s_p fun p5 =>
 ∃ v6, cellH h2 (Addr.add p5 1) = some v6 ∧
 asS v4 fun s7 => asI v6 fun n8 => 0 ≤ (n8 : Int) ∧ n8 < (ByteArray.size s7 : Int) ∧ ∃ J9 : Hp → Prop,
 (CallX Tryd.prog ω 21 [(.int .u8 (byteAt s7 n8))] h2 (fun r12 h13 =>
 ∃ J14 : Hp → Prop,
 (asB r12 fun b17 => cond b17
 (CallX Tryd.prog ω 23 [s_p] h13 (fun r18 h19 =>
 oneK r18 (storeK1 h19 (Addr.add ⟨Array.size h, 0, none⟩ 2) r18 fun h20 =>
 storeK1 h20 (Addr.add ⟨Array.size h, 0, none⟩ 0) (.int .i64 2) fun h21 =>
 ∃ v22, cellH h21 (Addr.add ⟨Array.size h, 0, none⟩ 2) = some v22 ∧
 CallX Tryd.prog ω 10 [v22] h21 (fun r23 h24 =>
 ∃ J25 : Hp → Prop,
 (asB r23 fun b28 => cond b28
 (storeK1 h24 (Addr.add ⟨Array.size h, 0, none⟩ 0) (.int .i64 1) fun h29 =>
 J25 h29)
 (∃ v30, cellH h24 (Addr.add ⟨Array.size h, 0, none⟩ 2) = some v30 ∧
 asS v30 fun s31 => cond (decide (((ByteArray.size s31 : Int) : Int) > 12))
 (R (.int .i64 4) h24)
 (J25 h24))) ∧
 ∀  (d26 : Nat → Value) (h27 : Hp), J25 h27 →
 J14 h27) X)) X)
 (CallX Tryd.prog ω 22 [(.int .u8 (byteAt s7 n8))] h13 (fun r32 h33 =>
 ∃ J34 : Hp → Prop,
 (asB r32 fun b37 => cond b37
 (CallX Tryd.prog ω 23 [s_p] h33 (fun r38 h39 =>
 oneK r38 (storeK1 h39 (Addr.add ⟨Array.size h, 0, none⟩ 2) r38 fun h40 =>
 ∃ v41, cellH h40 (Addr.add ⟨Array.size h, 0, none⟩ 2) = some v41 ∧
 CallX Tryd.prog ω 24 [v41] h40 (fun r42 h43 =>
 asT r42 fun T44 => asO T44[0]? fun v45 => asT r42 fun T46 => asO T46[1]? fun v47 => asB v47 fun b48 => cond (!b48)
 (R (.int .i64 3) h43)
 (storeK1 h43 (Addr.add ⟨Array.size h, 0, none⟩ 0) (.int .i64 3) fun h49 =>
 oneK v45 (storeK1 h49 (Addr.add ⟨Array.size h, 0, none⟩ 3) v45 fun h50 =>
 J34 h50))) X)) X)
 (CallX Tryd.prog ω 25 [s_p] h33 (fun r51 h52 =>
 storeK1 h52 (Addr.add ⟨Array.size h, 0, none⟩ 0) (.int .i64 4) fun h53 =>
 oneK r51 (storeK1 h53 (Addr.add ⟨Array.size h, 0, none⟩ 2) r51 fun h54 =>
 ∃ v55, cellH h54 (Addr.add ⟨Array.size h, 0, none⟩ 2) = some v55 ∧
 asS v55 fun s56 => cond (ByteArray.toList s56 == ByteArray.toList ⟨#[]⟩)
 (R (.int .i64 2) h54)
 (nnK s_p (asP s_p fun p57 =>
 ∃ v58, cellH h54 (Addr.add p57 1) = some v58 ∧
 ∃ v59, cellH h54 (Addr.add ⟨Array.size h, 0, none⟩ 2) = some v59 ∧
 asS v59 fun s60 => asK .i64 v58 fun n61 => nnK s_p (asP s_p fun p62 =>
 storeK1 h54 (Addr.add p62 1) (.int .i64 (IntKind.wrap .i64 (n61 + (ByteArray.size s60 : Int)))) fun h63 =>
 J34 h63))))) X)) ∧
 ∀  (d35 : Nat → Value) (h36 : Hp), J34 h36 →
 J14 h36) X)) ∧
 ∀  (d15 : Nat → Value) (h16 : Hp), J14 h16 →
 J9 h16) X) ∧
 ∀  (d10 : Nat → Value) (h11 : Hp), J9 h11 →
 nnK s_p (asP s_p fun p64 =>
 ∃ v65, cellH h11 (Addr.add p64 2) = some v65 ∧
 ∃ C66, cellsH h11 ⟨Array.size h, 0, none⟩ 4 C66 ∧
 C66.toArray.size = 4 ∧ cellH (Array.push h11 (.cells (List.toArray (C66.toArray.toList ++ [])) 31 (0, 0))) (Addr.add p64 2) = some v65 ∧ appK Tryd.prog 23 (Array.push h11 (.cells (List.toArray (C66.toArray.toList ++ [])) 31 (0, 0))) v65 (.slice (some ⟨Array.size h11, 0, none⟩) 1 1) fun w67 h68 =>
 nnK s_p (asP s_p fun p69 =>
 oneK w67 (storeK1 h68 (Addr.add p69 2) w67 fun h70 =>
 R (.int .i64 0) h70)))))))
def A_p_token_scanner_one : Ann :=
 (.two .leaf (.two .leaf (.two (.two (.plan [0, 1, 2, 3, 4, 5, 6, 7, 8, 9]) (.join [39, 40, 38, 41, 42, 43, 44, 45, 46, 47, 48, 49, 50, 51, 52, 2, 54, 55, 53, 56, 57, 58, 60, 61, 62, 59, 63, 64, 5, 6, 65, 66, 67, 68, 69, 21, 22, 23, 24, 25, 26, 27, 28, 29, 30, 31, 32, 33, 34, 35, 36, 37] [] (.one (.two .leaf (.join [41, 42, 43, 44, 45, 46, 47, 48, 49, 50, 51, 52, 2, 54, 55, 53, 56, 57, 58, 60, 61, 62, 59, 63, 64, 5, 6, 65, 66, 67, 68, 69, 21, 22, 23, 24, 25, 26, 27, 28, 29, 30, 31, 32, 33, 34, 35, 36, 37] [] (.two (.two .leaf (.two .leaf (.two .leaf (.join [48, 49, 50, 51, 52, 2] [] (.two .leaf (.two .leaf (.two (.two .leaf .leaf) .leaf))))))) (.two .leaf (.join [56, 57, 58, 60, 61, 62, 59, 63, 64, 5, 6, 65, 66, 2, 67, 68, 69, 21, 22, 23, 24, 25, 26, 27, 28, 29, 30, 31, 32, 33, 34, 35, 36, 37] [] (.two (.two .leaf (.two .leaf (.two (.two .leaf (.two (.two .leaf .leaf) .leaf)) .leaf))) (.two .leaf (.two (.two .leaf (.two (.two .leaf .leaf) .leaf)) (.plan [0, 1, 2, 3, 4, 5, 6, 7, 8, 9, 10])))))))))))) (.two (.plan [0, 1, 2, 3, 4, 5, 6, 7, 8, 9, 10]) (.two .leaf .leaf)))))
theorem C_p_token_scanner_one (ω : Amb) (s_p : Value) (h : Hp) (R : Value → Hp → Prop) (X : List PanicEntry → Hp → Prop) (hk : W_p_token_scanner_one ω s_p h R X) : CallX Tryd.prog ω 15 [s_p] h R X :=
 callX_of (an := A_p_token_scanner_one) Tryd.func15 ((show fnX Tryd.prog ω A_p_token_scanner_one Tryd.f15 [s_p] h R X = W_p_token_scanner_one ω s_p h R X by kernel_rfl) ▸ hk)

/-- pipewright/pipewrightref.F -/
abbrev n_pipewrightref_F : Nat := 16
def W_pipewrightref_F (ω : Amb) (code_p at_p : Value) (h : Hp) (R : Value → Hp → Prop) (X : List PanicEntry → Hp → Prop) : Prop :=
 oneK code_p (oneK at_p (2 = 2 ∧ (∀ u ∈ [code_p, at_p], one u) ∧ storeK (Array.push h (.cells #[(.int .i64 0), (.int .i64 0)] 25 (0, 0))) ⟨Array.size h, 0, none⟩ [code_p, at_p] fun h0 =>
 ∃ C1, cellsH h0 ⟨Array.size h, 0, none⟩ 2 C1 ∧ R (.agg C1.toArray) h0))
def A_pipewrightref_F : Ann :=
 (.two .leaf (.two .leaf .leaf))
theorem C_pipewrightref_F (ω : Amb) (code_p at_p : Value) (h : Hp) (R : Value → Hp → Prop) (X : List PanicEntry → Hp → Prop) (hk : W_pipewrightref_F ω code_p at_p h R X) : CallX Tryd.prog ω 16 [code_p, at_p] h R X :=
 callX_of (an := A_pipewrightref_F) Tryd.func16 ((show fnX Tryd.prog ω A_pipewrightref_F Tryd.f16 [code_p, at_p] h R X = W_pipewrightref_F ω code_p at_p h R X by kernel_rfl) ▸ hk)

/-- pipewright/pipewrightref.small -/
abbrev n_pipewrightref_small : Nat := 17
def W_pipewrightref_small (ω : Amb) (c_p : Value) (h : Hp) (R : Value → Hp → Prop) (X : List PanicEntry → Hp → Prop) : Prop :=
 ∃ J0 : Value → Hp → Prop,
 (asK .u8 c_p fun n4 => cond (decide ((n4 : Int) ≥ 97))
 (asK .u8 c_p fun n5 => J0 (.bool (decide ((n5 : Int) ≤ 122))) h)
 (J0 (.bool false) h)) ∧
 ∀ t2_1 (d2 : Nat → Value) (h3 : Hp), J0 t2_1 h3 →
 R t2_1 h3
def A_pipewrightref_small : Ann :=
 (.two .leaf (.two (.join [3, 4, 5, 6, 7, 8, 2] [2] .leaf) .leaf))
theorem C_pipewrightref_small (ω : Amb) (c_p : Value) (h : Hp) (R : Value → Hp → Prop) (X : List PanicEntry → Hp → Prop) (hk : W_pipewrightref_small ω c_p h R X) : CallX Tryd.prog ω 17 [c_p] h R X :=
 callX_of (an := A_pipewrightref_small) Tryd.func17 ((show fnX Tryd.prog ω A_pipewrightref_small Tryd.f17 [c_p] h R X = W_pipewrightref_small ω c_p h R X by kernel_rfl) ▸ hk)

/-- pipewright/pipewrightref.long -/
abbrev n_pipewrightref_long : Nat := 18
def W_pipewrightref_long (ω : Amb) (src_p at_p : Value) (h : Hp) (R : Value → Hp → Prop) (X : List PanicEntry → Hp → Prop) : Prop :=
 ∃ (I0 : Value → Hp → Prop) (μ1 : Value → Hp → Nat), I0 at_p h ∧ ∀ at_2 (d3 : Nat → Value) (h4 : Hp), I0 at_2 h4 →
 ∃ J5 : Value → Hp → Prop,
 (asS src_p fun s9 => asK .i64 at_2 fun n10 => cond (decide ((n10 : Int) < (ByteArray.size s9 : Int)))
 (asS src_p fun s11 => asI at_2 fun n12 => 0 ≤ (n12 : Int) ∧ n12 < (ByteArray.size s11 : Int) ∧ CallX Tryd.prog ω 17 [(.int .u8 (byteAt s11 n12))] h4 (fun r13 h14 =>
 asB r13 fun b15 => cond b15
 (J5 (.bool true) h14)
 (asS src_p fun s16 => asI at_2 fun n17 => 0 ≤ (n17 : Int) ∧ n17 < (ByteArray.size s16 : Int) ∧ CallX Tryd.prog ω 19 [(.int .u8 (byteAt s16 n17))] h14 (fun r18 h19 =>
 J5 r18 h19) X)) X)
 (J5 (.bool false) h4)) ∧
 ∀ t20_6 (d7 : Nat → Value) (h8 : Hp), J5 t20_6 h8 →
 asB t20_6 fun b20 => cond b20
 (asK .i64 at_2 fun n21 => I0 (.int .i64 (IntKind.wrap .i64 (n21 + 1))) h8 ∧ μ1 (.int .i64 (IntKind.wrap .i64 (n21 + 1))) h8 < μ1 at_2 h4)
 (R at_2 h8)
def A_pipewrightref_long : Ann :=
 (.two .leaf (.two (.one (.loop [5, 6, 7, 8, 9, 10, 11, 12, 13, 14, 15, 16, 17, 18, 19, 20, 21, 22, 1] [1] (.two (.two (.join [5, 6, 7, 8, 9, 10, 11, 12, 13, 14, 15, 16, 17, 18, 19, 20] [20] .leaf) (.two .leaf .leaf)) (.one .leaf)))) (.two .leaf .leaf)))
theorem C_pipewrightref_long (ω : Amb) (src_p at_p : Value) (h : Hp) (R : Value → Hp → Prop) (X : List PanicEntry → Hp → Prop) (hk : W_pipewrightref_long ω src_p at_p h R X) : CallX Tryd.prog ω 18 [src_p, at_p] h R X :=
 callX_of (an := A_pipewrightref_long) Tryd.func18 ((show fnX Tryd.prog ω A_pipewrightref_long Tryd.f18 [src_p, at_p] h R X = W_pipewrightref_long ω src_p at_p h R X by kernel_rfl) ▸ hk)

/-- pipewright/pipewrightref.digit -/
abbrev n_pipewrightref_digit : Nat := 19
def W_pipewrightref_digit (ω : Amb) (c_p : Value) (h : Hp) (R : Value → Hp → Prop) (X : List PanicEntry → Hp → Prop) : Prop :=
 ∃ J0 : Value → Hp → Prop,
 (asK .u8 c_p fun n4 => cond (decide ((n4 : Int) ≥ 48))
 (asK .u8 c_p fun n5 => J0 (.bool (decide ((n5 : Int) ≤ 57))) h)
 (J0 (.bool false) h)) ∧
 ∀ t2_1 (d2 : Nat → Value) (h3 : Hp), J0 t2_1 h3 →
 R t2_1 h3
def A_pipewrightref_digit : Ann :=
 (.two .leaf (.two (.join [3, 4, 5, 6, 7, 8, 2] [2] .leaf) .leaf))
theorem C_pipewrightref_digit (ω : Amb) (c_p : Value) (h : Hp) (R : Value → Hp → Prop) (X : List PanicEntry → Hp → Prop) (hk : W_pipewrightref_digit ω c_p h R X) : CallX Tryd.prog ω 19 [c_p] h R X :=
 callX_of (an := A_pipewrightref_digit) Tryd.func19 ((show fnX Tryd.prog ω A_pipewrightref_digit Tryd.f19 [c_p] h R X = W_pipewrightref_digit ω c_p h R X by kernel_rfl) ▸ hk)

/-- pipewright/pipewrightref.num -/
abbrev n_pipewrightref_num : Nat := 20
def W_pipewrightref_num (ω : Amb) (s_p : Value) (h : Hp) (R : Value → Hp → Prop) (X : List PanicEntry → Hp → Prop) : Prop :=
 ∃ β0 : Bool,
 (asS s_p fun s2 => cond (decide (((ByteArray.size s2 : Int) : Int) > 18))
 (((.bool true) : Value) = .bool β0 ∧ h = h)
 (asS s_p fun s3 => cond (decide (((ByteArray.size s3 : Int) : Int) > 1))
 (asS s_p fun s4 => 0 ≤ (0 : Int) ∧ 0 < (ByteArray.size s4 : Int) ∧ ((.bool ((byteAt s4 0) == (48 : Int))) : Value) = .bool β0 ∧ h = h)
 (((.bool false) : Value) = .bool β0 ∧ h = h))) ∧
 ∀ d1 : Nat → Value,
 cond β0
 (R (.int .i64 (-1)) h)
 (∃ (I5 : Value → Value → Hp → Prop) (μ6 : Value → Value → Hp → Nat), I5 (.int .i64 0) (.int .i64 0) h ∧ ∀ n_7 i_8 (d9 : Nat → Value) (h10 : Hp), I5 n_7 i_8 h10 →
 asS s_p fun s11 => asK .i64 i_8 fun n12 => cond (decide ((n12 : Int) < (ByteArray.size s11 : Int)))
 (asS s_p fun s13 => asI i_8 fun n14 => 0 ≤ (n14 : Int) ∧ n14 < (ByteArray.size s13 : Int) ∧ CallX Tryd.prog ω 19 [(.int .u8 (byteAt s13 n14))] h10 (fun r15 h16 =>
 asB r15 fun b17 => cond (!b17)
 (R (.int .i64 (-1)) h16)
 (asK .i64 n_7 fun n18 => asS s_p fun s19 => asI i_8 fun n20 => 0 ≤ (n20 : Int) ∧ n20 < (ByteArray.size s19 : Int) ∧ asK .i64 i_8 fun n21 => I5 (.int .i64 (IntKind.wrap .i64 ((IntKind.wrap .i64 (10 * n18)) + (IntKind.wrap .i64 (IntKind.wrap .u8 ((byteAt s19 n20) - 48)))))) (.int .i64 (IntKind.wrap .i64 (n21 + 1))) h16 ∧ μ6 (.int .i64 (IntKind.wrap .i64 ((IntKind.wrap .i64 (10 * n18)) + (IntKind.wrap .i64 (IntKind.wrap .u8 ((byteAt s19 n20) - 48)))))) (.int .i64 (IntKind.wrap .i64 (n21 + 1))) h16 < μ6 n_7 i_8 h10)) X)
 (R n_7 h10))
def A_pipewrightref_num : Ann :=
 (.two .leaf (.two (.two (.jb [5, 6, 7, 8, 9, 10, 11, 12, 13, 14, 15, 16, 17] 17 .leaf) (.two (.two .leaf .leaf) .leaf)) (.two .leaf (.two (.two .leaf (.one (.loop [18, 19, 20, 21, 24, 25, 26, 27, 28, 2, 29, 30, 31, 32, 33, 34, 35, 36, 3, 22, 23, 4] [3, 4] (.two (.two .leaf (.two .leaf .leaf)) (.two (.one (.two (.two .leaf (.two (.two .leaf .leaf) .leaf)) .leaf)) .leaf))))) (.two .leaf .leaf)))))
theorem C_pipewrightref_num (ω : Amb) (s_p : Value) (h : Hp) (R : Value → Hp → Prop) (X : List PanicEntry → Hp → Prop) (hk : W_pipewrightref_num ω s_p h R X) : CallX Tryd.prog ω 20 [s_p] h R X :=
 callX_of (an := A_pipewrightref_num) Tryd.func20 ((show fnX Tryd.prog ω A_pipewrightref_num Tryd.f20 [s_p] h R X = W_pipewrightref_num ω s_p h R X by kernel_rfl) ▸ hk)

/-- pipewright/token.letter -/
abbrev n_token_letter : Nat := 21
def W_token_letter (ω : Amb) (c_p : Value) (h : Hp) (R : Value → Hp → Prop) (X : List PanicEntry → Hp → Prop) : Prop :=
 ∃ J0 : Value → Hp → Prop,
 (asK .u8 c_p fun n4 => cond (decide ((n4 : Int) ≥ 97))
 (asK .u8 c_p fun n5 => J0 (.bool (decide ((n5 : Int) ≤ 122))) h)
 (J0 (.bool false) h)) ∧
 ∀ t2_1 (d2 : Nat → Value) (h3 : Hp), J0 t2_1 h3 →
 R t2_1 h3
def A_token_letter : Ann :=
 (.two .leaf (.two (.join [3, 4, 5, 6, 7, 8, 2] [2] .leaf) .leaf))
theorem C_token_letter (ω : Amb) (c_p : Value) (h : Hp) (R : Value → Hp → Prop) (X : List PanicEntry → Hp → Prop) (hk : W_token_letter ω c_p h R X) : CallX Tryd.prog ω 21 [c_p] h R X :=
 callX_of (an := A_token_letter) Tryd.func21 ((show fnX Tryd.prog ω A_token_letter Tryd.f21 [c_p] h R X = W_token_letter ω c_p h R X by kernel_rfl) ▸ hk)

/-- pipewright/token.digit -/
abbrev n_token_digit : Nat := 22
def W_token_digit (ω : Amb) (c_p : Value) (h : Hp) (R : Value → Hp → Prop) (X : List PanicEntry → Hp → Prop) : Prop :=
 ∃ J0 : Value → Hp → Prop,
 (asK .u8 c_p fun n4 => cond (decide ((n4 : Int) ≥ 48))
 (asK .u8 c_p fun n5 => J0 (.bool (decide ((n5 : Int) ≤ 57))) h)
 (J0 (.bool false) h)) ∧
 ∀ t2_1 (d2 : Nat → Value) (h3 : Hp), J0 t2_1 h3 →
 R t2_1 h3
def A_token_digit : Ann :=
 (.two .leaf (.two (.join [3, 4, 5, 6, 7, 8, 2] [2] .leaf) .leaf))
theorem C_token_digit (ω : Amb) (c_p : Value) (h : Hp) (R : Value → Hp → Prop) (X : List PanicEntry → Hp → Prop) (hk : W_token_digit ω c_p h R X) : CallX Tryd.prog ω 22 [c_p] h R X :=
 callX_of (an := A_token_digit) Tryd.func22 ((show fnX Tryd.prog ω A_token_digit Tryd.f22 [c_p] h R X = W_token_digit ω c_p h R X by kernel_rfl) ▸ hk)

/-- (*pipewright/token.scanner).run -/
abbrev n_p_token_scanner_run : Nat := 23
def W_p_token_scanner_run (ω : Amb) (s_p : Value) (h : Hp) (R : Value → Hp → Prop) (X : List PanicEntry → Hp → Prop) : Prop :=
 nnK s_p (asP s_p fun p0 =>
 ∃ v1, cellH h (Addr.add p0 1) = some v1 ∧
 ∃ (I2 : Hp → Prop) (μ3 : Hp → Nat), I2 h ∧ ∀  (d4 : Nat → Value) (h5 : Hp), I2 h5 →
 ∃ J6 : Value → Hp → Prop,
 (nnK s_p (asP s_p fun p10 =>
 ∃ v11, cellH h5 (Addr.add p10 1) = some v11 ∧
 nnK s_p (asP s_p fun p12 =>
 ∃ v13, cellH h5 (Addr.add p12 0) = some v13 ∧
 asS v13 fun s14 => asK .i64 v11 fun n15 => cond (decide ((n15 : Int) < (ByteArray.size s14 : Int)))
 (nnK s_p (asP s_p fun p16 =>
 ∃ v17, cellH h5 (Addr.add p16 0) = some v17 ∧
 nnK s_p (asP s_p fun p18 =>
 ∃ v19, cellH h5 (Addr.add p18 1) = some v19 ∧
 asS v17 fun s20 => asI v19 fun n21 => 0 ≤ (n21 : Int) ∧ n21 < (ByteArray.size s20 : Int) ∧ CallX Tryd.prog ω 21 [(.int .u8 (byteAt s20 n21))] h5 (fun r22 h23 =>
 asB r22 fun b24 => cond b24
 (J6 (.bool true) h23)
 (nnK s_p (asP s_p fun p25 =>
 ∃ v26, cellH h23 (Addr.add p25 0) = some v26 ∧
 nnK s_p (asP s_p fun p27 =>
 ∃ v28, cellH h23 (Addr.add p27 1) = some v28 ∧
 asS v26 fun s29 => asI v28 fun n30 => 0 ≤ (n30 : Int) ∧ n30 < (ByteArray.size s29 : Int) ∧ CallX Tryd.prog ω 22 [(.int .u8 (byteAt s29 n30))] h23 (fun r31 h32 =>
 J6 r31 h32) X)))) X)))
 (J6 (.bool false) h5)))) ∧
 ∀ t41_7 (d8 : Nat → Value) (h9 : Hp), J6 t41_7 h9 →
 asB t41_7 fun b33 => cond b33
 (nnK s_p (asP s_p fun p34 =>
 ∃ v35, cellH h9 (Addr.add p34 1) = some v35 ∧
 asK .i64 v35 fun n36 => nnK s_p (asP s_p fun p37 =>
 storeK1 h9 (Addr.add p37 1) (.int .i64 (IntKind.wrap .i64 (n36 + 1))) fun h38 =>
 I2 h38 ∧ μ3 h38 < μ3 h5)))
 (nnK s_p (asP s_p fun p39 =>
 ∃ v40, cellH h9 (Addr.add p39 0) = some v40 ∧
 nnK s_p (asP s_p fun p41 =>
 ∃ v42, cellH h9 (Addr.add p41 1) = some v42 ∧
 asS v40 fun s43 => asI v1 fun n44 => asI v42 fun n45 => 0 ≤ (n44 : Int) ∧ (n44 : Int) ≤ n45 ∧ n45 ≤ (ByteArray.size s43 : Int) ∧ R (.string (ByteArray.extract s43 (Int.toNat n44) (Int.toNat n45))) h9))))
def A_p_token_scanner_run : Ann :=
 (.two .leaf (.two .leaf (.two (.one (.loop [8, 9, 10, 11, 12, 13, 14, 15, 16, 17, 18, 19, 20, 21, 22, 23, 24, 25, 26, 27, 28, 29, 30, 31, 32, 33, 34, 35, 36, 37, 38, 39, 40, 41, 42, 43, 44, 45, 46, 47, 48] [] (.two (.two (.join [8, 9, 10, 11, 12, 13, 14, 15, 16, 17, 18, 19, 20, 21, 22, 23, 24, 25, 26, 27, 28, 29, 30, 31, 32, 33, 34, 35, 36, 37, 38, 39, 40, 41] [41] (.plan [0, 1, 2, 3, 4, 5, 6, 7, 8, 9, 10, 11, 12, 13, 14, 15, 16, 17, 18, 19, 20, 21, 22, 23, 24, 25, 26, 27, 28, 29, 30, 31, 32, 33])) (.two .leaf .leaf)) (.one .leaf)))) (.two (.plan [0, 1, 2, 3, 4, 5, 6, 7, 8, 9, 10]) .leaf))))
theorem C_p_token_scanner_run (ω : Amb) (s_p : Value) (h : Hp) (R : Value → Hp → Prop) (X : List PanicEntry → Hp → Prop) (hk : W_p_token_scanner_run ω s_p h R X) : CallX Tryd.prog ω 23 [s_p] h R X :=
 callX_of (an := A_p_token_scanner_run) Tryd.func23 ((show fnX Tryd.prog ω A_p_token_scanner_run Tryd.f23 [s_p] h R X = W_p_token_scanner_run ω s_p h R X by kernel_rfl) ▸ hk)

/-- pipewright/token.number -/
abbrev n_token_number : Nat := 24
def W_token_number (ω : Amb) (s_p : Value) (h : Hp) (R : Value → Hp → Prop) (X : List PanicEntry → Hp → Prop) : Prop :=
 ∃ β0 : Bool,
 (asS s_p fun s2 => cond (decide (((ByteArray.size s2 : Int) : Int) > 18))
 (((.bool true) : Value) = .bool β0 ∧ h = h)
 (asS s_p fun s3 => cond (decide (((ByteArray.size s3 : Int) : Int) > 1))
 (asS s_p fun s4 => 0 ≤ (0 : Int) ∧ 0 < (ByteArray.size s4 : Int) ∧ ((.bool ((byteAt s4 0) == (48 : Int))) : Value) = .bool β0 ∧ h = h)
 (((.bool false) : Value) = .bool β0 ∧ h = h))) ∧
 ∀ d1 : Nat → Value,
 cond β0
 (R (.tuple #[(.int .i64 0), (.bool false)]) h)
 (asS s_p fun s5 => ∃ (I6 : Value → Hp → Prop) (μ7 : Value → Hp → Nat), I6 (.int .i64 0) h ∧ ∀ t22_8 (d9 : Nat → Value) (h10 : Hp), I6 t22_8 h10 →
 asK .i64 t22_8 fun n11 => cond (decide ((n11 : Int) < (ByteArray.size s5 : Int)))
 (asS s_p fun s12 => asI t22_8 fun n13 => 0 ≤ (n13 : Int) ∧ n13 < (ByteArray.size s12 : Int) ∧ CallX Tryd.prog ω 22 [(.int .u8 (byteAt s12 n13))] h10 (fun r14 h15 =>
 asB r14 fun b16 => cond (!b16)
 (R (.tuple #[(.int .i64 0), (.bool false)]) h15)
 (asK .i64 t22_8 fun n17 => I6 (.int .i64 (IntKind.wrap .i64 (n17 + 1))) h15 ∧ μ7 (.int .i64 (IntKind.wrap .i64 (n17 + 1))) h15 < μ7 t22_8 h10)) X)
 (CallX Tryd.prog ω 26 [s_p, (.int .i64 10), (.int .i64 64)] h10 (fun r18 h19 =>
 asT r18 fun T20 => asO T20[0]? fun v21 => asT r18 fun T22 => asO T22[1]? fun v23 => asIf v23 fun b24 => R (.tuple #[v21, (.bool b24)]) h19) X))
def A_token_number : Ann :=
 (.two .leaf (.two (.two (.jb [7, 8, 9, 10, 11, 12, 13, 14, 15, 16, 17, 18, 19] 19 .leaf) (.two (.two .leaf .leaf) .leaf)) (.two (.two .leaf (.one (.loop [23, 24, 4, 25, 26, 27, 28, 29, 2, 3, 30, 22] [22] (.two .leaf (.two (.two .leaf .leaf) (.two (.one (.two .leaf (.two .leaf (.two (.two .leaf .leaf) .leaf)))) .leaf)))))) (.two .leaf (.two (.plan [0, 1, 2, 3, 4]) .leaf)))))
theorem C_token_number (ω : Amb) (s_p : Value) (h : Hp) (R : Value → Hp → Prop) (X : List PanicEntry → Hp → Prop) (hk : W_token_number ω s_p h R X) : CallX Tryd.prog ω 24 [s_p] h R X :=
 callX_of (an := A_token_number) Tryd.func24 ((show fnX Tryd.prog ω A_token_number Tryd.f24 [s_p] h R X = W_token_number ω s_p h R X by kernel_rfl) ▸ hk)

/-- (*pipewright/token.scanner).sign -/
abbrev n_p_token_scanner_sign : Nat := 25
def W_p_token_scanner_sign (ω : Amb) (s_p : Value) (h : Hp) (R : Value → Hp → Prop) (X : List PanicEntry → Hp → Prop) : Prop :=
 nnK s_p (asP s_p fun p0 =>
 ∃ v1, cellH h (Addr.add p0 0) = some v1 ∧
 nnK s_p (asP s_p fun p2 =>
 ∃ v3, cellH h (Addr.add p2 1) = some v3 ∧
 asS v1 fun s4 => asI v3 fun n5 => 0 ≤ (n5 : Int) ∧ n5 < (ByteArray.size s4 : Int) ∧ cond ((byteAt s4 n5) == (61 : Int))
 (∃ β6 : Bool,
 (nnK s_p (asP s_p fun p8 =>
 ∃ v9, cellH h (Addr.add p8 1) = some v9 ∧
 asK .i64 v9 fun n10 => nnK s_p (asP s_p fun p11 =>
 ∃ v12, cellH h (Addr.add p11 0) = some v12 ∧
 asS v12 fun s13 => cond (decide (((IntKind.wrap .i64 (n10 + 1)) : Int) < (ByteArray.size s13 : Int)))
 (nnK s_p (asP s_p fun p14 =>
 ∃ v15, cellH h (Addr.add p14 0) = some v15 ∧
 nnK s_p (asP s_p fun p16 =>
 ∃ v17, cellH h (Addr.add p16 1) = some v17 ∧
 asK .i64 v17 fun n18 => asS v15 fun s19 => 0 ≤ ((IntKind.wrap .i64 (n18 + 1)) : Int) ∧ (IntKind.wrap .i64 (n18 + 1)) < (ByteArray.size s19 : Int) ∧ ((.bool ((byteAt s19 (IntKind.wrap .i64 (n18 + 1))) == (61 : Int))) : Value) = .bool β6 ∧ h = h)))
 (((.bool false) : Value) = .bool β6 ∧ h = h)))) ∧
 ∀ d7 : Nat → Value,
 cond β6
 (R (.string ⟨#[61, 61]⟩) h)
 (R (.string ⟨#[61]⟩) h))
 (∃ J20 : Value → Hp → Prop,
 (cond ((byteAt s4 n5) == (40 : Int))
 (J20 (.bool ((byteAt s4 n5) == (40 : Int))) h)
 (∃ J24 : Value → Hp → Prop,
 (cond ((byteAt s4 n5) == (41 : Int))
 (J24 (.bool ((byteAt s4 n5) == (41 : Int))) h)
 (∃ J28 : Value → Hp → Prop,
 (cond ((byteAt s4 n5) == (123 : Int))
 (J28 (.bool ((byteAt s4 n5) == (123 : Int))) h)
 (∃ J32 : Value → Hp → Prop,
 (cond ((byteAt s4 n5) == (125 : Int))
 (J32 (.bool ((byteAt s4 n5) == (125 : Int))) h)
 (∃ J36 : Value → Hp → Prop,
 (cond ((byteAt s4 n5) == (44 : Int))
 (J36 (.bool ((byteAt s4 n5) == (44 : Int))) h)
 (∃ J40 : Value → Hp → Prop,
 (cond ((byteAt s4 n5) == (59 : Int))
 (J40 (.bool ((byteAt s4 n5) == (59 : Int))) h)
 (∃ J44 : Value → Hp → Prop,
 (cond ((byteAt s4 n5) == (43 : Int))
 (J44 (.bool ((byteAt s4 n5) == (43 : Int))) h)
 (∃ J48 : Value → Hp → Prop,
 (cond ((byteAt s4 n5) == (45 : Int))
 (J48 (.bool ((byteAt s4 n5) == (45 : Int))) h)
 (∃ J52 : Value → Hp → Prop,
 (cond ((byteAt s4 n5) == (42 : Int))
 (J52 (.bool ((byteAt s4 n5) == (42 : Int))) h)
 (J52 (.bool ((byteAt s4 n5) == (60 : Int))) h)) ∧
 ∀ t40_53 (d54 : Nat → Value) (h55 : Hp), J52 t40_53 h55 →
 J48 t40_53 h55)) ∧
 ∀ t40_49 (d50 : Nat → Value) (h51 : Hp), J48 t40_49 h51 →
 J44 t40_49 h51)) ∧
 ∀ t40_45 (d46 : Nat → Value) (h47 : Hp), J44 t40_45 h47 →
 J40 t40_45 h47)) ∧
 ∀ t40_41 (d42 : Nat → Value) (h43 : Hp), J40 t40_41 h43 →
 J36 t40_41 h43)) ∧
 ∀ t40_37 (d38 : Nat → Value) (h39 : Hp), J36 t40_37 h39 →
 J32 t40_37 h39)) ∧
 ∀ t40_33 (d34 : Nat → Value) (h35 : Hp), J32 t40_33 h35 →
 J28 t40_33 h35)) ∧
 ∀ t40_29 (d30 : Nat → Value) (h31 : Hp), J28 t40_29 h31 →
 J24 t40_29 h31)) ∧
 ∀ t40_25 (d26 : Nat → Value) (h27 : Hp), J24 t40_25 h27 →
 J20 t40_25 h27)) ∧
 ∀ t40_21 (d22 : Nat → Value) (h23 : Hp), J20 t40_21 h23 →
 asB t40_21 fun b56 => cond b56
 (R (.string (Utf8.encode (IntKind.wrap .i32 (byteAt s4 n5)))) h23)
 (R (.string ⟨#[]⟩) h23))))
def A_p_token_scanner_sign : Ann :=
 (.two .leaf (.two (.two (.plan [0, 1, 2, 3, 4, 5, 6, 7, 8, 9]) (.two .leaf (.one (.two .leaf (.two (.two (.two (.jb [16, 17, 18, 19, 20, 21, 22, 23, 24, 25, 26, 27, 28, 29, 30, 31, 32, 33, 34, 35, 36, 37, 38, 39] 39 (.plan [0, 1, 2, 3, 4, 5, 6, 7, 8, 9, 10, 11, 12, 13, 14, 15, 16, 17, 18, 19, 20, 21, 22, 23])) (.two (.two .leaf .leaf) .leaf)) (.two .leaf .leaf)) (.two (.two .leaf (.join [42, 40, 43, 44, 45, 46, 47, 48, 49, 50] [40] (.two .leaf (.two .leaf (.join [43, 40, 44, 45, 46, 47, 48, 49, 50] [40] (.two .leaf (.two .leaf (.join [44, 40, 45, 46, 47, 48, 49, 50] [40] (.two .leaf (.two .leaf (.join [45, 40, 46, 47, 48, 49, 50] [40] (.two .leaf (.two .leaf (.join [46, 40, 47, 48, 49, 50] [40] (.two .leaf (.two .leaf (.join [47, 40, 48, 49, 50] [40] (.two .leaf (.two .leaf (.join [48, 40, 49, 50] [40] (.two .leaf (.two .leaf (.join [49, 40, 50] [40] (.two .leaf (.two .leaf (.join [50, 40] [40] (.two .leaf .leaf))))))))))))))))))))))))))) (.two (.two .leaf .leaf) .leaf))))))) (.two .leaf .leaf)))
theorem C_p_token_scanner_sign (ω : Amb) (s_p : Value) (h : Hp) (R : Value → Hp → Prop) (X : List PanicEntry → Hp → Prop) (hk : W_p_token_scanner_sign ω s_p h R X) : CallX Tryd.prog ω 25 [s_p] h R X :=
 callX_of (an := A_p_token_scanner_sign) Tryd.func25 ((show fnX Tryd.prog ω A_p_token_scanner_sign Tryd.f25 [s_p] h R X = W_p_token_scanner_sign ω s_p h R X by kernel_rfl) ▸ hk)

/-- strconv.ParseInt -/
abbrev n_strconv_ParseInt : Nat := 26
def W_strconv_ParseInt (ω : Amb) (s_p base_p bitSize_p : Value) (h : Hp) (R : Value → Hp → Prop) (X : List PanicEntry → Hp → Prop) : Prop :=
 CallX Tryd.prog ω 27 [s_p, base_p, bitSize_p] h (fun r0 h1 =>
 asT r0 fun T2 => asO T2[0]? fun v3 => asT r0 fun T4 => asO T4[1]? fun v5 => asIf v5 fun b6 => cond (!b6)
 (CallX Tryd.prog ω 28 [(.string ⟨#[80, 97, 114, 115, 101, 73, 110, 116]⟩), s_p, base_p, bitSize_p, v5] h1 (fun r7 h8 =>
 R (.tuple #[v3, r7]) h8) X)
 (R (.tuple #[v3, .nilIface]) h1)) X
def A_strconv_ParseInt : Ann :=
 (.two .leaf (.two .leaf (.two (.two .leaf (.two (.two .leaf .leaf) .leaf)) (.two .leaf .leaf))))
theorem C_strconv_ParseInt (ω : Amb) (s_p base_p bitSize_p : Value) (h : Hp) (R : Value → Hp → Prop) (X : List PanicEntry → Hp → Prop) (hk : W_strconv_ParseInt ω s_p base_p bitSize_p h R X) : CallX Tryd.prog ω 26 [s_p, base_p, bitSize_p] h R X :=
 callX_of (an := A_strconv_ParseInt) Tryd.func26 ((show fnX Tryd.prog ω A_strconv_ParseInt Tryd.f26 [s_p, base_p, bitSize_p] h R X = W_strconv_ParseInt ω s_p base_p bitSize_p h R X by kernel_rfl) ▸ hk)

/-- internal/strconv.ParseInt -/
abbrev n_internal_strconv_ParseInt : Nat := 27
def W_internal_strconv_ParseInt (ω : Amb) (s_p base_p bitSize_p : Value) (h : Hp) (R : Value → Hp → Prop) (X : List PanicEntry → Hp → Prop) : Prop :=
 asS s_p fun s0 => cond (ByteArray.toList s0 == ByteArray.toList ⟨#[]⟩)
 (R (.tuple #[(.int .i64 0), (.iface 50 (.int .i64 2))]) h)
 (asS s_p fun s1 => 0 ≤ (0 : Int) ∧ 0 < (ByteArray.size s1 : Int) ∧ ∃ J2 : Value → Value → Hp → Prop,
 (∃ J7 : Value → Value → Hp → Prop,
 (cond ((byteAt s1 0) == (43 : Int))
 (asS s_p fun s12 => 0 ≤ (1 : Int) ∧ (1 : Int) ≤ (ByteArray.size s12 : Int) ∧ (ByteArray.size s12 : Int) ≤ (ByteArray.size s12 : Int) ∧ J7 (.string (ByteArray.extract s12 (Int.toNat 1) (Int.toNat (ByteArray.size s12 : Int)))) (.bool false) h)
 (∃ J13 : Value → Value → Hp → Prop,
 (cond ((byteAt s1 0) == (45 : Int))
 (asS s_p fun s18 => 0 ≤ (1 : Int) ∧ (1 : Int) ≤ (ByteArray.size s18 : Int) ∧ (ByteArray.size s18 : Int) ≤ (ByteArray.size s18 : Int) ∧ J13 (.string (ByteArray.extract s18 (Int.toNat 1) (Int.toNat (ByteArray.size s18 : Int)))) (.bool true) h)
 (J13 s_p (.bool false) h)) ∧
 ∀ s_14 neg_15 (d16 : Nat → Value) (h17 : Hp), J13 s_14 neg_15 h17 →
 J7 s_14 neg_15 h17)) ∧
 ∀ s_8 neg_9 (d10 : Nat → Value) (h11 : Hp), J7 s_8 neg_9 h11 →
 J2 s_8 neg_9 h11) ∧
 ∀ s_3 neg_4 (d5 : Nat → Value) (h6 : Hp), J2 s_3 neg_4 h6 →
 CallX Tryd.prog ω 29 [s_3, base_p, bitSize_p] h6 (fun r19 h20 =>
 asT r19 fun T21 => asO T21[0]? fun v22 => asT r19 fun T23 => asO T23[1]? fun v24 => ∃ β25 : Bool,
 (asIf v24 fun b27 => cond (!b27)
 (False)
 (((.bool false) : Value) = .bool β25 ∧ h20 = h20)) ∧
 ∀ d26 : Nat → Value,
 cond β25
 (R (.tuple #[(.int .i64 0), v24]) h20)
 (asK .i64 bitSize_p fun n28 => ∃ J29 : Value → Hp → Prop,
 (cond (n28 == (0 : Int))
 (J29 (.int .i64 64) h20)
 (J29 bitSize_p h20)) ∧
 ∀ bitSize_30 (d31 : Nat → Value) (h32 : Hp), J29 bitSize_30 h32 →
 asK .i64 bitSize_30 fun n33 => 0 ≤ ((IntKind.wrap .u64 (IntKind.wrap .i64 (n33 - 1))) : Int) ∧ ∃ β34 : Bool,
 (asB neg_4 fun b36 => cond (!b36)
 (asK .u64 v22 fun n37 => ((.bool (decide ((n37 : Int) ≥ (shI .u64 .shl 1 (IntKind.wrap .u64 (IntKind.wrap .i64 (n33 - 1))))))) : Value) = .bool β34 ∧ h32 = h32)
 (((.bool false) : Value) = .bool β34 ∧ h32 = h32)) ∧
 ∀ d35 : Nat → Value,
 cond β34
 (R (.tuple #[(.int .i64 (IntKind.wrap .i64 (IntKind.wrap .u64 ((shI .u64 .shl 1 (IntKind.wrap .u64 (IntKind.wrap .i64 (n33 - 1)))) - 1)))), (.iface 50 (.int .i64 1))]) h32)
 (∃ β38 : Bool,
 (asB neg_4 fun b40 => cond b40
 (asK .u64 v22 fun n41 => ((.bool (decide ((n41 : Int) > (shI .u64 .shl 1 (IntKind.wrap .u64 (IntKind.wrap .i64 (n33 - 1))))))) : Value) = .bool β38 ∧ h32 = h32)
 (((.bool false) : Value) = .bool β38 ∧ h32 = h32)) ∧
 ∀ d39 : Nat → Value,
 cond β38
 (R (.tuple #[(.int .i64 (IntKind.wrap .i64 (0 - (IntKind.wrap .i64 (shI .u64 .shl 1 (IntKind.wrap .u64 (IntKind.wrap .i64 (n33 - 1)))))))), (.iface 50 (.int .i64 1))]) h32)
 (asI v22 fun n42 => ∃ J43 : Value → Hp → Prop,
 (asB neg_4 fun b47 => cond b47
 (J43 (.int .i64 (IntKind.wrap .i64 (0 - (IntKind.wrap .i64 n42)))) h32)
 (J43 (.int .i64 (IntKind.wrap .i64 n42)) h32)) ∧
 ∀ n_44 (d45 : Nat → Value) (h46 : Hp), J43 n_44 h46 →
 R (.tuple #[n_44, .nilIface]) h46)))) X)
def A_internal_strconv_ParseInt : Ann :=
 (.two .leaf (.two (.two .leaf (.two (.two .leaf .leaf) .leaf)) (.two .leaf (.two (.two .leaf (.join [18, 17, 19, 20, 0, 22, 21, 23, 24, 8] [0, 8] (.one (.two .leaf (.join [19, 20, 0, 22, 21, 23, 24, 8] [0, 8] (.two .leaf (.two .leaf (.join [23, 24, 0, 8] [0, 8] (.two (.two .leaf .leaf) .leaf))))))))) (.two .leaf (.two .leaf (.two (.two (.jb [32, 33, 34, 35, 36, 37, 38] 38 .leaf) (.two (.two .leaf .leaf) .leaf)) (.two (.two .leaf (.join [2] [2] (.two .leaf .leaf))) (.two .leaf (.two (.two (.jb [46, 47, 48, 49, 50, 51, 52] 52 .leaf) (.two (.two .leaf .leaf) .leaf)) (.two (.two (.jb [57, 58, 59, 60, 61, 62] 62 .leaf) (.two (.two .leaf .leaf) .leaf)) (.two .leaf (.two (.two .leaf (.join [70, 71, 11] [11] (.two .leaf .leaf))) (.two .leaf .leaf))))))))))))))
theorem C_internal_strconv_ParseInt (ω : Amb) (s_p base_p bitSize_p : Value) (h : Hp) (R : Value → Hp → Prop) (X : List PanicEntry → Hp → Prop) (hk : W_internal_strconv_ParseInt ω s_p base_p bitSize_p h R X) : CallX Tryd.prog ω 27 [s_p, base_p, bitSize_p] h R X :=
 callX_of (an := A_internal_strconv_ParseInt) Tryd.func27 ((show fnX Tryd.prog ω A_internal_strconv_ParseInt Tryd.f27 [s_p, base_p, bitSize_p] h R X = W_internal_strconv_ParseInt ω s_p base_p bitSize_p h R X by kernel_rfl) ▸ hk)

/-- strconv.toError -/
abbrev n_strconv_toError : Nat := 28
def W_strconv_toError (ω : Amb) (fn_p s_p base_p bitSize_p err_p : Value) (h : Hp) (R : Value → Hp → Prop) (X : List PanicEntry → Hp → Prop) : Prop :=
 False
def A_strconv_toError : Ann :=
 (.two .leaf (.two (.two .leaf (.one (.two .leaf (.two (.two .leaf .leaf) (.two .leaf (.two (.two .leaf .leaf) (.two .leaf (.two (.two .leaf .leaf) (.two .leaf (.two (.two .leaf .leaf) .leaf)))))))))) (.two .leaf .leaf)))
theorem C_strconv_toError (ω : Amb) (fn_p s_p base_p bitSize_p err_p : Value) (h : Hp) (R : Value → Hp → Prop) (X : List PanicEntry → Hp → Prop) (hk : W_strconv_toError ω fn_p s_p base_p bitSize_p err_p h R X) : CallX Tryd.prog ω 28 [fn_p, s_p, base_p, bitSize_p, err_p] h R X :=
 callX_of (an := A_strconv_toError) Tryd.func28 ((show fnX Tryd.prog ω A_strconv_toError Tryd.f28 [fn_p, s_p, base_p, bitSize_p, err_p] h R X = W_strconv_toError ω fn_p s_p base_p bitSize_p err_p h R X by kernel_rfl) ▸ hk)

/-- internal/strconv.ParseUint -/
abbrev n_internal_strconv_ParseUint : Nat := 29
def W_internal_strconv_ParseUint (ω : Amb) (s_p base_p bitSize_p : Value) (h : Hp) (R : Value → Hp → Prop) (X : List PanicEntry → Hp → Prop) : Prop :=
 asS s_p fun s0 => cond (ByteArray.toList s0 == ByteArray.toList ⟨#[]⟩)
 (R (.tuple #[(.int .u64 0), (.iface 50 (.int .i64 2))]) h)
 (asK .i64 base_p fun n1 => ∃ J2 : Value → Value → Hp → Prop,
 (∃ J7 : Value → Hp → Prop,
 (asK .i64 base_p fun n11 => cond (decide ((2 : Int) ≤ n11))
 (asK .i64 base_p fun n12 => J7 (.bool (decide ((n12 : Int) ≤ 36))) h)
 (J7 (.bool false) h)) ∧
 ∀ t25_8 (d9 : Nat → Value) (h10 : Hp), J7 t25_8 h10 →
 ∃ J13 : Value → Value → Hp → Prop,
 (asB t25_8 fun b18 => cond b18
 (J13 base_p s_p h10)
 (asK .i64 base_p fun n19 => cond (n19 == (0 : Int))
 (asS s_p fun s20 => 0 ≤ (0 : Int) ∧ 0 < (ByteArray.size s20 : Int) ∧ ∃ J21 : Value → Value → Hp → Prop,
 (cond ((byteAt s20 0) == (48 : Int))
 (∃ J26 : Value → Value → Hp → Prop,
 (∃ J31 : Value → Hp → Prop,
 (asS s_p fun s35 => cond (decide (((ByteArray.size s35 : Int) : Int) ≥ 3))
 (asS s_p fun s36 => 0 ≤ (1 : Int) ∧ 1 < (ByteArray.size s36 : Int) ∧ CallX Tryd.prog ω 34 [(.int .u8 (byteAt s36 1))] h10 (fun r37 h38 =>
 asK .u8 r37 fun n39 => J31 (.bool (n39 == (98 : Int))) h38) X)
 (J31 (.bool false) h10)) ∧
 ∀ t40_32 (d33 : Nat → Value) (h34 : Hp), J31 t40_32 h34 →
 ∃ J40 : Value → Value → Hp → Prop,
 (asB t40_32 fun b45 => cond b45
 (asS s_p fun s46 => 0 ≤ (2 : Int) ∧ (2 : Int) ≤ (ByteArray.size s46 : Int) ∧ (ByteArray.size s46 : Int) ≤ (ByteArray.size s46 : Int) ∧ J40 (.int .i64 2) (.string (ByteArray.extract s46 (Int.toNat 2) (Int.toNat (ByteArray.size s46 : Int)))) h34)
 (∃ J47 : Value → Hp → Prop,
 (asS s_p fun s51 => cond (decide (((ByteArray.size s51 : Int) : Int) ≥ 3))
 (asS s_p fun s52 => 0 ≤ (1 : Int) ∧ 1 < (ByteArray.size s52 : Int) ∧ CallX Tryd.prog ω 34 [(.int .u8 (byteAt s52 1))] h34 (fun r53 h54 =>
 asK .u8 r53 fun n55 => J47 (.bool (n55 == (111 : Int))) h54) X)
 (J47 (.bool false) h34)) ∧
 ∀ t52_48 (d49 : Nat → Value) (h50 : Hp), J47 t52_48 h50 →
 ∃ J56 : Value → Value → Hp → Prop,
 (asB t52_48 fun b61 => cond b61
 (asS s_p fun s62 => 0 ≤ (2 : Int) ∧ (2 : Int) ≤ (ByteArray.size s62 : Int) ∧ (ByteArray.size s62 : Int) ≤ (ByteArray.size s62 : Int) ∧ J56 (.int .i64 8) (.string (ByteArray.extract s62 (Int.toNat 2) (Int.toNat (ByteArray.size s62 : Int)))) h50)
 (∃ J63 : Value → Hp → Prop,
 (asS s_p fun s67 => cond (decide (((ByteArray.size s67 : Int) : Int) ≥ 3))
 (asS s_p fun s68 => 0 ≤ (1 : Int) ∧ 1 < (ByteArray.size s68 : Int) ∧ CallX Tryd.prog ω 34 [(.int .u8 (byteAt s68 1))] h50 (fun r69 h70 =>
 asK .u8 r69 fun n71 => J63 (.bool (n71 == (120 : Int))) h70) X)
 (J63 (.bool false) h50)) ∧
 ∀ t64_64 (d65 : Nat → Value) (h66 : Hp), J63 t64_64 h66 →
 ∃ J72 : Value → Value → Hp → Prop,
 (asB t64_64 fun b77 => cond b77
 (asS s_p fun s78 => 0 ≤ (2 : Int) ∧ (2 : Int) ≤ (ByteArray.size s78 : Int) ∧ (ByteArray.size s78 : Int) ≤ (ByteArray.size s78 : Int) ∧ J72 (.int .i64 16) (.string (ByteArray.extract s78 (Int.toNat 2) (Int.toNat (ByteArray.size s78 : Int)))) h66)
 (asS s_p fun s79 => 0 ≤ (1 : Int) ∧ (1 : Int) ≤ (ByteArray.size s79 : Int) ∧ (ByteArray.size s79 : Int) ≤ (ByteArray.size s79 : Int) ∧ J72 (.int .i64 8) (.string (ByteArray.extract s79 (Int.toNat 1) (Int.toNat (ByteArray.size s79 : Int)))) h66)) ∧
 ∀ base_73 s_74 (d75 : Nat → Value) (h76 : Hp), J72 base_73 s_74 h76 →
 J56 base_73 s_74 h76)) ∧
 ∀ base_57 s_58 (d59 : Nat → Value) (h60 : Hp), J56 base_57 s_58 h60 →
 J40 base_57 s_58 h60)) ∧
 ∀ base_41 s_42 (d43 : Nat → Value) (h44 : Hp), J40 base_41 s_42 h44 →
 J26 base_41 s_42 h44) ∧
 ∀ base_27 s_28 (d29 : Nat → Value) (h30 : Hp), J26 base_27 s_28 h30 →
 J21 base_27 s_28 h30)
 (J21 (.int .i64 10) s_p h10)) ∧
 ∀ base_22 s_23 (d24 : Nat → Value) (h25 : Hp), J21 base_22 s_23 h25 →
 J13 base_22 s_23 h25)
 (R (.tuple #[(.int .u64 0), (.iface 50 (.int .i64 3))]) h10))) ∧
 ∀ base_14 s_15 (d16 : Nat → Value) (h17 : Hp), J13 base_14 s_15 h17 →
 J2 base_14 s_15 h17) ∧
 ∀ base_3 s_4 (d5 : Nat → Value) (h6 : Hp), J2 base_3 s_4 h6 →
 asK .i64 bitSize_p fun n80 => ∃ J81 : Value → Hp → Prop,
 (cond (n80 == (0 : Int))
 (J81 (.int .i64 64) h6)
 (∃ β85 : Bool,
 (asK .i64 bitSize_p fun n87 => cond (decide ((n87 : Int) < 0))
 (((.bool true) : Value) = .bool β85 ∧ h6 = h6)
 (asK .i64 bitSize_p fun n88 => ((.bool (decide ((n88 : Int) > 64))) : Value) = .bool β85 ∧ h6 = h6)) ∧
 ∀ d86 : Nat → Value,
 cond β85
 (R (.tuple #[(.int .u64 0), (.iface 50 (.int .i64 4))]) h6)
 (J81 bitSize_p h6))) ∧
 ∀ bitSize_82 (d83 : Nat → Value) (h84 : Hp), J81 bitSize_82 h84 →
 ∃ J89 : Value → Hp → Prop,
 (asK .i64 base_3 fun n93 => ∃ J94 : Value → Hp → Prop,
 (cond (n93 == (10 : Int))
 (J94 (.int .u64 1844674407370955162) h84)
 (asK .i64 base_3 fun n98 => ∃ J99 : Value → Hp → Prop,
 (cond (n98 == (16 : Int))
 (J99 (.int .u64 1152921504606846976) h84)
 (asI base_3 fun n103 => ((IntKind.wrap .u64 n103) : Int) ≠ 0 ∧ J99 (.int .u64 (IntKind.wrap .u64 ((IntKind.wrap .u64 (Int.tdiv 18446744073709551615 (IntKind.wrap .u64 n103))) + 1))) h84)) ∧
 ∀ cutoff_100 (d101 : Nat → Value) (h102 : Hp), J99 cutoff_100 h102 →
 J94 cutoff_100 h102)) ∧
 ∀ cutoff_95 (d96 : Nat → Value) (h97 : Hp), J94 cutoff_95 h97 →
 J89 cutoff_95 h97) ∧
 ∀ cutoff_90 (d91 : Nat → Value) (h92 : Hp), J89 cutoff_90 h92 →
 asI bitSize_82 fun n104 => 0 ≤ ((IntKind.wrap .u64 n104) : Int) ∧ bytesK Tryd.prog 9 59 h92 s_4 fun v105 h106 =>
 asSl v105 fun a107 l108 c109 => ∃ (I110 : Value → Value → Value → Hp → Prop) (μ111 : Value → Value → Value → Hp → Nat), I110 (.bool false) (.int .u64 0) (.int .i64 0) h106 ∧ ∀ underscores_112 n_113 t101_114 (d115 : Nat → Value) (h116 : Hp), I110 underscores_112 n_113 t101_114 h116 →
 asK .i64 t101_114 fun n117 => cond (decide ((n117 : Int) < (l108 : Int)))
 (∃ J118 : Value → Value → Hp → Prop,
 (asSl1 v105 fun a123 l124 c125 => asI t101_114 fun n126 => 0 ≤ (n126 : Int) ∧ n126 < (l124 : Int) ∧ ∃ v127, cellH h116 (Addr.add a123 (Int.toNat n126 * 1)) = some v127 ∧
 ∃ J128 : Value → Value → Hp → Prop,
 (∃ J133 : Value → Hp → Prop,
 (asK .u8 v127 fun n137 => cond (n137 == (95 : Int))
 (J133 (.bool (n1 == (0 : Int))) h116)
 (J133 (.bool false) h116)) ∧
 ∀ t106_134 (d135 : Nat → Value) (h136 : Hp), J133 t106_134 h136 →
 asB t106_134 fun b138 => cond b138
 (J118 (.bool true) n_113 h136)
 (∃ J139 : Value → Hp → Prop,
 (asK .u8 v127 fun n143 => cond (decide ((48 : Int) ≤ n143))
 (asK .u8 v127 fun n144 => J139 (.bool (decide ((n144 : Int) ≤ 57))) h136)
 (J139 (.bool false) h136)) ∧
 ∀ t112_140 (d141 : Nat → Value) (h142 : Hp), J139 t112_140 h142 →
 ∃ J145 : Value → Hp → Prop,
 (asB t112_140 fun b149 => cond b149
 (asK .u8 v127 fun n150 => J145 (.int .u8 (IntKind.wrap .u8 (n150 - 48))) h142)
 (∃ J151 : Value → Hp → Prop,
 (CallX Tryd.prog ω 34 [v127] h142 (fun r155 h156 =>
 asK .u8 r155 fun n157 => cond (decide ((97 : Int) ≤ n157))
 (CallX Tryd.prog ω 34 [v127] h156 (fun r158 h159 =>
 asK .u8 r158 fun n160 => J151 (.bool (decide ((n160 : Int) ≤ 122))) h159) X)
 (J151 (.bool false) h156)) X) ∧
 ∀ t121_152 (d153 : Nat → Value) (h154 : Hp), J151 t121_152 h154 →
 asB t121_152 fun b161 => cond b161
 (CallX Tryd.prog ω 34 [v127] h154 (fun r162 h163 =>
 asK .u8 r162 fun n164 => J145 (.int .u8 (IntKind.wrap .u8 ((IntKind.wrap .u8 (n164 - 97)) + 10))) h163) X)
 (R (.tuple #[(.int .u64 0), (.iface 50 (.int .i64 2))]) h154))) ∧
 ∀ d_146 (d147 : Nat → Value) (h148 : Hp), J145 d_146 h148 →
 J128 underscores_112 d_146 h148)) ∧
 ∀ underscores_129 d_130 (d131 : Nat → Value) (h132 : Hp), J128 underscores_129 d_130 h132 →
 asI base_3 fun n165 => asK .u8 d_130 fun n166 => cond (decide ((n166 : Int) ≥ (IntKind.wrap .u8 n165)))
 (R (.tuple #[(.int .u64 0), (.iface 50 (.int .i64 2))]) h132)
 (asK .u64 n_113 fun n167 => asK .u64 cutoff_90 fun n168 => cond (decide ((n167 : Int) ≥ n168))
 (R (.tuple #[(.int .u64 (IntKind.wrap .u64 ((shI .u64 .shl 1 (IntKind.wrap .u64 n104)) - 1))), (.iface 50 (.int .i64 1))]) h132)
 (asI base_3 fun n169 => asK .u64 n_113 fun n170 => asI d_130 fun n171 => ∃ β172 : Bool,
 (cond (decide (((IntKind.wrap .u64 ((IntKind.wrap .u64 (n170 * (IntKind.wrap .u64 n169))) + (IntKind.wrap .u64 n171))) : Int) < (IntKind.wrap .u64 (n170 * (IntKind.wrap .u64 n169)))))
 (((.bool true) : Value) = .bool β172 ∧ h132 = h132)
 (((.bool (decide (((IntKind.wrap .u64 ((IntKind.wrap .u64 (n170 * (IntKind.wrap .u64 n169))) + (IntKind.wrap .u64 n171))) : Int) > (IntKind.wrap .u64 ((shI .u64 .shl 1 (IntKind.wrap .u64 n104)) - 1))))) : Value) = .bool β172 ∧ h132 = h132)) ∧
 ∀ d173 : Nat → Value,
 cond β172
 (R (.tuple #[(.int .u64 (IntKind.wrap .u64 ((shI .u64 .shl 1 (IntKind.wrap .u64 n104)) - 1))), (.iface 50 (.int .i64 1))]) h132)
 (J118 underscores_129 (.int .u64 (IntKind.wrap .u64 ((IntKind.wrap .u64 (n170 * (IntKind.wrap .u64 n169))) + (IntKind.wrap .u64 n171)))) h132)))) ∧
 ∀ underscores_119 n_120 (d121 : Nat → Value) (h122 : Hp), J118 underscores_119 n_120 h122 →
 asK .i64 t101_114 fun n174 => I110 underscores_119 n_120 (.int .i64 (IntKind.wrap .i64 (n174 + 1))) h122 ∧ μ111 underscores_119 n_120 (.int .i64 (IntKind.wrap .i64 (n174 + 1))) h122 < μ111 underscores_112 n_113 t101_114 h116)
 (∃ J175 : Value → Hp → Prop,
 (asB underscores_112 fun b179 => cond b179
 (CallX Tryd.prog ω 35 [s_p] h116 (fun r180 h181 =>
 asB r180 fun b182 => J175 (.bool (!b182)) h181) X)
 (J175 (.bool false) h116)) ∧
 ∀ t169_176 (d177 : Nat → Value) (h178 : Hp), J175 t169_176 h178 →
 asB t169_176 fun b183 => cond b183
 (R (.tuple #[(.int .u64 0), (.iface 50 (.int .i64 2))]) h178)
 (R (.tuple #[n_113, .nilIface]) h178)))
def A_internal_strconv_ParseUint : Ann :=
 (.two .leaf (.two (.two .leaf (.two (.two .leaf .leaf) .leaf)) (.two .leaf (.two .leaf (.two (.join [26, 27, 28, 29, 30, 31, 25, 33, 34, 32, 1, 35, 36, 37, 41, 42, 43, 44, 45, 46, 47, 48, 49, 40, 50, 51, 0, 53, 54, 55, 56, 57, 58, 59, 60, 61, 52, 62, 63, 65, 66, 67, 68, 69, 70, 71, 72, 73, 64, 74, 75, 38, 39, 24, 6, 7] [1, 0] (.one (.two (.join [26, 27, 28, 29, 30, 31, 25] [25] .leaf) (.join [33, 34, 32, 1, 35, 36, 37, 41, 42, 43, 44, 45, 46, 47, 48, 49, 40, 50, 51, 0, 53, 54, 55, 56, 57, 58, 59, 60, 61, 52, 62, 63, 65, 66, 67, 68, 69, 70, 71, 72, 73, 64, 74, 75, 38, 39, 24, 6, 7] [1, 0] (.two .leaf (.two .leaf (.two (.two .leaf (.two .leaf (.join [41, 42, 43, 44, 45, 46, 47, 48, 49, 40, 1, 50, 51, 0, 53, 54, 55, 56, 57, 58, 59, 60, 61, 52, 62, 63, 65, 66, 67, 68, 69, 70, 71, 72, 73, 64, 74, 75, 38, 39] [1, 0] (.two (.join [41, 42, 43, 44, 45, 46, 47, 48, 49, 40, 1, 50, 51, 0, 53, 54, 55, 56, 57, 58, 59, 60, 61, 52, 62, 63, 65, 66, 67, 68, 69, 70, 71, 72, 73, 64, 74, 75, 38, 39] [1, 0] (.one (.two (.join [41, 42, 43, 44, 45, 46, 47, 48, 49, 40] [40] .leaf) (.join [1, 50, 51, 0, 53, 54, 55, 56, 57, 58, 59, 60, 61, 52, 62, 63, 65, 66, 67, 68, 69, 70, 71, 72, 73, 64, 74, 75, 38, 39] [1, 0] (.two (.two .leaf .leaf) (.two (.join [53, 54, 55, 56, 57, 58, 59, 60, 61, 52] [52] .leaf) (.join [1, 62, 63, 0, 65, 66, 67, 68, 69, 70, 71, 72, 73, 64, 74, 75, 38, 39] [1, 0] (.two (.two .leaf .leaf) (.two (.join [65, 66, 67, 68, 69, 70, 71, 72, 73, 64] [64] .leaf) (.join [1, 74, 75, 0, 38, 39] [1, 0] (.two (.two .leaf .leaf) (.two .leaf .leaf)))))))))))) .leaf)))) (.two .leaf .leaf)))))))) (.two (.two .leaf (.join [2, 78, 79, 80, 81, 82, 83, 84, 6, 7] [2] (.two .leaf (.two (.jb [78, 79, 80, 81, 82, 83] 83 .leaf) (.two (.two .leaf .leaf) .leaf))))) (.two .leaf (.two (.two .leaf (.join [91, 90, 10, 93, 92, 86, 87, 88, 89] [10] (.one (.two .leaf (.join [10, 93, 92, 86, 87, 88, 89] [10] (.two .leaf (.two .leaf (.join [10, 86, 87, 88, 89] [10] (.two .leaf .leaf))))))))) (.two .leaf (.two .leaf (.two .leaf (.two (.two .leaf (.one (.loop [102, 103, 104, 15, 16, 107, 108, 109, 110, 111, 106, 12, 113, 114, 115, 116, 117, 118, 112, 119, 120, 122, 123, 124, 125, 126, 127, 128, 129, 121, 130, 131, 132, 133, 105, 6, 7, 134, 135, 136, 137, 138, 139, 140, 141, 142, 143, 144, 145, 146, 147, 13, 148, 149, 150, 151, 17, 152, 153, 154, 155, 156, 157, 158, 159, 160, 161, 162, 163, 101] [12, 13, 101] (.two .leaf (.two (.two .leaf .leaf) (.two (.join [103, 104, 15, 16, 107, 108, 109, 110, 111, 106, 12, 113, 114, 115, 116, 117, 118, 112, 119, 120, 122, 123, 124, 125, 126, 127, 128, 129, 121, 130, 131, 132, 133, 105, 6, 7, 134, 135, 136, 137, 138, 139, 140, 141, 142, 143, 144, 145, 146, 147, 13, 148, 149, 150, 151, 17, 152, 153, 154, 155, 156, 157, 158, 159, 160, 161, 162] [12, 13] (.one (.two .leaf (.two .leaf (.two (.join [107, 108, 109, 110, 111, 106, 12, 113, 114, 115, 116, 117, 118, 112, 119, 120, 16, 122, 123, 124, 125, 126, 127, 128, 129, 121, 130, 131, 132, 133, 105, 6, 7] [12, 16] (.one (.two (.join [107, 108, 109, 110, 111, 106] [106] .leaf) (.two (.two .leaf .leaf) (.two (.join [113, 114, 115, 116, 117, 118, 112] [112] .leaf) (.join [119, 120, 16, 122, 123, 124, 125, 126, 127, 128, 129, 121, 130, 131, 132, 133, 105, 6, 7] [16] (.two .leaf (.two (.join [122, 123, 124, 125, 126, 127, 128, 129, 121] [121] .leaf) (.two .leaf (.two .leaf .leaf)))))))))) (.two (.two .leaf (.two (.two .leaf .leaf) .leaf)) (.two (.two .leaf (.two (.two .leaf .leaf) .leaf)) (.two .leaf (.two .leaf (.two (.two (.jb [152, 153, 154, 155, 156, 157, 158, 159] 159 .leaf) (.two (.two .leaf .leaf) .leaf)) .leaf)))))))))) .leaf)))))) (.two (.two (.join [164, 165, 166, 167, 168, 169] [169] .leaf) (.two (.two .leaf .leaf) .leaf)) (.two .leaf .leaf))))))))))))))
theorem C_internal_strconv_ParseUint (ω : Amb) (s_p base_p bitSize_p : Value) (h : Hp) (R : Value → Hp → Prop) (X : List PanicEntry → Hp → Prop) (hk : W_internal_strconv_ParseUint ω s_p base_p bitSize_p h R X) : CallX Tryd.prog ω 29 [s_p, base_p, bitSize_p] h R X :=
 callX_of (an := A_internal_strconv_ParseUint) Tryd.func29 ((show fnX Tryd.prog ω A_internal_strconv_ParseUint Tryd.f29 [s_p, base_p, bitSize_p] h R X = W_internal_strconv_ParseUint ω s_p base_p bitSize_p h R X by kernel_rfl) ▸ hk)

/-- strconv.syntaxError -/
abbrev n_strconv_syntaxError : Nat := 30
def W_strconv_syntaxError (ω : Amb) (fn_p str_p : Value) (h : Hp) (R : Value → Hp → Prop) (X : List PanicEntry → Hp → Prop) : Prop :=
 ∃ v0, cellH h ⟨0, 0, none⟩ = some v0 ∧
 CallX Tryd.prog ω 36 [str_p] h (fun r1 h2 =>
 cellH h2 ⟨0, 0, none⟩ = some v0 ∧ oneK fn_p (oneK r1 (oneK v0 (R (.pointer (some ⟨Array.size h2, 0, none⟩)) (Array.push h2 (.cells #[fn_p, r1, v0] 62 (0, 0))))))) X
def A_strconv_syntaxError : Ann :=
 (.two .leaf (.two (.plan [0, 1, 3, 2, 4, 5, 6]) .leaf))
theorem C_strconv_syntaxError (ω : Amb) (fn_p str_p : Value) (h : Hp) (R : Value → Hp → Prop) (X : List PanicEntry → Hp → Prop) (hk : W_strconv_syntaxError ω fn_p str_p h R X) : CallX Tryd.prog ω 30 [fn_p, str_p] h R X :=
 callX_of (an := A_strconv_syntaxError) Tryd.func30 ((show fnX Tryd.prog ω A_strconv_syntaxError Tryd.f30 [fn_p, str_p] h R X = W_strconv_syntaxError ω fn_p str_p h R X by kernel_rfl) ▸ hk)

/-- strconv.rangeError -/
abbrev n_strconv_rangeError : Nat := 31
def W_strconv_rangeError (ω : Amb) (fn_p str_p : Value) (h : Hp) (R : Value → Hp → Prop) (X : List PanicEntry → Hp → Prop) : Prop :=
 ∃ v0, cellH h ⟨1, 0, none⟩ = some v0 ∧
 CallX Tryd.prog ω 36 [str_p] h (fun r1 h2 =>
 cellH h2 ⟨1, 0, none⟩ = some v0 ∧ oneK fn_p (oneK r1 (oneK v0 (R (.pointer (some ⟨Array.size h2, 0, none⟩)) (Array.push h2 (.cells #[fn_p, r1, v0] 62 (0, 0))))))) X
def A_strconv_rangeError : Ann :=
 (.two .leaf (.two (.plan [0, 1, 3, 2, 4, 5, 6]) .leaf))
theorem C_strconv_rangeError (ω : Amb) (fn_p str_p : Value) (h : Hp) (R : Value → Hp → Prop) (X : List PanicEntry → Hp → Prop) (hk : W_strconv_rangeError ω fn_p str_p h R X) : CallX Tryd.prog ω 31 [fn_p, str_p] h R X :=
 callX_of (an := A_strconv_rangeError) Tryd.func31 ((show fnX Tryd.prog ω A_strconv_rangeError Tryd.f31 [fn_p, str_p] h R X = W_strconv_rangeError ω fn_p str_p h R X by kernel_rfl) ▸ hk)

/-- strconv.baseError -/
abbrev n_strconv_baseError : Nat := 32
def W_strconv_baseError (ω : Amb) (fn_p str_p base_p : Value) (h : Hp) (R : Value → Hp → Prop) (X : List PanicEntry → Hp → Prop) : Prop :=
 CallX Tryd.prog ω 36 [str_p] h (fun r0 h1 =>
 CallX Tryd.prog ω 38 [base_p] h1 (fun r2 h3 =>
 asS r2 fun s4 => ByteArray.size ⟨#[105, 110, 118, 97, 108, 105, 100, 32, 98, 97, 115, 101, 32]⟩ + ByteArray.size s4 ≤ 9223372036854775807 ∧ CallX Tryd.prog ω 37 [(.string (⟨#[105, 110, 118, 97, 108, 105, 100, 32, 98, 97, 115, 101, 32]⟩ ++ s4))] h3 (fun r5 h6 =>
 oneK fn_p (oneK r0 (oneK r5 (R (.pointer (some ⟨Array.size h6, 0, none⟩)) (Array.push h6 (.cells #[fn_p, r0, r5] 62 (0, 0))))))) X) X) X
def A_strconv_baseError : Ann :=
 (.two .leaf (.two .leaf .leaf))
theorem C_strconv_baseError (ω : Amb) (fn_p str_p base_p : Value) (h : Hp) (R : Value → Hp → Prop) (X : List PanicEntry → Hp → Prop) (hk : W_strconv_baseError ω fn_p str_p base_p h R X) : CallX Tryd.prog ω 32 [fn_p, str_p, base_p] h R X :=
 callX_of (an := A_strconv_baseError) Tryd.func32 ((show fnX Tryd.prog ω A_strconv_baseError Tryd.f32 [fn_p, str_p, base_p] h R X = W_strconv_baseError ω fn_p str_p base_p h R X by kernel_rfl) ▸ hk)

/-- strconv.bitSizeError -/
abbrev n_strconv_bitSizeError : Nat := 33
def W_strconv_bitSizeError (ω : Amb) (fn_p str_p bitSize_p : Value) (h : Hp) (R : Value → Hp → Prop) (X : List PanicEntry → Hp → Prop) : Prop :=
 CallX Tryd.prog ω 36 [str_p] h (fun r0 h1 =>
 CallX Tryd.prog ω 38 [bitSize_p] h1 (fun r2 h3 =>
 asS r2 fun s4 => ByteArray.size ⟨#[105, 110, 118, 97, 108, 105, 100, 32, 98, 105, 116, 32, 115, 105, 122, 101, 32]⟩ + ByteArray.size s4 ≤ 9223372036854775807 ∧ CallX Tryd.prog ω 37 [(.string (⟨#[105, 110, 118, 97, 108, 105, 100, 32, 98, 105, 116, 32, 115, 105, 122, 101, 32]⟩ ++ s4))] h3 (fun r5 h6 =>
 oneK fn_p (oneK r0 (oneK r5 (R (.pointer (some ⟨Array.size h6, 0, none⟩)) (Array.push h6 (.cells #[fn_p, r0, r5] 62 (0, 0))))))) X) X) X
def A_strconv_bitSizeError : Ann :=
 (.two .leaf (.two .leaf .leaf))
theorem C_strconv_bitSizeError (ω : Amb) (fn_p str_p bitSize_p : Value) (h : Hp) (R : Value → Hp → Prop) (X : List PanicEntry → Hp → Prop) (hk : W_strconv_bitSizeError ω fn_p str_p bitSize_p h R X) : CallX Tryd.prog ω 33 [fn_p, str_p, bitSize_p] h R X :=
 callX_of (an := A_strconv_bitSizeError) Tryd.func33 ((show fnX Tryd.prog ω A_strconv_bitSizeError Tryd.f33 [fn_p, str_p, bitSize_p] h R X = W_strconv_bitSizeError ω fn_p str_p bitSize_p h R X by kernel_rfl) ▸ hk)

/-- internal/strconv.lower -/
abbrev n_internal_strconv_lower : Nat := 34
def W_internal_strconv_lower (ω : Amb) (c_p : Value) (h : Hp) (R : Value → Hp → Prop) (X : List PanicEntry → Hp → Prop) : Prop :=
 asK .u8 c_p fun n0 => R (.int .u8 (bitI .u8 .or n0 32)) h
def A_internal_strconv_lower : Ann :=
 (.two .leaf (.two .leaf .leaf))
theorem C_internal_strconv_lower (ω : Amb) (c_p : Value) (h : Hp) (R : Value → Hp → Prop) (X : List PanicEntry → Hp → Prop) (hk : W_internal_strconv_lower ω c_p h R X) : CallX Tryd.prog ω 34 [c_p] h R X :=
 callX_of (an := A_internal_strconv_lower) Tryd.func34 ((show fnX Tryd.prog ω A_internal_strconv_lower Tryd.f34 [c_p] h R X = W_internal_strconv_lower ω c_p h R X by kernel_rfl) ▸ hk)

end Go.Proofs.YtgfpcpkpclpdcaaDoor.Sx
