/- Formulas of the functions' texts, written by a program of ours; each is checked by the kernel. -/
import Derived.Test.YtkeeboomikkojaaGreatDoorSxCore
import Derived.KernelRfl
import Derived.Test.YtkeeboomikkojaaGreatDoorProg
set_option linter.unusedVariables false
set_option maxRecDepth 100000
namespace Go.Proofs.YtkeeboomikkojaaGreatDoor.Sx
open Go Go.Sx Go.Proofs

/-- pipewright/token.Scan -/
abbrev n_token_Scan : Nat := 29
def W_token_Scan (ω : Amb) (src_p : Value) (h : Hp) (R : Value → Hp → Prop) (X : List PanicEntry → Hp → Prop) : Prop :=
 asS src_p fun s0 => cond (decide (((ByteArray.size s0 : Int) : Int) > 12000))
 (2 = 2 ∧ (∀ u ∈ [(.int .i64 1), (.int .i64 12000)], one u) ∧ storeK (Array.push h (.cells #[(.int .i64 0), (.int .i64 0)] 28 (0, 0))) ⟨Array.size h, 0, none⟩ [(.int .i64 1), (.int .i64 12000)] fun h1 =>
 ∃ C2, cellsH h1 ⟨Array.size h, 0, none⟩ 2 C2 ∧ R (.tuple #[(.slice none 0 0), (.agg C2.toArray)]) h1)
 (oneK src_p (CallX Tryz.prog ω 52 [(.pointer (some ⟨Array.size (Array.push h (.cells #[(.int .i64 0), (.int .i64 0)] 28 (0, 0))), 0, none⟩))] (Array.push (Array.push h (.cells #[(.int .i64 0), (.int .i64 0)] 28 (0, 0))) (.cells #[src_p, (.int .i64 0), (.slice none 0 0)] 97 (0, 0))) (fun r3 h4 =>
 ∃ (I5 : Hp → Prop) (μ6 : Hp → Nat), I5 h4 ∧ ∀  (d7 : Nat → Value) (h8 : Hp), I5 h8 →
 ∃ v9, cellH h8 (Addr.add ⟨Array.size (Array.push h (.cells #[(.int .i64 0), (.int .i64 0)] 28 (0, 0))), 0, none⟩ 1) = some v9 ∧
 asS src_p fun s10 => asK .i64 v9 fun n11 => cond (decide ((n11 : Int) < (ByteArray.size s10 : Int)))
 (∃ v12, cellH h8 (Addr.add ⟨Array.size (Array.push h (.cells #[(.int .i64 0), (.int .i64 0)] 28 (0, 0))), 0, none⟩ 1) = some v12 ∧
 CallX Tryz.prog ω 53 [(.pointer (some ⟨Array.size (Array.push h (.cells #[(.int .i64 0), (.int .i64 0)] 28 (0, 0))), 0, none⟩))] h8 (fun r13 h14 =>
 asK .i64 r13 fun n15 => cond (n15 != (0 : Int))
 (oneK r13 (oneK v12 (2 = 2 ∧ (∀ u ∈ [r13, v12], one u) ∧ storeK h14 ⟨Array.size h, 0, none⟩ [r13, v12] fun h16 =>
 ∃ C17, cellsH h16 ⟨Array.size h, 0, none⟩ 2 C17 ∧ R (.tuple #[(.slice none 0 0), (.agg C17.toArray)]) h16)))
 (CallX Tryz.prog ω 52 [(.pointer (some ⟨Array.size (Array.push h (.cells #[(.int .i64 0), (.int .i64 0)] 28 (0, 0))), 0, none⟩))] h14 (fun r18 h19 =>
 I5 h19 ∧ μ6 h19 < μ6 h8) X)) X)
 (∃ v20, cellH h8 (Addr.add ⟨Array.size (Array.push h (.cells #[(.int .i64 0), (.int .i64 0)] 28 (0, 0))), 0, none⟩ 2) = some v20 ∧
 2 = 2 ∧ (∀ u ∈ [(.int .i64 0), (.int .i64 0)], one u) ∧ storeK h8 ⟨Array.size h, 0, none⟩ [(.int .i64 0), (.int .i64 0)] fun h21 =>
 ∃ C22, cellsH h21 ⟨Array.size h, 0, none⟩ 2 C22 ∧ R (.tuple #[v20, (.agg C22.toArray)]) h21)) X))
def A_token_Scan : Ann :=
 (.two .leaf (.two (.two .leaf (.two (.two .leaf .leaf) .leaf)) (.two .leaf (.two (.two .leaf (.one (.loop [16, 17, 18, 19, 20, 21, 22, 25, 26, 27, 28, 5, 29, 30, 6, 31, 32, 33, 34, 35, 2, 23, 24] [] (.two (.two .leaf (.two .leaf .leaf)) (.two (.one (.two .leaf (.two .leaf (.two .leaf (.two (.two .leaf .leaf) .leaf))))) .leaf))))) (.two .leaf .leaf)))))
theorem C_token_Scan (ω : Amb) (src_p : Value) (h : Hp) (R : Value → Hp → Prop) (X : List PanicEntry → Hp → Prop) (hk : W_token_Scan ω src_p h R X) : CallX Tryz.prog ω 29 [src_p] h R X :=
 callX_of (an := A_token_Scan) Tryz.func29 ((show fnX Tryz.prog ω A_token_Scan Tryz.f29 [src_p] h R X = W_token_Scan ω src_p h R X by kernel_rfl) ▸ hk)

/-- (*pipewright/token.scanner).blank -/
abbrev n_p_token_scanner_blank : Nat := 52
def W_p_token_scanner_blank (ω : Amb) (s_p : Value) (h : Hp) (R : Value → Hp → Prop) (X : List PanicEntry → Hp → Prop) : Prop :=
 ∃ (I0 : Value → Hp → Prop) (μ1 : Value → Hp → Nat), I0 (.bool false) h ∧ ∀ remark_2 (d3 : Nat → Value) (h4 : Hp), I0 remark_2 h4 →
 nnK s_p (asP s_p fun p5 =>
 ∃ v6, cellH h4 (Addr.add p5 1) = some v6 ∧
 nnK s_p (asP s_p fun p7 =>
 ∃ v8, cellH h4 (Addr.add p7 0) = some v8 ∧
 asS v8 fun s9 => asK .i64 v6 fun n10 => cond (decide ((n10 : Int) < (ByteArray.size s9 : Int)))
 (nnK s_p (asP s_p fun p11 =>
 ∃ v12, cellH h4 (Addr.add p11 0) = some v12 ∧
 nnK s_p (asP s_p fun p13 =>
 ∃ v14, cellH h4 (Addr.add p13 1) = some v14 ∧
 asS v12 fun s15 => asI v14 fun n16 => 0 ≤ (n16 : Int) ∧ n16 < (ByteArray.size s15 : Int) ∧ ∃ J17 : Value → Hp → Prop,
 (∃ J21 : Value → Hp → Prop,
 (cond ((byteAt s15 n16) == (10 : Int))
 (J21 (.bool false) h4)
 (∃ J25 : Value → Hp → Prop,
 (asB remark_2 fun b29 => cond b29
 (J25 remark_2 h4)
 (∃ J30 : Value → Hp → Prop,
 (cond ((byteAt s15 n16) == (32 : Int))
 (J30 (.bool ((byteAt s15 n16) == (32 : Int))) h4)
 (∃ J34 : Value → Hp → Prop,
 (cond ((byteAt s15 n16) == (9 : Int))
 (J34 (.bool ((byteAt s15 n16) == (9 : Int))) h4)
 (J34 (.bool ((byteAt s15 n16) == (13 : Int))) h4)) ∧
 ∀ t26_35 (d36 : Nat → Value) (h37 : Hp), J34 t26_35 h37 →
 J30 t26_35 h37)) ∧
 ∀ t26_31 (d32 : Nat → Value) (h33 : Hp), J30 t26_31 h33 →
 J25 t26_31 h33)) ∧
 ∀ t26_26 (d27 : Nat → Value) (h28 : Hp), J25 t26_26 h28 →
 ∃ J38 : Value → Hp → Prop,
 (asB t26_26 fun b42 => cond b42
 (J38 remark_2 h28)
 (cond ((byteAt s15 n16) == (35 : Int))
 (J38 (.bool true) h28)
 (R (.tuple #[]) h28))) ∧
 ∀ remark_39 (d40 : Nat → Value) (h41 : Hp), J38 remark_39 h41 →
 J21 remark_39 h41)) ∧
 ∀ remark_22 (d23 : Nat → Value) (h24 : Hp), J21 remark_22 h24 →
 J17 remark_22 h24) ∧
 ∀ remark_18 (d19 : Nat → Value) (h20 : Hp), J17 remark_18 h20 →
 nnK s_p (asP s_p fun p43 =>
 ∃ v44, cellH h20 (Addr.add p43 1) = some v44 ∧
 asK .i64 v44 fun n45 => nnK s_p (asP s_p fun p46 =>
 storeK1 h20 (Addr.add p46 1) (.int .i64 (IntKind.wrap .i64 (n45 + 1))) fun h47 =>
 I0 remark_18 h47 ∧ μ1 remark_18 h47 < μ1 remark_2 h4)))))
 (R (.tuple #[]) h4)))
def A_p_token_scanner_blank : Ann :=
 (.two .leaf (.one (.loop [4, 5, 6, 7, 8, 9, 10, 11, 12, 13, 14, 15, 16, 17, 18, 19, 20, 21, 22, 3, 24, 25, 23, 2, 27, 26, 28, 29, 30, 31, 32, 33, 35, 36, 34, 37, 38, 39, 40, 41, 42, 43] [2] (.two (.two (.plan [0, 1, 2, 3, 4, 5, 6, 7, 8, 9]) (.two .leaf .leaf)) (.one (.two (.two (.plan [0, 1, 2, 3, 4, 5, 6, 7, 8, 9]) (.join [24, 25, 23, 2, 27, 26, 28, 29, 30, 31, 32, 33, 35, 36, 34] [2] (.one (.two .leaf (.join [2, 27, 26, 28, 29, 30, 31, 32, 33, 35, 36, 34] [2] (.two .leaf (.two (.two .leaf (.join [28, 29, 26, 30, 31, 32, 33] [26] (.two .leaf (.two .leaf (.join [30, 31, 26, 32, 33] [26] (.two .leaf (.two .leaf (.join [32, 33, 26] [26] (.two .leaf .leaf))))))))) (.join [35, 36, 34, 2] [2] (.two .leaf (.two .leaf (.two .leaf .leaf))))))))))) .leaf))))))
theorem C_p_token_scanner_blank (ω : Amb) (s_p : Value) (h : Hp) (R : Value → Hp → Prop) (X : List PanicEntry → Hp → Prop) (hk : W_p_token_scanner_blank ω s_p h R X) : CallX Tryz.prog ω 52 [s_p] h R X :=
 callX_of (an := A_p_token_scanner_blank) Tryz.func52 ((show fnX Tryz.prog ω A_p_token_scanner_blank Tryz.f52 [s_p] h R X = W_p_token_scanner_blank ω s_p h R X by kernel_rfl) ▸ hk)

/-- (*pipewright/token.scanner).one -/
abbrev n_p_token_scanner_one : Nat := 53
def W_p_token_scanner_one (ω : Amb) (s_p : Value) (h : Hp) (R : Value → Hp → Prop) (X : List PanicEntry → Hp → Prop) : Prop :=
 nnK s_p (asP s_p fun p0 =>
 ∃ v1, cellH h (Addr.add p0 1) = some v1 ∧
 oneK v1 (4 = 4 ∧ (∀ u ∈ [(.int .i64 0), v1, (.string ⟨#[]⟩), (.int .i64 0)], one u) ∧ storeK (Array.push h (.cells #[(.int .i64 0), (.int .i64 0), (.string ⟨#[]⟩), (.int .i64 0)] 100 (0, 0))) ⟨Array.size h, 0, none⟩ [(.int .i64 0), v1, (.string ⟨#[]⟩), (.int .i64 0)] fun h2 =>
 nnK s_p (asP s_p fun p3 =>
 ∃ v4, cellH h2 (Addr.add p3 0) = some v4 ∧
 nnK s_p (asP s_p fun p5 =>
 ∃ v6, cellH h2 (Addr.add p5 1) = some v6 ∧
 asS v4 fun s7 => asI v6 fun n8 => 0 ≤ (n8 : Int) ∧ n8 < (ByteArray.size s7 : Int) ∧ ∃ J9 : Hp → Prop,
 (CallX Tryz.prog ω 80 [(.int .u8 (byteAt s7 n8))] h2 (fun r12 h13 =>
 ∃ J14 : Hp → Prop,
 (asB r12 fun b17 => cond b17
 (CallX Tryz.prog ω 81 [s_p] h13 (fun r18 h19 =>
 oneK r18 (storeK1 h19 (Addr.add ⟨Array.size h, 0, none⟩ 2) r18 fun h20 =>
 storeK1 h20 (Addr.add ⟨Array.size h, 0, none⟩ 0) (.int .i64 2) fun h21 =>
 ∃ v22, cellH h21 (Addr.add ⟨Array.size h, 0, none⟩ 2) = some v22 ∧
 CallX Tryz.prog ω 82 [v22] h21 (fun r23 h24 =>
 ∃ J25 : Hp → Prop,
 (asB r23 fun b28 => cond b28
 (storeK1 h24 (Addr.add ⟨Array.size h, 0, none⟩ 0) (.int .i64 1) fun h29 =>
 J25 h29)
 (∃ v30, cellH h24 (Addr.add ⟨Array.size h, 0, none⟩ 2) = some v30 ∧
 asS v30 fun s31 => cond (decide (((ByteArray.size s31 : Int) : Int) > 12))
 (R (.int .i64 4) h24)
 (J25 h24))) ∧
 ∀  (d26 : Nat → Value) (h27 : Hp), J25 h27 →
 J14 h27) X)) X)
 (CallX Tryz.prog ω 83 [(.int .u8 (byteAt s7 n8))] h13 (fun r32 h33 =>
 ∃ J34 : Hp → Prop,
 (asB r32 fun b37 => cond b37
 (CallX Tryz.prog ω 81 [s_p] h33 (fun r38 h39 =>
 oneK r38 (storeK1 h39 (Addr.add ⟨Array.size h, 0, none⟩ 2) r38 fun h40 =>
 ∃ v41, cellH h40 (Addr.add ⟨Array.size h, 0, none⟩ 2) = some v41 ∧
 CallX Tryz.prog ω 84 [v41] h40 (fun r42 h43 =>
 asT r42 fun T44 => asO T44[0]? fun v45 => asT r42 fun T46 => asO T46[1]? fun v47 => asB v47 fun b48 => cond (!b48)
 (R (.int .i64 3) h43)
 (storeK1 h43 (Addr.add ⟨Array.size h, 0, none⟩ 0) (.int .i64 3) fun h49 =>
 oneK v45 (storeK1 h49 (Addr.add ⟨Array.size h, 0, none⟩ 3) v45 fun h50 =>
 J34 h50))) X)) X)
 (CallX Tryz.prog ω 85 [s_p] h33 (fun r51 h52 =>
 storeK1 h52 (Addr.add ⟨Array.size h, 0, none⟩ 0) (.int .i64 4) fun h53 =>
 oneK r51 (storeK1 h53 (Addr.add ⟨Array.size h, 0, none⟩ 2) r51 fun h54 =>
 ∃ v55, cellH h54 (Addr.add ⟨Array.size h, 0, none⟩ 2) = some v55 ∧
 asS v55 fun s56 => cond (ByteArray.toList s56 == ByteArray.toList ⟨#[]⟩)
 (R (.int .i64 2) h54)
 (nnK s_p (asP s_p fun p57 =>
 ∃ v58, cellH h54 (Addr.add p57 1) = some v58 ∧
 ∃ v59, cellH h54 (Addr.add ⟨Array.size h, 0, none⟩ 2) = some v59 ∧
 asS v59 fun s60 => asK .i64 v58 fun n61 => nnK s_p (asP s_p fun p62 =>
 storeK1 h54 (Addr.add p62 1) (.int .i64 (IntKind.wrap .i64 (n61 + (ByteArray.size s60 : Int)))) fun h63 =>
 J34 h63))))) X)) ∧
 ∀  (d35 : Nat → Value) (h36 : Hp), J34 h36 →
 J14 h36) X)) ∧
 ∀  (d15 : Nat → Value) (h16 : Hp), J14 h16 →
 J9 h16) X) ∧
 ∀  (d10 : Nat → Value) (h11 : Hp), J9 h11 →
 nnK s_p (asP s_p fun p64 =>
 ∃ v65, cellH h11 (Addr.add p64 2) = some v65 ∧
 ∃ C66, cellsH h11 ⟨Array.size h, 0, none⟩ 4 C66 ∧
 C66.toArray.size = 4 ∧ cellH (Array.push h11 (.cells (List.toArray (C66.toArray.toList ++ [])) 100 (0, 0))) (Addr.add p64 2) = some v65 ∧ appK Tryz.prog 64 (Array.push h11 (.cells (List.toArray (C66.toArray.toList ++ [])) 100 (0, 0))) v65 (.slice (some ⟨Array.size h11, 0, none⟩) 1 1) fun w67 h68 =>
 nnK s_p (asP s_p fun p69 =>
 oneK w67 (storeK1 h68 (Addr.add p69 2) w67 fun h70 =>
 R (.int .i64 0) h70)))))))
def A_p_token_scanner_one : Ann :=
 (.two .leaf (.two .leaf (.two (.two (.plan [0, 1, 2, 3, 4, 5, 6, 7, 8, 9]) (.join [39, 40, 38, 41, 42, 43, 44, 45, 46, 47, 48, 49, 50, 51, 52, 2, 54, 55, 53, 56, 57, 58, 60, 61, 62, 59, 63, 64, 5, 6, 65, 66, 67, 68, 69, 21, 22, 23, 24, 25, 26, 27, 28, 29, 30, 31, 32, 33, 34, 35, 36, 37] [] (.one (.two .leaf (.join [41, 42, 43, 44, 45, 46, 47, 48, 49, 50, 51, 52, 2, 54, 55, 53, 56, 57, 58, 60, 61, 62, 59, 63, 64, 5, 6, 65, 66, 67, 68, 69, 21, 22, 23, 24, 25, 26, 27, 28, 29, 30, 31, 32, 33, 34, 35, 36, 37] [] (.two (.two .leaf (.two .leaf (.two .leaf (.join [48, 49, 50, 51, 52, 2] [] (.two .leaf (.two .leaf (.two (.two .leaf .leaf) .leaf))))))) (.two .leaf (.join [56, 57, 58, 60, 61, 62, 59, 63, 64, 5, 6, 65, 66, 2, 67, 68, 69, 21, 22, 23, 24, 25, 26, 27, 28, 29, 30, 31, 32, 33, 34, 35, 36, 37] [] (.two (.two .leaf (.two .leaf (.two (.two .leaf (.two (.two .leaf .leaf) .leaf)) .leaf))) (.two .leaf (.two (.two .leaf (.two (.two .leaf .leaf) .leaf)) (.plan [0, 1, 2, 3, 4, 5, 6, 7, 8, 9, 10])))))))))))) (.two (.plan [0, 1, 2, 3, 4, 5, 6, 7, 8, 9, 10]) (.two .leaf .leaf)))))
theorem C_p_token_scanner_one (ω : Amb) (s_p : Value) (h : Hp) (R : Value → Hp → Prop) (X : List PanicEntry → Hp → Prop) (hk : W_p_token_scanner_one ω s_p h R X) : CallX Tryz.prog ω 53 [s_p] h R X :=
 callX_of (an := A_p_token_scanner_one) Tryz.func53 ((show fnX Tryz.prog ω A_p_token_scanner_one Tryz.f53 [s_p] h R X = W_p_token_scanner_one ω s_p h R X by kernel_rfl) ▸ hk)

/-- (*pipewright/token.scanner).run -/
abbrev n_p_token_scanner_run : Nat := 81
def W_p_token_scanner_run (ω : Amb) (s_p : Value) (h : Hp) (R : Value → Hp → Prop) (X : List PanicEntry → Hp → Prop) : Prop :=
 nnK s_p (asP s_p fun p0 =>
 ∃ v1, cellH h (Addr.add p0 1) = some v1 ∧
 ∃ (I2 : Hp → Prop) (μ3 : Hp → Nat), I2 h ∧ ∀  (d4 : Nat → Value) (h5 : Hp), I2 h5 →
 ∃ J6 : Value → Hp → Prop,
 (nnK s_p (asP s_p fun p10 =>
 ∃ v11, cellH h5 (Addr.add p10 1) = some v11 ∧
 nnK s_p (asP s_p fun p12 =>
 ∃ v13, cellH h5 (Addr.add p12 0) = some v13 ∧
 asS v13 fun s14 => asK .i64 v11 fun n15 => cond (decide ((n15 : Int) < (ByteArray.size s14 : Int)))
 (nnK s_p (asP s_p fun p16 =>
 ∃ v17, cellH h5 (Addr.add p16 0) = some v17 ∧
 nnK s_p (asP s_p fun p18 =>
 ∃ v19, cellH h5 (Addr.add p18 1) = some v19 ∧
 asS v17 fun s20 => asI v19 fun n21 => 0 ≤ (n21 : Int) ∧ n21 < (ByteArray.size s20 : Int) ∧ CallX Tryz.prog ω 80 [(.int .u8 (byteAt s20 n21))] h5 (fun r22 h23 =>
 asB r22 fun b24 => cond b24
 (J6 (.bool true) h23)
 (nnK s_p (asP s_p fun p25 =>
 ∃ v26, cellH h23 (Addr.add p25 0) = some v26 ∧
 nnK s_p (asP s_p fun p27 =>
 ∃ v28, cellH h23 (Addr.add p27 1) = some v28 ∧
 asS v26 fun s29 => asI v28 fun n30 => 0 ≤ (n30 : Int) ∧ n30 < (ByteArray.size s29 : Int) ∧ CallX Tryz.prog ω 83 [(.int .u8 (byteAt s29 n30))] h23 (fun r31 h32 =>
 J6 r31 h32) X)))) X)))
 (J6 (.bool false) h5)))) ∧
 ∀ t41_7 (d8 : Nat → Value) (h9 : Hp), J6 t41_7 h9 →
 asB t41_7 fun b33 => cond b33
 (nnK s_p (asP s_p fun p34 =>
 ∃ v35, cellH h9 (Addr.add p34 1) = some v35 ∧
 asK .i64 v35 fun n36 => nnK s_p (asP s_p fun p37 =>
 storeK1 h9 (Addr.add p37 1) (.int .i64 (IntKind.wrap .i64 (n36 + 1))) fun h38 =>
 I2 h38 ∧ μ3 h38 < μ3 h5)))
 (nnK s_p (asP s_p fun p39 =>
 ∃ v40, cellH h9 (Addr.add p39 0) = some v40 ∧
 nnK s_p (asP s_p fun p41 =>
 ∃ v42, cellH h9 (Addr.add p41 1) = some v42 ∧
 asS v40 fun s43 => asI v1 fun n44 => asI v42 fun n45 => 0 ≤ (n44 : Int) ∧ (n44 : Int) ≤ n45 ∧ n45 ≤ (ByteArray.size s43 : Int) ∧ R (.string (ByteArray.extract s43 (Int.toNat n44) (Int.toNat n45))) h9))))
def A_p_token_scanner_run : Ann :=
 (.two .leaf (.two .leaf (.two (.one (.loop [8, 9, 10, 11, 12, 13, 14, 15, 16, 17, 18, 19, 20, 21, 22, 23, 24, 25, 26, 27, 28, 29, 30, 31, 32, 33, 34, 35, 36, 37, 38, 39, 40, 41, 42, 43, 44, 45, 46, 47, 48] [] (.two (.two (.join [8, 9, 10, 11, 12, 13, 14, 15, 16, 17, 18, 19, 20, 21, 22, 23, 24, 25, 26, 27, 28, 29, 30, 31, 32, 33, 34, 35, 36, 37, 38, 39, 40, 41] [41] (.plan [0, 1, 2, 3, 4, 5, 6, 7, 8, 9, 10, 11, 12, 13, 14, 15, 16, 17, 18, 19, 20, 21, 22, 23, 24, 25, 26, 27, 28, 29, 30, 31, 32, 33])) (.two .leaf .leaf)) (.one .leaf)))) (.two (.plan [0, 1, 2, 3, 4, 5, 6, 7, 8, 9, 10]) .leaf))))
theorem C_p_token_scanner_run (ω : Amb) (s_p : Value) (h : Hp) (R : Value → Hp → Prop) (X : List PanicEntry → Hp → Prop) (hk : W_p_token_scanner_run ω s_p h R X) : CallX Tryz.prog ω 81 [s_p] h R X :=
 callX_of (an := A_p_token_scanner_run) Tryz.func81 ((show fnX Tryz.prog ω A_p_token_scanner_run Tryz.f81 [s_p] h R X = W_p_token_scanner_run ω s_p h R X by kernel_rfl) ▸ hk)

/-- pipewright/token.number -/
abbrev n_token_number : Nat := 84
def W_token_number (ω : Amb) (s_p : Value) (h : Hp) (R : Value → Hp → Prop) (X : List PanicEntry → Hp → Prop) : Prop :=
 ∃ β0 : Bool,
 (asS s_p fun s2 => cond (decide (((ByteArray.size s2 : Int) : Int) > 18))
 (((.bool true) : Value) = .bool β0 ∧ h = h)
 (asS s_p fun s3 => cond (decide (((ByteArray.size s3 : Int) : Int) > 1))
 (asS s_p fun s4 => 0 ≤ (0 : Int) ∧ 0 < (ByteArray.size s4 : Int) ∧ ((.bool ((byteAt s4 0) == (48 : Int))) : Value) = .bool β0 ∧ h = h)
 (((.bool false) : Value) = .bool β0 ∧ h = h))) ∧
 ∀ d1 : Nat → Value,
 cond β0
 (R (.tuple #[(.int .i64 0), (.bool false)]) h)
 (asS s_p fun s5 => ∃ (I6 : Value → Hp → Prop) (μ7 : Value → Hp → Nat), I6 (.int .i64 0) h ∧ ∀ t22_8 (d9 : Nat → Value) (h10 : Hp), I6 t22_8 h10 →
 asK .i64 t22_8 fun n11 => cond (decide ((n11 : Int) < (ByteArray.size s5 : Int)))
 (asS s_p fun s12 => asI t22_8 fun n13 => 0 ≤ (n13 : Int) ∧ n13 < (ByteArray.size s12 : Int) ∧ CallX Tryz.prog ω 83 [(.int .u8 (byteAt s12 n13))] h10 (fun r14 h15 =>
 asB r14 fun b16 => cond (!b16)
 (R (.tuple #[(.int .i64 0), (.bool false)]) h15)
 (asK .i64 t22_8 fun n17 => I6 (.int .i64 (IntKind.wrap .i64 (n17 + 1))) h15 ∧ μ7 (.int .i64 (IntKind.wrap .i64 (n17 + 1))) h15 < μ7 t22_8 h10)) X)
 (CallX Tryz.prog ω 108 [s_p, (.int .i64 10), (.int .i64 64)] h10 (fun r18 h19 =>
 asT r18 fun T20 => asO T20[0]? fun v21 => asT r18 fun T22 => asO T22[1]? fun v23 => asIf v23 fun b24 => R (.tuple #[v21, (.bool b24)]) h19) X))
def A_token_number : Ann :=
 (.two .leaf (.two (.two (.jb [7, 8, 9, 10, 11, 12, 13, 14, 15, 16, 17, 18, 19] 19 .leaf) (.two (.two .leaf .leaf) .leaf)) (.two (.two .leaf (.one (.loop [23, 24, 4, 25, 26, 27, 28, 29, 2, 3, 30, 22] [22] (.two .leaf (.two (.two .leaf .leaf) (.two (.one (.two .leaf (.two .leaf (.two (.two .leaf .leaf) .leaf)))) .leaf)))))) (.two .leaf (.two (.plan [0, 1, 2, 3, 4]) .leaf)))))
theorem C_token_number (ω : Amb) (s_p : Value) (h : Hp) (R : Value → Hp → Prop) (X : List PanicEntry → Hp → Prop) (hk : W_token_number ω s_p h R X) : CallX Tryz.prog ω 84 [s_p] h R X :=
 callX_of (an := A_token_number) Tryz.func84 ((show fnX Tryz.prog ω A_token_number Tryz.f84 [s_p] h R X = W_token_number ω s_p h R X by kernel_rfl) ▸ hk)

/-- (*pipewright/token.scanner).sign -/
abbrev n_p_token_scanner_sign : Nat := 85
def W_p_token_scanner_sign (ω : Amb) (s_p : Value) (h : Hp) (R : Value → Hp → Prop) (X : List PanicEntry → Hp → Prop) : Prop :=
 nnK s_p (asP s_p fun p0 =>
 ∃ v1, cellH h (Addr.add p0 0) = some v1 ∧
 nnK s_p (asP s_p fun p2 =>
 ∃ v3, cellH h (Addr.add p2 1) = some v3 ∧
 asS v1 fun s4 => asI v3 fun n5 => 0 ≤ (n5 : Int) ∧ n5 < (ByteArray.size s4 : Int) ∧ cond ((byteAt s4 n5) == (61 : Int))
 (∃ β6 : Bool,
 (nnK s_p (asP s_p fun p8 =>
 ∃ v9, cellH h (Addr.add p8 1) = some v9 ∧
 asK .i64 v9 fun n10 => nnK s_p (asP s_p fun p11 =>
 ∃ v12, cellH h (Addr.add p11 0) = some v12 ∧
 asS v12 fun s13 => cond (decide (((IntKind.wrap .i64 (n10 + 1)) : Int) < (ByteArray.size s13 : Int)))
 (nnK s_p (asP s_p fun p14 =>
 ∃ v15, cellH h (Addr.add p14 0) = some v15 ∧
 nnK s_p (asP s_p fun p16 =>
 ∃ v17, cellH h (Addr.add p16 1) = some v17 ∧
 asK .i64 v17 fun n18 => asS v15 fun s19 => 0 ≤ ((IntKind.wrap .i64 (n18 + 1)) : Int) ∧ (IntKind.wrap .i64 (n18 + 1)) < (ByteArray.size s19 : Int) ∧ ((.bool ((byteAt s19 (IntKind.wrap .i64 (n18 + 1))) == (61 : Int))) : Value) = .bool β6 ∧ h = h)))
 (((.bool false) : Value) = .bool β6 ∧ h = h)))) ∧
 ∀ d7 : Nat → Value,
 cond β6
 (R (.string ⟨#[61, 61]⟩) h)
 (R (.string ⟨#[61]⟩) h))
 (∃ J20 : Value → Hp → Prop,
 (cond ((byteAt s4 n5) == (40 : Int))
 (J20 (.bool ((byteAt s4 n5) == (40 : Int))) h)
 (∃ J24 : Value → Hp → Prop,
 (cond ((byteAt s4 n5) == (41 : Int))
 (J24 (.bool ((byteAt s4 n5) == (41 : Int))) h)
 (∃ J28 : Value → Hp → Prop,
 (cond ((byteAt s4 n5) == (123 : Int))
 (J28 (.bool ((byteAt s4 n5) == (123 : Int))) h)
 (∃ J32 : Value → Hp → Prop,
 (cond ((byteAt s4 n5) == (125 : Int))
 (J32 (.bool ((byteAt s4 n5) == (125 : Int))) h)
 (∃ J36 : Value → Hp → Prop,
 (cond ((byteAt s4 n5) == (44 : Int))
 (J36 (.bool ((byteAt s4 n5) == (44 : Int))) h)
 (∃ J40 : Value → Hp → Prop,
 (cond ((byteAt s4 n5) == (59 : Int))
 (J40 (.bool ((byteAt s4 n5) == (59 : Int))) h)
 (∃ J44 : Value → Hp → Prop,
 (cond ((byteAt s4 n5) == (43 : Int))
 (J44 (.bool ((byteAt s4 n5) == (43 : Int))) h)
 (∃ J48 : Value → Hp → Prop,
 (cond ((byteAt s4 n5) == (45 : Int))
 (J48 (.bool ((byteAt s4 n5) == (45 : Int))) h)
 (∃ J52 : Value → Hp → Prop,
 (cond ((byteAt s4 n5) == (42 : Int))
 (J52 (.bool ((byteAt s4 n5) == (42 : Int))) h)
 (J52 (.bool ((byteAt s4 n5) == (60 : Int))) h)) ∧
 ∀ t40_53 (d54 : Nat → Value) (h55 : Hp), J52 t40_53 h55 →
 J48 t40_53 h55)) ∧
 ∀ t40_49 (d50 : Nat → Value) (h51 : Hp), J48 t40_49 h51 →
 J44 t40_49 h51)) ∧
 ∀ t40_45 (d46 : Nat → Value) (h47 : Hp), J44 t40_45 h47 →
 J40 t40_45 h47)) ∧
 ∀ t40_41 (d42 : Nat → Value) (h43 : Hp), J40 t40_41 h43 →
 J36 t40_41 h43)) ∧
 ∀ t40_37 (d38 : Nat → Value) (h39 : Hp), J36 t40_37 h39 →
 J32 t40_37 h39)) ∧
 ∀ t40_33 (d34 : Nat → Value) (h35 : Hp), J32 t40_33 h35 →
 J28 t40_33 h35)) ∧
 ∀ t40_29 (d30 : Nat → Value) (h31 : Hp), J28 t40_29 h31 →
 J24 t40_29 h31)) ∧
 ∀ t40_25 (d26 : Nat → Value) (h27 : Hp), J24 t40_25 h27 →
 J20 t40_25 h27)) ∧
 ∀ t40_21 (d22 : Nat → Value) (h23 : Hp), J20 t40_21 h23 →
 asB t40_21 fun b56 => cond b56
 (R (.string (Utf8.encode (IntKind.wrap .i32 (byteAt s4 n5)))) h23)
 (R (.string ⟨#[]⟩) h23))))
def A_p_token_scanner_sign : Ann :=
 (.two .leaf (.two (.two (.plan [0, 1, 2, 3, 4, 5, 6, 7, 8, 9]) (.two .leaf (.one (.two .leaf (.two (.two (.two (.jb [16, 17, 18, 19, 20, 21, 22, 23, 24, 25, 26, 27, 28, 29, 30, 31, 32, 33, 34, 35, 36, 37, 38, 39] 39 (.plan [0, 1, 2, 3, 4, 5, 6, 7, 8, 9, 10, 11, 12, 13, 14, 15, 16, 17, 18, 19, 20, 21, 22, 23])) (.two (.two .leaf .leaf) .leaf)) (.two .leaf .leaf)) (.two (.two .leaf (.join [42, 40, 43, 44, 45, 46, 47, 48, 49, 50] [40] (.two .leaf (.two .leaf (.join [43, 40, 44, 45, 46, 47, 48, 49, 50] [40] (.two .leaf (.two .leaf (.join [44, 40, 45, 46, 47, 48, 49, 50] [40] (.two .leaf (.two .leaf (.join [45, 40, 46, 47, 48, 49, 50] [40] (.two .leaf (.two .leaf (.join [46, 40, 47, 48, 49, 50] [40] (.two .leaf (.two .leaf (.join [47, 40, 48, 49, 50] [40] (.two .leaf (.two .leaf (.join [48, 40, 49, 50] [40] (.two .leaf (.two .leaf (.join [49, 40, 50] [40] (.two .leaf (.two .leaf (.join [50, 40] [40] (.two .leaf .leaf))))))))))))))))))))))))))) (.two (.two .leaf .leaf) .leaf))))))) (.two .leaf .leaf)))
theorem C_p_token_scanner_sign (ω : Amb) (s_p : Value) (h : Hp) (R : Value → Hp → Prop) (X : List PanicEntry → Hp → Prop) (hk : W_p_token_scanner_sign ω s_p h R X) : CallX Tryz.prog ω 85 [s_p] h R X :=
 callX_of (an := A_p_token_scanner_sign) Tryz.func85 ((show fnX Tryz.prog ω A_p_token_scanner_sign Tryz.f85 [s_p] h R X = W_p_token_scanner_sign ω s_p h R X by kernel_rfl) ▸ hk)

/-- strconv.ParseInt -/
abbrev n_strconv_ParseInt : Nat := 108
def W_strconv_ParseInt (ω : Amb) (s_p base_p bitSize_p : Value) (h : Hp) (R : Value → Hp → Prop) (X : List PanicEntry → Hp → Prop) : Prop :=
 CallX Tryz.prog ω 127 [s_p, base_p, bitSize_p] h (fun r0 h1 =>
 asT r0 fun T2 => asO T2[0]? fun v3 => asT r0 fun T4 => asO T4[1]? fun v5 => asIf v5 fun b6 => cond (!b6)
 (CallX Tryz.prog ω 128 [(.string ⟨#[80, 97, 114, 115, 101, 73, 110, 116]⟩), s_p, base_p, bitSize_p, v5] h1 (fun r7 h8 =>
 R (.tuple #[v3, r7]) h8) X)
 (R (.tuple #[v3, .nilIface]) h1)) X
def A_strconv_ParseInt : Ann :=
 (.two .leaf (.two .leaf (.two (.two .leaf (.two (.two .leaf .leaf) .leaf)) (.two .leaf .leaf))))
theorem C_strconv_ParseInt (ω : Amb) (s_p base_p bitSize_p : Value) (h : Hp) (R : Value → Hp → Prop) (X : List PanicEntry → Hp → Prop) (hk : W_strconv_ParseInt ω s_p base_p bitSize_p h R X) : CallX Tryz.prog ω 108 [s_p, base_p, bitSize_p] h R X :=
 callX_of (an := A_strconv_ParseInt) Tryz.func108 ((show fnX Tryz.prog ω A_strconv_ParseInt Tryz.f108 [s_p, base_p, bitSize_p] h R X = W_strconv_ParseInt ω s_p base_p bitSize_p h R X by kernel_rfl) ▸ hk)

/-- internal/strconv.ParseInt -/
abbrev n_internal_strconv_ParseInt : Nat := 127
def W_internal_strconv_ParseInt (ω : Amb) (s_p base_p bitSize_p : Value) (h : Hp) (R : Value → Hp → Prop) (X : List PanicEntry → Hp → Prop) : Prop :=
 asS s_p fun s0 => cond (ByteArray.toList s0 == ByteArray.toList ⟨#[]⟩)
 (R (.tuple #[(.int .i64 0), (.iface 194 (.int .i64 2))]) h)
 (asS s_p fun s1 => 0 ≤ (0 : Int) ∧ 0 < (ByteArray.size s1 : Int) ∧ ∃ J2 : Value → Value → Hp → Prop,
 (∃ J7 : Value → Value → Hp → Prop,
 (cond ((byteAt s1 0) == (43 : Int))
 (asS s_p fun s12 => 0 ≤ (1 : Int) ∧ (1 : Int) ≤ (ByteArray.size s12 : Int) ∧ (ByteArray.size s12 : Int) ≤ (ByteArray.size s12 : Int) ∧ J7 (.string (ByteArray.extract s12 (Int.toNat 1) (Int.toNat (ByteArray.size s12 : Int)))) (.bool false) h)
 (∃ J13 : Value → Value → Hp → Prop,
 (cond ((byteAt s1 0) == (45 : Int))
 (asS s_p fun s18 => 0 ≤ (1 : Int) ∧ (1 : Int) ≤ (ByteArray.size s18 : Int) ∧ (ByteArray.size s18 : Int) ≤ (ByteArray.size s18 : Int) ∧ J13 (.string (ByteArray.extract s18 (Int.toNat 1) (Int.toNat (ByteArray.size s18 : Int)))) (.bool true) h)
 (J13 s_p (.bool false) h)) ∧
 ∀ s_14 neg_15 (d16 : Nat → Value) (h17 : Hp), J13 s_14 neg_15 h17 →
 J7 s_14 neg_15 h17)) ∧
 ∀ s_8 neg_9 (d10 : Nat → Value) (h11 : Hp), J7 s_8 neg_9 h11 →
 J2 s_8 neg_9 h11) ∧
 ∀ s_3 neg_4 (d5 : Nat → Value) (h6 : Hp), J2 s_3 neg_4 h6 →
 CallX Tryz.prog ω 147 [s_3, base_p, bitSize_p] h6 (fun r19 h20 =>
 asT r19 fun T21 => asO T21[0]? fun v22 => asT r19 fun T23 => asO T23[1]? fun v24 => ∃ β25 : Bool,
 (asIf v24 fun b27 => cond (!b27)
 (False)
 (((.bool false) : Value) = .bool β25 ∧ h20 = h20)) ∧
 ∀ d26 : Nat → Value,
 cond β25
 (R (.tuple #[(.int .i64 0), v24]) h20)
 (asK .i64 bitSize_p fun n28 => ∃ J29 : Value → Hp → Prop,
 (cond (n28 == (0 : Int))
 (J29 (.int .i64 64) h20)
 (J29 bitSize_p h20)) ∧
 ∀ bitSize_30 (d31 : Nat → Value) (h32 : Hp), J29 bitSize_30 h32 →
 asK .i64 bitSize_30 fun n33 => 0 ≤ ((IntKind.wrap .u64 (IntKind.wrap .i64 (n33 - 1))) : Int) ∧ ∃ β34 : Bool,
 (asB neg_4 fun b36 => cond (!b36)
 (asK .u64 v22 fun n37 => ((.bool (decide ((n37 : Int) ≥ (shI .u64 .shl 1 (IntKind.wrap .u64 (IntKind.wrap .i64 (n33 - 1))))))) : Value) = .bool β34 ∧ h32 = h32)
 (((.bool false) : Value) = .bool β34 ∧ h32 = h32)) ∧
 ∀ d35 : Nat → Value,
 cond β34
 (R (.tuple #[(.int .i64 (IntKind.wrap .i64 (IntKind.wrap .u64 ((shI .u64 .shl 1 (IntKind.wrap .u64 (IntKind.wrap .i64 (n33 - 1)))) - 1)))), (.iface 194 (.int .i64 1))]) h32)
 (∃ β38 : Bool,
 (asB neg_4 fun b40 => cond b40
 (asK .u64 v22 fun n41 => ((.bool (decide ((n41 : Int) > (shI .u64 .shl 1 (IntKind.wrap .u64 (IntKind.wrap .i64 (n33 - 1))))))) : Value) = .bool β38 ∧ h32 = h32)
 (((.bool false) : Value) = .bool β38 ∧ h32 = h32)) ∧
 ∀ d39 : Nat → Value,
 cond β38
 (R (.tuple #[(.int .i64 (IntKind.wrap .i64 (0 - (IntKind.wrap .i64 (shI .u64 .shl 1 (IntKind.wrap .u64 (IntKind.wrap .i64 (n33 - 1)))))))), (.iface 194 (.int .i64 1))]) h32)
 (asI v22 fun n42 => ∃ J43 : Value → Hp → Prop,
 (asB neg_4 fun b47 => cond b47
 (J43 (.int .i64 (IntKind.wrap .i64 (0 - (IntKind.wrap .i64 n42)))) h32)
 (J43 (.int .i64 (IntKind.wrap .i64 n42)) h32)) ∧
 ∀ n_44 (d45 : Nat → Value) (h46 : Hp), J43 n_44 h46 →
 R (.tuple #[n_44, .nilIface]) h46)))) X)
def A_internal_strconv_ParseInt : Ann :=
 (.two .leaf (.two (.two .leaf (.two (.two .leaf .leaf) .leaf)) (.two .leaf (.two (.two .leaf (.join [18, 17, 19, 20, 0, 22, 21, 23, 24, 8] [0, 8] (.one (.two .leaf (.join [19, 20, 0, 22, 21, 23, 24, 8] [0, 8] (.two .leaf (.two .leaf (.join [23, 24, 0, 8] [0, 8] (.two (.two .leaf .leaf) .leaf))))))))) (.two .leaf (.two .leaf (.two (.two (.jb [32, 33, 34, 35, 36, 37, 38] 38 .leaf) (.two (.two .leaf .leaf) .leaf)) (.two (.two .leaf (.join [2] [2] (.two .leaf .leaf))) (.two .leaf (.two (.two (.jb [46, 47, 48, 49, 50, 51, 52] 52 .leaf) (.two (.two .leaf .leaf) .leaf)) (.two (.two (.jb [57, 58, 59, 60, 61, 62] 62 .leaf) (.two (.two .leaf .leaf) .leaf)) (.two .leaf (.two (.two .leaf (.join [70, 71, 11] [11] (.two .leaf .leaf))) (.two .leaf .leaf))))))))))))))
theorem C_internal_strconv_ParseInt (ω : Amb) (s_p base_p bitSize_p : Value) (h : Hp) (R : Value → Hp → Prop) (X : List PanicEntry → Hp → Prop) (hk : W_internal_strconv_ParseInt ω s_p base_p bitSize_p h R X) : CallX Tryz.prog ω 127 [s_p, base_p, bitSize_p] h R X :=
 callX_of (an := A_internal_strconv_ParseInt) Tryz.func127 ((show fnX Tryz.prog ω A_internal_strconv_ParseInt Tryz.f127 [s_p, base_p, bitSize_p] h R X = W_internal_strconv_ParseInt ω s_p base_p bitSize_p h R X by kernel_rfl) ▸ hk)

/-- internal/strconv.ParseUint -/
abbrev n_internal_strconv_ParseUint : Nat := 147
def W_internal_strconv_ParseUint (ω : Amb) (s_p base_p bitSize_p : Value) (h : Hp) (R : Value → Hp → Prop) (X : List PanicEntry → Hp → Prop) : Prop :=
 asS s_p fun s0 => cond (ByteArray.toList s0 == ByteArray.toList ⟨#[]⟩)
 (R (.tuple #[(.int .u64 0), (.iface 194 (.int .i64 2))]) h)
 (asK .i64 base_p fun n1 => ∃ J2 : Value → Value → Hp → Prop,
 (∃ J7 : Value → Hp → Prop,
 (asK .i64 base_p fun n11 => cond (decide ((2 : Int) ≤ n11))
 (asK .i64 base_p fun n12 => J7 (.bool (decide ((n12 : Int) ≤ 36))) h)
 (J7 (.bool false) h)) ∧
 ∀ t25_8 (d9 : Nat → Value) (h10 : Hp), J7 t25_8 h10 →
 ∃ J13 : Value → Value → Hp → Prop,
 (asB t25_8 fun b18 => cond b18
 (J13 base_p s_p h10)
 (asK .i64 base_p fun n19 => cond (n19 == (0 : Int))
 (asS s_p fun s20 => 0 ≤ (0 : Int) ∧ 0 < (ByteArray.size s20 : Int) ∧ ∃ J21 : Value → Value → Hp → Prop,
 (cond ((byteAt s20 0) == (48 : Int))
 (∃ J26 : Value → Value → Hp → Prop,
 (∃ J31 : Value → Hp → Prop,
 (asS s_p fun s35 => cond (decide (((ByteArray.size s35 : Int) : Int) ≥ 3))
 (asS s_p fun s36 => 0 ≤ (1 : Int) ∧ 1 < (ByteArray.size s36 : Int) ∧ CallX Tryz.prog ω 162 [(.int .u8 (byteAt s36 1))] h10 (fun r37 h38 =>
 asK .u8 r37 fun n39 => J31 (.bool (n39 == (98 : Int))) h38) X)
 (J31 (.bool false) h10)) ∧
 ∀ t40_32 (d33 : Nat → Value) (h34 : Hp), J31 t40_32 h34 →
 ∃ J40 : Value → Value → Hp → Prop,
 (asB t40_32 fun b45 => cond b45
 (asS s_p fun s46 => 0 ≤ (2 : Int) ∧ (2 : Int) ≤ (ByteArray.size s46 : Int) ∧ (ByteArray.size s46 : Int) ≤ (ByteArray.size s46 : Int) ∧ J40 (.int .i64 2) (.string (ByteArray.extract s46 (Int.toNat 2) (Int.toNat (ByteArray.size s46 : Int)))) h34)
 (∃ J47 : Value → Hp → Prop,
 (asS s_p fun s51 => cond (decide (((ByteArray.size s51 : Int) : Int) ≥ 3))
 (asS s_p fun s52 => 0 ≤ (1 : Int) ∧ 1 < (ByteArray.size s52 : Int) ∧ CallX Tryz.prog ω 162 [(.int .u8 (byteAt s52 1))] h34 (fun r53 h54 =>
 asK .u8 r53 fun n55 => J47 (.bool (n55 == (111 : Int))) h54) X)
 (J47 (.bool false) h34)) ∧
 ∀ t52_48 (d49 : Nat → Value) (h50 : Hp), J47 t52_48 h50 →
 ∃ J56 : Value → Value → Hp → Prop,
 (asB t52_48 fun b61 => cond b61
 (asS s_p fun s62 => 0 ≤ (2 : Int) ∧ (2 : Int) ≤ (ByteArray.size s62 : Int) ∧ (ByteArray.size s62 : Int) ≤ (ByteArray.size s62 : Int) ∧ J56 (.int .i64 8) (.string (ByteArray.extract s62 (Int.toNat 2) (Int.toNat (ByteArray.size s62 : Int)))) h50)
 (∃ J63 : Value → Hp → Prop,
 (asS s_p fun s67 => cond (decide (((ByteArray.size s67 : Int) : Int) ≥ 3))
 (asS s_p fun s68 => 0 ≤ (1 : Int) ∧ 1 < (ByteArray.size s68 : Int) ∧ CallX Tryz.prog ω 162 [(.int .u8 (byteAt s68 1))] h50 (fun r69 h70 =>
 asK .u8 r69 fun n71 => J63 (.bool (n71 == (120 : Int))) h70) X)
 (J63 (.bool false) h50)) ∧
 ∀ t64_64 (d65 : Nat → Value) (h66 : Hp), J63 t64_64 h66 →
 ∃ J72 : Value → Value → Hp → Prop,
 (asB t64_64 fun b77 => cond b77
 (asS s_p fun s78 => 0 ≤ (2 : Int) ∧ (2 : Int) ≤ (ByteArray.size s78 : Int) ∧ (ByteArray.size s78 : Int) ≤ (ByteArray.size s78 : Int) ∧ J72 (.int .i64 16) (.string (ByteArray.extract s78 (Int.toNat 2) (Int.toNat (ByteArray.size s78 : Int)))) h66)
 (asS s_p fun s79 => 0 ≤ (1 : Int) ∧ (1 : Int) ≤ (ByteArray.size s79 : Int) ∧ (ByteArray.size s79 : Int) ≤ (ByteArray.size s79 : Int) ∧ J72 (.int .i64 8) (.string (ByteArray.extract s79 (Int.toNat 1) (Int.toNat (ByteArray.size s79 : Int)))) h66)) ∧
 ∀ base_73 s_74 (d75 : Nat → Value) (h76 : Hp), J72 base_73 s_74 h76 →
 J56 base_73 s_74 h76)) ∧
 ∀ base_57 s_58 (d59 : Nat → Value) (h60 : Hp), J56 base_57 s_58 h60 →
 J40 base_57 s_58 h60)) ∧
 ∀ base_41 s_42 (d43 : Nat → Value) (h44 : Hp), J40 base_41 s_42 h44 →
 J26 base_41 s_42 h44) ∧
 ∀ base_27 s_28 (d29 : Nat → Value) (h30 : Hp), J26 base_27 s_28 h30 →
 J21 base_27 s_28 h30)
 (J21 (.int .i64 10) s_p h10)) ∧
 ∀ base_22 s_23 (d24 : Nat → Value) (h25 : Hp), J21 base_22 s_23 h25 →
 J13 base_22 s_23 h25)
 (R (.tuple #[(.int .u64 0), (.iface 194 (.int .i64 3))]) h10))) ∧
 ∀ base_14 s_15 (d16 : Nat → Value) (h17 : Hp), J13 base_14 s_15 h17 →
 J2 base_14 s_15 h17) ∧
 ∀ base_3 s_4 (d5 : Nat → Value) (h6 : Hp), J2 base_3 s_4 h6 →
 asK .i64 bitSize_p fun n80 => ∃ J81 : Value → Hp → Prop,
 (cond (n80 == (0 : Int))
 (J81 (.int .i64 64) h6)
 (∃ β85 : Bool,
 (asK .i64 bitSize_p fun n87 => cond (decide ((n87 : Int) < 0))
 (((.bool true) : Value) = .bool β85 ∧ h6 = h6)
 (asK .i64 bitSize_p fun n88 => ((.bool (decide ((n88 : Int) > 64))) : Value) = .bool β85 ∧ h6 = h6)) ∧
 ∀ d86 : Nat → Value,
 cond β85
 (R (.tuple #[(.int .u64 0), (.iface 194 (.int .i64 4))]) h6)
 (J81 bitSize_p h6))) ∧
 ∀ bitSize_82 (d83 : Nat → Value) (h84 : Hp), J81 bitSize_82 h84 →
 ∃ J89 : Value → Hp → Prop,
 (asK .i64 base_3 fun n93 => ∃ J94 : Value → Hp → Prop,
 (cond (n93 == (10 : Int))
 (J94 (.int .u64 1844674407370955162) h84)
 (asK .i64 base_3 fun n98 => ∃ J99 : Value → Hp → Prop,
 (cond (n98 == (16 : Int))
 (J99 (.int .u64 1152921504606846976) h84)
 (asI base_3 fun n103 => ((IntKind.wrap .u64 n103) : Int) ≠ 0 ∧ J99 (.int .u64 (IntKind.wrap .u64 ((IntKind.wrap .u64 (Int.tdiv 18446744073709551615 (IntKind.wrap .u64 n103))) + 1))) h84)) ∧
 ∀ cutoff_100 (d101 : Nat → Value) (h102 : Hp), J99 cutoff_100 h102 →
 J94 cutoff_100 h102)) ∧
 ∀ cutoff_95 (d96 : Nat → Value) (h97 : Hp), J94 cutoff_95 h97 →
 J89 cutoff_95 h97) ∧
 ∀ cutoff_90 (d91 : Nat → Value) (h92 : Hp), J89 cutoff_90 h92 →
 asI bitSize_82 fun n104 => 0 ≤ ((IntKind.wrap .u64 n104) : Int) ∧ bytesK Tryz.prog 9 107 h92 s_4 fun v105 h106 =>
 asSl v105 fun a107 l108 c109 => ∃ (I110 : Value → Value → Value → Hp → Prop) (μ111 : Value → Value → Value → Hp → Nat), I110 (.bool false) (.int .u64 0) (.int .i64 0) h106 ∧ ∀ underscores_112 n_113 t101_114 (d115 : Nat → Value) (h116 : Hp), I110 underscores_112 n_113 t101_114 h116 →
 asK .i64 t101_114 fun n117 => cond (decide ((n117 : Int) < (l108 : Int)))
 (∃ J118 : Value → Value → Hp → Prop,
 (asSl1 v105 fun a123 l124 c125 => asI t101_114 fun n126 => 0 ≤ (n126 : Int) ∧ n126 < (l124 : Int) ∧ ∃ v127, cellH h116 (Addr.add a123 (Int.toNat n126 * 1)) = some v127 ∧
 ∃ J128 : Value → Value → Hp → Prop,
 (∃ J133 : Value → Hp → Prop,
 (asK .u8 v127 fun n137 => cond (n137 == (95 : Int))
 (J133 (.bool (n1 == (0 : Int))) h116)
 (J133 (.bool false) h116)) ∧
 ∀ t106_134 (d135 : Nat → Value) (h136 : Hp), J133 t106_134 h136 →
 asB t106_134 fun b138 => cond b138
 (J118 (.bool true) n_113 h136)
 (∃ J139 : Value → Hp → Prop,
 (asK .u8 v127 fun n143 => cond (decide ((48 : Int) ≤ n143))
 (asK .u8 v127 fun n144 => J139 (.bool (decide ((n144 : Int) ≤ 57))) h136)
 (J139 (.bool false) h136)) ∧
 ∀ t112_140 (d141 : Nat → Value) (h142 : Hp), J139 t112_140 h142 →
 ∃ J145 : Value → Hp → Prop,
 (asB t112_140 fun b149 => cond b149
 (asK .u8 v127 fun n150 => J145 (.int .u8 (IntKind.wrap .u8 (n150 - 48))) h142)
 (∃ J151 : Value → Hp → Prop,
 (CallX Tryz.prog ω 162 [v127] h142 (fun r155 h156 =>
 asK .u8 r155 fun n157 => cond (decide ((97 : Int) ≤ n157))
 (CallX Tryz.prog ω 162 [v127] h156 (fun r158 h159 =>
 asK .u8 r158 fun n160 => J151 (.bool (decide ((n160 : Int) ≤ 122))) h159) X)
 (J151 (.bool false) h156)) X) ∧
 ∀ t121_152 (d153 : Nat → Value) (h154 : Hp), J151 t121_152 h154 →
 asB t121_152 fun b161 => cond b161
 (CallX Tryz.prog ω 162 [v127] h154 (fun r162 h163 =>
 asK .u8 r162 fun n164 => J145 (.int .u8 (IntKind.wrap .u8 ((IntKind.wrap .u8 (n164 - 97)) + 10))) h163) X)
 (R (.tuple #[(.int .u64 0), (.iface 194 (.int .i64 2))]) h154))) ∧
 ∀ d_146 (d147 : Nat → Value) (h148 : Hp), J145 d_146 h148 →
 J128 underscores_112 d_146 h148)) ∧
 ∀ underscores_129 d_130 (d131 : Nat → Value) (h132 : Hp), J128 underscores_129 d_130 h132 →
 asI base_3 fun n165 => asK .u8 d_130 fun n166 => cond (decide ((n166 : Int) ≥ (IntKind.wrap .u8 n165)))
 (R (.tuple #[(.int .u64 0), (.iface 194 (.int .i64 2))]) h132)
 (asK .u64 n_113 fun n167 => asK .u64 cutoff_90 fun n168 => cond (decide ((n167 : Int) ≥ n168))
 (R (.tuple #[(.int .u64 (IntKind.wrap .u64 ((shI .u64 .shl 1 (IntKind.wrap .u64 n104)) - 1))), (.iface 194 (.int .i64 1))]) h132)
 (asI base_3 fun n169 => asK .u64 n_113 fun n170 => asI d_130 fun n171 => ∃ β172 : Bool,
 (cond (decide (((IntKind.wrap .u64 ((IntKind.wrap .u64 (n170 * (IntKind.wrap .u64 n169))) + (IntKind.wrap .u64 n171))) : Int) < (IntKind.wrap .u64 (n170 * (IntKind.wrap .u64 n169)))))
 (((.bool true) : Value) = .bool β172 ∧ h132 = h132)
 (((.bool (decide (((IntKind.wrap .u64 ((IntKind.wrap .u64 (n170 * (IntKind.wrap .u64 n169))) + (IntKind.wrap .u64 n171))) : Int) > (IntKind.wrap .u64 ((shI .u64 .shl 1 (IntKind.wrap .u64 n104)) - 1))))) : Value) = .bool β172 ∧ h132 = h132)) ∧
 ∀ d173 : Nat → Value,
 cond β172
 (R (.tuple #[(.int .u64 (IntKind.wrap .u64 ((shI .u64 .shl 1 (IntKind.wrap .u64 n104)) - 1))), (.iface 194 (.int .i64 1))]) h132)
 (J118 underscores_129 (.int .u64 (IntKind.wrap .u64 ((IntKind.wrap .u64 (n170 * (IntKind.wrap .u64 n169))) + (IntKind.wrap .u64 n171)))) h132)))) ∧
 ∀ underscores_119 n_120 (d121 : Nat → Value) (h122 : Hp), J118 underscores_119 n_120 h122 →
 asK .i64 t101_114 fun n174 => I110 underscores_119 n_120 (.int .i64 (IntKind.wrap .i64 (n174 + 1))) h122 ∧ μ111 underscores_119 n_120 (.int .i64 (IntKind.wrap .i64 (n174 + 1))) h122 < μ111 underscores_112 n_113 t101_114 h116)
 (∃ J175 : Value → Hp → Prop,
 (asB underscores_112 fun b179 => cond b179
 (CallX Tryz.prog ω 163 [s_p] h116 (fun r180 h181 =>
 asB r180 fun b182 => J175 (.bool (!b182)) h181) X)
 (J175 (.bool false) h116)) ∧
 ∀ t169_176 (d177 : Nat → Value) (h178 : Hp), J175 t169_176 h178 →
 asB t169_176 fun b183 => cond b183
 (R (.tuple #[(.int .u64 0), (.iface 194 (.int .i64 2))]) h178)
 (R (.tuple #[n_113, .nilIface]) h178)))
def A_internal_strconv_ParseUint : Ann :=
 (.two .leaf (.two (.two .leaf (.two (.two .leaf .leaf) .leaf)) (.two .leaf (.two .leaf (.two (.join [26, 27, 28, 29, 30, 31, 25, 33, 34, 32, 1, 35, 36, 37, 41, 42, 43, 44, 45, 46, 47, 48, 49, 40, 50, 51, 0, 53, 54, 55, 56, 57, 58, 59, 60, 61, 52, 62, 63, 65, 66, 67, 68, 69, 70, 71, 72, 73, 64, 74, 75, 38, 39, 24, 6, 7] [1, 0] (.one (.two (.join [26, 27, 28, 29, 30, 31, 25] [25] .leaf) (.join [33, 34, 32, 1, 35, 36, 37, 41, 42, 43, 44, 45, 46, 47, 48, 49, 40, 50, 51, 0, 53, 54, 55, 56, 57, 58, 59, 60, 61, 52, 62, 63, 65, 66, 67, 68, 69, 70, 71, 72, 73, 64, 74, 75, 38, 39, 24, 6, 7] [1, 0] (.two .leaf (.two .leaf (.two (.two .leaf (.two .leaf (.join [41, 42, 43, 44, 45, 46, 47, 48, 49, 40, 1, 50, 51, 0, 53, 54, 55, 56, 57, 58, 59, 60, 61, 52, 62, 63, 65, 66, 67, 68, 69, 70, 71, 72, 73, 64, 74, 75, 38, 39] [1, 0] (.two (.join [41, 42, 43, 44, 45, 46, 47, 48, 49, 40, 1, 50, 51, 0, 53, 54, 55, 56, 57, 58, 59, 60, 61, 52, 62, 63, 65, 66, 67, 68, 69, 70, 71, 72, 73, 64, 74, 75, 38, 39] [1, 0] (.one (.two (.join [41, 42, 43, 44, 45, 46, 47, 48, 49, 40] [40] .leaf) (.join [1, 50, 51, 0, 53, 54, 55, 56, 57, 58, 59, 60, 61, 52, 62, 63, 65, 66, 67, 68, 69, 70, 71, 72, 73, 64, 74, 75, 38, 39] [1, 0] (.two (.two .leaf .leaf) (.two (.join [53, 54, 55, 56, 57, 58, 59, 60, 61, 52] [52] .leaf) (.join [1, 62, 63, 0, 65, 66, 67, 68, 69, 70, 71, 72, 73, 64, 74, 75, 38, 39] [1, 0] (.two (.two .leaf .leaf) (.two (.join [65, 66, 67, 68, 69, 70, 71, 72, 73, 64] [64] .leaf) (.join [1, 74, 75, 0, 38, 39] [1, 0] (.two (.two .leaf .leaf) (.two .leaf .leaf)))))))))))) .leaf)))) (.two .leaf .leaf)))))))) (.two (.two .leaf (.join [2, 78, 79, 80, 81, 82, 83, 84, 6, 7] [2] (.two .leaf (.two (.jb [78, 79, 80, 81, 82, 83] 83 .leaf) (.two (.two .leaf .leaf) .leaf))))) (.two .leaf (.two (.two .leaf (.join [91, 90, 10, 93, 92, 86, 87, 88, 89] [10] (.one (.two .leaf (.join [10, 93, 92, 86, 87, 88, 89] [10] (.two .leaf (.two .leaf (.join [10, 86, 87, 88, 89] [10] (.two .leaf .leaf))))))))) (.two .leaf (.two .leaf (.two .leaf (.two (.two .leaf (.one (.loop [102, 103, 104, 15, 16, 107, 108, 109, 110, 111, 106, 12, 113, 114, 115, 116, 117, 118, 112, 119, 120, 122, 123, 124, 125, 126, 127, 128, 129, 121, 130, 131, 132, 133, 105, 6, 7, 134, 135, 136, 137, 138, 139, 140, 141, 142, 143, 144, 145, 146, 147, 13, 148, 149, 150, 151, 17, 152, 153, 154, 155, 156, 157, 158, 159, 160, 161, 162, 163, 101] [12, 13, 101] (.two .leaf (.two (.two .leaf .leaf) (.two (.join [103, 104, 15, 16, 107, 108, 109, 110, 111, 106, 12, 113, 114, 115, 116, 117, 118, 112, 119, 120, 122, 123, 124, 125, 126, 127, 128, 129, 121, 130, 131, 132, 133, 105, 6, 7, 134, 135, 136, 137, 138, 139, 140, 141, 142, 143, 144, 145, 146, 147, 13, 148, 149, 150, 151, 17, 152, 153, 154, 155, 156, 157, 158, 159, 160, 161, 162] [12, 13] (.one (.two .leaf (.two .leaf (.two (.join [107, 108, 109, 110, 111, 106, 12, 113, 114, 115, 116, 117, 118, 112, 119, 120, 16, 122, 123, 124, 125, 126, 127, 128, 129, 121, 130, 131, 132, 133, 105, 6, 7] [12, 16] (.one (.two (.join [107, 108, 109, 110, 111, 106] [106] .leaf) (.two (.two .leaf .leaf) (.two (.join [113, 114, 115, 116, 117, 118, 112] [112] .leaf) (.join [119, 120, 16, 122, 123, 124, 125, 126, 127, 128, 129, 121, 130, 131, 132, 133, 105, 6, 7] [16] (.two .leaf (.two (.join [122, 123, 124, 125, 126, 127, 128, 129, 121] [121] .leaf) (.two .leaf (.two .leaf .leaf)))))))))) (.two (.two .leaf (.two (.two .leaf .leaf) .leaf)) (.two (.two .leaf (.two (.two .leaf .leaf) .leaf)) (.two .leaf (.two .leaf (.two (.two (.jb [152, 153, 154, 155, 156, 157, 158, 159] 159 .leaf) (.two (.two .leaf .leaf) .leaf)) .leaf)))))))))) .leaf)))))) (.two (.two (.join [164, 165, 166, 167, 168, 169] [169] .leaf) (.two (.two .leaf .leaf) .leaf)) (.two .leaf .leaf))))))))))))))
theorem C_internal_strconv_ParseUint (ω : Amb) (s_p base_p bitSize_p : Value) (h : Hp) (R : Value → Hp → Prop) (X : List PanicEntry → Hp → Prop) (hk : W_internal_strconv_ParseUint ω s_p base_p bitSize_p h R X) : CallX Tryz.prog ω 147 [s_p, base_p, bitSize_p] h R X :=
 callX_of (an := A_internal_strconv_ParseUint) Tryz.func147 ((show fnX Tryz.prog ω A_internal_strconv_ParseUint Tryz.f147 [s_p, base_p, bitSize_p] h R X = W_internal_strconv_ParseUint ω s_p base_p bitSize_p h R X by kernel_rfl) ▸ hk)

end Go.Proofs.YtkeeboomikkojaaGreatDoor.Sx
