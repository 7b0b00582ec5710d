/- Formulas of the functions' texts, written by a program of ours; each is checked by the kernel. -/
import Derived.Test.YtkeeboomikkojaaGreatDoorSxCore
import Derived.KernelRfl
import Derived.Test.YtkeeboomikkojaaGreatDoorProg
set_option linter.unusedVariables false
set_option maxRecDepth 100000
namespace Go.Proofs.YtkeeboomikkojaaGreatDoor.Sx
open Go Go.Sx Go.Proofs

/-- pipewright/render.Type -/
abbrev n_render_Type : Nat := 28
def W_render_Type (ω : Amb) (t_p ends_p : Value) (h : Hp) (R : Value → Hp → Prop) (X : List PanicEntry → Hp → Prop) : Prop :=
 asS t_p fun s0 => ∃ β1 : Bool,
 (cond (decide (((IntKind.wrap .i64 ((ByteArray.size s0 : Int) - 1)) : Int) < 0))
 (((.bool true) : Value) = .bool β1 ∧ h = h)
 (asK .i64 ends_p fun n3 => cond (decide (((IntKind.wrap .i64 ((ByteArray.size s0 : Int) - 1)) : Int) > n3))
 (((.bool true) : Value) = .bool β1 ∧ h = h)
 (asS t_p fun s4 => 0 ≤ ((IntKind.wrap .i64 ((ByteArray.size s0 : Int) - 1)) : Int) ∧ (IntKind.wrap .i64 ((ByteArray.size s0 : Int) - 1)) < (ByteArray.size s4 : Int) ∧ ((.bool ((byteAt s4 (IntKind.wrap .i64 ((ByteArray.size s0 : Int) - 1))) != (105 : Int))) : Value) = .bool β1 ∧ h = h))) ∧
 ∀ d2 : Nat → Value,
 cond β1
 (R (.bool false) h)
 (∃ (I5 : Value → Hp → Prop) (μ6 : Value → Hp → Nat), I5 (.int .i64 0) h ∧ ∀ t24_7 (d8 : Nat → Value) (h9 : Hp), I5 t24_7 h9 →
 asK .i64 t24_7 fun n10 => cond (decide ((n10 : Int) < (IntKind.wrap .i64 ((ByteArray.size s0 : Int) - 1))))
 (∃ β11 : Bool,
 (asS t_p fun s13 => asI t24_7 fun n14 => 0 ≤ (n14 : Int) ∧ n14 < (ByteArray.size s13 : Int) ∧ cond ((byteAt s13 n14) != (115 : Int))
 (asS t_p fun s15 => asI t24_7 fun n16 => 0 ≤ (n16 : Int) ∧ n16 < (ByteArray.size s15 : Int) ∧ ((.bool ((byteAt s15 n16) != (114 : Int))) : Value) = .bool β11 ∧ h9 = h9)
 (((.bool false) : Value) = .bool β11 ∧ h9 = h9)) ∧
 ∀ d12 : Nat → Value,
 cond β11
 (R (.bool false) h9)
 (asK .i64 t24_7 fun n17 => I5 (.int .i64 (IntKind.wrap .i64 (n17 + 1))) h9 ∧ μ6 (.int .i64 (IntKind.wrap .i64 (n17 + 1))) h9 < μ6 t24_7 h9))
 (R (.bool true) h9))
def A_render_Type : Ann :=
 (.two .leaf (.two .leaf (.two (.two (.jb [10, 11, 12, 13, 14, 15, 16, 17, 18, 19, 20, 21, 22] 22 .leaf) (.two (.two .leaf .leaf) .leaf)) (.two (.two .leaf (.one (.loop [25, 26, 6, 27, 28, 29, 30, 31, 32, 33, 34, 35, 36, 4, 37, 24] [24] (.two .leaf (.two (.two .leaf .leaf) (.two (.one (.two .leaf (.two (.jb [27, 28, 29, 30, 31, 32, 33, 34, 35, 36] 36 .leaf) (.two (.two .leaf .leaf) .leaf)))) .leaf)))))) (.two .leaf .leaf)))))
theorem C_render_Type (ω : Amb) (t_p ends_p : Value) (h : Hp) (R : Value → Hp → Prop) (X : List PanicEntry → Hp → Prop) (hk : W_render_Type ω t_p ends_p h R X) : CallX Tryz.prog ω 28 [t_p, ends_p] h R X :=
 callX_of (an := A_render_Type) Tryz.func28 ((show fnX Tryz.prog ω A_render_Type Tryz.f28 [t_p, ends_p] h R X = W_render_Type ω t_p ends_p h R X by kernel_rfl) ▸ hk)

/-- pipewright/token.letter -/
abbrev n_token_letter : Nat := 80
def W_token_letter (ω : Amb) (c_p : Value) (h : Hp) (R : Value → Hp → Prop) (X : List PanicEntry → Hp → Prop) : Prop :=
 ∃ J0 : Value → Hp → Prop,
 (asK .u8 c_p fun n4 => cond (decide ((n4 : Int) ≥ 97))
 (asK .u8 c_p fun n5 => J0 (.bool (decide ((n5 : Int) ≤ 122))) h)
 (J0 (.bool false) h)) ∧
 ∀ t2_1 (d2 : Nat → Value) (h3 : Hp), J0 t2_1 h3 →
 R t2_1 h3
def A_token_letter : Ann :=
 (.two .leaf (.two (.join [3, 4, 5, 6, 7, 8, 2] [2] .leaf) .leaf))
theorem C_token_letter (ω : Amb) (c_p : Value) (h : Hp) (R : Value → Hp → Prop) (X : List PanicEntry → Hp → Prop) (hk : W_token_letter ω c_p h R X) : CallX Tryz.prog ω 80 [c_p] h R X :=
 callX_of (an := A_token_letter) Tryz.func80 ((show fnX Tryz.prog ω A_token_letter Tryz.f80 [c_p] h R X = W_token_letter ω c_p h R X by kernel_rfl) ▸ hk)

/-- pipewright/token.Word -/
abbrev n_token_Word : Nat := 82
def W_token_Word (ω : Amb) (s_p : Value) (h : Hp) (R : Value → Hp → Prop) (X : List PanicEntry → Hp → Prop) : Prop :=
 asS s_p fun s0 => ∃ J1 : Value → Hp → Prop,
 (cond (ByteArray.toList s0 == ByteArray.toList ⟨#[97, 98, 97, 110, 100, 111, 110]⟩)
 (J1 (.bool (ByteArray.toList s0 == ByteArray.toList ⟨#[97, 98, 97, 110, 100, 111, 110]⟩)) h)
 (asS s_p fun s5 => ∃ J6 : Value → Hp → Prop,
 (cond (ByteArray.toList s5 == ByteArray.toList ⟨#[99, 104, 97, 110]⟩)
 (J6 (.bool (ByteArray.toList s5 == ByteArray.toList ⟨#[99, 104, 97, 110]⟩)) h)
 (asS s_p fun s10 => ∃ J11 : Value → Hp → Prop,
 (cond (ByteArray.toList s10 == ByteArray.toList ⟨#[99, 108, 111, 110, 101]⟩)
 (J11 (.bool (ByteArray.toList s10 == ByteArray.toList ⟨#[99, 108, 111, 110, 101]⟩)) h)
 (asS s_p fun s15 => ∃ J16 : Value → Hp → Prop,
 (cond (ByteArray.toList s15 == ByteArray.toList ⟨#[99, 108, 111, 115, 101]⟩)
 (J16 (.bool (ByteArray.toList s15 == ByteArray.toList ⟨#[99, 108, 111, 115, 101]⟩)) h)
 (asS s_p fun s20 => ∃ J21 : Value → Hp → Prop,
 (cond (ByteArray.toList s20 == ByteArray.toList ⟨#[100, 114, 97, 105, 110]⟩)
 (J21 (.bool (ByteArray.toList s20 == ByteArray.toList ⟨#[100, 114, 97, 105, 110]⟩)) h)
 (asS s_p fun s25 => ∃ J26 : Value → Hp → Prop,
 (cond (ByteArray.toList s25 == ByteArray.toList ⟨#[101, 108, 115, 101]⟩)
 (J26 (.bool (ByteArray.toList s25 == ByteArray.toList ⟨#[101, 108, 115, 101]⟩)) h)
 (asS s_p fun s30 => ∃ J31 : Value → Hp → Prop,
 (cond (ByteArray.toList s30 == ByteArray.toList ⟨#[101, 109, 105, 116]⟩)
 (J31 (.bool (ByteArray.toList s30 == ByteArray.toList ⟨#[101, 109, 105, 116]⟩)) h)
 (asS s_p fun s35 => ∃ J36 : Value → Hp → Prop,
 (cond (ByteArray.toList s35 == ByteArray.toList ⟨#[102, 111, 114]⟩)
 (J36 (.bool (ByteArray.toList s35 == ByteArray.toList ⟨#[102, 111, 114]⟩)) h)
 (asS s_p fun s40 => ∃ J41 : Value → Hp → Prop,
 (cond (ByteArray.toList s40 == ByteArray.toList ⟨#[102, 114, 111, 109]⟩)
 (J41 (.bool (ByteArray.toList s40 == ByteArray.toList ⟨#[102, 114, 111, 109]⟩)) h)
 (asS s_p fun s45 => ∃ J46 : Value → Hp → Prop,
 (cond (ByteArray.toList s45 == ByteArray.toList ⟨#[105, 102]⟩)
 (J46 (.bool (ByteArray.toList s45 == ByteArray.toList ⟨#[105, 102]⟩)) h)
 (asS s_p fun s50 => ∃ J51 : Value → Hp → Prop,
 (cond (ByteArray.toList s50 == ByteArray.toList ⟨#[105, 110, 116]⟩)
 (J51 (.bool (ByteArray.toList s50 == ByteArray.toList ⟨#[105, 110, 116]⟩)) h)
 (asS s_p fun s55 => ∃ J56 : Value → Hp → Prop,
 (cond (ByteArray.toList s55 == ByteArray.toList ⟨#[108, 101, 116]⟩)
 (J56 (.bool (ByteArray.toList s55 == ByteArray.toList ⟨#[108, 101, 116]⟩)) h)
 (asS s_p fun s60 => ∃ J61 : Value → Hp → Prop,
 (cond (ByteArray.toList s60 == ByteArray.toList ⟨#[114, 101, 99, 118]⟩)
 (J61 (.bool (ByteArray.toList s60 == ByteArray.toList ⟨#[114, 101, 99, 118]⟩)) h)
 (asS s_p fun s65 => ∃ J66 : Value → Hp → Prop,
 (cond (ByteArray.toList s65 == ByteArray.toList ⟨#[114, 101, 112, 101, 97, 116]⟩)
 (J66 (.bool (ByteArray.toList s65 == ByteArray.toList ⟨#[114, 101, 112, 101, 97, 116]⟩)) h)
 (asS s_p fun s70 => ∃ J71 : Value → Hp → Prop,
 (cond (ByteArray.toList s70 == ByteArray.toList ⟨#[115, 101, 110, 100]⟩)
 (J71 (.bool (ByteArray.toList s70 == ByteArray.toList ⟨#[115, 101, 110, 100]⟩)) h)
 (asS s_p fun s75 => ∃ J76 : Value → Hp → Prop,
 (cond (ByteArray.toList s75 == ByteArray.toList ⟨#[115, 101, 116]⟩)
 (J76 (.bool (ByteArray.toList s75 == ByteArray.toList ⟨#[115, 101, 116]⟩)) h)
 (asS s_p fun s80 => ∃ J81 : Value → Hp → Prop,
 (cond (ByteArray.toList s80 == ByteArray.toList ⟨#[115, 112, 97, 119, 110]⟩)
 (J81 (.bool (ByteArray.toList s80 == ByteArray.toList ⟨#[115, 112, 97, 119, 110]⟩)) h)
 (asS s_p fun s85 => ∃ J86 : Value → Hp → Prop,
 (cond (ByteArray.toList s85 == ByteArray.toList ⟨#[115, 116, 97, 103, 101]⟩)
 (J86 (.bool (ByteArray.toList s85 == ByteArray.toList ⟨#[115, 116, 97, 103, 101]⟩)) h)
 (asS s_p fun s90 => J86 (.bool (ByteArray.toList s90 == ByteArray.toList ⟨#[116, 97, 107, 101]⟩)) h)) ∧
 ∀ t4_87 (d88 : Nat → Value) (h89 : Hp), J86 t4_87 h89 →
 J81 t4_87 h89)) ∧
 ∀ t4_82 (d83 : Nat → Value) (h84 : Hp), J81 t4_82 h84 →
 J76 t4_82 h84)) ∧
 ∀ t4_77 (d78 : Nat → Value) (h79 : Hp), J76 t4_77 h79 →
 J71 t4_77 h79)) ∧
 ∀ t4_72 (d73 : Nat → Value) (h74 : Hp), J71 t4_72 h74 →
 J66 t4_72 h74)) ∧
 ∀ t4_67 (d68 : Nat → Value) (h69 : Hp), J66 t4_67 h69 →
 J61 t4_67 h69)) ∧
 ∀ t4_62 (d63 : Nat → Value) (h64 : Hp), J61 t4_62 h64 →
 J56 t4_62 h64)) ∧
 ∀ t4_57 (d58 : Nat → Value) (h59 : Hp), J56 t4_57 h59 →
 J51 t4_57 h59)) ∧
 ∀ t4_52 (d53 : Nat → Value) (h54 : Hp), J51 t4_52 h54 →
 J46 t4_52 h54)) ∧
 ∀ t4_47 (d48 : Nat → Value) (h49 : Hp), J46 t4_47 h49 →
 J41 t4_47 h49)) ∧
 ∀ t4_42 (d43 : Nat → Value) (h44 : Hp), J41 t4_42 h44 →
 J36 t4_42 h44)) ∧
 ∀ t4_37 (d38 : Nat → Value) (h39 : Hp), J36 t4_37 h39 →
 J31 t4_37 h39)) ∧
 ∀ t4_32 (d33 : Nat → Value) (h34 : Hp), J31 t4_32 h34 →
 J26 t4_32 h34)) ∧
 ∀ t4_27 (d28 : Nat → Value) (h29 : Hp), J26 t4_27 h29 →
 J21 t4_27 h29)) ∧
 ∀ t4_22 (d23 : Nat → Value) (h24 : Hp), J21 t4_22 h24 →
 J16 t4_22 h24)) ∧
 ∀ t4_17 (d18 : Nat → Value) (h19 : Hp), J16 t4_17 h19 →
 J11 t4_17 h19)) ∧
 ∀ t4_12 (d13 : Nat → Value) (h14 : Hp), J11 t4_12 h14 →
 J6 t4_12 h14)) ∧
 ∀ t4_7 (d8 : Nat → Value) (h9 : Hp), J6 t4_7 h9 →
 J1 t4_7 h9)) ∧
 ∀ t4_2 (d3 : Nat → Value) (h4 : Hp), J1 t4_2 h4 →
 asB t4_2 fun b91 => cond b91
 (R (.bool true) h4)
 (R (.bool false) h4)
def A_token_Word : Ann :=
 (.two .leaf (.two (.two .leaf (.one (.two (.two .leaf (.join [6, 4, 7, 8, 9, 10, 11, 12, 13, 14, 15, 16, 17, 18, 19, 20, 21, 22, 23] [4] (.two .leaf (.two .leaf (.join [7, 4, 8, 9, 10, 11, 12, 13, 14, 15, 16, 17, 18, 19, 20, 21, 22, 23] [4] (.two .leaf (.two .leaf (.join [8, 4, 9, 10, 11, 12, 13, 14, 15, 16, 17, 18, 19, 20, 21, 22, 23] [4] (.two .leaf (.two .leaf (.join [9, 4, 10, 11, 12, 13, 14, 15, 16, 17, 18, 19, 20, 21, 22, 23] [4] (.two .leaf (.two .leaf (.join [10, 4, 11, 12, 13, 14, 15, 16, 17, 18, 19, 20, 21, 22, 23] [4] (.two .leaf (.two .leaf (.join [11, 4, 12, 13, 14, 15, 16, 17, 18, 19, 20, 21, 22, 23] [4] (.two .leaf (.two .leaf (.join [12, 4, 13, 14, 15, 16, 17, 18, 19, 20, 21, 22, 23] [4] (.two .leaf (.two .leaf (.join [13, 4, 14, 15, 16, 17, 18, 19, 20, 21, 22, 23] [4] (.two .leaf (.two .leaf (.join [14, 4, 15, 16, 17, 18, 19, 20, 21, 22, 23] [4] (.two .leaf (.two .leaf (.join [15, 4, 16, 17, 18, 19, 20, 21, 22, 23] [4] (.two .leaf (.two .leaf (.join [16, 4, 17, 18, 19, 20, 21, 22, 23] [4] (.two .leaf (.two .leaf (.join [17, 4, 18, 19, 20, 21, 22, 23] [4] (.two .leaf (.two .leaf (.join [18, 4, 19, 20, 21, 22, 23] [4] (.two .leaf (.two .leaf (.join [19, 4, 20, 21, 22, 23] [4] (.two .leaf (.two .leaf (.join [20, 4, 21, 22, 23] [4] (.two .leaf (.two .leaf (.join [21, 4, 22, 23] [4] (.two .leaf (.two .leaf (.join [22, 4, 23] [4] (.two .leaf (.two .leaf (.join [23, 4] [4] (.two .leaf .leaf)))))))))))))))))))))))))))))))))))))))))))))))))))))) (.two (.two .leaf .leaf) .leaf)))) (.two .leaf .leaf)))
theorem C_token_Word (ω : Amb) (s_p : Value) (h : Hp) (R : Value → Hp → Prop) (X : List PanicEntry → Hp → Prop) (hk : W_token_Word ω s_p h R X) : CallX Tryz.prog ω 82 [s_p] h R X :=
 callX_of (an := A_token_Word) Tryz.func82 ((show fnX Tryz.prog ω A_token_Word Tryz.f82 [s_p] h R X = W_token_Word ω s_p h R X by kernel_rfl) ▸ hk)

/-- pipewright/token.digit -/
abbrev n_token_digit : Nat := 83
def W_token_digit (ω : Amb) (c_p : Value) (h : Hp) (R : Value → Hp → Prop) (X : List PanicEntry → Hp → Prop) : Prop :=
 ∃ J0 : Value → Hp → Prop,
 (asK .u8 c_p fun n4 => cond (decide ((n4 : Int) ≥ 48))
 (asK .u8 c_p fun n5 => J0 (.bool (decide ((n5 : Int) ≤ 57))) h)
 (J0 (.bool false) h)) ∧
 ∀ t2_1 (d2 : Nat → Value) (h3 : Hp), J0 t2_1 h3 →
 R t2_1 h3
def A_token_digit : Ann :=
 (.two .leaf (.two (.join [3, 4, 5, 6, 7, 8, 2] [2] .leaf) .leaf))
theorem C_token_digit (ω : Amb) (c_p : Value) (h : Hp) (R : Value → Hp → Prop) (X : List PanicEntry → Hp → Prop) (hk : W_token_digit ω c_p h R X) : CallX Tryz.prog ω 83 [c_p] h R X :=
 callX_of (an := A_token_digit) Tryz.func83 ((show fnX Tryz.prog ω A_token_digit Tryz.f83 [c_p] h R X = W_token_digit ω c_p h R X by kernel_rfl) ▸ hk)

/-- pipewright/token.Name -/
abbrev n_token_Name : Nat := 92
def W_token_Name (ω : Amb) (s_p : Value) (h : Hp) (R : Value → Hp → Prop) (X : List PanicEntry → Hp → Prop) : Prop :=
 ∃ J0 : Value → Hp → Prop,
 (asS s_p fun s4 => cond (ByteArray.toList s4 == ByteArray.toList ⟨#[]⟩)
 (J0 (.bool true) h)
 (asS s_p fun s5 => cond (decide (((ByteArray.size s5 : Int) : Int) > 12))
 (J0 (.bool true) h)
 (asS s_p fun s6 => 0 ≤ (0 : Int) ∧ 0 < (ByteArray.size s6 : Int) ∧ CallX Tryz.prog ω 80 [(.int .u8 (byteAt s6 0))] h (fun r7 h8 =>
 asB r7 fun b9 => cond (!b9)
 (J0 (.bool true) h8)
 (CallX Tryz.prog ω 82 [s_p] h8 (fun r10 h11 =>
 J0 r10 h11) X)) X))) ∧
 ∀ t20_1 (d2 : Nat → Value) (h3 : Hp), J0 t20_1 h3 →
 asB t20_1 fun b12 => cond b12
 (R (.bool false) h3)
 (asS s_p fun s13 => ∃ (I14 : Value → Hp → Prop) (μ15 : Value → Hp → Nat), I14 (.int .i64 0) h3 ∧ ∀ t23_16 (d17 : Nat → Value) (h18 : Hp), I14 t23_16 h18 →
 asK .i64 t23_16 fun n19 => cond (decide ((n19 : Int) < (ByteArray.size s13 : Int)))
 (∃ J20 : Value → Hp → Prop,
 (asS s_p fun s24 => asI t23_16 fun n25 => 0 ≤ (n25 : Int) ∧ n25 < (ByteArray.size s24 : Int) ∧ CallX Tryz.prog ω 80 [(.int .u8 (byteAt s24 n25))] h18 (fun r26 h27 =>
 asB r26 fun b28 => cond (!b28)
 (asS s_p fun s29 => asI t23_16 fun n30 => 0 ≤ (n30 : Int) ∧ n30 < (ByteArray.size s29 : Int) ∧ CallX Tryz.prog ω 83 [(.int .u8 (byteAt s29 n30))] h27 (fun r31 h32 =>
 asB r31 fun b33 => J20 (.bool (!b33)) h32) X)
 (J20 (.bool false) h27)) X) ∧
 ∀ t37_21 (d22 : Nat → Value) (h23 : Hp), J20 t37_21 h23 →
 asB t37_21 fun b34 => cond b34
 (R (.bool false) h23)
 (asK .i64 t23_16 fun n35 => I14 (.int .i64 (IntKind.wrap .i64 (n35 + 1))) h23 ∧ μ15 (.int .i64 (IntKind.wrap .i64 (n35 + 1))) h23 < μ15 t23_16 h18))
 (R (.bool true) h18))
def A_token_Name : Ann :=
 (.two .leaf (.two (.two (.join [4, 5, 6, 7, 8, 9, 10, 11, 12, 13, 14, 15, 16, 17, 18, 19, 20] [20] .leaf) (.two (.two .leaf .leaf) .leaf)) (.two (.two .leaf (.one (.loop [24, 25, 3, 26, 27, 28, 29, 30, 31, 32, 33, 34, 35, 36, 37, 2, 38, 23] [23] (.two .leaf (.two (.two .leaf .leaf) (.two (.one (.two .leaf (.two (.join [26, 27, 28, 29, 30, 31, 32, 33, 34, 35, 36, 37] [37] .leaf) (.two (.two .leaf .leaf) .leaf)))) .leaf)))))) (.two .leaf .leaf))))
theorem C_token_Name (ω : Amb) (s_p : Value) (h : Hp) (R : Value → Hp → Prop) (X : List PanicEntry → Hp → Prop) (hk : W_token_Name ω s_p h R X) : CallX Tryz.prog ω 92 [s_p] h R X :=
 callX_of (an := A_token_Name) Tryz.func92 ((show fnX Tryz.prog ω A_token_Name Tryz.f92 [s_p] h R X = W_token_Name ω s_p h R X by kernel_rfl) ▸ hk)

end Go.Proofs.YtkeeboomikkojaaGreatDoor.Sx
