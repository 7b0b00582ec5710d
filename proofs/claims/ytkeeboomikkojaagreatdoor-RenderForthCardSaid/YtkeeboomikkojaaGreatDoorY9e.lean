/- Formulas of the functions' texts, written by a program of ours; each is checked by the kernel. -/
import Derived.Test.YtkeeboomikkojaaGreatDoorSxCore
import Derived.KernelRfl
import Derived.Test.YtkeeboomikkojaaGreatDoorProg
set_option linter.unusedVariables false
set_option maxRecDepth 100000
namespace Go.Proofs.YtkeeboomikkojaaGreatDoor.Sx
open Go Go.Sx Go.Proofs

/-- (*pipewright/syntax.parser).is -/
abbrev n_p_syntax_parser_is : Nat := 31
def W_p_syntax_parser_is (ω : Amb) (p_p s_p : Value) (h : Hp) (R : Value → Hp → Prop) (X : List PanicEntry → Hp → Prop) : Prop :=
 ∃ J0 : Value → Hp → Prop,
 (nnK p_p (asP p_p fun p4 =>
 ∃ v5, cellH h (Addr.add p4 0) = some v5 ∧
 asSl v5 fun a6 l7 c8 => cond (decide (((l7 : Int) : Int) > 0))
 (nnK p_p (asP p_p fun p9 =>
 ∃ v10, cellH h (Addr.add p9 0) = some v10 ∧
 asSl1 v10 fun a11 l12 c13 => 0 ≤ (0 : Int) ∧ 0 < (l12 : Int) ∧ ∃ v14, cellH h (Addr.add (Addr.add a11 (Int.toNat 0 * 4)) 0) = some v14 ∧
 asK .i64 v14 fun n15 => cond (n15 != (2 : Int))
 (nnK p_p (asP p_p fun p16 =>
 ∃ v17, cellH h (Addr.add p16 0) = some v17 ∧
 asSl1 v17 fun a18 l19 c20 => 0 ≤ (0 : Int) ∧ 0 < (l19 : Int) ∧ ∃ v21, cellH h (Addr.add (Addr.add a18 (Int.toNat 0 * 4)) 2) = some v21 ∧
 asS v21 fun s22 => asS s_p fun s23 => J0 (.bool (ByteArray.toList s22 == ByteArray.toList s23)) h))
 (J0 (.bool false) h)))
 (J0 (.bool false) h))) ∧
 ∀ t4_1 (d2 : Nat → Value) (h3 : Hp), J0 t4_1 h3 →
 R t4_1 h3
def A_p_syntax_parser_is : Ann :=
 (.two .leaf (.two (.join [5, 6, 7, 8, 9, 10, 11, 12, 13, 14, 15, 16, 17, 18, 19, 20, 21, 22, 23, 24, 25, 26, 27, 28, 29, 30, 31, 4] [4] .leaf) .leaf))
theorem C_p_syntax_parser_is (ω : Amb) (p_p s_p : Value) (h : Hp) (R : Value → Hp → Prop) (X : List PanicEntry → Hp → Prop) (hk : W_p_syntax_parser_is ω p_p s_p h R X) : CallX Tryz.prog ω 31 [p_p, s_p] h R X :=
 callX_of (an := A_p_syntax_parser_is) Tryz.func31 ((show fnX Tryz.prog ω A_p_syntax_parser_is Tryz.f31 [p_p, s_p] h R X = W_p_syntax_parser_is ω p_p s_p h R X by kernel_rfl) ▸ hk)

/-- (*pipewright/syntax.parser).fail -/
abbrev n_p_syntax_parser_fail : Nat := 32
def W_p_syntax_parser_fail (ω : Amb) (p_p code_p : Value) (h : Hp) (R : Value → Hp → Prop) (X : List PanicEntry → Hp → Prop) : Prop :=
 nnK p_p (asP p_p fun p0 =>
 ∃ v1, cellH h (Addr.add p0 1) = some v1 ∧
 nnK p_p (asP p_p fun p2 =>
 ∃ v3, cellH h (Addr.add p2 0) = some v3 ∧
 asSl v3 fun a4 l5 c6 => ∃ J7 : Value → Value → Hp → Prop,
 (cond (decide (((l5 : Int) : Int) > 0))
 (nnK p_p (asP p_p fun p12 =>
 ∃ v13, cellH h (Addr.add p12 0) = some v13 ∧
 asSl1 v13 fun a14 l15 c16 => 0 ≤ (0 : Int) ∧ 0 < (l15 : Int) ∧ ∃ v17, cellH h (Addr.add (Addr.add a14 (Int.toNat 0 * 4)) 1) = some v17 ∧
 J7 v17 code_p h))
 (asK .i64 code_p fun n18 => ∃ J19 : Value → Hp → Prop,
 (cond (n18 == (5 : Int))
 (J19 (.int .i64 6) h)
 (J19 code_p h)) ∧
 ∀ code_20 (d21 : Nat → Value) (h22 : Hp), J19 code_20 h22 →
 J7 v1 code_20 h22)) ∧
 ∀ at_8 code_9 (d10 : Nat → Value) (h11 : Hp), J7 at_8 code_9 h11 →
 oneK code_9 (oneK at_8 (X [⟨.iface 67 (.agg #[code_9, at_8]), false, false⟩] h11))))
def A_p_syntax_parser_fail : Ann :=
 (.two .leaf (.two (.two .leaf (.join [15, 16, 17, 18, 19, 20, 21, 4, 22, 23, 1] [4, 1] (.two .leaf (.two .leaf (.join [1] [1] (.two .leaf .leaf)))))) .leaf))
theorem C_p_syntax_parser_fail (ω : Amb) (p_p code_p : Value) (h : Hp) (R : Value → Hp → Prop) (X : List PanicEntry → Hp → Prop) (hk : W_p_syntax_parser_fail ω p_p code_p h R X) : CallX Tryz.prog ω 32 [p_p, code_p] h R X :=
 callX_of (an := A_p_syntax_parser_fail) Tryz.func32 ((show fnX Tryz.prog ω A_p_syntax_parser_fail Tryz.f32 [p_p, code_p] h R X = W_p_syntax_parser_fail ω p_p code_p h R X by kernel_rfl) ▸ hk)

/-- (*pipewright/syntax.parser).stage -/
abbrev n_p_syntax_parser_stage : Nat := 33
def W_p_syntax_parser_stage (ω : Amb) (p_p : Value) (h : Hp) (R : Value → Hp → Prop) (X : List PanicEntry → Hp → Prop) : Prop :=
 nnK p_p (asP p_p fun p0 =>
 ∃ v1, cellH (Array.push h (.cells #[(.string ⟨#[]⟩), (.int .i64 0), (.slice none 0 0), (.slice none 0 0)] 41 (0, 0))) (Addr.add p0 0) = some v1 ∧
 asSl1 v1 fun a2 l3 c4 => 0 ≤ (0 : Int) ∧ 0 < (l3 : Int) ∧ ∃ v5, cellH (Array.push h (.cells #[(.string ⟨#[]⟩), (.int .i64 0), (.slice none 0 0), (.slice none 0 0)] 41 (0, 0))) (Addr.add (Addr.add a2 (Int.toNat 0 * 4)) 1) = some v5 ∧
 oneK v5 (4 = 4 ∧ (∀ u ∈ [(.string ⟨#[]⟩), v5, (.slice none 0 0), (.slice none 0 0)], one u) ∧ storeK (Array.push (Array.push h (.cells #[(.string ⟨#[]⟩), (.int .i64 0), (.slice none 0 0), (.slice none 0 0)] 41 (0, 0))) (.cells #[(.string ⟨#[]⟩), (.int .i64 0), (.slice none 0 0), (.slice none 0 0)] 41 (0, 0))) ⟨Array.size (Array.push h (.cells #[(.string ⟨#[]⟩), (.int .i64 0), (.slice none 0 0), (.slice none 0 0)] 41 (0, 0))), 0, none⟩ [(.string ⟨#[]⟩), v5, (.slice none 0 0), (.slice none 0 0)] fun h6 =>
 CallX Tryz.prog ω 54 [p_p] h6 (fun r7 h8 =>
 CallX Tryz.prog ω 55 [p_p] h8 (fun r9 h10 =>
 oneK r9 (storeK1 h10 (Addr.add ⟨Array.size (Array.push h (.cells #[(.string ⟨#[]⟩), (.int .i64 0), (.slice none 0 0), (.slice none 0 0)] 41 (0, 0))), 0, none⟩ 0) r9 fun h11 =>
 CallX Tryz.prog ω 56 [p_p, (.slice (some ⟨Array.size h11, 0, none⟩) 1 1)] (Array.push h11 (.cells (List.toArray [(.string ⟨#[40]⟩)]) 9 (0, 0))) (fun r12 h13 =>
 ∃ (I14 : Hp → Prop) (μ15 : Hp → Nat), I14 h13 ∧ ∀  (d16 : Nat → Value) (h17 : Hp), I14 h17 →
 CallX Tryz.prog ω 31 [p_p, (.string ⟨#[41]⟩)] h17 (fun r18 h19 =>
 asB r18 fun b20 => cond (!b20)
 (∃ v21, cellH h19 (Addr.add ⟨Array.size (Array.push h (.cells #[(.string ⟨#[]⟩), (.int .i64 0), (.slice none 0 0), (.slice none 0 0)] 41 (0, 0))), 0, none⟩ 2) = some v21 ∧
 asSl v21 fun a22 l23 c24 => ∃ J25 : Hp → Prop,
 (cond (decide (((l23 : Int) : Int) > 0))
 (CallX Tryz.prog ω 56 [p_p, (.slice (some ⟨Array.size h19, 0, none⟩) 1 1)] (Array.push h19 (.cells (List.toArray [(.string ⟨#[44]⟩)]) 9 (0, 0))) (fun r28 h29 =>
 J25 h29) X)
 (J25 h19)) ∧
 ∀  (d26 : Nat → Value) (h27 : Hp), J25 h27 →
 ∃ v30, cellH h27 (Addr.add ⟨Array.size (Array.push h (.cells #[(.string ⟨#[]⟩), (.int .i64 0), (.slice none 0 0), (.slice none 0 0)] 41 (0, 0))), 0, none⟩ 2) = some v30 ∧
 asSl v30 fun a31 l32 c33 => ∃ J34 : Hp → Prop,
 (cond ((l32 : Int) == (6 : Int))
 (CallX Tryz.prog ω 32 [p_p, (.int .i64 8)] h27 (fun r37 h38 =>
 J34 h38) X)
 (J34 h27)) ∧
 ∀  (d35 : Nat → Value) (h36 : Hp), J34 h36 →
 CallX Tryz.prog ω 55 [p_p] h36 (fun r39 h40 =>
 ∃ v41, cellH h40 (Addr.add ⟨Array.size (Array.push h (.cells #[(.string ⟨#[]⟩), (.int .i64 0), (.slice none 0 0), (.slice none 0 0)] 41 (0, 0))), 0, none⟩ 2) = some v41 ∧
 CallX Tryz.prog ω 57 [p_p] h40 (fun r42 h43 =>
 cellH h43 (Addr.add ⟨Array.size (Array.push h (.cells #[(.string ⟨#[]⟩), (.int .i64 0), (.slice none 0 0), (.slice none 0 0)] 41 (0, 0))), 0, none⟩ 2) = some v41 ∧ oneK r39 (oneK r42 (2 = 2 ∧ cellH (Array.push h43 (.cells (List.toArray [r39, r42]) 32 (0, 0))) (Addr.add ⟨Array.size (Array.push h (.cells #[(.string ⟨#[]⟩), (.int .i64 0), (.slice none 0 0), (.slice none 0 0)] 41 (0, 0))), 0, none⟩ 2) = some v41 ∧ appK Tryz.prog 33 (Array.push h43 (.cells (List.toArray [r39, r42]) 32 (0, 0))) v41 (.slice (some ⟨Array.size h43, 0, none⟩) 1 1) fun w44 h45 =>
 oneK w44 (storeK1 h45 (Addr.add ⟨Array.size (Array.push h (.cells #[(.string ⟨#[]⟩), (.int .i64 0), (.slice none 0 0), (.slice none 0 0)] 41 (0, 0))), 0, none⟩ 2) w44 fun h46 =>
 I14 h46 ∧ μ15 h46 < μ15 h17)))) X) X)
 (CallX Tryz.prog ω 54 [p_p] h19 (fun r47 h48 =>
 CallX Tryz.prog ω 58 [p_p] h48 (fun r49 h50 =>
 oneK r49 (storeK1 h50 (Addr.add ⟨Array.size (Array.push h (.cells #[(.string ⟨#[]⟩), (.int .i64 0), (.slice none 0 0), (.slice none 0 0)] 41 (0, 0))), 0, none⟩ 3) r49 fun h51 =>
 ∃ C52, cellsH h51 ⟨Array.size (Array.push h (.cells #[(.string ⟨#[]⟩), (.int .i64 0), (.slice none 0 0), (.slice none 0 0)] 41 (0, 0))), 0, none⟩ 4 C52 ∧
 C52.toArray.size = 4 ∧ (∀ u ∈ C52.toArray.toList, one u) ∧ storeK h51 ⟨Array.size h, 0, none⟩ C52.toArray.toList fun h53 =>
 ∃ C54, cellsH h53 ⟨Array.size h, 0, none⟩ 4 C54 ∧ R (.agg C54.toArray) h53)) X) X)) X) X)) X) X))
def A_p_syntax_parser_stage : Ann :=
 (.two .leaf (.two .leaf (.two .leaf (.two .leaf (.two .leaf (.two (.one (.loop [21, 22, 23, 24, 25, 26, 27, 28, 29, 30, 31, 32, 33, 34, 35, 36, 37, 38, 4, 39, 40, 41, 42, 43, 44, 45, 46, 47] [] (.two (.two .leaf (.two .leaf .leaf)) (.one (.two (.two .leaf (.join [28, 29, 30] [] (.two .leaf .leaf))) (.two (.two .leaf (.join [35, 36] [] (.two .leaf .leaf))) (.two .leaf (.plan [0, 1, 2, 3, 4, 5, 6, 7, 8, 9])))))))) (.two .leaf (.two .leaf (.two .leaf .leaf)))))))))
theorem C_p_syntax_parser_stage (ω : Amb) (p_p : Value) (h : Hp) (R : Value → Hp → Prop) (X : List PanicEntry → Hp → Prop) (hk : W_p_syntax_parser_stage ω p_p h R X) : CallX Tryz.prog ω 33 [p_p] h R X :=
 callX_of (an := A_p_syntax_parser_stage) Tryz.func33 ((show fnX Tryz.prog ω A_p_syntax_parser_stage Tryz.f33 [p_p] h R X = W_p_syntax_parser_stage ω p_p h R X by kernel_rfl) ▸ hk)

/-- (*pipewright/syntax.parser).next -/
abbrev n_p_syntax_parser_next : Nat := 54
def W_p_syntax_parser_next (ω : Amb) (p_p : Value) (h : Hp) (R : Value → Hp → Prop) (X : List PanicEntry → Hp → Prop) : Prop :=
 nnK p_p (asP p_p fun p0 =>
 ∃ v1, cellH (Array.push h (.cells #[(.int .i64 0), (.int .i64 0), (.string ⟨#[]⟩), (.int .i64 0)] 100 (0, 0))) (Addr.add p0 0) = some v1 ∧
 asSl1 v1 fun a2 l3 c4 => 0 ≤ (0 : Int) ∧ 0 < (l3 : Int) ∧ ∃ C5, cellsH (Array.push h (.cells #[(.int .i64 0), (.int .i64 0), (.string ⟨#[]⟩), (.int .i64 0)] 100 (0, 0))) (Addr.add a2 (Int.toNat 0 * 4)) 4 C5 ∧
 C5.toArray.size = 4 ∧ (∀ u ∈ C5.toArray.toList, one u) ∧ storeK (Array.push (Array.push h (.cells #[(.int .i64 0), (.int .i64 0), (.string ⟨#[]⟩), (.int .i64 0)] 100 (0, 0))) (.cells #[(.int .i64 0), (.int .i64 0), (.string ⟨#[]⟩), (.int .i64 0)] 100 (0, 0))) ⟨Array.size (Array.push h (.cells #[(.int .i64 0), (.int .i64 0), (.string ⟨#[]⟩), (.int .i64 0)] 100 (0, 0))), 0, none⟩ C5.toArray.toList fun h6 =>
 nnK p_p (asP p_p fun p7 =>
 ∃ v8, cellH h6 (Addr.add p7 0) = some v8 ∧
 asSl v8 fun a9 l10 c11 => 0 ≤ (1 : Int) ∧ (1 : Int) ≤ (l10 : Int) ∧ (l10 : Int) ≤ (c11 : Int) ∧ nnK p_p (asP p_p fun p12 =>
 storeK1 h6 (Addr.add p12 0) (.slice (if c11 = Int.toNat 1 then a9 else Option.map (fun y => Addr.add y (Int.toNat 1 * 4)) a9) (Int.toNat (l10 : Int) - Int.toNat 1) (c11 - Int.toNat 1)) fun h13 =>
 ∃ C14, cellsH h13 ⟨Array.size (Array.push h (.cells #[(.int .i64 0), (.int .i64 0), (.string ⟨#[]⟩), (.int .i64 0)] 100 (0, 0))), 0, none⟩ 4 C14 ∧
 C14.toArray.size = 4 ∧ (∀ u ∈ C14.toArray.toList, one u) ∧ storeK h13 ⟨Array.size h, 0, none⟩ C14.toArray.toList fun h15 =>
 ∃ C16, cellsH h15 ⟨Array.size h, 0, none⟩ 4 C16 ∧ R (.agg C16.toArray) h15)))
def A_p_syntax_parser_next : Ann :=
 (.two .leaf (.two .leaf (.two .leaf (.two .leaf .leaf))))
theorem C_p_syntax_parser_next (ω : Amb) (p_p : Value) (h : Hp) (R : Value → Hp → Prop) (X : List PanicEntry → Hp → Prop) (hk : W_p_syntax_parser_next ω p_p h R X) : CallX Tryz.prog ω 54 [p_p] h R X :=
 callX_of (an := A_p_syntax_parser_next) Tryz.func54 ((show fnX Tryz.prog ω A_p_syntax_parser_next Tryz.f54 [p_p] h R X = W_p_syntax_parser_next ω p_p h R X by kernel_rfl) ▸ hk)

/-- (*pipewright/syntax.parser).name -/
abbrev n_p_syntax_parser_name : Nat := 55
def W_p_syntax_parser_name (ω : Amb) (p_p : Value) (h : Hp) (R : Value → Hp → Prop) (X : List PanicEntry → Hp → Prop) : Prop :=
 CallX Tryz.prog ω 86 [p_p, (.int .i64 2)] h (fun r0 h1 =>
 asA r0 fun A2 => asO A2[2]? fun v3 => R v3 h1) X
def A_p_syntax_parser_name : Ann :=
 (.two .leaf (.two .leaf .leaf))
theorem C_p_syntax_parser_name (ω : Amb) (p_p : Value) (h : Hp) (R : Value → Hp → Prop) (X : List PanicEntry → Hp → Prop) (hk : W_p_syntax_parser_name ω p_p h R X) : CallX Tryz.prog ω 55 [p_p] h R X :=
 callX_of (an := A_p_syntax_parser_name) Tryz.func55 ((show fnX Tryz.prog ω A_p_syntax_parser_name Tryz.f55 [p_p] h R X = W_p_syntax_parser_name ω p_p h R X by kernel_rfl) ▸ hk)

/-- (*pipewright/syntax.parser).want -/
abbrev n_p_syntax_parser_want : Nat := 56
def W_p_syntax_parser_want (ω : Amb) (p_p l_p : Value) (h : Hp) (R : Value → Hp → Prop) (X : List PanicEntry → Hp → Prop) : Prop :=
 asSl l_p fun a0 l1 c2 => ∃ (I3 : Value → Hp → Prop) (μ4 : Value → Hp → Nat), I3 (.int .i64 0) h ∧ ∀ t8_5 (d6 : Nat → Value) (h7 : Hp), I3 t8_5 h7 →
 asK .i64 t8_5 fun n8 => cond (decide ((n8 : Int) < (l1 : Int)))
 (asSl1 l_p fun a9 l10 c11 => asI t8_5 fun n12 => 0 ≤ (n12 : Int) ∧ n12 < (l10 : Int) ∧ ∃ v13, cellH h7 (Addr.add a9 (Int.toNat n12 * 1)) = some v13 ∧
 CallX Tryz.prog ω 31 [p_p, v13] h7 (fun r14 h15 =>
 asB r14 fun b16 => ∃ J17 : Hp → Prop,
 (cond (!b16)
 (CallX Tryz.prog ω 32 [p_p, (.int .i64 5)] h15 (fun r20 h21 =>
 J17 h21) X)
 (J17 h15)) ∧
 ∀  (d18 : Nat → Value) (h19 : Hp), J17 h19 →
 CallX Tryz.prog ω 54 [p_p] h19 (fun r22 h23 =>
 asK .i64 t8_5 fun n24 => I3 (.int .i64 (IntKind.wrap .i64 (n24 + 1))) h23 ∧ μ4 (.int .i64 (IntKind.wrap .i64 (n24 + 1))) h23 < μ4 t8_5 h7) X) X)
 (R (.tuple #[]) h7)
def A_p_syntax_parser_want : Ann :=
 (.two .leaf (.one (.loop [9, 10, 11, 5, 12, 13, 14, 15, 16, 17, 18, 19, 20, 8] [8] (.two .leaf (.two (.two .leaf .leaf) (.two (.one (.two .leaf (.two (.two .leaf (.join [16, 17] [] (.two .leaf .leaf))) .leaf))) .leaf))))))
theorem C_p_syntax_parser_want (ω : Amb) (p_p l_p : Value) (h : Hp) (R : Value → Hp → Prop) (X : List PanicEntry → Hp → Prop) (hk : W_p_syntax_parser_want ω p_p l_p h R X) : CallX Tryz.prog ω 56 [p_p, l_p] h R X :=
 callX_of (an := A_p_syntax_parser_want) Tryz.func56 ((show fnX Tryz.prog ω A_p_syntax_parser_want Tryz.f56 [p_p, l_p] h R X = W_p_syntax_parser_want ω p_p l_p h R X by kernel_rfl) ▸ hk)

/-- (*pipewright/syntax.parser).typ -/
abbrev n_p_syntax_parser_typ : Nat := 57
def W_p_syntax_parser_typ (ω : Amb) (p_p : Value) (h : Hp) (R : Value → Hp → Prop) (X : List PanicEntry → Hp → Prop) : Prop :=
 ∃ (I0 : Value → Hp → Prop) (μ1 : Value → Hp → Nat), I0 (.string ⟨#[]⟩) h ∧ ∀ t_2 (d3 : Nat → Value) (h4 : Hp), I0 t_2 h4 →
 CallX Tryz.prog ω 31 [p_p, (.string ⟨#[105, 110, 116]⟩)] h4 (fun r5 h6 =>
 asB r5 fun b7 => cond (!b7)
 (∃ J8 : Value → Hp → Prop,
 (CallX Tryz.prog ω 31 [p_p, (.string ⟨#[115, 101, 110, 100]⟩)] h6 (fun r12 h13 =>
 asB r12 fun b14 => cond (!b14)
 (CallX Tryz.prog ω 31 [p_p, (.string ⟨#[114, 101, 99, 118]⟩)] h13 (fun r15 h16 =>
 asB r15 fun b17 => J8 (.bool (!b17)) h16) X)
 (J8 (.bool false) h13)) X) ∧
 ∀ t14_9 (d10 : Nat → Value) (h11 : Hp), J8 t14_9 h11 →
 ∃ J18 : Hp → Prop,
 (asB t14_9 fun b21 => cond b21
 (CallX Tryz.prog ω 32 [p_p, (.int .i64 5)] h11 (fun r22 h23 =>
 J18 h23) X)
 (J18 h11)) ∧
 ∀  (d19 : Nat → Value) (h20 : Hp), J18 h20 →
 asS t_2 fun s24 => ∃ J25 : Hp → Prop,
 (cond ((ByteArray.size s24 : Int) == (3 : Int))
 (CallX Tryz.prog ω 32 [p_p, (.int .i64 7)] h20 (fun r28 h29 =>
 J25 h29) X)
 (J25 h20)) ∧
 ∀  (d26 : Nat → Value) (h27 : Hp), J25 h27 →
 CallX Tryz.prog ω 54 [p_p] h27 (fun r30 h31 =>
 asA r30 fun A32 => asO A32[2]? fun v33 => asS v33 fun s34 => 0 ≤ (((0 : Nat) : Int) : Int) ∧ (((0 : Nat) : Int) : Int) ≤ 1 ∧ 1 ≤ (ByteArray.size s34 : Int) ∧ asS t_2 fun s35 => ByteArray.size s35 + ByteArray.size (ByteArray.extract s34 (Int.toNat ((0 : Nat) : Int)) (Int.toNat 1)) ≤ 9223372036854775807 ∧ I0 (.string (s35 ++ (ByteArray.extract s34 (Int.toNat ((0 : Nat) : Int)) (Int.toNat 1)))) h31 ∧ μ1 (.string (s35 ++ (ByteArray.extract s34 (Int.toNat ((0 : Nat) : Int)) (Int.toNat 1)))) h31 < μ1 t_2 h4) X)
 (CallX Tryz.prog ω 54 [p_p] h6 (fun r36 h37 =>
 asS t_2 fun s38 => ByteArray.size s38 + ByteArray.size ⟨#[105]⟩ ≤ 9223372036854775807 ∧ R (.string (s38 ++ ⟨#[105]⟩)) h37) X)) X
def A_p_syntax_parser_typ : Ann :=
 (.two .leaf (.two .leaf (.two (.one (.loop [4, 5, 6, 7, 8, 9, 10, 11, 12, 13, 14, 15, 16, 17, 18, 19, 20, 21, 22, 23, 24, 25, 26, 27, 3] [3] (.two (.two .leaf (.two .leaf .leaf)) (.one (.two (.two (.join [7, 8, 9, 10, 11, 12, 13, 14] [14] .leaf) (.join [15, 16] [] (.two .leaf .leaf))) (.two (.two .leaf (.join [20, 21] [] (.two .leaf .leaf))) .leaf)))))) (.two .leaf (.two .leaf .leaf)))))
theorem C_p_syntax_parser_typ (ω : Amb) (p_p : Value) (h : Hp) (R : Value → Hp → Prop) (X : List PanicEntry → Hp → Prop) (hk : W_p_syntax_parser_typ ω p_p h R X) : CallX Tryz.prog ω 57 [p_p] h R X :=
 callX_of (an := A_p_syntax_parser_typ) Tryz.func57 ((show fnX Tryz.prog ω A_p_syntax_parser_typ Tryz.f57 [p_p] h R X = W_p_syntax_parser_typ ω p_p h R X by kernel_rfl) ▸ hk)

/-- (*pipewright/syntax.parser).block -/
abbrev n_p_syntax_parser_block : Nat := 58
def W_p_syntax_parser_block (ω : Amb) (p_p : Value) (h : Hp) (R : Value → Hp → Prop) (X : List PanicEntry → Hp → Prop) : Prop :=
 ∃ J0 : Value → Hp → Prop,
 (CallX Tryz.prog ω 31 [p_p, (.string ⟨#[123]⟩)] h (fun r4 h5 =>
 asB r4 fun b6 => cond b6
 (nnK p_p (asP p_p fun p7 =>
 ∃ v8, cellH h5 (Addr.add p7 3) = some v8 ∧
 asK .i64 v8 fun n9 => J0 (.bool (n9 == (8 : Int))) h5))
 (J0 (.bool false) h5)) X) ∧
 ∀ t12_1 (d2 : Nat → Value) (h3 : Hp), J0 t12_1 h3 →
 ∃ J10 : Hp → Prop,
 (asB t12_1 fun b13 => cond b13
 (CallX Tryz.prog ω 32 [p_p, (.int .i64 7)] h3 (fun r14 h15 =>
 J10 h15) X)
 (J10 h3)) ∧
 ∀  (d11 : Nat → Value) (h12 : Hp), J10 h12 →
 CallX Tryz.prog ω 56 [p_p, (.slice (some ⟨Array.size h12, 0, none⟩) 1 1)] (Array.push h12 (.cells (List.toArray [(.string ⟨#[123]⟩)]) 9 (0, 0))) (fun r16 h17 =>
 nnK p_p (asP p_p fun p18 =>
 ∃ v19, cellH h17 (Addr.add p18 3) = some v19 ∧
 asK .i64 v19 fun n20 => nnK p_p (asP p_p fun p21 =>
 storeK1 h17 (Addr.add p21 3) (.int .i64 (IntKind.wrap .i64 (n20 + 1))) fun h22 =>
 ∃ (I23 : Value → Hp → Prop) (μ24 : Value → Hp → Nat), I23 (.slice none 0 0) h22 ∧ ∀ out_25 (d26 : Nat → Value) (h27 : Hp), I23 out_25 h27 →
 CallX Tryz.prog ω 31 [p_p, (.string ⟨#[125]⟩)] h27 (fun r28 h29 =>
 asB r28 fun b30 => cond (!b30)
 (CallX Tryz.prog ω 87 [p_p] h29 (fun r31 h32 =>
 asA r31 fun A33 => A33.size = 9 ∧ appK Tryz.prog 37 (Array.push h32 (.cells (List.toArray (A33.toList ++ [])) 39 (0, 0))) out_25 (.slice (some ⟨Array.size h32, 0, none⟩) 1 1) fun w34 h35 =>
 I23 w34 h35 ∧ μ24 w34 h35 < μ24 out_25 h27) X)
 (nnK p_p (asP p_p fun p36 =>
 ∃ v37, cellH h29 (Addr.add p36 3) = some v37 ∧
 asK .i64 v37 fun n38 => nnK p_p (asP p_p fun p39 =>
 storeK1 h29 (Addr.add p39 3) (.int .i64 (IntKind.wrap .i64 (n38 - 1))) fun h40 =>
 CallX Tryz.prog ω 54 [p_p] h40 (fun r41 h42 =>
 R out_25 h42) X)))) X))) X
def A_p_syntax_parser_block : Ann :=
 (.two .leaf (.two (.two (.join [4, 5, 6, 7, 8, 9, 10, 11, 12] [12] .leaf) (.join [13, 14] [] (.two .leaf .leaf))) (.two .leaf (.two .leaf (.two .leaf (.two (.one (.loop [25, 26, 27, 28, 29, 30, 31, 32, 3] [3] (.two (.two .leaf (.two .leaf .leaf)) (.one .leaf)))) (.two .leaf (.two .leaf (.two .leaf .leaf)))))))))
theorem C_p_syntax_parser_block (ω : Amb) (p_p : Value) (h : Hp) (R : Value → Hp → Prop) (X : List PanicEntry → Hp → Prop) (hk : W_p_syntax_parser_block ω p_p h R X) : CallX Tryz.prog ω 58 [p_p] h R X :=
 callX_of (an := A_p_syntax_parser_block) Tryz.func58 ((show fnX Tryz.prog ω A_p_syntax_parser_block Tryz.f58 [p_p] h R X = W_p_syntax_parser_block ω p_p h R X by kernel_rfl) ▸ hk)

/-- (*pipewright/syntax.parser).kind -/
abbrev n_p_syntax_parser_kind : Nat := 86
def W_p_syntax_parser_kind (ω : Amb) (p_p k_p : Value) (h : Hp) (R : Value → Hp → Prop) (X : List PanicEntry → Hp → Prop) : Prop :=
 ∃ β0 : Bool,
 (nnK p_p (asP p_p fun p2 =>
 ∃ v3, cellH (Array.push h (.cells #[(.int .i64 0), (.int .i64 0), (.string ⟨#[]⟩), (.int .i64 0)] 100 (0, 0))) (Addr.add p2 0) = some v3 ∧
 asSl v3 fun a4 l5 c6 => cond ((l5 : Int) == (0 : Int))
 (((.bool true) : Value) = .bool β0 ∧ (Array.push h (.cells #[(.int .i64 0), (.int .i64 0), (.string ⟨#[]⟩), (.int .i64 0)] 100 (0, 0))) = (Array.push h (.cells #[(.int .i64 0), (.int .i64 0), (.string ⟨#[]⟩), (.int .i64 0)] 100 (0, 0))))
 (nnK p_p (asP p_p fun p7 =>
 ∃ v8, cellH (Array.push h (.cells #[(.int .i64 0), (.int .i64 0), (.string ⟨#[]⟩), (.int .i64 0)] 100 (0, 0))) (Addr.add p7 0) = some v8 ∧
 asSl1 v8 fun a9 l10 c11 => 0 ≤ (0 : Int) ∧ 0 < (l10 : Int) ∧ ∃ v12, cellH (Array.push h (.cells #[(.int .i64 0), (.int .i64 0), (.string ⟨#[]⟩), (.int .i64 0)] 100 (0, 0))) (Addr.add (Addr.add a9 (Int.toNat 0 * 4)) 0) = some v12 ∧
 asK .i64 v12 fun n13 => asK .i64 k_p fun n14 => ((.bool (n13 != (n14 : Int))) : Value) = .bool β0 ∧ (Array.push h (.cells #[(.int .i64 0), (.int .i64 0), (.string ⟨#[]⟩), (.int .i64 0)] 100 (0, 0))) = (Array.push h (.cells #[(.int .i64 0), (.int .i64 0), (.string ⟨#[]⟩), (.int .i64 0)] 100 (0, 0))))))) ∧
 ∀ d1 : Nat → Value,
 ∃ J15 : Hp → Prop,
 (cond β0
 (CallX Tryz.prog ω 32 [p_p, (.int .i64 5)] (Array.push h (.cells #[(.int .i64 0), (.int .i64 0), (.string ⟨#[]⟩), (.int .i64 0)] 100 (0, 0))) (fun r18 h19 =>
 J15 h19) X)
 (J15 (Array.push h (.cells #[(.int .i64 0), (.int .i64 0), (.string ⟨#[]⟩), (.int .i64 0)] 100 (0, 0))))) ∧
 ∀  (d16 : Nat → Value) (h17 : Hp), J15 h17 →
 CallX Tryz.prog ω 54 [p_p] h17 (fun r20 h21 =>
 asA r20 fun A22 => A22.size = 4 ∧ (∀ u ∈ A22.toList, one u) ∧ storeK h21 ⟨Array.size h, 0, none⟩ A22.toList fun h23 =>
 ∃ C24, cellsH h23 ⟨Array.size h, 0, none⟩ 4 C24 ∧ R (.agg C24.toArray) h23) X
def A_p_syntax_parser_kind : Ann :=
 (.two .leaf (.two (.two (.jb [5, 6, 7, 8, 9, 10, 11, 12, 13, 14, 15, 16, 17, 18, 19, 20, 21] 21 .leaf) (.join [22, 23] [] (.two .leaf .leaf))) (.two .leaf .leaf)))
theorem C_p_syntax_parser_kind (ω : Amb) (p_p k_p : Value) (h : Hp) (R : Value → Hp → Prop) (X : List PanicEntry → Hp → Prop) (hk : W_p_syntax_parser_kind ω p_p k_p h R X) : CallX Tryz.prog ω 86 [p_p, k_p] h R X :=
 callX_of (an := A_p_syntax_parser_kind) Tryz.func86 ((show fnX Tryz.prog ω A_p_syntax_parser_kind Tryz.f86 [p_p, k_p] h R X = W_p_syntax_parser_kind ω p_p k_p h R X by kernel_rfl) ▸ hk)

/-- (*pipewright/syntax.parser).stmt -/
abbrev n_p_syntax_parser_stmt : Nat := 87
def W_p_syntax_parser_stmt (ω : Amb) (p_p : Value) (h : Hp) (R : Value → Hp → Prop) (X : List PanicEntry → Hp → Prop) : Prop :=
 ∃ β0 : Bool,
 (nnK p_p (asP p_p fun p2 =>
 ∃ v3, cellH (Array.push h (.cells #[(.int .i64 0), (.int .i64 0), (.string ⟨#[]⟩), (.string ⟨#[]⟩), (.string ⟨#[]⟩), (.int .i64 0), (.slice none 0 0), (.slice none 0 0), (.slice none 0 0)] 39 (0, 0))) (Addr.add p2 0) = some v3 ∧
 asSl v3 fun a4 l5 c6 => cond ((l5 : Int) == (0 : Int))
 (((.bool true) : Value) = .bool β0 ∧ (Array.push h (.cells #[(.int .i64 0), (.int .i64 0), (.string ⟨#[]⟩), (.string ⟨#[]⟩), (.string ⟨#[]⟩), (.int .i64 0), (.slice none 0 0), (.slice none 0 0), (.slice none 0 0)] 39 (0, 0))) = (Array.push h (.cells #[(.int .i64 0), (.int .i64 0), (.string ⟨#[]⟩), (.string ⟨#[]⟩), (.string ⟨#[]⟩), (.int .i64 0), (.slice none 0 0), (.slice none 0 0), (.slice none 0 0)] 39 (0, 0))))
 (nnK p_p (asP p_p fun p7 =>
 ∃ v8, cellH (Array.push h (.cells #[(.int .i64 0), (.int .i64 0), (.string ⟨#[]⟩), (.string ⟨#[]⟩), (.string ⟨#[]⟩), (.int .i64 0), (.slice none 0 0), (.slice none 0 0), (.slice none 0 0)] 39 (0, 0))) (Addr.add p7 0) = some v8 ∧
 asSl1 v8 fun a9 l10 c11 => 0 ≤ (0 : Int) ∧ 0 < (l10 : Int) ∧ ∃ v12, cellH (Array.push h (.cells #[(.int .i64 0), (.int .i64 0), (.string ⟨#[]⟩), (.string ⟨#[]⟩), (.string ⟨#[]⟩), (.int .i64 0), (.slice none 0 0), (.slice none 0 0), (.slice none 0 0)] 39 (0, 0))) (Addr.add (Addr.add a9 (Int.toNat 0 * 4)) 0) = some v12 ∧
 asK .i64 v12 fun n13 => ((.bool (n13 != (1 : Int))) : Value) = .bool β0 ∧ (Array.push h (.cells #[(.int .i64 0), (.int .i64 0), (.string ⟨#[]⟩), (.string ⟨#[]⟩), (.string ⟨#[]⟩), (.int .i64 0), (.slice none 0 0), (.slice none 0 0), (.slice none 0 0)] 39 (0, 0))) = (Array.push h (.cells #[(.int .i64 0), (.int .i64 0), (.string ⟨#[]⟩), (.string ⟨#[]⟩), (.string ⟨#[]⟩), (.int .i64 0), (.slice none 0 0), (.slice none 0 0), (.slice none 0 0)] 39 (0, 0))))))) ∧
 ∀ d1 : Nat → Value,
 ∃ J14 : Hp → Prop,
 (cond β0
 (CallX Tryz.prog ω 32 [p_p, (.int .i64 5)] (Array.push h (.cells #[(.int .i64 0), (.int .i64 0), (.string ⟨#[]⟩), (.string ⟨#[]⟩), (.string ⟨#[]⟩), (.int .i64 0), (.slice none 0 0), (.slice none 0 0), (.slice none 0 0)] 39 (0, 0))) (fun r17 h18 =>
 J14 h18) X)
 (J14 (Array.push h (.cells #[(.int .i64 0), (.int .i64 0), (.string ⟨#[]⟩), (.string ⟨#[]⟩), (.string ⟨#[]⟩), (.int .i64 0), (.slice none 0 0), (.slice none 0 0), (.slice none 0 0)] 39 (0, 0))))) ∧
 ∀  (d15 : Nat → Value) (h16 : Hp), J14 h16 →
 nnK p_p (asP p_p fun p19 =>
 ∃ v20, cellH h16 (Addr.add p19 0) = some v20 ∧
 asSl1 v20 fun a21 l22 c23 => 0 ≤ (0 : Int) ∧ 0 < (l22 : Int) ∧ ∃ v24, cellH h16 (Addr.add (Addr.add a21 (Int.toNat 0 * 4)) 2) = some v24 ∧
 CallX Tryz.prog ω 109 [(.slice (some ⟨Array.size h16, 0, none⟩) 14 14), v24] (Array.push h16 (.cells (List.toArray [(.string ⟨#[108, 101, 116]⟩), (.string ⟨#[115, 101, 116]⟩), (.string ⟨#[101, 109, 105, 116]⟩), (.string ⟨#[99, 104, 97, 110]⟩), (.string ⟨#[99, 108, 111, 110, 101]⟩), (.string ⟨#[115, 101, 110, 100]⟩), (.string ⟨#[99, 108, 111, 115, 101]⟩), (.string ⟨#[97, 98, 97, 110, 100, 111, 110]⟩), (.string ⟨#[100, 114, 97, 105, 110]⟩), (.string ⟨#[115, 112, 97, 119, 110]⟩), (.string ⟨#[116, 97, 107, 101]⟩), (.string ⟨#[102, 111, 114]⟩), (.string ⟨#[114, 101, 112, 101, 97, 116]⟩), (.string ⟨#[105, 102]⟩)]) 9 (0, 0))) (fun r25 h26 =>
 asK .i64 r25 fun n27 => ∃ J28 : Hp → Prop,
 (cond (decide ((n27 : Int) < 0))
 (CallX Tryz.prog ω 32 [p_p, (.int .i64 5)] h26 (fun r31 h32 =>
 J28 h32) X)
 (J28 h26)) ∧
 ∀  (d29 : Nat → Value) (h30 : Hp), J28 h30 →
 nnK p_p (asP p_p fun p33 =>
 ∃ v34, cellH h30 (Addr.add p33 2) = some v34 ∧
 asK .i64 v34 fun n35 => ∃ J36 : Hp → Prop,
 (cond (n35 == (300 : Int))
 (CallX Tryz.prog ω 32 [p_p, (.int .i64 8)] h30 (fun r39 h40 =>
 J36 h40) X)
 (J36 h30)) ∧
 ∀  (d37 : Nat → Value) (h38 : Hp), J36 h38 →
 nnK p_p (asP p_p fun p41 =>
 ∃ v42, cellH h38 (Addr.add p41 2) = some v42 ∧
 asK .i64 v42 fun n43 => nnK p_p (asP p_p fun p44 =>
 storeK1 h38 (Addr.add p44 2) (.int .i64 (IntKind.wrap .i64 (n43 + 1))) fun h45 =>
 asK .i64 r25 fun n46 => CallX Tryz.prog ω 54 [p_p] h45 (fun r47 h48 =>
 asA r47 fun A49 => asO A49[1]? fun v50 => oneK v50 (9 = 9 ∧ (∀ u ∈ [(.int .i64 (IntKind.wrap .i64 (n46 + 1))), v50, (.string ⟨#[]⟩), (.string ⟨#[]⟩), (.string ⟨#[]⟩), (.int .i64 0), (.slice none 0 0), (.slice none 0 0), (.slice none 0 0)], one u) ∧ storeK (Array.push h48 (.cells #[(.int .i64 0), (.int .i64 0), (.string ⟨#[]⟩), (.string ⟨#[]⟩), (.string ⟨#[]⟩), (.int .i64 0), (.slice none 0 0), (.slice none 0 0), (.slice none 0 0)] 39 (0, 0))) ⟨Array.size h48, 0, none⟩ [(.int .i64 (IntKind.wrap .i64 (n46 + 1))), v50, (.string ⟨#[]⟩), (.string ⟨#[]⟩), (.string ⟨#[]⟩), (.int .i64 0), (.slice none 0 0), (.slice none 0 0), (.slice none 0 0)] fun h51 =>
 ∃ v52, cellH h51 (Addr.add ⟨Array.size h48, 0, none⟩ 0) = some v52 ∧
 asK .i64 v52 fun n53 => ∃ J54 : Value → Hp → Prop,
 (cond (n53 == (11 : Int))
 (J54 (.bool (n53 == (11 : Int))) h51)
 (asK .i64 v52 fun n58 => ∃ J59 : Value → Hp → Prop,
 (cond (n58 == (12 : Int))
 (J59 (.bool (n58 == (12 : Int))) h51)
 (asK .i64 v52 fun n63 => ∃ J64 : Value → Hp → Prop,
 (cond (n63 == (13 : Int))
 (J64 (.bool (n63 == (13 : Int))) h51)
 (asK .i64 v52 fun n68 => J64 (.bool (n68 == (14 : Int))) h51)) ∧
 ∀ t60_65 (d66 : Nat → Value) (h67 : Hp), J64 t60_65 h67 →
 J59 t60_65 h67)) ∧
 ∀ t60_60 (d61 : Nat → Value) (h62 : Hp), J59 t60_60 h62 →
 J54 t60_60 h62)) ∧
 ∀ t60_55 (d56 : Nat → Value) (h57 : Hp), J54 t60_55 h57 →
 asB t60_55 fun b69 => cond b69
 (CallX Tryz.prog ω 110 [p_p, (.pointer (some ⟨Array.size h48, 0, none⟩))] h57 (fun r70 h71 =>
 ∃ C72, cellsH h71 ⟨Array.size h48, 0, none⟩ 9 C72 ∧
 C72.toArray.size = 9 ∧ (∀ u ∈ C72.toArray.toList, one u) ∧ storeK h71 ⟨Array.size h, 0, none⟩ C72.toArray.toList fun h73 =>
 ∃ C74, cellsH h73 ⟨Array.size h, 0, none⟩ 9 C74 ∧ R (.agg C74.toArray) h73) X)
 (CallX Tryz.prog ω 111 [p_p, (.pointer (some ⟨Array.size h48, 0, none⟩))] h57 (fun r75 h76 =>
 CallX Tryz.prog ω 56 [p_p, (.slice (some ⟨Array.size h76, 0, none⟩) 1 1)] (Array.push h76 (.cells (List.toArray [(.string ⟨#[59]⟩)]) 9 (0, 0))) (fun r77 h78 =>
 ∃ C79, cellsH h78 ⟨Array.size h48, 0, none⟩ 9 C79 ∧
 C79.toArray.size = 9 ∧ (∀ u ∈ C79.toArray.toList, one u) ∧ storeK h78 ⟨Array.size h, 0, none⟩ C79.toArray.toList fun h80 =>
 ∃ C81, cellsH h80 ⟨Array.size h, 0, none⟩ 9 C81 ∧ R (.agg C81.toArray) h80) X) X))) X)))) X)
def A_p_syntax_parser_stmt : Ann :=
 (.two .leaf (.two (.two (.jb [6, 7, 8, 9, 10, 11, 12, 13, 14, 15, 16, 17, 18, 19, 20, 21] 21 .leaf) (.join [22, 23] [] (.two .leaf .leaf))) (.two .leaf (.two .leaf (.two (.two .leaf (.join [36, 37] [] (.two .leaf .leaf))) (.two (.two .leaf (.join [43, 44] [] (.two .leaf .leaf))) (.two .leaf (.two .leaf (.two (.two .leaf (.one (.two (.two .leaf (.join [62, 60, 63, 64] [60] (.two .leaf (.two .leaf (.join [63, 60, 64] [60] (.two .leaf (.two .leaf (.join [64, 60] [60] (.two .leaf .leaf))))))))) (.two (.two .leaf (.two .leaf .leaf)) .leaf)))) (.two .leaf (.two .leaf (.two .leaf .leaf))))))))))))
theorem C_p_syntax_parser_stmt (ω : Amb) (p_p : Value) (h : Hp) (R : Value → Hp → Prop) (X : List PanicEntry → Hp → Prop) (hk : W_p_syntax_parser_stmt ω p_p h R X) : CallX Tryz.prog ω 87 [p_p] h R X :=
 callX_of (an := A_p_syntax_parser_stmt) Tryz.func87 ((show fnX Tryz.prog ω A_p_syntax_parser_stmt Tryz.f87 [p_p] h R X = W_p_syntax_parser_stmt ω p_p h R X by kernel_rfl) ▸ hk)

/-- slices.Index[[]string,string] -/
abbrev n_slices_Index_sl_string_string : Nat := 109
def W_slices_Index_sl_string_string (ω : Amb) (s_p v_p : Value) (h : Hp) (R : Value → Hp → Prop) (X : List PanicEntry → Hp → Prop) : Prop :=
 asSl s_p fun a0 l1 c2 => ∃ (I3 : Value → Hp → Prop) (μ4 : Value → Hp → Nat), I3 (.int .i64 0) h ∧ ∀ t8_5 (d6 : Nat → Value) (h7 : Hp), I3 t8_5 h7 →
 asK .i64 t8_5 fun n8 => cond (decide ((n8 : Int) < (l1 : Int)))
 (asSl1 s_p fun a9 l10 c11 => asI t8_5 fun n12 => 0 ≤ (n12 : Int) ∧ n12 < (l10 : Int) ∧ ∃ v13, cellH h7 (Addr.add a9 (Int.toNat n12 * 1)) = some v13 ∧
 asS v_p fun s14 => asS v13 fun s15 => cond (ByteArray.toList s14 == ByteArray.toList s15)
 (R t8_5 h7)
 (asK .i64 t8_5 fun n16 => I3 (.int .i64 (IntKind.wrap .i64 (n16 + 1))) h7 ∧ μ4 (.int .i64 (IntKind.wrap .i64 (n16 + 1))) h7 < μ4 t8_5 h7))
 (R (.int .i64 (-1)) h7)
def A_slices_Index_sl_string_string : Ann :=
 (.two .leaf (.two (.two .leaf (.one (.loop [9, 10, 5, 11, 12, 13, 14, 15, 16, 17, 4, 18, 8] [8] (.two .leaf (.two (.two .leaf .leaf) (.two (.one (.two .leaf (.two .leaf (.two (.two .leaf .leaf) .leaf)))) .leaf)))))) (.two .leaf .leaf)))
theorem C_slices_Index_sl_string_string (ω : Amb) (s_p v_p : Value) (h : Hp) (R : Value → Hp → Prop) (X : List PanicEntry → Hp → Prop) (hk : W_slices_Index_sl_string_string ω s_p v_p h R X) : CallX Tryz.prog ω 109 [s_p, v_p] h R X :=
 callX_of (an := A_slices_Index_sl_string_string) Tryz.func109 ((show fnX Tryz.prog ω A_slices_Index_sl_string_string Tryz.f109 [s_p, v_p] h R X = W_slices_Index_sl_string_string ω s_p v_p h R X by kernel_rfl) ▸ hk)

/-- (*pipewright/syntax.parser).long -/
abbrev n_p_syntax_parser_long : Nat := 110
def W_p_syntax_parser_long (ω : Amb) (p_p s_p : Value) (h : Hp) (R : Value → Hp → Prop) (X : List PanicEntry → Hp → Prop) : Prop :=
 ∃ β0 : Bool,
 (nnK s_p (asP s_p fun p2 =>
 ∃ v3, cellH h (Addr.add p2 0) = some v3 ∧
 asK .i64 v3 fun n4 => cond (n4 == (11 : Int))
 (((.bool true) : Value) = .bool β0 ∧ h = h)
 (nnK s_p (asP s_p fun p5 =>
 ∃ v6, cellH h (Addr.add p5 0) = some v6 ∧
 asK .i64 v6 fun n7 => ((.bool (n7 == (12 : Int))) : Value) = .bool β0 ∧ h = h)))) ∧
 ∀ d1 : Nat → Value,
 ∃ J8 : Hp → Prop,
 (cond β0
 (CallX Tryz.prog ω 55 [p_p] h (fun r11 h12 =>
 nnK s_p (asP s_p fun p13 =>
 oneK r11 (storeK1 h12 (Addr.add p13 2) r11 fun h14 =>
 CallX Tryz.prog ω 56 [p_p, (.slice (some ⟨Array.size h14, 0, none⟩) 1 1)] (Array.push h14 (.cells (List.toArray [(.string ⟨#[102, 114, 111, 109]⟩)]) 9 (0, 0))) (fun r15 h16 =>
 CallX Tryz.prog ω 55 [p_p] h16 (fun r17 h18 =>
 nnK s_p (asP s_p fun p19 =>
 oneK r17 (storeK1 h18 (Addr.add p19 3) r17 fun h20 =>
 J8 h20))) X) X))) X)
 (CallX Tryz.prog ω 129 [p_p] h (fun r21 h22 =>
 asA r21 fun A23 => A23.size = 4 ∧ nnK s_p (asP s_p fun p24 =>
 storeK1 (Array.push h22 (.cells (List.toArray (A23.toList ++ [])) 36 (0, 0))) (Addr.add p24 6) (.slice (some ⟨Array.size h22, 0, none⟩) 1 1) fun h25 =>
 J8 h25)) X)) ∧
 ∀  (d9 : Nat → Value) (h10 : Hp), J8 h10 →
 CallX Tryz.prog ω 58 [p_p] h10 (fun r26 h27 =>
 nnK s_p (asP s_p fun p28 =>
 oneK r26 (storeK1 h27 (Addr.add p28 7) r26 fun h29 =>
 ∃ β30 : Bool,
 (nnK s_p (asP s_p fun p32 =>
 ∃ v33, cellH h29 (Addr.add p32 0) = some v33 ∧
 asK .i64 v33 fun n34 => cond (n34 == (11 : Int))
 (((.bool true) : Value) = .bool β30 ∧ h29 = h29)
 (nnK s_p (asP s_p fun p35 =>
 ∃ v36, cellH h29 (Addr.add p35 0) = some v36 ∧
 asK .i64 v36 fun n37 => ((.bool (n37 == (14 : Int))) : Value) = .bool β30 ∧ h29 = h29)))) ∧
 ∀ d31 : Nat → Value,
 ∃ J38 : Hp → Prop,
 (cond β30
 (CallX Tryz.prog ω 130 [p_p] h29 (fun r41 h42 =>
 nnK s_p (asP s_p fun p43 =>
 oneK r41 (storeK1 h42 (Addr.add p43 8) r41 fun h44 =>
 J38 h44))) X)
 (J38 h29)) ∧
 ∀  (d39 : Nat → Value) (h40 : Hp), J38 h40 →
 R (.tuple #[]) h40))) X
def A_p_syntax_parser_long : Ann :=
 (.two (.two (.jb [4, 5, 6, 7, 8, 9, 10, 11, 12, 13, 14, 15] 15 .leaf) (.join [16, 17, 18, 19, 20, 21, 22, 23, 24, 25, 26, 27, 28, 29, 30, 31, 32, 33, 34] [] (.two (.two .leaf (.two .leaf .leaf)) .leaf))) (.two .leaf (.two (.jb [40, 41, 42, 43, 44, 45, 46, 47, 48, 49, 50, 51] 51 .leaf) (.join [52, 53, 54, 55, 56] [] (.two .leaf .leaf)))))
theorem C_p_syntax_parser_long (ω : Amb) (p_p s_p : Value) (h : Hp) (R : Value → Hp → Prop) (X : List PanicEntry → Hp → Prop) (hk : W_p_syntax_parser_long ω p_p s_p h R X) : CallX Tryz.prog ω 110 [p_p, s_p] h R X :=
 callX_of (an := A_p_syntax_parser_long) Tryz.func110 ((show fnX Tryz.prog ω A_p_syntax_parser_long Tryz.f110 [p_p, s_p] h R X = W_p_syntax_parser_long ω p_p s_p h R X by kernel_rfl) ▸ hk)

/-- (*pipewright/syntax.parser).short -/
abbrev n_p_syntax_parser_short : Nat := 111
def W_p_syntax_parser_short (ω : Amb) (p_p s_p : Value) (h : Hp) (R : Value → Hp → Prop) (X : List PanicEntry → Hp → Prop) : Prop :=
 nnK s_p (asP s_p fun p0 =>
 ∃ v1, cellH h (Addr.add p0 0) = some v1 ∧
 asK .i64 v1 fun n2 => cond (n2 == (3 : Int))
 (CallX Tryz.prog ω 129 [p_p] h (fun r3 h4 =>
 asA r3 fun A5 => A5.size = 4 ∧ nnK s_p (asP s_p fun p6 =>
 storeK1 (Array.push h4 (.cells (List.toArray (A5.toList ++ [])) 36 (0, 0))) (Addr.add p6 6) (.slice (some ⟨Array.size h4, 0, none⟩) 1 1) fun h7 =>
 R (.tuple #[]) h7)) X)
 (CallX Tryz.prog ω 55 [p_p] h (fun r8 h9 =>
 nnK s_p (asP s_p fun p10 =>
 oneK r8 (storeK1 h9 (Addr.add p10 2) r8 fun h11 =>
 nnK s_p (asP s_p fun p12 =>
 ∃ v13, cellH h11 (Addr.add p12 0) = some v13 ∧
 ∃ J14 : Hp → Prop,
 (asK .i64 v13 fun n17 => ∃ J18 : Value → Hp → Prop,
 (cond (n17 == (1 : Int))
 (J18 (.bool (n17 == (1 : Int))) h11)
 (asK .i64 v13 fun n22 => J18 (.bool (n22 == (2 : Int))) h11)) ∧
 ∀ t25_19 (d20 : Nat → Value) (h21 : Hp), J18 t25_19 h21 →
 ∃ J23 : Hp → Prop,
 (asB t25_19 fun b26 => cond b26
 (CallX Tryz.prog ω 56 [p_p, (.slice (some ⟨Array.size h21, 0, none⟩) 1 1)] (Array.push h21 (.cells (List.toArray [(.string ⟨#[61]⟩)]) 9 (0, 0))) (fun r27 h28 =>
 CallX Tryz.prog ω 129 [p_p] h28 (fun r29 h30 =>
 asA r29 fun A31 => A31.size = 4 ∧ nnK s_p (asP s_p fun p32 =>
 storeK1 (Array.push h30 (.cells (List.toArray (A31.toList ++ [])) 36 (0, 0))) (Addr.add p32 6) (.slice (some ⟨Array.size h30, 0, none⟩) 1 1) fun h33 =>
 J23 h33)) X) X)
 (asK .i64 v13 fun n34 => ∃ J35 : Hp → Prop,
 (cond (n34 == (4 : Int))
 (CallX Tryz.prog ω 55 [p_p] h21 (fun r38 h39 =>
 nnK s_p (asP s_p fun p40 =>
 oneK r38 (storeK1 h39 (Addr.add p40 3) r38 fun h41 =>
 CallX Tryz.prog ω 57 [p_p] h41 (fun r42 h43 =>
 nnK s_p (asP s_p fun p44 =>
 oneK r42 (storeK1 h43 (Addr.add p44 4) r42 fun h45 =>
 CallX Tryz.prog ω 86 [p_p, (.int .i64 3)] h45 (fun r46 h47 =>
 asA r46 fun A48 => asO A48[3]? fun v49 => nnK s_p (asP s_p fun p50 =>
 oneK v49 (storeK1 h47 (Addr.add p50 5) v49 fun h51 =>
 J35 h51))) X))) X))) X)
 (asK .i64 v13 fun n52 => ∃ J53 : Hp → Prop,
 (cond (n52 == (5 : Int))
 (CallX Tryz.prog ω 55 [p_p] h21 (fun r56 h57 =>
 nnK s_p (asP s_p fun p58 =>
 oneK r56 (storeK1 h57 (Addr.add p58 3) r56 fun h59 =>
 J53 h59))) X)
 (asK .i64 v13 fun n60 => ∃ J61 : Hp → Prop,
 (cond (n60 == (6 : Int))
 (CallX Tryz.prog ω 129 [p_p] h21 (fun r64 h65 =>
 asA r64 fun A66 => A66.size = 4 ∧ nnK s_p (asP s_p fun p67 =>
 storeK1 (Array.push h65 (.cells (List.toArray (A66.toList ++ [])) 36 (0, 0))) (Addr.add p67 6) (.slice (some ⟨Array.size h65, 0, none⟩) 1 1) fun h68 =>
 J61 h68)) X)
 (asK .i64 v13 fun n69 => ∃ J70 : Hp → Prop,
 (cond (n69 == (10 : Int))
 (CallX Tryz.prog ω 131 [p_p] h21 (fun r73 h74 =>
 nnK s_p (asP s_p fun p75 =>
 oneK r73 (storeK1 h74 (Addr.add p75 6) r73 fun h76 =>
 J70 h76))) X)
 (J70 h21)) ∧
 ∀  (d71 : Nat → Value) (h72 : Hp), J70 h72 →
 J61 h72)) ∧
 ∀  (d62 : Nat → Value) (h63 : Hp), J61 h63 →
 J53 h63)) ∧
 ∀  (d54 : Nat → Value) (h55 : Hp), J53 h55 →
 J35 h55)) ∧
 ∀  (d36 : Nat → Value) (h37 : Hp), J35 h37 →
 J23 h37)) ∧
 ∀  (d24 : Nat → Value) (h25 : Hp), J23 h25 →
 J14 h25) ∧
 ∀  (d15 : Nat → Value) (h16 : Hp), J14 h16 →
 R (.tuple #[]) h16)))) X))
def A_p_syntax_parser_short : Ann :=
 (.two (.two .leaf (.one (.two .leaf (.two (.two .leaf .leaf) .leaf)))) (.two .leaf (.two .leaf (.join [26, 25, 27, 28, 29, 30, 31, 32, 33, 34, 35, 36, 38, 37, 39, 40, 41, 42, 43, 44, 45, 46, 47, 48, 49, 50, 51, 52, 53, 54, 56, 55, 57, 58, 59, 60, 61, 63, 62, 64, 65, 66, 67, 68, 69, 71, 70, 72, 73, 74, 75, 76] [] (.one (.two (.two .leaf (.join [27, 25] [25] (.two .leaf .leaf))) (.join [28, 29, 30, 31, 32, 33, 34, 35, 36, 38, 37, 39, 40, 41, 42, 43, 44, 45, 46, 47, 48, 49, 50, 51, 52, 53, 54, 56, 55, 57, 58, 59, 60, 61, 63, 62, 64, 65, 66, 67, 68, 69, 71, 70, 72, 73, 74, 75, 76] [] (.two (.two .leaf .leaf) (.two .leaf (.join [39, 40, 41, 42, 43, 44, 45, 46, 47, 48, 49, 50, 51, 52, 53, 54, 56, 55, 57, 58, 59, 60, 61, 63, 62, 64, 65, 66, 67, 68, 69, 71, 70, 72, 73, 74, 75, 76] [] (.two (.two .leaf (.two .leaf .leaf)) (.two .leaf (.join [57, 58, 59, 60, 61, 63, 62, 64, 65, 66, 67, 68, 69, 71, 70, 72, 73, 74, 75, 76] [] (.two .leaf (.two .leaf (.join [64, 65, 66, 67, 68, 69, 71, 70, 72, 73, 74, 75, 76] [] (.two .leaf (.two .leaf (.join [72, 73, 74, 75, 76] [] (.two .leaf .leaf))))))))))))))))))))
theorem C_p_syntax_parser_short (ω : Amb) (p_p s_p : Value) (h : Hp) (R : Value → Hp → Prop) (X : List PanicEntry → Hp → Prop) (hk : W_p_syntax_parser_short ω p_p s_p h R X) : CallX Tryz.prog ω 111 [p_p, s_p] h R X :=
 callX_of (an := A_p_syntax_parser_short) Tryz.func111 ((show fnX Tryz.prog ω A_p_syntax_parser_short Tryz.f111 [p_p, s_p] h R X = W_p_syntax_parser_short ω p_p s_p h R X by kernel_rfl) ▸ hk)

/-- (*pipewright/syntax.parser).expr -/
abbrev n_p_syntax_parser_expr : Nat := 129
def W_p_syntax_parser_expr (ω : Amb) (p_p : Value) (h : Hp) (R : Value → Hp → Prop) (X : List PanicEntry → Hp → Prop) : Prop :=
 nnK p_p (asP p_p fun p0 =>
 storeK1 (Array.push h (.cells #[(.int .i64 0), (.string ⟨#[]⟩), (.int .i64 0), (.slice none 0 0)] 36 (0, 0))) (Addr.add p0 5) (.int .i64 0) fun h1 =>
 nnK p_p (asP p_p fun p2 =>
 ∃ v3, cellH h1 (Addr.add p2 0) = some v3 ∧
 asSl v3 fun a4 l5 c6 => ∃ J7 : Hp → Prop,
 (cond ((l5 : Int) == (0 : Int))
 (CallX Tryz.prog ω 32 [p_p, (.int .i64 5)] h1 (fun r10 h11 =>
 J7 h11) X)
 (J7 h1)) ∧
 ∀  (d8 : Nat → Value) (h9 : Hp), J7 h9 →
 nnK p_p (asP p_p fun p12 =>
 ∃ v13, cellH h9 (Addr.add p12 0) = some v13 ∧
 asSl1 v13 fun a14 l15 c16 => 0 ≤ (0 : Int) ∧ 0 < (l15 : Int) ∧ ∃ v17, cellH h9 (Addr.add (Addr.add a14 (Int.toNat 0 * 4)) 1) = some v17 ∧
 CallX Tryz.prog ω 152 [p_p] h9 (fun r18 h19 =>
 asA r18 fun A20 => A20.size = 4 ∧ (∀ u ∈ A20.toList, one u) ∧ storeK (Array.push h19 (.cells #[(.int .i64 0), (.string ⟨#[]⟩), (.int .i64 0), (.slice none 0 0)] 36 (0, 0))) ⟨Array.size h19, 0, none⟩ A20.toList fun h21 =>
 nnK p_p (asP p_p fun p22 =>
 ∃ v23, cellH h21 (Addr.add p22 5) = some v23 ∧
 asK .i64 v23 fun n24 => ∃ J25 : Hp → Prop,
 (cond (decide ((n24 : Int) > 20))
 (oneK v17 (X [⟨.iface 67 (.agg #[(.int .i64 8), v17]), false, false⟩] h21))
 (J25 h21)) ∧
 ∀  (d26 : Nat → Value) (h27 : Hp), J25 h27 →
 ∃ C28, cellsH h27 ⟨Array.size h19, 0, none⟩ 4 C28 ∧
 C28.toArray.size = 4 ∧ (∀ u ∈ C28.toArray.toList, one u) ∧ storeK h27 ⟨Array.size h, 0, none⟩ C28.toArray.toList fun h29 =>
 ∃ C30, cellsH h29 ⟨Array.size h, 0, none⟩ 4 C30 ∧ R (.agg C30.toArray) h29)) X)))
def A_p_syntax_parser_expr : Ann :=
 (.two .leaf (.two .leaf (.two (.two .leaf (.join [14, 15] [] (.two .leaf .leaf))) (.two .leaf (.two .leaf (.two (.two .leaf (.join [30, 31, 32] [] (.two .leaf .leaf))) (.two .leaf .leaf)))))))
theorem C_p_syntax_parser_expr (ω : Amb) (p_p : Value) (h : Hp) (R : Value → Hp → Prop) (X : List PanicEntry → Hp → Prop) (hk : W_p_syntax_parser_expr ω p_p h R X) : CallX Tryz.prog ω 129 [p_p] h R X :=
 callX_of (an := A_p_syntax_parser_expr) Tryz.func129 ((show fnX Tryz.prog ω A_p_syntax_parser_expr Tryz.f129 [p_p] h R X = W_p_syntax_parser_expr ω p_p h R X by kernel_rfl) ▸ hk)

/-- (*pipewright/syntax.parser).other -/
abbrev n_p_syntax_parser_other : Nat := 130
def W_p_syntax_parser_other (ω : Amb) (p_p : Value) (h : Hp) (R : Value → Hp → Prop) (X : List PanicEntry → Hp → Prop) : Prop :=
 CallX Tryz.prog ω 31 [p_p, (.string ⟨#[101, 108, 115, 101]⟩)] h (fun r0 h1 =>
 asB r0 fun b2 => cond (!b2)
 (R (.slice none 0 0) h1)
 (CallX Tryz.prog ω 54 [p_p] h1 (fun r3 h4 =>
 CallX Tryz.prog ω 58 [p_p] h4 (fun r5 h6 =>
 R r5 h6) X) X)) X
def A_p_syntax_parser_other : Ann :=
 (.two .leaf (.two (.two .leaf (.two (.two .leaf .leaf) .leaf)) (.two .leaf (.two .leaf .leaf))))
theorem C_p_syntax_parser_other (ω : Amb) (p_p : Value) (h : Hp) (R : Value → Hp → Prop) (X : List PanicEntry → Hp → Prop) (hk : W_p_syntax_parser_other ω p_p h R X) : CallX Tryz.prog ω 130 [p_p] h R X :=
 callX_of (an := A_p_syntax_parser_other) Tryz.func130 ((show fnX Tryz.prog ω A_p_syntax_parser_other Tryz.f130 [p_p] h R X = W_p_syntax_parser_other ω p_p h R X by kernel_rfl) ▸ hk)

/-- (*pipewright/syntax.parser).args -/
abbrev n_p_syntax_parser_args : Nat := 131
def W_p_syntax_parser_args (ω : Amb) (p_p : Value) (h : Hp) (R : Value → Hp → Prop) (X : List PanicEntry → Hp → Prop) : Prop :=
 CallX Tryz.prog ω 56 [p_p, (.slice (some ⟨Array.size h, 0, none⟩) 1 1)] (Array.push h (.cells (List.toArray [(.string ⟨#[40]⟩)]) 9 (0, 0))) (fun r0 h1 =>
 ∃ (I2 : Value → Hp → Prop) (μ3 : Value → Hp → Nat), I2 (.slice none 0 0) h1 ∧ ∀ out_4 (d5 : Nat → Value) (h6 : Hp), I2 out_4 h6 →
 CallX Tryz.prog ω 31 [p_p, (.string ⟨#[41]⟩)] h6 (fun r7 h8 =>
 asB r7 fun b9 => cond (!b9)
 (asSl out_4 fun a10 l11 c12 => ∃ J13 : Hp → Prop,
 (cond (decide (((l11 : Int) : Int) > 0))
 (CallX Tryz.prog ω 56 [p_p, (.slice (some ⟨Array.size h8, 0, none⟩) 1 1)] (Array.push h8 (.cells (List.toArray [(.string ⟨#[44]⟩)]) 9 (0, 0))) (fun r16 h17 =>
 J13 h17) X)
 (J13 h8)) ∧
 ∀  (d14 : Nat → Value) (h15 : Hp), J13 h15 →
 asSl out_4 fun a18 l19 c20 => ∃ J21 : Hp → Prop,
 (cond ((l19 : Int) == (6 : Int))
 (CallX Tryz.prog ω 32 [p_p, (.int .i64 8)] h15 (fun r24 h25 =>
 J21 h25) X)
 (J21 h15)) ∧
 ∀  (d22 : Nat → Value) (h23 : Hp), J21 h23 →
 CallX Tryz.prog ω 129 [p_p] h23 (fun r26 h27 =>
 asA r26 fun A28 => A28.size = 4 ∧ appK Tryz.prog 34 (Array.push h27 (.cells (List.toArray (A28.toList ++ [])) 36 (0, 0))) out_4 (.slice (some ⟨Array.size h27, 0, none⟩) 1 1) fun w29 h30 =>
 I2 w29 h30 ∧ μ3 w29 h30 < μ3 out_4 h6) X)
 (CallX Tryz.prog ω 54 [p_p] h8 (fun r31 h32 =>
 R out_4 h32) X)) X) X
def A_p_syntax_parser_args : Ann :=
 (.two .leaf (.two .leaf (.two .leaf (.two (.one (.loop [7, 8, 9, 10, 11, 12, 13, 14, 15, 16, 17, 18, 19, 20, 21, 22, 23, 24, 25, 3] [3] (.two (.two .leaf (.two .leaf .leaf)) (.one (.two (.two .leaf (.join [13, 14, 15] [] (.two .leaf .leaf))) (.two (.two .leaf (.join [19, 20] [] (.two .leaf .leaf))) .leaf)))))) (.two .leaf (.two .leaf .leaf))))))
theorem C_p_syntax_parser_args (ω : Amb) (p_p : Value) (h : Hp) (R : Value → Hp → Prop) (X : List PanicEntry → Hp → Prop) (hk : W_p_syntax_parser_args ω p_p h R X) : CallX Tryz.prog ω 131 [p_p] h R X :=
 callX_of (an := A_p_syntax_parser_args) Tryz.func131 ((show fnX Tryz.prog ω A_p_syntax_parser_args Tryz.f131 [p_p] h R X = W_p_syntax_parser_args ω p_p h R X by kernel_rfl) ▸ hk)

/-- (*pipewright/syntax.parser).cmp -/
abbrev n_p_syntax_parser_cmp : Nat := 152
def W_p_syntax_parser_cmp (ω : Amb) (p_p : Value) (h : Hp) (R : Value → Hp → Prop) (X : List PanicEntry → Hp → Prop) : Prop :=
 CallX Tryz.prog ω 166 [p_p] (Array.push h (.cells #[(.int .i64 0), (.string ⟨#[]⟩), (.int .i64 0), (.slice none 0 0)] 36 (0, 0))) (fun r0 h1 =>
 asA r0 fun A2 => A2.size = 4 ∧ (∀ u ∈ A2.toList, one u) ∧ storeK (Array.push h1 (.cells #[(.int .i64 0), (.string ⟨#[]⟩), (.int .i64 0), (.slice none 0 0)] 36 (0, 0))) ⟨Array.size h1, 0, none⟩ A2.toList fun h3 =>
 CallX Tryz.prog ω 31 [p_p, (.string ⟨#[60]⟩)] h3 (fun r4 h5 =>
 asB r4 fun b6 => cond b6
 (CallX Tryz.prog ω 54 [p_p] h5 (fun r7 h8 =>
 ∃ C9, cellsH h8 ⟨Array.size h1, 0, none⟩ 4 C9 ∧
 CallX Tryz.prog ω 166 [p_p] h8 (fun r10 h11 =>
 cellsH h11 ⟨Array.size h1, 0, none⟩ 4 C9 ∧ CallX Tryz.prog ω 167 [p_p, (.int .i64 7), (.agg C9.toArray), r10] h11 (fun r12 h13 =>
 asA r12 fun A14 => A14.size = 4 ∧ (∀ u ∈ A14.toList, one u) ∧ storeK h13 ⟨Array.size h, 0, none⟩ A14.toList fun h15 =>
 ∃ C16, cellsH h15 ⟨Array.size h, 0, none⟩ 4 C16 ∧ R (.agg C16.toArray) h15) X) X) X)
 (CallX Tryz.prog ω 31 [p_p, (.string ⟨#[61, 61]⟩)] h5 (fun r17 h18 =>
 asB r17 fun b19 => cond b19
 (CallX Tryz.prog ω 54 [p_p] h18 (fun r20 h21 =>
 ∃ C22, cellsH h21 ⟨Array.size h1, 0, none⟩ 4 C22 ∧
 CallX Tryz.prog ω 166 [p_p] h21 (fun r23 h24 =>
 cellsH h24 ⟨Array.size h1, 0, none⟩ 4 C22 ∧ CallX Tryz.prog ω 167 [p_p, (.int .i64 8), (.agg C22.toArray), r23] h24 (fun r25 h26 =>
 asA r25 fun A27 => A27.size = 4 ∧ (∀ u ∈ A27.toList, one u) ∧ storeK h26 ⟨Array.size h, 0, none⟩ A27.toList fun h28 =>
 ∃ C29, cellsH h28 ⟨Array.size h, 0, none⟩ 4 C29 ∧ R (.agg C29.toArray) h28) X) X) X)
 (∃ C30, cellsH h18 ⟨Array.size h1, 0, none⟩ 4 C30 ∧
 C30.toArray.size = 4 ∧ (∀ u ∈ C30.toArray.toList, one u) ∧ storeK h18 ⟨Array.size h, 0, none⟩ C30.toArray.toList fun h31 =>
 ∃ C32, cellsH h31 ⟨Array.size h, 0, none⟩ 4 C32 ∧ R (.agg C32.toArray) h31)) X)) X) X
def A_p_syntax_parser_cmp : Ann :=
 (.two .leaf (.two .leaf (.two (.one (.two .leaf (.two (.two .leaf (.two (.plan [0, 1, 2, 3, 4, 5]) .leaf)) (.two .leaf (.two (.two .leaf (.two (.plan [0, 1, 2, 3, 4, 5]) .leaf)) .leaf))))) (.two .leaf .leaf))))
theorem C_p_syntax_parser_cmp (ω : Amb) (p_p : Value) (h : Hp) (R : Value → Hp → Prop) (X : List PanicEntry → Hp → Prop) (hk : W_p_syntax_parser_cmp ω p_p h R X) : CallX Tryz.prog ω 152 [p_p] h R X :=
 callX_of (an := A_p_syntax_parser_cmp) Tryz.func152 ((show fnX Tryz.prog ω A_p_syntax_parser_cmp Tryz.f152 [p_p] h R X = W_p_syntax_parser_cmp ω p_p h R X by kernel_rfl) ▸ hk)

/-- (*pipewright/syntax.parser).sum -/
abbrev n_p_syntax_parser_sum : Nat := 166
def W_p_syntax_parser_sum (ω : Amb) (p_p : Value) (h : Hp) (R : Value → Hp → Prop) (X : List PanicEntry → Hp → Prop) : Prop :=
 CallX Tryz.prog ω 173 [p_p] (Array.push h (.cells #[(.int .i64 0), (.string ⟨#[]⟩), (.int .i64 0), (.slice none 0 0)] 36 (0, 0))) (fun r0 h1 =>
 asA r0 fun A2 => A2.size = 4 ∧ (∀ u ∈ A2.toList, one u) ∧ storeK (Array.push h1 (.cells #[(.int .i64 0), (.string ⟨#[]⟩), (.int .i64 0), (.slice none 0 0)] 36 (0, 0))) ⟨Array.size h1, 0, none⟩ A2.toList fun h3 =>
 ∃ (I4 : Hp → Prop) (μ5 : Hp → Nat), I4 h3 ∧ ∀  (d6 : Nat → Value) (h7 : Hp), I4 h7 →
 ∃ J8 : Value → Hp → Prop,
 (CallX Tryz.prog ω 31 [p_p, (.string ⟨#[43]⟩)] h7 (fun r12 h13 =>
 asB r12 fun b14 => cond b14
 (J8 (.bool true) h13)
 (CallX Tryz.prog ω 31 [p_p, (.string ⟨#[45]⟩)] h13 (fun r15 h16 =>
 J8 r15 h16) X)) X) ∧
 ∀ t12_9 (d10 : Nat → Value) (h11 : Hp), J8 t12_9 h11 →
 asB t12_9 fun b17 => cond b17
 (CallX Tryz.prog ω 54 [p_p] h11 (fun r18 h19 =>
 asA r18 fun A20 => asO A20[2]? fun v21 => asS v21 fun s22 => ∃ J23 : Value → Hp → Prop,
 (cond (ByteArray.toList s22 == ByteArray.toList ⟨#[45]⟩)
 (J23 (.int .i64 5) h19)
 (J23 (.int .i64 4) h19)) ∧
 ∀ op_24 (d25 : Nat → Value) (h26 : Hp), J23 op_24 h26 →
 ∃ C27, cellsH h26 ⟨Array.size h1, 0, none⟩ 4 C27 ∧
 CallX Tryz.prog ω 173 [p_p] h26 (fun r28 h29 =>
 cellsH h29 ⟨Array.size h1, 0, none⟩ 4 C27 ∧ CallX Tryz.prog ω 167 [p_p, op_24, (.agg C27.toArray), r28] h29 (fun r30 h31 =>
 asA r30 fun A32 => A32.size = 4 ∧ (∀ u ∈ A32.toList, one u) ∧ storeK h31 ⟨Array.size h1, 0, none⟩ A32.toList fun h33 =>
 I4 h33 ∧ μ5 h33 < μ5 h7) X) X) X)
 (∃ C34, cellsH h11 ⟨Array.size h1, 0, none⟩ 4 C34 ∧
 C34.toArray.size = 4 ∧ (∀ u ∈ C34.toArray.toList, one u) ∧ storeK h11 ⟨Array.size h, 0, none⟩ C34.toArray.toList fun h35 =>
 ∃ C36, cellsH h35 ⟨Array.size h, 0, none⟩ 4 C36 ∧ R (.agg C36.toArray) h35)) X
def A_p_syntax_parser_sum : Ann :=
 (.two .leaf (.two .leaf (.two (.one (.loop [7, 8, 9, 10, 11, 12, 4, 13, 14, 15, 16, 17, 18, 19, 20, 21, 22] [] (.two (.two (.join [7, 8, 9, 10, 11, 12] [12] .leaf) (.two .leaf .leaf)) (.one (.two .leaf (.two (.two .leaf (.join [4] [4] (.two .leaf .leaf))) (.plan [0, 1, 2, 3, 4, 5, 6]))))))) (.two .leaf .leaf))))
theorem C_p_syntax_parser_sum (ω : Amb) (p_p : Value) (h : Hp) (R : Value → Hp → Prop) (X : List PanicEntry → Hp → Prop) (hk : W_p_syntax_parser_sum ω p_p h R X) : CallX Tryz.prog ω 166 [p_p] h R X :=
 callX_of (an := A_p_syntax_parser_sum) Tryz.func166 ((show fnX Tryz.prog ω A_p_syntax_parser_sum Tryz.f166 [p_p] h R X = W_p_syntax_parser_sum ω p_p h R X by kernel_rfl) ▸ hk)

/-- (*pipewright/syntax.parser).two -/
abbrev n_p_syntax_parser_two : Nat := 167
def A_p_syntax_parser_two : Ann :=
 (.two .leaf (.two .leaf (.two .leaf .leaf)))

/-- (*pipewright/syntax.parser).product -/
abbrev n_p_syntax_parser_product : Nat := 173
def W_p_syntax_parser_product (ω : Amb) (p_p : Value) (h : Hp) (R : Value → Hp → Prop) (X : List PanicEntry → Hp → Prop) : Prop :=
 CallX Tryz.prog ω 176 [p_p] (Array.push h (.cells #[(.int .i64 0), (.string ⟨#[]⟩), (.int .i64 0), (.slice none 0 0)] 36 (0, 0))) (fun r0 h1 =>
 asA r0 fun A2 => A2.size = 4 ∧ (∀ u ∈ A2.toList, one u) ∧ storeK (Array.push h1 (.cells #[(.int .i64 0), (.string ⟨#[]⟩), (.int .i64 0), (.slice none 0 0)] 36 (0, 0))) ⟨Array.size h1, 0, none⟩ A2.toList fun h3 =>
 ∃ (I4 : Hp → Prop) (μ5 : Hp → Nat), I4 h3 ∧ ∀  (d6 : Nat → Value) (h7 : Hp), I4 h7 →
 CallX Tryz.prog ω 31 [p_p, (.string ⟨#[42]⟩)] h7 (fun r8 h9 =>
 asB r8 fun b10 => cond b10
 (CallX Tryz.prog ω 54 [p_p] h9 (fun r11 h12 =>
 ∃ C13, cellsH h12 ⟨Array.size h1, 0, none⟩ 4 C13 ∧
 CallX Tryz.prog ω 176 [p_p] h12 (fun r14 h15 =>
 cellsH h15 ⟨Array.size h1, 0, none⟩ 4 C13 ∧ CallX Tryz.prog ω 167 [p_p, (.int .i64 6), (.agg C13.toArray), r14] h15 (fun r16 h17 =>
 asA r16 fun A18 => A18.size = 4 ∧ (∀ u ∈ A18.toList, one u) ∧ storeK h17 ⟨Array.size h1, 0, none⟩ A18.toList fun h19 =>
 I4 h19 ∧ μ5 h19 < μ5 h7) X) X) X)
 (∃ C20, cellsH h9 ⟨Array.size h1, 0, none⟩ 4 C20 ∧
 C20.toArray.size = 4 ∧ (∀ u ∈ C20.toArray.toList, one u) ∧ storeK h9 ⟨Array.size h, 0, none⟩ C20.toArray.toList fun h21 =>
 ∃ C22, cellsH h21 ⟨Array.size h, 0, none⟩ 4 C22 ∧ R (.agg C22.toArray) h21)) X) X
def A_p_syntax_parser_product : Ann :=
 (.two .leaf (.two .leaf (.two (.one (.loop [6, 7, 8, 9, 10, 11, 12, 13, 14] [] (.two (.two .leaf (.two .leaf .leaf)) (.one (.two .leaf (.plan [0, 1, 2, 3, 4, 5])))))) (.two .leaf .leaf))))
theorem C_p_syntax_parser_product (ω : Amb) (p_p : Value) (h : Hp) (R : Value → Hp → Prop) (X : List PanicEntry → Hp → Prop) (hk : W_p_syntax_parser_product ω p_p h R X) : CallX Tryz.prog ω 173 [p_p] h R X :=
 callX_of (an := A_p_syntax_parser_product) Tryz.func173 ((show fnX Tryz.prog ω A_p_syntax_parser_product Tryz.f173 [p_p] h R X = W_p_syntax_parser_product ω p_p h R X by kernel_rfl) ▸ hk)

def W_p_syntax_parser_unit_1 (ω : Amb) (t0_p : Value) (h : Hp) (R : Value → Hp → Prop) (X : List PanicEntry → Hp → Prop) : Prop :=
 asP t0_p fun p0 =>
 ∃ v1, cellH h p0 = some v1 ∧
 nnK v1 (asP v1 fun p2 =>
 ∃ v3, cellH h (Addr.add p2 4) = some v3 ∧
 asK .i64 v3 fun n4 => nnK v1 (asP v1 fun p5 =>
 storeK1 h (Addr.add p5 4) (.int .i64 (IntKind.wrap .i64 (n4 - 1))) fun h6 =>
 R (.tuple #[]) h6))
def A_p_syntax_parser_unit_1 : Ann :=
 .leaf
end Go.Proofs.YtkeeboomikkojaaGreatDoor.Sx
