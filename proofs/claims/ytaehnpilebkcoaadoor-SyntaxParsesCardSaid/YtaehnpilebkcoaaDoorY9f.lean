/- Formulas of two functions that lay two expressions side by side. -/
import Derived.Test.YtaehnpilebkcoaaDoorY9e
set_option linter.unusedVariables false
set_option maxRecDepth 100000
namespace Go.Proofs.YtaehnpilebkcoaaDoor.Sx
open Go Go.Sx Go.Proofs
def zeroE : List Value := (zeroRow [.int .i64 0, .string ⟨#[]⟩, .int .i64 0, .slice none 0 0] 2).toList
/-- two expressions' cells, as a literal lays them -/
def two8 (C D : List Value) : List Value := (zeroE.take (0 * 4) ++ (C ++ zeroE.drop (0 * 4 + 4))).take (1 * 4) ++ (D ++ (zeroE.take (0 * 4) ++ (C ++ zeroE.drop (0 * 4 + 4))).drop (1 * 4 + 4))

/-- (*pipewright/syntax.parser).two -/
def W2_p_syntax_parser_two (ω : Amb) (p_p op_p a_p b_p : Value) (h : Hp) (R : Value → Hp → Prop) (X : List PanicEntry → Hp → Prop) : Prop :=
 nnK p_p (asP p_p fun p0 =>
 ∃ v1, cellH (Array.push (Array.push (Array.push h (.cells (Value.cells a_p) 118 (0, 0))) (.cells (Value.cells b_p) 118 (0, 0))) (.cells #[(.int .i64 0), (.string ⟨#[]⟩), (.int .i64 0), (.slice none 0 0)] 118 (0, 0))) (Addr.add p0 5) = some v1 ∧
 asK .i64 v1 fun n2 => nnK p_p (asP p_p fun p3 =>
 storeK1 (Array.push (Array.push (Array.push h (.cells (Value.cells a_p) 118 (0, 0))) (.cells (Value.cells b_p) 118 (0, 0))) (.cells #[(.int .i64 0), (.string ⟨#[]⟩), (.int .i64 0), (.slice none 0 0)] 118 (0, 0))) (Addr.add p3 5) (.int .i64 (IntKind.wrap .i64 (n2 + 1))) fun h4 =>
 ∃ C5, cellsH h4 ⟨Array.size h, 0, none⟩ 4 C5 ∧
 ∃ C6, cellsH h4 ⟨Array.size (Array.push h (.cells (Value.cells a_p) 118 (0, 0))), 0, none⟩ 4 C6 ∧
 C5.toArray.size = 4 ∧ C6.toArray.size = 4 ∧ oneK op_p (4 = 4 ∧ (∀ u ∈ [op_p, (.string ⟨#[]⟩), (.int .i64 0), (.slice (some ⟨Array.size h4, 0, none⟩) 2 2)], one u) ∧ storeK (Array.push h4 (.cells (List.toArray (two8 C5.toArray.toList C6.toArray.toList)) 118 (0, 0))) ⟨Array.size (Array.push (Array.push h (.cells (Value.cells a_p) 118 (0, 0))) (.cells (Value.cells b_p) 118 (0, 0))), 0, none⟩ [op_p, (.string ⟨#[]⟩), (.int .i64 0), (.slice (some ⟨Array.size h4, 0, none⟩) 2 2)] fun h7 =>
 ∃ C8, cellsH h7 ⟨Array.size (Array.push (Array.push h (.cells (Value.cells a_p) 118 (0, 0))) (.cells (Value.cells b_p) 118 (0, 0))), 0, none⟩ 4 C8 ∧ R (.agg C8.toArray) h7)))
theorem C2_p_syntax_parser_two (ω : Amb) (p_p op_p a_p b_p : Value) (h : Hp) (R : Value → Hp → Prop) (X : List PanicEntry → Hp → Prop) (hk : W2_p_syntax_parser_two ω p_p op_p a_p b_p h R X) : CallX Tryd.prog ω 163 [p_p, op_p, a_p, b_p] h R X :=
 callX_of (an := A_p_syntax_parser_two) Tryd.func163 ((show fnX Tryd.prog ω A_p_syntax_parser_two Tryd.f163 [p_p, op_p, a_p, b_p] h R X = W2_p_syntax_parser_two ω p_p op_p a_p b_p h R X by kernel_rfl) ▸ hk)

/-- (*pipewright/pipewrightref.reading).binary -/
def W2_p_pipewrightref_reading_binary (ω : Amb) (r_p rank_p open_p : Value) (h : Hp) (R : Value → Hp → Prop) (X : List PanicEntry → Hp → Prop) : Prop :=
 asK .i64 rank_p fun n0 => cond (n0 == (3 : Int))
 (CallX Tryd.prog ω 124 [r_p, open_p] (Array.push h (.cells #[(.int .i64 0), (.string ⟨#[]⟩), (.int .i64 0), (.slice none 0 0)] 118 (0, 0))) (fun r1 h2 =>
 asA r1 fun A3 => A3.size = 4 ∧ (∀ u ∈ A3.toList, one u) ∧ storeK h2 ⟨Array.size h, 0, none⟩ A3.toList fun h4 =>
 ∃ C5, cellsH h4 ⟨Array.size h, 0, none⟩ 4 C5 ∧ R (.agg C5.toArray) h4) X)
 (asK .i64 rank_p fun n6 => CallX Tryd.prog ω 104 [r_p, (.int .i64 (IntKind.wrap .i64 (n6 + 1))), open_p] (Array.push h (.cells #[(.int .i64 0), (.string ⟨#[]⟩), (.int .i64 0), (.slice none 0 0)] 118 (0, 0))) (fun r7 h8 =>
 asA r7 fun A9 => A9.size = 4 ∧ (∀ u ∈ A9.toList, one u) ∧ storeK (Array.push h8 (.cells #[(.int .i64 0), (.string ⟨#[]⟩), (.int .i64 0), (.slice none 0 0)] 118 (0, 0))) ⟨Array.size h8, 0, none⟩ A9.toList fun h10 =>
 ∃ J11 : Hp → Prop,
 (∃ (I14 : Hp → Prop) (μ15 : Hp → Nat), I14 h10 ∧ ∀  (d16 : Nat → Value) (h17 : Hp), I14 h17 →
 CallX Tryd.prog ω 43 [r_p] h17 (fun r18 h19 =>
 asB r18 fun b20 => cond (!b20)
 (∃ J21 : Value → Hp → Prop,
 (∃ J25 : Value → Hp → Prop,
 (asK .i64 rank_p fun n29 => cond (n29 == (0 : Int))
 (CallX Tryd.prog ω 44 [r_p, (.string ⟨#[60]⟩)] h19 (fun r30 h31 =>
 J25 r30 h31) X)
 (J25 (.bool false) h19)) ∧
 ∀ t23_26 (d27 : Nat → Value) (h28 : Hp), J25 t23_26 h28 →
 ∃ J32 : Value → Hp → Prop,
 (asB t23_26 fun b36 => cond b36
 (J32 (.int .i64 7) h28)
 (∃ J37 : Value → Hp → Prop,
 (asK .i64 rank_p fun n41 => cond (n41 == (0 : Int))
 (CallX Tryd.prog ω 44 [r_p, (.string ⟨#[61, 61]⟩)] h28 (fun r42 h43 =>
 J37 r42 h43) X)
 (J37 (.bool false) h28)) ∧
 ∀ t30_38 (d39 : Nat → Value) (h40 : Hp), J37 t30_38 h40 →
 ∃ J44 : Value → Hp → Prop,
 (asB t30_38 fun b48 => cond b48
 (J44 (.int .i64 8) h40)
 (∃ J49 : Value → Hp → Prop,
 (asK .i64 rank_p fun n53 => cond (n53 == (1 : Int))
 (CallX Tryd.prog ω 44 [r_p, (.string ⟨#[43]⟩)] h40 (fun r54 h55 =>
 J49 r54 h55) X)
 (J49 (.bool false) h40)) ∧
 ∀ t37_50 (d51 : Nat → Value) (h52 : Hp), J49 t37_50 h52 →
 ∃ J56 : Value → Hp → Prop,
 (asB t37_50 fun b60 => cond b60
 (J56 (.int .i64 4) h52)
 (∃ J61 : Value → Hp → Prop,
 (asK .i64 rank_p fun n65 => cond (n65 == (1 : Int))
 (CallX Tryd.prog ω 44 [r_p, (.string ⟨#[45]⟩)] h52 (fun r66 h67 =>
 J61 r66 h67) X)
 (J61 (.bool false) h52)) ∧
 ∀ t44_62 (d63 : Nat → Value) (h64 : Hp), J61 t44_62 h64 →
 ∃ J68 : Value → Hp → Prop,
 (asB t44_62 fun b72 => cond b72
 (J68 (.int .i64 5) h64)
 (∃ J73 : Value → Hp → Prop,
 (asK .i64 rank_p fun n77 => cond (n77 == (2 : Int))
 (CallX Tryd.prog ω 44 [r_p, (.string ⟨#[42]⟩)] h64 (fun r78 h79 =>
 J73 r78 h79) X)
 (J73 (.bool false) h64)) ∧
 ∀ t51_74 (d75 : Nat → Value) (h76 : Hp), J73 t51_74 h76 →
 ∃ J80 : Value → Hp → Prop,
 (asB t51_74 fun b84 => cond b84
 (J80 (.int .i64 6) h76)
 (J80 (.int .i64 0) h76)) ∧
 ∀ op_81 (d82 : Nat → Value) (h83 : Hp), J80 op_81 h83 →
 J68 op_81 h83)) ∧
 ∀ op_69 (d70 : Nat → Value) (h71 : Hp), J68 op_69 h71 →
 J56 op_69 h71)) ∧
 ∀ op_57 (d58 : Nat → Value) (h59 : Hp), J56 op_57 h59 →
 J44 op_57 h59)) ∧
 ∀ op_45 (d46 : Nat → Value) (h47 : Hp), J44 op_45 h47 →
 J32 op_45 h47)) ∧
 ∀ op_33 (d34 : Nat → Value) (h35 : Hp), J32 op_33 h35 →
 J21 op_33 h35) ∧
 ∀ op_22 (d23 : Nat → Value) (h24 : Hp), J21 op_22 h24 →
 asK .i64 op_22 fun n85 => cond (n85 == (0 : Int))
 (J11 h24)
 (nnK r_p (asP r_p fun p86 =>
 ∃ v87, cellH h24 (Addr.add p86 1) = some v87 ∧
 asK .i64 v87 fun n88 => nnK r_p (asP r_p fun p89 =>
 storeK1 h24 (Addr.add p89 1) (.int .i64 (IntKind.wrap .i64 (n88 + 1))) fun h90 =>
 asK .i64 rank_p fun n91 => CallX Tryd.prog ω 104 [r_p, (.int .i64 (IntKind.wrap .i64 (n91 + 1))), open_p] h90 (fun r92 h93 =>
 asA r92 fun A94 => A94.size = 4 ∧ (∀ u ∈ A94.toList, one u) ∧ storeK (Array.push h93 (.cells #[(.int .i64 0), (.string ⟨#[]⟩), (.int .i64 0), (.slice none 0 0)] 118 (0, 0))) ⟨Array.size h93, 0, none⟩ A94.toList fun h95 =>
 ∃ C96, cellsH h95 ⟨Array.size h8, 0, none⟩ 4 C96 ∧
 ∃ C97, cellsH h95 ⟨Array.size h93, 0, none⟩ 4 C97 ∧
 C96.toArray.size = 4 ∧ C97.toArray.size = 4 ∧ oneK op_22 (4 = 4 ∧ (∀ u ∈ [op_22, (.string ⟨#[]⟩), (.int .i64 0), (.slice (some ⟨Array.size h95, 0, none⟩) 2 2)], one u) ∧ storeK (Array.push h95 (.cells (List.toArray (two8 C96.toArray.toList C97.toArray.toList)) 118 (0, 0))) ⟨Array.size h8, 0, none⟩ [op_22, (.string ⟨#[]⟩), (.int .i64 0), (.slice (some ⟨Array.size h95, 0, none⟩) 2 2)] fun h98 =>
 nnK r_p (asP r_p fun p99 =>
 ∃ v100, cellH h98 (Addr.add p99 6) = some v100 ∧
 asK .i64 v100 fun n101 => nnK r_p (asP r_p fun p102 =>
 storeK1 h98 (Addr.add p102 6) (.int .i64 (IntKind.wrap .i64 (n101 + 1))) fun h103 =>
 asK .i64 rank_p fun n104 => cond (n104 == (0 : Int))
 (J11 h103)
 (I14 h103 ∧ μ15 h103 < μ15 h17))))) X))))
 (J11 h19)) X) ∧
 ∀  (d12 : Nat → Value) (h13 : Hp), J11 h13 →
 ∃ C105, cellsH h13 ⟨Array.size h8, 0, none⟩ 4 C105 ∧
 C105.toArray.size = 4 ∧ (∀ u ∈ C105.toArray.toList, one u) ∧ storeK h13 ⟨Array.size h, 0, none⟩ C105.toArray.toList fun h106 =>
 ∃ C107, cellsH h106 ⟨Array.size h, 0, none⟩ 4 C107 ∧ R (.agg C107.toArray) h106) X)
theorem C2_p_pipewrightref_reading_binary (ω : Amb) (r_p rank_p open_p : Value) (h : Hp) (R : Value → Hp → Prop) (X : List PanicEntry → Hp → Prop) (hk : W2_p_pipewrightref_reading_binary ω r_p rank_p open_p h R X) : CallX Tryd.prog ω 104 [r_p, rank_p, open_p] h R X :=
 callX_of (an := A_p_pipewrightref_reading_binary) Tryd.func104 ((show fnX Tryd.prog ω A_p_pipewrightref_reading_binary Tryd.f104 [r_p, rank_p, open_p] h R X = W2_p_pipewrightref_reading_binary ω r_p rank_p open_p h R X by kernel_rfl) ▸ hk)

end Go.Proofs.YtaehnpilebkcoaaDoor.Sx
