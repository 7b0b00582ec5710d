/- The formula of a function that lays two expressions side by side. -/
import Derived.Test.YtkeeboomikkojaaGreatDoorY9e
set_option linter.unusedVariables false
set_option maxRecDepth 100000
namespace Go.Proofs.YtkeeboomikkojaaGreatDoor.Sx
open Go Go.Sx Go.Proofs
def zeroE : List Value := (zeroRow [.int .i64 0, .string ⟨#[]⟩, .int .i64 0, .slice none 0 0] 2).toList
/-- two expressions' cells, as a literal lays them -/
def two8 (C D : List Value) : List Value := (zeroE.take (0 * 4) ++ (C ++ zeroE.drop (0 * 4 + 4))).take (1 * 4) ++ (D ++ (zeroE.take (0 * 4) ++ (C ++ zeroE.drop (0 * 4 + 4))).drop (1 * 4 + 4))

/-- (*pipewright/syntax.parser).two -/
def W2_p_syntax_parser_two (ω : Amb) (p_p op_p a_p b_p : Value) (h : Hp) (R : Value → Hp → Prop) (X : List PanicEntry → Hp → Prop) : Prop :=
 nnK p_p (asP p_p fun p0 =>
 ∃ v1, cellH (Array.push (Array.push (Array.push h (.cells (Value.cells a_p) 36 (0, 0))) (.cells (Value.cells b_p) 36 (0, 0))) (.cells #[(.int .i64 0), (.string ⟨#[]⟩), (.int .i64 0), (.slice none 0 0)] 36 (0, 0))) (Addr.add p0 5) = some v1 ∧
 asK .i64 v1 fun n2 => nnK p_p (asP p_p fun p3 =>
 storeK1 (Array.push (Array.push (Array.push h (.cells (Value.cells a_p) 36 (0, 0))) (.cells (Value.cells b_p) 36 (0, 0))) (.cells #[(.int .i64 0), (.string ⟨#[]⟩), (.int .i64 0), (.slice none 0 0)] 36 (0, 0))) (Addr.add p3 5) (.int .i64 (IntKind.wrap .i64 (n2 + 1))) fun h4 =>
 ∃ C5, cellsH h4 ⟨Array.size h, 0, none⟩ 4 C5 ∧
 ∃ C6, cellsH h4 ⟨Array.size (Array.push h (.cells (Value.cells a_p) 36 (0, 0))), 0, none⟩ 4 C6 ∧
 C5.toArray.size = 4 ∧ C6.toArray.size = 4 ∧ oneK op_p (4 = 4 ∧ (∀ u ∈ [op_p, (.string ⟨#[]⟩), (.int .i64 0), (.slice (some ⟨Array.size h4, 0, none⟩) 2 2)], one u) ∧ storeK (Array.push h4 (.cells (List.toArray (two8 C5.toArray.toList C6.toArray.toList)) 36 (0, 0))) ⟨Array.size (Array.push (Array.push h (.cells (Value.cells a_p) 36 (0, 0))) (.cells (Value.cells b_p) 36 (0, 0))), 0, none⟩ [op_p, (.string ⟨#[]⟩), (.int .i64 0), (.slice (some ⟨Array.size h4, 0, none⟩) 2 2)] fun h7 =>
 ∃ C8, cellsH h7 ⟨Array.size (Array.push (Array.push h (.cells (Value.cells a_p) 36 (0, 0))) (.cells (Value.cells b_p) 36 (0, 0))), 0, none⟩ 4 C8 ∧ R (.agg C8.toArray) h7)))
theorem C2_p_syntax_parser_two (ω : Amb) (p_p op_p a_p b_p : Value) (h : Hp) (R : Value → Hp → Prop) (X : List PanicEntry → Hp → Prop) (hk : W2_p_syntax_parser_two ω p_p op_p a_p b_p h R X) : CallX Tryz.prog ω 167 [p_p, op_p, a_p, b_p] h R X :=
 callX_of (an := A_p_syntax_parser_two) Tryz.func167 ((show fnX Tryz.prog ω A_p_syntax_parser_two Tryz.f167 [p_p, op_p, a_p, b_p] h R X = W2_p_syntax_parser_two ω p_p op_p a_p b_p h R X by kernel_rfl) ▸ hk)

end Go.Proofs.YtkeeboomikkojaaGreatDoor.Sx
