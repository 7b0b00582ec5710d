/- Tokens that Scan tells: what is true of each. -/
import Derived.Test.YtkeeboomikkojaaGreatDoorRn9
namespace Go.Proofs.YtkeeboomikkojaaGreatDoor
open Go Go.Sx Go.Sx.Tk Go.Sx.Rn Go.Proofs.YtkeeboomikkojaaGreatDoor.Sx

/-- a token as Scan tells it -/
def TkOk (t : Tok) : Prop := t.kind = 1 ∨ (t.kind = 2 ∧ isNameB t.text = true) ∨ (t.kind = 3 ∧ (∃ c r, bytesOf t.text = c :: r ∧ Tk.dg c = true) ∧ 0 ≤ t.n ∧ t.n < 1000000000000000000) ∨ (t.kind = 4 ∧ ∃ c r, bytesOf t.text = c :: r ∧ lo c = false)
theorem run_le : ∀ l : List UInt8, run l ≤ l.length := by
  intro l
  unfold run
  induction l with
  | nil => exact Nat.le_refl _
  | cons c r ih =>
    rw [List.takeWhile_cons]
    split
    · rw [List.length_cons, List.length_cons]
      omega
    · exact Nat.zero_le _
end Go.Proofs.YtkeeboomikkojaaGreatDoor
