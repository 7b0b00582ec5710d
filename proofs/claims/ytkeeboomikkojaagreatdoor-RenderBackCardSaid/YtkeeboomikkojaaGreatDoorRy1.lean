/- Tokens, shifted, with more behind them: expressions and what else has no places. -/
import Derived.Test.YtkeeboomikkojaaGreatDoorRx4
namespace Go.Proofs.YtkeeboomikkojaaGreatDoor
open Go Go.Sx Go.Sx.Tk Go.Sx.Rn Go.Proofs.YtkeeboomikkojaaGreatDoor.Sx

abbrev sh (D : Int) (l : List Tok) : List Tok := l.map (shiftT D)
def bad57 (x : Int × Int) : Prop := x.1 = 5 ∨ x.1 = 7
/-- the same, further behind, with more behind it; unless all was taken -/
def S {α : Type} (rs : α → List Tok) (u : α → α) (y : List Tok) (D : Int) (r r' : Except (Int × Int) α) : Prop := match r with
  | .ok a => (rs a ≠ [] ∨ y = []) → r' = .ok (u a)
  | .error x => bad57 x → r' = .error (x.1, x.2 + D)
/-- all was taken -/
def Vac {α : Type} (rs : α → List Tok) : Except (Int × Int) α → Prop
  | .ok a => rs a = []
  | .error x => ¬ bad57 x
theorem S.bind {α β : Type} {rs : α → List Tok} {u : α → α} {rs2 : β → List Tok} {u2 : β → β} {y : List Tok} {D : Int} {r r' : Except (Int × Int) α} {k k' : α → Except (Int × Int) β} (h : S rs u y D r r')
    (hk : ∀ a, r = .ok a → (rs a ≠ [] ∨ y = []) → S rs2 u2 y D (k a) (k' (u a))) (hv : ∀ a, r = .ok a → rs a = [] → Vac rs2 (k a)) : S rs2 u2 y D (bindP r k) (bindP r' k') := by
  cases r with
  | error x =>
    intro hx
    rw [h hx]
    rfl
  | ok a =>
    rcases Decidable.em (rs a ≠ [] ∨ y = []) with hc | hc
    · rw [h hc]
      exact hk a rfl hc
    · have h1 : rs a = [] := by
        cases hr : rs a with
        | nil => rfl
        | cons t l => exact absurd (.inl (by rw [hr]; simp)) hc
      have hv := hv a rfl h1
      show S rs2 u2 y D (k a) _
      cases hk : k a with
      | ok b =>
        rw [hk] at hv
        intro hb
        rcases hb with hb | hb
        · exact absurd hv hb
        · exact absurd (.inr hb) hc
      | error x =>
        rw [hk] at hv
        intro hx
        exact absurd hx hv
abbrev u3 {α : Type} (D : Int) (y : List Tok) : α × Nat × List Tok → α × Nat × List Tok := fun r => (r.1, r.2.1, sh D r.2.2 ++ y)
abbrev rs2 {α : Type} : α × List Tok → List Tok := fun r => r.2
abbrev u2 {α : Type} (D : Int) (y : List Tok) : α × List Tok → α × List Tok := fun r => (r.1, sh D r.2 ++ y)
theorem S.ok {α : Type} {rs : α → List Tok} {u : α → α} {y : List Tok} {D : Int} {a : α} {r' : Except (Int × Int) α} (h : r' = .ok (u a)) : S rs u y D (.ok a) r' := fun _ => h
theorem S.err {α : Type} {rs : α → List Tok} {u : α → α} {y : List Tok} {D : Int} {x : Int × Int} {r' : Except (Int × Int) α} (h : r' = .error (x.1, x.2 + D)) : S rs u y D (.error x) r' := fun _ => h
theorem n6 {a : Int} : ¬ bad57 (6, a) := by rintro (h | h) <;> cases h
theorem n8 {a : Int} : ¬ bad57 (8, a) := by rintro (h | h) <;> cases h
section
variable {e e' D : Int} {y : List Tok}
abbrev u1 (D : Int) (y : List Tok) : List Tok → List Tok := fun r => sh D r ++ y
end
end Go.Proofs.YtkeeboomikkojaaGreatDoor

namespace Go.Proofs.YtkeeboomikkojaaGreatDoor
open Go Go.Sx Go.Sx.Tk Go.Sx.Rn Go.Proofs.YtkeeboomikkojaaGreatDoor.Sx

section
variable {e e' D : Int} {y : List Tok}
end
end Go.Proofs.YtkeeboomikkojaaGreatDoor

namespace Go.Proofs.YtkeeboomikkojaaGreatDoor
open Go Go.Sx Go.Sx.Tk Go.Sx.Rn Go.Proofs.YtkeeboomikkojaaGreatDoor.Sx

/-! ### how many statements were read -/
/-! ### statements -/
/-- as S; d statements were read ahead of it: too many then is a fault, too -/
def TS {β : Type} (c : Bool) (φ : β → β) (y : List Tok) (D : Int) (d : Nat) (r r' : PR β) : Prop := match r with
  | .ok a => (c = true ∨ a.2.2 ≠ [] ∨ y = []) → if a.2.1 + d ≤ 300 then r' = .ok (φ a.1, a.2.1 + d, sh D a.2.2 ++ y) else ∃ q, r' = .error (8, q)
  | .error x => d = 0 → bad57 x → r' = .error (x.1, x.2 + D)
section
variable {β γ : Type} {y : List Tok} {D : Int} {d : Nat}
theorem TS.ok {c : Bool} {φ : β → β} {a : β × Nat × List Tok} {r' : PR β} (h3 : a.2.1 + d ≤ 300) (h : r' = .ok (φ a.1, a.2.1 + d, sh D a.2.2 ++ y)) : TS c φ y D d (.ok a) r' := fun _ => by
  rw [if_pos h3]
  exact h
theorem TS.err {c : Bool} {φ : β → β} {x : Int × Int} {r' : PR β} (h : r' = .error (x.1, x.2 + D)) : TS c φ y D d (.error x) r' := fun _ _ => h
theorem TS.over {c : Bool} {φ : β → β} {r : PR β} {q : Int} (h : ∀ a, r = .ok a → 300 < a.2.1 + d) (h0 : d ≠ 0) : TS c φ y D d r (.error (8, q)) := by
  cases r with
  | ok a =>
    intro _
    rw [if_neg (by have := h a rfl; omega)]
    exact ⟨_, rfl⟩
  | error x => exact fun hd => absurd hd h0
end
/-! ### stages -/
end Go.Proofs.YtkeeboomikkojaaGreatDoor

namespace Go.Proofs.YtkeeboomikkojaaGreatDoor
open Go Go.Sx Go.Sx.Tk Go.Sx.Rn Go.Proofs.YtkeeboomikkojaaGreatDoor.Sx

/-! ### whole texts -/
end Go.Proofs.YtkeeboomikkojaaGreatDoor
