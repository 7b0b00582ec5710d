/- Types: one of at most so many ends. -/
import Derived.Test.YtaehnpilebkcoaaDoorRn1
import Derived.Test.YtaehnpilebkcoaaDoorY9b
namespace Go.Proofs.YtaehnpilebkcoaaDoor
open Go Go.Sx Go.Sx.Tk Go.Sx.Rn Go.Proofs.YtaehnpilebkcoaaDoor.Sx

def isTyB (s : ByteArray) (ends : Int) : Bool := decide (1 ≤ s.size ∧ (s.size : Int) - 1 ≤ ends ∧ cAt s (s.size - 1) = 105 ∧ ∀ k, k < s.size - 1 → cAt s k = 115 ∨ cAt s k = 114)
section
variable {ω : Amb}
end
end Go.Proofs.YtaehnpilebkcoaaDoor

namespace Go.Proofs.YtaehnpilebkcoaaDoor
open Go Go.Sx Go.Sx.Tk Go.Sx.Rn Go.Proofs.YtaehnpilebkcoaaDoor.Sx

/-- the first one that is not 0 -/
def orF (a b : Int) : Int := if a = 0 then b else a
theorem orF_0 (b : Int) : orF 0 b = b := rfl
def wantN (op : Int) : Int := if op = 1 ∨ op = 2 then 0 else if op = 3 then 1 else 2
def emp (s : ByteArray) : Prop := bytesOf s = []
instance (s : ByteArray) : Decidable (emp s) := inferInstanceAs (Decidable (_ = _))
def exH (x : Ex) : Int :=
  if x.op < 1 ∨ 8 < x.op ∨ (x.l.length : Int) ≠ wantN x.op ∨ (x.n ≠ 0 ∧ x.op ≠ 1) ∨ (¬ emp x.nm ∧ x.op ≠ 2) then 5
  else if x.op = 2 ∧ isNameB x.nm = false then 4
  else if x.n < 0 ∨ 1000000000000000000 ≤ x.n then 3 else 0
mutual
def exF : Ex → Int
  | .mk op nm n l => orF (exH (.mk op nm n l)) (exsF l)
def exsF : List Ex → Int
  | [] => 0
  | x :: r => orF (exF x) (exsF r)
end
theorem exF_eq (x : Ex) : exF x = orF (exH x) (exsF x.l) := by cases x; rfl
section
variable {ω : Amb}
end
end Go.Proofs.YtaehnpilebkcoaaDoor

namespace Go.Proofs.YtaehnpilebkcoaaDoor
open Go Go.Sx Go.Sx.Tk Go.Sx.Rn Go.Proofs.YtaehnpilebkcoaaDoor.Sx

/-- the walker in memory; what was there before it stays -/
structure WS (h0 : Hp) (b : Nat) (h : Hp) (n : Int) (p : Int × Int) : Prop where
  k : Keep (fun _ => False) h0 h
  lt : h0.size ≤ b
  wk : h[b]? = some (.cells [.int .i64 n, .int .i64 p.1, .int .i64 p.2].toArray 88 (0, 0))
abbrev wp (b : Nat) : Value := .pointer (some ⟨b, 0, none⟩)
abbrev KB (b : Nat) : Hp → Hp → Prop := Keep (fun k => k = b)
theorem WS.next {h0 : Hp} {b : Nat} {h h' : Hp} {n n' : Int} {p p' : Int × Int} (ws : WS h0 b h n p) (k : KB b h h') (hw : h'[b]? = some (.cells [.int .i64 n', .int .i64 p'.1, .int .i64 p'.2].toArray 88 (0, 0))) : WS h0 b h' n' p' :=
  ⟨((ws.k.mono (S' := fun k => k = b) fun _ _ h => h.elim).trans k).mono fun i hi e => by have := ws.lt; omega, ws.lt, hw⟩
theorem WS.keep {h0 : Hp} {b : Nat} {h h' : Hp} {n : Int} {p : Int × Int} (ws : WS h0 b h n p) (k : Keep (fun _ => False) h h') : WS h0 b h' n p :=
  ⟨ws.k.trans k, ws.lt, k.get ws.wk (by simp)⟩
theorem KB.of {b : Nat} {h h' : Hp} (k : Keep (fun _ => False) h h') : KB b h h' := k.mono fun _ _ h => h.elim
theorem WS.code {h0 : Hp} {b : Nat} {h : Hp} {n : Int} {p : Int × Int} (ws : WS h0 b h n p) {K : Value → Prop} (hk : K (.int .i64 p.1)) : ∃ v, cellH h (Addr.add (Addr.add ⟨b, 0, none⟩ 1) 0) = some v ∧ K v :=
  lx ws.wk (j := 1) rfl hk
section
variable {ω : Amb} {h0 : Hp} {b : Nat}
/-- a name that is to be there, or not -/
def nmF (is : Bool) (s : ByteArray) : Int := orF (if !is && !decide (emp s) then 5 else 0) (if is && !isNameB s then 4 else 0)
end
end Go.Proofs.YtaehnpilebkcoaaDoor
