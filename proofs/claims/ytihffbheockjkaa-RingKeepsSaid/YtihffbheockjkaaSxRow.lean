/- From a contract over heaps to the walk that a row wants. -/
import Derived.Test.YtihffbheockjkaaSxUse
import Derived.ProofKit
import Derived.OpenShut
import Derived.Below
namespace Go.Sx
open Go.RowKit

theorem calls_of_X {P : Program} {f : FuncId} {args : List Value} {w : World}
    (hc : ∀ ω, CallX P ω f args w.heap (fun v h' => v = .bool true ∧ Keep (fun _ => False) w.heap h') (fun _ _ => False)) :
    Calls P f args.toArray w fun e w' => e = .returned (.bool true) ∧ Below w.heap.size w w' := by
  have := hc ⟨w.tape, w.os, w.output⟩ w.drawn
  refine this.mono fun e w' ⟨⟨d, hd⟩, he⟩ => ?_
  cases e with
  | returned v =>
    obtain ⟨rfl, hk⟩ := he
    refine ⟨rfl, ?_⟩
    rw [hd]
    exact ⟨rfl, rfl, rfl, hk.size, fun k hk' => hk.block k hk' (by simp)⟩
  | panicked c => exact he.elim
  | outgrown => exact he.elim

/-- a slice whose cells are told at an address of whatever spot -/
theorem SlAt.of_cells {h : Hp} {a : Addr} {n cap : Nat} {size : Nat} {xs : List Value} (hl : xs.length = n * size) (hs : 0 < size) (hc : ∀ j u, xs[j]? = some u → cellH h (a.add j) = some u) :
    SlAt h size (.slice (some a) n cap) n xs := by
  cases hn : n with
  | zero => exact ⟨by rw [hl, hn], .inl ⟨rfl, _, _, rfl⟩⟩
  | succ m =>
    have hpos : 0 < xs.length := by rw [hl, hn]; exact Nat.mul_pos (by omega) hs
    have h0 := hc 0 xs[0] (List.getElem?_eq_getElem hpos)
    have hsp : a.spot = none := by
      unfold cellH at h0
      have ha : a.add 0 = a := by simp [Addr.add]
      rw [ha] at h0
      split at h0
      · split at h0
        · cases h0
        · rename_i hsp; simpa using hsp
      · cases h0
    obtain ⟨b, o, sp⟩ := a
    simp only at hsp
    subst hsp
    refine ⟨by rw [hl, hn], .inr ⟨b, o, cap, rfl, fun j u hu => ?_⟩⟩
    have := hc j u hu
    rwa [addr_add] at this
end Go.Sx
