/- From a contract over heaps to the walk that a row wants. -/
import Derived.Test.YtkeeboomikkojaaGreatDoorSxUse
import Derived.ProofKit
import Derived.OpenShut
import Derived.Below
namespace Go.Sx
open Go.RowKit

theorem calls_of_X {P : Program} {f : FuncId} {args : List Value} {w : World}
    (hc : ∀ ω, CallX P ω f args w.heap (fun v h' => v = .bool true ∧ Keep (fun _ => False) w.heap h') (fun _ _ => False)) :
    Calls P f args.toArray w fun e w' => e = .returned (.bool true) ∧ Below w.heap.size w w' := by
  have := hc ⟨w.tape, w.os, w.output, w.drawn⟩ 0
  refine this.mono fun e w' ⟨⟨d, hd⟩, he⟩ => ?_
  cases e with
  | returned v =>
    obtain ⟨rfl, hk⟩ := he
    refine ⟨rfl, ?_⟩
    rw [hd]
    exact ⟨rfl, rfl, rfl, hk.size, fun k hk' => hk.block k hk' (by simp)⟩
  | panicked c => exact he.elim
  | outgrown => exact he.elim

/-- a slice whose cells are told at an address of whatever spot -/
theorem SlAt.of_cells {h : Hp} {a : Addr} {n cap : Nat} {size : Nat} {xs : List Value} (hl : xs.length = n * size) (hs : 0 < size) (hc : ∀ j u, xs[j]? = some u → cellH h (a.add j) = some u) :
    SlAt h size (.slice (some a) n cap) n xs := by
  cases hn : n with
  | zero => exact ⟨by rw [hl, hn], .inl ⟨rfl, _, _, rfl⟩⟩
  | succ m =>
    have hpos : 0 < xs.length := by rw [hl, hn]; exact Nat.mul_pos (by omega) hs
    have h0 := hc 0 xs[0] (List.getElem?_eq_getElem hpos)
    have hsp : a.spot = none := by
      unfold cellH at h0
      have ha : a.add 0 = a := by simp [Addr.add]
      rw [ha] at h0
      split at h0
      · split at h0
        · cases h0
        · rename_i hsp; simpa using hsp
      · cases h0
    obtain ⟨b, o, sp⟩ := a
    simp only at hsp
    subst hsp
    refine ⟨by rw [hl, hn], .inr ⟨b, o, cap, rfl, fun j u hu => ?_⟩⟩
    have := hc j u hu
    rwa [addr_add] at this

open Go.ChangeShapes in
/-- a slice argument of any element type: its cells by place, and each element's reading -/
theorem calls_of_X0 {P : Program} {f : FuncId} {args : List Value} {w : World}
    (hc : ∀ ω : Amb, ω.low = 0 → CallX P ω f args w.heap (fun v h' => v = .bool true ∧ Keep (fun _ => False) w.heap h') (fun _ _ => False)) :
    Calls P f args.toArray w fun e w' => e = .returned (.bool true) ∧ Below w.heap.size w w' := by
  have := hc ⟨w.tape, w.os, w.output, 0⟩ rfl w.drawn
  have hw : W ⟨w.tape, w.os, w.output, 0⟩ w.heap w.drawn = w := by
    cases w
    unfold W
    simp
  rw [hw] at this
  refine this.mono fun e w' ⟨⟨d, hd⟩, he⟩ => ?_
  cases e with
  | returned v =>
    obtain ⟨rfl, hk⟩ := he
    refine ⟨rfl, ?_⟩
    rw [hd]
    exact ⟨rfl, rfl, rfl, hk.size, fun k hk' => hk.block k hk' (by simp)⟩
  | panicked c => exact he.elim
  | outgrown => exact he.elim
theorem sl_open {H : Type} {enc : TypeId × Value → H} {P : Program} {w : World} {base : Nat} {spare : Nat → Bool} {held : Bool} {t e : TypeId} {size fuel : Nat} {a : Option Addr} {len cap : Nat} {x : DataW H × List MemPlace}
    (ht : P.underlying t = some (.slice e)) (hc : P.cellsOf e = size) (hs : 0 < size)
    (hf : DataW.trod enc P w base spare held fuel t (Value.slice a len cap).cells.toList = some x) :
    ∃ cs : List Value, len ≤ maxLen ∧ SlAt w.heap size (.slice a len cap) len cs ∧ ∀ i, i < len → ∃ y n, DataW.trod enc P w base spare held n e ((cs.drop (i * size)).take size) = some y := by
  rcases DataW.trod_slice ht hf with ⟨hcs, _⟩ | ⟨y, l, c, elems, rest, n, _, hcs, _, _, hl, hm, hel, hget, _⟩
  · simp [Value.cells] at hcs
    obtain ⟨rfl, rfl, rfl⟩ := hcs
    exact ⟨[], Nat.zero_le _, ⟨by simp, .inl ⟨rfl, _, _, rfl⟩⟩, fun i hi => absurd hi (by omega)⟩
  · simp [Value.cells] at hcs
    obtain ⟨rfl, rfl, rfl⟩ := hcs
    rw [hc] at hget
    have each : ∀ i, i < len → ∃ cs' y', w.cells? base (y.add (i * size)) size = some cs' ∧ DataW.trod enc P w base spare held n e cs' = some y' := by
      intro i hi
      have := hget i hi
      rw [List.getElem?_eq_getElem (by omega), Option.bind_eq_some_iff] at this
      obtain ⟨cs', h1, h2⟩ := this
      exact ⟨cs', _, h1, h2⟩
    have cell : ∀ i, i < len → ∀ k, k < size → ∀ cs', w.cells? base (y.add (i * size)) size = some cs' → w.cell? (y.add (i * size + k)) = cs'[k]? := by
      intro i _ k hk cs' h1
      rw [← (World.cells?_some h1).2.2 k hk]
      congr 1
      unfold Addr.add
      generalize i * size = m
      by_cases h0 : m = 0 <;> by_cases h1 : k = 0 <;> simp [h0, h1, Nat.add_assoc]
    have hcell : ∀ j, j < len * size → ∃ u, w.cell? (y.add j) = some u := by
      intro j hj
      have hi : j / size < len := Nat.div_lt_of_lt_mul (by rwa [Nat.mul_comm])
      obtain ⟨cs', y', h1, _⟩ := each _ hi
      have := cell _ hi (j % size) (Nat.mod_lt _ hs) cs' h1
      rw [show j / size * size + j % size = j by rw [Nat.mul_comm]; exact Nat.div_add_mod _ _] at this
      rw [this, List.getElem?_eq_getElem (by rw [(World.cells?_some h1).2.1]; exact Nat.mod_lt _ hs)]
      exact ⟨_, rfl⟩
    let cs := (List.range (len * size)).map fun j => (w.cell? (y.add j)).getD (.bool false)
    have hcs : ∀ j u, cs[j]? = some u → j < len * size ∧ w.cell? (y.add j) = some u := by
      intro j u hu
      have hj : j < len * size := by
        rcases Nat.lt_or_ge j (len * size) with h' | h'
        · exact h'
        · rw [List.getElem?_eq_none (by simpa [cs] using h')] at hu; cases hu
      obtain ⟨v, hv⟩ := hcell j hj
      simp only [cs, List.getElem?_map, List.getElem?_range hj, Option.map_some, hv, Option.getD_some, Option.some.injEq] at hu
      exact ⟨hj, by rw [hv, hu]⟩
    refine ⟨cs, by omega, SlAt.of_cells (by simp [cs]) hs fun j u hu => (hcs j u hu).2, fun i hi => ?_⟩
    obtain ⟨cs', y', h1, h2⟩ := each i hi
    have hlen := (World.cells?_some h1).2.1
    have : (cs.drop (i * size)).take size = cs' := by
      refine List.ext_getElem? fun k => ?_
      rcases Nat.lt_or_ge k size with hk | hk
      · rw [List.getElem?_take_of_lt hk, List.getElem?_drop, ← cell i hi k hk cs' h1]
        have hj : i * size + k < len * size := by
          have := Nat.mul_le_mul_right size (show i + 1 ≤ len by omega)
          rw [Nat.add_mul, Nat.one_mul] at this
          omega
        obtain ⟨v, hv⟩ := hcell _ hj
        simp only [cs, List.getElem?_map, List.getElem?_range hj, Option.map_some, hv, Option.getD_some]
      · rw [List.getElem?_eq_none (by simp; omega), List.getElem?_eq_none (by omega)]
    exact ⟨y', n, by rw [this]; exact h2⟩
end Go.Sx
