/- Edges handed in: their cells by place. -/
import Derived.Test.YtfjkddigflijeaaSxRow
import Derived.Test.YtfjkddigflijeaaR16
import Derived.Deep.Strs
import Derived.Test.YtfjkddigflijeaaRows
import Derived.ShutString
import Derived.ChangeOld
namespace Go.Proofs.Ytfjkddigflijeaa
open Go Go.Sx Go.Sx.Pa Go.Sx.Ra Go.ChangeShapes

section
variable {H : Type} {enc : TypeId × Value → H} {P : Program} {w : World} {base : Nat} {spare : Nat → Bool} {held : Bool} {fuel : Nat} {t : TypeId} {cs : List Value} {x : DataW H × List MemPlace}
theorem ar_item {e : TypeId} {n : Nat} (ht : P.underlying t = some (.array n e)) (h : DataW.trod enc P w base spare held fuel t cs = some x) :
    ∀ i, i < n → ∃ y m, DataW.trod enc P w base spare held m e ((cs.drop (i * P.cellsOf e)).take (P.cellsOf e)) = some y := by
  cases fuel with
  | zero => simp [DataW.trod] at h
  | succ m =>
    unfold DataW.trod at h
    rw [ht] at h
    split at h <;> simp_all
    obtain ⟨hl, xs, hp, hd⟩ := h
    intro i hi
    have hg := mapM_some_get hp i i (by simp [hi])
    have hlen := mapM_some_length hp
    have hi' : i < xs.length := by simp at hlen; omega
    rw [List.getElem?_eq_getElem hi'] at hg
    exact ⟨_, _, m, hg⟩
theorem pick1 {o : Nat} {v : Value} (h : (cs.drop o).take 1 = [v]) : cs[o]? = some v := by
  have := congrArg (fun l => l[0]?) h
  simpa [List.getElem?_take, List.getElem?_drop] using this
end
def intAt (cs : List Value) (i : Nat) : Int := match cs[i]? with | some (.int _ n) => n | _ => 0
section
variable {H : Type} {enc : TypeId × Value → H} {w : World} {base : Nat} {spare : Nat → Bool} {held : Bool} {fuel : Nat} {cs : List Value} {x : DataW H × List MemPlace}
theorem edges_open {a : Option Addr} {len cap : Nat} (h : DataW.trod enc Try.prog w base spare held fuel 22 (Value.slice a len cap).cells.toList = some x) : ∃ E : List (Int × Int), EdIn w.heap (.slice a len cap) E := by
  obtain ⟨us, _, h2, h3⟩ := sl_open (size := 2) Try.underlying22 (by kernel_rfl) (by decide) h
  have hl := h2.1
  have hE : ((List.range len).map fun i => (intAt us (i * 2 + 0), intAt us (i * 2 + 1))).length = len := by simp
  have heq : us = ((List.range len).map fun i => (intAt us (i * 2 + 0), intAt us (i * 2 + 1))).flatMap ef := by
    refine List.ext_getElem? fun j => ?_
    by_cases hj : j < len * 2
    · obtain ⟨y, n, h4⟩ := h3 (j / 2) (by omega)
      obtain ⟨y0, n0, h5⟩ := ar_item Try.underlying30 h4 0 (by decide)
      obtain ⟨y1, n1, h6⟩ := ar_item Try.underlying30 h4 1 (by decide)
      obtain ⟨k0, hk0, _⟩ := DataW.trod_int Try.underlying3 h5
      obtain ⟨k1, hk1, _⟩ := DataW.trod_int Try.underlying3 h6
      have e0 := pick1 (o := 0) hk0
      have e1 := pick1 (o := 1) hk1
      rw [List.getElem?_take, if_pos (by decide), List.getElem?_drop] at e0 e1
      have hx : ((List.range len).map fun i => (intAt us (i * 2 + 0), intAt us (i * 2 + 1)))[j / 2]? = some (k0, k1) := by
        rw [List.getElem?_map, List.getElem?_range (by omega)]
        simp only [Option.map_some, intAt, e0, e1]
      have hf := flat_get ef_len hx (Nat.mod_lt j (by decide : 0 < 2))
      rw [show j / 2 * 2 + j % 2 = j by omega] at hf
      rw [hf]
      rcases (by omega : j % 2 = 0 ∨ j % 2 = 1) with hm | hm
      · rw [hm]
        show us[j]? = some (.int .i64 k0)
        rw [← e0]
        congr 1
        omega
      · rw [hm]
        show us[j]? = some (.int .i64 k1)
        rw [← e1]
        congr 1
        omega
    · rw [List.getElem?_eq_none (by omega), List.getElem?_eq_none (by rw [flat_len ef_len, hE]; omega)]
  refine ⟨_, ⟨by rw [EdAt, hE, ← heq]; exact h2, ?_⟩⟩
  rw [hE]
  rcases DataW.trod_slice Try.underlying22 h with ⟨hcs, _⟩ | ⟨y, l, c, elems, rest, n, _, hcs, _, _, hlc, _⟩
  · simp [Value.cells] at hcs
    obtain ⟨rfl, rfl, rfl⟩ := hcs
    exact .inl ⟨rfl, rfl⟩
  · simp [Value.cells] at hcs
    obtain ⟨rfl, rfl, rfl⟩ := hcs
    exact .inr ⟨_, _, rfl, hlc⟩
theorem ints_open {a : Option Addr} {len cap : Nat} (h : DataW.trod enc Try.prog w base spare held fuel 27 (Value.slice a len cap).cells.toList = some x) : ∃ l : List Int, IS w.heap (.slice a len cap) l := by
  obtain ⟨us, _, h2, h3⟩ := sl_open (size := 1) Try.underlying27 (by kernel_rfl) (by decide) h
  have hl := h2.1
  have heq : us = iv ((List.range len).map fun i => intAt us i) := by
    refine List.ext_getElem? fun j => ?_
    by_cases hj : j < len
    · obtain ⟨y, n, h4⟩ := h3 j hj
      obtain ⟨k, hk, _⟩ := DataW.trod_int Try.underlying3 h4
      have e : us[j]? = some (.int .i64 k) := by
        have := congrArg (fun l => l[0]?) hk
        simpa [List.getElem?_take, List.getElem?_drop] using this
      rw [e, iv, List.getElem?_map, List.getElem?_map, List.getElem?_range hj]
      simp only [Option.map_some, intAt, e]
    · rw [List.getElem?_eq_none (by omega), List.getElem?_eq_none (by simp [iv]; omega)]
  refine ⟨(List.range len).map fun i => intAt us i, ?_⟩
  rw [IS, ← heq]
  simpa using h2
end
end Go.Proofs.Ytfjkddigflijeaa
