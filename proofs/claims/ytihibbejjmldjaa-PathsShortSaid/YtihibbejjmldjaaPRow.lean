/- A code handed in: its cells by place. -/
import Derived.Test.YtihibbejjmldjaaSxRow
import Derived.Test.YtihibbejjmldjaaP14
import Derived.Deep.Strs
import Derived.Test.YtihibbejjmldjaaRows
import Derived.ShutString
import Derived.ChangeOld
namespace Go.Proofs.Ytihibbejjmldjaa
open Go Go.Sx Go.Sx.Pa Go.ChangeShapes

section
variable {H : Type} {enc : TypeId × Value → H} {P : Program} {w : World} {base : Nat} {spare : Nat → Bool} {held : Bool} {fuel : Nat} {t : TypeId} {cs : List Value} {x : DataW H × List MemPlace}
theorem st_field {fs : Array Field} (ht : P.underlying t = some (.struct fs)) (h : DataW.trod enc P w base spare held fuel t cs = some x) {i : Nat} {f : Field} (hf : fs[i]? = some f) :
    ∃ y n, DataW.trod enc P w base spare held n f.type ((cs.drop f.offset).take (P.cellsOf f.type)) = some y := by
  obtain ⟨xs, n, _, _, _, hl, hg⟩ := DataW.trod_struct ht h
  have := hg i f hf
  have hi : i < xs.length := by rw [hl]; exact (Array.getElem?_eq_some_iff.1 hf).1
  rw [List.getElem?_eq_getElem hi] at this
  exact ⟨_, n, this⟩
theorem st_len {fs : Array Field} (ht : P.underlying t = some (.struct fs)) (h : DataW.trod enc P w base spare held fuel t cs = some x) : cs.length = P.cellsOf t := by
  obtain ⟨xs, n, _, _, hl, _⟩ := DataW.trod_struct ht h
  exact hl
theorem pick1 {o : Nat} {v : Value} (h : (cs.drop o).take 1 = [v]) : cs[o]? = some v := by
  have := congrArg (fun l => l[0]?) h
  simpa [List.getElem?_take, List.getElem?_drop] using this
theorem sl_open1 {e : TypeId} {size : Nat} (ht : P.underlying t = some (.slice e)) (hc : P.cellsOf e = size) (hs : 0 < size) (h : DataW.trod enc P w base spare held fuel t cs = some x) :
    ∃ (a : Option Addr) (len cap : Nat) (us : List Value), cs = [.slice a len cap] ∧ SlAt w.heap size (.slice a len cap) len us ∧ ∀ i, i < len → ∃ y n, DataW.trod enc P w base spare held n e ((us.drop (i * size)).take size) = some y := by
  have hcs : ∃ a len cap, cs = [.slice a len cap] := by
    rcases DataW.trod_slice ht h with ⟨h1, _⟩ | ⟨a, l, c, _, _, _, _, h1, _⟩
    · exact ⟨none, 0, 0, h1⟩
    · exact ⟨some a, l, c, h1⟩
  obtain ⟨a, len, cap, rfl⟩ := hcs
  obtain ⟨us, _, h2, h3⟩ := sl_open (a := a) (len := len) (cap := cap) ht hc hs (by simpa [Value.cells] using h)
  exact ⟨a, len, cap, us, rfl, h2, h3⟩
end

section
variable {H : Type} {enc : TypeId × Value → H} {w : World} {base : Nat} {spare : Nat → Bool} {held : Bool} {fuel : Nat} {cs : List Value} {x : DataW H × List MemPlace}
theorem arg_open (h : DataW.trod enc Try.prog w base spare held fuel 45 cs = some x) : ∃ e, cs[0]? = some e ∧ isSl e := by
  obtain ⟨y, n, h0⟩ := st_field Try.underlying45 h (i := 0) rfl
  obtain ⟨a, l, c, _, h1, _⟩ := sl_open1 Try.underlying38 rfl (of_decide_eq_true (by kernel_rfl)) h0
  exact ⟨_, pick1 h1, a, l, c, rfl⟩
theorem var_open (h : DataW.trod enc Try.prog w base spare held fuel 43 cs = some x) : ∃ s t, cs[0]? = some (.string s) ∧ cs[1]? = some (.string t) := by
  obtain ⟨y0, n0, h0⟩ := st_field Try.underlying43 h (i := 0) rfl
  obtain ⟨y1, n1, h1⟩ := st_field Try.underlying43 h (i := 1) rfl
  obtain ⟨s, hs, _⟩ := DataW.trod_string Try.underlying9 h0
  obtain ⟨t, ht, _⟩ := DataW.trod_string Try.underlying9 h1
  exact ⟨s, t, pick1 hs, pick1 ht⟩
theorem ins_open (h : DataW.trod enc Try.prog w base spare held fuel 41 cs = some x) : cs.length = 11 ∧ (∀ u ∈ cs, one u) ∧ (∃ op to : Int, cs[0]? = some (.int .i64 op) ∧ cs[4]? = some (.int .i64 to)) ∧
    ∃ s e av, cs[5]? = some (.string s) ∧ cs[6]? = some e ∧ isSl e ∧ cs[7]? = some av ∧ ∃ na us, SlAt w.heap 2 av na us ∧ ∀ k, k < na → ∃ e2, us[k * 2 + 0]? = some e2 ∧ isSl e2 := by
  have hl : cs.length = 11 := st_len Try.underlying41 h
  have hint : ∀ (i : Nat) (o : Nat) (f : Field), (#[_, _, _, _, _, _, _, _, _, _, _] : Array Field)[i]? = some f → f.type = 3 → f.offset = o → ∃ k, cs[o]? = some (.int .i64 k) := fun i o f hf ht ho => by
    obtain ⟨y, n, h0⟩ := st_field Try.underlying41 h (i := i) hf
    rw [ht, ho] at h0
    obtain ⟨k, hk, _⟩ := DataW.trod_int Try.underlying3 h0
    exact ⟨k, pick1 hk⟩
  obtain ⟨i0, e0⟩ := hint 0 0 _ rfl rfl rfl
  obtain ⟨i1, e1⟩ := hint 1 1 _ rfl rfl rfl
  obtain ⟨i2, e2⟩ := hint 2 2 _ rfl rfl rfl
  obtain ⟨i3, e3⟩ := hint 3 3 _ rfl rfl rfl
  obtain ⟨i4, e4⟩ := hint 4 4 _ rfl rfl rfl
  obtain ⟨i8, e8⟩ := hint 8 8 _ rfl rfl rfl
  obtain ⟨i9, e9⟩ := hint 9 9 _ rfl rfl rfl
  obtain ⟨i10, e10⟩ := hint 10 10 _ rfl rfl rfl
  obtain ⟨y5, n5, h5⟩ := st_field Try.underlying41 h (i := 5) rfl
  obtain ⟨s, hs, _⟩ := DataW.trod_string Try.underlying9 h5
  obtain ⟨y6, n6, h6⟩ := st_field Try.underlying41 h (i := 6) rfl
  obtain ⟨a6, l6, c6, _, hs6, _⟩ := sl_open1 Try.underlying38 rfl (of_decide_eq_true (by kernel_rfl)) h6
  obtain ⟨y7, n7, h7⟩ := st_field Try.underlying41 h (i := 7) rfl
  obtain ⟨a7, l7, c7, us, hs7, sl7, each7⟩ := sl_open1 (size := 2) Try.underlying39 (by kernel_rfl) (by decide) h7
  have e5 := pick1 hs
  have e6 := pick1 hs6
  have e7 := pick1 hs7
  refine ⟨hl, fun u hu => ?_, ⟨i0, i4, e0, e4⟩, s, _, _, e5, e6, ⟨_, _, _, rfl⟩, e7, l7, us, sl7, fun k hk => ?_⟩
  · obtain ⟨j, hj⟩ := List.mem_iff_getElem?.1 hu
    have hjl := (List.getElem?_eq_some_iff.1 hj).1
    have : ∀ {o : Nat} {v : Value}, cs[o]? = some v → j = o → one v → one u := fun {o v} h1 h2 h3 => by
      subst h2
      rw [hj] at h1
      cases h1
      exact h3
    rcases (by omega : j = 0 ∨ j = 1 ∨ j = 2 ∨ j = 3 ∨ j = 4 ∨ j = 5 ∨ j = 6 ∨ j = 7 ∨ j = 8 ∨ j = 9 ∨ j = 10) with h | h | h | h | h | h | h | h | h | h | h
    · exact this e0 h rfl
    · exact this e1 h rfl
    · exact this e2 h rfl
    · exact this e3 h rfl
    · exact this e4 h rfl
    · exact this e5 h rfl
    · exact this e6 h rfl
    · exact this e7 h rfl
    · exact this e8 h rfl
    · exact this e9 h rfl
    · exact this e10 h rfl
  · obtain ⟨y, n, h8⟩ := each7 k hk
    obtain ⟨e, h9, h10⟩ := arg_open h8
    refine ⟨e, ?_, h10⟩
    rw [List.getElem?_take, if_pos (by decide), List.getElem?_drop] at h9
    exact h9
def intAt (cs : List Value) (i : Nat) : Int := match cs[i]? with | some (.int _ n) => n | _ => 0
theorem proc_open (h : DataW.trod enc Try.prog w base spare held fuel 26 cs = some x) : ∃ (a b c d v : Value) (L : Pa.Code), cs = prc a b c d v ∧ InsAt w.heap v L ∧ GpAt w.heap a b d v L.length := by
  have hl : cs.length = 5 := st_len Try.underlying26 h
  obtain ⟨y0, n0, h0⟩ := st_field Try.underlying26 h (i := 0) rfl
  obtain ⟨s, hs, _⟩ := DataW.trod_string Try.underlying9 h0
  obtain ⟨y1, n1, h1⟩ := st_field Try.underlying26 h (i := 1) rfl
  obtain ⟨a1, l1, c1, us1, hs1, sl1, each1⟩ := sl_open1 (size := 2) Try.underlying22 (by kernel_rfl) (by decide) h1
  obtain ⟨y3, n3, h3⟩ := st_field Try.underlying26 h (i := 3) rfl
  obtain ⟨a3, l3, c3, _, hs3, _⟩ := sl_open1 Try.underlying23 rfl (of_decide_eq_true (by kernel_rfl)) h3
  obtain ⟨y4, n4, h4⟩ := st_field Try.underlying26 h (i := 4) rfl
  obtain ⟨a4, l4, c4, us4, hs4, sl4, each4⟩ := sl_open1 (size := 11) Try.underlying24 (by kernel_rfl) (by decide) h4
  have e0 := pick1 hs
  have e1 := pick1 hs1
  have e3 := pick1 hs3
  have e4 := pick1 hs4
  have hel : ∀ i, i < l4 → ((us4.drop (i * 11)).take 11).length = 11 ∧ (∀ u ∈ (us4.drop (i * 11)).take 11, one u) ∧ (∃ op to : Int, us4[i * 11 + 0]? = some (.int .i64 op) ∧ us4[i * 11 + 4]? = some (.int .i64 to)) ∧
      ∃ s e av, us4[i * 11 + 5]? = some (.string s) ∧ us4[i * 11 + 6]? = some e ∧ isSl e ∧ us4[i * 11 + 7]? = some av ∧ ∃ na us, SlAt w.heap 2 av na us ∧ ∀ k, k < na → ∃ e2, us[k * 2 + 0]? = some e2 ∧ isSl e2 := fun i hi => by
    obtain ⟨y, n, h8⟩ := each4 i hi
    obtain ⟨q1, q2, ⟨op, to, q3, q4⟩, s, e, av, q5, q6, q7, q8, q9⟩ := ins_open h8
    have up : ∀ {o : Nat} {v : Value}, ((us4.drop (i * 11)).take 11)[o]? = some v → us4[i * 11 + o]? = some v := fun {o v} hv => by
      rw [List.getElem?_take] at hv
      split at hv
      · rw [List.getElem?_drop] at hv
        exact hv
      · cases hv
    exact ⟨q1, q2, ⟨op, to, up q3, up q4⟩, s, e, av, up q5, up q6, q7, up q8, q9⟩
  have hus4 := sl4.1
  have hones : ∀ u ∈ us4, one u := fun u hu => by
    obtain ⟨j, hj⟩ := List.mem_iff_getElem?.1 hu
    have hjl := (List.getElem?_eq_some_iff.1 hj).1
    obtain ⟨_, q2, _⟩ := hel (j / 11) (by omega)
    refine q2 u (List.mem_iff_getElem?.2 ⟨j % 11, ?_⟩)
    rw [List.getElem?_take, if_pos (by omega), List.getElem?_drop, show j / 11 * 11 + j % 11 = j by omega]
    exact hj
  have hL : ((List.range l4).map fun i => (intAt us4 (i * 11 + 0), intAt us4 (i * 11 + 4))).length = l4 := by simp
  refine ⟨.string s, .slice a1 l1 c1, cs[2], .slice a3 l3 c3, .slice a4 l4 c4, (List.range l4).map fun i => (intAt us4 (i * 11 + 0), intAt us4 (i * 11 + 4)), ?_, ⟨us4, by rw [hL]; exact sl4, hones, fun i x hx => ?_⟩, ⟨⟨s, rfl⟩, ⟨l1, us1, sl1, fun i hi => ?_⟩, ⟨_, _, _, rfl⟩, ⟨us4, by rw [hL]; exact sl4, hones, fun i hi => ?_⟩⟩⟩
  · refine List.ext_getElem? fun j => ?_
    rcases (by omega : j = 0 ∨ j = 1 ∨ j = 2 ∨ j = 3 ∨ j = 4 ∨ 5 ≤ j) with rfl | rfl | rfl | rfl | rfl | hj
    · exact e0
    · exact e1
    · exact List.getElem?_eq_getElem _
    · exact e3
    · exact e4
    · rw [List.getElem?_eq_none (by omega), List.getElem?_eq_none (by simp [prc]; omega)]
  · have hi : i < l4 := by have := (List.getElem?_eq_some_iff.1 hx).1; rw [hL] at this; exact this
    rw [List.getElem?_map, List.getElem?_range hi, Option.map_some, Option.some.injEq] at hx
    subst hx
    obtain ⟨_, _, ⟨op, to, q3, q4⟩, _⟩ := hel i hi
    refine ⟨?_, ?_⟩
    · show us4[i * 11 + 0]? = some (.int .i64 (intAt us4 (i * 11 + 0)))
      unfold intAt
      rw [q3]
    · show us4[i * 11 + 4]? = some (.int .i64 (intAt us4 (i * 11 + 4)))
      unfold intAt
      rw [q4]
  · obtain ⟨y, n, h8⟩ := each1 i hi
    obtain ⟨s, t, q1, q2⟩ := var_open h8
    refine ⟨s, t, ?_, ?_⟩
    · rw [List.getElem?_take, if_pos (by decide), List.getElem?_drop] at q1
      exact q1
    · rw [List.getElem?_take, if_pos (by decide), List.getElem?_drop] at q2
      exact q2
  · rw [hL] at hi
    obtain ⟨_, _, _, q⟩ := hel i hi
    exact q
theorem ints_open {a : Option Addr} {len cap : Nat} (h : DataW.trod enc Try.prog w base spare held fuel 30 (Value.slice a len cap).cells.toList = some x) : ∃ l : List Int, IS w.heap (.slice a len cap) l := by
  obtain ⟨us, _, h2, h3⟩ := sl_open (size := 1) Try.underlying30 (by kernel_rfl) (by decide) h
  have hl := h2.1
  have heq : us = iv ((List.range len).map fun i => intAt us i) := by
    refine List.ext_getElem? fun j => ?_
    by_cases hj : j < len
    · obtain ⟨y, n, h4⟩ := h3 j hj
      obtain ⟨k, hk, _⟩ := DataW.trod_int Try.underlying3 h4
      have e : us[j]? = some (.int .i64 k) := by
        have := congrArg (fun l => l[0]?) hk
        simpa [List.getElem?_take, List.getElem?_drop] using this
      rw [e, iv, List.getElem?_map, List.getElem?_map, List.getElem?_range hj]
      simp only [Option.map_some, intAt, e]
    · rw [List.getElem?_eq_none (by omega), List.getElem?_eq_none (by simp [iv]; omega)]
  refine ⟨(List.range len).map fun i => intAt us i, ?_⟩
  rw [IS, ← heq]
  simpa using h2
end
end Go.Proofs.Ytihibbejjmldjaa
