/- Slices of ints: put in order, each once. -/
import Derived.Test.YtfjkddigflijeaaR3
import Derived.Test.YtfjkddigflijeaaSLay
namespace Go.Proofs.Ytfjkddigflijeaa
open Go Go.Sx Go.Sx.Pa Go.Sx.Ra Go.Proofs.Ytfjkddigflijeaa.Sx Go.Sort

def srt (xs : List Int) : List Int := xs.mergeSort fun x y => decide (x ≤ y)
theorem srt_perm (xs : List Int) : (srt xs).Perm xs := List.mergeSort_perm xs _
theorem srt_up (xs : List Int) : (srt xs).Pairwise (· ≤ ·) := by
  have := List.pairwise_mergeSort (le := fun x y : Int => decide (x ≤ y)) (fun a b c => by simp; omega) (fun a b => by simp; omega) xs
  exact this.imp fun h => by simpa using h
theorem putCells_at {o : Nat} {d : Array Int} {c : Array Value} {j : Nat} (hj : j < d.size) (hc : o + j < c.size) : (putCells (Value.int .i64) o d c)[o + j]? = some (.int .i64 d[j]!) := by
  unfold putCells
  rw [Array.getElem?_mapIdx, Array.getElem?_eq_getElem hc, Option.map_some, if_pos ⟨by omega, by omega⟩]
  congr 3
  omega

section
variable {ω : Amb}
theorem SortNil_law {h : Hp} {v : Value} (hv : ∃ a c, v = .slice a 0 c) (X : List PanicEntry → Hp → Prop) : CallX Try.prog ω n_slices_Sort_sl_int_int [v] h (fun _ h' => h' = h) X := by
  obtain ⟨a, c, rfl⟩ := hv
  refine C_slices_Sort_sl_int_int ω _ h _ X ?_
  unfold W_slices_Sort_sl_int_int
  rw [asSl_sl]
  have hw : IntKind.wrap .u64 ((0 : Nat) : Int) = ((0 : Nat) : Int) := by decide
  rw [hw]
  have hLen : ∀ Y, CallX Try.prog ω n_math_bits_Len [.int .u64 ((0 : Nat) : Int)] h (fun r h' => h' = h ∧ ∃ m, r = .int .i64 m) Y := by
    intro Y
    refine C_math_bits_Len ω _ h _ Y ?_
    unfold W_math_bits_Len
    exact Len64_law 0 (by omega) h Y
  refine CallX.use hLen ?_
  rintro _ _ ⟨hh, m, rfl⟩
  rw [hh]
  refine C_slices_pdqsortOrdered_int ω _ _ _ _ h _ X ?_
  unfold W_slices_pdqsortOrdered_int
  refine ⟨fun l a _ _ b h' => a = .int .i64 0 ∧ b = .int .i64 ((0 : Nat) : Int) ∧ h' = h, fun _ _ _ _ _ _ => 0, ⟨rfl, rfl, rfl⟩, ?_⟩
  rintro _ _ _ _ _ _ _ ⟨rfl, rfl, hh⟩
  rw [hh]
  refine ⟨fun _ _ _ _ _ _ => False, ?_, fun _ _ _ _ _ _ _ hj => hj.elim⟩
  rw [asK_int, asK_int]
  refine cond_t rfl ?_
  refine C_slices_insertionSortOrdered_int ω _ _ _ h _ X ?_
  unfold W_slices_insertionSortOrdered_int
  rw [asK_int]
  refine ⟨fun i h' => i = .int .i64 1 ∧ h' = h, fun _ _ => 0, ⟨rfl, rfl⟩, ?_⟩
  rintro _ _ _ ⟨rfl, hh⟩
  rw [hh, asK_int, asK_int]
  exact cond_f rfl rfl

theorem Sort_law {h : Hp} {base : Nat} {v : Value} {xs : List Int} (ho : IO h base v xs) (hl : xs.length ≤ 1000000) (X : List PanicEntry → Hp → Prop) :
    CallX Try.prog ω n_slices_Sort_sl_int_int [v] h (fun _ h' => IO h' base v (srt xs) ∧ Keep (fun k => v.ownBlock = some k) h h') X := by
  have hls : (srt xs).length = xs.length := (srt_perm xs).length_eq
  cases hxs : xs with
  | nil =>
    subst hxs
    obtain ⟨a, cap, rfl, _⟩ := ho.form
    refine CallX.use (SortNil_law ⟨a, cap, rfl⟩) ?_
    rintro _ _ hh
    rw [hh]
    have hs0 : srt [] = [] := by
      have := hls
      exact List.eq_nil_of_length_eq_zero (by simpa using this)
    rw [hs0]
    exact ⟨ho, Keep.refl _ _⟩
  | cons x r =>
    rw [← hxs]
    rcases ho.2 with ⟨rfl, hn⟩ | ⟨g, o, cap, cur, rfl, hb, hg, hnc, hcm, hcs, hx⟩
    · rw [hxs] at hn
      simp at hn
    · have hgl := hp_lt hg
      intro d
      have hcell := own_cells hg hx
      have hH : Holds (Value.int .i64) (W ω h d) g o xs.toArray := by
        intro j hj
        have hj' : j < xs.length := by simpa using hj
        refine ⟨?_, ?_⟩
        · rw [cell?_W]
          have := hcell j _ (iv_at (List.getElem?_eq_getElem hj'))
          rw [addr_add] at this
          rw [this]
          congr 2
          rw [getElem!_pos xs.toArray j hj]
          simp
        · rw [frozen?_W]
          simp [frozenH, World.frozen?, hg]
      have hc := Any.slices_Sort_int laysS g o cap xs (W ω h d) hH hgl (by omega)
      have hc' : Calls Try.prog 18 #[.slice (some ⟨g, o, none⟩) xs.length cap] (W ω h d) _ := hc
      refine hc'.mono fun e w' ⟨he, n, os, hw⟩ => ?_
      subst he
      have hw2 : w' = W ω (h.modify g (onCells (putCells (Value.int .i64) o (srt xs).toArray)) ++ os) (d + n) := hw
      refine ⟨⟨d + n, by rw [hw2]; rfl⟩, ?_⟩
      rw [hw2]
      have hblk : (h.modify g (onCells (putCells (Value.int .i64) o (srt xs).toArray)) ++ os)[g]? = some (.cells (putCells (Value.int .i64) o (srt xs).toArray cur) 3 (0, 0)) := by
        rw [Array.getElem?_append_left (by simpa using hgl), Array.getElem?_modify, if_pos rfl, hg]
        rfl
      refine ⟨⟨by rw [iv_len, Nat.mul_one], .inr ⟨g, o, cap, _, by rw [hls], hb, hblk, by rw [hls]; exact hnc, hcm, by simpa [putCells] using hcs, ?_⟩⟩, ?_⟩
      · refine List.ext_getElem? fun j => ?_
        rw [Nat.mul_one]
        by_cases hj : j < (srt xs).length
        · rw [List.getElem?_take, if_pos hj, List.getElem?_drop, Array.getElem?_toList, putCells_at (by simpa using hj) (by omega), iv_at (List.getElem?_eq_getElem hj)]
          congr 2
          rw [getElem!_pos _ j (by simpa using hj)]
          simp
        · rw [List.getElem?_take, if_neg hj, List.getElem?_eq_none (by rw [iv_len]; omega)]
      · refine ⟨by simp [W], fun k hk hn => ?_⟩
        have hkg : k ≠ g := fun e => hn (by rw [e]; rfl)
        show (h.modify g _ ++ os)[k]? = h[k]?
        rw [Array.getElem?_append_left (by simpa using hk), Array.getElem?_modify, if_neg (fun e => hkg e.symm)]

/-- of a list's head those that are not as the one ahead of them -/
def kp (xs : List Int) : Nat → List Int
  | 0 => []
  | m + 1 => kp xs m ++ (if m = 0 ∨ xs[m]? ≠ xs[m - 1]? then (xs[m]?).toList else [])
theorem kp_len (xs : List Int) : ∀ m, (kp xs m).length ≤ m
  | 0 => Nat.le_refl _
  | m + 1 => by
    have := kp_len xs m
    unfold kp
    rw [List.length_append]
    split
    · have : (xs[m]?).toList.length ≤ 1 := by cases xs[m]? <;> simp
      omega
    · simp
      omega
theorem kp_good {xs : List Int} (hs : xs.Pairwise (· ≤ ·)) : ∀ m, m ≤ xs.length → (kp xs m).Pairwise (· < ·) ∧ ∀ x, x ∈ kp xs m ↔ x ∈ xs.take m
  | 0, _ => ⟨.nil, fun x => by simp [kp]⟩
  | m + 1, hm => by
    obtain ⟨h1, h2⟩ := kp_good hs m (by omega)
    have hlt : m < xs.length := by omega
    have hx := List.getElem?_eq_getElem hlt
    unfold kp
    rw [List.take_succ_eq_append_getElem hlt]
    split
    · rename_i hc
      rw [hx]
      refine ⟨?_, fun x => by rw [List.mem_append, List.mem_append, h2]; rfl⟩
      rw [List.pairwise_append]
      refine ⟨h1, by simp, fun a ha b hb => ?_⟩
      simp at hb
      subst hb
      obtain ⟨j, hj, hja⟩ := List.mem_take_iff_getElem.1 ((h2 a).1 ha)
      have hle := List.pairwise_iff_getElem.1 hs j m (by omega) hlt (by omega)
      rw [hja] at hle
      rcases hc with h0 | h0
      · omega
      · rw [hx, List.getElem?_eq_getElem (by omega : m - 1 < xs.length)] at h0
        have hne : xs[m] ≠ xs[m - 1] := fun e => h0 (by rw [e])
        have hle2 : a ≤ xs[m - 1] := by
          by_cases hjm : j = m - 1
          · subst hjm
            omega
          · have := List.pairwise_iff_getElem.1 hs j (m - 1) (by omega) (by omega) (by omega)
            rw [hja] at this
            exact this
        have hle3 := List.pairwise_iff_getElem.1 hs (m - 1) m (by omega) hlt (by omega)
        omega
    · rename_i hc
      rw [not_or, Classical.not_not] at hc
      refine ⟨by simpa using h1, fun x => ?_⟩
      rw [List.append_nil, h2, List.mem_append, List.mem_singleton]
      refine ⟨.inl, fun h => h.elim id fun e => ?_⟩
      have he := hc.2
      rw [hx, List.getElem?_eq_getElem (by omega : m - 1 < xs.length), Option.some.injEq] at he
      rw [e, he, List.mem_take_iff_getElem]
      exact ⟨m - 1, by omega, rfl⟩
end
end Go.Proofs.Ytfjkddigflijeaa
