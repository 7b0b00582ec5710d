/- Faults in order: in plain. -/
import Derived.Test.YtfpedcmempljlaaDoorPaP
namespace Go.Sx.Or

/-- a fault: its code and its place -/
abbrev Ft := Int × Int
def cpI (a b : Int) : Int := if a < b then -1 else if b < a then 1 else 0
def cfF (x y : Ft) : Int := if cpI x.2 y.2 ≠ 0 then cpI x.2 y.2 else cpI x.1 y.1
def lt2 (a b : Ft) : Prop := a.2 < b.2 ∨ (a.2 = b.2 ∧ a.1 < b.1)
theorem cf_lt {x y : Ft} : cfF x y < 0 ↔ lt2 x y := by
  unfold cfF cpI lt2
  split <;> split <;> (try split) <;> (try split) <;> omega
theorem cf_ne {x y : Ft} : cfF x y = 0 ↔ x = y := by
  obtain ⟨a, b⟩ := x
  obtain ⟨c, d⟩ := y
  unfold cfF cpI
  simp only [Prod.mk.injEq]
  split <;> split <;> (try split) <;> (try split) <;> omega
theorem lt2_irrefl (x : Ft) : ¬ lt2 x x := by
  unfold lt2
  omega
theorem lt2_trans {x y z : Ft} (h1 : lt2 x y) (h2 : lt2 y z) : lt2 x z := by
  unfold lt2 at *
  omega
theorem lt2_tri (x y : Ft) : lt2 x y ∨ x = y ∨ lt2 y x := by
  obtain ⟨a, b⟩ := x
  obtain ⟨c, d⟩ := y
  unfold lt2
  simp only [Prod.mk.injEq]
  omega
/-- what Order is to tell -/
def OrdIs (L o : List Ft) : Prop := o.Pairwise lt2 ∧ ∀ x, x ∈ o ↔ x ∈ L ∧ x.1 ≠ 0
theorem up_one : ∀ {a b : List Ft}, a.Pairwise lt2 → b.Pairwise lt2 → (∀ k, k ∈ a ↔ k ∈ b) → a = b
  | [], [], _, _, _ => rfl
  | [], y :: b, _, _, h => absurd ((h y).2 (List.mem_cons_self ..)) (by simp)
  | x :: a, [], _, _, h => absurd ((h x).1 (List.mem_cons_self ..)) (by simp)
  | x :: a, y :: b, ha, hb, h => by
    rw [List.pairwise_cons] at ha hb
    have hxy : x = y := by
      have h1 := (h x).1 (List.mem_cons_self ..)
      have h2 := (h y).2 (List.mem_cons_self ..)
      rcases List.mem_cons.1 h1 with e | h1
      · exact e
      · rcases List.mem_cons.1 h2 with e | h2
        · exact e.symm
        · exact absurd (lt2_trans (hb.1 x h1) (ha.1 y h2)) (lt2_irrefl _)
    subst hxy
    congr 1
    refine up_one ha.2 hb.2 fun k => ⟨fun hk => ?_, fun hk => ?_⟩
    · rcases List.mem_cons.1 ((h k).1 (List.mem_cons_of_mem _ hk)) with e | h1
      · exact absurd (e ▸ ha.1 k hk) (lt2_irrefl _)
      · exact h1
    · rcases List.mem_cons.1 ((h k).2 (List.mem_cons_of_mem _ hk)) with e | h1
      · exact absurd (e ▸ hb.1 k hk) (lt2_irrefl _)
      · exact h1
theorem OrdIs.one {L o o' : List Ft} (h : OrdIs L o) (h' : OrdIs L o') : o = o' := up_one h.1 h'.1 fun k => by rw [h.2, h'.2]
theorem OrdIs.again {L o : List Ft} (h : OrdIs L o) : OrdIs o o := ⟨h.1, fun x => ⟨fun hx => ⟨hx, ((h.2 x).1 hx).2⟩, fun hx => hx.1⟩⟩

/-- of a list's head those that are not as the one ahead of them -/
def kp (xs : List Ft) : Nat → List Ft
  | 0 => []
  | m + 1 => kp xs m ++ (if m = 0 ∨ xs[m]? ≠ xs[m - 1]? then (xs[m]?).toList else [])
theorem kp_len (xs : List Ft) : ∀ m, (kp xs m).length ≤ m
  | 0 => Nat.le_refl _
  | m + 1 => by
    have := kp_len xs m
    unfold kp
    rw [List.length_append]
    split
    · have : (xs[m]?).toList.length ≤ 1 := by cases xs[m]? <;> simp
      omega
    · simp
      omega
theorem kp_all {xs : List Ft} : ∀ m, m ≤ xs.length → (∀ j, 0 < j → j < m → xs[j]? ≠ xs[j - 1]?) → kp xs m = xs.take m
  | 0, _, _ => by simp [kp]
  | m + 1, hm, h => by
    have hlt : m < xs.length := by omega
    unfold kp
    rw [kp_all m (by omega) fun j h1 h2 => h j h1 (by omega), List.take_succ_eq_append_getElem hlt, List.getElem?_eq_getElem hlt, if_pos]
    · rfl
    · by_cases h0 : m = 0
      · exact .inl h0
      · have := h m (by omega) (by omega)
        rw [List.getElem?_eq_getElem hlt] at this
        exact .inr this
theorem kp_good {xs : List Ft} (hs : xs.Pairwise fun a b => ¬ lt2 b a) : ∀ m, m ≤ xs.length → (kp xs m).Pairwise lt2 ∧ ∀ x, x ∈ kp xs m ↔ x ∈ xs.take m
  | 0, _ => ⟨.nil, fun x => by simp [kp]⟩
  | m + 1, hm => by
    obtain ⟨h1, h2⟩ := kp_good hs m (by omega)
    have hlt : m < xs.length := by omega
    have hx := List.getElem?_eq_getElem hlt
    unfold kp
    rw [List.take_succ_eq_append_getElem hlt]
    split
    · rename_i hc
      rw [hx]
      refine ⟨?_, fun x => by rw [List.mem_append, List.mem_append, h2]; rfl⟩
      rw [List.pairwise_append]
      refine ⟨h1, by simp, fun a ha b hb => ?_⟩
      simp at hb
      subst hb
      obtain ⟨j, hj, hja⟩ := List.mem_take_iff_getElem.1 ((h2 a).1 ha)
      rcases hc with h0 | h0
      · omega
      · rw [hx, List.getElem?_eq_getElem (by omega : m - 1 < xs.length)] at h0
        have hne : xs[m] ≠ xs[m - 1] := fun e => h0 (by rw [e])
        have hle2 : ¬ lt2 xs[m - 1] a := by
          by_cases hjm : j = m - 1
          · subst hjm
            rw [hja]
            exact lt2_irrefl _
          · have := List.pairwise_iff_getElem.1 hs j (m - 1) (by omega) (by omega) (by omega)
            rw [hja] at this
            exact this
        have hle3 := List.pairwise_iff_getElem.1 hs (m - 1) m (by omega) hlt (by omega)
        have h4 : lt2 xs[m - 1] xs[m] := by
          rcases lt2_tri xs[m - 1] xs[m] with h | h | h
          · exact h
          · exact absurd h.symm hne
          · exact absurd h hle3
        rcases lt2_tri a xs[m - 1] with h | h | h
        · exact lt2_trans h h4
        · rw [h]; exact h4
        · exact absurd h hle2
    · rename_i hc
      rw [not_or, Classical.not_not] at hc
      refine ⟨by simpa using h1, fun x => ?_⟩
      rw [List.append_nil, h2, List.mem_append, List.mem_singleton]
      refine ⟨.inl, fun h => h.elim id fun e => ?_⟩
      have he := hc.2
      rw [hx, List.getElem?_eq_getElem (by omega : m - 1 < xs.length), Option.some.injEq] at he
      rw [e, he, List.mem_take_iff_getElem]
      exact ⟨m - 1, by omega, rfl⟩
/-- those with a code -/
def fil (L : List Ft) : List Ft := L.filter fun x => decide (x.1 ≠ 0)
def srtF (L : List Ft) : List Ft := L.mergeSort fun x y => !decide (cfF y x < 0)
theorem srtF_perm (L : List Ft) : (srtF L).Perm L := List.mergeSort_perm L _
theorem srtF_up (L : List Ft) : (srtF L).Pairwise fun a b => ¬ lt2 b a := by
  have := List.pairwise_mergeSort (le := fun x y : Ft => !decide (cfF y x < 0)) (fun a b c => by
    simp only [Bool.not_eq_true', decide_eq_false_iff_not, cf_lt]
    intro h1 h2 h3
    rcases lt2_tri a b with h | h | h
    · exact absurd (lt2_trans h3 h) h2
    · subst h; exact h2 h3
    · exact h1 h) (fun a b => by
    rw [Bool.or_eq_true]
    simp only [Bool.not_eq_true', decide_eq_false_iff_not, cf_lt]
    rcases lt2_tri a b with h | h | h
    · exact .inl fun h' => lt2_irrefl _ (lt2_trans h h')
    · subst h; exact .inl (lt2_irrefl _)
    · exact .inr fun h' => lt2_irrefl _ (lt2_trans h h')) L
  exact this.imp fun h => by simpa [cf_lt] using h
def ordL (L : List Ft) : List Ft := kp (srtF (fil L)) (srtF (fil L)).length
theorem ordL_is (L : List Ft) : OrdIs L (ordL L) := by
  obtain ⟨h1, h2⟩ := kp_good (srtF_up (fil L)) _ (Nat.le_refl _)
  refine ⟨h1, fun x => ?_⟩
  unfold ordL
  rw [h2, List.take_length, (srtF_perm _).mem_iff, fil, List.mem_filter, decide_eq_true_eq]
end Go.Sx.Or
