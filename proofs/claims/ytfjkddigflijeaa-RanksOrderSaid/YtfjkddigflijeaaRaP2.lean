/- Ranks: rounds, in plain. -/
import Derived.Test.YtfjkddigflijeaaRaP
namespace Go.Sx.Ra
open Go.Sx.Pa

def sw (es : Es) : Es := es.map fun e => (e.2, e.1)
theorem mem_sw {es : Es} {a b : Nat} : (a, b) ∈ sw es ↔ (b, a) ∈ es := by
  unfold sw
  rw [List.mem_map]
  constructor
  · rintro ⟨⟨x, y⟩, h, he⟩
    cases he
    exact h
  · exact fun h => ⟨_, h, rfl⟩
theorem sw_ok {n : Nat} {es : Es} (h : Ok n es) : Ok n (sw es) := fun e he => by
  obtain ⟨x, y⟩ := e
  have := h _ (mem_sw.1 he)
  exact ⟨this.2, this.1⟩
/-- those ahead of i that are above v -/
def Nb (n : Nat) (es : Es) (v i : Nat) : List Nat := (succ n (sw es) i).filter fun j => decide (v < j)
theorem mem_Nb {n : Nat} {es : Es} (ho : Ok n es) {v i j : Nat} : j ∈ Nb n es v i ↔ (j, i) ∈ es ∧ v < j := by
  unfold Nb
  rw [List.mem_filter, mem_succ (sw_ok ho), mem_sw, decide_eq_true_eq]
theorem Nb_lt {n : Nat} {es : Es} {v i j : Nat} (h : j ∈ Nb n es v i) : j < n ∧ v < j := by
  unfold Nb at h
  rw [List.mem_filter, decide_eq_true_eq] at h
  exact ⟨succ_lt h.1, h.2⟩
/-- a round of d + 1 edges whose least node is v -/
def Cyc (n : Nat) (es : Es) (v d : Nat) : Prop := ∃ k, (v, k) ∈ es ∧ v ≤ k ∧ Dst (Nb n es v) v k d
theorem Dst.ge {n : Nat} {es : Es} {v k d : Nat} (h : Dst (Nb n es v) v k d) : (k = v ∧ d = 0) ∨ (v < k ∧ 0 < d ∧ k < n) := by
  cases h with
  | nil => exact .inl ⟨rfl, rfl⟩
  | step _ hc => exact .inr ⟨(Nb_lt hc).2, by omega, (Nb_lt hc).1⟩
theorem least_ex {P : Nat → Prop} (h : ∃ d, P d) : ∃ d, P d ∧ ∀ d', P d' → d ≤ d' := by
  obtain ⟨d, hd⟩ := h
  induction d using Nat.strongRecOn with
  | _ d ih =>
    by_cases hm : ∃ d', d' < d ∧ P d'
    · obtain ⟨d', h1, h2⟩ := hm
      exact ih d' h1 h2
    · exact ⟨d, hd, fun d' h' => by
        refine Nat.le_of_not_lt fun hlt => hm ⟨d', hlt, h'⟩⟩
theorem isD_ex (N : Nat → List Nat) {n v : Nat} (hv : v < n) : ∃ D, IsD N n (v : Int) D := by
  have : ∀ k, ∃ o : Option Nat, match o with
    | some d => Dst N v k d ∧ ∀ d', Dst N v k d' → d ≤ d'
    | none => ∀ d', ¬ Dst N v k d' := fun k => by
    by_cases h : ∃ d, Dst N v k d
    · obtain ⟨d, h1, h2⟩ := least_ex h
      exact ⟨some d, h1, h2⟩
    · exact ⟨none, fun d' h' => h ⟨d', h'⟩⟩
  refine ⟨fun k => Classical.choose (this k), fun k => ?_⟩
  have hk := Classical.choose_spec (this k)
  show match Classical.choose (this k) with | some d => _ | none => _
  revert hk
  cases Classical.choose (this k) with
  | none =>
    intro hk an d' ha hn hw
    obtain rfl : v = an := by omega
    exact hk d' hw
  | some d =>
    intro hk
    refine ⟨⟨v, rfl, hv, hk.1⟩, fun an d' ha hn hw => ?_⟩
    obtain rfl : v = an := by omega
    exact hk.2 d' hw
theorem isD_one {N : Nat → List Nat} {n v : Nat} {D D' : Nat → Option Nat} (h : IsD N n (v : Int) D) (h' : IsD N n (v : Int) D') : D = D' := by
  funext k
  cases hd : D k with
  | none =>
    cases hd' : D' k with
    | none => rfl
    | some d' =>
      obtain ⟨⟨an, h1, h2, h3⟩, _⟩ := h'.some_ hd'
      exact absurd h3 (h.none_ hd an d' h1 h2)
  | some d =>
    cases hd' : D' k with
    | none =>
      obtain ⟨⟨an, h1, h2, h3⟩, _⟩ := h.some_ hd
      exact absurd h3 (h'.none_ hd' an d h1 h2)
    | some d' =>
      obtain ⟨⟨an, h1, h2, h3⟩, h4⟩ := h.some_ hd
      obtain ⟨⟨an', h1', h2', h3'⟩, h4'⟩ := h'.some_ hd'
      have := h4 an' d' h1' h2' h3'
      have := h4' an d h1 h2 h3
      congr 1
      omega
theorem D_dst {N : Nat → List Nat} {n v : Nat} {D : Nat → Option Nat} (h : IsD N n (v : Int) D) {k d : Nat} (hd : D k = some d) : Dst N v k d := by
  obtain ⟨⟨an, h1, h2, h3⟩, _⟩ := h.some_ hd
  obtain rfl : v = an := by omega
  exact h3
theorem D_le {N : Nat → List Nat} {n v : Nat} (hv : v < n) {D : Nat → Option Nat} (h : IsD N n (v : Int) D) {k d : Nat} (hw : Dst N v k d) : ∃ d', D k = some d' ∧ d' ≤ d := h.of rfl hv hw
/-- one nearer -/
theorem D_down {n : Nat} {es : Es} (ho : Ok n es) {v : Nat} (hv : v < n) {D : Nat → Option Nat} (h : IsD (Nb n es v) n (v : Int) D) {i d : Nat} (hi : D i = some (d + 1)) : ∃ k, (i, k) ∈ es ∧ D k = some d := by
  have hw := D_dst h hi
  cases hw with
  | @step b _ _ hb hc =>
    obtain ⟨e, h5, h6⟩ := D_le hv h hb
    have hbi := (mem_Nb ho).1 hc
    obtain ⟨e', h7, h8⟩ := D_le hv h (Dst.step (D_dst h h5) hc)
    rw [hi] at h7
    cases h7
    refine ⟨b, hbi.1, ?_⟩
    rw [h5]
    congr 1
    omega
/-- no way is longer than there are nodes -/
theorem D_row {n : Nat} {es : Es} (ho : Ok n es) {v : Nat} (hv : v < n) {D : Nat → Option Nat} (h : IsD (Nb n es v) n (v : Int) D) : ∀ (d k : Nat), D k = some d → ∃ l : List Nat, l.Nodup ∧ l.length = d + 1 ∧ ∀ x ∈ l, x < n ∧ ∃ e, D x = some e ∧ e ≤ d
  | 0, k, hk => by
    refine ⟨[k], by simp, rfl, fun x hx => ?_⟩
    simp at hx
    subst hx
    refine ⟨?_, 0, hk, Nat.le_refl _⟩
    rcases Dst.ge (D_dst h hk) with ⟨rfl, _⟩ | h1
    · exact hv
    · exact h1.2.2
  | d + 1, k, hk => by
    obtain ⟨k', h1, h2⟩ := D_down ho hv h hk
    obtain ⟨l, h3, h4, h5⟩ := D_row ho hv h d k' h2
    refine ⟨k :: l, List.nodup_cons.2 ⟨fun hm => ?_, h3⟩, by simp [h4], fun x hx => ?_⟩
    · obtain ⟨_, e, h6, h7⟩ := h5 k hm
      rw [hk] at h6
      cases h6
      omega
    · rcases List.mem_cons.1 hx with rfl | hx
      · refine ⟨(ho _ h1).1, _, hk, Nat.le_refl _⟩
      · obtain ⟨h6, e, h7, h8⟩ := h5 x hx
        exact ⟨h6, e, h7, by omega⟩
theorem D_lt {n : Nat} {es : Es} (ho : Ok n es) {v : Nat} (hv : v < n) {D : Nat → Option Nat} (h : IsD (Nb n es v) n (v : Int) D) {k d : Nat} (hk : D k = some d) : d < n := by
  obtain ⟨l, h1, h2, h3⟩ := D_row ho hv h d k hk
  have := nodup_sub h1 (m := List.range n) fun x hx => List.mem_range.2 (h3 x hx).1
  simp at this
  omega
theorem Cyc.lt {n : Nat} {es : Es} (ho : Ok n es) {v d : Nat} (h : Cyc n es v d) : v < n := by
  obtain ⟨k, h1, _⟩ := h
  exact (ho _ h1).1
/-- the shortest of one's rounds -/
theorem Cyc.least {n : Nat} {es : Es} (ho : Ok n es) {v d : Nat} (h : Cyc n es v d) : ∃ m, Cyc n es v m ∧ (∀ d', Cyc n es v d' → m ≤ d') ∧ m < n := by
  obtain ⟨m, h1, h2⟩ := least_ex ⟨d, h⟩
  refine ⟨m, h1, h2, ?_⟩
  have hv := h.lt ho
  obtain ⟨k, h3, h4, h5⟩ := h1
  obtain ⟨D, hD⟩ := isD_ex (Nb n es v) hv
  obtain ⟨e, h6, h7⟩ := D_le hv hD h5
  have h8 := h2 e ⟨k, h3, h4, D_dst hD h6⟩
  have := D_lt ho hv hD h6
  omega
theorem Cyc.first {n : Nat} {es : Es} (ho : Ok n es) {v m : Nat} {D : Nat → Option Nat} (h : Cyc n es v m) (hm : ∀ d', Cyc n es v d' → m ≤ d') (hD : IsD (Nb n es v) n (v : Int) D) : ∃ k, (v, k) ∈ es ∧ D k = some m := by
  have hv := h.lt ho
  obtain ⟨k, h3, h4, h5⟩ := h
  obtain ⟨e, h6, h7⟩ := D_le hv hD h5
  have h8 := hm e ⟨k, h3, h4, D_dst hD h6⟩
  obtain rfl : e = m := by omega
  exact ⟨k, h3, h6⟩
theorem Cyc.of {n : Nat} {es : Es} {v m k : Nat} {D : Nat → Option Nat} (hD : IsD (Nb n es v) n (v : Int) D) (hk : (v, k) ∈ es) (hm : D k = some m) : Cyc n es v m := by
  have := D_dst hD hm
  refine ⟨k, hk, ?_, this⟩
  rcases Dst.ge this with h | h <;> omega

/-- from i on, always to the least that is one nearer -/
def wk (S : Nat → List Nat) (D : Nat → Option Nat) : Nat → Nat → List Nat
  | 0, i => [i]
  | m + 1, i => i :: match (S i).find? fun k => D k == some (m + 1) with | some k => wk S D m k | none => []
def RoundIs (n : Nat) (es : Es) (l : List Nat) : Prop :=
  ((∀ v d, ¬ Cyc n es v d) ∧ l = []) ∨
  ∃ v d D, v < n ∧ Cyc n es v d ∧ (∀ v' d', Cyc n es v' d' → d ≤ d' ∧ (d' = d → v ≤ v')) ∧ IsD (Nb n es v) n (v : Int) D ∧ l = wk (succ n es) D d v
theorem RoundIs.one {n : Nat} {es : Es} {l l' : List Nat} (h : RoundIs n es l) (h' : RoundIs n es l') : l = l' := by
  rcases h with ⟨h1, rfl⟩ | ⟨v, d, D, h1, h2, h3, h4, rfl⟩ <;> rcases h' with ⟨h1', rfl⟩ | ⟨v', d', D', h1', h2', h3', h4', rfl⟩
  · rfl
  · exact absurd h2' (h1 _ _)
  · exact absurd h2 (h1' _ _)
  · have a1 := h3 _ _ h2'
    have a2 := h3' _ _ h2
    obtain rfl : d = d' := by omega
    obtain rfl : v = v' := by have := a1.2 rfl; have := a2.2 rfl; omega
    rw [isD_one h4 h4']
theorem find_up {S : List Nat} (hS : S.Pairwise (· < ·)) {p : Nat → Bool} {k : Nat} (hk : k ∈ S) (hp : p k = true) (hl : ∀ j ∈ S, p j = true → k ≤ j) : S.find? p = some k := by
  rw [List.find?_eq_some_iff_append]
  obtain ⟨l1, l2, rfl⟩ := List.append_of_mem hk
  refine ⟨hp, l1, l2, rfl, fun a ha => ?_⟩
  have h1 := (List.pairwise_append.1 hS).2.2 a ha k (List.mem_cons_self ..)
  cases hpa : p a with
  | false => rfl
  | true =>
    have := hl a (List.mem_append_left _ ha) hpa
    omega
theorem find_least {S : List Nat} (hS : S.Pairwise (· < ·)) {p : Nat → Bool} {k : Nat} (h : S.find? p = some k) : k ∈ S ∧ p k = true ∧ ∀ j ∈ S, p j = true → k ≤ j := by
  refine ⟨List.mem_of_find?_eq_some h, List.find?_some h, fun j hj hp => ?_⟩
  rw [List.find?_eq_some_iff_append] at h
  obtain ⟨_, l1, l2, rfl, h2⟩ := h
  rcases List.mem_append.1 hj with hj | hj
  · have := h2 j hj
    rw [hp] at this
    cases this
  · rcases List.mem_cons.1 hj with rfl | hj
    · exact Nat.le_refl _
    · have := (List.pairwise_cons.1 (List.pairwise_append.1 hS).2.1).1 j hj
      omega
/-- what the walk is -/
theorem wk_all {n : Nat} {es : Es} (ho : Ok n es) {v : Nat} (hv : v < n) {D : Nat → Option Nat} (hD : IsD (Nb n es v) n (v : Int) D) : ∀ (m i : Nat), (∃ k, (i, k) ∈ es ∧ D k = some m) →
    (wk (succ n es) D m i).length = m + 1 ∧ (wk (succ n es) D m i)[0]? = some i ∧
    (∀ j a b, (wk (succ n es) D m i)[j]? = some a → (wk (succ n es) D m i)[j + 1]? = some b → (a, b) ∈ es) ∧
    (∀ j a, (wk (succ n es) D m i)[j + 1]? = some a → v < a ∧ a < n) ∧ ∀ a, (wk (succ n es) D m i)[m]? = some a → (a, v) ∈ es
  | 0, i, ⟨k, h1, h2⟩ => by
    have hkv : k = v := by
      rcases Dst.ge (D_dst hD h2) with h | h <;> omega
    subst hkv
    refine ⟨rfl, rfl, fun j a b _ h => ?_, fun j a h => ?_, fun a h => ?_⟩
    · simp [wk] at h
    · simp [wk] at h
    · simp [wk] at h
      subst h
      exact h1
  | m + 1, i, ⟨k, h1, h2⟩ => by
    have hex : ∃ x, (succ n es i).find? (fun k => D k == some (m + 1)) = some x := by
      cases hf : (succ n es i).find? (fun k => D k == some (m + 1)) with
      | some x => exact ⟨x, rfl⟩
      | none =>
        have := List.find?_eq_none.1 hf k ((mem_succ ho).2 h1)
        rw [h2] at this
        simp at this
    obtain ⟨x, hx⟩ := hex
    have hxs := (mem_succ ho).1 (List.mem_of_find?_eq_some hx)
    have hxd : D x = some (m + 1) := by simpa using List.find?_some hx
    obtain ⟨k', h3, h4⟩ := D_down ho hv hD hxd
    obtain ⟨a1, a2, a3, a4, a5⟩ := wk_all ho hv hD m x ⟨k', h3, h4⟩
    have hxv : v < x ∧ x < n := by
      rcases Dst.ge (D_dst hD hxd) with h | h <;> omega
    unfold wk
    rw [hx]
    refine ⟨by simp [a1], rfl, fun j a b hj hj' => ?_, fun j a hj => ?_, fun a ha => ?_⟩
    · cases j with
      | zero =>
        simp at hj
        subst hj
        rw [List.getElem?_cons_succ, a2] at hj'
        cases hj'
        exact hxs
      | succ j =>
        rw [List.getElem?_cons_succ] at hj hj'
        exact a3 j a b hj hj'
    · rw [List.getElem?_cons_succ] at hj
      cases j with
      | zero =>
        rw [a2] at hj
        cases hj
        exact hxv
      | succ j => exact a4 j a hj
    · rw [List.getElem?_cons_succ] at ha
      exact a5 a ha
/-- what a round is -/
theorem RoundIs.good {n : Nat} {es : Es} (ho : Ok n es) {l : List Nat} (h : RoundIs n es l) : (l = [] ∧ ∀ v d, ¬ Cyc n es v d) ∨ (∃ v d, l.length = d + 1 ∧ l[0]? = some v ∧ Cyc n es v d ∧ (∀ v' d', Cyc n es v' d' → d ≤ d') ∧
    (∀ j a b, l[j]? = some a → l[j + 1]? = some b → (a, b) ∈ es) ∧ (∀ j a, l[j + 1]? = some a → v < a ∧ a < n) ∧ ∀ a, l[d]? = some a → (a, v) ∈ es) := by
  rcases h with ⟨h1, rfl⟩ | ⟨v, d, D, h1, h2, h3, h4, rfl⟩
  · exact .inl ⟨rfl, h1⟩
  · have hf := h2.first ho (fun d' h' => (h3 v d' h').1) h4
    obtain ⟨a1, a2, a3, a4, a5⟩ := wk_all ho h1 h4 d v hf
    exact .inr ⟨v, d, a1, a2, h2, fun v' d' h' => (h3 v' d' h').1, a3, a4, a5⟩

/-! ### rounds and ranks -/
theorem Dst.rises {n : Nat} {es : Es} (ho : Ok n es) {s : Nat → Nat} (hs : ∀ a b, (a, b) ∈ es → s a < s b) {v k d : Nat} (h : Dst (Nb n es v) v k d) : s k + d ≤ s v := by
  induction h with
  | nil => exact Nat.le_refl _
  | step _ hc ih =>
    have := hs _ _ ((mem_Nb ho).1 hc).1
    omega
theorem Cyc.noRk {n : Nat} {es : Es} (ho : Ok n es) {v d : Nat} (h : Cyc n es v d) : NoRk es := fun s hs => by
  obtain ⟨k, h1, h2, h3⟩ := h
  have := hs _ _ h1
  have := Dst.rises ho hs h3
  omega
/-- a closed walk has a round that is no longer -/
theorem loop_cyc {n : Nat} {es : Es} (ho : Ok n es) {L : Nat} (hL : 0 < L) {f : Nat → Nat} (hf : f L = f 0) (he : ∀ i, i < L → (f i, f (i + 1)) ∈ es) : ∃ v d, Cyc n es v d ∧ d + 1 ≤ L := by
  -- its least node
  obtain ⟨v, ⟨j, hj, hjv⟩, hmin⟩ := least_ex (P := fun x => ∃ j, j < L ∧ f j = x) ⟨f 0, 0, hL, rfl⟩
  have hge : ∀ i, i < L → v ≤ f i := fun i hi => hmin _ ⟨i, hi, rfl⟩
  -- round and round
  let w : Nat → Nat := fun i => f (i % L)
  have hwe : ∀ i, (w i, w (i + 1)) ∈ es := fun i => by
    have hm := Nat.mod_lt i hL
    have := he _ hm
    show (f (i % L), f ((i + 1) % L)) ∈ es
    by_cases hlt : i % L + 1 < L
    · have : (i + 1) % L = i % L + 1 := by
        rw [Nat.add_mod]
        by_cases h1 : L = 1
        · omega
        · rw [Nat.mod_eq_of_lt (by omega : 1 < L), Nat.mod_eq_of_lt hlt]
      rw [this]
      exact he _ hm
    · have h0 : (i + 1) % L = 0 := by
        have : i % L + 1 = L := by omega
        have hd := Nat.div_add_mod i L
        have : i + 1 = L * (i / L + 1) := by rw [Nat.mul_add]; omega
        rw [this, Nat.mul_mod_right]
      rw [h0, ← hf]
      have : i % L + 1 = L := by omega
      rw [← this]
      rw [this]
      have := he _ hm
      rwa [show i % L + 1 = L by omega] at this
  have hwv : ∀ i, v ≤ w i := fun i => hge _ (Nat.mod_lt i hL)
  have hwj : w j = v := by
    show f (j % L) = v
    rw [Nat.mod_eq_of_lt hj]
    exact hjv
  have hwL : w (j + L) = v := by
    show f ((j + L) % L) = v
    rw [Nat.add_mod_right, Nat.mod_eq_of_lt hj]
    exact hjv
  -- there first again
  obtain ⟨m, ⟨hm1, hm2⟩, hm3⟩ := least_ex (P := fun m => 0 < m ∧ w (j + m) = v) ⟨L, hL, hwL⟩
  have hmL := hm3 L ⟨hL, hwL⟩
  have hD : ∀ q, q < m → Dst (Nb n es v) v (w (j + (m - q))) q := by
    intro q
    induction q with
    | zero =>
      intro _
      rw [Nat.sub_zero, hm2]
      exact .nil
    | succ q ih =>
      intro hq
      have h1 := ih (by omega)
      refine .step h1 ((mem_Nb ho).2 ⟨?_, ?_⟩)
      · have := hwe (j + (m - (q + 1)))
        rwa [show j + (m - (q + 1)) + 1 = j + (m - q) by omega] at this
      · have h2 := hwv (j + (m - (q + 1)))
        have h3 : w (j + (m - (q + 1))) ≠ v := fun e => by
          have := hm3 (m - (q + 1)) ⟨by omega, e⟩
          omega
        omega
  refine ⟨v, m - 1, ⟨w (j + 1), ?_, hwv _, ?_⟩, by omega⟩
  · have := hwe j
    rwa [hwj] at this
  · have := hD (m - 1) (by omega)
    rwa [show m - (m - 1) = 1 by omega] at this
def Wk (es : Es) (a b : Nat) : Prop := ∃ (L : Nat) (f : Nat → Nat), 0 < L ∧ f 0 = a ∧ f L = b ∧ ∀ i, i < L → (f i, f (i + 1)) ∈ es
theorem Wk.one {es : Es} {a b : Nat} (h : (a, b) ∈ es) : Wk es a b :=
  ⟨1, fun i => if i = 0 then a else b, Nat.one_pos, rfl, rfl, fun i hi => by
    obtain rfl : i = 0 := by omega
    exact h⟩
theorem Wk.snoc {es : Es} {a b c : Nat} (h : Wk es a b) (hc : (b, c) ∈ es) : Wk es a c := by
  obtain ⟨L, f, h1, h2, h3, h4⟩ := h
  refine ⟨L + 1, fun i => if i ≤ L then f i else c, by omega, by simp [h2], if_neg (by omega), fun i hi => ?_⟩
  show ((if i ≤ L then f i else c), (if i + 1 ≤ L then f (i + 1) else c)) ∈ es
  by_cases hi' : i < L
  · rw [if_pos (by omega), if_pos (by omega)]
    exact h4 i hi'
  · obtain rfl : i = L := by omega
    rw [if_pos (by omega), if_neg (by omega), h3]
    exact hc
theorem noRk_cyc {n : Nat} {es : Es} (ho : Ok n es) (h : NoRk es) : ∃ v d, Cyc n es v d := by
  refine Classical.byContradiction fun hno => ?_
  have hcl : ∀ x, ¬ Wk es x x := fun x ⟨L, f, h1, h2, h3, h4⟩ => by
    obtain ⟨v, d, h5, _⟩ := loop_cyc ho h1 (h3.trans h2.symm) h4
    exact hno ⟨v, d, h5⟩
  haveI : ∀ b, DecidablePred fun a => Wk es a b := fun b a => Classical.propDecidable _
  refine h (fun b => (List.range n).countP fun a => decide (Wk es a b)) fun a b hab => ?_
  have hv := ho _ hab
  have hsub : (List.range n).countP (fun x => decide (Wk es x a)) + 1 ≤ (List.range n).countP (fun x => decide (Wk es x b)) := by
    have e1 : (List.range n).countP (fun x => decide (Wk es x a) || decide (x = a)) = (List.range n).countP (fun x => decide (Wk es x a)) + 1 := by
      refine countP_one (x := a) (by simp) (decide_eq_false (hcl a)) (fun y hy => by simp [hy]) List.nodup_range (List.mem_range.2 hv.1)
    rw [← e1]
    refine List.countP_mono_left fun x _ hx => ?_
    rw [Bool.or_eq_true, decide_eq_true_eq, decide_eq_true_eq] at hx
    rw [decide_eq_true_eq]
    rcases hx with hx | rfl
    · exact hx.snoc hab
    · exact .one hab
  exact hsub
theorem rk_no {n : Nat} {es : Es} {r : Nat → Nat} (hr : IsRk n es r) : ¬ NoRk es := fun h => h r hr.up
/-! ### what depends on the edges alone, not on their order -/
theorem succ_same {n : Nat} {es es' : Es} (h : ∀ e, e ∈ es ↔ e ∈ es') : succ n es = succ n es' := by
  funext a
  unfold succ
  congr 1
  funext b
  simp only [h]
theorem Nb_same {n : Nat} {es es' : Es} (h : ∀ e, e ∈ es ↔ e ∈ es') : Nb n es = Nb n es' := by
  funext v i
  unfold Nb
  have : succ n (sw es) = succ n (sw es') := succ_same fun e => by
    obtain ⟨x, y⟩ := e
    rw [mem_sw, mem_sw]
    exact h _
  rw [this]
theorem Cyc_same {n : Nat} {es es' : Es} (h : ∀ e, e ∈ es ↔ e ∈ es') {v d : Nat} : Cyc n es v d ↔ Cyc n es' v d := by
  unfold Cyc
  rw [Nb_same h]
  constructor
  · rintro ⟨k, h1, h2⟩
    exact ⟨k, (h _).1 h1, h2⟩
  · rintro ⟨k, h1, h2⟩
    exact ⟨k, (h _).2 h1, h2⟩
theorem RoundIs.same {n : Nat} {es es' : Es} (h : ∀ e, e ∈ es ↔ e ∈ es') {l : List Nat} (hl : RoundIs n es l) : RoundIs n es' l := by
  rcases hl with ⟨h1, rfl⟩ | ⟨v, d, D, h1, h2, h3, h4, rfl⟩
  · exact .inl ⟨fun v d hc => h1 v d ((Cyc_same h).2 hc), rfl⟩
  · exact .inr ⟨v, d, D, h1, (Cyc_same h).1 h2, fun v' d' hc => h3 v' d' ((Cyc_same h).2 hc), by rw [← Nb_same h]; exact h4, by rw [succ_same h]⟩
theorem IsRk.samE {n : Nat} {es es' : Es} (h : ∀ e, e ∈ es ↔ e ∈ es') {r : Nat → Nat} (hr : IsRk n es r) : IsRk n es' r :=
  ⟨fun a b hab => hr.up a b ((h _).2 hab), fun b hb => by
    rcases hr.by_ b hb with h0 | ⟨a, h1, h2⟩
    · exact .inl h0
    · exact .inr ⟨a, (h _).1 h1, h2⟩⟩
theorem NoRk.same {es es' : Es} (h : ∀ e, e ∈ es ↔ e ∈ es') (hn : NoRk es) : NoRk es' := fun s hs => hn s fun a b hab => hs a b ((h _).1 hab)
theorem Dst.more {N M : Nat → List Nat} (h : ∀ i j, j ∈ N i → j ∈ M i) {a k d : Nat} (hd : Dst N a k d) : Dst M a k d := by
  induction hd with
  | nil => exact .nil
  | step _ hc ih => exact .step ih (h _ _ hc)
theorem Cyc.more {n : Nat} {es es' : Es} (ho : Ok n es) (ho' : Ok n es') (h : ∀ e, e ∈ es → e ∈ es') {v d : Nat} (hc : Cyc n es v d) : Cyc n es' v d := by
  obtain ⟨k, h1, h2, h3⟩ := hc
  refine ⟨k, h _ h1, h2, Dst.more (fun i j hj => ?_) h3⟩
  rw [mem_Nb ho] at hj
  exact (mem_Nb ho').2 ⟨h _ hj.1, hj.2⟩
end Go.Sx.Ra
