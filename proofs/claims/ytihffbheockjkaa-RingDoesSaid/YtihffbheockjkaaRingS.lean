/- The ring's functions, by their formulas: element type string. -/
import Derived.Test.YtihffbheockjkaaSxUse
import Derived.Test.YtihffbheockjkaaY1
namespace Go.Proofs.Ytihffbheockjkaa
open Go Go.Sx Go.Proofs.Ytihffbheockjkaa.Sx

/-- a ring at block b: its slots, its things, the block that they lie in -/
def RingstringR (h : Hp) (b : Nat) (g : Option Nat) (slots : Nat) (xs : List Value) : Prop :=
  (∀ u ∈ xs, one u) ∧ slots ≤ 9223372036854775807 ∧
  ((g = none ∧ xs = [] ∧ h[b]? = some (.cells #[.int .i64 slots, .int .i64 0, .int .i64 0, .slice none 0 0] 48 (0, 0))) ∨
   ∃ G m f cur, g = some G ∧ h[b]? = some (.cells #[.int .i64 slots, .int .i64 (f : Nat), .int .i64 xs.length, .slice (some ⟨G, 0, none⟩) m m] 48 (0, 0)) ∧
     h[G]? = some (.cells cur 9 (0, 0)) ∧ cur.size = m ∧ f < m ∧ xs.length ≤ m ∧ m ≤ 1099511627776 ∧ ∀ i x, xs[i]? = some x → cur[(f + i) % m]? = some x)

theorem RingstringR.ne {h : Hp} {b G slots : Nat} {xs : List Value} (hr : RingstringR h b (some G) slots xs) : b ≠ G := by
  rintro rfl
  obtain ⟨_, _, ⟨h1, _⟩ | ⟨G, m, f, cur, h1, h2, h3, _⟩⟩ := hr
  · cases h1
  · cases h1
    rw [h2] at h3
    simp at h3
theorem RingstringR.lt {h : Hp} {b slots : Nat} {g : Option Nat} {xs : List Value} (hr : RingstringR h b g slots xs) : b < h.size ∧ ∀ G, g = some G → G < h.size := by
  obtain ⟨_, _, ⟨rfl, _, h2⟩ | ⟨G, m, f, cur, rfl, h2, h3, _⟩⟩ := hr
  · exact ⟨hp_lt h2, by simp⟩
  · exact ⟨hp_lt h2, by intro G' hG; cases hG; exact hp_lt h3⟩
theorem RingstringR.keep {h h' : Hp} {b slots : Nat} {g : Option Nat} {xs : List Value} (hr : RingstringR h b g slots xs) {S : Nat → Prop} (hk : Keep S h h') (hb : ¬ S b) (hg : ∀ G, g = some G → ¬ S G) : RingstringR h' b g slots xs := by
  obtain ⟨h1, hs, ⟨rfl, h2, h3⟩ | ⟨G, m, f, cur, rfl, h2, h3, r⟩⟩ := hr
  · exact ⟨h1, hs, .inl ⟨rfl, h2, hk.get h3 hb⟩⟩
  · exact ⟨h1, hs, .inr ⟨G, m, f, cur, rfl, hk.get h2 hb, hk.get h3 (hg G rfl), r⟩⟩

section
variable {ω : Amb} {h : Hp} {b slots : Nat} {g : Option Nat} {xs : List Value}

theorem New_string (n : Int) (h : Hp) (hn : n ≤ 9223372036854775807) (X : List PanicEntry → Hp → Prop) :
    CallX Try.prog ω n_ring_New_string [.int .i64 n] h (fun v h' => v = .pointer (some ⟨h.size, 0, none⟩) ∧ h.size < h'.size ∧ Keep (fun _ => False) h h' ∧ RingstringR h' h.size none n.toNat []) X := by
  refine C_ring_New_string ω _ h _ X ?_
  unfold W_ring_New_string
  rw [asK_int]
  have hn : (if (0 : Int) > n then (0 : Int) else n) = (n.toNat : Int) := by split <;> omega
  rw [hn]
  exact ⟨rfl, by simp, Keep.push _ _, by simp, by omega, .inl ⟨rfl, rfl, hp_push_new⟩⟩

theorem Len_string (hr : RingstringR h b g slots xs) (X : List PanicEntry → Hp → Prop) :
    CallX Try.prog ω n_p_ring_Ring_string_Len [.pointer (some ⟨b, 0, none⟩)] h (fun v h' => v = .int .i64 xs.length ∧ h' = h) X := by
  refine C_p_ring_Ring_string_Len ω _ h _ X ?_
  unfold W_p_ring_Ring_string_Len
  obtain ⟨_, _, ⟨rfl, rfl, h2⟩ | ⟨G, m, f, cur, rfl, h2, h3, _⟩⟩ := hr <;>
  · simp [cellH_block h2]

theorem Full_string (hr : RingstringR h b g slots xs) (X : List PanicEntry → Hp → Prop) :
    CallX Try.prog ω n_p_ring_Ring_string_Full [.pointer (some ⟨b, 0, none⟩)] h (fun v h' => v = .bool (decide (0 < slots) && decide (xs.length = slots)) ∧ h' = h) X := by
  refine C_p_ring_Ring_string_Full ω _ h _ X ?_
  unfold W_p_ring_Ring_string_Full
  refine ⟨fun v h' => v = .bool (decide (0 < slots) && decide (xs.length = slots)) ∧ h' = h, ?_, fun _ _ _ hj => hj⟩
  obtain ⟨_, _, ⟨rfl, rfl, h2⟩ | ⟨G, m, f, cur, rfl, h2, h3, _⟩⟩ := hr <;>
  · simp only [cellH_block h2, ld]
    refine cond_t rfl (cond_c (fun hs => ?_) (fun hs => ⟨?_, trivial⟩))
    · have hs' : 0 < slots := by simpa using hs
      refine ⟨?_, trivial⟩
      simp only [hs', decide_true, Bool.true_and, Value.bool.injEq]
      rw [Bool.eq_iff_iff]
      simp <;> omega
    · have hs' : ¬ 0 < slots := by simpa using hs
      simp only [hs', decide_false, Bool.false_and]

theorem All_string (hr : RingstringR h b g slots xs) (hl : xs.length ≤ 1000000000) (X : List PanicEntry → Hp → Prop) :
    CallX Try.prog ω n_p_ring_Ring_string_All [.pointer (some ⟨b, 0, none⟩)] h (fun v h' => OwnH h' h.size 9 1 v xs.length xs ∧ Keep (fun _ => False) h h') X := by
  refine C_p_ring_Ring_string_All ω _ h _ X ?_
  unfold W_p_ring_Ring_string_All
  obtain ⟨hone, _, hr⟩ := hr
  have hb : ∃ f sl, h[b]? = some (.cells #[.int .i64 slots, .int .i64 (f : Nat), .int .i64 xs.length, sl] 48 (0, 0)) := by
    rcases hr with ⟨rfl, rfl, h2⟩ | ⟨G, m, f, cur, rfl, h2, _⟩
    · exact ⟨0, _, h2⟩
    · exact ⟨f, _, h2⟩
  obtain ⟨f0, sl0, hb⟩ := hb
  simp only [cellH_block hb, ld]
  refine cond_f rfl ⟨fun v t h' => ∃ k, k ≤ xs.length ∧ t = .int .i64 k ∧ OwnH h' h.size 9 1 v k (xs.take k) ∧ Keep (fun _ => False) h h',
    fun _ t _ => match t with | .int _ k => xs.length - k.toNat | _ => 0, ⟨0, Nat.zero_le _, rfl, by simpa using OwnH.nil, Keep.refl _ _⟩, ?_⟩
  rintro out t d h1 ⟨k, hk, rfl, hown, hkeep⟩
  simp only [asK_int]
  by_cases hlt : k < xs.length
  · rcases hr with ⟨rfl, rfl, h2⟩ | ⟨G, m, f, cur, rfl, h2, h3, hm, hf, hxm, hmb, hget⟩
    · simp at hlt
    · have g2 := hkeep.get h2 (by simp)
      have g3 := hkeep.get h3 (by simp)
      have hw : IntKind.wrap .i64 ((f : Int) + k) = ((f + k : Nat) : Int) := by rw [i64_in (by omega) (by omega)]; omega
      have hmod : Int.tmod ((f + k : Nat) : Int) (m : Int) = (((f + k) % m : Nat) : Int) := by rw [← Int.ofNat_tmod]
      have hmlt : (f + k) % m < m := Nat.mod_lt _ (by omega)
      have hx := hget k _ (List.getElem?_eq_getElem hlt)
      have hox := hone _ (List.getElem_mem hlt)
      have hdec : decide ((k : Int) < (xs.length : Int)) = true := by simpa using hlt
      have hw1 : IntKind.wrap .i64 ((k : Int) + 1) = ((k + 1 : Nat) : Int) := by rw [i64_in (by omega) (by omega)]; omega
      refine cond_t hdec ?_
      simp only [cellH_block g2, hw, hmod, ld]
      simp only [cellH_block g3, hx, Option.some.injEq, exists_eq_left']
      refine ⟨by omega, by omega, by omega, oneK_of hox ?_⟩
      refine appK_one (n := k) (cs := [xs[k]]) (show appFacts Try.prog 22 = some (9, 1, 16) by kernel_rfl) hown rfl (by simpa using hox) (by omega) (by omega) hkeep.size fun v' h2 ho hg _ _ => ?_
      rw [hw1]
      refine ⟨⟨k + 1, by omega, rfl, by rw [List.take_succ_eq_append_getElem hlt]; exact ho, ?_⟩, by simp; omega⟩
      refine hkeep.newer (Keep.grown hg fun i hi hlt => .inr (hown.lt i hi).1)
  · have hdec : decide ((k : Int) < (xs.length : Int)) = false := by simpa using hlt
    refine cond_f hdec ?_
    have : k = xs.length := by omega
    subst this
    exact ⟨by simpa using hown, hkeep⟩


/-- a ring with its buffer -/
def RingstringX (h : Hp) (b G m f : Nat) (cur : Array Value) (slots : Nat) (xs : List Value) : Prop :=
  h[b]? = some (.cells #[.int .i64 slots, .int .i64 (f : Nat), .int .i64 xs.length, .slice (some ⟨G, 0, none⟩) m m] 48 (0, 0)) ∧
     h[G]? = some (.cells cur 9 (0, 0)) ∧ cur.size = m ∧ f < m ∧ xs.length ≤ m ∧ m ≤ 1099511627776 ∧ ∀ i x, xs[i]? = some x → cur[(f + i) % m]? = some x
theorem RingstringX.ring {G m f : Nat} {cur : Array Value} (h1 : ∀ u ∈ xs, one u) (hs : slots ≤ 9223372036854775807) (hx : RingstringX h b G m f cur slots xs) : RingstringR h b (some G) slots xs :=
  ⟨h1, hs, .inr ⟨G, m, f, cur, rfl, hx⟩⟩
theorem RingstringX.ne {G m f : Nat} {cur : Array Value} (hx : RingstringX h b G m f cur slots xs) : b ≠ G := by
  rintro rfl
  have h2 := hx.1
  rw [hx.2.1] at h2
  simp at h2

theorem grow_string (hr : RingstringR h b g slots xs) (hl : xs.length ≤ 1000000000) (X : List PanicEntry → Hp → Prop) :
    CallX Try.prog ω n_p_ring_Ring_string_grow [.pointer (some ⟨b, 0, none⟩)] h (fun _ h' => ∃ G m f cur, RingstringX h' b G m f cur slots xs ∧ xs.length < m ∧ Keep (fun k => k = b) h h' ∧ (g = some G ∨ h.size ≤ G)) X := by
  refine C_p_ring_Ring_string_grow ω _ h _ X ?_
  unfold W_p_ring_Ring_string_grow
  have hb : ∃ (f : Nat) (sl : Value) (sa : Option Addr) (m : Nat), h[b]? = some (.cells #[.int .i64 slots, .int .i64 (f : Nat), .int .i64 xs.length, sl] 48 (0, 0)) ∧ sl = .slice sa m m ∧
      ((m : Nat) = 0 ∧ xs = [] ∨ ∃ G cur, g = some G ∧ sa = some ⟨G, 0, none⟩ ∧ RingstringX h b G m f cur slots xs) := by
    obtain ⟨_, _, ⟨rfl, rfl, h2⟩ | ⟨G, m, f, cur, rfl, h2, hx⟩⟩ := hr
    · exact ⟨0, _, _, _, h2, rfl, .inl ⟨rfl, rfl⟩⟩
    · exact ⟨f, _, _, _, h2, rfl, .inr ⟨G, cur, rfl, rfl, h2, hx⟩⟩
  obtain ⟨f, sl, sa, m, hb, rfl, hcase⟩ := hb
  simp only [cellH_block hb, ld]
  refine cond_c (fun hlt => ?_) (fun hlt => ?_)
  · rcases hcase with ⟨rfl, rfl⟩ | ⟨G, cur, rfl, rfl, hx⟩
    · simp at hlt
    · exact ⟨G, m, f, cur, hx, by simpa using hlt, Keep.refl _ _, .inl rfl⟩
  · have hn : IntKind.wrap .i64 (IntKind.wrap .i64 (2 * (xs.length : Int)) + 2) = ((2 * xs.length + 2 : Nat) : Int) := by
      rw [i64_in (n := 2 * (xs.length : Int)) (by omega) (by omega), i64_in (by omega) (by omega)]; omega
    rw [hn]
    refine makeK_of (show appFacts Try.prog 22 = some (9, 1, 16) by kernel_rfl) (z := [(.string ⟨#[]⟩)]) (show zeroOf Try.prog 9 = some [(.string ⟨#[]⟩)] by kernel_rfl) (by omega) (by omega) (by omega) ?_
    rw [zeroRow_one, Int.toNat_natCast]
    have k1 : Keep (fun _ => False) h (h.push (.cells (Array.replicate (2 * xs.length + 2) (.string ⟨#[]⟩)) 9 (0, 0))) := Keep.push _ _
    have r1 := hr.keep k1 (by simp) (by simp)
    refine CallX.use (All_string r1 hl) fun v h2 ⟨hown, k2⟩ => ?_
    have hbuf := k2.get (hp_push_new (h := h) (o := .cells (Array.replicate (2 * xs.length + 2) (.string ⟨#[]⟩)) 9 (0, 0))) (by simp)
    refine copyK_of (show appFacts Try.prog 22 = some (9, 1, 16) by kernel_rfl) hown (by omega) hr.1 hbuf (by simp; omega) ?_
    have hb2 := k2.get (k1.get hb (by simp)) (by simp)
    have hlt := hp_lt hb
    have hb3 := hp_set_ne (b := h.size) (o := .cells (spl (Array.replicate (2 * xs.length + 2) (.string ⟨#[]⟩)) 0 xs) 9 (0, 0)) hb2 (by omega)
    simp only [ld]
    refine storeK1_of hb3 (by simp) ?_
    simp only [st]
    refine storeK1_of (hp_set_same hb3) (by simp) ?_
    simp only [st]
    refine ⟨h.size, 2 * xs.length + 2, 0, spl (Array.replicate (2 * xs.length + 2) (.string ⟨#[]⟩)) 0 xs, ⟨?_, ?_, ?_, by omega, by omega, by omega, ?_⟩, by omega, ?_, .inr (Nat.le_refl _)⟩
    · exact hp_set_same (hp_set_same hb3)
    · exact hp_set_ne (hp_set_ne (hp_set_same hbuf) (by omega)) (by omega)
    · rw [spl_size (by simp; omega)]; simp
    · intro i x hx
      have hi : i < xs.length := by
        rcases Nat.lt_or_ge i xs.length with h' | h'
        · exact h'
        · rw [List.getElem?_eq_none h'] at hx; cases hx
      rw [Nat.zero_add, Nat.mod_eq_of_lt (by omega), spl_get (by simp; omega), if_neg (by omega), if_pos (by omega)]
      exact hx
    · exact ((((k1.mono (S' := fun k => k = b) (by simp)).trans (k2.mono (by simp))).newer (Keep.set _ (.inr (Nat.le_refl _)))).trans (Keep.set _ rfl)).trans (Keep.set _ rfl)

/-- what Put leaves: the thing at the end -/
theorem Put_string (hr : RingstringR h b g slots xs) (hl : xs.length ≤ 999999999) (x : Value) (hx1 : one x) (X : List PanicEntry → Hp → Prop) :
    CallX Try.prog ω n_p_ring_Ring_string_Put [.pointer (some ⟨b, 0, none⟩), x] h (fun v h' =>
      (0 < slots ∧ xs.length = slots → v = .bool false ∧ h' = h) ∧
      (¬ (0 < slots ∧ xs.length = slots) → v = .bool true ∧ ∃ G, RingstringR h' b (some G) slots (xs ++ [x]) ∧ Keep (fun k => k = b ∨ g = some k) h h' ∧ (g = some G ∨ h.size ≤ G))) X := by
  refine C_p_ring_Ring_string_Put ω _ _ h _ X ?_
  unfold W_p_ring_Ring_string_Put
  refine ⟨decide (0 < slots) && decide (xs.length = slots), ?_, fun _ => ?_⟩
  · simp only [asPo_ptr]
    exact cond_f rfl (CallX.use (Full_string hr) fun v h' ⟨e1, e2⟩ => ⟨e1, e2⟩)
  refine cond_c (fun hf => ?_) (fun hf => ?_)
  · simp only [Bool.and_eq_true, decide_eq_true_eq] at hf
    exact ⟨fun _ => ⟨rfl, rfl⟩, fun hn => absurd hf hn⟩
  · have hnf : ¬ (0 < slots ∧ xs.length = slots) := by simpa using hf
    refine CallX.use (grow_string hr (by omega)) fun _ h1 ⟨G, m, f, cur, hx, hlm, k1, hG⟩ => ?_
    obtain ⟨hb, hg, hcs, hfm, hxm, hmb, hget⟩ := id hx
    have hne := RingstringX.ne hx
    have hw : IntKind.wrap .i64 ((f : Int) + xs.length) = ((f + xs.length : Nat) : Int) := by rw [i64_in (by omega) (by omega)]; omega
    have hmod : Int.tmod ((f + xs.length : Nat) : Int) (m : Int) = (((f + xs.length) % m : Nat) : Int) := by rw [← Int.ofNat_tmod]
    have hmlt : (f + xs.length) % m < m := Nat.mod_lt _ (by omega)
    have hw1 : IntKind.wrap .i64 ((xs.length : Int) + 1) = (((xs ++ [x]).length : Nat) : Int) := by rw [i64_in (by omega) (by omega)]; simp
    simp only [cellH_block hb, hw, hmod, ld]
    refine ⟨by omega, by omega, by omega, oneK_of hx1 (storeK1_of hg (by omega) ?_)⟩
    have hb2 := hp_set_ne (b := G) (o := .cells (cur.setIfInBounds ((f + xs.length) % m) x) 9 (0, 0)) hb hne
    simp only [cellH_block hb2, hw1, ld]
    refine storeK1_of hb2 (by simp) ?_
    simp only [st]
    refine ⟨fun h' => absurd h' hnf, fun _ => ⟨trivial, G, ⟨?_, hr.2.1, .inr ⟨G, m, f, _, rfl, hp_set_same hb2, hp_set_ne (hp_set_same hg) (Ne.symm hne), by simpa using hcs, hfm, by simp; omega, hmb, ?_⟩⟩, ?_, hG⟩⟩
    · intro u hu
      rcases List.mem_append.1 hu with hu | hu
      · exact hr.1 u hu
      · simp at hu; rw [hu]; exact hx1
    · intro i y hy
      by_cases hi : i < xs.length
      · rw [List.getElem?_append_left hi] at hy
        rw [Array.getElem?_setIfInBounds_ne ?_]
        · exact hget i y hy
        · intro e
          have h3 : (f + xs.length) % m = (f + i) % m := e
          have h4 : (f + i) % m = if f + i < m then f + i else f + i - m := by
            split
            · exact Nat.mod_eq_of_lt ‹_›
            · rw [Nat.mod_eq_sub_mod (by omega), Nat.mod_eq_of_lt (by omega)]
          have h5 : (f + xs.length) % m = if f + xs.length < m then f + xs.length else f + xs.length - m := by
            split
            · exact Nat.mod_eq_of_lt ‹_›
            · rw [Nat.mod_eq_sub_mod (by omega), Nat.mod_eq_of_lt (by omega)]
          rw [h4, h5] at h3
          split at h3 <;> split at h3 <;> omega
      · have hi2 : i = xs.length := by
          rcases Nat.lt_or_ge i (xs ++ [x]).length with h' | h'
          · simp at h'; omega
          · rw [List.getElem?_eq_none h'] at hy; cases hy
        subst hi2
        simp at hy
        subst hy
        rw [Array.getElem?_setIfInBounds_self_of_lt (by omega)]
    · refine ((k1.mono (fun k _ hk => .inl hk)).newer (Keep.set _ ?_)).trans (Keep.set _ (.inl rfl))
      rcases hG with rfl | hG
      · exact .inl (.inr rfl)
      · exact .inr hG

/-- what Take leaves -/
theorem Take_string (hr : RingstringR h b g slots xs) (X : List PanicEntry → Hp → Prop) :
    CallX Try.prog ω n_p_ring_Ring_string_Take [.pointer (some ⟨b, 0, none⟩)] h (fun v h' =>
      (xs = [] → v = .tuple #[(.string ⟨#[]⟩), .bool false] ∧ h' = h) ∧
      (∀ x r, xs = x :: r → v = .tuple #[x, .bool true] ∧ RingstringR h' b g slots r ∧ Keep (fun k => k = b ∨ g = some k) h h')) X := by
  refine C_p_ring_Ring_string_Take ω _ h _ X ?_
  unfold W_p_ring_Ring_string_Take
  refine ⟨decide (xs.length = 0), ?_, fun _ => ?_⟩
  · obtain ⟨_, _, ⟨rfl, rfl, h2⟩ | ⟨G, m, f, cur, rfl, h2, _⟩⟩ := hr <;>
    · simp only [cellH_block h2, ld]
      refine cond_f rfl ⟨?_, trivial⟩
      first
        | rfl
        | (congr 1; rw [Bool.eq_iff_iff]; simp)
  cases xs with
  | nil => exact cond_t (by simp) ⟨fun _ => ⟨rfl, rfl⟩, by simp⟩
  | cons x r =>
    refine cond_f (by simp) ?_
    obtain ⟨hone, hsl, ⟨_, h1, _⟩ | ⟨G, m, f, cur, rfl, hb, hg, hcs, hfm, hxm, hmb, hget⟩⟩ := id hr
    · cases h1
    · have hne := RingstringR.ne hr
      have hx0 := hget 0 x rfl
      rw [Nat.add_zero, Nat.mod_eq_of_lt hfm] at hx0
      simp only [cellH_block hb, ld]
      simp only [cellH_block hg, hx0, Option.some.injEq, exists_eq_left']
      refine ⟨by omega, by omega, by omega, by omega, storeK1_of hg (by omega) ?_⟩
      have hb2 := hp_set_ne (b := G) (o := .cells (cur.setIfInBounds f (.string ⟨#[]⟩)) 9 (0, 0)) hb hne
      have hw : IntKind.wrap .i64 ((f : Int) + 1) = ((f + 1 : Nat) : Int) := by rw [i64_in (by omega) (by omega)]; omega
      have hmod : Int.tmod ((f + 1 : Nat) : Int) (m : Int) = (((f + 1) % m : Nat) : Int) := by rw [← Int.ofNat_tmod]
      simp only [cellH_block hb2, hw, hmod, ld]
      refine ⟨by omega, storeK1_of hb2 (by simp) ?_⟩
      simp only [st]
      have hb3 := hp_set_same (o := .cells #[.int .i64 slots, .int .i64 ((f + 1) % m : Nat), .int .i64 (x :: r).length, .slice (some ⟨G, 0, none⟩) m m] 48 (0, 0)) hb2
      have hw1 : IntKind.wrap .i64 (((x :: r).length : Nat) - 1 : Int) = ((r.length : Nat) : Int) := by rw [i64_in (by simp only [List.length_cons]; omega) (by omega)]; simp
      simp only [cellH_block hb3, hw1, ld]
      refine storeK1_of hb3 (by simp) ?_
      simp only [st]
      refine ⟨by simp, fun y s hy => ?_⟩
      cases hy
      refine ⟨rfl, ⟨fun u hu => hone u (List.mem_cons_of_mem _ hu), hsl, .inr ⟨G, m, (f + 1) % m, _, rfl, hp_set_same hb3, hp_set_ne (hp_set_ne (hp_set_same hg) (Ne.symm hne)) (Ne.symm hne), by simpa using hcs, Nat.mod_lt _ (by omega), by simp at hxm; omega, hmb, ?_⟩⟩, ?_⟩
      · intro i y hy
        have hi : i + 1 < m := by
          rcases Nat.lt_or_ge i r.length with h' | h'
          · simp at hxm; omega
          · rw [List.getElem?_eq_none h'] at hy; cases hy
        have hy2 := hget (i + 1) y (by simpa using hy)
        have e : ((f + 1) % m + i) % m = (f + (i + 1)) % m := by rw [Nat.mod_add_mod]; congr 1; omega
        rw [e, Array.getElem?_setIfInBounds_ne ?_]
        · exact hy2
        · intro e2
          have h4 : (f + (i + 1)) % m = if f + (i + 1) < m then f + (i + 1) else f + (i + 1) - m := by
            split
            · exact Nat.mod_eq_of_lt ‹_›
            · rw [Nat.mod_eq_sub_mod (by omega), Nat.mod_eq_of_lt (by omega)]
          rw [h4] at e2
          split at e2 <;> omega
      · exact ((Keep.set (S := fun k => k = b ∨ G = k) _ (.inr rfl)).trans (Keep.set _ (.inl rfl))).trans (Keep.set _ (.inl rfl))
end
end Go.Proofs.Ytihffbheockjkaa
