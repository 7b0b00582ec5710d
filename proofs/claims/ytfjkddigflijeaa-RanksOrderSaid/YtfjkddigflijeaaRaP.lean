/- Ranks: in plain. -/
import Derived.Test.YtfjkddigflijeaaPaP
namespace Go.Sx.Ra
open Go.Sx.Pa

abbrev Es := List (Nat × Nat)
def Ok (n : Nat) (es : Es) : Prop := ∀ e ∈ es, e.1 < n ∧ e.2 < n
/-- ranks that rise along all edges, no higher than they must -/
structure IsRk (n : Nat) (es : Es) (r : Nat → Nat) : Prop where
  up : ∀ a b, (a, b) ∈ es → r a < r b
  by_ : ∀ b, b < n → r b = 0 ∨ ∃ a, (a, b) ∈ es ∧ r b = r a + 1
theorem IsRk.le {n : Nat} {es : Es} {r s : Nat → Nat} (hr : IsRk n es r) (ho : Ok n es) (hs : ∀ a b, (a, b) ∈ es → s a < s b) : ∀ (q b : Nat), b < n → r b = q → r b ≤ s b := by
  intro q
  induction q using Nat.strongRecOn with
  | _ q ih =>
    intro b hb hq
    rcases hr.by_ b hb with h0 | ⟨a, ha, he⟩
    · omega
    · have h1 := hr.up a b ha
      have h2 := ih (r a) (by omega) a (ho _ ha).1 rfl
      have h3 := hs a b ha
      omega
theorem IsRk.same {n : Nat} {es : Es} {r s : Nat → Nat} (hr : IsRk n es r) (hs : IsRk n es s) (ho : Ok n es) {b : Nat} (hb : b < n) : r b = s b :=
  Nat.le_antisymm (hr.le ho hs.up _ b hb rfl) (hs.le ho hr.up _ b hb rfl)
/-- no number can rise along all edges -/
def NoRk (es : Es) : Prop := ∀ s : Nat → Nat, ¬ ∀ a b, (a, b) ∈ es → s a < s b

/-- who comes behind -/
def succ (n : Nat) (es : Es) (a : Nat) : List Nat := (List.range n).filter fun b => decide ((a, b) ∈ es)
theorem mem_succ {n : Nat} {es : Es} (ho : Ok n es) {a b : Nat} : b ∈ succ n es a ↔ (a, b) ∈ es := by
  unfold succ
  rw [List.mem_filter, List.mem_range, decide_eq_true_eq]
  exact ⟨fun h => h.2, fun h => ⟨(ho _ h).2, h⟩⟩
theorem succ_lt {n : Nat} {es : Es} {a b : Nat} (h : b ∈ succ n es a) : b < n := by
  unfold succ at h
  rw [List.mem_filter, List.mem_range] at h
  exact h.1
theorem succ_len (n : Nat) (es : Es) (a : Nat) : (succ n es a).length ≤ n := by
  unfold succ
  exact Nat.le_trans (List.length_filter_le _ _) (by simp)
theorem succ_up (n : Nat) (es : Es) (a : Nat) : (succ n es a).Pairwise (· < ·) := List.Pairwise.filter _ List.pairwise_lt_range

def vz (o : List Int) (k : Nat) : Int := o.getD k 0
theorem vz_set {o : List Int} {k : Nat} {v : Int} (hk : k < o.length) (j : Nat) : vz (o.set k v) j = if j = k then v else vz o j := by
  unfold vz
  rw [List.getD_eq_getElem?_getD, List.getD_eq_getElem?_getD]
  by_cases hj : j = k
  · subst hj
    rw [List.getElem?_set_self hk, if_pos rfl]
    rfl
  · rw [List.getElem?_set_ne (fun e => hj e.symm), if_neg hj]
theorem vz_at {o : List Int} {k : Nat} (hk : k < o.length) : o[k]? = some (vz o k) := by
  unfold vz
  rw [List.getD_eq_getElem?_getD, List.getElem?_eq_getElem hk]
  rfl
theorem vz_rep (n : Nat) (k : Nat) : vz (List.replicate n (0 : Int)) k = 0 := by
  unfold vz
  rw [List.getD_eq_getElem?_getD, List.getElem?_replicate]
  split <;> rfl

/-- how many that are ahead of b are not yet counted -/
def left (n : Nat) (S : Nat → List Nat) (C : Nat → Nat → Bool) (b : Nat) : Nat := (List.range n).countP fun a => decide (b ∈ S a) && !C a b
theorem countP_one {p q : Nat → Bool} {x : Nat} (hp : p x = true) (hq : q x = false) (he : ∀ a, a ≠ x → p a = q a) : ∀ {l : List Nat}, l.Nodup → x ∈ l → l.countP p = l.countP q + 1
  | a :: l, hn, hx => by
    rw [List.nodup_cons] at hn
    rw [List.countP_cons, List.countP_cons]
    by_cases hax : a = x
    · subst hax
      have : l.countP p = l.countP q := List.countP_congr fun y hy => by
        rw [he y (fun e => hn.1 (e ▸ hy))]
      rw [this, hp, hq]
      simp
    · have hx' : x ∈ l := by
        rcases List.mem_cons.1 hx with e | h
        · exact absurd e.symm hax
        · exact h
      have := countP_one hp hq he hn.2 hx'
      rw [he a hax]
      omega

theorem nodup_sub : ∀ {l m : List Nat}, l.Nodup → (∀ a ∈ l, a ∈ m) → l.length ≤ m.length
  | [], _, _, _ => Nat.zero_le _
  | a :: l, m, hn, hs => by
    rw [List.nodup_cons] at hn
    have ha := hs a (List.mem_cons_self ..)
    have h1 := nodup_sub (l := l) (m := m.erase a) hn.2 fun b hb => by
      have hba : b ≠ a := fun e => hn.1 (e ▸ hb)
      exact (List.mem_erase_of_ne hba).2 (hs b (List.mem_cons_of_mem _ hb))
    rw [List.length_erase_of_mem ha] at h1
    have := List.length_pos_of_mem ha
    simp only [List.length_cons]
    omega
structure Ka (n : Nat) (S : Nat → List Nat) (C : Nat → Nat → Bool) (pr q : List Nat) (o i : List Int) : Prop where
  leno : o.length = n
  leni : i.length = n
  cnt : ∀ b, b < n → vz i b = left n S C b
  con : ∀ a b, C a b = true → a ∈ pr
  prn : pr.Nodup
  prl : ∀ a ∈ pr, a < n ∧ vz i a = 0
  qn : q.Nodup
  qm : ∀ b, b ∈ q ↔ (b < n ∧ vz i b = 0 ∧ b ∉ pr)
  o1 : ∀ a b, C a b = true → b ∈ S a → vz o a + 1 ≤ vz o b
  o2 : ∀ b, b < n → vz o b = 0 ∨ ∃ a, C a b = true ∧ b ∈ S a ∧ vz o b = vz o a + 1
  ob : ∀ b, b < n → 0 ≤ vz o b ∧ vz o b ≤ (pr.length : Int)
theorem left_pos {n : Nat} {S : Nat → List Nat} {C : Nat → Nat → Bool} {a b : Nat} (ha : a < n) (hb : b ∈ S a) (hc : C a b = false) : 0 < left n S C b := by
  unfold left
  rw [List.countP_pos_iff]
  exact ⟨a, List.mem_range.2 ha, by simp [hb, hc]⟩
/-- one edge more is counted -/
theorem Ka.step {n : Nat} {S : Nat → List Nat} {C : Nat → Nat → Bool} {pr q : List Nat} {o i : List Int} (h : Ka n S C pr q o i) (hS : ∀ a b, b ∈ S a → b < n) {x k : Nat} (hx : x ∈ pr) (hk : k ∈ S x) (hc : C x k = false) {C' : Nat → Nat → Bool} (hC : ∀ a b, C' a b = (C a b || (decide (a = x) && decide (b = k)))) {m : Int} (hm : m = if vz o x + 1 > vz o k then vz o x + 1 else vz o k)
    (hpn : vz o x + 1 ≤ (pr.length : Int)) :
    Ka n S C' pr (if vz i k - 1 = 0 then q ++ [k] else q) (o.set k m) (i.set k (vz i k - 1)) := by
  have hkn := hS x k hk
  have hxn := (h.prl x hx).1
  have hlk := left_pos hxn hk hc
  have hik := h.cnt k hkn
  have hkp : k ∉ pr := fun hp => by
    have := (h.prl k hp).2
    omega
  have hkq : k ∉ q := fun hq => by
    have := ((h.qm k).1 hq).2.1
    omega
  have hxk : x ≠ k := fun e => hkp (e ▸ hx)
  have hvo := vz_set (o := o) (v := m) (by rw [h.leno]; exact hkn)
  have hvi := vz_set (o := i) (v := vz i k - 1) (by rw [h.leni]; exact hkn)
  have hleft : left n S C k = left n S C' k + 1 := by
    unfold left
    refine countP_one (x := x) ?_ ?_ (fun a ha => ?_) List.nodup_range (List.mem_range.2 hxn)
    · simp [hk, hc]
    · rw [hC]; simp
    · rw [hC]; simp [ha]
  have hleft2 : ∀ b, b ≠ k → left n S C' b = left n S C b := fun b hb => by
    unfold left
    refine List.countP_congr fun a _ => ?_
    rw [hC]
    simp [hb]
  have hobx := h.ob x hxn
  have hobk := h.ob k hkn
  refine ⟨by rw [List.length_set]; exact h.leno, by rw [List.length_set]; exact h.leni, fun b hb => ?_, fun a b hab => ?_, h.prn, fun a ha => ?_, ?_, fun b => ?_, fun a b hab hb => ?_, fun b hb => ?_, fun b hb => ?_⟩
  · rw [hvi]
    split
    · rename_i e
      subst e
      omega
    · rename_i e
      rw [hleft2 b e]
      exact h.cnt b hb
  · rw [hC] at hab
    rcases Bool.or_eq_true_iff.1 hab with h1 | h1
    · exact h.con a b h1
    · simp at h1
      rw [h1.1]
      exact hx
  · have hak : a ≠ k := fun e => hkp (e ▸ ha)
    rw [hvi, if_neg hak]
    exact h.prl a ha
  · split
    · rw [List.nodup_append]
      refine ⟨h.qn, by simp, fun a ha b hb => ?_⟩
      simp at hb
      subst hb
      exact fun e => hkq (e ▸ ha)
    · exact h.qn
  · rw [hvi]
    by_cases hbk : b = k
    · subst hbk
      rw [if_pos rfl]
      split
      · rename_i h0
        simp [h0, hkn, hkp]
      · rename_i h0
        simp [h0, hkq]
    · rw [if_neg hbk]
      split
      · rw [List.mem_append, List.mem_singleton, h.qm]
        simp [hbk]
      · exact h.qm b
  · have hak : a ≠ k := fun e => by
      have hap : a ∈ pr := by
        rw [hC] at hab
        rcases Bool.or_eq_true_iff.1 hab with h1 | h1
        · exact h.con a b h1
        · simp at h1
          rw [h1.1]
          exact hx
      exact hkp (e ▸ hap)
    rw [hvo, hvo, if_neg hak]
    rw [hC] at hab
    rcases Bool.or_eq_true_iff.1 hab with h1 | h1
    · have := h.o1 a b h1 hb
      split
      · rename_i e
        subst e
        split at hm <;> omega
      · exact this
    · simp at h1
      obtain ⟨rfl, rfl⟩ := h1
      rw [if_pos rfl]
      split at hm <;> omega
  · rw [hvo]
    split
    · rename_i e
      subst e
      split at hm
      · refine .inr ⟨x, by rw [hC]; simp, hk, ?_⟩
        rw [hvo, if_neg hxk, hm]
      · rcases h.o2 b hkn with h0 | ⟨a, h1, h2, h3⟩
        · exact .inl (by omega)
        · refine .inr ⟨a, by rw [hC, h1]; rfl, h2, ?_⟩
          have hab : a ≠ b := fun e => by rw [e] at h3; omega
          rw [hvo, if_neg hab]
          omega
    · rename_i e
      rcases h.o2 b hb with h0 | ⟨a, h1, h2, h3⟩
      · exact .inl h0
      · refine .inr ⟨a, by rw [hC, h1]; rfl, h2, ?_⟩
        have hak : a ≠ k := fun e => hkp (e ▸ h.con a b h1)
        rw [hvo, if_neg hak]
        exact h3
  · rw [hvo]
    split
    · split at hm <;> omega
    · exact h.ob b hb
/-- the next one's turn begins -/
theorem Ka.take {n : Nat} {S : Nat → List Nat} {C : Nat → Nat → Bool} {pr q : List Nat} {x : Nat} {o i : List Int} (h : Ka n S C pr (x :: q) o i) : Ka n S C (x :: pr) q o i ∧ vz o x + 1 ≤ (pr.length : Int) + 1 ∧ x < n ∧ x ∉ pr := by
  obtain ⟨h1, h2, h3⟩ := (h.qm x).1 (List.mem_cons_self ..)
  have hq := List.nodup_cons.1 h.qn
  have hb := h.ob x h1
  refine ⟨⟨h.leno, h.leni, h.cnt, fun a b hab => List.mem_cons_of_mem _ (h.con a b hab), List.nodup_cons.2 ⟨h3, h.prn⟩, fun a ha => ?_, hq.2, fun b => ?_, h.o1, h.o2, fun b hb => ?_⟩, by omega, h1, h3⟩
  · rcases List.mem_cons.1 ha with rfl | ha
    · exact ⟨h1, h2⟩
    · exact h.prl a ha
  · have := h.qm b
    rw [List.mem_cons] at this
    rw [List.mem_cons, not_or]
    by_cases hbx : b = x
    · subst hbx
      simp [hq.1]
    · simp only [hbx, false_or, not_false_eq_true, true_and] at this ⊢
      exact this
  · have := h.ob b hb
    simp
    omega
theorem Ka.done {n : Nat} {es : Es} (ho : Ok n es) {C : Nat → Nat → Bool} {pr : List Nat} {o i : List Int} (h : Ka n (succ n es) C pr [] o i) (hC : ∀ a b, a ∈ pr → b ∈ succ n es a → C a b = true) :
    pr.length ≤ n ∧ (pr.length = n → IsRk n es (fun b => (vz o b).toNat) ∧ ∀ b, b < n → 0 ≤ vz o b ∧ vz o b ≤ n) ∧ (pr.length < n → NoRk es) := by
  have hsub : ∀ a ∈ pr, a ∈ List.range n := fun a ha => List.mem_range.2 (h.prl a ha).1
  have hle : pr.length ≤ n := by
    have := nodup_sub h.prn hsub
    simpa using this
  refine ⟨hle, fun he => ?_, fun hlt s hs => ?_⟩
  · have hall : ∀ a, a < n → a ∈ pr := fun a ha => Classical.byContradiction fun hn => by
      have := nodup_sub (l := a :: pr) (m := List.range n) (List.nodup_cons.2 ⟨hn, h.prn⟩) fun b hb => by
        rcases List.mem_cons.1 hb with rfl | hb
        · exact List.mem_range.2 ha
        · exact hsub b hb
      simp at this
      omega
    refine ⟨⟨fun a b hab => ?_, fun b hb => ?_⟩, fun b hb => ?_⟩
    · have hv := ho _ hab
      have hm := (mem_succ ho).2 hab
      have h1 := h.o1 a b (hC a b (hall a hv.1) hm) hm
      have h2 := h.ob a hv.1
      omega
    · rcases h.o2 b hb with h0 | ⟨a, h1, h2, h3⟩
      · exact .inl (by omega)
      · have := h.ob a (ho _ ((mem_succ ho).1 h2)).1
        exact .inr ⟨a, (mem_succ ho).1 h2, by omega⟩
    · have := h.ob b hb
      omega
  · -- the least of those that are left has one ahead of it that is left
    have hex : ∃ b, b < n ∧ b ∉ pr := by
      refine Classical.byContradiction fun hno => ?_
      have hall : ∀ b ∈ List.range n, b ∈ pr := fun b hb => Classical.byContradiction fun hb' => hno ⟨b, List.mem_range.1 hb, hb'⟩
      have := nodup_sub List.nodup_range hall
      simp at this
      omega
    obtain ⟨b0, h0, h0'⟩ := hex
    have key : ∀ (m b : Nat), b < n → b ∉ pr → s b = m → False := by
      intro m
      induction m using Nat.strongRecOn with
      | _ m ih =>
        intro b hb hbp hsb
        have hnq : ¬ (b < n ∧ vz i b = 0 ∧ b ∉ pr) := fun hh => by
          have := (h.qm b).2 hh
          cases this
        have hib : vz i b ≠ 0 := fun e => hnq ⟨hb, e, hbp⟩
        have hl : 0 < left n (succ n es) C b := by
          have := h.cnt b hb
          omega
        unfold left at hl
        rw [List.countP_pos_iff] at hl
        obtain ⟨a, ha, hab⟩ := hl
        simp only [Bool.and_eq_true, decide_eq_true_eq, Bool.not_eq_true'] at hab
        have hap : a ∉ pr := fun hp => by
          have := hC a b hp hab.1
          rw [this] at hab
          cases hab.2
        have := hs a b ((mem_succ ho).1 hab.1)
        exact ih (s a) (by omega) a (List.mem_range.1 ha) hap rfl
    exact key _ b0 h0 h0' rfl
end Go.Sx.Ra
