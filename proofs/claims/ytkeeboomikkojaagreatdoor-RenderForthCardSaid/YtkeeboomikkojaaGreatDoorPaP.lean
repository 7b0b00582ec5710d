/- Ways: in plain. -/
import Derived.Test.YtkeeboomikkojaaGreatDoorSxMore
namespace Go.Sx.Pa

abbrev Code := List (Int × Int)
/-- what may come behind, in range or not -/
def cand (L : Code) (i : Nat) : List Int :=
  match L[i]? with
  | none => []
  | some x => if x.1 = 17 then [] else if x.1 = 15 then [x.2] else if x.1 = 14 ∨ x.1 = 13 ∨ x.1 = 11 then [(i : Int) + 1, x.2] else [(i : Int) + 1]
def nexts (L : Code) (i : Nat) : List Nat := (List.range L.length).filter fun (k : Nat) => decide ((k : Int) ∈ cand L i)
def inR (L : Code) (i : Int) : Bool := decide (0 ≤ i) && decide (i < (L.length : Int))
def comes (L : Code) (i k : Int) : Bool := inR L i && inR L k && decide (k ∈ cand L i.toNat)
def E (L : Code) (i k : Nat) : Prop := k ∈ nexts L i
theorem E_lt {L : Code} {i k : Nat} (h : E L i k) : i < L.length ∧ k < L.length := by
  unfold E nexts at h
  rw [List.mem_filter, List.mem_range] at h
  refine ⟨?_, h.1⟩
  have h2 := of_decide_eq_true h.2
  unfold cand at h2
  rcases Nat.lt_or_ge i L.length with hl | hl
  · exact hl
  · rw [List.getElem?_eq_none hl] at h2
    cases h2
/-! ### how far -/
inductive Dst (N : Nat → List Nat) (a : Nat) : Nat → Nat → Prop
  | nil : Dst N a a 0
  | step {b c d : Nat} : Dst N a b d → c ∈ N b → Dst N a c (d + 1)
/-- each one's distance of the nearest way, if there is one -/
def IsD (N : Nat → List Nat) (n : Nat) (a : Int) (D : Nat → Option Nat) : Prop :=
  ∀ k : Nat, match D k with
    | some d => (∃ an : Nat, a = an ∧ an < n ∧ Dst N an k d) ∧ ∀ an d' : Nat, a = an → an < n → Dst N an k d' → d ≤ d'
    | none => ∀ an d' : Nat, a = an → an < n → ¬ Dst N an k d'
theorem IsD.some_ {N : Nat → List Nat} {n : Nat} {a : Int} {D : Nat → Option Nat} (h : IsD N n a D) {k d : Nat} (hd : D k = some d) : (∃ an : Nat, a = an ∧ an < n ∧ Dst N an k d) ∧ ∀ an d' : Nat, a = an → an < n → Dst N an k d' → d ≤ d' := by
  have := h k
  rw [hd] at this
  exact this
theorem IsD.none_ {N : Nat → List Nat} {n : Nat} {a : Int} {D : Nat → Option Nat} (h : IsD N n a D) {k : Nat} (hd : D k = none) : ∀ an d' : Nat, a = an → an < n → ¬ Dst N an k d' := by
  have := h k
  rw [hd] at this
  exact this
theorem IsD.of {N : Nat → List Nat} {n : Nat} {a : Int} {D : Nat → Option Nat} (h : IsD N n a D) {an k d' : Nat} (ha : a = an) (hn : an < n) (hw : Dst N an k d') : ∃ d, D k = some d ∧ d ≤ d' := by
  cases hd : D k with
  | none => exact absurd hw (h.none_ hd an d' ha hn)
  | some d => exact ⟨d, rfl, (h.some_ hd).2 an d' ha hn hw⟩

/-! ### breadth first -/
def val (o : List Int) (k : Nat) : Int := o.getD k (-1)
theorem val_set {o : List Int} {k : Nat} {v : Int} (hk : k < o.length) (j : Nat) : val (o.set k v) j = if j = k then v else val o j := by
  unfold val
  rw [List.getD_eq_getElem?_getD, List.getD_eq_getElem?_getD]
  by_cases hj : j = k
  · subst hj
    rw [List.getElem?_set_self hk, if_pos rfl]
    rfl
  · rw [List.getElem?_set_ne (fun e => hj e.symm), if_neg hj]
def seen (o : List Int) : Nat := o.countP fun v => decide (0 ≤ v)
theorem seen_le (o : List Int) : seen o ≤ o.length := List.countP_le_length
theorem seen_set : ∀ {o : List Int} {k : Nat} {v : Int}, k < o.length → val o k < 0 → 0 ≤ v → seen (o.set k v) = seen o + 1
  | x :: o, 0, v, _, h1, h2 => by
    have : x < 0 := h1
    simp only [seen, List.set_cons_zero, List.countP_cons, decide_eq_true h2, decide_eq_false (by omega : ¬ 0 ≤ x)]
    simp
  | x :: o, k + 1, v, hk, h1, h2 => by
    have := seen_set (o := o) (k := k) (v := v) (by simpa using hk) h1 h2
    simp only [seen, List.set_cons_succ, List.countP_cons] at *
    omega

structure Bf (N : Nat → List Nat) (a n : Nat) (o : List Int) (q dn : List Nat) : Prop where
  len : o.length = n
  inq : ∀ x ∈ q, 0 ≤ val o x
  src : ∀ k, 0 ≤ val o k → ∃ d : Nat, val o k = d ∧ Dst N a k d
  root : val o a = 0
  done : ∀ i, 0 ≤ val o i → i ∉ q → ∀ k ∈ N i, 0 ≤ val o k ∧ val o k ≤ val o i + 1
  head : ∀ x r, q = x :: r → (∀ k ∈ dn, 0 ≤ val o k ∧ val o k ≤ val o x + 1) ∧ (∀ k, val o k ≤ val o x + 1)
  sorted : q.Pairwise fun x y => val o x ≤ val o y
  cnt : ∀ k, val o k + 1 ≤ seen o
theorem Bf.start {N : Nat → List Nat} {a n : Nat} (ha : a < n) : Bf N a n ((List.replicate n (-1)).set a 0) [a] [] := by
  have hl : a < (List.replicate n (-1 : Int)).length := by simpa using ha
  have hv : ∀ j, val ((List.replicate n (-1 : Int)).set a 0) j = if j = a then 0 else -1 := fun j => by
    rw [val_set hl]
    split
    · rfl
    · unfold val
      rw [List.getD_eq_getElem?_getD, List.getElem?_replicate]
      split <;> rfl
  have hs : seen ((List.replicate n (-1 : Int)).set a 0) = 1 := by
    have hv0 : val (List.replicate n (-1 : Int)) a < 0 := by
      unfold val
      rw [List.getD_eq_getElem?_getD, List.getElem?_replicate, if_pos ha]
      decide
    rw [seen_set hl hv0 (by decide)]
    have : seen (List.replicate n (-1 : Int)) = 0 := by
      unfold seen
      rw [List.countP_eq_zero]
      intro v hv
      rw [List.mem_replicate] at hv
      rw [hv.2]
      decide
    omega
  refine ⟨by simp, fun x hx => ?_, fun k hk => ?_, by rw [hv]; simp, fun i hi hn => ?_, fun x r he => ?_, by simp, fun k => ?_⟩
  · simp at hx
    rw [hv, if_pos hx]
    decide
  · rw [hv] at hk ⊢
    split at hk
    · rename_i e
      subst e
      rw [if_pos rfl]
      exact ⟨0, rfl, .nil⟩
    · omega
  · rw [hv] at hi
    split at hi
    · rename_i e
      exact absurd (by simp [e]) hn
    · omega
  · cases he
    refine ⟨by simp, fun k => ?_⟩
    rw [hv, hv, if_pos rfl]
    split <;> omega
  · rw [hv, hs]
    split <;> omega
theorem Bf.new {N : Nat → List Nat} {a n : Nat} {o : List Int} {x : Nat} {r dn : List Nat} (b : Bf N a n o (x :: r) dn) {k : Nat} (hk : k < n) (hn : val o k < 0) (hkx : k ∈ N x) : Bf N a n (o.set k (val o x + 1)) (x :: r ++ [k]) (dn ++ [k]) := by
  have hx := b.inq x (List.mem_cons_self ..)
  have hl : k < o.length := by rw [b.len]; exact hk
  have hv := val_set (v := val o x + 1) hl
  obtain ⟨h1, h2⟩ := b.head x r rfl
  have hxk : x ≠ k := fun e => by rw [e] at hx; omega
  refine ⟨by rw [List.length_set]; exact b.len, fun y hy => ?_, fun j hj => ?_, ?_, fun i hi hni => ?_, fun y s he => ?_, ?_, fun j => ?_⟩
  · rw [hv]
    split
    · omega
    · rename_i hne
      rcases List.mem_append.1 hy with hy | hy
      · exact b.inq y hy
      · simp at hy
        exact absurd hy hne
  · rw [hv] at hj ⊢
    split
    · rename_i e
      subst e
      obtain ⟨d, h3, h4⟩ := b.src x hx
      exact ⟨d + 1, by rw [h3]; simp, .step h4 hkx⟩
    · rename_i hne
      rw [if_neg hne] at hj
      exact b.src j hj
  · rw [hv, if_neg (fun e => by have := b.root; rw [e] at this; omega)]
    exact b.root
  · rw [hv] at hi
    have hik : i ≠ k := fun e => hni (by rw [e]; simp)
    rw [if_neg hik] at hi
    intro j hj
    obtain ⟨h3, h4⟩ := b.done i hi (fun hq => hni (List.mem_append_left _ hq)) j hj
    have hjk : j ≠ k := fun e => by rw [e] at h3; omega
    rw [hv, hv, if_neg hjk, if_neg hik]
    exact ⟨h3, h4⟩
  · cases he
    rw [hv x, if_neg hxk]
    refine ⟨fun j hj => ?_, fun j => ?_⟩
    · rcases List.mem_append.1 hj with hj | hj
      · obtain ⟨h3, h4⟩ := h1 j hj
        rw [hv, if_neg (fun e => by rw [e] at h3; omega)]
        exact ⟨h3, h4⟩
      · simp at hj
        subst hj
        rw [hv, if_pos rfl]
        omega
    · rw [hv]
      split
      · omega
      · exact h2 j
  · rw [List.pairwise_append]
    refine ⟨?_, by simp, fun y hy z hz => ?_⟩
    · refine List.Pairwise.imp_of_mem (fun {y z} hy hz hyz => ?_) b.sorted
      have hy' := b.inq y hy
      have hz' := b.inq z hz
      rw [hv, hv, if_neg (fun e => by rw [e] at hy'; omega), if_neg (fun e => by rw [e] at hz'; omega)]
      exact hyz
    · simp at hz
      subst hz
      have hy' := b.inq y hy
      rw [hv, hv, if_pos rfl, if_neg (fun e => by rw [e] at hy'; omega)]
      exact h2 y
  · rw [seen_set hl hn (by omega), hv]
    split
    · have := b.cnt x
      omega
    · have := b.cnt j
      omega
def dist (o : List Int) (k : Nat) : Option Nat := if 0 ≤ val o k then some (val o k).toNat else none
theorem Bf.fin {N : Nat → List Nat} {a n : Nat} {o : List Int} (ha : a < n) (b : Bf N a n o [] []) : IsD N n (a : Int) (dist o) ∧ ∀ k d, dist o k = some d → d < n := by
  have hw : ∀ {k d : Nat}, Dst N a k d → 0 ≤ val o k ∧ val o k ≤ d := fun {k d} h => by
    induction h with
    | nil => rw [b.root]; omega
    | step _ hc ih =>
      obtain ⟨h1, h2⟩ := ih
      have := b.done _ h1 (by simp) _ hc
      omega
  refine ⟨fun k => ?_, fun k d hd => ?_⟩
  · unfold dist
    by_cases hk : 0 ≤ val o k
    · rw [if_pos hk]
      obtain ⟨d, h1, h2⟩ := b.src k hk
      refine ⟨⟨a, rfl, ha, by rw [h1]; exact h2⟩, fun an d' ha' _ hw' => ?_⟩
      obtain rfl : a = an := by omega
      have := hw hw'
      omega
    · rw [if_neg hk]
      intro an d' ha' _ hw'
      obtain rfl : a = an := by omega
      exact hk (hw hw').1
  · unfold dist at hd
    split at hd
    · cases hd
      have := b.cnt k
      have := seen_le o
      have := b.len
      omega
    · cases hd
/-! ### nearer and nearer -/
def farOff : Int := 1073741824
structure Rx (N : Nat → List Nat) (n : Nat) (a : Int) (o : List Int) : Prop where
  len : o.length = n
  pos : ∀ k, k < n → 0 ≤ val o k ∧ val o k ≤ farOff
  src : ∀ k, k < n → val o k < farOff → ∃ an d : Nat, a = an ∧ an < n ∧ val o k = d ∧ Dst N an k d
  root : ∀ an : Nat, a = an → an < n → val o an = 0
theorem Rx.fin {N : Nat → List Nat} {n : Nat} {a : Int} {o : List Int} (r : Rx N n a o) (hfix : ∀ k i, i ∈ N k → val o i ≤ val o k + 1) {D : Nat → Option Nat} (hD : IsD N n a D) (hb : ∀ k d, D k = some d → d < n) (hn : n ≤ 300) :
    ∀ k, k < n → val o k = match D k with | some d => (d : Int) | none => farOff := by
  have hw : ∀ {an k d : Nat}, a = an → an < n → Dst N an k d → val o k ≤ d := fun {an k d} ha han h => by
    induction h with
    | nil => rw [r.root an ha han]; exact Int.le_refl _
    | step _ hc ih =>
      have := hfix _ _ hc
      omega
  intro k hk
  cases hd : D k with
  | some d =>
    obtain ⟨⟨an, h1, h2, h3⟩, h4⟩ := hD.some_ hd
    have h5 := hw h1 h2 h3
    have h6 := hb k d hd
    obtain ⟨an', d', h7, h8, h9, h10⟩ := r.src k hk (by unfold farOff; omega)
    have := h4 an' d' h7 h8 h10
    simp only
    omega
  | none =>
    have h1 := r.pos k hk
    simp only
    by_cases hlt : val o k < farOff
    · obtain ⟨an, d, h2, h3, _, h4⟩ := r.src k hk hlt
      exact absurd h4 (hD.none_ hd an d h2 h3)
    · omega

/-! ### the way -/
def behind (L : Code) (k : Nat) : List Nat := (List.range L.length).filter fun i => decide (k ∈ nexts L i)
theorem mem_behind {L : Code} {i k : Nat} : i ∈ behind L k ↔ E L i k := by
  unfold behind
  rw [List.mem_filter, List.mem_range, decide_eq_true_eq]
  exact ⟨fun h => h.2, fun h => ⟨(E_lt h).1, h⟩⟩
theorem IsD.lt {L : Code} {a : Int} {D : Nat → Option Nat} (hD : IsD (behind L) L.length a D) {i d : Nat} (hi : D i = some d) : i < L.length := by
  obtain ⟨⟨an, h1, h2, h3⟩, _⟩ := hD.some_ hi
  cases h3 with
  | nil => exact h2
  | step _ hc => exact (E_lt (mem_behind.1 hc)).1
end Go.Sx.Pa
