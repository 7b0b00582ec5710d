/- Tokens of a text that is cut off: in plain. -/
import Derived.Test.YtkeeboomikkojaaGreatDoorRnA
import Derived.Test.YtkeeboomikkojaaGreatDoorRx4
import Derived.Test.YtkeeboomikkojaaGreatDoorRy1
import Derived.Test.YtkeeboomikkojaaGreatDoorRn1
namespace Go.Sx.Tk
variable {eT eN eM : Int}

theorem run_cut : ∀ (l : List UInt8) (j : Nat), run (l.take j) = min j (run l)
  | [], j => by rw [List.take_nil]; show (0 : Nat) = min j 0; omega
  | c :: l, 0 => by rw [List.take_zero]; show (0 : Nat) = min 0 _; omega
  | c :: l, j + 1 => by
    rw [List.take_succ_cons, run_cons, run_cons, run_cut l j]
    split <;> omega
theorem blanks_cut : ∀ (r : Bool) (l : List UInt8) (j : Nat), blanks r (l.take j) = min j (blanks r l)
  | r, [], j => by rw [List.take_nil]; show (0 : Nat) = min j 0; omega
  | r, c :: l, 0 => by rw [List.take_zero]; show (0 : Nat) = min 0 _; omega
  | r, c :: l, j + 1 => by
    have h1 := blanks_cut false l j
    have h2 := blanks_cut r l j
    have h3 := blanks_cut true l j
    rw [List.take_succ_cons]
    simp only [blanks, h1, h2, h3]
    split
    · omega
    split
    · omega
    split <;> omega
theorem oneL_full {c : UInt8} {r : List UInt8} {kind n : Int} {len j : Nat} (h : oneL eT eN eM (c :: r) = .tok kind len n) (hj : len ≤ j) : oneL eT eN eM ((c :: r).take j) = .tok kind len n := by
  have hp := oneL_len h
  obtain ⟨j, rfl⟩ : ∃ i, j = i + 1 := ⟨j - 1, by omega⟩
  have hr : (∀ x, len = x → x = run (c :: r) → run (c :: r.take j) = run (c :: r)) := fun x h1 h2 => by
    have := run_cut (c :: r) (j + 1)
    rw [List.take_succ_cons] at this
    omega
  have ht : (∀ x, len = x → x = run (c :: r) → (c :: r.take j).take (run (c :: r)) = (c :: r).take (run (c :: r))) := fun x h1 h2 => by
    rw [← List.take_succ_cons, List.take_take]
    congr 1
    omega
  rw [List.take_succ_cons]
  unfold oneL at h ⊢
  simp only at h ⊢
  split at h
  · rename_i hc
    rw [if_pos hc]
    have hl : len = run (c :: r) := by
      split at h
      · cases h; rfl
      split at h
      · cases h
      · cases h; rfl
    rw [hr _ rfl hl, ht _ rfl hl]
    exact h
  rename_i hc
  rw [if_neg hc]
  split at h
  · rename_i hd
    rw [if_pos hd]
    have hl : len = run (c :: r) := by
      split at h
      · cases h
      · cases h; rfl
    rw [hr _ rfl hl, ht _ rfl hl]
    exact h
  rename_i hd
  rw [if_neg hd]
  split at h
  · rename_i he
    rw [if_pos he]
    cases r with
    | nil =>
      rw [List.take_nil]
      exact h
    | cons d r =>
      cases j with
      | zero =>
        rw [List.take_zero]
        simp only at h ⊢
        split at h
        · cases h
          omega
        · exact h
      | succ j => exact h
  · rename_i he
    rw [if_neg he]
    exact h
theorem oneL_part {c : UInt8} {r : List UInt8} {kind n : Int} {len j : Nat} (h : oneL eT eN eM (c :: r) = .tok kind len n) (h0 : 0 < j) (hj : j < len) :
    c.toNat ≠ 125 ∧ ((∃ e, oneL eT eN eM ((c :: r).take j) = .bad e) ∨ ∃ k n, oneL eT eN eM ((c :: r).take j) = .tok k j n) := by
  obtain ⟨j, rfl⟩ : ∃ i, j = i + 1 := ⟨j - 1, by omega⟩
  have hr : len = run (c :: r) → run (c :: r.take j) = j + 1 := fun h1 => by
    have := run_cut (c :: r) (j + 1)
    rw [List.take_succ_cons] at this
    omega
  rw [List.take_succ_cons]
  unfold oneL at h ⊢
  simp only at h ⊢
  split at h
  · rename_i hc
    rw [if_pos hc]
    have hl : len = run (c :: r) := by
      split at h
      · cases h; rfl
      split at h
      · cases h
      · cases h; rfl
    rw [hr hl]
    refine ⟨fun h => ?_, ?_⟩
    · simp [lo, h] at hc
    split
    · exact .inr ⟨_, _, rfl⟩
    split
    · exact .inl ⟨_, rfl⟩
    · exact .inr ⟨_, _, rfl⟩
  rename_i hc
  rw [if_neg hc]
  split at h
  · rename_i hd
    rw [if_pos hd]
    have hl : len = run (c :: r) := by
      split at h
      · cases h
      · cases h; rfl
    rw [hr hl]
    refine ⟨fun h => ?_, ?_⟩
    · simp [dg, h] at hd
    split
    · exact .inl ⟨_, rfl⟩
    · exact .inr ⟨_, _, rfl⟩
  rename_i hd
  rw [if_neg hd]
  split at h
  · rename_i he
    rw [if_pos he]
    refine ⟨by omega, .inr ?_⟩
    have hl : len ≤ 2 := by
      split at h
      · split at h <;> cases h <;> omega
      · cases h; omega
    obtain rfl : j = 0 := by omega
    rw [List.take_zero]
    exact ⟨_, _, rfl⟩
  · split at h
    · cases h
      omega
    · cases h
/-- what a cut text's scan has, by that of the whole -/
def Cut (ts : List Tok) (a : Int) (m : Nat) (res : Res) : Prop :=
  (∃ x, res = .error x) ∨ (∃ k, res = .ok (ts.take k) ∧ ((∃ t ∈ ts, a + m ≤ t.at_) → k < ts.length)) ∨ (∃ k t, res = .ok (ts.take k ++ [t]) ∧ t.text ≠ ⟨#[125]⟩)
theorem Cut.cons {t : Tok} {ts : List Tok} {a a' : Int} {m m' : Nat} {res : Res} (h : Cut ts a' m' res) (he : a' + m' = a + m) (ht : t.at_ < a + m) : Cut (t :: ts) a m (prep [t] res) := by
  rcases h with ⟨x, rfl⟩ | ⟨k, rfl, h⟩ | ⟨k, u, rfl, h⟩
  · exact .inl ⟨x, rfl⟩
  · refine .inr (.inl ⟨k + 1, rfl, ?_⟩)
    rintro ⟨u, hu, h2⟩
    rcases List.mem_cons.1 hu with rfl | hu
    · omega
    · have := h ⟨u, hu, by omega⟩
      simp only [List.length_cons]
      omega
  · exact .inr (.inr ⟨k + 1, u, rfl, h⟩)
theorem Scans.nil {a : Int} {res : Res} (h : Scans eT eN eM [] a res) : res = .ok [] := by
  have k : Scans eT eN eM [] a (.ok []) := .stop rfl
  exact h.same k
theorem Scans.cut {l : List UInt8} {a : Int} {ra : Res} (h : Scans eT eN eM l a ra) : ∀ ts, ra = .ok ts → ∀ (m : Nat) (res : Res), Scans eT eN eM (l.take m) a res → Cut ts a m res := by
  induction h with
  | @stop l a h1 =>
    rintro ts ⟨⟩ m res hc
    have hb : (l.take m).drop (blanks false (l.take m)) = [] := by
      have h2 := congrArg List.length h1
      have h3 := blanks_le false l
      rw [List.length_drop, List.length_nil] at h2
      rw [blanks_cut]
      refine List.drop_eq_nil_of_le ?_
      rw [List.length_take]
      omega
    obtain rfl := hc.same (.stop hb)
    exact .inr (.inl ⟨0, rfl, fun ⟨t, ht, _⟩ => by cases ht⟩)
  | bad _ _ => rintro ts ⟨⟩
  | fail _ _ _ _ => rintro ts ⟨⟩
  | @tok l r a c kind len n ts h1 e1 k1 ih =>
    rintro _ ⟨⟩ m res hc
    have hlen := oneL_len e1
    have hll := congrArg List.length h1
    rw [List.length_drop] at hll
    by_cases hm : m ≤ blanks false l
    · have hb : (l.take m).drop (blanks false (l.take m)) = [] := by
        rw [blanks_cut]
        refine List.drop_eq_nil_of_le ?_
        rw [List.length_take]
        omega
      obtain rfl := hc.same (.stop hb)
      exact .inr (.inl ⟨0, rfl, fun _ => by simp⟩)
    · obtain ⟨j, rfl⟩ : ∃ j, m = blanks false l + (j + 1) := ⟨m - blanks false l - 1, by omega⟩
      have hbl : blanks false (l.take (blanks false l + (j + 1))) = blanks false l := by rw [blanks_cut]; omega
      have hd : (l.take (blanks false l + (j + 1))).drop (blanks false (l.take (blanks false l + (j + 1)))) = c :: r.take j := by
        rw [hbl, List.drop_take, h1, show blanks false l + (j + 1) - blanks false l = j + 1 by omega, List.take_succ_cons]
      by_cases hj : len ≤ j + 1
      · have hone := oneL_full e1 hj
        rw [List.take_succ_cons] at hone
        have htk : (c :: r.take j).take len = (c :: r).take len := by
          rw [← List.take_succ_cons, List.take_take, Nat.min_eq_left hj]
        have hdr : (c :: r.take j).drop len = ((c :: r).drop len).take (j + 1 - len) := by
          rw [← List.take_succ_cons, List.drop_take]
        generalize hl' : l.take (blanks false l + (j + 1)) = l' at hc hd hbl
        have hat : a + (blanks false l : Nat) + (len : Nat) + ((j + 1 - len : Nat) : Int) = a + ((blanks false l + (j + 1) : Nat) : Int) := by omega
        cases hc with
        | stop h2 => rw [hd] at h2; cases h2
        | bad h2 e2 =>
          rw [hd] at h2
          cases h2
          rw [hone] at e2
          cases e2
        | fail h2 e2 k2 => exact .inl ⟨_, rfl⟩
        | tok h2 e2 k2 =>
          rw [hd] at h2
          cases h2
          rw [hone] at e2
          cases e2
          rw [hdr, hbl] at k2
          rw [htk, hbl]
          exact (ih _ rfl _ _ k2).cons hat (by simp only; omega)
      · obtain ⟨hc125, hone⟩ := oneL_part e1 (Nat.succ_pos j) (by omega)
        rw [List.take_succ_cons] at hone
        generalize hl' : l.take (blanks false l + (j + 1)) = l' at hc hd hbl
        cases hc with
        | stop h2 => rw [hd] at h2; cases h2
        | bad h2 e2 => exact .inl ⟨_, rfl⟩
        | fail h2 e2 k2 => exact .inl ⟨_, rfl⟩
        | tok h2 e2 k2 =>
          rw [hd] at h2
          cases h2
          rcases hone with ⟨e, he⟩ | ⟨k', n', he⟩
          · rw [he] at e2
            cases e2
          · rw [he] at e2
            cases e2
            rw [List.drop_eq_nil_of_le (by rw [← List.take_succ_cons, List.length_take]; omega)] at k2
            cases k2.nil
            refine .inr (.inr ⟨0, _, rfl, ?_⟩)
            simp only
            intro hx
            have hx := congrArg ByteArray.data hx
            have hx := congrArg Array.toList hx
            simp only [List.take_succ_cons] at hx
            have := (List.cons.inj hx).1
            rw [this] at hc125
            exact hc125 rfl
end Go.Sx.Tk

namespace Go.Proofs.YtkeeboomikkojaaGreatDoor
open Go Go.Sx Go.Sx.Tk Go.Sx.Rn Go.Proofs.YtkeeboomikkojaaGreatDoor.Sx

def PrG (h' : Hp) (v : Value) (c a : Int) : Except (Int × Int) (List Sg) → Prop
  | .ok p => c = 0 ∧ a = 0 ∧ SgS h' v p
  | .error x => c = x.1 ∧ a = x.2 ∧ v = .slice none 0 0
theorem PrG.keep {h h' : Hp} {v : Value} {c a : Int} {res : Except (Int × Int) (List Sg)} (hp : PrG h v c a res) (k : Keep (fun _ => False) h h') : PrG h' v c a res := by
  cases res with
  | ok p => exact ⟨hp.1, hp.2.1, hp.2.2.keep k⟩
  | error x => exact hp
theorem PrG.isSl {h : Hp} {v : Value} {c a : Int} {res : Except (Int × Int) (List Sg)} (hp : PrG h v c a res) : isSl v := by
  cases res with
  | ok p => exact SgS.isSl hp.2.2
  | error x =>
    rw [hp.2.2]
    exact ⟨_, _, _, rfl⟩
theorem two_res {h : Hp} {r : Value} {res : Except (Int × Int) (List Sg)} (hr : PsR h r res) {K : Hp → Prop}
    (hK : ∀ (h' : Hp) (v : Value) (c a : Int), Keep (fun _ => False) h h' → h'.size = h.size + 2 → h'[h.size]? = some (.cells [v].toArray 24 (0, 0)) → h'[h.size + 1]? = some (.cells (flt c a).toArray 28 (0, 0)) → PrG h' v c a res → K h') :
    asT r fun T9 => asO T9[0]? fun v10 => asT r fun T11 => asO T11[1]? fun v12 => asA v10 fun A13 => A13.size = 1 ∧ (∀ u ∈ A13.toList, one u) ∧ storeK (Array.push (Array.push h (.cells #[(.slice none 0 0)] 24 (0, 0))) (.cells #[(.int .i64 0), (.int .i64 0)] 28 (0, 0))) ⟨Array.size h, 0, none⟩ A13.toList fun h14 =>
      asA v12 fun A15 => A15.size = 2 ∧ (∀ u ∈ A15.toList, one u) ∧ storeK h14 ⟨Array.size (Array.push h (.cells #[(.slice none 0 0)] 24 (0, 0))), 0, none⟩ A15.toList fun h16 => K h16 := by
  obtain ⟨v, c, a, rfl, hg⟩ : ∃ v c a, r = .tuple #[.agg #[v], .agg (flt c a).toArray] ∧ PrG h v c a res := by
    cases res with
    | ok p =>
      obtain ⟨_, rfl, w, rfl, hs⟩ := hr
      exact ⟨w, 0, 0, rfl, rfl, rfl, hs⟩
    | error x => exact ⟨_, x.1, x.2, hr, rfl, rfl, rfl⟩
  rw [asT_tup, show (#[.agg #[v], .agg (flt c a).toArray] : Array Value)[0]? = some (.agg #[v]) from rfl, asO_some, asT_tup, show (#[.agg #[v], .agg (flt c a).toArray] : Array Value)[1]? = some (.agg (flt c a).toArray) from rfl, asO_some, asA_agg]
  have zA : (h.push (.cells #[(.slice none 0 0)] 24 (0, 0))).size = h.size + 1 := by simp
  have zB : (Array.push (Array.push h (.cells #[(.slice none 0 0)] 24 (0, 0))) (.cells #[(.int .i64 0), (.int .i64 0)] 28 (0, 0))).size = h.size + 2 := by simp
  have hA0 : (Array.push (Array.push h (.cells #[(.slice none 0 0)] 24 (0, 0))) (.cells #[(.int .i64 0), (.int .i64 0)] 28 (0, 0)))[h.size]? = some (.cells [.slice none 0 0].toArray 24 (0, 0)) :=
    (Keep.push (S := fun _ => False) _ _).get hp_push_new (by simp)
  have hB0 : (Array.push (Array.push h (.cells #[(.slice none 0 0)] 24 (0, 0))) (.cells #[(.int .i64 0), (.int .i64 0)] 28 (0, 0)))[h.size + 1]? = some (.cells (flt 0 0).toArray 28 (0, 0)) := by
    rw [← zA]
    exact hp_push_new
  have k2 : Keep (fun _ => False) h (Array.push (Array.push h (.cells #[(.slice none 0 0)] 24 (0, 0))) (.cells #[(.int .i64 0), (.int .i64 0)] 28 (0, 0))) := (Keep.push _ _).trans (Keep.push _ _)
  rw [zA]
  generalize Array.push (Array.push h (.cells #[(.slice none 0 0)] 24 (0, 0))) (.cells #[(.int .i64 0), (.int .i64 0)] 28 (0, 0)) = h2 at *
  have hsl := hg.isSl
  refine ⟨rfl, (fun u hu => by rw [List.mem_singleton.1 (show u ∈ [v] from hu)]; exact hsl.one), ?_⟩
  show storeK h2 ⟨h.size, 0, none⟩ [v] _
  refine storeK_of (o := 0) hA0 (by simp) ?_
  rw [spl_all (by simp)]
  have hA3 := hp_set_same (o := .cells [v].toArray 24 (0, 0)) hA0
  have k3 := Keep.set (S := fun b => b = h.size) (h := h2) (.cells [v].toArray 24 (0, 0)) (b := h.size) rfl
  have z3 : (h2.setIfInBounds h.size (.cells [v].toArray 24 (0, 0))).size = h2.size := by simp
  generalize h2.setIfInBounds h.size (.cells [v].toArray 24 (0, 0)) = h3 at *
  have hB3 := k3.get hB0 (by omega)
  rw [asA_agg]
  refine ⟨rfl, flt_one c a, ?_⟩
  show storeK h3 ⟨h.size + 1, 0, none⟩ (flt c a) _
  refine storeK_of (o := 0) hB3 (by simp [flt]) ?_
  rw [spl_all (by simp [flt])]
  have hB4 := hp_set_same (o := .cells (flt c a).toArray 28 (0, 0)) hB3
  have k4 := Keep.set (S := fun b => b = h.size + 1) (h := h3) (.cells (flt c a).toArray 28 (0, 0)) (b := h.size + 1) rfl
  have z4 : (h3.setIfInBounds (h.size + 1) (.cells (flt c a).toArray 28 (0, 0))).size = h3.size := by simp
  generalize h3.setIfInBounds (h.size + 1) (.cells (flt c a).toArray 28 (0, 0)) = h4 at *
  have k14 : Keep (fun _ => False) h h4 := (k2.newer (k3.mono fun b _ hb => .inr (by omega))).newer (k4.mono fun b _ hb => .inr (by omega))
  exact hK h4 v c a k14 (by omega) (k4.get hA3 (by omega)) hB4 (hg.keep k14)
theorem two_res' {h : Hp} {r : Value} {res : Except (Int × Int) (List Sg)} (hr : PsR h r res) {K : Hp → Prop}
    (hK : ∀ (h' : Hp) (v : Value) (c a : Int), Keep (fun _ => False) h h' → h'.size = h.size + 2 → h'[h.size]? = some (.cells [v].toArray 24 (0, 0)) → h'[h.size + 1]? = some (.cells (flt c a).toArray 28 (0, 0)) → PrG h' v c a res → K h') :
    asT r fun T9 => asO T9[0]? fun v10 => asT r fun T11 => asO T11[1]? fun v12 => asA v10 fun A13 => A13.size = 1 ∧ (∀ u ∈ A13.toList, one u) ∧ storeK (Array.push (Array.push h (.cells #[(.slice none 0 0)] 24 (0, 0))) (.cells #[(.int .i64 0), (.int .i64 0)] 28 (0, 0))) ⟨Array.size h, 0, none⟩ A13.toList fun h14 =>
      asA v12 fun A15 => A15.size = 2 ∧ (∀ u ∈ A15.toList, one u) ∧ storeK h14 ⟨Array.size h + 1, 0, none⟩ A15.toList fun h16 => K h16 := by
  have := two_res hr hK
  simp only [Array.size_push] at this
  exact this
theorem sc_bound {eT eN eM : Int} {l : List UInt8} {at_ : Int} {res : Res} (h : Scans eT eN eM l at_ res) : ∀ ts, res = .ok ts → ∀ t ∈ ts, at_ ≤ t.at_ ∧ t.at_ ≤ at_ + l.length := by
  induction h with
  | stop _ => rintro _ ⟨⟩ t ht; cases ht
  | bad _ _ => rintro _ ⟨⟩
  | @tok l r at_ c kind len n ts h1 e1 k1 ih =>
    rintro _ ⟨⟩ t ht
    have h2 := oneL_len e1
    have h3 := congrArg List.length h1
    rw [List.length_drop] at h3
    simp only [List.length_cons] at h2 h3
    rcases List.mem_cons.1 ht with rfl | ht
    · simp only
      omega
    · have := ih ts rfl t ht
      rw [List.length_drop] at this
      simp only [List.length_cons] at this
      omega
  | fail _ _ _ _ => rintro _ ⟨⟩
theorem PsO.err {s : ByteArray} {x : Int × Int} (h : PsO s (.error x)) (hs : s.size ≤ 12000) : x.1 ≠ 0 ∧ 0 ≤ x.2 ∧ x.2 ≤ s.size := by
  obtain ⟨ts, e, a, ho, hx⟩ := h
  rcases ho with ⟨h, _⟩ | ⟨_, hsc, rfl, rfl⟩ | ⟨_, hsc, rfl⟩
  · omega
  · rw [if_pos rfl] at hx
    refine parse_goo (e := (s.size : Int)) ⟨by omega, fun t ht => ?_⟩ hx.symm
    have := sc_bound hsc ts rfl t ht
    rw [bytes_len] at this
    omega
  · have h1 := Tkz.Sc.err hsc _ _ rfl
    rw [if_neg h1.1] at hx
    cases hx
    rw [bytes_len] at h1
    exact ⟨h1.1, by omega, by omega⟩
theorem PsO.okk {s : ByteArray} {p : List Sg} (h : PsO s (.ok p)) : s.size ≤ 12000 ∧ ∃ ts, Tkz.Sc (bytesOf s) 0 (.ok ts) ∧ parseT (s.size : Int) ts = .ok p ∧ Tkz.Out s ts 0 0 := by
  obtain ⟨ts, e, a, ho, hx⟩ := h
  have hc := ho
  rcases ho with ⟨h, _, rfl, rfl⟩ | ⟨h0, hsc, rfl, rfl⟩ | ⟨_, hsc, rfl⟩
  · rw [if_neg (by decide)] at hx
    cases hx
  · rw [if_pos rfl] at hx
    exact ⟨h0, ts, hsc, hx.symm, hc⟩
  · have h1 := Tkz.Sc.err hsc _ _ rfl
    rw [if_neg h1.1] at hx
    cases hx
end Go.Proofs.YtkeeboomikkojaaGreatDoor

namespace Go.Proofs.YtkeeboomikkojaaGreatDoor
open Go Go.Sx Go.Sx.Rn Go.Proofs.YtkeeboomikkojaaGreatDoor.Sx

section
variable {ω : Amb}
end
end Go.Proofs.YtkeeboomikkojaaGreatDoor

namespace Go.Proofs.YtkeeboomikkojaaGreatDoor
open Go Go.Sx Go.Sx.Tk Go.Sx.Rn Go.Proofs.YtkeeboomikkojaaGreatDoor.Sx

theorem ex2N (op : Int) (nm : ByteArray) (n : Int) (a b : Ex) : exN (.mk op nm n [a, b]) = 1 + exN a + exN b := by
  rw [exN_eq]
  show 1 + exsN [a, b] = _
  unfold exsN
  unfold exsN
  unfold exsN
  omega
theorem ex1N (op : Int) (nm : ByteArray) (n : Int) (a : Ex) : exN (.mk op nm n [a]) = 1 + exN a := by
  rw [exN_eq]
  show 1 + exsN [a] = _
  unfold exsN
  unfold exsN
  omega
theorem ex0N (op : Int) (nm : ByteArray) (n : Int) : exN (.mk op nm n []) = 1 := by
  rw [exN_eq]
  show 1 + exsN [] = _
  unfold exsN
  rfl
theorem exs1N (x : Ex) : exsN [x] = exN x := by
  unfold exsN
  unfold exsN
  omega
theorem exs0N : exsN [] = 0 := by
  unfold exsN
  rfl
/-- each part is counted -/
theorem ecnt (e : Int) : ∀ f : Nat, (∀ {o n l r}, cmpP e f o n l = .ok r → r.2.1 = n + exN r.1) ∧ (∀ {o n l r}, sumP e f o n l = .ok r → r.2.1 = n + exN r.1) ∧ (∀ {o x n l r}, sumL e f o x n l = .ok r → r.2.1 + exN x = n + exN r.1) ∧
    (∀ {o n l r}, prodP e f o n l = .ok r → r.2.1 = n + exN r.1) ∧ (∀ {o x n l r}, prodL e f o x n l = .ok r → r.2.1 + exN x = n + exN r.1) ∧ (∀ {o n l r}, unitP e f o n l = .ok r → r.2.1 = n + exN r.1) := by
  intro f
  induction f with
  | zero =>
    refine ⟨?_, ?_, ?_, ?_, ?_, ?_⟩
    · intro o n l r h
      unfold cmpP at h
      cases h
    · intro o n l r h
      unfold sumP at h
      cases h
    · intro o x n l r h
      unfold sumL at h
      cases h
    · intro o n l r h
      unfold prodP at h
      cases h
    · intro o x n l r h
      unfold prodL at h
      cases h
    · intro o n l r h
      unfold unitP at h
      cases h
  | succ f ih =>
    obtain ⟨i1, i2, i3, i4, i5, i6⟩ := ih
    refine ⟨?_, ?_, ?_, ?_, ?_, ?_⟩
    · intro o n l r h
      unfold cmpP at h
      obtain ⟨a, ha, h⟩ := bindP_okk h
      have a1 := i2 ha
      split at h
      · obtain ⟨b, hb, h⟩ := bindP_okk h
        have b1 := i2 hb
        cases h
        show b.2.1 + 1 = n + exN (.mk _ _ _ [a.1, b.1])
        rw [ex2N]
        omega
      split at h
      · obtain ⟨b, hb, h⟩ := bindP_okk h
        have b1 := i2 hb
        cases h
        show b.2.1 + 1 = n + exN (.mk _ _ _ [a.1, b.1])
        rw [ex2N]
        omega
      · cases h
        exact a1
    · intro o n l r h
      unfold sumP at h
      obtain ⟨a, ha, h⟩ := bindP_okk h
      have a1 := i4 ha
      have b1 := i3 h
      omega
    · intro o x n l r h
      unfold sumL at h
      split at h
      · obtain ⟨a, ha, h⟩ := bindP_okk h
        have a1 := i4 ha
        have b1 := i3 h
        have b2 : ∀ op, exN (exTwo op x a.1) = 1 + exN x + exN a.1 := fun op => ex2N _ _ _ _ _
        rw [b2] at b1
        omega
      split at h
      · obtain ⟨a, ha, h⟩ := bindP_okk h
        have a1 := i4 ha
        have b1 := i3 h
        have b2 : ∀ op, exN (exTwo op x a.1) = 1 + exN x + exN a.1 := fun op => ex2N _ _ _ _ _
        rw [b2] at b1
        omega
      · cases h
        rfl
    · intro o n l r h
      unfold prodP at h
      obtain ⟨a, ha, h⟩ := bindP_okk h
      have a1 := i6 ha
      have b1 := i5 h
      omega
    · intro o x n l r h
      unfold prodL at h
      split at h
      · obtain ⟨a, ha, h⟩ := bindP_okk h
        have a1 := i6 ha
        have b1 := i5 h
        have b2 : ∀ op, exN (exTwo op x a.1) = 1 + exN x + exN a.1 := fun op => ex2N _ _ _ _ _
        rw [b2] at b1
        omega
      · cases h
        rfl
    · intro o n l r h
      unfold unitP at h
      split at h
      · split at h
        · cases h
        obtain ⟨a, ha, h⟩ := bindP_okk h
        have a1 := i1 ha
        split at h
        · cases h
          exact a1
        · cases h
      split at h
      · split at h
        · cases h
        obtain ⟨a, ha, h⟩ := bindP_okk h
        have a1 := i6 ha
        cases h
        show a.2.1 = n + exN (.mk _ _ _ [a.1])
        rw [ex1N]
        omega
      split at h
      · cases h
      · split at h
        · cases h
          show n + 1 = n + exN (.mk _ _ _ [])
          rw [ex0N]
        split at h
        · cases h
          show n + 1 = n + exN (.mk _ _ _ [])
          rw [ex0N]
        · cases h
theorem expr_N {e : Int} {l : List Tok} {r : Ex × List Tok} (h : exprP e l = .ok r) : exN r.1 + r.2.length ≤ l.length := by
  cases l with
  | nil => cases h
  | cons t q =>
    rw [exprP_cons] at h
    obtain ⟨a, ha, h⟩ := bindP_okk h
    have h1 := (plen e _).1 ha
    have h2 := (ecnt e _).1 ha
    split at h
    · cases h
    · cases h
      show exN a.1 + a.2.2.length ≤ _
      have := h1.2
      omega
theorem args_N {e : Int} : ∀ (f : Nat) {acc : List Ex} {l : List Tok} {r : List Ex × List Tok}, argsL e f acc l = .ok r → exsN r.1 + r.2.length ≤ exsN acc + l.length
  | 0, _, _, _, h => by
    unfold argsL at h
    cases h
  | f + 1, acc, l, r, h => by
    rw [argsL_eq] at h
    split at h
    · rename_i h1
      have := isT_tail h1
      cases h
      show exsN acc + l.tail.length ≤ _
      omega
    · obtain ⟨a, ha, h⟩ := bindP_okk h
      have hla : a.length ≤ l.length := by
        split at ha
        · cases ha
          exact Nat.le_refl _
        · have := wantP_len ha
          omega
      split at h
      · cases h
      · obtain ⟨b, hb, h⟩ := bindP_okk h
        have h1 := expr_N hb
        have h2 := args_N f h
        rw [exsN_snoc] at h2
        omega
theorem pars_N {e : Int} : ∀ (f : Nat) {acc : List (ByteArray × ByteArray)} {l : List Tok} {r : List (ByteArray × ByteArray) × List Tok}, parsL e f acc l = .ok r → acc.length ≤ 6 → r.1.length ≤ 6
  | 0, _, _, _, h, _ => by
    unfold parsL at h
    cases h
  | f + 1, acc, l, r, h, hacc => by
    rw [parsL_eq] at h
    split at h
    · cases h
      exact hacc
    · obtain ⟨a, ha, h⟩ := bindP_okk h
      split at h
      · cases h
      · rename_i h6
        obtain ⟨b, hb, h⟩ := bindP_okk h
        obtain ⟨c, hc, h⟩ := bindP_okk h
        exact pars_N f h (by rw [List.length_append]; simp only [List.length_cons, List.length_nil]; omega)
theorem short_N {e : Int} {d : Nat} {l : List Tok} {r : Sh × List Tok} (h : shortP e d l = .ok r) : exsN r.1.e + r.2.length ≤ l.length := by
  unfold shortP at h
  split at h
  · obtain ⟨q, hq, h⟩ := bindP_okk h
    have := expr_N hq
    cases h
    show exsN [q.1] + q.2.length ≤ _
    rw [exs1N]
    exact this
  obtain ⟨a, ha, h⟩ := bindP_okk h
  have hal := nameP_len ha
  split at h
  · obtain ⟨w, hw, h⟩ := bindP_okk h
    obtain ⟨q, hq, h⟩ := bindP_okk h
    have h1 := wantP_len hw
    have := expr_N hq
    cases h
    show exsN [q.1] + q.2.length ≤ _
    rw [exs1N]
    omega
  split at h
  · obtain ⟨b, hb, h⟩ := bindP_okk h
    obtain ⟨t, ht, h⟩ := bindP_okk h
    obtain ⟨n, hn, h⟩ := bindP_okk h
    have h1 := nameP_len hb
    have h2 := typP_len ht
    have h3 := numP_len hn
    cases h
    show exsN [] + n.2.length ≤ _
    rw [exs0N]
    omega
  split at h
  · obtain ⟨b, hb, h⟩ := bindP_okk h
    have h1 := nameP_len hb
    cases h
    show exsN [] + b.2.length ≤ _
    rw [exs0N]
    omega
  split at h
  · obtain ⟨q, hq, h⟩ := bindP_okk h
    have := expr_N hq
    cases h
    show exsN [q.1] + q.2.length ≤ _
    rw [exs1N]
    omega
  split at h
  · obtain ⟨w, hw, h⟩ := bindP_okk h
    obtain ⟨q, hq, h⟩ := bindP_okk h
    have h1 := wantP_len hw
    have h2 := args_N _ hq
    rw [exs0N] at h2
    cases h
    show exsN q.1 + q.2.length ≤ _
    omega
  · cases h
    show exsN [] + a.2.length ≤ _
    rw [exs0N]
    omega
theorem long_N {e : Int} {d : Nat} {l : List Tok} {r : Sh × List Tok} (h : longP e d l = .ok r) : exsN r.1.e + r.2.length ≤ l.length := by
  unfold longP at h
  split at h
  · obtain ⟨a, ha, h⟩ := bindP_okk h
    obtain ⟨w, hw, h⟩ := bindP_okk h
    obtain ⟨b, hb, h⟩ := bindP_okk h
    have h1 := nameP_len ha
    have h2 := wantP_len hw
    have h3 := nameP_len hb
    cases h
    show exsN [] + b.2.length ≤ _
    rw [exs0N]
    omega
  · obtain ⟨q, hq, h⟩ := bindP_okk h
    have := expr_N hq
    cases h
    show exsN [q.1] + q.2.length ≤ _
    rw [exs1N]
    exact this
theorem sts0N : stsN [] = 0 := by
  unfold stsN
  rfl
theorem stM (d at_ : Int) (a b t : ByteArray) (n : Int) (e : List Ex) (body els : List St) : stN (.mk d at_ a b t n e body els) = 1 + exsN e + stsN body + stsN els := by rw [stN_eq]; rfl
theorem sN (e : Int) : ∀ f : Nat, (∀ {deep n l r}, blockP e f deep n l = .ok r → stsN r.1 + r.2.2.length ≤ l.length) ∧ (∀ {deep acc n l r}, stmtsL e f deep acc n l = .ok r → stsN r.1 + r.2.2.length ≤ stsN acc + l.length) ∧ (∀ {deep n l r}, stmtP e f deep n l = .ok r → stN r.1 + r.2.2.length ≤ l.length) := by
  intro f
  induction f with
  | zero =>
    refine ⟨?_, ?_, ?_⟩
    · intro deep n l r h
      unfold blockP at h
      cases h
    · intro deep acc n l r h
      unfold stmtsL at h
      cases h
    · intro deep n l r h
      unfold stmtP at h
      cases h
  | succ f ih =>
    obtain ⟨i1, i2, i3⟩ := ih
    refine ⟨?_, ?_, ?_⟩
    · intro deep n l r h
      unfold blockP at h
      split at h
      · rename_i hT
        have ht := isT_tail hT
        split at h
        · cases h
        · have := i2 h
          rw [sts0N] at this
          omega
      · cases h
    · intro deep acc n l r h
      unfold stmtsL at h
      split at h
      · rename_i hT
        have ht := isT_tail hT
        cases h
        show stsN acc + l.tail.length ≤ _
        omega
      · obtain ⟨a, ha, h⟩ := bindP_okk h
        have h1 := i3 ha
        have h2 := i2 h
        rw [stsN_snoc] at h2
        omega
    · intro deep n l r h
      cases l with
      | nil => rw [stmtP_nil] at h; cases h
      | cons t l =>
        rw [stmtP_cons] at h
        simp only [List.length_cons]
        split at h
        · split at h
          · cases h
          split at h
          · obtain ⟨s, hs, h⟩ := bindP_okk h
            obtain ⟨w, hw, h⟩ := bindP_okk h
            have h1 := short_N hs
            have h2 := wantP_len hw
            cases h
            show stN (.mk _ _ _ _ _ _ _ _ _) + w.length ≤ _
            rw [stM, sts0N]
            omega
          · obtain ⟨s, hs, h⟩ := bindP_okk h
            obtain ⟨b, hb, h⟩ := bindP_okk h
            have h1 := long_N hs
            have h2 := i1 hb
            split at h
            · rename_i hT
              have ht := isT_tail hT.2
              obtain ⟨q, hq, h⟩ := bindP_okk h
              have h3 := i1 hq
              cases h
              show stN (.mk _ _ _ _ _ _ _ _ _) + q.2.2.length ≤ _
              rw [stM]
              omega
            · cases h
              show stN (.mk _ _ _ _ _ _ _ _ _) + b.2.2.length ≤ _
              rw [stM, sts0N]
              omega
        · cases h
abbrev sgsN (p : List Sg) : Nat := (p.map fun s => stsN s.body).sum
theorem stage_N {e : Int} {n : Nat} {l : List Tok} {q : Sg × Nat × List Tok} (h : stageP e n l = .ok q) : stsN q.1.body + q.2.2.length ≤ l.length ∧ q.1.ps.length ≤ 6 := by
  cases l with
  | nil => cases h
  | cons t r =>
    rw [stageP_cons] at h
    obtain ⟨a, ha, h⟩ := bindP_okk h
    obtain ⟨l, hl, h⟩ := bindP_okk h
    obtain ⟨ps, hps, h⟩ := bindP_okk h
    obtain ⟨b, hb, h⟩ := bindP_okk h
    have h1 := nameP_len ha
    have h2 := wantP_len hl
    have h3 := parsL_len hps
    have h4 := (sN e _).1 hb
    have h5 := pars_N _ hps (by simp)
    cases h
    refine ⟨?_, h5⟩
    show stsN b.1 + b.2.2.length ≤ _
    simp only [List.length_cons]
    omega
theorem stages_N {e : Int} : ∀ (f : Nat) {n : Nat} {acc p : List Sg} {l : List Tok}, stagesL e f acc n l = .ok p → (∀ s ∈ acc, s.ps.length ≤ 6) → sgsN p ≤ sgsN acc + l.length ∧ ∀ s ∈ p, s.ps.length ≤ 6
  | 0, _, _, _, _, h, _ => by
    unfold stagesL at h
    cases h
  | f + 1, n, acc, p, l, h, hacc => by
    rw [stagesL_eq] at h
    split at h
    · cases h
      exact ⟨by omega, hacc⟩
    split at h
    · split at h
      · cases h
      · obtain ⟨s, hs, h⟩ := bindP_okk h
        obtain ⟨h1, h2⟩ := stage_N hs
        obtain ⟨h3, h4⟩ := stages_N f h fun x hx => by
          rcases List.mem_append.1 hx with hx | hx
          · exact hacc x hx
          · rw [List.mem_singleton.1 hx]
            exact h2
        refine ⟨?_, h4⟩
        have : sgsN (acc ++ [s.1]) = sgsN acc + stsN s.1.body := by simp [sgsN]
        omega
    · cases h
theorem parse_N {e : Int} {l : List Tok} {p : List Sg} (h : parseT e l = .ok p) : sgsN p ≤ l.length ∧ ∀ s ∈ p, s.ps.length ≤ 6 := by
  have := stages_N _ h (by simp)
  simpa [sgsN] using this
end Go.Proofs.YtkeeboomikkojaaGreatDoor
