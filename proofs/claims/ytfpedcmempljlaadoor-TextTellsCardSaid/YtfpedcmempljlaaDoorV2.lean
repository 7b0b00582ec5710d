/- A place: contracts. -/
import Derived.Test.YtfpedcmempljlaaDoorV1
namespace Go.Proofs.YtfpedcmempljlaaDoor
open Go Go.Sx Go.Proofs.YtfpedcmempljlaaDoor.Sx
section
variable {ω : Amb}
theorem nan_law (n : Int) (h : Hp) (X : List PanicEntry → Hp → Prop) : CallX Tryd.prog ω n_cmp_isNaN_int [.int .i64 n] h (fun r h' => r = .bool false ∧ h' = h) X := by
  refine C_cmp_isNaN_int ω _ h _ X ?_
  unfold W_cmp_isNaN_int
  rw [asK_int, asK_int]
  exact ⟨by simp, rfl⟩
theorem nan2_law (n : Int) (h : Hp) (X : List PanicEntry → Hp → Prop) : CallX Tryd.prog ω n_slices_isNaN_int [.int .i64 n] h (fun r h' => r = .bool false ∧ h' = h) X := by
  refine C_slices_isNaN_int ω _ h _ X ?_
  unfold W_slices_isNaN_int
  rw [asK_int, asK_int]
  exact ⟨by simp, rfl⟩
theorem Less_law (a b : Int) (h : Hp) (X : List PanicEntry → Hp → Prop) : CallX Tryd.prog ω n_cmp_Less_int [.int .i64 a, .int .i64 b] h (fun r h' => r = .bool (decide (a < b)) ∧ h' = h) X := by
  refine C_cmp_Less_int ω _ _ h _ X ?_
  unfold W_cmp_Less_int
  refine ⟨fun r h' => r = .bool (decide (a < b)) ∧ h' = h, ?_, fun _ _ _ hj => hj⟩
  refine CallX.use (nan_law a h) ?_
  rintro _ _ ⟨rfl, rfl⟩
  rw [asB_bool]
  refine cond_f rfl ?_
  rw [asK_int, asK_int]
  exact ⟨rfl, rfl⟩

theorem half (n : Nat) (hn : n ≤ 1000000000) : IntKind.wrap .i64 (shI .u64 .shr (IntKind.wrap .u64 (n : Int)) 1) = ((n / 2 : Nat) : Int) := by
  have h1 : IntKind.wrap .u64 (n : Int) = n := by rw [IntKind.wrap_u64]; omega
  rw [h1]
  have h2 : shI .u64 .shr (n : Int) 1 = ((n / 2 : Nat) : Int) := by
    show Int.fdiv (n : Int) (2 ^ 1) = _
    rw [Int.fdiv_eq_ediv_of_nonneg _ (by decide)]
    omega
  rw [h2, i64_in (by omega) (by omega)]

theorem Search_law {v : Value} {l : List Nat} {h : Hp} (hs : SlAt h 1 v l.length (nv l)) (hup : l.Pairwise (· < ·)) (hl : l.length ≤ 1000000) (t : Nat) (X : List PanicEntry → Hp → Prop) :
    CallX Tryd.prog ω n_slices_BinarySearch_sl_int_int [v, .int .i64 (t : Int)] h (fun r h' => h' = h ∧ ∃ (i : Nat) (f : Bool), r = .tuple #[.int .i64 (i : Int), .bool f] ∧ i ≤ l.length ∧ (∀ k x, k < i → l[k]? = some x → x < t) ∧ (∀ k x, i ≤ k → l[k]? = some x → t ≤ x) ∧ (f = true ↔ l[i]? = some t)) X := by
  refine C_slices_BinarySearch_sl_int_int ω _ _ h _ X ?_
  unfold W_slices_BinarySearch_sl_int_int
  have up : ∀ {i j x y : Nat}, i ≤ j → l[i]? = some x → l[j]? = some y → x ≤ y := by
    intro i j x y hij hx hy
    by_cases he : i = j
    · subst he
      rw [hx] at hy
      cases hy
      exact Nat.le_refl _
    · obtain ⟨hi, rfl⟩ := List.getElem?_eq_some_iff.1 hx
      obtain ⟨hj, rfl⟩ := List.getElem?_eq_some_iff.1 hy
      exact Nat.le_of_lt (List.pairwise_iff_getElem.1 hup i j hi hj (by omega))
  refine hs.sl fun _ _ => ?_
  refine ⟨fun i j h' => h' = h ∧ ∃ a b : Nat, i = .int .i64 a ∧ j = .int .i64 b ∧ a ≤ b ∧ b ≤ l.length ∧ (∀ k x, k < a → l[k]? = some x → x < t) ∧ (∀ k x, b ≤ k → l[k]? = some x → t ≤ x),
    fun i j _ => match i, j with | .int _ a, .int _ b => b.toNat - a.toNat | _, _ => 0, ⟨rfl, 0, l.length, rfl, rfl, Nat.zero_le _, Nat.le_refl _, by omega, fun k x hk hx => ?_⟩, ?_⟩
  · rw [List.getElem?_eq_none hk] at hx
    cases hx
  rintro _ _ _ h1 ⟨hh, a, b, rfl, rfl, hab, hbl, hlo, hhi⟩
  rw [hh]
  rw [asK_int, asK_int]
  refine cond_c (fun hlt => ?_) (fun hge => ?_)
  · have hlt : a < b := by have := of_decide_eq_true hlt; omega
    have hm : (a + b) / 2 < l.length := by omega
    have hx := List.getElem?_eq_getElem hm
    generalize l[(a + b) / 2] = x at hx
    refine ⟨fun i j h' => h' = h ∧ ∃ a' b' : Nat, i = .int .i64 a' ∧ j = .int .i64 b' ∧ a' ≤ b' ∧ b' ≤ l.length ∧ b' - a' < b - a ∧ (∀ k x, k < a' → l[k]? = some x → x < t) ∧ (∀ k x, b' ≤ k → l[k]? = some x → t ≤ x), ?_, ?_⟩
    · rw [asK_int, asK_int]
      have hw : IntKind.wrap .i64 ((a : Int) + b) = ((a + b : Nat) : Int) := by rw [i64_in (by omega) (by omega)]; omega
      rw [hw, half _ (by omega)]
      refine ⟨by decide, hs.rd1 (nv_at hx) ?_⟩
      refine CallX.use (Less_law x t h) ?_
      rintro _ _ ⟨rfl, hh⟩
      rw [hh]
      refine ⟨fun i j h' => h' = h ∧ ∃ a' b' : Nat, i = .int .i64 a' ∧ j = .int .i64 b' ∧ a' ≤ b' ∧ b' ≤ l.length ∧ b' - a' < b - a ∧ (∀ k x, k < a' → l[k]? = some x → x < t) ∧ (∀ k x, b' ≤ k → l[k]? = some x → t ≤ x), ?_, fun _ _ _ _ hj => hj⟩
      rw [asB_bool]
      refine cond_c (fun hc => ?_) (fun hc => ?_)
      · have hc' : x < t := by have := of_decide_eq_true hc; omega
        rw [i64_in (by omega) (by omega)]
        exact ⟨rfl, (a + b) / 2 + 1, b, by simp, rfl, by omega, hbl, by omega, fun k y hk hy => Nat.lt_of_le_of_lt (up (by omega) hy hx) hc', hhi⟩
      · have hc' : t ≤ x := by have := of_decide_eq_false hc; omega
        exact ⟨rfl, a, (a + b) / 2, rfl, rfl, by omega, by omega, by omega, hlo, fun k y hk hy => Nat.le_trans hc' (up hk hx hy)⟩
    · rintro _ _ _ h2 ⟨hh, a', b', rfl, rfl, h1, h2', h3, h4, h5⟩
      exact ⟨⟨hh, a', b', rfl, rfl, h1, h2', h4, h5⟩, by simpa using h3⟩
  · have hae : a = b := by have := of_decide_eq_false hge; omega
    subst hae
    refine ⟨fun i f h' => h' = h ∧ i = .int .i64 a ∧ ∃ f' : Bool, f = .bool f' ∧ (f' = true ↔ l[a]? = some t), ?_, ?_⟩
    · rw [asK_int]
      refine cond_c (fun hlt => ?_) (fun hge => ?_)
      · have hlt : a < l.length := by have := of_decide_eq_true hlt; omega
        have hx := List.getElem?_eq_getElem hlt
        generalize l[a] = x at hx
        refine hs.rd1 (nv_at hx) ?_
        rw [asK_int, asK_int]
        refine cond_c (fun hc => ?_) (fun hc => ?_)
        · have hc' : x = t := by have := eq_of_beq hc; omega
          exact ⟨rfl, rfl, true, rfl, by simp [hx, hc']⟩
        · have hc' : ¬ x = t := by have := beq_eq_false_iff_ne.1 hc; omega
          refine hs.rd1 (nv_at hx) ?_
          refine CallX.use (nan2_law x h) ?_
          rintro _ _ ⟨rfl, hh⟩
          rw [hh, asB_bool]
          exact cond_f rfl ⟨rfl, rfl, false, rfl, by simp [hx, hc']⟩
      · have hge : l.length ≤ a := by have := of_decide_eq_false hge; omega
        exact ⟨rfl, rfl, false, rfl, by rw [List.getElem?_eq_none hge]; simp⟩
    · rintro _ _ _ h2 ⟨hh, rfl, f', rfl, hf⟩
      exact ⟨hh, a, f', rfl, hbl, hlo, hhi, hf⟩

/-- what is told of a place -/
def flt (code at_ : Int) : List Value := [.int .i64 code, .int .i64 at_]
theorem flt_one (c a : Int) : ∀ u ∈ flt c a, one u := by
  intro u hu
  simp only [flt, List.mem_cons, List.not_mem_nil, or_false] at hu
  rcases hu with rfl | rfl <;> rfl
structure PlaceOf (s : ByteArray) (a : Int) (line col code fat : Int) : Prop where
  big : 12000 < s.size → line = 0 ∧ col = 0 ∧ code = 1 ∧ fat = -1
  out : s.size ≤ 12000 → (a < 0 ∨ (s.size : Int) < a) → line = 0 ∧ col = 0 ∧ code = 14 ∧ fat = -1
  good : s.size ≤ 12000 → ∀ k : Nat, a = k → k ≤ s.size → line = (starts (bytesOf s) k).length ∧ col = (k : Int) + 1 - lastS (bytesOf s) k ∧ code = 0 ∧ fat = 0

theorem finP {h1 : Hp} {L : Nat} {cs ds : List Value} (hw : h1[L]? = some (.cells ds.toArray 26 (0, 0))) (hl : ds.length = cs.length) {K : List Value → Hp → Prop} (hK : ∀ h2, h2[L]? = some (.cells cs.toArray 26 (0, 0)) → Keep (fun k => k = L) h1 h2 → K cs h2) (hn : cs.length = 2) :
    storeK h1 ⟨L, 0, none⟩ cs fun h11 => ∃ C12, cellsH h11 ⟨L, 0, none⟩ 2 C12 ∧ K C12 h11 := by
  refine storeK_of (cs := cs) hw (by simp; omega) ?_
  rw [spl_all (z := ds.toArray) (cs := cs) (by simp; omega)]
  exact ⟨cs, cellsH_blk (hp_set_same hw) hn, hK _ (hp_set_same hw) (Keep.set (S := fun k => k = L) _ rfl)⟩

theorem find_place {bs : List UInt8} {n k i : Nat} {f : Bool} (hk : k ≤ n) (hlo : ∀ j x, j < i → (starts bs n)[j]? = some x → x < k) (hhi : ∀ j x, i ≤ j → (starts bs n)[j]? = some x → k ≤ x) (hf : f = true ↔ (starts bs n)[i]? = some k) (hil : i ≤ (starts bs n).length) :
    (f = true → i = (starts bs k).length - 1) ∧ (f = false → i = (starts bs k).length) ∧ (starts bs n)[(starts bs k).length - 1]? = some (lastS bs k) := by
  obtain ⟨r, hr, hgt⟩ := starts_more bs k (n - k)
  rw [show k + (n - k) = n by omega] at hr
  have hpos := starts_pos bs k
  have hlast := starts_last bs k
  have hle := lastS_le bs k
  have hat : (starts bs n)[(starts bs k).length - 1]? = some (lastS bs k) := by rw [hr, List.getElem?_append_left (by omega)]; exact hlast
  have hup := starts_up bs n
  have hmore : ∀ x, (starts bs n)[(starts bs k).length]? = some x → k < x := by
    intro x hx
    rw [hr, List.getElem?_append_right (Nat.le_refl _), Nat.sub_self] at hx
    exact hgt x (List.mem_iff_getElem?.2 ⟨0, hx⟩)
  have hlt : ∀ j x, j < (starts bs k).length → (starts bs n)[j]? = some x → x ≤ lastS bs k ∧ (j < (starts bs k).length - 1 → x < lastS bs k) := by
    intro j x hj hx
    obtain ⟨hj1, rfl⟩ := List.getElem?_eq_some_iff.1 hx
    obtain ⟨hj2, he⟩ := List.getElem?_eq_some_iff.1 hat
    by_cases hje : j = (starts bs k).length - 1
    · subst hje
      exact ⟨Nat.le_of_eq he, fun h => by omega⟩
    · have := List.pairwise_iff_getElem.1 hup j ((starts bs k).length - 1) hj1 hj2 (by omega)
      rw [he] at this
      exact ⟨Nat.le_of_lt this, fun _ => this⟩
  refine ⟨fun h => ?_, fun h => ?_, hat⟩
  · have hi := hf.1 h
    have hil' := (List.getElem?_eq_some_iff.1 hi).1
    by_cases h1 : i < (starts bs k).length
    · by_cases h2 : i < (starts bs k).length - 1
      · have := (hlt i k h1 hi).2 h2; omega
      · omega
    · by_cases h2 : i = (starts bs k).length
      · rw [h2] at hi
        have := hmore k hi; omega
      · have h3 : (starts bs n)[(starts bs k).length]? = some ((starts bs n)[(starts bs k).length]'(by omega)) := List.getElem?_eq_getElem _
        have h4 := hlo _ _ (by omega) h3
        have h5 := hmore _ h3
        omega
  · by_cases h1 : i < (starts bs k).length
    · exfalso
      have h3 : (starts bs n)[i]? = some ((starts bs n)[i]'(by rw [hr, List.length_append]; omega)) := List.getElem?_eq_getElem _
      have h4 := hhi i _ (Nat.le_refl _) h3
      have h5 := (hlt i _ h1 h3).1
      have h6 : (starts bs n)[i]? = some k := by rw [h3]; congr 1; omega
      have := hf.2 h6
      rw [h] at this
      cases this
    · by_cases h2 : i = (starts bs k).length
      · exact h2
      · exfalso
        have h3 : (starts bs n)[(starts bs k).length]? = some ((starts bs n)[(starts bs k).length]'(by omega)) := List.getElem?_eq_getElem _
        have h4 := hlo _ _ (by omega) h3
        have h5 := hmore _ h3
        omega

theorem Place_law (s : ByteArray) (a : Int) (h : Hp) (X : List PanicEntry → Hp → Prop) :
    CallX Tryd.prog ω n_text_Place [.string s, .int .i64 a] h (fun r h' => Keep (fun _ => False) h h' ∧ ∃ line col code fat, r = .tuple #[.int .i64 line, .int .i64 col, .agg (flt code fat).toArray] ∧ PlaceOf s a line col code fat) X := by
  refine C_text_Place ω _ _ h _ X ?_
  unfold W_text_Place
  have k0 : Keep (fun _ => False) h (h.push (.cells (flt 0 0).toArray 26 (0, 0))) := Keep.push _ _
  have hp0 : (h.push (.cells (flt 0 0).toArray 26 (0, 0)))[h.size]? = some (.cells (flt 0 0).toArray 26 (0, 0)) := hp_push_new
  have e0 : (h.push (.cells #[(.int .i64 0), (.int .i64 0)] 26 (0, 0))) = (h.push (.cells (flt 0 0).toArray 26 (0, 0))) := rfl
  rw [e0]
  generalize h.push (.cells (flt 0 0).toArray 26 (0, 0)) = h0 at *
  have fk : ∀ {h1 h2 : Hp}, Keep (fun _ => False) h h1 → Keep (fun k => k = h.size) h1 h2 → Keep (fun _ => False) h h2 := fun a b => a.newer (b.mono fun _ _ e => .inr (Nat.le_of_eq e.symm))
  rw [asS_str]
  refine cond_c (fun hc => ?_) (fun hc => ?_)
  · have hc' : 12000 < s.size := by have := of_decide_eq_true hc; omega
    refine ⟨rfl, flt_one 1 (-1), finP (cs := flt 1 (-1)) hp0 rfl (fun h2 _ k2 => ?_) rfl⟩
    exact ⟨fk k0 k2, 0, 0, 1, -1, rfl, fun _ => ⟨rfl, rfl, rfl, rfl⟩, fun h => by omega, fun h => by omega⟩
  have hs : s.size ≤ 12000 := by have := of_decide_eq_false hc; omega
  refine ⟨decide (a < 0 ∨ (s.size : Int) < a), ?_, fun _ => ?_⟩
  · rw [asK_int]
    refine cond_c (fun hc => ⟨?_, rfl⟩) (fun hc => ?_)
    · rw [decide_eq_true (.inl (of_decide_eq_true hc))]
    · rw [asS_str, asK_int]
      refine ⟨?_, rfl⟩
      have := of_decide_eq_false hc
      congr 1
      rw [Bool.eq_iff_iff]
      simp
      omega
  refine cond_c (fun hc => ?_) (fun hc => ?_)
  · have hc' := of_decide_eq_true hc
    refine ⟨rfl, flt_one 14 (-1), finP (cs := flt 14 (-1)) hp0 rfl (fun h2 _ k2 => ?_) rfl⟩
    exact ⟨fk k0 k2, 0, 0, 14, -1, rfl, fun h => by omega, fun _ _ => ⟨rfl, rfl, rfl, rfl⟩, fun _ k hk hl => by omega⟩
  have hc' := of_decide_eq_false hc
  obtain ⟨k, rfl⟩ : ∃ k : Nat, a = k := ⟨a.toNat, by omega⟩
  have hks : k ≤ s.size := by omega
  refine CallX.use (Lines_law s h0) ?_
  rintro r h1 (⟨hbig, _⟩ | ⟨_, ho, k1⟩)
  · omega
  have hlen := starts_len (bytesOf s) s.size
  refine CallX.use (Search_law ho.slAt (starts_up _ _) (by omega) k) ?_
  rintro _ _ ⟨hh, i, f, rfl, hil, hlo, hhi, hf⟩
  rw [hh]
  simp only [asT_tup]
  simp only [show (#[Value.int .i64 (i : Int), .bool f] : Array Value)[0]? = some (.int .i64 (i : Int)) from rfl, show (#[Value.int .i64 (i : Int), .bool f] : Array Value)[1]? = some (.bool f) from rfl, asO_some, asB_bool]
  obtain ⟨hft, hff, hat⟩ := find_place hks hlo hhi hf hil
  have hpos := starts_pos (bytesOf s) k
  have hlk := starts_len (bytesOf s) k
  have hll := lastS_le (bytesOf s) k
  have hp1 := k1.get hp0 (by simp)
  refine ⟨fun n h' => n = .int .i64 (((starts (bytesOf s) k).length - 1 : Nat) : Int) ∧ h' = h1, ?_, ?_⟩
  · refine cond_c (fun hb => ?_) (fun hb => ?_)
    · have hi := hff (by simpa using hb)
      rw [asK_int, i64_in (by omega) (by omega)]
      exact ⟨by congr 1; omega, rfl⟩
    · have hi := hft (by simpa using hb)
      exact ⟨by rw [hi], rfl⟩
  rintro _ _ h3 ⟨rfl, hh⟩
  rw [hh, asK_int]
  refine ho.slAt.rd1 (nv_at hat) ?_
  rw [asK_int, asK_int]
  refine ⟨trivial, flt_one 0 0, finP (cs := flt 0 0) hp1 rfl (fun h4 _ k4 => ?_) rfl⟩
  refine ⟨fk (k0.trans k1) k4, _, _, 0, 0, rfl, fun h => by omega, fun _ h => absurd h hc', fun _ k' hk' _ => ?_⟩
  have : k' = k := by omega
  subst this
  rw [i64_in (by omega) (by omega), i64_in (by rw [i64_in (by omega) (by omega)]; omega) (by rw [i64_in (by omega) (by omega)]; omega), i64_in (by omega) (by omega)]
  exact ⟨by omega, by omega, rfl, rfl⟩
end
end Go.Proofs.YtfpedcmempljlaaDoor
