/- Tokens: the scanner's blanks, runs and signs; the words by a loop. -/
import Derived.Test.YtgfpcpkpclpdcaaDoorU1
namespace Go.Proofs.YtgfpcpkpclpdcaaDoor
open Go Go.Sx Go.Sx.Tk Go.Proofs.YtgfpcpkpclpdcaaDoor.Sx

/-- a scanner's cells -/
def scn (s : ByteArray) (j : Nat) (out : Value) : List Value := [.string s, .int .i64 (j : Int), out]
abbrev ScAt (h : Hp) (G : Nat) (s : ByteArray) (j : Nat) (out : Value) : Prop := h[G]? = some (.cells (scn s j out).toArray 35 (0, 0))
def posOf (G : Nat) (h : Hp) : Nat := match h[G]? with | some (.cells cs _ _) => (match cs.toList with | [_, .int _ k, _] => k.toNat | _ => 0) | _ => 0
theorem posOf_scn {G : Nat} {h : Hp} {s : ByteArray} {j : Nat} {out : Value} (hb : ScAt h G s j out) : posOf G h = j := by
  unfold posOf
  rw [hb]
  simp [scn]
abbrev rest (s : ByteArray) (j : Nat) : List UInt8 := (bytesOf s).drop j
theorem rest_len (s : ByteArray) (j : Nat) : (rest s j).length = s.size - j := by rw [List.length_drop, bytes_len]
theorem rest_end (s : ByteArray) : rest s s.size = [] := List.drop_eq_nil_of_le (by rw [bytes_len]; exact Nat.le_refl _)
theorem ScAt.set {h : Hp} {G j j' : Nat} {s : ByteArray} {out : Value} (hb : ScAt h G s j out) {x : Int} (hx : x = (j' : Int)) {K : Hp → Prop}
    (hk : ∀ h', ScAt h' G s j' out → Keep (fun k => k = G) h h' → K h') : storeK1 h (Addr.add ⟨G, 0, none⟩ 1) (.int .i64 x) K := by
  subst hx
  rw [addr_add, Nat.zero_add]
  exact storeK1_of hb (by show 1 < 3; decide) (hk _ (hp_set_same hb) (Keep.set (S := fun k => k = G) _ rfl))

section
variable {ω : Amb}
theorem blank_law {h : Hp} {G j : Nat} {s : ByteArray} {out : Value} (hs : s.size ≤ 20000) (hj : j ≤ s.size) (hb : ScAt h G s j out) (X : List PanicEntry → Hp → Prop) :
    CallX Tryd.prog ω n_p_token_scanner_blank [.pointer (some ⟨G, 0, none⟩)] h (fun _ h' => ScAt h' G s (j + blanks false (rest s j)) out ∧ Keep (fun k => k = G) h h') X := by
  refine C_p_token_scanner_blank ω _ h _ X ?_
  unfold W_p_token_scanner_blank
  refine ⟨fun r h' => ∃ (k : Nat) (b : Bool), r = .bool b ∧ k ≤ s.size ∧ ScAt h' G s k out ∧ Keep (fun k => k = G) h h' ∧ k + blanks b (rest s k) = j + blanks false (rest s j),
    fun _ h' => s.size - posOf G h', ⟨j, false, rfl, hj, hb, Keep.refl _ _, rfl⟩, ?_⟩
  rintro _ _ h4 ⟨k, b, rfl, hk, hb4, k4, he⟩
  simp only [nnK_ptr, asP_some]
  refine lx hb4 rfl ?_
  refine lx hb4 rfl ?_
  rw [asS_str, asK_int]
  refine cond_c (fun hc => ?_) (fun hc => ?_)
  · have hlt : k < s.size := by have := of_decide_eq_true hc; omega
    have hd := dropc s hlt
    refine lx hb4 rfl ?_
    refine lx hb4 rfl ?_
    rw [asS_str, asI_int, byteAt_c]
    refine ⟨by omega, by omega, ?_⟩
    show ∃ J, _ ∧ _
    have hstep : blanks b (rest s k) = if (cAt s k).toNat = 10 then blanks false (rest s (k + 1)) + 1 else if b = true ∨ (cAt s k).toNat = 32 ∨ (cAt s k).toNat = 9 ∨ (cAt s k).toNat = 13 then blanks b (rest s (k + 1)) + 1 else if (cAt s k).toNat = 35 then blanks true (rest s (k + 1)) + 1 else 0 := by
      rw [rest, hd, blanks]
    generalize (cAt s k).toNat = c at *
    refine ⟨fun r h' => ∃ b', r = .bool b' ∧ h' = h4 ∧ k + 1 + blanks b' (rest s (k + 1)) = j + blanks false (rest s j), ?_, ?_⟩
    · refine ⟨fun r h' => ∃ b', r = .bool b' ∧ h' = h4 ∧ k + 1 + blanks b' (rest s (k + 1)) = j + blanks false (rest s j), ?_, fun _ _ _ hj => hj⟩
      refine cond_c (fun hc => ?_) (fun hc => ?_)
      · have hc' : c = 10 := by have := eq_of_beq hc; omega
        rw [if_pos hc'] at hstep
        exact ⟨false, rfl, rfl, by omega⟩
      · have hc' : ¬ c = 10 := by have := beq_eq_false_iff_ne.1 hc; omega
        rw [if_neg hc'] at hstep
        refine ⟨fun r h' => r = .bool (decide (b = true ∨ c = 32 ∨ c = 9 ∨ c = 13)) ∧ h' = h4, ?_, ?_⟩
        · rw [asB_bool]
          refine cond_c (fun hb => ⟨by rw [decide_eq_true (.inl hb), hb], rfl⟩) (fun hb => ?_)
          refine ⟨fun r h' => r = .bool (decide (b = true ∨ c = 32 ∨ c = 9 ∨ c = 13)) ∧ h' = h4, ?_, fun _ _ _ hj => hj⟩
          refine cond_c (fun hc => ?_) (fun hc => ?_)
          · have := eq_of_beq hc
            rw [hc, decide_eq_true (.inr (.inl (by omega)))]
            exact ⟨rfl, rfl⟩
          · have n1 := beq_eq_false_iff_ne.1 hc
            refine ⟨fun r h' => r = .bool (decide (b = true ∨ c = 32 ∨ c = 9 ∨ c = 13)) ∧ h' = h4, ?_, fun _ _ _ hj => hj⟩
            refine cond_c (fun hc => ?_) (fun hc => ?_)
            · have := eq_of_beq hc
              rw [hc, decide_eq_true (.inr (.inr (.inl (by omega))))]
              exact ⟨rfl, rfl⟩
            · have n2 := beq_eq_false_iff_ne.1 hc
              refine ⟨?_, rfl⟩
              congr 1
              subst hb
              rw [Bool.eq_iff_iff]
              simp
              omega
        · rintro _ _ h5 ⟨rfl, hh⟩
          rw [hh]
          refine ⟨fun r h' => ∃ b', r = .bool b' ∧ h' = h4 ∧ k + 1 + blanks b' (rest s (k + 1)) = j + blanks false (rest s j), ?_, fun _ _ _ hj => hj⟩
          rw [asB_bool]
          refine cond_c (fun hc => ?_) (fun hc => ?_)
          · rw [if_pos (of_decide_eq_true hc)] at hstep
            exact ⟨b, rfl, rfl, by omega⟩
          · rw [if_neg (of_decide_eq_false hc)] at hstep
            refine cond_c (fun hc => ?_) (fun hc => ?_)
            · have hc' : c = 35 := by have := eq_of_beq hc; omega
              rw [if_pos hc'] at hstep
              exact ⟨true, rfl, rfl, by omega⟩
            · have hc' : ¬ c = 35 := by have := beq_eq_false_iff_ne.1 hc; omega
              rw [if_neg hc'] at hstep
              rw [hstep, Nat.add_zero] at he
              rw [← he]
              exact ⟨hb4, k4⟩
    · rintro _ _ h5 ⟨b', rfl, hh, he'⟩
      rw [hh]
      refine lx hb4 rfl ?_
      rw [asK_int]
      refine hb4.set (j' := k + 1) (by rw [i64_in (by omega) (by omega)]; omega) fun h6 hb6 k6 => ?_
      refine ⟨⟨k + 1, b', rfl, by omega, hb6, k4.trans k6, he'⟩, ?_⟩
      rw [posOf_scn hb6, posOf_scn hb4]
      omega
  · have hge : k = s.size := by have := of_decide_eq_false hc; omega
    subst hge
    rw [rest_end] at he
    rw [← he]
    exact ⟨hb4, k4⟩

theorem run_law {h : Hp} {G j : Nat} {s : ByteArray} {out : Value} (hs : s.size ≤ 20000) (hj : j ≤ s.size) (hb : ScAt h G s j out) (X : List PanicEntry → Hp → Prop) :
    CallX Tryd.prog ω n_p_token_scanner_run [.pointer (some ⟨G, 0, none⟩)] h (fun r h' => r = .string (s.extract j (j + run (rest s j))) ∧ ScAt h' G s (j + run (rest s j)) out ∧ Keep (fun k => k = G) h h') X := by
  refine C_p_token_scanner_run ω _ h _ X ?_
  unfold W_p_token_scanner_run
  simp only [nnK_ptr, asP_some]
  refine lx hb rfl ?_
  refine ⟨fun h' => ∃ k : Nat, k ≤ s.size ∧ ScAt h' G s k out ∧ Keep (fun k => k = G) h h' ∧ k + run (rest s k) = j + run (rest s j),
    fun h' => s.size - posOf G h', ⟨j, hj, hb, Keep.refl _ _, rfl⟩, ?_⟩
  rintro _ h4 ⟨k, hk, hb4, k4, he⟩
  refine ⟨fun r h' => r = .bool (decide (k < s.size) && ld (cAt s k)) ∧ h' = h4, ?_, ?_⟩
  · refine lx hb4 rfl ?_
    refine lx hb4 rfl ?_
    rw [asS_str, asK_int]
    refine cond_c (fun hc => ?_) (fun hc => ?_)
    · have hlt : k < s.size := by have := of_decide_eq_true hc; omega
      refine lx hb4 rfl ?_
      refine lx hb4 rfl ?_
      rw [asS_str, asI_int, byteAt_c]
      refine ⟨by omega, by omega, ?_⟩
      refine CallX.use (letter_law _ h4) ?_
      rintro _ _ ⟨rfl, hh⟩
      rw [hh, asB_bool, decide_eq_true hlt, Bool.true_and, Tk.ld]
      refine cond_c (fun hc => ⟨by rw [hc]; rfl, rfl⟩) (fun hc => ?_)
      refine lx hb4 rfl ?_
      refine lx hb4 rfl ?_
      rw [asS_str, asI_int, byteAt_c, hc]
      refine ⟨by omega, by omega, ?_⟩
      refine CallX.use (digit_law _ h4) ?_
      rintro _ _ ⟨rfl, hh⟩
      rw [hh]
      exact ⟨rfl, rfl⟩
    · have hge : ¬ k < s.size := by have := of_decide_eq_false hc; omega
      rw [decide_eq_false hge]
      exact ⟨rfl, rfl⟩
  · rintro _ _ h5 ⟨rfl, hh⟩
    rw [hh, asB_bool]
    refine cond_c (fun hc => ?_) (fun hc => ?_)
    · rw [Bool.and_eq_true] at hc
      have hlt := of_decide_eq_true hc.1
      rw [rest, dropc s hlt, run_cons, if_pos hc.2] at he
      refine lx hb4 rfl ?_
      rw [asK_int]
      refine hb4.set (j' := k + 1) (by rw [i64_in (by omega) (by omega)]; omega) fun h6 hb6 k6 => ?_
      refine ⟨⟨k + 1, by omega, hb6, k4.trans k6, by show k + 1 + run ((bytesOf s).drop (k + 1)) = _; omega⟩, ?_⟩
      show s.size - posOf G h6 < s.size - posOf G h4
      rw [posOf_scn hb6, posOf_scn hb4]
      omega
    · have he0 : run (rest s k) = 0 := by
        by_cases hlt : k < s.size
        · rw [decide_eq_true hlt, Bool.true_and] at hc
          rw [rest, dropc s hlt, run_cons, if_neg (by rw [hc]; decide)]
        · have : k = s.size := by omega
          rw [this, rest_end]
          rfl
      rw [he0, Nat.add_zero] at he
      refine lx hb4 rfl ?_
      refine lx hb4 rfl ?_
      rw [asS_str, asI_int, asI_int, Int.toNat_natCast, Int.toNat_natCast, ← he]
      exact ⟨by omega, by omega, by omega, rfl, hb4, k4⟩

theorem enc_one (c : UInt8) (hc : c.toNat < 128) : Utf8.encode (IntKind.wrap .i32 (c.toNat : Int)) = ⟨#[c]⟩ := by
  have h1 : IntKind.wrap .i32 (c.toNat : Int) = (c.toNat : Int) := by rw [IntKind.wrap_i32]; omega
  rw [h1]
  have : ∀ n : Fin 128, Utf8.encode ((n : Nat) : Int) = ⟨#[UInt8.ofNat n]⟩ := by decide +kernel
  have := this ⟨c.toNat, hc⟩
  rw [this]
  simp

theorem sign_law {h : Hp} {G j : Nat} {s : ByteArray} {out : Value} (hs : s.size ≤ 20000) (hj : j < s.size) (hb : ScAt h G s j out) (X : List PanicEntry → Hp → Prop) :
    CallX Tryd.prog ω n_p_token_scanner_sign [.pointer (some ⟨G, 0, none⟩)] h (fun r h' => h' = h ∧ r = .string (
      if (cAt s j).toNat = 61 then (if j + 1 < s.size ∧ (cAt s (j + 1)).toNat = 61 then ⟨#[61, 61]⟩ else ⟨#[61]⟩) else if isSign (cAt s j) = true then ⟨#[cAt s j]⟩ else ⟨#[]⟩)) X := by
  refine C_p_token_scanner_sign ω _ h _ X ?_
  unfold W_p_token_scanner_sign
  simp only [nnK_ptr, asP_some]
  refine lx hb rfl ?_
  refine lx hb rfl ?_
  rw [asS_str, asI_int, byteAt_c]
  refine ⟨by omega, by omega, ?_⟩
  refine cond_c (fun hc => ?_) (fun hc => ?_)
  · have hc' : (cAt s j).toNat = 61 := by have := eq_of_beq hc; omega
    rw [if_pos hc']
    have hw : IntKind.wrap .i64 ((j : Int) + 1) = ((j + 1 : Nat) : Int) := by rw [i64_in (by omega) (by omega)]; omega
    refine ⟨decide (j + 1 < s.size ∧ (cAt s (j + 1)).toNat = 61), ?_, fun _ => ?_⟩
    · refine lx hb rfl ?_
      rw [asK_int]
      refine lx hb rfl ?_
      rw [asS_str, hw]
      refine cond_c (fun hc => ?_) (fun hc => ?_)
      · refine lx hb rfl ?_
        refine lx hb rfl ?_
        have := of_decide_eq_true hc
        rw [asK_int, asS_str, hw, byteAt_c]
        refine ⟨by omega, by omega, ?_, trivial⟩
        congr 1
        rw [Bool.eq_iff_iff]
        simp
        omega
      · have := of_decide_eq_false hc
        rw [decide_eq_false (by omega)]
        exact ⟨rfl, trivial⟩
    · refine cond_c (fun hc => ?_) (fun hc => ?_)
      · rw [if_pos (of_decide_eq_true hc)]
        exact ⟨trivial, rfl⟩
      · rw [if_neg (of_decide_eq_false hc)]
        exact ⟨trivial, rfl⟩
  · have hc' : ¬ (cAt s j).toNat = 61 := by have := beq_eq_false_iff_ne.1 hc; omega
    rw [if_neg hc']
    refine ⟨fun r h' => r = .bool (isSign (cAt s j)) ∧ h' = h, ?_, ?_⟩
    rotate_left
    · rintro _ _ _ ⟨rfl, hh⟩
      rw [hh, asB_bool]
      refine cond_c (fun hc => ?_) (fun hc => ?_)
      · rw [if_pos hc, enc_one _ (by
          simp only [isSign, Bool.or_eq_true, decide_eq_true_eq] at hc
          omega)]
        exact ⟨rfl, rfl⟩
      · rw [if_neg (by rw [hc]; decide)]
        exact ⟨rfl, rfl⟩
    unfold isSign
    generalize (cAt s j).toNat = c
    refine cond_c (fun hc => ?_) (fun hc => ?_)
    · have := eq_of_beq hc
      rw [hc, decide_eq_true (by omega : c = 40)]
      exact ⟨rfl, rfl⟩
    rw [decide_eq_false (by have := beq_eq_false_iff_ne.1 hc; omega : ¬ c = 40), Bool.false_or]
    refine ⟨fun r h' => r = _ ∧ h' = h, ?_, fun _ _ _ hj => hj⟩
    refine cond_c (fun hc => ?_) (fun hc => ?_)
    · have := eq_of_beq hc
      rw [hc, decide_eq_true (by omega : c = 41)]
      exact ⟨rfl, rfl⟩
    rw [decide_eq_false (by have := beq_eq_false_iff_ne.1 hc; omega : ¬ c = 41), Bool.false_or]
    refine ⟨fun r h' => r = _ ∧ h' = h, ?_, fun _ _ _ hj => hj⟩
    refine cond_c (fun hc => ?_) (fun hc => ?_)
    · have := eq_of_beq hc
      rw [hc, decide_eq_true (by omega : c = 123)]
      exact ⟨rfl, rfl⟩
    rw [decide_eq_false (by have := beq_eq_false_iff_ne.1 hc; omega : ¬ c = 123), Bool.false_or]
    refine ⟨fun r h' => r = _ ∧ h' = h, ?_, fun _ _ _ hj => hj⟩
    refine cond_c (fun hc => ?_) (fun hc => ?_)
    · have := eq_of_beq hc
      rw [hc, decide_eq_true (by omega : c = 125)]
      exact ⟨rfl, rfl⟩
    rw [decide_eq_false (by have := beq_eq_false_iff_ne.1 hc; omega : ¬ c = 125), Bool.false_or]
    refine ⟨fun r h' => r = _ ∧ h' = h, ?_, fun _ _ _ hj => hj⟩
    refine cond_c (fun hc => ?_) (fun hc => ?_)
    · have := eq_of_beq hc
      rw [hc, decide_eq_true (by omega : c = 44)]
      exact ⟨rfl, rfl⟩
    rw [decide_eq_false (by have := beq_eq_false_iff_ne.1 hc; omega : ¬ c = 44), Bool.false_or]
    refine ⟨fun r h' => r = _ ∧ h' = h, ?_, fun _ _ _ hj => hj⟩
    refine cond_c (fun hc => ?_) (fun hc => ?_)
    · have := eq_of_beq hc
      rw [hc, decide_eq_true (by omega : c = 59)]
      exact ⟨rfl, rfl⟩
    rw [decide_eq_false (by have := beq_eq_false_iff_ne.1 hc; omega : ¬ c = 59), Bool.false_or]
    refine ⟨fun r h' => r = _ ∧ h' = h, ?_, fun _ _ _ hj => hj⟩
    refine cond_c (fun hc => ?_) (fun hc => ?_)
    · have := eq_of_beq hc
      rw [hc, decide_eq_true (by omega : c = 43)]
      exact ⟨rfl, rfl⟩
    rw [decide_eq_false (by have := beq_eq_false_iff_ne.1 hc; omega : ¬ c = 43), Bool.false_or]
    refine ⟨fun r h' => r = _ ∧ h' = h, ?_, fun _ _ _ hj => hj⟩
    refine cond_c (fun hc => ?_) (fun hc => ?_)
    · have := eq_of_beq hc
      rw [hc, decide_eq_true (by omega : c = 45)]
      exact ⟨rfl, rfl⟩
    rw [decide_eq_false (by have := beq_eq_false_iff_ne.1 hc; omega : ¬ c = 45), Bool.false_or]
    refine ⟨fun r h' => r = _ ∧ h' = h, ?_, fun _ _ _ hj => hj⟩
    refine cond_c (fun hc => ?_) (fun hc => ?_)
    · have := eq_of_beq hc
      rw [hc, decide_eq_true (by omega : c = 42)]
      exact ⟨rfl, rfl⟩
    rw [decide_eq_false (by have := beq_eq_false_iff_ne.1 hc; omega : ¬ c = 42), Bool.false_or]
    refine ⟨?_, rfl⟩
    congr 1
    rw [Bool.eq_iff_iff]
    simp
    omega
end
end Go.Proofs.YtgfpcpkpclpdcaaDoor
