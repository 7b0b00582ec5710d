/- Tokens: the scanner's blanks, runs and signs; the words by a loop. -/
import Derived.Test.YtkeeboomikkojaaGreatDoorRn1
import Derived.Test.YtkeeboomikkojaaGreatDoorY9d
namespace Go.Proofs.YtkeeboomikkojaaGreatDoor.Tkz
open Go Go.Sx Go.Sx.Tk Go.Proofs.YtkeeboomikkojaaGreatDoor Go.Proofs.YtkeeboomikkojaaGreatDoor.Sx

/-- a scanner's cells -/
def scn (s : ByteArray) (j : Nat) (out : Value) : List Value := [.string s, .int .i64 (j : Int), out]
abbrev ScAt (h : Hp) (G : Nat) (s : ByteArray) (j : Nat) (out : Value) : Prop := h[G]? = some (.cells (scn s j out).toArray 97 (0, 0))
def posOf (G : Nat) (h : Hp) : Nat := match h[G]? with | some (.cells cs _ _) => (match cs.toList with | [_, .int _ k, _] => k.toNat | _ => 0) | _ => 0
theorem posOf_scn {G : Nat} {h : Hp} {s : ByteArray} {j : Nat} {out : Value} (hb : ScAt h G s j out) : posOf G h = j := by
  unfold posOf
  rw [hb]
  simp [scn]
abbrev rest (s : ByteArray) (j : Nat) : List UInt8 := (bytesOf s).drop j
theorem rest_len (s : ByteArray) (j : Nat) : (rest s j).length = s.size - j := by rw [List.length_drop, bytes_len]
theorem rest_end (s : ByteArray) : rest s s.size = [] := List.drop_eq_nil_of_le (by rw [bytes_len]; exact Nat.le_refl _)
theorem ScAt.set {h : Hp} {G j j' : Nat} {s : ByteArray} {out : Value} (hb : ScAt h G s j out) {x : Int} (hx : x = (j' : Int)) {K : Hp → Prop}
    (hk : ∀ h', ScAt h' G s j' out → Keep (fun k => k = G) h h' → K h') : storeK1 h (Addr.add ⟨G, 0, none⟩ 1) (.int .i64 x) K := by
  subst hx
  rw [addr_add, Nat.zero_add]
  exact storeK1_of hb (by show 1 < 3; decide) (hk _ (hp_set_same hb) (Keep.set (S := fun k => k = G) _ rfl))

section
variable {ω : Amb}
theorem blank_law {h : Hp} {G j : Nat} {s : ByteArray} {out : Value} (hs : s.size ≤ 20000) (hj : j ≤ s.size) (hb : ScAt h G s j out) (X : List PanicEntry → Hp → Prop) :
    CallX Tryz.prog ω n_p_token_scanner_blank [.pointer (some ⟨G, 0, none⟩)] h (fun _ h' => ScAt h' G s (j + blanks false (rest s j)) out ∧ Keep (fun k => k = G) h h') X := by
  refine C_p_token_scanner_blank ω _ h _ X ?_
  unfold W_p_token_scanner_blank
  refine ⟨fun r h' => ∃ (k : Nat) (b : Bool), r = .bool b ∧ k ≤ s.size ∧ ScAt h' G s k out ∧ Keep (fun k => k = G) h h' ∧ k + blanks b (rest s k) = j + blanks false (rest s j),
    fun _ h' => s.size - posOf G h', ⟨j, false, rfl, hj, hb, Keep.refl _ _, rfl⟩, ?_⟩
  rintro _ _ h4 ⟨k, b, rfl, hk, hb4, k4, he⟩
  simp only [nnK_ptr, asP_some]
  refine lx hb4 rfl ?_
  refine lx hb4 rfl ?_
  rw [asS_str, asK_int]
  refine cond_c (fun hc => ?_) (fun hc => ?_)
  · have hlt : k < s.size := by have := of_decide_eq_true hc; omega
    have hd := dropc s hlt
    refine lx hb4 rfl ?_
    refine lx hb4 rfl ?_
    rw [asS_str, asI_int, byteAt_c]
    refine ⟨by omega, by omega, ?_⟩
    show ∃ J, _ ∧ _
    have hstep : blanks b (rest s k) = if (cAt s k).toNat = 10 then blanks false (rest s (k + 1)) + 1 else if b = true ∨ (cAt s k).toNat = 32 ∨ (cAt s k).toNat = 9 ∨ (cAt s k).toNat = 13 then blanks b (rest s (k + 1)) + 1 else if (cAt s k).toNat = 35 then blanks true (rest s (k + 1)) + 1 else 0 := by
      rw [rest, hd, blanks]
    generalize (cAt s k).toNat = c at *
    refine ⟨fun r h' => ∃ b', r = .bool b' ∧ h' = h4 ∧ k + 1 + blanks b' (rest s (k + 1)) = j + blanks false (rest s j), ?_, ?_⟩
    · refine ⟨fun r h' => ∃ b', r = .bool b' ∧ h' = h4 ∧ k + 1 + blanks b' (rest s (k + 1)) = j + blanks false (rest s j), ?_, fun _ _ _ hj => hj⟩
      refine cond_c (fun hc => ?_) (fun hc => ?_)
      · have hc' : c = 10 := by have := eq_of_beq hc; omega
        rw [if_pos hc'] at hstep
        exact ⟨false, rfl, rfl, by omega⟩
      · have hc' : ¬ c = 10 := by have := beq_eq_false_iff_ne.1 hc; omega
        rw [if_neg hc'] at hstep
        refine ⟨fun r h' => r = .bool (decide (b = true ∨ c = 32 ∨ c = 9 ∨ c = 13)) ∧ h' = h4, ?_, ?_⟩
        · rw [asB_bool]
          refine cond_c (fun hb => ⟨by rw [decide_eq_true (.inl hb), hb], rfl⟩) (fun hb => ?_)
          refine ⟨fun r h' => r = .bool (decide (b = true ∨ c = 32 ∨ c = 9 ∨ c = 13)) ∧ h' = h4, ?_, fun _ _ _ hj => hj⟩
          refine cond_c (fun hc => ?_) (fun hc => ?_)
          · have := eq_of_beq hc
            rw [hc, decide_eq_true (.inr (.inl (by omega)))]
            exact ⟨rfl, rfl⟩
          · have n1 := beq_eq_false_iff_ne.1 hc
            refine ⟨fun r h' => r = .bool (decide (b = true ∨ c = 32 ∨ c = 9 ∨ c = 13)) ∧ h' = h4, ?_, fun _ _ _ hj => hj⟩
            refine cond_c (fun hc => ?_) (fun hc => ?_)
            · have := eq_of_beq hc
              rw [hc, decide_eq_true (.inr (.inr (.inl (by omega))))]
              exact ⟨rfl, rfl⟩
            · have n2 := beq_eq_false_iff_ne.1 hc
              refine ⟨?_, rfl⟩
              congr 1
              subst hb
              rw [Bool.eq_iff_iff]
              simp
              omega
        · rintro _ _ h5 ⟨rfl, hh⟩
          rw [hh]
          refine ⟨fun r h' => ∃ b', r = .bool b' ∧ h' = h4 ∧ k + 1 + blanks b' (rest s (k + 1)) = j + blanks false (rest s j), ?_, fun _ _ _ hj => hj⟩
          rw [asB_bool]
          refine cond_c (fun hc => ?_) (fun hc => ?_)
          · rw [if_pos (of_decide_eq_true hc)] at hstep
            exact ⟨b, rfl, rfl, by omega⟩
          · rw [if_neg (of_decide_eq_false hc)] at hstep
            refine cond_c (fun hc => ?_) (fun hc => ?_)
            · have hc' : c = 35 := by have := eq_of_beq hc; omega
              rw [if_pos hc'] at hstep
              exact ⟨true, rfl, rfl, by omega⟩
            · have hc' : ¬ c = 35 := by have := beq_eq_false_iff_ne.1 hc; omega
              rw [if_neg hc'] at hstep
              rw [hstep, Nat.add_zero] at he
              rw [← he]
              exact ⟨hb4, k4⟩
    · rintro _ _ h5 ⟨b', rfl, hh, he'⟩
      rw [hh]
      refine lx hb4 rfl ?_
      rw [asK_int]
      refine hb4.set (j' := k + 1) (by rw [i64_in (by omega) (by omega)]; omega) fun h6 hb6 k6 => ?_
      refine ⟨⟨k + 1, b', rfl, by omega, hb6, k4.trans k6, he'⟩, ?_⟩
      rw [posOf_scn hb6, posOf_scn hb4]
      omega
  · have hge : k = s.size := by have := of_decide_eq_false hc; omega
    subst hge
    rw [rest_end] at he
    rw [← he]
    exact ⟨hb4, k4⟩

theorem run_law {h : Hp} {G j : Nat} {s : ByteArray} {out : Value} (hs : s.size ≤ 20000) (hj : j ≤ s.size) (hb : ScAt h G s j out) (X : List PanicEntry → Hp → Prop) :
    CallX Tryz.prog ω n_p_token_scanner_run [.pointer (some ⟨G, 0, none⟩)] h (fun r h' => r = .string (s.extract j (j + run (rest s j))) ∧ ScAt h' G s (j + run (rest s j)) out ∧ Keep (fun k => k = G) h h') X := by
  refine C_p_token_scanner_run ω _ h _ X ?_
  unfold W_p_token_scanner_run
  simp only [nnK_ptr, asP_some]
  refine lx hb rfl ?_
  refine ⟨fun h' => ∃ k : Nat, k ≤ s.size ∧ ScAt h' G s k out ∧ Keep (fun k => k = G) h h' ∧ k + run (rest s k) = j + run (rest s j),
    fun h' => s.size - posOf G h', ⟨j, hj, hb, Keep.refl _ _, rfl⟩, ?_⟩
  rintro _ h4 ⟨k, hk, hb4, k4, he⟩
  refine ⟨fun r h' => r = .bool (decide (k < s.size) && ld (cAt s k)) ∧ h' = h4, ?_, ?_⟩
  · refine lx hb4 rfl ?_
    refine lx hb4 rfl ?_
    rw [asS_str, asK_int]
    refine cond_c (fun hc => ?_) (fun hc => ?_)
    · have hlt : k < s.size := by have := of_decide_eq_true hc; omega
      refine lx hb4 rfl ?_
      refine lx hb4 rfl ?_
      rw [asS_str, asI_int, byteAt_c]
      refine ⟨by omega, by omega, ?_⟩
      refine CallX.use (letter_law _ h4) ?_
      rintro _ _ ⟨rfl, hh⟩
      rw [hh, asB_bool, decide_eq_true hlt, Bool.true_and, Tk.ld]
      refine cond_c (fun hc => ⟨by rw [hc]; rfl, rfl⟩) (fun hc => ?_)
      refine lx hb4 rfl ?_
      refine lx hb4 rfl ?_
      rw [asS_str, asI_int, byteAt_c, hc]
      refine ⟨by omega, by omega, ?_⟩
      refine CallX.use (digit_law _ h4) ?_
      rintro _ _ ⟨rfl, hh⟩
      rw [hh]
      exact ⟨rfl, rfl⟩
    · have hge : ¬ k < s.size := by have := of_decide_eq_false hc; omega
      rw [decide_eq_false hge]
      exact ⟨rfl, rfl⟩
  · rintro _ _ h5 ⟨rfl, hh⟩
    rw [hh, asB_bool]
    refine cond_c (fun hc => ?_) (fun hc => ?_)
    · rw [Bool.and_eq_true] at hc
      have hlt := of_decide_eq_true hc.1
      rw [rest, dropc s hlt, run_cons, if_pos hc.2] at he
      refine lx hb4 rfl ?_
      rw [asK_int]
      refine hb4.set (j' := k + 1) (by rw [i64_in (by omega) (by omega)]; omega) fun h6 hb6 k6 => ?_
      refine ⟨⟨k + 1, by omega, hb6, k4.trans k6, by show k + 1 + run ((bytesOf s).drop (k + 1)) = _; omega⟩, ?_⟩
      show s.size - posOf G h6 < s.size - posOf G h4
      rw [posOf_scn hb6, posOf_scn hb4]
      omega
    · have he0 : run (rest s k) = 0 := by
        by_cases hlt : k < s.size
        · rw [decide_eq_true hlt, Bool.true_and] at hc
          rw [rest, dropc s hlt, run_cons, if_neg (by rw [hc]; decide)]
        · have : k = s.size := by omega
          rw [this, rest_end]
          rfl
      rw [he0, Nat.add_zero] at he
      refine lx hb4 rfl ?_
      refine lx hb4 rfl ?_
      rw [asS_str, asI_int, asI_int, Int.toNat_natCast, Int.toNat_natCast, ← he]
      exact ⟨by omega, by omega, by omega, rfl, hb4, k4⟩

theorem enc_one (c : UInt8) (hc : c.toNat < 128) : Utf8.encode (IntKind.wrap .i32 (c.toNat : Int)) = ⟨#[c]⟩ := by
  have h1 : IntKind.wrap .i32 (c.toNat : Int) = (c.toNat : Int) := by rw [IntKind.wrap_i32]; omega
  rw [h1]
  have : ∀ n : Fin 128, Utf8.encode ((n : Nat) : Int) = ⟨#[UInt8.ofNat n]⟩ := by decide +kernel
  have := this ⟨c.toNat, hc⟩
  rw [this]
  simp

theorem sign_law {h : Hp} {G j : Nat} {s : ByteArray} {out : Value} (hs : s.size ≤ 20000) (hj : j < s.size) (hb : ScAt h G s j out) (X : List PanicEntry → Hp → Prop) :
    CallX Tryz.prog ω n_p_token_scanner_sign [.pointer (some ⟨G, 0, none⟩)] h (fun r h' => h' = h ∧ r = .string (
      if (cAt s j).toNat = 61 then (if j + 1 < s.size ∧ (cAt s (j + 1)).toNat = 61 then ⟨#[61, 61]⟩ else ⟨#[61]⟩) else if isSign (cAt s j) = true then ⟨#[cAt s j]⟩ else ⟨#[]⟩)) X := by
  refine C_p_token_scanner_sign ω _ h _ X ?_
  unfold W_p_token_scanner_sign
  simp only [nnK_ptr, asP_some]
  refine lx hb rfl ?_
  refine lx hb rfl ?_
  rw [asS_str, asI_int, byteAt_c]
  refine ⟨by omega, by omega, ?_⟩
  refine cond_c (fun hc => ?_) (fun hc => ?_)
  · have hc' : (cAt s j).toNat = 61 := by have := eq_of_beq hc; omega
    rw [if_pos hc']
    have hw : IntKind.wrap .i64 ((j : Int) + 1) = ((j + 1 : Nat) : Int) := by rw [i64_in (by omega) (by omega)]; omega
    refine ⟨decide (j + 1 < s.size ∧ (cAt s (j + 1)).toNat = 61), ?_, fun _ => ?_⟩
    · refine lx hb rfl ?_
      rw [asK_int]
      refine lx hb rfl ?_
      rw [asS_str, hw]
      refine cond_c (fun hc => ?_) (fun hc => ?_)
      · refine lx hb rfl ?_
        refine lx hb rfl ?_
        have := of_decide_eq_true hc
        rw [asK_int, asS_str, hw, byteAt_c]
        refine ⟨by omega, by omega, ?_, trivial⟩
        congr 1
        rw [Bool.eq_iff_iff]
        simp
        omega
      · have := of_decide_eq_false hc
        rw [decide_eq_false (by omega)]
        exact ⟨rfl, trivial⟩
    · refine cond_c (fun hc => ?_) (fun hc => ?_)
      · rw [if_pos (of_decide_eq_true hc)]
        exact ⟨trivial, rfl⟩
      · rw [if_neg (of_decide_eq_false hc)]
        exact ⟨trivial, rfl⟩
  · have hc' : ¬ (cAt s j).toNat = 61 := by have := beq_eq_false_iff_ne.1 hc; omega
    rw [if_neg hc']
    refine ⟨fun r h' => r = .bool (isSign (cAt s j)) ∧ h' = h, ?_, ?_⟩
    rotate_left
    · rintro _ _ _ ⟨rfl, hh⟩
      rw [hh, asB_bool]
      refine cond_c (fun hc => ?_) (fun hc => ?_)
      · rw [if_pos hc, enc_one _ (by
          simp only [isSign, Bool.or_eq_true, decide_eq_true_eq] at hc
          omega)]
        exact ⟨rfl, rfl⟩
      · rw [if_neg (by rw [hc]; decide)]
        exact ⟨rfl, rfl⟩
    unfold isSign
    generalize (cAt s j).toNat = c
    refine cond_c (fun hc => ?_) (fun hc => ?_)
    · have := eq_of_beq hc
      rw [hc, decide_eq_true (by omega : c = 40)]
      exact ⟨rfl, rfl⟩
    rw [decide_eq_false (by have := beq_eq_false_iff_ne.1 hc; omega : ¬ c = 40), Bool.false_or]
    refine ⟨fun r h' => r = _ ∧ h' = h, ?_, fun _ _ _ hj => hj⟩
    refine cond_c (fun hc => ?_) (fun hc => ?_)
    · have := eq_of_beq hc
      rw [hc, decide_eq_true (by omega : c = 41)]
      exact ⟨rfl, rfl⟩
    rw [decide_eq_false (by have := beq_eq_false_iff_ne.1 hc; omega : ¬ c = 41), Bool.false_or]
    refine ⟨fun r h' => r = _ ∧ h' = h, ?_, fun _ _ _ hj => hj⟩
    refine cond_c (fun hc => ?_) (fun hc => ?_)
    · have := eq_of_beq hc
      rw [hc, decide_eq_true (by omega : c = 123)]
      exact ⟨rfl, rfl⟩
    rw [decide_eq_false (by have := beq_eq_false_iff_ne.1 hc; omega : ¬ c = 123), Bool.false_or]
    refine ⟨fun r h' => r = _ ∧ h' = h, ?_, fun _ _ _ hj => hj⟩
    refine cond_c (fun hc => ?_) (fun hc => ?_)
    · have := eq_of_beq hc
      rw [hc, decide_eq_true (by omega : c = 125)]
      exact ⟨rfl, rfl⟩
    rw [decide_eq_false (by have := beq_eq_false_iff_ne.1 hc; omega : ¬ c = 125), Bool.false_or]
    refine ⟨fun r h' => r = _ ∧ h' = h, ?_, fun _ _ _ hj => hj⟩
    refine cond_c (fun hc => ?_) (fun hc => ?_)
    · have := eq_of_beq hc
      rw [hc, decide_eq_true (by omega : c = 44)]
      exact ⟨rfl, rfl⟩
    rw [decide_eq_false (by have := beq_eq_false_iff_ne.1 hc; omega : ¬ c = 44), Bool.false_or]
    refine ⟨fun r h' => r = _ ∧ h' = h, ?_, fun _ _ _ hj => hj⟩
    refine cond_c (fun hc => ?_) (fun hc => ?_)
    · have := eq_of_beq hc
      rw [hc, decide_eq_true (by omega : c = 59)]
      exact ⟨rfl, rfl⟩
    rw [decide_eq_false (by have := beq_eq_false_iff_ne.1 hc; omega : ¬ c = 59), Bool.false_or]
    refine ⟨fun r h' => r = _ ∧ h' = h, ?_, fun _ _ _ hj => hj⟩
    refine cond_c (fun hc => ?_) (fun hc => ?_)
    · have := eq_of_beq hc
      rw [hc, decide_eq_true (by omega : c = 43)]
      exact ⟨rfl, rfl⟩
    rw [decide_eq_false (by have := beq_eq_false_iff_ne.1 hc; omega : ¬ c = 43), Bool.false_or]
    refine ⟨fun r h' => r = _ ∧ h' = h, ?_, fun _ _ _ hj => hj⟩
    refine cond_c (fun hc => ?_) (fun hc => ?_)
    · have := eq_of_beq hc
      rw [hc, decide_eq_true (by omega : c = 45)]
      exact ⟨rfl, rfl⟩
    rw [decide_eq_false (by have := beq_eq_false_iff_ne.1 hc; omega : ¬ c = 45), Bool.false_or]
    refine ⟨fun r h' => r = _ ∧ h' = h, ?_, fun _ _ _ hj => hj⟩
    refine cond_c (fun hc => ?_) (fun hc => ?_)
    · have := eq_of_beq hc
      rw [hc, decide_eq_true (by omega : c = 42)]
      exact ⟨rfl, rfl⟩
    rw [decide_eq_false (by have := beq_eq_false_iff_ne.1 hc; omega : ¬ c = 42), Bool.false_or]
    refine ⟨?_, rfl⟩
    congr 1
    rw [Bool.eq_iff_iff]
    simp
    omega
end
end Go.Proofs.YtkeeboomikkojaaGreatDoor.Tkz

namespace Go.Proofs.YtkeeboomikkojaaGreatDoor.Tkz
open Go Go.Sx Go.Sx.Tk Go.Proofs.YtkeeboomikkojaaGreatDoor Go.Proofs.YtkeeboomikkojaaGreatDoor.Sx
section
variable {ω : Amb}
theorem small8 {c : UInt8} (hc : dg c = true) : IntKind.wrap .u8 ((c.toNat : Int) - 48) = (c.toNat : Int) - 48 := by
  simp only [dg, Bool.and_eq_true, decide_eq_true_eq] at hc
  rw [IntKind.wrap_u8]
  omega
/-- what is seen of a number ahead of its digits -/
def odd (s : ByteArray) : Bool := decide (18 < s.size) || (decide (1 < s.size) && decide ((cAt s 0).toNat = 48))
theorem odd_iff (s : ByteArray) : odd s = true ↔ 18 < s.size ∨ (1 < s.size ∧ (cAt s 0).toNat = 48) := by simp [odd]
theorem numL_eq (s : ByteArray) : numL (bytesOf s) = if odd s = true ∨ (bytesOf s).all dg = false then none else some (valD (bytesOf s)) := by
  unfold numL
  rw [bytes_len]
  have : (18 < s.size ∨ 1 < s.size ∧ ((bytesOf s).getD 0 0).toNat = 48 ∨ (bytesOf s).all dg = false) ↔ (odd s = true ∨ (bytesOf s).all dg = false) := by
    rw [odd_iff, or_assoc]
    rfl
  by_cases h : odd s = true ∨ (bytesOf s).all dg = false
  · rw [if_pos h, if_pos (this.2 h)]
  · rw [if_neg h, if_neg fun x => h (this.1 x)]
theorem odd_cond (s : ByteArray) (h : Hp) : (asS (.string s) fun s2 => cond (decide (((ByteArray.size s2 : Int) : Int) > 18))
 (((.bool true) : Value) = .bool (odd s) ∧ h = h)
 (asS (.string s) fun s3 => cond (decide (((ByteArray.size s3 : Int) : Int) > 1))
 (asS (.string s) fun s4 => 0 ≤ (0 : Int) ∧ 0 < (ByteArray.size s4 : Int) ∧ ((.bool ((byteAt s4 0) == (48 : Int))) : Value) = .bool (odd s) ∧ h = h)
 (((.bool false) : Value) = .bool (odd s) ∧ h = h))) := by
  unfold odd
  rw [asS_str]
  refine cond_c (fun hc => ⟨?_, rfl⟩) (fun hc => ?_)
  · have := of_decide_eq_true hc
    rw [decide_eq_true (by omega : 18 < s.size), Bool.true_or]
  · have n1 := of_decide_eq_false hc
    rw [asS_str, decide_eq_false (by omega : ¬ 18 < s.size), Bool.false_or]
    refine cond_c (fun hc => ?_) (fun hc => ?_)
    · have := of_decide_eq_true hc
      rw [asS_str, byteAt_z, decide_eq_true (by omega : 1 < s.size), Bool.true_and]
      refine ⟨by omega, by omega, ?_, rfl⟩
      congr 1
      rw [Bool.eq_iff_iff]
      simp
      omega
    · have := of_decide_eq_false hc
      rw [decide_eq_false (by omega : ¬ 1 < s.size), Bool.false_and]
      exact ⟨rfl, rfl⟩

end
end Go.Proofs.YtkeeboomikkojaaGreatDoor.Tkz

namespace Go.Proofs.YtkeeboomikkojaaGreatDoor.Tkz
open Go Go.Sx Go.Sx.Tk Go.Proofs.YtkeeboomikkojaaGreatDoor Go.Proofs.YtkeeboomikkojaaGreatDoor.Sx

section
variable {ω : Amb}
theorem t2 : (∀ a b : Value, (#[a, b] : Array Value)[0]? = some a) ∧ (∀ a b : Value, (#[a, b] : Array Value)[1]? = some b) := ⟨fun _ _ => rfl, fun _ _ => rfl⟩
theorem asIf_nil (F : Bool → Prop) : asIf .nilIface F = F true := rfl
theorem ne_nil {s : ByteArray} (h : 0 < s.size) : (s.toList == ByteArray.toList ⟨#[]⟩) = false := by
  rw [eqS, decide_eq_false]
  intro e
  have := congrArg List.length e
  rw [bytes_len, bytes_len] at this
  have h1 : ByteArray.size ⟨#[]⟩ = 0 := rfl
  omega
theorem ParseUint_law {s : ByteArray} (h0 : 0 < s.size) (h18 : s.size ≤ 18) (hd : (bytesOf s).all dg = true) (h : Hp) (X : List PanicEntry → Hp → Prop) :
    CallX Tryz.prog ω n_internal_strconv_ParseUint [.string s, .int .i64 10, .int .i64 64] h (fun r h' => r = .tuple #[.int .u64 (valD (bytesOf s)), .nilIface] ∧ Keep (fun _ => False) h h') X := by
  refine C_internal_strconv_ParseUint ω _ _ _ h _ X ?_
  unfold W_internal_strconv_ParseUint
  rw [asS_str, ne_nil h0]
  refine cond_f rfl ?_
  rw [asK_int]
  refine ⟨fun b t h' => b = .int .i64 10 ∧ t = .string s ∧ h' = h, ?_, ?_⟩
  · refine ⟨fun r h' => r = .bool true ∧ h' = h, ?_, ?_⟩
    · rw [asK_int]
      refine cond_t rfl ?_
      rw [asK_int]
      exact ⟨rfl, rfl⟩
    rintro _ _ h1 ⟨rfl, hh⟩
    rw [hh]
    refine ⟨fun b t h' => b = .int .i64 10 ∧ t = .string s ∧ h' = h, ?_, fun _ _ _ _ hj => hj⟩
    rw [asB_bool]
    exact cond_t rfl ⟨rfl, rfl, rfl⟩
  rintro _ _ _ h1 ⟨rfl, rfl, hh⟩
  rw [hh]
  refine ⟨fun r h' => r = .int .i64 64 ∧ h' = h, ?_, ?_⟩
  · refine cond_f rfl ?_
    refine ⟨false, ?_, fun _ => cond_f rfl ⟨rfl, rfl⟩⟩
    rw [asK_int]
    refine cond_f rfl ?_
    rw [asK_int]
    exact ⟨rfl, rfl⟩
  rintro _ _ h2 ⟨rfl, hh⟩
  rw [hh]
  refine ⟨fun r h' => r = .int .u64 1844674407370955162 ∧ h' = h, ?_, ?_⟩
  · rw [asK_int]
    exact ⟨fun r h' => r = .int .u64 1844674407370955162 ∧ h' = h, cond_t rfl ⟨rfl, rfl⟩, fun _ _ _ hj => hj⟩
  rintro _ _ h3 ⟨rfl, hh⟩
  rw [hh, asI_int]
  refine ⟨by decide, ?_⟩
  unfold bytesK
  rw [Tryz.underlying9, Tryz.underlying107]
  simp only [Tryz.underlying5]
  rw [asS_str]
  intro cap h4 hsz hold hcell
  have k4 : Keep (fun _ => False) h h4 := ⟨hsz, fun k hk _ => hold k hk⟩
  rw [asSl_sl]
  refine ⟨fun u n i h' => h' = h4 ∧ u = .bool false ∧ ∃ k : Nat, i = .int .i64 k ∧ k ≤ s.size ∧ n = .int .u64 (valD ((bytesOf s).take k)),
    fun _ _ i _ => match i with | .int _ k => s.size - k.toNat | _ => 0, ⟨rfl, rfl, 0, rfl, by omega, rfl⟩, ?_⟩
  rintro _ _ _ _ h5 ⟨hh, rfl, k, rfl, hk, rfl⟩
  rw [hh, asK_int]
  refine cond_c (fun hc => ?_) (fun hc => ?_)
  · have hlt : k < s.size := by have := of_decide_eq_true hc; omega
    have hcd := all_at hd hlt
    obtain ⟨v0, v1, v2, v3⟩ := val_take hk h18 (all_take hd k)
    have v3 := v3 hlt
    have hdd := hcd
    simp only [dg, Bool.and_eq_true, decide_eq_true_eq] at hdd
    have hcl := hcell k hlt
    refine ⟨fun u n h' => h' = h4 ∧ u = .bool false ∧ n = .int .u64 (valD ((bytesOf s).take (k + 1))), ?_, ?_⟩
    · rw [asSl1_sl, asI_int]
      refine ⟨by omega, by omega, ?_⟩
      rw [addr_add, Int.toNat_natCast, Nat.mul_one, Nat.zero_add]
      refine ⟨.int .u8 ((cAt s k).toNat : Int), hcl, ?_⟩
      refine ⟨fun u d h' => h' = h4 ∧ u = .bool false ∧ d = .int .u8 (((cAt s k).toNat : Int) - 48), ?_, ?_⟩
      · refine ⟨fun r h' => r = .bool false ∧ h' = h4, ?_, ?_⟩
        · rw [asK_int]
          exact cond_f (by simp; omega) ⟨rfl, rfl⟩
        rintro _ _ h6 ⟨rfl, hh⟩
        rw [hh, asB_bool]
        refine cond_f rfl ?_
        refine ⟨fun r h' => r = .bool true ∧ h' = h4, ?_, ?_⟩
        · rw [asK_int]
          refine cond_t (by simp; omega) ?_
          rw [asK_int]
          exact ⟨by congr 1; simp; omega, rfl⟩
        rintro _ _ h6 ⟨rfl, hh⟩
        rw [hh]
        refine ⟨fun r h' => r = .int .u8 (((cAt s k).toNat : Int) - 48) ∧ h' = h4, ?_, ?_⟩
        · rw [asB_bool]
          refine cond_t rfl ?_
          rw [asK_int, small8 hcd]
          exact ⟨rfl, rfl⟩
        rintro _ _ h6 ⟨rfl, hh⟩
        exact ⟨hh, rfl, rfl⟩
      rintro _ _ _ h6 ⟨hh, rfl, rfl⟩
      rw [hh, asI_int, asK_int]
      refine cond_f ?_ ?_
      · have : IntKind.wrap .u8 10 = 10 := by decide
        rw [this]
        simp
        omega
      rw [asK_int, asK_int]
      refine cond_f (by simp; omega) ?_
      rw [asI_int, asK_int, asI_int]
      have e1 : IntKind.wrap .u64 10 = 10 := by decide
      have e2 : IntKind.wrap .u64 (valD ((bytesOf s).take k) * 10) = valD ((bytesOf s).take k) * 10 := by rw [IntKind.wrap_u64]; omega
      have e3 : IntKind.wrap .u64 (((cAt s k).toNat : Int) - 48) = ((cAt s k).toNat : Int) - 48 := by rw [IntKind.wrap_u64]; omega
      have e4 : IntKind.wrap .u64 (valD ((bytesOf s).take k) * 10 + (((cAt s k).toNat : Int) - 48)) = valD ((bytesOf s).take k) * 10 + (((cAt s k).toNat : Int) - 48) := by rw [IntKind.wrap_u64]; omega
      rw [e1, e2, e3, e4]
      refine ⟨false, ?_, fun _ => cond_f rfl ⟨rfl, rfl, ?_⟩⟩
      · refine cond_f (by simp; omega) ⟨?_, trivial⟩
        have e5 : IntKind.wrap .u64 (shI .u64 .shl 1 (IntKind.wrap .u64 64) - 1) = 18446744073709551615 := by decide
        rw [e5]
        congr 1
        simp
        omega
      · rw [take_snoc s hlt, valD_snoc]
        congr 1
        omega
    · rintro _ _ _ h6 ⟨hh, rfl, rfl⟩
      rw [asK_int, i64_in (by omega) (by omega)]
      exact ⟨⟨hh, rfl, k + 1, by simp, by omega, rfl⟩, by simp; omega⟩
  · have hke : k = s.size := by have := of_decide_eq_false hc; omega
    subst hke
    rw [take_all]
    refine ⟨fun r h' => r = .bool false ∧ h' = h4, ?_, ?_⟩
    · rw [asB_bool]
      exact cond_f rfl ⟨rfl, rfl⟩
    rintro _ _ h6 ⟨rfl, hh⟩
    rw [hh, asB_bool]
    exact cond_f rfl ⟨rfl, k4⟩

theorem IParseInt_law {s : ByteArray} (h0 : 0 < s.size) (h18 : s.size ≤ 18) (hd : (bytesOf s).all dg = true) (h : Hp) (X : List PanicEntry → Hp → Prop) :
    CallX Tryz.prog ω n_internal_strconv_ParseInt [.string s, .int .i64 10, .int .i64 64] h (fun r h' => r = .tuple #[.int .i64 (valD (bytesOf s)), .nilIface] ∧ Keep (fun _ => False) h h') X := by
  refine C_internal_strconv_ParseInt ω _ _ _ h _ X ?_
  unfold W_internal_strconv_ParseInt
  rw [asS_str, ne_nil h0]
  refine cond_f rfl ?_
  have hc := all_at hd h0
  simp only [dg, Bool.and_eq_true, decide_eq_true_eq] at hc
  rw [asS_str]
  refine ⟨by omega, by omega, ?_⟩
  refine ⟨fun t n h' => t = .string s ∧ n = .bool false ∧ h' = h, ?_, ?_⟩
  · refine ⟨fun t n h' => t = .string s ∧ n = .bool false ∧ h' = h, ?_, fun _ _ _ _ hj => hj⟩
    rw [byteAt_z]
    refine cond_f (by simp; omega) ?_
    refine ⟨fun t n h' => t = .string s ∧ n = .bool false ∧ h' = h, ?_, fun _ _ _ _ hj => hj⟩
    exact cond_f (by simp; omega) ⟨rfl, rfl, rfl⟩
  rintro _ _ _ h1 ⟨rfl, rfl, hh⟩
  rw [hh]
  refine CallX.use (ParseUint_law h0 h18 hd h) ?_
  rintro _ h2 ⟨rfl, k2⟩
  simp only [asT_tup, t2, asO_some]
  have hv := val_take (Nat.le_refl _) h18 (all_take hd _)
  rw [take_all] at hv
  obtain ⟨v0, v1, v2, _⟩ := hv
  refine ⟨false, ?_, fun _ => cond_f rfl ?_⟩
  · rw [asIf_nil]
    exact cond_f rfl ⟨rfl, trivial⟩
  rw [asK_int]
  refine ⟨fun r h' => r = .int .i64 64 ∧ h' = h2, cond_f rfl ⟨rfl, rfl⟩, ?_⟩
  rintro _ _ h3 ⟨rfl, hh⟩
  rw [hh, asK_int]
  refine ⟨by decide, false, ?_, fun _ => cond_f rfl ?_⟩
  · rw [asB_bool]
    refine cond_t rfl ?_
    rw [asK_int]
    refine ⟨?_, trivial⟩
    have e5 : shI .u64 .shl 1 (IntKind.wrap .u64 (IntKind.wrap .i64 (64 - 1))) = 9223372036854775808 := by decide
    rw [e5]
    congr 1
    simp
    omega
  refine ⟨false, ?_, fun _ => cond_f rfl ?_⟩
  · rw [asB_bool]
    exact cond_f rfl ⟨rfl, trivial⟩
  rw [asI_int]
  refine ⟨fun r h' => r = .int .i64 (valD (bytesOf s)) ∧ h' = h2, ?_, ?_⟩
  · rw [asB_bool]
    refine cond_f rfl ?_
    rw [i64_in (by omega) (by omega)]
    exact ⟨rfl, rfl⟩
  rintro _ _ h3 ⟨rfl, hh⟩
  rw [hh]
  exact ⟨rfl, k2⟩
theorem ParseInt_law {s : ByteArray} (h0 : 0 < s.size) (h18 : s.size ≤ 18) (hd : (bytesOf s).all dg = true) (h : Hp) (X : List PanicEntry → Hp → Prop) :
    CallX Tryz.prog ω n_strconv_ParseInt [.string s, .int .i64 10, .int .i64 64] h (fun r h' => r = .tuple #[.int .i64 (valD (bytesOf s)), .nilIface] ∧ Keep (fun _ => False) h h') X := by
  refine C_strconv_ParseInt ω _ _ _ h _ X ?_
  unfold W_strconv_ParseInt
  refine CallX.use (IParseInt_law h0 h18 hd h) ?_
  rintro _ h2 ⟨rfl, k2⟩
  simp only [asT_tup, t2, asO_some, asIf_nil]
  exact cond_f rfl ⟨trivial, k2⟩

theorem number_law {s : ByteArray} (h0 : 0 < s.size) (hs : s.size ≤ 20000) (h : Hp) (X : List PanicEntry → Hp → Prop) :
    CallX Tryz.prog ω n_token_number [.string s] h (fun r h' => r = .tuple #[.int .i64 ((numL (bytesOf s)).getD 0), .bool (numL (bytesOf s)).isSome] ∧ Keep (fun _ => False) h h') X := by
  refine C_token_number ω _ h _ X ?_
  unfold W_token_number
  rw [numL_eq]
  refine ⟨odd s, odd_cond s h, fun _ => cond_c (fun hc => ?_) (fun hno => ?_)⟩
  · rw [if_pos (.inl hc)]
    exact ⟨rfl, Keep.refl _ _⟩
  · have h18 : s.size ≤ 18 := by
      have := mt (odd_iff s).2 (by rw [hno]; decide)
      omega
    rw [asS_str]
    refine ⟨fun i h' => h' = h ∧ ∃ k : Nat, i = .int .i64 k ∧ k ≤ s.size ∧ ((bytesOf s).take k).all dg = true,
      fun i _ => match i with | .int _ k => s.size - k.toNat | _ => 0, ⟨rfl, 0, rfl, by omega, rfl⟩, ?_⟩
    rintro _ _ h4 ⟨hh, k, rfl, hk, hd⟩
    rw [hh, asK_int]
    refine cond_c (fun hc => ?_) (fun hc => ?_)
    · have hlt : k < s.size := by have := of_decide_eq_true hc; omega
      rw [asS_str, asI_int, byteAt_c]
      refine ⟨by omega, by omega, ?_⟩
      refine CallX.use (digit_law _ h) ?_
      rintro _ _ ⟨rfl, hh⟩
      rw [hh, asB_bool]
      refine cond_c (fun hc => ?_) (fun hc => ?_)
      · have hc' : dg (cAt s k) = false := by simpa using hc
        have hall : (bytesOf s).all dg = false := by
          cases ha : (bytesOf s).all dg
          · rfl
          · rw [all_at ha hlt] at hc'
            cases hc'
        rw [if_pos (.inr hall)]
        exact ⟨rfl, Keep.refl _ _⟩
      · have hc' : dg (cAt s k) = true := by simpa using hc
        rw [asK_int, i64_in (by omega) (by omega)]
        refine ⟨⟨rfl, k + 1, by simp, by omega, ?_⟩, by simp; omega⟩
        rw [take_snoc s hlt, List.all_append, hd]
        simpa using hc'
    · have hke : k = s.size := by have := of_decide_eq_false hc; omega
      subst hke
      rw [take_all] at hd
      rw [if_neg (by rw [hd]; simp [hno])]
      refine CallX.use (ParseInt_law h0 h18 hd h) ?_
      rintro _ h2 ⟨rfl, k2⟩
      simp only [asT_tup, t2, asO_some]
      exact ⟨rfl, k2⟩
end
end Go.Proofs.YtkeeboomikkojaaGreatDoor.Tkz

namespace Go.Proofs.YtkeeboomikkojaaGreatDoor.Tkz
open Go Go.Sx Go.Sx.Tk Go.Proofs.YtkeeboomikkojaaGreatDoor Go.Proofs.YtkeeboomikkojaaGreatDoor.Sx

/-- a cell of a struct in a block of its own -/
theorem blkSet {h : Hp} {L : Nat} {cs : List Value} {t : TypeId} (hb : h[L]? = some (.cells cs.toArray t (0, 0))) {j : Nat} {v : Value} (hj : j < cs.length) {K : Hp → Prop}
    (hk : ∀ h', h'[L]? = some (.cells (cs.set j v).toArray t (0, 0)) → Keep (fun k => k = L) h h' → K h') : storeK1 h (Addr.add ⟨L, 0, none⟩ j) v K := by
  rw [addr_add, Nat.zero_add]
  refine storeK1_of hb (by simpa using hj) (hk _ ?_ (Keep.set (S := fun k => k = L) _ rfl))
  rw [hp_set_same hb]
  simp

theorem oneL_at (s : ByteArray) {j : Nat} (hj : j < s.size) : oneL 2 3 4 (rest s j) =
    if lo (cAt s j) = true then (if isWord ((rest s j).take (run (rest s j))) = true then .tok 1 (run (rest s j)) 0 else if 12 < run (rest s j) then .bad 4 else .tok 2 (run (rest s j)) 0)
    else if dg (cAt s j) = true then (match numL ((rest s j).take (run (rest s j))) with | none => .bad 3 | some n => .tok 3 (run (rest s j)) n)
    else if (cAt s j).toNat = 61 then (if j + 1 < s.size ∧ (cAt s (j + 1)).toNat = 61 then .tok 4 2 0 else .tok 4 1 0)
    else if isSign (cAt s j) = true then .tok 4 1 0 else .bad 2 := by
  have hd : rest s j = cAt s j :: rest s (j + 1) := dropc s hj
  generalize hr : rest s j = l at *
  subst hd
  unfold oneL
  simp only
  split
  · rfl
  · split
    · rfl
    · split
      · by_cases h1 : j + 1 < s.size
        · have h2 : rest s (j + 1) = cAt s (j + 1) :: rest s (j + 1 + 1) := dropc s h1
          rw [h2]
          simp only [h1, true_and]
        · rw [if_neg (by omega)]
          have h2 : rest s (j + 1) = [] := List.drop_eq_nil_of_le (by rw [bytes_len]; omega)
          rw [h2]
      · rfl
theorem text_eq (s : ByteArray) (j n : Nat) : s.extract j (j + n) = ⟨((rest s j).take n).toArray⟩ := extract_eq s j n
theorem text_bytes (s : ByteArray) (j n : Nat) : bytesOf (s.extract j (j + n)) = (rest s j).take n := by rw [text_eq]; rfl
theorem text_size (s : ByteArray) (j : Nat) : (s.extract j (j + run (rest s j))).size = run (rest s j) := by
  rw [← bytes_len, text_bytes, List.length_take]
  have := run_le (rest s j)
  omega

/-- the token at a place -/
def tokAt (s : ByteArray) (j : Nat) (kind : Int) (len : Nat) (n : Int) : Tok := ⟨kind, j, ⟨((rest s j).take len).toArray⟩, n⟩
def OneR (s : ByteArray) (G j : Nat) (out : Value) (base : Nat) (ts : List Tok) (h : Hp) (r : Value) (h' : Hp) : Prop :=
  match oneL 2 3 4 (rest s j) with
  | .bad e => r = .int .i64 e ∧ Keep (fun k => k = G) h h'
  | .tok kind len n => r = .int .i64 0 ∧ ∃ out', ScAt h' G s (j + len) out' ∧ OwnH h' base 100 4 out' (ts ++ [tokAt s j kind len n]).length ((ts ++ [tokAt s j kind len n]).flatMap Tok.f) ∧
      Keep (fun k => k = G ∨ out.ownBlock = some k) h h' ∧ (∀ k, out'.ownBlock = some k → out.ownBlock = some k ∨ h.size ≤ k)

section
variable {ω : Amb}
set_option maxRecDepth 100000 in
theorem one_law {h : Hp} {G j base : Nat} {s : ByteArray} {out : Value} {ts : List Tok} (hs : s.size ≤ 12000) (hj : j < s.size) (hb : ScAt h G s j out)
    (ho : OwnH h base 100 4 out ts.length (ts.flatMap Tok.f)) (hts : ts.length ≤ j) (hbase : base ≤ h.size) (X : List PanicEntry → Hp → Prop) :
    CallX Tryz.prog ω n_p_token_scanner_one [.pointer (some ⟨G, 0, none⟩)] h (OneR s G j out base ts h) X := by
  refine C_p_token_scanner_one ω _ h _ X ?_
  unfold W_p_token_scanner_one
  simp only [nnK_ptr, asP_some]
  refine lx hb rfl ?_
  refine ⟨trivial, ?_, storeK_local (cs := [.int .i64 0, .int .i64 (j : Int), .string ⟨#[]⟩, .int .i64 0]) rfl ?_⟩
  · intro u hu
    simp only [List.mem_cons, List.not_mem_nil, or_false] at hu
    rcases hu with rfl | rfl | rfl | rfl <;> rfl
  have hGl : G < h.size := hp_lt hb
  have hb2 : ScAt (h.push (.cells (List.toArray [.int .i64 0, .int .i64 (j : Int), .string ⟨#[]⟩, .int .i64 0]) 100 (0, 0))) G s j out := hp_push_old hb
  have hl2 := hp_push_new (h := h) (o := .cells (List.toArray [.int .i64 0, .int .i64 (j : Int), .string ⟨#[]⟩, .int .i64 0]) 100 (0, 0))
  have k2 : Keep (fun k => k = G) h (h.push (.cells (List.toArray [.int .i64 0, .int .i64 (j : Int), .string ⟨#[]⟩, .int .i64 0]) 100 (0, 0))) := Keep.push _ _
  generalize h.push (.cells (List.toArray [.int .i64 0, .int .i64 (j : Int), .string ⟨#[]⟩, .int .i64 0]) 100 (0, 0)) = h2 at *
  refine lx hb2 rfl ?_
  refine lx hb2 rfl ?_
  rw [asS_str, asI_int, byteAt_c]
  refine ⟨by omega, by omega, ?_⟩
  have hone := oneL_at s hj
  have hrl := run_le (rest s j)
  have hrn := rest_len s j
  have htl := text_size s j
  have htb := text_bytes s j (run (rest s j))
  have hte := text_eq s j (run (rest s j))
  have hrpos : Tk.ld (cAt s j) = true → 0 < run (rest s j) := fun hl => by rw [rest, dropc s hj, run_cons, if_pos hl]; omega
  have hGL : G ≠ h.size := by omega
  have kloc : ∀ {a b : Hp}, Keep (fun k => k = G) h a → Keep (fun k => k = h.size) a b → Keep (fun k => k = G) h b := fun ka kb => ka.newer (kb.mono fun k _ hk => .inr (Nat.le_of_eq hk.symm))
  refine ⟨fun h' => ∃ kind len n, oneL 2 3 4 (rest s j) = .tok kind len n ∧ h'[h.size]? = some (.cells (tokAt s j kind len n).f.toArray 100 (0, 0)) ∧ ScAt h' G s (j + len) out ∧ Keep (fun k => k = G) h h', ?_, ?_⟩
  · refine CallX.use (letter_law _ h2) ?_
    rintro _ _ ⟨rfl, hh⟩
    rw [hh]
    refine ⟨fun h' => ∃ kind len n, oneL 2 3 4 (rest s j) = .tok kind len n ∧ h'[h.size]? = some (.cells (tokAt s j kind len n).f.toArray 100 (0, 0)) ∧ ScAt h' G s (j + len) out ∧ Keep (fun k => k = G) h h', ?_, fun _ _ hj => hj⟩
    rw [asB_bool]
    refine cond_c (fun hlo => ?_) (fun hlo => ?_)
    · rw [if_pos hlo] at hone
      refine CallX.use (run_law (by omega) (by omega) hb2) ?_
      rintro _ h3 ⟨rfl, hb3, k3⟩
      generalize s.extract j (j + run (rest s j)) = x at *
      rw [oneK_str]
      refine blkSet (k3.get hl2 (by omega)) (by simp) fun h4 hl4 k4 => ?_
      refine blkSet hl4 (by simp) fun h5 hl5 k5 => ?_
      have hb5 := k5.get (k4.get hb3 (by omega)) (by omega)
      have kk5 := kloc (kloc (k2.trans k3) k4) k5
      simp only [st] at hl5
      refine lx hl5 rfl ?_
      refine CallX.use (Word_law x h5) ?_
      rintro _ _ ⟨rfl, hh⟩
      rw [hh]
      refine ⟨fun h' => ∃ kind len n, oneL 2 3 4 (rest s j) = .tok kind len n ∧ h'[h.size]? = some (.cells (tokAt s j kind len n).f.toArray 100 (0, 0)) ∧ ScAt h' G s (j + len) out ∧ Keep (fun k => k = G) h h', ?_, fun _ _ hj => hj⟩
      rw [asB_bool, htb]
      refine cond_c (fun hw => ?_) (fun hw => ?_)
      · rw [if_pos hw] at hone
        refine blkSet hl5 (by simp) fun h6 hl6 k6 => ?_
        refine ⟨_, _, _, hone, ?_, k6.get hb5 (by omega), kloc kk5 k6⟩
        simp only [st] at hl6
        rw [hl6, hte]
        rfl
      · rw [if_neg (by rw [hw]; decide)] at hone
        refine lx hl5 rfl ?_
        rw [asS_str, htl]
        refine cond_c (fun hc => ?_) (fun hc => ?_)
        · have := of_decide_eq_true hc
          rw [if_pos (by omega)] at hone
          unfold OneR
          rw [hone]
          exact ⟨rfl, kk5⟩
        · have := of_decide_eq_false hc
          rw [if_neg (by omega)] at hone
          refine ⟨_, _, _, hone, ?_, hb5, kk5⟩
          rw [hl5, hte]
          rfl
    · rw [if_neg (by rw [hlo]; decide)] at hone
      refine CallX.use (digit_law _ h2) ?_
      rintro _ _ ⟨rfl, hh⟩
      rw [hh]
      refine ⟨fun h' => ∃ kind len n, oneL 2 3 4 (rest s j) = .tok kind len n ∧ h'[h.size]? = some (.cells (tokAt s j kind len n).f.toArray 100 (0, 0)) ∧ ScAt h' G s (j + len) out ∧ Keep (fun k => k = G) h h', ?_, fun _ _ hj => hj⟩
      rw [asB_bool]
      refine cond_c (fun hdg => ?_) (fun hdg => ?_)
      · rw [if_pos hdg] at hone
        have hrp := hrpos (by rw [Tk.ld, hdg, Bool.or_true])
        refine CallX.use (run_law (by omega) (by omega) hb2) ?_
        rintro _ h3 ⟨rfl, hb3, k3⟩
        generalize s.extract j (j + run (rest s j)) = x at *
        rw [oneK_str]
        refine blkSet (k3.get hl2 (by omega)) (by simp) fun h4 hl4 k4 => ?_
        simp only [st] at hl4
        refine lx hl4 rfl ?_
        refine CallX.use (number_law (by omega) (by omega) h4) ?_
        rintro _ h5 ⟨rfl, k5⟩
        simp only [asT_tup, t2, asO_some, asB_bool]
        rw [htb]
        have hb5 := k5.get (k4.get hb3 (by omega)) (by simp)
        have kk5 := (kloc (k2.trans k3) k4).trans (k5.mono (by simp))
        have hl5 := k5.get hl4 (by simp)
        cases hn : numL ((rest s j).take (run (rest s j))) with
        | none =>
          rw [hn] at hone
          refine cond_t rfl ?_
          unfold OneR
          rw [hone]
          exact ⟨rfl, kk5⟩
        | some n =>
          rw [hn] at hone
          refine cond_f rfl ?_
          refine blkSet hl5 (by simp) fun h6 hl6 k6 => ?_
          rw [oneK_int]
          refine blkSet hl6 (by simp) fun h7 hl7 k7 => ?_
          simp only [st] at hl7
          refine ⟨_, _, _, hone, ?_, k7.get (k6.get hb5 (by omega)) (by omega), kloc (kloc kk5 k6) k7⟩
          rw [hl7, hte]
          rfl
      · rw [if_neg (by rw [hdg]; decide)] at hone
        refine CallX.use (sign_law (by omega) hj hb2) ?_
        rintro _ h3 ⟨hh, rfl⟩
        rw [hh]
        have hsig : ∃ x : ByteArray, (if (cAt s j).toNat = 61 then (if j + 1 < s.size ∧ (cAt s (j + 1)).toNat = 61 then (⟨#[61, 61]⟩ : ByteArray) else ⟨#[61]⟩) else if isSign (cAt s j) = true then ⟨#[cAt s j]⟩ else ⟨#[]⟩) = x ∧
            ((x.size = 0 ∧ oneL 2 3 4 (rest s j) = .bad 2) ∨ (0 < x.size ∧ x.size ≤ 2 ∧ oneL 2 3 4 (rest s j) = .tok 4 x.size 0 ∧ x = ⟨((rest s j).take x.size).toArray⟩)) := by
          have hd : rest s j = cAt s j :: rest s (j + 1) := dropc s hj
          refine ⟨_, rfl, ?_⟩
          split
          · rename_i h61
            rw [if_pos h61] at hone
            have hc61 : cAt s j = 61 := UInt8.toNat_inj.1 (by rw [h61]; rfl)
            split
            · rename_i h2
              rw [if_pos h2] at hone
              have hd2 : rest s (j + 1) = cAt s (j + 1) :: rest s (j + 1 + 1) := dropc s h2.1
              have hc2 : cAt s (j + 1) = 61 := UInt8.toNat_inj.1 (by rw [h2.2]; rfl)
              refine .inr ⟨by decide, by decide, hone, ?_⟩
              rw [hd, hd2, hc61, hc2]
              rfl
            · rename_i h2
              rw [if_neg h2] at hone
              refine .inr ⟨by decide, by decide, hone, ?_⟩
              rw [hd, hc61]
              rfl
          · rename_i h61
            rw [if_neg h61] at hone
            split
            · rename_i h2
              rw [if_pos h2] at hone
              have h1 : ByteArray.size ⟨#[cAt s j]⟩ = 1 := rfl
              refine .inr ⟨by rw [h1]; decide, by rw [h1]; decide, by rw [h1]; exact hone, ?_⟩
              rw [h1, hd]
              rfl
            · rename_i h2
              rw [if_neg h2] at hone
              exact .inl ⟨rfl, hone⟩
        obtain ⟨x, hx, hsig⟩ := hsig
        rw [hx]
        refine blkSet hl2 (by simp) fun h4 hl4 k4 => ?_
        rw [oneK_str]
        refine blkSet hl4 (by simp) fun h5 hl5 k5 => ?_
        have hb5 : ScAt h5 G s j out := k5.get (k4.get hb2 (by omega)) (by omega)
        have kk5 := kloc (kloc k2 k4) k5
        simp only [st] at hl5
        refine lx hl5 rfl ?_
        rw [asS_str]
        rcases hsig with ⟨h0, hbad⟩ | ⟨hp, hp2, htok, hxe⟩
        · refine cond_t ?_ ?_
          · rw [eqS, decide_eq_true_eq]
            refine List.eq_nil_of_length_eq_zero ?_
            rw [bytes_len, h0]
          · unfold OneR
            rw [hbad]
            exact ⟨rfl, kk5⟩
        · rw [ne_nil hp]
          refine cond_f rfl ?_
          refine lx hb5 rfl ?_
          refine lx hl5 rfl ?_
          rw [asS_str, asK_int]
          refine hb5.set (j' := j + x.size) (by rw [i64_in (by omega) (by omega)]; omega) fun h6 hb6 k6 => ?_
          refine ⟨_, _, _, htok, ?_, hb6, kk5.trans k6⟩
          rw [k6.get hl5 (by omega), tokAt, ← hxe]
          rfl
  rintro _ h3 ⟨kind, len, n, htok, hl3, hb3, k3⟩
  refine lx hb3 rfl ?_
  refine ⟨_, cellsH_blk hl3 rfl, ?_⟩
  simp only [List.append_nil]
  refine ⟨rfl, lx' (hp_push_old hb3) rfl, ?_⟩
  have ho3 : OwnH h3 base 100 4 out ts.length (ts.flatMap Tok.f) := ho.keepT k3 (OfTy.blk hb) (by decide)
  refine appK_one (bt := 40) (by kernel_rfl) ho3 rfl (tokAt s j kind len n).one (by omega) (by omega) (Nat.le_trans hbase k3.size) fun w h4 ho4 hg hne hown => ?_
  have hout : ∀ k, out.ownBlock = some k → k ≠ G := fun k hk hkG => by
    obtain ⟨c, hc⟩ := ho.blk hk
    rw [hkG, hb] at hc
    cases hc
  have k4 : Keep (fun k => out.ownBlock = some k) h3 h4 := Keep.grown hg fun k hk _ => hk
  have hb4 := k4.get hb3 (fun hk => hout G hk rfl)
  rw [oneK_eq (ownOne ho4)]
  have hwn : w ≠ .slice none 0 0 := hne
  have hwG : ∀ k, w.ownBlock = some k → k ≠ G := fun k hk hkG => by
    rcases hown k hk with h1 | h1
    · exact hout k h1 hkG
    · have := k3.size
      omega
  rw [addr_add, Nat.zero_add]
  refine storeK1_of hb4 (by show 2 < 3; decide) ?_
  unfold OneR
  rw [htok]
  have k5 : Keep (fun k => k = G) h4 (h4.setIfInBounds G (.cells ((scn s (j + len) out).toArray.setIfInBounds 2 w) 97 (0, 0))) := Keep.set (S := fun k => k = G) _ rfl
  refine ⟨rfl, w, ?_, ?_, ?_, ?_⟩
  · rw [ScAt, hp_set_same hb4]
    simp [scn]
  · have := ho4.keep (h' := h4.setIfInBounds G (.cells ((scn s (j + len) out).toArray.setIfInBounds 2 w) 97 (0, 0))) fun k hk hlt => k5.block k hlt (hwG k hk)
    rw [List.length_append, List.flatMap_append]
    simpa using this
  · exact ((k3.mono fun k _ hk => .inl hk).trans (k4.mono fun k _ hk => .inr hk)).trans (k5.mono fun k _ hk => .inl hk)
  · intro k hk
    rcases hown k hk with h1 | h1
    · exact .inl h1
    · have := k3.size
      exact .inr (by omega)
end
end Go.Proofs.YtkeeboomikkojaaGreatDoor.Tkz

namespace Go.Proofs.YtkeeboomikkojaaGreatDoor.Tkz
open Go Go.Sx Go.Sx.Tk Go.Proofs.YtkeeboomikkojaaGreatDoor Go.Proofs.YtkeeboomikkojaaGreatDoor.Sx

abbrev Sc (l : List UInt8) (a : Int) (res : Res) : Prop := Scans 2 3 4 l a res
/-- what a scan gives -/
inductive ScanOut (s : ByteArray) (h : Hp) (r : Value) (h' : Hp) : Prop
  | big (hb : 12000 < s.size) (hr : r = .tuple #[.slice none 0 0, .agg (flt 1 12000).toArray]) (hk : Keep (fun _ => False) h h')
  | ok (ts : List Tok) (v : Value) (hb : s.size ≤ 12000) (hs : Sc (bytesOf s) 0 (.ok ts)) (hr : r = .tuple #[v, .agg (flt 0 0).toArray]) (ho : OwnH h' h.size 100 4 v ts.length (ts.flatMap Tok.f)) (hk : Keep (fun _ => False) h h')
  | bad (e a : Int) (hb : s.size ≤ 12000) (hs : Sc (bytesOf s) 0 (.error (e, a))) (hr : r = .tuple #[.slice none 0 0, .agg (flt e a).toArray]) (hk : Keep (fun _ => False) h h')

/-- on the way -/
structure St (s : ByteArray) (h : Hp) (j : Nat) (ts : List Tok) (out : Value) (h' : Hp) : Prop where
  le : j ≤ s.size
  own : OwnH h' h.size 100 4 out ts.length (ts.flatMap Tok.f)
  len : ts.length ≤ j
  keep : Keep (fun _ => False) h h'
  flt : h'[h.size]? = some (.cells (Go.Proofs.YtkeeboomikkojaaGreatDoor.flt 0 0).toArray 28 (0, 0))
  run : ∀ res, Sc (rest s j) j res → Sc (bytesOf s) 0 (prep ts res)
theorem St.start (s : ByteArray) (h : Hp) {h' : Hp} (hk : Keep (fun _ => False) h h') (hf : h'[h.size]? = some (.cells (Go.Proofs.YtkeeboomikkojaaGreatDoor.flt 0 0).toArray 28 (0, 0))) : St s h 0 [] (.slice none 0 0) h' :=
  ⟨Nat.zero_le _, OwnH.nil, Nat.le_refl _, hk, hf, fun res hs => by rw [prep_nil]; exact hs⟩
theorem St.more {s : ByteArray} {h h' h'' : Hp} {j : Nat} {ts : List Tok} {out : Value} (hst : St s h j ts out h') {G : Nat} (hk : Keep (fun k => k = G) h' h'') (hG : h.size < G) (hT : ∃ c, h'[G]? = some (.cells c 97 (0, 0))) : St s h j ts out h'' :=
  ⟨hst.le, by
    obtain ⟨c, hc⟩ := hT
    exact hst.own.keepT hk (OfTy.blk hc) (by decide), hst.len, hst.keep.newer (hk.mono fun k _ hk => .inr (by omega)), hk.get hst.flt (by omega), hst.run⟩
/-- a token more -/
theorem St.tok {s : ByteArray} {h h' h'' : Hp} {j j1 : Nat} {ts : List Tok} {out w : Value} (hst : St s h j ts out h') (hj1 : j1 = j + blanks false (rest s j)) (hlt : j1 < s.size) {kind : Int} {len : Nat} {n : Int}
    (ht : oneL 2 3 4 (rest s j1) = .tok kind len n) (ho : OwnH h'' h.size 100 4 w (ts ++ [tokAt s j1 kind len n]).length ((ts ++ [tokAt s j1 kind len n]).flatMap Tok.f)) (hk : Keep (fun _ => False) h h'')
    (hf : h''[h.size]? = some (.cells (Go.Proofs.YtkeeboomikkojaaGreatDoor.flt 0 0).toArray 28 (0, 0))) : St s h (j1 + len) (ts ++ [tokAt s j1 kind len n]) w h'' ∧ j1 < j1 + len := by
  obtain ⟨h1, h2⟩ := oneL_len ht
  rw [rest_len] at h2
  refine ⟨⟨by omega, ho, ?_, hk, hf, fun res hs => ?_⟩, by omega⟩
  · have := hst.len
    simp
    omega
  · have hd : (rest s j).drop (blanks false (rest s j)) = cAt s j1 :: rest s (j1 + 1) := by
      rw [List.drop_drop, ← hj1]
      exact dropc s hlt
    have hd1 : rest s j1 = cAt s j1 :: rest s (j1 + 1) := dropc s hlt
    have hrest : (cAt s j1 :: rest s (j1 + 1)).drop len = rest s (j1 + len) := by rw [← hd1, List.drop_drop]
    have hc1 : ((j1 + len : Nat) : Int) = (j : Int) + (blanks false (rest s j) : Nat) + (len : Nat) := by omega
    have hc2 : (j : Int) + (blanks false (rest s j) : Nat) = (j1 : Int) := by omega
    rw [hc1, ← hrest] at hs
    rw [← prep_app]
    refine hst.run _ ?_
    cases res with
    | ok us =>
      have := Scans.tok hd (by rw [← hd1]; exact ht) hs
      rw [← hd1, hc2] at this
      exact this
    | error x => exact Scans.fail hd (by rw [← hd1]; exact ht) hs
theorem St.bad {s : ByteArray} {h h' : Hp} {j j1 : Nat} {ts : List Tok} {out : Value} (hst : St s h j ts out h') (hj1 : j1 = j + blanks false (rest s j)) (hlt : j1 < s.size) {e : Int}
    (ht : oneL 2 3 4 (rest s j1) = .bad e) : Sc (bytesOf s) 0 (.error (e, (j1 : Int))) := by
  have hd : (rest s j).drop (blanks false (rest s j)) = cAt s j1 :: rest s (j1 + 1) := by
    rw [List.drop_drop, ← hj1]
    exact dropc s hlt
  have hd1 : rest s j1 = cAt s j1 :: rest s (j1 + 1) := dropc s hlt
  have := hst.run _ (Scans.bad hd (by rw [← hd1]; exact ht))
  have hc2 : (j : Int) + (blanks false (rest s j) : Nat) = (j1 : Int) := by omega
  rw [hc2] at this
  exact this
theorem St.stop {s : ByteArray} {h h' : Hp} {j : Nat} {ts : List Tok} {out : Value} (hst : St s h j ts out h') (hj1 : j + blanks false (rest s j) = s.size) : Sc (bytesOf s) 0 (.ok ts) := by
  have := hst.run _ (Scans.stop (by rw [List.drop_drop, hj1]; exact rest_end s))
  simpa [prep] using this
theorem bad_ne {l : List UInt8} {e : Int} (h : oneL 2 3 4 l = .bad e) : e = 2 ∨ e = 3 ∨ e = 4 := by
  unfold oneL at h
  split at h
  · cases h; exact .inl rfl
  · repeat' split at h
    all_goals cases h
    all_goals simp

/-- the fault is laid and read -/
theorem finF {h : Hp} {L : Nat} {cs ds : List Value} (hw : h[L]? = some (.cells ds.toArray 28 (0, 0))) (hd : ds.length = 2) (hc : cs.length = 2) {K : List Value → Hp → Prop}
    (hk : ∀ h', Keep (fun k => k = L) h h' → h'[L]? = some (.cells cs.toArray 28 (0, 0)) → K cs h') : storeK h ⟨L, 0, none⟩ cs fun h' => ∃ C, cellsH h' ⟨L, 0, none⟩ 2 C ∧ K C h' := by
  refine storeK_of hw (by simp; omega) ?_
  rw [spl_all (by simp; omega)]
  have hb := hp_set_same (o := .cells cs.toArray 28 (0, 0)) hw
  exact ⟨cs, cellsH_blk hb hc, hk _ (Keep.set (S := fun k => k = L) _ rfl) hb⟩

section
variable {ω : Amb}
set_option maxRecDepth 100000 in
theorem Scan_law (s : ByteArray) (h : Hp) (X : List PanicEntry → Hp → Prop) : CallX Tryz.prog ω n_token_Scan [.string s] h (ScanOut s h) X := by
  refine C_token_Scan ω _ h _ X ?_
  unfold W_token_Scan
  rw [asS_str]
  refine cond_c (fun hc => ?_) (fun hc => ?_)
  · have := of_decide_eq_true hc
    refine ⟨rfl, flt_one 1 12000, storeK_local (cs := flt 1 12000) rfl ?_⟩
    exact ⟨_, cellsH_local rfl, .big (by omega) rfl (Keep.push _ _)⟩
  have hs : s.size ≤ 12000 := by have := of_decide_eq_false hc; omega
  rw [oneK_str]
  have hG : Array.size (Array.push h (.cells #[(.int .i64 0), (.int .i64 0)] 28 (0, 0))) = h.size + 1 := by simp
  have hb0 : ScAt (Array.push (Array.push h (.cells #[(.int .i64 0), (.int .i64 0)] 28 (0, 0))) (.cells #[.string s, (.int .i64 0), (.slice none 0 0)] 97 (0, 0))) (h.size + 1) s 0 (.slice none 0 0) := by
    rw [← hG]
    exact hp_push_new
  have hf0 : (Array.push (Array.push h (.cells #[(.int .i64 0), (.int .i64 0)] 28 (0, 0))) (.cells #[.string s, (.int .i64 0), (.slice none 0 0)] 97 (0, 0)))[h.size]? = some (.cells (flt 0 0).toArray 28 (0, 0)) := hp_push_old hp_push_new
  have k0 : Keep (fun _ => False) h (Array.push (Array.push h (.cells #[(.int .i64 0), (.int .i64 0)] 28 (0, 0))) (.cells #[.string s, (.int .i64 0), (.slice none 0 0)] 97 (0, 0))) := (Keep.push _ _).trans (Keep.push _ _)
  rw [hG]
  generalize Array.push (Array.push h (.cells #[(.int .i64 0), (.int .i64 0)] 28 (0, 0))) (.cells #[.string s, (.int .i64 0), (.slice none 0 0)] 97 (0, 0)) = h0 at *
  have st0 := St.start s h k0 hf0
  refine CallX.use (blank_law (by omega) (Nat.zero_le _) hb0) ?_
  rintro _ h1 ⟨hb1, k1⟩
  have st1 := st0.more k1 (by omega) ⟨_, hb0⟩
  refine ⟨fun h' => ∃ j ts out, St s h j ts out h' ∧ ScAt h' (h.size + 1) s (j + blanks false (rest s j)) out, fun h' => s.size - posOf (h.size + 1) h', ⟨0, [], _, st1, hb1⟩, ?_⟩
  rintro _ h2 ⟨j, ts, out, st2, hb2⟩
  have hrl := rest_len s j
  have hbl := blanks_le false (rest s j)
  have hle := st2.le
  have hln := st2.len
  refine lx hb2 rfl ?_
  rw [asS_str, asK_int]
  refine cond_c (fun hc => ?_) (fun hc => ?_)
  · have hlt : j + blanks false (rest s j) < s.size := by have := of_decide_eq_true hc; omega
    refine lx hb2 rfl ?_
    refine CallX.use (one_law hs hlt hb2 st2.own (by omega) st2.keep.size) ?_
    intro r3 h3 hone
    unfold OneR at hone
    cases ht : oneL 2 3 4 (rest s (j + blanks false (rest s j))) with
    | bad e =>
      rw [ht] at hone
      obtain ⟨rfl, k3⟩ := hone
      have he := bad_ne ht
      rw [asK_int]
      refine cond_t (by simp; omega) ?_
      rw [oneK_int, oneK_int]
      have st3 := st2.more k3 (by omega) ⟨_, hb2⟩
      refine ⟨rfl, flt_one _ _, finF (cs := flt e _) st3.flt rfl rfl fun h4 k4 _ => ?_⟩
      exact .bad e _ hs (st2.bad rfl hlt ht) rfl (st3.keep.newer (k4.mono fun k _ hk => .inr (by omega)))
    | tok kind len n =>
      rw [ht] at hone
      obtain ⟨rfl, out3, hb3, ho3, k3, hw3⟩ := hone
      rw [asK_int]
      refine cond_f rfl ?_
      have hnf : ∀ k, out.ownBlock = some k → k ≠ h.size := fun k hk hkh => by
        obtain ⟨c, hc⟩ := st2.own.blk hk
        rw [hkh, st2.flt] at hc
        cases hc
      have hf3 := k3.get st2.flt (by
        rintro (hk | hk)
        · omega
        · exact hnf _ hk rfl)
      obtain ⟨st3, hgt⟩ := st2.tok rfl hlt ht ho3 (st2.keep.newer (k3.mono fun k hk hkk => .inr (by
        rcases hkk with rfl | hkk
        · omega
        · exact (st2.own.lt k hkk).1))) hf3
      refine CallX.use (blank_law (by omega) st3.le hb3) ?_
      rintro _ h4 ⟨hb4, k4⟩
      refine ⟨⟨_, _, out3, st3.more k4 (by omega) ⟨_, hb3⟩, hb4⟩, ?_⟩
      show s.size - posOf (h.size + 1) h4 < s.size - posOf (h.size + 1) h2
      rw [posOf_scn hb4, posOf_scn hb2]
      have := st3.le
      omega
  · have hge : j + blanks false (rest s j) = s.size := by have := of_decide_eq_false hc; omega
    refine lx hb2 rfl ?_
    refine ⟨rfl, flt_one 0 0, finF (cs := flt 0 0) st2.flt rfl rfl fun h4 k4 _ => ?_⟩
    refine .ok ts out hs (st2.stop hge) rfl ?_ (st2.keep.newer (k4.mono fun k _ hk => .inr (by omega)))
    exact st2.own.keepT k4 (OfTy.blk st2.flt) (by decide)

end
end Go.Proofs.YtkeeboomikkojaaGreatDoor.Tkz

namespace Go.Proofs.YtkeeboomikkojaaGreatDoor.Tkz
open Go Go.Sx Go.Sx.Tk Go.Proofs.YtkeeboomikkojaaGreatDoor Go.Proofs.YtkeeboomikkojaaGreatDoor.Sx
def Out (s : ByteArray) (ts : List Tok) (e a : Int) : Prop :=
  (12000 < s.size ∧ ts = [] ∧ e = 1 ∧ a = 12000) ∨ (s.size ≤ 12000 ∧ Sc (bytesOf s) 0 (.ok ts) ∧ e = 0 ∧ a = 0) ∨ (s.size ≤ 12000 ∧ Sc (bytesOf s) 0 (.error (e, a)) ∧ ts = [])
theorem Out.same {s : ByteArray} {ts us : List Tok} {e a e' a' : Int} (h : Out s ts e a) (k : Out s us e' a') : ts = us ∧ e = e' ∧ a = a' := by
  rcases h with ⟨h0, h1, h2, h3⟩ | ⟨h0, h1, h2, h3⟩ | ⟨h0, h1, h2⟩ <;> rcases k with ⟨k0, k1, k2, k3⟩ | ⟨k0, k1, k2, k3⟩ | ⟨k0, k1, k2⟩ <;> try omega
  · exact ⟨by rw [h1, k1], by rw [h2, k2], by rw [h3, k3]⟩
  · cases h1.same k1
    exact ⟨rfl, by rw [h2, k2], by rw [h3, k3]⟩
  · cases h1.same k1
  · cases h1.same k1
  · cases h1.same k1
    exact ⟨by rw [h2, k2], rfl, rfl⟩
theorem ScanOut.out {s : ByteArray} {h h' : Hp} {r : Value} (hs : ScanOut s h r h') : ∃ ts v e a, r = .tuple #[v, .agg (flt e a).toArray] ∧ Keep (fun _ => False) h h' ∧ Out s ts e a ∧ SlAt h' 4 v ts.length (ts.flatMap Tok.f) := by
  cases hs with
  | big hb hr hk => exact ⟨[], _, 1, 12000, hr, hk, .inl ⟨hb, rfl, rfl, rfl⟩, rfl, .inl ⟨rfl, _, _, rfl⟩⟩
  | ok ts v hb hs hr ho hk => exact ⟨ts, v, 0, 0, hr, hk, .inr (.inl ⟨hb, hs, rfl, rfl⟩), ho.slAt⟩
  | bad e a hb hs hr hk => exact ⟨[], _, e, a, hr, hk, .inr (.inr ⟨hb, hs, rfl⟩), rfl, .inl ⟨rfl, _, _, rfl⟩⟩
theorem Sc.len {l : List UInt8} {at_ : Int} {res : Res} (h : Sc l at_ res) : ∀ ts, res = .ok ts → ts.length ≤ l.length := by
  induction h with
  | stop _ => rintro _ ⟨⟩; simp
  | bad _ _ => rintro _ ⟨⟩
  | @tok l r at_ c kind len n ts h1 e1 k1 ih =>
    rintro _ ⟨⟩
    have := ih ts rfl
    have h2 := oneL_len e1
    have h3 := congrArg List.length h1
    rw [List.length_drop] at this h3
    simp only [List.length_cons] at *
    omega
  | fail _ _ _ _ => rintro _ ⟨⟩
theorem Out.len {s : ByteArray} {ts : List Tok} {e a : Int} (h : Out s ts e a) : ts.length ≤ 12000 := by
  rcases h with ⟨_, rfl, _⟩ | ⟨h0, h1, _⟩ | ⟨_, _, rfl⟩
  · simp
  · have := h1.len ts rfl
    rw [bytes_len] at this
    omega
  · simp
/-- an error stands in the text, and is none -/
theorem Sc.err {l : List UInt8} {at_ : Int} {res : Res} (h : Sc l at_ res) : ∀ e a, res = .error (e, a) → e ≠ 0 ∧ at_ ≤ a ∧ a ≤ at_ + l.length := by
  induction h with
  | stop _ => rintro _ _ ⟨⟩
  | @bad l r at_ c e0 h1 e1 =>
    rintro _ _ ⟨⟩
    have := bad_ne e1
    have := blanks_le false l
    omega
  | tok _ _ _ _ => rintro _ _ ⟨⟩
  | @fail l r at_ c kind len n x h1 e1 k1 ih =>
    intro e a he
    obtain ⟨h4, h5, h6⟩ := ih e a he
    have h2 := oneL_len e1
    have h3 := congrArg List.length h1
    rw [List.length_drop] at h6 h3
    simp only [List.length_cons] at *
    omega
end Go.Proofs.YtkeeboomikkojaaGreatDoor.Tkz
