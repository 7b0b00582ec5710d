/- Tokens: letters, digits, words, runs. -/
import Derived.Test.YtkeeboomikkojaaGreatDoorRnA
import Derived.Test.YtkeeboomikkojaaGreatDoorY9a
namespace Go.Proofs.YtkeeboomikkojaaGreatDoor
open Go Go.Sx Go.Sx.Tk Go.Proofs.YtkeeboomikkojaaGreatDoor.Sx

def bytesOf (s : ByteArray) : List UInt8 := s.data.toList
theorem bytes_len (s : ByteArray) : (bytesOf s).length = s.size := by simp [bytesOf]
def cAt (s : ByteArray) (k : Nat) : UInt8 := (bytesOf s).getD k 0
theorem byteAt_c (s : ByteArray) (k : Nat) : byteAt s (k : Int) = ((cAt s k).toNat : Int) := by rw [byteAt, Int.toNat_natCast]; rfl
theorem dropc (s : ByteArray) {k : Nat} (hk : k < s.size) : (bytesOf s).drop k = cAt s k :: (bytesOf s).drop (k + 1) := by
  have hl : k < (bytesOf s).length := by rw [bytes_len]; exact hk
  rw [List.drop_eq_getElem_cons hl]
  congr 1
  rw [cAt, List.getD_eq_getElem?_getD, List.getElem?_eq_getElem hl, Option.getD_some]
theorem eqS (a b : ByteArray) : (a.toList == b.toList) = decide (bytesOf a = bytesOf b) := by
  rw [ByteArray.toList_eq, ByteArray.toList_eq, Bool.eq_iff_iff]
  simp [bytesOf]
theorem bytes_ext {a b : ByteArray} (h : bytesOf a = bytesOf b) : a = b := by
  cases a; cases b
  simp only [bytesOf] at h
  congr 1
  exact Array.ext' h
theorem bytes_extract (s : ByteArray) (i j : Nat) : bytesOf (s.extract i j) = ((bytesOf s).drop i).take (j - i) := by
  rw [bytesOf, ByteArray.data_extract, Array.toList_extract]
  rfl
theorem extract_eq (s : ByteArray) (i n : Nat) : s.extract i (i + n) = ⟨(((bytesOf s).drop i).take n).toArray⟩ := by
  refine bytes_ext ?_
  rw [bytes_extract, Nat.add_sub_cancel_left]
  rfl

section
variable {ω : Amb}
theorem letter_law (c : UInt8) (h : Hp) (X : List PanicEntry → Hp → Prop) : CallX Tryz.prog ω n_token_letter [.int .u8 (c.toNat : Int)] h (fun r h' => r = .bool (lo c) ∧ h' = h) X := by
  refine C_token_letter ω _ h _ X ?_
  unfold W_token_letter lo
  refine ⟨fun r h' => r = .bool (decide (97 ≤ c.toNat) && decide (c.toNat ≤ 122)) ∧ h' = h, ?_, fun _ _ _ hj => hj⟩
  rw [asK_int]
  refine cond_c (fun hc => ?_) (fun hc => ⟨?_, rfl⟩)
  · rw [asK_int]
    have := of_decide_eq_true hc
    exact ⟨by congr 1; rw [Bool.eq_iff_iff]; simp; omega, rfl⟩
  · have := of_decide_eq_false hc
    rw [decide_eq_false (by omega), Bool.false_and]
theorem digit_law (c : UInt8) (h : Hp) (X : List PanicEntry → Hp → Prop) : CallX Tryz.prog ω n_token_digit [.int .u8 (c.toNat : Int)] h (fun r h' => r = .bool (dg c) ∧ h' = h) X := by
  refine C_token_digit ω _ h _ X ?_
  unfold W_token_digit dg
  refine ⟨fun r h' => r = .bool (decide (48 ≤ c.toNat) && decide (c.toNat ≤ 57)) ∧ h' = h, ?_, fun _ _ _ hj => hj⟩
  rw [asK_int]
  refine cond_c (fun hc => ?_) (fun hc => ⟨?_, rfl⟩)
  · rw [asK_int]
    have := of_decide_eq_true hc
    exact ⟨by congr 1; rw [Bool.eq_iff_iff]; simp; omega, rfl⟩
  · have := of_decide_eq_false hc
    rw [decide_eq_false (by omega), Bool.false_and]
theorem is_word {l w : List UInt8} (hw : w ∈ words) (h : decide (l = w) = true) : Value.bool (decide (l = w)) = .bool (isWord l) := by
  have := of_decide_eq_true h
  subst this
  rw [h, isWord, decide_eq_true hw]
theorem Word_law (s : ByteArray) (h : Hp) (X : List PanicEntry → Hp → Prop) : CallX Tryz.prog ω n_token_Word [.string s] h (fun r h' => r = .bool (isWord (bytesOf s)) ∧ h' = h) X := by
  refine C_token_Word ω _ h _ X ?_
  unfold W_token_Word
  rw [asS_str]
  refine ⟨fun r h' => r = .bool (isWord (bytesOf s)) ∧ h' = h, ?_, ?_⟩
  rotate_left
  · rintro _ _ _ ⟨rfl, hh⟩
    rw [hh, asB_bool]
    exact cond_c (fun hc => ⟨by rw [hc], rfl⟩) (fun hc => ⟨by rw [hc], rfl⟩)
  rw [eqS]
  refine cond_c (fun hc => ⟨is_word (by decide) hc, rfl⟩) (fun hc => ?_)
  have n0 := of_decide_eq_false hc
  rw [asS_str]
  refine ⟨fun r h' => r = .bool (isWord (bytesOf s)) ∧ h' = h, ?_, fun _ _ _ hj => hj⟩
  rw [eqS]
  refine cond_c (fun hc => ⟨is_word (by decide) hc, rfl⟩) (fun hc => ?_)
  have n1 := of_decide_eq_false hc
  rw [asS_str]
  refine ⟨fun r h' => r = .bool (isWord (bytesOf s)) ∧ h' = h, ?_, fun _ _ _ hj => hj⟩
  rw [eqS]
  refine cond_c (fun hc => ⟨is_word (by decide) hc, rfl⟩) (fun hc => ?_)
  have n2 := of_decide_eq_false hc
  rw [asS_str]
  refine ⟨fun r h' => r = .bool (isWord (bytesOf s)) ∧ h' = h, ?_, fun _ _ _ hj => hj⟩
  rw [eqS]
  refine cond_c (fun hc => ⟨is_word (by decide) hc, rfl⟩) (fun hc => ?_)
  have n3 := of_decide_eq_false hc
  rw [asS_str]
  refine ⟨fun r h' => r = .bool (isWord (bytesOf s)) ∧ h' = h, ?_, fun _ _ _ hj => hj⟩
  rw [eqS]
  refine cond_c (fun hc => ⟨is_word (by decide) hc, rfl⟩) (fun hc => ?_)
  have n4 := of_decide_eq_false hc
  rw [asS_str]
  refine ⟨fun r h' => r = .bool (isWord (bytesOf s)) ∧ h' = h, ?_, fun _ _ _ hj => hj⟩
  rw [eqS]
  refine cond_c (fun hc => ⟨is_word (by decide) hc, rfl⟩) (fun hc => ?_)
  have n5 := of_decide_eq_false hc
  rw [asS_str]
  refine ⟨fun r h' => r = .bool (isWord (bytesOf s)) ∧ h' = h, ?_, fun _ _ _ hj => hj⟩
  rw [eqS]
  refine cond_c (fun hc => ⟨is_word (by decide) hc, rfl⟩) (fun hc => ?_)
  have n6 := of_decide_eq_false hc
  rw [asS_str]
  refine ⟨fun r h' => r = .bool (isWord (bytesOf s)) ∧ h' = h, ?_, fun _ _ _ hj => hj⟩
  rw [eqS]
  refine cond_c (fun hc => ⟨is_word (by decide) hc, rfl⟩) (fun hc => ?_)
  have n7 := of_decide_eq_false hc
  rw [asS_str]
  refine ⟨fun r h' => r = .bool (isWord (bytesOf s)) ∧ h' = h, ?_, fun _ _ _ hj => hj⟩
  rw [eqS]
  refine cond_c (fun hc => ⟨is_word (by decide) hc, rfl⟩) (fun hc => ?_)
  have n8 := of_decide_eq_false hc
  rw [asS_str]
  refine ⟨fun r h' => r = .bool (isWord (bytesOf s)) ∧ h' = h, ?_, fun _ _ _ hj => hj⟩
  rw [eqS]
  refine cond_c (fun hc => ⟨is_word (by decide) hc, rfl⟩) (fun hc => ?_)
  have n9 := of_decide_eq_false hc
  rw [asS_str]
  refine ⟨fun r h' => r = .bool (isWord (bytesOf s)) ∧ h' = h, ?_, fun _ _ _ hj => hj⟩
  rw [eqS]
  refine cond_c (fun hc => ⟨is_word (by decide) hc, rfl⟩) (fun hc => ?_)
  have n10 := of_decide_eq_false hc
  rw [asS_str]
  refine ⟨fun r h' => r = .bool (isWord (bytesOf s)) ∧ h' = h, ?_, fun _ _ _ hj => hj⟩
  rw [eqS]
  refine cond_c (fun hc => ⟨is_word (by decide) hc, rfl⟩) (fun hc => ?_)
  have n11 := of_decide_eq_false hc
  rw [asS_str]
  refine ⟨fun r h' => r = .bool (isWord (bytesOf s)) ∧ h' = h, ?_, fun _ _ _ hj => hj⟩
  rw [eqS]
  refine cond_c (fun hc => ⟨is_word (by decide) hc, rfl⟩) (fun hc => ?_)
  have n12 := of_decide_eq_false hc
  rw [asS_str]
  refine ⟨fun r h' => r = .bool (isWord (bytesOf s)) ∧ h' = h, ?_, fun _ _ _ hj => hj⟩
  rw [eqS]
  refine cond_c (fun hc => ⟨is_word (by decide) hc, rfl⟩) (fun hc => ?_)
  have n13 := of_decide_eq_false hc
  rw [asS_str]
  refine ⟨fun r h' => r = .bool (isWord (bytesOf s)) ∧ h' = h, ?_, fun _ _ _ hj => hj⟩
  rw [eqS]
  refine cond_c (fun hc => ⟨is_word (by decide) hc, rfl⟩) (fun hc => ?_)
  have n14 := of_decide_eq_false hc
  rw [asS_str]
  refine ⟨fun r h' => r = .bool (isWord (bytesOf s)) ∧ h' = h, ?_, fun _ _ _ hj => hj⟩
  rw [eqS]
  refine cond_c (fun hc => ⟨is_word (by decide) hc, rfl⟩) (fun hc => ?_)
  have n15 := of_decide_eq_false hc
  rw [asS_str]
  refine ⟨fun r h' => r = .bool (isWord (bytesOf s)) ∧ h' = h, ?_, fun _ _ _ hj => hj⟩
  rw [eqS]
  refine cond_c (fun hc => ⟨is_word (by decide) hc, rfl⟩) (fun hc => ?_)
  have n16 := of_decide_eq_false hc
  rw [asS_str]
  refine ⟨fun r h' => r = .bool (isWord (bytesOf s)) ∧ h' = h, ?_, fun _ _ _ hj => hj⟩
  rw [eqS]
  refine cond_c (fun hc => ⟨is_word (by decide) hc, rfl⟩) (fun hc => ?_)
  have n17 := of_decide_eq_false hc
  rw [asS_str]
  refine ⟨?_, rfl⟩
  rw [eqS]
  congr 1
  rw [isWord, Bool.eq_iff_iff, decide_eq_true_eq, decide_eq_true_eq]
  refine ⟨fun e => by rw [e]; decide, fun e => ?_⟩
  simp only [words, List.mem_cons, List.not_mem_nil, or_false] at e
  rcases e with e | e | e | e | e | e | e | e | e | e | e | e | e | e | e | e | e | e | e
  · exact absurd e n0
  · exact absurd e n1
  · exact absurd e n2
  · exact absurd e n3
  · exact absurd e n4
  · exact absurd e n5
  · exact absurd e n6
  · exact absurd e n7
  · exact absurd e n8
  · exact absurd e n9
  · exact absurd e n10
  · exact absurd e n11
  · exact absurd e n12
  · exact absurd e n13
  · exact absurd e n14
  · exact absurd e n15
  · exact absurd e n16
  · exact absurd e n17
  · exact e
end
end Go.Proofs.YtkeeboomikkojaaGreatDoor

namespace Go.Proofs.YtkeeboomikkojaaGreatDoor
open Go Go.Sx Go.Sx.Tk Go.Proofs.YtkeeboomikkojaaGreatDoor.Sx

theorem valD_snoc (l : List UInt8) (c : UInt8) : valD (l ++ [c]) = 10 * valD l + ((c.toNat : Int) - 48) := by simp [valD]
theorem valD_le : ∀ (n : Nat) (l : List UInt8), l.length = n → l.all dg = true → 0 ≤ valD l ∧ valD l < 10 ^ n
  | 0, l, h, _ => by
    have : l = [] := List.eq_nil_of_length_eq_zero h
    subst this
    exact ⟨by decide, by decide⟩
  | n + 1, l, h, hd => by
    obtain ⟨l', c, rfl⟩ : ∃ l' c, l = l' ++ [c] := by
      rcases List.eq_nil_or_concat l with rfl | ⟨l', c, rfl⟩
      · simp at h
      · exact ⟨l', c, by simp⟩
    rw [List.all_append, Bool.and_eq_true] at hd
    obtain ⟨h1, h2⟩ := valD_le n l' (by simp at h; omega) hd.1
    have hc : dg c = true := by simpa using hd.2
    simp only [dg, Bool.and_eq_true, decide_eq_true_eq] at hc
    rw [valD_snoc, Int.pow_succ]
    omega
theorem take_snoc (s : ByteArray) {k : Nat} (hk : k < s.size) : (bytesOf s).take (k + 1) = (bytesOf s).take k ++ [cAt s k] := by
  have hl : k < (bytesOf s).length := by rw [bytes_len]; exact hk
  rw [List.take_succ_eq_append_getElem hl]
  congr 2
  rw [cAt, List.getD_eq_getElem?_getD, List.getElem?_eq_getElem hl, Option.getD_some]
theorem all_at {s : ByteArray} (h : (bytesOf s).all dg = true) {k : Nat} (hk : k < s.size) : dg (cAt s k) = true := by
  have hl : k < (bytesOf s).length := by rw [bytes_len]; exact hk
  rw [cAt, List.getD_eq_getElem?_getD, List.getElem?_eq_getElem hl, Option.getD_some]
  exact List.all_eq_true.1 h _ (List.getElem_mem hl)
theorem all_take {l : List UInt8} (h : l.all dg = true) (k : Nat) : (l.take k).all dg = true := by
  rw [List.all_eq_true] at h ⊢
  exact fun x hx => h x (List.mem_of_mem_take hx)
theorem take_all (s : ByteArray) : (bytesOf s).take s.size = bytesOf s := List.take_of_length_le (by rw [bytes_len]; exact Nat.le_refl _)
theorem val_take {s : ByteArray} {k : Nat} (hk : k ≤ s.size) (h18 : s.size ≤ 18) (hd : ((bytesOf s).take k).all dg = true) : 0 ≤ valD ((bytesOf s).take k) ∧ valD ((bytesOf s).take k) < 10 ^ k ∧ (10 : Int) ^ k ≤ 1000000000000000000 ∧ (k < s.size → (10 : Int) ^ k ≤ 100000000000000000) := by
  have h1 : ((bytesOf s).take k).length = k := by rw [List.length_take, bytes_len]; omega
  obtain ⟨h2, h3⟩ := valD_le k _ h1 hd
  refine ⟨h2, h3, ?_, fun hlt => ?_⟩
  · have : ∀ m : Fin 19, (10 : Int) ^ (m : Nat) ≤ 1000000000000000000 := by decide
    exact this ⟨k, by omega⟩
  · have : ∀ m : Fin 18, (10 : Int) ^ (m : Nat) ≤ 100000000000000000 := by decide
    exact this ⟨k, by omega⟩
/-- a fault's cells -/
def flt (code at_ : Int) : List Value := [.int .i64 code, .int .i64 at_]
theorem flt_one (c a : Int) : ∀ u ∈ flt c a, one u := by
  intro u hu
  simp only [flt, List.mem_cons, List.not_mem_nil, or_false] at hu
  rcases hu with rfl | rfl <;> rfl

section
variable {ω : Amb}
end
end Go.Proofs.YtkeeboomikkojaaGreatDoor

namespace Go.Proofs.YtkeeboomikkojaaGreatDoor
open Go Go.Sx Go.Sx.Tk Go.Proofs.YtkeeboomikkojaaGreatDoor.Sx

theorem byteAt_z (s : ByteArray) : byteAt s 0 = ((cAt s 0).toNat : Int) := byteAt_c s 0
def nameHead (s : ByteArray) : Bool := decide (0 < s.size) && (decide (s.size ≤ 12) && (lo (cAt s 0) && !isWord (bytesOf s)))
def isNameB (s : ByteArray) : Bool := nameHead s && (bytesOf s).all ld
theorem allL_at {s : ByteArray} (h : (bytesOf s).all ld = true) {k : Nat} (hk : k < s.size) : ld (cAt s k) = true := by
  have hl : k < (bytesOf s).length := by rw [bytes_len]; exact hk
  rw [cAt, List.getD_eq_getElem?_getD, List.getElem?_eq_getElem hl, Option.getD_some]
  exact List.all_eq_true.1 h _ (List.getElem_mem hl)

section
variable {ω : Amb}
theorem Name_law (s : ByteArray) (hs : s.size ≤ 20000) (h : Hp) (X : List PanicEntry → Hp → Prop) : CallX Tryz.prog ω n_token_Name [.string s] h (fun r h' => r = .bool (isNameB s) ∧ h' = h) X := by
  refine C_token_Name ω _ h _ X ?_
  unfold W_token_Name
  refine ⟨fun r h' => r = .bool (!nameHead s) ∧ h' = h, ?_, ?_⟩
  · unfold nameHead
    rw [asS_str, Bool.eq_iff_iff.2 (⟨fun he => ?_, fun he => ?_⟩ : (s.toList == ByteArray.toList ⟨#[]⟩) = true ↔ decide (s.size = 0) = true)]
    rotate_left
    · rw [eqS] at he
      have := congrArg List.length (of_decide_eq_true he)
      rw [bytes_len, bytes_len] at this
      simp only [decide_eq_true_eq]
      rw [this]
      rfl
    · rw [eqS, decide_eq_true_eq]
      refine List.eq_nil_of_length_eq_zero ?_
      rw [bytes_len]
      exact of_decide_eq_true he
    refine cond_c (fun hc => ?_) (fun hc => ?_)
    · have := of_decide_eq_true hc
      rw [decide_eq_false (by omega : ¬ 0 < s.size)]
      exact ⟨rfl, rfl⟩
    have h0 := of_decide_eq_false hc
    rw [asS_str, decide_eq_true (by omega : 0 < s.size), Bool.true_and]
    refine cond_c (fun hc => ?_) (fun hc => ?_)
    · have := of_decide_eq_true hc
      rw [decide_eq_false (by omega : ¬ s.size ≤ 12)]
      exact ⟨rfl, rfl⟩
    have h1 := of_decide_eq_false hc
    rw [asS_str, decide_eq_true (by omega : s.size ≤ 12), Bool.true_and, byteAt_z]
    refine ⟨by omega, by omega, ?_⟩
    refine CallX.use (letter_law _ h) ?_
    rintro _ _ ⟨rfl, hh⟩
    rw [hh, asB_bool]
    refine cond_c (fun hc => ?_) (fun hc => ?_)
    · have hc : lo (cAt s 0) = false := by simpa using hc
      rw [hc]
      exact ⟨rfl, rfl⟩
    · have hc : lo (cAt s 0) = true := by simpa using hc
      rw [hc, Bool.true_and, Bool.not_not]
      exact Word_law s h X
  rintro _ _ _ ⟨rfl, hh⟩
  rw [hh, asB_bool]
  unfold isNameB
  refine cond_c (fun hc => ?_) (fun hc => ?_)
  · have hc : nameHead s = false := by simpa using hc
    rw [hc]
    exact ⟨rfl, rfl⟩
  have hc : nameHead s = true := by simpa using hc
  rw [hc, Bool.true_and, asS_str]
  refine ⟨fun i h' => h' = h ∧ ∃ k : Nat, i = .int .i64 k ∧ k ≤ s.size ∧ ((bytesOf s).take k).all ld = true,
    fun i _ => match i with | .int _ k => s.size - k.toNat | _ => 0, ⟨rfl, 0, rfl, by omega, rfl⟩, ?_⟩
  rintro _ _ h4 ⟨hh, k, rfl, hk, hd⟩
  rw [hh, asK_int]
  refine cond_c (fun hc => ?_) (fun hc => ?_)
  · have hlt : k < s.size := by have := of_decide_eq_true hc; omega
    refine ⟨fun r h' => r = .bool (!ld (cAt s k)) ∧ h' = h, ?_, ?_⟩
    · rw [asS_str, asI_int, byteAt_c]
      refine ⟨by omega, by omega, ?_⟩
      refine CallX.use (letter_law _ h) ?_
      rintro _ _ ⟨rfl, hh⟩
      rw [hh, asB_bool, Tk.ld]
      refine cond_c (fun hc => ?_) (fun hc => ?_)
      · have hc : lo (cAt s k) = false := by simpa using hc
        rw [asS_str, asI_int, byteAt_c, hc, Bool.false_or]
        refine ⟨by omega, by omega, ?_⟩
        refine CallX.use (digit_law _ h) ?_
        rintro _ _ ⟨rfl, hh⟩
        rw [hh, asB_bool]
        exact ⟨rfl, rfl⟩
      · have hc : lo (cAt s k) = true := by simpa using hc
        rw [hc]
        exact ⟨rfl, rfl⟩
    rintro _ _ _ ⟨rfl, hh⟩
    rw [hh, asB_bool]
    refine cond_c (fun hc => ?_) (fun hc => ?_)
    · have hc : ld (cAt s k) = false := by simpa using hc
      refine ⟨?_, rfl⟩
      cases ha : (bytesOf s).all ld
      · rfl
      · rw [allL_at ha hlt] at hc
        cases hc
    · have hc : ld (cAt s k) = true := by simpa using hc
      rw [asK_int, i64_in (by omega) (by omega)]
      refine ⟨⟨rfl, k + 1, by simp, by omega, ?_⟩, by simp; omega⟩
      rw [take_snoc s hlt, List.all_append, hd]
      simpa using hc
  · have hke : k = s.size := by have := of_decide_eq_false hc; omega
    subst hke
    rw [take_all] at hd
    rw [hd]
    exact ⟨rfl, rfl⟩

end
end Go.Proofs.YtkeeboomikkojaaGreatDoor

namespace Go.Proofs.YtkeeboomikkojaaGreatDoor
open Go Go.Sx Go.Sx.Rn Go.Proofs.YtkeeboomikkojaaGreatDoor.Sx

/-- names are short -/
def okN (s : ByteArray) : Prop := s.size ≤ 100
mutual
def exOk : Ex → Prop
  | .mk _ nm _ l => okN nm ∧ exsOk l
def exsOk : List Ex → Prop
  | [] => True
  | x :: r => exOk x ∧ exsOk r
end
mutual
def stOk : St → Prop
  | .mk _ _ a b t _ e body els => okN a ∧ okN b ∧ okN t ∧ exsOk e ∧ stsOk body ∧ stsOk els
def stsOk : List St → Prop
  | [] => True
  | x :: r => stOk x ∧ stsOk r
end
theorem exOk_iff {x : Ex} : exOk x ↔ okN x.nm ∧ exsOk x.l := by cases x; exact Iff.rfl
theorem stOk_iff {x : St} : stOk x ↔ okN x.a ∧ okN x.b ∧ okN x.t ∧ exsOk x.e ∧ stsOk x.body ∧ stsOk x.els := by cases x; exact Iff.rfl
theorem exsOk_mem : ∀ {l : List Ex} {x : Ex}, exsOk l → x ∈ l → exOk x
  | y :: r, x, h, hx => by
    unfold exsOk at h
    rcases List.mem_cons.1 hx with rfl | hx
    · exact h.1
    · exact exsOk_mem h.2 hx
theorem stsOk_mem : ∀ {l : List St} {x : St}, stsOk l → x ∈ l → stOk x
  | y :: r, x, h, hx => by
    unfold stsOk at h
    rcases List.mem_cons.1 hx with rfl | hx
    · exact h.1
    · exact stsOk_mem h.2 hx
theorem exsN_snoc : ∀ (l : List Ex) (x : Ex), exsN (l ++ [x]) = exsN l + exN x
  | [], x => by simp [exsN]
  | y :: r, x => by simp only [List.cons_append, exsN, exsN_snoc]; omega
theorem stsN_snoc : ∀ (l : List St) (x : St), stsN (l ++ [x]) = stsN l + stN x
  | [], x => by simp [stsN]
  | y :: r, x => by simp only [List.cons_append, stsN, stsN_snoc]; omega
theorem tk_snoc {α : Type} {l : List α} {i : Nat} {x : α} (hx : l[i]? = some x) : l.take (i + 1) = l.take i ++ [x] := by rw [List.take_add_one, hx]; rfl
/-- a program that is gone through in time -/
structure Small (p : List Sg) : Prop where
  len : p.length ≤ 100
  nm : ∀ s ∈ p, okN s.nm ∧ s.ps.length ≤ 100 ∧ (∀ q ∈ s.ps, okN q.1 ∧ okN q.2) ∧ stsOk s.body
  tot : (p.map fun s => stsN s.body).sum ≤ 20000

section
variable {ω : Amb}
end
end Go.Proofs.YtkeeboomikkojaaGreatDoor

namespace Go.Proofs.YtkeeboomikkojaaGreatDoor
open Go Go.Sx Go.Sx.Rn Go.Proofs.YtkeeboomikkojaaGreatDoor.Sx

/-- a program in memory: a struct of one slice -/
def PgS (h : Hp) (v : Value) (p : List Sg) : Prop := ∃ w, v = .agg #[w] ∧ SgS h w p
theorem PgS.keep {h h' : Hp} {v : Value} {p : List Sg} (hs : PgS h v p) (k : Keep (fun _ => False) h h') : PgS h' v p := by
  obtain ⟨w, rfl, h1⟩ := hs
  exact ⟨w, rfl, h1.keep k⟩
def okS (s : Sg) : Prop := okN s.nm ∧ s.ps.length ≤ 100 ∧ (∀ q ∈ s.ps, okN q.1 ∧ okN q.2) ∧ stsOk s.body
theorem SgS.isSl {h : Hp} {v : Value} {l : List Sg} (hs : SgS h v l) : isSl v := by
  obtain ⟨us, h1, _⟩ := hs
  exact SlAt.isSl h1.1
section
variable {ω : Amb}
end
end Go.Proofs.YtkeeboomikkojaaGreatDoor

namespace Go.Proofs.YtkeeboomikkojaaGreatDoor
open Go Go.Sx Go.Sx.Rn Go.Proofs.YtkeeboomikkojaaGreatDoor.Sx

/-- new since h -/
abbrev Nw (h h' : Hp) (b : Nat) : Prop := h.size ≤ b ∧ b < h'.size
theorem push_own {h' : Hp} {out w : Value} {b : Nat} (hw : ∀ k, w.ownBlock = some k → out.ownBlock = some k ∨ h'.size ≤ k) (hb : b < h'.size) (hn : out.ownBlock ≠ some b) : w.ownBlock ≠ some b := by
  intro e
  rcases hw b e with h1 | h1
  · exact hn h1
  · omega
section
variable {ω : Amb}
end
end Go.Proofs.YtkeeboomikkojaaGreatDoor

namespace Go.Proofs.YtkeeboomikkojaaGreatDoor
open Go Go.Sx Go.Sx.Rn Go.Proofs.YtkeeboomikkojaaGreatDoor.Sx

theorem nilOr_isSl {v : Value} (h : nilOr v) : isSl v := by
  rcases h with rfl | ⟨a, l, c, rfl⟩
  · exact ⟨_, _, _, rfl⟩
  · exact ⟨_, _, _, rfl⟩
theorem sum_mem {p : List Sg} {x : Sg} (hx : x ∈ p) : stsN x.body ≤ (p.map fun s => stsN s.body).sum := by
  induction p with
  | nil => cases hx
  | cons y r ih =>
    simp only [List.map_cons, List.sum_cons]
    rcases List.mem_cons.1 hx with rfl | hx
    · omega
    · have := ih hx
      omega
section
variable {ω : Amb}
end
end Go.Proofs.YtkeeboomikkojaaGreatDoor
