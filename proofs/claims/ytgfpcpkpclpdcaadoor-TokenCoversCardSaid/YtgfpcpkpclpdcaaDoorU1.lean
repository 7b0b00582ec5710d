/- Tokens: letters, digits, words, runs. -/
import Derived.Test.YtgfpcpkpclpdcaaDoorTkP2
import Derived.Test.YtgfpcpkpclpdcaaDoorY4
namespace Go.Proofs.YtgfpcpkpclpdcaaDoor
open Go Go.Sx Go.Sx.Tk Go.Proofs.YtgfpcpkpclpdcaaDoor.Sx

def bytesOf (s : ByteArray) : List UInt8 := s.data.toList
theorem bytes_len (s : ByteArray) : (bytesOf s).length = s.size := by simp [bytesOf]
def cAt (s : ByteArray) (k : Nat) : UInt8 := (bytesOf s).getD k 0
theorem byteAt_c (s : ByteArray) (k : Nat) : byteAt s (k : Int) = ((cAt s k).toNat : Int) := by rw [byteAt, Int.toNat_natCast]; rfl
theorem dropc (s : ByteArray) {k : Nat} (hk : k < s.size) : (bytesOf s).drop k = cAt s k :: (bytesOf s).drop (k + 1) := by
  have hl : k < (bytesOf s).length := by rw [bytes_len]; exact hk
  rw [List.drop_eq_getElem_cons hl]
  congr 1
  rw [cAt, List.getD_eq_getElem?_getD, List.getElem?_eq_getElem hl, Option.getD_some]
theorem eqS (a b : ByteArray) : (a.toList == b.toList) = decide (bytesOf a = bytesOf b) := by
  rw [ByteArray.toList_eq, ByteArray.toList_eq, Bool.eq_iff_iff]
  simp [bytesOf]
theorem bytes_ext {a b : ByteArray} (h : bytesOf a = bytesOf b) : a = b := by
  cases a; cases b
  simp only [bytesOf] at h
  congr 1
  exact Array.ext' h
theorem bytes_extract (s : ByteArray) (i j : Nat) : bytesOf (s.extract i j) = ((bytesOf s).drop i).take (j - i) := by
  rw [bytesOf, ByteArray.data_extract, Array.toList_extract]
  rfl
theorem extract_eq (s : ByteArray) (i n : Nat) : s.extract i (i + n) = ⟨(((bytesOf s).drop i).take n).toArray⟩ := by
  refine bytes_ext ?_
  rw [bytes_extract, Nat.add_sub_cancel_left]
  rfl

section
variable {ω : Amb}
theorem letter_law (c : UInt8) (h : Hp) (X : List PanicEntry → Hp → Prop) : CallX Tryd.prog ω n_token_letter [.int .u8 (c.toNat : Int)] h (fun r h' => r = .bool (lo c) ∧ h' = h) X := by
  refine C_token_letter ω _ h _ X ?_
  unfold W_token_letter lo
  refine ⟨fun r h' => r = .bool (decide (97 ≤ c.toNat) && decide (c.toNat ≤ 122)) ∧ h' = h, ?_, fun _ _ _ hj => hj⟩
  rw [asK_int]
  refine cond_c (fun hc => ?_) (fun hc => ⟨?_, rfl⟩)
  · rw [asK_int]
    have := of_decide_eq_true hc
    exact ⟨by congr 1; rw [Bool.eq_iff_iff]; simp; omega, rfl⟩
  · have := of_decide_eq_false hc
    rw [decide_eq_false (by omega), Bool.false_and]
theorem digit_law (c : UInt8) (h : Hp) (X : List PanicEntry → Hp → Prop) : CallX Tryd.prog ω n_token_digit [.int .u8 (c.toNat : Int)] h (fun r h' => r = .bool (dg c) ∧ h' = h) X := by
  refine C_token_digit ω _ h _ X ?_
  unfold W_token_digit dg
  refine ⟨fun r h' => r = .bool (decide (48 ≤ c.toNat) && decide (c.toNat ≤ 57)) ∧ h' = h, ?_, fun _ _ _ hj => hj⟩
  rw [asK_int]
  refine cond_c (fun hc => ?_) (fun hc => ⟨?_, rfl⟩)
  · rw [asK_int]
    have := of_decide_eq_true hc
    exact ⟨by congr 1; rw [Bool.eq_iff_iff]; simp; omega, rfl⟩
  · have := of_decide_eq_false hc
    rw [decide_eq_false (by omega), Bool.false_and]
theorem small_law (c : UInt8) (h : Hp) (X : List PanicEntry → Hp → Prop) : CallX Tryd.prog ω n_pipewrightref_small [.int .u8 (c.toNat : Int)] h (fun r h' => r = .bool (lo c) ∧ h' = h) X := by
  refine C_pipewrightref_small ω _ h _ X ?_
  unfold W_pipewrightref_small lo
  refine ⟨fun r h' => r = .bool (decide (97 ≤ c.toNat) && decide (c.toNat ≤ 122)) ∧ h' = h, ?_, fun _ _ _ hj => hj⟩
  rw [asK_int]
  refine cond_c (fun hc => ?_) (fun hc => ⟨?_, rfl⟩)
  · rw [asK_int]
    have := of_decide_eq_true hc
    exact ⟨by congr 1; rw [Bool.eq_iff_iff]; simp; omega, rfl⟩
  · have := of_decide_eq_false hc
    rw [decide_eq_false (by omega), Bool.false_and]
theorem rdigit_law (c : UInt8) (h : Hp) (X : List PanicEntry → Hp → Prop) : CallX Tryd.prog ω n_pipewrightref_digit [.int .u8 (c.toNat : Int)] h (fun r h' => r = .bool (dg c) ∧ h' = h) X := by
  refine C_pipewrightref_digit ω _ h _ X ?_
  unfold W_pipewrightref_digit dg
  refine ⟨fun r h' => r = .bool (decide (48 ≤ c.toNat) && decide (c.toNat ≤ 57)) ∧ h' = h, ?_, fun _ _ _ hj => hj⟩
  rw [asK_int]
  refine cond_c (fun hc => ?_) (fun hc => ⟨?_, rfl⟩)
  · rw [asK_int]
    have := of_decide_eq_true hc
    exact ⟨by congr 1; rw [Bool.eq_iff_iff]; simp; omega, rfl⟩
  · have := of_decide_eq_false hc
    rw [decide_eq_false (by omega), Bool.false_and]

theorem is_word {l w : List UInt8} (hw : w ∈ words) (h : decide (l = w) = true) : Value.bool (decide (l = w)) = .bool (isWord l) := by
  have := of_decide_eq_true h
  subst this
  rw [h, isWord, decide_eq_true hw]
theorem Word_law (s : ByteArray) (h : Hp) (X : List PanicEntry → Hp → Prop) : CallX Tryd.prog ω n_token_Word [.string s] h (fun r h' => r = .bool (isWord (bytesOf s)) ∧ h' = h) X := by
  refine C_token_Word ω _ h _ X ?_
  unfold W_token_Word
  rw [asS_str]
  refine ⟨fun r h' => r = .bool (isWord (bytesOf s)) ∧ h' = h, ?_, ?_⟩
  rotate_left
  · rintro _ _ _ ⟨rfl, hh⟩
    rw [hh, asB_bool]
    exact cond_c (fun hc => ⟨by rw [hc], rfl⟩) (fun hc => ⟨by rw [hc], rfl⟩)
  rw [eqS]
  refine cond_c (fun hc => ⟨is_word (by decide) hc, rfl⟩) (fun hc => ?_)
  have n0 := of_decide_eq_false hc
  rw [asS_str]
  refine ⟨fun r h' => r = .bool (isWord (bytesOf s)) ∧ h' = h, ?_, fun _ _ _ hj => hj⟩
  rw [eqS]
  refine cond_c (fun hc => ⟨is_word (by decide) hc, rfl⟩) (fun hc => ?_)
  have n1 := of_decide_eq_false hc
  rw [asS_str]
  refine ⟨fun r h' => r = .bool (isWord (bytesOf s)) ∧ h' = h, ?_, fun _ _ _ hj => hj⟩
  rw [eqS]
  refine cond_c (fun hc => ⟨is_word (by decide) hc, rfl⟩) (fun hc => ?_)
  have n2 := of_decide_eq_false hc
  rw [asS_str]
  refine ⟨fun r h' => r = .bool (isWord (bytesOf s)) ∧ h' = h, ?_, fun _ _ _ hj => hj⟩
  rw [eqS]
  refine cond_c (fun hc => ⟨is_word (by decide) hc, rfl⟩) (fun hc => ?_)
  have n3 := of_decide_eq_false hc
  rw [asS_str]
  refine ⟨fun r h' => r = .bool (isWord (bytesOf s)) ∧ h' = h, ?_, fun _ _ _ hj => hj⟩
  rw [eqS]
  refine cond_c (fun hc => ⟨is_word (by decide) hc, rfl⟩) (fun hc => ?_)
  have n4 := of_decide_eq_false hc
  rw [asS_str]
  refine ⟨fun r h' => r = .bool (isWord (bytesOf s)) ∧ h' = h, ?_, fun _ _ _ hj => hj⟩
  rw [eqS]
  refine cond_c (fun hc => ⟨is_word (by decide) hc, rfl⟩) (fun hc => ?_)
  have n5 := of_decide_eq_false hc
  rw [asS_str]
  refine ⟨fun r h' => r = .bool (isWord (bytesOf s)) ∧ h' = h, ?_, fun _ _ _ hj => hj⟩
  rw [eqS]
  refine cond_c (fun hc => ⟨is_word (by decide) hc, rfl⟩) (fun hc => ?_)
  have n6 := of_decide_eq_false hc
  rw [asS_str]
  refine ⟨fun r h' => r = .bool (isWord (bytesOf s)) ∧ h' = h, ?_, fun _ _ _ hj => hj⟩
  rw [eqS]
  refine cond_c (fun hc => ⟨is_word (by decide) hc, rfl⟩) (fun hc => ?_)
  have n7 := of_decide_eq_false hc
  rw [asS_str]
  refine ⟨fun r h' => r = .bool (isWord (bytesOf s)) ∧ h' = h, ?_, fun _ _ _ hj => hj⟩
  rw [eqS]
  refine cond_c (fun hc => ⟨is_word (by decide) hc, rfl⟩) (fun hc => ?_)
  have n8 := of_decide_eq_false hc
  rw [asS_str]
  refine ⟨fun r h' => r = .bool (isWord (bytesOf s)) ∧ h' = h, ?_, fun _ _ _ hj => hj⟩
  rw [eqS]
  refine cond_c (fun hc => ⟨is_word (by decide) hc, rfl⟩) (fun hc => ?_)
  have n9 := of_decide_eq_false hc
  rw [asS_str]
  refine ⟨fun r h' => r = .bool (isWord (bytesOf s)) ∧ h' = h, ?_, fun _ _ _ hj => hj⟩
  rw [eqS]
  refine cond_c (fun hc => ⟨is_word (by decide) hc, rfl⟩) (fun hc => ?_)
  have n10 := of_decide_eq_false hc
  rw [asS_str]
  refine ⟨fun r h' => r = .bool (isWord (bytesOf s)) ∧ h' = h, ?_, fun _ _ _ hj => hj⟩
  rw [eqS]
  refine cond_c (fun hc => ⟨is_word (by decide) hc, rfl⟩) (fun hc => ?_)
  have n11 := of_decide_eq_false hc
  rw [asS_str]
  refine ⟨fun r h' => r = .bool (isWord (bytesOf s)) ∧ h' = h, ?_, fun _ _ _ hj => hj⟩
  rw [eqS]
  refine cond_c (fun hc => ⟨is_word (by decide) hc, rfl⟩) (fun hc => ?_)
  have n12 := of_decide_eq_false hc
  rw [asS_str]
  refine ⟨fun r h' => r = .bool (isWord (bytesOf s)) ∧ h' = h, ?_, fun _ _ _ hj => hj⟩
  rw [eqS]
  refine cond_c (fun hc => ⟨is_word (by decide) hc, rfl⟩) (fun hc => ?_)
  have n13 := of_decide_eq_false hc
  rw [asS_str]
  refine ⟨fun r h' => r = .bool (isWord (bytesOf s)) ∧ h' = h, ?_, fun _ _ _ hj => hj⟩
  rw [eqS]
  refine cond_c (fun hc => ⟨is_word (by decide) hc, rfl⟩) (fun hc => ?_)
  have n14 := of_decide_eq_false hc
  rw [asS_str]
  refine ⟨fun r h' => r = .bool (isWord (bytesOf s)) ∧ h' = h, ?_, fun _ _ _ hj => hj⟩
  rw [eqS]
  refine cond_c (fun hc => ⟨is_word (by decide) hc, rfl⟩) (fun hc => ?_)
  have n15 := of_decide_eq_false hc
  rw [asS_str]
  refine ⟨fun r h' => r = .bool (isWord (bytesOf s)) ∧ h' = h, ?_, fun _ _ _ hj => hj⟩
  rw [eqS]
  refine cond_c (fun hc => ⟨is_word (by decide) hc, rfl⟩) (fun hc => ?_)
  have n16 := of_decide_eq_false hc
  rw [asS_str]
  refine ⟨fun r h' => r = .bool (isWord (bytesOf s)) ∧ h' = h, ?_, fun _ _ _ hj => hj⟩
  rw [eqS]
  refine cond_c (fun hc => ⟨is_word (by decide) hc, rfl⟩) (fun hc => ?_)
  have n17 := of_decide_eq_false hc
  rw [asS_str]
  refine ⟨?_, rfl⟩
  rw [eqS]
  congr 1
  rw [isWord, Bool.eq_iff_iff, decide_eq_true_eq, decide_eq_true_eq]
  refine ⟨fun e => by rw [e]; decide, fun e => ?_⟩
  simp only [words, List.mem_cons, List.not_mem_nil, or_false] at e
  rcases e with e | e | e | e | e | e | e | e | e | e | e | e | e | e | e | e | e | e | e
  · exact absurd e n0
  · exact absurd e n1
  · exact absurd e n2
  · exact absurd e n3
  · exact absurd e n4
  · exact absurd e n5
  · exact absurd e n6
  · exact absurd e n7
  · exact absurd e n8
  · exact absurd e n9
  · exact absurd e n10
  · exact absurd e n11
  · exact absurd e n12
  · exact absurd e n13
  · exact absurd e n14
  · exact absurd e n15
  · exact absurd e n16
  · exact absurd e n17
  · exact e
end
end Go.Proofs.YtgfpcpkpclpdcaaDoor
