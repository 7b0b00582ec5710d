/- Tokens: letters, digits, words, runs. -/
import Derived.Test.YtaehnpilebkcoaaDoorRnA
import Derived.Test.YtaehnpilebkcoaaDoorY9a
namespace Go.Proofs.YtaehnpilebkcoaaDoor
open Go Go.Sx Go.Sx.Tk Go.Proofs.YtaehnpilebkcoaaDoor.Sx

def bytesOf (s : ByteArray) : List UInt8 := s.data.toList
theorem bytes_len (s : ByteArray) : (bytesOf s).length = s.size := by simp [bytesOf]
def cAt (s : ByteArray) (k : Nat) : UInt8 := (bytesOf s).getD k 0
theorem byteAt_c (s : ByteArray) (k : Nat) : byteAt s (k : Int) = ((cAt s k).toNat : Int) := by rw [byteAt, Int.toNat_natCast]; rfl
theorem dropc (s : ByteArray) {k : Nat} (hk : k < s.size) : (bytesOf s).drop k = cAt s k :: (bytesOf s).drop (k + 1) := by
  have hl : k < (bytesOf s).length := by rw [bytes_len]; exact hk
  rw [List.drop_eq_getElem_cons hl]
  congr 1
  rw [cAt, List.getD_eq_getElem?_getD, List.getElem?_eq_getElem hl, Option.getD_some]
theorem eqS (a b : ByteArray) : (a.toList == b.toList) = decide (bytesOf a = bytesOf b) := by
  rw [ByteArray.toList_eq, ByteArray.toList_eq, Bool.eq_iff_iff]
  simp [bytesOf]
theorem bytes_ext {a b : ByteArray} (h : bytesOf a = bytesOf b) : a = b := by
  cases a; cases b
  simp only [bytesOf] at h
  congr 1
  exact Array.ext' h
theorem bytes_extract (s : ByteArray) (i j : Nat) : bytesOf (s.extract i j) = ((bytesOf s).drop i).take (j - i) := by
  rw [bytesOf, ByteArray.data_extract, Array.toList_extract]
  rfl
theorem extract_eq (s : ByteArray) (i n : Nat) : s.extract i (i + n) = ⟨(((bytesOf s).drop i).take n).toArray⟩ := by
  refine bytes_ext ?_
  rw [bytes_extract, Nat.add_sub_cancel_left]
  rfl

section
variable {ω : Amb}
theorem letter_law (c : UInt8) (h : Hp) (X : List PanicEntry → Hp → Prop) : CallX Tryd.prog ω n_token_letter [.int .u8 (c.toNat : Int)] h (fun r h' => r = .bool (lo c) ∧ h' = h) X := by
  refine C_token_letter ω _ h _ X ?_
  unfold W_token_letter lo
  refine ⟨fun r h' => r = .bool (decide (97 ≤ c.toNat) && decide (c.toNat ≤ 122)) ∧ h' = h, ?_, fun _ _ _ hj => hj⟩
  rw [asK_int]
  refine cond_c (fun hc => ?_) (fun hc => ⟨?_, rfl⟩)
  · rw [asK_int]
    have := of_decide_eq_true hc
    exact ⟨by congr 1; rw [Bool.eq_iff_iff]; simp; omega, rfl⟩
  · have := of_decide_eq_false hc
    rw [decide_eq_false (by omega), Bool.false_and]
theorem digit_law (c : UInt8) (h : Hp) (X : List PanicEntry → Hp → Prop) : CallX Tryd.prog ω n_token_digit [.int .u8 (c.toNat : Int)] h (fun r h' => r = .bool (dg c) ∧ h' = h) X := by
  refine C_token_digit ω _ h _ X ?_
  unfold W_token_digit dg
  refine ⟨fun r h' => r = .bool (decide (48 ≤ c.toNat) && decide (c.toNat ≤ 57)) ∧ h' = h, ?_, fun _ _ _ hj => hj⟩
  rw [asK_int]
  refine cond_c (fun hc => ?_) (fun hc => ⟨?_, rfl⟩)
  · rw [asK_int]
    have := of_decide_eq_true hc
    exact ⟨by congr 1; rw [Bool.eq_iff_iff]; simp; omega, rfl⟩
  · have := of_decide_eq_false hc
    rw [decide_eq_false (by omega), Bool.false_and]
theorem small_law (c : UInt8) (h : Hp) (X : List PanicEntry → Hp → Prop) : CallX Tryd.prog ω n_pipewrightref_small [.int .u8 (c.toNat : Int)] h (fun r h' => r = .bool (lo c) ∧ h' = h) X := by
  refine C_pipewrightref_small ω _ h _ X ?_
  unfold W_pipewrightref_small lo
  refine ⟨fun r h' => r = .bool (decide (97 ≤ c.toNat) && decide (c.toNat ≤ 122)) ∧ h' = h, ?_, fun _ _ _ hj => hj⟩
  rw [asK_int]
  refine cond_c (fun hc => ?_) (fun hc => ⟨?_, rfl⟩)
  · rw [asK_int]
    have := of_decide_eq_true hc
    exact ⟨by congr 1; rw [Bool.eq_iff_iff]; simp; omega, rfl⟩
  · have := of_decide_eq_false hc
    rw [decide_eq_false (by omega), Bool.false_and]
theorem rdigit_law (c : UInt8) (h : Hp) (X : List PanicEntry → Hp → Prop) : CallX Tryd.prog ω n_pipewrightref_digit [.int .u8 (c.toNat : Int)] h (fun r h' => r = .bool (dg c) ∧ h' = h) X := by
  refine C_pipewrightref_digit ω _ h _ X ?_
  unfold W_pipewrightref_digit dg
  refine ⟨fun r h' => r = .bool (decide (48 ≤ c.toNat) && decide (c.toNat ≤ 57)) ∧ h' = h, ?_, fun _ _ _ hj => hj⟩
  rw [asK_int]
  refine cond_c (fun hc => ?_) (fun hc => ⟨?_, rfl⟩)
  · rw [asK_int]
    have := of_decide_eq_true hc
    exact ⟨by congr 1; rw [Bool.eq_iff_iff]; simp; omega, rfl⟩
  · have := of_decide_eq_false hc
    rw [decide_eq_false (by omega), Bool.false_and]

theorem is_word {l w : List UInt8} (hw : w ∈ words) (h : decide (l = w) = true) : Value.bool (decide (l = w)) = .bool (isWord l) := by
  have := of_decide_eq_true h
  subst this
  rw [h, isWord, decide_eq_true hw]
theorem Word_law (s : ByteArray) (h : Hp) (X : List PanicEntry → Hp → Prop) : CallX Tryd.prog ω n_token_Word [.string s] h (fun r h' => r = .bool (isWord (bytesOf s)) ∧ h' = h) X := by
  refine C_token_Word ω _ h _ X ?_
  unfold W_token_Word
  rw [asS_str]
  refine ⟨fun r h' => r = .bool (isWord (bytesOf s)) ∧ h' = h, ?_, ?_⟩
  rotate_left
  · rintro _ _ _ ⟨rfl, hh⟩
    rw [hh, asB_bool]
    exact cond_c (fun hc => ⟨by rw [hc], rfl⟩) (fun hc => ⟨by rw [hc], rfl⟩)
  rw [eqS]
  refine cond_c (fun hc => ⟨is_word (by decide) hc, rfl⟩) (fun hc => ?_)
  have n0 := of_decide_eq_false hc
  rw [asS_str]
  refine ⟨fun r h' => r = .bool (isWord (bytesOf s)) ∧ h' = h, ?_, fun _ _ _ hj => hj⟩
  rw [eqS]
  refine cond_c (fun hc => ⟨is_word (by decide) hc, rfl⟩) (fun hc => ?_)
  have n1 := of_decide_eq_false hc
  rw [asS_str]
  refine ⟨fun r h' => r = .bool (isWord (bytesOf s)) ∧ h' = h, ?_, fun _ _ _ hj => hj⟩
  rw [eqS]
  refine cond_c (fun hc => ⟨is_word (by decide) hc, rfl⟩) (fun hc => ?_)
  have n2 := of_decide_eq_false hc
  rw [asS_str]
  refine ⟨fun r h' => r = .bool (isWord (bytesOf s)) ∧ h' = h, ?_, fun _ _ _ hj => hj⟩
  rw [eqS]
  refine cond_c (fun hc => ⟨is_word (by decide) hc, rfl⟩) (fun hc => ?_)
  have n3 := of_decide_eq_false hc
  rw [asS_str]
  refine ⟨fun r h' => r = .bool (isWord (bytesOf s)) ∧ h' = h, ?_, fun _ _ _ hj => hj⟩
  rw [eqS]
  refine cond_c (fun hc => ⟨is_word (by decide) hc, rfl⟩) (fun hc => ?_)
  have n4 := of_decide_eq_false hc
  rw [asS_str]
  refine ⟨fun r h' => r = .bool (isWord (bytesOf s)) ∧ h' = h, ?_, fun _ _ _ hj => hj⟩
  rw [eqS]
  refine cond_c (fun hc => ⟨is_word (by decide) hc, rfl⟩) (fun hc => ?_)
  have n5 := of_decide_eq_false hc
  rw [asS_str]
  refine ⟨fun r h' => r = .bool (isWord (bytesOf s)) ∧ h' = h, ?_, fun _ _ _ hj => hj⟩
  rw [eqS]
  refine cond_c (fun hc => ⟨is_word (by decide) hc, rfl⟩) (fun hc => ?_)
  have n6 := of_decide_eq_false hc
  rw [asS_str]
  refine ⟨fun r h' => r = .bool (isWord (bytesOf s)) ∧ h' = h, ?_, fun _ _ _ hj => hj⟩
  rw [eqS]
  refine cond_c (fun hc => ⟨is_word (by decide) hc, rfl⟩) (fun hc => ?_)
  have n7 := of_decide_eq_false hc
  rw [asS_str]
  refine ⟨fun r h' => r = .bool (isWord (bytesOf s)) ∧ h' = h, ?_, fun _ _ _ hj => hj⟩
  rw [eqS]
  refine cond_c (fun hc => ⟨is_word (by decide) hc, rfl⟩) (fun hc => ?_)
  have n8 := of_decide_eq_false hc
  rw [asS_str]
  refine ⟨fun r h' => r = .bool (isWord (bytesOf s)) ∧ h' = h, ?_, fun _ _ _ hj => hj⟩
  rw [eqS]
  refine cond_c (fun hc => ⟨is_word (by decide) hc, rfl⟩) (fun hc => ?_)
  have n9 := of_decide_eq_false hc
  rw [asS_str]
  refine ⟨fun r h' => r = .bool (isWord (bytesOf s)) ∧ h' = h, ?_, fun _ _ _ hj => hj⟩
  rw [eqS]
  refine cond_c (fun hc => ⟨is_word (by decide) hc, rfl⟩) (fun hc => ?_)
  have n10 := of_decide_eq_false hc
  rw [asS_str]
  refine ⟨fun r h' => r = .bool (isWord (bytesOf s)) ∧ h' = h, ?_, fun _ _ _ hj => hj⟩
  rw [eqS]
  refine cond_c (fun hc => ⟨is_word (by decide) hc, rfl⟩) (fun hc => ?_)
  have n11 := of_decide_eq_false hc
  rw [asS_str]
  refine ⟨fun r h' => r = .bool (isWord (bytesOf s)) ∧ h' = h, ?_, fun _ _ _ hj => hj⟩
  rw [eqS]
  refine cond_c (fun hc => ⟨is_word (by decide) hc, rfl⟩) (fun hc => ?_)
  have n12 := of_decide_eq_false hc
  rw [asS_str]
  refine ⟨fun r h' => r = .bool (isWord (bytesOf s)) ∧ h' = h, ?_, fun _ _ _ hj => hj⟩
  rw [eqS]
  refine cond_c (fun hc => ⟨is_word (by decide) hc, rfl⟩) (fun hc => ?_)
  have n13 := of_decide_eq_false hc
  rw [asS_str]
  refine ⟨fun r h' => r = .bool (isWord (bytesOf s)) ∧ h' = h, ?_, fun _ _ _ hj => hj⟩
  rw [eqS]
  refine cond_c (fun hc => ⟨is_word (by decide) hc, rfl⟩) (fun hc => ?_)
  have n14 := of_decide_eq_false hc
  rw [asS_str]
  refine ⟨fun r h' => r = .bool (isWord (bytesOf s)) ∧ h' = h, ?_, fun _ _ _ hj => hj⟩
  rw [eqS]
  refine cond_c (fun hc => ⟨is_word (by decide) hc, rfl⟩) (fun hc => ?_)
  have n15 := of_decide_eq_false hc
  rw [asS_str]
  refine ⟨fun r h' => r = .bool (isWord (bytesOf s)) ∧ h' = h, ?_, fun _ _ _ hj => hj⟩
  rw [eqS]
  refine cond_c (fun hc => ⟨is_word (by decide) hc, rfl⟩) (fun hc => ?_)
  have n16 := of_decide_eq_false hc
  rw [asS_str]
  refine ⟨fun r h' => r = .bool (isWord (bytesOf s)) ∧ h' = h, ?_, fun _ _ _ hj => hj⟩
  rw [eqS]
  refine cond_c (fun hc => ⟨is_word (by decide) hc, rfl⟩) (fun hc => ?_)
  have n17 := of_decide_eq_false hc
  rw [asS_str]
  refine ⟨?_, rfl⟩
  rw [eqS]
  congr 1
  rw [isWord, Bool.eq_iff_iff, decide_eq_true_eq, decide_eq_true_eq]
  refine ⟨fun e => by rw [e]; decide, fun e => ?_⟩
  simp only [words, List.mem_cons, List.not_mem_nil, or_false] at e
  rcases e with e | e | e | e | e | e | e | e | e | e | e | e | e | e | e | e | e | e | e
  · exact absurd e n0
  · exact absurd e n1
  · exact absurd e n2
  · exact absurd e n3
  · exact absurd e n4
  · exact absurd e n5
  · exact absurd e n6
  · exact absurd e n7
  · exact absurd e n8
  · exact absurd e n9
  · exact absurd e n10
  · exact absurd e n11
  · exact absurd e n12
  · exact absurd e n13
  · exact absurd e n14
  · exact absurd e n15
  · exact absurd e n16
  · exact absurd e n17
  · exact e
end
end Go.Proofs.YtaehnpilebkcoaaDoor

namespace Go.Proofs.YtaehnpilebkcoaaDoor
open Go Go.Sx Go.Sx.Tk Go.Proofs.YtaehnpilebkcoaaDoor.Sx

theorem valD_snoc (l : List UInt8) (c : UInt8) : valD (l ++ [c]) = 10 * valD l + ((c.toNat : Int) - 48) := by simp [valD]
theorem valD_le : ∀ (n : Nat) (l : List UInt8), l.length = n → l.all dg = true → 0 ≤ valD l ∧ valD l < 10 ^ n
  | 0, l, h, _ => by
    have : l = [] := List.eq_nil_of_length_eq_zero h
    subst this
    exact ⟨by decide, by decide⟩
  | n + 1, l, h, hd => by
    obtain ⟨l', c, rfl⟩ : ∃ l' c, l = l' ++ [c] := by
      rcases List.eq_nil_or_concat l with rfl | ⟨l', c, rfl⟩
      · simp at h
      · exact ⟨l', c, by simp⟩
    rw [List.all_append, Bool.and_eq_true] at hd
    obtain ⟨h1, h2⟩ := valD_le n l' (by simp at h; omega) hd.1
    have hc : dg c = true := by simpa using hd.2
    simp only [dg, Bool.and_eq_true, decide_eq_true_eq] at hc
    rw [valD_snoc, Int.pow_succ]
    omega
theorem take_snoc (s : ByteArray) {k : Nat} (hk : k < s.size) : (bytesOf s).take (k + 1) = (bytesOf s).take k ++ [cAt s k] := by
  have hl : k < (bytesOf s).length := by rw [bytes_len]; exact hk
  rw [List.take_succ_eq_append_getElem hl]
  congr 2
  rw [cAt, List.getD_eq_getElem?_getD, List.getElem?_eq_getElem hl, Option.getD_some]
theorem all_at {s : ByteArray} (h : (bytesOf s).all dg = true) {k : Nat} (hk : k < s.size) : dg (cAt s k) = true := by
  have hl : k < (bytesOf s).length := by rw [bytes_len]; exact hk
  rw [cAt, List.getD_eq_getElem?_getD, List.getElem?_eq_getElem hl, Option.getD_some]
  exact List.all_eq_true.1 h _ (List.getElem_mem hl)
theorem all_take {l : List UInt8} (h : l.all dg = true) (k : Nat) : (l.take k).all dg = true := by
  rw [List.all_eq_true] at h ⊢
  exact fun x hx => h x (List.mem_of_mem_take hx)
theorem take_all (s : ByteArray) : (bytesOf s).take s.size = bytesOf s := List.take_of_length_le (by rw [bytes_len]; exact Nat.le_refl _)
theorem val_take {s : ByteArray} {k : Nat} (hk : k ≤ s.size) (h18 : s.size ≤ 18) (hd : ((bytesOf s).take k).all dg = true) : 0 ≤ valD ((bytesOf s).take k) ∧ valD ((bytesOf s).take k) < 10 ^ k ∧ (10 : Int) ^ k ≤ 1000000000000000000 ∧ (k < s.size → (10 : Int) ^ k ≤ 100000000000000000) := by
  have h1 : ((bytesOf s).take k).length = k := by rw [List.length_take, bytes_len]; omega
  obtain ⟨h2, h3⟩ := valD_le k _ h1 hd
  refine ⟨h2, h3, ?_, fun hlt => ?_⟩
  · have : ∀ m : Fin 19, (10 : Int) ^ (m : Nat) ≤ 1000000000000000000 := by decide
    exact this ⟨k, by omega⟩
  · have : ∀ m : Fin 18, (10 : Int) ^ (m : Nat) ≤ 100000000000000000 := by decide
    exact this ⟨k, by omega⟩
def wordV : List Value := words.map fun w => .string ⟨w.toArray⟩
theorem wordV_at {k : Nat} {w : List UInt8} (h : words[k]? = some w) : wordV[k]? = some (.string ⟨w.toArray⟩) := by rw [wordV, List.getElem?_map, h]; rfl
/-- a fault's cells -/
def flt (code at_ : Int) : List Value := [.int .i64 code, .int .i64 at_]
theorem flt_one (c a : Int) : ∀ u ∈ flt c a, one u := by
  intro u hu
  simp only [flt, List.mem_cons, List.not_mem_nil, or_false] at hu
  rcases hu with rfl | rfl <;> rfl

section
variable {ω : Amb}
theorem IsWord_law (s : ByteArray) (h : Hp) (X : List PanicEntry → Hp → Prop) : CallX Tryd.prog ω n_pipewrightref_IsWord [.string s] h (fun r h' => r = .bool (isWord (bytesOf s)) ∧ Keep (fun _ => False) h h') X := by
  refine C_pipewrightref_IsWord ω _ h _ X ?_
  unfold W_pipewrightref_IsWord
  have hb : (Array.push h (.cells wordV.toArray 9 (0, 0)))[h.size]? = some (.cells wordV.toArray 9 (0, 0)) := hp_push_new
  have kp : Keep (fun _ => False) h (Array.push h (.cells wordV.toArray 9 (0, 0))) := Keep.push _ _
  refine ⟨fun i h' => h' = Array.push h (.cells wordV.toArray 9 (0, 0)) ∧ ∃ k : Nat, i = .int .i64 k ∧ k ≤ 19 ∧ ∀ (q : Nat) (w : List UInt8), q < k → words[q]? = some w → w ≠ bytesOf s,
    fun i _ => match i with | .int _ k => 19 - k.toNat | _ => 0, ⟨rfl, 0, rfl, by omega, fun q w hq => by omega⟩, ?_⟩
  rintro _ _ h4 ⟨hh, k, rfl, hk, hn⟩
  rw [hh]
  generalize Array.push h (.cells wordV.toArray 9 (0, 0)) = h1 at *
  rw [asK_int]
  refine cond_c (fun hc => ?_) (fun hc => ?_)
  · have hlt : k < 19 := by have := of_decide_eq_true hc; omega
    have hx : words[k]? = some words[k] := List.getElem?_eq_getElem hlt
    generalize words[k] = w at hx
    rw [asI_int]
    refine ⟨by omega, by omega, ?_⟩
    rw [Int.toNat_natCast, Nat.mul_one]
    refine lx hb (wordV_at hx) ?_
    rw [asS_str, asS_str, eqS]
    refine cond_c (fun hc => ?_) (fun hc => ?_)
    · have he : w = bytesOf s := of_decide_eq_true hc
      refine ⟨?_, kp⟩
      rw [isWord, decide_eq_true (by rw [← he]; exact List.mem_iff_getElem?.2 ⟨k, hx⟩)]
    · have he : w ≠ bytesOf s := of_decide_eq_false hc
      rw [asK_int, i64_in (by omega) (by omega)]
      refine ⟨⟨rfl, k + 1, by simp, by omega, fun q w' hq hw' => ?_⟩, by simp; omega⟩
      by_cases hqk : q = k
      · subst hqk
        rw [hx] at hw'
        cases hw'
        exact he
      · exact hn q w' (by omega) hw'
  · have hk19 : k = 19 := by have := of_decide_eq_false hc; omega
    subst hk19
    refine ⟨?_, kp⟩
    rw [isWord, decide_eq_false]
    intro hm
    obtain ⟨q, hq⟩ := List.mem_iff_getElem?.1 hm
    exact hn q _ (List.getElem?_eq_some_iff.1 hq).1 hq rfl

theorem F_law (c a : Int) (h : Hp) (X : List PanicEntry → Hp → Prop) : CallX Tryd.prog ω n_pipewrightref_F [.int .i64 c, .int .i64 a] h (fun r h' => r = .agg (flt c a).toArray ∧ Keep (fun _ => False) h h') X := by
  refine C_pipewrightref_F ω _ _ h _ X ?_
  unfold W_pipewrightref_F
  show oneK (.int .i64 c) (oneK (.int .i64 a) _)
  refine ⟨rfl, flt_one c a, storeK_local (cs := flt c a) rfl ?_⟩
  exact ⟨_, cellsH_local rfl, rfl, Keep.push _ _⟩

end
end Go.Proofs.YtaehnpilebkcoaaDoor

namespace Go.Proofs.YtaehnpilebkcoaaDoor
open Go Go.Sx Go.Sx.Tk Go.Proofs.YtaehnpilebkcoaaDoor.Sx

theorem byteAt_z (s : ByteArray) : byteAt s 0 = ((cAt s 0).toNat : Int) := byteAt_c s 0
def nameHead (s : ByteArray) : Bool := decide (0 < s.size) && (decide (s.size ≤ 12) && (lo (cAt s 0) && !isWord (bytesOf s)))
def isNameB (s : ByteArray) : Bool := nameHead s && (bytesOf s).all ld
section
variable {ω : Amb}
end
end Go.Proofs.YtaehnpilebkcoaaDoor

namespace Go.Proofs.YtaehnpilebkcoaaDoor
open Go Go.Sx Go.Sx.Rn Go.Proofs.YtaehnpilebkcoaaDoor.Sx

theorem exsN_snoc : ∀ (l : List Ex) (x : Ex), exsN (l ++ [x]) = exsN l + exN x
  | [], x => by simp [exsN]
  | y :: r, x => by simp only [List.cons_append, exsN, exsN_snoc]; omega
theorem stsN_snoc : ∀ (l : List St) (x : St), stsN (l ++ [x]) = stsN l + stN x
  | [], x => by simp [stsN]
  | y :: r, x => by simp only [List.cons_append, stsN, stsN_snoc]; omega
theorem tk_snoc {α : Type} {l : List α} {i : Nat} {x : α} (hx : l[i]? = some x) : l.take (i + 1) = l.take i ++ [x] := by rw [List.take_add_one, hx]; rfl
section
variable {ω : Amb}
end
end Go.Proofs.YtaehnpilebkcoaaDoor

namespace Go.Proofs.YtaehnpilebkcoaaDoor
open Go Go.Sx Go.Sx.Rn Go.Proofs.YtaehnpilebkcoaaDoor.Sx

/-- a program in memory: a struct of one slice -/
def PgS (h : Hp) (v : Value) (p : List Sg) : Prop := ∃ w, v = .agg #[w] ∧ SgS h w p
theorem PgS.keep {h h' : Hp} {v : Value} {p : List Sg} (hs : PgS h v p) (k : Keep (fun _ => False) h h') : PgS h' v p := by
  obtain ⟨w, rfl, h1⟩ := hs
  exact ⟨w, rfl, h1.keep k⟩
theorem SgS.isSl {h : Hp} {v : Value} {l : List Sg} (hs : SgS h v l) : isSl v := by
  obtain ⟨us, h1, _⟩ := hs
  exact SlAt.isSl h1.1
section
variable {ω : Amb}
end
end Go.Proofs.YtaehnpilebkcoaaDoor

namespace Go.Proofs.YtaehnpilebkcoaaDoor
open Go Go.Sx Go.Sx.Rn Go.Proofs.YtaehnpilebkcoaaDoor.Sx

/-- new since h -/
abbrev Nw (h h' : Hp) (b : Nat) : Prop := h.size ≤ b ∧ b < h'.size
theorem push_own {h' : Hp} {out w : Value} {b : Nat} (hw : ∀ k, w.ownBlock = some k → out.ownBlock = some k ∨ h'.size ≤ k) (hb : b < h'.size) (hn : out.ownBlock ≠ some b) : w.ownBlock ≠ some b := by
  intro e
  rcases hw b e with h1 | h1
  · exact hn h1
  · omega
section
variable {ω : Amb}
set_option maxRecDepth 100000 in
theorem copyE_law : ∀ (N : Nat) (l : List Ex), exsN l < N → exsN l ≤ 8000 → ∀ (h : Hp) (v : Value), ExS h v l → ∀ (X : List PanicEntry → Hp → Prop),
    CallX Tryd.prog ω n_pipewrightref_copyExprs [v] h (fun r h' => ExSN h' (Nw h h') r l ∧ Keep (fun _ => False) h h') X := by
  intro N
  induction N with
  | zero => exact fun l hN => absurd hN (Nat.not_lt_zero _)
  | succ N ih =>
    intro l hN hle h v hs X
    refine C_pipewrightref_copyExprs ω _ h _ X ?_
    unfold W_pipewrightref_copyExprs
    have hlen := exsN_len l
    refine ⟨fun out t h' => ∃ (k : Nat) (us : List Value), t = .int .i64 k ∧ k ≤ l.length ∧ OwnH h' h.size 118 4 out k us ∧ exsAtN h' (fun b => Nw h h' b ∧ out.ownBlock ≠ some b) (l.take k) us ∧ Keep (fun _ => False) h h',
      fun _ t _ => match t with | .int _ k => l.length - k.toNat | _ => 0, ⟨0, [], rfl, by omega, OwnH.nil, exsAtN_nil, Keep.refl _ _⟩, ?_⟩
    rintro out _ _ h5 ⟨k, us, rfl, hk, ho, hat, k1⟩
    have hs1 := hs.keep k1
    refine hs1.sl fun _ _ => ?_
    rw [asK_int]
    refine cond_c (fun hc => ?_) (fun hc => ?_)
    rotate_left
    · have hc := of_decide_eq_false hc
      obtain rfl : k = l.length := by omega
      rw [List.take_length] at hat
      refine ⟨⟨us, SlN.own ho (by omega), exsAtN_map (fun sz v n us hs => hs.mono fun b hb => hb.1) l hat⟩, k1⟩
    have hkl : k < l.length := by
      have := of_decide_eq_true hc
      omega
    have hx := List.getElem?_eq_getElem hkl
    have hmem : l[k] ∈ l := List.getElem_mem hkl
    generalize l[k] = x at hx hmem
    have hxn := exsN_mem hmem
    have hxe := exN_eq x
    refine hs1.rdC hx fun w hw => ?_
    refine ⟨rfl, exC_one hw.isSl, storeK_local (cs := exC x w) rfl ?_⟩
    have hb6 := hp_push_new (h := h5) (o := .cells (exC x w).toArray 118 (0, 0))
    have k6 := Keep.push (S := fun _ => False) h5 (.cells (exC x w).toArray 118 (0, 0))
    have z6 : (h5.push (.cells (exC x w).toArray 118 (0, 0))).size = h5.size + 1 := by simp
    have hw6 := hw.keep k6
    generalize h5.push (.cells (exC x w).toArray 118 (0, 0)) = h6 at *
    refine lx hb6 (j := 3) rfl ?_
    refine CallX.use (ih x.l (by omega) (by omega) h6 w hw6) ?_
    rintro r h7 ⟨hr, k7⟩
    have hb7 := k7.get hb6 (by simp)
    refine oneK_of hr.isSl.one ?_
    refine storeK1_of hb7 (by simp [exC]) ?_
    rw [show (exC x w).toArray.setIfInBounds 3 r = (exC x r).toArray from by simp [exC]]
    have hb8 := hp_set_same (o := .cells (exC x r).toArray 118 (0, 0)) hb7
    have k8 := Keep.set (S := fun b => b = h5.size) (h := h7) (.cells (exC x r).toArray 118 (0, 0)) (b := h5.size) rfl
    have z8 : (h7.setIfInBounds h5.size (.cells (exC x r).toArray 118 (0, 0))).size = h7.size := by simp
    generalize h7.setIfInBounds h5.size (.cells (exC x r).toArray 118 (0, 0)) = h8 at *
    have k58 : Keep (fun _ => False) h5 h8 := ((k6.trans k7).mono (S' := fun b => b = h5.size) (fun _ _ h => h.elim)).trans k8 |>.mono (fun b hb e => by omega)
    refine ⟨exC x r, cellsH_blk hb8 rfl, rfl, ?_⟩
    refine appK_one (bt := 56) (cs := exC x r) (by kernel_rfl) (ho.more k58) rfl (exC_one hr.isSl) (by omega) (by omega) (by have := k1.size; have := k58.size; omega) fun w2 h9 ho2 hg _ hv => ?_
    have hlt := ho.lt
    have k7s := k7.size
    have k58s := k58.size
    have hg9 := hg.size
    have k89 : Keep (fun b => some b = out.ownBlock) h8 h9 := Keep.grown hg fun b hb _ => hb.symm
    have k59 : Keep (fun b => some b = out.ownBlock) h5 h9 := (k58.mono (fun _ _ h => h.elim)).trans k89
    have k09 : Keep (fun _ => False) h h9 := Keep.mono (k1.mono (S' := fun b => some b = out.ownBlock) (fun _ _ h => h.elim) |>.trans k59) (fun b hb e => by have := hlt b e.symm; omega)
    rw [asK_int, i64_in (by omega) (by omega)]
    refine ⟨⟨k + 1, us ++ exC x r, by simp, by omega, ho2, ?_, k09⟩, by simp; omega⟩
    rw [tk_snoc hx]
    refine exsAtN_snoc (exsAtN_map (fun sz v n us hs => (hs.keep k59 fun b hb e => hb.2 e.symm).mono fun b hb => ⟨⟨hb.1.1, by omega⟩, push_own hv (by omega) hb.2⟩) _ hat) (by rw [ho.1, List.length_take]; congr 1; omega) ?_ rfl
    refine exAtN_iff.2 ⟨r, rfl, hr.map fun sz v n us hs => ?_⟩
    refine ((hs.keep k8 fun b hb => by omega).keep k89 fun b hb e => by have := hlt b e.symm; omega).mono fun b hb => ⟨⟨by have := k1.size; omega, by omega⟩, push_own hv (by omega) fun e => ?_⟩
    have := hlt b e
    omega
/-- a block of our own whose cells are written: the frame -/
theorem stC_set6 (x : St) (a b c r : Value) : (stC x a b c).toArray.setIfInBounds 6 r = (stC x r b c).toArray := by simp [stC]
theorem stC_set7 (x : St) (a b c r : Value) : (stC x a b c).toArray.setIfInBounds 7 r = (stC x a r c).toArray := by simp [stC]
theorem stC_set8 (x : St) (a b c r : Value) : (stC x a b c).toArray.setIfInBounds 8 r = (stC x a b r).toArray := by simp [stC]
set_option maxRecDepth 100000 in
theorem copyS_law : ∀ (N : Nat) (l : List St), stsN l < N → stsN l ≤ 8000 → ∀ (h : Hp) (v : Value), StS h v l → ∀ (X : List PanicEntry → Hp → Prop),
    CallX Tryd.prog ω n_pipewrightref_copyStmts [v] h (fun r h' => StSN h' (Nw h h') r l ∧ Keep (fun _ => False) h h') X := by
  intro N
  induction N with
  | zero => exact fun l hN => absurd hN (Nat.not_lt_zero _)
  | succ N ih =>
    intro l hN hle h v hs X
    refine C_pipewrightref_copyStmts ω _ h _ X ?_
    unfold W_pipewrightref_copyStmts
    have hlen := stsN_len l
    refine ⟨fun out t h' => ∃ (k : Nat) (us : List Value), t = .int .i64 k ∧ k ≤ l.length ∧ OwnH h' h.size 65 9 out k us ∧ stsAtN h' (fun b => Nw h h' b ∧ out.ownBlock ≠ some b) (l.take k) us ∧ Keep (fun _ => False) h h',
      fun _ t _ => match t with | .int _ k => l.length - k.toNat | _ => 0, ⟨0, [], rfl, by omega, OwnH.nil, stsAtN_nil, Keep.refl _ _⟩, ?_⟩
    rintro out _ _ h5 ⟨k, us, rfl, hk, ho, hat, k1⟩
    have hs1 := hs.keep k1
    refine hs1.sl fun _ _ => ?_
    rw [asK_int]
    refine cond_c (fun hc => ?_) (fun hc => ?_)
    rotate_left
    · have hc := of_decide_eq_false hc
      obtain rfl : k = l.length := by omega
      rw [List.take_length] at hat
      refine ⟨⟨us, SlN.own ho (by omega), stsAtN_map (fun sz v n us hs => hs.mono fun b hb => hb.1) l hat⟩, k1⟩
    have hkl : k < l.length := by
      have := of_decide_eq_true hc
      omega
    have hx := List.getElem?_eq_getElem hkl
    have hmem : l[k] ∈ l := List.getElem_mem hkl
    generalize l[k] = x at hx hmem
    have hxn := stsN_mem hmem
    have hxe := stN_eq x
    refine hs1.rdC hx fun ve vb vl he hbd hel => ?_
    refine ⟨rfl, stC_one he.isSl hbd.isSl hel.isSl, storeK_local (cs := stC x ve vb vl) rfl ?_⟩
    have hb6 := hp_push_new (h := h5) (o := .cells (stC x ve vb vl).toArray 65 (0, 0))
    have k6 := Keep.push (S := fun _ => False) h5 (.cells (stC x ve vb vl).toArray 65 (0, 0))
    have z6 : (h5.push (.cells (stC x ve vb vl).toArray 65 (0, 0))).size = h5.size + 1 := by simp
    have he := he.keep k6
    generalize h5.push (.cells (stC x ve vb vl).toArray 65 (0, 0)) = h6 at *
    refine lx hb6 (j := 6) rfl ?_
    refine CallX.use (copyE_law _ x.e (Nat.lt_succ_self _) (by omega) h6 ve he) ?_
    rintro r1 h7 ⟨hr1, k7⟩
    have hb7 := k7.get hb6 (by simp)
    refine oneK_of hr1.isSl.one ?_
    refine storeK1_of hb7 (by simp [stC]) ?_
    rw [stC_set6]
    have hb8 := hp_set_same (o := .cells (stC x r1 vb vl).toArray 65 (0, 0)) hb7
    have k8 := Keep.set (S := fun b => b = h5.size) (h := h7) (.cells (stC x r1 vb vl).toArray 65 (0, 0)) (b := h5.size) rfl
    have z8 : (h7.setIfInBounds h5.size (.cells (stC x r1 vb vl).toArray 65 (0, 0))).size = h7.size := by simp
    generalize h7.setIfInBounds h5.size (.cells (stC x r1 vb vl).toArray 65 (0, 0)) = h8 at *
    have k58 : Keep (fun b => b = h5.size) h5 h8 := ((k6.trans k7).mono (fun _ _ h => h.elim)).trans k8
    have f58 : Keep (fun _ => False) h5 h8 := k58.mono (fun b hb e => by omega)
    refine lx hb8 (j := 7) rfl ?_
    refine CallX.use (ih x.body (by omega) (by omega) h8 vb (hbd.keep f58)) ?_
    rintro r2 h9 ⟨hr2, k9⟩
    have hb9 := k9.get hb8 (by simp)
    refine oneK_of hr2.isSl.one ?_
    refine storeK1_of hb9 (by simp [stC]) ?_
    rw [stC_set7]
    have hb10 := hp_set_same (o := .cells (stC x r1 r2 vl).toArray 65 (0, 0)) hb9
    have k10 := Keep.set (S := fun b => b = h5.size) (h := h9) (.cells (stC x r1 r2 vl).toArray 65 (0, 0)) (b := h5.size) rfl
    have z10 : (h9.setIfInBounds h5.size (.cells (stC x r1 r2 vl).toArray 65 (0, 0))).size = h9.size := by simp
    generalize h9.setIfInBounds h5.size (.cells (stC x r1 r2 vl).toArray 65 (0, 0)) = h10 at *
    have k810 : Keep (fun b => b = h5.size) h8 h10 := (k9.mono (fun _ _ h => h.elim)).trans k10
    have k510 := k58.trans k810
    have f510 : Keep (fun _ => False) h5 h10 := k510.mono (fun b hb e => by omega)
    refine lx hb10 (j := 8) rfl ?_
    refine CallX.use (ih x.els (by omega) (by omega) h10 vl (hel.keep f510)) ?_
    rintro r3 h11 ⟨hr3, k11⟩
    have hb11 := k11.get hb10 (by simp)
    refine oneK_of hr3.isSl.one ?_
    refine storeK1_of hb11 (by simp [stC]) ?_
    rw [stC_set8]
    have hb12 := hp_set_same (o := .cells (stC x r1 r2 r3).toArray 65 (0, 0)) hb11
    have k12 := Keep.set (S := fun b => b = h5.size) (h := h11) (.cells (stC x r1 r2 r3).toArray 65 (0, 0)) (b := h5.size) rfl
    have z12 : (h11.setIfInBounds h5.size (.cells (stC x r1 r2 r3).toArray 65 (0, 0))).size = h11.size := by simp
    generalize h11.setIfInBounds h5.size (.cells (stC x r1 r2 r3).toArray 65 (0, 0)) = h12 at *
    have k1012 : Keep (fun b => b = h5.size) h10 h12 := (k11.mono (fun _ _ h => h.elim)).trans k12
    have k912 : Keep (fun b => b = h5.size) h9 h12 := k10.trans k1012
    have k712 : Keep (fun b => b = h5.size) h7 h12 := k8.trans (k810.trans k1012)
    have f512 : Keep (fun _ => False) h5 h12 := (k510.trans k1012).mono (fun b hb e => by omega)
    refine ⟨stC x r1 r2 r3, cellsH_blk hb12 rfl, rfl, ?_⟩
    refine appK_one (bt := 144) (cs := stC x r1 r2 r3) (by kernel_rfl) (ho.more f512) rfl (stC_one hr1.isSl hr2.isSl hr3.isSl) (by omega) (by omega) (by have := k1.size; have := f512.size; omega) fun w2 h13 ho2 hg _ hv => ?_
    have hlt := ho.lt
    have k7s := k7.size
    have k9s := k9.size
    have k11s := k11.size
    have k58s := f512.size
    have hg9 := hg.size
    have k89 : Keep (fun b => some b = out.ownBlock) h12 h13 := Keep.grown hg fun b hb _ => hb.symm
    have k59 : Keep (fun b => some b = out.ownBlock) h5 h13 := (f512.mono (fun _ _ h => h.elim)).trans k89
    have k09 : Keep (fun _ => False) h h13 := Keep.mono (k1.mono (S' := fun b => some b = out.ownBlock) (fun _ _ h => h.elim) |>.trans k59) (fun b hb e => by have := hlt b e.symm; omega)
    have hf : ∀ {ha hb : Hp}, Keep (fun b => b = h5.size) hb h12 → h5.size < ha.size → hb.size ≤ h12.size → ∀ sz v n us, SlN hb (Nw ha hb) sz v n us → SlN h13 (fun b => Nw h h13 b ∧ w2.ownBlock ≠ some b) sz v n us := by
      intro ha hb kk h1 h2 sz v n us hs
      refine ((hs.keep kk fun b hb e => by omega).keep k89 fun b hb e => by have := hlt b e.symm; omega).mono fun b hb => ⟨⟨by have := k1.size; omega, by omega⟩, push_own hv (by omega) fun e => ?_⟩
      have := hlt b e
      omega
    rw [asK_int, i64_in (by omega) (by omega)]
    refine ⟨⟨k + 1, us ++ stC x r1 r2 r3, by simp, by omega, ho2, ?_, k09⟩, by simp; omega⟩
    rw [tk_snoc hx]
    refine stsAtN_snoc (stsAtN_map (fun sz v n us hs => (hs.keep k59 fun b hb e => hb.2 e.symm).mono fun b hb => ⟨⟨hb.1.1, by omega⟩, push_own hv (by omega) hb.2⟩) _ hat) (by rw [ho.1, List.length_take]; congr 1; omega) ?_ rfl
    exact stAtN_iff.2 ⟨r1, r2, r3, rfl, hr1.map (hf k712 (by omega) k712.size), hr2.map (hf k912 (by omega) k912.size), hr3.map (hf k12 (by omega) k12.size)⟩
end
end Go.Proofs.YtaehnpilebkcoaaDoor

namespace Go.Proofs.YtaehnpilebkcoaaDoor
open Go Go.Sx Go.Sx.Rn Go.Proofs.YtaehnpilebkcoaaDoor.Sx

theorem nilOr_own {h : Hp} {base n sz : Nat} {t : TypeId} {v : Value} {ys : List Value} (ho : OwnH h base t sz v n ys) : nilOr v := ownNilOr ho
theorem nilOr_isSl {v : Value} (h : nilOr v) : isSl v := by
  rcases h with rfl | ⟨a, l, c, rfl⟩
  · exact ⟨_, _, _, rfl⟩
  · exact ⟨_, _, _, rfl⟩
theorem newsOf {h : Hp} {v : Value} {l : List (ByteArray × ByteArray)} (hs : PsS h v l) : newsAt h v l.length 2 (l.flatMap pf) := by
  refine ⟨hs.1.1, ?_⟩
  rcases hs.1.2 with ⟨h0, a, c, rfl⟩ | ⟨b, o, c, rfl, hc⟩
  · rcases hs.2 with h1 | ⟨a', l', c', h1⟩
    · exact .inl ⟨h1, h0⟩
    · cases h1
      refine .inr ⟨a', c, by rw [h0], fun j u hu => ?_⟩
      obtain rfl := List.eq_nil_of_length_eq_zero h0
      simp at hu
  · refine .inr ⟨⟨b, o, none⟩, c, rfl, fun j u hu => ?_⟩
    rw [addr_add]
    exact hc j u hu
theorem sgC_set2 (x : Sg) (a b r : Value) : (sgC x a b).toArray.setIfInBounds 2 r = (sgC x r b).toArray := by simp [sgC]
theorem sgC_set3 (x : Sg) (a b r : Value) : (sgC x a b).toArray.setIfInBounds 3 r = (sgC x a r).toArray := by simp [sgC]
theorem sum_mem {p : List Sg} {x : Sg} (hx : x ∈ p) : stsN x.body ≤ (p.map fun s => stsN s.body).sum := by
  induction p with
  | nil => cases hx
  | cons y r ih =>
    simp only [List.map_cons, List.sum_cons]
    rcases List.mem_cons.1 hx with rfl | hx
    · omega
    · have := ih hx
      omega
section
variable {ω : Amb}
end
end Go.Proofs.YtaehnpilebkcoaaDoor
