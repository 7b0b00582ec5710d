/- Tokens: numbers; words by a loop; runs by a loop. -/
import Derived.Test.YtgfpcpkpclpdcaaDoorU2
namespace Go.Proofs.YtgfpcpkpclpdcaaDoor
open Go Go.Sx Go.Sx.Tk Go.Proofs.YtgfpcpkpclpdcaaDoor.Sx

theorem valD_snoc (l : List UInt8) (c : UInt8) : valD (l ++ [c]) = 10 * valD l + ((c.toNat : Int) - 48) := by simp [valD]
theorem valD_le : ∀ (n : Nat) (l : List UInt8), l.length = n → l.all dg = true → 0 ≤ valD l ∧ valD l < 10 ^ n
  | 0, l, h, _ => by
    have : l = [] := List.eq_nil_of_length_eq_zero h
    subst this
    exact ⟨by decide, by decide⟩
  | n + 1, l, h, hd => by
    obtain ⟨l', c, rfl⟩ : ∃ l' c, l = l' ++ [c] := by
      rcases List.eq_nil_or_concat l with rfl | ⟨l', c, rfl⟩
      · simp at h
      · exact ⟨l', c, by simp⟩
    rw [List.all_append, Bool.and_eq_true] at hd
    obtain ⟨h1, h2⟩ := valD_le n l' (by simp at h; omega) hd.1
    have hc : dg c = true := by simpa using hd.2
    simp only [dg, Bool.and_eq_true, decide_eq_true_eq] at hc
    rw [valD_snoc, Int.pow_succ]
    omega
theorem take_snoc (s : ByteArray) {k : Nat} (hk : k < s.size) : (bytesOf s).take (k + 1) = (bytesOf s).take k ++ [cAt s k] := by
  have hl : k < (bytesOf s).length := by rw [bytes_len]; exact hk
  rw [List.take_succ_eq_append_getElem hl]
  congr 2
  rw [cAt, List.getD_eq_getElem?_getD, List.getElem?_eq_getElem hl, Option.getD_some]
theorem all_at {s : ByteArray} (h : (bytesOf s).all dg = true) {k : Nat} (hk : k < s.size) : dg (cAt s k) = true := by
  have hl : k < (bytesOf s).length := by rw [bytes_len]; exact hk
  rw [cAt, List.getD_eq_getElem?_getD, List.getElem?_eq_getElem hl, Option.getD_some]
  exact List.all_eq_true.1 h _ (List.getElem_mem hl)
theorem all_take {l : List UInt8} (h : l.all dg = true) (k : Nat) : (l.take k).all dg = true := by
  rw [List.all_eq_true] at h ⊢
  exact fun x hx => h x (List.mem_of_mem_take hx)
theorem take_all (s : ByteArray) : (bytesOf s).take s.size = bytesOf s := List.take_of_length_le (by rw [bytes_len]; exact Nat.le_refl _)
theorem val_take {s : ByteArray} {k : Nat} (hk : k ≤ s.size) (h18 : s.size ≤ 18) (hd : ((bytesOf s).take k).all dg = true) : 0 ≤ valD ((bytesOf s).take k) ∧ valD ((bytesOf s).take k) < 10 ^ k ∧ (10 : Int) ^ k ≤ 1000000000000000000 ∧ (k < s.size → (10 : Int) ^ k ≤ 100000000000000000) := by
  have h1 : ((bytesOf s).take k).length = k := by rw [List.length_take, bytes_len]; omega
  obtain ⟨h2, h3⟩ := valD_le k _ h1 hd
  refine ⟨h2, h3, ?_, fun hlt => ?_⟩
  · have : ∀ m : Fin 19, (10 : Int) ^ (m : Nat) ≤ 1000000000000000000 := by decide
    exact this ⟨k, by omega⟩
  · have : ∀ m : Fin 18, (10 : Int) ^ (m : Nat) ≤ 100000000000000000 := by decide
    exact this ⟨k, by omega⟩
def wordV : List Value := words.map fun w => .string ⟨w.toArray⟩
theorem wordV_at {k : Nat} {w : List UInt8} (h : words[k]? = some w) : wordV[k]? = some (.string ⟨w.toArray⟩) := by rw [wordV, List.getElem?_map, h]; rfl
/-- a fault's cells -/
def flt (code at_ : Int) : List Value := [.int .i64 code, .int .i64 at_]
theorem flt_one (c a : Int) : ∀ u ∈ flt c a, one u := by
  intro u hu
  simp only [flt, List.mem_cons, List.not_mem_nil, or_false] at hu
  rcases hu with rfl | rfl <;> rfl

section
variable {ω : Amb}
theorem IsWord_law (s : ByteArray) (h : Hp) (X : List PanicEntry → Hp → Prop) : CallX Tryd.prog ω n_pipewrightref_IsWord [.string s] h (fun r h' => r = .bool (isWord (bytesOf s)) ∧ Keep (fun _ => False) h h') X := by
  refine C_pipewrightref_IsWord ω _ h _ X ?_
  unfold W_pipewrightref_IsWord
  have hb : (Array.push h (.cells wordV.toArray 9 (0, 0)))[h.size]? = some (.cells wordV.toArray 9 (0, 0)) := hp_push_new
  have kp : Keep (fun _ => False) h (Array.push h (.cells wordV.toArray 9 (0, 0))) := Keep.push _ _
  refine ⟨fun i h' => h' = Array.push h (.cells wordV.toArray 9 (0, 0)) ∧ ∃ k : Nat, i = .int .i64 k ∧ k ≤ 19 ∧ ∀ (q : Nat) (w : List UInt8), q < k → words[q]? = some w → w ≠ bytesOf s,
    fun i _ => match i with | .int _ k => 19 - k.toNat | _ => 0, ⟨rfl, 0, rfl, by omega, fun q w hq => by omega⟩, ?_⟩
  rintro _ _ h4 ⟨hh, k, rfl, hk, hn⟩
  rw [hh]
  generalize Array.push h (.cells wordV.toArray 9 (0, 0)) = h1 at *
  rw [asK_int]
  refine cond_c (fun hc => ?_) (fun hc => ?_)
  · have hlt : k < 19 := by have := of_decide_eq_true hc; omega
    have hx : words[k]? = some words[k] := List.getElem?_eq_getElem hlt
    generalize words[k] = w at hx
    rw [asI_int]
    refine ⟨by omega, by omega, ?_⟩
    rw [Int.toNat_natCast, Nat.mul_one]
    refine lx hb (wordV_at hx) ?_
    rw [asS_str, asS_str, eqS]
    refine cond_c (fun hc => ?_) (fun hc => ?_)
    · have he : w = bytesOf s := of_decide_eq_true hc
      refine ⟨?_, kp⟩
      rw [isWord, decide_eq_true (by rw [← he]; exact List.mem_iff_getElem?.2 ⟨k, hx⟩)]
    · have he : w ≠ bytesOf s := of_decide_eq_false hc
      rw [asK_int, i64_in (by omega) (by omega)]
      refine ⟨⟨rfl, k + 1, by simp, by omega, fun q w' hq hw' => ?_⟩, by simp; omega⟩
      by_cases hqk : q = k
      · subst hqk
        rw [hx] at hw'
        cases hw'
        exact he
      · exact hn q w' (by omega) hw'
  · have hk19 : k = 19 := by have := of_decide_eq_false hc; omega
    subst hk19
    refine ⟨?_, kp⟩
    rw [isWord, decide_eq_false]
    intro hm
    obtain ⟨q, hq⟩ := List.mem_iff_getElem?.1 hm
    exact hn q _ (List.getElem?_eq_some_iff.1 hq).1 hq rfl

theorem F_law (c a : Int) (h : Hp) (X : List PanicEntry → Hp → Prop) : CallX Tryd.prog ω n_pipewrightref_F [.int .i64 c, .int .i64 a] h (fun r h' => r = .agg (flt c a).toArray ∧ Keep (fun _ => False) h h') X := by
  refine C_pipewrightref_F ω _ _ h _ X ?_
  unfold W_pipewrightref_F
  show oneK (.int .i64 c) (oneK (.int .i64 a) _)
  refine ⟨rfl, flt_one c a, storeK_local (cs := flt c a) rfl ?_⟩
  exact ⟨_, cellsH_local rfl, rfl, Keep.push _ _⟩

theorem long_law {s : ByteArray} {j : Nat} (hs : s.size ≤ 20000) (hj : j ≤ s.size) (h : Hp) (X : List PanicEntry → Hp → Prop) :
    CallX Tryd.prog ω n_pipewrightref_long [.string s, .int .i64 (j : Int)] h (fun r h' => r = .int .i64 ((j + run (rest s j) : Nat) : Int) ∧ h' = h) X := by
  refine C_pipewrightref_long ω _ _ h _ X ?_
  unfold W_pipewrightref_long
  refine ⟨fun i h' => h' = h ∧ ∃ k : Nat, i = .int .i64 k ∧ k ≤ s.size ∧ k + run (rest s k) = j + run (rest s j),
    fun i _ => match i with | .int _ k => s.size - k.toNat | _ => 0, ⟨rfl, j, rfl, hj, rfl⟩, ?_⟩
  rintro _ _ h4 ⟨hh, k, rfl, hk, he⟩
  rw [hh]
  refine ⟨fun r h' => r = .bool (decide (k < s.size) && ld (cAt s k)) ∧ h' = h, ?_, ?_⟩
  · rw [asS_str, asK_int]
    refine cond_c (fun hc => ?_) (fun hc => ?_)
    · have hlt : k < s.size := by have := of_decide_eq_true hc; omega
      rw [asS_str, asI_int, byteAt_c]
      refine ⟨by omega, by omega, ?_⟩
      refine CallX.use (small_law _ h) ?_
      rintro _ _ ⟨rfl, hh⟩
      rw [hh, asB_bool, decide_eq_true hlt, Bool.true_and, Tk.ld]
      refine cond_c (fun hc => ⟨by rw [hc]; rfl, rfl⟩) (fun hc => ?_)
      rw [asS_str, asI_int, byteAt_c, hc]
      refine ⟨by omega, by omega, ?_⟩
      refine CallX.use (rdigit_law _ h) ?_
      rintro _ _ ⟨rfl, hh⟩
      rw [hh]
      exact ⟨rfl, rfl⟩
    · have hge : ¬ k < s.size := by have := of_decide_eq_false hc; omega
      rw [decide_eq_false hge]
      exact ⟨rfl, rfl⟩
  · rintro _ _ h5 ⟨rfl, hh⟩
    rw [hh, asB_bool]
    refine cond_c (fun hc => ?_) (fun hc => ?_)
    · rw [Bool.and_eq_true] at hc
      have hlt := of_decide_eq_true hc.1
      rw [rest, dropc s hlt, run_cons, if_pos hc.2] at he
      rw [asK_int, i64_in (by omega) (by omega)]
      exact ⟨⟨rfl, k + 1, by simp, by omega, by show k + 1 + run ((bytesOf s).drop (k + 1)) = _; omega⟩, by simp; omega⟩
    · have he0 : run (rest s k) = 0 := by
        by_cases hlt : k < s.size
        · rw [decide_eq_true hlt, Bool.true_and] at hc
          rw [rest, dropc s hlt, run_cons, if_neg (by rw [hc]; decide)]
        · have : k = s.size := by omega
          rw [this, rest_end]
          rfl
      rw [he0, Nat.add_zero] at he
      rw [← he]
      exact ⟨rfl, rfl⟩

theorem small8 {c : UInt8} (hc : dg c = true) : IntKind.wrap .u8 ((c.toNat : Int) - 48) = (c.toNat : Int) - 48 := by
  simp only [dg, Bool.and_eq_true, decide_eq_true_eq] at hc
  rw [IntKind.wrap_u8]
  omega
/-- what is seen of a number ahead of its digits -/
def odd (s : ByteArray) : Bool := decide (18 < s.size) || (decide (1 < s.size) && decide ((cAt s 0).toNat = 48))
theorem odd_iff (s : ByteArray) : odd s = true ↔ 18 < s.size ∨ (1 < s.size ∧ (cAt s 0).toNat = 48) := by simp [odd]
theorem numL_eq (s : ByteArray) : numL (bytesOf s) = if odd s = true ∨ (bytesOf s).all dg = false then none else some (valD (bytesOf s)) := by
  unfold numL
  rw [bytes_len]
  have : (18 < s.size ∨ 1 < s.size ∧ ((bytesOf s).getD 0 0).toNat = 48 ∨ (bytesOf s).all dg = false) ↔ (odd s = true ∨ (bytesOf s).all dg = false) := by
    rw [odd_iff, or_assoc]
    rfl
  by_cases h : odd s = true ∨ (bytesOf s).all dg = false
  · rw [if_pos h, if_pos (this.2 h)]
  · rw [if_neg h, if_neg fun x => h (this.1 x)]
theorem byteAt_z (s : ByteArray) : byteAt s 0 = ((cAt s 0).toNat : Int) := byteAt_c s 0
/-- the same test stands in both -/
theorem odd_cond (s : ByteArray) (h : Hp) : (asS (.string s) fun s2 => cond (decide (((ByteArray.size s2 : Int) : Int) > 18))
 (((.bool true) : Value) = .bool (odd s) ∧ h = h)
 (asS (.string s) fun s3 => cond (decide (((ByteArray.size s3 : Int) : Int) > 1))
 (asS (.string s) fun s4 => 0 ≤ (0 : Int) ∧ 0 < (ByteArray.size s4 : Int) ∧ ((.bool ((byteAt s4 0) == (48 : Int))) : Value) = .bool (odd s) ∧ h = h)
 (((.bool false) : Value) = .bool (odd s) ∧ h = h))) := by
  unfold odd
  rw [asS_str]
  refine cond_c (fun hc => ⟨?_, rfl⟩) (fun hc => ?_)
  · have := of_decide_eq_true hc
    rw [decide_eq_true (by omega : 18 < s.size), Bool.true_or]
  · have n1 := of_decide_eq_false hc
    rw [asS_str, decide_eq_false (by omega : ¬ 18 < s.size), Bool.false_or]
    refine cond_c (fun hc => ?_) (fun hc => ?_)
    · have := of_decide_eq_true hc
      rw [asS_str, byteAt_z, decide_eq_true (by omega : 1 < s.size), Bool.true_and]
      refine ⟨by omega, by omega, ?_, rfl⟩
      congr 1
      rw [Bool.eq_iff_iff]
      simp
      omega
    · have := of_decide_eq_false hc
      rw [decide_eq_false (by omega : ¬ 1 < s.size), Bool.false_and]
      exact ⟨rfl, rfl⟩

theorem num_law (s : ByteArray) (hs : s.size ≤ 20000) (h : Hp) (X : List PanicEntry → Hp → Prop) :
    CallX Tryd.prog ω n_pipewrightref_num [.string s] h (fun r h' => r = .int .i64 ((numL (bytesOf s)).getD (-1)) ∧ h' = h) X := by
  refine C_pipewrightref_num ω _ h _ X ?_
  unfold W_pipewrightref_num
  rw [numL_eq]
  refine ⟨odd s, odd_cond s h, fun _ => cond_c (fun hc => ?_) (fun hno => ?_)⟩
  · rw [if_pos (.inl hc)]
    exact ⟨rfl, rfl⟩
  · have h18 : s.size ≤ 18 := by
      have := mt (odd_iff s).2 (by rw [hno]; decide)
      omega
    refine ⟨fun n i h' => h' = h ∧ ∃ k : Nat, i = .int .i64 k ∧ k ≤ s.size ∧ ((bytesOf s).take k).all dg = true ∧ n = .int .i64 (valD ((bytesOf s).take k)),
      fun _ i _ => match i with | .int _ k => s.size - k.toNat | _ => 0, ⟨rfl, 0, rfl, by omega, rfl, rfl⟩, ?_⟩
    rintro _ _ _ h4 ⟨hh, k, rfl, hk, hd, rfl⟩
    rw [hh, asS_str, asK_int]
    refine cond_c (fun hc => ?_) (fun hc => ?_)
    · have hlt : k < s.size := by have := of_decide_eq_true hc; omega
      rw [asS_str, asI_int, byteAt_c]
      refine ⟨by omega, by omega, ?_⟩
      refine CallX.use (rdigit_law _ h) ?_
      rintro _ _ ⟨rfl, hh⟩
      rw [hh, asB_bool]
      refine cond_c (fun hc => ?_) (fun hc => ?_)
      · have hc' : dg (cAt s k) = false := by simpa using hc
        have hall : (bytesOf s).all dg = false := by
          cases ha : (bytesOf s).all dg
          · rfl
          · rw [all_at ha hlt] at hc'
            cases hc'
        rw [if_pos (.inr hall)]
        exact ⟨rfl, rfl⟩
      · have hc' : dg (cAt s k) = true := by simpa using hc
        obtain ⟨v0, v1, v2, v3⟩ := val_take hk h18 hd
        have v3 := v3 hlt
        have hdd := hc'
        simp only [dg, Bool.and_eq_true, decide_eq_true_eq] at hdd
        rw [asK_int, asS_str, asI_int]
        refine ⟨by omega, by omega, ?_⟩
        rw [asK_int, byteAt_c, small8 hc', i64_in (n := (k : Int) + 1) (by omega) (by omega), i64_in (n := 10 * _) (by omega) (by omega), i64_in (n := (_ : Int) - 48) (by omega) (by omega), i64_in (by omega) (by omega)]
        refine ⟨⟨rfl, k + 1, by simp, by omega, ?_, ?_⟩, by simp; omega⟩
        · rw [take_snoc s hlt, List.all_append, hd]
          simpa using hc'
        · rw [take_snoc s hlt, valD_snoc]
    · have hke : k = s.size := by have := of_decide_eq_false hc; omega
      subst hke
      rw [take_all] at hd ⊢
      rw [if_neg (by rw [hd]; simp [hno])]
      exact ⟨rfl, rfl⟩
end
end Go.Proofs.YtgfpcpkpclpdcaaDoor
