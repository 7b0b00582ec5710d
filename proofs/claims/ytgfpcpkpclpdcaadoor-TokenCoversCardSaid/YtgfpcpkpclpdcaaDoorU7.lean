/- Tokens: names, sameness, what a scan gives. -/
import Derived.Test.YtgfpcpkpclpdcaaDoorU6
namespace Go.Proofs.YtgfpcpkpclpdcaaDoor
open Go Go.Sx Go.Sx.Tk Go.Proofs.YtgfpcpkpclpdcaaDoor.Sx

def nameHead (s : ByteArray) : Bool := decide (0 < s.size) && (decide (s.size ≤ 12) && (lo (cAt s 0) && !isWord (bytesOf s)))
def isNameB (s : ByteArray) : Bool := nameHead s && (bytesOf s).all ld
theorem allL_at {s : ByteArray} (h : (bytesOf s).all ld = true) {k : Nat} (hk : k < s.size) : ld (cAt s k) = true := by
  have hl : k < (bytesOf s).length := by rw [bytes_len]; exact hk
  rw [cAt, List.getD_eq_getElem?_getD, List.getElem?_eq_getElem hl, Option.getD_some]
  exact List.all_eq_true.1 h _ (List.getElem_mem hl)

section
variable {ω : Amb}
theorem Name_law (s : ByteArray) (hs : s.size ≤ 20000) (h : Hp) (X : List PanicEntry → Hp → Prop) : CallX Tryd.prog ω n_token_Name [.string s] h (fun r h' => r = .bool (isNameB s) ∧ h' = h) X := by
  refine C_token_Name ω _ h _ X ?_
  unfold W_token_Name
  refine ⟨fun r h' => r = .bool (!nameHead s) ∧ h' = h, ?_, ?_⟩
  · unfold nameHead
    rw [asS_str, Bool.eq_iff_iff.2 (⟨fun he => ?_, fun he => ?_⟩ : (s.toList == ByteArray.toList ⟨#[]⟩) = true ↔ decide (s.size = 0) = true)]
    rotate_left
    · rw [eqS] at he
      have := congrArg List.length (of_decide_eq_true he)
      rw [bytes_len, bytes_len] at this
      simp only [decide_eq_true_eq]
      rw [this]
      rfl
    · rw [eqS, decide_eq_true_eq]
      refine List.eq_nil_of_length_eq_zero ?_
      rw [bytes_len]
      exact of_decide_eq_true he
    refine cond_c (fun hc => ?_) (fun hc => ?_)
    · have := of_decide_eq_true hc
      rw [decide_eq_false (by omega : ¬ 0 < s.size)]
      exact ⟨rfl, rfl⟩
    have h0 := of_decide_eq_false hc
    rw [asS_str, decide_eq_true (by omega : 0 < s.size), Bool.true_and]
    refine cond_c (fun hc => ?_) (fun hc => ?_)
    · have := of_decide_eq_true hc
      rw [decide_eq_false (by omega : ¬ s.size ≤ 12)]
      exact ⟨rfl, rfl⟩
    have h1 := of_decide_eq_false hc
    rw [asS_str, decide_eq_true (by omega : s.size ≤ 12), Bool.true_and, byteAt_z]
    refine ⟨by omega, by omega, ?_⟩
    refine CallX.use (letter_law _ h) ?_
    rintro _ _ ⟨rfl, hh⟩
    rw [hh, asB_bool]
    refine cond_c (fun hc => ?_) (fun hc => ?_)
    · have hc : lo (cAt s 0) = false := by simpa using hc
      rw [hc]
      exact ⟨rfl, rfl⟩
    · have hc : lo (cAt s 0) = true := by simpa using hc
      rw [hc, Bool.true_and, Bool.not_not]
      exact Word_law s h X
  rintro _ _ _ ⟨rfl, hh⟩
  rw [hh, asB_bool]
  unfold isNameB
  refine cond_c (fun hc => ?_) (fun hc => ?_)
  · have hc : nameHead s = false := by simpa using hc
    rw [hc]
    exact ⟨rfl, rfl⟩
  have hc : nameHead s = true := by simpa using hc
  rw [hc, Bool.true_and, asS_str]
  refine ⟨fun i h' => h' = h ∧ ∃ k : Nat, i = .int .i64 k ∧ k ≤ s.size ∧ ((bytesOf s).take k).all ld = true,
    fun i _ => match i with | .int _ k => s.size - k.toNat | _ => 0, ⟨rfl, 0, rfl, by omega, rfl⟩, ?_⟩
  rintro _ _ h4 ⟨hh, k, rfl, hk, hd⟩
  rw [hh, asK_int]
  refine cond_c (fun hc => ?_) (fun hc => ?_)
  · have hlt : k < s.size := by have := of_decide_eq_true hc; omega
    refine ⟨fun r h' => r = .bool (!ld (cAt s k)) ∧ h' = h, ?_, ?_⟩
    · rw [asS_str, asI_int, byteAt_c]
      refine ⟨by omega, by omega, ?_⟩
      refine CallX.use (letter_law _ h) ?_
      rintro _ _ ⟨rfl, hh⟩
      rw [hh, asB_bool, Tk.ld]
      refine cond_c (fun hc => ?_) (fun hc => ?_)
      · have hc : lo (cAt s k) = false := by simpa using hc
        rw [asS_str, asI_int, byteAt_c, hc, Bool.false_or]
        refine ⟨by omega, by omega, ?_⟩
        refine CallX.use (digit_law _ h) ?_
        rintro _ _ ⟨rfl, hh⟩
        rw [hh, asB_bool]
        exact ⟨rfl, rfl⟩
      · have hc : lo (cAt s k) = true := by simpa using hc
        rw [hc]
        exact ⟨rfl, rfl⟩
    rintro _ _ _ ⟨rfl, hh⟩
    rw [hh, asB_bool]
    refine cond_c (fun hc => ?_) (fun hc => ?_)
    · have hc : ld (cAt s k) = false := by simpa using hc
      refine ⟨?_, rfl⟩
      cases ha : (bytesOf s).all ld
      · rfl
      · rw [allL_at ha hlt] at hc
        cases hc
    · have hc : ld (cAt s k) = true := by simpa using hc
      rw [asK_int, i64_in (by omega) (by omega)]
      refine ⟨⟨rfl, k + 1, by simp, by omega, ?_⟩, by simp; omega⟩
      rw [take_snoc s hlt, List.all_append, hd]
      simpa using hc
  · have hke : k = s.size := by have := of_decide_eq_false hc; omega
    subst hke
    rw [take_all] at hd
    rw [hd]
    exact ⟨rfl, rfl⟩

theorem IsName_law (s : ByteArray) (hs : s.size ≤ 20000) (h : Hp) (X : List PanicEntry → Hp → Prop) : CallX Tryd.prog ω n_pipewrightref_IsName [.string s] h (fun r h' => r = .bool (isNameB s) ∧ Keep (fun _ => False) h h') X := by
  refine C_pipewrightref_IsName ω _ h _ X ?_
  unfold W_pipewrightref_IsName
  refine ⟨fun r h' => r = .bool (!nameHead s) ∧ Keep (fun _ => False) h h', ?_, ?_⟩
  · unfold nameHead
    rw [asS_str]
    refine cond_c (fun hc => ?_) (fun hc => ?_)
    · have := of_decide_eq_true hc
      rw [decide_eq_false (by omega : ¬ 0 < s.size)]
      exact ⟨rfl, Keep.refl _ _⟩
    have h0 := of_decide_eq_false hc
    rw [asS_str, decide_eq_true (by omega : 0 < s.size), Bool.true_and]
    refine cond_c (fun hc => ?_) (fun hc => ?_)
    · have := of_decide_eq_true hc
      rw [decide_eq_false (by omega : ¬ s.size ≤ 12)]
      exact ⟨rfl, Keep.refl _ _⟩
    have h1 := of_decide_eq_false hc
    rw [asS_str, decide_eq_true (by omega : s.size ≤ 12), Bool.true_and, byteAt_z]
    refine ⟨by omega, by omega, ?_⟩
    refine CallX.use (small_law _ h) ?_
    rintro _ _ ⟨rfl, hh⟩
    rw [hh, asB_bool]
    refine cond_c (fun hc => ?_) (fun hc => ?_)
    · have hc : lo (cAt s 0) = false := by simpa using hc
      rw [hc]
      exact ⟨rfl, Keep.refl _ _⟩
    · have hc : lo (cAt s 0) = true := by simpa using hc
      rw [hc, Bool.true_and, Bool.not_not]
      exact IsWord_law s h X
  rintro _ _ h1 ⟨rfl, k1⟩
  rw [asB_bool]
  unfold isNameB
  refine cond_c (fun hc => ?_) (fun hc => ?_)
  · have hc : nameHead s = false := by simpa using hc
    rw [hc]
    exact ⟨rfl, k1⟩
  have hc : nameHead s = true := by simpa using hc
  rw [hc, Bool.true_and]
  refine ⟨fun i h' => h' = h1 ∧ ∃ k : Nat, i = .int .i64 k ∧ k ≤ s.size ∧ ((bytesOf s).take k).all ld = true,
    fun i _ => match i with | .int _ k => s.size - k.toNat | _ => 0, ⟨rfl, 0, rfl, by omega, rfl⟩, ?_⟩
  rintro _ _ h4 ⟨hh, k, rfl, hk, hd⟩
  rw [hh, asS_str, asK_int]
  refine cond_c (fun hc => ?_) (fun hc => ?_)
  · have hlt : k < s.size := by have := of_decide_eq_true hc; omega
    refine ⟨fun r h' => r = .bool (!ld (cAt s k)) ∧ h' = h1, ?_, ?_⟩
    · rw [asS_str, asI_int, byteAt_c]
      refine ⟨by omega, by omega, ?_⟩
      refine CallX.use (small_law _ h1) ?_
      rintro _ _ ⟨rfl, hh⟩
      rw [hh, asB_bool, Tk.ld]
      refine cond_c (fun hc => ?_) (fun hc => ?_)
      · have hc : lo (cAt s k) = false := by simpa using hc
        rw [asS_str, asI_int, byteAt_c, hc, Bool.false_or]
        refine ⟨by omega, by omega, ?_⟩
        refine CallX.use (rdigit_law _ h1) ?_
        rintro _ _ ⟨rfl, hh⟩
        rw [hh, asB_bool]
        exact ⟨rfl, rfl⟩
      · have hc : lo (cAt s k) = true := by simpa using hc
        rw [hc]
        exact ⟨rfl, rfl⟩
    rintro _ _ _ ⟨rfl, hh⟩
    rw [hh, asB_bool]
    refine cond_c (fun hc => ?_) (fun hc => ?_)
    · have hc : ld (cAt s k) = false := by simpa using hc
      refine ⟨?_, k1⟩
      cases ha : (bytesOf s).all ld
      · rfl
      · rw [allL_at ha hlt] at hc
        cases hc
    · have hc : ld (cAt s k) = true := by simpa using hc
      rw [asK_int, i64_in (by omega) (by omega)]
      refine ⟨⟨rfl, k + 1, by simp, by omega, ?_⟩, by simp; omega⟩
      rw [take_snoc s hlt, List.all_append, hd]
      simpa using hc
  · have hke : k = s.size := by have := of_decide_eq_false hc; omega
    subst hke
    rw [take_all] at hd
    rw [hd]
    exact ⟨rfl, k1⟩

theorem SameTokens_law {h : Hp} {va vb : Value} {ts : List Tok} (ha : SlAt h 4 va ts.length (ts.flatMap Tok.f)) (hb : SlAt h 4 vb ts.length (ts.flatMap Tok.f)) (hl : ts.length ≤ 1000000) (X : List PanicEntry → Hp → Prop) :
    CallX Tryd.prog ω n_pipewrightref_SameTokens [va, vb] h (fun r h' => r = .bool true ∧ h' = h) X := by
  refine C_pipewrightref_SameTokens ω _ _ h _ X ?_
  unfold W_pipewrightref_SameTokens
  refine ha.sl fun _ _ => hb.sl fun _ _ => ?_
  refine cond_f (by simp) ?_
  refine ⟨fun i h' => h' = h ∧ ∃ k : Nat, i = .int .i64 k ∧ k ≤ ts.length, fun i _ => match i with | .int _ k => ts.length - k.toNat | _ => 0, ⟨rfl, 0, rfl, by omega⟩, ?_⟩
  rintro _ _ h4 ⟨hh, k, rfl, hk⟩
  rw [hh]
  refine ha.sl fun _ _ => ?_
  rw [asK_int]
  refine cond_c (fun hc => ?_) (fun _ => ⟨rfl, rfl⟩)
  have hlt : k < ts.length := by have := of_decide_eq_true hc; omega
  have hx : ts[k]? = some ts[k] := List.getElem?_eq_getElem hlt
  generalize ts[k] = t at hx
  refine ha.rdS Tok.len hx ?_
  refine hb.rdS Tok.len hx ?_
  simp only [Tok.f, Sx.ld]
  refine cond_f (by simp) ?_
  rw [i64_in (by omega) (by omega)]
  exact ⟨⟨trivial, k + 1, by simp, by omega⟩, by simp; omega⟩
end

/-- what a scan of a text is -/
def Out (s : ByteArray) (ts : List Tok) (e a : Int) : Prop :=
  (12000 < s.size ∧ ts = [] ∧ e = 1 ∧ a = 12000) ∨ (s.size ≤ 12000 ∧ Sc (bytesOf s) 0 (.ok ts) ∧ e = 0 ∧ a = 0) ∨ (s.size ≤ 12000 ∧ Sc (bytesOf s) 0 (.error (e, a)) ∧ ts = [])
theorem Out.same {s : ByteArray} {ts us : List Tok} {e a e' a' : Int} (h : Out s ts e a) (k : Out s us e' a') : ts = us ∧ e = e' ∧ a = a' := by
  rcases h with ⟨h0, h1, h2, h3⟩ | ⟨h0, h1, h2, h3⟩ | ⟨h0, h1, h2⟩ <;> rcases k with ⟨k0, k1, k2, k3⟩ | ⟨k0, k1, k2, k3⟩ | ⟨k0, k1, k2⟩ <;> try omega
  · exact ⟨by rw [h1, k1], by rw [h2, k2], by rw [h3, k3]⟩
  · cases h1.same k1
    exact ⟨rfl, by rw [h2, k2], by rw [h3, k3]⟩
  · cases h1.same k1
  · cases h1.same k1
  · cases h1.same k1
    exact ⟨by rw [h2, k2], rfl, rfl⟩
theorem ScanOut.out {s : ByteArray} {h h' : Hp} {r : Value} (hs : ScanOut s h r h') : ∃ ts v e a, r = .tuple #[v, .agg (flt e a).toArray] ∧ Keep (fun _ => False) h h' ∧ Out s ts e a ∧ SlAt h' 4 v ts.length (ts.flatMap Tok.f) := by
  cases hs with
  | big hb hr hk => exact ⟨[], _, 1, 12000, hr, hk, .inl ⟨hb, rfl, rfl, rfl⟩, rfl, .inl ⟨rfl, _, _, rfl⟩⟩
  | ok ts v hb hs hr ho hk => exact ⟨ts, v, 0, 0, hr, hk, .inr (.inl ⟨hb, hs, rfl, rfl⟩), ho.slAt⟩
  | bad e a hb hs hr hk => exact ⟨[], _, e, a, hr, hk, .inr (.inr ⟨hb, hs, rfl⟩), rfl, .inl ⟨rfl, _, _, rfl⟩⟩
theorem Sc.len {l : List UInt8} {at_ : Int} {res : Res} (h : Sc l at_ res) : ∀ ts, res = .ok ts → ts.length ≤ l.length := by
  induction h with
  | stop _ => rintro _ ⟨⟩; simp
  | bad _ _ => rintro _ ⟨⟩
  | @tok l r at_ c kind len n ts h1 e1 k1 ih =>
    rintro _ ⟨⟩
    have := ih ts rfl
    have h2 := oneL_len e1
    have h3 := congrArg List.length h1
    rw [List.length_drop] at this h3
    simp only [List.length_cons] at *
    omega
  | fail _ _ _ _ => rintro _ ⟨⟩
theorem Out.len {s : ByteArray} {ts : List Tok} {e a : Int} (h : Out s ts e a) : ts.length ≤ 12000 := by
  rcases h with ⟨_, rfl, _⟩ | ⟨h0, h1, _⟩ | ⟨_, _, rfl⟩
  · simp
  · have := h1.len ts rfl
    rw [bytes_len] at this
    omega
  · simp
/-- an error stands in the text, and is none -/
theorem Sc.err {l : List UInt8} {at_ : Int} {res : Res} (h : Sc l at_ res) : ∀ e a, res = .error (e, a) → e ≠ 0 ∧ at_ ≤ a ∧ a ≤ at_ + l.length := by
  induction h with
  | stop _ => rintro _ _ ⟨⟩
  | @bad l r at_ c e0 h1 e1 =>
    rintro _ _ ⟨⟩
    have := bad_ne e1
    have := blanks_le false l
    omega
  | tok _ _ _ _ => rintro _ _ ⟨⟩
  | @fail l r at_ c kind len n x h1 e1 k1 ih =>
    intro e a he
    obtain ⟨h4, h5, h6⟩ := ih e a he
    have h2 := oneL_len e1
    have h3 := congrArg List.length h1
    rw [List.length_drop] at h6 h3
    simp only [List.length_cons] at *
    omega
end Go.Proofs.YtgfpcpkpclpdcaaDoor
