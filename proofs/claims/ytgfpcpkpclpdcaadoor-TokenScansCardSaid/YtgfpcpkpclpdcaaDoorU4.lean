/- Tokens: numbers by strconv. -/
import Derived.Test.YtgfpcpkpclpdcaaDoorU3
namespace Go.Proofs.YtgfpcpkpclpdcaaDoor
open Go Go.Sx Go.Sx.Tk Go.Proofs.YtgfpcpkpclpdcaaDoor.Sx

section
variable {ω : Amb}
theorem t2 : (∀ a b : Value, (#[a, b] : Array Value)[0]? = some a) ∧ (∀ a b : Value, (#[a, b] : Array Value)[1]? = some b) := ⟨fun _ _ => rfl, fun _ _ => rfl⟩
theorem asIf_nil (F : Bool → Prop) : asIf .nilIface F = F true := rfl
theorem ne_nil {s : ByteArray} (h : 0 < s.size) : (s.toList == ByteArray.toList ⟨#[]⟩) = false := by
  rw [eqS, decide_eq_false]
  intro e
  have := congrArg List.length e
  rw [bytes_len, bytes_len] at this
  have h1 : ByteArray.size ⟨#[]⟩ = 0 := rfl
  omega
theorem ParseUint_law {s : ByteArray} (h0 : 0 < s.size) (h18 : s.size ≤ 18) (hd : (bytesOf s).all dg = true) (h : Hp) (X : List PanicEntry → Hp → Prop) :
    CallX Tryd.prog ω n_internal_strconv_ParseUint [.string s, .int .i64 10, .int .i64 64] h (fun r h' => r = .tuple #[.int .u64 (valD (bytesOf s)), .nilIface] ∧ Keep (fun _ => False) h h') X := by
  refine C_internal_strconv_ParseUint ω _ _ _ h _ X ?_
  unfold W_internal_strconv_ParseUint
  rw [asS_str, ne_nil h0]
  refine cond_f rfl ?_
  rw [asK_int]
  refine ⟨fun b t h' => b = .int .i64 10 ∧ t = .string s ∧ h' = h, ?_, ?_⟩
  · refine ⟨fun r h' => r = .bool true ∧ h' = h, ?_, ?_⟩
    · rw [asK_int]
      refine cond_t rfl ?_
      rw [asK_int]
      exact ⟨rfl, rfl⟩
    rintro _ _ h1 ⟨rfl, hh⟩
    rw [hh]
    refine ⟨fun b t h' => b = .int .i64 10 ∧ t = .string s ∧ h' = h, ?_, fun _ _ _ _ hj => hj⟩
    rw [asB_bool]
    exact cond_t rfl ⟨rfl, rfl, rfl⟩
  rintro _ _ _ h1 ⟨rfl, rfl, hh⟩
  rw [hh]
  refine ⟨fun r h' => r = .int .i64 64 ∧ h' = h, ?_, ?_⟩
  · refine cond_f rfl ?_
    refine ⟨false, ?_, fun _ => cond_f rfl ⟨rfl, rfl⟩⟩
    rw [asK_int]
    refine cond_f rfl ?_
    rw [asK_int]
    exact ⟨rfl, rfl⟩
  rintro _ _ h2 ⟨rfl, hh⟩
  rw [hh]
  refine ⟨fun r h' => r = .int .u64 1844674407370955162 ∧ h' = h, ?_, ?_⟩
  · rw [asK_int]
    exact ⟨fun r h' => r = .int .u64 1844674407370955162 ∧ h' = h, cond_t rfl ⟨rfl, rfl⟩, fun _ _ _ hj => hj⟩
  rintro _ _ h3 ⟨rfl, hh⟩
  rw [hh, asI_int]
  refine ⟨by decide, ?_⟩
  unfold bytesK
  rw [Tryd.underlying9, Tryd.underlying59]
  simp only [Tryd.underlying5]
  rw [asS_str]
  intro cap h4 hsz hold hcell
  have k4 : Keep (fun _ => False) h h4 := ⟨hsz, fun k hk _ => hold k hk⟩
  rw [asSl_sl]
  refine ⟨fun u n i h' => h' = h4 ∧ u = .bool false ∧ ∃ k : Nat, i = .int .i64 k ∧ k ≤ s.size ∧ n = .int .u64 (valD ((bytesOf s).take k)),
    fun _ _ i _ => match i with | .int _ k => s.size - k.toNat | _ => 0, ⟨rfl, rfl, 0, rfl, by omega, rfl⟩, ?_⟩
  rintro _ _ _ _ h5 ⟨hh, rfl, k, rfl, hk, rfl⟩
  rw [hh, asK_int]
  refine cond_c (fun hc => ?_) (fun hc => ?_)
  · have hlt : k < s.size := by have := of_decide_eq_true hc; omega
    have hcd := all_at hd hlt
    obtain ⟨v0, v1, v2, v3⟩ := val_take hk h18 (all_take hd k)
    have v3 := v3 hlt
    have hdd := hcd
    simp only [dg, Bool.and_eq_true, decide_eq_true_eq] at hdd
    have hcl := hcell k hlt
    refine ⟨fun u n h' => h' = h4 ∧ u = .bool false ∧ n = .int .u64 (valD ((bytesOf s).take (k + 1))), ?_, ?_⟩
    · rw [asSl1_sl, asI_int]
      refine ⟨by omega, by omega, ?_⟩
      rw [addr_add, Int.toNat_natCast, Nat.mul_one, Nat.zero_add]
      refine ⟨.int .u8 ((cAt s k).toNat : Int), hcl, ?_⟩
      refine ⟨fun u d h' => h' = h4 ∧ u = .bool false ∧ d = .int .u8 (((cAt s k).toNat : Int) - 48), ?_, ?_⟩
      · refine ⟨fun r h' => r = .bool false ∧ h' = h4, ?_, ?_⟩
        · rw [asK_int]
          exact cond_f (by simp; omega) ⟨rfl, rfl⟩
        rintro _ _ h6 ⟨rfl, hh⟩
        rw [hh, asB_bool]
        refine cond_f rfl ?_
        refine ⟨fun r h' => r = .bool true ∧ h' = h4, ?_, ?_⟩
        · rw [asK_int]
          refine cond_t (by simp; omega) ?_
          rw [asK_int]
          exact ⟨by congr 1; simp; omega, rfl⟩
        rintro _ _ h6 ⟨rfl, hh⟩
        rw [hh]
        refine ⟨fun r h' => r = .int .u8 (((cAt s k).toNat : Int) - 48) ∧ h' = h4, ?_, ?_⟩
        · rw [asB_bool]
          refine cond_t rfl ?_
          rw [asK_int, small8 hcd]
          exact ⟨rfl, rfl⟩
        rintro _ _ h6 ⟨rfl, hh⟩
        exact ⟨hh, rfl, rfl⟩
      rintro _ _ _ h6 ⟨hh, rfl, rfl⟩
      rw [hh, asI_int, asK_int]
      refine cond_f ?_ ?_
      · have : IntKind.wrap .u8 10 = 10 := by decide
        rw [this]
        simp
        omega
      rw [asK_int, asK_int]
      refine cond_f (by simp; omega) ?_
      rw [asI_int, asK_int, asI_int]
      have e1 : IntKind.wrap .u64 10 = 10 := by decide
      have e2 : IntKind.wrap .u64 (valD ((bytesOf s).take k) * 10) = valD ((bytesOf s).take k) * 10 := by rw [IntKind.wrap_u64]; omega
      have e3 : IntKind.wrap .u64 (((cAt s k).toNat : Int) - 48) = ((cAt s k).toNat : Int) - 48 := by rw [IntKind.wrap_u64]; omega
      have e4 : IntKind.wrap .u64 (valD ((bytesOf s).take k) * 10 + (((cAt s k).toNat : Int) - 48)) = valD ((bytesOf s).take k) * 10 + (((cAt s k).toNat : Int) - 48) := by rw [IntKind.wrap_u64]; omega
      rw [e1, e2, e3, e4]
      refine ⟨false, ?_, fun _ => cond_f rfl ⟨rfl, rfl, ?_⟩⟩
      · refine cond_f (by simp; omega) ⟨?_, trivial⟩
        have e5 : IntKind.wrap .u64 (shI .u64 .shl 1 (IntKind.wrap .u64 64) - 1) = 18446744073709551615 := by decide
        rw [e5]
        congr 1
        simp
        omega
      · rw [take_snoc s hlt, valD_snoc]
        congr 1
        omega
    · rintro _ _ _ h6 ⟨hh, rfl, rfl⟩
      rw [asK_int, i64_in (by omega) (by omega)]
      exact ⟨⟨hh, rfl, k + 1, by simp, by omega, rfl⟩, by simp; omega⟩
  · have hke : k = s.size := by have := of_decide_eq_false hc; omega
    subst hke
    rw [take_all]
    refine ⟨fun r h' => r = .bool false ∧ h' = h4, ?_, ?_⟩
    · rw [asB_bool]
      exact cond_f rfl ⟨rfl, rfl⟩
    rintro _ _ h6 ⟨rfl, hh⟩
    rw [hh, asB_bool]
    exact cond_f rfl ⟨rfl, k4⟩

theorem IParseInt_law {s : ByteArray} (h0 : 0 < s.size) (h18 : s.size ≤ 18) (hd : (bytesOf s).all dg = true) (h : Hp) (X : List PanicEntry → Hp → Prop) :
    CallX Tryd.prog ω n_internal_strconv_ParseInt [.string s, .int .i64 10, .int .i64 64] h (fun r h' => r = .tuple #[.int .i64 (valD (bytesOf s)), .nilIface] ∧ Keep (fun _ => False) h h') X := by
  refine C_internal_strconv_ParseInt ω _ _ _ h _ X ?_
  unfold W_internal_strconv_ParseInt
  rw [asS_str, ne_nil h0]
  refine cond_f rfl ?_
  have hc := all_at hd h0
  simp only [dg, Bool.and_eq_true, decide_eq_true_eq] at hc
  rw [asS_str]
  refine ⟨by omega, by omega, ?_⟩
  refine ⟨fun t n h' => t = .string s ∧ n = .bool false ∧ h' = h, ?_, ?_⟩
  · refine ⟨fun t n h' => t = .string s ∧ n = .bool false ∧ h' = h, ?_, fun _ _ _ _ hj => hj⟩
    rw [byteAt_z]
    refine cond_f (by simp; omega) ?_
    refine ⟨fun t n h' => t = .string s ∧ n = .bool false ∧ h' = h, ?_, fun _ _ _ _ hj => hj⟩
    exact cond_f (by simp; omega) ⟨rfl, rfl, rfl⟩
  rintro _ _ _ h1 ⟨rfl, rfl, hh⟩
  rw [hh]
  refine CallX.use (ParseUint_law h0 h18 hd h) ?_
  rintro _ h2 ⟨rfl, k2⟩
  simp only [asT_tup, t2, asO_some]
  have hv := val_take (Nat.le_refl _) h18 (all_take hd _)
  rw [take_all] at hv
  obtain ⟨v0, v1, v2, _⟩ := hv
  refine ⟨false, ?_, fun _ => cond_f rfl ?_⟩
  · rw [asIf_nil]
    exact cond_f rfl ⟨rfl, trivial⟩
  rw [asK_int]
  refine ⟨fun r h' => r = .int .i64 64 ∧ h' = h2, cond_f rfl ⟨rfl, rfl⟩, ?_⟩
  rintro _ _ h3 ⟨rfl, hh⟩
  rw [hh, asK_int]
  refine ⟨by decide, false, ?_, fun _ => cond_f rfl ?_⟩
  · rw [asB_bool]
    refine cond_t rfl ?_
    rw [asK_int]
    refine ⟨?_, trivial⟩
    have e5 : shI .u64 .shl 1 (IntKind.wrap .u64 (IntKind.wrap .i64 (64 - 1))) = 9223372036854775808 := by decide
    rw [e5]
    congr 1
    simp
    omega
  refine ⟨false, ?_, fun _ => cond_f rfl ?_⟩
  · rw [asB_bool]
    exact cond_f rfl ⟨rfl, trivial⟩
  rw [asI_int]
  refine ⟨fun r h' => r = .int .i64 (valD (bytesOf s)) ∧ h' = h2, ?_, ?_⟩
  · rw [asB_bool]
    refine cond_f rfl ?_
    rw [i64_in (by omega) (by omega)]
    exact ⟨rfl, rfl⟩
  rintro _ _ h3 ⟨rfl, hh⟩
  rw [hh]
  exact ⟨rfl, k2⟩
theorem ParseInt_law {s : ByteArray} (h0 : 0 < s.size) (h18 : s.size ≤ 18) (hd : (bytesOf s).all dg = true) (h : Hp) (X : List PanicEntry → Hp → Prop) :
    CallX Tryd.prog ω n_strconv_ParseInt [.string s, .int .i64 10, .int .i64 64] h (fun r h' => r = .tuple #[.int .i64 (valD (bytesOf s)), .nilIface] ∧ Keep (fun _ => False) h h') X := by
  refine C_strconv_ParseInt ω _ _ _ h _ X ?_
  unfold W_strconv_ParseInt
  refine CallX.use (IParseInt_law h0 h18 hd h) ?_
  rintro _ h2 ⟨rfl, k2⟩
  simp only [asT_tup, t2, asO_some, asIf_nil]
  exact cond_f rfl ⟨trivial, k2⟩

theorem number_law {s : ByteArray} (h0 : 0 < s.size) (hs : s.size ≤ 20000) (h : Hp) (X : List PanicEntry → Hp → Prop) :
    CallX Tryd.prog ω n_token_number [.string s] h (fun r h' => r = .tuple #[.int .i64 ((numL (bytesOf s)).getD 0), .bool (numL (bytesOf s)).isSome] ∧ Keep (fun _ => False) h h') X := by
  refine C_token_number ω _ h _ X ?_
  unfold W_token_number
  rw [numL_eq]
  refine ⟨odd s, odd_cond s h, fun _ => cond_c (fun hc => ?_) (fun hno => ?_)⟩
  · rw [if_pos (.inl hc)]
    exact ⟨rfl, Keep.refl _ _⟩
  · have h18 : s.size ≤ 18 := by
      have := mt (odd_iff s).2 (by rw [hno]; decide)
      omega
    rw [asS_str]
    refine ⟨fun i h' => h' = h ∧ ∃ k : Nat, i = .int .i64 k ∧ k ≤ s.size ∧ ((bytesOf s).take k).all dg = true,
      fun i _ => match i with | .int _ k => s.size - k.toNat | _ => 0, ⟨rfl, 0, rfl, by omega, rfl⟩, ?_⟩
    rintro _ _ h4 ⟨hh, k, rfl, hk, hd⟩
    rw [hh, asK_int]
    refine cond_c (fun hc => ?_) (fun hc => ?_)
    · have hlt : k < s.size := by have := of_decide_eq_true hc; omega
      rw [asS_str, asI_int, byteAt_c]
      refine ⟨by omega, by omega, ?_⟩
      refine CallX.use (digit_law _ h) ?_
      rintro _ _ ⟨rfl, hh⟩
      rw [hh, asB_bool]
      refine cond_c (fun hc => ?_) (fun hc => ?_)
      · have hc' : dg (cAt s k) = false := by simpa using hc
        have hall : (bytesOf s).all dg = false := by
          cases ha : (bytesOf s).all dg
          · rfl
          · rw [all_at ha hlt] at hc'
            cases hc'
        rw [if_pos (.inr hall)]
        exact ⟨rfl, Keep.refl _ _⟩
      · have hc' : dg (cAt s k) = true := by simpa using hc
        rw [asK_int, i64_in (by omega) (by omega)]
        refine ⟨⟨rfl, k + 1, by simp, by omega, ?_⟩, by simp; omega⟩
        rw [take_snoc s hlt, List.all_append, hd]
        simpa using hc'
    · have hke : k = s.size := by have := of_decide_eq_false hc; omega
      subst hke
      rw [take_all] at hd
      rw [if_neg (by rw [hd]; simp [hno])]
      refine CallX.use (ParseInt_law h0 h18 hd h) ?_
      rintro _ h2 ⟨rfl, k2⟩
      simp only [asT_tup, t2, asO_some]
      exact ⟨rfl, k2⟩
end
end Go.Proofs.YtgfpcpkpclpdcaaDoor
