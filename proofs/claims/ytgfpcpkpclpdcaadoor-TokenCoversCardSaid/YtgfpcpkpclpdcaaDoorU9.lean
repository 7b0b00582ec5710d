/- TokenCovers, TokenJoins: by the code. -/
import Derived.Test.YtgfpcpkpclpdcaaDoorU8
namespace Go.Proofs.YtgfpcpkpclpdcaaDoor
open Go Go.Sx Go.Sx.Tk Go.Proofs.YtgfpcpkpclpdcaaDoor.Sx

/-- the tokens from a place on -/
structure Cov (s : ByteArray) (ts : List Tok) (i p : Nat) : Prop where
  le : p ≤ s.size
  il : i ≤ ts.length
  run : Sc (rest s p) p (.ok (ts.drop i))
theorem Cov.end_ {s : ByteArray} {ts : List Tok} {i p : Nat} (h : Cov s ts i p) (he : i = ts.length) : p + blanks false (rest s p) = s.size := by
  have hr := h.run
  rw [List.drop_eq_nil_of_le (by omega)] at hr
  have hle := h.le
  have hb := blanks_le false (rest s p)
  rw [rest_len] at hb
  generalize hres : (Except.ok [] : Res) = res at hr
  cases hr with
  | stop h1 =>
    have := congrArg List.length h1
    rw [List.length_drop, rest_len, List.length_nil] at this
    omega
  | bad _ _ => cases hres
  | tok _ _ _ => cases hres
  | fail _ _ _ => cases hres
theorem Cov.at {s : ByteArray} {ts : List Tok} {i p : Nat} (h : Cov s ts i p) {t : Tok} (ht : ts[i]? = some t) :
    ∃ len : Nat, 0 < len ∧ t.at_ = ((p + blanks false (rest s p) : Nat) : Int) ∧ p + blanks false (rest s p) + len ≤ s.size ∧ t.text = s.extract (p + blanks false (rest s p)) (p + blanks false (rest s p) + len) ∧ t.text.size = len ∧ Cov s ts (i + 1) (p + blanks false (rest s p) + len) := by
  have hr := h.run
  have hle := h.le
  have hb := blanks_le false (rest s p)
  rw [rest_len] at hb
  rw [drop_at ht] at hr
  generalize hres : (Except.ok (t :: ts.drop (i + 1)) : Res) = res at hr
  generalize hq : p + blanks false (rest s p) = q at *
  generalize ha : (p : Int) = a at hr
  cases hr with
  | stop _ => cases hres
  | bad _ _ => cases hres
  | fail _ _ _ => cases hres
  | @tok _ r _ c kind len n us h1 e1 k1 =>
    cases hres
    have h2 := oneL_len e1
    have hd : rest s q = c :: r := by rw [← h1, List.drop_drop, hq]
    have h3 := congrArg List.length hd
    rw [rest_len] at h3
    have htx : s.extract q (q + len) = ⟨((c :: r).take len).toArray⟩ := by rw [text_eq, hd]
    have hil := (List.getElem?_eq_some_iff.1 ht).1
    refine ⟨len, h2.1, by show a + _ = _; omega, by omega, htx.symm, ?_, by omega, by omega, ?_⟩
    · rw [← htx, ← bytes_len, text_bytes, hd, List.length_take]
      omega
    · rw [← hd, List.drop_drop] at k1
      have : ((q + len : Nat) : Int) = a + (blanks false (rest s p) : Nat) + (len : Nat) := by omega
      rw [this]
      exact k1
theorem extract_self {s : ByteArray} {i n : Nat} : (s.extract i (i + n)).toList == (s.extract i (i + n)).toList := by simp

section
variable {ω : Amb}
theorem Covers_law (s : ByteArray) (h : Hp) (X : List PanicEntry → Hp → Prop) : CallX Tryd.prog ω n_pipewrightlaw_TokenCovers [.string s] h (fun r h' => r = .bool true ∧ Keep (fun _ => False) h h') X := by
  refine C_pipewrightlaw_TokenCovers ω _ h _ X ?_
  unfold W_pipewrightlaw_TokenCovers
  refine CallX.use (Begun_law h) ?_
  rintro _ h1 ⟨rfl, k1⟩
  rw [asB_bool]
  refine cond_f rfl ?_
  rw [asS_str]
  refine cond_c (fun _ => ⟨rfl, k1⟩) (fun hc => ?_)
  have hs12 : s.size ≤ 12000 := by have := of_decide_eq_false hc; omega
  refine CallX.use (Scan_law s h1) ?_
  intro _ h2 hs2
  obtain ⟨ts, v, e, a, rfl, k2, ho2, hsl2⟩ := hs2.out
  have hlen := ho2.len
  simp only [asT_tup, t2, asO_some, asA_agg]
  refine ⟨rfl, flt_one _ _, storeK_local (cs := flt e a) rfl ?_⟩
  have kp := Keep.push (S := fun _ => False) h2 (.cells (flt e a).toArray 25 (0, 0))
  have hb3 := hp_push_new (h := h2) (o := .cells (flt e a).toArray 25 (0, 0))
  have hsl3 := hsl2.keep kp
  have k3 := (k1.trans k2).trans kp
  generalize h2.push (.cells (flt e a).toArray 25 (0, 0)) = h3 at *
  generalize h2.size = L2 at *
  refine lx hb3 rfl ?_
  rw [asK_int]
  rcases ho2 with ⟨hbig, _⟩ | ⟨_, hsc, rfl, rfl⟩ | ⟨_, hsc, rfl⟩
  · omega
  · refine cond_f rfl ?_
    refine ⟨fun p i h' => h' = h3 ∧ ∃ (pn k : Nat), p = .int .i64 pn ∧ i = .int .i64 k ∧ (Cov s ts k pn ∨ k = ts.length + 1),
      fun _ i _ => match i with | .int _ k => ts.length + 1 - k.toNat | _ => 0, ⟨rfl, 0, 0, rfl, rfl, .inl ⟨by omega, by omega, hsc⟩⟩, ?_⟩
    rintro _ _ _ _ ⟨hh, p, k, rfl, rfl, hcov⟩
    rw [hh]
    refine hsl3.sl fun _ _ => ?_
    rw [asK_int]
    refine cond_c (fun hc => ?_) (fun _ => ⟨trivial, k3⟩)
    have hkl : k ≤ ts.length := by have := of_decide_eq_true hc; omega
    have hcov := hcov.resolve_right (by omega)
    have hpl := hcov.le
    have hbl := blanks_le false (rest s p)
    rw [rest_len] at hbl
    refine ⟨fun p' h' => h' = h3 ∧ ∃ pn : Nat, p' = .int .i64 pn ∧ (Cov s ts (k + 1) pn ∨ k + 1 = ts.length + 1), ?_, ?_⟩
    rotate_left
    · rintro _ _ _ ⟨hh, pn, rfl, hcov'⟩
      rw [asK_int, i64_in (by omega) (by omega)]
      exact ⟨⟨hh, pn, k + 1, rfl, by simp, hcov'⟩, by simp; omega⟩
    rw [asS_str]
    refine hsl3.sl fun _ _ => ?_
    rw [asK_int]
    refine ⟨fun to h' => to = .int .i64 ((p + blanks false (rest s p) : Nat) : Int) ∧ h' = h3, ?_, ?_⟩
    · refine cond_c (fun hc => ?_) (fun hc => ?_)
      · have hlt : k < ts.length := by have := of_decide_eq_true hc; omega
        have hx : ts[k]? = some ts[k] := List.getElem?_eq_getElem hlt
        generalize ts[k] = t at hx
        obtain ⟨len, _, hat, _⟩ := hcov.at hx
        refine hsl3.rdTa (o := 1) Tok.len hx rfl fun _ _ => ?_
        exact ⟨by rw [hat], rfl⟩
      · have hke : k = ts.length := by have := of_decide_eq_false hc; omega
        rw [hcov.end_ hke]
        exact ⟨rfl, rfl⟩
    rintro _ _ _ ⟨rfl, hh⟩
    rw [hh, asK_int, asK_int]
    refine cond_f (by simp; omega) ?_
    refine ⟨fun r q h' => h' = h3 ∧ ∃ (b : Bool) (qn : Nat), r = .bool b ∧ q = .int .i64 qn ∧ qn ≤ s.size ∧ qn + blanks b (rest s qn) = p + blanks false (rest s p),
      fun _ q _ => match q with | .int _ x => s.size - x.toNat | _ => 0, ⟨rfl, false, p, rfl, rfl, hpl, rfl⟩, ?_⟩
    rintro _ _ _ _ ⟨hh, b, q, rfl, rfl, hq, hqe⟩
    rw [hh, asK_int, asK_int]
    refine cond_c (fun hc => ?_) (fun hc => ?_)
    · have hlt : q < p + blanks false (rest s p) := by have := of_decide_eq_true hc; omega
      have hqs : q < s.size := by omega
      have hd : rest s q = cAt s q :: rest s (q + 1) := dropc s hqs
      rw [hd, blanks] at hqe
      rw [asS_str, asI_int]
      refine ⟨by omega, by omega, ?_⟩
      rw [byteAt_c]
      refine ⟨fun r h' => h' = h3 ∧ r = .bool (if (cAt s q).toNat = 10 then false else b), ?_, ?_⟩
      · refine cond_c (fun hc => ?_) (fun hc => ?_)
        · have := eq_of_beq hc
          rw [if_pos (by omega)]
          exact ⟨rfl, rfl⟩
        · have := beq_eq_false_iff_ne.1 hc
          rw [if_neg (by omega)]
          exact ⟨rfl, rfl⟩
      rintro _ _ _ ⟨hh, rfl⟩
      rw [hh, asS_str, asI_int]
      refine ⟨by omega, by omega, ?_⟩
      rw [byteAt_c]
      refine ⟨fun r h' => h' = h3 ∧ r = .bool (if (cAt s q).toNat = 35 then true else if (cAt s q).toNat = 10 then false else b), ?_, ?_⟩
      · refine cond_c (fun hc => ?_) (fun hc => ?_)
        · have := eq_of_beq hc
          rw [if_pos (by omega)]
          exact ⟨rfl, rfl⟩
        · have := beq_eq_false_iff_ne.1 hc
          rw [if_neg (by omega : ¬ (cAt s q).toNat = 35)]
          exact ⟨rfl, rfl⟩
      rintro _ _ _ ⟨hh, rfl⟩
      rw [hh]
      have hgood : (if (cAt s q).toNat = 35 then true else if (cAt s q).toNat = 10 then false else b) = true ∨ (cAt s q).toNat = 32 ∨ (cAt s q).toNat = 9 ∨ (cAt s q).toNat = 10 ∨ (cAt s q).toNat = 13 := by
        by_cases h35 : (cAt s q).toNat = 35
        · rw [if_pos h35]; exact .inl rfl
        · by_cases h10 : (cAt s q).toNat = 10
          · omega
          · rw [if_neg h35, if_neg h10]
            rw [if_neg h10] at hqe
            by_cases hb : b = true ∨ (cAt s q).toNat = 32 ∨ (cAt s q).toNat = 9 ∨ (cAt s q).toNat = 13
            · rcases hb with hb | hb | hb | hb
              · exact .inl hb
              · exact .inr (.inl hb)
              · exact .inr (.inr (.inl hb))
              · exact .inr (.inr (.inr (.inr hb)))
            · rw [if_neg hb, if_neg h35] at hqe
              omega
      have hnext : q + 1 + blanks (if (cAt s q).toNat = 35 then true else if (cAt s q).toNat = 10 then false else b) (rest s (q + 1)) = p + blanks false (rest s p) := by
        by_cases h10 : (cAt s q).toNat = 10
        · rw [if_pos h10] at hqe
          rw [if_neg (by omega), if_pos h10]
          omega
        · rw [if_neg h10] at hqe
          by_cases h35 : (cAt s q).toNat = 35
          · rw [if_pos h35]
            cases b
            · rw [if_neg (by simp; omega), if_pos h35] at hqe
              omega
            · rw [if_pos (.inl rfl)] at hqe
              omega
          · rw [if_neg h35, if_neg h10]
            split at hqe
            · omega
            · omega
      generalize (if (cAt s q).toNat = 35 then true else if (cAt s q).toNat = 10 then false else b) = b' at *
      refine ⟨false, ?_, fun _ => cond_f rfl ?_⟩
      · rw [asB_bool]
        refine cond_c (fun hb => ?_) (fun _ => ⟨rfl, trivial⟩)
        have hb : ¬ b' = true := by
          cases b'
          · decide
          · cases hb
        have hg := hgood.resolve_left hb
        rw [asS_str, asI_int, byteAt_c]
        refine ⟨by omega, by omega, ?_⟩
        refine cond_c (fun hc => ?_) (fun _ => ⟨rfl, trivial⟩)
        have n1 : (cAt s q).toNat ≠ 32 := fun he => by rw [he] at hc; cases hc
        rw [asS_str, asI_int, byteAt_c]
        refine ⟨by omega, by omega, ?_⟩
        refine cond_c (fun hc => ?_) (fun _ => ⟨rfl, trivial⟩)
        have n2 : (cAt s q).toNat ≠ 9 := fun he => by rw [he] at hc; cases hc
        rw [asS_str, asI_int, byteAt_c]
        refine ⟨by omega, by omega, ?_⟩
        refine cond_c (fun hc => ?_) (fun _ => ⟨rfl, trivial⟩)
        have n3 : (cAt s q).toNat ≠ 10 := fun he => by rw [he] at hc; cases hc
        rw [asS_str, asI_int, byteAt_c]
        refine ⟨by omega, by omega, ?_, trivial⟩
        congr 1
        have : (cAt s q).toNat = 13 := by omega
        rw [this]
        rfl
      · rw [asK_int, i64_in (by omega) (by omega)]
        exact ⟨⟨rfl, b', q + 1, rfl, by simp, by omega, hnext⟩, by simp; omega⟩
    · have hqt : q = p + blanks false (rest s p) := by have := of_decide_eq_false hc; omega
      refine hsl3.sl fun _ _ => ?_
      rw [asK_int]
      refine ⟨fun p' h' => h' = h3 ∧ ∃ pn : Nat, p' = .int .i64 pn ∧ (Cov s ts (k + 1) pn ∨ k + 1 = ts.length + 1), ?_, fun _ _ _ hj => hj⟩
      refine cond_c (fun hc => ?_) (fun hc => ?_)
      · have hlt : k < ts.length := by have := of_decide_eq_true hc; omega
        have hx : ts[k]? = some ts[k] := List.getElem?_eq_getElem hlt
        generalize ts[k] = t at hx
        obtain ⟨len, hl0, hat, hle, htx, htl, hcov'⟩ := hcov.at hx
        rw [← hqt] at hat hle htx hcov'
        refine hsl3.rdTa (o := 2) Tok.len hx rfl fun _ _ => ?_
        rw [asS_str, htl]
        refine ⟨false, ?_, fun _ => cond_f rfl ?_⟩
        · refine cond_f (by simp; omega) ?_
          rw [asS_str, asK_int, i64_in (by omega) (by omega)]
          refine cond_f (by simp; omega) ?_
          have hw : IntKind.wrap .i64 ((q : Int) + len) = ((q + len : Nat) : Int) := by rw [i64_in (by omega) (by omega)]; omega
          rw [asK_int, asS_str, asI_int, hw]
          refine ⟨by omega, by omega, by omega, ?_⟩
          refine hsl3.rdTa (o := 2) Tok.len hx rfl fun _ _ => ?_
          rw [asS_str, Int.toNat_natCast, Int.toNat_natCast, htx]
          exact ⟨by simp, trivial⟩
        · rw [asK_int, i64_in (by omega) (by omega)]
          exact ⟨rfl, q + len, by simp, .inl hcov'⟩
      · have hke : k = ts.length := by have := of_decide_eq_false hc; omega
        exact ⟨rfl, q, rfl, .inr (by omega)⟩
  · obtain ⟨he, h1a, h2a⟩ := hsc.err e a rfl
    rw [bytes_len] at h2a
    refine cond_t (by simpa using he) ?_
    refine ⟨fun r h' => r = .bool true ∧ Keep (fun _ => False) h h', ?_, fun _ _ _ hj => hj⟩
    refine hsl3.sl fun _ _ => ?_
    refine cond_t rfl ?_
    refine lx hb3 rfl ?_
    rw [asK_int]
    refine cond_t (by simp; omega) ?_
    refine lx hb3 rfl ?_
    rw [asS_str, asK_int]
    exact ⟨by congr 1; simp; omega, k3⟩
end
end Go.Proofs.YtgfpcpkpclpdcaaDoor
