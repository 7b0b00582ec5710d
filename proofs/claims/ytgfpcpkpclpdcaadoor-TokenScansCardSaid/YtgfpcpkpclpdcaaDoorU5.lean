/- Tokens: one of them. -/
import Derived.Test.YtgfpcpkpclpdcaaDoorU4
namespace Go.Proofs.YtgfpcpkpclpdcaaDoor
open Go Go.Sx Go.Sx.Tk Go.Proofs.YtgfpcpkpclpdcaaDoor.Sx

/-- a cell of a struct in a block of its own -/
theorem blkSet {h : Hp} {L : Nat} {cs : List Value} {t : TypeId} (hb : h[L]? = some (.cells cs.toArray t (0, 0))) {j : Nat} {v : Value} (hj : j < cs.length) {K : Hp → Prop}
    (hk : ∀ h', h'[L]? = some (.cells (cs.set j v).toArray t (0, 0)) → Keep (fun k => k = L) h h' → K h') : storeK1 h (Addr.add ⟨L, 0, none⟩ j) v K := by
  rw [addr_add, Nat.zero_add]
  refine storeK1_of hb (by simpa using hj) (hk _ ?_ (Keep.set (S := fun k => k = L) _ rfl))
  rw [hp_set_same hb]
  simp

theorem oneL_at (s : ByteArray) {j : Nat} (hj : j < s.size) : oneL 2 3 4 (rest s j) =
    if lo (cAt s j) = true then (if isWord ((rest s j).take (run (rest s j))) = true then .tok 1 (run (rest s j)) 0 else if 12 < run (rest s j) then .bad 4 else .tok 2 (run (rest s j)) 0)
    else if dg (cAt s j) = true then (match numL ((rest s j).take (run (rest s j))) with | none => .bad 3 | some n => .tok 3 (run (rest s j)) n)
    else if (cAt s j).toNat = 61 then (if j + 1 < s.size ∧ (cAt s (j + 1)).toNat = 61 then .tok 4 2 0 else .tok 4 1 0)
    else if isSign (cAt s j) = true then .tok 4 1 0 else .bad 2 := by
  have hd : rest s j = cAt s j :: rest s (j + 1) := dropc s hj
  generalize hr : rest s j = l at *
  subst hd
  unfold oneL
  simp only
  split
  · rfl
  · split
    · rfl
    · split
      · by_cases h1 : j + 1 < s.size
        · have h2 : rest s (j + 1) = cAt s (j + 1) :: rest s (j + 1 + 1) := dropc s h1
          rw [h2]
          simp only [h1, true_and]
        · rw [if_neg (by omega)]
          have h2 : rest s (j + 1) = [] := List.drop_eq_nil_of_le (by rw [bytes_len]; omega)
          rw [h2]
      · rfl
theorem text_eq (s : ByteArray) (j n : Nat) : s.extract j (j + n) = ⟨((rest s j).take n).toArray⟩ := extract_eq s j n
theorem text_bytes (s : ByteArray) (j n : Nat) : bytesOf (s.extract j (j + n)) = (rest s j).take n := by rw [text_eq]; rfl
theorem text_size (s : ByteArray) (j : Nat) : (s.extract j (j + run (rest s j))).size = run (rest s j) := by
  rw [← bytes_len, text_bytes, List.length_take]
  have := run_le (rest s j)
  omega

/-- the token at a place -/
def tokAt (s : ByteArray) (j : Nat) (kind : Int) (len : Nat) (n : Int) : Tok := ⟨kind, j, ⟨((rest s j).take len).toArray⟩, n⟩
def OneR (s : ByteArray) (G j : Nat) (out : Value) (base : Nat) (ts : List Tok) (h : Hp) (r : Value) (h' : Hp) : Prop :=
  match oneL 2 3 4 (rest s j) with
  | .bad e => r = .int .i64 e ∧ Keep (fun k => k = G) h h'
  | .tok kind len n => r = .int .i64 0 ∧ ∃ out', ScAt h' G s (j + len) out' ∧ OwnH h' base 31 4 out' (ts ++ [tokAt s j kind len n]).length ((ts ++ [tokAt s j kind len n]).flatMap Tok.f) ∧
      Keep (fun k => k = G ∨ out.ownBlock = some k) h h' ∧ (∀ k, out'.ownBlock = some k → out.ownBlock = some k ∨ h.size ≤ k)

section
variable {ω : Amb}
theorem one_law {h : Hp} {G j base : Nat} {s : ByteArray} {out : Value} {ts : List Tok} (hs : s.size ≤ 12000) (hj : j < s.size) (hb : ScAt h G s j out)
    (ho : OwnH h base 31 4 out ts.length (ts.flatMap Tok.f)) (hts : ts.length ≤ j) (hbase : base ≤ h.size) (X : List PanicEntry → Hp → Prop) :
    CallX Tryd.prog ω n_p_token_scanner_one [.pointer (some ⟨G, 0, none⟩)] h (OneR s G j out base ts h) X := by
  refine C_p_token_scanner_one ω _ h _ X ?_
  unfold W_p_token_scanner_one
  simp only [nnK_ptr, asP_some]
  refine lx hb rfl ?_
  refine ⟨trivial, ?_, storeK_local (cs := [.int .i64 0, .int .i64 (j : Int), .string ⟨#[]⟩, .int .i64 0]) rfl ?_⟩
  · intro u hu
    simp only [List.mem_cons, List.not_mem_nil, or_false] at hu
    rcases hu with rfl | rfl | rfl | rfl <;> rfl
  have hGl : G < h.size := hp_lt hb
  have hb2 : ScAt (h.push (.cells (List.toArray [.int .i64 0, .int .i64 (j : Int), .string ⟨#[]⟩, .int .i64 0]) 31 (0, 0))) G s j out := hp_push_old hb
  have hl2 := hp_push_new (h := h) (o := .cells (List.toArray [.int .i64 0, .int .i64 (j : Int), .string ⟨#[]⟩, .int .i64 0]) 31 (0, 0))
  have k2 : Keep (fun k => k = G) h (h.push (.cells (List.toArray [.int .i64 0, .int .i64 (j : Int), .string ⟨#[]⟩, .int .i64 0]) 31 (0, 0))) := Keep.push _ _
  generalize h.push (.cells (List.toArray [.int .i64 0, .int .i64 (j : Int), .string ⟨#[]⟩, .int .i64 0]) 31 (0, 0)) = h2 at *
  refine lx hb2 rfl ?_
  refine lx hb2 rfl ?_
  rw [asS_str, asI_int, byteAt_c]
  refine ⟨by omega, by omega, ?_⟩
  have hone := oneL_at s hj
  have hrl := run_le (rest s j)
  have hrn := rest_len s j
  have htl := text_size s j
  have htb := text_bytes s j (run (rest s j))
  have hte := text_eq s j (run (rest s j))
  have hrpos : Tk.ld (cAt s j) = true → 0 < run (rest s j) := fun hl => by rw [rest, dropc s hj, run_cons, if_pos hl]; omega
  have hGL : G ≠ h.size := by omega
  have kloc : ∀ {a b : Hp}, Keep (fun k => k = G) h a → Keep (fun k => k = h.size) a b → Keep (fun k => k = G) h b := fun ka kb => ka.newer (kb.mono fun k _ hk => .inr (Nat.le_of_eq hk.symm))
  refine ⟨fun h' => ∃ kind len n, oneL 2 3 4 (rest s j) = .tok kind len n ∧ h'[h.size]? = some (.cells (tokAt s j kind len n).f.toArray 31 (0, 0)) ∧ ScAt h' G s (j + len) out ∧ Keep (fun k => k = G) h h', ?_, ?_⟩
  · refine CallX.use (letter_law _ h2) ?_
    rintro _ _ ⟨rfl, hh⟩
    rw [hh]
    refine ⟨fun h' => ∃ kind len n, oneL 2 3 4 (rest s j) = .tok kind len n ∧ h'[h.size]? = some (.cells (tokAt s j kind len n).f.toArray 31 (0, 0)) ∧ ScAt h' G s (j + len) out ∧ Keep (fun k => k = G) h h', ?_, fun _ _ hj => hj⟩
    rw [asB_bool]
    refine cond_c (fun hlo => ?_) (fun hlo => ?_)
    · rw [if_pos hlo] at hone
      refine CallX.use (run_law (by omega) (by omega) hb2) ?_
      rintro _ h3 ⟨rfl, hb3, k3⟩
      generalize s.extract j (j + run (rest s j)) = x at *
      rw [oneK_str]
      refine blkSet (k3.get hl2 (by omega)) (by simp) fun h4 hl4 k4 => ?_
      refine blkSet hl4 (by simp) fun h5 hl5 k5 => ?_
      have hb5 := k5.get (k4.get hb3 (by omega)) (by omega)
      have kk5 := kloc (kloc (k2.trans k3) k4) k5
      simp only [st] at hl5
      refine lx hl5 rfl ?_
      refine CallX.use (Word_law x h5) ?_
      rintro _ _ ⟨rfl, hh⟩
      rw [hh]
      refine ⟨fun h' => ∃ kind len n, oneL 2 3 4 (rest s j) = .tok kind len n ∧ h'[h.size]? = some (.cells (tokAt s j kind len n).f.toArray 31 (0, 0)) ∧ ScAt h' G s (j + len) out ∧ Keep (fun k => k = G) h h', ?_, fun _ _ hj => hj⟩
      rw [asB_bool, htb]
      refine cond_c (fun hw => ?_) (fun hw => ?_)
      · rw [if_pos hw] at hone
        refine blkSet hl5 (by simp) fun h6 hl6 k6 => ?_
        refine ⟨_, _, _, hone, ?_, k6.get hb5 (by omega), kloc kk5 k6⟩
        simp only [st] at hl6
        rw [hl6, hte]
        rfl
      · rw [if_neg (by rw [hw]; decide)] at hone
        refine lx hl5 rfl ?_
        rw [asS_str, htl]
        refine cond_c (fun hc => ?_) (fun hc => ?_)
        · have := of_decide_eq_true hc
          rw [if_pos (by omega)] at hone
          unfold OneR
          rw [hone]
          exact ⟨rfl, kk5⟩
        · have := of_decide_eq_false hc
          rw [if_neg (by omega)] at hone
          refine ⟨_, _, _, hone, ?_, hb5, kk5⟩
          rw [hl5, hte]
          rfl
    · rw [if_neg (by rw [hlo]; decide)] at hone
      refine CallX.use (digit_law _ h2) ?_
      rintro _ _ ⟨rfl, hh⟩
      rw [hh]
      refine ⟨fun h' => ∃ kind len n, oneL 2 3 4 (rest s j) = .tok kind len n ∧ h'[h.size]? = some (.cells (tokAt s j kind len n).f.toArray 31 (0, 0)) ∧ ScAt h' G s (j + len) out ∧ Keep (fun k => k = G) h h', ?_, fun _ _ hj => hj⟩
      rw [asB_bool]
      refine cond_c (fun hdg => ?_) (fun hdg => ?_)
      · rw [if_pos hdg] at hone
        have hrp := hrpos (by rw [Tk.ld, hdg, Bool.or_true])
        refine CallX.use (run_law (by omega) (by omega) hb2) ?_
        rintro _ h3 ⟨rfl, hb3, k3⟩
        generalize s.extract j (j + run (rest s j)) = x at *
        rw [oneK_str]
        refine blkSet (k3.get hl2 (by omega)) (by simp) fun h4 hl4 k4 => ?_
        simp only [st] at hl4
        refine lx hl4 rfl ?_
        refine CallX.use (number_law (by omega) (by omega) h4) ?_
        rintro _ h5 ⟨rfl, k5⟩
        simp only [asT_tup, t2, asO_some, asB_bool]
        rw [htb]
        have hb5 := k5.get (k4.get hb3 (by omega)) (by simp)
        have kk5 := (kloc (k2.trans k3) k4).trans (k5.mono (by simp))
        have hl5 := k5.get hl4 (by simp)
        cases hn : numL ((rest s j).take (run (rest s j))) with
        | none =>
          rw [hn] at hone
          refine cond_t rfl ?_
          unfold OneR
          rw [hone]
          exact ⟨rfl, kk5⟩
        | some n =>
          rw [hn] at hone
          refine cond_f rfl ?_
          refine blkSet hl5 (by simp) fun h6 hl6 k6 => ?_
          rw [oneK_int]
          refine blkSet hl6 (by simp) fun h7 hl7 k7 => ?_
          simp only [st] at hl7
          refine ⟨_, _, _, hone, ?_, k7.get (k6.get hb5 (by omega)) (by omega), kloc (kloc kk5 k6) k7⟩
          rw [hl7, hte]
          rfl
      · rw [if_neg (by rw [hdg]; decide)] at hone
        refine CallX.use (sign_law (by omega) hj hb2) ?_
        rintro _ h3 ⟨hh, rfl⟩
        rw [hh]
        have hsig : ∃ x : ByteArray, (if (cAt s j).toNat = 61 then (if j + 1 < s.size ∧ (cAt s (j + 1)).toNat = 61 then (⟨#[61, 61]⟩ : ByteArray) else ⟨#[61]⟩) else if isSign (cAt s j) = true then ⟨#[cAt s j]⟩ else ⟨#[]⟩) = x ∧
            ((x.size = 0 ∧ oneL 2 3 4 (rest s j) = .bad 2) ∨ (0 < x.size ∧ x.size ≤ 2 ∧ oneL 2 3 4 (rest s j) = .tok 4 x.size 0 ∧ x = ⟨((rest s j).take x.size).toArray⟩)) := by
          have hd : rest s j = cAt s j :: rest s (j + 1) := dropc s hj
          refine ⟨_, rfl, ?_⟩
          split
          · rename_i h61
            rw [if_pos h61] at hone
            have hc61 : cAt s j = 61 := UInt8.toNat_inj.1 (by rw [h61]; rfl)
            split
            · rename_i h2
              rw [if_pos h2] at hone
              have hd2 : rest s (j + 1) = cAt s (j + 1) :: rest s (j + 1 + 1) := dropc s h2.1
              have hc2 : cAt s (j + 1) = 61 := UInt8.toNat_inj.1 (by rw [h2.2]; rfl)
              refine .inr ⟨by decide, by decide, hone, ?_⟩
              rw [hd, hd2, hc61, hc2]
              rfl
            · rename_i h2
              rw [if_neg h2] at hone
              refine .inr ⟨by decide, by decide, hone, ?_⟩
              rw [hd, hc61]
              rfl
          · rename_i h61
            rw [if_neg h61] at hone
            split
            · rename_i h2
              rw [if_pos h2] at hone
              have h1 : ByteArray.size ⟨#[cAt s j]⟩ = 1 := rfl
              refine .inr ⟨by rw [h1]; decide, by rw [h1]; decide, by rw [h1]; exact hone, ?_⟩
              rw [h1, hd]
              rfl
            · rename_i h2
              rw [if_neg h2] at hone
              exact .inl ⟨rfl, hone⟩
        obtain ⟨x, hx, hsig⟩ := hsig
        rw [hx]
        refine blkSet hl2 (by simp) fun h4 hl4 k4 => ?_
        rw [oneK_str]
        refine blkSet hl4 (by simp) fun h5 hl5 k5 => ?_
        have hb5 : ScAt h5 G s j out := k5.get (k4.get hb2 (by omega)) (by omega)
        have kk5 := kloc (kloc k2 k4) k5
        simp only [st] at hl5
        refine lx hl5 rfl ?_
        rw [asS_str]
        rcases hsig with ⟨h0, hbad⟩ | ⟨hp, hp2, htok, hxe⟩
        · refine cond_t ?_ ?_
          · rw [eqS, decide_eq_true_eq]
            refine List.eq_nil_of_length_eq_zero ?_
            rw [bytes_len, h0]
          · unfold OneR
            rw [hbad]
            exact ⟨rfl, kk5⟩
        · rw [ne_nil hp]
          refine cond_f rfl ?_
          refine lx hb5 rfl ?_
          refine lx hl5 rfl ?_
          rw [asS_str, asK_int]
          refine hb5.set (j' := j + x.size) (by rw [i64_in (by omega) (by omega)]; omega) fun h6 hb6 k6 => ?_
          refine ⟨_, _, _, htok, ?_, hb6, kk5.trans k6⟩
          rw [k6.get hl5 (by omega), tokAt, ← hxe]
          rfl
  rintro _ h3 ⟨kind, len, n, htok, hl3, hb3, k3⟩
  refine lx hb3 rfl ?_
  refine ⟨_, cellsH_blk hl3 rfl, ?_⟩
  simp only [List.append_nil]
  refine ⟨rfl, lx' (hp_push_old hb3) rfl, ?_⟩
  have ho3 : OwnH h3 base 31 4 out ts.length (ts.flatMap Tok.f) := ho.keepT k3 (OfTy.blk hb) (by decide)
  refine appK_one (bt := 40) (by kernel_rfl) ho3 rfl (tokAt s j kind len n).one (by omega) (by omega) (Nat.le_trans hbase k3.size) fun w h4 ho4 hg hne hown => ?_
  have hout : ∀ k, out.ownBlock = some k → k ≠ G := fun k hk hkG => by
    obtain ⟨c, hc⟩ := ho.blk hk
    rw [hkG, hb] at hc
    cases hc
  have k4 : Keep (fun k => out.ownBlock = some k) h3 h4 := Keep.grown hg fun k hk _ => hk
  have hb4 := k4.get hb3 (fun hk => hout G hk rfl)
  rw [oneK_eq (ownOne ho4)]
  have hwn : w ≠ .slice none 0 0 := hne
  have hwG : ∀ k, w.ownBlock = some k → k ≠ G := fun k hk hkG => by
    rcases hown k hk with h1 | h1
    · exact hout k h1 hkG
    · have := k3.size
      omega
  rw [addr_add, Nat.zero_add]
  refine storeK1_of hb4 (by show 2 < 3; decide) ?_
  unfold OneR
  rw [htok]
  have k5 : Keep (fun k => k = G) h4 (h4.setIfInBounds G (.cells ((scn s (j + len) out).toArray.setIfInBounds 2 w) 35 (0, 0))) := Keep.set (S := fun k => k = G) _ rfl
  refine ⟨rfl, w, ?_, ?_, ?_, ?_⟩
  · rw [ScAt, hp_set_same hb4]
    simp [scn]
  · have := ho4.keep (h' := h4.setIfInBounds G (.cells ((scn s (j + len) out).toArray.setIfInBounds 2 w) 35 (0, 0))) fun k hk hlt => k5.block k hlt (hwG k hk)
    rw [List.length_append, List.flatMap_append]
    simpa using this
  · exact ((k3.mono fun k _ hk => .inl hk).trans (k4.mono fun k _ hk => .inr hk)).trans (k5.mono fun k _ hk => .inl hk)
  · intro k hk
    rcases hown k hk with h1 | h1
    · exact .inl h1
    · have := k3.size
      exact .inr (by omega)
end
end Go.Proofs.YtgfpcpkpclpdcaaDoor
