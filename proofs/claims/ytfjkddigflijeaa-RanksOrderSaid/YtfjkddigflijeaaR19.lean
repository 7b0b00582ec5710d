/- Ranks: the law RanksOrder. -/
import Derived.Test.YtfjkddigflijeaaR18
namespace Go.Proofs.Ytfjkddigflijeaa
open Go Go.Sx Go.Sx.Pa Go.Sx.Ra Go.Proofs.Ytfjkddigflijeaa.Sx

/-- a walk -/
structure Wl (n : Nat) (es : Es) (wl : List Nat) (at_ : Nat) : Prop where
  lt : ∀ (j a : Nat), wl[j]? = some a → a < n
  ch : ∀ (j a b : Nat), wl[j]? = some a → wl[j + 1]? = some b → (a, b) ∈ es
  pos : 0 < wl.length
  last : wl[wl.length - 1]? = some at_
theorem Wl.one {n : Nat} {es : Es} {k : Nat} (hk : k < n) : Wl n es [k] k :=
  ⟨fun j a h => by
    cases j with
    | zero => simp at h; omega
    | succ j => simp at h, fun j a b _ h => by simp at h, by simp, rfl⟩
theorem Wl.snoc {n : Nat} {es : Es} {wl : List Nat} {x k : Nat} (w : Wl n es wl x) (hk : k < n) (he : (x, k) ∈ es) : Wl n es (wl ++ [k]) k := by
  refine ⟨fun j a h => ?_, fun j a b h1 h2 => ?_, by simp, by simp⟩
  · rw [List.getElem?_append] at h
    split at h
    · exact w.lt j a h
    · have : j - wl.length = 0 := by
        rcases Nat.eq_zero_or_pos (j - wl.length) with h0 | h0
        · exact h0
        · rw [List.getElem?_eq_none (by simp; omega)] at h
          cases h
      rw [this] at h
      simp at h
      omega
  · by_cases hj : j + 1 < wl.length
    · rw [List.getElem?_append_left (by omega)] at h1 h2
      exact w.ch j a b h1 h2
    · have hj2 : j + 1 = wl.length := by
        have := (List.getElem?_eq_some_iff.1 h2).1
        simp at this
        omega
      rw [List.getElem?_append_left (by omega)] at h1
      rw [hj2] at h2
      simp at h2
      have hl := w.last
      rw [show wl.length - 1 = j by omega, h1] at hl
      cases hl
      rw [← h2]
      exact he
theorem Wl.round {n : Nat} {es : Es} (ho : Ok n es) {wl : List Nat} {x k j : Nat} (w : Wl n es wl x) (hj : wl[j]? = some k) (he : (x, k) ∈ es) : ∃ v d, Cyc n es v d ∧ d + 1 ≤ wl.length - j := by
  have hjl := (List.getElem?_eq_some_iff.1 hj).1
  have hg : ∀ i, i < wl.length → wl[i]? = some (wl.getD i k) := fun i hi => by
    rw [List.getD_eq_getElem?_getD, List.getElem?_eq_getElem hi]
    rfl
  have hend : wl.getD wl.length k = k := by
    rw [List.getD_eq_getElem?_getD, List.getElem?_eq_none (Nat.le_refl _)]
    rfl
  have h0 : wl.getD j k = k := by
    rw [List.getD_eq_getElem?_getD, hj]
    rfl
  refine loop_cyc ho (L := wl.length - j) (by omega) (f := fun i => wl.getD (j + i) k) ?_ fun i hi => ?_
  · show wl.getD (j + (wl.length - j)) k = wl.getD (j + 0) k
    rw [show j + (wl.length - j) = wl.length by omega, Nat.add_zero, hend, h0]
  · show (wl.getD (j + i) k, wl.getD (j + (i + 1)) k) ∈ es
    have h1 := hg (j + i) (by omega)
    by_cases hlt : j + i + 1 < wl.length
    · have h2 := hg (j + i + 1) hlt
      rw [← Nat.add_assoc]
      exact w.ch _ _ _ h1 h2
    · rw [show j + (i + 1) = wl.length by omega, hend]
      have hl := w.last
      rw [show wl.length - 1 = j + i by omega, h1] at hl
      cases hl
      exact he
theorem ltB {a b : Int} : decide (a < b) = decide (a < b) := rfl

section
variable {ω : Amb}
theorem Order_law {h : Hp} {v pv : Value} {E : List (Int × Int)} {ps : List Int} {n : Int} (hs : EdIn h v E) (hp : IS h pv ps) (X : List PanicEntry → Hp → Prop) :
    CallX Try.prog ω n_pipewrightlaw_RanksOrder [.int .i64 n, v, pv] h (fun r h' => r = .bool true ∧ Keep (fun _ => False) h h') X := by
  refine C_pipewrightlaw_RanksOrder ω _ _ _ h _ X ?_
  unfold W_pipewrightlaw_RanksOrder
  refine CallX.use (Begun_law h) ?_
  rintro _ h1 ⟨rfl, k1⟩
  rw [asB_bool]
  refine cond_f rfl ?_
  have hs1 := hs.keep k1
  refine ⟨fun r h' => ∃ b : Bool, r = .bool b ∧ Keep (fun _ => False) h h' ∧ (b = false → 1 ≤ n ∧ n ≤ 60 ∧ E.length ≤ 300 ∧ ps.length ≤ 200 ∧ (chk n E).1 = 0), ?_, ?_⟩
  · rw [asK_int]
    refine cond_c (fun hc => ⟨true, rfl, k1, fun h => by cases h⟩) (fun hc => ?_)
    rw [asK_int]
    refine cond_c (fun hc => ⟨true, rfl, k1, fun h => by cases h⟩) (fun hc2 => ?_)
    refine EdAt.sl hs1.at_ fun _ _ => ?_
    refine cond_c (fun hc => ⟨true, rfl, k1, fun h => by cases h⟩) (fun hc3 => ?_)
    refine IS.sl (SlAt.keep hp k1) fun _ _ => ?_
    refine cond_c (fun hc => ⟨true, rfl, k1, fun h => by cases h⟩) (fun hc4 => ?_)
    have h1' := of_decide_eq_false hc
    have h2' := of_decide_eq_false hc2
    have h3' := of_decide_eq_false hc3
    have h4' := of_decide_eq_false hc4
    refine CallX.use (Check_law hs1.at_ n) ?_
    rintro _ h2 ⟨rfl, k2⟩
    rw [asA_agg, flt0, asK_int]
    exact ⟨_, rfl, k1.trans k2, fun hb => ⟨by omega, by omega, by omega, by omega, by simpa using hb⟩⟩
  rintro _ _ h2 ⟨b, rfl, k2, hb⟩
  rw [asB_bool]
  refine cond_c (fun hc => ⟨rfl, k2⟩) (fun hc => ?_)
  obtain ⟨hn1, hn2, hEl, hpl, hz⟩ := hb hc
  obtain ⟨m, rfl⟩ : ∃ m : Nat, n = m := ⟨n.toNat, by omega⟩
  obtain ⟨_, _, _, hg⟩ := chk_zero hz
  have hok := es_ok hg
  have hs2 := hs.keep k2
  -- Ranks
  refine CallX.use (Ranks_law hs2.at_) ?_
  rintro _ h5 ⟨hr5, k5⟩
  obtain ⟨w5, xs, c5, a5, rfl, hw5, hv5⟩ := hr5.open_
  rw [tup2, asA_agg]
  refine ⟨rfl, flt_one _ _, storeK_local (cs := flt c5 a5) rfl ?_⟩
  have hb6 := hp_push_new (h := h5) (o := .cells (flt c5 a5).toArray 25 (0, 0))
  have kp6 := Keep.push (S := fun _ => False) h5 (.cells (flt c5 a5).toArray 25 (0, 0))
  have k26 := k5.trans kp6
  have hw6 := OwnH.more hw5 kp6
  generalize h5.push (.cells (flt c5 a5).toArray 25 (0, 0)) = h6 at *
  -- Round
  refine CallX.use (Round_law (hs2.keep k26).at_) ?_
  rintro _ h7 ⟨hr7, k7⟩
  obtain ⟨w7, l, c7, a7, rfl, hw7, hv7⟩ := hr7.open_
  rw [tup2, asA_agg]
  refine ⟨rfl, flt_one _ _, storeK_local (cs := flt c7 a7) rfl ?_⟩
  have hb8 := hp_push_new (h := h7) (o := .cells (flt c7 a7).toArray 25 (0, 0))
  have kp8 := Keep.push (S := fun _ => False) h7 (.cells (flt c7 a7).toArray 25 (0, 0))
  have k68 := k7.trans kp8
  have hw8 := OwnH.more hw7 kp8
  generalize h7.push (.cells (flt c7 a7).toArray 25 (0, 0)) = h8 at *
  have hb68 := k68.get hb6 (by simp)
  have hw68 := OwnH.more hw6 k68
  have k08 := (k2.trans k26).trans k68
  have hs8 := hs.keep k08
  obtain ⟨rfl, rfl, hro⟩ := hv7.open_ hz
  have hrk := hv5.open_ hz
  have hlz : (c5 = 0) ↔ l.length = 0 := by
    rcases hrk with ⟨hno, _, rfl, _⟩ | ⟨rfl, _, _, hx, _⟩
    · have := RoundIs.pos hok hro hno
      exact ⟨fun h => (by cases h), fun h => by omega⟩
    · refine ⟨fun _ => ?_, fun _ => rfl⟩
      rcases RoundIs.good hok hro with ⟨h1, _⟩ | ⟨v, d, _, _, h2, _⟩
      · rw [h1]; rfl
      · exact absurd (h2.noRk hok) (rk_no hx)
  have hlm := RoundIs.le hok hro
  refine ⟨false, ?_, fun _ => cond_f rfl ?_⟩
  · refine lx hb8 rfl ?_
    rw [asK_int]
    refine cond_f rfl ?_
    refine lx hb68 rfl ?_
    rw [asK_int]
    refine IS.sl hw8.slAt fun _ _ => ?_
    rw [nI_len]
    refine ⟨?_, rfl⟩
    congr 1
    have : (c5 == (0 : Int)) = ((l.length : Int) == 0) := by
      rw [Bool.eq_iff_iff, beq_iff_eq, beq_iff_eq, hlz]
      omega
    rw [this]
    simp
  -- the matrix
  refine makeK_of (z := [.slice none 0 0]) (bt := 24) (el := 37) (sz := 1) (by kernel_rfl) (by kernel_rfl) (by omega) (by omega) (by omega) ?_
  rw [Int.toNat_natCast, zeroRow_one]
  have kp9 := Keep.push (S := fun _ => False) h8 (.cells (Array.replicate m (Value.slice none 0 0)) 37 (0, 0))
  have hm9 : ∃ vals, Mx (Array.push h8 (.cells (Array.replicate m (Value.slice none 0 0)) 37 (0, 0))) h8.size (.slice (some ⟨h8.size, 0, none⟩) m m) m 0 (fun _ _ => false) vals := by
    refine ⟨List.replicate m (.slice none 0 0), ownBlk (by rw [hp_push_new]; simp) (by simp) (by simp only [maxLen]; omega) (Nat.le_refl _), fun k w hk _ => by omega, fun k k' w w' hk => by omega⟩
  generalize Value.slice (some ⟨h8.size, 0, none⟩) m m = V at *
  generalize Array.push h8 (.cells (Array.replicate m (Value.slice none 0 0)) 37 (0, 0)) = h9 at *
  refine ⟨fun t h' => ∃ i : Nat, t = .int .i64 i ∧ i ≤ m ∧ (∃ vals, Mx h' h8.size V m i (fun _ _ => false) vals) ∧ Keep (fun _ => False) h8 h', fun t _ => match t with | .int _ i => m - i.toNat | _ => 0, ⟨0, rfl, by omega, hm9, kp9⟩, ?_⟩
  rintro _ _ h10 ⟨i, rfl, hi, ⟨vals, hm10⟩, k10⟩
  rw [asK_int, asK_int]
  refine cond_c (fun hc => ?_) (fun hc => ?_)
  · have him : i < m := by have := of_decide_eq_true hc; omega
    refine makeK_of (z := [.bool false]) (bt := 1) (el := 4) (sz := 1) (by kernel_rfl) (by kernel_rfl) (by omega) (by omega) (by omega) ?_
    rw [Int.toNat_natCast, zeroRow_one]
    have hone : Go.Sx.one (Value.slice (some ⟨h10.size, 0, none⟩) m m) := rfl
    simp only [oneK_eq hone]
    refine Mx.put hm10 (fun _ => rfl) him (by omega) k10.size fun h11 hm11 k11 => ?_
    rw [asK_int, i64_in (by omega) (by omega)]
    exact ⟨⟨i + 1, by simp, by omega, hm11, k10.newer (k11.mono fun b _ hb => .inr hb)⟩, by simp; omega⟩
  obtain rfl : i = m := by have := of_decide_eq_false hc; omega
  refine ⟨fun t h' => ∃ j : Nat, t = .int .i64 j ∧ j ≤ E.length ∧ (∃ vals, Mx h' h8.size V i i (fun a b => decide ((a, b) ∈ (esOf E).take j)) vals) ∧ Keep (fun _ => False) h8 h', fun t _ => match t with | .int _ j => E.length - j.toNat | _ => 0,
    ⟨0, rfl, by omega, ⟨vals, Mx.congr hm10 (fun a b _ _ => by simp) (Nat.le_refl _)⟩, k10⟩, ?_⟩
  rintro _ _ h11 ⟨j, rfl, hj, ⟨vals11, hm11⟩, k11⟩
  have hs11 := hs8.keep k11
  refine EdAt.sl hs11.at_ fun _ _ => ?_
  rw [asK_int]
  refine cond_c (fun hc => ?_) (fun hc => ?_)
  · have hlt : j < E.length := by have := of_decide_eq_true hc; omega
    have hx := List.getElem?_eq_getElem hlt
    generalize E[j] = e at hx
    obtain ⟨a, b, rfl, ha, hb, hes⟩ := es_at hg hx
    have htk : (esOf E).take (j + 1) = (esOf E).take j ++ [(a, b)] := by rw [List.take_add_one, hes]; rfl
    refine EdAt.rd0 hs11.at_ hx ?_
    obtain ⟨w, hw, how⟩ := hm11.at_ ha
    refine SlAt.rd1 hm11.own.slAt hw ?_
    refine EdAt.rd1 hs11.at_ hx ?_
    refine Mx.one hm11 ha hb hw fun h12 hm12 k12 => ?_
    rw [asK_int, i64_in (by omega) (by omega)]
    refine ⟨⟨j + 1, by simp, by omega, ⟨_, Mx.congr hm12 (fun x y _ _ => ?_) (Nat.le_refl _)⟩, k11.newer (k12.mono fun b _ hb => .inr hb)⟩, by simp; omega⟩
    rw [htk, Bool.eq_iff_iff]
    simp [Prod.ext_iff]
  obtain rfl : j = E.length := by have := of_decide_eq_false hc; omega
  have hel : (esOf E).take E.length = esOf E := by rw [show E.length = (esOf E).length by simp [esOf], List.take_length]
  rw [hel] at hm11
  have k011 := k08.trans k11
  have hb11 := k11.get hb68 (by simp)
  have hw11 := OwnH.more hw68 k11
  have hw11r := OwnH.more hw8 k11
  -- has
  have hasAt : ∀ {h' : Hp}, Keep (fun _ => False) h11 h' → ∀ {a : Nat}, a < i → ∃ w, vals11[a]? = some w ∧ SlAt h' 1 V i vals11 ∧ SlAt h' 1 w i (bv (fun b => decide ((a, b) ∈ esOf E)) i) := fun {h'} k {a} ha => by
    obtain ⟨w, hw, how⟩ := hm11.at_ ha
    exact ⟨w, hw, (hm11.keep k).own.slAt, (OwnH.more how k).slAt⟩
  refine lx hb11 rfl ?_
  rw [asK_int]
  rcases hrk with ⟨hno, rfl, rfl, rfl⟩ | ⟨rfl, rfl, hxl, hx, hxb⟩
  rotate_left
  · -- ranks
    refine cond_t rfl ?_
    refine ⟨fun t h' => ∃ b : Nat, t = .int .i64 b ∧ b ≤ i ∧ h' = h11, fun t _ => match t with | .int _ b => i - b.toNat | _ => 0, ⟨0, rfl, by omega, rfl⟩, ?_⟩
    rintro _ _ h12 ⟨b, rfl, hb, hh⟩
    rw [hh, asK_int, asK_int]
    refine cond_c (fun hc => ?_) (fun hc => ⟨rfl, k011⟩)
    have hbi : b < i := by have := of_decide_eq_true hc; omega
    have hxbb := hxb b hbi
    refine IS.rd hw11.slAt (vz_at (by omega : b < xs.length)) ?_
    rw [asK_int]
    refine ⟨fun fr t h' => ∃ (f : Bool) (a : Nat), fr = .bool f ∧ t = .int .i64 a ∧ a ≤ i ∧ h' = h11 ∧ (f = true ↔ vz xs b = 0 ∨ ∃ a', a' < a ∧ (a', b) ∈ esOf E ∧ vz xs b = vz xs a' + 1), fun _ t _ => match t with | .int _ a => i - a.toNat | _ => 0,
      ⟨_, 0, rfl, rfl, by omega, rfl, by rw [beq_iff_eq]; exact ⟨fun h => .inl h, fun h => by rcases h with h | ⟨a', h, _⟩ <;> omega⟩⟩, ?_⟩
    rintro _ _ _ h13 ⟨f, a, rfl, rfl, ha, hh13, hf⟩
    rw [hh13, asK_int, asK_int]
    refine cond_c (fun hc => ?_) (fun hc => ?_)
    · have hai : a < i := by have := of_decide_eq_true hc; omega
      have hxba := hxb a hai
      obtain ⟨w, hw, hV, how⟩ := hasAt (Keep.refl _ h11) hai
      have hup : (a, b) ∈ esOf E → vz xs a < vz xs b := fun hab => by
        have : (vz xs a).toNat < (vz xs b).toNat := hx.up a b hab
        omega
      refine ⟨false, ?_, fun _ => cond_f rfl ?_⟩
      · refine SlAt.rd1 hV hw ?_
        refine SlAt.rd1 how (bv_at hbi) ?_
        rw [asB_bool]
        refine cond_c (fun hc => ?_) (fun hc => ⟨rfl, rfl⟩)
        refine IS.rd hw11.slAt (vz_at (by omega : b < xs.length)) ?_
        refine IS.rd hw11.slAt (vz_at (by omega : a < xs.length)) ?_
        rw [asK_int, asK_int]
        refine ⟨?_, rfl⟩
        have := hup (of_decide_eq_true hc)
        rw [decide_eq_false (by omega)]
      · refine ⟨fun fr h' => ∃ f' : Bool, fr = .bool f' ∧ h' = h11 ∧ (f' = true ↔ vz xs b = 0 ∨ ∃ a', a' < a + 1 ∧ (a', b) ∈ esOf E ∧ vz xs b = vz xs a' + 1), ?_, ?_⟩
        rotate_left
        · rintro _ _ h14 ⟨f', rfl, hh14, hf'⟩
          rw [hh14, asK_int, i64_in (by omega) (by omega)]
          exact ⟨⟨f', a + 1, rfl, by simp, by omega, rfl, hf'⟩, by simp; omega⟩
        rw [asB_bool]
        refine cond_c (fun hc => ?_) (fun hc => ?_)
        · refine ⟨true, rfl, rfl, ⟨fun _ => ?_, fun _ => rfl⟩⟩
          rcases hf.1 hc with h1 | ⟨a', h1, h2⟩
          · exact .inl h1
          · exact .inr ⟨a', by omega, h2⟩
        · have hnf : ¬ (vz xs b = 0 ∨ ∃ a', a' < a ∧ (a', b) ∈ esOf E ∧ vz xs b = vz xs a' + 1) := fun h => by
            rw [hf.2 h] at hc
            cases hc
          have hiff : ∀ f' : Bool, (f' = true ↔ ((a, b) ∈ esOf E ∧ vz xs b = vz xs a + 1)) → (f' = true ↔ vz xs b = 0 ∨ ∃ a', a' < a + 1 ∧ (a', b) ∈ esOf E ∧ vz xs b = vz xs a' + 1) := fun f' h => by
            rw [h]
            refine ⟨fun h1 => .inr ⟨a, by omega, h1⟩, fun h1 => ?_⟩
            rcases h1 with h1 | ⟨a', h1, h2⟩
            · exact absurd (.inl h1) hnf
            · by_cases haa : a' = a
              · subst haa
                exact h2
              · exact absurd (.inr ⟨a', by omega, h2⟩) hnf
          refine SlAt.rd1 hV hw ?_
          refine SlAt.rd1 how (bv_at hbi) ?_
          rw [asB_bool]
          refine cond_c (fun hc => ?_) (fun hc => ?_)
          · have hab := of_decide_eq_true hc
            refine IS.rd hw11.slAt (vz_at (by omega : b < xs.length)) ?_
            refine IS.rd hw11.slAt (vz_at (by omega : a < xs.length)) ?_
            rw [asK_int, asK_int, i64_in (by omega) (by omega)]
            refine ⟨_, rfl, rfl, hiff _ ?_⟩
            rw [beq_iff_eq]
            exact ⟨fun h => ⟨hab, h⟩, fun h => h.2⟩
          · have hab := of_decide_eq_false hc
            refine ⟨_, rfl, rfl, hiff _ ?_⟩
            exact ⟨fun h => (by cases h), fun h => absurd h.1 hab⟩
    · obtain rfl : a = i := by have := of_decide_eq_false hc; omega
      have hft : f = true := by
        rw [hf]
        rcases hx.by_ b hbi with h0 | ⟨a', h1, h2⟩
        · left
          have h0 : (vz xs b).toNat = 0 := h0
          omega
        · right
          have h2 : (vz xs b).toNat = (vz xs a').toNat + 1 := h2
          have := hxb a' (hok _ h1).1
          exact ⟨a', (hok _ h1).1, h1, by omega⟩
      rw [asB_bool, hft]
      refine cond_f rfl ?_
      rw [asK_int, i64_in (by omega) (by omega)]
      exact ⟨⟨b + 1, by simp, by omega, rfl⟩, by simp; omega⟩
  -- a round
  refine cond_f (by decide) ?_
  have hlp := RoundIs.pos hok hro hno
  obtain ⟨u, d, hll, hl0, hcy, hmin, hch, hab, hend⟩ : ∃ v d, l.length = d + 1 ∧ l[0]? = some v ∧ Cyc i (esOf E) v d ∧ (∀ v' d', Cyc i (esOf E) v' d' → d ≤ d') ∧
      (∀ j a b, l[j]? = some a → l[j + 1]? = some b → (a, b) ∈ esOf E) ∧ (∀ j a, l[j + 1]? = some a → v < a ∧ a < i) ∧ ∀ a, l[d]? = some a → (a, v) ∈ esOf E := by
    rcases RoundIs.good hok hro with ⟨h1, _⟩ | h1
    · rw [h1] at hlp
      simp at hlp
    · exact h1
  have hui : u < i := hcy.lt hok
  refine ⟨fun t h' => ∃ j : Nat, t = .int .i64 j ∧ j ≤ l.length ∧ h' = h11, fun t _ => match t with | .int _ j => l.length - j.toNat | _ => 0, ⟨0, rfl, by omega, rfl⟩, ?_⟩
  rintro _ _ h12 ⟨j, rfl, hj, hh⟩
  rw [hh]
  refine IS.sl hw11r.slAt fun _ _ => ?_
  rw [nI_len, asK_int]
  refine cond_c (fun hc => ?_) (fun hc => ?_)
  · have hjl : j < l.length := by have := of_decide_eq_true hc; omega
    have hxj := List.getElem?_eq_getElem hjl
    generalize l[j] = x at hxj
    have hxi : x < i := by
      cases j with
      | zero => rw [hl0] at hxj; cases hxj; exact hui
      | succ j => exact (hab j x hxj).2
    refine IS.rd0 hw11r.slAt (i := 0) (x := (u : Int)) (nI_at hl0) rfl ?_
    rw [asK_int]
    refine IS.sl hw11r.slAt fun _ _ => ?_
    rw [nI_len]
    have hw : IntKind.wrap .i64 ((j : Int) + 1) = ((j + 1 : Nat) : Int) := by rw [i64_in (by omega) (by omega)]; omega
    refine ⟨fun to h' => ∃ y : Nat, to = .int .i64 y ∧ y < i ∧ (x, y) ∈ esOf E ∧ h' = h11, ?_, ?_⟩
    · rw [hw]
      refine cond_c (fun hc => ?_) (fun hc => ?_)
      · have hj1 : j + 1 < l.length := by have := of_decide_eq_true hc; omega
        have hy := List.getElem?_eq_getElem hj1
        rw [asK_int, hw]
        refine IS.rd0 hw11r.slAt (i := j + 1) (nI_at hy) rfl ?_
        exact ⟨_, rfl, (hab j _ hy).2, hch j x _ hxj hy, rfl⟩
      · have hj1 : j = d := by have := of_decide_eq_false hc; omega
        subst hj1
        exact ⟨u, rfl, hui, hend x hxj, rfl⟩
    rintro _ _ h13 ⟨y, rfl, hyi, hxy, hh13⟩
    rw [hh13]
    obtain ⟨w, hw', hV, how⟩ := hasAt (Keep.refl _ h11) hxi
    refine ⟨false, ?_, fun _ => cond_f rfl ?_⟩
    · refine IS.rd hw11r.slAt (nI_at hxj) ?_
      refine SlAt.rd1 hV hw' ?_
      refine SlAt.rd1 how (bv_at hyi) ?_
      rw [asB_bool]
      refine cond_f (by simp [hxy]) ?_
      rw [asK_int]
      refine cond_c (fun hc => ?_) (fun hc => ⟨rfl, rfl⟩)
      have hj0 := of_decide_eq_true hc
      refine IS.rd hw11r.slAt (nI_at hxj) ?_
      refine IS.rd0 hw11r.slAt (i := 0) (x := (u : Int)) (nI_at hl0) rfl ?_
      rw [asK_int, asK_int]
      refine ⟨?_, rfl⟩
      obtain ⟨q, rfl⟩ : ∃ q, j = q + 1 := ⟨j - 1, by omega⟩
      have := (hab q x hxj).1
      rw [decide_eq_false (by omega)]
    · rw [asK_int, hw]
      exact ⟨⟨j + 1, rfl, by omega, rfl⟩, by simp; omega⟩
  -- the picks
  have hlit := IO.lit (h := h11) [(0 : Int)] (by simp)
  have kp13 : Keep (fun _ => False) h11 (Array.push h11 (.cells (List.toArray [.int .i64 (0 : Int)]) 3 (0, 0))) := Keep.push (S := fun _ => False) h11 _
  refine ⟨fun at_ walk t h' => ∃ (x q : Nat) (wl : List Nat), at_ = .int .i64 x ∧ t = .int .i64 q ∧ q ≤ ps.length ∧ x < i ∧ Wl i (esOf E) wl x ∧ wl.length ≤ q + 1 ∧ IO h' h11.size walk (nI wl) ∧ Keep (fun _ => False) h11 h',
    fun _ _ t _ => match t with | .int _ q => ps.length - q.toNat | _ => 0, ⟨0, 0, [0], rfl, rfl, by omega, by omega, .one (by omega), by simp, hlit, kp13⟩, ?_⟩
  rintro _ walk _ _ h14 ⟨x, q, wl, rfl, rfl, hq, hxi, hwl, hwlen, how14, k14⟩
  have hp14 : IS h14 pv ps := SlAt.keep hp (k011.trans k14)
  refine IS.sl hp14 fun _ _ => ?_
  rw [asK_int]
  refine cond_c (fun hc => ?_) (fun hc => ⟨rfl, k011.trans k14⟩)
  have hqp : q < ps.length := by have := of_decide_eq_true hc; omega
  have hpx := List.getElem?_eq_getElem hqp
  generalize ps[q] = pk at hpx
  refine ⟨fun at_ walk h' => ∃ (x : Nat) (wl : List Nat), at_ = .int .i64 x ∧ x < i ∧ Wl i (esOf E) wl x ∧ wl.length ≤ q + 2 ∧ IO h' h11.size walk (nI wl) ∧ Keep (fun _ => False) h11 h', ?_, ?_⟩
  rotate_left
  · rintro _ _ _ h15 ⟨x', wl', rfl, h1, h2, h3, h4, h5'⟩
    rw [asK_int, i64_in (by omega) (by omega)]
    exact ⟨⟨x', q + 1, wl', rfl, by simp, by omega, h1, h2, h3, h4, h5'⟩, by simp; omega⟩
  refine IS.rd hp14 hpx ?_
  rw [asI_int, asI_int]
  refine ⟨u64_ne (by omega) (by omega), ?_⟩
  obtain ⟨k, hk, hkz⟩ := kmod pk (m := i) (by omega) (by omega)
  rw [hkz]
  obtain ⟨w, hw, hV, how⟩ := hasAt k14 hxi
  refine SlAt.rd1 hV hw ?_
  refine SlAt.rd1 how (bv_at hk) ?_
  rw [asB_bool]
  refine cond_c (fun hc => ?_) (fun hc => ?_)
  · have hlit' := IO.lit (h := h14) [(k : Int)] (by simp)
    have kp15 : Keep (fun _ => False) h14 (Array.push h14 (.cells (List.toArray [.int .i64 (k : Int)]) 3 (0, 0))) := Keep.push (S := fun _ => False) h14 _
    exact ⟨k, [k], rfl, hk, .one hk, by simp, OwnH.base hlit' k14.size, k14.trans kp15⟩
  have hxk : (x, k) ∈ esOf E := by simpa using hc
  refine ⟨fun t h' => ∃ j : Nat, t = .int .i64 j ∧ j ≤ wl.length ∧ h' = h14, fun t _ => match t with | .int _ j => wl.length - j.toNat | _ => 0, ⟨0, rfl, by omega, rfl⟩, ?_⟩
  rintro _ _ h15 ⟨j, rfl, hj, hh15⟩
  rw [hh15]
  refine IS.sl how14.slAt fun _ _ => ?_
  rw [nI_len, asK_int]
  refine cond_c (fun hc => ?_) (fun hc => ?_)
  · have hjw : j < wl.length := by have := of_decide_eq_true hc; omega
    have hyj := List.getElem?_eq_getElem hjw
    generalize wl[j] = y at hyj
    refine ⟨false, ?_, fun _ => cond_f rfl ?_⟩
    · refine IS.rd how14.slAt (nI_at hyj) ?_
      rw [asK_int]
      refine cond_c (fun hc => ?_) (fun hc => ⟨rfl, rfl⟩)
      have hyk : y = k := by have := eq_of_beq hc; omega
      subst hyk
      refine IS.sl how14.slAt fun _ _ => ?_
      rw [nI_len, asK_int]
      refine IS.sl (OwnH.more hw11r k14).slAt fun _ _ => ?_
      rw [nI_len, i64_in (by omega) (by omega)]
      refine ⟨?_, rfl⟩
      obtain ⟨v', d', h1, h2⟩ := hwl.round hok hyj hxk
      have := hmin v' d' h1
      rw [decide_eq_false (by omega)]
    · rw [asK_int, i64_in (by omega) (by omega)]
      exact ⟨⟨j + 1, by simp, by omega, rfl⟩, by simp; omega⟩
  · refine IO.app how14 (by rw [nI_len]; omega) k14.size (k : Int) fun w16 h16 ho16 k16 _ => ?_
    have hbo := OwnH.lt how14
    refine ⟨k, wl ++ [k], rfl, hk, hwl.snoc hk hxk, by simp; omega, ?_, k14.newer (k16.mono fun b _ hb => .inr (hbo b hb).1)⟩
    have : nI (wl ++ [k]) = nI wl ++ [(k : Int)] := by simp [nI]
    rw [this]
    exact ho16
end
end Go.Proofs.Ytfjkddigflijeaa
