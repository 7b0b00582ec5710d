/- PathsShort: by the code. -/
import Derived.Test.YtihibbejjmldjaaP13
namespace Go.Proofs.Ytihibbejjmldjaa
open Go Go.Sx Go.Sx.Pa Go.Proofs.Ytihibbejjmldjaa.Sx

/-- what is told of a way from 0 to a place that a walk comes to -/
theorem way_facts {L : Pa.Code} {t : Nat} {D : Nat → Option Nat} (hD : IsD (behind L) L.length (t : Int) D) (ht : t < L.length) (h0 : 0 < L.length) {r : List Nat} (w : Walk L t 0 r) :
    ∃ q, pathR L D 0 = 0 :: q ∧ Walk L t 0 q ∧ q.length ≤ r.length ∧ (q.length = r.length → aboveB (nI (0 :: q)) (nI (0 :: r)) = false) := by
  obtain ⟨d, h1, h2⟩ := hD.of (an := t) rfl ht w.dst
  obtain ⟨q, h3, h4, h5⟩ := way_walk hD d 0 h1
  refine ⟨q, ?_, h5, by omega, fun he => ?_⟩
  · unfold pathR
    rw [if_pos (by unfold inR; simp; omega)]
    show pathL L D 0 = _
    unfold pathL
    rw [h1]
    exact h3
  · have := way_least hD ht w d h1 (by omega)
    rw [h3] at this
    exact this
theorem walk_is {L : Pa.Code} {t : Nat} {q : List Nat} (h0 : 0 < L.length) (w : Walk L t 0 q) : isW L (nI (0 :: q)) = true := by
  rw [nI_cons, isW, w.chain]
  unfold inR
  simp
  omega
theorem reach_at {n : Nat} {D : Nat → Option Nat} {i : Nat} (hi : i < n) : ((reachL n D)[(reachL i D).length]? = some i) ↔ (D i).isSome = true := by
  have hsplit : reachL n D = reachL i D ++ ((List.range' i (n - i)).filter fun k => (D k).isSome) := by
    unfold reachL
    rw [← List.filter_append]
    congr 1
    rw [List.range_eq_range', List.range_eq_range']
    have h := List.range'_append_1 (s := 0) (m := i) (n := n - i)
    rw [Nat.zero_add] at h
    rw [h]
    congr 1
    omega
  rw [hsplit, List.getElem?_append_right (Nat.le_refl _), Nat.sub_self]
  obtain ⟨m, hm⟩ : ∃ m, n - i = m + 1 := ⟨n - i - 1, by omega⟩
  rw [hm, List.range'_succ]
  by_cases h : (D i).isSome = true
  · rw [List.filter_cons, if_pos h]
    simp [h]
  · rw [List.filter_cons, if_neg h]
    refine ⟨fun he => ?_, fun he => absurd he h⟩
    have hmem := List.mem_of_getElem? he
    rw [List.mem_filter] at hmem
    exact absurd hmem.2 h
theorem reach_len_succ (i : Nat) (D : Nat → Option Nat) : (reachL (i + 1) D).length = if (D i).isSome = true then (reachL i D).length + 1 else (reachL i D).length := by
  unfold reachL
  rw [filt_succ]
  split <;> simp
theorem pathR_pos {L : Pa.Code} {i : Nat} (hi : i < L.length) {D : Nat → Option Nat} (hD : IsD (behind L) L.length (i : Int) D) : (0 < (pathR L D 0).length) ↔ (D 0).isSome = true := by
  unfold pathR
  rw [if_pos (by unfold inR; simp; omega)]
  show 0 < (pathL L D 0).length ↔ _
  unfold pathL
  cases h : D 0 with
  | none => simp
  | some d =>
    obtain ⟨q, h3, _, _⟩ := way_walk hD d 0 h
    simp only
    rw [h3]
    simp

section
variable {ω : Amb} {L : Pa.Code} {pa pb pc pd pv : Value}
set_option maxHeartbeats 800000 in
theorem Short_law {h : Hp} (hi : InsAt h pv L) (hg : GpAt h pa pb pd pv L.length) {v : Value} {picks : List Int} (hs : IS h v picks) (X : List PanicEntry → Hp → Prop) :
    CallX Try.prog ω n_pipewrightlaw_PathsShort [.agg (prc pa pb pc pd pv).toArray, v] h (fun r h' => r = .bool true ∧ Keep (fun _ => False) h h') X := by
  refine C_pipewrightlaw_PathsShort ω _ _ h _ X ?_
  unfold W_pipewrightlaw_PathsShort
  have hb1 := pb_new h (prc pa pb pc pd pv)
  have k1 := Keep.push (S := fun _ => False) h (.cells (Value.cells (.agg (prc pa pb pc pd pv).toArray)) 26 (0, 0))
  generalize Array.push h (.cells (Value.cells (.agg (prc pa pb pc pd pv).toArray)) 26 (0, 0)) = h1 at *
  refine CallX.use (Begun_law h1) ?_
  rintro _ h2 ⟨rfl, k2⟩
  rw [asB_bool]
  refine cond_f rfl ?_
  have k02 := k1.trans k2
  have hb2 := k2.get hb1 (by simp)
  refine ⟨fun r h' => ∃ g : Bool, r = .bool g ∧ Keep (fun _ => False) h h' ∧ PB h' h.size (prc pa pb pc pd pv) ∧ (g = false → L.length ≤ 300 ∧ picks.length ≤ 300 ∧ 0 < L.length), ?_, ?_⟩
  · refine ⟨_, cellsH_blk hb2 rfl, ?_⟩
    refine CallX.use (Great_law (hg.keep k02)) ?_
    rintro _ h3 ⟨g, rfl, k3, hgn⟩
    rw [asB_bool]
    have hb3 := k3.get hb2 (by simp)
    refine cond_c (fun _ => ⟨true, rfl, k02.trans k3, hb3, fun h => by cases h⟩) (fun hc => ?_)
    refine hs.sl fun _ _ => ?_
    refine cond_c (fun _ => ⟨true, rfl, k02.trans k3, hb3, fun h => by cases h⟩) (fun hc2 => ?_)
    have := of_decide_eq_false hc2
    refine lx hb3 rfl ?_
    refine (hi.keep (k02.trans k3)).sl fun _ _ => ?_
    refine ⟨_, rfl, k02.trans k3, hb3, fun hd => ⟨hgn hc, by omega, ?_⟩⟩
    have := beq_eq_false_iff_ne.1 hd
    omega
  rintro _ _ h3 ⟨g, rfl, k3, hb3, hgn⟩
  rw [asB_bool]
  refine cond_c (fun _ => ⟨rfl, k3⟩) (fun hc => ?_)
  obtain ⟨hn, hpl, hn0⟩ := hgn hc
  have hi3 := hi.keep k3
  have hs3 : IS h3 v picks := SlAt.keep hs k3
  refine ⟨fun h' => Keep (fun _ => False) h3 h', ?_, ?_⟩
  · have hlit := IO.lit (h := h3) [0] (by simp)
    have klit := Keep.push (S := fun _ => False) h3 (.cells (iv [0]).toArray 3 (0, 0))
    refine ⟨fun at_ wk i h' => ∃ (t : Nat) (r : List Nat), at_ = .int .i64 t ∧ i = .int .i64 (r.length : Nat) ∧ r.length ≤ picks.length ∧ t < L.length ∧ Walk L t 0 r ∧ IO h' h3.size wk (nI (0 :: r)) ∧ Keep (fun _ => False) h3 h',
      fun _ _ i _ => match i with | .int _ k => picks.length - k.toNat | _ => 0, ⟨0, [], rfl, rfl, by simp, hn0, .nil, hlit, klit⟩, ?_⟩
    rintro _ wk _ _ h4 ⟨t, r, rfl, rfl, hrl, ht, hw, ho4, k4⟩
    have hs4 : IS h4 v picks := SlAt.keep hs3 k4
    have hi4 := hi3.keep k4
    have hb4 := k4.get hb3 (by simp)
    refine hs4.sl fun _ _ => ?_
    rw [asK_int]
    refine cond_c (fun hc => ?_) (fun _ => k4)
    have hlt : r.length < picks.length := by have := of_decide_eq_true hc; omega
    have hp := List.getElem?_eq_getElem hlt
    generalize picks[r.length] = pk at hp
    refine ⟨_, cellsH_blk hb4 rfl, ?_⟩
    refine CallX.use (Next_law hi4 (by omega) (t : Int)) ?_
    rintro r5 h5 ⟨ho5, k5⟩
    rw [nx_nat ht] at ho5
    have hnl := nexts_len L t
    refine IS.sl ho5.slAt fun _ _ => ?_
    rw [nI_len]
    refine cond_c (fun _ => k4.trans k5) (fun hc => ?_)
    have hpos : 0 < (nexts L t).length := by have := beq_eq_false_iff_ne.1 hc; omega
    have hs5 : IS h5 v picks := SlAt.keep hs4 k5
    refine hs5.rd hp ?_
    rw [asI_int]
    refine IS.sl ho5.slAt fun _ _ => ?_
    rw [nI_len]
    have hwl : IntKind.wrap .u64 ((nexts L t).length : Int) = ((nexts L t).length : Int) := by rw [IntKind.wrap_u64]; omega
    rw [hwl]
    refine ⟨by omega, ?_⟩
    have hpu : 0 ≤ IntKind.wrap .u64 pk := by rw [IntKind.wrap_u64]; omega
    obtain ⟨q, hq, hql⟩ : ∃ q : Nat, IntKind.wrap .i64 (Int.tmod (IntKind.wrap .u64 pk) ((nexts L t).length : Int)) = (q : Int) ∧ q < (nexts L t).length := by
      have h1 := Int.tmod_nonneg ((nexts L t).length : Int) hpu
      have h2 := Int.tmod_lt_of_pos (IntKind.wrap .u64 pk) (show (0 : Int) < ((nexts L t).length : Int) by omega)
      refine ⟨(Int.tmod (IntKind.wrap .u64 pk) ((nexts L t).length : Int)).toNat, ?_, by omega⟩
      rw [i64_in (by omega) (by omega)]
      omega
    rw [hq]
    have hk := List.getElem?_eq_getElem hql
    have hE : E L t (nexts L t)[q] := List.getElem_mem hql
    generalize (nexts L t)[q] = k at hk hE
    have hkl := (E_lt hE).2
    refine IS.rd ho5.slAt (nI_at hk) ?_
    rw [oneK_int]
    have ho45 : IO h5 h3.size wk (nI (0 :: r)) := OwnH.more ho4 k5
    have k35 := k4.trans k5
    refine ho45.app (by rw [nI_len]; simp; omega) k35.size (k : Int) fun w h6 ho6 k6 _ => ?_
    have k36 : Keep (fun _ => False) h3 h6 := k35.newer (k6.mono fun b _ hb => .inr (ho45.lt b hb).1)
    have hw2 := hw.snoc hE
    have hnw : nI (0 :: r) ++ [(k : Int)] = nI (0 :: (r ++ [k])) := by simp [nI]
    rw [hnw] at ho6
    have hb6 := k36.get hb3 (by simp)
    have hi6 := hi3.keep k36
    refine ⟨_, cellsH_blk hb6 rfl, ?_⟩
    refine CallX.use (Path_law hi6 hn 0 (k : Int)) ?_
    rintro r7 h7 ⟨D, hD, hDb, hs7, k7⟩
    obtain ⟨p, hpe, hpw, hpl2, hpa⟩ := way_facts hD hkl hn0 hw2
    rw [hpe] at hs7
    simp only [List.length_append, List.length_singleton] at hpl2 hpa
    have hb7 := k7.get hb6 (by simp)
    have hi7 := hi6.keep k7
    have hlp : (nI (0 :: p)).length = p.length + 1 := by rw [nI_len]; rfl
    have hlw : (nI (0 :: (r ++ [k]))).length = r.length + 2 := by rw [nI_len]; simp
    refine ⟨fun b h' => b = .bool false ∧ Keep (fun _ => False) h7 h', ?_, ?_⟩
    · refine ⟨_, cellsH_blk hb7 rfl, ?_⟩
      refine CallX.use (Is_law hi7 (by omega) hs7 (by omega)) ?_
      rintro _ h8 ⟨rfl, k8⟩
      rw [asB_bool, walk_is hn0 hpw]
      refine cond_f rfl ?_
      have hb8 := k8.get hb7 (by simp)
      refine ⟨_, cellsH_blk hb8 rfl, ?_⟩
      have ho8 : IO h8 h3.size w (nI (0 :: (r ++ [k]))) := OwnH.more (OwnH.more ho6 k7) k8
      refine CallX.use (Is_law (hi7.keep k8) (by omega) ho8.slAt (by omega)) ?_
      rintro _ h9 ⟨rfl, k9⟩
      rw [asB_bool, walk_is hn0 hw2]
      refine cond_f rfl ?_
      have hs9 : IS h9 r7 (nI (0 :: p)) := SlAt.keep (SlAt.keep hs7 k8) k9
      have ho9 : IO h9 h3.size w (nI (0 :: (r ++ [k]))) := OwnH.more ho8 k9
      refine hs9.sl fun _ _ => IS.sl ho9.slAt fun _ _ => ?_
      rw [hlp, hlw]
      refine cond_f (by simp; omega) ?_
      refine IS.rd0 hs9 (i := 0) (x := 0) rfl rfl ?_
      rw [asK_int]
      refine cond_f rfl ?_
      refine hs9.sl fun _ _ => ?_
      rw [hlp]
      have hw1 : IntKind.wrap .i64 (((p.length + 1 : Nat) : Int) - 1) = ((p.length : Nat) : Int) := by rw [i64_in (by omega) (by omega)]; omega
      rw [hw1]
      refine hs9.rd (nI_at hpw.last) ?_
      rw [asK_int, asK_int]
      exact ⟨by simp, k8.trans k9⟩
    rintro _ _ h8 ⟨rfl, k8⟩
    rw [asB_bool]
    refine cond_f rfl ?_
    have hs8 : IS h8 r7 (nI (0 :: p)) := SlAt.keep hs7 k8
    have ho8 : IO h8 h3.size w (nI (0 :: (r ++ [k]))) := OwnH.more (OwnH.more ho6 k7) k8
    refine ⟨fun b h' => b = .bool false ∧ h' = h8, ?_, ?_⟩
    · refine hs8.sl fun _ _ => IS.sl ho8.slAt fun _ _ => ?_
      rw [hlp, hlw]
      refine cond_c (fun hc => ?_) (fun _ => ⟨rfl, rfl⟩)
      have he := eq_of_beq hc
      refine CallX.use (above_law hs8 ho8.slAt (by omega)) ?_
      rintro _ _ ⟨rfl, hh⟩
      rw [hh, hpa (by omega)]
      exact ⟨rfl, rfl⟩
    rintro _ _ _ ⟨rfl, hh⟩
    rw [hh, asB_bool]
    refine cond_f rfl ?_
    rw [asK_int, i64_in (by omega) (by omega)]
    refine ⟨⟨k, r ++ [k], rfl, by simp, by simp; omega, hkl, hw2, ho8, (k36.trans k7).trans k8⟩, by simp; omega⟩
  rintro _ h4 k4
  have hb4 := k4.get hb3 (by simp)
  have hi4 := hi3.keep k4
  refine ⟨_, cellsH_blk hb4 rfl, ?_⟩
  refine CallX.use (Reach_law hi4 hn) ?_
  rintro r5 h5 ⟨D0, hD0, hs5, k5⟩
  have hrl : (reachL L.length D0).length ≤ L.length := filt_len _ _
  refine ⟨fun k i h' => ∃ i' : Nat, i = .int .i64 i' ∧ i' ≤ L.length ∧ k = .int .i64 ((reachL i' D0).length : Nat) ∧ Keep (fun _ => False) h5 h',
    fun _ i _ => match i with | .int _ k => L.length - k.toNat | _ => 0, ⟨0, rfl, by omega, rfl, Keep.refl _ _⟩, ?_⟩
  rintro _ _ _ h6 ⟨i, rfl, hil, rfl, k6⟩
  have k56 := (k4.trans k5).trans k6
  have hb6 := k56.get hb3 (by simp)
  have hi6 := hi3.keep k56
  have hs6 : IS h6 r5 (nI (reachL L.length D0)) := SlAt.keep hs5 k6
  refine lx hb6 rfl ?_
  refine hi6.sl fun _ _ => ?_
  rw [asK_int]
  refine cond_c (fun hc => ?_) (fun _ => ⟨rfl, k3.trans k56⟩)
  have hlt : i < L.length := by have := of_decide_eq_true hc; omega
  have hri : (reachL i D0).length ≤ i := filt_len _ _
  have hra := reach_at (D := D0) hlt
  refine ⟨fun b h' => b = .bool (D0 i).isSome ∧ h' = h6, ?_, ?_⟩
  · refine hs6.sl fun _ _ => ?_
    rw [asK_int, nI_len]
    refine cond_c (fun hc => ?_) (fun hc => ?_)
    · have hl2 : (reachL i D0).length < (reachL L.length D0).length := by have := of_decide_eq_true hc; omega
      have hx := List.getElem?_eq_getElem hl2
      generalize (reachL L.length D0)[(reachL i D0).length] = y at hx
      refine hs6.rd (nI_at hx) ?_
      rw [asK_int, asK_int]
      refine ⟨?_, rfl⟩
      congr 1
      rw [Bool.eq_iff_iff, ← hra, hx]
      simp
      omega
    · have hl2 : (reachL L.length D0).length ≤ (reachL i D0).length := by have := of_decide_eq_false hc; omega
      have : ¬ (D0 i).isSome = true := fun h => by
        have := hra.2 h
        rw [List.getElem?_eq_none hl2] at this
        cases this
      have : (D0 i).isSome = false := by simpa using this
      rw [this]
      exact ⟨rfl, rfl⟩
  rintro _ _ _ ⟨rfl, hh⟩
  rw [hh]
  refine ⟨fun k h' => k = .int .i64 ((reachL (i + 1) D0).length : Nat) ∧ h' = h6, ?_, ?_⟩
  · rw [asB_bool, reach_len_succ]
    refine cond_c (fun hc => ?_) (fun hc => ?_)
    · rw [if_pos hc, asK_int, i64_in (by omega) (by omega)]
      exact ⟨by simp, rfl⟩
    · rw [if_neg (by rw [hc]; decide)]
      exact ⟨rfl, rfl⟩
  rintro _ _ _ ⟨rfl, hh⟩
  rw [hh]
  refine ⟨_, cellsH_blk hb6 rfl, ?_⟩
  refine CallX.use (Path_law hi6 hn 0 (i : Int)) ?_
  rintro r7 h7 ⟨D, hD, hDb, hs7, k7⟩
  refine hs7.sl fun _ _ => ?_
  rw [asB_bool, nI_len]
  have hp := pathR_pos hlt hD
  rw [both_ways hlt hD hD0] at hp
  refine cond_f ?_ ?_
  · have : decide (((pathR L D 0).length : Int) > 0) = (D0 i).isSome := by
      rw [Bool.eq_iff_iff, ← hp]
      simp
    rw [this]
    simp
  · rw [asK_int, i64_in (by omega) (by omega)]
    exact ⟨⟨i + 1, by simp, by omega, rfl, k6.trans k7⟩, by simp; omega⟩
end
end Go.Proofs.Ytihibbejjmldjaa
