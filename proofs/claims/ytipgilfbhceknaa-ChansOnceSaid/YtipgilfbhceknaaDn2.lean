/- A step of both, by the code. -/
import Derived.Test.YtipgilfbhceknaaDn
namespace Go.Proofs.Ytipgilfbhceknaa
open Go Go.Sx Go.Proofs.Ytipgilfbhceknaa.Sx
section
variable {ω : Amb}

theorem done_law {n : Nat} {h : Hp} {s b : Nat} {xs bx : List E4} {ys bz : List C4} {F G : Nat → Prop} (T : Two h s b xs ys bx bz F G) (g : Good n xs ys) (g' : Good n bx bz) (hn : n ≤ 1000000) (x : S5) (X : List PanicEntry → Hp → Prop) :
    CallX Try.prog ω n_pipewrightlaw_done [.pointer (some ⟨s, 0, none⟩), .pointer (some ⟨b, 0, none⟩), .agg x.f.toArray] h (fun r h' => ∃ β, r = .bool β ∧ (xs = bx → ys = bz → β = true) ∧
      ∃ F' G', Two h' s b (stepM xs ys x).1 (stepM xs ys x).2 (stepM bx bz x).1 (stepM bx bz x).2 F' G' ∧ Upd (fun k => F k ∨ G k) (fun k => F' k ∨ G' k) h h') X := by
  refine C_pipewrightlaw_done ω _ _ _ h _ X ?_
  unfold W_pipewrightlaw_done
  have k0 : Keep (fun _ => False) h (h.push (.cells x.f.toArray 54 (0, 0))) := Keep.push _ _
  have hp0 : (h.push (.cells x.f.toArray 54 (0, 0)))[h.size]? = some (.cells x.f.toArray 54 (0, 0)) := hp_push_new
  have e0 : (h.push (.cells (Value.cells (.agg x.f.toArray)) 54 (0, 0))) = (h.push (.cells x.f.toArray 54 (0, 0))) := rfl
  rw [e0]
  generalize h.push (.cells x.f.toArray 54 (0, 0)) = h0 at *
  have T0 := T.more k0
  have hB := g.bd (by omega)
  have hB' := g'.bd (by omega)
  have hF : ¬ F h.size := fun e => by have := T.sto.lt e; omega
  have hG : ¬ G h.size := fun e => by have := T.bk.lt e; omega
  have hsz : h.size < h0.size := hp_lt hp0
  have hF0 : ∀ k, h.size ≤ k → ¬ F k := fun k hk e => by have := T.sto.lt e; omega
  have hG0 : ∀ k, h.size ≤ k → ¬ G k := fun k hk e => by have := T.bk.lt e; omega
  refine lx hp0 rfl ?_
  rw [asI_int]
  refine ⟨by decide, ?_⟩
  unfold stepM
  have hkd : IntKind.wrap .i64 (Int.tmod (IntKind.wrap .u64 x.d) 10) = kind x.d := rfl
  rw [hkd]
  generalize kind x.d = q
  refine cond_c (fun hq => ?_) (fun hq => ?_)
  · have hq' : q = 0 := by simpa using hq
    simp only [if_pos hq']
    refine lx hp0 rfl ?_
    refine lx hp0 rfl ?_
    obtain ⟨p, v, lv, chs, hS, rfl⟩ := T0.sto
    refine CallX.use (SMake_law hS hB.chan hB.xl hB.yl x.n x.home) fun r h1 ⟨hr, F1, hS1, u1⟩ => ?_
    subst hr
    simp only [asT_tup, ld4, asO_some]
    have hp1 := u1.keep.get hp0 hF
    have T1 := T0.setS hS1 u1
    refine lx hp1 rfl ?_
    refine lx hp1 rfl ?_
    obtain ⟨w, sv, jv, gv, its, hbk, rfl⟩ := T1.bk
    refine CallX.use (BMake_law hbk hB' x.n x.home) fun r h2 ⟨hr, G2, hb2, u2⟩ => ?_
    subst hr
    simp only [asT_tup, ld4, asO_some]
    have T2 := T1.setB hb2 u2
    refine ⟨fun r h' => r = .bool ((makeM xs ys x.n x.home).2.2.1 == (makeM bx bz x.n x.home).2.2.1 && (makeM xs ys x.n x.home).2.2.2 == (makeM bx bz x.n x.home).2.2.2) ∧ h' = h2, ?_, ?_⟩
    · rw [asK_int, asK_int]
      refine cond_c (fun hc => ?_) (fun hc => ⟨by rw [hc]; rfl, rfl⟩)
      rw [asK_int, asK_int, hc]
      exact ⟨rfl, rfl⟩
    · rintro _ _ _ ⟨rfl, rfl⟩
      refine ⟨_, rfl, ?_, F1, G2, T2, (Upd.of k0).trans ((u1.left).trans u2.right)⟩
      rintro rfl rfl
      simp
  have hq0 : ¬ q = 0 := by simpa using hq
  simp only [if_neg hq0]
  refine cond_c (fun hq => ?_) (fun hq => ?_)
  · have hq' : q = 1 := by simpa using hq
    simp only [if_pos hq']
    refine lx hp0 rfl ?_
    refine lx hp0 rfl ?_
    refine lx hp0 rfl ?_
    refine lx hp0 rfl ?_
    obtain ⟨p, v, lv, chs, hS, rfl⟩ := T0.sto
    have hxl := hB.xl
    refine CallX.use (SClone_law hS hB.chan (by omega) x.e x.home) fun r h1 ⟨hr, F1, hS1, u1⟩ => ?_
    subst hr
    have hp1 := u1.keep.get hp0 hF
    have T1 := T0.setS hS1 u1
    refine ⟨lx' hp1 rfl, lx' hp1 rfl, ?_⟩
    obtain ⟨w, sv, jv, gv, its, hbk, rfl⟩ := T1.bk
    refine CallX.use (BClone_law hbk hB' x.e x.home) fun r h2 ⟨hr, G2, hb2, u2⟩ => ?_
    subst hr
    have T2 := T1.setB hb2 u2
    rw [asK_int, asK_int]
    refine ⟨_, rfl, ?_, F1, G2, T2, (Upd.of k0).trans ((u1.left).trans u2.right)⟩
    rintro rfl rfl
    simp
  have hq1 : ¬ q = 1 := by simpa using hq
  simp only [if_neg hq1]
  refine ⟨fun r h' => r = .bool (decide (q = 2 ∨ q = 3 ∨ q = 4)) ∧ h' = h0, ?_, ?_⟩
  · refine cond_c (fun hq => ?_) (fun hq => ?_)
    · have hq2 : q = 2 := by simpa using hq
      subst hq2
      exact ⟨rfl, rfl⟩
    · have hq2 : ¬ q = 2 := by simpa using hq
      refine ⟨fun r h' => r = .bool (decide (q = 2 ∨ q = 3 ∨ q = 4)) ∧ h' = h0, ?_, fun _ _ _ hj => hj⟩
      refine cond_c (fun hq => ?_) (fun hq => ?_)
      · have hq3 : q = 3 := by simpa using hq
        subst hq3
        exact ⟨rfl, rfl⟩
      · have hq3 : ¬ q = 3 := by simpa using hq
        refine ⟨?_, rfl⟩
        congr 1
        rw [Bool.eq_iff_iff]
        simp [hq2, hq3]
  rintro _ _ _ ⟨rfl, rfl⟩
  rename_i h0
  rw [asB_bool]
  refine cond_c (fun hq => ?_) (fun hq => ?_)
  · have hq' := of_decide_eq_true hq
    simp only [if_pos hq']
    refine lx hp0 rfl ?_
    refine lx hp0 rfl ?_
    rw [asK_int]
    refine ⟨by decide, ?_⟩
    rw [oneK_int]
    have h1c : ∀ m : Int, ∀ u ∈ [Value.int .i64 x.n, .int .i64 m], one u := by
      intro m u hu
      simp only [List.mem_cons, List.not_mem_nil, or_false] at hu
      rcases hu with rfl | rfl <;> rfl
    refine ⟨trivial, h1c _, storeK_local rfl ?_⟩
    refine lx hp_push_new rfl ?_
    rw [asK_int]
    refine ⟨fun h' => h' = h0.push (.cells (List.toArray [.int .i64 x.n, .int .i64 (if IntKind.wrap .i64 (-1 - Int.tmod x.home 2) > -1 then -1 else IntKind.wrap .i64 (-1 - Int.tmod x.home 2))]) 74 (0, 0)), ?_, ?_⟩
    · refine cond_c (fun hc => ?_) (fun hc => ?_)
      · have hc' := of_decide_eq_true hc
        rw [if_pos hc', addr_add]
        refine storeK1_of hp_push_new (by simp) ?_
        rw [set_push]
        simp only [st]
      · have hc' := of_decide_eq_false hc
        rw [if_neg hc']
    rintro _ _ rfl
    refine lx (hp_push_old hp0) rfl ?_
    refine ⟨fun h' => h' = h0.push (.cells (itemOf x).f.toArray 74 (0, 0)), ?_, ?_⟩
    · rw [asB_bool]
      unfold itemOf
      refine cond_c (fun hc => ?_) (fun hc => ?_)
      · refine lx (hp_push_old hp0) rfl ?_
        rw [oneK_int, addr_add]
        refine storeK1_of hp_push_new (by simp) ?_
        rw [set_push]
        simp only [st, if_pos hc, It.f]
      · have hc' : ¬ x.send = true := by simp [hc]
        simp only [if_neg hc', It.f]
    rintro _ _ rfl
    have k1 : Keep (fun _ => False) h0 (h0.push (.cells (itemOf x).f.toArray 74 (0, 0))) := Keep.push _ _
    have hn1 : (h0.push (.cells (itemOf x).f.toArray 74 (0, 0)))[h0.size]? = some (.cells (itemOf x).f.toArray 74 (0, 0)) := hp_push_new
    have hp1 := k1.get hp0 (by simp)
    have T1 := T0.more k1
    generalize h0.push (.cells (itemOf x).f.toArray 74 (0, 0)) = h1 at *
    refine lx hp1 rfl ⟨(itemOf x).f, cellsH_blk hn1 rfl, ?_⟩
    refine lx hp1 rfl ⟨(itemOf x).f, cellsH_blk hn1 rfl, ?_⟩
    obtain ⟨p, v, lv, chs, hS, rfl⟩ := T1.sto
    refine CallX.use (SPut_law hS hB x.e (itemOf x)) fun r h2 ⟨hr, F2, hS2, u2⟩ => ?_
    subst hr
    have hp2 := u2.keep.get hp1 hF
    have hn2 := u2.keep.get hn1 (hF0 _ (by omega))
    have T2 := T1.setS hS2 u2
    refine ⟨cellsH_blk hn2 rfl, lx' hp2 rfl, ?_⟩
    obtain ⟨w, sv, jv, gv, its, hbk, rfl⟩ := T2.bk
    refine CallX.use (BPut_law hbk hB' g'.room x.e (itemOf x)) fun r h3 ⟨hr, G3, hb3, u3⟩ => ?_
    subst hr
    have T3 := T2.setB hb3 u3
    rw [asB_bool, asB_bool]
    refine ⟨_, rfl, ?_, F2, G3, T3, (Upd.of (k0.trans k1)).trans ((u2.left).trans u3.right)⟩
    rintro rfl rfl
    simp
  have hq234 := of_decide_eq_false hq
  simp only [if_neg hq234]
  refine ⟨fun r h' => r = .bool (decide (q = 5 ∨ q = 6 ∨ q = 7)) ∧ h' = h0, ?_, ?_⟩
  · refine cond_c (fun hq => ?_) (fun hq => ?_)
    · have hq2 : q = 5 := by simpa using hq
      subst hq2
      exact ⟨rfl, rfl⟩
    · have hq2 : ¬ q = 5 := by simpa using hq
      refine ⟨fun r h' => r = .bool (decide (q = 5 ∨ q = 6 ∨ q = 7)) ∧ h' = h0, ?_, fun _ _ _ hj => hj⟩
      refine cond_c (fun hq => ?_) (fun hq => ?_)
      · have hq3 : q = 6 := by simpa using hq
        subst hq3
        exact ⟨rfl, rfl⟩
      · have hq3 : ¬ q = 6 := by simpa using hq
        refine ⟨?_, rfl⟩
        congr 1
        rw [Bool.eq_iff_iff]
        simp [hq2, hq3]
  rintro _ _ _ ⟨rfl, rfl⟩
  rename_i h0
  rw [asB_bool]
  refine cond_c (fun hq => ?_) (fun hq => ?_)
  · have hq' := of_decide_eq_true hq
    simp only [if_pos hq']
    refine lx hp0 rfl ?_
    refine lx hp0 rfl ?_
    obtain ⟨p, v, lv, chs, hS, rfl⟩ := T0.sto
    refine CallX.use (STake_law hS hB x.e x.home) fun r h1 ⟨hr, F1, hS1, u1⟩ => ?_
    subst hr
    simp only [asT_tup, ld4, asO_some, asA_agg]
    refine ⟨rfl, It.one _, storeK_local rfl ?_⟩
    have hp1 := u1.keep.get hp0 hF
    have T1 := T0.setS hS1 u1
    have s1 := u1.keep.size
    have k2 := Keep.push (S := fun _ => False) h1 (.cells (takeM xs ys x.e x.home).2.2.1.f.toArray 74 (0, 0))
    have hn2 := hp_push_new (h := h1) (o := .cells (takeM xs ys x.e x.home).2.2.1.f.toArray 74 (0, 0))
    have hp2 := k2.get hp1 (by simp)
    have T2 := T1.more k2
    generalize h1.push (.cells (takeM xs ys x.e x.home).2.2.1.f.toArray 74 (0, 0)) = h2 at *
    generalize hL : h1.size = L at *
    refine lx hp2 rfl ?_
    refine lx hp2 rfl ?_
    obtain ⟨w, sv, jv, gv, its, hbk, rfl⟩ := T2.bk
    refine CallX.use (BTake_law hbk hB' g'.room g'.item x.e x.home) fun r h3 ⟨hr, G3, hb3, u3⟩ => ?_
    subst hr
    simp only [asT_tup, ld4, asO_some, asA_agg]
    refine ⟨rfl, It.one _, storeK_local rfl ?_⟩
    have hn3 := u3.keep.get hn2 (hG0 _ (by omega))
    have T3 := T2.setB hb3 u3
    have k4 := Keep.push (S := fun _ => False) h3 (.cells (takeM bx bz x.e x.home).2.2.1.f.toArray 74 (0, 0))
    have hn4 := hp_push_new (h := h3) (o := .cells (takeM bx bz x.e x.home).2.2.1.f.toArray 74 (0, 0))
    have hn4' := k4.get hn3 (by simp)
    have T4 := T3.more k4
    generalize h3.push (.cells (takeM bx bz x.e x.home).2.2.1.f.toArray 74 (0, 0)) = h4 at *
    refine ⟨fun r h' => (∃ β, r = .bool β ∧ (takeM xs ys x.e x.home = takeM bx bz x.e x.home → β = true)) ∧ h' = h4, ?_, ?_⟩
    · refine ⟨(takeM xs ys x.e x.home).2.2.1.f, cellsH_blk hn4' rfl, (takeM bx bz x.e x.home).2.2.1.f, cellsH_blk hn4 rfl, ?_⟩
      simp only [It.f, ld]
      refine cond_c (fun hc => ?_) (fun hc => ⟨⟨_, rfl, fun hh => ?_⟩, trivial⟩)
      · exact ⟨⟨_, rfl, fun hh => by simp [hh]⟩, trivial⟩
      · simp [hh] at hc
    · rintro _ _ _ ⟨⟨β, rfl, hβ⟩, rfl⟩
      refine ⟨_, rfl, ?_, F1, G3, T4, (Upd.of k0).trans ((u1.left).trans ((Upd.of k2).trans (u3.right.trans (Upd.of k4))))⟩
      rintro rfl rfl
      exact hβ rfl
  · have hq' := of_decide_eq_false hq
    simp only [if_neg hq']
    refine lx hp0 rfl ?_
    refine lx hp0 rfl ?_
    obtain ⟨p, v, lv, chs, hS, rfl⟩ := T0.sto
    refine CallX.use (SDrop_law (liveN xs) hS hB (Nat.le_refl _) x.e) fun r h1 ⟨hr, F1, hS1, u1⟩ => ?_
    subst hr
    have hp1 := u1.keep.get hp0 hF
    have T1 := T0.setS hS1 u1
    refine ⟨lx' hp1 rfl, ?_⟩
    obtain ⟨w, sv, jv, gv, its, hbk, rfl⟩ := T1.bk
    refine CallX.use (BDrop_law (liveN bx) hbk hB' (Nat.le_refl _) x.e) fun r h2 ⟨hr, G2, hb2, u2⟩ => ?_
    subst hr
    have T2 := T1.setB hb2 u2
    rw [asB_bool, asB_bool]
    refine ⟨_, rfl, ?_, F1, G2, T2, (Upd.of k0).trans ((u1.left).trans u2.right)⟩
    rintro rfl rfl
    simp
end
end Go.Proofs.Ytipgilfbhceknaa
