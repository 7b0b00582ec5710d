/- ChansOnce: by the code. -/
import Derived.Test.YtipgilfbhceknaaCInv2
import Derived.Test.YtipgilfbhceknaaCDoes
namespace Go.Proofs.Ytipgilfbhceknaa
open Go Go.Sx Go.Proofs.Ytipgilfbhceknaa.Sx

structure JO (h0 : Hp) (s n : Nat) (h' : Hp) (xs : List E4) (ys : List C4) (F : Nat → Prop) : Prop where
  sto : StoR h' s xs ys F
  good : Good n xs ys
  inv : Inv xs ys []
  keep : Keep (fun _ => False) h0 h'
  ge : ∀ k, F k → h0.size ≤ k
theorem JO.more {h0 h h' : Hp} {s n : Nat} {xs : List E4} {ys : List C4} {F : Nat → Prop} (j : JO h0 s n h xs ys F) (hk : Keep (fun _ => False) h h') : JO h0 s n h' xs ys F :=
  ⟨j.sto.keep hk (by simp), j.good, j.inv, j.keep.trans hk, j.ge⟩

section
variable {ω : Amb}
set_option maxHeartbeats 1000000 in
theorem COnce_law (lv : Value) (l : List S5) (h : Hp) (hl : SlAt h 5 lv l.length (l.flatMap S5.f)) (X : List PanicEntry → Hp → Prop) :
    CallX Try.prog ω n_pipewrightlaw_ChansOnce [lv] h (fun v h' => v = .bool true ∧ Keep (fun _ => False) h h') X := by
  refine C_pipewrightlaw_ChansOnce ω _ h _ X ?_
  unfold W_pipewrightlaw_ChansOnce
  refine CallX.use (CBegun_law h) fun v h1 ⟨hv, k0⟩ => ?_
  subst hv
  rw [asB_bool]
  refine cond_f rfl ?_
  refine hl.sl fun _ _ => ?_
  refine cond_c (fun _ => ⟨rfl, k0⟩) (fun hlen => ?_)
  have hlen' : l.length ≤ 200 := by simp at hlen; omega
  refine CallX.use (SNew_law h1) ?_
  rintro _ h2 ⟨s, F0, rfl, hS, k2, hF⟩
  refine ⟨fun i h' => ∃ j : Nat, i = .int .i64 j ∧ j ≤ l.length ∧ ∃ xs ys F, JO h s j h' xs ys F, fun i _ => match i with | .int _ j => l.length - j.toNat | _ => 0,
    ⟨0, rfl, Nat.zero_le _, [], [], F0, hS, Good.nil 0, Inv.nil, k0.trans k2, fun k hk => Nat.le_trans k0.size (hF k hk)⟩, ?_⟩
  clear hF hS
  rintro _ _ h3 ⟨j, rfl, hj, xs, ys, F, J⟩
  have hl3 := hl.keep J.keep
  refine hl3.sl fun _ _ => ?_
  rw [asK_int]
  refine cond_c (fun hlt => ?_) (fun hge => ?_)
  · have hlt : j < l.length := by simpa using hlt
    have hx := List.getElem?_eq_getElem hlt
    generalize l[j] = x at hx
    refine ⟨fun h' => ∃ xs ys F, JO h s (j + 1) h' xs ys F, ?_, ?_⟩
    · refine hl3.rdS S5.len hx ⟨rfl, x.one, storeK_local rfl ?_⟩
      have kx := Keep.push (S := fun _ => False) h3 (.cells x.f.toArray 54 (0, 0))
      have hp4 := hp_push_new (h := h3) (o := .cells x.f.toArray 54 (0, 0))
      have J4 := J.more kx
      generalize h3.push (.cells x.f.toArray 54 (0, 0)) = h4 at *
      generalize hL3 : h3.size = L3 at *
      obtain ⟨p, v, lv', chs, hS4, hFe⟩ := J4.sto
      rw [nnK_ptr]
      refine lx hS4.blk rfl ?_
      refine lx hp4 rfl ?_
      constructor
      refine CallX.use (End_law hS4.led.cell hS4.led.own.slAt x.e) fun r h5 ⟨hr, k5⟩ => ?_
      subst hr
      simp only [asT_tup, ld4, asO_some, asA_agg]
      refine ⟨rfl, (atE xs x.e).1.one, storeK_local rfl ?_⟩
      have hloc := hp_push_new (h := h5) (o := .cells (atE xs x.e).1.f.toArray 36 (0, 0))
      have k6 := k5.trans (Keep.push h5 (.cells (atE xs x.e).1.f.toArray 36 (0, 0)))
      generalize h5.push (.cells (atE xs x.e).1.f.toArray 36 (0, 0)) = h6 at *
      generalize h5.size = L at *
      rotate_left
      have kq : Keep (fun _ => False) h4 (h4.push (.cells (E4.zero.f.toArray) 36 (0, 0))) := Keep.push _ _
      have hq : (h4.push (.cells (E4.zero.f.toArray) 36 (0, 0)))[h4.size]? = some (.cells (E4.zero.f.toArray) 36 (0, 0)) := hp_push_new
      have eq : (Array.push h4 (.cells #[(.int .i64 0), (.bool false), (.int .i64 0), (.int .i64 0)] 36 (0, 0))) = (h4.push (.cells (E4.zero.f.toArray) 36 (0, 0))) := rfl
      rw [eq]
      generalize h4.push (.cells (E4.zero.f.toArray) 36 (0, 0)) = hq' at *
      have hSq := hS4.more kq
      refine ⟨lx' (kq.get hp4 (by simp)) rfl, lx' hSq.blk rfl, ?_⟩
      refine CallX.use (End_law hSq.led.cell hSq.led.own.slAt x.e) fun r h5 ⟨hr, k5⟩ => ?_
      subst hr
      simp only [asT_tup, ld4, asO_some, asA_agg]
      have hq3 := k5.get hq (by simp)
      refine ⟨rfl, (atE xs x.e).1.one, storeK_of (cs := (atE xs x.e).1.f) hq3 (by simp [E4.f]) ?_⟩
      rw [show spl E4.zero.f.toArray 0 (atE xs x.e).1.f = (atE xs x.e).1.f.toArray from spl_all (z := E4.zero.f.toArray) rfl]
      have hloc := hp_set_same (o := .cells (atE xs x.e).1.f.toArray 36 (0, 0)) hq3
      have k6 := (kq.trans k5).newer (Keep.set (S := fun k => False ∨ h4.size ≤ k) (h := h5) (b := h4.size) (.cells (atE xs x.e).1.f.toArray 36 (0, 0)) (.inr (Nat.le_refl _)))
      generalize h5.setIfInBounds h4.size (.cells (atE xs x.e).1.f.toArray 36 (0, 0)) = h6 at *
      generalize h4.size = L at *
      all_goals
        have J6 := J4.more k6
        have hp6 := k6.get hp4 (by simp)
        refine ⟨decide (8 ≤ kind x.d ∧ ((atE xs x.e).2 = false ∨ (atE xs x.e).1.h < 0)), ?_, fun _ => ?_⟩
        · refine lx hp6 rfl ?_
          rw [asI_int]
          refine ⟨by decide, ?_⟩
          have hkd : IntKind.wrap .i64 (Int.tmod (IntKind.wrap .u64 x.d) 10) = kind x.d := rfl
          rw [hkd]
          refine cond_c (fun hk => ?_) (fun hk => ?_)
          · have hk' : 8 ≤ kind x.d := by simpa using hk
            rw [asB_bool]
            refine cond_c (fun ho => ⟨?_, trivial⟩) (fun ho => ?_)
            · have ho' : (atE xs x.e).2 = false := by simpa using ho
              rw [decide_eq_true ⟨hk', .inl ho'⟩]
            · have ho' : (atE xs x.e).2 = true := by simpa using ho
              refine lx hloc rfl ?_
              rw [asK_int]
              refine ⟨?_, trivial⟩
              congr 1
              rw [Bool.eq_iff_iff]
              simp [hk', ho']
          · have hk' : ¬ 8 ≤ kind x.d := by simpa using hk
            refine ⟨?_, trivial⟩
            rw [decide_eq_false (fun hh => hk' hh.1)]
        · refine cond_c (fun hc => ⟨xs, ys, F, J6.sto, J6.good.mono (by omega), J6.inv, J6.keep, J6.ge⟩) (fun hc => ?_)
          have hc' := of_decide_eq_false hc
          have kb := Keep.push (S := fun _ => False) h6 (.cells #[.slice none 0 0, .slice none 0 0, .slice none 0 0, .slice none 0 0] 32 (0, 0))
          refine ⟨x.f, cellsH_blk (kb.get hp6 (by simp)) rfl, ?_⟩
          have hFl : ∀ k, F k → k < h6.size := fun k hk => J6.sto.lt hk
          refine CallX.use (done_law (F := F) (G := Fb h6.size (.slice none 0 0) (.slice none 0 0) (.slice none 0 0) (.slice none 0 0) []) (n := j) ⟨J6.sto.keep kb (by simp), ⟨_, _, _, _, _, BNew_law h6, rfl⟩, fun k hf hg => ?_⟩ J6.good (Good.nil j) (by omega) x) ?_
          · rcases hg with rfl | e | e | e | e | ⟨u, hu, e⟩
            · have := hFl _ hf; omega
            · cases e
            · cases e
            · cases e
            · cases e
            · simp at hu
          rintro _ h7 ⟨β, rfl, _, F7, G7, T7, u7⟩
          have hge7 : ∀ k, F7 k → h.size ≤ k := fun k hk => by
            have hsz := J6.keep.size
            have hkb := kb.size
            rcases u7.more k (.inl hk) with (e | e) | e
            · exact J6.ge k e
            · rcases e with rfl | e | e | e | e | ⟨u, hu, e⟩
              · omega
              · cases e
              · cases e
              · cases e
              · cases e
              · simp at hu
            · omega
          refine ⟨_, _, F7, T7.sto, J6.good.step x, step_inv J6.good J6.inv x (fun hk => ?_), (J6.keep.trans kb).newer (u7.keep.mono fun k _ e => ?_), hge7⟩
          · refine ⟨?_, ?_⟩
            · cases ho : (atE xs x.e).2 with
              | true => rfl
              | false => exact absurd ⟨hk, .inl ho⟩ hc'
            · have : ¬ (atE xs x.e).1.h < 0 := fun hh => hc' ⟨hk, .inr hh⟩
              omega
          · have hsz := J6.keep.size
            rcases e with e | rfl | e | e | e | e | ⟨u, hu, e⟩
            · exact .inr (J6.ge k e)
            · exact .inr (by omega)
            · cases e
            · cases e
            · cases e
            · cases e
            · simp at hu
    · rintro _ h4 ⟨xs, ys, F, J⟩
      rw [asK_int, i64_in (by omega) (by omega)]
      exact ⟨⟨j + 1, by simp, by omega, xs, ys, F, J⟩, by simp; omega⟩
  clear hge hl3
  have hxl := J.good.xl
  obtain ⟨p, v, lv', chs, hS, hFe⟩ := id J.sto
  rw [nnK_ptr]
  refine lx hS.blk rfl ?_
  refine CallX.use (All_law hS.led (by omega)) fun r h4 ⟨ho4, k4⟩ => ?_
  have J4 := J.more k4
  clear hS hFe
  refine ⟨fun i h' => ∃ m : Nat, i = .int .i64 m ∧ m ≤ xs.length ∧ ∃ xs' ys' F', JO h s j h' xs' ys' F' ∧ xs'.length = xs.length ∧ ∀ (i : Nat) (x : E4), i < m → xs'[i]? = some x → x.h < 0, fun i _ => match i with | .int _ m => xs.length - m.toNat | _ => 0,
    ⟨0, rfl, Nat.zero_le _, xs, ys, F, J4, rfl, fun i x hi => absurd hi (by omega)⟩, ?_⟩
  have hr4 := ho4.slAt
  rintro _ _ h5 ⟨m, rfl, hm, xs', ys', F', J5, hlen5, hneg⟩
  refine hr4.sl fun _ _ => ?_
  rw [asK_int]
  refine cond_c (fun hlt => ?_) (fun hge => ?_)
  · have hlt : m < xs.length := by simpa using hlt
    have hx : xs'[m]? = some (xs'[m]'(by omega)) := List.getElem?_eq_getElem _
    generalize xs'[m]'(by omega) = x at hx
    obtain ⟨p, v, lv', chs, hS, hFe⟩ := id J5.sto
    rw [nnK_ptr]
    refine lx hS.blk rfl ?_
    refine CallX.use (End_law hS.led.cell hS.led.own.slAt m) fun r h6 ⟨hr, k6⟩ => ?_
    subst hr
    rw [atE_in hx]
    simp only [asT_tup, ld4, asO_some, asA_agg]
    refine ⟨rfl, x.one, storeK_local rfl ?_⟩
    have hn7 := hp_push_new (h := h6) (o := .cells x.f.toArray 36 (0, 0))
    have k7 := k6.trans (Keep.push h6 (.cells x.f.toArray 36 (0, 0)))
    generalize h6.push (.cells x.f.toArray 36 (0, 0)) = h7 at *
    generalize h6.size = L at *
    have J7 := J5.more k7
    refine ⟨fun r h' => r = .bool false ∧ ∃ xs' ys' F', JO h s j h' xs' ys' F' ∧ xs'.length = xs.length ∧ ∀ (i : Nat) (x : E4), i < m + 1 → xs'[i]? = some x → x.h < 0, ?_, ?_⟩
    · refine lx hn7 rfl ?_
      rw [asK_int]
      refine cond_c (fun hh => ?_) (fun hh => ?_)
      · have hh' : 0 ≤ x.h := by simpa using hh
        obtain ⟨p, v, lv', chs, hS7, rfl⟩ := id J7.sto
        refine CallX.use (SDrop_law (liveN xs') hS7 (J7.good.bd (by omega)) (Nat.le_refl _) m) fun r h8 ⟨hr, F8, hS8, u8⟩ => ?_
        subst hr
        have hg : goneE xs' m = (xs'.set m { x with h := -2, d := IntKind.wrap .i64 (x.d + 1) }, x.h != -2) := by
          rw [goneE, atE_in hx, if_pos rfl, Int.toNat_natCast]
        have hg2 : (goneE xs' m).2 = true := by rw [hg]; simp; omega
        rw [hg2, asB_bool]
        have ev := drop_ev (liveN xs') xs' ys' m
        refine ⟨rfl, _, _, F8, ⟨hS8, J7.good.ev ev, drop_inv _ m x xs' ys' [] hx (by omega) (fun hi => ?_) (Nat.le_refl _) J7.good.chan J7.inv, J7.keep.newer (u8.keep.mono fun k _ e => .inr (J7.ge k e)), fun k hk => (u8.more k hk).elim (fun e => J7.ge k e) (fun e => Nat.le_trans J7.keep.size e)⟩, by rw [ev.xl]; exact hlen5, fun i z hi hz => ?_⟩
        · obtain ⟨w, hw, hwh⟩ := J7.inv.low m hi
          rw [hx] at hw
          cases hw
          omega
        · obtain ⟨z1, hz1, h1⟩ := drop_after (liveN xs') xs' ys' m i z hz
          rw [hg] at hz1
          rcases set_get hz1 with ⟨rfl, rfl, _⟩ | ⟨hne, hz1⟩
          · simp only at h1
            omega
          · have := hneg i z1 (by omega) hz1
            omega
      · have hh' : x.h < 0 := by simpa using hh
        refine ⟨rfl, xs', ys', F', J7, hlen5, fun i z hi hz => ?_⟩
        by_cases him : i = m
        · subst him
          rw [hx] at hz
          cases hz
          exact hh'
        · exact hneg i z (by omega) hz
    · rintro _ _ h8 ⟨rfl, hrest⟩
      rw [asB_bool]
      refine cond_f rfl ?_
      rw [asK_int, i64_in (by omega) (by omega)]
      exact ⟨⟨m + 1, by simp, by omega, hrest⟩, by simp; omega⟩
  have hme : m = xs.length := by simp at hge; omega
  have hneg' : ∀ (i : Nat) (x : E4), xs'[i]? = some x → x.h < 0 := fun i x hx => hneg i x (by have := (List.getElem?_eq_some_iff.1 hx).1; omega) hx
  clear hneg hge hr4 ho4 J4 k4 J
  have hxl5 := J5.good.xl
  have hB := J5.good.bd (by omega)
  obtain ⟨p, v, lv', chs, hS, hFe⟩ := id J5.sto
  rw [nnK_ptr]
  refine lx hS.blk rfl ?_
  refine CallX.use (All_law hS.led (by omega)) fun ra h6 ⟨ho6, k6⟩ => ?_
  have hS6 := hS.more k6
  refine CallX.use (SChans_law hS6 hB) fun rc h7 ⟨⟨es, hes, hel⟩, k7⟩ => ?_
  have J7 := (J5.more k6).more k7
  have oa7 : OwnH h7 h5.size 36 4 ra xs'.length (fl xs') := ho6.keep fun k _ hlt => k7.block k hlt (by simp)
  have hv := J5.inv
  have g5 := J5.good
  have kk7 := J7.keep
  clear hS6 hS hFe ho6 J7 J5 k6 k7
  have hyl := g5.yl
  refine ⟨fun i h' => ∃ m : Nat, i = .int .i64 m ∧ m ≤ xs'.length ∧ Keep (fun _ => False) h7 h', fun i _ => match i with | .int _ m => xs'.length - m.toNat | _ => 0, ⟨0, rfl, Nat.zero_le _, Keep.refl _ _⟩, ?_⟩
  rintro _ _ h8 ⟨e, rfl, he, k8⟩
  have oa8 := oa7.slAt.keep k8
  have hes8 := hes.more k8
  have ec8 := hes8.own.slAt
  refine oa8.sl fun _ _ => ?_
  rw [asK_int]
  refine cond_c (fun hlt => ?_) (fun hge => ?_)
  · have hlt : e < xs'.length := by simpa using hlt
    have hx := List.getElem?_eq_getElem hlt
    generalize xs'[e] = x at hx
    have hxn := hneg' e x hx
    have hxd := hv.d e x hx
    obtain ⟨k, hk, hkl⟩ := g5.chan x (List.mem_iff_getElem?.2 ⟨e, hx⟩)
    have hy := List.getElem?_eq_getElem hkl
    generalize ys'[k] = y at hy
    have hce : es[k]? = some (es[k]'(by omega)) := List.getElem?_eq_getElem _
    generalize es[k]'(by omega) = c at hce
    refine oa8.rdS E4.len hx ⟨rfl, x.one, storeK_local rfl ?_⟩
    have kp := Keep.push (S := fun _ => False) h8 (.cells x.f.toArray 36 (0, 0))
    have hn9 := hp_push_new (h := h8) (o := .cells x.f.toArray 36 (0, 0))
    have hes9 := hes8.more kp
    have ec9 := hes9.own.slAt
    have k9 := k8.trans kp
    generalize h8.push (.cells x.f.toArray 36 (0, 0)) = h9 at *
    generalize h8.size = L at *
    have rc := hes9.rel k c y hce hy
    refine ⟨fun r h' => r = .bool false ∧ h' = h9, ?_, ?_⟩
    · refine lx hn9 rfl ?_
      rw [asK_int]
      refine cond_f (by simp; omega) ?_
      refine lx hn9 rfl ?_
      rw [asK_int]
      refine cond_f (by rw [hxd]; split <;> decide) ?_
      refine lx hn9 rfl ?_
      rw [asK_int]
      refine lx hn9 rfl ?_
      rw [asK_int]
      refine ⟨?_, rfl⟩
      rw [hxd]
      by_cases hh : x.h = -2
      · simp [hh]
      · simp [hh]
    rintro _ _ _ ⟨rfl, rfl⟩
    rename_i h9
    rw [asB_bool]
    refine cond_f rfl ?_
    refine ⟨fun r h' => r = .bool false ∧ h' = h9, ?_, ?_⟩
    · refine lx hn9 rfl ?_
      rw [asK_int]
      refine cond_c (fun hh => ?_) (fun _ => ⟨rfl, rfl⟩)
      have hh' : x.h = -1 := by simpa using hh
      refine lx hn9 rfl ?_
      rw [hk]
      refine ec9.rdT CV.len hce rfl ?_
      rw [asK_int]
      refine cond_c (fun h0 => ?_) (fun _ => ⟨rfl, rfl⟩)
      have h0' : c.n = 0 := by simpa using h0
      refine lx hn9 rfl ?_
      refine ⟨?_, rfl⟩
      rw [rc.n] at h0'
      cases hs : x.s with
      | false => rfl
      | true =>
        exfalso
        unfold sendN at h0'
        rw [List.countP_eq_zero] at h0'
        refine h0' x (List.mem_iff_getElem?.2 ⟨e, hx⟩) ?_
        simp [alive, hk, hs, hh']
    rintro _ _ _ ⟨rfl, rfl⟩
    rename_i h9
    rw [asB_bool]
    refine cond_f rfl ?_
    refine ⟨fun r h' => r = .bool false ∧ h' = h9, ?_, ?_⟩
    · refine lx hn9 rfl ?_
      rw [asB_bool]
      refine cond_c (fun hs => ?_) (fun _ => ⟨rfl, rfl⟩)
      have hs' : x.s = false := by simpa using hs
      refine lx hn9 rfl ?_
      rw [hk]
      refine ec9.rdT CV.len hce rfl ?_
      refine lx hn9 rfl ?_
      rw [asK_int, asB_bool]
      refine ⟨?_, rfl⟩
      have := hv.g e k x y hx hs' hk hy
      rw [rc.gone]
      congr 1
      cases hg : y.gone with
      | true => simp [this.1 hg]
      | false =>
        have hn : ¬ x.h = -2 := fun hh => by rw [this.2 hh] at hg; cases hg
        simp [hn]
    rintro _ _ _ ⟨rfl, rfl⟩
    rw [asB_bool]
    refine cond_f rfl ?_
    rw [asK_int, i64_in (by omega) (by omega)]
    exact ⟨⟨e + 1, by simp, by omega, k9⟩, by simp; omega⟩
  clear hge
  refine ⟨fun i h' => (∃ k : Nat, i = .int .i64 k ∧ k ≤ ys'.length) ∧ h' = h8, fun i _ => match i with | .int _ m => ys'.length - m.toNat | _ => 0, ⟨⟨0, rfl, Nat.zero_le _⟩, rfl⟩, ?_⟩
  rintro _ _ h9 ⟨⟨k, rfl, hk⟩, hh⟩
  rw [hh]
  clear hh h9
  refine ec8.sl fun _ _ => ?_
  rw [asK_int]
  refine cond_c (fun hlt => ?_) (fun _ => ⟨rfl, kk7.trans k8⟩)
  have hlt : k < ys'.length := by rw [← hel]; simpa using hlt
  have hy := List.getElem?_eq_getElem hlt
  generalize ys'[k] = y at hy
  have hym := List.mem_iff_getElem?.2 ⟨k, hy⟩
  have hce : es[k]? = some (es[k]'(by omega)) := List.getElem?_eq_getElem _
  generalize es[k]'(by omega) = c at hce
  have rc := hes8.rel k c y hce hy
  refine ⟨false, ?_, fun _ => cond_f rfl ?_⟩
  · refine ec8.rdT CV.len hce rfl ?_
    rw [asB_bool]
    refine cond_c (fun hg => ?_) (fun _ => ?_)
    · have hi := hv.e k y hy (by rw [← rc.gone]; exact hg)
      refine ec8.rdT CV.len hce rfl ?_
      refine rc.own.slAt.sl fun _ _ => ?_
      refine cond_f (by rw [hi]; simp) ?_
      refine ec8.rdT CV.len hce rfl ?_
      rw [asK_int]
      refine cond_c (fun hp => ?_) (fun _ => ⟨rfl, rfl⟩)
      refine ec8.rdT CV.len hce rfl ?_
      refine rc.own.slAt.sl fun _ _ => ?_
      refine ec8.rdT CV.len hce rfl ?_
      rw [asK_int, hi]
      exact ⟨by simp, rfl⟩
    · refine ec8.rdT CV.len hce rfl ?_
      rw [asK_int]
      refine cond_c (fun hp => ?_) (fun _ => ⟨rfl, rfl⟩)
      refine ec8.rdT CV.len hce rfl ?_
      refine rc.own.slAt.sl fun _ _ => ?_
      refine ec8.rdT CV.len hce rfl ?_
      rw [asK_int]
      have hp' : 0 < c.slots := by simpa using hp
      rw [rc.slots] at hp'
      have := g5.room y hym hp'
      refine ⟨?_, rfl⟩
      rw [rc.slots]
      congr 1
      simp
      omega
  refine ⟨fun n e h' => ∃ j, j ≤ xs'.length ∧ n = .int .i64 (sendN (xs'.take j) k) ∧ e = .int .i64 j ∧ h' = h8, fun _ e _ => match e with | .int _ j => xs'.length - j.toNat | _ => 0, ⟨0, Nat.zero_le _, rfl, rfl, rfl⟩, ?_⟩
  rintro _ _ _ h9 ⟨i, hi, rfl, rfl, hh⟩
  rw [hh]
  clear hh h9
  refine oa8.sl fun _ _ => ?_
  rw [asK_int]
  refine cond_c (fun hlt => ?_) (fun hge => ?_)
  · have hlt : i < xs'.length := by simpa using hlt
    have hx := List.getElem?_eq_getElem hlt
    have htk : xs'.take (i + 1) = xs'.take i ++ [xs'[i]] := List.take_succ_eq_append_getElem hlt
    generalize xs'[i] = x at hx htk
    have hle := sendN_le (xs'.take i) k
    rw [List.length_take] at hle
    have hs1 := sendN_app (xs'.take i) x k
    rw [← htk] at hs1
    refine ⟨fun n h' => n = .int .i64 (sendN (xs'.take (i + 1)) k) ∧ h' = h8, ?_, ?_⟩
    · refine ⟨alive k x, ?_, fun _ => ⟨fun n h' => n = .int .i64 (sendN (xs'.take (i + 1)) k) ∧ h' = h8, ?_, fun _ _ _ hj => hj⟩⟩
      · refine oa8.rdT E4.len hx rfl ?_
        rw [asK_int, asK_int]
        unfold alive
        refine cond_c (fun hc => ?_) (fun hc => ⟨by rw [hc]; rfl, rfl⟩)
        refine oa8.rdT E4.len hx rfl ?_
        rw [asB_bool]
        refine cond_c (fun hs => ?_) (fun hs => ⟨by rw [hs, hc]; rfl, rfl⟩)
        refine oa8.rdT E4.len hx rfl ?_
        rw [asK_int]
        exact ⟨by rw [hs, hc]; rfl, rfl⟩
      · refine cond_c (fun hc => ?_) (fun hc => ?_)
        · rw [asK_int]
          rw [if_pos hc] at hs1
          refine ⟨?_, rfl⟩
          rw [hs1, i64_in (by omega) (by omega)]
          rfl
        · rw [if_neg (by simp [hc])] at hs1
          exact ⟨by rw [hs1]; rfl, rfl⟩
    · rintro _ _ _ ⟨rfl, hh⟩
      rw [hh]
      rw [asK_int, i64_in (by omega) (by omega)]
      exact ⟨⟨i + 1, by omega, rfl, rfl, rfl⟩, by simp; omega⟩
  · have hje : i = xs'.length := by simp at hge; omega
    subst hje
    rw [List.take_length]
    refine ec8.rdT CV.len hce rfl ?_
    rw [asK_int, asK_int]
    refine cond_f (by rw [rc.n]; simp) ?_
    rw [asK_int, i64_in (by omega) (by omega)]
    exact ⟨⟨⟨k + 1, by simp, by omega⟩, rfl⟩, by simp; omega⟩
end
end Go.Proofs.Ytipgilfbhceknaa
