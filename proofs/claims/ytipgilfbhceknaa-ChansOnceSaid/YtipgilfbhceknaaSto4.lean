/- The store of channels: Make. -/
import Derived.Test.YtipgilfbhceknaaSto3
namespace Go.Proofs.Ytipgilfbhceknaa
open Go Go.Sx Go.Proofs.Ytipgilfbhceknaa.Sx
section
variable {ω : Amb}
variable {h h' : Hp} {s p : Nat} {v lv : Value} {xs : List E4} {chs : List Ch} {sn : Nat → Nat} {ys : List C4}
theorem sendN_out {n : Nat} (hw : ∀ x ∈ xs, ∃ k : Nat, x.c = k ∧ k < n) : sendN xs n = 0 := by
  unfold sendN
  rw [List.countP_eq_zero]
  intro x hx
  obtain ⟨k, hk, hl⟩ := hw x hx
  simp only [alive, hk]
  intro hh
  simp at hh
  have := hh.1.1
  omega

theorem SMake_law (hS : Sto h s p v lv xs chs (sendN xs) ys) (hw : ∀ x ∈ xs, ∃ k : Nat, x.c = k ∧ k < ys.length) (hxl : xs.length ≤ 100000000) (hyl : ys.length ≤ 100000000) (slots task : Int) (X : List PanicEntry → Hp → Prop) :
    CallX Try.prog ω n_p_chans_Store_Make [.pointer (some ⟨s, 0, none⟩), .int .i64 slots, .int .i64 task] h (fun r h' => r = .tuple #[.int .i64 (makeM xs ys slots task).2.2.1, .int .i64 (makeM xs ys slots task).2.2.2] ∧
      ∃ F', StoR h' s (makeM xs ys slots task).1 (makeM xs ys slots task).2.1 F' ∧ Upd (Fp s p v lv chs) F' h h') X := by
  refine C_p_chans_Store_Make ω _ _ _ h _ X ?_
  unfold W_p_chans_Store_Make
  unfold makeM
  refine ⟨decide (task < 0), ?_, fun _ => cond_c (fun hc => ?_) (fun hc => ?_)⟩
  · rw [asPo_ptr]
    refine cond_f rfl ?_
    rw [asK_int]
    exact ⟨rfl, rfl⟩
  · have hc' : task < 0 := by simpa using hc
    simp only [if_pos hc']
    exact ⟨trivial, _, ⟨_, _, _, _, hS, rfl⟩, Upd.refl _ _⟩
  have hc' : ¬ task < 0 := by simpa using hc
  simp only [if_neg hc']
  rw [nnK_ptr]
  refine lx hS.blk rfl ?_
  refine hS.own.slAt.sl fun _ _ => ?_
  rw [nnK_ptr]
  refine lx hS.blk rfl ?_
  refine CallX.use (rgNew slots h) ?_
  rintro _ h1 ⟨rfl, hz1, k1, hr⟩
  have hS1 := hS.more k1
  refine ⟨lx' hS1.blk rfl, ?_⟩
  rw [oneK_ptr]
  have k2 := k1.trans (Keep.push h1 (.cells (List.toArray [.pointer (some ⟨h.size, 0, none⟩), .int .i64 1, .bool false]) 81 (0, 0)))
  have hc2 := hp_push_new (h := h1) (o := .cells (List.toArray [.pointer (some ⟨h.size, 0, none⟩), .int .i64 1, .bool false]) 81 (0, 0))
  have hr2 := hr.more (Keep.push h1 (.cells (List.toArray [.pointer (some ⟨h.size, 0, none⟩), .int .i64 1, .bool false]) 81 (0, 0)))
  have hz2 : (h1.push (.cells (List.toArray [.pointer (some ⟨h.size, 0, none⟩), .int .i64 1, .bool false]) 81 (0, 0))).size = h1.size + 1 := by simp
  have e2 : (Array.push h1 (.cells #[.pointer (some ⟨h.size, 0, none⟩), .int .i64 1, .bool false] 81 (0, 0))) = (h1.push (.cells (List.toArray [.pointer (some ⟨h.size, 0, none⟩), .int .i64 1, .bool false]) 81 (0, 0))) := rfl
  rw [e2]
  generalize (h1.push (.cells (List.toArray [.pointer (some ⟨h.size, 0, none⟩), .int .i64 1, .bool false]) 81 (0, 0))) = h2 at *
  have hS2 := hS.more k2
  refine ⟨lx' hS2.blk rfl, lx' (hS2.more (Keep.push _ _)).blk rfl, ?_⟩
  have hlen := hS.len
  refine appK_one (bt := 8) (by kernel_rfl) hS2.own rfl (by intro u hu; simp at hu; subst hu; rfl) (by omega) (by omega) (Nat.zero_le _) fun w h3 ho hg _ hwo => ?_
  have k3 := Keep.grown (S := fun k => lv.ownBlock = some k) hg (fun k hk _ => hk)
  have hls : lv.ownBlock ≠ some s := fun e => by
    obtain ⟨c, hc⟩ := hS2.own.blk e
    exact ty_ne hc hS2.blk (by decide) rfl
  have hb3 := k3.get hS2.blk hls
  rw [nnK_ptr, asP_some]
  refine oneK_of ?_ ?_
  · rcases ho.shape with ⟨rfl, _, _⟩ | ⟨_, _, _, rfl, _⟩ <;> rfl
  rw [addr_add]
  refine storeK1_of hb3 (by simp) ?_
  simp only [st]
  have ks : Keep (fun k => k = s ∨ lv.ownBlock = some k) h (h3.setIfInBounds s (.cells (List.toArray [.pointer (some ⟨p, 0, none⟩), w]) 61 (0, 0))) :=
    ((k2.mono (by simp)).newer (k3.mono fun _ _ e => .inl (.inr e))).newer (Keep.set _ (.inl (.inl rfl)))
  have k23 : Keep (fun k => k = s ∨ lv.ownBlock = some k) h2 (h3.setIfInBounds s (.cells (List.toArray [.pointer (some ⟨p, 0, none⟩), w]) 61 (0, 0))) :=
    (k3.mono fun _ _ e => .inr e).trans (Keep.set _ (.inl rfl))
  have hbs := hp_set_same (o := .cells (List.toArray [.pointer (some ⟨p, 0, none⟩), w]) 61 (0, 0)) hb3
  have hown4 : OwnH (h3.setIfInBounds s (.cells (List.toArray [.pointer (some ⟨p, 0, none⟩), w]) 61 (0, 0))) 0 77 1 w (chs.length + 1) (pv chs ++ [.pointer (some ⟨h1.size, 0, none⟩)]) := by
    refine ho.keep fun k hk _ => ?_
    rw [Array.getElem?_setIfInBounds_ne ?_]
    rintro rfl
    obtain ⟨c, hc⟩ := ho.blk hk
    exact ty_ne hc hb3 (by decide) rfl
  generalize h3.setIfInBounds s (.cells (List.toArray [.pointer (some ⟨p, 0, none⟩), w]) 61 (0, 0)) = h4 at *
  have nt : ∀ {g : Hp} {k : Nat} {c : Array Value} {t : TypeId} {f : Nat × Nat}, Sto g s p v lv xs chs (sendN xs) ys → g[k]? = some (.cells c t f) → t ≠ 61 → t ≠ 77 → ¬ (k = s ∨ lv.ownBlock = some k) := by
    intro g k c t f hS hb h1 h2
    rintro (e | e)
    · exact ty_ne hb hS.blk h1 e
    · obtain ⟨c', hc⟩ := hS.own.blk e
      exact ty_ne hb hc h2 rfl
  have chk : ∀ k x y, chs[k]? = some x → ys[k]? = some y → ChAt h4 x (sendN xs k) y := fun k x y hx hy => (hS.chan k x y hx hy).keep ks fun i hi => by
    obtain ⟨c, t, hb, ht⟩ := (hS.chan k x y hx hy).ty hi
    exact nt hS hb (by rcases ht with rfl | rfl | rfl <;> decide) (by rcases ht with rfl | rfl | rfl <;> decide)
  have hS4 : Sto h4 s p v w xs (chs ++ [⟨h1.size, h.size, none⟩]) (fun j => if j = chs.length then 1 else sendN xs j) (ys ++ [⟨slots.toNat, false, []⟩]) := by
    refine ⟨hbs, hS.led.keep ks (nt hS hS.led.blk (by decide) (by decide)) (fun k hk => ?_), ?_, by simp [hlen], ?_, ?_⟩
    · obtain ⟨c, hc⟩ := hS.led.own.blk hk
      exact nt hS hc (by decide) (by decide)
    · simpa [pv] using hown4
    · intro k x y hx hy
      have hkl := (List.getElem?_eq_some_iff.1 hx).1
      simp at hkl
      by_cases hk : k < chs.length
      · rw [List.getElem?_append_left hk] at hx
        rw [List.getElem?_append_left (by omega)] at hy
        rw [if_neg (by omega)]
        exact chk k x y hx hy
      · have hke : k = chs.length := by omega
        subst hke
        simp at hx
        rw [← hlen] at hy
        simp at hy
        subst hx hy
        rw [if_pos rfl]
        obtain ⟨f, sl, hb⟩ := hr2.blk
        exact ⟨k23.get hc2 (nt hS2 hc2 (by decide) (by decide)), hr2.keep k23 (nt hS2 hb (by decide) (by decide)) (by simp)⟩
    · have key : ∀ (i : Nat) (x : Ch), chs[i]? = some x → x.c < h.size ∧ x.r < h.size := fun i x hx =>
        ⟨hS.lt (.inr (.inr (.inr (.inr ⟨x, List.mem_iff_getElem?.2 ⟨i, hx⟩, .inl rfl⟩)))), hS.lt (.inr (.inr (.inr (.inr ⟨x, List.mem_iff_getElem?.2 ⟨i, hx⟩, .inr (.inl rfl)⟩))))⟩
      intro i j x y hx hy hne
      have hil := (List.getElem?_eq_some_iff.1 hx).1
      have hjl := (List.getElem?_eq_some_iff.1 hy).1
      simp at hil hjl
      by_cases hi : i < chs.length
      · rw [List.getElem?_append_left hi] at hx
        by_cases hj : j < chs.length
        · rw [List.getElem?_append_left hj] at hy
          exact hS.dis i j x y hx hy hne
        · have hje : j = chs.length := by omega
          subst hje
          simp at hy
          subst hy
          have := key i x hx
          exact ⟨by simp only; omega, by simp only; omega, by simp⟩
      · have hie : i = chs.length := by omega
        subst hie
        rw [List.getElem?_append_left (by omega)] at hy
        simp at hx
        subst hx
        have := key j y hy
        exact ⟨by simp only; omega, by simp only; omega, by simp⟩
  have u4 : Upd (Fp s p v lv chs) (Fp s p v w (chs ++ [⟨h1.size, h.size, none⟩])) h h4 := by
    refine ⟨ks.mono fun k _ hk => hk.elim .inl (fun e => .inr (.inr (.inr (.inl e)))), fun k hk => ?_⟩
    rcases hk with e | e | e | e | ⟨x, hx, e⟩
    · exact .inl (.inl e)
    · exact .inl (.inr (.inl e))
    · exact .inl (.inr (.inr (.inl e)))
    · exact (hwo k e).imp (fun e => .inr (.inr (.inr (.inl e)))) (fun e => by omega)
    · rw [List.mem_append, List.mem_singleton] at hx
      rcases hx with hx | rfl
      · exact .inl (.inr (.inr (.inr (.inr ⟨x, hx, e⟩))))
      · rcases e with e | e | e
        · exact .inr (by rw [e]; simp only; omega)
        · exact .inr (by rw [e]; exact Nat.le_refl _)
        · cases e
  rw [nnK_ptr]
  refine lx hS4.blk rfl ?_
  rw [nnK_ptr]
  refine lx hS4.blk rfl ?_
  refine CallX.use (Born_law hS4.led (by omega) (Nat.zero_le _) chs.length true task) ?_
  rintro r h5 (⟨hb, _⟩ | ⟨_, rfl, v5, hl5, k5, hv5⟩)
  · omega
  have hS5 := hS4.setLed hl5 k5
  refine ⟨lx' hS5.blk rfl, ?_⟩
  refine CallX.use (Born_law hS5.led (by simp; omega) (Nat.zero_le _) chs.length false task) ?_
  rintro r h6 (⟨hb, _⟩ | ⟨_, rfl, v6, hl6, k6, hv6⟩)
  · omega
  have hS6 := hS5.setLed hl6 k6
  refine ⟨by simp, _, ⟨p, v6, w, _, ?_, rfl⟩, u4.trans ((hS4.updLed k5 hv5).trans (hS5.updLed k6 hv6))⟩
  have hsn : sendN (xs ++ [⟨ys.length, true, task, 0⟩, ⟨ys.length, false, task, 0⟩]) = fun j => if j = chs.length then 1 else sendN xs j := by
    funext j
    rw [show xs ++ [⟨ys.length, true, task, 0⟩, ⟨ys.length, false, task, 0⟩] = xs ++ [⟨ys.length, true, task, 0⟩] ++ [⟨ys.length, false, task, 0⟩] by simp]
    rw [sendN_app, sendN_app]
    by_cases hj : j = chs.length
    · subst hj
      rw [if_pos rfl, ← hlen, sendN_out hw, if_pos (by simp [alive]; omega), if_neg (by simp [alive])]
    · rw [if_neg hj, if_neg (by simp [alive]; omega), if_neg (by simp [alive])]
      rfl
  rw [hsn]
  have e : xs ++ [⟨ys.length, true, task, 0⟩, ⟨ys.length, false, task, 0⟩] = xs ++ [bornE chs.length true task] ++ [bornE chs.length false task] := by simp [bornE, hlen]
  rw [e]
  exact hS6
end
end Go.Proofs.Ytipgilfbhceknaa
