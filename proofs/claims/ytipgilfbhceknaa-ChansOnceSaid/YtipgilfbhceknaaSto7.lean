/- The store of channels: Take. -/
import Derived.Test.YtipgilfbhceknaaSto6
namespace Go.Proofs.Ytipgilfbhceknaa
open Go Go.Sx Go.Proofs.Ytipgilfbhceknaa.Sx
section
variable {ω : Amb} {h h' : Hp} {s p : Nat} {v lv : Value} {xs : List E4} {chs : List Ch} {ys : List C4}

theorem STake_law (hS : Sto h s p v lv xs chs (sendN xs) ys) (hB : Bd xs ys) (e task : Int) (X : List PanicEntry → Hp → Prop) :
    CallX Try.prog ω n_p_chans_Store_Take [.pointer (some ⟨s, 0, none⟩), .int .i64 e, .int .i64 task] h (fun r h' => r = .tuple #[.agg (takeM xs ys e task).2.2.1.f.toArray, .int .i64 (takeM xs ys e task).2.2.2] ∧
      ∃ F', StoR h' s (takeM xs ys e task).1 (takeM xs ys e task).2.1 F' ∧ Upd (Fp s p v lv chs) F' h h') X := by
  refine C_p_chans_Store_Take ω _ _ _ h _ X ?_
  unfold W_p_chans_Store_Take
  have k0 : Keep (fun _ => False) h (h.push (.cells It.zero.f.toArray 74 (0, 0))) := Keep.push _ _
  have hp0 : (h.push (.cells It.zero.f.toArray 74 (0, 0)))[h.size]? = some (.cells It.zero.f.toArray 74 (0, 0)) := hp_push_new
  have e0 : (h.push (.cells #[(.int .i64 0), (.int .i64 0)] 74 (0, 0))) = (h.push (.cells It.zero.f.toArray 74 (0, 0))) := rfl
  rw [e0]
  generalize h.push (.cells It.zero.f.toArray 74 (0, 0)) = h0 at *
  have hS0 := hS.more k0
  have hsz := k0.size
  have hlv := fun k hk => (hS.led.own.lt k hk).2
  have hch := fun (c : Ch) (hc : c ∈ chs) (k : Nat) (hk : c.own k) => hS.lt (.inr (.inr (.inr (.inr ⟨c, hc, hk⟩))))
  have fin : ∀ (h1 : Hp) (z : It) (w : It), h1[h.size]? = some (.cells w.f.toArray 74 (0, 0)) → ∀ K : List Value → Hp → Prop, (∀ h2, Keep (fun k => h.size ≤ k) h1 h2 → K z.f h2) →
      storeK h1 ⟨h.size, 0, none⟩ z.f fun h11 => ∃ C12, cellsH h11 ⟨h.size, 0, none⟩ 2 C12 ∧ K C12 h11 := by
    intro h1 z w hw K hK
    refine storeK_of (cs := z.f) hw (by simp [It.f]) ?_
    rw [spl_it]
    exact ⟨z.f, cellsH_blk (hp_set_same hw) rfl, hK _ (Keep.set (S := fun k => h.size ≤ k) _ (Nat.le_refl _))⟩
  refine CallX.use (side_law hS0 hB.chan e false) fun r h1 ⟨k1, hr⟩ => ?_
  have hS1 := hS0.more k1
  have hp1 := k1.get hp0 (by simp)
  have kk1 := k0.trans k1
  unfold takeM
  rcases hr with ⟨hs, rfl⟩ | ⟨k, c, y, hs, hc, hy, rfl⟩
  · refine ⟨fun r h' => r = .bool true ∧ h' = h1, ?_, ?_⟩
    · rw [asPo_ptr]
      exact cond_t rfl ⟨rfl, rfl⟩
    · rintro _ _ _ ⟨rfl, rfl⟩
      rw [asB_bool]
      simp only [hs]
      refine cond_t rfl ⟨trivial, It.zero.one, fin _ It.zero It.zero hp1 _ fun h2 k2 => ?_⟩
      have k3 := kk1.newer (k2.mono fun _ _ e => .inr e)
      exact ⟨rfl, _, ⟨_, _, _, _, hS.more k3, rfl⟩, Upd.of k3⟩
  refine ⟨fun r h' => r = .bool (decide (task < 0 ∨ waitsM xs ys e = true)) ∧ Keep (fun _ => False) h0 h', ?_, ?_⟩
  · rw [asPo_ptr]
    refine cond_f rfl ?_
    rw [asK_int]
    refine cond_c (fun ht => ⟨?_, k1⟩) (fun ht => CallX.use (Waits_law hS1 hB.chan e) fun r h2 ⟨hr, k2⟩ => ⟨?_, k1.trans k2⟩)
    · rw [decide_eq_true (.inl (by simpa using ht))]
    · rw [hr]
      have ht' : ¬ task < 0 := by simpa using ht
      congr 1
      rw [Bool.eq_iff_iff]
      simp [ht']
  rintro _ _ h2 ⟨rfl, k2⟩
  have hS2 := hS0.more k2
  have hp2 := k2.get hp0 (by simp)
  have kk2 := k0.trans k2
  rw [asB_bool]
  simp only [hs]
  refine cond_c (fun hw => ?_) (fun hw => ?_)
  · have hw' := of_decide_eq_true hw
    simp only [if_pos hw']
    refine ⟨trivial, It.zero.one, fin _ It.zero It.zero hp2 _ fun h3 k3 => ?_⟩
    have k4 := kk2.newer (k3.mono fun _ _ e => .inr e)
    exact ⟨rfl, _, ⟨_, _, _, _, hS.more k4, rfl⟩, Upd.of k4⟩
  have hw' := of_decide_eq_false hw
  simp only [if_neg hw', yAt_of hy]
  have hc2 := hS2.chan k c y hc hy
  have hcm := List.mem_iff_getElem?.2 ⟨k, hc⟩
  rw [nnK_ptr]
  refine lx hc2.blk rfl ?_
  refine CallX.use (rgTake hc2.rg) fun r h3 ⟨hr0, hr1⟩ => ?_
  cases hyi : y.items with
  | nil =>
    obtain ⟨rfl, k3⟩ := hr0 hyi
    simp only [asT_tup, ld4, asO_some, asA_agg]
    refine ⟨rfl, It.zero.one, storeK_local rfl ?_⟩
    rw [asB_bool]
    have kk3 := (kk2.trans k3).trans (Keep.push h3 (.cells It.zero.f.toArray 74 (0, 0)))
    have hp3 := (k3.trans (Keep.push h3 (.cells It.zero.f.toArray 74 (0, 0)))).get hp2 (by simp)
    refine cond_t rfl ⟨trivial, It.zero.one, fin _ It.zero It.zero hp3 _ fun h4 k4 => ?_⟩
    have k5 := kk3.newer (k4.mono fun _ _ e => .inr e)
    exact ⟨rfl, _, ⟨_, _, _, _, hS.more k5, rfl⟩, Upd.of k5⟩
  | cons z rest =>
    obtain ⟨rfl, hr3, k3⟩ := hr1 z rest hyi
    have hown : ∀ k, (k = c.r ∨ c.g = some k) → c.own k := fun k e => .inr e
    have hp3 := k3.get hp2 (fun e => by have := hch c hcm _ (hown _ e); omega)
    simp only [asT_tup, ld4, asO_some, asA_agg]
    refine ⟨rfl, z.one, storeK_local rfl ?_⟩
    have kp := Keep.push (S := fun _ => False) h3 (.cells z.f.toArray 74 (0, 0))
    have hn4 := hp_push_new (h := h3) (o := .cells z.f.toArray 74 (0, 0))
    have hs3 : h2.size ≤ h3.size := k3.size
    have hs2 : h.size + 1 ≤ h2.size := hp_lt hp2
    have ko : Keep c.own h2 (h3.push (.cells z.f.toArray 74 (0, 0))) := (k3.mono fun k _ e => hown k e).trans (kp.mono (by simp))
    have hp4 := kp.get hp3 (by simp)
    have hr4 := hr3.more kp
    generalize hh4 : h3.push (.cells z.f.toArray 74 (0, 0)) = h4 at *
    generalize hL : h3.size = L at *
    have hrne : ¬ (c.c = c.r ∨ c.g = some c.c) := by
      rintro (e | e)
      · obtain ⟨f, sl, hb⟩ := hc2.rg.blk
        exact ty_ne hc2.blk hb (by decide) e
      · obtain ⟨c', hb⟩ := hc2.rg.gblk _ e
        exact ty_ne hc2.blk hb (by decide) rfl
    have hcb := kp.get (k3.get hc2.blk hrne) (by simp)
    have hS4 := hS2.setCh (x' := c) (y' := { y with items := rest }) (sn' := sendN xs) hc ko ⟨hcb, hr4⟩ rfl rfl (fun _ e => .inl e) (fun _ _ => rfl)
    have u4 := hS2.updCh (x' := c) hc ko rfl rfl (fun _ e => .inl e)
    rw [set_same hc] at hS4 u4
    rw [asB_bool]
    refine cond_f rfl ?_
    rw [nnK_ptr]
    refine lx hS4.blk rfl ?_
    refine lx hn4 rfl ?_
    refine CallX.use (Move_law hS4.led z.e task) fun r h5 ⟨_, hl5, k5⟩ => ?_
    have k5' : Keep (fun k => k = p ∨ v.ownBlock = some k) h4 h5 := k5.mono fun _ _ e => .inr e
    have hS5 := hS4.setLed hl5 k5'
    have u5 := hS4.updLed k5' (fun _ e => .inl e)
    have htk : -1 ≤ task := by omega
    rw [← move_send (xs := xs) (e := z.e) (home := task) htk] at hS5
    refine ⟨z.f, cellsH_blk (k5.get hn4 (fun e => by have := hlv _ e; omega)) rfl, rfl, z.one, ?_⟩
    refine fin _ z It.zero (k5.get hp4 (fun e => by have := hlv _ e; omega)) _ fun h6 k6 => ?_
    have u45 := (Upd.of (F := Fp s p v lv chs) kk2).trans (u4.trans u5)
    refine ⟨rfl, Fp s p v lv chs, ⟨p, v, lv, chs, hS5.keep k6 (fun q hq e => ?_), rfl⟩, ⟨u45.keep.newer (k6.mono fun _ _ e => .inr e), fun q hq => .inl hq⟩⟩
    have := hS.lt hq
    omega
end
end Go.Proofs.Ytipgilfbhceknaa
