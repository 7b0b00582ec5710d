/- The store of channels: Put, Take. -/
import Derived.Test.YtipgilfbhceknaaSto5
namespace Go.Proofs.Ytipgilfbhceknaa
open Go Go.Sx Go.Proofs.Ytipgilfbhceknaa.Sx

def putM (xs : List E4) (ys : List C4) (e : Int) (x : It) : List E4 × List C4 × Bool :=
  match sideE xs e true with
  | none => (xs, ys, false)
  | some k =>
    if waitsM xs ys e = true then (xs, ys, false)
    else if x.e < 0 then (if (yAt ys k).gone = true then (xs, ys, true) else (xs, ys.set k { yAt ys k with items := (yAt ys k).items ++ [⟨x.n, -1⟩] }, true))
    else if (atE xs x.e).2 = false ∨ (atE xs x.e).1.h < 0 ∨ x.e = e then (xs, ys, false)
    else if (yAt ys k).gone = true then ((dropM (liveN xs) xs ys x.e).1, (dropM (liveN xs) xs ys x.e).2, true)
    else ((moveE xs x.e (-1)).1, ys.set k { yAt ys k with items := (yAt ys k).items ++ [⟨0, x.e⟩] }, true)
def takeM (xs : List E4) (ys : List C4) (e task : Int) : List E4 × List C4 × It × Int :=
  match sideE xs e false with
  | none => (xs, ys, .zero, -1)
  | some k =>
    if task < 0 ∨ waitsM xs ys e = true then (xs, ys, .zero, -1)
    else match (yAt ys k).items with
      | [] => (xs, ys, .zero, 0)
      | z :: r => ((moveE xs z.e task).1, ys.set k { yAt ys k with items := r }, z, 1)

theorem move_ev (xs : List E4) (ys : List C4) (e home : Int) (hh : -1 ≤ home) : Ev xs ys (moveE xs e home).1 ys := by
  cases ha : (moveE xs e home).2 with
  | false =>
    rw [moveE_f ha]
    exact Ev.refl _ _
  | true =>
    have hc : (atE xs e).1.h ≠ -2 := by
      unfold moveE at ha
      split at ha
      · rename_i hc; exact hc.2.2
      · cases ha
    obtain ⟨i, x, rfl, hx, he⟩ := moveE_t ha
    rw [atE_in hx] at hc
    rw [he]
    refine ⟨List.length_set, rfl, fun j x' hj => ?_, ?_, fun _ y h => ⟨y, h, rfl, .inl rfl⟩⟩
    · rcases set_get hj with ⟨rfl, rfl, _⟩ | ⟨_, hj⟩
      · exact ⟨x, hx, rfl, rfl⟩
      · exact ⟨x', hj, rfl, rfl⟩
    · have := liveN_set (x' := { x with h := home }) hx
      rw [if_pos (by simpa using hc), if_pos (by simp; omega)] at this
      omega
theorem move_send {xs : List E4} {e home : Int} (hh : -1 ≤ home) : sendN (moveE xs e home).1 = sendN xs := by
  funext k
  cases ha : (moveE xs e home).2 with
  | false => rw [moveE_f ha]
  | true =>
    have hc : (atE xs e).1.h ≠ -2 := by
      unfold moveE at ha
      split at ha
      · rename_i hc; exact hc.2.2
      · cases ha
    obtain ⟨i, x, rfl, hx, he⟩ := moveE_t ha
    rw [atE_in hx] at hc
    rw [he]
    have := sendN_set (k := k) (x' := { x with h := home }) hx
    have e : alive k { x with h := home } = alive k x := by
      have h1 : (home != -2) = true := by simp; omega
      have h2 : (x.h != -2) = true := by simpa using hc
      simp only [alive, h1, h2]
    rw [e] at this
    omega
theorem move_gone {xs : List E4} {e : Int} (h1 : (atE xs e).2 = true) (h2 : ¬ (atE xs e).1.h < 0) : goneE (moveE xs e (-1)).1 e = goneE xs e ∧ (atE (moveE xs e (-1)).1 e).1.s = (atE xs e).1.s ∧ (atE (moveE xs e (-1)).1 e).1.c = (atE xs e).1.c := by
  rcases atE_cases xs e with ⟨he, ha⟩ | ⟨i, x, rfl, hi, hx, ha⟩
  · rw [ha] at h1; cases h1
  · rw [ha] at h2
    have hm : (moveE xs i (-1)).1 = xs.set i { x with h := -1 } := by
      rw [moveE, ha, if_pos ⟨rfl, by omega, by simp only at h2; simp only; omega⟩]
      rfl
    have hx' : (xs.set i { x with h := -1 })[i]? = some { x with h := -1 } := List.getElem?_set_self hi
    rw [hm, atE_in hx', ha]
    refine ⟨?_, rfl, rfl⟩
    rw [goneE, goneE, atE_in hx', ha, if_pos rfl, if_pos rfl]
    simp only [Int.toNat_natCast, List.set_set]
    congr 1
    simp only [bne, Bool.not_eq_eq_eq_not, Bool.not_not]
    simp only at h2
    rw [Bool.eq_iff_iff]
    simp; omega
theorem move_drop {xs : List E4} {ys : List C4} {e : Int} (h1 : (atE xs e).2 = true) (h2 : ¬ (atE xs e).1.h < 0) (n : Nat) : dropM n (moveE xs e (-1)).1 ys e = dropM n xs ys e := by
  obtain ⟨a, b, c⟩ := move_gone h1 h2
  cases n with
  | zero => simp only [dropM, a]
  | succ n => simp only [dropM, a, b, c]
theorem drop_none {xs : List E4} {ys : List C4} {e : Int} (he : e < 0) (n : Nat) : dropM n xs ys e = (xs, ys) := by
  have : goneE xs e = (xs, false) := goneE_f (by rw [atE_out (.inl he)])
  rw [dropM_plain (by simp [this]), this]

section
variable {ω : Amb} {h h' : Hp} {s p : Nat} {v lv : Value} {xs : List E4} {chs : List Ch} {ys : List C4}

theorem SPut_law (hS : Sto h s p v lv xs chs (sendN xs) ys) (hB : Bd xs ys) (e : Int) (x : It) (X : List PanicEntry → Hp → Prop) :
    CallX Try.prog ω n_p_chans_Store_Put [.pointer (some ⟨s, 0, none⟩), .int .i64 e, .agg x.f.toArray] h (fun r h' => r = .bool (putM xs ys e x).2.2 ∧
      ∃ F', StoR h' s (putM xs ys e x).1 (putM xs ys e x).2.1 F' ∧ Upd (Fp s p v lv chs) F' h h') X := by
  refine C_p_chans_Store_Put ω _ _ _ h _ X ?_
  unfold W_p_chans_Store_Put
  have k0 : Keep (fun _ => False) h (h.push (.cells x.f.toArray 74 (0, 0))) := Keep.push _ _
  have hp0 : (h.push (.cells x.f.toArray 74 (0, 0)))[h.size]? = some (.cells x.f.toArray 74 (0, 0)) := hp_push_new
  have e0 : (h.push (.cells (Value.cells (.agg x.f.toArray)) 74 (0, 0))) = (h.push (.cells x.f.toArray 74 (0, 0))) := rfl
  rw [e0]
  generalize h.push (.cells x.f.toArray 74 (0, 0)) = h0 at *
  have hS0 := hS.more k0
  refine CallX.use (side_law hS0 hB.chan e true) fun r h1 ⟨k1, hr⟩ => ?_
  have hS1 := hS0.more k1
  unfold putM
  rcases hr with ⟨hs, rfl⟩ | ⟨k, c, y, hs, hc, hy, rfl⟩
  · refine ⟨fun r h' => r = .bool true ∧ h' = h1, ?_, ?_⟩
    · rw [asPo_ptr]
      exact cond_t rfl ⟨rfl, rfl⟩
    · rintro _ _ _ ⟨rfl, rfl⟩
      rw [asB_bool, hs]
      exact cond_t rfl ⟨rfl, _, ⟨_, _, _, _, hS1, rfl⟩, Upd.of (k0.trans k1)⟩
  refine ⟨fun r h' => r = .bool (waitsM xs ys e) ∧ Keep (fun _ => False) h0 h', ?_, ?_⟩
  · rw [asPo_ptr]
    refine cond_f rfl (CallX.use (Waits_law hS1 hB.chan e) fun r h2 ⟨hr, k2⟩ => ⟨hr, k1.trans k2⟩)
  rintro _ _ h2 ⟨rfl, k2⟩
  have hS2 := hS0.more k2
  have kk2 := k0.trans k2
  rw [asB_bool]
  refine cond_c (fun hw => ?_) (fun hw => ?_)
  · simp only [hs, if_pos hw]
    exact ⟨trivial, _, ⟨_, _, _, _, hS2, rfl⟩, Upd.of kk2⟩
  have hp2 := k2.get hp0 (by simp)
  have hsz := k0.size
  simp only [hs, hw, if_neg (show ¬ (false = true) by simp), yAt_of hy]
  refine lx hp2 rfl ?_
  rw [asK_int]
  refine ⟨fun h' => ∃ xs' z, Sto h' s p v lv xs' chs (sendN xs') ys ∧ Upd (Fp s p v lv chs) (Fp s p v lv chs) h h' ∧ h'[h.size]? = some (.cells (It.f z).toArray 74 (0, 0)) ∧
      ((x.e < 0 ∧ xs' = xs ∧ z = ⟨x.n, -1⟩) ∨ (¬ x.e < 0 ∧ (atE xs x.e).2 = true ∧ ¬ (atE xs x.e).1.h < 0 ∧ x.e ≠ e ∧ xs' = (moveE xs x.e (-1)).1 ∧ z = ⟨0, x.e⟩)), ?_, ?_⟩
  · refine cond_c (fun he => ?_) (fun he => ?_)
    · have he' : ¬ x.e < 0 := by simp at he; omega
      rw [if_neg he']
      rw [nnK_ptr]
      refine lx hS2.blk rfl ?_
      refine lx hp2 rfl ?_
      have tail : ∀ (h3 : Hp) (L : Nat), h3[L]? = some (.cells (atE xs x.e).1.f.toArray 36 (0, 0)) → Keep (fun _ => False) h2 h3 →
          Sto h3 s p v lv xs chs (sendN xs) ys ∧ h3[h.size]? = some (.cells x.f.toArray 74 (0, 0)) ∧ Keep (fun _ => False) h h3 := fun h3 L _ k3 => ⟨hS2.more k3, k3.get hp2 (by simp), kk2.trans k3⟩
      constructor
      refine CallX.use (End_law hS2.led.cell hS2.led.own.slAt x.e) fun r h3 ⟨hr, k3⟩ => ?_
      subst hr
      simp only [asT_tup, ld4, asO_some, asA_agg]
      refine ⟨rfl, (atE xs x.e).1.one, storeK_local rfl ?_⟩
      have hloc := hp_push_new (h := h3) (o := .cells (atE xs x.e).1.f.toArray 36 (0, 0))
      have kx := k3.trans (Keep.push h3 (.cells (atE xs x.e).1.f.toArray 36 (0, 0)))
      generalize h3.push (.cells (atE xs x.e).1.f.toArray 36 (0, 0)) = h4 at *
      generalize h3.size = L at *
      rotate_left
      have kq : Keep (fun _ => False) h2 (h2.push (.cells (E4.zero.f.toArray) 36 (0, 0))) := Keep.push _ _
      have hq : (h2.push (.cells (E4.zero.f.toArray) 36 (0, 0)))[h2.size]? = some (.cells (E4.zero.f.toArray) 36 (0, 0)) := hp_push_new
      have eq : (Array.push h2 (.cells #[(.int .i64 0), (.bool false), (.int .i64 0), (.int .i64 0)] 36 (0, 0))) = (h2.push (.cells (E4.zero.f.toArray) 36 (0, 0))) := rfl
      rw [eq]
      generalize h2.push (.cells (E4.zero.f.toArray) 36 (0, 0)) = hq' at *
      have hSq := hS2.more kq
      refine ⟨lx' (kq.get hp2 (by simp)) rfl, lx' hSq.blk rfl, ?_⟩
      refine CallX.use (End_law hSq.led.cell hSq.led.own.slAt x.e) fun r h3 ⟨hr, k3⟩ => ?_
      subst hr
      simp only [asT_tup, ld4, asO_some, asA_agg]
      have hq3 := k3.get hq (by simp)
      refine ⟨rfl, (atE xs x.e).1.one, storeK_of (cs := (atE xs x.e).1.f) hq3 (by simp [E4.f]) ?_⟩
      rw [show spl E4.zero.f.toArray 0 (atE xs x.e).1.f = (atE xs x.e).1.f.toArray from spl_all (z := E4.zero.f.toArray) rfl]
      have hloc := hp_set_same (o := .cells (atE xs x.e).1.f.toArray 36 (0, 0)) hq3
      have kx := (kq.trans k3).newer (Keep.set (S := fun k => False ∨ h2.size ≤ k) (h := h3) (b := h2.size) (.cells (atE xs x.e).1.f.toArray 36 (0, 0)) (.inr (Nat.le_refl _)))
      generalize h3.setIfInBounds h2.size (.cells (atE xs x.e).1.f.toArray 36 (0, 0)) = h4 at *
      generalize h2.size = L at *
      all_goals
        obtain ⟨hS4, hp4, k4⟩ := tail h4 L hloc kx
        refine ⟨decide ((atE xs x.e).2 = false ∨ (atE xs x.e).1.h < 0 ∨ x.e = e), ?_, fun _ => ?_⟩
        · rw [asB_bool]
          refine cond_c (fun ho => ⟨?_, trivial⟩) (fun ho => ?_)
          · have ho' : (atE xs x.e).2 = false := by simpa using ho
            rw [decide_eq_true (.inl ho')]
          · have ho' : (atE xs x.e).2 = true := by simpa using ho
            refine lx hloc rfl ?_
            rw [asK_int]
            refine cond_c (fun hh => ⟨?_, trivial⟩) (fun hh => ?_)
            · rw [decide_eq_true (.inr (.inl (by simpa using hh)))]
            · refine lx hp4 rfl ?_
              rw [asK_int, asK_int]
              refine ⟨?_, trivial⟩
              have hh' : ¬ (atE xs x.e).1.h < 0 := by simpa using hh
              congr 1
              rw [Bool.eq_iff_iff]
              simp [ho', hh']
        refine cond_c (fun hq => ?_) (fun hq => ?_)
        · have hq' := of_decide_eq_true hq
          rw [if_pos hq']
          exact ⟨rfl, _, ⟨_, _, _, _, hS4, rfl⟩, Upd.of k4⟩
        · have hq' := of_decide_eq_false hq
          rw [addr_add, Nat.zero_add]
          refine storeK1_of hp4 (by simp [It.f]) ?_
          simp only [It.f, st]
          have ks := k4.newer (Keep.set (S := fun k => False ∨ h.size ≤ k) (h := h4) (b := h.size) (.cells (List.toArray [.int .i64 0, .int .i64 x.e]) 74 (0, 0)) (.inr (Nat.le_refl _)))
          have hps := hp_set_same (o := .cells (List.toArray [.int .i64 0, .int .i64 x.e]) 74 (0, 0)) hp4
          generalize h4.setIfInBounds h.size (.cells (List.toArray [.int .i64 0, .int .i64 x.e]) 74 (0, 0)) = h5 at *
          have hS5 := hS.more ks
          rw [nnK_ptr]
          refine lx hS5.blk rfl ?_
          refine lx hps rfl ?_
          refine CallX.use (Move_law hS5.led x.e (-1)) fun r h6 ⟨_, hl6, k6⟩ => ?_
          have k6' : Keep (fun k => k = p ∨ v.ownBlock = some k) h5 h6 := k6.mono fun _ _ e => .inr e
          have hS6 := hS5.setLed hl6 k6'
          rw [← move_send (xs := xs) (e := x.e) (home := -1) (by omega)] at hS6
          refine ⟨_, ⟨0, x.e⟩, hS6, (Upd.of ks).trans (hS5.updLed k6' (fun _ e => .inl e)), k6.get hps (fun e => by have := (hS.led.own.lt _ e).2; omega), .inr ⟨he', ?_, fun hh => hq' (.inr (.inl hh)), fun hh => hq' (.inr (.inr hh)), rfl, rfl⟩⟩
          cases ho : (atE xs x.e).2 with
          | true => rfl
          | false => exact absurd (.inl ho) hq'
    · have he' : x.e < 0 := by simp at he; omega
      rw [addr_add]
      refine storeK1_of hp2 (by simp [It.f]) ?_
      simp only [It.f, st]
      have ks := kk2.newer (Keep.set (S := fun k => False ∨ h.size ≤ k) (h := h2) (b := h.size) (.cells (List.toArray [.int .i64 x.n, .int .i64 (-1)]) 74 (0, 0)) (.inr (Nat.le_refl _)))
      have hps := hp_set_same (o := .cells (List.toArray [.int .i64 x.n, .int .i64 (-1)]) 74 (0, 0)) hp2
      exact ⟨xs, ⟨x.n, -1⟩, hS.more ks, Upd.of ks, hps, .inl ⟨he', rfl, rfl⟩⟩
  rintro _ h3 ⟨xs', z, hS3, u3, hp3, hcase⟩
  have hc3 := hS3.chan k c y hc hy
  rw [nnK_ptr]
  refine lx hc3.blk rfl ?_
  rw [asB_bool]
  have hB3 : Bd xs' ys := by
    rcases hcase with ⟨_, rfl, _⟩ | ⟨_, _, _, _, rfl, _⟩
    · exact hB
    · exact hB.ev (move_ev xs ys x.e (-1) (by omega))
  have hL3 : liveN xs' ≤ liveN xs := by
    rcases hcase with ⟨_, rfl, _⟩ | ⟨_, _, _, _, rfl, _⟩
    · exact Nat.le_refl _
    · exact (move_ev xs ys x.e (-1) (by omega)).live
  refine cond_c (fun hg => ?_) (fun hg => ?_)
  · refine lx hp3 rfl ?_
    refine CallX.use (SDrop_law (liveN xs) hS3 hB3 hL3 z.e) fun r h4 ⟨_, F4, hS4, u4⟩ => ?_
    rcases hcase with ⟨he, rfl, rfl⟩ | ⟨he, h1, h2, h3, rfl, rfl⟩
    · rw [drop_none (by simp)] at hS4
      rw [if_pos he, if_pos hg]
      exact ⟨rfl, _, hS4, u3.trans u4⟩
    · rw [move_drop h1 h2] at hS4
      rw [if_neg he, if_neg (by simp [h1, h2, h3]), if_pos hg]
      exact ⟨rfl, _, hS4, u3.trans u4⟩
  · rw [nnK_ptr]
    refine lx hc3.blk rfl ?_
    refine ⟨z.f, cellsH_blk hp3 rfl, ?_⟩
    have hil := hB.il y (List.mem_iff_getElem?.2 ⟨k, hy⟩)
    have hnf : ¬ (0 < y.slots ∧ y.items.length = y.slots) := by
      intro hh
      unfold waitsM at hw
      simp only [hs, yAt_of hy, hg, hh.1, hh.2] at hw
      simp at hw
    refine CallX.use (rgPut hc3.rg (by omega) hnf z) fun r h4 ⟨hr, g', hr4, k4, hg4⟩ => ?_
    subst hr
    have ko : Keep c.own h3 h4 := k4.mono fun _ _ e => .inr e
    have hrne : ¬ (c.c = c.r ∨ c.g = some c.c) := by
      rintro (e | e)
      · obtain ⟨f, sl, hb⟩ := hc3.rg.blk
        exact ty_ne hc3.blk hb (by decide) e
      · obtain ⟨c', hb⟩ := hc3.rg.gblk _ e
        exact ty_ne hc3.blk hb (by decide) rfl
    have hS4 := hS3.setCh (x' := { c with g := g' }) (y' := { y with items := y.items ++ [z] }) (sn' := sendN xs') hc ko ⟨k4.get hc3.blk hrne, hr4⟩ rfl rfl hg4 (fun _ _ => rfl)
    have u4 := hS3.updCh (x' := { c with g := g' }) hc ko rfl rfl hg4
    rcases hcase with ⟨he, rfl, rfl⟩ | ⟨he, h1, h2, h3, rfl, rfl⟩
    · rw [if_pos he, if_neg (by simp [hg])]
      exact ⟨rfl, _, ⟨_, _, _, _, hS4, rfl⟩, u3.trans u4⟩
    · rw [if_neg he, if_neg (by simp [h1, h2, h3]), if_neg (by simp [hg])]
      exact ⟨rfl, _, ⟨_, _, _, _, hS4, rfl⟩, u3.trans u4⟩
end
end Go.Proofs.Ytipgilfbhceknaa
