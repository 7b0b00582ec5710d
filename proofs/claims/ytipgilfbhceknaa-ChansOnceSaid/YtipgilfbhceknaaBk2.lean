/- The book: Waits, Clone, Make. -/
import Derived.Test.YtipgilfbhceknaaBk
namespace Go.Proofs.Ytipgilfbhceknaa
open Go Go.Sx Go.Proofs.Ytipgilfbhceknaa.Sx

/-- one cell of a slice of one's own -/
theorem ownStore1 {h : Hp} {base n : Nat} {t : TypeId} {v : Value} {xs : List Value} (ho : OwnH h base t 1 v n xs) {i : Nat} {u : Value} (hi : i < n) {K : Hp → Prop}
    (hk : ∀ h', OwnH h' base t 1 v n (xs.set i u) → Keep (fun k => v.ownBlock = some k) h h' → K h') :
    asSl1 v fun a l _ => 0 ≤ (i : Int) ∧ (i : Int) < (l : Int) ∧ storeK1 h (Addr.add a (Int.toNat (i : Int) * 1)) u K := by
  rcases ho.2 with ⟨rfl, h0⟩ | ⟨g, p, cap, cur, rfl, hb, hg, hnc, hcm, hcs, hx⟩
  · omega
  · rw [asSl1_sl]
    refine ⟨by omega, by omega, ?_⟩
    rw [addr_add, Int.toNat_natCast, Nat.mul_one]
    refine storeK1_of hg (by omega) (hk _ ⟨by rw [List.length_set]; exact ho.1, .inr ⟨g, p, cap, _, rfl, hb, hp_set_same hg, hnc, hcm, by simpa using hcs, ?_⟩⟩ (Keep.set (S := fun k => _ = some k) _ rfl))
    rw [Array.toList_setIfInBounds, List.drop_set, if_neg (by omega), List.take_set, ← hx]
    congr 1
    omega

/-- a slice that is a field of a struct in a block of its own gets some more -/
theorem fieldApp {t el sz bt tb : Nat} (hf : appFacts Try.prog t = some (el, sz, bt)) {h : Hp} {b j n m : Nat} {fs : List Value} (hne : el ≠ tb) (hb : h[b]? = some (.cells fs.toArray tb (0, 0))) {s : Value} {xs cs : List Value}
    (ho : OwnH h 0 el sz s n xs) (hl : cs.length = m * sz) (h1 : ∀ u ∈ cs, one u) (hmax : n + m ≤ 4611686018427387904) (hby : (n + m) * bt ≤ 140737488355328) (hj : j < fs.length) {K : Hp → Prop}
    (hk : ∀ w h', OwnH h' 0 el sz w (n + m) (xs ++ cs) → h'[b]? = some (.cells (fs.set j w).toArray tb (0, 0)) → Keep (fun k => k = b ∨ s.ownBlock = some k) h h' → (∀ k, w.ownBlock = some k → s.ownBlock = some k ∨ h.size ≤ k) → K h') :
    appK Try.prog t (Array.push h (.cells cs.toArray el (0, 0))) s (.slice (some ⟨Array.size h, 0, none⟩) m m) fun w h2 =>
      nnK (.pointer (some ⟨b, 0, none⟩)) (asP (.pointer (some ⟨b, 0, none⟩)) fun p => oneK w (storeK1 h2 (Addr.add p j) w K)) := by
  refine appK_of hf (ho.push _) (m := m) (news := cs) ⟨hl, .inr ⟨_, _, rfl, fun j u hu => ?_⟩⟩ h1 hmax hby (Nat.zero_le _) fun w h2 ho2 hg _ hv => ?_
  · rw [addr_add, cellH_block hp_push_new, Nat.zero_add]; simpa using hu
  · have hls : s.ownBlock ≠ some b := fun e => by
      obtain ⟨c, hc⟩ := ho.blk e
      exact ty_ne hc hb hne rfl
    have kg : Keep (fun k => s.ownBlock = some k) h h2 := (Keep.push (S := fun k => s.ownBlock = some k) h _).trans (Keep.grown hg (fun k hk _ => hk))
    have hb2 := kg.get hb hls
    rw [nnK_ptr, asP_some, oneK_eq (OwnH.isOne ho2), addr_add, Nat.zero_add]
    refine storeK1_of hb2 (by simpa using hj) ?_
    rw [show fs.toArray.setIfInBounds j w = (fs.set j w).toArray by simp]
    refine hk w _ (ho2.keep fun k hk _ => ?_) (hp_set_same hb2) ((kg.mono fun k _ hk => .inr hk).trans (Keep.set _ (.inl rfl))) (fun k hk => (hv k hk).imp id fun hh => by simp at hh; omega)
    rw [Array.getElem?_setIfInBounds_ne ?_]
    rintro rfl
    obtain ⟨c, hc⟩ := ho2.blk hk
    exact ty_ne hc hb2 hne rfl

theorem side_at {xs : List E4} {ys : List C4} (hB : Bd xs ys) {e : Int} {send : Bool} {k : Nat} (hs : sideE xs e send = some k) :
    ∃ (i : Nat) (x : E4) (y : C4), e = i ∧ xs[i]? = some x ∧ x.c = k ∧ x.s = send ∧ x.h ≠ -2 ∧ ys[k]? = some y ∧ atE xs e = (x, true) := by
  obtain ⟨i, x, he, hx, h1, h2, h3, ha⟩ := sideE_some hs
  obtain ⟨k', hk, hl⟩ := hB.chan x (List.mem_iff_getElem?.2 ⟨i, hx⟩)
  rw [hk, Int.toNat_natCast] at h3
  subst h3
  exact ⟨i, x, _, he, hx, hk, h1, h2, List.getElem?_eq_getElem hl, ha⟩

section
variable {ω : Amb} {h h' : Hp} {b : Nat} {w sv jv gv : Value} {xs : List E4} {its : List Value} {ys : List C4}
theorem BWaits_law (hb : Bk h b w sv jv gv xs its ys) (hB : Bd xs ys) (hr : ∀ y ∈ ys, 0 < y.slots → y.items.length ≤ y.slots) (e : Int) (X : List PanicEntry → Hp → Prop) :
    CallX Try.prog ω n_p_pipewrightref_Book_Waits [.pointer (some ⟨b, 0, none⟩), .int .i64 e] h (fun r h' => r = .bool (waitsM xs ys e) ∧ Keep (fun _ => False) h h') X := by
  refine C_p_pipewrightref_Book_Waits ω _ _ h _ X ?_
  unfold W_p_pipewrightref_Book_Waits
  refine CallX.use (there_law hb e true) ?_
  rintro _ h1 ⟨rfl, k1⟩
  have hb1 := hb.more k1
  rw [asB_bool]
  unfold waitsM
  cases hs : sideE xs e true with
  | some k =>
    obtain ⟨i, x, y, rfl, hx, hxc, _, _, hy, _⟩ := side_at hB hs
    refine cond_t rfl ?_
    rw [nnK_ptr]
    refine lx hb1.blk rfl ?_
    refine hb1.own.slAt.rdT E4.len hx rfl ?_
    rw [hxc]
    simp only [yAt_of hy]
    have hrm := hr y (List.mem_iff_getElem?.2 ⟨k, hy⟩)
    refine ⟨fun r h' => r = .bool (!y.gone && (decide (0 < y.slots) && decide (y.items.length = y.slots))) ∧ h' = h1, ?_, ?_⟩
    · rw [nnK_ptr]
      refine lx hb1.blk rfl ?_
      refine hb1.gAt hy ?_
      rw [asB_bool]
      refine cond_c (fun hg => ?_) (fun hg => ⟨by rw [hg]; rfl, rfl⟩)
      rw [hg, Bool.true_and]
      rw [nnK_ptr]
      refine lx hb1.blk rfl ?_
      refine hb1.sAt hy ?_
      rw [asK_int]
      refine cond_c (fun hp => ?_) (fun hp => ⟨?_, rfl⟩)
      · have hp' : 0 < y.slots := by simpa using hp
        obtain ⟨u, hu, ho⟩ := hb1.atIt hy
        rw [nnK_ptr]
        refine lx hb1.blk rfl ?_
        refine hb1.items.slAt.rd1 hu ?_
        refine ho.slAt.sl fun _ _ => ?_
        rw [nnK_ptr]
        refine lx hb1.blk rfl ?_
        refine hb1.sAt hy ?_
        rw [asK_int]
        refine ⟨?_, rfl⟩
        have := hrm hp'
        congr 1
        rw [Bool.eq_iff_iff]
        simp [hp'] <;> omega
      · have hp' : ¬ 0 < y.slots := by simpa using hp
        simp [hp']
    · rintro _ _ _ ⟨rfl, rfl⟩
      exact ⟨rfl, k1⟩
  | none =>
    refine cond_f rfl ?_
    refine CallX.use (there_law hb1 e false) ?_
    rintro _ h2 ⟨rfl, k2⟩
    have hb2 := hb1.more k2
    have kk := k1.trans k2
    rw [asB_bool]
    cases hs : sideE xs e false with
    | some k =>
      obtain ⟨i, x, y, rfl, hx, hxc, _, _, hy, _⟩ := side_at hB hs
      refine cond_t rfl ?_
      rw [nnK_ptr]
      refine lx hb2.blk rfl ?_
      refine hb2.own.slAt.rdT E4.len hx rfl ?_
      rw [hxc]
      simp only [yAt_of hy]
      obtain ⟨u, hu, ho⟩ := hb2.atIt hy
      refine ⟨fun r h' => r = .bool (decide (y.items.length = 0) && decide (0 < sendN xs k)) ∧ h' = h2, ?_, ?_⟩
      · rw [nnK_ptr]
        refine lx hb2.blk rfl ?_
        refine hb2.items.slAt.rd1 hu ?_
        refine ho.slAt.sl fun _ _ => ?_
        refine cond_c (fun hl => ?_) (fun hl => ⟨?_, rfl⟩)
        · have hl' : y.items.length = 0 := by simpa using hl
          refine CallX.use (Senders_law hb2 hB.xl k) ?_
          rintro _ _ ⟨rfl, rfl⟩
          rw [asK_int]
          refine ⟨?_, rfl⟩
          simp [hl']
        · have hl' : ¬ y.items.length = 0 := by simpa using hl
          rw [decide_eq_false hl', Bool.false_and]
      · rintro _ _ _ ⟨rfl, rfl⟩
        exact ⟨rfl, kk⟩
    | none => exact cond_f rfl ⟨rfl, kk⟩

def BkR (h : Hp) (b : Nat) (xs : List E4) (ys : List C4) (F : Nat → Prop) : Prop := ∃ w sv jv gv its, Bk h b w sv jv gv xs its ys ∧ F = Fb b w sv jv gv its

theorem BClone_law (hb : Bk h b w sv jv gv xs its ys) (hB : Bd xs ys) (e task : Int) (X : List PanicEntry → Hp → Prop) :
    CallX Try.prog ω n_p_pipewrightref_Book_Clone [.pointer (some ⟨b, 0, none⟩), .int .i64 e, .int .i64 task] h (fun r h' => r = .int .i64 (cloneM xs e task).2 ∧ ∃ F', BkR h' b (cloneM xs e task).1 ys F' ∧ Upd (Fb b w sv jv gv its) F' h h') X := by
  refine C_p_pipewrightref_Book_Clone ω _ _ _ h _ X ?_
  unfold W_p_pipewrightref_Book_Clone
  refine ⟨fun r h' => r = .bool (decide (sideE xs e true = none ∨ task < 0)) ∧ Keep (fun _ => False) h h', ?_, ?_⟩
  · refine CallX.use (there_law hb e true) ?_
    rintro _ h1 ⟨rfl, k1⟩
    rw [asB_bool]
    refine cond_c (fun hs => ⟨?_, k1⟩) (fun hs => ?_)
    · have hs' : sideE xs e true = none := by simpa using hs
      rw [decide_eq_true (.inl hs')]
    · have hs' : ¬ sideE xs e true = none := by
        intro hh
        rw [hh] at hs
        cases hs
      rw [asK_int]
      refine ⟨?_, k1⟩
      congr 1
      rw [Bool.eq_iff_iff]
      simp [hs']
  rintro _ _ h1 ⟨rfl, k1⟩
  have hb1 := hb.more k1
  have hxl := hB.xl
  rw [asB_bool]
  unfold cloneM
  refine cond_c (fun hc => ?_) (fun hc => ?_)
  · have hc' := of_decide_eq_true hc
    cases hs : sideE xs e true with
    | none => exact ⟨rfl, _, ⟨_, _, _, _, _, hb1, rfl⟩, Upd.of k1⟩
    | some k =>
      rw [hs] at hc'
      have ht : task < 0 := by simpa using hc'
      simp only [if_pos ht]
      exact ⟨trivial, _, ⟨_, _, _, _, _, hb1, rfl⟩, Upd.of k1⟩
  · have hc' := of_decide_eq_false hc
    cases hs : sideE xs e true with
    | none => exact absurd (.inl hs) hc'
    | some k =>
      have ht : ¬ task < 0 := fun hh => hc' (.inr hh)
      obtain ⟨i, x, y, rfl, hx, hxc, _, _, hy, _⟩ := side_at hB hs
      simp only [if_neg ht]
      rw [nnK_ptr]
      refine lx hb1.blk rfl ?_
      rw [nnK_ptr]
      refine lx hb1.blk rfl ?_
      refine hb1.own.slAt.rdT E4.len hx rfl ?_
      rw [hxc, oneK_int, oneK_int]
      refine ⟨trivial, lx' (hb1.more (Keep.push _ _)).blk rfl, ?_⟩
      refine fieldApp (bt := 32) (tb := 32) (m := 1) (j := 0) (cs := E4.f ⟨k, true, task, 0⟩) (by kernel_rfl) (by decide) hb1.blk hb1.own rfl (E4.one _) (by omega) (by omega) (by simp) fun w2 h2 ho2 hb2 k2 hv => ?_
      have hbk := hb1.setW (w' := w2) (xs' := xs ++ [⟨k, true, task, 0⟩]) k2 hb2 (by simpa using ho2)
      have u2 := hb1.updW (w' := w2) k2 hv
      rw [nnK_ptr]
      refine lx hbk.blk rfl ?_
      refine hbk.own.slAt.sl fun _ _ => ?_
      refine ⟨?_, _, ⟨_, _, _, _, _, hbk, rfl⟩, (Upd.of k1).trans u2⟩
      rw [i64_in (by simp <;> omega) (by simp <;> omega)]
      simp
end
end Go.Proofs.Ytipgilfbhceknaa
