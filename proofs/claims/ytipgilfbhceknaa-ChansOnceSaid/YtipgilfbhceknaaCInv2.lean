/- ChansOnce: what a step keeps. -/
import Derived.Test.YtipgilfbhceknaaCInv
namespace Go.Proofs.Ytipgilfbhceknaa
open Go Go.Sx Go.Proofs.Ytipgilfbhceknaa.Sx

theorem Inv.less {xs : List E4} {ys : List C4} {i : Nat} {pend : List Nat} (v : Inv xs ys (i :: pend)) : Inv xs ys pend ∧ i ∉ pend ++ ring ys ∧ ∃ x : E4, xs[i]? = some x ∧ x.h = -1 := by
  have hn := v.nd
  rw [List.cons_append, List.nodup_cons] at hn
  exact ⟨⟨v.d, hn.2, fun j hj => v.low j (by rw [List.cons_append]; exact List.mem_cons_of_mem _ hj), v.g, v.u, v.e⟩, hn.1, v.low i (by simp)⟩

def Chan (xs : List E4) (ys : List C4) : Prop := ∀ x ∈ xs, ∃ k : Nat, x.c = k ∧ k < ys.length
theorem Chan.ev {xs xs' : List E4} {ys ys' : List C4} (b : Chan xs ys) (e : Ev xs ys xs' ys') : Chan xs' ys' := fun x hx => by
  obtain ⟨i, hi⟩ := List.mem_iff_getElem?.1 hx
  obtain ⟨z, hz, hc, _⟩ := e.e i x hi
  rw [hc, e.yl]
  exact b z (List.mem_iff_getElem?.2 ⟨i, hz⟩)

theorem fold_inv {m : Nat} (ih : ∀ (i : Nat) (x : E4) (xs : List E4) (ys : List C4) (pend : List Nat), xs[i]? = some x → x.h ≠ -2 → i ∉ pend ++ ring ys → liveN xs ≤ m → Chan xs ys → Inv xs ys pend → Inv (dropM m xs ys i).1 (dropM m xs ys i).2 pend) :
    ∀ (zs : List It) (st : List E4 × List C4) (pend : List Nat), liveN st.1 ≤ m → Chan st.1 st.2 → Inv st.1 st.2 (endsOf zs ++ pend) →
      Inv (zs.foldl (fun st z => dropM m st.1 st.2 z.e) st).1 (zs.foldl (fun st z => dropM m st.1 st.2 z.e) st).2 pend
  | [], _, _, _, _, hv => hv
  | z :: zs, st, pend, hl, hc, hv => by
    rw [List.foldl_cons]
    have ev := drop_ev m st.1 st.2 z.e
    refine fold_inv ih zs _ pend (Nat.le_trans ev.live hl) (hc.ev ev) ?_
    unfold endsOf at hv
    split at hv
    · rename_i hz
      rw [drop_none hz]
      exact hv
    · rename_i hz
      obtain ⟨v1, hni, x, hx, hh⟩ := hv.less
      have he : z.e = (z.e.toNat : Int) := by omega
      rw [he]
      exact ih _ x _ _ _ hx (by omega) hni hl hc v1
theorem drop_inv : ∀ (n : Nat) (i : Nat) (x : E4) (xs : List E4) (ys : List C4) (pend : List Nat), xs[i]? = some x → x.h ≠ -2 → i ∉ pend ++ ring ys → liveN xs ≤ n → Chan xs ys → Inv xs ys pend →
    Inv (dropM n xs ys i).1 (dropM n xs ys i).2 pend := by
  intro n
  induction n with
  | zero =>
    intro i x xs ys pend hx hh hi hl hc hv
    have : goneE xs i = (xs.set i { x with h := -2, d := IntKind.wrap .i64 (x.d + 1) }, x.h != -2) := by
      rw [goneE, atE_in hx, if_pos rfl, Int.toNat_natCast]
    have hg : (goneE xs i).2 = true := by rw [this]; simpa using hh
    have := gone_live hg
    omega
  | succ n ih =>
    intro i x xs ys pend hx hh hi hl hc hv
    have he : goneE xs i = (xs.set i { x with h := -2, d := IntKind.wrap .i64 (x.d + 1) }, x.h != -2) := by
      rw [goneE, atE_in hx, if_pos rfl, Int.toNat_natCast]
    have hg : (goneE xs i).2 = true := by rw [he]; simpa using hh
    have hgl := gone_live hg
    have hd0 : x.d = 0 := by
      have := hv.d i x hx
      rwa [if_neg hh] at this
    have hd1 : IntKind.wrap .i64 (x.d + 1) = 1 := by rw [hd0]; decide
    rw [dropM, atE_in hx]
    by_cases hs : x.s = true
    · rw [if_neg (by simp [hs]), he]
      exact hv.setE hx rfl rfl (.inl hi) (by rw [hd1, if_pos rfl]) (fun h0 => by rw [hs] at h0; cases h0)
    · have hs' : x.s = false := by simpa using hs
      rw [if_pos ⟨hg, hs'⟩]
      obtain ⟨k, hk, hkl⟩ := hc x (List.mem_iff_getElem?.2 ⟨i, hx⟩)
      have hy := List.getElem?_eq_getElem hkl
      generalize ys[k] = y at hy
      simp only [hk, Int.toNat_natCast, yAt_of hy]
      have hk2 := hv.kill (x' := { x with h := -2, d := IntKind.wrap .i64 (x.d + 1) }) hx hy hk rfl rfl hs' hi rfl hd1
      have ev := (gone_ev xs ys i).trans (clear_ev (goneE xs i).1 ys k)
      rw [yAt_of hy] at ev
      refine fold_inv ih y.items ((goneE xs i).1, ys.set k { y with gone := true, items := [] }) pend (by simp only; omega) (hc.ev ev) ?_
      rw [he]
      exact hk2

section
variable {n : Nat} {xs : List E4} {ys : List C4}
theorem ring_app {ys : List C4} {k : Nat} {y : C4} (hy : ys[k]? = some y) (z : It) : (ring (ys.set k { y with items := y.items ++ [z] })).Perm (endsOf [z] ++ ring ys) := by
  obtain ⟨R, h1, h2⟩ := ring_set hy
  have h2 := h2 { y with items := y.items ++ [z] }
  refine h2.trans ((List.Perm.trans ?_ (h1.append_left _).symm))
  simp only [endsOf_app]
  rw [List.append_assoc, ← List.append_assoc, ← List.append_assoc]
  exact List.Perm.append_right _ List.perm_append_comm
theorem Inv.setY {pend : List Nat} (v : Inv xs ys pend) {k : Nat} {y y' : C4} (hy : ys[k]? = some y) (hg : y'.gone = y.gone) (hi : y.gone = true → y'.items = []) (hn : (pend ++ ring (ys.set k y')).Nodup) (hl : ∀ i ∈ pend ++ ring (ys.set k y'), ∃ x : E4, xs[i]? = some x ∧ x.h = -1) :
    Inv xs (ys.set k y') pend := by
  refine ⟨v.d, hn, hl, fun i q x w hx h1 h2 hw => ?_, v.u, fun q w hw hg' => ?_⟩
  · rcases set_get hw with ⟨rfl, rfl, _⟩ | ⟨_, hw⟩
    · rw [hg]
      exact v.g i k x y hx h1 h2 hy
    · exact v.g i q x w hx h1 h2 hw
  · rcases set_get hw with ⟨rfl, rfl, _⟩ | ⟨_, hw⟩
    · exact hi (by rw [← hg]; exact hg')
    · exact v.e q w hw hg'

theorem make_inv (g : Good n xs ys) (v : Inv xs ys []) (slots task : Int) : Inv (makeM xs ys slots task).1 (makeM xs ys slots task).2.1 [] := by
  unfold makeM
  split
  · exact v
  · rename_i ht
    have hring : ring (ys ++ [⟨slots.toNat, false, []⟩]) = ring ys := by simp [ring, endsOf]
    have at_ : ∀ (i : Nat) (x : E4), (xs ++ [⟨ys.length, true, task, 0⟩, ⟨ys.length, false, task, 0⟩] : List E4)[i]? = some x → xs[i]? = some x ∨ (i = xs.length ∧ x = ⟨ys.length, true, task, 0⟩) ∨ (i = xs.length + 1 ∧ x = ⟨ys.length, false, task, 0⟩) := by
      intro i x hx
      by_cases hi : i < xs.length
      · rw [List.getElem?_append_left hi] at hx
        exact .inl hx
      · rw [List.getElem?_append_right (by omega)] at hx
        match hm : i - xs.length with
        | 0 => rw [hm] at hx; simp at hx; exact .inr (.inl ⟨by omega, hx.symm⟩)
        | 1 => rw [hm] at hx; simp at hx; exact .inr (.inr ⟨by omega, hx.symm⟩)
        | k + 2 => rw [hm] at hx; simp at hx
    have chan : ∀ (i : Nat) (x : E4), xs[i]? = some x → ∃ k : Nat, x.c = k ∧ k < ys.length := fun i x hx => g.chan x (List.mem_iff_getElem?.2 ⟨i, hx⟩)
    refine ⟨fun i x hx => ?_, by rw [hring]; exact v.nd, fun i hi => ?_, fun i k x y hx hs hk hy => ?_, fun i j x x' hx hx' hs hs' hc => ?_, fun k y hy hg => ?_⟩
    · rcases at_ i x hx with hx | ⟨_, rfl⟩ | ⟨_, rfl⟩
      · exact v.d i x hx
      · simp only; rw [if_neg (by omega)]
      · simp only; rw [if_neg (by omega)]
    · rw [hring] at hi
      obtain ⟨x, hx, hh⟩ := v.low i hi
      exact ⟨x, by rw [List.getElem?_append_left (List.getElem?_eq_some_iff.1 hx).1]; exact hx, hh⟩
    · rcases at_ i x hx with hx | ⟨_, rfl⟩ | ⟨_, rfl⟩
      · obtain ⟨k', h1, h2⟩ := chan i x hx
        have : k' = k := by omega
        subst this
        rw [List.getElem?_append_left h2] at hy
        exact v.g i k' x y hx hs hk hy
      · cases hs
      · simp only at hk
        have : k = ys.length := by omega
        subst this
        simp at hy
        subst hy
        simp only
        constructor
        · intro h; cases h
        · intro h; omega
    · rcases at_ i x hx with hx | ⟨_, rfl⟩ | ⟨hi, rfl⟩
      · rcases at_ j x' hx' with hx' | ⟨_, rfl⟩ | ⟨_, rfl⟩
        · exact v.u i j x x' hx hx' hs hs' hc
        · cases hs'
        · obtain ⟨k', h1, h2⟩ := chan i x hx
          simp only at hc
          omega
      · cases hs
      · rcases at_ j x' hx' with hx' | ⟨_, rfl⟩ | ⟨hj, rfl⟩
        · obtain ⟨k', h1, h2⟩ := chan j x' hx'
          simp only at hc
          omega
        · cases hs'
        · omega
    · by_cases hk : k < ys.length
      · rw [List.getElem?_append_left hk] at hy
        exact v.e k y hy hg
      · rw [List.getElem?_append_right (by omega)] at hy
        match hm : k - ys.length with
        | 0 => rw [hm] at hy; simp at hy; rw [← hy]
        | q + 1 => rw [hm] at hy; simp at hy

theorem clone_inv (v : Inv xs ys []) (e task : Int) : Inv (cloneM xs e task).1 ys [] := by
  unfold cloneM
  split
  · exact v
  · rename_i k hs
    split
    · exact v
    · rename_i ht
      have at_ : ∀ (i : Nat) (x : E4), (xs ++ [⟨k, true, task, 0⟩] : List E4)[i]? = some x → xs[i]? = some x ∨ x = ⟨k, true, task, 0⟩ := by
        intro i x hx
        by_cases hi : i < xs.length
        · rw [List.getElem?_append_left hi] at hx
          exact .inl hx
        · rw [List.getElem?_append_right (by omega)] at hx
          match hm : i - xs.length with
          | 0 => rw [hm] at hx; simp at hx; exact .inr hx.symm
          | q + 1 => rw [hm] at hx; simp at hx
      refine ⟨fun i x hx => ?_, v.nd, fun i hi => ?_, fun i k x y hx hs hk hy => ?_, fun i j x x' hx hx' hs hs' hc => ?_, v.e⟩
      · rcases at_ i x hx with hx | rfl
        · exact v.d i x hx
        · simp only; rw [if_neg (by omega)]
      · obtain ⟨x, hx, hh⟩ := v.low i hi
        exact ⟨x, by rw [List.getElem?_append_left (List.getElem?_eq_some_iff.1 hx).1]; exact hx, hh⟩
      · rcases at_ i x hx with hx | rfl
        · exact v.g i k x y hx hs hk hy
        · cases hs
      · rcases at_ i x hx with hx | rfl
        · rcases at_ j x' hx' with hx' | rfl
          · exact v.u i j x x' hx hx' hs hs' hc
          · cases hs'
        · cases hs

theorem move_at {i : Nat} {x : E4} {home : Int} (hx : xs[i]? = some x) (hh : x.h ≠ -2) (hm : -1 ≤ home) : (moveE xs i home).1 = xs.set i { x with h := home } := by
  rw [moveE, atE_in hx, if_pos ⟨rfl, hm, hh⟩, Int.toNat_natCast]

theorem put_inv (g : Good n xs ys) (v : Inv xs ys []) (e : Int) (x : It) : Inv (putM xs ys e x).1 (putM xs ys e x).2.1 [] := by
  unfold putM
  split
  · exact v
  · rename_i k hs
    split
    · exact v
    · obtain ⟨y, hy⟩ := g.side hs
      rw [yAt_of hy]
      split
      · split
        · exact v
        · rename_i he hg
          have hp := ring_app hy ⟨x.n, -1⟩
          simp only [endsOf, if_pos (show (-1 : Int) < 0 by omega), List.nil_append] at hp
          exact v.setY hy rfl (fun h => absurd h hg) (hp.symm.nodup v.nd) (fun i hi => v.low i (hp.subset hi))
      · rename_i he
        split
        · exact v
        · rename_i hq
          obtain ⟨i, z, hzi, hil, hz, ha⟩ : ∃ (i : Nat) (z : E4), x.e = i ∧ i < xs.length ∧ xs[i]? = some z ∧ atE xs x.e = (z, true) := by
            rcases atE_cases xs x.e with ⟨_, ha⟩ | hh
            · exact absurd (.inl (by rw [ha])) hq
            · exact hh
          have hh : ¬ z.h < 0 := by
            intro hh
            refine hq (.inr (.inl ?_))
            rw [ha]
            exact hh
          have hni : i ∉ ring ys := by
            intro hi
            obtain ⟨w, hw, hwh⟩ := v.low i hi
            rw [hz] at hw
            cases hw
            omega
          split
          · rw [hzi]
            exact drop_inv _ i z xs ys [] hz (by omega) hni (Nat.le_refl _) g.chan v
          · rename_i hg
            rw [hzi, move_at hz (by omega) (by omega)]
            have hd := v.d i z hz
            rw [if_neg (by omega)] at hd
            have v1 := v.setE (x' := { z with h := -1 }) hz rfl rfl (.inr rfl) (by simp only; rw [if_neg (by omega)]; exact hd) (fun _ => by simp only; omega)
            have hp := ring_app hy ⟨0, (i : Int)⟩
            simp only [endsOf, if_neg (show ¬ ((i : Int) < 0) by omega), Int.toNat_natCast] at hp
            refine v1.setY hy rfl (fun h => absurd h hg) (hp.symm.nodup ?_) (fun j hj => ?_)
            · exact List.nodup_cons.2 ⟨hni, v.nd⟩
            · have hj' := hp.subset hj
              rcases List.mem_cons.1 hj' with rfl | hj'
              · exact ⟨_, List.getElem?_set_self hil, rfl⟩
              · exact v1.low j hj'

theorem take_inv (g : Good n xs ys) (v : Inv xs ys []) (e task : Int) : Inv (takeM xs ys e task).1 (takeM xs ys e task).2.1 [] := by
  unfold takeM
  split
  · exact v
  · rename_i k hs
    split
    · exact v
    · rename_i hw
      split
      · exact v
      · rename_i z r hi
        obtain ⟨y, hy⟩ := g.side hs
        rw [yAt_of hy] at hi ⊢
        obtain ⟨R, h1, h2⟩ := ring_set hy
        have h2 := h2 { y with items := r }
        rw [hi] at h1
        have hg : ¬ y.gone = true := by
          intro hg
          rw [v.e k y hy hg] at hi
          cases hi
        unfold endsOf at h1
        split at h1
        · rename_i hz
          have hm : (moveE xs z.e task).1 = xs := moveE_f (by rw [moveE, atE_out (.inl hz), if_neg (by simp)])
          rw [hm]
          have hp := h2.trans h1.symm
          exact v.setY hy rfl (fun h => absurd h hg) (hp.symm.nodup v.nd) (fun i hi => v.low i (hp.subset hi))
        · rename_i hz
          have hp : (ring ys).Perm (z.e.toNat :: ring (ys.set k { y with items := r })) := h1.trans (List.Perm.cons _ h2.symm)
          have hnd := hp.nodup v.nd
          rw [List.nodup_cons] at hnd
          obtain ⟨x, hx, hh⟩ := v.low z.e.toNat (hp.symm.subset (List.mem_cons_self ..))
          have hze : z.e = (z.e.toNat : Int) := by omega
          have v1 : Inv xs (ys.set k { y with items := r }) [] := v.setY hy rfl (fun h => absurd h hg) hnd.2 (fun i hi => v.low i (hp.symm.subset (List.mem_cons_of_mem _ hi)))
          rw [hze, move_at hx (by omega) (by omega)]
          have hd := v.d _ x hx
          rw [if_neg (by omega)] at hd
          exact v1.setE (x' := { x with h := task }) hx rfl rfl (.inl hnd.1) (by simp only; rw [if_neg (by omega)]; exact hd) (fun _ => by simp only; omega)

theorem step_inv (g : Good n xs ys) (v : Inv xs ys []) (x : S5) (hd : 8 ≤ kind x.d → (atE xs x.e).2 = true ∧ 0 ≤ (atE xs x.e).1.h) : Inv (stepM xs ys x).1 (stepM xs ys x).2 [] := by
  have hk : 0 ≤ kind x.d ∧ kind x.d < 10 := by
    have h1 : 0 ≤ IntKind.wrap .u64 x.d := by unfold IntKind.wrap; exact Int.emod_nonneg _ (by decide)
    unfold kind
    have h2 := Int.tmod_nonneg 10 h1
    have h3 := Int.tmod_lt_of_pos (IntKind.wrap .u64 x.d) (show (0 : Int) < 10 by omega)
    rw [i64_in (by omega) (by omega)]
    exact ⟨h2, h3⟩
  unfold stepM
  split
  · exact make_inv g v _ _
  split
  · exact clone_inv v _ _
  split
  · exact put_inv g v _ _
  split
  · exact take_inv g v _ _
  · obtain ⟨h1, h2⟩ := hd (by omega)
    rcases atE_cases xs x.e with ⟨_, ha⟩ | ⟨i, z, hi, _, hz, ha⟩
    · rw [ha] at h1; cases h1
    · rw [ha] at h2
      simp only at h2
      rw [hi]
      refine drop_inv _ i z xs ys [] hz (by omega) (fun hi => ?_) (Nat.le_refl _) g.chan v
      obtain ⟨w, hw, hwh⟩ := v.low i hi
      rw [hz] at hw
      cases hw
      omega
end

/-- who was dropped stays so; nobody else turns -/
def Sinks (xs xs' : List E4) : Prop := ∀ (i : Nat) (x' : E4), xs'[i]? = some x' → ∃ x : E4, xs[i]? = some x ∧ (x'.h = x.h ∨ x'.h = -2)
theorem Sinks.trans {a b c : List E4} (h : Sinks a b) (k : Sinks b c) : Sinks a c := fun i x hx => by
  obtain ⟨y, hy, h1⟩ := k i x hx
  obtain ⟨z, hz, h2⟩ := h i y hy
  refine ⟨z, hz, ?_⟩
  rcases h1 with h1 | h1
  · rw [h1]; exact h2
  · exact .inr h1
theorem gone_sinks (xs : List E4) (e : Int) : Sinks xs (goneE xs e).1 := by
  cases ha : (atE xs e).2 with
  | false =>
    rw [goneE_f ha]
    exact fun i x hx => ⟨x, hx, .inl rfl⟩
  | true =>
    obtain ⟨i, x, rfl, hx, _, _, he⟩ := goneE_t ha
    rw [he]
    intro j z hz
    rcases set_get hz with ⟨rfl, rfl, _⟩ | ⟨_, hz⟩
    · exact ⟨x, hx, .inr rfl⟩
    · exact ⟨z, hz, .inl rfl⟩
theorem fold_sinks {n : Nat} (ih : ∀ xs ys e, Sinks xs (dropM n xs ys e).1) : ∀ (l : List It) (st : List E4 × List C4), Sinks st.1 (l.foldl (fun st z => dropM n st.1 st.2 z.e) st).1
  | [], _ => fun _ x hx => ⟨x, hx, .inl rfl⟩
  | _ :: l, _ => (ih _ _ _).trans (fold_sinks ih l _)
theorem drop_after : ∀ n xs ys e, Sinks (goneE xs e).1 (dropM n xs ys e).1
  | 0, xs, ys, e => fun _ x hx => ⟨x, hx, .inl rfl⟩
  | n + 1, xs, ys, e => by
    rw [dropM]
    split
    · exact fold_sinks (n := n) (fun xs ys e => (gone_sinks xs e).trans (drop_after n xs ys e)) (yAt ys (atE xs e).1.c.toNat).items ((goneE xs e).1, _)
    · exact fun _ x hx => ⟨x, hx, .inl rfl⟩
theorem drop_sinks (n : Nat) (xs : List E4) (ys : List C4) (e : Int) : Sinks xs (dropM n xs ys e).1 := (gone_sinks xs e).trans (drop_after n xs ys e)
end Go.Proofs.Ytipgilfbhceknaa
