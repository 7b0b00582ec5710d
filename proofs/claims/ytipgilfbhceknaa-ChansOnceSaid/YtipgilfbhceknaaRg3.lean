/- The ring of items: Put, Take, Clear. -/
import Derived.Test.YtipgilfbhceknaaRg2
namespace Go.Proofs.Ytipgilfbhceknaa
open Go Go.Sx Go.Proofs.Ytipgilfbhceknaa.Sx
section
variable {ω : Amb} {h h' : Hp} {b slots : Nat} {g : Option Nat} {xs : List It}

theorem spl_it (z x : It) : spl z.f.toArray 0 x.f = x.f.toArray := spl_all (z := z.f.toArray) (cs := x.f) rfl

theorem rgPut (hr : Rg h b g slots xs) (hl : xs.length ≤ 999999999) (hnf : ¬ (0 < slots ∧ xs.length = slots)) (x : It) (X : List PanicEntry → Hp → Prop) :
    CallX Try.prog ω n_p_ring_Ring_api_Item_Put [.pointer (some ⟨b, 0, none⟩), .agg x.f.toArray] h (fun v h' => v = .bool true ∧ ∃ g', Rg h' b g' slots (xs ++ [x]) ∧ Keep (fun k => k = b ∨ g = some k) h h' ∧ (∀ G, g' = some G → g = some G ∨ h.size ≤ G)) X := by
  refine C_p_ring_Ring_api_Item_Put ω _ _ h _ X ?_
  unfold W_p_ring_Ring_api_Item_Put
  have kp : Keep (fun _ => False) h (h.push (.cells x.f.toArray 74 (0, 0))) := Keep.push _ _
  have hr1 := hr.more kp
  have hnew : (h.push (.cells x.f.toArray 74 (0, 0)))[h.size]? = some (.cells x.f.toArray 74 (0, 0)) := hp_push_new
  refine ⟨fun v h' => v = .bool false ∧ h' = h.push (.cells x.f.toArray 74 (0, 0)), ?_, ?_⟩
  · rw [asPo_ptr]
    refine cond_f rfl (CallX.use (rgFull hr1) fun v h' ⟨e1, e2⟩ => ⟨?_, e2⟩)
    rw [e1]
    congr 1
    rw [Bool.and_eq_false_iff]
    simp only [decide_eq_false_iff_not]
    by_cases h0 : 0 < slots
    · exact .inr fun e => hnf ⟨h0, e⟩
    · exact .inl h0
  rintro _ _ _ ⟨rfl, rfl⟩
  rw [asB_bool]
  refine cond_f rfl ?_
  refine CallX.use (rgGrow hr1 (by omega)) fun _ h1 ⟨G, m, f, row, hx, hlm, k1, hG⟩ => ?_
  have hlt := hr.lt
  have hne := hx.ne
  have hfm := hx.fm
  have hmb := hx.mb
  have hsz := hx.size
  have hG2 : g = some G ∨ h.size ≤ G := by
    rcases hG with rfl | hG
    · exact .inl rfl
    · simp at hG; exact .inr (by omega)
  have hGs : G ≠ h.size := by
    rcases hG with rfl | hG
    · have := hlt.2 G rfl; omega
    · simp at hG; omega
  have hw : IntKind.wrap .i64 ((f : Int) + xs.length) = ((f + xs.length : Nat) : Int) := by rw [i64_in (by omega) (by omega)]; omega
  have hmod : Int.tmod ((f + xs.length : Nat) : Int) (m : Int) = (((f + xs.length) % m : Nat) : Int) := by rw [← Int.ofNat_tmod]
  have hmlt : (f + xs.length) % m < m := Nat.mod_lt _ (by omega)
  have hw1 : IntKind.wrap .i64 ((xs.length : Int) + 1) = (((xs ++ [x]).length : Nat) : Int) := by rw [i64_in (by omega) (by omega)]; simp
  rw [nnK_ptr]
  refine lx hx.blk rfl ?_
  rw [nnK_ptr]
  refine lx hx.blk rfl ?_
  rw [nnK_ptr]
  refine lx hx.blk rfl ?_
  rw [asK_int, asK_int, nnK_ptr]
  refine lx hx.blk rfl ?_
  rw [asSl_sl, hw, hmod]
  refine ⟨by omega, x.f, cellsH_blk (k1.get hnew (by omega)) rfl, ?_⟩
  rw [asSl1_sl]
  refine ⟨by omega, by omega, rfl, x.one, ?_⟩
  rw [addr_add, Int.toNat_natCast, Nat.zero_add]
  have hfl := flat_len It.len row
  refine storeK_of (cs := x.f) hx.buf (by rw [List.size_toArray, hfl, It.len]; omega) ?_
  rw [flat_spl It.len (by omega)]
  have hb2 := hp_set_ne (b := G) (o := .cells ((row.set ((f + xs.length) % m) x).flatMap It.f).toArray 74 (0, 0)) hx.blk hne
  rw [nnK_ptr]
  refine lx hb2 rfl ?_
  rw [asK_int, nnK_ptr, asP_some, hw1, addr_add]
  refine storeK1_of hb2 (by simp) ?_
  simp only [st]
  refine ⟨trivial, some G, ⟨hr.1, .inr ⟨G, m, f, _, rfl, hp_set_same hb2, hp_set_ne (hp_set_same hx.buf) (Ne.symm hne), by simpa using hsz, hfm, by simp; omega, hmb, ?_⟩⟩, ?_, ?_⟩
  · intro i y hy
    by_cases hi : i < xs.length
    · rw [List.getElem?_append_left hi] at hy
      rw [List.getElem?_set_ne (mod_ne hfm (by omega) (by omega) (by omega))]
      exact hx.get i y hy
    · have hi2 : i = xs.length := by
        have := (List.getElem?_eq_some_iff.1 hy).1
        simp at this; omega
      subst hi2
      simp at hy
      subst hy
      rw [List.getElem?_set_self (by omega)]
  · refine (((kp.mono (S' := fun k => k = b ∨ g = some k) (by simp)).newer (k1.mono (fun k _ hk => .inl (.inl hk)))).newer (Keep.set _ ?_)).newer (Keep.set _ (.inl (.inl rfl)))
    exact hG2.imp .inr id
  · intro G' e
    cases e
    exact hG2

theorem rgTake (hr : Rg h b g slots xs) (X : List PanicEntry → Hp → Prop) :
    CallX Try.prog ω n_p_ring_Ring_api_Item_Take [.pointer (some ⟨b, 0, none⟩)] h (fun v h' =>
      (xs = [] → v = .tuple #[.agg It.zero.f.toArray, .bool false] ∧ Keep (fun _ => False) h h') ∧
      (∀ x r, xs = x :: r → v = .tuple #[.agg x.f.toArray, .bool true] ∧ Rg h' b g slots r ∧ Keep (fun k => k = b ∨ g = some k) h h')) X := by
  refine C_p_ring_Ring_api_Item_Take ω _ h _ X ?_
  unfold W_p_ring_Ring_api_Item_Take
  have k1 : Keep (fun _ => False) h (h.push (.cells It.zero.f.toArray 74 (0, 0))) := Keep.push _ _
  have hn1 : (h.push (.cells It.zero.f.toArray 74 (0, 0)))[h.size]? = some (.cells It.zero.f.toArray 74 (0, 0)) := hp_push_new
  have hz1 : (h.push (.cells It.zero.f.toArray 74 (0, 0))).size = h.size + 1 := by simp
  change ∃ β0 : Bool, _ ∧ _
  have e1 : (h.push (.cells #[(.int .i64 0), (.int .i64 0)] 74 (0, 0))) = (h.push (.cells It.zero.f.toArray 74 (0, 0))) := rfl
  rw [e1]
  generalize (h.push (.cells It.zero.f.toArray 74 (0, 0))) = h1 at *
  have k2 : Keep (fun _ => False) h (h1.push (.cells It.zero.f.toArray 74 (0, 0))) := k1.trans (Keep.push _ _)
  have hn2 : (h1.push (.cells It.zero.f.toArray 74 (0, 0)))[h1.size]? = some (.cells It.zero.f.toArray 74 (0, 0)) := hp_push_new
  have hn1' : (h1.push (.cells It.zero.f.toArray 74 (0, 0)))[h.size]? = some (.cells It.zero.f.toArray 74 (0, 0)) := hp_push_old hn1
  have e2 : (h1.push (.cells #[(.int .i64 0), (.int .i64 0)] 74 (0, 0))) = (h1.push (.cells It.zero.f.toArray 74 (0, 0))) := rfl
  rw [e2]
  generalize (h1.push (.cells It.zero.f.toArray 74 (0, 0))) = h2 at *
  have hr2 := hr.more k2
  have hlt := hr.lt
  obtain ⟨f0, sl0, hb0⟩ := hr2.blk
  refine ⟨decide (xs.length = 0), ?_, fun _ => ?_⟩
  · rw [asPo_ptr]
    refine cond_f rfl ?_
    rw [nnK_ptr]
    refine lx hb0 rfl ?_
    rw [asK_int]
    refine ⟨?_, rfl⟩
    congr 1
    rw [Bool.eq_iff_iff]
    simp
  rw [hz1] at *
  cases xs with
  | nil =>
    refine cond_t (by simp) ⟨It.zero.f, cellsH_blk hn2 rfl, rfl, It.zero.one, ?_⟩
    refine storeK_of (cs := It.zero.f) hn1' (by simp [It.f]) ?_
    rw [spl_it]
    refine ⟨It.zero.f, cellsH_blk (hp_set_same hn1') rfl, ?_⟩
    refine ⟨fun _ => ⟨rfl, k2.newer (Keep.set _ (.inr (Nat.le_refl _)))⟩, by simp⟩
  | cons x r =>
    refine cond_f (by simp) ?_
    obtain ⟨hsl, ⟨_, h1, _⟩ | ⟨G, m, f, row, rfl, hx⟩⟩ := id hr2
    · cases h1
    have hne := hx.ne
    have hfm := hx.fm
    have hmb := hx.mb
    have hsz := hx.size
    have hxm := hx.xm
    have hGl := hlt.2 G rfl
    have hbl := hlt.1
    have hx0 := hx.get 0 x rfl
    rw [Nat.add_zero, Nat.mod_eq_of_lt hfm] at hx0
    have hfl := flat_len It.len row
    rw [nnK_ptr]
    refine lx hx.blk rfl ?_
    rw [nnK_ptr]
    refine lx hx.blk rfl ?_
    rw [nnK_ptr]
    refine lx hx.blk rfl ?_
    rw [nnK_ptr]
    refine lx hx.blk rfl ?_
    have hrd := fun K hK => hx.slAt.rdS (K := K) It.len hx0 hK
    rw [asSl1_sl, asI_int]
    have hrd2 := hrd (fun C => C = x.f) rfl
    rw [asSl1_sl] at hrd2
    obtain ⟨_, _, C, hC, rfl⟩ := hrd2
    refine ⟨by omega, by omega, x.f, hC, It.zero.f, cellsH_blk hn2 rfl, rfl, x.one, ?_⟩
    refine storeK_of (cs := x.f) hn2 (by simp [It.f]) ?_
    rw [spl_it]
    have b3 := hp_set_ne (b := h.size + 1) (o := .cells x.f.toArray 74 (0, 0)) hx.blk (by omega)
    have g3 := hp_set_ne (b := h.size + 1) (o := .cells x.f.toArray 74 (0, 0)) hx.buf (by omega)
    have t3 := hp_set_same (o := .cells x.f.toArray 74 (0, 0)) hn2
    have s3 := hp_set_ne (b := h.size + 1) (o := .cells x.f.toArray 74 (0, 0)) hn1' (by omega)
    have k3 := k2.newer (Keep.set (S := fun k => False ∨ h.size ≤ k) (h := h2) (b := h.size + 1) (.cells x.f.toArray 74 (0, 0)) (.inr (by omega)))
    generalize h2.setIfInBounds (h.size + 1) (.cells x.f.toArray 74 (0, 0)) = h3 at *
    refine ⟨lx' b3 rfl, lx' b3 rfl, ?_⟩
    rw [asSl1_sl, asI_int]
    refine ⟨by omega, by omega, rfl, It.zero.one, ?_⟩
    rw [addr_add, Int.toNat_natCast, Nat.zero_add]
    refine storeK_of (cs := It.zero.f) g3 (by rw [List.size_toArray, hfl, It.len]; omega) ?_
    rw [flat_spl It.len (by omega)]
    have b4 := hp_set_ne (b := G) (o := .cells ((row.set f It.zero).flatMap It.f).toArray 74 (0, 0)) b3 hne
    have g4 := hp_set_same (o := .cells ((row.set f It.zero).flatMap It.f).toArray 74 (0, 0)) g3
    have t4 := hp_set_ne (b := G) (o := .cells ((row.set f It.zero).flatMap It.f).toArray 74 (0, 0)) t3 (by omega)
    have s4 := hp_set_ne (b := G) (o := .cells ((row.set f It.zero).flatMap It.f).toArray 74 (0, 0)) s3 (by omega)
    have k4 := (k3.mono (S' := fun k => k = b ∨ some G = some k) (by simp)).newer (Keep.set (h := h3) (b := G) (.cells ((row.set f It.zero).flatMap It.f).toArray 74 (0, 0)) (.inl (.inr rfl)))
    generalize h3.setIfInBounds G (.cells ((row.set f It.zero).flatMap It.f).toArray 74 (0, 0)) = h4 at *
    rw [nnK_ptr]
    refine lx b4 rfl ?_
    rw [asK_int, nnK_ptr]
    refine lx b4 rfl ?_
    have hw : IntKind.wrap .i64 ((f : Int) + 1) = ((f + 1 : Nat) : Int) := by rw [i64_in (by omega) (by omega)]; omega
    have hmod : Int.tmod ((f + 1 : Nat) : Int) (m : Int) = (((f + 1) % m : Nat) : Int) := by rw [← Int.ofNat_tmod]
    rw [asSl_sl, hw, hmod]
    refine ⟨by omega, ?_⟩
    rw [nnK_ptr, asP_some, addr_add]
    refine storeK1_of b4 (by simp) ?_
    simp only [st]
    have b5 := hp_set_same (o := .cells (List.toArray [.int .i64 slots, .int .i64 ((f + 1) % m : Nat), .int .i64 (x :: r).length, .slice (some ⟨G, 0, none⟩) m m]) 92 (0, 0)) b4
    have g5 := hp_set_ne (b := b) (o := .cells (List.toArray [.int .i64 slots, .int .i64 ((f + 1) % m : Nat), .int .i64 (x :: r).length, .slice (some ⟨G, 0, none⟩) m m]) 92 (0, 0)) g4 (by omega)
    have t5 := hp_set_ne (b := b) (o := .cells (List.toArray [.int .i64 slots, .int .i64 ((f + 1) % m : Nat), .int .i64 (x :: r).length, .slice (some ⟨G, 0, none⟩) m m]) 92 (0, 0)) t4 (by omega)
    have s5 := hp_set_ne (b := b) (o := .cells (List.toArray [.int .i64 slots, .int .i64 ((f + 1) % m : Nat), .int .i64 (x :: r).length, .slice (some ⟨G, 0, none⟩) m m]) 92 (0, 0)) s4 (by omega)
    have k5 := k4.newer (Keep.set (h := h4) (b := b) (.cells (List.toArray [.int .i64 slots, .int .i64 ((f + 1) % m : Nat), .int .i64 (x :: r).length, .slice (some ⟨G, 0, none⟩) m m]) 92 (0, 0)) (.inl (.inl rfl)))
    generalize h4.setIfInBounds b (.cells (List.toArray [.int .i64 slots, .int .i64 ((f + 1) % m : Nat), .int .i64 (x :: r).length, .slice (some ⟨G, 0, none⟩) m m]) 92 (0, 0)) = h5 at *
    rw [nnK_ptr]
    refine lx b5 rfl ?_
    have hw1 : IntKind.wrap .i64 (((x :: r).length : Nat) - 1 : Int) = ((r.length : Nat) : Int) := by rw [i64_in (by simp only [List.length_cons]; omega) (by omega)]; simp
    rw [asK_int, nnK_ptr, asP_some, hw1, addr_add]
    refine storeK1_of b5 (by simp) ?_
    simp only [st]
    have b6 := hp_set_same (o := .cells (List.toArray [.int .i64 slots, .int .i64 ((f + 1) % m : Nat), .int .i64 r.length, .slice (some ⟨G, 0, none⟩) m m]) 92 (0, 0)) b5
    have g6 := hp_set_ne (b := b) (o := .cells (List.toArray [.int .i64 slots, .int .i64 ((f + 1) % m : Nat), .int .i64 r.length, .slice (some ⟨G, 0, none⟩) m m]) 92 (0, 0)) g5 (by omega)
    have t6 := hp_set_ne (b := b) (o := .cells (List.toArray [.int .i64 slots, .int .i64 ((f + 1) % m : Nat), .int .i64 r.length, .slice (some ⟨G, 0, none⟩) m m]) 92 (0, 0)) t5 (by omega)
    have s6 := hp_set_ne (b := b) (o := .cells (List.toArray [.int .i64 slots, .int .i64 ((f + 1) % m : Nat), .int .i64 r.length, .slice (some ⟨G, 0, none⟩) m m]) 92 (0, 0)) s5 (by omega)
    have k6 := k5.newer (Keep.set (h := h5) (b := b) (.cells (List.toArray [.int .i64 slots, .int .i64 ((f + 1) % m : Nat), .int .i64 r.length, .slice (some ⟨G, 0, none⟩) m m]) 92 (0, 0)) (.inl (.inl rfl)))
    generalize h5.setIfInBounds b (.cells (List.toArray [.int .i64 slots, .int .i64 ((f + 1) % m : Nat), .int .i64 r.length, .slice (some ⟨G, 0, none⟩) m m]) 92 (0, 0)) = h6 at *
    refine ⟨x.f, cellsH_blk t6 rfl, rfl, x.one, ?_⟩
    refine storeK_of (cs := x.f) s6 (by simp [It.f]) ?_
    rw [spl_it]
    refine ⟨x.f, cellsH_blk (hp_set_same s6) rfl, by simp, fun y s hy => ?_⟩
    cases hy
    refine ⟨rfl, ⟨hsl, .inr ⟨G, m, (f + 1) % m, row.set f It.zero, rfl, hp_set_ne b6 (by omega), hp_set_ne g6 (by omega), by simpa using hsz, Nat.mod_lt _ (by omega), by simp at hxm; omega, hmb, ?_⟩⟩, ?_⟩
    · intro i y hy
      have hi := (List.getElem?_eq_some_iff.1 hy).1
      simp at hxm
      have hy2 := hx.get (i + 1) y (by simpa using hy)
      have e : ((f + 1) % m + i) % m = (f + (i + 1)) % m := by rw [Nat.mod_add_mod]; congr 1; omega
      rw [e, List.getElem?_set_ne ?_]
      · exact hy2
      · have := mod_ne (i := 0) (j := i + 1) hfm (by omega) (by omega) (by omega)
        rw [Nat.add_zero, Nat.mod_eq_of_lt hfm] at this
        exact this
    · exact k6.newer (Keep.set _ (.inr (Nat.le_refl _)))

theorem rgClear (hr : Rg h b g slots xs) (hl : xs.length ≤ 1000000000) (X : List PanicEntry → Hp → Prop) :
    CallX Try.prog ω n_p_ring_Ring_api_Item_Clear [.pointer (some ⟨b, 0, none⟩)] h (fun v h' => OwnH h' h.size 74 2 v xs.length (fi xs) ∧ Rg h' b g slots [] ∧ Keep (fun k => k = b ∨ g = some k) h h') X := by
  refine C_p_ring_Ring_api_Item_Clear ω _ h _ X ?_
  unfold W_p_ring_Ring_api_Item_Clear
  refine CallX.use (rgAll hr hl) fun v h1 ⟨hown, k1⟩ => ?_
  rw [asPo_ptr]
  have hr1 := hr.more k1
  refine ⟨fun h' => OwnH h' h.size 74 2 v xs.length (fi xs) ∧ Rg h' b g slots [] ∧ Keep (fun k => k = b ∨ g = some k) h h', ?_, fun _ _ hj => hj⟩
  refine cond_t rfl ?_
  have hz : clearK Try.prog 63 h1 = fun x K => asSl x fun a n _ => match a with
      | none => K (.tuple #[]) h1
      | some a => storeK h1 a (zeroRow It.zero.f n).toList fun h' => K (.tuple #[]) h' := by kernel_rfl
  have hlt := hr.lt
  obtain ⟨hsl, ⟨rfl, rfl, hb⟩ | ⟨G, m, f, row, rfl, hx⟩⟩ := hr1
  · rw [nnK_ptr]
    refine lx hb rfl ?_
    rw [hz]
    simp only [asSl_sl]
    rw [nnK_ptr, asP_some, addr_add]
    refine storeK1_of hb (by simp) ?_
    simp only [st]
    rw [nnK_ptr, asP_some, addr_add]
    refine storeK1_of (hp_set_same hb) (by simp) ?_
    simp only [st]
    refine ⟨hown.keep fun k hk hk2 => ?_, ⟨hsl, .inl ⟨rfl, rfl, hp_set_same (hp_set_same hb)⟩⟩, ?_⟩
    · have := (hown.lt k hk).1
      rw [Array.getElem?_setIfInBounds_ne (by omega), Array.getElem?_setIfInBounds_ne (by omega)]
    · exact ((k1.mono (S' := fun k => k = b ∨ none = some k) (by simp)).trans (Keep.set _ (.inl rfl))).trans (Keep.set _ (.inl rfl))
  · have hne := hx.ne
    have hfm := hx.fm
    have hG := hlt.2 G rfl
    have hbl := hlt.1
    have hsz := hx.size
    have hfl := flat_len It.len row
    rw [nnK_ptr]
    refine lx hx.blk rfl ?_
    rw [hz]
    simp only [asSl_sl]
    have hzr : zeroRow It.zero.f m = (fi (List.replicate m It.zero)).toArray := zeroRow_flat It.len _ _
    have hfr := flat_len It.len (List.replicate m It.zero)
    rw [List.length_replicate] at hfr
    rw [hzr]
    refine storeK_of (cs := fi (List.replicate m It.zero)) hx.buf (by rw [List.size_toArray, hfl, hfr]; omega) ?_
    rw [spl_all (by rw [List.size_toArray, hfl, hfr]; omega)]
    have hb2 := hp_set_ne (b := G) (o := .cells (fi (List.replicate m It.zero)).toArray 74 (0, 0)) hx.blk hne
    rw [nnK_ptr, asP_some, addr_add]
    refine storeK1_of hb2 (by simp) ?_
    simp only [st]
    rw [nnK_ptr, asP_some, addr_add]
    refine storeK1_of (hp_set_same hb2) (by simp) ?_
    simp only [st]
    refine ⟨hown.keep fun k hk hk2 => ?_, ⟨hsl, .inr ⟨G, m, 0, List.replicate m It.zero, rfl, hp_set_same (hp_set_same hb2), hp_set_ne (hp_set_ne (hp_set_same hx.buf) (Ne.symm hne)) (Ne.symm hne), by simp, by omega, by simp, hx.mb, by simp⟩⟩, ?_⟩
    · have := (hown.lt k hk).1
      rw [Array.getElem?_setIfInBounds_ne (by omega), Array.getElem?_setIfInBounds_ne (by omega), Array.getElem?_setIfInBounds_ne (by omega)]
    · exact (((k1.mono (S' := fun k => k = b ∨ some G = some k) (by simp)).trans (Keep.set _ (.inr rfl))).trans (Keep.set _ (.inl rfl))).trans (Keep.set _ (.inl rfl))
end
end Go.Proofs.Ytipgilfbhceknaa
