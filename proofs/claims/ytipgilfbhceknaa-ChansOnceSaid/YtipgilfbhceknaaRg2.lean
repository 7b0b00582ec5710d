/- The ring of items: what turns it. -/
import Derived.Test.YtipgilfbhceknaaRg
namespace Go.Proofs.Ytipgilfbhceknaa
open Go Go.Sx Go.Proofs.Ytipgilfbhceknaa.Sx
section
variable {ω : Amb} {h h' : Hp} {b slots : Nat} {g : Option Nat} {xs : List It}

theorem rgGrow (hr : Rg h b g slots xs) (hl : xs.length ≤ 1000000000) (X : List PanicEntry → Hp → Prop) :
    CallX Try.prog ω n_p_ring_Ring_api_Item_grow [.pointer (some ⟨b, 0, none⟩)] h (fun _ h' => ∃ G m f row, RgX h' b G m f row slots xs ∧ xs.length < m ∧ Keep (fun k => k = b) h h' ∧ (g = some G ∨ h.size ≤ G)) X := by
  refine C_p_ring_Ring_api_Item_grow ω _ h _ X ?_
  unfold W_p_ring_Ring_api_Item_grow
  have hb : ∃ (f : Nat) (sl : Value) (sa : Option Addr) (m : Nat), h[b]? = some (.cells (List.toArray [.int .i64 slots, .int .i64 (f : Nat), .int .i64 xs.length, sl]) 92 (0, 0)) ∧ sl = .slice sa m m ∧
      ((m : Nat) = 0 ∧ xs = [] ∨ ∃ G row, g = some G ∧ sa = some ⟨G, 0, none⟩ ∧ RgX h b G m f row slots xs) := by
    obtain ⟨_, ⟨rfl, rfl, h2⟩ | ⟨G, m, f, row, rfl, hx⟩⟩ := hr
    · exact ⟨0, _, _, _, h2, rfl, .inl ⟨rfl, rfl⟩⟩
    · exact ⟨f, _, _, _, hx.blk, rfl, .inr ⟨G, row, rfl, rfl, hx⟩⟩
  obtain ⟨f, sl, sa, m, hb, rfl, hcase⟩ := hb
  rw [nnK_ptr]
  refine lx hb rfl ?_
  rw [nnK_ptr]
  refine lx hb rfl ?_
  rw [asSl_sl, asK_int]
  refine cond_c (fun hlt => ?_) (fun hlt => ?_)
  · rcases hcase with ⟨rfl, rfl⟩ | ⟨G, row, rfl, rfl, hx⟩
    · simp at hlt
    · exact ⟨G, m, f, row, hx, by simpa using hlt, Keep.refl _ _, .inl rfl⟩
  · rw [nnK_ptr]
    refine lx hb rfl ?_
    rw [asK_int]
    have hn : IntKind.wrap .i64 (IntKind.wrap .i64 (2 * (xs.length : Int)) + 2) = ((2 * xs.length + 2 : Nat) : Int) := by
      rw [i64_in (n := 2 * (xs.length : Int)) (by omega) (by omega), i64_in (by omega) (by omega)]; omega
    rw [hn]
    refine makeK_of (show appFacts Try.prog 63 = some (74, 2, 16) by kernel_rfl) (z := It.zero.f) (show zeroOf Try.prog 74 = some It.zero.f by kernel_rfl) (by omega) (by omega) (by omega) ?_
    have hzr : zeroRow It.zero.f (2 * xs.length + 2) = (fi (List.replicate (2 * xs.length + 2) It.zero)).toArray := zeroRow_flat It.len _ _
    rw [Int.toNat_natCast, hzr]
    have k1 : Keep (fun _ => False) h (h.push (.cells (fi (List.replicate (2 * xs.length + 2) It.zero)).toArray 74 (0, 0))) := Keep.push _ _
    have r1 := hr.more k1
    refine CallX.use (rgAll r1 hl) fun v h2 ⟨hown, k2⟩ => ?_
    have hbuf := k2.get (hp_push_new (h := h) (o := .cells (fi (List.replicate (2 * xs.length + 2) It.zero)).toArray 74 (0, 0))) (by simp)
    have hfl := flat_len It.len xs
    have hfr := flat_len It.len (List.replicate (2 * xs.length + 2) It.zero)
    rw [List.length_replicate] at hfr
    refine copyK_of (show appFacts Try.prog 63 = some (74, 2, 16) by kernel_rfl) hown (by omega) (fun u hu => by obtain ⟨e, _, hu⟩ := List.mem_flatMap.1 hu; exact e.one u hu) hbuf (by rw [List.size_toArray, Nat.zero_add, hfl, hfr]; omega) ?_
    have hspl : spl (fi (List.replicate (2 * xs.length + 2) It.zero)).toArray 0 (fi xs) = (fi (xs ++ List.replicate (xs.length + 2) It.zero)).toArray := by
      have := flat_drop It.len (List.replicate (2 * xs.length + 2) It.zero) xs.length
      simp only [spl, List.take_zero, List.nil_append, Nat.zero_add]
      rw [hfl, this, List.drop_replicate, show 2 * xs.length + 2 - xs.length = xs.length + 2 by omega, ← List.flatMap_append]
    rw [hspl]
    have hb2 := k2.get (k1.get hb (by simp)) (by simp)
    have hlt := hp_lt hb
    have hb3 := hp_set_ne (b := h.size) (o := .cells (fi (xs ++ List.replicate (xs.length + 2) It.zero)).toArray 74 (0, 0)) hb2 (by omega)
    simp only [ld]
    refine storeK1_of hb3 (by simp) ?_
    simp only [st]
    refine storeK1_of (hp_set_same hb3) (by simp) ?_
    simp only [st]
    refine ⟨h.size, 2 * xs.length + 2, 0, xs ++ List.replicate (xs.length + 2) It.zero, ⟨?_, ?_, ?_, by omega, by omega, by omega, ?_⟩, by omega, ?_, .inr (Nat.le_refl _)⟩
    · exact hp_set_same (hp_set_same hb3)
    · exact hp_set_ne (hp_set_ne (hp_set_same hbuf) (by omega)) (by omega)
    · simp; omega
    · intro i x hx
      have hi := (List.getElem?_eq_some_iff.1 hx).1
      rw [Nat.zero_add, Nat.mod_eq_of_lt (by omega), List.getElem?_append_left hi]
      exact hx
    · exact ((((k1.mono (S' := fun k => k = b) (by simp)).trans (k2.mono (by simp))).newer (Keep.set _ (.inr (Nat.le_refl _)))).trans (Keep.set _ rfl)).trans (Keep.set _ rfl)

theorem mod_ne {f m i j : Nat} (hf : f < m) (hi : i < m) (hj : j < m) (hne : i ≠ j) : (f + i) % m ≠ (f + j) % m := by
  have h4 : (f + i) % m = if f + i < m then f + i else f + i - m := by
    split
    · exact Nat.mod_eq_of_lt ‹_›
    · rw [Nat.mod_eq_sub_mod (by omega), Nat.mod_eq_of_lt (by omega)]
  have h5 : (f + j) % m = if f + j < m then f + j else f + j - m := by
    split
    · exact Nat.mod_eq_of_lt ‹_›
    · rw [Nat.mod_eq_sub_mod (by omega), Nat.mod_eq_of_lt (by omega)]
  rw [h4, h5]
  split <;> split <;> omega
end
end Go.Proofs.Ytipgilfbhceknaa
