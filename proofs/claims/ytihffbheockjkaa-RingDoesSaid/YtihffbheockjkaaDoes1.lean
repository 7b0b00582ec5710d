/- Slots, Clear and SameInts at numbers. -/
import Derived.Test.YtihffbheockjkaaRingI
import Derived.Test.YtihffbheockjkaaKeeps
namespace Go.Proofs.Ytihffbheockjkaa
open Go Go.Sx Go.Proofs.Ytihffbheockjkaa.Sx
section
variable {ω : Amb} {h : Hp} {b slots : Nat} {g : Option Nat} {xs : List Value}

theorem Slots_int (hr : RingintR h b g slots xs) (X : List PanicEntry → Hp → Prop) :
    CallX Try.prog ω n_p_ring_Ring_int_Slots [.pointer (some ⟨b, 0, none⟩)] h (fun v h' => v = .int .i64 slots ∧ h' = h) X := by
  refine C_p_ring_Ring_int_Slots ω _ h _ X ?_
  unfold W_p_ring_Ring_int_Slots
  obtain ⟨_, _, ⟨rfl, rfl, h2⟩ | ⟨G, m, f, cur, rfl, h2, h3, _⟩⟩ := hr <;>
  · simp [cellH_block h2]

theorem Clear_int (hr : RingintR h b g slots xs) (hl : xs.length ≤ 1000000000) (X : List PanicEntry → Hp → Prop) :
    CallX Try.prog ω n_p_ring_Ring_int_Clear [.pointer (some ⟨b, 0, none⟩)] h (fun v h' => OwnH h' h.size 3 1 v xs.length xs ∧ RingintR h' b g slots [] ∧ Keep (fun k => k = b ∨ g = some k) h h') X := by
  refine C_p_ring_Ring_int_Clear ω _ h _ X ?_
  unfold W_p_ring_Ring_int_Clear
  refine CallX.use (All_int hr hl) fun v h1 ⟨hown, k1⟩ => ?_
  rw [asPo_ptr]
  have hr1 := hr.keep k1 (by simp) (by simp)
  refine ⟨fun h' => OwnH h' h.size 3 1 v xs.length xs ∧ RingintR h' b g slots [] ∧ Keep (fun k => k = b ∨ g = some k) h h', ?_, fun _ _ hj => hj⟩
  refine cond_t rfl ?_
  have hz : clearK Try.prog 23 h1 = fun x K => asSl x fun a n _ => match a with
      | none => K (.tuple #[]) h1
      | some a => storeK h1 a (zeroRow [.int .i64 0] n).toList fun h' => K (.tuple #[]) h' := by kernel_rfl
  obtain ⟨hone, hsl, ⟨rfl, rfl, hb⟩ | ⟨G, m, f, cur, rfl, hb, hg, hcs, hfm, hxm, hmb, hget⟩⟩ := hr1
  · simp only [cellH_block hb, ld, hz]
    refine storeK1_of hb (by simp) ?_
    simp only [st]
    refine storeK1_of (hp_set_same hb) (by simp) ?_
    simp only [st]
    have hlt := hr.lt.1
    refine ⟨hown.keep fun k hk hk2 => ?_, ⟨hone, hsl, .inl ⟨rfl, rfl, hp_set_same (hp_set_same hb)⟩⟩, ?_⟩
    · have := (hown.lt k hk).1
      rw [Array.getElem?_setIfInBounds_ne (by omega), Array.getElem?_setIfInBounds_ne (by omega)]
    · exact ((k1.mono (S' := fun k => k = b ∨ none = some k) (by simp)).trans (Keep.set _ (.inl rfl))).trans (Keep.set _ (.inl rfl))
  · have hne := RingintR.ne hr
    simp only [cellH_block hb, ld, hz]
    rw [zeroRow_one]
    refine storeK_of hg (by simp; omega) ?_
    have hb2 := hp_set_ne (b := G) (o := .cells (spl cur 0 (Array.replicate m (Value.int .i64 0)).toList) 3 (0, 0)) hb hne
    refine storeK1_of hb2 (by simp) ?_
    simp only [st]
    refine storeK1_of (hp_set_same hb2) (by simp) ?_
    simp only [st]
    have hlt := hr.lt
    refine ⟨hown.keep fun k hk hk2 => ?_, ⟨by simp, hsl, .inr ⟨G, m, 0, _, rfl, hp_set_same (hp_set_same hb2), hp_set_ne (hp_set_ne (hp_set_same hg) (Ne.symm hne)) (Ne.symm hne), ?_, by omega, by simp, hmb, by simp⟩⟩, ?_⟩
    · have := (hown.lt k hk).1
      have := hlt.2 G rfl
      have := hlt.1
      rw [Array.getElem?_setIfInBounds_ne (by omega), Array.getElem?_setIfInBounds_ne (by omega), Array.getElem?_setIfInBounds_ne (by omega)]
    · rw [spl_size (by simp; omega)]; exact hcs
    · exact (((k1.mono (S' := fun k => k = b ∨ some G = some k) (by simp)).trans (Keep.set _ (.inr rfl))).trans (Keep.set _ (.inl rfl))).trans (Keep.set _ (.inl rfl))

theorem Same_int {va vb : Value} {n : Nat} (ha : SlAt h 1 va n xs) (hb : SlAt h 1 vb n xs) (hi : ∀ u ∈ xs, ∃ m, u = .int .i64 m) (hn : n ≤ 1000000000) (X : List PanicEntry → Hp → Prop) :
    CallX Try.prog ω n_pipewrightref_SameInts [va, vb] h (fun v h' => v = .bool true ∧ h' = h) X := by
  refine C_pipewrightref_SameInts ω _ _ h _ X ?_
  unfold W_pipewrightref_SameInts
  have hl : xs.length = n := by simpa using ha.1
  refine ha.sl fun _ _ => hb.sl fun _ _ => cond_f (by simp) ?_
  refine ⟨fun i h' => ∃ k : Nat, k ≤ n ∧ i = .int .i64 k ∧ h' = h, fun i _ => match i with | .int _ k => n - k.toNat | _ => 0, ⟨0, Nat.zero_le _, rfl, rfl⟩, ?_⟩
  rintro i d h' ⟨k, hk, rfl, rfl⟩
  refine ha.sl fun _ _ => ?_
  simp only [asK_int, asI_int]
  refine cond_c (fun hlt => ?_) (fun _ => ⟨trivial, trivial⟩)
  have hlt : k < n := by simpa using hlt
  have hx : xs[k]? = some xs[k] := List.getElem?_eq_getElem (by omega)
  refine ha.rd1 hx (hb.rd1 hx ?_)
  obtain ⟨m, hm⟩ := hi _ (List.getElem_mem (by omega : k < xs.length))
  rw [hm, asK_int, asK_int]
  refine cond_f (by simp) ?_
  have hw : IntKind.wrap .i64 ((k : Int) + 1) = ((k + 1 : Nat) : Int) := by rw [i64_in (by omega) (by omega)]; omega
  rw [hw]
  exact ⟨⟨k + 1, by omega, rfl, trivial⟩, by simp; omega⟩
end
end Go.Proofs.Ytihffbheockjkaa
