/- The ring of items: contracts. -/
import Derived.Test.YtipgilfbhceknaaLedger5
namespace Go.Proofs.Ytipgilfbhceknaa
open Go Go.Sx Go.Proofs.Ytipgilfbhceknaa.Sx

structure It where
  n : Int
  e : Int
def It.f (x : It) : List Value := [.int .i64 x.n, .int .i64 x.e]
theorem It.len (x : It) : x.f.length = 2 := rfl
theorem It.one (x : It) : ∀ u ∈ x.f, one u := by
  intro u hu
  simp only [It.f, List.mem_cons, List.not_mem_nil, or_false] at hu
  rcases hu with rfl | rfl <;> rfl
def It.zero : It := ⟨0, 0⟩
abbrev fi (xs : List It) : List Value := xs.flatMap It.f

/-- a ring with its buffer -/
structure RgX (h : Hp) (b G m f : Nat) (row : List It) (slots : Nat) (xs : List It) : Prop where
  blk : h[b]? = some (.cells (List.toArray [.int .i64 slots, .int .i64 (f : Nat), .int .i64 xs.length, .slice (some ⟨G, 0, none⟩) m m]) 92 (0, 0))
  buf : h[G]? = some (.cells (fi row).toArray 74 (0, 0))
  size : row.length = m
  fm : f < m
  xm : xs.length ≤ m
  mb : m ≤ 1099511627776
  get : ∀ i x, xs[i]? = some x → row[(f + i) % m]? = some x
/-- a ring at block b: its slots, its things, the block that they lie in -/
def Rg (h : Hp) (b : Nat) (g : Option Nat) (slots : Nat) (xs : List It) : Prop :=
  0 ≤ slots ∧
  ((g = none ∧ xs = [] ∧ h[b]? = some (.cells (List.toArray [.int .i64 slots, .int .i64 (0 : Nat), .int .i64 (0 : Nat), .slice none 0 0]) 92 (0, 0))) ∨ ∃ G m f row, g = some G ∧ RgX h b G m f row slots xs)

section
variable {ω : Amb} {h h' : Hp} {b slots : Nat} {g : Option Nat} {xs : List It}
theorem RgX.ne {G m f : Nat} {row : List It} (hx : RgX h b G m f row slots xs) : b ≠ G := ty_ne hx.blk hx.buf (by decide)
theorem RgX.slAt {G m f : Nat} {row : List It} (hx : RgX h b G m f row slots xs) : SlAt h 2 (.slice (some ⟨G, 0, none⟩) m m) row.length (fi row) :=
  ⟨flat_len It.len _, .inr ⟨G, 0, m, by rw [hx.size], fun j u hu => by rw [cellH_block hx.buf, Nat.zero_add]; simpa using hu⟩⟩
theorem RgX.keep {G m f : Nat} {row : List It} (hx : RgX h b G m f row slots xs) {S : Nat → Prop} (hk : Keep S h h') (hb : ¬ S b) (hg : ¬ S G) : RgX h' b G m f row slots xs :=
  { hx with blk := hk.get hx.blk hb, buf := hk.get hx.buf hg }
theorem Rg.blk (hr : Rg h b g slots xs) : ∃ (f : Nat) (sl : Value), h[b]? = some (.cells (List.toArray [.int .i64 slots, .int .i64 (f : Nat), .int .i64 xs.length, sl]) 92 (0, 0)) := by
  obtain ⟨_, ⟨rfl, rfl, h2⟩ | ⟨G, m, f, row, rfl, hx⟩⟩ := hr
  · exact ⟨0, _, h2⟩
  · exact ⟨f, _, hx.blk⟩
theorem Rg.lt (hr : Rg h b g slots xs) : b < h.size ∧ ∀ G, g = some G → G < h.size := by
  obtain ⟨_, ⟨rfl, _, h2⟩ | ⟨G, m, f, cur, rfl, hx⟩⟩ := hr
  · exact ⟨hp_lt h2, by simp⟩
  · exact ⟨hp_lt hx.blk, by intro G' hG; cases hG; exact hp_lt hx.buf⟩
theorem Rg.keep (hr : Rg h b g slots xs) {S : Nat → Prop} (hk : Keep S h h') (hb : ¬ S b) (hg : ∀ G, g = some G → ¬ S G) : Rg h' b g slots xs := by
  obtain ⟨hs, ⟨rfl, h2, h3⟩ | ⟨G, m, f, row, rfl, hx⟩⟩ := hr
  · exact ⟨hs, .inl ⟨rfl, h2, hk.get h3 hb⟩⟩
  · exact ⟨hs, .inr ⟨G, m, f, row, rfl, hx.keep hk hb (hg G rfl)⟩⟩
theorem Rg.more (hr : Rg h b g slots xs) (hk : Keep (fun _ => False) h h') : Rg h' b g slots xs := hr.keep hk (by simp) (by simp)

theorem rgNew (n : Int) (h : Hp) (X : List PanicEntry → Hp → Prop) :
    CallX Try.prog ω n_ring_New_api_Item [.int .i64 n] h (fun v h' => v = .pointer (some ⟨h.size, 0, none⟩) ∧ h'.size = h.size + 1 ∧ Keep (fun _ => False) h h' ∧ Rg h' h.size none n.toNat []) X := by
  refine C_ring_New_api_Item ω _ h _ X ?_
  unfold W_ring_New_api_Item
  rw [asK_int]
  have hn : (if (0 : Int) > n then (0 : Int) else n) = (n.toNat : Int) := by split <;> omega
  rw [hn]
  exact ⟨rfl, by simp, Keep.push _ _, by omega, .inl ⟨rfl, rfl, hp_push_new⟩⟩

theorem rgLen (hr : Rg h b g slots xs) (X : List PanicEntry → Hp → Prop) :
    CallX Try.prog ω n_p_ring_Ring_api_Item_Len [.pointer (some ⟨b, 0, none⟩)] h (fun v h' => v = .int .i64 xs.length ∧ h' = h) X := by
  refine C_p_ring_Ring_api_Item_Len ω _ h _ X ?_
  unfold W_p_ring_Ring_api_Item_Len
  obtain ⟨f, sl, hb⟩ := hr.blk
  rw [asPo_ptr]
  refine cond_f rfl ?_
  rw [nnK_ptr]
  exact ⟨_, by rw [addr_add, cellH_block hb]; rfl, rfl, rfl⟩
theorem rgSlots (hr : Rg h b g slots xs) (X : List PanicEntry → Hp → Prop) :
    CallX Try.prog ω n_p_ring_Ring_api_Item_Slots [.pointer (some ⟨b, 0, none⟩)] h (fun v h' => v = .int .i64 slots ∧ h' = h) X := by
  refine C_p_ring_Ring_api_Item_Slots ω _ h _ X ?_
  unfold W_p_ring_Ring_api_Item_Slots
  obtain ⟨f, sl, hb⟩ := hr.blk
  rw [asPo_ptr]
  refine cond_f rfl ?_
  rw [nnK_ptr]
  exact ⟨_, by rw [addr_add, cellH_block hb]; rfl, rfl, rfl⟩
theorem rgFull (hr : Rg h b g slots xs) (X : List PanicEntry → Hp → Prop) :
    CallX Try.prog ω n_p_ring_Ring_api_Item_Full [.pointer (some ⟨b, 0, none⟩)] h (fun v h' => v = .bool (decide (0 < slots) && decide (xs.length = slots)) ∧ h' = h) X := by
  refine C_p_ring_Ring_api_Item_Full ω _ h _ X ?_
  unfold W_p_ring_Ring_api_Item_Full
  refine ⟨fun v h' => v = .bool (decide (0 < slots) && decide (xs.length = slots)) ∧ h' = h, ?_, fun _ _ _ hj => hj⟩
  obtain ⟨f, sl, hb⟩ := hr.blk
  simp only [cellH_block hb, ld]
  refine cond_t rfl (cond_c (fun hs => ?_) (fun hs => ⟨?_, trivial⟩))
  · have hs' : 0 < slots := by simpa using hs
    refine ⟨?_, trivial⟩
    simp only [hs', decide_true, Bool.true_and, Value.bool.injEq]
    rw [Bool.eq_iff_iff]
    simp <;> omega
  · have hs' : ¬ 0 < slots := by simpa using hs
    simp only [hs', decide_false, Bool.false_and]

theorem rgAll (hr : Rg h b g slots xs) (hl : xs.length ≤ 1000000000) (X : List PanicEntry → Hp → Prop) :
    CallX Try.prog ω n_p_ring_Ring_api_Item_All [.pointer (some ⟨b, 0, none⟩)] h (fun v h' => OwnH h' h.size 74 2 v xs.length (fi xs) ∧ Keep (fun _ => False) h h') X := by
  refine C_p_ring_Ring_api_Item_All ω _ h _ X ?_
  unfold W_p_ring_Ring_api_Item_All
  obtain ⟨f0, sl0, hb⟩ := hr.blk
  rw [asPo_ptr]
  refine cond_f rfl ?_
  rw [nnK_ptr]
  refine ⟨.int .i64 xs.length, by rw [addr_add, cellH_block hb]; rfl, ?_⟩
  refine ⟨fun v t h' => ∃ k, k ≤ xs.length ∧ t = .int .i64 k ∧ OwnH h' h.size 74 2 v k (fi (xs.take k)) ∧ Keep (fun _ => False) h h',
    fun _ t _ => match t with | .int _ k => xs.length - k.toNat | _ => 0, ⟨0, Nat.zero_le _, rfl, by simpa using OwnH.nil, Keep.refl _ _⟩, ?_⟩
  rintro out t d h1 ⟨k, hk, rfl, hown, hkeep⟩
  rw [asK_int, asK_int]
  refine cond_c (fun hlt => ?_) (fun hge => ?_)
  · have hlt : k < xs.length := by simpa using hlt
    obtain ⟨_, ⟨rfl, rfl, h2⟩ | ⟨G, m, f, row, rfl, hx⟩⟩ := hr
    · simp at hlt
    · have hx1 := hx.keep hkeep (by simp) (by simp)
      have hxk := List.getElem?_eq_getElem hlt
      have htk : xs.take (k + 1) = xs.take k ++ [xs[k]] := List.take_succ_eq_append_getElem hlt
      generalize xs[k] = x at hxk htk
      have hfm := hx.fm
      have hxm := hx.xm
      have hmb := hx.mb
      have hw : IntKind.wrap .i64 ((f : Int) + k) = ((f + k : Nat) : Int) := by rw [i64_in (by omega) (by omega)]; omega
      have hmod : Int.tmod ((f + k : Nat) : Int) (m : Int) = (((f + k) % m : Nat) : Int) := by rw [← Int.ofNat_tmod]
      have hc : ∀ j u, ([.int .i64 slots, .int .i64 (f : Nat), .int .i64 xs.length, .slice (some ⟨G, 0, none⟩) m m] : List Value)[j]? = some u → cellH h1 (Addr.add ⟨b, 0, none⟩ j) = some u := fun j u hu => lx' hx1.blk hu
      rw [nnK_ptr]
      refine ⟨_, hc 3 _ rfl, ?_⟩
      rw [nnK_ptr]
      refine ⟨_, hc 1 _ rfl, ?_⟩
      rw [asK_int, asK_int, nnK_ptr]
      refine ⟨_, hc 3 _ rfl, ?_⟩
      rw [asSl_sl, hw, hmod]
      refine ⟨by omega, hx1.slAt.rdS It.len (hx.get k x hxk) ⟨rfl, ?_⟩⟩
      refine appK_one (bt := 16) (cs := x.f) (by kernel_rfl) hown (It.len x) x.one (by omega) (by omega) hkeep.size fun v' h2 ho hg _ _ => ?_
      rw [asK_int, i64_in (by omega) (by omega)]
      refine ⟨⟨k + 1, by omega, rfl, ?_, ?_⟩, by simp; omega⟩
      · rw [htk]
        simpa [fi] using ho
      · exact hkeep.newer (Keep.grown hg fun i hi hlt => .inr (hown.lt i hi).1)
  · have : k = xs.length := by simp at hge; omega
    subst this
    exact ⟨by simpa using hown, hkeep⟩
end
end Go.Proofs.Ytipgilfbhceknaa
