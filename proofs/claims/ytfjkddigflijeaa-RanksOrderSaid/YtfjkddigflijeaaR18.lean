/- Ranks: a matrix of truths. -/
import Derived.Test.YtfjkddigflijeaaR17
namespace Go.Proofs.Ytfjkddigflijeaa
open Go Go.Sx Go.Sx.Pa Go.Sx.Ra Go.Proofs.Ytfjkddigflijeaa.Sx

theorem OwnH.keepW' {h h' : Hp} {base n sz : Nat} {t : TypeId} {v : Value} {ys : List Value} (ho : OwnH h base t sz v n ys) {S : Nat → Prop} (hk : Keep S h h') (hn : ∀ k, v.ownBlock = some k → ¬ S k) : OwnH h' base t sz v n ys :=
  ho.keep fun k hk' hlt => hk.block k hlt (hn k hk')
def bv (g : Nat → Bool) (n : Nat) : List Value := (List.range n).map fun b => .bool (g b)
theorem bv_len (g : Nat → Bool) (n : Nat) : (bv g n).length = n := by simp [bv]
theorem bv_at {g : Nat → Bool} {n b : Nat} (hb : b < n) : (bv g n)[b]? = some (.bool (g b)) := by
  unfold bv
  rw [List.getElem?_map, List.getElem?_range hb]
  rfl
theorem bv_zero (n : Nat) : (bv (fun _ => false) n).toArray = Array.replicate n (Value.bool false) := by
  apply Array.ext'
  unfold bv
  rw [List.map_const', List.length_range]
  simp
theorem bv_set {g : Nat → Bool} {n b : Nat} (hb : b < n) : (bv g n).set b (.bool true) = bv (fun c => g c || decide (c = b)) n := by
  refine List.ext_getElem? fun c => ?_
  by_cases hc : c < n
  · rw [bv_at hc]
    by_cases he : c = b
    · subst he
      rw [List.getElem?_set_self (by rw [bv_len]; exact hc)]
      simp
    · rw [List.getElem?_set_ne (fun e => he e.symm), bv_at hc]
      simp [he]
  · rw [List.getElem?_eq_none (by rw [List.length_set, bv_len]; omega), List.getElem?_eq_none (by rw [bv_len]; omega)]
theorem bv_congr {g g' : Nat → Bool} {n : Nat} (h : ∀ c, c < n → g c = g' c) : bv g n = bv g' n := by
  unfold bv
  refine List.map_congr_left fun c hc => ?_
  rw [h c (List.mem_range.1 hc)]

/-- rows of truths, all of one's own and apart; those from i on are not yet there -/
structure Mx (h : Hp) (base : Nat) (v : Value) (n i : Nat) (f : Nat → Nat → Bool) (vals : List Value) : Prop where
  own : OwnH h base 37 1 v n vals
  row : ∀ (k : Nat) (w : Value), k < i → vals[k]? = some w → OwnH h base 4 1 w n (bv (f k) n)
  dis : ∀ (k k' : Nat) (w w' : Value), k < i → k' < i → k ≠ k' → vals[k]? = some w → vals[k']? = some w' → ∀ b, w.ownBlock = some b → w'.ownBlock ≠ some b
theorem Mx.keep {h h' : Hp} {base n i : Nat} {v : Value} {f : Nat → Nat → Bool} {vals : List Value} (m : Mx h base v n i f vals) (k : Keep (fun _ => False) h h') : Mx h' base v n i f vals :=
  ⟨m.own.more k, fun q w hq hw => OwnH.more (m.row q w hq hw) k, m.dis⟩
theorem Mx.congr {h : Hp} {base n i : Nat} {v : Value} {f g : Nat → Nat → Bool} {vals : List Value} (m : Mx h base v n i f vals) (hfg : ∀ a b, a < n → b < n → f a b = g a b) (hi : i ≤ n) : Mx h base v n i g vals :=
  ⟨m.own, fun q w hq hw => by
    rw [← bv_congr (fun c hc => hfg q c (by omega) hc)]
    exact m.row q w hq hw, m.dis⟩
theorem blkT {h : Hp} {base n sz : Nat} {t : TypeId} {v : Value} {ys : List Value} (ho : OwnH h base t sz v n ys) {b : Nat} (hb : v.ownBlock = some b) : ∃ c, h[b]? = some (.cells c t (0, 0)) := by
  rcases ho.2 with ⟨rfl, _⟩ | ⟨g, o, cap, cur, rfl, hb', hg, _⟩
  · cases hb
  · cases hb
    exact ⟨cur, hg⟩
theorem Mx.put {h : Hp} {base n i : Nat} {v : Value} {f : Nat → Nat → Bool} {vals : List Value} (m : Mx h base v n i f vals) (hf : ∀ b, f i b = false) (hi : i < n) (hn : n ≤ 1000) (hb : base ≤ h.size) {K : Hp → Prop}
    (hk : ∀ h', (∃ vals', Mx h' base v n (i + 1) f vals') → Keep (fun b => base ≤ b) h h' → K h') :
    asSl1 v fun a l _ => 0 ≤ (i : Int) ∧ (i : Int) < (l : Int) ∧ storeK1 (Array.push h (.cells (Array.replicate n (Value.bool false)) 4 (0, 0))) (Addr.add a (Int.toNat (i : Int) * 1)) (.slice (some ⟨h.size, 0, none⟩) n n) K := by
  have kp := Keep.push (S := fun _ => False) h (.cells (Array.replicate n (Value.bool false)) 4 (0, 0))
  have hu : OwnH (Array.push h (.cells (Array.replicate n (Value.bool false)) 4 (0, 0))) base 4 1 (.slice (some ⟨h.size, 0, none⟩) n n) n (bv (fun _ => false) n) := by
    refine ownBlk (by rw [bv_zero]; exact hp_push_new) (by rw [bv_len, Nat.mul_one]) (by simp only [maxLen]; omega) hb
  have m1 := m.keep kp
  have hold := m.own
  generalize Array.push h (.cells (Array.replicate n (Value.bool false)) 4 (0, 0)) = h1 at *
  refine ownStore1 m1.own hi fun h2 ho2 k2 => hk h2 ⟨vals.set i (.slice (some ⟨h.size, 0, none⟩) n n), ho2, fun q w hq hw => ?_, fun q q' w w' hq hq' hne hw hw' b hb1 hb2 => ?_⟩ ?_
  · have hapart : ∀ {x : Value} {xs : List Value}, OwnH h1 base 4 1 x n xs → OwnH h2 base 4 1 x n xs := fun hx => OwnH.keepW' hx k2 fun b hb1 hb2 => by
      obtain ⟨c, hc⟩ := blkT hx hb1
      obtain ⟨c', hc'⟩ := blkT m1.own hb2
      rw [hc] at hc'
      cases hc'
    rcases set_get hw with ⟨rfl, rfl, _⟩ | ⟨hne, hw⟩
    · rw [bv_congr (fun c _ => hf c)]
      exact hapart hu
    · exact hapart (m1.row q w (by omega) hw)
  · rcases set_get hw with ⟨rfl, rfl, _⟩ | ⟨hne1, hw⟩ <;> rcases set_get hw' with ⟨rfl, rfl, _⟩ | ⟨hne2, hw'⟩
    · exact hne rfl
    · cases hb1
      have := (OwnH.lt (m.row q' w' (by omega) hw') _ hb2).2
      exact absurd (this : h.size < h.size) (Nat.lt_irrefl _)
    · cases hb2
      have := (OwnH.lt (m.row q w (by omega) hw) _ hb1).2
      exact absurd (this : h.size < h.size) (Nat.lt_irrefl _)
    · exact m.dis q q' w w' (by omega) (by omega) hne hw hw' b hb1 hb2
  · exact (kp.mono fun b _ hb => hb.elim).trans (k2.mono fun b _ hb => (hold.lt b hb).1)
theorem Mx.one {h : Hp} {base n : Nat} {v : Value} {f : Nat → Nat → Bool} {vals : List Value} (m : Mx h base v n n f vals) {a b : Nat} {w : Value} (ha : a < n) (hb : b < n) (hw : vals[a]? = some w) {K : Hp → Prop}
    (hk : ∀ h', Mx h' base v n n (fun x y => f x y || (decide (x = a) && decide (y = b))) vals → Keep (fun b => base ≤ b) h h' → K h') :
    asSl1 w fun a l _ => 0 ≤ (b : Int) ∧ (b : Int) < (l : Int) ∧ storeK1 h (Addr.add a (Int.toNat (b : Int) * 1)) (.bool true) K := by
  have hrw := m.row a w ha hw
  refine ownStore1 hrw hb fun h2 ho2 k2 => hk h2 ⟨OwnH.keepW' m.own k2 fun b' h1 h2' => ?_, fun q w' hq hw' => ?_, m.dis⟩ (k2.mono fun b' _ hb' => (OwnH.lt hrw b' hb').1)
  · obtain ⟨c, hc⟩ := blkT hrw h2'
    obtain ⟨c', hc'⟩ := blkT m.own h1
    rw [hc] at hc'
    cases hc'
  · by_cases hqa : q = a
    · subst hqa
      rw [hw] at hw'
      cases hw'
      rw [bv_set hb] at ho2
      rw [bv_congr (g' := fun c => f q c || decide (c = b)) (fun c _ => by simp)]
      exact ho2
    · rw [bv_congr (g' := f q) (fun c _ => by simp [hqa])]
      exact OwnH.keepW' (m.row q w' hq hw') k2 fun b' h1 h2' => m.dis q a w' w hq ha hqa hw' hw b' h1 h2'
theorem Mx.at_ {h : Hp} {base n : Nat} {v : Value} {f : Nat → Nat → Bool} {vals : List Value} (m : Mx h base v n n f vals) {a : Nat} (ha : a < n) : ∃ w, vals[a]? = some w ∧ OwnH h base 4 1 w n (bv (f a) n) := by
  have hl : vals.length = n := by have := m.own.1; omega
  exact ⟨_, List.getElem?_eq_getElem (by omega), m.row a _ ha (List.getElem?_eq_getElem (by omega))⟩
end Go.Proofs.Ytfjkddigflijeaa
