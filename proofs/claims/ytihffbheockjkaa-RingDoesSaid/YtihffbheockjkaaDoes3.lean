/- RingDoes: every call on two rings is as it should be. -/
import Derived.Test.YtihffbheockjkaaDoes2
namespace Go.Proofs.Ytihffbheockjkaa
open Go Go.Sx Go.Proofs.Ytihffbheockjkaa.Sx

def kn (j : Bool) : Nat := bif j then 1 else 0
theorem kn_lt (j : Bool) : kn j < 2 := by cases j <;> decide
section
variable {h1 h : Hp} {RB MB SB : Nat} {bs : Bool → Nat} {gs : Bool → Option Nat} {sl : Bool → Nat} {ms : Bool → Value} {rs xs : Bool → List Value}
theorem DInv.rdR (hi : DInv h1 h RB MB SB bs gs sl ms rs xs) (j : Bool) : cellH h ⟨RB, kn j, none⟩ = some (.pointer (some ⟨bs j, 0, none⟩)) := by
  rw [cellH_block hi.rb]; cases j <;> rfl
theorem DInv.rdM (hi : DInv h1 h RB MB SB bs gs sl ms rs xs) (j : Bool) : cellH h ⟨MB, kn j, none⟩ = some (ms j) := by
  rw [cellH_block hi.mb]; cases j <;> rfl
theorem DInv.rdS (hi : DInv h1 h RB MB SB bs gs sl ms rs xs) (j : Bool) : cellH h ⟨SB, kn j, none⟩ = some (.int .i64 (sl j)) := by
  rw [cellH_block hi.sb]; cases j <;> rfl
end
theorem rd2 {h : Hp} {B : Nat} {j : Bool} {u : Value} {K : Value → Prop} (hc : cellH h ⟨B, kn j, none⟩ = some u) (hk : K u) :
    0 ≤ ((kn j : Nat) : Int) ∧ ((kn j : Nat) : Int) < (2 : Int) ∧ ∃ v, cellH h (Addr.add ⟨B, 0, none⟩ (Int.toNat ((kn j : Nat) : Int) * 1)) = some v ∧ K v := by
  have := kn_lt j
  refine ⟨by omega, by omega, u, ?_, hk⟩
  rw [addr_add, Int.toNat_natCast, Nat.mul_one, Nat.zero_add]
  exact hc

theorem ms_shape {h : Hp} {base n : Nat} {v : Value} {ys : List Value} (ho : OwnH h base 3 1 v n ys) {F : Option Addr → Nat → Nat → Prop} (hf : ∀ a c, n ≤ c → F a n c) : asSl v F := by
  rcases ho.shape with ⟨rfl, rfl, _⟩ | ⟨g, o, cap, rfl, _, _, hc, _⟩
  · exact hf _ _ (Nat.le_refl _)
  · exact hf _ _ hc

/-- a store of a slice into the row of slices -/
theorem storeM {h : Hp} {MB : Nat} {m0 m1 w : Value} {j : Bool} {K : Hp → Prop} (hb : h[MB]? = some (.cells #[m0, m1] 23 (0, 0)))
    (hk : K (h.setIfInBounds MB (.cells #[bif j then m0 else w, bif j then w else m1] 23 (0, 0)))) : storeK1 h (Addr.add ⟨MB, 0, none⟩ (Int.toNat ((kn j : Nat) : Int) * 1)) w K := by
  rw [addr_add, Int.toNat_natCast, Nat.mul_one, Nat.zero_add]
  have := kn_lt j
  refine storeK1_of hb (by simpa using this) ?_
  cases j <;> exact hk
theorem up_pair (ms : Bool → Value) (j : Bool) (w : Value) : (bif j then ms false else w) = up ms j w false ∧ (bif j then w else ms true) = up ms j w true := by cases j <;> exact ⟨rfl, rfl⟩

/-- the tail of a list of one's own -/
theorem OwnH.tail {h : Hp} {base n : Nat} {a : Option Addr} {c : Nat} {y : Value} {ys : List Value} (ho : OwnH h base 3 1 (.slice a n c) n (y :: ys)) :
    OwnH h base 3 1 (.slice (if c = Int.toNat 1 then a else Option.map (fun z => Addr.add z (Int.toNat 1 * 1)) a) (Int.toNat (n : Int) - Int.toNat 1) (c - Int.toNat 1)) ys.length ys := by
  have hl : n = ys.length + 1 := by have := ho.1; simp at this; omega
  rcases ho.2 with ⟨_, h0⟩ | ⟨g, o, cap, cur, hv, hb, hg, hnc, hcm, hcs, hx⟩
  · omega
  · cases hv
    refine ⟨by simp, .inr ?_⟩
    by_cases hc1 : c = 1
    · subst hc1
      have hys : ys = [] := List.eq_nil_of_length_eq_zero (by omega)
      subst hys
      exact ⟨g, o, 0, cur, by simp [hl], hb, hg, by simp, by simp [maxLen], by omega, by simp⟩
    · have h1 : Int.toNat 1 = 1 := rfl
      refine ⟨g, o + 1, c - 1, cur, ?_, hb, hg, by omega, by omega, by omega, ?_⟩
      · simp only [h1, hc1, if_false, Option.map_some, addr_add, Nat.mul_one, Int.toNat_natCast]
        congr 1
        omega
      · rw [hl] at hx
        rw [← List.drop_drop]
        generalize cur.toList.drop o = zs at hx
        cases zs with
        | nil => simp at hx
        | cons z zs =>
          simp only [Nat.mul_one, List.take_succ_cons, List.cons.injEq] at hx
          simpa using hx.2
theorem rd20 {h : Hp} {B : Nat} {u : Value} {K : Value → Prop} (hc : cellH h ⟨B, kn false, none⟩ = some u) (hk : K u) :
    0 ≤ (0 : Int) ∧ (0 : Int) < (2 : Int) ∧ ∃ v, cellH h (Addr.add ⟨B, 0, none⟩ (Int.toNat 0 * 1)) = some v ∧ K v := ⟨by omega, by omega, u, hc, hk⟩
theorem rd21 {h : Hp} {B : Nat} {u : Value} {K : Value → Prop} (hc : cellH h ⟨B, kn true, none⟩ = some u) (hk : K u) :
    0 ≤ (1 : Int) ∧ (1 : Int) < (2 : Int) ∧ ∃ v, cellH h (Addr.add ⟨B, 0, none⟩ (Int.toNat 1 * 1)) = some v ∧ K v := ⟨by omega, by omega, u, hc, hk⟩
theorem at_kn {h : Hp} {B : Nat} {j : Bool} {u : Value} (hc : cellH h ⟨B, kn j, none⟩ = some u) : cellH h (Addr.add ⟨B, 0, none⟩ (Int.toNat ((kn j : Nat) : Int) * 1)) = some u := by
  rw [addr_add, Int.toNat_natCast, Nat.mul_one, Nat.zero_add]; exact hc
theorem bool_other {i j : Bool} (h : i ≠ j) : i = !j := by cases i <;> cases j <;> first | rfl | exact absurd rfl h
theorem asO20 (x y : Value) (F : Value → Prop) : asO (#[x, y] : Array Value)[0]? F = F x := rfl
theorem asO21 (x y : Value) (F : Value → Prop) : asO (#[x, y] : Array Value)[1]? F = F y := rfl

/-- one element of a list of one's own written -/
theorem OwnH.store {h : Hp} {base n : Nat} {v : Value} {ys : List Value} (ho : OwnH h base 3 1 v n ys) {j : Nat} {u : Value} (hj : j < n) {K : Hp → Prop}
    (hk : ∀ h', OwnH h' base 3 1 v n (ys.set j u) → Keep (fun k => base ≤ k) h h' → K h') :
    asSl1 v fun a l _ => 0 ≤ (j : Int) ∧ (j : Int) < (l : Int) ∧ storeK1 h (Addr.add a (Int.toNat (j : Int) * 1)) u K := by
  rcases ho.2 with ⟨rfl, h0⟩ | ⟨g, o, cap, cur, rfl, hb, hg, hnc, hcm, hcs, hx⟩
  · omega
  · rw [asSl1_sl]
    refine ⟨by omega, by omega, ?_⟩
    rw [addr_add, Int.toNat_natCast, Nat.mul_one]
    refine storeK1_of hg (by omega) (hk _ ⟨by simpa using ho.1, .inr ⟨g, o, cap, _, rfl, hb, hp_set_same hg, hnc, hcm, by simpa using hcs, ?_⟩⟩ (Keep.set _ hb))
    rw [Array.toList_setIfInBounds, List.drop_set]
    rw [if_neg (by omega), ← hx, List.take_set]
    congr 2
    omega
end Go.Proofs.Ytihffbheockjkaa
