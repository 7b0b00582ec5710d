/- Slices of ints: what the library does to them. -/
import Derived.Test.YtfjkddigflijeaaRaP
import Derived.Test.YtfjkddigflijeaaY6
namespace Go.Proofs.Ytfjkddigflijeaa
open Go Go.Sx Go.Sx.Pa Go.Proofs.Ytfjkddigflijeaa.Sx

def iv (l : List Int) : List Value := l.map fun n => .int .i64 n
theorem iv_len (l : List Int) : (iv l).length = l.length := by simp [iv]
theorem iv_at {l : List Int} {i : Nat} {n : Int} (h : l[i]? = some n) : (iv l)[i]? = some (.int .i64 n) := by rw [iv, List.getElem?_map, h]; rfl
theorem iv_set (l : List Int) (i : Nat) (n : Int) : (iv l).set i (.int .i64 n) = iv (l.set i n) := by rw [iv, iv, List.map_set]
theorem iv_app (a b : List Int) : iv (a ++ b) = iv a ++ iv b := by simp [iv]
theorem iv_one (l : List Int) : ∀ u ∈ iv l, one u := by
  intro u hu
  simp only [iv, List.mem_map] at hu
  obtain ⟨n, _, rfl⟩ := hu
  rfl
def nI (l : List Nat) : List Int := l.map fun (k : Nat) => (k : Int)
theorem nI_len (l : List Nat) : (nI l).length = l.length := by simp [nI]
theorem nI_at {l : List Nat} {i k : Nat} (h : l[i]? = some k) : (nI l)[i]? = some (k : Int) := by rw [nI, List.getElem?_map, h]; rfl
/-- read, and of one's own -/
abbrev IS (h : Hp) (v : Value) (xs : List Int) : Prop := SlAt h 1 v xs.length (iv xs)
abbrev IO (h : Hp) (base : Nat) (v : Value) (xs : List Int) : Prop := OwnH h base 3 1 v xs.length (iv xs)
theorem IS.rd {h : Hp} {v : Value} {xs : List Int} (hs : IS h v xs) {i : Nat} {x : Int} (hx : xs[i]? = some x) {K : Value → Prop} (hk : K (.int .i64 x)) :
    asSl1 v fun a l _ => 0 ≤ (i : Int) ∧ (i : Int) < (l : Int) ∧ ∃ w, cellH h (Addr.add a (Int.toNat (i : Int) * 1)) = some w ∧ K w := SlAt.rd1 hs (iv_at hx) hk
theorem IO.st {h : Hp} {base : Nat} {v : Value} {xs : List Int} (ho : IO h base v xs) {i : Nat} {x : Int} (hi : i < xs.length) {K : Hp → Prop}
    (hk : ∀ h', IO h' base v (xs.set i x) → Keep (fun k => v.ownBlock = some k) h h' → K h') :
    asSl1 v fun a l _ => 0 ≤ (i : Int) ∧ (i : Int) < (l : Int) ∧ storeK1 h (Addr.add a (Int.toNat (i : Int) * 1)) (.int .i64 x) K :=
  ownStore1 ho hi fun h' ho' kp => hk h' (by rw [IO, List.length_set, ← iv_set]; exact ho') kp
theorem IO.app {h : Hp} {base : Nat} {v : Value} {xs : List Int} (ho : IO h base v xs) (hl : xs.length ≤ 1000000) (hb : base ≤ h.size) (x : Int) {K : Value → Hp → Prop}
    (hk : ∀ w h', IO h' base w (xs ++ [x]) → Keep (fun k => v.ownBlock = some k) h h' → (∀ k, w.ownBlock = some k → v.ownBlock = some k ∨ h.size ≤ k) → K w h') :
    appK Try.prog 27 (Array.push h (.cells (List.toArray [.int .i64 x]) 3 (0, 0))) v (.slice (some ⟨h.size, 0, none⟩) 1 1) K := by
  refine appK_one (bt := 8) (by kernel_rfl) ho rfl (by intro u hu; simp at hu; subst hu; rfl) (by omega) (by omega) hb fun w h' ho' hg _ hw => hk w h' ?_ (Keep.grown hg fun k hk _ => hk) hw
  rw [IO, List.length_append, iv_app]
  exact ho'
theorem IO.lit {h : Hp} (l : List Int) (hl : l.length ≤ 1000) : IO (Array.push h (.cells (iv l).toArray 3 (0, 0))) h.size (.slice (some ⟨h.size, 0, none⟩) l.length l.length) l :=
  ownBlk hp_push_new (by rw [iv_len, Nat.mul_one]) (by simp only [maxLen]; omega) (Nat.le_refl _)
theorem IO.keepW {h h' : Hp} {base : Nat} {v : Value} {xs : List Int} (ho : IO h base v xs) {S : Nat → Prop} (hk : Keep S h h') (hn : ∀ k, v.ownBlock = some k → ¬ S k) : IO h' base v xs := ho.keep fun k hk' hlt => hk.block k hlt (hn k hk')

/-- the front of a slice of one's own -/
theorem IO.pre {h : Hp} {base n cap : Nat} {a : Option Addr} {xs : List Int} (ho : IO h base (.slice a n cap) xs) {i : Nat} (hi : i ≤ xs.length) :
    IO h base (.slice (if cap = Int.toNat ((0 : Nat) : Int) then a else Option.map (fun y => Addr.add y (Int.toNat ((0 : Nat) : Int) * 1)) a) (Int.toNat (i : Int) - Int.toNat ((0 : Nat) : Int)) (cap - Int.toNat ((0 : Nat) : Int))) (xs.take i) := by
  have hz : Int.toNat ((0 : Nat) : Int) = 0 := rfl
  rw [hz, Int.toNat_natCast, Nat.sub_zero, Nat.sub_zero, Nat.zero_mul]
  have ha : (if cap = 0 then a else Option.map (fun y => Addr.add y 0) a) = a := by
    split
    · rfl
    · cases a with
      | none => rfl
      | some y => simp [Addr.add]
  rw [ha]
  have hl : (xs.take i).length = i := by rw [List.length_take]; omega
  refine ⟨by rw [iv_len, Nat.mul_one], ?_⟩
  rw [hl]
  rcases ho.2 with ⟨hv, hn⟩ | ⟨g, o, cap', cur, hv, hb, hg, hnc, hcm, hcs, hx⟩
  · cases hv
    exact .inl ⟨by rw [show i = 0 by omega], by omega⟩
  · cases hv
    refine .inr ⟨g, o, cap, cur, rfl, hb, hg, by omega, hcm, hcs, ?_⟩
    rw [iv, List.map_take]
    rw [← iv, ← hx, List.take_take]
    congr 1
    omega
/-- what is behind a place is cleared -/
theorem IO.clr {h : Hp} {base n cap : Nat} {a : Option Addr} {xs : List Int} (ho : IO h base (.slice a n cap) xs) {i : Nat} (hi : i ≤ xs.length) {K : Value → Hp → Prop}
    (hk : ∀ h', IO h' base (.slice a n cap) (xs.take i ++ List.replicate (xs.length - i) 0) → Keep (fun k => (Value.slice a n cap).ownBlock = some k) h h' → K (.tuple #[]) h') :
    clearK Try.prog 27 h (.slice (if cap = Int.toNat (i : Int) then a else Option.map (fun y => Addr.add y (Int.toNat (i : Int) * 1)) a) (Int.toNat (n : Int) - Int.toNat (i : Int)) (cap - Int.toNat (i : Int))) K := by
  have hz : clearK Try.prog 27 h = fun x K => asSl x fun a n _ => match a with
      | none => K (.tuple #[]) h
      | some a => storeK h a (zeroRow [.int .i64 0] n).toList fun h' => K (.tuple #[]) h' := by kernel_rfl
  rw [hz]
  simp only [asSl_sl, Int.toNat_natCast, Nat.mul_one]
  rcases ho.2 with ⟨hv, hn⟩ | ⟨g, o, cap', cur, hv, hb, hg, hnc, hcm, hcs, hx⟩
  · cases hv
    have he : xs = [] := List.eq_nil_of_length_eq_zero hn
    subst he
    have hi0 : i = 0 := by simpa using hi
    subst hi0
    simp only [if_pos]
    exact hk h (by simpa using ho) (Keep.refl _ _)
  · cases hv
    have hcur : ∀ b : Nat, b = o + i → ∃ h', h' = h.setIfInBounds g (.cells (spl cur b (zeroRow [.int .i64 0] (xs.length - i)).toList) 3 (0, 0)) ∧ IO h' base (.slice (some ⟨g, o, none⟩) xs.length cap) (xs.take i ++ List.replicate (xs.length - i) 0) := fun b hbe => by
      refine ⟨_, rfl, ?_, .inr ⟨g, o, cap, _, by simp; omega, hb, hp_set_same hg, by simp; omega, hcm, ?_, ?_⟩⟩
      · rw [iv_len, Nat.mul_one]
      · rw [spl_size]
        · exact hcs
        · rw [zeroRow_one]
          simp
          omega
      · rw [zeroRow_one, spl, hbe]
        have e1 : (xs.take i ++ List.replicate (xs.length - i) (0 : Int)).length = xs.length := by simp; omega
        rw [e1, iv_app]
        have hlt : (cur.toList.take (o + i)).length = o + i := by simp; omega
        rw [List.toList_toArray, List.drop_append_of_le_length (by omega), List.drop_take, Nat.add_sub_cancel_left]
        have e2 : (cur.toList.drop o).take i = iv (xs.take i) := by
          rw [iv, List.map_take, ← iv, ← hx, List.take_take]
          congr 1
          omega
        rw [e2]
        have e3 : (iv (xs.take i)).length = i := by rw [iv_len, List.length_take]; omega
        rw [Nat.mul_one, List.take_append, e3, List.take_of_length_le (by omega), List.take_append_of_le_length (by simp)]
        congr 1
        rw [List.take_of_length_le (by simp)]
        simp [iv]
    by_cases hci : cap = i
    · have hie : i = xs.length := by omega
      obtain ⟨h', he, hio⟩ := hcur (o + i) rfl
      rw [if_pos hci, hie, Nat.sub_self, zeroRow_one]
      refine storeK_of hg (by simp; omega) (hk _ ?_ (Keep.set (S := fun k => _ = some k) _ rfl))
      have e4 : spl cur o (Array.replicate 0 (Value.int .i64 0)).toList = cur := by
        apply Array.ext'
        simp [spl]
      rw [e4]
      have e5 : h.setIfInBounds g (.cells cur 3 (0, 0)) = h := by
        apply Array.ext_getElem?
        intro j
        rw [Array.getElem?_setIfInBounds]
        split
        · rename_i e
          subst e
          rw [hg]
          split
          · rfl
          · rename_i hn
            exact absurd (hp_lt hg) hn
        · rfl
      rw [e5, hie]
      simpa using ho
    · rw [if_neg hci]
      simp only [Option.map_some, addr_add]
      obtain ⟨h', he, hio⟩ := hcur (o + i) rfl
      refine storeK_of hg ?_ ?_
      · rw [zeroRow_one]
        simp
        omega
      · rw [← he]
        refine hk h' hio ?_
        rw [he]
        exact Keep.set (S := fun k => _ = some k) _ rfl
end Go.Proofs.Ytfjkddigflijeaa
