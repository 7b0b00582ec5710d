/- The library's calls on slices of ints: short ones put in order, one thing again and again. -/
import Derived.Test.YtihibbejjmldjaaP2
namespace Go.Proofs.Ytihibbejjmldjaa
open Go Go.Sx Go.Sx.Pa Go.Proofs.Ytihibbejjmldjaa.Sx

def sort2 : List Int → List Int
  | [x, y] => if y < x then [y, x] else [x, y]
  | l => l
def comp2 : List Int → List Int
  | [x, y] => if y = x then [x] else [x, y]
  | l => l
theorem sort2_lt {x y : Int} (h : y < x) : sort2 [x, y] = [y, x] := if_pos h
theorem sort2_ge {x y : Int} (h : ¬ y < x) : sort2 [x, y] = [x, y] := if_neg h
theorem IO.st0 {h : Hp} {base : Nat} {v : Value} {xs : List Int} (ho : IO h base v xs) {i : Nat} {x : Int} (hi : i < xs.length) {n : Int} (hn : n = (i : Int)) {K : Hp → Prop}
    (hk : ∀ h', IO h' base v (xs.set i x) → Keep (fun k => v.ownBlock = some k) h h' → K h') :
    asSl1 v fun a l _ => 0 ≤ n ∧ n < (l : Int) ∧ storeK1 h (Addr.add a (Int.toNat n * 1)) (.int .i64 x) K := by
  subst hn
  exact ho.st hi hk
theorem IS.rd0 {h : Hp} {v : Value} {xs : List Int} (hs : IS h v xs) {i : Nat} {x : Int} (hx : xs[i]? = some x) {n : Int} (hn : n = (i : Int)) {K : Value → Prop} (hk : K (.int .i64 x)) :
    asSl1 v fun a l _ => 0 ≤ n ∧ n < (l : Int) ∧ ∃ w, cellH h (Addr.add a (Int.toNat n * 1)) = some w ∧ K w := by
  subst hn
  exact hs.rd hx hk

section
variable {ω : Amb}
theorem Ins_law {h : Hp} {base : Nat} {v : Value} {xs : List Int} (ho : IO h base v xs) (hl : xs.length ≤ 2) (X : List PanicEntry → Hp → Prop) :
    CallX Try.prog ω n_slices_insertionSortOrdered_int [v, .int .i64 0, .int .i64 (xs.length : Int)] h (fun _ h' => IO h' base v (sort2 xs) ∧ Keep (fun k => v.ownBlock = some k) h h') X := by
  refine C_slices_insertionSortOrdered_int ω _ _ _ h _ X ?_
  unfold W_slices_insertionSortOrdered_int
  rw [asK_int]
  refine ⟨fun i h' => (i = .int .i64 1 ∧ h' = h) ∨ (i = .int .i64 2 ∧ xs.length = 2 ∧ IO h' base v (sort2 xs) ∧ Keep (fun k => v.ownBlock = some k) h h'), fun i _ => match i with | .int _ k => 2 - k.toNat | _ => 0, .inl ⟨rfl, rfl⟩, ?_⟩
  rintro _ _ h1 (⟨rfl, hh⟩ | ⟨rfl, h2, ho2, k2⟩)
  · rw [hh, asK_int, asK_int]
    refine cond_c (fun hc => ?_) (fun hc => ?_)
    · have hl2 : xs.length = 2 := by have := of_decide_eq_true hc; omega
      obtain ⟨x, y, rfl⟩ : ∃ x y, xs = [x, y] := by
        match xs, hl2 with
        | [x, y], _ => exact ⟨x, y, rfl⟩
      refine ⟨fun j h' => (j = .int .i64 1 ∧ h' = h) ∨ (j = .int .i64 0 ∧ IO h' base v (sort2 [x, y]) ∧ Keep (fun k => v.ownBlock = some k) h h'), fun j _ => match j with | .int _ k => k.toNat | _ => 0, .inl ⟨rfl, rfl⟩, ?_⟩
      rintro _ _ h3 (⟨rfl, hh⟩ | ⟨rfl, ho3, k3⟩)
      · rw [hh]
        refine ⟨fun r h' => r = .bool (decide (y < x)) ∧ h' = h, ?_, ?_⟩
        · rw [asK_int, asK_int]
          refine cond_t rfl ?_
          refine IS.rd0 ho.slAt (i := 1) (x := y) rfl rfl ?_
          rw [asK_int]
          refine IS.rd0 ho.slAt (i := 0) (x := x) rfl (by decide) ?_
          exact Less_law y x h X
        rintro _ _ _ ⟨rfl, hh⟩
        rw [hh, asB_bool]
        refine cond_c (fun hc => ?_) (fun hc => ?_)
        · have hlt := of_decide_eq_true hc
          rw [asK_int, asK_int]
          refine IS.rd0 ho.slAt (i := 0) (x := x) rfl (by decide) ?_
          refine IS.rd0 ho.slAt (i := 1) (x := y) rfl rfl ?_
          simp only [oneK_int]
          refine ho.st0 (i := 1) (by simp) rfl fun h4 ho4 k4 => ?_
          refine IO.st0 (i := 0) ho4 (by simp) (by decide) fun h5 ho5 k5 => ?_
          rw [asK_int]
          refine ⟨.inr ⟨rfl, ?_, k4.trans k5⟩, by show Int.toNat (IntKind.wrap .i64 (1 - 1)) < Int.toNat 1; decide⟩
          rw [sort2_lt hlt]
          exact ho5
        · have hlt := of_decide_eq_false hc
          rw [asK_int]
          refine ⟨.inr ⟨rfl, rfl, ?_, Keep.refl _ _⟩, by show 2 - Int.toNat (IntKind.wrap .i64 (1 + 1)) < 2 - Int.toNat 1; decide⟩
          rw [sort2_ge hlt]
          exact ho
      · refine ⟨fun r h' => r = .bool false ∧ h' = h3, ?_, ?_⟩
        · rw [asK_int, asK_int]
          exact cond_f rfl ⟨rfl, rfl⟩
        rintro _ _ _ ⟨rfl, hh⟩
        rw [hh, asB_bool]
        refine cond_f rfl ?_
        rw [asK_int]
        exact ⟨.inr ⟨rfl, rfl, ho3, k3⟩, by show 2 - Int.toNat (IntKind.wrap .i64 (1 + 1)) < 2 - Int.toNat 1; decide⟩
    · have hl1 : xs.length ≤ 1 := by have := of_decide_eq_false hc; omega
      have : sort2 xs = xs := by
        match xs, hl1 with
        | [], _ => rfl
        | [x], _ => rfl
      rw [this]
      exact ⟨ho, Keep.refl _ _⟩
  · rw [asK_int, asK_int, h2]
    exact cond_f rfl ⟨ho2, k2⟩

set_option maxRecDepth 100000 in
theorem Len64_law (n : Nat) (hn : n ≤ 255) (h : Hp) (X : List PanicEntry → Hp → Prop) : CallX Try.prog ω n_math_bits_Len64 [.int .u64 (n : Int)] h (fun r h' => h' = h ∧ ∃ m, r = .int .i64 m) X := by
  refine C_math_bits_Len64 ω _ h _ X ?_
  unfold W_math_bits_Len64
  rw [asK_int]
  refine ⟨fun a b h' => a = .int .u64 (n : Int) ∧ b = .int .i64 0 ∧ h' = h, cond_f (by simp; omega) ⟨rfl, rfl, rfl⟩, ?_⟩
  rintro _ _ _ _ ⟨rfl, rfl, hh⟩
  rw [hh, asK_int]
  refine ⟨fun a b h' => a = .int .u64 (n : Int) ∧ b = .int .i64 0 ∧ h' = h, cond_f (by simp; omega) ⟨rfl, rfl, rfl⟩, ?_⟩
  rintro _ _ _ _ ⟨rfl, rfl, hh⟩
  rw [hh, asK_int]
  refine ⟨fun a b h' => a = .int .u64 (n : Int) ∧ b = .int .i64 0 ∧ h' = h, cond_f (by simp; omega) ⟨rfl, rfl, rfl⟩, ?_⟩
  rintro _ _ _ _ ⟨rfl, rfl, hh⟩
  rw [hh, asI_int]
  have hw : IntKind.wrap .u8 (n : Int) = (n : Int) := by rw [IntKind.wrap_u8]; omega
  rw [hw]
  refine ⟨by omega, ?_, ?_⟩
  · show (n : Int) < 256
    omega
  rw [asK_int]
  exact ⟨rfl, _, rfl⟩

theorem Sort_law {h : Hp} {base : Nat} {v : Value} {xs : List Int} (ho : IO h base v xs) (hl : xs.length ≤ 2) (X : List PanicEntry → Hp → Prop) :
    CallX Try.prog ω n_slices_Sort_sl_int_int [v] h (fun _ h' => IO h' base v (sort2 xs) ∧ Keep (fun k => v.ownBlock = some k) h h') X := by
  refine C_slices_Sort_sl_int_int ω _ h _ X ?_
  unfold W_slices_Sort_sl_int_int
  refine ho.slAt.sl fun _ _ => ?_
  have hw : IntKind.wrap .u64 (xs.length : Int) = (xs.length : Int) := by rw [IntKind.wrap_u64]; omega
  rw [hw]
  have hLen : ∀ Y, CallX Try.prog ω n_math_bits_Len [.int .u64 (xs.length : Int)] h (fun r h' => h' = h ∧ ∃ m, r = .int .i64 m) Y := by
    intro Y
    refine C_math_bits_Len ω _ h _ Y ?_
    unfold W_math_bits_Len
    exact Len64_law xs.length (by omega) h Y
  refine CallX.use hLen ?_
  rintro _ _ ⟨hh, m, rfl⟩
  rw [hh]
  refine C_slices_pdqsortOrdered_int ω _ _ _ _ h _ X ?_
  unfold W_slices_pdqsortOrdered_int
  refine ⟨fun l a _ _ b h' => a = .int .i64 0 ∧ b = .int .i64 (xs.length : Int) ∧ h' = h, fun _ _ _ _ _ _ => 0, ⟨rfl, rfl, rfl⟩, ?_⟩
  rintro _ _ _ _ _ _ _ ⟨rfl, rfl, hh⟩
  rw [hh]
  refine ⟨fun _ _ _ _ _ _ => False, ?_, fun _ _ _ _ _ _ _ hj => hj.elim⟩
  rw [asK_int, asK_int]
  refine cond_t (by rw [i64_in (by omega) (by omega)]; simp; omega) ?_
  exact CallX.use (Ins_law ho hl) fun _ _ hr => hr

theorem Compact_law {h : Hp} {base : Nat} {v : Value} {xs : List Int} (ho : IO h base v xs) (hl : xs.length ≤ 2) (X : List PanicEntry → Hp → Prop) :
    CallX Try.prog ω n_slices_Compact_sl_int_int [v] h (fun r h' => IO h' base r (comp2 xs) ∧ Keep (fun k => v.ownBlock = some k) h h' ∧ (∀ k, r.ownBlock = some k → v.ownBlock = some k)) X := by
  refine C_slices_Compact_sl_int_int ω _ h _ X ?_
  unfold W_slices_Compact_sl_int_int
  refine ho.slAt.sl fun _ _ => ?_
  refine cond_c (fun hc => ?_) (fun hc => ?_)
  · have hl1 : xs.length ≤ 1 := by have := of_decide_eq_true hc; omega
    have : comp2 xs = xs := by
      match xs, hl1 with
      | [], _ => rfl
      | [x], _ => rfl
    rw [this]
    exact ⟨ho, Keep.refl _ _, fun _ h => h⟩
  have hl2 : xs.length = 2 := by have := of_decide_eq_false hc; omega
  obtain ⟨x, y, rfl⟩ : ∃ x y, xs = [x, y] := by
    match xs, hl2 with
    | [x, y], _ => exact ⟨x, y, rfl⟩
  obtain ⟨a, cap, rfl, hcap⟩ := ho.form
  refine ⟨fun i h' => h' = h ∧ (i = .int .i64 1 ∨ (i = .int .i64 2 ∧ y ≠ x)), fun i _ => match i with | .int _ k => 2 - k.toNat | _ => 0, ⟨rfl, .inl rfl⟩, ?_⟩
  rintro _ _ _ ⟨hh, rfl | ⟨rfl, hne⟩⟩
  · rw [hh, asSl_sl, asK_int]
    refine cond_t rfl ?_
    refine IS.rd0 ho.slAt (i := 1) (x := y) rfl rfl ?_
    rw [asK_int]
    refine IS.rd0 ho.slAt (i := 0) (x := x) rfl (by decide) ?_
    rw [asK_int, asK_int]
    refine cond_c (fun hc => ?_) (fun hc => ?_)
    · have hyx : y = x := eq_of_beq hc
      rw [asSl_sl, asI_int]
      refine ⟨by decide, by simp, ?_, ?_⟩
      · simp only [List.length_cons, List.length_nil] at hcap ⊢
        omega
      refine ⟨fun k k2 h' => h' = h ∧ k = .int .i64 1 ∧ k2 = .int .i64 1, fun _ _ _ => 0, ⟨rfl, rfl, rfl⟩, ?_⟩
      rintro _ _ _ _ ⟨hh, rfl, rfl⟩
      rw [hh, asK_int]
      refine cond_f rfl ?_
      rw [asSl_sl, asI_int]
      refine ⟨by decide, by simp, ?_, ?_⟩
      · simp only [List.length_cons, List.length_nil] at hcap ⊢
        omega
      refine IO.clr (i := 1) ho (by simp) fun h2 ho2 k2 => ?_
      rw [asSl_sl, asI_int]
      refine ⟨by decide, by simp, ?_, ?_⟩
      · simp only [List.length_cons, List.length_nil] at hcap ⊢
        omega
      have := IO.pre (i := 1) ho2 (by simp)
      have hcx : comp2 [x, y] = [x] := if_pos hyx
      rw [hcx]
      refine ⟨this, k2, fun k hk => ?_⟩
      cases a with
      | none =>
        simp only [Option.map_none, ite_self] at hk
        cases hk
      | some z =>
        have hz : (if cap = Int.toNat ((0 : Nat) : Int) then some z else Option.map (fun y => Addr.add y (Int.toNat ((0 : Nat) : Int) * 1)) (some z)) = some z := by
          split
          · rfl
          · simp [Addr.add]
        rw [hz] at hk
        exact hk
    · have hyx := beq_eq_false_iff_ne.1 hc
      rw [asK_int]
      exact ⟨⟨rfl, .inr ⟨rfl, hyx⟩⟩, by show 2 - Int.toNat (IntKind.wrap .i64 (1 + 1)) < 2 - Int.toNat 1; decide⟩
  · rw [hh, asSl_sl, asK_int]
    refine cond_f rfl ?_
    have hcx : comp2 [x, y] = [x, y] := if_neg hne
    rw [hcx]
    exact ⟨ho, Keep.refl _ _, fun _ h => h⟩

theorem Mul_law (n : Nat) (hn : n ≤ 1000) (h : Hp) (X : List PanicEntry → Hp → Prop) : CallX Try.prog ω n_math_bits_Mul [.int .u64 1, .int .u64 (n : Int)] h (fun r h' => r = .tuple #[.int .u64 0, .int .u64 (n : Int)] ∧ h' = h) X := by
  refine C_math_bits_Mul ω _ _ h _ X ?_
  unfold W_math_bits_Mul
  have hM : ∀ Y, CallX Try.prog ω n_math_bits_Mul64 [.int .u64 1, .int .u64 (n : Int)] h (fun r h' => r = .tuple #[.int .u64 0, .int .u64 (n : Int)] ∧ h' = h) Y := by
    intro Y
    refine C_math_bits_Mul64 ω _ _ h _ Y ?_
    unfold W_math_bits_Mul64
    simp only [asK_int]
    refine ⟨by decide, by decide, by decide, by decide, by decide, ?_, trivial⟩
    have e1 : shI .u64 .shr (n : Int) 32 = 0 := by
      show Int.fdiv (n : Int) (2 ^ 32) = 0
      rw [Int.fdiv_eq_ediv_of_nonneg _ (by decide)]
      omega
    have e2 : bitI .u64 .and (n : Int) 4294967295 = n := by
      have : ∀ m : Fin 1001, bitI .u64 .and ((m : Nat) : Int) 4294967295 = ((m : Nat) : Int) := by decide +kernel
      exact this ⟨n, by omega⟩
    have e3 : shI .u64 .shr 1 32 = 0 := by decide
    have e4 : bitI .u64 .and 1 4294967295 = 1 := by decide
    have e5 : IntKind.wrap .u64 (n : Int) = n := by rw [IntKind.wrap_u64]; omega
    have e6 : IntKind.wrap .u64 0 = 0 := by decide
    have e7 : bitI .u64 .and 0 4294967295 = 0 := by decide
    have e8 : shI .u64 .shr 0 32 = 0 := by decide
    simp only [e1, e2, e3, e4, e5, e6, e7, e8, Int.zero_mul, Int.mul_zero, Int.one_mul, Int.add_zero]
  refine CallX.use hM ?_
  rintro _ _ ⟨rfl, hh⟩
  rw [hh]
  exact ⟨rfl, rfl⟩
end
end Go.Proofs.Ytihibbejjmldjaa
