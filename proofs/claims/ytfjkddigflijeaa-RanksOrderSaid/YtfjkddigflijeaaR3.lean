/- Slices of ints: one thing again and again; the same. -/
import Derived.Test.YtfjkddigflijeaaR2
namespace Go.Proofs.Ytfjkddigflijeaa
open Go Go.Sx Go.Sx.Pa Go.Sx.Ra Go.Proofs.Ytfjkddigflijeaa.Sx

theorem IO.st0 {h : Hp} {base : Nat} {v : Value} {xs : List Int} (ho : IO h base v xs) {i : Nat} {x : Int} (hi : i < xs.length) {n : Int} (hn : n = (i : Int)) {K : Hp → Prop}
    (hk : ∀ h', IO h' base v (xs.set i x) → Keep (fun k => v.ownBlock = some k) h h' → K h') :
    asSl1 v fun a l _ => 0 ≤ n ∧ n < (l : Int) ∧ storeK1 h (Addr.add a (Int.toNat n * 1)) (.int .i64 x) K := by
  subst hn
  exact ho.st hi hk
theorem IS.rd0 {h : Hp} {v : Value} {xs : List Int} (hs : IS h v xs) {i : Nat} {x : Int} (hx : xs[i]? = some x) {n : Int} (hn : n = (i : Int)) {K : Value → Prop} (hk : K (.int .i64 x)) :
    asSl1 v fun a l _ => 0 ≤ n ∧ n < (l : Int) ∧ ∃ w, cellH h (Addr.add a (Int.toNat n * 1)) = some w ∧ K w := by
  subst hn
  exact hs.rd hx hk

theorem IS.keepW {h h' : Hp} {v : Value} {xs : List Int} (hs : IS h v xs) {S : Nat → Prop} (hk : Keep S h h') (hn : ∀ k, v.ownBlock = some k → ¬ S k) : IS h' v xs := by
  refine ⟨hs.1, ?_⟩
  rcases hs.2 with h0 | ⟨b, o, cap, rfl, hc⟩
  · exact .inl h0
  · exact .inr ⟨b, o, cap, rfl, fun j u hu => hk.cell (hc j u hu) (hn b rfl)⟩
theorem IO.tail {h : Hp} {base cap n : Nat} {a : Option Addr} {x : Int} {xs : List Int} (ho : IO h base (.slice a n cap) (x :: xs)) :
    IO h base (.slice (if cap = Int.toNat 1 then a else Option.map (fun y => Addr.add y (Int.toNat 1 * 1)) a) (Int.toNat (n : Int) - Int.toNat 1) (cap - Int.toNat 1)) xs ∧
      (∀ k, (Value.slice (if cap = Int.toNat 1 then a else Option.map (fun y => Addr.add y (Int.toNat 1 * 1)) a) (Int.toNat (n : Int) - Int.toNat 1) (cap - Int.toNat 1)).ownBlock = some k → (Value.slice a n cap).ownBlock = some k) := by
  have h1 : Int.toNat 1 = 1 := rfl
  rw [h1, Int.toNat_natCast, Nat.mul_one]
  rcases ho.2 with ⟨hv, hn⟩ | ⟨g, o, cap', cur, hv, hb, hg, hnc, hcm, hcs, hx⟩
  · simp at hn
  · cases hv
    have hx' : (cur.toList.drop o).take (xs.length + 1) = .int .i64 x :: iv xs := by
      rw [Nat.mul_one] at hx
      exact hx
    simp only [List.length_cons] at hnc ⊢
    by_cases hc : cap = 1
    · subst hc
      have h0 : xs = [] := List.eq_nil_of_length_eq_zero (by omega)
      subst h0
      exact ⟨⟨rfl, .inr ⟨g, o, 0, cur, rfl, hb, hg, Nat.le_refl _, by decide, by omega, rfl⟩⟩, fun k hk => hk⟩
    · rw [if_neg hc]
      simp only [Option.map_some, addr_add]
      refine ⟨⟨by rw [iv_len, Nat.mul_one], .inr ⟨g, o + 1, cap - 1, cur, by simp, hb, hg, by omega, by omega, by omega, ?_⟩⟩, fun k hk => hk⟩
      have h2 := congrArg (List.drop 1) hx'
      rw [List.drop_take, List.drop_drop, Nat.add_sub_cancel] at h2
      rw [Nat.mul_one]
      exact h2
theorem copy_int {h : Hp} {g o dl dc : Nat} {src : Value} {xs : List Int} {cur : Array Value} {K : Value → Hp → Prop} (hs : IS h src xs) (hb : h[g]? = some (.cells cur 3 (0, 0))) (hfit : o + min xs.length dl ≤ cur.size)
    (hk : K (.int .i64 ((min xs.length dl : Nat) : Int)) (h.setIfInBounds g (.cells (spl cur o (iv (xs.take dl))) 3 (0, 0)))) : copyK Try.prog 27 h (.slice (some ⟨g, o, none⟩) dl dc) src K := by
  unfold copyK
  have hu : Try.prog.underlying 27 = some (.slice 3) := Try.underlying27
  rw [hu]
  refine szK_of (t := 27) (sz := 1) (bt := 8) (by kernel_rfl) ?_
  rw [asSl1_sl]
  have hl : (iv (xs.take dl)).length = min xs.length dl := by rw [iv_len, List.length_take, Nat.min_comm]
  rcases hs.2 with ⟨h0, a, c, rfl⟩ | ⟨b, p, cap, rfl, hc⟩
  · have he : xs = [] := List.eq_nil_of_length_eq_zero h0
    subst he
    rw [asSl_sl]
    refine ⟨[], by simp, ?_, by simp, storeK_of hb (by simp at hfit ⊢; exact hfit) ?_⟩
    · cases a with
      | none => rfl
      | some b => exact fun j u hu => by simp at hu
    · simp only [List.length_nil, Nat.zero_min, List.take_nil] at hk ⊢
      exact hk
  · rw [asSl_sl]
    refine ⟨iv (xs.take dl), by rw [hl, Nat.mul_one], fun j u hu => ?_, iv_one _, storeK_of hb (by rw [hl]; exact hfit) hk⟩
    rw [addr_add]
    refine hc j u ?_
    simp only [iv, List.map_take, List.getElem?_take] at hu
    split at hu
    · exact hu
    · cases hu

theorem t2 : (∀ a b : Value, (#[a, b] : Array Value)[0]? = some a) ∧ (∀ a b : Value, (#[a, b] : Array Value)[1]? = some b) := ⟨fun _ _ => rfl, fun _ _ => rfl⟩
theorem spl_iv (A B C : List Int) : spl (iv (A ++ B)).toArray A.length (iv C) = (iv (A ++ C ++ B.drop C.length)).toArray := by
  unfold spl
  congr 1
  have h1 : (iv (A ++ B)).take A.length = iv A := by rw [iv, ← List.map_take, List.take_left']; rfl; rfl
  have h2 : (iv (A ++ B)).drop (A.length + (iv C).length) = iv (B.drop C.length) := by
    rw [iv_len, iv, ← List.map_drop, List.drop_append]
    simp [iv]
  rw [List.toList_toArray, h1, h2, iv_app, iv_app, List.append_assoc]
def rdI (v : Value) (h : Hp) : List Int :=
  match v with
  | .slice (some a) n _ => (match h[a.block]? with | some (.cells cur _ _) => ((cur.toList.drop a.off).take n).map (fun u => match u with | .int _ k => k | _ => 0) | _ => [])
  | _ => []
theorem rdI_own {h : Hp} {base : Nat} {v : Value} {xs : List Int} (ho : IO h base v xs) : rdI v h = xs := by
  rcases ho.2 with ⟨rfl, hn⟩ | ⟨g, o, cap, cur, rfl, hb, hg, _, _, _, hx⟩
  · exact (List.eq_nil_of_length_eq_zero hn).symm
  · unfold rdI
    simp only [hg]
    rw [Nat.mul_one] at hx
    rw [hx, iv, List.map_map]
    simp [Function.comp_def]
def lenV : Value → Nat
  | .slice _ n _ => n
  | _ => 0
theorem IO.lenV {h : Hp} {base : Nat} {v : Value} {xs : List Int} (ho : IO h base v xs) : lenV v = xs.length := by
  obtain ⟨a, cap, rfl, _⟩ := ho.form
  rfl

section
variable {ω : Amb}
theorem Mul_law (n : Nat) (hn : n ≤ 1000) (h : Hp) (X : List PanicEntry → Hp → Prop) : CallX Try.prog ω n_math_bits_Mul [.int .u64 1, .int .u64 (n : Int)] h (fun r h' => r = .tuple #[.int .u64 0, .int .u64 (n : Int)] ∧ h' = h) X := by
  refine C_math_bits_Mul ω _ _ h _ X ?_
  unfold W_math_bits_Mul
  have hM : ∀ Y, CallX Try.prog ω n_math_bits_Mul64 [.int .u64 1, .int .u64 (n : Int)] h (fun r h' => r = .tuple #[.int .u64 0, .int .u64 (n : Int)] ∧ h' = h) Y := by
    intro Y
    refine C_math_bits_Mul64 ω _ _ h _ Y ?_
    unfold W_math_bits_Mul64
    simp only [asK_int]
    refine ⟨by decide, by decide, by decide, by decide, by decide, ?_, trivial⟩
    have e1 : shI .u64 .shr (n : Int) 32 = 0 := by
      show Int.fdiv (n : Int) (2 ^ 32) = 0
      rw [Int.fdiv_eq_ediv_of_nonneg _ (by decide)]
      omega
    have e2 : bitI .u64 .and (n : Int) 4294967295 = n := by
      have : ∀ m : Fin 1001, bitI .u64 .and ((m : Nat) : Int) 4294967295 = ((m : Nat) : Int) := by decide +kernel
      exact this ⟨n, by omega⟩
    have e3 : shI .u64 .shr 1 32 = 0 := by decide
    have e4 : bitI .u64 .and 1 4294967295 = 1 := by decide
    have e5 : IntKind.wrap .u64 (n : Int) = n := by rw [IntKind.wrap_u64]; omega
    have e6 : IntKind.wrap .u64 0 = 0 := by decide
    have e7 : bitI .u64 .and 0 4294967295 = 0 := by decide
    have e8 : shI .u64 .shr 0 32 = 0 := by decide
    simp only [e1, e2, e3, e4, e5, e6, e7, e8, Int.zero_mul, Int.mul_zero, Int.one_mul, Int.add_zero]
  refine CallX.use hM ?_
  rintro _ _ ⟨rfl, hh⟩
  rw [hh]
  exact ⟨rfl, rfl⟩
theorem Repeat_law {h : Hp} {v : Value} {x : Int} {n : Nat} (hs : IS h v [x]) (hn : n ≤ 1000) (X : List PanicEntry → Hp → Prop) :
    CallX Try.prog ω n_slices_Repeat_sl_int_int [v, .int .i64 (n : Int)] h (fun r h' => IO h' h.size r (List.replicate n x) ∧ Keep (fun _ => False) h h') X := by
  refine C_slices_Repeat_sl_int_int ω _ _ h _ X ?_
  unfold W_slices_Repeat_sl_int_int
  rw [asK_int]
  refine ⟨fun h' => h' = h, cond_f (by simp) rfl, ?_⟩
  rintro _ _ hh
  rw [hh]
  refine hs.sl fun _ _ => ?_
  rw [asI_int]
  have hw1 : IntKind.wrap .u64 (([x] : List Int).length : Int) = 1 := by
    show IntKind.wrap .u64 1 = 1
    decide
  have hw2 : IntKind.wrap .u64 (n : Int) = n := by rw [IntKind.wrap_u64]; omega
  rw [hw1, hw2]
  refine CallX.use (Mul_law n hn h) ?_
  rintro _ _ ⟨rfl, hh⟩
  rw [hh]
  simp only [asT_tup, t2, asO_some]
  refine ⟨false, ?_, fun _ => ⟨fun h' => h' = h, cond_f rfl rfl, ?_⟩⟩
  · rw [asK_int]
    refine cond_f rfl ?_
    rw [asK_int]
    exact ⟨by congr 1; simp; omega, trivial⟩
  rintro _ _ hh
  rw [hh, asI_int, i64_nat (by omega)]
  refine makeK_of (z := [.int .i64 0]) (bt := 8) (el := 3) (sz := 1) (by kernel_rfl) (by kernel_rfl) (by omega) (by omega) (by omega) ?_
  rw [Int.toNat_natCast, zeroRow_one]
  have hz : Array.replicate n (Value.int .i64 0) = (iv ([] ++ List.replicate n 0)).toArray := by simp [iv]
  rw [hz]
  have hb1 := hp_push_new (h := h) (o := .cells (iv ([] ++ List.replicate n 0)).toArray 3 (0, 0))
  have k1 := Keep.push (S := fun _ => False) h (.cells (iv ([] ++ List.replicate n 0)).toArray 3 (0, 0))
  have hs1 := SlAt.keep hs k1
  generalize h.push (.cells (iv ([] ++ List.replicate n 0)).toArray 3 (0, 0)) = h1 at *
  refine copy_int hs1 hb1 (by simp [iv]; omega) ?_
  have e1 : spl (iv ([] ++ List.replicate n 0)).toArray 0 (iv ([x].take n)) = (iv (List.replicate (min 1 n) x ++ List.replicate (n - min 1 n) 0)).toArray := by
    have := spl_iv [] (List.replicate n 0) ([x].take n)
    rw [List.length_nil] at this
    rw [this, List.length_take, List.drop_replicate]
    congr 2
    have h1 : [x].take n = List.replicate (min 1 n) x := by
      match n with
      | 0 => rfl
      | m + 1 => rw [show min 1 (m + 1) = 1 by omega]; simp
    rw [h1, Nat.min_comm]
    rfl
  rw [e1]
  refine ⟨fun w h' => ∃ m : Nat, w = .int .i64 m ∧ m ≤ n ∧ (m = n ∨ 1 ≤ m) ∧ h'[h.size]? = some (.cells (iv (List.replicate m x ++ List.replicate (n - m) 0)).toArray 3 (0, 0)) ∧ Keep (fun _ => False) h h',
    fun w _ => match w with | .int _ m => n - m.toNat | _ => 0, ⟨min 1 n, rfl, by omega, by omega, hp_set_same hb1, k1.newer (Keep.set (S := fun i => False ∨ h.size ≤ i) _ (.inr (Nat.le_refl _)))⟩, ?_⟩
  rintro _ _ h2 ⟨m, rfl, hm, hm1, hb2, k2⟩
  have hlen : (List.replicate m x ++ List.replicate (n - m) (0 : Int)).length = n := by simp; omega
  have ho2 : IO h2 h.size (.slice (some ⟨h.size, 0, none⟩) n n) (List.replicate m x ++ List.replicate (n - m) 0) := by
    rw [IO, hlen]
    exact ownBlk hb2 (by rw [iv_len, hlen, Nat.mul_one]) (by simp only [maxLen]; omega) (Nat.le_refl _)
  rw [asSl_sl, asK_int]
  refine cond_c (fun hc => ?_) (fun hc => ?_)
  · have hlt : m < n := by have := of_decide_eq_true hc; omega
    rw [asSl_sl, asI_int]
    refine ⟨by omega, by omega, by omega, ?_⟩
    rw [asSl_sl, asI_int]
    refine ⟨by decide, by omega, by omega, ?_⟩
    have hpre := (IO.pre (i := m) ho2 (by omega)).slAt
    rw [List.take_append_of_le_length (by simp), List.take_of_length_le (by simp)] at hpre
    rw [if_neg (by rw [Int.toNat_natCast]; omega)]
    simp only [Option.map_some, addr_add] at hpre ⊢
    refine copy_int (o := 0 + Int.toNat (m : Int) * 1) hpre hb2 ?_ ?_
    · simp only [List.length_replicate, Int.toNat_natCast, List.size_toArray, iv_len, hlen]
      omega
    · rw [asK_int, asK_int]
      have e2 : spl (iv (List.replicate m x ++ List.replicate (n - m) 0)).toArray (0 + Int.toNat (m : Int) * 1) (iv ((List.replicate m x).take (Int.toNat (n : Int) - Int.toNat (m : Int)))) = (iv (List.replicate (m + min m (n - m)) x ++ List.replicate (n - (m + min m (n - m))) 0)).toArray := by
        have := spl_iv (List.replicate m x) (List.replicate (n - m) 0) ((List.replicate m x).take (n - m))
        rw [List.length_replicate] at this
        simp only [Int.toNat_natCast, Nat.mul_one, Nat.zero_add]
        rw [this, List.take_replicate, List.length_replicate, List.drop_replicate, List.replicate_append_replicate, Nat.min_comm, Nat.sub_sub]
      rw [e2]
      simp only [List.length_replicate, Int.toNat_natCast]
      rw [i64_in (by omega) (by omega)]
      refine ⟨⟨m + min m (n - m), by push_cast; rfl, by omega, by omega, hp_set_same hb2, k2.newer (Keep.set (S := fun i => False ∨ h.size ≤ i) _ (.inr (Nat.le_refl _)))⟩, ?_⟩
      show n - Int.toNat ((m : Int) + ((min m (n - m) : Nat) : Int)) < n - Int.toNat (m : Int)
      omega
  · have hme : m = n := by have := of_decide_eq_false hc; omega
    subst hme
    rw [Nat.sub_self, List.replicate_zero, List.append_nil] at ho2
    exact ⟨by simpa using ho2, k2⟩
set_option maxRecDepth 100000 in
theorem Len64_law (n : Nat) (hn : n ≤ 255) (h : Hp) (X : List PanicEntry → Hp → Prop) : CallX Try.prog ω n_math_bits_Len64 [.int .u64 (n : Int)] h (fun r h' => h' = h ∧ ∃ m, r = .int .i64 m) X := by
  refine C_math_bits_Len64 ω _ h _ X ?_
  unfold W_math_bits_Len64
  rw [asK_int]
  refine ⟨fun a b h' => a = .int .u64 (n : Int) ∧ b = .int .i64 0 ∧ h' = h, cond_f (by simp; omega) ⟨rfl, rfl, rfl⟩, ?_⟩
  rintro _ _ _ _ ⟨rfl, rfl, hh⟩
  rw [hh, asK_int]
  refine ⟨fun a b h' => a = .int .u64 (n : Int) ∧ b = .int .i64 0 ∧ h' = h, cond_f (by simp; omega) ⟨rfl, rfl, rfl⟩, ?_⟩
  rintro _ _ _ _ ⟨rfl, rfl, hh⟩
  rw [hh, asK_int]
  refine ⟨fun a b h' => a = .int .u64 (n : Int) ∧ b = .int .i64 0 ∧ h' = h, cond_f (by simp; omega) ⟨rfl, rfl, rfl⟩, ?_⟩
  rintro _ _ _ _ ⟨rfl, rfl, hh⟩
  rw [hh, asI_int]
  have hw : IntKind.wrap .u8 (n : Int) = (n : Int) := by rw [IntKind.wrap_u8]; omega
  rw [hw]
  refine ⟨by omega, ?_, ?_⟩
  · show (n : Int) < 256
    omega
  rw [asK_int]
  exact ⟨rfl, _, rfl⟩

theorem Same_law {h : Hp} {va vb : Value} {xs : List Int} (ha : IS h va xs) (hb : IS h vb xs) (hl : xs.length ≤ 1000000) (X : List PanicEntry → Hp → Prop) :
    CallX Try.prog ω n_pipewrightref_SameInts [va, vb] h (fun r h' => r = .bool true ∧ h' = h) X := by
  refine C_pipewrightref_SameInts ω _ _ h _ X ?_
  unfold W_pipewrightref_SameInts
  refine ha.sl fun _ _ => hb.sl fun _ _ => ?_
  refine cond_f (by simp) ?_
  refine ⟨fun i h' => h' = h ∧ ∃ k : Nat, i = .int .i64 k ∧ k ≤ xs.length, fun i _ => match i with | .int _ k => xs.length - k.toNat | _ => 0, ⟨rfl, 0, rfl, by omega⟩, ?_⟩
  rintro _ _ _ ⟨hh, k, rfl, hk⟩
  rw [hh]
  refine ha.sl fun _ _ => ?_
  rw [asK_int]
  refine cond_c (fun hc => ?_) (fun _ => ⟨rfl, rfl⟩)
  have hlt : k < xs.length := by have := of_decide_eq_true hc; omega
  have hx := List.getElem?_eq_getElem hlt
  refine ha.rd hx ?_
  refine hb.rd hx ?_
  rw [asK_int, asK_int]
  refine cond_f (by simp) ?_
  rw [asK_int, i64_in (by omega) (by omega)]
  exact ⟨⟨rfl, k + 1, by simp, by omega⟩, by simp; omega⟩

end
end Go.Proofs.Ytfjkddigflijeaa
