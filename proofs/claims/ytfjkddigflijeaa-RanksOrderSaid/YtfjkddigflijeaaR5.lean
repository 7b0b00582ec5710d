/- Slices of ints: each once. -/
import Derived.Test.YtfjkddigflijeaaR4
namespace Go.Proofs.Ytfjkddigflijeaa
open Go Go.Sx Go.Sx.Pa Go.Sx.Ra Go.Proofs.Ytfjkddigflijeaa.Sx

theorem kp_all {xs : List Int} : ∀ m, m ≤ xs.length → (∀ j, 0 < j → j < m → xs[j]? ≠ xs[j - 1]?) → kp xs m = xs.take m
  | 0, _, _ => by simp [kp]
  | m + 1, hm, h => by
    have hlt : m < xs.length := by omega
    unfold kp
    rw [kp_all m (by omega) fun j h1 h2 => h j h1 (by omega), List.take_succ_eq_append_getElem hlt, List.getElem?_eq_getElem hlt, if_pos]
    · rfl
    · by_cases h0 : m = 0
      · exact .inl h0
      · have := h m (by omega) (by omega)
        rw [List.getElem?_eq_getElem hlt] at this
        exact .inr this
theorem pre_own {cap i n : Nat} {a : Option Addr} {k : Nat} (hk : (Value.slice (if cap = Int.toNat ((0 : Nat) : Int) then a else Option.map (fun y => Addr.add y (Int.toNat ((0 : Nat) : Int) * 1)) a) i (cap - Int.toNat ((0 : Nat) : Int))).ownBlock = some k) : (Value.slice a n cap).ownBlock = some k := by
  cases a with
  | none =>
    simp only [Option.map_none, ite_self] at hk
    cases hk
  | some z =>
    have hz : (if cap = Int.toNat ((0 : Nat) : Int) then some z else Option.map (fun y => Addr.add y (Int.toNat ((0 : Nat) : Int) * 1)) (some z)) = some z := by
      split
      · rfl
      · simp [Addr.add]
    rw [hz] at hk
    exact hk
/-- the rear of a slice, only read -/
theorem IS.suf {h : Hp} {n cap : Nat} {a : Option Addr} {xs : List Int} (hs : IS h (.slice a n cap) xs) (hcap : xs.length ≤ cap) {i : Nat} (hi : i < xs.length) :
    IS h (.slice (if cap = Int.toNat (i : Int) then a else Option.map (fun y => Addr.add y (Int.toNat (i : Int) * 1)) a) (Int.toNat (xs.length : Int) - Int.toNat (i : Int)) (cap - Int.toNat (i : Int))) (xs.drop i) := by
  rw [Int.toNat_natCast, Int.toNat_natCast, Nat.mul_one, if_neg (by omega)]
  rcases hs.2 with ⟨h0, _⟩ | ⟨b, o, cap', hv, hc⟩
  · omega
  · cases hv
    simp only [Option.map_some, addr_add]
    refine ⟨by rw [iv_len, Nat.mul_one], .inr ⟨b, o + i, cap - i, by rw [List.length_drop], fun j u hu => ?_⟩⟩
    have : (iv xs)[i + j]? = some u := by
      rw [iv, List.getElem?_map]
      rw [iv, List.getElem?_map, List.getElem?_drop] at hu
      exact hu
    have := hc (i + j) u this
    rw [Nat.add_assoc]
    exact this

section
variable {ω : Amb}
theorem Compact_law {h : Hp} {base : Nat} {v : Value} {xs : List Int} (ho : IO h base v xs) (hl : xs.length ≤ 1000000) (X : List PanicEntry → Hp → Prop) :
    CallX Try.prog ω n_slices_Compact_sl_int_int [v] h (fun r h' => IO h' base r (kp xs xs.length) ∧ Keep (fun k => v.ownBlock = some k) h h' ∧ (∀ k, r.ownBlock = some k → v.ownBlock = some k)) X := by
  refine C_slices_Compact_sl_int_int ω _ h _ X ?_
  unfold W_slices_Compact_sl_int_int
  refine ho.slAt.sl fun _ _ => ?_
  refine cond_c (fun hc => ?_) (fun hc => ?_)
  · have hl1 : xs.length ≤ 1 := by have := of_decide_eq_true hc; omega
    rw [kp_all _ (Nat.le_refl _) fun j h1 h2 => by omega, List.take_length]
    exact ⟨ho, Keep.refl _ _, fun _ h => h⟩
  have hl2 : 2 ≤ xs.length := by have := of_decide_eq_false hc; omega
  obtain ⟨a, cap, hv, hcap⟩ := ho.form
  refine ⟨fun i h' => h' = h ∧ ∃ k : Nat, i = .int .i64 k ∧ 1 ≤ k ∧ k ≤ xs.length ∧ ∀ j, 0 < j → j < k → xs[j]? ≠ xs[j - 1]?, fun i _ => match i with | .int _ k => xs.length - k.toNat | _ => 0, ⟨rfl, 1, rfl, by omega, by omega, fun j h1 h2 => by omega⟩, ?_⟩
  rintro _ _ _ ⟨hh, k, rfl, hk1, hk, hne⟩
  rw [hh]
  refine ho.slAt.sl fun _ _ => ?_
  rw [asK_int]
  refine cond_c (fun hc => ?_) (fun hc => ?_)
  rotate_left
  · have hke : k = xs.length := by have := of_decide_eq_false hc; omega
    subst hke
    rw [kp_all _ (Nat.le_refl _) hne, List.take_length]
    exact ⟨ho, Keep.refl _ _, fun _ h => h⟩
  have hlt : k < xs.length := by have := of_decide_eq_true hc; omega
  have hx := List.getElem?_eq_getElem hlt
  have hx1 : xs[k - 1]? = some xs[k - 1] := List.getElem?_eq_getElem (by omega)
  refine IS.rd ho.slAt hx ?_
  rw [asK_int]
  have hw1 : IntKind.wrap .i64 ((k : Int) - 1) = ((k - 1 : Nat) : Int) := by rw [i64_in (by omega) (by omega)]; omega
  rw [hw1]
  refine IS.rd ho.slAt hx1 ?_
  rw [asK_int, asK_int]
  refine cond_c (fun hc => ?_) (fun hc => ?_)
  rotate_left
  · have hnn := beq_eq_false_iff_ne.1 hc
    rw [asK_int, i64_in (by omega) (by omega)]
    refine ⟨⟨rfl, k + 1, by simp, by omega, by omega, fun j h1 h2 => ?_⟩, by simp; omega⟩
    by_cases hjk : j = k
    · subst hjk
      rw [hx, hx1]
      simpa using hnn
    · exact hne j h1 (by omega)
  have heq : xs[k] = xs[k - 1] := eq_of_beq hc
  have hkp : kp xs (k + 1) = xs.take k := by
    rw [kp, if_neg, List.append_nil]
    · exact kp_all k (by omega) hne
    · rw [not_or, Classical.not_not, hx, hx1, heq]
      exact ⟨by omega, rfl⟩
  subst hv
  rw [asSl_sl, asI_int]
  refine ⟨by omega, by omega, by omega, ?_⟩
  refine ⟨fun kw k2 h' => ∃ (q : Nat) (ys : List Int), k2 = .int .i64 q ∧ 1 ≤ q ∧ k + q ≤ xs.length ∧ kw = .int .i64 ((kp xs (k + q)).length : Nat) ∧ ys.length = xs.length ∧ IO h' base (.slice a xs.length cap) ys ∧ ys.take (kp xs (k + q)).length = kp xs (k + q) ∧ ys.drop (k + q - 1) = xs.drop (k + q - 1) ∧ (kp xs (k + q)).length ≤ k + q - 1 ∧ Keep (fun b => (Value.slice a xs.length cap).ownBlock = some b) h h',
    fun _ k2 _ => match k2 with | .int _ q => xs.length - q.toNat | _ => 0, ⟨1, xs, rfl, by omega, by omega, ?_, rfl, ho, ?_, rfl, ?_, Keep.refl _ _⟩, ?_⟩
  · rw [hkp, List.length_take, Nat.min_eq_left (by omega)]
  · rw [hkp, List.length_take, Nat.min_eq_left (by omega)]
  · rw [hkp, List.length_take]
    omega
  rintro _ _ _ h3 ⟨q, ys, rfl, hq1, hq, rfl, hyl, ho3, ht3, hd3, hle3, k3⟩
  have hio3 : IO h3 base (.slice a ys.length cap) ys := by rw [hyl]; exact ho3
  rw [asK_int]
  refine cond_c (fun hc => ?_) (fun hc => ?_)
  · have hlt3 : k + q < xs.length := by
      have := of_decide_eq_true hc
      rw [Int.toNat_natCast, Int.toNat_natCast] at this
      omega
    have hz := List.getElem?_eq_getElem hlt3
    have hz1 : xs[k + q - 1]? = some xs[k + q - 1] := List.getElem?_eq_getElem (by omega)
    have hyz : ys[k + q]? = some xs[k + q] := by
      have := congrArg (fun l => l[1]?) hd3
      simp only [List.getElem?_drop, show k + q - 1 + 1 = k + q by omega] at this
      rw [this, hz]
    have hyz1 : ys[k + q - 1]? = some xs[k + q - 1] := by
      have := congrArg (fun l => l[0]?) hd3
      simp only [List.getElem?_drop, Nat.add_zero] at this
      rw [this, hz1]
    have hkq := kp_len xs (k + q)
    refine ⟨fun kw h' => ∃ ys : List Int, kw = .int .i64 ((kp xs (k + (q + 1))).length : Nat) ∧ ys.length = xs.length ∧ IO h' base (.slice a xs.length cap) ys ∧ ys.take (kp xs (k + (q + 1))).length = kp xs (k + (q + 1)) ∧ ys.drop (k + q) = xs.drop (k + q) ∧ (kp xs (k + (q + 1))).length ≤ k + q ∧ Keep (fun b => (Value.slice a xs.length cap).ownBlock = some b) h h', ?_, ?_⟩
    rotate_left
    · rintro _ _ h4 ⟨ys4, rfl, hyl4, ho4, ht4, hd4, hle4, k4⟩
      rw [asK_int, i64_in (by omega) (by omega)]
      exact ⟨⟨q + 1, ys4, by simp, by omega, by omega, rfl, hyl4, ho4, ht4, hd4, hle4, k4⟩, by simp; omega⟩
    have hsuf := IS.suf (i := k) hio3.slAt (by rw [hyl]; exact hcap) (by omega)
    rw [hyl] at hsuf
    refine IS.rd hsuf (i := q) (x := xs[k + q]) (by rw [List.getElem?_drop]; exact hyz) ?_
    rw [asK_int]
    have hw2 : IntKind.wrap .i64 ((q : Int) - 1) = ((q - 1 : Nat) : Int) := by rw [i64_in (by omega) (by omega)]; omega
    rw [hw2]
    refine IS.rd hsuf (i := q - 1) (x := xs[k + q - 1]) (by rw [List.getElem?_drop, show k + (q - 1) = k + q - 1 by omega]; exact hyz1) ?_
    rw [asK_int, asK_int]
    refine ⟨fun kw h' => ∃ ys : List Int, kw = .int .i64 ((kp xs (k + (q + 1))).length : Nat) ∧ ys.length = xs.length ∧ IO h' base (.slice a xs.length cap) ys ∧ ys.take (kp xs (k + (q + 1))).length = kp xs (k + (q + 1)) ∧ ys.drop (k + q) = xs.drop (k + q) ∧ (kp xs (k + (q + 1))).length ≤ k + q ∧ Keep (fun b => (Value.slice a xs.length cap).ownBlock = some b) h h', ?_, fun _ _ _ hj => hj⟩
    have hstep : kp xs (k + (q + 1)) = kp xs (k + q) ++ (if k + q = 0 ∨ xs[k + q]? ≠ xs[k + q - 1]? then (xs[k + q]?).toList else []) := rfl
    have hdd : ys.drop (k + q) = xs.drop (k + q) := by
      have := congrArg (List.drop 1) hd3
      rw [List.drop_drop, List.drop_drop, show k + q - 1 + 1 = k + q by omega] at this
      exact this
    refine cond_c (fun hc => ?_) (fun hc => ?_)
    · have hnn : xs[k + q] ≠ xs[k + q - 1] := by simpa using hc
      have hkn : kp xs (k + (q + 1)) = kp xs (k + q) ++ [xs[k + q]] := by
        rw [hstep, if_pos]
        · rw [hz]; rfl
        · rw [hz, hz1]
          exact .inr fun e => hnn (Option.some.inj e)
      refine IS.rd hsuf (i := q) (x := xs[k + q]) (by rw [List.getElem?_drop]; exact hyz) ?_
      simp only [oneK_int]
      refine IO.st (x := xs[k + q]) ho3 (i := (kp xs (k + q)).length) (by omega) fun h4 ho4 k4 => ?_
      rw [asK_int, i64_in (by omega) (by omega)]
      rw [hkn]
      refine ⟨ys.set (kp xs (k + q)).length xs[k + q], by simp, by simpa using hyl, ho4, ?_, ?_, ?_, k3.trans k4⟩
      · rw [List.length_append, List.length_singleton, List.take_succ_eq_append_getElem (by simp; omega), List.getElem_set_self, List.take_set_of_le (Nat.le_refl _), ht3]
      · rw [List.drop_set, if_pos (by omega)]
        exact hdd
      · simp
        omega
    · have hnn : xs[k + q] = xs[k + q - 1] := by simpa using hc
      have hkn : kp xs (k + (q + 1)) = kp xs (k + q) := by
        rw [hstep, if_neg, List.append_nil]
        rw [not_or, Classical.not_not, hz, hz1, hnn]
        exact ⟨by omega, rfl⟩
      rw [hkn]
      exact ⟨ys, rfl, hyl, ho3, ht3, hdd, by omega, k3⟩
  · have hge : k + q = xs.length := by
      have := of_decide_eq_false hc
      rw [Int.toNat_natCast, Int.toNat_natCast] at this
      omega
    rw [hge] at ht3 hle3 ⊢
    have hkl := kp_len xs xs.length
    rw [asSl_sl, asI_int]
    refine ⟨by omega, by omega, by omega, ?_⟩
    have hclr := IO.clr (i := (kp xs xs.length).length) hio3 (by omega) (K := fun w h' => asSl (.slice a xs.length cap) fun a43 l44 c45 => asI (.int .i64 ((kp xs xs.length).length : Nat)) fun n46 => 0 ≤ (((0 : Nat) : Int) : Int) ∧ (((0 : Nat) : Int) : Int) ≤ n46 ∧ n46 ≤ (c45 : Int) ∧ (fun r h' => IO h' base r (kp xs xs.length) ∧ Keep (fun k => (Value.slice a xs.length cap).ownBlock = some k) h h' ∧ (∀ k, r.ownBlock = some k → (Value.slice a xs.length cap).ownBlock = some k)) (.slice (if c45 = Int.toNat ((0 : Nat) : Int) then a43 else Option.map (fun y => Addr.add y (Int.toNat ((0 : Nat) : Int) * 1)) a43) (Int.toNat n46 - Int.toNat ((0 : Nat) : Int)) (c45 - Int.toNat ((0 : Nat) : Int))) h') fun h4 ho4 k4 => by
        rw [asSl_sl, asI_int]
        refine ⟨by decide, by omega, by omega, ?_⟩
        have hl4 : (ys.take (kp xs xs.length).length ++ List.replicate (ys.length - (kp xs xs.length).length) 0).length = ys.length := by simp; omega
        have := IO.pre (i := (kp xs xs.length).length) (by rw [IO, hl4] at ho4 ⊢; exact ho4 : IO h4 base (.slice a _ cap) _) (by omega)
        rw [List.take_append_of_le_length (by simp; omega), List.take_take, Nat.min_self, ht3] at this
        refine ⟨this, k3.trans (by rw [hyl] at k4; exact k4), fun b hb => pre_own hb⟩
    rw [hyl] at hclr
    exact hclr
end
end Go.Proofs.Ytfjkddigflijeaa
