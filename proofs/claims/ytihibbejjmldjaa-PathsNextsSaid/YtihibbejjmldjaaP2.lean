/- The library's calls on slices of ints. -/
import Derived.Test.YtihibbejjmldjaaP1
namespace Go.Proofs.Ytihibbejjmldjaa
open Go Go.Sx Go.Sx.Pa Go.Proofs.Ytihibbejjmldjaa.Sx

theorem IO.form {h : Hp} {base : Nat} {v : Value} {xs : List Int} (ho : IO h base v xs) : ∃ a cap, v = .slice a xs.length cap ∧ xs.length ≤ cap := by
  rcases ho.2 with ⟨rfl, hn⟩ | ⟨g, o, cap, cur, rfl, hb, hg, hnc, _⟩
  · exact ⟨none, 0, by rw [hn], by omega⟩
  · exact ⟨some ⟨g, o, none⟩, cap, rfl, hnc⟩
theorem callK_use {ω : Amb} {fv : Value} {args : List Value} {h : Hp} {R R' : Value → Hp → Prop} {X : List PanicEntry → Hp → Prop} (hc : ∀ Y, callK Try.prog ω fv args h R Y) (hr : ∀ v h', R v h' → R' v h') : callK Try.prog ω fv args h R' X := by
  have := hc X
  unfold callK at this ⊢
  split at this
  · rename_i f first captured
    cases hb : callable Try.prog f with
    | false => rw [hb] at this; exact this.elim
    | true =>
      rw [hb] at this
      exact CallX.mono this hr (fun _ _ h => h)
  · exact this.elim
theorem i64_nat {n : Nat} (h : n ≤ 9223372036854775807) : IntKind.wrap .i64 (n : Int) = (n : Int) := i64_in (by omega) (by omega)

section
variable {ω : Amb}
theorem nan_law (n : Int) (h : Hp) (X : List PanicEntry → Hp → Prop) : CallX Try.prog ω n_cmp_isNaN_int [.int .i64 n] h (fun r h' => r = .bool false ∧ h' = h) X := by
  refine C_cmp_isNaN_int ω _ h _ X ?_
  unfold W_cmp_isNaN_int
  rw [asK_int, asK_int]
  exact ⟨by simp, rfl⟩
theorem Less_law (a b : Int) (h : Hp) (X : List PanicEntry → Hp → Prop) : CallX Try.prog ω n_cmp_Less_int [.int .i64 a, .int .i64 b] h (fun r h' => r = .bool (decide (a < b)) ∧ h' = h) X := by
  refine C_cmp_Less_int ω _ _ h _ X ?_
  unfold W_cmp_Less_int
  refine ⟨fun r h' => r = .bool (decide (a < b)) ∧ h' = h, ?_, fun _ _ _ hj => hj⟩
  refine CallX.use (nan_law a h) ?_
  rintro _ _ ⟨rfl, rfl⟩
  rw [asB_bool]
  refine cond_f rfl ?_
  rw [asK_int, asK_int]
  exact ⟨rfl, rfl⟩

theorem Contains_law {h : Hp} {v : Value} {xs : List Int} (hs : IS h v xs) (hl : xs.length ≤ 1000000) (x : Int) (X : List PanicEntry → Hp → Prop) :
    CallX Try.prog ω n_slices_Contains_sl_int_int [v, .int .i64 x] h (fun r h' => r = .bool (decide (x ∈ xs)) ∧ h' = h) X := by
  refine C_slices_Contains_sl_int_int ω _ _ h _ X ?_
  unfold W_slices_Contains_sl_int_int
  have hI : ∀ Y, CallX Try.prog ω n_slices_Index_sl_int_int [v, .int .i64 x] h (fun r h' => h' = h ∧ ∃ m : Int, r = .int .i64 m ∧ (decide (m ≥ 0) = decide (x ∈ xs))) Y := by
    intro Y
    refine C_slices_Index_sl_int_int ω _ _ h _ Y ?_
    unfold W_slices_Index_sl_int_int
    refine hs.sl fun _ _ => ?_
    refine ⟨fun i h' => h' = h ∧ ∃ k : Nat, i = .int .i64 k ∧ k ≤ xs.length ∧ x ∉ xs.take k, fun i _ => match i with | .int _ k => xs.length - k.toNat | _ => 0, ⟨rfl, 0, rfl, by omega, by simp⟩, ?_⟩
    rintro _ _ _ ⟨hh, k, rfl, hk, hn⟩
    rw [hh, asK_int]
    refine cond_c (fun hc => ?_) (fun hc => ?_)
    · have hlt : k < xs.length := by have := of_decide_eq_true hc; omega
      have hx := List.getElem?_eq_getElem hlt
      refine hs.rd hx ?_
      rw [asK_int, asK_int]
      refine cond_c (fun hc => ?_) (fun hc => ?_)
      · have he := eq_of_beq hc
        exact ⟨rfl, (k : Int), rfl, by rw [decide_eq_true (by omega), decide_eq_true (by rw [he]; exact List.getElem_mem hlt)]⟩
      · have he := beq_eq_false_iff_ne.1 hc
        rw [asK_int, i64_in (by omega) (by omega)]
        refine ⟨⟨rfl, k + 1, by simp, by omega, ?_⟩, by simp; omega⟩
        rw [List.take_succ_eq_append_getElem hlt, List.mem_append, List.mem_singleton]
        rintro (h1 | h1)
        · exact hn h1
        · exact he h1
    · have hke : k = xs.length := by have := of_decide_eq_false hc; omega
      rw [hke, List.take_length] at hn
      exact ⟨rfl, -1, rfl, by rw [decide_eq_false hn]; rfl⟩
  refine CallX.use hI ?_
  rintro _ _ ⟨hh, m, rfl, hm⟩
  rw [hh, asK_int, hm]
  exact ⟨rfl, rfl⟩

theorem IdxF_law {h : Hp} {v : Value} {xs : List Int} (hs : IS h v xs) (hl : xs.length ≤ 1000000) {fv : Value} {p : Int → Bool} (hf : ∀ x ∈ xs, ∀ Y, callK Try.prog ω fv [.int .i64 x] h (fun r h' => r = .bool (p x) ∧ h' = h) Y) (X : List PanicEntry → Hp → Prop) :
    CallX Try.prog ω n_slices_IndexFunc_sl_int_int [v, fv] h (fun r h' => h' = h ∧ ∃ k : Nat, k ≤ xs.length ∧ (∀ y ∈ xs.take k, p y = false) ∧ ((k = xs.length ∧ r = .int .i64 (-1)) ∨ ∃ x, xs[k]? = some x ∧ p x = true ∧ r = .int .i64 k)) X := by
  refine C_slices_IndexFunc_sl_int_int ω _ _ h _ X ?_
  unfold W_slices_IndexFunc_sl_int_int
  refine hs.sl fun _ _ => ?_
  refine ⟨fun i h' => h' = h ∧ ∃ k : Nat, i = .int .i64 k ∧ k ≤ xs.length ∧ ∀ y ∈ xs.take k, p y = false, fun i _ => match i with | .int _ k => xs.length - k.toNat | _ => 0, ⟨rfl, 0, rfl, by omega, by simp⟩, ?_⟩
  rintro _ _ _ ⟨hh, k, rfl, hk, hn⟩
  rw [hh, asK_int]
  refine cond_c (fun hc => ?_) (fun hc => ?_)
  · have hlt : k < xs.length := by have := of_decide_eq_true hc; omega
    have hx := List.getElem?_eq_getElem hlt
    have hm : xs[k] ∈ xs := List.getElem_mem hlt
    have ht := List.take_succ_eq_append_getElem hlt
    generalize xs[k] = x at hx hm ht
    refine hs.rd hx ?_
    refine callK_use (hf x hm) ?_
    rintro _ _ ⟨rfl, hh⟩
    rw [hh, asB_bool]
    refine cond_c (fun hc => ⟨rfl, k, hk, hn, .inr ⟨x, hx, hc, rfl⟩⟩) (fun hc => ?_)
    rw [asK_int, i64_in (by omega) (by omega)]
    refine ⟨⟨rfl, k + 1, by simp, by omega, ?_⟩, by simp; omega⟩
    rw [ht]
    intro y hy
    rcases List.mem_append.1 hy with hy | hy
    · exact hn y hy
    · simp at hy
      rw [hy]
      exact hc
  · have hke : k = xs.length := by have := of_decide_eq_false hc; omega
    exact ⟨rfl, k, hk, hn, .inl ⟨hke, rfl⟩⟩

theorem Del_law {h : Hp} {base : Nat} {v : Value} {xs : List Int} (ho : IO h base v xs) (hl : xs.length ≤ 1000000) {fv : Value} {p : Int → Bool}
    (hf : ∀ h', Keep (fun k => v.ownBlock = some k) h h' → ∀ x, ∀ Y, callK Try.prog ω fv [.int .i64 x] h' (fun r h'' => r = .bool (p x) ∧ h'' = h') Y) (X : List PanicEntry → Hp → Prop) :
    CallX Try.prog ω n_slices_DeleteFunc_sl_int_int [v, fv] h (fun r h' => IO h' base r (xs.filter fun x => !p x) ∧ Keep (fun k => v.ownBlock = some k) h h' ∧ (∀ k, r.ownBlock = some k → v.ownBlock = some k)) X := by
  refine C_slices_DeleteFunc_sl_int_int ω _ _ h _ X ?_
  unfold W_slices_DeleteFunc_sl_int_int
  refine CallX.use (IdxF_law ho.slAt hl (fun x _ Y => hf h (Keep.refl _ _) x Y)) ?_
  rintro _ _ ⟨hh, k, hk, hn, hr⟩
  rw [hh]
  have hft : ∀ l : List Int, (∀ y ∈ l, p y = false) → l.filter (fun x => !p x) = l := fun l hy => List.filter_eq_self.2 fun y hm => by rw [hy y hm]; rfl
  rcases hr with ⟨rfl, rfl⟩ | ⟨x, hx, hpx, rfl⟩
  · rw [asK_int]
    refine cond_t rfl ?_
    rw [List.take_length] at hn
    rw [hft xs hn]
    exact ⟨ho, Keep.refl _ _, fun _ h => h⟩
  have hlt := (List.getElem?_eq_some_iff.1 hx).1
  rw [asK_int]
  refine cond_f (beq_eq_false_iff_ne.2 (by omega)) ?_
  obtain ⟨a, cap, hv, hcap⟩ := ho.form
  rw [asK_int, i64_in (by omega) (by omega)]
  refine ⟨fun i j h' => ∃ (i' j' : Nat) (ys : List Int), i = .int .i64 i' ∧ j = .int .i64 j' ∧ i' < j' ∧ j' ≤ xs.length ∧ ys.length = xs.length ∧ IO h' base v ys ∧ ys.take i' = (xs.take j').filter (fun x => !p x) ∧ ys.drop j' = xs.drop j' ∧ Keep (fun k => v.ownBlock = some k) h h',
    fun _ j _ => match j with | .int _ j => xs.length - j.toNat | _ => 0, ⟨k, k + 1, xs, rfl, by simp, by omega, by omega, rfl, ho, ?_, rfl, Keep.refl _ _⟩, ?_⟩
  · have ht := List.take_succ_eq_append_getElem hlt
    have he : xs[k] = x := by rw [List.getElem?_eq_getElem hlt] at hx; exact Option.some.inj hx
    rw [ht, List.filter_append, hft _ hn, he]
    simp [hpx]
  rintro _ _ _ h1 ⟨i, j, ys, rfl, rfl, hij, hj, hly, ho1, ht1, hd1, k1⟩
  refine ho1.slAt.sl fun _ _ => ?_
  rw [asK_int, hly]
  refine cond_c (fun hc => ?_) (fun hc => ?_)
  · have hlt : j < xs.length := by have := of_decide_eq_true hc; omega
    have hxj := List.getElem?_eq_getElem hlt
    have htj := List.take_succ_eq_append_getElem hlt
    generalize xs[j] = z at hxj htj
    have hyj : ys[j]? = some z := by
      have := congrArg (fun l => l[0]?) hd1
      simpa [List.getElem?_drop, hxj] using this
    refine ⟨fun r h' => ∃ (i' : Nat) (ys : List Int), r = .int .i64 i' ∧ i' < j + 1 ∧ ys.length = xs.length ∧ IO h' base v ys ∧ ys.take i' = (xs.take (j + 1)).filter (fun x => !p x) ∧ ys.drop (j + 1) = xs.drop (j + 1) ∧ Keep (fun k => v.ownBlock = some k) h h', ?_, ?_⟩
    · refine ho1.slAt.rd1 (iv_at hyj) ?_
      refine callK_use (hf h1 k1 z) ?_
      rintro _ _ ⟨rfl, hh⟩
      rw [hh, asB_bool]
      refine ⟨fun r h' => ∃ (i' : Nat) (ys : List Int), r = .int .i64 i' ∧ i' < j + 1 ∧ ys.length = xs.length ∧ IO h' base v ys ∧ ys.take i' = (xs.take (j + 1)).filter (fun x => !p x) ∧ ys.drop (j + 1) = xs.drop (j + 1) ∧ Keep (fun k => v.ownBlock = some k) h h', ?_, fun _ _ _ hj => hj⟩
      have hd2 : ys.drop (j + 1) = xs.drop (j + 1) := by
        have := congrArg (List.drop 1) hd1
        simpa [List.drop_drop] using this
      refine cond_c (fun hc => ?_) (fun hc => ?_)
      · have hpz : p z = false := by simpa using hc
        simp only [oneK_int]
        refine ho1.st (by omega) fun h2 ho2 k2 => ?_
        rw [asK_int, i64_in (by omega) (by omega)]
        refine ⟨i + 1, ys.set i z, by simp, by omega, by simpa using hly, ho2, ?_, ?_, k1.trans k2⟩
        · rw [htj, List.filter_append, ← ht1, List.take_succ_eq_append_getElem (by simp; omega), List.getElem_set_self, List.take_set_of_le (Nat.le_refl _)]
          simp [hpz]
        · rw [List.drop_set, if_pos (by omega)]
          exact hd2
      · have hpz : p z = true := by simpa using hc
        refine ⟨i, ys, rfl, by omega, hly, ho1, ?_, hd2, k1⟩
        rw [ht1, htj, List.filter_append]
        simp [hpz]
    · rintro _ _ h2 ⟨i', ys', rfl, hij', hly', ho2, ht2, hd2, k2⟩
      rw [asK_int, i64_in (by omega) (by omega)]
      exact ⟨⟨i', j + 1, ys', rfl, by simp, hij', by omega, hly', ho2, ht2, hd2, k2⟩, by simp; omega⟩
  · have hje : j = xs.length := by have := of_decide_eq_false hc; omega
    subst hje
    rw [List.take_length] at ht1
    have hil : i ≤ ys.length := by omega
    subst hv
    have hlen : ys.length = xs.length := hly
    rw [asSl_sl, asI_int]
    refine ⟨by omega, by omega, by omega, ?_⟩
    refine IO.clr (by rw [IO, hlen] at ho1; rw [IO, hlen]; exact ho1) hil fun h2 ho2 k2 => ?_
    rw [asSl_sl, asI_int]
    refine ⟨by decide, by omega, by omega, ?_⟩
    have hl2 : (ys.take i ++ List.replicate (ys.length - i) 0).length = xs.length := by simp; omega
    have := IO.pre (i := i) (by rw [IO, hl2] at ho2; rw [IO, hl2]; exact ho2) (by omega)
    rw [List.take_append_of_le_length (by simp; omega), List.take_take, Nat.min_self, ht1] at this
    refine ⟨this, k1.trans k2, fun k hk => ?_⟩
    cases a with
    | none =>
      simp only [Option.map_none, ite_self] at hk
      cases hk
    | some y =>
      have hy : (if cap = Int.toNat ((0 : Nat) : Int) then some y else Option.map (fun y => Addr.add y (Int.toNat ((0 : Nat) : Int) * 1)) (some y)) = some y := by
        split
        · rfl
        · simp [Addr.add]
      rw [hy] at hk
      exact hk
end
end Go.Proofs.Ytihibbejjmldjaa
