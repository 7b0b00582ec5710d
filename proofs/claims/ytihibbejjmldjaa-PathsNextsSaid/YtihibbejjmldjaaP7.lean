/- Ways: is it one; the same; above. -/
import Derived.Test.YtihibbejjmldjaaP6
namespace Go.Proofs.Ytihibbejjmldjaa
open Go Go.Sx Go.Sx.Pa Go.Proofs.Ytihibbejjmldjaa.Sx

def chain (L : Pa.Code) : Int → List Int → Bool
  | _, [] => true
  | x, y :: r => comes L x y && chain L y r
def isW (L : Pa.Code) : List Int → Bool
  | [] => false
  | x :: r => inR L x && chain L x r
def aboveB : List Int → List Int → Bool
  | x :: a, y :: b => if x = y then aboveB a b else decide (x > y)
  | _, _ => false
theorem mem_nI {l : List Nat} {k : Int} : k ∈ nI l ↔ ∃ m ∈ l, k = ((m : Nat) : Int) := by
  unfold nI
  rw [List.mem_map]
  exact ⟨fun ⟨m, h1, h2⟩ => ⟨m, h1, h2.symm⟩, fun ⟨m, h1, h2⟩ => ⟨m, h1, h2.symm⟩⟩
theorem comes_nx (L : Pa.Code) (x y : Int) : decide (y ∈ nI (nx L x)) = comes L x y := by
  rw [Bool.eq_iff_iff, decide_eq_true_eq, mem_nI]
  unfold nx
  by_cases hin : inR L x = true
  · rw [if_pos hin]
    have hi := hin
    unfold inR at hi
    rw [Bool.and_eq_true, decide_eq_true_eq, decide_eq_true_eq] at hi
    obtain ⟨i, rfl⟩ : ∃ i : Nat, x = i := ⟨x.toNat, by omega⟩
    rw [Int.toNat_natCast]
    have hil : i < L.length := by omega
    refine ⟨fun ⟨m, h1, h2⟩ => ?_, fun h => ?_⟩
    · subst h2
      exact (comes_iff hil).2 h1
    · have h' := h
      unfold comes at h'
      rw [Bool.and_eq_true, Bool.and_eq_true] at h'
      have hk := h'.1.2
      unfold inR at hk
      rw [Bool.and_eq_true, decide_eq_true_eq, decide_eq_true_eq] at hk
      obtain ⟨k, rfl⟩ : ∃ k : Nat, y = k := ⟨y.toNat, by omega⟩
      exact ⟨k, (comes_iff hil).1 h, rfl⟩
  · rw [if_neg hin]
    have : inR L x = false := by simpa using hin
    unfold comes
    rw [this]
    simp

section
variable {ω : Amb} {L : Pa.Code} {pa pb pc pd pv : Value}
theorem Same_law {h : Hp} {va vb : Value} {xs : List Int} (ha : IS h va xs) (hb : IS h vb xs) (hl : xs.length ≤ 1000000) (X : List PanicEntry → Hp → Prop) :
    CallX Try.prog ω n_pipewrightref_SameInts [va, vb] h (fun r h' => r = .bool true ∧ h' = h) X := by
  refine C_pipewrightref_SameInts ω _ _ h _ X ?_
  unfold W_pipewrightref_SameInts
  refine ha.sl fun _ _ => hb.sl fun _ _ => ?_
  refine cond_f (by simp) ?_
  refine ⟨fun i h' => h' = h ∧ ∃ k : Nat, i = .int .i64 k ∧ k ≤ xs.length, fun i _ => match i with | .int _ k => xs.length - k.toNat | _ => 0, ⟨rfl, 0, rfl, by omega⟩, ?_⟩
  rintro _ _ _ ⟨hh, k, rfl, hk⟩
  rw [hh]
  refine ha.sl fun _ _ => ?_
  rw [asK_int]
  refine cond_c (fun hc => ?_) (fun _ => ⟨rfl, rfl⟩)
  have hlt : k < xs.length := by have := of_decide_eq_true hc; omega
  have hx := List.getElem?_eq_getElem hlt
  refine ha.rd hx ?_
  refine hb.rd hx ?_
  rw [asK_int, asK_int]
  refine cond_f (by simp) ?_
  rw [asK_int, i64_in (by omega) (by omega)]
  exact ⟨⟨rfl, k + 1, by simp, by omega⟩, by simp; omega⟩

theorem above_law {h : Hp} {va vb : Value} {xs ys : List Int} (ha : IS h va xs) (hb : IS h vb ys) (hl : xs.length ≤ 1000000) (X : List PanicEntry → Hp → Prop) :
    CallX Try.prog ω n_pipewrightlaw_above [va, vb] h (fun r h' => r = .bool (aboveB xs ys) ∧ h' = h) X := by
  refine C_pipewrightlaw_above ω _ _ h _ X ?_
  unfold W_pipewrightlaw_above
  refine ⟨fun i h' => h' = h ∧ ∃ k : Nat, i = .int .i64 k ∧ k ≤ xs.length ∧ aboveB xs ys = aboveB (xs.drop k) (ys.drop k), fun i _ => match i with | .int _ k => xs.length - k.toNat | _ => 0, ⟨rfl, 0, rfl, by omega, rfl⟩, ?_⟩
  rintro _ _ _ ⟨hh, k, rfl, hk, he⟩
  rw [hh]
  refine ⟨decide (k < xs.length) && decide (k < ys.length), ?_, fun _ => cond_c (fun hc => ?_) (fun hc => ?_)⟩
  · refine ha.sl fun _ _ => ?_
    rw [asK_int]
    refine cond_c (fun hc => ?_) (fun hc => ?_)
    · have := of_decide_eq_true hc
      rw [decide_eq_true (by omega : k < xs.length), Bool.true_and]
      refine hb.sl fun _ _ => ?_
      rw [asK_int]
      exact ⟨by congr 1; rw [Bool.eq_iff_iff]; simp, rfl⟩
    · have := of_decide_eq_false hc
      rw [decide_eq_false (by omega : ¬ k < xs.length)]
      exact ⟨rfl, rfl⟩
  · rw [Bool.and_eq_true, decide_eq_true_eq, decide_eq_true_eq] at hc
    obtain ⟨h1, h2⟩ := hc
    have hx := List.getElem?_eq_getElem h1
    have hy := List.getElem?_eq_getElem h2
    rw [List.drop_eq_getElem_cons h1, List.drop_eq_getElem_cons h2, aboveB] at he
    refine ha.rd hx ?_
    refine hb.rd hy ?_
    rw [asK_int, asK_int]
    refine cond_c (fun hc => ?_) (fun hc => ?_)
    · have hne : xs[k] ≠ ys[k] := by simpa using hc
      rw [if_neg hne] at he
      refine ha.rd hx ?_
      refine hb.rd hy ?_
      rw [asK_int, asK_int, he]
      exact ⟨rfl, rfl⟩
    · have hne : xs[k] = ys[k] := by simpa using hc
      rw [if_pos hne] at he
      rw [asK_int, i64_in (by omega) (by omega)]
      exact ⟨⟨rfl, k + 1, by simp, by omega, he⟩, by simp; omega⟩
  · have hd : aboveB (xs.drop k) (ys.drop k) = false := by
      rw [Bool.and_eq_false_iff, decide_eq_false_iff_not, decide_eq_false_iff_not] at hc
      rcases hc with hc | hc
      · have e1 : xs.drop k = [] := List.drop_eq_nil_of_le (by omega)
        rw [e1]
        rfl
      · have e1 : ys.drop k = [] := List.drop_eq_nil_of_le (by omega)
        rw [e1]
        cases xs.drop k <;> rfl
    rw [he, hd]
    exact ⟨rfl, rfl⟩

theorem Is_law {h : Hp} (hi : InsAt h pv L) (hn : L.length ≤ 1000000) {v : Value} {l : List Int} (hs : IS h v l) (hl : l.length ≤ 1000000) (X : List PanicEntry → Hp → Prop) :
    CallX Try.prog ω n_paths_Is [.agg (prc pa pb pc pd pv).toArray, v] h (fun r h' => r = .bool (isW L l) ∧ Keep (fun _ => False) h h') X := by
  refine C_paths_Is ω _ _ h _ X ?_
  unfold W_paths_Is
  have hb1 := pb_new h (prc pa pb pc pd pv)
  have k1 := Keep.push (S := fun _ => False) h (.cells (Value.cells (.agg (prc pa pb pc pd pv).toArray)) 26 (0, 0))
  generalize Array.push h (.cells (Value.cells (.agg (prc pa pb pc pd pv).toArray)) 26 (0, 0)) = h1 at *
  refine hs.sl fun _ _ => ?_
  refine ⟨fun i h' => Keep (fun _ => False) h1 h' ∧ ∃ k : Nat, i = .int .i64 k ∧ k ≤ l.length ∧ (k = 0 ∨ (0 < k ∧ ∃ x, l[k - 1]? = some x ∧ isW L l = chain L x (l.drop k))),
    fun i _ => match i with | .int _ k => l.length - k.toNat | _ => 0, ⟨Keep.refl _ _, 0, rfl, by omega, .inl rfl⟩, ?_⟩
  rintro _ _ h2 ⟨k2, k, rfl, hk, hinv⟩
  have hi2 := hi.keep (k1.trans k2)
  have hs2 : IS h2 v l := SlAt.keep hs (k1.trans k2)
  have hb2 := k2.get hb1 (by simp)
  rw [asK_int]
  refine cond_c (fun hc => ?_) (fun hc => ?_)
  · have hlt : k < l.length := by have := of_decide_eq_true hc; omega
    have hy := List.getElem?_eq_getElem hlt
    have hdr := List.drop_eq_getElem_cons hlt
    generalize l[k] = y at hy hdr
    refine hs2.rd hy ?_
    refine ⟨fun r h' => Keep (fun _ => False) h1 h' ∧ ∃ b : Bool, r = .bool b ∧ (b = true → isW L l = false) ∧ (b = false → isW L l = chain L y (l.drop (k + 1))), ?_, ?_⟩
    · have hout : ∀ {b : Bool}, inR L y = false → b = true → (b = true → isW L l = false) ∧ (b = false → isW L l = chain L y (l.drop (k + 1))) := fun {b} hr hb => by
        subst hb
        refine ⟨fun _ => ?_, fun hb => by cases hb⟩
        rcases hinv with rfl | ⟨h0, x, hx, he⟩
        · rw [List.drop_zero] at hdr
          rw [hdr, isW, hr, Bool.false_and]
        · rw [he, hdr, chain]
          unfold comes
          rw [hr, Bool.and_false, Bool.false_and, Bool.false_and]
      rw [asK_int]
      refine cond_c (fun hc => ?_) (fun hc => ?_)
      · have := of_decide_eq_true hc
        have hr : inR L y = false := by unfold inR; rw [decide_eq_false (by omega), Bool.false_and]
        exact ⟨k2, true, rfl, hout hr rfl⟩
      have hc1 := of_decide_eq_false hc
      refine lx hb2 rfl ?_
      refine hi2.sl fun _ _ => ?_
      rw [asK_int]
      refine cond_c (fun hc => ?_) (fun hc => ?_)
      · have := of_decide_eq_true hc
        have hr : inR L y = false := by unfold inR; rw [decide_eq_false (by omega : ¬ y < (L.length : Int)), Bool.and_false]
        exact ⟨k2, true, rfl, hout hr rfl⟩
      have hc2 := of_decide_eq_false hc
      have hr : inR L y = true := by unfold inR; simp; omega
      rw [asK_int]
      refine cond_c (fun hc => ?_) (fun hc => ?_)
      · have h0 : 0 < k := by have := of_decide_eq_true hc; omega
        obtain ⟨_, x, hx, he⟩ := hinv.resolve_left (by omega)
        refine ⟨_, cellsH_blk hb2 rfl, ?_⟩
        rw [asK_int]
        have hw : IntKind.wrap .i64 ((k : Int) - 1) = ((k - 1 : Nat) : Int) := by rw [i64_in (by omega) (by omega)]; omega
        rw [hw]
        refine hs2.rd hx ?_
        refine CallX.use (Next_law hi2 hn x) ?_
        rintro r3 h3 ⟨ho3, k3⟩
        have := nx_len L x
        refine CallX.use (Contains_law ho3.slAt (by rw [nI_len]; omega) y) ?_
        rintro _ _ ⟨rfl, hh⟩
        rw [hh, asB_bool, comes_nx]
        refine ⟨k2.trans k3, _, rfl, fun hb => ?_, fun hb => ?_⟩
        · have : comes L x y = false := by simpa using hb
          rw [he, hdr, chain, this, Bool.false_and]
        · have : comes L x y = true := by simpa using hb
          rw [he, hdr, chain, this, Bool.true_and]
      · have h0 : k = 0 := by have := of_decide_eq_false hc; omega
        subst h0
        rw [List.drop_zero] at hdr
        refine ⟨k2, false, rfl, fun hb => (by cases hb), fun _ => ?_⟩
        conv => lhs; rw [hdr]
        rw [isW, hr, Bool.true_and]
    · rintro _ _ h3 ⟨k3, b, rfl, hb1', hb2'⟩
      rw [asB_bool]
      refine cond_c (fun hc => ?_) (fun hc => ?_)
      · rw [hb1' hc]
        exact ⟨rfl, k1.trans k3⟩
      · rw [asK_int, i64_in (by omega) (by omega)]
        exact ⟨⟨k3, k + 1, by simp, by omega, .inr ⟨by omega, y, by rw [Nat.add_sub_cancel]; exact hy, hb2' hc⟩⟩, by simp; omega⟩
  · have hke : k = l.length := by have := of_decide_eq_false hc; omega
    refine hs2.sl fun _ _ => ?_
    refine ⟨?_, k1.trans k2⟩
    congr 1
    rcases hinv with h0 | ⟨h0, x, hx, he⟩
    · have : l = [] := List.eq_nil_of_length_eq_zero (by omega)
      rw [this]
      rfl
    · rw [he, hke, List.drop_length, chain]
      simp
      omega

theorem IsWay_law {h : Hp} (hi : InsAt h pv L) (hn : L.length ≤ 1000000) {v : Value} {l : List Int} (hs : IS h v l) (hl : l.length ≤ 1000000) (X : List PanicEntry → Hp → Prop) :
    CallX Try.prog ω n_pipewrightref_IsWay [.agg (prc pa pb pc pd pv).toArray, v] h (fun r h' => r = .bool (isW L l) ∧ Keep (fun _ => False) h h') X := by
  refine C_pipewrightref_IsWay ω _ _ h _ X ?_
  unfold W_pipewrightref_IsWay
  have hb1 := pb_new h (prc pa pb pc pd pv)
  have k1 := Keep.push (S := fun _ => False) h (.cells (Value.cells (.agg (prc pa pb pc pd pv).toArray)) 26 (0, 0))
  have hi1 := hi.keep k1
  have hs1 : IS _ v l := SlAt.keep hs k1
  generalize Array.push h (.cells (Value.cells (.agg (prc pa pb pc pd pv).toArray)) 26 (0, 0)) = h1 at *
  cases l with
  | nil =>
    refine ⟨true, ?_, fun _ => cond_t rfl ⟨rfl, k1⟩⟩
    refine hs1.sl fun _ _ => ?_
    exact cond_t rfl ⟨rfl, rfl⟩
  | cons x0 l0 =>
    refine ⟨!inR L x0, ?_, fun _ => cond_c (fun hc => ?_) (fun hc => ?_)⟩
    · refine hs1.sl fun _ _ => ?_
      refine cond_f (by simp; omega) ?_
      refine IS.rd0 hs1 (i := 0) (x := x0) rfl rfl ?_
      unfold inR
      rw [asK_int]
      refine cond_c (fun hc => ?_) (fun hc => ?_)
      · have := of_decide_eq_true hc
        rw [decide_eq_false (by omega)]
        exact ⟨rfl, rfl⟩
      have hc1 := of_decide_eq_false hc
      refine IS.rd0 hs1 (i := 0) (x := x0) rfl rfl ?_
      refine lx hb1 rfl ?_
      refine hi1.sl fun _ _ => ?_
      rw [asK_int]
      refine ⟨?_, rfl⟩
      congr 1
      rw [Bool.eq_iff_iff]
      simp
      omega
    · have : inR L x0 = false := by simpa using hc
      rw [isW, this]
      exact ⟨rfl, k1⟩
    have hr : inR L x0 = true := by simpa using hc
    refine ⟨fun i h' => Keep (fun _ => False) h1 h' ∧ ∃ k : Nat, i = .int .i64 k ∧ k ≤ (x0 :: l0).length ∧ 0 < k ∧ ∃ x, (x0 :: l0)[k - 1]? = some x ∧ isW L (x0 :: l0) = chain L x ((x0 :: l0).drop k),
      fun i _ => match i with | .int _ k => (x0 :: l0).length - k.toNat | _ => 0, ⟨Keep.refl _ _, 1, rfl, by simp, by omega, x0, rfl, by rw [isW, hr, Bool.true_and]; rfl⟩, ?_⟩
    rintro _ _ h2 ⟨k2, k, rfl, hk, h0, x, hx, he⟩
    have hi2 := hi1.keep k2
    have hs2 : IS h2 v (x0 :: l0) := SlAt.keep hs1 k2
    have hb2 := k2.get hb1 (by simp)
    refine hs2.sl fun _ _ => ?_
    rw [asK_int]
    refine cond_c (fun hc => ?_) (fun hc => ?_)
    · have hlt : k < (x0 :: l0).length := by have := of_decide_eq_true hc; omega
      have hy := List.getElem?_eq_getElem hlt
      have hdr := List.drop_eq_getElem_cons hlt
      generalize (x0 :: l0)[k] = y at hy hdr
      refine ⟨_, cellsH_blk hb2 rfl, ?_⟩
      rw [asK_int]
      have hw : IntKind.wrap .i64 ((k : Int) - 1) = ((k - 1 : Nat) : Int) := by rw [i64_in (by omega) (by omega)]; omega
      rw [hw]
      refine hs2.rd hx ?_
      refine hs2.rd hy ?_
      refine CallX.use (Comes_law hi2 hn x y) ?_
      rintro _ h3 ⟨rfl, k3⟩
      rw [hdr, chain] at he
      rw [asB_bool]
      refine cond_c (fun hc => ?_) (fun hc => ?_)
      · have : comes L x y = false := by simpa using hc
        rw [he, this]
        exact ⟨rfl, (k1.trans k2).trans k3⟩
      · have : comes L x y = true := by simpa using hc
        rw [this, Bool.true_and] at he
        rw [asK_int, i64_in (by omega) (by omega)]
        exact ⟨⟨k2.trans k3, k + 1, by simp, by omega, by omega, y, by rw [Nat.add_sub_cancel]; exact hy, he⟩, by simp at hlt ⊢; omega⟩
    · have hke : k = (x0 :: l0).length := by have := of_decide_eq_false hc; omega
      rw [he, hke, List.drop_length]
      exact ⟨rfl, k1.trans k2⟩
end
end Go.Proofs.Ytihibbejjmldjaa
