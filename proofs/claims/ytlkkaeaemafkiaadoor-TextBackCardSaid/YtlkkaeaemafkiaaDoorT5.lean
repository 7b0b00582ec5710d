/- TextPlaces, TextBack: by the code. -/
import Derived.Test.YtlkkaeaemafkiaaDoorT4
namespace Go.Proofs.YtlkkaeaemafkiaaDoor
open Go Go.Sx Go.Proofs.YtlkkaeaemafkiaaDoor.Sx

theorem starts_zero (bs : List UInt8) : ∀ k, (starts bs k)[0]? = some 0
  | 0 => rfl
  | k + 1 => by
    have h := starts_zero bs k
    have hp := starts_pos bs k
    unfold starts
    split
    · rw [List.getElem?_append_left hp]; exact h
    · exact h
theorem starts_nl (bs : List UInt8) : ∀ k i x, 0 < i → (starts bs k)[i]? = some x → 1 ≤ x ∧ (bs.getD (x - 1) 0).toNat = 10
  | 0, i, x, hi, hx => by
    rw [starts, List.getElem?_eq_none (by simp; omega)] at hx
    cases hx
  | k + 1, i, x, hi, hx => by
    unfold starts at hx
    split at hx
    · rename_i hb
      by_cases h1 : i < (starts bs k).length
      · rw [List.getElem?_append_left h1] at hx
        exact starts_nl bs k i x hi hx
      · rw [List.getElem?_append_right (by omega)] at hx
        match hm : i - (starts bs k).length with
        | 0 =>
          rw [hm] at hx
          simp only [List.getElem?_cons_zero, Option.some.injEq] at hx
          subst hx
          exact ⟨by omega, by rw [Nat.add_sub_cancel]; exact hb⟩
        | q + 1 => rw [hm] at hx; simp at hx
    · exact starts_nl bs k i x hi hx

theorem starts_pre (A C : List UInt8) : ∀ k, k ≤ A.length → starts (A ++ C) k = starts A k ∧ lastS (A ++ C) k = lastS A k
  | 0, _ => ⟨rfl, rfl⟩
  | k + 1, hk => by
    obtain ⟨h1, h2⟩ := starts_pre A C k (by omega)
    have e : (A ++ C).getD k 0 = A.getD k 0 := by
      rw [List.getD_eq_getElem?_getD, List.getD_eq_getElem?_getD, List.getElem?_append_left (by omega)]
    simp only [starts, lastS, e, h1, h2]
    exact ⟨trivial, trivial⟩
/-- a text behind another one and a newline -/
theorem starts_behind (A B : List UInt8) : ∀ k, k ≤ B.length → (starts (A ++ 10 :: B) (A.length + 1 + k)).length = (starts A A.length).length + (starts B k).length ∧ lastS (A ++ 10 :: B) (A.length + 1 + k) = A.length + 1 + lastS B k
  | 0, _ => by
    obtain ⟨h1, h2⟩ := starts_pre A (10 :: B) A.length (Nat.le_refl _)
    have e : (A ++ 10 :: B).getD A.length 0 = 10 := by
      rw [List.getD_eq_getElem?_getD, List.getElem?_append_right (Nat.le_refl _), Nat.sub_self]
      rfl
    simp only [Nat.add_zero, starts, lastS, e, h1]
    rw [if_pos (by decide), if_pos (by decide)]
    simp
  | k + 1, hk => by
    obtain ⟨h1, h2⟩ := starts_behind A B k (by omega)
    have e : (A ++ 10 :: B).getD (A.length + 1 + k) 0 = B.getD k 0 := by
      rw [List.getD_eq_getElem?_getD, List.getD_eq_getElem?_getD, List.getElem?_append_right (by omega), show A.length + 1 + k - A.length = k + 1 by omega]
      rfl
    rw [show A.length + 1 + (k + 1) = (A.length + 1 + k) + 1 by omega]
    simp only [starts, lastS, e]
    split
    · simp only [List.length_append, List.length_singleton]
      omega
    · exact ⟨h1, h2⟩
theorem bytes_app (a b : ByteArray) : bytesOf ((a ++ (⟨#[10]⟩ : ByteArray)) ++ b) = bytesOf a ++ 10 :: bytesOf b := by
  simp [bytesOf]
theorem size_app (a b : ByteArray) : ((a ++ (⟨#[10]⟩ : ByteArray)) ++ b).size = a.size + 1 + b.size := by
  have := congrArg List.length (bytes_app a b)
  rw [bytes_len, List.length_append, List.length_cons, bytes_len, bytes_len] at this
  omega

theorem a3 : (∀ a b c : Value, (#[a, b, c] : Array Value)[0]? = some a) ∧ (∀ a b c : Value, (#[a, b, c] : Array Value)[1]? = some b) ∧ (∀ a b c : Value, (#[a, b, c] : Array Value)[2]? = some c) := ⟨fun _ _ _ => rfl, fun _ _ _ => rfl, fun _ _ _ => rfl⟩

section
variable {ω : Amb}
theorem Places_law (s : ByteArray) (a : Int) (h : Hp) (ht : SpTab h) (X : List PanicEntry → Hp → Prop) :
    CallX Tryd.prog ω n_pipewrightlaw_TextPlaces [.string s, .int .i64 a] h (fun r h' => r = .bool true ∧ Keep (fun _ => False) h h') X := by
  refine C_pipewrightlaw_TextPlaces ω _ _ h _ X ?_
  unfold W_pipewrightlaw_TextPlaces
  refine CallX.use (Begun_law h ht) ?_
  rintro _ h1 ⟨rfl, k1⟩
  rw [asB_bool]
  refine cond_f rfl ?_
  rw [asS_str]
  refine cond_c (fun _ => ⟨rfl, k1⟩) (fun _ => ?_)
  refine CallX.use (Place_law s a h1) ?_
  rintro _ h2 ⟨k2, l, c, e, f, rfl, hp⟩
  simp only [asT_tup, a3, asO_some, asA_agg]
  refine ⟨rfl, flt_one _ _, storeK_local rfl ?_⟩
  have k3 := (k1.trans k2).trans (Keep.push h2 (.cells (flt e f).toArray 24 (0, 0)))
  have hn3 := hp_push_new (h := h2) (o := .cells (flt e f).toArray 24 (0, 0))
  generalize h2.push (.cells (flt e f).toArray 24 (0, 0)) = h3 at *
  generalize h2.size = L3 at *
  refine CallX.use (RPlace_law s a h3) ?_
  rintro _ h4 ⟨k4, l', c', e', f', rfl, hq⟩
  obtain ⟨rfl, rfl, rfl, rfl⟩ := hp.same hq
  simp only [asT_tup, a3, asO_some, asA_agg]
  refine ⟨rfl, flt_one _ _, storeK_local rfl ?_⟩
  have kp := Keep.push (S := fun _ => False) h4 (.cells (flt e f).toArray 24 (0, 0))
  have hn5 := hp_push_new (h := h4) (o := .cells (flt e f).toArray 24 (0, 0))
  have hn3' := (k4.trans kp).get hn3 (by simp)
  have k5 := (k3.trans k4).trans kp
  generalize h4.push (.cells (flt e f).toArray 24 (0, 0)) = h5 at *
  refine ⟨fun r h' => r = .bool true ∧ Keep (fun _ => False) h h', ?_, fun _ _ _ hj => hj⟩
  rw [asK_int, asK_int]
  refine cond_t (by simp) ?_
  rw [asK_int, asK_int]
  refine cond_t (by simp) ?_
  refine ⟨flt e f, cellsH_blk hn3' rfl, flt e f, cellsH_blk hn5 rfl, ?_⟩
  simp only [flt, ld]
  refine cond_t (by simp) ?_
  refine CallX.use (Lines_law s h5) ?_
  rintro r6 h6 (⟨hb, rfl, hh⟩ | ⟨hb, ho6, k6⟩)
  · rw [hh]
    refine CallX.use (RLines_law s h5) ?_
    rintro r7 h7 (⟨_, rfl, hh⟩ | ⟨hb', _⟩)
    · rw [hh]
      refine CallX.use (SameInts_law (l := []) ⟨rfl, .inl ⟨rfl, _, _, rfl⟩⟩ ⟨rfl, .inl ⟨rfl, _, _, rfl⟩⟩ (by simp)) ?_
      rintro _ _ ⟨rfl, hh⟩
      rw [hh]
      exact ⟨rfl, k5⟩
    · omega
  · refine CallX.use (RLines_law s h6) ?_
    rintro r7 h7 (⟨hb', _⟩ | ⟨_, ho7, k7⟩)
    · omega
    · have hlen := starts_len (bytesOf s) s.size
      refine CallX.use (SameInts_law (ho6.more k7).slAt ho7.slAt (by omega)) ?_
      rintro _ _ ⟨rfl, hh⟩
      rw [hh]
      exact ⟨rfl, (k5.trans k6).trans k7⟩

set_option maxHeartbeats 1000000 in
theorem Back_law (s d : ByteArray) (a : Int) (h : Hp) (ht : SpTab h) (X : List PanicEntry → Hp → Prop) :
    CallX Tryd.prog ω n_pipewrightlaw_TextBack [.string s, .string d, .int .i64 a] h (fun r h' => r = .bool true ∧ Keep (fun _ => False) h h') X := by
  refine C_pipewrightlaw_TextBack ω _ _ _ h _ X ?_
  unfold W_pipewrightlaw_TextBack
  refine CallX.use (Begun_law h ht) ?_
  rintro _ h1 ⟨rfl, k1⟩
  rw [asB_bool]
  refine cond_f rfl ?_
  refine ⟨decide (6000 < s.size ∨ 5000 < d.size), ?_, fun _ => cond_c (fun _ => ⟨rfl, k1⟩) (fun hc => ?_)⟩
  · rw [asS_str]
    refine cond_c (fun hc => ⟨?_, rfl⟩) (fun hc => ?_)
    · have := of_decide_eq_true hc
      rw [decide_eq_true (.inl (by omega))]
    · have := of_decide_eq_false hc
      rw [asS_str]
      refine ⟨?_, rfl⟩
      congr 1
      rw [Bool.eq_iff_iff]
      simp
      omega
  have hc' := of_decide_eq_false hc
  refine CallX.use (Lines_law s h1) ?_
  rintro r2 h2 (⟨hb, _⟩ | ⟨_, ho2, k2⟩)
  · omega
  refine CallX.use (Place_law s a h2) ?_
  rintro _ h3 ⟨k3, l, c, e, f, rfl, hp⟩
  simp only [asT_tup, a3, asO_some, asA_agg]
  refine ⟨rfl, flt_one _ _, storeK_local rfl ?_⟩
  have kp := Keep.push (S := fun _ => False) h3 (.cells (flt e f).toArray 24 (0, 0))
  have hn4 := hp_push_new (h := h3) (o := .cells (flt e f).toArray 24 (0, 0))
  have k4 := ((k1.trans k2).trans k3).trans kp
  have sl4 := ho2.slAt.keep (k3.trans kp)
  generalize h3.push (.cells (flt e f).toArray 24 (0, 0)) = h4 at *
  generalize h3.size = L4 at *
  have hsl := starts_len (bytesOf s) s.size
  refine ⟨decide (a < 0 ∨ (s.size : Int) < a), ?_, fun _ => ?_⟩
  · rw [asK_int]
    refine cond_c (fun hc => ⟨?_, trivial⟩) (fun hc => ?_)
    · rw [decide_eq_true (.inl (of_decide_eq_true hc))]
    · rw [asS_str, asK_int]
      refine ⟨?_, trivial⟩
      have := of_decide_eq_false hc
      congr 1
      rw [Bool.eq_iff_iff]
      simp
      omega
  refine cond_c (fun ho => ?_) (fun ho => ?_)
  · obtain ⟨_, _, e3, _⟩ := hp.out (by omega) (of_decide_eq_true ho)
    subst e3
    refine lx hn4 rfl ?_
    rw [asK_int]
    exact ⟨rfl, k4⟩
  have ho' := of_decide_eq_false ho
  obtain ⟨k, rfl⟩ : ∃ k : Nat, a = k := ⟨a.toNat, by omega⟩
  have hks : k ≤ s.size := by omega
  obtain ⟨e1, e2, e3, e4⟩ := hp.good (by omega) k rfl hks
  subst e1 e2 e3 e4
  obtain ⟨r, hr, hgt⟩ := starts_more (bytesOf s) k (s.size - k)
  rw [show k + (s.size - k) = s.size by omega] at hr
  have hpos := starts_pos (bytesOf s) k
  have hlk := starts_len (bytesOf s) k
  have hle := lastS_le (bytesOf s) k
  have hat : (starts (bytesOf s) s.size)[(starts (bytesOf s) k).length - 1]? = some (lastS (bytesOf s) k) := by rw [hr, List.getElem?_append_left (by omega)]; exact starts_last _ _
  have hlen : (starts (bytesOf s) k).length ≤ (starts (bytesOf s) s.size).length := by rw [hr, List.length_append]; omega
  have hw1 : IntKind.wrap .i64 ((((starts (bytesOf s) k).length : Nat) : Int) - 1) = (((starts (bytesOf s) k).length - 1 : Nat) : Int) := by rw [i64_in (by omega) (by omega)]; omega
  refine ⟨false, ?_, fun _ => cond_f rfl ?_⟩
  · refine lx hn4 rfl ?_
    rw [asK_int]
    refine cond_f rfl ?_
    rw [asK_int]
    refine cond_f (by simp; omega) ?_
    refine sl4.sl fun _ _ => ?_
    rw [asK_int]
    refine cond_f (by simp; omega) ?_
    rw [asK_int]
    refine cond_f (by simp; omega) ?_
    rw [asK_int, hw1]
    refine sl4.rd1 (nv_at hat) ?_
    rw [asK_int, asK_int, asK_int]
    refine ⟨?_, trivial⟩
    rw [i64_in (n := ((lastS (bytesOf s) k : Nat) : Int) + ((k : Int) + 1 - (lastS (bytesOf s) k : Nat))) (by omega) (by omega), i64_in (by omega) (by omega)]
    congr 1
    simp
    omega
  refine ⟨fun i h' => (∃ j : Nat, j ≤ (starts (bytesOf s) s.size).length ∧ i = .int .i64 j) ∧ h' = h4, fun i _ => match i with | .int _ j => (starts (bytesOf s) s.size).length - j.toNat | _ => 0, ⟨⟨0, by omega, rfl⟩, rfl⟩, ?_⟩
  rintro _ _ h5 ⟨⟨j, hj, rfl⟩, hh⟩
  rw [hh]
  refine sl4.sl fun _ _ => ?_
  rw [asK_int]
  refine cond_c (fun hlt => ?_) (fun _ => ?_)
  · have hlt : j < (starts (bytesOf s) s.size).length := by have := of_decide_eq_true hlt; omega
    have hx := List.getElem?_eq_getElem hlt
    generalize (starts (bytesOf s) s.size)[j] = x at hx
    have hxs := starts_le (bytesOf s) s.size x (List.mem_iff_getElem?.2 ⟨j, hx⟩)
    refine ⟨false, ?_, fun _ => cond_f rfl ?_⟩
    · rw [asK_int]
      by_cases hj0 : j = 0
      · subst hj0
        have hx0 : x = 0 := by
          rw [starts_zero] at hx
          cases hx
          rfl
        subst hx0
        refine cond_t rfl ?_
        refine sl4.rd1 (nv_at hx) ?_
        rw [asK_int]
        refine cond_f rfl ?_
        rw [asK_int]
        exact cond_f rfl ⟨rfl, trivial⟩
      · refine cond_f (by simp; omega) ?_
        rw [asK_int]
        refine cond_t (by simp; omega) ?_
        obtain ⟨hx1, hxn⟩ := starts_nl (bytesOf s) s.size j x (by omega) hx
        have hy : (starts (bytesOf s) s.size)[j - 1]? = some ((starts (bytesOf s) s.size)[j - 1]'(by omega)) := List.getElem?_eq_getElem _
        have hyx := List.pairwise_iff_getElem.1 (starts_up (bytesOf s) s.size) (j - 1) j (by omega) hlt (by omega)
        have hxe : (starts (bytesOf s) s.size)[j] = x := by
          rw [List.getElem?_eq_getElem hlt] at hx
          exact Option.some.inj hx
        rw [hxe] at hyx
        generalize (starts (bytesOf s) s.size)[j - 1]'(by omega) = y at hy hyx
        have hwj : IntKind.wrap .i64 ((j : Int) - 1) = ((j - 1 : Nat) : Int) := by rw [i64_in (by omega) (by omega)]; omega
        have hwx : IntKind.wrap .i64 ((x : Int) - 1) = ((x - 1 : Nat) : Int) := by rw [i64_in (by omega) (by omega)]; omega
        refine sl4.rd1 (nv_at hx) ?_
        rw [asK_int, hwj]
        refine sl4.rd1 (nv_at hy) ?_
        rw [asK_int, asK_int]
        refine cond_f (by simp; omega) ?_
        refine sl4.rd1 (nv_at hx) ?_
        rw [asS_str, asK_int]
        refine cond_f (by simp; omega) ?_
        refine sl4.rd1 (nv_at hx) ?_
        rw [asK_int, asS_str, hwx]
        refine ⟨by omega, by omega, ?_, trivial⟩
        rw [byteAt_nat, hxn]
        rfl
    · rw [asK_int, i64_in (by omega) (by omega)]
      exact ⟨⟨⟨j + 1, by omega, by simp⟩, rfl⟩, by simp; omega⟩
  · have hsz := size_app d s
    rw [asS_str]
    have e1 : ByteArray.size ⟨#[10]⟩ = 1 := rfl
    rw [e1]
    refine ⟨by omega, ?_⟩
    rw [asS_str, ByteArray.size_append, e1]
    refine ⟨by omega, ?_⟩
    rw [asS_str, asK_int]
    have hw2 : IntKind.wrap .i64 (IntKind.wrap .i64 ((d.size : Int) + 1) + (k : Int)) = ((d.size + 1 + k : Nat) : Int) := by
      rw [i64_in (n := (d.size : Int) + 1) (by omega) (by omega), i64_in (by omega) (by omega)]; omega
    rw [hw2]
    refine CallX.use (Place_law _ _ h4) ?_
    rintro _ h6 ⟨k6, l6, c6, e6, f6, rfl, hp6⟩
    obtain ⟨g1, g2, g3, g4⟩ := hp6.good (by omega) (d.size + 1 + k) rfl (by omega)
    rw [bytes_app] at g1 g2
    obtain ⟨b1, b2⟩ := starts_behind (bytesOf d) (bytesOf s) k (by rw [bytes_len]; exact hks)
    rw [bytes_len] at b1 b2
    rw [b1] at g1
    rw [b2] at g2
    subst g1 g2 g3 g4
    simp only [asT_tup, a3, asO_some, asA_agg]
    refine ⟨rfl, flt_one _ _, storeK_local rfl ?_⟩
    have kp7 := Keep.push (S := fun _ => False) h6 (.cells (flt 0 0).toArray 24 (0, 0))
    refine ⟨fun r h' => r = .bool true ∧ Keep (fun _ => False) h h', ?_, fun _ _ _ hj => hj⟩
    refine lx hp_push_new rfl ?_
    rw [asK_int]
    refine cond_t rfl ?_
    refine CallX.use (Lines_law d _) ?_
    rintro r8 h8 (⟨hb, _⟩ | ⟨_, ho8, k8⟩)
    · omega
    have hld := starts_len (bytesOf d) d.size
    refine ho8.slAt.sl fun _ _ => ?_
    rw [asK_int, asK_int, i64_in (by omega) (by omega)]
    refine cond_t (by simp; omega) ?_
    rw [asK_int, asK_int]
    exact ⟨by simp; omega, ((k4.trans k6).trans kp7).trans k8⟩
end
end Go.Proofs.YtlkkaeaemafkiaaDoor
