/- Faults: Order; the law TextOrders. -/
import Derived.Test.YtfpedcmempljlaaDoorO3
namespace Go.Proofs.YtfpedcmempljlaaDoor
open Go Go.Sx Go.Sx.Or Go.Proofs.YtfpedcmempljlaaDoor.Sx

theorem fil_snoc (L : List Ft) (e : Ft) : fil (L ++ [e]) = if e.1 ≠ 0 then fil L ++ [e] else fil L := by
  unfold fil
  rw [List.filter_append]
  by_cases h : e.1 ≠ 0
  · rw [if_pos h]; simp [h]
  · rw [if_neg h]
    simp only [ne_eq, Classical.not_not] at h
    simp [h]
theorem fil_len (L : List Ft) : (fil L).length ≤ L.length := List.length_filter_le _ _
theorem ordL_len (L : List Ft) : (ordL L).length ≤ L.length := by
  unfold ordL
  have h1 := kp_len (srtF (fil L)) (srtF (fil L)).length
  have h2 := (srtF_perm (fil L)).length_eq
  have h3 := fil_len L
  omega

section
variable {ω : Amb}
set_option maxRecDepth 100000 in
theorem Order_law {h : Hp} {v : Value} {L : List Ft} (hs : FAt h v L) (hl : L.length ≤ 1000) (X : List PanicEntry → Hp → Prop) :
    CallX Tryd.prog ω n_text_Order [v] h (fun r h' => FO h' h.size r (ordL L) ∧ Keep (fun _ => False) h h') X := by
  refine C_text_Order ω _ h _ X ?_
  unfold W_text_Order
  refine FAt.sl hs fun _ _ => ?_
  refine ⟨fun out t h' => ∃ i : Nat, t = .int .i64 i ∧ i ≤ L.length ∧ FO h' h.size out (fil (L.take i)) ∧ Keep (fun _ => False) h h', fun _ t _ => match t with | .int _ i => L.length - i.toNat | _ => 0, ⟨0, rfl, by omega, OwnH.nil, Keep.refl _ _⟩, ?_⟩
  rintro out _ _ h1 ⟨i, rfl, hi, ho1, k1⟩
  have hs1 := SlAt.keep hs k1
  rw [asK_int]
  refine cond_c (fun hc => ?_) (fun hc => ?_)
  · have hlt : i < L.length := by have := of_decide_eq_true hc; omega
    have hx := List.getElem?_eq_getElem hlt
    generalize L[i] = e at hx
    have htk : L.take (i + 1) = L.take i ++ [e] := by rw [List.take_add_one, hx]; rfl
    have hfl := fil_len (L.take i)
    rw [List.length_take] at hfl
    refine ⟨fun out h' => FO h' h.size out (fil (L.take (i + 1))) ∧ Keep (fun _ => False) h h', ?_, ?_⟩
    rotate_left
    · rintro out2 _ h2 ⟨ho2, k2⟩
      rw [asK_int, i64_in (by omega) (by omega)]
      exact ⟨⟨i + 1, by simp, by omega, ho2, k2⟩, by simp; omega⟩
    refine SlAt.rdS hs1 fl_len hx ?_
    refine ⟨rfl, fl_one _, storeK_local (cs := fl e) rfl ?_⟩
    have hb2 := hp_push_new (h := h1) (o := .cells (fl e).toArray 26 (0, 0))
    have kp2 := Keep.push (S := fun _ => False) h1 (.cells (fl e).toArray 26 (0, 0))
    have ho2 := OwnH.more ho1 kp2
    have k2 := k1.trans kp2
    generalize h1.push (.cells (fl e).toArray 26 (0, 0)) = h2 at *
    refine lx hb2 rfl ?_
    rw [asK_int]
    refine ⟨fun out h' => FO h' h.size out (fil (L.take (i + 1))) ∧ Keep (fun _ => False) h h', ?_, fun _ _ _ hj => hj⟩
    rw [htk, fil_snoc]
    refine cond_c (fun hc => ?_) (fun hc => ?_)
    · rw [if_pos (by simpa using hc)]
      refine ⟨_, cellsH_blk hb2 rfl, rfl, ?_⟩
      show appK Tryd.prog 22 (Array.push h2 (.cells (fl e).toArray 26 (0, 0))) out (.slice (some ⟨h2.size, 0, none⟩) 1 1) _
      refine FO.app ho2 (by omega) k2.size e fun w h3 ho3 k3 _ => ?_
      have hbo := OwnH.lt ho2
      exact ⟨ho3, k2.newer (k3.mono fun b _ hb => .inr (hbo b hb).1)⟩
    · rw [if_neg (by simpa using hc)]
      exact ⟨ho2, k2⟩
  · obtain rfl : i = L.length := by have := of_decide_eq_false hc; omega
    rw [List.take_length] at ho1
    have hfl := fil_len L
    refine CallX.use (SortF_law ho1 (by omega)) ?_
    rintro _ h2 ⟨ho2, k2⟩
    refine CallX.use (Compact_law ho2 (by rw [(srtF_perm _).length_eq]; omega)) ?_
    rintro r h3 ⟨ho3, k3⟩
    have hbo := OwnH.lt ho1
    refine ⟨ho3, (k1.newer (k2.mono fun b _ hb => .inr (hbo b hb).1)).newer (k3.mono fun b _ hb => .inr (hbo b hb).1)⟩
theorem SameF_law {h : Hp} {va vb : Value} {L : List Ft} (ha : FAt h va L) (hb : FAt h vb L) (hl : L.length ≤ 1000000) (X : List PanicEntry → Hp → Prop) :
    CallX Tryd.prog ω n_pipewrightref_SameFaults [va, vb] h (fun r h' => r = .bool true ∧ h' = h) X := by
  refine C_pipewrightref_SameFaults ω _ _ h _ X ?_
  unfold W_pipewrightref_SameFaults
  refine FAt.sl ha fun _ _ => ?_
  refine FAt.sl hb fun _ _ => ?_
  refine cond_f (by simp) ?_
  refine ⟨fun t h' => ∃ i : Nat, t = .int .i64 i ∧ i ≤ L.length ∧ h' = h, fun t _ => match t with | .int _ i => L.length - i.toNat | _ => 0, ⟨0, rfl, by omega, rfl⟩, ?_⟩
  rintro _ _ _ ⟨i, rfl, hi, hh⟩
  rw [hh]
  refine FAt.sl ha fun _ _ => ?_
  rw [asK_int]
  refine cond_c (fun hc => ?_) (fun hc => ⟨rfl, rfl⟩)
  have hlt : i < L.length := by have := of_decide_eq_true hc; omega
  have hx := List.getElem?_eq_getElem hlt
  generalize L[i] = e at hx
  refine SlAt.rdS ha fl_len hx ?_
  refine SlAt.rdS hb fl_len hx ?_
  show cond (!(pEq e e)) _ _
  refine cond_f (by rw [pEq_iff.2 rfl]; rfl) ?_
  rw [asK_int, i64_in (by omega) (by omega)]
  exact ⟨⟨i + 1, by simp, by omega, rfl⟩, by simp; omega⟩

theorem Orders_law {h : Hp} {v : Value} {L : List Ft} (hs : FAt h v L) (ht : SpTab h) (X : List PanicEntry → Hp → Prop) :
    CallX Tryd.prog ω n_pipewrightlaw_TextOrders [v] h (fun r h' => r = .bool true ∧ Keep (fun _ => False) h h') X := by
  refine C_pipewrightlaw_TextOrders ω _ h _ X ?_
  unfold W_pipewrightlaw_TextOrders
  refine CallX.use (Begun_law h ht) ?_
  rintro _ h1 ⟨rfl, k1⟩
  rw [asB_bool]
  refine cond_f rfl ?_
  have hs1 := SlAt.keep hs k1
  refine FAt.sl hs1 fun _ _ => ?_
  refine cond_c (fun hc => ⟨rfl, k1⟩) (fun hc => ?_)
  have hl : L.length ≤ 300 := by have := of_decide_eq_false hc; omega
  refine CallX.use (Order_law hs1 (by omega)) ?_
  rintro r h2 ⟨ho2, k2⟩
  have hs2 := SlAt.keep hs1 k2
  have k02 := k1.trans k2
  have hor := ordL_is L
  have hol := ordL_len L
  have hr2 := FO.at_ ho2
  generalize ordL L = o at *
  -- it rises, and is of what there was
  refine ⟨fun t h' => ∃ i : Nat, t = .int .i64 i ∧ i ≤ o.length ∧ h' = h2, fun t _ => match t with | .int _ i => o.length - i.toNat | _ => 0, ⟨0, rfl, by omega, rfl⟩, ?_⟩
  rintro _ _ _ ⟨i, rfl, hi, hh⟩
  rw [hh]
  refine FAt.sl hr2 fun _ _ => ?_
  rw [asK_int]
  refine cond_c (fun hc => ?_) (fun hc => ?_)
  · have hlt : i < o.length := by have := of_decide_eq_true hc; omega
    have hx := List.getElem?_eq_getElem hlt
    have hmem : o[i] ∈ o := List.getElem_mem hlt
    have hlast : ∀ q (hq : i = q + 1), lt2 (o[q]'(by omega)) o[i] := fun q hq => List.pairwise_iff_getElem.1 hor.1 q i (by omega) hlt (by omega)
    have hq1 : ∀ q (hq : i = q + 1), o[q]? = some (o[q]'(by omega)) := fun q hq => List.getElem?_eq_getElem (by omega)
    refine ⟨false, ?_, fun _ => cond_f rfl ?_⟩
    · refine FAt.rd0 hr2 hx ?_
      rw [asK_int]
      refine cond_f (by have := ((hor.2 _).1 hmem).2; simpa using this) ?_
      rw [asK_int]
      refine cond_c (fun hc => ?_) (fun hc => ⟨rfl, rfl⟩)
      obtain ⟨q, rfl⟩ : ∃ q, i = q + 1 := ⟨i - 1, by have := of_decide_eq_true hc; omega⟩
      have hlq := hlast q rfl
      have hxq := hq1 q rfl
      have hw : IntKind.wrap .i64 (((q + 1 : Nat) : Int) - 1) = (q : Int) := by rw [i64_in (by omega) (by omega)]; omega
      unfold lt2 at hlq
      refine FAt.rd1 hr2 hx ?_
      rw [asK_int, hw]
      refine FAt.rd1 hr2 hxq ?_
      rw [asK_int, asK_int]
      refine cond_f (decide_eq_false (by omega)) ?_
      refine FAt.rd1 hr2 hx ?_
      rw [asK_int, hw]
      refine FAt.rd1 hr2 hxq ?_
      rw [asK_int, asK_int]
      refine cond_c (fun hc => ?_) (fun hc => ⟨rfl, rfl⟩)
      have := eq_of_beq hc
      refine FAt.rd0 hr2 hx ?_
      rw [asK_int, hw]
      refine FAt.rd0 hr2 hxq ?_
      rw [asK_int, asK_int]
      refine ⟨?_, rfl⟩
      rw [decide_eq_false (by omega)]
    · have hin := ((hor.2 _).1 hmem).1
      generalize o[i] = e at hx hmem hin
      refine ⟨fun fd t h' => ∃ (f : Bool) (k : Nat), fd = .bool f ∧ t = .int .i64 k ∧ k ≤ L.length ∧ h' = h2 ∧ (f = true ↔ e ∈ L.take k), fun _ t _ => match t with | .int _ k => L.length - k.toNat | _ => 0, ⟨false, 0, rfl, rfl, by omega, rfl, by simp⟩, ?_⟩
      rintro _ _ _ _ ⟨f, k, rfl, rfl, hk, hh3, hf⟩
      rw [hh3]
      refine FAt.sl hs2 fun _ _ => ?_
      rw [asK_int]
      refine cond_c (fun hc => ?_) (fun hc => ?_)
      · have hkl : k < L.length := by have := of_decide_eq_true hc; omega
        have hy := List.getElem?_eq_getElem hkl
        generalize L[k] = y at hy
        have htk : L.take (k + 1) = L.take k ++ [y] := by rw [List.take_add_one, hy]; rfl
        refine ⟨fun fd h' => ∃ f : Bool, fd = .bool f ∧ h' = h2 ∧ (f = true ↔ e ∈ L.take (k + 1)), ?_, ?_⟩
        rotate_left
        · rintro _ _ _ ⟨f', rfl, hh4, hf'⟩
          rw [hh4, asK_int, i64_in (by omega) (by omega)]
          exact ⟨⟨f', k + 1, rfl, by simp, by omega, rfl, hf'⟩, by simp; omega⟩
        rw [asB_bool]
        refine cond_c (fun hc => ?_) (fun hc => ?_)
        · refine ⟨true, rfl, rfl, fun _ => ?_, fun _ => rfl⟩
          rw [htk]
          exact List.mem_append_left _ (hf.1 hc)
        · refine SlAt.rdS hs2 fl_len hy ?_
          refine SlAt.rdS hr2 fl_len hx ?_
          refine ⟨pEq y e, rfl, rfl, ?_⟩
          rw [pEq_iff, htk, List.mem_append, List.mem_singleton, ← hf, hc]
          exact ⟨fun h => .inr h.symm, fun h => h.elim (fun h => (by cases h)) fun h => h.symm⟩
      · obtain rfl : k = L.length := by have := of_decide_eq_false hc; omega
        rw [List.take_length] at hf
        rw [asB_bool, hf.2 hin]
        refine cond_f rfl ?_
        rw [asK_int, i64_in (by omega) (by omega)]
        exact ⟨⟨i + 1, by simp, by omega, rfl⟩, by simp; omega⟩
  -- all that there was
  refine ⟨fun t h' => ∃ k : Nat, t = .int .i64 k ∧ k ≤ L.length ∧ h' = h2, fun t _ => match t with | .int _ k => L.length - k.toNat | _ => 0, ⟨0, rfl, by omega, rfl⟩, ?_⟩
  rintro _ _ _ ⟨k, rfl, hk, hh3⟩
  rw [hh3]
  refine FAt.sl hs2 fun _ _ => ?_
  rw [asK_int]
  refine cond_c (fun hc => ?_) (fun hc => ?_)
  · have hkl : k < L.length := by have := of_decide_eq_true hc; omega
    have hy := List.getElem?_eq_getElem hkl
    have hyL : L[k] ∈ L := List.getElem_mem hkl
    generalize L[k] = y at hy hyL
    refine FAt.rd0 hs2 hy ?_
    rw [asK_int]
    refine ⟨fun fd t h' => ∃ (f : Bool) (i : Nat), fd = .bool f ∧ t = .int .i64 i ∧ i ≤ o.length ∧ h' = h2 ∧ (f = true ↔ y.1 = 0 ∨ y ∈ o.take i), fun _ t _ => match t with | .int _ i => o.length - i.toNat | _ => 0, ⟨_, 0, rfl, rfl, by omega, rfl, by simp⟩, ?_⟩
    rintro _ _ _ _ ⟨f, i, rfl, rfl, hi, hh4, hf⟩
    rw [hh4]
    refine FAt.sl hr2 fun _ _ => ?_
    rw [asK_int]
    refine cond_c (fun hc => ?_) (fun hc => ?_)
    · have hlt : i < o.length := by have := of_decide_eq_true hc; omega
      have hx := List.getElem?_eq_getElem hlt
      generalize o[i] = e at hx
      have htk : o.take (i + 1) = o.take i ++ [e] := by rw [List.take_add_one, hx]; rfl
      refine ⟨fun fd h' => ∃ f : Bool, fd = .bool f ∧ h' = h2 ∧ (f = true ↔ y.1 = 0 ∨ y ∈ o.take (i + 1)), ?_, ?_⟩
      rotate_left
      · rintro _ _ _ ⟨f', rfl, hh5, hf'⟩
        rw [hh5, asK_int, i64_in (by omega) (by omega)]
        exact ⟨⟨f', i + 1, rfl, by simp, by omega, rfl, hf'⟩, by simp; omega⟩
      rw [asB_bool]
      refine cond_c (fun hc => ?_) (fun hc => ?_)
      · refine ⟨true, rfl, rfl, fun _ => ?_, fun _ => rfl⟩
        rw [htk]
        rcases hf.1 hc with h | h
        · exact .inl h
        · exact .inr (List.mem_append_left _ h)
      · refine SlAt.rdS hs2 fl_len hy ?_
        refine SlAt.rdS hr2 fl_len hx ?_
        refine ⟨pEq y e, rfl, rfl, ?_⟩
        have hn : ¬ (y.1 = 0 ∨ y ∈ o.take i) := fun h => by
          rw [hf.2 h] at hc
          cases hc
        rw [pEq_iff, htk, List.mem_append, List.mem_singleton]
        exact ⟨fun h => .inr (.inr h), fun h => h.elim (fun h => absurd (.inl h) hn) fun h => h.elim (fun h => absurd (.inr h) hn) id⟩
    · obtain rfl : i = o.length := by have := of_decide_eq_false hc; omega
      rw [List.take_length] at hf
      have hft : f = true := by
        rw [hf]
        by_cases h0 : y.1 = 0
        · exact .inl h0
        · exact .inr ((hor.2 y).2 ⟨hyL, h0⟩)
      rw [asB_bool, hft]
      refine cond_f rfl ?_
      rw [asK_int, i64_in (by omega) (by omega)]
      exact ⟨⟨k + 1, by simp, by omega, rfl⟩, by simp; omega⟩
  -- once more
  refine CallX.use (Order_law hr2 (by omega)) ?_
  rintro r' h3 ⟨ho3, k3⟩
  have he : ordL o = o := (ordL_is o).one hor.again
  rw [he] at ho3
  refine CallX.use (SameF_law ho3.at_ (SlAt.keep hr2 k3) (by omega)) ?_
  rintro _ _ ⟨rfl, hh4⟩
  rw [hh4]
  exact ⟨rfl, k02.trans k3⟩
end
end Go.Proofs.YtfpedcmempljlaaDoor
