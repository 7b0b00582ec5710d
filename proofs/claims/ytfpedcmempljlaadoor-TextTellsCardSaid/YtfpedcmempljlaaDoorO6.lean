/- Faults: the document's Order. -/
import Derived.Test.YtfpedcmempljlaaDoorO4
import Derived.Test.YtfpedcmempljlaaDoorY8
namespace Go.Proofs.YtfpedcmempljlaaDoor
open Go Go.Sx Go.Sx.Or Go.Proofs.YtfpedcmempljlaaDoor.Sx

theorem take_snoc {L : List Ft} {i : Nat} {e : Ft} (hx : L[i]? = some e) : L.take (i + 1) = L.take i ++ [e] := by rw [List.take_add_one, hx]; rfl
theorem OrdIs.skip {L o : List Ft} {e : Ft} (h : OrdIs L o) (he : e.1 = 0 ∨ e ∈ o) : OrdIs (L ++ [e]) o := by
  refine ⟨h.1, fun x => ?_⟩
  rw [h.2, List.mem_append, List.mem_singleton]
  refine ⟨fun hx => ⟨.inl hx.1, hx.2⟩, fun hx => ⟨?_, hx.2⟩⟩
  rcases hx.1 with h1 | rfl
  · exact h1
  · rcases he with h2 | h2
    · exact absurd h2 hx.2
    · exact ((h.2 _).1 h2).1
theorem OrdIs.ins {L o : List Ft} {e : Ft} (h : OrdIs L o) (he : e.1 ≠ 0) {k : Nat} (hk : k ≤ o.length) (hlo : ∀ j x, j < k → o[j]? = some x → lt2 x e) (hhi : ∀ x, o[k]? = some x → lt2 e x) : OrdIs (L ++ [e]) (o.take k ++ e :: o.drop k) := by
  have hp := List.pairwise_iff_getElem.1 h.1
  have hdr : ∀ x ∈ o.drop k, lt2 e x := fun x hx => by
    obtain ⟨j, hj, rfl⟩ := List.mem_iff_getElem.1 hx
    rw [List.length_drop] at hj
    rw [List.getElem_drop]
    have hkl : k < o.length := by omega
    have h1 := hhi _ (List.getElem?_eq_getElem hkl)
    by_cases h0 : j = 0
    · subst h0
      exact h1
    · exact lt2_trans h1 (hp k (k + j) hkl (by omega) (by omega))
  have htk : ∀ x ∈ o.take k, lt2 x e := fun x hx => by
    obtain ⟨j, hj, rfl⟩ := List.mem_take_iff_getElem.1 hx
    exact hlo j _ (by omega) (List.getElem?_eq_getElem _)
  refine ⟨?_, fun x => ?_⟩
  · rw [List.pairwise_append]
    refine ⟨h.1.sublist (List.take_sublist _ _), ?_, fun x hx y hy => ?_⟩
    · rw [List.pairwise_cons]
      exact ⟨hdr, h.1.sublist (List.drop_sublist _ _)⟩
    · rcases List.mem_cons.1 hy with rfl | hy
      · exact htk x hx
      · exact lt2_trans (htk x hx) (hdr y hy)
  · have hmo : x ∈ o ↔ x ∈ o.take k ∨ x ∈ o.drop k := by
      rw [← List.mem_append, List.take_append_drop]
    rw [List.mem_append, List.mem_cons, List.mem_append, List.mem_singleton]
    have hx := h.2 x
    rw [hmo] at hx
    constructor
    · rintro (h1 | rfl | h1)
      · exact ⟨.inl (hx.1 (.inl h1)).1, (hx.1 (.inl h1)).2⟩
      · exact ⟨.inr rfl, he⟩
      · exact ⟨.inl (hx.1 (.inr h1)).1, (hx.1 (.inr h1)).2⟩
    · rintro ⟨h1 | rfl, h2⟩
      · rcases hx.2 ⟨h1, h2⟩ with h3 | h3
        · exact .inl h3
        · exact .inr (.inr h3)
      · exact .inr (.inl rfl)
theorem OrdIs.len {L o : List Ft} (h : OrdIs L o) : o.length ≤ L.length := by
  rw [h.one (ordL_is L)]
  exact ordL_len L
theorem sh_set {o : List Ft} {j : Nat} {z x : Ft} (hj : j ≤ o.length) : (o.take j ++ z :: o.drop j).set j x = o.take j ++ x :: o.drop j := by
  rw [List.set_append_right _ _ (by rw [List.length_take]; omega), List.length_take, Nat.min_eq_left hj, Nat.sub_self]
  rfl
theorem sh_len {o : List Ft} {j : Nat} {z : Ft} (hj : j ≤ o.length) : (o.take j ++ z :: o.drop j).length = o.length + 1 := by
  rw [List.length_append, List.length_take, List.length_cons, List.length_drop]
  omega
theorem sh_step {o : List Ft} {j : Nat} {z x : Ft} (hx : o[j]? = some x) : (o.take (j + 1) ++ z :: o.drop (j + 1)).set (j + 1) x = o.take j ++ x :: o.drop j := by
  have hl := (List.getElem?_eq_some_iff.1 hx).1
  rw [sh_set (by omega), take_snoc hx, drop_at hx, List.append_assoc]
  rfl

section
variable {ω : Amb}
set_option maxRecDepth 100000 in
theorem ROrder_law {h : Hp} {v : Value} {L : List Ft} (hs : FAt h v L) (hl : L.length ≤ 1000) (X : List PanicEntry → Hp → Prop) :
    CallX Tryd.prog ω n_pipewrightref_Order [v] h (fun r h' => FO h' h.size r (ordL L) ∧ Keep (fun _ => False) h h') X := by
  refine C_pipewrightref_Order ω _ h _ X ?_
  unfold W_pipewrightref_Order
  refine ⟨fun out t h' => ∃ (i : Nat) (o : List Ft), t = .int .i64 i ∧ i ≤ L.length ∧ OrdIs (L.take i) o ∧ FO h' h.size out o ∧ Keep (fun _ => False) h h', fun _ t _ => match t with | .int _ i => L.length - i.toNat | _ => 0, ⟨0, [], rfl, by omega, ⟨.nil, fun x => by simp⟩, OwnH.nil, Keep.refl _ _⟩, ?_⟩
  rintro out _ _ h1 ⟨i, o, rfl, hi, hor, ho1, k1⟩
  have hs1 := SlAt.keep hs k1
  refine FAt.sl hs1 fun _ _ => ?_
  rw [asK_int]
  refine cond_c (fun hc => ?_) (fun hc => ?_)
  rotate_left
  · obtain rfl : i = L.length := by have := of_decide_eq_false hc; omega
    rw [List.take_length] at hor
    rw [(ordL_is L).one hor]
    exact ⟨ho1, k1⟩
  have hlt : i < L.length := by have := of_decide_eq_true hc; omega
  have hx := List.getElem?_eq_getElem hlt
  generalize L[i] = e at hx
  have htk := take_snoc hx
  have hol := OrdIs.len hor
  rw [List.length_take] at hol
  refine ⟨fun out h' => ∃ o : List Ft, OrdIs (L.take (i + 1)) o ∧ FO h' h.size out o ∧ Keep (fun _ => False) h h', ?_, ?_⟩
  rotate_left
  · rintro out2 _ h2 ⟨o2, hor2, ho2, k2⟩
    rw [asK_int, i64_in (by omega) (by omega)]
    exact ⟨⟨i + 1, o2, by simp, by omega, hor2, ho2, k2⟩, by simp; omega⟩
  rw [htk]
  refine FAt.rd0 hs1 hx ?_
  rw [asK_int]
  refine cond_c (fun hc => ⟨o, OrdIs.skip hor (.inl (eq_of_beq hc)), ho1, k1⟩) (fun hc => ?_)
  have hne : e.1 ≠ 0 := beq_eq_false_iff_ne.1 hc
  refine ⟨fun t h' => ∃ k : Nat, t = .int .i64 k ∧ k ≤ o.length ∧ (∀ j x, j < k → o[j]? = some x → lt2 x e) ∧ h' = h1, fun t _ => match t with | .int _ k => o.length - k.toNat | _ => 0, ⟨0, rfl, by omega, fun _ _ h => by omega, rfl⟩, ?_⟩
  rintro _ _ _ ⟨k, rfl, hk, hlo, hh⟩
  rw [hh]
  have hr1 := FO.at_ ho1
  by_cases hkl : k < o.length
  · have hy := List.getElem?_eq_getElem hkl
    generalize o[k] = y at hy
    have hyo : y ∈ o := List.mem_iff_getElem?.2 ⟨k, hy⟩
    haveI := Classical.propDecidable (lt2 y e)
    refine ⟨decide (lt2 y e), ?_, fun _ => cond_c (fun hc => ?_) (fun hc => ?_)⟩
    · refine FAt.sl hr1 fun _ _ => ?_
      rw [asK_int]
      refine cond_t (decide_eq_true (by omega)) ?_
      refine FAt.rd1 hr1 hy ?_
      refine FAt.rd1 hs1 hx ?_
      rw [asK_int, asK_int]
      refine cond_c (fun hc => ?_) (fun hc => ?_)
      · rw [decide_eq_true (show lt2 y e from .inl (of_decide_eq_true hc))]
        exact ⟨rfl, rfl⟩
      · have h1' := of_decide_eq_false hc
        refine FAt.rd1 hr1 hy ?_
        refine FAt.rd1 hs1 hx ?_
        rw [asK_int, asK_int]
        refine cond_c (fun hc => ?_) (fun hc => ?_)
        · have h2' := eq_of_beq hc
          refine FAt.rd0 hr1 hy ?_
          refine FAt.rd0 hs1 hx ?_
          rw [asK_int, asK_int]
          refine ⟨?_, rfl⟩
          by_cases hd : y.1 < e.1
          · rw [decide_eq_true hd, decide_eq_true (show lt2 y e from .inr ⟨h2', hd⟩)]
          · rw [decide_eq_false hd, decide_eq_false (show ¬ lt2 y e from fun h => by unfold lt2 at h; omega)]
        · have h2' := beq_eq_false_iff_ne.1 hc
          refine ⟨?_, rfl⟩
          rw [decide_eq_false (show ¬ lt2 y e from fun h => by unfold lt2 at h; omega)]
    · have hly := of_decide_eq_true hc
      rw [asK_int, i64_in (by omega) (by omega)]
      refine ⟨⟨k + 1, by simp, by omega, fun j x hj hjx => ?_, rfl⟩, by simp; omega⟩
      by_cases hjk : j = k
      · subst hjk
        rw [hy] at hjx
        cases hjx
        exact hly
      · exact hlo j x (by omega) hjx
    · have hly := of_decide_eq_false hc
      refine ⟨pEq y e, ?_, fun _ => cond_c (fun hc => ?_) (fun hc => ?_)⟩
      · refine FAt.sl hr1 fun _ _ => ?_
        rw [asK_int]
        refine cond_t (decide_eq_true (by omega)) ?_
        refine SlAt.rdS hr1 fl_len hy ?_
        refine SlAt.rdS hs1 fl_len hx ?_
        exact ⟨rfl, rfl⟩
      · have := pEq_iff.1 hc
        subst this
        exact ⟨o, OrdIs.skip hor (.inr hyo), ho1, k1⟩
      · have hye := pEq_false.1 hc
        have hhi : ∀ x, o[k]? = some x → lt2 e x := fun x hx' => by
          rw [hy] at hx'
          cases hx'
          rcases lt2_tri y e with h | h | h
          · exact absurd h hly
          · exact absurd h hye
          · exact h
        refine ⟨rfl, ?_⟩
        show appK Tryd.prog 22 (Array.push h1 (.cells (fl (0, 0)).toArray 26 (0, 0))) out (.slice (some ⟨h1.size, 0, none⟩) 1 1) _
        refine FO.app ho1 (by omega) k1.size (0, 0) fun w h2 ho2 k2 _ => ?_
        have hbo := OwnH.lt ho1
        have k2 := k1.newer (k2.mono fun b _ hb => .inr (hbo b hb).1)
        refine FAt.sl ho2.at_ fun _ _ => ?_
        rw [List.length_append, List.length_singleton, i64_in (by omega) (by omega)]
        refine ⟨fun t h' => ∃ (j : Nat) (z : Ft), t = .int .i64 j ∧ k ≤ j ∧ j ≤ o.length ∧ FO h' h.size w (o.take j ++ z :: o.drop j) ∧ Keep (fun _ => False) h h', fun t _ => match t with | .int _ j => j.toNat | _ => 0, ⟨o.length, (0, 0), by simp, by omega, by omega, by simpa using ho2, k2⟩, ?_⟩
        rintro _ _ h3 ⟨j, z, rfl, hkj, hj, ho3, k3⟩
        have hs3 := SlAt.keep hs k3
        have hbo3 := OwnH.lt ho3
        rw [asK_int, asK_int]
        refine cond_c (fun hc => ?_) (fun hc => ?_)
        · obtain ⟨q, rfl⟩ : ∃ q, j = q + 1 := ⟨j - 1, by have := of_decide_eq_true hc; omega⟩
          have hq : o[q]? = some (o[q]'(by omega)) := List.getElem?_eq_getElem _
          generalize o[q]'(by omega) = x at hq
          have hw : IntKind.wrap .i64 (((q + 1 : Nat) : Int) - 1) = (q : Int) := by rw [i64_in (by omega) (by omega)]; omega
          rw [asK_int, hw]
          have hqx : (o.take (q + 1) ++ z :: o.drop (q + 1))[q]? = some x := by
            rw [List.getElem?_append_left (by rw [List.length_take]; omega), List.getElem?_take, if_pos (by omega)]
            exact hq
          refine SlAt.rdS ho3.at_ fl_len hqx ?_
          refine OwnH.storeS ho3 fl_len (i := q + 1) (by rw [sh_len (by omega)]; omega) (e' := x) (fl_one _) fun h4 ho4 k4 => ?_
          rw [asK_int, hw]
          rw [sh_step hq] at ho4
          exact ⟨⟨q, x, rfl, by have := of_decide_eq_true hc; omega, by omega, ho4, k3.newer (k4.mono fun b _ hb => .inr (hbo3 b hb).1)⟩, by simp⟩
        · obtain rfl : j = k := by have := of_decide_eq_false hc; omega
          refine SlAt.rdS hs3 fl_len hx ?_
          refine OwnH.storeS ho3 fl_len (i := j) (by rw [sh_len (by omega)]; omega) (e' := e) (fl_one _) fun h4 ho4 k4 => ?_
          rw [sh_set (by omega)] at ho4
          exact ⟨_, OrdIs.ins hor hne (by omega) hlo hhi, ho4, k3.newer (k4.mono fun b _ hb => .inr (hbo3 b hb).1)⟩
  · obtain rfl : k = o.length := by omega
    refine ⟨false, ?_, fun _ => cond_f rfl ?_⟩
    · refine FAt.sl hr1 fun _ _ => ?_
      rw [asK_int]
      refine cond_f (decide_eq_false (by omega)) ⟨rfl, rfl⟩
    refine ⟨false, ?_, fun _ => cond_f rfl ?_⟩
    · refine FAt.sl hr1 fun _ _ => ?_
      rw [asK_int]
      refine cond_f (decide_eq_false (by omega)) ⟨rfl, rfl⟩
    refine ⟨rfl, ?_⟩
    show appK Tryd.prog 22 (Array.push h1 (.cells (fl (0, 0)).toArray 26 (0, 0))) out (.slice (some ⟨h1.size, 0, none⟩) 1 1) _
    refine FO.app ho1 (by omega) k1.size (0, 0) fun w h2 ho2 k2 _ => ?_
    have hbo := OwnH.lt ho1
    have k2 := k1.newer (k2.mono fun b _ hb => .inr (hbo b hb).1)
    refine FAt.sl ho2.at_ fun _ _ => ?_
    rw [List.length_append, List.length_singleton, i64_in (by omega) (by omega)]
    refine ⟨fun t h' => t = .int .i64 (o.length : Nat) ∧ h' = h2, fun t _ => 0, ⟨by simp, rfl⟩, ?_⟩
    rintro _ _ _ ⟨rfl, hh2⟩
    have hs2 := SlAt.keep hs k2
    have hbo2 := OwnH.lt ho2
    rw [hh2, asK_int, asK_int]
    refine cond_f (decide_eq_false (by omega)) ?_
    refine SlAt.rdS hs2 fl_len hx ?_
    refine OwnH.storeS ho2 fl_len (i := o.length) (by simp) (e' := e) (fl_one _) fun h4 ho4 k4 => ?_
    have hi := OrdIs.ins hor hne (k := o.length) (by omega) hlo (fun x hx' => by simp at hx')
    rw [List.take_length, List.drop_length] at hi
    refine ⟨_, hi, ?_, k2.newer (k4.mono fun b _ hb => .inr (hbo2 b hb).1)⟩
    have hset : (o ++ [((0, 0) : Ft)]).set o.length e = o ++ [e] := by
      rw [List.set_append_right _ _ (by omega), Nat.sub_self]
      rfl
    rw [hset] at ho4
    exact ho4
end
end Go.Proofs.YtfpedcmempljlaaDoor
