/- Words for structs: a struct's cells in a row, local copies, rows of structs. -/
import Derived.Test.YtkeeboomikkojaaGreatDoorSxRow
namespace Go.Sx

theorem ty_ne {h : Hp} {a b : Nat} {c c' : Array Value} {t t' : TypeId} {f f' : Nat × Nat} (ha : h[a]? = some (.cells c t f)) (hb : h[b]? = some (.cells c' t' f')) (hne : t ≠ t') : a ≠ b := by
  rintro rfl
  rw [ha] at hb
  cases hb
  exact hne rfl
theorem OwnH.blk {h : Hp} {base n sz : Nat} {t : TypeId} {v : Value} {ys : List Value} (ho : OwnH h base t sz v n ys) {G : Nat} (hG : v.ownBlock = some G) : ∃ c, h[G]? = some (.cells c t (0, 0)) := by
  rcases ho.2 with ⟨rfl, _⟩ | ⟨g, o, cap, cur, rfl, _, hg, _⟩
  · cases hG
  · simp only [Value.ownBlock, Option.some.injEq] at hG
    subst hG
    exact ⟨_, hg⟩

/-! ### a local copy -/
theorem spl_all {z : Array Value} {cs : List Value} (hl : cs.length = z.size) : spl z 0 cs = cs.toArray := by
  apply Array.ext'
  simp [spl, hl, List.drop_eq_nil_of_le]
theorem set_push {h : Hp} {o o' : Obj} : (h.push o).setIfInBounds h.size o' = h.push o' := by
  apply Array.ext'
  simp
theorem storeK_local {h : Hp} {z : Array Value} {t : TypeId} {cs : List Value} {K : Hp → Prop} (hl : cs.length = z.size) (hk : K (h.push (.cells cs.toArray t (0, 0)))) :
    storeK (h.push (.cells z t (0, 0))) ⟨h.size, 0, none⟩ cs K := by
  refine storeK_of hp_push_new (by omega) ?_
  rw [spl_all hl, set_push]
  exact hk
theorem cellH_local {h : Hp} {cs : List Value} {t : TypeId} {f : Nat × Nat} {j : Nat} {v : Value} (hv : cs[j]? = some v) : cellH (h.push (.cells cs.toArray t f)) ⟨h.size, j, none⟩ = some v := by
  rw [cellH_block hp_push_new]
  simpa using hv
theorem cellsH_local {h : Hp} {cs : List Value} {t : TypeId} {f : Nat × Nat} {n : Nat} (hl : cs.length = n) : cellsH (h.push (.cells cs.toArray t f)) ⟨h.size, 0, none⟩ n cs :=
  ⟨hl, fun j v hv => by rw [addr_add, Nat.zero_add]; exact cellH_local hv⟩
theorem cellH_old {h : Hp} {o : Obj} {a : Addr} {v : Value} (hv : cellH h a = some v) : cellH (h.push o) a = some v :=
  (Keep.push (S := fun _ => False) h o).cell hv (by simp)

/-! ### a row of structs -/
section
variable {α : Type} {f : α → List Value} {sz : Nat}
theorem flat_len (hf : ∀ e, (f e).length = sz) : ∀ es : List α, (es.flatMap f).length = es.length * sz
  | [] => by simp
  | e :: es => by rw [List.flatMap_cons, List.length_append, hf, flat_len hf es, List.length_cons, Nat.add_mul]; omega
theorem flat_at (hf : ∀ e, (f e).length = sz) : ∀ {es : List α} {i : Nat} {e : α}, es[i]? = some e → ((es.flatMap f).drop (i * sz)).take sz = f e
  | [], _, _, h => by simp at h
  | x :: es, 0, e, h => by
    simp at h
    subst h
    rw [Nat.zero_mul, List.drop_zero, List.flatMap_cons, List.take_append_of_le_length (by rw [hf]; omega), List.take_of_length_le (by rw [hf]; omega)]
  | x :: es, i + 1, e, h => by
    simp at h
    rw [List.flatMap_cons, Nat.add_mul, Nat.one_mul, List.drop_append, List.drop_eq_nil_of_le (by rw [hf]; omega), List.nil_append, hf, Nat.add_sub_cancel]
    exact flat_at hf h
theorem flat_get (hf : ∀ e, (f e).length = sz) {es : List α} {i o : Nat} {e : α} (hi : es[i]? = some e) (ho : o < sz) : (es.flatMap f)[i * sz + o]? = (f e)[o]? := by
  rw [← flat_at hf hi, List.getElem?_take, if_pos ho, List.getElem?_drop]
theorem flat_set (hf : ∀ e, (f e).length = sz) {v : Value} {o : Nat} (ho : o < sz) {e' : α} : ∀ {es : List α} {i : Nat} {e : α}, es[i]? = some e → f e' = (f e).set o v → (es.flatMap f).set (i * sz + o) v = (es.set i e').flatMap f
  | [], _, _, h, _ => by simp at h
  | x :: es, 0, e, h, he => by
    simp at h
    subst h
    rw [Nat.zero_mul, Nat.zero_add, List.flatMap_cons, List.set_append_left _ _ (by rw [hf]; exact ho), List.set_cons_zero, List.flatMap_cons, he]
  | x :: es, i + 1, e, h, he => by
    simp at h
    rw [List.flatMap_cons, List.set_append_right _ _ (by rw [hf]; rw [Nat.add_mul]; omega), List.set_cons_succ, List.flatMap_cons, ← flat_set hf ho h he]
    congr 2
    rw [hf, Nat.add_mul]
    omega

/-- cells that are, chunk by chunk, structs -/
theorem flat_of (hf : ∀ e, (f e).length = sz) : ∀ {n : Nat} {cs : List Value}, cs.length = n * sz → (∀ i, i < n → ∃ e, (cs.drop (i * sz)).take sz = f e) → ∃ es : List α, es.length = n ∧ cs = es.flatMap f
  | 0, cs, hl, _ => ⟨[], rfl, by simpa using hl⟩
  | n + 1, cs, hl, h => by
    obtain ⟨e, he⟩ := h 0 (by omega)
    rw [Nat.zero_mul, List.drop_zero] at he
    rw [Nat.add_mul, Nat.one_mul] at hl
    obtain ⟨es, h1, h2⟩ := flat_of hf (n := n) (cs := cs.drop sz) (by rw [List.length_drop]; omega) fun i hi => by
      obtain ⟨e, he⟩ := h (i + 1) (by omega)
      exact ⟨e, by rw [List.drop_drop, ← he, Nat.add_mul, Nat.one_mul, Nat.add_comm]⟩
    exact ⟨e :: es, by simp [h1], by rw [List.flatMap_cons, ← h2, ← he, List.take_append_drop]⟩

theorem flat_take (hf : ∀ e, (f e).length = sz) : ∀ (es : List α) (i : Nat), (es.flatMap f).take (i * sz) = (es.take i).flatMap f
  | [], i => by simp
  | x :: es, 0 => by simp
  | x :: es, i + 1 => by
    rw [List.flatMap_cons, List.take_succ_cons, List.flatMap_cons, Nat.add_mul, Nat.one_mul, List.take_append, List.take_of_length_le (by rw [hf]; omega), hf, Nat.add_sub_cancel, flat_take hf es i]
theorem flat_drop (hf : ∀ e, (f e).length = sz) : ∀ (es : List α) (i : Nat), (es.flatMap f).drop (i * sz) = (es.drop i).flatMap f
  | [], i => by simp
  | x :: es, 0 => by simp
  | x :: es, i + 1 => by
    rw [List.flatMap_cons, List.drop_succ_cons, Nat.add_mul, Nat.one_mul, List.drop_append, List.drop_eq_nil_of_le (by rw [hf]; omega), List.nil_append, hf, Nat.add_sub_cancel, flat_drop hf es i]
theorem flat_spl (hf : ∀ e, (f e).length = sz) {es : List α} {j : Nat} {e : α} (hj : j < es.length) : spl (es.flatMap f).toArray (j * sz) (f e) = ((es.set j e).flatMap f).toArray := by
  simp only [spl, hf]
  rw [show j * sz + sz = (j + 1) * sz by rw [Nat.add_mul, Nat.one_mul], flat_take hf, flat_drop hf, List.set_eq_take_append_cons_drop, if_pos hj, List.flatMap_append, List.flatMap_cons]

theorem zeroRow_flat (hf : ∀ e, (f e).length = sz) (e : α) (n : Nat) : zeroRow (f e) n = ((List.replicate n e).flatMap f).toArray := by
  apply Array.ext'
  refine List.ext_getElem? fun k => ?_
  have hl := flat_len hf (List.replicate n e)
  rw [List.length_replicate] at hl
  by_cases hk : k < n * sz
  · have hs : 0 < sz := by
      rcases Nat.eq_zero_or_pos sz with h0 | h0
      · rw [h0, Nat.mul_zero] at hk; omega
      · exact h0
    have hi : k / sz < n := Nat.div_lt_of_lt_mul (by rwa [Nat.mul_comm])
    have hm : k % sz < sz := Nat.mod_lt _ hs
    have := flat_get hf (es := List.replicate n e) (i := k / sz) (o := k % sz) (e := e) (by simp [hi]) hm
    rw [show k / sz * sz + k % sz = k by rw [Nat.mul_comm]; exact Nat.div_add_mod _ _] at this
    rw [this]
    simp [zeroRow, hf, hk, hm]
  · rw [List.getElem?_eq_none (by simp [zeroRow, hf]; omega), List.getElem?_eq_none (by rw [List.toList_toArray]; omega)]

theorem SlAt.rdS {h : Hp} {v : Value} {es : List α} (hs : SlAt h sz v es.length (es.flatMap f)) (hf : ∀ e, (f e).length = sz) {i : Nat} {e : α} (hi : es[i]? = some e) {K : List Value → Prop} (hk : K (f e)) :
    asSl1 v fun a l _ => 0 ≤ (i : Int) ∧ (i : Int) < (l : Int) ∧ ∃ C, cellsH h (Addr.add a (Int.toNat (i : Int) * sz)) sz C ∧ K C := by
  have hl := (List.getElem?_eq_some_iff.1 hi).1
  rcases hs.2 with ⟨h0, _⟩ | ⟨b, o, cap, rfl, hc⟩
  · omega
  · rw [asSl1_sl]
    refine ⟨by omega, by omega, f e, ⟨hf e, fun j u hu => ?_⟩, hk⟩
    have hj : j < sz := by rw [← hf e]; exact (List.getElem?_eq_some_iff.1 hu).1
    rw [addr_add, addr_add, Int.toNat_natCast, Nat.add_assoc]
    exact hc _ u (by rw [flat_get hf hi hj]; exact hu)
theorem SlAt.rdT {h : Hp} {v : Value} {es : List α} (hs : SlAt h sz v es.length (es.flatMap f)) (hf : ∀ e, (f e).length = sz) {i o : Nat} {e : α} (hi : es[i]? = some e) {u : Value} (hu : (f e)[o]? = some u) {K : Value → Prop} (hk : K u) :
    asSl1 v fun a l _ => 0 ≤ (i : Int) ∧ (i : Int) < (l : Int) ∧ ∃ w, cellH h (Addr.add (Addr.add a (Int.toNat (i : Int) * sz)) o) = some w ∧ K w :=
  hs.rdF (List.getElem?_eq_some_iff.1 hi).1 (by rw [flat_get hf hi (by rw [← hf e]; exact (List.getElem?_eq_some_iff.1 hu).1)]; exact hu) hk

theorem OwnH.storeF {h : Hp} {base : Nat} {t : TypeId} {v : Value} {es : List α} (hs : OwnH h base t sz v es.length (es.flatMap f)) (hf : ∀ e, (f e).length = sz) {i o : Nat} {e e' : α} (hi : es[i]? = some e) {u : Value} (ho : o < sz)
    (he : f e' = (f e).set o u) {K : Hp → Prop} (hk : ∀ h', OwnH h' base t sz v (es.set i e').length ((es.set i e').flatMap f) → Keep (fun k => v.ownBlock = some k) h h' → K h') :
    asSl1 v fun a l _ => 0 ≤ (i : Int) ∧ (i : Int) < (l : Int) ∧ storeK1 h (Addr.add (Addr.add a (Int.toNat (i : Int) * sz)) o) u K := by
  have hl := (List.getElem?_eq_some_iff.1 hi).1
  rcases hs.2 with ⟨rfl, h0⟩ | ⟨g, p, cap, cur, rfl, hb, hg, hnc, hcm, hcs, hx⟩
  · omega
  · rw [asSl1_sl]
    have hmul : (i + 1) * sz ≤ cap * sz := Nat.mul_le_mul_right sz (by omega)
    rw [Nat.add_mul, Nat.one_mul] at hmul
    refine ⟨by omega, by omega, ?_⟩
    rw [addr_add, addr_add, Int.toNat_natCast]
    refine storeK1_of hg (by omega) (hk _ ⟨flat_len hf _, .inr ⟨g, p, cap, _, by rw [List.length_set], hb, hp_set_same hg, by simpa using hnc, hcm, by simpa using hcs, ?_⟩⟩ (Keep.set (S := fun k => _ = some k) _ rfl))
    rw [← flat_set hf ho hi he, ← hx, Array.toList_setIfInBounds, List.drop_set, if_neg (by omega), List.take_set, List.length_set]
    congr 1
    omega
end
end Go.Sx
