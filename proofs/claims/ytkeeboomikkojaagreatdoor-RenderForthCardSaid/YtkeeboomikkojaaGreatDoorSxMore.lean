/- More words: fields of structs in blocks of their own, types of blocks, cells of a slice of one's own. -/
import Derived.Test.YtkeeboomikkojaaGreatDoorSxStr
namespace Go.Sx

theorem cellsH_blk {h : Hp} {b n : Nat} {cs : List Value} {t : TypeId} {f : Nat × Nat} (hb : h[b]? = some (.cells cs.toArray t f)) (hl : cs.length = n) : cellsH h ⟨b, 0, none⟩ n cs :=
  ⟨hl, fun j v hv => by rw [addr_add, Nat.zero_add, cellH_block hb]; simpa using hv⟩
/-- a field of a struct that lies in a block of its own -/
theorem lx {h : Hp} {b j : Nat} {cs : List Value} {t : TypeId} {f : Nat × Nat} (hb : h[b]? = some (.cells cs.toArray t f)) {u : Value} (hu : cs[j]? = some u) {K : Value → Prop} (hk : K u) :
    ∃ v, cellH h (Addr.add ⟨b, 0, none⟩ j) = some v ∧ K v :=
  ⟨u, by rw [addr_add, Nat.zero_add, cellH_block hb]; simpa using hu, hk⟩
theorem lx' {h : Hp} {b j : Nat} {cs : List Value} {t : TypeId} {f : Nat × Nat} (hb : h[b]? = some (.cells cs.toArray t f)) {u : Value} (hu : cs[j]? = some u) :
    cellH h (Addr.add ⟨b, 0, none⟩ j) = some u := by rw [addr_add, Nat.zero_add, cellH_block hb]; simpa using hu
theorem lxn {h : Hp} {b j : Nat} {cs : List Value} {t : TypeId} {f : Nat × Nat} (hb : h[b]? = some (.cells cs.toArray t f)) {u : Value} (hu : cs[j]? = some u) {K : Value → Prop} (hk : K u) :
    ∃ v, cellH h ⟨b, j, none⟩ = some v ∧ K v := ⟨u, by rw [cellH_block hb]; simpa using hu, hk⟩

theorem drop_at {α : Type} {xs : List α} {j : Nat} {x : α} (hx : xs[j]? = some x) : xs.drop j = x :: xs.drop (j + 1) := by
  obtain ⟨hl, rfl⟩ := List.getElem?_eq_some_iff.1 hx
  exact List.drop_eq_getElem_cons hl
theorem set_get {α : Type} {l : List α} {i j : Nat} {a x : α} (h : (l.set i a)[j]? = some x) : (i = j ∧ x = a ∧ i < l.length) ∨ (i ≠ j ∧ l[j]? = some x) := by
  by_cases hij : i = j
  · subst hij
    have hl := (List.getElem?_eq_some_iff.1 h).1
    rw [List.length_set] at hl
    rw [List.getElem?_set_self hl] at h
    cases h
    exact .inl ⟨rfl, rfl, hl⟩
  · rw [List.getElem?_set_ne hij] at h
    exact .inr ⟨hij, h⟩
theorem setSame {α : Type} {l : List α} {i : Nat} {x : α} (hx : l[i]? = some x) : l.set i x = l := by
  refine List.ext_getElem? fun j => ?_
  by_cases hj : i = j
  · subst hj
    rw [List.getElem?_set_self (List.getElem?_eq_some_iff.1 hx).1, hx]
  · rw [List.getElem?_set_ne hj]

theorem ownOne {h : Hp} {base n sz : Nat} {t : TypeId} {v : Value} {ys : List Value} (ho : OwnH h base t sz v n ys) : one v := by
  rcases ho.shape with ⟨rfl, _, _⟩ | ⟨_, _, _, rfl, _⟩ <;> rfl
theorem ownNilOr {h : Hp} {base n sz : Nat} {t : TypeId} {v : Value} {ys : List Value} (ho : OwnH h base t sz v n ys) : v = .slice none 0 0 ∨ ∃ a l c, v = .slice (some a) l c := by
  rcases ho.2 with ⟨rfl, _⟩ | ⟨_, _, _, _, rfl, _⟩
  · exact .inl rfl
  · exact .inr ⟨_, _, _, rfl⟩
theorem OwnH.more {h h' : Hp} {base n sz : Nat} {t : TypeId} {v : Value} {ys : List Value} (ho : OwnH h base t sz v n ys) (hk : Keep (fun _ => False) h h') : OwnH h' base t sz v n ys :=
  ho.keep fun k _ hlt => hk.block k hlt (by simp)

/-- S has blocks of some types alone -/
def OfTy (h : Hp) (S : Nat → Prop) (T : TypeId → Prop) : Prop := ∀ k, S k → ∃ c t, h[k]? = some (.cells c t (0, 0)) ∧ T t
theorem OfTy.own {h : Hp} {base n sz : Nat} {t : TypeId} {v : Value} {ys : List Value} (ho : OwnH h base t sz v n ys) : OfTy h (fun k => v.ownBlock = some k) (fun t' => t' = t) := fun k hk => by
  obtain ⟨c, hc⟩ := ho.blk hk
  exact ⟨c, t, hc, rfl⟩
theorem OfTy.blk {h : Hp} {b : Nat} {c : Array Value} {t : TypeId} (hb : h[b]? = some (.cells c t (0, 0))) : OfTy h (fun k => k = b) (fun t' => t' = t) := fun k hk => by
  subst hk
  exact ⟨c, t, hb, rfl⟩
theorem OfTy.or {h : Hp} {S S' : Nat → Prop} {T T' : TypeId → Prop} (a : OfTy h S T) (b : OfTy h S' T') : OfTy h (fun k => S k ∨ S' k) (fun t => T t ∨ T' t) := fun k hk => by
  rcases hk with hk | hk
  · obtain ⟨c, t, h1, h2⟩ := a k hk
    exact ⟨c, t, h1, .inl h2⟩
  · obtain ⟨c, t, h1, h2⟩ := b k hk
    exact ⟨c, t, h1, .inr h2⟩
theorem OfTy.not {h : Hp} {S : Nat → Prop} {T : TypeId → Prop} (a : OfTy h S T) {k : Nat} {c : Array Value} {t : TypeId} {f : Nat × Nat} (hb : h[k]? = some (.cells c t f)) (hn : ¬ T t) : ¬ S k := fun hk => by
  obtain ⟨c', t', h1, h2⟩ := a k hk
  rw [hb] at h1
  cases h1
  exact hn h2
theorem OwnH.keepT {h h' : Hp} {base n sz : Nat} {t : TypeId} {v : Value} {ys : List Value} (ho : OwnH h base t sz v n ys) {S : Nat → Prop} {T : TypeId → Prop} (hk : Keep S h h') (hT : OfTy h S T) (hn : ¬ T t) : OwnH h' base t sz v n ys :=
  ho.keep fun k hk' hlt => hk.block k hlt (by
    obtain ⟨c, hc⟩ := ho.blk hk'
    exact hT.not hc hn)

theorem SlAt.rd1a {h : Hp} {v : Value} {n : Nat} {xs : List Value} (hs : SlAt h 1 v n xs) {i : Nat} {u : Value} (hu : xs[i]? = some u) {K : Addr → Value → Prop} (hk : ∀ a, cellH h (Addr.add a (Int.toNat (i : Int) * 1)) = some u → K a u) :
    asSl1 v fun a l _ => 0 ≤ (i : Int) ∧ (i : Int) < (l : Int) ∧ ∃ w, cellH h (Addr.add a (Int.toNat (i : Int) * 1)) = some w ∧ K a w := by
  have hi := (List.getElem?_eq_some_iff.1 hu).1
  have hl := hs.1
  rcases hs.2 with ⟨rfl, a, c, rfl⟩ | ⟨b, o, cap, rfl, hc⟩
  · omega
  · have : cellH h (Addr.add ⟨b, o, none⟩ (Int.toNat (i : Int) * 1)) = some u := by
      rw [addr_add, Int.toNat_natCast, Nat.mul_one]
      exact hc i u hu
    exact ⟨by omega, by omega, u, this, hk _ this⟩
theorem SlAt.rdTa {α : Type} {f : α → List Value} {sz : Nat} {h : Hp} {v : Value} {es : List α} (hs : SlAt h sz v es.length (es.flatMap f)) (hf : ∀ e, (f e).length = sz) {i o : Nat} {e : α} (hi : es[i]? = some e) {u : Value} (hu : (f e)[o]? = some u) {K : Addr → Value → Prop}
    (hk : ∀ a, cellH h (Addr.add (Addr.add a (Int.toNat (i : Int) * sz)) o) = some u → K a u) :
    asSl1 v fun a l _ => 0 ≤ (i : Int) ∧ (i : Int) < (l : Int) ∧ ∃ w, cellH h (Addr.add (Addr.add a (Int.toNat (i : Int) * sz)) o) = some w ∧ K a w := by
  have hl := (List.getElem?_eq_some_iff.1 hi).1
  have ho : o < sz := by rw [← hf e]; exact (List.getElem?_eq_some_iff.1 hu).1
  rcases hs.2 with ⟨h0, _⟩ | ⟨b, p, cap, rfl, hc⟩
  · omega
  · have : cellH h (Addr.add (Addr.add ⟨b, p, none⟩ (Int.toNat (i : Int) * sz)) o) = some u := by
      rw [addr_add, addr_add, Int.toNat_natCast, Nat.add_assoc]
      exact hc _ u (by rw [flat_get hf hi ho]; exact hu)
    exact ⟨by omega, by omega, u, this, hk _ this⟩

/-- one cell of a slice of one's own -/
theorem ownStore1 {h : Hp} {base n : Nat} {t : TypeId} {v : Value} {xs : List Value} (ho : OwnH h base t 1 v n xs) {i : Nat} {u : Value} (hi : i < n) {K : Hp → Prop}
    (hk : ∀ h', OwnH h' base t 1 v n (xs.set i u) → Keep (fun k => v.ownBlock = some k) h h' → K h') :
    asSl1 v fun a l _ => 0 ≤ (i : Int) ∧ (i : Int) < (l : Int) ∧ storeK1 h (Addr.add a (Int.toNat (i : Int) * 1)) u K := by
  rcases ho.2 with ⟨rfl, h0⟩ | ⟨g, p, cap, cur, rfl, hb, hg, hnc, hcm, hcs, hx⟩
  · omega
  · rw [asSl1_sl]
    refine ⟨by omega, by omega, ?_⟩
    rw [addr_add, Int.toNat_natCast, Nat.mul_one]
    refine storeK1_of hg (by omega) (hk _ ⟨by rw [List.length_set]; exact ho.1, .inr ⟨g, p, cap, _, rfl, hb, hp_set_same hg, hnc, hcm, by simpa using hcs, ?_⟩⟩ (Keep.set (S := fun k => _ = some k) _ rfl))
    rw [Array.toList_setIfInBounds, List.drop_set, if_neg (by omega), List.take_set, ← hx]
    congr 1
    omega
/-- a slice literal, or what a make has laid: a block of one's own -/
theorem ownBlk {h : Hp} {b base : Nat} {cs : List Value} {t : TypeId} {n sz : Nat} (hb : h[b]? = some (.cells cs.toArray t (0, 0))) (hl : cs.length = n * sz) (hn : n ≤ maxLen) (hbase : base ≤ b) : OwnH h base t sz (.slice (some ⟨b, 0, none⟩) n n) n cs :=
  ⟨hl, .inr ⟨b, 0, n, cs.toArray, rfl, hbase, hb, Nat.le_refl _, hn, by simp [hl], by simp [← hl]⟩⟩
theorem W_more (ω : Amb) (h : Hp) (d n : Nat) : ({ heap := h, tape := ω.tape, drawn := ω.low + d + n, os := ω.os, output := ω.output } : World) = W ω h (d + n) := by
  unfold W
  rw [Nat.add_assoc]
end Go.Sx
