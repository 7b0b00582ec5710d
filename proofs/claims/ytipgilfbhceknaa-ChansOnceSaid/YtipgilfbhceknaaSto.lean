/- The store of channels: how it lies in the heap. -/
import Derived.Test.YtipgilfbhceknaaRg3
namespace Go.Proofs.Ytipgilfbhceknaa
open Go Go.Sx Go.Proofs.Ytipgilfbhceknaa.Sx

/-- a channel, but its senders -/
structure C4 where
  slots : Nat
  gone : Bool
  items : List It
/-- where a channel lies -/
structure Ch where
  c : Nat
  r : Nat
  g : Option Nat
def Ch.own (x : Ch) (k : Nat) : Prop := k = x.c ∨ k = x.r ∨ x.g = some k
def pv (chs : List Ch) : List Value := chs.map fun x => .pointer (some ⟨x.c, 0, none⟩)
theorem pv_set {chs : List Ch} {k : Nat} {x x' : Ch} (hx : chs[k]? = some x) (hc : x'.c = x.c) : pv (chs.set k x') = pv chs := by
  unfold pv
  rw [List.map_set]
  refine List.ext_getElem? fun i => ?_
  by_cases hi : k = i
  · subst hi
    have hl := (List.getElem?_eq_some_iff.1 hx).1
    rw [List.getElem?_set_self (by simpa using hl), List.getElem?_map, hx, hc]
    rfl
  · rw [List.getElem?_set_ne hi]

def alive (k : Nat) (x : E4) : Bool := x.c == (k : Int) && x.s && x.h != -2
def sendN (xs : List E4) (k : Nat) : Nat := xs.countP (alive k)

structure ChAt (h : Hp) (x : Ch) (n : Nat) (y : C4) : Prop where
  blk : h[x.c]? = some (.cells (List.toArray [.pointer (some ⟨x.r, 0, none⟩), .int .i64 n, .bool y.gone]) 81 (0, 0))
  rg : Rg h x.r x.g y.slots y.items

structure Sto (h : Hp) (s p : Nat) (v lv : Value) (xs : List E4) (chs : List Ch) (sn : Nat → Nat) (ys : List C4) : Prop where
  blk : h[s]? = some (.cells (List.toArray [.pointer (some ⟨p, 0, none⟩), lv]) 61 (0, 0))
  led : Led 0 h p v xs
  own : OwnH h 0 77 1 lv chs.length (pv chs)
  len : ys.length = chs.length
  chan : ∀ k x y, chs[k]? = some x → ys[k]? = some y → ChAt h x (sn k) y
  dis : ∀ (i j : Nat) (x y : Ch), chs[i]? = some x → chs[j]? = some y → i ≠ j → x.c ≠ y.c ∧ x.r ≠ y.r ∧ (∀ G, x.g = some G → y.g ≠ some G)

def Fp (s p : Nat) (v lv : Value) (chs : List Ch) (k : Nat) : Prop := k = s ∨ k = p ∨ v.ownBlock = some k ∨ lv.ownBlock = some k ∨ ∃ x ∈ chs, x.own k

/-- what turns is of F alone, and F gets new blocks alone -/
structure Upd (F F' : Nat → Prop) (h h' : Hp) : Prop where
  keep : Keep F h h'
  more : ∀ k, F' k → F k ∨ h.size ≤ k
theorem Upd.refl (F : Nat → Prop) (h : Hp) : Upd F F h h := ⟨Keep.refl _ _, fun _ hk => .inl hk⟩
theorem Upd.of {F : Nat → Prop} {h h' : Hp} (hk : Keep (fun _ => False) h h') : Upd F F h h' := ⟨hk.mono (by simp), fun _ hk => .inl hk⟩
theorem Upd.trans {F G H : Nat → Prop} {a b c : Hp} (u : Upd F G a b) (w : Upd G H b c) : Upd F H a c :=
  ⟨u.keep.newer (w.keep.mono fun k _ hk => u.more k hk), fun k hk => (w.more k hk).elim (fun hg => u.more k hg) (fun hb => .inr (Nat.le_trans u.keep.size hb))⟩

section
variable {h h' : Hp} {s p : Nat} {v lv : Value} {xs : List E4} {chs : List Ch} {sn : Nat → Nat} {ys : List C4}
theorem Rg.gblk {b slots : Nat} {g : Option Nat} {zs : List It} (hr : Rg h b g slots zs) : ∀ G, g = some G → ∃ c, h[G]? = some (.cells c 74 (0, 0)) := by
  obtain ⟨_, ⟨rfl, _, _⟩ | ⟨G, m, f, row, rfl, hx⟩⟩ := hr
  · simp
  · intro G' e
    cases e
    exact ⟨_, hx.buf⟩
theorem ChAt.keep {x : Ch} {n : Nat} {y : C4} (hc : ChAt h x n y) {S : Nat → Prop} (hk : Keep S h h') (hn : ∀ k, x.own k → ¬ S k) : ChAt h' x n y :=
  ⟨hk.get hc.blk (hn _ (.inl rfl)), hc.rg.keep hk (hn _ (.inr (.inl rfl))) fun G hG => hn _ (.inr (.inr hG))⟩
theorem ChAt.ty {x : Ch} {n : Nat} {y : C4} (hc : ChAt h x n y) {k : Nat} (hk : x.own k) : ∃ c t, h[k]? = some (.cells c t (0, 0)) ∧ (t = 81 ∨ t = 92 ∨ t = 74) := by
  rcases hk with rfl | rfl | hg
  · exact ⟨_, _, hc.blk, .inl rfl⟩
  · obtain ⟨f, sl, hb⟩ := hc.rg.blk
    exact ⟨_, _, hb, .inr (.inl rfl)⟩
  · obtain ⟨c, hb⟩ := hc.rg.gblk _ hg
    exact ⟨_, _, hb, .inr (.inr rfl)⟩
theorem Sto.ch (hS : Sto h s p v lv xs chs sn ys) {k : Nat} {x : Ch} (hx : chs[k]? = some x) : ∃ y, ys[k]? = some y ∧ ChAt h x (sn k) y := by
  have hl := (List.getElem?_eq_some_iff.1 hx).1
  have hy : ys[k]? = some (ys[k]'(by rw [hS.len]; exact hl)) := List.getElem?_eq_getElem _
  exact ⟨_, hy, hS.chan _ _ _ hx hy⟩
theorem Sto.lt (hS : Sto h s p v lv xs chs sn ys) {k : Nat} (hk : Fp s p v lv chs k) : k < h.size := by
  rcases hk with rfl | rfl | hk | hk | ⟨x, hx, hk⟩
  · exact hp_lt hS.blk
  · exact hp_lt hS.led.blk
  · exact (hS.led.own.lt k hk).2
  · exact (hS.own.lt k hk).2
  · obtain ⟨i, hi⟩ := List.mem_iff_getElem?.1 hx
    obtain ⟨y, _, hc⟩ := hS.ch hi
    obtain ⟨c, t, hb, _⟩ := hc.ty hk
    exact hp_lt hb
theorem Sto.keep (hS : Sto h s p v lv xs chs sn ys) {S : Nat → Prop} (hk : Keep S h h') (hn : ∀ k, Fp s p v lv chs k → ¬ S k) : Sto h' s p v lv xs chs sn ys where
  blk := hk.get hS.blk (hn _ (.inl rfl))
  led := hS.led.keep hk (hn _ (.inr (.inl rfl))) fun k hk => hn _ (.inr (.inr (.inl hk)))
  own := hS.own.keep fun k hk' hlt => hk.block k hlt (hn _ (.inr (.inr (.inr (.inl hk')))))
  len := hS.len
  chan := fun k x y hx hy => (hS.chan k x y hx hy).keep hk fun i hi => hn _ (.inr (.inr (.inr (.inr ⟨x, List.mem_iff_getElem?.2 ⟨k, hx⟩, hi⟩))))
  dis := hS.dis
theorem Sto.more (hS : Sto h s p v lv xs chs sn ys) (hk : Keep (fun _ => False) h h') : Sto h' s p v lv xs chs sn ys := hS.keep hk (by simp)
theorem Sto.notLed (hS : Sto h s p v lv xs chs sn ys) {k : Nat} {c : Array Value} {t : TypeId} {f : Nat × Nat} (hb : h[k]? = some (.cells c t f)) (h1 : t ≠ 67) (h2 : t ≠ 36) : ¬ (k = p ∨ v.ownBlock = some k) := by
  rintro (e | e)
  · exact ty_ne hb hS.led.blk h1 e
  · obtain ⟨c', hc⟩ := hS.led.own.blk e
    exact ty_ne hb hc h2 rfl
theorem Sto.notCh (hS : Sto h s p v lv xs chs sn ys) {i : Nat} {x : Ch} (hx : chs[i]? = some x) {k : Nat} {c : Array Value} {t : TypeId} {f : Nat × Nat} (hb : h[k]? = some (.cells c t f)) (h1 : t ≠ 81) (h2 : t ≠ 92) (h3 : t ≠ 74) : ¬ x.own k := by
  intro hk
  obtain ⟨y, _, hc⟩ := hS.ch hx
  obtain ⟨c', t', hb', ht⟩ := hc.ty hk
  exact ty_ne hb hb' (by rintro rfl; rcases ht with ht | ht | ht <;> contradiction) rfl
theorem Sto.setLed (hS : Sto h s p v lv xs chs sn ys) {v' : Value} {xs' : List E4} (hl : Led 0 h' p v' xs') (hk : Keep (fun k => k = p ∨ v.ownBlock = some k) h h') : Sto h' s p v' lv xs' chs sn ys where
  blk := hk.get hS.blk (hS.notLed hS.blk (by decide) (by decide))
  led := hl
  own := hS.own.keep fun k hk' hlt => hk.block k hlt (by
    obtain ⟨c, hc⟩ := hS.own.blk hk'
    exact hS.notLed hc (by decide) (by decide))
  len := hS.len
  chan := fun k x y hx hy => (hS.chan k x y hx hy).keep hk fun i hi => by
    obtain ⟨c, t, hb, ht⟩ := (hS.chan k x y hx hy).ty hi
    exact hS.notLed hb (by rcases ht with rfl | rfl | rfl <;> decide) (by rcases ht with rfl | rfl | rfl <;> decide)
  dis := hS.dis
theorem Sto.updLed (_ : Sto h s p v lv xs chs sn ys) {v' : Value} (hk : Keep (fun k => k = p ∨ v.ownBlock = some k) h h') (hv : ∀ k, v'.ownBlock = some k → v.ownBlock = some k ∨ h.size ≤ k) : Upd (Fp s p v lv chs) (Fp s p v' lv chs) h h' :=
  ⟨hk.mono fun k _ hh => hh.elim (fun e => .inr (.inl e)) (fun e => .inr (.inr (.inl e))), fun k hk' => by
    rcases hk' with e | e | e | e | e
    · exact .inl (.inl e)
    · exact .inl (.inr (.inl e))
    · exact (hv k e).imp (fun e => .inr (.inr (.inl e))) id
    · exact .inl (.inr (.inr (.inr (.inl e))))
    · exact .inl (.inr (.inr (.inr (.inr e))))⟩
theorem Sto.own_ne (hS : Sto h s p v lv xs chs sn ys) {i j : Nat} {x y : Ch} (hx : chs[i]? = some x) (hy : chs[j]? = some y) (hne : i ≠ j) {k : Nat} (hk : x.own k) : ¬ y.own k := by
  obtain ⟨d1, d2, d3⟩ := hS.dis i j x y hx hy hne
  obtain ⟨a, _, ha⟩ := hS.ch hx
  obtain ⟨b, _, hb⟩ := hS.ch hy
  obtain ⟨f1, s1, h1⟩ := ha.rg.blk
  obtain ⟨f2, s2, h2⟩ := hb.rg.blk
  rintro (e | e | e)
  · subst e
    rcases hk with e | e | e
    · exact d1 e.symm
    · exact ty_ne hb.blk h1 (by decide) e
    · obtain ⟨c, hc⟩ := ha.rg.gblk _ e
      exact ty_ne hb.blk hc (by decide) rfl
  · subst e
    rcases hk with e | e | e
    · exact ty_ne h2 ha.blk (by decide) e
    · exact d2 e.symm
    · obtain ⟨c, hc⟩ := ha.rg.gblk _ e
      exact ty_ne h2 hc (by decide) rfl
  · obtain ⟨c, hc⟩ := hb.rg.gblk _ e
    rcases hk with e' | e' | e'
    · exact ty_ne hc ha.blk (by decide) e'
    · exact ty_ne hc h1 (by decide) e'
    · exact d3 _ e' e
/-- a channel turns -/
theorem Sto.setCh (hS : Sto h s p v lv xs chs sn ys) {k : Nat} {x x' : Ch} {sn' : Nat → Nat} {y' : C4} (hx : chs[k]? = some x) (hk : Keep x.own h h') (hc : ChAt h' x' (sn' k) y') (h1 : x'.c = x.c) (h2 : x'.r = x.r)
    (hg : ∀ G, x'.g = some G → x.g = some G ∨ h.size ≤ G) (hsn : ∀ j, j ≠ k → sn' j = sn j) : Sto h' s p v lv xs (chs.set k x') sn' (ys.set k y') where
  blk := hk.get hS.blk (hS.notCh hx hS.blk (by decide) (by decide) (by decide))
  led := by
    refine hS.led.keep hk (hS.notCh hx hS.led.blk (by decide) (by decide) (by decide)) fun i hi => ?_
    obtain ⟨c, hc⟩ := hS.led.own.blk hi
    exact hS.notCh hx hc (by decide) (by decide) (by decide)
  own := by
    rw [pv_set hx h1, List.length_set]
    refine hS.own.keep fun i hi hlt => hk.block i hlt ?_
    obtain ⟨c, hc⟩ := hS.own.blk hi
    exact hS.notCh hx hc (by decide) (by decide) (by decide)
  len := by simp [hS.len]
  chan := fun j z y hz hy => by
    by_cases hj : k = j
    · subst hj
      have hl := (List.getElem?_eq_some_iff.1 hx).1
      rw [List.getElem?_set_self hl] at hz
      rw [List.getElem?_set_self (by rw [hS.len]; exact hl)] at hy
      cases hz; cases hy
      exact hc
    · rw [List.getElem?_set_ne hj] at hz hy
      rw [hsn j (Ne.symm hj)]
      exact (hS.chan j z y hz hy).keep hk fun i hi => hS.own_ne hz hx (Ne.symm hj) hi
  dis := fun i j a b ha hb hne => by
    have hl := (List.getElem?_eq_some_iff.1 hx).1
    have key : ∀ j b, chs[j]? = some b → k ≠ j → x'.c ≠ b.c ∧ x'.r ≠ b.r ∧ ∀ G, x'.g = some G → b.g ≠ some G := by
      intro j b hb hne
      obtain ⟨d1, d2, d3⟩ := hS.dis k j x b hx hb hne
      refine ⟨by rw [h1]; exact d1, by rw [h2]; exact d2, fun G hG hG' => ?_⟩
      rcases hg G hG with e | e
      · exact d3 G e hG'
      · obtain ⟨y, _, hy⟩ := hS.ch hb
        have := hy.rg.lt.2 G hG'
        omega
    by_cases hi : k = i
    · subst hi
      rw [List.getElem?_set_self hl] at ha
      cases ha
      rw [List.getElem?_set_ne hne] at hb
      exact key j b hb hne
    · rw [List.getElem?_set_ne hi] at ha
      by_cases hj : k = j
      · subst hj
        rw [List.getElem?_set_self hl] at hb
        cases hb
        obtain ⟨d1, d2, d3⟩ := key i a ha hi
        exact ⟨d1.symm, d2.symm, fun G e e' => d3 G e' e⟩
      · rw [List.getElem?_set_ne hj] at hb
        exact hS.dis i j a b ha hb hne
theorem Sto.updCh (_ : Sto h s p v lv xs chs sn ys) {k : Nat} {x x' : Ch} (hx : chs[k]? = some x) (hk : Keep x.own h h') (h1 : x'.c = x.c) (h2 : x'.r = x.r) (hg : ∀ G, x'.g = some G → x.g = some G ∨ h.size ≤ G) :
    Upd (Fp s p v lv chs) (Fp s p v lv (chs.set k x')) h h' := by
  have hm : x ∈ chs := List.mem_iff_getElem?.2 ⟨k, hx⟩
  refine ⟨hk.mono fun i _ hi => .inr (.inr (.inr (.inr ⟨x, hm, hi⟩))), fun i hi => ?_⟩
  rcases hi with e | e | e | e | ⟨z, hz, e⟩
  · exact .inl (.inl e)
  · exact .inl (.inr (.inl e))
  · exact .inl (.inr (.inr (.inl e)))
  · exact .inl (.inr (.inr (.inr (.inl e))))
  · rcases List.mem_or_eq_of_mem_set hz with hz | rfl
    · exact .inl (.inr (.inr (.inr (.inr ⟨z, hz, e⟩))))
    · rcases e with e | e | e
      · exact .inl (.inr (.inr (.inr (.inr ⟨x, hm, .inl (by rw [e, h1])⟩))))
      · exact .inl (.inr (.inr (.inr (.inr ⟨x, hm, .inr (.inl (by rw [e, h2]))⟩))))
      · exact (hg i e).imp (fun e => .inr (.inr (.inr (.inr ⟨x, hm, .inr (.inr e)⟩)))) id
end
end Go.Proofs.Ytipgilfbhceknaa
