/- LedgerDoes: what holds between its steps. -/
import Derived.Test.YtipgilfbhceknaaLedger3
namespace Go.Proofs.Ytipgilfbhceknaa
open Go Go.Sx Go.Proofs.Ytipgilfbhceknaa.Sx
variable {ω : Amb}

structure S5 where
  d : Int
  e : Int
  home : Int
  n : Int
  send : Bool
def S5.f (x : S5) : List Value := [.int .i64 x.d, .int .i64 x.e, .int .i64 x.home, .int .i64 x.n, .bool x.send]
theorem S5.len (x : S5) : x.f.length = 5 := rfl
theorem S5.one (e : S5) : ∀ u ∈ e.f, one u := by
  intro u hu
  simp only [S5.f, List.mem_cons, List.not_mem_nil, or_false] at hu
  rcases hu with rfl | rfl | rfl | rfl | rfl <;> rfl

/-- the ledger (xs) and the book (ys) -/
structure DI (h0 h : Hp) (g b : Nat) (v w : Value) (xs ys : List E4) : Prop where
  led : Led h0.size h g v xs
  bk : h[b]? = some (.cells #[w, .slice none 0 0, .slice none 0 0, .slice none 0 0] 32 (0, 0))
  own : OwnH h h0.size 36 4 w ys.length (fl ys)
  ne : ∀ k, v.ownBlock = some k → w.ownBlock ≠ some k
  keep : Keep (fun _ => False) h0 h
  gge : h0.size ≤ g
  bge : h0.size ≤ b

section
variable {h0 h h' : Hp} {g b : Nat} {v w : Value} {xs ys : List E4}
theorem DI.cell (hi : DI h0 h g b v w xs ys) : cellH h ⟨b, 0, none⟩ = some w := by rw [cellH_block hi.bk]; rfl
theorem DI.bw (hi : DI h0 h g b v w xs ys) : w.ownBlock ≠ some b := fun e => by
  obtain ⟨c, hc⟩ := hi.own.blk e
  exact ty_ne hc hi.bk (by decide) rfl
theorem DI.bv (hi : DI h0 h g b v w xs ys) : v.ownBlock ≠ some b := fun e => by
  obtain ⟨c, hc⟩ := hi.led.own.blk e
  exact ty_ne hc hi.bk (by decide) rfl
theorem DI.gw (hi : DI h0 h g b v w xs ys) : w.ownBlock ≠ some g := fun e => by
  obtain ⟨c, hc⟩ := hi.own.blk e
  exact ty_ne hc hi.led.blk (by decide) rfl
theorem DI.gb (hi : DI h0 h g b v w xs ys) : g ≠ b := ty_ne hi.led.blk hi.bk (by decide)
theorem DI.more (hi : DI h0 h g b v w xs ys) (hk : Keep (fun _ => False) h h') : DI h0 h' g b v w xs ys :=
  ⟨hi.led.more hk, hk.get hi.bk (by simp), hi.own.keep fun k _ hlt => hk.block k hlt (by simp), hi.ne, hi.keep.trans hk, hi.gge, hi.bge⟩
theorem DI.setLed (hi : DI h0 h g b v w xs ys) {v' : Value} {xs' : List E4} (hl : Led h0.size h' g v' xs') (hk : Keep (fun k => k = g ∨ v.ownBlock = some k) h h')
    (hv : ∀ k, v'.ownBlock = some k → v.ownBlock = some k ∨ h.size ≤ k) : DI h0 h' g b v' w xs' ys where
  led := hl
  bk := hk.get hi.bk (fun e => e.elim (fun e => hi.gb e.symm) hi.bv)
  own := hi.own.keep fun k hk' hlt => hk.block k hlt (fun e => e.elim (fun e => hi.gw (e ▸ hk')) (fun e => hi.ne k e hk'))
  ne := fun k hk' hw => (hv k hk').elim (fun e => hi.ne k e hw) (fun hge => by have := (hi.own.lt k hw).2; omega)
  keep := hi.keep.newer (hk.mono fun k _ hh => .inr (hh.elim (fun e => e ▸ hi.gge) (fun e => (hi.led.own.lt k e).1)))
  gge := hi.gge
  bge := hi.bge
theorem DI.setBk (hi : DI h0 h g b v w xs ys) {w' : Value} {ys' : List E4} (hb : h'[b]? = some (.cells #[w', .slice none 0 0, .slice none 0 0, .slice none 0 0] 32 (0, 0))) (ho : OwnH h' h0.size 36 4 w' ys'.length (fl ys'))
    (hk : Keep (fun k => k = b ∨ w.ownBlock = some k) h h') (hv : ∀ k, w'.ownBlock = some k → w.ownBlock = some k ∨ h.size ≤ k) : DI h0 h' g b v w' xs ys' where
  led := hi.led.keep hk (fun e => e.elim hi.gb hi.gw) (fun k hk' e => e.elim (fun e => hi.bv (e ▸ hk')) (fun e => hi.ne k hk' e))
  bk := hb
  own := ho
  ne := fun k hk' hw => (hv k hw).elim (fun e => hi.ne k hk' e) (fun hge => by have := (hi.led.own.lt k hk').2; omega)
  keep := hi.keep.newer (hk.mono fun k _ hh => .inr (hh.elim (fun e => e ▸ hi.bge) (fun e => (hi.own.lt k e).1)))
  gge := hi.gge
  bge := hi.bge

/-- one end more in the book -/
theorem DI.bApp (hi : DI h0 h g b v w xs ys) (hn : ys.length ≤ 1000000000) (x : E4) {K : Hp → Prop}
    (hk : ∀ h' w', DI h0 h' g b v w' xs (ys ++ [x]) → K h') :
    appK Try.prog 27 (Array.push h (.cells (List.toArray [.int .i64 x.c, .bool x.s, .int .i64 x.h, .int .i64 x.d]) 36 (0, 0))) w (.slice (some ⟨Array.size h, 0, none⟩) 1 1) fun w2 h2 =>
      oneK w2 (storeK1 h2 (Addr.add ⟨b, 0, none⟩ 0) w2 K) := by
  refine appK_one (bt := 32) (by kernel_rfl) hi.own (E4.len x) x.one (by omega) (by omega) hi.keep.size fun w2 h2 ho hg _ hv => ?_
  have hb2 : h2[b]? = some (.cells #[w, .slice none 0 0, .slice none 0 0, .slice none 0 0] 32 (0, 0)) := by rw [hg.block _ (hp_lt hi.bk) (fun e => hi.bw e.symm)]; exact hi.bk
  have hv' : w2.ownBlock ≠ some b := fun e => by
    obtain ⟨c', hc'⟩ := ho.blk e
    exact ty_ne hc' hb2 (by decide) rfl
  refine oneK_of (by rcases ho.2 with ⟨rfl, _⟩ | ⟨_, _, _, _, rfl, _⟩ <;> rfl) ?_
  rw [addr_add]
  refine storeK1_of hb2 (by simp) (hk _ w2 (hi.setBk (by rw [hp_set_same hb2]; rfl) ?_ ((Keep.grown (S := fun k => k = b ∨ w.ownBlock = some k) hg (fun k hk _ => .inr hk)).trans (Keep.set _ (.inl rfl))) hv))
  rw [show (ys ++ [x]).length = ys.length + 1 by simp, show fl (ys ++ [x]) = fl ys ++ x.f by simp [fl]]
  exact ho.keep fun k hk' _ => by rw [Array.getElem?_setIfInBounds_ne]; rintro rfl; exact hv' hk'

/-- one field of an end in the book -/
theorem DI.bSet (hi : DI h0 h g b v w xs ys) {i o : Nat} {x x' : E4} (hx : ys[i]? = some x) {u : Value} (ho : o < 4) (he : x'.f = x.f.set o u) {K : Hp → Prop}
    (hk : ∀ h', DI h0 h' g b v w xs (ys.set i x') → K h') :
    asSl1 w fun a l _ => 0 ≤ (i : Int) ∧ (i : Int) < (l : Int) ∧ storeK1 h (Addr.add (Addr.add a (Int.toNat (i : Int) * 4)) o) u K :=
  OwnH.storeF hi.own E4.len hx ho he fun h' hown k' => hk h' (hi.setBk (k'.get hi.bk hi.bw) hown (k'.mono fun _ _ hh => .inr hh) (fun _ hh => .inl hh))
end
end Go.Proofs.Ytipgilfbhceknaa
