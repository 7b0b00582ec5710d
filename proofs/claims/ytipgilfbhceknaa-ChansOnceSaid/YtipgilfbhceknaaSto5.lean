/- Drop, in plain; and the store's. -/
import Derived.Test.YtipgilfbhceknaaSto4
namespace Go.Proofs.Ytipgilfbhceknaa
open Go Go.Sx Go.Proofs.Ytipgilfbhceknaa.Sx

def liveN (xs : List E4) : Nat := xs.countP fun x => x.h != -2
def dropM : Nat → List E4 → List C4 → Int → List E4 × List C4
  | 0, xs, ys, e => ((goneE xs e).1, ys)
  | n + 1, xs, ys, e =>
    if (goneE xs e).2 = true ∧ (atE xs e).1.s = false then
      (yAt ys (atE xs e).1.c.toNat).items.foldl (fun st z => dropM n st.1 st.2 z.e) ((goneE xs e).1, ys.set (atE xs e).1.c.toNat { yAt ys (atE xs e).1.c.toNat with gone := true, items := [] })
    else ((goneE xs e).1, ys)
theorem dropM_plain {n : Nat} {xs : List E4} {ys : List C4} {e : Int} (hn : ¬ ((goneE xs e).2 = true ∧ (atE xs e).1.s = false)) : dropM n xs ys e = ((goneE xs e).1, ys) := by
  cases n with
  | zero => rfl
  | succ n => rw [dropM, if_neg hn]

/-- what a drop may do to ends and channels -/
structure Ev (xs : List E4) (ys : List C4) (xs' : List E4) (ys' : List C4) : Prop where
  xl : xs'.length = xs.length
  yl : ys'.length = ys.length
  e : ∀ (i : Nat) (x' : E4), xs'[i]? = some x' → ∃ x : E4, xs[i]? = some x ∧ x'.c = x.c ∧ x'.s = x.s
  live : liveN xs' ≤ liveN xs
  y : ∀ (k : Nat) (y' : C4), ys'[k]? = some y' → ∃ y : C4, ys[k]? = some y ∧ y'.slots = y.slots ∧ (y'.items = y.items ∨ y'.items = [])
theorem Ev.refl (xs : List E4) (ys : List C4) : Ev xs ys xs ys := ⟨rfl, rfl, fun _ x h => ⟨x, h, rfl, rfl⟩, Nat.le_refl _, fun _ y h => ⟨y, h, rfl, .inl rfl⟩⟩
theorem Ev.trans {xs xs' xs'' : List E4} {ys ys' ys'' : List C4} (a : Ev xs ys xs' ys') (b : Ev xs' ys' xs'' ys'') : Ev xs ys xs'' ys'' := by
  refine ⟨b.xl.trans a.xl, b.yl.trans a.yl, fun i x h => ?_, Nat.le_trans b.live a.live, fun k y h => ?_⟩
  · obtain ⟨x1, h1, c1, s1⟩ := b.e i x h
    obtain ⟨x2, h2, c2, s2⟩ := a.e i x1 h1
    exact ⟨x2, h2, c1.trans c2, s1.trans s2⟩
  · obtain ⟨y1, h1, c1, s1⟩ := b.y k y h
    obtain ⟨y2, h2, c2, s2⟩ := a.y k y1 h1
    refine ⟨y2, h2, c1.trans c2, ?_⟩
    rcases s1 with e | e
    · rcases s2 with e' | e'
      · exact .inl (e.trans e')
      · exact .inr (e.trans e')
    · exact .inr e
theorem liveN_set {xs : List E4} {i : Nat} {x x' : E4} (hx : xs[i]? = some x) : liveN (xs.set i x') + (if x.h != -2 then 1 else 0) = liveN xs + (if x'.h != -2 then 1 else 0) := by
  unfold liveN
  induction xs generalizing i with
  | nil => simp at hx
  | cons y ys ih =>
    cases i with
    | zero =>
      simp at hx
      subst hx
      simp only [List.set_cons_zero, List.countP_cons]
      omega
    | succ i =>
      simp at hx
      have := ih hx
      simp only [List.set_cons_succ, List.countP_cons]
      omega
theorem set_get {α : Type} {l : List α} {i j : Nat} {a x : α} (h : (l.set i a)[j]? = some x) : (i = j ∧ x = a ∧ i < l.length) ∨ (i ≠ j ∧ l[j]? = some x) := by
  by_cases hij : i = j
  · subst hij
    have hl := (List.getElem?_eq_some_iff.1 h).1
    rw [List.length_set] at hl
    rw [List.getElem?_set_self hl] at h
    cases h
    exact .inl ⟨rfl, rfl, hl⟩
  · rw [List.getElem?_set_ne hij] at h
    exact .inr ⟨hij, h⟩
theorem gone_ev (xs : List E4) (ys : List C4) (e : Int) : Ev xs ys (goneE xs e).1 ys := by
  cases ha : (atE xs e).2 with
  | false =>
    rw [goneE_f ha]
    exact Ev.refl _ _
  | true =>
    obtain ⟨i, x, rfl, hx, _, _, he⟩ := goneE_t ha
    rw [he]
    refine ⟨List.length_set, rfl, fun j x' hj => ?_, ?_, fun _ y h => ⟨y, h, rfl, .inl rfl⟩⟩
    · rcases set_get hj with ⟨rfl, rfl, _⟩ | ⟨_, hj⟩
      · exact ⟨x, hx, rfl, rfl⟩
      · exact ⟨x', hj, rfl, rfl⟩
    · have := liveN_set (x' := { x with h := -2, d := IntKind.wrap .i64 (x.d + 1) }) hx
      simp at this
      split at this <;> omega
theorem gone_live {xs : List E4} {e : Int} (h : (goneE xs e).2 = true) : liveN (goneE xs e).1 + 1 = liveN xs := by
  cases ha : (atE xs e).2 with
  | false =>
    rw [goneE_f ha] at h
    cases h
  | true =>
    obtain ⟨i, x, rfl, hx, _, h2, he⟩ := goneE_t ha
    rw [he]
    rw [h2] at h
    have := liveN_set (x' := { x with h := -2, d := IntKind.wrap .i64 (x.d + 1) }) hx
    rw [h] at this
    simpa using this
theorem fold_ev {n : Nat} (ih : ∀ xs ys e, Ev xs ys (dropM n xs ys e).1 (dropM n xs ys e).2) : ∀ (l : List It) (st : List E4 × List C4),
    Ev st.1 st.2 (l.foldl (fun st z => dropM n st.1 st.2 z.e) st).1 (l.foldl (fun st z => dropM n st.1 st.2 z.e) st).2
  | [], _ => Ev.refl _ _
  | _ :: l, _ => (ih _ _ _).trans (fold_ev ih l _)
theorem clear_ev (xs : List E4) (ys : List C4) (k : Nat) : Ev xs ys xs (ys.set k { yAt ys k with gone := true, items := [] }) := by
  refine ⟨rfl, List.length_set, fun _ x h => ⟨x, h, rfl, rfl⟩, Nat.le_refl _, fun j y h => ?_⟩
  rcases set_get h with ⟨rfl, rfl, hl⟩ | ⟨_, h⟩
  · rw [yAt_of (List.getElem?_eq_getElem hl)]
    exact ⟨_, List.getElem?_eq_getElem hl, rfl, .inr rfl⟩
  · exact ⟨y, h, rfl, .inl rfl⟩
theorem drop_ev : ∀ n xs ys e, Ev xs ys (dropM n xs ys e).1 (dropM n xs ys e).2
  | 0, xs, ys, e => gone_ev xs ys e
  | n + 1, xs, ys, e => by
    rw [dropM]
    split
    · exact ((gone_ev xs ys e).trans (clear_ev _ _ _)).trans (fold_ev (drop_ev n) (yAt ys (atE xs e).1.c.toNat).items ((goneE xs e).1, ys.set (atE xs e).1.c.toNat { yAt ys (atE xs e).1.c.toNat with gone := true, items := [] }))
    · exact gone_ev xs ys e

/-- the sizes that the code wants -/
structure Bd (xs : List E4) (ys : List C4) : Prop where
  chan : ∀ x ∈ xs, ∃ k : Nat, x.c = k ∧ k < ys.length
  xl : xs.length ≤ 100000000
  yl : ys.length ≤ 100000000
  il : ∀ y ∈ ys, y.items.length ≤ 100000000
theorem Bd.ev {xs xs' : List E4} {ys ys' : List C4} (b : Bd xs ys) (e : Ev xs ys xs' ys') : Bd xs' ys' := by
  refine ⟨fun x hx => ?_, by rw [e.xl]; exact b.xl, by rw [e.yl]; exact b.yl, fun y hy => ?_⟩
  · obtain ⟨i, hi⟩ := List.mem_iff_getElem?.1 hx
    obtain ⟨z, hz, hc, _⟩ := e.e i x hi
    rw [hc, e.yl]
    exact b.chan z (List.mem_iff_getElem?.2 ⟨i, hz⟩)
  · obtain ⟨i, hi⟩ := List.mem_iff_getElem?.1 hy
    obtain ⟨z, hz, _, h⟩ := e.y i y hi
    rcases h with h | h
    · rw [h]
      exact b.il z (List.mem_iff_getElem?.2 ⟨i, hz⟩)
    · rw [h]; simp

theorem gone_send {xs : List E4} {e : Int} (k : Nat) : sendN (goneE xs e).1 k + (if (goneE xs e).2 = true ∧ (atE xs e).1.s = true ∧ (atE xs e).1.c = (k : Int) then 1 else 0) = sendN xs k := by
  cases ha : (atE xs e).2 with
  | false =>
    rw [goneE_f ha]
    simp
  | true =>
    obtain ⟨i, x, rfl, hx, h1, h2, he⟩ := goneE_t ha
    rw [he, h2, h1]
    have := sendN_set (k := k) (x' := { x with h := -2, d := IntKind.wrap .i64 (x.d + 1) }) hx
    rw [if_neg (c := alive k { x with h := -2, d := IntKind.wrap .i64 (x.d + 1) } = true) (by simp [alive]), Nat.add_zero] at this
    rw [← this]
    congr 1
    simp only [alive, Bool.and_eq_true, beq_iff_eq, bne_iff_ne]
    by_cases hh : x.h = -2 <;> by_cases hs : x.s = true <;> by_cases hc : x.c = (k : Int) <;> simp [hh, hs, hc]

section
variable {ω : Amb}
theorem SDrop_law : ∀ (n : Nat) {h : Hp} {s p : Nat} {v lv : Value} {xs : List E4} {chs : List Ch} {ys : List C4} (_ : Sto h s p v lv xs chs (sendN xs) ys) (_ : Bd xs ys) (_ : liveN xs ≤ n) (e : Int) (X : List PanicEntry → Hp → Prop),
    CallX Try.prog ω n_p_chans_Store_Drop [.pointer (some ⟨s, 0, none⟩), .int .i64 e] h (fun r h' => r = .bool (goneE xs e).2 ∧ ∃ F', StoR h' s (dropM n xs ys e).1 (dropM n xs ys e).2 F' ∧ Upd (Fp s p v lv chs) F' h h') X := by
  intro n
  induction n using Nat.strongRecOn with
  | ind n ih => ?_
  intro h s p v lv xs chs ys hS hB hn e X
  refine C_p_chans_Store_Drop ω _ _ h _ X ?_
  unfold W_p_chans_Store_Drop
  rw [asPo_ptr]
  refine cond_f rfl ?_
  rw [nnK_ptr]
  refine lx hS.blk rfl ?_
  refine CallX.use (End_law hS.led.cell hS.led.own.slAt e) fun r h1 ⟨hr, k1⟩ => ?_
  subst hr
  simp only [asT_tup, ld4, asO_some, asA_agg]
  refine ⟨rfl, (atE xs e).1.one, storeK_local rfl ?_⟩
  have hn1 := hp_push_new (h := h1) (o := .cells (atE xs e).1.f.toArray 36 (0, 0))
  have k2 := k1.trans (Keep.push h1 (.cells (atE xs e).1.f.toArray 36 (0, 0)))
  have hsz1 := k1.size
  generalize hh2 : h1.push (.cells (atE xs e).1.f.toArray 36 (0, 0)) = h2 at *
  have hS2 := hS.more k2
  have hok : (goneE xs e).2 = true → (atE xs e).2 = true := by
    intro hg
    cases ha : (atE xs e).2 with
    | false => rw [goneE_f ha] at hg; cases hg
    | true => rfl
  refine ⟨fun r h' => r = .bool (!(goneE xs e).2) ∧ Led 0 h' p v (goneE xs e).1 ∧ Keep (fun k => v.ownBlock = some k) h2 h', ?_, ?_⟩
  · rw [nnK_ptr]
    refine lx hS2.blk rfl ?_
    refine CallX.use (Gone_law hS2.led e) fun r h3 ⟨hr, hl, k3⟩ => ?_
    subst hr
    rw [asB_bool]
    refine cond_c (fun hg => ?_) (fun hg => ?_)
    · rw [hg]
      exact ⟨rfl, hl, k3⟩
    · rw [asB_bool, hg, hok (by simpa using hg)]
      exact ⟨rfl, hl, k3⟩
  rintro _ _ h3 ⟨rfl, hl, k3⟩
  have k3' : Keep (fun k => k = p ∨ v.ownBlock = some k) h2 h3 := k3.mono fun _ _ e => .inr e
  have hS3 := hS2.setLed hl k3'
  have u3 := (Upd.of (F := Fp s p v lv chs) k2).trans (hS2.updLed k3' (fun _ e => .inl e))
  have hl3 := k3.get hn1 (fun e => by have := (hS.led.own.lt _ e).2; omega)
  have hgs := gone_send (xs := xs) (e := e)
  rw [asB_bool]
  refine cond_c (fun hg => ?_) (fun hg => ?_)
  · have hg' : (goneE xs e).2 = false := by simpa using hg
    rw [dropM_plain (by simp [hg'])]
    refine ⟨by rw [hg'], _, ⟨p, v, lv, chs, ?_, rfl⟩, u3⟩
    have : sendN (goneE xs e).1 = sendN xs := by
      funext k
      have := hgs k
      rw [if_neg (by simp [hg'])] at this
      exact this
    rw [this]
    exact hS3
  have hg' : (goneE xs e).2 = true := by simpa using hg
  have hgl := gone_live hg'
  obtain ⟨i, x, rfl, hx, hax, _, hge⟩ := goneE_t (hok hg')
  obtain ⟨k, hk, hkl⟩ := hB.chan x (List.mem_iff_getElem?.2 ⟨i, hx⟩)
  have hkc : k < chs.length := by rw [← hS.len]; exact hkl
  have hcx := List.getElem?_eq_getElem hkc
  have hyx := List.getElem?_eq_getElem hkl
  generalize chs[k] = c at hcx
  generalize ys[k] = y at hyx
  have hc3 := hS3.chan k c y hcx hyx
  have hrne : c.r ≠ c.c := by
    obtain ⟨f, sl, hb⟩ := hc3.rg.blk
    exact ty_ne hb hc3.blk (by decide)
  have hgne : ∀ G, c.g = some G → G ≠ c.c := by
    intro G hG
    obtain ⟨c', hb⟩ := hc3.rg.gblk G hG
    exact ty_ne hb hc3.blk (by decide)
  rw [hax] at hl3 hgs
  rw [nnK_ptr]
  refine lx hS3.blk rfl ?_
  refine lx hl3 rfl ?_
  rw [hk]
  refine hS3.own.slAt.rd1 (pv_at hcx) ?_
  refine lx hl3 rfl ?_
  rw [asB_bool]
  refine cond_c (fun hs => ?_) (fun hs => ?_)
  · rw [dropM_plain (by rw [hax, hs]; simp)]
    have hsk := hgs k
    rw [if_pos ⟨hg', hs, hk⟩] at hsk
    have hle := sendN_le xs k
    have hxl := hB.xl
    rw [nnK_ptr]
    refine lx hc3.blk rfl ?_
    rw [asK_int, nnK_ptr, asP_some, addr_add]
    have hwr : IntKind.wrap .i64 ((sendN xs k : Int) - 1) = ((sendN (goneE xs i).1 k : Nat) : Int) := by rw [i64_in (by omega) (by omega)]; omega
    rw [hwr]
    refine storeK1_of hc3.blk (by simp) ?_
    simp only [st]
    have kset := Keep.set (S := fun i => i = c.c) (h := h3) (b := c.c) (.cells (List.toArray [.pointer (some ⟨c.r, 0, none⟩), .int .i64 (sendN (goneE xs i).1 k : Nat), .bool y.gone]) 81 (0, 0)) rfl
    have hc4 := hp_set_same (o := .cells (List.toArray [.pointer (some ⟨c.r, 0, none⟩), .int .i64 (sendN (goneE xs i).1 k : Nat), .bool y.gone]) 81 (0, 0)) hc3.blk
    have ko : Keep c.own h3 _ := kset.mono fun _ _ e => .inl e
    have hS4 := hS3.setCh (x' := c) (y' := y) (sn' := sendN (goneE xs i).1) hcx ko ⟨hc4, hc3.rg.keep kset hrne hgne⟩ rfl rfl (fun _ e => .inl e) (fun j hj => by
      have := hgs j
      rw [if_neg (by rw [hk]; rintro ⟨_, _, e⟩; exact hj (by omega))] at this
      exact this)
    have u4 := hS3.updCh (x' := c) hcx ko rfl rfl (fun _ e => .inl e)
    rw [set_same hcx] at hS4 u4
    rw [set_same hyx] at hS4
    exact ⟨by rw [hg'], _, ⟨p, v, lv, chs, hS4, rfl⟩, u3.trans u4⟩
  · obtain ⟨m, rfl⟩ : ∃ m, n = m + 1 := ⟨n - 1, by omega⟩
    rw [dropM, if_pos ⟨hg', by rw [hax]; exact hs⟩, hax, hk, Int.toNat_natCast, yAt_of hyx]
    have hsn : sendN xs = sendN (goneE xs i).1 := by
      funext j
      have := hgs j
      rw [if_neg (by rw [hs]; simp)] at this
      exact this.symm
    rw [hsn] at hS3 hc3
    rw [nnK_ptr, asP_some, addr_add]
    refine storeK1_of hc3.blk (by simp) ?_
    simp only [st]
    have kset := Keep.set (S := fun i => i = c.c) (h := h3) (b := c.c) (.cells (List.toArray [.pointer (some ⟨c.r, 0, none⟩), .int .i64 (sendN (goneE xs i).1 k : Nat), .bool true]) 81 (0, 0)) rfl
    have hc4 := hp_set_same (o := .cells (List.toArray [.pointer (some ⟨c.r, 0, none⟩), .int .i64 (sendN (goneE xs i).1 k : Nat), .bool true]) 81 (0, 0)) hc3.blk
    generalize h3.setIfInBounds c.c (.cells (List.toArray [.pointer (some ⟨c.r, 0, none⟩), .int .i64 (sendN (goneE xs i).1 k : Nat), .bool true]) 81 (0, 0)) = h4 at *
    have hr4 := hc3.rg.keep kset hrne hgne
    rw [nnK_ptr]
    refine lx hc4 rfl ?_
    have hil := hB.il y (List.mem_iff_getElem?.2 ⟨k, hyx⟩)
    refine CallX.use (rgClear hr4 (by omega)) fun w h5 ⟨hown, hr5, k5⟩ => ?_
    have ko : Keep c.own h3 h5 := (kset.mono fun _ _ e => .inl e).trans (k5.mono fun _ _ e => .inr e)
    have hS5 := hS3.setCh (x' := c) (y' := { y with gone := true, items := [] }) (sn' := sendN (goneE xs i).1) hcx ko ⟨k5.get hc4 (fun e => e.elim (fun e => hrne e.symm) (fun e => hgne _ e rfl)), hr5⟩ rfl rfl (fun _ e => .inl e) (fun _ _ => rfl)
    have u5 := hS3.updCh (x' := c) hcx ko rfl rfl (fun _ e => .inl e)
    rw [set_same hcx] at hS5 u5
    have hB5 : Bd (goneE xs i).1 (ys.set k { y with gone := true, items := [] }) := by
      have := (hB.ev (gone_ev xs ys i)).ev (clear_ev _ _ k)
      rw [yAt_of hyx] at this
      exact this
    have hw0 : ∀ q, w.ownBlock = some q → ¬ Fp s p v lv chs q ∧ q < h5.size := fun q hq =>
      ⟨fun hf => by have := hS3.lt hf; have := (hown.lt q hq).1; have := kset.size; omega, (hown.lt q hq).2⟩
    refine hown.slAt.sl fun _ _ => ?_
    refine ⟨fun t h' => ∃ j, j ≤ y.items.length ∧ t = .int .i64 j ∧ ∃ F', StoR h' s ((y.items.take j).foldl (fun st z => dropM m st.1 st.2 z.e) ((goneE xs i).1, ys.set k { y with gone := true, items := [] })).1
        ((y.items.take j).foldl (fun st z => dropM m st.1 st.2 z.e) ((goneE xs i).1, ys.set k { y with gone := true, items := [] })).2 F' ∧ Upd (Fp s p v lv chs) F' h h' ∧ OwnH h' 0 74 2 w y.items.length (fi y.items) ∧ ∀ q, w.ownBlock = some q → ¬ F' q,
      fun t _ => match t with | .int _ j => y.items.length - j.toNat | _ => 0, ⟨0, Nat.zero_le _, rfl, _, ⟨p, v, lv, chs, hS5, rfl⟩, u3.trans u5, hown.base (Nat.zero_le _), fun q hq => (hw0 q hq).1⟩, ?_⟩
    rintro t _ h6 ⟨j, hj, rfl, F6, ⟨p6, v6, lv6, chs6, hS6, rfl⟩, u6, ho6, hw6⟩
    have hB6 := hB5.ev (fold_ev (drop_ev m) (y.items.take j) ((goneE xs i).1, ys.set k { y with gone := true, items := [] }))
    have hL6 := Nat.le_trans (fold_ev (drop_ev m) (y.items.take j) ((goneE xs i).1, ys.set k { y with gone := true, items := [] })).live (show liveN (goneE xs i).1 ≤ m by omega)
    rw [asK_int]
    refine cond_c (fun hlt => ?_) (fun hge => ?_)
    · have hlt : j < y.items.length := by simpa using hlt
      have hz := List.getElem?_eq_getElem hlt
      have htk : y.items.take (j + 1) = y.items.take j ++ [y.items[j]] := List.take_succ_eq_append_getElem hlt
      generalize y.items[j] = z at hz htk
      refine ho6.slAt.rdS It.len hz ⟨rfl, z.one, storeK_local rfl ?_⟩
      have hn7 := hp_push_new (h := h6) (o := .cells z.f.toArray 74 (0, 0))
      have k7 : Keep (fun _ => False) h6 _ := Keep.push h6 (.cells z.f.toArray 74 (0, 0))
      have hS7 := hS6.more k7
      refine lx hn7 rfl ?_
      refine CallX.use (ih m (by omega) hS7 hB6 hL6 z.e) fun r h8 ⟨_, F8, hS8, u8⟩ => ?_
      rw [asK_int, i64_in (by omega) (by omega)]
      refine ⟨⟨j + 1, by omega, rfl, F8, ?_, u6.trans ((Upd.of k7).trans u8), ho6.keep fun q hq hlt => ?_, fun q hq hF => ?_⟩, by simp; omega⟩
      · rw [htk, List.foldl_append]
        exact hS8
      · rw [u8.keep.block q (Nat.lt_of_lt_of_le hlt k7.size) (hw6 q hq), k7.block q hlt (by simp)]
      · have h1 := (ho6.lt q hq).2
        have h2 := k7.size
        exact (u8.more q hF).elim (fun e => hw6 q hq e) (fun e => by omega)
    · have hje : j = y.items.length := by simp at hge; omega
      subst hje
      rw [List.take_length] at hS6
      exact ⟨by rw [hg'], _, ⟨_, _, _, _, hS6, rfl⟩, u6⟩
end
end Go.Proofs.Ytipgilfbhceknaa
