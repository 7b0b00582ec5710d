/- The book: Drop, Chans. -/
import Derived.Test.YtipgilfbhceknaaBk3
namespace Go.Proofs.Ytipgilfbhceknaa
open Go Go.Sx Go.Proofs.Ytipgilfbhceknaa.Sx
section
variable {ω : Amb}
theorem rd1a {h : Hp} {v : Value} {n : Nat} {xs : List Value} (hs : SlAt h 1 v n xs) {i : Nat} {u : Value} (hu : xs[i]? = some u) {K : Addr → Value → Prop} (hk : ∀ a, cellH h (Addr.add a (Int.toNat (i : Int) * 1)) = some u → K a u) :
    asSl1 v fun a l _ => 0 ≤ (i : Int) ∧ (i : Int) < (l : Int) ∧ ∃ w, cellH h (Addr.add a (Int.toNat (i : Int) * 1)) = some w ∧ K a w := by
  have hi := (List.getElem?_eq_some_iff.1 hu).1
  have hl := hs.1
  rcases hs.2 with ⟨rfl, a, c, rfl⟩ | ⟨b, o, cap, rfl, hc⟩
  · omega
  · have : cellH h (Addr.add ⟨b, o, none⟩ (Int.toNat (i : Int) * 1)) = some u := by
      rw [addr_add, Int.toNat_natCast, Nat.mul_one]
      exact hc i u hu
    exact ⟨by omega, by omega, u, this, hk _ this⟩
theorem Bk.eSet {h : Hp} {b : Nat} {w sv jv gv : Value} {xs : List E4} {its : List Value} {ys : List C4} (hb : Bk h b w sv jv gv xs its ys) {i o : Nat} {x x' : E4} (hx : xs[i]? = some x) {u : Value} (ho : o < 4) (he : x'.f = x.f.set o u) {K : Hp → Prop}
    (hk : ∀ h', Bk h' b w sv jv gv (xs.set i x') its ys → Keep (fun k => w.ownBlock = some k) h h' → K h') :
    asSl1 w fun a l _ => 0 ≤ (i : Int) ∧ (i : Int) < (l : Int) ∧ storeK1 h (Addr.add (Addr.add a (Int.toNat (i : Int) * 4)) o) u K :=
  OwnH.storeF hb.own E4.len hx ho he fun h' hown k' =>
    hk h' (hb.setW (k'.mono fun _ _ e => .inr e) (k'.get hb.blk ((OfTy.own hb.own).not hb.blk (by decide))) hown) k'

theorem BDrop_law : ∀ (n : Nat) {h : Hp} {b : Nat} {w sv jv gv : Value} {xs : List E4} {its : List Value} {ys : List C4} (_ : Bk h b w sv jv gv xs its ys) (_ : Bd xs ys) (_ : liveN xs ≤ n) (e : Int) (X : List PanicEntry → Hp → Prop),
    CallX Try.prog ω n_p_pipewrightref_Book_Drop [.pointer (some ⟨b, 0, none⟩), .int .i64 e] h (fun r h' => r = .bool (goneE xs e).2 ∧ ∃ F', BkR h' b (dropM n xs ys e).1 (dropM n xs ys e).2 F' ∧ Upd (Fb b w sv jv gv its) F' h h') X := by
  intro n
  induction n using Nat.strongRecOn with
  | ind n ih => ?_
  intro h b w sv jv gv xs its ys hb hB hn e X
  refine C_p_pipewrightref_Book_Drop ω _ _ h _ X ?_
  unfold W_p_pipewrightref_Book_Drop
  refine CallX.use (At_law hb.cell hb.own.slAt e) fun r h1 ⟨hr, k1⟩ => ?_
  subst hr
  simp only [asT_tup, ld4, asO_some, asA_agg]
  refine ⟨rfl, (atE xs e).1.one, storeK_local rfl ?_⟩
  have hn1 := hp_push_new (h := h1) (o := .cells (atE xs e).1.f.toArray 36 (0, 0))
  have k2 := k1.trans (Keep.push h1 (.cells (atE xs e).1.f.toArray 36 (0, 0)))
  have hsz1 := k1.size
  generalize hh2 : h1.push (.cells (atE xs e).1.f.toArray 36 (0, 0)) = h2 at *
  have hb2 := hb.more k2
  rw [asB_bool]
  refine cond_c (fun ho => ?_) (fun ho => ?_)
  · have ho' : (atE xs e).2 = false := by simpa using ho
    have hg := goneE_f ho'
    rw [dropM_plain (by simp [hg]), hg]
    exact ⟨rfl, _, ⟨_, _, _, _, _, hb2, rfl⟩, Upd.of k2⟩
  have ho' : (atE xs e).2 = true := by simpa using ho
  obtain ⟨i, x, rfl, hx, hax, hg2, hge⟩ := goneE_t ho'
  rw [hax] at hn1
  rw [nnK_ptr]
  refine lx hb2.blk rfl ?_
  refine hb2.own.slAt.rdT E4.len hx rfl ?_
  rw [asK_int]
  refine hb2.eSet hx (x' := { x with d := IntKind.wrap .i64 (x.d + 1) }) (by omega) rfl fun h3 hb3 k3 => ?_
  have hlo : ∀ k, w.ownBlock = some k → k < h.size := fun k hk => (hb.own.lt k hk).2
  have hn3 := k3.get hn1 (fun e => by have := hlo _ e; omega)
  have u3 := (Upd.of (F := Fb b w sv jv gv its) k2).trans (hb2.updW (w' := w) (k3.mono fun _ _ e => .inr e) (fun _ e => .inl e))
  refine lx hn3 rfl ?_
  rw [asK_int]
  refine cond_c (fun hh => ?_) (fun hh => ?_)
  · have hh' : x.h = -2 := by simpa using hh
    rw [dropM_plain (by rw [hg2, hh']; simp), hge, hg2, hh']
    rw [hh'] at hb3
    exact ⟨rfl, _, ⟨_, _, _, _, _, hb3, rfl⟩, u3⟩
  have hh' : ¬ x.h = -2 := by simpa using hh
  have hg' : (goneE xs i).2 = true := by rw [hg2]; simpa using hh'
  have hgl := gone_live hg'
  rw [nnK_ptr]
  refine lx hb3.blk rfl ?_
  have hx3 : (xs.set i { x with d := IntKind.wrap .i64 (x.d + 1) })[i]? = some { x with d := IntKind.wrap .i64 (x.d + 1) } := List.getElem?_set_self (List.getElem?_eq_some_iff.1 hx).1
  refine hb3.eSet hx3 (x' := { x with h := -2, d := IntKind.wrap .i64 (x.d + 1) }) (by omega) rfl fun h4 hb4 k4 => ?_
  rw [List.set_set, ← hge] at hb4
  have hn4 := k4.get hn3 (fun e => by have := hlo _ e; omega)
  have u4 := u3.trans (hb3.updW (w' := w) (k4.mono fun _ _ e => .inr e) (fun _ e => .inl e))
  refine lx hn4 rfl ?_
  rw [asB_bool]
  refine cond_c (fun hs => ?_) (fun hs => ?_)
  · rw [dropM_plain (by rw [hax, hs]; simp), hg']
    exact ⟨rfl, _, ⟨_, _, _, _, _, hb4, rfl⟩, u4⟩
  obtain ⟨m, rfl⟩ : ∃ m, n = m + 1 := ⟨n - 1, by omega⟩
  obtain ⟨k, hk, hkl⟩ := hB.chan x (List.mem_iff_getElem?.2 ⟨i, hx⟩)
  have hy := List.getElem?_eq_getElem hkl
  generalize ys[k] = y at hy
  rw [dropM, if_pos ⟨hg', by rw [hax]; exact hs⟩, hax, hk, Int.toNat_natCast, yAt_of hy, hg']
  obtain ⟨u, hu, hou⟩ := hb4.atIt hy
  rw [nnK_ptr]
  refine lx hb4.blk rfl ?_
  refine lx hn4 rfl ?_
  rw [hk]
  refine ownStore1 hb4.gone hkl fun h5 hg5 k5 => ?_
  have T5 := OfTy.own hb4.gone
  have b5 := k5.get hb4.blk (T5.not hb4.blk (by decide))
  have hn5 := k5.get hn4 (T5.not hn4 (by decide))
  have oj5 := keepT hb4.items k5 T5 (by decide)
  have ou5 := keepT hou k5 T5 (by decide)
  rw [nnK_ptr]
  refine lx b5 rfl ?_
  refine lx hn5 rfl ?_
  rw [hk]
  refine oj5.slAt.rd1 hu ?_
  rw [nnK_ptr]
  refine lx b5 rfl ?_
  refine lx hn5 rfl ?_
  rw [hk]
  refine ownStore1 oj5 hkl fun h6 hj6 k6 => ?_
  have T6 := OfTy.own oj5
  have ou6 := keepT ou5 k6 T6 (by decide)
  have k46 : Keep (fun i => gv.ownBlock = some i ∨ (jv.ownBlock = some i ∨ u.ownBlock = some i)) h4 h6 := (k5.mono fun _ _ e => .inl e).trans (k6.mono fun _ _ e => .inr (.inl e))
  have hmap : (ys.map fun y => Value.bool y.gone).set k (.bool true) = (ys.set k { y with gone := true, items := [] }).map fun y => .bool y.gone := by rw [List.map_set]
  have hb6 := hb4.setY (y' := { y with gone := true, items := [] }) (u' := .slice none 0 0) hy hu k46 rfl
    (by rw [List.length_set, ← hmap]; exact keepT hg5 k6 T6 (by decide)) (by rw [List.length_set]; exact hj6) OwnH.nil (by intro G e; cases e)
  have u6 := u4.trans (hb4.updY (u' := .slice none 0 0) hu k46 (by intro G e; cases e))
  have hB6 : Bd (goneE xs i).1 (ys.set k { y with gone := true, items := [] }) := by
    have := (hB.ev (gone_ev xs ys i)).ev (clear_ev _ _ k)
    rw [yAt_of hy] at this
    exact this
  have hw0 : ∀ q, u.ownBlock = some q → ¬ Fb b w sv jv gv (its.set k (.slice none 0 0)) q := by
    intro q hq hF
    obtain ⟨c, hc⟩ := ou6.blk hq
    rcases hF with e | e | e | e | e | ⟨u', hu', e⟩
    · exact (OfTy.blk hb6.blk).not hc (by decide) e
    · exact (OfTy.own hb6.own).not hc (by decide) e
    · exact (OfTy.own hb6.slots).not hc (by decide) e
    · exact (OfTy.own hb6.items).not hc (by decide) e
    · exact (OfTy.own hb6.gone).not hc (by decide) e
    · obtain ⟨j, hj⟩ := List.mem_iff_getElem?.1 hu'
      rcases set_get hj with ⟨_, rfl, _⟩ | ⟨hne, hj⟩
      · cases e
      · exact hb.dis k j u u' hu hj hne q hq e
  refine ⟨fun t h' => ∃ j, j ≤ y.items.length ∧ t = .int .i64 j ∧ ∃ F', BkR h' b ((y.items.take j).foldl (fun st z => dropM m st.1 st.2 z.e) ((goneE xs i).1, ys.set k { y with gone := true, items := [] })).1
      ((y.items.take j).foldl (fun st z => dropM m st.1 st.2 z.e) ((goneE xs i).1, ys.set k { y with gone := true, items := [] })).2 F' ∧ Upd (Fb b w sv jv gv its) F' h h' ∧ OwnH h' 0 74 2 u y.items.length (fi y.items) ∧ ∀ q, u.ownBlock = some q → ¬ F' q,
    fun t _ => match t with | .int _ j => y.items.length - j.toNat | _ => 0, ⟨0, Nat.zero_le _, rfl, _, ⟨_, _, _, _, _, hb6, rfl⟩, u6, ou6, hw0⟩, ?_⟩
  rintro t _ h7 ⟨j, hj, rfl, F7, hbr7, u7, ou7, hw7⟩
  refine ou7.slAt.sl fun _ _ => ?_
  rw [asK_int]
  refine cond_c (fun hlt => ?_) (fun hge => ?_)
  · have hlt : j < y.items.length := by simpa using hlt
    have hil := hB.il y (List.mem_iff_getElem?.2 ⟨k, hy⟩)
    have hz := List.getElem?_eq_getElem hlt
    have htk : y.items.take (j + 1) = y.items.take j ++ [y.items[j]] := List.take_succ_eq_append_getElem hlt
    generalize y.items[j] = z at hz htk
    have hB7 := hB6.ev (fold_ev (drop_ev m) (y.items.take j) ((goneE xs i).1, ys.set k { y with gone := true, items := [] }))
    have hL7 := Nat.le_trans (fold_ev (drop_ev m) (y.items.take j) ((goneE xs i).1, ys.set k { y with gone := true, items := [] })).live (show liveN (goneE xs i).1 ≤ m by omega)
    have hfold : (y.items.take (j + 1)).foldl (fun st z => dropM m st.1 st.2 z.e) ((goneE xs i).1, ys.set k { y with gone := true, items := [] }) =
        dropM m ((y.items.take j).foldl (fun st z => dropM m st.1 st.2 z.e) ((goneE xs i).1, ys.set k { y with gone := true, items := [] })).1 ((y.items.take j).foldl (fun st z => dropM m st.1 st.2 z.e) ((goneE xs i).1, ys.set k { y with gone := true, items := [] })).2 z.e := by
      rw [htk, List.foldl_append]
      rfl
    generalize (y.items.take j).foldl (fun st z => dropM m st.1 st.2 z.e) ((goneE xs i).1, ys.set k { y with gone := true, items := [] }) = st at *
    refine ⟨fun h' => ∃ F', BkR h' b (dropM m st.1 st.2 z.e).1 (dropM m st.1 st.2 z.e).2 F' ∧ Upd F7 F' h7 h', ?_, ?_⟩
    · refine ou7.slAt.rdT It.len hz rfl ?_
      rw [asK_int]
      refine ⟨fun h' => ∃ F', BkR h' b (dropM m st.1 st.2 z.e).1 (dropM m st.1 st.2 z.e).2 F' ∧ Upd F7 F' h7 h', ?_, fun _ _ hj => hj⟩
      refine cond_c (fun hp => ?_) (fun hp => ?_)
      · refine ou7.slAt.rdT It.len hz rfl ?_
        obtain ⟨w7, s7, j7, g7, i7, hb7, rfl⟩ := hbr7
        exact CallX.use (ih m (by omega) hb7 hB7 hL7 z.e) fun r h8 ⟨_, F8, h1, h2⟩ => ⟨F8, h1, h2⟩
      · rw [drop_none (by simp at hp; omega)]
        exact ⟨F7, hbr7, Upd.refl _ _⟩
    · rintro _ h8 ⟨F8, hbr8, u8⟩
      rw [asK_int, i64_in (by omega) (by omega)]
      refine ⟨⟨j + 1, by omega, rfl, F8, by rw [hfold]; exact hbr8, u7.trans u8, ou7.keep fun q hq hlt => u8.keep.block q hlt (hw7 q hq), fun q hq hF => ?_⟩, by simp; omega⟩
      have h1 := (ou7.lt q hq).2
      exact (u8.more q hF).elim (fun e => hw7 q hq e) (fun e => by omega)
  · have hje : j = y.items.length := by simp at hge; omega
    subst hje
    rw [List.take_length] at hbr7
    exact ⟨rfl, _, hbr7, u7⟩

variable {h h' : Hp} {b : Nat} {w sv jv gv : Value} {xs : List E4} {its : List Value} {ys : List C4}
theorem BChans_law (hb : Bk h b w sv jv gv xs its ys) (hB : Bd xs ys) (X : List PanicEntry → Hp → Prop) :
    CallX Try.prog ω n_p_pipewrightref_Book_Chans [.pointer (some ⟨b, 0, none⟩)] h (fun r h' => (∃ es, COut h h' xs ys r es ∧ es.length = ys.length) ∧ Keep (fun _ => False) h h') X := by
  refine C_p_pipewrightref_Book_Chans ω _ h _ X ?_
  unfold W_p_pipewrightref_Book_Chans
  refine ⟨fun out t h' => ∃ es, t = .int .i64 es.length ∧ COut h h' xs ys out es ∧ Keep (fun _ => False) h h', fun _ t _ => match t with | .int _ j => ys.length - j.toNat | _ => 0,
    ⟨[], rfl, ⟨OwnH.nil, by simp, Nat.zero_le _⟩, Keep.refl _ _⟩, ?_⟩
  rintro out t _ h1 ⟨es, rfl, hc, k1⟩
  have hb1 := hb.more k1
  have hyl := hB.yl
  rw [nnK_ptr]
  refine lx hb1.blk rfl ?_
  refine hb1.slots.slAt.sl fun _ _ => ?_
  rw [asK_int]
  refine cond_c (fun hlt => ?_) (fun hge => ?_)
  · have hlt : es.length < ys.length := by simpa using hlt
    have hy := List.getElem?_eq_getElem hlt
    generalize ys[es.length] = y at hy
    obtain ⟨u, hu, hou⟩ := hb1.atIt hy
    rw [nnK_ptr]
    refine lx hb1.blk rfl ?_
    refine rd1a hb1.slots.slAt (u := .int .i64 y.slots) (by rw [List.getElem?_map, hy]; rfl) fun a1 c1 => ?_
    rw [nnK_ptr]
    refine lx hb1.blk rfl ?_
    refine rd1a hb1.gone.slAt (u := .bool y.gone) (by rw [List.getElem?_map, hy]; rfl) fun a2 c2 => ?_
    rw [nnK_ptr]
    refine lx hb1.blk rfl ?_
    refine rd1a hb1.items.slAt hu fun a3 c3 => ?_
    refine CallX.use (Senders_law hb1 hB.xl es.length) ?_
    rintro _ h2 ⟨rfl, hh⟩
    rw [hh]
    refine ⟨c3, lx' hb1.blk rfl, c2, lx' hb1.blk rfl, c1, lx' hb1.blk rfl, ?_⟩
    rw [oneK_int, oneK_int, oneK_bool, oneK_eq (OwnH.isOne hou)]
    refine ⟨rfl, ?_⟩
    refine hc.app k1 hy (e := ⟨y.slots, sendN xs es.length, y.gone, u⟩) ⟨rfl, rfl, rfl, hou⟩ (by omega) fun w h3 hc3 k3 => ?_
    rw [asK_int, i64_in (by omega) (by omega)]
    exact ⟨⟨_, by simp, hc3, k3⟩, by simp; omega⟩
  · have := hc.le
    have hge' : ys.length ≤ es.length := by simpa using hge
    exact ⟨⟨es, hc, by omega⟩, k1⟩
end
end Go.Proofs.Ytipgilfbhceknaa
