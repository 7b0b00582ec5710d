/- The book: Take. -/
import Derived.Test.YtipgilfbhceknaaBk5
namespace Go.Proofs.Ytipgilfbhceknaa
open Go Go.Sx Go.Proofs.Ytipgilfbhceknaa.Sx
section
variable {ω : Amb} {h h' : Hp} {b : Nat} {w sv jv gv : Value} {xs : List E4} {its : List Value} {ys : List C4}
theorem ownTail {h : Hp} {base n sz cap : Nat} {t : TypeId} {a : Addr} {x rest : List Value} (ho : OwnH h base t sz (.slice (some a) (n + 1) cap) (n + 1) (x ++ rest)) (hx : x.length = sz) :
    OwnH h base t sz (.slice (if cap = Int.toNat 1 then some a else Option.map (fun y => Addr.add y (Int.toNat 1 * sz)) (some a)) (Int.toNat ((n + 1 : Nat) : Int) - Int.toNat 1) (cap - Int.toNat 1)) n rest := by
  have hl := ho.1
  rw [List.length_append, hx, Nat.add_mul, Nat.one_mul] at hl
  rcases ho.2 with ⟨hn, _⟩ | ⟨g, o, cap', cur, hv, hb, hg, hnc, hcm, hcs, hcells⟩
  · cases hn
  · cases hv
    refine ⟨by omega, .inr ?_⟩
    have hmul : (n + 1) * sz ≤ cap * sz := Nat.mul_le_mul_right sz hnc
    rw [Nat.add_mul, Nat.one_mul] at hmul
    have h1 : cap - 1 = cap - 1 := rfl
    have hc1 : (cap - 1) * sz = cap * sz - sz := by rw [Nat.sub_mul, Nat.one_mul]
    by_cases hc : cap = 1
    · subst hc
      have hn0 : n = 0 := by omega
      subst hn0
      refine ⟨g, o, 0, cur, by simp, hb, hg, Nat.le_refl _, by omega, by omega, ?_⟩
      simp
      have : rest.length = 0 := by omega
      exact List.eq_nil_of_length_eq_zero this
    · refine ⟨g, o + sz, cap - 1, cur, by simp [hc, addr_add], hb, hg, by omega, by omega, by omega, ?_⟩
      have : (cur.toList.drop o).take ((n + 1) * sz) = x ++ rest := hcells
      have h2 := congrArg (List.drop sz) this
      rw [List.drop_take, List.drop_drop, List.drop_left' hx, Nat.add_mul, Nat.one_mul, Nat.add_sub_cancel] at h2
      exact h2

theorem BTake_law (hb : Bk h b w sv jv gv xs its ys) (hB : Bd xs ys) (hr : ∀ y ∈ ys, 0 < y.slots → y.items.length ≤ y.slots) (hi : ∀ y ∈ ys, ∀ z ∈ y.items, z.e < 0 ∨ ∃ i : Nat, z.e = i ∧ i < xs.length) (e task : Int) (X : List PanicEntry → Hp → Prop) :
    CallX Try.prog ω n_p_pipewrightref_Book_Take [.pointer (some ⟨b, 0, none⟩), .int .i64 e, .int .i64 task] h (fun r h' => r = .tuple #[.agg (takeM xs ys e task).2.2.1.f.toArray, .int .i64 (takeM xs ys e task).2.2.2] ∧
      ∃ F', BkR h' b (takeM xs ys e task).1 (takeM xs ys e task).2.1 F' ∧ Upd (Fb b w sv jv gv its) F' h h') X := by
  refine C_p_pipewrightref_Book_Take ω _ _ _ h _ X ?_
  unfold W_p_pipewrightref_Book_Take
  have k0 : Keep (fun _ => False) h (h.push (.cells It.zero.f.toArray 74 (0, 0))) := Keep.push _ _
  have hp0 : (h.push (.cells It.zero.f.toArray 74 (0, 0)))[h.size]? = some (.cells It.zero.f.toArray 74 (0, 0)) := hp_push_new
  have e0 : (h.push (.cells #[(.int .i64 0), (.int .i64 0)] 74 (0, 0))) = (h.push (.cells It.zero.f.toArray 74 (0, 0))) := rfl
  rw [e0]
  generalize h.push (.cells It.zero.f.toArray 74 (0, 0)) = h0 at *
  have hb0 := hb.more k0
  have fin : ∀ (h1 : Hp) (z : It) (w : It), h1[h.size]? = some (.cells w.f.toArray 74 (0, 0)) → ∀ K : List Value → Hp → Prop, (∀ h2, Keep (fun k => k = h.size) h1 h2 → K z.f h2) →
      storeK h1 ⟨h.size, 0, none⟩ z.f fun h11 => ∃ C12, cellsH h11 ⟨h.size, 0, none⟩ 2 C12 ∧ K C12 h11 := by
    intro h1 z w hw K hK
    refine storeK_of (cs := z.f) hw (by simp [It.f]) ?_
    rw [spl_it]
    exact ⟨z.f, cellsH_blk (hp_set_same hw) rfl, hK _ (Keep.set (S := fun k => k = h.size) _ rfl)⟩
  refine ⟨fun r h' => r = .bool (decide (sideE xs e false = none ∨ (task < 0 ∨ waitsM xs ys e = true))) ∧ Keep (fun _ => False) h0 h', ?_, ?_⟩
  · refine CallX.use (there_law hb0 e false) ?_
    rintro _ h1 ⟨rfl, k1⟩
    rw [asB_bool]
    refine cond_c (fun hs => ⟨?_, k1⟩) (fun hs => ?_)
    · have hs' : sideE xs e false = none := by simpa using hs
      rw [decide_eq_true (.inl hs')]
    · have hs' : ¬ sideE xs e false = none := by
        intro hh
        rw [hh] at hs
        cases hs
      refine CallX.use (BWaits_law (hb0.more k1) hB hr e) fun r h2 ⟨hr, k2⟩ => ?_
      rw [hr, asB_bool]
      refine cond_c (fun hw => ⟨?_, k1.trans k2⟩) (fun hw => ?_)
      · rw [decide_eq_true (.inr (.inr hw))]
      · rw [asK_int]
        refine ⟨?_, k1.trans k2⟩
        congr 1
        rw [Bool.eq_iff_iff]
        simp [hs', hw]
  rintro _ _ h2 ⟨rfl, k2⟩
  have hb2 := hb0.more k2
  have kk2 := k0.trans k2
  have hp2 := k2.get hp0 (by simp)
  rw [asB_bool]
  unfold takeM
  refine cond_c (fun hc => ?_) (fun hc => ?_)
  · have hc' := of_decide_eq_true hc
    refine ⟨rfl, It.zero.one, fin _ It.zero It.zero hp2 _ fun h3 k3 => ?_⟩
    have k4 := kk2.newer (k3.mono fun _ _ e => .inr (Nat.le_of_eq e.symm))
    cases hs : sideE xs e false with
    | none => exact ⟨rfl, _, ⟨_, _, _, _, _, hb.more k4, rfl⟩, Upd.of k4⟩
    | some k =>
      rw [hs] at hc'
      have hw : task < 0 ∨ waitsM xs ys e = true := hc'.resolve_left (by simp)
      simp only [if_pos hw]
      exact ⟨trivial, _, ⟨_, _, _, _, _, hb.more k4, rfl⟩, Upd.of k4⟩
  have hc' := of_decide_eq_false hc
  cases hs : sideE xs e false with
  | none => exact absurd (.inl hs) hc'
  | some k =>
  have hw : ¬ (task < 0 ∨ waitsM xs ys e = true) := fun hh => hc' (.inr hh)
  obtain ⟨i, xe, y, rfl, hx, hxc, _, _, hy, _⟩ := side_at hB hs
  have hkl := (List.getElem?_eq_some_iff.1 hy).1
  obtain ⟨u, hu, hou⟩ := hb2.atIt hy
  simp only [if_neg hw, yAt_of hy]
  rw [nnK_ptr]
  refine lx hb2.blk rfl ?_
  refine hb2.own.slAt.rdT E4.len hx rfl ?_
  rw [hxc]
  rw [nnK_ptr]
  refine lx hb2.blk rfl ?_
  refine hb2.items.slAt.rd1 hu ?_
  have hym := List.mem_iff_getElem?.2 ⟨k, hy⟩
  have hiy := hi y hym
  cases hyi : y.items with
  | nil =>
    rw [hyi] at hou
    refine hou.slAt.sl fun _ _ => cond_t rfl ?_
    refine ⟨trivial, It.zero.one, fin _ It.zero It.zero hp2 _ fun h3 k3 => ?_⟩
    have k4 := kk2.newer (k3.mono fun _ _ e => .inr (Nat.le_of_eq e.symm))
    exact ⟨rfl, _, ⟨_, _, _, _, _, hb.more k4, rfl⟩, Upd.of k4⟩
  | cons z rest =>
    rw [hyi] at hou hiy
    have hzi := hiy z (List.mem_cons_self ..)
    refine hou.slAt.sl fun _ _ => cond_f (by simp; omega) ?_
    rw [nnK_ptr]
    refine lx hb2.blk rfl ?_
    refine hb2.items.slAt.rd1 hu ?_
    refine hou.slAt.rdS (i := 0) (e := z) It.len rfl ?_
    refine ⟨rfl, z.one, storeK_local rfl ?_⟩
    have kp := Keep.push (S := fun _ => False) h2 (.cells z.f.toArray 74 (0, 0))
    have hn3 := hp_push_new (h := h2) (o := .cells z.f.toArray 74 (0, 0))
    have hb3 := hb2.more kp
    have hp3 := kp.get hp2 (by simp)
    have k3 := kk2.trans kp
    have hL : h.size < h2.size := hp_lt hp2
    generalize h2.push (.cells z.f.toArray 74 (0, 0)) = h3 at *
    generalize h2.size = L at *
    have hou3 := hb3.it k y u hy hu
    rw [hyi] at hou3
    rw [nnK_ptr]
    refine lx hb3.blk rfl ?_
    rw [nnK_ptr]
    refine lx hb3.blk rfl ?_
    refine hb3.items.slAt.rd1 hu ?_
    obtain ⟨g, o, cap, rfl, hnc⟩ : ∃ g o cap, u = .slice (some ⟨g, o, none⟩) (rest.length + 1) cap ∧ rest.length + 1 ≤ cap := by
      rcases hou3.shape with ⟨_, h0, _⟩ | ⟨g, o, cap, rfl, _, _, hc, _⟩
      · simp at h0
      · exact ⟨g, o, cap, rfl, hc⟩
    have htl := ownTail (x := z.f) (rest := fi rest) (n := rest.length) (sz := 2) hou3 rfl
    rw [asSl_sl]
    refine ⟨by omega, by omega, by omega, ?_⟩
    refine ownStore1 hb3.items hkl fun h4 hj4 k4 => ?_
    have T4 := OfTy.own hb3.items
    have kk4 : Keep (fun q => gv.ownBlock = some q ∨ (jv.ownBlock = some q ∨ (Value.slice (some ⟨g, o, none⟩) (rest.length + 1) cap).ownBlock = some q)) h3 h4 := k4.mono fun _ _ e => .inr (.inl e)
    have hmap : ((ys.set k { y with items := rest }).map fun y => Value.bool y.gone) = ys.map fun y => .bool y.gone := by
      rw [List.map_set]
      exact set_same (by rw [List.getElem?_map, hy]; rfl)
    have hvo : ∀ G, (Value.slice (if cap = Int.toNat 1 then some ⟨g, o, none⟩ else Option.map (fun y => Addr.add y (Int.toNat 1 * 2)) (some ⟨g, o, none⟩)) (Int.toNat ((rest.length + 1 : Nat) : Int) - Int.toNat 1) (cap - Int.toNat 1)).ownBlock = some G →
        (Value.slice (some ⟨g, o, none⟩) (rest.length + 1) cap).ownBlock = some G ∨ h3.size ≤ G := by
      intro G hG
      refine .inl ?_
      split at hG
      · exact hG
      · simpa [Value.ownBlock, addr_add] using hG
    have hb4 := hb3.setY (y' := { y with items := rest }) hy hu kk4 rfl (by rw [hmap, List.length_set]; exact keepT hb3.gone k4 T4 (by decide)) (by rw [List.length_set]; exact hj4) (keepT htl k4 T4 (by decide)) hvo
    have u4 := (Upd.of (F := Fb b w sv jv gv its) k3).trans (hb3.updY hu kk4 hvo)
    have hn4 := k4.get hn3 (fun e => by have := (hb.items.lt _ e).2; omega)
    have hp4 := k4.get hp3 (fun e => by have := (hb.items.lt _ e).2; omega)
    have htk : ¬ task < 0 := fun hh => hw (.inl hh)
    have hhs : h.size ≤ h4.size := u4.keep.size
    have tail : ∀ (h5 : Hp), Bk h5 b w sv jv gv (moveE xs z.e task).1 (its.set k (Value.slice (if cap = Int.toNat 1 then some ⟨g, o, none⟩ else Option.map (fun y => Addr.add y (Int.toNat 1 * 2)) (some ⟨g, o, none⟩)) (Int.toNat ((rest.length + 1 : Nat) : Int) - Int.toNat 1) (cap - Int.toNat 1))) (ys.set k { y with items := rest }) →
        Keep (fun q => w.ownBlock = some q) h4 h5 →
        ∃ C86, cellsH h5 ⟨L, 0, none⟩ 2 C86 ∧ C86.toArray.size = 2 ∧ (∀ u ∈ C86, one u) ∧ storeK h5 ⟨h.size, 0, none⟩ C86 fun h87 => ∃ C88, cellsH h87 ⟨h.size, 0, none⟩ 2 C88 ∧
          (Value.tuple #[.agg C88.toArray, .int .i64 1] = .tuple #[.agg z.f.toArray, .int .i64 1] ∧ ∃ F', BkR h87 b (moveE xs z.e task).1 (ys.set k { y with items := rest }) F' ∧ Upd (Fb b w sv jv gv its) F' h h87) := by
      intro h5 hb5 k5
      have hwl : ∀ q, w.ownBlock = some q → q < h.size := fun q hq => (hb.own.lt q hq).2
      refine ⟨z.f, cellsH_blk (k5.get hn4 (fun e => by have := hwl _ e; omega)) rfl, rfl, z.one, ?_⟩
      refine fin _ z It.zero (k5.get hp4 (fun e => by have := hwl _ e; omega)) _ fun h6 k6 => ?_
      have u35 := (hb3.updY hu kk4 hvo).trans (hb4.updW (w' := w) (h' := h5) (k5.mono fun _ _ e => .inr e) (fun _ e => .inl e))
      have u5 := u4.trans (hb4.updW (w' := w) (h' := h5) (k5.mono fun _ _ e => .inr e) (fun _ e => .inl e))
      refine ⟨rfl, _, ⟨_, _, _, _, _, hb5.keep k6 (fun q hq e => ?_), rfl⟩, ⟨u5.keep.newer (k6.mono fun _ _ e => .inr (Nat.le_of_eq e.symm)), u5.more⟩⟩
      rcases u35.more q hq with hF | hge
      · have := hb.lt hF
        omega
      · have := hp_lt hn3
        omega
    rcases hzi with hz | ⟨i2, hz, hil2⟩
    · refine ⟨false, ?_, fun _ => ?_⟩
      · refine lx hn4 rfl ?_
        rw [asK_int]
        exact cond_f (by simp; omega) ⟨rfl, trivial⟩
      · have hm : (moveE xs z.e task).1 = xs := moveE_f (by rw [moveE, atE_out (.inl hz), if_neg (by simp)])
        refine ⟨fun h' => h' = h4, rfl, ?_⟩
        rintro _ _ rfl
        rw [hm] at tail ⊢
        exact tail _ hb4 (Keep.refl _ _)
    · have hx2 := List.getElem?_eq_getElem hil2
      generalize xs[i2] = x2 at hx2
      have ha2 := atE_in hx2
      rw [← hz] at ha2
      refine ⟨x2.h != -2, ?_, fun _ => ?_⟩
      · refine lx hn4 rfl ?_
        rw [asK_int]
        refine cond_t (by simp; omega) ?_
        rw [nnK_ptr]
        refine lx hb4.blk rfl ?_
        refine lx hn4 rfl ?_
        rw [hz]
        refine hb4.own.slAt.rdT E4.len hx2 rfl ?_
        rw [asK_int]
        exact ⟨rfl, trivial⟩
      · refine ⟨fun h5 => Bk h5 b w sv jv gv (moveE xs z.e task).1 (its.set k (Value.slice (if cap = Int.toNat 1 then some ⟨g, o, none⟩ else Option.map (fun y => Addr.add y (Int.toNat 1 * 2)) (some ⟨g, o, none⟩)) (Int.toNat ((rest.length + 1 : Nat) : Int) - Int.toNat 1) (cap - Int.toNat 1))) (ys.set k { y with items := rest }) ∧
            Keep (fun q => w.ownBlock = some q) h4 h5, ?_, fun _ h5 hh => tail h5 hh.1 hh.2⟩
        refine cond_c (fun hh => ?_) (fun hh => ?_)
        · have hh' : x2.h ≠ -2 := by simpa using hh
          have hm : (moveE xs z.e task).1 = xs.set i2 { x2 with h := task } := by
            rw [moveE, ha2, if_pos ⟨rfl, by omega, hh'⟩, hz]
            rfl
          rw [hm]
          rw [nnK_ptr]
          refine lx hb4.blk rfl ?_
          refine lx hn4 rfl ?_
          rw [hz]
          simp only [oneK_int]
          exact hb4.eSet hx2 (x' := { x2 with h := task }) (by omega) rfl fun h5 hb5 k5 => ⟨hb5, k5⟩
        · have hh' : x2.h = -2 := by simpa using hh
          have hm : (moveE xs z.e task).1 = xs := moveE_f (by rw [moveE, ha2, if_neg (by simp [hh'])])
          rw [hm]
          exact ⟨hb4, Keep.refl _ _⟩
end
end Go.Proofs.Ytipgilfbhceknaa
