/- The book: Put. -/
import Derived.Test.YtipgilfbhceknaaBk4
namespace Go.Proofs.Ytipgilfbhceknaa
open Go Go.Sx Go.Proofs.Ytipgilfbhceknaa.Sx
section
variable {ω : Amb} {h h' : Hp} {b : Nat} {w sv jv gv : Value} {xs : List E4} {its : List Value} {ys : List C4}
theorem Bk.itApp (hb : Bk h b w sv jv gv xs its ys) {k : Nat} {y : C4} {u : Value} (hy : ys[k]? = some y) (hu : its[k]? = some u) (z : It) (hil : y.items.length ≤ 100000000) {K : Hp → Prop}
    (hk : ∀ h' u', Bk h' b w sv jv gv xs (its.set k u') (ys.set k { y with items := y.items ++ [z] }) → Upd (Fb b w sv jv gv its) (Fb b w sv jv gv (its.set k u')) h h' → K h') :
    appK Try.prog 63 (Array.push h (.cells (List.toArray z.f) 74 (0, 0))) u (.slice (some ⟨Array.size h, 0, none⟩) 1 1) fun w2 h2 =>
      cellH h2 (Addr.add ⟨b, 0, none⟩ 2) = some jv ∧ asSl1 jv fun a l _ => 0 ≤ (k : Int) ∧ (k : Int) < (l : Int) ∧ oneK w2 (storeK1 h2 (Addr.add a (Int.toNat (k : Int) * 1)) w2 K) := by
  have hkl := (List.getElem?_eq_some_iff.1 hy).1
  have hou := hb.it k y u hy hu
  refine appK_one (bt := 16) (by kernel_rfl) hou (It.len z) z.one (by omega) (by omega) (Nat.zero_le _) fun w2 h2 ho2 hg _ hv => ?_
  have kg := Keep.grown (S := fun k => u.ownBlock = some k) hg (fun k hk _ => hk)
  have Tu := OfTy.own hou
  have b2 := kg.get hb.blk (Tu.not hb.blk (by decide))
  have oj2 := keepT hb.items kg Tu (by decide)
  have og2 := keepT hb.gone kg Tu (by decide)
  refine ⟨lx' b2 rfl, ?_⟩
  simp only [oneK_eq (OwnH.isOne ho2)]
  refine ownStore1 oj2 hkl fun h3 hj3 k3 => ?_
  have T3 := OfTy.own oj2
  have kk : Keep (fun i => gv.ownBlock = some i ∨ (jv.ownBlock = some i ∨ u.ownBlock = some i)) h h3 := (kg.mono fun _ _ e => .inr (.inr e)).trans (k3.mono fun _ _ e => .inr (.inl e))
  have hmap : ((ys.set k { y with items := y.items ++ [z] }).map fun y => Value.bool y.gone) = ys.map fun y => .bool y.gone := by
    rw [List.map_set]
    exact set_same (by rw [List.getElem?_map, hy]; rfl)
  refine hk h3 w2 (hb.setY (y' := { y with items := y.items ++ [z] }) hy hu kk rfl (by rw [hmap, List.length_set]; exact keepT og2 k3 T3 (by decide)) (by rw [List.length_set]; exact hj3)
    (by have := keepT ho2 k3 T3 (by decide); simpa [fi] using this) hv) (hb.updY hu kk hv)

theorem BPut_law (hb : Bk h b w sv jv gv xs its ys) (hB : Bd xs ys) (hr : ∀ y ∈ ys, 0 < y.slots → y.items.length ≤ y.slots) (e : Int) (x : It) (X : List PanicEntry → Hp → Prop) :
    CallX Try.prog ω n_p_pipewrightref_Book_Put [.pointer (some ⟨b, 0, none⟩), .int .i64 e, .agg x.f.toArray] h (fun r h' => r = .bool (putM xs ys e x).2.2 ∧
      ∃ F', BkR h' b (putM xs ys e x).1 (putM xs ys e x).2.1 F' ∧ Upd (Fb b w sv jv gv its) F' h h') X := by
  refine C_p_pipewrightref_Book_Put ω _ _ _ h _ X ?_
  unfold W_p_pipewrightref_Book_Put
  have k0 : Keep (fun _ => False) h (h.push (.cells x.f.toArray 74 (0, 0))) := Keep.push _ _
  have hp0 : (h.push (.cells x.f.toArray 74 (0, 0)))[h.size]? = some (.cells x.f.toArray 74 (0, 0)) := hp_push_new
  have e0 : (h.push (.cells (Value.cells (.agg x.f.toArray)) 74 (0, 0))) = (h.push (.cells x.f.toArray 74 (0, 0))) := rfl
  rw [e0]
  generalize h.push (.cells x.f.toArray 74 (0, 0)) = h0 at *
  have hb0 := hb.more k0
  refine ⟨fun r h' => r = .bool (decide (sideE xs e true = none ∨ waitsM xs ys e = true)) ∧ Keep (fun _ => False) h0 h', ?_, ?_⟩
  · refine CallX.use (there_law hb0 e true) ?_
    rintro _ h1 ⟨rfl, k1⟩
    rw [asB_bool]
    refine cond_c (fun hs => ⟨?_, k1⟩) (fun hs => ?_)
    · have hs' : sideE xs e true = none := by simpa using hs
      rw [decide_eq_true (.inl hs')]
    · have hs' : ¬ sideE xs e true = none := by
        intro hh
        rw [hh] at hs
        cases hs
      refine CallX.use (BWaits_law (hb0.more k1) hB hr e) fun r h2 ⟨hr, k2⟩ => ⟨?_, k1.trans k2⟩
      rw [hr]
      congr 1
      rw [Bool.eq_iff_iff]
      simp [hs']
  rintro _ _ h2 ⟨rfl, k2⟩
  have hb2 := hb0.more k2
  have kk2 := k0.trans k2
  have hp2 := k2.get hp0 (by simp)
  rw [asB_bool]
  unfold putM
  refine cond_c (fun hc => ?_) (fun hc => ?_)
  · have hc' := of_decide_eq_true hc
    cases hs : sideE xs e true with
    | none => exact ⟨rfl, _, ⟨_, _, _, _, _, hb2, rfl⟩, Upd.of kk2⟩
    | some k =>
      rw [hs] at hc'
      have hw : waitsM xs ys e = true := by simpa using hc'
      simp only [if_pos hw]
      exact ⟨trivial, _, ⟨_, _, _, _, _, hb2, rfl⟩, Upd.of kk2⟩
  have hc' := of_decide_eq_false hc
  cases hs : sideE xs e true with
  | none => exact absurd (.inl hs) hc'
  | some k =>
  have hw : ¬ waitsM xs ys e = true := fun hh => hc' (.inr hh)
  obtain ⟨i, xe, y, rfl, hx, hxc, _, _, hy, _⟩ := side_at hB hs
  obtain ⟨u, hu, hou⟩ := hb2.atIt hy
  have hil := hB.il y (List.mem_iff_getElem?.2 ⟨k, hy⟩)
  simp only [if_neg hw, yAt_of hy]
  rw [nnK_ptr]
  refine lx hb2.blk rfl ?_
  refine hb2.own.slAt.rdT E4.len hx rfl ?_
  rw [hxc]
  refine lx hp2 rfl ?_
  rw [asK_int]
  refine cond_c (fun he => ?_) (fun he => ?_)
  · have he' : x.e < 0 := by simpa using he
    simp only [if_pos he']
    rw [nnK_ptr]
    refine lx hb2.blk rfl ?_
    refine hb2.gAt hy ?_
    rw [asB_bool]
    refine ⟨fun h' => ∃ F', BkR h' b xs (if y.gone = true then ys else ys.set k { y with items := y.items ++ [⟨x.n, -1⟩] }) F' ∧ Upd (Fb b w sv jv gv its) F' h h', ?_, ?_⟩
    · refine cond_c (fun hg => ?_) (fun hg => ?_)
      · have hg' : ¬ y.gone = true := by simpa using hg
        rw [if_neg hg']
        rw [nnK_ptr]
        refine lx hb2.blk rfl ?_
        rw [nnK_ptr]
        refine lx hb2.blk rfl ?_
        refine rd1a hb2.items.slAt hu fun a c => ?_
        refine lx hp2 rfl ?_
        rw [oneK_int]
        have kp := Keep.push (S := fun _ => False) h2 (.cells (List.toArray [.int .i64 x.n, .int .i64 (-1)]) 74 (0, 0))
        refine ⟨trivial, kp.cell c (by simp), lx' (hb2.more kp).blk rfl, lx' (hb2.more kp).blk rfl, ?_⟩
        exact hb2.itApp hy hu ⟨x.n, -1⟩ hil fun h3 u3 hb3 u3' => ⟨_, ⟨_, _, _, _, _, hb3, rfl⟩, (Upd.of kk2).trans u3'⟩
      · have hg' : y.gone = true := by simpa using hg
        rw [if_pos hg']
        exact ⟨_, ⟨_, _, _, _, _, hb2, rfl⟩, Upd.of kk2⟩
    · rintro _ h3 ⟨F3, hb3, u3⟩
      by_cases hg : y.gone = true
      · simp only [if_pos hg] at hb3 ⊢
        exact ⟨trivial, _, hb3, u3⟩
      · simp only [if_neg hg] at hb3 ⊢
        exact ⟨trivial, _, hb3, u3⟩
  · have he' : ¬ x.e < 0 := by simpa using he
    simp only [if_neg he']
    refine lx hp2 rfl ?_
    refine CallX.use (At_law hb2.cell hb2.own.slAt x.e) fun r h3 ⟨hr, k3⟩ => ?_
    subst hr
    simp only [asT_tup, ld4, asO_some, asA_agg]
    refine ⟨rfl, (atE xs x.e).1.one, storeK_local rfl ?_⟩
    have hloc := hp_push_new (h := h3) (o := .cells (atE xs x.e).1.f.toArray 36 (0, 0))
    have kx := k3.trans (Keep.push h3 (.cells (atE xs x.e).1.f.toArray 36 (0, 0)))
    generalize h3.push (.cells (atE xs x.e).1.f.toArray 36 (0, 0)) = h4 at *
    generalize h3.size = L at *
    have hb4 := hb2.more kx
    have hp4 := kx.get hp2 (by simp)
    have k4 := kk2.trans kx
    refine ⟨decide ((atE xs x.e).2 = false ∨ (atE xs x.e).1.h < 0 ∨ x.e = i), ?_, fun _ => ?_⟩
    · rw [asB_bool]
      refine cond_c (fun ho => ⟨?_, trivial⟩) (fun ho => ?_)
      · have ho' : (atE xs x.e).2 = false := by simpa using ho
        rw [decide_eq_true (.inl ho')]
      · have ho' : (atE xs x.e).2 = true := by simpa using ho
        refine lx hloc rfl ?_
        rw [asK_int]
        refine cond_c (fun hh => ⟨?_, trivial⟩) (fun hh => ?_)
        · rw [decide_eq_true (.inr (.inl (by simpa using hh)))]
        · refine lx hp4 rfl ?_
          rw [asK_int, asK_int]
          refine ⟨?_, trivial⟩
          have hh' : ¬ (atE xs x.e).1.h < 0 := by simpa using hh
          congr 1
          rw [Bool.eq_iff_iff]
          simp [ho', hh']
    refine cond_c (fun hq => ?_) (fun hq => ?_)
    · have hq' := of_decide_eq_true hq
      simp only [if_pos hq']
      exact ⟨trivial, _, ⟨_, _, _, _, _, hb4, rfl⟩, Upd.of k4⟩
    have hq' := of_decide_eq_false hq
    simp only [if_neg hq']
    rw [nnK_ptr]
    refine lx hb4.blk rfl ?_
    refine hb4.gAt hy ?_
    rw [asB_bool]
    refine cond_c (fun hg => ?_) (fun hg => ?_)
    · simp only [if_pos hg]
      refine lx hp4 rfl ?_
      exact CallX.use (BDrop_law (liveN xs) hb4 hB (Nat.le_refl _) x.e) fun r h5 ⟨_, F5, h1, h2⟩ => ⟨trivial, F5, h1, (Upd.of k4).trans h2⟩
    · have hg' : ¬ y.gone = true := by simp [hg]
      simp only [if_neg hg']
      obtain ⟨i2, x2, hxe, hil2, hx2, ha2⟩ : ∃ (i2 : Nat) (x2 : E4), x.e = i2 ∧ i2 < xs.length ∧ xs[i2]? = some x2 ∧ atE xs x.e = (x2, true) := by
        rcases atE_cases xs x.e with ⟨_, ha⟩ | hh
        · exact absurd (.inl (by rw [ha])) hq'
        · exact hh
      have hh2 : ¬ x2.h < 0 := by
        intro hh
        refine hq' (.inr (.inl ?_))
        rw [ha2]
        exact hh
      have hm : (moveE xs x.e (-1)).1 = xs.set i2 { x2 with h := -1 } := by
        rw [moveE, ha2, if_pos ⟨rfl, by omega, by simp only; omega⟩, hxe]
        rfl
      rw [hm]
      rw [nnK_ptr]
      refine lx hb4.blk rfl ?_
      refine lx hp4 rfl ?_
      rw [hxe]
      refine hb4.eSet hx2 (x' := { x2 with h := -1 }) (by omega) rfl fun h5 hb5 k5 => ?_
      have u5 := (Upd.of k4).trans (hb4.updW (w' := w) (k5.mono fun _ _ e => .inr e) (fun _ e => .inl e))
      have hp5 := k5.get hp4 (fun e => by have := (hb.own.lt _ e).2; omega)
      obtain ⟨u5', hu5, hou5⟩ := hb5.atIt hy
      rw [nnK_ptr]
      refine lx hb5.blk rfl ?_
      rw [nnK_ptr]
      refine lx hb5.blk rfl ?_
      refine rd1a hb5.items.slAt hu5 fun a c => ?_
      refine lx hp5 rfl ?_
      rw [oneK_int]
      have kp := Keep.push (S := fun _ => False) h5 (.cells (List.toArray [.int .i64 0, .int .i64 x.e]) 74 (0, 0))
      refine ⟨trivial, kp.cell c (by simp), lx' (hb5.more kp).blk rfl, lx' (hb5.more kp).blk rfl, ?_⟩
      rw [hxe]
      refine hb5.itApp hy hu5 ⟨0, i2⟩ hil fun h6 u6 hb6 u6' => ⟨trivial, _, ⟨_, _, _, _, _, hb6, rfl⟩, u5.trans u6'⟩
end
end Go.Proofs.Ytipgilfbhceknaa
