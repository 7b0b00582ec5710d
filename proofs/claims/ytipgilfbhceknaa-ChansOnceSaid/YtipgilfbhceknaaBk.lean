/- The book: how it lies in the heap; there, Senders, Waits, Clone. -/
import Derived.Test.YtipgilfbhceknaaSto8
namespace Go.Proofs.Ytipgilfbhceknaa
open Go Go.Sx Go.Proofs.Ytipgilfbhceknaa.Sx

/-- S has blocks of some types alone -/
def OfTy (h : Hp) (S : Nat → Prop) (T : TypeId → Prop) : Prop := ∀ k, S k → ∃ c t, h[k]? = some (.cells c t (0, 0)) ∧ T t
theorem OfTy.own {h : Hp} {base n sz : Nat} {t : TypeId} {v : Value} {ys : List Value} (ho : OwnH h base t sz v n ys) : OfTy h (fun k => v.ownBlock = some k) (fun t' => t' = t) := fun k hk => by
  obtain ⟨c, hc⟩ := ho.blk hk
  exact ⟨c, t, hc, rfl⟩
theorem OfTy.blk {h : Hp} {b : Nat} {c : Array Value} {t : TypeId} (hb : h[b]? = some (.cells c t (0, 0))) : OfTy h (fun k => k = b) (fun t' => t' = t) := fun k hk => by
  subst hk
  exact ⟨c, t, hb, rfl⟩
theorem OfTy.or {h : Hp} {S S' : Nat → Prop} {T T' : TypeId → Prop} (a : OfTy h S T) (b : OfTy h S' T') : OfTy h (fun k => S k ∨ S' k) (fun t => T t ∨ T' t) := fun k hk => by
  rcases hk with hk | hk
  · obtain ⟨c, t, h1, h2⟩ := a k hk
    exact ⟨c, t, h1, .inl h2⟩
  · obtain ⟨c, t, h1, h2⟩ := b k hk
    exact ⟨c, t, h1, .inr h2⟩
theorem OfTy.not {h : Hp} {S : Nat → Prop} {T : TypeId → Prop} (a : OfTy h S T) {k : Nat} {c : Array Value} {t : TypeId} {f : Nat × Nat} (hb : h[k]? = some (.cells c t f)) (hn : ¬ T t) : ¬ S k := fun hk => by
  obtain ⟨c', t', h1, h2⟩ := a k hk
  rw [hb] at h1
  cases h1
  exact hn h2
theorem keepT {h h' : Hp} {base n sz : Nat} {t : TypeId} {v : Value} {ys : List Value} (ho : OwnH h base t sz v n ys) {S : Nat → Prop} {T : TypeId → Prop} (hk : Keep S h h') (hT : OfTy h S T) (hn : ¬ T t) : OwnH h' base t sz v n ys :=
  ho.keep fun k hk' hlt => hk.block k hlt (by
    obtain ⟨c, hc⟩ := ho.blk hk'
    exact hT.not hc hn)

structure Bk (h : Hp) (b : Nat) (w sv jv gv : Value) (xs : List E4) (its : List Value) (ys : List C4) : Prop where
  blk : h[b]? = some (.cells (List.toArray [w, sv, jv, gv]) 32 (0, 0))
  own : OwnH h 0 36 4 w xs.length (fl xs)
  slots : OwnH h 0 3 1 sv ys.length (ys.map fun y => .int .i64 y.slots)
  items : OwnH h 0 63 1 jv ys.length its
  gone : OwnH h 0 4 1 gv ys.length (ys.map fun y => .bool y.gone)
  it : ∀ (k : Nat) (y : C4) (u : Value), ys[k]? = some y → its[k]? = some u → OwnH h 0 74 2 u y.items.length (fi y.items)
  dis : ∀ (i j : Nat) (u u' : Value), its[i]? = some u → its[j]? = some u' → i ≠ j → ∀ G, u.ownBlock = some G → u'.ownBlock ≠ some G
def Fb (b : Nat) (w sv jv gv : Value) (its : List Value) (k : Nat) : Prop :=
  k = b ∨ w.ownBlock = some k ∨ sv.ownBlock = some k ∨ jv.ownBlock = some k ∨ gv.ownBlock = some k ∨ ∃ u ∈ its, u.ownBlock = some k

section
variable {ω : Amb} {h h' : Hp} {b : Nat} {w sv jv gv : Value} {xs : List E4} {its : List Value} {ys : List C4}
theorem Bk.len (hb : Bk h b w sv jv gv xs its ys) : its.length = ys.length := by have := hb.items.1; omega
theorem Bk.itAt (hb : Bk h b w sv jv gv xs its ys) {k : Nat} {u : Value} (hu : its[k]? = some u) : ∃ y, ys[k]? = some y ∧ OwnH h 0 74 2 u y.items.length (fi y.items) := by
  have hl := (List.getElem?_eq_some_iff.1 hu).1
  have hy : ys[k]? = some (ys[k]'(by rw [← hb.len]; exact hl)) := List.getElem?_eq_getElem _
  exact ⟨_, hy, hb.it _ _ _ hy hu⟩
theorem Bk.atIt (hb : Bk h b w sv jv gv xs its ys) {k : Nat} {y : C4} (hy : ys[k]? = some y) : ∃ u, its[k]? = some u ∧ OwnH h 0 74 2 u y.items.length (fi y.items) := by
  have hl := (List.getElem?_eq_some_iff.1 hy).1
  have hu : its[k]? = some (its[k]'(by rw [hb.len]; exact hl)) := List.getElem?_eq_getElem _
  exact ⟨_, hu, hb.it _ _ _ hy hu⟩
theorem Bk.lt (hb : Bk h b w sv jv gv xs its ys) {k : Nat} (hk : Fb b w sv jv gv its k) : k < h.size := by
  rcases hk with rfl | hk | hk | hk | hk | ⟨u, hu, hk⟩
  · exact hp_lt hb.blk
  · exact (hb.own.lt k hk).2
  · exact (hb.slots.lt k hk).2
  · exact (hb.items.lt k hk).2
  · exact (hb.gone.lt k hk).2
  · obtain ⟨i, hi⟩ := List.mem_iff_getElem?.1 hu
    obtain ⟨y, _, ho⟩ := hb.itAt hi
    exact (ho.lt k hk).2
theorem Bk.keep (hb : Bk h b w sv jv gv xs its ys) {S : Nat → Prop} (hk : Keep S h h') (hn : ∀ k, Fb b w sv jv gv its k → ¬ S k) : Bk h' b w sv jv gv xs its ys where
  blk := hk.get hb.blk (hn _ (.inl rfl))
  own := hb.own.keep fun k hk' hlt => hk.block k hlt (hn k (.inr (.inl hk')))
  slots := hb.slots.keep fun k hk' hlt => hk.block k hlt (hn k (.inr (.inr (.inl hk'))))
  items := hb.items.keep fun k hk' hlt => hk.block k hlt (hn k (.inr (.inr (.inr (.inl hk')))))
  gone := hb.gone.keep fun k hk' hlt => hk.block k hlt (hn k (.inr (.inr (.inr (.inr (.inl hk'))))))
  it := fun i y u hy hu => (hb.it i y u hy hu).keep fun k hk' hlt => hk.block k hlt (hn k (.inr (.inr (.inr (.inr (.inr ⟨u, List.mem_iff_getElem?.2 ⟨i, hu⟩, hk'⟩))))))
  dis := hb.dis
theorem Bk.more (hb : Bk h b w sv jv gv xs its ys) (hk : Keep (fun _ => False) h h') : Bk h' b w sv jv gv xs its ys := hb.keep hk (by simp)
theorem Bk.cell (hb : Bk h b w sv jv gv xs its ys) : cellH h ⟨b, 0, none⟩ = some w := by rw [cellH_block hb.blk]; rfl
theorem Bk.gAt (hb : Bk h b w sv jv gv xs its ys) {k : Nat} {y : C4} (hy : ys[k]? = some y) {K : Value → Prop} (hk : K (.bool y.gone)) :
    asSl1 gv fun a l _ => 0 ≤ (k : Int) ∧ (k : Int) < (l : Int) ∧ ∃ w, cellH h (Addr.add a (Int.toNat (k : Int) * 1)) = some w ∧ K w :=
  hb.gone.slAt.rd1 (by rw [List.getElem?_map, hy]; rfl) hk
theorem Bk.sAt (hb : Bk h b w sv jv gv xs its ys) {k : Nat} {y : C4} (hy : ys[k]? = some y) {K : Value → Prop} (hk : K (.int .i64 y.slots)) :
    asSl1 sv fun a l _ => 0 ≤ (k : Int) ∧ (k : Int) < (l : Int) ∧ ∃ w, cellH h (Addr.add a (Int.toNat (k : Int) * 1)) = some w ∧ K w :=
  hb.slots.slAt.rd1 (by rw [List.getElem?_map, hy]; rfl) hk
/-- the ends turn -/
theorem Bk.setW (hb : Bk h b w sv jv gv xs its ys) {w' : Value} {xs' : List E4} (hk : Keep (fun k => k = b ∨ w.ownBlock = some k) h h') (h1 : h'[b]? = some (.cells (List.toArray [w', sv, jv, gv]) 32 (0, 0))) (h2 : OwnH h' 0 36 4 w' xs'.length (fl xs')) :
    Bk h' b w' sv jv gv xs' its ys :=
  have hT := (OfTy.blk hb.blk).or (OfTy.own hb.own)
  ⟨h1, h2, keepT hb.slots hk hT (by decide), keepT hb.items hk hT (by decide), keepT hb.gone hk hT (by decide), fun k y u hy hu => keepT (hb.it k y u hy hu) hk hT (by decide), hb.dis⟩
theorem Bk.updW (_ : Bk h b w sv jv gv xs its ys) {w' : Value} (hk : Keep (fun k => k = b ∨ w.ownBlock = some k) h h') (hv : ∀ k, w'.ownBlock = some k → w.ownBlock = some k ∨ h.size ≤ k) : Upd (Fb b w sv jv gv its) (Fb b w' sv jv gv its) h h' :=
  ⟨hk.mono fun k _ hh => hh.imp id .inl, fun k hk' => by
    rcases hk' with e | e | e
    · exact .inl (.inl e)
    · exact (hv k e).imp (fun e => .inr (.inl e)) id
    · exact .inl (.inr (.inr e))⟩
/-- a channel turns -/
theorem Bk.setY (hb : Bk h b w sv jv gv xs its ys) {k : Nat} {y y' : C4} {u u' : Value} (hy : ys[k]? = some y) (hu : its[k]? = some u) (hk : Keep (fun i => gv.ownBlock = some i ∨ (jv.ownBlock = some i ∨ u.ownBlock = some i)) h h')
    (hs : y'.slots = y.slots) (hg : OwnH h' 0 4 1 gv (ys.set k y').length ((ys.set k y').map fun y => .bool y.gone)) (hj : OwnH h' 0 63 1 jv (ys.set k y').length (its.set k u'))
    (hi : OwnH h' 0 74 2 u' y'.items.length (fi y'.items)) (hv : ∀ G, u'.ownBlock = some G → u.ownBlock = some G ∨ h.size ≤ G) : Bk h' b w sv jv gv xs (its.set k u') (ys.set k y') := by
  have hl := (List.getElem?_eq_some_iff.1 hy).1
  have hT := (OfTy.own hb.gone).or ((OfTy.own hb.items).or (OfTy.own (hb.it k y u hy hu)))
  refine ⟨hk.get hb.blk (hT.not hb.blk (by decide)), keepT hb.own hk hT (by decide), ?_, hj, hg, fun j z t hz ht => ?_, fun i j t t' ht ht' hne G hG hG' => ?_⟩
  · have : (ys.set k y').map (fun y => Value.int .i64 y.slots) = ys.map fun y => .int .i64 y.slots := by
      rw [List.map_set]
      exact set_same (by rw [List.getElem?_map, hy, hs]; rfl)
    rw [this, List.length_set]
    exact keepT hb.slots hk hT (by decide)
  · rcases set_get hz with ⟨rfl, rfl, _⟩ | ⟨hne, hz⟩
    · rw [List.getElem?_set_self (by rw [hb.len]; exact hl)] at ht
      cases ht
      exact hi
    · rw [List.getElem?_set_ne hne] at ht
      refine (hb.it j z t hz ht).keep fun q hq hlt => hk.block q hlt ?_
      obtain ⟨c, hc⟩ := (hb.it j z t hz ht).blk hq
      rintro (e | e | e)
      · exact (OfTy.own hb.gone).not hc (by decide) e
      · exact (OfTy.own hb.items).not hc (by decide) e
      · exact hb.dis k j u t hu ht hne q e hq
  · rcases set_get ht with ⟨rfl, rfl, _⟩ | ⟨h1, ht2⟩
    · rcases set_get ht' with ⟨rfl, _, _⟩ | ⟨h1, ht'⟩
      · exact hne rfl
      · rcases hv G hG with e | e
        · exact hb.dis k j u t' hu ht' h1 G e hG'
        · obtain ⟨_, _, ho⟩ := hb.itAt ht'
          have := (ho.lt G hG').2
          omega
    · rcases set_get ht' with ⟨rfl, rfl, _⟩ | ⟨_, ht'⟩
      · rcases hv G hG' with e | e
        · exact hb.dis k i u t hu ht2 h1 G e hG
        · obtain ⟨_, _, ho⟩ := hb.itAt ht2
          have := (ho.lt G hG).2
          omega
      · exact hb.dis i j t t' ht2 ht' hne G hG hG'
theorem Bk.updY (_ : Bk h b w sv jv gv xs its ys) {k : Nat} {u u' : Value} (hu : its[k]? = some u) (hk : Keep (fun i => gv.ownBlock = some i ∨ (jv.ownBlock = some i ∨ u.ownBlock = some i)) h h')
    (hv : ∀ G, u'.ownBlock = some G → u.ownBlock = some G ∨ h.size ≤ G) : Upd (Fb b w sv jv gv its) (Fb b w sv jv gv (its.set k u')) h h' := by
  have hm : u ∈ its := List.mem_iff_getElem?.2 ⟨k, hu⟩
  refine ⟨hk.mono fun i _ e => ?_, fun i hi => ?_⟩
  · rcases e with e | e | e
    · exact .inr (.inr (.inr (.inr (.inl e))))
    · exact .inr (.inr (.inr (.inl e)))
    · exact .inr (.inr (.inr (.inr (.inr ⟨u, hm, e⟩))))
  · rcases hi with e | e | e | e | e | ⟨z, hz, e⟩
    · exact .inl (.inl e)
    · exact .inl (.inr (.inl e))
    · exact .inl (.inr (.inr (.inl e)))
    · exact .inl (.inr (.inr (.inr (.inl e))))
    · exact .inl (.inr (.inr (.inr (.inr (.inl e)))))
    · rcases List.mem_or_eq_of_mem_set hz with hz | rfl
      · exact .inl (.inr (.inr (.inr (.inr (.inr ⟨z, hz, e⟩)))))
      · exact (hv i e).imp (fun e => .inr (.inr (.inr (.inr (.inr ⟨u, hm, e⟩))))) id

theorem there_law (hb : Bk h b w sv jv gv xs its ys) (e : Int) (send : Bool) (X : List PanicEntry → Hp → Prop) :
    CallX Try.prog ω n_p_pipewrightref_Book_there [.pointer (some ⟨b, 0, none⟩), .int .i64 e, .bool send] h (fun r h' => r = .bool (sideE xs e send).isSome ∧ Keep (fun _ => False) h h') X := by
  refine C_p_pipewrightref_Book_there ω _ _ _ h _ X ?_
  unfold W_p_pipewrightref_Book_there
  refine CallX.use (At_law hb.cell hb.own.slAt e) fun r h1 ⟨hr, k1⟩ => ?_
  subst hr
  simp only [asT_tup, ld4, asO_some, asA_agg]
  refine ⟨rfl, (atE xs e).1.one, storeK_local rfl ?_⟩
  have kk := k1.trans (Keep.push h1 (.cells (atE xs e).1.f.toArray 36 (0, 0)))
  have hn := hp_push_new (h := h1) (o := .cells (atE xs e).1.f.toArray 36 (0, 0))
  refine ⟨fun r h' => r = .bool (sideE xs e send).isSome ∧ Keep (fun _ => False) h h', ?_, fun _ _ _ hj => hj⟩
  unfold sideE
  rw [asB_bool]
  refine cond_c (fun ho => ?_) (fun ho => ⟨?_, kk⟩)
  · refine lx hn rfl ?_
    rw [asB_bool, asB_bool]
    refine cond_c (fun hs => ?_) (fun hs => ⟨?_, kk⟩)
    · refine lx hn rfl ?_
      rw [asK_int]
      refine ⟨?_, kk⟩
      have hs' : (atE xs e).1.s = send := by simpa using hs
      congr 1
      rw [Bool.eq_iff_iff]
      by_cases hh : (atE xs e).1.h = -2 <;> simp [ho, hs', hh]
    · have hs' : ¬ (atE xs e).1.s = send := by simpa using hs
      simp [hs']
  · simp [ho]

theorem Senders_law (hb : Bk h b w sv jv gv xs its ys) (hxl : xs.length ≤ 100000000) (k : Nat) (X : List PanicEntry → Hp → Prop) :
    CallX Try.prog ω n_p_pipewrightref_Book_Senders [.pointer (some ⟨b, 0, none⟩), .int .i64 k] h (fun r h' => r = .int .i64 (sendN xs k) ∧ h' = h) X := by
  refine C_p_pipewrightref_Book_Senders ω _ _ h _ X ?_
  unfold W_p_pipewrightref_Book_Senders
  refine ⟨fun n e h' => ∃ j, j ≤ xs.length ∧ n = .int .i64 (sendN (xs.take j) k) ∧ e = .int .i64 j ∧ h' = h, fun _ e _ => match e with | .int _ j => xs.length - j.toNat | _ => 0, ⟨0, Nat.zero_le _, rfl, rfl, rfl⟩, ?_⟩
  rintro _ _ _ h1 ⟨j, hj, rfl, rfl, hh⟩
  rw [hh]
  clear hh h1
  rw [nnK_ptr]
  refine lx hb.blk rfl ?_
  refine hb.own.slAt.sl fun _ _ => ?_
  rw [asK_int]
  refine cond_c (fun hlt => ?_) (fun hge => ?_)
  · have hlt : j < xs.length := by simpa using hlt
    have hx := List.getElem?_eq_getElem hlt
    have htk : xs.take (j + 1) = xs.take j ++ [xs[j]] := List.take_succ_eq_append_getElem hlt
    generalize xs[j] = x at hx htk
    have hle := sendN_le (xs.take j) k
    rw [List.length_take] at hle
    have hs1 := sendN_app (xs.take j) x k
    rw [← htk] at hs1
    refine ⟨fun n h' => n = .int .i64 (sendN (xs.take (j + 1)) k) ∧ h' = h, ?_, ?_⟩
    · refine ⟨alive k x, ?_, fun _ => ⟨fun n h' => n = .int .i64 (sendN (xs.take (j + 1)) k) ∧ h' = h, ?_, fun _ _ _ hj => hj⟩⟩
      · rw [nnK_ptr]
        refine lx hb.blk rfl ?_
        refine hb.own.slAt.rdT E4.len hx rfl ?_
        rw [asK_int, asK_int]
        unfold alive
        refine cond_c (fun hc => ?_) (fun hc => ⟨by rw [hc]; rfl, rfl⟩)
        rw [nnK_ptr]
        refine lx hb.blk rfl ?_
        refine hb.own.slAt.rdT E4.len hx rfl ?_
        rw [asB_bool]
        refine cond_c (fun hs => ?_) (fun hs => ⟨by rw [hs, hc]; rfl, rfl⟩)
        rw [nnK_ptr]
        refine lx hb.blk rfl ?_
        refine hb.own.slAt.rdT E4.len hx rfl ?_
        rw [asK_int]
        exact ⟨by rw [hs, hc]; rfl, rfl⟩
      · refine cond_c (fun hc => ?_) (fun hc => ?_)
        · rw [asK_int]
          rw [if_pos hc] at hs1
          refine ⟨?_, rfl⟩
          rw [hs1, i64_in (by omega) (by omega)]
          rfl
        · rw [if_neg (by simp [hc])] at hs1
          exact ⟨by rw [hs1]; rfl, rfl⟩
    · rintro _ _ _ ⟨rfl, rfl⟩
      rw [asK_int, i64_in (by omega) (by omega)]
      exact ⟨⟨j + 1, by omega, rfl, rfl, rfl⟩, by simp; omega⟩
  · have hje : j = xs.length := by simp at hge; omega
    subst hje
    rw [List.take_length]
    exact ⟨rfl, rfl⟩
end
end Go.Proofs.Ytipgilfbhceknaa
