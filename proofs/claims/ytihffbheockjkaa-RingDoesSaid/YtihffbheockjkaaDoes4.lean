/- RingDoes: the law's contract. -/
import Derived.Test.YtihffbheockjkaaDoes3
namespace Go.Proofs.Ytihffbheockjkaa
open Go Go.Sx Go.Proofs.Ytihffbheockjkaa.Sx
variable {ω : Amb}

theorem all_of {h1 h : Hp} {RB MB SB : Nat} {bs : Bool → Nat} {gs : Bool → Option Nat} {sl : Bool → Nat} {ms : Bool → Value} {xs : Bool → List Value} (hi : DInv h1 h RB MB SB bs gs sl ms xs xs) (j : Bool) (hl : (xs j).length ≤ 1000) (X : List PanicEntry → Hp → Prop) :
    CallX Try.prog ω n_p_ring_Ring_int_All [.pointer (some ⟨bs j, 0, none⟩)] h (fun v h' => OwnH h' h.size 3 1 v (xs j).length (xs j) ∧ DInv h1 h' RB MB SB bs gs sl ms xs xs ∧ Keep (fun _ => False) h h') X :=
  CallX.use (All_int (hi.ring j) (by omega)) fun _ _ ⟨a, b⟩ => ⟨a, hi.more (b.mono fun _ _ hh => hh.elim), b⟩

theorem two_lists {n : Int} : ((if (0 : Int) > n then (0 : Int) else n)) = (n.toNat : Int) := by split <;> omega

set_option maxHeartbeats 2000000 in
theorem Does_law (a b : Int) (ha : a ≤ 9223372036854775807) (hb : b ≤ 9223372036854775807) (lv : Value) (n : Nat) (cs : List Value) (h : Hp)
    (hl : SlAt h 3 lv n cs) (hsteps : ∀ i, i < n → ∃ (d m : Int) (on : Bool), cs[i * 3 + 0]? = some (.int .i64 d) ∧ cs[i * 3 + 1]? = some (.int .i64 m) ∧ cs[i * 3 + 2]? = some (.bool on)) (X : List PanicEntry → Hp → Prop) :
    CallX Try.prog ω n_pipewrightlaw_RingDoes [.int .i64 a, .int .i64 b, lv] h (fun v h' => v = .bool true ∧ Keep (fun _ => False) h h') X := by
  refine C_pipewrightlaw_RingDoes ω _ _ _ h _ X ?_
  unfold W_pipewrightlaw_RingDoes
  refine CallX.use (Begun h) fun v h1 ⟨hv, k0⟩ => ?_
  subst hv
  rw [asB_bool]
  refine cond_f rfl (hl.sl fun _ _ => cond_c (fun _ => ⟨rfl, k0⟩) fun h500 => ?_)
  have hn : n ≤ 500 := by simp at h500; omega
  refine CallX.use (New_int a h1 ha) fun v h2 ⟨hv, hs2, k1, r1⟩ => ?_
  subst hv
  refine CallX.use (New_int b h2 hb) fun v h3 ⟨hv, hs3, k2, r2⟩ => ?_
  subst hv
  simp only [oneK_ptr, asK_int, Array.size_push, two_lists]
  -- the blocks of the law's own
  have i0 : DInv h1 (((h3.push (.cells #[.pointer (some ⟨h1.size, 0, none⟩), .pointer (some ⟨h2.size, 0, none⟩)] 35 (0, 0))).push (.cells #[.slice none 0 0, .slice none 0 0] 23 (0, 0))).push (.cells #[.int .i64 a.toNat, .int .i64 b.toNat] 3 (0, 0)))
      h3.size (h3.size + 1) (h3.size + 1 + 1) (fun j => bif j then h2.size else h1.size) (fun _ => none) (fun j => bif j then b.toNat else a.toNat) (fun _ => .slice none 0 0) (fun _ => []) (fun _ => []) := by
    have e1 : ∀ o : Obj, (h3.push o).size = h3.size + 1 := by simp
    have e2 : ∀ o o' : Obj, ((h3.push o).push o').size = h3.size + 1 + 1 := by simp
    have kp : Keep (fun _ => False) h3 (((h3.push (.cells #[.pointer (some ⟨h1.size, 0, none⟩), .pointer (some ⟨h2.size, 0, none⟩)] 35 (0, 0))).push (.cells #[.slice none 0 0, .slice none 0 0] 23 (0, 0))).push (.cells #[.int .i64 a.toNat, .int .i64 b.toNat] 3 (0, 0))) :=
      ((Keep.push _ _).trans (Keep.push _ _)).trans (Keep.push _ _)
    exact {
      rb := hp_push_old (hp_push_old hp_push_new)
      mb := hp_push_old (by rw [← e1]; exact hp_push_new)
      sb := by rw [← e2]; exact hp_push_new
      ring := fun j => by
        cases j
        · exact (r1.keep k2 (by simp) (by simp)).keep kp (by simp) (by simp)
        · exact r2.keep kp (by simp) (by simp)
      own := fun _ => OwnH.nil
      ints := by simp
      keep := (k1.trans k2).trans kp
      bne := fun j => by cases j <;> simp <;> omega
      gne := by simp
      mne := by simp [Value.ownBlock]
      mg := by simp
      mS := by simp [Value.ownBlock]
      gS := by simp
      rge := by have := k1.size; have := k2.size; omega
      mge := by have := k1.size; have := k2.size; omega
      sge := by have := k1.size; have := k2.size; omega
      bge := fun j => by cases j <;> simp <;> have := k1.size <;> omega
      gge := by simp }
  generalize h3.size = RB at *
  generalize hbs : (fun j => bif j then h2.size else h1.size) = bs at i0
  generalize hsl : (fun j => bif j then b.toNat else a.toNat) = sl at i0
  refine ⟨fun i h' => ∃ (k : Nat) (gs : Bool → Option Nat) (ms : Bool → Value) (xs : Bool → List Value), k ≤ n ∧ i = .int .i64 k ∧ DInv h1 h' RB (RB + 1) (RB + 1 + 1) bs gs sl ms xs xs ∧ (∀ j, (xs j).length ≤ k) ∧ ∀ j, 0 < sl j → (xs j).length ≤ sl j,
    fun i _ => match i with | .int _ k => n - k.toNat | _ => 0, ⟨0, _, _, _, Nat.zero_le _, rfl, i0, by simp, by simp⟩, ?_⟩
  clear i0 hbs hsl r1 r2 hs2 hs3 k1 k2
  rintro i d0 h4 ⟨k, gs, ms, xs, hk, rfl, hi, hlen, hlim⟩
  refine hl.sl fun _ _ => ?_
  simp only [asK_int, asI_int]
  have k04 : Keep (fun _ => False) h h4 := k0.trans hi.keep
  refine cond_c (fun hlt => ?_) (fun _ => ?_)
  · have hlt : k < n := by simpa using hlt
    obtain ⟨dd, nn, on, hd, hm, ho⟩ := hsteps k hlt
    have hw : IntKind.wrap .i64 ((k : Int) + 1) = ((k + 1 : Nat) : Int) := by rw [i64_in (by omega) (by omega)]; omega
    -- what a step leaves
    refine ⟨fun h' => ∃ (gs : Bool → Option Nat) (ms : Bool → Value) (xs : Bool → List Value), DInv h1 h' RB (RB + 1) (RB + 1 + 1) bs gs sl ms xs xs ∧ (∀ j, (xs j).length ≤ k + 1) ∧ ∀ j, 0 < sl j → (xs j).length ≤ sl j, ?_, ?_⟩
    · refine (hl.keep k04).rdF hlt ho ?_
      refine ⟨fun v h' => v = .int .i64 (kn on : Nat) ∧ h' = h4, ?_, ?_⟩
      · rw [asB_bool]; cases on <;> exact ⟨rfl, rfl⟩
      rintro kv d5 h5 ⟨rfl, rfl⟩
      simp only [asI_int]
      refine rd2 (hi.rdR on) ?_
      have hfull : ∀ b : Bool, b = (decide (0 < sl on) && decide ((xs on).length = sl on)) → True := fun _ _ => trivial
      refine ⟨fun v h' => v = .bool (decide (0 < sl on) && decide ((xs on).length = sl on)) ∧ h' = h5, ?_, ?_⟩
      · refine rd2 (hi.rdS on) ?_
        rw [asK_int]
        refine cond_c (fun h0 => rd2 (hi.rdM on) (ms_shape (hi.own on) fun _ _ _ => rd2 (hi.rdS on) ?_)) (fun h0 => ⟨?_, rfl⟩)
        · have h0 : 0 < sl on := by simpa using h0
          rw [asK_int]
          refine ⟨?_, rfl⟩
          have := hlim on h0
          simp only [h0, decide_true, Bool.true_and, Value.bool.injEq]
          rw [Bool.eq_iff_iff]
          simp
          omega
        · have h0 : ¬ 0 < sl on := by simpa using h0
          simp [h0]
      rintro fv d6 h6 ⟨rfl, rfl⟩
      generalize hfu : (decide (0 < sl on) && decide ((xs on).length = sl on)) = full at *
      refine ⟨false, ?_, fun _ => cond_f rfl ?_⟩
      · -- what the ring tells of itself
        refine rd2 (hi.rdS on) ?_
        refine CallX.use (Slots_int (hi.ring on)) fun v h7 ⟨e1, e2⟩ => ?_
        subst e1 e2
        refine ⟨by rw [addr_add, Int.toNat_natCast, Nat.mul_one, Nat.zero_add]; exact hi.rdS on, ?_⟩
        rw [asK_int, asK_int]
        refine cond_f (by simp) (rd2 (hi.rdM on) (ms_shape (hi.own on) fun _ _ _ => ?_))
        refine CallX.use (Len_int (hi.ring on)) fun v h8 ⟨e1, e2⟩ => ?_
        subst e1 e2
        refine ⟨by rw [addr_add, Int.toNat_natCast, Nat.mul_one, Nat.zero_add]; exact hi.rdM on, ?_⟩
        rw [asK_int]
        refine cond_f (by simp) ?_
        refine CallX.use (Full_int (hi.ring on)) fun v h9 ⟨e1, e2⟩ => ?_
        subst e1 e2
        rw [hfu]
        simp
      refine (hl.keep k04).rdF hlt hd ?_
      rw [asI_int]
      refine ⟨by omega, ?_⟩
      refine ⟨fun h' => ∃ (gs : Bool → Option Nat) (ms : Bool → Value) (xs : Bool → List Value), DInv h1 h' RB (RB + 1) (RB + 1 + 1) bs gs sl ms xs xs ∧ (∀ j, (xs j).length ≤ k + 1) ∧ ∀ j, 0 < sl j → (xs j).length ≤ sl j, ?_, fun _ _ hj => hj⟩
      refine ⟨fun h' => ∃ (gs : Bool → Option Nat) (ms : Bool → Value) (xs : Bool → List Value), DInv h1 h' RB (RB + 1) (RB + 1 + 1) bs gs sl ms xs xs ∧ (∀ j, (xs j).length ≤ k + 1) ∧ ∀ j, 0 < sl j → (xs j).length ≤ sl j, ?_, fun _ _ hj => hj⟩
      have hlen1 : ∀ j, (xs j).length ≤ k + 1 := fun j => Nat.le_succ_of_le (hlen j)
      refine cond_c (fun _ => ?_) (fun _ => ?_)
      · -- Put
        refine (hl.keep k04).rdF hlt hm ?_
        have hlo := hlen on
        refine CallX.use (Put_int (hi.ring on) (by omega) (.int .i64 nn) rfl) fun v h7 ⟨e1, e2⟩ => ?_
        have hful : full = true ↔ 0 < sl on ∧ (xs on).length = sl on := by rw [← hfu]; simp
        cases full with
        | true =>
          obtain ⟨rfl, rfl⟩ := e1 (hful.1 rfl)
          simp only [asB_bool]
          refine cond_f rfl ⟨fun h' => h' = h7, cond_f rfl rfl, ?_⟩
          rintro _ h8 rfl
          exact ⟨gs, ms, xs, hi, hlen1, hlim⟩
        | false =>
          have hnf : ¬ (0 < sl on ∧ (xs on).length = sl on) := fun hh => by have := hful.2 hh; cases this
          obtain ⟨rfl, G, r7, k7, g7⟩ := e2 hnf
          simp only [asB_bool]
          have hi7 := hi.ring1 on (g' := some G) r7 k7 (by rintro G' hG'; cases hG'; exact g7)
          refine cond_f rfl ⟨fun h' => ∃ (gs : Bool → Option Nat) (ms : Bool → Value) (xs : Bool → List Value), DInv h1 h' RB (RB + 1) (RB + 1 + 1) bs gs sl ms xs xs ∧ (∀ j, (xs j).length ≤ k + 1) ∧ ∀ j, 0 < sl j → (xs j).length ≤ sl j, cond_t rfl ?_, fun _ _ hj => hj⟩
          refine rd2 (hi7.rdM on) ?_
          refine (hl.keep (k0.trans hi7.keep)).rdF hlt hm ?_
          rw [oneK_int]
          refine ⟨?_, ?_⟩
          · rw [addr_add, Int.toNat_natCast, Nat.mul_one, Nat.zero_add]
            have := hi7.mb
            rw [cellH_block (hp_push_old this)]
            cases on <;> rfl
          have hsz := hi7.keep.size
          refine appK_one (show appFacts Try.prog 23 = some (3, 1, 8) by kernel_rfl) (cs := [.int .i64 nn]) (hi7.own on) rfl (by simp [one, Value.oneCell']) (by omega) (by omega) hsz fun w h8 ho hg _ hp => ?_
          have hone : one w := by rcases ho.shape with ⟨rfl, _, _⟩ | ⟨_, _, _, rfl, _⟩ <;> rfl
          have hset := hi7.set1 on (w := w) (ys := xs on ++ [.int .i64 nn]) (by simpa using ho) (fun u hu => by
            rcases List.mem_append.1 hu with hu | hu
            · exact hi.ints on u hu
            · simp at hu; exact ⟨nn, hu⟩) hg hp
          have hmb8 : h8[RB + 1]? = some (.cells #[ms false, ms true] 23 (0, 0)) := by
            rw [hg.block _ (hp_lt hi7.mb) (fun e => by
              obtain ⟨c', hc'⟩ := own_b (hi7.own on) e.symm
              exact ty_ne hi7.mb hc' (by decide) rfl)]
            exact hi7.mb
          refine ⟨by have := kn_lt on; omega, by have := kn_lt on; omega, oneK_of hone (storeM hmb8 ?_)⟩
          obtain ⟨u1, u2⟩ := up_pair ms on w
          rw [u1, u2]
          have hrs : up xs on (xs on ++ [.int .i64 nn]) = up xs on (xs on ++ [.int .i64 nn]) := rfl
          refine ⟨_, _, _, hset, fun j => ?_, fun j hj => ?_⟩
          · by_cases e : j = on
            · subst e; rw [up_same]; simp; omega
            · have e : j = !on := bool_other e
              subst e; rw [up_other]; exact hlen1 _
          · by_cases e : j = on
            · subst e
              rw [up_same]
              have := hlim j hj
              simp
              omega
            · have e : j = !on := bool_other e
              subst e; rw [up_other]; exact hlim _ hj
      · refine ⟨fun h' => ∃ (gs : Bool → Option Nat) (ms : Bool → Value) (xs : Bool → List Value), DInv h1 h' RB (RB + 1) (RB + 1 + 1) bs gs sl ms xs xs ∧ (∀ j, (xs j).length ≤ k + 1) ∧ ∀ j, 0 < sl j → (xs j).length ≤ sl j, ?_, fun _ _ hj => hj⟩
        refine cond_c (fun _ => ?_) (fun _ => ?_)
        · -- Take
          refine CallX.use (Take_int (hi.ring on)) fun v h7 ⟨e1, e2⟩ => ?_
          cases hxs : xs on with
          | nil =>
            obtain ⟨rfl, rfl⟩ := e1 hxs
            simp only [asT_tup, asO20, asO21, asK_int, asB_bool]
            have hown := hi.own on
            rw [hxs] at hown
            refine ⟨false, ?_, fun _ => cond_f rfl ⟨fun h' => h' = h7, cond_f rfl rfl, ?_⟩⟩
            · refine rd2 (hi.rdM on) (ms_shape hown fun _ _ _ => cond_f (by simp) (cond_t rfl ?_))
              simp
            · rintro _ h8 rfl
              exact ⟨gs, ms, xs, hi, hlen1, hlim⟩
          | cons x r =>
            obtain ⟨rfl, r7, k7⟩ := e2 x r hxs
            simp only [asT_tup, asO20, asO21, asB_bool]
            have hi7 := hi.ring1 on (g' := gs on) r7 k7 (fun G hG => .inl hG)
            have hgs : up gs on (gs on) = gs := by funext j; cases j <;> cases on <;> rfl
            rw [hgs] at hi7
            have hown := hi7.own on
            rw [hxs] at hown
            obtain ⟨m0, rfl⟩ := hi.ints on x (by rw [hxs]; simp)
            refine ⟨false, ?_, fun _ => cond_f rfl ⟨fun h' => ∃ (gs : Bool → Option Nat) (ms : Bool → Value) (xs : Bool → List Value), DInv h1 h' RB (RB + 1) (RB + 1 + 1) bs gs sl ms xs xs ∧ (∀ j, (xs j).length ≤ k + 1) ∧ ∀ j, 0 < sl j → (xs j).length ≤ sl j, cond_t rfl ?_, fun _ _ hj => hj⟩⟩
            · refine rd2 (hi7.rdM on) (ms_shape hown fun _ _ _ => cond_f (by simp) (cond_f rfl ?_))
              simp
            · refine rd2 (hi7.rdM on) ?_
              obtain ⟨am, cm, hmeq, hcm⟩ : ∃ am cm, ms on = .slice am (r.length + 1) cm ∧ r.length + 1 ≤ cm := by
                rcases hown.shape with ⟨_, h0, _⟩ | ⟨g, o, cap, e, _, _, hc, _⟩
                · simp at h0
                · exact ⟨_, cap, by rw [e]; rfl, by simpa using hc⟩
              refine SlAt.rd1 (i := 0) (u := .int .i64 m0) hown.slAt rfl ?_
              rw [asK_int, asK_int]
              refine cond_f (by simp) (rd2 (hi7.rdM on) ?_)
              have hown2 := hown
              rw [hmeq] at hown2 ⊢
              rw [asSl_sl]
              have := kn_lt on
              refine ⟨by omega, by omega, by omega, by omega, by omega, storeM hi7.mb ?_⟩
              obtain ⟨u1, u2⟩ := up_pair ms on (.slice (if cm = Int.toNat 1 then am else Option.map (fun z => Addr.add z (Int.toNat 1 * 1)) am) (Int.toNat ((r.length + 1 : Nat) : Int) - Int.toNat 1) (cm - Int.toNat 1))
              rw [u1, u2]
              have hset := hi7.set1 on (ys := r) (OwnH.tail hown2) (fun u hu => hi.ints on u (by rw [hxs]; exact List.mem_cons_of_mem _ hu)) ⟨Nat.le_refl _, fun _ _ _ => rfl⟩ (by
                intro k hk
                left
                rw [hmeq]
                split at hk
                · cases am <;> exact hk
                · cases am with
                  | none => simp [Value.ownBlock] at hk
                  | some am =>
                    obtain ⟨ab, ao, asp⟩ := am
                    simp only [Option.map_some, Value.ownBlock, Option.some.injEq] at hk ⊢
                    rw [← hk]
                    unfold Addr.add
                    split <;> rfl)
              refine ⟨_, _, _, hset, fun j => ?_, fun j hj => ?_⟩
              · by_cases e : j = on
                · subst e; rw [up_same]; have := hlen1 j; rw [hxs] at this; simp at this; omega
                · have e : j = !on := bool_other e
                  subst e; rw [up_other]; exact hlen1 _
              · by_cases e : j = on
                · subst e
                  rw [up_same]
                  have := hlim j hj
                  rw [hxs] at this
                  simp at this
                  omega
                · have e : j = !on := bool_other e
                  subst e; rw [up_other]; exact hlim _ hj
        · refine ⟨fun h' => ∃ (gs : Bool → Option Nat) (ms : Bool → Value) (xs : Bool → List Value), DInv h1 h' RB (RB + 1) (RB + 1 + 1) bs gs sl ms xs xs ∧ (∀ j, (xs j).length ≤ k + 1) ∧ ∀ j, 0 < sl j → (xs j).length ≤ sl j, ?_, fun _ _ hj => hj⟩
          have hlo := hlen on
          refine cond_c (fun _ => ?_) (fun _ => ?_)
          · -- All
            refine CallX.use (all_of hi on (by omega)) fun v h7 ⟨ho7, hi7, k7⟩ => rd2 (hi7.rdM on) ?_
            refine CallX.use (Same_int ho7.slAt (hi7.own on).slAt (hi.ints on) (by omega)) fun b1 h8 ⟨e1, e2⟩ => ?_
            subst e1 e2
            rw [asB_bool]
            refine cond_f rfl ?_
            refine ⟨fun i h' => ∃ (j : Nat) (ys : List Value), j ≤ (xs on).length ∧ i = .int .i64 j ∧ OwnH h' h6.size 3 1 v (xs on).length ys ∧ (∀ u ∈ ys, ∃ n, u = .int .i64 n) ∧ Keep (fun k => h6.size ≤ k) h6 h',
              fun i _ => match i with | .int _ j => (xs on).length - j.toNat | _ => 0, ⟨0, xs on, Nat.zero_le _, rfl, ho7, hi.ints on, k7.mono (by simp)⟩, ?_⟩
            rintro i d9 h9 ⟨j, ys, hj, rfl, ho9, hints9, k9⟩
            have hyl : ys.length = (xs on).length := by simpa using ho9.1
            refine ho9.slAt.sl fun _ _ => ?_
            simp only [asK_int, asI_int]
            refine cond_c (fun hlt => ?_) (fun _ => ?_)
            · have hlt : j < (xs on).length := by simpa using hlt
              have hjy : j < ys.length := by omega
              refine SlAt.rd1 ho9.slAt (i := j) (List.getElem?_eq_getElem hjy) ?_
              obtain ⟨m, hm⟩ := hints9 _ (List.getElem_mem hjy)
              rw [hm, asK_int]
              have hw : IntKind.wrap .i64 ((j : Int) + 1) = ((j + 1 : Nat) : Int) := by rw [i64_in (by omega) (by omega)]; omega
              refine OwnH.store ho9 hlt fun h10 ho10 k10 => ?_
              rw [hw]
              refine ⟨⟨j + 1, _, by omega, rfl, ho10, fun u hu => ?_, k9.trans k10⟩, by simp; omega⟩
              rcases List.mem_or_eq_of_mem_set hu with hu | hu
              · exact hints9 u hu
              · exact ⟨_, hu⟩
            · have hi9 := hi.more k9
              refine rd2 (hi9.rdM on) ?_
              refine CallX.use (all_of hi9 on (by omega)) fun v' h10 ⟨ho10, hi10, k10⟩ => ⟨at_kn (hi10.rdM on), ?_⟩
              refine CallX.use (Same_int ho10.slAt (hi10.own on).slAt (hi.ints on) (by omega)) fun b1 h11 ⟨e1, e2⟩ => ?_
              subst e1 e2
              rw [asB_bool]
              exact cond_f rfl ⟨_, _, _, hi10, hlen1, hlim⟩
          · -- Clear
            refine rd2 (hi.rdM on) ?_
            refine CallX.use (Clear_int (hi.ring on) (by omega)) fun v h7 ⟨ho7, r7, k7⟩ => ?_
            have hi7 := hi.ring1 on (g' := gs on) r7 k7 (fun G hG => .inl hG)
            have hgs : up gs on (gs on) = gs := by funext j; cases j <;> cases on <;> rfl
            rw [hgs] at hi7
            refine ⟨at_kn (hi7.rdM on), ?_⟩
            refine CallX.use (Same_int ho7.slAt (hi7.own on).slAt (hi.ints on) (by omega)) fun b1 h8 ⟨e1, e2⟩ => ?_
            subst e1 e2
            rw [asB_bool]
            have := kn_lt on
            refine cond_f rfl ⟨by omega, by omega, storeM hi7.mb ?_⟩
            obtain ⟨u1, u2⟩ := up_pair ms on (.slice none 0 0)
            rw [u1, u2]
            have hset := hi7.set1 on (w := .slice none 0 0) (ys := []) OwnH.nil (by simp) ⟨Nat.le_refl _, fun _ _ _ => rfl⟩ (by simp [Value.ownBlock])
            refine ⟨_, _, _, hset, fun j => ?_, fun j hj => ?_⟩
            · by_cases e : j = on
              · subst e; rw [up_same]; simp
              · have e : j = !on := bool_other e
                subst e; rw [up_other]; exact hlen1 _
            · by_cases e : j = on
              · subst e; rw [up_same]; simp
              · have e : j = !on := bool_other e
                subst e; rw [up_other]; exact hlim _ hj
    · rintro _ h5 ⟨gs', ms', xs', hi5, hl5, hlim5⟩
      rw [hw]
      exact ⟨⟨k + 1, gs', ms', xs', by omega, rfl, hi5, hl5, hlim5⟩, by simp; omega⟩
  · refine ⟨fun v h' => v = .bool true ∧ Keep (fun _ => False) h h', rd20 (hi.rdR false) (rd20 (hi.rdM false) ?_), fun _ _ _ hj => hj⟩
    have hf := hlen false
    have ht := hlen true
    refine CallX.use (all_of hi false (by omega)) fun v h5 ⟨ho5, hi5, k5⟩ => ⟨hi5.rdM false, ?_⟩
    refine CallX.use (Same_int ho5.slAt (hi5.own false).slAt (hi.ints false) (by omega)) fun b1 h6 ⟨e1, e2⟩ => ?_
    subst e1 e2
    rw [asB_bool]
    refine cond_t rfl (rd21 (hi5.rdR true) (rd21 (hi5.rdM true) ?_))
    refine CallX.use (all_of hi5 true (by omega)) fun v h7 ⟨ho7, hi7, k7⟩ => ⟨hi7.rdM true, ?_⟩
    refine CallX.use (Same_int ho7.slAt (hi7.own true).slAt (hi.ints true) (by omega)) fun b1 h8 ⟨e1, e2⟩ => ?_
    subst e1 e2
    exact ⟨rfl, k0.trans hi7.keep⟩
end Go.Proofs.Ytihffbheockjkaa
