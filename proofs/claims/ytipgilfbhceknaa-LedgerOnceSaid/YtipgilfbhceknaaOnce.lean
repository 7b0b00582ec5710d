/- LedgerOnce: the law's contract. -/
import Derived.Test.YtipgilfbhceknaaLedger5
namespace Go.Proofs.Ytipgilfbhceknaa
open Go Go.Sx Go.Proofs.Ytipgilfbhceknaa.Sx
variable {ω : Amb}

theorem ofE_ge : ∀ (xs : List E4) (k : Nat) (z n : Int), n ∈ ofE xs k z → (k : Int) ≤ n
  | [], _, _, _, h => by simp [ofE] at h
  | x :: xs, k, z, n, h => by
    unfold ofE at h
    split at h
    · rcases List.mem_cons.1 h with rfl | h
      · exact Int.le_refl _
      · have := ofE_ge xs (k + 1) z n h; omega
    · have := ofE_ge xs (k + 1) z n h; omega
theorem mem_ofE (z : Int) : ∀ {xs : List E4} {k i : Nat} {x : E4}, xs[i]? = some x → ((((k + i : Nat) : Int) ∈ ofE xs k z) ↔ x.h = z)
  | [], _, _, _, h => by simp at h
  | y :: xs, k, 0, x, h => by
    simp at h
    subst h
    unfold ofE
    split
    · rename_i hz
      simp [hz]
    · rename_i hz
      refine ⟨fun hm => ?_, fun e => absurd e hz⟩
      have := ofE_ge _ _ _ _ hm
      omega
  | y :: xs, k, i + 1, x, h => by
    simp at h
    have ih := mem_ofE z (k := k + 1) h
    rw [show k + 1 + i = k + (i + 1) by omega] at ih
    unfold ofE
    split
    · rw [List.mem_cons, ih]
      exact ⟨fun hh => hh.elim (fun e => by omega) id, .inr⟩
    · exact ih
theorem found_eq {xs : List E4} {j : Nat} {x : E4} (hx : xs[j]? = some x) (z : Int) : decide ((j : Int) ∈ ofE xs 0 z) = (x.h == z) := by
  have := mem_ofE z (k := 0) hx
  rw [Nat.zero_add] at this
  by_cases h : x.h = z
  · rw [decide_eq_true (this.2 h)]; simp [h]
  · rw [decide_eq_false (fun hm => h (this.1 hm))]; simp [h]

/-- an end as the ledger keeps it -/
structure Good (n : Nat) (x : E4) : Prop where
  d0 : 0 ≤ x.d
  dn : x.d ≤ n
  dr : 0 < x.d ↔ x.h = -2
  hm : -2 ≤ x.h
theorem Good.more {n m : Nat} {x : E4} (hg : Good n x) (h : n ≤ m) : Good m x := ⟨hg.d0, by have := hg.dn; omega, hg.dr, hg.hm⟩

theorem lxn {h : Hp} {b j : Nat} {cs : List Value} {t : TypeId} {f : Nat × Nat} (hb : h[b]? = some (.cells cs.toArray t f)) {u : Value} (hu : cs[j]? = some u) {K : Value → Prop} (hk : K u) :
    ∃ v, cellH h ⟨b, j, none⟩ = some v ∧ K v := ⟨u, by rw [cellH_block hb]; simpa using hu, hk⟩
def JL (h0 : Hp) (g n : Nat) (h' : Hp) : Prop := ∃ v xs, Led h0.size h' g v xs ∧ Keep (fun _ => False) h0 h' ∧ xs.length ≤ n ∧ ∀ x ∈ xs, Good n x

theorem mem_set {α : Type} {l : List α} {i : Nat} {a x : α} (h : x ∈ l.set i a) : x ∈ l ∨ x = a := List.mem_or_eq_of_mem_set h

set_option maxHeartbeats 2000000 in
theorem LOnce_law (lv : Value) (task : Int) (l : List S5) (h : Hp) (hl : SlAt h 5 lv l.length (l.flatMap S5.f)) (X : List PanicEntry → Hp → Prop) :
    CallX Try.prog ω n_pipewrightlaw_LedgerOnce [lv, .int .i64 task] h (fun v h' => v = .bool true ∧ Keep (fun _ => False) h h') X := by
  refine C_pipewrightlaw_LedgerOnce ω _ _ h _ X ?_
  unfold W_pipewrightlaw_LedgerOnce
  refine CallX.use (Begun_law h) fun v h1 ⟨hv, k0⟩ => ?_
  subst hv
  rw [asB_bool]
  refine cond_f rfl (hl.sl fun _ _ => cond_c (fun _ => ⟨rfl, k0⟩) fun h200 => ?_)
  have hn : l.length ≤ 100 := by simp at h200; omega
  refine CallX.use (New_law h1) ?_
  rintro _ h7 ⟨rfl, hh7⟩
  have hgb : h.size ≤ h1.size := k0.size
  have i0 : JL h h1.size 0 h7 := by
    rw [hh7]
    exact ⟨_, [], ⟨hp_push_new, OwnH.nil⟩, k0.trans (Keep.push _ _), by simp, by simp⟩
  clear hh7
  generalize h1.size = g at *
  refine ⟨fun i h' => ∃ k, k ≤ l.length ∧ i = .int .i64 k ∧ JL h g k h', fun i _ => match i with | .int _ j => l.length - j.toNat | _ => 0, ⟨0, by omega, rfl, i0⟩, ?_⟩
  clear i0
  rintro i _ h12 ⟨k, hk, rfl, v, xs, hi, k12, hxl, hgood⟩
  have hl' := hl.keep k12
  refine hl'.sl fun _ _ => ?_
  rw [asK_int]
  have step : ∀ {h' : Hp} {v' : Value} {xs' : List E4}, Led h.size h' g v' xs' → Keep (fun k => k = g ∨ v.ownBlock = some k) h12 h' → xs'.length ≤ k + 1 → (∀ x ∈ xs', Good (k + 1) x) → JL h g (k + 1) h' :=
    fun hl hk hlen hgd => ⟨_, _, hl, k12.newer (hk.mono fun q _ hq => .inr (hq.elim (fun e => e ▸ hgb) (fun e => (hi.own.lt q e).1))), hlen, hgd⟩
  refine cond_c (fun hlt => ?_) (fun _ => ?_)
  · have hlt : k < l.length := by simpa using hlt
    have hx := List.getElem?_eq_getElem hlt
    generalize l[k] = x at hx
    refine ⟨JL h g (k + 1), hl'.rdT S5.len hx (o := 0) (u := .int .i64 x.d) rfl ?_, ?_⟩
    · rw [asI_int]
      refine ⟨by decide, JL h g (k + 1), ⟨fun t h' => (∃ c, t = .bool c) ∧ h12 = h', cond_c (fun _ => ⟨⟨_, rfl⟩, rfl⟩) (fun _ => ⟨fun t h' => (∃ c, t = .bool c) ∧ h12 = h', cond_c (fun _ => ⟨⟨_, rfl⟩, rfl⟩) (fun _ => ⟨⟨_, rfl⟩, rfl⟩), fun _ _ _ hh => hh⟩), ?_⟩, fun _ _ hj => hj⟩
      rintro _ _ _ ⟨⟨c0, rfl⟩, rfl⟩
      refine ⟨JL h g (k + 1), ?_, fun _ _ hj => hj⟩
      rw [asB_bool]
      refine cond_c (fun _ => ?_) (fun _ => ?_)
      · refine hl'.rdT S5.len hx (o := 3) (u := .int .i64 x.n) rfl (hl'.rdT S5.len hx (o := 4) (u := .bool x.send) rfl (hl'.rdT S5.len hx (o := 2) (u := .int .i64 x.home) rfl ?_))
        refine CallX.use (Born_law hi (by omega) k12.size x.n x.send x.home) ?_
        rintro _ h84 (⟨hh, rfl, rfl⟩ | ⟨hh, rfl, v', l2, k2, f2⟩)
        · exact step hi (Keep.refl _ _) (by omega) (fun y hy => (hgood y hy).more (by omega))
        · refine step l2 k2 (by simp; omega) (fun y hy => ?_)
          rcases List.mem_append.1 hy with hy | hy
          · exact (hgood y hy).more (by omega)
          · simp at hy
            subst hy
            exact ⟨by simp [bornE], by simp [bornE]; omega, by simp [bornE]; omega, by simp [bornE]; omega⟩
      refine ⟨fun t h' => (∃ c, t = .bool c) ∧ h12 = h', cond_c (fun _ => ⟨⟨_, rfl⟩, rfl⟩) (fun _ => ⟨fun t h' => (∃ c, t = .bool c) ∧ h12 = h', cond_c (fun _ => ⟨⟨_, rfl⟩, rfl⟩) (fun _ => ⟨⟨_, rfl⟩, rfl⟩), fun _ _ _ hh => hh⟩), ?_⟩
      rintro _ _ _ ⟨⟨c1, rfl⟩, rfl⟩
      refine ⟨JL h g (k + 1), ?_, fun _ _ hj => hj⟩
      rw [asB_bool]
      refine cond_c (fun _ => ?_) (fun _ => ?_)
      · refine hl'.rdT S5.len hx (o := 1) (u := .int .i64 x.e) rfl (hl'.rdT S5.len hx (o := 2) (u := .int .i64 x.home) rfl ?_)
        refine CallX.use (Move_law hi x.e x.home) ?_
        rintro _ h84 ⟨rfl, l2, k2⟩
        refine step l2 (k2.mono fun _ _ hh => .inr hh) ?_ (fun y hy => ?_)
        · unfold moveE; split <;> simp <;> omega
        · unfold moveE at hy
          split at hy
          · rename_i hc
            rcases mem_set hy with hy | rfl
            · exact (hgood y hy).more (by omega)
            · rcases atE_cases xs x.e with ⟨he, ha⟩ | ⟨i, z, he, hil, hz, ha⟩
              · rw [ha] at hc; simp at hc
              · rw [ha] at hc ⊢
                have hz := hgood z (List.mem_of_getElem? hz)
                have h2 : ¬ 0 < z.d := fun h => hc.2.2 (hz.dr.1 h)
                have hh : -1 ≤ x.home := hc.2.1
                have hd := hz.dn
                exact ⟨hz.d0, show z.d ≤ _ by omega, show 0 < z.d ↔ x.home = -2 by omega, show -2 ≤ x.home by omega⟩
          · exact (hgood y hy).more (by omega)
      · refine hl'.rdT S5.len hx (o := 1) (u := .int .i64 x.e) rfl ?_
        refine CallX.use (Gone_law hi x.e) ?_
        rintro _ h84 ⟨rfl, l2, k2⟩
        refine step l2 (k2.mono fun _ _ hh => .inr hh) ?_ (fun y hy => ?_)
        · unfold goneE; split <;> simp <;> omega
        · unfold goneE at hy
          split at hy
          · rename_i hc
            rcases mem_set hy with hy | rfl
            · exact (hgood y hy).more (by omega)
            · rcases atE_cases xs x.e with ⟨he, ha⟩ | ⟨i, z, he, hil, hz, ha⟩
              · rw [ha] at hc; simp at hc
              · rw [ha]
                have hz := hgood z (List.mem_of_getElem? hz)
                have h0 := hz.d0
                have h1 := hz.dn
                have hw : IntKind.wrap .i64 (z.d + 1) = z.d + 1 := i64_in (by omega) (by omega)
                exact ⟨show 0 ≤ IntKind.wrap .i64 (z.d + 1) by omega, show IntKind.wrap .i64 (z.d + 1) ≤ ((k + 1 : Nat) : Int) by omega, show 0 < IntKind.wrap .i64 (z.d + 1) ↔ (-2 : Int) = -2 by omega, show (-2 : Int) ≤ -2 by omega⟩
          · exact (hgood y hy).more (by omega)
    · rintro _ h19 hj
      rw [asK_int, i64_in (by omega) (by omega)]
      exact ⟨⟨k + 1, by omega, rfl, hj⟩, by simp; omega⟩
  clear step
  refine CallX.use (All_law hi (by omega)) fun r h91 ⟨ho, k91⟩ => ?_
  have hb12 : ∀ q, v.ownBlock = some q → q < h12.size := fun q hq => (hi.own.lt q hq).2
  refine ⟨fun e h' => ∃ j : Nat, j ≤ xs.length ∧ e = .int .i64 j ∧ Led h.size h' g v xs ∧ Keep (fun _ => False) h h' ∧ OwnH h' h12.size 36 4 r xs.length (fl xs), fun e _ => match e with | .int _ j => xs.length - j.toNat | _ => 0,
    ⟨0, by omega, rfl, hi.more k91, k12.trans k91, ho⟩, ?_⟩
  have hb0 : h.size ≤ h12.size := k12.size
  clear hi k12 hl' k91 ho
  rintro _ _ h96 ⟨j, hj, rfl, hi, k96, ho⟩
  refine ho.slAt.sl fun _ _ => ?_
  rw [asK_int]
  refine cond_c (fun hlt => ?_) (fun _ => ⟨rfl, k96⟩)
  have hlt : j < xs.length := by simpa using hlt
  have hx := List.getElem?_eq_getElem hlt
  generalize xs[j] = x at hx
  have hgx := hgood x (List.mem_of_getElem? hx)
  have hat := atE_in hx
  refine CallX.use (End_law hi.cell hi.own.slAt j) ?_
  rintro _ h102 ⟨rfl, k102⟩
  rw [hat]
  simp only [asT_tup, ld4, asO_some, asA_agg]
  refine ⟨rfl, x.one, storeK_local rfl ?_⟩
  have kk := k102.trans (Keep.push h102 (.cells x.f.toArray 36 (0, 0)))
  have hF : (h102.push (.cells x.f.toArray 36 (0, 0)))[h102.size]? = some (.cells x.f.toArray 36 (0, 0)) := hp_push_new
  have hi := hi.more kk
  have ho := ho.keep (fun q _ hq => kk.block q hq (by simp))
  have k96 := k96.trans kk
  clear kk k102
  generalize h102.push (.cells x.f.toArray 36 (0, 0)) = h108 at *
  generalize h102.size = bf at *
  refine ⟨false, ?_, fun _ => cond_f rfl (lx hF rfl ?_)⟩
  · rw [asB_bool]
    refine cond_f rfl ⟨_, cellsH_blk hF rfl, SlAt.rdS ho.slAt E4.len hx ?_⟩
    simp only [E4.f, ld]
    refine cond_f (by simp) (lxn hF rfl ?_)
    rw [asK_int]
    refine lxn hF rfl ?_
    rw [asK_int]
    have hdr := hgx.dr
    have hde : decide (x.d > 0) = (x.h == -2) := by
      by_cases h2 : x.h = -2
      · rw [decide_eq_true (hdr.2 h2)]; simp [h2]
      · rw [decide_eq_false (fun hh => h2 (hdr.1 hh))]; simp [h2]
    refine cond_f (by rw [hde]; simp) (lxn hF rfl ?_)
    rw [asK_int]
    have := hgx.hm
    exact ⟨by simp; omega, trivial⟩
  rw [oneK_int, oneK_int]
  have k2 := Keep.push (S := fun _ => False) h108 (.cells (List.toArray [.int .i64 (-2), .int .i64 (-1), .int .i64 task, .int .i64 x.h]) 3 (0, 0))
  have hH : (h108.push (.cells (List.toArray [.int .i64 (-2), .int .i64 (-1), .int .i64 task, .int .i64 x.h]) 3 (0, 0)))[h108.size]? = some (.cells (List.toArray [.int .i64 (-2), .int .i64 (-1), .int .i64 task, .int .i64 x.h]) 3 (0, 0)) := hp_push_new
  have hF := hp_push_old (o := .cells (List.toArray [.int .i64 (-2), .int .i64 (-1), .int .i64 task, .int .i64 x.h]) 3 (0, 0)) hF
  have hi := hi.more k2
  have ho := ho.keep (fun q _ hq => k2.block q hq (by simp))
  have k96 := k96.trans k2
  clear k2
  generalize h108.push (.cells (List.toArray [.int .i64 (-2), .int .i64 (-1), .int .i64 task, .int .i64 x.h]) 3 (0, 0)) = hb at *
  generalize h108.size = bh at *
  refine ⟨fun i h' => ∃ m : Nat, m ≤ 4 ∧ i = .int .i64 m ∧ Keep (fun _ => False) hb h', fun i _ => match i with | .int _ j => 4 - j.toNat | _ => 0, ⟨0, by omega, rfl, Keep.refl _ _⟩, ?_⟩
  rintro _ _ h145 ⟨m, hm, rfl, k145⟩
  rw [asK_int]
  refine cond_c (fun hm4 => ?_) (fun _ => ?_)
  · have hm4 : m < 4 := by simp at hm4; omega
    obtain ⟨z, hz⟩ : ∃ z : Int, ([.int .i64 (-2), .int .i64 (-1), .int .i64 task, .int .i64 x.h] : List Value)[m]? = some (.int .i64 z) := by
      match m, hm4 with
      | 0, _ => exact ⟨_, rfl⟩
      | 1, _ => exact ⟨_, rfl⟩
      | 2, _ => exact ⟨_, rfl⟩
      | 3, _ => exact ⟨_, rfl⟩
    have rdH : ∀ {h' : Hp} {K : Value → Prop}, Keep (fun _ => False) hb h' → K (.int .i64 z) → asI (.int .i64 m) fun n => 0 ≤ (n : Int) ∧ n < (4 : Int) ∧ ∃ v, cellH h' (Addr.add ⟨bh, 0, none⟩ (Int.toNat n * 1)) = some v ∧ K v := by
      intro h' K hk hK
      rw [asI_int]
      refine ⟨by omega, by omega, .int .i64 z, ?_, hK⟩
      rw [addr_add, Nat.zero_add, Int.toNat_natCast, Nat.mul_one, cellH_block (hk.get hH (by simp))]
      simpa using hz
    refine rdH k145 (CallX.use (Of_law (hi.more k145).cell (hi.more k145).own.slAt (by omega) z) ?_)
    rintro r2 h150 ⟨ho2, k150⟩
    have kb := k145.trans k150
    have hlen := ofE_len xs 0 z
    have hfound := found_eq hx z
    refine ⟨fun f i h' => h150 = h' ∧ ∃ t : Nat, t ≤ (ofE xs 0 z).length ∧ i = .int .i64 t ∧ f = .bool (decide ((j : Int) ∈ (ofE xs 0 z).take t)), fun _ i _ => match i with | .int _ j => (ofE xs 0 z).length - j.toNat | _ => 0, ⟨rfl, 0, by omega, rfl, by simp⟩, ?_⟩
    rintro _ _ _ _ ⟨rfl, t, ht, rfl, rfl⟩
    refine ho2.slAt.sl fun _ _ => ?_
    rw [asK_int]
    refine cond_c (fun htl => ?_) (fun hte => ?_)
    · have htl : t < (ofE xs 0 z).length := by simpa using htl
      have hw := List.getElem?_eq_getElem htl
      generalize (ofE xs 0 z)[t] = w at hw
      have htk : (ofE xs 0 z).take (t + 1) = (ofE xs 0 z).take t ++ [w] := by rw [List.take_add_one, hw]; rfl
      refine ⟨fun f h' => h150 = h' ∧ f = .bool (decide ((j : Int) ∈ (ofE xs 0 z).take (t + 1))), ?_, ?_⟩
      · rw [asB_bool]
        refine cond_c (fun hf => ⟨rfl, ?_⟩) (fun hf => ?_)
        · simp only [decide_eq_true_eq] at hf
          rw [decide_eq_true (by rw [htk]; exact List.mem_append_left _ hf)]
        · simp only [decide_eq_false_iff_not] at hf
          refine SlAt.rd1 ho2.slAt (i := t) (u := .int .i64 w) (by simp [iv, hw]) ?_
          rw [asK_int, asK_int]
          refine ⟨rfl, ?_⟩
          congr 1
          rw [htk]
          by_cases hwj : w = j
          · subst hwj; simp
          · rw [decide_eq_false (by simp only [List.mem_append, List.mem_singleton, not_or]; exact ⟨hf, fun e => hwj e.symm⟩)]
            simp [hwj]
      · rintro _ _ _ ⟨rfl, rfl⟩
        rw [asK_int, i64_in (by omega) (by omega)]
        exact ⟨⟨rfl, t + 1, by omega, rfl, rfl⟩, by simp; omega⟩
    · have hte : t = (ofE xs 0 z).length := by simp at hte; omega
      subst hte
      rw [List.take_length, hfound]
      refine lx (kb.get hF (by simp)) rfl (rdH kb ?_)
      rw [asK_int, asK_int, asB_bool]
      refine cond_f (by simp) ⟨fun t h' => t = .bool false ∧ Keep (fun _ => False) hb h', rdH kb ?_, ?_⟩
      · rw [asK_int]
        refine cond_c (fun hz0 => rdH kb ?_) (fun _ => ⟨rfl, kb⟩)
        have hz0 : 0 ≤ z := by simpa using hz0
        refine CallX.use (Use_law (hi.more kb).cell (hi.more kb).own.slAt j z 3) ?_
        rintro _ h190 ⟨rfl, k190⟩
        rw [asK_int, asB_bool]
        refine ⟨?_, kb.trans k190⟩
        unfold useE
        rw [hat]
        by_cases h2 : x.h = -2
        · simp [h2]; omega
        · by_cases h3 : x.h = z
          · subst h3; simp [h2]
          · simp [h2, h3]
      · rintro _ _ h183 ⟨rfl, k183⟩
        rw [asB_bool]
        refine cond_f rfl ?_
        rw [asK_int, i64_in (by omega) (by omega)]
        exact ⟨⟨m + 1, by omega, rfl, k183⟩, by simp; omega⟩
  · have hF := k145.get hF (by simp)
    have hi := hi.more k145
    have ho := ho.keep (fun q _ hq => k145.block q hq (by simp))
    have k96 := k96.trans k145
    refine ⟨fun t h' => t = .bool false ∧ Led h.size h' g v xs ∧ Keep (fun _ => False) h h' ∧ OwnH h' h12.size 36 4 r xs.length (fl xs), lx hF rfl ?_, ?_⟩
    · rw [asK_int]
      refine cond_c (fun h2 => ?_) (fun h2 => ⟨rfl, hi, k96, ho⟩)
      have h2 : x.h = -2 := by simpa using h2
      refine CallX.use (Use_law hi.cell hi.own.slAt j task 2) ?_
      rintro _ h202 ⟨rfl, k202⟩
      rw [asK_int]
      refine cond_f (by simp [useE, hat, h2]) ?_
      have hi := hi.more k202
      refine CallX.use (Move_law hi j 0) ?_
      rintro _ h205 ⟨rfl, l2, k2⟩
      have hmv : moveE xs j 0 = (xs, false) := by rw [moveE, hat, if_neg (by simp [h2])]
      rw [hmv] at l2 ⊢
      refine ⟨rfl, l2, (k96.trans k202).newer (k2.mono fun q _ hq => .inr (hi.own.lt q hq).1), ?_⟩
      refine (ho.keep (fun q _ hq => k202.block q hq (by simp))).keep fun q hq hlt => k2.block q hlt fun e => ?_
      have := (ho.lt q hq).1
      have := hb12 q e
      omega
    · rintro _ _ h198 ⟨rfl, hi, k198, ho⟩
      rw [asB_bool]
      refine cond_f rfl ?_
      rw [asK_int, i64_in (by omega) (by omega)]
      exact ⟨⟨j + 1, by omega, rfl, hi, k198, ho⟩, by simp; omega⟩
end Go.Proofs.Ytipgilfbhceknaa
