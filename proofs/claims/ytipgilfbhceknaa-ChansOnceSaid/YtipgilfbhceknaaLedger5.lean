/- LedgerDoes: the law's contract. -/
import Derived.Test.YtipgilfbhceknaaLedger4
namespace Go.Proofs.Ytipgilfbhceknaa
open Go Go.Sx Go.Proofs.Ytipgilfbhceknaa.Sx
variable {ω : Amb}

theorem cellsH_blk {h : Hp} {b n : Nat} {cs : List Value} {t : TypeId} {f : Nat × Nat} (hb : h[b]? = some (.cells cs.toArray t f)) (hl : cs.length = n) : cellsH h ⟨b, 0, none⟩ n cs :=
  ⟨hl, fun j v hv => by rw [addr_add, Nat.zero_add, cellH_block hb]; simpa using hv⟩
/-- a field of a struct that lies in a block of its own -/
theorem lx {h : Hp} {b j : Nat} {cs : List Value} {t : TypeId} {f : Nat × Nat} (hb : h[b]? = some (.cells cs.toArray t f)) {u : Value} (hu : cs[j]? = some u) {K : Value → Prop} (hk : K u) :
    ∃ v, cellH h (Addr.add ⟨b, 0, none⟩ j) = some v ∧ K v :=
  ⟨u, by rw [addr_add, Nat.zero_add, cellH_block hb]; simpa using hu, hk⟩
theorem lx' {h : Hp} {b j : Nat} {cs : List Value} {t : TypeId} {f : Nat × Nat} (hb : h[b]? = some (.cells cs.toArray t f)) {u : Value} (hu : cs[j]? = some u) :
    cellH h (Addr.add ⟨b, 0, none⟩ j) = some u := by rw [addr_add, Nat.zero_add, cellH_block hb]; simpa using hu

theorem moveE_t {xs : List E4} {e home : Int} (hm : (moveE xs e home).2 = true) : ∃ (i : Nat) (x : E4), e = i ∧ xs[i]? = some x ∧ (moveE xs e home).1 = xs.set i { x with h := home } := by
  unfold moveE at *
  rcases atE_cases xs e with ⟨he, ha⟩ | ⟨i, x, rfl, hi, hx, ha⟩
  · rw [ha, if_neg (by simp)] at hm
    cases hm
  · rw [ha] at hm ⊢
    split at hm
    · rename_i hc
      rw [if_pos hc]
      exact ⟨i, x, rfl, hx, by simp⟩
    · cases hm
theorem moveE_f {xs : List E4} {e home : Int} (hm : (moveE xs e home).2 = false) : (moveE xs e home).1 = xs := by
  unfold moveE at *
  split at hm
  · cases hm
  · rename_i hc
    rw [if_neg hc]
theorem goneE_t {xs : List E4} {e : Int} (hm : (atE xs e).2 = true) : ∃ (i : Nat) (x : E4), e = i ∧ xs[i]? = some x ∧ (atE xs e).1 = x ∧ (goneE xs e).2 = (x.h != -2) ∧ (goneE xs e).1 = xs.set i { x with h := -2, d := IntKind.wrap .i64 (x.d + 1) } := by
  unfold goneE at *
  rcases atE_cases xs e with ⟨he, ha⟩ | ⟨i, x, rfl, hi, hx, ha⟩
  · rw [ha] at hm
    cases hm
  · rw [ha]
    exact ⟨i, x, rfl, hx, rfl, rfl, by simp⟩
theorem goneE_f {xs : List E4} {e : Int} (hm : (atE xs e).2 = false) : goneE xs e = (xs, false) := by
  unfold goneE
  rw [if_neg (by simp [hm])]

def JD (h0 : Hp) (g b n : Nat) (h' : Hp) : Prop := ∃ v w xs, DI h0 h' g b v w xs xs ∧ xs.length ≤ n

set_option maxHeartbeats 2000000 in
theorem LDoes_law (lv : Value) (l : List S5) (h : Hp) (hl : SlAt h 5 lv l.length (l.flatMap S5.f)) (X : List PanicEntry → Hp → Prop) :
    CallX Try.prog ω n_pipewrightlaw_LedgerDoes [lv] h (fun v h' => v = .bool true ∧ Keep (fun _ => False) h h') X := by
  refine C_pipewrightlaw_LedgerDoes ω _ h _ X ?_
  unfold W_pipewrightlaw_LedgerDoes
  refine CallX.use (Begun_law h) fun v h1 ⟨hv, k0⟩ => ?_
  subst hv
  rw [asB_bool]
  refine cond_f rfl (hl.sl fun _ _ => cond_c (fun _ => ⟨rfl, k0⟩) fun h200 => ?_)
  have hn : l.length ≤ 200 := by simp at h200; omega
  refine CallX.use (New_law h1) ?_
  rintro _ h7 ⟨rfl, hh7⟩
  have i0 : DI h (h7.push (.cells #[.slice none 0 0, .slice none 0 0, .slice none 0 0, .slice none 0 0] 32 (0, 0))) h1.size h7.size (.slice none 0 0) (.slice none 0 0) [] [] := by
    have hg : h7[h1.size]? = some (.cells #[.slice none 0 0] 67 (0, 0)) := by rw [hh7]; exact hp_push_new
    have hs : h7.size = h1.size + 1 := by rw [hh7]; simp
    have k7 : Keep (fun _ => False) h h7 := by rw [hh7]; exact k0.trans (Keep.push _ _)
    exact ⟨⟨hp_push_old hg, OwnH.nil⟩, hp_push_new, OwnH.nil, by simp [Value.ownBlock], k7.trans (Keep.push _ _), k0.size, k7.size⟩
  clear hh7
  generalize h1.size = g at *
  generalize h7.size = b at *
  refine ⟨fun i h' => ∃ k, k ≤ l.length ∧ i = .int .i64 k ∧ JD h g b k h', fun i _ => match i with | .int _ j => l.length - j.toNat | _ => 0, ⟨0, by omega, rfl, _, _, _, i0, by simp⟩, ?_⟩
  clear i0
  rintro i _ h12 ⟨k, hk, rfl, v, w, xs, hi, hxl⟩
  have hl' := hl.keep hi.keep
  refine hl'.sl fun _ _ => ?_
  rw [asK_int]
  refine cond_c (fun hlt => ?_) (fun _ => ?_)
  · have hlt : k < l.length := by simpa using hlt
    have hx := List.getElem?_eq_getElem hlt
    generalize l[k] = x at hx
    refine hl'.rdS S5.len hx ⟨rfl, x.one, storeK_local rfl ?_⟩
    have nX : ¬ (h12.size = g ∨ v.ownBlock = some h12.size) := fun e => e.elim (fun e => by have := hp_lt hi.led.blk; omega) (fun e => by have := (hi.led.own.lt _ e).2; omega)
    have hX : (h12.push (.cells x.f.toArray 34 (0, 0)))[h12.size]? = some (.cells x.f.toArray 34 (0, 0)) := hp_push_new
    have hi2 := hi.more (Keep.push h12 (.cells x.f.toArray 34 (0, 0)))
    generalize h12.push (.cells x.f.toArray 34 (0, 0)) = h22 at *
    generalize h12.size = bx at *
    refine lx hX rfl (CallX.use (At_law hi2.cell hi2.own.slAt x.e) ?_)
    rintro _ h25 ⟨rfl, k25⟩
    simp only [asT_tup, ld4, asO_some, asA_agg]
    have hi25 := hi2.more k25
    have hX25 := k25.get hX (by simp)
    refine ⟨rfl, E4.one _, storeK_local rfl (lx (hp_push_old hX25) rfl ?_)⟩
    have hi31 := hi25.more (Keep.push h25 (.cells (atE xs x.e).1.f.toArray 36 (0, 0)))
    have hX31 : (h25.push (.cells (atE xs x.e).1.f.toArray 36 (0, 0)))[bx]? = _ := hp_push_old hX25
    have hE31 : (h25.push (.cells (atE xs x.e).1.f.toArray 36 (0, 0)))[h25.size]? = some (.cells (atE xs x.e).1.f.toArray 36 (0, 0)) := hp_push_new
    have nE : ¬ (h25.size = g ∨ v.ownBlock = some h25.size) := fun e => e.elim (fun e => by have := hp_lt hi25.led.blk; omega) (fun e => by have := (hi25.led.own.lt _ e).2; omega)
    clear hX hi2 hX25 hi25
    generalize h25.push (.cells (atE xs x.e).1.f.toArray 36 (0, 0)) = h31 at *
    generalize h25.size = be at *
    refine CallX.use (End_law hi31.led.cell hi31.led.own.slAt x.e) ?_
    rintro _ h34 ⟨rfl, k34⟩
    simp only [asT_tup, ld4, asO_some, asA_agg]
    refine ⟨rfl, E4.one _, storeK_local rfl ?_⟩
    have hX := hp_push_old (o := .cells (atE xs x.e).1.f.toArray 36 (0, 0)) (k34.get hX31 (by simp))
    have hE := hp_push_old (o := .cells (atE xs x.e).1.f.toArray 36 (0, 0)) (k34.get hE31 (by simp))
    have hi := (hi31.more k34).more (Keep.push h34 (.cells (atE xs x.e).1.f.toArray 36 (0, 0)))
    have hF : (h34.push (.cells (atE xs x.e).1.f.toArray 36 (0, 0)))[h34.size]? = some (.cells (atE xs x.e).1.f.toArray 36 (0, 0)) := hp_push_new
    clear hX31 hE31 hi31
    generalize h34.push (.cells (atE xs x.e).1.f.toArray 36 (0, 0)) = h40 at *
    refine ⟨false, ?_, fun _ => cond_f rfl ?_⟩
    · rw [asB_bool, asB_bool]
      refine cond_f (by simp) ⟨_, cellsH_blk hF rfl, _, cellsH_blk hE rfl, ?_⟩
      simp only [E4.f, ld]
      exact ⟨by simp, trivial⟩
    refine lx hX rfl ?_
    rw [asI_int]
    refine ⟨by decide, JD h g b (k + 1), ⟨fun t h' => (∃ c, t = .bool c) ∧ h40 = h', cond_c (fun _ => ⟨⟨_, rfl⟩, rfl⟩) (fun _ => ⟨fun t h' => (∃ c, t = .bool c) ∧ h40 = h', cond_c (fun _ => ⟨⟨_, rfl⟩, rfl⟩) (fun _ => ⟨⟨_, rfl⟩, rfl⟩), fun _ _ _ hh => hh⟩), ?_⟩, ?_⟩
    · rintro _ _ _ ⟨⟨c0, rfl⟩, rfl⟩
      refine ⟨JD h g b (k + 1), ?_, fun _ _ hj => hj⟩
      rw [asB_bool]
      refine cond_c (fun _ => ?_) (fun _ => ?_)
      · -- Born
        refine lx hX rfl (lx hX rfl (lx hX rfl (CallX.use (Born_law hi.led (by omega) hi.keep.size x.n x.send x.home) ?_)))
        rintro _ h84 (⟨hh, rfl, rfl⟩ | ⟨hh, rfl, v', l2, k2, f2⟩)
        · refine lx hX rfl ?_
          rw [asK_int]
          refine cond_t (by simpa using hh) ?_
          rw [asK_int]
          exact cond_f rfl ⟨v, w, xs, hi, by omega⟩
        · have hX2 := k2.get hX nX
          refine lx hX2 rfl ?_
          rw [asK_int]
          have hi84 := hi.setLed l2 k2 f2
          refine cond_f (by simpa using hh) ⟨w, by rw [addr_add]; exact hi84.cell, hi84.own.slAt.sl fun _ _ => ?_⟩
          rw [asK_int]
          refine cond_f (by simp) ⟨w, by rw [addr_add]; exact hi84.cell, lx hX2 rfl (lx hX2 rfl (lx hX2 rfl ?_))⟩
          rw [oneK_int, oneK_bool, oneK_int]
          exact ⟨trivial, by rw [addr_add]; exact cellH_old hi84.cell, hi84.bApp (by omega) (bornE x.n x.send x.home) fun h' w' hi' => ⟨_, _, _, hi', by simp; omega⟩⟩
      refine ⟨fun t h' => (∃ c, t = .bool c) ∧ h40 = h', cond_c (fun _ => ⟨⟨_, rfl⟩, rfl⟩) (fun _ => ⟨⟨_, rfl⟩, rfl⟩), ?_⟩
      rintro _ _ _ ⟨⟨c1, rfl⟩, rfl⟩
      refine ⟨JD h g b (k + 1), ?_, fun _ _ hj => hj⟩
      rw [asB_bool]
      refine cond_c (fun _ => ?_) (fun _ => ?_)
      · -- Move
        refine ⟨fun t h' => t = .bool (moveE xs x.e x.home).2 ∧ h40 = h', ?_, ?_⟩
        · rw [asB_bool]
          refine cond_c (fun hok => lx hX rfl ?_) (fun hok => ⟨by simp [moveE, hok], rfl⟩)
          rw [asK_int]
          refine cond_c (fun hge => lx hE rfl ?_) (fun hlt => ⟨?_, rfl⟩)
          · rw [asK_int]
            refine ⟨?_, rfl⟩
            simp at hge
            unfold moveE
            by_cases hd : (atE xs x.e).1.h = -2
            · rw [if_neg (by simp [hd])]; simp [hd]
            · rw [if_pos ⟨hok, hge, hd⟩]; simp [hd]
          · simp at hlt
            rw [moveE, if_neg (by omega)]
        rintro _ _ _ ⟨rfl, rfl⟩
        refine lx hX rfl (lx hX rfl (CallX.use (Move_law hi.led x.e x.home) ?_))
        rintro _ h120 ⟨rfl, l2, k2⟩
        rw [asB_bool, asB_bool]
        refine cond_f (by simp) ⟨JD h g b (k + 1), ?_, fun _ _ hj => hj⟩
        rw [asB_bool]
        have k2' : Keep (fun k => k = g ∨ v.ownBlock = some k) h40 h120 := k2.mono fun _ _ hh => .inr hh
        have hi2 := hi.setLed l2 k2' (fun _ hh => .inl hh)
        have hX2 := k2'.get hX nX
        refine cond_c (fun hm => ?_) (fun hm => ?_)
        · obtain ⟨i, y, he, hy, hm1⟩ := moveE_t hm
          rw [hm1] at hi2
          refine ⟨w, by rw [addr_add]; exact hi2.cell, lx hX2 rfl (lx hX2 rfl ?_)⟩
          simp only [asI_int, oneK_int, he]
          exact hi2.bSet hy (x' := { y with h := x.home }) (by decide) rfl fun h' hi' => ⟨_, _, _, hi', by simp; omega⟩
        · rw [moveE_f hm] at hi2
          exact ⟨_, _, _, hi2, by omega⟩
      refine ⟨JD h g b (k + 1), ?_, fun _ _ hj => hj⟩
      refine cond_c (fun _ => ?_) (fun _ => ?_)
      · -- Gone
        refine ⟨fun t h' => t = .bool false ∧ DI h h' g b v w (goneE xs x.e).1 xs ∧ h'[bx]? = some (.cells x.f.toArray 34 (0, 0)), ?_, ?_⟩
        · refine lx hX rfl (CallX.use (Gone_law hi.led x.e) ?_)
          rintro _ h144 ⟨rfl, l2, k2⟩
          have k2' : Keep (fun k => k = g ∨ v.ownBlock = some k) h40 h144 := k2.mono fun _ _ hh => .inr hh
          have hi2 := hi.setLed l2 k2' (fun _ hh => .inl hh)
          have hX2 := k2'.get hX nX
          have hE2 := k2'.get hE nE
          rw [asB_bool]
          refine cond_c (fun hok => lx hE2 rfl ?_) (fun hok => ?_)
          · rw [asK_int, asB_bool]
            obtain ⟨i, y, he, hy, hat, hg2, _⟩ := goneE_t hok
            refine ⟨?_, hi2, hX2⟩
            rw [hg2, hat]
            simp
          · rw [asB_bool]
            refine ⟨?_, hi2, hX2⟩
            rw [goneE_f hok]
            rfl
        rintro _ _ h141 ⟨rfl, hi2, hX2⟩
        rw [asB_bool]
        refine cond_f rfl ⟨JD h g b (k + 1), ?_, fun _ _ hj => hj⟩
        rw [asB_bool]
        refine cond_c (fun hok => ?_) (fun hok => ?_)
        · obtain ⟨i, y, he, hy, hat, hg2, hg1⟩ := goneE_t hok
          rw [hg1] at hi2
          refine ⟨w, by rw [addr_add]; exact hi2.cell, lx hX2 rfl ?_⟩
          simp only [asI_int, he]
          have hyl := (List.getElem?_eq_some_iff.1 hy).1
          refine OwnH.storeF hi2.own E4.len hy (e' := { y with h := -2 }) (by decide) rfl fun h3 ho3 k3 => ?_
          have hi3 := hi2.setBk (k3.get hi2.bk hi2.bw) ho3 (k3.mono fun _ _ hh => .inr hh) (fun _ hh => .inl hh)
          have hX3 := k3.get hX2 (fun e => ty_ne hX2 (hi2.own.blk e).choose_spec (by decide) rfl)
          refine ⟨w, by rw [addr_add]; exact hi3.cell, lx hX3 rfl ?_⟩
          simp only [he]
          have hy3 : (xs.set i { y with h := -2 })[i]? = some { y with h := -2 } := by simp [hyl]
          refine SlAt.rdT ho3.slAt E4.len hy3 (o := 3) (u := .int .i64 y.d) rfl ?_
          rw [asK_int]
          refine hi3.bSet hy3 (x' := { y with h := -2, d := IntKind.wrap .i64 (y.d + 1) }) (by decide) rfl fun h' hi' => ?_
          rw [List.set_set] at hi'
          exact ⟨_, _, _, hi', by simp; omega⟩
        · rw [goneE_f hok] at hi2
          exact ⟨v, w, xs, hi2, by omega⟩
      refine ⟨JD h g b (k + 1), cond_c (fun _ => ?_) (fun _ => ?_), fun _ _ hj => hj⟩
      · -- Of
        refine lx hX rfl (lx hX rfl (CallX.use (Of_law hi.led.cell hi.led.own.slAt (by omega) x.home) ?_))
        rintro r1 h181 ⟨ho1, k1⟩
        have hi1 := hi.more k1
        refine ⟨lx' (k1.get hX (by simp)) rfl, CallX.use (BOf_law hi1.cell hi1.own.slAt (by omega) x.home) ?_⟩
        rintro r2 h183 ⟨ho2, k2⟩
        have hlen := ofE_len xs 0 x.home
        refine CallX.use (SameInts_law (ho1.slAt.keep k2) ho2.slAt (by omega)) ?_
        rintro _ _ ⟨rfl, rfl⟩
        rw [asB_bool]
        exact cond_f rfl ⟨_, _, _, hi1.more k2, by omega⟩
      · -- Use
        refine lx hX rfl (lx hX rfl (lx hX rfl (lx hX rfl (lx hX rfl (lx hX rfl (CallX.use (Use_law hi.led.cell hi.led.own.slAt x.e x.home x.n) ?_))))))
        rintro _ h194 ⟨rfl, k1⟩
        have hi1 := hi.more k1
        have hX1 := k1.get hX (by simp)
        refine ⟨lx' hX1 rfl, lx' hX1 rfl, lx' hX1 rfl, CallX.use (BUse_law hi1.cell hi1.own.slAt x.e x.home x.n) ?_⟩
        rintro _ h196 ⟨rfl, k2⟩
        rw [asK_int, asK_int]
        exact cond_f (by simp) ⟨_, _, _, hi1.more k2, by omega⟩
    · clear hX hE hF hi nX nE hxl
      rintro _ h67 ⟨v, w, xs, hi, hxl⟩
      refine CallX.use (All_law hi.led (by omega)) fun r h200 ⟨ho, k1⟩ => ?_
      have hi1 := hi.more k1
      refine ⟨w, by rw [addr_add]; exact hi1.cell, CallX.use (SameEnds_law ho.slAt hi1.own.slAt (by omega)) ?_⟩
      rintro _ _ ⟨rfl, rfl⟩
      rw [asB_bool]
      refine cond_f rfl ⟨fun i h' => ∃ (j : Nat) (es : List E4), j ≤ es.length ∧ es.length = xs.length ∧ i = .int .i64 j ∧ OwnH h' h67.size 36 4 r es.length (fl es) ∧ Keep (fun _ => False) h67 h', fun i _ => match i with | .int _ j => xs.length - j.toNat | _ => 0,
        ⟨0, xs, by omega, rfl, rfl, ho, k1⟩, ?_⟩
      rintro _ _ h209 ⟨j, es, hj, hel, rfl, hes, k9⟩
      refine hes.slAt.sl fun _ _ => ?_
      rw [asK_int]
      refine cond_c (fun hlt => ?_) (fun hge => ?_)
      · have hlt : j < es.length := by simpa using hlt
        have hy := List.getElem?_eq_getElem hlt
        generalize es[j] = y at hy
        refine OwnH.storeF hes E4.len hy (e' := { y with d := 99 }) (by decide) rfl fun h3 ho3 k3 => ?_
        rw [asK_int, i64_in (by omega) (by omega)]
        exact ⟨⟨j + 1, _, by simp; omega, by simp [hel], rfl, ho3, k9.newer (k3.mono fun q _ hq => .inr (hes.lt q hq).1)⟩, by simp; omega⟩
      · rw [asK_int, i64_in (by omega) (by omega)]
        exact ⟨⟨k + 1, by omega, rfl, _, _, _, hi.more k9, hxl⟩, by simp; omega⟩
  · refine ⟨w, by rw [addr_add]; exact hi.cell, CallX.use (All_law hi.led (by omega)) fun r h223 ⟨ho, k1⟩ => ?_⟩
    have hi1 := hi.more k1
    refine ⟨by rw [addr_add]; exact hi1.cell, CallX.use (SameEnds_law ho.slAt hi1.own.slAt (by omega)) ?_⟩
    rintro _ _ ⟨rfl, rfl⟩
    exact ⟨rfl, hi1.keep⟩
end Go.Proofs.Ytipgilfbhceknaa
