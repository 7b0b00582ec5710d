/- RingKeeps: what is put is taken, in its order. -/
import Derived.Test.YtihffbheockjkaaRingI
import Derived.Test.YtihffbheockjkaaRingS
namespace Go.Proofs.Ytihffbheockjkaa
open Go Go.Sx Go.Proofs.Ytihffbheockjkaa.Sx
variable {ω : Amb}

theorem Begun (h : Hp) (X : List PanicEntry → Hp → Prop) : CallX Try.prog ω n_pipewrightlaw_ringBegun [] h (fun v h' => v = .bool true ∧ Keep (fun _ => False) h h') X := by
  refine C_pipewrightlaw_ringBegun ω h _ X ?_
  unfold W_pipewrightlaw_ringBegun
  refine CallX.use (New_int 2 h (by omega)) fun v h1 ⟨hv, hs, k1, r1⟩ => ?_
  subst hv
  refine ⟨fun v h' => v = .bool true ∧ Keep (fun _ => False) h h', ?_, fun _ _ _ hj => hj⟩
  refine CallX.use (Put_int r1 (by simp) (.int .i64 5) rfl) fun v h2 ⟨_, e2⟩ => ?_
  obtain ⟨rfl, G2, r2, k2, g2⟩ := e2 (by simp)
  rw [asB_bool]
  refine cond_t rfl ?_
  refine CallX.use (Put_int r2 (by simp) (.int .i64 6) rfl) fun v h3 ⟨_, e3⟩ => ?_
  obtain ⟨rfl, G3, r3, k3, g3⟩ := e3 (by simp)
  rw [asB_bool]
  refine cond_t rfl ?_
  refine CallX.use (Put_int r3 (by simp) (.int .i64 7) rfl) fun v h4 ⟨e4, _⟩ => ?_
  obtain ⟨rfl, rfl⟩ := e4 (by simp)
  rw [asB_bool]
  refine cond_t rfl ?_
  refine CallX.use (Len_int r3) fun v h5 ⟨e5, e6⟩ => ?_
  subst e5 e6
  rw [asK_int]
  refine ⟨rfl, ?_⟩
  refine k1.newer ((k2.mono ?_).trans (k3.mono ?_))
  · intro k hk hh
    rcases hh with rfl | hh
    · exact .inr (Nat.le_refl _)
    · cases hh
  · intro k hk hh
    rcases hh with rfl | hh
    · exact .inr (Nat.le_refl _)
    · rcases g2 with g2 | g2
      · cases g2
      · cases hh; exact .inr (by have := k1.size; omega)

/-- four blocks, or none of them, that are not one -/
def apart (a b : Option Nat) : Prop := ∀ k, a = some k → b ≠ some k

/-- what holds of the ring, of what was put, of what was taken -/
structure KInv (h0 h : Hp) (b : Nat) (g : Option Nat) (slots : Nat) (put got : Value) (PL TL xs : List Value) : Prop where
  oput : OwnH h h0.size 9 1 put PL.length PL
  ogot : OwnH h h0.size 9 1 got TL.length TL
  ring : RingstringR h b g slots xs
  eq : PL = TL ++ xs
  keep : Keep (fun _ => False) h0 h
  bnew : h0.size ≤ b
  gnew : ∀ G, g = some G → h0.size ≤ G
  a1 : apart put.ownBlock got.ownBlock
  a2 : apart put.ownBlock g
  a3 : apart got.ownBlock g
  a4 : put.ownBlock ≠ some b
  a5 : got.ownBlock ≠ some b
  ones : ∀ u ∈ PL, ∃ s : ByteArray, u = .string s

theorem KInv.one {h0 h : Hp} {b : Nat} {g : Option Nat} {slots : Nat} {put got : Value} {PL TL xs : List Value} (hi : KInv h0 h b g slots put got PL TL xs) {u : Value} (hu : u ∈ PL) : one u := by
  obtain ⟨s, rfl⟩ := hi.ones u hu; rfl

theorem appS {h : Hp} {s : Value} {K : Value → Hp → Prop} {base n : Nat} {xs : List Value} {u : Value} (hown : OwnH h base 9 1 s n xs) (h1 : one u) (hn : n ≤ 1000000) (hb : base ≤ h.size)
    (hk : ∀ v' h', OwnH h' base 9 1 v' (n + 1) (xs ++ [u]) → GrownH h h' s.ownBlock → (∀ k, v'.ownBlock = some k → s.ownBlock = some k ∨ h.size ≤ k) → K v' h') :
    appK Try.prog 22 (Array.push h (.cells (List.toArray [u]) 9 (0, 0))) s (.slice (some ⟨Array.size h, 0, none⟩) 1 1) K :=
  appK_one (show appFacts Try.prog 22 = some (9, 1, 16) by kernel_rfl) hown rfl (by simpa using h1) (by omega) (by omega) hb fun v' h' a b _ c => hk v' h' a b c

theorem keepGrown {h h' : Hp} {row : Option Nat} {base : Nat} (hg : GrownH h h' row) (hr : ∀ k, row = some k → base ≤ k) : Keep (fun k => base ≤ k) h h' := Keep.grown hg fun k hk _ => hr k hk
theorem ownKeep {h h' : Hp} {row : Option Nat} {base n : Nat} {v : Value} {xs : List Value} (ho : OwnH h base 9 1 v n xs) (hg : GrownH h h' row) (ha : apart v.ownBlock row) : OwnH h' base 9 1 v n xs :=
  ho.keep fun k hk hlt => hg.block k hlt (fun e => ha k hk e.symm)
theorem ringGrown {h h' : Hp} {row : Option Nat} {b slots : Nat} {g : Option Nat} {xs : List Value} (hr : RingstringR h b g slots xs) (hg : GrownH h h' row) (hb : row ≠ some b) (hG : apart row g) : RingstringR h' b g slots xs :=
  hr.keep (S := fun k => row = some k) (Keep.grown hg fun _ hk _ => hk) hb (fun G hG' hh => hG G hh hG')

/-- after a Put that went through, and the append to what was put -/
theorem KInv.put1 {h0 h h1 h2 : Hp} {b G : Nat} {g : Option Nat} {slots : Nat} {put put' got : Value} {PL TL xs : List Value} {s : ByteArray} (hi : KInv h0 h b g slots put got PL TL xs)
    (hr : RingstringR h1 b (some G) slots (xs ++ [.string s])) (hk : Keep (fun k => k = b ∨ g = some k) h h1) (hG : g = some G ∨ h.size ≤ G)
    (ho : OwnH h2 h0.size 9 1 put' (PL.length + 1) (PL ++ [.string s])) (hg : GrownH h1 h2 put.ownBlock) (hp : ∀ k, put'.ownBlock = some k → put.ownBlock = some k ∨ h1.size ≤ k) :
    KInv h0 h2 b (some G) slots put' got (PL ++ [.string s]) TL (xs ++ [.string s]) := by
  have hGnew : h0.size ≤ G := by
    rcases hG with hG | hG
    · exact hi.gnew G hG
    · have := hi.keep.size; omega
  have pG : put.ownBlock ≠ some G := by
    intro e
    rcases hG with hG | hG
    · exact hi.a2 G e hG
    · have := (hi.oput.lt G e).2; omega
  have gG : got.ownBlock ≠ some G := by
    intro e
    rcases hG with hG | hG
    · exact hi.a3 G e hG
    · have := (hi.ogot.lt G e).2; omega
  have got1 : OwnH h1 h0.size 9 1 got TL.length TL := hi.ogot.keep fun k hk' hlt => hk.block k hlt (by
    rintro (rfl | e)
    · exact hi.a5 hk'
    · exact hi.a3 k hk' e)
  have gotlt := fun k (e : got.ownBlock = some k) => (hi.ogot.lt k e).2
  have h1s := hk.size
  exact {
    oput := by simpa using ho
    ogot := ownKeep got1 hg fun k e1 e2 => hi.a1 k e2 e1
    ring := ringGrown hr hg hi.a4 (fun k e1 e2 => pG (by cases e2; exact e1))
    eq := by rw [hi.eq]; simp
    keep := (hi.keep.newer (hk.mono (by
      rintro k _ (rfl | e)
      · exact .inr hi.bnew
      · exact .inr (hi.gnew k e)))).newer ((keepGrown hg (fun k e => (hi.oput.lt k e).1)).mono fun k _ hh => .inr hh)
    bnew := hi.bnew
    gnew := by rintro G' e; cases e; exact hGnew
    a1 := fun k e1 e2 => by
      rcases hp k e1 with e3 | e3
      · exact hi.a1 k e3 e2
      · have := gotlt k e2; omega
    a2 := fun k e1 e2 => by
      cases e2
      rcases hp _ e1 with e3 | e3
      · exact pG e3
      · have := hr.lt.2 _ rfl; omega
    a3 := fun k e1 e2 => by cases e2; exact gG e1
    a4 := fun e => by
      rcases hp _ e with e3 | e3
      · exact hi.a4 e3
      · have := hr.lt.1; omega
    a5 := hi.a5
    ones := fun u hu => by
      rcases List.mem_append.1 hu with hu | hu
      · exact hi.ones u hu
      · simp at hu; exact ⟨s, hu⟩ }

/-- after a Take that went through, and the append to what was taken -/
theorem KInv.take1 {h0 h h1 h2 : Hp} {b : Nat} {g : Option Nat} {slots : Nat} {put got got' : Value} {PL TL r : List Value} {x : Value} (hi : KInv h0 h b g slots put got PL TL (x :: r))
    (hr : RingstringR h1 b g slots r) (hk : Keep (fun k => k = b ∨ g = some k) h h1)
    (ho : OwnH h2 h0.size 9 1 got' (TL.length + 1) (TL ++ [x])) (hg : GrownH h1 h2 got.ownBlock) (hp : ∀ k, got'.ownBlock = some k → got.ownBlock = some k ∨ h1.size ≤ k) :
    KInv h0 h2 b g slots put got' PL (TL ++ [x]) r := by
  have h1s := hk.size
  have put1 : OwnH h1 h0.size 9 1 put PL.length PL := hi.oput.keep fun k hk' hlt => hk.block k hlt (by
    rintro (rfl | e)
    · exact hi.a4 hk'
    · exact hi.a2 k hk' e)
  exact {
    oput := ownKeep put1 hg hi.a1
    ogot := by simpa using ho
    ring := ringGrown hr hg hi.a5 hi.a3
    eq := by rw [hi.eq]; simp
    keep := (hi.keep.newer (hk.mono (by
      rintro k _ (rfl | e)
      · exact .inr hi.bnew
      · exact .inr (hi.gnew k e)))).newer ((keepGrown hg (fun k e => (hi.ogot.lt k e).1)).mono fun k _ hh => .inr hh)
    bnew := hi.bnew
    gnew := hi.gnew
    a1 := fun k e1 e2 => by
      rcases hp k e2 with e3 | e3
      · exact hi.a1 k e1 e3
      · have := (hi.oput.lt k e1).2; omega
    a2 := hi.a2
    a3 := fun k e1 e2 => by
      rcases hp _ e1 with e3 | e3
      · exact hi.a3 k e3 e2
      · have := hr.lt.2 _ e2; omega
    a4 := hi.a4
    a5 := fun e => by
      rcases hp _ e with e3 | e3
      · exact hi.a5 e3
      · have := hr.lt.1; omega
    ones := hi.ones }


theorem getD_lt {α : Type} {l : List α} {i : Nat} (h : i < l.length) : l[i]? = some l[i] := List.getElem?_eq_getElem h

theorem quarter (n : Int) : ∃ c : Nat, IntKind.wrap .i64 (Int.tmod (IntKind.wrap .u64 n) 4) = (c : Int) ∧ c ≤ 3 := by
  have h0 : 0 ≤ IntKind.wrap .u64 n := by rw [IntKind.wrap_u64]; omega
  generalize IntKind.wrap .u64 n = m at h0
  have h1 : Int.tmod m 4 = m % 4 := Int.tmod_eq_emod_of_nonneg h0
  rw [h1, i64_in (by omega) (by omega)]
  exact ⟨(m % 4).toNat, by omega, by omega⟩

set_option maxHeartbeats 1000000 in
theorem Keeps_law (slots : Int) (hs1 : slots ≤ 9223372036854775807) (lv tv : Value) (ls : List ByteArray) (ts : List Int) (h : Hp)
    (hl : SlAt h 1 lv ls.length (ls.map .string)) (ht : SlAt h 1 tv ts.length (ts.map (.int .i64))) (htl : ts.length ≤ 9223372036854775807) (hll : ls.length ≤ 9223372036854775807) (X : List PanicEntry → Hp → Prop) :
    CallX Try.prog ω n_pipewrightlaw_RingKeeps [.int .i64 slots, lv, tv] h (fun v h' => v = .bool true ∧ Keep (fun _ => False) h h') X := by
  refine C_pipewrightlaw_RingKeeps ω _ _ _ h _ X ?_
  unfold W_pipewrightlaw_RingKeeps
  refine CallX.use (Begun h) fun v h1 ⟨hv, k0⟩ => ?_
  subst hv
  rw [asB_bool]
  refine cond_f rfl (hl.sl fun a c => cond_c (fun _ => ⟨rfl, k0⟩) fun h200 => ?_)
  have hn : ls.length ≤ 200 := by simp at h200; omega
  refine CallX.use (New_string slots h1 hs1) fun v h2 ⟨hv, hs, k1, r1⟩ => ?_
  subst hv
  refine ⟨fun p g i h' => ∃ k PL TL xs G, k ≤ ls.length ∧ i = .int .i64 (k : Nat) ∧ KInv h1 h' h1.size G slots.toNat p g PL TL xs ∧ PL.length ≤ k,
    fun _ _ i _ => match i with | .int _ k => ls.length - k.toNat | _ => 0, ⟨0, [], [], [], none, Nat.zero_le _, rfl, ?_, Nat.le_refl _⟩, ?_⟩
  · exact { oput := OwnH.nil, ogot := OwnH.nil, ring := r1, eq := rfl, keep := k1, bnew := Nat.le_refl _, gnew := by simp, a1 := fun k e => by simp [Value.ownBlock] at e, a2 := fun k e => by simp [Value.ownBlock] at e, a3 := fun k e => by simp [Value.ownBlock] at e, a4 := by simp [Value.ownBlock], a5 := by simp [Value.ownBlock], ones := by simp }
  rintro p gv i d h3 ⟨k, PL, TL, xs, G, hk, rfl, hi, hpl⟩
  have hxs : xs.length ≤ k := by have := hi.eq; have h9 : PL.length = TL.length + xs.length := by rw [this]; simp
                                 omega
  refine hl.sl fun a c => ?_
  rw [asK_int]
  refine cond_c (fun hlt => ?_) (fun hlt => ?_)
  · -- a round
    have hlt : k < ls.length := by simpa using hlt
    simp only [asI_int]
    refine SlAt.rd1 (hl.keep (k0.trans hi.keep)) (i := k) (u := .string ls[k]) (by simp [hlt]) ?_
    refine CallX.use (Put_string hi.ring (by omega) (.string ls[k]) rfl) fun v h4 ⟨e1, e2⟩ => ?_
    refine ⟨fun p' h'' => ∃ PL' xs' G', KInv h1 h'' h1.size G' slots.toNat p' gv PL' TL xs' ∧ PL'.length ≤ k + 1, ?_, ?_⟩
    · by_cases hfull : 0 < slots.toNat ∧ xs.length = slots.toNat
      · obtain ⟨rfl, rfl⟩ := e1 hfull
        rw [asB_bool]
        refine cond_f rfl ⟨false, ?_, fun _ => cond_f rfl ⟨PL, xs, G, hi, by omega⟩⟩
        rw [asK_int]
        refine cond_f (by simp; omega) ?_
        refine CallX.use (Len_string hi.ring) fun v h5 ⟨e5, e6⟩ => ?_
        subst e5 e6
        simp only [asK_int, and_true]
        congr 1
        simp
        omega
      · obtain ⟨rfl, G', r4, k4, g4⟩ := e2 hfull
        rw [asB_bool]
        refine cond_t rfl ?_
        have k4f : Keep (fun _ => False) h1 h4 := hi.keep.newer (k4.mono (by
          rintro j _ (rfl | e)
          · exact .inr (Nat.le_refl _)
          · exact .inr (hi.gnew j e)))
        refine SlAt.rd1 (hl.keep (k0.trans k4f)) (i := k) (u := .string ls[k]) (by simp [hlt]) ?_
        rw [oneK_str]
        have oput4 : OwnH h4 h1.size 9 1 p PL.length PL := hi.oput.keep fun j hj hlt => k4.block j hlt (by
          rintro (rfl | e)
          · exact hi.a4 hj
          · exact hi.a2 j hj e)
        refine appS oput4 rfl (by omega) k4f.size fun w h6 ho hg hp => ⟨_, _, _, hi.put1 r4 k4 g4 ho hg hp, by simp; omega⟩
    · rintro p' d' h5 ⟨PL', xs', G', hi5, hpl5⟩
      refine ht.sl fun a c => ⟨fun n h'' => (∃ c : Nat, n = .int .i64 c ∧ c ≤ 3) ∧ h'' = h5, cond_c (fun h0 => ?_) (fun _ => ⟨⟨0, rfl, by omega⟩, rfl⟩), ?_⟩
      · have h0 : 0 < ts.length := by simpa using h0
        refine ht.sl fun a c => ?_
        rw [asK_int]
        have hm : Int.tmod (k : Int) ((ts.length : Nat) : Int) = ((k % ts.length : Nat) : Int) := by rw [← Int.ofNat_tmod]
        have hmlt : k % ts.length < ts.length := Nat.mod_lt _ h0
        rw [hm]
        refine ⟨by omega, ?_⟩
        refine SlAt.rd1 (ht.keep (k0.trans hi5.keep)) (i := k % ts.length) (u := .int .i64 ts[k % ts.length]) (by simp [hmlt]) ?_
        rw [asI_int]
        obtain ⟨q, hq, hq3⟩ := quarter ts[k % ts.length]
        exact ⟨by omega, ⟨q, by rw [hq], hq3⟩, rfl⟩
      · rintro n d6 h6 ⟨⟨c0, rfl, hc0⟩, rfl⟩
        refine ⟨fun g' n h'' => ∃ c TL' xs'', n = .int .i64 (c : Nat) ∧ c ≤ 3 ∧ KInv h1 h'' h1.size G' slots.toNat p' g' PL' TL' xs'',
          fun _ n _ => match n with | .int _ c => c.toNat | _ => 0, ⟨c0, TL, xs', rfl, hc0, hi5⟩, ?_⟩
        rintro g' n d7 h7 ⟨c, TL', xs'', rfl, hc, hi7⟩
        simp only [asK_int]
        refine cond_c (fun hpos => ?_) (fun _ => ?_)
        · have hpos : 0 < c := by simpa using hpos
          have hw : IntKind.wrap .i64 ((c : Int) - 1) = ((c - 1 : Nat) : Int) := by rw [i64_in (by omega) (by omega)]; omega
          have hTL : TL'.length ≤ 1000000 := by
            have h9 : PL'.length = TL'.length + xs''.length := by rw [hi7.eq]; simp
            omega
          refine ⟨fun g2 h'' => ∃ TL2 xs2, KInv h1 h'' h1.size G' slots.toNat p' g2 PL' TL2 xs2, ?_, ?_⟩
          · refine CallX.use (Take_string hi7.ring) fun v h8 ⟨e1, e2⟩ => ?_
            cases xs'' with
            | nil =>
              obtain ⟨rfl, rfl⟩ := e1 rfl
              simp only [ld]
              refine ⟨fun g2 h'' => g2 = g' ∧ h'' = h8, cond_f rfl ⟨false, ?_, fun _ => cond_f rfl ⟨rfl, rfl⟩⟩, ?_⟩
              · refine CallX.use (Len_string hi7.ring) fun v h9 ⟨e5, e6⟩ => ?_
                subst e5 e6
                rw [asK_int]
                exact cond_f rfl ⟨by simp, rfl⟩
              · rintro g2 _ h9 ⟨rfl, rfl⟩
                exact ⟨_, _, hi7⟩
            | cons x r =>
              obtain ⟨rfl, r8, k8⟩ := e2 x r rfl
              obtain ⟨s, rfl⟩ := hi7.ones x (by rw [hi7.eq]; simp)
              simp only [ld]
              refine ⟨fun g2 h'' => ∃ TL2 xs2, KInv h1 h'' h1.size G' slots.toNat p' g2 PL' TL2 xs2, cond_t rfl ?_, fun _ _ _ hj => hj⟩
              have ogot8 : OwnH h8 h1.size 9 1 g' TL'.length TL' := hi7.ogot.keep fun j hj hlt => k8.block j hlt (by
                rintro (rfl | e)
                · exact hi7.a5 hj
                · exact hi7.a3 j hj e)
              refine appS ogot8 rfl hTL (by have := k8.size; have := hi7.keep.size; omega) fun w h9 ho hg hp => ⟨_, _, hi7.take1 r8 k8 ho hg hp⟩
          · rintro g2 d9 h9 ⟨TL2, xs2, hi9⟩
            rw [hw]
            exact ⟨⟨c - 1, TL2, xs2, rfl, by omega, hi9⟩, by simp; omega⟩
        · have hw : IntKind.wrap .i64 ((k : Int) + 1) = ((k + 1 : Nat) : Int) := by rw [i64_in (by omega) (by omega)]; omega
          rw [hw]
          exact ⟨⟨k + 1, PL', TL', xs'', G', by omega, rfl, hi7, hpl5⟩, by simp; omega⟩
  · -- the end
    refine CallX.use (All_string hi.ring (by omega)) fun v h4 ⟨ho4, k4⟩ => ?_
    have got4 : OwnH h4 h1.size 9 1 gv TL.length TL := hi.ogot.keep fun j _ hlt => k4.block j hlt (by simp)
    have put4 : OwnH h4 h1.size 9 1 p PL.length PL := hi.oput.keep fun j _ hlt => k4.block j hlt (by simp)
    have hlen : PL.length = TL.length + xs.length := by rw [hi.eq]; simp
    have hnews : newsAt h4 v xs.length 1 xs := by
      refine ⟨by simp, ?_⟩
      rcases ho4.shape with ⟨rfl, h0, _⟩ | ⟨g, o, cap, rfl, _, _, _, hc⟩
      · exact .inl ⟨rfl, h0⟩
      · exact .inr ⟨_, _, rfl, fun j u hu => by rw [addr_add]; exact hc j u hu⟩
    refine appK_of (show appFacts Try.prog 22 = some (9, 1, 16) by kernel_rfl) got4 hnews hi.ring.1 (by omega) (by omega) (by have := hi.keep.size; have := k4.size; omega) fun w h5 ho5 hg5 _ _ => ?_
    have put5 : OwnH h5 h1.size 9 1 p PL.length PL := ownKeep put4 hg5 hi.a1
    rw [← hi.eq, ← hlen] at ho5
    have kk : Keep (fun _ => False) h h5 := k0.trans ((hi.keep.trans k4).newer ((keepGrown hg5 (fun j e => (got4.lt j e).1)).mono fun j _ hh => .inr hh))
    refine ho5.slAt.sl fun a c => put5.slAt.sl fun a' c' => cond_f (by simp) ?_
    refine ⟨fun i h'' => ∃ j : Nat, i = .int .i64 j ∧ j ≤ PL.length ∧ h'' = h5, fun i _ => match i with | .int _ j => PL.length - j.toNat | _ => 0, ⟨0, rfl, Nat.zero_le _, rfl⟩, ?_⟩
    rintro i d6 h6 ⟨j, rfl, hj, rfl⟩
    refine put5.slAt.sl fun a' c' => ?_
    simp only [asK_int, asI_int]
    refine cond_c (fun hlt => ?_) (fun _ => ⟨trivial, kk⟩)
    have hlt : j < PL.length := by simpa using hlt
    refine SlAt.rd1 ho5.slAt (i := j) (getD_lt hlt) ?_
    refine SlAt.rd1 put5.slAt (i := j) (getD_lt hlt) ?_
    obtain ⟨s, hsj⟩ := hi.ones PL[j] (List.getElem_mem hlt)
    rw [hsj, asS_str, asS_str]
    refine cond_f (by simp) ?_
    have hw : IntKind.wrap .i64 ((j : Int) + 1) = ((j + 1 : Nat) : Int) := by rw [i64_in (by omega) (by omega)]; omega
    rw [hw]
    exact ⟨⟨j + 1, rfl, by omega, trivial⟩, by simp; omega⟩

end Go.Proofs.Ytihffbheockjkaa
