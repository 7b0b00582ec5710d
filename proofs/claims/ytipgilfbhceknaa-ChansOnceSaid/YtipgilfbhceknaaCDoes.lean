/- ChansDoes: by the code. -/
import Derived.Test.YtipgilfbhceknaaDn2
namespace Go.Proofs.Ytipgilfbhceknaa
open Go Go.Sx Go.Proofs.Ytipgilfbhceknaa.Sx
section
variable {ω : Amb}
theorem rdTa {α : Type} {f : α → List Value} {sz : Nat} {h : Hp} {v : Value} {es : List α} (hs : SlAt h sz v es.length (es.flatMap f)) (hf : ∀ e, (f e).length = sz) {i o : Nat} {e : α} (hi : es[i]? = some e) {u : Value} (hu : (f e)[o]? = some u) {K : Addr → Value → Prop}
    (hk : ∀ a, cellH h (Addr.add (Addr.add a (Int.toNat (i : Int) * sz)) o) = some u → K a u) :
    asSl1 v fun a l _ => 0 ≤ (i : Int) ∧ (i : Int) < (l : Int) ∧ ∃ w, cellH h (Addr.add (Addr.add a (Int.toNat (i : Int) * sz)) o) = some w ∧ K a w := by
  have hl := (List.getElem?_eq_some_iff.1 hi).1
  have ho : o < sz := by rw [← hf e]; exact (List.getElem?_eq_some_iff.1 hu).1
  rcases hs.2 with ⟨h0, _⟩ | ⟨b, p, cap, rfl, hc⟩
  · omega
  · have : cellH h (Addr.add (Addr.add ⟨b, p, none⟩ (Int.toNat (i : Int) * sz)) o) = some u := by
      rw [addr_add, addr_add, Int.toNat_natCast, Nat.add_assoc]
      exact hc _ u (by rw [flat_get hf hi ho]; exact hu)
    exact ⟨by omega, by omega, u, this, hk _ this⟩

theorem CBegun_law (h : Hp) (X : List PanicEntry → Hp → Prop) : CallX Try.prog ω n_pipewrightlaw_chansBegun [] h (fun r h' => r = .bool true ∧ Keep (fun _ => False) h h') X := by
  refine C_pipewrightlaw_chansBegun ω h _ X ?_
  unfold W_pipewrightlaw_chansBegun
  have g0 : Good 0 [] [] := Good.nil 0
  have g1 := g0.make 1 0
  have g2 := g1.put 0 ⟨5, -1⟩
  have g3 := g2.take 1 0
  refine CallX.use (SNew_law h) ?_
  rintro _ h1 ⟨s, F0, rfl, ⟨p, v, lv, chs, hS, rfl⟩, k1, hF⟩
  refine CallX.use (SMake_law hS (g0.bd (by omega)).chan (by simp) (by simp) 1 0) fun r h2 ⟨hr, F2, hS2, u2⟩ => ?_
  subst hr
  obtain ⟨p2, v2, lv2, chs2, hS2, rfl⟩ := hS2
  simp only [asT_tup, ld4, asO_some]
  have fin : ∀ {h3 : Hp} {F3 : Nat → Prop}, Upd (Fp s p v lv chs) F3 h1 h3 → Keep (fun _ => False) h h3 := fun u => k1.newer (u.keep.mono fun k _ hk => .inr (hF k hk))
  refine ⟨fun r h' => r = .bool false ∧ ∃ F3, StoR h' s (putM (makeM [] [] 1 0).1 (makeM [] [] 1 0).2.1 0 ⟨5, -1⟩).1 (putM (makeM [] [] 1 0).1 (makeM [] [] 1 0).2.1 0 ⟨5, -1⟩).2.1 F3 ∧ Upd (Fp s p v lv chs) F3 h1 h', ?_, ?_⟩
  · rw [asK_int]
    refine cond_f rfl ?_
    rw [asK_int]
    refine cond_f rfl ?_
    refine CallX.use (SPut_law hS2 (g1.bd (by omega)) 0 ⟨5, -1⟩) fun r h3 ⟨hr, F3, hS3, u3⟩ => ?_
    subst hr
    rw [asB_bool]
    refine cond_f rfl ?_
    obtain ⟨p3, v3, lv3, chs3, hS3, rfl⟩ := hS3
    refine CallX.use (Waits_law hS3 (g2.bd (by omega)).chan 0) fun r h4 ⟨hr, k4⟩ => ?_
    subst hr
    rw [asB_bool]
    exact ⟨rfl, _, ⟨_, _, _, _, hS3.more k4, rfl⟩, (u2.trans u3).trans (Upd.of k4)⟩
  rintro _ _ h3 ⟨rfl, F3, ⟨p3, v3, lv3, chs3, hS3, rfl⟩, u3⟩
  rw [asB_bool]
  refine cond_f rfl ?_
  refine CallX.use (STake_law hS3 (g2.bd (by omega)) 1 0) fun r h4 ⟨hr, F4, hS4, u4⟩ => ?_
  subst hr
  obtain ⟨p4, v4, lv4, chs4, hS4, rfl⟩ := hS4
  simp only [asT_tup, ld4, asO_some, asA_agg]
  refine ⟨rfl, It.one _, storeK_local rfl ?_⟩
  have k5 := Keep.push (S := fun _ => False) h4 (.cells (takeM (putM (makeM [] [] 1 0).1 (makeM [] [] 1 0).2.1 0 ⟨5, -1⟩).1 (putM (makeM [] [] 1 0).1 (makeM [] [] 1 0).2.1 0 ⟨5, -1⟩).2.1 1 0).2.2.1.f.toArray 74 (0, 0))
  have hS5 := hS4.more k5
  refine ⟨fun r h' => r = .bool true ∧ Keep (fun _ => False) h h', ?_, fun _ _ _ hj => hj⟩
  refine lx hp_push_new rfl ?_
  rw [asK_int]
  refine cond_t rfl ?_
  rw [asK_int]
  refine cond_t rfl ?_
  refine CallX.use (Waits_law hS5 (g3.bd (by omega)).chan 1) fun r h6 ⟨hr, k6⟩ => ?_
  subst hr
  rw [asB_bool]
  refine cond_t rfl ?_
  have hS6 := hS5.more k6
  refine CallX.use (SDrop_law _ hS6 (g3.bd (by omega)) (Nat.le_refl _) 0) fun r h7 ⟨hr, F7, hS7, u7⟩ => ?_
  subst hr
  rw [asB_bool]
  refine cond_t rfl ?_
  obtain ⟨p7, v7, lv7, chs7, hS7, rfl⟩ := hS7
  refine CallX.use (Waits_law hS7 ((g3.ev (drop_ev _ _ _ _)).bd (by omega)).chan 1) fun r h8 ⟨hr, k8⟩ => ?_
  subst hr
  rw [asB_bool]
  exact ⟨rfl, fin ((((u3.trans u4).trans (Upd.of (k5.trans k6))).trans u7).trans (Upd.of k8))⟩

theorem BNew_law (h : Hp) : Bk (h.push (.cells #[.slice none 0 0, .slice none 0 0, .slice none 0 0, .slice none 0 0] 32 (0, 0))) h.size (.slice none 0 0) (.slice none 0 0) (.slice none 0 0) (.slice none 0 0) [] [] [] :=
  ⟨hp_push_new, OwnH.nil, OwnH.nil, OwnH.nil, OwnH.nil, by simp, by simp⟩

def JC (h0 : Hp) (s b n : Nat) (h' : Hp) : Prop := ∃ xs ys F G, Two h' s b xs ys xs ys F G ∧ Good n xs ys ∧ Keep (fun _ => False) h0 h' ∧ ∀ k, F k ∨ G k → h0.size ≤ k

theorem CDoes_law (lv : Value) (l : List S5) (h : Hp) (hl : SlAt h 5 lv l.length (l.flatMap S5.f)) (X : List PanicEntry → Hp → Prop) :
    CallX Try.prog ω n_pipewrightlaw_ChansDoes [lv] h (fun v h' => v = .bool true ∧ Keep (fun _ => False) h h') X := by
  refine C_pipewrightlaw_ChansDoes ω _ h _ X ?_
  unfold W_pipewrightlaw_ChansDoes
  refine CallX.use (CBegun_law h) fun v h1 ⟨hv, k0⟩ => ?_
  subst hv
  rw [asB_bool]
  refine cond_f rfl ?_
  refine hl.sl fun _ _ => ?_
  refine cond_c (fun _ => ⟨rfl, k0⟩) (fun hlen => ?_)
  have hlen' : l.length ≤ 200 := by simp at hlen; omega
  refine CallX.use (SNew_law h1) ?_
  rintro _ h2 ⟨s, F0, rfl, hS, k2, hF⟩
  have kb := Keep.push (S := fun _ => False) h2 (.cells #[.slice none 0 0, .slice none 0 0, .slice none 0 0, .slice none 0 0] 32 (0, 0))
  refine ⟨fun i h' => ∃ j : Nat, i = .int .i64 j ∧ j ≤ l.length ∧ JC h s h2.size j h', fun i _ => match i with | .int _ j => l.length - j.toNat | _ => 0, ⟨0, rfl, Nat.zero_le _, [], [], F0, _, ⟨hS.keep kb (by simp), ⟨_, _, _, _, _, BNew_law h2, rfl⟩, fun k hf hg => ?_⟩, Good.nil 0, (k0.trans k2).trans kb, fun k hk => ?_⟩, ?_⟩
  · rcases hg with rfl | e | e | e | e | ⟨u, hu, e⟩
    · have := hS.lt hf; omega
    · cases e
    · cases e
    · cases e
    · cases e
    · simp at hu
  · have s1 := k0.size
    have s2 := k2.size
    rcases hk with hf | rfl | e | e | e | e | ⟨u, hu, e⟩
    · have := hF k hf; omega
    · omega
    · cases e
    · cases e
    · cases e
    · cases e
    · simp at hu
  clear hF hS
  rintro _ _ h3 ⟨j, rfl, hj, xs, ys, F, G, T, g, k3, hge⟩
  have hl3 := hl.keep k3
  refine hl3.sl fun _ _ => ?_
  rw [asK_int]
  refine cond_c (fun hlt => ?_) (fun _ => ⟨rfl, k3⟩)
  have hlt : j < l.length := by simpa using hlt
  have hx := List.getElem?_eq_getElem hlt
  generalize l[j] = x at hx
  have hB := g.bd (by omega)
  refine ⟨fun v h' => v = .bool false ∧ JC h s h2.size (j + 1) h', ?_, ?_⟩
  · refine hl3.rdT S5.len hx rfl ?_
    refine rdTa hl3 S5.len hx rfl fun a ha => ?_
    obtain ⟨p, v, lv', chs, hS, rfl⟩ := T.sto
    refine CallX.use (Waits_law hS hB.chan x.e) fun r h4 ⟨hr, k4⟩ => ?_
    subst hr
    refine ⟨k4.cell ha (by simp), ?_⟩
    have T4 := T.more k4
    obtain ⟨w, sv, jv, gv, its, hbk, rfl⟩ := T4.bk
    refine CallX.use (BWaits_law hbk hB g.room x.e) fun r h5 ⟨hr, k5⟩ => ?_
    subst hr
    rw [asB_bool, asB_bool]
    refine cond_f (by simp) ?_
    have T5 := T4.more k5
    have hl5 := hl3.keep (k4.trans k5)
    refine hl5.rdS S5.len hx ?_
    refine CallX.use (done_law T5 g g (by omega) x) ?_
    rintro _ h6 ⟨β, rfl, hβ, F6, G6, T6, u6⟩
    rw [hβ rfl rfl, asB_bool]
    refine cond_f rfl ?_
    have g6 := g.step x
    have hB6 := g6.bd (by omega)
    have u36 := (Upd.of (F := fun k => Fp s p v lv' chs k ∨ Fb h2.size w sv jv gv its k) (k4.trans k5)).trans u6
    have k6 : Keep (fun _ => False) h h6 := k3.newer (u36.keep.mono fun k _ hk => .inr (hge k hk))
    have hge6 : ∀ k, F6 k ∨ G6 k → h.size ≤ k := fun k hk => (u36.more k hk).elim (fun e => hge k e) (fun e => Nat.le_trans k3.size e)
    clear hβ hbk T4 T5 T hS hge
    obtain ⟨p, v, lv', chs, hS, rfl⟩ := T6.sto
    refine CallX.use (SChans_law hS hB6) fun r h7 ⟨⟨ea, hea, hla⟩, k7⟩ => ?_
    have T7 := T6.more k7
    obtain ⟨w, sv, jv, gv, its, hbk, rfl⟩ := T7.bk
    refine CallX.use (BChans_law hbk hB6) fun r' h8 ⟨⟨eb, heb, hlb⟩, k8⟩ => ?_
    refine CallX.use (SameChans_law (hea.more k8) heb hla hlb hB6) ?_
    rintro _ _ ⟨rfl, hh⟩
    rw [hh, asB_bool]
    refine cond_f rfl ?_
    have T8 := T7.more k8
    have hS8 := (hS.more k7).more k8
    have hb8 := hbk.more k8
    rw [nnK_ptr]
    refine lx hS8.blk rfl ?_
    refine lx hb8.blk rfl ?_
    have hxl := hB6.xl
    refine CallX.use (All_law hS8.led (by omega)) fun r9 h9 ⟨ho9, k9⟩ => ?_
    have hb9 := hb8.more k9
    refine ⟨lx' hb9.blk rfl, ?_⟩
    refine CallX.use (SameEnds_law ho9.slAt hb9.own.slAt (by omega)) ?_
    rintro _ _ ⟨rfl, hh⟩
    rw [hh, asB_bool]
    exact ⟨rfl, _, _, _, _, T8.more k9, g6, ((k6.trans k7).trans k8).trans k9, hge6⟩
  · rintro _ _ h4 ⟨rfl, hJ⟩
    rw [asB_bool]
    refine cond_f rfl ?_
    rw [asK_int, i64_in (by omega) (by omega)]
    exact ⟨⟨j + 1, by simp, by omega, hJ⟩, by simp; omega⟩
end
end Go.Proofs.Ytipgilfbhceknaa
