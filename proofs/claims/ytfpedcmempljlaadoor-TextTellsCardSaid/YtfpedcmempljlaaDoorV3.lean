/- A place by the document; words; the beginning. -/
import Derived.Test.YtfpedcmempljlaaDoorV4
namespace Go.Proofs.YtfpedcmempljlaaDoor
open Go Go.Sx Go.Proofs.YtfpedcmempljlaaDoor.Sx
section
variable {ω : Amb}
theorem F_law (c a : Int) (h : Hp) (X : List PanicEntry → Hp → Prop) : CallX Tryd.prog ω n_pipewrightref_F [.int .i64 c, .int .i64 a] h (fun r h' => r = .agg (flt c a).toArray ∧ Keep (fun _ => False) h h') X := by
  refine C_pipewrightref_F ω _ _ h _ X ?_
  unfold W_pipewrightref_F
  rw [oneK_int, oneK_int]
  have k0 : Keep (fun _ => False) h (h.push (.cells (flt 0 0).toArray 26 (0, 0))) := Keep.push _ _
  have hp0 : (h.push (.cells (flt 0 0).toArray 26 (0, 0)))[h.size]? = some (.cells (flt 0 0).toArray 26 (0, 0)) := hp_push_new
  have e0 : (h.push (.cells #[(.int .i64 0), (.int .i64 0)] 26 (0, 0))) = (h.push (.cells (flt 0 0).toArray 26 (0, 0))) := rfl
  rw [e0]
  refine ⟨rfl, flt_one c a, finP (cs := flt c a) hp0 rfl (fun h2 _ k2 => ?_) rfl⟩
  exact ⟨rfl, k0.newer (k2.mono fun _ _ e => .inr (Nat.le_of_eq e.symm))⟩

theorem RPlace_law (s : ByteArray) (a : Int) (h : Hp) (X : List PanicEntry → Hp → Prop) :
    CallX Tryd.prog ω n_pipewrightref_Place [.string s, .int .i64 a] h (fun r h' => Keep (fun _ => False) h h' ∧ ∃ line col code fat, r = .tuple #[.int .i64 line, .int .i64 col, .agg (flt code fat).toArray] ∧ PlaceOf s a line col code fat) X := by
  refine C_pipewrightref_Place ω _ _ h _ X ?_
  unfold W_pipewrightref_Place
  have k0 : Keep (fun _ => False) h (h.push (.cells (flt 0 0).toArray 26 (0, 0))) := Keep.push _ _
  have hp0 : (h.push (.cells (flt 0 0).toArray 26 (0, 0)))[h.size]? = some (.cells (flt 0 0).toArray 26 (0, 0)) := hp_push_new
  have e0 : (h.push (.cells #[(.int .i64 0), (.int .i64 0)] 26 (0, 0))) = (h.push (.cells (flt 0 0).toArray 26 (0, 0))) := rfl
  rw [e0]
  generalize h.push (.cells (flt 0 0).toArray 26 (0, 0)) = h0 at *
  have fk : ∀ {h1 h2 : Hp}, Keep (fun _ => False) h h1 → Keep (fun k => k = h.size) h1 h2 → Keep (fun _ => False) h h2 := fun a b => a.newer (b.mono fun _ _ e => .inr (Nat.le_of_eq e.symm))
  rw [asS_str]
  refine cond_c (fun hc => ?_) (fun hc => ?_)
  · have hc' : 12000 < s.size := by have := of_decide_eq_true hc; omega
    refine CallX.use (F_law 1 (-1) h0) ?_
    rintro _ h1 ⟨rfl, k1⟩
    rw [asA_agg]
    refine ⟨rfl, flt_one 1 (-1), finP (cs := flt 1 (-1)) (k1.get hp0 (by simp)) rfl (fun h2 _ k2 => ?_) rfl⟩
    exact ⟨fk (k0.trans k1) k2, 0, 0, 1, -1, rfl, fun _ => ⟨rfl, rfl, rfl, rfl⟩, fun h => by omega, fun h => by omega⟩
  have hs : s.size ≤ 12000 := by have := of_decide_eq_false hc; omega
  refine ⟨decide (a < 0 ∨ (s.size : Int) < a), ?_, fun _ => ?_⟩
  · rw [asK_int]
    refine cond_c (fun hc => ⟨?_, rfl⟩) (fun hc => ?_)
    · rw [decide_eq_true (.inl (of_decide_eq_true hc))]
    · rw [asS_str, asK_int]
      refine ⟨?_, rfl⟩
      have := of_decide_eq_false hc
      congr 1
      rw [Bool.eq_iff_iff]
      simp
      omega
  refine cond_c (fun hc => ?_) (fun hc => ?_)
  · have hc' := of_decide_eq_true hc
    refine CallX.use (F_law 14 (-1) h0) ?_
    rintro _ h1 ⟨rfl, k1⟩
    rw [asA_agg]
    refine ⟨rfl, flt_one 14 (-1), finP (cs := flt 14 (-1)) (k1.get hp0 (by simp)) rfl (fun h2 _ k2 => ?_) rfl⟩
    exact ⟨fk (k0.trans k1) k2, 0, 0, 14, -1, rfl, fun h => by omega, fun _ _ => ⟨rfl, rfl, rfl, rfl⟩, fun _ k hk hl => by omega⟩
  have hc' := of_decide_eq_false hc
  obtain ⟨m, rfl⟩ : ∃ k : Nat, a = k := ⟨a.toNat, by omega⟩
  have hms : m ≤ s.size := by omega
  refine ⟨fun col line i h' => h' = h0 ∧ ∃ k : Nat, k ≤ m ∧ col = .int .i64 ((k : Int) + 1 - lastS (bytesOf s) k) ∧ line = .int .i64 ((starts (bytesOf s) k).length : Nat) ∧ i = .int .i64 k, fun _ _ i _ => match i with | .int _ k => m - k.toNat | _ => 0,
    ⟨rfl, 0, Nat.zero_le _, rfl, rfl, rfl⟩, ?_⟩
  rintro _ _ _ _ h1 ⟨hh, k, hk, rfl, rfl, rfl⟩
  rw [hh]
  rw [asK_int, asK_int]
  have hll := lastS_le (bytesOf s) k
  have hsl := starts_len (bytesOf s) k
  refine cond_c (fun hlt => ?_) (fun hge => ?_)
  · have hlt : k < m := by have := of_decide_eq_true hlt; omega
    refine ⟨fun col line h' => h' = h0 ∧ col = .int .i64 (((k + 1 : Nat) : Int) + 1 - lastS (bytesOf s) (k + 1)) ∧ line = .int .i64 ((starts (bytesOf s) (k + 1)).length : Nat), ?_, ?_⟩
    · rw [asK_int, asS_str, asI_int]
      refine ⟨by omega, by omega, fun line col h' => h' = h0 ∧ col = .int .i64 (((k + 1 : Nat) : Int) + 1 - lastS (bytesOf s) (k + 1)) ∧ line = .int .i64 ((starts (bytesOf s) (k + 1)).length : Nat), ?_, fun _ _ _ _ hj => hj⟩
      rw [byteAt_nat]
      simp only [starts, lastS]
      refine cond_c (fun hb => ?_) (fun hb => ?_)
      · have hb' : ((bytesOf s).getD k 0).toNat = 10 := by have := eq_of_beq hb; omega
        rw [asK_int, if_pos hb', if_pos hb', i64_in (by omega) (by omega)]
        exact ⟨trivial, by congr 1; omega, by congr 1; simp⟩
      · have hb' : ¬ ((bytesOf s).getD k 0).toNat = 10 := by have := beq_eq_false_iff_ne.1 hb; omega
        rw [if_neg hb', if_neg hb', i64_in (by omega) (by omega)]
        exact ⟨trivial, by congr 1; omega, rfl⟩
    · rintro _ _ _ h2 ⟨hh, rfl, rfl⟩
      rw [hh, asK_int, i64_in (by omega) (by omega)]
      exact ⟨⟨rfl, k + 1, by omega, rfl, rfl, by simp⟩, by simp; omega⟩
  · have hkm : k = m := by have := of_decide_eq_false hge; omega
    subst hkm
    refine ⟨rfl, flt_one 0 0, finP (cs := flt 0 0) hp0 rfl (fun h4 _ k4 => ?_) rfl⟩
    refine ⟨fk k0 k4, _, _, 0, 0, rfl, fun h => by omega, fun _ h => absurd h hc', fun _ k' hk' _ => ?_⟩
    have : k' = k := by omega
    subst this
    exact ⟨rfl, rfl, rfl, rfl⟩

theorem PlaceOf.same {s : ByteArray} {a l c e f l' c' e' f' : Int} (p : PlaceOf s a l c e f) (q : PlaceOf s a l' c' e' f') : l = l' ∧ c = c' ∧ e = e' ∧ f = f' := by
  by_cases h1 : 12000 < s.size
  · obtain ⟨a1, a2, a3, a4⟩ := p.big h1
    obtain ⟨b1, b2, b3, b4⟩ := q.big h1
    omega
  · by_cases h2 : a < 0 ∨ (s.size : Int) < a
    · obtain ⟨a1, a2, a3, a4⟩ := p.out (by omega) h2
      obtain ⟨b1, b2, b3, b4⟩ := q.out (by omega) h2
      omega
    · obtain ⟨a1, a2, a3, a4⟩ := p.good (by omega) a.toNat (by omega) (by omega)
      obtain ⟨b1, b2, b3, b4⟩ := q.good (by omega) a.toNat (by omega) (by omega)
      omega

end
end Go.Proofs.YtfpedcmempljlaaDoor
