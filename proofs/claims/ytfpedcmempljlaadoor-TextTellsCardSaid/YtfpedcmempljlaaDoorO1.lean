/- Faults: slices of them; how two of them compare. -/
import Derived.Test.YtfpedcmempljlaaDoorV4
import Derived.Test.YtfpedcmempljlaaDoorOrP
namespace Go.Proofs.YtfpedcmempljlaaDoor
open Go Go.Sx Go.Sx.Or Go.Proofs.YtfpedcmempljlaaDoor.Sx

def fl (e : Ft) : List Value := [.int .i64 e.1, .int .i64 e.2]
theorem fl_len (e : Ft) : (fl e).length = 2 := rfl
theorem fl_one (e : Ft) : ∀ u ∈ fl e, Go.Sx.one u := by
  intro u hu
  simp only [fl, List.mem_cons, List.not_mem_nil, or_false] at hu
  rcases hu with rfl | rfl <;> rfl
abbrev FAt (h : Hp) (v : Value) (L : List Ft) : Prop := SlAt h 2 v L.length (L.flatMap fl)
abbrev FO (h : Hp) (base : Nat) (v : Value) (L : List Ft) : Prop := OwnH h base 26 2 v L.length (L.flatMap fl)
theorem FAt.sl {h : Hp} {v : Value} {L : List Ft} (hs : FAt h v L) {F : Option Addr → Nat → Nat → Prop} (hf : ∀ a c, F a L.length c) : asSl v F := SlAt.sl hs hf
theorem FO.at_ {h : Hp} {base : Nat} {v : Value} {L : List Ft} (ho : FO h base v L) : FAt h v L := OwnH.slAt ho
/-- a field -/
theorem FAt.rd0 {h : Hp} {v : Value} {L : List Ft} (hs : FAt h v L) {i : Nat} {e : Ft} (hi : L[i]? = some e) {K : Value → Prop} (hk : K (.int .i64 e.1)) :
    asSl1 v fun a l _ => 0 ≤ (i : Int) ∧ (i : Int) < (l : Int) ∧ ∃ w, cellH h (Addr.add (Addr.add a (Int.toNat (i : Int) * 2)) 0) = some w ∧ K w :=
  SlAt.rdT hs fl_len hi (o := 0) rfl hk
theorem FAt.rd1 {h : Hp} {v : Value} {L : List Ft} (hs : FAt h v L) {i : Nat} {e : Ft} (hi : L[i]? = some e) {K : Value → Prop} (hk : K (.int .i64 e.2)) :
    asSl1 v fun a l _ => 0 ≤ (i : Int) ∧ (i : Int) < (l : Int) ∧ ∃ w, cellH h (Addr.add (Addr.add a (Int.toNat (i : Int) * 2)) 1) = some w ∧ K w :=
  SlAt.rdT hs fl_len hi (o := 1) rfl hk
set_option maxRecDepth 100000 in
theorem FO.app {h : Hp} {base : Nat} {v : Value} {L : List Ft} (ho : FO h base v L) (hl : L.length ≤ 1000000) (hb : base ≤ h.size) (e : Ft) {K : Value → Hp → Prop}
    (hk : ∀ w h', FO h' base w (L ++ [e]) → Keep (fun k => v.ownBlock = some k) h h' → (∀ k, w.ownBlock = some k → v.ownBlock = some k ∨ h.size ≤ k) → K w h') :
    appK Tryd.prog 22 (Array.push h (.cells (fl e).toArray 26 (0, 0))) v (.slice (some ⟨h.size, 0, none⟩) 1 1) K := by
  refine appK_one (bt := 16) (sz := 2) (el := 26) (by kernel_rfl) ho rfl (fl_one e) (by omega) (by omega) hb fun w h' ho' hg _ hw => hk w h' ?_ (Keep.grown hg fun k hk _ => hk) hw
  rw [FO, List.length_append, List.flatMap_append]
  simpa using ho'

section
variable {ω : Amb}
theorem Compare_law (a b : Int) (h : Hp) (X : List PanicEntry → Hp → Prop) : CallX Tryd.prog ω n_cmp_Compare_int [.int .i64 a, .int .i64 b] h (fun r h' => r = .int .i64 (cpI a b) ∧ h' = h) X := by
  refine C_cmp_Compare_int ω _ _ h _ X ?_
  unfold W_cmp_Compare_int
  refine CallX.use (nan_law a h) ?_
  rintro _ _ ⟨rfl, hh⟩
  rw [hh]
  refine CallX.use (nan_law b h) ?_
  rintro _ _ ⟨rfl, hh⟩
  rw [hh, asB_bool]
  refine cond_f rfl ?_
  rw [asB_bool]
  refine cond_f rfl ?_
  rw [asK_int, asK_int]
  unfold cpI
  refine cond_c (fun hc => ?_) (fun hc => ?_)
  · rw [if_pos (of_decide_eq_true hc)]
    exact ⟨rfl, rfl⟩
  · rw [if_neg (of_decide_eq_false hc), asK_int, asK_int]
    refine cond_c (fun hc => ?_) (fun hc => ?_)
    · have := of_decide_eq_true hc
      rw [if_pos (by omega)]
      exact ⟨rfl, rfl⟩
    · have := of_decide_eq_false hc
      rw [if_neg (by omega)]
      exact ⟨rfl, rfl⟩
theorem Or_law (a b : Int) (h : Hp) (X : List PanicEntry → Hp → Prop) :
    CallX Tryd.prog ω n_cmp_Or_int [.slice (some ⟨h.size, 0, none⟩) 2 2] (Array.push h (.cells (List.toArray [.int .i64 a, .int .i64 b]) 3 (0, 0))) (fun r h' => r = .int .i64 (if a ≠ 0 then a else b) ∧ h' = Array.push h (.cells (List.toArray [.int .i64 a, .int .i64 b]) 3 (0, 0))) X := by
  refine C_cmp_Or_int ω _ _ _ X ?_
  unfold W_cmp_Or_int
  have hs : SlAt (Array.push h (.cells (List.toArray [.int .i64 a, .int .i64 b]) 3 (0, 0))) 1 (.slice (some ⟨h.size, 0, none⟩) 2 2) 2 [.int .i64 a, .int .i64 b] := by
    have : OwnH (Array.push h (.cells (List.toArray [.int .i64 a, .int .i64 b]) 3 (0, 0))) h.size 3 1 (.slice (some ⟨h.size, 0, none⟩) 2 2) 2 [.int .i64 a, .int .i64 b] := ownBlk hp_push_new rfl (by decide) (Nat.le_refl _)
    exact this.slAt
  generalize Array.push h (.cells (List.toArray [.int .i64 a, .int .i64 b]) 3 (0, 0)) = h1 at *
  refine hs.sl fun _ _ => ?_
  refine ⟨fun t h' => h' = h1 ∧ ((t = .int .i64 ((0 : Nat) : Int)) ∨ (t = .int .i64 ((1 : Nat) : Int) ∧ a = 0) ∨ (t = .int .i64 ((2 : Nat) : Int) ∧ a = 0 ∧ b = 0)), fun t _ => match t with | .int _ i => 2 - i.toNat | _ => 0, ⟨rfl, .inl rfl⟩, ?_⟩
  rintro _ _ _ ⟨hh, hc⟩
  rw [hh]
  rcases hc with rfl | ⟨rfl, h0⟩ | ⟨rfl, h0, h1'⟩
  · rw [asK_int]
    refine cond_t rfl ?_
    refine hs.rd1 (i := 0) rfl ?_
    rw [asK_int]
    refine cond_c (fun hc => ?_) (fun hc => ?_)
    · rw [if_pos (by simpa using hc)]
      exact ⟨rfl, rfl⟩
    · rw [asK_int, i64_in (by omega) (by omega)]
      exact ⟨⟨rfl, .inr (.inl ⟨rfl, by simpa using hc⟩)⟩, by simp⟩
  · rw [asK_int]
    refine cond_t rfl ?_
    refine hs.rd1 (i := 1) rfl ?_
    rw [asK_int, if_neg (by omega)]
    refine cond_c (fun hc => ?_) (fun hc => ?_)
    · exact ⟨rfl, rfl⟩
    · rw [asK_int, i64_in (by omega) (by omega)]
      exact ⟨⟨rfl, .inr (.inr ⟨rfl, h0, by simpa using hc⟩)⟩, by simp⟩
  · rw [asK_int]
    refine cond_f rfl ?_
    rw [if_neg (by omega), h1']
    exact ⟨rfl, rfl⟩
theorem Cmp_law (x y : Ft) (h : Hp) (X : List PanicEntry → Hp → Prop) : CallX Tryd.prog ω n_text_Order_1 [.agg (fl x).toArray, .agg (fl y).toArray] h (fun r h' => r = .int .i64 (cfF x y) ∧ Keep (fun _ => False) h h') X := by
  refine C_text_Order_1 ω _ _ h _ X ?_
  unfold W_text_Order_1
  have hx1 : (Array.push h (.cells (Value.cells (.agg (fl x).toArray)) 26 (0, 0)))[h.size]? = some (.cells (fl x).toArray 26 (0, 0)) := hp_push_new
  have k1 := Keep.push (S := fun _ => False) h (.cells (Value.cells (.agg (fl x).toArray)) 26 (0, 0))
  generalize Array.push h (.cells (Value.cells (.agg (fl x).toArray)) 26 (0, 0)) = h1 at *
  have hy2 : (Array.push h1 (.cells (Value.cells (.agg (fl y).toArray)) 26 (0, 0)))[h1.size]? = some (.cells (fl y).toArray 26 (0, 0)) := hp_push_new
  have kp2 := Keep.push (S := fun _ => False) h1 (.cells (Value.cells (.agg (fl y).toArray)) 26 (0, 0))
  generalize Array.push h1 (.cells (Value.cells (.agg (fl y).toArray)) 26 (0, 0)) = h2 at *
  have hx2 := kp2.get hx1 (by simp)
  have k2 := k1.trans kp2
  refine lx hx2 rfl ?_
  refine lx hy2 rfl ?_
  refine lx hx2 rfl ?_
  refine lx hy2 rfl ?_
  refine CallX.use (Compare_law x.2 y.2 h2) ?_
  rintro _ _ ⟨rfl, hh⟩
  rw [hh]
  refine ⟨lx' hy2 rfl, lx' hx2 rfl, ?_⟩
  refine CallX.use (Compare_law x.1 y.1 h2) ?_
  rintro _ _ ⟨rfl, hh⟩
  rw [hh, oneK_int, oneK_int]
  refine CallX.use (Or_law (cpI x.2 y.2) (cpI x.1 y.1) h2) ?_
  rintro _ _ ⟨rfl, hh⟩
  rw [hh]
  refine ⟨?_, k2.trans (Keep.push _ _)⟩
  unfold cfF
  rfl
end
end Go.Proofs.YtfpedcmempljlaaDoor
