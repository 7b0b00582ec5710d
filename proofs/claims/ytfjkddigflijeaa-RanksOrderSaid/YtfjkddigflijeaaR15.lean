/- Ranks: the law RanksDoes. -/
import Derived.Test.YtfjkddigflijeaaR14
namespace Go.Proofs.Ytfjkddigflijeaa
open Go Go.Sx Go.Sx.Pa Go.Sx.Ra Go.Proofs.Ytfjkddigflijeaa.Sx

/-- edges handed in -/
structure EdIn (h : Hp) (v : Value) (E : List (Int × Int)) : Prop where
  at_ : EdAt h v E
  form : (v = .slice none 0 0 ∧ E = []) ∨ ∃ a c, v = .slice (some a) E.length c ∧ E.length ≤ c
theorem EdIn.keep {h h' : Hp} {v : Value} {E : List (Int × Int)} (hs : EdIn h v E) (hk : Keep (fun _ => False) h h') : EdIn h' v E := ⟨EdAt.keep hs.at_ hk, hs.form⟩
abbrev EO (h : Hp) (base : Nat) (v : Value) (E : List (Int × Int)) : Prop := OwnH h base 30 2 v E.length (E.flatMap ef)
theorem EO.at_ {h : Hp} {base : Nat} {v : Value} {E : List (Int × Int)} (ho : EO h base v E) : EdAt h v E := OwnH.slAt ho
theorem EO.app {h : Hp} {base : Nat} {v x : Value} {E E2 : List (Int × Int)} (ho : EO h base v E) (hx : EdIn h x E2) (hl : E.length + E2.length ≤ 1000000) (hb : base ≤ h.size) {K : Value → Hp → Prop}
    (hk : ∀ w h', EO h' base w (E ++ E2) → Keep (fun k => v.ownBlock = some k) h h' → (∀ k, w.ownBlock = some k → v.ownBlock = some k ∨ h.size ≤ k) → K w h') : appK Try.prog 22 h v x K := by
  refine appK_of (bt := 16) (sz := 2) (el := 30) (by kernel_rfl) ho (m := E2.length) (news := E2.flatMap ef) ⟨flat_len ef_len _, ?_⟩ (fun u hu => ?_) (by omega) (by omega) hb fun w h' ho' hg _ hw => hk w h' ?_ (Keep.grown hg fun k hk _ => hk) hw
  · rcases hx.form with ⟨rfl, rfl⟩ | ⟨a, c, rfl, _⟩
    · exact .inl ⟨rfl, rfl⟩
    · refine .inr ⟨a, c, rfl, fun j u hu => ?_⟩
      rcases hx.at_.2 with ⟨h0, _⟩ | ⟨b, o, cap, hv, hc⟩
      · rw [List.eq_nil_of_length_eq_zero h0] at hu
        simp at hu
      · cases hv
        rw [addr_add]
        exact hc j u hu
  · obtain ⟨e, _, h2⟩ := List.mem_flatMap.1 hu
    exact ef_one e u h2
  · rw [EO, List.length_append, List.flatMap_append]
    exact ho'

/-- what Ranks tells, once more -/
def RkV (n : Int) (E : List (Int × Int)) (c a : Int) (xs : List Int) : Prop :=
  ((chk n E).1 ≠ 0 ∧ xs = [] ∧ (c, a) = chk n E) ∨ ((chk n E).1 = 0 ∧ NoRk (esOf E) ∧ xs = [] ∧ c = 17 ∧ a = -1) ∨
  ((chk n E).1 = 0 ∧ c = 0 ∧ a = 0 ∧ xs.length = n.toNat ∧ IsRk n.toNat (esOf E) (fun b => (vz xs b).toNat) ∧ ∀ b, b < n.toNat → 0 ≤ vz xs b ∧ vz xs b ≤ n)
theorem RkRes.open_ {n : Int} {E : List (Int × Int)} {h h' : Hp} {r : Value} (hr : RkRes n E h r h') : ∃ w xs c a, r = .tuple #[w, .agg (flt c a).toArray] ∧ IO h' h.size w xs ∧ RkV n E c a xs := by
  rcases hr with ⟨h1, rfl⟩ | ⟨h1, h2, rfl⟩ | ⟨h1, w, o, rfl, h2, h3, h4, h5⟩
  · exact ⟨_, [], _, _, rfl, OwnH.nil, .inl ⟨h1, rfl, rfl⟩⟩
  · exact ⟨_, [], _, _, rfl, OwnH.nil, .inr (.inl ⟨h1, h2, rfl, rfl, rfl⟩)⟩
  · exact ⟨_, o, _, _, rfl, h2, .inr (.inr ⟨h1, rfl, rfl, h3, h4, h5⟩)⟩
def RoV (n : Int) (E : List (Int × Int)) (c a : Int) (l : List Nat) : Prop :=
  ((chk n E).1 ≠ 0 ∧ l = [] ∧ (c, a) = chk n E) ∨ ((chk n E).1 = 0 ∧ c = 0 ∧ a = 0 ∧ RoundIs n.toNat (esOf E) l)
theorem RoRes.open_ {n : Int} {E : List (Int × Int)} {h h' : Hp} {r : Value} (hr : RoRes n E h r h') : ∃ w l c a, r = .tuple #[w, .agg (flt c a).toArray] ∧ IO h' h.size w (nI l) ∧ RoV n E c a l := by
  rcases hr with ⟨h1, rfl⟩ | ⟨h1, w, l, rfl, h2, h3⟩
  · exact ⟨_, [], _, _, rfl, OwnH.nil, .inl ⟨h1, rfl, rfl⟩⟩
  · exact ⟨_, l, _, _, rfl, h2, .inr ⟨h1, rfl, rfl, h3⟩⟩
theorem vz_ext {n : Nat} {xs ys : List Int} (hx : xs.length = n) (hy : ys.length = n) (h : ∀ b, b < n → vz xs b = vz ys b) : xs = ys := by
  refine List.ext_getElem? fun k => ?_
  by_cases hk : k < n
  · rw [vz_at (by omega), vz_at (by omega), h k hk]
  · rw [List.getElem?_eq_none (by omega), List.getElem?_eq_none (by omega)]

theorem tup2 {a b : Value} {F : Value → Value → Prop} : (asT (.tuple #[a, b]) fun T2 => asO T2[0]? fun v3 => asT (.tuple #[a, b]) fun T4 => asO T4[1]? fun v5 => F v3 v5) = F a b := by
  simp only [asT_tup]
  rfl

/-! ### begun -/
theorem succ_eg : succ 3 [(0, 1), (1, 2), (2, 1)] 1 = [2] := by decide
theorem begun_rk {xs : List Int} (hl : xs.length = 3) (hr : IsRk 3 [(0, 1), (1, 2), (0, 2)] (fun b => (vz xs b).toNat)) (hb : ∀ b, b < 3 → 0 ≤ vz xs b ∧ vz xs b ≤ (3 : Int)) : xs = [0, 1, 2] := by
  have h0 : IsRk 3 [(0, 1), (1, 2), (0, 2)] id := by
    refine ⟨fun a b h => ?_, fun b hb => ?_⟩
    · simp at h
      simp only [id]
      omega
    · rcases (by omega : b = 0 ∨ b = 1 ∨ b = 2) with rfl | rfl | rfl
      · exact .inl rfl
      · exact .inr ⟨0, by simp, rfl⟩
      · exact .inr ⟨1, by simp, rfl⟩
  have ho : Ok 3 [(0, 1), (1, 2), (0, 2)] := by
    intro e he
    simp at he
    rcases he with rfl | rfl | rfl <;> simp
  refine vz_ext hl rfl fun b hb' => ?_
  have h1 := hr.same h0 ho hb'
  have h2 := hb b hb'
  simp only [id] at h1
  have h3 : vz [0, 1, 2] b = b := by
    rcases (by omega : b = 0 ∨ b = 1 ∨ b = 2) with rfl | rfl | rfl <;> rfl
  rw [h3]
  omega
theorem begun_ro : RoundIs 3 [(0, 1), (1, 2), (2, 1)] [1, 2] := by
  have ho : Ok 3 [(0, 1), (1, 2), (2, 1)] := by
    intro e he
    simp at he
    rcases he with rfl | rfl | rfl <;> simp
  obtain ⟨D, hD⟩ := isD_ex (Nb 3 [(0, 1), (1, 2), (2, 1)] 1) (by decide : 1 < 3)
  have hc : Cyc 3 [(0, 1), (1, 2), (2, 1)] 1 1 := ⟨2, by simp, by decide, .step .nil ((mem_Nb ho).2 ⟨by simp, by decide⟩)⟩
  have hmin : ∀ v' d', Cyc 3 [(0, 1), (1, 2), (2, 1)] v' d' → 1 ≤ d' ∧ (d' = 1 → 1 ≤ v') := by
    rintro v' d' ⟨k, h1, h2, h3⟩
    simp at h1
    have h00 : ∀ {k d : Nat}, Dst (Nb 3 [(0, 1), (1, 2), (2, 1)] 0) 0 k d → k = 0 := fun {k d} h => by
      induction h with
      | nil => rfl
      | step _ hc ih =>
        subst ih
        have := ((mem_Nb ho).1 hc).1
        simp at this
    refine ⟨?_, fun _ => ?_⟩
    · rcases Dst.ge h3 with h | h <;> omega
    · rcases Nat.lt_or_ge v' 1 with h | h
      · obtain rfl : v' = 0 := by omega
        have := h00 h3
        omega
      · exact h
  refine .inr ⟨1, 1, D, by decide, hc, hmin, hD, ?_⟩
  obtain ⟨k, h1, h2⟩ := hc.first ho (fun d' h' => (hmin 1 d' h').1) hD
  have hk : k = 2 := by
    simp at h1
    exact h1
  subst hk
  unfold wk
  rw [succ_eg]
  have : [2].find? (fun k => D k == some (0 + 1)) = some 2 := by
    simp [h2]
  rw [this]
  rfl
theorem ef3 (h : Hp) (E : List (Int × Int)) (cs : List Value) (hc : cs = E.flatMap ef) (hl : E.length ≤ 1000) : EdAt (Array.push h (.cells cs.toArray 30 (0, 0))) (.slice (some ⟨h.size, 0, none⟩) E.length E.length) E := by
  have : OwnH (Array.push h (.cells cs.toArray 30 (0, 0))) h.size 30 2 (.slice (some ⟨h.size, 0, none⟩) E.length E.length) E.length (E.flatMap ef) := by
    subst hc
    exact ownBlk hp_push_new (flat_len ef_len _) (by simp only [maxLen]; omega) (Nat.le_refl _)
  exact this.slAt

section
variable {ω : Amb}
theorem Begun_law (h : Hp) (X : List PanicEntry → Hp → Prop) : CallX Try.prog ω n_pipewrightlaw_ranksBegun [] h (fun r h' => r = .bool true ∧ Keep (fun _ => False) h h') X := by
  refine C_pipewrightlaw_ranksBegun ω h _ X ?_
  unfold W_pipewrightlaw_ranksBegun
  refine ⟨rfl, rfl, rfl, ?_⟩
  have he0 := ef3 h [(0, 1), (1, 2), (0, 2)] _ rfl (by decide)
  have k0 : Keep (fun _ => False) h (Array.push h (.cells (List.toArray [(.int .i64 0), (.int .i64 1), (.int .i64 1), (.int .i64 2), (.int .i64 0), (.int .i64 2)]) 30 (0, 0))) := Keep.push (S := fun _ => False) h _
  refine CallX.use (Ranks_law (n := 3) he0) ?_
  rintro _ h1 ⟨hr, k1⟩
  obtain ⟨w, xs, c, a, rfl, hw, hv⟩ := hr.open_
  have hz : (chk 3 [(0, 1), (1, 2), (0, 2)]).1 = 0 := by decide
  rcases hv with ⟨h0, _⟩ | ⟨_, hno, _⟩ | ⟨_, rfl, rfl, hl, hrk, hb⟩
  · exact absurd hz h0
  · refine absurd (fun a b hab => ?_) (hno id)
    simp [esOf] at hab
    simp only [id]
    omega
  have hxs := begun_rk hl hrk hb
  subst hxs
  have kk1 := k0.trans k1
  rw [tup2, asA_agg]
  refine ⟨rfl, flt_one _ _, storeK_local (cs := flt 0 0) rfl ?_⟩
  have hbf := hp_push_new (h := h1) (o := .cells (flt 0 0).toArray 25 (0, 0))
  have kp2 := Keep.push (S := fun _ => False) h1 (.cells (flt 0 0).toArray 25 (0, 0))
  have hw2 := OwnH.more hw kp2
  have kk2 := kk1.trans kp2
  generalize h1.push (.cells (flt 0 0).toArray 25 (0, 0)) = h2 at *
  refine ⟨rfl, rfl, rfl, ?_⟩
  have he2 := ef3 h2 [(0, 1), (1, 2), (2, 1)] _ rfl (by decide)
  have k2 : Keep (fun _ => False) h2 (Array.push h2 (.cells (List.toArray [(.int .i64 0), (.int .i64 1), (.int .i64 1), (.int .i64 2), (.int .i64 2), (.int .i64 1)]) 30 (0, 0))) := Keep.push (S := fun _ => False) h2 _
  refine CallX.use (Round_law (n := 3) he2) ?_
  rintro _ h3 ⟨hr3, k3⟩
  obtain ⟨w3, l, c3, a3, rfl, hw3, hv3⟩ := hr3.open_
  have hz3 : (chk 3 [(0, 1), (1, 2), (2, 1)]).1 = 0 := by decide
  rcases hv3 with ⟨h0, _⟩ | ⟨_, rfl, rfl, hro⟩
  · exact absurd hz3 h0
  have hl3 := hro.one begun_ro
  subst hl3
  rw [tup2, asA_agg]
  refine ⟨rfl, flt_one _ _, storeK_local (cs := flt 0 0) rfl ?_⟩
  have hbg := hp_push_new (h := h3) (o := .cells (flt 0 0).toArray 25 (0, 0))
  have kp4 := Keep.push (S := fun _ => False) h3 (.cells (flt 0 0).toArray 25 (0, 0))
  have k24 := (k2.trans k3).trans kp4
  have hw4 := OwnH.more hw2 k24
  have hw34 := OwnH.more hw3 kp4
  have hbf4 := k24.get hbf (by simp)
  have kk4 := kk2.trans k24
  generalize h3.push (.cells (flt 0 0).toArray 25 (0, 0)) = h4 at *
  refine ⟨fun r h' => r = .bool true ∧ Keep (fun _ => False) h h', ?_, fun _ _ _ hj => hj⟩
  refine lx hbf4 rfl ?_
  rw [asK_int]
  refine cond_t rfl ?_
  refine lx hbg rfl ?_
  rw [asK_int]
  refine cond_t rfl ?_
  have hlit := IO.lit (h := h4) [0, 1, 2] (by simp)
  have kp5 : Keep (fun _ => False) h4 (Array.push h4 (.cells (List.toArray [(.int .i64 0), (.int .i64 1), (.int .i64 2)]) 3 (0, 0))) := Keep.push (S := fun _ => False) h4 _
  refine CallX.use (Same_law (xs := [0, 1, 2]) (OwnH.more hw4 kp5).slAt hlit.slAt (by simp)) ?_
  rintro _ h6 ⟨rfl, hh⟩
  rw [hh, asB_bool]
  refine cond_t rfl ?_
  have hw35 := OwnH.more hw34 kp5
  have kk5 := kk4.trans kp5
  generalize Array.push h4 (.cells (List.toArray [(.int .i64 0), (.int .i64 1), (.int .i64 2)]) 3 (0, 0)) = h5 at *
  have hlit6 := IO.lit (h := h5) [1, 2] (by simp)
  have kp6 : Keep (fun _ => False) h5 (Array.push h5 (.cells (List.toArray [(.int .i64 1), (.int .i64 2)]) 3 (0, 0))) := Keep.push (S := fun _ => False) h5 _
  refine CallX.use (Same_law (xs := [1, 2]) (OwnH.more hw35 kp6).slAt hlit6.slAt (by simp)) ?_
  rintro _ h7 ⟨rfl, hh7⟩
  rw [hh7]
  exact ⟨rfl, kk5.trans kp6⟩
end
end Go.Proofs.Ytfjkddigflijeaa
