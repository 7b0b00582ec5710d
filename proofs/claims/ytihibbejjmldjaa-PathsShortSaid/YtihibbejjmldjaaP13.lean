/- Ways: a way is no longer than any, nor above one as long; the law's beginning; PathsFinds, PathsNexts. -/
import Derived.Test.YtihibbejjmldjaaP12
namespace Go.Proofs.Ytihibbejjmldjaa
open Go Go.Sx Go.Sx.Pa Go.Proofs.Ytihibbejjmldjaa.Sx

theorem nI_cons (x : Nat) (l : List Nat) : nI (x :: l) = (x : Int) :: nI l := rfl
/-- a walk by the edges -/
inductive Walk (L : Pa.Code) (t : Nat) : Nat → List Nat → Prop
  | nil : Walk L t t []
  | cons {i k : Nat} {r : List Nat} : E L i k → Walk L t k r → Walk L t i (k :: r)
theorem Walk.dst {L : Pa.Code} {t i : Nat} {r : List Nat} (w : Walk L t i r) : Dst (behind L) t i r.length := by
  induction w with
  | nil => exact .nil
  | cons he _ ih => exact .step ih (mem_behind.2 he)
theorem Walk.chain {L : Pa.Code} {t i : Nat} {r : List Nat} (w : Walk L t i r) : chain L (i : Int) (nI r) = true := by
  induction w with
  | nil => rfl
  | cons he _ ih =>
    rw [nI_cons, Go.Proofs.Ytihibbejjmldjaa.chain, ih, (comes_iff (E_lt he).1).2 he]
    rfl
theorem Walk.snoc {L : Pa.Code} {t i k : Nat} {r : List Nat} (w : Walk L t i r) (he : E L t k) : Walk L k i (r ++ [k]) := by
  induction w with
  | nil => exact .cons he .nil
  | cons h _ ih => exact .cons h ih
theorem Walk.last {L : Pa.Code} {t i : Nat} {r : List Nat} (w : Walk L t i r) : (i :: r)[r.length]? = some t := by
  induction w with
  | nil => rfl
  | cons _ _ ih => exact ih
theorem way_walk {L : Pa.Code} {t : Nat} {D : Nat → Option Nat} (hD : IsD (behind L) L.length (t : Int) D) : ∀ (d i : Nat), D i = some d → ∃ r, wayF L D d i = i :: r ∧ r.length = d ∧ Walk L t i r
  | 0, i, hi => by
    have := zero_at hD hi
    obtain rfl : t = i := by omega
    exact ⟨[], rfl, rfl, .nil⟩
  | d + 1, i, hi => by
    obtain ⟨k, hf, he, hk⟩ := step_down hD hi
    obtain ⟨r, h1, h2, h3⟩ := way_walk hD d k hk
    refine ⟨k :: r, ?_, by simp [h2], .cons he h3⟩
    rw [wayF, hf, ← h1]
theorem way_least {L : Pa.Code} {t : Nat} {D : Nat → Option Nat} (hD : IsD (behind L) L.length (t : Int) D) (ht : t < L.length) : ∀ {i : Nat} {r : List Nat}, Walk L t i r → ∀ d, D i = some d → r.length = d → aboveB (nI (wayF L D d i)) (nI (i :: r)) = false
  | _, [], .nil, d, hd, hl => by
    subst hl
    simp [wayF, nI, aboveB]
  | i, y :: r, .cons he w, d, hd, hl => by
    obtain ⟨d', rfl⟩ : ∃ d', d = d' + 1 := ⟨r.length, by simp at hl; omega⟩
    have hrl : r.length = d' := by simpa using hl
    obtain ⟨e, h1, h2⟩ := hD.of (an := t) rfl ht w.dst
    have hyd : D y = some d' := by
      obtain ⟨⟨an, h3, h4, h5⟩, _⟩ := hD.some_ h1
      obtain ⟨_, h6⟩ := hD.some_ hd
      have := h6 an (e + 1) h3 h4 (.step h5 (mem_behind.2 he))
      rw [h1]
      congr 1
      omega
    obtain ⟨k, hf, hek, hk⟩ := step_down hD hd
    rw [wayF, hf, nI_cons, nI_cons, aboveB, if_pos rfl]
    simp only
    obtain ⟨_, as', bs, hab, hno⟩ := List.find?_eq_some_iff_append.1 hf
    have hky : k ≤ y := by
      have hy : y ∈ nexts L i := he
      rw [hab] at hy
      rcases List.mem_append.1 hy with hy | hy
      · have := hno y hy
        rw [hyd] at this
        simp at this
      · rcases List.mem_cons.1 hy with rfl | hy
        · exact Nat.le_refl _
        · have hup := nexts_up L i
          rw [hab, List.pairwise_append, List.pairwise_cons] at hup
          exact Nat.le_of_lt (hup.2.1.1 y hy)
    by_cases hke : k = y
    · subst hke
      exact way_least hD ht w d' hk hrl
    · obtain ⟨r', h3, _, _⟩ := way_walk hD d' k hk
      rw [h3, nI_cons, nI_cons, aboveB, if_neg (by omega), decide_eq_false (by omega)]
theorem Dst.pre {M : Nat → List Nat} {a b c d : Nat} (hc : b ∈ M c) (h : Dst M b a d) : Dst M c a (d + 1) := by
  induction h with
  | nil => exact .step .nil hc
  | step _ hk ih => exact .step ih hk
theorem Dst.rev {N M : Nat → List Nat} (hr : ∀ a b, b ∈ N a → a ∈ M b) {a b d : Nat} (h : Dst N a b d) : Dst M b a d := by
  induction h with
  | nil => exact .nil
  | step _ hk ih => exact Dst.pre (hr _ _ hk) ih
theorem both_ways {L : Pa.Code} {i : Nat} (hi : i < L.length) {D D0 : Nat → Option Nat} (hD : IsD (behind L) L.length (i : Int) D) (hD0 : IsD (nexts L) L.length 0 D0) : (D 0).isSome = (D0 i).isSome := by
  rw [Bool.eq_iff_iff, Option.isSome_iff_exists, Option.isSome_iff_exists]
  constructor
  · rintro ⟨d, hd⟩
    obtain ⟨⟨an, h1, h2, h3⟩, _⟩ := hD.some_ hd
    obtain rfl : i = an := by omega
    obtain ⟨d', h4, _⟩ := hD0.of (an := 0) rfl (by omega) (Dst.rev (M := nexts L) (fun a b hb => mem_behind.1 hb) h3)
    exact ⟨d', h4⟩
  · rintro ⟨d, hd⟩
    obtain ⟨⟨an, h1, h2, h3⟩, _⟩ := hD0.some_ hd
    obtain rfl : an = 0 := by omega
    obtain ⟨d', h4, _⟩ := hD.of (an := i) rfl hi (Dst.rev (M := behind L) (fun a b hb => mem_behind.2 hb) h3)
    exact ⟨d', h4⟩

/-! ### the beginning -/
def L0 : Pa.Code := [(14, 2), (15, 0), (17, 0)]
def ins0 : List Value := [(.int .i64 14), (.int .i64 0), (.int .i64 0), (.int .i64 0), (.int .i64 2), (.string ⟨#[]⟩), (.slice none 0 0), (.slice none 0 0), (.int .i64 0), (.int .i64 0), (.int .i64 0), (.int .i64 15), (.int .i64 0), (.int .i64 0), (.int .i64 0), (.int .i64 0), (.string ⟨#[]⟩), (.slice none 0 0), (.slice none 0 0), (.int .i64 0), (.int .i64 0), (.int .i64 0), (.int .i64 17), (.int .i64 0), (.int .i64 0), (.int .i64 0), (.int .i64 0), (.string ⟨#[]⟩), (.slice none 0 0), (.slice none 0 0), (.int .i64 0), (.int .i64 0), (.int .i64 0)]
theorem ins0_at (h : Hp) : InsAt (Array.push h (.cells ins0.toArray 41 (0, 0))) (.slice (some ⟨h.size, 0, none⟩) 3 3) L0 := by
  have ho : OwnH (Array.push h (.cells ins0.toArray 41 (0, 0))) 0 41 11 (.slice (some ⟨h.size, 0, none⟩) 3 3) 3 ins0 := ownBlk hp_push_new rfl (by decide) (Nat.zero_le _)
  refine ⟨ins0, ho.slAt, ?_, fun i x hx => ?_⟩
  · intro u hu
    have : ins0.all (fun u => u.oneCell') = true := by decide
    exact List.all_eq_true.1 this u hu
  · match i with
    | 0 => cases hx; exact ⟨rfl, rfl⟩
    | 1 => cases hx; exact ⟨rfl, rfl⟩
    | 2 => cases hx; exact ⟨rfl, rfl⟩
    | i + 3 => simp [L0] at hx
theorem n0 : nexts L0 0 = [1, 2] ∧ nexts L0 1 = [0] ∧ nexts L0 2 = [] := by decide
theorem bh0 : 0 ∈ behind L0 2 ∧ 1 ∈ behind L0 0 ∧ 1 ∉ behind L0 2 := by decide
theorem path0 {D : Nat → Option Nat} (hD : IsD (behind L0) L0.length 2 D) : pathR L0 D 1 = [1, 0, 2] := by
  have d2 : D 2 = some 0 := at_zero hD (by decide)
  have nz : ∀ {i : Nat}, i ≠ 2 → D i ≠ some 0 := fun {i} hi h => by
    have := zero_at hD h
    omega
  have d0 : D 0 = some 1 := by
    obtain ⟨d, h1, h2⟩ := hD.of (an := 2) rfl (by decide) (.step .nil bh0.1)
    have : d ≠ 0 := fun e => nz (i := 0) (by decide) (by rw [h1, e])
    rw [h1]
    congr 1
    omega
  have d1 : D 1 = some 2 := by
    obtain ⟨d, h1, h2⟩ := hD.of (an := 2) rfl (by decide) (.step (.step .nil bh0.1) bh0.2.1)
    have hd0 : d ≠ 0 := fun e => nz (i := 1) (by decide) (by rw [h1, e])
    have hd1 : d ≠ 1 := fun e => by
      subst e
      obtain ⟨⟨an, h3, h4, h5⟩, _⟩ := hD.some_ h1
      obtain rfl : an = 2 := by omega
      cases h5 with
      | step ha hb =>
        cases ha
        exact bh0.2.2 hb
    rw [h1]
    congr 1
    omega
  unfold pathR
  rw [if_pos (by decide)]
  show pathL L0 D 1 = _
  unfold pathL
  simp [d1, wayF, n0.1, n0.2.1, d0, d2]
theorem reach0 {D : Nat → Option Nat} (hD : IsD (nexts L0) L0.length 0 D) : reachL L0.length D = [0, 1, 2] := by
  have s0 : (D 0).isSome = true := by
    obtain ⟨d, h1, _⟩ := hD.of (an := 0) rfl (by decide) .nil
    rw [h1]; rfl
  have s1 : (D 1).isSome = true := by
    obtain ⟨d, h1, _⟩ := hD.of (an := 0) rfl (by decide) (.step .nil (show 1 ∈ nexts L0 0 by decide))
    rw [h1]; rfl
  have s2 : (D 2).isSome = true := by
    obtain ⟨d, h1, _⟩ := hD.of (an := 0) rfl (by decide) (.step .nil (show 2 ∈ nexts L0 0 by decide))
    rw [h1]; rfl
  show (List.range 3).filter (fun k => (D k).isSome) = _
  simp [List.range_succ, s0, s1, s2]

section
variable {ω : Amb} {L : Pa.Code} {pa pb pc pd pv : Value}
theorem lit_same {h : Hp} {r : Value} {l : List Int} (hl : l.length ≤ 10) (hs : IS h r l) (X : List PanicEntry → Hp → Prop) :
    CallX Try.prog ω n_pipewrightref_SameInts [r, .slice (some ⟨h.size, 0, none⟩) l.length l.length] (Array.push h (.cells (iv l).toArray 3 (0, 0))) (fun r h' => r = .bool true ∧ Keep (fun _ => False) h h') X := by
  have hk := Keep.push (S := fun _ => False) h (.cells (iv l).toArray 3 (0, 0))
  refine CallX.use (Same_law (SlAt.keep hs hk) (IO.lit l (by omega)).slAt (by omega)) ?_
  rintro _ _ ⟨rfl, hh⟩
  rw [hh]
  exact ⟨rfl, hk⟩
theorem Begun_law (h : Hp) (X : List PanicEntry → Hp → Prop) : CallX Try.prog ω n_pipewrightlaw_pathsBegun [] h (fun r h' => r = .bool true ∧ Keep (fun _ => False) h h') X := by
  refine C_pipewrightlaw_pathsBegun ω h _ X ?_
  unfold W_pipewrightlaw_pathsBegun
  have hi0 := ins0_at h
  have k0 := Keep.push (S := fun _ => False) h (.cells ins0.toArray 41 (0, 0))
  generalize hX : Array.push h (.cells (List.toArray [(.int .i64 14), (.int .i64 0), (.int .i64 0), (.int .i64 0), (.int .i64 2), (.string ⟨#[]⟩), (.slice none 0 0), (.slice none 0 0), (.int .i64 0), (.int .i64 0), (.int .i64 0), (.int .i64 15), (.int .i64 0), (.int .i64 0), (.int .i64 0), (.int .i64 0), (.string ⟨#[]⟩), (.slice none 0 0), (.slice none 0 0), (.int .i64 0), (.int .i64 0), (.int .i64 0), (.int .i64 17), (.int .i64 0), (.int .i64 0), (.int .i64 0), (.int .i64 0), (.string ⟨#[]⟩), (.slice none 0 0), (.slice none 0 0), (.int .i64 0), (.int .i64 0), (.int .i64 0)]) 41 (0, 0)) = h1
  have hX' : Array.push h (.cells ins0.toArray 41 (0, 0)) = h1 := hX
  rw [hX'] at hi0 k0
  clear hX hX'
  have hone : one (.slice (some ⟨h.size, 0, none⟩) 3 3) := rfl
  generalize Value.slice (some ⟨h.size, 0, none⟩) 3 3 = iv0 at *
  refine ⟨rfl, rfl, rfl, rfl, ?_, storeK_local (cs := prc (.string ⟨#[]⟩) (.slice none 0 0) (.int .i64 0) (.slice none 0 0) iv0) rfl ?_⟩
  · intro u hu
    simp only [List.mem_cons, List.not_mem_nil, or_false] at hu
    rcases hu with rfl | rfl | rfl | rfl | rfl
    · rfl
    · rfl
    · rfl
    · rfl
    · exact hone
  have kp := Keep.push (S := fun _ => False) h1 (.cells (prc (.string ⟨#[]⟩) (.slice none 0 0) (.int .i64 0) (.slice none 0 0) iv0).toArray 26 (0, 0))
  have hb2 := hp_push_new (h := h1) (o := .cells (prc (.string ⟨#[]⟩) (.slice none 0 0) (.int .i64 0) (.slice none 0 0) iv0).toArray 26 (0, 0))
  have hi2 := hi0.keep kp
  have k2 := k0.trans kp
  generalize Array.push h1 (.cells (prc (.string ⟨#[]⟩) (.slice none 0 0) (.int .i64 0) (.slice none 0 0) iv0).toArray 26 (0, 0)) = h2 at *
  generalize h1.size = G at *
  have hn0 : List.length L0 = 3 := rfl
  refine ⟨fun r h' => r = .bool true ∧ Keep (fun _ => False) h h', ?_, fun _ _ _ hj => hj⟩
  refine ⟨_, cellsH_blk hb2 rfl, ?_⟩
  refine CallX.use (Next_law hi2 (by omega) 0) ?_
  rintro r3 h3 ⟨ho3, k3⟩
  have e3 : nI (nx L0 0) = [1, 2] := by decide
  rw [e3] at ho3
  refine CallX.use (lit_same (l := [1, 2]) (by simp) ho3.slAt) ?_
  rintro _ h4 ⟨rfl, k4⟩
  rw [asB_bool]
  refine cond_t rfl ?_
  have k24 := k3.trans k4
  refine ⟨_, cellsH_blk (k24.get hb2 (by simp)) rfl, ?_⟩
  refine CallX.use (Path_law (hi2.keep k24) (by omega) 1 2) ?_
  rintro r5 h5 ⟨D, hD, _, hs5, k5⟩
  rw [path0 hD] at hs5
  refine CallX.use (lit_same (l := [1, 0, 2]) (by simp) hs5) ?_
  rintro _ h6 ⟨rfl, k6⟩
  rw [asB_bool]
  refine cond_t rfl ?_
  have k26 := (k24.trans k5).trans k6
  refine ⟨_, cellsH_blk (k26.get hb2 (by simp)) rfl, ?_⟩
  refine CallX.use (Reach_law (hi2.keep k26) (by omega)) ?_
  rintro r7 h7 ⟨D7, hD7, hs7, k7⟩
  rw [reach0 hD7] at hs7
  refine CallX.use (lit_same (l := [0, 1, 2]) (by simp) hs7) ?_
  rintro _ h8 ⟨rfl, k8⟩
  exact ⟨rfl, ((k2.trans k26).trans k7).trans k8⟩

/-- what stands at the head of each law -/
theorem Finds_law {h : Hp} (hi : InsAt h pv L) (hg : GpAt h pa pb pd pv L.length) (fr to : Int) (X : List PanicEntry → Hp → Prop) :
    CallX Try.prog ω n_pipewrightlaw_PathsFinds [.agg (prc pa pb pc pd pv).toArray, .int .i64 fr, .int .i64 to] h (fun r h' => r = .bool true ∧ Keep (fun _ => False) h h') X := by
  refine C_pipewrightlaw_PathsFinds ω _ _ _ h _ X ?_
  unfold W_pipewrightlaw_PathsFinds
  have hb1 := pb_new h (prc pa pb pc pd pv)
  have k1 := Keep.push (S := fun _ => False) h (.cells (Value.cells (.agg (prc pa pb pc pd pv).toArray)) 26 (0, 0))
  generalize Array.push h (.cells (Value.cells (.agg (prc pa pb pc pd pv).toArray)) 26 (0, 0)) = h1 at *
  refine CallX.use (Begun_law h1) ?_
  rintro _ h2 ⟨rfl, k2⟩
  rw [asB_bool]
  refine cond_f rfl ?_
  have k02 := k1.trans k2
  have hb2 := k2.get hb1 (by simp)
  refine ⟨_, cellsH_blk hb2 rfl, ?_⟩
  refine CallX.use (Great_law (hg.keep k02)) ?_
  rintro _ h3 ⟨g, rfl, k3, hgn⟩
  rw [asB_bool]
  have k03 := k02.trans k3
  refine cond_c (fun _ => ⟨rfl, k03⟩) (fun hc => ?_)
  have hn := hgn hc
  have hb3 := k3.get hb2 (by simp)
  refine ⟨_, cellsH_blk hb3 rfl, _, cellsH_blk hb3 rfl, ?_⟩
  refine CallX.use (Path_law (hi.keep k03) hn fr to) ?_
  rintro r4 h4 ⟨D, hD, hDb, hs4, k4⟩
  have hb4 := k4.get hb3 (by simp)
  refine ⟨cellsH_blk hb4 rfl, ?_⟩
  refine CallX.use (WayTo_law (hi.keep (k03.trans k4)) hn fr hD hDb) ?_
  rintro r5 h5 ⟨hs5, k5⟩
  have hlen : (nI (pathR L D fr)).length ≤ 1000000 := by
    rw [nI_len]
    unfold pathR
    split
    · unfold pathL
      split
      · rename_i d hd
        have hdb := hDb _ _ hd
        obtain ⟨⟨tn, rfl, htn, _⟩, _⟩ := hD.some_ hd
        obtain ⟨r, h1, h2, _⟩ := way_walk hD d _ hd
        rw [h1]
        simp
        omega
      · simp
    · simp
  refine CallX.use (Same_law (SlAt.keep hs4 k5) hs5 hlen) ?_
  rintro _ _ ⟨rfl, hh⟩
  rw [hh]
  exact ⟨rfl, (k03.trans k4).trans k5⟩

theorem LNexts_law {h : Hp} (hi : InsAt h pv L) (hg : GpAt h pa pb pd pv L.length) (i : Int) {v : Value} {l : List Int} (hs : IS h v l) (X : List PanicEntry → Hp → Prop) :
    CallX Try.prog ω n_pipewrightlaw_PathsNexts [.agg (prc pa pb pc pd pv).toArray, .int .i64 i, v] h (fun r h' => r = .bool true ∧ Keep (fun _ => False) h h') X := by
  refine C_pipewrightlaw_PathsNexts ω _ _ _ h _ X ?_
  unfold W_pipewrightlaw_PathsNexts
  have hb1 := pb_new h (prc pa pb pc pd pv)
  have k1 := Keep.push (S := fun _ => False) h (.cells (Value.cells (.agg (prc pa pb pc pd pv).toArray)) 26 (0, 0))
  generalize Array.push h (.cells (Value.cells (.agg (prc pa pb pc pd pv).toArray)) 26 (0, 0)) = h1 at *
  refine CallX.use (Begun_law h1) ?_
  rintro _ h2 ⟨rfl, k2⟩
  rw [asB_bool]
  refine cond_f rfl ?_
  have k02 := k1.trans k2
  have hb2 := k2.get hb1 (by simp)
  refine ⟨fun r h' => ∃ g : Bool, r = .bool g ∧ Keep (fun _ => False) h h' ∧ PB h' h.size (prc pa pb pc pd pv) ∧ (g = false → L.length ≤ 300 ∧ l.length ≤ 1000), ?_, ?_⟩
  · refine ⟨_, cellsH_blk hb2 rfl, ?_⟩
    refine CallX.use (Great_law (hg.keep k02)) ?_
    rintro _ h3 ⟨g, rfl, k3, hgn⟩
    rw [asB_bool]
    refine cond_c (fun _ => ⟨true, rfl, k02.trans k3, k3.get hb2 (by simp), fun h => by cases h⟩) (fun hc => ?_)
    refine hs.sl fun _ _ => ?_
    refine ⟨_, rfl, k02.trans k3, k3.get hb2 (by simp), fun hd => ⟨hgn hc, ?_⟩⟩
    have := of_decide_eq_false hd
    omega
  rintro _ _ h3 ⟨g, rfl, k3, hb3, hgn⟩
  rw [asB_bool]
  refine cond_c (fun _ => ⟨rfl, k3⟩) (fun hc => ?_)
  obtain ⟨hn, hl⟩ := hgn hc
  have hi3 := hi.keep k3
  refine ⟨fun r h' => r = .bool true ∧ Keep (fun _ => False) h h', ?_, fun _ _ _ hj => hj⟩
  refine ⟨_, cellsH_blk hb3 rfl, _, cellsH_blk hb3 rfl, ?_⟩
  refine CallX.use (Next_law hi3 (by omega) i) ?_
  rintro r4 h4 ⟨ho4, k4⟩
  have hb4 := k4.get hb3 (by simp)
  refine ⟨cellsH_blk hb4 rfl, ?_⟩
  refine CallX.use (Nexts_law (hi3.keep k4) (by omega) i) ?_
  rintro r5 h5 ⟨ho5, k5⟩
  have hnl := nx_len L i
  refine CallX.use (Same_law (SlAt.keep ho4.slAt k5) ho5.slAt (by rw [nI_len]; omega)) ?_
  rintro _ _ ⟨rfl, hh⟩
  rw [hh, asB_bool]
  refine cond_t rfl ?_
  have hb5 := k5.get hb4 (by simp)
  have k35 := k4.trans k5
  refine ⟨_, cellsH_blk hb5 rfl, _, cellsH_blk hb5 rfl, ?_⟩
  refine CallX.use (Reach_law (hi3.keep k35) hn) ?_
  rintro r6 h6 ⟨D, hD, hs6, k6⟩
  have hb6 := k6.get hb5 (by simp)
  refine ⟨cellsH_blk hb6 rfl, ?_⟩
  refine CallX.use (Reached_law (hi3.keep (k35.trans k6)) hn hD) ?_
  rintro r7 h7 ⟨hs7, k7⟩
  have hrl : (reachL L.length D).length ≤ L.length := filt_len _ _
  refine CallX.use (Same_law (SlAt.keep hs6 k7) hs7 (by rw [nI_len]; omega)) ?_
  rintro _ _ ⟨rfl, hh⟩
  rw [hh, asB_bool]
  refine cond_t rfl ?_
  have hb7 := k7.get hb6 (by simp)
  have k37 := (k35.trans k6).trans k7
  have hs' : IS h7 v l := SlAt.keep hs (k3.trans k37)
  refine ⟨_, cellsH_blk hb7 rfl, _, cellsH_blk hb7 rfl, ?_⟩
  refine CallX.use (Is_law (hi3.keep k37) (by omega) hs' (by omega)) ?_
  rintro _ h8 ⟨rfl, k8⟩
  have hb8 := k8.get hb7 (by simp)
  refine ⟨cellsH_blk hb8 rfl, ?_⟩
  refine CallX.use (IsWay_law (hi3.keep (k37.trans k8)) (by omega) (SlAt.keep hs' k8) (by omega)) ?_
  rintro _ h9 ⟨rfl, k9⟩
  rw [asB_bool, asB_bool]
  exact ⟨by simp, ((k3.trans k37).trans k8).trans k9⟩
end
end Go.Proofs.Ytihibbejjmldjaa
