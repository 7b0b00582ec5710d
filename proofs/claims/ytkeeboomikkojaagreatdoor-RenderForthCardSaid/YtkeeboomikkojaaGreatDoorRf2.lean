/- RenderForth and RenderBack. -/
import Derived.Test.YtkeeboomikkojaaGreatDoorRf1
import Derived.Test.YtkeeboomikkojaaGreatDoorRy2
import Derived.Test.YtkeeboomikkojaaGreatDoorRi1
import Derived.Test.YtkeeboomikkojaaGreatDoorRn7
import Derived.Test.YtkeeboomikkojaaGreatDoorYl
namespace Go.Proofs.YtkeeboomikkojaaGreatDoor
open Go Go.Sx Go.Sx.Tk Go.Sx.Rn Go.Proofs.YtkeeboomikkojaaGreatDoor.Sx

theorem psO_ok {s : ByteArray} {p : List Sg} (h : PsO s (.ok p)) : Small p ∧ ∃ n, formP p = .ok n := by
  obtain ⟨_, ts, hsc, hpt, ho⟩ := h.okk
  exact parsed_ok (fun t ht => sc_ok hsc ts rfl t ht) ho.len hpt
theorem form_rend {p : List Sg} (h : (rendF p).1 = 0) : ∃ n, formP p = .ok n := by
  have h1 : (fltR (formP p)).1 = 0 := by
    unfold rendF at h
    split at h
    · assumption
    · exact h
  exact (formP_0 h1).2.2
theorem rend_form {p : List Sg} {n : Int} (h : formP p = .ok n) : rendF p = if 12000 < (pgT p).length then (1, -1) else (0, 0) := by
  unfold rendF
  rw [h]
  exact if_pos rfl
theorem prS_0 {p : List Sg} (h : (rendF p).1 = 0) : prS p = bs (pgT p) := by
  unfold prS
  rw [if_pos h]
theorem prS_len {p : List Sg} (h : (rendF p).1 = 0) : (prS p).size ≤ 12000 := by
  rw [prS_0 h, ← bytes_len, bytes_bs]
  exact (rendF_0 h).2.1
theorem print_PsO {p : List Sg} (h : (rendF p).1 = 0) : ∃ q, PsO (prS p) (.ok q) ∧ sgsZ false q = sgsZ false p := by
  obtain ⟨n, hn⟩ := form_rend h
  obtain ⟨ts, q, h1, h2, h3⟩ := print_parse ((prS p).size : Int) hn
  refine ⟨q, ⟨ts, 0, 0, .inr (.inl ⟨prS_len h, ?_, rfl, rfl⟩), by rw [if_pos rfl, h2]⟩, h3⟩
  rw [prS_0 h, bytes_bs]
  exact h1
theorem same_rend {p q : List Sg} (h : (rendF p).1 = 0) (hq : ∃ n, formP q = .ok n) (hz : sgsZ false q = sgsZ false p) : rendF q = (0, 0) ∧ prS q = prS p := by
  obtain ⟨m, hm⟩ := hq
  have ht : pgT q = pgT p := by rw [← pgT_Z q, hz, pgT_Z]
  have hr : rendF q = (0, 0) := by
    rw [rend_form hm, ht, if_neg (by have := (rendF_0 h).2.1; omega)]
  refine ⟨hr, ?_⟩
  rw [prS_0 h, prS_0 (by rw [hr]), ht]
section
variable {ω : Amb}
theorem RenderForth_lawX (hω : ω.low = 0) (s : ByteArray) (h : Hp) (ht : PwTab h) (X : List PanicEntry → Hp → Prop) :
    CallX Tryz.prog ω n_pipewrightlaw_RenderForth [.string s] h (fun r h' => r = .bool true ∧ Keep (fun _ => False) h h') X := by
  refine C_pipewrightlaw_RenderForth ω _ h _ X ?_
  unfold W_pipewrightlaw_RenderForth
  refine CallX.use (renderBegun_law hω h ht) ?_
  rintro _ h1 ⟨rfl, k1⟩
  rw [asB_bool]
  refine cond_f rfl ?_
  rw [asS_str]
  refine cond_c (fun _ => ⟨rfl, k1⟩) (fun hc => ?_)
  have hs : s.size ≤ 12000 := by
    have := of_decide_eq_false hc
    omega
  refine CallX.use (Parse_law s h1) ?_
  rintro _ h2 ⟨res, hps, hres, k2⟩
  have k02 := k1.trans k2
  refine two_res hres fun h3 v c a k3 z3 hA3 hB3 hg3 => ?_
  have k03 := k02.trans k3
  simp only [Array.size_push]
  refine lx hB3 (j := 0) rfl ?_
  rw [asK_int]
  refine cond_c (fun hc => ⟨trivial, k03⟩) (fun hc => ?_)
  have hc0 : c = 0 := by simpa using hc
  obtain ⟨p, rfl, hsg⟩ : ∃ p, res = .ok p ∧ SgS h3 v p := by
    cases res with
    | ok p => exact ⟨p, rfl, hg3.2.2⟩
    | error x => exact absurd (hg3.1.symm.trans hc0) (hps.err hs).1
  obtain ⟨hsm, n, hn⟩ := psO_ok hps
  refine ⟨_, cellsH_blk hA3 rfl, ?_⟩
  refine CallX.use (Print_law hω p hsm (.agg #[v]) h3 ⟨v, rfl, hsg⟩ (ht.more k03)) ?_
  rintro _ h4 ⟨rfl, k4⟩
  have k04 := k03.trans k4
  rw [printV_eq, tup2, asA_agg]
  refine ⟨rfl, flt_one _ _, storeK_local (cs := flt (rendF p).1 (rendF p).2) rfl ?_⟩
  have hf5 := hp_push_new (h := h4) (o := .cells (flt (rendF p).1 (rendF p).2).toArray 28 (0, 0))
  have k5 := Keep.push (S := fun _ => False) h4 (.cells (flt (rendF p).1 (rendF p).2).toArray 28 (0, 0))
  generalize h4.push (.cells (flt (rendF p).1 (rendF p).2).toArray 28 (0, 0)) = h5 at *
  have k05 := k04.trans k5
  refine lx hf5 (j := 0) rfl ?_
  rw [asK_int]
  refine cond_c (fun hc => ?_) (fun hc => ?_)
  · have hr : rendF p = (1, -1) := by
      rw [rend_form hn] at hc ⊢
      split
      · rfl
      · rename_i hh
        rw [if_neg hh] at hc
        cases hc
    refine ⟨fun t h' => t = .bool true ∧ Keep (fun _ => False) h h', ?_, fun t _ h' ht => ht⟩
    refine lx hf5 (j := 0) rfl ?_
    rw [asK_int, hr]
    refine cond_t rfl ?_
    refine lx hf5 (j := 1) rfl ?_
    rw [asK_int, hr]
    exact ⟨rfl, k05⟩
  have hr : (rendF p).1 = 0 := by simpa using hc
  obtain ⟨q, hq, hz⟩ := print_PsO hr
  refine CallX.use (Parse_law (prS p) h5) ?_
  rintro _ h6 ⟨res, hps2, hres2, k6⟩
  obtain rfl := hps2.same hq
  refine two_res' hres2 fun h7 v2 c2 a2 k7 z7 hA7 hB7 hg7 => ?_
  obtain ⟨rfl, rfl, hsg7⟩ := hg7
  have k07 := (k05.trans k6).trans k7
  obtain ⟨hsm2, hn2⟩ := psO_ok hq
  refine ⟨_, cellsH_blk hA7 rfl, ?_⟩
  refine CallX.use (Print_law hω q hsm2 (.agg #[v2]) h7 ⟨v2, rfl, hsg7⟩ (ht.more k07)) ?_
  rintro _ h8 ⟨rfl, k8⟩
  have hB8 := k8.get hB7 (by simp)
  obtain ⟨hr2, hpr⟩ := same_rend hr hn2 hz
  rw [printV_eq, tup2, asA_agg]
  refine ⟨rfl, flt_one _ _, storeK_local (cs := flt (rendF q).1 (rendF q).2) rfl ?_⟩
  have hf9 := hp_push_new (h := h8) (o := .cells (flt (rendF q).1 (rendF q).2).toArray 28 (0, 0))
  have k9 := Keep.push (S := fun _ => False) h8 (.cells (flt (rendF q).1 (rendF q).2).toArray 28 (0, 0))
  generalize h8.push (.cells (flt (rendF q).1 (rendF q).2).toArray 28 (0, 0)) = h9 at *
  have hB9 := k9.get hB8 (by simp)
  refine ⟨fun t h' => t = .bool true ∧ Keep (fun _ => False) h h', ?_, fun t _ h' ht => ht⟩
  refine lx hB9 (j := 0) rfl ?_
  rw [asK_int]
  refine cond_t rfl ?_
  refine lx hf9 (j := 0) rfl ?_
  rw [asK_int, hr2]
  refine cond_t rfl ?_
  rw [asS_str, asS_str, hpr]
  exact ⟨by simp, (k07.trans k8).trans k9⟩
end
end Go.Proofs.YtkeeboomikkojaaGreatDoor
