/- RenderForth and RenderBack. -/
import Derived.Test.YtkeeboomikkojaaGreatDoorRf1
import Derived.Test.YtkeeboomikkojaaGreatDoorRy2
import Derived.Test.YtkeeboomikkojaaGreatDoorRi1
import Derived.Test.YtkeeboomikkojaaGreatDoorRn7
import Derived.Test.YtkeeboomikkojaaGreatDoorYl
namespace Go.Proofs.YtkeeboomikkojaaGreatDoor
open Go Go.Sx Go.Sx.Tk Go.Sx.Rn Go.Proofs.YtkeeboomikkojaaGreatDoor.Sx

theorem form_rend {p : List Sg} (h : (rendF p).1 = 0) : ∃ n, formP p = .ok n := by
  have h1 : (fltR (formP p)).1 = 0 := by
    unfold rendF at h
    split at h
    · assumption
    · exact h
  exact (formP_0 h1).2.2
theorem prS_0 {p : List Sg} (h : (rendF p).1 = 0) : prS p = bs (pgT p) := by
  unfold prS
  rw [if_pos h]
theorem prS_len {p : List Sg} (h : (rendF p).1 = 0) : (prS p).size ≤ 12000 := by
  rw [prS_0 h, ← bytes_len, bytes_bs]
  exact (rendF_0 h).2.1
theorem print_PsO {p : List Sg} (h : (rendF p).1 = 0) : ∃ q, PsO (prS p) (.ok q) ∧ sgsZ false q = sgsZ false p := by
  obtain ⟨n, hn⟩ := form_rend h
  obtain ⟨ts, q, h1, h2, h3⟩ := print_parse ((prS p).size : Int) hn
  refine ⟨q, ⟨ts, 0, 0, .inr (.inl ⟨prS_len h, ?_, rfl, rfl⟩), by rw [if_pos rfl, h2]⟩, h3⟩
  rw [prS_0 h, bytes_bs]
  exact h1
section
variable {ω : Amb}
theorem RenderBack_lawX (hω : ω.low = 0) (p : List Sg) (va : Value) (h : Hp) (hp : PgS h va p) (ht : PwTab h) (X : List PanicEntry → Hp → Prop) :
    CallX Tryz.prog ω n_pipewrightlaw_RenderBack [va] h (fun r h' => r = .bool true ∧ Keep (fun _ => False) h h') X := by
  obtain ⟨w, rfl, hs⟩ := hp
  refine C_pipewrightlaw_RenderBack ω _ h _ X ?_
  unfold W_pipewrightlaw_RenderBack
  simp only [show ∀ w : Value, Value.cells (.agg #[w]) = [w].toArray from fun _ => rfl]
  have hA0 := hp_push_new (h := h) (o := .cells [w].toArray 24 (0, 0))
  have k0 := Keep.push (S := fun _ => False) h (.cells [w].toArray 24 (0, 0))
  generalize h.push (.cells [w].toArray 24 (0, 0)) = h0 at *
  refine CallX.use (renderBegun_law hω h0 (ht.more k0)) ?_
  rintro _ h1 ⟨rfl, k1⟩
  have hA1 := k1.get hA0 (by simp)
  have k01 := k0.trans k1
  rw [asB_bool]
  refine cond_f rfl ?_
  refine ⟨_, cellsH_blk hA1 rfl, ?_⟩
  refine CallX.use (Great_law p (.agg #[w]) h1 ⟨w, rfl, hs.keep k01⟩) ?_
  rintro _ h2 ⟨g, rfl, k2, hg⟩
  have hA2 := k2.get hA1 (by simp)
  have k02 := k01.trans k2
  rw [asB_bool]
  refine cond_c (fun hc => ⟨trivial, k02⟩) (fun hc => ?_)
  have hsm := hg hc
  refine ⟨_, cellsH_blk hA2 rfl, ?_⟩
  refine CallX.use (Print_law hω p hsm (.agg #[w]) h2 ⟨w, rfl, hs.keep k02⟩ (ht.more k02)) ?_
  rintro _ h4 ⟨rfl, k4⟩
  have hA4 := k4.get hA2 (by simp)
  have k04 := k02.trans k4
  rw [printV_eq, tup2, asA_agg]
  refine ⟨rfl, flt_one _ _, storeK_local (cs := flt (rendF p).1 (rendF p).2) rfl ?_⟩
  have hf5 := hp_push_new (h := h4) (o := .cells (flt (rendF p).1 (rendF p).2).toArray 28 (0, 0))
  have k5 := Keep.push (S := fun _ => False) h4 (.cells (flt (rendF p).1 (rendF p).2).toArray 28 (0, 0))
  generalize h4.push (.cells (flt (rendF p).1 (rendF p).2).toArray 28 (0, 0)) = h5 at *
  have hA5 := k5.get hA4 (by simp)
  have k05 := k04.trans k5
  refine lx hf5 (j := 0) rfl ?_
  rw [asK_int]
  refine cond_c (fun hc => ?_) (fun hc => ?_)
  · refine ⟨_, cellsH_blk hA5 rfl, _, cellsH_blk hf5 rfl, ?_⟩
    refine CallX.use (Check_law hω p hsm (.agg #[w]) h5 ⟨w, rfl, hs.keep k05⟩ (ht.more k05)) ?_
    rintro _ h6 ⟨rfl, k6⟩
    refine ⟨cellsH_blk (k6.get hf5 (by simp)) rfl, ?_⟩
    rw [asA_agg]
    simp only [flt, List.getElem?_toArray, List.getElem?_cons_zero, List.getElem?_cons_succ, asO_some, asK_int]
    exact ⟨by simp, k05.trans k6⟩
  have hr : (rendF p).1 = 0 := by simpa using hc
  obtain ⟨q, hq, hz⟩ := print_PsO hr
  refine CallX.use (Parse_law (prS p) h5) ?_
  rintro _ h6 ⟨res, hps2, hres2, k6⟩
  obtain rfl := hps2.same hq
  refine two_res hres2 fun h7 v2 c2 a2 k7 z7 hA7 hB7 hg7 => ?_
  simp only [Array.size_push]
  obtain ⟨rfl, rfl, hsg7⟩ := hg7
  have k07 := (k05.trans k6).trans k7
  have hP7 := (k6.trans k7).get hA5 (by simp)
  refine ⟨fun t h' => t = .bool true ∧ Keep (fun _ => False) h h', ?_, fun t _ h' ht => ht⟩
  refine lx hB7 (j := 0) rfl ?_
  rw [asK_int]
  refine cond_t rfl ?_
  refine ⟨_, cellsH_blk hP7 rfl, _, cellsH_blk hA7 rfl, ?_⟩
  refine CallX.use (Same_law p q hsm.nps h7 _ _ ⟨w, rfl, hs.keep k07⟩ ⟨v2, rfl, hsg7⟩) ?_
  rintro _ h8 ⟨⟨b, rfl, hb⟩, k8⟩
  rw [asB_bool]
  obtain rfl : b = true := hb.2 hz.symm
  refine cond_t rfl ?_
  rw [asS_str]
  exact ⟨by rw [decide_eq_true (by have := prS_len hr; omega)], k07.trans k8⟩
end
end Go.Proofs.YtkeeboomikkojaaGreatDoor
