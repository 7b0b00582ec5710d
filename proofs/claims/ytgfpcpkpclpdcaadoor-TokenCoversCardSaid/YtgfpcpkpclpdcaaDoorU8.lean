/- TokenScans, TokenCovers, TokenJoins: by the code. -/
import Derived.Test.YtgfpcpkpclpdcaaDoorU7
namespace Go.Proofs.YtgfpcpkpclpdcaaDoor
open Go Go.Sx Go.Sx.Tk Go.Proofs.YtgfpcpkpclpdcaaDoor.Sx

def begS : ByteArray := ⟨#[108, 101, 116, 32, 120, 49, 61, 49, 48, 35, 97, 10, 59]⟩
def begT : List Tok := [⟨1, 0, ⟨#[108, 101, 116]⟩, 0⟩, ⟨2, 4, ⟨#[120, 49]⟩, 0⟩, ⟨4, 6, ⟨#[61]⟩, 0⟩, ⟨3, 7, ⟨#[49, 48]⟩, 10⟩, ⟨4, 12, ⟨#[59]⟩, 0⟩]
set_option maxRecDepth 10000 in
theorem begSc : Sc (bytesOf begS) 0 (.ok begT) := by
  refine Scans.tok (c := 108) (r := [101, 116, 32, 120, 49, 61, 49, 48, 35, 97, 10, 59]) (kind := 1) (len := 3) (n := 0) rfl (by rfl) ?_
  refine Scans.tok (c := 120) (r := [49, 61, 49, 48, 35, 97, 10, 59]) (kind := 2) (len := 2) (n := 0) rfl (by rfl) ?_
  refine Scans.tok (c := 61) (r := [49, 48, 35, 97, 10, 59]) (kind := 4) (len := 1) (n := 0) rfl (by rfl) ?_
  refine Scans.tok (c := 49) (r := [48, 35, 97, 10, 59]) (kind := 3) (len := 2) (n := 10) rfl (by rfl) ?_
  refine Scans.tok (c := 59) (r := []) (kind := 4) (len := 1) (n := 0) rfl (by rfl) ?_
  exact Scans.stop rfl
theorem begOut : Out begS begT 0 0 := .inr (.inl ⟨by decide, begSc, rfl, rfl⟩)
theorem flt_blk {h h' : Hp} {e a : Int} (hk : Keep (fun _ => False) (h.push (.cells (flt e a).toArray 25 (0, 0))) h') : h'[h.size]? = some (.cells (flt e a).toArray 25 (0, 0)) := hk.get hp_push_new (by simp)

section
variable {ω : Amb}
theorem Begun_law (h : Hp) (X : List PanicEntry → Hp → Prop) : CallX Tryd.prog ω n_pipewrightlaw_tokenBegun [] h (fun r h' => r = .bool true ∧ Keep (fun _ => False) h h') X := by
  refine C_pipewrightlaw_tokenBegun ω h _ X ?_
  unfold W_pipewrightlaw_tokenBegun
  refine CallX.use (Scan_law begS h) ?_
  intro _ h1 hs
  obtain ⟨ts, v, e, a, rfl, k1, ho, hsl⟩ := hs.out
  obtain ⟨rfl, rfl, rfl⟩ := begOut.same ho
  simp only [asT_tup, t2, asO_some, asA_agg]
  refine ⟨rfl, flt_one _ _, storeK_local (cs := flt 0 0) rfl ?_⟩
  have k2 := Keep.push (S := fun _ => False) h1 (.cells (flt 0 0).toArray 25 (0, 0))
  have hb2 := hp_push_new (h := h1) (o := .cells (flt 0 0).toArray 25 (0, 0))
  have hsl2 := hsl.keep k2
  generalize h1.push (.cells (flt 0 0).toArray 25 (0, 0)) = h2 at *
  refine ⟨fun r h' => r = .bool true ∧ Keep (fun _ => False) h h', ?_, fun _ _ _ hj => hj⟩
  refine lx hb2 rfl ?_
  rw [asK_int]
  refine cond_t rfl ?_
  refine hsl2.sl fun _ _ => ?_
  refine cond_t rfl ?_
  refine hsl2.rdTa (i := 3) (o := 3) Tok.len rfl rfl fun _ _ => ?_
  rw [asK_int]
  refine cond_t rfl ?_
  refine hsl2.rdTa (i := 4) (o := 1) Tok.len rfl rfl fun _ _ => ?_
  rw [asK_int]
  refine cond_t rfl ?_
  refine CallX.use (Word_law _ h2) ?_
  rintro _ _ ⟨rfl, hh⟩
  rw [hh, asB_bool]
  refine cond_t (by decide) ?_
  refine CallX.use (Name_law _ (by decide) h2) ?_
  rintro _ _ ⟨rfl, hh⟩
  rw [hh, asB_bool]
  exact ⟨by congr 1, k1.trans k2⟩

theorem Scans_law (s : ByteArray) (h : Hp) (X : List PanicEntry → Hp → Prop) : CallX Tryd.prog ω n_pipewrightlaw_TokenScans [.string s] h (fun r h' => r = .bool true ∧ Keep (fun _ => False) h h') X := by
  refine C_pipewrightlaw_TokenScans ω _ h _ X ?_
  unfold W_pipewrightlaw_TokenScans
  refine CallX.use (Begun_law h) ?_
  rintro _ h1 ⟨rfl, k1⟩
  rw [asB_bool]
  refine cond_f rfl ?_
  rw [asS_str]
  refine cond_c (fun _ => ⟨rfl, k1⟩) (fun hc => ?_)
  have hs20 : s.size ≤ 20000 := by have := of_decide_eq_false hc; omega
  refine CallX.use (Scan_law s h1) ?_
  intro _ h2 hs2
  obtain ⟨ts, v, e, a, rfl, k2, ho2, hsl2⟩ := hs2.out
  simp only [asT_tup, t2, asO_some, asA_agg]
  refine ⟨rfl, flt_one _ _, storeK_local (cs := flt e a) rfl ?_⟩
  have kp := Keep.push (S := fun _ => False) h2 (.cells (flt e a).toArray 25 (0, 0))
  have hb3 := hp_push_new (h := h2) (o := .cells (flt e a).toArray 25 (0, 0))
  have hsl3 := hsl2.keep kp
  have k3 := (k1.trans k2).trans kp
  generalize h2.push (.cells (flt e a).toArray 25 (0, 0)) = h3 at *
  generalize h2.size = L2 at *
  refine CallX.use (RScan_law s h3) ?_
  intro _ h4 hs4
  obtain ⟨us, v', e', a', rfl, k4, ho4, hsl4⟩ := hs4.out
  obtain ⟨rfl, rfl, rfl⟩ := ho2.same ho4
  simp only [asT_tup, t2, asO_some, asA_agg]
  refine ⟨rfl, flt_one _ _, storeK_local (cs := flt e a) rfl ?_⟩
  have kp2 := Keep.push (S := fun _ => False) h4 (.cells (flt e a).toArray 25 (0, 0))
  have hb5 := hp_push_new (h := h4) (o := .cells (flt e a).toArray 25 (0, 0))
  have hb5' := (k4.trans kp2).get hb3 (by simp)
  have hsl5 := hsl3.keep (k4.trans kp2)
  have hsl5' := hsl4.keep kp2
  have k5 := (k3.trans k4).trans kp2
  generalize h4.push (.cells (flt e a).toArray 25 (0, 0)) = h5 at *
  refine ⟨fun r h' => r = .bool true ∧ Keep (fun _ => False) h h', ?_, fun _ _ _ hj => hj⟩
  refine ⟨flt e a, cellsH_blk hb5' rfl, flt e a, cellsH_blk hb5 rfl, ?_⟩
  simp only [flt, Sx.ld]
  refine cond_t (by simp) ?_
  have hlen := ho2.len
  refine CallX.use (SameTokens_law hsl5 hsl5' (by omega)) ?_
  rintro _ _ ⟨rfl, hh⟩
  rw [hh, asB_bool]
  refine cond_t rfl ?_
  refine CallX.use (Word_law s h5) ?_
  rintro _ _ ⟨rfl, hh⟩
  rw [hh]
  refine CallX.use (IsWord_law s h5) ?_
  rintro _ h6 ⟨rfl, k6⟩
  rw [asB_bool, asB_bool]
  refine cond_t (by simp) ?_
  refine CallX.use (Name_law s hs20 h6) ?_
  rintro _ _ ⟨rfl, hh⟩
  rw [hh]
  refine CallX.use (IsName_law s hs20 h6) ?_
  rintro _ h7 ⟨rfl, k7⟩
  rw [asB_bool, asB_bool]
  exact ⟨by simp, (k5.trans k6).trans k7⟩
end
end Go.Proofs.YtgfpcpkpclpdcaaDoor
