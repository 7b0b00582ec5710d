/- Faults in words: Tell. -/
import Derived.Test.YtfpedcmempljlaaDoorO8
namespace Go.Proofs.YtfpedcmempljlaaDoor
open Go Go.Sx Go.Sx.Or Go.Proofs.YtfpedcmempljlaaDoor.Sx
theorem var_more {P : Program} {h h' : Hp} (k : Keep (fun _ => False) h h') {ω : Amb} {d : Nat} {nm : String} {cs : Array Value} (hv : (W ω h d).var? P nm = some cs) : (W ω h' d).var? P nm = some cs := by
  unfold World.var? at hv ⊢
  rw [Option.bind_eq_some_iff] at hv ⊢
  obtain ⟨g, hg, hm⟩ := hv
  refine ⟨g, hg, ?_⟩
  have e1 : (W ω h d).heap = h := rfl
  have e2 : (W ω h' d).heap = h' := rfl
  rw [e1] at hm
  rw [e2]
  split at hm
  · rename_i c t f hb
    rw [k.get hb (by simp)]
    exact hm
  · cases hm
theorem PwTab.more {h h' : Hp} (t : PwTab h) (k : Keep (fun _ => False) h h') : PwTab h' := by
  intro ω d
  have := t ω d
  unfold Lib.TabIs at this ⊢
  exact var_more k this

section
variable {ω : Amb}
theorem Tell_law {f : Ft} (s : ByteArray) (h : Hp) (ht : SpTab h) (hp : PwTab h) (X : List PanicEntry → Hp → Prop) :
    CallX Tryd.prog ω n_text_Tell [.string s, .agg (fl f).toArray] h (fun r h' => TeRes s f r ∧ Keep (fun _ => False) h h') X := by
  refine C_text_Tell ω _ _ h _ X ?_
  unfold W_text_Tell
  have hf0 : (Array.push h (.cells (Value.cells (.agg (fl f).toArray)) 26 (0, 0)))[h.size]? = some (.cells (fl f).toArray 26 (0, 0)) := hp_push_new
  have k0 := Keep.push (S := fun _ => False) h (.cells (Value.cells (.agg (fl f).toArray)) 26 (0, 0))
  generalize Array.push h (.cells (Value.cells (.agg (fl f).toArray)) 26 (0, 0)) = h0 at *
  have hg1 : (Array.push h0 (.cells #[(.int .i64 0), (.int .i64 0)] 26 (0, 0)))[h0.size]? = some (.cells (fl (0, 0)).toArray 26 (0, 0)) := hp_push_new
  have kp1 := Keep.push (S := fun _ => False) h0 (.cells #[(.int .i64 0), (.int .i64 0)] 26 (0, 0))
  have hG : h.size ≤ h0.size := k0.size
  generalize Array.push h0 (.cells #[(.int .i64 0), (.int .i64 0)] 26 (0, 0)) = h1 at *
  have hf1 := kp1.get hf0 (by simp)
  have k1 := k0.trans kp1
  refine lx hf1 rfl ?_
  refine CallX.use (Place_law s f.2 h1) ?_
  rintro _ h2 ⟨k2, line, col, code, fat, rfl, hpo⟩
  have he := hpo.eq
  rw [tup3, asA_agg]
  refine ⟨rfl, flt_one _ _, storeK_local (cs := flt code fat) rfl ?_⟩
  have hb3 := hp_push_new (h := h2) (o := .cells (flt code fat).toArray 26 (0, 0))
  have kp3 := Keep.push (S := fun _ => False) h2 (.cells (flt code fat).toArray 26 (0, 0))
  have k13 := k2.trans kp3
  generalize h2.push (.cells (flt code fat).toArray 26 (0, 0)) = h3 at *
  have hf3 := k13.get hf1 (by simp)
  have hg3 := k13.get hg1 (by simp)
  have k3 := k1.trans k13
  have hpl : (plF s f.2).1 = line ∧ (plF s f.2).2.1 = col ∧ (plF s f.2).2.2.1 = code ∧ (plF s f.2).2.2 = (code, fat) := by rw [← he]; exact ⟨rfl, rfl, rfl, rfl⟩
  have hlt := plF_lt s f.2
  rw [hpl.1, hpl.2.1] at hlt
  refine lx hb3 rfl ?_
  rw [asK_int]
  refine cond_c (fun hc => ?_) (fun hc => ?_)
  · have hne : code ≠ 0 := by simpa using hc
    refine ⟨_, cellsH_blk hb3 rfl, rfl, flt_one _ _, finF (cs := flt code fat) hg3 rfl rfl fun h4 k4 _ => ?_⟩
    refine ⟨?_, k3.newer (k4.mono fun b _ hb => .inr (by rw [hb]; exact hG))⟩
    rw [TeRes, tellF_a (by rw [hpl.2.2.1]; exact hne), hpl.2.2.2]
    rfl
  have hz : (plF s f.2).2.2.1 = 0 := by rw [hpl.2.2.1]; simpa using hc
  refine lx hf3 rfl ?_
  refine CallX.use (WordA_law f.1 h3 (ht.more k3)) ?_
  rintro _ h4 ⟨rfl, k4⟩
  have hg4 := k4.get hg3 (by simp)
  have k4' := k3.trans k4
  rw [asS_str]
  refine cond_c (fun hc => ?_) (fun hc => ?_)
  · refine ⟨rfl, fl_one (16, -1), finF (cs := fl (16, -1)) hg4 rfl rfl fun h5 k5 _ => ?_⟩
    refine ⟨?_, k4'.newer (k5.mono fun b _ hb => .inr (by rw [hb]; exact hG))⟩
    rw [TeRes, tellF_b hz hc]
    rfl
  · have ht4 := hp.more (k3.trans k4)
    refine CallX.use (Itoa_law line (by omega) (by omega) h4 ht4) ?_
    rintro _ h5 ⟨rfl, k5⟩
    have l1 := itB_len hlt.1 hlt.2.1
    have l2 := itB_len hlt.2.2.1 hlt.2.2.2
    have l3 := wd_small f.1
    rw [asS_str]
    refine ⟨by simp only [ByteArray.size, Array.size, List.length] at *; omega, ?_⟩
    refine CallX.use (Itoa_law col (by omega) (by omega) h5 (hp.more ((k3.trans k4).trans k5))) ?_
    rintro _ h6 ⟨rfl, k6⟩
    have hg6 := (k5.trans k6).get hg4 (by simp)
    have c1 : colonB.size = 1 := rfl
    have c2 : blankB.size = 1 := rfl
    have e1 : (itB line ++ (⟨#[58]⟩ : ByteArray)).size = (itB line).size + 1 := by rw [app_size]; rfl
    have e2 : ((itB line ++ (⟨#[58]⟩ : ByteArray)) ++ itB col).size = (itB line).size + 1 + (itB col).size := by rw [app_size, e1]
    have e3 : (((itB line ++ (⟨#[58]⟩ : ByteArray)) ++ itB col) ++ (⟨#[32]⟩ : ByteArray)).size = (itB line).size + 1 + (itB col).size + 1 := by rw [app_size, e2]; rfl
    rw [asS_str, e1, e2]
    refine ⟨by omega, by show _ + 1 ≤ _; omega, ?_⟩
    rw [asS_str, e3]
    refine ⟨by omega, rfl, fl_one (0, 0), finF (cs := fl (0, 0)) hg6 rfl rfl fun h7 k7 _ => ?_⟩
    refine ⟨?_, ((k4'.trans k5).trans k6).newer (k7.mono fun b _ hb => .inr (by rw [hb]; exact hG))⟩
    rw [TeRes, tellF_c hz hc, tellS, hpl.1, hpl.2.1]
    rfl
theorem RTell_law {f : Ft} (s : ByteArray) (h : Hp) (hp : PwTab h) (X : List PanicEntry → Hp → Prop) :
    CallX Tryd.prog ω n_pipewrightref_Tell [.string s, .agg (fl f).toArray] h (fun r h' => TeRes s f r ∧ Keep (fun _ => False) h h') X := by
  refine C_pipewrightref_Tell ω _ _ h _ X ?_
  unfold W_pipewrightref_Tell
  have hf0 : (Array.push h (.cells (Value.cells (.agg (fl f).toArray)) 26 (0, 0)))[h.size]? = some (.cells (fl f).toArray 26 (0, 0)) := hp_push_new
  have k0 := Keep.push (S := fun _ => False) h (.cells (Value.cells (.agg (fl f).toArray)) 26 (0, 0))
  generalize Array.push h (.cells (Value.cells (.agg (fl f).toArray)) 26 (0, 0)) = h0 at *
  have hg1 : (Array.push h0 (.cells #[(.int .i64 0), (.int .i64 0)] 26 (0, 0)))[h0.size]? = some (.cells (fl (0, 0)).toArray 26 (0, 0)) := hp_push_new
  have kp1 := Keep.push (S := fun _ => False) h0 (.cells #[(.int .i64 0), (.int .i64 0)] 26 (0, 0))
  have hG : h.size ≤ h0.size := k0.size
  generalize Array.push h0 (.cells #[(.int .i64 0), (.int .i64 0)] 26 (0, 0)) = h1 at *
  have hf1 := kp1.get hf0 (by simp)
  have k1 := k0.trans kp1
  refine lx hf1 rfl ?_
  refine CallX.use (RPlace_law s f.2 h1) ?_
  rintro _ h2 ⟨k2, line, col, code, fat, rfl, hpo⟩
  have he := hpo.eq
  rw [tup3, asA_agg]
  refine ⟨rfl, flt_one _ _, storeK_local (cs := flt code fat) rfl ?_⟩
  have hb3 := hp_push_new (h := h2) (o := .cells (flt code fat).toArray 26 (0, 0))
  have kp3 := Keep.push (S := fun _ => False) h2 (.cells (flt code fat).toArray 26 (0, 0))
  have k13 := k2.trans kp3
  generalize h2.push (.cells (flt code fat).toArray 26 (0, 0)) = h3 at *
  have hf3 := k13.get hf1 (by simp)
  have hg3 := k13.get hg1 (by simp)
  have k3 := k1.trans k13
  have hpl : (plF s f.2).1 = line ∧ (plF s f.2).2.1 = col ∧ (plF s f.2).2.2.1 = code ∧ (plF s f.2).2.2 = (code, fat) := by rw [← he]; exact ⟨rfl, rfl, rfl, rfl⟩
  have hlt := plF_lt s f.2
  rw [hpl.1, hpl.2.1] at hlt
  refine lx hb3 rfl ?_
  rw [asK_int]
  refine cond_c (fun hc => ?_) (fun hc => ?_)
  · have hne : code ≠ 0 := by simpa using hc
    refine ⟨_, cellsH_blk hb3 rfl, rfl, flt_one _ _, finF (cs := flt code fat) hg3 rfl rfl fun h4 k4 _ => ?_⟩
    refine ⟨?_, k3.newer (k4.mono fun b _ hb => .inr (by rw [hb]; exact hG))⟩
    rw [TeRes, tellF_a (by rw [hpl.2.2.1]; exact hne), hpl.2.2.2]
    rfl
  have hz : (plF s f.2).2.2.1 = 0 := by rw [hpl.2.2.1]; simpa using hc
  refine lx hf3 rfl ?_
  refine CallX.use (RWord_law f.1 h3) ?_
  rintro _ h4 ⟨rfl, k4⟩
  have hg4 := k4.get hg3 (by simp)
  have k4' := k3.trans k4
  rw [asS_str]
  refine cond_c (fun hc => ?_) (fun hc => ?_)
  · refine CallX.use (F_law 16 (-1) h4) ?_
    rintro _ h5' ⟨rfl, k5'⟩
    rw [asA_agg]
    have hg5 := k5'.get hg4 (by simp)
    have k4' := k4'.trans k5'
    refine ⟨rfl, fl_one (16, -1), finF (cs := fl (16, -1)) hg5 rfl rfl fun h5 k5 _ => ?_⟩
    refine ⟨?_, k4'.newer (k5.mono fun b _ hb => .inr (by rw [hb]; exact hG))⟩
    rw [TeRes, tellF_b hz hc]
    rfl
  · have ht4 := hp.more (k3.trans k4)
    refine CallX.use (Itoa_law line (by omega) (by omega) h4 ht4) ?_
    rintro _ h5 ⟨rfl, k5⟩
    have l1 := itB_len hlt.1 hlt.2.1
    have l2 := itB_len hlt.2.2.1 hlt.2.2.2
    have l3 := wd_small f.1
    rw [asS_str]
    refine ⟨by simp only [ByteArray.size, Array.size, List.length] at *; omega, ?_⟩
    refine CallX.use (Itoa_law col (by omega) (by omega) h5 (hp.more ((k3.trans k4).trans k5))) ?_
    rintro _ h6 ⟨rfl, k6⟩
    have hg6 := (k5.trans k6).get hg4 (by simp)
    have c1 : colonB.size = 1 := rfl
    have c2 : blankB.size = 1 := rfl
    have e1 : (itB line ++ (⟨#[58]⟩ : ByteArray)).size = (itB line).size + 1 := by rw [app_size]; rfl
    have e2 : ((itB line ++ (⟨#[58]⟩ : ByteArray)) ++ itB col).size = (itB line).size + 1 + (itB col).size := by rw [app_size, e1]
    have e3 : (((itB line ++ (⟨#[58]⟩ : ByteArray)) ++ itB col) ++ (⟨#[32]⟩ : ByteArray)).size = (itB line).size + 1 + (itB col).size + 1 := by rw [app_size, e2]; rfl
    rw [asS_str, e1, e2]
    refine ⟨by omega, by show _ + 1 ≤ _; omega, ?_⟩
    rw [asS_str, e3]
    refine ⟨by omega, rfl, fl_one (0, 0), finF (cs := fl (0, 0)) hg6 rfl rfl fun h7 k7 _ => ?_⟩
    refine ⟨?_, ((k4'.trans k5).trans k6).newer (k7.mono fun b _ hb => .inr (by rw [hb]; exact hG))⟩
    rw [TeRes, tellF_c hz hc, tellS, hpl.1, hpl.2.1]
    rfl
end
end Go.Proofs.YtfpedcmempljlaaDoor
