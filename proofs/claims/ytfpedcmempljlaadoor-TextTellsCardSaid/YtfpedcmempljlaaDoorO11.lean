/- Faults in words: the law TextTells. -/
import Derived.Test.YtfpedcmempljlaaDoorO10
namespace Go.Proofs.YtfpedcmempljlaaDoor
open Go Go.Sx Go.Sx.Or Go.Proofs.YtfpedcmempljlaaDoor.Sx

/-- faults handed in -/
structure FIn (h : Hp) (v : Value) (L : List Ft) : Prop where
  at_ : FAt h v L
  form : (v = .slice none 0 0 ∧ L = []) ∨ ∃ a c, v = .slice (some a) L.length c
set_option maxRecDepth 100000 in
theorem FO.all {h : Hp} {base : Nat} {v x : Value} {L2 : List Ft} (ho : FO h base v []) (hx : FIn h x L2) (hl : L2.length ≤ 1000000) (hb : base ≤ h.size) {K : Value → Hp → Prop}
    (hk : ∀ w h', FO h' base w L2 → Keep (fun k => v.ownBlock = some k) h h' → K w h') : appK Tryd.prog 22 h v x K := by
  refine appK_of (bt := 16) (sz := 2) (el := 26) (by kernel_rfl) ho (m := L2.length) (news := L2.flatMap fl) ⟨flat_len fl_len _, ?_⟩ (fun u hu => ?_) (by simp; omega) (by simp; omega) hb fun w h' ho' hg _ hw => hk w h' ?_ (Keep.grown hg fun k hk _ => hk)
  · rcases hx.form with ⟨rfl, rfl⟩ | ⟨a, c, rfl⟩
    · exact .inl ⟨rfl, rfl⟩
    · refine .inr ⟨a, c, rfl, fun j u hu => ?_⟩
      rcases hx.at_.2 with ⟨h0, _⟩ | ⟨b, o, cap, hv, hc⟩
      · rw [List.eq_nil_of_length_eq_zero h0] at hu
        simp at hu
      · cases hv
        rw [addr_add]
        exact hc j u hu
  · obtain ⟨e, _, h2⟩ := List.mem_flatMap.1 hu
    exact fl_one e u h2
  · simpa [FO] using ho'

section
variable {ω : Amb}
set_option maxRecDepth 100000 in
theorem Tells_law (hω : ω.low = 0) {h : Hp} {v : Value} {L : List Ft} {f : Ft} (s : ByteArray) (hs : FIn h v L) (ht : SpTab h) (hp : PwTab h) (X : List PanicEntry → Hp → Prop) :
    CallX Tryd.prog ω n_pipewrightlaw_TextTells [.string s, .agg (fl f).toArray, v] h (fun r h' => r = .bool true ∧ Keep (fun _ => False) h h') X := by
  refine C_pipewrightlaw_TextTells ω _ _ _ h _ X ?_
  unfold W_pipewrightlaw_TextTells
  have hf0 : (Array.push h (.cells (Value.cells (.agg (fl f).toArray)) 26 (0, 0)))[h.size]? = some (.cells (fl f).toArray 26 (0, 0)) := hp_push_new
  have k0 := Keep.push (S := fun _ => False) h (.cells (Value.cells (.agg (fl f).toArray)) 26 (0, 0))
  generalize Array.push h (.cells (Value.cells (.agg (fl f).toArray)) 26 (0, 0)) = h0 at *
  refine CallX.use (Begun_law h0 (ht.more k0)) ?_
  rintro _ h1 ⟨rfl, k1⟩
  rw [asB_bool]
  refine cond_f rfl ?_
  have hf1 := k1.get hf0 (by simp)
  have k01 := k0.trans k1
  have hs1 : FIn h1 v L := ⟨SlAt.keep hs.at_ k01, hs.form⟩
  refine ⟨decide (20000 < s.size ∨ 300 < L.length), ?_, fun _ => cond_c (fun hc => ⟨rfl, k01⟩) (fun hc => ?_)⟩
  · rw [asS_str]
    refine cond_c (fun hc => ?_) (fun hc => ?_)
    · have := of_decide_eq_true hc
      rw [decide_eq_true (show 20000 < s.size ∨ 300 < L.length by omega)]
      exact ⟨rfl, rfl⟩
    · have := of_decide_eq_false hc
      refine FAt.sl hs1.at_ fun _ _ => ⟨?_, rfl⟩
      congr 1
      rw [Bool.eq_iff_iff]
      simp
      omega
  have hc := of_decide_eq_false hc
  have hl : L.length ≤ 300 := by omega
  have hnil : FO h1 h1.size (.slice none 0 0) [] := OwnH.nil
  refine FO.all hnil hs1 (by omega) (Nat.le_refl _) fun own h2 ho2 k2 => ?_
  have k2 : Keep (fun _ => False) h1 h2 := k2.mono fun b _ hb => by simp [Value.ownBlock] at hb
  have k02 := k01.trans k2
  have hi2 := FO.at_ ho2
  -- Order
  refine CallX.use (Order_law hi2 (by omega)) ?_
  rintro r3 h3 ⟨ho3, k3⟩
  have k03 := k02.trans k3
  -- All
  refine CallX.use (All_law hω s (SlAt.keep hi2 k3) hl (ht.more k03) (hp.more k03)) ?_
  rintro _ h4 ⟨rfl, k4⟩
  rw [tup2, asA_agg]
  refine ⟨rfl, fl_one _, storeK_local (cs := fl (allF s (ordL L) nilB).2) rfl ?_⟩
  have hb5 := hp_push_new (h := h4) (o := .cells (fl (allF s (ordL L) nilB).2).toArray 26 (0, 0))
  have kp5 := Keep.push (S := fun _ => False) h4 (.cells (fl (allF s (ordL L) nilB).2).toArray 26 (0, 0))
  have k35 := k4.trans kp5
  generalize h4.push (.cells (fl (allF s (ordL L) nilB).2).toArray 26 (0, 0)) = h5 at *
  have k15 := (k2.trans k3).trans k35
  have hf5 := k15.get hf1 (by simp)
  have k05 := k03.trans k35
  refine ⟨_, cellsH_blk hf5 rfl, ?_⟩
  -- Tell
  refine CallX.use (Tell_law s h5 (ht.more k05) (hp.more k05)) ?_
  rintro _ h6 ⟨rfl, k6⟩
  rw [tup2, asA_agg]
  refine ⟨rfl, fl_one _, storeK_local (cs := fl (tellF s f).2) rfl ?_⟩
  have hb7 := hp_push_new (h := h6) (o := .cells (fl (tellF s f).2).toArray 26 (0, 0))
  have kp7 := Keep.push (S := fun _ => False) h6 (.cells (fl (tellF s f).2).toArray 26 (0, 0))
  have k57 := k6.trans kp7
  generalize h6.push (.cells (fl (tellF s f).2).toArray 26 (0, 0)) = h7 at *
  have hf7 := k57.get hf5 (by simp)
  have k07 := k05.trans k57
  refine ⟨_, cellsH_blk hf7 rfl, ?_⟩
  refine CallX.use (RTell_law s h7 (hp.more k07)) ?_
  rintro _ h8 ⟨rfl, k8⟩
  rw [tup2, asA_agg]
  refine ⟨rfl, fl_one _, storeK_local (cs := fl (tellF s f).2) rfl ?_⟩
  have hb9 := hp_push_new (h := h8) (o := .cells (fl (tellF s f).2).toArray 26 (0, 0))
  have kp9 := Keep.push (S := fun _ => False) h8 (.cells (fl (tellF s f).2).toArray 26 (0, 0))
  have k79 := k8.trans kp9
  generalize h8.push (.cells (fl (tellF s f).2).toArray 26 (0, 0)) = h9 at *
  have k09 := k07.trans k79
  -- the document's All
  refine CallX.use (RAll_law s (SlAt.keep hs.at_ k09) hl (hp.more k09)) ?_
  rintro _ h10 ⟨rfl, k10⟩
  rw [tup2, asA_agg]
  refine ⟨rfl, fl_one _, storeK_local (cs := fl (allF s (ordL L) nilB).2) rfl ?_⟩
  have hb11 := hp_push_new (h := h10) (o := .cells (fl (allF s (ordL L) nilB).2).toArray 26 (0, 0))
  have kp11 := Keep.push (S := fun _ => False) h10 (.cells (fl (allF s (ordL L) nilB).2).toArray 26 (0, 0))
  have k911 := k10.trans kp11
  generalize h10.push (.cells (fl (allF s (ordL L) nilB).2).toArray 26 (0, 0)) = h11 at *
  have k011 := k09.trans k911
  have k511 := (k57.trans k79).trans k911
  have hi11 := SlAt.keep hi2 ((k3.trans k35).trans k511)
  have ho11 := OwnH.more ho3 (k35.trans k511)
  have hf11 := k511.get hf5 (by simp)
  have hb5' := k511.get hb5 (by simp)
  have hb7' := (k79.trans k911).get hb7 (by simp)
  have hb9' := k911.get hb9 (by simp)
  have hol := ordL_len L
  refine ⟨fun r h' => r = .bool true ∧ Keep (fun _ => False) h h', ?_, fun _ _ _ hj => hj⟩
  refine CallX.use (SameF_law hi11 (SlAt.keep hs.at_ k011) (by omega)) ?_
  rintro _ _ ⟨rfl, hh⟩
  rw [hh, asB_bool]
  refine cond_t rfl ?_
  refine CallX.use (ROrder_law (SlAt.keep hs.at_ k011) (by omega)) ?_
  rintro r12 h12 ⟨ho12, k12⟩
  refine CallX.use (SameF_law (OwnH.more ho11 k12).slAt ho12.at_ (by omega)) ?_
  rintro _ _ ⟨rfl, hh⟩
  rw [hh, asB_bool]
  refine cond_t rfl ?_
  have hf12 := k12.get hf11 (by simp)
  have k012 := k011.trans k12
  refine lx hf12 rfl ?_
  refine lx hf12 rfl ?_
  refine CallX.use (WordA_law f.1 h12 (ht.more k012)) ?_
  rintro _ h13 ⟨rfl, k13⟩
  refine ⟨lx' (k13.get hf12 (by simp)) rfl, ?_⟩
  refine CallX.use (RWord_law f.1 h13) ?_
  rintro _ h14 ⟨rfl, k14⟩
  have kk := (k12.trans k13).trans k14
  have hb5'' := kk.get hb5' (by simp)
  have hb7'' := kk.get hb7' (by simp)
  have hb9'' := kk.get hb9' (by simp)
  have hb11'' := kk.get hb11 (by simp)
  rw [asS_str, asS_str]
  refine cond_t (beq_self_eq_true _) ?_
  rw [asS_str, asS_str]
  refine cond_t (beq_self_eq_true _) ?_
  refine ⟨_, cellsH_blk hb7'' rfl, _, cellsH_blk hb9'' rfl, ?_⟩
  show cond (pEq (tellF s f).2 (tellF s f).2) _ _
  refine cond_t (pEq_iff.2 rfl) ?_
  rw [asS_str, asS_str]
  refine cond_t (beq_self_eq_true _) ?_
  refine ⟨_, cellsH_blk hb5'' rfl, _, cellsH_blk hb11'' rfl, ?_⟩
  show Value.bool (pEq (allF s (ordL L) nilB).2 (allF s (ordL L) nilB).2) = .bool true ∧ _
  rw [pEq_iff.2 rfl]
  exact ⟨rfl, k011.trans kk⟩
end
end Go.Proofs.YtfpedcmempljlaaDoor
