/- Statements as texts, as the document has them: the plain side. -/
import Derived.Test.YtkeeboomikkojaaGreatDoorRn5
namespace Go.Proofs.YtkeeboomikkojaaGreatDoor
open Go Go.Sx Go.Sx.Tk Go.Sx.Rn Go.Proofs.YtkeeboomikkojaaGreatDoor.Sx

end Go.Proofs.YtkeeboomikkojaaGreatDoor

namespace Go.Proofs.YtkeeboomikkojaaGreatDoor
open Go Go.Sx Go.Sx.Tk Go.Sx.Rn Go.Proofs.YtkeeboomikkojaaGreatDoor.Sx

section
variable {ω : Amb}
end
end Go.Proofs.YtkeeboomikkojaaGreatDoor

namespace Go.Proofs.YtkeeboomikkojaaGreatDoor
open Go Go.Sx Go.Sx.Tk Go.Sx.Rn Go.Proofs.YtkeeboomikkojaaGreatDoor.Sx

section
variable {ω : Amb}
end
end Go.Proofs.YtkeeboomikkojaaGreatDoor

namespace Go.Proofs.YtkeeboomikkojaaGreatDoor
open Go Go.Sx Go.Sx.Tk Go.Sx.Rn Go.Proofs.YtkeeboomikkojaaGreatDoor.Sx

theorem sgsF_ne : ∀ {p : List Sg} {i m : Int} {e : Int × Int}, m ≤ 300 → sgsF p i m = .error e → e.1 ≠ 0
  | [], _, _, _, _, h => by cases h
  | x :: r, i, m, e, hm, h => by
    unfold sgsF at h
    split at h
    · rename_i h0
      cases h
      exact h0
    · have hok := stsF_ok x.body m 1 hm
      rcases fr_cases (stsF x.body m 1) with ⟨n, hn⟩ | ⟨e', hn⟩
      · rw [hn] at h hok
        exact sgsF_ne hok.2 h
      · rw [hn] at h hok
        cases h
        exact hok
theorem formP_ne {p : List Sg} {e : Int × Int} (h : formP p = .error e) : e.1 ≠ 0 := by
  unfold formP at h
  split at h
  · cases h
    decide
  split at h
  · cases h
    decide
  exact sgsF_ne (by decide) h
theorem formP_0 {p : List Sg} (h : (fltR (formP p)).1 = 0) : PgOk p ∧ fltR (formP p) = (0, 0) ∧ ∃ n, formP p = .ok n := by
  rcases fr_cases (formP p) with ⟨n, hn⟩ | ⟨e, hn⟩
  · exact ⟨pgOk_of hn, by rw [hn]; rfl, n, hn⟩
  · rw [hn] at h
    exact absurd h (formP_ne hn)
/-- what Check answers -/
def rendF (p : List Sg) : Int × Int := if (fltR (formP p)).1 = 0 then (if 12000 < (pgT p).length then (1, -1) else (0, 0)) else fltR (formP p)
theorem rendF_0 {p : List Sg} (h : (rendF p).1 = 0) : PgOk p ∧ (pgT p).length ≤ 12000 ∧ rendF p = (0, 0) := by
  unfold rendF at h ⊢
  split
  · rename_i h0
    rw [if_pos h0] at h
    split
    · rename_i h1
      rw [if_pos h1] at h
      cases h
    · exact ⟨(formP_0 h0).1, by omega, rfl⟩
  · rename_i h0
    rw [if_neg h0] at h
    exact absurd h h0
section
variable {ω : Amb}
theorem Check_law (hω : ω.low = 0) (p : List Sg) (hsm : Small p) (v : Value) (h : Hp) (hp : PgS h v p) (ht : PwTab h) (X : List PanicEntry → Hp → Prop) :
    CallX Tryz.prog ω n_render_Check [v] h (fun r h' => r = .agg (flt (rendF p).1 (rendF p).2).toArray ∧ Keep (fun _ => False) h h') X := by
  obtain ⟨w0, rfl, hs⟩ := hp
  refine C_render_Check ω _ h _ X ?_
  unfold W_render_Check
  simp only [show Value.cells (.agg #[w0]) = [w0].toArray from rfl]
  have hb0 := hp_push_new (h := h) (o := .cells [w0].toArray 24 (0, 0))
  have k0 := Keep.push (S := fun _ => False) h (.cells [w0].toArray 24 (0, 0))
  have z0 : (h.push (.cells [w0].toArray 24 (0, 0))).size = h.size + 1 := by simp
  generalize h.push (.cells [w0].toArray 24 (0, 0)) = h1 at *
  have hb1 := hp_push_new (h := h1) (o := .cells (flt 0 0).toArray 28 (0, 0))
  have k1 := Keep.push (S := fun _ => False) h1 (.cells (flt 0 0).toArray 28 (0, 0))
  simp only [show (Obj.cells #[(.int .i64 0), (.int .i64 0)] 28 (0, 0)) = Obj.cells (flt 0 0).toArray 28 (0, 0) from rfl]
  generalize h1.push (.cells (flt 0 0).toArray 28 (0, 0)) = h2 at *
  have hb0 := k1.get hb0 (by simp)
  have k02 := k0.trans k1
  have hL : h.size ≤ h1.size := by omega
  refine ⟨_, cellsH_blk hb0 rfl, ?_⟩
  refine CallX.use (check_law p hsm (.agg #[w0]) h2 ⟨w0, rfl, hs.keep k02⟩) ?_
  rintro _ h3 ⟨rfl, k3⟩
  have hb03 := k3.get hb0 (by simp)
  have hb13 := k3.get hb1 (by simp)
  have k03 := k02.trans k3
  rw [asA_agg]
  refine ⟨rfl, flt_one _ _, storeK_local (cs := flt (fltR (formP p)).1 (fltR (formP p)).2) rfl ?_⟩
  have hb4 := hp_push_new (h := h3) (o := .cells (flt (fltR (formP p)).1 (fltR (formP p)).2).toArray 28 (0, 0))
  have k4 := Keep.push (S := fun _ => False) h3 (.cells (flt (fltR (formP p)).1 (fltR (formP p)).2).toArray 28 (0, 0))
  have hL3 : h1.size < h3.size := by have := hp_lt hb13; omega
  generalize h3.push (.cells (flt (fltR (formP p)).1 (fltR (formP p)).2).toArray 28 (0, 0)) = h4 at *
  have hb04 := k4.get hb03 (by simp)
  have hb14 := k4.get hb13 (by simp)
  have k04 := k03.trans k4
  refine ⟨fun v h' => v = .bool (decide ((fltR (formP p)).1 = 0 ∧ 12000 < (pgT p).length)) ∧ Keep (fun _ => False) h4 h', ?_, ?_⟩
  · refine lx hb4 (j := 0) rfl ?_
    rw [asK_int]
    refine cond_c (fun hc => ?_) (fun hc => ?_)
    · have h0 : (fltR (formP p)).1 = 0 := eq_of_beq hc
      refine ⟨_, cellsH_blk hb04 rfl, ?_⟩
      refine CallX.use (whole_law hω p hsm (formP_0 h0).1 (.agg #[w0]) h4 ⟨w0, rfl, hs.keep k04⟩ (ht.more k04)) ?_
      rintro _ h5 ⟨rfl, k5⟩
      rw [asS_str, bs_size]
      refine ⟨?_, k5⟩
      congr 1
      rw [Bool.eq_iff_iff]
      simp [h0]
      omega
    · have h0 : ¬ (fltR (formP p)).1 = 0 := beq_eq_false_iff_ne.1 hc
      exact ⟨by rw [decide_eq_false fun h => h0 h.1], Keep.refl _ _⟩
  rintro _ _ h5 ⟨rfl, k5⟩
  have hb5 := k5.get hb4 (by simp)
  have hb15 := k5.get hb14 (by simp)
  have k05 := k04.trans k5
  have hR : rendF p = if (fltR (formP p)).1 = 0 ∧ 12000 < (pgT p).length then (1, -1) else fltR (formP p) := by
    unfold rendF
    by_cases h0 : (fltR (formP p)).1 = 0
    · rw [if_pos h0, (formP_0 h0).2.1]
      by_cases h1 : 12000 < (pgT p).length <;> simp [h1]
    · rw [if_neg h0, if_neg fun h => h0 h.1]
  refine ⟨fun h' => h'[h3.size]? = some (.cells (flt (rendF p).1 (rendF p).2).toArray 28 (0, 0)) ∧ Keep (fun b => b = h3.size) h5 h', ?_, ?_⟩
  · rw [asB_bool]
    refine cond_c (fun hc => ?_) (fun hc => ?_)
    · have h1 := of_decide_eq_true hc
      refine ⟨trivial, flt_one 1 (-1), storeK_of (o := 0) hb5 (by simp [flt]) ?_⟩
      rw [spl_all (by rfl), hR, if_pos h1]
      exact ⟨hp_set_same hb5, Keep.set (S := fun b => b = h3.size) _ rfl⟩
    · rw [hR, if_neg (of_decide_eq_false hc)]
      exact ⟨hb5, Keep.refl _ _⟩
  rintro _ h6 ⟨hb6, k6⟩
  have hb16 := k6.get hb15 (by omega)
  refine ⟨_, cellsH_blk hb6 rfl, rfl, flt_one _ _, finF hb16 rfl rfl fun h' kk _ => ⟨rfl, ?_⟩⟩
  have hs3 := k03.size
  exact newL (newL k05 (by omega) k6) hL kk
/-- what Print answers -/
def printV (p : List Sg) : Value := if (rendF p).1 = 0 then .tuple #[.string (bs (pgT p)), .agg (flt 0 0).toArray] else .tuple #[.string ⟨#[]⟩, .agg (flt (rendF p).1 (rendF p).2).toArray]
theorem Print_law (hω : ω.low = 0) (p : List Sg) (hsm : Small p) (v : Value) (h : Hp) (hp : PgS h v p) (ht : PwTab h) (X : List PanicEntry → Hp → Prop) :
    CallX Tryz.prog ω n_render_Print [v] h (fun r h' => r = printV p ∧ Keep (fun _ => False) h h') X := by
  obtain ⟨w0, rfl, hs⟩ := hp
  refine C_render_Print ω _ h _ X ?_
  unfold W_render_Print
  simp only [show Value.cells (.agg #[w0]) = [w0].toArray from rfl]
  have hb0 := hp_push_new (h := h) (o := .cells [w0].toArray 24 (0, 0))
  have k0 := Keep.push (S := fun _ => False) h (.cells [w0].toArray 24 (0, 0))
  have z0 : (h.push (.cells [w0].toArray 24 (0, 0))).size = h.size + 1 := by simp
  generalize h.push (.cells [w0].toArray 24 (0, 0)) = h1 at *
  have hb1 := hp_push_new (h := h1) (o := .cells (flt 0 0).toArray 28 (0, 0))
  have k1 := Keep.push (S := fun _ => False) h1 (.cells (flt 0 0).toArray 28 (0, 0))
  simp only [show (Obj.cells #[(.int .i64 0), (.int .i64 0)] 28 (0, 0)) = Obj.cells (flt 0 0).toArray 28 (0, 0) from rfl]
  generalize h1.push (.cells (flt 0 0).toArray 28 (0, 0)) = h2 at *
  have hb0 := k1.get hb0 (by simp)
  have k02 := k0.trans k1
  have hL : h.size ≤ h1.size := by omega
  refine ⟨_, cellsH_blk hb0 rfl, ?_⟩
  refine CallX.use (Check_law hω p hsm (.agg #[w0]) h2 ⟨w0, rfl, hs.keep k02⟩ (ht.more k02)) ?_
  rintro _ h3 ⟨rfl, k3⟩
  have hb03 := k3.get hb0 (by simp)
  have hb13 := k3.get hb1 (by simp)
  have k03 := k02.trans k3
  rw [asA_agg]
  refine ⟨rfl, flt_one _ _, storeK_local (cs := flt (rendF p).1 (rendF p).2) rfl ?_⟩
  have hb4 := hp_push_new (h := h3) (o := .cells (flt (rendF p).1 (rendF p).2).toArray 28 (0, 0))
  have k4 := Keep.push (S := fun _ => False) h3 (.cells (flt (rendF p).1 (rendF p).2).toArray 28 (0, 0))
  generalize h3.push (.cells (flt (rendF p).1 (rendF p).2).toArray 28 (0, 0)) = h4 at *
  have hb04 := k4.get hb03 (by simp)
  have hb14 := k4.get hb13 (by simp)
  have k04 := k03.trans k4
  refine lx hb4 (j := 0) rfl ?_
  rw [asK_int]
  unfold printV
  refine cond_c (fun hc => ?_) (fun hc => ?_)
  · have hne := bne_iff_ne.1 hc
    rw [if_neg hne]
    exact ⟨_, cellsH_blk hb4 rfl, rfl, flt_one _ _, finF hb14 rfl rfl fun h' kk _ => ⟨rfl, newL k04 hL kk⟩⟩
  · have h0 : (rendF p).1 = 0 := by simpa using hc
    rw [if_pos h0]
    refine ⟨_, cellsH_blk hb04 rfl, ?_⟩
    refine CallX.use (whole_law hω p hsm (rendF_0 h0).1 (.agg #[w0]) h4 ⟨w0, rfl, hs.keep k04⟩ (ht.more k04)) ?_
    rintro _ h5 ⟨rfl, k5⟩
    exact ⟨trivial, flt_one 0 0, finF (k5.get hb14 (by simp)) rfl rfl fun h' kk _ => ⟨rfl, newL (k04.trans k5) hL kk⟩⟩
end
end Go.Proofs.YtkeeboomikkojaaGreatDoor

namespace Go.Proofs.YtkeeboomikkojaaGreatDoor
open Go Go.Sx Go.Sx.Tk Go.Sx.Rn Go.Proofs.YtkeeboomikkojaaGreatDoor.Sx

def prog1 : List Sg := [⟨⟨#[97]⟩, 0, [], []⟩]
theorem small1 : Small prog1 := by
  refine ⟨by decide, ?_, by decide⟩
  intro s hs
  obtain rfl := List.mem_singleton.1 hs
  exact ⟨by show (1 : Nat) ≤ 100; decide, by decide, fun q hq => absurd hq List.not_mem_nil, trivial⟩
theorem name1 : isNameB ⟨#[97]⟩ = true := by decide
theorem form1 : formP prog1 = .ok 0 := by
  unfold formP prog1
  rw [if_neg (by decide), if_neg (by decide)]
  unfold sgsF
  have h0 : sgH ⟨⟨#[97]⟩, 0, [], []⟩ = 0 := by
    unfold sgH
    rw [name1]
    rfl
  rw [if_neg (fun h => h h0)]
  rfl
theorem text1 : pgT prog1 = [115, 116, 97, 103, 101, 32, 97, 40, 41, 32, 123, 10, 125, 10] := by
  unfold pgT prog1 sgT prsT
  rfl
theorem rend1 : rendF prog1 = (0, 0) := by
  unfold rendF
  rw [form1, text1]
  rfl
theorem pgS1 {h : Hp} : PgS (Array.push h (.cells (List.toArray [(.string ⟨#[97]⟩), (.int .i64 0), (.slice none 0 0), (.slice none 0 0)]) 41 (0, 0))) (.agg #[(.slice (some ⟨Array.size h, 0, none⟩) 1 1)]) prog1 := by
  refine ⟨_, rfl, [(.string ⟨#[97]⟩), (.int .i64 0), (.slice none 0 0), (.slice none 0 0)], ⟨⟨rfl, .inr ⟨h.size, 0, 1, rfl, fun j u hu => ?_⟩⟩, by decide⟩, ?_, rfl⟩
  · rw [Nat.zero_add, cellH_block hp_push_new]
    simpa using hu
  · refine ⟨.slice none 0 0, .slice none 0 0, rfl, ⟨⟨rfl, .inl ⟨rfl, _, _, rfl⟩⟩, .inl rfl⟩, [], ⟨⟨rfl, .inl ⟨rfl, _, _, rfl⟩⟩, by decide⟩, ?_⟩
    unfold stsAt
    rfl
section
variable {ω : Amb}
theorem renderBegun_law (hω : ω.low = 0) (h : Hp) (ht : PwTab h) (X : List PanicEntry → Hp → Prop) :
    CallX Tryz.prog ω n_pipewrightlaw_renderBegun [] h (fun r h' => r = .bool true ∧ Keep (fun _ => False) h h') X := by
  refine C_pipewrightlaw_renderBegun ω h _ X ?_
  unfold W_pipewrightlaw_renderBegun
  have hp := pgS1 (h := h)
  have kp := Keep.push (S := fun _ => False) h (.cells (List.toArray [(.string ⟨#[97]⟩), (.int .i64 0), (.slice none 0 0), (.slice none 0 0)]) 41 (0, 0))
  refine ⟨rfl, ?_⟩
  refine CallX.use (Print_law hω prog1 small1 _ _ hp (ht.more kp)) ?_
  rintro _ h1 ⟨rfl, k1⟩
  have k01 := kp.trans k1
  unfold printV
  rw [rend1, if_pos rfl, tup2, asA_agg]
  refine ⟨rfl, flt_one 0 0, storeK_local (cs := flt 0 0) rfl ?_⟩
  have hb2 := hp_push_new (h := h1) (o := .cells (flt 0 0).toArray 28 (0, 0))
  have k2 := Keep.push (S := fun _ => False) h1 (.cells (flt 0 0).toArray 28 (0, 0))
  generalize h1.push (.cells (flt 0 0).toArray 28 (0, 0)) = h2 at *
  refine ⟨fun v h' => v = .bool true ∧ h2 = h', ?_, fun _ _ _ hj => ⟨hj.1, hj.2 ▸ k01.trans k2⟩⟩
  refine lx hb2 (j := 0) rfl ?_
  rw [asK_int]
  refine cond_t rfl ?_
  rw [asS_str, text1, eqS]
  refine cond_t (by decide) ?_
  refine CallX.use (Type_law ⟨#[114, 115, 105]⟩ 2 (by decide) h2) ?_
  rintro _ _ ⟨rfl, rfl⟩
  exact ⟨by congr 1, rfl⟩
end
end Go.Proofs.YtkeeboomikkojaaGreatDoor
