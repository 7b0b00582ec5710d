/- Ranks: the edges; is it a graph; the rows of those behind. -/
import Derived.Test.YtfjkddigflijeaaR5
namespace Go.Proofs.Ytfjkddigflijeaa
open Go Go.Sx Go.Sx.Pa Go.Sx.Ra Go.Proofs.Ytfjkddigflijeaa.Sx

def ef (e : Int × Int) : List Value := [.int .i64 e.1, .int .i64 e.2]
theorem ef_len (e : Int × Int) : (ef e).length = 2 := rfl
theorem ef_one (e : Int × Int) : ∀ u ∈ ef e, Go.Sx.one u := by
  intro u hu
  simp only [ef, List.mem_cons, List.not_mem_nil, or_false] at hu
  rcases hu with rfl | rfl <;> rfl
abbrev EdAt (h : Hp) (v : Value) (E : List (Int × Int)) : Prop := SlAt h 2 v E.length (E.flatMap ef)
theorem EdAt.rd0 {h : Hp} {v : Value} {E : List (Int × Int)} (hs : EdAt h v E) {i : Nat} {e : Int × Int} (hi : E[i]? = some e) {K : Value → Prop} (hk : K (.int .i64 e.1)) :
    asSl1 v fun a l _ => 0 ≤ (i : Int) ∧ (i : Int) < (l : Int) ∧ 0 ≤ (0 : Int) ∧ 0 < ((2 : Nat) : Int) ∧ ∃ w, cellH h (Addr.add (Addr.add a (Int.toNat (i : Int) * 2)) (Int.toNat 0 * 1)) = some w ∧ K w := by
  have hl := (List.getElem?_eq_some_iff.1 hi).1
  rcases hs.2 with ⟨h0, _⟩ | ⟨b, p, cap, rfl, hc⟩
  · omega
  · rw [asSl1_sl]
    refine ⟨by omega, by omega, by decide, by decide, _, ?_, hk⟩
    rw [addr_add, addr_add, Int.toNat_natCast, Nat.add_assoc]
    exact hc _ _ (by rw [flat_get ef_len hi (by decide)]; rfl)
theorem EdAt.rd1 {h : Hp} {v : Value} {E : List (Int × Int)} (hs : EdAt h v E) {i : Nat} {e : Int × Int} (hi : E[i]? = some e) {K : Value → Prop} (hk : K (.int .i64 e.2)) :
    asSl1 v fun a l _ => 0 ≤ (i : Int) ∧ (i : Int) < (l : Int) ∧ 0 ≤ (1 : Int) ∧ 1 < ((2 : Nat) : Int) ∧ ∃ w, cellH h (Addr.add (Addr.add a (Int.toNat (i : Int) * 2)) (Int.toNat 1 * 1)) = some w ∧ K w := by
  have hl := (List.getElem?_eq_some_iff.1 hi).1
  rcases hs.2 with ⟨h0, _⟩ | ⟨b, p, cap, rfl, hc⟩
  · omega
  · rw [asSl1_sl]
    refine ⟨by omega, by omega, by decide, by decide, _, ?_, hk⟩
    rw [addr_add, addr_add, Int.toNat_natCast, Nat.add_assoc]
    exact hc _ _ (by rw [flat_get ef_len hi (by decide)]; rfl)
theorem EdAt.sl {h : Hp} {v : Value} {E : List (Int × Int)} (hs : EdAt h v E) {F : Option Addr → Nat → Nat → Prop} (hf : ∀ a c, F a E.length c) : asSl v F := SlAt.sl hs hf
theorem EdAt.keep {h h' : Hp} {v : Value} {E : List (Int × Int)} (hs : EdAt h v E) (hk : Keep (fun _ => False) h h') : EdAt h' v E := SlAt.keep hs hk

/-! ### is it a graph -/
def bad (n : Int) (e : Int × Int) : Bool := decide (e.1 < 0) || (decide (e.1 ≥ n) || (decide (e.2 < 0) || decide (e.2 ≥ n)))
def chk (n : Int) (E : List (Int × Int)) : Int × Int :=
  if n < 0 ∨ 1000 < n ∨ 20000 < E.length then (8, -1) else match E.findIdx? (bad n) with | some i => (14, i) | none => (0, 0)
theorem chk_bad {n : Int} {E : List (Int × Int)} (h0 : ¬ (n < 0 ∨ 1000 < n ∨ 20000 < E.length)) {k : Nat} {e : Int × Int} (hk : E[k]? = some e) (hb : bad n e = true) (hg : ∀ x ∈ E.take k, bad n x = false) : chk n E = (14, (k : Int)) := by
  unfold chk
  rw [if_neg h0]
  have : E.findIdx? (bad n) = some k := by
    rw [List.findIdx?_eq_some_iff_getElem]
    obtain ⟨hl, rfl⟩ := List.getElem?_eq_some_iff.1 hk
    refine ⟨hl, hb, fun j hj => ?_⟩
    rw [hg _ (List.mem_take_iff_getElem.2 ⟨j, by omega, rfl⟩)]
    decide
  rw [this]
theorem chk_good {n : Int} {E : List (Int × Int)} (h0 : ¬ (n < 0 ∨ 1000 < n ∨ 20000 < E.length)) (hg : ∀ x ∈ E, bad n x = false) : chk n E = (0, 0) := by
  unfold chk
  rw [if_neg h0]
  have : E.findIdx? (bad n) = none := by
    rw [List.findIdx?_eq_none_iff]
    exact hg
  rw [this]
theorem chk_zero {n : Int} {E : List (Int × Int)} (h : (chk n E).1 = 0) : 0 ≤ n ∧ n ≤ 1000 ∧ E.length ≤ 20000 ∧ ∀ x ∈ E, bad n x = false := by
  unfold chk at h
  split at h
  · cases h
  · rename_i h0
    refine ⟨by omega, by omega, by omega, ?_⟩
    split at h
    · cases h
    · rename_i hn
      rw [List.findIdx?_eq_none_iff] at hn
      exact hn
theorem chk_code {n : Int} {E : List (Int × Int)} : (chk n E).1 = 0 → chk n E = (0, 0) := fun h => by
  obtain ⟨h1, h2, h3, h4⟩ := chk_zero h
  exact chk_good (by omega) h4
/-- the edges as plain numbers -/
def esOf (E : List (Int × Int)) : Es := E.map fun e => (e.1.toNat, e.2.toNat)
theorem es_ok {n : Nat} {E : List (Int × Int)} (h : ∀ x ∈ E, bad (n : Int) x = false) : Ok n (esOf E) := fun e he => by
  obtain ⟨x, hx, rfl⟩ := List.mem_map.1 he
  have := h x hx
  simp only [bad, Bool.or_eq_false_iff, decide_eq_false_iff_not] at this
  simp only
  omega
theorem es_at {n : Nat} {E : List (Int × Int)} (h : ∀ x ∈ E, bad (n : Int) x = false) {i : Nat} {x : Int × Int} (hx : E[i]? = some x) : ∃ a b : Nat, x = ((a : Int), (b : Int)) ∧ a < n ∧ b < n ∧ (esOf E)[i]? = some (a, b) := by
  have := h x (List.mem_iff_getElem?.2 ⟨i, hx⟩)
  simp only [bad, Bool.or_eq_false_iff, decide_eq_false_iff_not] at this
  refine ⟨x.1.toNat, x.2.toNat, ?_, by omega, by omega, ?_⟩
  · ext <;> simp <;> omega
  · rw [esOf, List.getElem?_map, hx]
    rfl

def flt (code at_ : Int) : List Value := [.int .i64 code, .int .i64 at_]
theorem flt_one (c a : Int) : ∀ u ∈ flt c a, Go.Sx.one u := by
  intro u hu
  simp only [flt, List.mem_cons, List.not_mem_nil, or_false] at hu
  rcases hu with rfl | rfl <;> rfl
/-- a fault is laid and read -/
theorem finF {h : Hp} {L : Nat} {cs ds : List Value} (hw : h[L]? = some (.cells ds.toArray 25 (0, 0))) (hd : ds.length = 2) (hc : cs.length = 2) {K : List Value → Hp → Prop}
    (hk : ∀ h', Keep (fun k => k = L) h h' → h'[L]? = some (.cells cs.toArray 25 (0, 0)) → K cs h') : storeK h ⟨L, 0, none⟩ cs fun h' => ∃ C, cellsH h' ⟨L, 0, none⟩ 2 C ∧ K C h' := by
  refine storeK_of hw (by simp; omega) ?_
  rw [spl_all (by simp; omega)]
  have hb := hp_set_same (o := .cells cs.toArray 25 (0, 0)) hw
  exact ⟨cs, cellsH_blk hb hc, hk _ (Keep.set (S := fun k => k = L) _ rfl) hb⟩

section
variable {ω : Amb}
theorem F_law (c a : Int) (h : Hp) (X : List PanicEntry → Hp → Prop) : CallX Try.prog ω n_pipewrightref_F [.int .i64 c, .int .i64 a] h (fun r h' => r = .agg (flt c a).toArray ∧ Keep (fun _ => False) h h') X := by
  refine C_pipewrightref_F ω _ _ h _ X ?_
  unfold W_pipewrightref_F
  show oneK (.int .i64 c) (oneK (.int .i64 a) _)
  refine ⟨rfl, flt_one c a, storeK_local (cs := flt c a) rfl ?_⟩
  exact ⟨_, cellsH_local rfl, rfl, Keep.push _ _⟩
theorem Check_law {h : Hp} {v : Value} {E : List (Int × Int)} (hs : EdAt h v E) (n : Int) (X : List PanicEntry → Hp → Prop) :
    CallX Try.prog ω n_ranks_Check [.int .i64 n, v] h (fun r h' => r = .agg (flt (chk n E).1 (chk n E).2).toArray ∧ Keep (fun _ => False) h h') X := by
  refine C_ranks_Check ω _ _ h _ X ?_
  unfold W_ranks_Check
  have hb0 := hp_push_new (h := h) (o := .cells (flt 0 0).toArray 25 (0, 0))
  have k0 := Keep.push (S := fun _ => False) h (.cells (flt 0 0).toArray 25 (0, 0))
  have hs0 := EdAt.keep hs k0
  change ∃ β0 : Bool, _ ∧ _
  refine ⟨decide (n < 0 ∨ 1000 < n ∨ 20000 < E.length), ?_, fun _ => cond_c (fun hc => ?_) (fun hc => ?_)⟩
  · rw [asK_int]
    refine cond_c (fun hc => ?_) (fun hc => ?_)
    · rw [decide_eq_true (.inl (of_decide_eq_true hc))]
      exact ⟨rfl, rfl⟩
    have h1 := of_decide_eq_false hc
    rw [asK_int]
    refine cond_c (fun hc => ?_) (fun hc => ?_)
    · have := of_decide_eq_true hc
      rw [decide_eq_true (.inr (.inl (by omega)))]
      exact ⟨rfl, rfl⟩
    have h2 := of_decide_eq_false hc
    refine EdAt.sl hs fun _ _ => ?_
    refine ⟨?_, rfl⟩
    congr 1
    rw [Bool.eq_iff_iff]
    simp
    omega
  · refine ⟨rfl, flt_one 8 (-1), storeK_local (cs := flt 8 (-1)) rfl ?_⟩
    refine ⟨_, cellsH_local rfl, ?_, Keep.push _ _⟩
    unfold chk
    rw [if_pos (of_decide_eq_true hc)]
  have h0 := of_decide_eq_false hc
  change asSl v _
  refine EdAt.sl hs fun _ _ => ?_
  refine ⟨fun i h' => ∃ k : Nat, i = .int .i64 k ∧ k ≤ E.length ∧ (∀ x ∈ E.take k, bad n x = false) ∧ h'[h.size]? = some (.cells (flt 0 0).toArray 25 (0, 0)) ∧ Keep (fun _ => False) h h', fun i _ => match i with | .int _ k => E.length - k.toNat | _ => 0, ⟨0, rfl, by omega, by simp, hb0, k0⟩, ?_⟩
  rintro _ _ h1 ⟨k, rfl, hk, hg, hb1, k1⟩
  have hs1 := EdAt.keep hs k1
  rw [asK_int]
  refine cond_c (fun hc => ?_) (fun hc => ?_)
  · have hlt : k < E.length := by have := of_decide_eq_true hc; omega
    have hx := List.getElem?_eq_getElem hlt
    have htk := List.take_succ_eq_append_getElem hlt
    generalize E[k] = e at hx htk
    refine SlAt.rdS hs1 ef_len hx ?_
    refine ⟨rfl, ef_one e, storeK_local (cs := ef e) rfl ?_⟩
    have hb2 := hp_push_new (h := h1) (o := .cells (ef e).toArray 30 (0, 0))
    have kp := Keep.push (S := fun _ => False) h1 (.cells (ef e).toArray 30 (0, 0))
    have hf2 := kp.get hb1 (by simp)
    have k2 := k1.trans kp
    generalize h1.push (.cells (ef e).toArray 30 (0, 0)) = h2 at *
    generalize h1.size = G at *
    refine ⟨bad n e, ?_, fun _ => cond_c (fun hc => ?_) (fun hc => ?_)⟩
    · unfold bad
      refine ⟨by decide, by decide, ?_⟩
      refine lx hb2 rfl ?_
      rw [asK_int]
      refine cond_c (fun hc => ⟨by rw [hc]; rfl, rfl⟩) (fun hc => ?_)
      rw [hc, Bool.false_or]
      refine ⟨by decide, by decide, ?_⟩
      refine lx hb2 rfl ?_
      rw [asK_int, asK_int]
      refine cond_c (fun hc => ⟨by rw [hc]; rfl, rfl⟩) (fun hc => ?_)
      rw [hc, Bool.false_or]
      refine ⟨by decide, by decide, ?_⟩
      refine lx hb2 rfl ?_
      rw [asK_int]
      refine cond_c (fun hc => ⟨by rw [hc]; rfl, rfl⟩) (fun hc => ?_)
      rw [hc, Bool.false_or]
      refine ⟨by decide, by decide, ?_⟩
      refine lx hb2 rfl ?_
      rw [asK_int, asK_int]
      exact ⟨rfl, rfl⟩
    · rw [oneK_int]
      refine ⟨rfl, flt_one 14 (k : Int), finF (cs := flt 14 (k : Int)) hf2 rfl rfl fun h3 k3 _ => ?_⟩
      rw [chk_bad h0 hx hc hg]
      exact ⟨rfl, k2.newer (k3.mono fun b _ hb => .inr (Nat.le_of_eq hb.symm))⟩
    · rw [asK_int, i64_in (by omega) (by omega)]
      refine ⟨⟨k + 1, by simp, by omega, ?_, hf2, k2⟩, by simp; omega⟩
      rw [htk]
      intro x hx'
      rcases List.mem_append.1 hx' with hx' | hx'
      · exact hg x hx'
      · simp at hx'
        rw [hx']
        exact hc
  · have hke : k = E.length := by have := of_decide_eq_false hc; omega
    subst hke
    rw [List.take_length] at hg
    refine ⟨rfl, flt_one 0 0, finF (cs := flt 0 0) hb1 rfl rfl fun h3 k3 _ => ?_⟩
    rw [chk_good h0 hg]
    exact ⟨rfl, k1.newer (k3.mono fun b _ hb => .inr (Nat.le_of_eq hb.symm))⟩
theorem GraphFault_law {h : Hp} {v : Value} {E : List (Int × Int)} (hs : EdAt h v E) (n : Int) (X : List PanicEntry → Hp → Prop) :
    CallX Try.prog ω n_pipewrightref_GraphFault [.int .i64 n, v] h (fun r h' => r = .agg (flt (chk n E).1 (chk n E).2).toArray ∧ Keep (fun _ => False) h h') X := by
  refine C_pipewrightref_GraphFault ω _ _ h _ X ?_
  unfold W_pipewrightref_GraphFault
  have hb0 := hp_push_new (h := h) (o := .cells (flt 0 0).toArray 25 (0, 0))
  have k0 := Keep.push (S := fun _ => False) h (.cells (flt 0 0).toArray 25 (0, 0))
  refine ⟨decide (n < 0 ∨ 1000 < n ∨ 20000 < E.length), ?_, fun _ => cond_c (fun hc => ?_) (fun hc => ?_)⟩
  · rw [asK_int]
    refine cond_c (fun hc => ?_) (fun hc => ?_)
    · rw [decide_eq_true (.inl (of_decide_eq_true hc))]
      exact ⟨rfl, rfl⟩
    have h1 := of_decide_eq_false hc
    rw [asK_int]
    refine cond_c (fun hc => ?_) (fun hc => ?_)
    · have := of_decide_eq_true hc
      rw [decide_eq_true (.inr (.inl (by omega)))]
      exact ⟨rfl, rfl⟩
    have h2 := of_decide_eq_false hc
    refine EdAt.sl hs fun _ _ => ?_
    refine ⟨?_, rfl⟩
    congr 1
    rw [Bool.eq_iff_iff]
    simp
    omega
  · refine CallX.use (F_law 8 (-1) _) ?_
    rintro _ h2 ⟨rfl, k2⟩
    rw [asA_agg]
    refine ⟨rfl, flt_one _ _, finF (cs := flt 8 (-1)) (k2.get hb0 (by simp)) rfl rfl fun h3 k3 _ => ?_⟩
    refine ⟨?_, (k0.trans k2).newer (k3.mono fun b _ hb => .inr (Nat.le_of_eq hb.symm))⟩
    unfold chk
    rw [if_pos (of_decide_eq_true hc)]
  have h0 := of_decide_eq_false hc
  refine ⟨fun i h' => ∃ k : Nat, i = .int .i64 k ∧ k ≤ E.length ∧ (∀ x ∈ E.take k, bad n x = false) ∧ h'[h.size]? = some (.cells (flt 0 0).toArray 25 (0, 0)) ∧ Keep (fun _ => False) h h', fun i _ => match i with | .int _ k => E.length - k.toNat | _ => 0, ⟨0, rfl, by omega, by simp, hb0, k0⟩, ?_⟩
  rintro _ _ h1 ⟨k, rfl, hk, hg, hb1, k1⟩
  have hs1 := EdAt.keep hs k1
  refine EdAt.sl hs1 fun _ _ => ?_
  rw [asK_int]
  refine cond_c (fun hc => ?_) (fun hc => ?_)
  · have hlt : k < E.length := by have := of_decide_eq_true hc; omega
    have hx := List.getElem?_eq_getElem hlt
    have htk := List.take_succ_eq_append_getElem hlt
    generalize E[k] = e at hx htk
    refine EdAt.rd0 hs1 hx ?_
    refine EdAt.rd1 hs1 hx ?_
    refine ⟨bad n e, ?_, fun _ => cond_c (fun hc => ?_) (fun hc => ?_)⟩
    · unfold bad
      rw [asK_int]
      refine cond_c (fun hc => ⟨by rw [hc]; rfl, rfl⟩) (fun hc => ?_)
      have g1 := of_decide_eq_false hc
      rw [hc, Bool.false_or, asK_int]
      refine cond_c (fun hc => ⟨by rw [hc]; simp, rfl⟩) (fun hc => ?_)
      rw [hc, Bool.false_or, asK_int, asK_int]
      refine cond_c (fun hc => ⟨by rw [hc]; rfl, rfl⟩) (fun hc => ?_)
      rw [hc, Bool.false_or, asK_int, asK_int]
      exact ⟨rfl, rfl⟩
    · refine CallX.use (F_law 14 (k : Int) _) ?_
      rintro _ h2 ⟨rfl, k2⟩
      rw [asA_agg]
      refine ⟨rfl, flt_one _ _, finF (cs := flt 14 (k : Int)) (k2.get hb1 (by simp)) rfl rfl fun h3 k3 _ => ?_⟩
      rw [chk_bad h0 hx hc hg]
      exact ⟨rfl, (k1.trans k2).newer (k3.mono fun b _ hb => .inr (Nat.le_of_eq hb.symm))⟩
    · rw [asK_int, i64_in (by omega) (by omega)]
      refine ⟨⟨k + 1, by simp, by omega, ?_, hb1, k1⟩, by simp; omega⟩
      rw [htk]
      intro x hx'
      rcases List.mem_append.1 hx' with hx' | hx'
      · exact hg x hx'
      · simp at hx'
        rw [hx']
        exact hc
  · have hke : k = E.length := by have := of_decide_eq_false hc; omega
    subst hke
    rw [List.take_length] at hg
    refine ⟨rfl, flt_one 0 0, finF (cs := flt 0 0) hb1 rfl rfl fun h3 k3 _ => ?_⟩
    rw [chk_good h0 hg]
    exact ⟨rfl, k1.newer (k3.mono fun b _ hb => .inr (Nat.le_of_eq hb.symm))⟩
end
end Go.Proofs.Ytfjkddigflijeaa
