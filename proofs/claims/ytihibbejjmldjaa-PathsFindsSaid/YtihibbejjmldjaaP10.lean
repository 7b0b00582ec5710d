/- Ways: Reach, Reached. -/
import Derived.Test.YtihibbejjmldjaaP9
namespace Go.Proofs.Ytihibbejjmldjaa
open Go Go.Sx Go.Sx.Pa Go.Proofs.Ytihibbejjmldjaa.Sx

def reachL (n : Nat) (D : Nat → Option Nat) : List Nat := (List.range n).filter fun k => (D k).isSome
theorem filt_succ (k : Nat) (p : Nat → Bool) : (List.range (k + 1)).filter p = (List.range k).filter p ++ (if p k = true then [k] else []) := by
  rw [List.range_succ, List.filter_append]
  congr 1
  by_cases h : p k = true
  · rw [if_pos h]; simp [h]
  · rw [if_neg h]
    have : p k = false := by simpa using h
    simp [this]
theorem filt_len (k : Nat) (p : Nat → Bool) : ((List.range k).filter p).length ≤ k := Nat.le_trans (List.length_filter_le _ _) (by simp)

theorem InsAt.rdTo {h : Hp} {v : Value} {L : Pa.Code} (hi : InsAt h v L) {i : Nat} {x : Int × Int} (hx : L[i]? = some x) {K : Value → Prop} (hk : K (.int .i64 x.2)) :
    asSl1 v fun a l _ => 0 ≤ (i : Int) ∧ (i : Int) < (l : Int) ∧ ∃ w, cellH h (Addr.add (Addr.add a (Int.toNat (i : Int) * 11)) 4) = some w ∧ K w := by
  obtain ⟨cs, h1, _, h3⟩ := hi
  exact h1.rdF (List.getElem?_eq_some_iff.1 hx).1 (h3 i x hx).2 hk
/-- cells of bools -/
def bv (l : List Bool) : List Value := l.map fun b => .bool b
theorem bv_len (l : List Bool) : (bv l).length = l.length := by simp [bv]
theorem bv_at {l : List Bool} {i : Nat} {b : Bool} (h : l[i]? = some b) : (bv l)[i]? = some (.bool b) := by rw [bv, List.getElem?_map, h]; rfl
abbrev BO (h : Hp) (base : Nat) (v : Value) (l : List Bool) : Prop := OwnH h base 4 1 v l.length (bv l)
theorem BO.st {h : Hp} {base : Nat} {v : Value} {l : List Bool} (ho : BO h base v l) {i : Nat} {x : Bool} (hi : i < l.length) {K : Hp → Prop}
    (hk : ∀ h', BO h' base v (l.set i x) → Keep (fun k => v.ownBlock = some k) h h' → K h') :
    asSl1 v fun a n _ => 0 ≤ (i : Int) ∧ (i : Int) < (n : Int) ∧ storeK1 h (Addr.add a (Int.toNat (i : Int) * 1)) (.bool x) K :=
  ownStore1 ho hi fun h' ho' kp => hk h' (by rw [BO, List.length_set, bv, List.map_set]; exact ho') kp
def rdB (v : Value) (h : Hp) : List Bool :=
  match v with
  | .slice (some a) n _ => (match h[a.block]? with | some (.cells cur _ _) => ((cur.toList.drop a.off).take n).map (fun u => match u with | .bool k => k | _ => false) | _ => [])
  | _ => []
theorem rdB_own {h : Hp} {base : Nat} {v : Value} {xs : List Bool} (ho : BO h base v xs) : rdB v h = xs := by
  rcases ho.2 with ⟨rfl, hn⟩ | ⟨g, o, cap, cur, rfl, hb, hg, _, _, _, hx⟩
  · exact (List.eq_nil_of_length_eq_zero hn).symm
  · unfold rdB
    simp only [hg]
    rw [Nat.mul_one] at hx
    rw [hx, bv, List.map_map]
    simp [Function.comp_def]
def bat (l : List Bool) (k : Nat) : Bool := l.getD k false
theorem bat_at {l : List Bool} {k : Nat} (hk : k < l.length) : l[k]? = some (bat l k) := by
  unfold bat
  rw [List.getD_eq_getElem?_getD, List.getElem?_eq_getElem hk]
  rfl
theorem bat_set {l : List Bool} {k : Nat} {v : Bool} (hk : k < l.length) (j : Nat) : bat (l.set k v) j = if j = k then v else bat l j := by
  unfold bat
  rw [List.getD_eq_getElem?_getD, List.getD_eq_getElem?_getD]
  by_cases hj : j = k
  · subst hj
    rw [List.getElem?_set_self hk, if_pos rfl]
    rfl
  · rw [List.getElem?_set_ne (fun e => hj e.symm), if_neg hj]
def cnt (l : List Bool) : Nat := l.countP fun b => b
theorem cnt_le (l : List Bool) : cnt l ≤ l.length := List.countP_le_length
theorem cnt_set : ∀ {l : List Bool} {k : Nat}, k < l.length → bat l k = false → cnt (l.set k true) = cnt l + 1
  | x :: l, 0, _, h => by
    have : x = false := h
    subst this
    simp [cnt]
  | x :: l, k + 1, hk, h => by
    have := cnt_set (l := l) (k := k) (by simpa using hk) h
    simp only [cnt, List.set_cons_succ, List.countP_cons] at *
    omega
/-- what is reached so far -/
structure Rb (L : Pa.Code) (B : List Bool) : Prop where
  len : B.length = L.length
  src : ∀ k, bat B k = true → ∃ d, Dst (nexts L) 0 k d
  root : 0 < L.length → bat B 0 = true
theorem Rb.fin {L : Pa.Code} {B : List Bool} (r : Rb L B) (hfix : ∀ i k, bat B i = true → k ∈ nexts L i → bat B k = true) {D : Nat → Option Nat} (hD : IsD (nexts L) L.length 0 D) {k : Nat} (hk : k < L.length) : bat B k = (D k).isSome := by
  rw [Bool.eq_iff_iff]
  refine ⟨fun hb => ?_, fun hs => ?_⟩
  · obtain ⟨d, hd⟩ := r.src k hb
    obtain ⟨d', h1, _⟩ := hD.of (an := 0) rfl (by omega) hd
    rw [h1]
    rfl
  · obtain ⟨d, hd⟩ := Option.isSome_iff_exists.1 hs
    obtain ⟨⟨an, h1, h2, h3⟩, _⟩ := hD.some_ hd
    have h0 : an = 0 := by omega
    subst h0
    have hall : ∀ {k d : Nat}, Dst (nexts L) 0 k d → bat B k = true := fun {k d} hw => by
      induction hw with
      | nil => exact r.root (by omega)
      | step _ hc ih => exact hfix _ _ ih hc
    exact hall h3
theorem Rb.start (L : Pa.Code) : Rb L ((List.replicate L.length false).set 0 true) := by
  refine ⟨by simp, fun k hk => ?_, fun h0 => ?_⟩
  · by_cases h0 : 0 < L.length
    · rw [bat_set (by simpa using h0)] at hk
      split at hk
      · rename_i e
        subst e
        exact ⟨0, .nil⟩
      · unfold bat at hk
        rw [List.getD_eq_getElem?_getD, List.getElem?_replicate] at hk
        split at hk <;> cases hk
    · have : L = [] := List.eq_nil_of_length_eq_zero (by omega)
      subst this
      unfold bat at hk
      simp at hk
  · rw [bat_set (by simpa using h0), if_pos rfl]
theorem Rb.more {L : Pa.Code} {B : List Bool} (r : Rb L B) {i k : Nat} (hi : bat B i = true) (hk : k ∈ nexts L i) : Rb L (B.set k true) := by
  have hkl := (E_lt (show E L i k from hk)).2
  have hl : k < B.length := by rw [r.len]; exact hkl
  refine ⟨by rw [List.length_set]; exact r.len, fun j hj => ?_, fun h0 => ?_⟩
  · rw [bat_set hl] at hj
    split at hj
    · rename_i e
      subst e
      obtain ⟨d, hd⟩ := r.src i hi
      exact ⟨d + 1, .step hd hk⟩
    · exact r.src j hj
  · rw [bat_set hl]
    split
    · rfl
    · exact r.root h0

/-- within one instruction's turn -/
structure Rq (L : Pa.Code) (x : Int × Int) (Gl : Nat) (h0 : Hp) (V : Value) (B : List Bool) (i : Nat) (B' : List Bool) (m : Bool) (q : Nat) (h' : Hp) : Prop where
  rb : Rb L B'
  own : BO h' h0.size V B'
  keep : Keep (fun _ => False) h0 h'
  two : h'[Gl]? = some (.cells (List.toArray [.int .i64 ((i : Int) + 1), .int .i64 x.2]) 3 (0, 0))
  le : cnt B ≤ cnt B'
  lt : m = true → cnt B < cnt B'
  ahead : m = false → ∀ j k, j < i → bat B' j = true → k ∈ nexts L j → bat B' k = true
  fst : m = false → 1 ≤ q → ∀ k : Nat, (k : Int) = i + 1 → bat B' i = true → k ∈ nexts L i → bat B' k = true
  snd : m = false → 2 ≤ q → ∀ k : Nat, (k : Int) = x.2 → bat B' i = true → k ∈ nexts L i → bat B' k = true
theorem cand_of {L : Pa.Code} {i k : Nat} {x : Int × Int} (hx : L[i]? = some x) (hk : k ∈ nexts L i) : (k : Int) = i + 1 ∨ (k : Int) = x.2 := by
  unfold nexts at hk
  rw [List.mem_filter, decide_eq_true_eq] at hk
  have h := hk.2
  unfold cand at h
  rw [hx] at h
  simp only at h
  split at h
  · cases h
  · split at h
    · simp at h
      exact .inr h
    · split at h
      · simp at h
        exact h
      · simp at h
        exact .inl (by omega)

section
variable {ω : Amb} {L : Pa.Code} {pa pb pc pd pv : Value}
theorem Reach1_law {h : Hp} {G : Nat} (hb : PB h G (prc pa pb pc pd pv)) (hi : InsAt h pv L) (hn : L.length ≤ 1000000) {i : Nat} (hil : i < L.length) (Y : List PanicEntry → Hp → Prop) :
    callK Try.prog ω (.func (.func 29) #[] #[(.pointer (some ⟨G, 0, none⟩))]) [.int .i64 ((i : Nat) : Int)] h (fun r h' => IO h' h.size r (nI (nexts L i)) ∧ Keep (fun _ => False) h h') Y := by
  have hca : callable Try.prog 29 = true := by kernel_rfl
  unfold callK
  simp only [hca, cond_true]
  refine C_paths_Reach_1 ω _ _ h _ Y ?_
  unfold W_paths_Reach_1
  rw [asP_some]
  refine ⟨_, cellsH_blk hb rfl, ?_⟩
  refine CallX.use (Next_law hi hn (i : Int)) ?_
  rintro r h2 ⟨ho, k⟩
  rw [nx_nat hil] at ho
  exact ⟨ho, k⟩

theorem Reach_law {h : Hp} (hi : InsAt h pv L) (hn : L.length ≤ 300) (X : List PanicEntry → Hp → Prop) :
    CallX Try.prog ω n_paths_Reach [.agg (prc pa pb pc pd pv).toArray] h (fun r h' => ∃ D, IsD (nexts L) L.length 0 D ∧ IS h' r (nI (reachL L.length D)) ∧ Keep (fun _ => False) h h') X := by
  refine C_paths_Reach ω _ h _ X ?_
  unfold W_paths_Reach
  have hb0 := pb_new h (prc pa pb pc pd pv)
  have k0 := Keep.push (S := fun _ => False) h (.cells (Value.cells (.agg (prc pa pb pc pd pv).toArray)) 26 (0, 0))
  have hi0 := hi.keep k0
  generalize Array.push h (.cells (Value.cells (.agg (prc pa pb pc pd pv).toArray)) 26 (0, 0)) = h0 at *
  refine lx hb0 rfl ?_
  refine hi0.sl fun _ _ => ?_
  refine CallX.use (far_law hn (N := nexts L) (fun i k hk => (E_lt (show E L i k from hk)).2) (fun i => by have := nexts_len L i; omega) fun h' hk' i hil Y => ?_) ?_
  · refine callK_use (fun Y => Reach1_law (hk'.get hb0 (by simp)) (hi0.keep hk') (by omega) hil Y) ?_
    rintro r h2 ⟨ho, k2⟩
    exact ⟨ho.slAt, k2, fun b hb => .inr (ho.lt b hb).1⟩
  rintro r1 h1 ⟨o, hol, ho1, k1, hD, _⟩
  refine IS.sl ho1.slAt fun _ _ => ?_
  rw [hol]
  have hs1 : IS h1 r1 o := ho1.slAt
  refine ⟨fun out t h' => ∃ k : Nat, t = .int .i64 k ∧ k ≤ L.length ∧ IO h' h1.size out (nI (reachL k (dist o))) ∧ Keep (fun _ => False) h1 h',
    fun _ t _ => match t with | .int _ k => L.length - k.toNat | _ => 0, ⟨0, rfl, by omega, OwnH.nil, Keep.refl _ _⟩, ?_⟩
  rintro out _ _ h2 ⟨k, rfl, hk, ho2, k2⟩
  have hs2 : IS h2 r1 o := SlAt.keep hs1 k2
  rw [asK_int]
  refine cond_c (fun hc => ?_) (fun hc => ?_)
  · have hlt : k < L.length := by have := of_decide_eq_true hc; omega
    refine ⟨fun out h' => IO h' h1.size out (nI (reachL (k + 1) (dist o))) ∧ Keep (fun _ => False) h1 h', ?_, ?_⟩
    rotate_left
    · rintro out3 _ h3 ⟨ho3, k3⟩
      rw [asK_int, i64_in (by omega) (by omega)]
      exact ⟨⟨k + 1, by simp, by omega, ho3, k3⟩, by simp; omega⟩
    refine hs2.rd (val_at (by omega)) ?_
    rw [asK_int]
    refine ⟨fun out h' => IO h' h1.size out (nI (reachL (k + 1) (dist o))) ∧ Keep (fun _ => False) h1 h', ?_, fun _ _ _ hj => hj⟩
    have hfl := filt_len k fun k => (dist o k).isSome
    unfold reachL at ho2 ⊢
    rw [filt_succ]
    refine cond_c (fun hc => ?_) (fun hc => ?_)
    · have hv : 0 ≤ val o k := of_decide_eq_true hc
      have hs : (dist o k).isSome = true := by unfold dist; rw [if_pos hv]; rfl
      rw [if_pos hs, oneK_int]
      refine ho2.app (by rw [nI_len]; omega) k2.size (k : Int) fun w h3 ho3 k3 _ => ?_
      have : nI ((List.range k).filter (fun k => (dist o k).isSome) ++ [k]) = nI ((List.range k).filter fun k => (dist o k).isSome) ++ [(k : Int)] := by simp [nI]
      rw [this]
      exact ⟨ho3, k2.newer (k3.mono fun b _ hb => .inr (ho2.lt b hb).1)⟩
    · have hv : ¬ 0 ≤ val o k := of_decide_eq_false hc
      have hs : ¬ (dist o k).isSome = true := by unfold dist; rw [if_neg hv]; decide
      rw [if_neg hs, List.append_nil]
      exact ⟨ho2, k2⟩
  · have hke : k = L.length := by have := of_decide_eq_false hc; omega
    subst hke
    exact ⟨dist o, hD, ho2.slAt, (k0.trans k1).trans k2⟩

set_option maxHeartbeats 800000 in
theorem Reached_law {h : Hp} (hi : InsAt h pv L) (hn : L.length ≤ 300) {D : Nat → Option Nat} (hD : IsD (nexts L) L.length 0 D) (X : List PanicEntry → Hp → Prop) :
    CallX Try.prog ω n_pipewrightref_Reached [.agg (prc pa pb pc pd pv).toArray] h (fun r h' => IS h' r (nI (reachL L.length D)) ∧ Keep (fun _ => False) h h') X := by
  refine C_pipewrightref_Reached ω _ h _ X ?_
  unfold W_pipewrightref_Reached
  have hb0 := pb_new h (prc pa pb pc pd pv)
  have k0 := Keep.push (S := fun _ => False) h (.cells (Value.cells (.agg (prc pa pb pc pd pv).toArray)) 26 (0, 0))
  have hi0 := hi.keep k0
  generalize Array.push h (.cells (Value.cells (.agg (prc pa pb pc pd pv).toArray)) 26 (0, 0)) = h0 at *
  generalize h.size = G at *
  refine lx hb0 rfl ?_
  refine hi0.sl fun _ _ => ?_
  refine makeK_of (z := [.bool false]) (bt := 1) (el := 4) (sz := 1) (by kernel_rfl) (by kernel_rfl) (by omega) (by omega) (by omega) ?_
  rw [Int.toNat_natCast, zeroRow_one]
  have ho1 : BO (Array.push h0 (.cells (Array.replicate L.length (.bool false)) 4 (0, 0))) h0.size (.slice (some ⟨h0.size, 0, none⟩) L.length L.length) (List.replicate L.length false) := by
    rw [BO, List.length_replicate]
    refine ownBlk (by rw [hp_push_new]; simp [bv]) (by simp [bv]) (by simp only [maxLen]; omega) (Nat.le_refl _)
  have k1 := Keep.push (S := fun _ => False) h0 (.cells (Array.replicate L.length (.bool false)) 4 (0, 0))
  generalize Array.push h0 (.cells (Array.replicate L.length (.bool false)) 4 (0, 0)) = h1 at *
  generalize Value.slice (some ⟨h0.size, 0, none⟩) L.length L.length = V at *
  refine SlAt.sl ho1.slAt fun _ _ => ?_
  rw [List.length_replicate]
  refine ⟨fun h' => BO h' h0.size V ((List.replicate L.length false).set 0 true) ∧ Keep (fun _ => False) h0 h', ?_, ?_⟩
  · refine cond_c (fun hc => ?_) (fun hc => ?_)
    · have h0' : 0 < L.length := by have := of_decide_eq_true hc; omega
      refine BO.st (i := 0) (x := true) ho1 (by simpa using h0') fun h2 ho2 k2 => ?_
      exact ⟨ho2, k1.newer (k2.mono fun b _ hb => .inr (ho1.lt b hb).1)⟩
    · have h0' : L.length = 0 := by have := of_decide_eq_false hc; omega
      rw [h0'] at ho1 ⊢
      exact ⟨ho1, k1⟩
  rintro _ h2 ⟨ho2, k2⟩
  have closed : List Bool → Prop := fun B => ∀ i k, bat B i = true → k ∈ nexts L i → bat B k = true
  refine ⟨fun more h' => ∃ (B : List Bool) (m : Bool), more = .bool m ∧ Rb L B ∧ BO h' h0.size V B ∧ Keep (fun _ => False) h0 h' ∧ (m = false → ∀ i k, bat B i = true → k ∈ nexts L i → bat B k = true),
    fun more h' => (L.length - cnt (rdB V h')) * 2 + (match more with | .bool true => 1 | _ => 0), ⟨_, true, rfl, Rb.start L, ho2, k2, fun h => by cases h⟩, ?_⟩
  rintro _ _ h3 ⟨B, m, rfl, hB, ho3, k3, hm⟩
  have hcl := cnt_le B
  have hBl := hB.len
  rw [asB_bool]
  refine cond_c (fun hc => ?_) (fun hc => ?_)
  · subst hc
    refine ⟨fun more i h' => ∃ (B' : List Bool) (m : Bool) (i' : Nat), more = .bool m ∧ i = .int .i64 i' ∧ i' ≤ L.length ∧ Rb L B' ∧ BO h' h0.size V B' ∧ Keep (fun _ => False) h0 h' ∧ cnt B ≤ cnt B' ∧ (m = true → cnt B < cnt B') ∧ (m = false → ∀ i k, i < i' → bat B' i = true → k ∈ nexts L i → bat B' k = true),
      fun _ i _ => match i with | .int _ k => L.length - k.toNat | _ => 0, ⟨B, false, 0, rfl, rfl, by omega, hB, ho3, k3, Nat.le_refl _, fun h => (by cases h), fun _ i k hi => by omega⟩, ?_⟩
    rintro _ _ _ h4 ⟨B4, m4, i, rfl, rfl, hil, hB4, ho4, k4, hc4, hm4, hf4⟩
    have hBl4 := hB4.len
    have hb4 := k4.get hb0 (by simp)
    have hi4 := hi0.keep k4
    refine SlAt.sl ho4.slAt fun _ _ => ?_
    rw [asK_int, hBl4]
    refine cond_c (fun hc => ?_) (fun hc => ?_)
    · have hlt : i < L.length := by have := of_decide_eq_true hc; omega
      have hx := List.getElem?_eq_getElem hlt
      generalize L[i] = x at hx
      have hf4' := hf4
      rw [asK_int]
      refine lx hb4 rfl ?_
      refine hi4.rdTo hx ?_
      rw [oneK_int, i64_in (by omega) (by omega)]
      have hpl := hp_push_new (h := h4) (o := .cells (List.toArray [.int .i64 ((i : Int) + 1), .int .i64 x.2]) 3 (0, 0))
      have kpl := Keep.push (S := fun _ => False) h4 (.cells (List.toArray [.int .i64 ((i : Int) + 1), .int .i64 x.2]) 3 (0, 0))
      have hGlt : h4.size < (Array.push h4 (.cells (List.toArray [.int .i64 ((i : Int) + 1), .int .i64 x.2]) 3 (0, 0))).size := by simp
      have ho5 := OwnH.more ho4 kpl
      have k5 := k4.trans kpl
      generalize Array.push h4 (.cells (List.toArray [.int .i64 ((i : Int) + 1), .int .i64 x.2]) 3 (0, 0)) = h5 at *
      generalize h4.size = Gl at *
      refine ⟨fun more k h' => ∃ (B' : List Bool) (m : Bool) (q : Nat), more = .bool m ∧ k = .int .i64 q ∧ q ≤ 2 ∧ Rq L x Gl h0 V B i B' m q h',
        fun _ k _ => match k with | .int _ k => 2 - k.toNat | _ => 0, ⟨B4, m4, 0, rfl, rfl, by omega, hB4, ho5, k5, hpl, hc4, hm4, hf4', fun _ h => by omega, fun _ h => by omega⟩, ?_⟩
      rintro _ _ _ h6 ⟨B6, m6, q, rfl, rfl, hq, rq⟩
      have hBl6 := rq.rb.len
      have hb6 := rq.keep.get hb0 (by simp)
      have hi6 := hi0.keep rq.keep
      rw [asK_int]
      refine cond_c (fun hc => ?_) (fun hc => ?_)
      · have hq2 : q < 2 := by have := of_decide_eq_true hc; omega
        obtain ⟨z, hz, hzd⟩ : ∃ z : Int, ([.int .i64 ((i : Int) + 1), .int .i64 x.2] : List Value)[q]? = some (.int .i64 z) ∧ ((q = 0 ∧ z = i + 1) ∨ (q = 1 ∧ z = x.2)) := by
          match q, hq2 with
          | 0, _ => exact ⟨_, rfl, .inl ⟨rfl, rfl⟩⟩
          | 1, _ => exact ⟨_, rfl, .inr ⟨rfl, rfl⟩⟩
        refine ⟨fun more h' => ∃ (B' : List Bool) (m : Bool), more = .bool m ∧ Rq L x Gl h0 V B i B' m (q + 1) h', ?_, ?_⟩
        rotate_left
        · rintro _ _ h7 ⟨B7, m7, rfl, rq7⟩
          rw [asK_int, i64_in (by omega) (by omega)]
          exact ⟨⟨B7, m7, q + 1, rfl, by simp, by omega, rq7⟩, by simp; omega⟩
        refine ⟨fun r h' => r = .bool (bat B6 i && (comes L (i : Int) z && !bat B6 z.toNat)) ∧ Keep (fun _ => False) h6 h', ?_, ?_⟩
        · refine SlAt.rd1 rq.own.slAt (bv_at (bat_at (by omega : i < B6.length))) ?_
          rw [asB_bool]
          refine cond_c (fun hc => ?_) (fun hc => ⟨by rw [hc]; rfl, Keep.refl _ _⟩)
          rw [hc, Bool.true_and]
          refine ⟨_, cellsH_blk hb6 rfl, ?_⟩
          rw [asI_int]
          refine ⟨by omega, by omega, ?_⟩
          rw [Int.toNat_natCast, Nat.mul_one]
          refine lx rq.two hz ?_
          refine CallX.use (Comes_law hi6 (by omega) (i : Int) z) ?_
          rintro _ h7 ⟨rfl, k7⟩
          rw [asB_bool]
          refine cond_c (fun hc => ?_) (fun hc => ⟨by rw [hc]; rfl, k7⟩)
          rw [hc, Bool.true_and]
          have hc' := hc
          unfold comes at hc'
          rw [Bool.and_eq_true, Bool.and_eq_true] at hc'
          have hzr := hc'.1.2
          unfold inR at hzr
          rw [Bool.and_eq_true, decide_eq_true_eq, decide_eq_true_eq] at hzr
          obtain ⟨y, rfl⟩ : ∃ y : Nat, z = y := ⟨z.toNat, by omega⟩
          rw [asI_int]
          refine ⟨by omega, by omega, ?_⟩
          rw [Int.toNat_natCast, Nat.mul_one]
          refine lx (k7.get rq.two (by simp)) hz ?_
          refine SlAt.rd1 (OwnH.more rq.own k7).slAt (bv_at (bat_at (by omega : y < B6.length))) ?_
          rw [asB_bool, Int.toNat_natCast]
          exact ⟨rfl, k7⟩
        rintro _ _ h7 ⟨rfl, k7⟩
        refine ⟨fun more h' => ∃ (B' : List Bool) (m : Bool), more = .bool m ∧ Rq L x Gl h0 V B i B' m (q + 1) h', ?_, fun _ _ _ hj => hj⟩
        have ho7 := OwnH.more rq.own k7
        have ht7 := k7.get rq.two (by simp)
        rw [asB_bool]
        refine cond_c (fun hc => ?_) (fun hc => ?_)
        · rw [Bool.and_eq_true, Bool.and_eq_true, Bool.not_eq_true'] at hc
          obtain ⟨hbi, hcm, hbz⟩ := hc
          have hc' := hcm
          unfold comes at hc'
          rw [Bool.and_eq_true, Bool.and_eq_true] at hc'
          have hzr := hc'.1.2
          unfold inR at hzr
          rw [Bool.and_eq_true, decide_eq_true_eq, decide_eq_true_eq] at hzr
          obtain ⟨y, rfl⟩ : ∃ y : Nat, z = y := ⟨z.toNat, by omega⟩
          rw [Int.toNat_natCast] at hbz
          have hE : E L i y := (comes_iff hlt).1 hcm
          rw [asI_int]
          refine ⟨by omega, by omega, ?_⟩
          rw [Int.toNat_natCast, Nat.mul_one]
          refine lx ht7 hz ?_
          refine BO.st (x := true) ho7 (by omega) fun h8 ho8 k8 => ?_
          have hcs := cnt_set (by omega : y < B6.length) hbz
          have hle := rq.le
          refine ⟨B6.set y true, true, rfl, rq.rb.more hbi hE, ho8, (rq.keep.trans k7).newer (k8.mono fun b _ hb => .inr (ho7.lt b hb).1), k8.get ht7 fun hb => ?_, by omega, fun _ => by omega, fun h => (by cases h), fun h => (by cases h), fun h => (by cases h)⟩
          obtain ⟨c, hc⟩ := ho7.blk hb
          rw [ht7] at hc
          cases hc
        · have hno : ∀ k : Nat, (k : Int) = z → bat B6 i = true → k ∈ nexts L i → bat B6 k = true := fun k hkz hbi hk => by
            have hcm := (comes_iff hlt).2 (show E L i k from hk)
            rw [hkz] at hcm
            rw [hbi, hcm, ← hkz, Int.toNat_natCast] at hc
            simpa using hc
          refine ⟨B6, m6, rfl, rq.rb, ho7, rq.keep.trans k7, ht7, rq.le, rq.lt, rq.ahead, fun hm h1 => ?_, fun hm h2 => ?_⟩
          · rcases hzd with ⟨h0, hz0⟩ | ⟨h0, hz0⟩
            · rw [← hz0]; exact hno
            · exact rq.fst hm (by omega)
          · rcases hzd with ⟨h0, hz0⟩ | ⟨h0, hz0⟩
            · omega
            · rw [← hz0]; exact hno
      · have hqe : q = 2 := by have := of_decide_eq_false hc; omega
        subst hqe
        rw [asK_int, i64_in (by omega) (by omega)]
        refine ⟨⟨B6, m6, i + 1, rfl, by simp, by omega, rq.rb, rq.own, rq.keep, rq.le, rq.lt, fun hm j k hj hbj hk => ?_⟩, by simp; omega⟩
        by_cases hji : j = i
        · subst hji
          rcases cand_of hx hk with he | he
          · exact rq.fst hm (by omega) k he hbj hk
          · exact rq.snd hm (Nat.le_refl _) k he hbj hk
        · exact rq.ahead hm j k (by omega) hbj hk
    · have hie : i = L.length := by have := of_decide_eq_false hc; omega
      subst hie
      have hcl4 := cnt_le B4
      refine ⟨⟨B4, m4, rfl, hB4, ho4, k4, fun hmf i k hb hk => hf4 hmf i k (E_lt (show E L i k from hk)).1 hb hk⟩, ?_⟩
      show (L.length - cnt (rdB V h4)) * 2 + _ < (L.length - cnt (rdB V h3)) * 2 + 1
      rw [rdB_own ho4, rdB_own ho3]
      cases m4 with
      | true =>
        have := hm4 rfl
        simp only
        omega
      | false =>
        simp only
        omega
  · subst hc
    have hfix := hm rfl
    refine ⟨fun out i h' => ∃ k : Nat, i = .int .i64 k ∧ k ≤ L.length ∧ IO h' h3.size out (nI (reachL k D)) ∧ Keep (fun _ => False) h3 h',
      fun _ i _ => match i with | .int _ k => L.length - k.toNat | _ => 0, ⟨0, rfl, by omega, OwnH.nil, Keep.refl _ _⟩, ?_⟩
    rintro out _ _ h4 ⟨k, rfl, hk, ho4, k4⟩
    have hB4 := OwnH.more ho3 k4
    refine SlAt.sl hB4.slAt fun _ _ => ?_
    rw [asK_int, hBl]
    refine cond_c (fun hc => ?_) (fun hc => ?_)
    · have hlt : k < L.length := by have := of_decide_eq_true hc; omega
      refine ⟨fun out h' => IO h' h3.size out (nI (reachL (k + 1) D)) ∧ Keep (fun _ => False) h3 h', ?_, ?_⟩
      rotate_left
      · rintro out5 _ h5 ⟨ho5, k5⟩
        rw [asK_int, i64_in (by omega) (by omega)]
        exact ⟨⟨k + 1, by simp, by omega, ho5, k5⟩, by simp; omega⟩
      refine SlAt.rd1 hB4.slAt (bv_at (bat_at (by omega : k < B.length))) ?_
      refine ⟨fun out h' => IO h' h3.size out (nI (reachL (k + 1) D)) ∧ Keep (fun _ => False) h3 h', ?_, fun _ _ _ hj => hj⟩
      have hfl := filt_len k fun k => (D k).isSome
      unfold reachL at ho4 ⊢
      rw [filt_succ, asB_bool, hB.fin hfix hD hlt]
      refine cond_c (fun hc => ?_) (fun hc => ?_)
      · rw [if_pos hc, oneK_int]
        refine ho4.app (by rw [nI_len]; omega) k4.size (k : Int) fun w h5 ho5 k5 _ => ?_
        have : nI ((List.range k).filter (fun k => (D k).isSome) ++ [k]) = nI ((List.range k).filter fun k => (D k).isSome) ++ [(k : Int)] := by simp [nI]
        rw [this]
        exact ⟨ho5, k4.newer (k5.mono fun b _ hb => .inr (ho4.lt b hb).1)⟩
      · rw [if_neg (by rw [hc]; decide), List.append_nil]
        exact ⟨ho4, k4⟩
    · have hke : k = L.length := by have := of_decide_eq_false hc; omega
      subst hke
      exact ⟨ho4.slAt, (k0.trans k3).trans k4⟩
end
end Go.Proofs.Ytihibbejjmldjaa
