/- Ways: what may come behind. -/
import Derived.Test.YtihibbejjmldjaaP5
namespace Go.Proofs.Ytihibbejjmldjaa
open Go Go.Sx Go.Sx.Pa Go.Proofs.Ytihibbejjmldjaa.Sx

/-- the instructions in the heap -/
def InsAt (h : Hp) (v : Value) (L : Pa.Code) : Prop :=
  ∃ cs, SlAt h 11 v L.length cs ∧ (∀ u ∈ cs, one u) ∧ ∀ (i : Nat) (x : Int × Int), L[i]? = some x → cs[i * 11 + 0]? = some (.int .i64 x.1) ∧ cs[i * 11 + 4]? = some (.int .i64 x.2)
theorem InsAt.keep {h h' : Hp} {v : Value} {L : Pa.Code} (hi : InsAt h v L) (hk : Keep (fun _ => False) h h') : InsAt h' v L := by
  obtain ⟨cs, h1, h2, h3⟩ := hi
  exact ⟨cs, h1.keep hk, h2, h3⟩
theorem InsAt.sl {h : Hp} {v : Value} {L : Pa.Code} (hi : InsAt h v L) {F : Option Addr → Nat → Nat → Prop} (hf : ∀ a c, F a L.length c) : asSl v F := by
  obtain ⟨cs, h1, _⟩ := hi
  exact h1.sl hf
theorem InsAt.rd {h : Hp} {v : Value} {L : Pa.Code} (hi : InsAt h v L) {i : Nat} {x : Int × Int} (hx : L[i]? = some x) {K : List Value → Prop} (hk : ∀ C, C.length = 11 → (∀ u ∈ C, one u) → C[0]? = some (.int .i64 x.1) → C[4]? = some (.int .i64 x.2) → K C) :
    asSl1 v fun a l _ => 0 ≤ (i : Int) ∧ (i : Int) < (l : Int) ∧ ∃ C, cellsH h (Addr.add a (Int.toNat (i : Int) * 11)) 11 C ∧ K C := by
  obtain ⟨cs, h1, h2, h3⟩ := hi
  have hl := (List.getElem?_eq_some_iff.1 hx).1
  obtain ⟨h4, h5⟩ := h3 i x hx
  have hcl := h1.1
  rcases h1.2 with ⟨h0, _⟩ | ⟨b, o, cap, rfl, hc⟩
  · omega
  · rw [asSl1_sl]
    have hlen : ((cs.drop (i * 11)).take 11).length = 11 := by
      rw [List.length_take, List.length_drop, hcl]
      omega
    refine ⟨by omega, by omega, (cs.drop (i * 11)).take 11, ⟨hlen, fun j u hu => ?_⟩, hk _ hlen (fun u hu => h2 u (List.mem_of_mem_drop (List.mem_of_mem_take hu))) ?_ ?_⟩
    · rw [addr_add, addr_add, Int.toNat_natCast, Nat.add_assoc]
      refine hc _ u ?_
      rw [List.getElem?_take] at hu
      split at hu
      · rw [List.getElem?_drop] at hu
        exact hu
      · cases hu
    · rw [List.getElem?_take, if_pos (by decide), List.getElem?_drop]
      exact h4
    · rw [List.getElem?_take, if_pos (by decide), List.getElem?_drop]
      exact h5
/-- a code's cells -/
def prc (a b c d v : Value) : List Value := [a, b, c, d, v]
abbrev PB (h : Hp) (G : Nat) (p : List Value) : Prop := h[G]? = some (.cells p.toArray 26 (0, 0))
theorem pb_new (h : Hp) (p : List Value) : PB (Array.push h (.cells (Value.cells (.agg p.toArray)) 26 (0, 0))) h.size p := hp_push_new
def nx (L : Pa.Code) (i : Int) : List Nat := if inR L i = true then nexts L i.toNat else []
theorem nx_nat {L : Pa.Code} {i : Nat} (hi : i < L.length) : nx L (i : Int) = nexts L i := by
  unfold nx inR
  rw [if_pos (by simp; omega), Int.toNat_natCast]

theorem del_out (n : Nat) (k : Int) : (!(decide (k < 0) || decide (k ≥ (n : Int)))) = (decide (0 ≤ k) && decide (k < (n : Int))) := by
  rw [Bool.eq_iff_iff]
  simp
theorem short_nat (n : Nat) : ∀ l : List Int, l.length ≤ 2 → (∀ k ∈ l, 0 ≤ k ∧ k < (n : Int)) → ∃ m : List Nat, comp2 (sort2 l) = nI m ∧ m.Pairwise (· < ·) ∧ ∀ k : Nat, k ∈ m ↔ (k : Int) ∈ l
  | [], _, _ => ⟨[], rfl, .nil, fun k => by simp⟩
  | [x], _, h => by
    have h1 := h x (by simp)
    refine ⟨[x.toNat], ?_, by simp, fun k => ?_⟩
    · show [x] = [((x.toNat : Nat) : Int)]
      congr 1
      omega
    · simp
      omega
  | [x, y], _, h => by
    have h1 := h x (by simp)
    have h2 := h y (by simp)
    have ex : ((x.toNat : Nat) : Int) = x := by omega
    have ey : ((y.toNat : Nat) : Int) = y := by omega
    by_cases hlt : y < x
    · refine ⟨[y.toNat, x.toNat], ?_, ?_, fun k => ?_⟩
      · rw [sort2_lt hlt, show comp2 [y, x] = [y, x] from if_neg (by omega)]
        show [y, x] = [((y.toNat : Nat) : Int), ((x.toNat : Nat) : Int)]
        rw [ex, ey]
      · simp
        omega
      · simp
        omega
    · rw [sort2_ge hlt]
      by_cases he : y = x
      · refine ⟨[x.toNat], ?_, by simp, fun k => ?_⟩
        · rw [show comp2 [x, y] = [x] from if_pos he]
          show [x] = [((x.toNat : Nat) : Int)]
          rw [ex]
        · simp
          omega
      · refine ⟨[x.toNat, y.toNat], ?_, ?_, fun k => ?_⟩
        · rw [show comp2 [x, y] = [x, y] from if_neg he]
          show [x, y] = [((x.toNat : Nat) : Int), ((y.toNat : Nat) : Int)]
          rw [ex, ey]
        · simp
          omega
        · simp
          omega
  | x :: y :: z :: l, hl, _ => by simp at hl
theorem cand_len (L : Pa.Code) (i : Nat) : (cand L i).length ≤ 2 := by
  unfold cand
  split
  · simp
  · repeat' split
    all_goals simp
theorem next_eq (L : Pa.Code) (i : Nat) : comp2 (sort2 ((cand L i).filter fun k => !(decide (k < 0) || decide (k ≥ (L.length : Int))))) = nI (nexts L i) := by
  have hm : ∀ k : Int, k ∈ (cand L i).filter (fun k => !(decide (k < 0) || decide (k ≥ (L.length : Int)))) ↔ k ∈ cand L i ∧ 0 ≤ k ∧ k < (L.length : Int) := fun k => by
    rw [List.mem_filter, del_out]
    simp
  obtain ⟨m, h1, h2, h3⟩ := short_nat L.length ((cand L i).filter fun k => !(decide (k < 0) || decide (k ≥ (L.length : Int)))) (Nat.le_trans (List.length_filter_le _ _) (cand_len L i)) fun k hk => ((hm k).1 hk).2
  rw [h1]
  congr 1
  refine up_ext h2 (nexts_up L i) fun k => ?_
  rw [h3, hm, nexts, List.mem_filter, List.mem_range, decide_eq_true_eq]
  exact ⟨fun h => ⟨by omega, h.1⟩, fun h => ⟨h.2, by omega, by omega⟩⟩
theorem nexts_len (L : Pa.Code) (i : Nat) : (nexts L i).length ≤ L.length := by
  unfold nexts
  exact Nat.le_trans (List.length_filter_le _ _) (by simp)
theorem nx_len (L : Pa.Code) (i : Int) : (nx L i).length ≤ L.length := by
  unfold nx
  split
  · exact nexts_len _ _
  · simp

section
variable {ω : Amb} {L : Pa.Code} {pa pb pc pd pv : Value}
theorem Next1_law {h : Hp} {G : Nat} (hb : PB h G (prc pa pb pc pd pv)) (hi : InsAt h pv L) (k : Int) (Y : List PanicEntry → Hp → Prop) :
    callK Try.prog ω (.func (.func 25) #[] #[(.pointer (some ⟨G, 0, none⟩))]) [.int .i64 k] h (fun r h' => r = .bool (decide (k < 0) || decide (k ≥ (L.length : Int))) ∧ h' = h) Y := by
  have hca : callable Try.prog 25 = true := by kernel_rfl
  unfold callK
  simp only [hca, cond_true]
  refine C_paths_Next_1 ω _ _ h _ Y ?_
  unfold W_paths_Next_1
  refine ⟨fun r h' => r = .bool (decide (k < 0) || decide (k ≥ (L.length : Int))) ∧ h' = h, ?_, fun _ _ _ hj => hj⟩
  rw [asK_int]
  refine cond_c (fun hc => ⟨by rw [hc]; rfl, rfl⟩) (fun hc => ?_)
  rw [asP_some]
  refine lx hb rfl ?_
  refine hi.sl fun _ _ => ?_
  rw [asK_int, hc]
  exact ⟨rfl, rfl⟩

theorem Comes_law {h : Hp} (hi : InsAt h pv L) (hn : L.length ≤ 1000000) (i k : Int) (X : List PanicEntry → Hp → Prop) :
    CallX Try.prog ω n_pipewrightref_Comes [.agg (prc pa pb pc pd pv).toArray, .int .i64 i, .int .i64 k] h (fun r h' => r = .bool (comes L i k) ∧ Keep (fun _ => False) h h') X := by
  refine C_pipewrightref_Comes ω _ _ _ h _ X ?_
  unfold W_pipewrightref_Comes
  have hb1 := pb_new h (prc pa pb pc pd pv)
  have k1 := Keep.push (S := fun _ => False) h (.cells (Value.cells (.agg (prc pa pb pc pd pv).toArray)) 26 (0, 0))
  have hi1 := hi.keep k1
  generalize Array.push h (.cells (Value.cells (.agg (prc pa pb pc pd pv).toArray)) 26 (0, 0)) = h1 at *
  generalize h.size = G at *
  refine ⟨!(inR L i && inR L k), ?_, fun _ => cond_c (fun hc => ?_) (fun hc => ?_)⟩
  · unfold inR
    rw [asK_int]
    refine cond_c (fun hc => ?_) (fun hc => ?_)
    · have := of_decide_eq_true hc
      rw [decide_eq_false (by omega : ¬ 0 ≤ i)]
      exact ⟨rfl, rfl⟩
    have h1' := of_decide_eq_false hc
    rw [asK_int]
    refine cond_c (fun hc => ?_) (fun hc => ?_)
    · have := of_decide_eq_true hc
      rw [decide_eq_false (by omega : ¬ 0 ≤ k), Bool.false_and, Bool.and_false]
      exact ⟨rfl, rfl⟩
    have h2' := of_decide_eq_false hc
    refine lx hb1 rfl ?_
    refine hi1.sl fun _ _ => ?_
    rw [asK_int]
    refine cond_c (fun hc => ?_) (fun hc => ?_)
    · have := of_decide_eq_true hc
      rw [decide_eq_false (by omega : ¬ i < (L.length : Int)), Bool.and_false]
      exact ⟨rfl, rfl⟩
    have h3' := of_decide_eq_false hc
    refine lx hb1 rfl ?_
    refine hi1.sl fun _ _ => ?_
    rw [asK_int]
    refine ⟨?_, rfl⟩
    congr 1
    rw [Bool.eq_iff_iff]
    simp
    omega
  · unfold comes
    have : (inR L i && inR L k) = false := by rw [Bool.not_eq_true'] at hc; exact hc
    rw [this]
    exact ⟨rfl, k1⟩
  · have hin : (inR L i && inR L k) = true := by simpa using hc
    unfold comes
    rw [hin, Bool.true_and]
    rw [Bool.and_eq_true] at hin
    have hii := hin.1
    unfold inR at hii
    rw [Bool.and_eq_true, decide_eq_true_eq, decide_eq_true_eq] at hii
    obtain ⟨m, rfl⟩ : ∃ m : Nat, i = m := ⟨i.toNat, by omega⟩
    have hm : m < L.length := by omega
    have hx := List.getElem?_eq_getElem hm
    generalize L[m] = x at hx
    rw [Int.toNat_natCast]
    refine lx hb1 rfl ?_
    refine hi1.rd hx fun C hC1 hC2 hC3 hC4 => ?_
    refine ⟨hC1, by simpa using hC2, storeK_local (cs := C) (by rw [hC1]; rfl) ?_⟩
    have hb2 := hp_push_new (h := h1) (o := .cells C.toArray 41 (0, 0))
    have k2 := k1.trans (Keep.push (S := fun _ => False) h1 (.cells C.toArray 41 (0, 0)))
    generalize h1.push (.cells C.toArray 41 (0, 0)) = h2 at *
    generalize h1.size = G2 at *
    refine lx hb2 hC3 ?_
    have hcand : cand L m = if x.1 = 17 then [] else if x.1 = 15 then [x.2] else if x.1 = 14 ∨ x.1 = 13 ∨ x.1 = 11 then [(m : Int) + 1, x.2] else [(m : Int) + 1] := by
      unfold cand
      rw [hx]
    rw [hcand, asK_int]
    refine cond_c (fun hc => ?_) (fun hc => ?_)
    · rw [if_pos (eq_of_beq hc)]
      exact ⟨rfl, k2⟩
    rw [if_neg (beq_eq_false_iff_ne.1 hc), asK_int]
    refine cond_c (fun hc => ?_) (fun hc => ?_)
    · rw [if_pos (eq_of_beq hc)]
      refine lx hb2 hC4 ?_
      rw [asK_int, asK_int]
      exact ⟨by congr 1; rw [Bool.eq_iff_iff]; simp, k2⟩
    rw [if_neg (beq_eq_false_iff_ne.1 hc), asK_int]
    refine ⟨fun r h' => r = .bool (decide (x.1 = 14 ∨ x.1 = 13 ∨ x.1 = 11)) ∧ h' = h2, ?_, ?_⟩
    · refine cond_c (fun hc => ⟨by rw [hc, decide_eq_true (.inl (eq_of_beq hc))], rfl⟩) (fun hc => ?_)
      have n1 := beq_eq_false_iff_ne.1 hc
      rw [asK_int]
      refine ⟨fun r h' => r = .bool (decide (x.1 = 14 ∨ x.1 = 13 ∨ x.1 = 11)) ∧ h' = h2, ?_, fun _ _ _ hj => hj⟩
      refine cond_c (fun hc => ⟨by rw [hc, decide_eq_true (.inr (.inl (eq_of_beq hc)))], rfl⟩) (fun hc => ?_)
      have n2 := beq_eq_false_iff_ne.1 hc
      rw [asK_int]
      refine ⟨?_, rfl⟩
      congr 1
      rw [Bool.eq_iff_iff]
      simp [n1, n2]
    rintro _ _ _ ⟨rfl, hh⟩
    rw [hh, asB_bool]
    refine cond_c (fun hc => ?_) (fun hc => ?_)
    · rw [if_pos (of_decide_eq_true hc)]
      refine ⟨fun r h' => r = .bool (decide (k ∈ [(m : Int) + 1, x.2])) ∧ h' = h2, ?_, ?_⟩
      · rw [asK_int, asK_int, i64_in (by omega) (by omega)]
        refine cond_c (fun hc => ?_) (fun hc => ?_)
        · have := eq_of_beq hc
          exact ⟨by rw [decide_eq_true]; simp [this], rfl⟩
        · have := beq_eq_false_iff_ne.1 hc
          refine lx hb2 hC4 ?_
          rw [asK_int, asK_int]
          exact ⟨by congr 1; rw [Bool.eq_iff_iff]; simp [this], rfl⟩
      rintro _ _ _ ⟨rfl, hh⟩
      rw [hh]
      exact ⟨rfl, k2⟩
    · rw [if_neg (of_decide_eq_false hc), asK_int, asK_int, i64_in (by omega) (by omega)]
      exact ⟨by congr 1; rw [Bool.eq_iff_iff]; simp, k2⟩

theorem Nexts_law {h : Hp} (hi : InsAt h pv L) (hn : L.length ≤ 1000000) (i : Int) (X : List PanicEntry → Hp → Prop) :
    CallX Try.prog ω n_pipewrightref_Nexts [.agg (prc pa pb pc pd pv).toArray, .int .i64 i] h (fun r h' => IO h' h.size r (nI (nx L i)) ∧ Keep (fun _ => False) h h') X := by
  refine C_pipewrightref_Nexts ω _ _ h _ X ?_
  unfold W_pipewrightref_Nexts
  have hb1 := pb_new h (prc pa pb pc pd pv)
  have k1 := Keep.push (S := fun _ => False) h (.cells (Value.cells (.agg (prc pa pb pc pd pv).toArray)) 26 (0, 0))
  have hi1 := hi.keep k1
  generalize hh1 : Array.push h (.cells (Value.cells (.agg (prc pa pb pc pd pv).toArray)) 26 (0, 0)) = h1 at *
  have hnx : nx L i = (List.range L.length).filter fun (k : Nat) => comes L i (k : Int) := by
    unfold nx comes
    by_cases hin : inR L i = true
    · rw [if_pos hin, nexts]
      refine List.filter_congr fun k hk => ?_
      rw [List.mem_range] at hk
      have : inR L (k : Int) = true := by unfold inR; simp; omega
      rw [hin, this]
      simp
    · rw [if_neg hin]
      have : inR L i = false := by simpa using hin
      simp [this]
  refine ⟨fun out k h' => ∃ k' : Nat, k = .int .i64 k' ∧ k' ≤ L.length ∧ IO h' h.size out (nI ((List.range k').filter fun (k : Nat) => comes L i (k : Int))) ∧ Keep (fun _ => False) h1 h',
    fun _ k _ => match k with | .int _ k => L.length - k.toNat | _ => 0, ⟨0, rfl, by omega, OwnH.nil, Keep.refl _ _⟩, ?_⟩
  rintro out _ _ h2 ⟨k, rfl, hk, ho2, k2⟩
  have hi2 := hi1.keep k2
  have hb2 := k2.get hb1 (by simp)
  refine lx hb2 rfl ?_
  refine hi2.sl fun _ _ => ?_
  rw [asK_int]
  refine cond_c (fun hc => ?_) (fun hc => ?_)
  · have hlt : k < L.length := by have := of_decide_eq_true hc; omega
    have hr : (List.range (k + 1)).filter (fun (k : Nat) => comes L i (k : Int)) = (List.range k).filter (fun (k : Nat) => comes L i (k : Int)) ++ (if comes L i (k : Int) = true then [k] else []) := by
      rw [List.range_succ, List.filter_append]
      congr 1
      by_cases hcm : comes L i (k : Int) = true
      · rw [if_pos hcm]; simp [hcm]
      · rw [if_neg hcm]
        have : comes L i (k : Int) = false := by simpa using hcm
        simp [this]
    have hlen : (nI ((List.range k).filter fun (k : Nat) => comes L i (k : Int))).length ≤ k := by
      rw [nI_len]
      exact Nat.le_trans (List.length_filter_le _ _) (by simp)
    refine ⟨fun out h' => IO h' h.size out (nI ((List.range (k + 1)).filter fun (k : Nat) => comes L i (k : Int))) ∧ Keep (fun _ => False) h1 h', ?_, ?_⟩
    rotate_left
    · rintro out3 _ h3 ⟨ho3, k3⟩
      rw [asK_int, i64_in (by omega) (by omega)]
      exact ⟨⟨k + 1, by simp, by omega, ho3, k3⟩, by simp; omega⟩
    refine ⟨_, cellsH_blk hb2 rfl, ?_⟩
    refine CallX.use (Comes_law hi2 hn i (k : Int)) ?_
    rintro _ h3 ⟨rfl, k3⟩
    refine ⟨fun out h' => IO h' h.size out (nI ((List.range (k + 1)).filter fun (k : Nat) => comes L i (k : Int))) ∧ Keep (fun _ => False) h1 h', ?_, fun _ _ _ hj => hj⟩
    rw [asB_bool]
    have ho3 := OwnH.more ho2 k3
    refine cond_c (fun hc => ?_) (fun hc => ?_)
    · rw [oneK_int]
      refine IO.app ho3 (by omega) (Nat.le_trans (k1.trans k2).size k3.size) (k : Int) fun w h4 ho4 k4 _ => ?_
      rw [hr, if_pos hc]
      refine ⟨by simpa [nI] using ho4, (k2.trans k3).newer (k4.mono fun b hb hbb => .inr ?_)⟩
      have := (ho3.lt b hbb).1
      subst hh1
      rcases Nat.lt_or_ge b (h.size + 1) with h1 | h1
      · have hbh : b = h.size := by omega
        obtain ⟨c, hc⟩ := ho2.blk hbb
        rw [hbh, hb2] at hc
        cases hc
      · simpa using h1
    · rw [hr, if_neg (by rw [hc]; decide), List.append_nil]
      exact ⟨ho3, k2.trans k3⟩
  · have hke : k = L.length := by have := of_decide_eq_false hc; omega
    subst hke
    rw [hnx]
    exact ⟨ho2, k1.trans k2⟩

theorem Next_law {h : Hp} (hi : InsAt h pv L) (hn : L.length ≤ 1000000) (i : Int) (X : List PanicEntry → Hp → Prop) :
    CallX Try.prog ω n_paths_Next [.agg (prc pa pb pc pd pv).toArray, .int .i64 i] h (fun r h' => IO h' h.size r (nI (nx L i)) ∧ Keep (fun _ => False) h h') X := by
  refine C_paths_Next ω _ _ h _ X ?_
  unfold W_paths_Next
  have hb1 := pb_new h (prc pa pb pc pd pv)
  have k1 := Keep.push (S := fun _ => False) h (.cells (Value.cells (.agg (prc pa pb pc pd pv).toArray)) 26 (0, 0))
  have hi1 := hi.keep k1
  generalize Array.push h (.cells (Value.cells (.agg (prc pa pb pc pd pv).toArray)) 26 (0, 0)) = h1 at *
  refine ⟨!inR L i, ?_, fun _ => cond_c (fun hc => ?_) (fun hc => ?_)⟩
  · unfold inR
    rw [asK_int]
    refine cond_c (fun hc => ?_) (fun hc => ?_)
    · have := of_decide_eq_true hc
      rw [decide_eq_false (by omega : ¬ 0 ≤ i)]
      exact ⟨rfl, rfl⟩
    have h1' := of_decide_eq_false hc
    refine lx hb1 rfl ?_
    refine hi1.sl fun _ _ => ?_
    rw [asK_int]
    refine ⟨?_, rfl⟩
    congr 1
    rw [Bool.eq_iff_iff]
    simp
    omega
  · have : inR L i = false := by simpa using hc
    unfold nx
    rw [this]
    exact ⟨OwnH.nil, k1⟩
  · have hin : inR L i = true := by simpa using hc
    unfold nx
    rw [if_pos hin]
    unfold inR at hin
    rw [Bool.and_eq_true, decide_eq_true_eq, decide_eq_true_eq] at hin
    obtain ⟨m, rfl⟩ : ∃ m : Nat, i = m := ⟨i.toNat, by omega⟩
    have hm : m < L.length := by omega
    have hx := List.getElem?_eq_getElem hm
    generalize L[m] = x at hx
    rw [Int.toNat_natCast]
    refine lx hb1 rfl ?_
    refine hi1.rd hx fun C hC1 hC2 hC3 hC4 => ?_
    refine ⟨hC1, by simpa using hC2, storeK_local (cs := C) (by rw [hC1]; rfl) ?_⟩
    have hb2 := hp_push_new (h := h1) (o := .cells C.toArray 41 (0, 0))
    have k12 := Keep.push (S := fun _ => False) h1 (.cells C.toArray 41 (0, 0))
    have k2 := k1.trans k12
    have hpb2 := k12.get hb1 (by simp)
    have hi2 := hi1.keep k12
    generalize h1.push (.cells C.toArray 41 (0, 0)) = h2 at *
    generalize h1.size = G2 at *
    have h2s : h.size ≤ h2.size := k2.size
    have hcand : cand L m = if x.1 = 17 then [] else if x.1 = 15 then [x.2] else if x.1 = 14 ∨ x.1 = 13 ∨ x.1 = 11 then [(m : Int) + 1, x.2] else [(m : Int) + 1] := by
      unfold cand
      rw [hx]
    have lit : ∀ l : List Int, l.length ≤ 2 → l = cand L m → IO (Array.push h2 (.cells (iv l).toArray 3 (0, 0))) h.size (.slice (some ⟨h2.size, 0, none⟩) l.length l.length) (cand L m) ∧ Keep (fun _ => False) h2 (Array.push h2 (.cells (iv l).toArray 3 (0, 0))) := fun l hl he => by
      rw [← he]
      exact ⟨(IO.lit l (by omega)).base h2s, Keep.push _ _⟩
    refine lx hb2 hC3 ?_
    refine ⟨fun r h' => IO h' h.size r (cand L m) ∧ Keep (fun _ => False) h2 h', ?_, ?_⟩
    · rw [asK_int]
      refine ⟨fun r h' => IO h' h.size r (cand L m) ∧ Keep (fun _ => False) h2 h', ?_, fun _ _ _ hj => hj⟩
      refine cond_c (fun hc => ?_) (fun hc => ?_)
      · rw [hcand, if_pos (eq_of_beq hc)]
        exact ⟨OwnH.nil, Keep.refl _ _⟩
      rw [if_neg (beq_eq_false_iff_ne.1 hc)] at hcand
      rw [asK_int]
      refine ⟨fun r h' => IO h' h.size r (cand L m) ∧ Keep (fun _ => False) h2 h', ?_, fun _ _ _ hj => hj⟩
      refine cond_c (fun hc => ?_) (fun hc => ?_)
      · rw [if_pos (eq_of_beq hc)] at hcand
        refine lx hb2 hC4 ?_
        rw [oneK_int]
        exact lit [x.2] (by simp) hcand.symm
      rw [if_neg (beq_eq_false_iff_ne.1 hc)] at hcand
      rw [asK_int]
      refine ⟨fun r h' => r = .bool (decide (x.1 = 14 ∨ x.1 = 13 ∨ x.1 = 11)) ∧ h' = h2, ?_, ?_⟩
      · refine cond_c (fun hc => ⟨by rw [hc, decide_eq_true (.inl (eq_of_beq hc))], rfl⟩) (fun hc => ?_)
        have n1 := beq_eq_false_iff_ne.1 hc
        rw [asK_int]
        refine ⟨fun r h' => r = .bool (decide (x.1 = 14 ∨ x.1 = 13 ∨ x.1 = 11)) ∧ h' = h2, ?_, fun _ _ _ hj => hj⟩
        refine cond_c (fun hc => ⟨by rw [hc, decide_eq_true (.inr (.inl (eq_of_beq hc)))], rfl⟩) (fun hc => ?_)
        have n2 := beq_eq_false_iff_ne.1 hc
        rw [asK_int]
        refine ⟨?_, rfl⟩
        congr 1
        rw [Bool.eq_iff_iff]
        simp [n1, n2]
      rintro _ _ _ ⟨rfl, hh⟩
      rw [hh]
      refine ⟨fun r h' => IO h' h.size r (cand L m) ∧ Keep (fun _ => False) h2 h', ?_, fun _ _ _ hj => hj⟩
      rw [asB_bool]
      refine cond_c (fun hc => ?_) (fun hc => ?_)
      · rw [if_pos (of_decide_eq_true hc)] at hcand
        rw [asK_int, i64_in (by omega) (by omega)]
        refine lx hb2 hC4 ?_
        rw [oneK_int]
        exact lit [(m : Int) + 1, x.2] (by simp) hcand.symm
      · rw [if_neg (of_decide_eq_false hc)] at hcand
        rw [asK_int, i64_in (by omega) (by omega)]
        exact lit [(m : Int) + 1] (by simp) hcand.symm
    · rintro r _ h3 ⟨ho3, k3⟩
      have hpb3 := k3.get hpb2 (by simp)
      have hi3 := hi2.keep k3
      have hrG : ∀ k, r.ownBlock = some k → k ≠ h.size := fun k hk hkh => by
        obtain ⟨c, hc⟩ := ho3.blk hk
        rw [hkh, hpb3] at hc
        cases hc
      have hfr : Keep (fun _ => False) h h3 := k2.trans k3
      have hcl := cand_len L m
      refine CallX.use (Del_law ho3 (by omega) (p := fun k => decide (k < 0) || decide (k ≥ (L.length : Int))) fun h' hk z Y => Next1_law (hk.get hpb3 fun hkk => hrG _ hkk rfl) (hi.keep (hfr.newer (hk.mono fun k _ hkk => .inr (ho3.lt k hkk).1))) z Y) ?_
      rintro r4 h4 ⟨ho4, k4, hr4⟩
      have hfl := Nat.le_trans (List.length_filter_le (fun k => !(decide (k < 0) || decide (k ≥ (L.length : Int)))) (cand L m)) hcl
      refine CallX.use (Sort_law ho4 hfl) ?_
      rintro _ h5 ⟨ho5, k5⟩
      have hs2 : (sort2 ((cand L m).filter fun k => !(decide (k < 0) || decide (k ≥ (L.length : Int))))).length ≤ 2 := by
        generalize (cand L m).filter (fun k => !(decide (k < 0) || decide (k ≥ (L.length : Int)))) = l at *
        unfold sort2
        split
        · split <;> simp
        · exact hfl
      refine CallX.use (Compact_law ho5 hs2) ?_
      rintro r6 h6 ⟨ho6, k6, hr6⟩
      rw [next_eq] at ho6
      refine ⟨ho6, ?_⟩
      have k34 : Keep (fun _ => False) h h4 := hfr.newer (k4.mono fun k _ hkk => .inr (ho3.lt k hkk).1)
      have k35 : Keep (fun _ => False) h h5 := k34.newer (k5.mono fun k _ hkk => .inr (ho4.lt k hkk).1)
      exact k35.newer (k6.mono fun k _ hkk => .inr (ho5.lt k hkk).1)
end
end Go.Proofs.Ytihibbejjmldjaa
