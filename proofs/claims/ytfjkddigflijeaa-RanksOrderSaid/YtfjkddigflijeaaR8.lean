/- Ranks: Ranks. -/
import Derived.Test.YtfjkddigflijeaaR7
namespace Go.Proofs.Ytfjkddigflijeaa
open Go Go.Sx Go.Sx.Pa Go.Sx.Ra Go.Proofs.Ytfjkddigflijeaa.Sx

theorem IO.zero (h : Hp) (n : Nat) (hn : n ≤ 1000000) : IO (Array.push h (.cells (Array.replicate n (Value.int .i64 0)) 3 (0, 0))) h.size (.slice (some ⟨h.size, 0, none⟩) n n) (List.replicate n 0) := by
  have hb := hp_push_new (h := h) (o := .cells (iv (List.replicate n 0)).toArray 3 (0, 0))
  have he : (iv (List.replicate n 0)).toArray = Array.replicate n (Value.int .i64 0) := by simp [iv]
  rw [he] at hb
  rw [IO, List.length_replicate]
  exact ownBlk (by rw [he]; exact hb) (by simp [iv]) (by simp only [maxLen]; omega) (Nat.le_refl _)
theorem IS.sl {h : Hp} {v : Value} {xs : List Int} (hs : IS h v xs) {F : Option Addr → Nat → Nat → Prop} (hf : ∀ a c, F a xs.length c) : asSl v F := SlAt.sl hs hf

/-- how often b comes behind those ahead of i, and i's first j -/
def cu (S : Nat → List Nat) (i j b : Nat) : Nat := (List.range i).countP (fun a => decide (b ∈ S a)) + if b ∈ (S i).take j then 1 else 0
theorem cu_done (S : Nat → List Nat) (i b : Nat) : cu S i (S i).length b = cu S (i + 1) 0 b := by
  unfold cu
  rw [List.take_length, List.take_zero, List.range_succ, List.countP_append, List.countP_cons, List.countP_nil]
  simp
theorem cu_zero (S : Nat → List Nat) (b : Nat) : cu S 0 0 b = 0 := by simp [cu]
theorem cu_step {S : Nat → List Nat} (hS : ∀ a, (S a).Pairwise (· < ·)) {i j k : Nat} (hj : (S i)[j]? = some k) (m : Nat) : cu S i (j + 1) m = if m = k then cu S i j m + 1 else cu S i j m := by
  obtain ⟨hl, rfl⟩ := List.getElem?_eq_some_iff.1 hj
  have hnd : (S i)[j] ∉ (S i).take j := by
    intro hm
    obtain ⟨q, hq, he⟩ := List.mem_take_iff_getElem.1 hm
    have := List.pairwise_iff_getElem.1 (hS i) q j (by omega) hl (by omega)
    omega
  unfold cu
  rw [List.take_succ_eq_append_getElem hl]
  by_cases hm : m = (S i)[j]
  · subst hm
    rw [if_pos rfl, if_neg hnd, if_pos (List.mem_append_right _ (List.mem_singleton.2 rfl))]
  · rw [if_neg hm]
    congr 1
    simp only [List.mem_append, List.mem_singleton, hm, or_false]
theorem cu_le (S : Nat → List Nat) (i j b : Nat) : cu S i j b ≤ i + 1 := by
  unfold cu
  have : (List.range i).countP (fun a => decide (b ∈ S a)) ≤ (List.range i).length := List.countP_le_length
  rw [List.length_range] at this
  split <;> omega
theorem cu_left (n : Nat) (S : Nat → List Nat) (b : Nat) : cu S n 0 b = left n S (fun _ _ => false) b := by
  unfold cu left
  rw [List.take_zero, if_neg (by simp), Nat.add_zero]
  refine List.countP_congr fun a _ => ?_
  simp
theorem left_le (n : Nat) (S : Nat → List Nat) (C : Nat → Nat → Bool) (b : Nat) : left n S C b ≤ n := by
  have : left n S C b ≤ (List.range n).length := List.countP_le_length
  rwa [List.length_range] at this
/-- those of the first k that are 0 -/
def zr (i : List Int) (k : Nat) : List Nat := (List.range k).filter fun b => vz i b == 0
theorem zr_step (i : List Int) (k : Nat) : zr i (k + 1) = if vz i k == 0 then zr i k ++ [k] else zr i k := by
  unfold zr
  rw [List.range_succ, List.filter_append]
  by_cases h : vz i k == 0
  · rw [if_pos h]; simp [h]
  · rw [if_neg h]; simp [h]
theorem zr_len (i : List Int) (k : Nat) : (zr i k).length ≤ k := by
  have := List.length_filter_le (fun b => vz i b == 0) (List.range k)
  rwa [List.length_range] at this
theorem Ka_start {n : Nat} {S : Nat → List Nat} {i : List Int} (hl : i.length = n) (hi : ∀ b, b < n → vz i b = (left n S (fun _ _ => false) b : Nat)) : Ka n S (fun _ _ => false) [] (zr i n) (List.replicate n 0) i := by
  refine ⟨by simp, hl, hi, (fun a b h => by cases h), List.nodup_nil, (fun a ha => by cases ha), ?_, fun b => ?_, (fun a b h => by cases h), fun b _ => .inl (vz_rep n b), fun b _ => by rw [vz_rep]; simp⟩
  · exact List.Pairwise.filter _ List.nodup_range
  · unfold zr
    rw [List.mem_filter, List.mem_range, beq_iff_eq]
    simp

/-- on the way of Ranks -/
structure Kx (n : Nat) (S : Nat → List Nat) (C : Nat → Nat → Bool) (pr q : List Nat) (o i : List Int) (hB : Hp) (vi vo row : Value) (qq : List Nat) (h' : Hp) : Prop where
  ii : IO h' hB.size vi i
  oo : IO h' hB.size vo o
  rr : IO h' hB.size row (nI qq)
  d1 : ∀ b, vi.ownBlock = some b → vo.ownBlock ≠ some b
  d2 : ∀ b, vi.ownBlock = some b → row.ownBlock ≠ some b
  d3 : ∀ b, vo.ownBlock = some b → row.ownBlock ≠ some b
  ka : Ka n S C pr q o i
  keep : Keep (fun _ => False) hB h'
theorem Ka.len {n : Nat} {S : Nat → List Nat} {C : Nat → Nat → Bool} {pr q : List Nat} {o i : List Int} (h : Ka n S C pr q o i) : pr.length ≤ n ∧ q.length ≤ n := by
  refine ⟨?_, ?_⟩
  · have := nodup_sub (m := List.range n) h.prn fun a ha => List.mem_range.2 (h.prl a ha).1
    simpa using this
  · have := nodup_sub (m := List.range n) h.qn fun a ha => List.mem_range.2 ((h.qm a).1 ha).1
    simpa using this

/-- what Ranks tells -/
def RkRes (n : Int) (E : List (Int × Int)) (h : Hp) (r : Value) (h' : Hp) : Prop :=
  ((chk n E).1 ≠ 0 ∧ r = .tuple #[.slice none 0 0, .agg (flt (chk n E).1 (chk n E).2).toArray]) ∨
  ((chk n E).1 = 0 ∧ NoRk (esOf E) ∧ r = .tuple #[.slice none 0 0, .agg (flt 17 (-1)).toArray]) ∨
  ((chk n E).1 = 0 ∧ ∃ (w : Value) (o : List Int), r = .tuple #[w, .agg (flt 0 0).toArray] ∧ IO h' h.size w o ∧ o.length = n.toNat ∧ IsRk n.toNat (esOf E) (fun b => (vz o b).toNat) ∧ ∀ b, b < n.toNat → 0 ≤ vz o b ∧ vz o b ≤ n)

section
variable {ω : Amb}
theorem Ranks_law {h : Hp} {v : Value} {E : List (Int × Int)} {n : Int} (hs : EdAt h v E) (X : List PanicEntry → Hp → Prop) :
    CallX Try.prog ω n_ranks_Ranks [.int .i64 n, v] h (fun r h' => RkRes n E h r h' ∧ Keep (fun _ => False) h h') X := by
  refine C_ranks_Ranks ω _ _ h _ X ?_
  unfold W_ranks_Ranks
  have hb0 := hp_push_new (h := h) (o := .cells (flt 0 0).toArray 25 (0, 0))
  have k0 := Keep.push (S := fun _ => False) h (.cells (flt 0 0).toArray 25 (0, 0))
  have hs0 := EdAt.keep hs k0
  refine CallX.use (Check_law hs0 n) ?_
  rintro _ h1 ⟨rfl, k1⟩
  rw [asA_agg]
  have hb1 := k1.get hb0 (by simp)
  have k1 := k0.trans k1
  refine ⟨rfl, flt_one _ _, storeK_local (cs := flt (chk n E).1 (chk n E).2) rfl ?_⟩
  have hb3 := hp_push_new (h := h1) (o := .cells (flt (chk n E).1 (chk n E).2).toArray 25 (0, 0))
  have kp3 := Keep.push (S := fun _ => False) h1 (.cells (flt (chk n E).1 (chk n E).2).toArray 25 (0, 0))
  have hf3 := kp3.get hb1 (by simp)
  have k3 := k1.trans kp3
  generalize h1.push (.cells (flt (chk n E).1 (chk n E).2).toArray 25 (0, 0)) = h3 at *
  refine lx hb3 rfl ?_
  rw [asK_int]
  refine cond_c (fun hc => ?_) (fun hc => ?_)
  · have hne : (chk n E).1 ≠ 0 := by simpa using hc
    refine ⟨_, cellsH_blk hb3 rfl, rfl, flt_one _ _, finF (cs := flt (chk n E).1 (chk n E).2) hf3 rfl rfl fun h4 k4 _ => ?_⟩
    exact ⟨.inl ⟨hne, rfl⟩, k3.newer (k4.mono fun b _ hb => .inr (Nat.le_of_eq hb.symm))⟩
  have hz : (chk n E).1 = 0 := by simpa using hc
  obtain ⟨hn0, hn1, hE, hg⟩ := chk_zero hz
  obtain ⟨m, rfl⟩ : ∃ m : Nat, n = m := ⟨n.toNat, by omega⟩
  have hok := es_ok hg
  have hs3 := EdAt.keep hs k3
  refine CallX.use (next_law hs3 (by omega) hE hg) ?_
  rintro r9 hB ⟨hr9, kB⟩
  have hfB := kB.get hf3 (by simp)
  have kB := k3.trans kB
  obtain ⟨vals, hvB⟩ := hr9
  have hS : ∀ a b, b ∈ succ m (esOf E) a → b < m := fun a b hb => succ_lt hb
  have hup : ∀ a, (succ m (esOf E) a).Pairwise (· < ·) := succ_up m (esOf E)
  have hSl : ∀ a, (succ m (esOf E) a).length ≤ m := succ_len m (esOf E)
  -- into
  refine makeK_of (z := [.int .i64 0]) (bt := 8) (el := 3) (sz := 1) (by kernel_rfl) (by kernel_rfl) (by omega) (by omega) (by omega) ?_
  rw [Int.toNat_natCast, zeroRow_one]
  have hi4 := IO.zero hB m (by omega)
  have k4 := Keep.push (S := fun _ => False) hB (.cells (Array.replicate m (Value.int .i64 0)) 3 (0, 0))
  have hV4lt : (Value.slice (some ⟨hB.size, 0, none⟩) m m).ownBlock = some hB.size := rfl
  generalize hvi : Value.slice (some ⟨hB.size, 0, none⟩) m m = vi at *
  generalize Array.push hB (.cells (Array.replicate m (Value.int .i64 0)) 3 (0, 0)) = h4 at *
  refine SlAt.sl (hvB.keep k4).1.slAt fun _ _ => ?_
  refine ⟨fun t h' => ∃ (k : Nat) (i : List Int), t = .int .i64 k ∧ k ≤ m ∧ IO h' hB.size vi i ∧ i.length = m ∧ (∀ b, b < m → vz i b = (cu (succ m (esOf E)) k 0 b : Nat)) ∧ Keep (fun _ => False) hB h',
    fun t _ => match t with | .int _ k => m - k.toNat | _ => 0, ⟨0, _, rfl, by omega, hi4, by simp, fun b _ => by rw [vz_rep, cu_zero]; rfl, k4⟩, ?_⟩
  rintro _ _ h5 ⟨k, i, rfl, hk, hi5, hil, hcu, k5⟩
  rw [asK_int]
  refine cond_c (fun hc => ?_) (fun hc => ?_)
  · have hlt : k < m := by have := of_decide_eq_true hc; omega
    obtain ⟨w, hw, how⟩ := hvB.at_ hlt
    refine SlAt.rd1 (hvB.keep k5).1.slAt hw ?_
    refine IS.sl (OwnH.more how k5).slAt fun _ _ => ?_
    rw [nI_len]
    refine ⟨fun t h' => ∃ (j : Nat) (i : List Int), t = .int .i64 j ∧ j ≤ (succ m (esOf E) k).length ∧ IO h' hB.size vi i ∧ i.length = m ∧ (∀ b, b < m → vz i b = (cu (succ m (esOf E)) k j b : Nat)) ∧ Keep (fun _ => False) hB h',
      fun t _ => match t with | .int _ j => (succ m (esOf E) k).length - j.toNat | _ => 0, ⟨0, i, rfl, by omega, hi5, hil, hcu, k5⟩, ?_⟩
    rintro _ _ h6 ⟨j, i6, rfl, hj, hi6, hil6, hcu6, k6⟩
    rw [asK_int]
    refine cond_c (fun hc => ?_) (fun hc => ?_)
    · have hjl : j < (succ m (esOf E) k).length := by have := of_decide_eq_true hc; omega
      have hx := List.getElem?_eq_getElem hjl
      have hmem : (succ m (esOf E) k)[j] ∈ succ m (esOf E) k := List.getElem_mem hjl
      generalize (succ m (esOf E) k)[j] = x at hx hmem
      have hxm := hS k x hmem
      refine IS.rd (OwnH.more how k6).slAt (nI_at hx) ?_
      refine IS.rd hi6.slAt (vz_at (by omega : x < i6.length)) ?_
      rw [asK_int]
      have hv := hcu6 x hxm
      have hcl := cu_le (succ m (esOf E)) k j x
      rw [i64_in (by omega) (by omega)]
      refine IO.st hi6 (by omega : x < i6.length) fun h7 hi7 k7 => ?_
      rw [asK_int, i64_in (by have := hSl k; omega) (by have := hSl k; omega)]
      refine ⟨⟨j + 1, i6.set x (vz i6 x + 1), by simp, by omega, hi7, by simpa using hil6, fun b hb => ?_, k6.newer (k7.mono fun b _ hb => .inr (OwnH.lt hi6 b hb).1)⟩, by simp; omega⟩
      rw [vz_set (by omega), cu_step hup hx]
      split
      · rename_i e
        subst e
        rw [hv]
        simp
      · exact hcu6 b hb
    · have hje : j = (succ m (esOf E) k).length := by have := of_decide_eq_false hc; omega
      subst hje
      rw [asK_int, i64_in (by omega) (by omega)]
      refine ⟨⟨k + 1, i6, by simp, by omega, hi6, hil6, fun b hb => ?_, k6⟩, by simp; omega⟩
      rw [hcu6 b hb, cu_done]
  have hke : k = m := by have := of_decide_eq_false hc; omega
  subst hke
  have hle : ∀ b, b < k → vz i b = (left k (succ k (esOf E)) (fun _ _ => false) b : Nat) := fun b hb => by rw [hcu b hb, cu_left]
  -- out
  refine makeK_of (z := [.int .i64 0]) (bt := 8) (el := 3) (sz := 1) (by kernel_rfl) (by kernel_rfl) (by omega) (by omega) (by omega) ?_
  rw [Int.toNat_natCast, zeroRow_one]
  have ho6 := IO.zero h5 k (by omega)
  have kp6 := Keep.push (S := fun _ => False) h5 (.cells (Array.replicate k (Value.int .i64 0)) 3 (0, 0))
  have hV6 : (Value.slice (some ⟨h5.size, 0, none⟩) k k).ownBlock = some h5.size := rfl
  generalize Value.slice (some ⟨h5.size, 0, none⟩) k k = vo at *
  have hi6 := OwnH.more hi5 kp6
  have ho6 : IO _ hB.size vo (List.replicate k 0) := OwnH.base ho6 k5.size
  have k6 := k5.trans kp6
  have hlt5 := hi5.lt
  generalize Array.push h5 (.cells (Array.replicate k (Value.int .i64 0)) 3 (0, 0)) = h6 at *
  have hd1 : ∀ b, vi.ownBlock = some b → vo.ownBlock ≠ some b := fun b hb hb2 => by
    have := hlt5 b hb
    rw [hV6] at hb2
    cases hb2
    omega
  have hvi6 : ∃ b, vi.ownBlock = some b := ⟨_, hV4lt⟩
  refine SlAt.sl hi6.slAt fun _ _ => ?_
  rw [hil]
  refine ⟨fun row t h' => ∃ j : Nat, t = .int .i64 j ∧ j ≤ k ∧ IO h' hB.size row (nI (zr i j)) ∧ IO h' hB.size vi i ∧ IO h' hB.size vo (List.replicate k 0) ∧ (∀ b, vi.ownBlock = some b → row.ownBlock ≠ some b) ∧ (∀ b, vo.ownBlock = some b → row.ownBlock ≠ some b) ∧ Keep (fun _ => False) hB h',
    fun _ t _ => match t with | .int _ j => k - j.toNat | _ => 0, ⟨0, rfl, by omega, OwnH.nil, hi6, ho6, fun _ _ => by simp [Value.ownBlock], fun _ _ => by simp [Value.ownBlock], k6⟩, ?_⟩
  rintro row _ _ h7 ⟨j, rfl, hj, hr7, hi7, ho7, hd2, hd3, k7⟩
  rw [asK_int]
  refine cond_c (fun hc => ?_) (fun hc => ?_)
  · have hjl : j < k := by have := of_decide_eq_true hc; omega
    refine ⟨fun row h' => IO h' hB.size row (nI (zr i (j + 1))) ∧ IO h' hB.size vi i ∧ IO h' hB.size vo (List.replicate k 0) ∧ (∀ b, vi.ownBlock = some b → row.ownBlock ≠ some b) ∧ (∀ b, vo.ownBlock = some b → row.ownBlock ≠ some b) ∧ Keep (fun _ => False) hB h', ?_, ?_⟩
    rotate_left
    · rintro row8 _ h8 ⟨a1, a2, a3, a4, a5, a6⟩
      rw [asK_int, i64_in (by omega) (by omega)]
      exact ⟨⟨j + 1, by simp, by omega, a1, a2, a3, a4, a5, a6⟩, by simp; omega⟩
    refine IS.rd hi7.slAt (vz_at (by omega : j < i.length)) ?_
    rw [asK_int]
    refine ⟨fun row h' => IO h' hB.size row (nI (zr i (j + 1))) ∧ IO h' hB.size vi i ∧ IO h' hB.size vo (List.replicate k 0) ∧ (∀ b, vi.ownBlock = some b → row.ownBlock ≠ some b) ∧ (∀ b, vo.ownBlock = some b → row.ownBlock ≠ some b) ∧ Keep (fun _ => False) hB h', ?_, fun _ _ _ hj => hj⟩
    refine cond_c (fun hc => ?_) (fun hc => ?_)
    · rw [oneK_int]
      have hzl := zr_len i j
      refine IO.app hr7 (by rw [nI_len]; omega) k7.size (j : Int) fun w h8 ho8 k8 hw8 => ?_
      have hze : nI (zr i (j + 1)) = nI (zr i j) ++ [(j : Int)] := by
        rw [zr_step, if_pos hc]
        simp [nI]
      rw [hze]
      refine ⟨ho8, IO.keepW hi7 k8 hd2, IO.keepW ho7 k8 hd3, fun b hb hb2 => ?_, fun b hb hb2 => ?_, k7.newer (k8.mono fun b _ hb => .inr (OwnH.lt hr7 b hb).1)⟩
      · rcases hw8 b hb2 with h1 | h1
        · exact hd2 b hb h1
        · have := (OwnH.lt hi7 b hb).2
          omega
      · rcases hw8 b hb2 with h1 | h1
        · exact hd3 b hb h1
        · have := (OwnH.lt ho7 b hb).2
          omega
    · have hze : zr i (j + 1) = zr i j := by
        rw [zr_step, if_neg (by rw [hc]; decide)]
      rw [hze]
      exact ⟨hr7, hi7, ho7, hd2, hd3, k7⟩
  have hje : j = k := by have := of_decide_eq_false hc; omega
  subst hje
  -- the row
  refine ⟨fun d row h' => ∃ (C : Nat → Nat → Bool) (pr q : List Nat) (o i : List Int), d = .int .i64 pr.length ∧ Kx j (succ j (esOf E)) C pr q o i hB vi vo row q h' ∧ ∀ a b, a ∈ pr → b ∈ succ j (esOf E) a → C a b = true,
    fun d _ _ => match d with | .int _ x => j - x.toNat | _ => 0, ⟨_, [], _, _, i, rfl, ⟨hi7, ho7, hr7, hd1, hd2, hd3, Ka_start hil hle, k7⟩, fun a b ha => by cases ha⟩, ?_⟩
  rintro _ row8 _ h8 ⟨C, pr, q, o, i8, rfl, kx, hCf⟩
  have hqs : IS h8 row8 (nI q) := kx.rr.slAt
  refine IS.sl hqs fun _ _ => ?_
  rw [nI_len]
  refine cond_c (fun hc => ?_) (fun hc => ?_)
  rotate_left
  · -- done
    have hq : q = [] := List.eq_nil_of_length_eq_zero (by have := of_decide_eq_false hc; omega)
    subst hq
    obtain ⟨hle1, hfull, hpart⟩ := kx.ka.done hok hCf
    have hf8 := kx.keep.get hfB (by simp)
    have k8 := kB.trans kx.keep
    rw [asK_int, asK_int]
    refine cond_c (fun hc => ?_) (fun hc => ?_)
    · have hlt : pr.length < j := by have := of_decide_eq_true hc; omega
      refine ⟨rfl, flt_one 17 (-1), finF (cs := flt 17 (-1)) hf8 rfl rfl fun h9 k9 _ => ?_⟩
      exact ⟨.inr (.inl ⟨hz, hpart hlt, rfl⟩), k8.newer (k9.mono fun b _ hb => .inr (Nat.le_of_eq hb.symm))⟩
    · have heq : pr.length = j := by have := of_decide_eq_false hc; omega
      refine ⟨rfl, flt_one 0 0, finF (cs := flt 0 0) hf8 rfl rfl fun h9 k9 _ => ?_⟩
      obtain ⟨hrk, hb⟩ := hfull heq
      have hBs := kB.size
      have hblt := hp_lt hb0
      refine ⟨.inr (.inr ⟨hz, vo, o, rfl, ?_, kx.ka.leno, hrk, hb⟩), k8.newer (k9.mono fun b _ hb => .inr (Nat.le_of_eq hb.symm))⟩
      refine OwnH.base (IO.keepW kx.oo k9 fun b hb hbe => ?_) kB.size
      have := (OwnH.lt kx.oo b hb).1
      have := hp_lt hfB
      omega
  obtain ⟨x, r, rfl⟩ : ∃ x r, q = x :: r := by
    cases q with
    | nil => cases hc
    | cons x r => exact ⟨x, r, rfl⟩
  obtain ⟨ka1, hvx, hxm, hxp⟩ := kx.ka.take
  have hlen := Ka.len ka1
  simp only [List.length_cons] at hlen
  rw [asK_int]
  refine IS.rd0 hqs (i := 0) (x := (x : Int)) rfl rfl ?_
  obtain ⟨w, hw, how⟩ := hvB.at_ hxm
  refine SlAt.rd1 (hvB.keep kx.keep).1.slAt hw ?_
  refine IS.sl (OwnH.more how kx.keep).slAt fun _ _ => ?_
  rw [nI_len]
  refine ⟨fun row t h' => ∃ (t' : Nat) (q : List Nat) (o i : List Int), t = .int .i64 t' ∧ t' ≤ (succ j (esOf E) x).length ∧ vz o x + 1 ≤ (pr.length : Int) + 1 ∧ Kx j (succ j (esOf E)) (fun a b => C a b || (decide (a = x) && decide (b ∈ (succ j (esOf E) x).take t'))) (x :: pr) q o i hB vi vo row (x :: q) h',
    fun _ t _ => match t with | .int _ t' => (succ j (esOf E) x).length - t'.toNat | _ => 0, ⟨0, r, o, i8, rfl, by omega, hvx, kx.ii, kx.oo, kx.rr, kx.d1, kx.d2, kx.d3, ?_, kx.keep⟩, ?_⟩
  · have : (fun a b => C a b || (decide (a = x) && decide (b ∈ (succ j (esOf E) x).take 0))) = C := by
      funext a b
      simp
    rw [this]
    exact ka1
  rintro row9 _ _ h9 ⟨t, q9, o9, i9, rfl, ht, hvxx, kx9⟩
  have hlen9 := Ka.len kx9.ka
  simp only [List.length_cons] at hlen9
  rw [asK_int]
  refine cond_c (fun hc => ?_) (fun hc => ?_)
  rotate_left
  · have hte : t = (succ j (esOf E) x).length := by have := of_decide_eq_false hc; omega
    subst hte
    obtain ⟨al, cl, hl6, hcl⟩ := kx9.rr.form
    rw [nI_len] at hl6 hcl
    simp only [List.length_cons] at hl6 hcl
    have hq6 := kx9.rr
    have hd2' := kx9.d2
    have hd3' := kx9.d3
    rw [hl6] at hq6 hd2' hd3'
    obtain ⟨htl, htb⟩ := hq6.tail
    rw [hl6, asSl_sl]
    rw [i64_in (by omega) (by omega)]
    refine ⟨by decide, by omega, by omega, ⟨_, x :: pr, q9, o9, i9, by simp, ⟨kx9.ii, kx9.oo, htl, kx9.d1, fun b hb hb2 => hd2' b hb (htb b hb2), fun b hb hb2 => hd3' b hb (htb b hb2), kx9.ka, kx9.keep⟩, fun a b ha hb => ?_⟩, by simp; omega⟩
    simp only [List.take_length]
    rcases List.mem_cons.1 ha with rfl | ha
    · simp [hb]
    · rw [hCf a b ha hb]
      rfl
  have htl : t < (succ j (esOf E) x).length := by have := of_decide_eq_true hc; omega
  have hx := List.getElem?_eq_getElem htl
  have hmem : (succ j (esOf E) x)[t] ∈ succ j (esOf E) x := List.getElem_mem htl
  have htk := List.take_succ_eq_append_getElem htl
  have hnd : (succ j (esOf E) x)[t] ∉ (succ j (esOf E) x).take t := by
    intro hm
    obtain ⟨q, hq, he⟩ := List.mem_take_iff_getElem.1 hm
    have := List.pairwise_iff_getElem.1 (hup x) q t (by omega) htl (by omega)
    omega
  generalize (succ j (esOf E) x)[t] = y at hx hmem htk hnd
  have hym := hS x y hmem
  have hlo := kx9.ka.leno
  have hli := kx9.ka.leni
  have hCxy : C x y = false := by
    cases hcc : C x y with
    | false => rfl
    | true => exact absurd (kx.ka.con x y hcc) hxp
  have hobx := kx9.ka.ob x hxm
  have hoby := kx9.ka.ob y hym
  have hiy := kx9.ka.cnt y hym
  have hly := left_le j (succ j (esOf E)) (fun a b => C a b || (decide (a = x) && decide (b ∈ (succ j (esOf E) x).take t))) y
  have hvx9 : vz o9 x + 1 ≤ ((x :: pr).length : Int) := by
    simpa using hvxx
  have hxy : x ≠ y := fun e => by
    have h1 := (kx9.ka.prl x (List.mem_cons_self ..)).2
    have h2 := left_pos (n := j) (S := succ j (esOf E)) (C := fun a b => C a b || (decide (a = x) && decide (b ∈ (succ j (esOf E) x).take t))) hxm hmem (by simp [hCxy, hnd])
    rw [e] at h1
    omega
  have hnx : ∀ u, vz (o9.set y u) x + 1 ≤ (pr.length : Int) + 1 := fun u => by
    rw [vz_set (by omega), if_neg hxy]
    exact hvxx
  simp only [List.length_cons] at hobx hoby
  refine ⟨fun row h' => ∃ (q : List Nat) (o i : List Int), vz o x + 1 ≤ (pr.length : Int) + 1 ∧ Kx j (succ j (esOf E)) (fun a b => C a b || (decide (a = x) && decide (b ∈ (succ j (esOf E) x).take (t + 1)))) (x :: pr) q o i hB vi vo row (x :: q) h', ?_, ?_⟩
  rotate_left
  · rintro row10 _ h10 ⟨q, o, i, hv10, kx10⟩
    rw [asK_int, i64_in (by have := hSl x; omega) (by have := hSl x; omega)]
    exact ⟨⟨t + 1, q, o, i, by simp, by omega, hv10, kx10⟩, by simp; omega⟩
  refine IS.rd (OwnH.more how kx9.keep).slAt (nI_at hx) ?_
  refine IS.rd kx9.oo.slAt (vz_at (by omega : y < o9.length)) ?_
  refine IS.rd0 kx9.rr.slAt (i := 0) (x := (x : Int)) rfl rfl ?_
  refine IS.rd kx9.oo.slAt (vz_at (by omega : x < o9.length)) ?_
  rw [asK_int, asK_int, i64_in (by omega) (by omega)]
  refine IO.st kx9.oo (by omega : y < o9.length) fun h10 ho10 k10 => ?_
  have hi10 := IO.keepW kx9.ii k10 fun b hb hb2 => kx9.d1 b hb hb2
  have hr10 := IO.keepW kx9.rr k10 fun b hb hb2 => kx9.d3 b hb2 hb
  have kk10 := kx9.keep.newer (k10.mono fun b _ hb => .inr (OwnH.lt kx9.oo b hb).1)
  refine IS.rd hi10.slAt (vz_at (by omega : y < i9.length)) ?_
  rw [asK_int, i64_in (by omega) (by omega)]
  refine IO.st hi10 (by omega : y < i9.length) fun h11 hi11 k11 => ?_
  have ho11 := IO.keepW ho10 k11 fun b hb hb2 => kx9.d1 b hb2 hb
  have hr11 := IO.keepW hr10 k11 fun b hb hb2 => kx9.d2 b hb2 hb
  have kk11 := kk10.newer (k11.mono fun b _ hb => .inr (OwnH.lt hi10 b hb).1)
  have hi11v := vz_set (o := i9) (v := vz i9 y - 1) (by omega : y < i9.length) y
  rw [if_pos rfl] at hi11v
  refine IS.rd hi11.slAt (vz_at (by rw [List.length_set]; omega : y < (i9.set y (vz i9 y - 1)).length)) ?_
  rw [asK_int, hi11v]
  have hstep := kx9.ka.step hS (x := x) (k := y) (List.mem_cons_self ..) hmem (by simp [hCxy, hnd]) (C' := fun a b => C a b || (decide (a = x) && decide (b ∈ (succ j (esOf E) x).take (t + 1)))) (fun a b => by
    rw [htk]
    by_cases hax : a = x
    · simp [hax, Bool.or_assoc]
    · simp [hax]) (m := _) rfl hvx9
  refine ⟨fun row h' => ∃ (q : List Nat) (o i : List Int), vz o x + 1 ≤ (pr.length : Int) + 1 ∧ Kx j (succ j (esOf E)) (fun a b => C a b || (decide (a = x) && decide (b ∈ (succ j (esOf E) x).take (t + 1)))) (x :: pr) q o i hB vi vo row (x :: q) h', ?_, fun _ _ _ hj => hj⟩
  refine cond_c (fun hc => ?_) (fun hc => ?_)
  · rw [if_pos (eq_of_beq hc)] at hstep
    rw [oneK_int]
    refine IO.app hr11 (by rw [nI_len]; simp; omega) kk11.size (y : Int) fun w h12 ho12 k12 hw12 => ?_
    refine ⟨_, _, _, hnx _, ⟨IO.keepW hi11 k12 kx9.d2, IO.keepW ho11 k12 kx9.d3, ?_, kx9.d1, fun b hb hb2 => ?_, fun b hb hb2 => ?_, hstep, kk11.newer (k12.mono fun b _ hb => .inr (OwnH.lt hr11 b hb).1)⟩⟩
    · have : nI (x :: (q9 ++ [y])) = nI (x :: q9) ++ [(y : Int)] := by simp [nI]
      rw [this]
      exact ho12
    · rcases hw12 b hb2 with h1 | h1
      · exact kx9.d2 b hb h1
      · have := (OwnH.lt hi11 b hb).2
        omega
    · rcases hw12 b hb2 with h1 | h1
      · exact kx9.d3 b hb h1
      · have := (OwnH.lt ho11 b hb).2
        omega
  · rw [if_neg (beq_eq_false_iff_ne.1 hc)] at hstep
    exact ⟨_, _, _, hnx _, ⟨hi11, ho11, hr11, kx9.d1, kx9.d2, kx9.d3, hstep, kk11⟩⟩
end
end Go.Proofs.Ytfjkddigflijeaa
