/- Ways: Away, WayTo. -/
import Derived.Test.YtihibbejjmldjaaP10
namespace Go.Proofs.Ytihibbejjmldjaa
open Go Go.Sx Go.Sx.Pa Go.Proofs.Ytihibbejjmldjaa.Sx

def total (o : List Int) : Nat := (o.map Int.toNat).sum
theorem total_set : ∀ {o : List Int} {k : Nat} {v : Int}, k < o.length → 0 ≤ v → v < val o k → total (o.set k v) < total o
  | x :: o, 0, v, _, h1, h2 => by
    have : v < x := h2
    simp only [total, List.set_cons_zero, List.map_cons, List.sum_cons]
    omega
  | x :: o, k + 1, v, hk, h1, h2 => by
    have := total_set (o := o) (k := k) (v := v) (by simpa using hk) h1 h2
    simp only [total, List.set_cons_succ, List.map_cons, List.sum_cons] at *
    omega
/-- within one instruction's turn -/
structure Rw (L : Pa.Code) (to : Int) (x : Int × Int) (Gl : Nat) (h0 : Hp) (V : Value) (B : List Int) (i : Nat) (B' : List Int) (m : Bool) (q : Nat) (h' : Hp) : Prop where
  rb : Rx (behind L) L.length to B'
  own : IO h' h0.size V B'
  keep : Keep (fun _ => False) h0 h'
  two : h'[Gl]? = some (.cells (List.toArray [.int .i64 ((i : Int) + 1), .int .i64 x.2]) 3 (0, 0))
  old : ∀ b, V.ownBlock = some b → b < Gl
  le : total B' ≤ total B
  lt : m = true → total B' < total B
  ahead : m = false → ∀ j k, j < i → k ∈ nexts L j → val B' j ≤ val B' k + 1
  fst : m = false → 1 ≤ q → ∀ k : Nat, (k : Int) = i + 1 → k ∈ nexts L i → val B' i ≤ val B' k + 1
  snd : m = false → 2 ≤ q → ∀ k : Nat, (k : Int) = x.2 → k ∈ nexts L i → val B' i ≤ val B' k + 1

section
variable {ω : Amb} {L : Pa.Code} {pa pb pc pd pv : Value}
set_option maxHeartbeats 800000 in
theorem Away_law {h : Hp} (hi : InsAt h pv L) (hn : L.length ≤ 300) {to : Int} {D : Nat → Option Nat} (hD : IsD (behind L) L.length to D) (hDb : ∀ k d, D k = some d → d < L.length) (X : List PanicEntry → Hp → Prop) :
    CallX Try.prog ω n_pipewrightref_Away [.agg (prc pa pb pc pd pv).toArray, .int .i64 to] h (fun r h' => ∃ o : List Int, o.length = L.length ∧ IO h' h.size r o ∧ Keep (fun _ => False) h h' ∧ ∀ k, k < L.length → val o k = match D k with | some d => (d : Int) | none => farOff) X := by
  refine C_pipewrightref_Away ω _ _ h _ X ?_
  unfold W_pipewrightref_Away
  have hb0 := pb_new h (prc pa pb pc pd pv)
  have k0 := Keep.push (S := fun _ => False) h (.cells (Value.cells (.agg (prc pa pb pc pd pv).toArray)) 26 (0, 0))
  have hi0 := hi.keep k0
  generalize Array.push h (.cells (Value.cells (.agg (prc pa pb pc pd pv).toArray)) 26 (0, 0)) = h0 at *
  have hs0 := k0.size
  generalize h.size = G at *
  refine lx hb0 rfl ?_
  refine hi0.sl fun _ _ => ?_
  refine makeK_of (z := [.int .i64 0]) (bt := 8) (el := 3) (sz := 1) (by kernel_rfl) (by kernel_rfl) (by omega) (by omega) (by omega) ?_
  rw [Int.toNat_natCast, zeroRow_one]
  have ho1 : IO (Array.push h0 (.cells (Array.replicate L.length (.int .i64 0)) 3 (0, 0))) h0.size (.slice (some ⟨h0.size, 0, none⟩) L.length L.length) (List.replicate 0 farOff ++ List.replicate (L.length - 0) 0) := by
    rw [IO]
    simp only [List.replicate_zero, List.nil_append, Nat.sub_zero, List.length_replicate]
    refine ownBlk (by rw [hp_push_new]; simp [iv]) (by simp [iv]) (by simp only [maxLen]; omega) (Nat.le_refl _)
  have k1 := Keep.push (S := fun _ => False) h0 (.cells (Array.replicate L.length (.int .i64 0)) 3 (0, 0))
  have hVlt : h0.size < (Array.push h0 (.cells (Array.replicate L.length (.int .i64 0)) 3 (0, 0))).size := by simp
  generalize Array.push h0 (.cells (Array.replicate L.length (.int .i64 0)) 3 (0, 0)) = h1 at *
  generalize hV : Value.slice (some ⟨h0.size, 0, none⟩) L.length L.length = V at *
  have hVb : ∀ b, V.ownBlock = some b → b = h0.size := fun b hb => by
    rw [← hV] at hb
    simp only [Value.ownBlock, Option.some.injEq] at hb
    exact hb.symm
  refine ⟨fun i h' => ∃ k : Nat, i = .int .i64 k ∧ k ≤ L.length ∧ IO h' h0.size V (List.replicate k farOff ++ List.replicate (L.length - k) 0) ∧ Keep (fun _ => False) h0 h' ∧ h0.size < h'.size,
    fun i _ => match i with | .int _ k => L.length - k.toNat | _ => 0, ⟨0, rfl, by omega, ho1, k1, hVlt⟩, ?_⟩
  rintro _ _ h2 ⟨k, rfl, hk, ho2, k2, hz2⟩
  have hl2 : (List.replicate k farOff ++ List.replicate (L.length - k) (0 : Int)).length = L.length := by simp; omega
  refine IS.sl ho2.slAt fun _ _ => ?_
  rw [asK_int, hl2]
  refine cond_c (fun hc => ?_) (fun hc => ?_)
  · have hlt : k < L.length := by have := of_decide_eq_true hc; omega
    refine IO.st (x := farOff) ho2 (by omega) fun h3 ho3 k3 => ?_
    rw [asK_int, i64_in (by omega) (by omega)]
    have he : (List.replicate k farOff ++ List.replicate (L.length - k) (0 : Int)).set k farOff = List.replicate (k + 1) farOff ++ List.replicate (L.length - (k + 1)) 0 := by
      rw [List.set_append_right _ _ (by simp), List.length_replicate, Nat.sub_self, show L.length - k = (L.length - (k + 1)) + 1 by omega, List.replicate_succ, List.set_cons_zero, List.replicate_succ']
      simp
    rw [he] at ho3
    exact ⟨⟨k + 1, by simp, by omega, ho3, k2.newer (k3.mono fun b _ hb => .inr (ho2.lt b hb).1), Nat.lt_of_lt_of_le hz2 k3.size⟩, by simp; omega⟩
  have hke : k = L.length := by have := of_decide_eq_false hc; omega
  subst hke
  rw [Nat.sub_self, List.replicate_zero, List.append_nil] at ho2
  refine ⟨decide (0 ≤ to ∧ to < (L.length : Int)), ?_, fun _ => ?_⟩
  · rw [asK_int]
    refine cond_c (fun hc => ?_) (fun hc => ?_)
    · have := of_decide_eq_true hc
      refine IS.sl ho2.slAt fun _ _ => ?_
      rw [asK_int, List.length_replicate]
      refine ⟨?_, rfl⟩
      congr 1
      rw [Bool.eq_iff_iff]
      simp
      omega
    · have := of_decide_eq_false hc
      rw [decide_eq_false (by omega)]
      exact ⟨rfl, rfl⟩
  refine ⟨fun h' => ∃ o, Rx (behind L) L.length to o ∧ IO h' h0.size V o ∧ Keep (fun _ => False) h0 h' ∧ h0.size < h'.size, ?_, ?_⟩
  · refine cond_c (fun hc => ?_) (fun hc => ?_)
    · have hc := of_decide_eq_true hc
      obtain ⟨t, rfl⟩ : ∃ t : Nat, to = t := ⟨to.toNat, by omega⟩
      refine IO.st (x := 0) ho2 (by simp; omega) fun h3 ho3 k3 => ?_
      exact ⟨_, Rx.start1 (by omega), ho3, k2.newer (k3.mono fun b _ hb => .inr (ho2.lt b hb).1), Nat.lt_of_lt_of_le hz2 k3.size⟩
    · have hc := of_decide_eq_false hc
      exact ⟨_, Rx.start0 (by omega), ho2, k2, hz2⟩
  rintro _ h3 ⟨o3, hR3, ho3, k3, hz3⟩
  refine ⟨fun more h' => ∃ (B : List Int) (m : Bool), more = .bool m ∧ Rx (behind L) L.length to B ∧ IO h' h0.size V B ∧ Keep (fun _ => False) h0 h' ∧ h0.size < h'.size ∧ (m = false → ∀ i k, k ∈ nexts L i → val B i ≤ val B k + 1),
    fun more h' => (total (rdI V h')) * 2 + (match more with | .bool true => 1 | _ => 0), ⟨_, true, rfl, hR3, ho3, k3, hz3, fun h => by cases h⟩, ?_⟩
  rintro _ _ h4 ⟨B, m, rfl, hB, hoB, kB, hzB, hm⟩
  have hBl := hB.len
  rw [asB_bool]
  refine cond_c (fun hc => ?_) (fun hc => ?_)
  rotate_left
  · subst hc
    have hfix := hm rfl
    refine ⟨B, hBl, OwnH.base hoB hs0, k0.trans kB, hB.fin (fun k i hk => hfix i k (mem_behind.1 hk)) hD hDb hn⟩
  subst hc
  refine ⟨fun more i h' => ∃ (B' : List Int) (m : Bool) (i' : Nat), more = .bool m ∧ i = .int .i64 i' ∧ i' ≤ L.length ∧ Rx (behind L) L.length to B' ∧ IO h' h0.size V B' ∧ Keep (fun _ => False) h0 h' ∧ h0.size < h'.size ∧ total B' ≤ total B ∧ (m = true → total B' < total B) ∧ (m = false → ∀ j k, j < i' → k ∈ nexts L j → val B' j ≤ val B' k + 1),
    fun _ i _ => match i with | .int _ k => L.length - k.toNat | _ => 0, ⟨B, false, 0, rfl, rfl, by omega, hB, hoB, kB, hzB, Nat.le_refl _, fun h => (by cases h), fun _ i k hi => by omega⟩, ?_⟩
  rintro _ _ _ h4 ⟨B4, m4, i, rfl, rfl, hil, hB4, ho4, k4, hz4, hc4, hm4, hf4⟩
  have hBl4 := hB4.len
  have hb4 := k4.get hb0 (by simp)
  have hi4 := hi0.keep k4
  refine IS.sl ho4.slAt fun _ _ => ?_
  rw [asK_int, hBl4]
  refine cond_c (fun hc => ?_) (fun hc => ?_)
  · have hlt : i < L.length := by have := of_decide_eq_true hc; omega
    have hx := List.getElem?_eq_getElem hlt
    generalize L[i] = x at hx
    rw [asK_int]
    refine lx hb4 rfl ?_
    refine hi4.rdTo hx ?_
    rw [oneK_int, i64_in (by omega) (by omega)]
    have hpl := hp_push_new (h := h4) (o := .cells (List.toArray [.int .i64 ((i : Int) + 1), .int .i64 x.2]) 3 (0, 0))
    have kpl := Keep.push (S := fun _ => False) h4 (.cells (List.toArray [.int .i64 ((i : Int) + 1), .int .i64 x.2]) 3 (0, 0))
    have ho5 := OwnH.more ho4 kpl
    have k5 := k4.trans kpl
    generalize Array.push h4 (.cells (List.toArray [.int .i64 ((i : Int) + 1), .int .i64 x.2]) 3 (0, 0)) = h5 at *
    generalize h4.size = Gl at *
    refine ⟨fun more k h' => ∃ (B' : List Int) (m : Bool) (q : Nat), more = .bool m ∧ k = .int .i64 q ∧ q ≤ 2 ∧ Rw L to x Gl h0 V B i B' m q h',
      fun _ k _ => match k with | .int _ k => 2 - k.toNat | _ => 0, ⟨B4, m4, 0, rfl, rfl, by omega, hB4, ho5, k5, hpl, fun b hb => by rw [hVb b hb]; exact hz4, hc4, hm4, hf4, fun _ h => by omega, fun _ h => by omega⟩, ?_⟩
    rintro _ _ _ h6 ⟨B6, m6, q, rfl, rfl, hq, rq⟩
    have hBl6 := rq.rb.len
    have hb6 := rq.keep.get hb0 (by simp)
    have hi6 := hi0.keep rq.keep
    rw [asK_int]
    refine cond_c (fun hc => ?_) (fun hc => ?_)
    · have hq2 : q < 2 := by have := of_decide_eq_true hc; omega
      obtain ⟨z, hz, hzd⟩ : ∃ z : Int, ([.int .i64 ((i : Int) + 1), .int .i64 x.2] : List Value)[q]? = some (.int .i64 z) ∧ ((q = 0 ∧ z = i + 1) ∨ (q = 1 ∧ z = x.2)) := by
        match q, hq2 with
        | 0, _ => exact ⟨_, rfl, .inl ⟨rfl, rfl⟩⟩
        | 1, _ => exact ⟨_, rfl, .inr ⟨rfl, rfl⟩⟩
      refine ⟨fun more h' => ∃ (B' : List Int) (m : Bool), more = .bool m ∧ Rw L to x Gl h0 V B i B' m (q + 1) h', ?_, ?_⟩
      rotate_left
      · rintro _ _ h7 ⟨B7, m7, rfl, rq7⟩
        rw [asK_int, i64_in (by omega) (by omega)]
        exact ⟨⟨B7, m7, q + 1, rfl, by simp, by omega, rq7⟩, by simp; omega⟩
      refine ⟨fun r h' => r = .bool (comes L (i : Int) z && decide (val B6 z.toNat + 1 < val B6 i)) ∧ Keep (fun _ => False) h6 h', ?_, ?_⟩
      · refine ⟨_, cellsH_blk hb6 rfl, ?_⟩
        rw [asI_int]
        refine ⟨by omega, by omega, ?_⟩
        rw [Int.toNat_natCast, Nat.mul_one]
        refine lx rq.two hz ?_
        refine CallX.use (Comes_law hi6 (by omega) (i : Int) z) ?_
        rintro _ h7 ⟨rfl, k7⟩
        rw [asB_bool]
        refine cond_c (fun hc => ?_) (fun hc => ⟨by rw [hc]; rfl, k7⟩)
        rw [hc, Bool.true_and]
        have hc' := hc
        unfold comes at hc'
        rw [Bool.and_eq_true, Bool.and_eq_true] at hc'
        have hzr := hc'.1.2
        unfold inR at hzr
        rw [Bool.and_eq_true, decide_eq_true_eq, decide_eq_true_eq] at hzr
        obtain ⟨y, rfl⟩ : ∃ y : Nat, z = y := ⟨z.toNat, by omega⟩
        rw [asI_int]
        refine ⟨by omega, by omega, ?_⟩
        rw [Int.toNat_natCast, Nat.mul_one]
        refine lx (k7.get rq.two (by simp)) hz ?_
        have ho7 := OwnH.more rq.own k7
        refine IS.rd ho7.slAt (val_at (by omega : y < B6.length)) ?_
        rw [asK_int]
        refine IS.rd ho7.slAt (val_at (by omega : i < B6.length)) ?_
        have hpy := rq.rb.pos y (by omega)
        unfold farOff at hpy
        rw [asK_int, i64_in (by omega) (by omega), Int.toNat_natCast]
        exact ⟨rfl, k7⟩
      rintro _ _ h7 ⟨rfl, k7⟩
      refine ⟨fun more h' => ∃ (B' : List Int) (m : Bool), more = .bool m ∧ Rw L to x Gl h0 V B i B' m (q + 1) h', ?_, fun _ _ _ hj => hj⟩
      have ho7 : IO h7 h0.size V B6 := OwnH.more rq.own k7
      have ht7 := k7.get rq.two (by simp)
      rw [asB_bool]
      refine cond_c (fun hc => ?_) (fun hc => ?_)
      · rw [Bool.and_eq_true, decide_eq_true_eq] at hc
        obtain ⟨hcm, hbz⟩ := hc
        have hc' := hcm
        unfold comes at hc'
        rw [Bool.and_eq_true, Bool.and_eq_true] at hc'
        have hzr := hc'.1.2
        unfold inR at hzr
        rw [Bool.and_eq_true, decide_eq_true_eq, decide_eq_true_eq] at hzr
        obtain ⟨y, rfl⟩ : ∃ y : Nat, z = y := ⟨z.toNat, by omega⟩
        rw [Int.toNat_natCast] at hbz
        have hE : E L i y := (comes_iff hlt).1 hcm
        have hpy := rq.rb.pos y (by omega)
        unfold farOff at hpy
        rw [asI_int]
        refine ⟨by omega, by omega, ?_⟩
        rw [Int.toNat_natCast, Nat.mul_one]
        refine lx ht7 hz ?_
        refine IS.rd ho7.slAt (val_at (by omega : y < B6.length)) ?_
        rw [asK_int, i64_in (by omega) (by omega)]
        refine IO.st (x := val B6 y + 1) ho7 (by omega) fun h8 ho8 k8 => ?_
        have hcs := total_set (by omega : i < B6.length) (by omega) hbz
        have hle := rq.le
        refine ⟨B6.set i (val B6 y + 1), true, rfl, rq.rb.near hlt (by omega) (mem_behind.2 hE) hbz, ho8, (rq.keep.trans k7).newer (k8.mono fun b _ hb => .inr (ho7.lt b hb).1), k8.get ht7 fun hb => ?_, rq.old, by omega, fun _ => by omega, fun h => (by cases h), fun h => (by cases h), fun h => (by cases h)⟩
        have := rq.old _ hb
        omega
      · have hno : ∀ k : Nat, (k : Int) = z → k ∈ nexts L i → val B6 i ≤ val B6 k + 1 := fun k hkz hk => by
          have hcm := (comes_iff hlt).2 (show E L i k from hk)
          rw [hkz] at hcm
          rw [hcm, ← hkz, Int.toNat_natCast, Bool.true_and] at hc
          have := of_decide_eq_false hc
          omega
        refine ⟨B6, m6, rfl, rq.rb, ho7, rq.keep.trans k7, ht7, rq.old, rq.le, rq.lt, rq.ahead, fun hm h1 => ?_, fun hm h2 => ?_⟩
        · rcases hzd with ⟨h0, hz0⟩ | ⟨h0, hz0⟩
          · rw [← hz0]; exact hno
          · exact rq.fst hm (by omega)
        · rcases hzd with ⟨h0, hz0⟩ | ⟨h0, hz0⟩
          · omega
          · rw [← hz0]; exact hno
    · have hqe : q = 2 := by have := of_decide_eq_false hc; omega
      subst hqe
      rw [asK_int, i64_in (by omega) (by omega)]
      refine ⟨⟨B6, m6, i + 1, rfl, by simp, by omega, rq.rb, rq.own, rq.keep, ?_, rq.le, rq.lt, fun hm j k hj hk => ?_⟩, by simp; omega⟩
      · have h1' := hp_lt rq.two
        have h2' := kpl.size
        omega
      by_cases hji : j = i
      · subst hji
        rcases cand_of hx hk with he | he
        · exact rq.fst hm (by omega) k he hk
        · exact rq.snd hm (Nat.le_refl _) k he hk
      · exact rq.ahead hm j k (by omega) hk
  · have hie : i = L.length := by have := of_decide_eq_false hc; omega
    subst hie
    refine ⟨⟨B4, m4, rfl, hB4, ho4, k4, hz4, fun hmf i k hk => hf4 hmf i k (E_lt (show E L i k from hk)).1 hk⟩, ?_⟩
    show (total (rdI V _)) * 2 + _ < (total (rdI V _)) * 2 + 1
    rw [rdI_own ho4, rdI_own hoB]
    cases m4 with
    | true =>
      have := hm4 rfl
      simp only
      omega
    | false =>
      simp only
      omega
end
end Go.Proofs.Ytihibbejjmldjaa
