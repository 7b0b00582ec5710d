/- Ways: behind, Path. -/
import Derived.Test.YtihibbejjmldjaaP7
namespace Go.Proofs.Ytihibbejjmldjaa
open Go Go.Sx Go.Sx.Pa Go.Proofs.Ytihibbejjmldjaa.Sx

/-- a slice of slices of ints, all of one's own and apart -/
def Rows (h : Hp) (base : Nat) (v : Value) (n : Nat) (f : Nat → List Nat) : Prop :=
  ∃ vals : List Value, OwnH h base 30 1 v n vals ∧ (∀ (k : Nat) (w : Value), vals[k]? = some w → IO h base w (nI (f k))) ∧ ∀ (i j : Nat) (w u : Value), i ≠ j → vals[i]? = some w → vals[j]? = some u → ∀ b, w.ownBlock = some b → u.ownBlock ≠ some b
theorem Rows.keep {h h' : Hp} {base n : Nat} {v : Value} {f : Nat → List Nat} (hr : Rows h base v n f) (hk : Keep (fun _ => False) h h') : Rows h' base v n f := by
  obtain ⟨vals, h1, h2, h3⟩ := hr
  exact ⟨vals, h1.more hk, fun k w hw => OwnH.more (h2 k w hw) hk, h3⟩
theorem ownSame {h : Hp} {base base' n sz : Nat} {t : TypeId} {v : Value} {xs ys : List Value} (a : OwnH h base t sz v n xs) (b : OwnH h base' t sz v n ys) : xs = ys := by
  rcases a.2 with ⟨rfl, rfl⟩ | ⟨g, o, cap, cur, rfl, _, hg, _, _, _, hx⟩
  · have h1 := a.1
    have h2 := b.1
    rw [Nat.zero_mul] at h1 h2
    rw [List.eq_nil_of_length_eq_zero h1, List.eq_nil_of_length_eq_zero h2]
  · rcases b.2 with ⟨hv, _⟩ | ⟨g', o', cap', cur', hv, _, hg', _, _, _, hx'⟩
    · cases hv
    · cases hv
      rw [hg] at hg'
      cases hg'
      rw [← hx, ← hx']
theorem IO.nil_own {h : Hp} {base : Nat} {v : Value} {xs : List Int} (ho : IO h base v xs) {b : Nat} (hb : v.ownBlock = some b) : ∃ c, h[b]? = some (.cells c 3 (0, 0)) := ho.blk hb

section
variable {ω : Amb} {L : Pa.Code} {pa pb pc pd pv : Value}
def upTo (L : Pa.Code) (i j : Nat) (k : Nat) : List Nat := (List.range i).filter (fun x => decide (k ∈ nexts L x)) ++ (if k ∈ (nexts L i).take j then [i] else [])
theorem upTo_done (L : Pa.Code) (i k : Nat) : upTo L i (nexts L i).length k = upTo L (i + 1) 0 k := by
  unfold upTo
  rw [List.take_length, List.take_zero, List.range_succ, List.filter_append]
  by_cases h : k ∈ nexts L i
  · rw [if_pos h]; simp [h]
  · rw [if_neg h]; simp [h]
theorem upTo_step {L : Pa.Code} {i j k : Nat} (hj : (nexts L i)[j]? = some k) (m : Nat) : upTo L i (j + 1) m = if m = k then upTo L i j m ++ [i] else upTo L i j m := by
  obtain ⟨hl, rfl⟩ := List.getElem?_eq_some_iff.1 hj
  have hnd : (nexts L i)[j] ∉ (nexts L i).take j := by
    intro hm
    obtain ⟨q, hq, he⟩ := List.mem_take_iff_getElem.1 hm
    have := List.pairwise_iff_getElem.1 (nexts_up L i) q j (by omega) hl (by omega)
    omega
  unfold upTo
  rw [List.take_succ_eq_append_getElem hl]
  by_cases hm : m = (nexts L i)[j]
  · subst hm
    rw [if_pos rfl, if_neg hnd, if_pos (List.mem_append_right _ (List.mem_singleton.2 rfl)), List.append_nil]
  · rw [if_neg hm]
    congr 1
    simp only [List.mem_append, List.mem_singleton, hm, or_false]
theorem upTo_zero (L : Pa.Code) (k : Nat) : upTo L 0 0 k = [] := by simp [upTo]
theorem upTo_end (L : Pa.Code) (k : Nat) : upTo L L.length 0 k = behind L k := by simp [upTo, behind]
theorem upTo_len (L : Pa.Code) (i j k : Nat) : (upTo L i j k).length ≤ i + 1 := by
  unfold upTo
  rw [List.length_append]
  have := List.length_filter_le (fun x => decide (k ∈ nexts L x)) (List.range i)
  rw [List.length_range] at this
  split <;> simp <;> omega

theorem behind_law {h : Hp} (hi : InsAt h pv L) (hn : L.length ≤ 1000) (X : List PanicEntry → Hp → Prop) :
    CallX Try.prog ω n_paths_behind [.agg (prc pa pb pc pd pv).toArray] h (fun r h' => Rows h' h.size r L.length (behind L) ∧ Keep (fun _ => False) h h') X := by
  refine C_paths_behind ω _ h _ X ?_
  unfold W_paths_behind
  have hb1 := pb_new h (prc pa pb pc pd pv)
  have k1 := Keep.push (S := fun _ => False) h (.cells (Value.cells (.agg (prc pa pb pc pd pv).toArray)) 26 (0, 0))
  have hi1 := hi.keep k1
  generalize Array.push h (.cells (Value.cells (.agg (prc pa pb pc pd pv).toArray)) 26 (0, 0)) = h1 at *
  refine lx hb1 rfl ?_
  refine hi1.sl fun _ _ => ?_
  refine makeK_of (z := [.slice none 0 0]) (bt := 24) (el := 30) (sz := 1) (by kernel_rfl) (by kernel_rfl) (by omega) (by omega) (by omega) ?_
  rw [Int.toNat_natCast, zeroRow_one]
  have hb2n := hp_push_new (h := h1) (o := .cells (Array.replicate L.length (Value.slice none 0 0)) 30 (0, 0))
  have k2 := Keep.push (S := fun _ => False) h1 (.cells (Array.replicate L.length (Value.slice none 0 0)) 30 (0, 0))
  have hb2 := k2.get hb1 (by simp)
  have hi2 := hi1.keep k2
  generalize Array.push h1 (.cells (Array.replicate L.length (Value.slice none 0 0)) 30 (0, 0)) = h2 at *
  have hown2 : OwnH h2 h.size 30 1 (.slice (some ⟨h1.size, 0, none⟩) L.length L.length) L.length (List.replicate L.length (Value.slice none 0 0)) := by
    refine ownBlk (by rw [hb2n]; simp) (by simp) (by simp only [maxLen]; omega) k1.size
  have hr2 : Rows h2 h.size (.slice (some ⟨h1.size, 0, none⟩) L.length L.length) L.length (upTo L 0 0) := by
    refine ⟨_, hown2, fun k w hw => ?_, fun i j w u _ hw _ b hb => ?_⟩
    · rw [List.getElem?_replicate] at hw
      split at hw
      · cases hw
        rw [upTo_zero]
        exact OwnH.nil
      · cases hw
    · rw [List.getElem?_replicate] at hw
      split at hw
      · cases hw
        cases hb
      · cases hw
  refine lx hb2 rfl ?_
  refine hi2.sl fun _ _ => ?_
  have k02 := k1.trans k2
  generalize hV : Value.slice (some ⟨h1.size, 0, none⟩) L.length L.length = V at *
  have hVb : V.ownBlock = some h1.size := by rw [← hV]; rfl
  refine ⟨fun i h' => ∃ i' : Nat, i = .int .i64 i' ∧ i' ≤ L.length ∧ Rows h' h.size V L.length (upTo L i' 0) ∧ Keep (fun _ => False) h h' ∧ PB h' h.size (prc pa pb pc pd pv), fun i _ => match i with | .int _ k => L.length - k.toNat | _ => 0, ⟨0, rfl, by omega, hr2, k02, hb2⟩, ?_⟩
  rintro _ _ h3 ⟨i, rfl, hil, hr3, k3, hb3⟩
  have hi3 := hi.keep k3
  rw [asK_int]
  refine cond_c (fun hc => ?_) (fun hc => ?_)
  · have hlt : i < L.length := by have := of_decide_eq_true hc; omega
    refine ⟨_, cellsH_blk hb3 rfl, ?_⟩
    refine CallX.use (Next_law hi3 (by omega) (i : Int)) ?_
    rintro r4 h4 ⟨ho4, k4⟩
    rw [nx_nat hlt] at ho4
    have hnl := nexts_len L i
    refine IS.sl ho4.slAt fun _ _ => ?_
    rw [nI_len]
    have hdis4 : ∀ b, r4.ownBlock = some b → h3.size ≤ b := fun b hb => (ho4.lt b hb).1
    refine ⟨fun j h' => ∃ j' : Nat, j = .int .i64 j' ∧ j' ≤ (nexts L i).length ∧ Rows h' h.size V L.length (upTo L i j') ∧ Keep (fun _ => False) h h' ∧ PB h' h.size (prc pa pb pc pd pv) ∧ IS h' r4 (nI (nexts L i)) ∧ h4.size ≤ h'.size ∧ (∀ (vals : List Value), OwnH h' h.size 30 1 V L.length vals → ∀ (k : Nat) (w : Value) (b : Nat), vals[k]? = some w → w.ownBlock = some b → r4.ownBlock ≠ some b),
      fun j _ => match j with | .int _ k => (nexts L i).length - k.toNat | _ => 0, ⟨0, rfl, by omega, hr3.keep k4, k3.trans k4, k4.get hb3 (by simp), ho4.slAt, Nat.le_refl _, ?_⟩, ?_⟩
    · intro vals hv k w b hw hb hr4
      obtain ⟨vals3, h31, h32, _⟩ := hr3
      have hvv : vals = vals3 := ownSame hv (h31.more k4)
      rw [hvv] at hw
      have := ((h32 k w hw).lt b hb).2
      have := hdis4 b hr4
      omega
    rintro _ _ h5 ⟨j, rfl, hj, hr5, k5, hb5, hs5, hsz5, hd5⟩
    rw [asK_int]
    refine cond_c (fun hc => ?_) (fun hc => ?_)
    · have hjl : j < (nexts L i).length := by have := of_decide_eq_true hc; omega
      have hkx : (nexts L i)[j]? = some (nexts L i)[j] := List.getElem?_eq_getElem hjl
      have hE : E L i (nexts L i)[j] := List.getElem_mem hjl
      generalize (nexts L i)[j] = k at hkx hE
      have hkn := (E_lt hE).2
      refine hs5.rd (nI_at hkx) ?_
      obtain ⟨vals, hv1, hv2, hv3⟩ := hr5
      have hvl : vals.length = L.length := by have := hv1.1; omega
      have hw : vals[k]? = some vals[k] := List.getElem?_eq_getElem (by omega)
      generalize vals[k] = w at hw
      refine hv1.slAt.rd1 hw ?_
      rw [oneK_int]
      have how := hv2 k w hw
      have hul := upTo_len L i j k
      refine how.app (by rw [nI_len]; omega) k5.size (i : Int) fun u h6 ho6 k6 hu6 => ?_
      have hwV : w.ownBlock ≠ some h1.size := fun hb => by
        obtain ⟨c, hc⟩ := how.blk hb
        obtain ⟨c', hc'⟩ := hv1.blk hVb
        rw [hc] at hc'
        cases hc'
      have hv6 : OwnH h6 h.size 30 1 V L.length vals := hv1.keep fun b hb hlt => k6.block b hlt (fun hwb => by rw [hVb] at hb; cases hb; exact hwV hwb)
      have k06 : Keep (fun _ => False) h h6 := k5.newer (k6.mono fun b _ hb => .inr (how.lt b hb).1)
      have hone := ownOne ho6
      simp only [oneK_eq hone]
      refine ownStore1 hv6 hkn fun h7 hv7 k7 => ?_
      rw [asK_int, i64_in (by omega) (by omega)]
      have hVlt := (hv1.lt _ hVb)
      have hub : ∀ b, u.ownBlock = some b → b ≠ h1.size := fun b hb hbe => by
        rcases hu6 b hb with h1' | h1'
        · rw [hbe] at h1'
          exact hwV h1'
        · omega
      have k57 : ∀ b, b < h5.size → b ≠ h1.size → w.ownBlock ≠ some b → h7[b]? = h5[b]? := fun b hlt hb1 hb2 => by
        rw [k7.block b (Nat.lt_of_lt_of_le hlt k6.size) (fun e => by rw [hVb] at e; cases e; exact hb1 rfl), k6.block b hlt hb2]
      have k07 : Keep (fun _ => False) h h7 := k06.newer (k7.mono fun b _ hb => .inr (hv6.lt b hb).1)
      have hset : ∀ (q : Nat) (x : Value), (vals.set k u)[q]? = some x → (q = k ∧ x = u) ∨ (q ≠ k ∧ vals[q]? = some x) := fun q x hq => by
        rcases set_get hq with ⟨h1', h2', _⟩ | ⟨h1', h2'⟩
        · exact .inl ⟨h1'.symm, h2'⟩
        · exact .inr ⟨fun e => h1' e.symm, h2'⟩
      refine ⟨⟨j + 1, by simp, by omega, ⟨vals.set k u, hv7, fun q x hq => ?_, fun q q' x x' hne hq hq' b hb => ?_⟩, k07, ?_, ?_, Nat.le_trans hsz5 (Nat.le_trans k6.size k7.size), fun vals' hv' q x b hq hb => ?_⟩, by simp; omega⟩
      · rw [upTo_step hkx]
        rcases hset q x hq with ⟨rfl, rfl⟩ | ⟨hqk, hq2⟩
        · rw [if_pos rfl]
          have : nI (upTo L i j q ++ [i]) = nI (upTo L i j q) ++ [(i : Int)] := by simp [nI]
          rw [this]
          exact ho6.keepW k7 fun b hb hbb => by
            rw [hVb] at hbb
            cases hbb
            exact hub _ hb rfl
        · rw [if_neg hqk]
          have hx := hv2 q x hq2
          refine hx.keep fun b hb hlt => k57 b hlt (fun hbe => ?_) (fun hwb => hv3 q k x w hqk hq2 hw b hb hwb)
          obtain ⟨c, hc⟩ := hx.blk hb
          obtain ⟨c', hc'⟩ := hv1.blk hVb
          rw [hbe, hc'] at hc
          cases hc
      · rcases hset q x hq with ⟨rfl, rfl⟩ | ⟨hqk, hq2⟩ <;> rcases hset q' x' hq' with ⟨rfl, rfl⟩ | ⟨hqk', hq2'⟩
        · exact absurd rfl hne
        · intro hbb
          rcases hu6 b hb with h1' | h1'
          · exact hv3 q q' w x' hne hw hq2' b h1' hbb
          · have := ((hv2 q' x' hq2').lt b hbb).2
            omega
        · intro hbb
          rcases hu6 b hbb with h1' | h1'
          · exact hv3 q q' x w hne hq2 hw b hb h1'
          · have := ((hv2 q x hq2).lt b hb).2
            omega
        · exact hv3 q q' x x' hne hq2 hq2' b hb
      · rw [PB, k57 h.size (hp_lt hb5) (fun e => ?_) (fun e => ?_)]
        · exact hb5
        · have := hp_lt hb1
          omega
        · obtain ⟨c, hc⟩ := how.blk e
          rw [hb5] at hc
          cases hc
      · refine (hs5.keepW k6 fun b hb hwb => hd5 vals hv1 k w b hw hwb hb).keepW k7 fun b hb hbb => ?_
        rw [hVb] at hbb
        cases hbb
        have h1' := hdis4 _ hb
        have := k02.size
        have := hp_lt hb2n
        have := k3.size
        have hV3 : h1.size < h3.size := by
          obtain ⟨vals3, h31, _⟩ := hr3
          exact (h31.lt _ hVb).2
        omega
      · have hvv : vals' = vals.set k u := ownSame hv' hv7
        rw [hvv] at hq
        rcases hset q x hq with ⟨rfl, rfl⟩ | ⟨hqk, hq2⟩
        · intro hr4
          rcases hu6 b hb with h1' | h1'
          · exact hd5 vals hv1 q w b hw h1' hr4
          · have := (ho4.lt b hr4).2
            omega
        · exact hd5 vals hv1 q x b hq2 hb
    · have hje : j = (nexts L i).length := by have := of_decide_eq_false hc; omega
      subst hje
      rw [asK_int, i64_in (by omega) (by omega)]
      have hfe : upTo L i (nexts L i).length = upTo L (i + 1) 0 := funext fun k => upTo_done L i k
      rw [hfe] at hr5
      exact ⟨⟨i + 1, by simp, by omega, hr5, k5, hb5⟩, by simp; omega⟩
  · have hie : i = L.length := by have := of_decide_eq_false hc; omega
    subst hie
    have hfe : upTo L L.length 0 = behind L := funext fun k => upTo_end L k
    rw [hfe] at hr3
    exact ⟨hr3, k3⟩
end
end Go.Proofs.Ytihibbejjmldjaa
