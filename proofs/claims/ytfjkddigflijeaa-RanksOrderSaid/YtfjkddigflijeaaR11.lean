/- Ranks: round. -/
import Derived.Test.YtfjkddigflijeaaR10
namespace Go.Proofs.Ytfjkddigflijeaa
open Go Go.Sx Go.Sx.Pa Go.Sx.Ra Go.Proofs.Ytfjkddigflijeaa.Sx

theorem cells_one {v : Value} (h : Go.Sx.one v) : Value.cells v = [v].toArray := by cases v <;> first | rfl | cases h
theorem storeK1_local {h : Hp} {z v : Value} {t : TypeId} {K : Hp → Prop} (hk : K (h.push (.cells (List.toArray [v]) t (0, 0)))) : storeK1 (h.push (.cells #[z] t (0, 0))) ⟨h.size, 0, none⟩ v K := by
  refine storeK1_of hp_push_new (by simp) ?_
  rw [set_push]
  exact hk
/-- the first that a rule takes -/
def FRes (S : List Nat) (q : Nat → Bool) (z : Int) : Prop := (z = -1 ∧ ∀ k ∈ S, q k = false) ∨ ∃ (i k : Nat), z = i ∧ S[i]? = some k ∧ S.find? q = some k

section
variable {ω : Amb}
theorem IndexFunc_law {h : Hp} {s fv : Value} {S : List Nat} (hs : IS h s (nI S)) (hl : S.length ≤ 1000000) {q : Nat → Bool}
    (hf : ∀ h', Keep (fun _ => False) h h' → ∀ x ∈ S, ∀ Y, callK Try.prog ω fv [.int .i64 (x : Int)] h' (fun r h'' => r = .bool (q x) ∧ Keep (fun _ => False) h' h'') Y) (X : List PanicEntry → Hp → Prop) :
    CallX Try.prog ω n_slices_IndexFunc_sl_int_int [s, fv] h (fun r h' => (∃ z, r = .int .i64 z ∧ FRes S q z) ∧ Keep (fun _ => False) h h') X := by
  refine C_slices_IndexFunc_sl_int_int ω _ _ h _ X ?_
  unfold W_slices_IndexFunc_sl_int_int
  refine IS.sl hs fun _ _ => ?_
  rw [nI_len]
  refine ⟨fun t h' => ∃ i : Nat, t = .int .i64 i ∧ i ≤ S.length ∧ (∀ x ∈ S.take i, q x = false) ∧ Keep (fun _ => False) h h', fun t _ => match t with | .int _ i => S.length - i.toNat | _ => 0, ⟨0, rfl, by omega, by simp, Keep.refl _ _⟩, ?_⟩
  rintro _ _ h1 ⟨i, rfl, hi, hq, k1⟩
  rw [asK_int]
  refine cond_c (fun hc => ?_) (fun hc => ?_)
  · have hlt : i < S.length := by have := of_decide_eq_true hc; omega
    have hx := List.getElem?_eq_getElem hlt
    have hmem : S[i] ∈ S := List.getElem_mem hlt
    have htk := List.take_succ_eq_append_getElem hlt
    have hdr : S = S.take i ++ S[i] :: S.drop (i + 1) := by
      rw [← List.drop_eq_getElem_cons hlt, List.take_append_drop]
    generalize S[i] = x at hx hmem htk hdr
    refine IS.rd (SlAt.keep hs k1) (nI_at hx) ?_
    refine callK_use (hf h1 k1 x hmem) ?_
    rintro _ h2 ⟨rfl, k2⟩
    rw [asB_bool]
    refine cond_c (fun hc => ?_) (fun hc => ?_)
    · refine ⟨⟨_, rfl, .inr ⟨i, x, rfl, hx, ?_⟩⟩, k1.trans k2⟩
      rw [List.find?_eq_some_iff_append]
      exact ⟨hc, _, _, hdr, fun a ha => by rw [hq a ha]; rfl⟩
    · rw [asK_int, i64_in (by omega) (by omega)]
      refine ⟨⟨i + 1, by simp, by omega, fun y hy => ?_, k1.trans k2⟩, by simp; omega⟩
      rw [htk] at hy
      rcases List.mem_append.1 hy with hy | hy
      · exact hq y hy
      · simp at hy
        rw [hy]
        exact hc
  · have hie : i = S.length := by have := of_decide_eq_false hc; omega
    subst hie
    rw [List.take_length] at hq
    exact ⟨⟨_, rfl, .inl ⟨rfl, hq⟩⟩, k1⟩

/-- what round has about -/
structure Bxs (h : Hp) (T L D : Nat) (tv dv : Value) (v n : Nat) (es : Es) (o : List Int) (vals : List Value) (b1 b2 : Nat) : Prop where
  bt : h[T]? = some (.cells [tv].toArray 41 (0, 0))
  bl : h[L]? = some (.cells [.int .i64 (v : Int)].toArray 3 (0, 0))
  bd : h[D]? = some (.cells [dv].toArray 27 (0, 0))
  rt : RowsV h b1 tv n (fun a => nI (succ n es a)) vals
  od : IO h b2 dv o
  ol : o.length = n
theorem Bxs.keep {h h' : Hp} {T L D : Nat} {tv dv : Value} {v n : Nat} {es : Es} {o : List Int} {vals : List Value} {b1 b2 : Nat} (b : Bxs h T L D tv dv v n es o vals b1 b2) (k : Keep (fun _ => False) h h') : Bxs h' T L D tv dv v n es o vals b1 b2 :=
  ⟨k.get b.bt (by simp), k.get b.bl (by simp), k.get b.bd (by simp), b.rt.keep k, OwnH.more b.od k, b.ol⟩
theorem dist_at {o : List Int} {k m : Nat} : dist o k = some m ↔ val o k = m := by
  unfold dist
  split
  · rw [Option.some.injEq]
    omega
  · exact ⟨fun h => (by cases h), fun h => by omega⟩

theorem first1_law {h : Hp} {T L D M : Nat} {tv dv : Value} {v n : Nat} {es : Es} {o : List Int} {vals : List Value} {b1 b2 : Nat} (b : Bxs h T L D tv dv v n es o vals b1 b2) {m : Nat} (hM : h[M]? = some (.cells [.int .i64 (m : Int)].toArray 3 (0, 0)))
    (hD : IsD (Nb n es v) n (v : Int) (dist o)) {k : Nat} (hk : k < n) (Y : List PanicEntry → Hp → Prop) :
    callK Try.prog ω (.func (.func 23) #[] #[.pointer (some ⟨L, 0, none⟩), .pointer (some ⟨D, 0, none⟩), .pointer (some ⟨M, 0, none⟩)]) [.int .i64 (k : Int)] h (fun r h' => r = .bool (dist o k == some m) ∧ Keep (fun _ => False) h h') Y := by
  have hca : callable Try.prog 23 = true := by kernel_rfl
  unfold callK
  simp only [hca, cond_true]
  refine C_ranks_round_1_1 ω _ _ _ _ h _ Y ?_
  unfold W_ranks_round_1_1
  refine ⟨fun r h' => r = .bool (dist o k == some m) ∧ Keep (fun _ => False) h h', ?_, fun _ _ _ hj => hj⟩
  rw [asP_some]
  refine lxn b.bl rfl ?_
  rw [asK_int, asK_int]
  refine cond_c (fun hc => ?_) (fun hc => ?_)
  · rw [asP_some]
    refine lxn b.bd rfl ?_
    refine IS.rd b.od.slAt (val_at (by rw [b.ol]; exact hk)) ?_
    rw [asP_some]
    refine lxn hM rfl ?_
    rw [asK_int, asK_int]
    refine ⟨?_, Keep.refl _ _⟩
    congr 1
    rw [Bool.eq_iff_iff, beq_iff_eq, beq_iff_eq, dist_at]
  · refine ⟨?_, Keep.refl _ _⟩
    have hkv := of_decide_eq_false hc
    have hne : (dist o k == some m) = false := by
      cases hb : dist o k == some m with
      | false => rfl
      | true =>
        have := D_dst hD (eq_of_beq hb)
        rcases Dst.ge this with h | h <;> omega
    rw [hne]
theorem first_law {h : Hp} {T L D : Nat} {tv dv : Value} {v n : Nat} {es : Es} {o : List Int} {vals : List Value} {b1 b2 : Nat} (b : Bxs h T L D tv dv v n es o vals b1 b2) (m : Nat) (hD : IsD (Nb n es v) n (v : Int) (dist o)) (hn : n ≤ 1000) {x : Nat} (hx : x < n) (X : List PanicEntry → Hp → Prop) :
    CallX Try.prog ω n_ranks_round_1 [.int .i64 (x : Int), .int .i64 (m : Int), .pointer (some ⟨T, 0, none⟩), .pointer (some ⟨L, 0, none⟩), .pointer (some ⟨D, 0, none⟩)] h (fun r h' => (∃ z, r = .int .i64 z ∧ FRes (succ n es x) (fun k => dist o k == some m) z) ∧ Keep (fun _ => False) h h') X := by
  refine C_ranks_round_1 ω _ _ _ _ _ h _ X ?_
  unfold W_ranks_round_1
  rw [asP_some]
  have hM : (Array.push h (.cells (Value.cells (.int .i64 (m : Int))) 3 (0, 0)))[h.size]? = some (.cells [.int .i64 (m : Int)].toArray 3 (0, 0)) := hp_push_new
  have k1 := Keep.push (S := fun _ => False) h (.cells (Value.cells (.int .i64 (m : Int))) 3 (0, 0))
  generalize Array.push h (.cells (Value.cells (.int .i64 (m : Int))) 3 (0, 0)) = h1 at *
  have b1' := b.keep k1
  refine lxn b1'.bt rfl ?_
  obtain ⟨w, hw, how⟩ := b1'.rt.at_ hx
  refine SlAt.rd1 b1'.rt.1.slAt hw ?_
  have hSl : (succ n es x).length ≤ n := succ_len ..
  refine CallX.use (IndexFunc_law how.slAt (by omega) (q := fun k => dist o k == some m) fun h' kk y hy Y => ?_) ?_
  · exact first1_law (b1'.keep kk) (kk.get hM (by simp)) hD (succ_lt hy) Y
  · rintro r h2 ⟨hr, k2⟩
    exact ⟨hr, k1.trans k2⟩

/-- what round tells -/
def RdR (n : Nat) (es : Es) (v most : Nat) (l : List Nat) : Prop :=
  (l = [] ∧ ∀ d, d < most → ¬ Cyc n es v d) ∨ ∃ d D, d < most ∧ Cyc n es v d ∧ (∀ d', Cyc n es v d' → d ≤ d') ∧ IsD (Nb n es v) n (v : Int) D ∧ l = wk (succ n es) D d v
theorem round_law {h : Hp} {n v most : Nat} {es : Es} {b1 b2 : Nat} {tv fv : Value} (hok : Ok n es) (ht : Rows h b1 tv n (fun a => nI (succ n es a))) (hf : Rows h b2 fv n (fun a => nI (succ n (sw es) a))) (hn : n ≤ 1000) (hv : v < n) (hm : most ≤ 1000) (X : List PanicEntry → Hp → Prop) :
    CallX Try.prog ω n_ranks_round [tv, fv, .int .i64 (v : Int), .int .i64 (most : Int)] h (fun r h' => ∃ l, IO h' h.size r (nI l) ∧ RdR n es v most l ∧ Keep (fun _ => False) h h') X := by
  refine C_ranks_round ω _ _ _ _ h _ X ?_
  unfold W_ranks_round
  obtain ⟨vals, hvt⟩ := ht
  rw [cells_one (ownOne hvt.1)]
  have hT0 := hp_push_new (h := h) (o := .cells [tv].toArray 41 (0, 0))
  have k0 := Keep.push (S := fun _ => False) h (.cells [tv].toArray 41 (0, 0))
  have hT0lt := hp_lt hT0
  have hGsz : (Array.push h (.cells [tv].toArray 41 (0, 0))).size = h.size + 1 := by simp
  generalize Array.push h (.cells [tv].toArray 41 (0, 0)) = h0 at *
  have hL1 : (Array.push h0 (.cells (Value.cells (.int .i64 (v : Int))) 3 (0, 0)))[h0.size]? = some (.cells [.int .i64 (v : Int)].toArray 3 (0, 0)) := hp_push_new
  have kp1 := Keep.push (S := fun _ => False) h0 (.cells (Value.cells (.int .i64 (v : Int))) 3 (0, 0))
  generalize Array.push h0 (.cells (Value.cells (.int .i64 (v : Int))) 3 (0, 0)) = h1 at *
  have k1 := k0.trans kp1
  have hT1 := kp1.get hT0 (by simp)
  refine lxn hL1 rfl ?_
  refine CallX.use (away_law (es := es) (hf.keep k1) hn hv) ?_
  rintro r1 h2 ⟨o, hol, ho2, k2, hD, hvn⟩
  rw [oneK_eq (ownOne ho2)]
  refine storeK1_local ?_
  have hD3 := hp_push_new (h := h2) (o := .cells [r1].toArray 27 (0, 0))
  have kp3 := Keep.push (S := fun _ => False) h2 (.cells [r1].toArray 27 (0, 0))
  have k13 := k2.trans kp3
  have bx : Bxs (Array.push h2 (.cells [r1].toArray 27 (0, 0))) h.size h0.size h2.size tv r1 v n es o vals b1 h1.size :=
    ⟨k13.get hT1 (by simp), k13.get hL1 (by simp), hD3, (hvt.keep k1).keep k13, OwnH.more ho2 kp3, hol⟩
  have k3 := k1.trans k13
  generalize Array.push h2 (.cells [r1].toArray 27 (0, 0)) = h3 at *
  refine ⟨fun t h' => ∃ m : Nat, t = .int .i64 m ∧ m ≤ most ∧ (∀ k ∈ succ n es v, ∀ m', m' < m → dist o k ≠ some m') ∧ Keep (fun _ => False) h3 h', fun t _ => match t with | .int _ m => most - m.toNat | _ => 0, ⟨0, rfl, by omega, fun _ _ _ hlt => by omega, Keep.refl _ _⟩, ?_⟩
  rintro _ _ h4 ⟨m, rfl, hmm, hno, k4⟩
  have bx4 := bx.keep k4
  have hnoC : ∀ d, d < m → ¬ Cyc n es v d := fun d hd hcy => by
    obtain ⟨d', h1, h2, _⟩ := hcy.least hok
    have h3 := h2 d hcy
    obtain ⟨k, h5, h6⟩ := h1.first hok h2 hD
    exact hno k ((mem_succ hok).2 h5) d' (by omega) h6
  rw [asK_int, asK_int]
  refine cond_c (fun hc => ?_) (fun hc => ?_)
  rotate_left
  · obtain rfl : m = most := by have := of_decide_eq_false hc; omega
    exact ⟨[], OwnH.nil, .inl ⟨rfl, hnoC⟩, k3.trans k4⟩
  have hlt : m < most := by have := of_decide_eq_true hc; omega
  refine lxn bx4.bl rfl ?_
  refine CallX.use (first_law bx4 m hD hn hv) ?_
  rintro _ h5 ⟨⟨z, rfl, hz⟩, k5⟩
  rw [asK_int]
  rcases hz with ⟨rfl, hz⟩ | ⟨i, k, rfl, hi, hfk⟩
  · refine cond_t (by decide) ?_
    rw [asK_int, i64_in (by omega) (by omega)]
    refine ⟨⟨m + 1, by simp, by omega, fun k hk m' hm' he => ?_, k4.trans k5⟩, by simp; omega⟩
    rcases Nat.lt_or_ge m' m with hlt' | hge
    · exact hno k hk m' hlt' he
    · obtain rfl : m' = m := by omega
      have := hz k hk
      simp only [he, beq_self_eq_true] at this
      cases this
  · refine cond_f (by simp) ?_
    have hk1 := (mem_succ hok).1 (List.mem_of_find?_eq_some hfk)
    have hk2 : dist o k = some m := by simpa using List.find?_some hfk
    have hcy : Cyc n es v m := Cyc.of hD hk1 hk2
    have hmin : ∀ d', Cyc n es v d' → m ≤ d' := fun d' hd' => by
      refine Nat.le_of_not_lt fun hl => hnoC d' hl hd'
    have bx5 := bx4.keep k5
    refine lxn bx5.bl rfl ?_
    rw [oneK_int]
    have hlit := IO.lit (h := h5) [(v : Int)] (by simp)
    have kp6 : Keep (fun _ => False) h5 (Array.push h5 (.cells (List.toArray [.int .i64 (v : Int)]) 3 (0, 0))) := Keep.push (S := fun _ => False) h5 _
    have k6 := (k4.trans k5).trans kp6
    refine lxn (bx5.keep kp6).bl rfl ?_
    have hwl := (wk_all hok hv hD m v ⟨k, hk1, hk2⟩).1
    refine ⟨fun v' out n' h' => ∃ (x m' : Nat) (pre : List Nat), v' = .int .i64 x ∧ n' = .int .i64 m' ∧ x < n ∧ wk (succ n es) (dist o) m v = pre ++ wk (succ n es) (dist o) m' x ∧ IO h' h3.size out (nI (pre ++ [x])) ∧ (∃ k, (x, k) ∈ es ∧ dist o k = some m') ∧ Keep (fun _ => False) h3 h',
      fun _ _ n' _ => match n' with | .int _ m' => m'.toNat | _ => 0, ⟨v, m, [], rfl, rfl, hv, rfl, OwnH.base hlit (Nat.le_trans k4.size k5.size), ⟨k, hk1, hk2⟩, k6⟩, ?_⟩
    rintro _ out _ _ h7 ⟨x, m', pre, rfl, rfl, hx, hwk, ho7, ⟨k', hk3, hk4⟩, k7⟩
    have bx7 := bx.keep k7
    rw [asK_int]
    refine cond_c (fun hc => ?_) (fun hc => ?_)
    rotate_left
    · obtain rfl : m' = 0 := by have := of_decide_eq_false hc; omega
      refine ⟨pre ++ [x], OwnH.base ho7 k3.size, .inr ⟨m, _, hlt, hcy, hmin, hD, ?_⟩, k3.trans k7⟩
      rw [hwk]
      rfl
    obtain ⟨q, rfl⟩ : ∃ q, m' = q + 1 := ⟨m' - 1, by have := of_decide_eq_true hc; omega⟩
    refine lxn bx7.bt rfl ?_
    obtain ⟨w, hw, how⟩ := bx7.rt.at_ hx
    refine SlAt.rd1a bx7.rt.1.slAt hw fun ad had => ?_
    refine CallX.use (first_law bx7 (q + 1) hD hn hx) ?_
    rintro _ h8 ⟨⟨z, rfl, hz⟩, k8⟩
    have bx8 := bx7.keep k8
    refine ⟨k8.cell had (by simp), by rw [cellH_block bx8.bt]; rfl, ?_⟩
    rcases hz with ⟨rfl, hz⟩ | ⟨i', y, rfl, hi', hfy⟩
    · have := hz k' ((mem_succ hok).2 hk3)
      simp only [hk4, beq_self_eq_true] at this
      cases this
    · have hy1 := (mem_succ hok).1 (List.mem_of_find?_eq_some hfy)
      have hy2 : dist o y = some (q + 1) := by simpa using List.find?_some hfy
      have hyn := (hok _ hy1).2
      have hwx : wk (succ n es) (dist o) (q + 1) x = x :: wk (succ n es) (dist o) q y := by
        rw [wk, hfy]
      refine IS.rd (OwnH.more how k8).slAt (nI_at hi') ?_
      rw [oneK_int]
      have ho8 := OwnH.more ho7 k8
      have hlen : pre.length + (wk (succ n es) (dist o) (q + 1) x).length = m + 1 := by rw [← hwl, hwk, List.length_append]
      refine IO.app ho8 (by rw [nI_len]; simp; omega) (Nat.le_trans k7.size k8.size) (y : Int) fun w' h9 ho9 k9 hw9 => ?_
      have hq1 := hvn y
      have hq2 := dist_at.1 hy2
      rw [asK_int, i64_in (by omega) (by omega)]
      have hbl := OwnH.lt ho8
      refine ⟨⟨y, q, pre ++ [x], rfl, by simp, hyn, ?_, ?_, D_down hok hv hD hy2, (k7.trans k8).newer (k9.mono fun b _ hb => .inr (hbl b hb).1)⟩, by simp⟩
      · rw [hwk, hwx, List.append_assoc]
        rfl
      · have : nI (pre ++ [x] ++ [y]) = nI (pre ++ [x]) ++ [(y : Int)] := by simp [nI]
        rw [this]
        exact ho9
end
end Go.Proofs.Ytfjkddigflijeaa
