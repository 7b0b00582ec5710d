/- Ranks: away. -/
import Derived.Test.YtfjkddigflijeaaR9
import Derived.Test.YtfjkddigflijeaaRaP2
namespace Go.Proofs.Ytfjkddigflijeaa
open Go Go.Sx Go.Sx.Pa Go.Sx.Ra Go.Proofs.Ytfjkddigflijeaa.Sx

/-- on the way of away -/
structure Fa (N : Nat → List Nat) (a n : Nat) (h : Hp) (r0 l : Value) (o : List Int) (q dn : List Nat) (h' : Hp) : Prop where
  out : IO h' h.size r0 o
  que : IO h' h.size l (nI q)
  dis : ∀ k, r0.ownBlock = some k → l.ownBlock ≠ some k
  bf : Bf N a n o q dn
  keep : Keep (fun _ => False) h h'
  fit : Pa.seen o + n ≥ q.length

section
variable {ω : Amb}
theorem away_law {h : Hp} {base n v : Nat} {es : Es} {fv : Value} (hr : Rows h base fv n (fun a => nI (succ n (sw es) a))) (hn : n ≤ 1000) (hv : v < n) (X : List PanicEntry → Hp → Prop) :
    CallX Try.prog ω n_ranks_away [fv, .int .i64 (v : Int)] h (fun r h' => ∃ o : List Int, o.length = n ∧ IO h' h.size r o ∧ Keep (fun _ => False) h h' ∧ IsD (Nb n es v) n (v : Int) (dist o) ∧ ∀ k, val o k < n) X := by
  obtain ⟨vals, hrv⟩ := hr
  refine C_ranks_away ω _ _ h _ X ?_
  unfold W_ranks_away
  refine SlAt.sl hrv.1.slAt fun _ _ => ?_
  have hlit := IO.lit (h := h) [-1] (by simp)
  have k0 := Keep.push (S := fun _ => False) h (.cells (iv [-1]).toArray 3 (0, 0))
  show CallX Try.prog ω 26 [.slice (some ⟨h.size, 0, none⟩) ([-1] : List Int).length ([-1] : List Int).length, .int .i64 (n : Int)] (Array.push h (.cells (iv [-1]).toArray 3 (0, 0))) _ X
  generalize Array.push h (.cells (iv [-1]).toArray 3 (0, 0)) = h1 at *
  refine CallX.use (Repeat_law hlit.slAt (by omega)) ?_
  rintro r0 h2 ⟨ho2, k2⟩
  have ho2 : IO h2 h.size r0 (List.replicate n (-1)) := OwnH.base ho2 k0.size
  have k2 := k0.trans k2
  refine ho2.st (by simpa using hv) fun h3 ho3 k3 => ?_
  rw [oneK_int]
  have hlit3 := IO.lit (h := h3) [(v : Int)] (by simp)
  have kp3 := Keep.push (S := fun _ => False) h3 (.cells (iv [(v : Int)]).toArray 3 (0, 0))
  have k3' : Keep (fun _ => False) h h3 := k2.newer (k3.mono fun k hk hkk => .inr (ho2.lt k hkk).1)
  refine ⟨fun l h' => ∃ o q, Fa (Nb n es v) v n h r0 l o q [] h', fun l h' => (n - Pa.seen (rdI r0 h')) + lenV l, ⟨_, [v], ⟨OwnH.more ho3 kp3, (hlit3.base k3'.size), fun k hk hl => ?_, Bf.start hv, k3'.trans kp3, by simp; omega⟩⟩, ?_⟩
  · have h1 := (ho3.lt k hk).2
    simp only [Value.ownBlock, Option.some.injEq] at hl
    omega
  rintro l _ h4 ⟨o, q, fa⟩
  have hol := fa.bf.len
  have hsl := seen_le o
  have hfit := fa.fit
  have hqs : IS h4 l (nI q) := fa.que.slAt
  refine IS.sl hqs fun _ _ => ?_
  rw [nI_len]
  refine cond_c (fun hc => ?_) (fun hc => ?_)
  rotate_left
  · have hq : q = [] := List.eq_nil_of_length_eq_zero (by have := of_decide_eq_false hc; omega)
    have hb := fa.bf
    rw [hq] at hb
    obtain ⟨h1, h2'⟩ := hb.fin hv
    refine ⟨o, hol, fa.out, fa.keep, h1, fun k => ?_⟩
    have := hb.cnt k
    omega
  obtain ⟨x, r, rfl⟩ : ∃ x r, q = x :: r := by
    cases q with
    | nil => cases hc
    | cons x r => exact ⟨x, r, rfl⟩
  refine IS.rd0 hqs (i := 0) (x := (x : Int)) rfl rfl ?_
  have hxv := fa.bf.inq x (List.mem_cons_self ..)
  have hxn : x < n := by have := val_lt hxv; omega
  obtain ⟨w, hw, how⟩ := hrv.at_ hxn
  refine SlAt.rd1 (hrv.keep fa.keep).1.slAt hw ?_
  refine IS.sl (OwnH.more how fa.keep).slAt fun _ _ => ?_
  rw [nI_len]
  have hSl : (succ n (sw es) x).length ≤ n := succ_len ..
  have hSlt : ∀ k ∈ succ n (sw es) x, k < n := fun k hk => succ_lt hk
  refine ⟨fun l' t h' => ∃ (j : Nat) (o' : List Int) (q' : List Nat), t = .int .i64 j ∧ j ≤ (succ n (sw es) x).length ∧ Fa (Nb n es v) v n h r0 l' o' (x :: q') (((succ n (sw es) x).take j).filter fun i => decide (v < i)) h' ∧ (n - Pa.seen o') + q'.length = (n - Pa.seen o) + r.length,
    fun _ t _ => match t with | .int _ j => (succ n (sw es) x).length - j.toNat | _ => 0, ⟨0, o, r, rfl, by omega, fa, rfl⟩, ?_⟩
  rintro l6 _ _ h6 ⟨j, o6, q6, rfl, hj, fa6, hm6⟩
  have hol6 := fa6.bf.len
  have hsl6 := seen_le o6
  have hfit6 := fa6.fit
  simp only [List.length_cons] at hfit6 hfit
  rw [asK_int]
  refine cond_c (fun hc => ?_) (fun hc => ?_)
  · have hlt : j < (succ n (sw es) x).length := by have := of_decide_eq_true hc; omega
    have hkx := List.getElem?_eq_getElem hlt
    have hmem : (succ n (sw es) x)[j] ∈ succ n (sw es) x := List.getElem_mem hlt
    have htk := List.take_succ_eq_append_getElem hlt
    generalize (succ n (sw es) x)[j] = k at hkx hmem htk
    have hkn := hSlt k hmem
    have hko : k < o6.length := by omega
    refine ⟨fun l' h' => ∃ (o' : List Int) (q' : List Nat), Fa (Nb n es v) v n h r0 l' o' (x :: q') (((succ n (sw es) x).take (j + 1)).filter fun i => decide (v < i)) h' ∧ (n - Pa.seen o') + q'.length = (n - Pa.seen o) + r.length, ?_, ?_⟩
    rotate_left
    · rintro l7 _ h7 ⟨o7, q7, fa7, hm7⟩
      rw [asK_int, i64_in (by omega) (by omega)]
      exact ⟨⟨j + 1, o7, q7, by simp, by omega, fa7, hm7⟩, by simp; omega⟩
    refine IS.rd (OwnH.more how fa6.keep).slAt (nI_at hkx) ?_
    refine ⟨decide (v < k) && decide (val o6 k < 0), ?_, fun _ => ?_⟩
    · rw [asK_int, asK_int]
      refine cond_c (fun hc => ?_) (fun hc => ?_)
      · refine IS.rd fa6.out.slAt (val_at hko) ?_
        rw [asK_int]
        have := of_decide_eq_true hc
        rw [decide_eq_true (by omega : v < k), Bool.true_and]
        exact ⟨rfl, rfl⟩
      · have := of_decide_eq_false hc
        rw [decide_eq_false (by omega : ¬ v < k), Bool.false_and]
        exact ⟨rfl, rfl⟩
    refine ⟨fun l' h' => ∃ (o' : List Int) (q' : List Nat), Fa (Nb n es v) v n h r0 l' o' (x :: q') (((succ n (sw es) x).take (j + 1)).filter fun i => decide (v < i)) h' ∧ (n - Pa.seen o') + q'.length = (n - Pa.seen o) + r.length, ?_, fun _ _ _ hj => hj⟩
    refine cond_c (fun hc => ?_) (fun hc => ?_)
    · rw [Bool.and_eq_true, decide_eq_true_eq, decide_eq_true_eq] at hc
      obtain ⟨hvk, hneg⟩ := hc
      have hxv6 := fa6.bf.inq x (List.mem_cons_self ..)
      have hxo : x < o6.length := by omega
      refine IS.rd0 fa6.que.slAt (i := 0) (x := (x : Int)) rfl rfl ?_
      refine IS.rd fa6.out.slAt (val_at hxo) ?_
      rw [asK_int]
      have hvx := fa6.bf.cnt x
      rw [i64_in (by omega) (by omega)]
      refine fa6.out.st hko fun h7 ho7 k7 => ?_
      rw [oneK_int]
      have hq7 : IO h7 h.size l6 (nI (x :: q6)) := fa6.que.keepW k7 fun k hk hk0 => fa6.dis k hk0 hk
      have k07 : Keep (fun _ => False) h h7 := fa6.keep.newer (k7.mono fun k hk hkk => .inr (fa6.out.lt k hkk).1)
      refine hq7.app (by rw [nI_len]; simp; omega) k07.size (k : Int) fun w h8 ho8 k8 hw8 => ?_
      have hNk : k ∈ Nb n es v x := by
        unfold Nb
        rw [List.mem_filter, decide_eq_true_eq]
        exact ⟨hmem, hvk⟩
      have hb8 := fa6.bf.new hkn hneg hNk
      have hsn := seen_set (v := val o6 x + 1) hko hneg (by omega)
      have hseen8 := seen_le (o6.set k (val o6 x + 1))
      rw [List.length_set] at hseen8
      refine ⟨o6.set k (val o6 x + 1), q6 ++ [k], ⟨ho7.keepW k8 fun b hb hb2 => fa6.dis b hb hb2, ?_, fun b hb hb2 => ?_, ?_, k07.newer (k8.mono fun b hb hbb => .inr (hq7.lt b hbb).1), by simp; omega⟩, ?_⟩
      · have : nI (x :: (q6 ++ [k])) = nI (x :: q6) ++ [(k : Int)] := by simp [nI]
        rw [this]
        exact ho8
      · rcases hw8 b hb2 with h1 | h1
        · exact fa6.dis b hb h1
        · have := (ho7.lt b hb).2
          omega
      · rw [htk, List.filter_append, List.filter_cons_of_pos (by simpa using hvk), List.filter_nil]
        exact hb8
      · simp
        omega
    · refine ⟨o6, q6, ⟨fa6.out, fa6.que, fa6.dis, ?_, fa6.keep, fa6.fit⟩, hm6⟩
      rw [htk, List.filter_append]
      by_cases hvk : v < k
      · rw [List.filter_cons_of_pos (by simpa using hvk), List.filter_nil]
        rw [decide_eq_true hvk, Bool.true_and] at hc
        have := of_decide_eq_false hc
        exact fa6.bf.old (by omega)
      · rw [List.filter_cons_of_neg (by simpa using hvk), List.filter_nil, List.append_nil]
        exact fa6.bf
  · have hje : j = (succ n (sw es) x).length := by have := of_decide_eq_false hc; omega
    subst hje
    obtain ⟨al, cl, hl6, hcl⟩ := fa6.que.form
    rw [nI_len] at hl6 hcl
    simp only [List.length_cons] at hl6 hcl
    have hq6 := fa6.que
    have hdl := fa6.dis
    rw [hl6] at hq6 hdl
    obtain ⟨ht, htb⟩ := hq6.tail
    rw [hl6, asSl_sl]
    refine ⟨by decide, by omega, by omega, ⟨o6, q6, fa6.out, ht, fun k hk hk2 => hdl k hk (htb k hk2), fa6.bf.pop fun k hk => by rw [List.take_length]; exact hk, fa6.keep, by omega⟩, ?_⟩
    show n - Pa.seen (rdI r0 h6) + lenV _ < n - Pa.seen (rdI r0 h4) + lenV l
    rw [rdI_own fa6.out, rdI_own fa.out, IO.lenV ht, IO.lenV fa.que, nI_len]
    simp only [List.length_cons, List.length_map]
    omega
end
end Go.Proofs.Ytfjkddigflijeaa
