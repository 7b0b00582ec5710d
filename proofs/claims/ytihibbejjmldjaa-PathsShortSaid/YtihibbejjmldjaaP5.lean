/- Ways: far. -/
import Derived.Test.YtihibbejjmldjaaP4
namespace Go.Proofs.Ytihibbejjmldjaa
open Go Go.Sx Go.Sx.Pa Go.Proofs.Ytihibbejjmldjaa.Sx

theorem IS.sl {h : Hp} {v : Value} {xs : List Int} (hs : IS h v xs) {F : Option Addr → Nat → Nat → Prop} (hf : ∀ a c, F a xs.length c) : asSl v F := SlAt.sl hs hf
/-- on the way of far -/
structure Fa (N : Nat → List Nat) (a n : Nat) (h : Hp) (r0 l : Value) (o : List Int) (q dn : List Nat) (h' : Hp) : Prop where
  out : IO h' h.size r0 o
  que : IO h' h.size l (nI q)
  dis : ∀ k, r0.ownBlock = some k → l.ownBlock ≠ some k
  bf : Bf N a n o q dn
  keep : Keep (fun _ => False) h h'
  fit : Pa.seen o + n ≥ q.length

section
variable {ω : Amb}
theorem far_law {n : Nat} {a : Int} {fv : Value} {N : Nat → List Nat} (hn : n ≤ 300) (hN : ∀ i k, k ∈ N i → k < n) (hNl : ∀ i, (N i).length ≤ 1000000) {h : Hp}
    (hf : ∀ h', Keep (fun _ => False) h h' → ∀ i, i < n → ∀ Y, callK Try.prog ω fv [.int .i64 ((i : Nat) : Int)] h' (fun r h'' => IS h'' r (nI (N i)) ∧ Keep (fun _ => False) h' h'' ∧ ∀ k, r.ownBlock = some k → k < h.size ∨ h'.size ≤ k) Y) (X : List PanicEntry → Hp → Prop) :
    CallX Try.prog ω n_paths_far [.int .i64 (n : Int), .int .i64 a, fv] h (fun r h' => ∃ o : List Int, o.length = n ∧ IO h' h.size r o ∧ Keep (fun _ => False) h h' ∧ IsD N n a (dist o) ∧ ∀ k d, dist o k = some d → d < n) X := by
  refine C_paths_far ω _ _ _ h _ X ?_
  unfold W_paths_far
  have hlit := IO.lit (h := h) [-1] (by simp)
  have k0 := Keep.push (S := fun _ => False) h (.cells (iv [-1]).toArray 3 (0, 0))
  show CallX Try.prog ω 31 [.slice (some ⟨h.size, 0, none⟩) ([-1] : List Int).length ([-1] : List Int).length, .int .i64 (n : Int)] (Array.push h (.cells (iv [-1]).toArray 3 (0, 0))) _ X
  generalize Array.push h (.cells (iv [-1]).toArray 3 (0, 0)) = h1 at *
  refine CallX.use (Repeat_law hlit.slAt (by omega)) ?_
  rintro r0 h2 ⟨ho2, k2⟩
  have ho2 : IO h2 h.size r0 (List.replicate n (-1)) := OwnH.base ho2 k0.size
  have k2 := k0.trans k2
  refine ⟨decide (a < 0 ∨ (n : Int) ≤ a), ?_, fun _ => cond_c (fun hc => ?_) (fun hc => ?_)⟩
  · rw [asK_int]
    refine cond_c (fun hc => ?_) (fun hc => ?_)
    · rw [decide_eq_true (.inl (of_decide_eq_true hc))]
      exact ⟨rfl, rfl⟩
    · have := of_decide_eq_false hc
      rw [asK_int, asK_int]
      refine ⟨?_, rfl⟩
      congr 1
      rw [Bool.eq_iff_iff]
      simp
      omega
  · obtain ⟨h1, h2'⟩ := far_none (N := N) (of_decide_eq_true hc)
    exact ⟨_, by simp, ho2, k2, h1, h2'⟩
  have hc := of_decide_eq_false hc
  obtain ⟨f, rfl⟩ : ∃ f : Nat, a = f := ⟨a.toNat, by omega⟩
  have hfn : f < n := by omega
  refine ho2.st (by simpa using hfn) fun h3 ho3 k3 => ?_
  rw [oneK_int]
  have hlit3 := IO.lit (h := h3) [(f : Int)] (by simp)
  have kp3 := Keep.push (S := fun _ => False) h3 (.cells (iv [(f : Int)]).toArray 3 (0, 0))
  have k3' : Keep (fun _ => False) h h3 := k2.newer (k3.mono fun k hk hkk => .inr (ho2.lt k hkk).1)
  refine ⟨fun l h' => ∃ o q, Fa N f n h r0 l o q [] h', fun l h' => (n - Pa.seen (rdI r0 h')) + lenV l, ⟨_, [f], ⟨OwnH.more ho3 kp3, (hlit3.base k3'.size), fun k hk hl => ?_, Bf.start hfn, k3'.trans kp3, by simp; omega⟩⟩, ?_⟩
  · have h1 := (ho3.lt k hk).2
    simp only [Value.ownBlock, Option.some.injEq] at hl
    omega
  rintro l _ h4 ⟨o, q, fa⟩
  have hol := fa.bf.len
  have hsl := seen_le o
  have hfit := fa.fit
  have hqs : IS h4 l (nI q) := fa.que.slAt
  refine IS.sl hqs fun _ _ => ?_
  rw [nI_len]
  refine cond_c (fun hc => ?_) (fun hc => ?_)
  rotate_left
  · have hq : q = [] := List.eq_nil_of_length_eq_zero (by have := of_decide_eq_false hc; omega)
    have hb := fa.bf
    rw [hq] at hb
    obtain ⟨h1, h2'⟩ := hb.fin hfn
    exact ⟨o, hol, fa.out, fa.keep, h1, h2'⟩
  obtain ⟨x, r, rfl⟩ : ∃ x r, q = x :: r := by
    cases q with
    | nil => cases hc
    | cons x r => exact ⟨x, r, rfl⟩
  refine IS.rd0 hqs (i := 0) (x := (x : Int)) rfl rfl ?_
  have hxv := fa.bf.inq x (List.mem_cons_self ..)
  have hxn : x < n := by have := val_lt hxv; omega
  refine callK_use (hf h4 fa.keep x hxn) ?_
  rintro r5 h5 ⟨hs5, k5, hown5⟩
  refine IS.sl hs5 fun _ _ => ?_
  rw [nI_len]
  have fa5 : Fa N f n h r0 l o (x :: r) [] h5 := ⟨fa.out.more k5, fa.que.more k5, fa.dis, fa.bf, fa.keep.trans k5, fa.fit⟩
  have hdis5 : ∀ k, r5.ownBlock = some k → r0.ownBlock ≠ some k ∧ l.ownBlock ≠ some k := fun k hk => by
    have h1 := hown5 k hk
    refine ⟨fun hk0 => ?_, fun hkl => ?_⟩
    · have := fa.out.lt k hk0
      omega
    · have := fa.que.lt k hkl
      omega
  refine ⟨fun l' t h' => ∃ (j : Nat) (o' : List Int) (q' : List Nat), t = .int .i64 j ∧ j ≤ (N x).length ∧ Fa N f n h r0 l' o' (x :: q') ((N x).take j) h' ∧ IS h' r5 (nI (N x)) ∧ (∀ k, r5.ownBlock = some k → r0.ownBlock ≠ some k ∧ l'.ownBlock ≠ some k) ∧ (n - Pa.seen o') + q'.length = (n - Pa.seen o) + r.length,
    fun _ t _ => match t with | .int _ j => (N x).length - j.toNat | _ => 0, ⟨0, o, r, rfl, by omega, fa5, hs5, hdis5, rfl⟩, ?_⟩
  rintro l6 _ _ h6 ⟨j, o6, q6, rfl, hj, fa6, hs6, hdis6, hm6⟩
  have hol6 := fa6.bf.len
  have hsl6 := seen_le o6
  have hfit6 := fa6.fit
  simp only [List.length_cons] at hfit6 hfit
  rw [asK_int]
  refine cond_c (fun hc => ?_) (fun hc => ?_)
  · have hlt : j < (N x).length := by have := of_decide_eq_true hc; omega
    have hkx : (N x)[j]? = some (N x)[j] := List.getElem?_eq_getElem hlt
    have hmem : (N x)[j] ∈ N x := List.getElem_mem hlt
    have htk := List.take_succ_eq_append_getElem hlt
    generalize (N x)[j] = k at hkx hmem htk
    have hkn := hN x k hmem
    have hko : k < o6.length := by omega
    refine ⟨fun l' h' => ∃ (o' : List Int) (q' : List Nat), Fa N f n h r0 l' o' (x :: q') ((N x).take (j + 1)) h' ∧ IS h' r5 (nI (N x)) ∧ (∀ k, r5.ownBlock = some k → r0.ownBlock ≠ some k ∧ l'.ownBlock ≠ some k) ∧ (n - Pa.seen o') + q'.length = (n - Pa.seen o) + r.length, ?_, ?_⟩
    rotate_left
    · rintro l7 _ h7 ⟨o7, q7, fa7, hs7, hdis7, hm7⟩
      rw [asK_int, i64_in (by have := hNl x; omega) (by have := hNl x; omega)]
      exact ⟨⟨j + 1, o7, q7, by simp, by omega, fa7, hs7, hdis7, hm7⟩, by simp; omega⟩
    refine hs6.rd (nI_at hkx) ?_
    refine IS.rd fa6.out.slAt (val_at hko) ?_
    rw [asK_int]
    refine ⟨fun l' h' => ∃ (o' : List Int) (q' : List Nat), Fa N f n h r0 l' o' (x :: q') ((N x).take (j + 1)) h' ∧ IS h' r5 (nI (N x)) ∧ (∀ k, r5.ownBlock = some k → r0.ownBlock ≠ some k ∧ l'.ownBlock ≠ some k) ∧ (n - Pa.seen o') + q'.length = (n - Pa.seen o) + r.length, ?_, fun _ _ _ hj => hj⟩
    refine cond_c (fun hc => ?_) (fun hc => ?_)
    · have hneg : val o6 k < 0 := of_decide_eq_true hc
      have hxv6 := fa6.bf.inq x (List.mem_cons_self ..)
      have hxo : x < o6.length := by omega
      refine IS.rd0 fa6.que.slAt (i := 0) (x := (x : Int)) rfl rfl ?_
      refine IS.rd fa6.out.slAt (val_at hxo) ?_
      rw [asK_int]
      have hvx := fa6.bf.cnt x
      rw [i64_in (by omega) (by omega)]
      refine fa6.out.st hko fun h7 ho7 k7 => ?_
      rw [oneK_int]
      have hq7 : IO h7 h.size l6 (nI (x :: q6)) := fa6.que.keepW k7 fun k hk hk0 => fa6.dis k hk0 hk
      have k07 : Keep (fun _ => False) h h7 := fa6.keep.newer (k7.mono fun k hk hkk => .inr (fa6.out.lt k hkk).1)
      refine hq7.app (by rw [nI_len]; simp; omega) k07.size (k : Int) fun w h8 ho8 k8 hw8 => ?_
      have hb8 := fa6.bf.new hkn hneg hmem
      have hsn := seen_set (v := val o6 x + 1) hko hneg (by omega)
      have hseen8 := seen_le (o6.set k (val o6 x + 1))
      rw [List.length_set] at hseen8
      refine ⟨o6.set k (val o6 x + 1), q6 ++ [k], ⟨ho7.keepW k8 fun b hb hb2 => fa6.dis b hb hb2, ?_, fun b hb hb2 => ?_, ?_, k07.newer (k8.mono fun b hb hbb => .inr (hq7.lt b hbb).1), by simp; omega⟩, ?_, fun b hb => ⟨(hdis6 b hb).1, fun hb2 => ?_⟩, ?_⟩
      · have : nI (x :: (q6 ++ [k])) = nI (x :: q6) ++ [(k : Int)] := by simp [nI]
        rw [this]
        exact ho8
      · rcases hw8 b hb2 with h1 | h1
        · exact fa6.dis b hb h1
        · have := (ho7.lt b hb).2
          omega
      · rw [htk]
        exact hb8
      · refine (hs6.keepW k7 fun b hb hb2 => (hdis6 b hb).1 hb2).keepW k8 fun b hb hb2 => (hdis6 b hb).2 hb2
      · rcases hw8 b hb2 with h1 | h1
        · exact (hdis6 b hb).2 h1
        · have h2 : b < h6.size := by
            rcases hs6.2 with ⟨h0, _⟩ | ⟨b', o', cap, hv, hcc⟩
            · rw [nI_len] at h0
              omega
            · have := hcc 0
              rw [hv] at hb
              simp only [Value.ownBlock, Option.some.injEq] at hb
              subst hb
              obtain ⟨y, hy⟩ : ∃ y, (N x)[0]? = some y := ⟨_, List.getElem?_eq_getElem (by omega : 0 < (N x).length)⟩
              exact cellH_lt (this _ (iv_at (nI_at hy)))
          have := k7.size
          omega
      · simp
        omega
    · have hnn : 0 ≤ val o6 k := by have := of_decide_eq_false hc; omega
      refine ⟨o6, q6, ⟨fa6.out, fa6.que, fa6.dis, ?_, fa6.keep, fa6.fit⟩, hs6, hdis6, hm6⟩
      rw [htk]
      exact fa6.bf.old hnn
  · have hje : j = (N x).length := by have := of_decide_eq_false hc; omega
    subst hje
    obtain ⟨al, cl, hl6, hcl⟩ := fa6.que.form
    rw [nI_len] at hl6 hcl
    simp only [List.length_cons] at hl6 hcl
    have hq6 := fa6.que
    have hdl := fa6.dis
    rw [hl6] at hq6 hdl
    obtain ⟨ht, htb⟩ := hq6.tail
    rw [hl6, asSl_sl]
    refine ⟨by decide, by omega, by omega, ⟨o6, q6, fa6.out, ht, fun k hk hk2 => hdl k hk (htb k hk2), fa6.bf.pop fun k hk => by rw [List.take_length]; exact hk, fa6.keep, by omega⟩, ?_⟩
    show n - Pa.seen (rdI r0 h6) + lenV _ < n - Pa.seen (rdI r0 h4) + lenV l
    rw [rdI_own fa6.out, rdI_own fa.out, IO.lenV ht, IO.lenV fa.que, nI_len]
    simp only [List.length_cons, List.length_map]
    omega
end
end Go.Proofs.Ytihibbejjmldjaa
