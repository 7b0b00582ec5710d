/- Ranks: Round. -/
import Derived.Test.YtfjkddigflijeaaR11
namespace Go.Sx
theorem spl_mid {cur : Array Value} {p q m : Nat} {cs : List Value} (h : q + cs.length ≤ m) (hm : p + m ≤ cur.size) : ((spl cur (p + q) cs).toList.drop p).take m = (spl ((cur.toList.drop p).take m).toArray q cs).toList := by
  have hl : ((cur.toList.drop p).take m).length = m := by
    rw [List.length_take, List.length_drop, Array.length_toList]
    omega
  refine List.ext_getElem? fun k => ?_
  have e2 := spl_get (cur := ((cur.toList.drop p).take m).toArray) (o := q) (cs := cs) (j := k) (by simp only [List.size_toArray]; omega)
  have e1 := spl_get (cur := cur) (o := p + q) (cs := cs) (j := p + k) (by omega)
  have e0 : (spl ((cur.toList.drop p).take m).toArray q cs).toList[k]? = (spl ((cur.toList.drop p).take m).toArray q cs)[k]? := Array.getElem?_toList
  have e3 : (spl cur (p + q) cs).toList[p + k]? = (spl cur (p + q) cs)[p + k]? := Array.getElem?_toList
  have e4 : cur.toList[p + k]? = cur[p + k]? := Array.getElem?_toList
  have e5 : ((cur.toList.drop p).take m).toArray[k]? = if k < m then cur[p + k]? else none := by
    rw [List.getElem?_toArray, List.getElem?_take, List.getElem?_drop, e4]
  rw [e0, e2, List.getElem?_take, List.getElem?_drop, e3, e1, e5]
  by_cases hk : k < m
  · rw [if_pos hk, if_pos hk]
    by_cases h1 : k < q
    · rw [if_pos h1, if_pos (by omega)]
    · rw [if_neg h1, if_neg (by omega)]
      by_cases h2 : k < q + cs.length
      · rw [if_pos h2, if_pos (by omega)]
        congr 1
        omega
      · rw [if_neg h2, if_neg (by omega)]
  · rw [if_neg hk, if_neg hk, if_neg (by omega), if_neg (by omega)]
theorem OwnH.storeS {α : Type} {f : α → List Value} {sz : Nat} {h : Hp} {base : Nat} {t : TypeId} {v : Value} {es : List α} (hs : OwnH h base t sz v es.length (es.flatMap f)) (hf : ∀ e, (f e).length = sz) {i : Nat} (hi : i < es.length) {e' : α} (h1 : ∀ u ∈ f e', one u) {K : Hp → Prop}
    (hk : ∀ h', OwnH h' base t sz v (es.set i e').length ((es.set i e').flatMap f) → Keep (fun k => v.ownBlock = some k) h h' → K h') :
    asSl1 v fun a l _ => 0 ≤ (i : Int) ∧ (i : Int) < (l : Int) ∧ sz = sz ∧ (∀ u ∈ f e', one u) ∧ storeK h (Addr.add a (Int.toNat (i : Int) * sz)) (f e') K := by
  rcases hs.2 with ⟨rfl, h0⟩ | ⟨g, p, cap, cur, rfl, hb, hg, hnc, hcm, hcs, hx⟩
  · omega
  · rw [asSl1_sl]
    have hmul : (i + 1) * sz ≤ es.length * sz := Nat.mul_le_mul_right sz (by omega)
    have hmul2 : es.length * sz ≤ cap * sz := Nat.mul_le_mul_right sz (by omega)
    have hfl := hf e'
    rw [Nat.add_mul, Nat.one_mul] at hmul
    refine ⟨by omega, by omega, rfl, h1, ?_⟩
    rw [addr_add, Int.toNat_natCast]
    refine storeK_of hg (by omega) (hk _ ⟨flat_len hf _, .inr ⟨g, p, cap, _, by rw [List.length_set], hb, hp_set_same hg, by simpa using hnc, hcm, by rw [spl_size (by omega)]; exact hcs, ?_⟩⟩ (Keep.set (S := fun k => _ = some k) _ rfl))
    rw [List.length_set, spl_mid (by omega) (by omega)]
    rw [hx, flat_spl hf hi]
end Go.Sx
namespace Go.Proofs.Ytfjkddigflijeaa
open Go Go.Sx Go.Sx.Pa Go.Sx.Ra Go.Proofs.Ytfjkddigflijeaa.Sx

def swI (e : Int × Int) : Int × Int := (e.2, e.1)
theorem esOf_sw (E : List (Int × Int)) : esOf (E.map swI) = sw (esOf E) := by
  unfold esOf sw swI
  rw [List.map_map, List.map_map]
  rfl
theorem bad_sw {n : Int} {E : List (Int × Int)} (hg : ∀ x ∈ E, bad n x = false) : ∀ x ∈ E.map swI, bad n x = false := fun x hx => by
  obtain ⟨e, he, rfl⟩ := List.mem_map.1 hx
  have := hg e he
  simp only [bad, swI, Bool.or_eq_false_iff] at this ⊢
  exact ⟨this.2.2.1, this.2.2.2, this.1, this.2.1⟩
def bk (E : List (Int × Int)) (i : Nat) : List (Int × Int) := (E.take i).map swI ++ List.replicate (E.length - i) (0, 0)
theorem bk_len {E : List (Int × Int)} {i : Nat} (hi : i ≤ E.length) : (bk E i).length = E.length := by
  unfold bk
  simp
  omega
theorem bk_step {E : List (Int × Int)} {i : Nat} {e : Int × Int} (hi : E[i]? = some e) : (bk E i).set i (swI e) = bk E (i + 1) := by
  have hl := (List.getElem?_eq_some_iff.1 hi).1
  unfold bk
  have hlm : ((E.take i).map swI).length = i := by simp; omega
  rw [List.set_append_right _ _ (by omega), hlm, Nat.sub_self]
  obtain ⟨q, hq⟩ : ∃ q, E.length - i = q + 1 := ⟨E.length - i - 1, by omega⟩
  rw [hq, show E.length - (i + 1) = q by omega, List.replicate_succ, List.set_cons_zero, List.take_add_one, hi]
  simp
/-- after the first V nodes -/
def RSt (n : Nat) (es : Es) (V : Nat) (l : List Nat) (most : Nat) : Prop :=
  (l = [] ∧ most = n ∧ ∀ v, v < V → ∀ d, ¬ Cyc n es v d) ∨
  ∃ u d D, u < V ∧ most = d ∧ Cyc n es u d ∧ (∀ v' d', v' < V → Cyc n es v' d' → d ≤ d' ∧ (d' = d → u ≤ v')) ∧ IsD (Nb n es u) n (u : Int) D ∧ l = wk (succ n es) D d u
theorem RSt.none_ {n : Nat} {es : Es} (ho : Ok n es) {V : Nat} {l : List Nat} {most : Nat} (s : RSt n es V l most) (hno : ∀ d, d < most → ¬ Cyc n es V d) : RSt n es (V + 1) l most := by
  rcases s with ⟨h1, rfl, h3⟩ | ⟨u, d, D, h1, rfl, h3, h4, h5, h6⟩
  · refine .inl ⟨h1, rfl, fun v hv d hc => ?_⟩
    rcases Nat.lt_or_ge v V with hlt | hge
    · exact h3 v hlt d hc
    · obtain rfl : v = V := by omega
      obtain ⟨m, a1, _, a3⟩ := hc.least ho
      exact hno m a3 a1
  · refine .inr ⟨u, most, D, by omega, rfl, h3, fun v' d' hv hc => ?_, h5, h6⟩
    rcases Nat.lt_or_ge v' V with hlt | hge
    · exact h4 v' d' hlt hc
    · obtain rfl : v' = V := by omega
      exact ⟨Nat.le_of_not_lt fun hl => hno d' hl hc, fun _ => by omega⟩
theorem RSt.some_ {n : Nat} {es : Es} {V : Nat} {l : List Nat} {most : Nat} (s : RSt n es V l most) {d : Nat} {D : Nat → Option Nat} (hd : d < most) (hc : Cyc n es V d) (hm : ∀ d', Cyc n es V d' → d ≤ d') (hD : IsD (Nb n es V) n (V : Int) D) :
    RSt n es (V + 1) (wk (succ n es) D d V) d := by
  refine .inr ⟨V, d, D, by omega, rfl, hc, fun v' d' hv hc' => ?_, hD, rfl⟩
  rcases Nat.lt_or_ge v' V with hlt | hge
  · rcases s with ⟨_, _, h3⟩ | ⟨u, e, _, h1, rfl, h3, h4, _⟩
    · exact absurd hc' (h3 v' hlt d')
    · have := h4 v' d' hlt hc'
      omega
  · obtain rfl : v' = V := by omega
    exact ⟨hm d' hc', fun _ => Nat.le_refl _⟩
theorem RSt.done {n : Nat} {es : Es} (ho : Ok n es) {l : List Nat} {most : Nat} (s : RSt n es n l most) : RoundIs n es l := by
  rcases s with ⟨h1, _, h3⟩ | ⟨u, d, D, h1, _, h3, h4, h5, h6⟩
  · exact .inl ⟨fun v d hc => h3 v (hc.lt ho) d hc, h1⟩
  · exact .inr ⟨u, d, D, h1, h3, fun v' d' hc => h4 v' d' (hc.lt ho) hc, h5, h6⟩
/-- what Round tells -/
def RoRes (n : Int) (E : List (Int × Int)) (h : Hp) (r : Value) (h' : Hp) : Prop :=
  ((chk n E).1 ≠ 0 ∧ r = .tuple #[.slice none 0 0, .agg (flt (chk n E).1 (chk n E).2).toArray]) ∨
  ((chk n E).1 = 0 ∧ ∃ (w : Value) (l : List Nat), r = .tuple #[w, .agg (flt 0 0).toArray] ∧ IO h' h.size w (nI l) ∧ RoundIs n.toNat (esOf E) l)

section
variable {ω : Amb}
theorem Round_law {h : Hp} {v : Value} {E : List (Int × Int)} {n : Int} (hs : EdAt h v E) (X : List PanicEntry → Hp → Prop) :
    CallX Try.prog ω n_ranks_Round [.int .i64 n, v] h (fun r h' => RoRes n E h r h' ∧ Keep (fun _ => False) h h') X := by
  refine C_ranks_Round ω _ _ h _ X ?_
  unfold W_ranks_Round
  have hb0 := hp_push_new (h := h) (o := .cells (flt 0 0).toArray 25 (0, 0))
  have k0 := Keep.push (S := fun _ => False) h (.cells (flt 0 0).toArray 25 (0, 0))
  have hs0 := EdAt.keep hs k0
  refine CallX.use (Check_law hs0 n) ?_
  rintro _ h1 ⟨rfl, k1⟩
  rw [asA_agg]
  have hb1 := k1.get hb0 (by simp)
  have k1 := k0.trans k1
  refine ⟨rfl, flt_one _ _, storeK_local (cs := flt (chk n E).1 (chk n E).2) rfl ?_⟩
  have hb3 := hp_push_new (h := h1) (o := .cells (flt (chk n E).1 (chk n E).2).toArray 25 (0, 0))
  have kp3 := Keep.push (S := fun _ => False) h1 (.cells (flt (chk n E).1 (chk n E).2).toArray 25 (0, 0))
  have hf3 := kp3.get hb1 (by simp)
  have k3 := k1.trans kp3
  generalize h1.push (.cells (flt (chk n E).1 (chk n E).2).toArray 25 (0, 0)) = h3 at *
  refine lx hb3 rfl ?_
  rw [asK_int]
  refine cond_c (fun hc => ?_) (fun hc => ?_)
  · have hne : (chk n E).1 ≠ 0 := by simpa using hc
    refine ⟨_, cellsH_blk hb3 rfl, rfl, flt_one _ _, finF (cs := flt (chk n E).1 (chk n E).2) hf3 rfl rfl fun h4 k4 _ => ?_⟩
    exact ⟨.inl ⟨hne, rfl⟩, k3.newer (k4.mono fun b _ hb => .inr (Nat.le_of_eq hb.symm))⟩
  have hz : (chk n E).1 = 0 := by simpa using hc
  obtain ⟨hn0, hn1, hE, hg⟩ := chk_zero hz
  obtain ⟨m, rfl⟩ : ∃ m : Nat, n = m := ⟨n.toNat, by omega⟩
  have hok := es_ok hg
  have hs3 := EdAt.keep hs k3
  refine CallX.use (next_law hs3 (by omega) hE hg) ?_
  rintro r9 h4 ⟨hr9, k4⟩
  have hf4 := k4.get hf3 (by simp)
  have k34 := k3.trans k4
  have hs4 := EdAt.keep hs k34
  refine EdAt.sl hs4 fun _ _ => ?_
  refine makeK_of (z := ef (0, 0)) (bt := 16) (el := 30) (sz := 2) (by kernel_rfl) (by kernel_rfl) (by omega) (by omega) (by omega) ?_
  rw [Int.toNat_natCast, zeroRow_flat ef_len]
  have hb5 := hp_push_new (h := h4) (o := .cells ((List.replicate E.length ((0, 0) : Int × Int)).flatMap ef).toArray 30 (0, 0))
  have kp5 := Keep.push (S := fun _ => False) h4 (.cells ((List.replicate E.length ((0, 0) : Int × Int)).flatMap ef).toArray 30 (0, 0))
  generalize Array.push h4 (.cells ((List.replicate E.length ((0, 0) : Int × Int)).flatMap ef).toArray 30 (0, 0)) = h5 at *
  have ho5 : OwnH h5 h4.size 30 2 (.slice (some ⟨h4.size, 0, none⟩) E.length E.length) E.length ((bk E 0).flatMap ef) := by
    have : bk E 0 = List.replicate E.length (0, 0) := by simp [bk]
    rw [this]
    exact ownBlk hb5 (by rw [flat_len ef_len]; simp) (by simp only [maxLen]; omega) (Nat.le_refl _)
  generalize Value.slice (some ⟨h4.size, 0, none⟩) E.length E.length = bv at *
  have hs5 := EdAt.keep hs4 kp5
  refine EdAt.sl hs5 fun _ _ => ?_
  refine ⟨fun t h' => ∃ i : Nat, t = .int .i64 i ∧ i ≤ E.length ∧ OwnH h' h4.size 30 2 bv E.length ((bk E i).flatMap ef) ∧ Keep (fun _ => False) h4 h', fun t _ => match t with | .int _ i => E.length - i.toNat | _ => 0, ⟨0, rfl, by omega, ho5, kp5⟩, ?_⟩
  rintro _ _ h6 ⟨i, rfl, hi, ho6, k6⟩
  have hs6 := EdAt.keep hs4 k6
  rw [asK_int]
  refine cond_c (fun hc => ?_) (fun hc => ?_)
  · have hlt : i < E.length := by have := of_decide_eq_true hc; omega
    have hx := List.getElem?_eq_getElem hlt
    generalize E[i] = e at hx
    refine SlAt.rdS hs6 ef_len hx ?_
    refine ⟨rfl, ef_one _, storeK_local (cs := ef e) rfl ?_⟩
    have hb7 := hp_push_new (h := h6) (o := .cells (ef e).toArray 30 (0, 0))
    have kp7 := Keep.push (S := fun _ => False) h6 (.cells (ef e).toArray 30 (0, 0))
    have ho7 := OwnH.more ho6 kp7
    have k7 := k6.trans kp7
    generalize h6.push (.cells (ef e).toArray 30 (0, 0)) = h7 at *
    refine ⟨by decide, by decide, lx hb7 rfl ?_⟩
    refine ⟨by decide, by decide, lx hb7 rfl ?_⟩
    rw [oneK_int, oneK_int]
    have hbl := bk_len hi
    rw [← hbl] at ho7
    refine OwnH.storeS ho7 ef_len (by omega : i < (bk E i).length) (e' := swI e) (ef_one _) fun h8 ho8 k8 => ?_
    rw [asK_int, i64_in (by omega) (by omega)]
    rw [bk_step hx, bk_len (by omega)] at ho8
    have hbo := OwnH.lt ho7
    exact ⟨⟨i + 1, by simp, by omega, ho8, k7.newer (k8.mono fun b _ hb => .inr (hbo b hb).1)⟩, by simp; omega⟩
  have hie : i = E.length := by have := of_decide_eq_false hc; omega
  subst hie
  have hbe : bk E E.length = E.map swI := by simp [bk]
  rw [hbe] at ho6
  have hb6 : EdAt h6 bv (E.map swI) := by
    have := ho6.slAt
    rw [EdAt, List.length_map]
    exact this
  refine CallX.use (next_law hb6 (by omega) (by rw [List.length_map]; exact hE) (bad_sw hg)) ?_
  rintro rf h7 ⟨hrf, k7⟩
  rw [esOf_sw] at hrf
  have k47 := k6.trans k7
  have hr7 := Rows.keep hr9 k47
  have hf7 := (k47).get hf4 (by simp)
  have k07 := k34.trans k47
  have hlt7 := hp_lt hf4
  have hsz47 := k47.size
  refine ⟨fun out most t h' => ∃ (V mo : Nat) (l : List Nat), most = .int .i64 mo ∧ t = .int .i64 V ∧ V ≤ m ∧ mo ≤ m ∧ IO h' h7.size out (nI l) ∧ RSt m (esOf E) V l mo ∧ Keep (fun _ => False) h7 h',
    fun _ _ t _ => match t with | .int _ V => m - V.toNat | _ => 0, ⟨0, m, [], rfl, rfl, by omega, by omega, OwnH.nil, .inl ⟨rfl, rfl, fun _ h => by omega⟩, Keep.refl _ _⟩, ?_⟩
  rintro out _ _ _ h8 ⟨V, mo, l, rfl, rfl, hV, hmo, ho8, hst, k8⟩
  rw [asK_int, asK_int]
  refine cond_c (fun hc => ?_) (fun hc => ?_)
  · have hVm : V < m := by have := of_decide_eq_true hc; omega
    refine ⟨fun out most h' => ∃ (mo : Nat) (l : List Nat), most = .int .i64 mo ∧ mo ≤ m ∧ IO h' h7.size out (nI l) ∧ RSt m (esOf E) (V + 1) l mo ∧ Keep (fun _ => False) h7 h', ?_, ?_⟩
    rotate_left
    · rintro out _ _ h9 ⟨mo, l, rfl, hmo, ho9, hst, k9⟩
      rw [asK_int, i64_in (by omega) (by omega)]
      exact ⟨⟨V + 1, mo, l, rfl, by simp, by omega, hmo, ho9, hst, k9⟩, by simp; omega⟩
    refine CallX.use (round_law hok (Rows.keep hr7 k8) (Rows.keep hrf k8) (by omega) hVm (by omega)) ?_
    rintro rr h9 ⟨l', ho9, hrd, k9⟩
    refine IS.sl ho9.slAt fun _ _ => ?_
    rw [nI_len]
    refine ⟨fun out most h' => ∃ (mo : Nat) (l : List Nat), most = .int .i64 mo ∧ mo ≤ m ∧ IO h' h7.size out (nI l) ∧ RSt m (esOf E) (V + 1) l mo ∧ Keep (fun _ => False) h7 h', ?_, fun _ _ _ _ hj => hj⟩
    refine cond_c (fun hc => ?_) (fun hc => ?_)
    · rcases hrd with ⟨rfl, _⟩ | ⟨d, D, hd, hcy, hmin, hD, rfl⟩
      · simp at hc
      · have hwl := (wk_all hok hVm hD d V (hcy.first hok hmin hD)).1
        refine IS.sl ho9.slAt fun _ _ => ?_
        rw [nI_len, hwl, i64_in (by omega) (by omega)]
        exact ⟨d, _, by simp, by omega, OwnH.base ho9 k8.size, hst.some_ hd hcy hmin hD, k8.trans k9⟩
    · rcases hrd with ⟨rfl, hno⟩ | ⟨d, D, hd, hcy, hmin, hD, rfl⟩
      · exact ⟨mo, l, rfl, hmo, OwnH.more ho8 k9, hst.none_ hok hno, k8.trans k9⟩
      · have hwl := (wk_all hok hVm hD d V (hcy.first hok hmin hD)).1
        rw [hwl] at hc
        have := of_decide_eq_false hc
        omega
  · obtain rfl : V = m := by have := of_decide_eq_false hc; omega
    have hf8 := k8.get hf7 (by simp)
    refine ⟨rfl, flt_one 0 0, finF (cs := flt 0 0) hf8 rfl rfl fun h9 k9 _ => ?_⟩
    refine ⟨.inr ⟨hz, out, l, rfl, ?_, hst.done hok⟩, (k07.trans k8).newer (k9.mono fun b _ hb => .inr (Nat.le_of_eq hb.symm))⟩
    refine OwnH.base (IO.keepW ho8 k9 fun b hb hbe => ?_) k07.size
    have := (OwnH.lt ho8 b hb).1
    omega
end
end Go.Proofs.Ytfjkddigflijeaa
