/- Ways: WayTo, GreatProc. -/
import Derived.Test.YtihibbejjmldjaaP11
namespace Go.Proofs.Ytihibbejjmldjaa
open Go Go.Sx Go.Sx.Pa Go.Proofs.Ytihibbejjmldjaa.Sx

theorem SlAt.rdC {h : Hp} {v : Value} {n : Nat} {cs : List Value} (hs : SlAt h 11 v n cs) {i : Nat} (hi : i < n) {K : List Value → Prop} (hk : K ((cs.drop (i * 11)).take 11)) :
    asSl1 v fun a l _ => 0 ≤ (i : Int) ∧ (i : Int) < (l : Int) ∧ ∃ C, cellsH h (Addr.add a (Int.toNat (i : Int) * 11)) 11 C ∧ K C := by
  have hcl := hs.1
  rcases hs.2 with ⟨h0, _⟩ | ⟨b, o, cap, rfl, hc⟩
  · omega
  · rw [asSl1_sl]
    refine ⟨by omega, by omega, _, ⟨by rw [List.length_take, List.length_drop, hcl]; omega, fun j u hu => ?_⟩, hk⟩
    rw [addr_add, addr_add, Int.toNat_natCast, Nat.add_assoc]
    refine hc _ u ?_
    rw [List.getElem?_take] at hu
    split at hu
    · rw [List.getElem?_drop] at hu
      exact hu
    · cases hu
def isSl (u : Value) : Prop := ∃ a l c, u = .slice a l c
theorem isSl.sl {u : Value} (h : isSl u) {F : Option Addr → Nat → Nat → Prop} (hf : ∀ a l c, F a l c) : asSl u F := by
  obtain ⟨a, l, c, rfl⟩ := h
  exact hf a l c
/-- a code in the heap, as far as its sizes are asked -/
structure GpAt (h : Hp) (a b d v : Value) (n : Nat) : Prop where
  name : ∃ s, a = .string s
  vars : ∃ nb vs, SlAt h 2 b nb vs ∧ ∀ i, i < nb → ∃ s t, vs[i * 2 + 0]? = some (.string s) ∧ vs[i * 2 + 1]? = some (.string t)
  blocks : isSl d
  ins : ∃ cs, SlAt h 11 v n cs ∧ (∀ u ∈ cs, one u) ∧ ∀ i, i < n → ∃ s e av, cs[i * 11 + 5]? = some (.string s) ∧ cs[i * 11 + 6]? = some e ∧ isSl e ∧ cs[i * 11 + 7]? = some av ∧
    ∃ na us, SlAt h 2 av na us ∧ ∀ k, k < na → ∃ e2, us[k * 2 + 0]? = some e2 ∧ isSl e2
theorem GpAt.keep {h h' : Hp} {a b d v : Value} {n : Nat} (g : GpAt h a b d v n) (hk : Keep (fun _ => False) h h') : GpAt h' a b d v n := by
  obtain ⟨h1, ⟨nb, vs, h2, h3⟩, h4, ⟨cs, h5, h6, h7⟩⟩ := g
  refine ⟨h1, ⟨nb, vs, h2.keep hk, h3⟩, h4, ⟨cs, h5.keep hk, h6, fun i hi => ?_⟩⟩
  obtain ⟨s, e, av, e1, e2, e3, e4, na, as', e5, e6⟩ := h7 i hi
  exact ⟨s, e, av, e1, e2, e3, e4, na, as', e5.keep hk, e6⟩

section
variable {ω : Amb} {L : Pa.Code} {pa pb pc pd pv : Value}
theorem WayTo_law {h : Hp} (hi : InsAt h pv L) (hn : L.length ≤ 300) (fr : Int) {to : Int} {D : Nat → Option Nat} (hD : IsD (behind L) L.length to D) (hDb : ∀ k d, D k = some d → d < L.length) (X : List PanicEntry → Hp → Prop) :
    CallX Try.prog ω n_pipewrightref_WayTo [.agg (prc pa pb pc pd pv).toArray, .int .i64 fr, .int .i64 to] h (fun r h' => IS h' r (nI (pathR L D fr)) ∧ Keep (fun _ => False) h h') X := by
  refine C_pipewrightref_WayTo ω _ _ _ h _ X ?_
  unfold W_pipewrightref_WayTo
  have hb1 := pb_new h (prc pa pb pc pd pv)
  have k1 := Keep.push (S := fun _ => False) h (.cells (Value.cells (.agg (prc pa pb pc pd pv).toArray)) 26 (0, 0))
  have hi1 := hi.keep k1
  generalize Array.push h (.cells (Value.cells (.agg (prc pa pb pc pd pv).toArray)) 26 (0, 0)) = h1 at *
  refine ⟨!inR L fr, ?_, fun _ => cond_c (fun hc => ?_) (fun hc => ?_)⟩
  · unfold inR
    rw [asK_int]
    refine cond_c (fun hc => ?_) (fun hc => ?_)
    · have := of_decide_eq_true hc
      rw [decide_eq_false (by omega : ¬ 0 ≤ fr)]
      exact ⟨rfl, rfl⟩
    have h1' := of_decide_eq_false hc
    refine lx hb1 rfl ?_
    refine hi1.sl fun _ _ => ?_
    rw [asK_int]
    refine ⟨?_, rfl⟩
    congr 1
    rw [Bool.eq_iff_iff]
    simp
    omega
  · have : inR L fr = false := by simpa using hc
    unfold pathR
    rw [this]
    exact ⟨⟨rfl, .inl ⟨rfl, _, _, rfl⟩⟩, k1⟩
  have hin : inR L fr = true := by simpa using hc
  unfold pathR
  rw [if_pos hin]
  unfold inR at hin
  rw [Bool.and_eq_true, decide_eq_true_eq, decide_eq_true_eq] at hin
  obtain ⟨f, rfl⟩ : ∃ f : Nat, fr = f := ⟨fr.toNat, by omega⟩
  rw [Int.toNat_natCast]
  have hfl : f < L.length := by omega
  refine ⟨_, cellsH_blk hb1 rfl, ?_⟩
  refine CallX.use (Away_law hi1 hn hD hDb) ?_
  rintro r2 h2 ⟨o, hol, ho2, k2, hval⟩
  have hs2 : IS h2 r2 o := ho2.slAt
  have hb2 := k2.get hb1 (by simp)
  have hi2 := hi1.keep k2
  refine hs2.rd (val_at (by omega : f < o.length)) ?_
  rw [asK_int, hval f hfl]
  unfold pathL
  cases hdf : D f with
  | none =>
    refine cond_t (by simp [farOff]) ?_
    exact ⟨⟨rfl, .inl ⟨rfl, _, _, rfl⟩⟩, k1.trans k2⟩
  | some d0 =>
    have hd0 := hDb f d0 hdf
    refine cond_f (by simp; omega) ?_
    rw [oneK_int]
    have hlit := IO.lit (h := h2) [(f : Int)] (by simp)
    have klit := Keep.push (S := fun _ => False) h2 (.cells (iv [(f : Int)]).toArray 3 (0, 0))
    refine ⟨fun at_ out h' => ∃ (m d : Nat) (done : List Nat), at_ = .int .i64 m ∧ D m = some d ∧ m < L.length ∧ wayF L D d0 f = done ++ (wayF L D d m).tail ∧ IO h' h2.size out (nI done) ∧ done.length + d ≤ 1000 ∧ Keep (fun _ => False) h2 h',
      fun at_ _ _ => match at_ with | .int _ m => (D m.toNat).getD 0 | _ => 0, ⟨f, d0, [f], rfl, hdf, hfl, ?_, hlit, by simp; omega, klit⟩, ?_⟩
    · cases d0 <;> rfl
    rintro _ out _ h3 ⟨m, d, done, rfl, hdm, hml, hway, ho3, hlen, k3⟩
    have hs3 : IS h3 r2 o := SlAt.keep hs2 k3
    have hi3 := hi2.keep k3
    have hb3 := k3.get hb2 (by simp)
    have hvm : val o m = (d : Int) := by
      have := hval m hml
      rw [hdm] at this
      exact this
    refine hs3.rd (val_at (by omega : m < o.length)) ?_
    rw [asK_int, hvm]
    refine cond_c (fun hc => ?_) (fun hc => ?_)
    · obtain ⟨d', rfl⟩ : ∃ d', d = d' + 1 := ⟨d - 1, by have := of_decide_eq_true hc; omega⟩
      obtain ⟨k, hfind, hE, hdk⟩ := step_down hD hdm
      refine ⟨_, cellsH_blk hb3 rfl, ?_⟩
      refine CallX.use (Nexts_law hi3 (by omega) (m : Int)) ?_
      rintro r4 h4 ⟨ho4, k4⟩
      rw [nx_nat hml] at ho4
      have hs4 : IS h4 r2 o := SlAt.keep hs3 k4
      obtain ⟨hpk, as', bs, hab, hno⟩ := List.find?_eq_some_iff_append.1 hfind
      have hnl := nexts_len L m
      rw [hab] at hnl
      simp at hnl
      have hkl := (E_lt hE).2
      have hb' := hDb _ _ hdm
      refine ⟨fun q h' => h' = h4 ∧ ∃ q' : Nat, q = .int .i64 q' ∧ q' ≤ as'.length, fun q _ => match q with | .int _ q => as'.length - q.toNat | _ => 0, ⟨rfl, 0, rfl, by omega⟩, ?_⟩
      rintro _ _ _ ⟨hh, q, rfl, hq⟩
      rw [hh]
      obtain ⟨y, hy, hyl⟩ : ∃ y, (nexts L m)[q]? = some y ∧ y < L.length := by
        have hql : q < (nexts L m).length := by rw [hab]; simp; omega
        refine ⟨_, List.getElem?_eq_getElem hql, (E_lt (show E L m _ from List.getElem_mem hql)).2⟩
      refine IS.rd ho4.slAt (nI_at hy) ?_
      refine hs4.rd (val_at (by omega : y < o.length)) ?_
      refine hs4.rd (val_at (by omega : m < o.length)) ?_
      rw [asK_int, asK_int, hvm, i64_in (by omega) (by omega)]
      have hyv : (val o y = ((d' + 1 : Nat) : Int) - 1) ↔ D y = some d' := by
        rw [hval y hyl]
        cases hdy : D y with
        | none =>
          simp only [farOff]
          refine ⟨fun h => by omega, fun h => by cases h⟩
        | some e =>
          simp only [Option.some.injEq]
          omega
      refine cond_c (fun hc => ?_) (fun hc => ?_)
      · have hny : ¬ D y = some d' := fun h => by
          rw [hyv.2 h] at hc
          simp at hc
        have hlt : q < as'.length := by
          rcases Nat.lt_or_ge q as'.length with h1 | h1
          · exact h1
          · have hqe : q = as'.length := by omega
            rw [hqe, hab, List.getElem?_append_right (Nat.le_refl _), Nat.sub_self] at hy
            cases hy
            exact absurd hdk hny
        rw [asK_int, i64_in (by omega) (by omega)]
        exact ⟨⟨rfl, q + 1, by simp, by omega⟩, by simp; omega⟩
      · have hyd : D y = some d' := hyv.1 (by simpa using hc)
        have hqe : q = as'.length := by
          rcases Nat.lt_or_ge q as'.length with h1 | h1
          · rw [hab, List.getElem?_append_left h1] at hy
            have := hno y (List.mem_iff_getElem?.2 ⟨q, hy⟩)
            rw [hyd] at this
            simp at this
          · omega
        have hky : y = k := by
          rw [hqe, hab, List.getElem?_append_right (Nat.le_refl _), Nat.sub_self] at hy
          cases hy
          rfl
        subst hky
        refine IS.rd ho4.slAt (nI_at hy) ?_
        rw [oneK_int]
        have ho34 : IO h4 h2.size out (nI done) := OwnH.more ho3 k4
        refine ho34.app (by rw [nI_len]; omega) (k3.trans k4).size (y : Int) fun w h5 ho5 k5 _ => ?_
        refine ⟨⟨y, d', done ++ [y], rfl, hdk, hkl, ?_, ?_, by simp; omega, (k3.trans k4).newer (k5.mono fun b _ hb => .inr (ho34.lt b hb).1)⟩, ?_⟩
        · rw [hway]
          simp only [wayF, hfind, List.tail_cons]
          cases d' <;> simp [wayF]
        · have : nI (done ++ [y]) = nI done ++ [(y : Int)] := by simp [nI]
          rw [this]
          exact ho5
        · simp only [Int.toNat_natCast, hdk, hdm, Option.getD_some]
          omega
    · have h0 : d = 0 := by have := of_decide_eq_false hc; omega
      subst h0
      simp only
      rw [hway]
      simp only [wayF, List.tail_cons, List.append_nil]
      exact ⟨ho3.slAt, (k1.trans k2).trans k3⟩

set_option maxHeartbeats 800000 in
theorem Great_law {h : Hp} {n : Nat} (hg : GpAt h pa pb pd pv n) (X : List PanicEntry → Hp → Prop) :
    CallX Try.prog ω n_pipewrightref_GreatProc [.agg (prc pa pb pc pd pv).toArray, .int .i64 300] h (fun r h' => ∃ g : Bool, r = .bool g ∧ Keep (fun _ => False) h h' ∧ (g = false → n ≤ 300)) X := by
  refine C_pipewrightref_GreatProc ω _ _ h _ X ?_
  unfold W_pipewrightref_GreatProc
  have hb1 := pb_new h (prc pa pb pc pd pv)
  have k1 := Keep.push (S := fun _ => False) h (.cells (Value.cells (.agg (prc pa pb pc pd pv).toArray)) 26 (0, 0))
  have hg1 := hg.keep k1
  generalize Array.push h (.cells (Value.cells (.agg (prc pa pb pc pd pv).toArray)) 26 (0, 0)) = h1 at *
  obtain ⟨⟨nm, rfl⟩, ⟨nb, vs, hv1, hv2⟩, hbl, ⟨cs, hc1, hc2, hc3⟩⟩ := hg1
  refine ⟨decide (1000 < nm.size) || (decide (300 < nb) || (match pd with | .slice _ l _ => decide (300 < l) | _ => false) || decide (300 < n)), ?_, fun _ => cond_c (fun _ => ⟨true, rfl, k1, fun h => by cases h⟩) (fun hc => ?_)⟩
  · refine lx hb1 rfl ?_
    rw [asS_str]
    refine cond_c (fun hc => ?_) (fun hc => ?_)
    · have := of_decide_eq_true hc
      rw [decide_eq_true (by omega : 1000 < nm.size)]
      exact ⟨rfl, rfl⟩
    have := of_decide_eq_false hc
    rw [decide_eq_false (by omega : ¬ 1000 < nm.size), Bool.false_or]
    refine lx hb1 rfl ?_
    refine hv1.sl fun _ _ => ?_
    rw [asK_int]
    refine cond_c (fun hc => ?_) (fun hc => ?_)
    · have := of_decide_eq_true hc
      rw [decide_eq_true (by omega : 300 < nb)]
      exact ⟨rfl, rfl⟩
    have := of_decide_eq_false hc
    rw [decide_eq_false (by omega : ¬ 300 < nb), Bool.false_or]
    refine lx hb1 rfl ?_
    obtain ⟨da, dl, dc, rfl⟩ := hbl
    rw [asSl_sl, asK_int]
    refine cond_c (fun hc => ?_) (fun hc => ?_)
    · have := of_decide_eq_true hc
      simp only
      rw [decide_eq_true (by omega : 300 < dl)]
      exact ⟨rfl, trivial⟩
    have := of_decide_eq_false hc
    simp only
    rw [decide_eq_false (by omega : ¬ 300 < dl), Bool.false_or]
    refine lx hb1 rfl ?_
    refine hc1.sl fun _ _ => ?_
    rw [asK_int]
    refine ⟨?_, trivial⟩
    congr 1
    rw [Bool.eq_iff_iff]
    simp
    omega
  rw [Bool.or_eq_false_iff, Bool.or_eq_false_iff, Bool.or_eq_false_iff] at hc
  have hn : n ≤ 300 := by have := of_decide_eq_false hc.2.2; omega
  have hnb : nb ≤ 300 := by have := of_decide_eq_false hc.2.1.1; omega
  refine ⟨fun i h' => h' = h1 ∧ ∃ i' : Nat, i = .int .i64 i' ∧ i' ≤ nb, fun i _ => match i with | .int _ k => nb - k.toNat | _ => 0, ⟨rfl, 0, rfl, by omega⟩, ?_⟩
  rintro _ _ _ ⟨hh, i, rfl, hib⟩
  rw [hh]
  refine lx hb1 rfl ?_
  refine hv1.sl fun _ _ => ?_
  rw [asK_int]
  refine cond_c (fun hc => ?_) (fun hc => ?_)
  · have hlt : i < nb := by have := of_decide_eq_true hc; omega
    obtain ⟨s, t, hs, ht⟩ := hv2 i hlt
    refine ⟨decide (100 < s.size) || decide (100 < t.size), ?_, fun _ => cond_c (fun _ => ⟨true, rfl, k1, fun h => by cases h⟩) (fun _ => ?_)⟩
    · refine lx hb1 rfl ?_
      refine hv1.rdF hlt hs ?_
      rw [asS_str]
      refine cond_c (fun hc => ?_) (fun hc => ?_)
      · have := of_decide_eq_true hc
        rw [decide_eq_true (by omega : 100 < s.size)]
        exact ⟨rfl, rfl⟩
      have := of_decide_eq_false hc
      rw [decide_eq_false (by omega : ¬ 100 < s.size), Bool.false_or]
      refine lx hb1 rfl ?_
      refine hv1.rdF hlt ht ?_
      rw [asS_str]
      refine ⟨?_, rfl⟩
      congr 1
      rw [Bool.eq_iff_iff]
      simp
      omega
    · rw [asK_int, i64_in (by omega) (by omega)]
      exact ⟨⟨rfl, i + 1, by simp, by omega⟩, by simp; omega⟩
  refine ⟨fun a i h' => Keep (fun _ => False) h1 h' ∧ ∃ (i' : Nat) (z : Int), a = .int .i64 z ∧ i = .int .i64 i' ∧ i' ≤ n, fun _ i _ => match i with | .int _ k => n - k.toNat | _ => 0, ⟨Keep.refl _ _, 0, 0, rfl, rfl, by omega⟩, ?_⟩
  rintro _ _ _ h2 ⟨k2, j, z, rfl, rfl, hj⟩
  have hb2 := k2.get hb1 (by simp)
  have hc12 := hc1.keep k2
  refine lx hb2 rfl ?_
  refine hc12.sl fun _ _ => ?_
  rw [asK_int]
  refine cond_c (fun hc => ?_) (fun _ => ⟨false, rfl, k1.trans k2, fun _ => hn⟩)
  have hlt : j < n := by have := of_decide_eq_true hc; omega
  obtain ⟨s, e, av, e1, e2, e3, e4, na, as', e5, e6⟩ := hc3 j hlt
  refine lx hb2 rfl ?_
  have hcl := hc12.1
  have hlen : ((cs.drop (j * 11)).take 11).length = 11 := by
    rw [List.length_take, List.length_drop, hcl]
    omega
  have hpick : ∀ (o : Nat) (u : Value), o < 11 → cs[j * 11 + o]? = some u → ((cs.drop (j * 11)).take 11)[o]? = some u := fun o u ho hu => by
    rw [List.getElem?_take, if_pos ho, List.getElem?_drop]
    exact hu
  refine Go.Proofs.Ytihibbejjmldjaa.SlAt.rdC hc12 hlt ?_
  have hones : ∀ u ∈ (cs.drop (j * 11)).take 11, one u := fun u hu => hc2 u (List.mem_of_mem_drop (List.mem_of_mem_take hu))
  have q5 := hpick 5 _ (by decide) e1
  have q6 := hpick 6 _ (by decide) e2
  have q7 := hpick 7 _ (by decide) e4
  generalize (cs.drop (j * 11)).take 11 = C at *
  refine ⟨hlen, by simpa using hones, storeK_local (cs := C) (by rw [hlen]; rfl) ?_⟩
  have hC3 := hp_push_new (h := h2) (o := .cells C.toArray 41 (0, 0))
  have kp := Keep.push (S := fun _ => False) h2 (.cells C.toArray 41 (0, 0))
  have hb3 := kp.get hb2 (by simp)
  have k3 := k2.trans kp
  have hav3 := (e5.keep k2).keep kp
  generalize h2.push (.cells C.toArray 41 (0, 0)) = h3 at *
  generalize h2.size = G3 at *
  refine ⟨decide (100 < s.size) || (decide (100 < na) || (match e with | .slice _ l _ => decide (1000 < l) | _ => false)), ?_, fun _ => cond_c (fun _ => ⟨true, rfl, k1.trans k3, fun h => by cases h⟩) (fun hc => ?_)⟩
  · refine lx hC3 q5 ?_
    rw [asS_str]
    refine cond_c (fun hc => ?_) (fun hc => ?_)
    · have := of_decide_eq_true hc
      rw [decide_eq_true (by omega : 100 < s.size)]
      exact ⟨rfl, rfl⟩
    have := of_decide_eq_false hc
    rw [decide_eq_false (by omega : ¬ 100 < s.size), Bool.false_or]
    refine lx hC3 q7 ?_
    refine hav3.sl fun _ _ => ?_
    refine cond_c (fun hc => ?_) (fun hc => ?_)
    · have := of_decide_eq_true hc
      rw [decide_eq_true (by omega : 100 < na)]
      exact ⟨rfl, rfl⟩
    have := of_decide_eq_false hc
    rw [decide_eq_false (by omega : ¬ 100 < na), Bool.false_or]
    refine lx hC3 q6 ?_
    obtain ⟨ea, el, ec, rfl⟩ := e3
    rw [asSl_sl]
    refine ⟨?_, rfl⟩
    simp only
    congr 1
    rw [Bool.eq_iff_iff]
    simp
    omega
  rw [Bool.or_eq_false_iff, Bool.or_eq_false_iff] at hc
  have hna : na ≤ 100 := by have := of_decide_eq_false hc.2.1; omega
  refine lx hC3 q6 ?_
  refine isSl.sl e3 fun _ el _ => ?_
  rw [asK_int]
  refine ⟨fun a i h' => h' = h3 ∧ ∃ (i' : Nat) (z : Int), a = .int .i64 z ∧ i = .int .i64 i' ∧ i' ≤ na, fun _ i _ => match i with | .int _ k => na - k.toNat | _ => 0, ⟨rfl, 0, _, rfl, rfl, by omega⟩, ?_⟩
  rintro _ _ _ _ ⟨hh, i2, z2, rfl, rfl, hi2⟩
  rw [hh]
  refine lx hC3 q7 ?_
  refine hav3.sl fun _ _ => ?_
  rw [asK_int]
  refine cond_c (fun hc => ?_) (fun _ => ?_)
  · have hlt2 : i2 < na := by have := of_decide_eq_true hc; omega
    obtain ⟨e7, h7, h8⟩ := e6 i2 hlt2
    refine lx hC3 q7 ?_
    refine hav3.rdF hlt2 h7 ?_
    refine isSl.sl h8 fun _ _ _ => ?_
    refine cond_c (fun _ => ⟨true, rfl, k1.trans k3, fun h => by cases h⟩) (fun _ => ?_)
    refine lx hC3 q7 ?_
    refine hav3.rdF hlt2 h7 ?_
    refine isSl.sl h8 fun _ _ _ => ?_
    rw [asK_int, asK_int, i64_in (n := (i2 : Int) + 1) (by omega) (by omega)]
    exact ⟨⟨rfl, i2 + 1, _, rfl, by simp, by omega⟩, by simp; omega⟩
  · rw [asK_int, asK_int]
    refine cond_c (fun _ => ⟨true, rfl, k1.trans k3, fun h => by cases h⟩) (fun _ => ?_)
    rw [asK_int, i64_in (by omega) (by omega)]
    exact ⟨⟨k3, j + 1, z2, rfl, by simp, by omega⟩, by simp; omega⟩
end
end Go.Proofs.Ytihibbejjmldjaa
