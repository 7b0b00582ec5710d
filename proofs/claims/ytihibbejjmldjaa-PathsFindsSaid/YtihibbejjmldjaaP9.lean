/- Ways: Path. -/
import Derived.Test.YtihibbejjmldjaaP8
namespace Go.Proofs.Ytihibbejjmldjaa
open Go Go.Sx Go.Sx.Pa Go.Proofs.Ytihibbejjmldjaa.Sx

def pathR (L : Pa.Code) (D : Nat → Option Nat) (i : Int) : List Nat := if inR L i = true then pathL L D i.toNat else []
theorem behind_len (L : Pa.Code) (k : Nat) : (behind L k).length ≤ L.length := by
  unfold behind
  exact Nat.le_trans (List.length_filter_le _ _) (by simp)
theorem find_at {l : List Nat} {p : Nat → Bool} {k x : Nat} (hk : l[k]? = some x) (hx : p x = true) (hn : ∀ y ∈ l.take k, p y = false) : l.find? p = some x := by
  rw [List.find?_eq_some_iff_append]
  obtain ⟨hl, rfl⟩ := List.getElem?_eq_some_iff.1 hk
  refine ⟨hx, l.take k, l.drop (k + 1), ?_, fun y hy => by rw [hn y hy]; rfl⟩
  rw [List.getElem_cons_drop, List.take_append_drop]
theorem dist_eq {o : List Int} {k d : Nat} (h : dist o k = some d) : val o k = (d : Int) := by
  unfold dist at h
  split at h
  · cases h
    omega
  · cases h
theorem dist_neg {o : List Int} {k : Nat} (h : dist o k = none) : val o k < 0 := by
  unfold dist at h
  split at h
  · cases h
  · omega

section
variable {ω : Amb} {L : Pa.Code} {pa pb pc pd pv : Value}
theorem Path1_law {h : Hp} {G : Nat} {v : Value} {n : Nat} {vals : List Value} (hb : h[G]? = some (.cells [v].toArray 46 (0, 0))) (hv : SlAt h 1 v n vals) {i : Nat} {w : Value} (hw : vals[i]? = some w) (Y : List PanicEntry → Hp → Prop) :
    callK Try.prog ω (.func (.func 20) #[] #[(.pointer (some ⟨G, 0, none⟩))]) [.int .i64 ((i : Nat) : Int)] h (fun r h' => r = w ∧ h' = h) Y := by
  have hca : callable Try.prog 20 = true := by kernel_rfl
  unfold callK
  simp only [hca, cond_true]
  refine C_paths_Path_1 ω _ _ h _ Y ?_
  unfold W_paths_Path_1
  rw [asP_some]
  refine lxn hb rfl ?_
  exact hv.rd1 hw ⟨rfl, rfl⟩
theorem Path2_law {h : Hp} {G F : Nat} {v : Value} {o : List Int} (hb : h[G]? = some (.cells [v].toArray 30 (0, 0))) (hs : IS h v o)
    {k : Nat} (hk : k < o.length) {m : Nat} (hm : h[F]? = some (.cells (List.toArray [.int .i64 ((m : Nat) : Int)]) 3 (0, 0))) (hml : m < o.length) (hv : 0 ≤ val o m ∧ val o m ≤ 1000) (Y : List PanicEntry → Hp → Prop) :
    callK Try.prog ω (.func (.func 22) #[] #[(.pointer (some ⟨G, 0, none⟩)), (.pointer (some ⟨F, 0, none⟩))]) [.int .i64 ((k : Nat) : Int)] h (fun r h' => r = .bool (val o k == val o m - 1) ∧ h' = h) Y := by
  have hca : callable Try.prog 22 = true := by kernel_rfl
  unfold callK
  simp only [hca, cond_true]
  refine C_paths_Path_2 ω _ _ _ h _ Y ?_
  unfold W_paths_Path_2
  rw [asP_some]
  refine lxn hb rfl ?_
  refine hs.rd (val_at hk) ?_
  rw [asP_some]
  refine lxn hb rfl ?_
  rw [asP_some]
  refine lxn hm rfl ?_
  refine hs.rd (val_at hml) ?_
  rw [asK_int, asK_int, i64_in (by omega) (by omega)]
  exact ⟨rfl, rfl⟩

def rdC (F : Nat) (h : Hp) : Int := match h[F]? with | some (.cells cs _ _) => (match cs.toList with | [.int _ k] => k | _ => 0) | _ => 0
theorem rdC_eq {F : Nat} {h : Hp} {k : Int} (hb : h[F]? = some (.cells (List.toArray [.int .i64 k]) 3 (0, 0))) : rdC F h = k := by
  unfold rdC
  rw [hb]

theorem storeK1_local {h : Hp} {z v : Value} {t : TypeId} {K : Hp → Prop} (hk : K (h.push (.cells (List.toArray [v]) t (0, 0)))) : storeK1 (h.push (.cells #[z] t (0, 0))) ⟨h.size, 0, none⟩ v K := by
  refine storeK1_of hp_push_new (by simp) ?_
  rw [set_push]
  exact hk
theorem set1 {h : Hp} {F : Nat} {z v : Value} {t : TypeId} {K : Hp → Prop} (hb : h[F]? = some (.cells (List.toArray [z]) t (0, 0))) (hk : ∀ h', h'[F]? = some (.cells (List.toArray [v]) t (0, 0)) → Keep (fun k => k = F) h h' → K h') : storeK1 h ⟨F, 0, none⟩ v K :=
  storeK1_of hb (by simp) (hk _ (hp_set_same hb) (Keep.set (S := fun k => k = F) _ rfl))

theorem Path_law {h : Hp} (hi : InsAt h pv L) (hn : L.length ≤ 300) (fr to : Int) (X : List PanicEntry → Hp → Prop) :
    CallX Try.prog ω n_paths_Path [.agg (prc pa pb pc pd pv).toArray, .int .i64 fr, .int .i64 to] h (fun r h' => ∃ D, IsD (behind L) L.length to D ∧ (∀ k d, D k = some d → d < L.length) ∧ IS h' r (nI (pathR L D fr)) ∧ Keep (fun _ => False) h h') X := by
  refine C_paths_Path ω _ _ _ h _ X ?_
  unfold W_paths_Path
  have hb0 := pb_new h (prc pa pb pc pd pv)
  have k0 := Keep.push (S := fun _ => False) h (.cells (Value.cells (.agg (prc pa pb pc pd pv).toArray)) 26 (0, 0))
  generalize Array.push h (.cells (Value.cells (.agg (prc pa pb pc pd pv).toArray)) 26 (0, 0)) = h0 at *
  have kf := Keep.push (S := fun _ => False) h0 (.cells (List.toArray [.int .i64 fr]) 3 (0, 0))
  have hF1 := hp_push_new (h := h0) (o := .cells (List.toArray [.int .i64 fr]) 3 (0, 0))
  show ∃ C0, cellsH (Array.push h0 (.cells (List.toArray [.int .i64 fr]) 3 (0, 0))) ⟨h.size, 0, none⟩ 5 C0 ∧ CallX Try.prog ω 18 [.agg C0.toArray] (Array.push h0 (.cells (List.toArray [.int .i64 fr]) 3 (0, 0))) _ X
  have hb1 := kf.get hb0 (by simp)
  have k1 := k0.trans kf
  generalize Array.push h0 (.cells (List.toArray [.int .i64 fr]) 3 (0, 0)) = h1 at *
  generalize hFe : h0.size = F at *
  refine ⟨_, cellsH_blk hb1 rfl, ?_⟩
  refine CallX.use (behind_law (hi.keep k1) (by omega)) ?_
  rintro r2 h2 ⟨hr2, k2⟩
  obtain ⟨vals, hv2, hio2, _⟩ := hr2
  have hvl : vals.length = L.length := by have := hv2.1; omega
  rw [oneK_eq (ownOne hv2)]
  refine storeK1_local ?_
  have kG := Keep.push (S := fun _ => False) h2 (.cells (List.toArray [r2]) 46 (0, 0))
  have hG3 := hp_push_new (h := h2) (o := .cells (List.toArray [r2]) 46 (0, 0))
  have hb3 := (k2.trans kG).get hb1 (by simp)
  have hF3 := (k2.trans kG).get hF1 (by simp)
  have k3 := (k1.trans k2).trans kG
  have hv3 := hv2.slAt.keep kG
  have hsz3 : h2.size < (Array.push h2 (.cells (List.toArray [r2]) 46 (0, 0))).size := by simp
  generalize Array.push h2 (.cells (List.toArray [r2]) 46 (0, 0)) = h3 at *
  refine lx hb3 rfl ?_
  refine (hi.keep k3).sl fun _ _ => ?_
  refine CallX.use (far_law hn (N := behind L) (fun i k hk => (E_lt (mem_behind.1 hk)).1) (fun i => by have := behind_len L i; omega) fun h' hk' i hil Y => ?_) ?_
  · have hw : vals[i]? = some vals[i] := List.getElem?_eq_getElem (by omega)
    have hwi := hio2 i _ hw
    refine callK_use (fun Y => Path1_law (hk'.get hG3 (by simp)) (hv3.keep hk') hw Y) ?_
    rintro _ _ ⟨rfl, hh⟩
    rw [hh]
    exact ⟨SlAt.keep (SlAt.keep hwi.slAt kG) hk', Keep.refl _ _, fun k hkk => .inl (by have := (hwi.lt k hkk).2; omega)⟩
  rintro r9 h9 ⟨o, hol, ho9, k9, hD, hDb⟩
  rw [oneK_eq (ownOne ho9)]
  refine storeK1_local ?_
  have kG9 := Keep.push (S := fun _ => False) h9 (.cells (List.toArray [r9]) 30 (0, 0))
  have hG10 := hp_push_new (h := h9) (o := .cells (List.toArray [r9]) 30 (0, 0))
  have hb10 := (k9.trans kG9).get hb3 (by simp)
  have hF10 := (k9.trans kG9).get hF3 (by simp)
  have k10 := (k3.trans k9).trans kG9
  have hs10 : IS _ r9 o := SlAt.keep ho9.slAt kG9
  generalize Array.push h9 (.cells (List.toArray [r9]) 30 (0, 0)) = h10 at *
  generalize h9.size = G at *
  refine ⟨!(inR L fr && decide (0 ≤ val o fr.toNat)), ?_, fun _ => cond_c (fun hc => ?_) (fun hc => ?_)⟩
  · unfold inR
    refine lxn hF10 rfl ?_
    rw [asK_int]
    refine cond_c (fun hc => ?_) (fun hc => ?_)
    · have := of_decide_eq_true hc
      rw [decide_eq_false (by omega : ¬ 0 ≤ fr)]
      exact ⟨rfl, rfl⟩
    have hc1 := of_decide_eq_false hc
    refine lxn hF10 rfl ?_
    refine lx hb10 rfl ?_
    refine (hi.keep k10).sl fun _ _ => ?_
    rw [asK_int]
    refine cond_c (fun hc => ?_) (fun hc => ?_)
    · have := of_decide_eq_true hc
      rw [decide_eq_false (by omega : ¬ fr < (L.length : Int)), Bool.and_false]
      exact ⟨rfl, rfl⟩
    have hc2 := of_decide_eq_false hc
    refine lxn hG10 rfl ?_
    refine lxn hF10 rfl ?_
    have hfl : fr.toNat < o.length := by omega
    refine IS.rd0 hs10 (val_at hfl) (by omega) ?_
    rw [asK_int]
    refine ⟨?_, rfl⟩
    congr 1
    rw [Bool.eq_iff_iff]
    simp
    omega
  · refine ⟨dist o, hD, hDb, ?_, k10⟩
    have hp : pathR L (dist o) fr = [] := by
      unfold pathR
      by_cases hin : inR L fr = true
      · rw [if_pos hin]
        have : ¬ 0 ≤ val o fr.toNat := fun h0 => by
          rw [hin, decide_eq_true h0] at hc
          cases hc
        unfold pathL dist
        rw [if_neg this]
      · rw [if_neg hin]
    rw [hp]
    exact ⟨rfl, .inl ⟨rfl, _, _, rfl⟩⟩
  have hc : (inR L fr && decide (0 ≤ val o fr.toNat)) = true := by rw [Bool.not_eq_false'] at hc; exact hc
  rw [Bool.and_eq_true, decide_eq_true_eq] at hc
  obtain ⟨hin, hv0⟩ := hc
  have hin' := hin
  unfold inR at hin'
  rw [Bool.and_eq_true, decide_eq_true_eq, decide_eq_true_eq] at hin'
  obtain ⟨f, rfl⟩ : ∃ f : Nat, fr = f := ⟨fr.toNat, by omega⟩
  rw [Int.toNat_natCast] at hv0
  have hd0 : dist o f = some (val o f).toNat := by unfold dist; rw [if_pos hv0]
  refine lxn hF10 rfl ?_
  rw [oneK_int]
  have hlit := IO.lit (h := h10) [(f : Int)] (by simp)
  have klit := Keep.push (S := fun _ => False) h10 (.cells (iv [(f : Int)]).toArray 3 (0, 0))
  have hFlt := hp_lt hF10
  have hGlt := hp_lt hG10
  have hFG : F ≠ G := ty_ne hF10 hG10 (by decide)
  refine ⟨fun out h' => ∃ (m d : Nat) (done : List Nat), dist o m = some d ∧ m < L.length ∧ wayF L (dist o) (val o f).toNat f = done ++ (wayF L (dist o) d m).tail ∧ IO h' h10.size out (nI done) ∧ done.length + d ≤ 1000 ∧ h'[F]? = some (.cells (List.toArray [.int .i64 ((m : Nat) : Int)]) 3 (0, 0)) ∧ Keep (fun k => k = F) h10 h',
    fun _ h' => (val o (rdC F h').toNat).toNat, ⟨f, (val o f).toNat, [f], hd0, by omega, ?_, hlit, ?_, klit.get hF10 (by simp), klit.mono (by simp)⟩, ?_⟩
  · cases (val o f).toNat <;> rfl
  · have := hDb _ _ hd0
    simp
    omega
  rintro out _ h11 ⟨m, d, done, hdm, hml, hway, ho11, hlen, hF11, k11⟩
  have hG11 := k11.get hG10 (fun e => hFG e.symm)
  have kh11 : Keep (fun _ => False) h h11 := k10.newer (k11.mono fun k _ hk => .inr (by rw [hk, ← hFe]; exact k0.size))
  have hs11 : IS h11 r9 o := hs10.keepW k11 fun k hk hkF => by
    have h1' := (ho9.lt k hk).1
    have h2' := hp_lt hF3
    omega
  have hb11 := k11.get hb10 (fun e => by
    have : h.size < h0.size := hp_lt hb0
    omega)
  refine lxn hF11 rfl ?_
  rw [asK_int, asK_int]
  refine cond_c (fun hc => ?_) (fun hc => ?_)
  · have hne : (m : Int) ≠ to := by simpa using hc
    obtain ⟨d', rfl⟩ : ∃ d', d = d' + 1 := by
      cases d with
      | zero => exact absurd (zero_at hD hdm).symm hne
      | succ d' => exact ⟨d', rfl⟩
    obtain ⟨k, hfind, hE, hdk⟩ := step_down hD hdm
    refine ⟨_, cellsH_blk hb11 rfl, ?_⟩
    refine lxn hF11 rfl ?_
    refine CallX.use (Next_law (hi.keep kh11) (by omega) (m : Int)) ?_
    rintro r12 h12 ⟨ho12, k12⟩
    rw [nx_nat hml] at ho12
    have hG12 := k12.get hG11 (by simp)
    have hF12 := k12.get hF11 (by simp)
    have hs12 : IS h12 r9 o := SlAt.keep hs11 k12
    have hvm := dist_eq hdm
    have hnl := nexts_len L m
    refine CallX.use (IdxF_law ho12.slAt (by rw [nI_len]; omega) (p := fun z => val o z.toNat == val o m - 1) fun z hz Y => ?_) ?_
    · obtain ⟨q, hq, rfl⟩ := mem_nI.1 hz
      have hql := (E_lt (show E L m q from hq)).2
      have hb := hDb _ _ hdm
      exact Path2_law hG12 hs12 (by omega) hF12 (by omega) (by omega) Y
    rintro _ _ ⟨hh, q, hq, hqn, hqc⟩
    rw [hh]
    have hpk : ∀ z : Nat, (val o z == val o m - 1) = (dist o z == some d') := fun z => by
      rw [hvm, Bool.eq_iff_iff, beq_iff_eq, beq_iff_eq]
      unfold dist
      split
      · rw [Option.some.injEq]
        omega
      · refine ⟨fun h => by omega, fun h => by cases h⟩
    obtain ⟨x, hx, hpx, rfl⟩ : ∃ x, (nI (nexts L m))[q]? = some x ∧ (val o x.toNat == val o m - 1) = true ∧ _ := by
      rcases hqc with ⟨hql, _⟩ | hqc
      · rw [hql, List.take_length] at hqn
        have := hqn (k : Int) (mem_nI.2 ⟨k, hE, rfl⟩)
        rw [Int.toNat_natCast, hpk, hdk] at this
        simp at this
      · exact hqc
    obtain ⟨y, hy⟩ : ∃ y, (nexts L m)[q]? = some y := by
      rw [nI, List.getElem?_map] at hx
      obtain ⟨y, hy, _⟩ := Option.map_eq_some_iff.1 hx
      exact ⟨y, hy⟩
    have hxy : x = (y : Int) := by
      have := nI_at hy
      rw [hx] at this
      exact Option.some.inj this
    subst hxy
    rw [Int.toNat_natCast, hpk] at hpx
    have hfy : (nexts L m).find? (fun k => dist o k == some d') = some y := find_at hy hpx fun z hz => by
      have := hqn (z : Int) (by
        rw [nI, ← List.map_take]
        exact List.mem_map.2 ⟨z, hz, rfl⟩)
      rw [Int.toNat_natCast, hpk] at this
      exact this
    have hky : k = y := by
      rw [hfind] at hfy
      exact Option.some.inj hfy
    subst hky
    have hkl := (E_lt hE).2
    refine IS.rd ho12.slAt hx ?_
    rw [oneK_int]
    refine set1 hF12 fun h13 hF13 k13 => ?_
    refine lxn hF13 rfl ?_
    rw [oneK_int]
    have ho13 : IO h13 h10.size out (nI done) := IO.keepW (OwnH.more ho11 k12) k13 fun b hb hbF => by
      have := (ho11.lt b hb).1
      omega
    have k113 : Keep (fun k => k = F) h10 h13 := (k11.trans (k12.mono (by simp))).trans k13
    refine ho13.app (by rw [nI_len]; omega) k113.size (k : Int) fun w h14 ho14 k14 _ => ?_
    have hF14 := k14.get hF13 fun hb => by
      have := (ho13.lt F hb).1
      omega
    refine ⟨⟨k, d', done ++ [k], hdk, hkl, ?_, ?_, ?_, hF14, k113.newer (k14.mono fun b _ hb => .inr (ho13.lt b hb).1)⟩, ?_⟩
    · rw [hway]
      simp only [wayF, hfy, List.tail_cons]
      cases d' <;> simp [wayF]
    · have : nI (done ++ [k]) = nI done ++ [(k : Int)] := by simp [nI]
      rw [this]
      exact ho14
    · simp
      omega
    · show (val o (rdC F h14).toNat).toNat < (val o (rdC F h11).toNat).toNat
      rw [rdC_eq hF14, rdC_eq hF11, Int.toNat_natCast, Int.toNat_natCast, hvm, dist_eq hdk]
      omega
  · have he : (m : Int) = to := by simpa using hc
    subst he
    have h0 := at_zero hD hml
    rw [hdm] at h0
    cases h0
    refine ⟨dist o, hD, hDb, ?_, kh11⟩
    unfold pathR pathL
    rw [if_pos hin, Int.toNat_natCast, hd0]
    simp only
    rw [hway]
    simp only [wayF, List.tail_cons, List.append_nil]
    exact ho11.slAt
end
end Go.Proofs.Ytihibbejjmldjaa
