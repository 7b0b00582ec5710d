/- Ranks: the law RanksDoes. -/
import Derived.Test.YtfjkddigflijeaaR15
namespace Go.Proofs.Ytfjkddigflijeaa
open Go Go.Sx Go.Sx.Pa Go.Sx.Ra Go.Proofs.Ytfjkddigflijeaa.Sx

theorem ef_eq (e : Int × Int) : (ef e).toArray[0]? = some (.int .i64 e.1) ∧ (ef e).toArray[1]? = some (.int .i64 e.2) := ⟨rfl, rfl⟩
/-- two pairs are compared -/
theorem eqP {c a c' a' : Int} {F : Bool → Prop} : (asO (flt c a).toArray[0]? fun v => asO (flt c' a').toArray[0]? fun v' => asK .i64 v fun n => asK .i64 v' fun n' => asO (flt c a).toArray[1]? fun u => asO (flt c' a').toArray[1]? fun u' => asK .i64 u fun m => asK .i64 u' fun m' => F ((n == (n' : Int)) && ((m == (m' : Int)) && true))) = F ((c == c') && ((a == a') && true)) := rfl
theorem eqT {c a : Int} {F : Bool → Prop} (h : F true) : F ((c == c) && ((a == a) && true)) := by
  rw [beq_self_eq_true, beq_self_eq_true]
  exact h

section
variable {ω : Amb}
theorem Does_law {h : Hp} {v : Value} {E : List (Int × Int)} {n : Int} (hs : EdIn h v E) (X : List PanicEntry → Hp → Prop) :
    CallX Try.prog ω n_pipewrightlaw_RanksDoes [.int .i64 n, v] h (fun r h' => r = .bool true ∧ Keep (fun _ => False) h h') X := by
  refine C_pipewrightlaw_RanksDoes ω _ _ h _ X ?_
  unfold W_pipewrightlaw_RanksDoes
  refine CallX.use (Begun_law h) ?_
  rintro _ h1 ⟨rfl, k1⟩
  rw [asB_bool]
  refine cond_f rfl ?_
  have hs1 := hs.keep k1
  refine ⟨decide ((60 < n ∧ n ≤ 1000) ∨ 300 < E.length), ?_, fun _ => cond_c (fun hc => ⟨rfl, k1⟩) (fun hc => ?_)⟩
  · rw [asK_int]
    refine cond_c (fun hc => ?_) (fun hc => ?_)
    · have hc := of_decide_eq_true hc
      rw [asK_int]
      refine cond_c (fun hc2 => ?_) (fun hc2 => ?_)
      · have := of_decide_eq_true hc2
        rw [decide_eq_true (by omega)]
        exact ⟨rfl, rfl⟩
      · have := of_decide_eq_false hc2
        refine EdAt.sl hs1.at_ fun _ _ => ⟨?_, rfl⟩
        congr 1
        rw [Bool.eq_iff_iff]
        simp
        omega
    · have hc := of_decide_eq_false hc
      refine EdAt.sl hs1.at_ fun _ _ => ⟨?_, rfl⟩
      congr 1
      rw [Bool.eq_iff_iff]
      simp
      omega
  have hc := of_decide_eq_false hc
  have hE : E.length ≤ 300 := by omega
  have hnil : EO h1 h1.size (.slice none 0 0) [] := OwnH.nil
  refine EO.app hnil hs1 (by simp; omega) (Nat.le_refl _) fun own h2 ho2 k2 _ => ?_
  rw [List.nil_append] at ho2
  have k2 : Keep (fun _ => False) h1 h2 := k2.mono fun b _ hb => by simp [Value.ownBlock] at hb
  have k12 := k1.trans k2
  have hi2 := EO.at_ ho2
  -- Check
  refine CallX.use (Check_law hi2 n) ?_
  rintro _ h3 ⟨rfl, k3⟩
  rw [asA_agg]
  refine ⟨rfl, flt_one _ _, storeK_local (cs := flt (chk n E).1 (chk n E).2) rfl ?_⟩
  have hb4 := hp_push_new (h := h3) (o := .cells (flt (chk n E).1 (chk n E).2).toArray 25 (0, 0))
  have kp4 := Keep.push (S := fun _ => False) h3 (.cells (flt (chk n E).1 (chk n E).2).toArray 25 (0, 0))
  have k24 := k3.trans kp4
  generalize h3.push (.cells (flt (chk n E).1 (chk n E).2).toArray 25 (0, 0)) = h4 at *
  -- Ranks
  refine CallX.use (Ranks_law (EdAt.keep hi2 k24)) ?_
  rintro _ h5 ⟨hr5, k5⟩
  obtain ⟨w5, xs, c5, a5, rfl, hw5, hv5⟩ := hr5.open_
  rw [tup2, asA_agg]
  refine ⟨rfl, flt_one _ _, storeK_local (cs := flt c5 a5) rfl ?_⟩
  have hb6 := hp_push_new (h := h5) (o := .cells (flt c5 a5).toArray 25 (0, 0))
  have kp6 := Keep.push (S := fun _ => False) h5 (.cells (flt c5 a5).toArray 25 (0, 0))
  have k46 := k5.trans kp6
  have hw6 := OwnH.more hw5 kp6
  generalize h5.push (.cells (flt c5 a5).toArray 25 (0, 0)) = h6 at *
  -- Round
  refine CallX.use (Round_law (EdAt.keep hi2 (k24.trans k46))) ?_
  rintro _ h7 ⟨hr7, k7⟩
  obtain ⟨w7, l, c7, a7, rfl, hw7, hv7⟩ := hr7.open_
  rw [tup2, asA_agg]
  refine ⟨rfl, flt_one _ _, storeK_local (cs := flt c7 a7) rfl ?_⟩
  have hb8 := hp_push_new (h := h7) (o := .cells (flt c7 a7).toArray 25 (0, 0))
  have kp8 := Keep.push (S := fun _ => False) h7 (.cells (flt c7 a7).toArray 25 (0, 0))
  have k68 := k7.trans kp8
  have hw8 := OwnH.more hw7 kp8
  generalize h7.push (.cells (flt c7 a7).toArray 25 (0, 0)) = h8 at *
  have k28 := (k24.trans k46).trans k68
  have hi8 := EdAt.keep hi2 k28
  have hs8 := hs.keep (k12.trans k28)
  have hb48 := (k46.trans k68).get hb4 (by simp)
  have hb68 := k68.get hb6 (by simp)
  have hw68 := OwnH.more hw6 k68
  have k08 := k12.trans k28
  -- as it was
  refine ⟨fun t h' => ∃ i : Nat, t = .int .i64 i ∧ i ≤ E.length ∧ h' = h8, fun t _ => match t with | .int _ i => E.length - i.toNat | _ => 0, ⟨0, rfl, by omega, rfl⟩, ?_⟩
  rintro _ _ h9 ⟨i, rfl, hi, hh⟩
  rw [hh]
  refine EdAt.sl hi8 fun _ _ => ?_
  rw [asK_int]
  refine cond_c (fun hc => ?_) (fun hc => ?_)
  · have hlt : i < E.length := by have := of_decide_eq_true hc; omega
    have hx := List.getElem?_eq_getElem hlt
    generalize E[i] = e at hx
    refine SlAt.rdS hi8 ef_len hx ?_
    refine SlAt.rdS hs8.at_ ef_len hx ?_
    show cond (!((e.1 == e.1) && ((e.2 == e.2) && true))) _ _
    refine cond_f (by simp) ?_
    rw [asK_int, i64_in (by omega) (by omega)]
    exact ⟨⟨i + 1, by simp, by omega, rfl⟩, by simp; omega⟩
  -- the document's
  refine CallX.use (GraphFault_law hs8.at_ n) ?_
  rintro _ h10 ⟨rfl, k10⟩
  rw [asA_agg]
  refine ⟨rfl, flt_one _ _, storeK_local (cs := flt (chk n E).1 (chk n E).2) rfl ?_⟩
  have hb11 := hp_push_new (h := h10) (o := .cells (flt (chk n E).1 (chk n E).2).toArray 25 (0, 0))
  have kp11 := Keep.push (S := fun _ => False) h10 (.cells (flt (chk n E).1 (chk n E).2).toArray 25 (0, 0))
  have k811 := k10.trans kp11
  generalize h10.push (.cells (flt (chk n E).1 (chk n E).2).toArray 25 (0, 0)) = h11 at *
  have hb4' := k811.get hb48 (by simp)
  have hb6' := k811.get hb68 (by simp)
  have hb8' := k811.get hb8 (by simp)
  have hw6' := OwnH.more hw68 k811
  have hw8' := OwnH.more hw8 k811
  have hs11 := hs8.keep k811
  have k011 := k08.trans k811
  refine ⟨_, cellsH_blk hb4' rfl, _, cellsH_blk hb11 rfl, ?_⟩
  show cond (!(((chk n E).1 == (chk n E).1) && (((chk n E).2 == (chk n E).2) && true))) _ _
  refine cond_f (by simp) ?_
  refine lx hb11 rfl ?_
  rw [asK_int]
  refine cond_c (fun hc => ?_) (fun hc => ?_)
  · have hne : (chk n E).1 ≠ 0 := by simpa using hc
    refine ⟨fun r h' => r = .bool true ∧ Keep (fun _ => False) h h', ?_, fun _ _ _ hj => hj⟩
    obtain ⟨hx5, hca5⟩ : xs = [] ∧ (c5, a5) = chk n E := by
      rcases hv5 with ⟨_, h1, h2⟩ | ⟨h0, _⟩ | ⟨h0, _⟩
      · exact ⟨h1, h2⟩
      · exact absurd h0 hne
      · exact absurd h0 hne
    obtain ⟨hx7, hca7⟩ : l = [] ∧ (c7, a7) = chk n E := by
      rcases hv7 with ⟨_, h1, h2⟩ | ⟨h0, _⟩
      · exact ⟨h1, h2⟩
      · exact absurd h0 hne
    subst hx5 hx7
    rw [← hca5] at hb11
    refine ⟨_, cellsH_blk hb6' rfl, _, cellsH_blk hb11 rfl, ?_⟩
    show cond ((c5 == c5) && ((a5 == a5) && true)) _ _
    refine cond_t (by simp) ?_
    have he : (c5, a5) = (c7, a7) := by rw [hca5, hca7]
    cases he
    refine ⟨_, cellsH_blk hb8' rfl, _, cellsH_blk hb11 rfl, ?_⟩
    show cond ((c5 == c5) && ((a5 == a5) && true)) _ _
    refine cond_t (by simp) ?_
    refine IS.sl hw6'.slAt fun _ _ => ?_
    refine IS.sl hw8'.slAt fun _ _ => ?_
    exact ⟨rfl, k011⟩
  have hz : (chk n E).1 = 0 := by simpa using hc
  obtain ⟨hn0, hn1, _, hg⟩ := chk_zero hz
  obtain ⟨m, rfl⟩ : ∃ m : Nat, n = m := ⟨n.toNat, by omega⟩
  have hok := es_ok hg
  refine CallX.use (RRanks_law hs11.at_ (by omega) (by omega) hg) ?_
  rintro _ h12 ⟨hr12, k12'⟩
  have hb6'' := k12'.get hb6' (by simp)
  have hb8'' := k12'.get hb8' (by simp)
  have hw6'' := OwnH.more hw6' k12'
  have hw8'' := OwnH.more hw8' k12'
  have hs12 := hs11.keep k12'
  have k012 := k011.trans k12'
  obtain ⟨rfl, rfl, hro⟩ : c7 = 0 ∧ a7 = 0 ∧ RoundIs m (esOf E) l := by
    rcases hv7 with ⟨h0, _⟩ | ⟨_, h1, h2, h3⟩
    · exact absurd hz h0
    · exact ⟨h1, h2, h3⟩
  have hlast : ∀ h13, h13 = h12 → ∃ J140 : Value → Hp → Prop,
      (∃ v144, cellH h13 (Addr.add ⟨Array.size h7, 0, none⟩ 0) = some v144 ∧
        asK .i64 v144 fun n145 => cond (n145 == (0 : Int))
          (CallX Try.prog ω 13 [.int .i64 (m : Int), v] h13 (fun r146 h147 =>
            CallX Try.prog ω 12 [w7, r146] h147 (fun r148 h149 => J140 r148 h149) X) X)
          (J140 (.bool false) h13)) ∧
      ∀ t4_141 (d142 : Nat → Value) (h143 : Hp), J140 t4_141 h143 → (fun r h' => r = .bool true ∧ Keep (fun _ => False) h h') t4_141 h143 := by
    rintro _ rfl
    refine ⟨fun r h' => r = .bool true ∧ Keep (fun _ => False) h h', ?_, fun _ _ _ hj => hj⟩
    refine lx hb8'' rfl ?_
    rw [asK_int]
    refine cond_t rfl ?_
    refine CallX.use (RRound_law hs12.at_ (by omega) (by omega) hg) ?_
    rintro r h13 ⟨l', hl', hro', k13⟩
    have := hro.one hro'
    subst this
    have hll : l.length ≤ m := by
      rcases RoundIs.good hok hro with ⟨h1, _⟩ | ⟨v, d, h1, _, h2, h3, _⟩
      · rw [h1]; exact Nat.zero_le _
      · obtain ⟨e, h4, _, h5⟩ := h2.least hok
        have := h3 v e h4
        omega
    refine CallX.use (Same_law (OwnH.more hw8'' k13).slAt hl'.slAt (by rw [nI_len]; omega)) ?_
    rintro _ h14 ⟨rfl, hh14⟩
    rw [hh14]
    exact ⟨rfl, k012.trans k13⟩
  rcases hv5 with ⟨h0, _⟩ | ⟨_, hno, rfl, rfl, rfl⟩ | ⟨_, rfl, rfl, hxl, hrk, hxb⟩
  · exact absurd hz h0
  · -- a round
    rcases hr12 with ⟨w, o, rfl, ho, hol, hup, hpos, _⟩ | ⟨rfl, _⟩
    · refine absurd (fun a b hab => ?_) (hno (fun b => (vz o b).toNat))
      have h1 := hup a b hab
      have h2 := hok _ hab
      have h3 := hpos a h2.1
      show (vz o a).toNat < (vz o b).toNat
      omega
    · rw [tup2]
      refine ⟨fun r h' => r = .bool false ∧ h' = h12, ?_, ?_⟩
      · refine lx hb6'' rfl ?_
        rw [asK_int, asB_bool]
        refine cond_f rfl ?_
        rw [asB_bool]
        refine cond_t rfl ?_
        refine ⟨_, cellsH_blk hb6'' rfl, ?_⟩
        show asSl w5 _
        refine IS.sl hw6''.slAt fun _ _ => ?_
        refine cond_f (by rfl) ?_
        rw [asB_bool]
        refine cond_f rfl ⟨rfl, rfl⟩
      · rintro _ _ h13 ⟨rfl, hh13⟩
        rw [asB_bool]
        exact cond_f rfl (hlast h13 hh13)
  · -- ranks
    rw [Int.toNat_natCast] at hxl hrk hxb
    rcases hr12 with ⟨w, o, rfl, ho, hol, hup, hpos, hle⟩ | ⟨rfl, hno⟩
    · have hxo : xs = o := by
        refine vz_ext hxl hol fun b hb => ?_
        have h1 := hle _ hrk b hb
        have h2 := hrk.le hok (s := fun b => (vz o b).toNat) (fun a b hab => by
          have h1 := hup a b hab
          have h2 := hok _ hab
          have h3 := hpos a h2.1
          show (vz o a).toNat < (vz o b).toNat
          omega) _ b hb rfl
        have h3 := hpos b hb
        have h4 := hxb b hb
        omega
      subst hxo
      rw [tup2]
      refine ⟨fun r h' => r = .bool false ∧ h' = h12, ?_, ?_⟩
      · refine lx hb6'' rfl ?_
        rw [asK_int, asB_bool]
        refine cond_f rfl ?_
        rw [asB_bool]
        refine cond_f rfl ?_
        rw [asB_bool]
        refine cond_t rfl ?_
        refine CallX.use (Same_law hw6''.slAt ho.slAt (by omega)) ?_
        rintro _ h13 ⟨rfl, hh13⟩
        rw [asB_bool]
        exact ⟨rfl, hh13⟩
      · rintro _ _ h13 ⟨rfl, hh13⟩
        rw [asB_bool]
        exact cond_f rfl (hlast h13 hh13)
    · refine absurd ?_ (fun hh => hno _ hrk hh)
      intro b hb
      have := hxb b hb
      show (vz xs b).toNat ≤ m
      omega
end
end Go.Proofs.Ytfjkddigflijeaa
