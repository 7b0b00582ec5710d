/- Ranks: the law RanksMore. -/
import Derived.Test.YtfjkddigflijeaaR16
namespace Go.Proofs.Ytfjkddigflijeaa
open Go Go.Sx Go.Sx.Pa Go.Sx.Ra Go.Proofs.Ytfjkddigflijeaa.Sx

theorem flt0 {c a : Int} {F : Value → Prop} : asO (flt c a).toArray[0]? F = F (.int .i64 c) := rfl
theorem kmod (c : Int) {m : Nat} (h0 : 0 < m) (hm : m ≤ 1000000) : ∃ k : Nat, k < m ∧ IntKind.wrap .i64 (Int.tmod (IntKind.wrap .u64 c) (IntKind.wrap .u64 (m : Int))) = (k : Int) := by
  have h1 : 0 ≤ IntKind.wrap .u64 c := by rw [IntKind.wrap_u64]; omega
  have h2 : IntKind.wrap .u64 (m : Int) = m := by rw [IntKind.wrap_u64]; omega
  rw [h2]
  have h3 := Int.tmod_nonneg (m : Int) h1
  have h4 := Int.tmod_lt_of_pos (IntKind.wrap .u64 c) (show (0 : Int) < m by omega)
  refine ⟨(Int.tmod (IntKind.wrap .u64 c) (m : Int)).toNat, by omega, ?_⟩
  rw [i64_in (by omega) (by omega)]
  omega
theorem u64_ne {m : Nat} (h0 : 0 < m) (hm : m ≤ 1000000) : IntKind.wrap .u64 (m : Int) ≠ 0 := by rw [IntKind.wrap_u64]; omega
theorem EdIn.shape {h : Hp} {v : Value} {E : List (Int × Int)} (hs : EdIn h v E) : ∃ a c, v = .slice a E.length c ∧ E.length ≤ c ∧ (a = none → c = 0) := by
  rcases hs.form with ⟨rfl, rfl⟩ | ⟨a, c, rfl, hc⟩
  · exact ⟨none, 0, rfl, Nat.zero_le _, fun _ => rfl⟩
  · exact ⟨some a, c, rfl, hc, fun h => by cases h⟩
theorem EdIn.suf {h : Hp} {a : Option Addr} {c : Nat} {E : List (Int × Int)} (hs : EdIn h (.slice a E.length c) E) (hc : E.length ≤ c) {k : Nat} (hk : k ≤ E.length) :
    EdIn h (.slice (if c = Int.toNat (k : Int) then a else Option.map (fun y => Addr.add y (Int.toNat (k : Int) * 2)) a) (Int.toNat (E.length : Int) - Int.toNat (k : Int)) (c - Int.toNat (k : Int))) (E.drop k) := by
  have hl : (E.drop k).length = E.length - k := List.length_drop
  rw [Int.toNat_natCast, Int.toNat_natCast]
  refine ⟨⟨flat_len ef_len _, ?_⟩, ?_⟩
  · rw [hl]
    rcases hs.at_.2 with ⟨h0, _⟩ | ⟨b, o, cap, hv, hcc⟩
    · refine .inl ⟨by omega, _, _, by rw [h0, Nat.zero_sub]⟩
    · cases hv
      by_cases he : c = k
      · refine .inl ⟨by omega, some ⟨b, o, none⟩, c - k, ?_⟩
        rw [if_pos he, show E.length - k = 0 by omega]
      · rw [if_neg he]
        refine .inr ⟨b, o + k * 2, c - k, by rw [Option.map_some, addr_add], fun j u hu => ?_⟩
        have : (E.flatMap ef)[k * 2 + j]? = some u := by
          rw [← flat_drop ef_len, List.getElem?_drop] at hu
          exact hu
        have := hcc _ u this
        rw [Nat.add_assoc]
        exact this
  · rw [hl]
    rcases hs.form with ⟨hv, h0⟩ | ⟨a', c', hv, hc'⟩
    · subst h0
      cases hv
      simp at hk
      subst hk
      exact .inl ⟨rfl, rfl⟩
    · cases hv
      by_cases he : c = k
      · rw [if_pos he]
        exact .inr ⟨_, _, rfl, by omega⟩
      · rw [if_neg he]
        exact .inr ⟨_, _, rfl, by omega⟩
theorem EdIn.pre {h : Hp} {a : Option Addr} {c : Nat} {E : List (Int × Int)} (hs : EdIn h (.slice a E.length c) E) (hc : E.length ≤ c) {k : Nat} (hk : k ≤ E.length) :
    EdIn h (.slice (if c = Int.toNat ((0 : Nat) : Int) then a else Option.map (fun y => Addr.add y (Int.toNat ((0 : Nat) : Int) * 2)) a) (Int.toNat (k : Int) - Int.toNat ((0 : Nat) : Int)) (c - Int.toNat ((0 : Nat) : Int))) (E.take k) := by
  have hl : (E.take k).length = k := by rw [List.length_take]; omega
  have hz : Int.toNat ((0 : Nat) : Int) = 0 := rfl
  rw [hz, Int.toNat_natCast, Nat.sub_zero, Nat.sub_zero, Nat.zero_mul]
  refine ⟨⟨flat_len ef_len _, ?_⟩, ?_⟩
  · rw [hl]
    rcases hs.at_.2 with ⟨h0, _⟩ | ⟨b, o, cap, hv, hcc⟩
    · refine .inl ⟨by omega, _, _, by rw [show k = 0 by omega]⟩
    · cases hv
      refine .inr ⟨b, o, c, ?_, fun j u hu => ?_⟩
      · split
        · rfl
        · rw [Option.map_some, addr_add, Nat.add_zero]
      · refine hcc j u ?_
        rw [← flat_take ef_len, List.getElem?_take] at hu
        split at hu
        · exact hu
        · cases hu
  · rw [hl]
    rcases hs.form with ⟨hv, h0⟩ | ⟨a', c', hv, hc'⟩
    · subst h0
      cases hv
      simp at hk
      subst hk
      exact .inl ⟨rfl, rfl⟩
    · cases hv
      refine .inr ?_
      split
      · exact ⟨_, _, rfl, by omega⟩
      · exact ⟨_, _, rfl, by omega⟩
theorem mem_turned {E : List (Int × Int)} {k : Nat} : ∀ e, e ∈ esOf E ↔ e ∈ esOf (E.drop k ++ E.take k ++ E.drop k) := fun e => by
  unfold esOf
  rw [List.mem_map, List.mem_map]
  have hm : ∀ x, x ∈ E ↔ x ∈ E.drop k ++ E.take k ++ E.drop k := fun x => by
    constructor
    · intro h
      rw [← List.take_append_drop k E, List.mem_append] at h
      rcases h with h | h
      · exact List.mem_append_left _ (List.mem_append_right _ h)
      · exact List.mem_append_right _ h
    · intro h
      rw [List.mem_append, List.mem_append] at h
      rcases h with (h | h) | h
      · exact List.mem_of_mem_drop h
      · exact List.mem_of_mem_take h
      · exact List.mem_of_mem_drop h
  constructor
  · rintro ⟨x, h1, h2⟩
    exact ⟨x, (hm x).1 h1, h2⟩
  · rintro ⟨x, h1, h2⟩
    exact ⟨x, (hm x).2 h1, h2⟩
theorem RoundIs.le {n : Nat} {es : Es} (ho : Ok n es) {l : List Nat} (h : RoundIs n es l) : l.length ≤ n := by
  rcases RoundIs.good ho h with ⟨h1, _⟩ | ⟨v, d, h1, _, h2, h3, _⟩
  · rw [h1]; exact Nat.zero_le _
  · obtain ⟨e, h4, _, h5⟩ := h2.least ho
    have := h3 v e h4
    omega
theorem RoundIs.pos {n : Nat} {es : Es} (ho : Ok n es) {l : List Nat} (h : RoundIs n es l) (hn : NoRk es) : 0 < l.length := by
  rcases RoundIs.good ho h with ⟨_, h2⟩ | ⟨v, d, h1, _⟩
  · obtain ⟨v, d, hc⟩ := noRk_cyc ho hn
    exact absurd hc (h2 v d)
  · omega
theorem RoundIs.more {n : Nat} {es es' : Es} (ho : Ok n es) (ho' : Ok n es') (hm : ∀ e, e ∈ es → e ∈ es') {l l' : List Nat} (h : RoundIs n es l) (h' : RoundIs n es' l') (hp : 0 < l.length) : l'.length ≤ l.length := by
  rcases RoundIs.good ho h with ⟨h1, _⟩ | ⟨v, d, h1, _, h2, _⟩
  · rw [h1] at hp
    simp at hp
  · rcases RoundIs.good ho' h' with ⟨h3, _⟩ | ⟨v', d', h3, _, _, h5, _⟩
    · rw [h3]
      exact Nat.zero_le _
    · have := h5 v d (h2.more ho ho' hm)
      omega
/-- a graph: what Ranks and Round tell of it -/
theorem RkV.open_ {n : Nat} {E : List (Int × Int)} {c a : Int} {xs : List Int} (hz : (chk n E).1 = 0) (h : RkV n E c a xs) : (NoRk (esOf E) ∧ xs = [] ∧ c = 17 ∧ a = -1) ∨
    (c = 0 ∧ a = 0 ∧ xs.length = n ∧ IsRk n (esOf E) (fun b => (vz xs b).toNat) ∧ ∀ b, b < n → 0 ≤ vz xs b ∧ vz xs b ≤ (n : Int)) := by
  rcases h with ⟨h0, _⟩ | ⟨_, h1⟩ | ⟨_, h1, h2, h3⟩
  · exact absurd hz h0
  · exact .inl h1
  · exact .inr ⟨h1, h2, h3⟩
theorem RoV.open_ {n : Nat} {E : List (Int × Int)} {c a : Int} {l : List Nat} (hz : (chk n E).1 = 0) (h : RoV n E c a l) : c = 0 ∧ a = 0 ∧ RoundIs n (esOf E) l := by
  rcases h with ⟨h0, _⟩ | ⟨_, h1, h2, h3⟩
  · exact absurd hz h0
  · exact ⟨h1, h2, h3⟩

section
variable {ω : Amb}
theorem More_law {h : Hp} {v : Value} {E : List (Int × Int)} {n pa pb cut : Int} (hs : EdIn h v E) (X : List PanicEntry → Hp → Prop) :
    CallX Try.prog ω n_pipewrightlaw_RanksMore [.int .i64 n, v, .int .i64 pa, .int .i64 pb, .int .i64 cut] h (fun r h' => r = .bool true ∧ Keep (fun _ => False) h h') X := by
  refine C_pipewrightlaw_RanksMore ω _ _ _ _ _ h _ X ?_
  unfold W_pipewrightlaw_RanksMore
  refine CallX.use (Begun_law h) ?_
  rintro _ h1 ⟨rfl, k1⟩
  rw [asB_bool]
  refine cond_f rfl ?_
  have hs1 := hs.keep k1
  refine ⟨fun r h' => ∃ b : Bool, r = .bool b ∧ Keep (fun _ => False) h h' ∧ (b = false → 1 ≤ n ∧ n ≤ 60 ∧ E.length ≤ 150 ∧ (chk n E).1 = 0), ?_, ?_⟩
  · rw [asK_int]
    refine cond_c (fun hc => ⟨true, rfl, k1, fun h => by cases h⟩) (fun hc => ?_)
    rw [asK_int]
    refine cond_c (fun hc => ⟨true, rfl, k1, fun h => by cases h⟩) (fun hc2 => ?_)
    refine EdAt.sl hs1.at_ fun _ _ => ?_
    refine cond_c (fun hc => ⟨true, rfl, k1, fun h => by cases h⟩) (fun hc3 => ?_)
    have h1' := of_decide_eq_false hc
    have h2' := of_decide_eq_false hc2
    have h3' := of_decide_eq_false hc3
    refine CallX.use (Check_law hs1.at_ n) ?_
    rintro _ h2 ⟨rfl, k2⟩
    rw [asA_agg]
    rw [flt0, asK_int]
    exact ⟨_, rfl, k1.trans k2, fun hb => ⟨by omega, by omega, by omega, by simpa using hb⟩⟩
  rintro _ _ h2 ⟨b, rfl, k2, hb⟩
  rw [asB_bool]
  refine cond_c (fun hc => ⟨rfl, k2⟩) (fun hc => ?_)
  obtain ⟨hn1, hn2, hEl, hz⟩ := hb hc
  obtain ⟨m, rfl⟩ : ∃ m : Nat, n = m := ⟨n.toNat, by omega⟩
  obtain ⟨_, _, _, hg⟩ := chk_zero hz
  have hok := es_ok hg
  have hs2 := hs.keep k2
  obtain ⟨ad, cp, rfl, hcap, hnone⟩ := hs.shape
  rw [asI_int, asSl_sl, i64_in (n := (E.length : Int) + 1) (by omega) (by omega)]
  obtain ⟨k, hk, hkz⟩ := kmod cut (m := E.length + 1) (by omega) (by omega)
  rw [Int.natCast_add] at hkz
  show _ ∧ _
  refine ⟨u64_ne (m := E.length + 1) (by omega) (by omega), ?_⟩
  have hkz' : IntKind.wrap .i64 (Int.tmod (IntKind.wrap .u64 cut) (IntKind.wrap .u64 ((E.length : Int) + 1))) = (k : Int) := hkz
  rw [hkz', asSl_sl]
  refine ⟨by omega, by omega, by omega, ?_⟩
  have hnil : EO h2 h2.size (.slice none 0 0) [] := OwnH.nil
  refine EO.app hnil (hs2.suf hcap (by omega : k ≤ E.length)) (by simp; omega) (Nat.le_refl _) fun w3 h3 ho3 k3 _ => ?_
  have k3 : Keep (fun _ => False) h2 h3 := k3.mono fun b _ hb => by simp [Value.ownBlock] at hb
  have hs3 := hs2.keep k3
  rw [asSl_sl]
  refine ⟨by omega, by omega, by omega, ?_⟩
  refine EO.app ho3 (hs3.pre hcap (by omega : k ≤ E.length)) (by simp; omega) k3.size fun w4 h4 ho4 k4 _ => ?_
  have hbo3 := OwnH.lt ho3
  have k24 : Keep (fun _ => False) h2 h4 := k3.newer (k4.mono fun b _ hb => .inr (hbo3 b hb).1)
  have hs4 := hs2.keep k24
  rw [asSl_sl]
  refine ⟨by omega, by omega, by omega, ?_⟩
  refine EO.app ho4 (hs4.suf hcap (by omega : k ≤ E.length)) (by simp; omega) k24.size fun w5 h5 ho5 k5 _ => ?_
  have hbo4 := OwnH.lt ho4
  have k25 : Keep (fun _ => False) h2 h5 := k24.newer (k5.mono fun b _ hb => .inr (hbo4 b hb).1)
  rw [List.nil_append] at ho5
  have hmt := mem_turned (E := E) (k := k)
  have hTl : (E.drop k ++ E.take k ++ E.drop k).length ≤ 450 := by simp; omega
  have hgT : ∀ x ∈ E.drop k ++ E.take k ++ E.drop k, bad (m : Int) x = false := fun x hx => by
    rw [List.mem_append, List.mem_append] at hx
    rcases hx with (h | h) | h
    · exact hg x (List.mem_of_mem_drop h)
    · exact hg x (List.mem_of_mem_take h)
    · exact hg x (List.mem_of_mem_drop h)
  generalize E.drop k ++ E.take k ++ E.drop k = T at *
  have hzT : (chk m T).1 = 0 := by rw [chk_good (by omega) hgT]
  have hokT := es_ok hgT
  have k05 := k2.trans k25
  have hs5 := hs.keep k05
  generalize Value.slice ad E.length cp = v at *
  -- Ranks of the edges
  refine CallX.use (Ranks_law hs5.at_) ?_
  rintro _ h6 ⟨hr6, k6⟩
  obtain ⟨w6, xs, c6, a6, rfl, hw6, hv6⟩ := hr6.open_
  rw [tup2, asA_agg]
  refine ⟨rfl, flt_one _ _, storeK_local (cs := flt c6 a6) rfl ?_⟩
  have hb7 := hp_push_new (h := h6) (o := .cells (flt c6 a6).toArray 25 (0, 0))
  have kp7 := Keep.push (S := fun _ => False) h6 (.cells (flt c6 a6).toArray 25 (0, 0))
  have k57 := k6.trans kp7
  have hw7 := OwnH.more hw6 kp7
  have hG7 := k6.size
  generalize h6.push (.cells (flt c6 a6).toArray 25 (0, 0)) = h7 at *
  generalize h6.size = G6 at *
  -- of the turned ones
  refine CallX.use (Ranks_law (EdAt.keep ho5.at_ k57)) ?_
  rintro _ h8 ⟨hr8, k8⟩
  obtain ⟨w8, ys, c8, a8, rfl, hw8, hv8⟩ := hr8.open_
  rw [tup2, asA_agg]
  refine ⟨rfl, flt_one _ _, storeK_local (cs := flt c8 a8) rfl ?_⟩
  have hb9 := hp_push_new (h := h8) (o := .cells (flt c8 a8).toArray 25 (0, 0))
  have kp9 := Keep.push (S := fun _ => False) h8 (.cells (flt c8 a8).toArray 25 (0, 0))
  have k79 := k8.trans kp9
  have hw9 := OwnH.more hw8 kp9
  generalize h8.push (.cells (flt c8 a8).toArray 25 (0, 0)) = h9 at *
  generalize h8.size = G8 at *
  -- Round of the edges
  refine CallX.use (Round_law (hs5.keep (k57.trans k79)).at_) ?_
  rintro _ h10 ⟨hr10, k10⟩
  obtain ⟨w10, l, c10, a10, rfl, hw10, hv10⟩ := hr10.open_
  rw [tup2, asA_agg]
  refine ⟨rfl, flt_one _ _, storeK_local (cs := flt c10 a10) rfl ?_⟩
  have kp11 := Keep.push (S := fun _ => False) h10 (.cells (flt c10 a10).toArray 25 (0, 0))
  have k911 := k10.trans kp11
  have hw11 := OwnH.more hw10 kp11
  generalize h10.push (.cells (flt c10 a10).toArray 25 (0, 0)) = h11 at *
  -- of the turned ones
  refine CallX.use (Round_law (EdAt.keep ho5.at_ ((k57.trans k79).trans k911))) ?_
  rintro _ h12 ⟨hr12, k12⟩
  obtain ⟨w12, l', c12, a12, rfl, hw12, hv12⟩ := hr12.open_
  rw [tup2, asA_agg]
  refine ⟨rfl, flt_one _ _, storeK_local (cs := flt c12 a12) rfl ?_⟩
  have kp13 := Keep.push (S := fun _ => False) h12 (.cells (flt c12 a12).toArray 25 (0, 0))
  have k1113 := k12.trans kp13
  have hw13 := OwnH.more hw12 kp13
  generalize h12.push (.cells (flt c12 a12).toArray 25 (0, 0)) = h13 at *
  obtain ⟨rfl, rfl, hro⟩ := hv10.open_ hz
  obtain ⟨rfl, rfl, hroT⟩ := hv12.open_ hzT
  have hll : l' = l := hroT.one (hro.same hmt)
  subst hll
  have hrk6 := hv6.open_ hz
  have hrk8 := hv8.open_ hzT
  have hsame : c8 = c6 ∧ a8 = a6 ∧ ys = xs := by
    rcases hrk6 with ⟨h1, rfl, rfl, rfl⟩ | ⟨rfl, rfl, hxl, hx, hxb⟩ <;> rcases hrk8 with ⟨h1', rfl, rfl, rfl⟩ | ⟨rfl, rfl, hyl, hy, hyb⟩
    · exact ⟨rfl, rfl, rfl⟩
    · exact absurd (h1.same hmt) (rk_no hy)
    · exact absurd h1' (rk_no (hx.samE hmt))
    · refine ⟨rfl, rfl, vz_ext hyl hxl fun b hb => ?_⟩
      have h1 : (vz ys b).toNat = (vz xs b).toNat := hy.same (hx.samE hmt) hokT hb
      have h2 := hxb b hb
      have h3 := hyb b hb
      omega
  obtain ⟨rfl, rfl, rfl⟩ := hsame
  have k713 := (k79.trans k911).trans k1113
  have k913 := k911.trans k1113
  have hb7' := k713.get hb7 (by simp)
  have hb9' := k913.get hb9 (by simp)
  have hw7' := OwnH.more hw7 k713
  have hw9' := OwnH.more hw9 k913
  have hw11' := OwnH.more hw11 k1113
  have k513 := k57.trans k713
  have hlm := RoundIs.le hok hro
  have hyl : ys.length ≤ m := by
    rcases hrk6 with ⟨_, rfl, _⟩ | ⟨_, _, hxl, _⟩
    · exact Nat.zero_le _
    · omega
  refine ⟨fun r h' => r = .bool false ∧ h' = h13, ?_, ?_⟩
  · refine ⟨_, cellsH_blk hb7' rfl, _, cellsH_blk hb9' rfl, ?_⟩
    show cond (!((c8 == c8) && ((a8 == a8) && true))) _ _
    refine cond_f (by simp) ?_
    refine CallX.use (Same_law hw7'.slAt hw9'.slAt (by omega)) ?_
    rintro _ h14 ⟨rfl, hh14⟩
    rw [asB_bool]
    refine cond_f rfl ?_
    rw [hh14]
    refine CallX.use (Same_law hw11'.slAt hw13.slAt (by rw [nI_len]; omega)) ?_
    rintro _ h15 ⟨rfl, hh15⟩
    rw [asB_bool]
    exact ⟨rfl, hh15⟩
  rintro _ _ h14 ⟨rfl, hh14⟩
  rw [hh14, asB_bool]
  refine cond_f rfl ?_
  obtain ⟨a', ha', hza⟩ := kmod pa (m := m) (by omega) (by omega)
  obtain ⟨b', hb', hzb⟩ := kmod pb (m := m) (by omega) (by omega)
  rw [asI_int, asI_int]
  refine ⟨u64_ne (by omega) (by omega), ?_⟩
  rw [asI_int, asI_int]
  refine ⟨u64_ne (by omega) (by omega), rfl, ?_⟩
  rw [hza, hzb]
  have ho13 : EO h13 h2.size w5 T := OwnH.more ho5 k513
  have hbo5 := OwnH.lt ho5
  refine appK_one (bt := 16) (sz := 2) (el := 30) (cs := ef ((a' : Int), (b' : Int))) (by kernel_rfl) ho13 rfl (ef_one _) (by omega) (by omega) (by have := k25.size; have := k513.size; omega) fun w15 h15 ho15 hg15 _ hw15 => ?_
  have k15 : Keep (fun k => w5.ownBlock = some k) h13 h15 := Keep.grown hg15 fun k hk _ => hk
  have ho15 : EO h15 h2.size w15 (T ++ [((a' : Int), (b' : Int))]) := by
    rw [EO, List.length_append, List.flatMap_append]
    exact ho15
  have hgM : ∀ x ∈ T ++ [((a' : Int), (b' : Int))], bad (m : Int) x = false := fun x hx => by
    rcases List.mem_append.1 hx with h | h
    · exact hgT x h
    · simp at h
      subst h
      simp [bad]
      omega
  have hMl : (T ++ [((a' : Int), (b' : Int))]).length ≤ 451 := by simp; omega
  have hmM : ∀ e, e ∈ esOf E → e ∈ esOf (T ++ [((a' : Int), (b' : Int))]) := fun e he => by
    have := (hmt e).1 he
    unfold esOf at this ⊢
    rw [List.map_append]
    exact List.mem_append_left _ this
  generalize T ++ [((a' : Int), (b' : Int))] = M at *
  have hzM : (chk m M).1 = 0 := by rw [chk_good (by omega) hgM]
  have hokM := es_ok hgM
  have hne7 : w5.ownBlock ≠ some G6 := fun e => by
    have := (hbo5 _ e).2
    omega
  have hb15 := k15.get hb7' hne7
  have hw15a : IO h15 h5.size w6 ys := IO.keepW hw7' k15 fun b hb he => by
    have h1 := (OwnH.lt hw7' b hb).1
    have h2 := (hbo5 b he).2
    omega
  have hw15b : IO h15 h9.size w10 (nI l') := IO.keepW hw11' k15 fun b hb he => by
    have h1 := (OwnH.lt hw11' b hb).1
    have h2 := (hbo5 b he).2
    have := k57.size
    have := k79.size
    omega
  have kk15 : Keep (fun _ => False) h h15 := (k2.trans (k25.trans k513)).newer (k15.mono fun b _ hb => .inr (by
    have := (hbo5 b hb).1
    have := k2.size
    omega))
  -- Ranks of one more
  refine CallX.use (Ranks_law ho15.at_) ?_
  rintro _ h16 ⟨hr16, k16⟩
  obtain ⟨w16, qs, c16, a16, rfl, hw16, hv16⟩ := hr16.open_
  rw [tup2, asA_agg]
  refine ⟨rfl, flt_one _ _, storeK_local (cs := flt c16 a16) rfl ?_⟩
  have hb17 := hp_push_new (h := h16) (o := .cells (flt c16 a16).toArray 25 (0, 0))
  have kp17 := Keep.push (S := fun _ => False) h16 (.cells (flt c16 a16).toArray 25 (0, 0))
  have k1517 := k16.trans kp17
  have hw17 := OwnH.more hw16 kp17
  generalize h16.push (.cells (flt c16 a16).toArray 25 (0, 0)) = h17 at *
  -- Round of it
  refine CallX.use (Round_law (EdAt.keep ho15.at_ k1517)) ?_
  rintro _ h18 ⟨hr18, k18⟩
  obtain ⟨w18, u, c18, a18, rfl, hw18, hv18⟩ := hr18.open_
  rw [tup2, asA_agg]
  refine ⟨rfl, flt_one _ _, storeK_local (cs := flt c18 a18) rfl ?_⟩
  have kp19 := Keep.push (S := fun _ => False) h18 (.cells (flt c18 a18).toArray 25 (0, 0))
  have k1719 := k18.trans kp19
  have hw19 := OwnH.more hw18 kp19
  generalize h18.push (.cells (flt c18 a18).toArray 25 (0, 0)) = h19 at *
  obtain ⟨rfl, rfl, hroM⟩ := hv18.open_ hzM
  have k1519 := k1517.trans k1719
  have hb19 := k1519.get hb15 (by simp)
  have hb19' := k1719.get hb17 (by simp)
  have hw19a := OwnH.more hw15a k1519
  have hw19b := OwnH.more hw15b k1519
  have hw19c := OwnH.more hw17 k1719
  have kk19 := kk15.trans k1519
  refine lx hb19 rfl ?_
  rw [asK_int]
  have hrkM := hv16.open_ hzM
  rcases hrk6 with ⟨hno, rfl, rfl, rfl⟩ | ⟨rfl, rfl, hxl, hx, hxb⟩
  · refine cond_t (by decide) ?_
    rcases hrkM with ⟨_, _, rfl, rfl⟩ | ⟨_, _, _, hy, _⟩
    rotate_left
    · exact absurd (fun a b hab => hy.up a b (hmM _ hab)) (hno _)
    refine ⟨fun r h' => r = .bool true ∧ Keep (fun _ => False) h h', ?_, fun _ _ _ hj => hj⟩
    refine ⟨_, cellsH_blk hb19' rfl, _, cellsH_blk hb19 rfl, ?_⟩
    show asSl w18 _
    have hp1 := RoundIs.pos hok hro hno
    have hle := RoundIs.more hok hokM hmM hro hroM hp1
    have hp2 : 0 < u.length := RoundIs.pos hokM hroM fun s hs => hno s fun a b hab => hs a b (hmM _ hab)
    refine IS.sl hw19.slAt fun _ _ => ?_
    refine IS.sl hw19b.slAt fun _ _ => ?_
    rw [nI_len, nI_len]
    refine cond_t (decide_eq_true (by omega)) ?_
    refine IS.sl hw19.slAt fun _ _ => ?_
    rw [nI_len]
    refine ⟨?_, kk19⟩
    rw [decide_eq_true (by omega)]
  · refine cond_f (by decide) ?_
    refine lx hb19' rfl ?_
    rw [asK_int]
    rcases hrkM with ⟨hno, rfl, rfl, rfl⟩ | ⟨rfl, rfl, hql, hq, hqb⟩
    · refine cond_t (by decide) ?_
      have hp2 := RoundIs.pos hokM hroM hno
      refine IS.sl hw19.slAt fun _ _ => ?_
      rw [nI_len]
      refine ⟨?_, kk19⟩
      rw [decide_eq_true (by omega)]
    · refine cond_f (by decide) ?_
      refine ⟨fun t h' => ∃ i : Nat, t = .int .i64 i ∧ i ≤ m ∧ h' = h19, fun t _ => match t with | .int _ i => m - i.toNat | _ => 0, ⟨0, rfl, by omega, rfl⟩, ?_⟩
      rintro _ _ h20 ⟨i, rfl, hi, hh⟩
      rw [hh, asK_int, asK_int]
      refine cond_c (fun hc => ?_) (fun hc => ⟨rfl, kk19⟩)
      have him : i < m := by have := of_decide_eq_true hc; omega
      refine IS.rd hw19c.slAt (vz_at (by omega : i < qs.length)) ?_
      refine IS.rd hw19a.slAt (vz_at (by omega : i < ys.length)) ?_
      rw [asK_int, asK_int]
      have h1 := hx.le hok (s := fun b => (vz qs b).toNat) (fun a b hab => hq.up a b (hmM _ hab)) _ i him rfl
      have h2 := hxb i him
      have h3 := hqb i him
      refine cond_f (decide_eq_false (by omega)) ?_
      rw [asK_int, i64_in (by omega) (by omega)]
      exact ⟨⟨i + 1, by simp, by omega, rfl⟩, by simp; omega⟩
end
end Go.Proofs.Ytfjkddigflijeaa
