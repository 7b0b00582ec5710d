/- Ranks: next. -/
import Derived.Test.YtfjkddigflijeaaR6
namespace Go.Proofs.Ytfjkddigflijeaa
open Go Go.Sx Go.Sx.Pa Go.Sx.Ra Go.Proofs.Ytfjkddigflijeaa.Sx

/-- a slice of slices of ints, all of one's own and apart -/
def RowsV (h : Hp) (base : Nat) (v : Value) (n : Nat) (f : Nat → List Int) (vals : List Value) : Prop :=
  OwnH h base 27 1 v n vals ∧ (∀ (k : Nat) (w : Value), vals[k]? = some w → IO h base w (f k)) ∧ ∀ (i j : Nat) (w u : Value), i ≠ j → vals[i]? = some w → vals[j]? = some u → ∀ b, w.ownBlock = some b → u.ownBlock ≠ some b
def Rows (h : Hp) (base : Nat) (v : Value) (n : Nat) (f : Nat → List Int) : Prop := ∃ vals, RowsV h base v n f vals
theorem RowsV.keep {h h' : Hp} {base n : Nat} {v : Value} {f : Nat → List Int} {vals : List Value} (hr : RowsV h base v n f vals) (hk : Keep (fun _ => False) h h') : RowsV h' base v n f vals := by
  obtain ⟨h1, h2, h3⟩ := hr
  exact ⟨h1.more hk, fun k w hw => OwnH.more (h2 k w hw) hk, h3⟩
theorem Rows.keep {h h' : Hp} {base n : Nat} {v : Value} {f : Nat → List Int} (hr : Rows h base v n f) (hk : Keep (fun _ => False) h h') : Rows h' base v n f := by
  obtain ⟨vals, hr⟩ := hr
  exact ⟨vals, hr.keep hk⟩
theorem Rows.congr {h : Hp} {base n : Nat} {v : Value} {f g : Nat → List Int} (hr : Rows h base v n f) (hfg : ∀ k, k < n → f k = g k) : Rows h base v n g := by
  obtain ⟨vals, h1, h2, h3⟩ := hr
  refine ⟨vals, h1, fun k w hw => ?_, h3⟩
  rw [← hfg k]
  · exact h2 k w hw
  · have := (List.getElem?_eq_some_iff.1 hw).1
    have := h1.1
    omega
theorem Rows.base {h : Hp} {base base' n : Nat} {v : Value} {f : Nat → List Int} (hr : Rows h base v n f) (hb : base' ≤ base) : Rows h base' v n f := by
  obtain ⟨vals, h1, h2, h3⟩ := hr
  exact ⟨vals, h1.base hb, fun k w hw => OwnH.base (h2 k w hw) hb, h3⟩
theorem RowsV.at_ {h : Hp} {base n : Nat} {v : Value} {f : Nat → List Int} {vals : List Value} (hr : RowsV h base v n f vals) {k : Nat} (hk : k < n) : ∃ w, vals[k]? = some w ∧ IO h base w (f k) := by
  have hl : k < vals.length := by have := hr.1.1; omega
  exact ⟨_, List.getElem?_eq_getElem hl, hr.2.1 k _ (List.getElem?_eq_getElem hl)⟩
/-- one row is changed in its own place; the row of rows is not -/
theorem RowsV.row {h h' : Hp} {base n : Nat} {v : Value} {f : Nat → List Int} {vals : List Value} (hr : RowsV h base v n f vals) {k : Nat} {w : Value} (hw : vals[k]? = some w) (hk : Keep (fun b => w.ownBlock = some b) h h') {xs : List Int} (hx : IO h' base w xs) :
    RowsV h' base v n (fun m => if m = k then xs else f m) vals := by
  obtain ⟨h1, h2, h3⟩ := hr
  refine ⟨h1.keep fun b hb hlt => hk.block b hlt fun hwb => ?_, fun m u hu => ?_, h3⟩
  · obtain ⟨c, hc⟩ := OwnH.blk (h2 k w hw) hwb
    obtain ⟨c', hc'⟩ := h1.blk hb
    rw [hc] at hc'
    cases hc'
  · by_cases hmk : m = k
    · subst hmk
      rw [hw] at hu
      cases hu
      show IO h' base _ (if m = m then xs else f m)
      rw [if_pos rfl]
      exact hx
    · show IO h' base u (if m = k then xs else f m)
      rw [if_neg hmk]
      exact OwnH.keep (h2 m u hu) fun b hb hlt => hk.block b hlt fun hwb => h3 m k u w hmk hu hw b hb hwb
/-- one row is another one -/
theorem RowsV.turn {h5 h6 : Hp} {base n : Nat} {v : Value} {f : Nat → List Int} {vals : List Value} (hr : RowsV h5 base v n f vals) {k : Nat} {w u : Value} {xs : List Int} (hw : vals[k]? = some w)
    (k6 : Keep (fun b => w.ownBlock = some b) h5 h6) (hu : IO h6 base u xs) (hub : ∀ b, u.ownBlock = some b → w.ownBlock = some b ∨ h5.size ≤ b) {K : Hp → Prop}
    (hK : ∀ h7, Rows h7 base v n (fun m => if m = k then xs else f m) → Keep (fun b => base ≤ b) h5 h7 → K h7) :
    asSl1 v fun a l _ => 0 ≤ (k : Int) ∧ (k : Int) < (l : Int) ∧ storeK1 h6 (Addr.add a (Int.toNat (k : Int) * 1)) u K := by
  obtain ⟨hv1, hv2, hv3⟩ := hr
  have hkn : k < n := by
    have := (List.getElem?_eq_some_iff.1 hw).1
    have := hv1.1
    omega
  have how := hv2 k w hw
  have hvw : ∀ {b : Nat} {m : Nat} {x : Value}, vals[m]? = some x → v.ownBlock = some b → x.ownBlock ≠ some b := fun hx hb hwb => by
    obtain ⟨c, hc⟩ := OwnH.blk (hv2 _ _ hx) hwb
    obtain ⟨c', hc'⟩ := hv1.blk hb
    rw [hc] at hc'
    cases hc'
  have hv6 : OwnH h6 base 27 1 v n vals := hv1.keep fun b hb hlt => k6.block b hlt fun hwb => hvw hw hb hwb
  refine ownStore1 hv6 hkn fun h7 hv7 k7 => hK h7 ?_ ?_
  · have k57 : ∀ b, b < h5.size → v.ownBlock ≠ some b → w.ownBlock ≠ some b → h7[b]? = h5[b]? := fun b hlt hb1 hb2 => by
      rw [k7.block b (Nat.lt_of_lt_of_le hlt k6.size) hb1, k6.block b hlt hb2]
    have hset : ∀ (q : Nat) (x : Value), (vals.set k u)[q]? = some x → (q = k ∧ x = u) ∨ (q ≠ k ∧ vals[q]? = some x) := fun q x hq => by
      rcases set_get hq with ⟨h1', h2', _⟩ | ⟨h1', h2'⟩
      · exact .inl ⟨h1'.symm, h2'⟩
      · exact .inr ⟨fun e => h1' e.symm, h2'⟩
    refine ⟨vals.set k u, hv7, fun q x hq => ?_, fun q q' x x' hne hq hq' b hb => ?_⟩
    · rcases hset q x hq with ⟨rfl, rfl⟩ | ⟨hqk, hq2⟩
      · show IO h7 base _ (if q = q then xs else f q)
        rw [if_pos rfl]
        refine hu.keepW k7 fun b hb hbb => ?_
        rcases hub b hb with h1' | h1'
        · exact hvw hw hbb h1'
        · have := (hv1.lt b hbb).2
          omega
      · show IO h7 base _ (if q = k then xs else f q)
        rw [if_neg hqk]
        have hx := hv2 q x hq2
        exact OwnH.keep hx fun b hb hlt => k57 b hlt (fun hbe => hvw hq2 hbe hb) (fun hwb => hv3 q k x w hqk hq2 hw b hb hwb)
    · rcases hset q x hq with ⟨rfl, rfl⟩ | ⟨hqk, hq2⟩ <;> rcases hset q' x' hq' with ⟨rfl, rfl⟩ | ⟨hqk', hq2'⟩
      · exact absurd rfl hne
      · intro hbb
        rcases hub b hb with h1' | h1'
        · exact hv3 q q' w x' hne hw hq2' b h1' hbb
        · have := (OwnH.lt (hv2 q' x' hq2') b hbb).2
          omega
      · intro hbb
        rcases hub b hbb with h1' | h1'
        · exact hv3 q q' x w hne hq2 hw b hb h1'
        · have := (OwnH.lt (hv2 q x hq2) b hb).2
          omega
      · exact hv3 q q' x x' hne hq2 hq2' b hb
  · exact (k6.mono fun b _ hb => (OwnH.lt how b hb).1).trans (k7.mono fun b _ hb => (hv6.lt b hb).1)

def grp (es : Es) (k : Nat) : List Int := es.filterMap fun e => if e.1 = k then some (e.2 : Int) else none
theorem grp_app (es : Es) (e : Nat × Nat) (m : Nat) : grp (es ++ [e]) m = if m = e.1 then grp es m ++ [(e.2 : Int)] else grp es m := by
  unfold grp
  rw [List.filterMap_append]
  by_cases h : m = e.1
  · rw [if_pos h]; simp [h]
  · rw [if_neg h]
    simp
    exact fun e' => h (Eq.symm e')
theorem grp_len (es : Es) (k : Nat) : (grp es k).length ≤ es.length := List.length_filterMap_le _ _
theorem mem_grp {es : Es} {k : Nat} {x : Int} : x ∈ grp es k ↔ ∃ b : Nat, (k, b) ∈ es ∧ x = b := by
  unfold grp
  rw [List.mem_filterMap]
  constructor
  · rintro ⟨⟨a, b⟩, h1, h2⟩
    simp only at h2
    split at h2
    · rename_i e
      cases h2
      exact ⟨b, e ▸ h1, rfl⟩
    · cases h2
  · rintro ⟨b, h1, rfl⟩
    exact ⟨(k, b), h1, if_pos rfl⟩
theorem up_extI : ∀ {a b : List Int}, a.Pairwise (· < ·) → b.Pairwise (· < ·) → (∀ k, k ∈ a ↔ k ∈ b) → a = b
  | [], [], _, _, _ => rfl
  | [], y :: b, _, _, h => absurd ((h y).2 (List.mem_cons_self ..)) (by simp)
  | x :: a, [], _, _, h => absurd ((h x).1 (List.mem_cons_self ..)) (by simp)
  | x :: a, y :: b, ha, hb, h => by
    rw [List.pairwise_cons] at ha hb
    have hxy : x = y := by
      have h1 := (h x).1 (List.mem_cons_self ..)
      have h2 := (h y).2 (List.mem_cons_self ..)
      rcases List.mem_cons.1 h1 with e | h1
      · exact e
      · rcases List.mem_cons.1 h2 with e | h2
        · exact e.symm
        · have := hb.1 x h1
          have := ha.1 y h2
          omega
    subst hxy
    congr 1
    refine up_extI ha.2 hb.2 fun k => ⟨fun hk => ?_, fun hk => ?_⟩
    · rcases List.mem_cons.1 ((h k).1 (List.mem_cons_of_mem _ hk)) with e | h1
      · have := ha.1 k hk
        omega
      · exact h1
    · rcases List.mem_cons.1 ((h k).2 (List.mem_cons_of_mem _ hk)) with e | h1
      · have := hb.1 k hk
        omega
      · exact h1
theorem grp_succ {n : Nat} {es : Es} (ho : Ok n es) (k : Nat) : kp (srt (grp es k)) (srt (grp es k)).length = nI (succ n es k) := by
  obtain ⟨h1, h2⟩ := kp_good (srt_up (grp es k)) _ (Nat.le_refl _)
  refine up_extI h1 ?_ fun x => ?_
  · unfold nI
    rw [List.pairwise_map]
    exact (succ_up n es k).imp fun h => by omega
  · rw [h2, List.take_length, (srt_perm _).mem_iff, mem_grp]
    unfold nI
    rw [List.mem_map]
    constructor
    · rintro ⟨b, hb, rfl⟩
      exact ⟨b, (mem_succ ho).2 hb, rfl⟩
    · rintro ⟨b, hb, rfl⟩
      exact ⟨b, (mem_succ ho).1 hb, rfl⟩

section
variable {ω : Amb}
theorem next_law {h : Hp} {v : Value} {E : List (Int × Int)} {n : Nat} (hs : EdAt h v E) (hn : n ≤ 1000) (hl : E.length ≤ 20000) (hg : ∀ x ∈ E, bad (n : Int) x = false) (X : List PanicEntry → Hp → Prop) :
    CallX Try.prog ω n_ranks_next [.int .i64 (n : Int), v] h (fun r h' => Rows h' h.size r n (fun a => nI (succ n (esOf E) a)) ∧ Keep (fun _ => False) h h') X := by
  refine C_ranks_next ω _ _ h _ X ?_
  unfold W_ranks_next
  have hel : (esOf E).length = E.length := by simp [esOf]
  refine makeK_of (z := [.slice none 0 0]) (bt := 24) (el := 27) (sz := 1) (by kernel_rfl) (by kernel_rfl) (by omega) (by omega) (by omega) ?_
  rw [Int.toNat_natCast, zeroRow_one]
  have hb2n := hp_push_new (h := h) (o := .cells (Array.replicate n (Value.slice none 0 0)) 27 (0, 0))
  have k2 := Keep.push (S := fun _ => False) h (.cells (Array.replicate n (Value.slice none 0 0)) 27 (0, 0))
  have hs2 := EdAt.keep hs k2
  generalize Array.push h (.cells (Array.replicate n (Value.slice none 0 0)) 27 (0, 0)) = h2 at *
  have hown2 : OwnH h2 h.size 27 1 (.slice (some ⟨h.size, 0, none⟩) n n) n (List.replicate n (Value.slice none 0 0)) := by
    refine ownBlk (by rw [hb2n]; simp) (by simp) (by simp only [maxLen]; omega) (Nat.le_refl _)
  have hr2 : Rows h2 h.size (.slice (some ⟨h.size, 0, none⟩) n n) n (grp ((esOf E).take 0)) := by
    refine ⟨_, hown2, fun k w hw => ?_, fun i j w u _ hw _ b hb => ?_⟩
    · rw [List.getElem?_replicate] at hw
      split at hw
      · cases hw
        exact OwnH.nil
      · cases hw
    · rw [List.getElem?_replicate] at hw
      split at hw
      · cases hw
        cases hb
      · cases hw
  generalize hV : Value.slice (some ⟨h.size, 0, none⟩) n n = V at *
  refine EdAt.sl hs2 fun _ _ => ?_
  refine ⟨fun i h' => ∃ k : Nat, i = .int .i64 k ∧ k ≤ E.length ∧ Rows h' h.size V n (grp ((esOf E).take k)) ∧ Keep (fun _ => False) h h', fun i _ => match i with | .int _ k => E.length - k.toNat | _ => 0, ⟨0, rfl, by omega, hr2, k2⟩, ?_⟩
  rintro _ _ h3 ⟨i, rfl, hil, hr3, k3⟩
  have hs3 := EdAt.keep hs k3
  rw [asK_int]
  refine cond_c (fun hc => ?_) (fun hc => ?_)
  · have hlt : i < E.length := by have := of_decide_eq_true hc; omega
    have hx := List.getElem?_eq_getElem hlt
    generalize E[i] = e at hx
    obtain ⟨a, b, rfl, ha, hb, hes⟩ := es_at hg hx
    have htk : (esOf E).take (i + 1) = (esOf E).take i ++ [(a, b)] := by
      rw [List.take_add_one, hes]
      rfl
    refine SlAt.rdS hs3 ef_len hx ?_
    refine ⟨rfl, ef_one _, storeK_local (cs := ef ((a : Int), (b : Int))) rfl ?_⟩
    have hb4 := hp_push_new (h := h3) (o := .cells (ef ((a : Int), (b : Int))).toArray 30 (0, 0))
    have kp4 := Keep.push (S := fun _ => False) h3 (.cells (ef ((a : Int), (b : Int))).toArray 30 (0, 0))
    have hr4 := hr3.keep kp4
    have k4 := k3.trans kp4
    generalize h3.push (.cells (ef ((a : Int), (b : Int))).toArray 30 (0, 0)) = h4 at *
    have hG4 := hp_lt hb4
    generalize h3.size = G at *
    refine ⟨by decide, by decide, lx hb4 rfl ?_⟩
    refine ⟨by decide, by decide, lx hb4 rfl ?_⟩
    obtain ⟨vals, hv⟩ := hr4
    obtain ⟨w, hw, how⟩ := hv.at_ ha
    refine SlAt.rd1a hv.1.slAt hw fun ad had => ?_
    refine ⟨by decide, by decide, lx hb4 rfl ?_⟩
    rw [oneK_int]
    refine ⟨cellH_old had, cellH_old (lx' hb4 rfl), cellH_old (lx' hb4 rfl), ?_⟩
    have hgl := grp_len ((esOf E).take i) a
    rw [List.length_take] at hgl
    refine IO.app how (by omega) k4.size (b : Int) fun u h5 ho5 k5 hu5 => ?_
    have hb5 := k5.get hb4 (fun e => by
      obtain ⟨c, hc⟩ := OwnH.blk how e
      rw [hb4] at hc
      cases hc)
    refine ⟨lx' hb5 rfl, ?_⟩
    have hone := ownOne ho5
    simp only [oneK_eq hone]
    refine RowsV.turn hv hw k5 ho5 hu5 fun h6 hr6 k6 => ?_
    rw [asK_int, i64_in (by omega) (by omega)]
    refine ⟨⟨i + 1, by simp, by omega, ?_, k4.newer (k6.mono fun b _ hb => .inr hb)⟩, by simp; omega⟩
    refine hr6.congr fun m _ => ?_
    rw [htk, grp_app]
    split
    · rename_i hm
      rw [hm]
    · rfl
  have hie : i = E.length := by have := of_decide_eq_false hc; omega
  subst hie
  rw [← hel, List.take_length] at hr3
  have hok := es_ok hg
  have hV3 : ∃ vals, RowsV h3 h.size V n (grp (esOf E)) vals := hr3
  obtain ⟨vals3, hv3⟩ := hV3
  refine SlAt.sl hv3.1.slAt fun _ _ => ?_
  refine ⟨fun i h' => ∃ k : Nat, i = .int .i64 k ∧ k ≤ n ∧ Rows h' h.size V n (fun m => if m < k then nI (succ n (esOf E) m) else grp (esOf E) m) ∧ Keep (fun _ => False) h h', fun i _ => match i with | .int _ k => n - k.toNat | _ => 0, ⟨0, rfl, by omega, hr3.congr fun m _ => by rw [if_neg (by omega)], k3⟩, ?_⟩
  rintro _ _ h4 ⟨i, rfl, hin, hr4, k4⟩
  rw [asK_int]
  refine cond_c (fun hc => ?_) (fun hc => ?_)
  · have hlt : i < n := by have := of_decide_eq_true hc; omega
    obtain ⟨vals, hv⟩ := hr4
    obtain ⟨w, hw, how⟩ := hv.at_ hlt
    rw [if_neg (by omega)] at how
    have hgl := grp_len (esOf E) i
    refine SlAt.rd1 hv.1.slAt hw ?_
    refine CallX.use (Sort_law how (by omega)) ?_
    rintro _ h5 ⟨ho5, k5⟩
    have hv5 := hv.row hw k5 ho5
    refine SlAt.rd1 hv5.1.slAt hw ?_
    refine CallX.use (Compact_law ho5 (by rw [(srt_perm _).length_eq]; omega)) ?_
    rintro u h6 ⟨ho6, k6, hu6⟩
    have hone := ownOne ho6
    simp only [oneK_eq hone]
    refine RowsV.turn hv5 hw k6 ho6 (fun b hb => .inl (hu6 b hb)) fun h7 hr7 k7 => ?_
    rw [asK_int, i64_in (by omega) (by omega)]
    refine ⟨⟨i + 1, by simp, by omega, ?_, (k4.newer (k5.mono fun b _ hb => .inr (OwnH.lt how b hb).1)).newer (k7.mono fun b _ hb => .inr hb)⟩, by simp; omega⟩
    refine hr7.congr fun m _ => ?_
    by_cases hmi : m = i
    · subst hmi
      rw [if_pos rfl, if_pos (by omega), grp_succ hok]
    · rw [if_neg hmi, if_neg hmi]
      by_cases hlt : m < i
      · rw [if_pos hlt, if_pos (by omega)]
      · rw [if_neg hlt, if_neg (by omega)]
  · have hie : i = n := by have := of_decide_eq_false hc; omega
    subst hie
    exact ⟨hr4.congr fun m hm => by rw [if_pos hm], k4⟩
end
end Go.Proofs.Ytfjkddigflijeaa
