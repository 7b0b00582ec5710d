/- Faults in words: All; the law TextTells. -/
import Derived.Test.YtfpedcmempljlaaDoorO9
namespace Go.Proofs.YtfpedcmempljlaaDoor
open Go Go.Sx Go.Sx.Or Go.Proofs.YtfpedcmempljlaaDoor.Sx

/-- what All tells, from what there is on -/
def allF (s : ByteArray) : List Ft → ByteArray → ByteArray × Ft
  | [], acc => (acc, (0, 0))
  | f :: r, acc => if (tellF s f).2.1 ≠ 0 then (nilB, (tellF s f).2) else allF s r (acc ++ ((tellF s f).1 ++ lineB))
theorem allF_cons (s : ByteArray) (f : Ft) (r : List Ft) (acc : ByteArray) : allF s (f :: r) acc = if (tellF s f).2.1 ≠ 0 then (nilB, (tellF s f).2) else allF s r (acc ++ ((tellF s f).1 ++ lineB)) := rfl
theorem Bld.lt {h : Hp} {B b : Nat} {l : List UInt8} (hb : Bld h B b l) : b < h.size := by
  obtain ⟨_, _, _, _, h2, _⟩ := hb
  exact hp_lt h2
theorem tellF_len (s : ByteArray) (f : Ft) : (tellF s f).1.size ≤ 1000 := by
  unfold tellF
  split
  · show nilB.size ≤ 1000
    decide
  · split
    · show nilB.size ≤ 1000
      decide
    · have hlt := plF_lt s f.2
      have l1 := itB_len hlt.1 hlt.2.1
      have l2 := itB_len hlt.2.2.1 hlt.2.2.2
      have l3 := wd_small f.1
      show (tellS s f).size ≤ 1000
      unfold tellS
      rw [app_size, app_size, app_size, app_size]
      have c1 : colonB.size = 1 := rfl
      have c2 : blankB.size = 1 := rfl
      omega
def AlRes (s : ByteArray) (L : List Ft) (r : Value) : Prop := r = .tuple #[.string (allF s (ordL L) nilB).1, .agg (fl (allF s (ordL L) nilB).2).toArray]
theorem toData (a : ByteArray) : (⟨a.data.toList.toArray⟩ : ByteArray) = a := by
  cases a
  simp
theorem appData (a b : ByteArray) : (a ++ b).data.toList = a.data.toList ++ b.data.toList := by simp
theorem SpTab.moreK {h h' : Hp} {B : Nat} (t : SpTab h) (hB : 0 < B) (k : Keep (fun k => B ≤ k) h h') : SpTab h' := fun b hb => k.cell (t b hb) (by show ¬ B ≤ 0; omega)
theorem PwTab.moreK {h h' : Hp} {B : Nat} (t : PwTab h) (hB : h.size ≤ B ∨ 3 ≤ B) (k : Keep (fun k => B ≤ k) h h') : PwTab h' := by
  intro ω d
  have := t ω d
  unfold Lib.TabIs World.var? at this ⊢
  rw [Option.bind_eq_some_iff] at this ⊢
  obtain ⟨g, hg, hm⟩ := this
  refine ⟨g, hg, ?_⟩
  have e1 : (W ω h d).heap = h := rfl
  have e2 : (W ω h' d).heap = h' := rfl
  rw [e1] at hm
  rw [e2]
  have hg2 : g = 2 := Option.some.inj (hg.symm.trans (show Tryd.prog.globalNamed "internal/strconv.uint64pow10" = some 2 by kernel_rfl))
  split at hm
  · rename_i c t f hb
    have := hp_lt hb
    rw [k.get hb (by omega)]
    exact hm
  · cases hm

section
variable {ω : Amb}
theorem RAll_law {h : Hp} {v : Value} {L : List Ft} (s : ByteArray) (hs : FAt h v L) (hl : L.length ≤ 300) (hp : PwTab h) (X : List PanicEntry → Hp → Prop) :
    CallX Tryd.prog ω n_pipewrightref_All [.string s, v] h (fun r h' => AlRes s L r ∧ Keep (fun _ => False) h h') X := by
  refine C_pipewrightref_All ω _ _ h _ X ?_
  unfold W_pipewrightref_All
  have hg0 : (Array.push h (.cells #[(.int .i64 0), (.int .i64 0)] 26 (0, 0)))[h.size]? = some (.cells (fl (0, 0)).toArray 26 (0, 0)) := hp_push_new
  have k0 := Keep.push (S := fun _ => False) h (.cells #[(.int .i64 0), (.int .i64 0)] 26 (0, 0))
  generalize Array.push h (.cells #[(.int .i64 0), (.int .i64 0)] 26 (0, 0)) = h0 at *
  refine CallX.use (ROrder_law (SlAt.keep hs k0) (by omega)) ?_
  rintro r0 h1 ⟨ho1, k1⟩
  have hg1 := k1.get hg0 (by simp)
  have k1 := k0.trans k1
  have hol := ordL_len L
  have hr1 := FO.at_ ho1
  unfold AlRes
  generalize ordL L = o at *
  refine ⟨fun out t h' => ∃ (i : Nat) (acc : ByteArray), t = .int .i64 i ∧ out = .string acc ∧ i ≤ o.length ∧ acc.size ≤ i * 2000 ∧ allF s o nilB = allF s (o.drop i) acc ∧ Keep (fun _ => False) h1 h', fun _ t _ => match t with | .int _ i => o.length - i.toNat | _ => 0, ⟨0, nilB, rfl, rfl, by omega, by decide, by rw [List.drop_zero], Keep.refl _ _⟩, ?_⟩
  rintro _ _ _ h2 ⟨i, acc, rfl, rfl, hi, hacc, hall, k2⟩
  have hr2 := SlAt.keep hr1 k2
  have hg2 := k2.get hg1 (by simp)
  have k02 := k1.trans k2
  refine FAt.sl hr2 fun _ _ => ?_
  rw [asK_int]
  refine cond_c (fun hc => ?_) (fun hc => ?_)
  · have hlt : i < o.length := by have := of_decide_eq_true hc; omega
    have hx := List.getElem?_eq_getElem hlt
    generalize o[i] = f at hx
    rw [drop_at hx, allF_cons] at hall
    refine SlAt.rdS hr2 fl_len hx ?_
    refine CallX.use (RTell_law s h2 (hp.more k02)) ?_
    rintro _ h3 ⟨rfl, k3⟩
    have hlen := tellF_len s f
    rw [tup2, asA_agg]
    refine ⟨rfl, fl_one _, storeK_local (cs := fl (tellF s f).2) rfl ?_⟩
    have hb4 := hp_push_new (h := h3) (o := .cells (fl (tellF s f).2).toArray 26 (0, 0))
    have kp4 := Keep.push (S := fun _ => False) h3 (.cells (fl (tellF s f).2).toArray 26 (0, 0))
    have k24 := k3.trans kp4
    generalize h3.push (.cells (fl (tellF s f).2).toArray 26 (0, 0)) = h4 at *
    have hg4 := k24.get hg2 (by simp)
    refine lx hb4 rfl ?_
    rw [asK_int]
    refine cond_c (fun hc => ?_) (fun hc => ?_)
    · have hne : (tellF s f).2.1 ≠ 0 := by simpa using hc
      rw [if_pos hne] at hall
      refine ⟨_, cellsH_blk hb4 rfl, rfl, fl_one _, finF (cs := fl (tellF s f).2) hg4 rfl rfl fun h5 k5 _ => ?_⟩
      refine ⟨?_, (k02.trans k24).newer (k5.mono fun b _ hb => .inr (Nat.le_of_eq hb.symm))⟩
      rw [hall]
      rfl
    · have hz : ¬ (tellF s f).2.1 ≠ 0 := by simpa using hc
      rw [if_neg hz] at hall
      have hls : lineB.size = 1 := rfl
      have e1 : ((tellF s f).1 ++ lineB).size = (tellF s f).1.size + 1 := by rw [app_size, hls]
      have h300 : i * 2000 ≤ 300 * 2000 := Nat.mul_le_mul_right _ (by omega)
      rw [asS_str]
      refine ⟨by show _ + lineB.size ≤ _; omega, ?_⟩
      rw [asS_str]
      refine ⟨by show _ + ((tellF s f).1 ++ lineB).size ≤ _; omega, ?_⟩
      rw [asK_int, i64_in (by omega) (by omega)]
      refine ⟨⟨i + 1, acc ++ ((tellF s f).1 ++ lineB), by simp, rfl, by omega, ?_, hall, k2.trans k24⟩, by simp; omega⟩
      rw [app_size, e1]
      omega
  · obtain rfl : i = o.length := by have := of_decide_eq_false hc; omega
    rw [List.drop_length] at hall
    refine ⟨rfl, fl_one (0, 0), finF (cs := fl (0, 0)) hg2 rfl rfl fun h5 k5 _ => ?_⟩
    refine ⟨?_, k02.newer (k5.mono fun b _ hb => .inr (Nat.le_of_eq hb.symm))⟩
    rw [hall]
    rfl
set_option maxRecDepth 100000 in
theorem All_law (hω : ω.low = 0) {h : Hp} {v : Value} {L : List Ft} (s : ByteArray) (hs : FAt h v L) (hl : L.length ≤ 300) (ht : SpTab h) (hp : PwTab h) (X : List PanicEntry → Hp → Prop) :
    CallX Tryd.prog ω n_text_All [.string s, v] h (fun r h' => AlRes s L r ∧ Keep (fun _ => False) h h') X := by
  refine C_text_All ω _ _ h _ X ?_
  unfold W_text_All
  have hsz : 0 < h.size := by
    have := cellH_lt (ht 0 (by decide))
    exact this
  have hg0 : (Array.push h (.cells #[(.int .i64 0), (.int .i64 0)] 26 (0, 0)))[h.size]? = some (.cells (fl (0, 0)).toArray 26 (0, 0)) := hp_push_new
  have k0 := Keep.push (S := fun _ => False) h (.cells #[(.int .i64 0), (.int .i64 0)] 26 (0, 0))
  have hlt0 := hp_lt hg0
  generalize Array.push h (.cells #[(.int .i64 0), (.int .i64 0)] 26 (0, 0)) = h0 at *
  have hb1 := hp_push_new (h := h0) (o := .cells #[.pointer none, .slice none 0 0] 43 (0, 0))
  have kp1 := Keep.push (S := fun _ => False) h0 (.cells #[.pointer none, .slice none 0 0] 43 (0, 0))
  have hbl := Bld.new (Nat.le_refl h0.size) hb1
  generalize Array.push h0 (.cells #[.pointer none, .slice none 0 0] 43 (0, 0)) = h1 at *
  have hg1 := kp1.get hg0 (by simp)
  have k01 := k0.trans kp1
  refine CallX.use (Order_law (SlAt.keep hs k01) (by omega)) ?_
  rintro r0 h2 ⟨ho2, k2⟩
  have hg2 := k2.get hg1 (by simp)
  have hbl2 := hbl.more k2
  have k02 := k01.trans k2
  have hol := ordL_len L
  unfold AlRes
  generalize ordL L = o at *
  have hB0 := k0.size
  have hB1 := kp1.size
  have hB2 := k2.size
  generalize hBe : h0.size = B at *
  refine FAt.sl ho2.at_ fun _ _ => ?_
  refine ⟨fun t h' => ∃ (i : Nat) (acc : ByteArray), t = .int .i64 i ∧ i ≤ o.length ∧ acc.size ≤ i * 2000 ∧ allF s o nilB = allF s (o.drop i) acc ∧ Bld h' B B acc.data.toList ∧ FO h' h1.size r0 o ∧ Keep (fun k => B ≤ k) h h' ∧ h'[h.size]? = some (.cells (fl (0, 0)).toArray 26 (0, 0)), fun t _ => match t with | .int _ i => o.length - i.toNat | _ => 0, ⟨0, nilB, rfl, by omega, by decide, by rw [List.drop_zero], hbl2, ho2, k02.mono fun _ _ hb => hb.elim, hg2⟩, ?_⟩
  rintro _ _ h3 ⟨i, acc, rfl, hi, hacc, hall, hbl3, ho3, k3, hg3⟩
  rw [asK_int]
  refine cond_c (fun hc => ?_) (fun hc => ?_)
  · have hlt : i < o.length := by have := of_decide_eq_true hc; omega
    have hx := List.getElem?_eq_getElem hlt
    generalize o[i] = f at hx
    rw [drop_at hx, allF_cons] at hall
    refine SlAt.rdS ho3.at_ fl_len hx ?_
    refine ⟨rfl, fl_one _, storeK_local (cs := fl f) rfl ?_⟩
    have hf4 := hp_push_new (h := h3) (o := .cells (fl f).toArray 26 (0, 0))
    have kp4 := Keep.push (S := fun _ => False) h3 (.cells (fl f).toArray 26 (0, 0))
    generalize h3.push (.cells (fl f).toArray 26 (0, 0)) = h4 at *
    refine ⟨_, cellsH_blk hf4 rfl, ?_⟩
    have k4 : Keep (fun k => B ≤ k) h h4 := k3.trans (kp4.mono fun _ _ hb => hb.elim)
    have ht4 := SpTab.moreK ht (by omega) k4
    have hp4 := PwTab.moreK hp (.inl (by omega)) k4
    refine CallX.use (Tell_law s h4 ht4 hp4) ?_
    rintro _ h5 ⟨rfl, k5⟩
    have hlen := tellF_len s f
    rw [tup2, asA_agg]
    refine ⟨rfl, fl_one _, storeK_local (cs := fl (tellF s f).2) rfl ?_⟩
    have hb6 := hp_push_new (h := h5) (o := .cells (fl (tellF s f).2).toArray 26 (0, 0))
    have kp6 := Keep.push (S := fun _ => False) h5 (.cells (fl (tellF s f).2).toArray 26 (0, 0))
    have k36 := (kp4.trans k5).trans kp6
    generalize h5.push (.cells (fl (tellF s f).2).toArray 26 (0, 0)) = h6 at *
    have hg6 := k36.get hg3 (by simp)
    have hbl6 := hbl3.more k36
    have ho6 := OwnH.more ho3 k36
    have k6 : Keep (fun k => B ≤ k) h h6 := k3.trans (k36.mono fun _ _ hb => hb.elim)
    refine lx hb6 rfl ?_
    rw [asK_int]
    refine cond_c (fun hc => ?_) (fun hc => ?_)
    · have hne : (tellF s f).2.1 ≠ 0 := by simpa using hc
      rw [if_pos hne] at hall
      refine ⟨_, cellsH_blk hb6 rfl, rfl, fl_one _, finF (cs := fl (tellF s f).2) hg6 rfl rfl fun h7 k7 _ => ?_⟩
      refine ⟨?_, ⟨Nat.le_trans k6.size k7.size, fun b hb _ => ?_⟩⟩
      · rw [hall]
        rfl
      · rw [k7.block b (Nat.lt_of_lt_of_le hb k6.size) (by omega), k6.block b hb (by omega)]
    · have hz : ¬ (tellF s f).2.1 ≠ 0 := by simpa using hc
      rw [if_neg hz] at hall
      have hls : lineB.size = 1 := rfl
      have e1 : ((tellF s f).1 ++ lineB).size = (tellF s f).1.size + 1 := by rw [app_size, hls]
      have h300 : i * 2000 ≤ 300 * 2000 := Nat.mul_le_mul_right _ (by omega)
      have hal : acc.data.toList.length = acc.size := Array.length_toList
      rw [asS_str]
      refine ⟨by show _ + lineB.size ≤ _; omega, ?_⟩
      have hB6 := k6.size
      have hsz6 := k36.size
      refine CallX.use (Write_law hω hbl6 ((tellF s f).1 ++ lineB) (by omega) (Nat.le_of_lt hbl6.lt)) ?_
      rintro _ h7 ⟨hbl7, k7, hoth⟩
      rw [asK_int, i64_in (by omega) (by omega)]
      refine ⟨⟨i + 1, acc ++ ((tellF s f).1 ++ lineB), by simp, by omega, ?_, hall, ?_, hoth.own hbl6 ho6 (by decide) (by decide), k6.trans k7, k7.get hg6 (by show ¬ B ≤ h.size; omega)⟩, by simp; omega⟩
      · rw [app_size, e1]
        omega
      · rw [appData]
        exact hbl7
  · obtain rfl : i = o.length := by have := of_decide_eq_false hc; omega
    rw [List.drop_length] at hall
    refine CallX.use (String_law hω hbl3 (Nat.le_of_lt hbl3.lt)) ?_
    rintro _ h4 ⟨rfl, k4, hoth⟩
    have hg4 : h4[h.size]? = some (.cells (fl (0, 0)).toArray 26 (0, 0)) := k4.get hg3 (by show ¬ B ≤ h.size; omega)
    have k4' := k3.trans k4
    refine ⟨rfl, fl_one (0, 0), finF (cs := fl (0, 0)) hg4 rfl rfl fun h5 k5 _ => ?_⟩
    refine ⟨?_, ⟨Nat.le_trans k4'.size k5.size, fun b hb _ => ?_⟩⟩
    · rw [hall, toData]
      rfl
    · rw [k5.block b (Nat.lt_of_lt_of_le hb k4'.size) (by omega), k4'.block b hb (by omega)]
end
end Go.Proofs.YtfpedcmempljlaaDoor
