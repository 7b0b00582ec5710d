/- Faults: each once. -/
import Derived.Test.YtfpedcmempljlaaDoorO2
namespace Go.Sx
theorem spl_mid {cur : Array Value} {p q m : Nat} {cs : List Value} (h : q + cs.length ≤ m) (hm : p + m ≤ cur.size) : ((spl cur (p + q) cs).toList.drop p).take m = (spl ((cur.toList.drop p).take m).toArray q cs).toList := by
  have hl : ((cur.toList.drop p).take m).length = m := by
    rw [List.length_take, List.length_drop, Array.length_toList]
    omega
  refine List.ext_getElem? fun k => ?_
  have e2 := spl_get (cur := ((cur.toList.drop p).take m).toArray) (o := q) (cs := cs) (j := k) (by simp only [List.size_toArray]; omega)
  have e1 := spl_get (cur := cur) (o := p + q) (cs := cs) (j := p + k) (by omega)
  have e0 : (spl ((cur.toList.drop p).take m).toArray q cs).toList[k]? = (spl ((cur.toList.drop p).take m).toArray q cs)[k]? := Array.getElem?_toList
  have e3 : (spl cur (p + q) cs).toList[p + k]? = (spl cur (p + q) cs)[p + k]? := Array.getElem?_toList
  have e4 : cur.toList[p + k]? = cur[p + k]? := Array.getElem?_toList
  have e5 : ((cur.toList.drop p).take m).toArray[k]? = if k < m then cur[p + k]? else none := by
    rw [List.getElem?_toArray, List.getElem?_take, List.getElem?_drop, e4]
  rw [e0, e2, List.getElem?_take, List.getElem?_drop, e3, e1, e5]
  by_cases hk : k < m
  · rw [if_pos hk, if_pos hk]
    by_cases h1 : k < q
    · rw [if_pos h1, if_pos (by omega)]
    · rw [if_neg h1, if_neg (by omega)]
      by_cases h2 : k < q + cs.length
      · rw [if_pos h2, if_pos (by omega)]
        congr 1
        omega
      · rw [if_neg h2, if_neg (by omega)]
  · rw [if_neg hk, if_neg hk, if_neg (by omega), if_neg (by omega)]
theorem OwnH.storeS {α : Type} {f : α → List Value} {sz : Nat} {h : Hp} {base : Nat} {t : TypeId} {v : Value} {es : List α} (hs : OwnH h base t sz v es.length (es.flatMap f)) (hf : ∀ e, (f e).length = sz) {i : Nat} (hi : i < es.length) {e' : α} (h1 : ∀ u ∈ f e', one u) {K : Hp → Prop}
    (hk : ∀ h', OwnH h' base t sz v (es.set i e').length ((es.set i e').flatMap f) → Keep (fun k => v.ownBlock = some k) h h' → K h') :
    asSl1 v fun a l _ => 0 ≤ (i : Int) ∧ (i : Int) < (l : Int) ∧ sz = sz ∧ (∀ u ∈ f e', one u) ∧ storeK h (Addr.add a (Int.toNat (i : Int) * sz)) (f e') K := by
  rcases hs.2 with ⟨rfl, h0⟩ | ⟨g, p, cap, cur, rfl, hb, hg, hnc, hcm, hcs, hx⟩
  · omega
  · rw [asSl1_sl]
    have hmul : (i + 1) * sz ≤ es.length * sz := Nat.mul_le_mul_right sz (by omega)
    have hmul2 : es.length * sz ≤ cap * sz := Nat.mul_le_mul_right sz (by omega)
    have hfl := hf e'
    rw [Nat.add_mul, Nat.one_mul] at hmul
    refine ⟨by omega, by omega, rfl, h1, ?_⟩
    rw [addr_add, Int.toNat_natCast]
    refine storeK_of hg (by omega) (hk _ ⟨flat_len hf _, .inr ⟨g, p, cap, _, by rw [List.length_set], hb, hp_set_same hg, by simpa using hnc, hcm, by rw [spl_size (by omega)]; exact hcs, ?_⟩⟩ (Keep.set (S := fun k => _ = some k) _ rfl))
    rw [List.length_set, spl_mid (by omega) (by omega)]
    rw [hx, flat_spl hf hi]
/-- the rear of a slice of structs, only read -/
theorem SlAt.sufS {α : Type} {f : α → List Value} {sz : Nat} {h : Hp} {n cap : Nat} {a : Option Addr} {es : List α} (hs : SlAt h sz (.slice a n cap) es.length (es.flatMap f)) (hf : ∀ e, (f e).length = sz) (hcap : es.length ≤ cap) {i : Nat} (hi : i < es.length) :
    SlAt h sz (.slice (if cap = Int.toNat (i : Int) then a else Option.map (fun y => Addr.add y (Int.toNat (i : Int) * sz)) a) (Int.toNat (es.length : Int) - Int.toNat (i : Int)) (cap - Int.toNat (i : Int))) (es.drop i).length ((es.drop i).flatMap f) := by
  rw [Int.toNat_natCast, Int.toNat_natCast, if_neg (by omega)]
  rcases hs.2 with ⟨h0, _⟩ | ⟨b, o, cap', hv, hc⟩
  · omega
  · cases hv
    simp only [Option.map_some, addr_add]
    refine ⟨flat_len hf _, .inr ⟨b, o + i * sz, cap - i, by rw [List.length_drop], fun j u hu => ?_⟩⟩
    have : (es.flatMap f)[i * sz + j]? = some u := by
      rw [← flat_drop hf, List.getElem?_drop] at hu
      exact hu
    have := hc (i * sz + j) u this
    rw [Nat.add_assoc]
    exact this
end Go.Sx
namespace Go.Proofs.YtfpedcmempljlaaDoor
open Go Go.Sx Go.Sx.Or Go.Proofs.YtfpedcmempljlaaDoor.Sx Go.Sort

theorem FO.form {h : Hp} {base : Nat} {v : Value} {L : List Ft} (ho : FO h base v L) : ∃ a cap, v = .slice a L.length cap ∧ L.length ≤ cap := by
  rcases ho.2 with ⟨rfl, hn⟩ | ⟨g, o, cap, cur, rfl, hb, hg, hnc, _⟩
  · exact ⟨none, 0, by rw [hn], by omega⟩
  · exact ⟨some ⟨g, o, none⟩, cap, rfl, hnc⟩
theorem zero_addr (a : Option Addr) (cap : Nat) : (if cap = Int.toNat ((0 : Nat) : Int) then a else Option.map (fun y => Addr.add y (Int.toNat ((0 : Nat) : Int) * 2)) a) = a := by
  have hz : Int.toNat ((0 : Nat) : Int) = 0 := rfl
  rw [hz, Nat.zero_mul]
  split
  · rfl
  · cases a with
    | none => rfl
    | some y => simp [Addr.add]
/-- what is behind a place is cleared, and cut off -/
theorem FO.cut {h : Hp} {base cap : Nat} {a : Option Addr} {L : List Ft} (ho : FO h base (.slice a L.length cap) L) {i : Nat} (hi : i ≤ L.length) {K : Value → Hp → Prop}
    (hk : ∀ h', FO h' base (.slice a i cap) (L.take i) → Keep (fun k => (Value.slice a L.length cap).ownBlock = some k) h h' → K (.tuple #[]) h') :
    clearK Tryd.prog 22 h (.slice (if cap = Int.toNat (i : Int) then a else Option.map (fun y => Addr.add y (Int.toNat (i : Int) * 2)) a) (Int.toNat (L.length : Int) - Int.toNat (i : Int)) (cap - Int.toNat (i : Int))) K := by
  have hz : clearK Tryd.prog 22 h = fun x K => asSl x fun a n _ => match a with
      | none => K (.tuple #[]) h
      | some a => storeK h a (zeroRow (fl (0, 0)) n).toList fun h' => K (.tuple #[]) h' := by kernel_rfl
  have hl : (L.take i).length = i := by rw [List.length_take]; omega
  rw [hz]
  simp only [asSl_sl, Int.toNat_natCast]
  rcases ho.2 with ⟨hv, hn⟩ | ⟨g, o, cap', cur, hv, hb, hg, hnc, hcm, hcs, hx⟩
  · have he : L = [] := List.eq_nil_of_length_eq_zero hn
    subst he
    cases hv
    have hi0 : i = 0 := by simpa using hi
    subst hi0
    simp only [if_pos]
    exact hk h (by simpa using ho) (Keep.refl _ _)
  · cases hv
    have hzl : (zeroRow (fl (0, 0)) (L.length - i)).toList.length = (L.length - i) * 2 := by
      rw [zeroRow_flat fl_len, List.toList_toArray, flat_len fl_len, List.length_replicate]
    have hown : ∀ p, (p = o + i * 2 ∨ L.length - i = 0 ∧ p = o) → FO (h.setIfInBounds g (.cells (spl cur p (zeroRow (fl (0, 0)) (L.length - i)).toList) 26 (0, 0))) base (.slice (some ⟨g, o, none⟩) i cap) (L.take i) := fun p hp => by
      refine ⟨flat_len fl_len _, .inr ⟨g, o, cap, _, by rw [hl], hb, hp_set_same hg, by omega, hcm, ?_, ?_⟩⟩
      · rw [spl_size (by omega)]
        exact hcs
      · rw [hl, ← flat_take fl_len, ← hx, List.take_take, Nat.min_eq_left (by omega)]
        refine List.ext_getElem? fun k => ?_
        rw [List.getElem?_take, List.getElem?_take]
        by_cases hk : k < i * 2
        · rw [if_pos hk, if_pos hk, List.getElem?_drop, List.getElem?_drop]
          have e1 : ∀ c : Array Value, c.toList[o + k]? = c[o + k]? := fun c => Array.getElem?_toList
          rw [e1, e1, spl_get (by omega)]
          rcases hp with rfl | ⟨h0, rfl⟩
          · rw [if_pos (by omega)]
          · rw [hzl, h0]
            split
            · rfl
            · rw [if_neg (by omega)]
        · rw [if_neg hk, if_neg hk]
    have hst : ∀ p, (p = o + i * 2 ∨ L.length - i = 0 ∧ p = o) → storeK h ⟨g, p, none⟩ (zeroRow (fl (0, 0)) (L.length - i)).toList fun h' => K (.tuple #[]) h' := fun p hp =>
      storeK_of hg (by omega) (hk _ (hown p hp) (Keep.set (S := fun k => _ = some k) _ rfl))
    by_cases hci : cap = i
    · rw [if_pos hci]
      exact hst o (.inr ⟨by omega, rfl⟩)
    · rw [if_neg hci]
      simp only [Option.map_some, addr_add]
      exact hst _ (.inl rfl)

/-- two faults compared -/
def pEq (e e' : Ft) : Bool := (e.1 == (e'.1 : Int)) && ((e.2 == (e'.2 : Int)) && true)
theorem pEq_iff {e e' : Ft} : pEq e e' = true ↔ e = e' := by
  obtain ⟨a, b⟩ := e
  obtain ⟨c, d⟩ := e'
  simp [pEq]
theorem pEq_false {e e' : Ft} : pEq e e' = false ↔ e ≠ e' := by
  rw [← Bool.not_eq_true, pEq_iff]
theorem asP {e e' : Ft} {F : Bool → Prop} : (asO (fl e).toArray[0]? fun v => asO (fl e').toArray[0]? fun v' => asK .i64 v fun n => asK .i64 v' fun n' => asO (fl e).toArray[1]? fun u => asO (fl e').toArray[1]? fun u' => asK .i64 u fun m => asK .i64 u' fun m' => F ((n == (n' : Int)) && ((m == (m' : Int)) && true))) = F (pEq e e') := rfl

section
variable {ω : Amb}
set_option maxRecDepth 100000 in
theorem Compact_law {h : Hp} {base : Nat} {v : Value} {xs : List Ft} (ho : FO h base v xs) (hl : xs.length ≤ 1000000) (X : List PanicEntry → Hp → Prop) :
    CallX Tryd.prog ω n_slices_Compact_sl_api_Fault_api_Fault [v] h (fun r h' => FO h' base r (kp xs xs.length) ∧ Keep (fun k => v.ownBlock = some k) h h') X := by
  refine C_slices_Compact_sl_api_Fault_api_Fault ω _ h _ X ?_
  unfold W_slices_Compact_sl_api_Fault_api_Fault
  refine FAt.sl ho.at_ fun _ _ => ?_
  refine cond_c (fun hc => ?_) (fun hc => ?_)
  · have hl1 : xs.length ≤ 1 := by have := of_decide_eq_true hc; omega
    rw [kp_all _ (Nat.le_refl _) fun j h1 h2 => by omega, List.take_length]
    exact ⟨ho, Keep.refl _ _⟩
  have hl2 : 2 ≤ xs.length := by have := of_decide_eq_false hc; omega
  obtain ⟨a, cap, hv, hcap⟩ := ho.form
  refine ⟨fun i h' => h' = h ∧ ∃ k : Nat, i = .int .i64 k ∧ 1 ≤ k ∧ k ≤ xs.length ∧ ∀ j, 0 < j → j < k → xs[j]? ≠ xs[j - 1]?, fun i _ => match i with | .int _ k => xs.length - k.toNat | _ => 0, ⟨rfl, 1, rfl, by omega, by omega, fun j h1 h2 => by omega⟩, ?_⟩
  rintro _ _ _ ⟨hh, k, rfl, hk1, hk, hne⟩
  rw [hh]
  refine FAt.sl ho.at_ fun _ _ => ?_
  rw [asK_int]
  refine cond_c (fun hc => ?_) (fun hc => ?_)
  rotate_left
  · have hke : k = xs.length := by have := of_decide_eq_false hc; omega
    subst hke
    rw [kp_all _ (Nat.le_refl _) hne, List.take_length]
    exact ⟨ho, Keep.refl _ _⟩
  have hlt : k < xs.length := by have := of_decide_eq_true hc; omega
  have hx := List.getElem?_eq_getElem hlt
  have hx1 : xs[k - 1]? = some xs[k - 1] := List.getElem?_eq_getElem (by omega)
  refine SlAt.rdS ho.at_ fl_len hx ?_
  rw [asK_int]
  have hw1 : IntKind.wrap .i64 ((k : Int) - 1) = ((k - 1 : Nat) : Int) := by rw [i64_in (by omega) (by omega)]; omega
  rw [hw1]
  refine SlAt.rdS ho.at_ fl_len hx1 ?_
  show cond (pEq xs[k] xs[k - 1]) _ _
  refine cond_c (fun hc => ?_) (fun hc => ?_)
  rotate_left
  · have hnn := pEq_false.1 hc
    rw [asK_int, i64_in (by omega) (by omega)]
    refine ⟨⟨rfl, k + 1, by simp, by omega, by omega, fun j h1 h2 => ?_⟩, by simp; omega⟩
    by_cases hjk : j = k
    · subst hjk
      rw [hx, hx1]
      simpa using hnn
    · exact hne j h1 (by omega)
  have heq : xs[k] = xs[k - 1] := pEq_iff.1 hc
  have hkp : kp xs (k + 1) = xs.take k := by
    rw [kp, if_neg, List.append_nil]
    · exact kp_all k (by omega) hne
    · rw [not_or, Classical.not_not, hx, hx1, heq]
      exact ⟨by omega, rfl⟩
  subst hv
  rw [asSl_sl, asI_int]
  refine ⟨by omega, by omega, by omega, ?_⟩
  refine ⟨fun kw k2 h' => ∃ (q : Nat) (ys : List Ft), k2 = .int .i64 q ∧ 1 ≤ q ∧ k + q ≤ xs.length ∧ kw = .int .i64 ((kp xs (k + q)).length : Nat) ∧ ys.length = xs.length ∧ FO h' base (.slice a xs.length cap) ys ∧ ys.take (kp xs (k + q)).length = kp xs (k + q) ∧ ys.drop (k + q - 1) = xs.drop (k + q - 1) ∧ (kp xs (k + q)).length ≤ k + q - 1 ∧ Keep (fun b => (Value.slice a xs.length cap).ownBlock = some b) h h',
    fun _ k2 _ => match k2 with | .int _ q => xs.length - q.toNat | _ => 0, ⟨1, xs, rfl, by omega, by omega, ?_, rfl, ho, ?_, rfl, ?_, Keep.refl _ _⟩, ?_⟩
  · rw [hkp, List.length_take, Nat.min_eq_left (by omega)]
  · rw [hkp, List.length_take, Nat.min_eq_left (by omega)]
  · rw [hkp, List.length_take]
    omega
  rintro _ _ _ h3 ⟨q, ys, rfl, hq1, hq, rfl, hyl, ho3, ht3, hd3, hle3, k3⟩
  have hio3 : FO h3 base (.slice a ys.length cap) ys := by rw [hyl]; exact ho3
  rw [asK_int]
  refine cond_c (fun hc => ?_) (fun hc => ?_)
  · have hlt3 : k + q < xs.length := by
      have := of_decide_eq_true hc
      rw [Int.toNat_natCast, Int.toNat_natCast] at this
      omega
    have hz := List.getElem?_eq_getElem hlt3
    have hz1 : xs[k + q - 1]? = some xs[k + q - 1] := List.getElem?_eq_getElem (by omega)
    have hyz : ys[k + q]? = some xs[k + q] := by
      have := congrArg (fun l => l[1]?) hd3
      simp only [List.getElem?_drop, show k + q - 1 + 1 = k + q by omega] at this
      rw [this, hz]
    have hyz1 : ys[k + q - 1]? = some xs[k + q - 1] := by
      have := congrArg (fun l => l[0]?) hd3
      simp only [List.getElem?_drop, Nat.add_zero] at this
      rw [this, hz1]
    have hkq := kp_len xs (k + q)
    refine ⟨fun kw h' => ∃ ys : List Ft, kw = .int .i64 ((kp xs (k + (q + 1))).length : Nat) ∧ ys.length = xs.length ∧ FO h' base (.slice a xs.length cap) ys ∧ ys.take (kp xs (k + (q + 1))).length = kp xs (k + (q + 1)) ∧ ys.drop (k + q) = xs.drop (k + q) ∧ (kp xs (k + (q + 1))).length ≤ k + q ∧ Keep (fun b => (Value.slice a xs.length cap).ownBlock = some b) h h', ?_, ?_⟩
    rotate_left
    · rintro _ _ h4 ⟨ys4, rfl, hyl4, ho4, ht4, hd4, hle4, k4⟩
      rw [asK_int, i64_in (by omega) (by omega)]
      exact ⟨⟨q + 1, ys4, by simp, by omega, by omega, rfl, hyl4, ho4, ht4, hd4, hle4, k4⟩, by simp; omega⟩
    have hsuf := SlAt.sufS (i := k) hio3.at_ fl_len (by rw [hyl]; exact hcap) (by omega)
    rw [hyl] at hsuf
    refine SlAt.rdS hsuf fl_len (i := q) (e := xs[k + q]) (by rw [List.getElem?_drop]; exact hyz) ?_
    rw [asK_int]
    have hw2 : IntKind.wrap .i64 ((q : Int) - 1) = ((q - 1 : Nat) : Int) := by rw [i64_in (by omega) (by omega)]; omega
    rw [hw2]
    refine SlAt.rdS hsuf fl_len (i := q - 1) (e := xs[k + q - 1]) (by rw [List.getElem?_drop, show k + (q - 1) = k + q - 1 by omega]; exact hyz1) ?_
    show ∃ J63 : Value → Hp → Prop, (cond (!(pEq xs[k + q] xs[k + q - 1])) _ _) ∧ _
    refine ⟨fun kw h' => ∃ ys : List Ft, kw = .int .i64 ((kp xs (k + (q + 1))).length : Nat) ∧ ys.length = xs.length ∧ FO h' base (.slice a xs.length cap) ys ∧ ys.take (kp xs (k + (q + 1))).length = kp xs (k + (q + 1)) ∧ ys.drop (k + q) = xs.drop (k + q) ∧ (kp xs (k + (q + 1))).length ≤ k + q ∧ Keep (fun b => (Value.slice a xs.length cap).ownBlock = some b) h h', ?_, fun _ _ _ hj => hj⟩
    have hstep : kp xs (k + (q + 1)) = kp xs (k + q) ++ (if k + q = 0 ∨ xs[k + q]? ≠ xs[k + q - 1]? then (xs[k + q]?).toList else []) := rfl
    have hdd : ys.drop (k + q) = xs.drop (k + q) := by
      have := congrArg (List.drop 1) hd3
      rw [List.drop_drop, List.drop_drop, show k + q - 1 + 1 = k + q by omega] at this
      exact this
    refine cond_c (fun hc => ?_) (fun hc => ?_)
    · have hnn : xs[k + q] ≠ xs[k + q - 1] := pEq_false.1 (by simpa using hc)
      have hkn : kp xs (k + (q + 1)) = kp xs (k + q) ++ [xs[k + q]] := by
        rw [hstep, if_pos]
        · rw [hz]; rfl
        · rw [hz, hz1]
          exact .inr fun e => hnn (Option.some.inj e)
      refine SlAt.rdS hsuf fl_len (i := q) (e := xs[k + q]) (by rw [List.getElem?_drop]; exact hyz) ?_
      have hst := OwnH.storeS hio3 fl_len (i := (kp xs (k + q)).length) (by omega) (e' := xs[k + q]) (fl_one _) (K := fun h76 => asK .i64 (Value.int .i64 ((kp xs (k + q)).length : Nat)) fun n77 => (fun (kw : Value) (h' : Hp) => ∃ ys : List Ft, kw = .int .i64 ((kp xs (k + (q + 1))).length : Nat) ∧ ys.length = xs.length ∧ FO h' base (.slice a xs.length cap) ys ∧ ys.take (kp xs (k + (q + 1))).length = kp xs (k + (q + 1)) ∧ ys.drop (k + q) = xs.drop (k + q) ∧ (kp xs (k + (q + 1))).length ≤ k + q ∧ Keep (fun b => (Value.slice a xs.length cap).ownBlock = some b) h h') (Value.int .i64 (IntKind.wrap .i64 (n77 + 1))) h76) fun h4 ho4 k4 => by
        rw [asK_int, i64_in (by omega) (by omega)]
        rw [hkn]
        rw [hyl] at k4
        have hl4 : (ys.set (kp xs (k + q)).length xs[k + q]).length = xs.length := by rw [List.length_set]; exact hyl
        refine ⟨ys.set (kp xs (k + q)).length xs[k + q], by simp, hl4, ?_, ?_, ?_, ?_, k3.trans k4⟩
        · rw [hyl] at ho4
          exact ho4
        · rw [List.length_append, List.length_singleton, List.take_succ_eq_append_getElem (by simp; omega), List.getElem_set_self, List.take_set_of_le (Nat.le_refl _), ht3]
        · rw [List.drop_set, if_pos (by omega)]
          exact hdd
        · simp
          omega
      rw [hyl] at hst
      exact hst
    · have hnn : xs[k + q] = xs[k + q - 1] := pEq_iff.1 (by simpa using hc)
      have hkn : kp xs (k + (q + 1)) = kp xs (k + q) := by
        rw [hstep, if_neg, List.append_nil]
        rw [not_or, Classical.not_not, hz, hz1, hnn]
        exact ⟨by omega, rfl⟩
      rw [hkn]
      exact ⟨ys, rfl, hyl, ho3, ht3, hdd, by omega, k3⟩
  · have hge : k + q = xs.length := by
      have := of_decide_eq_false hc
      rw [Int.toNat_natCast, Int.toNat_natCast] at this
      omega
    rw [hge] at ht3 hle3 ⊢
    have hkl := kp_len xs xs.length
    rw [asSl_sl, asI_int]
    refine ⟨by omega, by omega, by omega, ?_⟩
    have hclr := FO.cut (i := (kp xs xs.length).length) hio3 (by omega) (K := fun w h' => asSl (.slice a xs.length cap) fun a43 l44 c45 => asI (Value.int .i64 ((kp xs xs.length).length : Nat)) fun n46 => 0 ≤ (((0 : Nat) : Int) : Int) ∧ (((0 : Nat) : Int) : Int) ≤ n46 ∧ n46 ≤ (c45 : Int) ∧ (fun r h' => FO h' base r (kp xs xs.length) ∧ Keep (fun k => (Value.slice a xs.length cap).ownBlock = some k) h h') (.slice (if c45 = Int.toNat ((0 : Nat) : Int) then a43 else Option.map (fun y => Addr.add y (Int.toNat ((0 : Nat) : Int) * 2)) a43) (Int.toNat n46 - Int.toNat ((0 : Nat) : Int)) (c45 - Int.toNat ((0 : Nat) : Int))) h') fun h4 ho4 k4 => by
        rw [asSl_sl, asI_int, zero_addr]
        refine ⟨by omega, by omega, by omega, ?_⟩
        rw [hyl] at k4
        rw [ht3] at ho4
        exact ⟨ho4, k3.trans k4⟩
    rw [hyl] at hclr
    exact hclr
end
end Go.Proofs.YtfpedcmempljlaaDoor
