/- Are two programs the same: expressions, statements. -/
import Derived.Test.YtaehnpilebkcoaaDoorRn6
namespace Go.Proofs.YtaehnpilebkcoaaDoor
open Go Go.Sx Go.Sx.Tk Go.Sx.Rn Go.Proofs.YtaehnpilebkcoaaDoor.Sx

theorem ex_eq_iff {x y : Ex} : x = y ↔ x.op = y.op ∧ x.nm = y.nm ∧ x.n = y.n ∧ x.l = y.l := by
  cases x; cases y
  simp [Ex.op, Ex.nm, Ex.n, Ex.l]
theorem eqB (a b : ByteArray) : (a.toList == b.toList) = decide (a = b) := by
  rw [eqS, Bool.eq_iff_iff]
  simp only [decide_eq_true_eq]
  exact ⟨bytes_ext, fun h => by rw [h]⟩
theorem take_ne {α : Type} {l m : List α} {k : Nat} {x y : α} (hx : l[k]? = some x) (hy : m[k]? = some y) (hne : x ≠ y) : l ≠ m := fun h => by
  rw [h, hy] at hx
  exact hne (Option.some.inj hx).symm
section
variable {ω : Amb}
theorem sameE_law : ∀ (N : Nat) (l : List Ex), exsN l < N → ∀ (m : List Ex) (h : Hp) (va vb : Value), ExS h va l → ExS h vb m → ∀ (X : List PanicEntry → Hp → Prop),
    CallX Tryd.prog ω n_pipewrightref_sameExprs [va, vb] h (fun r h' => (∃ b : Bool, r = .bool b ∧ (b = true ↔ l = m)) ∧ Keep (fun _ => False) h h') X := by
  intro N
  induction N with
  | zero => exact fun l hN => absurd hN (Nat.not_lt_zero _)
  | succ N ih =>
    intro l hN m h va vb ha hb X
    refine C_pipewrightref_sameExprs ω _ _ h _ X ?_
    unfold W_pipewrightref_sameExprs
    have hmax := ha.max
    refine ha.sl fun _ _ => ?_
    refine hb.sl fun _ _ => ?_
    refine cond_c (fun hc => ?_) (fun hc => ?_)
    · have hne := bne_iff_ne.1 hc
      refine ⟨⟨false, rfl, by simp; exact fun h => hne (by rw [h])⟩, Keep.refl _ _⟩
    have hlen : l.length = m.length := by
      have : (l.length : Int) = m.length := by simpa using hc
      omega
    refine ⟨fun t h' => ∃ k : Nat, t = .int .i64 k ∧ k ≤ l.length ∧ l.take k = m.take k ∧ Keep (fun _ => False) h h', fun t _ => match t with | .int _ k => l.length - k.toNat | _ => 0,
      ⟨0, rfl, by omega, rfl, Keep.refl _ _⟩, ?_⟩
    rintro _ _ h3 ⟨k, rfl, hk, heq, k3⟩
    have ha3 := ha.keep k3
    have hb3 := hb.keep k3
    refine ha3.sl fun _ _ => ?_
    rw [asK_int]
    refine cond_c (fun hc => ?_) (fun hc => ?_)
    rotate_left
    · have hc := of_decide_eq_false hc
      obtain rfl : k = l.length := by omega
      rw [List.take_length, List.take_of_length_le (by omega)] at heq
      exact ⟨⟨true, rfl, by simp [heq]⟩, k3⟩
    have hkl : k < l.length := by
      have := of_decide_eq_true hc
      omega
    have hx := List.getElem?_eq_getElem hkl
    have hy := List.getElem?_eq_getElem (show k < m.length by omega)
    have hmem : l[k] ∈ l := List.getElem_mem hkl
    generalize l[k] = x at hx hmem
    generalize m[k] = y at hy
    have hxn := exsN_mem hmem
    have hxe := exN_eq x
    refine ⟨fun v h' => (∃ b : Bool, v = .bool b ∧ (b = true ↔ x ≠ y)) ∧ Keep (fun _ => False) h3 h', ?_, ?_⟩
    · refine ha3.rdO hx (o := 0) fun _ _ => ⟨_, rfl, ?_⟩
      refine hb3.rdO hy (o := 0) fun _ _ => ⟨_, rfl, ?_⟩
      rw [asK_int, asK_int]
      refine cond_c (fun hc => ?_) (fun hc => ?_)
      · have := bne_iff_ne.1 hc
        exact ⟨⟨true, rfl, by simp; exact fun h => this (by rw [h])⟩, Keep.refl _ _⟩
      have e1 : x.op = y.op := by simpa using hc
      refine ha3.rdO hx (o := 1) fun _ _ => ⟨_, rfl, ?_⟩
      refine hb3.rdO hy (o := 1) fun _ _ => ⟨_, rfl, ?_⟩
      rw [asS_str, asS_str, eqB]
      refine cond_c (fun hc => ?_) (fun hc => ?_)
      · have : x.nm ≠ y.nm := by simpa using hc
        exact ⟨⟨true, rfl, by simp; exact fun h => this (by rw [h])⟩, Keep.refl _ _⟩
      have e2 : x.nm = y.nm := by simpa using hc
      refine ha3.rdO hx (o := 2) fun _ _ => ⟨_, rfl, ?_⟩
      refine hb3.rdO hy (o := 2) fun _ _ => ⟨_, rfl, ?_⟩
      rw [asK_int, asK_int]
      refine cond_c (fun hc => ?_) (fun hc => ?_)
      · have := bne_iff_ne.1 hc
        exact ⟨⟨true, rfl, by simp; exact fun h => this (by rw [h])⟩, Keep.refl _ _⟩
      have e3 : x.n = y.n := by simpa using hc
      refine ha3.rdO hx (o := 3) fun wa hwa => ⟨_, rfl, ?_⟩
      refine hb3.rdO hy (o := 3) fun wb hwb => ⟨_, rfl, ?_⟩
      refine CallX.use (ih x.l (by omega) y.l h3 wa wb hwa hwb) ?_
      rintro _ h4 ⟨⟨b, rfl, hbb⟩, k4⟩
      rw [asB_bool]
      refine ⟨⟨!b, rfl, ?_⟩, k4⟩
      rw [Ne, ex_eq_iff, Bool.not_eq_true', ← Bool.not_eq_true, hbb]
      simp [e1, e2, e3]
    · rintro _ _ h4 ⟨⟨b, rfl, hbb⟩, k4⟩
      rw [asB_bool]
      refine cond_c (fun hc => ?_) (fun hc => ?_)
      · exact ⟨⟨false, rfl, by simp; exact take_ne hx hy (hbb.1 hc)⟩, k3.trans k4⟩
      · have he : x = y := Classical.byContradiction fun hn => by
          rw [hbb.2 hn] at hc
          cases hc
        rw [asK_int, i64_in (by omega) (by omega)]
        exact ⟨⟨k + 1, by simp, by omega, by rw [tk_snoc hx, tk_snoc hy, heq, he], k3.trans k4⟩, by simp; omega⟩
end
end Go.Proofs.YtaehnpilebkcoaaDoor

namespace Go.Proofs.YtaehnpilebkcoaaDoor
open Go Go.Sx Go.Sx.Tk Go.Sx.Rn Go.Proofs.YtaehnpilebkcoaaDoor.Sx

mutual
def stZ (pl : Bool) : St → St
  | .mk d at_ a b t n e body els => .mk d (if pl then at_ else 0) a b t n e (stsZ pl body) (stsZ pl els)
def stsZ (pl : Bool) : List St → List St
  | [] => []
  | x :: r => stZ pl x :: stsZ pl r
end
theorem stsZ_map (pl : Bool) : ∀ l : List St, stsZ pl l = l.map (stZ pl)
  | [] => rfl
  | x :: r => by simp only [stsZ, List.map_cons, stsZ_map pl r]
theorem stZ_iff {pl : Bool} {x y : St} : stZ pl x = stZ pl y ↔ x.d = y.d ∧ x.a = y.a ∧ x.b = y.b ∧ x.t = y.t ∧ x.n = y.n ∧ (pl = true → x.at_ = y.at_) ∧ x.e = y.e ∧ stsZ pl x.body = stsZ pl y.body ∧ stsZ pl x.els = stsZ pl y.els := by
  cases x; cases y
  simp only [stZ, St.mk.injEq, St.d, St.a, St.b, St.t, St.n, St.at_, St.e, St.body, St.els]
  constructor
  · rintro ⟨h1, h2, h3, h4, h5, h6, h7, h8, h9⟩
    exact ⟨h1, h3, h4, h5, h6, fun hp => by rw [hp] at h2; exact h2, h7, h8, h9⟩
  · rintro ⟨h1, h3, h4, h5, h6, h2, h7, h8, h9⟩
    refine ⟨h1, ?_, h3, h4, h5, h6, h7, h8, h9⟩
    cases pl with
    | false => rfl
    | true => exact h2 rfl
theorem rdCaS {h0 h : Hp} {v : Value} {l : List St} (hs : StS h0 v l) (k : Keep (fun _ => False) h0 h) {i : Nat} {x : St} (hx : l[i]? = some x) {K : Addr → List Value → Prop}
    (hk : ∀ a ve vb vl, ExS h0 ve x.e → StS h0 vb x.body → StS h0 vl x.els → cellsH h (Addr.add a (Int.toNat (i : Int) * 9)) 9 (stC x ve vb vl) → K a (stC x ve vb vl)) :
    asSl1 v fun a l _ => 0 ≤ (i : Int) ∧ (i : Int) < (l : Int) ∧ ∃ C, cellsH h (Addr.add a (Int.toNat (i : Int) * 9)) 9 C ∧ K a C := by
  obtain ⟨us, ve, vb, vl, h1, h2, h3, h4, h5⟩ := hs.at_ hx
  have h1' := h1.keep k
  have hi := (List.getElem?_eq_some_iff.1 hx).1
  rcases h1'.2 with ⟨h0', _⟩ | ⟨b, o, cap, rfl, hc⟩
  · omega
  · rw [asSl1_sl]
    have hcc : cellsH h (Addr.add ⟨b, o, none⟩ (Int.toNat (i : Int) * 9)) 9 (stC x ve vb vl) := by
      refine ⟨rfl, fun j u hu => ?_⟩
      rw [addr_add, addr_add, Int.toNat_natCast, Nat.add_assoc]
      rw [← h2, List.getElem?_take] at hu
      split at hu
      · rw [List.getElem?_drop] at hu
        exact hc _ u hu
      · cases hu
    exact ⟨by omega, by omega, _, hcc, hk _ ve vb vl h3 h4 h5 hcc⟩
def RestS (ω : Amb) (places_p i_8 : Value) (h10 : Hp) (R : Value → Hp → Prop) (X : List PanicEntry → Hp → Prop) (I6 : Value → Hp → Prop) (μ7 : Value → Hp → Nat) (A B : Addr) (h26 : Hp) : Prop :=
 ∃ β27 : Bool,
 (∃ v29, cellH h26 (Addr.add A 0) = some v29 ∧
 ∃ v30, cellH h26 (Addr.add B 0) = some v30 ∧
 asK .i64 v29 fun n31 => asK .i64 v30 fun n32 => cond (n31 != (n32 : Int))
 (((.bool true) : Value) = .bool β27 ∧ h26 = h26)
 (∃ v33, cellH h26 (Addr.add A 2) = some v33 ∧
 ∃ v34, cellH h26 (Addr.add B 2) = some v34 ∧
 asS v33 fun s35 => asS v34 fun s36 => cond (!(ByteArray.toList s35 == ByteArray.toList s36))
 (((.bool true) : Value) = .bool β27 ∧ h26 = h26)
 (∃ v37, cellH h26 (Addr.add A 3) = some v37 ∧
 ∃ v38, cellH h26 (Addr.add B 3) = some v38 ∧
 asS v37 fun s39 => asS v38 fun s40 => cond (!(ByteArray.toList s39 == ByteArray.toList s40))
 (((.bool true) : Value) = .bool β27 ∧ h26 = h26)
 (∃ v41, cellH h26 (Addr.add A 4) = some v41 ∧
 ∃ v42, cellH h26 (Addr.add B 4) = some v42 ∧
 asS v41 fun s43 => asS v42 fun s44 => cond (!(ByteArray.toList s43 == ByteArray.toList s44))
 (((.bool true) : Value) = .bool β27 ∧ h26 = h26)
 (∃ v45, cellH h26 (Addr.add A 5) = some v45 ∧
 ∃ v46, cellH h26 (Addr.add B 5) = some v46 ∧
 asK .i64 v45 fun n47 => asK .i64 v46 fun n48 => cond (n47 != (n48 : Int))
 (((.bool true) : Value) = .bool β27 ∧ h26 = h26)
 (asB places_p fun b49 => cond b49
 (∃ v50, cellH h26 (Addr.add A 1) = some v50 ∧
 ∃ v51, cellH h26 (Addr.add B 1) = some v51 ∧
 asK .i64 v50 fun n52 => asK .i64 v51 fun n53 => ((.bool (n52 != (n53 : Int))) : Value) = .bool β27 ∧ h26 = h26)
 (((.bool false) : Value) = .bool β27 ∧ h26 = h26))))))) ∧
 ∀ d28 : Nat → Value,
 cond β27
 (R (.bool false) h26)
 (∃ J54 : Value → Hp → Prop,
 (∃ v58, cellH h26 (Addr.add A 6) = some v58 ∧
 ∃ v59, cellH h26 (Addr.add B 6) = some v59 ∧
 CallX Tryd.prog ω 69 [v58, v59] h26 (fun r60 h61 =>
 asB r60 fun b62 => cond (!b62)
 (J54 (.bool true) h61)
 (∃ v63, cellH h61 (Addr.add A 7) = some v63 ∧
 ∃ v64, cellH h61 (Addr.add B 7) = some v64 ∧
 CallX Tryd.prog ω 33 [v63, v64, places_p] h61 (fun r65 h66 =>
 asB r65 fun b67 => cond (!b67)
 (J54 (.bool true) h66)
 (∃ v68, cellH h66 (Addr.add A 8) = some v68 ∧
 ∃ v69, cellH h66 (Addr.add B 8) = some v69 ∧
 CallX Tryd.prog ω 33 [v68, v69, places_p] h66 (fun r70 h71 =>
 asB r70 fun b72 => J54 (.bool (!b72)) h71) X)) X)) X) ∧
 ∀ t95_55 (d56 : Nat → Value) (h57 : Hp), J54 t95_55 h57 →
 asB t95_55 fun b73 => cond b73
 (R (.bool false) h57)
 (asK .i64 i_8 fun n74 => I6 (.int .i64 (IntKind.wrap .i64 (n74 + 1))) h57 ∧ μ7 (.int .i64 (IntKind.wrap .i64 (n74 + 1))) h57 < μ7 i_8 h10))
section
variable {ω : Amb}
def SameSL (ω : Amb) (pl : Bool) (l : List St) : Prop := ∀ (m : List St) (h : Hp) (va vb : Value), StS h va l → StS h vb m → ∀ (X : List PanicEntry → Hp → Prop),
  CallX Tryd.prog ω n_pipewrightref_sameStmts [va, vb, .bool pl] h (fun r h' => (∃ b : Bool, r = .bool b ∧ (b = true ↔ stsZ pl l = stsZ pl m)) ∧ Keep (fun _ => False) h h') X
/-- two statements, laid at two places -/
theorem restS (pl : Bool) (x y : St) (hB : SameSL ω pl x.body) (hE : SameSL ω pl x.els) (hh h10 h26 : Hp) (LA LB : Nat) (ve vb vl we wb wl : Value)
    (hA : h26[LA]? = some (.cells (stC x ve vb vl).toArray 65 (0, 0))) (hBk : h26[LB]? = some (.cells (stC y we wb wl).toArray 65 (0, 0)))
    (a1 : ExS h26 ve x.e) (a2 : StS h26 vb x.body) (a3 : StS h26 vl x.els) (b1 : ExS h26 we y.e) (b2 : StS h26 wb y.body) (b3 : StS h26 wl y.els) (kh : Keep (fun _ => False) hh h26)
    {R : Value → Hp → Prop} {X : List PanicEntry → Hp → Prop} {I6 : Value → Hp → Prop} {μ7 : Value → Hp → Nat} (k : Nat) (hk0 : (k : Int) + 1 ≤ 9223372036854775807)
    (hne : ∀ h', Keep (fun _ => False) hh h' → stZ pl x ≠ stZ pl y → R (.bool false) h') (heq : ∀ h', Keep (fun _ => False) hh h' → stZ pl x = stZ pl y → I6 (.int .i64 ((k : Int) + 1)) h' ∧ μ7 (.int .i64 ((k : Int) + 1)) h' < μ7 (.int .i64 k) h10) :
    RestS ω (.bool pl) (.int .i64 k) h10 R X I6 μ7 ⟨LA, 0, none⟩ ⟨LB, 0, none⟩ h26 := by
  unfold RestS
  refine ⟨!decide (x.d = y.d ∧ x.a = y.a ∧ x.b = y.b ∧ x.t = y.t ∧ x.n = y.n ∧ (pl = true → x.at_ = y.at_)), ?_, fun _ => cond_c (fun hc => ?_) (fun hc => ?_)⟩
  · refine lx hA (j := 0) rfl ?_
    refine lx hBk (j := 0) rfl ?_
    rw [asK_int, asK_int]
    refine cond_c (fun hc => ?_) (fun hc => ?_)
    · have := bne_iff_ne.1 hc
      rw [decide_eq_false (fun h => this h.1)]
      exact ⟨rfl, rfl⟩
    have e1 : x.d = y.d := by simpa using hc
    refine lx hA (j := 2) rfl ?_
    refine lx hBk (j := 2) rfl ?_
    rw [asS_str, asS_str, eqB]
    refine cond_c (fun hc => ?_) (fun hc => ?_)
    · have : x.a ≠ y.a := by simpa using hc
      rw [decide_eq_false (fun h => this h.2.1)]
      exact ⟨rfl, rfl⟩
    have e2 : x.a = y.a := by simpa using hc
    refine lx hA (j := 3) rfl ?_
    refine lx hBk (j := 3) rfl ?_
    rw [asS_str, asS_str, eqB]
    refine cond_c (fun hc => ?_) (fun hc => ?_)
    · have : x.b ≠ y.b := by simpa using hc
      rw [decide_eq_false (fun h => this h.2.2.1)]
      exact ⟨rfl, rfl⟩
    have e3 : x.b = y.b := by simpa using hc
    refine lx hA (j := 4) rfl ?_
    refine lx hBk (j := 4) rfl ?_
    rw [asS_str, asS_str, eqB]
    refine cond_c (fun hc => ?_) (fun hc => ?_)
    · have : x.t ≠ y.t := by simpa using hc
      rw [decide_eq_false (fun h => this h.2.2.2.1)]
      exact ⟨rfl, rfl⟩
    have e4 : x.t = y.t := by simpa using hc
    refine lx hA (j := 5) rfl ?_
    refine lx hBk (j := 5) rfl ?_
    rw [asK_int, asK_int]
    refine cond_c (fun hc => ?_) (fun hc => ?_)
    · have := bne_iff_ne.1 hc
      rw [decide_eq_false (fun h => this h.2.2.2.2.1)]
      exact ⟨rfl, rfl⟩
    have e5 : x.n = y.n := by simpa using hc
    rw [asB_bool]
    refine cond_c (fun hc => ?_) (fun hc => ?_)
    · refine lx hA (j := 1) rfl ?_
      refine lx hBk (j := 1) rfl ?_
      rw [asK_int, asK_int]
      refine ⟨?_, rfl⟩
      congr 1
      rw [Bool.eq_iff_iff]
      simp [e1, e2, e3, e4, e5, hc]
    · refine ⟨?_, rfl⟩
      congr 1
      rw [Bool.eq_iff_iff]
      simp [e1, e2, e3, e4, e5, hc]
  · refine hne _ kh fun h => (show ¬ (x.d = y.d ∧ x.a = y.a ∧ x.b = y.b ∧ x.t = y.t ∧ x.n = y.n ∧ (pl = true → x.at_ = y.at_)) from by rw [Bool.not_eq_true'] at hc; exact of_decide_eq_false hc) ?_
    obtain ⟨c1, c2, c3, c4, c5, c6, _⟩ := stZ_iff.1 h
    exact ⟨c1, c2, c3, c4, c5, c6⟩
  have hh1 : x.d = y.d ∧ x.a = y.a ∧ x.b = y.b ∧ x.t = y.t ∧ x.n = y.n ∧ (pl = true → x.at_ = y.at_) := by simpa using hc
  refine ⟨fun v h' => (∃ b : Bool, v = .bool b ∧ (b = true ↔ stZ pl x ≠ stZ pl y)) ∧ Keep (fun _ => False) h26 h', ?_, ?_⟩
  · refine lx hA (j := 6) rfl ?_
    refine lx hBk (j := 6) rfl ?_
    refine CallX.use (sameE_law _ x.e (Nat.lt_succ_self _) y.e h26 ve we a1 b1) ?_
    rintro _ h27 ⟨⟨c, rfl, hc1⟩, k27⟩
    have hA27 := k27.get hA (by simp)
    have hB27 := k27.get hBk (by simp)
    rw [asB_bool]
    refine cond_c (fun hc => ?_) (fun hc => ?_)
    · have : ¬ x.e = y.e := fun h => by
        rw [hc1.2 h] at hc
        cases hc
      exact ⟨⟨true, rfl, by simp; exact fun h => this (stZ_iff.1 h).2.2.2.2.2.2.1⟩, k27⟩
    have e7 : x.e = y.e := hc1.1 (by simpa using hc)
    refine lx hA27 (j := 7) rfl ?_
    refine lx hB27 (j := 7) rfl ?_
    refine CallX.use (hB y.body h27 vb wb (a2.keep k27) (b2.keep k27)) ?_
    rintro _ h28 ⟨⟨c, rfl, hc2⟩, k28⟩
    have hA28 := k28.get hA27 (by simp)
    have hB28 := k28.get hB27 (by simp)
    rw [asB_bool]
    refine cond_c (fun hc => ?_) (fun hc => ?_)
    · have : ¬ stsZ pl x.body = stsZ pl y.body := fun h => by
        rw [hc2.2 h] at hc
        cases hc
      exact ⟨⟨true, rfl, by simp; exact fun h => this (stZ_iff.1 h).2.2.2.2.2.2.2.1⟩, k27.trans k28⟩
    have e8 := hc2.1 (by simpa using hc)
    refine lx hA28 (j := 8) rfl ?_
    refine lx hB28 (j := 8) rfl ?_
    refine CallX.use (hE y.els h28 vl wl (a3.keep (k27.trans k28)) (b3.keep (k27.trans k28))) ?_
    rintro _ h29 ⟨⟨c, rfl, hc3⟩, k29⟩
    rw [asB_bool]
    refine ⟨⟨!c, rfl, ?_⟩, (k27.trans k28).trans k29⟩
    constructor
    · intro h hall
      have : c = true := hc3.2 (stZ_iff.1 hall).2.2.2.2.2.2.2.2
      rw [this] at h
      cases h
    · intro hn
      cases c with
      | false => rfl
      | true => exact absurd (stZ_iff.2 ⟨hh1.1, hh1.2.1, hh1.2.2.1, hh1.2.2.2.1, hh1.2.2.2.2.1, hh1.2.2.2.2.2, e7, e8, hc3.1 rfl⟩) hn
  · rintro _ _ h27 ⟨⟨c, rfl, hcc⟩, k27⟩
    rw [asB_bool]
    refine cond_c (fun hc => ?_) (fun hc => ?_)
    · exact hne _ (kh.trans k27) (hcc.1 hc)
    · have he : stZ pl x = stZ pl y := Classical.byContradiction fun hn => by
        rw [hcc.2 hn] at hc
        cases hc
      rw [asK_int, i64_in (by omega) (by omega)]
      exact heq _ (kh.trans k27) he
end
end Go.Proofs.YtaehnpilebkcoaaDoor

namespace Go.Proofs.YtaehnpilebkcoaaDoor
open Go Go.Sx Go.Sx.Tk Go.Sx.Rn Go.Proofs.YtaehnpilebkcoaaDoor.Sx

/-- two blocks made; the first or the second is written -/
theorem two_at {h : Hp} {z : Array Value} {T : TypeId} : (Array.push (Array.push h (.cells z T (0, 0))) (.cells z T (0, 0)))[h.size]? = some (.cells z T (0, 0)) ∧ (Array.push (Array.push h (.cells z T (0, 0))) (.cells z T (0, 0)))[(Array.push h (.cells z T (0, 0))).size]? = some (.cells z T (0, 0)) ∧ (Array.push h (.cells z T (0, 0))).size = h.size + 1 :=
  ⟨hp_push_old hp_push_new, hp_push_new, by simp⟩
theorem two_k {h : Hp} (o o' : Obj) : Keep (fun _ => False) h (Array.push (Array.push h o) o') := (Keep.push (S := fun _ => False) h o).trans (Keep.push _ o')
theorem st_at {h : Hp} {L : Nat} {z : Array Value} {T : TypeId} {cs : List Value} {K : Hp → Prop} (hz : h[L]? = some (.cells z T (0, 0))) (hc : cs.length = z.size)
    (hk : ∀ h', Keep (fun k => k = L) h h' → h'[L]? = some (.cells cs.toArray T (0, 0)) → K h') : storeK h ⟨L, 0, none⟩ cs K := by
  refine storeK_of (o := 0) hz (by omega) ?_
  rw [spl_all hc]
  exact hk _ (Keep.set (S := fun k => k = L) _ rfl) (hp_set_same hz)
theorem stsZ_len (pl : Bool) (l : List St) : (stsZ pl l).length = l.length := by rw [stsZ_map, List.length_map]
theorem stsZ_get {pl : Bool} {l : List St} {k : Nat} {x : St} (h : l[k]? = some x) : (stsZ pl l)[k]? = some (stZ pl x) := by rw [stsZ_map, List.getElem?_map, h]; rfl
theorem stsZ_snoc (pl : Bool) (l : List St) (x : St) : stsZ pl (l ++ [x]) = stsZ pl l ++ [stZ pl x] := by rw [stsZ_map, stsZ_map, List.map_append]; rfl
section
variable {ω : Amb}
theorem sameS_law (pl : Bool) : ∀ (N : Nat) (l : List St), stsN l < N → SameSL ω pl l := by
  intro N
  induction N with
  | zero => exact fun l hN => absurd hN (Nat.not_lt_zero _)
  | succ N ih =>
    intro l hN m h va vb ha hb X
    refine C_pipewrightref_sameStmts ω _ _ _ h _ X ?_
    unfold W_pipewrightref_sameStmts
    have hmax := ha.max
    refine ha.sl fun _ _ => ?_
    refine hb.sl fun _ _ => ?_
    refine cond_c (fun hc => ?_) (fun hc => ?_)
    · have hne := bne_iff_ne.1 hc
      refine ⟨⟨false, rfl, by simp; exact fun h => hne (by rw [← stsZ_len pl l, h, stsZ_len])⟩, Keep.refl _ _⟩
    have hlen : l.length = m.length := by
      have : (l.length : Int) = m.length := by simpa using hc
      omega
    refine ⟨fun t h' => ∃ k : Nat, t = .int .i64 k ∧ k ≤ l.length ∧ stsZ pl (l.take k) = stsZ pl (m.take k) ∧ Keep (fun _ => False) h h', fun t _ => match t with | .int _ k => l.length - k.toNat | _ => 0,
      ⟨0, rfl, by omega, rfl, Keep.refl _ _⟩, ?_⟩
    rintro _ _ h3 ⟨k, rfl, hk, heq, k3⟩
    have ha3 := ha.keep k3
    have hb3 := hb.keep k3
    refine ha3.sl fun _ _ => ?_
    rw [asK_int]
    refine cond_c (fun hc => ?_) (fun hc => ?_)
    rotate_left
    · have hc := of_decide_eq_false hc
      obtain rfl : k = l.length := by omega
      rw [List.take_length, List.take_of_length_le (by omega)] at heq
      exact ⟨⟨true, rfl, by simp [heq]⟩, k3⟩
    have hkl : k < l.length := by
      have := of_decide_eq_true hc
      omega
    have hx := List.getElem?_eq_getElem hkl
    have hy := List.getElem?_eq_getElem (show k < m.length by omega)
    have hmem : l[k] ∈ l := List.getElem_mem hkl
    generalize l[k] = x at hx hmem
    generalize m[k] = y at hy
    have hxn := stsN_mem hmem
    have hxe := stN_eq x
    refine rdCaS ha3 (Keep.refl _ _) hx fun aa ve vb' vl he hbd hel hca => ?_
    refine rdCaS hb3 (Keep.refl _ _) hy fun ab we wb' wl he' hbd' hel' hcb => ?_
    have kz1 := Keep.push (S := fun _ => False) h3 (.cells #[(.int .i64 0), (.int .i64 0), (.string ⟨#[]⟩), (.string ⟨#[]⟩), (.string ⟨#[]⟩), (.int .i64 0), (.slice none 0 0), (.slice none 0 0), (.slice none 0 0)] 65 (0, 0))
    have kz2 := kz1.trans (Keep.push (S := fun _ => False) (Array.push h3 (.cells #[(.int .i64 0), (.int .i64 0), (.string ⟨#[]⟩), (.string ⟨#[]⟩), (.string ⟨#[]⟩), (.int .i64 0), (.slice none 0 0), (.slice none 0 0), (.slice none 0 0)] 65 (0, 0))) (.cells #[(.int .i64 0), (.int .i64 0), (.string ⟨#[]⟩), (.string ⟨#[]⟩), (.string ⟨#[]⟩), (.int .i64 0), (.slice none 0 0), (.slice none 0 0), (.slice none 0 0)] 65 (0, 0)))
    have hne : stZ pl x ≠ stZ pl y → stsZ pl l ≠ stsZ pl m := fun hn => take_ne (stsZ_get hx) (stsZ_get hy) hn
    have hfin : ∀ h', Keep (fun _ => False) h3 h' → stZ pl x = stZ pl y → (∃ k' : Nat, Value.int .i64 ((k : Int) + 1) = .int .i64 k' ∧ k' ≤ l.length ∧ stsZ pl (l.take k') = stsZ pl (m.take k') ∧ Keep (fun _ => False) h h') := fun h' kk he =>
      ⟨k + 1, by simp, by omega, by rw [tk_snoc hx, tk_snoc hy, stsZ_snoc, stsZ_snoc, heq, he], k3.trans kk⟩
    have hBd : SameSL ω pl x.body := ih x.body (by omega)
    have hEl : SameSL ω pl x.els := ih x.els (by omega)
    have hgt : (k : Int) + 1 ≤ 9223372036854775807 := by omega
    refine ⟨⟨Keep.cells kz1 hcb, Keep.cells kz1 hca, Keep.cells kz2 hcb, Keep.cells kz2 hca, rfl, stC_one he.isSl hbd.isSl hel.isSl, ?_⟩, Keep.cells kz1 hcb, Keep.cells kz1 hca, Keep.cells kz2 hcb, Keep.cells kz2 hca, rfl, stC_one he.isSl hbd.isSl hel.isSl, ?_⟩
    · obtain ⟨hA, hB, hsz⟩ := two_at (h := h3) (z := #[(.int .i64 0), (.int .i64 0), (.string ⟨#[]⟩), (.string ⟨#[]⟩), (.string ⟨#[]⟩), (.int .i64 0), (.slice none 0 0), (.slice none 0 0), (.slice none 0 0)]) (T := 65)
      refine st_at hA rfl fun h25 k25 hA25 => ?_
      have kk := newK kz2 k25
      refine ⟨Keep.cells kk hcb, rfl, stC_one he'.isSl hbd'.isSl hel'.isSl, ?_⟩
      refine st_at (k25.get hB (by omega)) rfl fun h26 k26 hB26 => ?_
      have kk2 := newL kk (by omega) k26
      refine restS pl x y hBd hEl h3 h3 h26 h3.size _ ve vb' vl we wb' wl (k26.get hA25 (by omega)) hB26 (he.keep kk2) (hbd.keep kk2) (hel.keep kk2) (he'.keep kk2) (hbd'.keep kk2) (hel'.keep kk2) kk2 (R := fun r h' => (∃ b : Bool, r = .bool b ∧ (b = true ↔ stsZ pl l = stsZ pl m)) ∧ Keep (fun _ => False) h h') (X := X) (I6 := fun t h' => ∃ k : Nat, t = .int .i64 k ∧ k ≤ l.length ∧ stsZ pl (l.take k) = stsZ pl (m.take k) ∧ Keep (fun _ => False) h h') (μ7 := fun t _ => match t with | .int _ k => l.length - k.toNat | _ => 0) k hgt (fun h'' k'' hn => ?_) (fun h'' k'' he => ?_)
      · exact ⟨⟨false, rfl, by simp; exact hne hn⟩, k3.trans k''⟩
      · exact ⟨hfin h'' k'' he, by simp; omega⟩
    · obtain ⟨hA, hB, hsz⟩ := two_at (h := h3) (z := #[(.int .i64 0), (.int .i64 0), (.string ⟨#[]⟩), (.string ⟨#[]⟩), (.string ⟨#[]⟩), (.int .i64 0), (.slice none 0 0), (.slice none 0 0), (.slice none 0 0)]) (T := 65)
      refine st_at hB rfl fun h25 k25 hA25 => ?_
      have kk := newL kz2 (by omega) k25
      refine ⟨Keep.cells kk hcb, rfl, stC_one he'.isSl hbd'.isSl hel'.isSl, ?_⟩
      refine st_at (k25.get hA (by omega)) rfl fun h26 k26 hB26 => ?_
      have kk2 := newK kk k26
      refine restS pl x y hBd hEl h3 h3 h26 _ h3.size ve vb' vl we wb' wl (k26.get hA25 (by omega)) hB26 (he.keep kk2) (hbd.keep kk2) (hel.keep kk2) (he'.keep kk2) (hbd'.keep kk2) (hel'.keep kk2) kk2 (R := fun r h' => (∃ b : Bool, r = .bool b ∧ (b = true ↔ stsZ pl l = stsZ pl m)) ∧ Keep (fun _ => False) h h') (X := X) (I6 := fun t h' => ∃ k : Nat, t = .int .i64 k ∧ k ≤ l.length ∧ stsZ pl (l.take k) = stsZ pl (m.take k) ∧ Keep (fun _ => False) h h') (μ7 := fun t _ => match t with | .int _ k => l.length - k.toNat | _ => 0) k hgt (fun h'' k'' hn => ?_) (fun h'' k'' he => ?_)
      · exact ⟨⟨false, rfl, by simp; exact hne hn⟩, k3.trans k''⟩
      · exact ⟨hfin h'' k'' he, by simp; omega⟩
end
end Go.Proofs.YtaehnpilebkcoaaDoor

namespace Go.Proofs.YtaehnpilebkcoaaDoor
open Go Go.Sx Go.Sx.Tk Go.Sx.Rn Go.Proofs.YtaehnpilebkcoaaDoor.Sx

def sgZ (pl : Bool) (s : Sg) : Sg := ⟨s.nm, if pl then s.at_ else 0, s.ps, stsZ pl s.body⟩
def sgsZ (pl : Bool) (p : List Sg) : List Sg := p.map (sgZ pl)
theorem sgZ_iff {pl : Bool} {x y : Sg} : sgZ pl x = sgZ pl y ↔ x.nm = y.nm ∧ (pl = true → x.at_ = y.at_) ∧ x.ps = y.ps ∧ stsZ pl x.body = stsZ pl y.body := by
  cases x; cases y
  simp only [sgZ, Sg.mk.injEq]
  constructor
  · rintro ⟨h1, h2, h3, h4⟩
    exact ⟨h1, fun hp => by rw [hp] at h2; exact h2, h3, h4⟩
  · rintro ⟨h1, h2, h3, h4⟩
    refine ⟨h1, ?_, h3, h4⟩
    cases pl with
    | false => rfl
    | true => exact h2 rfl
theorem sgsZ_snoc (pl : Bool) (l : List Sg) (x : Sg) : sgsZ pl (l ++ [x]) = sgsZ pl l ++ [sgZ pl x] := by unfold sgsZ; rw [List.map_append]; rfl
theorem sgsZ_get {pl : Bool} {l : List Sg} {k : Nat} {x : Sg} (h : l[k]? = some x) : (sgsZ pl l)[k]? = some (sgZ pl x) := by unfold sgsZ; rw [List.getElem?_map, h]; rfl
theorem rdCaG {h0 h : Hp} {v : Value} {l : List Sg} (hs : SgS h0 v l) (k : Keep (fun _ => False) h0 h) {i : Nat} {x : Sg} (hx : l[i]? = some x) {K : Addr → List Value → Prop}
    (hk : ∀ a vp vb, PsS h0 vp x.ps → StS h0 vb x.body → cellsH h (Addr.add a (Int.toNat (i : Int) * 4)) 4 (sgC x vp vb) → K a (sgC x vp vb)) :
    asSl1 v fun a l _ => 0 ≤ (i : Int) ∧ (i : Int) < (l : Int) ∧ ∃ C, cellsH h (Addr.add a (Int.toNat (i : Int) * 4)) 4 C ∧ K a C := by
  obtain ⟨us, vp, vb, h1, h2, h3, h4⟩ := hs.at_ hx
  have h1' := h1.keep k
  have hi := (List.getElem?_eq_some_iff.1 hx).1
  rcases h1'.2 with ⟨h0', _⟩ | ⟨b, o, cap, rfl, hc⟩
  · omega
  · rw [asSl1_sl]
    have hcc : cellsH h (Addr.add ⟨b, o, none⟩ (Int.toNat (i : Int) * 4)) 4 (sgC x vp vb) := by
      refine ⟨rfl, fun j u hu => ?_⟩
      rw [addr_add, addr_add, Int.toNat_natCast, Nat.add_assoc]
      rw [← h2, List.getElem?_take] at hu
      split at hu
      · rw [List.getElem?_drop] at hu
        exact hc _ u hu
      · cases hu
    exact ⟨by omega, by omega, _, hcc, hk _ vp vb h3 h4 hcc⟩
theorem pair_eq {a b : ByteArray × ByteArray} : (a.1.toList == b.1.toList && (a.2.toList == b.2.toList && true)) = decide (a = b) := by
  rw [eqB, eqB, Bool.eq_iff_iff]
  cases a; cases b
  simp
def RestG (ω : Amb) (places_p i_10 : Value) (h12 : Hp) (R : Value → Hp → Prop) (X : List PanicEntry → Hp → Prop) (I8 : Value → Hp → Prop) (μ9 : Value → Hp → Nat) (A B : Addr) (h31 : Hp) : Prop :=
 ∃ J32 : Value → Hp → Prop,
 (∃ v36, cellH h31 (Addr.add A 0) = some v36 ∧
 ∃ v37, cellH h31 (Addr.add B 0) = some v37 ∧
 asS v36 fun s38 => asS v37 fun s39 => cond (!(ByteArray.toList s38 == ByteArray.toList s39))
 (J32 (.bool true) h31)
 (asB places_p fun b40 => cond b40
 (∃ v41, cellH h31 (Addr.add A 1) = some v41 ∧
 ∃ v42, cellH h31 (Addr.add B 1) = some v42 ∧
 asK .i64 v41 fun n43 => asK .i64 v42 fun n44 => cond (n43 != (n44 : Int))
 (J32 (.bool true) h31)
 (∃ v45, cellH h31 (Addr.add A 2) = some v45 ∧
 asSl v45 fun a46 l47 c48 => ∃ v49, cellH h31 (Addr.add B 2) = some v49 ∧
 asSl v49 fun a50 l51 c52 => cond ((l47 : Int) != ((l51 : Int) : Int))
 (J32 (.bool true) h31)
 (∃ v53, cellH h31 (Addr.add A 3) = some v53 ∧
 ∃ v54, cellH h31 (Addr.add B 3) = some v54 ∧
 CallX Tryd.prog ω 33 [v53, v54, places_p] h31 (fun r55 h56 =>
 asB r55 fun b57 => J32 (.bool (!b57)) h56) X)))
 (∃ v58, cellH h31 (Addr.add A 2) = some v58 ∧
 asSl v58 fun a59 l60 c61 => ∃ v62, cellH h31 (Addr.add B 2) = some v62 ∧
 asSl v62 fun a63 l64 c65 => cond ((l60 : Int) != ((l64 : Int) : Int))
 (J32 (.bool true) h31)
 (∃ v66, cellH h31 (Addr.add A 3) = some v66 ∧
 ∃ v67, cellH h31 (Addr.add B 3) = some v67 ∧
 CallX Tryd.prog ω 33 [v66, v67, places_p] h31 (fun r68 h69 =>
 asB r68 fun b70 => J32 (.bool (!b70)) h69) X)))) ∧
 ∀ t67_33 (d34 : Nat → Value) (h35 : Hp), J32 t67_33 h35 →
 asB t67_33 fun b71 => cond b71
 (R (.bool false) h35)
 (∃ (I72 : Value → Hp → Prop) (μ73 : Value → Hp → Nat), I72 (.int .i64 0) h35 ∧ ∀ k_74 (d75 : Nat → Value) (h76 : Hp), I72 k_74 h76 →
 ∃ v77, cellH h76 (Addr.add A 2) = some v77 ∧
 asSl v77 fun a78 l79 c80 => asK .i64 k_74 fun n81 => cond (decide ((n81 : Int) < (l79 : Int)))
 (∃ v82, cellH h76 (Addr.add A 2) = some v82 ∧
 asSl1 v82 fun a83 l84 c85 => asI k_74 fun n86 => 0 ≤ (n86 : Int) ∧ n86 < (l84 : Int) ∧ ∃ C87, cellsH h76 (Addr.add a83 (Int.toNat n86 * 2)) 2 C87 ∧
 ∃ v88, cellH h76 (Addr.add B 2) = some v88 ∧
 asSl1 v88 fun a89 l90 c91 => asI k_74 fun n92 => 0 ≤ (n92 : Int) ∧ n92 < (l90 : Int) ∧ ∃ C93, cellsH h76 (Addr.add a89 (Int.toNat n92 * 2)) 2 C93 ∧
 asO C87.toArray[0]? fun v94 => asO C93.toArray[0]? fun v95 => asS v94 fun s96 => asS v95 fun s97 => asO C87.toArray[1]? fun v98 => asO C93.toArray[1]? fun v99 => asS v98 fun s100 => asS v99 fun s101 => cond (!((ByteArray.toList s96 == ByteArray.toList s97) && ((ByteArray.toList s100 == ByteArray.toList s101) && true)))
 (R (.bool false) h76)
 (asK .i64 k_74 fun n102 => I72 (.int .i64 (IntKind.wrap .i64 (n102 + 1))) h76 ∧ μ73 (.int .i64 (IntKind.wrap .i64 (n102 + 1))) h76 < μ73 k_74 h76))
 (asK .i64 i_10 fun n103 => I8 (.int .i64 (IntKind.wrap .i64 (n103 + 1))) h76 ∧ μ9 (.int .i64 (IntKind.wrap .i64 (n103 + 1))) h76 < μ9 i_10 h12))
section
variable {ω : Amb}
theorem restG (pl : Bool) (x y : Sg) (hh h12 h31 : Hp) (LA LB : Nat) (vp vb wp wb : Value)
    (hA : h31[LA]? = some (.cells (sgC x vp vb).toArray 51 (0, 0))) (hBk : h31[LB]? = some (.cells (sgC y wp wb).toArray 51 (0, 0)))
    (a1 : PsS h31 vp x.ps) (a2 : StS h31 vb x.body) (b1 : PsS h31 wp y.ps) (b2 : StS h31 wb y.body) (hpl : x.ps.length ≤ 4611686018427387904) (kh : Keep (fun _ => False) hh h31)
    {R : Value → Hp → Prop} {X : List PanicEntry → Hp → Prop} {I8 : Value → Hp → Prop} {μ9 : Value → Hp → Nat} (k : Nat) (hk0 : (k : Int) + 1 ≤ 9223372036854775807)
    (hne : ∀ h', Keep (fun _ => False) hh h' → sgZ pl x ≠ sgZ pl y → R (.bool false) h') (heq : ∀ h', Keep (fun _ => False) hh h' → sgZ pl x = sgZ pl y → I8 (.int .i64 ((k : Int) + 1)) h' ∧ μ9 (.int .i64 ((k : Int) + 1)) h' < μ9 (.int .i64 k) h12) :
    RestG ω (.bool pl) (.int .i64 k) h12 R X I8 μ9 ⟨LA, 0, none⟩ ⟨LB, 0, none⟩ h31 := by
  unfold RestG
  refine ⟨fun v h' => (∃ b : Bool, v = .bool b ∧ (b = true ↔ ¬ (x.nm = y.nm ∧ (pl = true → x.at_ = y.at_) ∧ x.ps.length = y.ps.length ∧ stsZ pl x.body = stsZ pl y.body))) ∧ Keep (fun _ => False) h31 h', ?_, ?_⟩
  · refine lx hA (j := 0) rfl ?_
    refine lx hBk (j := 0) rfl ?_
    rw [asS_str, asS_str, eqB]
    refine cond_c (fun hc => ?_) (fun hc => ?_)
    · have : x.nm ≠ y.nm := by simpa using hc
      exact ⟨⟨true, rfl, by simp only [true_iff]; exact fun h => this h.1⟩, Keep.refl _ _⟩
    have e1 : x.nm = y.nm := by simpa using hc
    have fin : ∀ (hat : pl = true → x.at_ = y.at_), ∃ v45, cellH h31 (Addr.add ⟨LA, 0, none⟩ 2) = some v45 ∧ asSl v45 fun _ l47 _ => ∃ v49, cellH h31 (Addr.add ⟨LB, 0, none⟩ 2) = some v49 ∧ asSl v49 fun _ l51 _ => cond ((l47 : Int) != ((l51 : Int) : Int))
        ((∃ b : Bool, (.bool true : Value) = .bool b ∧ (b = true ↔ ¬ (x.nm = y.nm ∧ (pl = true → x.at_ = y.at_) ∧ x.ps.length = y.ps.length ∧ stsZ pl x.body = stsZ pl y.body))) ∧ Keep (fun _ => False) h31 h31)
        (∃ v53, cellH h31 (Addr.add ⟨LA, 0, none⟩ 3) = some v53 ∧ ∃ v54, cellH h31 (Addr.add ⟨LB, 0, none⟩ 3) = some v54 ∧
          CallX Tryd.prog ω n_pipewrightref_sameStmts [v53, v54, .bool pl] h31 (fun r55 h56 => asB r55 fun b57 => (∃ b : Bool, (.bool (!b57) : Value) = .bool b ∧ (b = true ↔ ¬ (x.nm = y.nm ∧ (pl = true → x.at_ = y.at_) ∧ x.ps.length = y.ps.length ∧ stsZ pl x.body = stsZ pl y.body))) ∧ Keep (fun _ => False) h31 h56) X) := by
      intro hat
      refine lx hA (j := 2) rfl ?_
      refine SlAt.sl a1.1 fun _ _ => ?_
      refine lx hBk (j := 2) rfl ?_
      refine SlAt.sl b1.1 fun _ _ => ?_
      refine cond_c (fun hc => ?_) (fun hc => ?_)
      · have := bne_iff_ne.1 hc
        exact ⟨⟨true, rfl, by simp only [true_iff]; exact fun h => this (by rw [h.2.2.1])⟩, Keep.refl _ _⟩
      have e3 : x.ps.length = y.ps.length := by
        have : (x.ps.length : Int) = y.ps.length := by simpa using hc
        omega
      refine lx hA (j := 3) rfl ?_
      refine lx hBk (j := 3) rfl ?_
      refine CallX.use (sameS_law pl _ x.body (Nat.lt_succ_self _) y.body h31 vb wb a2 b2) ?_
      rintro _ h4 ⟨⟨c, rfl, hcc⟩, k4⟩
      rw [asB_bool]
      refine ⟨⟨!c, rfl, ?_⟩, k4⟩
      rw [Bool.not_eq_true', ← Bool.not_eq_true, hcc]
      exact ⟨fun h hall => h hall.2.2.2, fun h hall => h ⟨e1, hat, e3, hall⟩⟩
    rw [asB_bool]
    refine cond_c (fun hp => ?_) (fun hp => ?_)
    · refine lx hA (j := 1) rfl ?_
      refine lx hBk (j := 1) rfl ?_
      rw [asK_int, asK_int]
      refine cond_c (fun hc => ?_) (fun hc => ?_)
      · have := bne_iff_ne.1 hc
        exact ⟨⟨true, rfl, by simp only [true_iff]; exact fun h => this (h.2.1 hp)⟩, Keep.refl _ _⟩
      have e2 : x.at_ = y.at_ := by simpa using hc
      exact fin fun _ => e2
    · exact fin fun h => by rw [hp] at h; cases h
  rintro _ _ h32 ⟨⟨c, rfl, hcc⟩, k32⟩
  have hA32 := k32.get hA (by simp)
  have hB32 := k32.get hBk (by simp)
  rw [asB_bool]
  refine cond_c (fun hc => ?_) (fun hc => ?_)
  · refine hne _ (kh.trans k32) fun h => hcc.1 hc ?_
    obtain ⟨q1, q2, q3, q4⟩ := sgZ_iff.1 h
    exact ⟨q1, q2, by rw [q3], q4⟩
  have hall : x.nm = y.nm ∧ (pl = true → x.at_ = y.at_) ∧ x.ps.length = y.ps.length ∧ stsZ pl x.body = stsZ pl y.body := Classical.byContradiction fun hn => by
    rw [hcc.2 hn] at hc
    cases hc
  obtain ⟨e1, e2, e3, e4⟩ := hall
  refine ⟨fun t h' => ∃ j : Nat, t = .int .i64 j ∧ j ≤ x.ps.length ∧ x.ps.take j = y.ps.take j ∧ h32 = h', fun t _ => match t with | .int _ j => x.ps.length - j.toNat | _ => 0, ⟨0, rfl, by omega, rfl, rfl⟩, ?_⟩
  rintro _ _ _ ⟨j, rfl, hj, htk, rfl⟩
  refine lx hA32 (j := 2) rfl ?_
  refine SlAt.sl (a1.keep k32).1 fun _ _ => ?_
  rw [asK_int]
  refine cond_c (fun hc => ?_) (fun hc => ?_)
  · have hjl : j < x.ps.length := by
      have := of_decide_eq_true hc
      omega
    have hx := List.getElem?_eq_getElem hjl
    have hy := List.getElem?_eq_getElem (show j < y.ps.length by omega)
    generalize x.ps[j] = p at hx
    generalize y.ps[j] = q at hy
    refine lx hA32 (j := 2) rfl ?_
    refine SlAt.rdS (f := pf) (a1.keep k32).1 pf_len hx ?_
    refine lx hB32 (j := 2) rfl ?_
    refine SlAt.rdS (f := pf) (b1.keep k32).1 pf_len hy ?_
    have g0 : ∀ p : ByteArray × ByteArray, (pf p).toArray[0]? = some (.string p.1) := fun _ => rfl
    have g1 : ∀ p : ByteArray × ByteArray, (pf p).toArray[1]? = some (.string p.2) := fun _ => rfl
    simp only [g0, g1, asO_some, asS_str]
    rw [pair_eq]
    refine cond_c (fun hc => ?_) (fun hc => ?_)
    · have : p ≠ q := by simpa using hc
      exact hne _ (kh.trans k32) fun h => take_ne hx hy this (sgZ_iff.1 h).2.2.1
    · have he : p = q := by simpa using hc
      rw [asK_int, i64_in (by omega) (by omega)]
      exact ⟨⟨j + 1, by simp, by omega, by rw [tk_snoc hx, tk_snoc hy, htk, he], trivial⟩, by simp; omega⟩
  · have hc := of_decide_eq_false hc
    obtain rfl : j = x.ps.length := by omega
    rw [List.take_length, List.take_of_length_le (by omega)] at htk
    rw [asK_int, i64_in (by omega) (by omega)]
    exact heq _ (kh.trans k32) (sgZ_iff.2 ⟨e1, e2, htk, e4⟩)
theorem SameP_law (pl : Bool) (p q : List Sg) (hpn : p.length ≤ 1000) (hps : ∀ s ∈ p, s.ps.length ≤ 1000) (h : Hp) (va vb : Value) (ha : PgS h va p) (hb : PgS h vb q) (X : List PanicEntry → Hp → Prop) :
    CallX Tryd.prog ω n_pipewrightref_SameProgram [va, vb, .bool pl] h (fun r h' => (∃ b : Bool, r = .bool b ∧ (b = true ↔ sgsZ pl p = sgsZ pl q)) ∧ Keep (fun _ => False) h h') X := by
  obtain ⟨wa, rfl, ha⟩ := ha
  obtain ⟨wb, rfl, hb⟩ := hb
  refine C_pipewrightref_SameProgram ω _ _ _ h _ X ?_
  unfold W_pipewrightref_SameProgram
  simp only [show ∀ w : Value, Value.cells (.agg #[w]) = [w].toArray from fun _ => rfl]
  have hb0 := hp_push_new (h := h) (o := .cells [wa].toArray 24 (0, 0))
  have k0 := Keep.push (S := fun _ => False) h (.cells [wa].toArray 24 (0, 0))
  generalize h.push (.cells [wa].toArray 24 (0, 0)) = h1 at *
  have hb1 := hp_push_new (h := h1) (o := .cells [wb].toArray 24 (0, 0))
  have k1 := Keep.push (S := fun _ => False) h1 (.cells [wb].toArray 24 (0, 0))
  generalize h1.push (.cells [wb].toArray 24 (0, 0)) = h2 at *
  have hb0 := k1.get hb0 (by simp)
  have k02 := k0.trans k1
  have ha := ha.keep k02
  have hb := hb.keep k02
  refine lx hb0 (j := 0) rfl ?_
  refine ha.sl fun _ _ => ?_
  refine lx hb1 (j := 0) rfl ?_
  refine hb.sl fun _ _ => ?_
  have hzl : sgsZ pl p = sgsZ pl q → p.length = q.length := fun h => by
    have := congrArg List.length h
    simpa [sgsZ] using this
  refine cond_c (fun hc => ?_) (fun hc => ?_)
  · have hne := bne_iff_ne.1 hc
    refine ⟨⟨false, rfl, by simp; exact fun h => hne (by rw [hzl h])⟩, k02⟩
  have hlen : p.length = q.length := by
    have : (p.length : Int) = q.length := by simpa using hc
    omega
  refine ⟨fun t h' => ∃ k : Nat, t = .int .i64 k ∧ k ≤ p.length ∧ sgsZ pl (p.take k) = sgsZ pl (q.take k) ∧ Keep (fun _ => False) h2 h', fun t _ => match t with | .int _ k => p.length - k.toNat | _ => 0,
    ⟨0, rfl, by omega, rfl, Keep.refl _ _⟩, ?_⟩
  rintro _ _ h3 ⟨k, rfl, hk, heq, k3⟩
  have ha3 := ha.keep k3
  have hb3 := hb.keep k3
  have hb03 := k3.get hb0 (by simp)
  have hb13 := k3.get hb1 (by simp)
  refine lx hb03 (j := 0) rfl ?_
  refine ha3.sl fun _ _ => ?_
  rw [asK_int]
  refine cond_c (fun hc => ?_) (fun hc => ?_)
  rotate_left
  · have hc := of_decide_eq_false hc
    obtain rfl : k = p.length := by omega
    rw [List.take_length, List.take_of_length_le (by omega)] at heq
    exact ⟨⟨true, rfl, by simp [heq]⟩, k02.trans k3⟩
  have hkl : k < p.length := by
    have := of_decide_eq_true hc
    omega
  have hx := List.getElem?_eq_getElem hkl
  have hy := List.getElem?_eq_getElem (show k < q.length by omega)
  have hmem : p[k] ∈ p := List.getElem_mem hkl
  generalize p[k] = x at hx hmem
  generalize q[k] = y at hy
  have hxps := hps x hmem
  refine lx hb03 (j := 0) rfl ?_
  refine rdCaG ha3 (Keep.refl _ _) hx fun aa vp vb hpp hbd hca => ?_
  refine lx hb13 (j := 0) rfl ?_
  refine rdCaG hb3 (Keep.refl _ _) hy fun ab wp wb' hpp' hbd' hcb => ?_
  have kz1 := Keep.push (S := fun _ => False) h3 (.cells #[(.string ⟨#[]⟩), (.int .i64 0), (.slice none 0 0), (.slice none 0 0)] 51 (0, 0))
  have kz2 := two_k (h := h3) (.cells #[(.string ⟨#[]⟩), (.int .i64 0), (.slice none 0 0), (.slice none 0 0)] 51 (0, 0)) (.cells #[(.string ⟨#[]⟩), (.int .i64 0), (.slice none 0 0), (.slice none 0 0)] 51 (0, 0))
  have hne : sgZ pl x ≠ sgZ pl y → sgsZ pl p ≠ sgsZ pl q := fun hn => take_ne (sgsZ_get hx) (sgsZ_get hy) hn
  have hfin : ∀ h', Keep (fun _ => False) h3 h' → sgZ pl x = sgZ pl y → (∃ k' : Nat, Value.int .i64 ((k : Int) + 1) = .int .i64 k' ∧ k' ≤ p.length ∧ sgsZ pl (p.take k') = sgsZ pl (q.take k') ∧ Keep (fun _ => False) h2 h') := fun h' kk he =>
    ⟨k + 1, by simp, by omega, by rw [tk_snoc hx, tk_snoc hy, sgsZ_snoc, sgsZ_snoc, heq, he], k3.trans kk⟩
  have hgt : (k : Int) + 1 ≤ 9223372036854775807 := by omega
  have g0 : ∀ {hh : Hp}, Keep (fun _ => False) h3 hh → cellH hh (Addr.add ⟨Array.size h, 0, none⟩ 0) = some wa := fun kk => lx' (kk.get hb03 (by simp)) rfl
  have g1 : ∀ {hh : Hp}, Keep (fun _ => False) h3 hh → cellH hh (Addr.add ⟨Array.size h1, 0, none⟩ 0) = some wb := fun kk => lx' (kk.get hb13 (by simp)) rfl
  obtain ⟨hA, hB, hsz⟩ := two_at (h := h3) (z := #[(.string ⟨#[]⟩), (.int .i64 0), (.slice none 0 0), (.slice none 0 0)]) (T := 51)
  refine ⟨⟨Keep.cells kz1 hcb, g1 kz1, Keep.cells kz1 hca, g0 kz1, Keep.cells kz2 hcb, g1 kz2, Keep.cells kz2 hca, g0 kz2, rfl, sgC_one (nilOr_isSl hpp.2) hbd.isSl, ?_⟩, Keep.cells kz1 hcb, g1 kz1, Keep.cells kz1 hca, g0 kz1, Keep.cells kz2 hcb, g1 kz2, Keep.cells kz2 hca, g0 kz2, rfl, sgC_one (nilOr_isSl hpp.2) hbd.isSl, ?_⟩
  · refine st_at hA rfl fun h25 k25 hA25 => ?_
    have kk := newK kz2 k25
    refine ⟨Keep.cells kk hcb, g1 kk, rfl, sgC_one (nilOr_isSl hpp'.2) hbd'.isSl, ?_⟩
    refine st_at (k25.get hB (by omega)) rfl fun h26 k26 hB26 => ?_
    have kk2 := newL kk (by omega) k26
    refine restG pl x y h3 h3 h26 h3.size _ vp vb wp wb' (k26.get hA25 (by omega)) hB26 (hpp.keep kk2) (hbd.keep kk2) (hpp'.keep kk2) (hbd'.keep kk2) (by omega) kk2 (R := fun r h' => (∃ b : Bool, r = .bool b ∧ (b = true ↔ sgsZ pl p = sgsZ pl q)) ∧ Keep (fun _ => False) h h') (X := X) (I8 := fun t h' => ∃ k : Nat, t = .int .i64 k ∧ k ≤ p.length ∧ sgsZ pl (p.take k) = sgsZ pl (q.take k) ∧ Keep (fun _ => False) h2 h') (μ9 := fun t _ => match t with | .int _ k => p.length - k.toNat | _ => 0) k hgt (fun h'' k'' hn => ?_) (fun h'' k'' he => ?_)
    · exact ⟨⟨false, rfl, by simp; exact hne hn⟩, (k02.trans k3).trans k''⟩
    · exact ⟨hfin h'' k'' he, by simp; omega⟩
  · refine st_at hB rfl fun h25 k25 hA25 => ?_
    have kk := newL kz2 (by omega) k25
    refine ⟨Keep.cells kk hcb, g1 kk, rfl, sgC_one (nilOr_isSl hpp'.2) hbd'.isSl, ?_⟩
    refine st_at (k25.get hA (by omega)) rfl fun h26 k26 hB26 => ?_
    have kk2 := newK kk k26
    refine restG pl x y h3 h3 h26 _ h3.size vp vb wp wb' (k26.get hA25 (by omega)) hB26 (hpp.keep kk2) (hbd.keep kk2) (hpp'.keep kk2) (hbd'.keep kk2) (by omega) kk2 (R := fun r h' => (∃ b : Bool, r = .bool b ∧ (b = true ↔ sgsZ pl p = sgsZ pl q)) ∧ Keep (fun _ => False) h h') (X := X) (I8 := fun t h' => ∃ k : Nat, t = .int .i64 k ∧ k ≤ p.length ∧ sgsZ pl (p.take k) = sgsZ pl (q.take k) ∧ Keep (fun _ => False) h2 h') (μ9 := fun t _ => match t with | .int _ k => p.length - k.toNat | _ => 0) k hgt (fun h'' k'' hn => ?_) (fun h'' k'' he => ?_)
    · exact ⟨⟨false, rfl, by simp; exact hne hn⟩, (k02.trans k3).trans k''⟩
    · exact ⟨hfin h'' k'' he, by simp; omega⟩
end
end Go.Proofs.YtaehnpilebkcoaaDoor

namespace Go.Proofs.YtaehnpilebkcoaaDoor
open Go Go.Sx Go.Sx.Tk Go.Sx.Rn Go.Proofs.YtaehnpilebkcoaaDoor.Sx

section
variable {ω : Amb}
end
end Go.Proofs.YtaehnpilebkcoaaDoor

namespace Go.Proofs.YtaehnpilebkcoaaDoor
open Go Go.Sx Go.Sx.Tk Go.Sx.Rn Go.Proofs.YtaehnpilebkcoaaDoor.Sx

section
variable {ω : Amb}
/-! ### expressions -/
def ExE (h : Hp) (x : Ex) (C : List Value) : Prop := ∃ w, C = exC x w ∧ ExS h w x.l
theorem ExE.keep {h h' : Hp} {x : Ex} {C : List Value} (he : ExE h x C) (k : Keep (fun _ => False) h h') : ExE h' x C := by
  obtain ⟨w, h1, h2⟩ := he
  exact ⟨w, h1, h2.keep k⟩
end
end Go.Proofs.YtaehnpilebkcoaaDoor

namespace Go.Proofs.YtaehnpilebkcoaaDoor
open Go Go.Sx Go.Sx.Tk Go.Sx.Rn Go.Proofs.YtaehnpilebkcoaaDoor.Sx

def StE (h : Hp) (x : St) (C : List Value) : Prop := ∃ ve vb vl, C = stC x ve vb vl ∧ ExS h ve x.e ∧ StS h vb x.body ∧ StS h vl x.els
theorem StE.keep {h h' : Hp} {x : St} {C : List Value} (he : StE h x C) (k : Keep (fun _ => False) h h') : StE h' x C := by
  obtain ⟨ve, vb, vl, h1, h2, h3, h4⟩ := he
  exact ⟨ve, vb, vl, h1, h2.keep k, h3.keep k, h4.keep k⟩
section
variable {ω : Amb}
end
end Go.Proofs.YtaehnpilebkcoaaDoor

namespace Go.Proofs.YtaehnpilebkcoaaDoor
open Go Go.Sx Go.Sx.Tk Go.Sx.Rn Go.Proofs.YtaehnpilebkcoaaDoor.Sx

def SgE (h : Hp) (x : Sg) (C : List Value) : Prop := ∃ vp vb, C = sgC x vp vb ∧ PsS h vp x.ps ∧ StS h vb x.body
theorem SgE.keep {h h' : Hp} {x : Sg} {C : List Value} (he : SgE h x C) (k : Keep (fun _ => False) h h') : SgE h' x C := by
  obtain ⟨vp, vb, h1, h2, h3⟩ := he
  exact ⟨vp, vb, h1, h2.keep k, h3.keep k⟩
theorem SgS.max {h : Hp} {v : Value} {l : List Sg} (hs : SgS h v l) : l.length ≤ 9223372036854775807 := by
  obtain ⟨us, h1, _⟩ := hs
  exact h1.2
section
variable {ω : Amb}
end
end Go.Proofs.YtaehnpilebkcoaaDoor
