/- Are two programs the same: expressions, statements. -/
import Derived.Test.YtaehnpilebkcoaaDoorRn6
namespace Go.Proofs.YtaehnpilebkcoaaDoor
open Go Go.Sx Go.Sx.Tk Go.Sx.Rn Go.Proofs.YtaehnpilebkcoaaDoor.Sx

theorem ex_eq_iff {x y : Ex} : x = y ↔ x.op = y.op ∧ x.nm = y.nm ∧ x.n = y.n ∧ x.l = y.l := by
  cases x; cases y
  simp [Ex.op, Ex.nm, Ex.n, Ex.l]
theorem eqB (a b : ByteArray) : (a.toList == b.toList) = decide (a = b) := by
  rw [eqS, Bool.eq_iff_iff]
  simp only [decide_eq_true_eq]
  exact ⟨bytes_ext, fun h => by rw [h]⟩
theorem take_ne {α : Type} {l m : List α} {k : Nat} {x y : α} (hx : l[k]? = some x) (hy : m[k]? = some y) (hne : x ≠ y) : l ≠ m := fun h => by
  rw [h, hy] at hx
  exact hne (Option.some.inj hx).symm
section
variable {ω : Amb}
theorem sameE_law : ∀ (N : Nat) (l : List Ex), exsN l < N → ∀ (m : List Ex) (h : Hp) (va vb : Value), ExS h va l → ExS h vb m → ∀ (X : List PanicEntry → Hp → Prop),
    CallX Tryd.prog ω n_pipewrightref_sameExprs [va, vb] h (fun r h' => (∃ b : Bool, r = .bool b ∧ (b = true ↔ l = m)) ∧ Keep (fun _ => False) h h') X := by
  intro N
  induction N with
  | zero => exact fun l hN => absurd hN (Nat.not_lt_zero _)
  | succ N ih =>
    intro l hN m h va vb ha hb X
    refine C_pipewrightref_sameExprs ω _ _ h _ X ?_
    unfold W_pipewrightref_sameExprs
    have hmax := ha.max
    refine ha.sl fun _ _ => ?_
    refine hb.sl fun _ _ => ?_
    refine cond_c (fun hc => ?_) (fun hc => ?_)
    · have hne := bne_iff_ne.1 hc
      refine ⟨⟨false, rfl, by simp; exact fun h => hne (by rw [h])⟩, Keep.refl _ _⟩
    have hlen : l.length = m.length := by
      have : (l.length : Int) = m.length := by simpa using hc
      omega
    refine ⟨fun t h' => ∃ k : Nat, t = .int .i64 k ∧ k ≤ l.length ∧ l.take k = m.take k ∧ Keep (fun _ => False) h h', fun t _ => match t with | .int _ k => l.length - k.toNat | _ => 0,
      ⟨0, rfl, by omega, rfl, Keep.refl _ _⟩, ?_⟩
    rintro _ _ h3 ⟨k, rfl, hk, heq, k3⟩
    have ha3 := ha.keep k3
    have hb3 := hb.keep k3
    refine ha3.sl fun _ _ => ?_
    rw [asK_int]
    refine cond_c (fun hc => ?_) (fun hc => ?_)
    rotate_left
    · have hc := of_decide_eq_false hc
      obtain rfl : k = l.length := by omega
      rw [List.take_length, List.take_of_length_le (by omega)] at heq
      exact ⟨⟨true, rfl, by simp [heq]⟩, k3⟩
    have hkl : k < l.length := by
      have := of_decide_eq_true hc
      omega
    have hx := List.getElem?_eq_getElem hkl
    have hy := List.getElem?_eq_getElem (show k < m.length by omega)
    have hmem : l[k] ∈ l := List.getElem_mem hkl
    generalize l[k] = x at hx hmem
    generalize m[k] = y at hy
    have hxn := exsN_mem hmem
    have hxe := exN_eq x
    refine ⟨fun v h' => (∃ b : Bool, v = .bool b ∧ (b = true ↔ x ≠ y)) ∧ Keep (fun _ => False) h3 h', ?_, ?_⟩
    · refine ha3.rdO hx (o := 0) fun _ _ => ⟨_, rfl, ?_⟩
      refine hb3.rdO hy (o := 0) fun _ _ => ⟨_, rfl, ?_⟩
      rw [asK_int, asK_int]
      refine cond_c (fun hc => ?_) (fun hc => ?_)
      · have := bne_iff_ne.1 hc
        exact ⟨⟨true, rfl, by simp; exact fun h => this (by rw [h])⟩, Keep.refl _ _⟩
      have e1 : x.op = y.op := by simpa using hc
      refine ha3.rdO hx (o := 1) fun _ _ => ⟨_, rfl, ?_⟩
      refine hb3.rdO hy (o := 1) fun _ _ => ⟨_, rfl, ?_⟩
      rw [asS_str, asS_str, eqB]
      refine cond_c (fun hc => ?_) (fun hc => ?_)
      · have : x.nm ≠ y.nm := by simpa using hc
        exact ⟨⟨true, rfl, by simp; exact fun h => this (by rw [h])⟩, Keep.refl _ _⟩
      have e2 : x.nm = y.nm := by simpa using hc
      refine ha3.rdO hx (o := 2) fun _ _ => ⟨_, rfl, ?_⟩
      refine hb3.rdO hy (o := 2) fun _ _ => ⟨_, rfl, ?_⟩
      rw [asK_int, asK_int]
      refine cond_c (fun hc => ?_) (fun hc => ?_)
      · have := bne_iff_ne.1 hc
        exact ⟨⟨true, rfl, by simp; exact fun h => this (by rw [h])⟩, Keep.refl _ _⟩
      have e3 : x.n = y.n := by simpa using hc
      refine ha3.rdO hx (o := 3) fun wa hwa => ⟨_, rfl, ?_⟩
      refine hb3.rdO hy (o := 3) fun wb hwb => ⟨_, rfl, ?_⟩
      refine CallX.use (ih x.l (by omega) y.l h3 wa wb hwa hwb) ?_
      rintro _ h4 ⟨⟨b, rfl, hbb⟩, k4⟩
      rw [asB_bool]
      refine ⟨⟨!b, rfl, ?_⟩, k4⟩
      rw [Ne, ex_eq_iff, Bool.not_eq_true', ← Bool.not_eq_true, hbb]
      simp [e1, e2, e3]
    · rintro _ _ h4 ⟨⟨b, rfl, hbb⟩, k4⟩
      rw [asB_bool]
      refine cond_c (fun hc => ?_) (fun hc => ?_)
      · exact ⟨⟨false, rfl, by simp; exact take_ne hx hy (hbb.1 hc)⟩, k3.trans k4⟩
      · have he : x = y := Classical.byContradiction fun hn => by
          rw [hbb.2 hn] at hc
          cases hc
        rw [asK_int, i64_in (by omega) (by omega)]
        exact ⟨⟨k + 1, by simp, by omega, by rw [tk_snoc hx, tk_snoc hy, heq, he], k3.trans k4⟩, by simp; omega⟩
end
end Go.Proofs.YtaehnpilebkcoaaDoor

namespace Go.Proofs.YtaehnpilebkcoaaDoor
open Go Go.Sx Go.Sx.Tk Go.Sx.Rn Go.Proofs.YtaehnpilebkcoaaDoor.Sx

mutual
def stZ (pl : Bool) : St → St
  | .mk d at_ a b t n e body els => .mk d (if pl then at_ else 0) a b t n e (stsZ pl body) (stsZ pl els)
def stsZ (pl : Bool) : List St → List St
  | [] => []
  | x :: r => stZ pl x :: stsZ pl r
end
theorem stsZ_map (pl : Bool) : ∀ l : List St, stsZ pl l = l.map (stZ pl)
  | [] => rfl
  | x :: r => by simp only [stsZ, List.map_cons, stsZ_map pl r]
theorem stZ_iff {pl : Bool} {x y : St} : stZ pl x = stZ pl y ↔ x.d = y.d ∧ x.a = y.a ∧ x.b = y.b ∧ x.t = y.t ∧ x.n = y.n ∧ (pl = true → x.at_ = y.at_) ∧ x.e = y.e ∧ stsZ pl x.body = stsZ pl y.body ∧ stsZ pl x.els = stsZ pl y.els := by
  cases x; cases y
  simp only [stZ, St.mk.injEq, St.d, St.a, St.b, St.t, St.n, St.at_, St.e, St.body, St.els]
  constructor
  · rintro ⟨h1, h2, h3, h4, h5, h6, h7, h8, h9⟩
    exact ⟨h1, h3, h4, h5, h6, fun hp => by rw [hp] at h2; exact h2, h7, h8, h9⟩
  · rintro ⟨h1, h3, h4, h5, h6, h2, h7, h8, h9⟩
    refine ⟨h1, ?_, h3, h4, h5, h6, h7, h8, h9⟩
    cases pl with
    | false => rfl
    | true => exact h2 rfl
theorem rdCaS {h0 h : Hp} {v : Value} {l : List St} (hs : StS h0 v l) (k : Keep (fun _ => False) h0 h) {i : Nat} {x : St} (hx : l[i]? = some x) {K : Addr → List Value → Prop}
    (hk : ∀ a ve vb vl, ExS h0 ve x.e → StS h0 vb x.body → StS h0 vl x.els → cellsH h (Addr.add a (Int.toNat (i : Int) * 9)) 9 (stC x ve vb vl) → K a (stC x ve vb vl)) :
    asSl1 v fun a l _ => 0 ≤ (i : Int) ∧ (i : Int) < (l : Int) ∧ ∃ C, cellsH h (Addr.add a (Int.toNat (i : Int) * 9)) 9 C ∧ K a C := by
  obtain ⟨us, ve, vb, vl, h1, h2, h3, h4, h5⟩ := hs.at_ hx
  have h1' := h1.keep k
  have hi := (List.getElem?_eq_some_iff.1 hx).1
  rcases h1'.2 with ⟨h0', _⟩ | ⟨b, o, cap, rfl, hc⟩
  · omega
  · rw [asSl1_sl]
    have hcc : cellsH h (Addr.add ⟨b, o, none⟩ (Int.toNat (i : Int) * 9)) 9 (stC x ve vb vl) := by
      refine ⟨rfl, fun j u hu => ?_⟩
      rw [addr_add, addr_add, Int.toNat_natCast, Nat.add_assoc]
      rw [← h2, List.getElem?_take] at hu
      split at hu
      · rw [List.getElem?_drop] at hu
        exact hc _ u hu
      · cases hu
    exact ⟨by omega, by omega, _, hcc, hk _ ve vb vl h3 h4 h5 hcc⟩
def RestS (ω : Amb) (places_p i_8 : Value) (h10 : Hp) (R : Value → Hp → Prop) (X : List PanicEntry → Hp → Prop) (I6 : Value → Hp → Prop) (μ7 : Value → Hp → Nat) (A B : Addr) (h26 : Hp) : Prop :=
 ∃ β27 : Bool,
 (∃ v29, cellH h26 (Addr.add A 0) = some v29 ∧
 ∃ v30, cellH h26 (Addr.add B 0) = some v30 ∧
 asK .i64 v29 fun n31 => asK .i64 v30 fun n32 => cond (n31 != (n32 : Int))
 (((.bool true) : Value) = .bool β27 ∧ h26 = h26)
 (∃ v33, cellH h26 (Addr.add A 2) = some v33 ∧
 ∃ v34, cellH h26 (Addr.add B 2) = some v34 ∧
 asS v33 fun s35 => asS v34 fun s36 => cond (!(ByteArray.toList s35 == ByteArray.toList s36))
 (((.bool true) : Value) = .bool β27 ∧ h26 = h26)
 (∃ v37, cellH h26 (Addr.add A 3) = some v37 ∧
 ∃ v38, cellH h26 (Addr.add B 3) = some v38 ∧
 asS v37 fun s39 => asS v38 fun s40 => cond (!(ByteArray.toList s39 == ByteArray.toList s40))
 (((.bool true) : Value) = .bool β27 ∧ h26 = h26)
 (∃ v41, cellH h26 (Addr.add A 4) = some v41 ∧
 ∃ v42, cellH h26 (Addr.add B 4) = some v42 ∧
 asS v41 fun s43 => asS v42 fun s44 => cond (!(ByteArray.toList s43 == ByteArray.toList s44))
 (((.bool true) : Value) = .bool β27 ∧ h26 = h26)
 (∃ v45, cellH h26 (Addr.add A 5) = some v45 ∧
 ∃ v46, cellH h26 (Addr.add B 5) = some v46 ∧
 asK .i64 v45 fun n47 => asK .i64 v46 fun n48 => cond (n47 != (n48 : Int))
 (((.bool true) : Value) = .bool β27 ∧ h26 = h26)
 (asB places_p fun b49 => cond b49
 (∃ v50, cellH h26 (Addr.add A 1) = some v50 ∧
 ∃ v51, cellH h26 (Addr.add B 1) = some v51 ∧
 asK .i64 v50 fun n52 => asK .i64 v51 fun n53 => ((.bool (n52 != (n53 : Int))) : Value) = .bool β27 ∧ h26 = h26)
 (((.bool false) : Value) = .bool β27 ∧ h26 = h26))))))) ∧
 ∀ d28 : Nat → Value,
 cond β27
 (R (.bool false) h26)
 (∃ J54 : Value → Hp → Prop,
 (∃ v58, cellH h26 (Addr.add A 6) = some v58 ∧
 ∃ v59, cellH h26 (Addr.add B 6) = some v59 ∧
 CallX Tryd.prog ω 69 [v58, v59] h26 (fun r60 h61 =>
 asB r60 fun b62 => cond (!b62)
 (J54 (.bool true) h61)
 (∃ v63, cellH h61 (Addr.add A 7) = some v63 ∧
 ∃ v64, cellH h61 (Addr.add B 7) = some v64 ∧
 CallX Tryd.prog ω 33 [v63, v64, places_p] h61 (fun r65 h66 =>
 asB r65 fun b67 => cond (!b67)
 (J54 (.bool true) h66)
 (∃ v68, cellH h66 (Addr.add A 8) = some v68 ∧
 ∃ v69, cellH h66 (Addr.add B 8) = some v69 ∧
 CallX Tryd.prog ω 33 [v68, v69, places_p] h66 (fun r70 h71 =>
 asB r70 fun b72 => J54 (.bool (!b72)) h71) X)) X)) X) ∧
 ∀ t95_55 (d56 : Nat → Value) (h57 : Hp), J54 t95_55 h57 →
 asB t95_55 fun b73 => cond b73
 (R (.bool false) h57)
 (asK .i64 i_8 fun n74 => I6 (.int .i64 (IntKind.wrap .i64 (n74 + 1))) h57 ∧ μ7 (.int .i64 (IntKind.wrap .i64 (n74 + 1))) h57 < μ7 i_8 h10))
section
variable {ω : Amb}
def SameSL (ω : Amb) (pl : Bool) (l : List St) : Prop := ∀ (m : List St) (h : Hp) (va vb : Value), StS h va l → StS h vb m → ∀ (X : List PanicEntry → Hp → Prop),
  CallX Tryd.prog ω n_pipewrightref_sameStmts [va, vb, .bool pl] h (fun r h' => (∃ b : Bool, r = .bool b ∧ (b = true ↔ stsZ pl l = stsZ pl m)) ∧ Keep (fun _ => False) h h') X
/-- two statements, laid at two places -/
theorem restS (pl : Bool) (x y : St) (hB : SameSL ω pl x.body) (hE : SameSL ω pl x.els) (hh h10 h26 : Hp) (LA LB : Nat) (ve vb vl we wb wl : Value)
    (hA : h26[LA]? = some (.cells (stC x ve vb vl).toArray 65 (0, 0))) (hBk : h26[LB]? = some (.cells (stC y we wb wl).toArray 65 (0, 0)))
    (a1 : ExS h26 ve x.e) (a2 : StS h26 vb x.body) (a3 : StS h26 vl x.els) (b1 : ExS h26 we y.e) (b2 : StS h26 wb y.body) (b3 : StS h26 wl y.els) (kh : Keep (fun _ => False) hh h26)
    {R : Value → Hp → Prop} {X : List PanicEntry → Hp → Prop} {I6 : Value → Hp → Prop} {μ7 : Value → Hp → Nat} (k : Nat) (hk0 : (k : Int) + 1 ≤ 9223372036854775807)
    (hne : ∀ h', Keep (fun _ => False) hh h' → stZ pl x ≠ stZ pl y → R (.bool false) h') (heq : ∀ h', Keep (fun _ => False) hh h' → stZ pl x = stZ pl y → I6 (.int .i64 ((k : Int) + 1)) h' ∧ μ7 (.int .i64 ((k : Int) + 1)) h' < μ7 (.int .i64 k) h10) :
    RestS ω (.bool pl) (.int .i64 k) h10 R X I6 μ7 ⟨LA, 0, none⟩ ⟨LB, 0, none⟩ h26 := by
  unfold RestS
  refine ⟨!decide (x.d = y.d ∧ x.a = y.a ∧ x.b = y.b ∧ x.t = y.t ∧ x.n = y.n ∧ (pl = true → x.at_ = y.at_)), ?_, fun _ => cond_c (fun hc => ?_) (fun hc => ?_)⟩
  · refine lx hA (j := 0) rfl ?_
    refine lx hBk (j := 0) rfl ?_
    rw [asK_int, asK_int]
    refine cond_c (fun hc => ?_) (fun hc => ?_)
    · have := bne_iff_ne.1 hc
      rw [decide_eq_false (fun h => this h.1)]
      exact ⟨rfl, rfl⟩
    have e1 : x.d = y.d := by simpa using hc
    refine lx hA (j := 2) rfl ?_
    refine lx hBk (j := 2) rfl ?_
    rw [asS_str, asS_str, eqB]
    refine cond_c (fun hc => ?_) (fun hc => ?_)
    · have : x.a ≠ y.a := by simpa using hc
      rw [decide_eq_false (fun h => this h.2.1)]
      exact ⟨rfl, rfl⟩
    have e2 : x.a = y.a := by simpa using hc
    refine lx hA (j := 3) rfl ?_
    refine lx hBk (j := 3) rfl ?_
    rw [asS_str, asS_str, eqB]
    refine cond_c (fun hc => ?_) (fun hc => ?_)
    · have : x.b ≠ y.b := by simpa using hc
      rw [decide_eq_false (fun h => this h.2.2.1)]
      exact ⟨rfl, rfl⟩
    have e3 : x.b = y.b := by simpa using hc
    refine lx hA (j := 4) rfl ?_
    refine lx hBk (j := 4) rfl ?_
    rw [asS_str, asS_str, eqB]
    refine cond_c (fun hc => ?_) (fun hc => ?_)
    · have : x.t ≠ y.t := by simpa using hc
      rw [decide_eq_false (fun h => this h.2.2.2.1)]
      exact ⟨rfl, rfl⟩
    have e4 : x.t = y.t := by simpa using hc
    refine lx hA (j := 5) rfl ?_
    refine lx hBk (j := 5) rfl ?_
    rw [asK_int, asK_int]
    refine cond_c (fun hc => ?_) (fun hc => ?_)
    · have := bne_iff_ne.1 hc
      rw [decide_eq_false (fun h => this h.2.2.2.2.1)]
      exact ⟨rfl, rfl⟩
    have e5 : x.n = y.n := by simpa using hc
    rw [asB_bool]
    refine cond_c (fun hc => ?_) (fun hc => ?_)
    · refine lx hA (j := 1) rfl ?_
      refine lx hBk (j := 1) rfl ?_
      rw [asK_int, asK_int]
      refine ⟨?_, rfl⟩
      congr 1
      rw [Bool.eq_iff_iff]
      simp [e1, e2, e3, e4, e5, hc]
    · refine ⟨?_, rfl⟩
      congr 1
      rw [Bool.eq_iff_iff]
      simp [e1, e2, e3, e4, e5, hc]
  · refine hne _ kh fun h => (show ¬ (x.d = y.d ∧ x.a = y.a ∧ x.b = y.b ∧ x.t = y.t ∧ x.n = y.n ∧ (pl = true → x.at_ = y.at_)) from by rw [Bool.not_eq_true'] at hc; exact of_decide_eq_false hc) ?_
    obtain ⟨c1, c2, c3, c4, c5, c6, _⟩ := stZ_iff.1 h
    exact ⟨c1, c2, c3, c4, c5, c6⟩
  have hh1 : x.d = y.d ∧ x.a = y.a ∧ x.b = y.b ∧ x.t = y.t ∧ x.n = y.n ∧ (pl = true → x.at_ = y.at_) := by simpa using hc
  refine ⟨fun v h' => (∃ b : Bool, v = .bool b ∧ (b = true ↔ stZ pl x ≠ stZ pl y)) ∧ Keep (fun _ => False) h26 h', ?_, ?_⟩
  · refine lx hA (j := 6) rfl ?_
    refine lx hBk (j := 6) rfl ?_
    refine CallX.use (sameE_law _ x.e (Nat.lt_succ_self _) y.e h26 ve we a1 b1) ?_
    rintro _ h27 ⟨⟨c, rfl, hc1⟩, k27⟩
    have hA27 := k27.get hA (by simp)
    have hB27 := k27.get hBk (by simp)
    rw [asB_bool]
    refine cond_c (fun hc => ?_) (fun hc => ?_)
    · have : ¬ x.e = y.e := fun h => by
        rw [hc1.2 h] at hc
        cases hc
      exact ⟨⟨true, rfl, by simp; exact fun h => this (stZ_iff.1 h).2.2.2.2.2.2.1⟩, k27⟩
    have e7 : x.e = y.e := hc1.1 (by simpa using hc)
    refine lx hA27 (j := 7) rfl ?_
    refine lx hB27 (j := 7) rfl ?_
    refine CallX.use (hB y.body h27 vb wb (a2.keep k27) (b2.keep k27)) ?_
    rintro _ h28 ⟨⟨c, rfl, hc2⟩, k28⟩
    have hA28 := k28.get hA27 (by simp)
    have hB28 := k28.get hB27 (by simp)
    rw [asB_bool]
    refine cond_c (fun hc => ?_) (fun hc => ?_)
    · have : ¬ stsZ pl x.body = stsZ pl y.body := fun h => by
        rw [hc2.2 h] at hc
        cases hc
      exact ⟨⟨true, rfl, by simp; exact fun h => this (stZ_iff.1 h).2.2.2.2.2.2.2.1⟩, k27.trans k28⟩
    have e8 := hc2.1 (by simpa using hc)
    refine lx hA28 (j := 8) rfl ?_
    refine lx hB28 (j := 8) rfl ?_
    refine CallX.use (hE y.els h28 vl wl (a3.keep (k27.trans k28)) (b3.keep (k27.trans k28))) ?_
    rintro _ h29 ⟨⟨c, rfl, hc3⟩, k29⟩
    rw [asB_bool]
    refine ⟨⟨!c, rfl, ?_⟩, (k27.trans k28).trans k29⟩
    constructor
    · intro h hall
      have : c = true := hc3.2 (stZ_iff.1 hall).2.2.2.2.2.2.2.2
      rw [this] at h
      cases h
    · intro hn
      cases c with
      | false => rfl
      | true => exact absurd (stZ_iff.2 ⟨hh1.1, hh1.2.1, hh1.2.2.1, hh1.2.2.2.1, hh1.2.2.2.2.1, hh1.2.2.2.2.2, e7, e8, hc3.1 rfl⟩) hn
  · rintro _ _ h27 ⟨⟨c, rfl, hcc⟩, k27⟩
    rw [asB_bool]
    refine cond_c (fun hc => ?_) (fun hc => ?_)
    · exact hne _ (kh.trans k27) (hcc.1 hc)
    · have he : stZ pl x = stZ pl y := Classical.byContradiction fun hn => by
        rw [hcc.2 hn] at hc
        cases hc
      rw [asK_int, i64_in (by omega) (by omega)]
      exact heq _ (kh.trans k27) he
end
end Go.Proofs.YtaehnpilebkcoaaDoor

namespace Go.Proofs.YtaehnpilebkcoaaDoor
open Go Go.Sx Go.Sx.Tk Go.Sx.Rn Go.Proofs.YtaehnpilebkcoaaDoor.Sx

/-- two blocks made; the first or the second is written -/
theorem two_at {h : Hp} {z : Array Value} {T : TypeId} : (Array.push (Array.push h (.cells z T (0, 0))) (.cells z T (0, 0)))[h.size]? = some (.cells z T (0, 0)) ∧ (Array.push (Array.push h (.cells z T (0, 0))) (.cells z T (0, 0)))[(Array.push h (.cells z T (0, 0))).size]? = some (.cells z T (0, 0)) ∧ (Array.push h (.cells z T (0, 0))).size = h.size + 1 :=
  ⟨hp_push_old hp_push_new, hp_push_new, by simp⟩
theorem two_k {h : Hp} (o o' : Obj) : Keep (fun _ => False) h (Array.push (Array.push h o) o') := (Keep.push (S := fun _ => False) h o).trans (Keep.push _ o')
theorem st_at {h : Hp} {L : Nat} {z : Array Value} {T : TypeId} {cs : List Value} {K : Hp → Prop} (hz : h[L]? = some (.cells z T (0, 0))) (hc : cs.length = z.size)
    (hk : ∀ h', Keep (fun k => k = L) h h' → h'[L]? = some (.cells cs.toArray T (0, 0)) → K h') : storeK h ⟨L, 0, none⟩ cs K := by
  refine storeK_of (o := 0) hz (by omega) ?_
  rw [spl_all hc]
  exact hk _ (Keep.set (S := fun k => k = L) _ rfl) (hp_set_same hz)
theorem stsZ_len (pl : Bool) (l : List St) : (stsZ pl l).length = l.length := by rw [stsZ_map, List.length_map]
theorem stsZ_get {pl : Bool} {l : List St} {k : Nat} {x : St} (h : l[k]? = some x) : (stsZ pl l)[k]? = some (stZ pl x) := by rw [stsZ_map, List.getElem?_map, h]; rfl
theorem stsZ_snoc (pl : Bool) (l : List St) (x : St) : stsZ pl (l ++ [x]) = stsZ pl l ++ [stZ pl x] := by rw [stsZ_map, stsZ_map, List.map_append]; rfl
section
variable {ω : Amb}
theorem sameS_law (pl : Bool) : ∀ (N : Nat) (l : List St), stsN l < N → SameSL ω pl l := by
  intro N
  induction N with
  | zero => exact fun l hN => absurd hN (Nat.not_lt_zero _)
  | succ N ih =>
    intro l hN m h va vb ha hb X
    refine C_pipewrightref_sameStmts ω _ _ _ h _ X ?_
    unfold W_pipewrightref_sameStmts
    have hmax := ha.max
    refine ha.sl fun _ _ => ?_
    refine hb.sl fun _ _ => ?_
    refine cond_c (fun hc => ?_) (fun hc => ?_)
    · have hne := bne_iff_ne.1 hc
      refine ⟨⟨false, rfl, by simp; exact fun h => hne (by rw [← stsZ_len pl l, h, stsZ_len])⟩, Keep.refl _ _⟩
    have hlen : l.length = m.length := by
      have : (l.length : Int) = m.length := by simpa using hc
      omega
    refine ⟨fun t h' => ∃ k : Nat, t = .int .i64 k ∧ k ≤ l.length ∧ stsZ pl (l.take k) = stsZ pl (m.take k) ∧ Keep (fun _ => False) h h', fun t _ => match t with | .int _ k => l.length - k.toNat | _ => 0,
      ⟨0, rfl, by omega, rfl, Keep.refl _ _⟩, ?_⟩
    rintro _ _ h3 ⟨k, rfl, hk, heq, k3⟩
    have ha3 := ha.keep k3
    have hb3 := hb.keep k3
    refine ha3.sl fun _ _ => ?_
    rw [asK_int]
    refine cond_c (fun hc => ?_) (fun hc => ?_)
    rotate_left
    · have hc := of_decide_eq_false hc
      obtain rfl : k = l.length := by omega
      rw [List.take_length, List.take_of_length_le (by omega)] at heq
      exact ⟨⟨true, rfl, by simp [heq]⟩, k3⟩
    have hkl : k < l.length := by
      have := of_decide_eq_true hc
      omega
    have hx := List.getElem?_eq_getElem hkl
    have hy := List.getElem?_eq_getElem (show k < m.length by omega)
    have hmem : l[k] ∈ l := List.getElem_mem hkl
    generalize l[k] = x at hx hmem
    generalize m[k] = y at hy
    have hxn := stsN_mem hmem
    have hxe := stN_eq x
    refine rdCaS ha3 (Keep.refl _ _) hx fun aa ve vb' vl he hbd hel hca => ?_
    refine rdCaS hb3 (Keep.refl _ _) hy fun ab we wb' wl he' hbd' hel' hcb => ?_
    have kz1 := Keep.push (S := fun _ => False) h3 (.cells #[(.int .i64 0), (.int .i64 0), (.string ⟨#[]⟩), (.string ⟨#[]⟩), (.string ⟨#[]⟩), (.int .i64 0), (.slice none 0 0), (.slice none 0 0), (.slice none 0 0)] 65 (0, 0))
    have kz2 := kz1.trans (Keep.push (S := fun _ => False) (Array.push h3 (.cells #[(.int .i64 0), (.int .i64 0), (.string ⟨#[]⟩), (.string ⟨#[]⟩), (.string ⟨#[]⟩), (.int .i64 0), (.slice none 0 0), (.slice none 0 0), (.slice none 0 0)] 65 (0, 0))) (.cells #[(.int .i64 0), (.int .i64 0), (.string ⟨#[]⟩), (.string ⟨#[]⟩), (.string ⟨#[]⟩), (.int .i64 0), (.slice none 0 0), (.slice none 0 0), (.slice none 0 0)] 65 (0, 0)))
    have hne : stZ pl x ≠ stZ pl y → stsZ pl l ≠ stsZ pl m := fun hn => take_ne (stsZ_get hx) (stsZ_get hy) hn
    have hfin : ∀ h', Keep (fun _ => False) h3 h' → stZ pl x = stZ pl y → (∃ k' : Nat, Value.int .i64 ((k : Int) + 1) = .int .i64 k' ∧ k' ≤ l.length ∧ stsZ pl (l.take k') = stsZ pl (m.take k') ∧ Keep (fun _ => False) h h') := fun h' kk he =>
      ⟨k + 1, by simp, by omega, by rw [tk_snoc hx, tk_snoc hy, stsZ_snoc, stsZ_snoc, heq, he], k3.trans kk⟩
    have hBd : SameSL ω pl x.body := ih x.body (by omega)
    have hEl : SameSL ω pl x.els := ih x.els (by omega)
    have hgt : (k : Int) + 1 ≤ 9223372036854775807 := by omega
    refine ⟨⟨Keep.cells kz1 hcb, Keep.cells kz1 hca, Keep.cells kz2 hcb, Keep.cells kz2 hca, rfl, stC_one he.isSl hbd.isSl hel.isSl, ?_⟩, Keep.cells kz1 hcb, Keep.cells kz1 hca, Keep.cells kz2 hcb, Keep.cells kz2 hca, rfl, stC_one he.isSl hbd.isSl hel.isSl, ?_⟩
    · obtain ⟨hA, hB, hsz⟩ := two_at (h := h3) (z := #[(.int .i64 0), (.int .i64 0), (.string ⟨#[]⟩), (.string ⟨#[]⟩), (.string ⟨#[]⟩), (.int .i64 0), (.slice none 0 0), (.slice none 0 0), (.slice none 0 0)]) (T := 65)
      refine st_at hA rfl fun h25 k25 hA25 => ?_
      have kk := newK kz2 k25
      refine ⟨Keep.cells kk hcb, rfl, stC_one he'.isSl hbd'.isSl hel'.isSl, ?_⟩
      refine st_at (k25.get hB (by omega)) rfl fun h26 k26 hB26 => ?_
      have kk2 := newL kk (by omega) k26
      refine restS pl x y hBd hEl h3 h3 h26 h3.size _ ve vb' vl we wb' wl (k26.get hA25 (by omega)) hB26 (he.keep kk2) (hbd.keep kk2) (hel.keep kk2) (he'.keep kk2) (hbd'.keep kk2) (hel'.keep kk2) kk2 (R := fun r h' => (∃ b : Bool, r = .bool b ∧ (b = true ↔ stsZ pl l = stsZ pl m)) ∧ Keep (fun _ => False) h h') (X := X) (I6 := fun t h' => ∃ k : Nat, t = .int .i64 k ∧ k ≤ l.length ∧ stsZ pl (l.take k) = stsZ pl (m.take k) ∧ Keep (fun _ => False) h h') (μ7 := fun t _ => match t with | .int _ k => l.length - k.toNat | _ => 0) k hgt (fun h'' k'' hn => ?_) (fun h'' k'' he => ?_)
      · exact ⟨⟨false, rfl, by simp; exact hne hn⟩, k3.trans k''⟩
      · exact ⟨hfin h'' k'' he, by simp; omega⟩
    · obtain ⟨hA, hB, hsz⟩ := two_at (h := h3) (z := #[(.int .i64 0), (.int .i64 0), (.string ⟨#[]⟩), (.string ⟨#[]⟩), (.string ⟨#[]⟩), (.int .i64 0), (.slice none 0 0), (.slice none 0 0), (.slice none 0 0)]) (T := 65)
      refine st_at hB rfl fun h25 k25 hA25 => ?_
      have kk := newL kz2 (by omega) k25
      refine ⟨Keep.cells kk hcb, rfl, stC_one he'.isSl hbd'.isSl hel'.isSl, ?_⟩
      refine st_at (k25.get hA (by omega)) rfl fun h26 k26 hB26 => ?_
      have kk2 := newK kk k26
      refine restS pl x y hBd hEl h3 h3 h26 _ h3.size ve vb' vl we wb' wl (k26.get hA25 (by omega)) hB26 (he.keep kk2) (hbd.keep kk2) (hel.keep kk2) (he'.keep kk2) (hbd'.keep kk2) (hel'.keep kk2) kk2 (R := fun r h' => (∃ b : Bool, r = .bool b ∧ (b = true ↔ stsZ pl l = stsZ pl m)) ∧ Keep (fun _ => False) h h') (X := X) (I6 := fun t h' => ∃ k : Nat, t = .int .i64 k ∧ k ≤ l.length ∧ stsZ pl (l.take k) = stsZ pl (m.take k) ∧ Keep (fun _ => False) h h') (μ7 := fun t _ => match t with | .int _ k => l.length - k.toNat | _ => 0) k hgt (fun h'' k'' hn => ?_) (fun h'' k'' he => ?_)
      · exact ⟨⟨false, rfl, by simp; exact hne hn⟩, k3.trans k''⟩
      · exact ⟨hfin h'' k'' he, by simp; omega⟩
end
end Go.Proofs.YtaehnpilebkcoaaDoor

namespace Go.Proofs.YtaehnpilebkcoaaDoor
open Go Go.Sx Go.Sx.Tk Go.Sx.Rn Go.Proofs.YtaehnpilebkcoaaDoor.Sx

def sgZ (pl : Bool) (s : Sg) : Sg := ⟨s.nm, if pl then s.at_ else 0, s.ps, stsZ pl s.body⟩
def sgsZ (pl : Bool) (p : List Sg) : List Sg := p.map (sgZ pl)
theorem sgZ_iff {pl : Bool} {x y : Sg} : sgZ pl x = sgZ pl y ↔ x.nm = y.nm ∧ (pl = true → x.at_ = y.at_) ∧ x.ps = y.ps ∧ stsZ pl x.body = stsZ pl y.body := by
  cases x; cases y
  simp only [sgZ, Sg.mk.injEq]
  constructor
  · rintro ⟨h1, h2, h3, h4⟩
    exact ⟨h1, fun hp => by rw [hp] at h2; exact h2, h3, h4⟩
  · rintro ⟨h1, h2, h3, h4⟩
    refine ⟨h1, ?_, h3, h4⟩
    cases pl with
    | false => rfl
    | true => exact h2 rfl
theorem sgsZ_snoc (pl : Bool) (l : List Sg) (x : Sg) : sgsZ pl (l ++ [x]) = sgsZ pl l ++ [sgZ pl x] := by unfold sgsZ; rw [List.map_append]; rfl
theorem sgsZ_get {pl : Bool} {l : List Sg} {k : Nat} {x : Sg} (h : l[k]? = some x) : (sgsZ pl l)[k]? = some (sgZ pl x) := by unfold sgsZ; rw [List.getElem?_map, h]; rfl
theorem rdCaG {h0 h : Hp} {v : Value} {l : List Sg} (hs : SgS h0 v l) (k : Keep (fun _ => False) h0 h) {i : Nat} {x : Sg} (hx : l[i]? = some x) {K : Addr → List Value → Prop}
    (hk : ∀ a vp vb, PsS h0 vp x.ps → StS h0 vb x.body → cellsH h (Addr.add a (Int.toNat (i : Int) * 4)) 4 (sgC x vp vb) → K a (sgC x vp vb)) :
    asSl1 v fun a l _ => 0 ≤ (i : Int) ∧ (i : Int) < (l : Int) ∧ ∃ C, cellsH h (Addr.add a (Int.toNat (i : Int) * 4)) 4 C ∧ K a C := by
  obtain ⟨us, vp, vb, h1, h2, h3, h4⟩ := hs.at_ hx
  have h1' := h1.keep k
  have hi := (List.getElem?_eq_some_iff.1 hx).1
  rcases h1'.2 with ⟨h0', _⟩ | ⟨b, o, cap, rfl, hc⟩
  · omega
  · rw [asSl1_sl]
    have hcc : cellsH h (Addr.add ⟨b, o, none⟩ (Int.toNat (i : Int) * 4)) 4 (sgC x vp vb) := by
      refine ⟨rfl, fun j u hu => ?_⟩
      rw [addr_add, addr_add, Int.toNat_natCast, Nat.add_assoc]
      rw [← h2, List.getElem?_take] at hu
      split at hu
      · rw [List.getElem?_drop] at hu
        exact hc _ u hu
      · cases hu
    exact ⟨by omega, by omega, _, hcc, hk _ vp vb h3 h4 hcc⟩
theorem pair_eq {a b : ByteArray × ByteArray} : (a.1.toList == b.1.toList && (a.2.toList == b.2.toList && true)) = decide (a = b) := by
  rw [eqB, eqB, Bool.eq_iff_iff]
  cases a; cases b
  simp
def RestG (ω : Amb) (places_p i_10 : Value) (h12 : Hp) (R : Value → Hp → Prop) (X : List PanicEntry → Hp → Prop) (I8 : Value → Hp → Prop) (μ9 : Value → Hp → Nat) (A B : Addr) (h31 : Hp) : Prop :=
 ∃ J32 : Value → Hp → Prop,
 (∃ v36, cellH h31 (Addr.add A 0) = some v36 ∧
 ∃ v37, cellH h31 (Addr.add B 0) = some v37 ∧
 asS v36 fun s38 => asS v37 fun s39 => cond (!(ByteArray.toList s38 == ByteArray.toList s39))
 (J32 (.bool true) h31)
 (asB places_p fun b40 => cond b40
 (∃ v41, cellH h31 (Addr.add A 1) = some v41 ∧
 ∃ v42, cellH h31 (Addr.add B 1) = some v42 ∧
 asK .i64 v41 fun n43 => asK .i64 v42 fun n44 => cond (n43 != (n44 : Int))
 (J32 (.bool true) h31)
 (∃ v45, cellH h31 (Addr.add A 2) = some v45 ∧
 asSl v45 fun a46 l47 c48 => ∃ v49, cellH h31 (Addr.add B 2) = some v49 ∧
 asSl v49 fun a50 l51 c52 => cond ((l47 : Int) != ((l51 : Int) : Int))
 (J32 (.bool true) h31)
 (∃ v53, cellH h31 (Addr.add A 3) = some v53 ∧
 ∃ v54, cellH h31 (Addr.add B 3) = some v54 ∧
 CallX Tryd.prog ω 33 [v53, v54, places_p] h31 (fun r55 h56 =>
 asB r55 fun b57 => J32 (.bool (!b57)) h56) X)))
 (∃ v58, cellH h31 (Addr.add A 2) = some v58 ∧
 asSl v58 fun a59 l60 c61 => ∃ v62, cellH h31 (Addr.add B 2) = some v62 ∧
 asSl v62 fun a63 l64 c65 => cond ((l60 : Int) != ((l64 : Int) : Int))
 (J32 (.bool true) h31)
 (∃ v66, cellH h31 (Addr.add A 3) = some v66 ∧
 ∃ v67, cellH h31 (Addr.add B 3) = some v67 ∧
 CallX Tryd.prog ω 33 [v66, v67, places_p] h31 (fun r68 h69 =>
 asB r68 fun b70 => J32 (.bool (!b70)) h69) X)))) ∧
 ∀ t67_33 (d34 : Nat → Value) (h35 : Hp), J32 t67_33 h35 →
 asB t67_33 fun b71 => cond b71
 (R (.bool false) h35)
 (∃ (I72 : Value → Hp → Prop) (μ73 : Value → Hp → Nat), I72 (.int .i64 0) h35 ∧ ∀ k_74 (d75 : Nat → Value) (h76 : Hp), I72 k_74 h76 →
 ∃ v77, cellH h76 (Addr.add A 2) = some v77 ∧
 asSl v77 fun a78 l79 c80 => asK .i64 k_74 fun n81 => cond (decide ((n81 : Int) < (l79 : Int)))
 (∃ v82, cellH h76 (Addr.add A 2) = some v82 ∧
 asSl1 v82 fun a83 l84 c85 => asI k_74 fun n86 => 0 ≤ (n86 : Int) ∧ n86 < (l84 : Int) ∧ ∃ C87, cellsH h76 (Addr.add a83 (Int.toNat n86 * 2)) 2 C87 ∧
 ∃ v88, cellH h76 (Addr.add B 2) = some v88 ∧
 asSl1 v88 fun a89 l90 c91 => asI k_74 fun n92 => 0 ≤ (n92 : Int) ∧ n92 < (l90 : Int) ∧ ∃ C93, cellsH h76 (Addr.add a89 (Int.toNat n92 * 2)) 2 C93 ∧
 asO C87.toArray[0]? fun v94 => asO C93.toArray[0]? fun v95 => asS v94 fun s96 => asS v95 fun s97 => asO C87.toArray[1]? fun v98 => asO C93.toArray[1]? fun v99 => asS v98 fun s100 => asS v99 fun s101 => cond (!((ByteArray.toList s96 == ByteArray.toList s97) && ((ByteArray.toList s100 == ByteArray.toList s101) && true)))
 (R (.bool false) h76)
 (asK .i64 k_74 fun n102 => I72 (.int .i64 (IntKind.wrap .i64 (n102 + 1))) h76 ∧ μ73 (.int .i64 (IntKind.wrap .i64 (n102 + 1))) h76 < μ73 k_74 h76))
 (asK .i64 i_10 fun n103 => I8 (.int .i64 (IntKind.wrap .i64 (n103 + 1))) h76 ∧ μ9 (.int .i64 (IntKind.wrap .i64 (n103 + 1))) h76 < μ9 i_10 h12))
section
variable {ω : Amb}
theorem restG (pl : Bool) (x y : Sg) (hh h12 h31 : Hp) (LA LB : Nat) (vp vb wp wb : Value)
    (hA : h31[LA]? = some (.cells (sgC x vp vb).toArray 51 (0, 0))) (hBk : h31[LB]? = some (.cells (sgC y wp wb).toArray 51 (0, 0)))
    (a1 : PsS h31 vp x.ps) (a2 : StS h31 vb x.body) (b1 : PsS h31 wp y.ps) (b2 : StS h31 wb y.body) (hpl : x.ps.length ≤ 4611686018427387904) (kh : Keep (fun _ => False) hh h31)
    {R : Value → Hp → Prop} {X : List PanicEntry → Hp → Prop} {I8 : Value → Hp → Prop} {μ9 : Value → Hp → Nat} (k : Nat) (hk0 : (k : Int) + 1 ≤ 9223372036854775807)
    (hne : ∀ h', Keep (fun _ => False) hh h' → sgZ pl x ≠ sgZ pl y → R (.bool false) h') (heq : ∀ h', Keep (fun _ => False) hh h' → sgZ pl x = sgZ pl y → I8 (.int .i64 ((k : Int) + 1)) h' ∧ μ9 (.int .i64 ((k : Int) + 1)) h' < μ9 (.int .i64 k) h12) :
    RestG ω (.bool pl) (.int .i64 k) h12 R X I8 μ9 ⟨LA, 0, none⟩ ⟨LB, 0, none⟩ h31 := by
  unfold RestG
  refine ⟨fun v h' => (∃ b : Bool, v = .bool b ∧ (b = true ↔ ¬ (x.nm = y.nm ∧ (pl = true → x.at_ = y.at_) ∧ x.ps.length = y.ps.length ∧ stsZ pl x.body = stsZ pl y.body))) ∧ Keep (fun _ => False) h31 h', ?_, ?_⟩
  · refine lx hA (j := 0) rfl ?_
    refine lx hBk (j := 0) rfl ?_
    rw [asS_str, asS_str, eqB]
    refine cond_c (fun hc => ?_) (fun hc => ?_)
    · have : x.nm ≠ y.nm := by simpa using hc
      exact ⟨⟨true, rfl, by simp only [true_iff]; exact fun h => this h.1⟩, Keep.refl _ _⟩
    have e1 : x.nm = y.nm := by simpa using hc
    have fin : ∀ (hat : pl = true → x.at_ = y.at_), ∃ v45, cellH h31 (Addr.add ⟨LA, 0, none⟩ 2) = some v45 ∧ asSl v45 fun _ l47 _ => ∃ v49, cellH h31 (Addr.add ⟨LB, 0, none⟩ 2) = some v49 ∧ asSl v49 fun _ l51 _ => cond ((l47 : Int) != ((l51 : Int) : Int))
        ((∃ b : Bool, (.bool true : Value) = .bool b ∧ (b = true ↔ ¬ (x.nm = y.nm ∧ (pl = true → x.at_ = y.at_) ∧ x.ps.length = y.ps.length ∧ stsZ pl x.body = stsZ pl y.body))) ∧ Keep (fun _ => False) h31 h31)
        (∃ v53, cellH h31 (Addr.add ⟨LA, 0, none⟩ 3) = some v53 ∧ ∃ v54, cellH h31 (Addr.add ⟨LB, 0, none⟩ 3) = some v54 ∧
          CallX Tryd.prog ω n_pipewrightref_sameStmts [v53, v54, .bool pl] h31 (fun r55 h56 => asB r55 fun b57 => (∃ b : Bool, (.bool (!b57) : Value) = .bool b ∧ (b = true ↔ ¬ (x.nm = y.nm ∧ (pl = true → x.at_ = y.at_) ∧ x.ps.length = y.ps.length ∧ stsZ pl x.body = stsZ pl y.body))) ∧ Keep (fun _ => False) h31 h56) X) := by
      intro hat
      refine lx hA (j := 2) rfl ?_
      refine SlAt.sl a1.1 fun _ _ => ?_
      refine lx hBk (j := 2) rfl ?_
      refine SlAt.sl b1.1 fun _ _ => ?_
      refine cond_c (fun hc => ?_) (fun hc => ?_)
      · have := bne_iff_ne.1 hc
        exact ⟨⟨true, rfl, by simp only [true_iff]; exact fun h => this (by rw [h.2.2.1])⟩, Keep.refl _ _⟩
      have e3 : x.ps.length = y.ps.length := by
        have : (x.ps.length : Int) = y.ps.length := by simpa using hc
        omega
      refine lx hA (j := 3) rfl ?_
      refine lx hBk (j := 3) rfl ?_
      refine CallX.use (sameS_law pl _ x.body (Nat.lt_succ_self _) y.body h31 vb wb a2 b2) ?_
      rintro _ h4 ⟨⟨c, rfl, hcc⟩, k4⟩
      rw [asB_bool]
      refine ⟨⟨!c, rfl, ?_⟩, k4⟩
      rw [Bool.not_eq_true', ← Bool.not_eq_true, hcc]
      exact ⟨fun h hall => h hall.2.2.2, fun h hall => h ⟨e1, hat, e3, hall⟩⟩
    rw [asB_bool]
    refine cond_c (fun hp => ?_) (fun hp => ?_)
    · refine lx hA (j := 1) rfl ?_
      refine lx hBk (j := 1) rfl ?_
      rw [asK_int, asK_int]
      refine cond_c (fun hc => ?_) (fun hc => ?_)
      · have := bne_iff_ne.1 hc
        exact ⟨⟨true, rfl, by simp only [true_iff]; exact fun h => this (h.2.1 hp)⟩, Keep.refl _ _⟩
      have e2 : x.at_ = y.at_ := by simpa using hc
      exact fin fun _ => e2
    · exact fin fun h => by rw [hp] at h; cases h
  rintro _ _ h32 ⟨⟨c, rfl, hcc⟩, k32⟩
  have hA32 := k32.get hA (by simp)
  have hB32 := k32.get hBk (by simp)
  rw [asB_bool]
  refine cond_c (fun hc => ?_) (fun hc => ?_)
  · refine hne _ (kh.trans k32) fun h => hcc.1 hc ?_
    obtain ⟨q1, q2, q3, q4⟩ := sgZ_iff.1 h
    exact ⟨q1, q2, by rw [q3], q4⟩
  have hall : x.nm = y.nm ∧ (pl = true → x.at_ = y.at_) ∧ x.ps.length = y.ps.length ∧ stsZ pl x.body = stsZ pl y.body := Classical.byContradiction fun hn => by
    rw [hcc.2 hn] at hc
    cases hc
  obtain ⟨e1, e2, e3, e4⟩ := hall
  refine ⟨fun t h' => ∃ j : Nat, t = .int .i64 j ∧ j ≤ x.ps.length ∧ x.ps.take j = y.ps.take j ∧ h32 = h', fun t _ => match t with | .int _ j => x.ps.length - j.toNat | _ => 0, ⟨0, rfl, by omega, rfl, rfl⟩, ?_⟩
  rintro _ _ _ ⟨j, rfl, hj, htk, rfl⟩
  refine lx hA32 (j := 2) rfl ?_
  refine SlAt.sl (a1.keep k32).1 fun _ _ => ?_
  rw [asK_int]
  refine cond_c (fun hc => ?_) (fun hc => ?_)
  · have hjl : j < x.ps.length := by
      have := of_decide_eq_true hc
      omega
    have hx := List.getElem?_eq_getElem hjl
    have hy := List.getElem?_eq_getElem (show j < y.ps.length by omega)
    generalize x.ps[j] = p at hx
    generalize y.ps[j] = q at hy
    refine lx hA32 (j := 2) rfl ?_
    refine SlAt.rdS (f := pf) (a1.keep k32).1 pf_len hx ?_
    refine lx hB32 (j := 2) rfl ?_
    refine SlAt.rdS (f := pf) (b1.keep k32).1 pf_len hy ?_
    have g0 : ∀ p : ByteArray × ByteArray, (pf p).toArray[0]? = some (.string p.1) := fun _ => rfl
    have g1 : ∀ p : ByteArray × ByteArray, (pf p).toArray[1]? = some (.string p.2) := fun _ => rfl
    simp only [g0, g1, asO_some, asS_str]
    rw [pair_eq]
    refine cond_c (fun hc => ?_) (fun hc => ?_)
    · have : p ≠ q := by simpa using hc
      exact hne _ (kh.trans k32) fun h => take_ne hx hy this (sgZ_iff.1 h).2.2.1
    · have he : p = q := by simpa using hc
      rw [asK_int, i64_in (by omega) (by omega)]
      exact ⟨⟨j + 1, by simp, by omega, by rw [tk_snoc hx, tk_snoc hy, htk, he], trivial⟩, by simp; omega⟩
  · have hc := of_decide_eq_false hc
    obtain rfl : j = x.ps.length := by omega
    rw [List.take_length, List.take_of_length_le (by omega)] at htk
    rw [asK_int, i64_in (by omega) (by omega)]
    exact heq _ (kh.trans k32) (sgZ_iff.2 ⟨e1, e2, htk, e4⟩)
theorem SameP_law (pl : Bool) (p q : List Sg) (hpn : p.length ≤ 1000) (hps : ∀ s ∈ p, s.ps.length ≤ 1000) (h : Hp) (va vb : Value) (ha : PgS h va p) (hb : PgS h vb q) (X : List PanicEntry → Hp → Prop) :
    CallX Tryd.prog ω n_pipewrightref_SameProgram [va, vb, .bool pl] h (fun r h' => (∃ b : Bool, r = .bool b ∧ (b = true ↔ sgsZ pl p = sgsZ pl q)) ∧ Keep (fun _ => False) h h') X := by
  obtain ⟨wa, rfl, ha⟩ := ha
  obtain ⟨wb, rfl, hb⟩ := hb
  refine C_pipewrightref_SameProgram ω _ _ _ h _ X ?_
  unfold W_pipewrightref_SameProgram
  simp only [show ∀ w : Value, Value.cells (.agg #[w]) = [w].toArray from fun _ => rfl]
  have hb0 := hp_push_new (h := h) (o := .cells [wa].toArray 24 (0, 0))
  have k0 := Keep.push (S := fun _ => False) h (.cells [wa].toArray 24 (0, 0))
  generalize h.push (.cells [wa].toArray 24 (0, 0)) = h1 at *
  have hb1 := hp_push_new (h := h1) (o := .cells [wb].toArray 24 (0, 0))
  have k1 := Keep.push (S := fun _ => False) h1 (.cells [wb].toArray 24 (0, 0))
  generalize h1.push (.cells [wb].toArray 24 (0, 0)) = h2 at *
  have hb0 := k1.get hb0 (by simp)
  have k02 := k0.trans k1
  have ha := ha.keep k02
  have hb := hb.keep k02
  refine lx hb0 (j := 0) rfl ?_
  refine ha.sl fun _ _ => ?_
  refine lx hb1 (j := 0) rfl ?_
  refine hb.sl fun _ _ => ?_
  have hzl : sgsZ pl p = sgsZ pl q → p.length = q.length := fun h => by
    have := congrArg List.length h
    simpa [sgsZ] using this
  refine cond_c (fun hc => ?_) (fun hc => ?_)
  · have hne := bne_iff_ne.1 hc
    refine ⟨⟨false, rfl, by simp; exact fun h => hne (by rw [hzl h])⟩, k02⟩
  have hlen : p.length = q.length := by
    have : (p.length : Int) = q.length := by simpa using hc
    omega
  refine ⟨fun t h' => ∃ k : Nat, t = .int .i64 k ∧ k ≤ p.length ∧ sgsZ pl (p.take k) = sgsZ pl (q.take k) ∧ Keep (fun _ => False) h2 h', fun t _ => match t with | .int _ k => p.length - k.toNat | _ => 0,
    ⟨0, rfl, by omega, rfl, Keep.refl _ _⟩, ?_⟩
  rintro _ _ h3 ⟨k, rfl, hk, heq, k3⟩
  have ha3 := ha.keep k3
  have hb3 := hb.keep k3
  have hb03 := k3.get hb0 (by simp)
  have hb13 := k3.get hb1 (by simp)
  refine lx hb03 (j := 0) rfl ?_
  refine ha3.sl fun _ _ => ?_
  rw [asK_int]
  refine cond_c (fun hc => ?_) (fun hc => ?_)
  rotate_left
  · have hc := of_decide_eq_false hc
    obtain rfl : k = p.length := by omega
    rw [List.take_length, List.take_of_length_le (by omega)] at heq
    exact ⟨⟨true, rfl, by simp [heq]⟩, k02.trans k3⟩
  have hkl : k < p.length := by
    have := of_decide_eq_true hc
    omega
  have hx := List.getElem?_eq_getElem hkl
  have hy := List.getElem?_eq_getElem (show k < q.length by omega)
  have hmem : p[k] ∈ p := List.getElem_mem hkl
  generalize p[k] = x at hx hmem
  generalize q[k] = y at hy
  have hxps := hps x hmem
  refine lx hb03 (j := 0) rfl ?_
  refine rdCaG ha3 (Keep.refl _ _) hx fun aa vp vb hpp hbd hca => ?_
  refine lx hb13 (j := 0) rfl ?_
  refine rdCaG hb3 (Keep.refl _ _) hy fun ab wp wb' hpp' hbd' hcb => ?_
  have kz1 := Keep.push (S := fun _ => False) h3 (.cells #[(.string ⟨#[]⟩), (.int .i64 0), (.slice none 0 0), (.slice none 0 0)] 51 (0, 0))
  have kz2 := two_k (h := h3) (.cells #[(.string ⟨#[]⟩), (.int .i64 0), (.slice none 0 0), (.slice none 0 0)] 51 (0, 0)) (.cells #[(.string ⟨#[]⟩), (.int .i64 0), (.slice none 0 0), (.slice none 0 0)] 51 (0, 0))
  have hne : sgZ pl x ≠ sgZ pl y → sgsZ pl p ≠ sgsZ pl q := fun hn => take_ne (sgsZ_get hx) (sgsZ_get hy) hn
  have hfin : ∀ h', Keep (fun _ => False) h3 h' → sgZ pl x = sgZ pl y → (∃ k' : Nat, Value.int .i64 ((k : Int) + 1) = .int .i64 k' ∧ k' ≤ p.length ∧ sgsZ pl (p.take k') = sgsZ pl (q.take k') ∧ Keep (fun _ => False) h2 h') := fun h' kk he =>
    ⟨k + 1, by simp, by omega, by rw [tk_snoc hx, tk_snoc hy, sgsZ_snoc, sgsZ_snoc, heq, he], k3.trans kk⟩
  have hgt : (k : Int) + 1 ≤ 9223372036854775807 := by omega
  have g0 : ∀ {hh : Hp}, Keep (fun _ => False) h3 hh → cellH hh (Addr.add ⟨Array.size h, 0, none⟩ 0) = some wa := fun kk => lx' (kk.get hb03 (by simp)) rfl
  have g1 : ∀ {hh : Hp}, Keep (fun _ => False) h3 hh → cellH hh (Addr.add ⟨Array.size h1, 0, none⟩ 0) = some wb := fun kk => lx' (kk.get hb13 (by simp)) rfl
  obtain ⟨hA, hB, hsz⟩ := two_at (h := h3) (z := #[(.string ⟨#[]⟩), (.int .i64 0), (.slice none 0 0), (.slice none 0 0)]) (T := 51)
  refine ⟨⟨Keep.cells kz1 hcb, g1 kz1, Keep.cells kz1 hca, g0 kz1, Keep.cells kz2 hcb, g1 kz2, Keep.cells kz2 hca, g0 kz2, rfl, sgC_one (nilOr_isSl hpp.2) hbd.isSl, ?_⟩, Keep.cells kz1 hcb, g1 kz1, Keep.cells kz1 hca, g0 kz1, Keep.cells kz2 hcb, g1 kz2, Keep.cells kz2 hca, g0 kz2, rfl, sgC_one (nilOr_isSl hpp.2) hbd.isSl, ?_⟩
  · refine st_at hA rfl fun h25 k25 hA25 => ?_
    have kk := newK kz2 k25
    refine ⟨Keep.cells kk hcb, g1 kk, rfl, sgC_one (nilOr_isSl hpp'.2) hbd'.isSl, ?_⟩
    refine st_at (k25.get hB (by omega)) rfl fun h26 k26 hB26 => ?_
    have kk2 := newL kk (by omega) k26
    refine restG pl x y h3 h3 h26 h3.size _ vp vb wp wb' (k26.get hA25 (by omega)) hB26 (hpp.keep kk2) (hbd.keep kk2) (hpp'.keep kk2) (hbd'.keep kk2) (by omega) kk2 (R := fun r h' => (∃ b : Bool, r = .bool b ∧ (b = true ↔ sgsZ pl p = sgsZ pl q)) ∧ Keep (fun _ => False) h h') (X := X) (I8 := fun t h' => ∃ k : Nat, t = .int .i64 k ∧ k ≤ p.length ∧ sgsZ pl (p.take k) = sgsZ pl (q.take k) ∧ Keep (fun _ => False) h2 h') (μ9 := fun t _ => match t with | .int _ k => p.length - k.toNat | _ => 0) k hgt (fun h'' k'' hn => ?_) (fun h'' k'' he => ?_)
    · exact ⟨⟨false, rfl, by simp; exact hne hn⟩, (k02.trans k3).trans k''⟩
    · exact ⟨hfin h'' k'' he, by simp; omega⟩
  · refine st_at hB rfl fun h25 k25 hA25 => ?_
    have kk := newL kz2 (by omega) k25
    refine ⟨Keep.cells kk hcb, g1 kk, rfl, sgC_one (nilOr_isSl hpp'.2) hbd'.isSl, ?_⟩
    refine st_at (k25.get hA (by omega)) rfl fun h26 k26 hB26 => ?_
    have kk2 := newK kk k26
    refine restG pl x y h3 h3 h26 _ h3.size vp vb wp wb' (k26.get hA25 (by omega)) hB26 (hpp.keep kk2) (hbd.keep kk2) (hpp'.keep kk2) (hbd'.keep kk2) (by omega) kk2 (R := fun r h' => (∃ b : Bool, r = .bool b ∧ (b = true ↔ sgsZ pl p = sgsZ pl q)) ∧ Keep (fun _ => False) h h') (X := X) (I8 := fun t h' => ∃ k : Nat, t = .int .i64 k ∧ k ≤ p.length ∧ sgsZ pl (p.take k) = sgsZ pl (q.take k) ∧ Keep (fun _ => False) h2 h') (μ9 := fun t _ => match t with | .int _ k => p.length - k.toNat | _ => 0) k hgt (fun h'' k'' hn => ?_) (fun h'' k'' he => ?_)
    · exact ⟨⟨false, rfl, by simp; exact hne hn⟩, (k02.trans k3).trans k''⟩
    · exact ⟨hfin h'' k'' he, by simp; omega⟩
end
end Go.Proofs.YtaehnpilebkcoaaDoor

namespace Go.Proofs.YtaehnpilebkcoaaDoor
open Go Go.Sx Go.Sx.Tk Go.Sx.Rn Go.Proofs.YtaehnpilebkcoaaDoor.Sx

section
variable {ω : Amb}
end
end Go.Proofs.YtaehnpilebkcoaaDoor

namespace Go.Proofs.YtaehnpilebkcoaaDoor
open Go Go.Sx Go.Sx.Tk Go.Sx.Rn Go.Proofs.YtaehnpilebkcoaaDoor.Sx

set_option linter.unusedVariables false in
/-- slices.EqualFunc, over things of any size -/
def WEqF (ω : Amb) (sz : Nat) (T : TypeId) (z : Array Value) (s1_p s2_p eq_p : Value) (h : Hp) (R : Value → Hp → Prop) (X : List PanicEntry → Hp → Prop) : Prop :=
 asSl s1_p fun a0 l1 c2 => asSl s2_p fun a3 l4 c5 => cond ((l1 : Int) != ((l4 : Int) : Int))
 (R (.bool false) h)
 (asSl s1_p fun a6 l7 c8 => ∃ (I9 : Value → Hp → Prop) (μ10 : Value → Hp → Nat), I9 (.int .i64 0) h ∧ ∀ t17_11 (d12 : Nat → Value) (h13 : Hp), I9 t17_11 h13 →
 asK .i64 t17_11 fun n14 => cond (decide ((n14 : Int) < (l7 : Int)))
 (asSl1 s1_p fun a15 l16 c17 => asI t17_11 fun n18 => 0 ≤ (n18 : Int) ∧ n18 < (l16 : Int) ∧ ∃ C19, cellsH h13 (Addr.add a15 (Int.toNat n18 * sz)) sz C19 ∧
 C19.toArray.size = sz ∧ (∀ u ∈ C19.toArray.toList, one u) ∧ storeK (Array.push h13 (.cells z T (0, 0))) ⟨Array.size h13, 0, none⟩ C19.toArray.toList fun h20 =>
 asSl1 s2_p fun a21 l22 c23 => asI t17_11 fun n24 => 0 ≤ (n24 : Int) ∧ n24 < (l22 : Int) ∧ ∃ C25, cellsH h20 (Addr.add a21 (Int.toNat n24 * sz)) sz C25 ∧
 C25.toArray.size = sz ∧ (∀ u ∈ C25.toArray.toList, one u) ∧ storeK (Array.push h20 (.cells z T (0, 0))) ⟨Array.size h20, 0, none⟩ C25.toArray.toList fun h26 =>
 ∃ C27, cellsH h26 ⟨Array.size h13, 0, none⟩ sz C27 ∧
 ∃ C28, cellsH h26 ⟨Array.size h20, 0, none⟩ sz C28 ∧
 callK Tryd.prog ω eq_p [(.agg C27.toArray), (.agg C28.toArray)] h26 (fun r29 h30 =>
 asB r29 fun b31 => cond (!b31)
 (R (.bool false) h30)
 (asK .i64 t17_11 fun n32 => I9 (.int .i64 (IntKind.wrap .i64 (n32 + 1))) h30 ∧ μ10 (.int .i64 (IntKind.wrap .i64 (n32 + 1))) h30 < μ10 t17_11 h13)) X)
 (R (.bool true) h13))
/-- things that lie one behind the other -/
structure Rdb {α : Type} (sz : Nat) (E : Hp → α → List Value → Prop) (h : Hp) (v : Value) (l : List α) : Prop where
  sl : ∀ {F : Option Addr → Nat → Nat → Prop}, (∀ a c, F a l.length c) → asSl v F
  max : l.length ≤ 9223372036854775807
  rd : ∀ {h' : Hp}, Keep (fun _ => False) h h' → ∀ {i : Nat} {x : α}, l[i]? = some x → ∀ {K : List Value → Prop}, (∀ C, C.length = sz → (∀ u ∈ C, one u) → E h' x C → K C) →
    asSl1 v fun a l _ => 0 ≤ (i : Int) ∧ (i : Int) < (l : Int) ∧ ∃ C, cellsH h' (Addr.add a (Int.toNat (i : Int) * sz)) sz C ∧ K C
section
variable {ω : Amb}
theorem callK_use {fv : Value} {args : List Value} {h : Hp} {R R' : Value → Hp → Prop} {X : List PanicEntry → Hp → Prop} (hc : ∀ Y, callK Tryd.prog ω fv args h R Y) (hr : ∀ v h', R v h' → R' v h') : callK Tryd.prog ω fv args h R' X := by
  have := hc X
  unfold callK at this ⊢
  split at this
  · rename_i f first captured
    cases hb : callable Tryd.prog f with
    | false => rw [hb] at this; exact this.elim
    | true =>
      rw [hb] at this
      exact CallX.mono this hr (fun _ _ h => h)
  · exact this.elim
theorem EqF_law {α β : Type} {sz : Nat} {T : TypeId} {z : Array Value} {E : Hp → α → List Value → Prop} (hE : ∀ {h h' : Hp} {x : α} {C : List Value}, E h x C → Keep (fun _ => False) h h' → E h' x C) (g : α → β) (hz : z.size = sz)
    {l m : List α} {h : Hp} {va vb eq_ : Value} (ha : Rdb sz E h va l) (hb : Rdb sz E h vb m) (X : List PanicEntry → Hp → Prop)
    (hq : ∀ {h' : Hp}, Keep (fun _ => False) h h' → ∀ {x y : α} {C D : List Value}, x ∈ l → C.length = sz → D.length = sz → E h' x C → E h' y D →
      ∀ Y, callK Tryd.prog ω eq_ [.agg C.toArray, .agg D.toArray] h' (fun r h'' => (∃ b : Bool, r = .bool b ∧ (b = true ↔ g x = g y)) ∧ Keep (fun _ => False) h' h'') Y)
    {R : Value → Hp → Prop} (hR : ∀ (b : Bool) h', (b = true ↔ l.map g = m.map g) → Keep (fun _ => False) h h' → R (.bool b) h') :
    WEqF ω sz T z va vb eq_ h R X := by
  unfold WEqF
  have hmax := ha.max
  refine ha.sl fun _ _ => ?_
  refine hb.sl fun _ _ => ?_
  refine cond_c (fun hc => ?_) (fun hc => ?_)
  · have hne := bne_iff_ne.1 hc
    refine hR false _ ?_ (Keep.refl _ _)
    simp only [Bool.false_eq_true, false_iff]
    exact fun h => hne (by have := congrArg List.length h; simp only [List.length_map] at this; rw [this])
  have hlen : l.length = m.length := by
    have : (l.length : Int) = m.length := by simpa using hc
    omega
  refine ha.sl fun _ _ => ?_
  refine ⟨fun t h' => ∃ k : Nat, t = .int .i64 k ∧ k ≤ l.length ∧ (l.take k).map g = (m.take k).map g ∧ Keep (fun _ => False) h h', fun t _ => match t with | .int _ k => l.length - k.toNat | _ => 0,
    ⟨0, rfl, by omega, rfl, Keep.refl _ _⟩, ?_⟩
  rintro _ _ h3 ⟨k, rfl, hk, heq, k3⟩
  rw [asK_int]
  refine cond_c (fun hc => ?_) (fun hc => ?_)
  rotate_left
  · have hc := of_decide_eq_false hc
    obtain rfl : k = l.length := by omega
    rw [List.take_length, List.take_of_length_le (by omega)] at heq
    exact hR true _ (by simp [heq]) k3
  have hkl : k < l.length := by
    have := of_decide_eq_true hc
    omega
  have hx := List.getElem?_eq_getElem hkl
  have hy := List.getElem?_eq_getElem (show k < m.length by omega)
  have hmem : l[k] ∈ l := List.getElem_mem hkl
  generalize l[k] = x at hx hmem
  generalize m[k] = y at hy
  refine ha.rd k3 hx fun C hC hC1 hCE => ?_
  refine ⟨by simpa using hC, by simpa using hC1, storeK_local (by simpa [hz] using hC) ?_⟩
  have hb4 := hp_push_new (h := h3) (o := .cells C.toArray T (0, 0))
  have k4 := Keep.push (S := fun _ => False) h3 (.cells C.toArray T (0, 0))
  generalize h3.push (.cells C.toArray T (0, 0)) = h4 at *
  refine hb.rd (k3.trans k4) hy fun D hD hD1 hDE => ?_
  refine ⟨by simpa using hD, by simpa using hD1, storeK_local (by simpa [hz] using hD) ?_⟩
  have hb5 := hp_push_new (h := h4) (o := .cells D.toArray T (0, 0))
  have k5 := Keep.push (S := fun _ => False) h4 (.cells D.toArray T (0, 0))
  generalize h4.push (.cells D.toArray T (0, 0)) = h5 at *
  refine ⟨_, cellsH_blk (k5.get hb4 (by simp)) hC, _, cellsH_blk hb5 hD, ?_⟩
  refine callK_use (hq ((k3.trans k4).trans k5) hmem hC hD (hE (hE hCE k4) k5) (hE hDE k5)) ?_
  rintro _ h6 ⟨⟨b, rfl, hbb⟩, k6⟩
  have k36 := (k4.trans k5).trans k6
  have hxg : (l.map g)[k]? = some (g x) := by rw [List.getElem?_map, hx]; rfl
  have hyg : (m.map g)[k]? = some (g y) := by rw [List.getElem?_map, hy]; rfl
  rw [asB_bool]
  refine cond_c (fun hc => ?_) (fun hc => ?_)
  · have hn : g x ≠ g y := fun h => by
      rw [hbb.2 h] at hc
      cases hc
    refine hR false _ ?_ (k3.trans k36)
    simp only [Bool.false_eq_true, false_iff]
    exact take_ne hxg hyg hn
  · have he : g x = g y := hbb.1 (by simpa using hc)
    rw [asK_int, i64_in (by omega) (by omega)]
    exact ⟨⟨k + 1, by simp, by omega, by rw [tk_snoc hx, tk_snoc hy, List.map_append, List.map_append, heq, List.map_singleton, List.map_singleton, he], k3.trans k36⟩, by simp; omega⟩
/-! ### expressions -/
def ExE (h : Hp) (x : Ex) (C : List Value) : Prop := ∃ w, C = exC x w ∧ ExS h w x.l
theorem ExE.keep {h h' : Hp} {x : Ex} {C : List Value} (he : ExE h x C) (k : Keep (fun _ => False) h h') : ExE h' x C := by
  obtain ⟨w, h1, h2⟩ := he
  exact ⟨w, h1, h2.keep k⟩
theorem ExS.rdb {h : Hp} {v : Value} {l : List Ex} (hs : ExS h v l) : Rdb 4 ExE h v l :=
  ⟨fun hf => hs.sl hf, hs.max, fun k _ _ hx _ hk => (hs.keep k).rdC hx fun w hw => hk _ rfl (exC_one hw.isSl) ⟨w, rfl, hw⟩⟩
def SameEL (ω : Amb) (l : List Ex) : Prop := ∀ (m : List Ex) (h : Hp) (va vb : Value), ExS h va l → ExS h vb m → ∀ (X : List PanicEntry → Hp → Prop),
    CallX Tryd.prog ω n_slices_EqualFunc_sl_api_Expr_sl_api_Expr_api_Expr_api_Expr [va, vb, .func (.func 95) #[] #[]] h (fun r h' => (∃ b : Bool, r = .bool b ∧ (b = true ↔ l = m)) ∧ Keep (fun _ => False) h h') X
theorem sameX_one (x y : Ex) (hl : SameEL ω x.l) (h : Hp) (C D : List Value) (hx : ExE h x C) (hy : ExE h y D) (X : List PanicEntry → Hp → Prop) :
    CallX Tryd.prog ω n_syntax_sameExpr [.agg C.toArray, .agg D.toArray] h (fun r h' => (∃ b : Bool, r = .bool b ∧ (b = true ↔ x = y)) ∧ Keep (fun _ => False) h h') X := by
  obtain ⟨va, rfl, ha⟩ := hx
  obtain ⟨vb, rfl, hb⟩ := hy
  refine C_syntax_sameExpr ω _ _ h _ X ?_
  unfold W_syntax_sameExpr
  simp only [show ∀ C : List Value, Value.cells (.agg C.toArray) = C.toArray from fun _ => rfl]
  have hA := hp_push_new (h := h) (o := .cells (exC x va).toArray 118 (0, 0))
  have k0 := Keep.push (S := fun _ => False) h (.cells (exC x va).toArray 118 (0, 0))
  generalize h.push (.cells (exC x va).toArray 118 (0, 0)) = h1 at *
  have hB := hp_push_new (h := h1) (o := .cells (exC y vb).toArray 118 (0, 0))
  have k1 := Keep.push (S := fun _ => False) h1 (.cells (exC y vb).toArray 118 (0, 0))
  generalize h1.push (.cells (exC y vb).toArray 118 (0, 0)) = h2 at *
  have hA := k1.get hA (by simp)
  have k02 := k0.trans k1
  refine ⟨fun v h' => (∃ b : Bool, v = .bool b ∧ (b = true ↔ x = y)) ∧ Keep (fun _ => False) h2 h', ?_, fun _ _ _ hj => ⟨hj.1, k02.trans hj.2⟩⟩
  refine lx hA (j := 0) rfl ?_
  refine lx hB (j := 0) rfl ?_
  rw [asK_int, asK_int]
  refine cond_c (fun hc => ?_) (fun hc => ?_)
  rotate_left
  · have := beq_eq_false_iff_ne.1 hc
    exact ⟨⟨false, rfl, by simp; exact fun h => this (by rw [h])⟩, Keep.refl _ _⟩
  have e1 := eq_of_beq hc
  refine lx hA (j := 1) rfl ?_
  refine lx hB (j := 1) rfl ?_
  rw [asS_str, asS_str, eqB]
  refine cond_c (fun hc => ?_) (fun hc => ?_)
  rotate_left
  · have := of_decide_eq_false hc
    exact ⟨⟨false, rfl, by simp; exact fun h => this (by rw [h])⟩, Keep.refl _ _⟩
  have e2 := of_decide_eq_true hc
  refine lx hA (j := 2) rfl ?_
  refine lx hB (j := 2) rfl ?_
  rw [asK_int, asK_int]
  refine cond_c (fun hc => ?_) (fun hc => ?_)
  rotate_left
  · have := beq_eq_false_iff_ne.1 hc
    exact ⟨⟨false, rfl, by simp; exact fun h => this (by rw [h])⟩, Keep.refl _ _⟩
  have e3 := eq_of_beq hc
  refine lx hA (j := 3) rfl ?_
  refine lx hB (j := 3) rfl ?_
  refine CallX.use (hl y.l h2 va vb (ha.keep k02) (hb.keep k02)) ?_
  rintro _ h3 ⟨⟨b, rfl, hbb⟩, k3⟩
  refine ⟨⟨b, rfl, ?_⟩, k3⟩
  rw [hbb, ex_eq_iff]
  exact ⟨fun h => ⟨e1, e2, e3, h⟩, fun h => h.2.2.2⟩
theorem callK_fn {P : Program} {f : FuncId} {args : List Value} {h : Hp} {K : Value → Hp → Prop} {X : List PanicEntry → Hp → Prop} (hc : callable P f = true) (hk : CallX P ω f args h K X) : callK P ω (.func (.func f) #[] #[]) args h K X := by
  show cond (callable P f) (CallX P ω f ([] ++ (args ++ [])) h K X) False
  rw [List.append_nil, List.nil_append]
  exact cond_t hc hk
theorem call95 : callable Tryd.prog n_syntax_sameExpr = true := by kernel_rfl
theorem call73 : callable Tryd.prog n_syntax_sameStmt = true := by kernel_rfl
theorem call37 : callable Tryd.prog n_syntax_sameStage = true := by kernel_rfl
set_option maxRecDepth 100000 in
theorem sameX_law : ∀ (N : Nat) (l : List Ex), exsN l < N → SameEL ω l := by
  intro N
  induction N with
  | zero => exact fun l hN => absurd hN (Nat.not_lt_zero _)
  | succ N ih =>
    intro l hN m h va vb ha hb X
    refine C_slices_EqualFunc_sl_api_Expr_sl_api_Expr_api_Expr_api_Expr ω _ _ _ h _ X ?_
    refine EqF_law (sz := 4) (E := ExE) (R := fun r h' => (∃ b : Bool, r = .bool b ∧ (b = true ↔ l = m)) ∧ Keep (fun _ => False) h h') (T := 118) (z := #[(.int .i64 0), (.string ⟨#[]⟩), (.int .i64 0), (.slice none 0 0)]) ExE.keep id rfl (ExS.rdb ha) (ExS.rdb hb) X ?_ (fun b h' hbb k => ⟨⟨b, rfl, by rw [hbb, List.map_id, List.map_id]⟩, k⟩)
    intro h' k x y C D hmem _ _ hx hy Y
    have hxn := exsN_mem hmem
    have hxe := exN_eq x
    have h1 := sameX_one x y (ih x.l (by omega)) h' C D hx hy Y
    have h2 := @callK_fn ω Tryd.prog n_syntax_sameExpr _ _ _ _ call95 h1
    exact h2
end
end Go.Proofs.YtaehnpilebkcoaaDoor

namespace Go.Proofs.YtaehnpilebkcoaaDoor
open Go Go.Sx Go.Sx.Tk Go.Sx.Rn Go.Proofs.YtaehnpilebkcoaaDoor.Sx

def StE (h : Hp) (x : St) (C : List Value) : Prop := ∃ ve vb vl, C = stC x ve vb vl ∧ ExS h ve x.e ∧ StS h vb x.body ∧ StS h vl x.els
theorem StE.keep {h h' : Hp} {x : St} {C : List Value} (he : StE h x C) (k : Keep (fun _ => False) h h') : StE h' x C := by
  obtain ⟨ve, vb, vl, h1, h2, h3, h4⟩ := he
  exact ⟨ve, vb, vl, h1, h2.keep k, h3.keep k, h4.keep k⟩
theorem StS.rdb {h : Hp} {v : Value} {l : List St} (hs : StS h v l) : Rdb 9 StE h v l :=
  ⟨fun hf => hs.sl hf, hs.max, fun k _ _ hx _ hk => (hs.keep k).rdC hx fun ve vb vl he hb hl => hk _ rfl (stC_one he.isSl hb.isSl hl.isSl) ⟨ve, vb, vl, rfl, he, hb, hl⟩⟩
section
variable {ω : Amb}
def SameFL (ω : Amb) (l : List St) : Prop := ∀ (m : List St) (h : Hp) (va vb : Value), StS h va l → StS h vb m → ∀ (X : List PanicEntry → Hp → Prop),
    CallX Tryd.prog ω n_slices_EqualFunc_sl_api_Stmt_sl_api_Stmt_api_Stmt_api_Stmt [va, vb, .func (.func 73) #[] #[]] h (fun r h' => (∃ b : Bool, r = .bool b ∧ (b = true ↔ stsZ false l = stsZ false m)) ∧ Keep (fun _ => False) h h') X
theorem sameY_one (x y : St) (hB : SameFL ω x.body) (hE : SameFL ω x.els) (h : Hp) (C D : List Value) (hx : StE h x C) (hy : StE h y D) (X : List PanicEntry → Hp → Prop) :
    CallX Tryd.prog ω n_syntax_sameStmt [.agg C.toArray, .agg D.toArray] h (fun r h' => (∃ b : Bool, r = .bool b ∧ (b = true ↔ stZ false x = stZ false y)) ∧ Keep (fun _ => False) h h') X := by
  obtain ⟨ae, ab, al, rfl, ha1, ha2, ha3⟩ := hx
  obtain ⟨be, bb, bl, rfl, hb1, hb2, hb3⟩ := hy
  refine C_syntax_sameStmt ω _ _ h _ X ?_
  unfold W_syntax_sameStmt
  simp only [show ∀ C : List Value, Value.cells (.agg C.toArray) = C.toArray from fun _ => rfl]
  have hA := hp_push_new (h := h) (o := .cells (stC x ae ab al).toArray 65 (0, 0))
  have k0 := Keep.push (S := fun _ => False) h (.cells (stC x ae ab al).toArray 65 (0, 0))
  generalize h.push (.cells (stC x ae ab al).toArray 65 (0, 0)) = h1 at *
  have hB' := hp_push_new (h := h1) (o := .cells (stC y be bb bl).toArray 65 (0, 0))
  have k1 := Keep.push (S := fun _ => False) h1 (.cells (stC y be bb bl).toArray 65 (0, 0))
  generalize h1.push (.cells (stC y be bb bl).toArray 65 (0, 0)) = h2 at *
  have hA := k1.get hA (by simp)
  have k02 := k0.trans k1
  have hiff : stZ false x = stZ false y ↔ x.d = y.d ∧ x.a = y.a ∧ x.b = y.b ∧ x.t = y.t ∧ x.n = y.n ∧ x.e = y.e ∧ stsZ false x.body = stsZ false y.body ∧ stsZ false x.els = stsZ false y.els := by
    rw [stZ_iff]
    exact ⟨fun ⟨a1, a2, a3, a4, a5, _, a7, a8, a9⟩ => ⟨a1, a2, a3, a4, a5, a7, a8, a9⟩, fun ⟨a1, a2, a3, a4, a5, a7, a8, a9⟩ => ⟨a1, a2, a3, a4, a5, fun h => Bool.noConfusion h, a7, a8, a9⟩⟩
  refine ⟨fun v h' => (∃ b : Bool, v = .bool b ∧ (b = true ↔ stZ false x = stZ false y)) ∧ Keep (fun _ => False) h2 h', ?_, fun _ _ _ hj => ⟨hj.1, k02.trans hj.2⟩⟩
  rw [hiff]
  refine lx hA (j := 0) rfl ?_
  refine lx hB' (j := 0) rfl ?_
  rw [asK_int, asK_int]
  refine cond_c (fun hc => ?_) (fun hc => ?_)
  rotate_left
  · have := beq_eq_false_iff_ne.1 hc
    exact ⟨⟨false, rfl, by simp only [Bool.false_eq_true, false_iff]; exact fun h => this h.1⟩, Keep.refl _ _⟩
  have e1 := eq_of_beq hc
  refine lx hA (j := 2) rfl ?_
  refine lx hB' (j := 2) rfl ?_
  rw [asS_str, asS_str, eqB]
  refine cond_c (fun hc => ?_) (fun hc => ?_)
  rotate_left
  · have := of_decide_eq_false hc
    exact ⟨⟨false, rfl, by simp only [Bool.false_eq_true, false_iff]; exact fun h => this h.2.1⟩, Keep.refl _ _⟩
  have e2 := of_decide_eq_true hc
  refine lx hA (j := 3) rfl ?_
  refine lx hB' (j := 3) rfl ?_
  rw [asS_str, asS_str, eqB]
  refine cond_c (fun hc => ?_) (fun hc => ?_)
  rotate_left
  · have := of_decide_eq_false hc
    exact ⟨⟨false, rfl, by simp only [Bool.false_eq_true, false_iff]; exact fun h => this h.2.2.1⟩, Keep.refl _ _⟩
  have e3 := of_decide_eq_true hc
  refine lx hA (j := 4) rfl ?_
  refine lx hB' (j := 4) rfl ?_
  rw [asS_str, asS_str, eqB]
  refine cond_c (fun hc => ?_) (fun hc => ?_)
  rotate_left
  · have := of_decide_eq_false hc
    exact ⟨⟨false, rfl, by simp only [Bool.false_eq_true, false_iff]; exact fun h => this h.2.2.2.1⟩, Keep.refl _ _⟩
  have e4 := of_decide_eq_true hc
  refine lx hA (j := 5) rfl ?_
  refine lx hB' (j := 5) rfl ?_
  rw [asK_int, asK_int]
  refine cond_c (fun hc => ?_) (fun hc => ?_)
  rotate_left
  · have := beq_eq_false_iff_ne.1 hc
    exact ⟨⟨false, rfl, by simp only [Bool.false_eq_true, false_iff]; exact fun h => this h.2.2.2.2.1⟩, Keep.refl _ _⟩
  have e5 := eq_of_beq hc
  refine lx hA (j := 6) rfl ?_
  refine lx hB' (j := 6) rfl ?_
  refine CallX.use (sameX_law _ x.e (Nat.lt_succ_self _) y.e h2 ae be (ha1.keep k02) (hb1.keep k02)) ?_
  rintro _ h3 ⟨⟨b, rfl, hbb⟩, k3⟩
  have hA3 := k3.get hA (by simp)
  have hB3 := k3.get hB' (by simp)
  rw [asB_bool]
  refine cond_c (fun hc => ?_) (fun hc => ?_)
  rotate_left
  · refine ⟨⟨false, rfl, ?_⟩, k3⟩
    simp only [Bool.false_eq_true, false_iff]
    exact fun h => by rw [hbb.2 h.2.2.2.2.2.1] at hc; cases hc
  have e6 := hbb.1 hc
  refine lx hA3 (j := 7) rfl ?_
  refine lx hB3 (j := 7) rfl ?_
  refine CallX.use (hB y.body h3 ab bb (ha2.keep (k02.trans k3)) (hb2.keep (k02.trans k3))) ?_
  rintro _ h4 ⟨⟨b, rfl, hbb⟩, k4⟩
  have hA4 := k4.get hA3 (by simp)
  have hB4 := k4.get hB3 (by simp)
  rw [asB_bool]
  refine cond_c (fun hc => ?_) (fun hc => ?_)
  rotate_left
  · refine ⟨⟨false, rfl, ?_⟩, k3.trans k4⟩
    simp only [Bool.false_eq_true, false_iff]
    exact fun h => by rw [hbb.2 h.2.2.2.2.2.2.1] at hc; cases hc
  have e7 := hbb.1 hc
  refine lx hA4 (j := 8) rfl ?_
  refine lx hB4 (j := 8) rfl ?_
  refine CallX.use (hE y.els h4 al bl (ha3.keep ((k02.trans k3).trans k4)) (hb3.keep ((k02.trans k3).trans k4))) ?_
  rintro _ h5 ⟨⟨b, rfl, hbb⟩, k5⟩
  refine ⟨⟨b, rfl, ?_⟩, (k3.trans k4).trans k5⟩
  rw [hbb]
  exact ⟨fun h => ⟨e1, e2, e3, e4, e5, e6, e7, h⟩, fun h => h.2.2.2.2.2.2.2⟩
set_option maxRecDepth 100000 in
theorem sameY_law : ∀ (N : Nat) (l : List St), stsN l < N → SameFL ω l := by
  intro N
  induction N with
  | zero => exact fun l hN => absurd hN (Nat.not_lt_zero _)
  | succ N ih =>
    intro l hN m h va vb ha hb X
    refine C_slices_EqualFunc_sl_api_Stmt_sl_api_Stmt_api_Stmt_api_Stmt ω _ _ _ h _ X ?_
    refine EqF_law (sz := 9) (E := StE) (R := fun r h' => (∃ b : Bool, r = .bool b ∧ (b = true ↔ stsZ false l = stsZ false m)) ∧ Keep (fun _ => False) h h') (T := 65) (z := #[(.int .i64 0), (.int .i64 0), (.string ⟨#[]⟩), (.string ⟨#[]⟩), (.string ⟨#[]⟩), (.int .i64 0), (.slice none 0 0), (.slice none 0 0), (.slice none 0 0)]) StE.keep (stZ false) rfl (StS.rdb ha) (StS.rdb hb) X ?_ (fun b h' hbb k => ⟨⟨b, rfl, by rw [hbb, stsZ_map, stsZ_map]⟩, k⟩)
    intro h' k x y C D hmem _ _ hx hy Y
    have hxn := stsN_mem hmem
    have hxe := stN_eq x
    exact @callK_fn ω Tryd.prog n_syntax_sameStmt _ _ _ _ call73 (sameY_one x y (ih x.body (by omega)) (ih x.els (by omega)) h' C D hx hy Y)
end
end Go.Proofs.YtaehnpilebkcoaaDoor

namespace Go.Proofs.YtaehnpilebkcoaaDoor
open Go Go.Sx Go.Sx.Tk Go.Sx.Rn Go.Proofs.YtaehnpilebkcoaaDoor.Sx

def SgE (h : Hp) (x : Sg) (C : List Value) : Prop := ∃ vp vb, C = sgC x vp vb ∧ PsS h vp x.ps ∧ StS h vb x.body
theorem SgE.keep {h h' : Hp} {x : Sg} {C : List Value} (he : SgE h x C) (k : Keep (fun _ => False) h h') : SgE h' x C := by
  obtain ⟨vp, vb, h1, h2, h3⟩ := he
  exact ⟨vp, vb, h1, h2.keep k, h3.keep k⟩
theorem SgS.max {h : Hp} {v : Value} {l : List Sg} (hs : SgS h v l) : l.length ≤ 9223372036854775807 := by
  obtain ⟨us, h1, _⟩ := hs
  exact h1.2
theorem SgS.rdb {h : Hp} {v : Value} {l : List Sg} (hs : SgS h v l) : Rdb 4 SgE h v l :=
  ⟨fun hf => hs.sl hf, SgS.max hs, fun k _ _ hx _ hk => (hs.keep k).rdC hx fun vp vb hp hb => hk _ rfl (sgC_one (SlAt.isSl hp.1) hb.isSl) ⟨vp, vb, rfl, hp, hb⟩⟩
section
variable {ω : Amb}
theorem EqPs_law (l m : List (ByteArray × ByteArray)) (hl : l.length ≤ 1000) (h : Hp) (va vb : Value) (ha : PsS h va l) (hb : PsS h vb m) (X : List PanicEntry → Hp → Prop) :
    CallX Tryd.prog ω n_slices_Equal_sl_api_Param_api_Param [va, vb] h (fun r h' => (∃ b : Bool, r = .bool b ∧ (b = true ↔ l = m)) ∧ Keep (fun _ => False) h h') X := by
  refine C_slices_Equal_sl_api_Param_api_Param ω _ _ h _ X ?_
  unfold W_slices_Equal_sl_api_Param_api_Param
  refine SlAt.sl ha.1 fun _ _ => ?_
  refine SlAt.sl hb.1 fun _ _ => ?_
  refine cond_c (fun hc => ?_) (fun hc => ?_)
  · have hne := bne_iff_ne.1 hc
    exact ⟨⟨false, rfl, by simp only [Bool.false_eq_true, false_iff]; exact fun h => hne (by rw [h])⟩, Keep.refl _ _⟩
  have hlen : l.length = m.length := by
    have : (l.length : Int) = m.length := by simpa using hc
    omega
  refine SlAt.sl ha.1 fun _ _ => ?_
  refine ⟨fun t h' => ∃ k : Nat, t = .int .i64 k ∧ k ≤ l.length ∧ l.take k = m.take k ∧ h = h', fun t _ => match t with | .int _ k => l.length - k.toNat | _ => 0, ⟨0, rfl, by omega, rfl, rfl⟩, ?_⟩
  rintro _ _ _ ⟨k, rfl, hk, heq, rfl⟩
  rw [asK_int]
  refine cond_c (fun hc => ?_) (fun hc => ?_)
  rotate_left
  · have hc := of_decide_eq_false hc
    obtain rfl : k = l.length := by omega
    rw [List.take_length, List.take_of_length_le (by omega)] at heq
    exact ⟨⟨true, rfl, by simp [heq]⟩, Keep.refl _ _⟩
  have hkl : k < l.length := by
    have := of_decide_eq_true hc
    omega
  have hx := List.getElem?_eq_getElem hkl
  have hy := List.getElem?_eq_getElem (show k < m.length by omega)
  generalize l[k] = x at hx
  generalize m[k] = y at hy
  refine SlAt.rdS (f := pf) ha.1 pf_len hx ?_
  refine SlAt.rdS (f := pf) hb.1 pf_len hy ?_
  have g0 : ∀ p : ByteArray × ByteArray, (pf p).toArray[0]? = some (.string p.1) := fun _ => rfl
  have g1 : ∀ p : ByteArray × ByteArray, (pf p).toArray[1]? = some (.string p.2) := fun _ => rfl
  simp only [g0, g1, asO_some, asS_str]
  rw [pair_eq]
  refine cond_c (fun hc => ?_) (fun hc => ?_)
  · have : x ≠ y := by simpa using hc
    exact ⟨⟨false, rfl, by simp only [Bool.false_eq_true, false_iff]; exact take_ne hx hy this⟩, Keep.refl _ _⟩
  · have he : x = y := by simpa using hc
    rw [asK_int, i64_in (by omega) (by omega)]
    exact ⟨⟨k + 1, by simp, by omega, by rw [tk_snoc hx, tk_snoc hy, heq, he], trivial⟩, by simp; omega⟩
theorem sameG_one (x y : Sg) (hpl : x.ps.length ≤ 1000) (h : Hp) (C D : List Value) (hx : SgE h x C) (hy : SgE h y D) (X : List PanicEntry → Hp → Prop) :
    CallX Tryd.prog ω n_syntax_sameStage [.agg C.toArray, .agg D.toArray] h (fun r h' => (∃ b : Bool, r = .bool b ∧ (b = true ↔ sgZ false x = sgZ false y)) ∧ Keep (fun _ => False) h h') X := by
  obtain ⟨ap, ab, rfl, ha1, ha2⟩ := hx
  obtain ⟨bp, bb, rfl, hb1, hb2⟩ := hy
  refine C_syntax_sameStage ω _ _ h _ X ?_
  unfold W_syntax_sameStage
  simp only [show ∀ C : List Value, Value.cells (.agg C.toArray) = C.toArray from fun _ => rfl]
  have hA := hp_push_new (h := h) (o := .cells (sgC x ap ab).toArray 51 (0, 0))
  have k0 := Keep.push (S := fun _ => False) h (.cells (sgC x ap ab).toArray 51 (0, 0))
  generalize h.push (.cells (sgC x ap ab).toArray 51 (0, 0)) = h1 at *
  have hB' := hp_push_new (h := h1) (o := .cells (sgC y bp bb).toArray 51 (0, 0))
  have k1 := Keep.push (S := fun _ => False) h1 (.cells (sgC y bp bb).toArray 51 (0, 0))
  generalize h1.push (.cells (sgC y bp bb).toArray 51 (0, 0)) = h2 at *
  have hA := k1.get hA (by simp)
  have k02 := k0.trans k1
  have hiff : sgZ false x = sgZ false y ↔ x.nm = y.nm ∧ x.ps = y.ps ∧ stsZ false x.body = stsZ false y.body := by
    rw [sgZ_iff]
    exact ⟨fun ⟨a1, _, a3, a4⟩ => ⟨a1, a3, a4⟩, fun ⟨a1, a3, a4⟩ => ⟨a1, fun h => Bool.noConfusion h, a3, a4⟩⟩
  refine ⟨fun v h' => (∃ b : Bool, v = .bool b ∧ (b = true ↔ sgZ false x = sgZ false y)) ∧ Keep (fun _ => False) h2 h', ?_, fun _ _ _ hj => ⟨hj.1, k02.trans hj.2⟩⟩
  rw [hiff]
  refine lx hA (j := 0) rfl ?_
  refine lx hB' (j := 0) rfl ?_
  rw [asS_str, asS_str, eqB]
  refine cond_c (fun hc => ?_) (fun hc => ?_)
  rotate_left
  · have := of_decide_eq_false hc
    exact ⟨⟨false, rfl, by simp only [Bool.false_eq_true, false_iff]; exact fun h => this h.1⟩, Keep.refl _ _⟩
  have e1 := of_decide_eq_true hc
  refine lx hA (j := 2) rfl ?_
  refine lx hB' (j := 2) rfl ?_
  refine CallX.use (EqPs_law x.ps y.ps hpl h2 ap bp (ha1.keep k02) (hb1.keep k02)) ?_
  rintro _ h3 ⟨⟨b, rfl, hbb⟩, k3⟩
  have hA3 := k3.get hA (by simp)
  have hB3 := k3.get hB' (by simp)
  rw [asB_bool]
  refine cond_c (fun hc => ?_) (fun hc => ?_)
  rotate_left
  · refine ⟨⟨false, rfl, ?_⟩, k3⟩
    simp only [Bool.false_eq_true, false_iff]
    exact fun h => by rw [hbb.2 h.2.1] at hc; cases hc
  have e2 := hbb.1 hc
  refine lx hA3 (j := 3) rfl ?_
  refine lx hB3 (j := 3) rfl ?_
  refine CallX.use (sameY_law _ x.body (Nat.lt_succ_self _) y.body h3 ab bb (ha2.keep (k02.trans k3)) (hb2.keep (k02.trans k3))) ?_
  rintro _ h4 ⟨⟨b, rfl, hbb⟩, k4⟩
  refine ⟨⟨b, rfl, ?_⟩, k3.trans k4⟩
  rw [hbb]
  exact ⟨fun h => ⟨e1, e2, h⟩, fun h => h.2.2⟩
set_option maxRecDepth 100000 in
theorem Same_law (p q : List Sg) (hps : ∀ s ∈ p, s.ps.length ≤ 1000) (h : Hp) (va vb : Value) (ha : PgS h va p) (hb : PgS h vb q) (X : List PanicEntry → Hp → Prop) :
    CallX Tryd.prog ω n_syntax_Same [va, vb] h (fun r h' => (∃ b : Bool, r = .bool b ∧ (b = true ↔ sgsZ false p = sgsZ false q)) ∧ Keep (fun _ => False) h h') X := by
  obtain ⟨wa, rfl, ha⟩ := ha
  obtain ⟨wb, rfl, hb⟩ := hb
  refine C_syntax_Same ω _ _ h _ X ?_
  unfold W_syntax_Same
  simp only [show ∀ w : Value, Value.cells (.agg #[w]) = [w].toArray from fun _ => rfl]
  have hb0 := hp_push_new (h := h) (o := .cells [wa].toArray 24 (0, 0))
  have k0 := Keep.push (S := fun _ => False) h (.cells [wa].toArray 24 (0, 0))
  generalize h.push (.cells [wa].toArray 24 (0, 0)) = h1 at *
  have hb1 := hp_push_new (h := h1) (o := .cells [wb].toArray 24 (0, 0))
  have k1 := Keep.push (S := fun _ => False) h1 (.cells [wb].toArray 24 (0, 0))
  generalize h1.push (.cells [wb].toArray 24 (0, 0)) = h2 at *
  have hb0 := k1.get hb0 (by simp)
  have k02 := k0.trans k1
  refine lx hb0 (j := 0) rfl ?_
  refine lx hb1 (j := 0) rfl ?_
  refine C_slices_EqualFunc_sl_api_Stage_sl_api_Stage_api_Stage_api_Stage ω _ _ _ _ _ X ?_
  refine EqF_law (sz := 4) (E := SgE) (R := fun r h' => (∃ b : Bool, r = .bool b ∧ (b = true ↔ sgsZ false p = sgsZ false q)) ∧ Keep (fun _ => False) h h') (T := 51) (z := #[(.string ⟨#[]⟩), (.int .i64 0), (.slice none 0 0), (.slice none 0 0)]) SgE.keep (sgZ false) rfl (SgS.rdb (ha.keep k02)) (SgS.rdb (hb.keep k02)) X ?_ (fun b h' hbb k => ⟨⟨b, rfl, hbb⟩, k02.trans k⟩)
  intro h' k x y C D hmem _ _ hx hy Y
  exact @callK_fn ω Tryd.prog n_syntax_sameStage _ _ _ _ call37 (sameG_one x y (hps x hmem) h' C D hx hy Y)
end
end Go.Proofs.YtaehnpilebkcoaaDoor
