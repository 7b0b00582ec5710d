/- Are two programs the same: expressions, statements. -/
import Derived.Test.YtkeeboomikkojaaGreatDoorRn6
namespace Go.Proofs.YtkeeboomikkojaaGreatDoor
open Go Go.Sx Go.Sx.Tk Go.Sx.Rn Go.Proofs.YtkeeboomikkojaaGreatDoor.Sx

theorem ex_eq_iff {x y : Ex} : x = y ↔ x.op = y.op ∧ x.nm = y.nm ∧ x.n = y.n ∧ x.l = y.l := by
  cases x; cases y
  simp [Ex.op, Ex.nm, Ex.n, Ex.l]
theorem eqB (a b : ByteArray) : (a.toList == b.toList) = decide (a = b) := by
  rw [eqS, Bool.eq_iff_iff]
  simp only [decide_eq_true_eq]
  exact ⟨bytes_ext, fun h => by rw [h]⟩
theorem take_ne {α : Type} {l m : List α} {k : Nat} {x y : α} (hx : l[k]? = some x) (hy : m[k]? = some y) (hne : x ≠ y) : l ≠ m := fun h => by
  rw [h, hy] at hx
  exact hne (Option.some.inj hx).symm
section
variable {ω : Amb}
end
end Go.Proofs.YtkeeboomikkojaaGreatDoor

namespace Go.Proofs.YtkeeboomikkojaaGreatDoor
open Go Go.Sx Go.Sx.Tk Go.Sx.Rn Go.Proofs.YtkeeboomikkojaaGreatDoor.Sx

mutual
def stZ (pl : Bool) : St → St
  | .mk d at_ a b t n e body els => .mk d (if pl then at_ else 0) a b t n e (stsZ pl body) (stsZ pl els)
def stsZ (pl : Bool) : List St → List St
  | [] => []
  | x :: r => stZ pl x :: stsZ pl r
end
theorem stsZ_map (pl : Bool) : ∀ l : List St, stsZ pl l = l.map (stZ pl)
  | [] => rfl
  | x :: r => by simp only [stsZ, List.map_cons, stsZ_map pl r]
theorem stZ_iff {pl : Bool} {x y : St} : stZ pl x = stZ pl y ↔ x.d = y.d ∧ x.a = y.a ∧ x.b = y.b ∧ x.t = y.t ∧ x.n = y.n ∧ (pl = true → x.at_ = y.at_) ∧ x.e = y.e ∧ stsZ pl x.body = stsZ pl y.body ∧ stsZ pl x.els = stsZ pl y.els := by
  cases x; cases y
  simp only [stZ, St.mk.injEq, St.d, St.a, St.b, St.t, St.n, St.at_, St.e, St.body, St.els]
  constructor
  · rintro ⟨h1, h2, h3, h4, h5, h6, h7, h8, h9⟩
    exact ⟨h1, h3, h4, h5, h6, fun hp => by rw [hp] at h2; exact h2, h7, h8, h9⟩
  · rintro ⟨h1, h3, h4, h5, h6, h2, h7, h8, h9⟩
    refine ⟨h1, ?_, h3, h4, h5, h6, h7, h8, h9⟩
    cases pl with
    | false => rfl
    | true => exact h2 rfl
section
variable {ω : Amb}
end
end Go.Proofs.YtkeeboomikkojaaGreatDoor

namespace Go.Proofs.YtkeeboomikkojaaGreatDoor
open Go Go.Sx Go.Sx.Tk Go.Sx.Rn Go.Proofs.YtkeeboomikkojaaGreatDoor.Sx

section
variable {ω : Amb}
end
end Go.Proofs.YtkeeboomikkojaaGreatDoor

namespace Go.Proofs.YtkeeboomikkojaaGreatDoor
open Go Go.Sx Go.Sx.Tk Go.Sx.Rn Go.Proofs.YtkeeboomikkojaaGreatDoor.Sx

def sgZ (pl : Bool) (s : Sg) : Sg := ⟨s.nm, if pl then s.at_ else 0, s.ps, stsZ pl s.body⟩
def sgsZ (pl : Bool) (p : List Sg) : List Sg := p.map (sgZ pl)
theorem sgZ_iff {pl : Bool} {x y : Sg} : sgZ pl x = sgZ pl y ↔ x.nm = y.nm ∧ (pl = true → x.at_ = y.at_) ∧ x.ps = y.ps ∧ stsZ pl x.body = stsZ pl y.body := by
  cases x; cases y
  simp only [sgZ, Sg.mk.injEq]
  constructor
  · rintro ⟨h1, h2, h3, h4⟩
    exact ⟨h1, fun hp => by rw [hp] at h2; exact h2, h3, h4⟩
  · rintro ⟨h1, h2, h3, h4⟩
    refine ⟨h1, ?_, h3, h4⟩
    cases pl with
    | false => rfl
    | true => exact h2 rfl
theorem pair_eq {a b : ByteArray × ByteArray} : (a.1.toList == b.1.toList && (a.2.toList == b.2.toList && true)) = decide (a = b) := by
  rw [eqB, eqB, Bool.eq_iff_iff]
  cases a; cases b
  simp
section
variable {ω : Amb}
end
end Go.Proofs.YtkeeboomikkojaaGreatDoor

namespace Go.Proofs.YtkeeboomikkojaaGreatDoor
open Go Go.Sx Go.Sx.Tk Go.Sx.Rn Go.Proofs.YtkeeboomikkojaaGreatDoor.Sx

/-- the text that Print answers -/
def prS (p : List Sg) : ByteArray := if (rendF p).1 = 0 then bs (pgT p) else ⟨#[]⟩
theorem printV_eq (p : List Sg) : printV p = .tuple #[.string (prS p), .agg (flt (rendF p).1 (rendF p).2).toArray] := by
  unfold printV prS
  by_cases h0 : (rendF p).1 = 0
  · rw [if_pos h0, if_pos h0, (rendF_0 h0).2.2]
  · rw [if_neg h0, if_neg h0]
theorem Small.nps {p : List Sg} (hs : Small p) : ∀ s ∈ p, s.ps.length ≤ 1000 := fun s h => by have := (hs.nm s h).2.1; omega
section
variable {ω : Amb}
end
end Go.Proofs.YtkeeboomikkojaaGreatDoor

namespace Go.Proofs.YtkeeboomikkojaaGreatDoor
open Go Go.Sx Go.Sx.Tk Go.Sx.Rn Go.Proofs.YtkeeboomikkojaaGreatDoor.Sx

set_option linter.unusedVariables false in
/-- slices.EqualFunc, over things of any size -/
def WEqF (ω : Amb) (sz : Nat) (T : TypeId) (z : Array Value) (s1_p s2_p eq_p : Value) (h : Hp) (R : Value → Hp → Prop) (X : List PanicEntry → Hp → Prop) : Prop :=
 asSl s1_p fun a0 l1 c2 => asSl s2_p fun a3 l4 c5 => cond ((l1 : Int) != ((l4 : Int) : Int))
 (R (.bool false) h)
 (asSl s1_p fun a6 l7 c8 => ∃ (I9 : Value → Hp → Prop) (μ10 : Value → Hp → Nat), I9 (.int .i64 0) h ∧ ∀ t17_11 (d12 : Nat → Value) (h13 : Hp), I9 t17_11 h13 →
 asK .i64 t17_11 fun n14 => cond (decide ((n14 : Int) < (l7 : Int)))
 (asSl1 s1_p fun a15 l16 c17 => asI t17_11 fun n18 => 0 ≤ (n18 : Int) ∧ n18 < (l16 : Int) ∧ ∃ C19, cellsH h13 (Addr.add a15 (Int.toNat n18 * sz)) sz C19 ∧
 C19.toArray.size = sz ∧ (∀ u ∈ C19.toArray.toList, one u) ∧ storeK (Array.push h13 (.cells z T (0, 0))) ⟨Array.size h13, 0, none⟩ C19.toArray.toList fun h20 =>
 asSl1 s2_p fun a21 l22 c23 => asI t17_11 fun n24 => 0 ≤ (n24 : Int) ∧ n24 < (l22 : Int) ∧ ∃ C25, cellsH h20 (Addr.add a21 (Int.toNat n24 * sz)) sz C25 ∧
 C25.toArray.size = sz ∧ (∀ u ∈ C25.toArray.toList, one u) ∧ storeK (Array.push h20 (.cells z T (0, 0))) ⟨Array.size h20, 0, none⟩ C25.toArray.toList fun h26 =>
 ∃ C27, cellsH h26 ⟨Array.size h13, 0, none⟩ sz C27 ∧
 ∃ C28, cellsH h26 ⟨Array.size h20, 0, none⟩ sz C28 ∧
 callK Tryz.prog ω eq_p [(.agg C27.toArray), (.agg C28.toArray)] h26 (fun r29 h30 =>
 asB r29 fun b31 => cond (!b31)
 (R (.bool false) h30)
 (asK .i64 t17_11 fun n32 => I9 (.int .i64 (IntKind.wrap .i64 (n32 + 1))) h30 ∧ μ10 (.int .i64 (IntKind.wrap .i64 (n32 + 1))) h30 < μ10 t17_11 h13)) X)
 (R (.bool true) h13))
/-- things that lie one behind the other -/
structure Rdb {α : Type} (sz : Nat) (E : Hp → α → List Value → Prop) (h : Hp) (v : Value) (l : List α) : Prop where
  sl : ∀ {F : Option Addr → Nat → Nat → Prop}, (∀ a c, F a l.length c) → asSl v F
  max : l.length ≤ 9223372036854775807
  rd : ∀ {h' : Hp}, Keep (fun _ => False) h h' → ∀ {i : Nat} {x : α}, l[i]? = some x → ∀ {K : List Value → Prop}, (∀ C, C.length = sz → (∀ u ∈ C, one u) → E h' x C → K C) →
    asSl1 v fun a l _ => 0 ≤ (i : Int) ∧ (i : Int) < (l : Int) ∧ ∃ C, cellsH h' (Addr.add a (Int.toNat (i : Int) * sz)) sz C ∧ K C
section
variable {ω : Amb}
theorem callK_use {fv : Value} {args : List Value} {h : Hp} {R R' : Value → Hp → Prop} {X : List PanicEntry → Hp → Prop} (hc : ∀ Y, callK Tryz.prog ω fv args h R Y) (hr : ∀ v h', R v h' → R' v h') : callK Tryz.prog ω fv args h R' X := by
  have := hc X
  unfold callK at this ⊢
  split at this
  · rename_i f first captured
    cases hb : callable Tryz.prog f with
    | false => rw [hb] at this; exact this.elim
    | true =>
      rw [hb] at this
      exact CallX.mono this hr (fun _ _ h => h)
  · exact this.elim
theorem EqF_law {α β : Type} {sz : Nat} {T : TypeId} {z : Array Value} {E : Hp → α → List Value → Prop} (hE : ∀ {h h' : Hp} {x : α} {C : List Value}, E h x C → Keep (fun _ => False) h h' → E h' x C) (g : α → β) (hz : z.size = sz)
    {l m : List α} {h : Hp} {va vb eq_ : Value} (ha : Rdb sz E h va l) (hb : Rdb sz E h vb m) (X : List PanicEntry → Hp → Prop)
    (hq : ∀ {h' : Hp}, Keep (fun _ => False) h h' → ∀ {x y : α} {C D : List Value}, x ∈ l → C.length = sz → D.length = sz → E h' x C → E h' y D →
      ∀ Y, callK Tryz.prog ω eq_ [.agg C.toArray, .agg D.toArray] h' (fun r h'' => (∃ b : Bool, r = .bool b ∧ (b = true ↔ g x = g y)) ∧ Keep (fun _ => False) h' h'') Y)
    {R : Value → Hp → Prop} (hR : ∀ (b : Bool) h', (b = true ↔ l.map g = m.map g) → Keep (fun _ => False) h h' → R (.bool b) h') :
    WEqF ω sz T z va vb eq_ h R X := by
  unfold WEqF
  have hmax := ha.max
  refine ha.sl fun _ _ => ?_
  refine hb.sl fun _ _ => ?_
  refine cond_c (fun hc => ?_) (fun hc => ?_)
  · have hne := bne_iff_ne.1 hc
    refine hR false _ ?_ (Keep.refl _ _)
    simp only [Bool.false_eq_true, false_iff]
    exact fun h => hne (by have := congrArg List.length h; simp only [List.length_map] at this; rw [this])
  have hlen : l.length = m.length := by
    have : (l.length : Int) = m.length := by simpa using hc
    omega
  refine ha.sl fun _ _ => ?_
  refine ⟨fun t h' => ∃ k : Nat, t = .int .i64 k ∧ k ≤ l.length ∧ (l.take k).map g = (m.take k).map g ∧ Keep (fun _ => False) h h', fun t _ => match t with | .int _ k => l.length - k.toNat | _ => 0,
    ⟨0, rfl, by omega, rfl, Keep.refl _ _⟩, ?_⟩
  rintro _ _ h3 ⟨k, rfl, hk, heq, k3⟩
  rw [asK_int]
  refine cond_c (fun hc => ?_) (fun hc => ?_)
  rotate_left
  · have hc := of_decide_eq_false hc
    obtain rfl : k = l.length := by omega
    rw [List.take_length, List.take_of_length_le (by omega)] at heq
    exact hR true _ (by simp [heq]) k3
  have hkl : k < l.length := by
    have := of_decide_eq_true hc
    omega
  have hx := List.getElem?_eq_getElem hkl
  have hy := List.getElem?_eq_getElem (show k < m.length by omega)
  have hmem : l[k] ∈ l := List.getElem_mem hkl
  generalize l[k] = x at hx hmem
  generalize m[k] = y at hy
  refine ha.rd k3 hx fun C hC hC1 hCE => ?_
  refine ⟨by simpa using hC, by simpa using hC1, storeK_local (by simpa [hz] using hC) ?_⟩
  have hb4 := hp_push_new (h := h3) (o := .cells C.toArray T (0, 0))
  have k4 := Keep.push (S := fun _ => False) h3 (.cells C.toArray T (0, 0))
  generalize h3.push (.cells C.toArray T (0, 0)) = h4 at *
  refine hb.rd (k3.trans k4) hy fun D hD hD1 hDE => ?_
  refine ⟨by simpa using hD, by simpa using hD1, storeK_local (by simpa [hz] using hD) ?_⟩
  have hb5 := hp_push_new (h := h4) (o := .cells D.toArray T (0, 0))
  have k5 := Keep.push (S := fun _ => False) h4 (.cells D.toArray T (0, 0))
  generalize h4.push (.cells D.toArray T (0, 0)) = h5 at *
  refine ⟨_, cellsH_blk (k5.get hb4 (by simp)) hC, _, cellsH_blk hb5 hD, ?_⟩
  refine callK_use (hq ((k3.trans k4).trans k5) hmem hC hD (hE (hE hCE k4) k5) (hE hDE k5)) ?_
  rintro _ h6 ⟨⟨b, rfl, hbb⟩, k6⟩
  have k36 := (k4.trans k5).trans k6
  have hxg : (l.map g)[k]? = some (g x) := by rw [List.getElem?_map, hx]; rfl
  have hyg : (m.map g)[k]? = some (g y) := by rw [List.getElem?_map, hy]; rfl
  rw [asB_bool]
  refine cond_c (fun hc => ?_) (fun hc => ?_)
  · have hn : g x ≠ g y := fun h => by
      rw [hbb.2 h] at hc
      cases hc
    refine hR false _ ?_ (k3.trans k36)
    simp only [Bool.false_eq_true, false_iff]
    exact take_ne hxg hyg hn
  · have he : g x = g y := hbb.1 (by simpa using hc)
    rw [asK_int, i64_in (by omega) (by omega)]
    exact ⟨⟨k + 1, by simp, by omega, by rw [tk_snoc hx, tk_snoc hy, List.map_append, List.map_append, heq, List.map_singleton, List.map_singleton, he], k3.trans k36⟩, by simp; omega⟩
/-! ### expressions -/
def ExE (h : Hp) (x : Ex) (C : List Value) : Prop := ∃ w, C = exC x w ∧ ExS h w x.l
theorem ExE.keep {h h' : Hp} {x : Ex} {C : List Value} (he : ExE h x C) (k : Keep (fun _ => False) h h') : ExE h' x C := by
  obtain ⟨w, h1, h2⟩ := he
  exact ⟨w, h1, h2.keep k⟩
theorem ExS.rdb {h : Hp} {v : Value} {l : List Ex} (hs : ExS h v l) : Rdb 4 ExE h v l :=
  ⟨fun hf => hs.sl hf, hs.max, fun k _ _ hx _ hk => (hs.keep k).rdC hx fun w hw => hk _ rfl (exC_one hw.isSl) ⟨w, rfl, hw⟩⟩
def SameEL (ω : Amb) (l : List Ex) : Prop := ∀ (m : List Ex) (h : Hp) (va vb : Value), ExS h va l → ExS h vb m → ∀ (X : List PanicEntry → Hp → Prop),
    CallX Tryz.prog ω n_slices_EqualFunc_sl_api_Expr_sl_api_Expr_api_Expr_api_Expr [va, vb, .func (.func 95) #[] #[]] h (fun r h' => (∃ b : Bool, r = .bool b ∧ (b = true ↔ l = m)) ∧ Keep (fun _ => False) h h') X
theorem sameX_one (x y : Ex) (hl : SameEL ω x.l) (h : Hp) (C D : List Value) (hx : ExE h x C) (hy : ExE h y D) (X : List PanicEntry → Hp → Prop) :
    CallX Tryz.prog ω n_syntax_sameExpr [.agg C.toArray, .agg D.toArray] h (fun r h' => (∃ b : Bool, r = .bool b ∧ (b = true ↔ x = y)) ∧ Keep (fun _ => False) h h') X := by
  obtain ⟨va, rfl, ha⟩ := hx
  obtain ⟨vb, rfl, hb⟩ := hy
  refine C_syntax_sameExpr ω _ _ h _ X ?_
  unfold W_syntax_sameExpr
  simp only [show ∀ C : List Value, Value.cells (.agg C.toArray) = C.toArray from fun _ => rfl]
  have hA := hp_push_new (h := h) (o := .cells (exC x va).toArray 36 (0, 0))
  have k0 := Keep.push (S := fun _ => False) h (.cells (exC x va).toArray 36 (0, 0))
  generalize h.push (.cells (exC x va).toArray 36 (0, 0)) = h1 at *
  have hB := hp_push_new (h := h1) (o := .cells (exC y vb).toArray 36 (0, 0))
  have k1 := Keep.push (S := fun _ => False) h1 (.cells (exC y vb).toArray 36 (0, 0))
  generalize h1.push (.cells (exC y vb).toArray 36 (0, 0)) = h2 at *
  have hA := k1.get hA (by simp)
  have k02 := k0.trans k1
  refine ⟨fun v h' => (∃ b : Bool, v = .bool b ∧ (b = true ↔ x = y)) ∧ Keep (fun _ => False) h2 h', ?_, fun _ _ _ hj => ⟨hj.1, k02.trans hj.2⟩⟩
  refine lx hA (j := 0) rfl ?_
  refine lx hB (j := 0) rfl ?_
  rw [asK_int, asK_int]
  refine cond_c (fun hc => ?_) (fun hc => ?_)
  rotate_left
  · have := beq_eq_false_iff_ne.1 hc
    exact ⟨⟨false, rfl, by simp; exact fun h => this (by rw [h])⟩, Keep.refl _ _⟩
  have e1 := eq_of_beq hc
  refine lx hA (j := 1) rfl ?_
  refine lx hB (j := 1) rfl ?_
  rw [asS_str, asS_str, eqB]
  refine cond_c (fun hc => ?_) (fun hc => ?_)
  rotate_left
  · have := of_decide_eq_false hc
    exact ⟨⟨false, rfl, by simp; exact fun h => this (by rw [h])⟩, Keep.refl _ _⟩
  have e2 := of_decide_eq_true hc
  refine lx hA (j := 2) rfl ?_
  refine lx hB (j := 2) rfl ?_
  rw [asK_int, asK_int]
  refine cond_c (fun hc => ?_) (fun hc => ?_)
  rotate_left
  · have := beq_eq_false_iff_ne.1 hc
    exact ⟨⟨false, rfl, by simp; exact fun h => this (by rw [h])⟩, Keep.refl _ _⟩
  have e3 := eq_of_beq hc
  refine lx hA (j := 3) rfl ?_
  refine lx hB (j := 3) rfl ?_
  refine CallX.use (hl y.l h2 va vb (ha.keep k02) (hb.keep k02)) ?_
  rintro _ h3 ⟨⟨b, rfl, hbb⟩, k3⟩
  refine ⟨⟨b, rfl, ?_⟩, k3⟩
  rw [hbb, ex_eq_iff]
  exact ⟨fun h => ⟨e1, e2, e3, h⟩, fun h => h.2.2.2⟩
theorem callK_fn {P : Program} {f : FuncId} {args : List Value} {h : Hp} {K : Value → Hp → Prop} {X : List PanicEntry → Hp → Prop} (hc : callable P f = true) (hk : CallX P ω f args h K X) : callK P ω (.func (.func f) #[] #[]) args h K X := by
  show cond (callable P f) (CallX P ω f ([] ++ (args ++ [])) h K X) False
  rw [List.append_nil, List.nil_append]
  exact cond_t hc hk
theorem call95 : callable Tryz.prog n_syntax_sameExpr = true := by kernel_rfl
theorem call73 : callable Tryz.prog n_syntax_sameStmt = true := by kernel_rfl
theorem call37 : callable Tryz.prog n_syntax_sameStage = true := by kernel_rfl
set_option maxRecDepth 100000 in
theorem sameX_law : ∀ (N : Nat) (l : List Ex), exsN l < N → SameEL ω l := by
  intro N
  induction N with
  | zero => exact fun l hN => absurd hN (Nat.not_lt_zero _)
  | succ N ih =>
    intro l hN m h va vb ha hb X
    refine C_slices_EqualFunc_sl_api_Expr_sl_api_Expr_api_Expr_api_Expr ω _ _ _ h _ X ?_
    refine EqF_law (sz := 4) (E := ExE) (R := fun r h' => (∃ b : Bool, r = .bool b ∧ (b = true ↔ l = m)) ∧ Keep (fun _ => False) h h') (T := 36) (z := #[(.int .i64 0), (.string ⟨#[]⟩), (.int .i64 0), (.slice none 0 0)]) ExE.keep id rfl (ExS.rdb ha) (ExS.rdb hb) X ?_ (fun b h' hbb k => ⟨⟨b, rfl, by rw [hbb, List.map_id, List.map_id]⟩, k⟩)
    intro h' k x y C D hmem _ _ hx hy Y
    have hxn := exsN_mem hmem
    have hxe := exN_eq x
    have h1 := sameX_one x y (ih x.l (by omega)) h' C D hx hy Y
    have h2 := @callK_fn ω Tryz.prog n_syntax_sameExpr _ _ _ _ call95 h1
    exact h2
end
end Go.Proofs.YtkeeboomikkojaaGreatDoor

namespace Go.Proofs.YtkeeboomikkojaaGreatDoor
open Go Go.Sx Go.Sx.Tk Go.Sx.Rn Go.Proofs.YtkeeboomikkojaaGreatDoor.Sx

def StE (h : Hp) (x : St) (C : List Value) : Prop := ∃ ve vb vl, C = stC x ve vb vl ∧ ExS h ve x.e ∧ StS h vb x.body ∧ StS h vl x.els
theorem StE.keep {h h' : Hp} {x : St} {C : List Value} (he : StE h x C) (k : Keep (fun _ => False) h h') : StE h' x C := by
  obtain ⟨ve, vb, vl, h1, h2, h3, h4⟩ := he
  exact ⟨ve, vb, vl, h1, h2.keep k, h3.keep k, h4.keep k⟩
theorem StS.rdb {h : Hp} {v : Value} {l : List St} (hs : StS h v l) : Rdb 9 StE h v l :=
  ⟨fun hf => hs.sl hf, hs.max, fun k _ _ hx _ hk => (hs.keep k).rdC hx fun ve vb vl he hb hl => hk _ rfl (stC_one he.isSl hb.isSl hl.isSl) ⟨ve, vb, vl, rfl, he, hb, hl⟩⟩
section
variable {ω : Amb}
def SameFL (ω : Amb) (l : List St) : Prop := ∀ (m : List St) (h : Hp) (va vb : Value), StS h va l → StS h vb m → ∀ (X : List PanicEntry → Hp → Prop),
    CallX Tryz.prog ω n_slices_EqualFunc_sl_api_Stmt_sl_api_Stmt_api_Stmt_api_Stmt [va, vb, .func (.func 69) #[] #[]] h (fun r h' => (∃ b : Bool, r = .bool b ∧ (b = true ↔ stsZ false l = stsZ false m)) ∧ Keep (fun _ => False) h h') X
theorem sameY_one (x y : St) (hB : SameFL ω x.body) (hE : SameFL ω x.els) (h : Hp) (C D : List Value) (hx : StE h x C) (hy : StE h y D) (X : List PanicEntry → Hp → Prop) :
    CallX Tryz.prog ω n_syntax_sameStmt [.agg C.toArray, .agg D.toArray] h (fun r h' => (∃ b : Bool, r = .bool b ∧ (b = true ↔ stZ false x = stZ false y)) ∧ Keep (fun _ => False) h h') X := by
  obtain ⟨ae, ab, al, rfl, ha1, ha2, ha3⟩ := hx
  obtain ⟨be, bb, bl, rfl, hb1, hb2, hb3⟩ := hy
  refine C_syntax_sameStmt ω _ _ h _ X ?_
  unfold W_syntax_sameStmt
  simp only [show ∀ C : List Value, Value.cells (.agg C.toArray) = C.toArray from fun _ => rfl]
  have hA := hp_push_new (h := h) (o := .cells (stC x ae ab al).toArray 39 (0, 0))
  have k0 := Keep.push (S := fun _ => False) h (.cells (stC x ae ab al).toArray 39 (0, 0))
  generalize h.push (.cells (stC x ae ab al).toArray 39 (0, 0)) = h1 at *
  have hB' := hp_push_new (h := h1) (o := .cells (stC y be bb bl).toArray 39 (0, 0))
  have k1 := Keep.push (S := fun _ => False) h1 (.cells (stC y be bb bl).toArray 39 (0, 0))
  generalize h1.push (.cells (stC y be bb bl).toArray 39 (0, 0)) = h2 at *
  have hA := k1.get hA (by simp)
  have k02 := k0.trans k1
  have hiff : stZ false x = stZ false y ↔ x.d = y.d ∧ x.a = y.a ∧ x.b = y.b ∧ x.t = y.t ∧ x.n = y.n ∧ x.e = y.e ∧ stsZ false x.body = stsZ false y.body ∧ stsZ false x.els = stsZ false y.els := by
    rw [stZ_iff]
    exact ⟨fun ⟨a1, a2, a3, a4, a5, _, a7, a8, a9⟩ => ⟨a1, a2, a3, a4, a5, a7, a8, a9⟩, fun ⟨a1, a2, a3, a4, a5, a7, a8, a9⟩ => ⟨a1, a2, a3, a4, a5, fun h => Bool.noConfusion h, a7, a8, a9⟩⟩
  refine ⟨fun v h' => (∃ b : Bool, v = .bool b ∧ (b = true ↔ stZ false x = stZ false y)) ∧ Keep (fun _ => False) h2 h', ?_, fun _ _ _ hj => ⟨hj.1, k02.trans hj.2⟩⟩
  rw [hiff]
  refine lx hA (j := 0) rfl ?_
  refine lx hB' (j := 0) rfl ?_
  rw [asK_int, asK_int]
  refine cond_c (fun hc => ?_) (fun hc => ?_)
  rotate_left
  · have := beq_eq_false_iff_ne.1 hc
    exact ⟨⟨false, rfl, by simp only [Bool.false_eq_true, false_iff]; exact fun h => this h.1⟩, Keep.refl _ _⟩
  have e1 := eq_of_beq hc
  refine lx hA (j := 2) rfl ?_
  refine lx hB' (j := 2) rfl ?_
  rw [asS_str, asS_str, eqB]
  refine cond_c (fun hc => ?_) (fun hc => ?_)
  rotate_left
  · have := of_decide_eq_false hc
    exact ⟨⟨false, rfl, by simp only [Bool.false_eq_true, false_iff]; exact fun h => this h.2.1⟩, Keep.refl _ _⟩
  have e2 := of_decide_eq_true hc
  refine lx hA (j := 3) rfl ?_
  refine lx hB' (j := 3) rfl ?_
  rw [asS_str, asS_str, eqB]
  refine cond_c (fun hc => ?_) (fun hc => ?_)
  rotate_left
  · have := of_decide_eq_false hc
    exact ⟨⟨false, rfl, by simp only [Bool.false_eq_true, false_iff]; exact fun h => this h.2.2.1⟩, Keep.refl _ _⟩
  have e3 := of_decide_eq_true hc
  refine lx hA (j := 4) rfl ?_
  refine lx hB' (j := 4) rfl ?_
  rw [asS_str, asS_str, eqB]
  refine cond_c (fun hc => ?_) (fun hc => ?_)
  rotate_left
  · have := of_decide_eq_false hc
    exact ⟨⟨false, rfl, by simp only [Bool.false_eq_true, false_iff]; exact fun h => this h.2.2.2.1⟩, Keep.refl _ _⟩
  have e4 := of_decide_eq_true hc
  refine lx hA (j := 5) rfl ?_
  refine lx hB' (j := 5) rfl ?_
  rw [asK_int, asK_int]
  refine cond_c (fun hc => ?_) (fun hc => ?_)
  rotate_left
  · have := beq_eq_false_iff_ne.1 hc
    exact ⟨⟨false, rfl, by simp only [Bool.false_eq_true, false_iff]; exact fun h => this h.2.2.2.2.1⟩, Keep.refl _ _⟩
  have e5 := eq_of_beq hc
  refine lx hA (j := 6) rfl ?_
  refine lx hB' (j := 6) rfl ?_
  refine CallX.use (sameX_law _ x.e (Nat.lt_succ_self _) y.e h2 ae be (ha1.keep k02) (hb1.keep k02)) ?_
  rintro _ h3 ⟨⟨b, rfl, hbb⟩, k3⟩
  have hA3 := k3.get hA (by simp)
  have hB3 := k3.get hB' (by simp)
  rw [asB_bool]
  refine cond_c (fun hc => ?_) (fun hc => ?_)
  rotate_left
  · refine ⟨⟨false, rfl, ?_⟩, k3⟩
    simp only [Bool.false_eq_true, false_iff]
    exact fun h => by rw [hbb.2 h.2.2.2.2.2.1] at hc; cases hc
  have e6 := hbb.1 hc
  refine lx hA3 (j := 7) rfl ?_
  refine lx hB3 (j := 7) rfl ?_
  refine CallX.use (hB y.body h3 ab bb (ha2.keep (k02.trans k3)) (hb2.keep (k02.trans k3))) ?_
  rintro _ h4 ⟨⟨b, rfl, hbb⟩, k4⟩
  have hA4 := k4.get hA3 (by simp)
  have hB4 := k4.get hB3 (by simp)
  rw [asB_bool]
  refine cond_c (fun hc => ?_) (fun hc => ?_)
  rotate_left
  · refine ⟨⟨false, rfl, ?_⟩, k3.trans k4⟩
    simp only [Bool.false_eq_true, false_iff]
    exact fun h => by rw [hbb.2 h.2.2.2.2.2.2.1] at hc; cases hc
  have e7 := hbb.1 hc
  refine lx hA4 (j := 8) rfl ?_
  refine lx hB4 (j := 8) rfl ?_
  refine CallX.use (hE y.els h4 al bl (ha3.keep ((k02.trans k3).trans k4)) (hb3.keep ((k02.trans k3).trans k4))) ?_
  rintro _ h5 ⟨⟨b, rfl, hbb⟩, k5⟩
  refine ⟨⟨b, rfl, ?_⟩, (k3.trans k4).trans k5⟩
  rw [hbb]
  exact ⟨fun h => ⟨e1, e2, e3, e4, e5, e6, e7, h⟩, fun h => h.2.2.2.2.2.2.2⟩
set_option maxRecDepth 100000 in
theorem sameY_law : ∀ (N : Nat) (l : List St), stsN l < N → SameFL ω l := by
  intro N
  induction N with
  | zero => exact fun l hN => absurd hN (Nat.not_lt_zero _)
  | succ N ih =>
    intro l hN m h va vb ha hb X
    refine C_slices_EqualFunc_sl_api_Stmt_sl_api_Stmt_api_Stmt_api_Stmt ω _ _ _ h _ X ?_
    refine EqF_law (sz := 9) (E := StE) (R := fun r h' => (∃ b : Bool, r = .bool b ∧ (b = true ↔ stsZ false l = stsZ false m)) ∧ Keep (fun _ => False) h h') (T := 39) (z := #[(.int .i64 0), (.int .i64 0), (.string ⟨#[]⟩), (.string ⟨#[]⟩), (.string ⟨#[]⟩), (.int .i64 0), (.slice none 0 0), (.slice none 0 0), (.slice none 0 0)]) StE.keep (stZ false) rfl (StS.rdb ha) (StS.rdb hb) X ?_ (fun b h' hbb k => ⟨⟨b, rfl, by rw [hbb, stsZ_map, stsZ_map]⟩, k⟩)
    intro h' k x y C D hmem _ _ hx hy Y
    have hxn := stsN_mem hmem
    have hxe := stN_eq x
    exact @callK_fn ω Tryz.prog n_syntax_sameStmt _ _ _ _ call73 (sameY_one x y (ih x.body (by omega)) (ih x.els (by omega)) h' C D hx hy Y)
end
end Go.Proofs.YtkeeboomikkojaaGreatDoor

namespace Go.Proofs.YtkeeboomikkojaaGreatDoor
open Go Go.Sx Go.Sx.Tk Go.Sx.Rn Go.Proofs.YtkeeboomikkojaaGreatDoor.Sx

def SgE (h : Hp) (x : Sg) (C : List Value) : Prop := ∃ vp vb, C = sgC x vp vb ∧ PsS h vp x.ps ∧ StS h vb x.body
theorem SgE.keep {h h' : Hp} {x : Sg} {C : List Value} (he : SgE h x C) (k : Keep (fun _ => False) h h') : SgE h' x C := by
  obtain ⟨vp, vb, h1, h2, h3⟩ := he
  exact ⟨vp, vb, h1, h2.keep k, h3.keep k⟩
theorem SgS.max {h : Hp} {v : Value} {l : List Sg} (hs : SgS h v l) : l.length ≤ 9223372036854775807 := by
  obtain ⟨us, h1, _⟩ := hs
  exact h1.2
theorem SgS.rdb {h : Hp} {v : Value} {l : List Sg} (hs : SgS h v l) : Rdb 4 SgE h v l :=
  ⟨fun hf => hs.sl hf, SgS.max hs, fun k _ _ hx _ hk => (hs.keep k).rdC hx fun vp vb hp hb => hk _ rfl (sgC_one (SlAt.isSl hp.1) hb.isSl) ⟨vp, vb, rfl, hp, hb⟩⟩
section
variable {ω : Amb}
theorem EqPs_law (l m : List (ByteArray × ByteArray)) (hl : l.length ≤ 1000) (h : Hp) (va vb : Value) (ha : PsS h va l) (hb : PsS h vb m) (X : List PanicEntry → Hp → Prop) :
    CallX Tryz.prog ω n_slices_Equal_sl_api_Param_api_Param [va, vb] h (fun r h' => (∃ b : Bool, r = .bool b ∧ (b = true ↔ l = m)) ∧ Keep (fun _ => False) h h') X := by
  refine C_slices_Equal_sl_api_Param_api_Param ω _ _ h _ X ?_
  unfold W_slices_Equal_sl_api_Param_api_Param
  refine SlAt.sl ha.1 fun _ _ => ?_
  refine SlAt.sl hb.1 fun _ _ => ?_
  refine cond_c (fun hc => ?_) (fun hc => ?_)
  · have hne := bne_iff_ne.1 hc
    exact ⟨⟨false, rfl, by simp only [Bool.false_eq_true, false_iff]; exact fun h => hne (by rw [h])⟩, Keep.refl _ _⟩
  have hlen : l.length = m.length := by
    have : (l.length : Int) = m.length := by simpa using hc
    omega
  refine SlAt.sl ha.1 fun _ _ => ?_
  refine ⟨fun t h' => ∃ k : Nat, t = .int .i64 k ∧ k ≤ l.length ∧ l.take k = m.take k ∧ h = h', fun t _ => match t with | .int _ k => l.length - k.toNat | _ => 0, ⟨0, rfl, by omega, rfl, rfl⟩, ?_⟩
  rintro _ _ _ ⟨k, rfl, hk, heq, rfl⟩
  rw [asK_int]
  refine cond_c (fun hc => ?_) (fun hc => ?_)
  rotate_left
  · have hc := of_decide_eq_false hc
    obtain rfl : k = l.length := by omega
    rw [List.take_length, List.take_of_length_le (by omega)] at heq
    exact ⟨⟨true, rfl, by simp [heq]⟩, Keep.refl _ _⟩
  have hkl : k < l.length := by
    have := of_decide_eq_true hc
    omega
  have hx := List.getElem?_eq_getElem hkl
  have hy := List.getElem?_eq_getElem (show k < m.length by omega)
  generalize l[k] = x at hx
  generalize m[k] = y at hy
  refine SlAt.rdS (f := pf) ha.1 pf_len hx ?_
  refine SlAt.rdS (f := pf) hb.1 pf_len hy ?_
  have g0 : ∀ p : ByteArray × ByteArray, (pf p).toArray[0]? = some (.string p.1) := fun _ => rfl
  have g1 : ∀ p : ByteArray × ByteArray, (pf p).toArray[1]? = some (.string p.2) := fun _ => rfl
  simp only [g0, g1, asO_some, asS_str]
  rw [pair_eq]
  refine cond_c (fun hc => ?_) (fun hc => ?_)
  · have : x ≠ y := by simpa using hc
    exact ⟨⟨false, rfl, by simp only [Bool.false_eq_true, false_iff]; exact take_ne hx hy this⟩, Keep.refl _ _⟩
  · have he : x = y := by simpa using hc
    rw [asK_int, i64_in (by omega) (by omega)]
    exact ⟨⟨k + 1, by simp, by omega, by rw [tk_snoc hx, tk_snoc hy, heq, he], trivial⟩, by simp; omega⟩
theorem sameG_one (x y : Sg) (hpl : x.ps.length ≤ 1000) (h : Hp) (C D : List Value) (hx : SgE h x C) (hy : SgE h y D) (X : List PanicEntry → Hp → Prop) :
    CallX Tryz.prog ω n_syntax_sameStage [.agg C.toArray, .agg D.toArray] h (fun r h' => (∃ b : Bool, r = .bool b ∧ (b = true ↔ sgZ false x = sgZ false y)) ∧ Keep (fun _ => False) h h') X := by
  obtain ⟨ap, ab, rfl, ha1, ha2⟩ := hx
  obtain ⟨bp, bb, rfl, hb1, hb2⟩ := hy
  refine C_syntax_sameStage ω _ _ h _ X ?_
  unfold W_syntax_sameStage
  simp only [show ∀ C : List Value, Value.cells (.agg C.toArray) = C.toArray from fun _ => rfl]
  have hA := hp_push_new (h := h) (o := .cells (sgC x ap ab).toArray 41 (0, 0))
  have k0 := Keep.push (S := fun _ => False) h (.cells (sgC x ap ab).toArray 41 (0, 0))
  generalize h.push (.cells (sgC x ap ab).toArray 41 (0, 0)) = h1 at *
  have hB' := hp_push_new (h := h1) (o := .cells (sgC y bp bb).toArray 41 (0, 0))
  have k1 := Keep.push (S := fun _ => False) h1 (.cells (sgC y bp bb).toArray 41 (0, 0))
  generalize h1.push (.cells (sgC y bp bb).toArray 41 (0, 0)) = h2 at *
  have hA := k1.get hA (by simp)
  have k02 := k0.trans k1
  have hiff : sgZ false x = sgZ false y ↔ x.nm = y.nm ∧ x.ps = y.ps ∧ stsZ false x.body = stsZ false y.body := by
    rw [sgZ_iff]
    exact ⟨fun ⟨a1, _, a3, a4⟩ => ⟨a1, a3, a4⟩, fun ⟨a1, a3, a4⟩ => ⟨a1, fun h => Bool.noConfusion h, a3, a4⟩⟩
  refine ⟨fun v h' => (∃ b : Bool, v = .bool b ∧ (b = true ↔ sgZ false x = sgZ false y)) ∧ Keep (fun _ => False) h2 h', ?_, fun _ _ _ hj => ⟨hj.1, k02.trans hj.2⟩⟩
  rw [hiff]
  refine lx hA (j := 0) rfl ?_
  refine lx hB' (j := 0) rfl ?_
  rw [asS_str, asS_str, eqB]
  refine cond_c (fun hc => ?_) (fun hc => ?_)
  rotate_left
  · have := of_decide_eq_false hc
    exact ⟨⟨false, rfl, by simp only [Bool.false_eq_true, false_iff]; exact fun h => this h.1⟩, Keep.refl _ _⟩
  have e1 := of_decide_eq_true hc
  refine lx hA (j := 2) rfl ?_
  refine lx hB' (j := 2) rfl ?_
  refine CallX.use (EqPs_law x.ps y.ps hpl h2 ap bp (ha1.keep k02) (hb1.keep k02)) ?_
  rintro _ h3 ⟨⟨b, rfl, hbb⟩, k3⟩
  have hA3 := k3.get hA (by simp)
  have hB3 := k3.get hB' (by simp)
  rw [asB_bool]
  refine cond_c (fun hc => ?_) (fun hc => ?_)
  rotate_left
  · refine ⟨⟨false, rfl, ?_⟩, k3⟩
    simp only [Bool.false_eq_true, false_iff]
    exact fun h => by rw [hbb.2 h.2.1] at hc; cases hc
  have e2 := hbb.1 hc
  refine lx hA3 (j := 3) rfl ?_
  refine lx hB3 (j := 3) rfl ?_
  refine CallX.use (sameY_law _ x.body (Nat.lt_succ_self _) y.body h3 ab bb (ha2.keep (k02.trans k3)) (hb2.keep (k02.trans k3))) ?_
  rintro _ h4 ⟨⟨b, rfl, hbb⟩, k4⟩
  refine ⟨⟨b, rfl, ?_⟩, k3.trans k4⟩
  rw [hbb]
  exact ⟨fun h => ⟨e1, e2, h⟩, fun h => h.2.2⟩
set_option maxRecDepth 100000 in
theorem Same_law (p q : List Sg) (hps : ∀ s ∈ p, s.ps.length ≤ 1000) (h : Hp) (va vb : Value) (ha : PgS h va p) (hb : PgS h vb q) (X : List PanicEntry → Hp → Prop) :
    CallX Tryz.prog ω n_syntax_Same [va, vb] h (fun r h' => (∃ b : Bool, r = .bool b ∧ (b = true ↔ sgsZ false p = sgsZ false q)) ∧ Keep (fun _ => False) h h') X := by
  obtain ⟨wa, rfl, ha⟩ := ha
  obtain ⟨wb, rfl, hb⟩ := hb
  refine C_syntax_Same ω _ _ h _ X ?_
  unfold W_syntax_Same
  simp only [show ∀ w : Value, Value.cells (.agg #[w]) = [w].toArray from fun _ => rfl]
  have hb0 := hp_push_new (h := h) (o := .cells [wa].toArray 24 (0, 0))
  have k0 := Keep.push (S := fun _ => False) h (.cells [wa].toArray 24 (0, 0))
  generalize h.push (.cells [wa].toArray 24 (0, 0)) = h1 at *
  have hb1 := hp_push_new (h := h1) (o := .cells [wb].toArray 24 (0, 0))
  have k1 := Keep.push (S := fun _ => False) h1 (.cells [wb].toArray 24 (0, 0))
  generalize h1.push (.cells [wb].toArray 24 (0, 0)) = h2 at *
  have hb0 := k1.get hb0 (by simp)
  have k02 := k0.trans k1
  refine lx hb0 (j := 0) rfl ?_
  refine lx hb1 (j := 0) rfl ?_
  refine C_slices_EqualFunc_sl_api_Stage_sl_api_Stage_api_Stage_api_Stage ω _ _ _ _ _ X ?_
  refine EqF_law (sz := 4) (E := SgE) (R := fun r h' => (∃ b : Bool, r = .bool b ∧ (b = true ↔ sgsZ false p = sgsZ false q)) ∧ Keep (fun _ => False) h h') (T := 41) (z := #[(.string ⟨#[]⟩), (.int .i64 0), (.slice none 0 0), (.slice none 0 0)]) SgE.keep (sgZ false) rfl (SgS.rdb (ha.keep k02)) (SgS.rdb (hb.keep k02)) X ?_ (fun b h' hbb k => ⟨⟨b, rfl, hbb⟩, k02.trans k⟩)
  intro h' k x y C D hmem _ _ hx hy Y
  exact @callK_fn ω Tryz.prog n_syntax_sameStage _ _ _ _ call37 (sameG_one x y (hps x hmem) h' C D hx hy Y)
end
end Go.Proofs.YtkeeboomikkojaaGreatDoor
