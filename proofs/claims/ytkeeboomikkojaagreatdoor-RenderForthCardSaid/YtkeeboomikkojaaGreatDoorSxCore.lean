/- Whole bodies: a formula for a function's code. -/
import Derived.Test.YtkeeboomikkojaaGreatDoorSxDraw
namespace Go.Sx
variable {P : Program} {ω : Amb} {ds : List Deferred}

/-- how a piece of code is to be gone through -/
inductive Ann
  | leaf
  | plan (l : List Nat)
  | two (a b : Ann)
  | one (a : Ann)
  | loop (mods live : List Nat) (a : Ann)
  | join (mods live : List Nat) (a : Ann)
  | jb (mods : List Nat) (s : Nat) (a : Ann)

def writes : Code → List Nat
  | .region _ ops _ => dsts ops
  | .seq a b => writes a ++ writes b
  | .cond _ a b => writes a ++ writes b
  | .block _ a => writes a
  | .loop a => writes a
  | _ => []

def subL (a b : List Nat) : Bool := a.all fun x => b.elem x
theorem subL_mem {a b : List Nat} (h : subL a b = true) {x : Nat} (hx : x ∈ a) : x ∈ b := by
  simp only [subL, List.all_eq_true] at h
  simpa using h x hx

/-- functions of n values -/
abbrev Fn : Nat → Type → Type
  | 0, T => T
  | n + 1, T => Value → Fn n T
def ap {T : Type} : (n : Nat) → Fn n T → List Value → T
  | 0, f, _ => f
  | n + 1, f, v :: vs => ap n (f v) vs
  | n + 1, f, [] => ap n (f undef) []
def allN : Nat → (List Value → Prop) → Prop
  | 0, F => F []
  | n + 1, F => ∀ v, allN n fun vs => F (v :: vs)
theorem allN_inv : ∀ {n : Nat} {F : List Value → Prop}, allN n F → ∀ vs : List Value, vs.length = n → F vs
  | 0, F, h, vs, hl => by rw [List.eq_nil_of_length_eq_zero hl]; exact h
  | n + 1, F, h, v :: vs, hl => allN_inv (h v) vs (by simpa using hl)

def findV : List Nat → List Value → Nat → Option Value
  | l :: ls, v :: vs, i => cond (Nat.beq l i) (some v) (findV ls vs i)
  | _, _, _ => none
/-- a frame of which some slots are known anew, some are not known, all others stand -/
def havocGo (mods live : List Nat) (vs : List Value) (dead : Nat → Value) : Nat → Fr → Fr
  | _, [] => []
  | i, v :: r => (match findV live vs i with | some x => x | none => cond (mods.elem i) (dead i) v) :: havocGo mods live vs dead (i + 1) r
def havoc (fr : Fr) (mods live : List Nat) (vs : List Value) (dead : Nat → Value) : Fr := havocGo mods live vs dead 0 fr
def look (fr : Fr) (live : List Nat) : List Value := live.map fun i => fr.getD i undef

theorem findV_look {fr : Fr} : ∀ {live : List Nat} {i : Nat} {x : Value}, findV live (look fr live) i = some x → x = fr.getD i undef
  | [], i, x, h => by cases h
  | l :: ls, i, x, h => by
    simp only [look, List.map_cons, findV] at h
    cases hb : Nat.beq l i with
    | true =>
      rw [hb, cond_true] at h
      have : l = i := Nat.eq_of_beq_eq_true hb
      subst this
      exact (Option.some.inj h).symm
    | false => rw [hb, cond_false] at h; exact findV_look h

theorem havocGo_eq {mods live : List Nat} {fr' : Fr} {dead : Nat → Value} (hd : ∀ i, dead i = fr'.getD i undef) : ∀ (fr : Fr) (k : Nat) (r : Fr), r.length = fr.length →
    (∀ j, r.getD j undef = fr'.getD (k + j) undef) → (∀ j, (k + j) ∉ mods → r.getD j undef = fr.getD j undef) → havocGo mods live (look fr' live) dead k fr = r
  | [], k, r, hl, _, _ => by
    have : r = [] := List.eq_nil_of_length_eq_zero (by simpa using hl)
    rw [this]; rfl
  | v :: fr, k, [], hl, _, _ => by simp at hl
  | v :: fr, k, x :: r, hl, h1, h2 => by
    have hx : x = fr'.getD k undef := by simpa using h1 0
    simp only [havocGo]
    congr 1
    · split
      · rename_i y hy; rw [findV_look hy, hx]
      · cases hm : mods.elem k with
        | true => rw [cond_true, hd, hx]
        | false =>
          have := h2 0 (by simpa using hm)
          simpa using this.symm
    · refine havocGo_eq hd fr (k + 1) r (by simpa using hl) (fun j => ?_) (fun j hj => ?_)
      · have := h1 (j + 1)
        rw [show k + (j + 1) = k + 1 + j by omega] at this
        simpa using this
      · have := h2 (j + 1) (by rw [show k + (j + 1) = k + 1 + j by omega]; exact hj)
        simpa using this

theorem havoc_agree {mods live : List Nat} {fr fr' : Fr} (h : Agree mods fr fr') : havoc fr mods live (look fr' live) (fun i => fr'.getD i undef) = fr' :=
  havocGo_eq (fun _ => rfl) fr 0 fr' h.1 (fun j => by rw [Nat.zero_add]) (fun j hj => h.2 j (by simpa using hj))

theorem havoc_length {mods live : List Nat} {vs : List Value} {dead : Nat → Value} {fr : Fr} : (havoc fr mods live vs dead).length = fr.length := by
  unfold havoc
  generalize 0 = k
  induction fr generalizing k with
  | nil => rfl
  | cons v r ih => simp only [havocGo, List.length_cons, ih]

theorem findV_none {live : List Nat} {vs : List Value} {i : Nat} (h : i ∉ live) : findV live vs i = none := by
  induction live generalizing vs with
  | nil => rfl
  | cons l ls ih =>
    cases vs with
    | nil => rfl
    | cons v vs =>
      simp only [findV]
      have hne : Nat.beq l i = false := by
        cases hb : Nat.beq l i with
        | false => rfl
        | true => exact absurd (Nat.eq_of_beq_eq_true hb) (fun e => h (by simp [e]))
      rw [hne, cond_false]
      exact ih (by simp at h; exact h.2)

theorem havocGo_get {mods live : List Nat} {vs : List Value} {dead : Nat → Value} : ∀ (fr : Fr) (k j : Nat), (k + j) ∉ mods → (k + j) ∉ live → (havocGo mods live vs dead k fr).getD j undef = fr.getD j undef
  | [], k, j, _, _ => by simp [havocGo]
  | v :: r, k, 0, hm, hl => by
    simp only [havocGo]
    rw [show k + 0 = k from rfl] at hm hl
    have : mods.elem k = false := by simpa using hm
    simp only [findV_none hl, this, cond_false, List.getD_cons_zero]
  | v :: r, k, j + 1, hm, hl => by
    simp only [havocGo, List.getD_cons_succ]
    exact havocGo_get r (k + 1) j (by rw [show k + 1 + j = k + (j + 1) by omega]; exact hm) (by rw [show k + 1 + j = k + (j + 1) by omega]; exact hl)

theorem agree_havoc {mods live : List Nat} {vs : List Value} {dead : Nat → Value} {fr : Fr} (hs : subL live mods = true) : Agree mods fr (havoc fr mods live vs dead) :=
  ⟨havoc_length, fun i hi => havocGo_get fr 0 i (by rw [Nat.zero_add]; exact hi) (by rw [Nat.zero_add]; exact fun hl => hi (subL_mem hs hl))⟩

/-- THE FORMULA OF A PIECE OF CODE -/
def wpx (P : Program) (ω : Amb) (X : List PanicEntry → Hp → Prop) : Ann → Code → (Exit → Fr → Hp → Prop) → Fr → Hp → Prop
  | .leaf, .skip, K, fr, h => K .normal fr h
  | .leaf, .label _, K, fr, h => K .normal fr h
  | .leaf, .exit id, K, fr, h => K (.exit id) fr h
  | .leaf, .ret, K, fr, h => K .ret fr h
  | .leaf, .region _ ops false, K, fr, h => sx P ω ops (fun fr' h' => K .normal fr' h') X (List.range ops.size) [] fr h
  | .plan l, .region _ ops true, K, fr, h => rxAll P ω ops (fun fr' h' => K .normal fr' h') X l fr h
  | .two a b, .seq x y, K, fr, h => wpx P ω X a x (fun e fr' h' => match e with | .normal => wpx P ω X b y K fr' h' | e => K e fr' h') fr h
  | .two a b, .cond c x y, K, fr, h => brV (ev fr c) fun t => cond t (wpx P ω X a x K fr h) (wpx P ω X b y K fr h)
  | .one a, .block id x, K, fr, h => wpx P ω X a x (fun e fr' h' => match e with | .exit id' => cond (Nat.beq id' id) (K .normal fr' h') (K (.exit id') fr' h') | e => K e fr' h') fr h
  | .loop mods live a, .loop x, K, fr, h => cond (subL (writes x) mods && subL live mods)
      (∃ (I : Fn live.length (Hp → Prop)) (μ : Fn live.length (Hp → Nat)), ap live.length I (look fr live) h ∧ allN live.length fun vs => ∀ (dead : Nat → Value) (h' : Hp), ap live.length I vs h' →
        wpx P ω X a x (fun e fr' h'' => match e with
          | .normal => ap live.length I (look fr' live) h'' ∧ ap live.length μ (look fr' live) h'' < ap live.length μ (look (havoc fr mods live vs dead) live) h'
          | e => K e fr' h'') (havoc fr mods live vs dead) h') False
  | .join mods live a, c, K, fr, h => cond (subL (writes c) mods && subL live mods)
      (∃ J : Fn live.length (Hp → Prop), wpx P ω X a c (fun e fr' h' => match e with | .normal => ap live.length J (look fr' live) h' | e => K e fr' h') fr h ∧
        allN live.length fun vs => ∀ (dead : Nat → Value) (h' : Hp), ap live.length J vs h' → K .normal (havoc fr mods live vs dead) h') False
  | .jb mods s a, c, K, fr, h => cond (subL (writes c) mods && mods.elem s)
      (∃ β : Bool, wpx P ω X a c (fun e fr' h' => match e with | .normal => fr'.getD s undef = .bool β ∧ h' = h | e => K e fr' h') fr h ∧
        ∀ dead : Nat → Value, K .normal (havoc fr mods [s] [.bool β] dead) h) False
  | _, _, _, _, _ => False

/-- what holds where a piece of code ends -/
def Qx (ω : Amb) (ds : List Deferred) (ws : List Nat) (fr0 : Fr) (K : Exit → Fr → Hp → Prop) (X : List PanicEntry → Hp → Prop) : Exit → Act → World → Prop := fun e a w =>
  (∃ d, w = W ω w.heap d) ∧ match e with
  | .panic c => Kpt ds ws fr0 a ∧ X c w.heap
  | .outgrown => False
  | e => ∃ fr, a = actD ds fr ∧ Agree ws fr0 fr ∧ K e fr w.heap

theorem eval_cond {fr : Fr} {c : Operand} {G : Bool → Prop} (h : brV (ev fr c) G) : ∃ t, (actD ds fr).eval c = .bool t ∧ G t := by
  rw [eval_act]
  obtain ⟨t, ht, h⟩ := asB_inv h
  cases t
  · exact ⟨false, ht, h⟩
  · exact ⟨true, ht, h⟩

theorem Qx.cases {ws : List Nat} {fr0 : Fr} {K : Exit → Fr → Hp → Prop} {X : List PanicEntry → Hp → Prop} {Q : Exit → Act → World → Prop}
    (h1 : ∀ e fr h d, Agree ws fr0 fr → K e fr h → (∀ c, e ≠ .panic c) → e ≠ .outgrown → Q e (actD ds fr) (W ω h d)) (h2 : ∀ (c : List PanicEntry) (a : Act) (h : Hp) (d : Nat), Kpt ds ws fr0 a → X c h → Q (.panic c) a (W ω h d)) :
    ∀ e a w, Qx ω ds ws fr0 K X e a w → Q e a w := by
  intro e a w hq
  obtain ⟨⟨d, hd⟩, hq⟩ := hq
  rw [hd]
  cases e <;> first
    | exact h2 _ _ _ _ hq.1 hq.2
    | exact hq.elim
    | (obtain ⟨fr, rfl, ha, hk⟩ := hq; exact h1 _ _ _ _ ha hk (by simp) (by simp))

theorem Qx.mk {ws : List Nat} {fr0 fr : Fr} {K : Exit → Fr → Hp → Prop} {X : List PanicEntry → Hp → Prop} {e : Exit} {h : Hp} (d : Nat) (he : ∀ c, e ≠ .panic c) (ho : e ≠ .outgrown) (ha : Agree ws fr0 fr) (hk : K e fr h) :
    Qx ω ds ws fr0 K X e (actD ds fr) (W ω h d) := by
  refine ⟨⟨d, rfl⟩, ?_⟩
  cases e <;> first
    | exact absurd rfl (he _)
    | exact absurd rfl ho
    | exact ⟨fr, rfl, ha, hk⟩

theorem look_length {fr : Fr} {live : List Nat} : (look fr live).length = live.length := by simp [look]

theorem wpx_sound {X : List PanicEntry → Hp → Prop} : ∀ (an : Ann) (c : Code) (K : Exit → Fr → Hp → Prop) (fr : Fr) (h : Hp), wpx P ω X an c K fr h → ∀ d, c.wp P (Qx ω ds (writes c) fr K X) (actD ds fr) (W ω h d)
  | .leaf, c, K, fr, h, hk, d => by
    cases c <;> try exact hk.elim
    · exact wp_skip (Qx.mk d (by simp) (by simp) (Agree.refl _ _) hk)
    · rename_i id ops draw
      cases draw <;> try exact hk.elim
      refine wp_mono (wp_region (sx_sound _ _ fr h hk (by intro s hs; cases hs) (Agree.refl _ fr) d)) ?_
      rintro e a w ⟨⟨d', hd⟩, hq⟩
      cases e <;> first
        | exact ⟨⟨d', hd⟩, hq⟩
        | exact hq.elim
        | (obtain ⟨fr', rfl, hk, ha⟩ := hq; exact ⟨⟨d', hd⟩, fr', rfl, ha, hk⟩)
    · exact wp_exit (Qx.mk d (by simp) (by simp) (Agree.refl _ _) hk)
    · exact wp_label (Qx.mk d (by simp) (by simp) (Agree.refl _ _) hk)
    · exact wp_ret (Qx.mk d (by simp) (by simp) (Agree.refl _ _) hk)
  | .plan l, c, K, fr, h, hk, d => by
    cases c <;> try exact hk.elim
    rename_i id ops draw
    cases draw <;> try exact hk.elim
    refine wp_mono (rxAll_sound hk id d) ?_
    rintro e a w ⟨⟨d', hd⟩, hq⟩
    cases e <;> first
      | exact ⟨⟨d', hd⟩, hq⟩
      | exact hq.elim
      | (obtain ⟨fr', rfl, hk, ha⟩ := hq; exact ⟨⟨d', hd⟩, fr', rfl, ha, hk⟩)
  | .two an bn, c, K, fr, h, hk, d => by
    cases c <;> try exact hk.elim
    · rename_i x y
      refine wp_seq (wp_mono (wpx_sound an x _ fr h hk d) (Qx.cases (fun e fr1 h1 d1 ha hk1 he ho => ?_) (fun c a h d ha hx => ⟨⟨d, rfl⟩, ha.mono fun i hi => List.mem_append_left _ hi, hx⟩)))
      have ham : Agree (writes (Code.seq x y)) fr fr1 := ha.mono fun i hi => List.mem_append_left _ hi
      cases e with
      | panic c => exact absurd rfl (he c)
      | outgrown => exact absurd rfl ho
      | normal => exact wp_mono (wpx_sound bn y K fr1 h1 hk1 d1) (Qx.cases (fun e fr2 h2 d2 ha2 hk2 he2 ho2 => Qx.mk d2 he2 ho2 (ha.trans ha2) hk2) (fun c a h d ha3 hx => ⟨⟨d, rfl⟩, Kpt.trans ha ha3, hx⟩))
      | exit id => exact Qx.mk (K := K) (X := X) d1 (by simp) (by simp) ham hk1
      | goto l => exact Qx.mk (K := K) (X := X) d1 (by simp) (by simp) ham hk1
      | ret => exact Qx.mk (K := K) (X := X) d1 (by simp) (by simp) ham hk1
    · rename_i c x y
      obtain ⟨t, ht, hk⟩ := eval_cond hk
      refine wp_cond ht ?_
      cases t
      · exact wp_mono (wpx_sound bn y K fr h hk d) (Qx.cases (fun e fr2 h2 d2 ha2 hk2 he2 ho2 => Qx.mk d2 he2 ho2 (ha2.mono fun i hi => List.mem_append_right _ hi) hk2) (fun c a h d ha hx => ⟨⟨d, rfl⟩, ha.mono fun i hi => List.mem_append_right _ hi, hx⟩))
      · exact wp_mono (wpx_sound an x K fr h hk d) (Qx.cases (fun e fr2 h2 d2 ha2 hk2 he2 ho2 => Qx.mk d2 he2 ho2 (ha2.mono fun i hi => List.mem_append_left _ hi) hk2) (fun c a h d ha hx => ⟨⟨d, rfl⟩, ha.mono fun i hi => List.mem_append_left _ hi, hx⟩))
  | .one an, c, K, fr, h, hk, d => by
    cases c <;> try exact hk.elim
    rename_i id x
    refine wp_block (wp_mono (wpx_sound an x _ fr h hk d) (Qx.cases (fun e fr1 h1 d1 ha hk1 he ho => ?_) (fun c a h d ha hx => ⟨⟨d, rfl⟩, ha, hx⟩)))
    cases e with
    | panic c => exact absurd rfl (he c)
    | outgrown => exact absurd rfl ho
    | normal => exact Qx.mk (K := K) (X := X) d1 (by simp) (by simp) ha hk1
    | goto l => exact Qx.mk (K := K) (X := X) d1 (by simp) (by simp) ha hk1
    | ret => exact Qx.mk (K := K) (X := X) d1 (by simp) (by simp) ha hk1
    | exit id' =>
      simp only [Exit.inBlock]
      simp only at hk1
      cases hb : Nat.beq id' id with
      | true =>
        rw [hb, cond_true] at hk1
        rw [if_pos (Nat.eq_of_beq_eq_true hb)]
        exact Qx.mk (K := K) (X := X) d1 (by simp) (by simp) ha hk1
      | false =>
        rw [hb, cond_false] at hk1
        rw [if_neg (fun e => by subst e; simp at hb)]
        exact Qx.mk (K := K) (X := X) d1 (by simp) (by simp) ha hk1
  | .loop mods live an, c, K, fr, h, hk, d => by
    cases c <;> try exact hk.elim
    rename_i x
    simp only [wpx] at hk
    cases hs : (subL (writes x) mods && subL live mods) with
    | false => rw [hs] at hk; exact hk.elim
    | true =>
      rw [hs, cond_true] at hk
      simp only [Bool.and_eq_true] at hs
      obtain ⟨I, μ, h0, hr⟩ := hk
      -- the frame at a round's head
      refine wp_loop (fun a w => (∃ d, w = W ω w.heap d) ∧ ∃ vs dead, vs.length = live.length ∧ a = actD ds (havoc fr mods live vs dead) ∧ Agree (writes x) fr (havoc fr mods live vs dead) ∧ ap live.length I vs w.heap)
        (fun a w => ap live.length μ (look a.tmps.toList live) w.heap) ⟨⟨d, rfl⟩, look fr live, _, look_length, by rw [havoc_agree (Agree.refl _ _)], by rw [havoc_agree (Agree.refl _ _)]; exact Agree.refl _ _, h0⟩ ?_
      rintro a w ⟨⟨d1, hd1⟩, vs, dead, hvl, rfl, hag, hI⟩
      have := wpx_sound an x _ _ _ (allN_inv hr vs hvl dead w.heap hI) d1
      rw [← hd1] at this
      have hkk : ∀ {a : Act}, Kpt ds (writes x) (havoc fr mods live vs dead) a → Kpt ds (writes (Code.loop x)) fr a := fun ha => (Kpt.trans hag ha).mono fun i hi => (List.mem_append.1 hi).elim id id
      refine wp_mono this (Qx.cases (fun e fr1 h1 d1 ha hk1 he ho => ?_) (fun c a h d ha hx => ⟨⟨d, rfl⟩, hkk ha, hx⟩))
      have hfull : Agree (writes x) fr fr1 := (hag.trans ha).mono fun i hi => by simpa using hi
      cases e with
      | panic c => exact absurd rfl (he c)
      | outgrown => exact absurd rfl ho
      | exit id => exact Qx.mk (K := K) (X := X) d1 (by simp) (by simp) hfull hk1
      | goto l => exact Qx.mk (K := K) (X := X) d1 (by simp) (by simp) hfull hk1
      | ret => exact Qx.mk (K := K) (X := X) d1 (by simp) (by simp) hfull hk1
      | normal =>
        refine ⟨⟨⟨d1, rfl⟩, look fr1 live, fun i => fr1.getD i undef, look_length, ?_, ?_, hk1.1⟩, ?_⟩
        · rw [havoc_agree (hfull.mono fun i hi => subL_mem hs.1 hi)]
        · rw [havoc_agree (hfull.mono fun i hi => subL_mem hs.1 hi)]; exact hfull
        · simpa [actD, W] using hk1.2
  | .join mods live an, c, K, fr, h, hk, d => by
    simp only [wpx] at hk
    cases hs : (subL (writes c) mods && subL live mods) with
    | false => rw [hs] at hk; exact hk.elim
    | true =>
      rw [hs, cond_true] at hk
      simp only [Bool.and_eq_true] at hs
      obtain ⟨J, h0, hr⟩ := hk
      refine wp_mono (wpx_sound an c _ fr h h0 d) (Qx.cases (fun e fr1 h1 d1 ha hk1 he ho => ?_) (fun c a h d ha hx => ⟨⟨d, rfl⟩, ha, hx⟩))
      cases e with
      | panic c => exact absurd rfl (he c)
      | outgrown => exact absurd rfl ho
      | exit id => exact Qx.mk (K := K) (X := X) d1 (by simp) (by simp) ha hk1
      | goto l => exact Qx.mk (K := K) (X := X) d1 (by simp) (by simp) ha hk1
      | ret => exact Qx.mk (K := K) (X := X) d1 (by simp) (by simp) ha hk1
      | normal =>
        have := allN_inv hr (look fr1 live) look_length (fun i => fr1.getD i undef) h1 hk1
        rw [havoc_agree (ha.mono fun i hi => subL_mem hs.1 hi)] at this
        exact Qx.mk d1 he ho ha this
  | .jb mods s an, c, K, fr, h, hk, d => by
    simp only [wpx] at hk
    cases hs : (subL (writes c) mods && mods.elem s) with
    | false => rw [hs] at hk; exact hk.elim
    | true =>
      rw [hs, cond_true] at hk
      simp only [Bool.and_eq_true] at hs
      obtain ⟨β, h0, hr⟩ := hk
      refine wp_mono (wpx_sound an c _ fr h h0 d) (Qx.cases (fun e fr1 h1 d1 ha hk1 he ho => ?_) (fun c a h d ha hx => ⟨⟨d, rfl⟩, ha, hx⟩))
      cases e with
      | panic c => exact absurd rfl (he c)
      | outgrown => exact absurd rfl ho
      | exit id => exact Qx.mk (K := K) (X := X) d1 (by simp) (by simp) ha hk1
      | goto l => exact Qx.mk (K := K) (X := X) d1 (by simp) (by simp) ha hk1
      | ret => exact Qx.mk (K := K) (X := X) d1 (by simp) (by simp) ha hk1
      | normal =>
        obtain ⟨hb, rfl⟩ := hk1
        have := hr (fun i => fr1.getD i undef)
        rw [show [Value.bool β] = look fr1 [s] by simp only [look, List.map_cons, List.map_nil, hb], havoc_agree (ha.mono fun i hi => subL_mem hs.1 hi)] at this
        exact Qx.mk d1 he ho ha this

/-- a function's results -/
def resK (P : Program) : List ResultVar → Fr → Hp → List Value → (Value → Prop) → Prop
  | [], _, _, acc, R => R (match acc with | [v] => v | vs => .tuple vs.toArray)
  | .tmp t :: rs, fr, h, acc, R => resK P rs fr h (acc ++ [fr.getD t undef]) R
  | .cell a t :: rs, fr, h, acc, R => match aggOf P t with
    | some none => asP (fr.getD a undef) fun ad => ∃ v, cellH h ad = some v ∧ resK P rs fr h (acc ++ [v]) R
    | some (some n) => asP (fr.getD a undef) fun ad => ∃ cs, cellsH h ad n cs ∧ resK P rs fr h (acc ++ [.agg cs.toArray]) R
    | none => False

def resM (fr : Fr) (r : ResultVar) : Sem Value :=
  match r with
  | .tmp t => pure (fr.getD t undef)
  | .cell a t => do loadVar t (← asAddr (fr.getD a undef))

theorem resK_sound {R : Value → Prop} {fr : Fr} {h : Hp} : ∀ (rs : List ResultVar) (acc : List Value), resK P rs fr h acc R →
    ∃ vs, (∀ d, (rs.mapM (resM fr)).run P (W ω h d) = .ok vs (W ω h d)) ∧ R (match acc ++ vs with | [v] => v | vs => .tuple vs.toArray)
  | [], acc, hk => ⟨[], fun d => by simp, by simpa [resK] using hk⟩
  | .tmp t :: rs, acc, hk => by
    obtain ⟨vs, h1, h2⟩ := resK_sound rs _ hk
    exact ⟨fr.getD t undef :: vs, fun d => by simp [List.mapM_cons, resM, h1], by simpa using h2⟩
  | .cell a t :: rs, acc, hk => by
    simp only [resK] at hk
    split at hk
    · rename_i hag
      obtain ⟨ad, ha, v, hv, hk⟩ := asP_inv hk
      obtain ⟨vs, h1, h2⟩ := resK_sound rs _ hk
      refine ⟨v :: vs, fun d => ?_, by simpa using h2⟩
      obtain ⟨g1, _⟩ := aggOf_isAgg hag (W ω h d)
      have : (resM fr (.cell a t)).run P (W ω h d) = .ok v (W ω h d) := by
        simp only [resM, ha, asAddr, Sem.run_bind, Sem.run_pure, Result.andThen_ok, loadVar, g1]
        simp [cell?_W, hv]
      simp [List.mapM_cons, this, h1]
    · rename_i n hag
      obtain ⟨ad, ha, cs, hv, hk⟩ := asP_inv hk
      obtain ⟨vs, h1, h2⟩ := resK_sound rs _ hk
      refine ⟨.agg cs.toArray :: vs, fun d => ?_, by simpa using h2⟩
      obtain ⟨g1, g2⟩ := aggOf_isAgg hag (W ω h d)
      have hl := run_loadCells_list (P := P) (w := W ω h d) ad cs (fun j v hj => hv.2 j v hj)
      rw [hv.1] at hl
      have : (resM fr (.cell a t)).run P (W ω h d) = .ok (.agg cs.toArray) (W ω h d) := by
        simp only [resM, ha, asAddr, Sem.run_bind, Sem.run_pure, Result.andThen_ok, loadVar, g1]
        simp [g2 n rfl, hl]
      simp [List.mapM_cons, this, h1]
    · exact hk.elim

/-- A FUNCTION's FORMULA -/
def fnX (P : Program) (ω : Amb) (an : Ann) (fn : Func) (args : List Value) (h : Hp) (R : Value → Hp → Prop) (X : List PanicEntry → Hp → Prop) : Prop :=
  match fn.body with
  | none => False
  | some c => wpx P ω X an c (fun e fr h' => match e with
      | .normal | .ret => resK P fn.results.toList fr h' [] fun v => R v h'
      | _ => False) (args ++ List.replicate (fn.ntmps - args.length) undef) h

/-- the results are read -/
theorem res_run {fn : Func} {fr1 : Fr} {h1 : Hp} {R : Value → Prop} (hr : resK P fn.results.toList fr1 h1 [] R) (d1 : Nat) : ∃ v, (results fn fr1.toArray).run P (W ω h1 d1) = .ok v (W ω h1 d1) ∧ R v := by
  obtain ⟨vs, g1, g2⟩ := resK_sound (ω := ω) _ _ hr
  refine ⟨_, ?_, g2⟩
  have hm : ∀ F : ResultVar → Sem Value, (∀ r, F r = resM fr1 r) → (fn.results.mapM F).run P (W ω h1 d1) = .ok vs.toArray (W ω h1 d1) := by
    intro F hF
    rw [show F = resM fr1 from funext hF, Array.mapM_eq_mapM_toList]
    simp [g1 d1]
  simp only [results, Sem.run_bind]
  rw [hm _ (fun r => by cases r <;> simp [resM])]
  simp only [Result.andThen_ok, Sem.run_pure, List.nil_append]
  congr 1
  match vs with
  | [] => rfl
  | [v] => rfl
  | v :: u :: r => simp
theorem act_new {args : List Value} {n : Nat} : ({ tmps := args.toArray ++ Array.replicate (n - args.toArray.size) undef, defers := [] } : Act) = actD [] (args ++ List.replicate (n - args.length) undef) := by
  simp [actD, ← List.toArray_replicate]
theorem callX_of {f : FuncId} {fn : Func} {an : Ann} {args : List Value} {h : Hp} {R : Value → Hp → Prop} {X : List PanicEntry → Hp → Prop} (hf : P.funcs[f]? = some fn)
    (hk : fnX P ω an fn args h R X) : CallX P ω f args h R X := by
  intro d
  unfold fnX at hk
  split at hk
  · exact hk.elim
  · rename_i c hc
    refine calls_of_wp hf hc ?_
    rw [act_new]
    refine wp_mono (wpx_sound an c _ _ h hk d) (Qx.cases (fun e fr1 h1 d1 _ hk1 he ho => ?_) (fun c a h d ha hx => ⟨ha.1, ⟨d, rfl⟩, hx⟩))
    have fin : resK P fn.results.toList fr1 h1 [] (fun v => R v h1) → (actD [] fr1).defers = [] ∧ ∃ v, (results fn (actD [] fr1).tmps).run P (W ω h1 d1) = .ok v (W ω h1 d1) ∧ ((∃ d', W ω h1 d1 = W ω h1 d') ∧ R v h1) := by
      intro hr
      obtain ⟨v, g1, g2⟩ := res_run (ω := ω) hr d1
      exact ⟨rfl, v, g1, ⟨d1, rfl⟩, g2⟩
    cases e <;> first
      | exact absurd rfl (he _)
      | exact absurd rfl ho
      | exact fin hk1
      | exact hk1.elim

end Go.Sx
