/- Regions: in the order of the text, and regions that draw their order. -/
import Derived.Test.YtkeeboomikkojaaGreatDoorSxEffS
import Derived.OrdersHeld
namespace Go.Sx
variable {P : Program} {ω : Amb} {ds : List Deferred}

abbrev Fr := List Value
def ev (fr : Fr) : Operand → Value
  | .tmp t => fr.getD t undef
  | .const v => v
  | .global g => .pointer (some ⟨g, 0, none⟩)
  | .func f => .func (.func f) #[] #[]
def put (fr : Fr) (d : Option Tmp) (v : Value) : Fr := match d with | some d => fr.set d v | none => fr
def actD (ds : List Deferred) (fr : Fr) : Act := { tmps := fr.toArray, defers := ds }

theorem eval_act (fr : Fr) : (actD ds fr).eval = ev fr := by
  funext x
  cases x <;> simp [Act.eval, actD, ev]
theorem put_act (fr : Fr) (d : Option Tmp) (v : Value) : (actD ds fr).put d v = actD ds (put fr d v) := by
  cases d <;> simp [Act.put, actD, put]

/-- a bool in a slot: both ways, each with the slot known -/
def brV (v : Value) (G : Bool → Prop) : Prop := asB v fun t => cond t (G true) (G false)

def dstOf (ops : Array Oper) (j : Nat) : Option Tmp := match ops[j]? with | some o => o.dst | none => none

/-- an operation's guard; 'sk': the slots of operations that were passed over -/
def guardK (ops : Array Oper) (sk : List Nat) (o : Oper) (fr : Fr) (F G : Fr → Prop) : Prop :=
  match o.guard with
  | none => F fr
  | some (j, want) => match dstOf ops j with
    | some s => cond (sk.elem s) (G fr) <| brV (fr.getD s undef) fun b => cond (b == want) (F (fr.set s (.bool b))) (G (fr.set s (.bool b)))
    | none => False

theorem set_same {fr : Fr} {s : Nat} {b : Bool} (h : fr.getD s undef = .bool b) : fr.set s (.bool b) = fr := by
  have hlt : s < fr.length := by
    rcases Nat.lt_or_ge s fr.length with h' | h'
    · exact h'
    · rw [List.getD_eq_getElem?_getD, List.getElem?_eq_none h'] at h
      cases h
  rw [List.getD_eq_getElem?_getD, List.getElem?_eq_getElem hlt, Option.getD_some] at h
  rw [← h]
  exact List.set_getElem_self hlt

/-- what was passed over holds nothing -/
def Skd (sk : List Nat) (fr : Fr) : Prop := ∀ s ∈ sk, fr.getD s undef = undef
def skDel (sk : List Nat) (d : Option Tmp) : List Nat := match d with | some d => sk.filter fun x => !Nat.beq x d | none => sk
def skAdd (sk : List Nat) (d : Option Tmp) : List Nat := match d with | some d => d :: sk | none => sk
theorem Skd.put {sk : List Nat} {fr : Fr} (h : Skd sk fr) (d : Option Tmp) (v : Value) : Skd (skDel sk d) (Sx.put fr d v) := by
  cases d with
  | none => exact h
  | some d =>
    intro s hs
    simp only [skDel, List.mem_filter] at hs
    have hne : d ≠ s := by rintro rfl; simp at hs
    have := h s hs.1
    simpa [Sx.put, List.getD_eq_getElem?_getD, List.getElem?_set_ne hne] using this
theorem Skd.skip {sk : List Nat} {fr : Fr} (h : Skd sk fr) (d : Option Tmp) : Skd (skAdd sk d) (Sx.put fr d undef) := by
  cases d with
  | none => exact h
  | some d =>
    intro s hs
    by_cases hds : d = s
    · subst hds
      simp only [Sx.put, List.getD_eq_getElem?_getD]
      rcases Nat.lt_or_ge d fr.length with hlt | hge
      · rw [List.getElem?_set_self hlt]; rfl
      · rw [List.getElem?_eq_none (by simpa using hge)]; rfl
    · have hs' : s ∈ sk := by
        rcases List.mem_cons.1 hs with e | hs
        · exact absurd e.symm hds
        · exact hs
      have := h s hs'
      simpa [Sx.put, List.getD_eq_getElem?_getD, List.getElem?_set_ne hds] using this

theorem guardK_inv {ops : Array Oper} {sk : List Nat} {o : Oper} {fr : Fr} {F G : Fr → Prop} (hsk : Skd sk fr) (h : guardK ops sk o fr F G) :
    (Region.wanted o (yielded ops (actD ds fr).tmps) = true ∧ F fr) ∨ (Region.wanted o (yielded ops (actD ds fr).tmps) = false ∧ G fr) := by
  unfold guardK at h
  split at h
  · rename_i hg
    exact .inl ⟨by simp [Region.wanted, hg], h⟩
  · rename_i j want hg
    split at h <;> try cases h
    rename_i s hs
    have hd : ((ops[j]?).bind (·.dst)) = some s := by
      unfold dstOf at hs
      split at hs
      · rename_i o' ho'; simp [ho', hs]
      · cases hs
    cases hm : sk.elem s with
    | true =>
      rw [hm] at h
      have hu := hsk s (by simpa using hm)
      have hy : yielded ops (actD ds fr).tmps j = none := by
        simp only [yielded, hd, actD, Option.bind_some]
        rw [List.getElem?_toArray]
        cases hx : fr[s]? with
        | none => rfl
        | some x =>
          rw [List.getD_eq_getElem?_getD, hx] at hu
          simp only [Option.getD_some] at hu
          rw [hu]; rfl
      exact .inr ⟨by cases want <;> simp [Region.wanted, hg, hy], h⟩
    | false =>
    rw [hm, cond_false] at h
    obtain ⟨t, hv, h⟩ := asB_inv h
    have hy : yielded ops (actD ds fr).tmps j = some t := by
      have hlt : s < fr.length := by
        rcases Nat.lt_or_ge s fr.length with h' | h'
        · exact h'
        · rw [List.getD_eq_getElem?_getD, List.getElem?_eq_none h'] at hv
          cases hv
      have hx : fr[s]? = some (.bool t) := by
        rw [List.getD_eq_getElem?_getD, List.getElem?_eq_getElem hlt, Option.getD_some] at hv
        rw [List.getElem?_eq_getElem hlt, hv]
      simp [yielded, hd, actD, hx]
    have hsame := set_same hv
    cases t <;> simp only [cond_true, cond_false, hsame] at h
    · cases want
      · exact .inl ⟨by simp [Region.wanted, hg, hy], by simpa using h⟩
      · exact .inr ⟨by simp [Region.wanted, hg, hy], by simpa using h⟩
    · cases want
      · exact .inr ⟨by simp [Region.wanted, hg, hy], by simpa using h⟩
      · exact .inl ⟨by simp [Region.wanted, hg, hy], by simpa using h⟩

/-- two frames alike but for the slots ws -/
def Agree (ws : List Nat) (fr fr' : Fr) : Prop := fr'.length = fr.length ∧ ∀ i, i ∉ ws → fr'.getD i undef = fr.getD i undef
theorem Agree.refl (ws : List Nat) (fr : Fr) : Agree ws fr fr := ⟨rfl, fun _ _ => rfl⟩
theorem Agree.trans {ws ws' : List Nat} {a b c : Fr} (h : Agree ws a b) (h' : Agree ws' b c) : Agree (ws ++ ws') a c :=
  ⟨h'.1.trans h.1, fun i hi => by rw [List.mem_append, not_or] at hi; exact (h'.2 i hi.2).trans (h.2 i hi.1)⟩
theorem Agree.mono {ws ws' : List Nat} {a b : Fr} (h : Agree ws a b) (hs : ∀ i, i ∈ ws → i ∈ ws') : Agree ws' a b := ⟨h.1, fun i hi => h.2 i fun hh => hi (hs i hh)⟩
theorem Agree.put {ws : List Nat} {a b : Fr} (h : Agree ws a b) {d : Option Tmp} (hd : ∀ y, d = some y → y ∈ ws) (v : Value) : Agree ws a (put b d v) := by
  cases d with
  | none => exact h
  | some x =>
    refine ⟨by simp [Sx.put, h.1], fun i hi => ?_⟩
    have hx : x ≠ i := fun e => hi (e ▸ hd x rfl)
    rw [← h.2 i hi]
    simp [Sx.put, List.getD_eq_getElem?_getD, List.getElem?_set_ne hx]

def dsts (ops : Array Oper) : List Nat := ops.toList.filterMap (·.dst)
theorem mem_dsts {ops : Array Oper} {i : Nat} {o : Oper} (hi : ops[i]? = some o) : ∀ y, o.dst = some y → y ∈ dsts ops := fun _ hx =>
  List.mem_filterMap.2 ⟨o, Array.mem_toList_iff.2 (Array.mem_of_getElem? hi), hx⟩

/-- what a panic leaves of a frame -/
def Kpt (ds : List Deferred) (ws : List Nat) (fr0 : Fr) (a : Act) : Prop := a.defers = ds ∧ a.tmps.size = fr0.length ∧ ∀ i, i ∉ ws → a.tmps.getD i undef = fr0.getD i undef
theorem Kpt.of {ws : List Nat} {fr0 fr : Fr} (h : Agree ws fr0 fr) : Kpt ds ws fr0 (actD ds fr) :=
  ⟨rfl, by simpa [actD] using h.1, fun i hi => by simpa [actD] using h.2 i hi⟩
theorem Kpt.mono {ws ws' : List Nat} {fr0 : Fr} {a : Act} (h : Kpt ds ws fr0 a) (hs : ∀ i, i ∈ ws → i ∈ ws') : Kpt ds ws' fr0 a := ⟨h.1, h.2.1, fun i hi => h.2.2 i fun hh => hi (hs i hh)⟩
theorem Kpt.trans {ws ws' : List Nat} {fr0 fr : Fr} {a : Act} (h : Agree ws fr0 fr) (k : Kpt ds ws' fr a) : Kpt ds (ws ++ ws') fr0 a :=
  ⟨k.1, k.2.1.trans h.1, fun i hi => by rw [List.mem_append, not_or] at hi; exact (k.2.2 i hi.2).trans (h.2 i hi.1)⟩
theorem Kpt.unput {ws : List Nat} {fr0 : Fr} {a : Act} {d : Option Tmp} {v : Value} (hd : ∀ y, d = some y → y ∈ ws) (h : Kpt ds ws fr0 (a.put d v)) : Kpt ds ws fr0 a := by
  cases d with
  | none => exact h
  | some x =>
    obtain ⟨h1, h2, h3⟩ := h
    refine ⟨h1, by simpa [Act.put] using h2, fun i hi => ?_⟩
    have hx : x ≠ i := fun e => hi (e ▸ hd x rfl)
    have := h3 i hi
    rw [← this]
    simp [Act.put, Array.getD_eq_getD_getElem?, Array.getElem?_setIfInBounds_ne hx]

/-- what holds at a region's end, or at a panic -/
def Qr (ω : Amb) (ds : List Deferred) (Z : Act → Prop) (K : Fr → Hp → Prop) (X : List PanicEntry → Hp → Prop) : Exit → Act → World → Prop := fun e a w =>
  (∃ d, w = W ω w.heap d) ∧ match e with
  | .normal => ∃ fr, a = actD ds fr ∧ K fr w.heap
  | .panic c => Z a ∧ X c w.heap
  | _ => False

theorem wpOp_of_upon {Z : Act → Prop} {ops : Array Oper} {i : Nat} {o : Oper} (hi : ops[i]? = some o) {fr : Fr} (hz : Z (actD ds fr)) {w : World} {K : Fr → Hp → Prop} {X : List PanicEntry → Hp → Prop}
    {K' : Act → World → Prop} (hw : Region.wanted o (yielded ops (actD ds fr).tmps) = true)
    (h : UponK P ω (fun v h' => ∀ d, K' (actD ds (put fr o.dst v)) (W ω h' d)) X ((execOp (ev fr) o).run P w)) :
    wpOp P ops (Qr ω ds Z K X) i K' (actD ds fr) w := by
  unfold wpOp
  simp only [hi, hw, if_true]
  refine .inl ?_
  unfold Oper.wp
  rw [eval_act]
  generalize (execOp (ev fr) o).run P w = r at *
  unfold UponK at h
  split at h
  · obtain ⟨⟨d', hd⟩, h⟩ := h
    simp only [Oper.upon, put_act]
    rw [hd]; exact h d'
  · obtain ⟨⟨d', hd⟩, h⟩ := h
    simp only [Oper.upon, put_act]
    rw [hd]; exact h d'
  · obtain ⟨⟨d', hd⟩, h⟩ := h
    simp only [Oper.upon]
    rename_i f args w'
    have := h d'
    rw [← hd] at this
    refine this.mono fun e w'' ⟨⟨d2, hd2⟩, hR⟩ => ?_
    cases e with
    | returned v => simp only [put_act]; rw [hd2]; exact hR d2
    | panicked c => exact ⟨⟨d2, hd2⟩, hz, hR⟩
    | outgrown => exact hR.elim
  · obtain ⟨⟨d', hd⟩, h⟩ := h
    exact ⟨⟨d', hd⟩, hz, h⟩
  · exact h.elim

theorem wpOp_skip {ops : Array Oper} {i : Nat} {o : Oper} (hi : ops[i]? = some o) {fr : Fr} {w : World} {Q : Exit → Act → World → Prop}
    {K' : Act → World → Prop} (hw : Region.wanted o (yielded ops (actD ds fr).tmps) = false) (h : K' (actD ds (put fr o.dst undef)) w) :
    wpOp P ops Q i K' (actD ds fr) w := by
  unfold wpOp
  simp only [hi, hw, Bool.false_eq_true, if_false, put_act]
  exact h

/-- A REGION IN THE ORDER OF THE TEXT -/
def sx (P : Program) (ω : Amb) (ops : Array Oper) (K : Fr → Hp → Prop) (X : List PanicEntry → Hp → Prop) : List Nat → List Nat → Fr → Hp → Prop
  | [], _, fr, h => K fr h
  | i :: rest, sk, fr, h => match ops[i]? with
    | none => sx P ω ops K X rest sk fr h
    | some o => guardK ops sk o fr (fun fr' => opx P ω o.op (ev fr') h (fun v h' => sx P ω ops K X rest (skDel sk o.dst) (put fr' o.dst v) h') X) (fun fr' => sx P ω ops K X rest (skAdd sk o.dst) (put fr' o.dst undef) h)

theorem sx_sound {ops : Array Oper} {K : Fr → Hp → Prop} {X : List PanicEntry → Hp → Prop} {fr0 : Fr} : ∀ (l sk : List Nat) (fr : Fr) (h : Hp), sx P ω ops K X l sk fr h → Skd sk fr → Agree (dsts ops) fr0 fr →
    ∀ d, wpOps P ops (Qr ω ds (Kpt ds (dsts ops) fr0) (fun fr h => K fr h ∧ Agree (dsts ops) fr0 fr) X) l (actD ds fr) (W ω h d)
  | [], _, fr, h, hk, _, ha, d => ⟨⟨d, rfl⟩, fr, rfl, hk, ha⟩
  | i :: rest, sk, fr, h, hk, hsk, ha, d => by
    rw [wpOps_cons]
    simp only [sx] at hk
    split at hk
    · rename_i hi
      unfold wpOp
      simp only [hi]
      exact sx_sound rest sk fr h hk hsk ha d
    · rename_i o hi
      have hp := fun v => ha.put (mem_dsts hi) v
      rcases guardK_inv hsk hk with ⟨hw, hk⟩ | ⟨hw, hk⟩
      · refine wpOp_of_upon hi (Kpt.of ha) hw ?_
        have := opx_sound o (ev fr) h _ X hk d
        generalize (execOp (ev fr) o).run P (W ω h d) = r at *
        unfold UponK at *
        split at this
        · exact ⟨this.1, fun d => sx_sound rest _ _ _ this.2 (hsk.put _ _) (hp _) d⟩
        · exact ⟨this.1, fun d => sx_sound rest _ _ _ this.2 (hsk.put _ _) (hp _) d⟩
        · exact ⟨this.1, this.2.mono (fun v h' hh d => sx_sound rest _ _ _ hh (hsk.put _ _) (hp _) d) (fun _ _ hh => hh)⟩
        · exact this
        · exact this.elim
      · exact wpOp_skip hi hw (sx_sound rest _ _ _ hk (hsk.skip _) (hp _) d)

end Go.Sx
