/- Views of channels: the store's, and that they are the same. -/
import Derived.Test.YtipgilfbhceknaaSto7
namespace Go.Proofs.Ytipgilfbhceknaa
open Go Go.Sx Go.Proofs.Ytipgilfbhceknaa.Sx

structure CV where
  slots : Nat
  n : Nat
  gone : Bool
  sl : Value
def CV.f (x : CV) : List Value := [.int .i64 x.slots, .int .i64 x.n, .bool x.gone, x.sl]
theorem CV.len (x : CV) : x.f.length = 4 := rfl
theorem OwnH.isOne {h : Hp} {base n sz : Nat} {t : TypeId} {v : Value} {ys : List Value} (ho : OwnH h base t sz v n ys) : one v := by
  rcases ho.shape with ⟨rfl, _, _⟩ | ⟨_, _, _, rfl, _⟩ <;> rfl
structure CRel (h : Hp) (e : CV) (n : Nat) (y : C4) : Prop where
  slots : e.slots = y.slots
  n : e.n = n
  gone : e.gone = y.gone
  own : OwnH h 0 74 2 e.sl y.items.length (fi y.items)
theorem CRel.keep {h h' : Hp} {e : CV} {n : Nat} {y : C4} (hc : CRel h e n y) {S : Nat → Prop} (hk : Keep S h h') (hn : ∀ k, e.sl.ownBlock = some k → ¬ S k) : CRel h' e n y :=
  { hc with own := hc.own.keep fun k hk' hlt => hk.block k hlt (hn k hk') }
structure COut (h0 h : Hp) (xs : List E4) (ys : List C4) (out : Value) (es : List CV) : Prop where
  own : OwnH h h0.size 65 4 out es.length (es.flatMap CV.f)
  rel : ∀ (k : Nat) (e : CV) (y : C4), es[k]? = some e → ys[k]? = some y → CRel h e (sendN xs k) y
  le : es.length ≤ ys.length
theorem COut.more {h0 h h' : Hp} {xs : List E4} {ys : List C4} {out : Value} {es : List CV} (hc : COut h0 h xs ys out es) (hk : Keep (fun _ => False) h h') : COut h0 h' xs ys out es :=
  ⟨hc.own.keep fun k _ hlt => hk.block k hlt (by simp), fun k e y he hy => (hc.rel k e y he hy).keep hk (by simp), hc.le⟩
theorem COut.app {h0 h : Hp} {xs : List E4} {ys : List C4} {out : Value} {es : List CV} (hc : COut h0 h xs ys out es) (k0 : Keep (fun _ => False) h0 h) {y : C4} (hy : ys[es.length]? = some y) {e : CV}
    (he : CRel h e (sendN xs es.length) y) (hb : es.length ≤ 100000000) {K : Value → Hp → Prop} (hk : ∀ w h2, COut h0 h2 xs ys w (es ++ [e]) → Keep (fun _ => False) h0 h2 → K w h2) :
    appK Try.prog 57 (Array.push h (.cells (List.toArray e.f) 65 (0, 0))) out (.slice (some ⟨Array.size h, 0, none⟩) 1 1) K := by
  refine appK_one (bt := 48) (by kernel_rfl) hc.own (CV.len e) (fun u hu => ?_) (by omega) (by omega) k0.size fun w h2 ho hg _ _ => ?_
  · simp only [CV.f, List.mem_cons, List.not_mem_nil, or_false] at hu
    rcases hu with rfl | rfl | rfl | rfl
    · rfl
    · rfl
    · rfl
    · exact OwnH.isOne he.own
  · have kg := Keep.grown (S := fun k => out.ownBlock = some k) hg (fun k hk _ => hk)
    have hne : ∀ (e : CV) (n : Nat) (y : C4), CRel h e n y → ∀ k, e.sl.ownBlock = some k → ¬ out.ownBlock = some k := by
      intro e n y hr k h1 h2
      obtain ⟨c1, b1⟩ := hr.own.blk h1
      obtain ⟨c2, b2⟩ := hc.own.blk h2
      exact ty_ne b1 b2 (by decide) rfl
    have hyl := (List.getElem?_eq_some_iff.1 hy).1
    refine hk w h2 ⟨by simpa using ho, fun k e' y' he' hy' => ?_, by simp; omega⟩ (k0.newer (kg.mono fun k _ hk => .inr (hc.own.lt k hk).1))
    have hkl := (List.getElem?_eq_some_iff.1 he').1
    simp at hkl
    by_cases hk : k < es.length
    · rw [List.getElem?_append_left hk] at he'
      have := hc.rel k e' y' he' hy'
      exact this.keep kg (hne _ _ _ this)
    · have hke : k = es.length := by omega
      subst hke
      simp at he'
      subst he'
      rw [hy] at hy'
      cases hy'
      exact he.keep kg (hne _ _ _ he)

section
variable {ω : Amb} {h h' : Hp} {s p : Nat} {v lv : Value} {xs : List E4} {chs : List Ch} {ys : List C4}

theorem SChans_law (hS : Sto h s p v lv xs chs (sendN xs) ys) (hB : Bd xs ys) (X : List PanicEntry → Hp → Prop) :
    CallX Try.prog ω n_p_chans_Store_Chans [.pointer (some ⟨s, 0, none⟩)] h (fun r h' => (∃ es, COut h h' xs ys r es ∧ es.length = ys.length) ∧ Keep (fun _ => False) h h') X := by
  refine C_p_chans_Store_Chans ω _ h _ X ?_
  unfold W_p_chans_Store_Chans
  rw [asPo_ptr]
  refine cond_f rfl ?_
  rw [nnK_ptr]
  refine lx hS.blk rfl ?_
  refine hS.own.slAt.sl fun _ _ => ?_
  refine ⟨fun out t h' => ∃ es, t = .int .i64 es.length ∧ COut h h' xs ys out es ∧ Keep (fun _ => False) h h', fun _ t _ => match t with | .int _ j => chs.length - j.toNat | _ => 0,
    ⟨[], rfl, ⟨OwnH.nil, by simp, Nat.zero_le _⟩, Keep.refl _ _⟩, ?_⟩
  rintro out t _ h1 ⟨es, rfl, hc, k1⟩
  have hS1 := hS.more k1
  have hlen := hS.len
  have hyl := hB.yl
  rw [asK_int]
  refine cond_c (fun hlt => ?_) (fun hge => ?_)
  · have hlt : es.length < chs.length := by simpa using hlt
    have hx := List.getElem?_eq_getElem hlt
    have hy : ys[es.length]? = some (ys[es.length]'(by omega)) := List.getElem?_eq_getElem _
    generalize chs[es.length] = x at hx
    generalize ys[es.length]'(by omega) = y at hy
    have hcx := hS1.chan _ _ _ hx hy
    refine hS1.own.slAt.rd1 (pv_at hx) ?_
    rw [nnK_ptr]
    refine lx hcx.blk rfl ?_
    rw [nnK_ptr]
    refine lx hcx.blk rfl ?_
    rw [nnK_ptr]
    refine lx hcx.blk rfl ?_
    rw [nnK_ptr]
    refine lx hcx.blk rfl ?_
    refine CallX.use (rgSlots hcx.rg) ?_
    rintro _ _ ⟨rfl, rfl⟩
    refine ⟨lx' hcx.blk rfl, lx' hcx.blk rfl, lx' hcx.blk rfl, ?_⟩
    have hil := hB.il y (List.mem_iff_getElem?.2 ⟨_, hy⟩)
    refine CallX.use (rgAll hcx.rg (by omega)) fun r h2 ⟨ho, k2⟩ => ?_
    have hcb := k2.get hcx.blk (by simp)
    refine ⟨lx' hcb rfl, lx' hcb rfl, ?_⟩
    rw [oneK_int, oneK_int, oneK_bool, oneK_eq (OwnH.isOne ho)]
    refine ⟨rfl, ?_⟩
    refine (hc.more k2).app (k1.trans k2) hy (e := ⟨y.slots, sendN xs es.length, y.gone, r⟩) ⟨rfl, rfl, rfl, ho.base (Nat.zero_le _)⟩ (by omega) fun w h3 hc3 k3 => ?_
    rw [asK_int, i64_in (by omega) (by omega)]
    exact ⟨⟨_, by simp, hc3, k3⟩, by simp; omega⟩
  · have := hc.le
    have hge' : chs.length ≤ es.length := by simpa using hge
    exact ⟨⟨es, hc, by omega⟩, k1⟩

theorem SameItems_law {va vb : Value} {zs : List It} (ha : SlAt h 2 va zs.length (fi zs)) (hb : SlAt h 2 vb zs.length (fi zs)) (hn : zs.length ≤ 1000000000) (X : List PanicEntry → Hp → Prop) :
    CallX Try.prog ω n_pipewrightref_SameItems [va, vb] h (fun r h' => r = .bool true ∧ h' = h) X := by
  refine C_pipewrightref_SameItems ω _ _ h _ X ?_
  unfold W_pipewrightref_SameItems
  refine ha.sl fun _ _ => hb.sl fun _ _ => cond_f (by simp) ?_
  refine ⟨fun i h' => (∃ j : Nat, j ≤ zs.length ∧ i = .int .i64 j) ∧ h' = h, fun i _ => match i with | .int _ j => zs.length - j.toNat | _ => 0, ⟨⟨0, by omega, rfl⟩, rfl⟩, ?_⟩
  rintro i _ _ ⟨⟨j, hj, rfl⟩, rfl⟩
  refine ha.sl fun _ _ => ?_
  rw [asK_int]
  refine cond_c (fun hlt => ?_) (fun _ => ⟨rfl, rfl⟩)
  have hlt : j < zs.length := by simpa using hlt
  have hz := List.getElem?_eq_getElem hlt
  generalize zs[j] = z at hz
  refine ha.rdS It.len hz (hb.rdS It.len hz ?_)
  simp only [It.f, ld]
  refine cond_f (by simp) ?_
  rw [i64_in (by omega) (by omega)]
  exact ⟨⟨⟨j + 1, by omega, by simp⟩, trivial⟩, by simp; omega⟩

theorem SameChans_law {h1 h2 : Hp} {va vb : Value} {ea eb : List CV} (ha : COut h1 h xs ys va ea) (hb : COut h2 h xs ys vb eb) (hla : ea.length = ys.length) (hlb : eb.length = ys.length) (hB : Bd xs ys) (X : List PanicEntry → Hp → Prop) :
    CallX Try.prog ω n_pipewrightref_SameChans [va, vb] h (fun r h' => r = .bool true ∧ h' = h) X := by
  refine C_pipewrightref_SameChans ω _ _ h _ X ?_
  unfold W_pipewrightref_SameChans
  have sa := ha.own.slAt
  have sb := hb.own.slAt
  have hyl := hB.yl
  refine sa.sl fun _ _ => sb.sl fun _ _ => cond_f (by simp [hla, hlb]) ?_
  refine ⟨fun i h' => (∃ j : Nat, j ≤ ys.length ∧ i = .int .i64 j) ∧ h' = h, fun i _ => match i with | .int _ j => ys.length - j.toNat | _ => 0, ⟨⟨0, by omega, rfl⟩, rfl⟩, ?_⟩
  rintro i _ h9 ⟨⟨j, hj, rfl⟩, rfl⟩
  refine sa.sl fun _ _ => ?_
  rw [asK_int]
  refine cond_c (fun hlt => ?_) (fun _ => ⟨rfl, rfl⟩)
  have hlt : j < ys.length := by rw [← hla]; simpa using hlt
  have hy := List.getElem?_eq_getElem hlt
  have hea : ea[j]? = some (ea[j]'(by omega)) := List.getElem?_eq_getElem _
  have heb : eb[j]? = some (eb[j]'(by omega)) := List.getElem?_eq_getElem _
  generalize ys[j] = y at hy
  generalize ea[j]'(by omega) = a at hea
  generalize eb[j]'(by omega) = b at heb
  have ra := ha.rel j a y hea hy
  have rb := hb.rel j b y heb hy
  have hil := hB.il y (List.mem_iff_getElem?.2 ⟨_, hy⟩)
  refine ⟨fun v h' => v = .bool false ∧ h' = h9, ?_, ?_⟩
  · refine sa.rdT CV.len hea rfl (sb.rdT CV.len heb rfl ?_)
    rw [asK_int, asK_int]
    refine cond_f (by simp [ra.slots, rb.slots]) ?_
    refine sa.rdT CV.len hea rfl (sb.rdT CV.len heb rfl ?_)
    rw [asK_int, asK_int]
    refine cond_f (by simp [ra.n, rb.n]) ?_
    refine sa.rdT CV.len hea rfl (sb.rdT CV.len heb rfl ?_)
    rw [asB_bool, asB_bool]
    refine cond_f (by simp [ra.gone, rb.gone]) ?_
    refine sa.rdT CV.len hea rfl (sb.rdT CV.len heb rfl ?_)
    refine CallX.use (SameItems_law ra.own.slAt rb.own.slAt (by omega)) ?_
    rintro _ _ ⟨rfl, rfl⟩
    exact ⟨rfl, rfl⟩
  · rintro _ _ _ ⟨rfl, rfl⟩
    rw [asB_bool]
    refine cond_f rfl ?_
    rw [asK_int, i64_in (by omega) (by omega)]
    exact ⟨⟨⟨j + 1, by omega, by simp⟩, rfl⟩, by simp; omega⟩
end
end Go.Proofs.Ytipgilfbhceknaa
