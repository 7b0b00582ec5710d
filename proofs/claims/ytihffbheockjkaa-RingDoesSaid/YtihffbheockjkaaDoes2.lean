/- What holds between the steps of RingDoes. -/
import Derived.Test.YtihffbheockjkaaDoes1
namespace Go.Proofs.Ytihffbheockjkaa
open Go Go.Sx Go.Proofs.Ytihffbheockjkaa.Sx

def up {α : Type} (f : Bool → α) (j : Bool) (v : α) : Bool → α := fun i => bif i == j then v else f i
theorem up_same {α : Type} (f : Bool → α) (j : Bool) (v : α) : up f j v j = v := by simp [up]
theorem up_other {α : Type} (f : Bool → α) (j : Bool) (v : α) : up f j v (!j) = f (!j) := by cases j <;> rfl

theorem ty_ne {h : Hp} {a b : Nat} {c c' : Array Value} {t t' : TypeId} {f f' : Nat × Nat} (ha : h[a]? = some (.cells c t f)) (hb : h[b]? = some (.cells c' t' f')) (hne : t ≠ t') : a ≠ b := by
  rintro rfl
  rw [ha] at hb
  cases hb
  exact hne rfl

/-- two rings, what they should hold, and the blocks in which the law keeps all this -/
structure DInv (h1 h : Hp) (RB MB SB : Nat) (bs : Bool → Nat) (gs : Bool → Option Nat) (sl : Bool → Nat) (ms : Bool → Value) (rs xs : Bool → List Value) : Prop where
  rb : h[RB]? = some (.cells #[.pointer (some ⟨bs false, 0, none⟩), .pointer (some ⟨bs true, 0, none⟩)] 35 (0, 0))
  mb : h[MB]? = some (.cells #[ms false, ms true] 23 (0, 0))
  sb : h[SB]? = some (.cells #[.int .i64 (sl false), .int .i64 (sl true)] 3 (0, 0))
  ring : ∀ j, RingintR h (bs j) (gs j) (sl j) (rs j)
  own : ∀ j, OwnH h h1.size 3 1 (ms j) (xs j).length (xs j)
  ints : ∀ j u, u ∈ xs j → ∃ n, u = .int .i64 n
  keep : Keep (fun _ => False) h1 h
  bne : ∀ j, bs j ≠ bs (!j)
  gne : ∀ j G, gs j = some G → gs (!j) ≠ some G
  mne : ∀ j G, (ms j).ownBlock = some G → (ms (!j)).ownBlock ≠ some G
  mg : ∀ i j G, (ms i).ownBlock = some G → gs j ≠ some G
  mS : ∀ j, (ms j).ownBlock ≠ some SB
  gS : ∀ j, gs j ≠ some SB
  rge : h1.size ≤ RB
  mge : h1.size ≤ MB
  sge : h1.size ≤ SB
  bge : ∀ j, h1.size ≤ bs j
  gge : ∀ j G, gs j = some G → h1.size ≤ G

section
variable {h1 h h' h'' : Hp} {RB MB SB : Nat} {bs : Bool → Nat} {gs : Bool → Option Nat} {sl : Bool → Nat} {ms : Bool → Value} {rs xs : Bool → List Value}

/-- the ring's block -/
theorem ring_b {h : Hp} {b slots : Nat} {g : Option Nat} {ys : List Value} (hr : RingintR h b g slots ys) : ∃ c, h[b]? = some (.cells c 50 (0, 0)) := by
  obtain ⟨_, _, ⟨_, _, h2⟩ | ⟨G, m, f, cur, _, h2, _⟩⟩ := hr
  · exact ⟨_, h2⟩
  · exact ⟨_, h2⟩
theorem ring_g {h : Hp} {b G slots : Nat} {ys : List Value} (hr : RingintR h b (some G) slots ys) : ∃ c, h[G]? = some (.cells c 3 (0, 0)) := by
  obtain ⟨_, _, ⟨h2, _, _⟩ | ⟨G, m, f, cur, hG, _, h2, _⟩⟩ := hr
  · cases h2
  · cases hG; exact ⟨_, h2⟩
theorem own_b {h : Hp} {base n : Nat} {v : Value} {ys : List Value} (ho : OwnH h base 3 1 v n ys) {G : Nat} (hG : v.ownBlock = some G) : ∃ c, h[G]? = some (.cells c 3 (0, 0)) := by
  rcases ho.2 with ⟨rfl, _⟩ | ⟨g, o, cap, cur, rfl, _, hg, _⟩
  · cases hG
  · simp only [Value.ownBlock, Option.some.injEq] at hG
    subst hG
    exact ⟨_, hg⟩

/-- after something was done with ring j alone -/
theorem DInv.ring1 (hi : DInv h1 h RB MB SB bs gs sl ms rs xs) (j : Bool) {g' : Option Nat} {r' : List Value} (hr : RingintR h' (bs j) g' (sl j) r') (hk : Keep (fun k => k = bs j ∨ gs j = some k) h h')
    (hg : ∀ G, g' = some G → gs j = some G ∨ h.size ≤ G) : DInv h1 h' RB MB SB bs (up gs j g') sl ms (up rs j r') xs := by
  have tb := fun i => ring_b (hi.ring i)
  have nb : ∀ {k : Nat} {c : Array Value} {t : TypeId}, h[k]? = some (.cells c t (0, 0)) → t ≠ 50 → t ≠ 3 → ¬ (k = bs j ∨ gs j = some k) := by
    rintro k c t hc h50 h3 (rfl | e)
    · obtain ⟨c', hc'⟩ := tb j; exact ty_ne hc hc' h50 rfl
    · have := hi.ring j; rw [e] at this; obtain ⟨c', hc'⟩ := ring_g this; exact ty_ne hc hc' h3 rfl
  have other : ∀ i, i ≠ j → i = !j := by intro i hne; cases i <;> cases j <;> simp_all
  have lt : ∀ {k : Nat} {o : Obj}, h[k]? = some o → k < h.size := fun hk => hp_lt hk
  exact {
    rb := hk.get hi.rb (nb hi.rb (by decide) (by decide))
    mb := hk.get hi.mb (nb hi.mb (by decide) (by decide))
    sb := hk.get hi.sb (by
      rintro (e | e)
      · obtain ⟨c', hc'⟩ := tb j; exact ty_ne hi.sb hc' (by decide) e
      · exact hi.gS j e)
    ring := fun i => by
      by_cases hij : i = j
      · subst hij; rw [up_same, up_same]; exact hr
      · rw [other i hij, up_other, up_other]
        refine (hi.ring (!j)).keep hk ?_ (fun G hG => ?_)
        · rintro (e | e)
          · exact hi.bne j e.symm
          · have := hi.ring j; rw [e] at this; obtain ⟨c, hc⟩ := ring_g this; obtain ⟨c', hc'⟩ := tb (!j); exact ty_ne hc hc' (by decide) rfl
        · rintro (e | e)
          · have := hi.ring (!j); rw [hG] at this; obtain ⟨c, hc⟩ := ring_g this; obtain ⟨c', hc'⟩ := tb j; exact ty_ne hc hc' (by decide) e
          · exact hi.gne j G e hG
    own := fun i => (hi.own i).keep fun k hk' hlt => hk.block k hlt (by
      rintro (e | e)
      · obtain ⟨c, hc⟩ := own_b (hi.own i) hk'; obtain ⟨c', hc'⟩ := tb j; exact ty_ne hc hc' (by decide) e
      · exact hi.mg i j k hk' e)
    ints := hi.ints
    keep := hi.keep.newer (hk.mono (by
      rintro k _ (rfl | e)
      · exact .inr (hi.bge j)
      · exact .inr (hi.gge j k e)))
    bne := hi.bne
    gne := fun i G hG => by
      by_cases hij : i = j
      · subst hij
        rw [up_same] at hG
        rw [up_other]
        rcases hg G hG with e | e
        · exact hi.gne i G e
        · intro e2
          have := hi.ring (!i); rw [e2] at this; obtain ⟨c, hc⟩ := ring_g this
          have := lt hc; omega
      · have e := other i hij
        subst e
        rw [up_other] at hG
        rw [Bool.not_not, up_same]
        intro e2
        rcases hg G e2 with e | e
        · exact hi.gne j G e hG
        · have := hi.ring (!j); rw [hG] at this; obtain ⟨c, hc⟩ := ring_g this
          have := lt hc; omega
    mne := hi.mne
    mg := fun i k G hG => by
      by_cases hkj : k = j
      · subst hkj
        rw [up_same]
        intro e2
        rcases hg G e2 with e | e
        · exact hi.mg i k G hG e
        · have := (hi.own i).lt G hG; omega
      · rw [other k hkj, up_other]; exact hi.mg i _ G hG
    mS := hi.mS
    gS := fun i => by
      by_cases hij : i = j
      · subst hij
        rw [up_same]
        intro e2
        rcases hg SB e2 with e | e
        · exact hi.gS i e
        · have := lt hi.sb; omega
      · rw [other i hij, up_other]; exact hi.gS _
    rge := hi.rge
    mge := hi.mge
    sge := hi.sge
    bge := hi.bge
    gge := fun i G hG => by
      by_cases hij : i = j
      · subst hij
        rw [up_same] at hG
        rcases hg G hG with e | e
        · exact hi.gge i G e
        · have := hi.keep.size; omega
      · rw [other i hij, up_other] at hG; exact hi.gge _ G hG }

/-- the list of j is another one: the heap may have grown by its row -/
theorem DInv.set1 (hi : DInv h1 h RB MB SB bs gs sl ms rs xs) (j : Bool) {w : Value} {ys : List Value} (ho : OwnH h' h1.size 3 1 w ys.length ys) (hints : ∀ u ∈ ys, ∃ n, u = .int .i64 n)
    (hg : GrownH h h' (ms j).ownBlock) (hp : ∀ k, w.ownBlock = some k → (ms j).ownBlock = some k ∨ h.size ≤ k) :
    DInv h1 (h'.setIfInBounds MB (.cells #[up ms j w false, up ms j w true] 23 (0, 0))) RB MB SB bs gs sl (up ms j w) rs (up xs j ys) := by
  have other : ∀ i, i ≠ j → i = !j := by intro i hne; cases i <;> cases j <;> simp_all
  have lt : ∀ {k : Nat} {o : Obj}, h[k]? = some o → k < h.size := fun hk => hp_lt hk
  have nm : ∀ {k : Nat} {c : Array Value} {t : TypeId}, h[k]? = some (.cells c t (0, 0)) → t ≠ 3 → (ms j).ownBlock ≠ some k := by
    intro k c t hc h3 e
    obtain ⟨c', hc'⟩ := own_b (hi.own j) e
    exact ty_ne hc hc' h3 rfl
  have get : ∀ {k : Nat} {o : Obj}, h[k]? = some o → (ms j).ownBlock ≠ some k → h'[k]? = some o := fun hk hn => (hg.block _ (lt hk) (fun e => hn e.symm)).trans hk
  have hmb' := get hi.mb (nm hi.mb (by decide))
  have kg : Keep (fun k => (ms j).ownBlock = some k) h h' := Keep.grown hg fun k hk _ => hk
  have ks : Keep (fun k => k = MB) h' (h'.setIfInBounds MB (.cells #[up ms j w false, up ms j w true] 23 (0, 0))) := Keep.set _ rfl
  have ownlt : ∀ i G, (ms i).ownBlock = some G → G < h.size := fun i G e => ((hi.own i).lt G e).2
  have hMne : ∀ {k : Nat} {c : Array Value} {t : TypeId}, h[k]? = some (.cells c t (0, 0)) → t ≠ 23 → k ≠ MB := fun hc ht => ty_ne hc hi.mb ht
  exact {
    rb := ks.get (get hi.rb (nm hi.rb (by decide))) (hMne hi.rb (by decide))
    mb := hp_set_same hmb'
    sb := ks.get (get hi.sb (hi.mS j)) (hMne hi.sb (by decide))
    ring := fun i => by
      obtain ⟨c, hc⟩ := ring_b (hi.ring i)
      refine ((hi.ring i).keep kg (fun e => nm hc (by decide) e) (fun G hG e => hi.mg j i G e hG)).keep ks (hMne hc (by decide)) (fun G hG => ?_)
      have := hi.ring i; rw [hG] at this; obtain ⟨c', hc'⟩ := ring_g this
      exact hMne hc' (by decide)
    own := fun i => by
      by_cases hij : i = j
      · subst hij
        rw [up_same, up_same]
        refine ho.keep fun k hk' hlt => ?_
        rw [Array.getElem?_setIfInBounds_ne]
        rintro rfl
        obtain ⟨c, hc⟩ := own_b ho hk'
        rw [hmb'] at hc
        cases hc
      · rw [other i hij, up_other, up_other]
        refine ((hi.own (!j)).keep fun k hk' hlt => hg.block k hlt (fun e => hi.mne j k e.symm hk')).keep fun k hk' hlt => ?_
        rw [Array.getElem?_setIfInBounds_ne]
        rintro rfl
        obtain ⟨c, hc⟩ := own_b (hi.own (!j)) hk'
        rw [hi.mb] at hc
        cases hc
    ints := fun i u hu => by
      by_cases hij : i = j
      · subst hij; rw [up_same] at hu; exact hints u hu
      · rw [other i hij, up_other] at hu; exact hi.ints _ u hu
    keep := (hi.keep.newer (kg.mono fun k _ e => .inr ((hi.own j).lt k e).1)).newer (ks.mono (by rintro k _ rfl; exact .inr hi.mge))
    bne := hi.bne
    gne := hi.gne
    mne := fun i G hG => by
      by_cases hij : i = j
      · subst hij
        rw [up_same] at hG
        rw [up_other]
        rcases hp G hG with e | e
        · exact hi.mne i G e
        · intro e2; have := ownlt _ _ e2; omega
      · have e := other i hij
        subst e
        rw [up_other] at hG
        rw [Bool.not_not, up_same]
        intro e2
        rcases hp G e2 with e | e
        · exact hi.mne j G e hG
        · have := ownlt _ _ hG; omega
    mg := fun i k G hG => by
      by_cases hij : i = j
      · subst hij
        rw [up_same] at hG
        rcases hp G hG with e | e
        · exact hi.mg i k G e
        · intro e2
          have := (hi.ring k).lt.2 G e2; omega
      · rw [other i hij, up_other] at hG; exact hi.mg _ k G hG
    mS := fun i => by
      by_cases hij : i = j
      · subst hij
        rw [up_same]
        intro e2
        rcases hp SB e2 with e | e
        · exact hi.mS i e
        · have := lt hi.sb; omega
      · rw [other i hij, up_other]; exact hi.mS _
    gS := hi.gS
    rge := hi.rge
    mge := hi.mge
    sge := hi.sge
    bge := hi.bge
    gge := hi.gge }

/-- new blocks alone -/
theorem DInv.more (hi : DInv h1 h RB MB SB bs gs sl ms rs xs) (hk : Keep (fun k => h.size ≤ k) h h') : DInv h1 h' RB MB SB bs gs sl ms rs xs :=
  have nn : ∀ {k : Nat} {o : Obj}, h[k]? = some o → ¬ h.size ≤ k := fun hk => by have := hp_lt hk; omega
  { hi with
    rb := hk.get hi.rb (nn hi.rb)
    mb := hk.get hi.mb (nn hi.mb)
    sb := hk.get hi.sb (nn hi.sb)
    ring := fun i => (hi.ring i).keep hk (by have := (hi.ring i).lt.1; omega) (fun G hG => by have := (hi.ring i).lt.2 G hG; omega)
    own := fun i => (hi.own i).keep fun k _ hlt => hk.block k hlt (by omega)
    keep := hi.keep.newer (hk.mono fun k hk' hh => by omega) }
end
end Go.Proofs.Ytihffbheockjkaa
