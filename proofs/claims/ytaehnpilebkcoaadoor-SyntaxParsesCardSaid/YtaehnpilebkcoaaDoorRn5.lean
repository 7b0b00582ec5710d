/- Statements as texts. -/
import Derived.Test.YtaehnpilebkcoaaDoorRn4
namespace Go.Proofs.YtaehnpilebkcoaaDoor
open Go Go.Sx Go.Sx.Tk Go.Sx.Rn Go.Proofs.YtaehnpilebkcoaaDoor.Sx

/-! ### what may stand as a text -/
def hdG (x : St) (deep : Int) : Prop := ∃ f, formOf x.d = some f ∧ badF f x = false ∧ x.e.length ≤ 6 ∧ stR f x deep = 0
mutual
def stG (deep : Int) : St → Prop
  | .mk d at_ a b t n e body els => hdG (.mk d at_ a b t n e body els) deep ∧ stsG (deep + 1) body ∧ stsG (deep + 1) els
def stsG (deep : Int) : List St → Prop
  | [] => True
  | x :: r => stG deep x ∧ stsG deep r
end
theorem stG_iff {deep : Int} {x : St} : stG deep x ↔ hdG x deep ∧ stsG (deep + 1) x.body ∧ stsG (deep + 1) x.els := by cases x; exact Iff.rfl
theorem bindE_okk {r : FR} {f : Int → FR} {n : Int} (h : bindE r f = .ok n) : ∃ m, r = .ok m ∧ f m = .ok n := by
  cases r with
  | error e => cases h
  | ok m => exact ⟨m, rfl, h⟩
theorem hdG_of {x : St} {m deep : Int} (h : stH x m deep = 0) : hdG x deep := by
  rw [stH_E] at h
  have hE : stE x m = 0 := Decidable.byContradiction fun hh => by
    rw [if_pos hh] at h
    exact hh h
  rw [if_neg (fun hh => hh hE)] at h
  obtain ⟨_, ⟨f, hf⟩, hb, hl⟩ := stE_good hE
  have hfd : fmD x.d = f := by rw [fmD, hf]; rfl
  rw [hfd] at hb h
  exact ⟨f, hf, hb, hl, h⟩
mutual
theorem stG_of : ∀ (x : St) {m deep n : Int}, stF x m deep = .ok n → stG deep x
  | .mk d at_ a b t nn e body els, m, deep, n, h => by
    unfold stF at h
    split at h
    · cases h
    rename_i h0
    obtain ⟨m1, h1, h2⟩ := bindE_okk h
    unfold stG
    exact ⟨hdG_of (Decidable.not_not.1 h0), stsG_of body h1, stsG_of els h2⟩
theorem stsG_of : ∀ (l : List St) {m deep n : Int}, stsF l m deep = .ok n → stsG deep l
  | [], _, _, _, _ => trivial
  | x :: r, m, deep, n, h => by
    rw [stsF_cons] at h
    obtain ⟨m1, h1, h2⟩ := bindE_okk h
    unfold stsG
    exact ⟨stG_of x h1, stsG_of r h2⟩
end
theorem esF_exsF : ∀ {l : List Ex}, esF l = 0 → exsF l = 0 ∧ ∀ x ∈ l, exN x ≤ 20
  | [], _ => ⟨rfl, fun x hx => absurd hx List.not_mem_nil⟩
  | y :: r, h => by
    unfold esF at h
    obtain ⟨h1, h2⟩ := orF_z h
    obtain ⟨h3, h4⟩ := orF_z h1
    obtain ⟨h5, h6⟩ := esF_exsF h2
    refine ⟨by rw [exsF, h4, h5]; rfl, fun x hx => ?_⟩
    rcases List.mem_cons.1 hx with rfl | hx
    · exact Decidable.byContradiction fun hh => by
        rw [if_pos (by omega)] at h3
        cases h3
    · exact h6 x hx
/-- what is known of a statement that may stand as a text -/
structure StOk (x : St) (f : Fm) (deep : Int) : Prop where
  form : formOf x.d = some f
  d1 : 1 ≤ x.d
  d2 : x.d ≤ 14
  bad : badF f x = false
  na : f.a = true → isNameB x.a = true
  nb : f.b = true → isNameB x.b = true
  ty : f.t = true → isTyB x.t 3 = true
  ea : f.a = false → emp x.a
  eb : f.b = false → emp x.b
  et : f.t = false → emp x.t
  en : f.n = false → x.n = 0
  ne : 0 ≤ f.e → (x.e.length : Int) = f.e
  bo : f.body = false → x.body = []
  el : f.els = false → x.els = []
  n0 : 0 ≤ x.n
  n1 : x.n < 1000000000000000000
  ex : exsF x.e = 0
  e20 : ∀ y ∈ x.e, exN y ≤ 20
  dp : f.body = true → deep < 8
theorem if0 {b : Bool} {c : Int} (hc : c ≠ 0) (h : (if b then c else 0) = 0) : b = false := by
  cases b with
  | false => rfl
  | true => exact absurd h hc
theorem hdG_ok {x : St} {deep : Int} (h : hdG x deep) : ∃ f, StOk x f deep := by
  obtain ⟨f, hf, hb, hl, hR⟩ := h
  obtain ⟨bA, bB, bT, bN, bE, bBo, bEl⟩ := bad_all hb
  rw [stR, nmF_good bA, nmF_good bB] at hR
  obtain ⟨r1, hR⟩ := orF_z hR
  obtain ⟨r2, hR⟩ := orF_z hR
  obtain ⟨r3, hR⟩ := orF_z hR
  obtain ⟨r4, hR⟩ := orF_z hR
  obtain ⟨r5, r6⟩ := orF_z hR
  have r1 := if0 (by decide) r1
  have r2 := if0 (by decide) r2
  have r3 := if0 (by decide) r3
  have r4 := if0 (by decide) r4
  have r6 := if0 (by decide) r6
  obtain ⟨e1, e2⟩ := esF_exsF r5
  have hd := formOf_ne hf
  have hn := of_decide_eq_false r4
  refine ⟨f, hf, hd.1, hd.2, hb, fun h => ?_, fun h => ?_, fun h => ?_, fun h => ?_, fun h => ?_, fun h => ?_, fun h => ?_, fun h => ?_, fun h => ?_, fun h => ?_, by omega, by omega, e1, e2, fun h => ?_⟩
  · rw [h, Bool.true_and] at r1
    simpa using r1
  · rw [h, Bool.true_and] at r2
    simpa using r2
  · rw [h, Bool.true_and] at r3
    simpa using r3
  · unfold zA at bA
    rw [h] at bA
    simpa using bA
  · unfold zB at bB
    rw [h] at bB
    simpa using bB
  · unfold zT at bT
    rw [h] at bT
    simpa using bT
  · unfold zN at bN
    rw [h] at bN
    simpa using bN
  · unfold zE at bE
    rw [decide_eq_true h, Bool.true_and] at bE
    simpa using bE
  · unfold zBo at bBo
    rw [h] at bBo
    simpa using bBo
  · unfold zEl at bEl
    rw [h] at bEl
    simpa using bEl
  · rw [h, Bool.true_and] at r6
    have := of_decide_eq_false r6
    omega
/-! ### how long -/
end Go.Proofs.YtaehnpilebkcoaaDoor

namespace Go.Proofs.YtaehnpilebkcoaaDoor
open Go Go.Sx Go.Sx.Tk Go.Sx.Rn Go.Proofs.YtaehnpilebkcoaaDoor.Sx

/-- a page that grows; what was there before it stays -/
structure PS (h0 : Hp) (B b : Nat) (h : Hp) (d : Int) (l : List UInt8) : Prop where
  k : Keep (fun _ => False) h0 h
  lt : h0.size ≤ B
  hB : B ≤ h.size
  pg : Pg h B b d l
/-- what may turn: the page, rows of bytes -/
structure PK (B b : Nat) (h h' : Hp) : Prop where
  k : Keep (fun k => B ≤ k) h h'
  o : Oth b h h'
theorem PK.refl (B b : Nat) (h : Hp) : PK B b h h := ⟨Keep.refl _ _, fun _ _ hk _ _ => hk⟩
theorem PK.trans {B b : Nat} {h1 h2 h3 : Hp} (a : PK B b h1 h2) (c : PK B b h2 h3) : PK B b h1 h3 := ⟨a.k.trans c.k, fun k o hk hn h5 => c.o k o (a.o k o hk hn h5) hn h5⟩
theorem PK.of {B b : Nat} {h h' : Hp} (k : Keep (fun _ => False) h h') : PK B b h h' := ⟨k.mono fun _ _ h => h.elim, fun i o hk _ _ => k.get hk (by simp)⟩
theorem PK.get {B b : Nat} {h h' : Hp} (p : PK B b h h') {i : Nat} {c : Array Value} {t : TypeId} {f : Nat × Nat} (hi : h[i]? = some (.cells c t f)) (hne : i ≠ b) (ht : t ≠ 5) : h'[i]? = some (.cells c t f) :=
  p.o i _ hi hne fun c' fz e => by cases e; exact ht rfl
theorem PS.blk {h0 : Hp} {B b : Nat} {h : Hp} {d : Int} {l : List UInt8} (ps : PS h0 B b h d l) : ∃ p v, h[b]? = some (.cells [p, v, .int .i64 d].toArray 97 (0, 0)) := by
  obtain ⟨p, v, _, _, hb, _⟩ := ps.pg
  exact ⟨p, v, hb⟩
theorem PS.next {h0 : Hp} {B b : Nat} {h h' : Hp} {d d' : Int} {l l' : List UInt8} (ps : PS h0 B b h d l) (k : PK B b h h') (hp : Pg h' B b d' l') : PS h0 B b h' d' l' :=
  ⟨((ps.k.mono (S' := fun k => B ≤ k) fun _ _ h => h.elim).trans k.k).mono fun i hi e => by have := ps.lt; omega, ps.lt, Nat.le_trans ps.hB k.k.size, hp⟩
theorem PS.more {h0 : Hp} {B b : Nat} {h h' : Hp} {d : Int} {l : List UInt8} (ps : PS h0 B b h d l) (k : Keep (fun _ => False) h h') : PS h0 B b h' d l :=
  ⟨ps.k.trans k, ps.lt, Nat.le_trans ps.hB k.size, ps.pg.more k⟩
/-- how deep is told anew -/
theorem PS.deep {h0 : Hp} {B b : Nat} {h : Hp} {d : Int} {l : List UInt8} (ps : PS h0 B b h d l) (d' : Int) {K : Hp → Prop} (hk : ∀ h', PS h0 B b h' d' l → PK B b h h' → K h') : storeK1 h ⟨b, 2, none⟩ (.int .i64 d') K := by
  obtain ⟨p, v, hp, hB, hb, hown, hne⟩ := ps.pg
  refine storeK1_of hb (by simp) ?_
  have kk := Keep.set (S := fun k => k = b) (h := h) (.cells (#[p, v, .int .i64 d].setIfInBounds 2 (.int .i64 d')) 97 (0, 0)) (b := b) rfl
  have hb' := hp_set_same (o := .cells (#[p, v, .int .i64 d].setIfInBounds 2 (.int .i64 d')) 97 (0, 0)) hb
  have pk : PK B b h (h.setIfInBounds b (.cells (#[p, v, .int .i64 d].setIfInBounds 2 (.int .i64 d')) 97 (0, 0))) := ⟨kk.mono fun i _ e => by omega, fun i o hi hn _ => kk.get hi hn⟩
  refine hk _ (ps.next pk ⟨p, v, hp, hB, by simpa using hb', ownsF_keep hown fun g hg hl => kk.block g hl fun e => ?_, hne⟩) pk
  exact hne (by rw [hg, e])
section
variable {ω : Amb} {h0 : Hp} {B b : Nat}
end
end Go.Proofs.YtaehnpilebkcoaaDoor

namespace Go.Proofs.YtaehnpilebkcoaaDoor
open Go Go.Sx Go.Sx.Tk Go.Sx.Rn Go.Proofs.YtaehnpilebkcoaaDoor.Sx

section
variable {ω : Amb} {h0 : Hp} {B b : Nat}
end
end Go.Proofs.YtaehnpilebkcoaaDoor

namespace Go.Proofs.YtaehnpilebkcoaaDoor
open Go Go.Sx Go.Sx.Tk Go.Sx.Rn Go.Proofs.YtaehnpilebkcoaaDoor.Sx

/-- a stage that may stand as a text -/
structure SgOk (s : Sg) : Prop where
  nm : isNameB s.nm = true
  pl : s.ps.length ≤ 6
  ps : ∀ q ∈ s.ps, isNameB q.1 = true ∧ isTyB q.2 3 = true
  body : stsG 1 s.body
structure PgOk (p : List Sg) : Prop where
  ne : p.length ≠ 0
  len : p.length ≤ 10
  ok : ∀ s ∈ p, SgOk s
theorem prsF_0 : ∀ {l : List (ByteArray × ByteArray)}, prsF l = 0 → ∀ q ∈ l, isNameB q.1 = true ∧ isTyB q.2 3 = true
  | [], _, q, hq => absurd hq List.not_mem_nil
  | y :: r, h, q, hq => by
    unfold prsF at h
    obtain ⟨h1, h2⟩ := orF_z h
    obtain ⟨h3, h4⟩ := orF_z h1
    rcases List.mem_cons.1 hq with rfl | hq
    · have h3 := if0 (by decide) h3
      have h4 := if0 (by decide) h4
      exact ⟨by simpa using h3, by simpa using h4⟩
    · exact prsF_0 h2 q hq
theorem sgsF_ok : ∀ {p : List Sg} {i m n : Int}, sgsF p i m = .ok n → ∀ s ∈ p, SgOk s
  | [], _, _, _, _, s, hs => absurd hs List.not_mem_nil
  | x :: r, i, m, n, h, s, hs => by
    unfold sgsF at h
    split at h
    · cases h
    rename_i h0
    have h0 : sgH x = 0 := Decidable.not_not.1 h0
    obtain ⟨m1, h1, h2⟩ := bindE_okk h
    rcases List.mem_cons.1 hs with rfl | hs
    · unfold sgH at h0
      obtain ⟨a1, a2⟩ := orF_z h0
      obtain ⟨a3, a4⟩ := orF_z a2
      have a1 := if0 (by decide) a1
      have a3 := if0 (by decide) a3
      refine ⟨by simpa using a1, ?_, prsF_0 a4, stsG_of _ h1⟩
      have := of_decide_eq_false a3
      omega
    · exact sgsF_ok h2 s hs
theorem pgOk_of {p : List Sg} {n : Int} (h : formP p = .ok n) : PgOk p := by
  unfold formP at h
  split at h
  · cases h
  rename_i h0
  split at h
  · cases h
  rename_i h1
  exact ⟨h0, by omega, sgsF_ok h⟩
section
variable {ω : Amb}
end
end Go.Proofs.YtaehnpilebkcoaaDoor
