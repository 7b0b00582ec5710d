/- Numerals; texts that grow; texts joined; tabs. -/
import Derived.Test.YtaehnpilebkcoaaDoorRn2
import Derived.Test.YtaehnpilebkcoaaDoorSLayR
import Derived.Shelf.Strings.OnBuilder
import Derived.Lib.ItoaLen
namespace Go.Proofs.YtaehnpilebkcoaaDoor
open Go Go.Sx Go.Sx.Rn Go.Proofs.YtaehnpilebkcoaaDoor.Sx

section
variable {ω : Amb}
/-! ### numerals -/
/-- strconv's table of powers -/
def PwTab (h : Hp) : Prop := ∀ (ω : Amb) (d : Nat), Lib.TabIs Tryd.prog (W ω h d) "internal/strconv.uint64pow10" .u64 Lib.pow10Tab
theorem var_more {P : Program} {h h' : Hp} (k : Keep (fun _ => False) h h') {ω : Amb} {d : Nat} {nm : String} {cs : Array Value} (hv : (W ω h d).var? P nm = some cs) : (W ω h' d).var? P nm = some cs := by
  unfold World.var? at hv ⊢
  rw [Option.bind_eq_some_iff] at hv ⊢
  obtain ⟨g, hg, hm⟩ := hv
  refine ⟨g, hg, ?_⟩
  have e1 : (W ω h d).heap = h := rfl
  have e2 : (W ω h' d).heap = h' := rfl
  rw [e1] at hm
  rw [e2]
  split at hm
  · rename_i c t f hb
    rw [k.get hb (by simp)]
    exact hm
  · cases hm
theorem PwTab.more {h h' : Hp} (t : PwTab h) (k : Keep (fun _ => False) h h') : PwTab h' := by
  intro ω d
  have := t ω d
  unfold Lib.TabIs at this ⊢
  exact var_more k this
/-! ### a text that grows -/
/-- at block b stands a text that grows; it holds l -/
def Bld (h : Hp) (B b : Nat) (l : List UInt8) : Prop := ∃ p v, (p = .pointer none ∨ p = .pointer (some ⟨b, 0, none⟩)) ∧ B ≤ b ∧ h[b]? = some (.cells #[p, v] 95 (0, 0)) ∧ (∀ (ω : Amb) (d : Nat), (W ω h d).ownsRowF B 5 1 v l.length (Lib.byteCells l)) ∧ v.ownBlock ≠ some b
theorem Bld.is {h : Hp} {B b : Nat} {l : List UInt8} (hb : Bld h B b l) (ω : Amb) (d : Nat) : Lib.IsBuilderF 95 5 B b (Lib.byteCells l) (W ω h d) := by
  obtain ⟨p, v, hp, h1, h2, h3, h4⟩ := hb
  have : Lib.BuilderAtF 95 5 B b p (Lib.byteCells l) (W ω h d) := ⟨h1, v, h2, by rw [Lib.byteCells_length]; exact h3 ω d, h4⟩
  rcases hp with rfl | rfl
  · exact .inl this
  · exact .inr this
theorem Bld.new {h : Hp} {B b : Nat} (hB : B ≤ b) (hb : h[b]? = some (.cells #[.pointer none, .slice none 0 0] 95 (0, 0))) : Bld h B b [] :=
  ⟨_, _, .inl rfl, hB, hb, fun _ _ => ⟨rfl, .inl ⟨rfl, rfl⟩⟩, by simp [Value.ownBlock]⟩
theorem Bld.more {h h' : Hp} {B b : Nat} {l : List UInt8} (hb : Bld h B b l) (k : Keep (fun _ => False) h h') : Bld h' B b l := by
  obtain ⟨p, v, hp, h1, h2, h3, h4⟩ := hb
  refine ⟨p, v, hp, h1, k.get h2 (by simp), fun ω d => ?_, h4⟩
  obtain ⟨e1, e2⟩ := h3 ω d
  refine ⟨e1, ?_⟩
  rcases e2 with e2 | ⟨g, cap, cur, fz, e3, e4, e5, rest⟩
  · exact .inl e2
  · have e5 : h[g]? = _ := e5
    exact .inr ⟨g, cap, cur, fz, e3, e4, k.get e5 (by simp), rest⟩
/-- all but the growing text's own block and rows of bytes -/
def Oth (b : Nat) (h h' : Hp) : Prop := ∀ k o, h[k]? = some o → k ≠ b → (∀ c fz, o ≠ .cells c 5 fz) → h'[k]? = some o
theorem Oth.own {b : Nat} {h h' : Hp} {B : Nat} {l : List UInt8} (hb : Bld h B b l) (ho : Oth b h h') {base n sz : Nat} {t : TypeId} {v : Value} {ys : List Value} (hv : OwnH h base t sz v n ys) (h5 : t ≠ 5) (h95 : t ≠ 95) : OwnH h' base t sz v n ys := by
  refine hv.keep fun k hk hlt => ?_
  have hkb : ∃ c, h[k]? = some (.cells c t (0, 0)) := by
    rcases hv.2 with ⟨rfl, _⟩ | ⟨g, o, cap, cur, rfl, _, hg, _⟩
    · cases hk
    · cases hk
      exact ⟨cur, hg⟩
  obtain ⟨c, hc⟩ := hkb
  rw [hc]
  refine ho k _ hc (fun e => ?_) fun c' fz e => ?_
  · subst e
    obtain ⟨_, _, _, _, h2, _⟩ := hb
    rw [hc] at h2
    cases h2
    exact h95 rfl
  · cases e
    exact h5 rfl
/-! ### the rest of the library -/
end
end Go.Proofs.YtaehnpilebkcoaaDoor

namespace Go.Proofs.YtaehnpilebkcoaaDoor
open Go Go.Sx Go.Sx.Tk Go.Sx.Rn Go.Proofs.YtaehnpilebkcoaaDoor.Sx

structure Fm where
  a : Bool
  b : Bool
  t : Bool
  n : Bool
  e : Int
  body : Bool
  els : Bool
def formOf (d : Int) : Option Fm :=
  if d = 1 ∨ d = 2 ∨ d = 6 then some ⟨true, false, false, false, 1, false, false⟩
  else if d = 3 then some ⟨false, false, false, false, 1, false, false⟩
  else if d = 4 then some ⟨true, true, true, true, 0, false, false⟩
  else if d = 5 then some ⟨true, true, false, false, 0, false, false⟩
  else if d = 7 ∨ d = 8 ∨ d = 9 then some ⟨true, false, false, false, 0, false, false⟩
  else if d = 10 then some ⟨true, false, false, false, -1, false, false⟩
  else if d = 11 then some ⟨true, true, false, false, 0, true, true⟩
  else if d = 12 then some ⟨true, true, false, false, 0, true, false⟩
  else if d = 13 then some ⟨false, false, false, false, 1, true, false⟩
  else if d = 14 then some ⟨false, false, false, false, 1, true, true⟩
  else none
def fm0 : Fm := ⟨false, false, false, false, 0, false, false⟩
section
variable {ω : Amb}
end
end Go.Proofs.YtaehnpilebkcoaaDoor

namespace Go.Proofs.YtaehnpilebkcoaaDoor
open Go Go.Sx Go.Sx.Tk Go.Sx.Rn Go.Proofs.YtaehnpilebkcoaaDoor.Sx

theorem formOf_out {d : Int} (h : d < 1 ∨ 14 < d) : formOf d = none := by
  unfold formOf
  rw [if_neg (by omega), if_neg (by omega), if_neg (by omega), if_neg (by omega), if_neg (by omega), if_neg (by omega), if_neg (by omega), if_neg (by omega), if_neg (by omega), if_neg (by omega)]
theorem formOf_ne {d : Int} {f : Fm} (h : formOf d = some f) : 1 ≤ d ∧ d ≤ 14 := by
  rcases Int.lt_or_le d 1 with h1 | h1
  · rw [formOf_out (.inl h1)] at h
    cases h
  · rcases Int.lt_or_le 14 d with h2 | h2
    · rw [formOf_out (.inr h2)] at h
      cases h
    · exact ⟨h1, h2⟩
section
variable {ω : Amb}
end
/-! ### what is wrong with a statement -/
def zA (f : Fm) (x : St) : Bool := !f.a && !decide (emp x.a)
def zB (f : Fm) (x : St) : Bool := !f.b && !decide (emp x.b)
def zT (f : Fm) (x : St) : Bool := !f.t && !decide (emp x.t)
def zN (f : Fm) (x : St) : Bool := !f.n && decide (x.n ≠ 0)
def zE (f : Fm) (x : St) : Bool := decide (0 ≤ f.e) && decide ((x.e.length : Int) ≠ f.e)
def zBo (f : Fm) (x : St) : Bool := !f.body && decide (0 < x.body.length)
def zEl (f : Fm) (x : St) : Bool := !f.els && decide (0 < x.els.length)
def badF (f : Fm) (x : St) : Bool := zT f x || (zN f x || (zE f x || (zBo f x || (zEl f x || (zA f x || zB f x)))))
end Go.Proofs.YtaehnpilebkcoaaDoor

namespace Go.Proofs.YtaehnpilebkcoaaDoor
open Go Go.Sx Go.Sx.Tk Go.Sx.Rn Go.Proofs.YtaehnpilebkcoaaDoor.Sx

section
variable {ω : Amb}
end
end Go.Proofs.YtaehnpilebkcoaaDoor

namespace Go.Proofs.YtaehnpilebkcoaaDoor
open Go Go.Sx Go.Sx.Tk Go.Sx.Rn Go.Proofs.YtaehnpilebkcoaaDoor.Sx

def eF1 (x : Ex) : Int := orF (if 20 < exN x then 8 else 0) (exF x)
def esF : List Ex → Int
  | [] => 0
  | x :: r => orF (eF1 x) (esF r)
/-- of one statement itself, whose form is good so far -/
def stR (f : Fm) (x : St) (deep : Int) : Int :=
  orF (nmF f.a x.a) (orF (nmF f.b x.b) (orF (if f.t && !isTyB x.t 3 then 11 else 0) (orF (if decide (x.n < 0 ∨ 1000000000000000000 ≤ x.n) then 14 else 0) (orF (esF x.e) (if f.body && decide (8 ≤ deep) then 7 else 0)))))
def stH (x : St) (at_ deep : Int) : Int :=
  if 300 ≤ at_ then 8 else match formOf x.d with
  | none => 5
  | some f => if badF f x then 5 else if 6 < x.e.length then 8 else stR f x deep
theorem bad_all {f : Fm} {x : St} (h : badF f x = false) : zA f x = false ∧ zB f x = false ∧ zT f x = false ∧ zN f x = false ∧ zE f x = false ∧ zBo f x = false ∧ zEl f x = false := by
  unfold badF at h
  simp only [Bool.or_eq_false_iff] at h
  obtain ⟨h1, h2, h3, h4, h5, h6, h7⟩ := h
  exact ⟨h6, h7, h1, h2, h3, h4, h5⟩
theorem nmF_good {is : Bool} {s : ByteArray} (h : (!is && !decide (emp s)) = false) : nmF is s = if is && !isNameB s then 4 else 0 := by
  rw [nmF, h, if_neg (by decide), orF_0]
section
variable {ω : Amb}
end
end Go.Proofs.YtaehnpilebkcoaaDoor

namespace Go.Proofs.YtaehnpilebkcoaaDoor
open Go Go.Sx Go.Sx.Tk Go.Sx.Rn Go.Proofs.YtaehnpilebkcoaaDoor.Sx

abbrev FR := Except (Int × Int) Int
def bindE (r : FR) (f : Int → FR) : FR := match r with | .error e => .error e | .ok n => f n
theorem bindE_ok (n : Int) (f : Int → FR) : bindE (.ok n) f = f n := rfl
mutual
def stF : St → Int → Int → FR
  | .mk d at_ a b t n e body els, m, deep =>
    if stH (.mk d at_ a b t n e body els) m deep ≠ 0 then .error (stH (.mk d at_ a b t n e body els) m deep, m)
    else bindE (stsF body (m + 1) (deep + 1)) fun n => stsF els n (deep + 1)
def stsF : List St → Int → Int → FR
  | [], m, _ => .ok m
  | x :: r, m, deep => bindE (stF x m deep) fun n => stsF r n deep
end
theorem stsF_cons (x : St) (r : List St) (m deep : Int) : stsF (x :: r) m deep = bindE (stF x m deep) fun n => stsF r n deep := rfl
def okRes (m : Int) : FR → Prop
  | .ok n => m ≤ n ∧ n ≤ 300
  | .error e => e.1 ≠ 0
theorem okRes_bind {m : Int} {r : FR} {f : Int → FR} (h : okRes m r) (hf : ∀ n, m ≤ n → n ≤ 300 → okRes n (f n)) : okRes m (bindE r f) := by
  cases r with
  | error e => exact h
  | ok n =>
    have := hf n h.1 h.2
    rw [bindE_ok]
    revert this
    cases f n with
    | error e => exact id
    | ok k => exact fun hh => ⟨Int.le_trans h.1 hh.1, hh.2⟩
mutual
theorem stF_ok : ∀ (x : St) (m deep : Int), m ≤ 300 → okRes m (stF x m deep)
  | .mk d at_ a b t n e body els, m, deep, hm => by
    unfold stF
    split
    · assumption
    · rename_i h
      have h3 : m < 300 := by
        rcases Int.lt_or_le m 300 with h1 | h1
        · exact h1
        · exact absurd (by rw [stH, if_pos h1]; decide) h
      refine okRes_bind ?_ fun n _ hn => stsF_ok els n _ hn
      have := stsF_ok body (m + 1) (deep + 1) (by omega)
      revert this
      cases stsF body (m + 1) (deep + 1) with
      | error e => exact id
      | ok k => exact fun hh => ⟨by have := hh.1; omega, hh.2⟩
theorem stsF_ok : ∀ (l : List St) (m deep : Int), m ≤ 300 → okRes m (stsF l m deep)
  | [], m, deep, hm => ⟨Int.le_refl _, hm⟩
  | x :: r, m, deep, hm => by
    rw [stsF_cons]
    exact okRes_bind (stF_ok x m deep hm) fun n _ hn => stsF_ok r n deep hn
end
/-- a fault is laid and read -/
theorem finF {h : Hp} {L : Nat} {T : TypeId} {cs ds : List Value} (hw : h[L]? = some (.cells ds.toArray T (0, 0))) (hd : ds.length = 2) (hc : cs.length = 2) {K : List Value → Hp → Prop}
    (hk : ∀ h', Keep (fun k => k = L) h h' → h'[L]? = some (.cells cs.toArray T (0, 0)) → K cs h') : storeK h ⟨L, 0, none⟩ cs fun h' => ∃ C, cellsH h' ⟨L, 0, none⟩ 2 C ∧ K C h' := by
  refine storeK_of hw (by simp; omega) ?_
  rw [spl_all (by simp; omega)]
  have hb := hp_set_same (o := .cells cs.toArray T (0, 0)) hw
  exact ⟨cs, cellsH_blk hb hc, hk _ (Keep.set (S := fun k => k = L) _ rfl) hb⟩
theorem newK {h h1 h2 : Hp} (k : Keep (fun _ => False) h h1) (k2 : Keep (fun b => b = h.size) h1 h2) : Keep (fun _ => False) h h2 :=
  ((k.mono (fun _ _ h => h.elim)).trans k2).mono fun b hb e => by omega
section
variable {ω : Amb}
end
end Go.Proofs.YtaehnpilebkcoaaDoor

namespace Go.Proofs.YtaehnpilebkcoaaDoor
open Go Go.Sx Go.Sx.Tk Go.Sx.Rn Go.Proofs.YtaehnpilebkcoaaDoor.Sx

def prF (q : ByteArray × ByteArray) : Int := orF (if !isNameB q.1 then 4 else 0) (if !isTyB q.2 3 then 11 else 0)
def prsF : List (ByteArray × ByteArray) → Int
  | [] => 0
  | q :: r => orF (prF q) (prsF r)
def sgH (s : Sg) : Int := orF (if !isNameB s.nm then 4 else 0) (orF (if decide (6 < s.ps.length) then 8 else 0) (prsF s.ps))
def sgsF : List Sg → Int → Int → FR
  | [], _, m => .ok m
  | s :: r, i, m => if sgH s ≠ 0 then .error (sgH s, -2 - i) else bindE (stsF s.body m 1) fun n => sgsF r (i + 1) n
def formP (p : List Sg) : FR := if p.length = 0 then .error (10, -1) else if 10 < p.length then .error (8, -1) else sgsF p 0 0
section
variable {ω : Amb}
theorem newL {h h1 h2 : Hp} {L : Nat} (k : Keep (fun _ => False) h h1) (hL : h.size ≤ L) (k2 : Keep (fun b => b = L) h1 h2) : Keep (fun _ => False) h h2 :=
  ((k.mono (fun _ _ h => h.elim)).trans k2).mono fun b hb e => by omega
end
end Go.Proofs.YtaehnpilebkcoaaDoor

namespace Go.Proofs.YtaehnpilebkcoaaDoor
open Go Go.Sx Go.Sx.Tk Go.Sx.Rn Go.Proofs.YtaehnpilebkcoaaDoor.Sx

theorem orF_z {a b : Int} (h : orF a b = 0) : a = 0 ∧ b = 0 := by
  unfold orF at h
  split at h
  · exact ⟨‹_›, h⟩
  · exact absurd h ‹_›
def fmD (d : Int) : Fm := (formOf d).getD fm0
def fmOk (d : Int) : Bool := (formOf d).isSome
/-- the head's fault -/
def stE (x : St) (n : Int) : Int := if 300 ≤ n then 8 else if (!fmOk x.d || badF (fmD x.d) x) then 5 else if decide (6 < x.e.length) then 8 else 0
theorem stH_E (x : St) (n deep : Int) : stH x n deep = if stE x n ≠ 0 then stE x n else stR (fmD x.d) x deep := by
  unfold stH stE fmOk fmD
  by_cases h1 : 300 ≤ n
  · simp [h1]
  · rw [if_neg h1, if_neg h1]
    cases hf : formOf x.d with
    | none => simp
    | some f =>
      simp only [Option.getD_some, Option.isSome_some, Bool.not_true, Bool.false_or]
      cases hb : badF f x with
      | true => simp
      | false =>
        by_cases h6 : 6 < x.e.length
        · simp [h6]
        · simp [h6]
theorem stE_good {x : St} {n : Int} (h : stE x n = 0) : n < 300 ∧ (∃ f, formOf x.d = some f) ∧ badF (fmD x.d) x = false ∧ x.e.length ≤ 6 := by
  unfold stE at h
  split at h
  · cases h
  · rename_i h1
    split at h
    · cases h
    · rename_i h2
      simp only [Bool.or_eq_true, Bool.not_eq_true', not_or, Bool.not_eq_false, Bool.not_eq_true] at h2
      split at h
      · cases h
      · rename_i h3
        refine ⟨by omega, Option.isSome_iff_exists.1 h2.1, h2.2, ?_⟩
        simp at h3
        omega
section
variable {ω : Amb} {h0 : Hp} {b : Nat}
end
end Go.Proofs.YtaehnpilebkcoaaDoor

namespace Go.Proofs.YtaehnpilebkcoaaDoor
open Go Go.Sx Go.Sx.Tk Go.Sx.Rn Go.Proofs.YtaehnpilebkcoaaDoor.Sx

section
variable {ω : Amb} {h0 : Hp} {b : Nat}
end
end Go.Proofs.YtaehnpilebkcoaaDoor
