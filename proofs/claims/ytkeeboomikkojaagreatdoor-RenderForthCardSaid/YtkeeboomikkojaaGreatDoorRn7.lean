/- Are two programs the same: expressions, statements. -/
import Derived.Test.YtkeeboomikkojaaGreatDoorRn6
namespace Go.Proofs.YtkeeboomikkojaaGreatDoor
open Go Go.Sx Go.Sx.Tk Go.Sx.Rn Go.Proofs.YtkeeboomikkojaaGreatDoor.Sx

section
variable {ω : Amb}
end
end Go.Proofs.YtkeeboomikkojaaGreatDoor

namespace Go.Proofs.YtkeeboomikkojaaGreatDoor
open Go Go.Sx Go.Sx.Tk Go.Sx.Rn Go.Proofs.YtkeeboomikkojaaGreatDoor.Sx

mutual
def stZ (pl : Bool) : St → St
  | .mk d at_ a b t n e body els => .mk d (if pl then at_ else 0) a b t n e (stsZ pl body) (stsZ pl els)
def stsZ (pl : Bool) : List St → List St
  | [] => []
  | x :: r => stZ pl x :: stsZ pl r
end
section
variable {ω : Amb}
end
end Go.Proofs.YtkeeboomikkojaaGreatDoor

namespace Go.Proofs.YtkeeboomikkojaaGreatDoor
open Go Go.Sx Go.Sx.Tk Go.Sx.Rn Go.Proofs.YtkeeboomikkojaaGreatDoor.Sx

section
variable {ω : Amb}
end
end Go.Proofs.YtkeeboomikkojaaGreatDoor

namespace Go.Proofs.YtkeeboomikkojaaGreatDoor
open Go Go.Sx Go.Sx.Tk Go.Sx.Rn Go.Proofs.YtkeeboomikkojaaGreatDoor.Sx

def sgZ (pl : Bool) (s : Sg) : Sg := ⟨s.nm, if pl then s.at_ else 0, s.ps, stsZ pl s.body⟩
def sgsZ (pl : Bool) (p : List Sg) : List Sg := p.map (sgZ pl)
theorem sgZ_iff {pl : Bool} {x y : Sg} : sgZ pl x = sgZ pl y ↔ x.nm = y.nm ∧ (pl = true → x.at_ = y.at_) ∧ x.ps = y.ps ∧ stsZ pl x.body = stsZ pl y.body := by
  cases x; cases y
  simp only [sgZ, Sg.mk.injEq]
  constructor
  · rintro ⟨h1, h2, h3, h4⟩
    exact ⟨h1, fun hp => by rw [hp] at h2; exact h2, h3, h4⟩
  · rintro ⟨h1, h2, h3, h4⟩
    refine ⟨h1, ?_, h3, h4⟩
    cases pl with
    | false => rfl
    | true => exact h2 rfl
section
variable {ω : Amb}
end
end Go.Proofs.YtkeeboomikkojaaGreatDoor

namespace Go.Proofs.YtkeeboomikkojaaGreatDoor
open Go Go.Sx Go.Sx.Tk Go.Sx.Rn Go.Proofs.YtkeeboomikkojaaGreatDoor.Sx

/-- the text that Print answers -/
def prS (p : List Sg) : ByteArray := if (rendF p).1 = 0 then bs (pgT p) else ⟨#[]⟩
theorem printV_eq (p : List Sg) : printV p = .tuple #[.string (prS p), .agg (flt (rendF p).1 (rendF p).2).toArray] := by
  unfold printV prS
  by_cases h0 : (rendF p).1 = 0
  · rw [if_pos h0, if_pos h0, (rendF_0 h0).2.2]
  · rw [if_neg h0, if_neg h0]
section
variable {ω : Amb}
end
end Go.Proofs.YtkeeboomikkojaaGreatDoor

namespace Go.Proofs.YtkeeboomikkojaaGreatDoor
open Go Go.Sx Go.Sx.Tk Go.Sx.Rn Go.Proofs.YtkeeboomikkojaaGreatDoor.Sx

section
variable {ω : Amb}
/-! ### expressions -/
def ExE (h : Hp) (x : Ex) (C : List Value) : Prop := ∃ w, C = exC x w ∧ ExS h w x.l
theorem ExE.keep {h h' : Hp} {x : Ex} {C : List Value} (he : ExE h x C) (k : Keep (fun _ => False) h h') : ExE h' x C := by
  obtain ⟨w, h1, h2⟩ := he
  exact ⟨w, h1, h2.keep k⟩
end
end Go.Proofs.YtkeeboomikkojaaGreatDoor

namespace Go.Proofs.YtkeeboomikkojaaGreatDoor
open Go Go.Sx Go.Sx.Tk Go.Sx.Rn Go.Proofs.YtkeeboomikkojaaGreatDoor.Sx

def StE (h : Hp) (x : St) (C : List Value) : Prop := ∃ ve vb vl, C = stC x ve vb vl ∧ ExS h ve x.e ∧ StS h vb x.body ∧ StS h vl x.els
theorem StE.keep {h h' : Hp} {x : St} {C : List Value} (he : StE h x C) (k : Keep (fun _ => False) h h') : StE h' x C := by
  obtain ⟨ve, vb, vl, h1, h2, h3, h4⟩ := he
  exact ⟨ve, vb, vl, h1, h2.keep k, h3.keep k, h4.keep k⟩
section
variable {ω : Amb}
end
end Go.Proofs.YtkeeboomikkojaaGreatDoor

namespace Go.Proofs.YtkeeboomikkojaaGreatDoor
open Go Go.Sx Go.Sx.Tk Go.Sx.Rn Go.Proofs.YtkeeboomikkojaaGreatDoor.Sx

def SgE (h : Hp) (x : Sg) (C : List Value) : Prop := ∃ vp vb, C = sgC x vp vb ∧ PsS h vp x.ps ∧ StS h vb x.body
theorem SgE.keep {h h' : Hp} {x : Sg} {C : List Value} (he : SgE h x C) (k : Keep (fun _ => False) h h') : SgE h' x C := by
  obtain ⟨vp, vb, h1, h2, h3⟩ := he
  exact ⟨vp, vb, h1, h2.keep k, h3.keep k⟩
theorem SgS.max {h : Hp} {v : Value} {l : List Sg} (hs : SgS h v l) : l.length ≤ 9223372036854775807 := by
  obtain ⟨us, h1, _⟩ := hs
  exact h1.2
section
variable {ω : Amb}
end
end Go.Proofs.YtkeeboomikkojaaGreatDoor
