/- ChansOnce: the plain law. -/
import Derived.Test.YtipgilfbhceknaaDn2
namespace Go.Proofs.Ytipgilfbhceknaa
open Go Go.Sx Go.Proofs.Ytipgilfbhceknaa.Sx

def endsOf : List It → List Nat
  | [] => []
  | z :: zs => if z.e < 0 then endsOf zs else z.e.toNat :: endsOf zs
theorem endsOf_app : ∀ a b : List It, endsOf (a ++ b) = endsOf a ++ endsOf b
  | [], _ => rfl
  | z :: a, b => by
    simp only [List.cons_append, endsOf]
    split
    · exact endsOf_app a b
    · rw [endsOf_app a b, List.cons_append]
def ring (ys : List C4) : List Nat := ys.flatMap fun y => endsOf y.items
/-- what is in all rings but one -/
theorem ring_set {ys : List C4} {k : Nat} {y : C4} (hy : ys[k]? = some y) : ∃ R, (ring ys).Perm (endsOf y.items ++ R) ∧ ∀ y', (ring (ys.set k y')).Perm (endsOf y'.items ++ R) := by
  induction ys generalizing k with
  | nil => simp at hy
  | cons a ys ih =>
    cases k with
    | zero =>
      simp at hy
      subst hy
      exact ⟨ring ys, by simp [ring], fun y' => by simp [ring]⟩
    | succ k =>
      simp at hy
      obtain ⟨R, h1, h2⟩ := ih hy
      have e : ∀ (zs : List Nat), (endsOf a.items ++ (zs ++ R)).Perm (zs ++ (endsOf a.items ++ R)) := fun zs => by
        rw [← List.append_assoc, ← List.append_assoc]
        exact List.Perm.append_right _ List.perm_append_comm
      refine ⟨endsOf a.items ++ R, ?_, fun y' => ?_⟩
      · have : ring (a :: ys) = endsOf a.items ++ ring ys := by simp [ring]
        rw [this]
        exact (h1.append_left _).trans (e _)
      · have : ring ((a :: ys).set (k + 1) y') = endsOf a.items ++ ring (ys.set k y') := by simp [ring]
        rw [this]
        exact ((h2 y').append_left _).trans (e _)

structure Inv (xs : List E4) (ys : List C4) (pend : List Nat) : Prop where
  d : ∀ (i : Nat) (x : E4), xs[i]? = some x → x.d = if x.h = -2 then 1 else 0
  nd : (pend ++ ring ys).Nodup
  low : ∀ i ∈ pend ++ ring ys, ∃ x : E4, xs[i]? = some x ∧ x.h = -1
  g : ∀ (i k : Nat) (x : E4) (y : C4), xs[i]? = some x → x.s = false → x.c = k → ys[k]? = some y → (y.gone = true ↔ x.h = -2)
  u : ∀ (i j : Nat) (x x' : E4), xs[i]? = some x → xs[j]? = some x' → x.s = false → x'.s = false → x.c = x'.c → i = j
  e : ∀ (k : Nat) (y : C4), ys[k]? = some y → y.gone = true → y.items = []
theorem Inv.nil : Inv [] [] [] := ⟨by simp, by simp [ring], by simp [ring], by simp, by simp, by simp⟩

section
variable {xs : List E4} {ys : List C4} {pend : List Nat}
/-- an end turns, its channel as it was -/
theorem Inv.setE (v : Inv xs ys pend) {i : Nat} {x x' : E4} (hx : xs[i]? = some x) (hc : x'.c = x.c) (hs : x'.s = x.s) (hi : i ∉ pend ++ ring ys ∨ x'.h = -1) (hd : x'.d = if x'.h = -2 then 1 else 0)
    (hg : x.s = false → (x'.h = -2 ↔ x.h = -2)) : Inv (xs.set i x') ys pend := by
  have back : ∀ (j : Nat) (z : E4), (xs.set i x')[j]? = some z → ∃ z0 : E4, xs[j]? = some z0 ∧ z.c = z0.c ∧ z.s = z0.s := by
    intro j z hz
    rcases set_get hz with ⟨rfl, rfl, _⟩ | ⟨_, hz⟩
    · exact ⟨x, hx, hc, hs⟩
    · exact ⟨z, hz, rfl, rfl⟩
  refine ⟨fun j z hz => ?_, v.nd, fun j hj => ?_, fun j k z y hz h1 hk h2 => ?_, fun a b z z' hz hz' h1 h2 h3 => ?_, v.e⟩
  · rcases set_get hz with ⟨rfl, rfl, _⟩ | ⟨_, hz⟩
    · exact hd
    · exact v.d j z hz
  · by_cases hij : i = j
    · subst hij
      rcases hi with hi | hi
      · exact absurd hj hi
      · exact ⟨x', List.getElem?_set_self (List.getElem?_eq_some_iff.1 hx).1, hi⟩
    · rw [List.getElem?_set_ne hij]
      exact v.low j hj
  · rcases set_get hz with ⟨rfl, rfl, _⟩ | ⟨_, hz⟩
    · rw [hc] at hk
      rw [hs] at h1
      rw [hg h1]
      exact v.g i k x y hx h1 hk h2
    · exact v.g j k z y hz h1 hk h2
  · obtain ⟨w, hw, c1, s1⟩ := back a z hz
    obtain ⟨w', hw', c2, s2⟩ := back b z' hz'
    exact v.u a b w w' hw hw' (by rw [← s1]; exact h1) (by rw [← s2]; exact h2) (by rw [← c1, ← c2]; exact h3)
/-- an end that receives goes: what lay in its channel hangs on -/
theorem Inv.kill (v : Inv xs ys pend) {i k : Nat} {x x' : E4} {y : C4} (hx : xs[i]? = some x) (hy : ys[k]? = some y) (hk : x.c = k) (hc : x'.c = x.c) (hs : x'.s = x.s) (hx0 : x.s = false) (hi : i ∉ pend ++ ring ys) (hh : x'.h = -2) (hd : x'.d = 1) :
    Inv (xs.set i x') (ys.set k { y with gone := true, items := [] }) (endsOf y.items ++ pend) := by
  obtain ⟨R, h1, h2⟩ := ring_set hy
  have h2 := h2 { y with gone := true, items := [] }
  have hp : (endsOf y.items ++ pend ++ ring (ys.set k { y with gone := true, items := [] })).Perm (pend ++ ring ys) := by
    refine ((h2.append_left _).trans ?_).trans (h1.append_left _).symm
    simp only [endsOf, List.nil_append]
    rw [← List.append_assoc]
    exact List.Perm.append_right _ List.perm_append_comm
  refine ⟨fun j z hz => ?_, hp.symm.nodup v.nd, fun j hj => ?_, fun j q z w hz h1 hq h2 => ?_, fun a b z z' hz hz' h1 h2 h3 => ?_, fun j w hw hg => ?_⟩
  · rcases set_get hz with ⟨rfl, rfl, _⟩ | ⟨_, hz⟩
    · rw [hd, if_pos hh]
    · exact v.d j z hz
  · have hj' := hp.subset hj
    by_cases hij : i = j
    · subst hij
      exact absurd hj' hi
    · rw [List.getElem?_set_ne hij]
      exact v.low j hj'
  · rcases set_get hz with ⟨rfl, rfl, _⟩ | ⟨hne, hz⟩
    · rcases set_get h2 with ⟨_, rfl, _⟩ | ⟨hn, _⟩
      · exact ⟨fun _ => hh, fun _ => rfl⟩
      · exact absurd (by rw [hc, hk] at hq; omega) hn
    · rcases set_get h2 with ⟨hkc, rfl, _⟩ | ⟨_, h2⟩
      · -- another that receives from the same channel: there is none
        exact absurd (v.u i j x z hx hz hx0 h1 (by rw [hk, hq, hkc])) hne
      · exact v.g j q z w hz h1 hq h2
  · have back : ∀ (j : Nat) (z : E4), (xs.set i x')[j]? = some z → ∃ z0 : E4, xs[j]? = some z0 ∧ z.c = z0.c ∧ z.s = z0.s := by
      intro j z hz
      rcases set_get hz with ⟨rfl, rfl, _⟩ | ⟨_, hz⟩
      · exact ⟨x, hx, hc, hs⟩
      · exact ⟨z, hz, rfl, rfl⟩
    obtain ⟨w, hw, c1, s1⟩ := back a z hz
    obtain ⟨w', hw', c2, s2⟩ := back b z' hz'
    exact v.u a b w w' hw hw' (by rw [← s1]; exact h1) (by rw [← s2]; exact h2) (by rw [← c1, ← c2]; exact h3)
  · rcases set_get hw with ⟨rfl, rfl, _⟩ | ⟨_, hw⟩
    · rfl
    · exact v.e j w hw hg
end
end Go.Proofs.Ytipgilfbhceknaa
