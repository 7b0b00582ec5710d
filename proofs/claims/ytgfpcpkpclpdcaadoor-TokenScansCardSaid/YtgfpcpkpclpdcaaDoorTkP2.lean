/- Tokens of two texts with a newline between: in plain. -/
import Derived.Test.YtgfpcpkpclpdcaaDoorTkP
namespace Go.Sx.Tk
variable {eT eN eM : Int}

theorem blanks_app (B : List UInt8) : ∀ (l : List UInt8) (r : Bool), (blanks r l < l.length → blanks r (l ++ 10 :: B) = blanks r l) ∧ (blanks r l = l.length → blanks r (l ++ 10 :: B) = l.length + 1 + blanks false B)
  | [], r => by
    refine ⟨fun h => by simp at h, fun _ => ?_⟩
    rw [List.nil_append, blanks, if_pos (by decide)]
    simp
    omega
  | c :: l, r => by
    have h1 := blanks_app B l false
    have h2 := blanks_app B l r
    have h3 := blanks_app B l true
    rw [List.cons_append]
    simp only [blanks, List.length_cons]
    split
    · refine ⟨fun h => ?_, fun h => ?_⟩
      · rw [h1.1 (by omega)]
      · rw [h1.2 (by omega)]; omega
    · split
      · refine ⟨fun h => ?_, fun h => ?_⟩
        · rw [h2.1 (by omega)]
        · rw [h2.2 (by omega)]; omega
      · split
        · refine ⟨fun h => ?_, fun h => ?_⟩
          · rw [h3.1 (by omega)]
          · rw [h3.2 (by omega)]; omega
        · exact ⟨fun _ => rfl, fun h => by omega⟩
theorem run_app (B : List UInt8) : ∀ l : List UInt8, run (l ++ 10 :: B) = run l
  | [] => by
    rw [List.nil_append, run_cons, if_neg (by decide)]
    rfl
  | c :: l => by
    rw [List.cons_append, run_cons, run_cons, run_app B l]
theorem oneL_app (B : List UInt8) (c : UInt8) (r : List UInt8) : oneL eT eN eM ((c :: r) ++ 10 :: B) = oneL eT eN eM (c :: r) := by
  have h1 := run_app B (c :: r)
  have h2 : ((c :: r) ++ 10 :: B).take (run (c :: r)) = (c :: r).take (run (c :: r)) := List.take_append_of_le_length (run_le _)
  unfold oneL
  rw [h1, h2]
  cases r with
  | nil => rfl
  | cons d r => rfl

theorem Scans.join {B l : List UInt8} {at_ : Int} {ra : Res} (h : Scans eT eN eM l at_ ra) : ∀ ts, ra = .ok ts → ∀ res, Scans eT eN eM B (at_ + l.length + 1) res → Scans eT eN eM (l ++ 10 :: B) at_ (prep ts res) := by
  induction h with
  | @stop l at_ h1 =>
    intro ts e res hb
    cases e
    rw [prep_nil]
    have hl : blanks false l = l.length := by
      have h2 := blanks_le false l
      have h3 := congrArg List.length h1
      rw [List.length_drop, List.length_nil] at h3
      omega
    have he : at_ + ((l.length + 1 : Nat) : Int) = at_ + l.length + 1 := by omega
    refine Scans.skip (l' := B) (k := l.length + 1) (by rw [(blanks_app B l false).2 hl]) (fun j => ?_) (by rw [he]; exact hb)
    rw [List.drop_append, List.drop_eq_nil_of_le (by omega), List.nil_append, show l.length + 1 + j - l.length = j + 1 by omega, List.drop_succ_cons]
  | bad h1 e1 =>
    intro ts e
    cases e
  | @tok l r at_ c kind len n ts h1 e1 k1 ih =>
    intro ts' e res hb
    cases e
    have hlt : blanks false l < l.length := by
      have h3 := congrArg List.length h1
      rw [List.length_drop, List.length_cons] at h3
      omega
    have hbl := (blanks_app B l false).1 hlt
    have hd : (l ++ 10 :: B).drop (blanks false l) = (c :: r) ++ 10 :: B := by rw [List.drop_append_of_le_length (by omega), h1]
    have hlen := oneL_len e1
    have hll : l.length = blanks false l + (c :: r).length := by
      have h3 := congrArg List.length h1
      rw [List.length_drop] at h3
      omega
    have := ih ts rfl res (by
      have he : at_ + (blanks false l : Nat) + (len : Nat) + ((c :: r).drop len).length + 1 = at_ + l.length + 1 := by rw [List.length_drop]; omega
      rw [he]
      exact hb)
    rw [← List.drop_append_of_le_length hlen.2] at this
    have htk : (c :: r).take len = ((c :: r) ++ 10 :: B).take len := (List.take_append_of_le_length hlen.2).symm
    rw [htk]
    cases res with
    | ok us =>
      have k := Scans.tok (at_ := at_) (l := l ++ 10 :: B) (by rw [hbl]; exact hd) ((oneL_app B c r).trans e1) (by rw [hbl]; exact this)
      rw [hbl] at k
      exact k
    | error x => exact Scans.fail (at_ := at_) (l := l ++ 10 :: B) (by rw [hbl]; exact hd) ((oneL_app B c r).trans e1) (by rw [hbl]; exact this)
  | fail h1 e1 k1 ih =>
    intro ts e
    cases e
theorem Scans.joinE {B l : List UInt8} {at_ : Int} {ra : Res} (h : Scans eT eN eM l at_ ra) : ∀ x, ra = .error x → Scans eT eN eM (l ++ 10 :: B) at_ (.error x) := by
  induction h with
  | stop h1 =>
    intro x e
    cases e
  | @bad l r at_ c e0 h1 e1 =>
    intro x e
    cases e
    have hlt : blanks false l < l.length := by
      have h3 := congrArg List.length h1
      rw [List.length_drop, List.length_cons] at h3
      omega
    have hbl := (blanks_app B l false).1 hlt
    have hd : (l ++ 10 :: B).drop (blanks false l) = (c :: r) ++ 10 :: B := by rw [List.drop_append_of_le_length (by omega), h1]
    have k := Scans.bad (at_ := at_) (l := l ++ 10 :: B) (by rw [hbl]; exact hd) ((oneL_app B c r).trans e1)
    rw [hbl] at k
    exact k
  | tok h1 e1 k1 ih =>
    intro x e
    cases e
  | @fail l r at_ c kind len n x0 h1 e1 k1 ih =>
    intro x e
    cases e
    have hlt : blanks false l < l.length := by
      have h3 := congrArg List.length h1
      rw [List.length_drop, List.length_cons] at h3
      omega
    have hbl := (blanks_app B l false).1 hlt
    have hd : (l ++ 10 :: B).drop (blanks false l) = (c :: r) ++ 10 :: B := by rw [List.drop_append_of_le_length (by omega), h1]
    have hlen := oneL_len e1
    have := ih _ rfl
    rw [← List.drop_append_of_le_length hlen.2] at this
    exact Scans.fail (at_ := at_) (l := l ++ 10 :: B) (by rw [hbl]; exact hd) ((oneL_app B c r).trans e1) (by rw [hbl]; exact this)

def shiftT (d : Int) (t : Tok) : Tok := { t with at_ := t.at_ + d }
def shiftR (d : Int) : Res → Res
  | .ok ts => .ok (ts.map (shiftT d))
  | .error x => .error (x.1, x.2 + d)
theorem Scans.shift {l : List UInt8} {at_ : Int} {res : Res} (d : Int) (h : Scans eT eN eM l at_ res) : Scans eT eN eM l (at_ + d) (shiftR d res) := by
  induction h with
  | stop h1 => exact .stop h1
  | @bad l r at_ c e0 h1 e1 =>
    have k := Scans.bad (at_ := at_ + d) h1 e1
    have he : at_ + d + (blanks false l : Nat) = at_ + (blanks false l : Nat) + d := by omega
    rw [he] at k
    exact k
  | @tok l r at_ c kind len n ts h1 e1 k1 ih =>
    have he : at_ + d + (blanks false l : Nat) = at_ + (blanks false l : Nat) + d := by omega
    have he2 : at_ + (blanks false l : Nat) + (len : Nat) + d = at_ + d + (blanks false l : Nat) + (len : Nat) := by omega
    rw [he2] at ih
    have k := Scans.tok (at_ := at_ + d) h1 e1 ih
    rw [he] at k
    exact k
  | @fail l r at_ c kind len n x h1 e1 k1 ih =>
    have he2 : at_ + (blanks false l : Nat) + (len : Nat) + d = at_ + d + (blanks false l : Nat) + (len : Nat) := by omega
    rw [he2] at ih
    exact Scans.fail (at_ := at_ + d) h1 e1 ih
end Go.Sx.Tk
