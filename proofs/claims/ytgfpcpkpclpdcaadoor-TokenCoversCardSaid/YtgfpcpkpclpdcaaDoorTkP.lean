/- Tokens: in plain. -/
import Derived.Test.YtgfpcpkpclpdcaaDoorSxMore
namespace Go.Sx.Tk

def lo (c : UInt8) : Bool := decide (97 ≤ c.toNat) && decide (c.toNat ≤ 122)
def dg (c : UInt8) : Bool := decide (48 ≤ c.toNat) && decide (c.toNat ≤ 57)
def ld (c : UInt8) : Bool := lo c || dg c
def run (l : List UInt8) : Nat := (l.takeWhile ld).length
def blanks : Bool → List UInt8 → Nat
  | _, [] => 0
  | r, c :: l => if c.toNat = 10 then blanks false l + 1 else if r = true ∨ c.toNat = 32 ∨ c.toNat = 9 ∨ c.toNat = 13 then blanks r l + 1 else if c.toNat = 35 then blanks true l + 1 else 0
def words : List (List UInt8) :=
  [[97, 98, 97, 110, 100, 111, 110], [99, 104, 97, 110], [99, 108, 111, 110, 101], [99, 108, 111, 115, 101], [100, 114, 97, 105, 110], [101, 108, 115, 101], [101, 109, 105, 116], [102, 111, 114], [102, 114, 111, 109], [105, 102], [105, 110, 116], [108, 101, 116], [114, 101, 99, 118], [114, 101, 112, 101, 97, 116], [115, 101, 110, 100], [115, 101, 116], [115, 112, 97, 119, 110], [115, 116, 97, 103, 101], [116, 97, 107, 101]]
def isWord (l : List UInt8) : Bool := decide (l ∈ words)
def valD (l : List UInt8) : Int := l.foldl (fun n c => 10 * n + ((c.toNat : Int) - 48)) 0
def numL (l : List UInt8) : Option Int := if 18 < l.length ∨ (1 < l.length ∧ (l.getD 0 0).toNat = 48) ∨ l.all dg = false then none else some (valD l)

inductive One
  | bad (code : Int)
  | tok (kind : Int) (len : Nat) (n : Int)
def isSign (c : UInt8) : Bool := decide (c.toNat = 40) || (decide (c.toNat = 41) || (decide (c.toNat = 123) || (decide (c.toNat = 125) || (decide (c.toNat = 44) || (decide (c.toNat = 59) || (decide (c.toNat = 43) || (decide (c.toNat = 45) || (decide (c.toNat = 42) || decide (c.toNat = 60)))))))))
/-- a token at the head of a text; codes: text, number, name -/
def oneL (eT eN eM : Int) (l : List UInt8) : One :=
  match l with
  | [] => .bad eT
  | c :: r =>
    if lo c = true then (if isWord (l.take (run l)) = true then .tok 1 (run l) 0 else if 12 < run l then .bad eM else .tok 2 (run l) 0)
    else if dg c = true then (match numL (l.take (run l)) with | none => .bad eN | some n => .tok 3 (run l) n)
    else if c.toNat = 61 then (match r with | d :: _ => if d.toNat = 61 then .tok 4 2 0 else .tok 4 1 0 | [] => .tok 4 1 0)
    else if isSign c = true then .tok 4 1 0 else .bad eT

structure Tok where
  kind : Int
  at_ : Int
  text : ByteArray
  n : Int
def Tok.f (t : Tok) : List Value := [.int .i64 t.kind, .int .i64 t.at_, .string t.text, .int .i64 t.n]
theorem Tok.len (t : Tok) : t.f.length = 4 := rfl
theorem Tok.one (t : Tok) : ∀ u ∈ t.f, one u := by
  intro u hu
  simp only [Tok.f, List.mem_cons, List.not_mem_nil, or_false] at hu
  rcases hu with rfl | rfl | rfl | rfl <;> rfl
def Tok.zero : Tok := ⟨0, 0, ⟨#[]⟩, 0⟩

abbrev Res := Except (Int × Int) (List Tok)
section
variable (eT eN eM : Int)
inductive Scans : List UInt8 → Int → Res → Prop
  | stop {l : List UInt8} {at_ : Int} : l.drop (blanks false l) = [] → Scans l at_ (.ok [])
  | bad {l r : List UInt8} {at_ : Int} {c : UInt8} {e : Int} : l.drop (blanks false l) = c :: r → oneL eT eN eM (c :: r) = .bad e → Scans l at_ (.error (e, at_ + blanks false l))
  | tok {l r : List UInt8} {at_ : Int} {c : UInt8} {kind : Int} {len : Nat} {n : Int} {ts : List Tok} : l.drop (blanks false l) = c :: r → oneL eT eN eM (c :: r) = .tok kind len n →
      Scans ((c :: r).drop len) (at_ + blanks false l + len) (.ok ts) → Scans l at_ (.ok (⟨kind, at_ + blanks false l, ⟨((c :: r).take len).toArray⟩, n⟩ :: ts))
  | fail {l r : List UInt8} {at_ : Int} {c : UInt8} {kind : Int} {len : Nat} {n : Int} {x : Int × Int} : l.drop (blanks false l) = c :: r → oneL eT eN eM (c :: r) = .tok kind len n →
      Scans ((c :: r).drop len) (at_ + blanks false l + len) (.error x) → Scans l at_ (.error x)
end
variable {eT eN eM : Int}
theorem Scans.same {l : List UInt8} {at_ : Int} {a b : Res} (h : Scans eT eN eM l at_ a) (k : Scans eT eN eM l at_ b) : a = b := by
  induction h generalizing b with
  | stop h1 =>
    cases k with
    | stop _ => rfl
    | bad h2 _ => rw [h1] at h2; cases h2
    | tok h2 _ _ => rw [h1] at h2; cases h2
    | fail h2 _ _ => rw [h1] at h2; cases h2
  | bad h1 e1 =>
    cases k with
    | stop h2 => rw [h1] at h2; cases h2
    | bad h2 e2 =>
      rw [h1] at h2
      cases h2
      rw [e1] at e2
      cases e2
      rfl
    | tok h2 e2 _ =>
      rw [h1] at h2
      cases h2
      rw [e1] at e2
      cases e2
    | fail h2 e2 _ =>
      rw [h1] at h2
      cases h2
      rw [e1] at e2
      cases e2
  | tok h1 e1 _ ih =>
    cases k with
    | stop h2 => rw [h1] at h2; cases h2
    | bad h2 e2 =>
      rw [h1] at h2
      cases h2
      rw [e1] at e2
      cases e2
    | tok h2 e2 k2 =>
      rw [h1] at h2
      cases h2
      rw [e1] at e2
      cases e2
      cases ih k2
      rfl
    | fail h2 e2 k2 =>
      rw [h1] at h2
      cases h2
      rw [e1] at e2
      cases e2
      cases ih k2
  | fail h1 e1 _ ih =>
    cases k with
    | stop h2 => rw [h1] at h2; cases h2
    | bad h2 e2 =>
      rw [h1] at h2
      cases h2
      rw [e1] at e2
      cases e2
    | tok h2 e2 k2 =>
      rw [h1] at h2
      cases h2
      rw [e1] at e2
      cases e2
      cases ih k2
    | fail h2 e2 k2 =>
      rw [h1] at h2
      cases h2
      rw [e1] at e2
      cases e2
      exact ih k2

theorem blanks_le : ∀ (r : Bool) (l : List UInt8), blanks r l ≤ l.length
  | _, [] => Nat.le_refl _
  | r, c :: l => by
    have h1 := blanks_le false l
    have h2 := blanks_le r l
    have h3 := blanks_le true l
    unfold blanks
    simp only [List.length_cons]
    split
    · omega
    · split
      · omega
      · split <;> omega
theorem run_le (l : List UInt8) : run l ≤ l.length := by
  unfold run
  have := congrArg List.length (List.takeWhile_append_dropWhile (p := ld) (l := l))
  rw [List.length_append] at this
  omega
theorem run_cons {c : UInt8} {l : List UInt8} : run (c :: l) = if ld c = true then run l + 1 else 0 := by
  unfold run
  rw [List.takeWhile_cons]
  split <;> simp
theorem run_take : ∀ (l : List UInt8), (l.take (run l)).all ld = true
  | [] => rfl
  | c :: l => by
    rw [run_cons]
    split
    · rename_i h
      rw [List.take_succ_cons, List.all_cons, h, run_take l]
      rfl
    · rfl
theorem oneL_len {l : List UInt8} {kind : Int} {len : Nat} {n : Int} (h : oneL eT eN eM l = .tok kind len n) : 0 < len ∧ len ≤ l.length := by
  unfold oneL at h
  have hrl := run_le l
  cases l with
  | nil => cases h
  | cons c r =>
    simp only at h
    have hr : ld c = true → 0 < run (c :: r) := fun hc => by rw [run_cons, if_pos hc]; omega
    split at h
    · rename_i hc
      have := hr (by simp [ld, hc])
      split at h
      · cases h; exact ⟨this, hrl⟩
      · split at h
        · cases h
        · cases h; exact ⟨this, hrl⟩
    · split at h
      · rename_i hc
        have := hr (by simp [ld, hc])
        split at h
        · cases h
        · cases h; exact ⟨this, hrl⟩
      · split at h
        · split at h
          · split at h <;> cases h <;> simp
          · cases h; simp
        · split at h
          · cases h; simp
          · cases h

/-- what comes ahead of what is still to be scanned -/
def prep (acc : List Tok) : Res → Res
  | .ok ts => .ok (acc ++ ts)
  | .error x => .error x
theorem prep_nil (r : Res) : prep [] r = r := by cases r <;> rfl
theorem prep_app (a b : List Tok) (r : Res) : prep a (prep b r) = prep (a ++ b) r := by cases r <;> simp [prep]

/-- behind a blank, or a remark's sign and what is behind it -/
theorem Scans.skip {l l' : List UInt8} {at_ : Int} {k : Nat} {res : Res} (hk : blanks false l = k + blanks false l') (hd : ∀ j, l.drop (k + j) = l'.drop j) (h : Scans eT eN eM l' (at_ + k) res) : Scans eT eN eM l at_ res := by
  have hd' : l.drop (blanks false l) = l'.drop (blanks false l') := by rw [hk, hd]
  have he : at_ + (blanks false l : Nat) = at_ + k + (blanks false l' : Nat) := by rw [hk]; push_cast; omega
  cases h with
  | stop h1 => exact .stop (by rw [hd']; exact h1)
  | bad h1 e1 => rw [← he]; exact .bad (by rw [hd']; exact h1) e1
  | tok h1 e1 k1 =>
    rw [← he] at k1 ⊢
    exact .tok (by rw [hd']; exact h1) e1 k1
  | fail h1 e1 k1 =>
    rw [← he] at k1
    exact .fail (by rw [hd']; exact h1) e1 k1
end Go.Sx.Tk
