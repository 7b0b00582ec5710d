/- Tokens: in plain. -/
import Derived.Test.YtkeeboomikkojaaGreatDoorSxMore
import Derived.Test.YtkeeboomikkojaaGreatDoorPaP
import Derived.Test.YtkeeboomikkojaaGreatDoorSxStr
namespace Go.Sx.Tk

def lo (c : UInt8) : Bool := decide (97 ≤ c.toNat) && decide (c.toNat ≤ 122)
def dg (c : UInt8) : Bool := decide (48 ≤ c.toNat) && decide (c.toNat ≤ 57)
def ld (c : UInt8) : Bool := lo c || dg c
def run (l : List UInt8) : Nat := (l.takeWhile ld).length
def blanks : Bool → List UInt8 → Nat
  | _, [] => 0
  | r, c :: l => if c.toNat = 10 then blanks false l + 1 else if r = true ∨ c.toNat = 32 ∨ c.toNat = 9 ∨ c.toNat = 13 then blanks r l + 1 else if c.toNat = 35 then blanks true l + 1 else 0
def words : List (List UInt8) :=
  [[97, 98, 97, 110, 100, 111, 110], [99, 104, 97, 110], [99, 108, 111, 110, 101], [99, 108, 111, 115, 101], [100, 114, 97, 105, 110], [101, 108, 115, 101], [101, 109, 105, 116], [102, 111, 114], [102, 114, 111, 109], [105, 102], [105, 110, 116], [108, 101, 116], [114, 101, 99, 118], [114, 101, 112, 101, 97, 116], [115, 101, 110, 100], [115, 101, 116], [115, 112, 97, 119, 110], [115, 116, 97, 103, 101], [116, 97, 107, 101]]
def isWord (l : List UInt8) : Bool := decide (l ∈ words)
def valD (l : List UInt8) : Int := l.foldl (fun n c => 10 * n + ((c.toNat : Int) - 48)) 0
def numL (l : List UInt8) : Option Int := if 18 < l.length ∨ (1 < l.length ∧ (l.getD 0 0).toNat = 48) ∨ l.all dg = false then none else some (valD l)

inductive One
  | bad (code : Int)
  | tok (kind : Int) (len : Nat) (n : Int)
def isSign (c : UInt8) : Bool := decide (c.toNat = 40) || (decide (c.toNat = 41) || (decide (c.toNat = 123) || (decide (c.toNat = 125) || (decide (c.toNat = 44) || (decide (c.toNat = 59) || (decide (c.toNat = 43) || (decide (c.toNat = 45) || (decide (c.toNat = 42) || decide (c.toNat = 60)))))))))
/-- a token at the head of a text; codes: text, number, name -/
def oneL (eT eN eM : Int) (l : List UInt8) : One :=
  match l with
  | [] => .bad eT
  | c :: r =>
    if lo c = true then (if isWord (l.take (run l)) = true then .tok 1 (run l) 0 else if 12 < run l then .bad eM else .tok 2 (run l) 0)
    else if dg c = true then (match numL (l.take (run l)) with | none => .bad eN | some n => .tok 3 (run l) n)
    else if c.toNat = 61 then (match r with | d :: _ => if d.toNat = 61 then .tok 4 2 0 else .tok 4 1 0 | [] => .tok 4 1 0)
    else if isSign c = true then .tok 4 1 0 else .bad eT

structure Tok where
  kind : Int
  at_ : Int
  text : ByteArray
  n : Int
def Tok.f (t : Tok) : List Value := [.int .i64 t.kind, .int .i64 t.at_, .string t.text, .int .i64 t.n]
theorem Tok.len (t : Tok) : t.f.length = 4 := rfl
theorem Tok.one (t : Tok) : ∀ u ∈ t.f, one u := by
  intro u hu
  simp only [Tok.f, List.mem_cons, List.not_mem_nil, or_false] at hu
  rcases hu with rfl | rfl | rfl | rfl <;> rfl
def Tok.zero : Tok := ⟨0, 0, ⟨#[]⟩, 0⟩

abbrev Res := Except (Int × Int) (List Tok)
section
variable (eT eN eM : Int)
inductive Scans : List UInt8 → Int → Res → Prop
  | stop {l : List UInt8} {at_ : Int} : l.drop (blanks false l) = [] → Scans l at_ (.ok [])
  | bad {l r : List UInt8} {at_ : Int} {c : UInt8} {e : Int} : l.drop (blanks false l) = c :: r → oneL eT eN eM (c :: r) = .bad e → Scans l at_ (.error (e, at_ + blanks false l))
  | tok {l r : List UInt8} {at_ : Int} {c : UInt8} {kind : Int} {len : Nat} {n : Int} {ts : List Tok} : l.drop (blanks false l) = c :: r → oneL eT eN eM (c :: r) = .tok kind len n →
      Scans ((c :: r).drop len) (at_ + blanks false l + len) (.ok ts) → Scans l at_ (.ok (⟨kind, at_ + blanks false l, ⟨((c :: r).take len).toArray⟩, n⟩ :: ts))
  | fail {l r : List UInt8} {at_ : Int} {c : UInt8} {kind : Int} {len : Nat} {n : Int} {x : Int × Int} : l.drop (blanks false l) = c :: r → oneL eT eN eM (c :: r) = .tok kind len n →
      Scans ((c :: r).drop len) (at_ + blanks false l + len) (.error x) → Scans l at_ (.error x)
end
variable {eT eN eM : Int}
theorem Scans.same {l : List UInt8} {at_ : Int} {a b : Res} (h : Scans eT eN eM l at_ a) (k : Scans eT eN eM l at_ b) : a = b := by
  induction h generalizing b with
  | stop h1 =>
    cases k with
    | stop _ => rfl
    | bad h2 _ => rw [h1] at h2; cases h2
    | tok h2 _ _ => rw [h1] at h2; cases h2
    | fail h2 _ _ => rw [h1] at h2; cases h2
  | bad h1 e1 =>
    cases k with
    | stop h2 => rw [h1] at h2; cases h2
    | bad h2 e2 =>
      rw [h1] at h2
      cases h2
      rw [e1] at e2
      cases e2
      rfl
    | tok h2 e2 _ =>
      rw [h1] at h2
      cases h2
      rw [e1] at e2
      cases e2
    | fail h2 e2 _ =>
      rw [h1] at h2
      cases h2
      rw [e1] at e2
      cases e2
  | tok h1 e1 _ ih =>
    cases k with
    | stop h2 => rw [h1] at h2; cases h2
    | bad h2 e2 =>
      rw [h1] at h2
      cases h2
      rw [e1] at e2
      cases e2
    | tok h2 e2 k2 =>
      rw [h1] at h2
      cases h2
      rw [e1] at e2
      cases e2
      cases ih k2
      rfl
    | fail h2 e2 k2 =>
      rw [h1] at h2
      cases h2
      rw [e1] at e2
      cases e2
      cases ih k2
  | fail h1 e1 _ ih =>
    cases k with
    | stop h2 => rw [h1] at h2; cases h2
    | bad h2 e2 =>
      rw [h1] at h2
      cases h2
      rw [e1] at e2
      cases e2
    | tok h2 e2 k2 =>
      rw [h1] at h2
      cases h2
      rw [e1] at e2
      cases e2
      cases ih k2
    | fail h2 e2 k2 =>
      rw [h1] at h2
      cases h2
      rw [e1] at e2
      cases e2
      exact ih k2

theorem blanks_le : ∀ (r : Bool) (l : List UInt8), blanks r l ≤ l.length
  | _, [] => Nat.le_refl _
  | r, c :: l => by
    have h1 := blanks_le false l
    have h2 := blanks_le r l
    have h3 := blanks_le true l
    unfold blanks
    simp only [List.length_cons]
    split
    · omega
    · split
      · omega
      · split <;> omega
theorem run_le (l : List UInt8) : run l ≤ l.length := by
  unfold run
  have := congrArg List.length (List.takeWhile_append_dropWhile (p := ld) (l := l))
  rw [List.length_append] at this
  omega
theorem run_cons {c : UInt8} {l : List UInt8} : run (c :: l) = if ld c = true then run l + 1 else 0 := by
  unfold run
  rw [List.takeWhile_cons]
  split <;> simp
theorem oneL_len {l : List UInt8} {kind : Int} {len : Nat} {n : Int} (h : oneL eT eN eM l = .tok kind len n) : 0 < len ∧ len ≤ l.length := by
  unfold oneL at h
  have hrl := run_le l
  cases l with
  | nil => cases h
  | cons c r =>
    simp only at h
    have hr : ld c = true → 0 < run (c :: r) := fun hc => by rw [run_cons, if_pos hc]; omega
    split at h
    · rename_i hc
      have := hr (by simp [ld, hc])
      split at h
      · cases h; exact ⟨this, hrl⟩
      · split at h
        · cases h
        · cases h; exact ⟨this, hrl⟩
    · split at h
      · rename_i hc
        have := hr (by simp [ld, hc])
        split at h
        · cases h
        · cases h; exact ⟨this, hrl⟩
      · split at h
        · split at h
          · split at h <;> cases h <;> simp
          · cases h; simp
        · split at h
          · cases h; simp
          · cases h

/-- what comes ahead of what is still to be scanned -/
def prep (acc : List Tok) : Res → Res
  | .ok ts => .ok (acc ++ ts)
  | .error x => .error x
theorem prep_nil (r : Res) : prep [] r = r := by cases r <;> rfl
theorem prep_app (a b : List Tok) (r : Res) : prep a (prep b r) = prep (a ++ b) r := by cases r <;> simp [prep]

/-- behind a blank, or a remark's sign and what is behind it -/
theorem Scans.skip {l l' : List UInt8} {at_ : Int} {k : Nat} {res : Res} (hk : blanks false l = k + blanks false l') (hd : ∀ j, l.drop (k + j) = l'.drop j) (h : Scans eT eN eM l' (at_ + k) res) : Scans eT eN eM l at_ res := by
  have hd' : l.drop (blanks false l) = l'.drop (blanks false l') := by rw [hk, hd]
  have he : at_ + (blanks false l : Nat) = at_ + k + (blanks false l' : Nat) := by rw [hk]; push_cast; omega
  cases h with
  | stop h1 => exact .stop (by rw [hd']; exact h1)
  | bad h1 e1 => rw [← he]; exact .bad (by rw [hd']; exact h1) e1
  | tok h1 e1 k1 =>
    rw [← he] at k1 ⊢
    exact .tok (by rw [hd']; exact h1) e1 k1
  | fail h1 e1 k1 =>
    rw [← he] at k1
    exact .fail (by rw [hd']; exact h1) e1 k1
end Go.Sx.Tk

namespace Go.Sx.Tk
variable {eT eN eM : Int}

theorem blanks_app (B : List UInt8) : ∀ (l : List UInt8) (r : Bool), (blanks r l < l.length → blanks r (l ++ 10 :: B) = blanks r l) ∧ (blanks r l = l.length → blanks r (l ++ 10 :: B) = l.length + 1 + blanks false B)
  | [], r => by
    refine ⟨fun h => by simp at h, fun _ => ?_⟩
    rw [List.nil_append, blanks, if_pos (by decide)]
    simp
    omega
  | c :: l, r => by
    have h1 := blanks_app B l false
    have h2 := blanks_app B l r
    have h3 := blanks_app B l true
    rw [List.cons_append]
    simp only [blanks, List.length_cons]
    split
    · refine ⟨fun h => ?_, fun h => ?_⟩
      · rw [h1.1 (by omega)]
      · rw [h1.2 (by omega)]; omega
    · split
      · refine ⟨fun h => ?_, fun h => ?_⟩
        · rw [h2.1 (by omega)]
        · rw [h2.2 (by omega)]; omega
      · split
        · refine ⟨fun h => ?_, fun h => ?_⟩
          · rw [h3.1 (by omega)]
          · rw [h3.2 (by omega)]; omega
        · exact ⟨fun _ => rfl, fun h => by omega⟩
theorem run_app (B : List UInt8) : ∀ l : List UInt8, run (l ++ 10 :: B) = run l
  | [] => by
    rw [List.nil_append, run_cons, if_neg (by decide)]
    rfl
  | c :: l => by
    rw [List.cons_append, run_cons, run_cons, run_app B l]
theorem oneL_app (B : List UInt8) (c : UInt8) (r : List UInt8) : oneL eT eN eM ((c :: r) ++ 10 :: B) = oneL eT eN eM (c :: r) := by
  have h1 := run_app B (c :: r)
  have h2 : ((c :: r) ++ 10 :: B).take (run (c :: r)) = (c :: r).take (run (c :: r)) := List.take_append_of_le_length (run_le _)
  unfold oneL
  rw [h1, h2]
  cases r with
  | nil => rfl
  | cons d r => rfl

theorem Scans.join {B l : List UInt8} {at_ : Int} {ra : Res} (h : Scans eT eN eM l at_ ra) : ∀ ts, ra = .ok ts → ∀ res, Scans eT eN eM B (at_ + l.length + 1) res → Scans eT eN eM (l ++ 10 :: B) at_ (prep ts res) := by
  induction h with
  | @stop l at_ h1 =>
    intro ts e res hb
    cases e
    rw [prep_nil]
    have hl : blanks false l = l.length := by
      have h2 := blanks_le false l
      have h3 := congrArg List.length h1
      rw [List.length_drop, List.length_nil] at h3
      omega
    have he : at_ + ((l.length + 1 : Nat) : Int) = at_ + l.length + 1 := by omega
    refine Scans.skip (l' := B) (k := l.length + 1) (by rw [(blanks_app B l false).2 hl]) (fun j => ?_) (by rw [he]; exact hb)
    rw [List.drop_append, List.drop_eq_nil_of_le (by omega), List.nil_append, show l.length + 1 + j - l.length = j + 1 by omega, List.drop_succ_cons]
  | bad h1 e1 =>
    intro ts e
    cases e
  | @tok l r at_ c kind len n ts h1 e1 k1 ih =>
    intro ts' e res hb
    cases e
    have hlt : blanks false l < l.length := by
      have h3 := congrArg List.length h1
      rw [List.length_drop, List.length_cons] at h3
      omega
    have hbl := (blanks_app B l false).1 hlt
    have hd : (l ++ 10 :: B).drop (blanks false l) = (c :: r) ++ 10 :: B := by rw [List.drop_append_of_le_length (by omega), h1]
    have hlen := oneL_len e1
    have hll : l.length = blanks false l + (c :: r).length := by
      have h3 := congrArg List.length h1
      rw [List.length_drop] at h3
      omega
    have := ih ts rfl res (by
      have he : at_ + (blanks false l : Nat) + (len : Nat) + ((c :: r).drop len).length + 1 = at_ + l.length + 1 := by rw [List.length_drop]; omega
      rw [he]
      exact hb)
    rw [← List.drop_append_of_le_length hlen.2] at this
    have htk : (c :: r).take len = ((c :: r) ++ 10 :: B).take len := (List.take_append_of_le_length hlen.2).symm
    rw [htk]
    cases res with
    | ok us =>
      have k := Scans.tok (at_ := at_) (l := l ++ 10 :: B) (by rw [hbl]; exact hd) ((oneL_app B c r).trans e1) (by rw [hbl]; exact this)
      rw [hbl] at k
      exact k
    | error x => exact Scans.fail (at_ := at_) (l := l ++ 10 :: B) (by rw [hbl]; exact hd) ((oneL_app B c r).trans e1) (by rw [hbl]; exact this)
  | fail h1 e1 k1 ih =>
    intro ts e
    cases e
def shiftT (d : Int) (t : Tok) : Tok := { t with at_ := t.at_ + d }
end Go.Sx.Tk

namespace Go.Sx.Rn

inductive Ex where
  | mk (op : Int) (nm : ByteArray) (n : Int) (l : List Ex) : Ex
inductive St where
  | mk (d at_ : Int) (a b t : ByteArray) (n : Int) (e : List Ex) (body els : List St) : St
structure Sg where
  nm : ByteArray
  at_ : Int
  ps : List (ByteArray × ByteArray)
  body : List St
def Ex.op : Ex → Int | .mk o _ _ _ => o
def Ex.nm : Ex → ByteArray | .mk _ s _ _ => s
def Ex.n : Ex → Int | .mk _ _ n _ => n
def Ex.l : Ex → List Ex | .mk _ _ _ l => l
def St.d : St → Int | .mk d _ _ _ _ _ _ _ _ => d
def St.at_ : St → Int | .mk _ x _ _ _ _ _ _ _ => x
def St.a : St → ByteArray | .mk _ _ x _ _ _ _ _ _ => x
def St.b : St → ByteArray | .mk _ _ _ x _ _ _ _ _ => x
def St.t : St → ByteArray | .mk _ _ _ _ x _ _ _ _ => x
def St.n : St → Int | .mk _ _ _ _ _ x _ _ _ => x
def St.e : St → List Ex | .mk _ _ _ _ _ _ x _ _ => x
def St.body : St → List St | .mk _ _ _ _ _ _ _ x _ => x
def St.els : St → List St | .mk _ _ _ _ _ _ _ _ x => x
/-! ### in memory -/
/-- a slice that is read, no longer than a machine can hold -/
def SlB (h : Hp) (sz : Nat) (v : Value) (n : Nat) (us : List Value) : Prop := SlAt h sz v n us ∧ n ≤ 9223372036854775807
theorem SlB.keep {h h' : Hp} {sz n : Nat} {v : Value} {us : List Value} (hs : SlB h sz v n us) (k : Keep (fun _ => False) h h') : SlB h' sz v n us := ⟨hs.1.keep k, hs.2⟩
mutual
def exAt (h : Hp) : Ex → List Value → Prop
  | .mk op nm n l, cs => ∃ v us, cs = [.int .i64 op, .string nm, .int .i64 n, v] ∧ SlB h 4 v l.length us ∧ exsAt h l us
def exsAt (h : Hp) : List Ex → List Value → Prop
  | [], us => us = []
  | x :: r, us => exAt h x (us.take 4) ∧ exsAt h r (us.drop 4)
end
/-- a slice of expressions -/
def ExS (h : Hp) (v : Value) (l : List Ex) : Prop := ∃ us, SlB h 4 v l.length us ∧ exsAt h l us
mutual
def stAt (h : Hp) : St → List Value → Prop
  | .mk d at_ a b t n e body els, cs => ∃ ve vb vl us ws, cs = [.int .i64 d, .int .i64 at_, .string a, .string b, .string t, .int .i64 n, ve, vb, vl] ∧ ExS h ve e ∧ SlB h 9 vb body.length us ∧ stsAt h body us ∧ SlB h 9 vl els.length ws ∧ stsAt h els ws
def stsAt (h : Hp) : List St → List Value → Prop
  | [], us => us = []
  | x :: r, us => stAt h x (us.take 9) ∧ stsAt h r (us.drop 9)
end
def StS (h : Hp) (v : Value) (l : List St) : Prop := ∃ us, SlB h 9 v l.length us ∧ stsAt h l us
/-- parameters: two texts each -/
def pf (p : ByteArray × ByteArray) : List Value := [.string p.1, .string p.2]
theorem pf_len (p : ByteArray × ByteArray) : (pf p).length = 2 := rfl
theorem pf_one (p : ByteArray × ByteArray) : ∀ u ∈ pf p, one u := by
  intro u hu
  simp only [pf, List.mem_cons, List.not_mem_nil, or_false] at hu
  rcases hu with rfl | rfl <;> rfl
def nilOr (v : Value) : Prop := v = .slice none 0 0 ∨ ∃ a l c, v = .slice (some a) l c
def PsS (h : Hp) (v : Value) (l : List (ByteArray × ByteArray)) : Prop := SlAt h 2 v l.length (l.flatMap pf) ∧ nilOr v
theorem PsS.keep {h h' : Hp} {v : Value} {l : List (ByteArray × ByteArray)} (hs : PsS h v l) (k : Keep (fun _ => False) h h') : PsS h' v l := ⟨hs.1.keep k, hs.2⟩
def isSl (v : Value) : Prop := ∃ a l c, v = .slice a l c
theorem SlAt.isSl {h : Hp} {sz n : Nat} {v : Value} {us : List Value} (hs : SlAt h sz v n us) : isSl v := by
  rcases hs.2 with ⟨_, a, c, rfl⟩ | ⟨b, o, c, rfl, _⟩
  · exact ⟨_, _, _, rfl⟩
  · exact ⟨_, _, _, rfl⟩
theorem isSl.one {v : Value} (h : isSl v) : one v := by obtain ⟨a, l, c, rfl⟩ := h; rfl
def sgAt (h : Hp) (s : Sg) (cs : List Value) : Prop := ∃ vp vb, cs = [.string s.nm, .int .i64 s.at_, vp, vb] ∧ PsS h vp s.ps ∧ StS h vb s.body
def sgsAt (h : Hp) : List Sg → List Value → Prop
  | [], us => us = []
  | x :: r, us => sgAt h x (us.take 4) ∧ sgsAt h r (us.drop 4)
def SgS (h : Hp) (v : Value) (l : List Sg) : Prop := ∃ us, SlB h 4 v l.length us ∧ sgsAt h l us

theorem exAt_iff {h : Hp} {x : Ex} {cs : List Value} : exAt h x cs ↔ ∃ v, cs = [.int .i64 x.op, .string x.nm, .int .i64 x.n, v] ∧ ExS h v x.l := by
  cases x
  simp only [exAt, ExS, Ex.op, Ex.nm, Ex.n, Ex.l]
  constructor
  · rintro ⟨v, us, h1, h2, h3⟩
    exact ⟨v, h1, us, h2, h3⟩
  · rintro ⟨v, h1, us, h2, h3⟩
    exact ⟨v, us, h1, h2, h3⟩
theorem stAt_iff {h : Hp} {x : St} {cs : List Value} : stAt h x cs ↔ ∃ ve vb vl, cs = [.int .i64 x.d, .int .i64 x.at_, .string x.a, .string x.b, .string x.t, .int .i64 x.n, ve, vb, vl] ∧ ExS h ve x.e ∧ StS h vb x.body ∧ StS h vl x.els := by
  cases x
  simp only [stAt, StS, St.d, St.at_, St.a, St.b, St.t, St.n, St.e, St.body, St.els]
  constructor
  · rintro ⟨ve, vb, vl, us, ws, h1, h2, h3, h4, h5, h6⟩
    exact ⟨ve, vb, vl, h1, h2, ⟨us, h3, h4⟩, ws, h5, h6⟩
  · rintro ⟨ve, vb, vl, h1, h2, ⟨us, h3, h4⟩, ws, h5, h6⟩
    exact ⟨ve, vb, vl, us, ws, h1, h2, h3, h4, h5, h6⟩
theorem exsAt_get {h : Hp} : ∀ {l : List Ex} {us : List Value}, exsAt h l us → ∀ {i : Nat} {x : Ex}, l[i]? = some x → exAt h x ((us.drop (i * 4)).take 4)
  | [], _, _, _, _, hx => by simp at hx
  | y :: r, us, hs, 0, x, hx => by
    simp at hx
    subst hx
    unfold exsAt at hs
    simpa using hs.1
  | y :: r, us, hs, i + 1, x, hx => by
    unfold exsAt at hs
    have := exsAt_get hs.2 (i := i) (x := x) (by simpa using hx)
    rw [List.drop_drop] at this
    rw [show (i + 1) * 4 = 4 + i * 4 by omega]
    exact this
theorem stsAt_get {h : Hp} : ∀ {l : List St} {us : List Value}, stsAt h l us → ∀ {i : Nat} {x : St}, l[i]? = some x → stAt h x ((us.drop (i * 9)).take 9)
  | [], _, _, _, _, hx => by simp at hx
  | y :: r, us, hs, 0, x, hx => by
    simp at hx
    subst hx
    unfold stsAt at hs
    simpa using hs.1
  | y :: r, us, hs, i + 1, x, hx => by
    unfold stsAt at hs
    have := stsAt_get hs.2 (i := i) (x := x) (by simpa using hx)
    rw [List.drop_drop] at this
    rw [show (i + 1) * 9 = 9 + i * 9 by omega]
    exact this
theorem sgsAt_get {h : Hp} : ∀ {l : List Sg} {us : List Value}, sgsAt h l us → ∀ {i : Nat} {x : Sg}, l[i]? = some x → sgAt h x ((us.drop (i * 4)).take 4)
  | [], _, _, _, _, hx => by simp at hx
  | y :: r, us, hs, 0, x, hx => by
    simp at hx
    subst hx
    unfold sgsAt at hs
    simpa using hs.1
  | y :: r, us, hs, i + 1, x, hx => by
    unfold sgsAt at hs
    have := sgsAt_get hs.2 (i := i) (x := x) (by simpa using hx)
    rw [List.drop_drop] at this
    rw [show (i + 1) * 4 = 4 + i * 4 by omega]
    exact this
/-! ### what stays -/
mutual
theorem exAt_keep {h h' : Hp} (k : Keep (fun _ => False) h h') : ∀ (x : Ex) {cs : List Value}, exAt h x cs → exAt h' x cs
  | .mk op nm n l, cs, hx => by
    unfold exAt at hx ⊢
    obtain ⟨v, us, h1, h2, h3⟩ := hx
    exact ⟨v, us, h1, h2.keep k, exsAt_keep k l h3⟩
theorem exsAt_keep {h h' : Hp} (k : Keep (fun _ => False) h h') : ∀ (l : List Ex) {us : List Value}, exsAt h l us → exsAt h' l us
  | [], us, hs => by
    unfold exsAt at hs ⊢
    exact hs
  | x :: r, us, hs => by
    unfold exsAt at hs ⊢
    exact ⟨exAt_keep k x hs.1, exsAt_keep k r hs.2⟩
end
theorem ExS.keep {h h' : Hp} {v : Value} {l : List Ex} (hs : ExS h v l) (k : Keep (fun _ => False) h h') : ExS h' v l := by
  obtain ⟨us, h1, h2⟩ := hs
  exact ⟨us, h1.keep k, exsAt_keep k l h2⟩
mutual
theorem stAt_keep {h h' : Hp} (k : Keep (fun _ => False) h h') : ∀ (x : St) {cs : List Value}, stAt h x cs → stAt h' x cs
  | .mk d at_ a b t n e body els, cs, hx => by
    unfold stAt at hx ⊢
    obtain ⟨ve, vb, vl, us, ws, h1, h2, h3, h4, h5, h6⟩ := hx
    exact ⟨ve, vb, vl, us, ws, h1, h2.keep k, h3.keep k, stsAt_keep k body h4, h5.keep k, stsAt_keep k els h6⟩
theorem stsAt_keep {h h' : Hp} (k : Keep (fun _ => False) h h') : ∀ (l : List St) {us : List Value}, stsAt h l us → stsAt h' l us
  | [], us, hs => by
    unfold stsAt at hs ⊢
    exact hs
  | x :: r, us, hs => by
    unfold stsAt at hs ⊢
    exact ⟨stAt_keep k x hs.1, stsAt_keep k r hs.2⟩
end
theorem StS.keep {h h' : Hp} {v : Value} {l : List St} (hs : StS h v l) (k : Keep (fun _ => False) h h') : StS h' v l := by
  obtain ⟨us, h1, h2⟩ := hs
  exact ⟨us, h1.keep k, stsAt_keep k l h2⟩
theorem sgsAt_keep {h h' : Hp} (k : Keep (fun _ => False) h h') : ∀ (l : List Sg) {us : List Value}, sgsAt h l us → sgsAt h' l us
  | [], us, hs => by
    unfold sgsAt at hs ⊢
    exact hs
  | x :: r, us, hs => by
    unfold sgsAt at hs ⊢
    obtain ⟨⟨vp, vb, h1, h2, h3⟩, h4⟩ := hs
    exact ⟨⟨vp, vb, h1, h2.keep k, h3.keep k⟩, sgsAt_keep k r h4⟩
theorem SgS.keep {h h' : Hp} {v : Value} {l : List Sg} (hs : SgS h v l) (k : Keep (fun _ => False) h h') : SgS h' v l := by
  obtain ⟨us, h1, h2⟩ := hs
  exact ⟨us, h1.keep k, sgsAt_keep k l h2⟩
/-! ### to be read -/
theorem SlAt.rdC {h : Hp} {sz n : Nat} {v : Value} {us : List Value} (hs : SlAt h sz v n us) {i : Nat} (hi : i < n) {K : List Value → Prop} (hk : K ((us.drop (i * sz)).take sz)) :
    asSl1 v fun a l _ => 0 ≤ (i : Int) ∧ (i : Int) < (l : Int) ∧ ∃ C, cellsH h (Addr.add a (Int.toNat (i : Int) * sz)) sz C ∧ K C := by
  have hmul : (i + 1) * sz ≤ n * sz := Nat.mul_le_mul_right sz (by omega)
  rw [Nat.add_mul, Nat.one_mul] at hmul
  have h1 := hs.1
  rcases hs.2 with ⟨h0, _⟩ | ⟨b, o, cap, rfl, hc⟩
  · omega
  · rw [asSl1_sl]
    refine ⟨by omega, by omega, _, ⟨by rw [List.length_take, List.length_drop]; omega, fun j u hu => ?_⟩, hk⟩
    rw [addr_add, addr_add, Int.toNat_natCast, Nat.add_assoc]
    rw [List.getElem?_take] at hu
    split at hu
    · rw [List.getElem?_drop] at hu
      exact hc _ u hu
    · cases hu
theorem ExS.sl {h : Hp} {v : Value} {l : List Ex} (hs : ExS h v l) {F : Option Addr → Nat → Nat → Prop} (hf : ∀ a c, F a l.length c) : asSl v F := by
  obtain ⟨us, h1, _⟩ := hs
  exact h1.1.sl hf
theorem StS.sl {h : Hp} {v : Value} {l : List St} (hs : StS h v l) {F : Option Addr → Nat → Nat → Prop} (hf : ∀ a c, F a l.length c) : asSl v F := by
  obtain ⟨us, h1, _⟩ := hs
  exact h1.1.sl hf
theorem SgS.sl {h : Hp} {v : Value} {l : List Sg} (hs : SgS h v l) {F : Option Addr → Nat → Nat → Prop} (hf : ∀ a c, F a l.length c) : asSl v F := by
  obtain ⟨us, h1, _⟩ := hs
  exact h1.1.sl hf
theorem ExS.max {h : Hp} {v : Value} {l : List Ex} (hs : ExS h v l) : l.length ≤ 9223372036854775807 := by
  obtain ⟨us, h1, _⟩ := hs
  exact h1.2
theorem StS.max {h : Hp} {v : Value} {l : List St} (hs : StS h v l) : l.length ≤ 9223372036854775807 := by
  obtain ⟨us, h1, _⟩ := hs
  exact h1.2
theorem ExS.isSl {h : Hp} {v : Value} {l : List Ex} (hs : ExS h v l) : isSl v := by
  obtain ⟨us, h1, _⟩ := hs
  exact SlAt.isSl h1.1
theorem StS.isSl {h : Hp} {v : Value} {l : List St} (hs : StS h v l) : isSl v := by
  obtain ⟨us, h1, _⟩ := hs
  exact SlAt.isSl h1.1
/-- the cells of an expression, of a statement, of a stage -/
def exC (x : Ex) (v : Value) : List Value := [.int .i64 x.op, .string x.nm, .int .i64 x.n, v]
def stC (x : St) (ve vb vl : Value) : List Value := [.int .i64 x.d, .int .i64 x.at_, .string x.a, .string x.b, .string x.t, .int .i64 x.n, ve, vb, vl]
def sgC (s : Sg) (vp vb : Value) : List Value := [.string s.nm, .int .i64 s.at_, vp, vb]
theorem exC_one {x : Ex} {v : Value} (h : isSl v) : ∀ u ∈ exC x v, one u := by
  intro u hu
  simp only [exC, List.mem_cons, List.not_mem_nil, or_false] at hu
  rcases hu with rfl | rfl | rfl | rfl
  · rfl
  · rfl
  · rfl
  · exact h.one
theorem stC_one {x : St} {ve vb vl : Value} (h1 : isSl ve) (h2 : isSl vb) (h3 : isSl vl) : ∀ u ∈ stC x ve vb vl, one u := by
  intro u hu
  simp only [stC, List.mem_cons, List.not_mem_nil, or_false] at hu
  rcases hu with rfl | rfl | rfl | rfl | rfl | rfl | rfl | rfl | rfl
  · rfl
  · rfl
  · rfl
  · rfl
  · rfl
  · rfl
  · exact h1.one
  · exact h2.one
  · exact h3.one
theorem sgC_one {s : Sg} {vp vb : Value} (h1 : isSl vp) (h2 : isSl vb) : ∀ u ∈ sgC s vp vb, one u := by
  intro u hu
  simp only [sgC, List.mem_cons, List.not_mem_nil, or_false] at hu
  rcases hu with rfl | rfl | rfl | rfl
  · rfl
  · rfl
  · exact h1.one
  · exact h2.one
theorem ExS.at_ {h : Hp} {v : Value} {l : List Ex} (hs : ExS h v l) {i : Nat} {x : Ex} (hx : l[i]? = some x) : ∃ us w, SlAt h 4 v l.length us ∧ (us.drop (i * 4)).take 4 = exC x w ∧ ExS h w x.l := by
  obtain ⟨us, h1, h2⟩ := hs
  obtain ⟨w, h3, h4⟩ := exAt_iff.1 (exsAt_get h2 hx)
  exact ⟨us, w, h1.1, h3, h4⟩
theorem StS.at_ {h : Hp} {v : Value} {l : List St} (hs : StS h v l) {i : Nat} {x : St} (hx : l[i]? = some x) : ∃ us ve vb vl, SlAt h 9 v l.length us ∧ (us.drop (i * 9)).take 9 = stC x ve vb vl ∧ ExS h ve x.e ∧ StS h vb x.body ∧ StS h vl x.els := by
  obtain ⟨us, h1, h2⟩ := hs
  obtain ⟨ve, vb, vl, h3, h4, h5, h6⟩ := stAt_iff.1 (stsAt_get h2 hx)
  exact ⟨us, ve, vb, vl, h1.1, h3, h4, h5, h6⟩
theorem SgS.at_ {h : Hp} {v : Value} {l : List Sg} (hs : SgS h v l) {i : Nat} {x : Sg} (hx : l[i]? = some x) : ∃ us vp vb, SlAt h 4 v l.length us ∧ (us.drop (i * 4)).take 4 = sgC x vp vb ∧ PsS h vp x.ps ∧ StS h vb x.body := by
  obtain ⟨us, h1, h2⟩ := hs
  obtain ⟨vp, vb, h3, h4, h5⟩ := sgsAt_get h2 hx
  exact ⟨us, vp, vb, h1.1, h3, h4, h5⟩
/-- an element whole -/
theorem ExS.rdC {h : Hp} {v : Value} {l : List Ex} (hs : ExS h v l) {i : Nat} {x : Ex} (hx : l[i]? = some x) {K : List Value → Prop} (hk : ∀ w, ExS h w x.l → K (exC x w)) :
    asSl1 v fun a l _ => 0 ≤ (i : Int) ∧ (i : Int) < (l : Int) ∧ ∃ C, cellsH h (Addr.add a (Int.toNat (i : Int) * 4)) 4 C ∧ K C := by
  obtain ⟨us, w, h1, h2, h3⟩ := hs.at_ hx
  exact SlAt.rdC h1 (List.getElem?_eq_some_iff.1 hx).1 (by rw [h2]; exact hk w h3)
theorem StS.rdC {h : Hp} {v : Value} {l : List St} (hs : StS h v l) {i : Nat} {x : St} (hx : l[i]? = some x) {K : List Value → Prop} (hk : ∀ ve vb vl, ExS h ve x.e → StS h vb x.body → StS h vl x.els → K (stC x ve vb vl)) :
    asSl1 v fun a l _ => 0 ≤ (i : Int) ∧ (i : Int) < (l : Int) ∧ ∃ C, cellsH h (Addr.add a (Int.toNat (i : Int) * 9)) 9 C ∧ K C := by
  obtain ⟨us, ve, vb, vl, h1, h2, h3, h4, h5⟩ := hs.at_ hx
  exact SlAt.rdC h1 (List.getElem?_eq_some_iff.1 hx).1 (by rw [h2]; exact hk _ _ _ h3 h4 h5)
theorem SgS.rdC {h : Hp} {v : Value} {l : List Sg} (hs : SgS h v l) {i : Nat} {x : Sg} (hx : l[i]? = some x) {K : List Value → Prop} (hk : ∀ vp vb, PsS h vp x.ps → StS h vb x.body → K (sgC x vp vb)) :
    asSl1 v fun a l _ => 0 ≤ (i : Int) ∧ (i : Int) < (l : Int) ∧ ∃ C, cellsH h (Addr.add a (Int.toNat (i : Int) * 4)) 4 C ∧ K C := by
  obtain ⟨us, vp, vb, h1, h2, h3, h4⟩ := hs.at_ hx
  exact SlAt.rdC h1 (List.getElem?_eq_some_iff.1 hx).1 (by rw [h2]; exact hk _ _ h3 h4)
/-! ### how great -/
mutual
def exN : Ex → Nat
  | .mk _ _ _ l => 1 + exsN l
def exsN : List Ex → Nat
  | [] => 0
  | x :: r => exN x + exsN r
end
mutual
def stN : St → Nat
  | .mk _ _ _ _ _ _ e body els => 1 + exsN e + stsN body + stsN els
def stsN : List St → Nat
  | [] => 0
  | x :: r => stN x + stsN r
end
theorem exN_eq (x : Ex) : exN x = 1 + exsN x.l := by cases x; rfl
theorem stN_eq (x : St) : stN x = 1 + exsN x.e + stsN x.body + stsN x.els := by cases x; rfl
theorem exsN_mem : ∀ {l : List Ex} {x : Ex}, x ∈ l → exN x ≤ exsN l
  | y :: r, x, hx => by
    unfold exsN
    rcases List.mem_cons.1 hx with rfl | hx
    · omega
    · have := exsN_mem hx
      omega
theorem stsN_mem : ∀ {l : List St} {x : St}, x ∈ l → stN x ≤ stsN l
  | y :: r, x, hx => by
    unfold stsN
    rcases List.mem_cons.1 hx with rfl | hx
    · omega
    · have := stsN_mem hx
      omega
theorem exsN_len : ∀ (l : List Ex), l.length ≤ exsN l
  | [] => Nat.zero_le _
  | x :: r => by
    unfold exsN
    have := exsN_len r
    have := exN_eq x
    simp only [List.length_cons]
    omega
theorem stsN_len : ∀ (l : List St), l.length ≤ stsN l
  | [] => Nat.zero_le _
  | x :: r => by
    unfold stsN
    have := stsN_len r
    have := stN_eq x
    simp only [List.length_cons]
    omega
end Go.Sx.Rn

namespace Go.Sx.Rn

def SlN (h : Hp) (N : Nat → Prop) (sz : Nat) (v : Value) (n : Nat) (us : List Value) : Prop := SlB h sz v n us ∧ ∀ b, v.ownBlock = some b → N b
theorem SlN.keep {h h' : Hp} {N S : Nat → Prop} {sz n : Nat} {v : Value} {us : List Value} (hs : SlN h N sz v n us) (k : Keep S h h') (hn : ∀ b, N b → ¬ S b) : SlN h' N sz v n us := by
  refine ⟨⟨⟨hs.1.1.1, ?_⟩, hs.1.2⟩, hs.2⟩
  rcases hs.1.1.2 with h0 | ⟨b, o, c, rfl, hc⟩
  · exact .inl h0
  · exact .inr ⟨b, o, c, rfl, fun j u hu => k.cell (hc j u hu) (hn b (hs.2 b rfl))⟩
theorem SlN.mono {h : Hp} {N N' : Nat → Prop} {sz n : Nat} {v : Value} {us : List Value} (hs : SlN h N sz v n us) (hn : ∀ b, N b → N' b) : SlN h N' sz v n us := ⟨hs.1, fun b hb => hn b (hs.2 b hb)⟩
theorem SlN.own {h : Hp} {base : Nat} {e : TypeId} {sz n : Nat} {v : Value} {us : List Value} (ho : OwnH h base e sz v n us) (hn : n ≤ 9223372036854775807) : SlN h (fun b => base ≤ b ∧ b < h.size) sz v n us :=
  ⟨⟨ho.slAt, hn⟩, ho.lt⟩
mutual
def exAtN (h : Hp) (N : Nat → Prop) : Ex → List Value → Prop
  | .mk op nm n l, cs => ∃ v us, cs = [.int .i64 op, .string nm, .int .i64 n, v] ∧ SlN h N 4 v l.length us ∧ exsAtN h N l us
def exsAtN (h : Hp) (N : Nat → Prop) : List Ex → List Value → Prop
  | [], us => us = []
  | x :: r, us => exAtN h N x (us.take 4) ∧ exsAtN h N r (us.drop 4)
end
def ExSN (h : Hp) (N : Nat → Prop) (v : Value) (l : List Ex) : Prop := ∃ us, SlN h N 4 v l.length us ∧ exsAtN h N l us
mutual
def stAtN (h : Hp) (N : Nat → Prop) : St → List Value → Prop
  | .mk d at_ a b t n e body els, cs => ∃ ve vb vl us ws, cs = [.int .i64 d, .int .i64 at_, .string a, .string b, .string t, .int .i64 n, ve, vb, vl] ∧ ExSN h N ve e ∧ SlN h N 9 vb body.length us ∧ stsAtN h N body us ∧ SlN h N 9 vl els.length ws ∧ stsAtN h N els ws
def stsAtN (h : Hp) (N : Nat → Prop) : List St → List Value → Prop
  | [], us => us = []
  | x :: r, us => stAtN h N x (us.take 9) ∧ stsAtN h N r (us.drop 9)
end
def StSN (h : Hp) (N : Nat → Prop) (v : Value) (l : List St) : Prop := ∃ us, SlN h N 9 v l.length us ∧ stsAtN h N l us
theorem exAtN_iff {h : Hp} {N : Nat → Prop} {x : Ex} {cs : List Value} : exAtN h N x cs ↔ ∃ v, cs = exC x v ∧ ExSN h N v x.l := by
  cases x
  simp only [exAtN, ExSN, exC, Ex.op, Ex.nm, Ex.n, Ex.l]
  constructor
  · rintro ⟨v, us, h1, h2, h3⟩
    exact ⟨v, h1, us, h2, h3⟩
  · rintro ⟨v, h1, us, h2, h3⟩
    exact ⟨v, us, h1, h2, h3⟩
theorem stAtN_iff {h : Hp} {N : Nat → Prop} {x : St} {cs : List Value} : stAtN h N x cs ↔ ∃ ve vb vl, cs = stC x ve vb vl ∧ ExSN h N ve x.e ∧ StSN h N vb x.body ∧ StSN h N vl x.els := by
  cases x
  simp only [stAtN, StSN, stC, St.d, St.at_, St.a, St.b, St.t, St.n, St.e, St.body, St.els]
  constructor
  · rintro ⟨ve, vb, vl, us, ws, h1, h2, h3, h4, h5, h6⟩
    exact ⟨ve, vb, vl, h1, h2, ⟨us, h3, h4⟩, ws, h5, h6⟩
  · rintro ⟨ve, vb, vl, h1, h2, ⟨us, h3, h4⟩, ws, h5, h6⟩
    exact ⟨ve, vb, vl, us, ws, h1, h2, h3, h4, h5, h6⟩
mutual
theorem exAtN_map {h h' : Hp} {N N' : Nat → Prop} (f : ∀ sz v n us, SlN h N sz v n us → SlN h' N' sz v n us) : ∀ (x : Ex) {cs : List Value}, exAtN h N x cs → exAtN h' N' x cs
  | .mk op nm n l, cs, hx => by
    unfold exAtN at hx ⊢
    obtain ⟨v, us, h1, h2, h3⟩ := hx
    exact ⟨v, us, h1, f _ _ _ _ h2, exsAtN_map f l h3⟩
theorem exsAtN_map {h h' : Hp} {N N' : Nat → Prop} (f : ∀ sz v n us, SlN h N sz v n us → SlN h' N' sz v n us) : ∀ (l : List Ex) {us : List Value}, exsAtN h N l us → exsAtN h' N' l us
  | [], us, hs => by
    unfold exsAtN at hs ⊢
    exact hs
  | x :: r, us, hs => by
    unfold exsAtN at hs ⊢
    exact ⟨exAtN_map f x hs.1, exsAtN_map f r hs.2⟩
end
theorem ExSN.map {h h' : Hp} {N N' : Nat → Prop} (f : ∀ sz v n us, SlN h N sz v n us → SlN h' N' sz v n us) {v : Value} {l : List Ex} (hs : ExSN h N v l) : ExSN h' N' v l := by
  obtain ⟨us, h1, h2⟩ := hs
  exact ⟨us, f _ _ _ _ h1, exsAtN_map f l h2⟩
mutual
theorem stAtN_map {h h' : Hp} {N N' : Nat → Prop} (f : ∀ sz v n us, SlN h N sz v n us → SlN h' N' sz v n us) : ∀ (x : St) {cs : List Value}, stAtN h N x cs → stAtN h' N' x cs
  | .mk d at_ a b t n e body els, cs, hx => by
    unfold stAtN at hx ⊢
    obtain ⟨ve, vb, vl, us, ws, h1, h2, h3, h4, h5, h6⟩ := hx
    exact ⟨ve, vb, vl, us, ws, h1, h2.map f, f _ _ _ _ h3, stsAtN_map f body h4, f _ _ _ _ h5, stsAtN_map f els h6⟩
theorem stsAtN_map {h h' : Hp} {N N' : Nat → Prop} (f : ∀ sz v n us, SlN h N sz v n us → SlN h' N' sz v n us) : ∀ (l : List St) {us : List Value}, stsAtN h N l us → stsAtN h' N' l us
  | [], us, hs => by
    unfold stsAtN at hs ⊢
    exact hs
  | x :: r, us, hs => by
    unfold stsAtN at hs ⊢
    exact ⟨stAtN_map f x hs.1, stsAtN_map f r hs.2⟩
end
theorem StSN.map {h h' : Hp} {N N' : Nat → Prop} (f : ∀ sz v n us, SlN h N sz v n us → SlN h' N' sz v n us) {v : Value} {l : List St} (hs : StSN h N v l) : StSN h' N' v l := by
  obtain ⟨us, h1, h2⟩ := hs
  exact ⟨us, f _ _ _ _ h1, stsAtN_map f l h2⟩

mutual
theorem exAtN.at {h : Hp} {N : Nat → Prop} : ∀ (x : Ex) {cs : List Value}, exAtN h N x cs → exAt h x cs
  | .mk op nm n l, cs, hx => by
    unfold exAtN at hx
    unfold exAt
    obtain ⟨v, us, h1, h2, h3⟩ := hx
    exact ⟨v, us, h1, h2.1, exsAtN.at l h3⟩
theorem exsAtN.at {h : Hp} {N : Nat → Prop} : ∀ (l : List Ex) {us : List Value}, exsAtN h N l us → exsAt h l us
  | [], us, hs => by
    unfold exsAtN at hs
    unfold exsAt
    exact hs
  | x :: r, us, hs => by
    unfold exsAtN at hs
    unfold exsAt
    exact ⟨exAtN.at x hs.1, exsAtN.at r hs.2⟩
end
theorem ExSN.at {h : Hp} {N : Nat → Prop} {v : Value} {l : List Ex} (hs : ExSN h N v l) : ExS h v l := by
  obtain ⟨us, h1, h2⟩ := hs
  exact ⟨us, h1.1, exsAtN.at l h2⟩
mutual
theorem stAtN.at {h : Hp} {N : Nat → Prop} : ∀ (x : St) {cs : List Value}, stAtN h N x cs → stAt h x cs
  | .mk d at_ a b t n e body els, cs, hx => by
    unfold stAtN at hx
    unfold stAt
    obtain ⟨ve, vb, vl, us, ws, h1, h2, h3, h4, h5, h6⟩ := hx
    exact ⟨ve, vb, vl, us, ws, h1, h2.at, h3.1, stsAtN.at body h4, h5.1, stsAtN.at els h6⟩
theorem stsAtN.at {h : Hp} {N : Nat → Prop} : ∀ (l : List St) {us : List Value}, stsAtN h N l us → stsAt h l us
  | [], us, hs => by
    unfold stsAtN at hs
    unfold stsAt
    exact hs
  | x :: r, us, hs => by
    unfold stsAtN at hs
    unfold stsAt
    exact ⟨stAtN.at x hs.1, stsAtN.at r hs.2⟩
end
theorem StSN.at {h : Hp} {N : Nat → Prop} {v : Value} {l : List St} (hs : StSN h N v l) : StS h v l := by
  obtain ⟨us, h1, h2⟩ := hs
  exact ⟨us, h1.1, stsAtN.at l h2⟩
theorem exsAtN_snoc {h : Hp} {N : Nat → Prop} : ∀ {l : List Ex} {us : List Value} {x : Ex} {cs : List Value}, exsAtN h N l us → us.length = l.length * 4 → exAtN h N x cs → cs.length = 4 → exsAtN h N (l ++ [x]) (us ++ cs)
  | [], us, x, cs, hl, hn, hx, hc => by
    unfold exsAtN at hl
    subst hl
    rw [List.nil_append, List.nil_append]
    unfold exsAtN
    rw [List.take_of_length_le (by omega), List.drop_of_length_le (by omega)]
    refine ⟨hx, ?_⟩
    unfold exsAtN
    rfl
  | y :: r, us, x, cs, hl, hn, hx, hc => by
    unfold exsAtN at hl
    rw [List.cons_append]
    unfold exsAtN
    simp only [List.length_cons] at hn
    rw [List.take_append_of_le_length (by omega), List.drop_append_of_le_length (by omega)]
    exact ⟨hl.1, exsAtN_snoc hl.2 (by rw [List.length_drop]; omega) hx hc⟩
theorem stsAtN_snoc {h : Hp} {N : Nat → Prop} : ∀ {l : List St} {us : List Value} {x : St} {cs : List Value}, stsAtN h N l us → us.length = l.length * 9 → stAtN h N x cs → cs.length = 9 → stsAtN h N (l ++ [x]) (us ++ cs)
  | [], us, x, cs, hl, hn, hx, hc => by
    unfold stsAtN at hl
    subst hl
    rw [List.nil_append, List.nil_append]
    unfold stsAtN
    rw [List.take_of_length_le (by omega), List.drop_of_length_le (by omega)]
    refine ⟨hx, ?_⟩
    unfold stsAtN
    rfl
  | y :: r, us, x, cs, hl, hn, hx, hc => by
    unfold stsAtN at hl
    rw [List.cons_append]
    unfold stsAtN
    simp only [List.length_cons] at hn
    rw [List.take_append_of_le_length (by omega), List.drop_append_of_le_length (by omega)]
    exact ⟨hl.1, stsAtN_snoc hl.2 (by rw [List.length_drop]; omega) hx hc⟩
def sgAtN (h : Hp) (N : Nat → Prop) (s : Sg) (cs : List Value) : Prop := ∃ vp vb, cs = sgC s vp vb ∧ SlN h N 2 vp s.ps.length (s.ps.flatMap pf) ∧ nilOr vp ∧ StSN h N vb s.body
def sgsAtN (h : Hp) (N : Nat → Prop) : List Sg → List Value → Prop
  | [], us => us = []
  | x :: r, us => sgAtN h N x (us.take 4) ∧ sgsAtN h N r (us.drop 4)
theorem sgsAtN_map {h h' : Hp} {N N' : Nat → Prop} (f : ∀ sz v n us, SlN h N sz v n us → SlN h' N' sz v n us) : ∀ (l : List Sg) {us : List Value}, sgsAtN h N l us → sgsAtN h' N' l us
  | [], us, hs => by
    unfold sgsAtN at hs ⊢
    exact hs
  | x :: r, us, hs => by
    unfold sgsAtN at hs ⊢
    obtain ⟨⟨vp, vb, h1, h2, hn, h3⟩, h4⟩ := hs
    exact ⟨⟨vp, vb, h1, f _ _ _ _ h2, hn, h3.map f⟩, sgsAtN_map f r h4⟩
theorem sgsAtN.at {h : Hp} {N : Nat → Prop} : ∀ (l : List Sg) {us : List Value}, sgsAtN h N l us → sgsAt h l us
  | [], us, hs => by
    unfold sgsAtN at hs
    unfold sgsAt
    exact hs
  | x :: r, us, hs => by
    unfold sgsAtN at hs
    unfold sgsAt
    obtain ⟨⟨vp, vb, h1, h2, hn, h3⟩, h4⟩ := hs
    exact ⟨⟨vp, vb, h1, ⟨h2.1.1, hn⟩, h3.at⟩, sgsAtN.at r h4⟩
theorem sgsAtN_snoc {h : Hp} {N : Nat → Prop} : ∀ {l : List Sg} {us : List Value} {x : Sg} {cs : List Value}, sgsAtN h N l us → us.length = l.length * 4 → sgAtN h N x cs → cs.length = 4 → sgsAtN h N (l ++ [x]) (us ++ cs)
  | [], us, x, cs, hl, hn, hx, hc => by
    unfold sgsAtN at hl
    subst hl
    rw [List.nil_append, List.nil_append]
    unfold sgsAtN
    rw [List.take_of_length_le (by omega), List.drop_of_length_le (by omega)]
    refine ⟨hx, ?_⟩
    unfold sgsAtN
    rfl
  | y :: r, us, x, cs, hl, hn, hx, hc => by
    unfold sgsAtN at hl
    rw [List.cons_append]
    unfold sgsAtN
    simp only [List.length_cons] at hn
    rw [List.take_append_of_le_length (by omega), List.drop_append_of_le_length (by omega)]
    exact ⟨hl.1, sgsAtN_snoc hl.2 (by rw [List.length_drop]; omega) hx hc⟩
theorem exsAtN_nil {h : Hp} {N : Nat → Prop} : exsAtN h N [] [] := by unfold exsAtN; rfl
theorem stsAtN_nil {h : Hp} {N : Nat → Prop} : stsAtN h N [] [] := by unfold stsAtN; rfl
theorem sgsAtN_nil {h : Hp} {N : Nat → Prop} : sgsAtN h N [] [] := by unfold sgsAtN; rfl
theorem ExSN.isSl {h : Hp} {N : Nat → Prop} {v : Value} {l : List Ex} (hs : ExSN h N v l) : isSl v := hs.at.isSl
theorem StSN.isSl {h : Hp} {N : Nat → Prop} {v : Value} {l : List St} (hs : StSN h N v l) : isSl v := hs.at.isSl
/-- read later: what hangs below is told of earlier -/
theorem ExS.rdC0 {h0 h : Hp} {v : Value} {l : List Ex} (hs : ExS h0 v l) (k : Keep (fun _ => False) h0 h) {i : Nat} {x : Ex} (hx : l[i]? = some x) {K : List Value → Prop} (hk : ∀ w, ExS h0 w x.l → K (exC x w)) :
    asSl1 v fun a l _ => 0 ≤ (i : Int) ∧ (i : Int) < (l : Int) ∧ ∃ C, cellsH h (Addr.add a (Int.toNat (i : Int) * 4)) 4 C ∧ K C := by
  obtain ⟨us, w, h1, h2, h3⟩ := hs.at_ hx
  exact SlAt.rdC (h1.keep k) (List.getElem?_eq_some_iff.1 hx).1 (by rw [h2]; exact hk w h3)
theorem StS.rdC0 {h0 h : Hp} {v : Value} {l : List St} (hs : StS h0 v l) (k : Keep (fun _ => False) h0 h) {i : Nat} {x : St} (hx : l[i]? = some x) {K : List Value → Prop} (hk : ∀ ve vb vl, ExS h0 ve x.e → StS h0 vb x.body → StS h0 vl x.els → K (stC x ve vb vl)) :
    asSl1 v fun a l _ => 0 ≤ (i : Int) ∧ (i : Int) < (l : Int) ∧ ∃ C, cellsH h (Addr.add a (Int.toNat (i : Int) * 9)) 9 C ∧ K C := by
  obtain ⟨us, ve, vb, vl, h1, h2, h3, h4, h5⟩ := hs.at_ hx
  exact SlAt.rdC (h1.keep k) (List.getElem?_eq_some_iff.1 hx).1 (by rw [h2]; exact hk _ _ _ h3 h4 h5)
theorem SgS.rdC0 {h0 h : Hp} {v : Value} {l : List Sg} (hs : SgS h0 v l) (k : Keep (fun _ => False) h0 h) {i : Nat} {x : Sg} (hx : l[i]? = some x) {K : List Value → Prop} (hk : ∀ vp vb, PsS h0 vp x.ps → StS h0 vb x.body → K (sgC x vp vb)) :
    asSl1 v fun a l _ => 0 ≤ (i : Int) ∧ (i : Int) < (l : Int) ∧ ∃ C, cellsH h (Addr.add a (Int.toNat (i : Int) * 4)) 4 C ∧ K C := by
  obtain ⟨us, vp, vb, h1, h2, h3, h4⟩ := hs.at_ hx
  exact SlAt.rdC (h1.keep k) (List.getElem?_eq_some_iff.1 hx).1 (by rw [h2]; exact hk _ _ h3 h4)
end Go.Sx.Rn
