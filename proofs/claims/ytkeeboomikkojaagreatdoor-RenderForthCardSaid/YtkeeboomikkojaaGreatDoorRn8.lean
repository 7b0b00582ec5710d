/- A number's digits, read again: in plain. -/
import Derived.Test.YtkeeboomikkojaaGreatDoorRn4
import Derived.Test.YtkeeboomikkojaaGreatDoorRn6
import Derived.Test.YtkeeboomikkojaaGreatDoorRn7
namespace Go.Proofs.YtkeeboomikkojaaGreatDoor
open Go Go.Sx Go.Sx.Tk Go.Sx.Rn Go.Proofs.YtkeeboomikkojaaGreatDoor.Sx

theorem decD_small {u : Nat} (h : u < 10) : Lib.decDigits u = [UInt8.ofNat (48 + u)] := Lib.decDigits_one h
theorem decD_big {u : Nat} (h : ¬ u < 10) : Lib.decDigits u = Lib.decDigits (u / 10) ++ [UInt8.ofNat (48 + u % 10)] := by
  rw [Lib.decDigits, dif_neg h]
theorem dig_nat {k : Nat} (h : k < 10) : (UInt8.ofNat (48 + k)).toNat = 48 + k := by
  simp
  omega
theorem dig_dg {k : Nat} (h : k < 10) : Tk.dg (UInt8.ofNat (48 + k)) = true := by
  unfold Tk.dg
  rw [dig_nat h]
  simp
  omega
theorem decD_all : ∀ (u : Nat), (Lib.decDigits u).all Tk.dg = true := by
  intro u
  induction u using Nat.strongRecOn with
  | ind u ih =>
    by_cases h : u < 10
    · rw [decD_small h, List.all_cons, List.all_nil, dig_dg h]
      rfl
    · rw [decD_big h, List.all_append, ih (u / 10) (by omega)]
      rw [List.all_cons, List.all_nil, dig_dg (show u % 10 < 10 by omega)]
      rfl
theorem decD_ne (u : Nat) : Lib.decDigits u ≠ [] := by
  by_cases h : u < 10
  · rw [decD_small h]
    simp
  · rw [decD_big h]
    simp
theorem decD_val : ∀ (u : Nat), valD (Lib.decDigits u) = u := by
  intro u
  induction u using Nat.strongRecOn with
  | ind u ih =>
    by_cases h : u < 10
    · rw [decD_small h]
      have := dig_nat h
      unfold valD
      simp only [List.foldl_cons, List.foldl_nil]
      omega
    · rw [decD_big h, valD_snoc, ih (u / 10) (by omega), dig_nat (show u % 10 < 10 by omega)]
      omega
theorem decD_len : ∀ (k u : Nat), u < 10 ^ (k + 1) → (Lib.decDigits u).length ≤ k + 1 := by
  intro k
  induction k with
  | zero =>
    intro u h
    rw [decD_small (by omega)]
    simp
  | succ k ih =>
    intro u h
    by_cases h1 : u < 10
    · rw [decD_small h1]
      simp
    · rw [decD_big h1, List.length_append]
      have := ih (u / 10) (by rw [Nat.pow_succ] at h; omega)
      simp
      omega
/-- no 0 ahead, but of the number 0 -/
theorem decD_head : ∀ (u : Nat), 0 < u → ((Lib.decDigits u).getD 0 0).toNat ≠ 48 := by
  intro u
  induction u using Nat.strongRecOn with
  | ind u ih =>
    intro h0
    by_cases h : u < 10
    · rw [decD_small h]
      have := dig_nat h
      simp only [List.getD_cons_zero]
      omega
    · rw [decD_big h]
      have h1 := ih (u / 10) (by omega) (by omega)
      have h2 := decD_ne (u / 10)
      cases hd : Lib.decDigits (u / 10) with
      | nil => exact absurd hd h2
      | cons c r =>
        rw [hd] at h1
        simpa using h1
theorem numL_dec {u : Nat} (h : u < 1000000000000000000) : numL (Lib.decDigits u) = some (u : Int) := by
  unfold numL
  rw [if_neg, decD_val]
  rintro (h1 | ⟨h1, h2⟩ | h1)
  · have := decD_len 17 u (by omega)
    omega
  · by_cases h0 : 0 < u
    · exact decD_head u h0 h2
    · obtain rfl : u = 0 := by omega
      rw [decD_small (by decide)] at h1
      simp at h1
  · rw [decD_all] at h1
    cases h1
theorem itoa_pos {n : Int} (h : 0 ≤ n) : Lib.itoa n = Lib.decDigits n.toNat := by
  unfold Lib.itoa
  rw [if_neg (by omega)]
theorem numL_itoa {n : Int} (h : 0 ≤ n) (h1 : n < 1000000000000000000) : numL (Lib.itoa n) = some n := by
  rw [itoa_pos h, numL_dec (by omega), Int.toNat_of_nonneg h]
theorem itoa_all {n : Int} (h : 0 ≤ n) : (Lib.itoa n).all Tk.dg = true := by
  rw [itoa_pos h]
  exact decD_all _
theorem itoa_ne {n : Int} (h : 0 ≤ n) : Lib.itoa n ≠ [] := by
  rw [itoa_pos h]
  exact decD_ne _
end Go.Proofs.YtkeeboomikkojaaGreatDoor

namespace Go.Proofs.YtkeeboomikkojaaGreatDoor
open Go Go.Sx Go.Sx.Tk Go.Sx.Rn Go.Proofs.YtkeeboomikkojaaGreatDoor.Sx

/-- does a text stand next? -/
def isT (s : List UInt8) : List Tok → Bool
  | [] => false
  | t :: _ => t.kind != 2 && bytesOf t.text == s
/-- a fault at the next token; `e` is the text's length -/
def pErr (e code : Int) : List Tok → Int × Int
  | [] => (if code = 5 then 6 else code, e)
  | t :: _ => (code, t.at_)
def bindP {α β : Type} (r : Except (Int × Int) α) (f : α → Except (Int × Int) β) : Except (Int × Int) β := match r with
  | .error x => .error x
  | .ok a => f a
theorem bindP_ok {α β : Type} (a : α) (f : α → Except (Int × Int) β) : bindP (.ok a) f = f a := rfl
def exTwo (op : Int) (a b : Ex) : Ex := .mk op ⟨#[]⟩ 0 [a, b]
def exNeg (a : Ex) : Ex := .mk 3 ⟨#[]⟩ 0 [a]
def exNum (n : Int) : Ex := .mk 1 ⟨#[]⟩ n []
def exName (s : ByteArray) : Ex := .mk 2 s 0 []
/-- what is read, how many parts or statements there were, what is left -/
abbrev PR (α : Type) := Except (Int × Int) (α × Nat × List Tok)
mutual
def cmpP (e : Int) : Nat → Nat → Nat → List Tok → PR Ex
  | 0, _, _, _ => .error (5, 0)
  | f + 1, o, n, l => bindP (sumP e f o n l) fun r =>
    if isT [60] r.2.2 then bindP (sumP e f o r.2.1 r.2.2.tail) fun q => .ok (exTwo 7 r.1 q.1, q.2.1 + 1, q.2.2)
    else if isT [61, 61] r.2.2 then bindP (sumP e f o r.2.1 r.2.2.tail) fun q => .ok (exTwo 8 r.1 q.1, q.2.1 + 1, q.2.2)
    else .ok r
def sumP (e : Int) : Nat → Nat → Nat → List Tok → PR Ex
  | 0, _, _, _ => .error (5, 0)
  | f + 1, o, n, l => bindP (prodP e f o n l) fun r => sumL e f o r.1 r.2.1 r.2.2
def sumL (e : Int) : Nat → Nat → Ex → Nat → List Tok → PR Ex
  | 0, _, _, _, _ => .error (5, 0)
  | f + 1, o, x, n, l =>
    if isT [43] l then bindP (prodP e f o n l.tail) fun q => sumL e f o (exTwo 4 x q.1) (q.2.1 + 1) q.2.2
    else if isT [45] l then bindP (prodP e f o n l.tail) fun q => sumL e f o (exTwo 5 x q.1) (q.2.1 + 1) q.2.2
    else .ok (x, n, l)
def prodP (e : Int) : Nat → Nat → Nat → List Tok → PR Ex
  | 0, _, _, _ => .error (5, 0)
  | f + 1, o, n, l => bindP (unitP e f o n l) fun r => prodL e f o r.1 r.2.1 r.2.2
def prodL (e : Int) : Nat → Nat → Ex → Nat → List Tok → PR Ex
  | 0, _, _, _, _ => .error (5, 0)
  | f + 1, o, x, n, l =>
    if isT [42] l then bindP (unitP e f o n l.tail) fun q => prodL e f o (exTwo 6 x q.1) (q.2.1 + 1) q.2.2
    else .ok (x, n, l)
def unitP (e : Int) : Nat → Nat → Nat → List Tok → PR Ex
  | 0, _, _, _ => .error (5, 0)
  | f + 1, o, n, l =>
    if isT [40] l then
      (if o = 60 then .error (pErr e 7 l) else bindP (cmpP e f (o + 1) n l.tail) fun r => if isT [41] r.2.2 then .ok (r.1, r.2.1, r.2.2.tail) else .error (pErr e 5 r.2.2))
    else if isT [45] l then
      (if o = 60 then .error (pErr e 7 l) else bindP (unitP e f (o + 1) (n + 1) l.tail) fun r => .ok (exNeg r.1, r.2.1, r.2.2))
    else match l with
      | [] => .error (6, e)
      | t :: r => if t.kind = 3 then .ok (exNum t.n, n + 1, r) else if t.kind = 2 then .ok (exName t.text, n + 1, r) else .error (5, t.at_)
end
/-- a whole expression -/
def exprP (e : Int) (l : List Tok) : Except (Int × Int) (Ex × List Tok) := match l with
  | [] => .error (6, e)
  | t :: r => bindP (cmpP e (4 * (t :: r).length + 4) 0 0 (t :: r)) fun q => if 20 < q.2.1 then .error (8, t.at_) else .ok (q.1, q.2.2)
def nameP (e : Int) : List Tok → Except (Int × Int) (ByteArray × List Tok)
  | [] => .error (6, e)
  | t :: r => if t.kind = 2 then .ok (t.text, r) else .error (5, t.at_)
def numP (e : Int) : List Tok → Except (Int × Int) (Int × List Tok)
  | [] => .error (6, e)
  | t :: r => if t.kind = 3 then .ok (t.n, r) else .error (5, t.at_)
def wantP (e : Int) (s : List UInt8) (l : List Tok) : Except (Int × Int) (List Tok) := if isT s l then .ok l.tail else .error (pErr e 5 l)
/-- a type -/
def typP (e : Int) (acc : List UInt8) : List Tok → Except (Int × Int) (List UInt8 × List Tok)
  | [] => .error (6, e)
  | t :: r =>
    if isT [105, 110, 116] (t :: r) then .ok (acc ++ [105], r)
    else if isT [115, 101, 110, 100] (t :: r) || isT [114, 101, 99, 118] (t :: r) then (if acc.length = 3 then .error (7, t.at_) else typP e (acc ++ (bytesOf t.text).take 1) r)
    else .error (5, t.at_)
/-- arguments -/
def argsL (e : Int) : Nat → List Ex → List Tok → Except (Int × Int) (List Ex × List Tok)
  | 0, _, _ => .error (5, 0)
  | f + 1, acc, l =>
    if isT [41] l then .ok (acc, l.tail)
    else bindP (if acc.length = 0 then .ok l else wantP e [44] l) fun l => if acc.length = 6 then .error (pErr e 8 l) else bindP (exprP e l) fun q => argsL e f (acc ++ [q.1]) q.2
/-- parameters -/
def parsL (e : Int) : Nat → List (ByteArray × ByteArray) → List Tok → Except (Int × Int) (List (ByteArray × ByteArray) × List Tok)
  | 0, _, _ => .error (5, 0)
  | f + 1, acc, l =>
    if isT [41] l then .ok (acc, l.tail)
    else bindP (if acc.length = 0 then .ok l else wantP e [44] l) fun l => if acc.length = 6 then .error (pErr e 8 l) else
      bindP (nameP e l) fun q => bindP (typP e [] q.2) fun u => parsL e f (acc ++ [(q.1, bs u.1)]) u.2
def stWords : List (List UInt8) := [[108, 101, 116], [115, 101, 116], [101, 109, 105, 116], [99, 104, 97, 110], [99, 108, 111, 110, 101], [115, 101, 110, 100], [99, 108, 111, 115, 101], [97, 98, 97, 110, 100, 111, 110], [100, 114, 97, 105, 110], [115, 112, 97, 119, 110], [116, 97, 107, 101], [102, 111, 114], [114, 101, 112, 101, 97, 116], [105, 102]]
/-- a statement's kind by its word; 0: none -/
def doW (s : List UInt8) : Nat := if s ∈ stWords then stWords.findIdx (fun w => w == s) + 1 else 0
/-- what is read of a statement without blocks: A B T N E -/
structure Sh where
  a : ByteArray := ⟨#[]⟩
  b : ByteArray := ⟨#[]⟩
  t : ByteArray := ⟨#[]⟩
  n : Int := 0
  e : List Ex := []
def shortP (e : Int) (d : Nat) (l : List Tok) : Except (Int × Int) (Sh × List Tok) :=
  if d = 3 then bindP (exprP e l) fun q => .ok ({ e := [q.1] }, q.2)
  else bindP (nameP e l) fun a =>
    if d = 1 ∨ d = 2 then bindP (wantP e [61] a.2) fun l => bindP (exprP e l) fun q => .ok ({ a := a.1, e := [q.1] }, q.2)
    else if d = 4 then bindP (nameP e a.2) fun b => bindP (typP e [] b.2) fun t => bindP (numP e t.2) fun n => .ok ({ a := a.1, b := b.1, t := bs t.1, n := n.1 }, n.2)
    else if d = 5 then bindP (nameP e a.2) fun b => .ok ({ a := a.1, b := b.1 }, b.2)
    else if d = 6 then bindP (exprP e a.2) fun q => .ok ({ a := a.1, e := [q.1] }, q.2)
    else if d = 10 then bindP (wantP e [40] a.2) fun l => bindP (argsL e (l.length + 1) [] l) fun q => .ok ({ a := a.1, e := q.1 }, q.2)
    else .ok ({ a := a.1 }, a.2)
/-- the beginning of a statement with blocks -/
def longP (e : Int) (d : Nat) (l : List Tok) : Except (Int × Int) (Sh × List Tok) :=
  if d = 11 ∨ d = 12 then bindP (nameP e l) fun a => bindP (wantP e [102, 114, 111, 109] a.2) fun l => bindP (nameP e l) fun b => .ok ({ a := a.1, b := b.1 }, b.2)
  else bindP (exprP e l) fun q => .ok ({ e := [q.1] }, q.2)
mutual
/-- a block: how deep it stands, how many statements there were -/
def blockP (e : Int) : Nat → Nat → Nat → List Tok → PR (List St)
  | 0, _, _, _ => .error (5, 0)
  | f + 1, deep, n, l => if isT [123] l then (if deep = 8 then .error (pErr e 7 l) else stmtsL e f (deep + 1) [] n l.tail) else .error (pErr e 5 l)
def stmtsL (e : Int) : Nat → Nat → List St → Nat → List Tok → PR (List St)
  | 0, _, _, _, _ => .error (5, 0)
  | f + 1, deep, acc, n, l => if isT [125] l then .ok (acc, n, l.tail) else bindP (stmtP e f deep n l) fun q => stmtsL e f deep (acc ++ [q.1]) q.2.1 q.2.2
def stmtP (e : Int) : Nat → Nat → Nat → List Tok → PR St
  | 0, _, _, _ => .error (5, 0)
  | _ + 1, _, _, [] => .error (6, e)
  | f + 1, deep, n, t :: r =>
    if t.kind = 1 ∧ doW (bytesOf t.text) ≠ 0 then
      (if n = 300 then .error (8, t.at_) else
        if doW (bytesOf t.text) < 11 then bindP (shortP e (doW (bytesOf t.text)) r) fun s => bindP (wantP e [59] s.2) fun l => .ok (.mk (doW (bytesOf t.text)) t.at_ s.1.a s.1.b s.1.t s.1.n s.1.e [] [], n + 1, l)
        else bindP (longP e (doW (bytesOf t.text)) r) fun s => bindP (blockP e f deep (n + 1) s.2) fun b =>
          if (doW (bytesOf t.text) = 11 ∨ doW (bytesOf t.text) = 14) ∧ isT [101, 108, 115, 101] b.2.2 = true then
            bindP (blockP e f deep b.2.1 b.2.2.tail) fun q => .ok (.mk (doW (bytesOf t.text)) t.at_ s.1.a s.1.b ⟨#[]⟩ 0 s.1.e b.1 q.1, q.2.1, q.2.2)
          else .ok (.mk (doW (bytesOf t.text)) t.at_ s.1.a s.1.b ⟨#[]⟩ 0 s.1.e b.1 [], b.2.1, b.2.2))
    else .error (5, t.at_)
end
def stageP (e : Int) (n : Nat) (l : List Tok) : PR Sg := match l with
  | [] => .error (6, e)
  | t :: r => bindP (nameP e r) fun a => bindP (wantP e [40] a.2) fun l => bindP (parsL e (l.length + 1) [] l) fun ps =>
    bindP (blockP e (3 * ps.2.length + 3) 0 n ps.2) fun b => .ok (⟨a.1, t.at_, ps.1, b.1⟩, b.2.1, b.2.2)
def stagesL (e : Int) : Nat → List Sg → Nat → List Tok → Except (Int × Int) (List Sg)
  | 0, _, _, _ => .error (5, 0)
  | f + 1, acc, n, l =>
    if l.length = 0 ∧ acc.length ≠ 0 then .ok acc
    else if isT [115, 116, 97, 103, 101] l then (if acc.length = 10 then .error (pErr e 8 l) else bindP (stageP e n l) fun q => stagesL e f (acc ++ [q.1]) q.2.1 q.2.2)
    else .error (pErr e 5 l)
/-- the program that tokens say -/
def parseT (e : Int) (l : List Tok) : Except (Int × Int) (List Sg) := stagesL e (l.length + 2) [] 0 l
end Go.Proofs.YtkeeboomikkojaaGreatDoor

namespace Go.Proofs.YtkeeboomikkojaaGreatDoor
open Go Go.Sx Go.Sx.Tk Go.Sx.Rn Go.Proofs.YtkeeboomikkojaaGreatDoor.Sx

abbrev Key := Int × ByteArray × Int
def tkey (t : Tok) : Key := (t.kind, t.text, t.n)
def kS (l : List UInt8) : Key := (4, bs l, 0)
def kW (l : List UInt8) : Key := (1, bs l, 0)
def kN (s : ByteArray) : Key := (2, s, 0)
def kU (n : Int) : Key := (3, bs (Lib.itoa n), n)
def isK (s : List UInt8) : List Key → Bool
  | [] => false
  | k :: _ => k.1 != 2 && bytesOf k.2.1 == s
theorem isT_K {s : List UInt8} {ts : List Tok} {ks : List Key} (h : ts.map tkey = ks) : isT s ts = isK s ks := by
  subst h
  cases ts <;> rfl
theorem keys_cons {ts : List Tok} {k : Key} {ks : List Key} (h : ts.map tkey = k :: ks) : ∃ t r, ts = t :: r ∧ tkey t = k ∧ r.map tkey = ks := by
  obtain ⟨t, r, h1, h2, h3⟩ := List.map_eq_cons_iff.1 h
  exact ⟨t, r, h1, h2, h3⟩
theorem isK_S {s l : List UInt8} {ks : List Key} : isK s (kS l :: ks) = (l == s) := by
  simp [isK, kS, bytes_bs]
theorem isK_W {s l : List UInt8} {ks : List Key} : isK s (kW l :: ks) = (l == s) := by
  simp [isK, kW, bytes_bs]
theorem isK_N {s : List UInt8} {x : ByteArray} {ks : List Key} : isK s (kN x :: ks) = false := by
  simp [isK, kN]
/-- no text of digits -/
theorem isK_U {s : List UInt8} {n : Int} {ks : List Key} (h0 : 0 ≤ n) (hs : ∀ c ∈ s, dg c = false) (hne : s ≠ []) : isK s (kU n :: ks) = false := by
  have h1 := itoa_all h0
  have h2 : (Lib.itoa n == s) = false := by
    rw [beq_eq_false_iff_ne]
    rintro rfl
    cases hl : Lib.itoa n with
    | nil => exact hne hl
    | cons c r =>
      rw [hl] at h1 hs
      rw [List.all_cons, hs c List.mem_cons_self] at h1
      cases h1
  simp only [isK, kU, bytes_bs, h2, Bool.and_false]
def brkK (m : Int) (q : Int × List Key) : List Key := if rk q.1 < m then kS [40] :: (q.2 ++ [kS [41]]) else q.2
def sgnK (op : Int) : List UInt8 := if op = 4 then [43] else if op = 5 then [45] else if op = 6 then [42] else if op = 7 then [60] else [61, 61]
def exBK (op : Int) (nm : ByteArray) (n : Int) (ts : List (Int × List Key)) : List Key :=
  if op = 1 then [kU n] else if op = 2 then [kN nm] else if op = 3 then kS [45] :: brkK 4 (ts.getD 0 (0, []))
  else brkK (lmO op) (ts.getD 0 (0, [])) ++ kS (sgnK op) :: brkK (rk op + 1) (ts.getD 1 (0, []))
mutual
def exK : Ex → List Key
  | .mk op nm n l => exBK op nm n (exKs l)
def exKs : List Ex → List (Int × List Key)
  | [] => []
  | x :: r => (x.op, exK x) :: exKs r
end
/-- an expression that may stand as a text -/
inductive Xw : Ex → Prop
  | num {n : Int} : 0 ≤ n → n < 1000000000000000000 → Xw (exNum n)
  | name {s : ByteArray} : isNameB s = true → Xw (exName s)
  | neg {a : Ex} : Xw a → Xw (exNeg a)
  | two {op : Int} {a b : Ex} : 4 ≤ op → op ≤ 8 → Xw a → Xw b → Xw (exTwo op a b)
theorem emp_eq {s : ByteArray} (h : emp s) : s = ⟨#[]⟩ := bytes_ext h
mutual
theorem xw_of : ∀ (x : Ex), exF x = 0 → Xw x
  | .mk op nm n l, h => by
    obtain ⟨h1, h2⟩ := exF_0 h
    obtain ⟨a1, a2, a3, a4, a5, a6, a7, a8⟩ := exH_0 h1
    have a1 : 1 ≤ op := a1
    have a2 : op ≤ 8 := a2
    have a3 : (l.length : Int) = wantN op := a3
    have a4 : n ≠ 0 → op = 1 := a4
    have a5 : ¬ emp nm → op = 2 := a5
    have a6 : op = 2 → isNameB nm = true := a6
    have a7 : 0 ≤ n := a7
    have a8 : n < 1000000000000000000 := a8
    have hn : op ≠ 1 → n = 0 := fun hh => Decidable.byContradiction fun h => hh (a4 h)
    have hm : op ≠ 2 → nm = ⟨#[]⟩ := fun hh => emp_eq (Classical.byContradiction fun h => hh (a5 h))
    have hl := xws_of l h2
    unfold wantN at a3
    match l, a3, hl with
    | [], a3, _ =>
      by_cases e1 : op = 1
      · subst e1
        rw [hm (by decide)]
        exact .num a7 a8
      · by_cases e2 : op = 2
        · subst e2
          rw [hn (by decide)]
          exact .name (a6 rfl)
        · rw [if_neg (by omega)] at a3
          split at a3 <;> cases a3
    | [a], a3, hl =>
      have e3 : op = 3 := by
        split at a3
        · cases a3
        · split at a3
          · assumption
          · cases a3
      subst e3
      rw [hn (by decide), hm (by decide)]
      exact .neg (hl a List.mem_cons_self)
    | [a, b], a3, hl =>
      have e3 : ¬ (op = 1 ∨ op = 2) ∧ op ≠ 3 := by
        split at a3
        · cases a3
        · split at a3
          · cases a3
          · exact ⟨by assumption, by assumption⟩
      rw [hn (by omega), hm (by omega)]
      exact .two (by omega) a2 (hl a List.mem_cons_self) (hl b (List.mem_cons_of_mem _ List.mem_cons_self))
    | a :: b :: c :: r, a3, _ =>
      simp only [List.length_cons] at a3
      split at a3
      · omega
      · split at a3 <;> omega
theorem xws_of : ∀ (l : List Ex), exsF l = 0 → ∀ x ∈ l, Xw x
  | [], _, x, hx => absurd hx List.not_mem_nil
  | y :: r, h, x, hx => by
    unfold exsF at h
    obtain ⟨h1, h2⟩ := orF_z h
    rcases List.mem_cons.1 hx with e | hx
    · rw [e]
      exact xw_of y h1
    · exact xws_of r h2 x hx
end
theorem exK_num (n : Int) : exK (exNum n) = [kU n] := rfl
theorem exK_name (s : ByteArray) : exK (exName s) = [kN s] := rfl
theorem exK_neg (a : Ex) : exK (exNeg a) = kS [45] :: brkK 4 (a.op, exK a) := rfl
theorem exK_two {op : Int} (h1 : 4 ≤ op) (a b : Ex) : exK (exTwo op a b) = brkK (lmO op) (a.op, exK a) ++ kS (sgnK op) :: brkK (rk op + 1) (b.op, exK b) := by
  show exBK op ⟨#[]⟩ 0 [(a.op, exK a), (b.op, exK b)] = _
  unfold exBK
  rw [if_neg (by omega), if_neg (by omega), if_neg (by omega)]
  rfl
theorem exN_two (op : Int) (a b : Ex) : exN (exTwo op a b) = exN a + exN b + 1 := by
  simp only [exTwo, exN, exsN]
  omega
theorem exN_neg (a : Ex) : exN (exNeg a) = exN a + 1 := by
  simp only [exNeg, exN, exsN]
  omega
theorem exN_pos (x : Ex) : 1 ≤ exN x := by
  rw [exN_eq]
  omega
/-- nothing that an expression goes on with -/
def stopK (ks : List Key) : Prop := isK [42] ks = false ∧ isK [43] ks = false ∧ isK [45] ks = false ∧ isK [60] ks = false ∧ isK [61, 61] ks = false
theorem stopK_S {l : List UInt8} {ks : List Key} (h : l ∉ [[42], [43], [45], [60], [61, 61]]) : stopK (kS l :: ks) := by
  simp only [List.mem_cons, List.not_mem_nil, or_false, not_or] at h
  unfold stopK
  simp only [isK_S]
  simp [h]
theorem brkK_no {m : Int} {q : Int × List Key} (h : m ≤ rk q.1) : brkK m q = q.2 := by
  unfold brkK
  rw [if_neg (by omega)]
theorem brkK_yes {m : Int} {q : Int × List Key} (h : rk q.1 < m) : brkK m q = kS [40] :: (q.2 ++ [kS [41]]) := by
  unfold brkK
  rw [if_pos h]
theorem exBK_ne (op : Int) (nm : ByteArray) (n : Int) (ts : List (Int × List Key)) : 1 ≤ (exBK op nm n ts).length := by
  unfold exBK
  split
  · simp
  split
  · simp
  split
  · simp
  · rw [List.length_append, List.length_cons]
    omega
theorem exK_ne (x : Ex) : 1 ≤ (exK x).length := by
  cases x
  exact exBK_ne _ _ _ _
theorem brkK_ne (m : Int) (x : Ex) : 1 ≤ (brkK m (x.op, exK x)).length := by
  have := exK_ne x
  unfold brkK
  split
  · simp
  · exact this
theorem keys_len {ts : List Tok} {ks : List Key} (h : ts.map tkey = ks) : ts.length = ks.length := by
  rw [← h, List.length_map]
abbrev AT (e : Int) (x : Ex) : Prop := ∀ {f o n : Nat} {ts : List Tok} {ks : List Key}, ts.map tkey = exK x ++ ks → stopK ks → o + 2 * exN x ≤ 60 → 4 * ts.length + 4 ≤ f →
    ∃ ts', cmpP e f o n ts = .ok (x, n + exN x, ts') ∧ ts'.map tkey = ks
abbrev ST (e : Int) (x : Ex) : Prop := ∀ {f o n : Nat} {ts : List Tok} {ks : List Key}, ts.map tkey = brkK 2 (x.op, exK x) ++ ks → isK [42] ks = false → o + 2 * exN x ≤ 60 → (rk x.op < 2 → o + 2 * exN x + 1 ≤ 60) → 4 * ts.length + 3 ≤ f →
    ∃ f' ts', sumP e f o n ts = sumL e f' o x (n + exN x) ts' ∧ ts'.map tkey = ks ∧ 4 * ts'.length + 3 ≤ f'
abbrev PT (e : Int) (x : Ex) : Prop := ∀ {f o n : Nat} {ts : List Tok} {ks : List Key}, ts.map tkey = brkK 3 (x.op, exK x) ++ ks → o + 2 * exN x ≤ 60 → (rk x.op < 3 → o + 2 * exN x + 1 ≤ 60) → 4 * ts.length + 2 ≤ f →
    ∃ f' ts', prodP e f o n ts = prodL e f' o x (n + exN x) ts' ∧ ts'.map tkey = ks ∧ 4 * ts'.length + 2 ≤ f'
abbrev UT (e : Int) (x : Ex) : Prop := ∀ {f o n : Nat} {ts : List Tok} {ks : List Key}, ts.map tkey = brkK 4 (x.op, exK x) ++ ks → o + 2 * exN x ≤ 60 → (rk x.op < 4 → o + 2 * exN x + 1 ≤ 60) → 4 * ts.length + 1 ≤ f →
    ∃ ts', unitP e f o n ts = .ok (x, n + exN x, ts') ∧ ts'.map tkey = ks
section
variable {e : Int} {x : Ex}
theorem prodL_stop {f o n : Nat} {ts : List Tok} {ks : List Key} (h : ts.map tkey = ks) (hs : isK [42] ks = false) (hf : 1 ≤ f) : prodL e f o x n ts = .ok (x, n, ts) := by
  obtain ⟨f, rfl⟩ : ∃ g, f = g + 1 := ⟨f - 1, by omega⟩
  unfold prodL
  rw [isT_K h, hs]
  rfl
theorem sumL_stop {f o n : Nat} {ts : List Tok} {ks : List Key} (h : ts.map tkey = ks) (hs : isK [43] ks = false) (hs' : isK [45] ks = false) (hf : 1 ≤ f) : sumL e f o x n ts = .ok (x, n, ts) := by
  obtain ⟨f, rfl⟩ : ∃ g, f = g + 1 := ⟨f - 1, by omega⟩
  unfold sumL
  rw [isT_K h, isT_K h, hs, hs']
  rfl
theorem A_of_S (hr : 2 ≤ rk x.op) (hS : ST e x) : AT e x := by
  intro f o n ts ks hts hst hb hf
  obtain ⟨f, rfl⟩ : ∃ g, f = g + 1 := ⟨f - 1, by omega⟩
  obtain ⟨f', ts', h1, h2, h3⟩ := hS (f := f) (o := o) (n := n) (ts := ts) (ks := ks) (by rw [brkK_no hr]; exact hts) hst.1 hb (fun h => by omega) (by omega)
  refine ⟨ts', ?_, h2⟩
  unfold cmpP
  rw [h1, sumL_stop h2 hst.2.1 hst.2.2.1 (by omega), bindP_ok]
  show (if isT [60] ts' then _ else _) = _
  rw [isT_K h2, hst.2.2.2.1, if_neg Bool.false_ne_true]
  show (if isT [61, 61] ts' then _ else _) = _
  rw [isT_K h2, hst.2.2.2.2, if_neg Bool.false_ne_true]
theorem S_of_P (hr : rk x.op ≠ 2) (hP : PT e x) : ST e x := by
  intro f o n ts ks hts hst hb hb' hf
  obtain ⟨f, rfl⟩ : ∃ g, f = g + 1 := ⟨f - 1, by omega⟩
  have hbr : brkK 2 (x.op, exK x) = brkK 3 (x.op, exK x) := by
    unfold brkK
    by_cases h : rk x.op < 2
    · rw [if_pos h, if_pos (show rk x.op < 3 by omega)]
    · rw [if_neg h, if_neg (show ¬ rk x.op < 3 by omega)]
  obtain ⟨f', ts', h1, h2, h3⟩ := hP (f := f) (o := o) (n := n) (ts := ts) (ks := ks) (by rw [← hbr]; exact hts) hb (fun h => hb' (by omega)) (by omega)
  refine ⟨f, ts', ?_, h2, ?_⟩
  · conv => lhs; unfold sumP
    rw [h1, prodL_stop h2 hst (by omega), bindP_ok]
  · have := keys_len hts
    have := keys_len h2
    have := brkK_ne 2 x
    simp only [List.length_append] at *
    omega
theorem P_of_U (hr : rk x.op ≠ 3) (hU : UT e x) : PT e x := by
  intro f o n ts ks hts hb hb' hf
  obtain ⟨f, rfl⟩ : ∃ g, f = g + 1 := ⟨f - 1, by omega⟩
  have hbr : brkK 3 (x.op, exK x) = brkK 4 (x.op, exK x) := by
    unfold brkK
    by_cases h : rk x.op < 3
    · rw [if_pos h, if_pos (show rk x.op < 4 by omega)]
    · rw [if_neg h, if_neg (show ¬ rk x.op < 4 by omega)]
  obtain ⟨ts', h1, h2⟩ := hU (f := f) (o := o) (n := n) (ts := ts) (ks := ks) (by rw [← hbr]; exact hts) hb (fun h => hb' (by omega)) (by omega)
  refine ⟨f, ts', ?_, h2, ?_⟩
  · conv => lhs; unfold prodP
    rw [h1, bindP_ok]
  · have := keys_len hts
    have := keys_len h2
    have := brkK_ne 3 x
    simp only [List.length_append] at *
    omega
theorem U_of_A (hr : rk x.op < 4) (hA : AT e x) : UT e x := by
  intro f o n ts ks hts hb hb' hf
  obtain ⟨f, rfl⟩ : ∃ g, f = g + 1 := ⟨f - 1, by omega⟩
  rw [brkK_yes hr, List.cons_append, List.append_assoc] at hts
  obtain ⟨t, r, rfl, ht, hr'⟩ := keys_cons hts
  have hb2 := hb' hr
  obtain ⟨ts', h1, h2⟩ := hA (f := f) (o := o + 1) (n := n) (ts := r) (ks := [kS [41]] ++ ks) hr' (stopK_S (by decide)) (by omega) (by simp only [List.length_cons] at hf; omega)
  obtain ⟨t2, r2, rfl, ht2, hr2⟩ := keys_cons h2
  refine ⟨r2, ?_, hr2⟩
  unfold unitP
  rw [isT_K hts, isK_S, if_pos (by decide), if_neg (by omega)]
  show bindP (cmpP e f (o + 1) n r) _ = _
  rw [h1, bindP_ok]
  show (if isT [41] (t2 :: r2) then _ else _) = _
  rw [isT_K h2]
  rfl
theorem U_num {m : Int} (h0 : 0 ≤ m) : UT e (exNum m) := by
  intro f o n ts ks hts hb hb' hf
  obtain ⟨f, rfl⟩ : ∃ g, f = g + 1 := ⟨f - 1, by omega⟩
  rw [brkK_no (show (4 : Int) ≤ rk 1 by decide)] at hts
  obtain ⟨t, r, rfl, ht, hr⟩ := keys_cons hts
  refine ⟨r, ?_, hr⟩
  unfold unitP
  rw [isT_K hts, isT_K hts, exK_num]
  show (if isK [40] (kU m :: ([] ++ ks)) then _ else if isK [45] (kU m :: ([] ++ ks)) then _ else _) = _
  rw [isK_U h0 (by decide) (by decide), isK_U h0 (by decide) (by decide), if_neg Bool.false_ne_true, if_neg Bool.false_ne_true]
  obtain ⟨k1, k2⟩ := Prod.mk.inj ht
  obtain ⟨k2, k3⟩ := Prod.mk.inj k2
  show (if t.kind = 3 then _ else _) = _
  rw [if_pos k1, k3]
  rfl
theorem U_name {s : ByteArray} : UT e (exName s) := by
  intro f o n ts ks hts hb hb' hf
  obtain ⟨f, rfl⟩ : ∃ g, f = g + 1 := ⟨f - 1, by omega⟩
  rw [brkK_no (show (4 : Int) ≤ rk 2 by decide)] at hts
  obtain ⟨t, r, rfl, ht, hr⟩ := keys_cons hts
  refine ⟨r, ?_, hr⟩
  unfold unitP
  rw [isT_K hts, isT_K hts, exK_name]
  show (if isK [40] (kN s :: ([] ++ ks)) then _ else if isK [45] (kN s :: ([] ++ ks)) then _ else _) = _
  rw [isK_N, isK_N, if_neg Bool.false_ne_true, if_neg Bool.false_ne_true]
  obtain ⟨k1, k2⟩ := Prod.mk.inj ht
  obtain ⟨k2, k3⟩ := Prod.mk.inj k2
  show (if t.kind = 3 then _ else if t.kind = 2 then _ else _) = _
  rw [if_neg (by rw [k1]; decide), if_pos k1, k2]
  rfl
theorem U_neg {a : Ex} (hU : UT e a) : UT e (exNeg a) := by
  intro f o n ts ks hts hb hb' hf
  obtain ⟨f, rfl⟩ : ∃ g, f = g + 1 := ⟨f - 1, by omega⟩
  rw [brkK_no (show (4 : Int) ≤ rk 3 by decide), exK_neg, List.cons_append] at hts
  obtain ⟨t, r, rfl, ht, hr⟩ := keys_cons hts
  rw [exN_neg] at hb ⊢
  obtain ⟨ts', h1, h2⟩ := hU (f := f) (o := o + 1) (n := n + 1) hr (by omega) (fun _ => by omega) (by simp only [List.length_cons] at hf; omega)
  refine ⟨ts', ?_, h2⟩
  unfold unitP
  rw [isT_K hts, isT_K hts, isK_S, isK_S, if_neg (by decide), if_pos (by decide), if_neg (by omega)]
  show bindP (unitP e f (o + 1) (n + 1) r) _ = _
  rw [h1, bindP_ok]
  show (Except.ok (exNeg a, n + 1 + exN a, ts') : PR Ex) = _
  rw [show n + 1 + exN a = n + (exN a + 1) by omega]
theorem P_mul {a b : Ex} (hP : PT e a) (hU : UT e b) : PT e (exTwo 6 a b) := by
  intro f o n ts ks hts hb hb' hf
  rw [brkK_no (show (3 : Int) ≤ rk 6 by decide), exK_two (by decide), List.append_assoc, List.cons_append] at hts
  rw [exN_two] at hb ⊢
  have hb1 := exN_pos b
  have ha1 := exN_pos a
  obtain ⟨f1, ts1, h1, h2, h3⟩ := hP (f := f) (o := o) (n := n) hts (by omega) (fun _ => by omega) hf
  obtain ⟨t, r, rfl, ht, hr⟩ := keys_cons h2
  simp only [List.length_cons] at h3
  obtain ⟨g, rfl⟩ : ∃ g, f1 = g + 1 := ⟨f1 - 1, by omega⟩
  obtain ⟨ts', h4, h5⟩ := hU (f := g) (o := o) (n := n + exN a) hr (by omega) (fun _ => by omega) (by omega)
  refine ⟨g, ts', ?_, h5, ?_⟩
  · rw [h1]
    conv => lhs; unfold prodL
    rw [isT_K h2, isK_S, if_pos (by decide)]
    show bindP (unitP e g o (n + exN a) r) _ = _
    rw [h4, bindP_ok]
    show prodL e g o (exTwo 6 a b) (n + exN a + exN b + 1) ts' = _
    rw [show n + exN a + exN b + 1 = n + (exN a + exN b + 1) by omega]
  · have := keys_len hr
    have := keys_len h5
    simp only [List.length_append] at *
    omega
theorem S_two {op : Int} (ho : op = 4 ∨ op = 5) {a b : Ex} (hS : ST e a) (hP : PT e b) : ST e (exTwo op a b) := by
  intro f o n ts ks hts hst hb hb' hf
  have hr2 : rk op = 2 := by rcases ho with rfl | rfl <;> decide
  have hl2 : lmO op = 2 := by rcases ho with rfl | rfl <;> decide
  rw [brkK_no (show (2 : Int) ≤ rk op by omega), exK_two (by omega), List.append_assoc, List.cons_append, hr2, hl2] at hts
  rw [exN_two] at hb ⊢
  have hb1 := exN_pos b
  have ha1 := exN_pos a
  obtain ⟨f1, ts1, h1, h2, h3⟩ := hS (f := f) (o := o) (n := n) hts (by rw [isK_S]; rcases ho with rfl | rfl <;> decide) (by omega) (fun _ => by omega) hf
  obtain ⟨t, r, rfl, ht, hr⟩ := keys_cons h2
  simp only [List.length_cons] at h3
  obtain ⟨g, rfl⟩ : ∃ g, f1 = g + 1 := ⟨f1 - 1, by omega⟩
  obtain ⟨f2, ts2, h4, h5, h6⟩ := hP (f := g) (o := o) (n := n + exN a) hr (by omega) (fun _ => by omega) (by omega)
  refine ⟨g, ts2, ?_, h5, ?_⟩
  · rw [h1]
    conv => lhs; unfold sumL
    rw [isT_K h2, isT_K h2, isK_S, isK_S]
    rcases ho with rfl | rfl
    · rw [if_pos (by decide)]
      show bindP (prodP e g o (n + exN a) r) _ = _
      rw [h4, prodL_stop h5 hst (by omega), bindP_ok]
      show sumL e g o (exTwo 4 a b) (n + exN a + exN b + 1) ts2 = _
      rw [show n + exN a + exN b + 1 = n + (exN a + exN b + 1) by omega]
    · rw [if_neg (by decide), if_pos (by decide)]
      show bindP (prodP e g o (n + exN a) r) _ = _
      rw [h4, prodL_stop h5 hst (by omega), bindP_ok]
      show sumL e g o (exTwo 5 a b) (n + exN a + exN b + 1) ts2 = _
      rw [show n + exN a + exN b + 1 = n + (exN a + exN b + 1) by omega]
  · have := keys_len hr
    have := keys_len h5
    simp only [List.length_append] at *
    omega
theorem A_two {op : Int} (ho : op = 7 ∨ op = 8) {a b : Ex} (hS : ST e a) (hT : ST e b) : AT e (exTwo op a b) := by
  intro f o n ts ks hts hst hb hf
  have hr2 : rk op = 1 := by rcases ho with rfl | rfl <;> decide
  have hl2 : lmO op = 2 := by rcases ho with rfl | rfl <;> decide
  rw [exK_two (by omega), List.append_assoc, List.cons_append, hr2, hl2] at hts
  rw [exN_two] at hb ⊢
  have hb1 := exN_pos b
  have ha1 := exN_pos a
  obtain ⟨f, rfl⟩ : ∃ g, f = g + 1 := ⟨f - 1, by omega⟩
  obtain ⟨f1, ts1, h1, h2, h3⟩ := hS (f := f) (o := o) (n := n) hts (by rw [isK_S]; rcases ho with rfl | rfl <;> decide) (by omega) (fun _ => by omega) (by omega)
  have h1' := sumL_stop (e := e) (x := a) (f := f1) (o := o) (n := n + exN a) h2 (by rw [isK_S]; rcases ho with rfl | rfl <;> decide) (by rw [isK_S]; rcases ho with rfl | rfl <;> decide) (by omega)
  obtain ⟨t, r, rfl, ht, hr⟩ := keys_cons h2
  simp only [List.length_cons] at h3
  have hlen := keys_len hts
  have hlr := keys_len hr
  have han := brkK_ne 2 a
  rw [List.length_append, List.length_cons, List.length_append] at hlen
  rw [List.length_append] at hlr
  obtain ⟨f2, ts2, h4, h5, h6⟩ := hT (f := f) (o := o) (n := n + exN a) hr hst.1 (by omega) (fun _ => by omega) (by omega)
  refine ⟨ts2, ?_, h5⟩
  unfold cmpP
  rw [h1, h1', bindP_ok]
  show (if isT [60] (t :: r) then bindP (sumP e f o (n + exN a) r) _ else if isT [61, 61] (t :: r) then bindP (sumP e f o (n + exN a) r) _ else _) = _
  rw [h4, sumL_stop h5 hst.2.1 hst.2.2.1 (by omega), bindP_ok, bindP_ok, isT_K h2, isT_K h2, isK_S, isK_S]
  rcases ho with rfl | rfl
  · rw [if_pos (by decide)]
    show (Except.ok (exTwo 7 a b, n + exN a + exN b + 1, ts2) : PR Ex) = _
    rw [show n + exN a + exN b + 1 = n + (exN a + exN b + 1) by omega]
  · rw [if_neg (by decide), if_pos (by decide)]
    show (Except.ok (exTwo 8 a b, n + exN a + exN b + 1, ts2) : PR Ex) = _
    rw [show n + exN a + exN b + 1 = n + (exN a + exN b + 1) by omega]
theorem lv (e : Int) : ∀ {x : Ex}, Xw x → UT e x ∧ PT e x ∧ ST e x ∧ AT e x := by
  intro x hx
  induction hx with
  | @num m h0 h1 =>
    have u : UT e (exNum m) := U_num h0
    have p : PT e (exNum m) := P_of_U (x := exNum m) (show rk 1 ≠ 3 by decide) u
    have s : ST e (exNum m) := S_of_P (x := exNum m) (show rk 1 ≠ 2 by decide) p
    exact ⟨u, p, s, A_of_S (x := exNum m) (show 2 ≤ rk 1 by decide) s⟩
  | @name m h0 =>
    have u : UT e (exName m) := U_name
    have p : PT e (exName m) := P_of_U (x := exName m) (show rk 2 ≠ 3 by decide) u
    have s : ST e (exName m) := S_of_P (x := exName m) (show rk 2 ≠ 2 by decide) p
    exact ⟨u, p, s, A_of_S (x := exName m) (show 2 ≤ rk 2 by decide) s⟩
  | @neg a _ ih =>
    have u : UT e (exNeg a) := U_neg ih.1
    have p : PT e (exNeg a) := P_of_U (x := exNeg a) (show rk 3 ≠ 3 by decide) u
    have s : ST e (exNeg a) := S_of_P (x := exNeg a) (show rk 3 ≠ 2 by decide) p
    exact ⟨u, p, s, A_of_S (x := exNeg a) (show 2 ≤ rk 3 by decide) s⟩
  | @two op a b h4 h8 _ _ iha ihb =>
    by_cases h6 : op = 6
    · subst h6
      have p : PT e (exTwo 6 a b) := P_mul iha.2.1 ihb.1
      have s : ST e (exTwo 6 a b) := S_of_P (x := exTwo 6 a b) (show rk 6 ≠ 2 by decide) p
      have c : AT e (exTwo 6 a b) := A_of_S (x := exTwo 6 a b) (show 2 ≤ rk 6 by decide) s
      exact ⟨U_of_A (x := exTwo 6 a b) (show rk 6 < 4 by decide) c, p, s, c⟩
    · by_cases h45 : op = 4 ∨ op = 5
      · have hr : rk op = 2 := by rcases h45 with rfl | rfl <;> decide
        have s : ST e (exTwo op a b) := S_two h45 iha.2.2.1 ihb.2.1
        have c : AT e (exTwo op a b) := A_of_S (x := exTwo op a b) (show 2 ≤ rk op by omega) s
        have u : UT e (exTwo op a b) := U_of_A (x := exTwo op a b) (show rk op < 4 by omega) c
        exact ⟨u, P_of_U (x := exTwo op a b) (show rk op ≠ 3 by omega) u, s, c⟩
      · have h78 : op = 7 ∨ op = 8 := by omega
        have hr : rk op = 1 := by rcases h78 with rfl | rfl <;> decide
        have c : AT e (exTwo op a b) := A_two h78 iha.2.2.1 ihb.2.2.1
        have u : UT e (exTwo op a b) := U_of_A (x := exTwo op a b) (show rk op < 4 by omega) c
        have p : PT e (exTwo op a b) := P_of_U (x := exTwo op a b) (show rk op ≠ 3 by omega) u
        exact ⟨u, p, S_of_P (x := exTwo op a b) (show rk op ≠ 2 by omega) p, c⟩
/-- a whole expression -/
theorem exprP_K {x : Ex} (hx : Xw x) (hn : exN x ≤ 20) {ts : List Tok} {ks : List Key} (hts : ts.map tkey = exK x ++ ks) (hst : stopK ks) : ∃ ts', exprP e ts = .ok (x, ts') ∧ ts'.map tkey = ks := by
  obtain ⟨ts', h1, h2⟩ := (lv e hx).2.2.2 (f := 4 * ts.length + 4) (o := 0) (n := 0) hts hst (by omega) (Nat.le_refl _)
  have hl := keys_len hts
  have hne := exK_ne x
  rw [List.length_append] at hl
  cases ts with
  | nil => simp at hl; omega
  | cons t r =>
    refine ⟨ts', ?_, h2⟩
    unfold exprP
    show bindP (cmpP e (4 * (t :: r).length + 4) 0 0 (t :: r)) _ = _
    rw [h1, bindP_ok]
    show (if 20 < 0 + exN x then _ else _) = _
    rw [if_neg (by omega)]
end
end Go.Proofs.YtkeeboomikkojaaGreatDoor

namespace Go.Proofs.YtkeeboomikkojaaGreatDoor
open Go Go.Sx Go.Sx.Tk Go.Sx.Rn Go.Proofs.YtkeeboomikkojaaGreatDoor.Sx

def w_let : List UInt8 := [108, 101, 116]
def w_set : List UInt8 := [115, 101, 116]
def w_emit : List UInt8 := [101, 109, 105, 116]
def w_chan : List UInt8 := [99, 104, 97, 110]
def w_clone : List UInt8 := [99, 108, 111, 110, 101]
def w_send : List UInt8 := [115, 101, 110, 100]
def w_recv : List UInt8 := [114, 101, 99, 118]
def w_close : List UInt8 := [99, 108, 111, 115, 101]
def w_abandon : List UInt8 := [97, 98, 97, 110, 100, 111, 110]
def w_drain : List UInt8 := [100, 114, 97, 105, 110]
def w_spawn : List UInt8 := [115, 112, 97, 119, 110]
def w_take : List UInt8 := [116, 97, 107, 101]
def w_for : List UInt8 := [102, 111, 114]
def w_from : List UInt8 := [102, 114, 111, 109]
def w_repeat : List UInt8 := [114, 101, 112, 101, 97, 116]
def w_if : List UInt8 := [105, 102]
def w_else : List UInt8 := [101, 108, 115, 101]
def w_int : List UInt8 := [105, 110, 116]
def w_stage : List UInt8 := [115, 116, 97, 103, 101]
/-! ### the tokens that are printed -/
def wdK (c : UInt8) : Key := if c = 115 then kW w_send else kW w_recv
def kindK (s : ByteArray) : List Key := ((bytesOf s).take (s.size - 1)).map wdK ++ [kW w_int]
def argK : Nat → List Ex → List Key
  | _, [] => []
  | n, x :: r => (if n = 0 then [] else [kS [44]]) ++ (exK x ++ argK (n + 1) r)
def headK (x : St) : List Key :=
  if x.d = 1 then [kW w_let, kN x.a, kS [61]]
  else if x.d = 2 then [kW w_set, kN x.a, kS [61]]
  else if x.d = 3 then [kW w_emit]
  else if x.d = 4 then [kW w_chan, kN x.a, kN x.b] ++ (kindK x.t ++ [kU x.n])
  else if x.d = 5 then [kW w_clone, kN x.a, kN x.b]
  else if x.d = 6 then [kW w_send, kN x.a]
  else if x.d = 7 then [kW w_close, kN x.a]
  else if x.d = 8 then [kW w_abandon, kN x.a]
  else if x.d = 9 then [kW w_drain, kN x.a]
  else if x.d = 10 then [kW w_spawn, kN x.a, kS [40]]
  else if x.d = 11 then [kW w_take, kN x.a, kW w_from, kN x.b]
  else if x.d = 12 then [kW w_for, kN x.a, kW w_from, kN x.b]
  else if x.d = 13 then [kW w_repeat]
  else [kW w_if]
mutual
def stK : St → List Key
  | .mk d at_ a b t n e body els => headK (.mk d at_ a b t n e body els) ++ (argK 0 e ++
      (if (fmD d).body then (kS [123] :: (stsK body ++ [kS [125]])) ++ (if els.length = 0 then [] else kW w_else :: kS [123] :: (stsK els ++ [kS [125]]))
       else (if d = 10 then [kS [41]] else []) ++ [kS [59]]))
def stsK : List St → List Key
  | [] => []
  | x :: r => stK x ++ stsK r
end
/-! ### statements that may stand as a text -/
abbrev e0 : ByteArray := ⟨#[]⟩
def XwL (x : Ex) : Prop := Xw x ∧ exN x ≤ 20
inductive Sw : Nat → St → Prop
  | let_ {deep : Nat} {d at_ : Int} {a : ByteArray} {x : Ex} : d = 1 ∨ d = 2 → isNameB a = true → XwL x → Sw deep (.mk d at_ a e0 e0 0 [x] [] [])
  | emit {deep : Nat} {at_ : Int} {x : Ex} : XwL x → Sw deep (.mk 3 at_ e0 e0 e0 0 [x] [] [])
  | chan {deep : Nat} {at_ n : Int} {a b t : ByteArray} : isNameB a = true → isNameB b = true → isTyB t 3 = true → 0 ≤ n → n < 1000000000000000000 → Sw deep (.mk 4 at_ a b t n [] [] [])
  | clone {deep : Nat} {at_ : Int} {a b : ByteArray} : isNameB a = true → isNameB b = true → Sw deep (.mk 5 at_ a b e0 0 [] [] [])
  | send {deep : Nat} {at_ : Int} {a : ByteArray} {x : Ex} : isNameB a = true → XwL x → Sw deep (.mk 6 at_ a e0 e0 0 [x] [] [])
  | one {deep : Nat} {d at_ : Int} {a : ByteArray} : d = 7 ∨ d = 8 ∨ d = 9 → isNameB a = true → Sw deep (.mk d at_ a e0 e0 0 [] [] [])
  | spawn {deep : Nat} {at_ : Int} {a : ByteArray} {es : List Ex} : isNameB a = true → es.length ≤ 6 → (∀ x ∈ es, XwL x) → Sw deep (.mk 10 at_ a e0 e0 0 es [] [])
  | take {deep : Nat} {at_ : Int} {a b : ByteArray} {body els : List St} : isNameB a = true → isNameB b = true → deep < 8 → (∀ y ∈ body, Sw (deep + 1) y) → (∀ y ∈ els, Sw (deep + 1) y) → Sw deep (.mk 11 at_ a b e0 0 [] body els)
  | for_ {deep : Nat} {at_ : Int} {a b : ByteArray} {body : List St} : isNameB a = true → isNameB b = true → deep < 8 → (∀ y ∈ body, Sw (deep + 1) y) → Sw deep (.mk 12 at_ a b e0 0 [] body [])
  | rep {deep : Nat} {at_ : Int} {x : Ex} {body : List St} : XwL x → deep < 8 → (∀ y ∈ body, Sw (deep + 1) y) → Sw deep (.mk 13 at_ e0 e0 e0 0 [x] body [])
  | if_ {deep : Nat} {at_ : Int} {x : Ex} {body els : List St} : XwL x → deep < 8 → (∀ y ∈ body, Sw (deep + 1) y) → (∀ y ∈ els, Sw (deep + 1) y) → Sw deep (.mk 14 at_ e0 e0 e0 0 [x] body els)
theorem xwL_of {l : List Ex} (h1 : exsF l = 0) (h2 : ∀ y ∈ l, exN y ≤ 20) : ∀ x ∈ l, XwL x := fun x hx => ⟨xws_of l h1 x hx, h2 x hx⟩
theorem lone_of {l : List Ex} (h : l.length = 1) : ∃ x, l = [x] := by
  match l, h with
  | [x], _ => exact ⟨x, rfl⟩
mutual
theorem sw_of : ∀ (x : St) {deep : Nat}, stG deep x → Sw deep x
  | .mk d at_ a b t n e body els, deep, h => by
    obtain ⟨h1, h2, h3⟩ := stG_iff.1 h
    have hl : e.length ≤ 6 := by
      obtain ⟨_, _, _, hl, _⟩ := h1
      exact hl
    obtain ⟨f, ok⟩ := hdG_ok h1
    have hbd := sws_of body (deep := deep + 1) h2
    have hel := sws_of els (deep := deep + 1) h3
    have hx : ∀ x ∈ e, XwL x := xwL_of ok.ex ok.e20
    have d1 : 1 ≤ d := ok.d1
    have d2 : d ≤ 14 := ok.d2
    have hdp : f.body = true → deep < 8 := fun hh => by have := ok.dp hh; omega
    have na : f.a = true → isNameB a = true := ok.na
    have nb : f.b = true → isNameB b = true := ok.nb
    have ty : f.t = true → isTyB t 3 = true := ok.ty
    have ea : f.a = false → a = e0 := fun hh => emp_eq (ok.ea hh)
    have eb : f.b = false → b = e0 := fun hh => emp_eq (ok.eb hh)
    have et : f.t = false → t = e0 := fun hh => emp_eq (ok.et hh)
    have en : f.n = false → n = 0 := ok.en
    have ne : 0 ≤ f.e → (e.length : Int) = f.e := ok.ne
    have bo : f.body = false → body = [] := ok.bo
    have el : f.els = false → els = [] := ok.el
    have n0 : 0 ≤ n := ok.n0
    have n1 : n < 1000000000000000000 := ok.n1
    have hf : formOf d = some f := ok.form
    clear h h1 h2 h3 ok
    unfold formOf at hf
    split at hf
    · obtain rfl := Option.some.inj hf
      rename_i hd
      obtain ⟨x, rfl⟩ := lone_of (l := e) (by have := ne (by decide); simp only at this; omega)
      obtain rfl := eb rfl
      obtain rfl := et rfl
      obtain rfl := en rfl
      obtain rfl := bo rfl
      obtain rfl := el rfl
      have hx := hx x List.mem_cons_self
      by_cases h6 : d = 6
      · subst h6
        exact .send (na rfl) hx
      · exact .let_ (by omega) (na rfl) hx
    split at hf
    · obtain rfl := Option.some.inj hf
      rename_i hd
      subst hd
      obtain ⟨x, rfl⟩ := lone_of (l := e) (by have := ne (by decide); simp only at this; omega)
      obtain rfl := ea rfl
      obtain rfl := eb rfl
      obtain rfl := et rfl
      obtain rfl := en rfl
      obtain rfl := bo rfl
      obtain rfl := el rfl
      exact .emit (hx x List.mem_cons_self)
    split at hf
    · obtain rfl := Option.some.inj hf
      rename_i hd
      subst hd
      obtain rfl : e = [] := List.eq_nil_of_length_eq_zero (by have := ne (by decide); simp only at this; omega)
      obtain rfl := bo rfl
      obtain rfl := el rfl
      exact .chan (na rfl) (nb rfl) (ty rfl) n0 n1
    split at hf
    · obtain rfl := Option.some.inj hf
      rename_i hd
      subst hd
      obtain rfl : e = [] := List.eq_nil_of_length_eq_zero (by have := ne (by decide); simp only at this; omega)
      obtain rfl := et rfl
      obtain rfl := en rfl
      obtain rfl := bo rfl
      obtain rfl := el rfl
      exact .clone (na rfl) (nb rfl)
    split at hf
    · obtain rfl := Option.some.inj hf
      rename_i hd
      obtain rfl : e = [] := List.eq_nil_of_length_eq_zero (by have := ne (by decide); simp only at this; omega)
      obtain rfl := eb rfl
      obtain rfl := et rfl
      obtain rfl := en rfl
      obtain rfl := bo rfl
      obtain rfl := el rfl
      exact .one hd (na rfl)
    split at hf
    · obtain rfl := Option.some.inj hf
      rename_i hd
      subst hd
      obtain rfl := eb rfl
      obtain rfl := et rfl
      obtain rfl := en rfl
      obtain rfl := bo rfl
      obtain rfl := el rfl
      exact .spawn (na rfl) hl hx
    split at hf
    · obtain rfl := Option.some.inj hf
      rename_i hd
      subst hd
      obtain rfl : e = [] := List.eq_nil_of_length_eq_zero (by have := ne (by decide); simp only at this; omega)
      obtain rfl := et rfl
      obtain rfl := en rfl
      exact .take (na rfl) (nb rfl) (hdp rfl) hbd hel
    split at hf
    · obtain rfl := Option.some.inj hf
      rename_i hd
      subst hd
      obtain rfl : e = [] := List.eq_nil_of_length_eq_zero (by have := ne (by decide); simp only at this; omega)
      obtain rfl := et rfl
      obtain rfl := en rfl
      obtain rfl := el rfl
      exact .for_ (na rfl) (nb rfl) (hdp rfl) hbd
    split at hf
    · obtain rfl := Option.some.inj hf
      rename_i hd
      subst hd
      obtain ⟨x, rfl⟩ := lone_of (l := e) (by have := ne (by decide); simp only at this; omega)
      obtain rfl := ea rfl
      obtain rfl := eb rfl
      obtain rfl := et rfl
      obtain rfl := en rfl
      obtain rfl := el rfl
      exact .rep (hx x List.mem_cons_self) (hdp rfl) hbd
    split at hf
    · obtain rfl := Option.some.inj hf
      rename_i hd
      subst hd
      obtain ⟨x, rfl⟩ := lone_of (l := e) (by have := ne (by decide); simp only at this; omega)
      obtain rfl := ea rfl
      obtain rfl := eb rfl
      obtain rfl := et rfl
      obtain rfl := en rfl
      exact .if_ (hx x List.mem_cons_self) (hdp rfl) hbd hel
    · cases hf
theorem sws_of : ∀ (l : List St) {deep : Nat}, stsG deep l → ∀ y ∈ l, Sw deep y
  | [], _, _, y, hy => absurd hy List.not_mem_nil
  | x :: r, deep, h, y, hy => by
    unfold stsG at h
    rcases List.mem_cons.1 hy with e | hy
    · rw [e]
      exact sw_of x h.1
    · exact sws_of r h.2 y hy
end
/-! ### small pieces read -/
section
variable {e : Int} {ts : List Tok} {ks : List Key}
theorem nameP_K {s : ByteArray} (h : ts.map tkey = kN s :: ks) : ∃ ts', nameP e ts = .ok (s, ts') ∧ ts'.map tkey = ks := by
  obtain ⟨t, r, rfl, ht, hr⟩ := keys_cons h
  obtain ⟨k1, k2⟩ := Prod.mk.inj ht
  obtain ⟨k2, k3⟩ := Prod.mk.inj k2
  refine ⟨r, ?_, hr⟩
  unfold nameP
  show (if t.kind = 2 then _ else _) = _
  rw [if_pos k1, k2]
theorem numP_K {n : Int} (h : ts.map tkey = kU n :: ks) : ∃ ts', numP e ts = .ok (n, ts') ∧ ts'.map tkey = ks := by
  obtain ⟨t, r, rfl, ht, hr⟩ := keys_cons h
  obtain ⟨k1, k2⟩ := Prod.mk.inj ht
  obtain ⟨k2, k3⟩ := Prod.mk.inj k2
  refine ⟨r, ?_, hr⟩
  unfold numP
  show (if t.kind = 3 then _ else _) = _
  rw [if_pos k1, k3]
theorem wantP_S {l : List UInt8} (h : ts.map tkey = kS l :: ks) : ∃ ts', wantP e l ts = .ok ts' ∧ ts'.map tkey = ks := by
  obtain ⟨t, r, rfl, ht, hr⟩ := keys_cons h
  refine ⟨r, ?_, hr⟩
  unfold wantP
  rw [isT_K h, isK_S, if_pos (by simp)]
  rfl
theorem wantP_W {l : List UInt8} (h : ts.map tkey = kW l :: ks) : ∃ ts', wantP e l ts = .ok ts' ∧ ts'.map tkey = ks := by
  obtain ⟨t, r, rfl, ht, hr⟩ := keys_cons h
  refine ⟨r, ?_, hr⟩
  unfold wantP
  rw [isT_K h, isK_W, if_pos (by simp)]
  rfl
theorem typ_go : ∀ (l : List UInt8) {acc : List UInt8} {ts : List Tok}, (∀ c ∈ l, c = 115 ∨ c = 114) → acc.length + l.length ≤ 3 → ts.map tkey = l.map wdK ++ kW w_int :: ks →
    ∃ ts', typP e acc ts = .ok (acc ++ l ++ [105], ts') ∧ ts'.map tkey = ks
  | [], acc, ts, _, _, h => by
    obtain ⟨t, r, rfl, ht, hr⟩ := keys_cons h
    refine ⟨r, ?_, hr⟩
    unfold typP
    rw [isT_K h]
    show (if isK [105, 110, 116] (kW w_int :: ks) then _ else _) = _
    rw [isK_W, if_pos (by decide), List.append_nil]
  | c :: l, acc, ts, hc, hn, h => by
    rw [List.map_cons, List.cons_append] at h
    obtain ⟨t, r, rfl, ht, hr⟩ := keys_cons h
    have hcc := hc c List.mem_cons_self
    simp only [List.length_cons] at hn
    have hw : ∃ w, wdK c = kW w ∧ (w == [105, 110, 116]) = false ∧ ((w == [115, 101, 110, 100]) || (w == [114, 101, 99, 118])) = true ∧ w.take 1 = [c] := by
      rcases hcc with rfl | rfl
      · exact ⟨w_send, rfl, by decide, by decide, by decide⟩
      · exact ⟨w_recv, rfl, by decide, by decide, by decide⟩
    obtain ⟨w, hw1, hw2, hw3, hw4⟩ := hw
    rw [hw1] at h
    obtain ⟨ts', h1, h2⟩ := typ_go l (acc := acc ++ [c]) (fun d hd => hc d (List.mem_cons_of_mem _ hd)) (by simp only [List.length_append, List.length_cons, List.length_nil]; omega) hr
    refine ⟨ts', ?_, h2⟩
    unfold typP
    rw [isT_K h, isT_K h, isT_K h, isK_W, isK_W, isK_W, hw2, if_neg Bool.false_ne_true, hw3, if_pos rfl, if_neg (by omega)]
    rw [hw1] at ht
    obtain ⟨k1, k2⟩ := Prod.mk.inj ht
    obtain ⟨k2, k3⟩ := Prod.mk.inj k2
    rw [k2, bytes_bs, hw4, h1]
    simp
theorem ty_parts {s : ByteArray} (h : isTyB s 3 = true) : ∃ l : List UInt8, bytesOf s = l ++ [105] ∧ l = (bytesOf s).take (s.size - 1) ∧ l.length ≤ 3 ∧ ∀ c ∈ l, c = 115 ∨ c = 114 := by
  unfold isTyB at h
  obtain ⟨h1, h2, h3, h4⟩ := of_decide_eq_true h
  have hlen : (bytesOf s).length = s.size := bytes_len s
  have hsn := take_snoc s (k := s.size - 1) (by omega)
  rw [show s.size - 1 + 1 = s.size by omega, List.take_of_length_le (by omega), h3] at hsn
  refine ⟨_, hsn, rfl, by rw [List.length_take]; omega, fun c hc => ?_⟩
  obtain ⟨k, hk, rfl⟩ := List.getElem_of_mem hc
  rw [List.length_take] at hk
  have h5 := h4 k (by omega)
  rw [List.getElem_take]
  have h6 : cAt s k = (bytesOf s)[k]'(by omega) := by
    rw [cAt, List.getD_eq_getElem?_getD, List.getElem?_eq_getElem (by omega), Option.getD_some]
  rw [← h6]
  exact h5
theorem typP_K {s : ByteArray} (hs : isTyB s 3 = true) (h : ts.map tkey = kindK s ++ ks) : ∃ ts', typP e [] ts = .ok (bytesOf s, ts') ∧ ts'.map tkey = ks := by
  obtain ⟨l, h1, h2, h3, h4⟩ := ty_parts hs
  unfold kindK at h
  rw [← h2, List.append_assoc] at h
  obtain ⟨ts', h5, h6⟩ := typ_go l (acc := []) (e := e) h4 (by simpa using h3) h
  exact ⟨ts', by rw [h5, h1]; rfl, h6⟩
end
end Go.Proofs.YtkeeboomikkojaaGreatDoor

namespace Go.Proofs.YtkeeboomikkojaaGreatDoor
open Go Go.Sx Go.Sx.Tk Go.Sx.Rn Go.Proofs.YtkeeboomikkojaaGreatDoor.Sx

theorem exK_hd {x : Ex} (hx : Xw x) : ∀ {ks : List Key}, isK [41] (exK x ++ ks) = false := by
  induction hx with
  | @num m h0 h1 => intro ks; exact isK_U h0 (by decide) (by decide)
  | @name m h0 => intro ks; exact isK_N
  | @neg a _ ih => intro ks; rw [exK_neg]; exact isK_S
  | @two op a b h4 h8 _ _ iha ihb =>
    intro ks
    rw [exK_two h4, List.append_assoc]
    unfold brkK
    split
    · exact isK_S
    · exact iha
section
variable {e : Int}
theorem args_go : ∀ (es : List Ex) {acc : List Ex} {f : Nat} {ts : List Tok} {ks : List Key}, (∀ x ∈ es, XwL x) → ts.map tkey = argK acc.length es ++ kS [41] :: ks → acc.length + es.length ≤ 6 → ts.length + 1 ≤ f →
    ∃ ts', argsL e f acc ts = .ok (acc ++ es, ts') ∧ ts'.map tkey = ks
  | [], acc, f, ts, ks, _, h, _, hf => by
    obtain ⟨f, rfl⟩ : ∃ g, f = g + 1 := ⟨f - 1, by omega⟩
    obtain ⟨t, r, rfl, ht, hr⟩ := keys_cons (show ts.map tkey = kS [41] :: ks from h)
    refine ⟨r, ?_, hr⟩
    unfold argsL
    rw [isT_K h]
    show (if isK [41] (kS [41] :: ks) then _ else _) = _
    rw [isK_S, if_pos (by decide), List.append_nil]
    rfl
  | x :: es, acc, f, ts, ks, hx, h, hn, hf => by
    obtain ⟨f, rfl⟩ : ∃ g, f = g + 1 := ⟨f - 1, by omega⟩
    simp only [List.length_cons] at hn
    have hxx := hx x List.mem_cons_self
    unfold argK at h
    rw [List.append_assoc] at h
    have hno : isK [41] ((if acc.length = 0 then [] else [kS [44]]) ++ (exK x ++ argK (acc.length + 1) es ++ kS [41] :: ks)) = false := by
      split
      · rw [List.nil_append, List.append_assoc]
        exact exK_hd hxx.1
      · exact isK_S
    obtain ⟨l1, h1, h2, hle⟩ : ∃ l1, (if acc.length = 0 then .ok ts else wantP e [44] ts) = (.ok l1 : Except (Int × Int) (List Tok)) ∧ l1.map tkey = exK x ++ (argK (acc.length + 1) es ++ kS [41] :: ks) ∧ l1.length ≤ ts.length := by
      by_cases h0 : acc.length = 0
      · rw [if_pos h0] at h ⊢
        rw [List.nil_append, List.append_assoc] at h
        exact ⟨ts, rfl, h, Nat.le_refl _⟩
      · rw [if_neg h0] at h ⊢
        rw [List.append_assoc] at h
        obtain ⟨ts', h3, h4⟩ := wantP_S (e := e) (show ts.map tkey = kS [44] :: (exK x ++ (argK (acc.length + 1) es ++ kS [41] :: ks)) from h)
        have := keys_len h
        have := keys_len h4
        simp only [List.length_append, List.length_cons, List.length_nil] at *
        exact ⟨ts', h3, h4, by omega⟩
    have hst : stopK (argK (acc.length + 1) es ++ kS [41] :: ks) := by
      cases es with
      | nil => exact stopK_S (by decide)
      | cons y r =>
        unfold argK
        rw [if_neg (by omega)]
        exact stopK_S (by decide)
    obtain ⟨l2, h3, h4⟩ := exprP_K (e := e) hxx.1 hxx.2 h2 hst
    have k1 := keys_len h2
    have k2 := keys_len h4
    have k3 := exK_ne x
    rw [List.length_append] at k1
    obtain ⟨ts', h5, h6⟩ := args_go es (acc := acc ++ [x]) (f := f) (ts := l2) (ks := ks) (fun y hy => hx y (List.mem_cons_of_mem _ hy)) (by rw [List.length_append]; exact h4) (by rw [List.length_append]; simp; omega) (by omega)
    refine ⟨ts', ?_, h6⟩
    unfold argsL
    rw [isT_K h, hno, if_neg Bool.false_ne_true, h1, bindP_ok, if_neg (by omega), h3, bindP_ok]
    show argsL e f (acc ++ [x]) l2 = _
    rw [h5, List.append_assoc]
    rfl
def parK : Nat → List (ByteArray × ByteArray) → List Key
  | _, [] => []
  | n, q :: r => (if n = 0 then [] else [kS [44]]) ++ (kN q.1 :: (kindK q.2 ++ parK (n + 1) r))
theorem pars_go : ∀ (ps : List (ByteArray × ByteArray)) {acc : List (ByteArray × ByteArray)} {f : Nat} {ts : List Tok} {ks : List Key}, (∀ q ∈ ps, isTyB q.2 3 = true) → ts.map tkey = parK acc.length ps ++ kS [41] :: ks → acc.length + ps.length ≤ 6 → ts.length + 1 ≤ f →
    ∃ ts', parsL e f acc ts = .ok (acc ++ ps, ts') ∧ ts'.map tkey = ks
  | [], acc, f, ts, ks, _, h, _, hf => by
    obtain ⟨f, rfl⟩ : ∃ g, f = g + 1 := ⟨f - 1, by omega⟩
    obtain ⟨t, r, rfl, ht, hr⟩ := keys_cons (show ts.map tkey = kS [41] :: ks from h)
    refine ⟨r, ?_, hr⟩
    unfold parsL
    rw [isT_K h]
    show (if isK [41] (kS [41] :: ks) then _ else _) = _
    rw [isK_S, if_pos (by decide), List.append_nil]
    rfl
  | q :: ps, acc, f, ts, ks, hx, h, hn, hf => by
    obtain ⟨f, rfl⟩ : ∃ g, f = g + 1 := ⟨f - 1, by omega⟩
    simp only [List.length_cons] at hn
    have hxx := hx q List.mem_cons_self
    unfold parK at h
    rw [List.append_assoc, List.cons_append, List.append_assoc] at h
    have hno : isK [41] ((if acc.length = 0 then [] else [kS [44]]) ++ kN q.1 :: (kindK q.2 ++ (parK (acc.length + 1) ps ++ kS [41] :: ks))) = false := by
      split
      · exact isK_N
      · exact isK_S
    obtain ⟨l1, h1, h2, hle⟩ : ∃ l1, (if acc.length = 0 then .ok ts else wantP e [44] ts) = (.ok l1 : Except (Int × Int) (List Tok)) ∧ l1.map tkey = kN q.1 :: (kindK q.2 ++ (parK (acc.length + 1) ps ++ kS [41] :: ks)) ∧ l1.length ≤ ts.length := by
      by_cases h0 : acc.length = 0
      · rw [if_pos h0] at h ⊢
        exact ⟨ts, rfl, h, Nat.le_refl _⟩
      · rw [if_neg h0] at h ⊢
        obtain ⟨ts', h3, h4⟩ := wantP_S (e := e) (show ts.map tkey = kS [44] :: (kN q.1 :: (kindK q.2 ++ (parK (acc.length + 1) ps ++ kS [41] :: ks))) from h)
        have := keys_len h
        have := keys_len h4
        simp only [List.length_append, List.length_cons, List.length_nil] at *
        exact ⟨ts', h3, h4, by omega⟩
    obtain ⟨l2, h3, h4⟩ := nameP_K (e := e) h2
    obtain ⟨l3, h5, h6⟩ := typP_K (e := e) hxx h4
    have k1 := keys_len h2
    have k2 := keys_len h6
    simp only [List.length_append, List.length_cons] at k1 k2
    obtain ⟨ts', h7, h8⟩ := pars_go ps (acc := acc ++ [q]) (f := f) (ts := l3) (ks := ks) (fun y hy => hx y (List.mem_cons_of_mem _ hy)) (by rw [List.length_append]; exact h6) (by rw [List.length_append]; simp; omega) (by omega)
    refine ⟨ts', ?_, h8⟩
    unfold parsL
    rw [isT_K h, hno, if_neg Bool.false_ne_true, h1, bindP_ok, if_neg (by omega), h3, bindP_ok]
    show bindP (typP e [] l2) _ = _
    rw [h5, bindP_ok]
    show parsL e f (acc ++ [(q.1, bs (bytesOf q.2))]) l3 = _
    rw [bs_bytes, h7, List.append_assoc]
    rfl
/-! ### statements -/
mutual
def stQ : St → Nat
  | .mk _ _ _ _ _ _ _ body els => 1 + stsQ body + stsQ els
def stsQ : List St → Nat
  | [] => 0
  | x :: r => stQ x + stsQ r
end
theorem stmt_short {f deep n d : Nat} {w : List UInt8} {t : Tok} {r l1 l : List Tok} {s : Sh} (hd : doW w = d) (h0 : d ≠ 0) (h11 : d < 11) (hn : n ≠ 300) (ht : tkey t = kW w) (hs : shortP e d r = .ok (s, l1)) (hl : wantP e [59] l1 = .ok l) :
    stmtP e (f + 1) deep n (t :: r) = .ok (.mk d t.at_ s.a s.b s.t s.n s.e [] [], n + 1, l) := by
  obtain ⟨k1, k2⟩ := Prod.mk.inj ht
  obtain ⟨k2, k3⟩ := Prod.mk.inj k2
  unfold stmtP
  rw [k2, bytes_bs, hd, if_pos ⟨k1, h0⟩, if_neg hn, if_pos h11, hs, bindP_ok]
  show bindP (wantP e [59] l1) _ = _
  rw [hl]
  rfl
theorem stmt_long {f deep n d n2 : Nat} {w : List UInt8} {t : Tok} {r l1 l2 : List Tok} {s : Sh} {b : List St} (hd : doW w = d) (h0 : d ≠ 0) (h11 : ¬ d < 11) (hn : n ≠ 300) (ht : tkey t = kW w) (hs : longP e d r = .ok (s, l1)) (hb : blockP e f deep (n + 1) l1 = .ok (b, n2, l2)) :
    stmtP e (f + 1) deep n (t :: r) = (if (d = 11 ∨ d = 14) ∧ isT [101, 108, 115, 101] l2 = true then
      bindP (blockP e f deep n2 l2.tail) fun q => .ok (.mk d t.at_ s.a s.b ⟨#[]⟩ 0 s.e b q.1, q.2.1, q.2.2) else .ok (.mk d t.at_ s.a s.b ⟨#[]⟩ 0 s.e b [], n2, l2)) := by
  obtain ⟨k1, k2⟩ := Prod.mk.inj ht
  obtain ⟨k2, k3⟩ := Prod.mk.inj k2
  unfold stmtP
  rw [k2, bytes_bs, hd, if_pos ⟨k1, h0⟩, if_neg hn, if_neg h11, hs, bindP_ok]
  show bindP (blockP e f deep (n + 1) l1) _ = _
  rw [hb, bindP_ok]
/-- a statement's first token -/
theorem stK_hd {deep : Nat} {x : St} (h : Sw deep x) : ∃ w ks, stK x = kW w :: ks ∧ (w == [125]) = false ∧ (w == w_else) = false := by
  cases h with
  | @let_ _ d at_ a x hd _ _ =>
    rcases hd with rfl | rfl
    · exact ⟨w_let, _, rfl, by decide, by decide⟩
    · exact ⟨w_set, _, rfl, by decide, by decide⟩
  | emit => exact ⟨w_emit, _, rfl, by decide, by decide⟩
  | chan => exact ⟨w_chan, _, rfl, by decide, by decide⟩
  | clone => exact ⟨w_clone, _, rfl, by decide, by decide⟩
  | send => exact ⟨w_send, _, rfl, by decide, by decide⟩
  | @one _ d at_ a hd _ =>
    rcases hd with rfl | rfl | rfl
    · exact ⟨w_close, _, rfl, by decide, by decide⟩
    · exact ⟨w_abandon, _, rfl, by decide, by decide⟩
    · exact ⟨w_drain, _, rfl, by decide, by decide⟩
  | spawn => exact ⟨w_spawn, _, rfl, by decide, by decide⟩
  | take => exact ⟨w_take, _, rfl, by decide, by decide⟩
  | for_ => exact ⟨w_for, _, rfl, by decide, by decide⟩
  | rep => exact ⟨w_repeat, _, rfl, by decide, by decide⟩
  | if_ => exact ⟨w_if, _, rfl, by decide, by decide⟩
def blkK (l : List St) : List Key := kS [123] :: (stsK l ++ [kS [125]])
abbrev SP (e : Int) (deep : Nat) (x : St) : Prop := ∀ (f n : Nat) (ts : List Tok) (ks : List Key), ts.map tkey = stK x ++ ks → isK w_else ks = false → n + stQ x ≤ 300 → 3 * ts.length ≤ f →
  ∃ x' ts', stmtP e f deep n ts = .ok (x', n + stQ x, ts') ∧ stZ false x' = stZ false x ∧ ts'.map tkey = ks
abbrev LP (e : Int) (deep : Nat) (l : List St) : Prop := ∀ (f n : Nat) (acc : List St) (ts : List Tok) (ks : List Key), ts.map tkey = stsK l ++ kS [125] :: ks → n + stsQ l ≤ 300 → 3 * ts.length + 1 ≤ f →
  ∃ l' ts', stmtsL e f deep acc n ts = .ok (acc ++ l', n + stsQ l, ts') ∧ stsZ false l' = stsZ false l ∧ ts'.map tkey = ks
theorem block_K {deep : Nat} {l : List St} (hl : LP e (deep + 1) l) (hd : deep < 8) {f n : Nat} {ts : List Tok} {ks : List Key} (h : ts.map tkey = blkK l ++ ks) (hn : n + stsQ l ≤ 300) (hf : 3 * ts.length + 2 ≤ f) :
    ∃ l' ts', blockP e f deep n ts = .ok (l', n + stsQ l, ts') ∧ stsZ false l' = stsZ false l ∧ ts'.map tkey = ks := by
  obtain ⟨f, rfl⟩ : ∃ g, f = g + 1 := ⟨f - 1, by omega⟩
  unfold blkK at h
  rw [List.cons_append, List.append_assoc] at h
  obtain ⟨t, r, rfl, ht, hr⟩ := keys_cons h
  simp only [List.length_cons] at hf
  obtain ⟨l', ts', h1, h2, h3⟩ := hl f n [] r ks hr hn (by omega)
  refine ⟨l', ts', ?_, h2, h3⟩
  unfold blockP
  rw [isT_K h, isK_S, if_pos (by decide), if_neg (by omega)]
  exact h1
theorem mk_Z {d at_ at2 : Int} {a b t : ByteArray} {n : Int} {es : List Ex} {body body' els els' : List St} (h1 : stsZ false body' = stsZ false body) (h2 : stsZ false els' = stsZ false els) :
    stZ false (.mk d at_ a b t n es body' els') = stZ false (.mk d at2 a b t n es body els) := by
  unfold stZ
  rw [h1, h2]
  rfl
theorem long_K {f deep n d : Nat} {w : List UInt8} {t : Tok} {r l1 : List Tok} {s : Sh} {body els : List St} {ks : List Key} (hd : doW w = d) (h0 : d ≠ 0) (h11 : ¬ d < 11) (hT : (d = 11 ∨ d = 14) ∨ els = []) (ht : tkey t = kW w)
    (hs : longP e d r = .ok (s, l1)) (hl1 : l1.map tkey = blkK body ++ ((if els.length = 0 then [] else kW w_else :: blkK els) ++ ks)) (helse : isK w_else ks = false) (hdeep : deep < 8)
    (hB : LP e (deep + 1) body) (hE : LP e (deep + 1) els) (hn : n + (1 + stsQ body + stsQ els) ≤ 300) (hf : 3 * l1.length + 2 ≤ f) :
    ∃ b q l, stmtP e (f + 1) deep n (t :: r) = .ok (.mk d t.at_ s.a s.b ⟨#[]⟩ 0 s.e b q, n + (1 + stsQ body + stsQ els), l) ∧ stsZ false b = stsZ false body ∧ stsZ false q = stsZ false els ∧ l.map tkey = ks := by
  obtain ⟨b, l2, h1, h2, h3⟩ := block_K hB hdeep (n := n + 1) hl1 (by omega) hf
  rw [stmt_long hd h0 h11 (by omega) ht hs h1]
  have k1 := keys_len hl1
  have k2 := keys_len h3
  rw [List.length_append] at k1
  by_cases he : els = []
  · subst he
    have h3 : l2.map tkey = ks := h3
    refine ⟨b, [], l2, ?_, h2, rfl, h3⟩
    rw [if_neg (fun h => by
      have := h.2
      rw [isT_K h3, show isK [101, 108, 115, 101] ks = false from helse] at this
      cases this)]
    rw [show n + 1 + stsQ body = n + (1 + stsQ body + stsQ []) by simp only [stsQ]; omega]
  · have hne : ¬ els.length = 0 := fun h => he (List.eq_nil_of_length_eq_zero h)
    rw [if_neg hne] at h3
    have hd2 : d = 11 ∨ d = 14 := hT.resolve_right he
    have h3' : l2.map tkey = kW w_else :: (blkK els ++ ks) := h3
    obtain ⟨t2, r2, rfl, ht2, hr2⟩ := keys_cons h3'
    simp only [List.length_cons] at k2
    obtain ⟨q, l3, h4, h5, h6⟩ := block_K hE hdeep (f := f) (n := n + 1 + stsQ body) hr2 (by omega) (by omega)
    refine ⟨b, q, l3, ?_, h2, h5, h6⟩
    rw [if_pos ⟨hd2, by rw [isT_K h3', isK_W]; decide⟩]
    show bindP (blockP e f deep (n + 1 + stsQ body) r2) _ = _
    rw [h4, bindP_ok]
    show (Except.ok (St.mk d t.at_ s.a s.b ⟨#[]⟩ 0 s.e b q, n + 1 + stsQ body + stsQ els, l3) : PR St) = _
    rw [show n + 1 + stsQ body + stsQ els = n + (1 + stsQ body + stsQ els) by omega]
mutual
theorem st_go : ∀ (x : St) {deep : Nat}, Sw deep x → SP e deep x
  | .mk d at_ a b t n es body els, deep, h => by
    intro f m ts ks hts helse hm hf
    have hB : (∀ y ∈ body, Sw (deep + 1) y) → LP e (deep + 1) body := fun h => sts_go body h
    have hE : (∀ y ∈ els, Sw (deep + 1) y) → LP e (deep + 1) els := fun h => sts_go els h
    have hlen := keys_len hts
    have hq : 1 ≤ stQ (.mk d at_ a b t n es body els) := by
      unfold stQ
      omega
    obtain ⟨w0, ks0, hk0, _, _⟩ := stK_hd h
    have hpos : 1 ≤ ts.length := by
      rw [hlen, hk0, List.cons_append]
      simp
    clear hk0
    obtain ⟨f, rfl⟩ : ∃ g, f = g + 1 := ⟨f - 1, by omega⟩
    cases h with
    | @let_ _ _ _ _ x hd hn hx =>
      rcases hd with rfl | rfl
      · have hts : ts.map tkey = kW w_let :: kN a :: kS [61] :: (exK x ++ (kS [59] :: ks)) := by
          rw [hts]
          simp [stK, headK, argK, St.d, St.a, fmD, formOf]
        obtain ⟨t, r, rfl, ht, hr⟩ := keys_cons hts
        obtain ⟨l1, q1, q2⟩ := nameP_K (e := e) hr
        obtain ⟨l2, q3, q4⟩ := wantP_S (e := e) q2
        obtain ⟨l3, q5, q6⟩ := exprP_K (e := e) hx.1 hx.2 q4 (stopK_S (by decide))
        obtain ⟨l4, q7, q8⟩ := wantP_S (e := e) q6
        refine ⟨_, l4, (stmt_short (d := 1) (w := w_let) (s := { a := a, e := [x] }) (l1 := l3) (by decide) (by decide) (by decide) (by omega) ht ?_ q7), mk_Z rfl rfl, q8⟩
        unfold shortP
        rw [if_neg (by decide), q1, bindP_ok, if_pos (by decide)]
        show bindP (wantP e [61] l1) _ = _
        rw [q3, bindP_ok, q5]
        rfl
      · have hts : ts.map tkey = kW w_set :: kN a :: kS [61] :: (exK x ++ (kS [59] :: ks)) := by
          rw [hts]
          simp [stK, headK, argK, St.d, St.a, fmD, formOf]
        obtain ⟨t, r, rfl, ht, hr⟩ := keys_cons hts
        obtain ⟨l1, q1, q2⟩ := nameP_K (e := e) hr
        obtain ⟨l2, q3, q4⟩ := wantP_S (e := e) q2
        obtain ⟨l3, q5, q6⟩ := exprP_K (e := e) hx.1 hx.2 q4 (stopK_S (by decide))
        obtain ⟨l4, q7, q8⟩ := wantP_S (e := e) q6
        refine ⟨_, l4, (stmt_short (d := 2) (w := w_set) (s := { a := a, e := [x] }) (l1 := l3) (by decide) (by decide) (by decide) (by omega) ht ?_ q7), mk_Z rfl rfl, q8⟩
        unfold shortP
        rw [if_neg (by decide), q1, bindP_ok, if_pos (by decide)]
        show bindP (wantP e [61] l1) _ = _
        rw [q3, bindP_ok, q5]
        rfl
    | @emit _ _ x hx =>
      have hts : ts.map tkey = kW w_emit :: (exK x ++ (kS [59] :: ks)) := by
        rw [hts]
        simp [stK, headK, argK, St.d, fmD, formOf]
      obtain ⟨t, r, rfl, ht, hr⟩ := keys_cons hts
      obtain ⟨l3, q5, q6⟩ := exprP_K (e := e) hx.1 hx.2 hr (stopK_S (by decide))
      obtain ⟨l4, q7, q8⟩ := wantP_S (e := e) q6
      refine ⟨_, l4, (stmt_short (d := 3) (w := w_emit) (s := { e := [x] }) (l1 := l3) (by decide) (by decide) (by decide) (by omega) ht ?_ q7), mk_Z rfl rfl, q8⟩
      unfold shortP
      rw [if_pos (by decide), q5]
      rfl
    | @chan _ _ _ _ _ _ ha hb hty h0 h1 =>
      have hts : ts.map tkey = kW w_chan :: kN a :: kN b :: (kindK t ++ (kU n :: kS [59] :: ks)) := by
        rw [hts]
        simp [stK, headK, argK, St.d, St.a, St.b, St.t, St.n, fmD, formOf]
      obtain ⟨t1, r, rfl, ht, hr⟩ := keys_cons hts
      obtain ⟨l1, q1, q2⟩ := nameP_K (e := e) hr
      obtain ⟨l2, q3, q4⟩ := nameP_K (e := e) q2
      obtain ⟨l3, q5, q6⟩ := typP_K (e := e) hty q4
      obtain ⟨l4, q7, q8⟩ := numP_K (e := e) q6
      obtain ⟨l5, q9, q10⟩ := wantP_S (e := e) q8
      refine ⟨_, l5, (stmt_short (d := 4) (w := w_chan) (s := { a := a, b := b, t := t, n := n }) (l1 := l4) (by decide) (by decide) (by decide) (by omega) ht ?_ q9), mk_Z rfl rfl, q10⟩
      unfold shortP
      rw [if_neg (by decide), q1, bindP_ok, if_neg (by decide), if_pos (by decide)]
      show bindP (nameP e l1) _ = _
      rw [q3, bindP_ok]
      show bindP (typP e [] l2) _ = _
      rw [q5, bindP_ok]
      show bindP (numP e l3) _ = _
      rw [q7, bindP_ok, bs_bytes]
    | @clone _ _ _ _ ha hb =>
      have hts : ts.map tkey = kW w_clone :: kN a :: kN b :: kS [59] :: ks := by
        rw [hts]
        simp [stK, headK, argK, St.d, St.a, St.b, fmD, formOf]
      obtain ⟨t1, r, rfl, ht, hr⟩ := keys_cons hts
      obtain ⟨l1, q1, q2⟩ := nameP_K (e := e) hr
      obtain ⟨l2, q3, q4⟩ := nameP_K (e := e) q2
      obtain ⟨l5, q9, q10⟩ := wantP_S (e := e) q4
      refine ⟨_, l5, (stmt_short (d := 5) (w := w_clone) (s := { a := a, b := b }) (l1 := l2) (by decide) (by decide) (by decide) (by omega) ht ?_ q9), mk_Z rfl rfl, q10⟩
      unfold shortP
      rw [if_neg (by decide), q1, bindP_ok, if_neg (by decide), if_neg (by decide), if_pos (by decide)]
      show bindP (nameP e l1) _ = _
      rw [q3, bindP_ok]
    | @send _ _ _ x ha hx =>
      have hts : ts.map tkey = kW w_send :: kN a :: (exK x ++ (kS [59] :: ks)) := by
        rw [hts]
        simp [stK, headK, argK, St.d, St.a, fmD, formOf]
      obtain ⟨t1, r, rfl, ht, hr⟩ := keys_cons hts
      obtain ⟨l1, q1, q2⟩ := nameP_K (e := e) hr
      obtain ⟨l3, q5, q6⟩ := exprP_K (e := e) hx.1 hx.2 q2 (stopK_S (by decide))
      obtain ⟨l5, q9, q10⟩ := wantP_S (e := e) q6
      refine ⟨_, l5, (stmt_short (d := 6) (w := w_send) (s := { a := a, e := [x] }) (l1 := l3) (by decide) (by decide) (by decide) (by omega) ht ?_ q9), mk_Z rfl rfl, q10⟩
      unfold shortP
      rw [if_neg (by decide), q1, bindP_ok, if_neg (by decide), if_neg (by decide), if_neg (by decide), if_pos (by decide)]
      show bindP (exprP e l1) _ = _
      rw [q5, bindP_ok]
    | @one _ _ _ _ hd ha =>
      have hone : ∀ (k : Nat) (w : List UInt8), doW w = k → k ≠ 0 → k < 11 → (k = 7 ∨ k = 8 ∨ k = 9) → ts.map tkey = kW w :: kN a :: kS [59] :: ks →
          ∃ x' ts', stmtP e (f + 1) deep m ts = .ok (x', m + stQ (.mk k at_ a e0 e0 0 [] [] []), ts') ∧ stZ false x' = stZ false (.mk k at_ a e0 e0 0 [] [] []) ∧ ts'.map tkey = ks := by
        intro k w hw h0 h11 hk hts
        obtain ⟨t1, r, rfl, ht, hr⟩ := keys_cons hts
        obtain ⟨l1, q1, q2⟩ := nameP_K (e := e) hr
        obtain ⟨l5, q9, q10⟩ := wantP_S (e := e) q2
        refine ⟨_, l5, (stmt_short (d := k) (w := w) (s := { a := a }) (l1 := l1) hw h0 h11 (by omega) ht ?_ q9), mk_Z rfl rfl, q10⟩
        unfold shortP
        rw [if_neg (by omega), q1, bindP_ok, if_neg (by omega), if_neg (by omega), if_neg (by omega), if_neg (by omega), if_neg (by omega)]
      rcases hd with rfl | rfl | rfl
      · exact hone 7 w_close (by decide) (by decide) (by decide) (by decide) (by rw [hts]; simp [stK, headK, argK, St.d, St.a, fmD, formOf])
      · exact hone 8 w_abandon (by decide) (by decide) (by decide) (by decide) (by rw [hts]; simp [stK, headK, argK, St.d, St.a, fmD, formOf])
      · exact hone 9 w_drain (by decide) (by decide) (by decide) (by decide) (by rw [hts]; simp [stK, headK, argK, St.d, St.a, fmD, formOf])
    | @spawn _ _ _ _ ha hl hx =>
      have hts : ts.map tkey = kW w_spawn :: kN a :: kS [40] :: (argK 0 es ++ kS [41] :: kS [59] :: ks) := by
        rw [hts]
        simp [stK, headK, St.d, St.a, fmD, formOf]
      obtain ⟨t1, r, rfl, ht, hr⟩ := keys_cons hts
      obtain ⟨l1, q1, q2⟩ := nameP_K (e := e) hr
      obtain ⟨l2, q3, q4⟩ := wantP_S (e := e) q2
      obtain ⟨l3, q5, q6⟩ := args_go (e := e) es (acc := []) (f := l2.length + 1) hx q4 (by simpa using hl) (Nat.le_refl _)
      obtain ⟨l5, q9, q10⟩ := wantP_S (e := e) q6
      refine ⟨_, l5, (stmt_short (d := 10) (w := w_spawn) (s := { a := a, e := es }) (l1 := l3) (by decide) (by decide) (by decide) (by omega) ht ?_ q9), mk_Z rfl rfl, q10⟩
      unfold shortP
      rw [if_neg (by decide), q1, bindP_ok, if_neg (by decide), if_neg (by decide), if_neg (by decide), if_neg (by decide), if_pos (by decide)]
      show bindP (wantP e [40] l1) _ = _
      rw [q3, bindP_ok, q5]
      rfl
    | @take _ _ _ _ _ _ ha hb hd hbd hel =>
      have hts : ts.map tkey = kW w_take :: kN a :: kW w_from :: kN b :: (blkK body ++ ((if els.length = 0 then [] else kW w_else :: blkK els) ++ ks)) := by
        rw [hts]
        simp [stK, headK, argK, St.d, St.a, St.b, fmD, formOf, blkK]
      obtain ⟨t1, r, rfl, ht, hr⟩ := keys_cons hts
      obtain ⟨l1, q1, q2⟩ := nameP_K (e := e) hr
      obtain ⟨l2, q3, q4⟩ := wantP_W (e := e) q2
      obtain ⟨l3, q5, q6⟩ := nameP_K (e := e) q4
      have c1 := keys_len hts
      have c2 := keys_len q6
      simp only [List.length_cons] at c1 hf
      obtain ⟨b', q', l, g1, g2, g3, g4⟩ := long_K (e := e) (d := 11) (w := w_take) (s := { a := a, b := b }) (f := f) (n := m) (by decide) (by decide) (by decide) (.inl (.inl rfl)) ht (by
        unfold longP
        rw [if_pos (by decide), q1, bindP_ok]
        show bindP (wantP e [102, 114, 111, 109] l1) _ = _
        rw [show wantP e [102, 114, 111, 109] l1 = _ from q3, bindP_ok, q5, bindP_ok]) q6 helse hd (hB hbd) (hE hel) hm (by omega)
      exact ⟨_, l, g1, mk_Z g2 g3, g4⟩
    | @for_ _ _ _ _ _ ha hb hd hbd =>
      have hts : ts.map tkey = kW w_for :: kN a :: kW w_from :: kN b :: (blkK body ++ ((if ([] : List St).length = 0 then [] else kW w_else :: blkK []) ++ ks)) := by
        rw [hts]
        simp [stK, headK, argK, St.d, St.a, St.b, fmD, formOf, blkK]
      obtain ⟨t1, r, rfl, ht, hr⟩ := keys_cons hts
      obtain ⟨l1, q1, q2⟩ := nameP_K (e := e) hr
      obtain ⟨l2, q3, q4⟩ := wantP_W (e := e) q2
      obtain ⟨l3, q5, q6⟩ := nameP_K (e := e) q4
      have c1 := keys_len hts
      have c2 := keys_len q6
      simp only [List.length_cons] at c1 hf
      obtain ⟨b', q', l, g1, g2, g3, g4⟩ := long_K (e := e) (d := 12) (w := w_for) (s := { a := a, b := b }) (f := f) (n := m) (by decide) (by decide) (by decide) (.inr rfl) ht (by
        unfold longP
        rw [if_pos (by decide), q1, bindP_ok]
        show bindP (wantP e [102, 114, 111, 109] l1) _ = _
        rw [show wantP e [102, 114, 111, 109] l1 = _ from q3, bindP_ok, q5, bindP_ok]) q6 helse hd (hB hbd) (hE (fun y hy => absurd hy List.not_mem_nil)) hm (by omega)
      exact ⟨_, l, g1, mk_Z g2 g3, g4⟩
    | @rep _ _ x _ hx hd hbd =>
      have hts : ts.map tkey = kW w_repeat :: (exK x ++ (blkK body ++ ((if ([] : List St).length = 0 then [] else kW w_else :: blkK []) ++ ks))) := by
        rw [hts]
        simp [stK, headK, argK, St.d, fmD, formOf, blkK]
      obtain ⟨t1, r, rfl, ht, hr⟩ := keys_cons hts
      obtain ⟨l3, q5, q6⟩ := exprP_K (e := e) hx.1 hx.2 hr (stopK_S (by decide))
      have c1 := keys_len hts
      have c2 := keys_len q6
      have c3 := exK_ne x
      simp only [List.length_cons, List.length_append] at c1 c2 hf
      obtain ⟨b', q', l, g1, g2, g3, g4⟩ := long_K (e := e) (d := 13) (w := w_repeat) (s := { e := [x] }) (f := f) (n := m) (by decide) (by decide) (by decide) (.inr rfl) ht (by
        unfold longP
        rw [if_neg (by decide), q5, bindP_ok]) q6 helse hd (hB hbd) (hE (fun y hy => absurd hy List.not_mem_nil)) hm (by omega)
      exact ⟨_, l, g1, mk_Z g2 g3, g4⟩
    | @if_ _ _ x _ _ hx hd hbd hel =>
      have hts : ts.map tkey = kW w_if :: (exK x ++ (blkK body ++ ((if els.length = 0 then [] else kW w_else :: blkK els) ++ ks))) := by
        rw [hts]
        simp [stK, headK, argK, St.d, fmD, formOf, blkK]
      obtain ⟨t1, r, rfl, ht, hr⟩ := keys_cons hts
      obtain ⟨l3, q5, q6⟩ := exprP_K (e := e) hx.1 hx.2 hr (stopK_S (by decide))
      have c1 := keys_len hts
      have c2 := keys_len q6
      have c3 := exK_ne x
      simp only [List.length_cons, List.length_append] at c1 c2 hf
      obtain ⟨b', q', l, g1, g2, g3, g4⟩ := long_K (e := e) (d := 14) (w := w_if) (s := { e := [x] }) (f := f) (n := m) (by decide) (by decide) (by decide) (.inl (.inr rfl)) ht (by
        unfold longP
        rw [if_neg (by decide), q5, bindP_ok]) q6 helse hd (hB hbd) (hE hel) hm (by omega)
      exact ⟨_, l, g1, mk_Z g2 g3, g4⟩
theorem sts_go : ∀ (l : List St) {deep : Nat}, (∀ y ∈ l, Sw deep y) → LP e deep l
  | [], deep, _ => by
    intro f n acc ts ks hts hn hf
    obtain ⟨f, rfl⟩ : ∃ g, f = g + 1 := ⟨f - 1, by omega⟩
    have hts : ts.map tkey = kS [125] :: ks := hts
    obtain ⟨t1, r, rfl, ht, hr⟩ := keys_cons hts
    refine ⟨[], r, ?_, rfl, hr⟩
    unfold stmtsL
    rw [isT_K hts, isK_S, if_pos (by decide), List.append_nil]
    rfl
  | x :: l, deep, h => by
    intro f n acc ts ks hts hn hf
    have hX : SP e deep x := st_go x (h x List.mem_cons_self)
    have hL : LP e deep l := sts_go l (fun y hy => h y (List.mem_cons_of_mem _ hy))
    obtain ⟨f, rfl⟩ : ∃ g, f = g + 1 := ⟨f - 1, by omega⟩
    unfold stsK at hts
    rw [List.append_assoc] at hts
    unfold stsQ at hn ⊢
    have hel : isK w_else (stsK l ++ kS [125] :: ks) = false := by
      cases l with
      | nil =>
        show isK w_else (kS [125] :: ks) = false
        rw [isK_S]
        decide
      | cons y r =>
        obtain ⟨w, ks', h1, _, h3⟩ := stK_hd (h y (by simp))
        unfold stsK
        rw [h1, List.cons_append, List.cons_append, isK_W, h3]
    obtain ⟨x', l1, h1, h2, h3⟩ := hX f n ts _ hts hel (by omega) (by omega)
    obtain ⟨w, ks', g1, g2, g3⟩ := stK_hd (h x List.mem_cons_self)
    have k1 := keys_len hts
    have k2 := keys_len h3
    rw [List.length_append, g1, List.length_cons] at k1
    obtain ⟨l', l2, h4, h5, h6⟩ := hL f (n + stQ x) (acc ++ [x']) l1 ks h3 (by omega) (by omega)
    refine ⟨x' :: l', l2, ?_, ?_, h6⟩
    · unfold stmtsL
      rw [isT_K hts, g1, List.cons_append, isK_W, g2, if_neg Bool.false_ne_true, h1, bindP_ok]
      show stmtsL e f deep (acc ++ [x']) (n + stQ x) l1 = _
      rw [h4, List.append_assoc, Nat.add_assoc]
      rfl
    · unfold stsZ
      rw [h2, h5]
end
end
end Go.Proofs.YtkeeboomikkojaaGreatDoor
