/- Tokens, shifted, with more behind them: expressions and what else has no places. -/
import Derived.Test.YtkeeboomikkojaaGreatDoorRx4
namespace Go.Proofs.YtkeeboomikkojaaGreatDoor
open Go Go.Sx Go.Sx.Tk Go.Sx.Rn Go.Proofs.YtkeeboomikkojaaGreatDoor.Sx

abbrev sh (D : Int) (l : List Tok) : List Tok := l.map (shiftT D)
theorem tail_sh {D : Int} {l y : List Tok} (h : l ≠ []) : (sh D l ++ y).tail = sh D l.tail ++ y := by
  cases l with
  | nil => exact absurd rfl h
  | cons t r => rfl
theorem pErr_sh {e e' D c : Int} {l y : List Tok} (h : l ≠ []) : pErr e' c (sh D l ++ y) = ((pErr e c l).1, (pErr e c l).2 + D) := by
  cases l with
  | nil => exact absurd rfl h
  | cons t r => rfl
theorem isT_ne {s : List UInt8} {l : List Tok} (h : isT s l = true) : l ≠ [] := by
  cases l with
  | nil => cases h
  | cons t r => simp
def bad57 (x : Int × Int) : Prop := x.1 = 5 ∨ x.1 = 7
theorem not57 {e c : Int} (h7 : c ≠ 7) : ¬ bad57 (pErr e c []) := by
  show ¬ ((if c = 5 then (6 : Int) else c) = 5 ∨ (if c = 5 then (6 : Int) else c) = 7)
  split
  · omega
  · omega
/-- the same, further behind, with more behind it; unless all was taken -/
def S {α : Type} (rs : α → List Tok) (u : α → α) (y : List Tok) (D : Int) (r r' : Except (Int × Int) α) : Prop := match r with
  | .ok a => (rs a ≠ [] ∨ y = []) → r' = .ok (u a)
  | .error x => bad57 x → r' = .error (x.1, x.2 + D)
/-- all was taken -/
def Vac {α : Type} (rs : α → List Tok) : Except (Int × Int) α → Prop
  | .ok a => rs a = []
  | .error x => ¬ bad57 x
theorem S.bind {α β : Type} {rs : α → List Tok} {u : α → α} {rs2 : β → List Tok} {u2 : β → β} {y : List Tok} {D : Int} {r r' : Except (Int × Int) α} {k k' : α → Except (Int × Int) β} (h : S rs u y D r r')
    (hk : ∀ a, r = .ok a → (rs a ≠ [] ∨ y = []) → S rs2 u2 y D (k a) (k' (u a))) (hv : ∀ a, r = .ok a → rs a = [] → Vac rs2 (k a)) : S rs2 u2 y D (bindP r k) (bindP r' k') := by
  cases r with
  | error x =>
    intro hx
    rw [h hx]
    rfl
  | ok a =>
    rcases Decidable.em (rs a ≠ [] ∨ y = []) with hc | hc
    · rw [h hc]
      exact hk a rfl hc
    · have h1 : rs a = [] := by
        cases hr : rs a with
        | nil => rfl
        | cons t l => exact absurd (.inl (by rw [hr]; simp)) hc
      have hv := hv a rfl h1
      show S rs2 u2 y D (k a) _
      cases hk : k a with
      | ok b =>
        rw [hk] at hv
        intro hb
        rcases hb with hb | hb
        · exact absurd hv hb
        · exact absurd (.inr hb) hc
      | error x =>
        rw [hk] at hv
        intro hx
        exact absurd hx hv
abbrev rs3 {α : Type} : α × Nat × List Tok → List Tok := fun r => r.2.2
abbrev u3 {α : Type} (D : Int) (y : List Tok) : α × Nat × List Tok → α × Nat × List Tok := fun r => (r.1, r.2.1, sh D r.2.2 ++ y)
abbrev rs2 {α : Type} : α × List Tok → List Tok := fun r => r.2
abbrev u2 {α : Type} (D : Int) (y : List Tok) : α × List Tok → α × List Tok := fun r => (r.1, sh D r.2 ++ y)
theorem S.perr {α : Type} {rs : α → List Tok} {u : α → α} {y : List Tok} {D e e' c : Int} {l : List Tok} (h7 : c ≠ 7) (hl : l ≠ [] ∨ y = []) : S rs u y D (.error (pErr e c l)) (.error (pErr e' c (sh D l ++ y))) := by
  intro hx
  cases l with
  | nil => exact absurd hx (not57 h7)
  | cons t r => rfl
theorem S.perr7 {α : Type} {rs : α → List Tok} {u : α → α} {y : List Tok} {D e e' c : Int} {l : List Tok} (hl : l ≠ []) : S rs u y D (.error (pErr e c l)) (.error (pErr e' c (sh D l ++ y))) := fun _ => by
  rw [pErr_sh (e := e) hl]
theorem S.ok {α : Type} {rs : α → List Tok} {u : α → α} {y : List Tok} {D : Int} {a : α} {r' : Except (Int × Int) α} (h : r' = .ok (u a)) : S rs u y D (.ok a) r' := fun _ => h
theorem S.err {α : Type} {rs : α → List Tok} {u : α → α} {y : List Tok} {D : Int} {x : Int × Int} {r' : Except (Int × Int) α} (h : r' = .error (x.1, x.2 + D)) : S rs u y D (.error x) r' := fun _ => h
theorem S.vac {α : Type} {rs : α → List Tok} {u : α → α} {y : List Tok} {D : Int} {x : Int × Int} {r' : Except (Int × Int) α} (h : ¬ bad57 x) : S rs u y D (.error x) r' := fun hx => absurd hx h
theorem n6 {a : Int} : ¬ bad57 (6, a) := by rintro (h | h) <;> cases h
theorem n8 {a : Int} : ¬ bad57 (8, a) := by rintro (h | h) <;> cases h
theorem sumL_nil {e : Int} {f o : Nat} {x : Ex} {n : Nat} (h : f ≠ 0) : sumL e f o x n [] = .ok (x, n, []) := by
  obtain ⟨f, rfl⟩ : ∃ q, f = q + 1 := ⟨f - 1, by omega⟩
  unfold sumL
  rfl
theorem prodL_nil {e : Int} {f o : Nat} {x : Ex} {n : Nat} (h : f ≠ 0) : prodL e f o x n [] = .ok (x, n, []) := by
  obtain ⟨f, rfl⟩ : ∃ q, f = q + 1 := ⟨f - 1, by omega⟩
  unfold prodL
  rfl
theorem isT_nil (s : List UInt8) : isT s [] = false := rfl
theorem sim_x (e e' D : Int) (y : List Tok) : ∀ f : Nat,
    (∀ {f' o n l}, 4 * l.length + 4 ≤ f → 4 * (l.length + y.length) + 4 ≤ f' → S rs3 (u3 D y) y D (cmpP e f o n l) (cmpP e' f' o n (sh D l ++ y))) ∧
    (∀ {f' o n l}, 4 * l.length + 3 ≤ f → 4 * (l.length + y.length) + 3 ≤ f' → S rs3 (u3 D y) y D (sumP e f o n l) (sumP e' f' o n (sh D l ++ y))) ∧
    (∀ {f' o x n l}, (l ≠ [] ∨ y = []) → 4 * l.length + 1 ≤ f → 4 * (l.length + y.length) + 1 ≤ f' → S rs3 (u3 D y) y D (sumL e f o x n l) (sumL e' f' o x n (sh D l ++ y))) ∧
    (∀ {f' o n l}, 4 * l.length + 2 ≤ f → 4 * (l.length + y.length) + 2 ≤ f' → S rs3 (u3 D y) y D (prodP e f o n l) (prodP e' f' o n (sh D l ++ y))) ∧
    (∀ {f' o x n l}, (l ≠ [] ∨ y = []) → 4 * l.length + 1 ≤ f → 4 * (l.length + y.length) + 1 ≤ f' → S rs3 (u3 D y) y D (prodL e f o x n l) (prodL e' f' o x n (sh D l ++ y))) ∧
    (∀ {f' o n l}, 4 * l.length + 1 ≤ f → 4 * (l.length + y.length) + 1 ≤ f' → S rs3 (u3 D y) y D (unitP e f o n l) (unitP e' f' o n (sh D l ++ y))) := by
  intro f
  induction f with
  | zero => exact ⟨fun h => by omega, fun h => by omega, fun _ h => by omega, fun h => by omega, fun _ h => by omega, fun h => by omega⟩
  | succ f ih =>
    obtain ⟨i1, i2, i3, i4, i5, i6⟩ := ih
    obtain ⟨-, p2, -, p4, -, p6⟩ := plen e f
    have hT : ∀ {s : List UInt8} {l : List Tok}, (l ≠ [] ∨ y = []) → isT s (sh D l ++ y) = isT s l := by
      intro s l h
      cases l with
      | nil =>
        rcases h with h | h
        · exact absurd rfl h
        · rw [h]; rfl
      | cons t r => rfl
    -- behind an operator
    have tl : ∀ {s : List UInt8} {l : List Tok}, isT s l = true → (sh D l ++ y).tail = sh D l.tail ++ y ∧ l.length = l.tail.length + 1 := fun h => ⟨tail_sh (isT_ne h), isT_tail h⟩
    refine ⟨?_, ?_, ?_, ?_, ?_, ?_⟩
    · intro f' o n l hf hf'
      obtain ⟨f', rfl⟩ : ∃ q, f' = q + 1 := ⟨f' - 1, by omega⟩
      unfold cmpP
      refine (i2 (by omega) (by omega)).bind (fun a ha hc => ?_) (fun a ha h0 => ?_)
      · have hlen := (p2 ha).1
        show S rs3 (u3 D y) y D _ (if isT [60] (sh D a.2.2 ++ y) = true then bindP (sumP e' f' o a.2.1 (sh D a.2.2 ++ y).tail) _ else if isT [61, 61] (sh D a.2.2 ++ y) = true then bindP (sumP e' f' o a.2.1 (sh D a.2.2 ++ y).tail) _ else _)
        rw [hT hc, hT hc]
        split
        · rename_i h1
          obtain ⟨h2, h3⟩ := tl h1
          rw [h2]
          exact (i2 (by omega) (by omega)).bind (fun b hb hc2 => S.ok rfl) fun b hb h0 => h0
        split
        · rename_i h1
          obtain ⟨h2, h3⟩ := tl h1
          rw [h2]
          exact (i2 (by omega) (by omega)).bind (fun b hb hc2 => S.ok rfl) fun b hb h0 => h0
        · exact S.ok rfl
      · show Vac rs3 (if isT [60] a.2.2 = true then _ else if isT [61, 61] a.2.2 = true then _ else _)
        rw [show a.2.2 = [] from h0]
        exact h0
    · intro f' o n l hf hf'
      obtain ⟨f', rfl⟩ : ∃ q, f' = q + 1 := ⟨f' - 1, by omega⟩
      unfold sumP
      refine (i4 (by omega) (by omega)).bind (fun a ha hc => ?_) (fun a ha h0 => ?_)
      · have hlen := (p4 ha).1
        exact i3 hc (by omega) (by omega)
      · show Vac rs3 (sumL e f o a.1 a.2.1 a.2.2)
        rw [show a.2.2 = [] from h0, sumL_nil (by omega)]
        rfl
    · intro f' o x n l hl hf hf'
      obtain ⟨f', rfl⟩ : ∃ q, f' = q + 1 := ⟨f' - 1, by omega⟩
      unfold sumL
      rw [hT hl, hT hl]
      split
      · rename_i h1
        obtain ⟨h2, h3⟩ := tl h1
        rw [h2]
        refine (i4 (by omega) (by omega)).bind (fun a ha hc => ?_) (fun a ha h0 => ?_)
        · have hlen := (p4 ha).1
          exact i3 hc (by omega) (by omega)
        · show Vac rs3 (sumL e f o _ _ a.2.2)
          rw [show a.2.2 = [] from h0, sumL_nil (by omega)]
          rfl
      split
      · rename_i h1
        obtain ⟨h2, h3⟩ := tl h1
        rw [h2]
        refine (i4 (by omega) (by omega)).bind (fun a ha hc => ?_) (fun a ha h0 => ?_)
        · have hlen := (p4 ha).1
          exact i3 hc (by omega) (by omega)
        · show Vac rs3 (sumL e f o _ _ a.2.2)
          rw [show a.2.2 = [] from h0, sumL_nil (by omega)]
          rfl
      · exact S.ok rfl
    · intro f' o n l hf hf'
      obtain ⟨f', rfl⟩ : ∃ q, f' = q + 1 := ⟨f' - 1, by omega⟩
      unfold prodP
      refine (i6 (by omega) (by omega)).bind (fun a ha hc => ?_) (fun a ha h0 => ?_)
      · have hlen := (p6 ha).1
        exact i5 hc (by omega) (by omega)
      · show Vac rs3 (prodL e f o a.1 a.2.1 a.2.2)
        rw [show a.2.2 = [] from h0, prodL_nil (by omega)]
        rfl
    · intro f' o x n l hl hf hf'
      obtain ⟨f', rfl⟩ : ∃ q, f' = q + 1 := ⟨f' - 1, by omega⟩
      unfold prodL
      rw [hT hl]
      split
      · rename_i h1
        obtain ⟨h2, h3⟩ := tl h1
        rw [h2]
        refine (i6 (by omega) (by omega)).bind (fun a ha hc => ?_) (fun a ha h0 => ?_)
        · have hlen := (p6 ha).1
          exact i5 hc (by omega) (by omega)
        · show Vac rs3 (prodL e f o _ _ a.2.2)
          rw [show a.2.2 = [] from h0, prodL_nil (by omega)]
          rfl
      · exact S.ok rfl
    · intro f' o n l hf hf'
      obtain ⟨f', rfl⟩ : ∃ q, f' = q + 1 := ⟨f' - 1, by omega⟩
      cases l with
      | nil =>
        rw [show (unitP e (f + 1) o n [] : PR Ex) = .error (6, e) from by unfold unitP; rfl]
        exact S.vac n6
      | cons t r =>
        simp only [List.length_cons] at hf hf'
        have hc0 : (t :: r) ≠ [] ∨ y = [] := .inl (by simp)
        unfold unitP
        rw [hT hc0, hT hc0]
        split
        · rename_i h1
          obtain ⟨h2, h3⟩ := tl h1
          rw [h2]
          split
          · exact S.perr7 (by simp)
          · refine (i1 (by show 4 * r.length + 4 ≤ f; omega) (by show 4 * (r.length + y.length) + 4 ≤ f'; omega)).bind (fun a ha hc => ?_) (fun a ha h0 => ?_)
            · show S rs3 (u3 D y) y D _ (if isT [41] (sh D a.2.2 ++ y) = true then .ok (a.1, a.2.1, (sh D a.2.2 ++ y).tail) else .error (pErr e' 5 (sh D a.2.2 ++ y)))
              rw [hT hc]
              split
              · rename_i h4
                obtain ⟨h5, h6⟩ := tl h4
                rw [h5]
                exact S.ok rfl
              · exact S.perr (by decide) hc
            · rw [show a.2.2 = [] from h0, isT_nil, if_neg Bool.false_ne_true]
              exact not57 (by decide)
        split
        · rename_i h1
          obtain ⟨h2, h3⟩ := tl h1
          rw [h2]
          split
          · exact S.perr7 (by simp)
          · exact (i6 (by show 4 * r.length + 1 ≤ f; omega) (by show 4 * (r.length + y.length) + 1 ≤ f'; omega)).bind (fun a ha hc => S.ok rfl) (fun a ha h0 => h0)
        · show S rs3 (u3 D y) y D (if t.kind = 3 then .ok (exNum t.n, n + 1, r) else if t.kind = 2 then .ok (exName t.text, n + 1, r) else .error (5, t.at_)) (if t.kind = 3 then .ok (exNum t.n, n + 1, sh D r ++ y) else if t.kind = 2 then .ok (exName t.text, n + 1, sh D r ++ y) else .error (5, t.at_ + D))
          split
          · exact S.ok rfl
          split
          · exact S.ok rfl
          · exact S.err rfl
section
variable {e e' D : Int} {y : List Tok}
theorem sim_expr (l : List Tok) : S rs2 (u2 D y) y D (exprP e l) (exprP e' (sh D l ++ y)) := by
  cases l with
  | nil => exact S.vac n6
  | cons t r =>
    show S rs2 (u2 D y) y D _ (exprP e' (shiftT D t :: (sh D r ++ y)))
    rw [exprP_cons, exprP_cons]
    refine ((sim_x e e' D y _).1 (Nat.le_refl _) (f' := 4 * (shiftT D t :: (sh D r ++ y)).length + 4) (by simp only [List.length_cons, List.length_append, List.length_map]; omega)).bind (fun a ha hc => ?_) (fun a ha h0 => ?_)
    · show S rs2 (u2 D y) y D _ (if 20 < a.2.1 then .error (8, t.at_ + D) else .ok (a.1, sh D a.2.2 ++ y))
      split
      · exact S.err rfl
      · exact S.ok rfl
    · split
      · exact n8
      · exact h0
theorem sim_name (l : List Tok) : S rs2 (u2 D y) y D (nameP e l) (nameP e' (sh D l ++ y)) := by
  cases l with
  | nil => exact S.vac n6
  | cons t r =>
    show S rs2 (u2 D y) y D (if t.kind = 2 then .ok (t.text, r) else .error (5, t.at_)) (if t.kind = 2 then .ok (t.text, sh D r ++ y) else .error (5, t.at_ + D))
    split
    · exact S.ok rfl
    · exact S.err rfl
theorem sim_num (l : List Tok) : S rs2 (u2 D y) y D (numP e l) (numP e' (sh D l ++ y)) := by
  cases l with
  | nil => exact S.vac n6
  | cons t r =>
    show S rs2 (u2 D y) y D (if t.kind = 3 then .ok (t.n, r) else .error (5, t.at_)) (if t.kind = 3 then .ok (t.n, sh D r ++ y) else .error (5, t.at_ + D))
    split
    · exact S.ok rfl
    · exact S.err rfl
abbrev rs1 : List Tok → List Tok := fun r => r
abbrev u1 (D : Int) (y : List Tok) : List Tok → List Tok := fun r => sh D r ++ y
theorem sim_want (s : List UInt8) (l : List Tok) : S rs1 (u1 D y) y D (wantP e s l) (wantP e' s (sh D l ++ y)) := by
  cases l with
  | nil => exact S.vac (not57 (by decide))
  | cons t r =>
    show S rs1 (u1 D y) y D (if isT s (t :: r) = true then .ok r else .error (5, t.at_)) (if isT s (t :: r) = true then .ok (sh D r ++ y) else .error (5, t.at_ + D))
    split
    · exact S.ok rfl
    · exact S.err rfl
theorem sim_typ : ∀ (l : List Tok) (acc : List UInt8), S rs2 (u2 D y) y D (typP e acc l) (typP e' acc (sh D l ++ y))
  | [], acc => by
    rw [show (typP e acc [] : Except (Int × Int) (List UInt8 × List Tok)) = .error (6, e) from by unfold typP; rfl]
    exact S.vac n6
  | t :: r, acc => by
    show S rs2 (u2 D y) y D _ (typP e' acc (shiftT D t :: (sh D r ++ y)))
    rw [typP_cons, typP_cons]
    show S rs2 (u2 D y) y D _ (if isT [105, 110, 116] (t :: r) = true then .ok (acc ++ [105], sh D r ++ y) else if (isT [115, 101, 110, 100] (t :: r) || isT [114, 101, 99, 118] (t :: r)) = true then (if acc.length = 3 then .error (7, t.at_ + D) else typP e' (acc ++ (bytesOf t.text).take 1) (sh D r ++ y)) else .error (5, t.at_ + D))
    split
    · exact S.ok rfl
    split
    · split
      · exact S.err rfl
      · exact sim_typ r _
    · exact S.err rfl
/-- nothing of it is left, and something is asked for -/
theorem vac_want {α : Type} {rs : α → List Tok} (s : List UInt8) (k : List Tok → Except (Int × Int) α) : Vac rs (bindP (wantP e s []) k) := not57 (by decide)
theorem vac_name {α : Type} {rs : α → List Tok} (k : ByteArray × List Tok → Except (Int × Int) α) : Vac rs (bindP (nameP e []) k) := n6
theorem vac_num {α : Type} {rs : α → List Tok} (k : Int × List Tok → Except (Int × Int) α) : Vac rs (bindP (numP e []) k) := n6
theorem vac_expr {α : Type} {rs : α → List Tok} (k : Ex × List Tok → Except (Int × Int) α) : Vac rs (bindP (exprP e []) k) := n6
theorem vac_typ {α : Type} {rs : α → List Tok} (acc : List UInt8) (k : List UInt8 × List Tok → Except (Int × Int) α) : Vac rs (bindP (typP e acc []) k) := by
  rw [show (typP e acc [] : Except (Int × Int) (List UInt8 × List Tok)) = .error (6, e) from by unfold typP; rfl]
  exact n6
end
end Go.Proofs.YtkeeboomikkojaaGreatDoor

namespace Go.Proofs.YtkeeboomikkojaaGreatDoor
open Go Go.Sx Go.Sx.Tk Go.Sx.Rn Go.Proofs.YtkeeboomikkojaaGreatDoor.Sx

theorem argsL_eq (e : Int) (f : Nat) (acc : List Ex) (l : List Tok) : argsL e (f + 1) acc l = if isT [41] l then .ok (acc, l.tail)
    else bindP (if acc.length = 0 then .ok l else wantP e [44] l) fun l => if acc.length = 6 then .error (pErr e 8 l) else bindP (exprP e l) fun q => argsL e f (acc ++ [q.1]) q.2 := by
  conv => lhs; unfold argsL
section
variable {e e' D : Int} {y : List Tok}
theorem args_nil {f : Nat} {acc : List Ex} (hf : f ≠ 0) : Vac rs2 (argsL e f acc []) := by
  obtain ⟨f, rfl⟩ : ∃ q, f = q + 1 := ⟨f - 1, by omega⟩
  rw [argsL_eq, isT_nil, if_neg Bool.false_ne_true]
  split
  · rw [bindP_ok]
    split
    · exact not57 (by decide)
    · exact vac_expr _
  · exact vac_want _ _
theorem pars_nil {f : Nat} {acc : List (ByteArray × ByteArray)} (hf : f ≠ 0) : Vac rs2 (parsL e f acc []) := by
  obtain ⟨f, rfl⟩ : ∃ q, f = q + 1 := ⟨f - 1, by omega⟩
  rw [parsL_eq, isT_nil, if_neg Bool.false_ne_true]
  split
  · rw [bindP_ok]
    split
    · exact not57 (by decide)
    · exact vac_name _
  · exact vac_want _ _
theorem S.toVac {α : Type} {rs : α → List Tok} {u : α → α} {r r' : Except (Int × Int) α} (hy : y ≠ []) (h : Vac rs r) : S rs u y D r r' := by
  cases r with
  | ok a =>
    intro hc
    rcases hc with hc | hc
    · exact absurd h hc
    · exact absurd hc hy
  | error x => exact fun hx => absurd hx h
theorem sim_args : ∀ (f : Nat) {f' : Nat} {acc : List Ex} {l : List Tok}, l.length + 1 ≤ f → l.length + y.length + 1 ≤ f' → S rs2 (u2 D y) y D (argsL e f acc l) (argsL e' f' acc (sh D l ++ y))
  | 0, _, _, _, hf, _ => by omega
  | f + 1, f', acc, l, hf, hf' => by
    obtain ⟨f', rfl⟩ : ∃ q, f' = q + 1 := ⟨f' - 1, by omega⟩
    by_cases hl : l ≠ [] ∨ y = []
    · have hT : ∀ {s : List UInt8}, isT s (sh D l ++ y) = isT s l := by
        intro s
        cases l with
        | nil =>
          rcases hl with h | h
          · exact absurd rfl h
          · rw [h]; rfl
        | cons t r => rfl
      rw [argsL_eq, argsL_eq, hT]
      split
      · rename_i h1
        rw [tail_sh (isT_ne h1)]
        exact S.ok rfl
      · refine S.bind (rs := rs1) (u := u1 D y) ?_ (fun a ha hc => ?_) (fun a ha h0 => ?_)
        · split
          · exact S.ok rfl
          · exact sim_want _ _
        · have hla : a.length ≤ l.length := by
            split at ha
            · cases ha
              exact Nat.le_refl _
            · have := wantP_len ha
              omega
          split
          · exact S.perr (by decide) hc
          · refine (sim_expr a).bind (fun b hb hc2 => ?_) (fun b hb h0 => ?_)
            · have := exprP_len hb
              exact sim_args f (by omega) (by omega)
            · show Vac rs2 (argsL e f _ b.2)
              rw [show b.2 = [] from h0]
              refine args_nil ?_
              have := exprP_len hb
              omega
        · rw [show a = [] from h0]
          split
          · exact not57 (by decide)
          · exact vac_expr _
    · have h0 : l = [] := by
        cases l with
        | nil => rfl
        | cons t r => exact absurd (.inl (by simp)) hl
      subst h0
      exact S.toVac (fun h => hl (.inr h)) (args_nil (by omega))
theorem sim_pars : ∀ (f : Nat) {f' : Nat} {acc : List (ByteArray × ByteArray)} {l : List Tok}, l.length + 1 ≤ f → l.length + y.length + 1 ≤ f' → S rs2 (u2 D y) y D (parsL e f acc l) (parsL e' f' acc (sh D l ++ y))
  | 0, _, _, _, hf, _ => by omega
  | f + 1, f', acc, l, hf, hf' => by
    obtain ⟨f', rfl⟩ : ∃ q, f' = q + 1 := ⟨f' - 1, by omega⟩
    by_cases hl : l ≠ [] ∨ y = []
    · have hT : ∀ {s : List UInt8}, isT s (sh D l ++ y) = isT s l := by
        intro s
        cases l with
        | nil =>
          rcases hl with h | h
          · exact absurd rfl h
          · rw [h]; rfl
        | cons t r => rfl
      rw [parsL_eq, parsL_eq, hT]
      split
      · rename_i h1
        rw [tail_sh (isT_ne h1)]
        exact S.ok rfl
      · refine S.bind (rs := rs1) (u := u1 D y) ?_ (fun a ha hc => ?_) (fun a ha h0 => ?_)
        · split
          · exact S.ok rfl
          · exact sim_want _ _
        · have hla : a.length ≤ l.length := by
            split at ha
            · cases ha
              exact Nat.le_refl _
            · have := wantP_len ha
              omega
          split
          · exact S.perr (by decide) hc
          · refine (sim_name a).bind (fun b hb hc2 => ?_) (fun b hb h0 => ?_)
            · have h3 := nameP_len hb
              refine (sim_typ b.2 []).bind (fun c hc hc3 => ?_) (fun c hc h0 => ?_)
              · have := typP_len hc
                exact sim_pars f (by omega) (by omega)
              · show Vac rs2 (parsL e f _ c.2)
                rw [show c.2 = [] from h0]
                refine pars_nil ?_
                have := typP_len hc
                omega
            · rw [show b.2 = [] from h0]
              exact vac_typ _ _
        · rw [show a = [] from h0]
          split
          · exact not57 (by decide)
          · exact vac_name _
    · have h0 : l = [] := by
        cases l with
        | nil => rfl
        | cons t r => exact absurd (.inl (by simp)) hl
      subst h0
      exact S.toVac (fun h => hl (.inr h)) (pars_nil (by omega))
theorem sim_short (d : Nat) (l : List Tok) : S rs2 (u2 D y) y D (shortP e d l) (shortP e' d (sh D l ++ y)) := by
  unfold shortP
  split
  · exact (sim_expr l).bind (fun b hb hc2 => S.ok rfl) (fun b hb h0 => h0)
  · refine (sim_name l).bind (fun a ha hc => ?_) (fun a ha h0 => ?_)
    · split
      · refine (sim_want _ _).bind (fun b hb hc2 => ?_) (fun b hb h0 => ?_)
        · exact (sim_expr b).bind (fun c hc hc3 => S.ok rfl) (fun c hc h0 => h0)
        · rw [show b = [] from h0]
          exact vac_expr _
      split
      · refine (sim_name a.2).bind (fun b hb hc2 => ?_) (fun b hb h0 => ?_)
        · refine (sim_typ b.2 []).bind (fun c hc hc3 => ?_) (fun c hc h0 => ?_)
          · exact (sim_num c.2).bind (fun q hq hc4 => S.ok rfl) (fun q hq h0 => h0)
          · rw [show c.2 = [] from h0]
            exact vac_num _
        · rw [show b.2 = [] from h0]
          exact vac_typ _ _
      split
      · exact (sim_name a.2).bind (fun b hb hc2 => S.ok rfl) (fun b hb h0 => h0)
      split
      · exact (sim_expr a.2).bind (fun b hb hc2 => S.ok rfl) (fun b hb h0 => h0)
      split
      · refine (sim_want _ a.2).bind (fun b hb hc2 => ?_) (fun b hb h0 => ?_)
        · refine S.bind (sim_args (b.length + 1) (f' := (sh D b ++ y).length + 1) (acc := []) (Nat.le_refl _) (by simp)) (fun c hc hc3 => S.ok rfl) (fun c hc h0 => h0)
        · rw [show b = [] from h0]
          have := args_nil (e := e) (f := 1) (acc := []) (by decide)
          show Vac rs2 (bindP (argsL e 1 [] []) _)
          cases hq : argsL e 1 [] [] with
          | ok c =>
            rw [hq] at this
            exact this
          | error x =>
            rw [hq] at this
            exact this
      · exact S.ok rfl
    · rw [show a.2 = [] from h0]
      split
      · exact vac_want _ _
      split
      · exact vac_name _
      split
      · exact vac_name _
      split
      · exact vac_expr _
      split
      · exact vac_want _ _
      · rfl
theorem sim_long (d : Nat) (l : List Tok) : S rs2 (u2 D y) y D (longP e d l) (longP e' d (sh D l ++ y)) := by
  unfold longP
  split
  · refine (sim_name l).bind (fun a ha hc => ?_) (fun a ha h0 => ?_)
    · refine (sim_want _ a.2).bind (fun b hb hc2 => ?_) (fun b hb h0 => ?_)
      · exact (sim_name b).bind (fun c hc hc3 => S.ok rfl) (fun c hc h0 => h0)
      · rw [show b = [] from h0]
        exact vac_name _
    · rw [show a.2 = [] from h0]
      exact vac_want _ _
  · exact (sim_expr l).bind (fun b hb hc2 => S.ok rfl) (fun b hb h0 => h0)
end
end Go.Proofs.YtkeeboomikkojaaGreatDoor

namespace Go.Proofs.YtkeeboomikkojaaGreatDoor
open Go Go.Sx Go.Sx.Tk Go.Sx.Rn Go.Proofs.YtkeeboomikkojaaGreatDoor.Sx

mutual
/-- a statement, further behind -/
def shSt (D : Int) : St → St
  | .mk d at_ a b t n e body els => .mk d (at_ + D) a b t n e (shSts D body) (shSts D els)
def shSts (D : Int) : List St → List St
  | [] => []
  | x :: r => shSt D x :: shSts D r
end
def shSg (D : Int) (s : Sg) : Sg := ⟨s.nm, s.at_ + D, s.ps, shSts D s.body⟩
theorem shSt_mk (D d at_ : Int) (a b t : ByteArray) (n : Int) (e : List Ex) (body els : List St) : shSt D (.mk d at_ a b t n e body els) = .mk d (at_ + D) a b t n e (shSts D body) (shSts D els) := by
  conv => lhs; unfold shSt
theorem shSts_nil (D : Int) : shSts D [] = [] := by unfold shSts; rfl
theorem shSts_cons (D : Int) (x : St) (r : List St) : shSts D (x :: r) = shSt D x :: shSts D r := by conv => lhs; unfold shSts
theorem shSts_snoc (D : Int) : ∀ (l : List St) (x : St), shSts D (l ++ [x]) = shSts D l ++ [shSt D x]
  | [], x => by rw [List.nil_append, shSts_cons, shSts_nil]; rfl
  | y :: r, x => by rw [List.cons_append, shSts_cons, shSts_cons, shSts_snoc D r x]; rfl
/-! ### how many statements were read -/
theorem scnt (e : Int) : ∀ f : Nat, (∀ {deep n l r}, blockP e f deep n l = .ok r → r.2.1 = n + stsQ r.1) ∧ (∀ {deep acc n l r}, stmtsL e f deep acc n l = .ok r → r.2.1 + stsQ acc = n + stsQ r.1 ∧ n ≤ r.2.1) ∧ (∀ {deep n l r}, stmtP e f deep n l = .ok r → r.2.1 = n + stQ r.1) := by
  intro f
  induction f with
  | zero =>
    refine ⟨?_, ?_, ?_⟩
    · intro deep n l r h
      unfold blockP at h
      cases h
    · intro deep acc n l r h
      unfold stmtsL at h
      cases h
    · intro deep n l r h
      unfold stmtP at h
      cases h
  | succ f ih =>
    obtain ⟨i1, i2, i3⟩ := ih
    refine ⟨?_, ?_, ?_⟩
    · intro deep n l r h
      rw [blockP_eq] at h
      split at h
      · split at h
        · cases h
        · have := (i2 h).1
          rw [stsQ_nil] at this
          omega
      · cases h
    · intro deep acc n l r h
      rw [stmtsL_eq] at h
      split at h
      · cases h
        exact ⟨rfl, Nat.le_refl _⟩
      · obtain ⟨a, ha, h⟩ := bindP_okk h
        have h1 := i3 ha
        obtain ⟨h2, h3⟩ := i2 h
        rw [stsQ_snoc] at h2
        exact ⟨by omega, by omega⟩
    · intro deep n l r h
      cases l with
      | nil =>
        rw [stmtP_nil] at h
        cases h
      | cons t q =>
        rw [stmtP_cons] at h
        split at h
        · split at h
          · cases h
          split at h
          · obtain ⟨s, hs, h⟩ := bindP_okk h
            obtain ⟨l, hl, h⟩ := bindP_okk h
            cases h
            show n + 1 = n + stQ _
            rw [stQ_eq]
            show n + 1 = n + (1 + stsQ [] + stsQ [])
            rw [stsQ_nil]
          · obtain ⟨s, hs, h⟩ := bindP_okk h
            obtain ⟨b, hb, h⟩ := bindP_okk h
            have h1 := i1 hb
            split at h
            · obtain ⟨q2, hq, h⟩ := bindP_okk h
              have h2 := i1 hq
              cases h
              show q2.2.1 = n + stQ _
              rw [stQ_eq]
              show q2.2.1 = n + (1 + stsQ b.1 + stsQ q2.1)
              omega
            · cases h
              show b.2.1 = n + stQ _
              rw [stQ_eq]
              show b.2.1 = n + (1 + stsQ b.1 + stsQ [])
              rw [stsQ_nil]
              omega
        · cases h
/-! ### statements -/
/-- as S; d statements were read ahead of it: too many then is a fault, too -/
def TS {β : Type} (c : Bool) (φ : β → β) (y : List Tok) (D : Int) (d : Nat) (r r' : PR β) : Prop := match r with
  | .ok a => (c = true ∨ a.2.2 ≠ [] ∨ y = []) → if a.2.1 + d ≤ 300 then r' = .ok (φ a.1, a.2.1 + d, sh D a.2.2 ++ y) else ∃ q, r' = .error (8, q)
  | .error x => d = 0 → bad57 x → r' = .error (x.1, x.2 + D)
def VacT {β : Type} (c : Bool) : PR β → Prop
  | .ok a => c = false ∧ a.2.2 = []
  | .error x => ¬ bad57 x
section
variable {β γ : Type} {y : List Tok} {D : Int} {d : Nat}
theorem TS.toVac {c : Bool} {φ : β → β} {r r' : PR β} (hy : y ≠ []) (h : VacT c r) : TS c φ y D d r r' := by
  cases r with
  | ok a =>
    intro hc
    rcases hc with hc | hc | hc
    · rw [h.1] at hc
      cases hc
    · exact absurd h.2 hc
    · exact absurd hc hy
  | error x => exact fun _ hx => absurd hx h
theorem TS.ok {c : Bool} {φ : β → β} {a : β × Nat × List Tok} {r' : PR β} (h3 : a.2.1 + d ≤ 300) (h : r' = .ok (φ a.1, a.2.1 + d, sh D a.2.2 ++ y)) : TS c φ y D d (.ok a) r' := fun _ => by
  rw [if_pos h3]
  exact h
theorem TS.err {c : Bool} {φ : β → β} {x : Int × Int} {r' : PR β} (h : r' = .error (x.1, x.2 + D)) : TS c φ y D d (.error x) r' := fun _ _ => h
theorem TS.vac {c : Bool} {φ : β → β} {x : Int × Int} {r' : PR β} (h : ¬ bad57 x) : TS c φ y D d (.error x) r' := fun _ hx => absurd hx h
theorem TS.over {c : Bool} {φ : β → β} {r : PR β} {q : Int} (h : ∀ a, r = .ok a → 300 < a.2.1 + d) (h0 : d ≠ 0) : TS c φ y D d r (.error (8, q)) := by
  cases r with
  | ok a =>
    intro _
    rw [if_neg (by have := h a rfl; omega)]
    exact ⟨_, rfl⟩
  | error x => exact fun hd => absurd hd h0
theorem TS.bindS {α : Type} {c : Bool} {φ : β → β} {rs : α → List Tok} {u : α → α} {r r' : Except (Int × Int) α} {k k' : α → PR β} (h : S rs u y D r r')
    (hk : ∀ a, r = .ok a → (rs a ≠ [] ∨ y = []) → TS c φ y D d (k a) (k' (u a))) (hv : ∀ a, r = .ok a → rs a = [] → VacT c (k a)) : TS c φ y D d (bindP r k) (bindP r' k') := by
  cases r with
  | error x =>
    intro _ hx
    rw [h hx]
    rfl
  | ok a =>
    rcases Decidable.em (rs a ≠ [] ∨ y = []) with hc | hc
    · rw [h hc]
      exact hk a rfl hc
    · have h1 : rs a = [] := by
        cases hr : rs a with
        | nil => rfl
        | cons t l => exact absurd (.inl (by rw [hr]; simp)) hc
      exact TS.toVac (fun hy => hc (.inr hy)) (hv a rfl h1)
theorem TS.bindT {c1 c : Bool} {φ : β → β} {ψ : γ → γ} {r r' : PR β} {k k' : β × Nat × List Tok → PR γ} (h : TS c1 φ y D d r r') (h300 : ∀ a, r = .ok a → a.2.1 ≤ 300) (hm : ∀ a b, r = .ok a → k a = .ok b → a.2.1 ≤ b.2.1)
    (hk : ∀ a, r = .ok a → (c1 = true ∨ a.2.2 ≠ [] ∨ y = []) → a.2.1 + d ≤ 300 → TS c ψ y D d (k a) (k' (φ a.1, a.2.1 + d, sh D a.2.2 ++ y))) (hv : ∀ a, r = .ok a → c1 = false → a.2.2 = [] → VacT c (k a)) : TS c ψ y D d (bindP r k) (bindP r' k') := by
  cases r with
  | error x =>
    intro hd hx
    rw [h hd hx]
    rfl
  | ok a =>
    rcases Decidable.em (c1 = true ∨ a.2.2 ≠ [] ∨ y = []) with hc | hc
    · have h1 := h hc
      split at h1
      · rename_i h3
        rw [h1]
        exact hk a rfl hc h3
      · rename_i h3
        obtain ⟨q, h1⟩ := h1
        rw [h1]
        refine TS.over (fun b hb => ?_) (fun hd => ?_)
        · have := hm a b rfl hb
          omega
        · have := h300 a rfl
          omega
    · have h1 : a.2.2 = [] := by
        cases hr : a.2.2 with
        | nil => rfl
        | cons t l => exact absurd (.inr (.inl (by rw [hr]; simp))) hc
      have h2 : c1 = false := by
        cases c1 with
        | false => rfl
        | true => exact absurd (.inl rfl) hc
      exact TS.toVac (fun hy => hc (.inr (.inr hy))) (hv a rfl h2 h1)
end
theorem block_nil {e : Int} {f deep n : Nat} (h : f ≠ 0) : blockP e f deep n [] = .error (6, e) := by
  obtain ⟨f, rfl⟩ : ∃ q, f = q + 1 := ⟨f - 1, by omega⟩
  rw [blockP_eq, isT_nil, if_neg Bool.false_ne_true]
  rfl
theorem stmts_nil {e : Int} {f deep n : Nat} {acc : List St} (h : 2 ≤ f) : stmtsL e f deep acc n [] = .error (6, e) := by
  obtain ⟨f, rfl⟩ : ∃ q, f = q + 2 := ⟨f - 2, by omega⟩
  rw [stmtsL_eq, isT_nil, if_neg Bool.false_ne_true, stmtP_nil]
  rfl
theorem sim_s (e e' D : Int) (d : Nat) (y : List Tok) : ∀ f : Nat,
    (∀ {f' deep n l}, 3 * l.length + 3 ≤ f → 3 * (l.length + y.length) + 3 ≤ f' → n + d ≤ 300 → TS true (shSts D) y D d (blockP e f deep n l) (blockP e' f' deep (n + d) (sh D l ++ y))) ∧
    (∀ {f' deep acc n l}, 3 * l.length + 2 ≤ f → 3 * (l.length + y.length) + 2 ≤ f' → n + d ≤ 300 → TS true (shSts D) y D d (stmtsL e f deep acc n l) (stmtsL e' f' deep (shSts D acc) (n + d) (sh D l ++ y))) ∧
    (∀ {f' deep n l}, 3 * l.length + 1 ≤ f → 3 * (l.length + y.length) + 1 ≤ f' → n + d ≤ 300 → TS false (shSt D) y D d (stmtP e f deep n l) (stmtP e' f' deep (n + d) (sh D l ++ y))) := by
  intro f
  induction f with
  | zero => exact ⟨fun h => by omega, fun h => by omega, fun h => by omega⟩
  | succ f ih =>
    obtain ⟨i1, i2, i3⟩ := ih
    obtain ⟨l1, l2, l3⟩ := slen e f
    obtain ⟨c1, c2, c3⟩ := scnt e f
    have hT : ∀ {s : List UInt8} {l : List Tok}, (l ≠ [] ∨ y = []) → isT s (sh D l ++ y) = isT s l := by
      intro s l h
      cases l with
      | nil =>
        rcases h with h | h
        · exact absurd rfl h
        · rw [h]; rfl
      | cons t r => rfl
    refine ⟨?_, ?_, ?_⟩
    · intro f' deep n l hf hf' hn
      obtain ⟨f', rfl⟩ : ∃ q, f' = q + 1 := ⟨f' - 1, by omega⟩
      cases l with
      | nil =>
        rw [block_nil (by omega)]
        exact TS.vac n6
      | cons t r =>
        simp only [List.length_cons] at hf hf'
        rw [blockP_eq, blockP_eq, hT (.inl (by simp))]
        split
        · split
          · exact TS.err (by rw [pErr_sh (e := e) (by simp)])
          · rw [tail_sh (by simp)]
            have := i2 (f' := f') (deep := deep + 1) (acc := []) (n := n) (l := r) (by omega) (by omega) hn
            rw [shSts_nil] at this
            exact this
        · exact TS.err (by rw [pErr_sh (e := e) (by simp)])
    · intro f' deep acc n l hf hf' hn
      obtain ⟨f', rfl⟩ : ∃ q, f' = q + 1 := ⟨f' - 1, by omega⟩
      cases l with
      | nil =>
        simp only [List.length_nil] at hf hf'
        rw [stmts_nil (by omega)]
        exact TS.vac n6
      | cons t r =>
        simp only [List.length_cons] at hf hf'
        rw [stmtsL_eq, stmtsL_eq, hT (.inl (by simp))]
        split
        · rw [tail_sh (by simp)]
          exact TS.ok hn rfl
        · refine TS.bindT (i3 (f' := f') (l := t :: r) (by simp only [List.length_cons]; omega) (by simp only [List.length_cons]; omega) hn) (fun a ha => (l3 (by omega) ha).2) (fun a b ha hb => ?_) (fun a ha hc h3 => ?_) (fun a ha _ h0 => ?_)
          · exact (c2 hb).2
          · have h4 := (l3 (by omega) ha).1
            simp only [List.length_cons] at h4
            rw [← shSts_snoc]
            exact i2 (by omega) (by omega) h3
          · rw [h0, stmts_nil (by omega)]
            exact n6
    · intro f' deep n l hf hf' hn
      obtain ⟨f', rfl⟩ : ∃ q, f' = q + 1 := ⟨f' - 1, by omega⟩
      cases l with
      | nil =>
        rw [stmtP_nil]
        exact TS.vac n6
      | cons t r =>
        simp only [List.length_cons] at hf hf'
        have hcnt : ∀ {q : St × Nat × List Tok}, stmtP e (f + 1) deep n (t :: r) = .ok q → q.2.1 = n + stQ q.1 := fun hq => (scnt e (f + 1)).2.2 hq
        show TS false (shSt D) y D d _ (stmtP e' (f' + 1) deep (n + d) (shiftT D t :: (sh D r ++ y)))
        rw [stmtP_cons] at hcnt ⊢
        rw [stmtP_cons]
        simp only [show (shiftT D t).kind = t.kind from rfl, show (shiftT D t).text = t.text from rfl, show (shiftT D t).at_ = t.at_ + D from rfl]
        generalize doW (bytesOf t.text) = w at *
        by_cases h1 : t.kind = 1 ∧ w ≠ 0
        · rw [if_pos h1] at hcnt ⊢
          rw [if_pos h1]
          by_cases h2 : n = 300
          · rw [if_pos h2]
            exact TS.vac n8
          rw [if_neg h2] at hcnt ⊢
          by_cases h3 : n + d = 300
          · rw [if_pos h3]
            refine TS.over (fun a ha => ?_) (by omega)
            have h4 := hcnt ha
            rw [stQ_eq] at h4
            omega
          rw [if_neg h3]
          have h5 : n + d + 1 = n + 1 + d := by omega
          have h6 : n + 1 + d ≤ 300 := by omega
          rw [h5]
          by_cases hw : w < 11
          · rw [if_pos hw, if_pos hw]
            refine TS.bindS (sim_short w r) (fun s hs hc => ?_) (fun s hs h0 => ?_)
            · refine TS.bindS (sim_want _ s.2) (fun l hl hc2 => ?_) (fun l hl h0 => ?_)
              · refine TS.ok h6 ?_
                show Except.ok _ = Except.ok (shSt D (.mk w t.at_ s.1.a s.1.b s.1.t s.1.n s.1.e [] []), n + 1 + d, sh D l ++ y)
                rw [shSt_mk, shSts_nil]
              · exact ⟨rfl, h0⟩
            · rw [show s.2 = [] from h0]
              exact not57 (by decide)
          · rw [if_neg hw, if_neg hw]
            refine TS.bindS (sim_long w r) (fun s hs hc => ?_) (fun s hs h0 => ?_)
            · have hsl := longP_len hs
              refine TS.bindT (i1 (f' := f') (deep := deep) (n := n + 1) (l := s.2) (by omega) (by omega) h6) (fun a ha => (l1 (by omega) ha).2) (fun a b ha hb => ?_) (fun a ha _ h7 => ?_) (fun a ha hf _ => by cases hf)
              · split at hb
                · obtain ⟨q, hq, hb⟩ := bindP_okk hb
                  have := c1 hq
                  cases hb
                  show a.2.1 ≤ q.2.1
                  omega
                · cases hb
                  exact Nat.le_refl _
              · have hal := (l1 (by omega) ha).1
                by_cases hc3 : a.2.2 ≠ [] ∨ y = []
                · show TS false (shSt D) y D d _ (if (w = 11 ∨ w = 14) ∧ isT [101, 108, 115, 101] (sh D a.2.2 ++ y) = true then bindP (blockP e' f' deep (a.2.1 + d) (sh D a.2.2 ++ y).tail) _ else _)
                  rw [hT hc3]
                  split
                  · rename_i h8
                    rw [tail_sh (isT_ne h8.2)]
                    have htl := isT_tail h8.2
                    refine TS.bindT (i1 (f' := f') (deep := deep) (n := a.2.1) (l := a.2.2.tail) (by omega) (by omega) h7) (fun q hq => (l1 (l1 (by omega) ha).2 hq).2) (fun q b hq hb => ?_) (fun q hq _ h9 => ?_) (fun q hq hf _ => by cases hf)
                    · cases hb
                      exact Nat.le_refl _
                    · refine TS.ok h9 ?_
                      show Except.ok _ = Except.ok (shSt D (.mk w t.at_ s.1.a s.1.b ⟨#[]⟩ 0 s.1.e a.1 q.1), q.2.1 + d, sh D q.2.2 ++ y)
                      rw [shSt_mk]
                  · refine TS.ok h7 ?_
                    show Except.ok _ = Except.ok (shSt D (.mk w t.at_ s.1.a s.1.b ⟨#[]⟩ 0 s.1.e a.1 []), a.2.1 + d, sh D a.2.2 ++ y)
                    rw [shSt_mk, shSts_nil]
                · have h0 : a.2.2 = [] := by
                    cases hr : a.2.2 with
                    | nil => rfl
                    | cons t l => exact absurd (.inl (by rw [hr]; simp)) hc3
                  refine TS.toVac (fun hy => hc3 (.inr hy)) ?_
                  rw [h0, isT_nil, if_neg (fun h => Bool.false_ne_true h.2)]
                  exact ⟨rfl, rfl⟩
            · have hsl := longP_len hs
              rw [show s.2 = [] from h0, block_nil (by omega)]
              exact n6
        · rw [if_neg h1, if_neg h1]
          exact TS.err rfl
/-! ### stages -/
theorem stageP_cons (e : Int) (n : Nat) (t : Tok) (r : List Tok) : stageP e n (t :: r) = bindP (nameP e r) fun a => bindP (wantP e [40] a.2) fun l => bindP (parsL e (l.length + 1) [] l) fun ps =>
    bindP (blockP e (3 * ps.2.length + 3) 0 n ps.2) fun b => .ok (⟨a.1, t.at_, ps.1, b.1⟩, b.2.1, b.2.2) := rfl
theorem sim_stage (e e' D : Int) (d : Nat) (y : List Tok) (l : List Tok) (n : Nat) (hn : n + d ≤ 300) : TS true (shSg D) y D d (stageP e n l) (stageP e' (n + d) (sh D l ++ y)) := by
  cases l with
  | nil => exact TS.vac n6
  | cons t r =>
    show TS true (shSg D) y D d _ (stageP e' (n + d) (shiftT D t :: (sh D r ++ y)))
    rw [stageP_cons, stageP_cons]
    refine TS.bindS (sim_name r) (fun a ha hc => ?_) (fun a ha h0 => ?_)
    · refine TS.bindS (sim_want _ a.2) (fun l hl hc2 => ?_) (fun l hl h0 => ?_)
      · refine TS.bindS (sim_pars (l.length + 1) (f' := (sh D l ++ y).length + 1) (acc := []) (Nat.le_refl _) (by simp)) (fun ps hps hc3 => ?_) (fun ps hps h0 => ?_)
        · refine TS.bindT ((sim_s e e' D d y _).1 (f' := 3 * (sh D ps.2 ++ y).length + 3) (deep := 0) (n := n) (l := ps.2) (Nat.le_refl _) (by simp) hn) (fun b hb => ((slen e _).1 (by omega) hb).2) (fun b q hb hq => ?_) (fun b hb _ h9 => ?_) (fun b hb hf _ => by cases hf)
          · cases hq
            exact Nat.le_refl _
          · exact TS.ok h9 rfl
        · rw [show ps.2 = [] from h0, block_nil (by simp)]
          exact n6
      · rw [show l = [] from h0]
        have := pars_nil (e := e) (f := 1) (acc := []) (by decide)
        show VacT true (bindP (parsL e 1 [] []) _)
        cases hq : parsL e 1 [] [] with
        | ok c =>
          rw [hq] at this
          rw [bindP_ok, show c.2 = [] from this, block_nil (by simp)]
          exact n6
        | error x =>
          rw [hq] at this
          exact this
    · rw [show a.2 = [] from h0]
      exact not57 (by decide)
theorem stage_cnt {e : Int} {n : Nat} {l : List Tok} {q : Sg × Nat × List Tok} (h : stageP e n l = .ok q) : q.2.1 = n + stsQ q.1.body := by
  cases l with
  | nil => cases h
  | cons t r =>
    rw [stageP_cons] at h
    obtain ⟨a, ha, h⟩ := bindP_okk h
    obtain ⟨l, hl, h⟩ := bindP_okk h
    obtain ⟨ps, hps, h⟩ := bindP_okk h
    obtain ⟨b, hb, h⟩ := bindP_okk h
    have := (scnt e _).1 hb
    cases h
    exact this
end Go.Proofs.YtkeeboomikkojaaGreatDoor

namespace Go.Proofs.YtkeeboomikkojaaGreatDoor
open Go Go.Sx Go.Sx.Tk Go.Sx.Rn Go.Proofs.YtkeeboomikkojaaGreatDoor.Sx

theorem sh_0 (l : List Tok) : sh 0 l = l := by
  induction l with
  | nil => rfl
  | cons t r ih =>
    show shiftT 0 t :: sh 0 r = t :: r
    rw [ih]
    show (⟨t.kind, t.at_ + 0, t.text, t.n⟩ : Tok) :: r = t :: r
    rw [Int.add_zero]
mutual
theorem shSt_0 : ∀ x : St, shSt 0 x = x
  | .mk d at_ a b t n e body els => by rw [shSt_mk, shSts_0 body, shSts_0 els, Int.add_zero]
theorem shSts_0 : ∀ l : List St, shSts 0 l = l
  | [] => shSts_nil 0
  | x :: r => by rw [shSts_cons, shSt_0 x, shSts_0 r]
end
theorem shSg_0 (s : Sg) : shSg 0 s = s := by
  unfold shSg
  rw [shSts_0, Int.add_zero]
/-- stages, and more behind them -/
theorem stages_pre {e e' : Int} {y : List Tok} : ∀ (f : Nat) {f' n : Nat} {acc p : List Sg} {l : List Tok}, stagesL e f acc n l = .ok p → l.length + y.length + 2 ≤ f' → n ≤ 300 → acc.length ≤ 10 →
    ∃ f'' m, stagesL e' f' acc n (l ++ y) = stagesL e' f'' p m y ∧ y.length + 2 ≤ f'' ∧ m ≤ 300 ∧ m + pgQ acc = n + pgQ p ∧ p ≠ [] ∧ p.length ≤ 10
  | 0, _, _, _, _, _, h, _, _, _ => by
    unfold stagesL at h
    cases h
  | f + 1, f', n, acc, p, l, h, hf', hn, h10 => by
    rw [stagesL_eq] at h
    split at h
    · rename_i h1
      cases h
      obtain rfl : l = [] := List.length_eq_zero_iff.1 h1.1
      refine ⟨f', n, rfl, ?_, hn, rfl, fun h => h1.2 (by rw [h]; rfl), h10⟩
      simpa using hf'
    split at h
    · rename_i h1 h2
      split at h
      · cases h
      · rename_i h3
        obtain ⟨q, hq, h⟩ := bindP_okk h
        obtain ⟨hl1, hl2⟩ := stage_len hn hq
        have hne := isT_ne h2
        obtain ⟨f', rfl⟩ : ∃ g, f' = g + 1 := ⟨f' - 1, by omega⟩
        have hsim := sim_stage e e' 0 0 y l n (by omega)
        rw [hq, sh_0] at hsim
        have hsim := hsim (.inl rfl)
        rw [if_pos (by omega), sh_0, shSg_0] at hsim
        have hlen : (l ++ y).length ≠ 0 := by
          cases l with
          | nil => exact absurd rfl hne
          | cons t r => simp
        have hT : isT [115, 116, 97, 103, 101] (l ++ y) = true := by
          cases l with
          | nil => exact absurd rfl hne
          | cons t r => exact h2
        obtain ⟨f'', m, g1, g2, g3, g4, g5, g6⟩ := stages_pre (e' := e') (y := y) f (f' := f') h (by omega) hl2 (by rw [List.length_append]; simp only [List.length_cons, List.length_nil]; omega)
        refine ⟨f'', m, ?_, g2, g3, ?_, g5, g6⟩
        · rw [stagesL_eq, if_neg (fun h => hlen h.1), if_pos hT, if_neg h3]
          have hsim : stageP e' n (l ++ y) = .ok (q.1, q.2.1, q.2.2 ++ y) := hsim
          rw [hsim, bindP_ok]
          exact g1
        · have := stage_cnt hq
          rw [pgQ_snoc] at g4
          omega
    · cases h
/-! ### whole texts -/
theorem parse_pre {e e' : Int} {l y : List Tok} {p : List Sg} (h : parseT e l = .ok p) : ∃ f m, parseT e' (l ++ y) = stagesL e' f p m y ∧ y.length + 2 ≤ f ∧ m ≤ 300 ∧ m = pgQ p ∧ p ≠ [] ∧ p.length ≤ 10 := by
  obtain ⟨f, m, h1, h2, h3, h4, h5, h6⟩ := stages_pre (e' := e') (y := y) _ (f' := (l ++ y).length + 2) h (by simp) (by decide) (by decide)
  refine ⟨f, m, h1, h2, h3, ?_, h5, h6⟩
  have : pgQ [] = 0 := rfl
  omega
end Go.Proofs.YtkeeboomikkojaaGreatDoor
