/- What goes wrong in a parse has a code and a place. -/
import Derived.Test.YtkeeboomikkojaaGreatDoorRx3
import Derived.Test.YtkeeboomikkojaaGreatDoorY9h
import Derived.Test.YtkeeboomikkojaaGreatDoorRk
import Derived.Test.YtkeeboomikkojaaGreatDoorRn9
namespace Go.Proofs.YtkeeboomikkojaaGreatDoor
open Go Go.Sx Go.Sx.Tk Go.Sx.Rn Go.Proofs.YtkeeboomikkojaaGreatDoor.Sx

/-- tokens that stand in a text of that length -/
def InT (e : Int) (l : List Tok) : Prop := 0 ≤ e ∧ ∀ t ∈ l, 0 ≤ t.at_ ∧ t.at_ ≤ e
def ErB (e : Int) (x : Int × Int) : Prop := x.1 ≠ 0 ∧ 0 ≤ x.2 ∧ x.2 ≤ e
/-- what holds of the tokens that are left, and of what goes wrong at them -/
structure Cl (e : Int) (Q : List Tok → Prop) (E : Int × Int → Prop) : Prop where
  cons : ∀ {t : Tok} {l : List Tok}, Q (t :: l) → Q l
  err : ∀ {l : List Tok}, Q l → ∀ {c : Int}, c ≠ 0 → E (pErr e c l)
  fuel : E (5, 0)
theorem Cl.tail {e : Int} {Q : List Tok → Prop} {E : Int × Int → Prop} (C : Cl e Q E) {l : List Tok} (h : Q l) : Q l.tail := by
  cases l with
  | nil => exact h
  | cons t r => exact C.cons h
theorem Cl.head {e : Int} {Q : List Tok → Prop} {E : Int × Int → Prop} (C : Cl e Q E) {t : Tok} {l : List Tok} (h : Q (t :: l)) {c : Int} (hc : c ≠ 0) : E (c, t.at_) := C.err h hc
theorem Cl.end_ {e : Int} {Q : List Tok → Prop} {E : Int × Int → Prop} (C : Cl e Q E) (h : Q []) : E (6, e) := C.err h (c := 6) (by decide)
theorem cl_in {e : Int} (h : 0 ≤ e) : Cl e (InT e) (ErB e) where
  cons := fun h => ⟨h.1, fun u hu => h.2 u (List.mem_cons_of_mem _ hu)⟩
  fuel := ⟨by decide, Int.le_refl 0, h⟩
  err := by
    intro l h c hc
    cases l with
    | nil =>
      refine ⟨?_, h.1, Int.le_refl _⟩
      show (if c = 5 then (6 : Int) else c) ≠ 0
      split
      · decide
      · exact hc
    | cons t r => exact ⟨hc, (h.2 t List.mem_cons_self).1, (h.2 t List.mem_cons_self).2⟩
section
variable {e : Int} {Q : List Tok → Prop} {E : Int × Int → Prop}
/-- errors are such; what is left are such tokens -/
def Goo {α : Type} (Q : List Tok → Prop) (E : Int × Int → Prop) (f : α → List Tok) : Except (Int × Int) α → Prop
  | .error x => E x
  | .ok a => Q (f a)
theorem Goo.bind {α β : Type} {f : α → List Tok} {g : β → List Tok} {r : Except (Int × Int) α} {k : α → Except (Int × Int) β} (h : Goo Q E f r) (hk : ∀ a, Q (f a) → Goo Q E g (k a)) : Goo Q E g (bindP r k) := by
  cases r with
  | error x => exact h
  | ok a => exact hk a h
theorem xgoo (C : Cl e Q E) : ∀ f : Nat, (∀ {o n l}, Q l → Goo Q E (fun r => r.2.2) (cmpP e f o n l)) ∧ (∀ {o n l}, Q l → Goo Q E (fun r => r.2.2) (sumP e f o n l)) ∧ (∀ {o x n l}, Q l → Goo Q E (fun r => r.2.2) (sumL e f o x n l)) ∧
    (∀ {o n l}, Q l → Goo Q E (fun r => r.2.2) (prodP e f o n l)) ∧ (∀ {o x n l}, Q l → Goo Q E (fun r => r.2.2) (prodL e f o x n l)) ∧ (∀ {o n l}, Q l → Goo Q E (fun r => r.2.2) (unitP e f o n l)) := by
  intro f
  induction f with
  | zero =>
    refine ⟨?_, ?_, ?_, ?_, ?_, ?_⟩
    · intro o n l h
      unfold cmpP
      exact C.fuel
    · intro o n l h
      unfold sumP
      exact C.fuel
    · intro o x n l h
      unfold sumL
      exact C.fuel
    · intro o n l h
      unfold prodP
      exact C.fuel
    · intro o x n l h
      unfold prodL
      exact C.fuel
    · intro o n l h
      unfold unitP
      exact C.fuel
  | succ f ih =>
    obtain ⟨i1, i2, i3, i4, i5, i6⟩ := ih
    refine ⟨?_, ?_, ?_, ?_, ?_, ?_⟩
    · intro o n l h
      unfold cmpP
      refine (i2 h).bind fun a ha => ?_
      split
      · exact (i2 (C.tail ha)).bind fun b hb => hb
      split
      · exact (i2 (C.tail ha)).bind fun b hb => hb
      · exact ha
    · intro o n l h
      unfold sumP
      exact (i4 h).bind fun a ha => i3 ha
    · intro o x n l h
      unfold sumL
      split
      · exact (i4 (C.tail h)).bind fun a ha => i3 ha
      split
      · exact (i4 (C.tail h)).bind fun a ha => i3 ha
      · exact h
    · intro o n l h
      unfold prodP
      exact (i6 h).bind fun a ha => i5 ha
    · intro o x n l h
      unfold prodL
      split
      · exact (i6 (C.tail h)).bind fun a ha => i5 ha
      · exact h
    · intro o n l h
      unfold unitP
      split
      · split
        · exact C.err h (by decide)
        · refine (i1 (C.tail h)).bind fun a ha => ?_
          split
          · exact (C.tail ha)
          · exact C.err ha (by decide)
      split
      · split
        · exact C.err h (by decide)
        · exact (i6 (C.tail h)).bind fun a ha => ha
      split
      · exact C.end_ h
      · split
        · exact (C.cons h)
        split
        · exact (C.cons h)
        · exact C.head h (by decide)
theorem expr_goo (C : Cl e Q E) {l : List Tok} (h : Q l) : Goo Q E (fun r => r.2) (exprP e l) := by
  cases l with
  | nil => exact C.end_ h
  | cons t r =>
    rw [exprP_cons]
    refine ((xgoo C _).1 h).bind fun a ha => ?_
    split
    · exact C.head h (by decide)
    · exact ha
theorem name_goo (C : Cl e Q E) {l : List Tok} (h : Q l) : Goo Q E (fun r => r.2) (nameP e l) := by
  cases l with
  | nil => exact C.end_ h
  | cons t r =>
    rw [nameP_cons]
    split
    · exact (C.cons h)
    · exact C.head h (by decide)
theorem num_goo (C : Cl e Q E) {l : List Tok} (h : Q l) : Goo Q E (fun r => r.2) (numP e l) := by
  cases l with
  | nil => exact C.end_ h
  | cons t r =>
    rw [numP_cons]
    split
    · exact (C.cons h)
    · exact C.head h (by decide)
theorem want_goo (C : Cl e Q E) {s : List UInt8} {l : List Tok} (h : Q l) : Goo Q E (fun r => r) (wantP e s l) := by
  unfold wantP
  split
  · exact (C.tail h)
  · exact C.err h (by decide)
theorem typ_goo (C : Cl e Q E) : ∀ {l : List Tok} {acc : List UInt8}, Q l → Goo Q E (fun r => r.2) (typP e acc l)
  | [], acc, h => by rw [typP_nil]; exact C.end_ h
  | t :: r, acc, h => by
    rw [typP_cons]
    split
    · exact (C.cons h)
    split
    · split
      · exact C.head h (by decide)
      · exact typ_goo C (C.cons h)
    · exact C.head h (by decide)
theorem args_goo (C : Cl e Q E) : ∀ {f : Nat} {acc : List Ex} {l : List Tok}, Q l → Goo Q E (fun r => r.2) (argsL e f acc l)
  | 0, _, _, h => by unfold argsL; exact C.fuel
  | f + 1, acc, l, h => by
    unfold argsL
    split
    · exact (C.tail h)
    · refine Goo.bind (f := fun r => r) ?_ fun a ha => ?_
      · split
        · exact h
        · exact want_goo C h
      · split
        · exact C.err ha (by decide)
        · exact (expr_goo C ha).bind fun b hb => args_goo C hb
theorem pars_goo (C : Cl e Q E) : ∀ {f : Nat} {acc : List (ByteArray × ByteArray)} {l : List Tok}, Q l → Goo Q E (fun r => r.2) (parsL e f acc l)
  | 0, _, _, h => by unfold parsL; exact C.fuel
  | f + 1, acc, l, h => by
    unfold parsL
    split
    · exact (C.tail h)
    · refine Goo.bind (f := fun r => r) ?_ fun a ha => ?_
      · split
        · exact h
        · exact want_goo C h
      · split
        · exact C.err ha (by decide)
        · exact (name_goo C ha).bind fun b hb => (typ_goo C hb).bind fun c hc => pars_goo C hc
theorem short_goo (C : Cl e Q E) {d : Nat} {l : List Tok} (h : Q l) : Goo Q E (fun r => r.2) (shortP e d l) := by
  unfold shortP
  split
  · exact (expr_goo C h).bind fun a ha => ha
  refine (name_goo C h).bind fun a ha => ?_
  split
  · exact (want_goo C ha).bind fun b hb => (expr_goo C hb).bind fun c hc => hc
  split
  · exact (name_goo C ha).bind fun b hb => (typ_goo C hb).bind fun c hc => (num_goo C hc).bind fun d hd => hd
  split
  · exact (name_goo C ha).bind fun b hb => hb
  split
  · exact (expr_goo C ha).bind fun b hb => hb
  split
  · exact (want_goo C ha).bind fun b hb => (args_goo C hb).bind fun c hc => hc
  · exact ha
theorem long_goo (C : Cl e Q E) {d : Nat} {l : List Tok} (h : Q l) : Goo Q E (fun r => r.2) (longP e d l) := by
  unfold longP
  split
  · exact (name_goo C h).bind fun a ha => (want_goo C ha).bind fun b hb => (name_goo C hb).bind fun c hc => hc
  · exact (expr_goo C h).bind fun a ha => ha
theorem sgoo (C : Cl e Q E) : ∀ f : Nat, (∀ {deep n l}, Q l → Goo Q E (fun r => r.2.2) (blockP e f deep n l)) ∧ (∀ {deep acc n l}, Q l → Goo Q E (fun r => r.2.2) (stmtsL e f deep acc n l)) ∧ (∀ {deep n l}, Q l → Goo Q E (fun r => r.2.2) (stmtP e f deep n l)) := by
  intro f
  induction f with
  | zero =>
    refine ⟨?_, ?_, ?_⟩
    · intro deep n l h
      unfold blockP
      exact C.fuel
    · intro deep acc n l h
      unfold stmtsL
      exact C.fuel
    · intro deep n l h
      unfold stmtP
      exact C.fuel
  | succ f ih =>
    obtain ⟨i1, i2, i3⟩ := ih
    refine ⟨?_, ?_, ?_⟩
    · intro deep n l h
      rw [blockP_eq]
      split
      · split
        · exact C.err h (by decide)
        · exact i2 (C.tail h)
      · exact C.err h (by decide)
    · intro deep acc n l h
      rw [stmtsL_eq]
      split
      · exact (C.tail h)
      · exact (i3 h).bind fun a ha => i2 ha
    · intro deep n l h
      cases l with
      | nil => rw [stmtP_nil]; exact C.end_ h
      | cons t r =>
        rw [stmtP_cons]
        split
        · split
          · exact C.head h (by decide)
          split
          · exact (short_goo C (C.cons h)).bind fun a ha => (want_goo C ha).bind fun b hb => hb
          · refine (long_goo C (C.cons h)).bind fun a ha => (i1 ha).bind fun b hb => ?_
            split
            · exact (i1 (C.tail hb)).bind fun c hc => hc
            · exact hb
        · exact C.head h (by decide)
theorem stage_goo (C : Cl e Q E) {n : Nat} {l : List Tok} (h : Q l) : Goo Q E (fun r => r.2.2) (stageP e n l) := by
  cases l with
  | nil => exact C.end_ h
  | cons t r =>
    exact (name_goo C (C.cons h)).bind fun a ha => (want_goo C ha).bind fun b hb => (pars_goo C hb).bind fun c hc => ((sgoo C _).1 hc).bind fun d hd => hd
theorem stages_goo (C : Cl e Q E) : ∀ {f : Nat} {acc : List Sg} {n : Nat} {l : List Tok}, Q l → ∀ x, stagesL e f acc n l = .error x → E x
  | 0, _, _, _, h, x, hx => by
    unfold stagesL at hx
    cases hx
    exact C.fuel
  | f + 1, acc, n, l, h, x, hx => by
    unfold stagesL at hx
    split at hx
    · cases hx
    split at hx
    · split at hx
      · cases hx
        exact C.err h (by decide)
      · have hg := stage_goo C (n := n) h
        cases hs : stageP e n l with
        | error y =>
          rw [hs] at hx hg
          cases hx
          exact hg
        | ok q =>
          rw [hs] at hx hg
          exact stages_goo C hg x hx
    · cases hx
      exact C.err h (by decide)
theorem parse_goo {l : List Tok} (h : InT e l) {x : Int × Int} (hx : parseT e l = .error x) : ErB e x := stages_goo (cl_in h.1) h x hx
end
end Go.Proofs.YtkeeboomikkojaaGreatDoor

namespace Go.Proofs.YtkeeboomikkojaaGreatDoor
open Go Go.Sx Go.Sx.Tk Go.Sx.Rn Go.Proofs.YtkeeboomikkojaaGreatDoor.Sx

section
variable {ω : Amb} {e : Int}
set_option maxRecDepth 100000 in
theorem inv39 (a b : Value) (w : World) : (invoke (.fn (.func 30) #[a, b]) #[]).run Tryz.prog w = .ok (.enter 30 #[a, b]) w := by
  have h1 : Tryz.prog.funcs[30]? = some Tryz.f30 := Tryz.func30
  simp only [invoke, callFunc, Sem.run_bind, run_program, Result.andThen_ok, h1]
  rfl
set_option maxRecDepth 100000 in
theorem parse_res {fr : Fr} {h' : Hp} {A B : Nat} {v : Value} {c a : Int} {F : Value → Prop} (h2 : fr.getD 2 undef = .pointer (some ⟨A, 0, none⟩)) (h3 : fr.getD 3 undef = .pointer (some ⟨B, 0, none⟩)) (hA : h'[A]? = some (.cells [v].toArray 24 (0, 0))) (hB : h'[B]? = some (.cells (flt c a).toArray 28 (0, 0)))
    (hF : F (.tuple #[.agg #[v], .agg (flt c a).toArray])) : resK Tryz.prog Tryz.f14.results.toList fr h' [] F := by
  refine (show resK Tryz.prog Tryz.f14.results.toList fr h' [] F = (asP (fr.getD 2 undef) fun ad => ∃ cs, cellsH h' ad 1 cs ∧ asP (fr.getD 3 undef) fun ad => ∃ cs', cellsH h' ad 2 cs' ∧ F (.tuple #[.agg cs.toArray, .agg cs'.toArray])) by kernel_rfl) ▸ ?_
  rw [h2, h3, asP_some]
  exact ⟨[v], cellsH_blk hA rfl, _, cellsH_blk hB rfl, hF⟩
theorem rec_none {a b : Value} {h : Hp} {R : Hp → Prop} (hR : R h) : W_recF ω a b .nilIface h (fun _ h' => R h') (fun _ _ => False) := by
  unfold W_recF
  show ∃ J1 : Hp → Prop, _
  exact ⟨fun h' => R h', hR, fun _ _ hr => hr⟩
theorem rec_gone {A B : Nat} {c d : Int} {h : Hp} {cur2 cur3 : Array Value} (hA : h[A]? = some (.cells cur2 24 (0, 0))) (hB : h[B]? = some (.cells cur3 28 (0, 0))) (z2 : cur2.size = 1) (z3 : cur3.size = 2) (hAB : A ≠ B) {R : Hp → Prop}
    (hR : ∀ h', Keep (fun b => b = A ∨ b = B) h h' → h'[A]? = some (.cells [.slice none 0 0].toArray 24 (0, 0)) → h'[B]? = some (.cells (flt c d).toArray 28 (0, 0)) → R h') :
    W_recF ω (.pointer (some ⟨A, 0, none⟩)) (.pointer (some ⟨B, 0, none⟩)) (.iface 67 (.agg #[.int .i64 c, .int .i64 d])) h (fun _ h' => R h') (fun _ _ => False) := by
  unfold W_recF
  show ∃ J1 : Hp → Prop, _
  refine ⟨fun h' => R h', ?_, fun _ _ hr => hr⟩
  rw [show (!false) = true from rfl, cond_true]
  rw [show ∀ (t : TypeId) (u : Value) (F : TypeId → Value → Prop), asIfc (.iface t u) F = F t u from fun _ _ _ => rfl]
  rw [show Nat.beq 67 67 = true from rfl, cond_true, asA_agg]
  refine ⟨rfl, flt_one c d, storeK_local (cs := flt c d) rfl ?_⟩
  have hn := hp_push_new (h := h) (o := .cells (flt c d).toArray 67 (0, 0))
  have k1 := Keep.push (S := fun _ => False) h (.cells (flt c d).toArray 67 (0, 0))
  have z1 : (h.push (.cells (flt c d).toArray 67 (0, 0))).size = h.size + 1 := by simp
  generalize h.push (.cells (flt c d).toArray 67 (0, 0)) = h1 at *
  have hlA := hp_lt hA
  have hlB := hp_lt hB
  refine ⟨fun h' => h' = h1, ?_, ?_⟩
  · rw [show (!true) = false from rfl, cond_false]
  rintro _ _ rfl
  rename_i h1
  refine ⟨_, cellsH_blk hn rfl, ?_⟩
  rw [asP_some]
  have hA1 := k1.get hA (by simp)
  refine ⟨rfl, (fun u hu => by rw [List.mem_singleton.1 hu]; rfl), storeK_of (o := 0) hA1 (by rw [z2]; simp) ?_⟩
  rw [spl_all (by rw [z2]; rfl)]
  have hA2 := hp_set_same (o := .cells [Value.slice none 0 0].toArray 24 (0, 0)) hA1
  have k2 := Keep.set (S := fun b => b = A) (h := h1) (.cells [Value.slice none 0 0].toArray 24 (0, 0)) (b := A) rfl
  have zz2 : (h1.setIfInBounds A (.cells [Value.slice none 0 0].toArray 24 (0, 0))).size = h1.size := by simp
  generalize h1.setIfInBounds A (.cells [Value.slice none 0 0].toArray 24 (0, 0)) = h2 at *
  refine ⟨cellsH_blk (k2.get hn (by omega)) rfl, ?_⟩
  rw [asP_some]
  have hB2 := k2.get (k1.get hB (by simp)) (fun e => hAB e.symm)
  refine ⟨rfl, flt_one c d, ?_⟩
  show storeK h2 ⟨B, 0, none⟩ (flt c d) _
  refine storeK_of (o := 0) hB2 (by rw [z3]; simp [flt]) ?_
  rw [spl_all (by rw [z3]; rfl)]
  have hB3 := hp_set_same (o := .cells (flt c d).toArray 28 (0, 0)) hB2
  have k3 := Keep.set (S := fun b => b = B) (h := h2) (.cells (flt c d).toArray 28 (0, 0)) (b := B) rfl
  exact hR _ (((k1.mono fun _ _ h => h.elim).trans (k2.mono fun _ _ h => .inl h)).trans (k3.mono fun _ _ h => .inr h)) (k3.get hA2 hAB) hB3
/-! ### what Parse tells -/
/-- the program, or what is wrong -/
def PsO (s : ByteArray) (res : Except (Int × Int) (List Sg)) : Prop := ∃ ts e a, Tkz.Out s ts e a ∧ res = if e = 0 then parseT (s.size : Int) ts else .error (e, a)
theorem PsO.same {s : ByteArray} {r q : Except (Int × Int) (List Sg)} (h : PsO s r) (k : PsO s q) : r = q := by
  obtain ⟨ts, e, a, h1, rfl⟩ := h
  obtain ⟨us, e', a', h2, rfl⟩ := k
  obtain ⟨rfl, rfl, rfl⟩ := h1.same h2
  rfl
def PsR (h' : Hp) (r : Value) : Except (Int × Int) (List Sg) → Prop
  | .ok p => ∃ v, r = .tuple #[v, .agg (flt 0 0).toArray] ∧ PgS h' v p
  | .error x => r = .tuple #[.agg #[.slice none 0 0], .agg (flt x.1 x.2).toArray]
/-- the two blocks of the results, at the end -/
def FinR (A B : Nat) (h' : Hp) : Except (Int × Int) (List Sg) → Prop
  | .ok p => ∃ vp, h'[A]? = some (.cells [vp].toArray 24 (0, 0)) ∧ h'[B]? = some (.cells (flt 0 0).toArray 28 (0, 0)) ∧ SgS h' vp p
  | .error x => h'[A]? = some (.cells [.slice none 0 0].toArray 24 (0, 0)) ∧ h'[B]? = some (.cells (flt x.1 x.2).toArray 28 (0, 0))
set_option maxRecDepth 100000 in
theorem parse_end {s : ByteArray} {h : Hp} {X : List PanicEntry → Hp → Prop}
    (hW : W_parse3 ω (.string s) h (fun _ h' => ∃ res, PsO s res ∧ FinR h.size (h.size + 1) h' res ∧ Keep (fun _ => False) h h')
      (fun c h' => ∃ x, c = gone x ∧ PsO s (.error x) ∧ Keep (fun _ => False) h h' ∧ (∃ cur, h'[h.size]? = some (.cells cur 24 (0, 0)) ∧ cur.size = 1) ∧ ∃ cur, h'[h.size + 1]? = some (.cells cur 28 (0, 0)) ∧ cur.size = 2)) :
    CallX Tryz.prog ω 14 [.string s] h (fun r h' => ∃ res, PsO s res ∧ PsR h' r res ∧ Keep (fun _ => False) h h') X := by
  have hpA : ptA h = .pointer (some ⟨h.size, 0, none⟩) := rfl
  have hpB : ptB h = .pointer (some ⟨h.size + 1, 0, none⟩) := by simp [ptB]
  have hleave : ∀ (fr : Fr) (h' : Hp) (d : Nat), fr.getD 2 undef = ptA h → fr.getD 3 undef = ptB h → (∃ res, PsO s res ∧ FinR h.size (h.size + 1) h' res ∧ Keep (fun _ => False) h h') →
      Leaves Tryz.prog Tryz.f14 fr.toArray (endX ω (fun r h' => ∃ res, PsO s res ∧ PsR h' r res ∧ Keep (fun _ => False) h h') X) [] .returning (W ω h' d) := by
    rintro fr h' d h2 h3 ⟨res, ho, hf, hk⟩
    rw [hpA] at h2
    rw [hpB] at h3
    have hgo : ∃ v c a, h'[h.size]? = some (.cells [v].toArray 24 (0, 0)) ∧ h'[h.size + 1]? = some (.cells (flt c a).toArray 28 (0, 0)) ∧ PsR h' (.tuple #[.agg #[v], .agg (flt c a).toArray]) res := by
      cases res with
      | ok p =>
        obtain ⟨vp, h1, h2, h3⟩ := hf
        exact ⟨vp, 0, 0, h1, h2, _, rfl, vp, rfl, h3⟩
      | error x => exact ⟨_, _, _, hf.1, hf.2, rfl⟩
    obtain ⟨v, c, a, h1, h4, h5⟩ := hgo
    obtain ⟨r, g1, g2⟩ := res_run (P := Tryz.prog) (ω := ω) (parse_res (F := fun r => PsR h' r res) h2 h3 h1 h4 h5) d
    exact ⟨r, g1, ⟨d, rfl⟩, res, ho, g2, hk⟩
  refine parse_defer3 hW (fun fr h' d h2 h3 hf => ⟨hleave fr h' d h2 h3 hf, ?_⟩) ?_
  · refine leaves_cons (f := 30) (args := #[ptA h, ptB h]) (by simp) (inv39 _ _ _) ?_
    refine (rec_calls (u := .returning) (u' := .returning) (v := .nilIface) (R := fun h'' => h'' = h') (fun c₀ cs hu => .inr ⟨by simp [recoverD, hu], rfl, rfl⟩) (rec_none rfl)).mono ?_
    rintro e' u2 w2 ⟨⟨r, rfl⟩, rfl, h'', d', rfl, rfl⟩
    exact hleave fr h'' d' h2 h3 hf
  · rintro c a h' d h2 h3 ⟨x, rfl, ho, hk, ⟨cur2, hA, z2⟩, cur3, hB, z3⟩
    refine leaves_cons (f := 30) (args := #[ptA h, ptB h]) (by simp) (inv39 _ _ _) ?_
    refine (rec_calls (u := .panicking (gone x)) (u' := .panicking [⟨.iface 67 (.agg #[.int .i64 x.1, .int .i64 x.2]), true, false⟩]) (v := .iface 67 (.agg #[.int .i64 x.1, .int .i64 x.2])) (R := fun h'' => Keep (fun _ => False) h h'' ∧ FinR h.size (h.size + 1) h'' (.error x))
      (fun c₀ cs hu => .inl (by simp [recoverD, hu, gone])) ?_).mono ?_
    · rw [hpA, hpB]
      refine rec_gone hA hB z2 z3 (by omega) fun h'' k e1 e2 => ⟨hk.newer (k.mono fun b _ hb => .inr ?_), e1, e2⟩
      rcases hb with rfl | rfl <;> omega
    · rintro e' u2 w2 ⟨⟨r, rfl⟩, rfl, h'', d', rfl, hk2, hf⟩
      have := hleave a.tmps.toList h'' d' (by rw [arr_getD]; exact h2) (by rw [arr_getD]; exact h3) ⟨_, ho, hf, hk2⟩
      simp only [Array.toArray_toList] at this
      exact this
end
end Go.Proofs.YtkeeboomikkojaaGreatDoor

namespace Go.Proofs.YtkeeboomikkojaaGreatDoor
open Go Go.Sx Go.Sx.Tk Go.Sx.Rn Go.Proofs.YtkeeboomikkojaaGreatDoor.Sx

theorem stage_len {e : Int} {n : Nat} {ts : List Tok} {q : Sg × Nat × List Tok} (hn : n ≤ 300) (h : stageP e n ts = .ok q) : q.2.2.length < ts.length ∧ q.2.1 ≤ 300 := by
  cases ts with
  | nil => cases h
  | cons t r =>
    have h : (bindP (nameP e r) fun a => bindP (wantP e [40] a.2) fun l => bindP (parsL e (l.length + 1) [] l) fun ps => bindP (blockP e (3 * ps.2.length + 3) 0 n ps.2) fun b => .ok (⟨a.1, t.at_, ps.1, b.1⟩, b.2.1, b.2.2)) = (.ok q : PR Sg) := h
    obtain ⟨a, ha, h⟩ := bindP_okk h
    obtain ⟨l, hl, h⟩ := bindP_okk h
    obtain ⟨ps, hps, h⟩ := bindP_okk h
    obtain ⟨b, hb, h⟩ := bindP_okk h
    cases h
    have h1 := nameP_len ha
    have h2 := wantP_len hl
    have h3 := parsL_len hps
    obtain ⟨h4, h5⟩ := (slen e _).1 hn hb
    refine ⟨?_, h5⟩
    show b.2.2.length < _
    simp only [List.length_cons]
    omega
theorem stagesL_eq (e : Int) (f n : Nat) (acc : List Sg) (l : List Tok) : stagesL e (f + 1) acc n l =
    if l.length = 0 ∧ acc.length ≠ 0 then .ok acc
    else if isT [115, 116, 97, 103, 101] l then (if acc.length = 10 then .error (pErr e 8 l) else bindP (stageP e n l) fun q => stagesL e f (acc ++ [q.1]) q.2.1 q.2.2)
    else .error (pErr e 5 l) := by
  conv => lhs; unfold stagesL
/-- a block of one cell is no row of tokens -/
theorem PA.set1 {h h' : Hp} {G A : Nat} {ts : List Tok} {e n d o t : Int} {vp : Value} {ty : TypeId} (hp : PA h G ts e n d o t) (hA : h[A]? = some (.cells [vp].toArray ty (0, 0))) (hne : A ≠ G) (k : Keep (fun b => b = A) h h') : PA h' G ts e n d o t := by
  obtain ⟨vl, hg, htk⟩ := hp.ex
  refine ⟨vl, k.get hg (fun e => hne e.symm), ⟨?_, htk.cap, htk.low⟩⟩
  cases ts with
  | nil =>
    obtain ⟨a, c, hv⟩ := htk.form
    exact ⟨rfl, .inl ⟨rfl, a, c, hv⟩⟩
  | cons x r =>
    refine SlAt.keepS htk.at_ k fun b hb hbA => ?_
    rcases htk.at_.2 with ⟨h0, _⟩ | ⟨b', o', c', hv, hc⟩
    · simp at h0
    · rw [hv] at hb
      have hb : b' = b := by simpa [Value.ownBlock] using hb
      subst hb
      subst hbA
      have := hc 1 _ rfl
      rw [cellH_block hA] at this
      simp at this
section
variable {ω : Amb}
set_option maxRecDepth 100000 in
set_option maxHeartbeats 1000000 in
theorem parse_W (s : ByteArray) (h : Hp) :
    W_parse3 ω (.string s) h (fun _ h' => ∃ res, PsO s res ∧ FinR h.size (h.size + 1) h' res ∧ Keep (fun _ => False) h h')
      (fun c h' => ∃ x, c = gone x ∧ PsO s (.error x) ∧ Keep (fun _ => False) h h' ∧ (∃ cur, h'[h.size]? = some (.cells cur 24 (0, 0)) ∧ cur.size = 1) ∧ ∃ cur, h'[h.size + 1]? = some (.cells cur 28 (0, 0)) ∧ cur.size = 2) := by
  unfold W_parse3
  have zA : (h.push (.cells #[(.slice none 0 0)] 24 (0, 0))).size = h.size + 1 := by simp
  have hA0 : (Array.push (Array.push h (.cells #[(.slice none 0 0)] 24 (0, 0))) (.cells #[(.int .i64 0), (.int .i64 0)] 28 (0, 0)))[h.size]? = some (.cells [.slice none 0 0].toArray 24 (0, 0)) :=
    (Keep.push (S := fun _ => False) _ _).get hp_push_new (by simp)
  have hB0 : (Array.push (Array.push h (.cells #[(.slice none 0 0)] 24 (0, 0))) (.cells #[(.int .i64 0), (.int .i64 0)] 28 (0, 0)))[h.size + 1]? = some (.cells (flt 0 0).toArray 28 (0, 0)) := by
    rw [← zA]
    exact hp_push_new
  have k0 : Keep (fun _ => False) h (Array.push (Array.push h (.cells #[(.slice none 0 0)] 24 (0, 0))) (.cells #[(.int .i64 0), (.int .i64 0)] 28 (0, 0))) := (Keep.push _ _).trans (Keep.push _ _)
  have z0 : (Array.push (Array.push h (.cells #[(.slice none 0 0)] 24 (0, 0))) (.cells #[(.int .i64 0), (.int .i64 0)] 28 (0, 0))).size = h.size + 2 := by simp
  simp only [zA]
  generalize Array.push (Array.push h (.cells #[(.slice none 0 0)] 24 (0, 0))) (.cells #[(.int .i64 0), (.int .i64 0)] 28 (0, 0)) = h0 at *
  refine CallX.use (Tkz.Scan_law s h0) ?_
  intro r h1 hso
  obtain ⟨ts, v, ec, ea, hr, k1, hout, hsl, hcap, hlow⟩ : ∃ ts v ec ea, r = .tuple #[v, .agg (flt ec ea).toArray] ∧ Keep (fun _ => False) h0 h1 ∧ Tkz.Out s ts ec ea ∧ SlAt h1 4 v ts.length (ts.flatMap Tok.f) ∧ (∀ a l c, v = .slice a l c → l ≤ c) ∧ ∀ k, v.ownBlock = some k → h0.size ≤ k ∧ k < h1.size := by
    cases hso with
    | big hb hr hk => exact ⟨[], _, 1, 12000, hr, hk, .inl ⟨hb, rfl, rfl, rfl⟩, ⟨rfl, .inl ⟨rfl, _, _, rfl⟩⟩, (fun _ _ _ e => by cases e; exact Nat.le_refl _), fun _ e => by cases e⟩
    | bad e a hb hs hr hk => exact ⟨[], _, e, a, hr, hk, .inr (.inr ⟨hb, hs, rfl⟩), ⟨rfl, .inl ⟨rfl, _, _, rfl⟩⟩, (fun _ _ _ e => by cases e; exact Nat.le_refl _), fun _ e => by cases e⟩
    | ok ts v hb hs hr ho hk =>
      refine ⟨ts, v, 0, 0, hr, hk, .inr (.inl ⟨hb, hs, rfl, rfl⟩), ho.slAt, ?_, fun k hk => ho.lt k hk⟩
      intro a l c e
      rcases ho.shape with ⟨rfl, _, _⟩ | ⟨g, o, cap, rfl, _, _, hle, _⟩
      · cases e
        exact Nat.le_refl _
      · cases e
        exact hle
  subst hr
  have htl := hout.len
  have hs1 := k1.size
  have hA1 := k1.get hA0 (by simp)
  have hB1 := k1.get hB0 (by simp)
  have k01 := k0.trans k1
  have hsl1 : isSl v := SlAt.isSl hsl
  rw [asT_tup, show (#[v, .agg (flt ec ea).toArray] : Array Value)[0]? = some v from rfl, asO_some, asT_tup, show (#[v, .agg (flt ec ea).toArray] : Array Value)[1]? = some (.agg (flt ec ea).toArray) from rfl, asO_some, asA_agg]
  refine ⟨rfl, flt_one ec ea, storeK_of (o := 0) hB1 (by simp [flt]) ?_⟩
  rw [spl_all (by simp [flt])]
  have hB2 := hp_set_same (o := .cells (flt ec ea).toArray 28 (0, 0)) hB1
  have k2 := Keep.set (S := fun b => b = h.size + 1) (h := h1) (.cells (flt ec ea).toArray 28 (0, 0)) (b := h.size + 1) rfl
  have z2 : (h1.setIfInBounds (h.size + 1) (.cells (flt ec ea).toArray 28 (0, 0))).size = h1.size := by simp
  show ∃ v8, _ ∧ _
  generalize hh2 : h1.setIfInBounds (h.size + 1) (.cells (flt ec ea).toArray 28 (0, 0)) = h2 at *
  have hA2 := k2.get hA1 (by omega)
  have k02 : Keep (fun _ => False) h h2 := k01.newer (k2.mono fun b _ hb => .inr (by omega))
  refine lx hB2 (j := 0) (u := .int .i64 ec) rfl ?_
  rw [asK_int]
  refine cond_c (fun hc => ?_) (fun hc => ?_)
  · have hc : ec ≠ 0 := by simpa using hc
    refine ⟨_, cellsH_blk hB2 rfl, trivial, (fun u hu => by rw [List.mem_singleton.1 hu]; rfl), storeK_of (o := 0) hA2 (by simp) ?_⟩
    rw [spl_all (by simp)]
    have hA3 := hp_set_same (o := .cells [Value.slice none 0 0].toArray 24 (0, 0)) hA2
    have k3 := Keep.set (S := fun b => b = h.size) (h := h2) (.cells [Value.slice none 0 0].toArray 24 (0, 0)) (b := h.size) rfl
    generalize h2.setIfInBounds h.size (.cells [Value.slice none 0 0].toArray 24 (0, 0)) = h3 at *
    have hB3 := k3.get hB2 (by omega)
    refine ⟨cellsH_blk hB3 rfl, rfl, flt_one ec ea, ?_⟩
    show storeK h3 ⟨h.size + 1, 0, none⟩ (flt ec ea) _
    refine storeK_of (o := 0) hB3 (by simp [flt]) ?_
    rw [spl_all (by simp [flt])]
    have hB4 := hp_set_same (o := .cells (flt ec ea).toArray 28 (0, 0)) hB3
    have k4 := Keep.set (S := fun b => b = h.size + 1) (h := h3) (.cells (flt ec ea).toArray 28 (0, 0)) (b := h.size + 1) rfl
    refine ⟨.error (ec, ea), ⟨ts, ec, ea, hout, by rw [if_neg hc]⟩, ⟨k4.get hA3 (by omega), hB4⟩, (k02.newer (k3.mono fun b _ hb => .inr (by omega))).newer (k4.mono fun b _ hb => .inr (by omega))⟩
  have hec : ec = 0 := by simpa using hc
  have hO : ∀ res, parseT (s.size : Int) ts = res → PsO s res := fun res hr => ⟨ts, ec, ea, hout, by rw [if_pos hec, hr]⟩
  rw [asS_str]
  refine oneK_of hsl1.one ?_
  have hG0 : (h2.push (.cells #[v, (.int .i64 (s.size : Int)), (.int .i64 0), (.int .i64 0), (.int .i64 0), (.int .i64 0)] 71 (0, 0)))[h2.size]? = some (.cells (psr v (s.size : Int) 0 0 0 0).toArray 71 (0, 0)) := hp_push_new
  have k3 := Keep.push (S := fun _ => False) h2 (.cells #[v, (.int .i64 (s.size : Int)), (.int .i64 0), (.int .i64 0), (.int .i64 0), (.int .i64 0)] 71 (0, 0))
  have z3 : (h2.push (.cells #[v, (.int .i64 (s.size : Int)), (.int .i64 0), (.int .i64 0), (.int .i64 0), (.int .i64 0)] 71 (0, 0))).size = h2.size + 1 := by simp
  generalize h2.push (.cells #[v, (.int .i64 (s.size : Int)), (.int .i64 0), (.int .i64 0), (.int .i64 0), (.int .i64 0)] 71 (0, 0)) = h3 at *
  have hpa3 : PA h3 h2.size ts (s.size : Int) ((0 : Nat) : Int) ((0 : Nat) : Int) 0 0 := ⟨v, hG0, (SlAt.keepS (SlAt.keepS hsl k2 fun k hk e => by have := (hlow k hk).1; omega) k3 fun _ _ h => h), hcap, fun k hk => by have := (hlow k hk).2; omega⟩
  have hA3 := k3.get hA2 (by simp)
  have hB3 := k3.get hB2 (by simp)
  have k03 := k02.trans k3
  generalize hG : h2.size = G at *
  refine ⟨fun h' => ∃ f acc us ts' n vp t', parseT (s.size : Int) ts = stagesL (s.size : Int) f acc n ts' ∧ ts'.length + 2 ≤ f ∧ ts'.length ≤ 12000 ∧ n ≤ 300 ∧ acc.length ≤ 10 ∧ h'[h.size]? = some (.cells [vp].toArray 24 (0, 0)) ∧ h'[h.size + 1]? = some (.cells (flt ec ea).toArray 28 (0, 0)) ∧
      OwnH h' h3.size 41 4 vp acc.length us ∧ sgsAtN h' (fun b => Nw h3 h' b ∧ vp.ownBlock ≠ some b) acc us ∧ PA h' G ts' (s.size : Int) ((n : Nat) : Int) ((0 : Nat) : Int) 0 t' ∧ Keep (fun _ => False) h h' ∧ h3.size ≤ h'.size, tkN G,
    ⟨ts.length + 2, [], [], ts, 0, .slice none 0 0, 0, rfl, Nat.le_refl _, by omega, by omega, by simp, hA3, hB3, OwnH.nil, sgsAtN_nil, hpa3, k03, Nat.le_refl _⟩, ?_⟩
  rintro _ h4 ⟨f, acc, us, ts', n, vp, t', heq, hf, hl4, hn, hacc, hA4, hB4, ho, hat, hp4, k4, hs4⟩
  obtain ⟨f, rfl⟩ : ∃ q, f = q + 1 := ⟨f - 1, by omega⟩
  rw [stagesL_eq] at heq
  have hlt4 := ho.lt
  have hform : ∃ a c, vp = .slice a acc.length c := by
    rcases ho.2 with ⟨rfl, h0⟩ | ⟨g, o, cap, cur, rfl, _⟩
    · exact ⟨none, 0, by rw [h0]⟩
    · exact ⟨_, _, rfl⟩
  have hslp : ∀ {F : Option Addr → Nat → Nat → Prop}, (∀ a c, F a acc.length c) → asSl vp F := fun hF => by
    obtain ⟨a, c, rfl⟩ := hform
    rw [asSl_sl]
    exact hF _ _
  refine ⟨!decide (ts'.length = 0 ∧ acc.length ≠ 0), ?_, fun _ => ?_⟩
  · obtain ⟨vl, hg, htk⟩ := hp4.ex
    refine lx hg (j := 0) rfl ?_
    obtain ⟨a, c, hv⟩ := htk.form
    rw [hv, asSl_sl]
    refine cond_c (fun h0 => ?_) (fun h0 => ?_)
    · have h0 := of_decide_eq_true h0
      refine ⟨?_, trivial⟩
      rw [decide_eq_false (by omega)]
      rfl
    · have h0 := of_decide_eq_false h0
      refine lx hA4 (j := 0) rfl ?_
      refine hslp fun _ _ => ⟨?_, trivial⟩
      have hz : ts'.length = 0 := by omega
      rw [Value.bool.injEq, Bool.eq_iff_iff]
      simp [hz]
  refine cond_c (fun hb => ?_) (fun hb => ?_)
  · have hnot : ¬ (ts'.length = 0 ∧ acc.length ≠ 0) := fun hh => by rw [decide_eq_true hh] at hb; cases hb
    rw [if_neg hnot] at heq
    refine CallX.use (is_law hp4 ⟨#[115, 116, 97, 103, 101]⟩) ?_
    rintro _ _ ⟨rfl, rfl⟩
    rw [asB_bool, show bytesOf ⟨#[115, 116, 97, 103, 101]⟩ = [115, 116, 97, 103, 101] from rfl]
    refine ⟨fun h' => isT [115, 116, 97, 103, 101] ts' = true ∧ h4 = h', ?_, ?_⟩
    · refine cond_c (fun hT => ?_) (fun hT => ?_)
      · have hT : isT [115, 116, 97, 103, 101] ts' = false := by simpa using hT
        refine CallX.mono (gone_law hp4 5 _ ?_) (fun _ _ hf => hf.elim) (fun _ _ hx => hx)
        exact ⟨_, rfl, hO _ (by rw [heq, hT]; rfl), k4, ⟨_, hA4, rfl⟩, _, hB4, rfl⟩
      · exact ⟨by simpa using hT, rfl⟩
    rintro _ _ ⟨hT, rfl⟩
    rw [if_pos hT] at heq
    refine lx hA4 (j := 0) rfl ?_
    refine hslp fun _ _ => ?_
    refine ⟨fun h' => acc.length ≠ 10 ∧ h4 = h', ?_, ?_⟩
    · refine cond_c (fun h6 => ?_) (fun h6 => ?_)
      · have h6 : acc.length = 10 := by have := eq_of_beq h6; omega
        refine CallX.mono (gone_law hp4 8 _ ?_) (fun _ _ hf => hf.elim) (fun _ _ hx => hx)
        exact ⟨_, rfl, hO _ (by rw [heq, if_pos h6]), k4, ⟨_, hA4, rfl⟩, _, hB4, rfl⟩
      · exact ⟨fun hh => by rw [hh] at h6; exact absurd h6 (by decide), rfl⟩
    rintro _ _ ⟨h6', rfl⟩
    rw [if_neg h6'] at heq
    refine lx hA4 (j := 0) rfl ?_
    obtain ⟨x0, r0, rfl⟩ := isT_cons hT
    have hGlt := hp4.lt
    have hkeep : ∀ {h' : Hp}, KG G h4 h' → Keep (fun _ => False) h h' := fun k => k4.newer (k.mono fun b _ hb => .inr (by omega))
    refine CallX.mono (stage_law hp4 (by omega) hn _ fun x h' hx kx => ⟨x, rfl, hO _ (by rw [heq, hx]; rfl), hkeep kx.k, ⟨_, kx.k.get hA4 (by omega), rfl⟩, _, kx.k.get hB4 (by omega), rfl⟩) ?_ (fun _ _ hx => hx)
    rintro _ h5 ⟨sg, m, ts5, hok, ⟨vp2, vb2, rfl, hps, hnil, hbd⟩, ⟨t5, hp5⟩, k5⟩
    obtain ⟨l5, m5⟩ := stage_len hn hok
    simp only at l5 m5
    have hs5 := k5.size
    have hA5 := k5.get hA4 (by omega)
    refine ⟨lx' hA5 (j := 0) rfl, ?_⟩
    rw [asA_agg, show ((sgC sg vp2 vb2).toArray.toList ++ []) = sgC sg vp2 vb2 from by simp]
    have kp5 := Keep.push (S := fun _ => False) h5 (.cells (List.toArray (sgC sg vp2 vb2)) 41 (0, 0))
    refine ⟨rfl, lx' (kp5.get hA5 (by simp)) (j := 0) rfl, ?_⟩
    have ho5 : OwnH h5 h3.size 41 4 vp acc.length us := ho.keep fun b hb hbl => k5.block b hbl fun e => by have := hlt4 b hb; omega
    refine appK_one (bt := 72) (cs := sgC sg vp2 vb2) (by kernel_rfl) ho5 rfl (sgC_one (nilOr_isSl hnil) hbd.isSl) (by omega) (by omega) (by omega) fun w2 h9 ho2 hgr _ hv => ?_
    have hg9 := hgr.size
    have k59 : Keep (fun b => some b = vp.ownBlock) h5 h9 := Keep.grown hgr fun b hb _ => hb.symm
    have hA9 := k59.get hA5 (fun e => by have := hlt4 _ e.symm; omega)
    have hB9 := k59.get (k5.get hB4 (by omega)) (fun e => by have := hlt4 _ e.symm; omega)
    have hw2 : isSl w2 := SlAt.isSl ho2.slAt
    refine oneK_of hw2.one ?_
    refine storeK1_of (o := 0) hA9 (by simp) ?_
    rw [show ([vp].toArray).setIfInBounds 0 w2 = [w2].toArray from by simp]
    have hA10 := hp_set_same (o := .cells [w2].toArray 24 (0, 0)) hA9
    have k10 := Keep.set (S := fun b => b = h.size) (h := h9) (.cells [w2].toArray 24 (0, 0)) (b := h.size) rfl
    have z10 : (h9.setIfInBounds h.size (.cells [w2].toArray 24 (0, 0))).size = h9.size := by simp
    generalize h9.setIfInBounds h.size (.cells [w2].toArray 24 (0, 0)) = h10 at *
    have hlt2 := ho2.lt
    have hp10 := (hp5.keep k59 fun b hb e => by have := hlt4 b e.symm; omega).set1 hA9 (by omega) k10
    have k410 : Keep (fun b => b = G ∨ some b = vp.ownBlock ∨ b = h.size) h4 h10 := ((k5.mono fun _ _ h => .inl h).trans (k59.mono fun _ _ h => .inr (.inl h))).trans (k10.mono fun _ _ h => .inr (.inr h))
    have hmv : ∀ sz v n us, SlN h5 (Nw h4 h5) sz v n us → SlN h10 (fun b => Nw h3 h10 b ∧ w2.ownBlock ≠ some b) sz v n us := by
      intro sz v n us hs
      refine ((hs.keep k59 fun b hb e => by have := hlt4 b e.symm; have := hb.1; omega).keep k10 fun b hb e => by have := hb.1; omega).mono fun b hb => ⟨⟨by have := hb.1; omega, by have := hb.2; omega⟩, push_own hv (by have := hb.2; omega) fun e => ?_⟩
      have := hlt4 b e
      have := hb.1
      omega
    refine ⟨⟨f, acc ++ [sg], us ++ sgC sg vp2 vb2, ts5, m, w2, t5, by rw [heq, hok]; rfl, by simp only [List.length_cons] at hf l5; omega, by simp only [List.length_cons] at hl4 l5; omega, m5, by simp; omega, hA10, k10.get hB9 (by omega), ?_, ?_, hp10, ?_, by omega⟩, ?_⟩
    · rw [List.length_append]
      exact ho2.keep fun b hb hbl => k10.block b hbl fun e => by have := hlt2 b hb; omega
    · refine sgsAtN_snoc (sgsAtN_map (fun sz v n us hs => (hs.keep k410 fun b hb e => ?_).mono fun b hb => ⟨⟨hb.1.1, by have := hb.1.2; omega⟩, push_own hv (by have := hb.1.2; omega) hb.2⟩) _ hat) ho.1 ?_ rfl
      · have := hb.1.1
        rcases e with e | e | e
        · omega
        · exact hb.2 e.symm
        · omega
      exact ⟨vp2, vb2, rfl, hmv _ _ _ _ hps, hnil, hbd.map hmv⟩
    · exact (hkeep k5).newer ((k59.mono fun b hb e => .inr (by have := hlt4 b e.symm; omega)).trans (k10.mono fun b hb e => .inr (by omega)))
    · show tkN G h10 < tkN G h4
      rw [hp10.tkN, hp4.tkN]
      exact l5
  · have hb : ts'.length = 0 ∧ acc.length ≠ 0 := by simpa using hb
    rw [if_pos hb] at heq
    refine ⟨_, cellsH_blk hA4 rfl, rfl, ?_, storeK_of (o := 0) hA4 (by simp) ?_⟩
    · intro u hu
      rw [List.mem_singleton.1 hu]
      exact (SlAt.isSl ho.slAt).one
    rw [spl_all (by simp)]
    have hA5 := hp_set_same (o := .cells [vp].toArray 24 (0, 0)) hA4
    have k5 := Keep.set (S := fun b => b = h.size) (h := h4) (.cells [vp].toArray 24 (0, 0)) (b := h.size) rfl
    have z5 : (h4.setIfInBounds h.size (.cells [vp].toArray 24 (0, 0))).size = h4.size := by simp
    generalize h4.setIfInBounds h.size (.cells [vp].toArray 24 (0, 0)) = h5 at *
    have hB5 := k5.get hB4 (by omega)
    refine ⟨trivial, flt_one 0 0, ?_⟩
    show storeK h5 ⟨h.size + 1, 0, none⟩ (flt 0 0) _
    refine storeK_of (o := 0) hB5 (by simp [flt]) ?_
    rw [spl_all (by simp [flt])]
    have hB6 := hp_set_same (o := .cells (flt 0 0).toArray 28 (0, 0)) hB5
    have k6 := Keep.set (S := fun b => b = h.size + 1) (h := h5) (.cells (flt 0 0).toArray 28 (0, 0)) (b := h.size + 1) rfl
    have k46 : Keep (fun b => b = h.size ∨ b = h.size + 1) h4 _ := (k5.mono fun _ _ h => .inl h).trans (k6.mono fun _ _ h => .inr h)
    refine ⟨.ok acc, hO _ heq, ⟨vp, k6.get hA5 (by omega), hB6, ?_⟩, k4.newer (k46.mono fun b _ hb => .inr (by omega))⟩
    have hsln := SlN.own ho (by omega)
    exact ⟨us, (hsln.keep k46 fun b hb e => by have := hb.1; omega).1, sgsAtN.at acc (sgsAtN_map (N' := fun _ => True) (fun sz v n us hs => (hs.keep k46 fun b hb e => by have := hb.1.1; omega).mono fun _ _ => trivial) acc hat)⟩
theorem Parse_law (s : ByteArray) (h : Hp) (X : List PanicEntry → Hp → Prop) : CallX Tryz.prog ω 14 [.string s] h (fun r h' => ∃ res, PsO s res ∧ PsR h' r res ∧ Keep (fun _ => False) h h') X := parse_end (parse_W s h)
end
end Go.Proofs.YtkeeboomikkojaaGreatDoor

namespace Go.Proofs.YtkeeboomikkojaaGreatDoor
open Go Go.Sx Go.Sx.Tk Go.Sx.Rn Go.Proofs.YtkeeboomikkojaaGreatDoor.Sx

theorem stQ_eq (x : St) : stQ x = 1 + stsQ x.body + stsQ x.els := by
  cases x
  conv => lhs; unfold stQ
  rfl
theorem stsQ_cons (x : St) (r : List St) : stsQ (x :: r) = stQ x + stsQ r := by conv => lhs; unfold stsQ
theorem stsQ_nil : stsQ [] = 0 := by unfold stsQ; rfl
theorem stsQ_app : ∀ (l m : List St), stsQ (l ++ m) = stsQ l + stsQ m
  | [], m => by simp [stsQ_nil]
  | x :: r, m => by rw [List.cons_append, stsQ_cons, stsQ_cons, stsQ_app r m]; omega
theorem stsQ_snoc (l : List St) (x : St) : stsQ (l ++ [x]) = stsQ l + stQ x := by rw [stsQ_app, stsQ_cons, stsQ_nil]; omega
section
variable {ω : Amb}
end
end Go.Proofs.YtkeeboomikkojaaGreatDoor

namespace Go.Proofs.YtkeeboomikkojaaGreatDoor
open Go Go.Sx Go.Sx.Tk Go.Sx.Rn Go.Proofs.YtkeeboomikkojaaGreatDoor.Sx

theorem pgQ_snoc (l : List Sg) (x : Sg) : pgQ (l ++ [x]) = pgQ l + stsQ x.body := by unfold pgQ; simp
section
variable {ω : Amb}
end
/-! ### the text that is parsed first -/
end Go.Proofs.YtkeeboomikkojaaGreatDoor

namespace Go.Proofs.YtkeeboomikkojaaGreatDoor
open Go Go.Sx Go.Sx.Tk Go.Sx.Rn Go.Proofs.YtkeeboomikkojaaGreatDoor.Sx

section
variable {ω : Amb}
end
end Go.Proofs.YtkeeboomikkojaaGreatDoor
