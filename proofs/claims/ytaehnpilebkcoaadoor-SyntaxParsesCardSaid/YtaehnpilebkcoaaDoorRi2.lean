/- The document's parser: whole expressions, types. -/
import Derived.Test.YtaehnpilebkcoaaDoorRi1
import Derived.Test.YtaehnpilebkcoaaDoorRx3
namespace Go.Proofs.YtaehnpilebkcoaaDoor
open Go Go.Sx Go.Sx.Tk Go.Sx.Rn Go.Proofs.YtaehnpilebkcoaaDoor.Sx

/-- good or bad, however many parts there were -/
def RO2 [Inhabited Nat] (h : Hp) (G : Nat) (e : Int) : Except (Int × Int) (Nat × List Tok) → Prop
  | .ok s => ∃ p, RG h G e s.1 p s.2
  | .error x => RB h G e x
theorem RO2.keep [Inhabited Nat] {h h' : Hp} {S : Nat → Prop} {G : Nat} {e : Int} {st : Except (Int × Int) (Nat × List Tok)} (hs : RO2 h G e st) (k : Keep S h h') (hn : ∀ b, b ≤ G → ¬ S b) : RO2 h' G e st := by
  cases st with
  | ok s =>
    obtain ⟨p, hp⟩ := hs
    exact ⟨p, hp.keep k hn⟩
  | error x => exact RB.keep hs k hn
theorem RO2.lt [Inhabited Nat] {h : Hp} {G : Nat} {e : Int} {st : Except (Int × Int) (Nat × List Tok)} (hs : RO2 h G e st) : G < h.size := by
  cases st with
  | ok s =>
    obtain ⟨p, hp⟩ := hs
    exact hp.lt
  | error x => exact RB.lt hs
/-- with how many parts there were -/
def pin (p : Nat) (st : Except (Int × Int) (Nat × List Tok)) : Except (Int × Int) (Nat × Nat × List Tok) := bindP st fun s => .ok (s.1, p, s.2)
theorem RO2.pin [Inhabited Nat] {h : Hp} {G : Nat} {e : Int} {st : Except (Int × Int) (Nat × List Tok)} (hs : RO2 h G e st) : ∃ p, RO h G e (pin p st) := by
  cases st with
  | ok s => exact hs
  | error x => exact ⟨0, hs⟩
theorem isBad_pin (p : Nat) (st : Except (Int × Int) (Nat × List Tok)) : isBad (pin p st) = isBad st := by cases st <;> rfl
section
variable {ω : Amb} {h : Hp} {G : Nat} {e : Int}
theorem bad2_law [Inhabited Nat] {st : Except (Int × Int) (Nat × List Tok)} (hp : RO2 h G e st) (X : List PanicEntry → Hp → Prop) :
    CallX Tryd.prog ω n_p_pipewrightref_reading_bad [pp G] h (fun r h' => r = .bool (isBad st) ∧ h = h') X := by
  obtain ⟨p, hp⟩ := hp.pin
  rw [← isBad_pin p st]
  exact bad_law hp X
theorem must2_law [Inhabited Nat] {st : Except (Int × Int) (Nat × List Tok)} (hp : RO2 h G e st) (s : ByteArray) (hs : ∃ c r, bytesOf s = c :: r ∧ Tk.dg c = false) (X : List PanicEntry → Hp → Prop) :
    CallX Tryd.prog ω n_p_pipewrightref_reading_must [pp G, .string s] h (fun _ h' => RO2 h' G e (bindP st fun q => bindP (wantP e (bytesOf s) q.2) fun r => .ok (q.1, r)) ∧ KG G h h') X := by
  obtain ⟨p, hp⟩ := hp.pin
  refine CallX.use (must_law hp s hs) ?_
  rintro _ h1 ⟨h2, k⟩
  refine ⟨?_, k⟩
  cases st with
  | error x => exact h2
  | ok q =>
    have h2 : RO h1 G e (bindP (wantP e (bytesOf s) q.2) fun r => .ok (q.1, p, r)) := h2
    show RO2 h1 G e (bindP (wantP e (bytesOf s) q.2) fun r => .ok (q.1, r))
    cases hw : wantP e (bytesOf s) q.2 with
    | error x =>
      rw [hw] at h2
      exact h2
    | ok r =>
      rw [hw] at h2
      exact ⟨p, h2⟩
theorem of2_law [Inhabited Nat] {st : Except (Int × Int) (Nat × List Tok)} (hp : RO2 h G e st) (k : Int) (X : List PanicEntry → Hp → Prop) :
    CallX Tryd.prog ω n_p_pipewrightref_reading_of [pp G, .int .i64 k] h (fun v h' => (∃ t : Tok, v = .agg t.f.toArray ∧ ∀ q, bindP st (fun s => kindP e k s.2) = .ok q → t = q.1) ∧ RO2 h' G e (bindP st fun q => bindP (kindP e k q.2) fun r => .ok (q.1, r.2)) ∧ KG G h h') X := by
  obtain ⟨p, hp⟩ := hp.pin
  refine CallX.use (of_law hp k) ?_
  rintro _ h1 ⟨rfl, h2, kk⟩
  refine ⟨⟨_, rfl, ?_⟩, ?_, kk⟩
  · intro q hq
    cases st with
    | error x => cases hq
    | ok s => exact tokR_ok hq
  · cases st with
    | error x => exact h2
    | ok q =>
      have h2 : RO h1 G e (bindP (kindP e k q.2) fun r => .ok (q.1, p, r.2)) := h2
      show RO2 h1 G e (bindP (kindP e k q.2) fun r => .ok (q.1, r.2))
      cases hw : kindP e k q.2 with
      | error x =>
        rw [hw] at h2
        exact h2
      | ok r =>
        rw [hw] at h2
        exact ⟨p, h2⟩
/-- a fault is noted, if none was -/
theorem wrong2_law [Inhabited Nat] {st : Except (Int × Int) (Nat × List Tok)} (hp : RO2 h G e st) (c : Int) (hc : c ≠ 0) (X : List PanicEntry → Hp → Prop) :
    CallX Tryd.prog ω n_p_pipewrightref_reading_wrong [pp G, .int .i64 c] h (fun _ h' => RO2 h' G e (bindP st fun s => .error (pErr e c s.2)) ∧ KG G h h') X := by
  cases st with
  | error x => exact wrong_bad hp c X
  | ok s =>
    obtain ⟨p, hp⟩ := hp
    exact wrong_law hp c hc X
theorem exprs_lawR [Inhabited Nat] (ω : Amb) (e : Int) : ∀ f : Nat, (∀ g, g ≤ f → UB ω e g) ∧ (∀ g, g ≤ f → BB ω e 3 (unitP e) 1 g) ∧ (∀ g, g ≤ f → BB ω e 2 (prodP e) 2 g) ∧ (∀ g, g ≤ f → BB ω e 1 (sumP e) 3 g) ∧ (∀ g, g ≤ f → BB ω e 0 (cmpP e) 4 g) := by
  have b3 : ∀ g, UB ω e g → BB ω e 3 (unitP e) 1 g := by
    intro g hU h G ts n o t hp ho ht hf X
    have hlt := hp.lt
    refine C2_p_pipewrightref_reading_binary ω _ _ _ h _ X ?_
    unfold W2_p_pipewrightref_reading_binary
    rw [asK_int]
    refine cond_t rfl ?_
    have hr0 := hp_push_new (h := h) (o := .cells #[(.int .i64 0), (.string ⟨#[]⟩), (.int .i64 0), (.slice none 0 0)] 118 (0, 0))
    have k0 := Keep.push (S := fun _ => False) h (.cells #[(.int .i64 0), (.string ⟨#[]⟩), (.int .i64 0), (.slice none 0 0)] 118 (0, 0))
    have z0 : (h.push (.cells #[(.int .i64 0), (.string ⟨#[]⟩), (.int .i64 0), (.slice none 0 0)] 118 (0, 0))).size = h.size + 1 := by simp
    generalize h.push (.cells #[(.int .i64 0), (.string ⟨#[]⟩), (.int .i64 0), (.slice none 0 0)] 118 (0, 0)) = h0 at *
    refine CallX.use (fun Y => hU h0 G ts n o t (hp.keep k0 fun _ _ h => h) ho ht hf Y) ?_
    intro r h1 hx
    cases hq : unitP e g o t ts with
    | error y =>
      rw [hq] at hx
      obtain ⟨⟨C, rfl, hl, hon⟩, hb1, k1⟩ := hx
      rw [asA_agg]
      refine ⟨by simpa using hl, by simpa using hon, ?_⟩
      exact retL (cs := C) (R := fun r h' => XO h h' G e n r (.error y)) (k1.get hr0 (by omega)) hl rfl fun h' k => ⟨⟨C, rfl, hl, hon⟩, hb1.keep k fun b hb e => by omega, kg_set ((kg_of k0).trans k1) (Nat.le_refl _) k⟩
    | ok q =>
      rw [hq] at hx
      obtain ⟨⟨w, rfl, hex⟩, hp1, k1⟩ := hx
      rw [asA_agg]
      refine ⟨rfl, exC_one hex.isSl, ?_⟩
      refine retL (cs := exC q.1 w) (R := fun r h' => XO h h' G e n r (.ok q)) (k1.get hr0 (by omega)) rfl rfl fun h' k => ⟨⟨w, rfl, ?_⟩, hp1.keep k fun b hb e => by omega, kg_set ((kg_of k0).trans k1) (Nat.le_refl _) k⟩
      exact ExSN.mv hex k (fun b hb e => by have := hb.1; omega) fun b hb => ⟨by have := hb.1; omega, by have := hb.2; have := k.size; omega⟩
  intro f
  induction f with
  | zero =>
    refine ⟨?_, ?_, ?_, ?_, ?_⟩
    · intro g hg h G ts n o t hp ho ht hf X
      omega
    all_goals
      intro g hg h G ts n o t hp ho ht hf X
      omega
  | succ f ih =>
    obtain ⟨i0, i3, i2, i1, ic⟩ := ih
    have u1 : ∀ g, g ≤ f + 1 → UB ω e g := fun g hg => by
      rcases Nat.lt_or_ge f g with hh | hh
      · obtain rfl : g = f + 1 := by omega
        exact unit_lawR (ic f (Nat.le_refl _)) (i0 f (Nat.le_refl _))
      · exact i0 g hh
    refine ⟨u1, fun g hg => b3 g (u1 g hg), fun g hg => ?_, fun g hg => ?_, fun g hg => ?_⟩
    · rcases Nat.lt_or_ge f g with hh | hh
      · obtain rfl : g = f + 1 := by omega
        refine bin_law (k := 2) (c := 2) (g0 := f) (S := unitP e) (L := prodL e) (by omega) rfl ⟨Nat.le_refl _, by omega⟩ (fun o n l => ?_) (fun g o x m l => prodL_loop e g o m x l) (fun hh => by cases hh) (fun hr => (plen e _).2.2.2.2.2 hr) i3
        conv => lhs; unfold prodP
      · exact i2 g hh
    · rcases Nat.lt_or_ge f g with hh | hh
      · obtain rfl : g = f + 1 := by omega
        refine bin_law (k := 1) (c := 3) (g0 := f) (S := prodP e) (L := sumL e) (by omega) rfl ⟨Nat.le_refl _, by omega⟩ (fun o n l => ?_) (fun g o x m l => sumL_loop e g o m x l) (fun hh => by cases hh) (fun hr => (plen e _).2.2.2.1 hr) i2
        conv => lhs; unfold sumP
      · exact i1 g hh
    · rcases Nat.lt_or_ge f g with hh | hh
      · obtain rfl : g = f + 1 := by omega
        refine bin_law (k := 0) (c := 4) (g0 := f + 1) (S := sumP e) (L := fun g o x m l => match g with | 0 => .error (0, 0) | g + 1 => loopF 0 (sumP e g o) (fun _ _ _ => .error (0, 0)) x m l) (by omega) rfl ⟨by omega, Nat.le_refl _⟩ (fun o n l => cmp_loop e f o n l) (fun g o x m l => ?_) (fun _ => rfl) (fun hr => (plen e _).2.1 hr) i1
        unfold loopF
        simp
      · exact ic g hh
/-- an expression's value: as it was read, or whatever -/
def VX (h h' : Hp) (r : Value) : Except (Int × Int) (Ex × List Tok) → Prop
  | .ok q => ExR h h' r q.1
  | .error _ => J4 r
theorem exprP_all (e : Int) (ts : List Tok) : exprP e ts = bindP (cmpP e (4 * ts.length + 4) 0 0 ts) fun q => if 20 < q.2.1 then .error (8, plc e ts) else .ok (q.1, q.2.2) := by
  cases ts with
  | cons t r => exact exprP_cons e t r
  | nil =>
    show Except.error (6, e) = _
    have : cmpP e (4 * ([] : List Tok).length + 4) 0 0 [] = .error (6, e) := by
      show cmpP e 4 0 0 [] = _
      unfold cmpP sumP prodP unitP
      rfl
    rw [this]
    rfl
set_option maxRecDepth 100000 in
theorem exprR_law [Inhabited Nat] {st : Except (Int × Int) (Nat × List Tok)} (hp : RO2 h G e st) (X : List PanicEntry → Hp → Prop) :
    CallX Tryd.prog ω n_p_pipewrightref_reading_expr [pp G] h (fun r h' => VX h h' r (bindP st fun s => exprP e s.2) ∧ RO2 h' G e (bindP st fun s => bindP (exprP e s.2) fun q => .ok (s.1, q.2)) ∧ KG G h h') X := by
  have hlt := hp.lt
  refine C_p_pipewrightref_reading_expr ω _ h _ X ?_
  unfold W_p_pipewrightref_reading_expr
  have hr0 := hp_push_new (h := h) (o := .cells #[(.int .i64 0), (.string ⟨#[]⟩), (.int .i64 0), (.slice none 0 0)] 118 (0, 0))
  have k0 := Keep.push (S := fun _ => False) h (.cells #[(.int .i64 0), (.string ⟨#[]⟩), (.int .i64 0), (.slice none 0 0)] 118 (0, 0))
  have z0 : (h.push (.cells #[(.int .i64 0), (.string ⟨#[]⟩), (.int .i64 0), (.slice none 0 0)] 118 (0, 0))).size = h.size + 1 := by simp
  generalize h.push (.cells #[(.int .i64 0), (.string ⟨#[]⟩), (.int .i64 0), (.slice none 0 0)] 118 (0, 0)) = h0 at *
  have hp0 := hp.keep k0 fun _ _ h => h
  cases st with
  | error x =>
    have hp0 : RB h0 G e x := hp0
    refine CallX.use (place_bad hp0) ?_
    rintro _ _ ⟨⟨q, rfl⟩, rfl⟩
    simp only [nnK_ptr, asP_some]
    have hne := hp0.ne
    obtain ⟨vl, all, at_, n, p, hb, ht⟩ := hp0.ex
    rw [addr_add, Nat.zero_add]
    refine storeK1_of (o := 6) hb (by simp [rds]) ?_
    rw [show (rds vl ((at_ : Nat) : Int) e x.1 x.2 n p).toArray.setIfInBounds 6 (.int .i64 0) = (rds vl ((at_ : Nat) : Int) e x.1 x.2 n 0).toArray from by simp [rds]]
    have hb1 := hp_set_same (o := .cells (rds vl ((at_ : Nat) : Int) e x.1 x.2 n 0).toArray 75 (0, 0)) hb
    have k1 := Keep.set (S := fun b => b = G) (h := h0) (.cells (rds vl ((at_ : Nat) : Int) e x.1 x.2 n 0).toArray 75 (0, 0)) (b := G) rfl
    generalize h0.setIfInBounds G (.cells (rds vl ((at_ : Nat) : Int) e x.1 x.2 n 0).toArray 75 (0, 0)) = h1 at *
    have hp1 : RB h1 G e x := ⟨hne, vl, all, at_, n, 0, hb1, ht.keep k1 fun b hb e => by omega⟩
    refine CallX.use (fun Y => binary_bad 3 0 rfl h1 hp1 0 Y) ?_
    rintro _ h2 ⟨⟨C, rfl, hl, hon⟩, hp2, k2⟩
    have hs1 := k1.size
    have hs2 := k2.size
    rw [asA_agg]
    refine ⟨by simpa using hl, by simpa using hon, storeK_local (cs := C) hl ?_⟩
    have hl3 := hp_push_new (h := h2) (o := .cells C.toArray 118 (0, 0))
    have k3 := Keep.push (S := fun _ => False) h2 (.cells C.toArray 118 (0, 0))
    generalize h2.push (.cells C.toArray 118 (0, 0)) = h3 at *
    have hp3 := hp2.keep k3 fun _ _ h => h
    have hr3 := k3.get (k2.get (k1.get hr0 (by omega)) (by omega)) (by simp)
    have k03 : KG G h h3 := (((kg_of k0).trans k1).trans k2).trans (kg_of k3)
    refine ⟨fun v h' => v = .bool false ∧ h3 = h', ?_, ?_⟩
    · refine CallX.use (bad_law (st := .error x) hp3) ?_
      rintro _ _ ⟨rfl, rfl⟩
      rw [asB_bool]
      exact cond_f rfl ⟨rfl, rfl⟩
    rintro _ _ _ ⟨rfl, rfl⟩
    refine ⟨fun h' => h3 = h', ?_, ?_⟩
    · rw [asB_bool]
      exact cond_f rfl rfl
    rintro _ _ rfl
    exact ret4 (R := fun r h' => VX h h' r (.error x) ∧ RO2 h' G e (.error x) ∧ KG G h h') hl3 hr3 hl rfl hon fun h' k => ⟨⟨C, rfl, hl, hon⟩, hp3.keep k fun b hb e => by omega, kg_set k03 (Nat.le_refl _) k⟩
  | ok s =>
    obtain ⟨n, ts⟩ := s
    obtain ⟨p, hp0⟩ := hp0
    have hp0 : RG h0 G e n p ts := hp0
    have hlen := hp0.len
    rw [bindP_ok, bindP_ok]
    show CallX Tryd.prog ω _ _ h0 _ X
    have hun := exprP_all e ts
    refine CallX.use (place_law hp0) ?_
    rintro _ _ ⟨rfl, rfl⟩
    simp only [nnK_ptr, asP_some]
    obtain ⟨vl, all, at_, a, hb, ht, hd⟩ := hp0.ex
    rw [addr_add, Nat.zero_add]
    refine storeK1_of (o := 6) hb (by simp [rds]) ?_
    rw [show (rds vl ((at_ : Nat) : Int) e 0 a n p).toArray.setIfInBounds 6 (.int .i64 0) = (rds vl ((at_ : Nat) : Int) e 0 a n ((0 : Nat) : Int)).toArray from by simp [rds]]
    have hb1 := hp_set_same (o := .cells (rds vl ((at_ : Nat) : Int) e 0 a n ((0 : Nat) : Int)).toArray 75 (0, 0)) hb
    have k1 := Keep.set (S := fun b => b = G) (h := h0) (.cells (rds vl ((at_ : Nat) : Int) e 0 a n ((0 : Nat) : Int)).toArray 75 (0, 0)) (b := G) rfl
    generalize h0.setIfInBounds G (.cells (rds vl ((at_ : Nat) : Int) e 0 a n ((0 : Nat) : Int)).toArray 75 (0, 0)) = h1 at *
    have hp1 : RG h1 G e n 0 ts := ⟨vl, all, at_, a, hb1, ht.keep k1 (fun b hb e => by omega), hd⟩
    refine CallX.use (fun Y => (exprs_lawR ω e (4 * ts.length + 4)).2.2.2.2 _ (Nat.le_refl _) h1 G ts n 0 0 hp1 (by omega) (by omega) (Nat.le_refl _) Y) ?_
    intro r2 h2 hx
    have hs1 := k1.size
    have fin : ∀ (C : List Value) (res : Except (Int × Int) (Ex × List Tok)) (h4 : Hp), C.length = 4 → (∀ u ∈ C, one u) → h4[h2.size]? = some (.cells C.toArray 118 (0, 0)) → KG G h h4 → KG G h2 h4 → KG G h1 h2 → (∀ h', Keep (fun b => b = h.size) h4 h' → VX h h' (.agg C.toArray) res) → RO2 h4 G e (bindP res fun q => .ok (n, q.2)) →
        ∃ C27, cellsH h4 ⟨Array.size h2, 0, none⟩ 4 C27 ∧ C27.toArray.size = 4 ∧ (∀ u ∈ C27.toArray.toList, one u) ∧ storeK h4 ⟨Array.size h, 0, none⟩ C27.toArray.toList fun h28 => ∃ C29, cellsH h28 ⟨Array.size h, 0, none⟩ 4 C29 ∧ (VX h h28 (.agg C29.toArray) res ∧ RO2 h28 G e (bindP res fun q => .ok (n, q.2)) ∧ KG G h h28) := by
      intro C res h4 hl hon hv k04 k24 k12 hvx hro
      exact ret4 (R := fun r h' => VX h h' r res ∧ RO2 h' G e (bindP res fun q => .ok (n, q.2)) ∧ KG G h h') hv (k24.get (k12.get (k1.get hr0 (by omega)) (by omega)) (by omega)) hl rfl hon fun h' k => ⟨hvx h' k, hro.keep k fun b hb e => by omega, kg_set k04 (Nat.le_refl _) k⟩
    cases hres : cmpP e (4 * ts.length + 4) 0 0 ts with
    | error y =>
      rw [hres] at hx hun
      have hun : exprP e ts = .error y := hun
      rw [hun]
      obtain ⟨⟨C, rfl, hl, hon⟩, hp2, k2⟩ := hx
      have hs2 := k2.size
      rw [asA_agg]
      refine ⟨by simpa using hl, by simpa using hon, storeK_local (cs := C) hl ?_⟩
      have hl3 := hp_push_new (h := h2) (o := .cells C.toArray 118 (0, 0))
      have k3 := Keep.push (S := fun _ => False) h2 (.cells C.toArray 118 (0, 0))
      generalize h2.push (.cells C.toArray 118 (0, 0)) = h3 at *
      have hp3 := hp2.keep k3 fun _ _ h => h
      have k03 : KG G h h3 := (((kg_of k0).trans k1).trans k2).trans (kg_of k3)
      refine ⟨fun v h' => v = .bool false ∧ h3 = h', ?_, ?_⟩
      · refine CallX.use (bad_law (st := .error y) hp3) ?_
        rintro _ _ ⟨rfl, rfl⟩
        rw [asB_bool]
        exact cond_f rfl ⟨rfl, by first | rfl | trivial⟩
      rintro _ _ _ ⟨rfl, rfl⟩
      refine ⟨fun h' => h3 = h', ?_, ?_⟩
      · rw [asB_bool]
        exact cond_f rfl rfl
      rintro _ _ rfl
      exact fin C (.error y) h3 hl hon hl3 k03 (kg_of k3) k2 (fun h' k => ⟨C, rfl, hl, hon⟩) hp3
    | ok q =>
      obtain ⟨x, m, ts'⟩ := q
      rw [hres] at hx hun
      have hun : exprP e ts = if 20 < m then .error (8, plc e ts) else .ok (x, ts') := hun
      obtain ⟨⟨w, rfl, hex⟩, hp2, k2⟩ := hx
      have hs2 := k2.size
      rw [asA_agg]
      refine ⟨rfl, exC_one hex.isSl, storeK_local (cs := exC x w) rfl ?_⟩
      have hl3 := hp_push_new (h := h2) (o := .cells (exC x w).toArray 118 (0, 0))
      have k3 := Keep.push (S := fun _ => False) h2 (.cells (exC x w).toArray 118 (0, 0))
      have z3 : (h2.push (.cells (exC x w).toArray 118 (0, 0))).size = h2.size + 1 := by simp
      generalize h2.push (.cells (exC x w).toArray 118 (0, 0)) = h3 at *
      have hp2 : RG h2 G e n m ts' := hp2
      have hp3 := hp2.keep k3 fun _ _ h => h
      have k03 : KG G h h3 := (((kg_of k0).trans k1).trans k2).trans (kg_of k3)
      refine ⟨fun v h' => v = .bool (decide (20 < m)) ∧ h3 = h', ?_, ?_⟩
      · refine CallX.use (bad_law (st := .ok (n, m, ts')) hp3) ?_
        rintro _ _ ⟨rfl, rfl⟩
        rw [asB_bool]
        refine cond_t rfl ?_
        obtain ⟨vl3, all3, at3, a3, hb3, ht3, hd3⟩ := hp3.ex
        refine lx hb3 (j := 6) rfl ?_
        rw [asK_int]
        refine ⟨?_, by first | rfl | trivial⟩
        congr 1
        rw [Bool.eq_iff_iff, decide_eq_true_eq, decide_eq_true_eq]
        omega
      rintro _ _ _ ⟨rfl, rfl⟩
      refine ⟨fun h' => RO2 h' G e (bindP (exprP e ts) fun q => .ok (n, q.2)) ∧ KG G h3 h', ?_, ?_⟩
      · rw [asB_bool]
        refine cond_c (fun hc => ?_) (fun hc => ?_)
        · have h20 := of_decide_eq_true hc
          rw [hun, if_pos h20]
          refine CallX.use (F_law _ _ _) ?_
          rintro _ h4 ⟨rfl, k4⟩
          obtain ⟨vl3, all3, at3, a3, hb3, ht3, hd3⟩ := (hp3.keep k4 fun _ _ h => h).ex
          rw [asA_agg]
          refine ⟨rfl, flt_one _ _, ?_⟩
          rw [addr_add]
          refine storeK_of (o := 0 + 3) hb3 (by simp [rds, flt]) ?_
          rw [show spl (rds vl3 ((at3 : Nat) : Int) e 0 a3 n m).toArray (0 + 3) (flt 8 (plc e ts)).toArray.toList = (rds vl3 ((at3 : Nat) : Int) e 8 (plc e ts) n m).toArray from by simp [spl, rds, flt]]
          have k5 := Keep.set (S := fun b => b = G) (h := h4) (.cells (rds vl3 ((at3 : Nat) : Int) e 8 (plc e ts) n m).toArray 75 (0, 0)) (b := G) rfl
          exact ⟨⟨by show (8 : Int) ≠ 0; decide, vl3, all3, at3, n, m, hp_set_same hb3, ht3.keep k5 fun b hb e => by omega⟩, (kg_of k4).trans k5⟩
        · rw [hun, if_neg (of_decide_eq_false hc)]
          exact ⟨⟨m, hp3⟩, Keep.refl _ _⟩
      rintro _ h5 ⟨hro, k5⟩
      have hs5 := k5.size
      refine fin (exC x w) (exprP e ts) h5 rfl (exC_one hex.isSl) (k5.get hl3 (by omega)) (k03.trans k5) ((kg_of k3).trans k5) k2 (fun h' k => ?_) hro
      rw [hun]
      split
      · exact ⟨exC x w, rfl, rfl, exC_one hex.isSl⟩
      · refine ⟨w, rfl, ?_⟩
        have kk : Keep (fun b => b = G ∨ b = h.size) h2 h' := (((kg_of k3).trans k5).mono fun _ _ h => .inl h).trans (k.mono fun _ _ h => .inr h)
        exact ExSN.mv hex kk (fun b hb e => by have := hb.1; omega) fun b hb => ⟨by have := hb.1; omega, by have := hb.2; have := kk.size; omega⟩
theorem dint : ∃ c r, bytesOf ⟨#[105, 110, 116]⟩ = c :: r ∧ Tk.dg c = false := ⟨_, _, rfl, by decide⟩
theorem dsend : ∃ c r, bytesOf ⟨#[115, 101, 110, 100]⟩ = c :: r ∧ Tk.dg c = false := ⟨_, _, rfl, by decide⟩
theorem drecv : ∃ c r, bytesOf ⟨#[114, 101, 99, 118]⟩ = c :: r ∧ Tk.dg c = false := ⟨_, _, rfl, by decide⟩
/-- a type -/
theorem typR_law [Inhabited Nat] {st : Except (Int × Int) (Nat × List Tok)} (hp : RO2 h G e st) (X : List PanicEntry → Hp → Prop) :
    CallX Tryd.prog ω n_p_pipewrightref_reading_kind [pp G] h (fun r h' => (∃ s, r = .string s ∧ ∀ q, bindP st (fun s => typP e [] s.2) = .ok q → s = bs q.1) ∧ RO2 h' G e (bindP st fun s => bindP (typP e [] s.2) fun q => .ok (s.1, q.2)) ∧ KG G h h') X := by
  have hlt := hp.lt
  refine C_p_pipewrightref_reading_kind ω _ h _ X ?_
  unfold W_p_pipewrightref_reading_kind
  cases st with
  | error x =>
    refine ⟨fun v h' => v = .string ⟨#[]⟩ ∧ h = h', fun _ _ => 0, ⟨rfl, rfl⟩, ?_⟩
    rintro _ _ _ ⟨rfl, rfl⟩
    refine ⟨fun v h' => v = .bool false ∧ h = h', ?_, ?_⟩
    · refine CallX.use (bad2_law hp) ?_
      rintro _ _ ⟨rfl, rfl⟩
      rw [asB_bool]
      exact cond_f rfl ⟨rfl, rfl⟩
    rintro _ _ _ ⟨rfl, rfl⟩
    rw [asB_bool]
    refine cond_f rfl ?_
    refine CallX.use (must2_law hp ⟨#[105, 110, 116]⟩ dint) ?_
    rintro _ h1 ⟨ho, k⟩
    rw [asS_str]
    exact ⟨by decide, ⟨_, rfl, fun q hq => by cases hq⟩, ho, k⟩
  | ok s =>
    obtain ⟨n, ts⟩ := s
    obtain ⟨p, hp⟩ := hp
    have hp : RG h G e n p ts := hp
    rw [bindP_ok, bindP_ok]
    show ∃ I0 : Value → Hp → Prop, _
    refine ⟨fun v h' => ∃ acc ts', v = .string (bs acc) ∧ typP e [] ts = typP e acc ts' ∧ acc.length ≤ 3 ∧ RG h' G e n p ts' ∧ KG G h h', fun _ => rkN G, ⟨[], ts, rfl, rfl, by simp, hp, Keep.refl _ _⟩, ?_⟩
    rintro _ _ h1 ⟨acc, ts', rfl, heq, hacc, hp1, k1⟩
    refine ⟨fun v h' => v = .bool (!(isT [105, 110, 116] ts')) ∧ h1 = h', ?_, ?_⟩
    · refine CallX.use (bad_law (st := .ok (n, p, ts')) hp1) ?_
      rintro _ _ ⟨rfl, rfl⟩
      rw [asB_bool]
      refine cond_t rfl ?_
      refine CallX.use (sees_law hp1 ⟨#[105, 110, 116]⟩ dint) ?_
      rintro _ _ ⟨rfl, rfl⟩
      rw [asB_bool]
      exact ⟨rfl, rfl⟩
    rintro _ _ _ ⟨rfl, rfl⟩
    rw [asB_bool]
    refine cond_c (fun hc => ?_) (fun hc => ?_)
    rotate_left
    · have hc : isT [105, 110, 116] ts' = true := by simpa using hc
      obtain ⟨x0, r0, rfl⟩ := isT_cons hc
      have hty : typP e [] ts = .ok (acc ++ [105], r0) := by rw [heq, typP_cons, if_pos hc]
      refine CallX.use (must_law (st := .ok (n, p, x0 :: r0)) hp1 ⟨#[105, 110, 116]⟩ dint) ?_
      rintro _ h2 ⟨ho, k2⟩
      have ho : RO h2 G e (bindP (wantP e [105, 110, 116] (x0 :: r0)) fun r => .ok (n, p, r)) := ho
      unfold wantP at ho
      rw [if_pos hc] at ho
      rw [asS_str]
      refine ⟨?_, ⟨_, rfl, ?_⟩, ?_, k1.trans k2⟩
      · rw [bs_size]
        show acc.length + 1 ≤ _
        omega
      · intro q hq
        rw [hty] at hq
        cases hq
        rw [show (⟨#[105]⟩ : ByteArray) = bs [105] from rfl, bs_app]
      · rw [hty]
        exact ⟨p, ho⟩
    have hc : isT [105, 110, 116] ts' = false := by simpa using hc
    refine ⟨fun v h' => v = .bool (!(isT [115, 101, 110, 100] ts' || isT [114, 101, 99, 118] ts')) ∧ h1 = h', ?_, ?_⟩
    · refine CallX.use (sees_law hp1 ⟨#[115, 101, 110, 100]⟩ dsend) ?_
      rintro _ _ ⟨rfl, rfl⟩
      rw [asB_bool, show bytesOf ⟨#[115, 101, 110, 100]⟩ = [115, 101, 110, 100] from rfl]
      refine cond_c (fun hc => ?_) (fun hc => ?_)
      · have hc : isT [115, 101, 110, 100] ts' = false := by simpa using hc
        refine CallX.use (sees_law hp1 ⟨#[114, 101, 99, 118]⟩ drecv) ?_
        rintro _ _ ⟨rfl, rfl⟩
        rw [asB_bool, show bytesOf ⟨#[114, 101, 99, 118]⟩ = [114, 101, 99, 118] from rfl]
        exact ⟨by rw [hc, Bool.false_or], rfl⟩
      · have hc : isT [115, 101, 110, 100] ts' = true := by simpa using hc
        exact ⟨by rw [hc]; rfl, rfl⟩
    rintro _ _ _ ⟨rfl, rfl⟩
    rw [asB_bool]
    refine cond_c (fun hc2 => ?_) (fun hc2 => ?_)
    · have hc2 : (isT [115, 101, 110, 100] ts' || isT [114, 101, 99, 118] ts') = false := by simpa using hc2
      have hty : typP e [] ts = .error (pErr e 5 ts') := by
        rw [heq]
        cases ts' with
        | nil => exact typP_nil _ _
        | cons x0 r0 =>
          rw [typP_cons, hc, if_neg Bool.false_ne_true, hc2, if_neg Bool.false_ne_true]
          rfl
      rw [hty]
      refine CallX.use (wrong_law hp1 5 (by decide)) ?_
      rintro _ h2 ⟨hb2, k2⟩
      exact ⟨⟨_, rfl, fun q hq => by cases hq⟩, hb2, k1.trans k2⟩
    have hc2 : (isT [115, 101, 110, 100] ts' || isT [114, 101, 99, 118] ts') = true := by rw [Bool.not_eq_false'] at hc2; exact hc2
    obtain ⟨x0, r0, rfl⟩ : ∃ y r, ts' = y :: r := by
      cases ts' with
      | nil => cases hc2
      | cons y r => exact ⟨y, r, rfl⟩
    rw [asS_str, bs_size]
    refine cond_c (fun h3 => ?_) (fun h3 => ?_)
    · have h3 : acc.length = 3 := by have := of_decide_eq_true h3; omega
      have hty : typP e [] ts = .error (pErr e 7 (x0 :: r0)) := by
        rw [heq, typP_cons, hc, if_neg Bool.false_ne_true, hc2, if_pos rfl, if_pos h3]
        rfl
      rw [hty]
      refine CallX.use (wrong_law hp1 7 (by decide)) ?_
      rintro _ h2 ⟨hb2, k2⟩
      exact ⟨⟨_, rfl, fun q hq => by cases hq⟩, hb2, k1.trans k2⟩
    have h3 : ¬ acc.length = 3 := by have := of_decide_eq_false h3; omega
    have hstep : typP e [] ts = typP e (acc ++ (bytesOf x0.text).take 1) r0 := by rw [heq, typP_cons, hc, if_neg Bool.false_ne_true, hc2, if_pos rfl, if_neg h3]
    refine CallX.use (sees_law hp1 ⟨#[115, 101, 110, 100]⟩ dsend) ?_
    rintro _ _ ⟨rfl, rfl⟩
    rw [show bytesOf ⟨#[115, 101, 110, 100]⟩ = [115, 101, 110, 100] from rfl]
    have htl : ∃ c, (bytesOf x0.text).take 1 = [c] ∧ (if isT [115, 101, 110, 100] (x0 :: r0) = true then c = 115 else c = 114) := by
      cases hs : isT [115, 101, 110, 100] (x0 :: r0) with
      | true => exact ⟨115, by rw [isT_text hs]; rfl, by rw [if_pos rfl]⟩
      | false =>
        rw [hs, Bool.false_or] at hc2
        exact ⟨114, by rw [isT_text hc2]; rfl, by rw [if_neg Bool.false_ne_true]⟩
    obtain ⟨c, hc1, hcc⟩ := htl
    rw [hc1] at hstep
    refine ⟨fun v h' => v = .string (bs (acc ++ [c])) ∧ h1 = h', ?_, ?_⟩
    · rw [asB_bool]
      refine cond_c (fun hs => ?_) (fun hs => ?_)
      · rw [if_pos hs] at hcc
        rw [asS_str, bs_size]
        refine ⟨by show acc.length + 1 ≤ _; omega, ?_, rfl⟩
        rw [hcc, show (⟨#[115]⟩ : ByteArray) = bs [115] from rfl, bs_app]
      · rw [if_neg (by rw [hs]; decide)] at hcc
        rw [asS_str, bs_size]
        refine ⟨by show acc.length + 1 ≤ _; omega, ?_, rfl⟩
        rw [hcc, show (⟨#[114]⟩ : ByteArray) = bs [114] from rfl, bs_app]
    rintro _ _ _ ⟨rfl, rfl⟩
    simp only [nnK_ptr, asP_some]
    refine rg_inc hp1 fun h2 hp2 k2 => ⟨⟨acc ++ [c], r0, rfl, hstep, ?_, hp2, k1.trans k2⟩, ?_⟩
    · rw [List.length_append]
      simp only [List.length_cons, List.length_nil]
      omega
    · rw [hp2.rkN, hp1.rkN]
      simp
end
end Go.Proofs.YtaehnpilebkcoaaDoor

namespace Go.Proofs.YtaehnpilebkcoaaDoor
open Go Go.Sx Go.Sx.Tk Go.Sx.Rn Go.Proofs.YtaehnpilebkcoaaDoor.Sx

/-- parameters in brackets -/
def parsP (e : Int) (ts : List Tok) : Except (Int × Int) (List (ByteArray × ByteArray) × List Tok) := bindP (wantP e [40] ts) fun l => parsL e (l.length + 1) [] l
def itemP (e : Int) (ts : List Tok) : Except (Int × Int) ((ByteArray × ByteArray) × List Tok) := bindP (nameP e ts) fun q => bindP (typP e [] q.2) fun u => .ok ((q.1, bs u.1), u.2)
theorem itemP_len {e : Int} {ts : List Tok} {q : (ByteArray × ByteArray) × List Tok} (h : itemP e ts = .ok q) : q.2.length < ts.length := by
  unfold itemP at h
  obtain ⟨a, ha, h⟩ := bindP_okk h
  obtain ⟨b, hb, h⟩ := bindP_okk h
  have h1 := nameP_len ha
  have h2 := typP_len hb
  cases h
  simp only
  omega
theorem argsL_step (e : Int) (f : Nat) (acc : List Ex) (l : List Tok) : argsL e (f + 1) acc l = if isT [41] l then .ok (acc, l.tail) else bindP (if acc.length = 0 then .ok l else wantP e [44] l) fun l => if acc.length = 6 then .error (pErr e 8 l) else bindP (exprP e l) fun q => argsL e f (acc ++ [q.1]) q.2 := by
  conv => lhs; unfold argsL
theorem bindP_assoc {α β γ : Type} (r : Except (Int × Int) α) (f : α → Except (Int × Int) β) (g : β → Except (Int × Int) γ) : bindP (bindP r f) g = bindP r fun a => bindP (f a) g := by cases r <;> rfl
theorem parsL_step (e : Int) (f : Nat) (acc : List (ByteArray × ByteArray)) (l : List Tok) : parsL e (f + 1) acc l = if isT [41] l then .ok (acc, l.tail) else bindP (if acc.length = 0 then .ok l else wantP e [44] l) fun l => if acc.length = 6 then .error (pErr e 8 l) else bindP (itemP e l) fun q => parsL e f (acc ++ [q.1]) q.2 := by
  conv => lhs; unfold parsL
  unfold itemP
  simp only [bindP_assoc, bindP_ok]
/-- a list's value: as it was read, or whatever -/
def VA (h h' : Hp) (v : Value) : Except (Int × Int) (List Ex × List Tok) → Prop
  | .ok q => ExSN h' (Nw h h') v q.1
  | .error _ => isSl v
def VP (h h' : Hp) (v : Value) : Except (Int × Int) (List (ByteArray × ByteArray) × List Tok) → Prop
  | .ok q => SlN h' (Nw h h') 2 v q.1.length (q.1.flatMap pf) ∧ nilOr v
  | .error _ => isSl v
/-- a comma ahead of all but the first, and not too many -/
def commaS (e : Int) (n k : Nat) (l : List Tok) : Except (Int × Int) (Nat × List Tok) := bindP (if k = 0 then .ok l else wantP e [44] l) fun l => if k = 6 then .error (pErr e 8 l) else .ok (n, l)
theorem d44 : ∃ c r, bytesOf ⟨#[44]⟩ = c :: r ∧ Tk.dg c = false := ⟨_, _, rfl, by decide⟩
section
variable {ω : Amb} {h : Hp} {G : Nat} {e : Int}
set_option maxRecDepth 100000 in
theorem listA_law [Inhabited Nat] {st : Except (Int × Int) (Nat × List Tok)} (hp : RO2 h G e st) (X : List PanicEntry → Hp → Prop) :
    CallX Tryd.prog ω n_p_pipewrightref_reading_list [pp G, .bool false] h (fun r h' => (∃ v, r = .tuple #[v, .slice none 0 0] ∧ VA h h' v (bindP st fun s => argsP e s.2)) ∧ RO2 h' G e (bindP st fun s => bindP (argsP e s.2) fun q => .ok (s.1, q.2)) ∧ KG G h h') X := by
  have hlt := hp.lt
  refine C_p_pipewrightref_reading_list ω _ _ h _ X ?_
  unfold W_p_pipewrightref_reading_list
  refine CallX.use (must2_law hp ⟨#[40]⟩ d40) ?_
  rintro _ h1 ⟨hp1, k1⟩
  have hs1 := k1.size
  have hp1 : RO2 h1 G e (bindP st fun q => bindP (wantP e [40] q.2) fun r => .ok (q.1, r)) := hp1
  have e1 : (bindP st fun s => argsP e s.2) = bindP (bindP st fun q => bindP (wantP e [40] q.2) fun r => .ok (q.1, r)) fun s => argsL e (s.2.length + 1) [] s.2 := by
    unfold argsP
    simp only [bindP_assoc, bindP_ok]
  have e2 : (bindP st fun s => bindP (argsP e s.2) fun q => .ok (s.1, q.2)) = bindP (bindP st fun q => bindP (wantP e [40] q.2) fun r => .ok (q.1, r)) fun s => bindP (argsL e (s.2.length + 1) [] s.2) fun q => .ok (s.1, q.2) := by
    unfold argsP
    simp only [bindP_assoc, bindP_ok]
  rw [e1, e2]
  generalize (bindP st fun q => bindP (wantP e [40] q.2) fun r => .ok (q.1, r) : Except (Int × Int) (Nat × List Tok)) = s1 at *
  clear e1 e2
  -- the loop
  refine ⟨fun p l m h' => p = .slice none 0 0 ∧ ∃ k : Nat, m = .int .i64 (k : Int) ∧ KG G h h' ∧ ((∃ n f acc us ts', k = acc.length ∧ (bindP s1 fun s => argsL e (s.2.length + 1) [] s.2) = argsL e f acc ts' ∧ (bindP s1 fun s => bindP (argsL e (s.2.length + 1) [] s.2) fun q => .ok (s.1, q.2)) = bindP (argsL e f acc ts') (fun q => .ok (n, q.2)) ∧ ts'.length + 1 ≤ f ∧ acc.length ≤ 6 ∧ OwnH h' h.size 118 4 l acc.length us ∧ exsAtN h' (fun b => Nw h h' b ∧ l.ownBlock ≠ some b) acc us ∧ RO2 h' G e (.ok (n, ts'))) ∨
      ∃ y us, k ≤ 7 ∧ (bindP s1 fun s => argsL e (s.2.length + 1) [] s.2) = .error y ∧ (bindP s1 fun s => bindP (argsL e (s.2.length + 1) [] s.2) fun q => .ok (s.1, q.2)) = .error y ∧ OwnH h' h.size 118 4 l k us ∧ RO2 h' G e (.error y)),
    fun _ _ _ => rkN G, ?_, ?_⟩
  · refine ⟨rfl, 0, rfl, k1, ?_⟩
    cases s1 with
    | error y => exact .inr ⟨y, [], by omega, rfl, rfl, OwnH.nil, hp1⟩
    | ok s => exact .inl ⟨s.1, s.2.length + 1, [], [], s.2, rfl, rfl, rfl, Nat.le_refl _, by simp, OwnH.nil, exsAtN_nil, hp1⟩
  rintro pv lv mv _ h2 ⟨hnil, k, rfl, k2, hor⟩
  have hs2 := k2.size
  subst hnil
  rcases hor with ⟨n, f, acc, us, ts', rfl, eq1, eq2, hf, hacc, ho, hat, hp2⟩ | ⟨y, us, hk7, eq1, eq2, ho, hp2⟩
  rotate_left
  · -- a fault was met
    refine ⟨fun v h' => v = .bool false ∧ h2 = h', ?_, ?_⟩
    · refine CallX.use (bad2_law hp2) ?_
      rintro _ _ ⟨rfl, rfl⟩
      rw [asB_bool]
      exact cond_f rfl ⟨rfl, rfl⟩
    rintro _ _ _ ⟨rfl, rfl⟩
    rw [asB_bool]
    refine cond_f rfl ?_
    refine CallX.use (must2_law hp2 ⟨#[41]⟩ d41) ?_
    rintro _ h3 ⟨hp3, k3⟩
    rw [eq1, eq2]
    exact ⟨⟨_, rfl, SlAt.isSl ho.slAt⟩, hp3, k2.trans k3⟩
  obtain ⟨f, rfl⟩ : ∃ q, f = q + 1 := ⟨f - 1, by omega⟩
  rw [argsL_step] at eq1 eq2
  have hp2c := hp2
  obtain ⟨pp0, hp2'⟩ := hp2c
  have hp2' : RG h2 G e n pp0 ts' := hp2'
  refine ⟨fun v h' => v = .bool (!(isT [41] ts')) ∧ h2 = h', ?_, ?_⟩
  · refine CallX.use (bad_law (st := .ok (n, pp0, ts')) hp2') ?_
    rintro _ _ ⟨rfl, rfl⟩
    rw [asB_bool]
    refine cond_t rfl ?_
    refine CallX.use (sees_law hp2' ⟨#[41]⟩ d41) ?_
    rintro _ _ ⟨rfl, rfl⟩
    rw [asB_bool]
    exact ⟨rfl, rfl⟩
  rintro _ _ _ ⟨rfl, rfl⟩
  rw [asB_bool]
  have hlt2 := ho.lt
  refine cond_c (fun hc => ?_) (fun hc => ?_)
  rotate_left
  · have hc : isT [41] ts' = true := by simpa using hc
    obtain ⟨x0, r0, rfl⟩ := isT_cons hc
    rw [if_pos hc] at eq1 eq2
    refine CallX.use (must2_law (st := .ok (n, x0 :: r0)) hp2 ⟨#[41]⟩ d41) ?_
    rintro _ h3 ⟨hp3, k3⟩
    have hs3 := k3.size
    have hp3 : RO2 h3 G e (bindP (wantP e [41] (x0 :: r0)) fun r => .ok (n, r)) := hp3
    unfold wantP at hp3
    rw [if_pos hc] at hp3
    rw [eq1, eq2]
    exact ⟨⟨_, rfl, ⟨us, ((SlN.own ho (by omega)).keep k3 fun b hb e => by have := hb.1; omega).mono fun b hb => ⟨hb.1, by have := hb.2; omega⟩, exsAtN_map (fun sz v n us hs => (hs.keep k3 fun b hb e => by have := hb.1.1; omega).mono fun b hb => ⟨hb.1.1, by have := hb.1.2; omega⟩) acc hat⟩⟩, hp3, k2.trans k3⟩
  have hc : isT [41] ts' = false := by simpa using hc
  rw [hc, if_neg Bool.false_ne_true] at eq1 eq2
  have hcom : (bindP s1 fun s => argsL e (s.2.length + 1) [] s.2) = bindP (commaS e n acc.length ts') fun s => bindP (exprP e s.2) fun q => argsL e f (acc ++ [q.1]) q.2 := by
    rw [eq1]
    unfold commaS
    rw [bindP_assoc]
    congr 1
    funext l
    split <;> rfl
  have hcom2 : (bindP s1 fun s => bindP (argsL e (s.2.length + 1) [] s.2) fun q => .ok (s.1, q.2)) = bindP (commaS e n acc.length ts') fun s => bindP (exprP e s.2) fun q => bindP (argsL e f (acc ++ [q.1]) q.2) fun u => .ok (n, u.2) := by
    rw [eq2]
    unfold commaS
    rw [bindP_assoc, bindP_assoc]
    congr 1
    funext l
    split
    · rfl
    · rw [bindP_assoc]
      rfl
  clear eq1 eq2
  refine ⟨fun p l h' => p = .slice none 0 0 ∧ KG G h h' ∧ rkN G h' < rkN G h2 ∧ ((∃ f acc' us ts', acc.length + 1 = acc'.length ∧ (bindP s1 fun s => argsL e (s.2.length + 1) [] s.2) = argsL e f acc' ts' ∧ (bindP s1 fun s => bindP (argsL e (s.2.length + 1) [] s.2) fun q => .ok (s.1, q.2)) = bindP (argsL e f acc' ts') (fun q => .ok (n, q.2)) ∧ ts'.length + 1 ≤ f ∧ acc'.length ≤ 6 ∧ OwnH h' h.size 118 4 l acc'.length us ∧ exsAtN h' (fun b => Nw h h' b ∧ l.ownBlock ≠ some b) acc' us ∧ RO2 h' G e (.ok (n, ts'))) ∨
      ∃ y us, (bindP s1 fun s => argsL e (s.2.length + 1) [] s.2) = .error y ∧ (bindP s1 fun s => bindP (argsL e (s.2.length + 1) [] s.2) fun q => .ok (s.1, q.2)) = .error y ∧ OwnH h' h.size 118 4 l (acc.length + 1) us ∧ RO2 h' G e (.error y)), ?_, ?_⟩
  rotate_left
  · rintro p l _ h3 ⟨hn3, k3, hr3, hor⟩
    rw [asK_int, i64_in (by omega) (by omega)]
    refine ⟨⟨hn3, acc.length + 1, by push_cast; rfl, k3, ?_⟩, hr3⟩
    rcases hor with ⟨f', acc', us', ts'', h1, h2, h3, h4, h5, h6, h7, h8⟩ | ⟨y, us', h1, h2, h3, h4⟩
    · exact .inl ⟨n, f', acc', us', ts'', h1, h2, h3, h4, h5, h6, h7, h8⟩
    · exact .inr ⟨y, us', by omega, h1, h2, h3, h4⟩
  rw [asK_int]
  refine ⟨fun h' => RO2 h' G e (bindP (if acc.length = 0 then .ok ts' else wantP e [44] ts') fun l => .ok (n, l)) ∧ KG G h2 h', ?_, ?_⟩
  · refine cond_c (fun h0 => ?_) (fun h0 => ?_)
    · have h0 : ¬ acc.length = 0 := by have := of_decide_eq_true h0; omega
      refine CallX.use (must2_law (st := .ok (n, ts')) hp2 ⟨#[44]⟩ d44) ?_
      rintro _ h3 ⟨hp3, k3⟩
      rw [if_neg h0]
      exact ⟨hp3, k3⟩
    · have h0 : acc.length = 0 := by have := of_decide_eq_false h0; omega
      rw [if_pos h0]
      exact ⟨hp2, Keep.refl _ _⟩
  rintro _ h3 ⟨hp3, k3⟩
  rw [asK_int]
  refine ⟨fun h' => RO2 h' G e (commaS e n acc.length ts') ∧ KG G h2 h', ?_, ?_⟩
  · refine cond_c (fun h6 => ?_) (fun h6 => ?_)
    · have h6 : acc.length = 6 := by have := of_decide_eq_true h6; omega
      refine CallX.use (wrong2_law hp3 8 (by decide)) ?_
      rintro _ h4 ⟨hp4, k4⟩
      refine ⟨?_, k3.trans k4⟩
      rw [bindP_assoc] at hp4
      unfold commaS
      simp only [if_pos h6]
      exact hp4
    · have h6 : ¬ acc.length = 6 := by have := of_decide_eq_false h6; omega
      refine ⟨?_, k3⟩
      unfold commaS
      simp only [if_neg h6]
      exact hp3
  rintro _ h4 ⟨hp4, k4⟩
  have hle : ∀ s, commaS e n acc.length ts' = .ok s → s.1 = n ∧ s.2.length ≤ ts'.length ∧ acc.length ≠ 6 := by
    intro s hs
    unfold commaS at hs
    obtain ⟨l, hl, hs⟩ := bindP_okk hs
    split at hs
    · cases hs
    · rename_i h6
      cases hs
      refine ⟨rfl, ?_, h6⟩
      split at hl
      · cases hl
        exact Nat.le_refl _
      · have := wantP_len hl
        simp only
        omega
  generalize commaS e n acc.length ts' = s3 at *
  have hs4 := k4.size
  refine ⟨fun p l h' => p = .slice none 0 0 ∧ KG G h h' ∧ rkN G h' < rkN G h2 ∧ ((∃ f acc' us ts', acc.length + 1 = acc'.length ∧ (bindP s1 fun s => argsL e (s.2.length + 1) [] s.2) = argsL e f acc' ts' ∧ (bindP s1 fun s => bindP (argsL e (s.2.length + 1) [] s.2) fun q => .ok (s.1, q.2)) = bindP (argsL e f acc' ts') (fun q => .ok (n, q.2)) ∧ ts'.length + 1 ≤ f ∧ acc'.length ≤ 6 ∧ OwnH h' h.size 118 4 l acc'.length us ∧ exsAtN h' (fun b => Nw h h' b ∧ l.ownBlock ≠ some b) acc' us ∧ RO2 h' G e (.ok (n, ts'))) ∨
      ∃ y us, (bindP s1 fun s => argsL e (s.2.length + 1) [] s.2) = .error y ∧ (bindP s1 fun s => bindP (argsL e (s.2.length + 1) [] s.2) fun q => .ok (s.1, q.2)) = .error y ∧ OwnH h' h.size 118 4 l (acc.length + 1) us ∧ RO2 h' G e (.error y)), ?_, fun _ _ _ _ hj => hj⟩
  rw [asB_bool]
  refine cond_f rfl ?_
  refine CallX.use (exprR_law hp4) ?_
  rintro r5 h5 ⟨hx, hp5, k5⟩
  have hs5 := k5.size
  have k25 := k4.trans k5
  have ho5 : OwnH h5 h.size 118 4 lv acc.length us := ho.keep fun b hb hbl => k25.block b hbl fun e => by have := hlt2 b hb; omega
  obtain ⟨D, hrD, hD, hDo⟩ : J4 r5 := by
    cases hq : (bindP s3 fun s => exprP e s.2) with
    | ok q =>
      rw [hq] at hx
      exact ExR.j4 hx
    | error y =>
      rw [hq] at hx
      exact hx
  rw [hrD, asA_agg]
  refine ⟨by simpa using hD, ?_⟩
  rw [show (D.toArray.toList ++ []) = D from by simp]
  refine appK_one (bt := 56) (cs := D) (by kernel_rfl) ho5 hD hDo (by omega) (by omega) (by omega) fun w2 h9 ho2 hgr _ hv => ?_
  have hg9 := hgr.size
  have k59 : Keep (fun b => some b = lv.ownBlock) h5 h9 := Keep.grown hgr fun b hb _ => hb.symm
  have hp9 := hp5.keep k59 (fun b hb e => by have := hlt2 b e.symm; omega)
  have k29 : Keep (fun b => b = G ∨ some b = lv.ownBlock) h2 h9 := (k25.mono fun _ _ h => .inl h).trans (k59.mono fun _ _ h => .inr h)
  have k09 : KG G h h9 := (k2.trans k25).newer (k59.mono fun b hb e => .inr (hlt2 b e.symm).1)
  have hrk : rkN G h2 = ts'.length + 1 := hp2'.rkN
  cases s3 with
  | error y => exact ⟨rfl, k09, by rw [show rkN G h9 = 0 from RB.rkN hp9, hrk]; omega, .inr ⟨y, _, hcom, hcom2, ho2, hp9⟩⟩
  | ok s =>
    obtain ⟨hs1, hs2, h6⟩ := hle s rfl
    obtain ⟨n', l'⟩ := s
    obtain rfl : n' = n := hs1
    rw [bindP_ok] at hcom hcom2 hx
    have hp9 : RO2 h9 G e (bindP (exprP e l') fun q => .ok (n', q.2)) := hp9
    have hx : VX h4 h5 r5 (exprP e l') := hx
    simp only at hcom hcom2 hs2
    cases hq : exprP e l' with
    | error y =>
      rw [hq] at hcom hcom2 hp9
      exact ⟨rfl, k09, by rw [show rkN G h9 = 0 from RB.rkN hp9, hrk]; omega, .inr ⟨y, _, hcom, hcom2, ho2, hp9⟩⟩
    | ok q =>
      obtain ⟨x, ts5⟩ := q
      have hl5 := exprP_len hq
      simp only at hl5
      rw [hq, bindP_ok] at hcom hcom2
      rw [hq] at hp9 hx
      obtain ⟨w, hw, hex⟩ := hx
      have hDe : D = exC x w := by
        rw [hrD] at hw
        have := congrArg (fun v => v.cells.toList) hw
        simpa [Value.cells] using this
      subst hDe
      have hp9 : RO2 h9 G e (.ok (n', ts5)) := hp9
      obtain ⟨pp9, hp9'⟩ := hp9
      refine ⟨rfl, k09, by rw [show rkN G h9 = ts5.length + 1 from hp9'.rkN, hrk]; omega, .inl ⟨f, acc ++ [x], us ++ exC x w, ts5, by simp, hcom, hcom2, by omega, by simp; omega, by rw [List.length_append]; exact ho2, ?_, ⟨pp9, hp9'⟩⟩⟩
      refine exsAtN_snoc (exsAtN_map (fun sz v n us hs => (hs.keep k29 fun b hb e => ?_).mono fun b hb => ⟨⟨hb.1.1, by have := hb.1.2; omega⟩, push_own hv (by have := hb.1.2; omega) hb.2⟩) _ hat) ho.1 ?_ rfl
      · rcases e with e | e
        · have := hb.1.1
          omega
        · exact hb.2 e.symm
      refine exAtN_iff.2 ⟨w, rfl, ExSN.map (fun sz v n us hs => ?_) hex⟩
      refine (hs.keep k59 fun b hb e => by have := hlt2 b e.symm; have := hb.1; omega).mono fun b hb => ⟨⟨by have := hb.1; omega, by have := hb.2; omega⟩, push_own hv (by have := hb.2; omega) fun e => ?_⟩
      have := hlt2 b e
      have := hb.1
      omega
set_option maxRecDepth 100000 in
theorem listP_law [Inhabited Nat] {st : Except (Int × Int) (Nat × List Tok)} (hp : RO2 h G e st) (X : List PanicEntry → Hp → Prop) :
    CallX Tryd.prog ω n_p_pipewrightref_reading_list [pp G, .bool true] h (fun r h' => (∃ v, r = .tuple #[.slice none 0 0, v] ∧ VP h h' v (bindP st fun s => parsP e s.2)) ∧ RO2 h' G e (bindP st fun s => bindP (parsP e s.2) fun q => .ok (s.1, q.2)) ∧ KG G h h') X := by
  have hlt := hp.lt
  refine C_p_pipewrightref_reading_list ω _ _ h _ X ?_
  unfold W_p_pipewrightref_reading_list
  refine CallX.use (must2_law hp ⟨#[40]⟩ d40) ?_
  rintro _ h1 ⟨hp1, k1⟩
  have hs1 := k1.size
  have hp1 : RO2 h1 G e (bindP st fun q => bindP (wantP e [40] q.2) fun r => .ok (q.1, r)) := hp1
  have e1 : (bindP st fun s => parsP e s.2) = bindP (bindP st fun q => bindP (wantP e [40] q.2) fun r => .ok (q.1, r)) fun s => parsL e (s.2.length + 1) [] s.2 := by
    unfold parsP
    simp only [bindP_assoc, bindP_ok]
  have e2 : (bindP st fun s => bindP (parsP e s.2) fun q => .ok (s.1, q.2)) = bindP (bindP st fun q => bindP (wantP e [40] q.2) fun r => .ok (q.1, r)) fun s => bindP (parsL e (s.2.length + 1) [] s.2) fun q => .ok (s.1, q.2) := by
    unfold parsP
    simp only [bindP_assoc, bindP_ok]
  rw [e1, e2]
  generalize (bindP st fun q => bindP (wantP e [40] q.2) fun r => .ok (q.1, r) : Except (Int × Int) (Nat × List Tok)) = s1 at *
  clear e1 e2
  -- the loop
  refine ⟨fun p l m h' => l = .slice none 0 0 ∧ ∃ k : Nat, m = .int .i64 (k : Int) ∧ KG G h h' ∧ ((∃ n f acc us ts', k = acc.length ∧ (bindP s1 fun s => parsL e (s.2.length + 1) [] s.2) = parsL e f acc ts' ∧ (bindP s1 fun s => bindP (parsL e (s.2.length + 1) [] s.2) fun q => .ok (s.1, q.2)) = bindP (parsL e f acc ts') (fun q => .ok (n, q.2)) ∧ ts'.length + 1 ≤ f ∧ acc.length ≤ 6 ∧ OwnH h' h.size 54 2 p acc.length us ∧ us = acc.flatMap pf ∧ RO2 h' G e (.ok (n, ts'))) ∨
      ∃ y us, k ≤ 7 ∧ (bindP s1 fun s => parsL e (s.2.length + 1) [] s.2) = .error y ∧ (bindP s1 fun s => bindP (parsL e (s.2.length + 1) [] s.2) fun q => .ok (s.1, q.2)) = .error y ∧ OwnH h' h.size 54 2 p k us ∧ RO2 h' G e (.error y)),
    fun _ _ _ => rkN G, ?_, ?_⟩
  · refine ⟨rfl, 0, rfl, k1, ?_⟩
    cases s1 with
    | error y => exact .inr ⟨y, [], by omega, rfl, rfl, OwnH.nil, hp1⟩
    | ok s => exact .inl ⟨s.1, s.2.length + 1, [], [], s.2, rfl, rfl, rfl, Nat.le_refl _, by simp, OwnH.nil, rfl, hp1⟩
  rintro pv lv mv _ h2 ⟨hnil, k, rfl, k2, hor⟩
  have hs2 := k2.size
  subst hnil
  rcases hor with ⟨n, f, acc, us, ts', rfl, eq1, eq2, hf, hacc, ho, hat, hp2⟩ | ⟨y, us, hk7, eq1, eq2, ho, hp2⟩
  rotate_left
  · -- a fault was met
    refine ⟨fun v h' => v = .bool false ∧ h2 = h', ?_, ?_⟩
    · refine CallX.use (bad2_law hp2) ?_
      rintro _ _ ⟨rfl, rfl⟩
      rw [asB_bool]
      exact cond_f rfl ⟨rfl, rfl⟩
    rintro _ _ _ ⟨rfl, rfl⟩
    rw [asB_bool]
    refine cond_f rfl ?_
    refine CallX.use (must2_law hp2 ⟨#[41]⟩ d41) ?_
    rintro _ h3 ⟨hp3, k3⟩
    rw [eq1, eq2]
    exact ⟨⟨_, rfl, SlAt.isSl ho.slAt⟩, hp3, k2.trans k3⟩
  obtain ⟨f, rfl⟩ : ∃ q, f = q + 1 := ⟨f - 1, by omega⟩
  rw [parsL_step] at eq1 eq2
  have hp2c := hp2
  obtain ⟨pp0, hp2'⟩ := hp2c
  have hp2' : RG h2 G e n pp0 ts' := hp2'
  refine ⟨fun v h' => v = .bool (!(isT [41] ts')) ∧ h2 = h', ?_, ?_⟩
  · refine CallX.use (bad_law (st := .ok (n, pp0, ts')) hp2') ?_
    rintro _ _ ⟨rfl, rfl⟩
    rw [asB_bool]
    refine cond_t rfl ?_
    refine CallX.use (sees_law hp2' ⟨#[41]⟩ d41) ?_
    rintro _ _ ⟨rfl, rfl⟩
    rw [asB_bool]
    exact ⟨rfl, rfl⟩
  rintro _ _ _ ⟨rfl, rfl⟩
  rw [asB_bool]
  have hlt2 := ho.lt
  refine cond_c (fun hc => ?_) (fun hc => ?_)
  rotate_left
  · have hc : isT [41] ts' = true := by simpa using hc
    obtain ⟨x0, r0, rfl⟩ := isT_cons hc
    rw [if_pos hc] at eq1 eq2
    refine CallX.use (must2_law (st := .ok (n, x0 :: r0)) hp2 ⟨#[41]⟩ d41) ?_
    rintro _ h3 ⟨hp3, k3⟩
    have hs3 := k3.size
    have hp3 : RO2 h3 G e (bindP (wantP e [41] (x0 :: r0)) fun r => .ok (n, r)) := hp3
    unfold wantP at hp3
    rw [if_pos hc] at hp3
    rw [eq1, eq2]
    exact ⟨⟨_, rfl, ⟨by rw [← hat]; exact ((SlN.own ho (by omega)).keep k3 fun b hb e => by have := hb.1; omega).mono fun b hb => ⟨hb.1, by have := hb.2; omega⟩, ownNilOr ho⟩⟩, hp3, k2.trans k3⟩
  have hc : isT [41] ts' = false := by simpa using hc
  rw [hc, if_neg Bool.false_ne_true] at eq1 eq2
  have hcom : (bindP s1 fun s => parsL e (s.2.length + 1) [] s.2) = bindP (commaS e n acc.length ts') fun s => bindP (itemP e s.2) fun q => parsL e f (acc ++ [q.1]) q.2 := by
    rw [eq1]
    unfold commaS
    rw [bindP_assoc]
    congr 1
    funext l
    split <;> rfl
  have hcom2 : (bindP s1 fun s => bindP (parsL e (s.2.length + 1) [] s.2) fun q => .ok (s.1, q.2)) = bindP (commaS e n acc.length ts') fun s => bindP (itemP e s.2) fun q => bindP (parsL e f (acc ++ [q.1]) q.2) fun u => .ok (n, u.2) := by
    rw [eq2]
    unfold commaS
    rw [bindP_assoc, bindP_assoc]
    congr 1
    funext l
    split
    · rfl
    · rw [bindP_assoc]
      rfl
  clear eq1 eq2
  refine ⟨fun p l h' => l = .slice none 0 0 ∧ KG G h h' ∧ rkN G h' < rkN G h2 ∧ ((∃ f acc' us ts', acc.length + 1 = acc'.length ∧ (bindP s1 fun s => parsL e (s.2.length + 1) [] s.2) = parsL e f acc' ts' ∧ (bindP s1 fun s => bindP (parsL e (s.2.length + 1) [] s.2) fun q => .ok (s.1, q.2)) = bindP (parsL e f acc' ts') (fun q => .ok (n, q.2)) ∧ ts'.length + 1 ≤ f ∧ acc'.length ≤ 6 ∧ OwnH h' h.size 54 2 p acc'.length us ∧ us = acc'.flatMap pf ∧ RO2 h' G e (.ok (n, ts'))) ∨
      ∃ y us, (bindP s1 fun s => parsL e (s.2.length + 1) [] s.2) = .error y ∧ (bindP s1 fun s => bindP (parsL e (s.2.length + 1) [] s.2) fun q => .ok (s.1, q.2)) = .error y ∧ OwnH h' h.size 54 2 p (acc.length + 1) us ∧ RO2 h' G e (.error y)), ?_, ?_⟩
  rotate_left
  · rintro p l _ h3 ⟨hn3, k3, hr3, hor⟩
    rw [asK_int, i64_in (by omega) (by omega)]
    refine ⟨⟨hn3, acc.length + 1, by push_cast; rfl, k3, ?_⟩, hr3⟩
    rcases hor with ⟨f', acc', us', ts'', h1, h2, h3, h4, h5, h6, h7, h8⟩ | ⟨y, us', h1, h2, h3, h4⟩
    · exact .inl ⟨n, f', acc', us', ts'', h1, h2, h3, h4, h5, h6, h7, h8⟩
    · exact .inr ⟨y, us', by omega, h1, h2, h3, h4⟩
  rw [asK_int]
  refine ⟨fun h' => RO2 h' G e (bindP (if acc.length = 0 then .ok ts' else wantP e [44] ts') fun l => .ok (n, l)) ∧ KG G h2 h', ?_, ?_⟩
  · refine cond_c (fun h0 => ?_) (fun h0 => ?_)
    · have h0 : ¬ acc.length = 0 := by have := of_decide_eq_true h0; omega
      refine CallX.use (must2_law (st := .ok (n, ts')) hp2 ⟨#[44]⟩ d44) ?_
      rintro _ h3 ⟨hp3, k3⟩
      rw [if_neg h0]
      exact ⟨hp3, k3⟩
    · have h0 : acc.length = 0 := by have := of_decide_eq_false h0; omega
      rw [if_pos h0]
      exact ⟨hp2, Keep.refl _ _⟩
  rintro _ h3 ⟨hp3, k3⟩
  rw [asK_int]
  refine ⟨fun h' => RO2 h' G e (commaS e n acc.length ts') ∧ KG G h2 h', ?_, ?_⟩
  · refine cond_c (fun h6 => ?_) (fun h6 => ?_)
    · have h6 : acc.length = 6 := by have := of_decide_eq_true h6; omega
      refine CallX.use (wrong2_law hp3 8 (by decide)) ?_
      rintro _ h4 ⟨hp4, k4⟩
      refine ⟨?_, k3.trans k4⟩
      rw [bindP_assoc] at hp4
      unfold commaS
      simp only [if_pos h6]
      exact hp4
    · have h6 : ¬ acc.length = 6 := by have := of_decide_eq_false h6; omega
      refine ⟨?_, k3⟩
      unfold commaS
      simp only [if_neg h6]
      exact hp3
  rintro _ h4 ⟨hp4, k4⟩
  have hle : ∀ s, commaS e n acc.length ts' = .ok s → s.1 = n ∧ s.2.length ≤ ts'.length ∧ acc.length ≠ 6 := by
    intro s hs
    unfold commaS at hs
    obtain ⟨l, hl, hs⟩ := bindP_okk hs
    split at hs
    · cases hs
    · rename_i h6
      cases hs
      refine ⟨rfl, ?_, h6⟩
      split at hl
      · cases hl
        exact Nat.le_refl _
      · have := wantP_len hl
        simp only
        omega
  generalize commaS e n acc.length ts' = s3 at *
  have hs4 := k4.size
  refine ⟨fun p l h' => l = .slice none 0 0 ∧ KG G h h' ∧ rkN G h' < rkN G h2 ∧ ((∃ f acc' us ts', acc.length + 1 = acc'.length ∧ (bindP s1 fun s => parsL e (s.2.length + 1) [] s.2) = parsL e f acc' ts' ∧ (bindP s1 fun s => bindP (parsL e (s.2.length + 1) [] s.2) fun q => .ok (s.1, q.2)) = bindP (parsL e f acc' ts') (fun q => .ok (n, q.2)) ∧ ts'.length + 1 ≤ f ∧ acc'.length ≤ 6 ∧ OwnH h' h.size 54 2 p acc'.length us ∧ us = acc'.flatMap pf ∧ RO2 h' G e (.ok (n, ts'))) ∨
      ∃ y us, (bindP s1 fun s => parsL e (s.2.length + 1) [] s.2) = .error y ∧ (bindP s1 fun s => bindP (parsL e (s.2.length + 1) [] s.2) fun q => .ok (s.1, q.2)) = .error y ∧ OwnH h' h.size 54 2 p (acc.length + 1) us ∧ RO2 h' G e (.error y)), ?_, fun _ _ _ _ hj => hj⟩
  rw [asB_bool]
  refine cond_t rfl ?_
  refine CallX.use (of2_law hp4 2) ?_
  rintro _ h5 ⟨⟨tk, rfl, htk⟩, hp5, k5⟩
  have hs5 := k5.size
  rw [asA_agg]
  show asO (some (Value.string tk.text)) _
  rw [asO_some]
  refine CallX.use (typR_law hp5) ?_
  rintro _ h6 ⟨⟨ty, rfl, hty⟩, hp6, k6⟩
  have hs6 := k6.size
  rw [oneK_str, oneK_str]
  have k26 := (k4.trans k5).trans k6
  have ho6 : OwnH h6 h.size 54 2 pv acc.length us := ho.keep fun b hb hbl => k26.block b hbl fun e => by have := hlt2 b hb; omega
  refine ⟨rfl, ?_⟩
  refine appK_one (bt := 32) (cs := pf (tk.text, ty)) (by kernel_rfl) ho6 rfl (pf_one _) (by omega) (by omega) (by omega) fun w2 h9 ho2 hgr _ hv => ?_
  have hg9 := hgr.size
  have k69 : Keep (fun b => some b = pv.ownBlock) h6 h9 := Keep.grown hgr fun b hb _ => hb.symm
  have hp9 := hp6.keep k69 (fun b hb e => by have := hlt2 b e.symm; omega)
  have k09 : KG G h h9 := (k2.trans k26).newer (k69.mono fun b hb e => .inr (hlt2 b e.symm).1)
  have hrk : rkN G h2 = ts'.length + 1 := hp2'.rkN
  cases s3 with
  | error y => exact ⟨rfl, k09, by rw [show rkN G h9 = 0 from RB.rkN hp9, hrk]; omega, .inr ⟨y, _, hcom, hcom2, ho2, hp9⟩⟩
  | ok s =>
    obtain ⟨hs1, hs2, h6'⟩ := hle s rfl
    obtain ⟨n', l'⟩ := s
    obtain rfl : n' = n := hs1
    rw [bindP_ok] at hcom hcom2
    simp only at hcom hcom2 hs2
    have hit : itemP e l' = bindP (kindP e 2 l') fun q => bindP (typP e [] q.2) fun u => .ok ((q.1.text, bs u.1), u.2) := by
      unfold itemP
      rw [nameP_kind, bindP_assoc]
      rfl
    have hp9 : RO2 h9 G e (bindP (bindP (kindP e 2 l') fun r => .ok (n', r.2)) fun s => bindP (typP e [] s.2) fun q => .ok (s.1, q.2)) := hp9
    have hty : ∀ q, bindP (bindP (kindP e 2 l') fun r => .ok (n', r.2)) (fun s => typP e [] s.2) = .ok q → ty = bs q.1 := hty
    have htk : ∀ q, kindP e 2 l' = .ok q → tk = q.1 := htk
    cases hk : kindP e 2 l' with
    | error y =>
      rw [hk] at hp9 hit
      rw [hit] at hcom hcom2
      exact ⟨rfl, k09, by rw [show rkN G h9 = 0 from RB.rkN hp9, hrk]; omega, .inr ⟨y, _, hcom, hcom2, ho2, hp9⟩⟩
    | ok q =>
      obtain rfl := htk q hk
      rw [hk, bindP_ok] at hp9 hit hty
      have hp9 : RO2 h9 G e (bindP (typP e [] q.2) fun u => .ok (n', u.2)) := hp9
      have hty : ∀ u, typP e [] q.2 = .ok u → ty = bs u.1 := hty
      cases ht : typP e [] q.2 with
      | error y =>
        rw [ht] at hp9 hit
        rw [hit] at hcom hcom2
        exact ⟨rfl, k09, by rw [show rkN G h9 = 0 from RB.rkN hp9, hrk]; omega, .inr ⟨y, _, hcom, hcom2, ho2, hp9⟩⟩
      | ok u =>
        obtain rfl := hty u ht
        rw [ht] at hp9 hit
        have hit : itemP e l' = .ok ((q.1.text, bs u.1), u.2) := hit
        have hl5 := itemP_len hit
        simp only at hl5
        rw [hit, bindP_ok] at hcom hcom2
        have hp9 : RO2 h9 G e (.ok (n', u.2)) := hp9
        obtain ⟨pp9, hp9'⟩ := hp9
        refine ⟨rfl, k09, by rw [show rkN G h9 = u.2.length + 1 from hp9'.rkN, hrk]; omega, .inl ⟨f, acc ++ [(q.1.text, bs u.1)], us ++ pf (q.1.text, bs u.1), u.2, by simp, hcom, hcom2, by omega, by simp; omega, by rw [List.length_append]; exact ho2, ?_, ⟨pp9, hp9'⟩⟩⟩
        rw [hat, List.flatMap_append]
        simp
end
end Go.Proofs.YtaehnpilebkcoaaDoor

namespace Go.Proofs.YtaehnpilebkcoaaDoor
open Go Go.Sx Go.Sx.Tk Go.Sx.Rn Go.Proofs.YtaehnpilebkcoaaDoor.Sx

/-- what was read of a statement so far: its block L, laid in hL -/
structure Ph [Inhabited Nat] (hL : Hp) (G L : Nat) (e : Int) (d n : Nat) (at_ : Int) (pr : Except (Int × Int) (Sh × List Tok)) (h' : Hp) : Prop where
  val : match pr with
    | .ok q => ∃ ve, ShAt h' L d at_ q.1 ve ∧ ExSN h' (Nw hL h') ve q.1.e
    | .error _ => ∃ C : List Value, h'[L]? = some (.cells C.toArray 65 (0, 0)) ∧ C.length = 9 ∧ (∀ u ∈ C, one u) ∧ C[0]? = some (.int .i64 (d : Int))
  ro : RO2 h' G e (bindP pr fun q => .ok (n, q.2))
  k : KGB G L hL h'
section
variable {ω : Amb} {hL h1 : Hp} {G L : Nat} {e : Int} {d n : Nat} {at_ : Int} {pr : Except (Int × Int) (Sh × List Tok)}
theorem shC_one {d at_ : Int} {s : Sh} {ve vb vl : Value} (h1 : isSl ve) (h2 : isSl vb) (h3 : isSl vl) : ∀ u ∈ shC d at_ s ve vb vl, one u := by
  intro u hu
  simp only [shC, List.mem_cons, List.not_mem_nil, or_false] at hu
  rcases hu with rfl | rfl | rfl | rfl | rfl | rfl | rfl | rfl | rfl
  · rfl
  · rfl
  · rfl
  · rfl
  · rfl
  · rfl
  · exact h1.one
  · exact h2.one
  · exact h3.one
theorem nilSl : isSl (.slice none 0 0) := ⟨_, _, _, rfl⟩
/-- the cells, whatever they are -/
theorem Ph.cells [Inhabited Nat] (p : Ph hL G L e d n at_ pr h1) : ∃ C : List Value, h1[L]? = some (.cells C.toArray 65 (0, 0)) ∧ C.length = 9 ∧ (∀ u ∈ C, one u) ∧ C[0]? = some (.int .i64 (d : Int)) := by
  cases pr with
  | ok q =>
    obtain ⟨ve, h2, h3⟩ := p.val
    exact ⟨_, h2, rfl, shC_one h3.isSl nilSl nilSl, rfl⟩
  | error x => exact p.val
theorem Ph.do_ [Inhabited Nat] (p : Ph hL G L e d n at_ pr h1) {K : Value → Prop} (hK : K (.int .i64 (d : Int))) : ∃ v, cellH h1 (Addr.add ⟨L, 0, none⟩ 0) = some v ∧ K v := by
  obtain ⟨C, hb, _, _, h0⟩ := p.cells
  exact lx hb (j := 0) h0 hK
theorem Ph.lt [Inhabited Nat] (p : Ph hL G L e d n at_ pr h1) : L < h1.size := by
  obtain ⟨C, hb, _⟩ := p.cells
  exact hp_lt hb
/-- the reading went on; the statement's block was not touched -/
theorem Ph.go [Inhabited Nat] {h2 : Hp} (p : Ph hL G L e d n at_ pr h1) (hGL : G < L) (hLL : L < hL.size) (k : KG G h1 h2) {pr' : Except (Int × Int) (Sh × List Tok)} (hok : ∀ q', pr' = .ok q' → ∃ q, pr = .ok q ∧ q.1 = q'.1) (hro : RO2 h2 G e (bindP pr' fun q => .ok (n, q.2))) : Ph hL G L e d n at_ pr' h2 := by
  refine ⟨?_, hro, p.k.trans (kgb_of k)⟩
  obtain ⟨C, hb, hl, hon, h0⟩ := p.cells
  cases pr' with
  | error x => exact ⟨C, k.get hb (by omega), hl, hon, h0⟩
  | ok q' =>
    obtain ⟨q, rfl, he⟩ := hok q' rfl
    obtain ⟨ve, h3, h4⟩ := p.val
    rw [he] at h3 h4
    have := k.size
    exact ⟨ve, k.get h3 (by omega), ExSN.mv h4 k (fun b hb e => by have := hb.1; omega) fun b hb => ⟨hb.1, by have := hb.2; omega⟩⟩
/-- a field is laid -/
theorem Ph.set [Inhabited Nat] {h2 : Hp} (p : Ph hL G L e d n at_ pr h1) (hGL : G < L) (hLL : L < hL.size) {N : Nat → Prop} (k : KG G h1 h2) {v : Value} (hv : one v) {j : Nat} (hj : j < 9) (hj0 : j ≠ 0) {pr' : Except (Int × Int) (Sh × List Tok)}
    (hok : ∀ q', pr' = .ok q' → ∃ q, pr = .ok q ∧ ∀ ve, ExSN h2 (Nw hL h2) ve q.1.e → ∃ ve', (shC d at_ q.1 ve (.slice none 0 0) (.slice none 0 0)).set j v = shC d at_ q'.1 ve' (.slice none 0 0) (.slice none 0 0) ∧ ExSN h2 (Nw hL h2) ve' q'.1.e)
    (hro : RO2 h2 G e (bindP pr' fun q => .ok (n, q.2))) {K : Hp → Prop} (hK : ∀ h', Ph hL G L e d n at_ pr' h' → K h') : storeK1 h2 (Addr.add ⟨L, 0, none⟩ j) v K := by
  obtain ⟨C, hb, hl, hon, h0⟩ := p.cells
  have hb2 := k.get hb (by omega)
  have hs2 := k.size
  have hpk := p.k.size
  rw [addr_add, Nat.zero_add]
  refine storeK1_of (o := j) hb2 (by simp [hl]; omega) ?_
  rw [show C.toArray.setIfInBounds j v = (C.set j v).toArray from by simp]
  have hb3 := hp_set_same (o := .cells (C.set j v).toArray 65 (0, 0)) hb2
  have k3 := Keep.set (S := fun b => b = L) (h := h2) (.cells (C.set j v).toArray 65 (0, 0)) (b := L) rfl
  have z3 : (h2.setIfInBounds L (.cells (C.set j v).toArray 65 (0, 0))).size = h2.size := by simp
  refine hK _ ⟨?_, hro.keep k3 fun b hb e => by omega, (p.k.trans (kgb_of k)).trans (k3.mono fun _ _ h => .inr h)⟩
  cases pr' with
  | error x =>
    refine ⟨C.set j v, hb3, by rw [List.length_set]; exact hl, fun u hu => ?_, ?_⟩
    · rcases List.mem_or_eq_of_mem_set hu with h | h
      · exact hon u h
      · rw [h]; exact hv
    · rw [List.getElem?_set_ne hj0]
      exact h0
  | ok q' =>
    obtain ⟨q, rfl, hf⟩ := hok q' rfl
    obtain ⟨ve, h3, h4⟩ := p.val
    obtain ⟨ve', h5, h6⟩ := hf ve (ExSN.mv h4 k (fun b hb e => by have := hb.1; omega) fun b hb => ⟨hb.1, by have := hb.2; omega⟩)
    have hC : C = shC d at_ q.1 ve (.slice none 0 0) (.slice none 0 0) := by
      have h3 : h1[L]? = some (.cells (shC d at_ q.1 ve (.slice none 0 0) (.slice none 0 0)).toArray 65 (0, 0)) := h3
      rw [hb] at h3
      have := Option.some.inj h3
      simpa using this
    subst hC
    rw [h5] at hb3 k3 z3 ⊢
    exact ⟨ve', hb3, ExSN.mv h6 k3 (fun b hb e => by have := hb.1; omega) fun b hb => ⟨hb.1, by have := hb.2; omega⟩⟩
abbrev prMust (e : Int) (w : List UInt8) (pr : Except (Int × Int) (Sh × List Tok)) : Except (Int × Int) (Sh × List Tok) := bindP pr fun q => bindP (wantP e w q.2) fun r => .ok (q.1, r)
theorem ph_must [Inhabited Nat] (p : Ph hL G L e d n at_ pr h1) (hGL : G < L) (hLL : L < hL.size) (s : ByteArray) (hs : ∃ c r, bytesOf s = c :: r ∧ Tk.dg c = false) (X : List PanicEntry → Hp → Prop) :
    CallX Tryd.prog ω n_p_pipewrightref_reading_must [pp G, .string s] h1 (fun _ h' => Ph hL G L e d n at_ (prMust e (bytesOf s) pr) h') X := by
  refine CallX.use (must2_law p.ro s hs) ?_
  rintro _ h2 ⟨hro, k⟩
  refine p.go hGL hLL k ?_ ?_
  · intro q' hq'
    obtain ⟨q, h1, h2⟩ := bindP_okk hq'
    obtain ⟨r, h3, h4⟩ := bindP_okk h2
    cases h4
    exact ⟨q, h1, rfl⟩
  · simp only [prMust, bindP_assoc, bindP_ok] at hro ⊢
    exact hro
abbrev prOf (e k : Int) (f : Tok → Sh → Sh) (pr : Except (Int × Int) (Sh × List Tok)) : Except (Int × Int) (Sh × List Tok) := bindP pr fun q => bindP (kindP e k q.2) fun t => .ok (f t.1 q.1, t.2)
theorem ph_of [Inhabited Nat] (p : Ph hL G L e d n at_ pr h1) (hGL : G < L) (hLL : L < hL.size) (k : Int) {i j : Nat} (f : Tok → Sh → Sh) (hi : ∀ t : Tok, ∃ v, t.f[i]? = some v ∧ one v) (hj : j < 9) (hj0 : j ≠ 0)
    (hf : ∀ (t : Tok) (s : Sh) (ve v : Value), t.f[i]? = some v → (shC d at_ s ve (.slice none 0 0) (.slice none 0 0)).set j v = shC d at_ (f t s) ve (.slice none 0 0) (.slice none 0 0)) (hfe : ∀ t s, (f t s).e = s.e) {K : Hp → Prop} (X : List PanicEntry → Hp → Prop) (hK : ∀ h', Ph hL G L e d n at_ (prOf e k f pr) h' → K h') :
    CallX Tryd.prog ω n_p_pipewrightref_reading_of [pp G, .int .i64 k] h1 (fun r h2 => asA r fun A => asO A[i]? fun v => oneK v (storeK1 h2 (Addr.add ⟨L, 0, none⟩ j) v K)) X := by
  refine CallX.use (of2_law p.ro k) ?_
  rintro _ h2 ⟨⟨t, rfl, ht⟩, hro, kk⟩
  rw [asA_agg]
  obtain ⟨v, hv, hv1⟩ := hi t
  rw [show t.f.toArray[i]? = some v from by simpa using hv, asO_some]
  refine oneK_of hv1 ?_
  refine p.set (N := fun _ => True) hGL hLL kk hv1 hj hj0 ?_ ?_ hK
  · intro q' hq'
    obtain ⟨q, h1, h2⟩ := bindP_okk hq'
    obtain ⟨r, h3, h4⟩ := bindP_okk h2
    have ht := ht r (by rw [h1, bindP_ok, bindP_ok]; exact h3)
    cases h4
    refine ⟨q, h1, fun ve hve => ⟨ve, ?_, ?_⟩⟩
    · rw [← ht]
      exact hf t q.1 ve v hv
    · show ExSN _ _ ve (f r.1 q.1).e
      rw [hfe]
      exact hve
  · simp only [prOf, bindP_assoc, bindP_ok] at hro ⊢
    exact hro
abbrev prTyp (e : Int) (pr : Except (Int × Int) (Sh × List Tok)) : Except (Int × Int) (Sh × List Tok) := bindP pr fun q => bindP (typP e [] q.2) fun u => .ok ({ q.1 with t := bs u.1 }, u.2)
theorem ph_typ [Inhabited Nat] (p : Ph hL G L e d n at_ pr h1) (hGL : G < L) (hLL : L < hL.size) {K : Hp → Prop} (X : List PanicEntry → Hp → Prop) (hK : ∀ h', Ph hL G L e d n at_ (prTyp e pr) h' → K h') :
    CallX Tryd.prog ω n_p_pipewrightref_reading_kind [pp G] h1 (fun r h2 => oneK r (storeK1 h2 (Addr.add ⟨L, 0, none⟩ 4) r K)) X := by
  refine CallX.use (typR_law p.ro) ?_
  rintro _ h2 ⟨⟨s, rfl, hs⟩, hro, kk⟩
  rw [oneK_str]
  refine p.set (N := fun _ => True) (v := .string s) hGL hLL kk rfl (by decide) (by decide) ?_ ?_ hK
  · intro q' hq'
    obtain ⟨q, h1, h2⟩ := bindP_okk hq'
    obtain ⟨r, h3, h4⟩ := bindP_okk h2
    have hs := hs r (by rw [h1, bindP_ok, bindP_ok]; exact h3)
    cases h4
    refine ⟨q, h1, fun ve hve => ⟨ve, ?_, hve⟩⟩
    rw [hs]
    rfl
  · simp only [prTyp, bindP_assoc, bindP_ok] at hro ⊢
    exact hro
abbrev prList (e : Int) (pr : Except (Int × Int) (Sh × List Tok)) : Except (Int × Int) (Sh × List Tok) := bindP pr fun q => bindP (argsP e q.2) fun u => .ok ({ q.1 with e := u.1 }, u.2)
theorem ph_list [Inhabited Nat] (p : Ph hL G L e d n at_ pr h1) (hGL : G < L) (hLL : L < hL.size) {K : Hp → Prop} (X : List PanicEntry → Hp → Prop) (hK : ∀ h', Ph hL G L e d n at_ (prList e pr) h' → K h') :
    CallX Tryd.prog ω n_p_pipewrightref_reading_list [pp G, .bool false] h1 (fun r h2 => asT r fun T118 => asO T118[0]? fun v119 => asT r fun T120 => asO T120[1]? fun _ => oneK v119 (storeK1 h2 (Addr.add ⟨L, 0, none⟩ 6) v119 K)) X := by
  refine CallX.use (listA_law p.ro) ?_
  rintro _ h2 ⟨⟨v, rfl, hv⟩, hro, kk⟩
  have hsz := p.k.size
  have hsz2 := kk.size
  rw [asT_tup, show (#[v, .slice none 0 0] : Array Value)[0]? = some v from rfl, asO_some, asT_tup, show (#[v, .slice none 0 0] : Array Value)[1]? = some (.slice none 0 0) from rfl, asO_some]
  have hsl : isSl v := by
    cases hq : (bindP (bindP pr fun q => .ok (n, q.2)) fun s => argsP e s.2 : Except (Int × Int) (List Ex × List Tok)) with
    | ok q =>
      rw [hq] at hv
      exact ExSN.isSl hv
    | error y =>
      rw [hq] at hv
      exact hv
  refine oneK_of hsl.one ?_
  refine p.set (N := fun _ => True) hGL hLL kk hsl.one (by decide) (by decide) ?_ ?_ hK
  · intro q' hq'
    obtain ⟨q, h1, h2⟩ := bindP_okk hq'
    obtain ⟨r, h3, h4⟩ := bindP_okk h2
    rw [show (bindP (bindP pr fun q => .ok (n, q.2)) fun s => argsP e s.2 : Except (Int × Int) (List Ex × List Tok)) = .ok r from by rw [h1, bindP_ok, bindP_ok]; exact h3] at hv
    cases h4
    refine ⟨q, h1, fun ve _ => ⟨v, rfl, ?_⟩⟩
    exact ExSN.map (fun sz v n us hs => hs.mono fun b hb => ⟨by have := hb.1; omega, hb.2⟩) hv
  · simp only [prList, bindP_assoc, bindP_ok] at hro ⊢
    exact hro
abbrev prExpr (e : Int) (pr : Except (Int × Int) (Sh × List Tok)) : Except (Int × Int) (Sh × List Tok) := bindP pr fun q => bindP (exprP e q.2) fun u => .ok ({ q.1 with e := [u.1] }, u.2)
theorem ph_expr [Inhabited Nat] (p : Ph hL G L e d n at_ pr h1) (hGL : G < L) (hLL : L < hL.size) {J : Hp → Prop} (X : List PanicEntry → Hp → Prop) (hJ : ∀ h', Ph hL G L e d n at_ (prExpr e pr) h' → J h') :
    CallX Tryd.prog ω n_p_pipewrightref_reading_bad [pp G] h1 (fun r169 h170 => asB r169 fun b171 => ∃ J172 : Hp → Prop, (cond (!b171)
      (CallX Tryd.prog ω n_p_pipewrightref_reading_expr [pp G] h170 (fun r175 h176 => asA r175 fun A177 => A177.size = 4 ∧ storeK1 (Array.push h176 (.cells (List.toArray (A177.toList ++ [])) 118 (0, 0))) (Addr.add ⟨L, 0, none⟩ 6) (.slice (some ⟨Array.size h176, 0, none⟩) 1 1) fun h178 => J172 h178) X)
      (J172 h170)) ∧ ∀ (_ : Nat → Value) (h174 : Hp), J172 h174 → J h174) X := by
  refine CallX.use (bad2_law p.ro) ?_
  rintro _ _ ⟨rfl, rfl⟩
  rw [asB_bool]
  refine ⟨fun h' => Ph hL G L e d n at_ (prExpr e pr) h', ?_, fun _ h' hj => hJ h' hj⟩
  cases hpr : pr with
  | error x =>
    rw [hpr] at p
    exact cond_f rfl p
  | ok q =>
    refine cond_t rfl ?_
    refine CallX.use (exprR_law p.ro) ?_
    rintro r h2 ⟨hx, hro, kk⟩
    rw [hpr, bindP_ok, bindP_ok] at hx hro
    have hx : VX h1 h2 r (exprP e q.2) := hx
    have hro : RO2 h2 G e (bindP (exprP e q.2) fun u => .ok (n, u.2)) := hro
    have hsz := p.k.size
    have hsz2 := kk.size
    obtain ⟨D, hrD, hD, hDo⟩ : J4 r := by
      cases hq : exprP e q.2 with
      | ok q =>
        rw [hq] at hx
        exact ExR.j4 hx
      | error y =>
        rw [hq] at hx
        exact hx
    rw [hrD, asA_agg]
    refine ⟨by simpa using hD, ?_⟩
    have hl3 := hp_push_new (h := h2) (o := .cells (List.toArray (D.toArray.toList ++ [])) 118 (0, 0))
    have k3 := Keep.push (S := fun _ => False) h2 (.cells (List.toArray (D.toArray.toList ++ [])) 118 (0, 0))
    have z3 : (h2.push (.cells (List.toArray (D.toArray.toList ++ [])) 118 (0, 0))).size = h2.size + 1 := by simp
    generalize h2.push (.cells (List.toArray (D.toArray.toList ++ [])) 118 (0, 0)) = h3 at *
    refine p.set (N := fun _ => True) (v := .slice (some ⟨Array.size h2, 0, none⟩) 1 1) hGL hLL (kk.trans (kg_of k3)) rfl (by decide) (by decide) ?_ ?_ fun h' h => h
    · intro q' hq'
      obtain ⟨q0, h1, h2⟩ := bindP_okk hq'
      cases h1
      obtain ⟨u, h3, h4⟩ := bindP_okk h2
      rw [h3] at hx
      obtain ⟨w, hw, hex⟩ := hx
      have hDe : D = exC u.1 w := by
        rw [hrD] at hw
        have := congrArg (fun v => v.cells.toList) hw
        simpa [Value.cells] using this
      subst hDe
      cases h4
      refine ⟨q, hpr, fun ve _ => ⟨.slice (some ⟨_, 0, none⟩) 1 1, rfl, ?_⟩⟩
      exact ex1 hl3 (ExSN.mv hex k3 (fun _ _ h => h) fun b hb => ⟨by have := hb.1; omega, by have := hb.2; omega⟩) ⟨by omega, by omega⟩
    · simp only [prExpr, bindP_assoc, bindP_ok]
      exact hro.keep k3 fun _ _ h => h
end
end Go.Proofs.YtaehnpilebkcoaaDoor
