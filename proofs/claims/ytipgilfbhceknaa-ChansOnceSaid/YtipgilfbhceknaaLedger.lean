/- The ledger and the book's ends: contracts. -/
import Derived.Test.YtipgilfbhceknaaSxStr
import Derived.Test.YtipgilfbhceknaaY2
namespace Go.Proofs.Ytipgilfbhceknaa
open Go Go.Sx Go.Proofs.Ytipgilfbhceknaa.Sx
variable {ω : Amb}

structure E4 where
  c : Int
  s : Bool
  h : Int
  d : Int
def E4.f (e : E4) : List Value := [.int .i64 e.c, .bool e.s, .int .i64 e.h, .int .i64 e.d]
theorem E4.len (e : E4) : e.f.length = 4 := rfl
theorem E4.one (e : E4) : ∀ u ∈ e.f, one u := by
  intro u hu
  simp only [E4.f, List.mem_cons, List.not_mem_nil, or_false] at hu
  rcases hu with rfl | rfl | rfl | rfl <;> rfl
def E4.zero : E4 := ⟨0, false, 0, 0⟩
abbrev fl (xs : List E4) : List Value := xs.flatMap E4.f

def atE (xs : List E4) (e : Int) : E4 × Bool := if e < 0 ∨ (xs.length : Int) ≤ e then (.zero, false) else (xs.getD e.toNat .zero, true)
theorem atE_out {xs : List E4} {e : Int} (he : e < 0 ∨ (xs.length : Int) ≤ e) : atE xs e = (.zero, false) := if_pos he
theorem atE_in {xs : List E4} {i : Nat} {x : E4} (hx : xs[i]? = some x) : atE xs i = (x, true) := by
  have := (List.getElem?_eq_some_iff.1 hx).1
  rw [atE, if_neg (by omega), Int.toNat_natCast, List.getD_eq_getElem?_getD, hx, Option.getD_some]
theorem atE_cases (xs : List E4) (e : Int) : ((e < 0 ∨ (xs.length : Int) ≤ e) ∧ atE xs e = (.zero, false)) ∨ ∃ (i : Nat) (x : E4), e = i ∧ i < xs.length ∧ xs[i]? = some x ∧ atE xs e = (x, true) := by
  by_cases he : e < 0 ∨ (xs.length : Int) ≤ e
  · exact .inl ⟨he, atE_out he⟩
  · obtain ⟨i, rfl⟩ := Int.eq_ofNat_of_zero_le (show 0 ≤ e by omega)
    have hi : i < xs.length := by omega
    exact .inr ⟨i, xs[i], rfl, hi, List.getElem?_eq_getElem hi, atE_in (List.getElem?_eq_getElem hi)⟩

section
variable {h : Hp} {p : Nat} {v : Value} {xs : List E4}
theorem End_law (hp : cellH h ⟨p, 0, none⟩ = some v) (hs : SlAt h 4 v xs.length (fl xs)) (e : Int) (X : List PanicEntry → Hp → Prop) :
    CallX Try.prog ω n_p_ledger_Ledger_End [.pointer (some ⟨p, 0, none⟩), .int .i64 e] h (fun r h' => r = .tuple #[.agg (atE xs e).1.f.toArray, .bool (atE xs e).2] ∧ Keep (fun _ => False) h h') X := by
  refine C_p_ledger_Ledger_End ω _ _ h _ X ?_
  unfold W_p_ledger_Ledger_End
  have kp := fun o => Keep.push (S := fun _ => False) h o
  have ks := hs.keep (kp (.cells #[.int .i64 0, .bool false, .int .i64 0, .int .i64 0] 36 (0, 0)))
  rcases atE_cases xs e with ⟨he, ha⟩ | ⟨i, x, rfl, hi, hx, ha⟩
  · refine ⟨true, ?_, fun _ => cond_t rfl ⟨rfl, E4.zero.one, storeK_local rfl ⟨_, cellsH_local rfl, ?_⟩⟩⟩
    · rw [asPo_ptr]
      refine cond_f rfl ?_
      rw [asK_int]
      refine cond_c (fun _ => ⟨rfl, rfl⟩) fun h0 => ?_
      rw [nnK_ptr]
      refine ⟨v, cellH_old (by simpa using hp), ks.sl fun _ _ => ?_⟩
      rw [asK_int]
      simp at h0
      exact ⟨by simp; omega, rfl⟩
    · rw [ha]
      exact ⟨rfl, kp _⟩
  · refine ⟨false, ?_, fun _ => cond_f rfl ?_⟩
    · rw [asPo_ptr]
      refine cond_f rfl ?_
      rw [asK_int]
      refine cond_f (by simp) ?_
      rw [nnK_ptr]
      refine ⟨v, cellH_old (by simpa using hp), ks.sl fun _ _ => ?_⟩
      rw [asK_int]
      exact ⟨by simp; omega, rfl⟩
    · rw [nnK_ptr]
      refine ⟨v, cellH_old (by simpa using hp), ks.rdS E4.len hx ?_⟩
      refine ⟨rfl, x.one, storeK_local rfl ⟨_, cellsH_local rfl, ?_⟩⟩
      rw [ha]
      exact ⟨rfl, kp _⟩

theorem At_law (hp : cellH h ⟨p, 0, none⟩ = some v) (hs : SlAt h 4 v xs.length (fl xs)) (e : Int) (X : List PanicEntry → Hp → Prop) :
    CallX Try.prog ω n_p_pipewrightref_Book_At [.pointer (some ⟨p, 0, none⟩), .int .i64 e] h (fun r h' => r = .tuple #[.agg (atE xs e).1.f.toArray, .bool (atE xs e).2] ∧ Keep (fun _ => False) h h') X := by
  refine C_p_pipewrightref_Book_At ω _ _ h _ X ?_
  unfold W_p_pipewrightref_Book_At
  have kp := fun o => Keep.push (S := fun _ => False) h o
  have ks := hs.keep (kp (.cells #[.int .i64 0, .bool false, .int .i64 0, .int .i64 0] 36 (0, 0)))
  rcases atE_cases xs e with ⟨he, ha⟩ | ⟨i, x, rfl, hi, hx, ha⟩
  · refine ⟨true, ?_, fun _ => cond_t rfl ⟨rfl, E4.zero.one, storeK_local rfl ⟨_, cellsH_local rfl, ?_⟩⟩⟩
    · rw [asK_int]
      refine cond_c (fun _ => ⟨rfl, rfl⟩) fun h0 => ?_
      rw [nnK_ptr]
      refine ⟨v, cellH_old (by simpa using hp), ks.sl fun _ _ => ?_⟩
      rw [asK_int]
      simp at h0
      exact ⟨by simp; omega, rfl⟩
    · rw [ha]
      exact ⟨rfl, kp _⟩
  · refine ⟨false, ?_, fun _ => cond_f rfl ?_⟩
    · rw [asK_int]
      refine cond_f (by simp) ?_
      rw [nnK_ptr]
      refine ⟨v, cellH_old (by simpa using hp), ks.sl fun _ _ => ?_⟩
      rw [asK_int]
      exact ⟨by simp; omega, rfl⟩
    · rw [nnK_ptr]
      refine ⟨v, cellH_old (by simpa using hp), ks.rdS E4.len hx ?_⟩
      refine ⟨rfl, x.one, storeK_local rfl ⟨_, cellsH_local rfl, ?_⟩⟩
      rw [ha]
      exact ⟨rfl, kp _⟩

/-- what may be done with an end -/
def useE (xs : List E4) (e task what : Int) : Int :=
  let x := (atE xs e).1
  if (atE xs e).2 = false then 1
  else if x.h = -2 then (if what = 1 then 2 else if what = 2 then 3 else 6)
  else if x.h ≠ task then (if what = 2 then 4 else 5) else 0

theorem ld4 : (∀ (A B : Value), (#[A, B] : Array Value)[0]? = some A) ∧ (∀ (A B : Value), (#[A, B] : Array Value)[1]? = some B) := ⟨fun _ _ => rfl, fun _ _ => rfl⟩
theorem lf2 (x : E4) {h : Hp} {t : TypeId} {f : Nat × Nat} {K : Value → Prop} (hk : K (.int .i64 x.h)) : ∃ v, cellH (h.push (.cells x.f.toArray t f)) (Addr.add ⟨h.size, 0, none⟩ 2) = some v ∧ K v :=
  ⟨_, by rw [addr_add]; exact cellH_local (cs := x.f) rfl, hk⟩

theorem Use_law (hp : cellH h ⟨p, 0, none⟩ = some v) (hs : SlAt h 4 v xs.length (fl xs)) (e task what : Int) (X : List PanicEntry → Hp → Prop) :
    CallX Try.prog ω n_p_ledger_Ledger_Use [.pointer (some ⟨p, 0, none⟩), .int .i64 e, .int .i64 task, .int .i64 what] h (fun r h' => r = .int .i64 (useE xs e task what) ∧ Keep (fun _ => False) h h') X := by
  refine C_p_ledger_Ledger_Use ω _ _ _ _ h _ X ?_
  unfold W_p_ledger_Ledger_Use
  refine CallX.use (End_law hp hs e) fun r h1 ⟨hr, k1⟩ => ?_
  subst hr
  simp only [asT_tup, ld4, asO_some, asA_agg]
  refine ⟨rfl, (atE xs e).1.one, storeK_local rfl ?_⟩
  have kk := k1.trans (Keep.push h1 (.cells (atE xs e).1.f.toArray 36 (0, 0)))
  rw [asB_bool]
  unfold useE
  generalize atE xs e = r at *
  obtain ⟨x, ok⟩ := r
  refine cond_c (fun ho => ?_) (fun ho => ?_)
  · simp only [Bool.not_eq_true'] at ho
    exact ⟨by simp [ho], kk⟩
  simp only [Bool.not_eq_false'] at ho
  subst ho
  refine ⟨fun v h' => v = .bool (x.h == -2 && what == 1) ∧ h' = h1.push (.cells x.f.toArray 36 (0, 0)), lf2 x ?_, ?_⟩
  · rw [asK_int, asK_int]
    exact cond_c (fun hc => ⟨by rw [hc]; rfl, rfl⟩) (fun hc => ⟨by rw [hc]; rfl, rfl⟩)
  rintro _ _ _ ⟨rfl, rfl⟩
  rw [asB_bool]
  refine cond_c (fun hc => ?_) (fun hc => ?_)
  · simp at hc
    exact ⟨by simp [hc], kk⟩
  refine ⟨fun v h' => v = .bool (x.h == -2 && what == 2) ∧ h' = h1.push (.cells x.f.toArray 36 (0, 0)), lf2 x ?_, ?_⟩
  · rw [asK_int, asK_int]
    exact cond_c (fun hc => ⟨by rw [hc]; rfl, rfl⟩) (fun hc => ⟨by rw [hc]; rfl, rfl⟩)
  rintro _ _ _ ⟨rfl, rfl⟩
  rw [asB_bool]
  refine cond_c (fun hd => ?_) (fun hd => lf2 x ?_)
  · simp at hd
    exact ⟨by simp [hd], kk⟩
  rw [asK_int]
  refine cond_c (fun h2 => ?_) (fun h2 => ?_)
  · simp at h2
    simp [h2] at hc hd
    exact ⟨by simp [h2, hc, hd], kk⟩
  simp at h2
  refine ⟨fun v h' => v = .bool (x.h != task && what == 2) ∧ h' = h1.push (.cells x.f.toArray 36 (0, 0)), lf2 x ?_, ?_⟩
  · rw [asK_int, asK_int, asK_int]
    exact cond_c (fun hc => ⟨by rw [hc]; rfl, rfl⟩) (fun hc => ⟨by rw [hc]; rfl, rfl⟩)
  rintro _ _ _ ⟨rfl, rfl⟩
  rw [asB_bool]
  refine cond_c (fun h3 => ?_) (fun h3 => lf2 x ?_)
  · simp at h3
    exact ⟨by simp [h2, h3], kk⟩
  rw [asK_int, asK_int]
  refine cond_c (fun h4 => ?_) (fun h4 => ?_)
  · simp at h4
    simp [h4] at h3
    exact ⟨by simp [h2, h3, h4], kk⟩
  · simp at h4
    exact ⟨by simp [h4, h4 ▸ h2], kk⟩

theorem pick_law (what : Int) (h : Hp) (X : List PanicEntry → Hp → Prop) :
    CallX Try.prog ω n_pipewrightref_pickWhat [.int .i64 what] h (fun r h' => r = .int .i64 (if what = 1 ∨ what = 2 then what else 0) ∧ h' = h) X := by
  refine C_pipewrightref_pickWhat ω _ h _ X ?_
  unfold W_pipewrightref_pickWhat
  refine ⟨what == 1 || what == 2, ?_, fun _ => ?_⟩
  · rw [asK_int, asK_int]
    exact cond_c (fun hc => ⟨by rw [hc]; rfl, rfl⟩) (fun hc => ⟨by rw [hc]; rfl, rfl⟩)
  · refine cond_c (fun hc => ⟨?_, rfl⟩) (fun hc => ⟨?_, rfl⟩)
    · simp at hc
      rw [if_pos hc]
    · simp at hc
      rw [if_neg (by omega)]

theorem three (h : Hp) (a b c what : Int) {t : TypeId} {K : Value → Prop} (hk : K (.int .i64 (if what = 1 then b else if what = 2 then c else a))) :
    asI (.int .i64 (if what = 1 ∨ what = 2 then what else 0)) fun n => 0 ≤ (n : Int) ∧ n < (3 : Int) ∧ ∃ v, cellH (Array.push h (.cells (List.toArray [(.int .i64 a), (.int .i64 b), (.int .i64 c)]) t (0, 0))) (Addr.add ⟨Array.size h, 0, none⟩ (Int.toNat n * 1)) = some v ∧ K v := by
  rw [asI_int]
  by_cases h1 : what = 1
  · subst h1
    simp only [true_or, if_true] at *
    exact ⟨by omega, by omega, _, by rw [addr_add]; exact cellH_local (v := .int .i64 b) rfl, hk⟩
  · by_cases h2 : what = 2
    · subst h2
      simp only [or_true, if_true] at *
      rw [if_neg h1] at hk
      exact ⟨by omega, by omega, _, by rw [addr_add]; exact cellH_local (v := .int .i64 c) rfl, hk⟩
    · rw [if_neg h1, if_neg h2] at hk
      rw [if_neg (by omega)]
      exact ⟨by omega, by omega, _, by rw [addr_add]; exact cellH_local (v := .int .i64 a) rfl, hk⟩

theorem BUse_law (hp : cellH h ⟨p, 0, none⟩ = some v) (hs : SlAt h 4 v xs.length (fl xs)) (e task what : Int) (X : List PanicEntry → Hp → Prop) :
    CallX Try.prog ω n_p_pipewrightref_Book_Use [.pointer (some ⟨p, 0, none⟩), .int .i64 e, .int .i64 task, .int .i64 what] h (fun r h' => r = .int .i64 (useE xs e task what) ∧ Keep (fun _ => False) h h') X := by
  refine C_p_pipewrightref_Book_Use ω _ _ _ _ h _ X ?_
  unfold W_p_pipewrightref_Book_Use
  refine CallX.use (At_law hp hs e) fun r h1 ⟨hr, k1⟩ => ?_
  subst hr
  simp only [asT_tup, ld4, asO_some, asA_agg]
  refine ⟨rfl, (atE xs e).1.one, storeK_local rfl ?_⟩
  have kk := k1.trans (Keep.push h1 (.cells (atE xs e).1.f.toArray 36 (0, 0)))
  rw [asB_bool]
  unfold useE
  generalize atE xs e = r at *
  obtain ⟨x, ok⟩ := r
  refine cond_c (fun ho => ?_) (fun ho => lf2 x ?_)
  · simp only [Bool.not_eq_true'] at ho
    exact ⟨by simp [ho], kk⟩
  simp only [Bool.not_eq_false'] at ho
  subst ho
  rw [asK_int]
  refine cond_c (fun h2 => ?_) (fun h2 => lf2 x ?_)
  · simp at h2
    refine CallX.use (pick_law what _) ?_
    rintro _ _ ⟨rfl, rfl⟩
    refine three _ 6 2 3 what ⟨by simp [h2], kk.trans (Keep.push _ _)⟩
  · simp at h2
    rw [asK_int, asK_int]
    refine cond_c (fun h3 => ?_) (fun h3 => ?_)
    · simp at h3
      refine CallX.use (pick_law what _) ?_
      rintro _ _ ⟨rfl, rfl⟩
      refine three _ 5 5 4 what ⟨?_, kk.trans (Keep.push _ _)⟩
      by_cases h1 : what = 1
      · subst h1; simp [h2, h3]
      · simp [h2, h3, h1]
    · simp at h3
      exact ⟨by simp [h3, h3 ▸ h2], kk⟩
end
end Go.Proofs.Ytipgilfbhceknaa
