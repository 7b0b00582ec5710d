/- What is read of all ends: contracts. -/
import Derived.Test.YtipgilfbhceknaaLedger2
namespace Go.Proofs.Ytipgilfbhceknaa
open Go Go.Sx Go.Proofs.Ytipgilfbhceknaa.Sx
variable {ω : Amb}

/-- the numbers, from k on, of the ends that have a home -/
def ofE : List E4 → Nat → Int → List Int
  | [], _, _ => []
  | x :: xs, k, home => if x.h = home then (k : Int) :: ofE xs (k + 1) home else ofE xs (k + 1) home
theorem ofE_len : ∀ (xs : List E4) (k : Nat) (home : Int), (ofE xs k home).length ≤ xs.length
  | [], _, _ => by simp [ofE]
  | x :: xs, k, home => by
    have := ofE_len xs (k + 1) home
    unfold ofE
    split <;> simp <;> omega
def iv (l : List Int) : List Value := l.map (.int .i64)

section
variable {h : Hp} {p : Nat} {v : Value} {xs : List E4}
/-- between the rounds of 'Of' -/
structure OfI (h h' : Hp) (xs : List E4) (home : Int) (out i : Value) : Prop where
  has : ∃ (j : Nat) (acc : List Int), j ≤ xs.length ∧ i = .int .i64 j ∧ acc.length ≤ j ∧ acc ++ ofE (xs.drop j) j home = ofE xs 0 home ∧ OwnH h' h.size 3 1 out acc.length (iv acc)
  keep : Keep (fun _ => False) h h'
theorem drop_at {α : Type} {xs : List α} {j : Nat} {x : α} (hx : xs[j]? = some x) : xs.drop j = x :: xs.drop (j + 1) := by
  obtain ⟨hl, rfl⟩ := List.getElem?_eq_some_iff.1 hx
  exact List.drop_eq_getElem_cons hl

/-- one number more -/
theorem app_int {h h1 : Hp} {out : Value} {acc : List Int} {n : Int} {K : Value → Hp → Prop} (k1 : Keep (fun _ => False) h h1) (ho : OwnH h1 h.size 3 1 out acc.length (iv acc)) (hn : acc.length ≤ 1000000000)
    (hk : ∀ w h', OwnH h' h.size 3 1 w (acc ++ [n]).length (iv (acc ++ [n])) → Keep (fun _ => False) h h' → K w h') :
    appK Try.prog 28 (Array.push h1 (.cells (List.toArray [.int .i64 n]) 3 (0, 0))) out (.slice (some ⟨Array.size h1, 0, none⟩) 1 1) K := by
  refine appK_one (bt := 8) (by kernel_rfl) ho rfl (by intro u hu; simp at hu; subst hu; rfl) (by omega) (by omega) k1.size fun w h' ho' hg _ _ => hk w h' ?_ ?_
  · simpa [iv] using ho'
  · refine k1.newer ((Keep.grown (S := fun k => h.size ≤ k) hg fun k hk' _ => (ho.lt k hk').1).mono fun k _ hk => .inr hk)

theorem Of_law (hp : cellH h ⟨p, 0, none⟩ = some v) (hs : SlAt h 4 v xs.length (fl xs)) (hn : xs.length ≤ 1000000000) (home : Int) (X : List PanicEntry → Hp → Prop) :
    CallX Try.prog ω n_p_ledger_Ledger_Of [.pointer (some ⟨p, 0, none⟩), .int .i64 home] h
      (fun r h' => OwnH h' h.size 3 1 r (ofE xs 0 home).length (iv (ofE xs 0 home)) ∧ Keep (fun _ => False) h h') X := by
  refine C_p_ledger_Ledger_Of ω _ _ h _ X ?_
  unfold W_p_ledger_Ledger_Of
  rw [asPo_ptr]
  refine cond_f rfl ?_
  rw [nnK_ptr]
  refine ⟨v, by rw [addr_add]; exact hp, hs.sl fun _ _ => ?_⟩
  refine ⟨fun out i h' => OfI h h' xs home out i, fun _ i _ => match i with | .int _ j => xs.length - j.toNat | _ => 0, ⟨⟨0, [], by omega, rfl, by simp, by simp, OwnH.nil⟩, Keep.refl _ _⟩, ?_⟩
  rintro out i _ h1 ⟨⟨j, acc, hj, rfl, hal, hacc, ho⟩, k1⟩
  rw [asK_int]
  refine cond_c (fun hlt => ?_) (fun hge => ?_)
  · have hlt : j < xs.length := by simpa using hlt
    have hx := List.getElem?_eq_getElem hlt
    generalize xs[j] = x at hx
    have hd := drop_at hx
    rw [hd, ofE] at hacc
    refine ⟨fun out' h' => OfI h h' xs home out' (.int .i64 ((j + 1 : Nat) : Int)), ?_, ?_⟩
    · refine (hs.keep k1).rdS E4.len hx ⟨rfl, x.one, storeK_local rfl (lf2 x ?_)⟩
      have k2 := k1.trans (Keep.push h1 (.cells x.f.toArray 36 (0, 0)))
      have ho2 := ho.push (.cells x.f.toArray 36 (0, 0))
      rw [asK_int, asK_int]
      refine ⟨fun out' h' => OfI h h' xs home out' (.int .i64 ((j + 1 : Nat) : Int)), cond_c (fun hh => ?_) (fun hh => ?_), fun _ _ _ hi => hi⟩
      · rw [oneK_int]
        rw [if_pos (by simpa using hh)] at hacc
        refine app_int k2 ho2 (by omega) fun w h' how kw => ⟨⟨j + 1, _, by omega, rfl, by simp; omega, by simpa using hacc, how⟩, kw⟩
      · rw [if_neg (by simpa using hh)] at hacc
        exact ⟨⟨j + 1, acc, by omega, rfl, by omega, hacc, ho2⟩, k2⟩
    · rintro out' _ h2 hi
      rw [asK_int, i64_in (by omega) (by omega)]
      exact ⟨hi, by simp; omega⟩
  · have hge : j = xs.length := by simp at hge; omega
    subst hge
    rw [List.drop_length, ofE, List.append_nil] at hacc
    subst hacc
    exact ⟨ho, k1⟩

theorem BOf_law (hp : cellH h ⟨p, 0, none⟩ = some v) (hs : SlAt h 4 v xs.length (fl xs)) (hn : xs.length ≤ 1000000000) (home : Int) (X : List PanicEntry → Hp → Prop) :
    CallX Try.prog ω n_p_pipewrightref_Book_Of [.pointer (some ⟨p, 0, none⟩), .int .i64 home] h
      (fun r h' => OwnH h' h.size 3 1 r (ofE xs 0 home).length (iv (ofE xs 0 home)) ∧ Keep (fun _ => False) h h') X := by
  refine C_p_pipewrightref_Book_Of ω _ _ h _ X ?_
  unfold W_p_pipewrightref_Book_Of
  refine ⟨fun out i h' => OfI h h' xs home out i, fun _ i _ => match i with | .int _ j => xs.length - j.toNat | _ => 0, ⟨⟨0, [], by omega, rfl, by simp, by simp, OwnH.nil⟩, Keep.refl _ _⟩, ?_⟩
  rintro out i _ h1 ⟨⟨j, acc, hj, rfl, hal, hacc, ho⟩, k1⟩
  have hs1 := hs.keep k1
  have hp1 := k1.cell hp (by simp)
  rw [nnK_ptr]
  refine ⟨v, by rw [addr_add]; exact hp1, hs1.sl fun _ _ => ?_⟩
  rw [asK_int]
  refine cond_c (fun hlt => ?_) (fun hge => ?_)
  · have hlt : j < xs.length := by simpa using hlt
    have hx := List.getElem?_eq_getElem hlt
    generalize xs[j] = x at hx
    have hd := drop_at hx
    rw [hd, ofE] at hacc
    refine ⟨fun out' h' => OfI h h' xs home out' (.int .i64 ((j + 1 : Nat) : Int)), ?_, ?_⟩
    · rw [nnK_ptr]
      refine ⟨v, by rw [addr_add]; exact hp1, SlAt.rdT hs1 E4.len hx (o := 2) (u := .int .i64 x.h) rfl ?_⟩
      rw [asK_int, asK_int]
      refine ⟨fun out' h' => OfI h h' xs home out' (.int .i64 ((j + 1 : Nat) : Int)), cond_c (fun hh => ?_) (fun hh => ?_), fun _ _ _ hi => hi⟩
      · rw [oneK_int]
        rw [if_pos (by simpa using hh)] at hacc
        refine app_int k1 ho (by omega) fun w h' how kw => ⟨⟨j + 1, _, by omega, rfl, by simp; omega, by simpa using hacc, how⟩, kw⟩
      · rw [if_neg (by simpa using hh)] at hacc
        exact ⟨⟨j + 1, acc, by omega, rfl, by omega, hacc, ho⟩, k1⟩
    · rintro out' _ h2 hi
      rw [asK_int, i64_in (by omega) (by omega)]
      exact ⟨hi, by simp; omega⟩
  · have hge : j = xs.length := by simp at hge; omega
    subst hge
    rw [List.drop_length, ofE, List.append_nil] at hacc
    subst hacc
    exact ⟨ho, k1⟩

theorem Clone_law (hs : SlAt h 4 v xs.length (fl xs)) (hv : v = .slice none 0 0 ∨ ∃ a l c, v = .slice (some a) l c) (hn : xs.length ≤ 1000000000) (X : List PanicEntry → Hp → Prop) :
    CallX Try.prog ω n_slices_Clone_sl_api_End_api_End [v] h (fun r h' => OwnH h' h.size 36 4 r xs.length (fl xs) ∧ Keep (fun _ => False) h h') X := by
  refine C_slices_Clone_sl_api_End_api_End ω _ h _ X ?_
  unfold W_slices_Clone_sl_api_End_api_End
  rcases hv with rfl | ⟨a, l, c, rfl⟩
  · rw [asSl_sl]
    refine cond_t rfl ?_
    rcases hs.2 with ⟨h0, _⟩ | ⟨_, _, _, h1, _⟩
    · have : xs = [] := List.eq_nil_of_length_eq_zero h0
      subst this
      exact ⟨OwnH.nil, Keep.refl _ _⟩
    · cases h1
  · rw [asSl_sl]
    refine cond_f rfl ?_
    have ks := hs.keep (Keep.push (S := fun _ => False) h (.cells (List.toArray []) 36 (0, 0)))
    have hown : OwnH (h.push (.cells (List.toArray []) 36 (0, 0))) h.size 36 4 (.slice (some ⟨h.size, 0, none⟩) 0 0) 0 [] :=
      ⟨rfl, .inr ⟨h.size, 0, 0, _, rfl, Nat.le_refl _, hp_push_new, Nat.le_refl _, by decide, by simp, by simp⟩⟩
    refine appK_of (bt := 32) (m := xs.length) (news := fl xs) (by kernel_rfl) hown ?_ ?_ (by omega) (by omega) (by simp) fun w h' how hg _ _ => ?_
    · refine ⟨ks.1, .inr ?_⟩
      rcases ks.2 with ⟨h0, a', c', h1⟩ | ⟨b, o, cap, h1, hc⟩
      · cases h1
        refine ⟨a, c, by rw [h0], fun j u hu => ?_⟩
        have : xs = [] := List.eq_nil_of_length_eq_zero h0
        subst this
        simp at hu
      · cases h1
        exact ⟨_, _, rfl, fun j u hu => by rw [addr_add]; exact hc j u hu⟩
    · intro u hu
      obtain ⟨e, _, hu⟩ := List.mem_flatMap.1 hu
      exact e.one u hu
    · rw [Nat.zero_add, List.nil_append] at how
      exact ⟨how, Keep.newer (Keep.push h _) (Keep.grown hg (fun k hk _ => .inr (by simp [Value.ownBlock] at hk; omega)))⟩

theorem OwnH.nilOr {h : Hp} {base n sz : Nat} {t : TypeId} {v : Value} {ys : List Value} (ho : OwnH h base t sz v n ys) : v = .slice none 0 0 ∨ ∃ a l c, v = .slice (some a) l c := by
  rcases ho.2 with ⟨rfl, _⟩ | ⟨_, _, _, _, rfl, _⟩
  · exact .inl rfl
  · exact .inr ⟨_, _, _, rfl⟩

theorem All_law {base : Nat} (hl : Led base h p v xs) (hn : xs.length ≤ 1000000000) (X : List PanicEntry → Hp → Prop) :
    CallX Try.prog ω n_p_ledger_Ledger_All [.pointer (some ⟨p, 0, none⟩)] h (fun r h' => OwnH h' h.size 36 4 r xs.length (fl xs) ∧ Keep (fun _ => False) h h') X := by
  refine C_p_ledger_Ledger_All ω _ h _ X ?_
  unfold W_p_ledger_Ledger_All
  rw [asPo_ptr]
  refine cond_f rfl ?_
  rw [nnK_ptr]
  refine ⟨v, by rw [addr_add]; exact hl.cell, ?_⟩
  exact CallX.use (Clone_law hl.own.slAt (OwnH.nilOr hl.own) hn) fun _ _ hh => hh

theorem SameInts_law {va vb : Value} {l : List Int} (ha : SlAt h 1 va l.length (iv l)) (hb : SlAt h 1 vb l.length (iv l)) (hn : l.length ≤ 1000000000) (X : List PanicEntry → Hp → Prop) :
    CallX Try.prog ω n_pipewrightref_SameInts [va, vb] h (fun r h' => r = .bool true ∧ h' = h) X := by
  refine C_pipewrightref_SameInts ω _ _ h _ X ?_
  unfold W_pipewrightref_SameInts
  refine ha.sl fun _ _ => hb.sl fun _ _ => cond_f (by simp) ?_
  refine ⟨fun i h' => (∃ j : Nat, j ≤ l.length ∧ i = .int .i64 j) ∧ h' = h, fun i _ => match i with | .int _ j => l.length - j.toNat | _ => 0, ⟨⟨0, by omega, rfl⟩, rfl⟩, ?_⟩
  rintro i _ _ ⟨⟨j, hj, rfl⟩, rfl⟩
  refine ha.sl fun _ _ => ?_
  rw [asK_int]
  refine cond_c (fun hlt => ?_) (fun hge => ⟨rfl, rfl⟩)
  have hlt : j < l.length := by simpa using hlt
  have hu : (iv l)[j]? = some (.int .i64 l[j]) := by simp [iv, List.getElem?_eq_getElem hlt]
  refine ha.rd1 hu (hb.rd1 hu ?_)
  rw [asK_int, asK_int]
  refine cond_f (by simp) ?_
  rw [asK_int, i64_in (by omega) (by omega)]
  exact ⟨⟨⟨j + 1, by omega, rfl⟩, rfl⟩, by simp; omega⟩

theorem SameEnds_law {va vb : Value} (ha : SlAt h 4 va xs.length (fl xs)) (hb : SlAt h 4 vb xs.length (fl xs)) (hn : xs.length ≤ 1000000000) (X : List PanicEntry → Hp → Prop) :
    CallX Try.prog ω n_pipewrightref_SameEnds [va, vb] h (fun r h' => r = .bool true ∧ h' = h) X := by
  refine C_pipewrightref_SameEnds ω _ _ h _ X ?_
  unfold W_pipewrightref_SameEnds
  refine ha.sl fun _ _ => hb.sl fun _ _ => cond_f (by simp) ?_
  refine ⟨fun i h' => (∃ j : Nat, j ≤ xs.length ∧ i = .int .i64 j) ∧ h' = h, fun i _ => match i with | .int _ j => xs.length - j.toNat | _ => 0, ⟨⟨0, by omega, rfl⟩, rfl⟩, ?_⟩
  rintro i _ _ ⟨⟨j, hj, rfl⟩, rfl⟩
  refine ha.sl fun _ _ => ?_
  rw [asK_int]
  refine cond_c (fun hlt => ?_) (fun hge => ⟨rfl, rfl⟩)
  have hlt : j < xs.length := by simpa using hlt
  have hx := List.getElem?_eq_getElem hlt
  generalize xs[j] = x at hx
  refine ha.rdS E4.len hx (hb.rdS E4.len hx ?_)
  simp only [E4.f, ld]
  refine cond_f (by simp) ?_
  rw [i64_in (by omega) (by omega)]
  exact ⟨⟨⟨j + 1, by omega, rfl⟩, trivial⟩, by simp; omega⟩

theorem Begun_law (h : Hp) (X : List PanicEntry → Hp → Prop) : CallX Try.prog ω n_pipewrightlaw_ledgerBegun [] h (fun r h' => r = .bool true ∧ Keep (fun _ => False) h h') X := by
  refine C_pipewrightlaw_ledgerBegun ω h _ X ?_
  unfold W_pipewrightlaw_ledgerBegun
  refine CallX.use (New_law h) ?_
  rintro _ h1 ⟨rfl, hh1⟩
  have l1 := Led.new h
  rw [← hh1] at l1
  have k1 : Keep (fun _ => False) h h1 := by rw [hh1]; exact Keep.push _ _
  refine ⟨fun r h' => r = .bool true ∧ Keep (fun _ => False) h h', ?_, fun _ _ _ hh => hh⟩
  refine CallX.use (Born_law l1 (by simp) k1.size 3 true 0) ?_
  rintro _ h2 (⟨hh, _⟩ | ⟨_, rfl, v2, l2, k2, f2⟩)
  · omega
  have k2 : Keep (fun _ => False) h h2 := k1.newer (k2.mono fun k _ hk => .inr (by rcases hk with rfl | hk; exact Nat.le_refl _; simp [Value.ownBlock] at hk))
  simp only [List.nil_append] at l2
  rw [asK_int]
  refine cond_t rfl (CallX.use (Use_law l2.cell l2.own.slAt 0 1 2) ?_)
  rintro _ h3 ⟨rfl, k3⟩
  rw [asK_int]
  have l3 := l2.more k3
  refine cond_t rfl (CallX.use (Gone_law l3 0) ?_)
  rintro _ h4 ⟨rfl, l4, k4⟩
  rw [asB_bool]
  have n4 : Keep (fun _ => False) h h4 := (k2.trans k3).newer (k4.mono fun k _ hk => .inr ((l3.own.lt k hk).1))
  refine cond_t rfl (CallX.use (Gone_law l4 0) ?_)
  rintro _ h5 ⟨rfl, l5, k5⟩
  rw [asB_bool]
  have n5 : Keep (fun _ => False) h h5 := n4.newer (k5.mono fun k _ hk => .inr ((l4.own.lt k hk).1))
  refine cond_t rfl (CallX.use (Use_law l5.cell l5.own.slAt 0 0 1) ?_)
  rintro _ h6 ⟨rfl, k6⟩
  rw [asK_int]
  exact ⟨rfl, n5.trans k6⟩
end
end Go.Proofs.Ytipgilfbhceknaa
