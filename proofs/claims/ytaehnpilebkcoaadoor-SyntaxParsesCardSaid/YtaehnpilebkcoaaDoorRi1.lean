/- Tokens that Scan tells: what is true of each. -/
import Derived.Test.YtaehnpilebkcoaaDoorRn9
import Derived.Test.YtaehnpilebkcoaaDoorRx1
import Derived.Test.YtaehnpilebkcoaaDoorRx2
namespace Go.Proofs.YtaehnpilebkcoaaDoor
open Go Go.Sx Go.Sx.Tk Go.Sx.Rn Go.Proofs.YtaehnpilebkcoaaDoor.Sx

/-- a token as Scan tells it -/
def TkOk (t : Tok) : Prop := t.kind = 1 ∨ (t.kind = 2 ∧ isNameB t.text = true) ∨ (t.kind = 3 ∧ (∃ c r, bytesOf t.text = c :: r ∧ Tk.dg c = true) ∧ 0 ≤ t.n ∧ t.n < 1000000000000000000) ∨ (t.kind = 4 ∧ ∃ c r, bytesOf t.text = c :: r ∧ lo c = false)
theorem dg_val {c : UInt8} (h : Tk.dg c = true) : 0 ≤ (c.toNat : Int) - 48 ∧ (c.toNat : Int) - 48 ≤ 9 := by
  unfold Tk.dg at h
  rw [Bool.and_eq_true, decide_eq_true_eq, decide_eq_true_eq] at h
  omega
theorem fold_bound : ∀ (l : List UInt8) (acc : Int) (k : Int), l.all Tk.dg = true → 0 ≤ acc → acc + 1 ≤ k → 0 ≤ l.foldl (fun n c => 10 * n + ((c.toNat : Int) - 48)) acc ∧ l.foldl (fun n c => 10 * n + ((c.toNat : Int) - 48)) acc + 1 ≤ k * 10 ^ l.length
  | [], acc, k, _, h0, h1 => by simpa using ⟨h0, h1⟩
  | c :: l, acc, k, ha, h0, h1 => by
    rw [List.all_cons, Bool.and_eq_true] at ha
    have hc := dg_val ha.1
    have := fold_bound l (10 * acc + ((c.toNat : Int) - 48)) (10 * k) ha.2 (by omega) (by omega)
    rw [List.foldl_cons, List.length_cons, Int.pow_succ, show k * (10 ^ l.length * 10) = 10 * k * 10 ^ l.length by rw [← Int.mul_assoc, Int.mul_comm _ 10, ← Int.mul_assoc]]
    exact this
theorem numL_bound {l : List UInt8} {n : Int} (h : numL l = some n) : 0 ≤ n ∧ n < 1000000000000000000 := by
  unfold numL at h
  split at h
  · cases h
  · rename_i hc
    cases h
    rw [not_or, not_or] at hc
    obtain ⟨h1, h2, h3⟩ := hc
    have := fold_bound l 0 1 (by simpa using h3) (by omega) (by omega)
    unfold valD
    refine ⟨this.1, ?_⟩
    have hp : (10 : Int) ^ l.length ≤ 10 ^ 18 := by
      have : (10 : Nat) ^ l.length ≤ 10 ^ 18 := Nat.pow_le_pow_right (by omega) (by omega)
      exact_mod_cast this
    have h18 : (10 : Int) ^ 18 = 1000000000000000000 := by decide
    omega
theorem run_all : ∀ l : List UInt8, (l.take (run l)).all Tk.ld = true := by
  intro l
  unfold run
  induction l with
  | nil => rfl
  | cons c r ih =>
    rw [List.takeWhile_cons]
    split
    · rename_i hc
      rw [List.length_cons, List.take_succ_cons, List.all_cons, hc, ih]
      rfl
    · rfl
theorem run_le : ∀ l : List UInt8, run l ≤ l.length := by
  intro l
  unfold run
  induction l with
  | nil => exact Nat.le_refl _
  | cons c r ih =>
    rw [List.takeWhile_cons]
    split
    · rw [List.length_cons, List.length_cons]
      omega
    · exact Nat.zero_le _
theorem run_pos {c : UInt8} {r : List UInt8} (h : Tk.ld c = true) : run (c :: r) = run r + 1 := by
  unfold run
  rw [List.takeWhile_cons, if_pos h, List.length_cons]
theorem one_ok {c : UInt8} {r : List UInt8} {kind n : Int} {len : Nat} {a : Int} (h : oneL 2 3 4 (c :: r) = .tok kind len n) : TkOk ⟨kind, a, ⟨((c :: r).take len).toArray⟩, n⟩ := by
  have hb : ∀ l : List UInt8, bytesOf ⟨l.toArray⟩ = l := fun l => rfl
  rw [oneL_cons] at h
  split at h
  · rename_i hlo
    have hld : Tk.ld c = true := by unfold Tk.ld; rw [hlo]; rfl
    split at h
    · cases h
      exact .inl rfl
    · rename_i hw
      split at h
      · cases h
      · rename_i h12
        cases h
        refine .inr (.inl ⟨rfl, ?_⟩)
        have hal := run_all (c :: r)
        have hle := run_le (c :: r)
        have hpos := run_pos (r := r) hld
        generalize hk : run (c :: r) = k at *
        unfold isNameB nameHead cAt
        show ((decide (0 < ((c :: r).take k).toArray.size) && (decide (((c :: r).take k).toArray.size ≤ 12) && (lo (((c :: r).take k).getD 0 0) && !isWord ((c :: r).take k)))) && ((c :: r).take k).all ld) = true
        have hs : ((c :: r).take k).toArray.size = k := by
          rw [List.size_toArray, List.length_take]
          omega
        rw [hs, hal, decide_eq_true (show 0 < k by omega), decide_eq_true (show k ≤ 12 by omega)]
        rw [hpos, List.take_succ_cons]
        rw [hpos, List.take_succ_cons] at hw
        rw [show (c :: r.take (run r)).getD 0 0 = c from rfl, hlo]
        simpa using hw
  split at h
  · rename_i hdg
    have hld : Tk.ld c = true := by unfold Tk.ld; rw [hdg, Bool.or_true]
    split at h
    · cases h
    · rename_i m hm
      cases h
      refine .inr (.inr (.inl ⟨rfl, ⟨c, r.take (run r), ?_, hdg⟩, numL_bound hm⟩))
      rw [hb, run_pos hld, List.take_succ_cons]
  rename_i hlo _
  have hlo : lo c = false := by simpa using hlo
  split at h
  · refine .inr (.inr (.inr ⟨?_, ?_⟩))
    · split at h
      · split at h <;> cases h <;> rfl
      · cases h
        rfl
    · split at h
      · split at h
        · cases h
          exact ⟨c, _, by rw [hb, List.take_succ_cons], hlo⟩
        · cases h
          exact ⟨c, _, by rw [hb, List.take_succ_cons], hlo⟩
      · cases h
        exact ⟨c, _, by rw [hb, List.take_succ_cons], hlo⟩
  split at h
  · cases h
    exact .inr (.inr (.inr ⟨rfl, c, _, by rw [hb, List.take_succ_cons], hlo⟩))
  · cases h
theorem sc_ok {l : List UInt8} {a : Int} {res : Res} (h : Scans 2 3 4 l a res) : ∀ ts, res = .ok ts → ∀ t ∈ ts, TkOk t := by
  induction h with
  | stop _ => rintro _ ⟨⟩ t ht; cases ht
  | bad _ _ => rintro _ ⟨⟩
  | tok h1 e1 k1 ih =>
    rintro _ ⟨⟩ t ht
    rcases List.mem_cons.1 ht with rfl | ht
    · exact one_ok e1
    · exact ih _ rfl t ht
  | fail _ _ _ _ => rintro _ ⟨⟩
/-- a word or a sign stands next, as the document's parser asks it -/
def seesB (s : List UInt8) : List Tok → Bool
  | [] => false
  | t :: _ => bytesOf t.text == s && (t.kind == 1 || t.kind == 4)
theorem sees_isT {s : List UInt8} (hs : ∃ c r, s = c :: r ∧ Tk.dg c = false) {ts : List Tok} (h : ∀ t ∈ ts, TkOk t) : seesB s ts = isT s ts := by
  cases ts with
  | nil => rfl
  | cons t r =>
    show (bytesOf t.text == s && (t.kind == 1 || t.kind == 4)) = (t.kind != 2 && bytesOf t.text == s)
    rcases h t List.mem_cons_self with hk | ⟨hk, _⟩ | ⟨hk, ⟨c, l, hb, hc⟩, _⟩ | ⟨hk, _⟩
    · rw [hk]
      simp
    · rw [hk]
      simp
    · obtain ⟨c', l', rfl, hc'⟩ := hs
      have : (bytesOf t.text == c' :: l') = false := by
        rw [hb, beq_eq_false_iff_ne]
        intro e
        cases e
        rw [hc] at hc'
        cases hc'
      rw [this]
      simp
    · rw [hk]
      simp
end Go.Proofs.YtaehnpilebkcoaaDoor

namespace Go.Proofs.YtaehnpilebkcoaaDoor
open Go Go.Sx Go.Sx.Tk Go.Sx.Rn Go.Proofs.YtaehnpilebkcoaaDoor.Sx

/- The number of all tokens is fixed from outside: it stands as what Nat holds by default. -/
def rds (vl : Value) (at_ e c a n p : Int) : List Value := [vl, .int .i64 at_, .int .i64 e, .int .i64 c, .int .i64 a, .int .i64 n, .int .i64 p]
/-- all tokens, and how many were read -/
structure RT [Inhabited Nat] (h : Hp) (G : Nat) (all : List Tok) (at_ : Nat) (vl : Value) : Prop where
  tk : TkS h G vl all
  le : at_ ≤ all.length
  ok : ∀ t ∈ all, TkOk t
  sz : all.length ≤ 12000
  all_ : all.length = (default : Nat)
/-- nothing went wrong: how many statements and parts there were, what is left -/
structure RG [Inhabited Nat] (h : Hp) (G : Nat) (e : Int) (n p : Nat) (ts : List Tok) : Prop where
  ex : ∃ vl all at_ a, h[G]? = some (.cells (rds vl ((at_ : Nat) : Int) e 0 a n p).toArray 75 (0, 0)) ∧ RT h G all at_ vl ∧ all.drop at_ = ts
/-- a fault was met -/
structure RB [Inhabited Nat] (h : Hp) (G : Nat) (e : Int) (x : Int × Int) : Prop where
  ne : x.1 ≠ 0
  ex : ∃ vl all at_ n p, h[G]? = some (.cells (rds vl ((at_ : Nat) : Int) e x.1 x.2 n p).toArray 75 (0, 0)) ∧ RT h G all at_ vl
theorem RT.keep [Inhabited Nat] {h h' : Hp} {S : Nat → Prop} {G : Nat} {all : List Tok} {at_ : Nat} {vl : Value} (hs : RT h G all at_ vl) (k : Keep S h h') (hn : ∀ b, b < G → ¬ S b) : RT h' G all at_ vl := ⟨hs.tk.keep k hn, hs.le, hs.ok, hs.sz, hs.all_⟩
theorem RG.keep [Inhabited Nat] {h h' : Hp} {S : Nat → Prop} {G : Nat} {e : Int} {n p : Nat} {ts : List Tok} (hs : RG h G e n p ts) (k : Keep S h h') (hn : ∀ b, b ≤ G → ¬ S b) : RG h' G e n p ts := by
  obtain ⟨vl, all, at_, a, h1, h2, h3⟩ := hs.ex
  exact ⟨vl, all, at_, a, k.get h1 (hn G (Nat.le_refl _)), h2.keep k fun b hb => hn b (by omega), h3⟩
theorem RB.keep [Inhabited Nat] {h h' : Hp} {S : Nat → Prop} {G : Nat} {e : Int} {x : Int × Int} (hs : RB h G e x) (k : Keep S h h') (hn : ∀ b, b ≤ G → ¬ S b) : RB h' G e x := by
  obtain ⟨vl, all, at_, n, p, h1, h2⟩ := hs.ex
  exact ⟨hs.ne, vl, all, at_, n, p, k.get h1 (hn G (Nat.le_refl _)), h2.keep k fun b hb => hn b (by omega)⟩
theorem RG.lt [Inhabited Nat] {h : Hp} {G : Nat} {e : Int} {n p : Nat} {ts : List Tok} (hs : RG h G e n p ts) : G < h.size := by
  obtain ⟨vl, all, at_, a, h1, _⟩ := hs.ex
  exact hp_lt h1
theorem RB.lt [Inhabited Nat] {h : Hp} {G : Nat} {e : Int} {x : Int × Int} (hs : RB h G e x) : G < h.size := by
  obtain ⟨vl, all, at_, n, p, h1, _⟩ := hs.ex
  exact hp_lt h1
theorem RT.nil [Inhabited Nat] {h : Hp} {G : Nat} {all : List Tok} {at_ : Nat} {vl : Value} (hs : RT h G all at_ vl) (hd : all.drop at_ = []) : at_ = all.length := by
  have := List.drop_eq_nil_iff.1 hd
  have := hs.le
  omega
theorem RT.cons [Inhabited Nat] {h : Hp} {G : Nat} {all : List Tok} {at_ : Nat} {vl : Value} {t : Tok} {r : List Tok} (_ : RT h G all at_ vl) (hd : all.drop at_ = t :: r) : all[at_]? = some t ∧ at_ < all.length ∧ all.drop (at_ + 1) = r := by
  have hl : at_ < all.length := by
    have := congrArg List.length hd
    simp only [List.length_drop, List.length_cons] at this
    omega
  rw [List.drop_eq_getElem_cons hl] at hd
  cases hd
  exact ⟨List.getElem?_eq_getElem hl, hl, rfl⟩
theorem RG.len [Inhabited Nat] {h : Hp} {G : Nat} {e : Int} {n p : Nat} {ts : List Tok} (hs : RG h G e n p ts) : ts.length ≤ 12000 := by
  obtain ⟨vl, all, at_, a, h1, h2, rfl⟩ := hs.ex
  have := h2.sz
  rw [List.length_drop]
  omega
/-- the place of what stands next -/
def plc (e : Int) : List Tok → Int
  | [] => e
  | t :: _ => t.at_
theorem pErr_plc (e c : Int) (ts : List Tok) : pErr e c ts = (if c = 5 ∧ ts = [] then 6 else c, plc e ts) := by
  cases ts with
  | nil =>
    unfold pErr plc
    by_cases h : c = 5
    · rw [if_pos h, if_pos ⟨h, rfl⟩]
    · rw [if_neg h, if_neg fun hh => h hh.1]
  | cons t r =>
    unfold pErr plc
    simp
theorem pErr_ne {e c : Int} (hc : c ≠ 0) (ts : List Tok) : (pErr e c ts).1 ≠ 0 := by
  rw [pErr_plc]
  show (if c = 5 ∧ ts = [] then 6 else c) ≠ 0
  split
  · decide
  · exact hc
/-- good or bad -/
def RO [Inhabited Nat] (h : Hp) (G : Nat) (e : Int) : Except (Int × Int) (Nat × Nat × List Tok) → Prop
  | .ok s => RG h G e s.1 s.2.1 s.2.2
  | .error x => RB h G e x
theorem RO.keep [Inhabited Nat] {h h' : Hp} {S : Nat → Prop} {G : Nat} {e : Int} {st : Except (Int × Int) (Nat × Nat × List Tok)} (hs : RO h G e st) (k : Keep S h h') (hn : ∀ b, b ≤ G → ¬ S b) : RO h' G e st := by
  cases st with
  | ok s => exact RG.keep hs k hn
  | error x => exact RB.keep hs k hn
theorem RO.lt [Inhabited Nat] {h : Hp} {G : Nat} {e : Int} {st : Except (Int × Int) (Nat × Nat × List Tok)} (hs : RO h G e st) : G < h.size := by
  cases st with
  | ok s => exact RG.lt hs
  | error x => exact RB.lt hs
theorem seesB_cons (s : List UInt8) (t : Tok) (r : List Tok) : seesB s (t :: r) = (bytesOf t.text == s && (t.kind == 1 || t.kind == 4)) := rfl
def isBad {α : Type} : Except (Int × Int) α → Bool
  | .ok _ => false
  | .error _ => true
theorem add30 (G : Nat) : Addr.add (Addr.add ⟨G, 0, none⟩ 3) 0 = Addr.add ⟨G, 0, none⟩ 3 := by simp [addr_add]
section
variable {ω : Amb} {h : Hp} {G : Nat} {ts : List Tok} {e : Int} {n p : Nat}
theorem bad_law [Inhabited Nat] {st : Except (Int × Int) (Nat × Nat × List Tok)} (hp : RO h G e st) (X : List PanicEntry → Hp → Prop) :
    CallX Tryd.prog ω n_p_pipewrightref_reading_bad [pp G] h (fun r h' => r = .bool (isBad st) ∧ h = h') X := by
  refine C_p_pipewrightref_reading_bad ω _ h _ X ?_
  unfold W_p_pipewrightref_reading_bad
  simp only [nnK_ptr, asP_some, add30]
  cases st with
  | ok s =>
    obtain ⟨vl, all, at_, a, hb, ht, hd⟩ := hp.ex
    refine lx hb (j := 3) rfl ?_
    rw [asK_int]
    exact ⟨rfl, trivial⟩
  | error x =>
    have hne := RB.ne hp
    obtain ⟨vl, all, at_, n, p, hb, ht⟩ := hp.ex
    refine lx hb (j := 3) rfl ?_
    rw [asK_int]
    exact ⟨by rw [show (x.1 != 0) = true from by simpa using hne]; rfl, trivial⟩
theorem sees_law [Inhabited Nat] (hp : RG h G e n p ts) (s : ByteArray) (hs : ∃ c r, bytesOf s = c :: r ∧ Tk.dg c = false) (X : List PanicEntry → Hp → Prop) :
    CallX Tryd.prog ω n_p_pipewrightref_reading_sees [pp G, .string s] h (fun r h' => r = .bool (isT (bytesOf s) ts) ∧ h = h') X := by
  obtain ⟨vl, all, at_, a, hb, ht, hd⟩ := hp.ex
  rw [← sees_isT hs fun t hm => ht.ok t (List.mem_of_mem_drop (hd ▸ hm))]
  refine C_p_pipewrightref_reading_sees ω _ _ h _ X ?_
  unfold W_p_pipewrightref_reading_sees
  simp only [nnK_ptr, asP_some]
  refine ⟨fun v h' => v = .bool (seesB (bytesOf s) ts) ∧ h = h', ?_, fun _ _ _ hj => hj⟩
  refine lx hb (j := 1) rfl ?_
  refine lx hb (j := 0) rfl ?_
  refine ht.tk.len fun _ _ => ?_
  rw [asK_int]
  cases ts with
  | nil =>
    have := ht.nil hd
    exact cond_f (decide_eq_false (by omega)) ⟨rfl, rfl⟩
  | cons t r =>
    obtain ⟨h1, h2, _⟩ := ht.cons hd
    refine cond_t (decide_eq_true (by omega)) ?_
    refine lx hb (j := 0) rfl ?_
    refine lx hb (j := 1) rfl ?_
    refine SlAt.rdT (f := Tok.f) (sz := 4) ht.tk.at_ Tok.len (i := at_) (o := 2) h1 rfl ?_
    rw [asS_str, asS_str, eqS]
    refine cond_c (fun hc => ?_) (fun hc => ?_)
    · have hc := of_decide_eq_true hc
      refine lx hb (j := 0) rfl ?_
      refine lx hb (j := 1) rfl ?_
      refine SlAt.rdT (f := Tok.f) (sz := 4) ht.tk.at_ Tok.len (i := at_) (o := 0) h1 rfl ?_
      rw [asK_int]
      refine cond_c (fun h3 => ?_) (fun h3 => ?_)
      · refine ⟨?_, rfl⟩
        rw [seesB_cons, hc, h3, beq_self_eq_true]
        rfl
      · refine lx hb (j := 0) rfl ?_
        refine lx hb (j := 1) rfl ?_
        refine SlAt.rdT (f := Tok.f) (sz := 4) ht.tk.at_ Tok.len (i := at_) (o := 0) h1 rfl ?_
        rw [asK_int]
        refine ⟨?_, rfl⟩
        rw [seesB_cons, hc, h3, beq_self_eq_true]
        rfl
    · have hc := of_decide_eq_false hc
      refine ⟨?_, rfl⟩
      rw [seesB_cons, beq_eq_false_iff_ne.2 hc]
      rfl
theorem place_law [Inhabited Nat] (hp : RG h G e n p ts) (X : List PanicEntry → Hp → Prop) :
    CallX Tryd.prog ω n_p_pipewrightref_reading_place [pp G] h (fun r h' => r = .int .i64 (plc e ts) ∧ h = h') X := by
  obtain ⟨vl, all, at_, a, hb, ht, hd⟩ := hp.ex
  refine C_p_pipewrightref_reading_place ω _ h _ X ?_
  unfold W_p_pipewrightref_reading_place
  simp only [nnK_ptr, asP_some]
  refine lx hb (j := 1) rfl ?_
  refine lx hb (j := 0) rfl ?_
  refine ht.tk.len fun _ _ => ?_
  rw [asK_int]
  cases ts with
  | nil =>
    have := ht.nil hd
    refine cond_f (decide_eq_false (by omega)) ?_
    exact lx hb (j := 2) rfl ⟨rfl, trivial⟩
  | cons t r =>
    obtain ⟨h1, h2, _⟩ := ht.cons hd
    refine cond_t (decide_eq_true (by omega)) ?_
    refine lx hb (j := 0) rfl ?_
    refine lx hb (j := 1) rfl ?_
    exact SlAt.rdT (f := Tok.f) (sz := 4) ht.tk.at_ Tok.len (i := at_) (o := 1) h1 rfl ⟨rfl, trivial⟩
theorem place_bad [Inhabited Nat] {x : Int × Int} (hp : RB h G e x) (X : List PanicEntry → Hp → Prop) :
    CallX Tryd.prog ω n_p_pipewrightref_reading_place [pp G] h (fun r h' => (∃ q, r = .int .i64 q) ∧ h = h') X := by
  obtain ⟨vl, all, at_, n, p, hb, ht⟩ := hp.ex
  refine C_p_pipewrightref_reading_place ω _ h _ X ?_
  unfold W_p_pipewrightref_reading_place
  simp only [nnK_ptr, asP_some]
  refine lx hb (j := 1) rfl ?_
  refine lx hb (j := 0) rfl ?_
  refine ht.tk.len fun _ _ => ?_
  rw [asK_int]
  refine cond_c (fun hc => ?_) (fun hc => ?_)
  · have hl : at_ < all.length := by have := of_decide_eq_true hc; omega
    refine lx hb (j := 0) rfl ?_
    refine lx hb (j := 1) rfl ?_
    exact SlAt.rdT (f := Tok.f) (sz := 4) ht.tk.at_ Tok.len (i := at_) (o := 1) (List.getElem?_eq_getElem hl) rfl ⟨⟨_, rfl⟩, trivial⟩
  · exact lx hb (j := 2) rfl ⟨⟨_, rfl⟩, trivial⟩
/-- a fault is noted -/
theorem wrong_law [Inhabited Nat] (hp : RG h G e n p ts) (c : Int) (hc0 : c ≠ 0) (X : List PanicEntry → Hp → Prop) :
    CallX Tryd.prog ω n_p_pipewrightref_reading_wrong [pp G, .int .i64 c] h (fun r h' => RB h' G e (pErr e c ts) ∧ KG G h h') X := by
  refine C_p_pipewrightref_reading_wrong ω _ _ h _ X ?_
  unfold W_p_pipewrightref_reading_wrong
  refine CallX.use (bad_law (st := .ok (n, p, ts)) hp) ?_
  rintro _ _ ⟨rfl, rfl⟩
  rw [asB_bool]
  refine cond_f rfl ?_
  refine ⟨decide (c = 5 ∧ ts = []), ?_, fun _ => ?_⟩
  · rw [asK_int]
    refine cond_c (fun h5 => ?_) (fun h5 => ?_)
    · have h5 : c = 5 := eq_of_beq h5
      obtain ⟨vl, all, at_, a, hb, ht, hd⟩ := hp.ex
      simp only [nnK_ptr, asP_some]
      refine lx hb (j := 1) rfl ?_
      refine lx hb (j := 0) rfl ?_
      refine ht.tk.len fun _ _ => ?_
      rw [asK_int]
      refine ⟨?_, trivial⟩
      congr 1
      rw [Bool.eq_iff_iff, decide_eq_true_eq, decide_eq_true_eq]
      constructor
      · intro hge
        refine ⟨h5, ?_⟩
        rw [← hd]
        exact List.drop_eq_nil_of_le (by omega)
      · rintro ⟨_, hn⟩
        have := ht.nil (hd.trans hn)
        omega
    · refine ⟨?_, rfl⟩
      rw [decide_eq_false fun hh => by rw [hh.1] at h5; exact absurd h5 (by decide)]
  refine ⟨fun v h' => v = .int .i64 (if c = 5 ∧ ts = [] then 6 else c) ∧ h = h', ?_, ?_⟩
  · refine cond_c (fun hc => ?_) (fun hc => ?_)
    · rw [if_pos (of_decide_eq_true hc)]
      exact ⟨rfl, rfl⟩
    · rw [if_neg (of_decide_eq_false hc)]
      exact ⟨rfl, rfl⟩
  rintro _ _ _ ⟨rfl, rfl⟩
  refine CallX.use (place_law hp) ?_
  rintro _ _ ⟨rfl, rfl⟩
  refine CallX.use (F_law _ _ _) ?_
  rintro _ h1 ⟨rfl, k1⟩
  obtain ⟨vl, all, at_, a, hb, ht, hd⟩ := (hp.keep k1 fun _ _ h => h).ex
  simp only [nnK_ptr, asP_some]
  rw [asA_agg]
  refine ⟨rfl, flt_one _ _, ?_⟩
  rw [addr_add]
  refine storeK_of (o := 0 + 3) hb (by simp [rds, flt]) ?_
  have hne := pErr_ne (e := e) hc0 ts
  rw [pErr_plc] at hne ⊢
  rw [show spl (rds vl ((at_ : Nat) : Int) e 0 a n p).toArray (0 + 3) (flt (if c = 5 ∧ ts = [] then 6 else c) (plc e ts)).toArray.toList = (rds vl ((at_ : Nat) : Int) e (if c = 5 ∧ ts = [] then 6 else c) (plc e ts) n p).toArray from by simp [spl, rds, flt]]
  have k2 := Keep.set (S := fun b => b = G) (h := h1) (.cells (rds vl ((at_ : Nat) : Int) e (if c = 5 ∧ ts = [] then 6 else c) (plc e ts) n p).toArray 75 (0, 0)) (b := G) rfl
  exact ⟨⟨hne, vl, all, at_, n, p, hp_set_same hb, ht.keep k2 fun b hb e => by omega⟩, (kg_of k1).trans k2⟩
theorem wrong_bad [Inhabited Nat] {x : Int × Int} (hp : RB h G e x) (c : Int) (X : List PanicEntry → Hp → Prop) :
    CallX Tryd.prog ω n_p_pipewrightref_reading_wrong [pp G, .int .i64 c] h (fun r h' => RB h' G e x ∧ KG G h h') X := by
  refine C_p_pipewrightref_reading_wrong ω _ _ h _ X ?_
  unfold W_p_pipewrightref_reading_wrong
  refine CallX.use (bad_law (st := .error x) hp) ?_
  rintro _ _ ⟨rfl, rfl⟩
  rw [asB_bool]
  exact cond_t rfl ⟨hp, Keep.refl _ _⟩
/-- a token is passed -/
theorem rg_step [Inhabited Nat] {vl : Value} {all : List Tok} {at_ : Nat} {a : Int} {t : Tok} {r : List Tok} (hb : h[G]? = some (.cells (rds vl ((at_ : Nat) : Int) e 0 a n p).toArray 75 (0, 0))) (ht : RT h G all at_ vl) (hd : all.drop at_ = t :: r) {K : Hp → Prop}
    (hK : ∀ h', RG h' G e n p r → KG G h h' → h'[G]? = some (.cells (rds vl ((at_ + 1 : Nat) : Int) e 0 a n p).toArray 75 (0, 0)) → RT h' G all (at_ + 1) vl → K h') : storeK1 h (Addr.add ⟨G, 0, none⟩ 1) (.int .i64 (IntKind.wrap .i64 ((at_ : Int) + 1))) K := by
  obtain ⟨h1, h2, h3⟩ := ht.cons hd
  have := ht.sz
  rw [i64_in (by omega) (by omega), addr_add, Nat.zero_add]
  refine storeK1_of (o := 1) hb (by simp [rds]) ?_
  rw [show (rds vl ((at_ : Nat) : Int) e 0 a n p).toArray.setIfInBounds 1 (.int .i64 ((at_ : Int) + 1)) = (rds vl ((at_ + 1 : Nat) : Int) e 0 a n p).toArray from by simp [rds]]
  have k2 := Keep.set (S := fun b => b = G) (h := h) (.cells (rds vl ((at_ + 1 : Nat) : Int) e 0 a n p).toArray 75 (0, 0)) (b := G) rfl
  have hrt : RT (h.setIfInBounds G (.cells (rds vl ((at_ + 1 : Nat) : Int) e 0 a n p).toArray 75 (0, 0))) G all (at_ + 1) vl := by
    have := ht.keep k2 fun b hb e => by omega
    exact ⟨this.tk, h2, this.ok, this.sz, this.all_⟩
  exact hK _ ⟨vl, all, at_ + 1, a, hp_set_same hb, hrt, h3⟩ k2 (hp_set_same hb) hrt
/-- 'r.at++' -/
theorem rg_inc [Inhabited Nat] {t : Tok} {r : List Tok} (hp : RG h G e n p (t :: r)) {K : Hp → Prop} (hK : ∀ h', RG h' G e n p r → KG G h h' → K h') :
    ∃ v, cellH h (Addr.add ⟨G, 0, none⟩ 1) = some v ∧ asK .i64 v fun m => storeK1 h (Addr.add ⟨G, 0, none⟩ 1) (.int .i64 (IntKind.wrap .i64 (m + 1))) K := by
  obtain ⟨vl, all, at_, a, hb, ht, hd⟩ := hp.ex
  refine lx hb (j := 1) rfl ?_
  rw [asK_int]
  exact rg_step hb ht hd fun h' h1 k _ _ => hK h' h1 k
theorem must_law [Inhabited Nat] {st : Except (Int × Int) (Nat × Nat × List Tok)} (hp : RO h G e st) (s : ByteArray) (hs : ∃ c r, bytesOf s = c :: r ∧ Tk.dg c = false) (X : List PanicEntry → Hp → Prop) :
    CallX Tryd.prog ω n_p_pipewrightref_reading_must [pp G, .string s] h (fun _ h' => RO h' G e (bindP st fun q => bindP (wantP e (bytesOf s) q.2.2) fun r => .ok (q.1, q.2.1, r)) ∧ KG G h h') X := by
  refine C_p_pipewrightref_reading_must ω _ _ h _ X ?_
  unfold W_p_pipewrightref_reading_must
  refine CallX.use (bad_law hp) ?_
  rintro _ _ ⟨rfl, rfl⟩
  rw [asB_bool]
  cases st with
  | error x => exact cond_t rfl ⟨hp, Keep.refl _ _⟩
  | ok q =>
    obtain ⟨n, p, ts⟩ := q
    have hp : RG h G e n p ts := hp
    refine cond_f rfl ?_
    refine CallX.use (sees_law hp s hs) ?_
    rintro _ _ ⟨rfl, rfl⟩
    rw [asB_bool, bindP_ok]
    refine cond_c (fun hc => ?_) (fun hc => ?_)
    · have hc : isT (bytesOf s) ts = false := by simpa using hc
      refine CallX.use (wrong_law hp 5 (by decide)) ?_
      rintro _ h1 ⟨h2, k2⟩
      refine ⟨?_, k2⟩
      show RO h1 G e (bindP (wantP e (bytesOf s) ts) _)
      unfold wantP
      rw [hc, if_neg Bool.false_ne_true]
      exact h2
    · have hc : isT (bytesOf s) ts = true := by simpa using hc
      obtain ⟨t, r, rfl⟩ := isT_cons hc
      simp only [nnK_ptr, asP_some]
      refine rg_inc hp fun h' h1 k => ⟨?_, k⟩
      show RO h' G e (bindP (wantP e (bytesOf s) (t :: r)) _)
      unfold wantP
      rw [hc, if_pos rfl]
      exact h1
/-- the token that is handed back -/
def tokR (e k : Int) : Except (Int × Int) (Nat × Nat × List Tok) → Tok
  | .error _ => Tok.zero
  | .ok q => match kindP e k q.2.2 with
    | .ok r => r.1
    | .error _ => Tok.zero
theorem tokR_err {e k : Int} {n p : Nat} {ts : List Tok} {y : Int × Int} (h : kindP e k ts = .error y) : tokR e k (.ok (n, p, ts)) = Tok.zero := by
  show (match kindP e k ts with | .ok r => r.1 | .error _ => Tok.zero) = _
  rw [h]
theorem tokR_ok {e k : Int} {n p : Nat} {ts : List Tok} {q : Tok × List Tok} (h : kindP e k ts = .ok q) : tokR e k (.ok (n, p, ts)) = q.1 := by
  show (match kindP e k ts with | .ok r => r.1 | .error _ => Tok.zero) = _
  rw [h]
theorem of_law [Inhabited Nat] {st : Except (Int × Int) (Nat × Nat × List Tok)} (hp : RO h G e st) (k : Int) (X : List PanicEntry → Hp → Prop) :
    CallX Tryd.prog ω n_p_pipewrightref_reading_of [pp G, .int .i64 k] h (fun v h' => v = .agg (tokR e k st).f.toArray ∧ RO h' G e (bindP st fun q => bindP (kindP e k q.2.2) fun r => .ok (q.1, q.2.1, r.2)) ∧ KG G h h') X := by
  have hlt := hp.lt
  refine C_p_pipewrightref_reading_of ω _ _ h _ X ?_
  unfold W_p_pipewrightref_reading_of
  have hr0 := hp_push_new (h := h) (o := .cells #[(.int .i64 0), (.int .i64 0), (.string ⟨#[]⟩), (.int .i64 0)] 46 (0, 0))
  have k0 := Keep.push (S := fun _ => False) h (.cells #[(.int .i64 0), (.int .i64 0), (.string ⟨#[]⟩), (.int .i64 0)] 46 (0, 0))
  generalize h.push (.cells #[(.int .i64 0), (.int .i64 0), (.string ⟨#[]⟩), (.int .i64 0)] 46 (0, 0)) = h0 at *
  have fin : ∀ {hh : Hp} {cur : Array Value} {t : Tok} {st' : Except (Int × Int) (Nat × Nat × List Tok)} {v : Value}, hh[h.size]? = some (.cells cur 46 (0, 0)) → cur.size = 4 → RO hh G e st' → KG G h hh → t.f = t.f → storeK hh ⟨h.size, 0, none⟩ t.f fun h3 => ∃ C4, cellsH h3 ⟨Array.size h, 0, none⟩ 4 C4 ∧ ((.agg C4.toArray : Value) = .agg t.f.toArray ∧ RO h3 G e st' ∧ KG G h h3) := by
    intro hh cur t st' v hb hc hr hk _
    refine storeK_of (o := 0) hb (by rw [hc]; simp [Tok.f]) ?_
    rw [spl_all (by rw [hc]; rfl)]
    have k4 := Keep.set (S := fun b => b = h.size) (h := hh) (.cells t.f.toArray 46 (0, 0)) (b := h.size) rfl
    exact ⟨_, cellsH_blk (hp_set_same hb) rfl, rfl, hr.keep k4 (fun b hb e => by omega), kg_set hk (Nat.le_refl _) k4⟩
  have hp0 := hp.keep k0 fun _ _ h => h
  refine CallX.use (bad_law hp0) ?_
  rintro _ _ ⟨rfl, rfl⟩
  rw [asB_bool]
  cases st with
  | error x =>
    refine cond_t rfl ⟨rfl, Tok.one Tok.zero, ?_⟩
    exact fin (t := Tok.zero) (st' := .error x) (v := undef) hr0 rfl hp0 (kg_of k0) rfl
  | ok q =>
    obtain ⟨n, p, ts⟩ := q
    have hp0 : RG h0 G e n p ts := hp0
    refine cond_f rfl ?_
    obtain ⟨vl, all, at_, a, hb, ht, hd⟩ := hp0.ex
    refine ⟨match ts with | [] => true | t :: _ => t.kind != k, ?_, fun _ => ?_⟩
    · simp only [nnK_ptr, asP_some]
      refine lx hb (j := 1) rfl ?_
      refine lx hb (j := 0) rfl ?_
      refine ht.tk.len fun _ _ => ?_
      rw [asK_int]
      cases ts with
      | nil =>
        have := ht.nil hd
        exact cond_t (decide_eq_true (by omega)) ⟨rfl, trivial⟩
      | cons t r =>
        obtain ⟨h1, h2, _⟩ := ht.cons hd
        refine cond_f (decide_eq_false (by omega)) ?_
        refine lx hb (j := 0) rfl ?_
        refine lx hb (j := 1) rfl ?_
        refine SlAt.rdT (f := Tok.f) (sz := 4) ht.tk.at_ Tok.len (i := at_) (o := 0) h1 rfl ?_
        rw [asK_int, asK_int]
        exact ⟨rfl, trivial⟩
    refine cond_c (fun hc => ?_) (fun hc => ?_)
    · have he : kindP e k ts = .error (pErr e 5 ts) := by
        cases ts with
        | nil => rfl
        | cons t r =>
          rw [kindP_cons, if_neg (bne_iff_ne.1 hc)]
          rfl
      refine CallX.use (wrong_law hp0 5 (by decide)) ?_
      rintro _ h1 ⟨h2, k2⟩
      refine ⟨rfl, Tok.one Tok.zero, ?_⟩
      have := fin (t := Tok.zero) (st' := .error (pErr e 5 ts)) (v := undef) (k2.get hr0 (by omega)) rfl h2 ((kg_of k0).trans k2) rfl
      rw [bindP_ok]
      show storeK h1 _ _ fun h3 => ∃ C4 : List Value, cellsH h3 ⟨Array.size h, 0, none⟩ 4 C4 ∧ ((.agg C4.toArray : Value) = .agg (tokR e k (.ok (n, p, ts))).f.toArray ∧ RO h3 G e (bindP (kindP e k ts) _) ∧ _)
      rw [tokR_err he, he]
      exact this
    · cases ts with
      | nil => cases hc
      | cons t r =>
        have hk : t.kind = k := by simpa using hc
        have he : kindP e k (t :: r) = .ok (t, r) := by rw [kindP_cons, if_pos hk]
        simp only [nnK_ptr, asP_some]
        refine lx hb (j := 1) rfl ?_
        rw [asK_int]
        refine rg_step hb ht hd fun h1 hp1 k1 hb1 ht1 => ?_
        refine lx hb1 (j := 0) rfl ?_
        refine lx hb1 (j := 1) rfl ?_
        rw [asK_int]
        have := ht1.le
        have := ht1.sz
        rw [show IntKind.wrap .i64 (((at_ + 1 : Nat) : Int) - 1) = ((at_ : Nat) : Int) from by rw [i64_in (by omega) (by omega)]; omega]
        refine SlAt.rdS (f := Tok.f) (sz := 4) ht1.tk.at_ Tok.len (i := at_) (ht.cons hd).1 ?_
        refine ⟨rfl, Tok.one t, ?_⟩
        have := fin (t := t) (st' := .ok (n, p, r)) (v := undef) (k1.get hr0 (by omega)) rfl hp1 ((kg_of k0).trans k1) rfl
        rw [bindP_ok]
        show storeK h1 _ _ fun h3 => ∃ C4 : List Value, cellsH h3 ⟨Array.size h, 0, none⟩ 4 C4 ∧ ((.agg C4.toArray : Value) = .agg (tokR e k (.ok (n, p, t :: r))).f.toArray ∧ RO h3 G e (bindP (kindP e k (t :: r)) _) ∧ _)
        rw [tokR_ok he, he]
        exact this
end
end Go.Proofs.YtaehnpilebkcoaaDoor

namespace Go.Proofs.YtaehnpilebkcoaaDoor
open Go Go.Sx Go.Sx.Tk Go.Sx.Rn Go.Proofs.YtaehnpilebkcoaaDoor.Sx

/-- some expression's cells, whatever they say -/
def J4 (r : Value) : Prop := ∃ C : List Value, r = .agg C.toArray ∧ C.length = 4 ∧ ∀ u ∈ C, one u
/-- what a function of the document's parser hands back for an expression -/
def XO [Inhabited Nat] (h h' : Hp) (G : Nat) (e : Int) (n : Nat) (r : Value) : PR Ex → Prop
  | .ok q => ExR h h' r q.1 ∧ RG h' G e n q.2.1 q.2.2 ∧ KG G h h'
  | .error x => J4 r ∧ RB h' G e x ∧ KG G h h'
def UB [Inhabited Nat] (ω : Amb) (e : Int) (f : Nat) : Prop := ∀ (h : Hp) (G : Nat) (ts : List Tok) (n o t : Nat), RG h G e n t ts → o ≤ 60 → t + ts.length ≤ 20000 → 4 * ts.length + 1 ≤ f → ∀ X : List PanicEntry → Hp → Prop,
  CallX Tryd.prog ω n_p_pipewrightref_reading_unit [pp G, .int .i64 (o : Int)] h (fun r h' => XO h h' G e n r (unitP e f o t ts)) X
def BB [Inhabited Nat] (ω : Amb) (e : Int) (k : Nat) (pf : Nat → Nat → Nat → List Tok → PR Ex) (c f : Nat) : Prop := ∀ (h : Hp) (G : Nat) (ts : List Tok) (n o t : Nat), RG h G e n t ts → o ≤ 60 → t + ts.length ≤ 20000 → 4 * ts.length + c ≤ f → ∀ X : List PanicEntry → Hp → Prop,
  CallX Tryd.prog ω n_p_pipewrightref_reading_binary [pp G, .int .i64 (k : Int), .int .i64 (o : Int)] h (fun r h' => XO h h' G e n r (pf f o t ts)) X
theorem retL {hh : Hp} {B : Nat} {cs : List Value} {cur : Array Value} {R : Value → Hp → Prop} (hB : hh[B]? = some (.cells cur 118 (0, 0))) (hc : cs.length = 4) (hcur : cur.size = 4) (hR : ∀ h', Keep (fun b => b = B) hh h' → R (.agg cs.toArray) h') :
    storeK hh ⟨B, 0, none⟩ cs fun h' => ∃ C, cellsH h' ⟨B, 0, none⟩ 4 C ∧ R (.agg C.toArray) h' := by
  refine storeK_of (o := 0) hB (by rw [hcur]; simp [hc]) ?_
  rw [spl_all (by rw [hcur]; simpa using hc)]
  exact ⟨cs, cellsH_blk (hp_set_same hB) hc, hR _ (Keep.set (S := fun b => b = B) _ rfl)⟩
def z4 : List Value := [.int .i64 0, .string ⟨#[]⟩, .int .i64 0, .slice none 0 0]
theorem z4_one : ∀ u ∈ z4, one u := by
  intro u hu
  simp only [z4, List.mem_cons, List.not_mem_nil, or_false] at hu
  rcases hu with rfl | rfl | rfl | rfl <;> rfl
theorem one4 {a : Int} {s : ByteArray} {n : Int} {v : Value} (h : isSl v) : ∀ u ∈ [Value.int .i64 a, .string s, .int .i64 n, v], one u := by
  intro u hu
  simp only [List.mem_cons, List.not_mem_nil, or_false] at hu
  rcases hu with rfl | rfl | rfl | rfl
  · rfl
  · rfl
  · rfl
  · exact h.one
theorem J4.of {a : Int} {s : ByteArray} {n : Int} {v : Value} (h : isSl v) : J4 (.agg [Value.int .i64 a, .string s, .int .i64 n, v].toArray) := ⟨_, rfl, rfl, one4 h⟩
theorem ExR.j4 {h h' : Hp} {r : Value} {x : Ex} (hr : ExR h h' r x) : J4 r := by
  obtain ⟨w, rfl, hx⟩ := hr
  exact ⟨_, rfl, rfl, exC_one hx.isSl⟩
section
variable {ω : Amb} {h : Hp} {G : Nat} {e : Int} {n : Nat}
/-- a part more -/
theorem rg_part [Inhabited Nat] {p : Nat} {ts : List Tok} (hp : RG h G e n p ts) (hle : p ≤ 30000) {K : Hp → Prop} (hK : ∀ h', RG h' G e n (p + 1) ts → KG G h h' → K h') :
    ∃ v, cellH h (Addr.add ⟨G, 0, none⟩ 6) = some v ∧ asK .i64 v fun m => storeK1 h (Addr.add ⟨G, 0, none⟩ 6) (.int .i64 (IntKind.wrap .i64 (m + 1))) K := by
  obtain ⟨vl, all, at_, a, hb, ht, hd⟩ := hp.ex
  refine lx hb (j := 6) rfl ?_
  rw [asK_int, i64_in (by omega) (by omega), addr_add, Nat.zero_add]
  refine storeK1_of (o := 6) hb (by simp [rds]) ?_
  rw [show (rds vl ((at_ : Nat) : Int) e 0 a n p).toArray.setIfInBounds 6 (.int .i64 ((p : Int) + 1)) = (rds vl ((at_ : Nat) : Int) e 0 a n ((p + 1 : Nat) : Int)).toArray from by simp [rds]]
  have k2 := Keep.set (S := fun b => b = G) (h := h) (.cells (rds vl ((at_ : Nat) : Int) e 0 a n ((p + 1 : Nat) : Int)).toArray 75 (0, 0)) (b := G) rfl
  exact hK _ ⟨vl, all, at_, a, hp_set_same hb, ht.keep k2 fun b hb e => by omega, hd⟩ k2
theorem rb_part [Inhabited Nat] {x : Int × Int} (hp : RB h G e x) {K : Hp → Prop} (hK : ∀ h', RB h' G e x → KG G h h' → K h') :
    ∃ v, cellH h (Addr.add ⟨G, 0, none⟩ 6) = some v ∧ asK .i64 v fun m => storeK1 h (Addr.add ⟨G, 0, none⟩ 6) (.int .i64 (IntKind.wrap .i64 (m + 1))) K := by
  obtain ⟨vl, all, at_, n, p, hb, ht⟩ := hp.ex
  refine lx hb (j := 6) rfl ?_
  rw [asK_int, addr_add, Nat.zero_add]
  refine storeK1_of (o := 6) hb (by simp [rds]) ?_
  rw [show (rds vl ((at_ : Nat) : Int) e x.1 x.2 n p).toArray.setIfInBounds 6 (.int .i64 (IntKind.wrap .i64 (p + 1))) = (rds vl ((at_ : Nat) : Int) e x.1 x.2 n (IntKind.wrap .i64 (p + 1))).toArray from by simp [rds]]
  have k2 := Keep.set (S := fun b => b = G) (h := h) (.cells (rds vl ((at_ : Nat) : Int) e x.1 x.2 n (IntKind.wrap .i64 (p + 1))).toArray 75 (0, 0)) (b := G) rfl
  exact hK _ ⟨hp.ne, vl, all, at_, n, _, hp_set_same hb, ht.keep k2 fun b hb e => by omega⟩ k2
theorem unit_bad [Inhabited Nat] {x : Int × Int} (hp : RB h G e x) (o : Int) (X : List PanicEntry → Hp → Prop) :
    CallX Tryd.prog ω n_p_pipewrightref_reading_unit [pp G, .int .i64 o] h (fun r h' => J4 r ∧ RB h' G e x ∧ KG G h h') X := by
  have hlt := hp.lt
  refine C_p_pipewrightref_reading_unit ω _ _ h _ X ?_
  unfold W_p_pipewrightref_reading_unit
  have hr0 := hp_push_new (h := h) (o := .cells #[(.int .i64 0), (.string ⟨#[]⟩), (.int .i64 0), (.slice none 0 0)] 118 (0, 0))
  have k0 := Keep.push (S := fun _ => False) h (.cells #[(.int .i64 0), (.string ⟨#[]⟩), (.int .i64 0), (.slice none 0 0)] 118 (0, 0))
  generalize h.push (.cells #[(.int .i64 0), (.string ⟨#[]⟩), (.int .i64 0), (.slice none 0 0)] 118 (0, 0)) = h0 at *
  have hp0 := hp.keep k0 fun _ _ h => h
  refine CallX.use (bad_law (st := .error x) hp0) ?_
  rintro _ _ ⟨rfl, rfl⟩
  rw [asB_bool]
  refine cond_t rfl ⟨by trivial, z4_one, ?_⟩
  refine retL (cs := z4) (R := fun r h' => J4 r ∧ RB h' G e x ∧ KG G h h') hr0 rfl rfl fun h' k => ⟨⟨_, rfl, rfl, z4_one⟩, hp0.keep k fun b hb e => by omega, kg_set (kg_of k0) (Nat.le_refl _) k⟩
theorem d40 : ∃ c r, bytesOf ⟨#[40]⟩ = c :: r ∧ Tk.dg c = false := ⟨_, _, rfl, by decide⟩
theorem d41 : ∃ c r, bytesOf ⟨#[41]⟩ = c :: r ∧ Tk.dg c = false := ⟨_, _, rfl, by decide⟩
theorem d45 : ∃ c r, bytesOf ⟨#[45]⟩ = c :: r ∧ Tk.dg c = false := ⟨_, _, rfl, by decide⟩
set_option maxHeartbeats 1000000 in
theorem unit_lawR [Inhabited Nat] {f : Nat} (hC : BB ω e 0 (cmpP e) 4 f) (hU : UB ω e f) : UB ω e (f + 1) := by
  intro h G ts n o t hp ho ht hf X
  have hlt := hp.lt
  refine C_p_pipewrightref_reading_unit ω _ _ h _ X ?_
  unfold W_p_pipewrightref_reading_unit
  have hr0 := hp_push_new (h := h) (o := .cells #[(.int .i64 0), (.string ⟨#[]⟩), (.int .i64 0), (.slice none 0 0)] 118 (0, 0))
  have k0 := Keep.push (S := fun _ => False) h (.cells #[(.int .i64 0), (.string ⟨#[]⟩), (.int .i64 0), (.slice none 0 0)] 118 (0, 0))
  have z0 : (h.push (.cells #[(.int .i64 0), (.string ⟨#[]⟩), (.int .i64 0), (.slice none 0 0)] 118 (0, 0))).size = h.size + 1 := by simp
  generalize h.push (.cells #[(.int .i64 0), (.string ⟨#[]⟩), (.int .i64 0), (.slice none 0 0)] 118 (0, 0)) = h0 at *
  have hp0 := hp.keep k0 fun _ _ h => h
  refine CallX.use (bad_law (st := .ok (n, t, ts)) hp0) ?_
  rintro _ _ ⟨rfl, rfl⟩
  rw [asB_bool]
  refine cond_f rfl ?_
  have b40 : bytesOf ⟨#[40]⟩ = [40] := rfl
  have b45 : bytesOf ⟨#[45]⟩ = [45] := rfl
  have b41 : bytesOf ⟨#[41]⟩ = [41] := rfl
  refine ⟨fun v h' => v = .bool ((isT [40] ts || isT [45] ts) && decide (o = 60)) ∧ h0 = h', ?_, ?_⟩
  · refine CallX.use (sees_law hp0 ⟨#[40]⟩ d40) ?_
    rintro _ _ ⟨rfl, rfl⟩
    rw [asB_bool, b40]
    have hd : decide ((o : Int) ≥ 60) = decide (o = 60) := by
      rw [Bool.eq_iff_iff, decide_eq_true_eq, decide_eq_true_eq]
      omega
    refine cond_c (fun hc => ?_) (fun hc => ?_)
    · rw [asK_int, hd, hc]
      exact ⟨rfl, rfl⟩
    · refine CallX.use (sees_law hp0 ⟨#[45]⟩ d45) ?_
      rintro _ _ ⟨rfl, rfl⟩
      rw [asB_bool, b45]
      refine cond_c (fun hc2 => ?_) (fun hc2 => ?_)
      · rw [asK_int, hd, hc, hc2]
        exact ⟨rfl, rfl⟩
      · rw [hc, hc2]
        exact ⟨rfl, rfl⟩
  rintro _ _ _ ⟨rfl, rfl⟩
  rw [asB_bool]
  refine cond_c (fun hc => ?_) (fun hc60 => ?_)
  · rw [Bool.and_eq_true, decide_eq_true_eq] at hc
    have hun : unitP e (f + 1) o t ts = .error (pErr e 7 ts) := by
      unfold unitP
      cases h40 : isT [40] ts with
      | true => rw [if_pos rfl, if_pos hc.2]
      | false =>
        rw [h40, Bool.false_or] at hc
        rw [if_neg Bool.false_ne_true, hc.1, if_pos rfl, if_pos hc.2]
    rw [hun]
    refine CallX.use (wrong_law hp0 7 (by decide)) ?_
    rintro _ h1 ⟨h2, k2⟩
    refine ⟨by trivial, z4_one, ?_⟩
    refine retL (cs := z4) (R := fun r h' => XO h h' G e n r (.error (pErr e 7 ts))) (k2.get hr0 (by omega)) rfl rfl fun h' k => ⟨⟨_, rfl, rfl, z4_one⟩, h2.keep k fun b hb e => by omega, kg_set ((kg_of k0).trans k2) (Nat.le_refl _) k⟩
  refine CallX.use (sees_law hp0 ⟨#[40]⟩ d40) ?_
  rintro _ _ ⟨rfl, rfl⟩
  rw [asB_bool, b40]
  refine cond_c (fun hc => ?_) (fun hc => ?_)
  · -- a bracket
    obtain ⟨x0, r, rfl⟩ := isT_cons hc
    have h60 : o ≠ 60 := fun hh => by
      rw [hc, hh, Bool.true_or] at hc60
      exact absurd hc60 (by decide)
    have hun : unitP e (f + 1) o t (x0 :: r) = bindP (cmpP e f (o + 1) t r) fun q => if isT [41] q.2.2 then .ok (q.1, q.2.1, q.2.2.tail) else .error (pErr e 5 q.2.2) := by
      unfold unitP
      rw [hc, if_pos rfl, if_neg h60]
      rfl
    rw [hun]
    simp only [nnK_ptr, asP_some]
    simp only [List.length_cons] at ht hf
    refine rg_inc hp0 fun h1 hp1 k1 => ?_
    rw [asK_int, show IntKind.wrap .i64 ((o : Int) + 1) = ((o + 1 : Nat) : Int) from by rw [i64_in (by omega) (by omega)]; rfl]
    refine CallX.use (fun Y => hC h1 G r n (o + 1) t hp1 (by omega) (by omega) (by omega) Y) ?_
    intro r2 h2 hx
    have hs1 := k1.size
    -- the value, laid
    have key : ∀ (C : List Value) (st : Except (Int × Int) (Nat × Nat × List Tok)), r2 = .agg C.toArray → C.length = 4 → (∀ u ∈ C, one u) → RO h2 G e st → KG G h1 h2 → (∀ r' h', r' = .agg C.toArray → RO h' G e (bindP st fun q => bindP (wantP e [41] q.2.2) fun l => .ok (q.1, q.2.1, l)) → Keep (fun b => b = G ∨ b = h.size) h2 h' → KG G h h' → XO h h' G e n r' (bindP (cmpP e f (o + 1) t r) fun q => if isT [41] q.2.2 then .ok (q.1, q.2.1, q.2.2.tail) else .error (pErr e 5 q.2.2))) →
        asA r2 fun A33 => A33.size = 4 ∧ (∀ u ∈ A33.toList, one u) ∧ storeK (Array.push h2 (.cells #[(.int .i64 0), (.string ⟨#[]⟩), (.int .i64 0), (.slice none 0 0)] 118 (0, 0))) ⟨Array.size h2, 0, none⟩ A33.toList fun h34 =>
          CallX Tryd.prog ω 81 [pp G, (.string ⟨#[41]⟩)] h34 (fun _ h36 => ∃ C37, cellsH h36 ⟨Array.size h2, 0, none⟩ 4 C37 ∧ C37.toArray.size = 4 ∧ (∀ u ∈ C37.toArray.toList, one u) ∧ storeK h36 ⟨Array.size h, 0, none⟩ C37.toArray.toList fun h38 =>
            ∃ C39, cellsH h38 ⟨Array.size h, 0, none⟩ 4 C39 ∧ XO h h38 G e n (.agg C39.toArray) (bindP (cmpP e f (o + 1) t r) fun q => if isT [41] q.2.2 then .ok (q.1, q.2.1, q.2.2.tail) else .error (pErr e 5 q.2.2))) X := by
      intro C st hr hl hon hro k2 hfin
      subst hr
      rw [asA_agg]
      refine ⟨by simpa using hl, by simpa using hon, storeK_local (cs := C) (by rw [hl]; rfl) ?_⟩
      have hs2 := k2.size
      have hl3 := hp_push_new (h := h2) (o := .cells C.toArray 118 (0, 0))
      have k3 := Keep.push (S := fun _ => False) h2 (.cells C.toArray 118 (0, 0))
      have z3 : (h2.push (.cells C.toArray 118 (0, 0))).size = h2.size + 1 := by simp
      show CallX Tryd.prog ω 81 [pp G, (.string ⟨#[41]⟩)] (h2.push (.cells C.toArray 118 (0, 0))) _ X
      generalize h2.push (.cells C.toArray 118 (0, 0)) = h3 at *
      refine CallX.use (must_law (hro.keep k3 fun _ _ h => h) ⟨#[41]⟩ d41) ?_
      rintro _ h4 ⟨ho4, k4⟩
      have hr4 := k4.get (k3.get (k2.get (k1.get hr0 (by omega)) (by omega)) (by simp)) (by omega)
      refine ret4 (R := fun r' h' => XO h h' G e n r' _) (k4.get hl3 (by omega)) hr4 hl rfl hon fun h' k => hfin _ h' rfl (ho4.keep k fun b hb e => by omega) ?_ ?_
      · exact (((kg_of k3).trans k4).mono fun _ _ h => .inl h).trans (k.mono fun _ _ h => .inr h)
      · exact kg_set (((((kg_of k0).trans k1).trans k2).trans (kg_of k3)).trans k4) (Nat.le_refl _) k
    cases hres : cmpP e f (o + 1) t r with
    | error y =>
      rw [hres] at hx key
      obtain ⟨⟨C, hr, hl, hon⟩, hb2, k2⟩ := hx
      exact key C (.error y) hr hl hon hb2 k2 fun r' h' hr' hro _ hk => ⟨⟨C, hr', hl, hon⟩, hro, hk⟩
    | ok q =>
      obtain ⟨x, m, ts'⟩ := q
      rw [hres] at hx key
      obtain ⟨⟨w, hr, hex⟩, hp2, k2⟩ := hx
      have hs2 := k2.size
      refine key (exC x w) (.ok (n, m, ts')) hr rfl (exC_one hex.isSl) hp2 k2 fun r' h' hr' hro hkk hk => ?_
      rw [bindP_ok] at hro ⊢
      show XO h h' G e n r' (if isT [41] ts' then .ok (x, m, ts'.tail) else .error (pErr e 5 ts'))
      have hro : RO h' G e (bindP (wantP e [41] ts') fun l => .ok (n, m, l)) := hro
      unfold wantP at hro
      cases hT : isT [41] ts' with
      | true =>
        rw [hT, if_pos rfl] at hro
        rw [if_pos rfl]
        refine ⟨⟨w, hr', ?_⟩, hro, hk⟩
        exact ExSN.mv hex hkk (fun b hb e => by have := hb.1; omega) fun b hb => ⟨by have := hb.1; omega, by have := hb.2; have := hkk.size; omega⟩
      | false =>
        rw [hT, if_neg Bool.false_ne_true] at hro
        rw [if_neg Bool.false_ne_true]
        exact ⟨⟨exC x w, hr', rfl, exC_one hex.isSl⟩, hro, hk⟩
  simp only [nnK_ptr, asP_some]
  refine rg_part hp0 (by omega) fun h1 hp1 k1 => ?_
  have hs1 := k1.size
  have hr1 := k1.get hr0 (by omega)
  have k01 : KG G h h1 := (kg_of k0).trans k1
  refine CallX.use (sees_law hp1 ⟨#[45]⟩ d45) ?_
  rintro _ _ ⟨rfl, rfl⟩
  rw [asB_bool, b45]
  refine cond_c (fun hc2 => ?_) (fun hc2 => ?_)
  · -- a minus
    obtain ⟨x0, r, rfl⟩ := isT_cons hc2
    have h60 : o ≠ 60 := fun hh => by
      rw [hc2, Bool.or_true, hh] at hc60
      exact absurd hc60 (by decide)
    have hun : unitP e (f + 1) o t (x0 :: r) = bindP (unitP e f (o + 1) (t + 1) r) fun q => .ok (exNeg q.1, q.2.1, q.2.2) := by
      conv => lhs; unfold unitP
      rw [hc, if_neg Bool.false_ne_true, hc2, if_pos rfl, if_neg h60]
      rfl
    rw [hun]
    simp only [List.length_cons] at ht hf
    refine rg_inc hp1 fun h2 hp2 k2 => ?_
    rw [asK_int, show IntKind.wrap .i64 ((o : Int) + 1) = ((o + 1 : Nat) : Int) from by rw [i64_in (by omega) (by omega)]; rfl]
    refine CallX.use (fun Y => hU h2 G r n (o + 1) (t + 1) hp2 (by omega) (by omega) (by omega) Y) ?_
    intro r3 h3 hx
    have hs2 := k2.size
    have key : ∀ {T : Prop} (_ : T) (C : List Value), r3 = .agg C.toArray → C.length = 4 → KG G h2 h3 → (∀ h4 h', h4 = h3.push (.cells (List.toArray (C.toArray.toList ++ [])) 118 (0, 0)) → Keep (fun b => b = h.size) h4 h' → KG G h h' → XO h h' G e n (.agg [Value.int .i64 3, .string ⟨#[]⟩, .int .i64 0, .slice (some ⟨h3.size, 0, none⟩) 1 1].toArray) (bindP (unitP e f (o + 1) (t + 1) r) fun q => .ok (exNeg q.1, q.2.1, q.2.2))) →
        asA r3 fun A56 => A56.size = 4 ∧ T ∧ (∀ u ∈ [(.int .i64 3), (.string ⟨#[]⟩), (.int .i64 0), (.slice (some ⟨Array.size h3, 0, none⟩) 1 1)], one u) ∧ storeK (Array.push h3 (.cells (List.toArray (A56.toList ++ [])) 118 (0, 0))) ⟨Array.size h, 0, none⟩ [(.int .i64 3), (.string ⟨#[]⟩), (.int .i64 0), (.slice (some ⟨Array.size h3, 0, none⟩) 1 1)] fun h57 =>
          ∃ C58, cellsH h57 ⟨Array.size h, 0, none⟩ 4 C58 ∧ XO h h57 G e n (.agg C58.toArray) (bindP (unitP e f (o + 1) (t + 1) r) fun q => .ok (exNeg q.1, q.2.1, q.2.2)) := by
      intro T hT C hr hl k3 hfin
      subst hr
      rw [asA_agg]
      refine ⟨by simpa using hl, hT, one4 ⟨_, _, _, rfl⟩, ?_⟩
      have hr3 := k3.get (k2.get hr1 (by omega)) (by omega)
      have k4 := Keep.push (S := fun _ => False) h3 (.cells (List.toArray (C.toArray.toList ++ [])) 118 (0, 0))
      refine retL (R := fun r' h' => XO h h' G e n r' _) (k4.get hr3 (by simp)) rfl rfl fun h' k => hfin _ h' rfl k (kg_set (((k01.trans k2).trans k3).trans (kg_of k4)) (Nat.le_refl _) k)
    have k4 : ∀ C : List Value, Keep (fun _ => False) h3 (h3.push (.cells (List.toArray (C.toArray.toList ++ [])) 118 (0, 0))) := fun C => Keep.push _ _
    cases hres : unitP e f (o + 1) (t + 1) r with
    | error y =>
      rw [hres] at hx key
      obtain ⟨⟨C, hr, hl, hon⟩, hb2, k3⟩ := hx
      refine key (by trivial) C hr hl k3 fun h4 h' he k hk => ⟨J4.of ⟨_, _, _, rfl⟩, ?_, hk⟩
      subst he
      exact (hb2.keep (k4 C) fun _ _ h => h).keep k fun b hb e => by omega
    | ok q =>
      obtain ⟨x, m, ts'⟩ := q
      rw [hres] at hx key
      obtain ⟨⟨w, hr, hex⟩, hp3, k3⟩ := hx
      have hs3 := k3.size
      refine key (by trivial) (exC x w) hr rfl k3 fun h4 h' he k hk => ?_
      rw [bindP_ok]
      have hl4 : h4[h3.size]? = some (.cells (List.toArray ((exC x w).toArray.toList ++ [])) 118 (0, 0)) := by rw [he]; exact hp_push_new
      have k4 : Keep (fun _ => False) h3 h4 := by rw [he]; exact Keep.push _ _
      have z4 : h4.size = h3.size + 1 := by rw [he]; simp
      have hs4 := k.size
      refine ⟨⟨.slice (some ⟨h3.size, 0, none⟩) 1 1, rfl, ?_⟩, (hp3.keep k4 fun _ _ h => h).keep k fun b hb e => by omega, hk⟩
      have hx4 := ExSN.mv hex k4 (N' := Nw h h4) (fun _ _ h => h) fun b hb => ⟨by have := hb.1; omega, by have := hb.2; omega⟩
      refine ExSN.mv (ex1 (N := fun b => h.size < b ∧ b < h4.size) hl4 (ExSN.mv hex k4 (fun _ _ h => h) fun b hb => ⟨by have := hb.1; omega, by have := hb.2; omega⟩) ⟨by omega, by omega⟩) k (fun b hb e => by have := hb.1; omega) fun b hb => ⟨by have := hb.1; omega, by have := hb.2; omega⟩
  -- a number or a name
  have hfin : ∀ {T : Prop} (_ : T) {hh : Hp} {a : Int} {s : ByteArray} {m : Int} {res : PR Ex}, hh[h.size]? = some (.cells #[(.int .i64 0), (.string ⟨#[]⟩), (.int .i64 0), (.slice none 0 0)] 118 (0, 0)) → KG G h hh → (∀ h', Keep (fun b => b = h.size) hh h' → KG G h h' → XO h h' G e n (.agg [Value.int .i64 a, .string s, .int .i64 m, .slice none 0 0].toArray) res) →
      T ∧ (∀ u ∈ [(.int .i64 a), (.string s), (.int .i64 m), (.slice none 0 0)], one u) ∧ storeK hh ⟨Array.size h, 0, none⟩ [(.int .i64 a), (.string s), (.int .i64 m), (.slice none 0 0)] fun h83 => ∃ C84, cellsH h83 ⟨Array.size h, 0, none⟩ 4 C84 ∧ XO h h83 G e n (.agg C84.toArray) res := by
    intro T hT hh a s m res hb hk hf'
    exact ⟨hT, one4 ⟨_, _, _, rfl⟩, retL (R := fun r' h' => XO h h' G e n r' res) hb rfl rfl fun h' k => hf' h' k (kg_set hk (Nat.le_refl _) k)⟩
  refine ⟨match ts with | [] => false | x :: _ => x.kind == 3, ?_, fun _ => ?_⟩
  · obtain ⟨vl, all, at_, a, hb, ht', hd⟩ := hp1.ex
    refine lx hb (j := 1) rfl ?_
    refine lx hb (j := 0) rfl ?_
    refine ht'.tk.len fun _ _ => ?_
    rw [asK_int]
    cases ts with
    | nil =>
      have := ht'.nil hd
      exact cond_f (decide_eq_false (by omega)) ⟨rfl, trivial⟩
    | cons x r =>
      obtain ⟨h1, h2, _⟩ := ht'.cons hd
      refine cond_t (decide_eq_true (by omega)) ?_
      refine lx hb (j := 0) rfl ?_
      refine lx hb (j := 1) rfl ?_
      refine SlAt.rdT (f := Tok.f) (sz := 4) ht'.tk.at_ Tok.len (i := at_) (o := 0) h1 rfl ?_
      rw [asK_int]
      exact ⟨rfl, trivial⟩
  refine cond_c (fun hk => ?_) (fun hk => ?_)
  · cases ts with
    | nil => cases hk
    | cons x r =>
      have hk3 : x.kind = 3 := eq_of_beq hk
      rw [unitP_no hc hc2, if_pos hk3]
      refine CallX.use (of_law (st := .ok (n, t + 1, x :: r)) hp1 3) ?_
      rintro _ h2 ⟨rfl, ho2, k2⟩
      have hkp : kindP e 3 (x :: r) = .ok (x, r) := by rw [kindP_cons, if_pos hk3]
      have ho2 : RG h2 G e n (t + 1) r := by
        have : RO h2 G e (bindP (kindP e 3 (x :: r)) fun q => .ok (n, t + 1, q.2)) := ho2
        rw [hkp] at this
        exact this
      rw [asA_agg]
      rw [tokR_ok hkp]
      show asO (some (Value.int .i64 x.n)) _
      rw [asO_some, oneK_int]
      refine hfin (by trivial) (k2.get hr1 (by omega)) (k01.trans k2) fun h' k hk => ⟨⟨.slice none 0 0, rfl, exsN_nil⟩, ho2.keep k fun b hb e => by omega, hk⟩
  · refine CallX.use (of_law (st := .ok (n, t + 1, ts)) hp1 2) ?_
    rintro _ h2 ⟨rfl, ho2, k2⟩
    have ho2 : RO h2 G e (bindP (kindP e 2 ts) fun q => .ok (n, t + 1, q.2)) := ho2
    have hun : unitP e (f + 1) o t ts = bindP (kindP e 2 ts) fun q => .ok (exName q.1.text, t + 1, q.2) := by
      cases ts with
      | nil =>
        unfold unitP
        rfl
      | cons x r =>
        have hk3 : ¬ x.kind = 3 := beq_eq_false_iff_ne.1 hk
        rw [unitP_no hc hc2, if_neg hk3, kindP_cons]
        by_cases h2 : x.kind = 2
        · rw [if_pos h2, if_pos h2]
          rfl
        · rw [if_neg h2, if_neg h2]
          rfl
    rw [hun, asA_agg]
    show asO (some (Value.string (tokR e 2 (.ok (n, t + 1, ts))).text)) _
    rw [asO_some, oneK_str]
    refine hfin (by trivial) (k2.get hr1 (by omega)) (k01.trans k2) fun h' k hk => ?_
    cases hkp : kindP e 2 ts with
    | error y =>
      rw [hkp] at ho2
      exact ⟨J4.of ⟨_, _, _, rfl⟩, RB.keep ho2 k fun b hb e => by omega, hk⟩
    | ok q =>
      rw [hkp] at ho2
      rw [tokR_ok hkp]
      exact ⟨⟨.slice none 0 0, rfl, exsN_nil⟩, RG.keep ho2 k fun b hb e => by omega, hk⟩
end
end Go.Proofs.YtaehnpilebkcoaaDoor

namespace Go.Proofs.YtaehnpilebkcoaaDoor
open Go Go.Sx Go.Sx.Tk Go.Sx.Rn Go.Proofs.YtaehnpilebkcoaaDoor.Sx

/-- the operation that stands next, of a rank; 0: none -/
def opR (k : Nat) (ts : List Tok) : Int := if k = 0 ∧ isT [60] ts = true then 7 else if k = 0 ∧ isT [61, 61] ts = true then 8 else if k = 1 ∧ isT [43] ts = true then 4 else if k = 1 ∧ isT [45] ts = true then 5 else if k = 2 ∧ isT [42] ts = true then 6 else 0
theorem opR_nil (k : Nat) : opR k [] = 0 := by
  unfold opR isT
  simp
theorem opR_0 (ts : List Tok) : opR 0 ts = if isT [60] ts = true then 7 else if isT [61, 61] ts = true then 8 else 0 := by
  unfold opR
  simp
theorem opR_1 (ts : List Tok) : opR 1 ts = if isT [43] ts = true then 4 else if isT [45] ts = true then 5 else 0 := by
  unfold opR
  simp
theorem opR_2 (ts : List Tok) : opR 2 ts = if isT [42] ts = true then 6 else 0 := by
  unfold opR
  simp
/-- how much there is to do -/
def rdN : List Value → Nat
  | [.slice _ l _, .int _ at_, _, .int _ c, _, _, _] => if c = 0 then l - at_.toNat + 1 else 0
  | _ => 0
def rkN (G : Nat) (h : Hp) : Nat := match h[G]? with
  | some (.cells cs _ _) => rdN cs.toList
  | _ => 0
theorem RG.rkN [Inhabited Nat] {h : Hp} {G : Nat} {e : Int} {n p : Nat} {ts : List Tok} (hp : RG h G e n p ts) : rkN G h = ts.length + 1 := by
  obtain ⟨vl, all, at_, a, hb, ht, hd⟩ := hp.ex
  obtain ⟨a', c, rfl⟩ := ht.tk.form
  unfold Go.Proofs.YtaehnpilebkcoaaDoor.rkN
  rw [hb, ← hd, List.length_drop]
  rfl
theorem RB.rkN [Inhabited Nat] {h : Hp} {G : Nat} {e : Int} {x : Int × Int} (hp : RB h G e x) : rkN G h = 0 := by
  have hne := hp.ne
  obtain ⟨vl, all, at_, n, p, hb, ht⟩ := hp.ex
  obtain ⟨a', c, rfl⟩ := ht.tk.form
  unfold Go.Proofs.YtaehnpilebkcoaaDoor.rkN
  rw [hb]
  show (if x.1 = 0 then _ else 0) = 0
  rw [if_neg hne]
/-- a loop over parts: all is well -/
structure LoopR [Inhabited Nat] (h : Hp) (G : Nat) (e : Int) (n L : Nat) (h' : Hp) (x : Ex) (m : Nat) (ts' : List Tok) (w : Value) : Prop where
  var : h'[L]? = some (.cells (exC x w).toArray 118 (0, 0))
  res : ∃ cur, h'[h.size]? = some (.cells cur 118 (0, 0)) ∧ cur.size = 4
  ex : ExSN h' (Pl h h' L) w x.l
  pa : RG h' G e n m ts'
  k : KG G h h'
  le : m + ts'.length ≤ 20000
/-- a loop over parts: a fault was met -/
structure LoopB [Inhabited Nat] (h : Hp) (G : Nat) (e : Int) (L : Nat) (h' : Hp) (y : Int × Int) : Prop where
  var : ∃ C : List Value, h'[L]? = some (.cells C.toArray 118 (0, 0)) ∧ C.length = 4 ∧ ∀ u ∈ C, one u
  res : ∃ cur, h'[h.size]? = some (.cells cur 118 (0, 0)) ∧ cur.size = 4
  rb : RB h' G e y
  k : KG G h h'
/-- one or the other, and what it means for what is read -/
def LoopO [Inhabited Nat] (h : Hp) (G : Nat) (e : Int) (n L : Nat) (P : PR Ex) (h' : Hp) : Prop := (∃ x m ts' w, P = .ok (x, m, ts') ∧ LoopR h G e n L h' x m ts' w) ∨ ∃ y, P = .error y ∧ LoopB h G e L h' y
section
variable {ω : Amb} {h : Hp} {G : Nat} {e : Int} {n : Nat}
theorem LoopO.ret [Inhabited Nat] {L : Nat} {P : PR Ex} {h1 : Hp} (I : LoopO h G e n L P h1) (hG : G < h.size) (hL : h.size < L) :
    ∃ C105, cellsH h1 ⟨L, 0, none⟩ 4 C105 ∧ C105.toArray.size = 4 ∧ (∀ u ∈ C105.toArray.toList, one u) ∧ storeK h1 ⟨h.size, 0, none⟩ C105.toArray.toList fun h106 => ∃ C107, cellsH h106 ⟨h.size, 0, none⟩ 4 C107 ∧ XO h h106 G e n (.agg C107.toArray) P := by
  rcases I with ⟨x, m, ts', w, rfl, I⟩ | ⟨y, rfl, I⟩
  · obtain ⟨cur, hr, hc⟩ := I.res
    refine ret4 (R := fun r h' => XO h h' G e n r (.ok (x, m, ts'))) I.var hr rfl hc (exC_one I.ex.isSl) fun h' k => ⟨⟨w, rfl, ?_⟩, I.pa.keep k (fun b hb e => by omega), kg_set I.k (Nat.le_refl _) k⟩
    exact ExSN.mv I.ex k (fun b hb e => by have := hb.1; omega) fun b hb => ⟨by have := hb.1; omega, by have := k.size; have := hb.2.1; omega⟩
  · obtain ⟨cur, hr, hc⟩ := I.res
    obtain ⟨C, hv, hl, hon⟩ := I.var
    exact ret4 (R := fun r h' => XO h h' G e n r (.error y)) hv hr hl hc hon fun h' k => ⟨⟨C, rfl, hl, hon⟩, I.rb.keep k (fun b hb e => by omega), kg_set I.k (Nat.le_refl _) k⟩
/-- the first part, laid into the variable -/
theorem LoopO.start [Inhabited Nat] {h0 h1 : Hp} {r : Value} {cur z : Array Value} {P : PR Ex} (hG : G < h.size) (k0 : Keep (fun _ => False) h h0) (hs0 : h0.size = h.size + 1) (hres : h0[h.size]? = some (.cells cur 118 (0, 0))) (hcur : cur.size = 4) (hz : z.size = 4) (hx : XO h0 h1 G e n r P)
    (hle : ∀ q, P = .ok q → q.2.1 + q.2.2.length ≤ 20000) {K : Hp → Prop} (hK : ∀ h', h1.size < h'.size → h.size < h1.size → LoopO h G e n h1.size P h' → K h') :
    asA r fun A2 => A2.size = 4 ∧ (∀ u ∈ A2.toList, one u) ∧ storeK (Array.push h1 (.cells z 118 (0, 0))) ⟨Array.size h1, 0, none⟩ A2.toList K := by
  cases P with
  | ok q =>
    obtain ⟨⟨w, rfl, hx⟩, hp, k1⟩ := hx
    have hs1 := k1.size
    rw [asA_agg]
    refine ⟨rfl, exC_one hx.isSl, storeK_local (cs := exC q.1 w) (by rw [hz]; rfl) ?_⟩
    have hb2 := hp_push_new (h := h1) (o := .cells (exC q.1 w).toArray 118 (0, 0))
    have k2 := Keep.push (S := fun _ => False) h1 (.cells (exC q.1 w).toArray 118 (0, 0))
    have z2 : (h1.push (.cells (exC q.1 w).toArray 118 (0, 0))).size = h1.size + 1 := by simp
    refine hK _ (by omega) (by omega) (.inl ⟨q.1, q.2.1, q.2.2, w, rfl, hb2, ⟨cur, k2.get (k1.get hres (by omega)) (by simp), hcur⟩, ?_, hp.keep k2 (fun _ _ h => h), ((kg_of k0).trans k1).trans (kg_of k2), hle q rfl⟩)
    exact ExSN.mv hx k2 (fun _ _ h => h) fun b hb => ⟨by have := hb.1; omega, by have := hb.2; omega, by have := hb.2; omega⟩
  | error y =>
    obtain ⟨⟨C, rfl, hl, hon⟩, hp, k1⟩ := hx
    have hs1 := k1.size
    rw [asA_agg]
    refine ⟨by simpa using hl, by simpa using hon, ?_⟩
    show storeK (Array.push h1 (.cells z 118 (0, 0))) ⟨Array.size h1, 0, none⟩ C K
    refine storeK_local (cs := C) (by rw [hz]; exact hl) ?_
    have hb2 := hp_push_new (h := h1) (o := .cells C.toArray 118 (0, 0))
    have k2 := Keep.push (S := fun _ => False) h1 (.cells C.toArray 118 (0, 0))
    have z2 : (h1.push (.cells C.toArray 118 (0, 0))).size = h1.size + 1 := by simp
    exact hK _ (by omega) (by omega) (.inr ⟨y, rfl, ⟨C, hb2, hl, hon⟩, ⟨cur, k2.get (k1.get hres (by omega)) (by simp), hcur⟩, hp.keep k2 (fun _ _ h => h), ((kg_of k0).trans k1).trans (kg_of k2)⟩)
/-- two parts' cells side by side -/
theorem two_step {hh : Hp} {L : Nat} {cs D : List Value} {op : Int} (hv : hh[L]? = some (.cells cs.toArray 118 (0, 0))) (hc : cs.length = 4) (hD : D.length = 4) (h1 : ∀ u ∈ D, one u) {T : Prop} (hT : T) {K : Hp → Prop}
    (hK : ∀ h', h'[L]? = some (.cells [Value.int .i64 op, .string ⟨#[]⟩, .int .i64 0, .slice (some ⟨hh.size + 1, 0, none⟩) 2 2].toArray 118 (0, 0)) → h'[hh.size + 1]? = some (.cells (cs ++ D).toArray 118 (0, 0)) → Keep (fun b => b = L) hh h' → h'.size = hh.size + 2 → K h') :
    asA (.agg D.toArray) fun A94 => A94.size = 4 ∧ (∀ u ∈ A94.toList, one u) ∧ storeK (Array.push hh (.cells #[(.int .i64 0), (.string ⟨#[]⟩), (.int .i64 0), (.slice none 0 0)] 118 (0, 0))) ⟨Array.size hh, 0, none⟩ A94.toList fun h95 =>
      ∃ C96, cellsH h95 ⟨L, 0, none⟩ 4 C96 ∧ ∃ C97, cellsH h95 ⟨Array.size hh, 0, none⟩ 4 C97 ∧ C96.toArray.size = 4 ∧ C97.toArray.size = 4 ∧ oneK (.int .i64 op) (T ∧ (∀ u ∈ [(.int .i64 op), (.string ⟨#[]⟩), (.int .i64 0), (.slice (some ⟨Array.size h95, 0, none⟩) 2 2)], one u) ∧
        storeK (Array.push h95 (.cells (List.toArray (two8 C96.toArray.toList C97.toArray.toList)) 118 (0, 0))) ⟨L, 0, none⟩ [(.int .i64 op), (.string ⟨#[]⟩), (.int .i64 0), (.slice (some ⟨Array.size h95, 0, none⟩) 2 2)] K) := by
  have hLt := hp_lt hv
  rw [asA_agg]
  refine ⟨by simpa using hD, by simpa using h1, ?_⟩
  show storeK (Array.push hh (.cells #[(.int .i64 0), (.string ⟨#[]⟩), (.int .i64 0), (.slice none 0 0)] 118 (0, 0))) ⟨Array.size hh, 0, none⟩ D _
  refine storeK_local (cs := D) hD ?_
  have hd1 := hp_push_new (h := hh) (o := .cells D.toArray 118 (0, 0))
  have k1 := Keep.push (S := fun _ => False) hh (.cells D.toArray 118 (0, 0))
  have z1 : (hh.push (.cells D.toArray 118 (0, 0))).size = hh.size + 1 := by simp
  generalize hh.push (.cells D.toArray 118 (0, 0)) = h95 at *
  refine ⟨cs, cellsH_blk (k1.get hv (by simp)) hc, D, cellsH_blk hd1 hD, by simpa using hc, by simpa using hD, ?_⟩
  rw [oneK_int]
  refine ⟨hT, one4 ⟨_, _, _, rfl⟩, ?_⟩
  rw [two8_eq (C := cs.toArray.toList) (D := D.toArray.toList) (by simpa using hc)]
  have hd2 := hp_push_new (h := h95) (o := .cells (List.toArray (cs.toArray.toList ++ D.toArray.toList)) 118 (0, 0))
  have k2 := Keep.push (S := fun _ => False) h95 (.cells (List.toArray (cs.toArray.toList ++ D.toArray.toList)) 118 (0, 0))
  have z2 : (h95.push (.cells (List.toArray (cs.toArray.toList ++ D.toArray.toList)) 118 (0, 0))).size = h95.size + 1 := by simp
  generalize h95.push (.cells (List.toArray (cs.toArray.toList ++ D.toArray.toList)) 118 (0, 0)) = h96 at *
  have hv2 := k2.get (k1.get hv (by simp)) (by simp)
  refine storeK_of (o := 0) hv2 (by simp [hc]) ?_
  rw [spl_all (by simp [hc]), z1]
  have k3 := Keep.set (S := fun b => b = L) (h := h96) (.cells [Value.int .i64 op, .string ⟨#[]⟩, .int .i64 0, .slice (some ⟨hh.size + 1, 0, none⟩) 2 2].toArray 118 (0, 0)) (b := L) rfl
  rw [z1] at hd2
  refine hK _ (hp_set_same hv2) ?_ (((k1.trans k2).mono fun _ _ h => h.elim).trans k3) (by simp; omega)
  exact k3.get (by simpa using hd2) (by omega)
theorem d60 : ∃ c r, bytesOf ⟨#[60]⟩ = c :: r ∧ Tk.dg c = false := ⟨_, _, rfl, by decide⟩
theorem d61 : ∃ c r, bytesOf ⟨#[61, 61]⟩ = c :: r ∧ Tk.dg c = false := ⟨_, _, rfl, by decide⟩
theorem d43 : ∃ c r, bytesOf ⟨#[43]⟩ = c :: r ∧ Tk.dg c = false := ⟨_, _, rfl, by decide⟩
theorem d42 : ∃ c r, bytesOf ⟨#[42]⟩ = c :: r ∧ Tk.dg c = false := ⟨_, _, rfl, by decide⟩
/-- is the rank so, and does a sign stand next? -/
theorem rank_sees [Inhabited Nat] {p k r : Nat} {ts : List Tok} (hp : RG h G e n p ts) (s : ByteArray) (hs : ∃ c r, bytesOf s = c :: r ∧ Tk.dg c = false) {J : Value → Hp → Prop} {X : List PanicEntry → Hp → Prop} (hJ : J (.bool (decide (k = r ∧ isT (bytesOf s) ts = true))) h) :
    asK .i64 (.int .i64 (k : Int)) fun n29 => cond (n29 == (r : Int)) (CallX Tryd.prog ω 44 [pp G, .string s] h (fun r30 h31 => J r30 h31) X) (J (.bool false) h) := by
  rw [asK_int]
  refine cond_c (fun hc => ?_) (fun hc => ?_)
  · have hk : k = r := by have := eq_of_beq hc; omega
    refine CallX.use (sees_law hp s hs) ?_
    rintro _ _ ⟨rfl, rfl⟩
    have : decide (k = r ∧ isT (bytesOf s) ts = true) = isT (bytesOf s) ts := by simp [hk]
    rw [this] at hJ
    exact hJ
  · have hk : k ≠ r := fun hh => by rw [hh] at hc; simp at hc
    have : decide (k = r ∧ isT (bytesOf s) ts = true) = false := by simp [hk]
    rw [this] at hJ
    exact hJ
end
end Go.Proofs.YtaehnpilebkcoaaDoor

namespace Go.Proofs.YtaehnpilebkcoaaDoor
open Go Go.Sx Go.Sx.Tk Go.Sx.Rn Go.Proofs.YtaehnpilebkcoaaDoor.Sx

/-- what a loop over parts of a rank says -/
def loopF (k : Nat) (S : Nat → List Tok → PR Ex) (L : Ex → Nat → List Tok → PR Ex) (x : Ex) (m : Nat) (ts : List Tok) : PR Ex :=
  if opR k ts = 0 then .ok (x, m, ts) else bindP (S m ts.tail) fun q => if k = 0 then .ok (exTwo (opR k ts) x q.1, q.2.1 + 1, q.2.2) else L (exTwo (opR k ts) x q.1) (q.2.1 + 1) q.2.2
theorem cmp_loop (e : Int) (f o n : Nat) (l : List Tok) : cmpP e (f + 1) o n l = bindP (sumP e f o n l) fun r => loopF 0 (sumP e f o) (fun _ _ _ => .error (0, 0)) r.1 r.2.1 r.2.2 := by
  conv => lhs; unfold cmpP
  congr 1
  funext r
  unfold loopF
  rw [opR_0]
  cases h1 : isT [60] r.2.2 with
  | true => simp
  | false =>
    cases h2 : isT [61, 61] r.2.2 with
    | true => simp
    | false => simp
theorem sumL_loop (e : Int) (f o n : Nat) (x : Ex) (l : List Tok) : sumL e (f + 1) o x n l = loopF 1 (prodP e f o) (sumL e f o) x n l := by
  conv => lhs; unfold sumL
  unfold loopF
  rw [opR_1]
  cases h1 : isT [43] l with
  | true => simp
  | false =>
    cases h2 : isT [45] l with
    | true => simp
    | false => simp
theorem prodL_loop (e : Int) (f o n : Nat) (x : Ex) (l : List Tok) : prodL e (f + 1) o x n l = loopF 2 (unitP e f o) (prodL e f o) x n l := by
  conv => lhs; unfold prodL
  unfold loopF
  rw [opR_2]
  cases h1 : isT [42] l with
  | true => simp
  | false => simp
theorem opR_cons {k : Nat} {ts : List Tok} (h : opR k ts ≠ 0) : ∃ t r, ts = t :: r := by
  cases ts with
  | nil => exact absurd (opR_nil k) h
  | cons t r => exact ⟨t, r, rfl⟩
section
variable {ω : Amb} {h : Hp} {G : Nat} {e : Int} {n : Nat}
theorem binary_bad [Inhabited Nat] {x : Int × Int} : ∀ (j k : Nat), k + j = 3 → ∀ (h : Hp), RB h G e x → ∀ (o : Int) (X : List PanicEntry → Hp → Prop),
    CallX Tryd.prog ω n_p_pipewrightref_reading_binary [pp G, .int .i64 (k : Int), .int .i64 o] h (fun r h' => J4 r ∧ RB h' G e x ∧ KG G h h') X := by
  intro j
  induction j with
  | zero =>
    intro k hk h hp o X
    obtain rfl : k = 3 := by omega
    have hlt := hp.lt
    refine C2_p_pipewrightref_reading_binary ω _ _ _ h _ X ?_
    unfold W2_p_pipewrightref_reading_binary
    rw [asK_int]
    refine cond_t rfl ?_
    have hr0 := hp_push_new (h := h) (o := .cells #[(.int .i64 0), (.string ⟨#[]⟩), (.int .i64 0), (.slice none 0 0)] 118 (0, 0))
    have k0 := Keep.push (S := fun _ => False) h (.cells #[(.int .i64 0), (.string ⟨#[]⟩), (.int .i64 0), (.slice none 0 0)] 118 (0, 0))
    generalize h.push (.cells #[(.int .i64 0), (.string ⟨#[]⟩), (.int .i64 0), (.slice none 0 0)] 118 (0, 0)) = h0 at *
    refine CallX.use (fun Y => unit_bad (hp.keep k0 fun _ _ h => h) o Y) ?_
    rintro _ h1 ⟨⟨C, rfl, hl, hon⟩, hp1, k1⟩
    rw [asA_agg]
    refine ⟨by simpa using hl, by simpa using hon, ?_⟩
    exact retL (cs := C) (R := fun r h' => J4 r ∧ RB h' G e x ∧ KG G h h') (k1.get hr0 (by omega)) hl rfl fun h' k => ⟨⟨C, rfl, hl, hon⟩, hp1.keep k fun b hb e => by omega, kg_set ((kg_of k0).trans k1) (Nat.le_refl _) k⟩
  | succ j ih =>
    intro k hk h hp o X
    have hlt := hp.lt
    refine C2_p_pipewrightref_reading_binary ω _ _ _ h _ X ?_
    unfold W2_p_pipewrightref_reading_binary
    rw [asK_int]
    refine cond_f (by simp only [beq_eq_false_iff_ne]; omega) ?_
    rw [asK_int, show IntKind.wrap .i64 ((k : Int) + 1) = ((k + 1 : Nat) : Int) from by rw [i64_in (by omega) (by omega)]; rfl]
    have hr0 := hp_push_new (h := h) (o := .cells #[(.int .i64 0), (.string ⟨#[]⟩), (.int .i64 0), (.slice none 0 0)] 118 (0, 0))
    have k0 := Keep.push (S := fun _ => False) h (.cells #[(.int .i64 0), (.string ⟨#[]⟩), (.int .i64 0), (.slice none 0 0)] 118 (0, 0))
    have z0 : (h.push (.cells #[(.int .i64 0), (.string ⟨#[]⟩), (.int .i64 0), (.slice none 0 0)] 118 (0, 0))).size = h.size + 1 := by simp
    generalize h.push (.cells #[(.int .i64 0), (.string ⟨#[]⟩), (.int .i64 0), (.slice none 0 0)] 118 (0, 0)) = h0 at *
    refine CallX.use (fun Y => ih (k + 1) (by omega) h0 (hp.keep k0 fun _ _ h => h) o Y) ?_
    rintro r h1 hx
    refine LoopO.start (P := .error x) (n := 0) hlt k0 z0 hr0 rfl rfl hx (fun q hq => by cases hq) fun h2 hs hsL I => ?_
    refine ⟨fun h' => h' = h2, ?_, ?_⟩
    · refine ⟨fun h' => h' = h2, fun _ => 0, rfl, ?_⟩
      rintro _ _ rfl
      rcases I with ⟨_, _, _, _, hh, _⟩ | ⟨y, hh, I⟩
      · cases hh
      · cases hh
        refine CallX.use (bad_law (st := .error x) I.rb) ?_
        rintro _ _ ⟨rfl, rfl⟩
        rw [asB_bool]
        exact cond_f rfl rfl
    · rintro _ _ rfl
      have := I.ret hlt hsL
      exact this
set_option maxHeartbeats 1000000 in
theorem bin_law [Inhabited Nat] {k c f g0 : Nat} (hk : k ≤ 2) (hc : k + c = 4) {P S : Nat → Nat → Nat → List Tok → PR Ex} {L : Nat → Nat → Ex → Nat → List Tok → PR Ex} (hg0 : f ≤ g0 ∧ g0 ≤ f + 1)
    (hP : ∀ o n l, P (f + 1) o n l = bindP (S f o n l) fun r => L g0 o r.1 r.2.1 r.2.2) (hL : ∀ g o x m l, L (g + 1) o x m l = loopF k (S g o) (L g o) x m l) (hz0 : k = 0 → g0 = f + 1)
    (hlen : ∀ {g o m l r}, S g o m l = .ok r → Les m l r) (hS : ∀ g, g ≤ f → BB ω e (k + 1) S (c - 1) g) : BB ω e k P c (f + 1) := by
  intro h G ts n o t hp ho ht hf X
  have hlt := hp.lt
  refine C2_p_pipewrightref_reading_binary ω _ _ _ h _ X ?_
  unfold W2_p_pipewrightref_reading_binary
  rw [asK_int]
  refine cond_f (by simp only [beq_eq_false_iff_ne]; omega) ?_
  rw [asK_int, show IntKind.wrap .i64 ((k : Int) + 1) = ((k + 1 : Nat) : Int) from by rw [i64_in (by omega) (by omega)]; rfl]
  have hr0 := hp_push_new (h := h) (o := .cells #[(.int .i64 0), (.string ⟨#[]⟩), (.int .i64 0), (.slice none 0 0)] 118 (0, 0))
  have k0 := Keep.push (S := fun _ => False) h (.cells #[(.int .i64 0), (.string ⟨#[]⟩), (.int .i64 0), (.slice none 0 0)] 118 (0, 0))
  have z0 : (h.push (.cells #[(.int .i64 0), (.string ⟨#[]⟩), (.int .i64 0), (.slice none 0 0)] 118 (0, 0))).size = h.size + 1 := by simp
  generalize h.push (.cells #[(.int .i64 0), (.string ⟨#[]⟩), (.int .i64 0), (.slice none 0 0)] 118 (0, 0)) = h0 at *
  refine CallX.use (fun Y => hS f (Nat.le_refl _) h0 G ts n o t (hp.keep k0 fun _ _ h => h) ho ht (by omega) Y) ?_
  rintro r h1 hx
  refine LoopO.start hlt k0 z0 hr0 rfl rfl hx (fun q hq => by have := (hlen hq).2; omega) fun h2 hs hsL I0 => ?_
  refine ⟨fun h' => LoopO h G e n h1.size (P (f + 1) o t ts) h', ?_, fun _ h' I => ?_⟩
  rotate_left
  · have := I.ret hlt hsL
    exact this
  refine ⟨fun h' => h1.size < h'.size ∧ ((∃ g x m ts' w, 1 ≤ g ∧ g ≤ g0 ∧ 4 * ts'.length + c ≤ g ∧ P (f + 1) o t ts = L g o x m ts' ∧ (k = 0 → g = f + 1) ∧ LoopR h G e n h1.size h' x m ts' w) ∨ ∃ y, P (f + 1) o t ts = .error y ∧ LoopB h G e h1.size h' y), rkN G, ⟨hs, ?_⟩, ?_⟩
  · rcases I0 with ⟨x, m, ts', w, hok, I⟩ | ⟨y, her, I⟩
    · obtain ⟨l1, l2⟩ := hlen hok
      simp only at l1 l2
      exact .inl ⟨g0, x, m, ts', w, by omega, Nat.le_refl _, by omega, by rw [hP, hok]; rfl, hz0, I⟩
    · exact .inr ⟨y, by rw [hP, her]; rfl, I⟩
  rintro _ h3 ⟨hs3, I⟩
  rcases I with ⟨g, x, m, ts', w, h1g, hgg, hg, heq, hgk, I⟩ | ⟨y, heq, I⟩
  rotate_left
  · refine CallX.use (bad_law (st := .error y) I.rb) ?_
    rintro _ _ ⟨rfl, rfl⟩
    rw [asB_bool]
    exact cond_f rfl (.inr ⟨y, heq, I⟩)
  obtain ⟨g, rfl⟩ : ∃ q, g = q + 1 := ⟨g - 1, by omega⟩
  rw [hL] at heq
  refine CallX.use (bad_law (st := .ok (n, m, ts')) I.pa) ?_
  rintro _ _ ⟨rfl, rfl⟩
  rw [asB_bool]
  refine cond_t rfl ?_
  -- which operation
  refine ⟨fun v h' => v = .int .i64 (opR k ts') ∧ h3 = h', ?_, ?_⟩
  · refine ⟨fun v h' => v = .bool (decide (k = 0 ∧ isT [60] ts' = true)) ∧ h3 = h', rank_sees I.pa ⟨#[60]⟩ d60 ⟨rfl, rfl⟩, ?_⟩
    rintro _ _ _ ⟨rfl, rfl⟩
    refine ⟨fun v h' => v = .int .i64 (opR k ts') ∧ h3 = h', ?_, fun _ _ _ hj => hj⟩
    rw [asB_bool]
    refine cond_c (fun hc1 => ⟨by unfold opR; rw [if_pos (of_decide_eq_true hc1)], rfl⟩) (fun hc1 => ?_)
    have hc1 := of_decide_eq_false hc1
    refine ⟨fun v h' => v = .bool (decide (k = 0 ∧ isT [61, 61] ts' = true)) ∧ h3 = h', rank_sees I.pa ⟨#[61, 61]⟩ d61 ⟨rfl, rfl⟩, ?_⟩
    rintro _ _ _ ⟨rfl, rfl⟩
    refine ⟨fun v h' => v = .int .i64 (opR k ts') ∧ h3 = h', ?_, fun _ _ _ hj => hj⟩
    rw [asB_bool]
    refine cond_c (fun hc2 => ⟨by unfold opR; rw [if_neg hc1, if_pos (of_decide_eq_true hc2)], rfl⟩) (fun hc2 => ?_)
    have hc2 := of_decide_eq_false hc2
    refine ⟨fun v h' => v = .bool (decide (k = 1 ∧ isT [43] ts' = true)) ∧ h3 = h', rank_sees I.pa ⟨#[43]⟩ d43 ⟨rfl, rfl⟩, ?_⟩
    rintro _ _ _ ⟨rfl, rfl⟩
    refine ⟨fun v h' => v = .int .i64 (opR k ts') ∧ h3 = h', ?_, fun _ _ _ hj => hj⟩
    rw [asB_bool]
    refine cond_c (fun hc3 => ⟨by unfold opR; rw [if_neg hc1, if_neg hc2, if_pos (of_decide_eq_true hc3)], rfl⟩) (fun hc3 => ?_)
    have hc3 := of_decide_eq_false hc3
    refine ⟨fun v h' => v = .bool (decide (k = 1 ∧ isT [45] ts' = true)) ∧ h3 = h', rank_sees I.pa ⟨#[45]⟩ d45 ⟨rfl, rfl⟩, ?_⟩
    rintro _ _ _ ⟨rfl, rfl⟩
    refine ⟨fun v h' => v = .int .i64 (opR k ts') ∧ h3 = h', ?_, fun _ _ _ hj => hj⟩
    rw [asB_bool]
    refine cond_c (fun hc4 => ⟨by unfold opR; rw [if_neg hc1, if_neg hc2, if_neg hc3, if_pos (of_decide_eq_true hc4)], rfl⟩) (fun hc4 => ?_)
    have hc4 := of_decide_eq_false hc4
    refine ⟨fun v h' => v = .bool (decide (k = 2 ∧ isT [42] ts' = true)) ∧ h3 = h', rank_sees I.pa ⟨#[42]⟩ d42 ⟨rfl, rfl⟩, ?_⟩
    rintro _ _ _ ⟨rfl, rfl⟩
    refine ⟨fun v h' => v = .int .i64 (opR k ts') ∧ h3 = h', ?_, fun _ _ _ hj => hj⟩
    rw [asB_bool]
    refine cond_c (fun hc5 => ⟨by unfold opR; rw [if_neg hc1, if_neg hc2, if_neg hc3, if_neg hc4, if_pos (of_decide_eq_true hc5)], rfl⟩) (fun hc5 => ?_)
    have hc5 := of_decide_eq_false hc5
    exact ⟨by unfold opR; rw [if_neg hc1, if_neg hc2, if_neg hc3, if_neg hc4, if_neg hc5], rfl⟩
  rintro _ _ _ ⟨rfl, rfl⟩
  rw [asK_int]
  refine cond_c (fun hop => ?_) (fun hop => ?_)
  · have hop : opR k ts' = 0 := eq_of_beq hop
    refine .inl ⟨x, m, ts', w, ?_, I⟩
    rw [heq]
    unfold loopF
    rw [if_pos hop]
  have hop : opR k ts' ≠ 0 := fun hh => by rw [hh] at hop; exact absurd hop (by decide)
  unfold loopF at heq
  rw [if_neg hop] at heq
  obtain ⟨y0, r0, rfl⟩ := opR_cons hop
  generalize opR k (y0 :: r0) = op at *
  have heq : P (f + 1) o t ts = bindP (S g o m r0) fun q => if k = 0 then .ok (exTwo op x q.1, q.2.1 + 1, q.2.2) else L g o (exTwo op x q.1) (q.2.1 + 1) q.2.2 := heq
  have hle := I.le
  simp only [List.length_cons] at hg hle
  simp only [nnK_ptr, asP_some]
  refine rg_inc I.pa fun h4 hp4 k4 => ?_
  have hs4 := k4.size
  rw [asK_int, show IntKind.wrap .i64 ((k : Int) + 1) = ((k + 1 : Nat) : Int) from by rw [i64_in (by omega) (by omega)]; rfl]
  refine CallX.use (fun Y => hS g (by omega) h4 G r0 n o m hp4 ho (by omega) (by omega) Y) ?_
  rintro r5 h5 hx5
  -- what is known of the new part
  obtain ⟨D, rfl, hD, hDo, k5⟩ : ∃ D : List Value, r5 = .agg D.toArray ∧ D.length = 4 ∧ (∀ u ∈ D, one u) ∧ KG G h4 h5 := by
    cases hq : S g o m r0 with
    | ok q =>
      rw [hq] at hx5
      obtain ⟨hr, _, kk⟩ := hx5
      obtain ⟨D, h1, h2, h3⟩ := hr.j4
      exact ⟨D, h1, h2, h3, kk⟩
    | error y =>
      rw [hq] at hx5
      obtain ⟨⟨D, h1, h2, h3⟩, _, kk⟩ := hx5
      exact ⟨D, h1, h2, h3, kk⟩
  have hs5 := k5.size
  have k45 := k4.trans k5
  obtain ⟨cur, hres, hcur⟩ := I.res
  refine two_step (k45.get I.var (by omega)) rfl hD hDo (by trivial) fun h6 hv6 hb6 k6 z6 => ?_
  have hs6 := k6.size
  have k06 : KG G h h6 := kg_set (I.k.trans k45) (by omega) k6
  have hres6 := k6.get (k45.get hres (by omega)) (by omega)
  cases hq : S g o m r0 with
  | error y =>
    rw [hq] at heq hx5
    obtain ⟨_, hb5, _⟩ := hx5
    refine rb_part (hb5.keep k6 fun b hb e => by omega) fun h7 hb7 k7 => ?_
    have hv7 := k7.get hv6 (by omega)
    have hI : LoopB h G e h1.size h7 y := ⟨⟨_, hv7, rfl, one4 ⟨_, _, _, rfl⟩⟩, ⟨cur, k7.get hres6 (by omega), hcur⟩, hb7, k06.trans k7⟩
    rw [asK_int]
    refine cond_c (fun _ => .inr ⟨y, heq, hI⟩) (fun _ => ⟨⟨by have := k7.size; omega, .inr ⟨y, heq, hI⟩⟩, ?_⟩)
    rw [hb7.rkN, I.pa.rkN]
    omega
  | ok q =>
    obtain ⟨y, m5, ts5⟩ := q
    obtain ⟨l3, l4⟩ := hlen hq
    simp only at l3 l4
    rw [hq] at heq hx5
    obtain ⟨⟨w2, hw2, hy⟩, hp5, _⟩ := hx5
    have hp5 : RG h5 G e n m5 ts5 := hp5
    have hDe : D = exC y w2 := by
      have := congrArg (fun v => v.cells.toList) hw2
      simpa [Value.cells] using this
    subst hDe
    refine rg_part (hp5.keep k6 fun b hb e => by omega) (by omega) fun h7 hp7 k7 => ?_
    have hs7 := k7.size
    have hv7 := k7.get hv6 (by omega)
    have hb7 := k7.get hb6 (by omega)
    have k37 : Keep (fun b => b = G ∨ b = h1.size) h3 h7 := (((k45.mono fun _ _ h => .inl h).trans (k6.mono fun _ _ h => .inr h))).trans (k7.mono fun _ _ h => .inl h)
    have k57 : Keep (fun b => b = G ∨ b = h1.size) h5 h7 := (k6.mono fun _ _ h => .inr h).trans (k7.mono fun _ _ h => .inl h)
    have hsI := I.k.size
    have hI : LoopR h G e n h1.size h7 (exTwo op x y) (m5 + 1) ts5 (.slice (some ⟨h5.size + 1, 0, none⟩) 2 2) := by
      refine ⟨hv7, ⟨cur, k7.get hres6 (by omega), hcur⟩, ?_, hp7, k06.trans k7, by omega⟩
      refine ⟨exC x w ++ exC y w2, SlN.at_lit hb7 rfl (by decide) ⟨by omega, by omega, by omega⟩, ?_⟩
      show exsAtN h7 _ [x, y] _
      unfold exsAtN
      refine ⟨exAtN_iff.2 ⟨w, rfl, ?_⟩, ?_⟩
      · exact ExSN.mv I.ex k37 (fun b hb e => by have := hb.1; have := hb.2.2; omega) fun b hb => ⟨hb.1, by have := hb.2.1; omega, hb.2.2⟩
      unfold exsAtN
      refine ⟨exAtN_iff.2 ⟨w2, rfl, ?_⟩, by unfold exsAtN; rfl⟩
      exact ExSN.mv hy k57 (fun b hb e => by have := hb.1; omega) fun b hb => ⟨by have := hb.1; omega, by have := hb.2; omega, by have := hb.1; omega⟩
    rw [asK_int]
    rw [bindP_ok] at heq
    refine cond_c (fun hk0 => ?_) (fun hk0 => ?_)
    · have hk0 : k = 0 := by have := eq_of_beq hk0; omega
      rw [if_pos hk0] at heq
      exact .inl ⟨_, _, _, _, heq, hI⟩
    · have hk0 : k ≠ 0 := fun hh => by rw [hh] at hk0; exact absurd hk0 (by decide)
      rw [if_neg hk0] at heq
      refine ⟨⟨by omega, .inl ⟨g, exTwo op x y, m5 + 1, ts5, _, by omega, by omega, by omega, heq, fun hh => absurd hh hk0, hI⟩⟩, ?_⟩
      rw [hp7.rkN, I.pa.rkN]
      simp only [List.length_cons]
      omega
end
end Go.Proofs.YtaehnpilebkcoaaDoor
