/- The document's parser: statements. -/
import Derived.Test.YtaehnpilebkcoaaDoorRi2
namespace Go.Proofs.YtaehnpilebkcoaaDoor
open Go Go.Sx Go.Sx.Tk Go.Sx.Rn Go.Proofs.YtaehnpilebkcoaaDoor.Sx

/-! ### a statement's word -/
def wdo : List Tok → Nat
  | [] => 0
  | t :: _ => if t.kind = 2 then 0 else doW (bytesOf t.text)
theorem wdo_cons (t : Tok) (r : List Tok) : wdo (t :: r) = if t.kind = 2 then 0 else doW (bytesOf t.text) := rfl
theorem doW_inv {s : List UInt8} {j : Nat} (h : doW s = j + 1) : s = stWords.getD j [] := by
  by_cases hk : ∃ k, k < 14 ∧ stWords.getD k [] = s
  · obtain ⟨k, h1, h2⟩ := hk
    have := doW_at k h1
    rw [h2, h] at this
    obtain rfl : j = k := by omega
    exact h2.symm
  · have := doW_no (s := s) fun k h1 h2 => hk ⟨k, h1, h2⟩
    omega
theorem wdo_le (ts : List Tok) : wdo ts ≤ 14 := by
  cases ts with
  | nil => exact Nat.zero_le _
  | cons t r =>
    rw [wdo_cons]
    split
    · exact Nat.zero_le _
    · exact doW_le _
theorem isT_W {j : Nat} (hj : j < 14) (ts : List Tok) : isT (stWords.getD j []) ts = true ↔ wdo ts = j + 1 := by
  cases ts with
  | nil =>
    constructor
    · intro h
      cases h
    · intro h
      cases h
  | cons t r =>
    show (t.kind != 2 && bytesOf t.text == stWords.getD j []) = true ↔ (if t.kind = 2 then 0 else doW (bytesOf t.text)) = j + 1
    by_cases hk : t.kind = 2
    · rw [if_pos hk, hk]
      simp
    · rw [if_neg hk, show (t.kind != 2) = true from by simpa using hk, Bool.true_and, beq_iff_eq]
      exact ⟨fun h => by rw [h]; exact doW_at j hj, doW_inv⟩
theorem stW_lo : ∀ k, k < 14 → (match stWords.getD k [] with | [] => false | c :: _ => lo c) = true := by decide
theorem stW_dg {k : Nat} (hk : k < 14) : ∃ c r, bytesOf (bs (stWords.getD k [])) = c :: r ∧ Tk.dg c = false := by
  have h := stW_lo k hk
  rw [bytes_bs]
  cases hs : stWords.getD k [] with
  | nil =>
    rw [hs] at h
    cases h
  | cons c r =>
    rw [hs] at h
    have h : lo c = true := h
    refine ⟨c, r, rfl, ?_⟩
    cases hd : Tk.dg c with
    | false => rfl
    | true =>
      rw [dg_lo hd] at h
      cases h
theorem wdo_kind {t : Tok} {r : List Tok} (ok : TkOk t) (h : wdo (t :: r) ≠ 0) : t.kind = 1 ∧ wdo (t :: r) = doW (bytesOf t.text) := by
  have hk : t.kind ≠ 2 := fun hk => h (by rw [wdo_cons, if_pos hk])
  have hw : wdo (t :: r) = doW (bytesOf t.text) := by rw [wdo_cons, if_neg hk]
  refine ⟨?_, hw⟩
  have hlo : ∀ c l, bytesOf t.text = c :: l → lo c = true := by
    intro c l hb
    obtain ⟨j, hj⟩ : ∃ j, doW (bytesOf t.text) = j + 1 := ⟨doW (bytesOf t.text) - 1, by omega⟩
    have h14 := doW_le (bytesOf t.text)
    have h1 := doW_inv hj
    have h2 := stW_lo j (by omega)
    rw [← h1, hb] at h2
    exact h2
  rcases ok with h1 | ⟨h1, _⟩ | ⟨_, ⟨c, l, hb, hd⟩, _⟩ | ⟨_, c, l, hb, hd⟩
  · exact h1
  · exact absurd h1 hk
  · have := hlo c l hb
    rw [dg_lo hd] at this
    cases this
  · have := hlo c l hb
    rw [hd] at this
    cases this
/-! ### the parts -/
abbrev fA (t : Tok) (s : Sh) : Sh := { s with a := t.text }
abbrev fB (t : Tok) (s : Sh) : Sh := { s with b := t.text }
abbrev fN (t : Tok) (s : Sh) : Sh := { s with n := t.n }
def ph1 (e : Int) (d : Nat) (r : List Tok) : Except (Int × Int) (Sh × List Tok) := if d ≠ 3 ∧ d ≠ 13 ∧ d ≠ 14 then prOf e 2 fA (.ok ({}, r)) else .ok ({}, r)
def ph2 (e : Int) (d : Nat) (pr : Except (Int × Int) (Sh × List Tok)) : Except (Int × Int) (Sh × List Tok) :=
  if d = 1 ∨ d = 2 then prMust e [61] pr else if d = 4 ∨ d = 5 then prOf e 2 fB pr else if d = 11 ∨ d = 12 then prOf e 2 fB (prMust e [102, 114, 111, 109] pr) else if d = 10 then prList e pr else pr
def ph3 (e : Int) (d : Nat) (pr : Except (Int × Int) (Sh × List Tok)) : Except (Int × Int) (Sh × List Tok) :=
  if d = 4 then prOf e 3 fN (prTyp e pr) else if d = 1 ∨ d = 2 ∨ d = 3 ∨ d = 6 ∨ d = 13 ∨ d = 14 then prExpr e pr else pr
def ph (e : Int) (d : Nat) (r : List Tok) := ph3 e d (ph2 e d (ph1 e d r))
theorem ph_short {e : Int} {d : Nat} (h1 : 1 ≤ d) (h2 : d < 11) (r : List Tok) : ph e d r = shortP e d r := by
  have hd : d = 1 ∨ d = 2 ∨ d = 3 ∨ d = 4 ∨ d = 5 ∨ d = 6 ∨ d = 7 ∨ d = 8 ∨ d = 9 ∨ d = 10 := by omega
  unfold ph ph3 ph2 ph1 shortP
  rcases hd with rfl | rfl | rfl | rfl | rfl | rfl | rfl | rfl | rfl | rfl <;> simp [prOf, prMust, prTyp, prList, prExpr, argsP, bindP_assoc, bindP_ok, nameP_kind, numP_kind]
theorem ph_long {e : Int} {d : Nat} (h1 : 11 ≤ d) (h2 : d ≤ 14) (r : List Tok) : ph e d r = longP e d r := by
  have hd : d = 11 ∨ d = 12 ∨ d = 13 ∨ d = 14 := by omega
  unfold ph ph3 ph2 ph1 longP
  rcases hd with rfl | rfl | rfl | rfl <;> simp [prOf, prMust, prTyp, prList, prExpr, argsP, bindP_assoc, bindP_ok, nameP_kind, numP_kind]
def J9v (r : Value) : Prop := ∃ C : List Value, r = .agg C.toArray ∧ C.length = 9 ∧ ∀ u ∈ C, one u
def VS (h h' : Hp) (r : Value) : PR St → Prop
  | .ok q => StR h h' r q.1
  | .error _ => J9v r
def VB (h h' : Hp) (r : Value) : PR (List St) → Prop
  | .ok q => StSN h' (Nw h h') r q.1
  | .error _ => isSl r
def BLR [Inhabited Nat] (ω : Amb) (e : Int) (f : Nat) : Prop := ∀ (h : Hp) (G : Nat) (st : Except (Int × Int) (Nat × List Tok)) (deep : Nat), RO2 h G e st → deep ≤ 8 → (∀ s, st = .ok s → s.1 ≤ 300 ∧ 3 * s.2.length + 2 ≤ f) → ∀ X : List PanicEntry → Hp → Prop,
  CallX Tryd.prog ω n_p_pipewrightref_reading_block [pp G, .int .i64 ((deep : Int) + 1)] h (fun r h' => VB h h' r (bindP st fun s => blockP e f deep s.1 s.2) ∧ RO2 h' G e (bindP st fun s => bindP (blockP e f deep s.1 s.2) fun q => .ok q.2) ∧ KG G h h') X
def TLR [Inhabited Nat] (ω : Amb) (e : Int) (f : Nat) : Prop := ∀ (h : Hp) (G : Nat) (n : Nat) (ts : List Tok) (deep : Nat), RO2 h G e (.ok (n, ts)) → deep ≤ 8 → n ≤ 300 → 3 * ts.length + 1 ≤ f → ∀ X : List PanicEntry → Hp → Prop,
  CallX Tryd.prog ω n_p_pipewrightref_reading_stmt [pp G, .int .i64 (deep : Int)] h (fun r h' => VS h h' r (stmtP e f deep n ts) ∧ RO2 h' G e (bindP (stmtP e f deep n ts) fun q => .ok q.2) ∧ KG G h h') X
theorem ret9r {hh : Hp} {L B : Nat} {cs : List Value} {cur : Array Value} {R : Value → Hp → Prop} (hL : hh[L]? = some (.cells cs.toArray 65 (0, 0))) (hB : hh[B]? = some (.cells cur 65 (0, 0))) (hc : cs.length = 9) (hcur : cur.size = 9) (h1 : ∀ u ∈ cs, one u)
    (hR : ∀ h', Keep (fun b => b = B) hh h' → R (.agg cs.toArray) h') :
    ∃ C34, cellsH hh ⟨L, 0, none⟩ 9 C34 ∧ C34.toArray.size = 9 ∧ (∀ u ∈ C34.toArray.toList, one u) ∧ storeK hh ⟨B, 0, none⟩ C34.toArray.toList fun h35 => ∃ C36, cellsH h35 ⟨B, 0, none⟩ 9 C36 ∧ R (.agg C36.toArray) h35 := by
  refine ⟨cs, cellsH_blk hL hc, by simpa using hc, by simpa using h1, ?_⟩
  refine storeK_of (o := 0) hB (by rw [hcur]; simp [hc]) ?_
  rw [spl_all (by rw [hcur]; simpa using hc)]
  exact ⟨cs, cellsH_blk (hp_set_same hB) hc, hR _ (Keep.set (S := fun b => b = B) _ rfl)⟩
theorem or2 {d k1 k2 : Nat} {J : Value → Hp → Prop} {hh : Hp} (hJ : J (.bool (decide (d = k1 ∨ d = k2))) hh) : cond ((d : Int) == (k1 : Int)) (J (.bool ((d : Int) == (k1 : Int))) hh) (asK .i64 (.int .i64 (d : Int)) fun n73 => J (.bool (n73 == (k2 : Int))) hh) := by
  refine cond_c (fun hc => ?_) (fun hc => ?_)
  · have : d = k1 := by have := eq_of_beq hc; omega
    rw [hc]
    rw [decide_eq_true (.inl this)] at hJ
    exact hJ
  · have hne : d ≠ k1 := fun hh => by rw [hh] at hc; simp at hc
    rw [asK_int]
    have : ((d : Int) == (k2 : Int)) = decide (d = k1 ∨ d = k2) := by
      rw [Bool.eq_iff_iff, beq_iff_eq, decide_eq_true_eq]
      omega
    rw [this]
    exact hJ
theorem tok2 (t : Tok) : ∃ v, t.f[2]? = some v ∧ one v := ⟨.string t.text, rfl, rfl⟩
theorem tok3 (t : Tok) : ∃ v, t.f[3]? = some v ∧ one v := ⟨.int .i64 t.n, rfl, rfl⟩
theorem deq : ∃ c r, bytesOf ⟨#[61]⟩ = c :: r ∧ Tk.dg c = false := ⟨_, _, rfl, by decide⟩
theorem dfrom : ∃ c r, bytesOf ⟨#[102, 114, 111, 109]⟩ = c :: r ∧ Tk.dg c = false := ⟨_, _, rfl, by decide⟩
theorem d59 : ∃ c r, bytesOf ⟨#[59]⟩ = c :: r ∧ Tk.dg c = false := ⟨_, _, rfl, by decide⟩
theorem delse : ∃ c r, bytesOf ⟨#[101, 108, 115, 101]⟩ = c :: r ∧ Tk.dg c = false := ⟨_, _, rfl, by decide⟩
end Go.Proofs.YtaehnpilebkcoaaDoor

namespace Go.Proofs.YtaehnpilebkcoaaDoor
open Go Go.Sx Go.Sx.Tk Go.Sx.Rn Go.Proofs.YtaehnpilebkcoaaDoor.Sx

section
variable {ω : Amb} {e : Int}
/-- which word stands next: the loop over all words -/
theorem words_loop [Inhabited Nat] {h2 : Hp} {G L B : Nat} {n p : Nat} {ts : List Tok} {at_ : Int} (hGL : G < L) (hBL : B ≠ L) (hw : h2[B]? = some (.cells stWordV.toArray 9 (0, 0))) (hs : ShAt h2 L ((0 : Nat) : Int) at_ {} (.slice none 0 0)) (hp : RG h2 G e n p ts)
    {K : Hp → Prop} (X : List PanicEntry → Hp → Prop) (hK : ∀ h', ShAt h' L ((wdo ts : Nat) : Int) at_ {} (.slice none 0 0) → RG h' G e n p ts → Keep (fun b => b = L) h2 h' → K h') :
    ∃ (I3 : Value → Hp → Prop) (μ4 : Value → Hp → Nat), I3 (.int .i64 0) h2 ∧ ∀ i_5 (_ : Nat → Value) (h7 : Hp), I3 i_5 h7 → asK .i64 i_5 fun n8 => cond (decide ((n8 : Int) < (14 : Int)))
      (∃ J9 : Hp → Prop, (asI i_5 fun n12 => 0 ≤ (n12 : Int) ∧ n12 < (14 : Int) ∧ ∃ v13, cellH h7 (Addr.add ⟨B, 0, none⟩ (Int.toNat n12 * 1)) = some v13 ∧
        CallX Tryd.prog ω n_p_pipewrightref_reading_sees [pp G, v13] h7 (fun r14 h15 => ∃ J16 : Hp → Prop, (asB r14 fun b19 => cond b19
          (asK .i64 i_5 fun n20 => storeK1 h15 (Addr.add ⟨L, 0, none⟩ 0) (.int .i64 (IntKind.wrap .i64 (n20 + 1))) fun h21 => J16 h21)
          (J16 h15)) ∧ ∀ (_ : Nat → Value) (h18 : Hp), J16 h18 → J9 h18) X) ∧
        ∀ (_ : Nat → Value) (h11 : Hp), J9 h11 → asK .i64 i_5 fun n22 => I3 (.int .i64 (IntKind.wrap .i64 (n22 + 1))) h11 ∧ μ4 (.int .i64 (IntKind.wrap .i64 (n22 + 1))) h11 < μ4 i_5 h7)
      (K h7) := by
  have hle := wdo_le ts
  refine ⟨fun v h' => ∃ k : Nat, k ≤ 14 ∧ v = .int .i64 (k : Int) ∧ ShAt h' L (((if wdo ts ≤ k then wdo ts else 0 : Nat)) : Int) at_ {} (.slice none 0 0) ∧ RG h' G e n p ts ∧ Keep (fun b => b = L) h2 h',
    fun v _ => match v with | .int _ k => 14 - k.toNat | _ => 0, ⟨0, by omega, rfl, ?_, hp, Keep.refl _ _⟩, ?_⟩
  · have : (if wdo ts ≤ 0 then wdo ts else 0 : Nat) = 0 := by split <;> omega
    rw [this]
    exact hs
  rintro _ _ h3 ⟨k, hk, rfl, hs3, hp3, k3⟩
  rw [asK_int]
  refine cond_c (fun hc => ?_) (fun hc => ?_)
  rotate_left
  · have : k = 14 := by have := of_decide_eq_false hc; omega
    subst this
    rw [if_pos hle] at hs3
    exact hK h3 hs3 hp3 k3
  have hk14 : k < 14 := by have := of_decide_eq_true hc; omega
  have hst := isT_W hk14 ts
  refine ⟨fun h' => ShAt h' L (((if wdo ts ≤ k + 1 then wdo ts else 0 : Nat)) : Int) at_ {} (.slice none 0 0) ∧ RG h' G e n p ts ∧ Keep (fun b => b = L) h2 h', ?_, ?_⟩
  · show 0 ≤ (k : Int) ∧ (k : Int) < 14 ∧ _
    refine ⟨by omega, by omega, ?_⟩
    rw [Int.toNat_natCast, Nat.mul_one]
    refine lx (k3.get hw hBL) (j := k) (stWordV_at hk14) ?_
    refine CallX.use (sees_law hp3 (bs (stWords.getD k [])) (stW_dg hk14)) ?_
    rintro _ _ ⟨rfl, rfl⟩
    rw [bytes_bs]
    refine ⟨fun h' => ShAt h' L (((if wdo ts ≤ k + 1 then wdo ts else 0 : Nat)) : Int) at_ {} (.slice none 0 0) ∧ RG h' G e n p ts ∧ Keep (fun b => b = L) h2 h', ?_, fun _ _ hj => hj⟩
    rw [asB_bool]
    refine cond_c (fun hT => ?_) (fun hT => ?_)
    · have hw1 := hst.1 hT
      rw [asK_int, i64_in (by omega) (by omega)]
      rw [addr_add]
      refine storeK1_of (o := 0 + 0) hs3 (by simp [shC]) ?_
      rw [show (shC (((if wdo ts ≤ k then wdo ts else 0 : Nat)) : Int) at_ {} (.slice none 0 0) (.slice none 0 0) (.slice none 0 0)).toArray.setIfInBounds (0 + 0) (.int .i64 ((k : Int) + 1)) = (shC (((k + 1 : Nat)) : Int) at_ {} (.slice none 0 0) (.slice none 0 0) (.slice none 0 0)).toArray from by simp [shC]]
      have k' := Keep.set (S := fun b => b = L) (h := h3) (.cells (shC (((k + 1 : Nat)) : Int) at_ {} (.slice none 0 0) (.slice none 0 0) (.slice none 0 0)).toArray 65 (0, 0)) (b := L) rfl
      refine ⟨?_, hp3.keep k' fun b hb e => by omega, k3.trans k'⟩
      rw [if_pos (by omega), hw1]
      exact hp_set_same hs3
    · have hw1 : wdo ts ≠ k + 1 := fun hh => by rw [hst.2 hh] at hT; cases hT
      refine ⟨?_, hp3, k3⟩
      have : (if wdo ts ≤ k + 1 then wdo ts else 0 : Nat) = (if wdo ts ≤ k then wdo ts else 0 : Nat) := by
        by_cases h1 : wdo ts ≤ k
        · rw [if_pos h1, if_pos (by omega)]
        · rw [if_neg h1, if_neg (by omega)]
      rw [this]
      exact hs3
  rintro _ h4 ⟨hs4, hp4, k4⟩
  rw [asK_int, i64_in (by omega) (by omega)]
  refine ⟨⟨k + 1, by omega, by push_cast; rfl, hs4, hp4, k4⟩, ?_⟩
  show 14 - ((k : Int) + 1).toNat < 14 - ((k : Int)).toNat
  omega
end
end Go.Proofs.YtaehnpilebkcoaaDoor

namespace Go.Proofs.YtaehnpilebkcoaaDoor
open Go Go.Sx Go.Sx.Tk Go.Sx.Rn Go.Proofs.YtaehnpilebkcoaaDoor.Sx

section
variable {ω : Amb} {e : Int}
/-- 'r.stmts++' -/
theorem rg_stmt [Inhabited Nat] {h : Hp} {G n p : Nat} {ts : List Tok} (hp : RG h G e n p ts) (hn : n ≤ 300) {K : Hp → Prop} (hK : ∀ h', RG h' G e (n + 1) p ts → KG G h h' → K h') :
    ∃ v, cellH h (Addr.add ⟨G, 0, none⟩ 5) = some v ∧ asK .i64 v fun m => storeK1 h (Addr.add ⟨G, 0, none⟩ 5) (.int .i64 (IntKind.wrap .i64 (m + 1))) K := by
  obtain ⟨vl, all, at_, a, hb, ht, hd⟩ := hp.ex
  refine lx hb (j := 5) rfl ?_
  rw [asK_int, i64_in (by omega) (by omega), addr_add, Nat.zero_add]
  refine storeK1_of (o := 5) hb (by simp [rds]) ?_
  rw [show (rds vl ((at_ : Nat) : Int) e 0 a n p).toArray.setIfInBounds 5 (.int .i64 ((n : Int) + 1)) = (rds vl ((at_ : Nat) : Int) e 0 a ((n + 1 : Nat) : Int) p).toArray from by simp [rds]]
  have k2 := Keep.set (S := fun b => b = G) (h := h) (.cells (rds vl ((at_ : Nat) : Int) e 0 a ((n + 1 : Nat) : Int) p).toArray 75 (0, 0)) (b := G) rfl
  exact hK _ ⟨vl, all, at_, a, hp_set_same hb, ht.keep k2 fun b hb e => by omega, hd⟩ k2
theorem stmt_eq {f deep n : Nat} {t : Tok} {r : List Tok} (hk : t.kind = 1) (hw : wdo (t :: r) = doW (bytesOf t.text)) (hd : wdo (t :: r) ≠ 0) (hn : n ≠ 300) : stmtP e (f + 1) deep n (t :: r) =
    if wdo (t :: r) < 11 then bindP (ph e (wdo (t :: r)) r) fun s => bindP (wantP e [59] s.2) fun l => .ok (.mk (wdo (t :: r) : Nat) t.at_ s.1.a s.1.b s.1.t s.1.n s.1.e [] [], n + 1, l)
    else bindP (ph e (wdo (t :: r)) r) fun s => bindP (blockP e f deep (n + 1) s.2) fun b =>
      if (wdo (t :: r) = 11 ∨ wdo (t :: r) = 14) ∧ isT [101, 108, 115, 101] b.2.2 = true then
        bindP (blockP e f deep b.2.1 b.2.2.tail) fun q => .ok (.mk (wdo (t :: r) : Nat) t.at_ s.1.a s.1.b ⟨#[]⟩ 0 s.1.e b.1 q.1, q.2.1, q.2.2)
      else .ok (.mk (wdo (t :: r) : Nat) t.at_ s.1.a s.1.b ⟨#[]⟩ 0 s.1.e b.1 [], b.2.1, b.2.2) := by
  have hle := wdo_le (t :: r)
  rw [stmtP_cons, ← hw, if_pos ⟨hk, hd⟩, if_neg hn]
  by_cases h11 : wdo (t :: r) < 11
  · rw [if_pos h11, if_pos h11, ph_short (by omega) h11]
  · rw [if_neg h11, if_neg h11, ph_long (by omega) hle]
set_option maxHeartbeats 4000000 in
set_option maxRecDepth 100000 in
theorem stmt_lawR [Inhabited Nat] {f : Nat} (hB : BLR ω e f) : TLR ω e (f + 1) := by
  intro h G n ts deep hp hd8 hn hf X
  obtain ⟨p, hp⟩ := hp
  have hp : RG h G e n p ts := hp
  have hlt := hp.lt
  refine C_p_pipewrightref_reading_stmt ω _ _ h _ X ?_
  unfold W_p_pipewrightref_reading_stmt
  have hr0 := hp_push_new (h := h) (o := .cells #[(.int .i64 0), (.int .i64 0), (.string ⟨#[]⟩), (.string ⟨#[]⟩), (.string ⟨#[]⟩), (.int .i64 0), (.slice none 0 0), (.slice none 0 0), (.slice none 0 0)] 65 (0, 0))
  have k0 := Keep.push (S := fun _ => False) h (.cells #[(.int .i64 0), (.int .i64 0), (.string ⟨#[]⟩), (.string ⟨#[]⟩), (.string ⟨#[]⟩), (.int .i64 0), (.slice none 0 0), (.slice none 0 0), (.slice none 0 0)] 65 (0, 0))
  have z0 : (h.push (.cells #[(.int .i64 0), (.int .i64 0), (.string ⟨#[]⟩), (.string ⟨#[]⟩), (.string ⟨#[]⟩), (.int .i64 0), (.slice none 0 0), (.slice none 0 0), (.slice none 0 0)] 65 (0, 0))).size = h.size + 1 := by simp
  generalize h.push (.cells #[(.int .i64 0), (.int .i64 0), (.string ⟨#[]⟩), (.string ⟨#[]⟩), (.string ⟨#[]⟩), (.int .i64 0), (.slice none 0 0), (.slice none 0 0), (.slice none 0 0)] 65 (0, 0)) = h0 at *
  have hw1 := hp_push_new (h := h0) (o := .cells stWordV.toArray 9 (0, 0))
  have k1 := Keep.push (S := fun _ => False) h0 (.cells stWordV.toArray 9 (0, 0))
  have z1 : (h0.push (.cells stWordV.toArray 9 (0, 0))).size = h0.size + 1 := by simp
  show CallX Tryd.prog ω _ _ (h0.push (.cells stWordV.toArray 9 (0, 0))) _ X
  generalize h0.push (.cells stWordV.toArray 9 (0, 0)) = h1 at *
  have k01 := k0.trans k1
  have hp1 := hp.keep k01 fun _ _ h => h
  refine CallX.use (place_law hp1) ?_
  rintro _ _ ⟨rfl, rfl⟩
  rw [oneK_int]
  refine ⟨rfl, shC_one (d := 0) (at_ := plc e ts) (s := {}) nilSl nilSl nilSl, ?_⟩
  show storeK _ _ (shC ((0 : Nat) : Int) (plc e ts) {} (.slice none 0 0) (.slice none 0 0) (.slice none 0 0)) _
  refine storeK_local (cs := shC ((0 : Nat) : Int) (plc e ts) {} (.slice none 0 0) (.slice none 0 0) (.slice none 0 0)) rfl ?_
  have hs2 := hp_push_new (h := h1) (o := .cells (shC ((0 : Nat) : Int) (plc e ts) {} (.slice none 0 0) (.slice none 0 0) (.slice none 0 0)).toArray 65 (0, 0))
  have k2 := Keep.push (S := fun _ => False) h1 (.cells (shC ((0 : Nat) : Int) (plc e ts) {} (.slice none 0 0) (.slice none 0 0) (.slice none 0 0)).toArray 65 (0, 0))
  have z2 : (h1.push (.cells (shC ((0 : Nat) : Int) (plc e ts) {} (.slice none 0 0) (.slice none 0 0) (.slice none 0 0)).toArray 65 (0, 0))).size = h1.size + 1 := by simp
  generalize h1.push (.cells (shC ((0 : Nat) : Int) (plc e ts) {} (.slice none 0 0) (.slice none 0 0) (.slice none 0 0)).toArray 65 (0, 0)) = h2 at *
  have k02 := k01.trans k2
  have hp2 := hp1.keep k2 fun _ _ h => h
  have hr2 := k2.get (k1.get hr0 (by simp)) (by simp)
  rw [z0] at hw1
  have hw2 := k2.get hw1 (by simp)
  have hGL : G < h1.size := by omega
  refine words_loop (B := h0.size) hGL (by omega) (by rw [z0]; exact hw2) hs2 hp2 X fun h3 hs3 hp3 k3 => ?_
  have hs3s := k3.size
  have k03 : KG G h h3 := kg_set (kg_of k02) (by omega) k3
  have hr3 := k3.get hr2 (by omega)
  -- handing back what is in the block
  have back : ∀ {hh : Hp} {C : List Value} {R : Value → Hp → Prop}, hh[h1.size]? = some (.cells C.toArray 65 (0, 0)) → C.length = 9 → (∀ u ∈ C, one u) → KGB G h1.size h3 hh → (∀ h', Keep (fun b => b = h.size) hh h' → KG G h h' → R (.agg C.toArray) h') →
      ∃ C34, cellsH hh ⟨h1.size, 0, none⟩ 9 C34 ∧ C34.toArray.size = 9 ∧ (∀ u ∈ C34.toArray.toList, one u) ∧ storeK hh ⟨Array.size h, 0, none⟩ C34.toArray.toList fun h35 => ∃ C36, cellsH h35 ⟨Array.size h, 0, none⟩ 9 C36 ∧ R (.agg C36.toArray) h35 := by
    intro hh C R hb hl hon kk hR
    refine ret9r hb (kk.get hr3 (by omega)) hl rfl hon fun h' k => hR h' k ?_
    exact kg_set (k03.newer (kk.mono fun b hb e => by omega)) (Nat.le_refl _) k
  refine lx hs3 (j := 0) rfl ?_
  rw [asK_int]
  refine cond_c (fun h00 => ?_) (fun h00 => ?_)
  · -- no statement's word
    have h00 : wdo ts = 0 := by have := eq_of_beq h00; omega
    have hun : stmtP e (f + 1) deep n ts = .error (pErr e 5 ts) := by
      cases ts with
      | nil => rw [stmtP_nil]; rfl
      | cons t r =>
        rw [stmtP_cons, if_neg]
        · rfl
        · rintro ⟨h1, h2⟩
          rw [wdo_cons, if_neg (by rw [h1]; decide)] at h00
          exact h2 h00
    rw [hun]
    refine CallX.use (wrong_law hp3 5 (by decide)) ?_
    rintro _ h4 ⟨hb4, k4⟩
    refine back (R := fun r h' => VS h h' r (.error (pErr e 5 ts)) ∧ RO2 h' G e (bindP (.error (pErr e 5 ts)) fun q : St × Nat × List Tok => .ok q.2) ∧ KG G h h') (k4.get hs3 (by omega)) rfl (shC_one nilSl nilSl nilSl) (kgb_of k4) fun h' k hk => ⟨⟨_, rfl, rfl, shC_one nilSl nilSl nilSl⟩, hb4.keep k fun b hb e => by omega, hk⟩
  have h00 : wdo ts ≠ 0 := fun hh => by rw [hh] at h00; exact absurd h00 (by decide)
  obtain ⟨t, r, rfl⟩ : ∃ t r, ts = t :: r := by
    cases ts with
    | nil => exact absurd rfl h00
    | cons t r => exact ⟨t, r, rfl⟩
  have htok : TkOk t := by
    obtain ⟨vl, all, at_, a, hb, ht, hd⟩ := hp.ex
    exact ht.ok t (List.mem_of_mem_drop (hd ▸ List.mem_cons_self))
  obtain ⟨hk1, hwd⟩ := wdo_kind htok h00
  have hd14 := wdo_le (t :: r)
  have hplc : plc e (t :: r) = t.at_ := rfl
  rw [hplc] at hs3
  simp only [pp_nn, asP_some]
  obtain ⟨vl3, all3, at3, a3, hb3, ht3, hdr3⟩ := hp3.ex
  refine lx hb3 (j := 5) rfl ?_
  rw [asK_int]
  refine cond_c (fun h300 => ?_) (fun h300 => ?_)
  · have h300 : n = 300 := by have := of_decide_eq_true h300; omega
    have hun : stmtP e (f + 1) deep n (t :: r) = .error (pErr e 8 (t :: r)) := by
      rw [stmtP_cons, if_pos ⟨hk1, by rw [← hwd]; exact h00⟩, if_pos h300]
      rfl
    rw [hun]
    refine CallX.use (wrong_law hp3 8 (by decide)) ?_
    rintro _ h4 ⟨hb4, k4⟩
    refine back (R := fun r' h' => VS h h' r' (.error (pErr e 8 (t :: r))) ∧ RO2 h' G e (bindP (.error (pErr e 8 (t :: r))) fun q : St × Nat × List Tok => .ok q.2) ∧ KG G h h') (k4.get hs3 (by omega)) rfl (shC_one nilSl nilSl nilSl) (kgb_of k4) fun h' k hk => ⟨⟨_, rfl, rfl, shC_one nilSl nilSl nilSl⟩, hb4.keep k fun b hb e => by omega, hk⟩
  have h300 : n ≠ 300 := by have := of_decide_eq_false h300; omega
  have hun := stmt_eq (e := e) (f := f) (deep := deep) hk1 hwd h00 h300
  generalize hdd : wdo (t :: r) = d at *
  refine rg_stmt hp3 hn fun h4 hp4 k4 => ?_
  refine rg_inc hp4 fun h5 hp5 k5 => ?_
  have k45 := k4.trans k5
  have hs5 := k45.size
  simp only [List.length_cons] at hf
  have hp0 : Ph h3 G h1.size e d (n + 1) t.at_ (.ok ({}, r)) h5 := ⟨⟨.slice none 0 0, k45.get hs3 (by omega), exsN_nil⟩, ⟨p, hp5⟩, kgb_of k45⟩
  have hLL : h1.size < h3.size := by omega
  -- the name
  refine ⟨decide (d ≠ 3 ∧ d ≠ 13 ∧ d ≠ 14), ?_, fun _ => ?_⟩
  · refine hp0.do_ ?_
    rw [asK_int]
    refine cond_c (fun hc => ?_) (fun hc => ?_)
    · have hc : d ≠ 3 := fun hh => by rw [hh] at hc; exact absurd hc (by decide)
      refine hp0.do_ ?_
      rw [asK_int]
      refine cond_c (fun hc2 => ?_) (fun hc2 => ?_)
      · have hc2 : d ≠ 13 := fun hh => by rw [hh] at hc2; exact absurd hc2 (by decide)
        refine hp0.do_ ?_
        rw [asK_int]
        refine ⟨?_, by trivial⟩
        congr 1
        rw [Bool.eq_iff_iff, bne_iff_ne, decide_eq_true_eq]
        omega
      · have hc2 : d = 13 := by simp at hc2; omega
        exact ⟨by rw [decide_eq_false (by omega)], by trivial⟩
    · have hc : d = 3 := by simp at hc; omega
      exact ⟨by rw [decide_eq_false (by omega)], by trivial⟩
  refine ⟨fun h' => Ph h3 G h1.size e d (n + 1) t.at_ (ph1 e d r) h', ?_, ?_⟩
  · refine cond_c (fun hc => ?_) (fun hc => ?_)
    · have hc := of_decide_eq_true hc
      refine ph_of hp0 hGL hLL 2 fA tok2 (by decide) (by decide) (fun t s ve v hv => by cases hv; rfl) (fun _ _ => rfl) X fun h' hp => ?_
      unfold ph1
      rw [if_pos hc]
      exact hp
    · unfold ph1
      rw [if_neg (of_decide_eq_false hc)]
      exact hp0
  clear hp0 hp5 hp4 hb3 hs5 k45 k5 k4
  rintro _ h6 hp6
  refine hp6.do_ ?_
  -- what stands behind the name
  refine ⟨fun h' => Ph h3 G h1.size e d (n + 1) t.at_ (ph2 e d (ph1 e d r)) h', ?_, ?_⟩
  · rw [asK_int]
    refine ⟨fun v h' => v = .bool (decide (d = 1 ∨ d = 2)) ∧ h6 = h', or2 (J := fun v h' => v = .bool (decide (d = 1 ∨ d = 2)) ∧ h6 = h') ⟨rfl, rfl⟩, ?_⟩
    rintro _ _ _ ⟨rfl, rfl⟩
    refine ⟨fun h' => Ph h3 G h1.size e d (n + 1) t.at_ (ph2 e d (ph1 e d r)) h', ?_, fun _ _ hj => hj⟩
    rw [asB_bool]
    unfold ph2
    refine cond_c (fun hc => ?_) (fun hc => ?_)
    · rw [if_pos (of_decide_eq_true hc)]
      exact ph_must hp6 hGL hLL ⟨#[61]⟩ deq X
    rw [if_neg (of_decide_eq_false hc), asK_int]
    refine ⟨fun v h' => v = .bool (decide (d = 4 ∨ d = 5)) ∧ h6 = h', or2 (J := fun v h' => v = .bool (decide (d = 4 ∨ d = 5)) ∧ h6 = h') ⟨rfl, rfl⟩, ?_⟩
    rintro _ _ _ ⟨rfl, rfl⟩
    refine ⟨fun h' => Ph h3 G h1.size e d (n + 1) t.at_ _ h', ?_, fun _ _ hj => hj⟩
    rw [asB_bool]
    refine cond_c (fun hc => ?_) (fun hc => ?_)
    · rw [if_pos (of_decide_eq_true hc)]
      exact ph_of hp6 hGL hLL 2 fB tok2 (by decide) (by decide) (fun t s ve v hv => by cases hv; rfl) (fun _ _ => rfl) X fun h' hp => hp
    rw [if_neg (of_decide_eq_false hc), asK_int]
    refine ⟨fun v h' => v = .bool (decide (d = 11 ∨ d = 12)) ∧ h6 = h', or2 (J := fun v h' => v = .bool (decide (d = 11 ∨ d = 12)) ∧ h6 = h') ⟨rfl, rfl⟩, ?_⟩
    rintro _ _ _ ⟨rfl, rfl⟩
    refine ⟨fun h' => Ph h3 G h1.size e d (n + 1) t.at_ _ h', ?_, fun _ _ hj => hj⟩
    rw [asB_bool]
    refine cond_c (fun hc => ?_) (fun hc => ?_)
    · rw [if_pos (of_decide_eq_true hc)]
      refine CallX.use (fun Y => ph_must hp6 hGL hLL ⟨#[102, 114, 111, 109]⟩ dfrom Y) ?_
      intro _ h7 hp7
      exact ph_of hp7 hGL hLL 2 fB tok2 (by decide) (by decide) (fun t s ve v hv => by cases hv; rfl) (fun _ _ => rfl) X fun h' hp => hp
    rw [if_neg (of_decide_eq_false hc), asK_int]
    refine ⟨fun h' => Ph h3 G h1.size e d (n + 1) t.at_ _ h', ?_, fun _ _ hj => hj⟩
    refine cond_c (fun hc => ?_) (fun hc => ?_)
    · have hc : d = 10 := by have := eq_of_beq hc; omega
      rw [if_pos hc]
      exact ph_list hp6 hGL hLL X fun h' hp => hp
    · have hc : d ≠ 10 := fun hh => by rw [hh] at hc; exact absurd hc (by decide)
      rw [if_neg hc]
      exact hp6
  clear hp6
  rintro _ h7 hp7
  refine hp7.do_ ?_
  -- a type and a number, or an expression
  refine ⟨fun h' => Ph h3 G h1.size e d (n + 1) t.at_ (ph e d r) h', ?_, ?_⟩
  · rw [asK_int]
    refine ⟨fun h' => Ph h3 G h1.size e d (n + 1) t.at_ (ph e d r) h', ?_, fun _ _ hj => hj⟩
    unfold ph ph3
    refine cond_c (fun hc => ?_) (fun hc => ?_)
    · have hc : d = 4 := by have := eq_of_beq hc; omega
      rw [if_pos hc]
      refine ph_typ hp7 hGL hLL X fun h8 hp8 => ?_
      exact ph_of hp8 hGL hLL 3 fN tok3 (by decide) (by decide) (fun t s ve v hv => by cases hv; rfl) (fun _ _ => rfl) X fun h' hp => hp
    have hc : d ≠ 4 := fun hh => by rw [hh] at hc; exact absurd hc (by decide)
    rw [if_neg hc, asK_int]
    have hne : ∀ {k : Nat}, ((d : Int) == (k : Int)) = false → d ≠ k := fun h hh => by rw [hh] at h; simp at h
    have heq : ∀ {k : Nat}, ((d : Int) == (k : Int)) = true → d = k := fun h => by have := eq_of_beq h; omega
    refine ⟨fun v h' => v = .bool (decide (d = 1 ∨ d = 2 ∨ d = 3 ∨ d = 6 ∨ d = 13 ∨ d = 14)) ∧ h7 = h', ?_, ?_⟩
    · refine cond_c (fun h1 => ⟨by rw [h1, decide_eq_true]; have := heq (k := 1) h1; omega, rfl⟩) (fun h1 => ?_)
      have h1 := hne (k := 1) h1
      rw [asK_int]
      refine ⟨fun v h' => v = .bool (decide (d = 1 ∨ d = 2 ∨ d = 3 ∨ d = 6 ∨ d = 13 ∨ d = 14)) ∧ h7 = h', ?_, fun _ _ _ hj => hj⟩
      refine cond_c (fun h2 => ⟨by rw [h2, decide_eq_true]; have := heq (k := 2) h2; omega, rfl⟩) (fun h2 => ?_)
      have h2 := hne (k := 2) h2
      rw [asK_int]
      refine ⟨fun v h' => v = .bool (decide (d = 1 ∨ d = 2 ∨ d = 3 ∨ d = 6 ∨ d = 13 ∨ d = 14)) ∧ h7 = h', ?_, fun _ _ _ hj => hj⟩
      refine cond_c (fun h3 => ⟨by rw [h3, decide_eq_true]; have := heq (k := 3) h3; omega, rfl⟩) (fun h3 => ?_)
      have h3 := hne (k := 3) h3
      rw [asK_int]
      refine ⟨fun v h' => v = .bool (decide (d = 1 ∨ d = 2 ∨ d = 3 ∨ d = 6 ∨ d = 13 ∨ d = 14)) ∧ h7 = h', ?_, fun _ _ _ hj => hj⟩
      refine cond_c (fun h4 => ⟨by rw [h4, decide_eq_true]; have := heq (k := 6) h4; omega, rfl⟩) (fun h4 => ?_)
      have h4 := hne (k := 6) h4
      rw [asK_int]
      refine ⟨fun v h' => v = .bool (decide (d = 1 ∨ d = 2 ∨ d = 3 ∨ d = 6 ∨ d = 13 ∨ d = 14)) ∧ h7 = h', ?_, fun _ _ _ hj => hj⟩
      refine cond_c (fun h5 => ⟨by rw [h5, decide_eq_true]; have := heq (k := 13) h5; omega, rfl⟩) (fun h5 => ?_)
      have h5 := hne (k := 13) h5
      rw [asK_int]
      refine ⟨?_, rfl⟩
      congr 1
      rw [Bool.eq_iff_iff, beq_iff_eq, decide_eq_true_eq]
      omega
    rintro _ _ _ ⟨rfl, rfl⟩
    refine ⟨fun h' => Ph h3 G h1.size e d (n + 1) t.at_ _ h', ?_, fun _ _ hj => hj⟩
    rw [asB_bool]
    refine cond_c (fun hc => ?_) (fun hc => ?_)
    · rw [if_pos (of_decide_eq_true hc)]
      exact ph_expr hp7 hGL hLL X fun h' hp => hp
    · rw [if_neg (of_decide_eq_false hc)]
      exact hp7
  clear hp7
  rintro _ h8 hp8
  have hlen : ∀ q, ph e d r = .ok q → q.2.length < r.length ∧ (¬ d < 11 → q.1.t = ⟨#[]⟩ ∧ q.1.n = 0) := by
    intro q hq
    by_cases h11 : d < 11
    · rw [ph_short (by omega) h11] at hq
      exact ⟨shortP_len hq, fun hh => absurd h11 hh⟩
    · rw [ph_long (by omega) hd14] at hq
      exact ⟨longP_len hq, fun _ => longP_tn hq⟩
  generalize ph e d r = pr at *
  refine hp8.do_ ?_
  rw [asK_int]
  refine cond_c (fun hc => ?_) (fun hc => ?_)
  · -- without blocks
    have hc : d < 11 := by have := of_decide_eq_true hc; omega
    rw [if_pos hc] at hun
    refine CallX.use (fun Y => ph_must hp8 hGL hLL ⟨#[59]⟩ d59 Y) ?_
    intro _ h9 hp9
    have hun : stmtP e (f + 1) deep n (t :: r) = bindP (prMust e [59] pr) fun q => .ok (.mk (d : Nat) t.at_ q.1.a q.1.b q.1.t q.1.n q.1.e [] [], n + 1, q.2) := by
      rw [hun, prMust, bindP_assoc]
      congr 1
      funext q
      rw [bindP_assoc]
      rfl
    rw [hun]
    have hp9 : Ph h3 G h1.size e d (n + 1) t.at_ (prMust e [59] pr) h9 := hp9
    generalize prMust e [59] pr = pr9 at *
    obtain ⟨C, hb, hl, hon, _⟩ := hp9.cells
    refine back (R := fun r' h' => VS h h' r' (bindP pr9 fun q => .ok (.mk (d : Nat) t.at_ q.1.a q.1.b q.1.t q.1.n q.1.e [] [], n + 1, q.2)) ∧ RO2 h' G e (bindP (bindP pr9 fun q => .ok (St.mk (d : Nat) t.at_ q.1.a q.1.b q.1.t q.1.n q.1.e [] [], n + 1, q.2)) fun q : St × Nat × List Tok => .ok q.2) ∧ KG G h h') hb hl hon hp9.k fun h' k hk => ⟨?_, ?_, hk⟩
    · cases pr9 with
      | error y => exact ⟨C, rfl, hl, hon⟩
      | ok q =>
        obtain ⟨ve, h5, h6⟩ := hp9.val
        have hC : C = shC d t.at_ q.1 ve (.slice none 0 0) (.slice none 0 0) := by
          have h5 : h9[h1.size]? = some (.cells (shC d t.at_ q.1 ve (.slice none 0 0) (.slice none 0 0)).toArray 65 (0, 0)) := h5
          rw [hb] at h5
          have := Option.some.inj h5
          simpa using this
        subst hC
        refine ⟨ve, .slice none 0 0, .slice none 0 0, rfl, ExSN.mv h6 k (fun b hb e => by have := hb.1; omega) fun b hb => ⟨by have := hb.1; omega, by have := hb.2; have := k.size; omega⟩, stsN_nil, stsN_nil⟩
    · have := hp9.ro
      rw [bindP_assoc]
      exact this.keep k fun b hb e => by omega
  -- with blocks
  have hc : ¬ d < 11 := by have := of_decide_eq_false hc; omega
  rw [if_neg hc] at hun
  rw [asK_int, i64_in (by omega) (by omega)]
  have h83 := hp8.k.size
  refine CallX.use (fun Y => hB h8 G (bindP pr fun q => .ok (n + 1, q.2)) deep hp8.ro hd8 (fun s hs => ?_) Y) ?_
  · obtain ⟨q, h1, h2⟩ := bindP_okk hs
    cases h2
    have := (hlen q h1).1
    exact ⟨by show n + 1 ≤ 300; omega, by show 3 * q.2.length + 2 ≤ f; omega⟩
  rintro vb h9 ⟨hvb, hro9, k9⟩
  have hs9 := k9.size
  -- the block of the statement, once more
  have key : ∀ {h10 : Hp} {C : List Value} {K : Prop}, h10[h1.size]? = some (.cells C.toArray 65 (0, 0)) → C.length = 9 → (∀ u ∈ C, one u) → True := fun _ _ _ => trivial
  have hvb1 : isSl vb := by
    cases hq : (bindP (bindP pr fun q => .ok (n + 1, q.2)) fun s => blockP e f deep s.1 s.2 : PR (List St)) with
    | error y =>
      rw [hq] at hvb
      exact hvb
    | ok q =>
      rw [hq] at hvb
      exact StSN.isSl hvb
  refine oneK_of hvb1.one ?_
  obtain ⟨C8, hb8, hl8, hon8, hz8⟩ := hp8.cells
  have hb9 := k9.get hb8 (by omega)
  rw [addr_add]
  refine storeK1_of (o := 0 + 7) hb9 (by simp [hl8]) ?_
  rw [Nat.zero_add, show C8.toArray.setIfInBounds 7 vb = (C8.set 7 vb).toArray from by simp]
  have hb10 := hp_set_same (o := .cells (C8.set 7 vb).toArray 65 (0, 0)) hb9
  have k10 := Keep.set (S := fun b => b = h1.size) (h := h9) (.cells (C8.set 7 vb).toArray 65 (0, 0)) (b := h1.size) rfl
  have z10 : (h9.setIfInBounds h1.size (.cells (C8.set 7 vb).toArray 65 (0, 0))).size = h9.size := by simp
  generalize h9.setIfInBounds h1.size (.cells (C8.set 7 vb).toArray 65 (0, 0)) = h10 at *
  have hl10 : (C8.set 7 vb).length = 9 := by rw [List.length_set]; exact hl8
  have hon10 : ∀ u ∈ C8.set 7 vb, one u := fun u hu => by
    rcases List.mem_or_eq_of_mem_set hu with h | h
    · exact hon8 u h
    · rw [h]; exact hvb1.one
  have hz10 : (C8.set 7 vb)[0]? = some (.int .i64 (d : Int)) := by rw [List.getElem?_set_ne (by decide)]; exact hz8
  have k310 : KGB G h1.size h3 h10 := (hp8.k.trans (kgb_of k9)).trans (k10.mono fun _ _ h => .inr h)
  have hro10 := hro9.keep k10 fun b hb e => by omega
  -- what was read before 'else'
  have two : (∃ y, stmtP e (f + 1) deep n (t :: r) = .error y ∧ RB h10 G e y) ∨ ∃ q b, pr = .ok q ∧ blockP e f deep (n + 1) q.2 = .ok b ∧ RO2 h10 G e (.ok (b.2.1, b.2.2)) := by
    rw [hun]
    cases hpr : pr with
    | error y =>
      rw [hpr] at hro10
      exact .inl ⟨y, rfl, hro10⟩
    | ok q =>
      rw [hpr, bindP_ok, bindP_ok] at hro10
      rw [bindP_ok]
      have hro10 : RO2 h10 G e (bindP (blockP e f deep (n + 1) q.2) fun q => .ok q.2) := hro10
      cases hbl : blockP e f deep (n + 1) q.2 with
      | error y =>
        rw [hbl] at hro10
        exact .inl ⟨y, rfl, hro10⟩
      | ok b =>
        rw [hbl] at hro10
        exact .inr ⟨q, b, rfl, hbl, hro10⟩
  rcases two with ⟨y, hy, hrb⟩ | ⟨q, b, hpr, hbl, hrg⟩
  · -- a fault
    refine ⟨fun v h' => v = .bool false ∧ h10 = h', ?_, ?_⟩
    · have hbad : ∀ {Z : Hp → Prop}, Z h10 → CallX Tryd.prog ω n_p_pipewrightref_reading_bad [pp G] h10 (fun r203 h204 => asB r203 fun b205 => cond (!b205) (CallX Tryd.prog ω 44 [pp G, (.string ⟨#[101, 108, 115, 101]⟩)] h204 (fun r206 h207 => r206 = .bool false ∧ h10 = h207) X) (((.bool false) : Value) = .bool false ∧ h10 = h204)) X := by
        intro Z _
        refine CallX.use (bad2_law (st := .error y) hrb) ?_
        rintro _ _ ⟨rfl, rfl⟩
        rw [asB_bool]
        exact cond_f rfl ⟨rfl, rfl⟩
      refine lx hb10 (j := 0) hz10 ?_
      rw [asK_int]
      refine cond_c (fun _ => hbad (Z := fun _ => True) trivial) (fun _ => ?_)
      refine lx hb10 (j := 0) hz10 ?_
      rw [asK_int]
      exact cond_c (fun _ => hbad (Z := fun _ => True) trivial) (fun _ => ⟨rfl, by trivial⟩)
    rintro _ _ _ ⟨rfl, rfl⟩
    refine ⟨fun h' => h10 = h', ?_, ?_⟩
    · rw [asB_bool]
      exact cond_f rfl (by trivial)
    rintro _ _ rfl
    rw [hy]
    exact back (R := fun r' h' => VS h h' r' (.error y) ∧ RO2 h' G e (bindP (.error y) fun q : St × Nat × List Tok => .ok q.2) ∧ KG G h h') hb10 hl10 hon10 k310 fun h' k hk => ⟨⟨_, rfl, hl10, hon10⟩, hrb.keep k fun b hb e => by omega, hk⟩
  subst hpr
  obtain ⟨hq5, htn⟩ := hlen q rfl
  obtain ⟨htn1, htn2⟩ := htn hc
  obtain ⟨bl, m, ts'⟩ := b
  obtain ⟨l9, m9⟩ := (slen e f).1 (by omega) hbl
  simp only at l9 m9
  rw [bindP_ok, hbl, bindP_ok] at hun
  rw [bindP_ok, bindP_ok] at hvb
  have hvb : VB h8 h9 vb (blockP e f deep (n + 1) q.2) := hvb
  rw [hbl] at hvb
  have hvb : StSN h9 (Nw h8 h9) vb bl := hvb
  obtain ⟨ve, hve, hxe⟩ := hp8.val
  have hC8 : C8 = shC d t.at_ q.1 ve (.slice none 0 0) (.slice none 0 0) := by
    have hve : h8[h1.size]? = some (.cells (shC d t.at_ q.1 ve (.slice none 0 0) (.slice none 0 0)).toArray 65 (0, 0)) := hve
    rw [hb8] at hve
    have := Option.some.inj hve
    simpa using this
  subst hC8
  obtain ⟨pp10, hrg⟩ := hrg
  have hrg : RG h10 G e m pp10 ts' := hrg
  refine ⟨fun v h' => v = .bool (decide ((d = 11 ∨ d = 14) ∧ isT [101, 108, 115, 101] ts' = true)) ∧ h10 = h', ?_, ?_⟩
  · have hgo : (d = 11 ∨ d = 14) → CallX Tryd.prog ω n_p_pipewrightref_reading_bad [pp G] h10 (fun r203 h204 => asB r203 fun b205 => cond (!b205) (CallX Tryd.prog ω 44 [pp G, (.string ⟨#[101, 108, 115, 101]⟩)] h204 (fun r206 h207 => r206 = .bool (decide ((d = 11 ∨ d = 14) ∧ isT [101, 108, 115, 101] ts' = true)) ∧ h10 = h207) X) (((.bool false) : Value) = .bool (decide ((d = 11 ∨ d = 14) ∧ isT [101, 108, 115, 101] ts' = true)) ∧ h10 = h204)) X := by
      intro hd
      refine CallX.use (bad_law (st := .ok (m, pp10, ts')) hrg) ?_
      rintro _ _ ⟨rfl, rfl⟩
      rw [asB_bool]
      refine cond_t rfl ?_
      refine CallX.use (sees_law hrg ⟨#[101, 108, 115, 101]⟩ delse) ?_
      rintro _ _ ⟨rfl, rfl⟩
      refine ⟨?_, rfl⟩
      congr 1
      rw [Bool.eq_iff_iff, decide_eq_true_eq]
      exact ⟨fun h => ⟨hd, h⟩, fun h => h.2⟩
    refine lx hb10 (j := 0) rfl ?_
    rw [asK_int]
    refine cond_c (fun h11 => hgo (.inl (by have := eq_of_beq h11; omega))) (fun h11 => ?_)
    have h11 : d ≠ 11 := fun hh => by rw [hh] at h11; exact absurd h11 (by decide)
    refine lx hb10 (j := 0) rfl ?_
    rw [asK_int]
    refine cond_c (fun h14 => hgo (.inr (by have := eq_of_beq h14; omega))) (fun h14 => ?_)
    have h14 : d ≠ 14 := fun hh => by rw [hh] at h14; exact absurd h14 (by decide)
    exact ⟨by rw [decide_eq_false (by omega)], by trivial⟩
  rintro _ _ _ ⟨rfl, rfl⟩
  have hC10 : (shC d t.at_ q.1 ve (.slice none 0 0) (.slice none 0 0)).set 7 vb = shC d t.at_ q.1 ve vb (.slice none 0 0) := rfl
  rw [hC10] at hb10 hl10 hon10 hz10
  have hxe10 : ExSN h10 (Nw h3 h10) ve q.1.e := by
    have kk : Keep (fun b => b = G ∨ b = h1.size) h8 h10 := (k9.mono fun _ _ h => .inl h).trans (k10.mono fun _ _ h => .inr h)
    exact ExSN.mv hxe kk (fun b hb e => by have := hb.1; omega) fun b hb => ⟨hb.1, by have := hb.2; omega⟩
  have hvb10 : StSN h10 (Nw h3 h10) vb bl := StSN.mv hvb k10 (fun b hb e => by have := hb.1; omega) fun b hb => ⟨by have := hb.1; omega, by have := hb.2; omega⟩
  -- the end
  have fin : ∀ {h12 : Hp} {vl : Value} {els : List St} {m' : Nat} {l' : List Tok}, h12[h1.size]? = some (.cells (shC d t.at_ q.1 ve vb vl).toArray 65 (0, 0)) → KGB G h1.size h10 h12 → StSN h12 (Nw h3 h12) vl els → RO2 h12 G e (.ok (m', l')) → stmtP e (f + 1) deep n (t :: r) = .ok (.mk (d : Nat) t.at_ q.1.a q.1.b ⟨#[]⟩ 0 q.1.e bl els, m', l') →
      ∃ C34, cellsH h12 ⟨h1.size, 0, none⟩ 9 C34 ∧ C34.toArray.size = 9 ∧ (∀ u ∈ C34.toArray.toList, one u) ∧ storeK h12 ⟨Array.size h, 0, none⟩ C34.toArray.toList fun h35 => ∃ C36, cellsH h35 ⟨Array.size h, 0, none⟩ 9 C36 ∧ (VS h h35 (.agg C36.toArray) (stmtP e (f + 1) deep n (t :: r)) ∧ RO2 h35 G e (bindP (stmtP e (f + 1) deep n (t :: r)) fun q => .ok q.2) ∧ KG G h h35) := by
    intro h12 vl els m' l' hb12 k12 hvl hro12 hst
    have hs12 := k12.size
    rw [hst]
    refine back (R := fun r' h' => VS h h' r' (.ok (.mk (d : Nat) t.at_ q.1.a q.1.b ⟨#[]⟩ 0 q.1.e bl els, m', l')) ∧ RO2 h' G e (.ok (m', l')) ∧ KG G h h') hb12 rfl (shC_one hxe10.isSl hvb10.isSl hvl.isSl) (k310.trans k12) fun h' k hk => ⟨⟨ve, vb, vl, ?_, ?_, ?_, ?_⟩, hro12.keep k fun b hb e => by omega, hk⟩
    · show (Value.agg (shC d t.at_ q.1 ve vb vl).toArray) = .agg (stC (.mk (d : Nat) t.at_ q.1.a q.1.b ⟨#[]⟩ 0 q.1.e bl els) ve vb vl).toArray
      unfold shC
      rw [htn1, htn2]
      rfl
    · have kk2 : Keep (fun b => (b = G ∨ b = h1.size) ∨ b = h.size) h10 h' := (k12.mono fun _ _ h => .inl h).trans (k.mono fun _ _ h => .inr h)
      exact ExSN.mv hxe10 kk2 (fun b hb e => by have := hb.1; omega) fun b hb => ⟨by have := hb.1; omega, by have := hb.2; have := kk2.size; omega⟩
    · have kk2 : Keep (fun b => (b = G ∨ b = h1.size) ∨ b = h.size) h10 h' := (k12.mono fun _ _ h => .inl h).trans (k.mono fun _ _ h => .inr h)
      exact StSN.mv hvb10 kk2 (fun b hb e => by have := hb.1; omega) fun b hb => ⟨by have := hb.1; omega, by have := hb.2; have := kk2.size; omega⟩
    · exact StSN.mv hvl k (fun b hb e => by have := hb.1; omega) fun b hb => ⟨by have := hb.1; omega, by have := hb.2; have := k.size; omega⟩
  have hun : stmtP e (f + 1) deep n (t :: r) = if (d = 11 ∨ d = 14) ∧ isT [101, 108, 115, 101] ts' = true then bindP (blockP e f deep m ts'.tail) (fun u => .ok (.mk (d : Nat) t.at_ q.1.a q.1.b ⟨#[]⟩ 0 q.1.e bl u.1, u.2.1, u.2.2)) else .ok (.mk (d : Nat) t.at_ q.1.a q.1.b ⟨#[]⟩ 0 q.1.e bl [], m, ts') := hun
  refine ⟨fun h12 => (∃ vl, h12[h1.size]? = some (.cells (shC d t.at_ q.1 ve vb vl).toArray 65 (0, 0)) ∧ isSl vl ∧ KGB G h1.size h10 h12 ∧ ((∃ els m' l', StSN h12 (Nw h3 h12) vl els ∧ RO2 h12 G e (.ok (m', l')) ∧ stmtP e (f + 1) deep n (t :: r) = .ok (.mk (d : Nat) t.at_ q.1.a q.1.b ⟨#[]⟩ 0 q.1.e bl els, m', l')) ∨ ∃ y, RB h12 G e y ∧ stmtP e (f + 1) deep n (t :: r) = .error y)), ?_, ?_⟩
  · rw [asB_bool]
    refine cond_c (fun hel => ?_) (fun hel => ?_)
    · have hel := of_decide_eq_true hel
      rw [if_pos hel] at hun
      obtain ⟨x1, r1, rfl⟩ := isT_cons hel.2
      simp only [List.length_cons] at l9
      refine rg_inc hrg fun h11 hp11 k11 => ?_
      have hs11 := k11.size
      rw [asK_int, i64_in (by omega) (by omega)]
      refine CallX.use (fun Y => hB h11 G (.ok (m, r1)) deep ⟨pp10, hp11⟩ hd8 (fun s hs => ?_) Y) ?_
      · cases hs
        exact ⟨m9, by show 3 * r1.length + 2 ≤ f; omega⟩
      rintro vl h12 ⟨hvl, hro12, k12⟩
      have hs12 := k12.size
      have hvl : VB h11 h12 vl (blockP e f deep m r1) := hvl
      have hro12 : RO2 h12 G e (bindP (blockP e f deep m r1) fun q => .ok q.2) := hro12
      have hun : stmtP e (f + 1) deep n (t :: r) = bindP (blockP e f deep m r1) fun u => .ok (.mk (d : Nat) t.at_ q.1.a q.1.b ⟨#[]⟩ 0 q.1.e bl u.1, u.2.1, u.2.2) := hun
      have hvl1 : isSl vl := by
        cases hq : blockP e f deep m r1 with
        | error y =>
          rw [hq] at hvl
          exact hvl
        | ok q =>
          rw [hq] at hvl
          exact StSN.isSl hvl
      refine oneK_of hvl1.one ?_
      have hb12 := k12.get (k11.get hb10 (by omega)) (by omega)
      rw [addr_add]
      refine storeK1_of (o := 0 + 8) hb12 (by simp [shC]) ?_
      rw [Nat.zero_add, show (shC d t.at_ q.1 ve vb (.slice none 0 0)).toArray.setIfInBounds 8 vl = (shC d t.at_ q.1 ve vb vl).toArray from by simp [shC]]
      have k13 := Keep.set (S := fun b => b = h1.size) (h := h12) (.cells (shC d t.at_ q.1 ve vb vl).toArray 65 (0, 0)) (b := h1.size) rfl
      refine ⟨vl, hp_set_same hb12, hvl1, ((kgb_of k11).trans (kgb_of k12)).trans (k13.mono fun _ _ h => .inr h), ?_⟩
      cases hq : blockP e f deep m r1 with
      | error y =>
        rw [hq] at hro12 hun
        exact .inr ⟨y, RB.keep hro12 k13 fun b hb e => by omega, hun⟩
      | ok u =>
        rw [hq] at hro12 hun hvl
        exact .inl ⟨u.1, u.2.1, u.2.2, StSN.mv hvl k13 (fun b hb e => by have := hb.1; omega) fun b hb => ⟨by have := hb.1; omega, by have := hb.2; have := k13.size; omega⟩, RO2.keep (st := .ok u.2) hro12 k13 fun b hb e => by omega, hun⟩
    · have hel := of_decide_eq_false hel
      rw [if_neg hel] at hun
      exact ⟨.slice none 0 0, hb10, nilSl, Keep.refl _ _, .inl ⟨[], m, ts', stsN_nil, ⟨pp10, hrg⟩, hun⟩⟩
  rintro _ h12 ⟨vl, hb12, hvl1, k12, hor⟩
  rcases hor with ⟨els, m', l', hvl, hro12, hst⟩ | ⟨y, hrb, hst⟩
  · exact fin hb12 k12 hvl hro12 hst
  · rw [hst]
    exact back (R := fun r' h' => VS h h' r' (.error y) ∧ RO2 h' G e (bindP (.error y) fun q : St × Nat × List Tok => .ok q.2) ∧ KG G h h') hb12 rfl (shC_one hxe10.isSl hvb10.isSl hvl1) (k310.trans k12) fun h' k hk => ⟨⟨_, rfl, rfl, shC_one hxe10.isSl hvb10.isSl hvl1⟩, hrb.keep k fun b hb e => by omega, hk⟩
end
end Go.Proofs.YtaehnpilebkcoaaDoor
