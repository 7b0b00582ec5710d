/- The ledger's calls that turn it, or read all of it: contracts. -/
import Derived.Test.YtipgilfbhceknaaLedger
namespace Go.Proofs.Ytipgilfbhceknaa
open Go Go.Sx Go.Proofs.Ytipgilfbhceknaa.Sx
variable {ω : Amb}

structure Led (base : Nat) (h : Hp) (p : Nat) (v : Value) (xs : List E4) : Prop where
  blk : h[p]? = some (.cells #[v] 67 (0, 0))
  own : OwnH h base 36 4 v xs.length (fl xs)
section
variable {h h' : Hp} {p base : Nat} {v : Value} {xs : List E4}
theorem Led.cell (hl : Led base h p v xs) : cellH h ⟨p, 0, none⟩ = some v := by rw [cellH_block hl.blk]; rfl
theorem Led.keep (hl : Led base h p v xs) {S : Nat → Prop} (hk : Keep S h h') (h1 : ¬ S p) (h2 : ∀ k, v.ownBlock = some k → ¬ S k) : Led base h' p v xs :=
  ⟨hk.get hl.blk h1, hl.own.keep fun k hk' hlt => hk.block k hlt (h2 k hk')⟩
theorem Led.more (hl : Led base h p v xs) (hk : Keep (fun _ => False) h h') : Led base h' p v xs := hl.keep hk (by simp) (by simp)
theorem Led.ne (hl : Led base h p v xs) : v.ownBlock ≠ some p := fun e => by
  obtain ⟨c, hc⟩ := hl.own.blk e
  exact ty_ne hc hl.blk (by decide) rfl

theorem New_law (h : Hp) (X : List PanicEntry → Hp → Prop) :
    CallX Try.prog ω n_ledger_New [] h (fun r h' => r = .pointer (some ⟨h.size, 0, none⟩) ∧ h' = h.push (.cells #[.slice none 0 0] 67 (0, 0))) X := by
  refine C_ledger_New ω h _ X ?_
  unfold W_ledger_New
  exact ⟨rfl, rfl⟩
theorem Led.new (h : Hp) : Led h.size (h.push (.cells #[.slice none 0 0] 67 (0, 0))) h.size (.slice none 0 0) [] := ⟨hp_push_new, OwnH.nil⟩

def bornE (c : Int) (s : Bool) (home : Int) : E4 := ⟨c, s, home, 0⟩
theorem Born_law (hl : Led base h p v xs) (hn : xs.length ≤ 1000000000) (hb : base ≤ h.size) (c : Int) (s : Bool) (home : Int) (X : List PanicEntry → Hp → Prop) :
    CallX Try.prog ω n_p_ledger_Ledger_Born [.pointer (some ⟨p, 0, none⟩), .int .i64 c, .bool s, .int .i64 home] h
      (fun r h' => (home < -1 ∧ r = .int .i64 (-1) ∧ h' = h) ∨ (-1 ≤ home ∧ r = .int .i64 xs.length ∧ ∃ v', Led base h' p v' (xs ++ [bornE c s home]) ∧ Keep (fun k => k = p ∨ v.ownBlock = some k) h h' ∧ ∀ k, v'.ownBlock = some k → v.ownBlock = some k ∨ h.size ≤ k)) X := by
  refine C_p_ledger_Ledger_Born ω _ _ _ _ h _ X ?_
  unfold W_p_ledger_Ledger_Born
  refine ⟨decide (home < -1), ?_, fun _ => ?_⟩
  · rw [asPo_ptr]
    refine cond_f rfl ?_
    rw [asK_int]
    exact ⟨rfl, rfl⟩
  refine cond_c (fun hh => .inl ⟨by simpa using hh, rfl, rfl⟩) (fun hh => ?_)
  have hh : -1 ≤ home := by simpa using hh
  rw [nnK_ptr]
  refine ⟨v, by rw [addr_add]; exact hl.cell, ?_⟩
  rw [oneK_int, oneK_bool, oneK_int]
  refine ⟨rfl, appK_one (bt := 32) (by kernel_rfl) hl.own (E4.len (bornE c s home)) (bornE c s home).one (by omega) (by omega) hb fun v' h2 ho hg hne hv => ?_⟩
  have hne' : v.ownBlock ≠ some p := hl.ne
  have hp2 : h2[p]? = some (.cells #[v] 67 (0, 0)) := by rw [hg.block _ (hp_lt hl.blk) (fun e => hne' e.symm)]; exact hl.blk
  have hv' : v'.ownBlock ≠ some p := fun e => by
    obtain ⟨c', hc'⟩ := ho.blk e
    exact ty_ne hc' hp2 (by decide) rfl
  have h1v : one v' := by rcases ho.2 with ⟨rfl, _⟩ | ⟨_, _, _, _, rfl, _⟩ <;> rfl
  rw [nnK_ptr]
  refine oneK_of h1v ?_
  simp only [asP, addr_add]
  refine storeK1_of hp2 (by simp) ?_
  rw [nnK_ptr]
  refine ⟨v', by rw [cellH_block (hp_set_same hp2)]; rfl, ?_⟩
  have hled : Led base (h2.setIfInBounds p (.cells (#[v].setIfInBounds 0 v') 67 (0, 0))) p v' (xs ++ [bornE c s home]) := by
    refine ⟨hp_set_same hp2, ?_⟩
    have e1 : (xs ++ [bornE c s home]).length = xs.length + 1 := by simp
    have e2 : fl (xs ++ [bornE c s home]) = fl xs ++ (bornE c s home).f := by simp [fl]
    rw [e1, e2]
    exact ho.keep fun k hk hlt => by rw [Array.getElem?_setIfInBounds_ne]; rintro rfl; exact hv' hk
  refine hled.own.slAt.sl fun _ _ => .inr ⟨hh, ?_, v', hled, ?_, hv⟩
  · rw [show (xs ++ [bornE c s home]).length = xs.length + 1 by simp, i64_in (by omega) (by omega)]
    congr 1
    omega
  · exact (Keep.grown (S := fun k => k = p ∨ v.ownBlock = some k) hg (fun k hk _ => .inr hk)).trans (Keep.set _ (.inl rfl))

def moveE (xs : List E4) (e home : Int) : List E4 × Bool :=
  if (atE xs e).2 = true ∧ -1 ≤ home ∧ (atE xs e).1.h ≠ -2 then (xs.set e.toNat { (atE xs e).1 with h := home }, true) else (xs, false)

theorem Move_law (hl : Led base h p v xs) (e home : Int) (X : List PanicEntry → Hp → Prop) :
    CallX Try.prog ω n_p_ledger_Ledger_Move [.pointer (some ⟨p, 0, none⟩), .int .i64 e, .int .i64 home] h
      (fun r h' => r = .bool (moveE xs e home).2 ∧ Led base h' p v (moveE xs e home).1 ∧ Keep (fun k => v.ownBlock = some k) h h') X := by
  refine C_p_ledger_Ledger_Move ω _ _ _ h _ X ?_
  unfold W_p_ledger_Ledger_Move
  refine CallX.use (End_law hl.cell hl.own.slAt e) fun r h1 ⟨hr, k1⟩ => ?_
  subst hr
  simp only [asT_tup, ld4, asO_some, asA_agg, asB_bool]
  unfold moveE
  rcases atE_cases xs e with ⟨he, ha⟩ | ⟨i, x, rfl, hi, hx, ha⟩
  · rw [ha]
    have kk := k1.trans (Keep.push h1 (.cells E4.zero.f.toArray 36 (0, 0)))
    have hl2 := hl.more kk
    refine ⟨rfl, E4.zero.one, storeK_local rfl ?_⟩
    refine ⟨true, cond_t rfl ⟨rfl, trivial⟩, fun _ => cond_t rfl ?_⟩
    rw [if_neg (by simp)]
    exact ⟨rfl, hl2, kk.mono (by simp)⟩
  · rw [ha]
    have kk := k1.trans (Keep.push h1 (.cells x.f.toArray 36 (0, 0)))
    have hl2 := hl.more kk
    refine ⟨rfl, x.one, storeK_local rfl ?_⟩
    refine ⟨decide (home < -1) || x.h == -2, cond_f rfl ?_, fun _ => ?_⟩
    · rw [asK_int]
      refine cond_c (fun hc => ⟨by rw [hc]; rfl, trivial⟩) (fun hc => lf2 x ?_)
      rw [asK_int]
      exact ⟨by rw [hc]; rfl, trivial⟩
    refine cond_c (fun hc => ?_) (fun hc => ?_)
    · simp at hc
      rw [if_neg (by rintro ⟨_, h1, h2⟩; exact hc.elim (fun hc => by omega) h2)]
      exact ⟨rfl, hl2, kk.mono (by simp)⟩
    · simp at hc
      rw [if_pos ⟨rfl, by omega, hc.2⟩, nnK_ptr]
      refine ⟨v, by rw [addr_add]; exact hl2.cell, ?_⟩
      simp only [asI_int, oneK_int]
      refine OwnH.storeF hl2.own E4.len hx (e' := { x with h := home }) (u := .int .i64 home) (by decide) rfl fun h' ho hk => ⟨trivial, ⟨?_, ?_⟩, (kk.mono (by simp)).trans hk⟩
      · exact hk.get hl2.blk hl2.ne
      · rw [Int.toNat_natCast]
        exact ho

def goneE (xs : List E4) (e : Int) : List E4 × Bool :=
  if (atE xs e).2 = true then (xs.set e.toNat { (atE xs e).1 with h := -2, d := IntKind.wrap .i64 ((atE xs e).1.d + 1) }, (atE xs e).1.h != -2) else (xs, false)

theorem Gone_law (hl : Led base h p v xs) (e : Int) (X : List PanicEntry → Hp → Prop) :
    CallX Try.prog ω n_p_ledger_Ledger_Gone [.pointer (some ⟨p, 0, none⟩), .int .i64 e] h
      (fun r h' => r = .bool (goneE xs e).2 ∧ Led base h' p v (goneE xs e).1 ∧ Keep (fun k => v.ownBlock = some k) h h') X := by
  refine C_p_ledger_Ledger_Gone ω _ _ h _ X ?_
  unfold W_p_ledger_Ledger_Gone
  refine CallX.use (End_law hl.cell hl.own.slAt e) fun r h1 ⟨hr, k1⟩ => ?_
  subst hr
  simp only [asT_tup, ld4, asO_some, asA_agg, asB_bool]
  unfold goneE
  rcases atE_cases xs e with ⟨he, ha⟩ | ⟨i, x, rfl, hi, hx, ha⟩
  · rw [ha]
    have kk := k1.trans (Keep.push h1 (.cells E4.zero.f.toArray 36 (0, 0)))
    have hl2 := hl.more kk
    refine ⟨rfl, E4.zero.one, storeK_local rfl ?_⟩
    refine cond_t rfl ?_
    rw [if_neg (by simp)]
    exact ⟨rfl, hl2, kk.mono (by simp)⟩
  · rw [ha]
    have kk := k1.trans (Keep.push h1 (.cells x.f.toArray 36 (0, 0)))
    have hl2 := hl.more kk
    refine ⟨rfl, x.one, storeK_local rfl ?_⟩
    refine cond_f rfl ?_
    rw [if_pos rfl, nnK_ptr]
    refine ⟨v, by rw [addr_add]; exact hl2.cell, SlAt.rdT hl2.own.slAt E4.len hx (o := 3) (u := .int .i64 x.d) rfl ?_⟩
    rw [asK_int]
    refine OwnH.storeF hl2.own E4.len hx (e' := { x with d := IntKind.wrap .i64 (x.d + 1) }) (by decide) rfl fun h3 ho hk => ?_
    have hl3 : Led base h3 p v (xs.set i { x with d := IntKind.wrap .i64 (x.d + 1) }) := ⟨hk.get hl2.blk hl2.ne, ho⟩
    rw [nnK_ptr]
    refine ⟨v, by rw [addr_add]; exact hl3.cell, ?_⟩
    refine OwnH.storeF hl3.own E4.len (i := i) (e := { x with d := IntKind.wrap .i64 (x.d + 1) }) (by simp [hi]) (e' := { x with h := -2, d := IntKind.wrap .i64 (x.d + 1) }) (u := .int .i64 (-2)) (by decide) rfl fun h4 ho4 hk4 => ?_
    have hloc : cellH (h1.push (.cells x.f.toArray 36 (0, 0))) ⟨h1.size, 2, none⟩ = some (.int .i64 x.h) := cellH_local (cs := x.f) rfl
    have hno : ¬ v.ownBlock = some h1.size := fun e => by
      have := (hl.own.lt _ e).2
      have := k1.size
      omega
    refine ⟨.int .i64 x.h, by rw [addr_add]; exact hk4.cell (hk.cell hloc hno) hno, ?_⟩
    rw [asK_int]
    refine ⟨rfl, ⟨hk4.get hl3.blk hl3.ne, ?_⟩, ((kk.mono (by simp)).trans hk).trans hk4⟩
    rw [Int.toNat_natCast]
    rwa [List.set_set] at ho4
end
end Go.Proofs.Ytipgilfbhceknaa
