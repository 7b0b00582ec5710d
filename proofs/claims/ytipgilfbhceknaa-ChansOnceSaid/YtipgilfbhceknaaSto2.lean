/- The store of channels: side, Waits. -/
import Derived.Test.YtipgilfbhceknaaSto
namespace Go.Proofs.Ytipgilfbhceknaa
open Go Go.Sx Go.Proofs.Ytipgilfbhceknaa.Sx

def sideE (xs : List E4) (e : Int) (send : Bool) : Option Nat :=
  if (atE xs e).2 = true ∧ (atE xs e).1.s = send ∧ (atE xs e).1.h ≠ -2 then some (atE xs e).1.c.toNat else none
def yAt (ys : List C4) (k : Nat) : C4 := (ys[k]?).getD ⟨0, false, []⟩
theorem yAt_of {ys : List C4} {k : Nat} {y : C4} (hy : ys[k]? = some y) : yAt ys k = y := by rw [yAt, hy, Option.getD_some]

structure WF (n : Nat) (xs : List E4) (ys : List C4) : Prop where
  chan : ∀ x ∈ xs, ∃ k : Nat, x.c = k ∧ k < ys.length
  room : ∀ y ∈ ys, 0 < y.slots → y.items.length ≤ y.slots
  item : ∀ y ∈ ys, ∀ z ∈ y.items, z.e = -1 ∨ ∃ i : Nat, z.e = i ∧ i < xs.length
  xl : xs.length ≤ 2 * n
  yl : ys.length ≤ n
  il : ∀ y ∈ ys, y.items.length ≤ n

theorem sideE_some {xs : List E4} {e : Int} {send : Bool} {k : Nat} (hs : sideE xs e send = some k) : ∃ (i : Nat) (x : E4), e = i ∧ xs[i]? = some x ∧ x.s = send ∧ x.h ≠ -2 ∧ x.c.toNat = k ∧ atE xs e = (x, true) := by
  unfold sideE at hs
  rcases atE_cases xs e with ⟨he, ha⟩ | ⟨i, x, rfl, hi, hx, ha⟩
  · rw [ha, if_neg (by simp)] at hs
    cases hs
  · rw [ha] at hs
    split at hs
    · rename_i hc
      cases hs
      exact ⟨i, x, rfl, hx, hc.2.1, hc.2.2, rfl, ha⟩
    · cases hs

def waitsM (xs : List E4) (ys : List C4) (e : Int) : Bool :=
  match sideE xs e true with
  | some k => !(yAt ys k).gone && (decide (0 < (yAt ys k).slots) && decide ((yAt ys k).items.length = (yAt ys k).slots))
  | none => match sideE xs e false with
    | some k => decide ((yAt ys k).items.length = 0) && decide (0 < sendN xs k)
    | none => false

section
variable {ω : Amb} {h h' : Hp} {s p : Nat} {v lv : Value} {xs : List E4} {chs : List Ch} {sn : Nat → Nat} {ys : List C4}
theorem pv_at {k : Nat} {x : Ch} (hx : chs[k]? = some x) : (pv chs)[k]? = some (.pointer (some ⟨x.c, 0, none⟩)) := by
  rw [pv, List.getElem?_map, hx]; rfl
theorem side_law (hS : Sto h s p v lv xs chs sn ys) (hw : ∀ x ∈ xs, ∃ k : Nat, x.c = k ∧ k < ys.length) (e : Int) (send : Bool) (X : List PanicEntry → Hp → Prop) :
    CallX Try.prog ω n_p_chans_Store_side [.pointer (some ⟨s, 0, none⟩), .int .i64 e, .bool send] h (fun r h' => Keep (fun _ => False) h h' ∧
      ((sideE xs e send = none ∧ r = .pointer none) ∨ ∃ k x y, sideE xs e send = some k ∧ chs[k]? = some x ∧ ys[k]? = some y ∧ r = .pointer (some ⟨x.c, 0, none⟩))) X := by
  refine C_p_chans_Store_side ω _ _ _ h _ X ?_
  unfold W_p_chans_Store_side
  rw [asPo_ptr]
  refine cond_f rfl ?_
  rw [nnK_ptr]
  refine lx hS.blk rfl ?_
  refine CallX.use (End_law hS.led.cell hS.led.own.slAt e) fun r h1 ⟨hr, k1⟩ => ?_
  subst hr
  simp only [asT_tup, ld4, asO_some, asA_agg]
  refine ⟨rfl, (atE xs e).1.one, storeK_local rfl ?_⟩
  have kk := k1.trans (Keep.push h1 (.cells (atE xs e).1.f.toArray 36 (0, 0)))
  unfold sideE
  rcases atE_cases xs e with ⟨he, ha⟩ | ⟨i, x, rfl, hi, hx, ha⟩
  · rw [ha] at kk ⊢
    refine ⟨true, ?_, fun _ => cond_t rfl ⟨kk, .inl ⟨by simp, trivial⟩⟩⟩
    rw [asB_bool]
    exact cond_t rfl ⟨rfl, trivial⟩
  · rw [ha] at kk ⊢
    obtain ⟨k, hk, hkl⟩ := hw x (List.mem_iff_getElem?.2 ⟨i, hx⟩)
    have hn := hp_push_new (h := h1) (o := .cells x.f.toArray 36 (0, 0))
    refine ⟨!(x.s == send) || x.h == -2, ?_, fun _ => ?_⟩
    · rw [asB_bool]
      refine cond_f rfl (lx hn rfl ?_)
      rw [asB_bool, asB_bool]
      refine cond_c (fun hc => ⟨by rw [hc]; rfl, trivial⟩) (fun hc => lx hn rfl ?_)
      rw [asK_int, hc]
      exact ⟨rfl, trivial⟩
    · refine cond_c (fun hc => ⟨kk, .inl ⟨if_neg ?_, trivial⟩⟩) (fun hc => ?_)
      · simp at hc
        rintro ⟨_, h2, h3⟩
        exact hc.elim (fun e => e h2) h3
      · simp at hc
        have hS1 := hS.more kk
        rw [nnK_ptr]
        refine lx hS1.blk rfl ?_
        refine lx hn rfl ?_
        rw [hk]
        have hkc : k < chs.length := by rw [← hS.len]; exact hkl
        refine hS1.own.slAt.rd1 (pv_at (List.getElem?_eq_getElem hkc)) ⟨kk, .inr ⟨k, _, _, ?_, List.getElem?_eq_getElem hkc, List.getElem?_eq_getElem hkl, rfl⟩⟩
        rw [if_pos ⟨rfl, hc.1, hc.2⟩, Int.toNat_natCast]

theorem Waits_law (hS : Sto h s p v lv xs chs (sendN xs) ys) (hw : ∀ x ∈ xs, ∃ k : Nat, x.c = k ∧ k < ys.length) (e : Int) (X : List PanicEntry → Hp → Prop) :
    CallX Try.prog ω n_p_chans_Store_Waits [.pointer (some ⟨s, 0, none⟩), .int .i64 e] h (fun r h' => r = .bool (waitsM xs ys e) ∧ Keep (fun _ => False) h h') X := by
  refine C_p_chans_Store_Waits ω _ _ h _ X ?_
  unfold W_p_chans_Store_Waits
  refine CallX.use (side_law hS hw e true) fun r h1 ⟨k1, hr⟩ => ?_
  have hS1 := hS.more k1
  unfold waitsM
  rcases hr with ⟨hs, rfl⟩ | ⟨k, x, y, hs, hx, hy, rfl⟩
  · rw [asPo_ptr]
    refine cond_f rfl ?_
    rw [hs]
    refine CallX.use (side_law hS1 hw e false) fun r h2 ⟨k2, hr⟩ => ?_
    have hS2 := hS1.more k2
    have kk := k1.trans k2
    rcases hr with ⟨hs, rfl⟩ | ⟨k, x, y, hs, hx, hy, rfl⟩
    · refine ⟨fun r h' => r = .bool false ∧ h' = h2, ?_, ?_⟩
      · rw [asPo_ptr]
        exact cond_f rfl ⟨rfl, rfl⟩
      · rintro _ _ _ ⟨rfl, rfl⟩
        rw [hs]
        exact ⟨rfl, kk⟩
    · have hc := hS2.chan k x y hx hy
      refine ⟨fun r h' => r = .bool (decide (y.items.length = 0) && decide (0 < sendN xs k)) ∧ Keep (fun _ => False) h h', ?_, ?_⟩
      · rw [asPo_ptr]
        refine cond_t rfl ?_
        rw [nnK_ptr]
        refine lx hc.blk rfl ?_
        refine CallX.use (rgLen hc.rg) ?_
        rintro _ _ ⟨rfl, rfl⟩
        rw [asK_int]
        refine cond_c (fun hl => ?_) (fun hl => ?_)
        · rw [nnK_ptr]
          refine lx hc.blk rfl ?_
          rw [asK_int]
          refine ⟨?_, kk⟩
          have hl' : y.items.length = 0 := by simpa using hl
          simp [hl']
        · refine ⟨?_, kk⟩
          have hl' : ¬ y.items.length = 0 := by simpa using hl
          rw [decide_eq_false hl', Bool.false_and]
      · rintro _ _ _ ⟨rfl, k3⟩
        simp only [hs, yAt_of hy]
        exact ⟨trivial, k3⟩
  · rw [asPo_ptr]
    refine cond_t rfl ?_
    have hc := hS1.chan k x y hx hy
    refine ⟨fun r h' => r = .bool (!y.gone && (decide (0 < y.slots) && decide (y.items.length = y.slots))) ∧ h' = h1, ?_, ?_⟩
    · rw [nnK_ptr]
      refine lx hc.blk rfl ?_
      rw [asB_bool]
      refine cond_c (fun hg => ?_) (fun hg => ⟨?_, rfl⟩)
      · rw [nnK_ptr]
        refine lx hc.blk rfl ?_
        refine CallX.use (rgFull hc.rg) ?_
        rintro _ _ ⟨rfl, rfl⟩
        rw [hg]
        exact ⟨rfl, rfl⟩
      · rw [hg]; rfl
    · rintro _ _ _ ⟨rfl, rfl⟩
      simp only [hs, yAt_of hy]
      exact ⟨trivial, k1⟩
end
end Go.Proofs.Ytipgilfbhceknaa
