/- The store of channels: New, Clone, Make. -/
import Derived.Test.YtipgilfbhceknaaSto2
namespace Go.Proofs.Ytipgilfbhceknaa
open Go Go.Sx Go.Proofs.Ytipgilfbhceknaa.Sx

theorem sendN_app (xs : List E4) (x : E4) (k : Nat) : sendN (xs ++ [x]) k = sendN xs k + if alive k x then 1 else 0 := by
  simp only [sendN, List.countP_append, List.countP_singleton]
theorem sendN_le (xs : List E4) (k : Nat) : sendN xs k ≤ xs.length := List.countP_le_length
theorem sendN_set {xs : List E4} {i k : Nat} {x x' : E4} (hx : xs[i]? = some x) : sendN (xs.set i x') k + (if alive k x then 1 else 0) = sendN xs k + (if alive k x' then 1 else 0) := by
  unfold sendN
  induction xs generalizing i with
  | nil => simp at hx
  | cons y ys ih =>
    cases i with
    | zero =>
      simp at hx
      subst hx
      simp only [List.set_cons_zero, List.countP_cons]
      omega
    | succ i =>
      simp at hx
      have := ih hx
      simp only [List.set_cons_succ, List.countP_cons]
      omega
theorem set_same {α : Type} {l : List α} {i : Nat} {x : α} (hx : l[i]? = some x) : l.set i x = l := by
  refine List.ext_getElem? fun j => ?_
  by_cases hj : i = j
  · subst hj
    rw [List.getElem?_set_self (List.getElem?_eq_some_iff.1 hx).1, hx]
  · rw [List.getElem?_set_ne hj]

def StoR (h : Hp) (s : Nat) (xs : List E4) (ys : List C4) (F : Nat → Prop) : Prop := ∃ p v lv chs, Sto h s p v lv xs chs (sendN xs) ys ∧ F = Fp s p v lv chs

def cloneM (xs : List E4) (e task : Int) : List E4 × Int :=
  match sideE xs e true with
  | none => (xs, -1)
  | some k => if task < 0 then (xs, -1) else (xs ++ [⟨k, true, task, 0⟩], xs.length)
def makeM (xs : List E4) (ys : List C4) (slots task : Int) : List E4 × List C4 × Int × Int :=
  if task < 0 then (xs, ys, -1, -1) else (xs ++ [⟨ys.length, true, task, 0⟩, ⟨ys.length, false, task, 0⟩], ys ++ [⟨slots.toNat, false, []⟩], xs.length, xs.length + 1)

section
variable {ω : Amb}
theorem SNew_law (h : Hp) (X : List PanicEntry → Hp → Prop) :
    CallX Try.prog ω n_chans_New [] h (fun r h' => ∃ s F, r = .pointer (some ⟨s, 0, none⟩) ∧ StoR h' s [] [] F ∧ Keep (fun _ => False) h h' ∧ (∀ k, F k → h.size ≤ k)) X := by
  refine C_chans_New ω h _ X ?_
  unfold W_chans_New
  refine CallX.use (New_law h) ?_
  rintro _ _ ⟨rfl, rfl⟩
  rw [oneK_ptr]
  have kp := Keep.push (S := fun _ => False) h (.cells #[.slice none 0 0] 67 (0, 0))
  have hs1 : (h.push (.cells #[.slice none 0 0] 67 (0, 0))).size = h.size + 1 := by simp
  refine ⟨_, _, rfl, ⟨h.size, .slice none 0 0, .slice none 0 0, [], ⟨hp_push_new, ⟨hp_push_old hp_push_new, OwnH.nil⟩, OwnH.nil, rfl, by simp, by simp⟩, rfl⟩, kp.trans (Keep.push _ _), fun k hk => ?_⟩
  rw [hs1] at hk
  rcases hk with rfl | rfl | hk | hk | ⟨x, hx, _⟩
  · omega
  · omega
  · cases hk
  · cases hk
  · simp at hx

variable {h h' : Hp} {s p : Nat} {v lv : Value} {xs : List E4} {chs : List Ch} {sn : Nat → Nat} {ys : List C4}

theorem SClone_law (hS : Sto h s p v lv xs chs (sendN xs) ys) (hw : ∀ x ∈ xs, ∃ k : Nat, x.c = k ∧ k < ys.length) (hxl : xs.length ≤ 1000000000) (e task : Int) (X : List PanicEntry → Hp → Prop) :
    CallX Try.prog ω n_p_chans_Store_Clone [.pointer (some ⟨s, 0, none⟩), .int .i64 e, .int .i64 task] h (fun r h' => r = .int .i64 (cloneM xs e task).2 ∧ ∃ F', StoR h' s (cloneM xs e task).1 ys F' ∧ Upd (Fp s p v lv chs) F' h h') X := by
  refine C_p_chans_Store_Clone ω _ _ _ h _ X ?_
  unfold W_p_chans_Store_Clone
  refine CallX.use (side_law hS hw e true) fun r h1 ⟨k1, hr⟩ => ?_
  have hS1 := hS.more k1
  unfold cloneM
  rcases hr with ⟨hs, rfl⟩ | ⟨k, x, y, hs, hx, hy, rfl⟩
  · refine ⟨true, ?_, fun _ => cond_t rfl ?_⟩
    · rw [asPo_ptr]
      exact cond_t rfl ⟨rfl, rfl⟩
    · rw [hs]
      exact ⟨rfl, _, ⟨_, _, _, _, hS1, rfl⟩, Upd.of k1⟩
  · refine ⟨decide (task < 0), ?_, fun _ => cond_c (fun hc => ?_) (fun hc => ?_)⟩
    · rw [asPo_ptr]
      refine cond_f rfl ?_
      rw [asK_int]
      exact ⟨rfl, rfl⟩
    · have hc' : task < 0 := by simpa using hc
      simp only [hs, if_pos hc']
      exact ⟨trivial, _, ⟨_, _, _, _, hS1, rfl⟩, Upd.of k1⟩
    · have hc' : ¬ task < 0 := by simpa using hc
      simp only [hs, if_neg hc']
      have hc := hS1.chan k x y hx hy
      have hle := sendN_le xs k
      rw [nnK_ptr]
      refine lx hc.blk rfl ?_
      rw [asK_int, nnK_ptr, asP_some, addr_add]
      have hwr : IntKind.wrap .i64 ((sendN xs k : Int) + 1) = ((sendN xs k + 1 : Nat) : Int) := by rw [i64_in (by omega) (by omega)]; omega
      rw [hwr]
      refine storeK1_of hc.blk (by simp) ?_
      simp only [st]
      have kset := Keep.set (S := x.own) (h := h1) (b := x.c) (.cells (List.toArray [.pointer (some ⟨x.r, 0, none⟩), .int .i64 (sendN xs k + 1 : Nat), .bool y.gone]) 81 (0, 0)) (.inl rfl)
      have hrne : x.r ≠ x.c := by
        obtain ⟨f, sl, hb⟩ := hc.rg.blk
        exact ty_ne hb hc.blk (by decide)
      have hgne : ∀ G, x.g = some G → G ≠ x.c := by
        intro G hG
        obtain ⟨c, hb⟩ := hc.rg.gblk G hG
        exact ty_ne hb hc.blk (by decide)
      have kset2 := Keep.set (S := fun i => i = x.c) (h := h1) (b := x.c) (.cells (List.toArray [.pointer (some ⟨x.r, 0, none⟩), .int .i64 (sendN xs k + 1 : Nat), .bool y.gone]) 81 (0, 0)) rfl
      have hc2 := hp_set_same (o := .cells (List.toArray [.pointer (some ⟨x.r, 0, none⟩), .int .i64 (sendN xs k + 1 : Nat), .bool y.gone]) 81 (0, 0)) hc.blk
      generalize h1.setIfInBounds x.c (.cells (List.toArray [.pointer (some ⟨x.r, 0, none⟩), .int .i64 (sendN xs k + 1 : Nat), .bool y.gone]) 81 (0, 0)) = h2 at *
      have hS2 := hS1.setCh (x' := x) (y' := y) (sn' := fun j => if j = k then sendN xs k + 1 else sendN xs j) hx kset ⟨by rw [if_pos rfl]; exact hc2, hc.rg.keep kset2 hrne hgne⟩ rfl rfl (fun _ e => .inl e) (fun j hj => if_neg hj)
      have u2 := hS1.updCh (x' := x) hx kset rfl rfl (fun _ e => .inl e)
      rw [set_same hx] at hS2 u2
      rw [set_same hy] at hS2
      rw [nnK_ptr]
      refine lx hS2.blk rfl ?_
      refine CallX.use (End_law hS2.led.cell hS2.led.own.slAt e) fun r h3 ⟨hr, k3⟩ => ?_
      subst hr
      obtain ⟨i, z, rfl, hz, _, _, hzk, ha⟩ := sideE_some hs
      rw [ha]
      simp only [asT_tup, ld4, asO_some, asA_agg]
      refine ⟨rfl, z.one, storeK_local rfl ?_⟩
      have hn := hp_push_new (h := h3) (o := .cells z.f.toArray 36 (0, 0))
      have k4 := k3.trans (Keep.push h3 (.cells z.f.toArray 36 (0, 0)))
      generalize hh4 : h3.push (.cells z.f.toArray 36 (0, 0)) = h4 at *
      have hS4 := hS2.more k4
      rw [nnK_ptr]
      refine lx hS4.blk rfl ?_
      refine lx hn rfl ?_
      obtain ⟨k', hk', hkl⟩ := hw z (List.mem_iff_getElem?.2 ⟨i, hz⟩)
      have hkk : k' = k := by rw [hk', Int.toNat_natCast] at hzk; exact hzk
      subst hkk
      rw [hk']
      refine CallX.use (Born_law hS4.led hxl (Nat.zero_le _) k' true task) ?_
      rintro r h5 (⟨hb, _⟩ | ⟨_, rfl, v', hl, k5, hv⟩)
      · omega
      · refine ⟨rfl, _, ⟨p, v', lv, chs, ?_, rfl⟩, ((Upd.of k1).trans u2).trans ((Upd.of k4).trans (hS4.updLed k5 hv))⟩
        have hS5 := hS4.setLed hl k5
        have hsn : sendN (xs ++ [⟨k', true, task, 0⟩]) = fun j => if j = k' then sendN xs k' + 1 else sendN xs j := by
          funext j
          rw [sendN_app]
          by_cases hj : j = k'
          · subst hj
            rw [if_pos rfl, if_pos]
            simp only [alive, beq_self_eq_true, Bool.true_and, bne_iff_ne]
            omega
          · rw [if_neg hj, if_neg]
            · rfl
            · simp only [alive]
              intro hh
              simp at hh
              exact hj (by have := hh.1; omega)
        rw [hsn]
        exact hS5
end
end Go.Proofs.Ytipgilfbhceknaa
