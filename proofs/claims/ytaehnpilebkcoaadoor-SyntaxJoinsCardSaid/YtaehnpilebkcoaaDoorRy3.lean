/- Programs: a whole one copied; the copy's row is one's own. -/
import Derived.Test.YtaehnpilebkcoaaDoorRn1
import Derived.Test.YtaehnpilebkcoaaDoorRy1
import Derived.Test.YtaehnpilebkcoaaDoorRy2
namespace Go.Proofs.YtaehnpilebkcoaaDoor
open Go Go.Sx Go.Sx.Rn Go.Proofs.YtaehnpilebkcoaaDoor.Sx

theorem sgsAtN_app {h : Hp} {N : Nat → Prop} : ∀ {l m : List Sg} {us vs : List Value}, sgsAtN h N l us → us.length = l.length * 4 → sgsAtN h N m vs → sgsAtN h N (l ++ m) (us ++ vs)
  | [], m, us, vs, hl, hn, hm => by
    unfold sgsAtN at hl
    subst hl
    exact hm
  | y :: r, m, us, vs, hl, hn, hm => by
    unfold sgsAtN at hl
    rw [List.cons_append]
    unfold sgsAtN
    simp only [List.length_cons] at hn
    rw [List.take_append_of_le_length (by omega), List.drop_append_of_le_length (by omega)]
    exact ⟨hl.1, sgsAtN_app hl.2 (by rw [List.length_drop]; omega) hm⟩
theorem sgsAtN_one {h : Hp} {N : Nat → Prop} : ∀ {l : List Sg} {us : List Value}, sgsAtN h N l us → ∀ u ∈ us, one u
  | [], us, hl => by
    unfold sgsAtN at hl
    subst hl
    intro u hu
    cases hu
  | y :: r, us, hl => by
    unfold sgsAtN at hl
    obtain ⟨⟨vp, vb, h1, h2, hn, h3⟩, h4⟩ := hl
    intro u hu
    rw [← List.take_append_drop 4 us] at hu
    rcases List.mem_append.1 hu with hu | hu
    · rw [h1] at hu
      exact sgC_one (nilOr_isSl hn) h3.isSl u hu
    · exact sgsAtN_one h4 u hu
theorem newsOwn {h : Hp} {base : Nat} {t : TypeId} {sz : Nat} {v : Value} {n : Nat} {xs : List Value} (ho : OwnH h base t sz v n xs) : newsAt h v n sz xs := by
  refine ⟨ho.1, ?_⟩
  rcases ho.shape with ⟨rfl, rfl, rfl⟩ | ⟨g, o, cap, rfl, _, _, _, hx⟩
  · exact .inl ⟨rfl, rfl⟩
  · refine .inr ⟨⟨g, o, none⟩, cap, rfl, fun j u hu => ?_⟩
    rw [addr_add]
    exact hx j u hu
section
variable {ω : Amb}
set_option maxRecDepth 100000 in
theorem CopyO_law (p : List Sg) (hlen : p.length ≤ 100) (hnm : ∀ s ∈ p, s.ps.length ≤ 100) (htot : (p.map fun s => stsN s.body).sum ≤ 8000) (v : Value) (h : Hp) (hp : PgS h v p) (X : List PanicEntry → Hp → Prop) :
    CallX Tryd.prog ω n_pipewrightref_CopyProgram [v] h (fun r h' => ∃ w us, r = .agg #[w] ∧ OwnH h' h.size 51 4 w p.length us ∧ sgsAtN h' (fun b => Nw h h' b ∧ w.ownBlock ≠ some b) p us ∧ Keep (fun _ => False) h h') X := by
  obtain ⟨w0, rfl, hs⟩ := hp
  refine C_pipewrightref_CopyProgram ω _ h _ X ?_
  unfold W_pipewrightref_CopyProgram
  simp only [show Value.cells (.agg #[w0]) = [w0].toArray from rfl]
  have hb0 := hp_push_new (h := h) (o := .cells [w0].toArray 24 (0, 0))
  have k0 := Keep.push (S := fun _ => False) h (.cells [w0].toArray 24 (0, 0))
  have z0 : (h.push (.cells [w0].toArray 24 (0, 0))).size = h.size + 1 := by simp
  generalize h.push (.cells [w0].toArray 24 (0, 0)) = h1 at *
  have hb1 := hp_push_new (h := h1) (o := .cells [.slice none 0 0].toArray 24 (0, 0))
  have k1 := Keep.push (S := fun _ => False) h1 (.cells [.slice none 0 0].toArray 24 (0, 0))
  have z1 : (h1.push (.cells [.slice none 0 0].toArray 24 (0, 0))).size = h1.size + 1 := by simp
  generalize h1.push (.cells [.slice none 0 0].toArray 24 (0, 0)) = h2 at *
  have hb2 := hp_push_new (h := h2) (o := .cells [.slice none 0 0].toArray 24 (0, 0))
  have k2 := Keep.push (S := fun _ => False) h2 (.cells [.slice none 0 0].toArray 24 (0, 0))
  have z2 : (h2.push (.cells [.slice none 0 0].toArray 24 (0, 0))).size = h2.size + 1 := by simp
  generalize h2.push (.cells [.slice none 0 0].toArray 24 (0, 0)) = h3 at *
  have hb0 := (k1.trans k2).get hb0 (by simp)
  have hb1 := k2.get hb1 (by simp)
  have k03 := (k0.trans k1).trans k2
  refine ⟨fun t h' => ∃ (k : Nat) (out : Value) (us : List Value), t = .int .i64 k ∧ k ≤ p.length ∧ OwnH h' h3.size 51 4 out k us ∧ sgsAtN h' (fun b => Nw h3 h' b ∧ out.ownBlock ≠ some b) (p.take k) us ∧ Keep (fun _ => False) h h' ∧
      h'[h.size]? = some (.cells [w0].toArray 24 (0, 0)) ∧ h'[h1.size]? = some (.cells [.slice none 0 0].toArray 24 (0, 0)) ∧ h'[h2.size]? = some (.cells [out].toArray 24 (0, 0)) ∧ h3.size ≤ h'.size,
    fun t _ => match t with | .int _ k => p.length - k.toNat | _ => 0, ⟨0, .slice none 0 0, [], rfl, by omega, OwnH.nil, sgsAtN_nil, k03, hb0, hb1, hb2, by omega⟩, ?_⟩
  clear hb0 hb1 hb2
  rintro _ _ h4 ⟨k, out, us, rfl, hk, ho, hat, kk, hb0, hb1, hb2, hz⟩
  have hs1 := hs.keep kk
  refine lx hb0 (j := 0) rfl ?_
  refine hs1.sl fun _ _ => ?_
  rw [asK_int]
  refine cond_c (fun hc => ?_) (fun hc => ?_)
  rotate_left
  · have hc := of_decide_eq_false hc
    obtain rfl : k = p.length := by omega
    rw [List.take_length] at hat
    refine ⟨[out], cellsH_blk hb2 rfl, rfl, ?_, ?_⟩
    · intro u hu
      obtain rfl := List.mem_singleton.1 (by simpa using hu)
      exact ownOne ho
    refine storeK_of hb1 (by simp) ?_
    rw [spl_all (by rfl)]
    have hb9 := hp_set_same (o := .cells [out].toArray 24 (0, 0)) hb1
    have k9 := Keep.set (S := fun b => b = h1.size) (h := h4) (.cells [out].toArray 24 (0, 0)) (b := h1.size) rfl
    generalize h4.setIfInBounds h1.size (.cells [out].toArray 24 (0, 0)) = h9 at *
    have z9 := k9.size
    refine ⟨[out], cellsH_blk hb9 rfl, out, us, rfl, ?_, ?_, (kk.mono (fun _ _ h => h.elim)).trans k9 |>.mono fun b hb e => by omega⟩
    · exact (ho.keep fun b hb hl => k9.block b hl fun e => by have := ho.lt b hb; omega).base (by omega)
    · exact sgsAtN_map (fun sz v n us hs => (hs.keep k9 fun b hb e => by have := hb.1; omega).mono fun b hb => ⟨⟨by have := hb.1; omega, by have := hb.1; omega⟩, hb.2⟩) p hat
  have hkl : k < p.length := by
    have := of_decide_eq_true hc
    omega
  have hx := List.getElem?_eq_getElem hkl
  have hmem : p[k] ∈ p := List.getElem_mem hkl
  generalize p[k] = x at hx hmem
  have hxp := hnm x hmem
  have hxb : stsN x.body ≤ 8000 := Nat.le_trans (sum_mem hmem) htot
  refine lx hb0 (j := 0) rfl ?_
  refine hs1.rdC hx fun vp vb hps hbd => ?_
  refine ⟨rfl, sgC_one (nilOr_isSl hps.2) hbd.isSl, storeK_local (cs := sgC x vp vb) rfl ?_⟩
  have hb6 := hp_push_new (h := h4) (o := .cells (sgC x vp vb).toArray 51 (0, 0))
  have k6 := Keep.push (S := fun _ => False) h4 (.cells (sgC x vp vb).toArray 51 (0, 0))
  have z6 : (h4.push (.cells (sgC x vp vb).toArray 51 (0, 0))).size = h4.size + 1 := by simp
  have hps := hps.keep k6
  generalize h4.push (.cells (sgC x vp vb).toArray 51 (0, 0)) = h6 at *
  refine lx hb6 (j := 2) rfl ?_
  refine appK_of (bt := 32) (el := 54) (sz := 2) (base := h6.size) (n := 0) (xs := []) (by kernel_rfl) OwnH.nil (newsOf hps) (fun u hu => ?_) (by omega) (by omega) (Nat.le_refl _) fun r1 h7 hr1 hg7 _ _ => ?_
  · obtain ⟨q, _, hq⟩ := List.mem_flatMap.1 hu
    exact pf_one q u hq
  rw [Nat.zero_add, List.nil_append] at hr1
  have k7 : Keep (fun _ => False) h6 h7 := Keep.grown hg7 fun b hb _ => by cases hb
  have hb7 := k7.get hb6 (by simp)
  refine oneK_of (ownOne hr1) ?_
  refine storeK1_of hb7 (by simp [sgC]) ?_
  rw [sgC_set2]
  have hb8 := hp_set_same (o := .cells (sgC x r1 vb).toArray 51 (0, 0)) hb7
  have k8 := Keep.set (S := fun b => b = h4.size) (h := h7) (.cells (sgC x r1 vb).toArray 51 (0, 0)) (b := h4.size) rfl
  have z8 : (h7.setIfInBounds h4.size (.cells (sgC x r1 vb).toArray 51 (0, 0))).size = h7.size := by simp
  generalize h7.setIfInBounds h4.size (.cells (sgC x r1 vb).toArray 51 (0, 0)) = h8 at *
  have k58 : Keep (fun b => b = h4.size) h4 h8 := ((k6.trans k7).mono (fun _ _ h => h.elim)).trans k8
  have f58 : Keep (fun _ => False) h4 h8 := k58.mono (fun b hb e => by omega)
  refine lx hb8 (j := 3) rfl ?_
  refine CallX.use (copyS_law _ x.body (Nat.lt_succ_self _) hxb h8 vb (hbd.keep f58)) ?_
  rintro r2 h9 ⟨hr2, k9⟩
  have hb9 := k9.get hb8 (by simp)
  refine oneK_of hr2.isSl.one ?_
  refine storeK1_of hb9 (by simp [sgC]) ?_
  rw [sgC_set3]
  have hb10 := hp_set_same (o := .cells (sgC x r1 r2).toArray 51 (0, 0)) hb9
  have k10 := Keep.set (S := fun b => b = h4.size) (h := h9) (.cells (sgC x r1 r2).toArray 51 (0, 0)) (b := h4.size) rfl
  have z10 : (h9.setIfInBounds h4.size (.cells (sgC x r1 r2).toArray 51 (0, 0))).size = h9.size := by simp
  generalize h9.setIfInBounds h4.size (.cells (sgC x r1 r2).toArray 51 (0, 0)) = h10 at *
  have k810 : Keep (fun b => b = h4.size) h8 h10 := (k9.mono (fun _ _ h => h.elim)).trans k10
  have k710 : Keep (fun b => b = h4.size) h7 h10 := k8.trans k810
  have f510 : Keep (fun _ => False) h4 h10 := (k58.trans k810).mono (fun b hb e => by omega)
  refine lx (f510.get hb2 (by simp)) (j := 0) rfl ?_
  refine ⟨sgC x r1 r2, cellsH_blk hb10 rfl, rfl, ?_⟩
  refine appK_one (bt := 72) (cs := sgC x r1 r2) (by kernel_rfl) (ho.more f510) rfl (sgC_one (nilOr_isSl (nilOr_own hr1)) hr2.isSl) (by omega) (by omega) (by have := f510.size; omega) fun w2 h13 ho2 hg _ hv => ?_
  have hlt := ho.lt
  have k7s := k7.size
  have k9s := k9.size
  have k58s := f510.size
  have hg9 := hg.size
  have k89 : Keep (fun b => some b = out.ownBlock) h10 h13 := Keep.grown hg fun b hb _ => hb.symm
  have k59 : Keep (fun b => some b = out.ownBlock) h4 h13 := (f510.mono (fun _ _ h => h.elim)).trans k89
  have hnb : ∀ b, b < h3.size → some b ≠ out.ownBlock := fun b hb e => by have := hlt b e.symm; omega
  have hb2' := k59.get hb2 (hnb _ (by omega))
  have hb0' := k59.get hb0 (hnb _ (by omega))
  have hb1' := k59.get hb1 (hnb _ (by omega))
  refine oneK_of (ownOne ho2) ?_
  refine storeK1_of hb2' (by simp) ?_
  rw [show ([out].toArray).setIfInBounds 0 w2 = [w2].toArray from rfl]
  have hb14 := hp_set_same (o := .cells [w2].toArray 24 (0, 0)) hb2'
  have k14 := Keep.set (S := fun b => b = h2.size) (h := h13) (.cells [w2].toArray 24 (0, 0)) (b := h2.size) rfl
  have z14 : (h13.setIfInBounds h2.size (.cells [w2].toArray 24 (0, 0))).size = h13.size := by simp
  generalize h13.setIfInBounds h2.size (.cells [w2].toArray 24 (0, 0)) = h14 at *
  have hlt2 := ho2.lt
  have kz := k03.size
  have k09 : Keep (fun _ => False) h h14 := Keep.mono ((kk.mono (S' := fun b => some b = out.ownBlock ∨ b = h2.size) (fun _ _ h => h.elim)).trans ((k59.mono fun _ _ h => .inl h).trans (k14.mono fun _ _ h => .inr h))) (fun b hb e => by
    rcases e with e | e
    · have := hlt b e.symm
      omega
    · omega)
  have hf : ∀ {ha hb : Hp}, Keep (fun b => b = h4.size) hb h10 → h4.size < ha.size → hb.size ≤ h10.size → ∀ sz v n us, SlN hb (Nw ha hb) sz v n us → SlN h14 (fun b => Nw h3 h14 b ∧ w2.ownBlock ≠ some b) sz v n us := by
    intro ha hb kk h1 h2 sz v n us hs
    refine (((hs.keep kk fun b hb e => by omega).keep k89 fun b hb e => by have := hlt b e.symm; omega).keep k14 fun b hb e => by omega).mono fun b hb => ⟨⟨by omega, by omega⟩, push_own hv (by omega) fun e => ?_⟩
    have := hlt b e
    omega
  rw [asK_int, i64_in (by omega) (by omega)]
  refine ⟨⟨k + 1, w2, us ++ sgC x r1 r2, by simp, by omega, ho2.keep fun b hb hl => k14.block b hl fun e => by have := hlt2 b hb; omega, ?_, k09, k14.get hb0' (by omega), k14.get hb1' (by omega), hb14, by omega⟩, by simp; omega⟩
  rw [tk_snoc hx]
  refine sgsAtN_snoc (sgsAtN_map (fun sz v n us hs => ((hs.keep k59 fun b hb e => hb.2 e.symm).keep k14 fun b hb e => by have := hb.1; omega).mono fun b hb => ⟨⟨hb.1.1, by have := hb.1; omega⟩, push_own hv (by have := hb.1; omega) hb.2⟩) _ hat) (by rw [ho.1, List.length_take]; congr 1; omega) ?_ rfl
  exact ⟨r1, r2, rfl, hf k710 (by omega) k710.size _ _ _ _ (SlN.own hr1 (by omega)), nilOr_own hr1, hr2.map (hf k10 (by omega) k10.size)⟩
end
end Go.Proofs.YtaehnpilebkcoaaDoor

namespace Go.Proofs.YtaehnpilebkcoaaDoor
open Go Go.Sx Go.Sx.Tk Go.Sx.Rn Go.Proofs.YtaehnpilebkcoaaDoor.Sx

theorem ex2N (op : Int) (nm : ByteArray) (n : Int) (a b : Ex) : exN (.mk op nm n [a, b]) = 1 + exN a + exN b := by
  rw [exN_eq]
  show 1 + exsN [a, b] = _
  unfold exsN
  unfold exsN
  unfold exsN
  omega
theorem ex1N (op : Int) (nm : ByteArray) (n : Int) (a : Ex) : exN (.mk op nm n [a]) = 1 + exN a := by
  rw [exN_eq]
  show 1 + exsN [a] = _
  unfold exsN
  unfold exsN
  omega
theorem ex0N (op : Int) (nm : ByteArray) (n : Int) : exN (.mk op nm n []) = 1 := by
  rw [exN_eq]
  show 1 + exsN [] = _
  unfold exsN
  rfl
theorem exs1N (x : Ex) : exsN [x] = exN x := by
  unfold exsN
  unfold exsN
  omega
theorem exs0N : exsN [] = 0 := by
  unfold exsN
  rfl
/-- each part is counted -/
theorem ecnt (e : Int) : ∀ f : Nat, (∀ {o n l r}, cmpP e f o n l = .ok r → r.2.1 = n + exN r.1) ∧ (∀ {o n l r}, sumP e f o n l = .ok r → r.2.1 = n + exN r.1) ∧ (∀ {o x n l r}, sumL e f o x n l = .ok r → r.2.1 + exN x = n + exN r.1) ∧
    (∀ {o n l r}, prodP e f o n l = .ok r → r.2.1 = n + exN r.1) ∧ (∀ {o x n l r}, prodL e f o x n l = .ok r → r.2.1 + exN x = n + exN r.1) ∧ (∀ {o n l r}, unitP e f o n l = .ok r → r.2.1 = n + exN r.1) := by
  intro f
  induction f with
  | zero =>
    refine ⟨?_, ?_, ?_, ?_, ?_, ?_⟩
    · intro o n l r h
      unfold cmpP at h
      cases h
    · intro o n l r h
      unfold sumP at h
      cases h
    · intro o x n l r h
      unfold sumL at h
      cases h
    · intro o n l r h
      unfold prodP at h
      cases h
    · intro o x n l r h
      unfold prodL at h
      cases h
    · intro o n l r h
      unfold unitP at h
      cases h
  | succ f ih =>
    obtain ⟨i1, i2, i3, i4, i5, i6⟩ := ih
    refine ⟨?_, ?_, ?_, ?_, ?_, ?_⟩
    · intro o n l r h
      unfold cmpP at h
      obtain ⟨a, ha, h⟩ := bindP_okk h
      have a1 := i2 ha
      split at h
      · obtain ⟨b, hb, h⟩ := bindP_okk h
        have b1 := i2 hb
        cases h
        show b.2.1 + 1 = n + exN (.mk _ _ _ [a.1, b.1])
        rw [ex2N]
        omega
      split at h
      · obtain ⟨b, hb, h⟩ := bindP_okk h
        have b1 := i2 hb
        cases h
        show b.2.1 + 1 = n + exN (.mk _ _ _ [a.1, b.1])
        rw [ex2N]
        omega
      · cases h
        exact a1
    · intro o n l r h
      unfold sumP at h
      obtain ⟨a, ha, h⟩ := bindP_okk h
      have a1 := i4 ha
      have b1 := i3 h
      omega
    · intro o x n l r h
      unfold sumL at h
      split at h
      · obtain ⟨a, ha, h⟩ := bindP_okk h
        have a1 := i4 ha
        have b1 := i3 h
        have b2 : ∀ op, exN (exTwo op x a.1) = 1 + exN x + exN a.1 := fun op => ex2N _ _ _ _ _
        rw [b2] at b1
        omega
      split at h
      · obtain ⟨a, ha, h⟩ := bindP_okk h
        have a1 := i4 ha
        have b1 := i3 h
        have b2 : ∀ op, exN (exTwo op x a.1) = 1 + exN x + exN a.1 := fun op => ex2N _ _ _ _ _
        rw [b2] at b1
        omega
      · cases h
        rfl
    · intro o n l r h
      unfold prodP at h
      obtain ⟨a, ha, h⟩ := bindP_okk h
      have a1 := i6 ha
      have b1 := i5 h
      omega
    · intro o x n l r h
      unfold prodL at h
      split at h
      · obtain ⟨a, ha, h⟩ := bindP_okk h
        have a1 := i6 ha
        have b1 := i5 h
        have b2 : ∀ op, exN (exTwo op x a.1) = 1 + exN x + exN a.1 := fun op => ex2N _ _ _ _ _
        rw [b2] at b1
        omega
      · cases h
        rfl
    · intro o n l r h
      unfold unitP at h
      split at h
      · split at h
        · cases h
        obtain ⟨a, ha, h⟩ := bindP_okk h
        have a1 := i1 ha
        split at h
        · cases h
          exact a1
        · cases h
      split at h
      · split at h
        · cases h
        obtain ⟨a, ha, h⟩ := bindP_okk h
        have a1 := i6 ha
        cases h
        show a.2.1 = n + exN (.mk _ _ _ [a.1])
        rw [ex1N]
        omega
      split at h
      · cases h
      · split at h
        · cases h
          show n + 1 = n + exN (.mk _ _ _ [])
          rw [ex0N]
        split at h
        · cases h
          show n + 1 = n + exN (.mk _ _ _ [])
          rw [ex0N]
        · cases h
theorem expr_N {e : Int} {l : List Tok} {r : Ex × List Tok} (h : exprP e l = .ok r) : exN r.1 + r.2.length ≤ l.length := by
  cases l with
  | nil => cases h
  | cons t q =>
    rw [exprP_cons] at h
    obtain ⟨a, ha, h⟩ := bindP_okk h
    have h1 := (plen e _).1 ha
    have h2 := (ecnt e _).1 ha
    split at h
    · cases h
    · cases h
      show exN a.1 + a.2.2.length ≤ _
      have := h1.2
      omega
theorem args_N {e : Int} : ∀ (f : Nat) {acc : List Ex} {l : List Tok} {r : List Ex × List Tok}, argsL e f acc l = .ok r → exsN r.1 + r.2.length ≤ exsN acc + l.length
  | 0, _, _, _, h => by
    unfold argsL at h
    cases h
  | f + 1, acc, l, r, h => by
    rw [argsL_eq] at h
    split at h
    · rename_i h1
      have := isT_tail h1
      cases h
      show exsN acc + l.tail.length ≤ _
      omega
    · obtain ⟨a, ha, h⟩ := bindP_okk h
      have hla : a.length ≤ l.length := by
        split at ha
        · cases ha
          exact Nat.le_refl _
        · have := wantP_len ha
          omega
      split at h
      · cases h
      · obtain ⟨b, hb, h⟩ := bindP_okk h
        have h1 := expr_N hb
        have h2 := args_N f h
        rw [exsN_snoc] at h2
        omega
theorem pars_N {e : Int} : ∀ (f : Nat) {acc : List (ByteArray × ByteArray)} {l : List Tok} {r : List (ByteArray × ByteArray) × List Tok}, parsL e f acc l = .ok r → acc.length ≤ 6 → r.1.length ≤ 6
  | 0, _, _, _, h, _ => by
    unfold parsL at h
    cases h
  | f + 1, acc, l, r, h, hacc => by
    rw [parsL_eq] at h
    split at h
    · cases h
      exact hacc
    · obtain ⟨a, ha, h⟩ := bindP_okk h
      split at h
      · cases h
      · rename_i h6
        obtain ⟨b, hb, h⟩ := bindP_okk h
        obtain ⟨c, hc, h⟩ := bindP_okk h
        exact pars_N f h (by rw [List.length_append]; simp only [List.length_cons, List.length_nil]; omega)
theorem short_N {e : Int} {d : Nat} {l : List Tok} {r : Sh × List Tok} (h : shortP e d l = .ok r) : exsN r.1.e + r.2.length ≤ l.length := by
  unfold shortP at h
  split at h
  · obtain ⟨q, hq, h⟩ := bindP_okk h
    have := expr_N hq
    cases h
    show exsN [q.1] + q.2.length ≤ _
    rw [exs1N]
    exact this
  obtain ⟨a, ha, h⟩ := bindP_okk h
  have hal := nameP_len ha
  split at h
  · obtain ⟨w, hw, h⟩ := bindP_okk h
    obtain ⟨q, hq, h⟩ := bindP_okk h
    have h1 := wantP_len hw
    have := expr_N hq
    cases h
    show exsN [q.1] + q.2.length ≤ _
    rw [exs1N]
    omega
  split at h
  · obtain ⟨b, hb, h⟩ := bindP_okk h
    obtain ⟨t, ht, h⟩ := bindP_okk h
    obtain ⟨n, hn, h⟩ := bindP_okk h
    have h1 := nameP_len hb
    have h2 := typP_len ht
    have h3 := numP_len hn
    cases h
    show exsN [] + n.2.length ≤ _
    rw [exs0N]
    omega
  split at h
  · obtain ⟨b, hb, h⟩ := bindP_okk h
    have h1 := nameP_len hb
    cases h
    show exsN [] + b.2.length ≤ _
    rw [exs0N]
    omega
  split at h
  · obtain ⟨q, hq, h⟩ := bindP_okk h
    have := expr_N hq
    cases h
    show exsN [q.1] + q.2.length ≤ _
    rw [exs1N]
    omega
  split at h
  · obtain ⟨w, hw, h⟩ := bindP_okk h
    obtain ⟨q, hq, h⟩ := bindP_okk h
    have h1 := wantP_len hw
    have h2 := args_N _ hq
    rw [exs0N] at h2
    cases h
    show exsN q.1 + q.2.length ≤ _
    omega
  · cases h
    show exsN [] + a.2.length ≤ _
    rw [exs0N]
    omega
theorem long_N {e : Int} {d : Nat} {l : List Tok} {r : Sh × List Tok} (h : longP e d l = .ok r) : exsN r.1.e + r.2.length ≤ l.length := by
  unfold longP at h
  split at h
  · obtain ⟨a, ha, h⟩ := bindP_okk h
    obtain ⟨w, hw, h⟩ := bindP_okk h
    obtain ⟨b, hb, h⟩ := bindP_okk h
    have h1 := nameP_len ha
    have h2 := wantP_len hw
    have h3 := nameP_len hb
    cases h
    show exsN [] + b.2.length ≤ _
    rw [exs0N]
    omega
  · obtain ⟨q, hq, h⟩ := bindP_okk h
    have := expr_N hq
    cases h
    show exsN [q.1] + q.2.length ≤ _
    rw [exs1N]
    exact this
theorem sts0N : stsN [] = 0 := by
  unfold stsN
  rfl
theorem stM (d at_ : Int) (a b t : ByteArray) (n : Int) (e : List Ex) (body els : List St) : stN (.mk d at_ a b t n e body els) = 1 + exsN e + stsN body + stsN els := by rw [stN_eq]; rfl
theorem sN (e : Int) : ∀ f : Nat, (∀ {deep n l r}, blockP e f deep n l = .ok r → stsN r.1 + r.2.2.length ≤ l.length) ∧ (∀ {deep acc n l r}, stmtsL e f deep acc n l = .ok r → stsN r.1 + r.2.2.length ≤ stsN acc + l.length) ∧ (∀ {deep n l r}, stmtP e f deep n l = .ok r → stN r.1 + r.2.2.length ≤ l.length) := by
  intro f
  induction f with
  | zero =>
    refine ⟨?_, ?_, ?_⟩
    · intro deep n l r h
      unfold blockP at h
      cases h
    · intro deep acc n l r h
      unfold stmtsL at h
      cases h
    · intro deep n l r h
      unfold stmtP at h
      cases h
  | succ f ih =>
    obtain ⟨i1, i2, i3⟩ := ih
    refine ⟨?_, ?_, ?_⟩
    · intro deep n l r h
      unfold blockP at h
      split at h
      · rename_i hT
        have ht := isT_tail hT
        split at h
        · cases h
        · have := i2 h
          rw [sts0N] at this
          omega
      · cases h
    · intro deep acc n l r h
      unfold stmtsL at h
      split at h
      · rename_i hT
        have ht := isT_tail hT
        cases h
        show stsN acc + l.tail.length ≤ _
        omega
      · obtain ⟨a, ha, h⟩ := bindP_okk h
        have h1 := i3 ha
        have h2 := i2 h
        rw [stsN_snoc] at h2
        omega
    · intro deep n l r h
      cases l with
      | nil => rw [stmtP_nil] at h; cases h
      | cons t l =>
        rw [stmtP_cons] at h
        simp only [List.length_cons]
        split at h
        · split at h
          · cases h
          split at h
          · obtain ⟨s, hs, h⟩ := bindP_okk h
            obtain ⟨w, hw, h⟩ := bindP_okk h
            have h1 := short_N hs
            have h2 := wantP_len hw
            cases h
            show stN (.mk _ _ _ _ _ _ _ _ _) + w.length ≤ _
            rw [stM, sts0N]
            omega
          · obtain ⟨s, hs, h⟩ := bindP_okk h
            obtain ⟨b, hb, h⟩ := bindP_okk h
            have h1 := long_N hs
            have h2 := i1 hb
            split at h
            · rename_i hT
              have ht := isT_tail hT.2
              obtain ⟨q, hq, h⟩ := bindP_okk h
              have h3 := i1 hq
              cases h
              show stN (.mk _ _ _ _ _ _ _ _ _) + q.2.2.length ≤ _
              rw [stM]
              omega
            · cases h
              show stN (.mk _ _ _ _ _ _ _ _ _) + b.2.2.length ≤ _
              rw [stM, sts0N]
              omega
        · cases h
abbrev sgsN (p : List Sg) : Nat := (p.map fun s => stsN s.body).sum
theorem stage_N {e : Int} {n : Nat} {l : List Tok} {q : Sg × Nat × List Tok} (h : stageP e n l = .ok q) : stsN q.1.body + q.2.2.length ≤ l.length ∧ q.1.ps.length ≤ 6 := by
  cases l with
  | nil => cases h
  | cons t r =>
    rw [stageP_cons] at h
    obtain ⟨a, ha, h⟩ := bindP_okk h
    obtain ⟨l, hl, h⟩ := bindP_okk h
    obtain ⟨ps, hps, h⟩ := bindP_okk h
    obtain ⟨b, hb, h⟩ := bindP_okk h
    have h1 := nameP_len ha
    have h2 := wantP_len hl
    have h3 := parsL_len hps
    have h4 := (sN e _).1 hb
    have h5 := pars_N _ hps (by simp)
    cases h
    refine ⟨?_, h5⟩
    show stsN b.1 + b.2.2.length ≤ _
    simp only [List.length_cons]
    omega
theorem stages_N {e : Int} : ∀ (f : Nat) {n : Nat} {acc p : List Sg} {l : List Tok}, stagesL e f acc n l = .ok p → (∀ s ∈ acc, s.ps.length ≤ 6) → sgsN p ≤ sgsN acc + l.length ∧ ∀ s ∈ p, s.ps.length ≤ 6
  | 0, _, _, _, _, h, _ => by
    unfold stagesL at h
    cases h
  | f + 1, n, acc, p, l, h, hacc => by
    rw [stagesL_eq] at h
    split at h
    · cases h
      exact ⟨by omega, hacc⟩
    split at h
    · split at h
      · cases h
      · obtain ⟨s, hs, h⟩ := bindP_okk h
        obtain ⟨h1, h2⟩ := stage_N hs
        obtain ⟨h3, h4⟩ := stages_N f h fun x hx => by
          rcases List.mem_append.1 hx with hx | hx
          · exact hacc x hx
          · rw [List.mem_singleton.1 hx]
            exact h2
        refine ⟨?_, h4⟩
        have : sgsN (acc ++ [s.1]) = sgsN acc + stsN s.1.body := by simp [sgsN]
        omega
    · cases h
theorem parse_N {e : Int} {l : List Tok} {p : List Sg} (h : parseT e l = .ok p) : sgsN p ≤ l.length ∧ ∀ s ∈ p, s.ps.length ≤ 6 := by
  have := stages_N _ h (by simp)
  simpa [sgsN] using this
end Go.Proofs.YtaehnpilebkcoaaDoor

namespace Go.Proofs.YtaehnpilebkcoaaDoor
open Go Go.Sx Go.Sx.Tk Go.Sx.Rn Go.Proofs.YtaehnpilebkcoaaDoor.Sx

theorem sc_code {l : List UInt8} {at_ : Int} {res : Res} (h : Tkz.Sc l at_ res) : ∀ e a, res = .error (e, a) → e = 2 ∨ e = 3 ∨ e = 4 := by
  induction h with
  | stop _ => rintro _ _ ⟨⟩
  | bad h1 e1 =>
    rintro _ _ ⟨⟩
    exact Tkz.bad_ne e1
  | tok _ _ _ _ => rintro _ _ ⟨⟩
  | fail h1 e1 k1 ih =>
    intro e a he
    exact ih e a he
theorem PsO.err57 {s : ByteArray} {x : Int × Int} (h : PsO s (.error x)) (hs : s.size ≤ 12000) (hx : bad57 x) : ∃ ts, Tkz.Sc (bytesOf s) 0 (.ok ts) ∧ parseT (s.size : Int) ts = .error x := by
  obtain ⟨ts, e, a, ho, he⟩ := h
  rcases ho with ⟨h, _⟩ | ⟨_, hsc, rfl, rfl⟩ | ⟨_, hsc, rfl⟩
  · omega
  · rw [if_pos rfl] at he
    exact ⟨ts, hsc, he.symm⟩
  · exfalso
    have h1 := sc_code hsc _ _ rfl
    rw [if_neg (by omega)] at he
    cases he
    rcases hx with hx | hx
    · have hx : e = 5 := hx
      omega
    · have hx : e = 7 := hx
      omega
abbrev jn (a b : ByteArray) : ByteArray := (a ++ (⟨#[10]⟩ : ByteArray)) ++ b
theorem jn_bytes (a b : ByteArray) : bytesOf (jn a b) = bytesOf a ++ 10 :: bytesOf b := by simp [bytesOf]
theorem jn_size (a b : ByteArray) : (jn a b).size = a.size + 1 + b.size := by
  have := congrArg List.length (jn_bytes a b)
  rw [bytes_len, List.length_append, List.length_cons, bytes_len, bytes_len] at this
  omega
theorem jn_sc {a b : ByteArray} {ta tb : List Tok} (ha : Tkz.Sc (bytesOf a) 0 (.ok ta)) (hb : Tkz.Sc (bytesOf b) 0 (.ok tb)) : Tkz.Sc (bytesOf (jn a b)) 0 (.ok (ta ++ sh ((a.size : Int) + 1) tb)) := by
  rw [jn_bytes]
  have h2 := Scans.shift ((a.size : Int) + 1) hb
  rw [show (0 : Int) + ((a.size : Int) + 1) = 0 + ((bytesOf a).length : Int) + 1 by rw [bytes_len]; omega] at h2
  exact Scans.join ha ta rfl _ h2
theorem PsO.jn {a b : ByteArray} {ta tb : List Tok} (ha : Tkz.Sc (bytesOf a) 0 (.ok ta)) (hb : Tkz.Sc (bytesOf b) 0 (.ok tb)) (sa : a.size ≤ 5900) (sb : b.size ≤ 5900) {res : Except (Int × Int) (List Sg)} (h : PsO (jn a b) res) :
    res = parseT ((Go.Proofs.YtaehnpilebkcoaaDoor.jn a b).size : Int) (ta ++ sh ((a.size : Int) + 1) tb) := by
  have hs := jn_size a b
  exact h.same ⟨_, 0, 0, .inr (.inl ⟨by omega, jn_sc ha hb, rfl, rfl⟩), by rw [if_pos rfl]⟩
theorem parse_head {e : Int} {l : List Tok} {p : List Sg} (h : parseT e l = .ok p) : ∃ t s r, t ∈ l ∧ p = s :: r ∧ s.at_ = t.at_ := by
  cases l with
  | nil =>
    have := parse_last h
    obtain ⟨t, _, h2⟩ := this
    have := h2.length_le
    simp at this
  | cons t l =>
    unfold parseT at h
    rw [show (t :: l).length + 2 = ((t :: l).length + 1) + 1 from rfl, stagesL_eq, if_neg (fun h => h.2 rfl)] at h
    split at h
    · rw [if_neg (by simp)] at h
      obtain ⟨s, hs, h⟩ := bindP_okk h
      obtain ⟨r, rfl, -⟩ := stages_more _ h
      refine ⟨t, s.1, r, List.mem_cons_self, rfl, ?_⟩
      rw [stageP_cons] at hs
      obtain ⟨a, ha, hs⟩ := bindP_okk hs
      obtain ⟨l, hl, hs⟩ := bindP_okk hs
      obtain ⟨ps, hps, hs⟩ := bindP_okk hs
      obtain ⟨b, hb, hs⟩ := bindP_okk hs
      cases hs
      rfl
    · cases h
theorem sgsZ_join (D : Int) (p q : List Sg) : sgsZ false (p ++ q.map (shSg D)) = sgsZ false (p ++ q) := by
  unfold sgsZ
  rw [List.map_append, List.map_append, List.map_map]
  congr 1
  refine List.map_congr_left fun s _ => ?_
  exact shSg_Z D s
section
variable {ω : Amb}
theorem sgs_own {h : Hp} {base : Nat} {w : Value} {l : List Sg} {us : List Value} {N : Nat → Prop} {n : Nat} (ho : OwnH h base 51 4 w n us) (hs : sgsAtN h N l us) (hn : n = l.length) (hl : l.length ≤ 1000) : SgS h w l := by
  subst hn
  exact ⟨us, (SlN.own ho (by omega)).1, sgsAtN.at _ hs⟩
set_option maxRecDepth 100000 in
theorem app_cp {ha h9 hY h10 hX : Hp} {w1 w2 : Value} {us1 us2 : List Value} {p q : List Sg} (ho1 : OwnH h9 ha.size 51 4 w1 p.length us1) (hs1 : sgsAtN h9 (fun b => Nw ha h9 b ∧ w1.ownBlock ≠ some b) p us1) (kY : Keep (fun _ => False) h9 hY)
    (ho2 : OwnH h10 hY.size 51 4 w2 q.length us2) (hs2 : sgsAtN h10 (fun b => Nw hY h10 b ∧ w2.ownBlock ≠ some b) q us2) (k10 : Keep (fun _ => False) hY h10) (kX : Keep (fun _ => False) h10 hX) (k9 : Keep (fun _ => False) ha h9) (hp : p.length ≤ 100) (hq : q.length ≤ 100) {K : Value → Hp → Prop}
    (hK : ∀ w h' us, OwnH h' ha.size 51 4 w (p.length + q.length) us → sgsAtN h' (fun b => Nw ha h9 b ∨ Nw hY h10 b) (p ++ q) us → Keep (fun b => w1.ownBlock = some b) hX h' → (∀ k, w.ownBlock = some k → w1.ownBlock = some k ∨ hX.size ≤ k) → K w h') : appK Tryd.prog 22 hX w1 w2 K := by
  have k9X := (kY.trans k10).trans kX
  have z1 := k9.size
  have z2 := kY.size
  have z3 := k10.size
  have z4 := kX.size
  have hlt := ho1.lt
  refine appK_of (bt := 72) (el := 51) (sz := 4) (by kernel_rfl) (ho1.more k9X) (newsOwn (ho2.more kX)) (sgsAtN_one hs2) (by omega) (by omega) (by omega) fun w h' hw hg _ hv => ?_
  have kg : Keep (fun b => w1.ownBlock = some b) hX h' := Keep.grown hg fun b hb _ => hb
  refine hK w h' _ hw (sgsAtN_app (sgsAtN_map (fun sz v n us hs => ((hs.keep k9X fun _ _ h => h).keep kg fun b hb e => hb.2 e).mono fun b hb => .inl hb.1) _ hs1) ho1.1 (sgsAtN_map (fun sz v n us hs => ((hs.keep kX fun _ _ h => h).keep kg fun b hb e => ?_).mono fun b hb => .inr hb.1) _ hs2)) kg hv
  have := hlt b e
  have := hb.1.1
  omega
theorem put_at {h' : Hp} {LB base n : Nat} {w : Value} {l : List Sg} {us : List Value} {N : Nat → Prop} (hL : h'[LB]? = some (.cells [.slice none 0 0].toArray 24 (0, 0))) (ho : OwnH h' base 51 4 w n us) (hs : sgsAtN h' N l us) (hn : n = l.length) (hl : l.length ≤ 1000) (hN : ∀ b, N b → b ≠ LB) (hw : w.ownBlock ≠ some LB)
    {K : Hp → Prop} (hK : ∀ hh, hh[LB]? = some (.cells [w].toArray 24 (0, 0)) → SgS hh w l → Keep (fun b => b = LB) h' hh → K hh) : storeK h' ⟨LB, 0, none⟩ [w] K := by
  refine storeK_of (o := 0) hL (by simp) ?_
  rw [spl_all (by simp)]
  have k := Keep.set (S := fun b => b = LB) (h := h') (.cells [w].toArray 24 (0, 0)) (b := LB) rfl
  refine hK _ (hp_set_same hL) ?_ k
  exact sgs_own (ho.keep fun b hb hl => k.block b hl fun e => hw (by rw [← e]; exact hb)) (sgsAtN_map (N' := N) (fun sz v n us hs => hs.keep k fun b hb e => hN b hb e) _ hs) hn hl
set_option maxRecDepth 100000 in
theorem join_tail {hh h : Hp} {A1 A2 A3 B3 LB : Nat} {v1 v2 v3 w : Value} {p q r : List Sg} {sa : ByteArray} {a3 : Int} {X : List PanicEntry → Hp → Prop} {s0 : Sg} (h1 : hh[A1]? = some (.cells [v1].toArray 24 (0, 0))) (h2 : hh[A2]? = some (.cells [v2].toArray 24 (0, 0)))
    (h3 : hh[A3]? = some (.cells [v3].toArray 24 (0, 0))) (hB : hh[B3]? = some (.cells (flt 0 a3).toArray 28 (0, 0))) (hL : hh[LB]? = some (.cells [w].toArray 24 (0, 0))) (hp : SgS hh v1 p) (hq : SgS hh v2 q) (hr : SgS hh v3 r) (hw : SgS hh w (p ++ q))
    (hre : r = p ++ q.map (shSg ((sa.size : Int) + 1))) (hps : ∀ s ∈ r, s.ps.length ≤ 1000) (hq0 : q[0]? = some s0) (h0 : 0 ≤ s0.at_ ∧ s0.at_ ≤ 12000) (hsa : sa.size ≤ 5900) (k : Keep (fun _ => False) h hh) :
    ∃ J111 : Value → Hp → Prop,
     (∃ v115, cellH hh (Addr.add ⟨B3, 0, none⟩ 0) = some v115 ∧
      asK .i64 v115 fun n116 => cond (n116 == (0 : Int))
      (∃ C117, cellsH hh ⟨A3, 0, none⟩ 1 C117 ∧
      ∃ C118, cellsH hh ⟨LB, 0, none⟩ 1 C118 ∧
      CallX Tryd.prog ω 20 [(.agg C117.toArray), (.agg C118.toArray)] hh (fun r119 h120 =>
      asB r119 fun b121 => cond b121
      (∃ v122, cellH h120 (Addr.add ⟨A3, 0, none⟩ 0) = some v122 ∧
      ∃ v123, cellH h120 (Addr.add ⟨A1, 0, none⟩ 0) = some v123 ∧
      asSl v123 fun a124 l125 c126 => asSl1 v122 fun a127 l128 c129 => 0 ≤ ((l125 : Int) : Int) ∧ (l125 : Int) < (l128 : Int) ∧ ∃ v130, cellH h120 (Addr.add (Addr.add a127 (Int.toNat (l125 : Int) * 4)) 1) = some v130 ∧
      ∃ v131, cellH h120 (Addr.add ⟨A2, 0, none⟩ 0) = some v131 ∧
      asSl1 v131 fun a132 l133 c134 => 0 ≤ (0 : Int) ∧ 0 < (l133 : Int) ∧ ∃ v135, cellH h120 (Addr.add (Addr.add a132 (Int.toNat 0 * 4)) 1) = some v135 ∧
      asS (.string sa) fun s136 => asK .i64 v135 fun n137 => asK .i64 v130 fun n138 => J111 (.bool (n138 == ((IntKind.wrap .i64 ((IntKind.wrap .i64 (n137 + (ByteArray.size s136 : Int))) + 1)) : Int))) h120)
      (J111 (.bool false) h120)) X)
      (J111 (.bool false) hh)) ∧
     ∀ (t4_112 : Value) (d113 : Nat → Value) (h114 : Hp), J111 t4_112 h114 → (t4_112 = .bool true ∧ Keep (fun _ => False) h h114) := by
  refine ⟨fun t h' => t = .bool true ∧ Keep (fun _ => False) h h', ?_, fun _ _ _ hj => hj⟩
  refine lx hB (j := 0) (u := .int .i64 0) rfl ?_
  rw [asK_int]
  refine cond_t rfl ?_
  refine ⟨_, cellsH_blk h3 rfl, _, cellsH_blk hL rfl, ?_⟩
  refine CallX.use (Same_law r (p ++ q) hps hh _ _ ⟨v3, rfl, hr⟩ ⟨w, rfl, hw⟩) ?_
  rintro _ h4 ⟨⟨b, rfl, hb⟩, k4⟩
  rw [asB_bool]
  refine cond_t (hb.2 (by rw [hre]; exact sgsZ_join _ p q)) ?_
  refine lx (k4.get h3 (by simp)) (j := 0) rfl ?_
  refine lx (k4.get h1 (by simp)) (j := 0) rfl ?_
  refine SgS.sl (hp.keep k4) fun _ _ => ?_
  have hx : r[p.length]? = some (shSg ((sa.size : Int) + 1) s0) := by
    rw [hre, List.getElem?_append_right (Nat.le_refl _), Nat.sub_self, List.getElem?_map, hq0]
    rfl
  refine SgS.rdO' (hr.keep k4) (o := 1) hx fun vp vb _ _ => ⟨.int .i64 (s0.at_ + ((sa.size : Int) + 1)), rfl, ?_⟩
  refine lx (k4.get h2 (by simp)) (j := 0) rfl ?_
  refine SgS.rdO' (hq.keep k4) (i := 0) (o := 1) hq0 fun vp vb _ _ => ⟨.int .i64 s0.at_, rfl, ?_⟩
  rw [asS_str, asK_int, asK_int, i64_in (n := s0.at_ + (sa.size : Int)) (by omega) (by omega), i64_in (by omega) (by omega)]
  refine ⟨?_, k.trans k4⟩
  congr 1
  simp
  omega
end
end Go.Proofs.YtaehnpilebkcoaaDoor

namespace Go.Proofs.YtaehnpilebkcoaaDoor
open Go Go.Sx Go.Sx.Tk Go.Sx.Rn Go.Proofs.YtaehnpilebkcoaaDoor.Sx

section
variable {ω : Amb}
/-- a program that was parsed is not great -/
structure Lit (p : List Sg) : Prop where
  len : p.length ≤ 10
  ps : ∀ s ∈ p, s.ps.length ≤ 6
  tot : (p.map fun s => stsN s.body).sum ≤ 8000
  cnt : pgQ p ≤ 300
theorem parse_lit {s : ByteArray} {ts : List Tok} {p : List Sg} (hs : s.size ≤ 5900) (hsc : Tkz.Sc (bytesOf s) 0 (.ok ts)) (h : parseT (s.size : Int) ts = .ok p) : Lit p := by
  obtain ⟨f, m, h1, h2, h3, h4, h5, h6⟩ := parse_pre (e' := 0) (y := []) h
  obtain ⟨h7, h8⟩ := parse_N h
  have h9 := Tkz.Sc.len hsc _ rfl
  rw [bytes_len] at h9
  have h7 : (p.map fun s => stsN s.body).sum ≤ ts.length := h7
  exact ⟨h6, h8, by omega, by omega⟩
set_option maxRecDepth 100000 in
set_option maxHeartbeats 1000000 in
theorem SyntaxJoins_lawX (sa sb : ByteArray) (h : Hp) (X : List PanicEntry → Hp → Prop) :
    CallX Tryd.prog ω n_pipewrightlaw_SyntaxJoins [.string sa, .string sb] h (fun r h' => r = .bool true ∧ Keep (fun _ => False) h h') X := by
  refine C_pipewrightlaw_SyntaxJoins ω _ _ h _ X ?_
  unfold W_pipewrightlaw_SyntaxJoins
  refine CallX.use (begun_law h) ?_
  rintro _ h1 ⟨rfl, k1⟩
  rw [asB_bool]
  refine cond_f rfl ?_
  refine ⟨decide (5900 < sa.size ∨ 5900 < sb.size), ?_, ?_⟩
  · rw [asS_str]
    refine cond_c (fun hc => ?_) (fun hc => ?_)
    · have hc : 5900 < sa.size := by have := of_decide_eq_true hc; omega
      exact ⟨by simp [hc], rfl⟩
    · have hc : ¬ 5900 < sa.size := by have := of_decide_eq_false hc; omega
      refine ⟨?_, rfl⟩
      congr 1
      rw [Bool.eq_iff_iff]
      simp
      omega
  intro _
  refine cond_c (fun _ => ⟨rfl, k1⟩) (fun hc => ?_)
  have hc : ¬ (5900 < sa.size ∨ 5900 < sb.size) := of_decide_eq_false hc
  obtain ⟨za, zb⟩ : sa.size ≤ 5900 ∧ sb.size ≤ 5900 := by omega
  refine CallX.use (Parse_law sa h1) ?_
  rintro r1 h2 ⟨ra, hpa, hr1, k2⟩
  refine two_res hr1 fun h3 v1 c1 a1 k3 z3 hA1 hB1 hg1 => ?_
  simp only [Array.size_push]
  have k03 := (k1.trans k2).trans k3
  refine CallX.use (Parse_law sb h3) ?_
  rintro r2 h4 ⟨rb, hpb, hr2, k4⟩
  refine two_res' hr2 fun h5 v2 c2 a2 k5 z5 hA2 hB2 hg2 => ?_
  have k35 := k4.trans k5
  have hA1 := k35.get hA1 (by simp)
  have hB1 := k35.get hB1 (by simp)
  have hg1 := hg1.keep k35
  have k05 := k03.trans k35
  rw [asS_str, asS_str]
  have hn1 : ByteArray.size (⟨#[10]⟩ : ByteArray) = 1 := rfl
  have hn2 : (sa ++ (⟨#[10]⟩ : ByteArray)).size = sa.size + 1 := by
    rw [ByteArray.size_append]
    rfl
  refine ⟨by omega, by omega, ?_⟩
  refine CallX.use (Parse_law (jn sa sb) h5) ?_
  rintro r3 h6 ⟨rj, hpj, hr3, k6⟩
  refine two_res' hr3 fun h7 v3 c3 a3 k7 z7 hA3 hB3 hg3 => ?_
  have k57 := k6.trans k7
  have hA1 := k57.get hA1 (by simp)
  have hB1 := k57.get hB1 (by simp)
  have hg1 := hg1.keep k57
  have hA2 := k57.get hA2 (by simp)
  have hB2 := k57.get hB2 (by simp)
  have hg2 := hg2.keep k57
  have k07 := k05.trans k57
  have zj := jn_size sa sb
  refine ⟨decide (c1 = 5 ∨ c1 = 7), ?_, ?_⟩
  · refine lx hB1 (j := 0) (u := .int .i64 c1) rfl ?_
    rw [asK_int]
    refine cond_c (fun hc => ?_) (fun hc => ?_)
    · have hc : c1 = 5 := by simpa using hc
      exact ⟨by simp [hc], by trivial⟩
    · have hc : c1 ≠ 5 := by simpa using hc
      refine lx hB1 (j := 0) (u := .int .i64 c1) rfl ?_
      rw [asK_int]
      refine ⟨?_, by trivial⟩
      congr 1
      rw [Bool.eq_iff_iff]
      simp [hc]
  intro _
  refine cond_c (fun h57 => ?_) (fun h57 => ?_)
  · have h57 : c1 = 5 ∨ c1 = 7 := of_decide_eq_true h57
    refine CallX.use (Tkz.RScan_law sb h7) ?_
    intro _ h8 hs8
    obtain ⟨us, w, e', a', rfl, k8, ho8, hsl8⟩ := hs8.out
    rw [asT_tup, show (#[w, .agg (flt e' a').toArray] : Array Value)[0]? = some w from rfl, asO_some, asT_tup, show (#[w, .agg (flt e' a').toArray] : Array Value)[1]? = some (.agg (flt e' a').toArray) from rfl, asO_some, asA_agg]
    refine ⟨rfl, flt_one _ _, storeK_local (cs := flt e' a') rfl ?_⟩
    have kp := Keep.push (S := fun _ => False) h8 (.cells (flt e' a').toArray 28 (0, 0))
    have hb9 := hp_push_new (h := h8) (o := .cells (flt e' a').toArray 28 (0, 0))
    have k79 := k8.trans kp
    generalize h8.push (.cells (flt e' a').toArray 28 (0, 0)) = h9 at *
    have hB1 := k79.get hB1 (by simp)
    have hB3 := k79.get hB3 (by simp)
    refine ⟨fun r h' => r = .bool true ∧ Keep (fun _ => False) h h', ?_, fun _ _ _ hj => hj⟩
    refine ⟨flt c3 a3, cellsH_blk hB3 rfl, flt c1 a1, cellsH_blk hB1 rfl, ?_⟩
    simp only [flt, Sx.ld]
    have hfin : (c3 = c1 ∧ a3 = a1) ∨ e' ≠ 0 := by
      cases ra with
      | ok p =>
        exfalso
        have := hg1.1
        omega
      | error x =>
        obtain ⟨rfl, rfl, -⟩ := hg1
        obtain ⟨ta, hta, hpt⟩ := hpa.err57 (by omega) h57
        rcases ho8 with ⟨h, _⟩ | ⟨_, hsc, rfl, rfl⟩ | ⟨_, hsc, rfl⟩
        · omega
        · left
          have := PsO.jn hta hsc za zb hpj
          rw [parse_join_err hpt h57] at this
          subst this
          exact ⟨hg3.1, hg3.2.1⟩
        · right
          have := (Tkz.Sc.err hsc _ _ rfl).1
          exact this
    refine cond_c (fun hc => ⟨by trivial, k07.trans k79⟩) (fun hc => ?_)
    refine lx hb9 (j := 0) (u := .int .i64 e') rfl ?_
    rw [asK_int]
    refine ⟨?_, k07.trans k79⟩
    congr 1
    rcases hfin with ⟨rfl, rfl⟩ | h
    · simp at hc
    · simpa using h
  have h57 : ¬ (c1 = 5 ∨ c1 = 7) := of_decide_eq_false h57
  refine ⟨decide (c1 ≠ 0 ∨ c2 ≠ 0), ?_, ?_⟩
  · refine lx hB1 (j := 0) (u := .int .i64 c1) rfl ?_
    rw [asK_int]
    refine cond_c (fun hc => ?_) (fun hc => ?_)
    · have hc : c1 ≠ 0 := by simpa using hc
      exact ⟨by simp [hc], by trivial⟩
    · have hc : c1 = 0 := by simpa using hc
      refine lx hB2 (j := 0) (u := .int .i64 c2) rfl ?_
      rw [asK_int]
      refine ⟨?_, by trivial⟩
      congr 1
      rw [Bool.eq_iff_iff]
      simp [hc]
  intro _
  refine cond_c (fun _ => ⟨by trivial, k07⟩) (fun h0 => ?_)
  have h0 : ¬ (c1 ≠ 0 ∨ c2 ≠ 0) := of_decide_eq_false h0
  obtain ⟨e1, e2⟩ : c1 = 0 ∧ c2 = 0 := by omega
  cases ra with
  | error x =>
    exfalso
    have := (hpa.err (by omega)).1
    exact this (by rw [← hg1.1, e1])
  | ok p =>
  cases rb with
  | error x =>
    exfalso
    have := (hpb.err (by omega)).1
    exact this (by rw [← hg2.1, e2])
  | ok q =>
  obtain ⟨-, ta, hta, hpt, -⟩ := hpa.okk
  obtain ⟨-, tb, htb, hqt, -⟩ := hpb.okk
  have hrj := PsO.jn hta htb za zb hpj
  have hj := parse_join (e' := ((jn sa sb).size : Int)) (D := (sa.size : Int) + 1) hpt hqt
  have lp := parse_lit za hta hpt
  have lq := parse_lit zb htb hqt
  have lp1 := lp.len
  have lp2 := lp.cnt
  have lq1 := lq.len
  have lq2 := lq.cnt
  obtain ⟨-, -, hsp⟩ := hg1
  obtain ⟨-, -, hsq⟩ := hg2
  refine ⟨fun t h' => t = .bool (decide (10 < p.length + q.length ∨ 300 < pgQ p + pgQ q)) ∧ Keep (fun _ => False) h7 h', ?_, ?_⟩
  · refine lx hA1 (j := 0) rfl ?_
    refine SgS.sl hsp fun _ _ => ?_
    refine lx hA2 (j := 0) rfl ?_
    refine SgS.sl hsq fun _ _ => ?_
    rw [i64_in (by omega) (by omega)]
    refine cond_c (fun hc => ?_) (fun hc => ?_)
    · have hc : 10 < p.length + q.length := by have := of_decide_eq_true hc; omega
      exact ⟨by simp [hc], Keep.refl _ _⟩
    · have hc : ¬ 10 < p.length + q.length := by have := of_decide_eq_false hc; omega
      refine ⟨_, cellsH_blk hA1 rfl, _, cellsH_blk hA2 rfl, ?_⟩
      refine CallX.use (RCount_law p (by omega) (by omega) _ h7 ⟨v1, rfl, hsp⟩) ?_
      rintro _ h8 ⟨rfl, k8⟩
      refine ⟨cellsH_blk (k8.get hA2 (by simp)) rfl, ?_⟩
      refine CallX.use (RCount_law q (by omega) (by omega) _ h8 ⟨v2, rfl, hsq.keep k8⟩) ?_
      rintro _ h9 ⟨rfl, k9⟩
      rw [asK_int, asK_int, i64_in (by omega) (by omega)]
      refine ⟨?_, k8.trans k9⟩
      congr 1
      rw [Bool.eq_iff_iff]
      simp [hc]
      omega
  rintro _ _ h8 ⟨rfl, k8⟩
  have hA1 := k8.get hA1 (by simp)
  have hA2 := k8.get hA2 (by simp)
  have hA3 := k8.get hA3 (by simp)
  have hB3 := k8.get hB3 (by simp)
  have hsp := hsp.keep k8
  have hsq := hsq.keep k8
  have hg3 := hg3.keep k8
  have k08 := k07.trans k8
  have hz1 := k35.size
  have hz2 := k57.size
  have hz3 := k6.size
  have hz4 := k4.size
  have hz5 := k8.size
  rw [asB_bool]
  refine cond_c (fun hm => ?_) (fun hm => ?_)
  · have hm : 10 < p.length + q.length ∨ 300 < pgQ p + pgQ q := of_decide_eq_true hm
    obtain ⟨a, ha⟩ := hj.2 (by omega)
    rw [ha] at hrj
    subst hrj
    obtain ⟨rfl, -, -⟩ := hg3
    refine lx hB3 (j := 0) (u := .int .i64 8) rfl ?_
    rw [asK_int]
    exact ⟨rfl, k08⟩
  have hm : ¬ (10 < p.length + q.length ∨ 300 < pgQ p + pgQ q) := of_decide_eq_false hm
  have hjo := hj.1 (by omega)
  rw [hjo] at hrj
  subst hrj
  obtain ⟨rfl, -, hsr⟩ := hg3
  obtain ⟨t0, s0, q', ht0, hqe, hs0⟩ := parse_head hqt
  have hq0 : q[0]? = some s0 := by rw [hqe]; rfl
  have hb0 := sc_bound htb tb rfl t0 ht0
  rw [bytes_len] at hb0
  have hpsr : ∀ s ∈ p ++ q.map (shSg ((sa.size : Int) + 1)), s.ps.length ≤ 1000 := by
    intro s hs
    rcases List.mem_append.1 hs with hs | hs
    · have := lp.ps s hs
      omega
    · obtain ⟨x, hx, rfl⟩ := List.mem_map.1 hs
      have : (shSg ((sa.size : Int) + 1) x).ps.length ≤ 6 := lq.ps x hx
      omega
  have fin : ∀ {hh : Hp} {w : Value} {LB : Nat} {X : List PanicEntry → Hp → Prop}, Keep (fun _ => False) h8 hh → hh[LB]? = some (.cells [w].toArray 24 (0, 0)) → SgS hh w (p ++ q) → _ := fun {hh w LB X} kx hL hw =>
    join_tail (ω := ω) (h := h) (X := X) (kx.get hA1 (by simp)) (kx.get hA2 (by simp)) (kx.get hA3 (by simp)) (kx.get hB3 (by simp)) hL (hsp.keep kx) (hsq.keep kx) (hsr.keep kx) hw rfl hpsr hq0 (by omega) za (k08.trans kx)
  have hcp : ∀ {hh : Hp}, Keep (fun _ => False) h8 hh → ∀ X, CallX Tryd.prog ω n_pipewrightref_CopyProgram [.agg #[v1]] hh (fun r h' => ∃ w us, r = .agg #[w] ∧ OwnH h' hh.size 51 4 w p.length us ∧ sgsAtN h' (fun b => Nw hh h' b ∧ w.ownBlock ≠ some b) p us ∧ Keep (fun _ => False) hh h') X := fun k X =>
    CopyO_law p (by omega) (fun s hs => by have := lp.ps s hs; omega) lp.tot _ _ ⟨v1, rfl, hsp.keep k⟩ X
  have hcq : ∀ {hh : Hp}, Keep (fun _ => False) h8 hh → ∀ X, CallX Tryd.prog ω n_pipewrightref_CopyProgram [.agg #[v2]] hh (fun r h' => ∃ w us, r = .agg #[w] ∧ OwnH h' hh.size 51 4 w q.length us ∧ sgsAtN h' (fun b => Nw hh h' b ∧ w.ownBlock ≠ some b) q us ∧ Keep (fun _ => False) hh h') X := fun k X =>
    CopyO_law q (by omega) (fun s hs => by have := lq.ps s hs; omega) lq.tot _ _ ⟨v2, rfl, hsq.keep k⟩ X
  have asO1 : ∀ (w : Value) (F : Value → Prop), asO (#[w] : Array Value)[0]? F = F w := fun _ _ => rfl
  refine ⟨_, cellsH_blk hA1 rfl, _, cellsH_blk hA2 rfl, ?_, ?_⟩
  · refine CallX.use (hcp (Keep.refl _ _)) ?_
    rintro _ h9 ⟨w1, us1, rfl, ho1, hs1, k9⟩
    have z9 := k9.size
    have hl1 := ho1.lt
    refine ⟨cellsH_blk (k9.get hA2 (by simp)) rfl, ?_⟩
    rw [asA_agg, asO1]
    refine ⟨?_, ?_⟩
    · refine CallX.use (hcq k9) ?_
      rintro _ h10 ⟨w2, us2, rfl, ho2, hs2, k10⟩
      have z10 := k10.size
      rw [asA_agg, asO1]
      refine ⟨?_, ?_⟩
      · refine app_cp ho1 hs1 (Keep.refl _ _) ho2 hs2 k10 (Keep.refl _ _) k9 (by omega) (by omega) fun w h11 us ho hs k11 hv => ?_
        have hw := sgs_own ho hs (by simp) (by simp; omega)
        have z11 := k11.size
        refine oneK_of (ownOne ho) ?_
        refine ⟨by trivial, fun u hu => by rw [List.mem_singleton.1 hu]; exact ownOne ho, storeK_local (cs := [w]) rfl ?_⟩
        have kp := Keep.push (S := fun _ => False) h11 (.cells [w].toArray 24 (0, 0))
        refine fin ?_ hp_push_new (hw.keep kp)
        exact ((k9.trans k10).newer (k11.mono fun b _ hb => .inr (by have := hl1 b hb; omega))).trans kp
      · have kX := Keep.push (S := fun _ => False) h10 (.cells #[(.slice none 0 0)] 24 (0, 0))
        have hL := hp_push_new (h := h10) (o := .cells #[(.slice none 0 0)] 24 (0, 0))
        have zX : (h10.push (.cells #[(.slice none 0 0)] 24 (0, 0))).size = h10.size + 1 := by simp
        generalize h10.push (.cells #[(.slice none 0 0)] 24 (0, 0)) = hX at *
        refine app_cp ho1 hs1 (Keep.refl _ _) ho2 hs2 k10 kX k9 (by omega) (by omega) fun w h11 us ho hs k11 hv => ?_
        refine oneK_of (ownOne ho) ?_
        refine ⟨by trivial, fun u hu => by rw [List.mem_singleton.1 hu]; exact ownOne ho, ?_⟩
        refine put_at (k11.get hL fun e => by have := hl1 _ e; omega) ho hs (by simp) (by simp; omega) (fun b hb => by omega) (fun e => ?_) fun hh hl hw kh => ?_
        · rcases hv _ e with e | e
          · have := hl1 _ e
            omega
          · omega
        refine fin ?_ hl hw
        have z11 := k11.size
        exact ((((k9.trans k10).trans kX).newer (k11.mono fun b _ hb => .inr (by have := hl1 b hb; omega))).newer (kh.mono fun b _ hb => .inr (by omega)))
    · have kY := Keep.push (S := fun _ => False) h9 (.cells #[(.slice none 0 0)] 24 (0, 0))
      have hL := hp_push_new (h := h9) (o := .cells #[(.slice none 0 0)] 24 (0, 0))
      have zY : (h9.push (.cells #[(.slice none 0 0)] 24 (0, 0))).size = h9.size + 1 := by simp
      generalize h9.push (.cells #[(.slice none 0 0)] 24 (0, 0)) = hY at *
      refine ⟨cellsH_blk ((k9.trans kY).get hA2 (by simp)) rfl, ?_⟩
      refine CallX.use (hcq (k9.trans kY)) ?_
      rintro _ h10 ⟨w2, us2, rfl, ho2, hs2, k10⟩
      have z10 := k10.size
      rw [asA_agg, asO1]
      refine app_cp ho1 hs1 kY ho2 hs2 k10 (Keep.refl _ _) k9 (by omega) (by omega) fun w h11 us ho hs k11 hv => ?_
      refine oneK_of (ownOne ho) ?_
      refine ⟨by trivial, fun u hu => by rw [List.mem_singleton.1 hu]; exact ownOne ho, ?_⟩
      refine put_at (k11.get (k10.get hL (by simp)) fun e => by have := hl1 _ e; omega) ho hs (by simp) (by simp; omega) (fun b hb => by omega) (fun e => ?_) fun hh hl hw kh => ?_
      · rcases hv _ e with e | e
        · have := hl1 _ e
          omega
        · omega
      refine fin ?_ hl hw
      have z11 := k11.size
      exact ((((k9.trans kY).trans k10).newer (k11.mono fun b _ hb => .inr (by have := hl1 b hb; omega))).newer (kh.mono fun b _ hb => .inr (by omega)))
  · have kA := Keep.push (S := fun _ => False) h8 (.cells #[(.slice none 0 0)] 24 (0, 0))
    have hL := hp_push_new (h := h8) (o := .cells #[(.slice none 0 0)] 24 (0, 0))
    have zA : (h8.push (.cells #[(.slice none 0 0)] 24 (0, 0))).size = h8.size + 1 := by simp
    generalize h8.push (.cells #[(.slice none 0 0)] 24 (0, 0)) = ha at *
    refine ⟨cellsH_blk (kA.get hA2 (by simp)) rfl, cellsH_blk (kA.get hA1 (by simp)) rfl, ?_⟩
    refine CallX.use (hcp kA) ?_
    rintro _ h9 ⟨w1, us1, rfl, ho1, hs1, k9⟩
    have z9 := k9.size
    have hl1 := ho1.lt
    refine ⟨cellsH_blk ((kA.trans k9).get hA2 (by simp)) rfl, ?_⟩
    rw [asA_agg, asO1]
    refine CallX.use (hcq (kA.trans k9)) ?_
    rintro _ h10 ⟨w2, us2, rfl, ho2, hs2, k10⟩
    have z10 := k10.size
    rw [asA_agg, asO1]
    refine app_cp ho1 hs1 (Keep.refl _ _) ho2 hs2 k10 (Keep.refl _ _) k9 (by omega) (by omega) fun w h11 us ho hs k11 hv => ?_
    refine oneK_of (ownOne ho) ?_
    refine ⟨by trivial, fun u hu => by rw [List.mem_singleton.1 hu]; exact ownOne ho, ?_⟩
    refine put_at (k11.get (k10.get (k9.get hL (by simp)) (by simp)) fun e => by have := hl1 _ e; omega) ho hs (by simp) (by simp; omega) (fun b hb => by omega) (fun e => ?_) fun hh hl hw kh => ?_
    · rcases hv _ e with e | e
      · have := hl1 _ e
        omega
      · omega
    refine fin ?_ hl hw
    have z11 := k11.size
    exact ((((kA.trans k9).trans k10).newer (k11.mono fun b _ hb => .inr (by have := hl1 b hb; omega))).newer (kh.mono fun b _ hb => .inr (by omega)))
end
end Go.Proofs.YtaehnpilebkcoaaDoor
