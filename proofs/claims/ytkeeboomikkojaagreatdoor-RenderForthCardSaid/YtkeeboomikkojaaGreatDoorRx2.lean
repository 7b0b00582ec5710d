/- syntax's parser: products, sums, comparisons. -/
import Derived.Test.YtkeeboomikkojaaGreatDoorRx1
namespace Go.Proofs.YtkeeboomikkojaaGreatDoor
open Go Go.Sx Go.Sx.Tk Go.Sx.Rn Go.Proofs.YtkeeboomikkojaaGreatDoor.Sx

theorem ret4 {hh : Hp} {L B : Nat} {cs : List Value} {cur : Array Value} {R : Value → Hp → Prop} (hL : hh[L]? = some (.cells cs.toArray 36 (0, 0))) (hB : hh[B]? = some (.cells cur 36 (0, 0))) (hc : cs.length = 4) (hcur : cur.size = 4) (h1 : ∀ u ∈ cs, one u)
    (hR : ∀ h', Keep (fun b => b = B) hh h' → R (.agg cs.toArray) h') :
    ∃ C34, cellsH hh ⟨L, 0, none⟩ 4 C34 ∧ C34.toArray.size = 4 ∧ (∀ u ∈ C34.toArray.toList, one u) ∧ storeK hh ⟨B, 0, none⟩ C34.toArray.toList fun h35 => ∃ C36, cellsH h35 ⟨B, 0, none⟩ 4 C36 ∧ R (.agg C36.toArray) h35 := by
  refine ⟨cs, cellsH_blk hL hc, by simpa using hc, by simpa using h1, ?_⟩
  refine storeK_of (o := 0) hB (by rw [hcur]; simp [hc]) ?_
  rw [spl_all (by rw [hcur]; simpa using hc)]
  exact ⟨cs, cellsH_blk (hp_set_same hB) hc, hR _ (Keep.set (S := fun b => b = B) _ rfl)⟩
/-- the place of a tree that is held while more is read -/
abbrev Pl (h h' : Hp) (L k : Nat) : Prop := h.size < k ∧ k < h'.size ∧ k ≠ L
theorem Pl.sl {h h' : Hp} {L : Nat} {v : Value} {l : List Ex} {N : Nat → Prop} {S : Nat → Prop} {hh : Hp} (hs : ExSN hh N v l) (k : Keep S hh h') (hn : ∀ b, N b → ¬ S b) (hm : ∀ b, N b → Pl h h' L b) : ExSN h' (Pl h h' L) v l := ExSN.mv hs k hn hm
/-- what a loop over parts knows -/
structure LoopE (h : Hp) (G : Nat) (e n d : Int) (o L : Nat) (h' : Hp) (x : Ex) (m : Nat) (ts' : List Tok) (w : Value) : Prop where
  var : h'[L]? = some (.cells (exC x w).toArray 36 (0, 0))
  res : ∃ cur, h'[h.size]? = some (.cells cur 36 (0, 0)) ∧ cur.size = 4
  ex : ExSN h' (Pl h h' L) w x.l
  pa : PA h' G ts' e n d o m
  k : KG G h h'
  le : m + ts'.length ≤ 20000
section
variable {ω : Amb} {h : Hp} {G : Nat} {e n d : Int} {o L : Nat}
theorem LoopE.keep {h1 h2 : Hp} {x : Ex} {m : Nat} {ts ts2 : List Tok} {w : Value} {m2 : Nat} (I : LoopE h G e n d o L h1 x m ts w) (hG : G < h.size) (hL : h.size < L) (k : KG G h1 h2) (hp : PA h2 G ts2 e n d o m2) (hle : m2 + ts2.length ≤ 20000) : LoopE h G e n d o L h2 x m2 ts2 w := by
  obtain ⟨cur, hr, hc⟩ := I.res
  exact ⟨k.get I.var (by omega), ⟨cur, k.get hr (by omega), hc⟩, ExSN.mv I.ex k (fun b hb e => by have := hb.1; omega) fun b hb => ⟨hb.1, by have := k.size; have := hb.2.1; omega, hb.2.2⟩, hp, I.k.trans k, hle⟩
/-- the end of a loop: the variable is handed back -/
theorem LoopE.ret {h1 : Hp} {x : Ex} {m : Nat} {ts : List Tok} {w : Value} (I : LoopE h G e n d o L h1 x m ts w) (hG : G < h.size) (hL : h.size < L) {R : Value → Hp → Prop} (hR : ∀ r h', ExR h h' r x → PA h' G ts e n d o m → KG G h h' → R r h') :
    ∃ C34, cellsH h1 ⟨L, 0, none⟩ 4 C34 ∧ C34.toArray.size = 4 ∧ (∀ u ∈ C34.toArray.toList, one u) ∧ storeK h1 ⟨h.size, 0, none⟩ C34.toArray.toList fun h35 => ∃ C36, cellsH h35 ⟨h.size, 0, none⟩ 4 C36 ∧ R (.agg C36.toArray) h35 := by
  obtain ⟨cur, hr, hc⟩ := I.res
  refine ret4 I.var hr rfl hc (exC_one I.ex.isSl) fun h' k => hR _ h' ⟨w, rfl, ?_⟩ (I.pa.keep k fun b hb e => by omega) (kg_set I.k (Nat.le_refl _) k)
  exact ExSN.mv I.ex k (fun b hb e => by have := hb.1; omega) fun b hb => ⟨by have := hb.1; omega, by have := k.size; have := hb.2.1; omega⟩
/-- a part more: what was read and the new part, side by side -/
theorem LoopE.two {h1 h2 h3 : Hp} {x y : Ex} {m m2 : Nat} {ts ts2 : List Tok} {w : Value} {r : Value} {op : Int} (I : LoopE h G e n d o L h1 x m ts w) (hG : G < h.size) (hL : h.size < L) (hL1 : L < h2.size) (k12 : KG G h1 h2) (hr : ExR h2 h3 r y) (k23 : KG G h2 h3) (hp : PA h3 G ts2 e n d o m2) (hle : m2 + 1 + ts2.length ≤ 20000)
    {K : Hp → Prop} (X : List PanicEntry → Hp → Prop) (hK : ∀ h' w', LoopE h G e n d o L h' (exTwo op x y) (m2 + 1) ts2 w' → K h') :
    CallX Tryz.prog ω n_p_syntax_parser_two [pp G, .int .i64 op, .agg (exC x w).toArray, r] h3 (fun r16 h17 => asA r16 fun A18 => A18.size = 4 ∧ (∀ u ∈ A18.toList, one u) ∧ storeK h17 ⟨L, 0, none⟩ A18.toList K) X := by
  obtain ⟨w2, rfl, hy⟩ := hr
  have hs2 := k12.size
  have hs3 := k23.size
  have k13 := k12.trans k23
  have I3 := I.keep hG hL k13 hp (by omega)
  have hx := I3.ex
  have hy' : ExSN h3 (Pl h h3 L) w2 y.l := hy.map fun _ _ _ _ hs => hs.mono fun b hb => ⟨by have := hb.1; omega, hb.2, by have := hb.1; omega⟩
  refine CallX.use (fun Y => two_law hp (by omega) op hx hy' (fun k hk => ⟨hk.2.1, by have := hk.1; omega⟩) Y) ?_
  rintro _ h4 ⟨w3, rfl, hex, hp4, k4⟩
  have hs4 := k4.size
  rw [asA_agg]
  refine ⟨rfl, exC_one hex.isSl, ?_⟩
  obtain ⟨cur, hres, hcur⟩ := I3.res
  have hv4 := k4.get I3.var (by omega)
  show storeK h4 ⟨L, 0, none⟩ (exC (exTwo op x y) w3) K
  refine storeK_of (o := 0) hv4 (by simp [exC]) ?_
  rw [spl_all (by rfl)]
  have hv5 := hp_set_same (o := .cells (exC (exTwo op x y) w3).toArray 36 (0, 0)) hv4
  have k5 := Keep.set (S := fun b => b = L) (h := h4) (.cells (exC (exTwo op x y) w3).toArray 36 (0, 0)) (b := L) rfl
  have z5 : (h4.setIfInBounds L (.cells (exC (exTwo op x y) w3).toArray 36 (0, 0))).size = h4.size := by simp
  generalize h4.setIfInBounds L (.cells (exC (exTwo op x y) w3).toArray 36 (0, 0)) = h5 at *
  refine hK _ w3 ⟨hv5, ⟨cur, k5.get (k4.get hres (by omega)) (by omega), hcur⟩, ?_, ?_, kg_set (I3.k.trans k4) (by omega) k5, hle⟩
  · have hsz := I.k.size
    refine ExSN.mv hex k5 (fun b hb e => ?_) fun b hb => ?_
    · rcases hb with hb | hb
      · exact hb.2.2 e
      · have := hb.1
        omega
    · rcases hb with hb | hb
      · exact ⟨hb.1, by have := hb.2.1; omega, hb.2.2⟩
      · exact ⟨by have := hb.1; omega, by have := hb.2; omega, by have := hb.1; omega⟩
  · have := hp4.keep k5 fun b hb e => by omega
    push_cast
    exact this
/-- the first part, laid into the variable -/
theorem LoopE.start {h0 h1 : Hp} {x : Ex} {m : Nat} {ts : List Tok} {r : Value} {cur z : Array Value} (hG : G < h.size) (k0 : Keep (fun _ => False) h h0) (hs0 : h0.size = h.size + 1) (hres : h0[h.size]? = some (.cells cur 36 (0, 0))) (hcur : cur.size = 4) (hz : z.size = 4) (hr : ExR h0 h1 r x) (hp : PA h1 G ts e n d o m) (k1 : KG G h0 h1) (hle : m + ts.length ≤ 20000)
    {K : Hp → Prop} (hK : ∀ h' w, h1.size < h'.size → h.size < h1.size → LoopE h G e n d o h1.size h' x m ts w → K h') :
    asA r fun A2 => A2.size = 4 ∧ (∀ u ∈ A2.toList, one u) ∧ storeK (Array.push h1 (.cells z 36 (0, 0))) ⟨Array.size h1, 0, none⟩ A2.toList K := by
  obtain ⟨w, rfl, hx⟩ := hr
  have hs1 := k1.size
  rw [asA_agg]
  refine ⟨rfl, exC_one hx.isSl, storeK_local (cs := exC x w) (by rw [hz]; rfl) ?_⟩
  have hb2 := hp_push_new (h := h1) (o := .cells (exC x w).toArray 36 (0, 0))
  have k2 := Keep.push (S := fun _ => False) h1 (.cells (exC x w).toArray 36 (0, 0))
  have z2 : (h1.push (.cells (exC x w).toArray 36 (0, 0))).size = h1.size + 1 := by simp
  refine hK _ w (by omega) (by omega) ⟨hb2, ⟨cur, k2.get (k1.get hres (by omega)) (by simp), hcur⟩, ?_, hp.keep k2 (fun _ _ h => h), ((kg_of k0).trans k1).trans (kg_of k2), hle⟩
  exact ExSN.mv hx k2 (fun _ _ h => h) fun b hb => ⟨by have := hb.1; omega, by have := hb.2; omega, by have := hb.2; omega⟩
theorem prod_law {f : Nat} (hU : ∀ g, g ≤ f → EL ω 176 e (unitP e) 1 g) : EL ω n_p_syntax_parser_product e (prodP e) 2 (f + 1) := by
  intro h G ts n d o t hp ho ht hf X hX
  have hlt := hp.lt
  refine C_p_syntax_parser_product ω _ h _ X ?_
  unfold W_p_syntax_parser_product
  have hres0 := hp_push_new (h := h) (o := .cells #[(.int .i64 0), (.string ⟨#[]⟩), (.int .i64 0), (.slice none 0 0)] 36 (0, 0))
  have k0 := Keep.push (S := fun _ => False) h (.cells #[(.int .i64 0), (.string ⟨#[]⟩), (.int .i64 0), (.slice none 0 0)] 36 (0, 0))
  have z0 : (h.push (.cells #[(.int .i64 0), (.string ⟨#[]⟩), (.int .i64 0), (.slice none 0 0)] 36 (0, 0))).size = h.size + 1 := by simp
  generalize h.push (.cells #[(.int .i64 0), (.string ⟨#[]⟩), (.int .i64 0), (.slice none 0 0)] 36 (0, 0)) = h0 at *
  have hun : prodP e (f + 1) o t ts = bindP (unitP e f o t ts) fun r => prodL e f o r.1 r.2.1 r.2.2 := by
    conv => lhs; unfold prodP
  refine CallX.mono (hU f (Nat.le_refl _) h0 G ts n d o t (hp.keep k0 fun _ _ h => h) ho ht (by omega) X fun x h' hx kx => hX x h' (by rw [hun, hx]; rfl) (kx.after (kg_of k0))) ?_ (fun _ _ hx => hx)
  rintro r h1 ⟨x, m, ts', hok, hr, hp1, k1⟩
  obtain ⟨l1, l2⟩ := (plen e f).2.2.2.2.2 hok
  simp only at l1 l2
  refine LoopE.start hlt k0 z0 hres0 rfl rfl hr hp1 k1 (by omega) fun h2 w hs12 hsL I2 => ?_
  refine ⟨fun h' => ∃ g x m ts' w, g ≤ f ∧ 4 * ts'.length + 2 ≤ g ∧ prodP e (f + 1) o t ts = prodL e g o x m ts' ∧ h1.size < h'.size ∧ LoopE h G e n d o h1.size h' x m ts' w, tkN G, ⟨f, x, m, ts', w, Nat.le_refl _, by omega, by rw [hun, hok]; rfl, hs12, I2⟩, ?_⟩
  rintro _ h3 ⟨g, x, m, ts', w, hgf, hg, heq, hs3, I⟩
  obtain ⟨g, rfl⟩ : ∃ q, g = q + 1 := ⟨g - 1, by omega⟩
  refine CallX.use (is_law I.pa ⟨#[42]⟩) ?_
  rintro _ _ ⟨rfl, rfl⟩
  rw [asB_bool, show bytesOf ⟨#[42]⟩ = [42] from rfl]
  refine cond_c (fun hc => ?_) (fun hc => ?_)
  · obtain ⟨y0, r0, rfl⟩ := isT_cons hc
    have hstep : prodP e (f + 1) o t ts = bindP (unitP e g o m r0) fun q => prodL e g o (exTwo 6 x q.1) (q.2.1 + 1) q.2.2 := by
      rw [heq]
      conv => lhs; unfold prodL
      rw [hc, if_pos rfl]
      rfl
    have hle := I.le
    simp only [List.length_cons] at hg hle
    refine CallX.use (next_law I.pa) ?_
    rintro _ h4 ⟨_, hp4, k4⟩
    have hs4 := k4.size
    refine ⟨_, cellsH_blk (k4.get I.var (by omega)) rfl, ?_⟩
    refine CallX.mono (hU g (by omega) h4 G r0 n d o m hp4 ho (by omega) (by omega) X fun y h' hy ky => hX y h' (by rw [hstep, hy]; rfl) ((ky.after k4).after I.k)) ?_ (fun _ _ hx => hx)
    rintro r5 h5 ⟨y, m5, ts5, hok5, hr5, hp5, k5⟩
    obtain ⟨l3, l4⟩ := (plen e g).2.2.2.2.2 hok5
    simp only at l3 l4
    refine ⟨cellsH_blk (k5.get (k4.get I.var (by omega)) (by omega)) rfl, ?_⟩
    refine LoopE.two I hlt hsL (by omega) k4 hr5 k5 hp5 (by omega) X fun h6 w6 I6 => ?_
    have hs6 := I6.pa
    refine ⟨⟨g, exTwo 6 x y, m5 + 1, ts5, w6, by omega, by omega, by rw [hstep, hok5]; rfl, hp_lt I6.var, I6⟩, ?_⟩
    rw [I6.pa.tkN, I.pa.tkN]
    simp only [List.length_cons]
    omega
  · refine I.ret hlt hsL (R := fun r h' => ∃ x m ts', prodP e (f + 1) o t ts = .ok (x, m, ts') ∧ ExR h h' r x ∧ PA h' G ts' e n d o m ∧ KG G h h') fun r h' hr hpa hk => ⟨x, m, ts', ?_, hr, hpa, hk⟩
    rw [heq]
    unfold prodL
    rw [hc, if_neg Bool.false_ne_true]
theorem sum_law {f : Nat} (hU : ∀ g, g ≤ f → EL ω n_p_syntax_parser_product e (prodP e) 2 g) : EL ω n_p_syntax_parser_sum e (sumP e) 3 (f + 1) := by
  intro h G ts n d o t hp ho ht hf X hX
  have hlt := hp.lt
  refine C_p_syntax_parser_sum ω _ h _ X ?_
  unfold W_p_syntax_parser_sum
  have hres0 := hp_push_new (h := h) (o := .cells #[(.int .i64 0), (.string ⟨#[]⟩), (.int .i64 0), (.slice none 0 0)] 36 (0, 0))
  have k0 := Keep.push (S := fun _ => False) h (.cells #[(.int .i64 0), (.string ⟨#[]⟩), (.int .i64 0), (.slice none 0 0)] 36 (0, 0))
  have z0 : (h.push (.cells #[(.int .i64 0), (.string ⟨#[]⟩), (.int .i64 0), (.slice none 0 0)] 36 (0, 0))).size = h.size + 1 := by simp
  generalize h.push (.cells #[(.int .i64 0), (.string ⟨#[]⟩), (.int .i64 0), (.slice none 0 0)] 36 (0, 0)) = h0 at *
  have hun : sumP e (f + 1) o t ts = bindP (prodP e f o t ts) fun r => sumL e f o r.1 r.2.1 r.2.2 := by
    conv => lhs; unfold sumP
  refine CallX.mono (hU f (Nat.le_refl _) h0 G ts n d o t (hp.keep k0 fun _ _ h => h) ho ht (by omega) X fun x h' hx kx => hX x h' (by rw [hun, hx]; rfl) (kx.after (kg_of k0))) ?_ (fun _ _ hx => hx)
  rintro r h1 ⟨x, m, ts', hok, hr, hp1, k1⟩
  obtain ⟨l1, l2⟩ := (plen e f).2.2.2.1 hok
  simp only at l1 l2
  refine LoopE.start hlt k0 z0 hres0 rfl rfl hr hp1 k1 (by omega) fun h2 w hs12 hsL I2 => ?_
  refine ⟨fun h' => ∃ g x m ts' w, g ≤ f ∧ 4 * ts'.length + 3 ≤ g ∧ sumP e (f + 1) o t ts = sumL e g o x m ts' ∧ h1.size < h'.size ∧ LoopE h G e n d o h1.size h' x m ts' w, tkN G, ⟨f, x, m, ts', w, Nat.le_refl _, by omega, by rw [hun, hok]; rfl, hs12, I2⟩, ?_⟩
  rintro _ h3 ⟨g, x, m, ts', w, hgf, hg, heq, hs3, I⟩
  obtain ⟨g, rfl⟩ : ∃ q, g = q + 1 := ⟨g - 1, by omega⟩
  refine ⟨fun v h' => v = .bool (isT [43] ts' || isT [45] ts') ∧ h3 = h', ?_, ?_⟩
  · refine CallX.use (is_law I.pa ⟨#[43]⟩) ?_
    rintro _ _ ⟨rfl, rfl⟩
    rw [asB_bool, show bytesOf ⟨#[43]⟩ = [43] from rfl]
    refine cond_c (fun hc => ?_) (fun hc => ?_)
    · exact ⟨by rw [hc, Bool.true_or], rfl⟩
    · refine CallX.use (is_law I.pa ⟨#[45]⟩) ?_
      rintro _ _ ⟨rfl, rfl⟩
      exact ⟨by rw [hc, Bool.false_or]; rfl, rfl⟩
  rintro _ _ _ ⟨rfl, rfl⟩
  rw [asB_bool]
  refine cond_c (fun hc => ?_) (fun hc => ?_)
  · obtain ⟨y0, r0, rfl⟩ : ∃ y r, ts' = y :: r := by
      cases ts' with
      | nil => cases hc
      | cons y r => exact ⟨y, r, rfl⟩
    -- which sign
    have hop : ∀ c : Bool, c = (y0.text.toList == ByteArray.toList ⟨#[45]⟩) → sumP e (f + 1) o t ts = bindP (prodP e g o m r0) fun q => sumL e g o (exTwo (if c then 5 else 4) x q.1) (q.2.1 + 1) q.2.2 := by
      intro c hcc
      rw [eqS] at hcc
      rw [heq]
      conv => lhs; unfold sumL
      cases h43 : isT [43] (y0 :: r0) with
      | true =>
        rw [if_pos rfl]
        have h4 : bytesOf y0.text = [43] := by
          have : (y0.kind != 2 && bytesOf y0.text == [43]) = true := h43
          rw [Bool.and_eq_true] at this
          exact eq_of_beq this.2
        have hcf : c = false := by
          rw [hcc, h4]
          exact decide_eq_false (by decide)
        rw [hcf]
        rfl
      | false =>
        rw [h43, Bool.false_or] at hc
        rw [if_neg Bool.false_ne_true, hc, if_pos rfl]
        have h4 : bytesOf y0.text = [45] := by
          have : (y0.kind != 2 && bytesOf y0.text == [45]) = true := hc
          rw [Bool.and_eq_true] at this
          exact eq_of_beq this.2
        have hct : c = true := by
          rw [hcc, h4]
          exact decide_eq_true rfl
        rw [hct]
        rfl
    have hle := I.le
    simp only [List.length_cons] at hg hle
    refine CallX.use (next_law I.pa) ?_
    rintro _ h4 ⟨rfl, hp4, k4⟩
    have hs4 := k4.size
    rw [asA_agg]
    show asO (some (Value.string y0.text)) _
    rw [asO_some, asS_str]
    generalize hcc : (y0.text.toList == ByteArray.toList ⟨#[45]⟩) = c at *
    have hstep := hop c rfl
    refine ⟨fun v h' => v = .int .i64 (if c then 5 else 4) ∧ h4 = h', ?_, ?_⟩
    · cases c with
      | true => exact ⟨rfl, rfl⟩
      | false => exact ⟨rfl, rfl⟩
    rintro _ _ _ ⟨rfl, rfl⟩
    refine ⟨_, cellsH_blk (k4.get I.var (by omega)) rfl, ?_⟩
    refine CallX.mono (hU g (by omega) h4 G r0 n d o m hp4 ho (by omega) (by omega) X fun y h' hy ky => hX y h' (by rw [hstep, hy]; rfl) ((ky.after k4).after I.k)) ?_ (fun _ _ hx => hx)
    rintro r5 h5 ⟨y, m5, ts5, hok5, hr5, hp5, k5⟩
    obtain ⟨l3, l4⟩ := (plen e g).2.2.2.1 hok5
    simp only at l3 l4
    refine ⟨cellsH_blk (k5.get (k4.get I.var (by omega)) (by omega)) rfl, ?_⟩
    refine LoopE.two I hlt hsL (by omega) k4 hr5 k5 hp5 (by omega) X fun h6 w6 I6 => ?_
    refine ⟨⟨g, exTwo (if c then 5 else 4) x y, m5 + 1, ts5, w6, by omega, by omega, by rw [hstep, hok5]; rfl, hp_lt I6.var, I6⟩, ?_⟩
    rw [I6.pa.tkN, I.pa.tkN]
    simp only [List.length_cons]
    omega
  · refine I.ret hlt hsL (R := fun r h' => ∃ x m ts', sumP e (f + 1) o t ts = .ok (x, m, ts') ∧ ExR h h' r x ∧ PA h' G ts' e n d o m ∧ KG G h h') fun r h' hr hpa hk => ⟨x, m, ts', ?_, hr, hpa, hk⟩
    rw [Bool.or_eq_false_iff] at hc
    rw [heq]
    unfold sumL
    rw [hc.1, hc.2, if_neg Bool.false_ne_true, if_neg Bool.false_ne_true]
/-- a comparison's second part -/
theorem cmp_two {f : Nat} (hS : EL ω n_p_syntax_parser_sum e (sumP e) 3 f) {op : Int} {h1 h3 : Hp} {x : Ex} {m : Nat} {ts ts' : List Tok} {w : Value} {t : Nat} {y0 : Tok} (I : LoopE h G e n d o h1.size h3 x m (y0 :: ts') w) (hlt : G < h.size) (hsL : h.size < h1.size) (hs3 : h1.size < h3.size) (ho : o ≤ 60) (hf : 4 * ts'.length + 3 ≤ f)
    (heq : cmpP e (f + 1) o t ts = bindP (sumP e f o m ts') fun q => .ok (exTwo op x q.1, q.2.1 + 1, q.2.2)) {X : List PanicEntry → Hp → Prop} (hX : ∀ x h', cmpP e (f + 1) o t ts = .error x → KX G h h' → X (gone x) h') :
    CallX Tryz.prog ω n_p_syntax_parser_next [pp G] h3 (fun _ h8 => ∃ C9, cellsH h8 ⟨h1.size, 0, none⟩ 4 C9 ∧ CallX Tryz.prog ω n_p_syntax_parser_sum [pp G] h8 (fun r10 h11 => cellsH h11 ⟨h1.size, 0, none⟩ 4 C9 ∧ CallX Tryz.prog ω n_p_syntax_parser_two [pp G, .int .i64 op, .agg C9.toArray, r10] h11 (fun r12 h13 =>
      asA r12 fun A14 => A14.size = 4 ∧ (∀ u ∈ A14.toList, one u) ∧ storeK h13 ⟨h.size, 0, none⟩ A14.toList fun h15 => ∃ C16, cellsH h15 ⟨h.size, 0, none⟩ 4 C16 ∧
        ∃ x m ts', cmpP e (f + 1) o t ts = .ok (x, m, ts') ∧ ExR h h15 (.agg C16.toArray) x ∧ PA h15 G ts' e n d o m ∧ KG G h h15) X) X) X := by
  have hle := I.le
  simp only [List.length_cons] at hle
  refine CallX.use (next_law I.pa) ?_
  rintro _ h4 ⟨_, hp4, k4⟩
  have hs4 := k4.size
  refine ⟨_, cellsH_blk (k4.get I.var (by omega)) rfl, ?_⟩
  refine CallX.mono (hS h4 G ts' n d o m hp4 ho (by omega) hf X fun y h' hy ky => hX y h' (by rw [heq, hy]; rfl) ((ky.after k4).after I.k)) ?_ (fun _ _ hx => hx)
  rintro r5 h5 ⟨y, m5, ts5, hok5, ⟨w5, rfl, hy5⟩, hp5, k5⟩
  obtain ⟨l3, l4⟩ := (plen e f).2.1 hok5
  simp only at l3 l4
  have hs5 := k5.size
  have k45 := k4.trans k5
  have I5 := I.keep hlt hsL k45 hp5 (by omega)
  refine ⟨cellsH_blk I5.var rfl, ?_⟩
  have hy' : ExSN h5 (Pl h h5 h1.size) w5 y.l := hy5.map fun _ _ _ _ hs => hs.mono fun b hb => ⟨by have := hb.1; omega, hb.2, by have := hb.1; omega⟩
  refine CallX.use (fun Y => two_law hp5 (by omega) op I5.ex hy' (fun k hk => ⟨hk.2.1, by have := hk.1; omega⟩) Y) ?_
  rintro _ h6 ⟨w6, rfl, hex, hp6, k6⟩
  have hs6 := k6.size
  rw [asA_agg]
  refine ⟨rfl, exC_one hex.isSl, ?_⟩
  obtain ⟨cur, hres, hcur⟩ := I5.res
  have hr6 := k6.get hres (by omega)
  show storeK h6 ⟨h.size, 0, none⟩ (exC (exTwo op x y) w6) _
  refine storeK_of (o := 0) hr6 (by rw [hcur]; simp [exC]) ?_
  rw [spl_all (by rw [hcur]; rfl)]
  have hb7 := hp_set_same (o := .cells (exC (exTwo op x y) w6).toArray 36 (0, 0)) hr6
  have k7 := Keep.set (S := fun b => b = h.size) (h := h6) (.cells (exC (exTwo op x y) w6).toArray 36 (0, 0)) (b := h.size) rfl
  have z7 : (h6.setIfInBounds h.size (.cells (exC (exTwo op x y) w6).toArray 36 (0, 0))).size = h6.size := by simp
  generalize h6.setIfInBounds h.size (.cells (exC (exTwo op x y) w6).toArray 36 (0, 0)) = h7 at *
  refine ⟨_, cellsH_blk hb7 rfl, exTwo op x y, m5 + 1, ts5, by rw [heq, hok5]; rfl, ⟨w6, rfl, ?_⟩, ?_, kg_set (I5.k.trans k6) (Nat.le_refl _) k7⟩
  · have hsz := I5.k.size
    refine ExSN.mv hex k7 (fun b hb e => ?_) fun b hb => ?_
    · rcases hb with hb | hb
      · have := hb.1
        omega
      · have := hb.1
        omega
    · rcases hb with hb | hb
      · exact ⟨by have := hb.1; omega, by have := hb.2.1; omega⟩
      · exact ⟨by have := hb.1; omega, by have := hb.2; omega⟩
  · have := hp6.keep k7 fun b hb e => by omega
    push_cast
    exact this
theorem cmp_law {f : Nat} (hS : EL ω n_p_syntax_parser_sum e (sumP e) 3 f) : EL ω n_p_syntax_parser_cmp e (cmpP e) 4 (f + 1) := by
  intro h G ts n d o t hp ho ht hf X hX
  have hlt := hp.lt
  refine C_p_syntax_parser_cmp ω _ h _ X ?_
  unfold W_p_syntax_parser_cmp
  have hres0 := hp_push_new (h := h) (o := .cells #[(.int .i64 0), (.string ⟨#[]⟩), (.int .i64 0), (.slice none 0 0)] 36 (0, 0))
  have k0 := Keep.push (S := fun _ => False) h (.cells #[(.int .i64 0), (.string ⟨#[]⟩), (.int .i64 0), (.slice none 0 0)] 36 (0, 0))
  have z0 : (h.push (.cells #[(.int .i64 0), (.string ⟨#[]⟩), (.int .i64 0), (.slice none 0 0)] 36 (0, 0))).size = h.size + 1 := by simp
  generalize h.push (.cells #[(.int .i64 0), (.string ⟨#[]⟩), (.int .i64 0), (.slice none 0 0)] 36 (0, 0)) = h0 at *
  have hun : cmpP e (f + 1) o t ts = bindP (sumP e f o t ts) fun r =>
      if isT [60] r.2.2 then bindP (sumP e f o r.2.1 r.2.2.tail) fun q => .ok (exTwo 7 r.1 q.1, q.2.1 + 1, q.2.2)
      else if isT [61, 61] r.2.2 then bindP (sumP e f o r.2.1 r.2.2.tail) fun q => .ok (exTwo 8 r.1 q.1, q.2.1 + 1, q.2.2)
      else .ok r := by
    conv => lhs; unfold cmpP
  refine CallX.mono (hS h0 G ts n d o t (hp.keep k0 fun _ _ h => h) ho ht (by omega) X fun x h' hx kx => hX x h' (by rw [hun, hx]; rfl) (kx.after (kg_of k0))) ?_ (fun _ _ hx => hx)
  rintro r h1 ⟨x, m, ts', hok, hr, hp1, k1⟩
  obtain ⟨l1, l2⟩ := (plen e f).2.1 hok
  simp only at l1 l2
  refine LoopE.start hlt k0 z0 hres0 rfl rfl hr hp1 k1 (by omega) fun h2 w hs12 hsL I => ?_
  rw [hok, bindP_ok] at hun
  refine CallX.use (is_law I.pa ⟨#[60]⟩) ?_
  rintro _ _ ⟨rfl, rfl⟩
  rw [asB_bool, show bytesOf ⟨#[60]⟩ = [60] from rfl]
  refine cond_c (fun hc => ?_) (fun hc => ?_)
  · obtain ⟨y0, r0, rfl⟩ := isT_cons hc
    simp only [List.length_cons] at l1 l2
    refine cmp_two hS I hlt hsL hs12 ho (by omega) ?_ hX
    rw [hun]
    exact if_pos hc
  refine CallX.use (is_law I.pa ⟨#[61, 61]⟩) ?_
  rintro _ _ ⟨rfl, rfl⟩
  rw [asB_bool, show bytesOf ⟨#[61, 61]⟩ = [61, 61] from rfl]
  refine cond_c (fun hc2 => ?_) (fun hc2 => ?_)
  · obtain ⟨y0, r0, rfl⟩ := isT_cons hc2
    simp only [List.length_cons] at l1 l2
    refine cmp_two hS I hlt hsL hs12 ho (by omega) ?_ hX
    rw [hun]
    exact (if_neg (by rw [hc]; exact Bool.false_ne_true)).trans (if_pos hc2)
  · refine I.ret hlt hsL (R := fun r h' => ∃ x m ts', cmpP e (f + 1) o t ts = .ok (x, m, ts') ∧ ExR h h' r x ∧ PA h' G ts' e n d o m ∧ KG G h h') fun r h' hr hpa hk => ⟨x, m, ts', ?_, hr, hpa, hk⟩
    rw [hun]
    exact (if_neg (by rw [hc]; exact Bool.false_ne_true)).trans (if_neg (by rw [hc2]; exact Bool.false_ne_true))
theorem EL.zero {num : FuncId} {pf : Nat → Nat → Nat → List Tok → PR Ex} {c : Nat} (hc : 0 < c) : EL ω num e pf c 0 := by
  intro h G ts n d o t hp ho ht hf
  omega
/-- all of it, by how much there is to read -/
theorem exprs_law (ω : Amb) (e : Int) : ∀ f : Nat, (∀ g, g ≤ f → EL ω 176 e (unitP e) 1 g) ∧ (∀ g, g ≤ f → EL ω n_p_syntax_parser_product e (prodP e) 2 g) ∧ (∀ g, g ≤ f → EL ω n_p_syntax_parser_sum e (sumP e) 3 g) ∧ (∀ g, g ≤ f → EL ω n_p_syntax_parser_cmp e (cmpP e) 4 g) := by
  intro f
  induction f with
  | zero => exact ⟨fun g hg => by obtain rfl : g = 0 := by omega
                                  exact EL.zero (by decide), fun g hg => by obtain rfl : g = 0 := by omega
                                                                            exact EL.zero (by decide), fun g hg => by obtain rfl : g = 0 := by omega
                                                                                                                      exact EL.zero (by decide), fun g hg => by obtain rfl : g = 0 := by omega
                                                                                                                                                                exact EL.zero (by decide)⟩
  | succ f ih =>
    obtain ⟨i1, i2, i3, i4⟩ := ih
    refine ⟨fun g hg => ?_, fun g hg => ?_, fun g hg => ?_, fun g hg => ?_⟩
    · rcases Nat.lt_or_ge f g with hh | hh
      · obtain rfl : g = f + 1 := by omega
        exact unit_law (i4 f (Nat.le_refl _)) (i1 f (Nat.le_refl _))
      · exact i1 g hh
    · rcases Nat.lt_or_ge f g with hh | hh
      · obtain rfl : g = f + 1 := by omega
        exact prod_law i1
      · exact i2 g hh
    · rcases Nat.lt_or_ge f g with hh | hh
      · obtain rfl : g = f + 1 := by omega
        exact sum_law i2
      · exact i3 g hh
    · rcases Nat.lt_or_ge f g with hh | hh
      · obtain rfl : g = f + 1 := by omega
        exact cmp_law (i3 f (Nat.le_refl _))
      · exact i4 g hh
end
end Go.Proofs.YtkeeboomikkojaaGreatDoor

namespace Go.Proofs.YtkeeboomikkojaaGreatDoor
open Go Go.Sx Go.Sx.Tk Go.Sx.Rn Go.Proofs.YtkeeboomikkojaaGreatDoor.Sx

theorem exprP_cons (e : Int) (t : Tok) (r : List Tok) : exprP e (t :: r) = bindP (cmpP e (4 * (t :: r).length + 4) 0 0 (t :: r)) fun q => if 20 < q.2.1 then .error (8, t.at_) else .ok (q.1, q.2.2) := rfl
theorem exprP_len {e : Int} {ts : List Tok} {q : Ex × List Tok} (h : exprP e ts = .ok q) : q.2.length < ts.length := by
  cases ts with
  | nil => cases h
  | cons t r =>
    rw [exprP_cons] at h
    obtain ⟨a, ha, h⟩ := bindP_okk h
    obtain ⟨l1, l2⟩ := (plen e _).1 ha
    split at h
    · cases h
    · cases h
      exact l1
theorem wantP_len {e : Int} {s : List UInt8} {ts r : List Tok} (h : wantP e s ts = .ok r) : ts.length = r.length + 1 := by
  unfold wantP at h
  split at h
  · rename_i hT
    cases h
    exact isT_tail hT
  · cases h
theorem nameP_len {e : Int} {ts : List Tok} {q : ByteArray × List Tok} (h : nameP e ts = .ok q) : ts.length = q.2.length + 1 := by
  cases ts with
  | nil => cases h
  | cons t r =>
    rw [nameP_cons] at h
    split at h
    · cases h
      rfl
    · cases h
theorem typP_nil (e : Int) (acc : List UInt8) : typP e acc [] = .error (6, e) := by unfold typP; rfl
theorem typP_cons (e : Int) (acc : List UInt8) (t : Tok) (r : List Tok) : typP e acc (t :: r) = if isT [105, 110, 116] (t :: r) then .ok (acc ++ [105], r)
    else if isT [115, 101, 110, 100] (t :: r) || isT [114, 101, 99, 118] (t :: r) then (if acc.length = 3 then .error (7, t.at_) else typP e (acc ++ (bytesOf t.text).take 1) r) else .error (5, t.at_) := by
  conv => lhs; unfold typP
theorem isT_text {s : List UInt8} {t : Tok} {r : List Tok} (h : isT s (t :: r) = true) : bytesOf t.text = s := by
  have : (t.kind != 2 && bytesOf t.text == s) = true := h
  rw [Bool.and_eq_true] at this
  exact eq_of_beq this.2
section
variable {ω : Amb} {h : Hp} {G : Nat} {ts : List Tok} {e n d t : Int}
theorem pexpr_law (hp : PA h G ts e n d 0 t) (hl : ts.length ≤ 20000) (X : List PanicEntry → Hp → Prop) (hX : ∀ x h', exprP e ts = .error x → KX G h h' → X (gone x) h') :
    CallX Tryz.prog ω n_p_syntax_parser_expr [pp G] h (fun r h' => ∃ x ts', exprP e ts = .ok (x, ts') ∧ ExR h h' r x ∧ (∃ t', PA h' G ts' e n d 0 t') ∧ KG G h h') X := by
  have hlt := hp.lt
  refine C_p_syntax_parser_expr ω _ h _ X ?_
  unfold W_p_syntax_parser_expr
  simp only [nnK_ptr, asP_some]
  have hres0 := hp_push_new (h := h) (o := .cells #[(.int .i64 0), (.string ⟨#[]⟩), (.int .i64 0), (.slice none 0 0)] 36 (0, 0))
  have k0 := Keep.push (S := fun _ => False) h (.cells #[(.int .i64 0), (.string ⟨#[]⟩), (.int .i64 0), (.slice none 0 0)] 36 (0, 0))
  have z0 : (h.push (.cells #[(.int .i64 0), (.string ⟨#[]⟩), (.int .i64 0), (.slice none 0 0)] 36 (0, 0))).size = h.size + 1 := by simp
  generalize h.push (.cells #[(.int .i64 0), (.string ⟨#[]⟩), (.int .i64 0), (.slice none 0 0)] 36 (0, 0)) = h0 at *
  obtain ⟨vl, hg, htk⟩ := (hp.keep k0 fun _ _ h => h).ex
  refine storeK1_of (o := 5) hg (by simp [psr]) ?_
  rw [show (psr vl e n d 0 t).toArray.setIfInBounds 5 (.int .i64 0) = (psr vl e n d 0 0).toArray from by simp [psr]]
  have hg1 := hp_set_same (o := .cells (psr vl e n d 0 0).toArray 71 (0, 0)) hg
  have k1 := Keep.set (S := fun b => b = G) (h := h0) (.cells (psr vl e n d 0 0).toArray 71 (0, 0)) (b := G) rfl
  have z1 : (h0.setIfInBounds G (.cells (psr vl e n d 0 0).toArray 71 (0, 0))).size = h0.size := by simp
  generalize h0.setIfInBounds G (.cells (psr vl e n d 0 0).toArray 71 (0, 0)) = h1 at *
  have htk1 := htk.keep k1 fun b hb e => by omega
  have hp1 : PA h1 G ts e n d ((0 : Nat) : Int) ((0 : Nat) : Int) := ⟨vl, hg1, htk1⟩
  have k01 : KG G h h1 := (kg_of k0).trans k1
  have hres1 := k1.get hres0 (by omega)
  refine lx hg1 (j := 0) rfl ?_
  refine htk1.len fun _ _ => ?_
  refine ⟨fun h' => ts ≠ [] ∧ h1 = h', ?_, ?_⟩
  · refine cond_c (fun hc => ?_) (fun hc => ?_)
    · have h0 : ts = [] := by
        have := eq_of_beq hc
        exact List.eq_nil_of_length_eq_zero (by omega)
      subst h0
      refine CallX.mono (gone_law hp1 5 X ?_) (fun _ _ hf => hf.elim) (fun _ _ hx => hx)
      exact hX _ _ rfl ⟨k01, hp1.pb⟩
    · exact ⟨fun hh => by rw [hh] at hc; exact absurd hc (by decide), rfl⟩
  rintro _ _ ⟨hne, rfl⟩
  cases ts with
  | nil => exact absurd rfl hne
  | cons x0 r0 =>
    refine lx hg1 (j := 0) rfl ?_
    refine htk1.rd0 (o := 1) rfl ?_
    refine CallX.mono ((exprs_law ω e _).2.2.2 (4 * (x0 :: r0).length + 4) (Nat.le_refl _) h1 G (x0 :: r0) n d 0 0 hp1 (by omega) (by omega) (Nat.le_refl _) X fun y h' hy ky => hX y h' (by rw [exprP_cons, hy]; rfl) (ky.after k01)) ?_ (fun _ _ hx => hx)
    rintro _ h2 ⟨x, m, ts', hok, ⟨w, rfl, hx⟩, hp2, k2⟩
    have hs2 := k2.size
    rw [asA_agg]
    refine ⟨rfl, exC_one hx.isSl, storeK_local (cs := exC x w) rfl ?_⟩
    have hb3 := hp_push_new (h := h2) (o := .cells (exC x w).toArray 36 (0, 0))
    have k3 := Keep.push (S := fun _ => False) h2 (.cells (exC x w).toArray 36 (0, 0))
    have z3 : (h2.push (.cells (exC x w).toArray 36 (0, 0))).size = h2.size + 1 := by simp
    generalize h2.push (.cells (exC x w).toArray 36 (0, 0)) = h3 at *
    have hp3 := hp2.keep k3 fun _ _ h => h
    have hres3 := k3.get (k2.get hres1 (by omega)) (by simp)
    have k03 : KG G h h3 := (k01.trans k2).trans (kg_of k3)
    have hx3 := ExSN.mv hx k3 (N' := fun k => h.size < k ∧ k < h3.size) (fun _ _ h => h) fun b hb => ⟨by have := hb.1; omega, by have := hb.2; omega⟩
    obtain ⟨vl3, hg3, _⟩ := hp3.ex
    refine lx hg3 (j := 5) rfl ?_
    rw [asK_int]
    refine ⟨fun h' => ¬ 20 < m ∧ h3 = h', ?_, ?_⟩
    · refine cond_c (fun hc => ?_) (fun hc => ?_)
      · have h20 : 20 < m := by have := of_decide_eq_true hc; omega
        rw [oneK_int]
        exact hX (8, x0.at_) h3 (by rw [exprP_cons, hok, bindP_ok]; exact if_pos h20) ⟨k03, hp3.pb⟩
      · exact ⟨by have := of_decide_eq_false hc; omega, rfl⟩
    rintro _ _ ⟨h20, rfl⟩
    refine ret4 (R := fun r h' => ∃ x ts', exprP e (x0 :: r0) = .ok (x, ts') ∧ ExR h h' r x ∧ (∃ t', PA h' G ts' e n d 0 t') ∧ KG G h h') hb3 hres3 rfl rfl (exC_one hx3.isSl) fun h' k => ⟨x, ts', by rw [exprP_cons, hok, bindP_ok]; exact if_neg h20, ⟨w, rfl, ?_⟩, ⟨m, hp3.keep k fun b hb e => by omega⟩, kg_set k03 (Nat.le_refl _) k⟩
    exact ExSN.mv hx3 k (fun b hb e => by have := hb.1; omega) fun b hb => ⟨by have := hb.1; omega, by have := k.size; have := hb.2; omega⟩
theorem typ_law {o : Int} (hp : PA h G ts e n d o t) (X : List PanicEntry → Hp → Prop) (hX : ∀ x h', typP e [] ts = .error x → KX G h h' → X (gone x) h') :
    CallX Tryz.prog ω n_p_syntax_parser_typ [pp G] h (fun r h' => ∃ l ts', typP e [] ts = .ok (l, ts') ∧ r = .string (bs l) ∧ PA h' G ts' e n d o t ∧ KG G h h' ∧ ts'.length < ts.length ∧ l.length ≤ 4) X := by
  have hlt := hp.lt
  refine C_p_syntax_parser_typ ω _ h _ X ?_
  unfold W_p_syntax_parser_typ
  refine ⟨fun v h' => ∃ acc ts', v = .string (bs acc) ∧ typP e [] ts = typP e acc ts' ∧ acc.length ≤ 3 ∧ PA h' G ts' e n d o t ∧ KG G h h' ∧ ts'.length ≤ ts.length, fun _ => tkN G, ⟨[], ts, rfl, rfl, by simp, hp, Keep.refl _ _, Nat.le_refl _⟩, ?_⟩
  rintro _ _ h1 ⟨acc, ts', rfl, heq, hacc, hp1, k1, hle⟩
  refine CallX.use (is_law hp1 ⟨#[105, 110, 116]⟩) ?_
  rintro _ _ ⟨rfl, rfl⟩
  rw [asB_bool, show bytesOf ⟨#[105, 110, 116]⟩ = [105, 110, 116] from rfl]
  refine cond_c (fun hc => ?_) (fun hc => ?_)
  rotate_left
  · have hc : isT [105, 110, 116] ts' = true := by simpa using hc
    obtain ⟨x0, r0, rfl⟩ := isT_cons hc
    simp only [List.length_cons] at hle
    refine CallX.use (next_law hp1) ?_
    rintro _ h2 ⟨_, hp2, k2⟩
    rw [asS_str]
    refine ⟨?_, acc ++ [105], r0, by rw [heq, typP_cons, if_pos hc], ?_, hp2, k1.trans k2, by omega, by simp; omega⟩
    · rw [bs_size]
      show acc.length + 1 ≤ _
      omega
    · rw [show (⟨#[105]⟩ : ByteArray) = bs [105] from rfl, bs_app]
  have hc : isT [105, 110, 116] ts' = false := by simpa using hc
  refine ⟨fun v h' => v = .bool (!(isT [115, 101, 110, 100] ts' || isT [114, 101, 99, 118] ts')) ∧ h1 = h', ?_, ?_⟩
  · refine CallX.use (is_law hp1 ⟨#[115, 101, 110, 100]⟩) ?_
    rintro _ _ ⟨rfl, rfl⟩
    rw [asB_bool, show bytesOf ⟨#[115, 101, 110, 100]⟩ = [115, 101, 110, 100] from rfl]
    refine cond_c (fun hc => ?_) (fun hc => ?_)
    · have hc : isT [115, 101, 110, 100] ts' = false := by simpa using hc
      refine CallX.use (is_law hp1 ⟨#[114, 101, 99, 118]⟩) ?_
      rintro _ _ ⟨rfl, rfl⟩
      rw [asB_bool, show bytesOf ⟨#[114, 101, 99, 118]⟩ = [114, 101, 99, 118] from rfl]
      exact ⟨by rw [hc, Bool.false_or], rfl⟩
    · have hc : isT [115, 101, 110, 100] ts' = true := by simpa using hc
      exact ⟨by rw [hc]; rfl, rfl⟩
  rintro _ _ _ ⟨rfl, rfl⟩
  refine ⟨fun h' => (isT [115, 101, 110, 100] ts' || isT [114, 101, 99, 118] ts') = true ∧ h1 = h', ?_, ?_⟩
  · rw [asB_bool]
    refine cond_c (fun hc2 => ?_) (fun hc2 => ?_)
    · have hc2 : (isT [115, 101, 110, 100] ts' || isT [114, 101, 99, 118] ts') = false := by simpa using hc2
      refine CallX.mono (gone_law hp1 5 X ?_) (fun _ _ hf => hf.elim) (fun _ _ hx => hx)
      refine hX _ h1 ?_ ⟨k1, hp1.pb⟩
      rw [heq]
      cases ts' with
      | nil => exact typP_nil _ _
      | cons x0 r0 =>
        rw [typP_cons, hc, if_neg Bool.false_ne_true, hc2, if_neg Bool.false_ne_true]
        rfl
    · rw [Bool.not_eq_false'] at hc2
      exact ⟨hc2, rfl⟩
  rintro _ _ ⟨hc2, rfl⟩
  obtain ⟨x0, r0, rfl⟩ : ∃ y r, ts' = y :: r := by
    cases ts' with
    | nil => cases hc2
    | cons y r => exact ⟨y, r, rfl⟩
  rw [asS_str, bs_size]
  refine ⟨fun h' => acc.length ≠ 3 ∧ h1 = h', ?_, ?_⟩
  · refine cond_c (fun h3 => ?_) (fun h3 => ?_)
    · have h3 : acc.length = 3 := by have := eq_of_beq h3; omega
      refine CallX.mono (gone_law hp1 7 X ?_) (fun _ _ hf => hf.elim) (fun _ _ hx => hx)
      refine hX _ h1 ?_ ⟨k1, hp1.pb⟩
      rw [heq, typP_cons, hc, if_neg Bool.false_ne_true, hc2, if_pos rfl, if_pos h3]
      rfl
    · exact ⟨fun hh => by rw [hh] at h3; exact absurd h3 (by decide), rfl⟩
  rintro _ _ ⟨h3, rfl⟩
  have htx : (bytesOf x0.text).length = 4 := by
    rw [Bool.or_eq_true] at hc2
    rcases hc2 with h | h
    · rw [isT_text h]
      rfl
    · rw [isT_text h]
      rfl
  have hsz : x0.text.size = 4 := by rw [← bytes_len, htx]
  refine CallX.use (next_law hp1) ?_
  rintro _ h2 ⟨rfl, hp2, k2⟩
  rw [asA_agg]
  show asO (some (Value.string x0.text)) _
  have hext : x0.text.extract (Int.toNat ((0 : Nat) : Int)) (Int.toNat 1) = bs ((bytesOf x0.text).take 1) := by
    rw [show Int.toNat ((0 : Nat) : Int) = 0 from rfl, show Int.toNat 1 = 0 + 1 from rfl, extract_eq, List.drop_zero]
    rfl
  have hl1 : ((bytesOf x0.text).take 1).length = 1 := by rw [List.length_take, htx]; rfl
  rw [asO_some, asS_str, asS_str, hext, bs_size, bs_size, hl1, bs_app]
  simp only [List.length_cons] at hle
  refine ⟨by omega, by omega, by omega, by omega, ⟨acc ++ (bytesOf x0.text).take 1, r0, rfl, ?_, ?_, hp2, k1.trans k2, by omega⟩, ?_⟩
  · rw [heq, typP_cons, hc, if_neg Bool.false_ne_true, hc2, if_pos rfl, if_neg h3]
  · rw [List.length_append, hl1]
    omega
  · show tkN G h2 < tkN G h1
    rw [hp2.tkN, hp1.tkN]
    simp
end
end Go.Proofs.YtkeeboomikkojaaGreatDoor

namespace Go.Proofs.YtkeeboomikkojaaGreatDoor
open Go Go.Sx Go.Sx.Tk Go.Sx.Rn Go.Proofs.YtkeeboomikkojaaGreatDoor.Sx

def argsP (e : Int) (ts : List Tok) : Except (Int × Int) (List Ex × List Tok) := bindP (wantP e [40] ts) fun l => argsL e (l.length + 1) [] l
theorem lit_sl {h : Hp} {L : Nat} {s : ByteArray} (hl : h[L]? = some (.cells (List.toArray [(.string s)]) 9 (0, 0))) : SlAt h 1 (.slice (some ⟨L, 0, none⟩) 1 1) 1 [.string s] :=
  ⟨rfl, .inr ⟨L, 0, 1, rfl, fun j u hu => by rw [Nat.zero_add, cellH_block hl]; simpa using hu⟩⟩
theorem ex1 {h : Hp} {N : Nat → Prop} {L : Nat} {x : Ex} {w : Value} (hl : h[L]? = some (.cells (List.toArray ((exC x w).toArray.toList ++ [])) 36 (0, 0))) (hx : ExSN h N w x.l) (hN : N L) : ExSN h N (.slice (some ⟨L, 0, none⟩) 1 1) [x] := by
  refine ⟨exC x w, SlN.at_lit (by simpa using hl) rfl (by simp) hN, ?_⟩
  unfold exsAtN
  exact ⟨exAtN_iff.2 ⟨w, rfl, hx⟩, by unfold exsAtN; rfl⟩
section
variable {ω : Amb} {h : Hp} {G : Nat} {ts : List Tok} {e n d t : Int}
/-- 'want' with its list of one text laid just ahead -/
theorem want1_law {o : Int} (hp : PA h G ts e n d o t) (s : ByteArray) (X : List PanicEntry → Hp → Prop) (hX : ∀ x h', wantP e (bytesOf s) ts = .error x → KX G h h' → X (gone x) h') :
    CallX Tryz.prog ω n_p_syntax_parser_want [pp G, .slice (some ⟨Array.size h, 0, none⟩) 1 1] (Array.push h (.cells (List.toArray [(.string s)]) 9 (0, 0))) (fun _ h' => ∃ r, wantP e (bytesOf s) ts = .ok r ∧ PA h' G r e n d o t ∧ KG G h h') X := by
  have k0 := Keep.push (S := fun _ => False) h (.cells (List.toArray [(.string s)]) 9 (0, 0))
  refine CallX.mono (want_law (hp.keep k0 fun _ _ h => h) s _ (lit_sl hp_push_new) X fun x h' hx kx => hX x h' hx (kx.after (kg_of k0))) ?_ (fun _ _ hx => hx)
  rintro _ h' ⟨r, hr, hp', k⟩
  exact ⟨r, hr, hp', (kg_of k0).trans k⟩
set_option maxRecDepth 100000 in
theorem args_law (hp : PA h G ts e n d 0 t) (hl : ts.length ≤ 20000) (X : List PanicEntry → Hp → Prop) (hX : ∀ x h', argsP e ts = .error x → KX G h h' → X (gone x) h') :
    CallX Tryz.prog ω n_p_syntax_parser_args [pp G] h (fun r h' => ∃ l ts', argsP e ts = .ok (l, ts') ∧ ExSN h' (Nw h h') r l ∧ (∃ t', PA h' G ts' e n d 0 t') ∧ KG G h h') X := by
  have hlt := hp.lt
  refine C_p_syntax_parser_args ω _ h _ X ?_
  unfold W_p_syntax_parser_args
  refine CallX.mono (want1_law hp ⟨#[40]⟩ X fun x h' hx kx => hX x h' (by unfold argsP; rw [show wantP e [40] ts = _ from hx]; rfl) kx) ?_ (fun _ _ hx => hx)
  rintro _ h1 ⟨l0, hw, hp1, k1⟩
  have hw : wantP e [40] ts = .ok l0 := hw
  have hwl := wantP_len hw
  have hun : argsP e ts = argsL e (l0.length + 1) [] l0 := by unfold argsP; rw [hw]; rfl
  refine ⟨fun out h' => ∃ f acc us ts' t', argsP e ts = argsL e f acc ts' ∧ ts'.length + 1 ≤ f ∧ ts'.length ≤ 20000 ∧ acc.length ≤ 6 ∧ OwnH h' h.size 36 4 out acc.length us ∧ exsAtN h' (fun b => Nw h h' b ∧ out.ownBlock ≠ some b) acc us ∧ PA h' G ts' e n d 0 t' ∧ KG G h h', fun _ => tkN G,
    ⟨l0.length + 1, [], [], l0, t, hun, Nat.le_refl _, by omega, by simp, OwnH.nil, exsAtN_nil, hp1, k1⟩, ?_⟩
  rintro out _ h2 ⟨f, acc, us, ts', t2, heq, hf, hl2, hacc, ho, hat, hp2, k2⟩
  obtain ⟨f, rfl⟩ : ∃ q, f = q + 1 := ⟨f - 1, by omega⟩
  have hs2 := k2.size
  refine CallX.use (is_law hp2 ⟨#[41]⟩) ?_
  rintro _ _ ⟨rfl, rfl⟩
  rw [asB_bool, show bytesOf ⟨#[41]⟩ = [41] from rfl]
  refine cond_c (fun hc => ?_) (fun hc => ?_)
  rotate_left
  · have hc : isT [41] ts' = true := by simpa using hc
    obtain ⟨x0, r0, rfl⟩ := isT_cons hc
    refine CallX.use (next_law hp2) ?_
    rintro _ h3 ⟨_, hp3, k3⟩
    have hs3 := k3.size
    have hlt2 := ho.lt
    refine ⟨acc, r0, ?_, ⟨us, ?_, ?_⟩, ⟨t2, hp3⟩, k2.trans k3⟩
    · rw [heq]
      unfold argsL
      rw [hc, if_pos rfl]
      rfl
    · exact ((SlN.own ho (by omega)).keep k3 fun b hb e => by omega).mono fun b hb => ⟨hb.1, by omega⟩
    · exact exsAtN_map (fun sz v n us hs => (hs.keep k3 fun b hb e => by have := hb.1.1; omega).mono fun b hb => ⟨hb.1.1, by have := hb.1.2; omega⟩) acc hat
  have hc : isT [41] ts' = false := by simpa using hc
  have hstep : argsL e (f + 1) acc ts' = bindP (if acc.length = 0 then .ok ts' else wantP e [44] ts') fun l => if acc.length = 6 then .error (pErr e 8 l) else bindP (exprP e l) fun q => argsL e f (acc ++ [q.1]) q.2 := by
    conv => lhs; unfold argsL
    rw [hc, if_neg Bool.false_ne_true]
  obtain ⟨a0, c0, hform⟩ : ∃ a c, out = .slice a acc.length c := by
    rcases ho.2 with ⟨rfl, h0⟩ | ⟨g, o, cap, cur, rfl, _⟩
    · exact ⟨none, 0, by rw [h0]⟩
    · exact ⟨_, _, rfl⟩
  have hsl : ∀ {F : Option Addr → Nat → Nat → Prop}, (∀ a c, F a acc.length c) → asSl out F := fun hF => by rw [hform, asSl_sl]; exact hF _ _
  refine hsl fun _ _ => ?_
  refine ⟨fun h' => ∃ l1, (if acc.length = 0 then .ok ts' else wantP e [44] ts') = (.ok l1 : Except (Int × Int) (List Tok)) ∧ PA h' G l1 e n d 0 t2 ∧ KG G h2 h' ∧ l1.length ≤ ts'.length, ?_, ?_⟩
  · refine cond_c (fun h0 => ?_) (fun h0 => ?_)
    · have h0 : ¬ acc.length = 0 := by have := of_decide_eq_true h0; omega
      refine CallX.mono (want1_law hp2 ⟨#[44]⟩ X fun x h' hx kx => hX x h' ?_ (kx.after k2)) ?_ (fun _ _ hx => hx)
      · have hx : wantP e [44] ts' = .error x := hx
        rw [heq, hstep, if_neg h0, hx]
        rfl
      · rintro _ h3 ⟨l1, hw1, hp3, k3⟩
        have hw1 : wantP e [44] ts' = .ok l1 := hw1
        have := wantP_len hw1
        exact ⟨l1, by rw [if_neg h0, hw1], hp3, k3, by omega⟩
    · have h0 : acc.length = 0 := by have := of_decide_eq_false h0; omega
      exact ⟨ts', by rw [if_pos h0], hp2, Keep.refl _ _, Nat.le_refl _⟩
  rintro _ h3 ⟨l1, hl1, hp3, k3, hle1⟩
  rw [hl1, bindP_ok] at hstep
  have hs3 := k3.size
  refine hsl fun _ _ => ?_
  refine ⟨fun h' => acc.length ≠ 6 ∧ h3 = h', ?_, ?_⟩
  · refine cond_c (fun h6 => ?_) (fun h6 => ?_)
    · have h6 : acc.length = 6 := by have := eq_of_beq h6; omega
      refine CallX.mono (gone_law hp3 8 X ?_) (fun _ _ hf => hf.elim) (fun _ _ hx => hx)
      exact hX _ h3 (by rw [heq, hstep, if_pos h6]) ⟨k2.trans k3, hp3.pb⟩
    · exact ⟨fun hh => by rw [hh] at h6; exact absurd h6 (by decide), rfl⟩
  rintro _ _ ⟨h6, rfl⟩
  rw [if_neg h6] at hstep
  refine CallX.mono (pexpr_law hp3 (by omega) X fun x h' hx kx => hX x h' (by rw [heq, hstep, hx]; rfl) (kx.after (k2.trans k3))) ?_ (fun _ _ hx => hx)
  rintro _ h4 ⟨x, ts4, hok, ⟨w, rfl, hx⟩, ⟨t4, hp4⟩, k4⟩
  have hs4 := k4.size
  have hle4 := exprP_len hok
  simp only at hle4
  rw [asA_agg]
  refine ⟨rfl, ?_⟩
  rw [show ((exC x w).toArray.toList ++ []) = exC x w from by simp]
  have k24 := k3.trans k4
  have hlt2 := ho.lt
  have ho4 : OwnH h4 h.size 36 4 out acc.length us := ho.keep fun b hb hbl => k24.block b hbl fun e => by have := hlt2 b hb; omega
  refine appK_one (bt := 56) (cs := exC x w) (by kernel_rfl) ho4 rfl (exC_one hx.isSl) (by omega) (by omega) (by omega) fun w2 h9 ho2 hg _ hv => ?_
  have hg9 := hg.size
  have k49 : Keep (fun b => some b = out.ownBlock) h4 h9 := Keep.grown hg fun b hb _ => hb.symm
  have hun2 : argsP e ts = argsL e f (acc ++ [x]) ts4 := by rw [heq, hstep, hok]; rfl
  have k29 : Keep (fun b => b = G ∨ some b = out.ownBlock) h2 h9 := (k24.mono fun _ _ h => .inl h).trans (k49.mono fun _ _ h => .inr h)
  refine ⟨⟨f, acc ++ [x], us ++ exC x w, ts4, t4, hun2, by omega, by omega, by simp; omega, by rw [List.length_append]; exact ho2, ?_, hp4.keep k49 (fun b hb e => by have := hlt2 b e.symm; omega), ?_⟩, ?_⟩
  · refine exsAtN_snoc (exsAtN_map (fun sz v n us hs => (hs.keep k29 fun b hb e => ?_).mono fun b hb => ⟨⟨hb.1.1, by omega⟩, push_own hv (by omega) hb.2⟩) _ hat) ho.1 ?_ rfl
    · rcases e with e | e
      · have := hb.1.1
        omega
      · exact hb.2 e.symm
    refine exAtN_iff.2 ⟨w, rfl, hx.map fun sz v n us hs => ?_⟩
    refine (hs.keep k49 fun b hb e => by have := hlt2 b e.symm; omega).mono fun b hb => ⟨⟨by omega, by omega⟩, push_own hv (by omega) fun e => ?_⟩
    have := hlt2 b e
    omega
  · exact ((k2.trans k24).newer (k49.mono fun b hb e => .inr (hlt2 b e.symm).1))
  · show tkN G h9 < tkN G h2
    rw [(hp4.keep k49 (fun b hb e => by have := hlt2 b e.symm; omega)).tkN, hp2.tkN]
    omega
end
end Go.Proofs.YtkeeboomikkojaaGreatDoor

namespace Go.Proofs.YtkeeboomikkojaaGreatDoor
open Go Go.Sx Go.Sx.Tk Go.Sx.Rn Go.Proofs.YtkeeboomikkojaaGreatDoor.Sx

/-- a statement's cells while it is read -/
def shC (d at_ : Int) (s : Sh) (ve vb vl : Value) : List Value := [.int .i64 d, .int .i64 at_, .string s.a, .string s.b, .string s.t, .int .i64 s.n, ve, vb, vl]
abbrev KGB (G B : Nat) (h h' : Hp) : Prop := Keep (fun k => k = G ∨ k = B) h h'
/-- the statement's block, some fields laid -/
abbrev ShAt (h : Hp) (B : Nat) (d at_ : Int) (s : Sh) (ve : Value) : Prop := h[B]? = some (.cells (shC d at_ s ve (.slice none 0 0) (.slice none 0 0)).toArray 39 (0, 0))
theorem kgb_of {G B : Nat} {h h' : Hp} (k : KG G h h') : KGB G B h h' := k.mono fun _ _ h => .inl h
section
variable {ω : Amb} {h : Hp} {G B : Nat} {d : Nat} {at_ : Int} {s : Sh} {ve : Value}
theorem sh_set {j : Nat} {v : Value} {s' : Sh} {ve' : Value} (hb : ShAt h B d at_ s ve) (hj : j < 9) (he : (shC d at_ s ve (.slice none 0 0) (.slice none 0 0)).set j v = shC d at_ s' ve' (.slice none 0 0) (.slice none 0 0)) {K : Hp → Prop} (hk : ∀ h', ShAt h' B d at_ s' ve' → Keep (fun k => k = B) h h' → K h') :
    storeK1 h (Addr.add ⟨B, 0, none⟩ j) v K := by
  rw [addr_add, Nat.zero_add]
  refine storeK1_of (o := j) hb (by simp [shC]; omega) ?_
  have : (shC d at_ s ve (.slice none 0 0) (.slice none 0 0)).toArray.setIfInBounds j v = (shC d at_ s' ve' (.slice none 0 0) (.slice none 0 0)).toArray := by rw [← he]; simp
  rw [this]
  exact hk _ (hp_set_same hb) (Keep.set (S := fun k => k = B) _ rfl)
theorem pp_nn {F : Prop} {b : Nat} : nnK (.pointer (some ⟨b, 0, none⟩)) F = F := rfl
/-- what is handed back of a statement without blocks -/
def ShR (h : Hp) (G B : Nat) (e n dd : Int) (d : Nat) (at_ : Int) (pr : Except (Int × Int) (Sh × List Tok)) (h' : Hp) : Prop := ∃ s ts' ve, pr = .ok (s, ts') ∧ ShAt h' B d at_ s ve ∧ ExSN h' (Nw h h') ve s.e ∧ (∃ t', PA h' G ts' e n dd 0 t') ∧ KGB G B h h'
variable {ts : List Tok} {e n dd t : Int}
/-- one expression, laid into field 6 -/
theorem one_expr {h1 : Hp} {ts1 : List Tok} {t1 : Int} (k1 : KGB G B h h1) (hGB : G < B) (hB : B < h.size) (hb : ShAt h1 B d at_ s (.slice none 0 0)) (hp : PA h1 G ts1 e n dd 0 t1) (hl : ts1.length ≤ 20000) {pr : Except (Int × Int) (Sh × List Tok)} (hpr : pr = bindP (exprP e ts1) fun q => .ok ({ s with e := [q.1] }, q.2))
    (X : List PanicEntry → Hp → Prop) (hX : ∀ x h', pr = .error x → KGB G B h h' → PB h' G → X (gone x) h') {J : Hp → Prop} (hJ : ∀ h', ShR h G B e n dd d at_ pr h' → J h') :
    CallX Tryz.prog ω n_p_syntax_parser_expr [pp G] h1 (fun r29 h30 => asA r29 fun A31 => A31.size = 4 ∧ nnK (.pointer (some ⟨B, 0, none⟩)) (asP (.pointer (some ⟨B, 0, none⟩)) fun p32 =>
      storeK1 (Array.push h30 (.cells (List.toArray (A31.toList ++ [])) 36 (0, 0))) (Addr.add p32 6) (.slice (some ⟨Array.size h30, 0, none⟩) 1 1) J)) X := by
  refine CallX.mono (pexpr_law hp hl X fun x h' hx kx => hX x h' (by rw [hpr, hx]; rfl) (k1.trans (kgb_of kx.k)) kx.b) ?_ (fun _ _ hx => hx)
  rintro _ h2 ⟨x, ts2, hok, ⟨w, rfl, hx⟩, ⟨t2, hp2⟩, k2⟩
  have hs1 := k1.size
  have hs2 := k2.size
  rw [asA_agg]
  refine ⟨rfl, ?_⟩
  rw [pp_nn, asP_some]
  have hl3 := hp_push_new (h := h2) (o := .cells (List.toArray ((exC x w).toArray.toList ++ [])) 36 (0, 0))
  have k3 := Keep.push (S := fun _ => False) h2 (.cells (List.toArray ((exC x w).toArray.toList ++ [])) 36 (0, 0))
  have z3 : (h2.push (.cells (List.toArray ((exC x w).toArray.toList ++ [])) 36 (0, 0))).size = h2.size + 1 := by simp
  generalize h2.push (.cells (List.toArray ((exC x w).toArray.toList ++ [])) 36 (0, 0)) = h3 at *
  have hb3 : ShAt h3 B d at_ s (.slice none 0 0) := k3.get (k2.get hb (by omega)) (by simp)
  refine sh_set (s' := { s with e := [x] }) (ve' := .slice (some ⟨h2.size, 0, none⟩) 1 1) hb3 (by decide) rfl fun h4 hb4 k4 => hJ h4 ⟨{ s with e := [x] }, ts2, _, by rw [hpr, hok]; rfl, hb4, ?_, ⟨t2, (hp2.keep k3 fun _ _ h => h).keep k4 fun b hb e => by omega⟩, ?_⟩
  · have hx3 := ExSN.mv hx k3 (N' := fun k => h.size ≤ k ∧ k < h3.size) (fun _ _ h => h) fun b hb => ⟨by have := hb.1; omega, by have := hb.2; omega⟩
    exact ExSN.mv (ex1 hl3 hx3 ⟨by omega, by omega⟩) k4 (fun b hb e => by have := hb.1; omega) fun b hb => ⟨hb.1, by have := k4.size; have := hb.2; omega⟩
  · exact ((k1.trans (kgb_of k2)).trans (kgb_of (kg_of k3))).trans (k4.mono fun _ _ h => .inr h)
set_option maxHeartbeats 1000000 in
theorem short_law (hGB : G < B) (hb : ShAt h B d at_ {} (.slice none 0 0)) (hp : PA h G ts e n dd 0 t) (hl : ts.length ≤ 20000) (X : List PanicEntry → Hp → Prop) (hX : ∀ x h', shortP e d ts = .error x → KGB G B h h' → PB h' G → X (gone x) h') :
    CallX Tryz.prog ω n_p_syntax_parser_short [pp G, .pointer (some ⟨B, 0, none⟩)] h (fun _ h' => ShR h G B e n dd d at_ (shortP e d ts) h') X := by
  have hB := hp_lt hb
  refine C_p_syntax_parser_short ω _ _ h _ X ?_
  unfold W_p_syntax_parser_short
  rw [pp_nn, asP_some]
  refine lx hb (j := 0) rfl ?_
  rw [asK_int]
  refine cond_c (fun h3 => ?_) (fun h3 => ?_)
  · have h3 : d = 3 := by have := eq_of_beq h3; omega
    refine one_expr (Keep.refl _ _) hGB hB hb hp hl ?_ X hX fun h' hr => hr
    unfold shortP
    rw [if_pos h3]
  have h3 : d ≠ 3 := fun hh => by rw [hh] at h3; exact absurd h3 (by decide)
  have hun : shortP e d ts = bindP (nameP e ts) fun a =>
    if d = 1 ∨ d = 2 then bindP (wantP e [61] a.2) fun l => bindP (exprP e l) fun q => .ok ({ a := a.1, e := [q.1] }, q.2)
    else if d = 4 then bindP (nameP e a.2) fun b => bindP (typP e [] b.2) fun t => bindP (numP e t.2) fun n => .ok ({ a := a.1, b := b.1, t := bs t.1, n := n.1 }, n.2)
    else if d = 5 then bindP (nameP e a.2) fun b => .ok ({ a := a.1, b := b.1 }, b.2)
    else if d = 6 then bindP (exprP e a.2) fun q => .ok ({ a := a.1, e := [q.1] }, q.2)
    else if d = 10 then bindP (wantP e [40] a.2) fun l => bindP (argsL e (l.length + 1) [] l) fun q => .ok ({ a := a.1, e := q.1 }, q.2)
    else .ok ({ a := a.1 }, a.2) := by
    unfold shortP
    rw [if_neg h3]
  refine CallX.mono (name_law hp X fun x h' hx kx => hX x h' (by rw [hun, hx]; rfl) (kgb_of kx.k) kx.b) ?_ (fun _ _ hx => hx)
  rintro _ h1 ⟨a, ts1, hn, rfl, hp1, k1⟩
  have hle1 := nameP_len hn
  simp only at hle1
  have hs1 := k1.size
  rw [hn, bindP_ok] at hun
  simp only at hun
  rw [pp_nn, asP_some, oneK_str]
  refine sh_set (s' := { a := a }) (ve' := .slice none 0 0) (k1.get hb (by omega)) (by decide) rfl fun h2 hb2 k2 => ?_
  have hp2 := hp1.keep k2 fun b hb e => by omega
  have k02 : KGB G B h h2 := (kgb_of k1).trans (k2.mono fun _ _ h => .inr h)
  have hs2 := k2.size
  rw [pp_nn, asP_some]
  refine lx hb2 (j := 0) rfl ?_
  refine ⟨fun h' => ShR h G B e n dd d at_ (shortP e d ts) h', ?_, fun _ _ hj => hj⟩
  rw [asK_int]
  refine ⟨fun v h' => v = .bool (decide (d = 1 ∨ d = 2)) ∧ h2 = h', ?_, ?_⟩
  · refine cond_c (fun hc => ?_) (fun hc => ?_)
    · have h1 : d = 1 := by have := eq_of_beq hc; omega
      exact ⟨by rw [hc, decide_eq_true (.inl h1)], rfl⟩
    · have h1 : d ≠ 1 := fun hh => by rw [hh] at hc; exact absurd hc (by decide)
      rw [asK_int]
      refine ⟨?_, rfl⟩
      congr 1
      rw [Bool.eq_iff_iff]
      simp [h1]
      omega
  rintro _ _ _ ⟨rfl, rfl⟩
  refine ⟨fun h' => ShR h G B e n dd d at_ (shortP e d ts) h', ?_, fun _ _ hj => hj⟩
  rw [asB_bool]
  refine cond_c (fun hc => ?_) (fun hc => ?_)
  · have h12 := of_decide_eq_true hc
    rw [if_pos h12] at hun
    refine CallX.mono (want1_law hp2 ⟨#[61]⟩ X fun x h' hx kx => hX x h' (by rw [hun, show wantP e [61] ts1 = _ from hx]; rfl) (k02.trans (kgb_of kx.k)) kx.b) ?_ (fun _ _ hx => hx)
    rintro _ h3 ⟨ts3, hw, hp3, k3⟩
    have hw : wantP e [61] ts1 = .ok ts3 := hw
    have hle3 := wantP_len hw
    rw [hw, bindP_ok] at hun
    exact one_expr (k02.trans (kgb_of k3)) hGB hB (k3.get hb2 (by omega)) hp3 (by omega) (s := { a := a }) hun X hX fun h' hr => hr
  have h12 := of_decide_eq_false hc
  rw [if_neg h12] at hun
  rw [asK_int]
  refine ⟨fun h' => ShR h G B e n dd d at_ (shortP e d ts) h', ?_, fun _ _ hj => hj⟩
  refine cond_c (fun hc => ?_) (fun hc => ?_)
  · -- chan
    have h4 : d = 4 := by have := eq_of_beq hc; omega
    rw [if_pos h4] at hun
    refine CallX.mono (name_law hp2 X fun x h' hx kx => hX x h' (by rw [hun, hx]; rfl) (k02.trans (kgb_of kx.k)) kx.b) ?_ (fun _ _ hx => hx)
    rintro _ h3 ⟨b, ts3, hn3, rfl, hp3, k3⟩
    rw [hn3, bindP_ok] at hun
    simp only at hun
    rw [pp_nn, asP_some, oneK_str]
    refine sh_set (s' := { a := a, b := b }) (ve' := .slice none 0 0) (k3.get hb2 (by omega)) (by decide) rfl fun h4 hb4 k4 => ?_
    have hp4 := hp3.keep k4 fun b hb e => by omega
    have k04 : KGB G B h h4 := (k02.trans (kgb_of k3)).trans (k4.mono fun _ _ h => .inr h)
    refine CallX.mono (typ_law hp4 X fun x h' hx kx => hX x h' (by rw [hun, hx]; rfl) (k04.trans (kgb_of kx.k)) kx.b) ?_ (fun _ _ hx => hx)
    rintro _ h5 ⟨l5, ts5, hn5, rfl, hp5, k5, -, -⟩
    rw [hn5, bindP_ok] at hun
    simp only at hun
    rw [pp_nn, asP_some, oneK_str]
    refine sh_set (s' := { a := a, b := b, t := bs l5 }) (ve' := .slice none 0 0) (k5.get hb4 (by omega)) (by decide) rfl fun h6 hb6 k6 => ?_
    have hp6 := hp5.keep k6 fun b hb e => by omega
    have k06 : KGB G B h h6 := (k04.trans (kgb_of k5)).trans (k6.mono fun _ _ h => .inr h)
    rw [numP_kind] at hun
    refine CallX.mono (kind_law hp6 3 X fun x h' hx kx => hX x h' (by rw [hun, hx]; rfl) (k06.trans (kgb_of kx.k)) kx.b) ?_ (fun _ _ hx => hx)
    rintro _ h7 ⟨x7, ts7, hn7, rfl, hp7, k7⟩
    rw [hn7, bindP_ok, bindP_ok] at hun
    simp only at hun
    rw [asA_agg]
    show asO (some (Value.int .i64 x7.n)) _
    rw [asO_some, pp_nn, asP_some, oneK_int]
    refine sh_set (s' := { a := a, b := b, t := bs l5, n := x7.n }) (ve' := .slice none 0 0) (k7.get hb6 (by omega)) (by decide) rfl fun h8 hb8 k8 => ?_
    exact ⟨_, ts7, _, hun, hb8, exsN_nil, ⟨t, hp7.keep k8 fun b hb e => by omega⟩, (k06.trans (kgb_of k7)).trans (k8.mono fun _ _ h => .inr h)⟩
  have h4 : d ≠ 4 := fun hh => by rw [hh] at hc; exact absurd hc (by decide)
  rw [if_neg h4] at hun
  rw [asK_int]
  refine ⟨fun h' => ShR h G B e n dd d at_ (shortP e d ts) h', ?_, fun _ _ hj => hj⟩
  refine cond_c (fun hc => ?_) (fun hc => ?_)
  · have h5 : d = 5 := by have := eq_of_beq hc; omega
    rw [if_pos h5] at hun
    refine CallX.mono (name_law hp2 X fun x h' hx kx => hX x h' (by rw [hun, hx]; rfl) (k02.trans (kgb_of kx.k)) kx.b) ?_ (fun _ _ hx => hx)
    rintro _ h3 ⟨b, ts3, hn3, rfl, hp3, k3⟩
    rw [hn3, bindP_ok] at hun
    simp only at hun
    rw [pp_nn, asP_some, oneK_str]
    refine sh_set (s' := { a := a, b := b }) (ve' := .slice none 0 0) (k3.get hb2 (by omega)) (by decide) rfl fun h4 hb4 k4 => ?_
    exact ⟨_, ts3, _, hun, hb4, exsN_nil, ⟨t, hp3.keep k4 fun b hb e => by omega⟩, (k02.trans (kgb_of k3)).trans (k4.mono fun _ _ h => .inr h)⟩
  have h5 : d ≠ 5 := fun hh => by rw [hh] at hc; exact absurd hc (by decide)
  rw [if_neg h5] at hun
  rw [asK_int]
  refine ⟨fun h' => ShR h G B e n dd d at_ (shortP e d ts) h', ?_, fun _ _ hj => hj⟩
  refine cond_c (fun hc => ?_) (fun hc => ?_)
  · have h6 : d = 6 := by have := eq_of_beq hc; omega
    rw [if_pos h6] at hun
    exact one_expr k02 hGB hB hb2 hp2 (by omega) (s := { a := a }) hun X hX fun h' hr => hr
  have h6 : d ≠ 6 := fun hh => by rw [hh] at hc; exact absurd hc (by decide)
  rw [if_neg h6] at hun
  rw [asK_int]
  refine ⟨fun h' => ShR h G B e n dd d at_ (shortP e d ts) h', ?_, fun _ _ hj => hj⟩
  refine cond_c (fun hc => ?_) (fun hc => ?_)
  · have h10 : d = 10 := by have := eq_of_beq hc; omega
    rw [if_pos h10] at hun
    have hun2 : shortP e d ts = bindP (argsP e ts1) fun q => .ok ({ a := a, e := q.1 }, q.2) := by
      rw [hun]
      unfold argsP
      cases wantP e [40] ts1 <;> rfl
    refine CallX.mono (args_law hp2 (by omega) X fun x h' hx kx => hX x h' (by rw [hun2, hx]; rfl) (k02.trans (kgb_of kx.k)) kx.b) ?_ (fun _ _ hx => hx)
    rintro r h3 ⟨l3, ts3, hn3, hx3, ⟨t3, hp3⟩, k3⟩
    have hs3 := k3.size
    rw [hn3, bindP_ok] at hun2
    rw [pp_nn, asP_some]
    refine oneK_of hx3.isSl.one ?_
    refine sh_set (s' := { a := a, e := l3 }) (ve' := r) (k3.get hb2 (by omega)) (by decide) rfl fun h4 hb4 k4 => ?_
    refine ⟨_, ts3, _, hun2, hb4, ?_, ⟨t3, hp3.keep k4 fun b hb e => by omega⟩, (k02.trans (kgb_of k3)).trans (k4.mono fun _ _ h => .inr h)⟩
    exact ExSN.mv hx3 k4 (fun b hb e => by have := hb.1; omega) fun b hb => ⟨by have := hb.1; omega, by have := k4.size; have := hb.2; omega⟩
  · have h10 : d ≠ 10 := fun hh => by rw [hh] at hc; exact absurd hc (by decide)
    rw [if_neg h10] at hun
    exact ⟨_, ts1, _, hun, hb2, exsN_nil, ⟨t, hp2⟩, k02⟩
end
end Go.Proofs.YtkeeboomikkojaaGreatDoor
