/- The document's parser: blocks. -/
import Derived.Test.YtaehnpilebkcoaaDoorRi3
import Derived.Test.YtaehnpilebkcoaaDoorRx4
import Derived.Test.YtaehnpilebkcoaaDoorRy2
namespace Go.Proofs.YtaehnpilebkcoaaDoor
open Go Go.Sx Go.Sx.Tk Go.Sx.Rn Go.Proofs.YtaehnpilebkcoaaDoor.Sx

theorem d123 : ∃ c r, bytesOf ⟨#[123]⟩ = c :: r ∧ Tk.dg c = false := ⟨_, _, rfl, by decide⟩
theorem d125 : ∃ c r, bytesOf ⟨#[125]⟩ = c :: r ∧ Tk.dg c = false := ⟨_, _, rfl, by decide⟩
section
variable {ω : Amb} {e : Int}
set_option maxRecDepth 100000 in
theorem block_lawR [Inhabited Nat] {f : Nat} (hT : ∀ g, g ≤ f → TLR ω e g) : BLR ω e (f + 1) := by
  intro h G st deep hp hd8 hst X
  have hlt := hp.lt
  refine C_p_pipewrightref_reading_block ω _ _ h _ X ?_
  unfold W_p_pipewrightref_reading_block
  refine CallX.use (bad2_law hp) ?_
  rintro _ _ ⟨rfl, rfl⟩
  rw [asB_bool]
  cases st with
  | error x => exact cond_t rfl ⟨nilSl, hp, Keep.refl _ _⟩
  | ok s =>
    obtain ⟨n, ts⟩ := s
    obtain ⟨hn, hf⟩ := hst _ rfl
    simp only at hn hf
    obtain ⟨p, hp'⟩ := hp
    have hp' : RG h G e n p ts := hp'
    have hlen := hp'.len
    refine cond_f rfl ?_
    rw [bindP_ok, bindP_ok]
    show ∃ J3 : Value → Hp → Prop, _
    refine ⟨fun v h' => v = .bool (isT [123] ts && decide (deep = 8)) ∧ h = h', ?_, ?_⟩
    · refine CallX.use (sees_law hp' ⟨#[123]⟩ d123) ?_
      rintro _ _ ⟨rfl, rfl⟩
      rw [asB_bool, show bytesOf ⟨#[123]⟩ = [123] from rfl]
      refine cond_c (fun hc => ?_) (fun hc => ?_)
      · rw [asK_int, hc, Bool.true_and]
        refine ⟨?_, rfl⟩
        congr 1
        rw [Bool.eq_iff_iff, decide_eq_true_eq, decide_eq_true_eq]
        omega
      · exact ⟨by rw [hc, Bool.false_and], rfl⟩
    rintro _ _ _ ⟨rfl, rfl⟩
    rw [asB_bool]
    refine cond_c (fun hc => ?_) (fun hc => ?_)
    · rw [Bool.and_eq_true, decide_eq_true_eq] at hc
      have hun : blockP e (f + 1) deep n ts = .error (pErr e 7 ts) := by rw [blockP_eq, if_pos hc.1, if_pos hc.2]
      rw [show blockP e (f + 1) deep (n, ts).1 (n, ts).2 = .error (pErr e 7 ts) from hun]
      refine CallX.use (wrong_law hp' 7 (by decide)) ?_
      rintro _ h1 ⟨hb, k⟩
      exact ⟨nilSl, hb, k⟩
    have h8 : ¬ (isT [123] ts = true ∧ deep = 8) := fun hh => by rw [hh.1, hh.2] at hc; exact absurd hc (by decide)
    refine CallX.use (must2_law (st := .ok (n, ts)) ⟨p, hp'⟩ ⟨#[123]⟩ d123) ?_
    rintro _ h1 ⟨hp1, k1⟩
    have hs1 := k1.size
    have hp1 : RO2 h1 G e (bindP (wantP e [123] ts) fun r => .ok (n, r)) := hp1
    show ∃ I16 : Value → Hp → Prop, _
    refine ⟨fun out h' => KG G h h' ∧ ((∃ g acc us m ts', blockP e (f + 1) deep n ts = stmtsL e g (deep + 1) acc m ts' ∧ deep + 1 ≤ 8 ∧ 3 * ts'.length + 2 ≤ g ∧ g ≤ f ∧ m ≤ 300 ∧ acc.length + ts'.length ≤ 12000 ∧ OwnH h' h.size 65 9 out acc.length us ∧ stsAtN h' (fun b => Nw h h' b ∧ out.ownBlock ≠ some b) acc us ∧ RO2 h' G e (.ok (m, ts'))) ∨
      ∃ y us k, k ≤ 13000 ∧ blockP e (f + 1) deep n ts = .error y ∧ OwnH h' h.size 65 9 out k us ∧ RO2 h' G e (.error y)), fun _ => rkN G, ⟨k1, ?_⟩, ?_⟩
    · unfold wantP at hp1
      cases hT1 : isT [123] ts with
      | true =>
        rw [hT1, if_pos rfl] at hp1
        obtain ⟨x0, r0, rfl⟩ := isT_cons hT1
        have h8' : deep ≠ 8 := fun hh => h8 ⟨hT1, hh⟩
        simp only [List.length_cons] at hf hlen
        exact .inl ⟨f, [], [], n, r0, by rw [blockP_eq, if_pos hT1, if_neg h8']; rfl, by omega, by omega, Nat.le_refl _, hn, by simp; omega, OwnH.nil, stsAtN_nil, hp1⟩
      | false =>
        rw [hT1, if_neg Bool.false_ne_true] at hp1
        exact .inr ⟨_, [], 0, by omega, by rw [blockP_eq, hT1, if_neg Bool.false_ne_true], OwnH.nil, hp1⟩
    rintro out _ h2 ⟨k2, hor⟩
    have hs2 := k2.size
    rcases hor with ⟨g, acc, us, m, ts', heq, hd7, hgl, hgf, hm, hl2, ho, hat, hp2⟩ | ⟨y, us, k, hk, heq, ho, hp2⟩
    rotate_left
    · refine ⟨fun v h' => v = .bool false ∧ h2 = h', ?_, ?_⟩
      · refine CallX.use (bad2_law hp2) ?_
        rintro _ _ ⟨rfl, rfl⟩
        rw [asB_bool]
        exact cond_f rfl ⟨rfl, rfl⟩
      rintro _ _ _ ⟨rfl, rfl⟩
      rw [asB_bool]
      refine cond_f rfl ?_
      refine CallX.use (must2_law hp2 ⟨#[125]⟩ d125) ?_
      rintro _ h3 ⟨hp3, k3⟩
      rw [show blockP e (f + 1) deep (n, ts).1 (n, ts).2 = .error y from heq]
      exact ⟨SlAt.isSl ho.slAt, hp3, k2.trans k3⟩
    obtain ⟨g, rfl⟩ : ∃ q, g = q + 1 := ⟨g - 1, by omega⟩
    rw [stmtsL_eq] at heq
    have hp2c := hp2
    obtain ⟨pp2, hp2'⟩ := hp2c
    have hp2' : RG h2 G e m pp2 ts' := hp2'
    refine ⟨fun v h' => v = .bool (!(isT [125] ts')) ∧ h2 = h', ?_, ?_⟩
    · refine CallX.use (bad2_law hp2) ?_
      rintro _ _ ⟨rfl, rfl⟩
      rw [asB_bool]
      refine cond_t rfl ?_
      refine CallX.use (sees_law hp2' ⟨#[125]⟩ d125) ?_
      rintro _ _ ⟨rfl, rfl⟩
      rw [asB_bool]
      exact ⟨rfl, rfl⟩
    rintro _ _ _ ⟨rfl, rfl⟩
    rw [asB_bool]
    have hlt2 := ho.lt
    refine cond_c (fun hc => ?_) (fun hc => ?_)
    rotate_left
    · have hc : isT [125] ts' = true := by simpa using hc
      obtain ⟨x0, r0, rfl⟩ := isT_cons hc
      rw [if_pos hc] at heq
      refine CallX.use (must2_law hp2 ⟨#[125]⟩ d125) ?_
      rintro _ h3 ⟨hp3, k3⟩
      have hs3 := k3.size
      have hp3 : RO2 h3 G e (bindP (wantP e [125] (x0 :: r0)) fun r => .ok (m, r)) := hp3
      unfold wantP at hp3
      rw [if_pos hc] at hp3
      rw [show blockP e (f + 1) deep (n, ts).1 (n, ts).2 = .ok (acc, m, r0) from heq]
      refine ⟨⟨us, ?_, ?_⟩, hp3, k2.trans k3⟩
      · exact ((SlN.own ho (by omega)).keep k3 fun b hb e => by have := hb.1; omega).mono fun b hb => ⟨hb.1, by have := hb.2; omega⟩
      · exact stsAtN_map (fun sz v n us hs => (hs.keep k3 fun b hb e => by have := hb.1.1; omega).mono fun b hb => ⟨hb.1.1, by have := hb.1.2; omega⟩) acc hat
    have hc : isT [125] ts' = false := by simpa using hc
    rw [hc, if_neg Bool.false_ne_true] at heq
    rw [show ((deep : Int) + 1) = ((deep + 1 : Nat) : Int) from by push_cast; rfl]
    refine CallX.use (fun Y => hT g (by omega) h2 G m ts' (deep + 1) hp2 hd7 hm (by omega) Y) ?_
    rintro r3 h3 ⟨hv3, hp3, k3⟩
    have hs3 := k3.size
    obtain ⟨D, hrD, hD, hDo⟩ : J9v r3 := by
      cases hq : stmtP e g (deep + 1) m ts' with
      | error y =>
        rw [hq] at hv3
        exact hv3
      | ok q =>
        rw [hq] at hv3
        obtain ⟨ve, vb, vl, h1, h2, h3, h4⟩ := hv3
        exact ⟨_, h1, rfl, stC_one h2.isSl h3.isSl h4.isSl⟩
    rw [hrD, asA_agg]
    refine ⟨by simpa using hD, ?_⟩
    rw [show (D.toArray.toList ++ []) = D from by simp]
    have ho3 : OwnH h3 h.size 65 9 out acc.length us := ho.keep fun b hb hbl => k3.block b hbl fun e => by have := hlt2 b hb; omega
    refine appK_one (bt := 144) (cs := D) (by kernel_rfl) ho3 hD hDo (by omega) (by omega) (by omega) fun w2 h9 ho2 hgr _ hv => ?_
    have hg9 := hgr.size
    have k39 : Keep (fun b => some b = out.ownBlock) h3 h9 := Keep.grown hgr fun b hb _ => hb.symm
    have hp9 := hp3.keep k39 (fun b hb e => by have := hlt2 b e.symm; omega)
    have k29 : Keep (fun b => b = G ∨ some b = out.ownBlock) h2 h9 := (k3.mono fun _ _ h => .inl h).trans (k39.mono fun _ _ h => .inr h)
    have k09 : KG G h h9 := (k2.trans k3).newer (k39.mono fun b hb e => .inr (hlt2 b e.symm).1)
    have hrk : rkN G h2 = ts'.length + 1 := hp2'.rkN
    cases hq : stmtP e g (deep + 1) m ts' with
    | error y =>
      rw [hq] at hp9 heq
      have hp9 : RB h9 G e y := hp9
      exact ⟨⟨k09, .inr ⟨y, _, acc.length + 1, by omega, heq, ho2, hp9⟩⟩, by show rkN G h9 < rkN G h2; rw [hp9.rkN, hrk]; omega⟩
    | ok q =>
      obtain ⟨x, m5, ts5⟩ := q
      obtain ⟨l5, m5'⟩ := (slen e g).2.2 hm hq
      simp only at l5 m5'
      rw [hq] at hp9 heq hv3
      have hp9 : RO2 h9 G e (.ok (m5, ts5)) := hp9
      have hp9c := hp9
      obtain ⟨pp9, hp9'⟩ := hp9c
      obtain ⟨ve, vb, vl, hw, hx1, hx2, hx3⟩ := hv3
      have hDe : D = stC x ve vb vl := by
        rw [hrD] at hw
        have := congrArg (fun v => v.cells.toList) hw
        simpa [Value.cells] using this
      subst hDe
      refine ⟨⟨k09, .inl ⟨g, acc ++ [x], us ++ stC x ve vb vl, m5, ts5, heq, hd7, by omega, by omega, m5', by simp; omega, by rw [List.length_append]; exact ho2, ?_, hp9⟩⟩, by show rkN G h9 < rkN G h2; rw [show rkN G h9 = ts5.length + 1 from hp9'.rkN, hrk]; omega⟩
      have hmv : ∀ sz v n us, SlN h3 (Nw h2 h3) sz v n us → SlN h9 (fun b => Nw h h9 b ∧ w2.ownBlock ≠ some b) sz v n us := by
        intro sz v n us hs
        refine (hs.keep k39 fun b hb e => by have := hlt2 b e.symm; have := hb.1; omega).mono fun b hb => ⟨⟨by have := hb.1; omega, by have := hb.2; omega⟩, push_own hv (by have := hb.2; omega) fun e => ?_⟩
        have := hlt2 b e
        have := hb.1
        omega
      refine stsAtN_snoc (stsAtN_map (fun sz v n us hs => (hs.keep k29 fun b hb e => ?_).mono fun b hb => ⟨⟨hb.1.1, by have := hb.1.2; omega⟩, push_own hv (by have := hb.1.2; omega) hb.2⟩) _ hat) ho.1 ?_ rfl
      · rcases e with e | e
        · have := hb.1.1
          omega
        · exact hb.2 e.symm
      exact stAtN_iff.2 ⟨ve, vb, vl, rfl, hx1.map hmv, hx2.map hmv, hx3.map hmv⟩
theorem blocks_lawR [Inhabited Nat] (ω : Amb) (e : Int) : ∀ f : Nat, (∀ g, g ≤ f → BLR ω e g) ∧ ∀ g, g ≤ f → TLR ω e g := by
  intro f
  induction f with
  | zero =>
    refine ⟨?_, ?_⟩
    · intro g hg h G st deep hp hd8 hst X
      have hg0 : g = 0 := by omega
      subst hg0
      cases st with
      | ok s =>
        have := (hst _ rfl).2
        omega
      | error x =>
        refine C_p_pipewrightref_reading_block ω _ _ h _ X ?_
        unfold W_p_pipewrightref_reading_block
        refine CallX.use (bad2_law hp) ?_
        rintro _ _ ⟨rfl, rfl⟩
        rw [asB_bool]
        exact cond_t rfl ⟨nilSl, hp, Keep.refl _ _⟩
    · intro g hg h G n ts deep hp hd8 hn hf X
      omega
  | succ f ih =>
    obtain ⟨i1, i2⟩ := ih
    refine ⟨fun g hg => ?_, fun g hg => ?_⟩
    · rcases Nat.lt_or_ge f g with hh | hh
      · obtain rfl : g = f + 1 := by omega
        exact block_lawR i2
      · exact i1 g hh
    · rcases Nat.lt_or_ge f g with hh | hh
      · obtain rfl : g = f + 1 := by omega
        exact stmt_lawR (i1 f (Nat.le_refl _))
      · exact i2 g hh
end
end Go.Proofs.YtaehnpilebkcoaaDoor

namespace Go.Proofs.YtaehnpilebkcoaaDoor
open Go Go.Sx Go.Sx.Tk Go.Sx.Rn Go.Proofs.YtaehnpilebkcoaaDoor.Sx

theorem dstage : ∃ c r, bytesOf ⟨#[115, 116, 97, 103, 101]⟩ = c :: r ∧ Tk.dg c = false := ⟨_, _, rfl, by decide⟩
theorem stageP_parts (e : Int) (n : Nat) (t : Tok) (r : List Tok) : stageP e n (t :: r) = bindP (bindP (bindP (kindP e 2 r) fun a => .ok ((a.1.text, n), a.2)) fun a => bindP (parsP e a.2) fun ps => .ok ((a.1, ps.1), ps.2)) fun a => bindP (blockP e (3 * a.2.length + 3) 0 n a.2) fun b => .ok (⟨a.1.1.1, t.at_, a.1.2, b.1⟩, b.2.1, b.2.2) := by
  have : stageP e n (t :: r) = bindP (nameP e r) fun a => bindP (wantP e [40] a.2) fun l => bindP (parsL e (l.length + 1) [] l) fun ps => bindP (blockP e (3 * ps.2.length + 3) 0 n ps.2) fun b => .ok (⟨a.1, t.at_, ps.1, b.1⟩, b.2.1, b.2.2) := rfl
  rw [this]
  simp only [nameP_kind, parsP, bindP_assoc, bindP_ok]
/-- the cells of a stage that is read -/
theorem sg4_one {nm : ByteArray} {at_ : Int} {vp vb : Value} (h1 : isSl vp) (h2 : isSl vb) : ∀ u ∈ [Value.string nm, .int .i64 at_, vp, vb], one u := sgC_one' h1 h2
/-- fuel for a block -/
def fuelB : Except (Int × Int) (Nat × List Tok) → Nat
  | .ok s => 3 * s.2.length + 3
  | .error _ => 0
section
variable {ω : Amb} {e : Int}
/-- a stage, laid into the block S: what is left in it -/
theorem stageR_law [Inhabited Nat] {h : Hp} {G n : Nat} {t : Tok} {r : List Tok} (hp : RO2 h G e (.ok (n, t :: r))) (hn : n ≤ 300) {K : Hp → Hp → Prop} {T : Prop} (hT : T) (X : List PanicEntry → Hp → Prop)
    (hK : ∀ (h' : Hp) (D : List Value), D.length = 4 → (∀ u ∈ D, one u) → h'[h.size]? = some (.cells D.toArray 51 (0, 0)) → KG G h h' → RO2 h' G e (bindP (stageP e n (t :: r)) fun q => .ok q.2) → (∀ q, stageP e n (t :: r) = .ok q → ∃ vp vb, D = sgC q.1 vp vb ∧ SlN h' (fun b => h.size < b ∧ b < h'.size) 2 vp q.1.ps.length (q.1.ps.flatMap pf) ∧ nilOr vp ∧ StSN h' (fun b => h.size < b ∧ b < h'.size) vb q.1.body) → K h h') :
    CallX Tryd.prog ω n_p_pipewrightref_reading_place [pp G] h (fun r51 h52 =>
      oneK r51 (T ∧ (∀ u ∈ [(.string ⟨#[]⟩), r51, (.slice none 0 0), (.slice none 0 0)], one u) ∧ storeK (Array.push h52 (.cells #[(.string ⟨#[]⟩), (.int .i64 0), (.slice none 0 0), (.slice none 0 0)] 51 (0, 0))) ⟨Array.size h52, 0, none⟩ [(.string ⟨#[]⟩), r51, (.slice none 0 0), (.slice none 0 0)] fun h53 =>
      ∃ v54, cellH h53 (Addr.add ⟨G, 0, none⟩ 1) = some v54 ∧ asK .i64 v54 fun n55 => storeK1 h53 (Addr.add ⟨G, 0, none⟩ 1) (.int .i64 (IntKind.wrap .i64 (n55 + 1))) fun h56 =>
      CallX Tryd.prog ω n_p_pipewrightref_reading_of [pp G, (.int .i64 2)] h56 (fun r57 h58 =>
      asA r57 fun A59 => asO A59[2]? fun v60 => oneK v60 (storeK1 h58 (Addr.add ⟨Array.size h52, 0, none⟩ 0) v60 fun h61 =>
      CallX Tryd.prog ω n_p_pipewrightref_reading_list [pp G, (.bool true)] h61 (fun r62 h63 =>
      asT r62 fun T64 => asO T64[0]? fun _ => asT r62 fun T66 => asO T66[1]? fun v67 => oneK v67 (storeK1 h63 (Addr.add ⟨Array.size h52, 0, none⟩ 2) v67 fun h68 =>
      CallX Tryd.prog ω n_p_pipewrightref_reading_block [pp G, (.int .i64 1)] h68 (fun r69 h70 =>
      oneK r69 (storeK1 h70 (Addr.add ⟨Array.size h52, 0, none⟩ 3) r69 fun h71 => K h52 h71)) X)) X)) X)) X := by
  have hlt := hp.lt
  have hpc := hp
  obtain ⟨p, hpg⟩ := hpc
  have hpg : RG h G e n p (t :: r) := hpg
  have hlen := hpg.len
  refine CallX.use (place_law hpg) ?_
  rintro _ _ ⟨rfl, rfl⟩
  rw [oneK_int]
  refine ⟨hT, sg4_one nilSl nilSl, storeK_local (cs := [Value.string ⟨#[]⟩, .int .i64 t.at_, .slice none 0 0, .slice none 0 0]) rfl ?_⟩
  have hb1 := hp_push_new (h := h) (o := .cells [Value.string ⟨#[]⟩, .int .i64 t.at_, .slice none 0 0, .slice none 0 0].toArray 51 (0, 0))
  have k1 := Keep.push (S := fun _ => False) h (.cells [Value.string ⟨#[]⟩, .int .i64 t.at_, .slice none 0 0, .slice none 0 0].toArray 51 (0, 0))
  have z1 : (h.push (.cells [Value.string ⟨#[]⟩, .int .i64 t.at_, .slice none 0 0, .slice none 0 0].toArray 51 (0, 0))).size = h.size + 1 := by simp
  generalize h.push (.cells [Value.string ⟨#[]⟩, .int .i64 t.at_, .slice none 0 0, .slice none 0 0].toArray 51 (0, 0)) = h1 at *
  refine rg_inc (hpg.keep k1 fun _ _ h => h) fun h2 hp2 k2 => ?_
  have hs2 := k2.size
  -- the name
  refine CallX.use (of2_law (st := .ok (n, r)) ⟨p, hp2⟩ 2) ?_
  rintro _ h3 ⟨⟨tk, rfl, htk⟩, hp3, k3⟩
  have hs3 := k3.size
  rw [asA_agg]
  show asO (some (Value.string tk.text)) _
  rw [asO_some, oneK_str, addr_add]
  refine storeK1_of (o := 0 + 0) (k3.get (k2.get hb1 (by omega)) (by omega)) (by simp) ?_
  rw [show ([Value.string ⟨#[]⟩, .int .i64 t.at_, .slice none 0 0, .slice none 0 0].toArray).setIfInBounds (0 + 0) (.string tk.text) = [Value.string tk.text, .int .i64 t.at_, .slice none 0 0, .slice none 0 0].toArray from by simp]
  have hb4 := hp_set_same (o := .cells [Value.string tk.text, .int .i64 t.at_, .slice none 0 0, .slice none 0 0].toArray 51 (0, 0)) (k3.get (k2.get hb1 (by omega)) (by omega))
  have k4 := Keep.set (S := fun b => b = h.size) (h := h3) (.cells [Value.string tk.text, .int .i64 t.at_, .slice none 0 0, .slice none 0 0].toArray 51 (0, 0)) (b := h.size) rfl
  have z4 : (h3.setIfInBounds h.size (.cells [Value.string tk.text, .int .i64 t.at_, .slice none 0 0, .slice none 0 0].toArray 51 (0, 0))).size = h3.size := by simp
  generalize h3.setIfInBounds h.size (.cells [Value.string tk.text, .int .i64 t.at_, .slice none 0 0, .slice none 0 0].toArray 51 (0, 0)) = h4 at *
  have k04 : KG G h h4 := kg_set (((kg_of k1).trans k2).trans k3) (Nat.le_refl _) k4
  -- the parameters
  refine CallX.use (listP_law (hp3.keep k4 fun b hb e => by omega)) ?_
  rintro _ h5 ⟨⟨vp, rfl, hvp⟩, hp5, k5⟩
  have hs5 := k5.size
  rw [asT_tup, show (#[.slice none 0 0, vp] : Array Value)[0]? = some (.slice none 0 0) from rfl, asO_some, asT_tup, show (#[.slice none 0 0, vp] : Array Value)[1]? = some vp from rfl, asO_some]
  have hvp1 : isSl vp := by
    cases hq : (bindP (bindP (.ok (n, r)) fun q => bindP (kindP e 2 q.2) fun r => .ok (q.1, r.2) : Except (Int × Int) (Nat × List Tok)) fun s => parsP e s.2 : Except (Int × Int) (List (ByteArray × ByteArray) × List Tok)) with
    | ok q =>
      rw [hq] at hvp
      exact nilOr_isSl hvp.2
    | error y =>
      rw [hq] at hvp
      exact hvp
  refine oneK_of hvp1.one ?_
  rw [addr_add]
  refine storeK1_of (o := 0 + 2) (k5.get hb4 (by omega)) (by simp) ?_
  rw [show ([Value.string tk.text, .int .i64 t.at_, .slice none 0 0, .slice none 0 0].toArray).setIfInBounds (0 + 2) vp = [Value.string tk.text, .int .i64 t.at_, vp, .slice none 0 0].toArray from by simp]
  have hb6 := hp_set_same (o := .cells [Value.string tk.text, .int .i64 t.at_, vp, .slice none 0 0].toArray 51 (0, 0)) (k5.get hb4 (by omega))
  have k6 := Keep.set (S := fun b => b = h.size) (h := h5) (.cells [Value.string tk.text, .int .i64 t.at_, vp, .slice none 0 0].toArray 51 (0, 0)) (b := h.size) rfl
  have z6 : (h5.setIfInBounds h.size (.cells [Value.string tk.text, .int .i64 t.at_, vp, .slice none 0 0].toArray 51 (0, 0))).size = h5.size := by simp
  generalize h5.setIfInBounds h.size (.cells [Value.string tk.text, .int .i64 t.at_, vp, .slice none 0 0].toArray 51 (0, 0)) = h6 at *
  have k06 : KG G h h6 := kg_set (k04.trans k5) (Nat.le_refl _) k6
  have hp6 := hp5.keep k6 fun b hb e => by omega
  -- what was read so far
  have hpre : (bindP (bindP (.ok (n, r)) fun q => bindP (kindP e 2 q.2) fun r => .ok (q.1, r.2) : Except (Int × Int) (Nat × List Tok)) fun s => bindP (parsP e s.2) fun q => .ok (s.1, q.2) : Except (Int × Int) (Nat × List Tok)) = bindP (bindP (bindP (kindP e 2 r) fun a => .ok ((a.1.text, n), a.2)) fun a => bindP (parsP e a.2) fun ps => .ok ((a.1, ps.1), ps.2)) fun a => .ok (n, a.2) := by
    rw [bindP_ok]
    simp only [bindP_assoc, bindP_ok]
  have hval : ∀ a, (bindP (bindP (kindP e 2 r) fun a => .ok ((a.1.text, n), a.2)) fun a => bindP (parsP e a.2) fun ps => .ok ((a.1, ps.1), ps.2) : Except (Int × Int) (((ByteArray × Nat) × List (ByteArray × ByteArray)) × List Tok)) = .ok a → a.1.1.1 = tk.text ∧ SlN h5 (Nw h4 h5) 2 vp a.1.2.length (a.1.2.flatMap pf) ∧ nilOr vp ∧ a.2.length < r.length := by
    intro a ha
    obtain ⟨b, hb, ha⟩ := bindP_okk ha
    obtain ⟨c, hc, hb⟩ := bindP_okk hb
    cases hb
    obtain ⟨d, hd, ha⟩ := bindP_okk ha
    cases ha
    have htk := htk c (by rw [bindP_ok]; exact hc)
    rw [bindP_ok] at hvp
    rw [show (bindP (bindP (kindP e 2 (n, r).2) fun r => .ok ((n, r).1, r.2) : Except (Int × Int) (Nat × List Tok)) fun s => parsP e s.2 : Except (Int × Int) (List (ByteArray × ByteArray) × List Tok)) = .ok d from by rw [show kindP e 2 (n, r).2 = .ok c from hc, bindP_ok, bindP_ok]; exact hd] at hvp
    refine ⟨by rw [htk], hvp.1, hvp.2, ?_⟩
    have h1 : nameP e r = .ok (c.1.text, c.2) := by rw [nameP_kind, hc, bindP_ok]
    have h2 := nameP_len h1
    unfold parsP at hd
    obtain ⟨l, hl, hd⟩ := bindP_okk hd
    have h3 := wantP_len hl
    have h4 := parsL_len hd
    simp only at h2 h3 h4 ⊢
    omega
  have hst := stageP_parts e n t r
  rw [hpre] at hp6
  generalize (bindP (bindP (kindP e 2 r) fun a => .ok ((a.1.text, n), a.2)) fun a => bindP (parsP e a.2) fun ps => .ok ((a.1, ps.1), ps.2) : Except (Int × Int) (((ByteArray × Nat) × List (ByteArray × ByteArray)) × List Tok)) = pre at *
  -- the block
  refine CallX.use (fun Y => (blocks_lawR ω e (fuelB (bindP pre fun a => .ok (n, a.2)))).1 _ (Nat.le_refl _) h6 G (bindP pre fun a => .ok (n, a.2)) 0 hp6 (by omega) (fun s hs => ?_) Y) ?_
  · rw [hs]
    obtain ⟨a, ha, hs⟩ := bindP_okk hs
    cases hs
    exact ⟨hn, by unfold fuelB; simp only; omega⟩
  rintro vb h7 ⟨hvb, hp7, k7⟩
  have hs7 := k7.size
  have hvb1 : isSl vb := by
    cases hq : (bindP (bindP pre fun a => .ok (n, a.2)) fun s => blockP e (fuelB (bindP pre fun a => .ok (n, a.2))) 0 s.1 s.2 : PR (List St)) with
    | ok q =>
      rw [hq] at hvb
      exact StSN.isSl hvb
    | error y =>
      rw [hq] at hvb
      exact hvb
  refine oneK_of hvb1.one ?_
  rw [addr_add]
  refine storeK1_of (o := 0 + 3) (k7.get hb6 (by omega)) (by simp) ?_
  rw [show ([Value.string tk.text, .int .i64 t.at_, vp, .slice none 0 0].toArray).setIfInBounds (0 + 3) vb = [Value.string tk.text, .int .i64 t.at_, vp, vb].toArray from by simp]
  have hb8 := hp_set_same (o := .cells [Value.string tk.text, .int .i64 t.at_, vp, vb].toArray 51 (0, 0)) (k7.get hb6 (by omega))
  have k8 := Keep.set (S := fun b => b = h.size) (h := h7) (.cells [Value.string tk.text, .int .i64 t.at_, vp, vb].toArray 51 (0, 0)) (b := h.size) rfl
  have z8 : (h7.setIfInBounds h.size (.cells [Value.string tk.text, .int .i64 t.at_, vp, vb].toArray 51 (0, 0))).size = h7.size := by simp
  have hstate : ∀ {h8 : Hp}, RO2 h8 G e (bindP (bindP pre fun a => .ok (n, a.2)) fun s => bindP (blockP e (fuelB (bindP pre fun a => .ok (n, a.2))) 0 s.1 s.2) fun q => .ok q.2) → RO2 h8 G e (bindP (stageP e n (t :: r)) fun q => .ok q.2) := by
    intro h8 h
    rw [hst]
    cases pre with
    | error y => exact h
    | ok a =>
      rw [bindP_ok, bindP_assoc]
      exact h
  refine hK _ [Value.string tk.text, .int .i64 t.at_, vp, vb] rfl (sg4_one hvp1 hvb1) hb8 (kg_set (k06.trans k7) (Nat.le_refl _) k8) (hstate (hp7.keep k8 fun b hb e => by omega)) ?_
  intro q hq
  rw [hst] at hq
  obtain ⟨a, ha, hq⟩ := bindP_okk hq
  obtain ⟨b, hb, hq⟩ := bindP_okk hq
  cases hq
  obtain ⟨e1, e2, e3, _⟩ := hval a ha
  rw [ha, bindP_ok, bindP_ok] at hvb
  have hvb : VB h6 h7 vb (blockP e (3 * a.2.length + 3) 0 n a.2) := hvb
  rw [hb] at hvb
  refine ⟨vp, vb, ?_, ?_, e3, ?_⟩
  · unfold sgC
    rw [e1]
  · have kk : Keep (fun b => b = G ∨ b = h.size) h5 (h7.setIfInBounds h.size (.cells [Value.string tk.text, .int .i64 t.at_, vp, vb].toArray 51 (0, 0))) := ((k6.mono fun _ _ h => .inr h).trans (k7.mono fun _ _ h => .inl h)).trans (k8.mono fun _ _ h => .inr h)
    exact (e2.keep kk fun b hb e => by have := hb.1; omega).mono fun b hb => ⟨by have := hb.1; omega, by have := hb.2; omega⟩
  · exact StSN.mv hvb k8 (fun b hb e => by have := hb.1; omega) fun b hb => ⟨by have := hb.1; omega, by have := hb.2; omega⟩
end
end Go.Proofs.YtaehnpilebkcoaaDoor

namespace Go.Proofs.YtaehnpilebkcoaaDoor
open Go Go.Sx Go.Sx.Tk Go.Sx.Rn Go.Proofs.YtaehnpilebkcoaaDoor.Sx

section
variable {ω : Amb}
set_option maxHeartbeats 2000000 in
set_option maxRecDepth 100000 in
theorem RParse_law (s : ByteArray) (h : Hp) (X : List PanicEntry → Hp → Prop) : CallX Tryd.prog ω n_pipewrightref_Parse [.string s] h (fun r h' => ∃ res, PsO s res ∧ PsR h' r res ∧ Keep (fun _ => False) h h') X := by
  refine C_pipewrightref_Parse ω _ h _ X ?_
  unfold W_pipewrightref_Parse
  have zA : (h.push (.cells #[(.slice none 0 0)] 24 (0, 0))).size = h.size + 1 := by simp
  have hA0 : (Array.push (Array.push h (.cells #[(.slice none 0 0)] 24 (0, 0))) (.cells #[(.int .i64 0), (.int .i64 0)] 28 (0, 0)))[h.size]? = some (.cells [.slice none 0 0].toArray 24 (0, 0)) :=
    (Keep.push (S := fun _ => False) _ _).get hp_push_new (by simp)
  have hB0 : (Array.push (Array.push h (.cells #[(.slice none 0 0)] 24 (0, 0))) (.cells #[(.int .i64 0), (.int .i64 0)] 28 (0, 0)))[h.size + 1]? = some (.cells (flt 0 0).toArray 28 (0, 0)) := by
    rw [← zA]
    exact hp_push_new
  have k0 : Keep (fun _ => False) h (Array.push (Array.push h (.cells #[(.slice none 0 0)] 24 (0, 0))) (.cells #[(.int .i64 0), (.int .i64 0)] 28 (0, 0))) := (Keep.push _ _).trans (Keep.push _ _)
  have z0 : (Array.push (Array.push h (.cells #[(.slice none 0 0)] 24 (0, 0))) (.cells #[(.int .i64 0), (.int .i64 0)] 28 (0, 0))).size = h.size + 2 := by simp
  simp only [zA]
  generalize Array.push (Array.push h (.cells #[(.slice none 0 0)] 24 (0, 0))) (.cells #[(.int .i64 0), (.int .i64 0)] 28 (0, 0)) = h0 at *
  refine CallX.use (Tkz.RScan_law s h0) ?_
  intro r h1 hso
  obtain ⟨ts, v, ec, ea, hr, k1, hout, hsl, hcap, hlow⟩ : ∃ ts v ec ea, r = .tuple #[v, .agg (flt ec ea).toArray] ∧ Keep (fun _ => False) h0 h1 ∧ Tkz.Out s ts ec ea ∧ SlAt h1 4 v ts.length (ts.flatMap Tok.f) ∧ (∀ a l c, v = .slice a l c → l ≤ c) ∧ ∀ k, v.ownBlock = some k → h0.size ≤ k ∧ k < h1.size := by
    cases hso with
    | big hb hr hk => exact ⟨[], _, 1, 12000, hr, hk, .inl ⟨hb, rfl, rfl, rfl⟩, ⟨rfl, .inl ⟨rfl, _, _, rfl⟩⟩, (fun _ _ _ e => by cases e; exact Nat.le_refl _), fun _ e => by cases e⟩
    | bad e a hb hs hr hk => exact ⟨[], _, e, a, hr, hk, .inr (.inr ⟨hb, hs, rfl⟩), ⟨rfl, .inl ⟨rfl, _, _, rfl⟩⟩, (fun _ _ _ e => by cases e; exact Nat.le_refl _), fun _ e => by cases e⟩
    | ok ts v hb hs hr ho hk =>
      refine ⟨ts, v, 0, 0, hr, hk, .inr (.inl ⟨hb, hs, rfl, rfl⟩), ho.slAt, ?_, fun k hk => ho.lt k hk⟩
      intro a l c e
      rcases ho.shape with ⟨rfl, _, _⟩ | ⟨g, o, cap, rfl, _, _, hle, _⟩
      · cases e
        exact Nat.le_refl _
      · cases e
        exact hle
  subst hr
  have htl := hout.len
  have hs1 := k1.size
  have hA1 := k1.get hA0 (by simp)
  have hB1 := k1.get hB0 (by simp)
  have k01 := k0.trans k1
  have hsl1 : isSl v := SlAt.isSl hsl
  rw [asT_tup, show (#[v, .agg (flt ec ea).toArray] : Array Value)[0]? = some v from rfl, asO_some, asT_tup, show (#[v, .agg (flt ec ea).toArray] : Array Value)[1]? = some (.agg (flt ec ea).toArray) from rfl, asO_some, asA_agg]
  refine ⟨rfl, flt_one ec ea, storeK_local (cs := flt ec ea) rfl ?_⟩
  have hf2 := hp_push_new (h := h1) (o := .cells (flt ec ea).toArray 28 (0, 0))
  have k2 := Keep.push (S := fun _ => False) h1 (.cells (flt ec ea).toArray 28 (0, 0))
  have z2 : (h1.push (.cells (flt ec ea).toArray 28 (0, 0))).size = h1.size + 1 := by simp
  generalize h1.push (.cells (flt ec ea).toArray 28 (0, 0)) = h2 at *
  have hA2 := k2.get hA1 (by simp)
  have hB2 := k2.get hB1 (by simp)
  have k02 := k01.trans k2
  -- the results are laid and handed back
  have fin : ∀ {hh : Hp} {w : Value} {c a : Int} {res : Except (Int × Int) (List Sg)}, PsO s res → hh[h.size]? = some (.cells [.slice none 0 0].toArray 24 (0, 0)) → hh[h.size + 1]? = some (.cells (flt 0 0).toArray 28 (0, 0)) → Keep (fun _ => False) h hh → (∀ h', Keep (fun b => b = h.size ∨ b = h.size + 1) hh h' → PsR h' (.tuple #[.agg #[w], .agg (flt c a).toArray]) res) →
      ∀ {K : Hp → Prop}, (∀ h3, Keep (fun b => b = h.size) hh h3 → (storeK h3 ⟨h.size + 1, 0, none⟩ (flt c a) fun h4 => ∃ C13, cellsH h4 ⟨h.size, 0, none⟩ 1 C13 ∧ ∃ C14, cellsH h4 ⟨h.size + 1, 0, none⟩ 2 C14 ∧ ∃ res, PsO s res ∧ PsR h4 (.tuple #[.agg C13.toArray, .agg C14.toArray]) res ∧ Keep (fun _ => False) h h4) → K h3) → storeK hh ⟨h.size, 0, none⟩ [w] K := by
    intro hh w c a res hps hA hB kk hR K hK
    refine storeK_of (o := 0) hA (by simp) ?_
    rw [spl_all (by simp)]
    have hA3 := hp_set_same (o := .cells [w].toArray 24 (0, 0)) hA
    have k3 := Keep.set (S := fun b => b = h.size) (h := hh) (.cells [w].toArray 24 (0, 0)) (b := h.size) rfl
    have z3 : (hh.setIfInBounds h.size (.cells [w].toArray 24 (0, 0))).size = hh.size := by simp
    generalize hh.setIfInBounds h.size (.cells [w].toArray 24 (0, 0)) = h3 at *
    refine hK h3 k3 ?_
    have hB3 := k3.get hB (by omega)
    refine storeK_of (o := 0) hB3 (by simp [flt]) ?_
    rw [spl_all (by simp [flt])]
    have hB4 := hp_set_same (o := .cells (flt c a).toArray 28 (0, 0)) hB3
    have k4 := Keep.set (S := fun b => b = h.size + 1) (h := h3) (.cells (flt c a).toArray 28 (0, 0)) (b := h.size + 1) rfl
    have k24 : Keep (fun b => b = h.size ∨ b = h.size + 1) hh _ := (k3.mono fun _ _ h => .inl h).trans (k4.mono fun _ _ h => .inr h)
    exact ⟨_, cellsH_blk (k4.get hA3 (by omega)) rfl, _, cellsH_blk hB4 rfl, res, hps, hR _ k24, kk.newer (k24.mono fun b _ hb => .inr (by omega))⟩
  refine lx hf2 (j := 0) (u := .int .i64 ec) rfl ?_
  rw [asK_int]
  refine cond_c (fun hc => ?_) (fun hc => ?_)
  · have hc : ec ≠ 0 := by simpa using hc
    refine ⟨_, cellsH_blk hf2 rfl, trivial, (fun u hu => by rw [List.mem_singleton.1 hu]; rfl), ?_⟩
    refine fin (w := .slice none 0 0) (c := ec) (a := ea) (res := .error (ec, ea)) ⟨ts, ec, ea, hout, by rw [if_neg hc]⟩ hA2 hB2 k02 (fun h' _ => rfl) fun h3 k3 hs => ?_
    exact ⟨cellsH_blk (k3.get hf2 (by omega)) rfl, rfl, flt_one ec ea, hs⟩
  have hec : ec = 0 := by simpa using hc
  have hO : ∀ res, parseT (s.size : Int) ts = res → PsO s res := fun res hr => ⟨ts, ec, ea, hout, by rw [if_pos hec, hr]⟩
  have htok : ∀ t ∈ ts, TkOk t := by
    rcases hout with ⟨_, rfl, _, _⟩ | ⟨_, hsc, _, _⟩ | ⟨_, _, rfl⟩
    · intro t ht
      cases ht
    · exact sc_ok hsc ts rfl
    · intro t ht
      cases ht
  rw [asS_str]
  refine oneK_of hsl1.one ?_
  -- the reading and the local program
  have hG0 : (h2.push (.cells #[v, (.int .i64 0), (.int .i64 (s.size : Int)), (.int .i64 0), (.int .i64 0), (.int .i64 0), (.int .i64 0)] 75 (0, 0)))[h2.size]? = some (.cells (rds v ((0 : Nat) : Int) (s.size : Int) 0 0 ((0 : Nat) : Int) ((0 : Nat) : Int)).toArray 75 (0, 0)) := hp_push_new
  have k3 := Keep.push (S := fun _ => False) h2 (.cells #[v, (.int .i64 0), (.int .i64 (s.size : Int)), (.int .i64 0), (.int .i64 0), (.int .i64 0), (.int .i64 0)] 75 (0, 0))
  have z3 : (h2.push (.cells #[v, (.int .i64 0), (.int .i64 (s.size : Int)), (.int .i64 0), (.int .i64 0), (.int .i64 0), (.int .i64 0)] 75 (0, 0))).size = h2.size + 1 := by simp
  generalize h2.push (.cells #[v, (.int .i64 0), (.int .i64 (s.size : Int)), (.int .i64 0), (.int .i64 0), (.int .i64 0), (.int .i64 0)] 75 (0, 0)) = h3 at *
  have hO0 : (h3.push (.cells #[(.slice none 0 0)] 24 (0, 0)))[h3.size]? = some (.cells [.slice none 0 0].toArray 24 (0, 0)) := hp_push_new
  have k4 := Keep.push (S := fun _ => False) h3 (.cells #[(.slice none 0 0)] 24 (0, 0))
  have z4 : (h3.push (.cells #[(.slice none 0 0)] 24 (0, 0))).size = h3.size + 1 := by simp
  generalize h3.push (.cells #[(.slice none 0 0)] 24 (0, 0)) = h4 at *
  have k24 := k3.trans k4
  have hG4 := k4.get hG0 (by simp)
  have k04 := k02.trans k24
  have hsl4 : SlAt h4 4 v ts.length (ts.flatMap Tok.f) := (hsl.keep k2).keep k24
  letI hN : Inhabited Nat := ⟨ts.length⟩
  have hp4 : RO2 h4 h2.size (s.size : Int) (.ok (0, ts)) := ⟨0, ⟨v, ts, 0, 0, hG4, ⟨⟨hsl4, hcap, fun k hk => by have := (hlow k hk).2; omega⟩, Nat.zero_le _, htok, htl, rfl⟩, rfl⟩⟩
  have hA4 := k24.get hA2 (by simp)
  have hB4 := k24.get hB2 (by simp)
  clear hG0 hG4 hA0 hB0 hA1 hB1 hf2 hA2 hB2
  have hGe : h2.size = h1.size + 1 := z2
  generalize hGd : h2.size = G at *
  -- the loop's state
  have hbase : h4.size = G + 2 := by omega
  have hvl : ∀ {hh : Hp} {x : Except (Int × Int) (Nat × List Tok)}, KGB G h3.size h4 hh → SlAt hh 4 v ts.length (ts.flatMap Tok.f) := fun kk => SlAt.keepS hsl4 kk fun k hk e => by have := (hlow k hk).2; omega
  refine ⟨fun h' => KGB G h3.size h4 h' ∧ ((∃ acc us vp, parseT (s.size : Int) ts = .ok acc ∧ acc.length ≤ 10 ∧ h'[h3.size]? = some (.cells [vp].toArray 24 (0, 0)) ∧ OwnH h' h4.size 51 4 vp acc.length us ∧ sgsAtN h' (fun b => Nw h4 h' b ∧ vp.ownBlock ≠ some b) acc us ∧ ∃ st, RO2 h' G (s.size : Int) (.ok st)) ∨ ∃ y vp, parseT (s.size : Int) ts = .error y ∧ h'[h3.size]? = some (.cells [vp].toArray 24 (0, 0)) ∧ RO2 h' G (s.size : Int) (.error y)), ?_, ?_⟩
  rotate_left
  · -- behind the loop
    rintro _ h5 ⟨k5, hor⟩
    have hA5 := k5.get hA4 (by omega)
    have hB5 := k5.get hB4 (by omega)
    have k05 : Keep (fun _ => False) h h5 := k04.newer (k5.mono fun b _ hb => .inr (by omega))
    rcases hor with ⟨acc, us, vp, hpt, hacc, hO5, ho, hat, st, hro⟩ | ⟨y, vp, hpt, hO5, hro⟩
    · refine CallX.use (bad2_law hro) ?_
      rintro _ _ ⟨rfl, rfl⟩
      rw [asB_bool]
      refine cond_f rfl ?_
      refine ⟨_, cellsH_blk hO5 rfl, rfl, ?_, ?_⟩
      · intro u hu
        rw [List.mem_singleton.1 (show u ∈ [vp] from hu)]
        exact (SlAt.isSl ho.slAt).one
      refine fin (w := vp) (c := 0) (a := 0) (res := .ok acc) (hO _ hpt) hA5 hB5 k05 (fun h' k => ?_) fun h3 _ hs => ⟨by trivial, flt_one 0 0, hs⟩
      refine ⟨_, rfl, vp, rfl, us, ?_, ?_⟩
      · exact ((SlN.own ho (by omega)).keep k fun b hb e => by have := hb.1; omega).1
      · exact sgsAtN.at acc (sgsAtN_map (N' := fun _ => True) (fun sz v n us hs => (hs.keep k fun b hb e => by have := hb.1.1; omega).mono fun _ _ => trivial) acc hat)
    · refine CallX.use (bad2_law hro) ?_
      rintro _ _ ⟨rfl, rfl⟩
      rw [asB_bool]
      refine cond_t rfl ?_
      have hro : RB h5 G (s.size : Int) y := hro
      obtain ⟨vl, all, at_, n, p, hb, _⟩ := hro.ex
      have hcell : ∀ {hh : Hp}, hh[G]? = some (.cells (rds vl ((at_ : Nat) : Int) (s.size : Int) y.1 y.2 n p).toArray 75 (0, 0)) → cellsH hh (Addr.add ⟨G, 0, none⟩ 3) 2 (flt y.1 y.2) := by
        intro hh hb
        refine ⟨rfl, fun j u hu => ?_⟩
        rw [addr_add, addr_add, cellH_block hb]
        match j, hu with
        | 0, hu => simpa [rds, flt] using hu
        | 1, hu => simpa [rds, flt] using hu
        | j + 2, hu => simp [flt] at hu
      refine ⟨flt y.1 y.2, hcell hb, by trivial, (fun u hu => by rw [List.mem_singleton.1 hu]; rfl), ?_⟩
      refine fin (w := .slice none 0 0) (c := y.1) (a := y.2) (res := .error y) (hO _ hpt) hA5 hB5 k05 (fun h' _ => rfl) fun h3 k3 hs => ⟨hcell (k3.get hb (by omega)), rfl, flt_one _ _, hs⟩
  refine ⟨fun h' => KGB G h3.size h4 h' ∧ ((∃ f acc us vp n ts', parseT (s.size : Int) ts = stagesL (s.size : Int) f acc n ts' ∧ ts'.length + 2 ≤ f ∧ n ≤ 300 ∧ acc.length ≤ 10 ∧ h'[h3.size]? = some (.cells [vp].toArray 24 (0, 0)) ∧ OwnH h' h4.size 51 4 vp acc.length us ∧ sgsAtN h' (fun b => Nw h4 h' b ∧ vp.ownBlock ≠ some b) acc us ∧ RO2 h' G (s.size : Int) (.ok (n, ts'))) ∨ ∃ y vp, parseT (s.size : Int) ts = .error y ∧ h'[h3.size]? = some (.cells [vp].toArray 24 (0, 0)) ∧ RO2 h' G (s.size : Int) (.error y)), rkN G,
    ⟨Keep.refl _ _, .inl ⟨ts.length + 2, [], [], .slice none 0 0, 0, ts, rfl, Nat.le_refl _, by omega, by simp, hO0, OwnH.nil, sgsAtN_nil, hp4⟩⟩, ?_⟩
  rintro _ h5 ⟨k5, hor⟩
  have hs5 := k5.size
  rcases hor with ⟨f, acc, us, vp, n, ts', heq, hf, hn, hacc, hO5, ho, hat, hp5⟩ | ⟨y, vp, hpt, hO5, hro⟩
  rotate_left
  · refine ⟨fun v h' => v = .bool false ∧ h5 = h', ?_, ?_⟩
    · refine CallX.use (bad2_law hro) ?_
      rintro _ _ ⟨rfl, rfl⟩
      rw [asB_bool]
      exact cond_f rfl ⟨rfl, rfl⟩
    rintro _ _ _ ⟨rfl, rfl⟩
    rw [asB_bool]
    exact cond_f rfl ⟨k5, .inr ⟨y, vp, hpt, hO5, hro⟩⟩
  obtain ⟨f, rfl⟩ : ∃ q, f = q + 1 := ⟨f - 1, by omega⟩
  rw [stagesL_eq] at heq
  have hlt5 := ho.lt
  have hform : ∃ a c, vp = .slice a acc.length c := by
    rcases ho.2 with ⟨rfl, h0⟩ | ⟨g, o, cap, cur, rfl, _⟩
    · exact ⟨none, 0, by rw [h0]⟩
    · exact ⟨_, _, rfl⟩
  have hslp : ∀ {F : Option Addr → Nat → Nat → Prop}, (∀ a c, F a acc.length c) → asSl vp F := fun hF => by
    obtain ⟨a, c, rfl⟩ := hform
    rw [asSl_sl]
    exact hF _ _
  have hp5c := hp5
  obtain ⟨pp5, hpg⟩ := hp5c
  have hpg : RG h5 G (s.size : Int) n pp5 ts' := hpg
  refine ⟨fun v h' => v = .bool (!decide (ts'.length = 0 ∧ acc.length ≠ 0)) ∧ h5 = h', ?_, ?_⟩
  · refine CallX.use (bad2_law hp5) ?_
    rintro _ _ ⟨rfl, rfl⟩
    rw [asB_bool]
    refine cond_t rfl ?_
    obtain ⟨vl, all, at_, a, hb, ht, hd⟩ := hpg.ex
    refine lx hb (j := 1) rfl ?_
    -- the row of all tokens is the one that Scan gave
    have hall : at_ < ts.length ↔ ts' ≠ [] := by
      have hl : all.length = ts.length := ht.all_
      rw [← hd, ← hl]
      have := ht.le
      rw [ne_eq, List.drop_eq_nil_iff]
      omega
    refine SlAt.sl (hvl (x := .ok (n, ts')) k5) fun _ _ => ?_
    rw [asK_int]
    refine cond_c (fun h0 => ?_) (fun h0 => ?_)
    · have h0 := of_decide_eq_true h0
      have hne := hall.1 (by omega)
      refine ⟨?_, rfl⟩
      have : ts'.length ≠ 0 := fun hh => hne (List.eq_nil_of_length_eq_zero hh)
      rw [decide_eq_false (by omega)]
      rfl
    · have h0 := of_decide_eq_false h0
      have hnil : ts'.length = 0 := by
        cases ts' with
        | nil => rfl
        | cons x r => exact absurd (hall.2 (by simp)) (by omega)
      refine lx hO5 (j := 0) rfl ?_
      refine hslp fun _ _ => ⟨?_, rfl⟩
      rw [Value.bool.injEq, Bool.eq_iff_iff]
      simp [hnil]
  rintro _ _ _ ⟨rfl, rfl⟩
  rw [asB_bool]
  refine cond_c (fun hb => ?_) (fun hb => ?_)
  rotate_left
  · have hb : ts'.length = 0 ∧ acc.length ≠ 0 := by simpa using hb
    rw [if_pos hb] at heq
    exact ⟨k5, .inl ⟨acc, us, vp, heq, hacc, hO5, ho, hat, _, hp5⟩⟩
  have hnot : ¬ (ts'.length = 0 ∧ acc.length ≠ 0) := fun hh => by rw [decide_eq_true hh] at hb; cases hb
  rw [if_neg hnot] at heq
  refine CallX.use (sees_law hpg ⟨#[115, 116, 97, 103, 101]⟩ dstage) ?_
  rintro _ _ ⟨rfl, rfl⟩
  rw [asB_bool, show bytesOf ⟨#[115, 116, 97, 103, 101]⟩ = [115, 116, 97, 103, 101] from rfl]
  refine cond_c (fun hT => ?_) (fun hT => ?_)
  · have hT : isT [115, 116, 97, 103, 101] ts' = false := by simpa using hT
    rw [hT, if_neg Bool.false_ne_true] at heq
    refine CallX.use (wrong2_law hp5 5 (by decide)) ?_
    rintro _ h6 ⟨hb6, k6⟩
    exact ⟨k5.trans (kgb_of k6), .inr ⟨_, vp, heq, k6.get hO5 (by omega), hb6⟩⟩
  have hT : isT [115, 116, 97, 103, 101] ts' = true := by simpa using hT
  rw [if_pos hT] at heq
  obtain ⟨x0, r0, rfl⟩ := isT_cons hT
  refine lx hO5 (j := 0) rfl ?_
  refine hslp fun _ _ => ?_
  refine cond_c (fun h10 => ?_) (fun h10 => ?_)
  · have h10 : acc.length = 10 := by have := of_decide_eq_true h10; omega
    rw [if_pos h10] at heq
    refine CallX.use (wrong2_law hp5 8 (by decide)) ?_
    rintro _ h6 ⟨hb6, k6⟩
    exact ⟨k5.trans (kgb_of k6), .inr ⟨_, vp, heq, k6.get hO5 (by omega), hb6⟩⟩
  have h10 : acc.length ≠ 10 := by have := of_decide_eq_false h10; omega
  rw [if_neg h10] at heq
  refine stageR_law hp5 hn (by trivial) X fun h6 D hD hDo hb6 k6 hro6 hdet => ?_
  have hs6 := k6.size
  have hO6 := k6.get hO5 (by omega)
  refine lx hO6 (j := 0) rfl ?_
  refine ⟨D, cellsH_blk hb6 hD, by simpa using hD, ?_⟩
  rw [show (D.toArray.toList ++ []) = D from by simp]
  have ho6 : OwnH h6 h4.size 51 4 vp acc.length us := ho.keep fun b hb hbl => k6.block b hbl fun e => by have := hlt5 b hb; omega
  refine appK_one (bt := 72) (cs := D) (by kernel_rfl) ho6 hD hDo (by omega) (by omega) (by omega) fun w2 h9 ho2 hgr _ hv => ?_
  have hg9 := hgr.size
  have k69 : Keep (fun b => some b = vp.ownBlock) h6 h9 := Keep.grown hgr fun b hb _ => hb.symm
  have hO9 := k69.get hO6 (fun e => by have := hlt5 _ e.symm; omega)
  have hw2 : isSl w2 := SlAt.isSl ho2.slAt
  refine oneK_of hw2.one ?_
  rw [addr_add]
  refine storeK1_of (o := 0 + 0) hO9 (by simp) ?_
  rw [show ([vp].toArray).setIfInBounds (0 + 0) w2 = [w2].toArray from by simp]
  have hO10 := hp_set_same (o := .cells [w2].toArray 24 (0, 0)) hO9
  have k10 := Keep.set (S := fun b => b = h3.size) (h := h9) (.cells [w2].toArray 24 (0, 0)) (b := h3.size) rfl
  have z10 : (h9.setIfInBounds h3.size (.cells [w2].toArray 24 (0, 0))).size = h9.size := by simp
  generalize h9.setIfInBounds h3.size (.cells [w2].toArray 24 (0, 0)) = h10 at *
  have hlt2 := ho2.lt
  have k610 : Keep (fun b => some b = vp.ownBlock ∨ b = h3.size) h6 h10 := (k69.mono fun _ _ h => .inl h).trans (k10.mono fun _ _ h => .inr h)
  have k410 : KGB G h3.size h4 h10 := ((k5.trans (kgb_of k6)).newer (k69.mono fun b hb e => .inr (by have := hlt5 b e.symm; omega))).trans (k10.mono fun _ _ h => .inr h)
  have hro10 : RO2 h10 G (s.size : Int) (bindP (stageP (s.size : Int) n (x0 :: r0)) fun q => .ok q.2) := hro6.keep k610 fun b hb e => by
    rcases e with e | e
    · have := hlt5 b e.symm
      omega
    · omega
  have hrk : rkN G h5 = (x0 :: r0).length + 1 := hpg.rkN
  cases hq : stageP (s.size : Int) n (x0 :: r0) with
  | error y =>
    rw [hq] at hro10 heq
    have hro10 : RB h10 G (s.size : Int) y := hro10
    refine ⟨⟨k410, .inr ⟨y, w2, heq, hO10, hro10⟩⟩, ?_⟩
    show rkN G h10 < rkN G h5
    rw [hro10.rkN, hrk]
    omega
  | ok q =>
    obtain ⟨sg, m, ts5⟩ := q
    obtain ⟨l5, m5⟩ := stage_len hn hq
    simp only at l5 m5
    rw [hq] at hro10 heq
    have hro10 : RO2 h10 G (s.size : Int) (.ok (m, ts5)) := hro10
    have hroc := hro10
    obtain ⟨pp, hpg10⟩ := hroc
    obtain ⟨vp2, vb2, rfl, hps, hnil, hbd⟩ := hdet _ hq
    simp only [List.length_cons] at hf l5
    have k510 : Keep (fun b => b = G ∨ some b = vp.ownBlock ∨ b = h3.size) h5 h10 := (k6.mono fun _ _ h => .inl h).trans (k610.mono fun _ _ h => .inr h)
    have hmv : ∀ sz v n us, SlN h6 (fun b => h5.size < b ∧ b < h6.size) sz v n us → SlN h10 (fun b => Nw h4 h10 b ∧ w2.ownBlock ≠ some b) sz v n us := by
      intro sz v n us hs
      refine (hs.keep k610 fun b hb e => ?_).mono fun b hb => ⟨⟨by have := hb.1; omega, by have := hb.2; omega⟩, push_own hv (by have := hb.2; omega) fun e => ?_⟩
      · rcases e with e | e
        · have := hlt5 b e.symm
          have := hb.1
          omega
        · have := hb.1
          omega
      · have := hlt5 b e
        have := hb.1
        omega
    refine ⟨⟨k410, .inl ⟨f, acc ++ [sg], us ++ sgC sg vp2 vb2, w2, m, ts5, heq, by omega, m5, by simp; omega, hO10, ?_, ?_, hro10⟩⟩, ?_⟩
    · rw [List.length_append]
      exact ho2.keep fun b hb hbl => k10.block b hbl fun e => by have := hlt2 b hb; omega
    · refine sgsAtN_snoc (sgsAtN_map (fun sz v n us hs => (hs.keep k510 fun b hb e => ?_).mono fun b hb => ⟨⟨hb.1.1, by have := hb.1.2; omega⟩, push_own hv (by have := hb.1.2; omega) hb.2⟩) _ hat) ho.1 ?_ rfl
      · have := hb.1.1
        rcases e with e | e | e
        · omega
        · exact hb.2 e.symm
        · omega
      exact ⟨vp2, vb2, rfl, hmv _ _ _ _ hps, hnil, hbd.map hmv⟩
    · show rkN G h10 < rkN G h5
      rw [show rkN G h10 = ts5.length + 1 from hpg10.rkN, hrk]
      simp only [List.length_cons]
      omega
end
end Go.Proofs.YtaehnpilebkcoaaDoor

namespace Go.Proofs.YtaehnpilebkcoaaDoor
open Go Go.Sx Go.Sx.Tk Go.Sx.Rn Go.Proofs.YtaehnpilebkcoaaDoor.Sx

section
variable {ω : Amb}
theorem sgS_nil {h : Hp} : SgS h (.slice none 0 0) [] := ⟨[], ⟨⟨rfl, .inl ⟨rfl, _, _, rfl⟩⟩, by decide⟩, by unfold sgsAt; rfl⟩
/-- the program of a result; none: the empty one -/
def resP : Except (Int × Int) (List Sg) → List Sg
  | .ok p => p
  | .error _ => []
theorem PrG.pg {h : Hp} {v : Value} {c a : Int} {s : ByteArray} {res : Except (Int × Int) (List Sg)} (hps : PsO s res) (hp : PrG h v c a res) : SgS h v (resP res) ∧ (resP res).length ≤ 10 ∧ (∀ x ∈ resP res, x.ps.length ≤ 6) ∧ pgQ (resP res) ≤ 300 := by
  cases res with
  | error x =>
    obtain ⟨_, _, rfl⟩ := hp
    exact ⟨sgS_nil, by simp [resP], fun x hx => absurd hx List.not_mem_nil, by show pgQ [] ≤ 300; decide⟩
  | ok p =>
    obtain ⟨-, ts, -, hpt, -⟩ := hps.okk
    obtain ⟨_, m, _, _, h3, h4, _, h5⟩ := parse_pre (e' := 0) (y := []) hpt
    exact ⟨hp.2.2, h5, (parse_N hpt).2, by show pgQ p ≤ 300; omega⟩
set_option maxRecDepth 100000 in
theorem SyntaxParses_lawX (s : ByteArray) (h : Hp) (X : List PanicEntry → Hp → Prop) :
    CallX Tryd.prog ω n_pipewrightlaw_SyntaxParses [.string s] h (fun r h' => r = .bool true ∧ Keep (fun _ => False) h h') X := by
  refine C_pipewrightlaw_SyntaxParses ω _ h _ X ?_
  unfold W_pipewrightlaw_SyntaxParses
  refine CallX.use (begun_law h) ?_
  rintro _ h1 ⟨rfl, k1⟩
  rw [asB_bool]
  refine cond_f rfl ?_
  rw [asS_str]
  refine cond_c (fun _ => ⟨rfl, k1⟩) (fun _ => ?_)
  refine CallX.use (Parse_law s h1) ?_
  rintro r h2 ⟨res, hps, hr, k2⟩
  refine two_res hr fun h3 v c a k3 z3 hA hB hg => ?_
  refine CallX.use (RParse_law s h3) ?_
  rintro r2 h4 ⟨res2, hps2, hr2, k4⟩
  obtain rfl := hps.same hps2
  refine two_res hr2 fun h5 v2 c2 a2 k5 z5 hA2 hB2 hg2 => ?_
  simp only [Array.size_push]
  have k35 := k4.trans k5
  have hg := hg.keep k35
  have hA := k35.get hA (by simp)
  have hB := k35.get hB (by simp)
  have k05 := ((k1.trans k2).trans k3).trans k35
  obtain ⟨hs1, hl, hpl, hq⟩ := hg.pg hps
  obtain ⟨hs2, _⟩ := hg2.pg hps
  have hca : c = c2 ∧ a = a2 := by
    cases res with
    | ok p => exact ⟨hg.1.trans hg2.1.symm, hg.2.1.trans hg2.2.1.symm⟩
    | error x => exact ⟨hg.1.trans hg2.1.symm, hg.2.1.trans hg2.2.1.symm⟩
  obtain ⟨rfl, rfl⟩ := hca
  generalize resP res = p at *
  refine ⟨fun t h' => t = .bool true ∧ Keep (fun _ => False) h h', ?_, fun _ _ _ hj => hj⟩
  refine ⟨flt c a, cellsH_blk hB rfl, flt c a, cellsH_blk hB2 rfl, ?_⟩
  show asK .i64 (.int .i64 c) fun n32 => asK .i64 (.int .i64 c) fun n33 => asK .i64 (.int .i64 a) fun n36 => asK .i64 (.int .i64 a) fun n37 => cond ((n32 == (n33 : Int)) && ((n36 == (n37 : Int)) && true)) _ _
  simp only [asK_int, beq_self_eq_true, Bool.and_true, cond_true]
  refine ⟨_, cellsH_blk hA rfl, _, cellsH_blk hA2 rfl, ?_⟩
  refine CallX.use (SameP_law true p p (by omega) (fun x hx => by have := hpl x hx; omega) h5 _ _ ⟨v, rfl, hs1⟩ ⟨v2, rfl, hs2⟩) ?_
  rintro _ h6 ⟨⟨b, rfl, hb⟩, k6⟩
  rw [asB_bool]
  refine cond_t (hb.2 rfl) ?_
  refine ⟨_, cellsH_blk (k6.get hA (by simp)) rfl, _, cellsH_blk (k6.get hA2 (by simp)) rfl, ?_⟩
  refine CallX.use (Count_law p (by omega) (by omega) _ h6 ⟨v, rfl, hs1.keep k6⟩) ?_
  rintro _ h7 ⟨rfl, k7⟩
  refine ⟨cellsH_blk (k7.get (k6.get hA2 (by simp)) (by simp)) rfl, ?_⟩
  refine CallX.use (RCount_law p (by omega) (by omega) _ h7 ⟨v2, rfl, (hs2.keep k6).keep k7⟩) ?_
  rintro _ h8 ⟨rfl, k8⟩
  rw [asK_int, asK_int]
  exact ⟨by rw [beq_self_eq_true], ((k05.trans k6).trans k7).trans k8⟩
end
end Go.Proofs.YtaehnpilebkcoaaDoor
