/- TextTells: the statement. For every text, every fault and every list of faults: the law returns true; the conditions are that the library's tables hold what Go lays (tied to the text). -/
import Derived.Test.YtfpedcmempljlaaDoorSxRow
import Derived.Test.YtfpedcmempljlaaDoorO11
import Derived.Test.YtfpedcmempljlaaDoorRows
import Derived.Test.YtfpedcmempljlaaDoorCards
import Derived.Test.YtfpedcmempljlaaDoorTie
import Derived.ShutString
import Derived.ChangeOld
import Derived.ProofKit
import Derived.LaidMore
import Derived.Lib.LaidTab
import Derived.Stop.Joined
import Derived.SevenTiedAt
namespace Go.Proofs.YtfpedcmempljlaaDoor.textTells
open Go.ChangeShapes Go.WideShapes Go.ChangeAt Go.RowKit Go.Sx
open Go.ChangeMaps (open_string shut_string)
open Go.Sx.Or

section
variable {H : Type} {enc : TypeId × Value → H} {P : Program} {w : World} {base : Nat} {spare : Nat → Bool} {held : Bool} {fuel : Nat} {t : TypeId} {cs : List Value} {x : DataW H × List MemPlace}
theorem st_field {fs : Array Field} (ht : P.underlying t = some (.struct fs)) (h : DataW.trod enc P w base spare held fuel t cs = some x) {i : Nat} {f : Field} (hf : fs[i]? = some f) :
    ∃ y n, DataW.trod enc P w base spare held n f.type ((cs.drop f.offset).take (P.cellsOf f.type)) = some y := by
  obtain ⟨xs, n, _, _, _, hl, hg⟩ := DataW.trod_struct ht h
  have := hg i f hf
  have hi : i < xs.length := by rw [hl]; exact (Array.getElem?_eq_some_iff.1 hf).1
  rw [List.getElem?_eq_getElem hi] at this
  exact ⟨_, n, this⟩
theorem pick1 {o : Nat} {v : Value} (h : (cs.drop o).take 1 = [v]) : cs[o]? = some v := by
  have := congrArg (fun l => l[0]?) h
  simpa [List.getElem?_take, List.getElem?_drop] using this
end
def intAt (cs : List Value) (i : Nat) : Int := match cs[i]? with | some (.int _ n) => n | _ => 0
set_option maxRecDepth 100000 in
theorem faults_open {H : Type} {enc : TypeId × Value → H} {w : World} {base : Nat} {spare : Nat → Bool} {held : Bool} {fuel : Nat} {x : DataW H × List MemPlace} {a : Option Addr} {len cap : Nat}
    (h : DataW.trod enc Tryd.prog w base spare held fuel 22 (Value.slice a len cap).cells.toList = some x) : ∃ L : List Ft, FIn w.heap (.slice a len cap) L := by
  obtain ⟨us, _, h2, h3⟩ := sl_open (size := 2) Tryd.underlying22 (by kernel_rfl) (by decide) h
  have hl := h2.1
  have hE : ((List.range len).map fun i => (intAt us (i * 2 + 0), intAt us (i * 2 + 1))).length = len := by simp
  have heq : us = ((List.range len).map fun i => (intAt us (i * 2 + 0), intAt us (i * 2 + 1))).flatMap fl := by
    refine List.ext_getElem? fun j => ?_
    by_cases hj : j < len * 2
    · obtain ⟨y, n, h4⟩ := h3 (j / 2) (by omega)
      obtain ⟨y0, n0, h5⟩ := st_field Tryd.underlying26 h4 (i := 0) rfl
      obtain ⟨y1, n1, h6⟩ := st_field Tryd.underlying26 h4 (i := 1) rfl
      obtain ⟨k0, hk0, _⟩ := DataW.trod_int Tryd.underlying3 h5
      obtain ⟨k1, hk1, _⟩ := DataW.trod_int Tryd.underlying3 h6
      have e0 := pick1 (o := 0) hk0
      have e1 := pick1 (o := 1) hk1
      rw [List.getElem?_take, if_pos (by decide), List.getElem?_drop] at e0 e1
      have hx : ((List.range len).map fun i => (intAt us (i * 2 + 0), intAt us (i * 2 + 1)))[j / 2]? = some (k0, k1) := by
        rw [List.getElem?_map, List.getElem?_range (by omega)]
        simp only [Option.map_some, intAt, e0, e1]
      have hf := flat_get fl_len hx (Nat.mod_lt j (by decide : 0 < 2))
      rw [show j / 2 * 2 + j % 2 = j by omega] at hf
      rw [hf]
      rcases (by omega : j % 2 = 0 ∨ j % 2 = 1) with hm | hm
      · rw [hm]
        show us[j]? = some (.int .i64 k0)
        rw [← e0]
        congr 1
        omega
      · rw [hm]
        show us[j]? = some (.int .i64 k1)
        rw [← e1]
        congr 1
        omega
    · rw [List.getElem?_eq_none (by omega), List.getElem?_eq_none (by rw [flat_len fl_len, hE]; omega)]
  refine ⟨(List.range len).map fun i => (intAt us (i * 2 + 0), intAt us (i * 2 + 1)), ?_⟩
  refine ⟨by rw [FAt, hE, ← heq]; exact h2, ?_⟩
  rw [hE]
  rcases DataW.trod_slice Tryd.underlying22 h with ⟨hcs, _⟩ | ⟨y, l, c, elems, rest, n, _, hcs, _⟩
  · simp [Value.cells] at hcs
    obtain ⟨rfl, rfl, rfl⟩ := hcs
    exact .inl ⟨rfl, rfl⟩
  · simp [Value.cells] at hcs
    obtain ⟨rfl, rfl, rfl⟩ := hcs
    exact .inr ⟨_, _, rfl⟩
set_option maxRecDepth 100000 in
theorem fault_open {H : Type} {enc : TypeId × Value → H} {w : World} {base : Nat} {spare : Nat → Bool} {held : Bool} {fuel : Nat} {x : DataW H × List MemPlace} {cs : List Value}
    (h : DataW.trod enc Tryd.prog w base spare held fuel 26 cs = some x) : ∃ f : Ft, cs = fl f := by
  obtain ⟨xs, n, _, _, hl, _⟩ := DataW.trod_struct Tryd.underlying26 h
  have hl : cs.length = 2 := hl
  obtain ⟨y0, n0, h5⟩ := st_field Tryd.underlying26 h (i := 0) rfl
  obtain ⟨y1, n1, h6⟩ := st_field Tryd.underlying26 h (i := 1) rfl
  obtain ⟨k0, hk0, _⟩ := DataW.trod_int Tryd.underlying3 h5
  obtain ⟨k1, hk1, _⟩ := DataW.trod_int Tryd.underlying3 h6
  have e0 := pick1 (o := 0) hk0
  have e1 := pick1 (o := 1) hk1
  refine ⟨(k0, k1), List.ext_getElem? fun j => ?_⟩
  match j with
  | 0 => exact e0
  | 1 => exact e1
  | j + 2 => rw [List.getElem?_eq_none (by omega), List.getElem?_eq_none (by rw [fl_len]; omega)]

theorem own : ownKnob Tryd.prog.godebug = none := by kernel_rfl
theorem laidOut : laidOutB Tryd.prog = true := by kernel_rfl
def laidL : List (String × DataW Unit) := [("math/bits.deBruijn32tab", Rows.laid_math_bits_deBruijn32tab), ("math/bits.deBruijn64tab", Rows.laid_math_bits_deBruijn64tab), ("internal/strconv.uint64pow10", Rows.laid_internal_strconv_uint64pow10), ("unicode.White_Space", Rows.laid_unicode_White_Space), ("strings.asciiSpace", Rows.laid_strings_asciiSpace)]
theorem gPow : Tryd.prog.globalNamed "internal/strconv.uint64pow10" = some 2 := by kernel_rfl
theorem tPow : (Tryd.prog.globals[2]?).map (·.type) = some 110 := by kernel_rfl
set_option maxRecDepth 100000 in
theorem datumP : (Rows.laid_internal_strconv_uint64pow10 : DataW Unit) = Lib.tabData .u64 Lib.pow10Tab := by kernel_rfl
theorem gSpace : Tryd.prog.globalNamed "strings.asciiSpace" = some 0 := by kernel_rfl
theorem tSpace : (Tryd.prog.globals[0]?).map (·.type) = some 61 := by kernel_rfl
def spaces : List Int := (List.range 256).map fun b => tb b
theorem spaces_at {b : Nat} (hb : b < 256) : spaces[b]? = some (tb b) := by simp [spaces, hb]
set_option maxRecDepth 100000 in
theorem datum : (Rows.laid_strings_asciiSpace : DataW Unit) = Lib.tabData .u8 spaces := by kernel_rfl

set_option maxRecDepth 100000 in
/-- The door's own heap meets the condition. -/
theorem door_met (os : Os) (args : Array Value) : laidMetH Tryd.prog laidL ((World.doorLaid Tryd.prog 48 os).forCall (fun _ _ => 0) ⟨#[], args, []⟩).memory :=
  laidMetH_of_parts3 (fuel := 8) (laidMet_of_run' 8 (by kernel_rfl) (by kernel_rfl)) (by kernel_rfl) (by kernel_rfl)

/-- what the condition gives: the tables' cells -/
theorem of_laid {W0 : World} (h : laidMetH Tryd.prog laidL W0) : SpTab W0.heap ∧ PwTab W0.heap := by
  rw [MakeChecks.laidMetH_plain _ _ _ (by kernel_rfl)] at h
  obtain ⟨ps, ⟨_, _, _, _, _, _, _, _, _, _, ⟨_, _, _, _, _, _, _, _, _, _, ⟨g2, t2, cs2, f2, p2, q2, hg2, ht2, hv2, hd2, ⟨_, _, _, _, _, _, _, _, _, _, ⟨g1, t1, cs1, f1, p1, q1, hg1, ht1, hv1, hd1, _, _⟩, _⟩, _⟩, _⟩, _⟩, _, _⟩ := h
  obtain rfl := Option.some.inj (gSpace.symm.trans hg1)
  obtain rfl := Option.some.inj (tSpace.symm.trans ht1)
  obtain rfl := Option.some.inj (gPow.symm.trans hg2)
  obtain rfl := Option.some.inj (tPow.symm.trans ht2)
  rw [datum] at hd1
  rw [datumP] at hd2
  have hc := Lib.cells_of_tab Tryd.underlying61 Tryd.underlying5 (by kernel_rfl) (by kernel_rfl) hd1
  have hc2 := Lib.cells_of_tab Tryd.underlying110 Tryd.underlying75 (by kernel_rfl) (by kernel_rfl) hd2
  refine ⟨fun b hb => ?_, fun ω d => ?_⟩
  · have := World.var?_cell hg1 hv1 b
    have hb2 : cs1.toList[b]? = some (Value.int .u8 (tb b)) := by rw [hc, List.getElem?_map, spaces_at hb]; rfl
    have hb3 : cs1[b]? = some (Value.int .u8 (tb b)) := by simpa using hb2
    rw [hb3] at this
    exact this
  · show W0.var? Tryd.prog "internal/strconv.uint64pow10" = _
    rw [hv2]
    congr 1
    exact Array.ext' hc2

set_option maxRecDepth 100000 in
theorem lifted (os : Os) (started : os.Started) (H : Type) (enc : TypeId × Value → H) :
    ReturnsInHanded {} Tryd.checked os 4 .any (fun w args => (Rows.textTellsSpec.pre enc Tryd.prog Tryd.f4 [] false w args ∧ laidMetH Tryd.prog laidL w) ∧ sizedMet enc Tryd.prog Tryd.f4 (OpenSpec.ofChange Rows.textTellsSpec) false w args)
      (Rows.textTellsSpec.post enc Tryd.prog Tryd.f4 false true false false) := by
  refine returnsInHanded_of_change_and (C := Tryd.checked) (X := fun w _ => laidMetH Tryd.prog laidL w) (fun _ _ _ hh h => h.of_heap hh) own started (by kernel_rfl) Tryd.func4
    (ChangeSpec.witness_shaped (enc := enc) (C := Tryd.checked) (os := os) (X := fun w _ => laidMetH Tryd.prog laidL w) false (World.doorLaid Tryd.prog 48 os) #[.string ⟨#[]⟩, .agg #[.int .i64 0, .int .i64 0], .slice none 0 0] 8 rfl (World.shaped_of_RefB (by kernel_rfl) (by kernel_rfl)) (by kernel_rfl) (by kernel_rfl) (by kernel_rfl) (door_met os _)) ?_
  intro W base args ds gs before hval0 hW _ _ hL _
  have hval : ∀ (j : Nat) t v, Tryd.f4.params[j]? = some t → args[j]? = some v → Value.okWide Tryd.prog W .any base t v := hval0
  have hW' := hW
  obtain ⟨p, q, hA0, hV, rfl, hfz, hnd⟩ := hW
  have hA : DataW.TrodAll enc Tryd.prog W 0 (fun _ => true) true Tryd.f4.params.toList args.toList ds p := hA0
  rw [Tryd.params4] at hA hval
  obtain ⟨v0, vs0, d0, ds0, p0, q0, hargs, rfl, rfl, h0, r0⟩ := trodAll_cons hA
  obtain ⟨v1, vs1, d1, ds1, p1, q1, rfl, rfl, rfl, h1, r1⟩ := trodAll_cons r0
  obtain ⟨v2, vs2, d2, ds2, p2, q2, rfl, rfl, rfl, h2, r2⟩ := trodAll_cons r1
  obtain ⟨rfl, rfl, rfl⟩ := trodAll_nil r2
  obtain rfl : args = #[v0, v1, v2] := by cases args; simp_all
  obtain ⟨rfl, rfl⟩ := trodVars_none hV
  obtain ⟨s, rfl, rfl, rfl, ws⟩ := open_string Tryd.underlying9 (hval 0 9 v0 rfl rfl) h0
  obtain ⟨c1, rfl, _⟩ := okWide_struct Tryd.underlying26 (hval 1 26 v1 rfl rfl)
  have k1 := h1
  have lt1 : ∀ x ∈ p1, x.block < W.heap.size := by obtain ⟨m, hm⟩ := k1; exact DataW.trod_lt m _ _ _ hm
  obtain ⟨f, hcs⟩ := (by obtain ⟨fuel, hf⟩ := h1; exact fault_open hf : ∃ f : Ft, (Value.agg c1).cells.toList = fl f)
  have hc1 : c1 = (fl f).toArray := Array.ext' hcs
  obtain ⟨sa, sl, sc, rfl⟩ := okWide_slice Tryd.underlying22 (hval 2 22 v2 rfl rfl)
  have ks := h2
  have lts : ∀ x ∈ p2, x.block < W.heap.size := by obtain ⟨m, hm⟩ := ks; exact DataW.trod_lt m _ _ _ hm
  obtain ⟨L, hL2⟩ := (by obtain ⟨fuel, hf⟩ := h2; exact faults_open hf : ∃ L : List Ft, FIn W.heap (.slice sa sl sc) L)
  obtain ⟨ht, hp⟩ := of_laid hL
  clear hA0 hval0
  have walk := calls_of_X0 (P := Tryd.prog) (f := 4) (args := [.string s, .agg (fl f).toArray, .slice sa sl sc]) (w := W)
    (fun ω hω => Tells_law hω s hL2 ht hp _)
  rw [← hc1] at walk
  refine walk.mono fun e W' ⟨he, bel⟩ => ?_
  subst he
  exact ⟨_, rfl, _, _, _, [], _, [], hW', trodAll_mk1 (shut_bool Tryd.underlying4 _), (trodAll_cons_mk (shut_string Tryd.underlying9 ws) (trodAll_cons_mk (Below.trod laidOut (by kernel_rfl) (of_decide_eq_true (by kernel_rfl)) k1 bel lt1) (trodAll_cons_mk (Below.trod laidOut (by kernel_rfl) (of_decide_eq_true (by kernel_rfl)) ks bel lts) trodAll_mk0))), rfl, bel.frame _, fun h => by cases h⟩

theorem over : Rows.textTellsRow.holds Tryd.pinned (OpenSpec.ofChange Rows.textTellsSpec) :=
  OpenClaim.holds_of_wide 4 Tryd.f4 rfl rfl rfl rfl rfl rfl rfl ⟨rfl, rfl, rfl, rfl, rfl⟩ rfl rfl rfl rfl rfl (by kernel_rfl) Tryd.func4 (by kernel_rfl)
    (of_decide_eq_true (by kernel_rfl)) (by unfold Func.isWrapper; first | (rw [if_pos (by decide +kernel)]; kernel_rfl) | (rw [if_neg (by decide +kernel)]; exact ⟨rfl, rfl⟩))
    (fun os started H enc _ => lifted os started H enc)

/-- TextTells, as given: the tied card -/
theorem proved : Rows.TextTellsCardSaid :=
  Claim7.holds_tied_plain_at .later [] [.data, .data, .data, .listed, .data] true (true, "7a8278bd05a62192fc183b27d9fca0e70ba199f6a94ca8259aa1e09d916d0247") false
    over (fun _ h => by cases h) (by kernel_rfl) (fun _ h => by cases h) textTells_row_tie rfl ⟨rfl, rfl⟩ (by kernel_rfl) rfl
    (fun f fn hf hfn => by
      obtain rfl : f = 4 := Option.some.inj ((show Tryd.prog.funcNamed "pipewright/pipewrightlaw.TextTells" = some 4 by kernel_rfl).symm.trans hf) |>.symm
      obtain rfl : fn = Tryd.f4 := (Option.some.inj (Tryd.func4.symm.trans hfn)).symm
      exact ⟨by kernel_rfl, fun j t ht => by
        rw [Tryd.params4] at ht
        have hm : t ∈ [9, 26, 22] := by simpa using Array.mem_of_getElem? ht
        have hall : ([9, 26, 22].all fun u => !Tryd.prog.wantsStandIn u) = true := by kernel_rfl
        exact (show Tryd.prog.wantsStandIn t = false by simpa using List.all_eq_true.1 hall t hm)⟩)
    (by kernel_rfl)
#print axioms proved
end Go.Proofs.YtfpedcmempljlaaDoor.textTells
