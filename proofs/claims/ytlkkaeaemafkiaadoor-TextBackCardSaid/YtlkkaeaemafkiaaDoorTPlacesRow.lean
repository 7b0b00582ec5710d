/- TextPlaces: the statement. For every text and every place: the law returns true; the one condition is that strings.asciiSpace holds what Go lays (tied to the text). -/
import Derived.Test.YtlkkaeaemafkiaaDoorSxRow
import Derived.Test.YtlkkaeaemafkiaaDoorT5
import Derived.Test.YtlkkaeaemafkiaaDoorRows
import Derived.Test.YtlkkaeaemafkiaaDoorCards
import Derived.Test.YtlkkaeaemafkiaaDoorTie
import Derived.ShutString
import Derived.ChangeOld
import Derived.ProofKit
import Derived.LaidMore
import Derived.Lib.LaidTab
import Derived.Stop.Joined
import Derived.SevenTiedAt
namespace Go.Proofs.YtlkkaeaemafkiaaDoor.textPlaces
open Go.ChangeShapes Go.WideShapes Go.ChangeAt Go.RowKit Go.Sx
open Go.ChangeMaps (open_string shut_string)

theorem own : ownKnob Tryd.prog.godebug = none := by kernel_rfl
theorem laidOut : laidOutB Tryd.prog = true := by kernel_rfl
def laidL : List (String × DataW Unit) := [("unicode.White_Space", Rows.laid_unicode_White_Space), ("strings.asciiSpace", Rows.laid_strings_asciiSpace)]
theorem gSpace : Tryd.prog.globalNamed "strings.asciiSpace" = some 0 := by kernel_rfl
theorem tSpace : (Tryd.prog.globals[0]?).map (·.type) = some 41 := by kernel_rfl
def spaces : List Int := (List.range 256).map fun b => tb b
theorem spaces_at {b : Nat} (hb : b < 256) : spaces[b]? = some (tb b) := by simp [spaces, hb]
set_option maxRecDepth 100000 in
theorem datum : (Rows.laid_strings_asciiSpace : DataW Unit) = Lib.tabData .u8 spaces := by kernel_rfl

set_option maxRecDepth 100000 in
/-- The door's own heap meets the condition. -/
theorem door_met (os : Os) (args : Array Value) : laidMetH Tryd.prog laidL ((World.doorLaid Tryd.prog 33 os).forCall (fun _ _ => 0) ⟨#[], args, []⟩).memory :=
  laidMetH_of_parts3 (fuel := 8) (laidMet_of_run' 8 (by kernel_rfl) (by kernel_rfl)) (by kernel_rfl) (by kernel_rfl)

/-- what the condition gives: the table's cells -/
theorem of_laid {W : World} (h : laidMetH Tryd.prog laidL W) : SpTab W.heap := by
  rw [MakeChecks.laidMetH_plain _ _ _ (by kernel_rfl)] at h
  obtain ⟨ps, ⟨g0, t0, cs0, f0, p0, q0, hg0, ht0, hv0, hd0, ⟨g1, t1, cs1, f1, p1, q1, hg1, ht1, hv1, hd1, _, _⟩, _⟩, _, _⟩ := h
  obtain rfl := Option.some.inj (gSpace.symm.trans hg1)
  obtain rfl := Option.some.inj (tSpace.symm.trans ht1)
  rw [datum] at hd1
  have hc := Lib.cells_of_tab Tryd.underlying41 Tryd.underlying5 (by kernel_rfl) (by kernel_rfl) hd1
  intro b hb
  have := World.var?_cell hg1 hv1 b
  have hb2 : cs1.toList[b]? = some (Value.int .u8 (tb b)) := by rw [hc, List.getElem?_map, spaces_at hb]; rfl
  have hb3 : cs1[b]? = some (Value.int .u8 (tb b)) := by simpa using hb2
  rw [hb3] at this
  exact this

set_option maxRecDepth 100000 in
theorem lifted (os : Os) (started : os.Started) (H : Type) (enc : TypeId × Value → H) :
    ReturnsInHanded {} Tryd.checked os 3 .any (fun w args => (Rows.textPlacesSpec.pre enc Tryd.prog Tryd.f3 [] false w args ∧ laidMetH Tryd.prog laidL w) ∧ sizedMet enc Tryd.prog Tryd.f3 (OpenSpec.ofChange Rows.textPlacesSpec) false w args)
      (Rows.textPlacesSpec.post enc Tryd.prog Tryd.f3 false true false false) := by
  refine returnsInHanded_of_change_and (C := Tryd.checked) (X := fun w _ => laidMetH Tryd.prog laidL w) (fun _ _ _ hh h => h.of_heap hh) own started (by kernel_rfl) Tryd.func3
    (ChangeSpec.witness_shaped (enc := enc) (C := Tryd.checked) (os := os) (X := fun w _ => laidMetH Tryd.prog laidL w) false (World.doorLaid Tryd.prog 33 os) #[.string ⟨#[]⟩, .int .i64 0] 8 rfl (World.shaped_of_RefB (by kernel_rfl) (by kernel_rfl)) (by kernel_rfl) (by kernel_rfl) (by kernel_rfl) (door_met os _)) ?_
  intro W base args ds gs before hval0 hW _ _ hL _
  have hval : ∀ (j : Nat) t v, Tryd.f3.params[j]? = some t → args[j]? = some v → Value.okWide Tryd.prog W .any base t v := hval0
  have hW' := hW
  obtain ⟨p, q, hA0, hV, rfl, hfz, hnd⟩ := hW
  have hA : DataW.TrodAll enc Tryd.prog W 0 (fun _ => true) true Tryd.f3.params.toList args.toList ds p := hA0
  rw [Tryd.params3] at hA hval
  obtain ⟨v0, v1, d0, d1, p0, p1, rfl, rfl, rfl, h0, h1⟩ := trodAll_two hA
  obtain ⟨rfl, rfl⟩ := trodVars_none hV
  obtain ⟨s, rfl, rfl, rfl, ws⟩ := open_string Tryd.underlying9 (hval 0 9 v0 rfl rfl) h0
  obtain ⟨a, rfl, rfl, rfl, wa⟩ := open_int Tryd.underlying3 (hval 1 3 v1 rfl rfl) h1
  have ht := of_laid hL
  clear hA0 hval0
  have walk := calls_of_X (P := Tryd.prog) (f := 3) (args := [.string s, .int .i64 a]) (w := W)
    (fun ω => Places_law s a W.heap ht _)
  refine walk.mono fun e W' ⟨he, bel⟩ => ?_
  subst he
  exact ⟨_, rfl, _, _, _, [], _, [], hW', trodAll_mk1 (shut_bool Tryd.underlying4 _), trodAll_mk2 (shut_string Tryd.underlying9 ws) (shut_int Tryd.underlying3 wa), rfl, bel.frame _, fun h => by cases h⟩

theorem over : Rows.textPlacesRow.holds Tryd.pinned (OpenSpec.ofChange Rows.textPlacesSpec) :=
  OpenClaim.holds_of_wide 3 Tryd.f3 rfl rfl rfl rfl rfl rfl rfl ⟨rfl, rfl, rfl, rfl, rfl⟩ rfl rfl rfl rfl rfl (by kernel_rfl) Tryd.func3 (by kernel_rfl)
    (of_decide_eq_true (by kernel_rfl)) (by unfold Func.isWrapper; first | (rw [if_pos (by decide +kernel)]; kernel_rfl) | (rw [if_neg (by decide +kernel)]; exact ⟨rfl, rfl⟩))
    (fun os started H enc _ => lifted os started H enc)

/-- TextPlaces, as given: the tied card -/
theorem proved : Rows.TextPlacesCardSaid :=
  Claim7.holds_tied_plain_at .later [] [.listed, .data] true (true, "6d9c29ef4562e95772bb3f721ead52898bee49c47d13e98ffb811da11b510844") false
    over (fun _ h => by cases h) (by kernel_rfl) (fun _ h => by cases h) textPlaces_row_tie rfl ⟨rfl, rfl⟩ (by kernel_rfl) rfl
    (fun f fn hf hfn => by
      obtain rfl : f = 3 := Option.some.inj ((show Tryd.prog.funcNamed "pipewright/pipewrightlaw.TextPlaces" = some 3 by kernel_rfl).symm.trans hf) |>.symm
      obtain rfl : fn = Tryd.f3 := (Option.some.inj (Tryd.func3.symm.trans hfn)).symm
      exact ⟨by kernel_rfl, fun j t ht => by
        rw [Tryd.params3] at ht
        have hm : t ∈ [9, 3] := by simpa using Array.mem_of_getElem? ht
        have hall : ([9, 3].all fun u => !Tryd.prog.wantsStandIn u) = true := by kernel_rfl
        exact (show Tryd.prog.wantsStandIn t = false by simpa using List.all_eq_true.1 hall t hm)⟩)
    (by kernel_rfl)
#print axioms proved
end Go.Proofs.YtlkkaeaemafkiaaDoor.textPlaces
