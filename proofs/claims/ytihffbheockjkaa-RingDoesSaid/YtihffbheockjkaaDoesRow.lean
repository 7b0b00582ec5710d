/- RingDoes: the statement. For every two numbers of slots and every list of steps: the law returns true. -/
import Derived.Test.YtihffbheockjkaaSxRow
import Derived.Test.YtihffbheockjkaaDoes4
import Derived.Deep.Strs
import Derived.Test.YtihffbheockjkaaRows
import Derived.ShutString
import Derived.ChangeOld
namespace Go.Proofs.Ytihffbheockjkaa.ringDoes
open Go.ChangeShapes Go.WideShapes Go.ChangeAt Go.RowKit Go.Sx
open Go.ChangeMaps (open_string shut_string)

theorem own : ownKnob Try.prog.godebug = none := by kernel_rfl
theorem laidOut : laidOutB Try.prog = true := by kernel_rfl

theorem slSteps {H : Type} {enc : TypeId × Value → H} {w : World} {base : Nat} {spare : Nat → Bool} {held : Bool} {a : Option Addr} {len cap fuel : Nat} {x : DataW H × List MemPlace}
    (hf : DataW.trod enc Try.prog w base spare held fuel 34 (Value.slice a len cap).cells.toList = some x) :
    ∃ cs : List Value, SlAt w.heap 3 (.slice a len cap) len cs ∧ ∀ i, i < len → ∃ (d m : Int) (on : Bool), cs[i * 3 + 0]? = some (.int .i64 d) ∧ cs[i * 3 + 1]? = some (.int .i64 m) ∧ cs[i * 3 + 2]? = some (.bool on) := by
  obtain ⟨cs, _, hs, he⟩ := sl_open (size := 3) Try.underlying34 (by kernel_rfl) (by decide) hf
  refine ⟨cs, hs, fun i hi => ?_⟩
  obtain ⟨y, n, hy⟩ := he i hi
  obtain ⟨y0, y1, y2, m, _, hl, h0, h1, h2⟩ := Go.Deep.trod_struct3 Try.underlying40 hy
  obtain ⟨d, e0, _⟩ := DataW.trod_int Try.underlying3 h0
  obtain ⟨k, e1, _⟩ := DataW.trod_int Try.underlying3 h1
  obtain ⟨on, e2, _⟩ := DataW.trod_bool Try.underlying4 h2
  have pick : ∀ (o : Nat) (v : Value), o < 3 → (((cs.drop (i * 3)).take 3).drop o).take 1 = [v] → cs[i * 3 + o]? = some v := by
    intro o v ho e
    have := congrArg (fun l => l[0]?) e
    simpa [List.getElem?_take, List.getElem?_drop, ho] using this
  exact ⟨d, k, on, pick 0 _ (by omega) e0, pick 1 _ (by omega) e1, pick 2 _ (by omega) e2⟩

set_option maxRecDepth 100000 in
theorem lifted (os : Os) (started : os.Started) (H : Type) (enc : TypeId × Value → H) :
    ReturnsInHanded {} Try.checked os 4 .any (Rows.ringDoesSpec.pre6 enc Try.prog Try.f4 Rows.ringDoesRow.domain false) (Rows.ringDoesSpec.post enc Try.prog Try.f4 false true false false) := by
  refine returnsInHanded_of_change (C := Try.checked) own started (by kernel_rfl) Try.func4
    (ChangeSpec.witness6 (enc := enc) (C := Try.checked) false ⟨#[], #[.int .i64 0, .int .i64 0, .slice none 0 0], []⟩ 8 (by kernel_rfl) (by kernel_rfl) (by kernel_rfl) (by kernel_rfl)) ?_
  intro W base args ds gs before hval0 hW hcnd _
  have hval : ∀ (j : Nat) t v, Try.f4.params[j]? = some t → args[j]? = some v → Value.okWide Try.prog W .any base t v := hval0
  have hW' := hW
  obtain ⟨p, q, hA0, hV, rfl, hfz, hnd⟩ := hW
  have hA : DataW.TrodAll enc Try.prog W 0 (fun _ => true) true Try.f4.params.toList args.toList ds p := hA0
  rw [Try.params4] at hA hval
  obtain ⟨v0, vs0, d0, ds0, p0, q0, hargs, rfl, rfl, h0, r0⟩ := trodAll_cons hA
  obtain ⟨v1, vs1, d1, ds1, p1, q1, rfl, rfl, rfl, h1, r1⟩ := trodAll_cons r0
  obtain ⟨v2, vs2, d2, ds2, p2, q2, rfl, rfl, rfl, h2, r2⟩ := trodAll_cons r1
  obtain ⟨rfl, rfl, rfl⟩ := trodAll_nil r2
  obtain rfl : args = #[v0, v1, v2] := by cases args; simp_all
  obtain ⟨rfl, rfl⟩ := trodVars_none hV
  obtain ⟨a0, rfl, rfl, rfl, w0⟩ := open_int Try.underlying3 (hval 0 3 v0 rfl rfl) h0
  obtain ⟨a1, rfl, rfl, rfl, w1⟩ := open_int Try.underlying3 (hval 1 3 v1 rfl rfl) h1
  obtain ⟨a2, len2, cap2, rfl⟩ := okWide_slice Try.underlying34 (hval 2 34 v2 rfl rfl)
  have k2 := h2
  have lt2 : ∀ x ∈ p2, x.block < W.heap.size := by obtain ⟨m, hm⟩ := k2; exact DataW.trod_lt m _ _ _ hm
  obtain ⟨cs, sl2, steps⟩ := (by obtain ⟨fuel, hf⟩ := h2; exact slSteps hf : ∃ cs : List Value, SlAt W.heap 3 (.slice a2 len2 cap2) len2 cs ∧ ∀ i, i < len2 → ∃ (d m : Int) (on : Bool), cs[i * 3 + 0]? = some (.int .i64 d) ∧ cs[i * 3 + 1]? = some (.int .i64 m) ∧ cs[i * 3 + 2]? = some (.bool on))
  clear hA0 hval0
  have hb0 : a0 ≤ 9223372036854775807 := by simp [Lit.wf] at w0; omega
  have hb1 : a1 ≤ 9223372036854775807 := by simp [Lit.wf] at w1; omega
  have walk := calls_of_X (P := Try.prog) (f := 4) (args := [.int .i64 a0, .int .i64 a1, .slice a2 len2 cap2]) (w := W)
    (fun ω => Does_law a0 a1 hb0 hb1 _ _ cs W.heap sl2 steps _)
  refine walk.mono fun e W' ⟨he, bel⟩ => ?_
  subst he
  exact ⟨_, rfl, _, _, _, [], _, [], hW', trodAll_mk1 (shut_bool Try.underlying4 _), (trodAll_cons_mk (shut_int Try.underlying3 w0) (trodAll_cons_mk (shut_int Try.underlying3 w1) (trodAll_cons_mk (Below.trod laidOut (by kernel_rfl) (of_decide_eq_true (by kernel_rfl)) k2 bel lt2) trodAll_mk0))), rfl, bel.frame _, fun h => by cases h⟩

theorem over : Rows.ringDoesRow.holds Try.pinned (OpenSpec.ofChange Rows.ringDoesSpec) :=
  OpenClaim.holds_of_wide 4 Try.f4 rfl rfl rfl rfl rfl rfl rfl ⟨rfl, rfl, rfl, rfl, rfl⟩ rfl rfl rfl rfl rfl (by kernel_rfl) Try.func4 (by kernel_rfl)
    (of_decide_eq_true (by kernel_rfl)) (by unfold Func.isWrapper; first | (rw [if_pos (by decide +kernel)]; kernel_rfl) | (rw [if_neg (by decide +kernel)]; exact ⟨rfl, rfl⟩))
    (fun os started H enc _ => lifted os started H enc)

/-- RingDoes, as given -/
theorem proved : Rows.RingDoesSaid := over
#print axioms proved
end Go.Proofs.Ytihffbheockjkaa.ringDoes
