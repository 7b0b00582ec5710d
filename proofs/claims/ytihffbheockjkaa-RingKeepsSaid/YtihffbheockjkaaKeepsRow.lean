/- RingKeeps: the statement. For every number of slots, every list of texts and every list of numbers: the law returns true. -/
import Derived.Test.YtihffbheockjkaaSxRow
import Derived.Test.YtihffbheockjkaaKeeps
import Derived.Test.YtihffbheockjkaaRows
import Derived.ShutString
import Derived.ChangeOld
namespace Go.Proofs.Ytihffbheockjkaa.ringKeeps
open Go.ChangeShapes Go.WideShapes Go.ChangeAt Go.RowKit Go.Sx
open Go.ChangeMaps (open_string shut_string)

theorem own : ownKnob Try.prog.godebug = none := by kernel_rfl
theorem laidOut : laidOutB Try.prog = true := by kernel_rfl

theorem slInts {H : Type} {enc : TypeId × Value → H} {w : World} {base : Nat} {spare : Nat → Bool} {held : Bool} {a : Option Addr} {len cap fuel : Nat} {x : DataW H × List MemPlace}
    (hf : DataW.trod enc Try.prog w base spare held fuel 23 (Value.slice a len cap).cells.toList = some x) :
    ∃ ts : List Int, ts.length = len ∧ len ≤ maxLen ∧ SlAt w.heap 1 (.slice a len cap) len (ts.map (.int .i64)) := by
  rcases open_ints Try.underlying23 Try.underlying3 (by kernel_rfl) hf with ⟨hcs, _⟩ | ⟨y, l, c, zs, hcs, _, hl, hm, hz, _, hcell, _⟩
  · simp [Value.cells] at hcs
    obtain ⟨rfl, rfl, rfl⟩ := hcs
    exact ⟨[], rfl, Nat.zero_le _, by simp, .inl ⟨rfl, _, _, rfl⟩⟩
  · simp [Value.cells] at hcs
    obtain ⟨rfl, rfl, rfl⟩ := hcs
    have hlen : len ≤ zs.length := by rw [hz]; split <;> omega
    refine ⟨zs.take len, by simp; omega, by omega, SlAt.of_cells (by simp; omega) (by omega) fun j u hu => ?_⟩
    have hj : j < (zs.take len).length := by
      rcases Nat.lt_or_ge j (zs.take len).length with h' | h'
      · exact h'
      · rw [List.getElem?_eq_none (by simpa using h')] at hu; cases hu
    have := hcell j (by simp at hj; omega)
    rw [show cellH w.heap (y.add j) = w.cell? (y.add j) from rfl, this, ← hu]
    simp only [List.getElem?_map, List.getElem?_eq_getElem hj, Option.map_some]
    simp [List.getD_eq_getElem?_getD, List.getElem?_eq_getElem (show j < zs.length by simp at hj; omega)]

theorem slStrs {H : Type} {enc : TypeId × Value → H} {w : World} {base : Nat} {spare : Nat → Bool} {held : Bool} {a : Option Addr} {len cap fuel : Nat} {x : DataW H × List MemPlace}
    (hf : DataW.trod enc Try.prog w base spare held fuel 22 (Value.slice a len cap).cells.toList = some x) :
    ∃ ts : List ByteArray, ts.length = len ∧ len ≤ maxLen ∧ SlAt w.heap 1 (.slice a len cap) len (ts.map .string) := by
  rcases open_strings Try.underlying22 Try.underlying9 (by kernel_rfl) hf with ⟨hcs, _⟩ | ⟨y, l, c, zs, hcs, _, hl, hm, hz, _, hcell, _⟩
  · simp [Value.cells] at hcs
    obtain ⟨rfl, rfl, rfl⟩ := hcs
    exact ⟨[], rfl, Nat.zero_le _, by simp, .inl ⟨rfl, _, _, rfl⟩⟩
  · simp [Value.cells] at hcs
    obtain ⟨rfl, rfl, rfl⟩ := hcs
    have hlen : len ≤ zs.length := by rw [hz]; split <;> omega
    refine ⟨zs.take len, by simp; omega, by omega, SlAt.of_cells (by simp; omega) (by omega) fun j u hu => ?_⟩
    have hj : j < (zs.take len).length := by
      rcases Nat.lt_or_ge j (zs.take len).length with h' | h'
      · exact h'
      · rw [List.getElem?_eq_none (by simpa using h')] at hu; cases hu
    have := hcell j (by simp at hj; omega)
    rw [show cellH w.heap (y.add j) = w.cell? (y.add j) from rfl, this, ← hu]
    simp only [List.getElem?_map, List.getElem?_eq_getElem hj, Option.map_some]
    simp [List.getD_eq_getElem?_getD, List.getElem?_eq_getElem (show j < zs.length by simp at hj; omega)]

set_option maxRecDepth 100000 in
theorem lifted (os : Os) (started : os.Started) (H : Type) (enc : TypeId × Value → H) :
    ReturnsInHanded {} Try.checked os 3 .any (Rows.ringKeepsSpec.pre6 enc Try.prog Try.f3 Rows.ringKeepsRow.domain false) (Rows.ringKeepsSpec.post enc Try.prog Try.f3 false true false false) := by
  refine returnsInHanded_of_change (C := Try.checked) own started (by kernel_rfl) Try.func3
    (ChangeSpec.witness6 (enc := enc) (C := Try.checked) false ⟨#[], #[.int .i64 0, .slice none 0 0, .slice none 0 0], []⟩ 8 (by kernel_rfl) (by kernel_rfl) (by kernel_rfl) (by kernel_rfl)) ?_
  intro W base args ds gs before hval0 hW hcnd _
  have hval : ∀ (j : Nat) t v, Try.f3.params[j]? = some t → args[j]? = some v → Value.okWide Try.prog W .any base t v := hval0
  have hW' := hW
  obtain ⟨p, q, hA0, hV, rfl, hfz, hnd⟩ := hW
  have hA : DataW.TrodAll enc Try.prog W 0 (fun _ => true) true Try.f3.params.toList args.toList ds p := hA0
  rw [Try.params3] at hA hval
  obtain ⟨v0, vs0, d0, ds0, p0, q0, hargs, rfl, rfl, h0, r0⟩ := trodAll_cons hA
  obtain ⟨v1, vs1, d1, ds1, p1, q1, rfl, rfl, rfl, h1, r1⟩ := trodAll_cons r0
  obtain ⟨v2, vs2, d2, ds2, p2, q2, rfl, rfl, rfl, h2, r2⟩ := trodAll_cons r1
  obtain ⟨rfl, rfl, rfl⟩ := trodAll_nil r2
  obtain rfl : args = #[v0, v1, v2] := by cases args; simp_all
  obtain ⟨rfl, rfl⟩ := trodVars_none hV
  obtain ⟨a0, rfl, rfl, rfl, w0⟩ := open_int Try.underlying3 (hval 0 3 v0 rfl rfl) h0
  obtain ⟨a1, len1, cap1, rfl⟩ := okWide_slice Try.underlying22 (hval 1 22 v1 rfl rfl)
  have k1 := h1
  have lt1 : ∀ x ∈ p1, x.block < W.heap.size := by obtain ⟨m, hm⟩ := k1; exact DataW.trod_lt m _ _ _ hm
  obtain ⟨a2, len2, cap2, rfl⟩ := okWide_slice Try.underlying23 (hval 2 23 v2 rfl rfl)
  have k2 := h2
  have lt2 : ∀ x ∈ p2, x.block < W.heap.size := by obtain ⟨m, hm⟩ := k2; exact DataW.trod_lt m _ _ _ hm
  obtain ⟨ls, hls, hlm, sl1⟩ := (by obtain ⟨fuel, hf⟩ := h1; exact slStrs hf : ∃ ts : List ByteArray, ts.length = len1 ∧ len1 ≤ maxLen ∧ SlAt W.heap 1 (.slice a1 len1 cap1) len1 (ts.map .string))
  obtain ⟨ts, hts, htm, sl2⟩ := (by obtain ⟨fuel, hf⟩ := h2; exact slInts hf : ∃ ts : List Int, ts.length = len2 ∧ len2 ≤ maxLen ∧ SlAt W.heap 1 (.slice a2 len2 cap2) len2 (ts.map (.int .i64)))
  clear hA0 hval0
  subst hls hts
  have hb : a0 ≤ 9223372036854775807 := by simp [Lit.wf] at w0; omega
  unfold maxLen at hlm htm
  have walk := calls_of_X (P := Try.prog) (f := 3) (args := [.int .i64 a0, .slice a1 ls.length cap1, .slice a2 ts.length cap2]) (w := W)
    (fun ω => Keeps_law a0 hb _ _ ls ts W.heap sl1 sl2 (by omega) (by omega) _)
  refine walk.mono fun e W' ⟨he, bel⟩ => ?_
  subst he
  exact ⟨_, rfl, _, _, _, [], _, [], hW', trodAll_mk1 (shut_bool Try.underlying4 _), (trodAll_cons_mk (shut_int Try.underlying3 w0) (trodAll_cons_mk (Below.trod laidOut (by kernel_rfl) (of_decide_eq_true (by kernel_rfl)) k1 bel lt1) (trodAll_cons_mk (Below.trod laidOut (by kernel_rfl) (of_decide_eq_true (by kernel_rfl)) k2 bel lt2) trodAll_mk0))), rfl, bel.frame _, fun h => by cases h⟩

theorem over : Rows.ringKeepsRow.holds Try.pinned (OpenSpec.ofChange Rows.ringKeepsSpec) :=
  OpenClaim.holds_of_wide 3 Try.f3 rfl rfl rfl rfl rfl rfl rfl ⟨rfl, rfl, rfl, rfl, rfl⟩ rfl rfl rfl rfl rfl (by kernel_rfl) Try.func3 (by kernel_rfl)
    (of_decide_eq_true (by kernel_rfl)) (by unfold Func.isWrapper; first | (rw [if_pos (by decide +kernel)]; kernel_rfl) | (rw [if_neg (by decide +kernel)]; exact ⟨rfl, rfl⟩))
    (fun os started H enc _ => lifted os started H enc)

/-- RingKeeps, as given -/
theorem proved : Rows.RingKeepsSaid := over
#print axioms proved
end Go.Proofs.Ytihffbheockjkaa.ringKeeps
