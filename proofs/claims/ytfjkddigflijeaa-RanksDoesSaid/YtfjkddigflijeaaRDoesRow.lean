/- RanksDoes: the statement. For every number of nodes and every list of edges: the law returns true. -/
import Derived.Test.YtfjkddigflijeaaRkRow
namespace Go.Proofs.Ytfjkddigflijeaa.ranksDoes
open Go.ChangeShapes Go.WideShapes Go.ChangeAt Go.RowKit Go.Sx
open Go.ChangeMaps (open_string shut_string)

theorem own : ownKnob Try.prog.godebug = none := by kernel_rfl
theorem laidOut : laidOutB Try.prog = true := by kernel_rfl

set_option maxRecDepth 100000 in
theorem lifted (os : Os) (started : os.Started) (H : Type) (enc : TypeId × Value → H) :
    ReturnsInHanded {} Try.checked os 3 .any (Rows.ranksDoesSpec.pre6 enc Try.prog Try.f3 Rows.ranksDoesRow.domain false) (Rows.ranksDoesSpec.post enc Try.prog Try.f3 false true false false) := by
  refine returnsInHanded_of_change (C := Try.checked) own started (by kernel_rfl) Try.func3
    (ChangeSpec.witness6 (enc := enc) (C := Try.checked) false ⟨#[], #[.int .i64 0, .slice none 0 0], []⟩ 8 (by kernel_rfl) (by kernel_rfl) (by kernel_rfl) (by kernel_rfl)) ?_
  intro W base args ds gs before hval0 hW hcnd _
  have hval : ∀ (j : Nat) t v, Try.f3.params[j]? = some t → args[j]? = some v → Value.okWide Try.prog W .any base t v := hval0
  have hW' := hW
  obtain ⟨p, q, hA0, hV, rfl, hfz, hnd⟩ := hW
  have hA : DataW.TrodAll enc Try.prog W 0 (fun _ => true) true Try.f3.params.toList args.toList ds p := hA0
  rw [Try.params3] at hA hval
  obtain ⟨v0, vs0, d0, ds0, p0, q0, hargs, rfl, rfl, h0, r0⟩ := trodAll_cons hA
  obtain ⟨v1, vs1, d1, ds1, p1, q1, rfl, rfl, rfl, h1, r1⟩ := trodAll_cons r0
  obtain ⟨rfl, rfl, rfl⟩ := trodAll_nil r1
  obtain rfl : args = #[v0, v1] := by cases args; simp_all
  obtain ⟨rfl, rfl⟩ := trodVars_none hV
  obtain ⟨a0, rfl, rfl, rfl, w0⟩ := open_int Try.underlying3 (hval 0 3 v0 rfl rfl) h0
  obtain ⟨sa, sl, sc, rfl⟩ := okWide_slice Try.underlying22 (hval 1 22 v1 rfl rfl)
  have ks := h1
  have lts : ∀ x ∈ p1, x.block < W.heap.size := by obtain ⟨m, hm⟩ := ks; exact DataW.trod_lt m _ _ _ hm
  obtain ⟨E, hE⟩ := (by obtain ⟨fuel, hf⟩ := h1; exact edges_open hf : ∃ E : List (Int × Int), EdIn W.heap (.slice sa sl sc) E)
  clear hA0 hval0
  have walk := calls_of_X (P := Try.prog) (f := 3) (args := [.int .i64 a0, .slice sa sl sc]) (w := W)
    (fun ω => Does_law hE _)
  refine walk.mono fun e W' ⟨he, bel⟩ => ?_
  subst he
  exact ⟨_, rfl, _, _, _, [], _, [], hW', trodAll_mk1 (shut_bool Try.underlying4 _), (trodAll_cons_mk (shut_int Try.underlying3 w0) (trodAll_cons_mk (Below.trod laidOut (by kernel_rfl) (of_decide_eq_true (by kernel_rfl)) ks bel lts) trodAll_mk0)), rfl, bel.frame _, fun h => by cases h⟩

theorem over : Rows.ranksDoesRow.holds Try.pinned (OpenSpec.ofChange Rows.ranksDoesSpec) :=
  OpenClaim.holds_of_wide 3 Try.f3 rfl rfl rfl rfl rfl rfl rfl ⟨rfl, rfl, rfl, rfl, rfl⟩ rfl rfl rfl rfl rfl (by kernel_rfl) Try.func3 (by kernel_rfl)
    (of_decide_eq_true (by kernel_rfl)) (by unfold Func.isWrapper; first | (rw [if_pos (by decide +kernel)]; kernel_rfl) | (rw [if_neg (by decide +kernel)]; exact ⟨rfl, rfl⟩))
    (fun os started H enc _ => lifted os started H enc)

/-- RanksDoes, as given -/
theorem proved : Rows.RanksDoesSaid := over
#print axioms proved
end Go.Proofs.Ytfjkddigflijeaa.ranksDoes
