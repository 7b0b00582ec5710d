/- ChansDoes: the statement. For every list of steps: the law returns true. -/
import Derived.Test.YtipgilfbhceknaaSxRow
import Derived.Test.YtipgilfbhceknaaCDoes
import Derived.Test.YtipgilfbhceknaaRows
import Derived.ShutString
import Derived.ChangeOld
namespace Go.Proofs.Ytipgilfbhceknaa.chansDoes
open Go.ChangeShapes Go.WideShapes Go.ChangeAt Go.RowKit Go.Sx
open Go.ChangeMaps (open_string shut_string)

theorem own : ownKnob Try.prog.godebug = none := by kernel_rfl
theorem laidOut : laidOutB Try.prog = true := by kernel_rfl

theorem one_at {cs : List Value} {o : Nat} {v : Value} (h : (cs.drop o).take 1 = [v]) : cs[o]? = some v := by
  have := congrArg (fun l => l[0]?) h
  simpa [List.getElem?_take, List.getElem?_drop] using this
theorem s5_open {H : Type} {enc : TypeId × Value → H} {w : World} {base : Nat} {spare : Nat → Bool} {held : Bool} {fuel : Nat} {cs : List Value} {x : DataW H × List MemPlace}
    (hf : DataW.trod enc Try.prog w base spare held fuel 54 cs = some x) : ∃ s : S5, cs = s.f := by
  obtain ⟨xs, n, _, _, hl, hx, he⟩ := DataW.trod_struct Try.underlying54 hf
  have hl : cs.length = 5 := hl.trans (by kernel_rfl)
  have hx : xs.length = 5 := hx
  have get : ∀ i (f : Field), (#[{ name := "Do", type := 3, offset := 0, embedded := false, tag := "", pkgPath := "", byteOffset := 0 }, { name := "E", type := 3, offset := 1, embedded := false, tag := "", pkgPath := "", byteOffset := 8 }, { name := "Task", type := 3, offset := 2, embedded := false, tag := "", pkgPath := "", byteOffset := 16 }, { name := "N", type := 3, offset := 3, embedded := false, tag := "", pkgPath := "", byteOffset := 24 }, { name := "Give", type := 4, offset := 4, embedded := false, tag := "", pkgPath := "", byteOffset := 32 }] : Array Field)[i]? = some f → i < 5 → ∃ y, DataW.trod enc Try.prog w base spare held n f.type ((cs.drop f.offset).take (Try.prog.cellsOf f.type)) = some y := fun i f hi h5 => by
    have := he i f hi
    rw [List.getElem?_eq_getElem (by omega)] at this
    exact ⟨_, this⟩
  obtain ⟨_, h0⟩ := get 0 _ rfl (by omega)
  obtain ⟨_, h1⟩ := get 1 _ rfl (by omega)
  obtain ⟨_, h2⟩ := get 2 _ rfl (by omega)
  obtain ⟨_, h3⟩ := get 3 _ rfl (by omega)
  obtain ⟨_, h4⟩ := get 4 _ rfl (by omega)
  obtain ⟨d, e0, _⟩ := DataW.trod_int Try.underlying3 h0
  obtain ⟨e, e1, _⟩ := DataW.trod_int Try.underlying3 h1
  obtain ⟨ho, e2, _⟩ := DataW.trod_int Try.underlying3 h2
  obtain ⟨k, e3, _⟩ := DataW.trod_int Try.underlying3 h3
  obtain ⟨on, e4, _⟩ := DataW.trod_bool Try.underlying4 h4
  have e0 := one_at e0
  have e1 := one_at e1
  have e2 := one_at e2
  have e3 := one_at e3
  have e4 := one_at e4
  match cs, hl with
  | [a, b, c, d', e'], _ =>
    injection e0; injection e1; injection e2; injection e3; injection e4
    subst_vars
    exact ⟨⟨d, e, ho, k, on⟩, rfl⟩

theorem slSteps {H : Type} {enc : TypeId × Value → H} {w : World} {base : Nat} {spare : Nat → Bool} {held : Bool} {a : Option Addr} {len cap fuel : Nat} {x : DataW H × List MemPlace}
    (hf : DataW.trod enc Try.prog w base spare held fuel 50 (Value.slice a len cap).cells.toList = some x) :
    ∃ l : List S5, l.length = len ∧ SlAt w.heap 5 (.slice a len cap) l.length (l.flatMap S5.f) := by
  obtain ⟨cs, _, hs, he⟩ := sl_open (size := 5) Try.underlying50 (by kernel_rfl) (by decide) hf
  obtain ⟨l, h1, h2⟩ := flat_of (f := S5.f) S5.len hs.1 fun i hi => by
    obtain ⟨y, n, hy⟩ := he i hi
    exact s5_open hy
  subst h1 h2
  exact ⟨l, rfl, hs⟩

set_option maxRecDepth 100000 in
theorem lifted (os : Os) (started : os.Started) (H : Type) (enc : TypeId × Value → H) :
    ReturnsInHanded {} Try.checked os 5 .any (Rows.chansDoesSpec.pre6 enc Try.prog Try.f5 Rows.chansDoesRow.domain false) (Rows.chansDoesSpec.post enc Try.prog Try.f5 false true false false) := by
  refine returnsInHanded_of_change (C := Try.checked) own started (by kernel_rfl) Try.func5
    (ChangeSpec.witness6 (enc := enc) (C := Try.checked) false ⟨#[], #[.slice none 0 0], []⟩ 8 (by kernel_rfl) (by kernel_rfl) (by kernel_rfl) (by kernel_rfl)) ?_
  intro W base args ds gs before hval0 hW hcnd _
  have hval : ∀ (j : Nat) t v, Try.f5.params[j]? = some t → args[j]? = some v → Value.okWide Try.prog W .any base t v := hval0
  have hW' := hW
  obtain ⟨p, q, hA0, hV, rfl, hfz, hnd⟩ := hW
  have hA : DataW.TrodAll enc Try.prog W 0 (fun _ => true) true Try.f5.params.toList args.toList ds p := hA0
  rw [Try.params5] at hA hval
  obtain ⟨v0, vs0, d0, ds0, p0, q0, hargs, rfl, rfl, h0, r0⟩ := trodAll_cons hA
  obtain ⟨rfl, rfl, rfl⟩ := trodAll_nil r0
  obtain rfl : args = #[v0] := by cases args; simp_all
  obtain ⟨rfl, rfl⟩ := trodVars_none hV
  obtain ⟨a0, len0, cap0, rfl⟩ := okWide_slice Try.underlying50 (hval 0 50 v0 rfl rfl)
  have k0 := h0
  have lt0 : ∀ x ∈ p0, x.block < W.heap.size := by obtain ⟨m, hm⟩ := k0; exact DataW.trod_lt m _ _ _ hm
  obtain ⟨l, hl, sl⟩ := (by obtain ⟨fuel, hf⟩ := h0; exact slSteps hf : ∃ l : List S5, l.length = len0 ∧ SlAt W.heap 5 (.slice a0 len0 cap0) l.length (l.flatMap S5.f))
  clear hA0 hval0
  have walk := calls_of_X (P := Try.prog) (f := 5) (args := [.slice a0 len0 cap0]) (w := W)
    (fun ω => CDoes_law _ l W.heap sl _)
  refine walk.mono fun e W' ⟨he, bel⟩ => ?_
  subst he
  exact ⟨_, rfl, _, _, _, [], _, [], hW', trodAll_mk1 (shut_bool Try.underlying4 _), (trodAll_cons_mk (Below.trod laidOut (by kernel_rfl) (of_decide_eq_true (by kernel_rfl)) k0 bel lt0) trodAll_mk0), rfl, bel.frame _, fun h => by cases h⟩

theorem over : Rows.chansDoesRow.holds Try.pinned (OpenSpec.ofChange Rows.chansDoesSpec) :=
  OpenClaim.holds_of_wide 5 Try.f5 rfl rfl rfl rfl rfl rfl rfl ⟨rfl, rfl, rfl, rfl, rfl⟩ rfl rfl rfl rfl rfl (by kernel_rfl) Try.func5 (by kernel_rfl)
    (of_decide_eq_true (by kernel_rfl)) (by unfold Func.isWrapper; first | (rw [if_pos (by decide +kernel)]; kernel_rfl) | (rw [if_neg (by decide +kernel)]; exact ⟨rfl, rfl⟩))
    (fun os started H enc _ => lifted os started H enc)

/-- ChansDoes, as given -/
theorem proved : Rows.ChansDoesSaid := over
#print axioms proved
end Go.Proofs.Ytipgilfbhceknaa.chansDoes
