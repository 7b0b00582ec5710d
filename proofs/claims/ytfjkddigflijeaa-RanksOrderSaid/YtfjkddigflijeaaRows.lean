/-
  No cell of these rows narrows 'for every input' (looked for: loops, veiled, ifaces, maps, wideKeys, modest, calm, conditions, laid).
  DERIVED. THE GIVEN ROWS OF THIS SEAT. 3 by the template 'for every input the law returns true; each argument reads behind the call as it read before'; 0 by the template 'total and deterministic' (their statements: YtfjkddigflijeaaTotals.lean).
  GIVEN WITH THE SEED: the statements are not yours to turn. If you find one false, say at which input.
  Laid BY PROGRAM, IN A SANDBOX (cutbox-rows.mjs): the forced cells as the released guide's own fill.sh prints them over the translation 564850d5fecbaa9a… (all of the seat's roots in one cut). By AI agents, Wed Nov 11 2026. No macro, syntax, notation, axiom, sorry.
-/
import Derived.Test.YtfjkddigflijeaaChecked
import GoSem.Claim
import GoSem.ClaimJoined
import GoSem.ClaimMapViews
import Derived.JoinedTies
import Derived.KernelRfl
namespace Go.Proofs.Ytfjkddigflijeaa
/- THE CELL 'sum', in the pinned program and in every row, IS THE sha256 OF THE DUMP (.gsa) THAT YtfjkddigflijeaaProg.lean LOADS. Nothing in Lean hashes anything: it is a label: what it is worth is what the hold of that sum in a sandbox is worth. -/
noncomputable def Try.pinned : Pinned := { name := "ytfjkddigflijeaa", sum := "564850d5fecbaa9ad8dbe3cc566ec133cb70f8c3d29498aa7d8676a2eb09cee3", checked := Try.checked }
namespace Rows
def none {H : Type} : Left H := { results := [], args := [] }

/-- 'pipewrightlaw.RanksDoes': WHATEVER THE INPUT: true; the input reads as it did. -/
def ranksDoesSpec : ChangeSpec := { name := "ranksDoes", fn := fun _ => fun
  | [d1, d2] => { results := [.lit (.bool true)], args := [d1, d2] }
  | _ => none }
def ranksDoesRow : OpenClaim := { program := "ytfjkddigflijeaa", sum := "564850d5fecbaa9ad8dbe3cc566ec133cb70f8c3d29498aa7d8676a2eb09cee3", func := "pipewright/pipewrightlaw.RanksDoes", spec := "ranksDoes", unfollowed := true, recurses := true, apart := false }
def RanksDoesSaid : Prop := ranksDoesRow.holds Try.pinned (OpenSpec.ofChange ranksDoesSpec)

/-- ITS FALSE NEIGHBOUR: 'it returns false'. Refute it at one input. -/
def ranksDoesWrong : ChangeSpec := { name := "ranksDoes", fn := fun _ => fun
  | [d1, d2] => { results := [.lit (.bool false)], args := [d1, d2] }
  | _ => none }
def RanksDoesWrongFalsely : Prop := ranksDoesRow.holds Try.pinned (OpenSpec.ofChange ranksDoesWrong)

/-- 'pipewrightlaw.RanksOrder': WHATEVER THE INPUT: true; the input reads as it did. -/
def ranksOrderSpec : ChangeSpec := { name := "ranksOrder", fn := fun _ => fun
  | [d1, d2, d3] => { results := [.lit (.bool true)], args := [d1, d2, d3] }
  | _ => none }
def ranksOrderRow : OpenClaim := { program := "ytfjkddigflijeaa", sum := "564850d5fecbaa9ad8dbe3cc566ec133cb70f8c3d29498aa7d8676a2eb09cee3", func := "pipewright/pipewrightlaw.RanksOrder", spec := "ranksOrder", unfollowed := true, recurses := true, apart := false }
def RanksOrderSaid : Prop := ranksOrderRow.holds Try.pinned (OpenSpec.ofChange ranksOrderSpec)

/-- ITS FALSE NEIGHBOUR: 'it returns false'. Refute it at one input. -/
def ranksOrderWrong : ChangeSpec := { name := "ranksOrder", fn := fun _ => fun
  | [d1, d2, d3] => { results := [.lit (.bool false)], args := [d1, d2, d3] }
  | _ => none }
def RanksOrderWrongFalsely : Prop := ranksOrderRow.holds Try.pinned (OpenSpec.ofChange ranksOrderWrong)

/-- 'pipewrightlaw.RanksMore': WHATEVER THE INPUT: true; the input reads as it did. -/
def ranksMoreSpec : ChangeSpec := { name := "ranksMore", fn := fun _ => fun
  | [d1, d2, d3, d4, d5] => { results := [.lit (.bool true)], args := [d1, d2, d3, d4, d5] }
  | _ => none }
def ranksMoreRow : OpenClaim := { program := "ytfjkddigflijeaa", sum := "564850d5fecbaa9ad8dbe3cc566ec133cb70f8c3d29498aa7d8676a2eb09cee3", func := "pipewright/pipewrightlaw.RanksMore", spec := "ranksMore", unfollowed := true, recurses := true, apart := false }
def RanksMoreSaid : Prop := ranksMoreRow.holds Try.pinned (OpenSpec.ofChange ranksMoreSpec)

/-- ITS FALSE NEIGHBOUR: 'it returns false'. Refute it at one input. -/
def ranksMoreWrong : ChangeSpec := { name := "ranksMore", fn := fun _ => fun
  | [d1, d2, d3, d4, d5] => { results := [.lit (.bool false)], args := [d1, d2, d3, d4, d5] }
  | _ => none }
def RanksMoreWrongFalsely : Prop := ranksMoreRow.holds Try.pinned (OpenSpec.ofChange ranksMoreWrong)

/- THE SECOND FORM. 'bulk': how many values and letters a reading holds, each counted each time it is reached (what is shared counts as often as it is met; a slice's spare places count too). A statement '..UptoSaid' is the law's where the arguments, and the package variables that the reading takes, are together of bulk at most 1048576: NARROWER than '..Said'. Prove '..Said' where nothing that the law and all that it calls make is longer than what came in: it says more and counts as full. Else prove '..UptoSaid'. A law counts once. -/
mutual
def uptoBulk {H : Type} : DataW H → Nat
  | .lit (.string bytes) => bytes.length + 1
  | .lit _ => 1
  | .nil => 1
  | .ptr d => uptoBulk d + 1
  | .slice elems spare => uptoBulkAll elems + uptoBulkAll spare + 1
  | .agg parts => uptoBulkAll parts + 1
  | .iface _ d => uptoBulk d + 1
  | .map entries => uptoBulkEntries entries + 1
  | .held _ => 1
def uptoBulkAll {H : Type} : List (DataW H) → Nat
  | [] => 0
  | d :: r => uptoBulk d + uptoBulkAll r
def uptoBulkEntries {H : Type} : List (Lit × DataW H) → Nat
  | [] => 0
  | x :: r => uptoBulkEntry x + uptoBulkEntries r
def uptoBulkEntry {H : Type} : Lit × DataW H → Nat
  | (.string bytes, d) => bytes.length + uptoBulk d + 1
  | (_, d) => uptoBulk d + 1
 end
def uptoSmall : (H : Type) → List (DataW H) → Bool := fun _ ds => decide (uptoBulkAll ds ≤ 1048576)
def OpenSpec.upto (s : _root_.Go.ChangeSpec) : _root_.Go.OpenSpec := { _root_.Go.OpenSpec.ofChange s with cond := some uptoSmall }

/-- 'pipewrightlaw.RanksDoes', WHERE WHAT IT READS IS OF BULK AT MOST 1048576: true; the input reads as it did. -/
def ranksDoesUptoRow : OpenClaim := { program := "ytfjkddigflijeaa", sum := "564850d5fecbaa9ad8dbe3cc566ec133cb70f8c3d29498aa7d8676a2eb09cee3", func := "pipewright/pipewrightlaw.RanksDoes", spec := "ranksDoes", unfollowed := true, recurses := true, apart := false, narrowed := true }
def RanksDoesUptoSaid : Prop := ranksDoesUptoRow.holds Try.pinned (OpenSpec.upto ranksDoesSpec)

/-- 'pipewrightlaw.RanksOrder', WHERE WHAT IT READS IS OF BULK AT MOST 1048576: true; the input reads as it did. -/
def ranksOrderUptoRow : OpenClaim := { program := "ytfjkddigflijeaa", sum := "564850d5fecbaa9ad8dbe3cc566ec133cb70f8c3d29498aa7d8676a2eb09cee3", func := "pipewright/pipewrightlaw.RanksOrder", spec := "ranksOrder", unfollowed := true, recurses := true, apart := false, narrowed := true }
def RanksOrderUptoSaid : Prop := ranksOrderUptoRow.holds Try.pinned (OpenSpec.upto ranksOrderSpec)

/-- 'pipewrightlaw.RanksMore', WHERE WHAT IT READS IS OF BULK AT MOST 1048576: true; the input reads as it did. -/
def ranksMoreUptoRow : OpenClaim := { program := "ytfjkddigflijeaa", sum := "564850d5fecbaa9ad8dbe3cc566ec133cb70f8c3d29498aa7d8676a2eb09cee3", func := "pipewright/pipewrightlaw.RanksMore", spec := "ranksMore", unfollowed := true, recurses := true, apart := false, narrowed := true }
def RanksMoreUptoSaid : Prop := ranksMoreUptoRow.holds Try.pinned (OpenSpec.upto ranksMoreSpec)

end Rows
end Go.Proofs.Ytfjkddigflijeaa
