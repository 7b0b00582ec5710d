/-
  No cell of these rows narrows 'for every input' (looked for: loops, veiled, ifaces, maps, wideKeys, modest, calm, conditions, laid).
  DERIVED. THE GIVEN ROWS OF THIS SEAT. 3 by the template 'for every input the law returns true; each argument reads behind the call as it read before'; 0 by the template 'total and deterministic' (their statements: YtihibbejjmldjaaTotals.lean).
  GIVEN WITH THE SEED: the statements are not yours to turn. If you find one false, say at which input.
  Laid BY PROGRAM, IN A SANDBOX (cutbox-rows.mjs): the forced cells as the released guide's own fill.sh prints them over the translation fb4dce63329ec6fb… (all of the seat's roots in one cut). By AI agents, Wed Nov 11 2026. No macro, syntax, notation, axiom, sorry.
-/
import Derived.Test.YtihibbejjmldjaaChecked
import GoSem.Claim
import GoSem.ClaimJoined
import GoSem.ClaimMapViews
import Derived.JoinedTies
import Derived.KernelRfl
namespace Go.Proofs.Ytihibbejjmldjaa
/- THE CELL 'sum', in the pinned program and in every row, IS THE sha256 OF THE DUMP (.gsa) THAT YtihibbejjmldjaaProg.lean LOADS. Nothing in Lean hashes anything: it is a label: what it is worth is what the hold of that sum in a sandbox is worth. -/
noncomputable def Try.pinned : Pinned := { name := "ytihibbejjmldjaa", sum := "fb4dce63329ec6fb7b74b508db296509ff4f51f574b2789f43a25fd60400a07f", checked := Try.checked }
namespace Rows
def none {H : Type} : Left H := { results := [], args := [] }

/-- 'pipewrightlaw.PathsFinds': WHATEVER THE INPUT: true; the input reads as it did. -/
def pathsFindsSpec : ChangeSpec := { name := "pathsFinds", fn := fun _ => fun
  | [d1, d2, d3] => { results := [.lit (.bool true)], args := [d1, d2, d3] }
  | _ => none }
def pathsFindsRow : OpenClaim := { program := "ytihibbejjmldjaa", sum := "fb4dce63329ec6fb7b74b508db296509ff4f51f574b2789f43a25fd60400a07f", func := "pipewright/pipewrightlaw.PathsFinds", spec := "pathsFinds", unfollowed := true, recurses := true, apart := false }
def PathsFindsSaid : Prop := pathsFindsRow.holds Try.pinned (OpenSpec.ofChange pathsFindsSpec)

/-- ITS FALSE NEIGHBOUR: 'it returns false'. Refute it at one input. -/
def pathsFindsWrong : ChangeSpec := { name := "pathsFinds", fn := fun _ => fun
  | [d1, d2, d3] => { results := [.lit (.bool false)], args := [d1, d2, d3] }
  | _ => none }
def PathsFindsWrongFalsely : Prop := pathsFindsRow.holds Try.pinned (OpenSpec.ofChange pathsFindsWrong)

/-- 'pipewrightlaw.PathsNexts': WHATEVER THE INPUT: true; the input reads as it did. -/
def pathsNextsSpec : ChangeSpec := { name := "pathsNexts", fn := fun _ => fun
  | [d1, d2, d3] => { results := [.lit (.bool true)], args := [d1, d2, d3] }
  | _ => none }
def pathsNextsRow : OpenClaim := { program := "ytihibbejjmldjaa", sum := "fb4dce63329ec6fb7b74b508db296509ff4f51f574b2789f43a25fd60400a07f", func := "pipewright/pipewrightlaw.PathsNexts", spec := "pathsNexts", unfollowed := true, recurses := true, apart := false }
def PathsNextsSaid : Prop := pathsNextsRow.holds Try.pinned (OpenSpec.ofChange pathsNextsSpec)

/-- ITS FALSE NEIGHBOUR: 'it returns false'. Refute it at one input. -/
def pathsNextsWrong : ChangeSpec := { name := "pathsNexts", fn := fun _ => fun
  | [d1, d2, d3] => { results := [.lit (.bool false)], args := [d1, d2, d3] }
  | _ => none }
def PathsNextsWrongFalsely : Prop := pathsNextsRow.holds Try.pinned (OpenSpec.ofChange pathsNextsWrong)

/-- 'pipewrightlaw.PathsShort': WHATEVER THE INPUT: true; the input reads as it did. -/
def pathsShortSpec : ChangeSpec := { name := "pathsShort", fn := fun _ => fun
  | [d1, d2] => { results := [.lit (.bool true)], args := [d1, d2] }
  | _ => none }
def pathsShortRow : OpenClaim := { program := "ytihibbejjmldjaa", sum := "fb4dce63329ec6fb7b74b508db296509ff4f51f574b2789f43a25fd60400a07f", func := "pipewright/pipewrightlaw.PathsShort", spec := "pathsShort", unfollowed := true, recurses := true, apart := false }
def PathsShortSaid : Prop := pathsShortRow.holds Try.pinned (OpenSpec.ofChange pathsShortSpec)

/-- ITS FALSE NEIGHBOUR: 'it returns false'. Refute it at one input. -/
def pathsShortWrong : ChangeSpec := { name := "pathsShort", fn := fun _ => fun
  | [d1, d2] => { results := [.lit (.bool false)], args := [d1, d2] }
  | _ => none }
def PathsShortWrongFalsely : Prop := pathsShortRow.holds Try.pinned (OpenSpec.ofChange pathsShortWrong)

/- THE SECOND FORM. 'bulk': how many values and letters a reading holds, each counted each time it is reached (what is shared counts as often as it is met; a slice's spare places count too). A statement '..UptoSaid' is the law's where the arguments, and the package variables that the reading takes, are together of bulk at most 1048576: NARROWER than '..Said'. Prove '..Said' where nothing that the law and all that it calls make is longer than what came in: it says more and counts as full. Else prove '..UptoSaid'. A law counts once. -/
mutual
def uptoBulk {H : Type} : DataW H → Nat
  | .lit (.string bytes) => bytes.length + 1
  | .lit _ => 1
  | .nil => 1
  | .ptr d => uptoBulk d + 1
  | .slice elems spare => uptoBulkAll elems + uptoBulkAll spare + 1
  | .agg parts => uptoBulkAll parts + 1
  | .iface _ d => uptoBulk d + 1
  | .map entries => uptoBulkEntries entries + 1
  | .held _ => 1
def uptoBulkAll {H : Type} : List (DataW H) → Nat
  | [] => 0
  | d :: r => uptoBulk d + uptoBulkAll r
def uptoBulkEntries {H : Type} : List (Lit × DataW H) → Nat
  | [] => 0
  | x :: r => uptoBulkEntry x + uptoBulkEntries r
def uptoBulkEntry {H : Type} : Lit × DataW H → Nat
  | (.string bytes, d) => bytes.length + uptoBulk d + 1
  | (_, d) => uptoBulk d + 1
 end
def uptoSmall : (H : Type) → List (DataW H) → Bool := fun _ ds => decide (uptoBulkAll ds ≤ 1048576)
def OpenSpec.upto (s : _root_.Go.ChangeSpec) : _root_.Go.OpenSpec := { _root_.Go.OpenSpec.ofChange s with cond := some uptoSmall }

/-- 'pipewrightlaw.PathsFinds', WHERE WHAT IT READS IS OF BULK AT MOST 1048576: true; the input reads as it did. -/
def pathsFindsUptoRow : OpenClaim := { program := "ytihibbejjmldjaa", sum := "fb4dce63329ec6fb7b74b508db296509ff4f51f574b2789f43a25fd60400a07f", func := "pipewright/pipewrightlaw.PathsFinds", spec := "pathsFinds", unfollowed := true, recurses := true, apart := false, narrowed := true }
def PathsFindsUptoSaid : Prop := pathsFindsUptoRow.holds Try.pinned (OpenSpec.upto pathsFindsSpec)

/-- 'pipewrightlaw.PathsNexts', WHERE WHAT IT READS IS OF BULK AT MOST 1048576: true; the input reads as it did. -/
def pathsNextsUptoRow : OpenClaim := { program := "ytihibbejjmldjaa", sum := "fb4dce63329ec6fb7b74b508db296509ff4f51f574b2789f43a25fd60400a07f", func := "pipewright/pipewrightlaw.PathsNexts", spec := "pathsNexts", unfollowed := true, recurses := true, apart := false, narrowed := true }
def PathsNextsUptoSaid : Prop := pathsNextsUptoRow.holds Try.pinned (OpenSpec.upto pathsNextsSpec)

/-- 'pipewrightlaw.PathsShort', WHERE WHAT IT READS IS OF BULK AT MOST 1048576: true; the input reads as it did. -/
def pathsShortUptoRow : OpenClaim := { program := "ytihibbejjmldjaa", sum := "fb4dce63329ec6fb7b74b508db296509ff4f51f574b2789f43a25fd60400a07f", func := "pipewright/pipewrightlaw.PathsShort", spec := "pathsShort", unfollowed := true, recurses := true, apart := false, narrowed := true }
def PathsShortUptoSaid : Prop := pathsShortUptoRow.holds Try.pinned (OpenSpec.upto pathsShortSpec)

end Rows
end Go.Proofs.Ytihibbejjmldjaa
