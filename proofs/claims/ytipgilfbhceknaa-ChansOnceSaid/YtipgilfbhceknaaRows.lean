/-
  No cell of these rows narrows 'for every input' (looked for: loops, veiled, ifaces, maps, wideKeys, modest, calm, conditions, laid).
  DERIVED. THE GIVEN ROWS OF THIS SEAT. 4 by the template 'for every input the law returns true; each argument reads behind the call as it read before'; 0 by the template 'total and deterministic' (their statements: YtipgilfbhceknaaTotals.lean).
  GIVEN WITH THE SEED: the statements are not yours to turn. If you find one false, say at which input.
  Laid BY PROGRAM, IN A SANDBOX (cutbox-rows.mjs): the forced cells as the released guide's own fill.sh prints them over the translation a9314c46ca930c1e… (all of the seat's roots in one cut). By AI agents, Wed Nov 11 2026. No macro, syntax, notation, axiom, sorry.
-/
import Derived.Test.YtipgilfbhceknaaChecked
import GoSem.Claim
import GoSem.ClaimJoined
import GoSem.ClaimMapViews
import Derived.JoinedTies
import Derived.KernelRfl
namespace Go.Proofs.Ytipgilfbhceknaa
/- THE CELL 'sum', in the pinned program and in every row, IS THE sha256 OF THE DUMP (.gsa) THAT YtipgilfbhceknaaProg.lean LOADS. Nothing in Lean hashes anything: it is a label: what it is worth is what the hold of that sum in a sandbox is worth. -/
noncomputable def Try.pinned : Pinned := { name := "ytipgilfbhceknaa", sum := "a9314c46ca930c1e7ab9fdf9c44d627d6634188afd8406c4a694fca999ef3158", checked := Try.checked }
namespace Rows
def none {H : Type} : Left H := { results := [], args := [] }

/-- 'pipewrightlaw.LedgerDoes': WHATEVER THE INPUT: true; the input reads as it did. -/
def ledgerDoesSpec : ChangeSpec := { name := "ledgerDoes", fn := fun _ => fun
  | [d] => { results := [.lit (.bool true)], args := [d] }
  | _ => none }
def ledgerDoesRow : OpenClaim := { program := "ytipgilfbhceknaa", sum := "a9314c46ca930c1e7ab9fdf9c44d627d6634188afd8406c4a694fca999ef3158", func := "pipewright/pipewrightlaw.LedgerDoes", spec := "ledgerDoes", apart := false }
def LedgerDoesSaid : Prop := ledgerDoesRow.holds Try.pinned (OpenSpec.ofChange ledgerDoesSpec)

/-- ITS FALSE NEIGHBOUR: 'it returns false'. Refute it at one input. -/
def ledgerDoesWrong : ChangeSpec := { name := "ledgerDoes", fn := fun _ => fun
  | [d] => { results := [.lit (.bool false)], args := [d] }
  | _ => none }
def LedgerDoesWrongFalsely : Prop := ledgerDoesRow.holds Try.pinned (OpenSpec.ofChange ledgerDoesWrong)

/-- 'pipewrightlaw.LedgerOnce': WHATEVER THE INPUT: true; the input reads as it did. -/
def ledgerOnceSpec : ChangeSpec := { name := "ledgerOnce", fn := fun _ => fun
  | [d1, d2] => { results := [.lit (.bool true)], args := [d1, d2] }
  | _ => none }
def ledgerOnceRow : OpenClaim := { program := "ytipgilfbhceknaa", sum := "a9314c46ca930c1e7ab9fdf9c44d627d6634188afd8406c4a694fca999ef3158", func := "pipewright/pipewrightlaw.LedgerOnce", spec := "ledgerOnce", apart := false }
def LedgerOnceSaid : Prop := ledgerOnceRow.holds Try.pinned (OpenSpec.ofChange ledgerOnceSpec)

/-- ITS FALSE NEIGHBOUR: 'it returns false'. Refute it at one input. -/
def ledgerOnceWrong : ChangeSpec := { name := "ledgerOnce", fn := fun _ => fun
  | [d1, d2] => { results := [.lit (.bool false)], args := [d1, d2] }
  | _ => none }
def LedgerOnceWrongFalsely : Prop := ledgerOnceRow.holds Try.pinned (OpenSpec.ofChange ledgerOnceWrong)

/-- 'pipewrightlaw.ChansDoes': WHATEVER THE INPUT: true; the input reads as it did. -/
def chansDoesSpec : ChangeSpec := { name := "chansDoes", fn := fun _ => fun
  | [d] => { results := [.lit (.bool true)], args := [d] }
  | _ => none }
def chansDoesRow : OpenClaim := { program := "ytipgilfbhceknaa", sum := "a9314c46ca930c1e7ab9fdf9c44d627d6634188afd8406c4a694fca999ef3158", func := "pipewright/pipewrightlaw.ChansDoes", spec := "chansDoes", recurses := true, apart := false }
def ChansDoesSaid : Prop := chansDoesRow.holds Try.pinned (OpenSpec.ofChange chansDoesSpec)

/-- ITS FALSE NEIGHBOUR: 'it returns false'. Refute it at one input. -/
def chansDoesWrong : ChangeSpec := { name := "chansDoes", fn := fun _ => fun
  | [d] => { results := [.lit (.bool false)], args := [d] }
  | _ => none }
def ChansDoesWrongFalsely : Prop := chansDoesRow.holds Try.pinned (OpenSpec.ofChange chansDoesWrong)

/-- 'pipewrightlaw.ChansOnce': WHATEVER THE INPUT: true; the input reads as it did. -/
def chansOnceSpec : ChangeSpec := { name := "chansOnce", fn := fun _ => fun
  | [d] => { results := [.lit (.bool true)], args := [d] }
  | _ => none }
def chansOnceRow : OpenClaim := { program := "ytipgilfbhceknaa", sum := "a9314c46ca930c1e7ab9fdf9c44d627d6634188afd8406c4a694fca999ef3158", func := "pipewright/pipewrightlaw.ChansOnce", spec := "chansOnce", recurses := true, apart := false }
def ChansOnceSaid : Prop := chansOnceRow.holds Try.pinned (OpenSpec.ofChange chansOnceSpec)

/-- ITS FALSE NEIGHBOUR: 'it returns false'. Refute it at one input. -/
def chansOnceWrong : ChangeSpec := { name := "chansOnce", fn := fun _ => fun
  | [d] => { results := [.lit (.bool false)], args := [d] }
  | _ => none }
def ChansOnceWrongFalsely : Prop := chansOnceRow.holds Try.pinned (OpenSpec.ofChange chansOnceWrong)

/- THE SECOND FORM. 'bulk': how many values and letters a reading holds, each counted each time it is reached (what is shared counts as often as it is met; a slice's spare places count too). A statement '..UptoSaid' is the law's where the arguments, and the package variables that the reading takes, are together of bulk at most 1048576: NARROWER than '..Said'. Prove '..Said' where nothing that the law and all that it calls make is longer than what came in: it says more and counts as full. Else prove '..UptoSaid'. A law counts once. -/
mutual
def uptoBulk {H : Type} : DataW H → Nat
  | .lit (.string bytes) => bytes.length + 1
  | .lit _ => 1
  | .nil => 1
  | .ptr d => uptoBulk d + 1
  | .slice elems spare => uptoBulkAll elems + uptoBulkAll spare + 1
  | .agg parts => uptoBulkAll parts + 1
  | .iface _ d => uptoBulk d + 1
  | .map entries => uptoBulkEntries entries + 1
  | .held _ => 1
def uptoBulkAll {H : Type} : List (DataW H) → Nat
  | [] => 0
  | d :: r => uptoBulk d + uptoBulkAll r
def uptoBulkEntries {H : Type} : List (Lit × DataW H) → Nat
  | [] => 0
  | x :: r => uptoBulkEntry x + uptoBulkEntries r
def uptoBulkEntry {H : Type} : Lit × DataW H → Nat
  | (.string bytes, d) => bytes.length + uptoBulk d + 1
  | (_, d) => uptoBulk d + 1
 end
def uptoSmall : (H : Type) → List (DataW H) → Bool := fun _ ds => decide (uptoBulkAll ds ≤ 1048576)
def OpenSpec.upto (s : _root_.Go.ChangeSpec) : _root_.Go.OpenSpec := { _root_.Go.OpenSpec.ofChange s with cond := some uptoSmall }

/-- 'pipewrightlaw.LedgerDoes', WHERE WHAT IT READS IS OF BULK AT MOST 1048576: true; the input reads as it did. -/
def ledgerDoesUptoRow : OpenClaim := { program := "ytipgilfbhceknaa", sum := "a9314c46ca930c1e7ab9fdf9c44d627d6634188afd8406c4a694fca999ef3158", func := "pipewright/pipewrightlaw.LedgerDoes", spec := "ledgerDoes", apart := false, narrowed := true }
def LedgerDoesUptoSaid : Prop := ledgerDoesUptoRow.holds Try.pinned (OpenSpec.upto ledgerDoesSpec)

/-- 'pipewrightlaw.LedgerOnce', WHERE WHAT IT READS IS OF BULK AT MOST 1048576: true; the input reads as it did. -/
def ledgerOnceUptoRow : OpenClaim := { program := "ytipgilfbhceknaa", sum := "a9314c46ca930c1e7ab9fdf9c44d627d6634188afd8406c4a694fca999ef3158", func := "pipewright/pipewrightlaw.LedgerOnce", spec := "ledgerOnce", apart := false, narrowed := true }
def LedgerOnceUptoSaid : Prop := ledgerOnceUptoRow.holds Try.pinned (OpenSpec.upto ledgerOnceSpec)

/-- 'pipewrightlaw.ChansDoes', WHERE WHAT IT READS IS OF BULK AT MOST 1048576: true; the input reads as it did. -/
def chansDoesUptoRow : OpenClaim := { program := "ytipgilfbhceknaa", sum := "a9314c46ca930c1e7ab9fdf9c44d627d6634188afd8406c4a694fca999ef3158", func := "pipewright/pipewrightlaw.ChansDoes", spec := "chansDoes", recurses := true, apart := false, narrowed := true }
def ChansDoesUptoSaid : Prop := chansDoesUptoRow.holds Try.pinned (OpenSpec.upto chansDoesSpec)

/-- 'pipewrightlaw.ChansOnce', WHERE WHAT IT READS IS OF BULK AT MOST 1048576: true; the input reads as it did. -/
def chansOnceUptoRow : OpenClaim := { program := "ytipgilfbhceknaa", sum := "a9314c46ca930c1e7ab9fdf9c44d627d6634188afd8406c4a694fca999ef3158", func := "pipewright/pipewrightlaw.ChansOnce", spec := "chansOnce", recurses := true, apart := false, narrowed := true }
def ChansOnceUptoSaid : Prop := chansOnceUptoRow.holds Try.pinned (OpenSpec.upto chansOnceSpec)

end Rows
end Go.Proofs.Ytipgilfbhceknaa
