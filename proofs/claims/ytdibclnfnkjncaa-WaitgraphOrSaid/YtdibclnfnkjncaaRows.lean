/-
  No cell of these rows narrows 'for every input' (looked for: loops, veiled, ifaces, maps, wideKeys, modest, calm, conditions, laid).
  DERIVED. THE GIVEN ROWS OF THIS SEAT. 7 by the template 'for every input the law returns true; each argument reads behind the call as it read before'; 0 by the template 'total and deterministic' (their statements: YtdibclnfnkjncaaTotals.lean).
  GIVEN WITH THE SEED: the statements are not yours to turn. If you find one false, say at which input.
  Laid BY PROGRAM, IN A SANDBOX (cutbox-rows.mjs): the forced cells as the released guide's own fill.sh prints them over the translation d1214c9812634c5c… (all of the seat's roots in one cut). By AI agents, Wed Nov 11 2026. No macro, syntax, notation, axiom, sorry.
-/
import Derived.Test.YtdibclnfnkjncaaChecked
import GoSem.Claim
import GoSem.ClaimJoined
import GoSem.ClaimMapViews
import Derived.JoinedTies
import Derived.KernelRfl
namespace Go.Proofs.Ytdibclnfnkjncaa
/- THE CELL 'sum', in the pinned program and in every row, IS THE sha256 OF THE DUMP (.gsa) THAT YtdibclnfnkjncaaProg.lean LOADS. Nothing in Lean hashes anything: it is a label: what it is worth is what the hold of that sum in a sandbox is worth. -/
noncomputable def Try.pinned : Pinned := { name := "ytdibclnfnkjncaa", sum := "d1214c9812634c5ce2a679b8fdd6c4ed2a8dc6e9cac002e5d3174d37d1ab8bbf", checked := Try.checked }
namespace Rows
def none {H : Type} : Left H := { results := [], args := [] }

/-- 'clusterlockslaw19.WaitgraphStuck': WHATEVER THE INPUT: true; the input reads as it did. -/
def waitgraphStuckSpec : ChangeSpec := { name := "waitgraphStuck", fn := fun _ => fun
  | [d1, d2] => { results := [.lit (.bool true)], args := [d1, d2] }
  | _ => none }
def waitgraphStuckRow : OpenClaim := { program := "ytdibclnfnkjncaa", sum := "d1214c9812634c5ce2a679b8fdd6c4ed2a8dc6e9cac002e5d3174d37d1ab8bbf", func := "clusterlocks/clusterlockslaw19.WaitgraphStuck", spec := "waitgraphStuck", unfollowed := true, recurses := true, apart := false }
def WaitgraphStuckSaid : Prop := waitgraphStuckRow.holds Try.pinned (OpenSpec.ofChange waitgraphStuckSpec)

/-- ITS FALSE NEIGHBOUR: 'it returns false'. Refute it at one input. -/
def waitgraphStuckWrong : ChangeSpec := { name := "waitgraphStuck", fn := fun _ => fun
  | [d1, d2] => { results := [.lit (.bool false)], args := [d1, d2] }
  | _ => none }
def WaitgraphStuckWrongFalsely : Prop := waitgraphStuckRow.holds Try.pinned (OpenSpec.ofChange waitgraphStuckWrong)

/-- 'clusterlockslaw19.WaitgraphCycles': WHATEVER THE INPUT: true; the input reads as it did. -/
def waitgraphCyclesSpec : ChangeSpec := { name := "waitgraphCycles", fn := fun _ => fun
  | [d1, d2] => { results := [.lit (.bool true)], args := [d1, d2] }
  | _ => none }
def waitgraphCyclesRow : OpenClaim := { program := "ytdibclnfnkjncaa", sum := "d1214c9812634c5ce2a679b8fdd6c4ed2a8dc6e9cac002e5d3174d37d1ab8bbf", func := "clusterlocks/clusterlockslaw19.WaitgraphCycles", spec := "waitgraphCycles", unfollowed := true, recurses := true, apart := false }
def WaitgraphCyclesSaid : Prop := waitgraphCyclesRow.holds Try.pinned (OpenSpec.ofChange waitgraphCyclesSpec)

/-- ITS FALSE NEIGHBOUR: 'it returns false'. Refute it at one input. -/
def waitgraphCyclesWrong : ChangeSpec := { name := "waitgraphCycles", fn := fun _ => fun
  | [d1, d2] => { results := [.lit (.bool false)], args := [d1, d2] }
  | _ => none }
def WaitgraphCyclesWrongFalsely : Prop := waitgraphCyclesRow.holds Try.pinned (OpenSpec.ofChange waitgraphCyclesWrong)

/-- 'clusterlockslaw19.WaitgraphMade': WHATEVER THE INPUT: true; the input reads as it did. -/
def waitgraphMadeSpec : ChangeSpec := { name := "waitgraphMade", fn := fun _ => fun
  | [d1, d2] => { results := [.lit (.bool true)], args := [d1, d2] }
  | _ => none }
def waitgraphMadeRow : OpenClaim := { program := "ytdibclnfnkjncaa", sum := "d1214c9812634c5ce2a679b8fdd6c4ed2a8dc6e9cac002e5d3174d37d1ab8bbf", func := "clusterlocks/clusterlockslaw19.WaitgraphMade", spec := "waitgraphMade", unfollowed := true, recurses := true, apart := false }
def WaitgraphMadeSaid : Prop := waitgraphMadeRow.holds Try.pinned (OpenSpec.ofChange waitgraphMadeSpec)

/-- ITS FALSE NEIGHBOUR: 'it returns false'. Refute it at one input. -/
def waitgraphMadeWrong : ChangeSpec := { name := "waitgraphMade", fn := fun _ => fun
  | [d1, d2] => { results := [.lit (.bool false)], args := [d1, d2] }
  | _ => none }
def WaitgraphMadeWrongFalsely : Prop := waitgraphMadeRow.holds Try.pinned (OpenSpec.ofChange waitgraphMadeWrong)

/-- 'clusterlockslaw19.WaitgraphPaths': WHATEVER THE INPUT: true; the input reads as it did. -/
def waitgraphPathsSpec : ChangeSpec := { name := "waitgraphPaths", fn := fun _ => fun
  | [d1, d2] => { results := [.lit (.bool true)], args := [d1, d2] }
  | _ => none }
def waitgraphPathsRow : OpenClaim := { program := "ytdibclnfnkjncaa", sum := "d1214c9812634c5ce2a679b8fdd6c4ed2a8dc6e9cac002e5d3174d37d1ab8bbf", func := "clusterlocks/clusterlockslaw19.WaitgraphPaths", spec := "waitgraphPaths", unfollowed := true, recurses := true, apart := false }
def WaitgraphPathsSaid : Prop := waitgraphPathsRow.holds Try.pinned (OpenSpec.ofChange waitgraphPathsSpec)

/-- ITS FALSE NEIGHBOUR: 'it returns false'. Refute it at one input. -/
def waitgraphPathsWrong : ChangeSpec := { name := "waitgraphPaths", fn := fun _ => fun
  | [d1, d2] => { results := [.lit (.bool false)], args := [d1, d2] }
  | _ => none }
def WaitgraphPathsWrongFalsely : Prop := waitgraphPathsRow.holds Try.pinned (OpenSpec.ofChange waitgraphPathsWrong)

/-- 'clusterlockslaw19.WaitgraphAnd': WHATEVER THE INPUT: true; the input reads as it did. -/
def waitgraphAndSpec : ChangeSpec := { name := "waitgraphAnd", fn := fun _ => fun
  | [d] => { results := [.lit (.bool true)], args := [d] }
  | _ => none }
def waitgraphAndRow : OpenClaim := { program := "ytdibclnfnkjncaa", sum := "d1214c9812634c5ce2a679b8fdd6c4ed2a8dc6e9cac002e5d3174d37d1ab8bbf", func := "clusterlocks/clusterlockslaw19.WaitgraphAnd", spec := "waitgraphAnd", unfollowed := true, recurses := true, apart := false }
def WaitgraphAndSaid : Prop := waitgraphAndRow.holds Try.pinned (OpenSpec.ofChange waitgraphAndSpec)

/-- ITS FALSE NEIGHBOUR: 'it returns false'. Refute it at one input. -/
def waitgraphAndWrong : ChangeSpec := { name := "waitgraphAnd", fn := fun _ => fun
  | [d] => { results := [.lit (.bool false)], args := [d] }
  | _ => none }
def WaitgraphAndWrongFalsely : Prop := waitgraphAndRow.holds Try.pinned (OpenSpec.ofChange waitgraphAndWrong)

/-- 'clusterlockslaw19.WaitgraphOr': WHATEVER THE INPUT: true; the input reads as it did. -/
def waitgraphOrSpec : ChangeSpec := { name := "waitgraphOr", fn := fun _ => fun
  | [d] => { results := [.lit (.bool true)], args := [d] }
  | _ => none }
def waitgraphOrRow : OpenClaim := { program := "ytdibclnfnkjncaa", sum := "d1214c9812634c5ce2a679b8fdd6c4ed2a8dc6e9cac002e5d3174d37d1ab8bbf", func := "clusterlocks/clusterlockslaw19.WaitgraphOr", spec := "waitgraphOr", unfollowed := true, recurses := true, apart := false }
def WaitgraphOrSaid : Prop := waitgraphOrRow.holds Try.pinned (OpenSpec.ofChange waitgraphOrSpec)

/-- ITS FALSE NEIGHBOUR: 'it returns false'. Refute it at one input. -/
def waitgraphOrWrong : ChangeSpec := { name := "waitgraphOr", fn := fun _ => fun
  | [d] => { results := [.lit (.bool false)], args := [d] }
  | _ => none }
def WaitgraphOrWrongFalsely : Prop := waitgraphOrRow.holds Try.pinned (OpenSpec.ofChange waitgraphOrWrong)

/-- 'clusterlockslaw19.WaitgraphFewer': WHATEVER THE INPUT: true; the input reads as it did. -/
def waitgraphFewerSpec : ChangeSpec := { name := "waitgraphFewer", fn := fun _ => fun
  | [d1, d2, d3] => { results := [.lit (.bool true)], args := [d1, d2, d3] }
  | _ => none }
def waitgraphFewerRow : OpenClaim := { program := "ytdibclnfnkjncaa", sum := "d1214c9812634c5ce2a679b8fdd6c4ed2a8dc6e9cac002e5d3174d37d1ab8bbf", func := "clusterlocks/clusterlockslaw19.WaitgraphFewer", spec := "waitgraphFewer", unfollowed := true, recurses := true, apart := false }
def WaitgraphFewerSaid : Prop := waitgraphFewerRow.holds Try.pinned (OpenSpec.ofChange waitgraphFewerSpec)

/-- ITS FALSE NEIGHBOUR: 'it returns false'. Refute it at one input. -/
def waitgraphFewerWrong : ChangeSpec := { name := "waitgraphFewer", fn := fun _ => fun
  | [d1, d2, d3] => { results := [.lit (.bool false)], args := [d1, d2, d3] }
  | _ => none }
def WaitgraphFewerWrongFalsely : Prop := waitgraphFewerRow.holds Try.pinned (OpenSpec.ofChange waitgraphFewerWrong)

/- THE SECOND FORM. 'bulk': how many values and letters a reading holds, each counted each time it is reached (what is shared counts as often as it is met; a slice's spare places count too). A statement '..UptoSaid' is the law's where the arguments, and the package variables that the reading takes, are together of bulk at most 1048576: NARROWER than '..Said'. Prove '..Said' where nothing that the law and all that it calls make is longer than what came in: it says more and counts as full. Else prove '..UptoSaid'. A law counts once. -/
mutual
def uptoBulk {H : Type} : DataW H → Nat
  | .lit (.string bytes) => bytes.length + 1
  | .lit _ => 1
  | .nil => 1
  | .ptr d => uptoBulk d + 1
  | .slice elems spare => uptoBulkAll elems + uptoBulkAll spare + 1
  | .agg parts => uptoBulkAll parts + 1
  | .iface _ d => uptoBulk d + 1
  | .map entries => uptoBulkEntries entries + 1
  | .held _ => 1
def uptoBulkAll {H : Type} : List (DataW H) → Nat
  | [] => 0
  | d :: r => uptoBulk d + uptoBulkAll r
def uptoBulkEntries {H : Type} : List (Lit × DataW H) → Nat
  | [] => 0
  | x :: r => uptoBulkEntry x + uptoBulkEntries r
def uptoBulkEntry {H : Type} : Lit × DataW H → Nat
  | (.string bytes, d) => bytes.length + uptoBulk d + 1
  | (_, d) => uptoBulk d + 1
 end
def uptoSmall : (H : Type) → List (DataW H) → Bool := fun _ ds => decide (uptoBulkAll ds ≤ 1048576)
def OpenSpec.upto (s : _root_.Go.ChangeSpec) : _root_.Go.OpenSpec := { _root_.Go.OpenSpec.ofChange s with cond := some uptoSmall }

/-- 'clusterlockslaw19.WaitgraphStuck', WHERE WHAT IT READS IS OF BULK AT MOST 1048576: true; the input reads as it did. -/
def waitgraphStuckUptoRow : OpenClaim := { program := "ytdibclnfnkjncaa", sum := "d1214c9812634c5ce2a679b8fdd6c4ed2a8dc6e9cac002e5d3174d37d1ab8bbf", func := "clusterlocks/clusterlockslaw19.WaitgraphStuck", spec := "waitgraphStuck", unfollowed := true, recurses := true, apart := false, narrowed := true }
def WaitgraphStuckUptoSaid : Prop := waitgraphStuckUptoRow.holds Try.pinned (OpenSpec.upto waitgraphStuckSpec)

/-- 'clusterlockslaw19.WaitgraphCycles', WHERE WHAT IT READS IS OF BULK AT MOST 1048576: true; the input reads as it did. -/
def waitgraphCyclesUptoRow : OpenClaim := { program := "ytdibclnfnkjncaa", sum := "d1214c9812634c5ce2a679b8fdd6c4ed2a8dc6e9cac002e5d3174d37d1ab8bbf", func := "clusterlocks/clusterlockslaw19.WaitgraphCycles", spec := "waitgraphCycles", unfollowed := true, recurses := true, apart := false, narrowed := true }
def WaitgraphCyclesUptoSaid : Prop := waitgraphCyclesUptoRow.holds Try.pinned (OpenSpec.upto waitgraphCyclesSpec)

/-- 'clusterlockslaw19.WaitgraphMade', WHERE WHAT IT READS IS OF BULK AT MOST 1048576: true; the input reads as it did. -/
def waitgraphMadeUptoRow : OpenClaim := { program := "ytdibclnfnkjncaa", sum := "d1214c9812634c5ce2a679b8fdd6c4ed2a8dc6e9cac002e5d3174d37d1ab8bbf", func := "clusterlocks/clusterlockslaw19.WaitgraphMade", spec := "waitgraphMade", unfollowed := true, recurses := true, apart := false, narrowed := true }
def WaitgraphMadeUptoSaid : Prop := waitgraphMadeUptoRow.holds Try.pinned (OpenSpec.upto waitgraphMadeSpec)

/-- 'clusterlockslaw19.WaitgraphPaths', WHERE WHAT IT READS IS OF BULK AT MOST 1048576: true; the input reads as it did. -/
def waitgraphPathsUptoRow : OpenClaim := { program := "ytdibclnfnkjncaa", sum := "d1214c9812634c5ce2a679b8fdd6c4ed2a8dc6e9cac002e5d3174d37d1ab8bbf", func := "clusterlocks/clusterlockslaw19.WaitgraphPaths", spec := "waitgraphPaths", unfollowed := true, recurses := true, apart := false, narrowed := true }
def WaitgraphPathsUptoSaid : Prop := waitgraphPathsUptoRow.holds Try.pinned (OpenSpec.upto waitgraphPathsSpec)

/-- 'clusterlockslaw19.WaitgraphAnd', WHERE WHAT IT READS IS OF BULK AT MOST 1048576: true; the input reads as it did. -/
def waitgraphAndUptoRow : OpenClaim := { program := "ytdibclnfnkjncaa", sum := "d1214c9812634c5ce2a679b8fdd6c4ed2a8dc6e9cac002e5d3174d37d1ab8bbf", func := "clusterlocks/clusterlockslaw19.WaitgraphAnd", spec := "waitgraphAnd", unfollowed := true, recurses := true, apart := false, narrowed := true }
def WaitgraphAndUptoSaid : Prop := waitgraphAndUptoRow.holds Try.pinned (OpenSpec.upto waitgraphAndSpec)

/-- 'clusterlockslaw19.WaitgraphOr', WHERE WHAT IT READS IS OF BULK AT MOST 1048576: true; the input reads as it did. -/
def waitgraphOrUptoRow : OpenClaim := { program := "ytdibclnfnkjncaa", sum := "d1214c9812634c5ce2a679b8fdd6c4ed2a8dc6e9cac002e5d3174d37d1ab8bbf", func := "clusterlocks/clusterlockslaw19.WaitgraphOr", spec := "waitgraphOr", unfollowed := true, recurses := true, apart := false, narrowed := true }
def WaitgraphOrUptoSaid : Prop := waitgraphOrUptoRow.holds Try.pinned (OpenSpec.upto waitgraphOrSpec)

/-- 'clusterlockslaw19.WaitgraphFewer', WHERE WHAT IT READS IS OF BULK AT MOST 1048576: true; the input reads as it did. -/
def waitgraphFewerUptoRow : OpenClaim := { program := "ytdibclnfnkjncaa", sum := "d1214c9812634c5ce2a679b8fdd6c4ed2a8dc6e9cac002e5d3174d37d1ab8bbf", func := "clusterlocks/clusterlockslaw19.WaitgraphFewer", spec := "waitgraphFewer", unfollowed := true, recurses := true, apart := false, narrowed := true }
def WaitgraphFewerUptoSaid : Prop := waitgraphFewerUptoRow.holds Try.pinned (OpenSpec.upto waitgraphFewerSpec)

end Rows
end Go.Proofs.Ytdibclnfnkjncaa
