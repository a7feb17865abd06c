/-
  No cell of these rows narrows 'for every input' (looked for: loops, veiled, ifaces, maps, wideKeys, modest, calm, conditions, laid).
  DERIVED. THE GIVEN ROWS OF THIS SEAT. 3 by the template 'for every input the law returns true; each argument reads behind the call as it read before'; 0 by the template 'total and deterministic' (their statements: YtehaojgljahjbaaTotals.lean).
  GIVEN WITH THE SEED: the statements are not yours to turn. If you find one false, say at which input.
  Laid BY PROGRAM, IN A SANDBOX (cutbox-rows.mjs): the forced cells as the released guide's own fill.sh prints them over the translation 92be4b7ffeb42233… (all of the seat's roots in one cut). By AI agents, Wed Nov 11 2026. No macro, syntax, notation, axiom, sorry.
-/
import Derived.Test.YtehaojgljahjbaaChecked
import GoSem.Claim
import GoSem.ClaimJoined
import GoSem.ClaimMapViews
import Derived.JoinedTies
import Derived.KernelRfl
namespace Go.Proofs.Ytehaojgljahjbaa
/- THE CELL 'sum', in the pinned program and in every row, IS THE sha256 OF THE DUMP (.gsa) THAT YtehaojgljahjbaaProg.lean LOADS. Nothing in Lean hashes anything: it is a label: what it is worth is what the hold of that sum in a sandbox is worth. -/
noncomputable def Try.pinned : Pinned := { name := "ytehaojgljahjbaa", sum := "92be4b7ffeb42233180c7035f6abdf5e1e1df886a685f5ebb1f1ed6bc5fb665d", checked := Try.checked }
namespace Rows
def none {H : Type} : Left H := { results := [], args := [] }

/-- 'clusterlockslaw28.RegenOne': WHATEVER THE INPUT: true; the input reads as it did. -/
def regenOneSpec : ChangeSpec := { name := "regenOne", fn := fun _ => fun
  | [d1, d2] => { results := [.lit (.bool true)], args := [d1, d2] }
  | _ => none }
def regenOneRow : OpenClaim := { program := "ytehaojgljahjbaa", sum := "92be4b7ffeb42233180c7035f6abdf5e1e1df886a685f5ebb1f1ed6bc5fb665d", func := "clusterlocks/clusterlockslaw28.RegenOne", spec := "regenOne", unfollowed := true, recurses := true, apart := false }
def RegenOneSaid : Prop := regenOneRow.holds Try.pinned (OpenSpec.ofChange regenOneSpec)

/-- ITS FALSE NEIGHBOUR: 'it returns false'. Refute it at one input. -/
def regenOneWrong : ChangeSpec := { name := "regenOne", fn := fun _ => fun
  | [d1, d2] => { results := [.lit (.bool false)], args := [d1, d2] }
  | _ => none }
def RegenOneWrongFalsely : Prop := regenOneRow.holds Try.pinned (OpenSpec.ofChange regenOneWrong)

/-- 'clusterlockslaw28.RegenThere': WHATEVER THE INPUT: true; the input reads as it did. -/
def regenThereSpec : ChangeSpec := { name := "regenThere", fn := fun _ => fun
  | [d1, d2, d3] => { results := [.lit (.bool true)], args := [d1, d2, d3] }
  | _ => none }
def regenThereRow : OpenClaim := { program := "ytehaojgljahjbaa", sum := "92be4b7ffeb42233180c7035f6abdf5e1e1df886a685f5ebb1f1ed6bc5fb665d", func := "clusterlocks/clusterlockslaw28.RegenThere", spec := "regenThere", unfollowed := true, recurses := true, apart := false }
def RegenThereSaid : Prop := regenThereRow.holds Try.pinned (OpenSpec.ofChange regenThereSpec)

/-- ITS FALSE NEIGHBOUR: 'it returns false'. Refute it at one input. -/
def regenThereWrong : ChangeSpec := { name := "regenThere", fn := fun _ => fun
  | [d1, d2, d3] => { results := [.lit (.bool false)], args := [d1, d2, d3] }
  | _ => none }
def RegenThereWrongFalsely : Prop := regenThereRow.holds Try.pinned (OpenSpec.ofChange regenThereWrong)

/-- 'clusterlockslaw28.RegenRises': WHATEVER THE INPUT: true; the input reads as it did. -/
def regenRisesSpec : ChangeSpec := { name := "regenRises", fn := fun _ => fun
  | [d1, d2, d3] => { results := [.lit (.bool true)], args := [d1, d2, d3] }
  | _ => none }
def regenRisesRow : OpenClaim := { program := "ytehaojgljahjbaa", sum := "92be4b7ffeb42233180c7035f6abdf5e1e1df886a685f5ebb1f1ed6bc5fb665d", func := "clusterlocks/clusterlockslaw28.RegenRises", spec := "regenRises", unfollowed := true, recurses := true, apart := false }
def RegenRisesSaid : Prop := regenRisesRow.holds Try.pinned (OpenSpec.ofChange regenRisesSpec)

/-- ITS FALSE NEIGHBOUR: 'it returns false'. Refute it at one input. -/
def regenRisesWrong : ChangeSpec := { name := "regenRises", fn := fun _ => fun
  | [d1, d2, d3] => { results := [.lit (.bool false)], args := [d1, d2, d3] }
  | _ => none }
def RegenRisesWrongFalsely : Prop := regenRisesRow.holds Try.pinned (OpenSpec.ofChange regenRisesWrong)

/- THE SECOND FORM. 'bulk': how many values and letters a reading holds, each counted each time it is reached (what is shared counts as often as it is met; a slice's spare places count too). A statement '..UptoSaid' is the law's where the arguments, and the package variables that the reading takes, are together of bulk at most 1048576: NARROWER than '..Said'. Prove '..Said' where nothing that the law and all that it calls make is longer than what came in: it says more and counts as full. Else prove '..UptoSaid'. A law counts once. -/
mutual
def uptoBulk {H : Type} : DataW H → Nat
  | .lit (.string bytes) => bytes.length + 1
  | .lit _ => 1
  | .nil => 1
  | .ptr d => uptoBulk d + 1
  | .slice elems spare => uptoBulkAll elems + uptoBulkAll spare + 1
  | .agg parts => uptoBulkAll parts + 1
  | .iface _ d => uptoBulk d + 1
  | .map entries => uptoBulkEntries entries + 1
  | .held _ => 1
def uptoBulkAll {H : Type} : List (DataW H) → Nat
  | [] => 0
  | d :: r => uptoBulk d + uptoBulkAll r
def uptoBulkEntries {H : Type} : List (Lit × DataW H) → Nat
  | [] => 0
  | x :: r => uptoBulkEntry x + uptoBulkEntries r
def uptoBulkEntry {H : Type} : Lit × DataW H → Nat
  | (.string bytes, d) => bytes.length + uptoBulk d + 1
  | (_, d) => uptoBulk d + 1
 end
def uptoSmall : (H : Type) → List (DataW H) → Bool := fun _ ds => decide (uptoBulkAll ds ≤ 1048576)
def OpenSpec.upto (s : _root_.Go.ChangeSpec) : _root_.Go.OpenSpec := { _root_.Go.OpenSpec.ofChange s with cond := some uptoSmall }

/-- 'clusterlockslaw28.RegenOne', WHERE WHAT IT READS IS OF BULK AT MOST 1048576: true; the input reads as it did. -/
def regenOneUptoRow : OpenClaim := { program := "ytehaojgljahjbaa", sum := "92be4b7ffeb42233180c7035f6abdf5e1e1df886a685f5ebb1f1ed6bc5fb665d", func := "clusterlocks/clusterlockslaw28.RegenOne", spec := "regenOne", unfollowed := true, recurses := true, apart := false, narrowed := true }
def RegenOneUptoSaid : Prop := regenOneUptoRow.holds Try.pinned (OpenSpec.upto regenOneSpec)

/-- 'clusterlockslaw28.RegenThere', WHERE WHAT IT READS IS OF BULK AT MOST 1048576: true; the input reads as it did. -/
def regenThereUptoRow : OpenClaim := { program := "ytehaojgljahjbaa", sum := "92be4b7ffeb42233180c7035f6abdf5e1e1df886a685f5ebb1f1ed6bc5fb665d", func := "clusterlocks/clusterlockslaw28.RegenThere", spec := "regenThere", unfollowed := true, recurses := true, apart := false, narrowed := true }
def RegenThereUptoSaid : Prop := regenThereUptoRow.holds Try.pinned (OpenSpec.upto regenThereSpec)

/-- 'clusterlockslaw28.RegenRises', WHERE WHAT IT READS IS OF BULK AT MOST 1048576: true; the input reads as it did. -/
def regenRisesUptoRow : OpenClaim := { program := "ytehaojgljahjbaa", sum := "92be4b7ffeb42233180c7035f6abdf5e1e1df886a685f5ebb1f1ed6bc5fb665d", func := "clusterlocks/clusterlockslaw28.RegenRises", spec := "regenRises", unfollowed := true, recurses := true, apart := false, narrowed := true }
def RegenRisesUptoSaid : Prop := regenRisesUptoRow.holds Try.pinned (OpenSpec.upto regenRisesSpec)

end Rows
end Go.Proofs.Ytehaojgljahjbaa
