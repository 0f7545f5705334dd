/-
  No cell of these rows narrows 'for every input' (looked for: loops, veiled, ifaces, maps, wideKeys, modest, calm, conditions, laid).
  DERIVED. THE GIVEN ROWS OF THIS SEAT. 4 by the template 'for every input the law returns true; each argument reads behind the call as it read before'; 0 by the template 'total and deterministic' (their statements: YtekailaoanpcgaaTotals.lean).
  GIVEN WITH THE SEED: the statements are not yours to turn. If you find one false, say at which input.
  Laid BY PROGRAM, IN A SANDBOX (cutbox-rows.mjs): the forced cells as the released guide's own fill.sh prints them over the translation 7f89eb1d32e28989… (all of the seat's roots in one cut). By AI agents, Wed Nov 11 2026. No macro, syntax, notation, axiom, sorry.
-/
import Derived.Test.YtekailaoanpcgaaChecked
import GoSem.Claim
import GoSem.ClaimJoined
import GoSem.ClaimMapViews
import Derived.JoinedTies
import Derived.KernelRfl
namespace Go.Proofs.Ytekailaoanpcgaa
/- THE CELL 'sum', in the pinned program and in every row, IS THE sha256 OF THE DUMP (.gsa) THAT YtekailaoanpcgaaProg.lean LOADS. Nothing in Lean hashes anything: it is a label: what it is worth is what the hold of that sum in a sandbox is worth. -/
noncomputable def Try.pinned : Pinned := { name := "ytekailaoanpcgaa", sum := "7f89eb1d32e28989032426af9b508c2fe390ed62fe171673fe5ad54d8760633b", checked := Try.checked }
namespace Rows
def none {H : Type} : Left H := { results := [], args := [] }

/-- 'primerlaw18.RollTurned': WHATEVER THE INPUT: true; the input reads as it did. -/
def rollTurnedSpec : ChangeSpec := { name := "rollTurned", fn := fun _ => fun
  | [d] => { results := [.lit (.bool true)], args := [d] }
  | _ => none }
def rollTurnedRow : OpenClaim := { program := "ytekailaoanpcgaa", sum := "7f89eb1d32e28989032426af9b508c2fe390ed62fe171673fe5ad54d8760633b", func := "primer/primerlaw18.RollTurned", spec := "rollTurned", inPlace := ["internal/bytealg.abigen_runtime_cmpstring", "slices.overlaps[primer/roll.Member]", "slices.overlaps[primer/roll.Class]", "slices.overlaps[string]"], unfollowed := true, recurses := true, apart := false }
def RollTurnedSaid : Prop := rollTurnedRow.holds Try.pinned (OpenSpec.ofChange rollTurnedSpec)

/-- ITS FALSE NEIGHBOUR: 'it returns false'. Refute it at one input. -/
def rollTurnedWrong : ChangeSpec := { name := "rollTurned", fn := fun _ => fun
  | [d] => { results := [.lit (.bool false)], args := [d] }
  | _ => none }
def RollTurnedWrongFalsely : Prop := rollTurnedRow.holds Try.pinned (OpenSpec.ofChange rollTurnedWrong)

/-- 'primerlaw18.RollKeeps': WHATEVER THE INPUT: true; the input reads as it did. -/
def rollKeepsSpec : ChangeSpec := { name := "rollKeeps", fn := fun _ => fun
  | [d] => { results := [.lit (.bool true)], args := [d] }
  | _ => none }
def rollKeepsRow : OpenClaim := { program := "ytekailaoanpcgaa", sum := "7f89eb1d32e28989032426af9b508c2fe390ed62fe171673fe5ad54d8760633b", func := "primer/primerlaw18.RollKeeps", spec := "rollKeeps", inPlace := ["internal/bytealg.abigen_runtime_cmpstring", "slices.overlaps[primer/roll.Member]", "slices.overlaps[primer/roll.Class]", "slices.overlaps[string]"], unfollowed := true, recurses := true, apart := false }
def RollKeepsSaid : Prop := rollKeepsRow.holds Try.pinned (OpenSpec.ofChange rollKeepsSpec)

/-- ITS FALSE NEIGHBOUR: 'it returns false'. Refute it at one input. -/
def rollKeepsWrong : ChangeSpec := { name := "rollKeeps", fn := fun _ => fun
  | [d] => { results := [.lit (.bool false)], args := [d] }
  | _ => none }
def RollKeepsWrongFalsely : Prop := rollKeepsRow.holds Try.pinned (OpenSpec.ofChange rollKeepsWrong)

/-- 'primerlaw18.RollBytes': WHATEVER THE INPUT: true; the input reads as it did. -/
def rollBytesSpec : ChangeSpec := { name := "rollBytes", fn := fun _ => fun
  | [d] => { results := [.lit (.bool true)], args := [d] }
  | _ => none }
def rollBytesRow : OpenClaim := { program := "ytekailaoanpcgaa", sum := "7f89eb1d32e28989032426af9b508c2fe390ed62fe171673fe5ad54d8760633b", func := "primer/primerlaw18.RollBytes", spec := "rollBytes", inPlace := ["internal/bytealg.abigen_runtime_cmpstring", "slices.overlaps[primer/roll.Member]", "slices.overlaps[primer/roll.Class]"], unfollowed := true, recurses := true, apart := false }
def RollBytesSaid : Prop := rollBytesRow.holds Try.pinned (OpenSpec.ofChange rollBytesSpec)

/-- ITS FALSE NEIGHBOUR: 'it returns false'. Refute it at one input. -/
def rollBytesWrong : ChangeSpec := { name := "rollBytes", fn := fun _ => fun
  | [d] => { results := [.lit (.bool false)], args := [d] }
  | _ => none }
def RollBytesWrongFalsely : Prop := rollBytesRow.holds Try.pinned (OpenSpec.ofChange rollBytesWrong)

/-- 'primerlaw18.RollFull': WHATEVER THE INPUT: true; the input reads as it did. -/
def rollFullSpec : ChangeSpec := { name := "rollFull", fn := fun _ => fun
  | [d] => { results := [.lit (.bool true)], args := [d] }
  | _ => none }
def rollFullRow : OpenClaim := { program := "ytekailaoanpcgaa", sum := "7f89eb1d32e28989032426af9b508c2fe390ed62fe171673fe5ad54d8760633b", func := "primer/primerlaw18.RollFull", spec := "rollFull", inPlace := ["internal/bytealg.abigen_runtime_cmpstring", "slices.overlaps[primer/roll.Member]", "slices.overlaps[primer/roll.Class]"], unfollowed := true, recurses := true, apart := false }
def RollFullSaid : Prop := rollFullRow.holds Try.pinned (OpenSpec.ofChange rollFullSpec)

/-- ITS FALSE NEIGHBOUR: 'it returns false'. Refute it at one input. -/
def rollFullWrong : ChangeSpec := { name := "rollFull", fn := fun _ => fun
  | [d] => { results := [.lit (.bool false)], args := [d] }
  | _ => none }
def RollFullWrongFalsely : Prop := rollFullRow.holds Try.pinned (OpenSpec.ofChange rollFullWrong)

/- THE SECOND FORM. 'bulk': how many values and letters a reading holds, each counted each time it is reached (what is shared counts as often as it is met; a slice's spare places count too). A statement '..UptoSaid' is the law's where the arguments, and the package variables that the reading takes, are together of bulk at most 1048576: NARROWER than '..Said'. Prove '..Said' where nothing that the law and all that it calls make is longer than what came in: it says more and counts as full. Else prove '..UptoSaid'. A law counts once. -/
mutual
def uptoBulk {H : Type} : DataW H → Nat
  | .lit (.string bytes) => bytes.length + 1
  | .lit _ => 1
  | .nil => 1
  | .ptr d => uptoBulk d + 1
  | .slice elems spare => uptoBulkAll elems + uptoBulkAll spare + 1
  | .agg parts => uptoBulkAll parts + 1
  | .iface _ d => uptoBulk d + 1
  | .map entries => uptoBulkEntries entries + 1
  | .held _ => 1
def uptoBulkAll {H : Type} : List (DataW H) → Nat
  | [] => 0
  | d :: r => uptoBulk d + uptoBulkAll r
def uptoBulkEntries {H : Type} : List (Lit × DataW H) → Nat
  | [] => 0
  | x :: r => uptoBulkEntry x + uptoBulkEntries r
def uptoBulkEntry {H : Type} : Lit × DataW H → Nat
  | (.string bytes, d) => bytes.length + uptoBulk d + 1
  | (_, d) => uptoBulk d + 1
 end
def uptoSmall : (H : Type) → List (DataW H) → Bool := fun _ ds => decide (uptoBulkAll ds ≤ 1048576)
def OpenSpec.upto (s : _root_.Go.ChangeSpec) : _root_.Go.OpenSpec := { _root_.Go.OpenSpec.ofChange s with cond := some uptoSmall }

/-- 'primerlaw18.RollTurned', WHERE WHAT IT READS IS OF BULK AT MOST 1048576: true; the input reads as it did. -/
def rollTurnedUptoRow : OpenClaim := { program := "ytekailaoanpcgaa", sum := "7f89eb1d32e28989032426af9b508c2fe390ed62fe171673fe5ad54d8760633b", func := "primer/primerlaw18.RollTurned", spec := "rollTurned", inPlace := ["internal/bytealg.abigen_runtime_cmpstring", "slices.overlaps[primer/roll.Member]", "slices.overlaps[primer/roll.Class]", "slices.overlaps[string]"], unfollowed := true, recurses := true, apart := false, narrowed := true }
def RollTurnedUptoSaid : Prop := rollTurnedUptoRow.holds Try.pinned (OpenSpec.upto rollTurnedSpec)

/-- 'primerlaw18.RollKeeps', WHERE WHAT IT READS IS OF BULK AT MOST 1048576: true; the input reads as it did. -/
def rollKeepsUptoRow : OpenClaim := { program := "ytekailaoanpcgaa", sum := "7f89eb1d32e28989032426af9b508c2fe390ed62fe171673fe5ad54d8760633b", func := "primer/primerlaw18.RollKeeps", spec := "rollKeeps", inPlace := ["internal/bytealg.abigen_runtime_cmpstring", "slices.overlaps[primer/roll.Member]", "slices.overlaps[primer/roll.Class]", "slices.overlaps[string]"], unfollowed := true, recurses := true, apart := false, narrowed := true }
def RollKeepsUptoSaid : Prop := rollKeepsUptoRow.holds Try.pinned (OpenSpec.upto rollKeepsSpec)

/-- 'primerlaw18.RollBytes', WHERE WHAT IT READS IS OF BULK AT MOST 1048576: true; the input reads as it did. -/
def rollBytesUptoRow : OpenClaim := { program := "ytekailaoanpcgaa", sum := "7f89eb1d32e28989032426af9b508c2fe390ed62fe171673fe5ad54d8760633b", func := "primer/primerlaw18.RollBytes", spec := "rollBytes", inPlace := ["internal/bytealg.abigen_runtime_cmpstring", "slices.overlaps[primer/roll.Member]", "slices.overlaps[primer/roll.Class]"], unfollowed := true, recurses := true, apart := false, narrowed := true }
def RollBytesUptoSaid : Prop := rollBytesUptoRow.holds Try.pinned (OpenSpec.upto rollBytesSpec)

/-- 'primerlaw18.RollFull', WHERE WHAT IT READS IS OF BULK AT MOST 1048576: true; the input reads as it did. -/
def rollFullUptoRow : OpenClaim := { program := "ytekailaoanpcgaa", sum := "7f89eb1d32e28989032426af9b508c2fe390ed62fe171673fe5ad54d8760633b", func := "primer/primerlaw18.RollFull", spec := "rollFull", inPlace := ["internal/bytealg.abigen_runtime_cmpstring", "slices.overlaps[primer/roll.Member]", "slices.overlaps[primer/roll.Class]"], unfollowed := true, recurses := true, apart := false, narrowed := true }
def RollFullUptoSaid : Prop := rollFullUptoRow.holds Try.pinned (OpenSpec.upto rollFullSpec)

end Rows
end Go.Proofs.Ytekailaoanpcgaa
