/-
  No cell of these rows narrows 'for every input' (looked for: loops, veiled, ifaces, maps, wideKeys, modest, calm, conditions, laid).
  DERIVED. THE GIVEN ROWS OF THIS SEAT. 5 by the template 'for every input the law returns true; each argument reads behind the call as it read before'; 0 by the template 'total and deterministic' (their statements: YtjhodcdjkokkoaaTotals.lean).
  GIVEN WITH THE SEED: the statements are not yours to turn. If you find one false, say at which input.
  Laid BY PROGRAM, IN A SANDBOX (cutbox-rows.mjs): the forced cells as the released guide's own fill.sh prints them over the translation fe068e8c9a047107… (all of the seat's roots in one cut). By AI agents, Wed Nov 11 2026. No macro, syntax, notation, axiom, sorry.
-/
import Derived.Test.YtjhodcdjkokkoaaChecked
import GoSem.Claim
import GoSem.ClaimJoined
import GoSem.ClaimMapViews
import Derived.JoinedTies
import Derived.KernelRfl
namespace Go.Proofs.Ytjhodcdjkokkoaa
/- THE CELL 'sum', in the pinned program and in every row, IS THE sha256 OF THE DUMP (.gsa) THAT YtjhodcdjkokkoaaProg.lean LOADS. Nothing in Lean hashes anything: it is a label: what it is worth is what the hold of that sum in a sandbox is worth. -/
noncomputable def Try.pinned : Pinned := { name := "ytjhodcdjkokkoaa", sum := "fe068e8c9a0471078791a53b8748e7e0448b9f6e2ade55dd61a3da5f91ed0381", checked := Try.checked }
namespace Rows
def none {H : Type} : Left H := { results := [], args := [] }

/-- 'primerlaw21.CommandPuts': WHATEVER THE INPUT: true; the input reads as it did. -/
def commandPutsSpec : ChangeSpec := { name := "commandPuts", fn := fun _ => fun
  | [d] => { results := [.lit (.bool true)], args := [d] }
  | _ => none }
def commandPutsRow : OpenClaim := { program := "ytjhodcdjkokkoaa", sum := "fe068e8c9a0471078791a53b8748e7e0448b9f6e2ade55dd61a3da5f91ed0381", func := "primer/primerlaw21.CommandPuts", spec := "commandPuts", unfollowed := true, recurses := true, apart := false }
def CommandPutsSaid : Prop := commandPutsRow.holds Try.pinned (OpenSpec.ofChange commandPutsSpec)

/-- ITS FALSE NEIGHBOUR: 'it returns false'. Refute it at one input. -/
def commandPutsWrong : ChangeSpec := { name := "commandPuts", fn := fun _ => fun
  | [d] => { results := [.lit (.bool false)], args := [d] }
  | _ => none }
def CommandPutsWrongFalsely : Prop := commandPutsRow.holds Try.pinned (OpenSpec.ofChange commandPutsWrong)

/-- 'primerlaw21.CommandGets': WHATEVER THE INPUT: true; the input reads as it did. -/
def commandGetsSpec : ChangeSpec := { name := "commandGets", fn := fun _ => fun
  | [d] => { results := [.lit (.bool true)], args := [d] }
  | _ => none }
def commandGetsRow : OpenClaim := { program := "ytjhodcdjkokkoaa", sum := "fe068e8c9a0471078791a53b8748e7e0448b9f6e2ade55dd61a3da5f91ed0381", func := "primer/primerlaw21.CommandGets", spec := "commandGets", unfollowed := true, recurses := true, apart := false }
def CommandGetsSaid : Prop := commandGetsRow.holds Try.pinned (OpenSpec.ofChange commandGetsSpec)

/-- ITS FALSE NEIGHBOUR: 'it returns false'. Refute it at one input. -/
def commandGetsWrong : ChangeSpec := { name := "commandGets", fn := fun _ => fun
  | [d] => { results := [.lit (.bool false)], args := [d] }
  | _ => none }
def CommandGetsWrongFalsely : Prop := commandGetsRow.holds Try.pinned (OpenSpec.ofChange commandGetsWrong)

/-- 'primerlaw21.CommandApart': WHATEVER THE INPUT: true; the input reads as it did. -/
def commandApartSpec : ChangeSpec := { name := "commandApart", fn := fun _ => fun
  | [d1, d2] => { results := [.lit (.bool true)], args := [d1, d2] }
  | _ => none }
def commandApartRow : OpenClaim := { program := "ytjhodcdjkokkoaa", sum := "fe068e8c9a0471078791a53b8748e7e0448b9f6e2ade55dd61a3da5f91ed0381", func := "primer/primerlaw21.CommandApart", spec := "commandApart", unfollowed := true, recurses := true, apart := false }
def CommandApartSaid : Prop := commandApartRow.holds Try.pinned (OpenSpec.ofChange commandApartSpec)

/-- ITS FALSE NEIGHBOUR: 'it returns false'. Refute it at one input. -/
def commandApartWrong : ChangeSpec := { name := "commandApart", fn := fun _ => fun
  | [d1, d2] => { results := [.lit (.bool false)], args := [d1, d2] }
  | _ => none }
def CommandApartWrongFalsely : Prop := commandApartRow.holds Try.pinned (OpenSpec.ofChange commandApartWrong)

/-- 'primerlaw21.CommandAnswers': WHATEVER THE INPUT: true; the input reads as it did. -/
def commandAnswersSpec : ChangeSpec := { name := "commandAnswers", fn := fun _ => fun
  | [d] => { results := [.lit (.bool true)], args := [d] }
  | _ => none }
def commandAnswersRow : OpenClaim := { program := "ytjhodcdjkokkoaa", sum := "fe068e8c9a0471078791a53b8748e7e0448b9f6e2ade55dd61a3da5f91ed0381", func := "primer/primerlaw21.CommandAnswers", spec := "commandAnswers", inPlace := ["math.Float64frombits", "math.Float64bits"], unfollowed := true, recurses := true, apart := false }
def CommandAnswersSaid : Prop := commandAnswersRow.holds Try.pinned (OpenSpec.ofChange commandAnswersSpec)

/-- ITS FALSE NEIGHBOUR: 'it returns false'. Refute it at one input. -/
def commandAnswersWrong : ChangeSpec := { name := "commandAnswers", fn := fun _ => fun
  | [d] => { results := [.lit (.bool false)], args := [d] }
  | _ => none }
def CommandAnswersWrongFalsely : Prop := commandAnswersRow.holds Try.pinned (OpenSpec.ofChange commandAnswersWrong)

/-- 'primerlaw21.CommandReplies': WHATEVER THE INPUT: true; the input reads as it did. -/
def commandRepliesSpec : ChangeSpec := { name := "commandReplies", fn := fun _ => fun
  | [d1, d2] => { results := [.lit (.bool true)], args := [d1, d2] }
  | _ => none }
def commandRepliesRow : OpenClaim := { program := "ytjhodcdjkokkoaa", sum := "fe068e8c9a0471078791a53b8748e7e0448b9f6e2ade55dd61a3da5f91ed0381", func := "primer/primerlaw21.CommandReplies", spec := "commandReplies", inPlace := ["math.Float64frombits", "math.Float64bits"], unfollowed := true, recurses := true, apart := false }
def CommandRepliesSaid : Prop := commandRepliesRow.holds Try.pinned (OpenSpec.ofChange commandRepliesSpec)

/-- ITS FALSE NEIGHBOUR: 'it returns false'. Refute it at one input. -/
def commandRepliesWrong : ChangeSpec := { name := "commandReplies", fn := fun _ => fun
  | [d1, d2] => { results := [.lit (.bool false)], args := [d1, d2] }
  | _ => none }
def CommandRepliesWrongFalsely : Prop := commandRepliesRow.holds Try.pinned (OpenSpec.ofChange commandRepliesWrong)

/- THE SECOND FORM. 'bulk': how many values and letters a reading holds, each counted each time it is reached (what is shared counts as often as it is met; a slice's spare places count too). A statement '..UptoSaid' is the law's where the arguments, and the package variables that the reading takes, are together of bulk at most 1048576: NARROWER than '..Said'. Prove '..Said' where nothing that the law and all that it calls make is longer than what came in: it says more and counts as full. Else prove '..UptoSaid'. A law counts once. -/
mutual
def uptoBulk {H : Type} : DataW H → Nat
  | .lit (.string bytes) => bytes.length + 1
  | .lit _ => 1
  | .nil => 1
  | .ptr d => uptoBulk d + 1
  | .slice elems spare => uptoBulkAll elems + uptoBulkAll spare + 1
  | .agg parts => uptoBulkAll parts + 1
  | .iface _ d => uptoBulk d + 1
  | .map entries => uptoBulkEntries entries + 1
  | .held _ => 1
def uptoBulkAll {H : Type} : List (DataW H) → Nat
  | [] => 0
  | d :: r => uptoBulk d + uptoBulkAll r
def uptoBulkEntries {H : Type} : List (Lit × DataW H) → Nat
  | [] => 0
  | x :: r => uptoBulkEntry x + uptoBulkEntries r
def uptoBulkEntry {H : Type} : Lit × DataW H → Nat
  | (.string bytes, d) => bytes.length + uptoBulk d + 1
  | (_, d) => uptoBulk d + 1
 end
def uptoSmall : (H : Type) → List (DataW H) → Bool := fun _ ds => decide (uptoBulkAll ds ≤ 1048576)
def OpenSpec.upto (s : _root_.Go.ChangeSpec) : _root_.Go.OpenSpec := { _root_.Go.OpenSpec.ofChange s with cond := some uptoSmall }

/-- 'primerlaw21.CommandPuts', WHERE WHAT IT READS IS OF BULK AT MOST 1048576: true; the input reads as it did. -/
def commandPutsUptoRow : OpenClaim := { program := "ytjhodcdjkokkoaa", sum := "fe068e8c9a0471078791a53b8748e7e0448b9f6e2ade55dd61a3da5f91ed0381", func := "primer/primerlaw21.CommandPuts", spec := "commandPuts", unfollowed := true, recurses := true, apart := false, narrowed := true }
def CommandPutsUptoSaid : Prop := commandPutsUptoRow.holds Try.pinned (OpenSpec.upto commandPutsSpec)

/-- 'primerlaw21.CommandGets', WHERE WHAT IT READS IS OF BULK AT MOST 1048576: true; the input reads as it did. -/
def commandGetsUptoRow : OpenClaim := { program := "ytjhodcdjkokkoaa", sum := "fe068e8c9a0471078791a53b8748e7e0448b9f6e2ade55dd61a3da5f91ed0381", func := "primer/primerlaw21.CommandGets", spec := "commandGets", unfollowed := true, recurses := true, apart := false, narrowed := true }
def CommandGetsUptoSaid : Prop := commandGetsUptoRow.holds Try.pinned (OpenSpec.upto commandGetsSpec)

/-- 'primerlaw21.CommandApart', WHERE WHAT IT READS IS OF BULK AT MOST 1048576: true; the input reads as it did. -/
def commandApartUptoRow : OpenClaim := { program := "ytjhodcdjkokkoaa", sum := "fe068e8c9a0471078791a53b8748e7e0448b9f6e2ade55dd61a3da5f91ed0381", func := "primer/primerlaw21.CommandApart", spec := "commandApart", unfollowed := true, recurses := true, apart := false, narrowed := true }
def CommandApartUptoSaid : Prop := commandApartUptoRow.holds Try.pinned (OpenSpec.upto commandApartSpec)

/-- 'primerlaw21.CommandAnswers', WHERE WHAT IT READS IS OF BULK AT MOST 1048576: true; the input reads as it did. -/
def commandAnswersUptoRow : OpenClaim := { program := "ytjhodcdjkokkoaa", sum := "fe068e8c9a0471078791a53b8748e7e0448b9f6e2ade55dd61a3da5f91ed0381", func := "primer/primerlaw21.CommandAnswers", spec := "commandAnswers", inPlace := ["math.Float64frombits", "math.Float64bits"], unfollowed := true, recurses := true, apart := false, narrowed := true }
def CommandAnswersUptoSaid : Prop := commandAnswersUptoRow.holds Try.pinned (OpenSpec.upto commandAnswersSpec)

/-- 'primerlaw21.CommandReplies', WHERE WHAT IT READS IS OF BULK AT MOST 1048576: true; the input reads as it did. -/
def commandRepliesUptoRow : OpenClaim := { program := "ytjhodcdjkokkoaa", sum := "fe068e8c9a0471078791a53b8748e7e0448b9f6e2ade55dd61a3da5f91ed0381", func := "primer/primerlaw21.CommandReplies", spec := "commandReplies", inPlace := ["math.Float64frombits", "math.Float64bits"], unfollowed := true, recurses := true, apart := false, narrowed := true }
def CommandRepliesUptoSaid : Prop := commandRepliesUptoRow.holds Try.pinned (OpenSpec.upto commandRepliesSpec)

end Rows
end Go.Proofs.Ytjhodcdjkokkoaa
