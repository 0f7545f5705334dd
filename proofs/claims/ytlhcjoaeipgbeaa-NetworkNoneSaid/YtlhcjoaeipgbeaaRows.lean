/-
  No cell of these rows narrows 'for every input' (looked for: loops, veiled, ifaces, maps, wideKeys, modest, calm, conditions, laid).
  DERIVED. THE GIVEN ROWS OF THIS SEAT. 8 by the template 'for every input the law returns true; each argument reads behind the call as it read before'; 0 by the template 'total and deterministic' (their statements: YtlhcjoaeipgbeaaTotals.lean).
  GIVEN WITH THE SEED: the statements are not yours to turn. If you find one false, say at which input.
  Laid BY PROGRAM, IN A SANDBOX (cutbox-rows.mjs): the forced cells as the released guide's own fill.sh prints them over the translation cded49523c7b86e5… (all of the seat's roots in one cut). By AI agents, Wed Nov 11 2026. No macro, syntax, notation, axiom, sorry.
-/
import Derived.Test.YtlhcjoaeipgbeaaChecked
import GoSem.Claim
import GoSem.ClaimJoined
import GoSem.ClaimMapViews
import Derived.JoinedTies
import Derived.KernelRfl
namespace Go.Proofs.Ytlhcjoaeipgbeaa
/- THE CELL 'sum', in the pinned program and in every row, IS THE sha256 OF THE DUMP (.gsa) THAT YtlhcjoaeipgbeaaProg.lean LOADS. Nothing in Lean hashes anything: it is a label: what it is worth is what the hold of that sum in a sandbox is worth. -/
noncomputable def Try.pinned : Pinned := { name := "ytlhcjoaeipgbeaa", sum := "cded49523c7b86e50247b412202a24537fe0a81f80da6be7b3b9939dca74979f", checked := Try.checked }
namespace Rows
def none {H : Type} : Left H := { results := [], args := [] }

/-- 'primerlaw27.NetworkPlays': WHATEVER THE INPUT: true; the input reads as it did. -/
def networkPlaysSpec : ChangeSpec := { name := "networkPlays", fn := fun _ => fun
  | [d1, d2] => { results := [.lit (.bool true)], args := [d1, d2] }
  | _ => none }
def networkPlaysRow : OpenClaim := { program := "ytlhcjoaeipgbeaa", sum := "cded49523c7b86e50247b412202a24537fe0a81f80da6be7b3b9939dca74979f", func := "primer/primerlaw27.NetworkPlays", spec := "networkPlays", apart := false }
def NetworkPlaysSaid : Prop := networkPlaysRow.holds Try.pinned (OpenSpec.ofChange networkPlaysSpec)

/-- ITS FALSE NEIGHBOUR: 'it returns false'. Refute it at one input. -/
def networkPlaysWrong : ChangeSpec := { name := "networkPlays", fn := fun _ => fun
  | [d1, d2] => { results := [.lit (.bool false)], args := [d1, d2] }
  | _ => none }
def NetworkPlaysWrongFalsely : Prop := networkPlaysRow.holds Try.pinned (OpenSpec.ofChange networkPlaysWrong)

/-- 'primerlaw27.NetworkNone': WHATEVER THE INPUT: true; the input reads as it did. -/
def networkNoneSpec : ChangeSpec := { name := "networkNone", fn := fun _ => fun
  | [d1, d2, d3] => { results := [.lit (.bool true)], args := [d1, d2, d3] }
  | _ => none }
def networkNoneRow : OpenClaim := { program := "ytlhcjoaeipgbeaa", sum := "cded49523c7b86e50247b412202a24537fe0a81f80da6be7b3b9939dca74979f", func := "primer/primerlaw27.NetworkNone", spec := "networkNone", apart := false }
def NetworkNoneSaid : Prop := networkNoneRow.holds Try.pinned (OpenSpec.ofChange networkNoneSpec)

/-- ITS FALSE NEIGHBOUR: 'it returns false'. Refute it at one input. -/
def networkNoneWrong : ChangeSpec := { name := "networkNone", fn := fun _ => fun
  | [d1, d2, d3] => { results := [.lit (.bool false)], args := [d1, d2, d3] }
  | _ => none }
def NetworkNoneWrongFalsely : Prop := networkNoneRow.holds Try.pinned (OpenSpec.ofChange networkNoneWrong)

/-- 'primerlaw01.OctetsPuts': WHATEVER THE INPUT: true; the input reads as it did. -/
def octetsPutsSpec : ChangeSpec := { name := "octetsPuts", fn := fun _ => fun
  | [d1, d2] => { results := [.lit (.bool true)], args := [d1, d2] }
  | _ => none }
def octetsPutsRow : OpenClaim := { program := "ytlhcjoaeipgbeaa", sum := "cded49523c7b86e50247b412202a24537fe0a81f80da6be7b3b9939dca74979f", func := "primer/primerlaw01.OctetsPuts", spec := "octetsPuts", apart := false }
def OctetsPutsSaid : Prop := octetsPutsRow.holds Try.pinned (OpenSpec.ofChange octetsPutsSpec)

/-- ITS FALSE NEIGHBOUR: 'it returns false'. Refute it at one input. -/
def octetsPutsWrong : ChangeSpec := { name := "octetsPuts", fn := fun _ => fun
  | [d1, d2] => { results := [.lit (.bool false)], args := [d1, d2] }
  | _ => none }
def OctetsPutsWrongFalsely : Prop := octetsPutsRow.holds Try.pinned (OpenSpec.ofChange octetsPutsWrong)

/-- 'primerlaw01.OctetsGets': WHATEVER THE INPUT: true; the input reads as it did. -/
def octetsGetsSpec : ChangeSpec := { name := "octetsGets", fn := fun _ => fun
  | [d] => { results := [.lit (.bool true)], args := [d] }
  | _ => none }
def octetsGetsRow : OpenClaim := { program := "ytlhcjoaeipgbeaa", sum := "cded49523c7b86e50247b412202a24537fe0a81f80da6be7b3b9939dca74979f", func := "primer/primerlaw01.OctetsGets", spec := "octetsGets", apart := false }
def OctetsGetsSaid : Prop := octetsGetsRow.holds Try.pinned (OpenSpec.ofChange octetsGetsSpec)

/-- ITS FALSE NEIGHBOUR: 'it returns false'. Refute it at one input. -/
def octetsGetsWrong : ChangeSpec := { name := "octetsGets", fn := fun _ => fun
  | [d] => { results := [.lit (.bool false)], args := [d] }
  | _ => none }
def OctetsGetsWrongFalsely : Prop := octetsGetsRow.holds Try.pinned (OpenSpec.ofChange octetsGetsWrong)

/-- 'primerlaw01.OctetsCut': WHATEVER THE INPUT: true; the input reads as it did. -/
def octetsCutSpec : ChangeSpec := { name := "octetsCut", fn := fun _ => fun
  | [d1, d2] => { results := [.lit (.bool true)], args := [d1, d2] }
  | _ => none }
def octetsCutRow : OpenClaim := { program := "ytlhcjoaeipgbeaa", sum := "cded49523c7b86e50247b412202a24537fe0a81f80da6be7b3b9939dca74979f", func := "primer/primerlaw01.OctetsCut", spec := "octetsCut", apart := false }
def OctetsCutSaid : Prop := octetsCutRow.holds Try.pinned (OpenSpec.ofChange octetsCutSpec)

/-- ITS FALSE NEIGHBOUR: 'it returns false'. Refute it at one input. -/
def octetsCutWrong : ChangeSpec := { name := "octetsCut", fn := fun _ => fun
  | [d1, d2] => { results := [.lit (.bool false)], args := [d1, d2] }
  | _ => none }
def OctetsCutWrongFalsely : Prop := octetsCutRow.holds Try.pinned (OpenSpec.ofChange octetsCutWrong)

/-- 'primerlaw01.OctetsReads': WHATEVER THE INPUT: true; the input reads as it did. -/
def octetsReadsSpec : ChangeSpec := { name := "octetsReads", fn := fun _ => fun
  | [d1, d2] => { results := [.lit (.bool true)], args := [d1, d2] }
  | _ => none }
def octetsReadsRow : OpenClaim := { program := "ytlhcjoaeipgbeaa", sum := "cded49523c7b86e50247b412202a24537fe0a81f80da6be7b3b9939dca74979f", func := "primer/primerlaw01.OctetsReads", spec := "octetsReads", apart := false }
def OctetsReadsSaid : Prop := octetsReadsRow.holds Try.pinned (OpenSpec.ofChange octetsReadsSpec)

/-- ITS FALSE NEIGHBOUR: 'it returns false'. Refute it at one input. -/
def octetsReadsWrong : ChangeSpec := { name := "octetsReads", fn := fun _ => fun
  | [d1, d2] => { results := [.lit (.bool false)], args := [d1, d2] }
  | _ => none }
def OctetsReadsWrongFalsely : Prop := octetsReadsRow.holds Try.pinned (OpenSpec.ofChange octetsReadsWrong)

/-- 'primerlaw01.OctetsNil': WHATEVER THE INPUT: true; the input reads as it did. -/
def octetsNilSpec : ChangeSpec := { name := "octetsNil", fn := fun _ => fun
  | [d1, d2] => { results := [.lit (.bool true)], args := [d1, d2] }
  | _ => none }
def octetsNilRow : OpenClaim := { program := "ytlhcjoaeipgbeaa", sum := "cded49523c7b86e50247b412202a24537fe0a81f80da6be7b3b9939dca74979f", func := "primer/primerlaw01.OctetsNil", spec := "octetsNil", apart := false }
def OctetsNilSaid : Prop := octetsNilRow.holds Try.pinned (OpenSpec.ofChange octetsNilSpec)

/-- ITS FALSE NEIGHBOUR: 'it returns false'. Refute it at one input. -/
def octetsNilWrong : ChangeSpec := { name := "octetsNil", fn := fun _ => fun
  | [d1, d2] => { results := [.lit (.bool false)], args := [d1, d2] }
  | _ => none }
def OctetsNilWrongFalsely : Prop := octetsNilRow.holds Try.pinned (OpenSpec.ofChange octetsNilWrong)

/-- 'primerlaw01.OctetsBack': WHATEVER THE INPUT: true; the input reads as it did. -/
def octetsBackSpec : ChangeSpec := { name := "octetsBack", fn := fun _ => fun
  | [d] => { results := [.lit (.bool true)], args := [d] }
  | _ => none }
def octetsBackRow : OpenClaim := { program := "ytlhcjoaeipgbeaa", sum := "cded49523c7b86e50247b412202a24537fe0a81f80da6be7b3b9939dca74979f", func := "primer/primerlaw01.OctetsBack", spec := "octetsBack", apart := false }
def OctetsBackSaid : Prop := octetsBackRow.holds Try.pinned (OpenSpec.ofChange octetsBackSpec)

/-- ITS FALSE NEIGHBOUR: 'it returns false'. Refute it at one input. -/
def octetsBackWrong : ChangeSpec := { name := "octetsBack", fn := fun _ => fun
  | [d] => { results := [.lit (.bool false)], args := [d] }
  | _ => none }
def OctetsBackWrongFalsely : Prop := octetsBackRow.holds Try.pinned (OpenSpec.ofChange octetsBackWrong)

/- THE SECOND FORM. 'bulk': how many values and letters a reading holds, each counted each time it is reached (what is shared counts as often as it is met; a slice's spare places count too). A statement '..UptoSaid' is the law's where the arguments, and the package variables that the reading takes, are together of bulk at most 1048576: NARROWER than '..Said'. Prove '..Said' where nothing that the law and all that it calls make is longer than what came in: it says more and counts as full. Else prove '..UptoSaid'. A law counts once. -/
mutual
def uptoBulk {H : Type} : DataW H → Nat
  | .lit (.string bytes) => bytes.length + 1
  | .lit _ => 1
  | .nil => 1
  | .ptr d => uptoBulk d + 1
  | .slice elems spare => uptoBulkAll elems + uptoBulkAll spare + 1
  | .agg parts => uptoBulkAll parts + 1
  | .iface _ d => uptoBulk d + 1
  | .map entries => uptoBulkEntries entries + 1
  | .held _ => 1
def uptoBulkAll {H : Type} : List (DataW H) → Nat
  | [] => 0
  | d :: r => uptoBulk d + uptoBulkAll r
def uptoBulkEntries {H : Type} : List (Lit × DataW H) → Nat
  | [] => 0
  | x :: r => uptoBulkEntry x + uptoBulkEntries r
def uptoBulkEntry {H : Type} : Lit × DataW H → Nat
  | (.string bytes, d) => bytes.length + uptoBulk d + 1
  | (_, d) => uptoBulk d + 1
 end
def uptoSmall : (H : Type) → List (DataW H) → Bool := fun _ ds => decide (uptoBulkAll ds ≤ 1048576)
def OpenSpec.upto (s : _root_.Go.ChangeSpec) : _root_.Go.OpenSpec := { _root_.Go.OpenSpec.ofChange s with cond := some uptoSmall }

/-- 'primerlaw27.NetworkPlays', WHERE WHAT IT READS IS OF BULK AT MOST 1048576: true; the input reads as it did. -/
def networkPlaysUptoRow : OpenClaim := { program := "ytlhcjoaeipgbeaa", sum := "cded49523c7b86e50247b412202a24537fe0a81f80da6be7b3b9939dca74979f", func := "primer/primerlaw27.NetworkPlays", spec := "networkPlays", apart := false, narrowed := true }
def NetworkPlaysUptoSaid : Prop := networkPlaysUptoRow.holds Try.pinned (OpenSpec.upto networkPlaysSpec)

/-- 'primerlaw27.NetworkNone', WHERE WHAT IT READS IS OF BULK AT MOST 1048576: true; the input reads as it did. -/
def networkNoneUptoRow : OpenClaim := { program := "ytlhcjoaeipgbeaa", sum := "cded49523c7b86e50247b412202a24537fe0a81f80da6be7b3b9939dca74979f", func := "primer/primerlaw27.NetworkNone", spec := "networkNone", apart := false, narrowed := true }
def NetworkNoneUptoSaid : Prop := networkNoneUptoRow.holds Try.pinned (OpenSpec.upto networkNoneSpec)

/-- 'primerlaw01.OctetsPuts', WHERE WHAT IT READS IS OF BULK AT MOST 1048576: true; the input reads as it did. -/
def octetsPutsUptoRow : OpenClaim := { program := "ytlhcjoaeipgbeaa", sum := "cded49523c7b86e50247b412202a24537fe0a81f80da6be7b3b9939dca74979f", func := "primer/primerlaw01.OctetsPuts", spec := "octetsPuts", apart := false, narrowed := true }
def OctetsPutsUptoSaid : Prop := octetsPutsUptoRow.holds Try.pinned (OpenSpec.upto octetsPutsSpec)

/-- 'primerlaw01.OctetsGets', WHERE WHAT IT READS IS OF BULK AT MOST 1048576: true; the input reads as it did. -/
def octetsGetsUptoRow : OpenClaim := { program := "ytlhcjoaeipgbeaa", sum := "cded49523c7b86e50247b412202a24537fe0a81f80da6be7b3b9939dca74979f", func := "primer/primerlaw01.OctetsGets", spec := "octetsGets", apart := false, narrowed := true }
def OctetsGetsUptoSaid : Prop := octetsGetsUptoRow.holds Try.pinned (OpenSpec.upto octetsGetsSpec)

/-- 'primerlaw01.OctetsCut', WHERE WHAT IT READS IS OF BULK AT MOST 1048576: true; the input reads as it did. -/
def octetsCutUptoRow : OpenClaim := { program := "ytlhcjoaeipgbeaa", sum := "cded49523c7b86e50247b412202a24537fe0a81f80da6be7b3b9939dca74979f", func := "primer/primerlaw01.OctetsCut", spec := "octetsCut", apart := false, narrowed := true }
def OctetsCutUptoSaid : Prop := octetsCutUptoRow.holds Try.pinned (OpenSpec.upto octetsCutSpec)

/-- 'primerlaw01.OctetsReads', WHERE WHAT IT READS IS OF BULK AT MOST 1048576: true; the input reads as it did. -/
def octetsReadsUptoRow : OpenClaim := { program := "ytlhcjoaeipgbeaa", sum := "cded49523c7b86e50247b412202a24537fe0a81f80da6be7b3b9939dca74979f", func := "primer/primerlaw01.OctetsReads", spec := "octetsReads", apart := false, narrowed := true }
def OctetsReadsUptoSaid : Prop := octetsReadsUptoRow.holds Try.pinned (OpenSpec.upto octetsReadsSpec)

/-- 'primerlaw01.OctetsNil', WHERE WHAT IT READS IS OF BULK AT MOST 1048576: true; the input reads as it did. -/
def octetsNilUptoRow : OpenClaim := { program := "ytlhcjoaeipgbeaa", sum := "cded49523c7b86e50247b412202a24537fe0a81f80da6be7b3b9939dca74979f", func := "primer/primerlaw01.OctetsNil", spec := "octetsNil", apart := false, narrowed := true }
def OctetsNilUptoSaid : Prop := octetsNilUptoRow.holds Try.pinned (OpenSpec.upto octetsNilSpec)

/-- 'primerlaw01.OctetsBack', WHERE WHAT IT READS IS OF BULK AT MOST 1048576: true; the input reads as it did. -/
def octetsBackUptoRow : OpenClaim := { program := "ytlhcjoaeipgbeaa", sum := "cded49523c7b86e50247b412202a24537fe0a81f80da6be7b3b9939dca74979f", func := "primer/primerlaw01.OctetsBack", spec := "octetsBack", apart := false, narrowed := true }
def OctetsBackUptoSaid : Prop := octetsBackUptoRow.holds Try.pinned (OpenSpec.upto octetsBackSpec)

end Rows
end Go.Proofs.Ytlhcjoaeipgbeaa
