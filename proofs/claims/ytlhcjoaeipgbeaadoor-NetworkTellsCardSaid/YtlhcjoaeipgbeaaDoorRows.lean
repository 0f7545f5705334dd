/-
  NARROWER THAN 'FOR EVERY INPUT', by the rows' own cells (each row's printed sentence says how): FrameWraps: laid · FrameOpens: laid · FrameSpoilt: laid · FrameLong: laid · FrameApart: laid · NetworkTells: laid.
  DERIVED. THE GIVEN ROWS OF THIS SEAT. 6 by the template 'for every input the law returns true; each argument reads behind the call as it read before'; 0 by the template 'total and deterministic' (their statements: YtlhcjoaeipgbeaaDoorTotals.lean).
  GIVEN WITH THE SEED: the statements are not yours to turn. If you find one false, say at which input.
  Laid BY PROGRAM, IN A SANDBOX (cutbox-rows.mjs): the forced cells as the released guide's own fill.sh prints them over the translation 6e78f4a245915385… (all of the seat's roots in one cut). By AI agents, Wed Nov 11 2026. No macro, syntax, notation, axiom, sorry.
-/
import Derived.Test.YtlhcjoaeipgbeaaDoorChecked
import GoSem.Claim
import GoSem.ClaimJoined
import GoSem.ClaimMapViews
import Derived.JoinedTies
import Derived.KernelRfl
namespace Go.Proofs.YtlhcjoaeipgbeaaDoor
/- THE CELL 'sum', in the pinned program and in every row, IS THE sha256 OF THE DUMP (.gsa) THAT YtlhcjoaeipgbeaaDoorProg.lean LOADS. Nothing in Lean hashes anything: it is a label: what it is worth is what the hold of that sum in a sandbox is worth. -/
noncomputable def Tryd.pinned : Pinned := { name := "ytlhcjoaeipgbeaadoor", sum := "6e78f4a245915385bb3bb15a2370ae79be610e1f4d7040a895cc9506d0dac45f", checked := Tryd.checked }
namespace Rows
def none {H : Type} : Left H := { results := [], args := [] }

/- WHAT THE LISTED PACKAGE-LEVEL VARIABLES READ AS WHEN THE CALL BEGINS. Each datum BY PROGRAM (the guide's laid-datum.mjs) off the statement by which the dump's own 'gosem.cut.vars' lays the variable. In a bare row this is a premise. The card (YtlhcjoaeipgbeaaDoorCards.lean) ties it to the program's text. -/
def laid_primer_frame_halves {H : Type} : DataW H := .agg [.lit (.int .u32 0), .lit (.int .u32 498536548), .lit (.int .u32 997073096), .lit (.int .u32 651767980), .lit (.int .u32 1994146192), .lit (.int .u32 1802195444), .lit (.int .u32 1303535960), .lit (.int .u32 1342533948), .lit (.int .u32 3988292384), .lit (.int .u32 4027552580), .lit (.int .u32 3604390888), .lit (.int .u32 3412177804), .lit (.int .u32 2607071920), .lit (.int .u32 2262029012), .lit (.int .u32 2685067896), .lit (.int .u32 3183342108)]

/-- 'primerlaw03.FrameWraps': WHATEVER THE INPUT: true; the input reads as it did. -/
def frameWrapsSpec : ChangeSpec := { name := "frameWraps", fn := fun _ => fun
  | [d] => { results := [.lit (.bool true)], args := [d] }
  | _ => none }
def frameWrapsRow : OpenClaim := { program := "ytlhcjoaeipgbeaadoor", sum := "6e78f4a245915385bb3bb15a2370ae79be610e1f4d7040a895cc9506d0dac45f", func := "primer/primerlaw03.FrameWraps", spec := "frameWraps", named := ["primer/frame.halves"], apart := false, laid := [("primer/frame.halves", laid_primer_frame_halves)] }
def FrameWrapsSaid : Prop := frameWrapsRow.holds Tryd.pinned (OpenSpec.ofChange frameWrapsSpec)

/-- ITS FALSE NEIGHBOUR: 'it returns false'. Refute it at one input. -/
def frameWrapsWrong : ChangeSpec := { name := "frameWraps", fn := fun _ => fun
  | [d] => { results := [.lit (.bool false)], args := [d] }
  | _ => none }
def FrameWrapsWrongFalsely : Prop := frameWrapsRow.holds Tryd.pinned (OpenSpec.ofChange frameWrapsWrong)

/-- 'primerlaw03.FrameOpens': WHATEVER THE INPUT: true; the input reads as it did. -/
def frameOpensSpec : ChangeSpec := { name := "frameOpens", fn := fun _ => fun
  | [d] => { results := [.lit (.bool true)], args := [d] }
  | _ => none }
def frameOpensRow : OpenClaim := { program := "ytlhcjoaeipgbeaadoor", sum := "6e78f4a245915385bb3bb15a2370ae79be610e1f4d7040a895cc9506d0dac45f", func := "primer/primerlaw03.FrameOpens", spec := "frameOpens", named := ["primer/frame.halves"], apart := false, laid := [("primer/frame.halves", laid_primer_frame_halves)] }
def FrameOpensSaid : Prop := frameOpensRow.holds Tryd.pinned (OpenSpec.ofChange frameOpensSpec)

/-- ITS FALSE NEIGHBOUR: 'it returns false'. Refute it at one input. -/
def frameOpensWrong : ChangeSpec := { name := "frameOpens", fn := fun _ => fun
  | [d] => { results := [.lit (.bool false)], args := [d] }
  | _ => none }
def FrameOpensWrongFalsely : Prop := frameOpensRow.holds Tryd.pinned (OpenSpec.ofChange frameOpensWrong)

/-- 'primerlaw03.FrameSpoilt': WHATEVER THE INPUT: true; the input reads as it did. -/
def frameSpoiltSpec : ChangeSpec := { name := "frameSpoilt", fn := fun _ => fun
  | [d1, d2, d3] => { results := [.lit (.bool true)], args := [d1, d2, d3] }
  | _ => none }
def frameSpoiltRow : OpenClaim := { program := "ytlhcjoaeipgbeaadoor", sum := "6e78f4a245915385bb3bb15a2370ae79be610e1f4d7040a895cc9506d0dac45f", func := "primer/primerlaw03.FrameSpoilt", spec := "frameSpoilt", named := ["primer/frame.halves"], apart := false, laid := [("primer/frame.halves", laid_primer_frame_halves)] }
def FrameSpoiltSaid : Prop := frameSpoiltRow.holds Tryd.pinned (OpenSpec.ofChange frameSpoiltSpec)

/-- ITS FALSE NEIGHBOUR: 'it returns false'. Refute it at one input. -/
def frameSpoiltWrong : ChangeSpec := { name := "frameSpoilt", fn := fun _ => fun
  | [d1, d2, d3] => { results := [.lit (.bool false)], args := [d1, d2, d3] }
  | _ => none }
def FrameSpoiltWrongFalsely : Prop := frameSpoiltRow.holds Tryd.pinned (OpenSpec.ofChange frameSpoiltWrong)

/-- 'primerlaw03.FrameLong': WHATEVER THE INPUT: true; the input reads as it did. -/
def frameLongSpec : ChangeSpec := { name := "frameLong", fn := fun _ => fun
  | [d] => { results := [.lit (.bool true)], args := [d] }
  | _ => none }
def frameLongRow : OpenClaim := { program := "ytlhcjoaeipgbeaadoor", sum := "6e78f4a245915385bb3bb15a2370ae79be610e1f4d7040a895cc9506d0dac45f", func := "primer/primerlaw03.FrameLong", spec := "frameLong", named := ["primer/frame.halves"], apart := false, laid := [("primer/frame.halves", laid_primer_frame_halves)] }
def FrameLongSaid : Prop := frameLongRow.holds Tryd.pinned (OpenSpec.ofChange frameLongSpec)

/-- ITS FALSE NEIGHBOUR: 'it returns false'. Refute it at one input. -/
def frameLongWrong : ChangeSpec := { name := "frameLong", fn := fun _ => fun
  | [d] => { results := [.lit (.bool false)], args := [d] }
  | _ => none }
def FrameLongWrongFalsely : Prop := frameLongRow.holds Tryd.pinned (OpenSpec.ofChange frameLongWrong)

/-- 'primerlaw03.FrameApart': WHATEVER THE INPUT: true; the input reads as it did. -/
def frameApartSpec : ChangeSpec := { name := "frameApart", fn := fun _ => fun
  | [d1, d2] => { results := [.lit (.bool true)], args := [d1, d2] }
  | _ => none }
def frameApartRow : OpenClaim := { program := "ytlhcjoaeipgbeaadoor", sum := "6e78f4a245915385bb3bb15a2370ae79be610e1f4d7040a895cc9506d0dac45f", func := "primer/primerlaw03.FrameApart", spec := "frameApart", named := ["primer/frame.halves"], apart := false, laid := [("primer/frame.halves", laid_primer_frame_halves)] }
def FrameApartSaid : Prop := frameApartRow.holds Tryd.pinned (OpenSpec.ofChange frameApartSpec)

/-- ITS FALSE NEIGHBOUR: 'it returns false'. Refute it at one input. -/
def frameApartWrong : ChangeSpec := { name := "frameApart", fn := fun _ => fun
  | [d1, d2] => { results := [.lit (.bool false)], args := [d1, d2] }
  | _ => none }
def FrameApartWrongFalsely : Prop := frameApartRow.holds Tryd.pinned (OpenSpec.ofChange frameApartWrong)

/-- 'primerlaw27.NetworkTells': WHATEVER THE INPUT: true; the input reads as it did. -/
def networkTellsSpec : ChangeSpec := { name := "networkTells", fn := fun _ => fun
  | [d1, d2] => { results := [.lit (.bool true)], args := [d1, d2] }
  | _ => none }
def networkTellsRow : OpenClaim := { program := "ytlhcjoaeipgbeaadoor", sum := "6e78f4a245915385bb3bb15a2370ae79be610e1f4d7040a895cc9506d0dac45f", func := "primer/primerlaw27.NetworkTells", spec := "networkTells", named := ["primer/frame.halves"], apart := false, laid := [("primer/frame.halves", laid_primer_frame_halves)] }
def NetworkTellsSaid : Prop := networkTellsRow.holds Tryd.pinned (OpenSpec.ofChange networkTellsSpec)

/-- ITS FALSE NEIGHBOUR: 'it returns false'. Refute it at one input. -/
def networkTellsWrong : ChangeSpec := { name := "networkTells", fn := fun _ => fun
  | [d1, d2] => { results := [.lit (.bool false)], args := [d1, d2] }
  | _ => none }
def NetworkTellsWrongFalsely : Prop := networkTellsRow.holds Tryd.pinned (OpenSpec.ofChange networkTellsWrong)

/- THE SECOND FORM. 'bulk': how many values and letters a reading holds, each counted each time it is reached (what is shared counts as often as it is met; a slice's spare places count too). A statement '..UptoSaid' is the law's where the arguments, and the package variables that the reading takes, are together of bulk at most 1048576: NARROWER than '..Said'. Prove '..Said' where nothing that the law and all that it calls make is longer than what came in: it says more and counts as full. Else prove '..UptoSaid'. A law counts once. -/
mutual
def uptoBulk {H : Type} : DataW H → Nat
  | .lit (.string bytes) => bytes.length + 1
  | .lit _ => 1
  | .nil => 1
  | .ptr d => uptoBulk d + 1
  | .slice elems spare => uptoBulkAll elems + uptoBulkAll spare + 1
  | .agg parts => uptoBulkAll parts + 1
  | .iface _ d => uptoBulk d + 1
  | .map entries => uptoBulkEntries entries + 1
  | .held _ => 1
def uptoBulkAll {H : Type} : List (DataW H) → Nat
  | [] => 0
  | d :: r => uptoBulk d + uptoBulkAll r
def uptoBulkEntries {H : Type} : List (Lit × DataW H) → Nat
  | [] => 0
  | x :: r => uptoBulkEntry x + uptoBulkEntries r
def uptoBulkEntry {H : Type} : Lit × DataW H → Nat
  | (.string bytes, d) => bytes.length + uptoBulk d + 1
  | (_, d) => uptoBulk d + 1
 end
def uptoSmall : (H : Type) → List (DataW H) → Bool := fun _ ds => decide (uptoBulkAll ds ≤ 1048576)
def OpenSpec.upto (s : _root_.Go.ChangeSpec) : _root_.Go.OpenSpec := { _root_.Go.OpenSpec.ofChange s with cond := some uptoSmall }

/-- 'primerlaw03.FrameWraps', WHERE WHAT IT READS IS OF BULK AT MOST 1048576: true; the input reads as it did. -/
def frameWrapsUptoRow : OpenClaim := { program := "ytlhcjoaeipgbeaadoor", sum := "6e78f4a245915385bb3bb15a2370ae79be610e1f4d7040a895cc9506d0dac45f", func := "primer/primerlaw03.FrameWraps", spec := "frameWraps", named := ["primer/frame.halves"], apart := false, laid := [("primer/frame.halves", laid_primer_frame_halves)], narrowed := true }
def FrameWrapsUptoSaid : Prop := frameWrapsUptoRow.holds Tryd.pinned (OpenSpec.upto frameWrapsSpec)

/-- 'primerlaw03.FrameOpens', WHERE WHAT IT READS IS OF BULK AT MOST 1048576: true; the input reads as it did. -/
def frameOpensUptoRow : OpenClaim := { program := "ytlhcjoaeipgbeaadoor", sum := "6e78f4a245915385bb3bb15a2370ae79be610e1f4d7040a895cc9506d0dac45f", func := "primer/primerlaw03.FrameOpens", spec := "frameOpens", named := ["primer/frame.halves"], apart := false, laid := [("primer/frame.halves", laid_primer_frame_halves)], narrowed := true }
def FrameOpensUptoSaid : Prop := frameOpensUptoRow.holds Tryd.pinned (OpenSpec.upto frameOpensSpec)

/-- 'primerlaw03.FrameSpoilt', WHERE WHAT IT READS IS OF BULK AT MOST 1048576: true; the input reads as it did. -/
def frameSpoiltUptoRow : OpenClaim := { program := "ytlhcjoaeipgbeaadoor", sum := "6e78f4a245915385bb3bb15a2370ae79be610e1f4d7040a895cc9506d0dac45f", func := "primer/primerlaw03.FrameSpoilt", spec := "frameSpoilt", named := ["primer/frame.halves"], apart := false, laid := [("primer/frame.halves", laid_primer_frame_halves)], narrowed := true }
def FrameSpoiltUptoSaid : Prop := frameSpoiltUptoRow.holds Tryd.pinned (OpenSpec.upto frameSpoiltSpec)

/-- 'primerlaw03.FrameLong', WHERE WHAT IT READS IS OF BULK AT MOST 1048576: true; the input reads as it did. -/
def frameLongUptoRow : OpenClaim := { program := "ytlhcjoaeipgbeaadoor", sum := "6e78f4a245915385bb3bb15a2370ae79be610e1f4d7040a895cc9506d0dac45f", func := "primer/primerlaw03.FrameLong", spec := "frameLong", named := ["primer/frame.halves"], apart := false, laid := [("primer/frame.halves", laid_primer_frame_halves)], narrowed := true }
def FrameLongUptoSaid : Prop := frameLongUptoRow.holds Tryd.pinned (OpenSpec.upto frameLongSpec)

/-- 'primerlaw03.FrameApart', WHERE WHAT IT READS IS OF BULK AT MOST 1048576: true; the input reads as it did. -/
def frameApartUptoRow : OpenClaim := { program := "ytlhcjoaeipgbeaadoor", sum := "6e78f4a245915385bb3bb15a2370ae79be610e1f4d7040a895cc9506d0dac45f", func := "primer/primerlaw03.FrameApart", spec := "frameApart", named := ["primer/frame.halves"], apart := false, laid := [("primer/frame.halves", laid_primer_frame_halves)], narrowed := true }
def FrameApartUptoSaid : Prop := frameApartUptoRow.holds Tryd.pinned (OpenSpec.upto frameApartSpec)

/-- 'primerlaw27.NetworkTells', WHERE WHAT IT READS IS OF BULK AT MOST 1048576: true; the input reads as it did. -/
def networkTellsUptoRow : OpenClaim := { program := "ytlhcjoaeipgbeaadoor", sum := "6e78f4a245915385bb3bb15a2370ae79be610e1f4d7040a895cc9506d0dac45f", func := "primer/primerlaw27.NetworkTells", spec := "networkTells", named := ["primer/frame.halves"], apart := false, laid := [("primer/frame.halves", laid_primer_frame_halves)], narrowed := true }
def NetworkTellsUptoSaid : Prop := networkTellsUptoRow.holds Tryd.pinned (OpenSpec.upto networkTellsSpec)

end Rows
end Go.Proofs.YtlhcjoaeipgbeaaDoor
