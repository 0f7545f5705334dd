/-
  DERIVED. GIVEN WITH THE SEED: THE CARDS: each row of YtlhcjoaeipgbeaaDoorRows.lean that lists a variable, with what it lists TIED to the program's text (the seventh form; the later family's looks); each row that meets fmt, with fmt's text TOLD by the authors' own Lean function (tested against real Go, not proved from fmt's source: count such statements apart). THE CARD IS WHAT COUNTS. Prove the row's statement (the work); the ties are given (YtlhcjoaeipgbeaaDoorTie.lean); close each card by the builder's one call (the guide's Derived/Test/ToyasCard.lean, 'card_holds'). Laid BY PROGRAM, IN A SANDBOX (cutbox-door.mjs). By AI agents, Wed Nov 11 2026. No macro, syntax, notation, axiom, sorry.
-/
import Derived.Test.YtlhcjoaeipgbeaaDoorRows
import GoSem.ClaimSeven
namespace Go.Proofs.YtlhcjoaeipgbeaaDoor
namespace Rows

/-- THE TIED CARD OF 'primerlaw03.FrameWraps'. -/
def frameWrapsCard : Claim7 := { stood := { row := frameWrapsRow, standIns := [], harness := (true, "11505044bab8addc24cba7b7572659e894ae3e63010012d8b27a9710a1b06510"), looks := false }, kinds := [], alts := [], laidByText := true, laidKinds := [.data], laidTests := true, laidLooks := .later }
def FrameWrapsCardSaid : Prop := Claim7.holds Tryd.pinned (.plain (OpenSpec.ofChange frameWrapsSpec)) frameWrapsCard

/-- THE TIED CARD OF 'primerlaw03.FrameOpens'. -/
def frameOpensCard : Claim7 := { stood := { row := frameOpensRow, standIns := [], harness := (true, "11505044bab8addc24cba7b7572659e894ae3e63010012d8b27a9710a1b06510"), looks := false }, kinds := [], alts := [], laidByText := true, laidKinds := [.data], laidTests := true, laidLooks := .later }
def FrameOpensCardSaid : Prop := Claim7.holds Tryd.pinned (.plain (OpenSpec.ofChange frameOpensSpec)) frameOpensCard

/-- THE TIED CARD OF 'primerlaw03.FrameSpoilt'. -/
def frameSpoiltCard : Claim7 := { stood := { row := frameSpoiltRow, standIns := [], harness := (true, "11505044bab8addc24cba7b7572659e894ae3e63010012d8b27a9710a1b06510"), looks := false }, kinds := [], alts := [], laidByText := true, laidKinds := [.data], laidTests := true, laidLooks := .later }
def FrameSpoiltCardSaid : Prop := Claim7.holds Tryd.pinned (.plain (OpenSpec.ofChange frameSpoiltSpec)) frameSpoiltCard

/-- THE TIED CARD OF 'primerlaw03.FrameLong'. -/
def frameLongCard : Claim7 := { stood := { row := frameLongRow, standIns := [], harness := (true, "11505044bab8addc24cba7b7572659e894ae3e63010012d8b27a9710a1b06510"), looks := false }, kinds := [], alts := [], laidByText := true, laidKinds := [.data], laidTests := true, laidLooks := .later }
def FrameLongCardSaid : Prop := Claim7.holds Tryd.pinned (.plain (OpenSpec.ofChange frameLongSpec)) frameLongCard

/-- THE TIED CARD OF 'primerlaw03.FrameApart'. -/
def frameApartCard : Claim7 := { stood := { row := frameApartRow, standIns := [], harness := (true, "11505044bab8addc24cba7b7572659e894ae3e63010012d8b27a9710a1b06510"), looks := false }, kinds := [], alts := [], laidByText := true, laidKinds := [.data], laidTests := true, laidLooks := .later }
def FrameApartCardSaid : Prop := Claim7.holds Tryd.pinned (.plain (OpenSpec.ofChange frameApartSpec)) frameApartCard

/-- THE TIED CARD OF 'primerlaw27.NetworkTells'. -/
def networkTellsCard : Claim7 := { stood := { row := networkTellsRow, standIns := [], harness := (true, "11505044bab8addc24cba7b7572659e894ae3e63010012d8b27a9710a1b06510"), looks := false }, kinds := [], alts := [], laidByText := true, laidKinds := [.data], laidTests := true, laidLooks := .later }
def NetworkTellsCardSaid : Prop := Claim7.holds Tryd.pinned (.plain (OpenSpec.ofChange networkTellsSpec)) networkTellsCard

/-- THE SECOND FORM's CARD OF 'primerlaw03.FrameWraps'. -/
def frameWrapsUptoCard : Claim7 := { stood := { row := frameWrapsUptoRow, standIns := [], harness := (true, "11505044bab8addc24cba7b7572659e894ae3e63010012d8b27a9710a1b06510"), looks := false }, kinds := [], alts := [], laidByText := true, laidKinds := [.data], laidTests := true, laidLooks := .later }
def FrameWrapsUptoCardSaid : Prop := Claim7.holds Tryd.pinned (.plain (OpenSpec.upto frameWrapsSpec)) frameWrapsUptoCard

/-- THE SECOND FORM's CARD OF 'primerlaw03.FrameOpens'. -/
def frameOpensUptoCard : Claim7 := { stood := { row := frameOpensUptoRow, standIns := [], harness := (true, "11505044bab8addc24cba7b7572659e894ae3e63010012d8b27a9710a1b06510"), looks := false }, kinds := [], alts := [], laidByText := true, laidKinds := [.data], laidTests := true, laidLooks := .later }
def FrameOpensUptoCardSaid : Prop := Claim7.holds Tryd.pinned (.plain (OpenSpec.upto frameOpensSpec)) frameOpensUptoCard

/-- THE SECOND FORM's CARD OF 'primerlaw03.FrameSpoilt'. -/
def frameSpoiltUptoCard : Claim7 := { stood := { row := frameSpoiltUptoRow, standIns := [], harness := (true, "11505044bab8addc24cba7b7572659e894ae3e63010012d8b27a9710a1b06510"), looks := false }, kinds := [], alts := [], laidByText := true, laidKinds := [.data], laidTests := true, laidLooks := .later }
def FrameSpoiltUptoCardSaid : Prop := Claim7.holds Tryd.pinned (.plain (OpenSpec.upto frameSpoiltSpec)) frameSpoiltUptoCard

/-- THE SECOND FORM's CARD OF 'primerlaw03.FrameLong'. -/
def frameLongUptoCard : Claim7 := { stood := { row := frameLongUptoRow, standIns := [], harness := (true, "11505044bab8addc24cba7b7572659e894ae3e63010012d8b27a9710a1b06510"), looks := false }, kinds := [], alts := [], laidByText := true, laidKinds := [.data], laidTests := true, laidLooks := .later }
def FrameLongUptoCardSaid : Prop := Claim7.holds Tryd.pinned (.plain (OpenSpec.upto frameLongSpec)) frameLongUptoCard

/-- THE SECOND FORM's CARD OF 'primerlaw03.FrameApart'. -/
def frameApartUptoCard : Claim7 := { stood := { row := frameApartUptoRow, standIns := [], harness := (true, "11505044bab8addc24cba7b7572659e894ae3e63010012d8b27a9710a1b06510"), looks := false }, kinds := [], alts := [], laidByText := true, laidKinds := [.data], laidTests := true, laidLooks := .later }
def FrameApartUptoCardSaid : Prop := Claim7.holds Tryd.pinned (.plain (OpenSpec.upto frameApartSpec)) frameApartUptoCard

/-- THE SECOND FORM's CARD OF 'primerlaw27.NetworkTells'. -/
def networkTellsUptoCard : Claim7 := { stood := { row := networkTellsUptoRow, standIns := [], harness := (true, "11505044bab8addc24cba7b7572659e894ae3e63010012d8b27a9710a1b06510"), looks := false }, kinds := [], alts := [], laidByText := true, laidKinds := [.data], laidTests := true, laidLooks := .later }
def NetworkTellsUptoCardSaid : Prop := Claim7.holds Tryd.pinned (.plain (OpenSpec.upto networkTellsSpec)) networkTellsUptoCard
end Rows
end Go.Proofs.YtlhcjoaeipgbeaaDoor
