/-
  DERIVED. GIVEN WITH THE SEED: THE CARDS: each row of YtebocnpbiiejmaaDoorRows.lean that lists a variable, with what it lists TIED to the program's text (the seventh form; the later family's looks); each row that meets fmt, with fmt's text TOLD by the authors' own Lean function (tested against real Go, not proved from fmt's source: count such statements apart). THE CARD IS WHAT COUNTS. Prove the row's statement (the work); the ties are given (YtebocnpbiiejmaaDoorTie.lean); close each card by the builder's one call (the guide's Derived/Test/ToyasCard.lean, 'card_holds'). Laid BY PROGRAM, IN A SANDBOX (cutbox-door.mjs). By AI agents, Wed Nov 11 2026. No macro, syntax, notation, axiom, sorry.
-/
import Derived.Test.YtebocnpbiiejmaaDoorRows
import GoSem.ClaimSeven
namespace Go.Proofs.YtebocnpbiiejmaaDoor
namespace Rows

/-- THE TIED CARD OF 'primertop.TopWritten'. -/
def topWrittenCard : Claim7 := { stood := { row := topWrittenRow, standIns := [], harness := (true, "3231bd6d6d29e2facb1b527564fc9b4c3a873d81bc23b8af1cb8e0e9fc1d8a1d"), looks := true }, kinds := [], alts := [], laidByText := true, laidKinds := [.data], laidTests := true, laidLooks := .later }
def TopWrittenCardSaid : Prop := Claim7.holds Tryd.pinned (.plain (OpenSpec.ofChange topWrittenSpec)) topWrittenCard

/-- THE SECOND FORM's CARD OF 'primertop.TopWritten'. -/
def topWrittenUptoCard : Claim7 := { stood := { row := topWrittenUptoRow, standIns := [], harness := (true, "3231bd6d6d29e2facb1b527564fc9b4c3a873d81bc23b8af1cb8e0e9fc1d8a1d"), looks := true }, kinds := [], alts := [], laidByText := true, laidKinds := [.data], laidTests := true, laidLooks := .later }
def TopWrittenUptoCardSaid : Prop := Claim7.holds Tryd.pinned (.plain (OpenSpec.upto topWrittenSpec)) topWrittenUptoCard
end Rows
end Go.Proofs.YtebocnpbiiejmaaDoor
