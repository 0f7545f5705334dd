/-
  DERIVED. GIVEN WITH THE SEED: THE CARDS: each row of YtlnmefpndgmenaaDoorRows.lean that lists a variable, with what it lists TIED to the program's text (the seventh form; the later family's looks); each row that meets fmt, with fmt's text TOLD by the authors' own Lean function (tested against real Go, not proved from fmt's source: count such statements apart). THE CARD IS WHAT COUNTS. Prove the row's statement (the work); the ties are given (YtlnmefpndgmenaaDoorTie.lean); close each card by the builder's one call (the guide's Derived/Test/ToyasCard.lean, 'card_holds'). Laid BY PROGRAM, IN A SANDBOX (cutbox-door.mjs). By AI agents, Wed Nov 11 2026. No macro, syntax, notation, axiom, sorry.
-/
import Derived.Test.YtlnmefpndgmenaaDoorRows
import GoSem.ClaimSeven
namespace Go.Proofs.YtlnmefpndgmenaaDoor
namespace Rows

/-- THE TIED CARD OF 'primerlaw23.MessagePuts'. -/
def messagePutsCard : Claim7 := { stood := { row := messagePutsRow, standIns := [], harness := (true, "91ecc7856522380ae866dc224fc3b5c49956080803124805c1b8f7b646c5fa12"), looks := false }, kinds := [], alts := [], laidByText := true, laidKinds := [.data], laidTests := true, laidLooks := .later }
def MessagePutsCardSaid : Prop := Claim7.holds Tryd.pinned (.plain (OpenSpec.ofChange messagePutsSpec)) messagePutsCard

/-- THE TIED CARD OF 'primerlaw23.MessageSpoilt'. -/
def messageSpoiltCard : Claim7 := { stood := { row := messageSpoiltRow, standIns := [], harness := (true, "91ecc7856522380ae866dc224fc3b5c49956080803124805c1b8f7b646c5fa12"), looks := false }, kinds := [], alts := [], laidByText := true, laidKinds := [.data], laidTests := true, laidLooks := .later }
def MessageSpoiltCardSaid : Prop := Claim7.holds Tryd.pinned (.plain (OpenSpec.ofChange messageSpoiltSpec)) messageSpoiltCard

/-- THE TIED CARD OF 'primerlaw23.MessageApart'. -/
def messageApartCard : Claim7 := { stood := { row := messageApartRow, standIns := [], harness := (true, "91ecc7856522380ae866dc224fc3b5c49956080803124805c1b8f7b646c5fa12"), looks := false }, kinds := [], alts := [], laidByText := true, laidKinds := [.data], laidTests := true, laidLooks := .later }
def MessageApartCardSaid : Prop := Claim7.holds Tryd.pinned (.plain (OpenSpec.ofChange messageApartSpec)) messageApartCard

/-- THE TIED CARD OF 'primerlaw26.SessionOnce'. -/
def sessionOnceCard : Claim7 := { stood := { row := sessionOnceRow, standIns := [], harness := (true, "91ecc7856522380ae866dc224fc3b5c49956080803124805c1b8f7b646c5fa12"), looks := false }, kinds := [], alts := [], laidByText := true, laidKinds := [.data], laidTests := true, laidLooks := .later }
def SessionOnceCardSaid : Prop := Claim7.holds Tryd.pinned (.plain (OpenSpec.ofChange sessionOnceSpec)) sessionOnceCard

/-- THE SECOND FORM's CARD OF 'primerlaw23.MessagePuts'. -/
def messagePutsUptoCard : Claim7 := { stood := { row := messagePutsUptoRow, standIns := [], harness := (true, "91ecc7856522380ae866dc224fc3b5c49956080803124805c1b8f7b646c5fa12"), looks := false }, kinds := [], alts := [], laidByText := true, laidKinds := [.data], laidTests := true, laidLooks := .later }
def MessagePutsUptoCardSaid : Prop := Claim7.holds Tryd.pinned (.plain (OpenSpec.upto messagePutsSpec)) messagePutsUptoCard

/-- THE SECOND FORM's CARD OF 'primerlaw23.MessageSpoilt'. -/
def messageSpoiltUptoCard : Claim7 := { stood := { row := messageSpoiltUptoRow, standIns := [], harness := (true, "91ecc7856522380ae866dc224fc3b5c49956080803124805c1b8f7b646c5fa12"), looks := false }, kinds := [], alts := [], laidByText := true, laidKinds := [.data], laidTests := true, laidLooks := .later }
def MessageSpoiltUptoCardSaid : Prop := Claim7.holds Tryd.pinned (.plain (OpenSpec.upto messageSpoiltSpec)) messageSpoiltUptoCard

/-- THE SECOND FORM's CARD OF 'primerlaw23.MessageApart'. -/
def messageApartUptoCard : Claim7 := { stood := { row := messageApartUptoRow, standIns := [], harness := (true, "91ecc7856522380ae866dc224fc3b5c49956080803124805c1b8f7b646c5fa12"), looks := false }, kinds := [], alts := [], laidByText := true, laidKinds := [.data], laidTests := true, laidLooks := .later }
def MessageApartUptoCardSaid : Prop := Claim7.holds Tryd.pinned (.plain (OpenSpec.upto messageApartSpec)) messageApartUptoCard

/-- THE SECOND FORM's CARD OF 'primerlaw26.SessionOnce'. -/
def sessionOnceUptoCard : Claim7 := { stood := { row := sessionOnceUptoRow, standIns := [], harness := (true, "91ecc7856522380ae866dc224fc3b5c49956080803124805c1b8f7b646c5fa12"), looks := false }, kinds := [], alts := [], laidByText := true, laidKinds := [.data], laidTests := true, laidLooks := .later }
def SessionOnceUptoCardSaid : Prop := Claim7.holds Tryd.pinned (.plain (OpenSpec.upto sessionOnceSpec)) sessionOnceUptoCard
end Rows
end Go.Proofs.YtlnmefpndgmenaaDoor
