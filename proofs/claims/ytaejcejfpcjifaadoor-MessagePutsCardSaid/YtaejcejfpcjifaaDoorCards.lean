/-
  DERIVED. GIVEN WITH THE SEED: THE CARDS: each row of YtaejcejfpcjifaaDoorRows.lean that lists a variable, with what it lists TIED to the program's text (the seventh form; the later family's looks); each row that meets fmt, with fmt's text TOLD by the authors' own Lean function (tested against real Go, not proved from fmt's source: count such statements apart). THE CARD IS WHAT COUNTS. Prove the row's statement (the work); the ties are given (YtaejcejfpcjifaaDoorTie.lean); close each card by the builder's one call (the guide's Derived/Test/ToyasCard.lean, 'card_holds'). Laid BY PROGRAM, IN A SANDBOX (cutbox-door.mjs). By AI agents, Wed Nov 11 2026. No macro, syntax, notation, axiom, sorry.
-/
import Derived.Test.YtaejcejfpcjifaaDoorRows
import GoSem.ClaimSeven
namespace Go.Proofs.YtaejcejfpcjifaaDoor
namespace Rows

/-- THE TIED CARD OF 'primerlaw23.MessagePuts'. -/
def messagePutsCard : Claim7 := { stood := { row := messagePutsRow, standIns := [], harness := (true, "928febdca54d3564b5eccd028fb66ad7ab2222d3e46deaddcb9947f6fc440556"), looks := false }, kinds := [], alts := [], laidByText := true, laidKinds := [.data], laidTests := true, laidLooks := .later }
def MessagePutsCardSaid : Prop := Claim7.holds Tryd.pinned (.plain (OpenSpec.ofChange messagePutsSpec)) messagePutsCard

/-- THE SECOND FORM's CARD OF 'primerlaw23.MessagePuts'. -/
def messagePutsUptoCard : Claim7 := { stood := { row := messagePutsUptoRow, standIns := [], harness := (true, "928febdca54d3564b5eccd028fb66ad7ab2222d3e46deaddcb9947f6fc440556"), looks := false }, kinds := [], alts := [], laidByText := true, laidKinds := [.data], laidTests := true, laidLooks := .later }
def MessagePutsUptoCardSaid : Prop := Claim7.holds Tryd.pinned (.plain (OpenSpec.upto messagePutsSpec)) messagePutsUptoCard
end Rows
end Go.Proofs.YtaejcejfpcjifaaDoor
