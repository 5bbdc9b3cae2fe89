/-
  DERIVED. GIVEN WITH THE SEED: THE CARDS: each row of YtkkifbjdbhjhaaaGreatDoorRows.lean that lists a variable, with what it lists TIED to the program's text (the seventh form; the later family's looks); each row that meets fmt, with fmt's text TOLD by the authors' own Lean function (tested against real Go, not proved from fmt's source: count such statements apart). THE CARD IS WHAT COUNTS. Prove the row's statement (the work); the ties are given (YtkkifbjdbhjhaaaGreatDoorTie.lean); close each card by the builder's one call (the guide's Derived/Test/ToyasCard.lean, 'card_holds'). Laid BY PROGRAM, IN A SANDBOX (cutbox-door.mjs). By AI agents, Wed Nov 11 2026. No macro, syntax, notation, axiom, sorry.
-/
import Derived.Test.YtkkifbjdbhjhaaaGreatDoorRows
import GoSem.ClaimSeven
namespace Go.Proofs.YtkkifbjdbhjhaaaGreatDoor
namespace Rows

/-- THE TIED CARD OF 'hexaplalaw18.InkdelimRound'. -/
def inkdelimRoundCard : Claim7 := { stood := { row := inkdelimRoundRow, standIns := [], harness := (true, "e188f100ddfe147f2c90fb18d975651c984d691740043cf02a50a8cebaee9638"), looks := true }, kinds := [], alts := [], laidByText := true, laidKinds := [.data, .data, .data, .data, .sentinel, .sentinel, .pinned, .pinned], laidTests := true, laidLooks := .later }
def InkdelimRoundCardSaid : Prop := Claim7.holds Tryz.pinned (.plain (OpenSpec.ofChange inkdelimRoundSpec)) inkdelimRoundCard

/-- THE SECOND FORM's CARD OF 'hexaplalaw18.InkdelimRound'. -/
def inkdelimRoundUptoCard : Claim7 := { stood := { row := inkdelimRoundUptoRow, standIns := [], harness := (true, "e188f100ddfe147f2c90fb18d975651c984d691740043cf02a50a8cebaee9638"), looks := true }, kinds := [], alts := [], laidByText := true, laidKinds := [.data, .data, .data, .data, .sentinel, .sentinel, .pinned, .pinned], laidTests := true, laidLooks := .later }
def InkdelimRoundUptoCardSaid : Prop := Claim7.holds Tryz.pinned (.plain (OpenSpec.upto inkdelimRoundSpec)) inkdelimRoundUptoCard
end Rows
end Go.Proofs.YtkkifbjdbhjhaaaGreatDoor
