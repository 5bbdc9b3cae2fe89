/-
  DERIVED. GIVEN WITH THE SEED: THE CARDS: each row of YtafhlipcgbopnaaGreatDoorRows.lean that lists a variable, with what it lists TIED to the program's text (the seventh form; the later family's looks); each row that meets fmt, with fmt's text TOLD by the authors' own Lean function (tested against real Go, not proved from fmt's source: count such statements apart). THE CARD IS WHAT COUNTS. Prove the row's statement (the work); the ties are given (YtafhlipcgbopnaaGreatDoorTie.lean); close each card by the builder's one call (the guide's Derived/Test/ToyasCard.lean, 'card_holds'). Laid BY PROGRAM, IN A SANDBOX (cutbox-door.mjs). By AI agents, Wed Nov 11 2026. No macro, syntax, notation, axiom, sorry.
-/
import Derived.Test.YtafhlipcgbopnaaGreatDoorRows
import GoSem.ClaimSeven
namespace Go.Proofs.YtafhlipcgbopnaaGreatDoor
namespace Rows

/-- THE TIED CARD OF 'hexaplalaw11.OutlineWhole'. -/
def outlineWholeCard : Claim7 := { stood := { row := outlineWholeRow, standIns := [], harness := (true, "a0db57692fc66768fff9486021d5b2966db310172bc1e8cc1aebd7679ade1072"), looks := true }, kinds := [], alts := [], laidByText := true, laidKinds := [.data, .data, .data, .data, .sentinel, .sentinel, .pinned, .pinned], laidTests := true, laidLooks := .later }
def OutlineWholeCardSaid : Prop := Claim7.holds Tryz.pinned (.plain (OpenSpec.ofChange outlineWholeSpec)) outlineWholeCard

/-- THE SECOND FORM's CARD OF 'hexaplalaw11.OutlineWhole'. -/
def outlineWholeUptoCard : Claim7 := { stood := { row := outlineWholeUptoRow, standIns := [], harness := (true, "a0db57692fc66768fff9486021d5b2966db310172bc1e8cc1aebd7679ade1072"), looks := true }, kinds := [], alts := [], laidByText := true, laidKinds := [.data, .data, .data, .data, .sentinel, .sentinel, .pinned, .pinned], laidTests := true, laidLooks := .later }
def OutlineWholeUptoCardSaid : Prop := Claim7.holds Tryz.pinned (.plain (OpenSpec.upto outlineWholeSpec)) outlineWholeUptoCard
end Rows
end Go.Proofs.YtafhlipcgbopnaaGreatDoor
