/-
  DERIVED. GIVEN WITH THE SEED: THE CARDS: each row of YtlmbbchfaoeebaaGreatDoorRows.lean that lists a variable, with what it lists TIED to the program's text (the seventh form; the later family's looks); each row that meets fmt, with fmt's text TOLD by the authors' own Lean function (tested against real Go, not proved from fmt's source: count such statements apart). THE CARD IS WHAT COUNTS. Prove the row's statement (the work); the ties are given (YtlmbbchfaoeebaaGreatDoorTie.lean); close each card by the builder's one call (the guide's Derived/Test/ToyasCard.lean, 'card_holds'). Laid BY PROGRAM, IN A SANDBOX (cutbox-door.mjs). By AI agents, Wed Nov 11 2026. No macro, syntax, notation, axiom, sorry.
-/
import Derived.Test.YtlmbbchfaoeebaaGreatDoorRows
import GoSem.ClaimSeven
namespace Go.Proofs.YtlmbbchfaoeebaaGreatDoor
namespace Rows

/-- THE TIED CARD OF 'hexaplalaw12.SectionsWhole'. -/
def sectionsWholeCard : Claim7 := { stood := { row := sectionsWholeRow, standIns := [], harness := (true, "f2b15078f5ac0d3f1bc9b55d4a4774718879b4738ec39a0d4eff65a5943ecb85"), looks := true }, kinds := [], alts := [], laidByText := true, laidKinds := [.data, .data, .data, .data, .sentinel, .sentinel, .pinned, .pinned], laidTests := true, laidLooks := .later }
def SectionsWholeCardSaid : Prop := Claim7.holds Tryz.pinned (.plain (OpenSpec.ofChange sectionsWholeSpec)) sectionsWholeCard

/-- THE TIED CARD OF 'hexaplalaw14.AngleWhole'. -/
def angleWholeCard : Claim7 := { stood := { row := angleWholeRow, standIns := [], harness := (true, "f2b15078f5ac0d3f1bc9b55d4a4774718879b4738ec39a0d4eff65a5943ecb85"), looks := true }, kinds := [], alts := [], laidByText := true, laidKinds := [.data, .data, .data, .data, .sentinel, .sentinel, .pinned, .pinned], laidTests := true, laidLooks := .later }
def AngleWholeCardSaid : Prop := Claim7.holds Tryz.pinned (.plain (OpenSpec.ofChange angleWholeSpec)) angleWholeCard

/-- THE SECOND FORM's CARD OF 'hexaplalaw12.SectionsWhole'. -/
def sectionsWholeUptoCard : Claim7 := { stood := { row := sectionsWholeUptoRow, standIns := [], harness := (true, "f2b15078f5ac0d3f1bc9b55d4a4774718879b4738ec39a0d4eff65a5943ecb85"), looks := true }, kinds := [], alts := [], laidByText := true, laidKinds := [.data, .data, .data, .data, .sentinel, .sentinel, .pinned, .pinned], laidTests := true, laidLooks := .later }
def SectionsWholeUptoCardSaid : Prop := Claim7.holds Tryz.pinned (.plain (OpenSpec.upto sectionsWholeSpec)) sectionsWholeUptoCard

/-- THE SECOND FORM's CARD OF 'hexaplalaw14.AngleWhole'. -/
def angleWholeUptoCard : Claim7 := { stood := { row := angleWholeUptoRow, standIns := [], harness := (true, "f2b15078f5ac0d3f1bc9b55d4a4774718879b4738ec39a0d4eff65a5943ecb85"), looks := true }, kinds := [], alts := [], laidByText := true, laidKinds := [.data, .data, .data, .data, .sentinel, .sentinel, .pinned, .pinned], laidTests := true, laidLooks := .later }
def AngleWholeUptoCardSaid : Prop := Claim7.holds Tryz.pinned (.plain (OpenSpec.upto angleWholeSpec)) angleWholeUptoCard
end Rows
end Go.Proofs.YtlmbbchfaoeebaaGreatDoor
