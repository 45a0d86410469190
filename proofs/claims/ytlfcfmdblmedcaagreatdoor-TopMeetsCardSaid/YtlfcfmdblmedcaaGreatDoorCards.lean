/-
  DERIVED. GIVEN WITH THE SEED: THE CARDS: each row of YtlfcfmdblmedcaaGreatDoorRows.lean that lists a variable, with what it lists TIED to the program's text (the seventh form; the later family's looks); each row that meets fmt, with fmt's text TOLD by the authors' own Lean function (tested against real Go, not proved from fmt's source: count such statements apart). THE CARD IS WHAT COUNTS. Prove the row's statement (the work); the ties are given (YtlfcfmdblmedcaaGreatDoorTie.lean); close each card by the builder's one call (the guide's Derived/Test/ToyasCard.lean, 'card_holds'). Laid BY PROGRAM, IN A SANDBOX (cutbox-door.mjs). By AI agents, Wed Nov 11 2026. No macro, syntax, notation, axiom, sorry.
-/
import Derived.Test.YtlfcfmdblmedcaaGreatDoorRows
import GoSem.ClaimSeven
namespace Go.Proofs.YtlfcfmdblmedcaaGreatDoor
namespace Rows

/-- THE TIED CARD OF 'lapwingtop.TopMeets'. -/
def topMeetsCard : Claim7 := { stood := { row := topMeetsRow, standIns := [], harness := (true, "9df1b4075c04702ced7276b751900a7a4e89282252387d6ab7f0ed28f917bbee"), looks := false }, kinds := [], alts := [], laidByText := true, laidKinds := [.data, .widerDeep, .data, .pinned], laidTests := true, laidLooks := .later }
def TopMeetsCardSaid : Prop := Claim7.holds Tryz.pinned (.plain (OpenSpec.ofChange topMeetsSpec)) topMeetsCard

/-- THE SECOND FORM's CARD OF 'lapwingtop.TopMeets'. -/
def topMeetsUptoCard : Claim7 := { stood := { row := topMeetsUptoRow, standIns := [], harness := (true, "9df1b4075c04702ced7276b751900a7a4e89282252387d6ab7f0ed28f917bbee"), looks := false }, kinds := [], alts := [], laidByText := true, laidKinds := [.data, .widerDeep, .data, .pinned], laidTests := true, laidLooks := .later }
def TopMeetsUptoCardSaid : Prop := Claim7.holds Tryz.pinned (.plain (OpenSpec.upto topMeetsSpec)) topMeetsUptoCard
end Rows
end Go.Proofs.YtlfcfmdblmedcaaGreatDoor
