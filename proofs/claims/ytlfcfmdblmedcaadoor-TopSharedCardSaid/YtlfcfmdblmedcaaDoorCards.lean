/-
  DERIVED. GIVEN WITH THE SEED: THE CARDS: each row of YtlfcfmdblmedcaaDoorRows.lean that lists a variable, with what it lists TIED to the program's text (the seventh form; the later family's looks); each row that meets fmt, with fmt's text TOLD by the authors' own Lean function (tested against real Go, not proved from fmt's source: count such statements apart). THE CARD IS WHAT COUNTS. Prove the row's statement (the work); the ties are given (YtlfcfmdblmedcaaDoorTie.lean); close each card by the builder's one call (the guide's Derived/Test/ToyasCard.lean, 'card_holds'). Laid BY PROGRAM, IN A SANDBOX (cutbox-door.mjs). By AI agents, Wed Nov 11 2026. No macro, syntax, notation, axiom, sorry.
-/
import Derived.Test.YtlfcfmdblmedcaaDoorRows
import GoSem.ClaimSeven
namespace Go.Proofs.YtlfcfmdblmedcaaDoor
namespace Rows

/-- THE TIED CARD OF 'lapwingtop.TopLine'. -/
def topLineCard : Claim7 := { stood := { row := topLineRow, standIns := [], harness := (true, "163db629aebad5dfd1de045ede487ea89e69e868422f363fcb82978c533bd8d3"), looks := false }, kinds := [], alts := [], laidByText := true, laidKinds := [.data, .widerDeep, .data, .pinned], laidTests := true, laidLooks := .later }
def TopLineCardSaid : Prop := Claim7.holds Tryd.pinned (.plain (OpenSpec.ofChange topLineSpec)) topLineCard

/-- THE TIED CARD OF 'lapwingtop.TopShared'. -/
def topSharedCard : Claim7 := { stood := { row := topSharedRow, standIns := [], harness := (true, "163db629aebad5dfd1de045ede487ea89e69e868422f363fcb82978c533bd8d3"), looks := false }, kinds := [], alts := [], laidByText := true, laidKinds := [.data, .widerDeep, .data, .pinned], laidTests := true, laidLooks := .later }
def TopSharedCardSaid : Prop := Claim7.holds Tryd.pinned (.plain (OpenSpec.ofChange topSharedSpec)) topSharedCard

/-- THE SECOND FORM's CARD OF 'lapwingtop.TopLine'. -/
def topLineUptoCard : Claim7 := { stood := { row := topLineUptoRow, standIns := [], harness := (true, "163db629aebad5dfd1de045ede487ea89e69e868422f363fcb82978c533bd8d3"), looks := false }, kinds := [], alts := [], laidByText := true, laidKinds := [.data, .widerDeep, .data, .pinned], laidTests := true, laidLooks := .later }
def TopLineUptoCardSaid : Prop := Claim7.holds Tryd.pinned (.plain (OpenSpec.upto topLineSpec)) topLineUptoCard

/-- THE SECOND FORM's CARD OF 'lapwingtop.TopShared'. -/
def topSharedUptoCard : Claim7 := { stood := { row := topSharedUptoRow, standIns := [], harness := (true, "163db629aebad5dfd1de045ede487ea89e69e868422f363fcb82978c533bd8d3"), looks := false }, kinds := [], alts := [], laidByText := true, laidKinds := [.data, .widerDeep, .data, .pinned], laidTests := true, laidLooks := .later }
def TopSharedUptoCardSaid : Prop := Claim7.holds Tryd.pinned (.plain (OpenSpec.upto topSharedSpec)) topSharedUptoCard
end Rows
end Go.Proofs.YtlfcfmdblmedcaaDoor
