/-
  DERIVED. GIVEN WITH THE SEED: THE CARDS: each row of YtjglehhkaeckmaaGreatDoorRows.lean that lists a variable, with what it lists TIED to the program's text (the seventh form; the later family's looks); each row that meets fmt, with fmt's text TOLD by the authors' own Lean function (tested against real Go, not proved from fmt's source: count such statements apart). THE CARD IS WHAT COUNTS. Prove the row's statement (the work); the ties are given (YtjglehhkaeckmaaGreatDoorTie.lean); close each card by the builder's one call (the guide's Derived/Test/ToyasCard.lean, 'card_holds'). Laid BY PROGRAM, IN A SANDBOX (cutbox-door.mjs). By AI agents, Wed Nov 11 2026. No macro, syntax, notation, axiom, sorry.
-/
import Derived.Test.YtjglehhkaeckmaaGreatDoorRows
import GoSem.ClaimSeven
namespace Go.Proofs.YtjglehhkaeckmaaGreatDoor
namespace Rows

/-- THE TIED CARD OF 'emendationlaw21.FilesPuts'. -/
def filesPutsCard : Claim7 := { stood := { row := filesPutsRow, standIns := [], harness := (true, "70cd7cd00e8bd05d546e643937f5117877ce8bb8b4a082de7cc77c512748573d"), looks := true }, kinds := [], alts := [], laidByText := true, laidKinds := [.data, .data, .data, .data, .sentinel, .sentinel, .pinned], laidTests := true, laidLooks := .later }
def FilesPutsCardSaid : Prop := Claim7.holds Tryz.pinned (.plain (OpenSpec.ofChange filesPutsSpec)) filesPutsCard

/-- THE TIED CARD OF 'emendationlaw21.FilesNil'. -/
def filesNilCard : Claim7 := { stood := { row := filesNilRow, standIns := [], harness := (true, "70cd7cd00e8bd05d546e643937f5117877ce8bb8b4a082de7cc77c512748573d"), looks := true }, kinds := [], alts := [], laidByText := true, laidKinds := [.data, .data, .data, .data, .sentinel, .sentinel, .pinned], laidTests := true, laidLooks := .later }
def FilesNilCardSaid : Prop := Claim7.holds Tryz.pinned (.plain (OpenSpec.ofChange filesNilSpec)) filesNilCard

/-- THE SECOND FORM's CARD OF 'emendationlaw21.FilesPuts'. -/
def filesPutsUptoCard : Claim7 := { stood := { row := filesPutsUptoRow, standIns := [], harness := (true, "70cd7cd00e8bd05d546e643937f5117877ce8bb8b4a082de7cc77c512748573d"), looks := true }, kinds := [], alts := [], laidByText := true, laidKinds := [.data, .data, .data, .data, .sentinel, .sentinel, .pinned], laidTests := true, laidLooks := .later }
def FilesPutsUptoCardSaid : Prop := Claim7.holds Tryz.pinned (.plain (OpenSpec.upto filesPutsSpec)) filesPutsUptoCard

/-- THE SECOND FORM's CARD OF 'emendationlaw21.FilesNil'. -/
def filesNilUptoCard : Claim7 := { stood := { row := filesNilUptoRow, standIns := [], harness := (true, "70cd7cd00e8bd05d546e643937f5117877ce8bb8b4a082de7cc77c512748573d"), looks := true }, kinds := [], alts := [], laidByText := true, laidKinds := [.data, .data, .data, .data, .sentinel, .sentinel, .pinned], laidTests := true, laidLooks := .later }
def FilesNilUptoCardSaid : Prop := Claim7.holds Tryz.pinned (.plain (OpenSpec.upto filesNilSpec)) filesNilUptoCard
end Rows
end Go.Proofs.YtjglehhkaeckmaaGreatDoor
