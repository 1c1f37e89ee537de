/-
  DERIVED. GIVEN WITH THE SEED: THE CARDS: each row of YtgpoldjpmcoppaaDoorRows.lean that lists a variable, with what it lists TIED to the program's text (the seventh form; the later family's looks); each row that meets fmt, with fmt's text TOLD by the authors' own Lean function (tested against real Go, not proved from fmt's source: count such statements apart). THE CARD IS WHAT COUNTS. Prove the row's statement (the work); the ties are given (YtgpoldjpmcoppaaDoorTie.lean); close each card by the builder's one call (the guide's Derived/Test/ToyasCard.lean, 'card_holds'). Laid BY PROGRAM, IN A SANDBOX (cutbox-door.mjs). By AI agents, Wed Nov 11 2026. No macro, syntax, notation, axiom, sorry.
-/
import Derived.Test.YtgpoldjpmcoppaaDoorRows
import GoSem.ClaimSeven
namespace Go.Proofs.YtgpoldjpmcoppaaDoor
namespace Rows

/-- THE TIED CARD OF 'pithlaw9.FilesBack'. -/
def filesBackCard : Claim7 := { stood := { row := filesBackRow, standIns := [], harness := (true, "a337b93ea20fb35c140ef11d0d1ceb4cb63ed43ad61a8767cad30f18828b2eaa"), looks := true }, kinds := [], alts := [], laidByText := true, laidKinds := [.data], laidTests := true, laidLooks := .later }
def FilesBackCardSaid : Prop := Claim7.holds Tryd.pinned (.plain (OpenSpec.ofChange filesBackSpec)) filesBackCard

/-- THE TIED CARD OF 'pithlaw9.FilesSpoilt'. -/
def filesSpoiltCard : Claim7 := { stood := { row := filesSpoiltRow, standIns := [], harness := (true, "a337b93ea20fb35c140ef11d0d1ceb4cb63ed43ad61a8767cad30f18828b2eaa"), looks := true }, kinds := [], alts := [], laidByText := true, laidKinds := [.data], laidTests := true, laidLooks := .later }
def FilesSpoiltCardSaid : Prop := Claim7.holds Tryd.pinned (.plain (OpenSpec.ofChange filesSpoiltSpec)) filesSpoiltCard

/-- THE TIED CARD OF 'pithlaw9.FilesBeside'. -/
def filesBesideCard : Claim7 := { stood := { row := filesBesideRow, standIns := [], harness := (true, "a337b93ea20fb35c140ef11d0d1ceb4cb63ed43ad61a8767cad30f18828b2eaa"), looks := true }, kinds := [], alts := [], laidByText := true, laidKinds := [.data], laidTests := true, laidLooks := .later }
def FilesBesideCardSaid : Prop := Claim7.holds Tryd.pinned (.plain (OpenSpec.ofChange filesBesideSpec)) filesBesideCard

/-- THE TIED CARD OF 'pithlaw9.FilesLazy'. -/
def filesLazyCard : Claim7 := { stood := { row := filesLazyRow, standIns := [], harness := (true, "a337b93ea20fb35c140ef11d0d1ceb4cb63ed43ad61a8767cad30f18828b2eaa"), looks := true }, kinds := [], alts := [], laidByText := true, laidKinds := [.data], laidTests := true, laidLooks := .later }
def FilesLazyCardSaid : Prop := Claim7.holds Tryd.pinned (.plain (OpenSpec.ofChange filesLazySpec)) filesLazyCard

/-- THE TIED CARD OF 'pithlaw9.FilesRoom'. -/
def filesRoomCard : Claim7 := { stood := { row := filesRoomRow, standIns := [], harness := (true, "a337b93ea20fb35c140ef11d0d1ceb4cb63ed43ad61a8767cad30f18828b2eaa"), looks := true }, kinds := [], alts := [], laidByText := true, laidKinds := [.data], laidTests := true, laidLooks := .later }
def FilesRoomCardSaid : Prop := Claim7.holds Tryd.pinned (.plain (OpenSpec.ofChange filesRoomSpec)) filesRoomCard

/-- THE TIED CARD OF 'pithlaw9.FilesWhole'. -/
def filesWholeCard : Claim7 := { stood := { row := filesWholeRow, standIns := [], harness := (true, "a337b93ea20fb35c140ef11d0d1ceb4cb63ed43ad61a8767cad30f18828b2eaa"), looks := true }, kinds := [], alts := [], laidByText := true, laidKinds := [.data], laidTests := true, laidLooks := .later }
def FilesWholeCardSaid : Prop := Claim7.holds Tryd.pinned (.plain (OpenSpec.ofChange filesWholeSpec)) filesWholeCard

/-- THE SECOND FORM's CARD OF 'pithlaw9.FilesBack'. -/
def filesBackUptoCard : Claim7 := { stood := { row := filesBackUptoRow, standIns := [], harness := (true, "a337b93ea20fb35c140ef11d0d1ceb4cb63ed43ad61a8767cad30f18828b2eaa"), looks := true }, kinds := [], alts := [], laidByText := true, laidKinds := [.data], laidTests := true, laidLooks := .later }
def FilesBackUptoCardSaid : Prop := Claim7.holds Tryd.pinned (.plain (OpenSpec.upto filesBackSpec)) filesBackUptoCard

/-- THE SECOND FORM's CARD OF 'pithlaw9.FilesSpoilt'. -/
def filesSpoiltUptoCard : Claim7 := { stood := { row := filesSpoiltUptoRow, standIns := [], harness := (true, "a337b93ea20fb35c140ef11d0d1ceb4cb63ed43ad61a8767cad30f18828b2eaa"), looks := true }, kinds := [], alts := [], laidByText := true, laidKinds := [.data], laidTests := true, laidLooks := .later }
def FilesSpoiltUptoCardSaid : Prop := Claim7.holds Tryd.pinned (.plain (OpenSpec.upto filesSpoiltSpec)) filesSpoiltUptoCard

/-- THE SECOND FORM's CARD OF 'pithlaw9.FilesBeside'. -/
def filesBesideUptoCard : Claim7 := { stood := { row := filesBesideUptoRow, standIns := [], harness := (true, "a337b93ea20fb35c140ef11d0d1ceb4cb63ed43ad61a8767cad30f18828b2eaa"), looks := true }, kinds := [], alts := [], laidByText := true, laidKinds := [.data], laidTests := true, laidLooks := .later }
def FilesBesideUptoCardSaid : Prop := Claim7.holds Tryd.pinned (.plain (OpenSpec.upto filesBesideSpec)) filesBesideUptoCard

/-- THE SECOND FORM's CARD OF 'pithlaw9.FilesLazy'. -/
def filesLazyUptoCard : Claim7 := { stood := { row := filesLazyUptoRow, standIns := [], harness := (true, "a337b93ea20fb35c140ef11d0d1ceb4cb63ed43ad61a8767cad30f18828b2eaa"), looks := true }, kinds := [], alts := [], laidByText := true, laidKinds := [.data], laidTests := true, laidLooks := .later }
def FilesLazyUptoCardSaid : Prop := Claim7.holds Tryd.pinned (.plain (OpenSpec.upto filesLazySpec)) filesLazyUptoCard

/-- THE SECOND FORM's CARD OF 'pithlaw9.FilesRoom'. -/
def filesRoomUptoCard : Claim7 := { stood := { row := filesRoomUptoRow, standIns := [], harness := (true, "a337b93ea20fb35c140ef11d0d1ceb4cb63ed43ad61a8767cad30f18828b2eaa"), looks := true }, kinds := [], alts := [], laidByText := true, laidKinds := [.data], laidTests := true, laidLooks := .later }
def FilesRoomUptoCardSaid : Prop := Claim7.holds Tryd.pinned (.plain (OpenSpec.upto filesRoomSpec)) filesRoomUptoCard

/-- THE SECOND FORM's CARD OF 'pithlaw9.FilesWhole'. -/
def filesWholeUptoCard : Claim7 := { stood := { row := filesWholeUptoRow, standIns := [], harness := (true, "a337b93ea20fb35c140ef11d0d1ceb4cb63ed43ad61a8767cad30f18828b2eaa"), looks := true }, kinds := [], alts := [], laidByText := true, laidKinds := [.data], laidTests := true, laidLooks := .later }
def FilesWholeUptoCardSaid : Prop := Claim7.holds Tryd.pinned (.plain (OpenSpec.upto filesWholeSpec)) filesWholeUptoCard
end Rows
end Go.Proofs.YtgpoldjpmcoppaaDoor
