/-
  DERIVED. GIVEN WITH THE SEED: THE CARDS: each row of YtgigigchjnnonaaGreatDoorRows.lean that lists a variable, with what it lists TIED to the program's text (the seventh form; the later family's looks); each row that meets fmt, with fmt's text TOLD by the authors' own Lean function (tested against real Go, not proved from fmt's source: count such statements apart). THE CARD IS WHAT COUNTS. Prove the row's statement (the work); the ties are given (YtgigigchjnnonaaGreatDoorTie.lean); close each card by the builder's one call (the guide's Derived/Test/ToyasCard.lean, 'card_holds'). Laid BY PROGRAM, IN A SANDBOX (cutbox-door.mjs). By AI agents, Wed Nov 11 2026. No macro, syntax, notation, axiom, sorry.
-/
import Derived.Test.YtgigigchjnnonaaGreatDoorRows
import GoSem.ClaimSeven
namespace Go.Proofs.YtgigigchjnnonaaGreatDoor
namespace Rows

/-- THE TIED CARD OF 'pithlaw18.CkptOwn'. -/
def ckptOwnCard : Claim7 := { stood := { row := ckptOwnRow, standIns := [], harness := (true, "59262d5caf24c86db1dba76e0a23b451755ae37776e71cd92711e27a0cc75924"), looks := true }, kinds := [], alts := [], laidByText := true, laidKinds := [.data, .data, .data, .data], laidTests := true, laidLooks := .later }
def CkptOwnCardSaid : Prop := Claim7.holds Tryz.pinned (.plain (OpenSpec.ofChange ckptOwnSpec)) ckptOwnCard

/-- THE TIED CARD OF 'pithlaw18.CkptWhole'. -/
def ckptWholeCard : Claim7 := { stood := { row := ckptWholeRow, standIns := [], harness := (true, "59262d5caf24c86db1dba76e0a23b451755ae37776e71cd92711e27a0cc75924"), looks := true }, kinds := [], alts := [], laidByText := true, laidKinds := [.data, .data, .data, .data], laidTests := true, laidLooks := .later }
def CkptWholeCardSaid : Prop := Claim7.holds Tryz.pinned (.plain (OpenSpec.ofChange ckptWholeSpec)) ckptWholeCard

/-- THE TIED CARD OF 'pithlaw18.CkptPlays'. -/
def ckptPlaysCard : Claim7 := { stood := { row := ckptPlaysRow, standIns := [], harness := (true, "59262d5caf24c86db1dba76e0a23b451755ae37776e71cd92711e27a0cc75924"), looks := true }, kinds := [], alts := [], laidByText := true, laidKinds := [.data, .data, .data, .data], laidTests := true, laidLooks := .later }
def CkptPlaysCardSaid : Prop := Claim7.holds Tryz.pinned (.plain (OpenSpec.ofChange ckptPlaysSpec)) ckptPlaysCard

/-- THE SECOND FORM's CARD OF 'pithlaw18.CkptOwn'. -/
def ckptOwnUptoCard : Claim7 := { stood := { row := ckptOwnUptoRow, standIns := [], harness := (true, "59262d5caf24c86db1dba76e0a23b451755ae37776e71cd92711e27a0cc75924"), looks := true }, kinds := [], alts := [], laidByText := true, laidKinds := [.data, .data, .data, .data], laidTests := true, laidLooks := .later }
def CkptOwnUptoCardSaid : Prop := Claim7.holds Tryz.pinned (.plain (OpenSpec.upto ckptOwnSpec)) ckptOwnUptoCard

/-- THE SECOND FORM's CARD OF 'pithlaw18.CkptWhole'. -/
def ckptWholeUptoCard : Claim7 := { stood := { row := ckptWholeUptoRow, standIns := [], harness := (true, "59262d5caf24c86db1dba76e0a23b451755ae37776e71cd92711e27a0cc75924"), looks := true }, kinds := [], alts := [], laidByText := true, laidKinds := [.data, .data, .data, .data], laidTests := true, laidLooks := .later }
def CkptWholeUptoCardSaid : Prop := Claim7.holds Tryz.pinned (.plain (OpenSpec.upto ckptWholeSpec)) ckptWholeUptoCard

/-- THE SECOND FORM's CARD OF 'pithlaw18.CkptPlays'. -/
def ckptPlaysUptoCard : Claim7 := { stood := { row := ckptPlaysUptoRow, standIns := [], harness := (true, "59262d5caf24c86db1dba76e0a23b451755ae37776e71cd92711e27a0cc75924"), looks := true }, kinds := [], alts := [], laidByText := true, laidKinds := [.data, .data, .data, .data], laidTests := true, laidLooks := .later }
def CkptPlaysUptoCardSaid : Prop := Claim7.holds Tryz.pinned (.plain (OpenSpec.upto ckptPlaysSpec)) ckptPlaysUptoCard
end Rows
end Go.Proofs.YtgigigchjnnonaaGreatDoor
