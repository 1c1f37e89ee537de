/-
  DERIVED. GIVEN WITH THE SEED: THE CARDS: each row of YtbdclcdoiabapaaDoorRows.lean that lists a variable, with what it lists TIED to the program's text (the seventh form; the later family's looks); each row that meets fmt, with fmt's text TOLD by the authors' own Lean function (tested against real Go, not proved from fmt's source: count such statements apart). THE CARD IS WHAT COUNTS. Prove the row's statement (the work); the ties are given (YtbdclcdoiabapaaDoorTie.lean); close each card by the builder's one call (the guide's Derived/Test/ToyasCard.lean, 'card_holds'). Laid BY PROGRAM, IN A SANDBOX (cutbox-door.mjs). By AI agents, Wed Nov 11 2026. No macro, syntax, notation, axiom, sorry.
-/
import Derived.Test.YtbdclcdoiabapaaDoorRows
import GoSem.ClaimSeven
namespace Go.Proofs.YtbdclcdoiabapaaDoor
namespace Rows

/-- THE TIED CARD OF 'pithlaw18.CkptNames'. -/
def ckptNamesCard : Claim7 := { stood := { row := ckptNamesRow, standIns := [], harness := (true, "a6c3ea876b1d7f247b824c0ff27b30715340c2717737f48b371d7ddc3b553179"), looks := false }, kinds := [], alts := [], laidByText := true, laidKinds := [.data, .data, .data], laidTests := true, laidLooks := .later }
def CkptNamesCardSaid : Prop := Claim7.holds Tryd.pinned (.plain (OpenSpec.ofChange ckptNamesSpec)) ckptNamesCard

/-- THE TIED CARD OF 'pithlaw18.CkptEncodes'. -/
def ckptEncodesCard : Claim7 := { stood := { row := ckptEncodesRow, standIns := [], harness := (true, "a6c3ea876b1d7f247b824c0ff27b30715340c2717737f48b371d7ddc3b553179"), looks := false }, kinds := [], alts := [], laidByText := true, laidKinds := [.data, .data, .data], laidTests := true, laidLooks := .later }
def CkptEncodesCardSaid : Prop := Claim7.holds Tryd.pinned (.plain (OpenSpec.ofChange ckptEncodesSpec)) ckptEncodesCard

/-- THE TIED CARD OF 'pithlaw18.CkptDecodes'. -/
def ckptDecodesCard : Claim7 := { stood := { row := ckptDecodesRow, standIns := [], harness := (true, "a6c3ea876b1d7f247b824c0ff27b30715340c2717737f48b371d7ddc3b553179"), looks := false }, kinds := [], alts := [], laidByText := true, laidKinds := [.data, .data, .data], laidTests := true, laidLooks := .later }
def CkptDecodesCardSaid : Prop := Claim7.holds Tryd.pinned (.plain (OpenSpec.ofChange ckptDecodesSpec)) ckptDecodesCard

/-- THE TIED CARD OF 'pithlaw18.CkptBack'. -/
def ckptBackCard : Claim7 := { stood := { row := ckptBackRow, standIns := [], harness := (true, "a6c3ea876b1d7f247b824c0ff27b30715340c2717737f48b371d7ddc3b553179"), looks := false }, kinds := [], alts := [], laidByText := true, laidKinds := [.data, .data, .data], laidTests := true, laidLooks := .later }
def CkptBackCardSaid : Prop := Claim7.holds Tryd.pinned (.plain (OpenSpec.ofChange ckptBackSpec)) ckptBackCard

/-- THE SECOND FORM's CARD OF 'pithlaw18.CkptNames'. -/
def ckptNamesUptoCard : Claim7 := { stood := { row := ckptNamesUptoRow, standIns := [], harness := (true, "a6c3ea876b1d7f247b824c0ff27b30715340c2717737f48b371d7ddc3b553179"), looks := false }, kinds := [], alts := [], laidByText := true, laidKinds := [.data, .data, .data], laidTests := true, laidLooks := .later }
def CkptNamesUptoCardSaid : Prop := Claim7.holds Tryd.pinned (.plain (OpenSpec.upto ckptNamesSpec)) ckptNamesUptoCard

/-- THE SECOND FORM's CARD OF 'pithlaw18.CkptEncodes'. -/
def ckptEncodesUptoCard : Claim7 := { stood := { row := ckptEncodesUptoRow, standIns := [], harness := (true, "a6c3ea876b1d7f247b824c0ff27b30715340c2717737f48b371d7ddc3b553179"), looks := false }, kinds := [], alts := [], laidByText := true, laidKinds := [.data, .data, .data], laidTests := true, laidLooks := .later }
def CkptEncodesUptoCardSaid : Prop := Claim7.holds Tryd.pinned (.plain (OpenSpec.upto ckptEncodesSpec)) ckptEncodesUptoCard

/-- THE SECOND FORM's CARD OF 'pithlaw18.CkptDecodes'. -/
def ckptDecodesUptoCard : Claim7 := { stood := { row := ckptDecodesUptoRow, standIns := [], harness := (true, "a6c3ea876b1d7f247b824c0ff27b30715340c2717737f48b371d7ddc3b553179"), looks := false }, kinds := [], alts := [], laidByText := true, laidKinds := [.data, .data, .data], laidTests := true, laidLooks := .later }
def CkptDecodesUptoCardSaid : Prop := Claim7.holds Tryd.pinned (.plain (OpenSpec.upto ckptDecodesSpec)) ckptDecodesUptoCard

/-- THE SECOND FORM's CARD OF 'pithlaw18.CkptBack'. -/
def ckptBackUptoCard : Claim7 := { stood := { row := ckptBackUptoRow, standIns := [], harness := (true, "a6c3ea876b1d7f247b824c0ff27b30715340c2717737f48b371d7ddc3b553179"), looks := false }, kinds := [], alts := [], laidByText := true, laidKinds := [.data, .data, .data], laidTests := true, laidLooks := .later }
def CkptBackUptoCardSaid : Prop := Claim7.holds Tryd.pinned (.plain (OpenSpec.upto ckptBackSpec)) ckptBackUptoCard
end Rows
end Go.Proofs.YtbdclcdoiabapaaDoor
