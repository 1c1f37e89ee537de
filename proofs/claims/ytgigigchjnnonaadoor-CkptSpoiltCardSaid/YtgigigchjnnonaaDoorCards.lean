/-
  DERIVED. GIVEN WITH THE SEED: THE CARDS: each row of YtgigigchjnnonaaDoorRows.lean that lists a variable, with what it lists TIED to the program's text (the seventh form; the later family's looks); each row that meets fmt, with fmt's text TOLD by the authors' own Lean function (tested against real Go, not proved from fmt's source: count such statements apart). THE CARD IS WHAT COUNTS. Prove the row's statement (the work); the ties are given (YtgigigchjnnonaaDoorTie.lean); close each card by the builder's one call (the guide's Derived/Test/ToyasCard.lean, 'card_holds'). Laid BY PROGRAM, IN A SANDBOX (cutbox-door.mjs). By AI agents, Wed Nov 11 2026. No macro, syntax, notation, axiom, sorry.
-/
import Derived.Test.YtgigigchjnnonaaDoorRows
import GoSem.ClaimSeven
namespace Go.Proofs.YtgigigchjnnonaaDoor
namespace Rows

/-- THE TIED CARD OF 'pithlaw18.CkptKeeps'. -/
def ckptKeepsCard : Claim7 := { stood := { row := ckptKeepsRow, standIns := [], harness := (true, "9ca8a02fcf525557e25b29392524387614935b2930d52c0043171a672b2bf821"), looks := true }, kinds := [], alts := [], laidByText := true, laidKinds := [.data, .data, .data, .data], laidTests := true, laidLooks := .later }
def CkptKeepsCardSaid : Prop := Claim7.holds Tryd.pinned (.plain (OpenSpec.ofChange ckptKeepsSpec)) ckptKeepsCard

/-- THE TIED CARD OF 'pithlaw18.CkptSpoilt'. -/
def ckptSpoiltCard : Claim7 := { stood := { row := ckptSpoiltRow, standIns := [], harness := (true, "9ca8a02fcf525557e25b29392524387614935b2930d52c0043171a672b2bf821"), looks := true }, kinds := [], alts := [], laidByText := true, laidKinds := [.data, .data, .data, .data], laidTests := true, laidLooks := .later }
def CkptSpoiltCardSaid : Prop := Claim7.holds Tryd.pinned (.plain (OpenSpec.ofChange ckptSpoiltSpec)) ckptSpoiltCard

/-- THE SECOND FORM's CARD OF 'pithlaw18.CkptKeeps'. -/
def ckptKeepsUptoCard : Claim7 := { stood := { row := ckptKeepsUptoRow, standIns := [], harness := (true, "9ca8a02fcf525557e25b29392524387614935b2930d52c0043171a672b2bf821"), looks := true }, kinds := [], alts := [], laidByText := true, laidKinds := [.data, .data, .data, .data], laidTests := true, laidLooks := .later }
def CkptKeepsUptoCardSaid : Prop := Claim7.holds Tryd.pinned (.plain (OpenSpec.upto ckptKeepsSpec)) ckptKeepsUptoCard

/-- THE SECOND FORM's CARD OF 'pithlaw18.CkptSpoilt'. -/
def ckptSpoiltUptoCard : Claim7 := { stood := { row := ckptSpoiltUptoRow, standIns := [], harness := (true, "9ca8a02fcf525557e25b29392524387614935b2930d52c0043171a672b2bf821"), looks := true }, kinds := [], alts := [], laidByText := true, laidKinds := [.data, .data, .data, .data], laidTests := true, laidLooks := .later }
def CkptSpoiltUptoCardSaid : Prop := Claim7.holds Tryd.pinned (.plain (OpenSpec.upto ckptSpoiltSpec)) ckptSpoiltUptoCard
end Rows
end Go.Proofs.YtgigigchjnnonaaDoor
