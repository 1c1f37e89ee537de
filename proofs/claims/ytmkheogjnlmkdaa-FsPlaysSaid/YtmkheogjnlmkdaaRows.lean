/-
  No cell of these rows narrows 'for every input' (looked for: loops, veiled, ifaces, maps, wideKeys, modest, calm, conditions, laid).
  DERIVED. THE GIVEN ROWS OF THIS SEAT. 8 by the template 'for every input the law returns true; each argument reads behind the call as it read before'; 0 by the template 'total and deterministic' (their statements: YtmkheogjnlmkdaaTotals.lean).
  GIVEN WITH THE SEED: the statements are not yours to turn. If you find one false, say at which input.
  Laid BY PROGRAM, IN A SANDBOX (cutbox-rows.mjs): the forced cells as the released guide's own fill.sh prints them over the translation 1d71519e88dccea2… (all of the seat's roots in one cut). By AI agents, Wed Nov 11 2026. No macro, syntax, notation, axiom, sorry.
-/
import Derived.Test.YtmkheogjnlmkdaaChecked
import GoSem.Claim
import GoSem.ClaimJoined
import GoSem.ClaimMapViews
import Derived.JoinedTies
import Derived.KernelRfl
namespace Go.Proofs.Ytmkheogjnlmkdaa
/- THE CELL 'sum', in the pinned program and in every row, IS THE sha256 OF THE DUMP (.gsa) THAT YtmkheogjnlmkdaaProg.lean LOADS. Nothing in Lean hashes anything: it is a label: what it is worth is what the hold of that sum in a sandbox is worth. -/
noncomputable def Try.pinned : Pinned := { name := "ytmkheogjnlmkdaa", sum := "1d71519e88dccea2480e3d43244e54c26b7a3e865cec256eb5c2c9744e89e886", checked := Try.checked }
namespace Rows
def none {H : Type} : Left H := { results := [], args := [] }

/-- 'pithlaw8.FsTrue': WHATEVER THE INPUT: true; the input reads as it did. -/
def fsTrueSpec : ChangeSpec := { name := "fsTrue", fn := fun _ => fun
  | [d1, d2] => { results := [.lit (.bool true)], args := [d1, d2] }
  | _ => none }
def fsTrueRow : OpenClaim := { program := "ytmkheogjnlmkdaa", sum := "1d71519e88dccea2480e3d43244e54c26b7a3e865cec256eb5c2c9744e89e886", func := "pith/pithlaw8.FsTrue", spec := "fsTrue", inPlace := ["maps.clone"], unfollowed := true, recurses := true, apart := false }
def FsTrueSaid : Prop := fsTrueRow.holds Try.pinned (OpenSpec.ofChange fsTrueSpec)

/-- ITS FALSE NEIGHBOUR: 'it returns false'. Refute it at one input. -/
def fsTrueWrong : ChangeSpec := { name := "fsTrue", fn := fun _ => fun
  | [d1, d2] => { results := [.lit (.bool false)], args := [d1, d2] }
  | _ => none }
def FsTrueWrongFalsely : Prop := fsTrueRow.holds Try.pinned (OpenSpec.ofChange fsTrueWrong)

/-- 'pithlaw8.FsOrder': WHATEVER THE INPUT: true; the input reads as it did. -/
def fsOrderSpec : ChangeSpec := { name := "fsOrder", fn := fun _ => fun
  | [d1, d2] => { results := [.lit (.bool true)], args := [d1, d2] }
  | _ => none }
def fsOrderRow : OpenClaim := { program := "ytmkheogjnlmkdaa", sum := "1d71519e88dccea2480e3d43244e54c26b7a3e865cec256eb5c2c9744e89e886", func := "pith/pithlaw8.FsOrder", spec := "fsOrder", inPlace := ["maps.clone"], unfollowed := true, recurses := true, apart := false }
def FsOrderSaid : Prop := fsOrderRow.holds Try.pinned (OpenSpec.ofChange fsOrderSpec)

/-- ITS FALSE NEIGHBOUR: 'it returns false'. Refute it at one input. -/
def fsOrderWrong : ChangeSpec := { name := "fsOrder", fn := fun _ => fun
  | [d1, d2] => { results := [.lit (.bool false)], args := [d1, d2] }
  | _ => none }
def FsOrderWrongFalsely : Prop := fsOrderRow.holds Try.pinned (OpenSpec.ofChange fsOrderWrong)

/-- 'pithlaw8.FsNew': WHATEVER THE INPUT: true; the input reads as it did. -/
def fsNewSpec : ChangeSpec := { name := "fsNew", fn := fun _ => fun
  | [d] => { results := [.lit (.bool true)], args := [d] }
  | _ => none }
def fsNewRow : OpenClaim := { program := "ytmkheogjnlmkdaa", sum := "1d71519e88dccea2480e3d43244e54c26b7a3e865cec256eb5c2c9744e89e886", func := "pith/pithlaw8.FsNew", spec := "fsNew", inPlace := ["maps.clone"], unfollowed := true, recurses := true, apart := false }
def FsNewSaid : Prop := fsNewRow.holds Try.pinned (OpenSpec.ofChange fsNewSpec)

/-- ITS FALSE NEIGHBOUR: 'it returns false'. Refute it at one input. -/
def fsNewWrong : ChangeSpec := { name := "fsNew", fn := fun _ => fun
  | [d] => { results := [.lit (.bool false)], args := [d] }
  | _ => none }
def FsNewWrongFalsely : Prop := fsNewRow.holds Try.pinned (OpenSpec.ofChange fsNewWrong)

/-- 'pithlaw8.FsArms': WHATEVER THE INPUT: true; the input reads as it did. -/
def fsArmsSpec : ChangeSpec := { name := "fsArms", fn := fun _ => fun
  | [d1, d2, d3] => { results := [.lit (.bool true)], args := [d1, d2, d3] }
  | _ => none }
def fsArmsRow : OpenClaim := { program := "ytmkheogjnlmkdaa", sum := "1d71519e88dccea2480e3d43244e54c26b7a3e865cec256eb5c2c9744e89e886", func := "pith/pithlaw8.FsArms", spec := "fsArms", inPlace := ["maps.clone"], unfollowed := true, recurses := true, apart := false }
def FsArmsSaid : Prop := fsArmsRow.holds Try.pinned (OpenSpec.ofChange fsArmsSpec)

/-- ITS FALSE NEIGHBOUR: 'it returns false'. Refute it at one input. -/
def fsArmsWrong : ChangeSpec := { name := "fsArms", fn := fun _ => fun
  | [d1, d2, d3] => { results := [.lit (.bool false)], args := [d1, d2, d3] }
  | _ => none }
def FsArmsWrongFalsely : Prop := fsArmsRow.holds Try.pinned (OpenSpec.ofChange fsArmsWrong)

/-- 'pithlaw8.FsSafe': WHATEVER THE INPUT: true; the input reads as it did. -/
def fsSafeSpec : ChangeSpec := { name := "fsSafe", fn := fun _ => fun
  | [d1, d2, d3, d4, d5] => { results := [.lit (.bool true)], args := [d1, d2, d3, d4, d5] }
  | _ => none }
def fsSafeRow : OpenClaim := { program := "ytmkheogjnlmkdaa", sum := "1d71519e88dccea2480e3d43244e54c26b7a3e865cec256eb5c2c9744e89e886", func := "pith/pithlaw8.FsSafe", spec := "fsSafe", inPlace := ["maps.clone"], unfollowed := true, recurses := true, apart := false }
def FsSafeSaid : Prop := fsSafeRow.holds Try.pinned (OpenSpec.ofChange fsSafeSpec)

/-- ITS FALSE NEIGHBOUR: 'it returns false'. Refute it at one input. -/
def fsSafeWrong : ChangeSpec := { name := "fsSafe", fn := fun _ => fun
  | [d1, d2, d3, d4, d5] => { results := [.lit (.bool false)], args := [d1, d2, d3, d4, d5] }
  | _ => none }
def FsSafeWrongFalsely : Prop := fsSafeRow.holds Try.pinned (OpenSpec.ofChange fsSafeWrong)

/-- 'pithlaw8.FsKept': WHATEVER THE INPUT: true; the input reads as it did. -/
def fsKeptSpec : ChangeSpec := { name := "fsKept", fn := fun _ => fun
  | [d1, d2] => { results := [.lit (.bool true)], args := [d1, d2] }
  | _ => none }
def fsKeptRow : OpenClaim := { program := "ytmkheogjnlmkdaa", sum := "1d71519e88dccea2480e3d43244e54c26b7a3e865cec256eb5c2c9744e89e886", func := "pith/pithlaw8.FsKept", spec := "fsKept", inPlace := ["maps.clone"], unfollowed := true, recurses := true, apart := false }
def FsKeptSaid : Prop := fsKeptRow.holds Try.pinned (OpenSpec.ofChange fsKeptSpec)

/-- ITS FALSE NEIGHBOUR: 'it returns false'. Refute it at one input. -/
def fsKeptWrong : ChangeSpec := { name := "fsKept", fn := fun _ => fun
  | [d1, d2] => { results := [.lit (.bool false)], args := [d1, d2] }
  | _ => none }
def FsKeptWrongFalsely : Prop := fsKeptRow.holds Try.pinned (OpenSpec.ofChange fsKeptWrong)

/-- 'pithlaw8.FsAgain': WHATEVER THE INPUT: true; the input reads as it did. -/
def fsAgainSpec : ChangeSpec := { name := "fsAgain", fn := fun _ => fun
  | [d1, d2, d3, d4, d5, d6] => { results := [.lit (.bool true)], args := [d1, d2, d3, d4, d5, d6] }
  | _ => none }
def fsAgainRow : OpenClaim := { program := "ytmkheogjnlmkdaa", sum := "1d71519e88dccea2480e3d43244e54c26b7a3e865cec256eb5c2c9744e89e886", func := "pith/pithlaw8.FsAgain", spec := "fsAgain", inPlace := ["maps.clone"], unfollowed := true, recurses := true, apart := false }
def FsAgainSaid : Prop := fsAgainRow.holds Try.pinned (OpenSpec.ofChange fsAgainSpec)

/-- ITS FALSE NEIGHBOUR: 'it returns false'. Refute it at one input. -/
def fsAgainWrong : ChangeSpec := { name := "fsAgain", fn := fun _ => fun
  | [d1, d2, d3, d4, d5, d6] => { results := [.lit (.bool false)], args := [d1, d2, d3, d4, d5, d6] }
  | _ => none }
def FsAgainWrongFalsely : Prop := fsAgainRow.holds Try.pinned (OpenSpec.ofChange fsAgainWrong)

/-- 'pithlaw8.FsPlays': WHATEVER THE INPUT: true; the input reads as it did. -/
def fsPlaysSpec : ChangeSpec := { name := "fsPlays", fn := fun _ => fun
  | [d1, d2, d3] => { results := [.lit (.bool true)], args := [d1, d2, d3] }
  | _ => none }
def fsPlaysRow : OpenClaim := { program := "ytmkheogjnlmkdaa", sum := "1d71519e88dccea2480e3d43244e54c26b7a3e865cec256eb5c2c9744e89e886", func := "pith/pithlaw8.FsPlays", spec := "fsPlays", inPlace := ["maps.clone"], unfollowed := true, recurses := true, apart := false }
def FsPlaysSaid : Prop := fsPlaysRow.holds Try.pinned (OpenSpec.ofChange fsPlaysSpec)

/-- ITS FALSE NEIGHBOUR: 'it returns false'. Refute it at one input. -/
def fsPlaysWrong : ChangeSpec := { name := "fsPlays", fn := fun _ => fun
  | [d1, d2, d3] => { results := [.lit (.bool false)], args := [d1, d2, d3] }
  | _ => none }
def FsPlaysWrongFalsely : Prop := fsPlaysRow.holds Try.pinned (OpenSpec.ofChange fsPlaysWrong)

/- THE SECOND FORM. 'bulk': how many values and letters a reading holds, each counted each time it is reached (what is shared counts as often as it is met; a slice's spare places count too). A statement '..UptoSaid' is the law's where the arguments, and the package variables that the reading takes, are together of bulk at most 1048576: NARROWER than '..Said'. Prove '..Said' where nothing that the law and all that it calls make is longer than what came in: it says more and counts as full. Else prove '..UptoSaid'. A law counts once. -/
mutual
def uptoBulk {H : Type} : DataW H → Nat
  | .lit (.string bytes) => bytes.length + 1
  | .lit _ => 1
  | .nil => 1
  | .ptr d => uptoBulk d + 1
  | .slice elems spare => uptoBulkAll elems + uptoBulkAll spare + 1
  | .agg parts => uptoBulkAll parts + 1
  | .iface _ d => uptoBulk d + 1
  | .map entries => uptoBulkEntries entries + 1
  | .held _ => 1
def uptoBulkAll {H : Type} : List (DataW H) → Nat
  | [] => 0
  | d :: r => uptoBulk d + uptoBulkAll r
def uptoBulkEntries {H : Type} : List (Lit × DataW H) → Nat
  | [] => 0
  | x :: r => uptoBulkEntry x + uptoBulkEntries r
def uptoBulkEntry {H : Type} : Lit × DataW H → Nat
  | (.string bytes, d) => bytes.length + uptoBulk d + 1
  | (_, d) => uptoBulk d + 1
 end
def uptoSmall : (H : Type) → List (DataW H) → Bool := fun _ ds => decide (uptoBulkAll ds ≤ 1048576)
def OpenSpec.upto (s : _root_.Go.ChangeSpec) : _root_.Go.OpenSpec := { _root_.Go.OpenSpec.ofChange s with cond := some uptoSmall }

/-- 'pithlaw8.FsTrue', WHERE WHAT IT READS IS OF BULK AT MOST 1048576: true; the input reads as it did. -/
def fsTrueUptoRow : OpenClaim := { program := "ytmkheogjnlmkdaa", sum := "1d71519e88dccea2480e3d43244e54c26b7a3e865cec256eb5c2c9744e89e886", func := "pith/pithlaw8.FsTrue", spec := "fsTrue", inPlace := ["maps.clone"], unfollowed := true, recurses := true, apart := false, narrowed := true }
def FsTrueUptoSaid : Prop := fsTrueUptoRow.holds Try.pinned (OpenSpec.upto fsTrueSpec)

/-- 'pithlaw8.FsOrder', WHERE WHAT IT READS IS OF BULK AT MOST 1048576: true; the input reads as it did. -/
def fsOrderUptoRow : OpenClaim := { program := "ytmkheogjnlmkdaa", sum := "1d71519e88dccea2480e3d43244e54c26b7a3e865cec256eb5c2c9744e89e886", func := "pith/pithlaw8.FsOrder", spec := "fsOrder", inPlace := ["maps.clone"], unfollowed := true, recurses := true, apart := false, narrowed := true }
def FsOrderUptoSaid : Prop := fsOrderUptoRow.holds Try.pinned (OpenSpec.upto fsOrderSpec)

/-- 'pithlaw8.FsNew', WHERE WHAT IT READS IS OF BULK AT MOST 1048576: true; the input reads as it did. -/
def fsNewUptoRow : OpenClaim := { program := "ytmkheogjnlmkdaa", sum := "1d71519e88dccea2480e3d43244e54c26b7a3e865cec256eb5c2c9744e89e886", func := "pith/pithlaw8.FsNew", spec := "fsNew", inPlace := ["maps.clone"], unfollowed := true, recurses := true, apart := false, narrowed := true }
def FsNewUptoSaid : Prop := fsNewUptoRow.holds Try.pinned (OpenSpec.upto fsNewSpec)

/-- 'pithlaw8.FsArms', WHERE WHAT IT READS IS OF BULK AT MOST 1048576: true; the input reads as it did. -/
def fsArmsUptoRow : OpenClaim := { program := "ytmkheogjnlmkdaa", sum := "1d71519e88dccea2480e3d43244e54c26b7a3e865cec256eb5c2c9744e89e886", func := "pith/pithlaw8.FsArms", spec := "fsArms", inPlace := ["maps.clone"], unfollowed := true, recurses := true, apart := false, narrowed := true }
def FsArmsUptoSaid : Prop := fsArmsUptoRow.holds Try.pinned (OpenSpec.upto fsArmsSpec)

/-- 'pithlaw8.FsSafe', WHERE WHAT IT READS IS OF BULK AT MOST 1048576: true; the input reads as it did. -/
def fsSafeUptoRow : OpenClaim := { program := "ytmkheogjnlmkdaa", sum := "1d71519e88dccea2480e3d43244e54c26b7a3e865cec256eb5c2c9744e89e886", func := "pith/pithlaw8.FsSafe", spec := "fsSafe", inPlace := ["maps.clone"], unfollowed := true, recurses := true, apart := false, narrowed := true }
def FsSafeUptoSaid : Prop := fsSafeUptoRow.holds Try.pinned (OpenSpec.upto fsSafeSpec)

/-- 'pithlaw8.FsKept', WHERE WHAT IT READS IS OF BULK AT MOST 1048576: true; the input reads as it did. -/
def fsKeptUptoRow : OpenClaim := { program := "ytmkheogjnlmkdaa", sum := "1d71519e88dccea2480e3d43244e54c26b7a3e865cec256eb5c2c9744e89e886", func := "pith/pithlaw8.FsKept", spec := "fsKept", inPlace := ["maps.clone"], unfollowed := true, recurses := true, apart := false, narrowed := true }
def FsKeptUptoSaid : Prop := fsKeptUptoRow.holds Try.pinned (OpenSpec.upto fsKeptSpec)

/-- 'pithlaw8.FsAgain', WHERE WHAT IT READS IS OF BULK AT MOST 1048576: true; the input reads as it did. -/
def fsAgainUptoRow : OpenClaim := { program := "ytmkheogjnlmkdaa", sum := "1d71519e88dccea2480e3d43244e54c26b7a3e865cec256eb5c2c9744e89e886", func := "pith/pithlaw8.FsAgain", spec := "fsAgain", inPlace := ["maps.clone"], unfollowed := true, recurses := true, apart := false, narrowed := true }
def FsAgainUptoSaid : Prop := fsAgainUptoRow.holds Try.pinned (OpenSpec.upto fsAgainSpec)

/-- 'pithlaw8.FsPlays', WHERE WHAT IT READS IS OF BULK AT MOST 1048576: true; the input reads as it did. -/
def fsPlaysUptoRow : OpenClaim := { program := "ytmkheogjnlmkdaa", sum := "1d71519e88dccea2480e3d43244e54c26b7a3e865cec256eb5c2c9744e89e886", func := "pith/pithlaw8.FsPlays", spec := "fsPlays", inPlace := ["maps.clone"], unfollowed := true, recurses := true, apart := false, narrowed := true }
def FsPlaysUptoSaid : Prop := fsPlaysUptoRow.holds Try.pinned (OpenSpec.upto fsPlaysSpec)

end Rows
end Go.Proofs.Ytmkheogjnlmkdaa
