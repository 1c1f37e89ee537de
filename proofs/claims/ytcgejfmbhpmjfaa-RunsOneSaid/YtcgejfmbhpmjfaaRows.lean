/-
  No cell of these rows narrows 'for every input' (looked for: loops, veiled, ifaces, maps, wideKeys, modest, calm, conditions, laid).
  DERIVED. THE GIVEN ROWS OF THIS SEAT. 8 by the template 'for every input the law returns true; each argument reads behind the call as it read before'; 0 by the template 'total and deterministic' (their statements: YtcgejfmbhpmjfaaTotals.lean).
  GIVEN WITH THE SEED: the statements are not yours to turn. If you find one false, say at which input.
  Laid BY PROGRAM, IN A SANDBOX (cutbox-rows.mjs): the forced cells as the released guide's own fill.sh prints them over the translation 85feba8d0c839154… (all of the seat's roots in one cut). By AI agents, Wed Nov 11 2026. No macro, syntax, notation, axiom, sorry.
-/
import Derived.Test.YtcgejfmbhpmjfaaChecked
import GoSem.Claim
import GoSem.ClaimJoined
import GoSem.ClaimMapViews
import Derived.JoinedTies
import Derived.KernelRfl
namespace Go.Proofs.Ytcgejfmbhpmjfaa
/- THE CELL 'sum', in the pinned program and in every row, IS THE sha256 OF THE DUMP (.gsa) THAT YtcgejfmbhpmjfaaProg.lean LOADS. Nothing in Lean hashes anything: it is a label: what it is worth is what the hold of that sum in a sandbox is worth. -/
noncomputable def Try.pinned : Pinned := { name := "ytcgejfmbhpmjfaa", sum := "85feba8d0c8391547419cc584b9b985ae728dc04eb28f257b3ebb109fa34fd22", checked := Try.checked }
namespace Rows
def none {H : Type} : Left H := { results := [], args := [] }

/-- 'pithlaw11.RunsSorts': WHATEVER THE INPUT: true; the input reads as it did. -/
def runsSortsSpec : ChangeSpec := { name := "runsSorts", fn := fun _ => fun
  | [d1, d2, d3, d4] => { results := [.lit (.bool true)], args := [d1, d2, d3, d4] }
  | _ => none }
def runsSortsRow : OpenClaim := { program := "ytcgejfmbhpmjfaa", sum := "85feba8d0c8391547419cc584b9b985ae728dc04eb28f257b3ebb109fa34fd22", func := "pith/pithlaw11.RunsSorts", spec := "runsSorts", unfollowed := true, recurses := true, apart := false }
def RunsSortsSaid : Prop := runsSortsRow.holds Try.pinned (OpenSpec.ofChange runsSortsSpec)

/-- ITS FALSE NEIGHBOUR: 'it returns false'. Refute it at one input. -/
def runsSortsWrong : ChangeSpec := { name := "runsSorts", fn := fun _ => fun
  | [d1, d2, d3, d4] => { results := [.lit (.bool false)], args := [d1, d2, d3, d4] }
  | _ => none }
def RunsSortsWrongFalsely : Prop := runsSortsRow.holds Try.pinned (OpenSpec.ofChange runsSortsWrong)

/-- 'pithlaw11.RunsEncodes': WHATEVER THE INPUT: true; the input reads as it did. -/
def runsEncodesSpec : ChangeSpec := { name := "runsEncodes", fn := fun _ => fun
  | [d1, d2, d3] => { results := [.lit (.bool true)], args := [d1, d2, d3] }
  | _ => none }
def runsEncodesRow : OpenClaim := { program := "ytcgejfmbhpmjfaa", sum := "85feba8d0c8391547419cc584b9b985ae728dc04eb28f257b3ebb109fa34fd22", func := "pith/pithlaw11.RunsEncodes", spec := "runsEncodes", unfollowed := true, recurses := true, apart := false }
def RunsEncodesSaid : Prop := runsEncodesRow.holds Try.pinned (OpenSpec.ofChange runsEncodesSpec)

/-- ITS FALSE NEIGHBOUR: 'it returns false'. Refute it at one input. -/
def runsEncodesWrong : ChangeSpec := { name := "runsEncodes", fn := fun _ => fun
  | [d1, d2, d3] => { results := [.lit (.bool false)], args := [d1, d2, d3] }
  | _ => none }
def RunsEncodesWrongFalsely : Prop := runsEncodesRow.holds Try.pinned (OpenSpec.ofChange runsEncodesWrong)

/-- 'pithlaw11.RunsDecodes': WHATEVER THE INPUT: true; the input reads as it did. -/
def runsDecodesSpec : ChangeSpec := { name := "runsDecodes", fn := fun _ => fun
  | [d1, d2, d3, d4] => { results := [.lit (.bool true)], args := [d1, d2, d3, d4] }
  | _ => none }
def runsDecodesRow : OpenClaim := { program := "ytcgejfmbhpmjfaa", sum := "85feba8d0c8391547419cc584b9b985ae728dc04eb28f257b3ebb109fa34fd22", func := "pith/pithlaw11.RunsDecodes", spec := "runsDecodes", unfollowed := true, recurses := true, apart := false }
def RunsDecodesSaid : Prop := runsDecodesRow.holds Try.pinned (OpenSpec.ofChange runsDecodesSpec)

/-- ITS FALSE NEIGHBOUR: 'it returns false'. Refute it at one input. -/
def runsDecodesWrong : ChangeSpec := { name := "runsDecodes", fn := fun _ => fun
  | [d1, d2, d3, d4] => { results := [.lit (.bool false)], args := [d1, d2, d3, d4] }
  | _ => none }
def RunsDecodesWrongFalsely : Prop := runsDecodesRow.holds Try.pinned (OpenSpec.ofChange runsDecodesWrong)

/-- 'pithlaw11.RunsMerges': WHATEVER THE INPUT: true; the input reads as it did. -/
def runsMergesSpec : ChangeSpec := { name := "runsMerges", fn := fun _ => fun
  | [d1, d2, d3] => { results := [.lit (.bool true)], args := [d1, d2, d3] }
  | _ => none }
def runsMergesRow : OpenClaim := { program := "ytcgejfmbhpmjfaa", sum := "85feba8d0c8391547419cc584b9b985ae728dc04eb28f257b3ebb109fa34fd22", func := "pith/pithlaw11.RunsMerges", spec := "runsMerges", unfollowed := true, recurses := true, apart := false }
def RunsMergesSaid : Prop := runsMergesRow.holds Try.pinned (OpenSpec.ofChange runsMergesSpec)

/-- ITS FALSE NEIGHBOUR: 'it returns false'. Refute it at one input. -/
def runsMergesWrong : ChangeSpec := { name := "runsMerges", fn := fun _ => fun
  | [d1, d2, d3] => { results := [.lit (.bool false)], args := [d1, d2, d3] }
  | _ => none }
def RunsMergesWrongFalsely : Prop := runsMergesRow.holds Try.pinned (OpenSpec.ofChange runsMergesWrong)

/-- 'pithlaw11.RunsSorted': WHATEVER THE INPUT: true; the input reads as it did. -/
def runsSortedSpec : ChangeSpec := { name := "runsSorted", fn := fun _ => fun
  | [d] => { results := [.lit (.bool true)], args := [d] }
  | _ => none }
def runsSortedRow : OpenClaim := { program := "ytcgejfmbhpmjfaa", sum := "85feba8d0c8391547419cc584b9b985ae728dc04eb28f257b3ebb109fa34fd22", func := "pith/pithlaw11.RunsSorted", spec := "runsSorted", unfollowed := true, recurses := true, apart := false }
def RunsSortedSaid : Prop := runsSortedRow.holds Try.pinned (OpenSpec.ofChange runsSortedSpec)

/-- ITS FALSE NEIGHBOUR: 'it returns false'. Refute it at one input. -/
def runsSortedWrong : ChangeSpec := { name := "runsSorted", fn := fun _ => fun
  | [d] => { results := [.lit (.bool false)], args := [d] }
  | _ => none }
def RunsSortedWrongFalsely : Prop := runsSortedRow.holds Try.pinned (OpenSpec.ofChange runsSortedWrong)

/-- 'pithlaw11.RunsBack': WHATEVER THE INPUT: true; the input reads as it did. -/
def runsBackSpec : ChangeSpec := { name := "runsBack", fn := fun _ => fun
  | [d1, d2, d3] => { results := [.lit (.bool true)], args := [d1, d2, d3] }
  | _ => none }
def runsBackRow : OpenClaim := { program := "ytcgejfmbhpmjfaa", sum := "85feba8d0c8391547419cc584b9b985ae728dc04eb28f257b3ebb109fa34fd22", func := "pith/pithlaw11.RunsBack", spec := "runsBack", unfollowed := true, recurses := true, apart := false }
def RunsBackSaid : Prop := runsBackRow.holds Try.pinned (OpenSpec.ofChange runsBackSpec)

/-- ITS FALSE NEIGHBOUR: 'it returns false'. Refute it at one input. -/
def runsBackWrong : ChangeSpec := { name := "runsBack", fn := fun _ => fun
  | [d1, d2, d3] => { results := [.lit (.bool false)], args := [d1, d2, d3] }
  | _ => none }
def RunsBackWrongFalsely : Prop := runsBackRow.holds Try.pinned (OpenSpec.ofChange runsBackWrong)

/-- 'pithlaw11.RunsOne': WHATEVER THE INPUT: true; the input reads as it did. -/
def runsOneSpec : ChangeSpec := { name := "runsOne", fn := fun _ => fun
  | [d1, d2] => { results := [.lit (.bool true)], args := [d1, d2] }
  | _ => none }
def runsOneRow : OpenClaim := { program := "ytcgejfmbhpmjfaa", sum := "85feba8d0c8391547419cc584b9b985ae728dc04eb28f257b3ebb109fa34fd22", func := "pith/pithlaw11.RunsOne", spec := "runsOne", unfollowed := true, recurses := true, apart := false }
def RunsOneSaid : Prop := runsOneRow.holds Try.pinned (OpenSpec.ofChange runsOneSpec)

/-- ITS FALSE NEIGHBOUR: 'it returns false'. Refute it at one input. -/
def runsOneWrong : ChangeSpec := { name := "runsOne", fn := fun _ => fun
  | [d1, d2] => { results := [.lit (.bool false)], args := [d1, d2] }
  | _ => none }
def RunsOneWrongFalsely : Prop := runsOneRow.holds Try.pinned (OpenSpec.ofChange runsOneWrong)

/-- 'pithlaw11.RunsRefused': WHATEVER THE INPUT: true; the input reads as it did. -/
def runsRefusedSpec : ChangeSpec := { name := "runsRefused", fn := fun _ => fun
  | [d1, d2, d3] => { results := [.lit (.bool true)], args := [d1, d2, d3] }
  | _ => none }
def runsRefusedRow : OpenClaim := { program := "ytcgejfmbhpmjfaa", sum := "85feba8d0c8391547419cc584b9b985ae728dc04eb28f257b3ebb109fa34fd22", func := "pith/pithlaw11.RunsRefused", spec := "runsRefused", unfollowed := true, recurses := true, apart := false }
def RunsRefusedSaid : Prop := runsRefusedRow.holds Try.pinned (OpenSpec.ofChange runsRefusedSpec)

/-- ITS FALSE NEIGHBOUR: 'it returns false'. Refute it at one input. -/
def runsRefusedWrong : ChangeSpec := { name := "runsRefused", fn := fun _ => fun
  | [d1, d2, d3] => { results := [.lit (.bool false)], args := [d1, d2, d3] }
  | _ => none }
def RunsRefusedWrongFalsely : Prop := runsRefusedRow.holds Try.pinned (OpenSpec.ofChange runsRefusedWrong)

/- THE SECOND FORM. 'bulk': how many values and letters a reading holds, each counted each time it is reached (what is shared counts as often as it is met; a slice's spare places count too). A statement '..UptoSaid' is the law's where the arguments, and the package variables that the reading takes, are together of bulk at most 1048576: NARROWER than '..Said'. Prove '..Said' where nothing that the law and all that it calls make is longer than what came in: it says more and counts as full. Else prove '..UptoSaid'. A law counts once. -/
mutual
def uptoBulk {H : Type} : DataW H → Nat
  | .lit (.string bytes) => bytes.length + 1
  | .lit _ => 1
  | .nil => 1
  | .ptr d => uptoBulk d + 1
  | .slice elems spare => uptoBulkAll elems + uptoBulkAll spare + 1
  | .agg parts => uptoBulkAll parts + 1
  | .iface _ d => uptoBulk d + 1
  | .map entries => uptoBulkEntries entries + 1
  | .held _ => 1
def uptoBulkAll {H : Type} : List (DataW H) → Nat
  | [] => 0
  | d :: r => uptoBulk d + uptoBulkAll r
def uptoBulkEntries {H : Type} : List (Lit × DataW H) → Nat
  | [] => 0
  | x :: r => uptoBulkEntry x + uptoBulkEntries r
def uptoBulkEntry {H : Type} : Lit × DataW H → Nat
  | (.string bytes, d) => bytes.length + uptoBulk d + 1
  | (_, d) => uptoBulk d + 1
 end
def uptoSmall : (H : Type) → List (DataW H) → Bool := fun _ ds => decide (uptoBulkAll ds ≤ 1048576)
def OpenSpec.upto (s : _root_.Go.ChangeSpec) : _root_.Go.OpenSpec := { _root_.Go.OpenSpec.ofChange s with cond := some uptoSmall }

/-- 'pithlaw11.RunsSorts', WHERE WHAT IT READS IS OF BULK AT MOST 1048576: true; the input reads as it did. -/
def runsSortsUptoRow : OpenClaim := { program := "ytcgejfmbhpmjfaa", sum := "85feba8d0c8391547419cc584b9b985ae728dc04eb28f257b3ebb109fa34fd22", func := "pith/pithlaw11.RunsSorts", spec := "runsSorts", unfollowed := true, recurses := true, apart := false, narrowed := true }
def RunsSortsUptoSaid : Prop := runsSortsUptoRow.holds Try.pinned (OpenSpec.upto runsSortsSpec)

/-- 'pithlaw11.RunsEncodes', WHERE WHAT IT READS IS OF BULK AT MOST 1048576: true; the input reads as it did. -/
def runsEncodesUptoRow : OpenClaim := { program := "ytcgejfmbhpmjfaa", sum := "85feba8d0c8391547419cc584b9b985ae728dc04eb28f257b3ebb109fa34fd22", func := "pith/pithlaw11.RunsEncodes", spec := "runsEncodes", unfollowed := true, recurses := true, apart := false, narrowed := true }
def RunsEncodesUptoSaid : Prop := runsEncodesUptoRow.holds Try.pinned (OpenSpec.upto runsEncodesSpec)

/-- 'pithlaw11.RunsDecodes', WHERE WHAT IT READS IS OF BULK AT MOST 1048576: true; the input reads as it did. -/
def runsDecodesUptoRow : OpenClaim := { program := "ytcgejfmbhpmjfaa", sum := "85feba8d0c8391547419cc584b9b985ae728dc04eb28f257b3ebb109fa34fd22", func := "pith/pithlaw11.RunsDecodes", spec := "runsDecodes", unfollowed := true, recurses := true, apart := false, narrowed := true }
def RunsDecodesUptoSaid : Prop := runsDecodesUptoRow.holds Try.pinned (OpenSpec.upto runsDecodesSpec)

/-- 'pithlaw11.RunsMerges', WHERE WHAT IT READS IS OF BULK AT MOST 1048576: true; the input reads as it did. -/
def runsMergesUptoRow : OpenClaim := { program := "ytcgejfmbhpmjfaa", sum := "85feba8d0c8391547419cc584b9b985ae728dc04eb28f257b3ebb109fa34fd22", func := "pith/pithlaw11.RunsMerges", spec := "runsMerges", unfollowed := true, recurses := true, apart := false, narrowed := true }
def RunsMergesUptoSaid : Prop := runsMergesUptoRow.holds Try.pinned (OpenSpec.upto runsMergesSpec)

/-- 'pithlaw11.RunsSorted', WHERE WHAT IT READS IS OF BULK AT MOST 1048576: true; the input reads as it did. -/
def runsSortedUptoRow : OpenClaim := { program := "ytcgejfmbhpmjfaa", sum := "85feba8d0c8391547419cc584b9b985ae728dc04eb28f257b3ebb109fa34fd22", func := "pith/pithlaw11.RunsSorted", spec := "runsSorted", unfollowed := true, recurses := true, apart := false, narrowed := true }
def RunsSortedUptoSaid : Prop := runsSortedUptoRow.holds Try.pinned (OpenSpec.upto runsSortedSpec)

/-- 'pithlaw11.RunsBack', WHERE WHAT IT READS IS OF BULK AT MOST 1048576: true; the input reads as it did. -/
def runsBackUptoRow : OpenClaim := { program := "ytcgejfmbhpmjfaa", sum := "85feba8d0c8391547419cc584b9b985ae728dc04eb28f257b3ebb109fa34fd22", func := "pith/pithlaw11.RunsBack", spec := "runsBack", unfollowed := true, recurses := true, apart := false, narrowed := true }
def RunsBackUptoSaid : Prop := runsBackUptoRow.holds Try.pinned (OpenSpec.upto runsBackSpec)

/-- 'pithlaw11.RunsOne', WHERE WHAT IT READS IS OF BULK AT MOST 1048576: true; the input reads as it did. -/
def runsOneUptoRow : OpenClaim := { program := "ytcgejfmbhpmjfaa", sum := "85feba8d0c8391547419cc584b9b985ae728dc04eb28f257b3ebb109fa34fd22", func := "pith/pithlaw11.RunsOne", spec := "runsOne", unfollowed := true, recurses := true, apart := false, narrowed := true }
def RunsOneUptoSaid : Prop := runsOneUptoRow.holds Try.pinned (OpenSpec.upto runsOneSpec)

/-- 'pithlaw11.RunsRefused', WHERE WHAT IT READS IS OF BULK AT MOST 1048576: true; the input reads as it did. -/
def runsRefusedUptoRow : OpenClaim := { program := "ytcgejfmbhpmjfaa", sum := "85feba8d0c8391547419cc584b9b985ae728dc04eb28f257b3ebb109fa34fd22", func := "pith/pithlaw11.RunsRefused", spec := "runsRefused", unfollowed := true, recurses := true, apart := false, narrowed := true }
def RunsRefusedUptoSaid : Prop := runsRefusedUptoRow.holds Try.pinned (OpenSpec.upto runsRefusedSpec)

end Rows
end Go.Proofs.Ytcgejfmbhpmjfaa
