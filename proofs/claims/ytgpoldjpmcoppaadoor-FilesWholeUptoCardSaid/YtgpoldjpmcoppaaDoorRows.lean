/-
  NARROWER THAN 'FOR EVERY INPUT', by the rows' own cells (each row's printed sentence says how): FilesBack: laid · FilesSpoilt: laid · FilesBeside: laid · FilesLazy: laid · FilesRoom: laid · FilesWhole: laid.
  DERIVED. THE GIVEN ROWS OF THIS SEAT. 6 by the template 'for every input the law returns true; each argument reads behind the call as it read before'; 0 by the template 'total and deterministic' (their statements: YtgpoldjpmcoppaaDoorTotals.lean).
  GIVEN WITH THE SEED: the statements are not yours to turn. If you find one false, say at which input.
  Laid BY PROGRAM, IN A SANDBOX (cutbox-rows.mjs): the forced cells as the released guide's own fill.sh prints them over the translation b4eafbdea6c82cd5… (all of the seat's roots in one cut). By AI agents, Wed Nov 11 2026. No macro, syntax, notation, axiom, sorry.
-/
import Derived.Test.YtgpoldjpmcoppaaDoorChecked
import GoSem.Claim
import GoSem.ClaimJoined
import GoSem.ClaimMapViews
import Derived.JoinedTies
import Derived.KernelRfl
namespace Go.Proofs.YtgpoldjpmcoppaaDoor
/- THE CELL 'sum', in the pinned program and in every row, IS THE sha256 OF THE DUMP (.gsa) THAT YtgpoldjpmcoppaaDoorProg.lean LOADS. Nothing in Lean hashes anything: it is a label: what it is worth is what the hold of that sum in a sandbox is worth. -/
noncomputable def Tryd.pinned : Pinned := { name := "ytgpoldjpmcoppaadoor", sum := "b4eafbdea6c82cd5d1e7341c839a7f07b4437588d2a59f7d526b6ee528b81094", checked := Tryd.checked }
namespace Rows
def none {H : Type} : Left H := { results := [], args := [] }

/- WHAT THE LISTED PACKAGE-LEVEL VARIABLES READ AS WHEN THE CALL BEGINS. Each datum BY PROGRAM (the guide's laid-datum.mjs) off the statement by which the dump's own 'gosem.cut.vars' lays the variable. In a bare row this is a premise. The card (YtgpoldjpmcoppaaDoorCards.lean) ties it to the program's text. -/
def laid_pith_crc_table {H : Type} : DataW H := .agg [.lit (.int .u32 0), .lit (.int .u32 79764919), .lit (.int .u32 159529838), .lit (.int .u32 222504665), .lit (.int .u32 319059676), .lit (.int .u32 398814059), .lit (.int .u32 445009330), .lit (.int .u32 507990021), .lit (.int .u32 638119352), .lit (.int .u32 583659535), .lit (.int .u32 797628118), .lit (.int .u32 726387553), .lit (.int .u32 890018660), .lit (.int .u32 835552979), .lit (.int .u32 1015980042), .lit (.int .u32 944750013)]

/-- 'pithlaw9.FilesBack': WHATEVER THE INPUT: true; the input reads as it did. -/
def filesBackSpec : ChangeSpec := { name := "filesBack", fn := fun _ => fun
  | [d1, d2] => { results := [.lit (.bool true)], args := [d1, d2] }
  | _ => none }
def filesBackRow : OpenClaim := { program := "ytgpoldjpmcoppaadoor", sum := "b4eafbdea6c82cd5d1e7341c839a7f07b4437588d2a59f7d526b6ee528b81094", func := "pith/pithlaw9.FilesBack", spec := "filesBack", unfollowed := true, recurses := true, named := ["pith/crc.table"], apart := false, laid := [("pith/crc.table", laid_pith_crc_table)] }
def FilesBackSaid : Prop := filesBackRow.holds Tryd.pinned (OpenSpec.ofChange filesBackSpec)

/-- ITS FALSE NEIGHBOUR: 'it returns false'. Refute it at one input. -/
def filesBackWrong : ChangeSpec := { name := "filesBack", fn := fun _ => fun
  | [d1, d2] => { results := [.lit (.bool false)], args := [d1, d2] }
  | _ => none }
def FilesBackWrongFalsely : Prop := filesBackRow.holds Tryd.pinned (OpenSpec.ofChange filesBackWrong)

/-- 'pithlaw9.FilesSpoilt': WHATEVER THE INPUT: true; the input reads as it did. -/
def filesSpoiltSpec : ChangeSpec := { name := "filesSpoilt", fn := fun _ => fun
  | [d1, d2, d3, d4] => { results := [.lit (.bool true)], args := [d1, d2, d3, d4] }
  | _ => none }
def filesSpoiltRow : OpenClaim := { program := "ytgpoldjpmcoppaadoor", sum := "b4eafbdea6c82cd5d1e7341c839a7f07b4437588d2a59f7d526b6ee528b81094", func := "pith/pithlaw9.FilesSpoilt", spec := "filesSpoilt", unfollowed := true, recurses := true, named := ["pith/crc.table"], apart := false, laid := [("pith/crc.table", laid_pith_crc_table)] }
def FilesSpoiltSaid : Prop := filesSpoiltRow.holds Tryd.pinned (OpenSpec.ofChange filesSpoiltSpec)

/-- ITS FALSE NEIGHBOUR: 'it returns false'. Refute it at one input. -/
def filesSpoiltWrong : ChangeSpec := { name := "filesSpoilt", fn := fun _ => fun
  | [d1, d2, d3, d4] => { results := [.lit (.bool false)], args := [d1, d2, d3, d4] }
  | _ => none }
def FilesSpoiltWrongFalsely : Prop := filesSpoiltRow.holds Tryd.pinned (OpenSpec.ofChange filesSpoiltWrong)

/-- 'pithlaw9.FilesBeside': WHATEVER THE INPUT: true; the input reads as it did. -/
def filesBesideSpec : ChangeSpec := { name := "filesBeside", fn := fun _ => fun
  | [d1, d2] => { results := [.lit (.bool true)], args := [d1, d2] }
  | _ => none }
def filesBesideRow : OpenClaim := { program := "ytgpoldjpmcoppaadoor", sum := "b4eafbdea6c82cd5d1e7341c839a7f07b4437588d2a59f7d526b6ee528b81094", func := "pith/pithlaw9.FilesBeside", spec := "filesBeside", unfollowed := true, recurses := true, named := ["pith/crc.table"], apart := false, laid := [("pith/crc.table", laid_pith_crc_table)] }
def FilesBesideSaid : Prop := filesBesideRow.holds Tryd.pinned (OpenSpec.ofChange filesBesideSpec)

/-- ITS FALSE NEIGHBOUR: 'it returns false'. Refute it at one input. -/
def filesBesideWrong : ChangeSpec := { name := "filesBeside", fn := fun _ => fun
  | [d1, d2] => { results := [.lit (.bool false)], args := [d1, d2] }
  | _ => none }
def FilesBesideWrongFalsely : Prop := filesBesideRow.holds Tryd.pinned (OpenSpec.ofChange filesBesideWrong)

/-- 'pithlaw9.FilesLazy': WHATEVER THE INPUT: true; the input reads as it did. -/
def filesLazySpec : ChangeSpec := { name := "filesLazy", fn := fun _ => fun
  | [d1, d2, d3, d4] => { results := [.lit (.bool true)], args := [d1, d2, d3, d4] }
  | _ => none }
def filesLazyRow : OpenClaim := { program := "ytgpoldjpmcoppaadoor", sum := "b4eafbdea6c82cd5d1e7341c839a7f07b4437588d2a59f7d526b6ee528b81094", func := "pith/pithlaw9.FilesLazy", spec := "filesLazy", unfollowed := true, recurses := true, named := ["pith/crc.table"], apart := false, laid := [("pith/crc.table", laid_pith_crc_table)] }
def FilesLazySaid : Prop := filesLazyRow.holds Tryd.pinned (OpenSpec.ofChange filesLazySpec)

/-- ITS FALSE NEIGHBOUR: 'it returns false'. Refute it at one input. -/
def filesLazyWrong : ChangeSpec := { name := "filesLazy", fn := fun _ => fun
  | [d1, d2, d3, d4] => { results := [.lit (.bool false)], args := [d1, d2, d3, d4] }
  | _ => none }
def FilesLazyWrongFalsely : Prop := filesLazyRow.holds Tryd.pinned (OpenSpec.ofChange filesLazyWrong)

/-- 'pithlaw9.FilesRoom': WHATEVER THE INPUT: true; the input reads as it did. -/
def filesRoomSpec : ChangeSpec := { name := "filesRoom", fn := fun _ => fun
  | [d1, d2, d3] => { results := [.lit (.bool true)], args := [d1, d2, d3] }
  | _ => none }
def filesRoomRow : OpenClaim := { program := "ytgpoldjpmcoppaadoor", sum := "b4eafbdea6c82cd5d1e7341c839a7f07b4437588d2a59f7d526b6ee528b81094", func := "pith/pithlaw9.FilesRoom", spec := "filesRoom", inPlace := ["maps.clone"], unfollowed := true, recurses := true, named := ["pith/crc.table"], apart := false, laid := [("pith/crc.table", laid_pith_crc_table)] }
def FilesRoomSaid : Prop := filesRoomRow.holds Tryd.pinned (OpenSpec.ofChange filesRoomSpec)

/-- ITS FALSE NEIGHBOUR: 'it returns false'. Refute it at one input. -/
def filesRoomWrong : ChangeSpec := { name := "filesRoom", fn := fun _ => fun
  | [d1, d2, d3] => { results := [.lit (.bool false)], args := [d1, d2, d3] }
  | _ => none }
def FilesRoomWrongFalsely : Prop := filesRoomRow.holds Tryd.pinned (OpenSpec.ofChange filesRoomWrong)

/-- 'pithlaw9.FilesWhole': WHATEVER THE INPUT: true; the input reads as it did. -/
def filesWholeSpec : ChangeSpec := { name := "filesWhole", fn := fun _ => fun
  | [d1, d2, d3, d4, d5, d6] => { results := [.lit (.bool true)], args := [d1, d2, d3, d4, d5, d6] }
  | _ => none }
def filesWholeRow : OpenClaim := { program := "ytgpoldjpmcoppaadoor", sum := "b4eafbdea6c82cd5d1e7341c839a7f07b4437588d2a59f7d526b6ee528b81094", func := "pith/pithlaw9.FilesWhole", spec := "filesWhole", inPlace := ["maps.clone"], unfollowed := true, recurses := true, named := ["pith/crc.table"], apart := false, laid := [("pith/crc.table", laid_pith_crc_table)] }
def FilesWholeSaid : Prop := filesWholeRow.holds Tryd.pinned (OpenSpec.ofChange filesWholeSpec)

/-- ITS FALSE NEIGHBOUR: 'it returns false'. Refute it at one input. -/
def filesWholeWrong : ChangeSpec := { name := "filesWhole", fn := fun _ => fun
  | [d1, d2, d3, d4, d5, d6] => { results := [.lit (.bool false)], args := [d1, d2, d3, d4, d5, d6] }
  | _ => none }
def FilesWholeWrongFalsely : Prop := filesWholeRow.holds Tryd.pinned (OpenSpec.ofChange filesWholeWrong)

/- THE SECOND FORM. 'bulk': how many values and letters a reading holds, each counted each time it is reached (what is shared counts as often as it is met; a slice's spare places count too). A statement '..UptoSaid' is the law's where the arguments, and the package variables that the reading takes, are together of bulk at most 1048576: NARROWER than '..Said'. Prove '..Said' where nothing that the law and all that it calls make is longer than what came in: it says more and counts as full. Else prove '..UptoSaid'. A law counts once. -/
mutual
def uptoBulk {H : Type} : DataW H → Nat
  | .lit (.string bytes) => bytes.length + 1
  | .lit _ => 1
  | .nil => 1
  | .ptr d => uptoBulk d + 1
  | .slice elems spare => uptoBulkAll elems + uptoBulkAll spare + 1
  | .agg parts => uptoBulkAll parts + 1
  | .iface _ d => uptoBulk d + 1
  | .map entries => uptoBulkEntries entries + 1
  | .held _ => 1
def uptoBulkAll {H : Type} : List (DataW H) → Nat
  | [] => 0
  | d :: r => uptoBulk d + uptoBulkAll r
def uptoBulkEntries {H : Type} : List (Lit × DataW H) → Nat
  | [] => 0
  | x :: r => uptoBulkEntry x + uptoBulkEntries r
def uptoBulkEntry {H : Type} : Lit × DataW H → Nat
  | (.string bytes, d) => bytes.length + uptoBulk d + 1
  | (_, d) => uptoBulk d + 1
 end
def uptoSmall : (H : Type) → List (DataW H) → Bool := fun _ ds => decide (uptoBulkAll ds ≤ 1048576)
def OpenSpec.upto (s : _root_.Go.ChangeSpec) : _root_.Go.OpenSpec := { _root_.Go.OpenSpec.ofChange s with cond := some uptoSmall }

/-- 'pithlaw9.FilesBack', WHERE WHAT IT READS IS OF BULK AT MOST 1048576: true; the input reads as it did. -/
def filesBackUptoRow : OpenClaim := { program := "ytgpoldjpmcoppaadoor", sum := "b4eafbdea6c82cd5d1e7341c839a7f07b4437588d2a59f7d526b6ee528b81094", func := "pith/pithlaw9.FilesBack", spec := "filesBack", unfollowed := true, recurses := true, named := ["pith/crc.table"], apart := false, laid := [("pith/crc.table", laid_pith_crc_table)], narrowed := true }
def FilesBackUptoSaid : Prop := filesBackUptoRow.holds Tryd.pinned (OpenSpec.upto filesBackSpec)

/-- 'pithlaw9.FilesSpoilt', WHERE WHAT IT READS IS OF BULK AT MOST 1048576: true; the input reads as it did. -/
def filesSpoiltUptoRow : OpenClaim := { program := "ytgpoldjpmcoppaadoor", sum := "b4eafbdea6c82cd5d1e7341c839a7f07b4437588d2a59f7d526b6ee528b81094", func := "pith/pithlaw9.FilesSpoilt", spec := "filesSpoilt", unfollowed := true, recurses := true, named := ["pith/crc.table"], apart := false, laid := [("pith/crc.table", laid_pith_crc_table)], narrowed := true }
def FilesSpoiltUptoSaid : Prop := filesSpoiltUptoRow.holds Tryd.pinned (OpenSpec.upto filesSpoiltSpec)

/-- 'pithlaw9.FilesBeside', WHERE WHAT IT READS IS OF BULK AT MOST 1048576: true; the input reads as it did. -/
def filesBesideUptoRow : OpenClaim := { program := "ytgpoldjpmcoppaadoor", sum := "b4eafbdea6c82cd5d1e7341c839a7f07b4437588d2a59f7d526b6ee528b81094", func := "pith/pithlaw9.FilesBeside", spec := "filesBeside", unfollowed := true, recurses := true, named := ["pith/crc.table"], apart := false, laid := [("pith/crc.table", laid_pith_crc_table)], narrowed := true }
def FilesBesideUptoSaid : Prop := filesBesideUptoRow.holds Tryd.pinned (OpenSpec.upto filesBesideSpec)

/-- 'pithlaw9.FilesLazy', WHERE WHAT IT READS IS OF BULK AT MOST 1048576: true; the input reads as it did. -/
def filesLazyUptoRow : OpenClaim := { program := "ytgpoldjpmcoppaadoor", sum := "b4eafbdea6c82cd5d1e7341c839a7f07b4437588d2a59f7d526b6ee528b81094", func := "pith/pithlaw9.FilesLazy", spec := "filesLazy", unfollowed := true, recurses := true, named := ["pith/crc.table"], apart := false, laid := [("pith/crc.table", laid_pith_crc_table)], narrowed := true }
def FilesLazyUptoSaid : Prop := filesLazyUptoRow.holds Tryd.pinned (OpenSpec.upto filesLazySpec)

/-- 'pithlaw9.FilesRoom', WHERE WHAT IT READS IS OF BULK AT MOST 1048576: true; the input reads as it did. -/
def filesRoomUptoRow : OpenClaim := { program := "ytgpoldjpmcoppaadoor", sum := "b4eafbdea6c82cd5d1e7341c839a7f07b4437588d2a59f7d526b6ee528b81094", func := "pith/pithlaw9.FilesRoom", spec := "filesRoom", inPlace := ["maps.clone"], unfollowed := true, recurses := true, named := ["pith/crc.table"], apart := false, laid := [("pith/crc.table", laid_pith_crc_table)], narrowed := true }
def FilesRoomUptoSaid : Prop := filesRoomUptoRow.holds Tryd.pinned (OpenSpec.upto filesRoomSpec)

/-- 'pithlaw9.FilesWhole', WHERE WHAT IT READS IS OF BULK AT MOST 1048576: true; the input reads as it did. -/
def filesWholeUptoRow : OpenClaim := { program := "ytgpoldjpmcoppaadoor", sum := "b4eafbdea6c82cd5d1e7341c839a7f07b4437588d2a59f7d526b6ee528b81094", func := "pith/pithlaw9.FilesWhole", spec := "filesWhole", inPlace := ["maps.clone"], unfollowed := true, recurses := true, named := ["pith/crc.table"], apart := false, laid := [("pith/crc.table", laid_pith_crc_table)], narrowed := true }
def FilesWholeUptoSaid : Prop := filesWholeUptoRow.holds Tryd.pinned (OpenSpec.upto filesWholeSpec)

end Rows
end Go.Proofs.YtgpoldjpmcoppaaDoor
