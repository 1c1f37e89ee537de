/- A file system, plainly. -/
import Derived.Test.YtgigigchjnnonaaGreatDoorVMap
set_option linter.unusedSimpArgs false
set_option linter.unusedVariables false
set_option maxRecDepth 20000
namespace Go.V
open Go
abbrev Nm := ByteArray
abbrev Dir := Nm → Option Nat
def okCh (c : UInt8) : Bool := !(decide (c ≠ 46) && (decide (c < 97) || decide (122 < c)) && (decide (c < 48) || decide (57 < c)))
/-- A name. -/
def isNm (s : Nm) : Bool := decide (1 ≤ s.size ∧ s.size ≤ 64) && s.data.toList.all okCh
def emptyNm : Nm := ByteArray.empty
structure St where
  room : Int
  now : Dir
  last : Dir
  pend : List (Nat × Nm)
  held : List Nat
  off : Bool
  fuse : Int
  ops : Int
  dat : Nat → List Int
  syn : Nat → Nat
/-- The directory behind: file x is named n, or not at all. -/
def moveD (D : Dir) (x : Nat) (n : Nm) : Dir := fun k => if k = n ∧ n ≠ emptyNm then some x else if D k = some x then none else D k
def beginS (s : St) (ns : List Nm) : Int := if ns.all isNm then if s.off then 81 else 0 else 84
def countS (s : St) : St × Int :=
  if 0 < s.fuse then if s.fuse = 1 then ({ s with ops := s.ops + 1, fuse := 0, off := true }, 81) else ({ s with ops := s.ops + 1, fuse := s.fuse - 1 }, 0)
  else ({ s with ops := s.ops + 1 }, 0)
def pendS (s : St) (x : Nat) (n : Nm) : St × Int := countS { s with now := moveD s.now x n, pend := s.pend ++ [(x, n)] }
def setF {α : Type} (f : Nat → α) (x : Nat) (v : α) : Nat → α := fun y => if y = x then v else f y
/-- A new file; x stands for it. -/
def addS (s : St) (x : Nat) : St := { s with held := s.held ++ [x], dat := setF s.dat x [], syn := setF s.syn x 0 }
def createS (s : St) (n : Nm) (x : Nat) : St × Int :=
  if beginS s [n] ≠ 0 then (s, beginS s [n]) else if s.now n ≠ none then (s, 83) else pendS (addS s x) x n
def heldS (s : St) : Int := (s.held.map fun f => ((s.dat f).length : Int)).sum
/-- A file, or an error. -/
def findS (s : St) (n : Nm) : Option Nat × Int :=
  if beginS s [n] ≠ 0 then (none, beginS s [n]) else match s.now n with | none => (none, 82) | some x => (some x, 0)
def appendS (s : St) (n : Nm) (b : List Int) : St × Int := match findS s n with
  | (some x, _) => if s.room - heldS s < b.length then (s, 80) else countS { s with dat := setF s.dat x (s.dat x ++ b) }
  | (none, e) => (s, e)
def syncS (s : St) (n : Nm) : St × Int := match findS s n with
  | (some x, _) => if (countS s).2 = 0 then ({ (countS s).1 with syn := setF s.syn x (s.dat x).length }, 0) else countS s
  | (none, e) => (s, e)
def renameS (s : St) (n m : Nm) : St × Int :=
  if beginS s [n, m] ≠ 0 then (s, beginS s [n, m]) else match s.now n with | none => (s, 82) | some x => pendS s x m
def removeS (s : St) (n : Nm) : St × Int := match findS s n with
  | (some x, _) => pendS s x emptyNm
  | (none, e) => (s, e)
open Classical in
noncomputable def settleS (s : St) : St := { s with last := s.now, pend := [], held := s.held.filter fun f => decide (∃ n, s.now n = some f) }
noncomputable def syncDirS (s : St) : St × Int := if s.off then (s, 81) else if (countS s).2 = 0 then (settleS (countS s).1, 0) else countS s
def armS (s : St) (k : Int) : St × Int := if k < 0 then (s, 85) else if s.off then (s, 81) else ({ s with fuse := k }, 0)
/-- The names of a directory, rising. -/
def IsNames (D : Dir) (ns : List Nm) : Prop := ns.Pairwise (fun a b => a.data.toList < b.data.toList) ∧ ∀ n, n ∈ ns ↔ D n ≠ none
def bitI (dir : Int) (i : Nat) : Bool := decide ((dir / 2 ^ (min i 63)) % 2 ≠ 0)
def afterD (D : Dir) (dir : Int) : List (Nat × Nm) → Nat → Dir
  | [], _ => D
  | p :: l, i => afterD (if bitI dir i then moveD D p.1 p.2 else D) dir l (i + 1)
def moreI (cuts : List Int) (j : Nat) : Nat := (max (cuts.getD j 0) 0).toNat
def cutLen (s : St) (x : Nat) (m : Nat) : Nat := s.syn x + min m ((s.dat x).length - s.syn x)
def cutS (s : St) (x : Nat) (m : Nat) : St := { s with dat := setF s.dat x ((s.dat x).take (cutLen s x m)), syn := setF s.syn x (cutLen s x m) }
def cutsS (cuts : List Int) : St → List Nm → Nat → St
  | s, [], _ => s
  | s, n :: ns, j => cutsS cuts (match s.now n with | some x => cutS s x (moreI cuts j) | none => s) ns (j + 1)
noncomputable def crashS (s : St) (dir : Int) (cuts : List Int) (ns : List Nm) : St :=
  { settleS (cutsS cuts { s with now := afterD s.last dir s.pend 0 } ns 0) with off := false, fuse := 0 }
def readS (s : St) (n : Nm) (a k : Int) : List Int × Int := match findS s n with
  | (some x, _) => if a < 0 ∨ k < 0 then ([], 85) else (((s.dat x).drop a.toNat).take k.toNat, 0)
  | (none, e) => ([], e)
def sizeS (s : St) (n : Nm) : Int × Int := match findS s n with
  | (some x, _) => ((s.dat x).length, 0)
  | (none, e) => (0, e)
/-- What always holds. -/
structure Ok (s : St) : Prop where
  room : 0 ≤ s.room ∧ s.room ≤ 2147483647
  nowH : ∀ n f, s.now n = some f → f ∈ s.held
  lastH : ∀ n f, s.last n = some f → f ∈ s.held
  pendH : ∀ p ∈ s.pend, p.1 ∈ s.held
  nowI : ∀ n m f, s.now n = some f → s.now m = some f → n = m
  lastI : ∀ n m f, s.last n = some f → s.last m = some f → n = m
  nowN : ∀ n f, s.now n = some f → isNm n = true
  lastN : ∀ n f, s.last n = some f → isNm n = true
  pendN : ∀ p ∈ s.pend, p.2 = emptyNm ∨ isNm p.2 = true
  nd : s.held.Nodup
  syn : ∀ f ∈ s.held, s.syn f ≤ (s.dat f).length
  byt : ∀ f ∈ s.held, Byt (s.dat f)
  sum : heldS s ≤ s.room
  fuse : 0 ≤ s.fuse ∧ s.fuse < 9223372036854775808
  hlen : (s.held.length : Int) ≤ s.ops
  plen : (s.pend.length : Int) ≤ s.ops
theorem sum_nonneg : ∀ (l : List Int), (∀ x ∈ l, 0 ≤ x) → 0 ≤ l.sum
  | [], _ => by simp
  | x :: l, h => by
    have := sum_nonneg l fun y hy => h y (List.mem_cons_of_mem _ hy)
    have := h x List.mem_cons_self
    simp only [List.sum_cons]; omega
theorem sum_ge : ∀ (l : List Int), (∀ x ∈ l, 0 ≤ x) → ∀ x ∈ l, x ≤ l.sum
  | [], _, x, hx => by simp at hx
  | y :: l, h, x, hx => by
    have h1 := sum_nonneg l fun y hy => h y (List.mem_cons_of_mem _ hy)
    have h2 := h y List.mem_cons_self
    simp only [List.sum_cons]
    rcases List.mem_cons.1 hx with rfl | hx
    · omega
    · have := sum_ge l (fun y hy => h y (List.mem_cons_of_mem _ hy)) x hx; omega
theorem heldS_nonneg (s : St) : 0 ≤ heldS s := sum_nonneg _ fun x hx => by
  obtain ⟨f, _, rfl⟩ := List.mem_map.1 hx; omega
theorem dat_le {s : St} (h : Ok s) {f : Nat} (hf : f ∈ s.held) : ((s.dat f).length : Int) ≤ s.room :=
  Int.le_trans (sum_ge _ (fun x hx => by obtain ⟨f, _, rfl⟩ := List.mem_map.1 hx; omega) _ (List.mem_map.2 ⟨f, hf, rfl⟩)) h.sum
end Go.V
