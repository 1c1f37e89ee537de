/- The reference's file system, plainly. -/
import Derived.Test.YtmkheogjnlmkdaaVFsL
set_option linter.unusedSimpArgs false
set_option linter.unusedVariables false
set_option maxRecDepth 20000
namespace Go.V
open Go
/-- A name, and which file it stands for. -/
abbrev En := Nm × Nat
def entC (es : List En) : List Value := es.flatMap fun e => [.string e.1, .int .i64 e.2]
theorem entC_len (es : List En) : (entC es).length = es.length * 2 := fl_len (f := fun e : En => [Value.string e.1, .int .i64 e.2]) (fun _ => rfl) es
theorem entC_snoc (es : List En) (e : En) : entC (es ++ [e]) = entC es ++ [.string e.1, .int .i64 e.2] := by simp [entC]
def doneC (es : List (Nat × Nm)) : List Value := es.flatMap fun e => [.int .i64 e.1, .string e.2]
theorem doneC_len (es : List (Nat × Nm)) : (doneC es).length = es.length * 2 := fl_len (f := fun e : Nat × Nm => [Value.int .i64 e.1, .string e.2]) (fun _ => rfl) es
theorem doneC_snoc (es : List (Nat × Nm)) (e : Nat × Nm) : doneC (es ++ [e]) = doneC es ++ [.int .i64 e.1, .string e.2] := by simp [doneC]
def leN (a b : Nm) : Bool := Op.bytesLess a.toList b.toList || a.toList == b.toList
/-- One step of 'with'. -/
def withStep (n : Nm) (x : Nat) (p : List En × Bool) (e : En) : List En × Bool :=
  ((if p.2 = false ∧ leN n e.1 = true then p.1 ++ [(n, x)] else p.1) ++ (if e.1 = n then [] else [e]), p.2 || leN n e.1)
def withP (n : Nm) (x : Nat) (es : List En) : List En × Bool := es.foldl (withStep n x) ([], false)
def withE (es : List En) (n : Nm) (x : Nat) : List En := (withP n x es).1 ++ if (withP n x es).2 then [] else [(n, x)]
theorem withP_step {es : List En} {n : Nm} {x i : Nat} {e : En} (h : es[i]? = some e) : withP n x (es.take (i + 1)) = withStep n x (withP n x (es.take i)) e := by
  unfold withP
  rw [List.take_add_one, h, List.foldl_append]
  rfl
theorem withStep_len (n : Nm) (x : Nat) (p : List En × Bool) (e : En) : (withStep n x p e).1.length ≤ p.1.length + 1 + (if p.2 then 0 else if leN n e.1 then 1 else 0) := by
  unfold withStep
  cases p.2 <;> cases leN n e.1 <;> by_cases h : e.1 = n <;> simp [h]
theorem withP_len (n : Nm) (x : Nat) (es : List En) : (withP n x es).1.length ≤ es.length + if (withP n x es).2 then 1 else 0 := by
  suffices h : ∀ (es : List En) (p : List En × Bool) (k : Nat), p.1.length ≤ k + (if p.2 then 1 else 0) → (es.foldl (withStep n x) p).1.length ≤ k + es.length + if (es.foldl (withStep n x) p).2 then 1 else 0 by
    have := h es ([], false) 0 (by simp)
    unfold withP
    omega
  intro es
  induction es with
  | nil => intro p k h; exact h
  | cons e es ih =>
    intro p k h
    rw [List.foldl_cons]
    have := ih (withStep n x p e) (k + 1) (by
      have h1 := withStep_len n x p e
      have h2 : (withStep n x p e).2 = (p.2 || leN n e.1) := rfl
      rw [h2]
      cases hp : p.2 <;> cases hl : leN n e.1 <;> simp [hp, hl] at h1 h ⊢ <;> omega)
    rw [List.length_cons]
    omega
theorem withE_len (es : List En) (n : Nm) (x : Nat) : (withE es n x).length ≤ es.length + 1 := by
  have := withP_len n x es
  unfold withE
  rw [List.length_append]
  cases h : (withP n x es).2 <;> simp [h] at this ⊢ <;> omega
def outE (es : List En) (x : Nat) : List En := es.filter fun e => decide (e.2 ≠ x)
theorem outE_len (es : List En) (x : Nat) : (outE es x).length ≤ es.length := List.length_filter_le _ _
def toldE (es : List En) (x : Nat) (n : Nm) : List En :=
  if n = emptyNm then outE es x else withE (outE es x) n x
theorem toldE_len (es : List En) (x : Nat) (n : Nm) : (toldE es x n).length ≤ es.length + 1 := by
  have h1 := outE_len es x
  unfold toldE
  split
  · omega
  · have := withE_len (outE es x) n x
    omega
/-- Which file a name stands for. -/
def lookE (es : List En) (n : Nm) : Option Nat := (es.find? fun e => decide (e.1 = n)).map (·.2)
theorem lookE_first {n : Nm} : ∀ {es : List En} {i : Nat} {e : En}, es[i]? = some e → e.1 = n → (∀ (j : Nat) y, j < i → es[j]? = some y → y.1 ≠ n) → lookE es n = some e.2
  | [], i, e, h, _, _ => by simp at h
  | y :: es, 0, e, h, he, _ => by
    simp only [List.getElem?_cons_zero, Option.some.injEq] at h
    subst h
    simp [lookE, he]
  | y :: es, i + 1, e, h, he, hno => by
    have h1 := hno 0 y (by omega) (by simp)
    have := lookE_first (es := es) (i := i) (by simpa using h) he fun j z hj hz => hno (j + 1) z (by omega) (by simpa using hz)
    unfold lookE at *
    rw [List.find?_cons, decide_eq_false h1]
    exact this
theorem lookE_none {n : Nm} {es : List En} (h : ∀ e ∈ es, e.1 ≠ n) : lookE es n = none := by
  unfold lookE
  rw [Option.map_eq_none_iff, List.find?_eq_none]
  intro e he
  simpa using h e he
/-- What 'at' answers. -/
def AtE (es : List En) (n : Nm) (r : Int) : Prop :=
  (∃ (i : Nat) (x : Nat), r = i ∧ es[i]? = some (n, x) ∧ lookE es n = some x) ∨ (r = -1 ∧ lookE es n = none)
structure RSt where
  most : Int
  files : List (List Int × Nat)
  dirs : List (List En)
  pend : List (Nat × Nm)
  off : Bool
  armed : Int
  count : Int
def RSt.now (r : RSt) : List En := r.dirs.getD (r.dirs.length - 1) []
/-- One operation more. -/
def failsR (r : RSt) : RSt × Bool :=
  if r.armed = 0 then ({ r with count := r.count + 1 }, false)
  else ({ r with count := r.count + 1, armed := r.armed - 1, off := r.off || decide (r.armed = 1) }, r.off || decide (r.armed = 1))
def powerR (r : RSt) : RSt × Int := ((failsR r).1, if (failsR r).2 then 81 else 0)
def doesR (r : RSt) (x : Nat) (n : Nm) : RSt × Int := powerR { r with pend := r.pend ++ [(x, n)], dirs := r.dirs ++ [toldE r.now x n] }
end Go.V
