/- Slices of slices of arcs among the arguments. -/
import Derived.Test.YtcgejfmbhpmjfaaVRow2
import Derived.Test.YtcgejfmbhpmjfaaVSrcs
set_option linter.unusedSimpArgs false
set_option linter.unusedVariables false
set_option maxRecDepth 20000
namespace Go.Proofs.Ytcgejfmbhpmjfaa
open Go Go.V Go.ChangeShapes Go.WideShapes Go.ChangeAt Go.RowKit
-- 3: int
-- 24: pith/api.Pair
-- 22: []api.Pair
-- 60: [][]api.Pair
theorem all2_of {α β γ : Type} {R : β → γ → Prop} {f : α → β} {g : α → γ} : ∀ {l : List α}, (∀ x ∈ l, R (f x) (g x)) → All2 R (l.map f) (l.map g)
  | [], _ => trivial
  | a :: l, h => ⟨h a List.mem_cons_self, all2_of fun x hx => h x (List.mem_cons_of_mem _ hx)⟩
theorem flat_one {α β : Type} (f : α → β) (l : List α) : l.flatMap (fun x => [f x]) = l.map f := by
  induction l with
  | nil => rfl
  | cons a l ih => rw [List.flatMap_cons, ih]; rfl
theorem arg_prss {D : Type} {enc : TypeId × Value → D} {W : World} {base : Nat} {sp : Nat → Bool} {held : Bool} {v : Value} {d : DataW D} {qs : List MemPlace} (hv : Value.okWide Try.prog W .any base 60 v) (h : DataW.Trod enc Try.prog W 0 sp held 60 v d qs) : ∃ pss, PrsL W.heap v pss := by
  obtain ⟨f, hf⟩ := h
  rw [cells_one Try.underlying60 hv] at hf
  obtain ⟨w, es, e, h1, h2⟩ := open_slk (α := Value × List Pr) (fun x => [x.1]) (fun x => Prs W.heap x.1 x.2) (by decide) Try.underlying60 cellsPrs (fun _ => rfl) (fun m cs y hy => by
    obtain ⟨w, ps, e, h1, _⟩ := open_prs hy
    exact ⟨(w, ps), e, h1⟩) hf
  obtain rfl : v = w := by simpa using e
  rw [flat_one] at h1
  exact ⟨es.map (·.2), es.map (·.1), h1, all2_of h2⟩
end Go.Proofs.Ytcgejfmbhpmjfaa
