/- Two files written in turns, plainly; two file systems side by side. -/
import Derived.Test.YtgpoldjpmcoppaaDoorVAdd9
set_option linter.unusedSimpArgs false
set_option linter.unusedVariables false
set_option maxRecDepth 20000
namespace Go.V
open Go
theorem ChX.orl {X F F' : Nat → Prop} {H H' : Heap} (h : ChX X F F' H H') (G : Nat → Prop) : ChX X (fun g => F g ∨ G g) (fun g => F' g ∨ G g) H H' :=
  ⟨h.size, fun g hg => by
    rcases hg with hg | hg
    · rcases h.old g hg with e | e
      · exact .inl (.inl e)
      · exact .inr e
    · exact .inl (.inr hg), fun g hg hn hx => h.get g hg (fun e => hn (.inl e)) hx⟩
theorem ChX.orr {X F F' : Nat → Prop} {H H' : Heap} (h : ChX X F F' H H') (G : Nat → Prop) : ChX X (fun g => G g ∨ F g) (fun g => G g ∨ F' g) H H' :=
  ⟨h.size, fun g hg => by
    rcases hg with hg | hg
    · exact .inl (.inl hg)
    · rcases h.old g hg with e | e
      · exact .inl (.inr e)
      · exact .inr e, fun g hg hn hx => h.get g hg (fun e => hn (.inr e)) hx⟩
end Go.V
namespace Go.Proofs.YtgpoldjpmcoppaaDoor
open Go Go.V
theorem Aw.less {H : Heap} {F G : Nat → Prop} {K : Nat} {u : Value} {p : List Int} (h : Aw H G K u p) (hF : ∀ g, F g → G g) : Aw H F K u p := ⟨h.1, h.2.imp id fun q g hg => ⟨fun e => (q g hg).1 (hF g e), (q g hg).2⟩⟩
theorem AwL.less {H : Heap} {F G : Nat → Prop} {K : Nat} {v : Value} {vs : List Value} {l : List (List Int)} (h : AwL H G K v vs l) (hF : ∀ g, F g → G g) : AwL H F K v vs l :=
  ⟨h.sl, h.aw.imp id fun q g hg => ⟨fun e => (q g hg).1 (hF g e), (q g hg).2⟩, h.all.mono fun _ _ q => q.less hF⟩
theorem AwL.up {H : Heap} {F : Nat → Prop} {K K' : Nat} {v : Value} {vs : List Value} {l : List (List Int)} (h : AwL H F K v vs l) (hK : K ≤ K') : AwL H F K' v vs l :=
  ⟨h.sl, h.aw.imp id fun q g hg => ⟨(q g hg).1, by have := (q g hg).2; omega⟩, h.all.mono fun _ _ q => ⟨q.1, q.2.imp id fun q g hg => ⟨(q g hg).1, by have := (q g hg).2; omega⟩⟩⟩
theorem FsH.otherX {H H' : Heap} {X F F2 F2' : Nat → Prop} {b : Nat} {s : St} (h : FsH H F b s) (cx : ChX X F2 F2' H H') (hd : ∀ g, F g → ¬ F2 g) (hX : ∀ g, F g → ¬ X g) : FsH H' F b s ∧ ∀ g, F g → ¬ F2' g := by
  obtain ⟨_, _, _, _, _, h⟩ := h
  exact ⟨⟨_, _, _, _, _, h.keep cx.size fun g hg => cx.get g (h.lt g hg) (hd g hg) (hX g hg)⟩, fun g hg => cx.not (h.lt g hg) (hd g hg)⟩
/-- A writer's file, in the midst. -/
theorem putW_calm {s : St} {n : Nm} {x : Nat} {hd : List Int} {l : List (List Int)} (h : Peace s) (hn : s.now n = some x) (hdat : s.dat x = rowB (rowI hd l)) {p : List Int} (hp : p.length ≤ 1024) (hb : Byt p) (hr : (12 + p.length : Int) ≤ s.room - heldS s) :
    ∃ s', putW s (wrI n hd l) p = (s', wrI n hd (l ++ [p]), 0) ∧ s' = { s with ops := s.ops + 1, dat := setF s.dat x (rowB (rowI hd (l ++ [p]))) } ∧ Peace s' ∧ heldS s' = heldS s + (12 + p.length) := by
  obtain ⟨s', e1, e2, e3, e4, e5⟩ := put_calm (w := wrI n hd l) (x := x) (r := rowI hd l) h ⟨hn, hdat, rfl⟩ (k := 2) (p := p) (by omega) hp hb hr
  rw [← rowI_snoc] at e2
  refine ⟨s', ?_, e2, e3, e4⟩
  unfold putW
  rw [if_neg (by simp [wrI]), e1]
  simp only [if_true]
  congr 1
  congr 1
  unfold wrI
  simp only [rowI_snoc, rowB_snoc, List.length_append, encL_len, List.flatten_append, List.flatten_cons, List.flatten_nil, List.append_nil, List.length_cons, List.length_nil]
  rw [if_neg (by decide), ← List.append_assoc, crcW_app]
  have ez : ((rowB (rowI hd l)).length : Int) + (12 + (p.length : Int)) = (((rowB (rowI hd l)).length + (12 + p.length) : Nat) : Int) := by omega
  rw [ez, crcW_app _ (hd ++ l.flatten), crcW_app _ hd]
  rfl
theorem endW_calm {s : St} {n : Nm} {x : Nat} {hd : List Int} {l : List (List Int)} (h : Peace s) (hn : s.now n = some x) (hdat : s.dat x = rowB (rowI hd l)) (hr : (16 : Int) ≤ s.room - heldS s) :
    ∃ s' w', endW s (wrI n hd l) false = (s', w', ((rowB (fileR hd l)).length : Int), crcW 0#32 (hd ++ l.flatten), 0) ∧ s' = { s with ops := s.ops + 1, dat := setF s.dat x (rowB (fileR hd l)) } ∧ Peace s' ∧ heldS s' = heldS s + 16 := by
  have h4 : (be4 (l.length : Int)).length = 4 := rfl
  obtain ⟨s', e1, e2, e3, e4, e5⟩ := put_calm (w := wrI n hd l) (x := x) (r := rowI hd l) h ⟨hn, hdat, rfl⟩ (k := 3) (p := be4 l.length) (by omega) (by omega) (be4_byt _) (by rw [h4]; omega)
  rw [← fileR_eq] at e2
  have esz : (wrI n hd l).size + (12 + ((be4 (l.length : Int)).length : Int)) = (rowB (fileR hd l)).length := by
    rw [fileR_eq, rowB_snoc, List.length_append, encL_len]
    show ((rowB (rowI hd l)).length : Int) + _ = _
    omega
  have hdw : (wrI n hd l).data = l.length := rfl
  have hsw : (wrI n hd l).sum = crcW 0#32 (hd ++ l.flatten) := rfl
  refine ⟨s', { wrI n hd l with size := (rowB (fileR hd l)).length, over := true }, ?_, e2, e3, by rw [e4, h4]; rfl⟩
  unfold endW
  rw [if_neg (by simp [wrI]), hdw, e1, esz]
  simp [hsw]
/-- Two files, each in the midst. -/
structure Two (s : St) (n m : Nm) (x y : Nat) (A B : List Int) : Prop where
  pc : Peace s
  nx : s.now n = some x
  ny : s.now m = some y
  ne : x ≠ y
  dx : s.dat x = A
  dy : s.dat y = B
  room : s.room = 1048576
  held : heldS s = A.length + B.length
theorem Two.symm {s : St} {n m : Nm} {x y : Nat} {A B : List Int} (h : Two s n m x y A B) : Two s m n y x B A := ⟨h.pc, h.ny, h.nx, h.ne.symm, h.dy, h.dx, h.room, by rw [h.held]; omega⟩
theorem Two.put {s : St} {n m : Nm} {x y : Nat} {hd : List Int} {l : List (List Int)} {B : List Int} (h : Two s n m x y (rowB (rowI hd l)) B) {p : List Int} (hp : p.length ≤ 1024) (hb : Byt p) (hr : (rowB (rowI hd l)).length + B.length ≤ 200000) :
    ∃ s', putW s (wrI n hd l) p = (s', wrI n hd (l ++ [p]), 0) ∧ Two s' n m x y (rowB (rowI hd (l ++ [p]))) B ∧ s'.ops = s.ops + 1 := by
  obtain ⟨s', e1, e2, e3, e4⟩ := putW_calm h.pc h.nx h.dx hp hb (by rw [h.room, h.held]; omega)
  refine ⟨s', e1, ⟨e3, by rw [e2]; exact h.nx, by rw [e2]; exact h.ny, h.ne, by rw [e2]; exact setF_same _ _ _, by rw [e2]; simp only; rw [setF_ne _ _ _ h.ne.symm]; exact h.dy, by rw [e2]; exact h.room, ?_⟩, by rw [e2]⟩
  rw [e4, h.held, rowI_snoc, rowB_snoc, List.length_append, encL_len]; omega
theorem Two.end {s : St} {n m : Nm} {x y : Nat} {hd : List Int} {l : List (List Int)} {B : List Int} (h : Two s n m x y (rowB (rowI hd l)) B) (hr : (rowB (rowI hd l)).length + B.length ≤ 200000) :
    ∃ s' w', endW s (wrI n hd l) false = (s', w', ((rowB (fileR hd l)).length : Int), crcW 0#32 (hd ++ l.flatten), 0) ∧ Two s' n m x y (rowB (fileR hd l)) B ∧ s'.ops = s.ops + 1 := by
  obtain ⟨s', w', e1, e2, e3, e4⟩ := endW_calm h.pc h.nx h.dx (by rw [h.room, h.held]; omega)
  refine ⟨s', w', e1, ⟨e3, by rw [e2]; exact h.nx, by rw [e2]; exact h.ny, h.ne, by rw [e2]; exact setF_same _ _ _, by rw [e2]; simp only; rw [setF_ne _ _ _ h.ne.symm]; exact h.dy, by rw [e2]; exact h.room, ?_⟩, by rw [e2]⟩
  rw [e4, h.held, fileR_eq, rowB_snoc, List.length_append, encL_len]
  have h4 : (be4 (l.length : Int)).length = 4 := rfl
  omega
end Go.Proofs.YtgpoldjpmcoppaaDoor
