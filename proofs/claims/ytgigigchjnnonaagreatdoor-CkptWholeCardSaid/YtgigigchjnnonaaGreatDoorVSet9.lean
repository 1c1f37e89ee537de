/- What the laws of files begin with: arguments cut, slices away from a file system. -/
import Derived.Test.YtgigigchjnnonaaGreatDoorVFst9
set_option linter.unusedSimpArgs false
set_option linter.unusedVariables false
set_option maxRecDepth 20000
namespace Go.V
open Go
end Go.V
namespace Go.Proofs.YtgigigchjnnonaaGreatDoor
open Go Go.V
theorem Aw.less {H : Heap} {F G : Nat → Prop} {K : Nat} {u : Value} {p : List Int} (h : Aw H G K u p) (hF : ∀ g, F g → G g) : Aw H F K u p := ⟨h.1, h.2.imp id fun q g hg => ⟨fun e => (q g hg).1 (hF g e), (q g hg).2⟩⟩
theorem AwL.less {H : Heap} {F G : Nat → Prop} {K : Nat} {v : Value} {vs : List Value} {l : List (List Int)} (h : AwL H G K v vs l) (hF : ∀ g, F g → G g) : AwL H F K v vs l :=
  ⟨h.sl, h.aw.imp id fun q g hg => ⟨fun e => (q g hg).1 (hF g e), (q g hg).2⟩, h.all.mono fun _ _ q => q.less hF⟩
theorem AwL.up {H : Heap} {F : Nat → Prop} {K K' : Nat} {v : Value} {vs : List Value} {l : List (List Int)} (h : AwL H F K v vs l) (hK : K ≤ K') : AwL H F K' v vs l :=
  ⟨h.sl, h.aw.imp id fun q g hg => ⟨(q g hg).1, by have := (q g hg).2; omega⟩, h.all.mono fun _ _ q => ⟨q.1, q.2.imp id fun q g hg => ⟨(q g hg).1, by have := (q g hg).2; omega⟩⟩⟩
end Go.Proofs.YtgigigchjnnonaaGreatDoor
