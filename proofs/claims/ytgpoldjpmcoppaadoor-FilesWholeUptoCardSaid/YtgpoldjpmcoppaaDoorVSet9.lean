/- What the laws of files begin with: arguments cut, slices away from a file system. -/
import Derived.Test.YtgpoldjpmcoppaaDoorVFst9
set_option linter.unusedSimpArgs false
set_option linter.unusedVariables false
set_option maxRecDepth 20000
namespace Go.V
open Go
def nmF : Nm := ⟨#[102]⟩
theorem nmF_nm : isNm nmF = true := by decide +kernel
theorem ints_lt {H : Heap} {e : TypeId} {k : IntKind} {u : Value} {xs : List Int} (h : Ints H e k u xs) : xs = [] ∨ ∀ g, blk u = some g → g < H.size := by
  obtain ⟨a, len, cap, rfl, hc, hl, hd⟩ := h
  rcases hd with rfl | ⟨b, o, c, t, fr, rfl, hb, _⟩
  · left; simpa using hl
  · right
    intro g hg
    have : b = g := by simpa [blk] using hg
    subst this
    exact (Array.getElem?_eq_some_iff.1 hb).1
end Go.V
namespace Go.Proofs.YtgpoldjpmcoppaaDoor
open Go Go.V
-- 5: uint8
-- 22: []uint8
theorem aw_of {H0 H : Heap} {F : Nat → Prop} {K : Nat} {u : Value} {xs : List Int} (hu : Ints H0 5 .u8 u xs) (x : Ext H0 H) (hF : ∀ g, F g → H0.size ≤ g) (hK : H0.size ≤ K) : Aw H F K u xs :=
  ⟨hu.ext x, (ints_lt hu).imp id fun h g hg => ⟨fun e => by have := hF g e; have := h g hg; omega, Nat.lt_of_lt_of_le (h g hg) hK⟩⟩
theorem awl_of {H0 H : Heap} {F : Nat → Prop} {B : Nat} {v : Value} {vs : List Value} {l : List (List Int)} (ho : V.Own H B 22 1 v vs) (ha : All2 (fun u xs => Ints H0 5 .u8 u xs) vs l) (x : Ext H0 H) (hF : ∀ g, F g → H0.size ≤ g) (hB : ∀ g, F g → g < B) : AwL H F H.size v vs l :=
  ⟨ho.sl, .inr fun g hg => ⟨fun e => by have := hB g e; have := (ho.blk hg).1; omega, (ho.blk hg).2.1⟩, ha.mono fun _ _ h => aw_of h x hF x.size⟩
theorem take_min (hd : List Int) : hd.take (min hd.length 1024) = hd.take 1024 := by
  rw [← List.take_take, List.take_of_length_le (l := hd.take 1024) (by simp; omega)]
theorem clipL_facts {l : List (List Int)} (hb : ∀ x ∈ l, Byt x) : (clipL l).length ≤ 40 ∧ (∀ x ∈ clipL l, x.length ≤ 1024) ∧ ∀ x ∈ clipL l, Byt x := by
  unfold clipL
  refine ⟨by simp; omega, fun x hx => ?_, fun x hx => ?_⟩
  · obtain ⟨y, hy, rfl⟩ := List.mem_map.1 hx
    simp; omega
  · obtain ⟨y, hy, rfl⟩ := List.mem_map.1 hx
    exact fun c hc => hb y (List.mem_of_mem_take hy) c (List.mem_of_mem_take hc)
/-- head[:min(len(head), MaxPayload)]. -/
theorem head_cut {H : Heap} {a : Option Addr} {cap : Nat} {hd : List Int} (h : Ints H 5 .u8 (.slice a hd.length cap) hd) : Ints H 5 .u8 (.slice a (min hd.length 1024) cap) (hd.take 1024) := by
  have := ints_take h (m := min hd.length 1024) (by omega)
  rw [take_min] at this
  exact this
theorem Aw.less {H : Heap} {F G : Nat → Prop} {K : Nat} {u : Value} {p : List Int} (h : Aw H G K u p) (hF : ∀ g, F g → G g) : Aw H F K u p := ⟨h.1, h.2.imp id fun q g hg => ⟨fun e => (q g hg).1 (hF g e), (q g hg).2⟩⟩
theorem AwL.less {H : Heap} {F G : Nat → Prop} {K : Nat} {v : Value} {vs : List Value} {l : List (List Int)} (h : AwL H G K v vs l) (hF : ∀ g, F g → G g) : AwL H F K v vs l :=
  ⟨h.sl, h.aw.imp id fun q g hg => ⟨fun e => (q g hg).1 (hF g e), (q g hg).2⟩, h.all.mono fun _ _ q => q.less hF⟩
theorem AwL.up {H : Heap} {F : Nat → Prop} {K K' : Nat} {v : Value} {vs : List Value} {l : List (List Int)} (h : AwL H F K v vs l) (hK : K ≤ K') : AwL H F K' v vs l :=
  ⟨h.sl, h.aw.imp id fun q g hg => ⟨(q g hg).1, by have := (q g hg).2; omega⟩, h.all.mono fun _ _ q => ⟨q.1, q.2.imp id fun q g hg => ⟨(q g hg).1, by have := (q g hg).2; omega⟩⟩⟩
end Go.Proofs.YtgpoldjpmcoppaaDoor
