/- The name of a generation, by the library contract of strconv.Itoa; both packages name alike. -/
import Derived.Test.YtbdclcdoiabapaaDoorVDec
import Derived.Test.YtbdclcdoiabapaaDoorVShelf
import Derived.Lib.ItoaLen
set_option linter.unusedSimpArgs false
set_option linter.unusedVariables false
namespace Go.Proofs.YtbdclcdoiabapaaDoor
open Go Go.V
-- 23: strconv.Itoa
-- 8: pith/ckpt.Name
-- 9: pith/pithref18.Name

/-- The library's table of powers of ten lies on the heap. -/
def Tab (H : Heap) : Prop := ∀ w : World, w.heap = H → Lib.TabIs Tryd.prog w "internal/strconv.uint64pow10" .u64 Lib.pow10Tab
theorem Tab.ext {H H' : Heap} (h : Tab H) (hx : Ext H H') : Tab H' := by
  intro w hw
  have h' := h { w with heap := H } rfl
  unfold Lib.TabIs World.var? at h' ⊢
  cases hg : Tryd.prog.globalNamed "internal/strconv.uint64pow10" with
  | none => rw [hg] at h'; exact h'
  | some g =>
    rw [hg] at h'
    simp only [Option.bind_some] at h' ⊢
    rw [hw]
    cases hk : H[g]? with
    | none => rw [hk] at h'; cases h'
    | some o =>
      rw [hx.get g (Array.getElem?_eq_some_iff.1 hk).1]
      exact h'

theorem itoa_len {n : Int} (h0 : -9223372036854775808 ≤ n) (h1 : n ≤ 9223372036854775807) : (Lib.itoa n).length ≤ 21 := by
  unfold Lib.itoa
  split
  · have := Lib.nDigits_le20 n.natAbs (by omega)
    simp [Lib.decDigits_length]
    omega
  · have := Lib.nDigits_le20 n.toNat (by omega)
    rw [Lib.decDigits_length]
    omega

theorem F23 (n : Int) (H : Heap) (ht : Tab H) (h0 : -9223372036854775808 ≤ n) (h1 : n ≤ 9223372036854775807) :
    Fun Tryd.prog 23 #[.int .i64 n] H (fun r H' => r = .string ⟨(Lib.itoa n).toArray⟩ ∧ Ext H H') := by
  intro w hw
  refine (Tryd.strconv_Itoa n h0 h1 w (ht w hw)).mono ?_
  rintro e w' ⟨rfl, k, os, rfl⟩
  refine ⟨_, rfl, ⟨rfl, rfl, rfl⟩, rfl, ?_⟩
  subst hw
  exact ⟨by simp [Sort.grow, World.drewN], fun b hb => by simp [Sort.grow, World.drewN, Array.getElem?_append, hb]⟩

/-- The name of a generation. -/
def nameS (n : Int) : ByteArray := ⟨#[99, 107, 112, 116, 46]⟩ ++ ⟨(Lib.itoa n).toArray⟩
theorem F8 (n : Int) (H : Heap) (ht : Tab H) (h0 : -9223372036854775808 ≤ n) (h1 : n ≤ 9223372036854775807) :
    Fun Tryd.prog 8 #[.int .i64 n] H (fun r H' => r = .string (nameS n) ∧ Ext H H') := by
  refine fun_of mixed (args := [_]) Tryd.func8 Tryd.ntmps8 b8 r8 rfl ?_
  simp only [go_sem, ↓reduceIte, Nat.reduceEqDiff, Nat.reduceLeDiff, Nat.reduceAdd, Nat.reduceMul, Nat.reduceSub, Nat.reduceBEq, Nat.reduceGT, Nat.reduceLT, Int.reduceLE, Int.reduceLT, Int.reduceNeg, reduceCtorEq]
  refine FunI.by (F23 n H ht h0 h1) ?_
  rintro _ H1 ⟨rfl, hx⟩
  simp only [go_sem, ↓reduceIte, Nat.reduceEqDiff, Nat.reduceLeDiff, Nat.reduceAdd, Nat.reduceMul, Nat.reduceSub, Nat.reduceBEq, Nat.reduceGT, Nat.reduceLT, Int.reduceLE, Int.reduceLT, Int.reduceNeg, reduceCtorEq]
  refine ⟨?_, rfl, hx⟩
  have := itoa_len h0 h1
  show 5 + (Lib.itoa n).length ≤ _
  omega
theorem F9 (n : Int) (H : Heap) (ht : Tab H) (h0 : -9223372036854775808 ≤ n) (h1 : n ≤ 9223372036854775807) :
    Fun Tryd.prog 9 #[.int .i64 n] H (fun r H' => r = .string (nameS n) ∧ Ext H H') := by
  refine fun_of mixed (args := [_]) Tryd.func9 Tryd.ntmps9 b9 r9 rfl ?_
  simp only [go_sem, ↓reduceIte, Nat.reduceEqDiff, Nat.reduceLeDiff, Nat.reduceAdd, Nat.reduceMul, Nat.reduceSub, Nat.reduceBEq, Nat.reduceGT, Nat.reduceLT, Int.reduceLE, Int.reduceLT, Int.reduceNeg, reduceCtorEq]
  refine FunI.by (F23 n H ht h0 h1) ?_
  rintro _ H1 ⟨rfl, hx⟩
  simp only [go_sem, ↓reduceIte, Nat.reduceEqDiff, Nat.reduceLeDiff, Nat.reduceAdd, Nat.reduceMul, Nat.reduceSub, Nat.reduceBEq, Nat.reduceGT, Nat.reduceLT, Int.reduceLE, Int.reduceLT, Int.reduceNeg, reduceCtorEq]
  refine ⟨?_, rfl, hx⟩
  have := itoa_len h0 h1
  show 5 + (Lib.itoa n).length ≤ _
  omega
end Go.Proofs.YtbdclcdoiabapaaDoor
