/- The law FsTrue, over heaps. -/
import Derived.Test.YtmkheogjnlmkdaaVFlF
import Derived.Test.YtmkheogjnlmkdaaVFlQ
import Derived.Test.YtmkheogjnlmkdaaVCodeL
set_option linter.unusedSimpArgs false
set_option linter.unusedVariables false
set_option maxRecDepth 20000
namespace Go.V
open Go
def Out (F : Nat → Prop) (H : Heap) (g : Nat) : Prop := g < H.size ∧ ¬ F g
theorem Out.ch {F F' : Nat → Prop} {H H' : Heap} (c : Ch F F' H H') : ∀ g, Out F H g → Out F' H' g := fun g h => ⟨Nat.lt_of_lt_of_le h.1 c.size, fun e => by
  rcases c.old g e with e | e
  · exact h.2 e
  · have := h.1; omega⟩
theorem Out.ext {F : Nat → Prop} {H H' : Heap} (x : Ext H H') : ∀ g, Out F H g → Out F H' g := fun g h => ⟨x.lt h.1, h.2⟩
theorem RecN.ch {α : Type} {R : RecK α} {H H' : Heap} {F F' : Nat → Prop} {e eb : Nat} {v : Value} {L : List α} (h : RecN R H (Out F H) e eb v L) (c : Ch F F' H H') : RecN R H' (Out F' H') e eb v L :=
  h.keep c.size (fun g hg hl => c.get g hl hg.2) (Out.ch c)
theorem RecN.extO {α : Type} {R : RecK α} {H H' : Heap} {F : Nat → Prop} {e eb : Nat} {v : Value} {L : List α} (h : RecN R H (Out F H) e eb v L) (x : Ext H H') : RecN R H' (Out F H') e eb v L :=
  (h.ext x).more (Out.ext x)
/-- What was out or is new is out. -/
theorem Gr.out {F : Nat → Prop} {H H' : Heap} (hF : ∀ g, F g → g < H.size) (x : Ext H H') : ∀ g, Gr (Out F H) H H' g → Out F H' g := fun g hg => by
  rcases hg with hg | hg
  · exact Out.ext x g hg
  · exact ⟨hg.2, fun e => by have := hF g e; omega⟩
end Go.V
namespace Go.Proofs.Ytmkheogjnlmkdaa
open Go Go.V
-- 3: pith/pithlaw8.FsTrue
-- 11: pith/pithlaw8.first
-- 12: pith/fs.New
-- 13: (*pith/fs.FS).Held
-- 14: pith/pithlaw8.does
-- 16: pith/pithlaw8.name
-- 15: pith/pithlaw8.has
-- 17: pith/pithlaw8.plain
-- 18: pith/pithlaw8.bytes
-- 19: pith/pithlaw8.says
-- 3: int
-- 30: pithlaw8.Step
-- 22: []pithlaw8.Step
-- 44: pith/api.File
abbrev Steps (H : Heap) (v : Value) (os : List Stp) : Prop := Sl H 30 5 v (os.flatMap stc)
theorem steps_form {H : Heap} {v : Value} {os : List Stp} (h : Steps H v os) : ∃ a cap, v = .slice a os.length cap := by
  obtain ⟨a, len, cap, rfl⟩ := Sl.form h
  have := Sl.length h
  rw [fl_len stc_len] at this
  exact ⟨a, cap, by rw [Nat.eq_of_mul_eq_mul_right (by decide : 0 < 5) this]⟩
theorem steps_at {H : Heap} {a : Option Addr} {len cap : Nat} {os : List Stp} (h : Steps H (.slice a len cap) os) {i : Nat} {t : Stp} (hi : os[i]? = some t) :
    ∃ b o, a = some ⟨b, o, none⟩ ∧ hget H b (o + i * 5) = some (.int .i64 t.kind) ∧ hget H b (o + i * 5 + 1) = some (.int .i64 t.i) ∧ hget H b (o + i * 5 + 2) = some (.int .i64 t.k) ∧ hget H b (o + i * 5 + 3) = some (.int .i64 t.many) ∧ hget H b (o + i * 5 + 4) = some (.int .u8 t.fill) := by
  have hl := Sl.length h
  rw [fl_len stc_len] at hl
  have hlen := Nat.eq_of_mul_eq_mul_right (by decide : 0 < 5) hl
  have hlt := (List.getElem?_eq_some_iff.1 hi).1
  obtain ⟨b, o, rfl⟩ := Sl.at h (by omega)
  have g : ∀ j, j < 5 → hget H b (o + i * 5 + j) = (stc t)[j]? := fun j hj => by
    rw [Nat.add_assoc, Sl.get h (i := i * 5 + j) (by omega)]
    exact fl_get stc_len os i j t hi hj
  exact ⟨b, o, rfl, g 0 (by decide), g 1 (by decide), g 2 (by decide), g 3 (by decide), g 4 (by decide)⟩
theorem has_there {L : List Fl} {n : Nm} : decide (0 ≤ hasS L n) = decide (lkp L n ≠ none) := by
  unfold hasS
  cases h : hasN L n with
  | none => rw [hasN_none.1 h]; simp
  | some i => obtain ⟨d, _, h2⟩ := hasN_some h; rw [h2]; simp
set_option maxHeartbeats 6400000 in
theorem F3 (room : Int) (v : Value) (os : List Stp) (H : Heap) (hv : Steps H v os) (hf : ∀ t ∈ os, 0 ≤ t.fill ∧ t.fill < 256) :
    Fun Try.prog 3 #[.int .i64 room, v] H (fun r H' => r = .bool true ∧ Ext H H') := by
  obtain ⟨a, c, rfl⟩ := steps_form hv
  refine fun_of mixed (args := [_, _]) Try.func3 Try.ntmps3 b3 r3 rfl ?_
  simp only [go_sem, ↓reduceIte, Nat.reduceEqDiff, Nat.reduceLeDiff, Nat.reduceAdd, Nat.reduceMul, Nat.reduceSub, Nat.reduceBEq, Nat.reduceGT, Nat.reduceLT, Int.reduceLE, Int.reduceLT, Int.reduceNeg, reduceCtorEq]
  refine FunI.by (F11 H) ?_
  rintro _ H1 ⟨rfl, x1⟩
  simp only [go_sem, ↓reduceIte, Nat.reduceEqDiff, Nat.reduceLeDiff, Nat.reduceAdd, Nat.reduceMul, Nat.reduceSub, Nat.reduceBEq, Nat.reduceGT, Nat.reduceLT, Int.reduceLE, Int.reduceLT, Int.reduceNeg, reduceCtorEq]
  refine FunI.by (F12 room H1 trivial) ?_
  rintro f H2 ⟨x2, h⟩
  have x12 := x1.trans (x2.mono x1.size)
  by_cases hr : room < 0 ∨ 2147483647 < room
  · rw [if_pos hr] at h
    subst h
    rcases hr with hr | hr
    · simp only [go_sem, ↓reduceIte, Nat.reduceEqDiff, Nat.reduceLeDiff, Nat.reduceAdd, Nat.reduceMul, Nat.reduceSub, Nat.reduceBEq, Nat.reduceGT, Nat.reduceLT, Int.reduceLE, Int.reduceLT, Int.reduceNeg, reduceCtorEq, hr]
      exact x12
    · have hr2 : ¬ room < 0 := by omega
      have hr3 : (2147483647 : Int) < room := hr
      simp only [go_sem, ↓reduceIte, Nat.reduceEqDiff, Nat.reduceLeDiff, Nat.reduceAdd, Nat.reduceMul, Nat.reduceSub, Nat.reduceBEq, Nat.reduceGT, Nat.reduceLT, Int.reduceLE, Int.reduceLT, Int.reduceNeg, reduceCtorEq, hr2, hr3]
      exact x12
  rw [if_neg hr] at h
  obtain ⟨b, F, rfl, h2, n2⟩ := h
  have N2 : Newly H H2 F := ⟨x12, fun g hg => Nat.le_trans x1.size (n2 g hg)⟩
  simp only [go_sem, ↓reduceIte, Nat.reduceEqDiff, Nat.reduceLeDiff, Nat.reduceAdd, Nat.reduceMul, Nat.reduceSub, Nat.reduceBEq, Nat.reduceGT, Nat.reduceLT, Int.reduceLE, Int.reduceLT, Int.reduceNeg, reduceCtorEq, ptrOf]
  refine LoopI.by mixed (fun ρ H' => ∃ (i : Nat) (s : St) (F : Nat → Prop) (L : List Fl) (fv : Value), ρ 0 = .int .i64 room ∧ ρ 1 = .slice a os.length c ∧ ρ 6 = ptrOf b ∧ ρ 7 = fv ∧ ρ 8 = .int .i64 i ∧ i ≤ os.length ∧ i ≤ 300 ∧
    FsH H' F b s ∧ Ok s ∧ s.fuse = 0 ∧ s.off = false ∧ s.room = room ∧ s.ops ≤ i ∧ FilesN H' (Out F H') fv L ∧ Nd L ∧ viewS s = lkp L ∧ L.length ≤ i ∧ (∀ x ∈ L, Byt x.2 ∧ x.2.length ≤ 50 * i) ∧ Newly H H' F) (fun ρ _ => os.length - (iof (ρ 8)).toNat) ?_ ?_
  · exact ⟨0, freshS room, F, [], _, by simp only [go_sem, ↓reduceIte, Nat.reduceEqDiff, Nat.reduceLeDiff, Nat.reduceAdd, Nat.reduceMul, Nat.reduceSub, Nat.reduceBEq, Nat.reduceGT, Nat.reduceLT, Int.reduceLE, Int.reduceLT, Int.reduceNeg, reduceCtorEq], by simp only [go_sem, ↓reduceIte, Nat.reduceEqDiff, Nat.reduceLeDiff, Nat.reduceAdd, Nat.reduceMul, Nat.reduceSub, Nat.reduceBEq, Nat.reduceGT, Nat.reduceLT, Int.reduceLE, Int.reduceLT, Int.reduceNeg, reduceCtorEq], by simp only [go_sem, ↓reduceIte, Nat.reduceEqDiff, Nat.reduceLeDiff, Nat.reduceAdd, Nat.reduceMul, Nat.reduceSub, Nat.reduceBEq, Nat.reduceGT, Nat.reduceLT, Int.reduceLE, Int.reduceLT, Int.reduceNeg, reduceCtorEq, ptrOf], by simp only [go_sem, ↓reduceIte, Nat.reduceEqDiff, Nat.reduceLeDiff, Nat.reduceAdd, Nat.reduceMul, Nat.reduceSub, Nat.reduceBEq, Nat.reduceGT, Nat.reduceLT, Int.reduceLE, Int.reduceLT, Int.reduceNeg, reduceCtorEq] <;> rfl, by simp only [go_sem, ↓reduceIte, Nat.reduceEqDiff, Nat.reduceLeDiff, Nat.reduceAdd, Nat.reduceMul, Nat.reduceSub, Nat.reduceBEq, Nat.reduceGT, Nat.reduceLT, Int.reduceLE, Int.reduceLT, Int.reduceNeg, reduceCtorEq] <;> rfl, by omega, by omega,
      h2, fresh_ok (by omega), rfl, rfl, rfl, Int.le_refl _, RecN.nil, List.nodup_nil, rfl, Nat.le_refl _, by simp, N2⟩
  clear h2 N2 n2 x12 x1 x2
  rintro ρ H' ⟨i, s, F, L, fv, e0, e1, e6, e7, e8, hi, hi3, hfs, ok, hfu, hoff, hroom, hops, hfl, nd, hview, hL, hLb, nw⟩
  by_cases hlt : i < os.length ∧ i < 300
  · obtain ⟨hl1, hl2⟩ := hlt
    obtain ⟨t, hti⟩ : ∃ t, os[i]? = some t := ⟨_, List.getElem?_eq_getElem hl1⟩
    have htf := hf t (List.mem_of_getElem? hti)
    have hst : ∀ {G : Heap}, Ext H G → Steps G (.slice a os.length c) os := fun x => Sl.ext hv x
    obtain ⟨g, o, rfl, _⟩ := steps_at (hst nw.1) hti
    have sg : ∀ {G : Heap}, Ext H G → hget G g (o + i * 5) = some (.int .i64 t.kind) ∧ hget G g (o + i * 5 + 1) = some (.int .i64 t.i) ∧ hget G g (o + i * 5 + 2) = some (.int .i64 t.k) ∧ hget G g (o + i * 5 + 3) = some (.int .i64 t.many) ∧ hget G g (o + i * 5 + 4) = some (.int .u8 t.fill) := fun x => by
      obtain ⟨g', o', e, h⟩ := steps_at (hst x) hti
      cases e
      exact h
    obtain ⟨k0, k1, k2, k3, k4⟩ := sg nw.1
    have c0 : (0 : Int) ≤ i := by omega
    have c1 : (i : Int) < os.length := by omega
    have c2 : (i : Int) < 300 := by omega
    have w2 : IntKind.i64.wrap ((i : Int) + 1) = ((i + 1 : Nat) : Int) := by rw [w64_id (by omega) (by omega)]; omega
    have hsum := ok.sum
    have hnn := heldS_nonneg s
    have hor := ok.room
    obtain ⟨mb, lb, hb, pv, dv, p⟩ := hfs
    simp only [go_sem, ↓reduceIte, Nat.reduceEqDiff, Nat.reduceLeDiff, Nat.reduceAdd, Nat.reduceMul, Nat.reduceSub, Nat.reduceBEq, Nat.reduceGT, Nat.reduceLT, Int.reduceLE, Int.reduceLT, Int.reduceNeg, reduceCtorEq, c3_L0, e0, e1, e6, e7, e8, c0, c1, c2, Int.toNat_natCast]
    refine FunI.by (F13 p (by omega)) ?_
    rintro _ H3 ⟨rfl, x3⟩
    have nw3 := nw.ext x3
    obtain ⟨k0, k1, k2, k3, k4⟩ := sg nw3.1
    simp only [go_sem, ↓reduceIte, Nat.reduceEqDiff, Nat.reduceLeDiff, Nat.reduceAdd, Nat.reduceMul, Nat.reduceSub, Nat.reduceBEq, Nat.reduceGT, Nat.reduceLT, Int.reduceLE, Int.reduceLT, Int.reduceNeg, reduceCtorEq, e0, e1, e6, e7, e8, c0, c1, c2, Int.toNat_natCast, hgets5, k0, k1, k2, k3, k4, Option.bind_some]
    refine FunI.by (F14 ⟨_, _, _, _, _, p.ext x3⟩ ok (by omega) t htf) ?_
    rintro _ H4 ⟨x, hx, rfl, F4, h4, ch4⟩
    have nw4 := nw3.ch ch4
    have fl4 := (hfl.extO x3).ch ch4
    obtain ⟨k0, k1, k2, k3, k4⟩ := sg nw4.1
    simp only [go_sem, ↓reduceIte, Nat.reduceEqDiff, Nat.reduceLeDiff, Nat.reduceAdd, Nat.reduceMul, Nat.reduceSub, Nat.reduceBEq, Nat.reduceGT, Nat.reduceLT, Int.reduceLE, Int.reduceLT, Int.reduceNeg, reduceCtorEq, e0, e1, e6, e7, e8, c0, c1, c2, Int.toNat_natCast, k1]
    refine FunI.by (F16 t.i _) ?_
    rintro _ H5 ⟨rfl, x5⟩
    have h5 := h4.ext x5
    have nw5 := nw4.ext x5
    have fl5 := fl4.extO x5
    simp only [go_sem, ↓reduceIte, Nat.reduceEqDiff, Nat.reduceLeDiff, Nat.reduceAdd, Nat.reduceMul, Nat.reduceSub, Nat.reduceBEq, Nat.reduceGT, Nat.reduceLT, Int.reduceLE, Int.reduceLT, Int.reduceNeg, reduceCtorEq, e7]
    refine FunI.by (F15 fl5 (by omega) (nameS t.i)) ?_
    rintro _ _ ⟨rfl, rfl⟩
    have on := does_on hfu hoff t x
    have op := does_ops s t x
    have hm : t.kind ≠ 6 → heldS s ≤ heldS (doesS s t x).1 := does_held ok t hx
    have ok4 := does_ok ok t hx
    have oL : ∀ g, F4 g → g < H5.size := fun g hg => by obtain ⟨_, _, _, _, _, q⟩ := h5; exact q.lt g hg
    obtain ⟨k0, k1, k2, k3, k4⟩ := sg nw5.1
    rcases does_view ok hoff t hx with ⟨he, hvw⟩ | ⟨hs, he0, he81, h80 | h82 | h83⟩
    case' inl =>
      have he : (doesS s t x).2 = 0 := by rcases he with he | he; exact he; exact absurd he on.2.2
      simp only [go_sem, ↓reduceIte, Nat.reduceEqDiff, Nat.reduceLeDiff, Nat.reduceAdd, Nat.reduceMul, Nat.reduceSub, Nat.reduceBEq, Nat.reduceGT, Nat.reduceLT, Int.reduceLE, Int.reduceLT, Int.reduceNeg, reduceCtorEq, he, e0, e1, e6, e7, e8, c0, c1, c2, Int.toNat_natCast, hgets5, k0, k1, k2, k3, k4, Option.bind_some]
      refine FunI.by (F17 fl5 (fun g hg => hg.1) (by omega) (fun y hy => by have := (hLb y hy).2; omega) t htf) ?_
      rintro fv' H6 ⟨fl6, x6⟩
      have lp := look_plain nd t
      have ll := plain_len (s := t) hLb
      have fl7 : FilesN H6 (Out F4 H6) fv' (plainS L t) := fl6.more (Gr.out oL x6)
      have h7 := h5.ext x6
      have nw7 := nw5.ext x6
      have hv7 : viewS (doesS s t x).1 = lkp (plainS L t) := by rw [hvw, hview, lp.1]
      have nd7 := lp.2
      have hl7 : (plainS L t).length ≤ i + 1 := by omega
      have hb7 : ∀ y ∈ plainS L t, Byt y.2 ∧ y.2.length ≤ 50 * (i + 1) := fun y hy => ⟨(ll.1 y hy).1, by have := (ll.1 y hy).2; omega⟩
      generalize plainS L t = L7 at *
      simp only [go_sem, ↓reduceIte, Nat.reduceEqDiff, Nat.reduceLeDiff, Nat.reduceAdd, Nat.reduceMul, Nat.reduceSub, Nat.reduceBEq, Nat.reduceGT, Nat.reduceLT, Int.reduceLE, Int.reduceLT, Int.reduceNeg, reduceCtorEq, e0, e1, e6, e7, e8]
    case' inr.inl =>
      obtain ⟨he, hk, hne, hrm⟩ := h80
      have hth : (0 : Int) ≤ hasS L (nameS t.i) := by
        rw [hview] at hne
        have := has_there (L := L) (n := nameS t.i)
        rw [decide_eq_true hne] at this
        exact of_decide_eq_true this
      have hbl := bytS_le t
      rw [hroom] at hrm
      have hrg := ok.room
      have w3 : IntKind.i64.wrap (heldS s + ((bytS t).length : Int)) = heldS s + ((bytS t).length : Int) := w64_id (by omega) (by omega)
      have hno : ¬ heldS s + ((bytS t).length : Int) ≤ room := by omega
      have key := F18 t H5 htf
      rw [hk] at key
      rw [hk] at k0
      simp only [go_sem, ↓reduceIte, Nat.reduceEqDiff, Nat.reduceLeDiff, Nat.reduceAdd, Nat.reduceMul, Nat.reduceSub, Nat.reduceBEq, Nat.reduceGT, Nat.reduceLT, Int.reduceLE, Int.reduceLT, Int.reduceNeg, reduceCtorEq, he, e0, e1, e6, e7, e8, c0, c1, c2, Int.toNat_natCast, hgets5, k0, k1, k2, k3, k4, Option.bind_some, hth, Int.reduceEq]
      refine FunI.by key ?_
      rintro fv0 H6 ⟨o6, x6⟩
      obtain ⟨a6, l6, cc6, rfl⟩ := Sl.form o6.sl
      have hl6 : l6 = (bytS t).length := by have := Sl.length o6.sl; simpa using this.symm
      subst hl6
      have fl7 : FilesN H6 (Out F4 H6) fv L := fl5.extO x6
      have h7 := h5.ext x6
      have nw7 := nw5.ext x6
      have hv7 : viewS (doesS s t x).1 = lkp L := by rw [hs, hview]
      have nd7 := nd
      have hl7 : L.length ≤ i + 1 := by omega
      have hb7 : ∀ y ∈ L, Byt y.2 ∧ y.2.length ≤ 50 * (i + 1) := fun y hy => ⟨(hLb y hy).1, by have := (hLb y hy).2; omega⟩
      simp only [go_sem, ↓reduceIte, Nat.reduceEqDiff, Nat.reduceLeDiff, Nat.reduceAdd, Nat.reduceMul, Nat.reduceSub, Nat.reduceBEq, Nat.reduceGT, Nat.reduceLT, Int.reduceLE, Int.reduceLT, Int.reduceNeg, reduceCtorEq, e0, e1, e6, e7, e8, w3, hno]
    case' inr.inr.inl =>
      obtain ⟨he, hne⟩ := h82
      have hth : ¬ (0 : Int) ≤ hasS L (nameS t.i) := by
        rw [hview] at hne
        unfold hasS
        rw [hasN_none.2 hne]
        decide
      simp only [go_sem, ↓reduceIte, Nat.reduceEqDiff, Nat.reduceLeDiff, Nat.reduceAdd, Nat.reduceMul, Nat.reduceSub, Nat.reduceBEq, Nat.reduceGT, Nat.reduceLT, Int.reduceLE, Int.reduceLT, Int.reduceNeg, reduceCtorEq, he, e0, e1, e6, e7, e8, c0, c1, c2, Int.toNat_natCast, hgets5, k0, k1, k2, k3, k4, Option.bind_some, hth, Int.reduceEq]
      have fl7 : FilesN H5 (Out F4 H5) fv L := fl5
      have h7 := h5
      have nw7 := nw5
      have hv7 : viewS (doesS s t x).1 = lkp L := by rw [hs, hview]
      have nd7 := nd
      have hl7 : L.length ≤ i + 1 := by omega
      have hb7 : ∀ y ∈ L, Byt y.2 ∧ y.2.length ≤ 50 * (i + 1) := fun y hy => ⟨(hLb y hy).1, by have := (hLb y hy).2; omega⟩
    case' inr.inr.inr =>
      obtain ⟨he, hne, hk⟩ := h83
      have hth : (0 : Int) ≤ hasS L (nameS t.i) := by
        rw [hview] at hne
        have := has_there (L := L) (n := nameS t.i)
        rw [decide_eq_true hne] at this
        exact of_decide_eq_true this
      rw [hk] at k0
      simp only [go_sem, ↓reduceIte, Nat.reduceEqDiff, Nat.reduceLeDiff, Nat.reduceAdd, Nat.reduceMul, Nat.reduceSub, Nat.reduceBEq, Nat.reduceGT, Nat.reduceLT, Int.reduceLE, Int.reduceLT, Int.reduceNeg, reduceCtorEq, he, e0, e1, e6, e7, e8, c0, c1, c2, Int.toNat_natCast, hgets5, k0, k1, k2, k3, k4, Option.bind_some, hth, Int.reduceEq]
      have fl7 : FilesN H5 (Out F4 H5) fv L := fl5
      have h7 := h5
      have nw7 := nw5
      have hv7 : viewS (doesS s t x).1 = lkp L := by rw [hs, hview]
      have nd7 := nd
      have hl7 : L.length ≤ i + 1 := by omega
      have hb7 : ∀ y ∈ L, Byt y.2 ∧ y.2.length ≤ 50 * (i + 1) := fun y hy => ⟨(hLb y hy).1, by have := (hLb y hy).2; omega⟩
    all_goals
      refine FunI.by (F19 h7 ok4 (by omega) on.2.1 fl7 nd7 hv7 (fun y hy => ⟨(hb7 y hy).1, by have := (hb7 y hy).2; omega⟩) (by omega)) ?_
      rintro _ H8 ⟨rfl, x8⟩
      have nw8 := nw7.ext x8
      have fl8 := fl7.extO x8
      have h8 := h7.ext x8
      have hsum4 := ok4.sum
      rw [op.1, hroom] at hsum4
      have hg : ¬ room < heldS (doesS s t x).1 := by omega
      have hok4 := ok4.room
      rw [op.1] at hok4
      obtain ⟨_, _, _, _, _, p8⟩ := h8
      obtain ⟨k0, k1, k2, k3, k4⟩ := sg nw8.1
      simp only [go_sem, ↓reduceIte, Nat.reduceEqDiff, Nat.reduceLeDiff, Nat.reduceAdd, Nat.reduceMul, Nat.reduceSub, Nat.reduceBEq, Nat.reduceGT, Nat.reduceLT, Int.reduceLE, Int.reduceLT, Int.reduceNeg, reduceCtorEq, e0, e1, e6, e7, e8]
      refine FunI.by (F13 p8 (by omega)) ?_
      rintro _ H9 ⟨rfl, x9⟩
      simp only [go_sem, ↓reduceIte, Nat.reduceEqDiff, Nat.reduceLeDiff, Nat.reduceAdd, Nat.reduceMul, Nat.reduceSub, Nat.reduceBEq, Nat.reduceGT, Nat.reduceLT, Int.reduceLE, Int.reduceLT, Int.reduceNeg, reduceCtorEq, e0, e1, e6, e7, e8, hg]
      refine FunI.by (F13 (p8.ext x9) (by omega)) ?_
      rintro _ H10 ⟨rfl, x10⟩
      have nw10 := (nw8.ext x9).ext x10
      have fl10 := (fl8.extO x9).extO x10
      obtain ⟨k0, k1, k2, k3, k4⟩ := sg nw10.1
      have fin : ∀ (ρ : Env), ρ 0 = .int .i64 room → ρ 1 = .slice (some ⟨g, o, none⟩) os.length c → ρ 6 = ptrOf b → ρ 8 = .int .i64 ((i + 1 : Nat) : Int) → FilesN H10 (Out F4 H10) (ρ 7) _ → _ := fun ρ r0 r1 r6 r8 r7 =>
        (⟨i + 1, (doesS s t x).1, F4, _, _, r0, r1, r6, rfl, r8, by omega, by omega, ⟨_, _, _, _, _, (p8.ext x9).ext x10⟩, ok4, on.1, on.2.1, by rw [op.1, hroom], by omega, r7, nd7, hv7, hl7, hb7, nw10⟩ : ∃ (i : Nat) (s : St) (F : Nat → Prop) (L : List Fl) (fv : Value), ρ 0 = .int .i64 room ∧ ρ 1 = .slice (some ⟨g, o, none⟩) os.length c ∧ ρ 6 = ptrOf b ∧ ρ 7 = fv ∧ ρ 8 = .int .i64 i ∧ i ≤ os.length ∧ i ≤ 300 ∧
    FsH H10 F b s ∧ Ok s ∧ s.fuse = 0 ∧ s.off = false ∧ s.room = room ∧ s.ops ≤ i ∧ FilesN H10 (Out F H10) fv L ∧ Nd L ∧ viewS s = lkp L ∧ L.length ≤ i ∧ (∀ x ∈ L, Byt x.2 ∧ x.2.length ≤ 50 * i) ∧ Newly H H10 F)
      by_cases hlt : heldS (doesS s t x).1 < heldS s
      · have h6 : t.kind = 6 := Classical.byContradiction fun h => by have := hm h; omega
        rw [h6] at k0
        simp only [go_sem, ↓reduceIte, Nat.reduceEqDiff, Nat.reduceLeDiff, Nat.reduceAdd, Nat.reduceMul, Nat.reduceSub, Nat.reduceBEq, Nat.reduceGT, Nat.reduceLT, Int.reduceLE, Int.reduceLT, Int.reduceNeg, reduceCtorEq, e0, e1, e6, e7, e8, hlt, c0, c1, Int.toNat_natCast, k0, Int.reduceEq, w2]
        refine ⟨Hold.mk (fin _ (by simp only [go_sem, ↓reduceIte, Nat.reduceEqDiff, Nat.reduceLeDiff, Nat.reduceAdd, Nat.reduceMul, Nat.reduceSub, Nat.reduceBEq, Nat.reduceGT, Nat.reduceLT, Int.reduceLE, Int.reduceLT, Int.reduceNeg, reduceCtorEq, e0]) (by simp only [go_sem, ↓reduceIte, Nat.reduceEqDiff, Nat.reduceLeDiff, Nat.reduceAdd, Nat.reduceMul, Nat.reduceSub, Nat.reduceBEq, Nat.reduceGT, Nat.reduceLT, Int.reduceLE, Int.reduceLT, Int.reduceNeg, reduceCtorEq, e1]) (by simp only [go_sem, ↓reduceIte, Nat.reduceEqDiff, Nat.reduceLeDiff, Nat.reduceAdd, Nat.reduceMul, Nat.reduceSub, Nat.reduceBEq, Nat.reduceGT, Nat.reduceLT, Int.reduceLE, Int.reduceLT, Int.reduceNeg, reduceCtorEq, e6]) (by simp only [go_sem, ↓reduceIte, Nat.reduceEqDiff, Nat.reduceLeDiff, Nat.reduceAdd, Nat.reduceMul, Nat.reduceSub, Nat.reduceBEq, Nat.reduceGT, Nat.reduceLT, Int.reduceLE, Int.reduceLT, Int.reduceNeg, reduceCtorEq]) (by simp only [go_sem, ↓reduceIte, Nat.reduceEqDiff, Nat.reduceLeDiff, Nat.reduceAdd, Nat.reduceMul, Nat.reduceSub, Nat.reduceBEq, Nat.reduceGT, Nat.reduceLT, Int.reduceLE, Int.reduceLT, Int.reduceNeg, reduceCtorEq, e7]; exact fl10)), by omega⟩
      · simp only [go_sem, ↓reduceIte, Nat.reduceEqDiff, Nat.reduceLeDiff, Nat.reduceAdd, Nat.reduceMul, Nat.reduceSub, Nat.reduceBEq, Nat.reduceGT, Nat.reduceLT, Int.reduceLE, Int.reduceLT, Int.reduceNeg, reduceCtorEq, e0, e1, e6, e7, e8, hlt, c0, c1, Int.toNat_natCast, k0, Int.reduceEq, w2]
        refine ⟨Hold.mk (fin _ (by simp only [go_sem, ↓reduceIte, Nat.reduceEqDiff, Nat.reduceLeDiff, Nat.reduceAdd, Nat.reduceMul, Nat.reduceSub, Nat.reduceBEq, Nat.reduceGT, Nat.reduceLT, Int.reduceLE, Int.reduceLT, Int.reduceNeg, reduceCtorEq, e0]) (by simp only [go_sem, ↓reduceIte, Nat.reduceEqDiff, Nat.reduceLeDiff, Nat.reduceAdd, Nat.reduceMul, Nat.reduceSub, Nat.reduceBEq, Nat.reduceGT, Nat.reduceLT, Int.reduceLE, Int.reduceLT, Int.reduceNeg, reduceCtorEq, e1]) (by simp only [go_sem, ↓reduceIte, Nat.reduceEqDiff, Nat.reduceLeDiff, Nat.reduceAdd, Nat.reduceMul, Nat.reduceSub, Nat.reduceBEq, Nat.reduceGT, Nat.reduceLT, Int.reduceLE, Int.reduceLT, Int.reduceNeg, reduceCtorEq, e6]) (by simp only [go_sem, ↓reduceIte, Nat.reduceEqDiff, Nat.reduceLeDiff, Nat.reduceAdd, Nat.reduceMul, Nat.reduceSub, Nat.reduceBEq, Nat.reduceGT, Nat.reduceLT, Int.reduceLE, Int.reduceLT, Int.reduceNeg, reduceCtorEq]) (by simp only [go_sem, ↓reduceIte, Nat.reduceEqDiff, Nat.reduceLeDiff, Nat.reduceAdd, Nat.reduceMul, Nat.reduceSub, Nat.reduceBEq, Nat.reduceGT, Nat.reduceLT, Int.reduceLE, Int.reduceLT, Int.reduceNeg, reduceCtorEq, e7]; exact fl10)), by omega⟩
  · by_cases hl1 : (i : Int) < os.length
    · have hl2 : ¬ (i : Int) < 300 := by omega
      simp only [go_sem, ↓reduceIte, Nat.reduceEqDiff, Nat.reduceLeDiff, Nat.reduceAdd, Nat.reduceMul, Nat.reduceSub, Nat.reduceBEq, Nat.reduceGT, Nat.reduceLT, Int.reduceLE, Int.reduceLT, Int.reduceNeg, reduceCtorEq, c3_L0, e0, e1, e6, e7, e8, hl1, hl2]
      exact nw.1
    · simp only [go_sem, ↓reduceIte, Nat.reduceEqDiff, Nat.reduceLeDiff, Nat.reduceAdd, Nat.reduceMul, Nat.reduceSub, Nat.reduceBEq, Nat.reduceGT, Nat.reduceLT, Int.reduceLE, Int.reduceLT, Int.reduceNeg, reduceCtorEq, c3_L0, e0, e1, e6, e7, e8, hl1]
      exact nw.1
end Go.Proofs.Ytmkheogjnlmkdaa
