/- (*runs.Merger).Next. -/
import Derived.Test.YtcgejfmbhpmjfaaVGive
set_option linter.unusedSimpArgs false
set_option linter.unusedVariables false
set_option maxRecDepth 20000
namespace Go.V
open Go
theorem Ch.widen {F F1 F' : Nat → Prop} {H H' : Heap} (h : Ch F1 F' H H') (hf : ∀ b, F1 b → F b) : Ch F F' H H' :=
  ⟨h.size, fun b hb => (h.old b hb).imp (hf b) id, fun b hb hn => h.get b hb fun e => hn (hf b e)⟩
theorem Ch.cell {F F' : Nat → Prop} {H H' : Heap} (h : Ch F F' H H') {b : Nat} {x : Obj} (hb : H[b]? = some x) (hn : ¬ F b) : H'[b]? = some x := by
  rw [h.get b (Array.getElem?_eq_some_iff.1 hb).1 hn]; exact hb
theorem Ch.hput {F F' : Nat → Prop} {H H' : Heap} (h : Ch F F' H H') {b o : Nat} {vs : List Value} (hb : H.size ≤ b) : Ch F F' H (V.hput H' b o vs) :=
  ⟨by rw [hput_size]; exact h.size, h.old, fun k hk hn => by rw [hput_other _ _ _ _ (by omega)]; exact h.get k hk hn⟩
end Go.V
namespace Go.Proofs.Ytcgejfmbhpmjfaa
open Go Go.V
-- 40: (*pith/runs.Merger).Next
-- 37: (*pith/runs.Merger).Wants
-- 66: (*pith/runs.heap[int]).pop
-- 63: (*pith/runs.heap[int]).push
-- 3: int
-- 63: []int
-- 24: pith/api.Pair
-- 22: []api.Pair
-- 86: runs.Merger
-- 88: runs.source
/-- Its own blocks stand already. -/
theorem MerH.tight {H : Heap} {F : Nat → Prop} {M Cb S : Nat} {lvs : List Value} {hv : Value} {ss : List Src} {hp : List Nat} (h : MerH H F M Cb S lvs hv ss hp) : MerH H (fun b => F b ∧ b < H.size) M Cb S lvs hv ss hp := by
  obtain ⟨l1, l2, l3⟩ := h.lt
  exact ⟨h.hM, h.hC, h.hS, h.hl, h.hh, h.dis, ⟨h.fM, l1⟩, ⟨h.fC, l2⟩, ⟨h.fS, l3⟩, fun i b hi hb => ⟨h.fl i b hi hb, ((h.hl i hi).blk hb).2.1⟩, fun b hb => ⟨h.fh b hb, (h.hh.blk hb).2.1⟩, h.k64⟩
theorem MS.val {ss : List Src} {hp : List Nat} (h : MS ss hp) : ∀ y ∈ hp, Valid ss y := fun y hy => (h.mem y).1 hy
theorem cell2 {H : Heap} {b : Nat} {z0 z1 x y : Value} {e : TypeId} (h : H[b]? = some (.cells #[z0, z1] e)) :
    hcan H b 0 2 ∧ (hput H b 0 [x, y])[b]? = some (.cells #[x, y] e) ∧ hget (hput H b 0 [x, y]) b 0 = some x ∧ hget (hput H b 0 [x, y]) b 1 = some y := by
  have h2 : (hput H b 0 [x, y])[b]? = some (.cells #[x, y] e) := by rw [hput_same h]; rfl
  exact ⟨hcan_of h (by simp), h2, by rw [hget_cells h2]; rfl, by rw [hget_cells h2]; rfl⟩
/-- x[1:], as the model answers it. -/
theorem Own2.tail {H : Heap} {B : Nat} {e : TypeId} {sz g o len cap : Nat} {vs : List Value} (hs : Own2 H B e sz (.slice (some ⟨g, o, none⟩) len cap) vs) (h1 : 1 ≤ len) :
    Own2 H B e sz (.slice (if cap = Int.toNat 1 then some ⟨g, o, none⟩ else some ⟨g, o + Int.toNat 1 * sz, none⟩) (len - Int.toNat 1) (cap - Int.toNat 1)) ((vs.drop (1 * sz)).take ((len - 1) * sz)) := by
  rw [show Int.toNat 1 = 1 from rfl]
  by_cases hc : cap = 1
  · rw [if_pos hc]
    rcases hs with ⟨h, _⟩ | ⟨g', o', len', cap', c, he, hB, hg, hlc, hcm, hcs, hl, ht⟩
    · cases h
    · cases he
      subst hc
      have : len = 1 := by omega
      subst this
      exact .inr ⟨g, o, 0, 0, c, rfl, hB, hg, Nat.le_refl _, Nat.zero_le _, by omega, by simp, fun i hi => by omega⟩
  · rw [if_neg hc]
    exact hs.sub h1 (Nat.le_refl _)
def totS (ss : List Src) : Nat := (ss.map fun s => s.l.length).sum
theorem sum_set : ∀ (l : List Nat) (i x : Nat), i < l.length → (l.set i x).sum + l.getD i 0 = l.sum + x
  | a :: l, 0, x, _ => by simp; omega
  | a :: l, i + 1, x, h => by
    have := sum_set l i x (by simpa using h)
    simp at *
    omega
theorem tot_drop1 {ss : List Src} {t : Nat} (ht : t < ss.length) (hn : (sg ss t).l ≠ []) : totS (drop1 ss t) < totS ss := by
  unfold totS drop1
  rw [List.map_set]
  have h := sum_set (ss.map fun s => s.l.length) t ((sg ss t).l.tail.length) (by simpa using ht)
  have hl : (ss.map fun s => s.l.length).getD t 0 = (sg ss t).l.length := by
    rw [List.getD_eq_getElem?_getD, List.getElem?_map, List.getElem?_eq_getElem ht]
    unfold sg
    rw [List.getD_eq_getElem?_getD, List.getElem?_eq_getElem ht]
    rfl
  rw [hl] at h
  have := List.length_pos_iff.2 hn
  rw [List.length_tail] at *
  omega
theorem cp_tail (l : List Pr) : ((cp l).drop (1 * 2)).take ((l.length - 1) * 2) = cp l.tail := by
  rw [cp_drop, List.drop_one, List.take_of_length_le]
  rw [cp_len, List.length_tail]
  exact Nat.le_refl _
theorem NI.stop {p : Pr} {ss cur : List Src} {hp : List Nat} (h : NI p ss cur) (ms : MS cur hp) (hc : hp = [] ∨ hp ≠ [] ∧ hd cur (hp.getD 0 0) ≠ p) : cur = ss.map (adv1 p) := by
  refine h.done fun i hi hh => ?_
  have hi' : i < cur.length := by rw [h.len]; exact hi
  rcases hc with hc | ⟨hc, hne⟩
  · have := ms.empty hc (sg cur i) (by unfold sg; exact mem_getD hi' default)
    rw [this] at hh; cases hh
  · have hmin := ms.min hc
    have h1 := hmin.2 (sg cur i) (by unfold sg; exact mem_getD hi' default) p hh
    obtain ⟨v1, v2⟩ := ms.val _ (mem_getD (List.length_pos_iff.2 hc) 0)
    have h2 := h.ge _ (by rw [← h.len]; exact v1) _ (hd_of v2)
    exact hne (lt_tri h2 h1)
set_option maxHeartbeats 3200000 in
theorem F40 {H : Heap} {F : Nat → Prop} {M Cb S : Nat} {lvs : List Value} {hv : Value} {ss : List Src} {hp : List Nat} (h : MerH H F M Cb S lvs hv ss hp) (ms : MS ss hp) (hb : ∀ j, j < ss.length → (sg ss j).l.length ≤ 8796093020000) :
    Fun Try.prog 40 #[.pointer (some ⟨M, 0, none⟩)] H (fun r H' => ∃ o ss', r = .tuple #[pv (o.getD (0, 0)), .bool o.isSome] ∧ NextR ss o ss' ∧ ∃ F' lvs' hv' hp', MerH H' F' M Cb S lvs' hv' ss' hp' ∧ MS ss' hp' ∧ Ch F F' H H') := by
  refine fun_of mixed (args := [_]) Try.func40 Try.ntmps40 b40 r40 rfl ?_
  have ht := h.tight
  have hk := h.k64
  simp only [go_sem, ↓reduceIte, Nat.reduceEqDiff, Nat.reduceLeDiff, Nat.reduceAdd, Nat.reduceMul, Nat.reduceSub, Nat.reduceBEq, Nat.reduceGT, Nat.reduceLT, Int.reduceLE, Int.reduceLT, Int.reduceNeg, reduceCtorEq]
  generalize hH0 : Array.push H (Obj.cells #[Value.int .i64 0, Value.int .i64 0] 24) = H0
  have x0 : Ext H H0 := by rw [← hH0]; exact Ext.push _
  have c0 : H0[H.size]? = some (Obj.cells #[Value.int .i64 0, Value.int .i64 0] 24) := by rw [← hH0, push_new]
  have s0 : H0.size = H.size + 1 := by rw [← hH0]; simp
  obtain ⟨F1, hF1⟩ : ∃ F1 : Nat → Prop, F1 = fun b => F b ∧ b < H.size := ⟨_, rfl⟩
  rw [← hF1] at ht
  have hF1a : ∀ b, F1 b → F b := fun b hb => by rw [hF1] at hb; exact hb.1
  have hF1b : ∀ b, F1 b → b < H.size := fun b hb => by rw [hF1] at hb; exact hb.2
  clear hF1 hH0
  have mer0 := ht.ext x0
  refine FunI.by (F37 mer0) ?_
  rintro _ H1 ⟨rfl, x1⟩
  have x01 : Ext H H1 := x0.trans (x1.mono x0.size)
  have c1 : H1[H.size]? = some (Obj.cells #[Value.int .i64 0, Value.int .i64 0] 24) := by rw [x1.get _ (by omega)]; exact c0
  have mer1 := mer0.ext x1
  obtain ⟨can1, _, cg0, cg1⟩ := cell2 (x := .int .i64 0) (y := .int .i64 0) c1
  have none_case : (0 ≤ wantsS ss ∨ ∀ s ∈ ss, s.l = []) → ∃ o ss', Value.tuple #[pv (0, 0), .bool false] = .tuple #[pv (o.getD (0, 0)), .bool o.isSome] ∧ NextR ss o ss' ∧ ∃ F' lvs' hv' hp', MerH (hput H1 H.size 0 [.int .i64 0, .int .i64 0]) F' M Cb S lvs' hv' ss' hp' ∧ MS ss' hp' ∧ Ch F F' H (hput H1 H.size 0 [.int .i64 0, .int .i64 0]) := by
    intro hno
    refine ⟨none, ss, rfl, .inl ⟨hno, rfl, rfl⟩, F1, lvs, hv, hp, mer1.keep fun b hb => hput_other _ _ _ _ (fun e => by have := hF1b b hb; omega), ms, ?_⟩
    exact Ch.widen (Ext.ch (x01.hput (Nat.le_refl _))) hF1a
  obtain ⟨a0, cap0, ehv⟩ := mer1.heap_form
  obtain ⟨m0, m1, m2, m3⟩ := mer1.getM
  by_cases hw : 0 ≤ wantsS ss
  · simp only [go_sem, ↓reduceIte, Nat.reduceEqDiff, Nat.reduceLeDiff, Nat.reduceAdd, Nat.reduceMul, Nat.reduceSub, Nat.reduceBEq, Nat.reduceGT, Nat.reduceLT, Int.reduceLE, Int.reduceLT, Int.reduceNeg, reduceCtorEq, hw, can1, loadV, ty24]
    refine ⟨rfl, _, ?_, none_case (.inl hw)⟩
    simp only [cg0, cg1, Option.bind_some]
  by_cases hne : hp = []
  · have l0 : hp.length = 0 := by rw [hne]; rfl
    rw [ehv, l0] at m1
    simp only [go_sem, ↓reduceIte, Nat.reduceEqDiff, Nat.reduceLeDiff, Nat.reduceAdd, Nat.reduceMul, Nat.reduceSub, Nat.reduceBEq, Nat.reduceGT, Nat.reduceLT, Int.reduceLE, Int.reduceLT, Int.reduceNeg, reduceCtorEq, hw, m1, can1, loadV, ty24, show ((0 : Nat) : Int) = 0 from rfl]
    refine ⟨rfl, _, ?_, none_case (.inr (ms.empty hne))⟩
    simp only [cg0, cg1, Option.bind_some]
  have hpos : 0 < hp.length := List.length_pos_iff.2 hne
  have l0 : ¬ (hp.length : Int) = 0 := by omega
  have l1 : (0 : Int) < hp.length := by omega
  obtain ⟨t, ht0⟩ : ∃ t, t = hp.getD 0 0 := ⟨_, rfl⟩
  have htm := ms.val t (by rw [ht0]; exact mem_getD hpos 0)
  have t0 : (0 : Int) ≤ t := by omega
  have t1 : (t : Int) < ss.length := by have := htm.1; omega
  have hh1 := mer1.hh
  rw [ehv] at hh1 m1
  obtain ⟨g, ea, _⟩ := heap_at hh1 hpos
  subst ea
  have gt := heap_get hh1 hpos
  rw [← ht0] at gt
  obtain ⟨b, o, cap, el, q1, q2⟩ := mer1.getHead htm.1 htm.2
  have gs := (mer1.getS htm.1).1
  rw [el] at gs
  have lt1 : (0 : Int) < (sg ss t).l.length := by have := List.length_pos_iff.2 htm.2; omega
  simp only [go_sem, ↓reduceIte, Nat.reduceEqDiff, Nat.reduceLeDiff, Nat.reduceAdd, Nat.reduceMul, Nat.reduceSub, Nat.reduceBEq, Nat.reduceGT, Nat.reduceLT, Int.reduceLE, Int.reduceLT, Int.reduceNeg, reduceCtorEq, hw, m0, m1, l0, l1, gt, t0, t1, gs, lt1, q1, q2, Int.toNat_natCast, Option.bind_some, show Int.toNat 0 = 0 from rfl, show (0 : Int) ≤ 0 from Int.le_refl _]
  refine ⟨Ext.push _, rfl, hcan_of push_new (by simp), ?_⟩
  rw [hput_push2]
  obtain ⟨p, hp0⟩ : ∃ p, p = hd ss t := ⟨_, rfl⟩
  rw [← hp0]
  generalize hH2 : Array.push H1 (Obj.cells #[Value.int .i64 p.1, Value.int .i64 p.2] 24) = H2
  have x2 : Ext H1 H2 := by rw [← hH2]; exact Ext.push _
  have d2 : H2[H1.size]? = some (Obj.cells #[Value.int .i64 p.1, Value.int .i64 p.2] 24) := by rw [← hH2, push_new]
  have c2 : H2[H.size]? = some (Obj.cells #[Value.int .i64 0, Value.int .i64 0] 24) := by rw [x2.get _ (by have := x1.size; omega)]; exact c1
  clear hH2
  have hs1 : H.size < H1.size := by have := x1.size; omega
  have nF : ∀ b, H.size ≤ b → ¬ F1 b := fun b hb hf => by have := hF1b b hf; omega
  have hmin : IsMin ss p := by rw [hp0, ht0]; exact ms.min hne
  have ch2 : Ch F1 F1 H H2 := (Ext.ch x01).trans (Ext.ch x2)
  have mer2 := mer1.ext x2
  have hwn : wantsS ss < 0 := by omega
  clear m0 m1 m2 m3 gt gs q1 q2 hh1 cg0 cg1 none_case
  refine LoopI.byN mixed (fun n ρ H' => ∃ (cur : List Src) (hpc : List Nat) (F' : Nat → Prop) (lvs' : List Value) (hv' : Value), ρ 0 = .pointer (some ⟨M, 0, none⟩) ∧ ρ 2 = .pointer (some ⟨H.size, 0, none⟩) ∧ ρ 4 = .pointer (some ⟨H1.size, 0, none⟩) ∧ MerH H' F' M Cb S lvs' hv' cur hpc ∧ MS cur hpc ∧ NI p ss cur ∧ Ch F1 F' H2 H' ∧ totS cur = n) (totS ss) ?_ ?_
  · exact ⟨ss, hp, F1, lvs, hv, by simp only [go_sem, ↓reduceIte, Nat.reduceEqDiff, Nat.reduceLeDiff, Nat.reduceAdd, Nat.reduceMul, Nat.reduceSub, Nat.reduceBEq, Nat.reduceGT, Nat.reduceLT, Int.reduceLE, Int.reduceLT, Int.reduceNeg, reduceCtorEq], by simp only [go_sem, ↓reduceIte, Nat.reduceEqDiff, Nat.reduceLeDiff, Nat.reduceAdd, Nat.reduceMul, Nat.reduceSub, Nat.reduceBEq, Nat.reduceGT, Nat.reduceLT, Int.reduceLE, Int.reduceLT, Int.reduceNeg, reduceCtorEq], by simp only [go_sem, ↓reduceIte, Nat.reduceEqDiff, Nat.reduceLeDiff, Nat.reduceAdd, Nat.reduceMul, Nat.reduceSub, Nat.reduceBEq, Nat.reduceGT, Nat.reduceLT, Int.reduceLE, Int.reduceLT, Int.reduceNeg, reduceCtorEq], mer2, ms, NI.start hmin, Ch.refl _ _, rfl⟩
  rintro n ρ H3 J ⟨cur, hpc, F3, lvs3, hv3, e0, e2, e4, mer, ms3, ni, ch3, hn⟩ hJ
  have d3 := ch3.cell d2 (nF _ (by omega))
  have c3 := ch3.cell c2 (nF _ (Nat.le_refl _))
  have gd0 : hget H3 H1.size 0 = some (.int .i64 p.1) := by rw [hget_cells d3]; rfl
  have gd1 : hget H3 H1.size 1 = some (.int .i64 p.2) := by rw [hget_cells d3]; rfl
  obtain ⟨m0, m1, m2, m3⟩ := mer.getM
  have hlen3 : cur.length = ss.length := ni.len
  obtain ⟨a3, cap3, ehv3⟩ := mer.heap_form
  have fin : (hpc = [] ∨ hpc ≠ [] ∧ hd cur (hpc.getD 0 0) ≠ p) → ∃ o ss', Value.tuple #[pv p, .bool true] = .tuple #[pv (o.getD (0, 0)), .bool o.isSome] ∧ NextR ss o ss' ∧ ∃ F' lvs' hv' hp', MerH (hput H3 H.size 0 [.int .i64 p.1, .int .i64 p.2]) F' M Cb S lvs' hv' ss' hp' ∧ MS ss' hp' ∧ Ch F F' H (hput H3 H.size 0 [.int .i64 p.1, .int .i64 p.2]) := by
    intro hc
    refine ⟨some p, cur, rfl, .inr ⟨hwn, p, hmin, rfl, ni.stop ms3 hc⟩, F3, lvs3, hv3, hpc, mer.keep fun b hb => hput_other _ _ _ _ (fun e => ?_), ms3, Ch.widen ((ch2.trans ch3).hput (Nat.le_refl _)) hF1a⟩
    rcases ch3.old b hb with h | h
    · exact nF b (by omega) h
    · have := x2.size; omega
  obtain ⟨can3, _, cg0, cg1⟩ := cell2 (x := .int .i64 p.1) (y := .int .i64 p.2) c3
  by_cases hne3 : hpc = []
  · have l3 : hpc.length = 0 := by rw [hne3]; rfl
    rw [ehv3, l3] at m1
    simp only [go_sem, ↓reduceIte, Nat.reduceEqDiff, Nat.reduceLeDiff, Nat.reduceAdd, Nat.reduceMul, Nat.reduceSub, Nat.reduceBEq, Nat.reduceGT, Nat.reduceLT, Int.reduceLE, Int.reduceLT, Int.reduceNeg, reduceCtorEq, c40_L0, e0, e2, e4, m1, gd0, gd1, can3, loadV, ty24, Option.bind_some, show ¬ (0 : Int) < ((0 : Nat) : Int) by omega]
    refine ⟨rfl, _, ?_, fin (.inl hne3)⟩
    simp only [cg0, cg1, Option.bind_some]
  have hpos3 : 0 < hpc.length := List.length_pos_iff.2 hne3
  have l3 : (0 : Int) < hpc.length := by omega
  obtain ⟨u, hu0⟩ : ∃ u, u = hpc.getD 0 0 := ⟨_, rfl⟩
  have hum := ms3.val u (by rw [hu0]; exact mem_getD hpos3 0)
  have u0 : (0 : Int) ≤ u := by omega
  have u1 : (u : Int) < cur.length := by have := hum.1; omega
  have hh3 := mer.hh
  have mer' := mer
  rw [ehv3] at hh3 m1
  obtain ⟨g3, ea3, _⟩ := heap_at hh3 hpos3
  subst ea3
  have gu := heap_get hh3 hpos3
  rw [← hu0] at gu
  obtain ⟨b3, o3, cap3', el3, q1, q2⟩ := mer.getHead hum.1 hum.2
  have gs3 := (mer.getS hum.1).1
  rw [el3] at gs3
  have lt3 : (0 : Int) < (sg cur u).l.length := by have := List.length_pos_iff.2 hum.2; omega
  simp only [go_sem, ↓reduceIte, Nat.reduceEqDiff, Nat.reduceLeDiff, Nat.reduceAdd, Nat.reduceMul, Nat.reduceSub, Nat.reduceBEq, Nat.reduceGT, Nat.reduceLT, Int.reduceLE, Int.reduceLT, Int.reduceNeg, reduceCtorEq, c40_L0, e0, e2, e4, m0, m1, gd0, gd1, l3, gu, u0, u1, gs3, lt3, q1, q2, Int.toNat_natCast, Option.bind_some, show Int.toNat 0 = 0 from rfl, show (0 : Int) ≤ 0 from Int.le_refl _]
  refine RunI.by (eq_pr _ _ (hd cur u) p H3) ?_
  rintro _ _ ⟨rfl, rfl⟩
  cases heq : decide (hd cur u = p) with
  | false =>
    have heq' := of_decide_eq_false heq
    simp only [go_sem, ↓reduceIte, Nat.reduceEqDiff, Nat.reduceLeDiff, Nat.reduceAdd, Nat.reduceMul, Nat.reduceSub, Nat.reduceBEq, Nat.reduceGT, Nat.reduceLT, Int.reduceLE, Int.reduceLT, Int.reduceNeg, reduceCtorEq, e2, e4, gd0, gd1, can3, loadV, ty24, Option.bind_some]
    refine ⟨rfl, _, ?_, fin (.inr ⟨hne3, by rw [← hu0]; exact heq'⟩)⟩
    simp only [cg0, cg1, Option.bind_some]
  | true =>
    have heq' := of_decide_eq_true heq
    have hup : (sg cur u).l.head? = some p := by rw [hd_of hum.2, heq']
    simp only [go_sem, ↓reduceIte, Nat.reduceEqDiff, Nat.reduceLeDiff, Nat.reduceAdd, Nat.reduceMul, Nat.reduceSub, Nat.reduceBEq, Nat.reduceGT, Nat.reduceLT, Int.reduceLE, Int.reduceLT, Int.reduceNeg, reduceCtorEq, e0]
    refine FunI.by (F66 mer ms3.val ms3.heap (Nat.le_trans ms3.len (by omega)) hne3) ?_
    rintro _ H4 ⟨rfl, F4, hv4, hp4, mer4, pm4, ok4, ch4⟩
    rw [← hu0] at pm4
    clear gs3 q1 q2 gu m0 m1 m2 m3 fin can3 cg0 cg1
    obtain ⟨m0, m1, m2, m3⟩ := mer4.getM
    have gs4 := (mer4.getS hum.1).1
    have o4 := mer4.hl u hum.1
    rw [el3] at gs4 o4
    have osub := Own2.tail o4 (by omega)
    rw [cp_tail] at osub
    have hblk : blk (.slice (if cap3' = Int.toNat 1 then some ⟨b3, o3, none⟩ else some ⟨b3, o3 + Int.toNat 1 * 2, none⟩) ((sg cur u).l.length - Int.toNat 1) (cap3' - Int.toNat 1)) = blk (lvs3.getD u undef) := by rw [el3]; split <;> rfl
    obtain ⟨a5, ha5⟩ : ∃ a5, a5 = (if cap3' = Int.toNat 1 then some (⟨b3, o3, none⟩ : Addr) else some ⟨b3, o3 + Int.toNat 1 * 2, none⟩) := ⟨_, rfl⟩
    rw [← ha5] at osub hblk
    obtain ⟨v5, hv5⟩ : ∃ v5, v5 = Value.slice a5 ((sg cur u).l.length - Int.toNat 1) (cap3' - Int.toNat 1) := ⟨_, rfl⟩
    rw [← hv5] at osub hblk
    obtain ⟨can4, F5, mer5, ch5⟩ := mer4.setL hum.1 (But.refl _ _) osub (.inl hblk)
    have mer6 : MerH (V.hput H4 S (u * 5) [v5]) F5 M Cb S (lvs3.set u v5) hv4 (drop1 cur u) hp4 := mer5
    have hd1 : u < (drop1 cur u).length := by rw [drop1_len]; exact hum.1
    have gs5 : hget (V.hput H4 S (u * 5) [v5]) S (u * 5) = some v5 := by
      have := (mer6.getS hd1).1
      rwa [lv_set (by rw [mer4.lvlen]; exact hum.1), if_pos rfl] at this
    obtain ⟨m5, _, _, _⟩ := mer6.getM
    rw [drop1_len] at m5
    have i1 : (1 : Int) ≤ (sg cur u).l.length := by omega
    rw [← hu0]
    have can4' : hcan H4 S (u * 5) 1 := can4
    simp only [go_sem, ↓reduceIte, Nat.reduceEqDiff, Nat.reduceLeDiff, Nat.reduceAdd, Nat.reduceMul, Nat.reduceSub, Nat.reduceBEq, Nat.reduceGT, Nat.reduceLT, Int.reduceLE, Int.reduceLT, Int.reduceNeg, reduceCtorEq, e0, m0, u0, u1, gs4, i1, can4', ← ha5, Int.toNat_natCast, Option.bind_some]
    refine ⟨rfl, ?_⟩
    rw [hv5] at m5 mer6 gs5 ch5
    generalize V.hput H4 S (u * 5) [Value.slice a5 ((sg cur u).l.length - Int.toNat 1) (cap3' - Int.toNat 1)] = H5 at *
    simp only [go_sem, ↓reduceIte, Nat.reduceEqDiff, Nat.reduceLeDiff, Nat.reduceAdd, Nat.reduceMul, Nat.reduceSub, Nat.reduceBEq, Nat.reduceGT, Nat.reduceLT, Int.reduceLE, Int.reduceLT, Int.reduceNeg, reduceCtorEq, e0, m5, u0, u1, gs5, Int.toNat_natCast, Option.bind_some]
    have ch5' := (ch3.trans ch4).trans ch5
    have hu0' : u ∉ hp4 := by
      have := pm4.nodup_iff.2 ms3.nodup
      rw [List.nodup_cons] at this
      exact this.1
    have ni' := ni.step (by rw [← ni.len]; exact hum.1) (ms3.up u hum.1) hup (ms.up u (by rw [← ni.len]; exact hum.1))
    have htot := tot_drop1 hum.1 hum.2
    have hsgu : sg (drop1 cur u) u = { sg cur u with l := (sg cur u).l.tail } := by rw [sg_drop1 hum.1, if_pos rfl]
    have ok4' : HeapOK (hd (drop1 cur u)) hp4 := ok4.congr fun x hx => (hd_drop1 hum.1 (fun e => hu0' (e ▸ hx))).symm
    refine ⟨fun hpos5 => ?_, fun hneg5 => ?_⟩
    · have htl : (sg cur u).l.tail ≠ [] := by
        intro h
        have := congrArg List.length h
        rw [List.length_tail, List.length_nil] at this
        have e1 : Int.toNat 1 = 1 := rfl
        omega
      have va4 : ∀ y ∈ hp4, Valid (drop1 cur u) y := fun y hy => by
        have h1 := ms3.val y (pm4.mem_iff.1 (List.mem_cons_of_mem _ hy))
        unfold Valid
        have hyu : ¬ y = u := fun e => hu0' (by rw [← e]; exact hy)
        rw [drop1_len, sg_drop1 hum.1, if_neg hyu]
        exact h1
      have vu4 : Valid (drop1 cur u) u := by
        unfold Valid
        rw [drop1_len, hsgu]
        exact ⟨hum.1, htl⟩
      have hl4 : hp4.length ≤ 64 := by
        have h1 := pm4.length_eq
        rw [List.length_cons] at h1
        have := ms3.len
        omega
      refine FunI.by (F63 mer6 va4 vu4 ok4' hl4) ?_
      rintro _ H7 ⟨rfl, F7, hv7, hp7, mer7, pm7, ok7, ch7⟩
      simp only [go_sem, ↓reduceIte, Nat.reduceEqDiff, Nat.reduceLeDiff, Nat.reduceAdd, Nat.reduceMul, Nat.reduceSub, Nat.reduceBEq, Nat.reduceGT, Nat.reduceLT, Int.reduceLE, Int.reduceLT, Int.reduceNeg, reduceCtorEq]
      exact Hold.mk (hJ _ _ _ (by omega) ⟨drop1 cur u, hp7, F7, _, hv7, by simp only [go_sem, ↓reduceIte, Nat.reduceEqDiff, Nat.reduceLeDiff, Nat.reduceAdd, Nat.reduceMul, Nat.reduceSub, Nat.reduceBEq, Nat.reduceGT, Nat.reduceLT, Int.reduceLE, Int.reduceLT, Int.reduceNeg, reduceCtorEq, e0], by simp only [go_sem, ↓reduceIte, Nat.reduceEqDiff, Nat.reduceLeDiff, Nat.reduceAdd, Nat.reduceMul, Nat.reduceSub, Nat.reduceBEq, Nat.reduceGT, Nat.reduceLT, Int.reduceLE, Int.reduceLT, Int.reduceNeg, reduceCtorEq, e2], by simp only [go_sem, ↓reduceIte, Nat.reduceEqDiff, Nat.reduceLeDiff, Nat.reduceAdd, Nat.reduceMul, Nat.reduceSub, Nat.reduceBEq, Nat.reduceGT, Nat.reduceLT, Int.reduceLE, Int.reduceLT, Int.reduceNeg, reduceCtorEq, e4], mer7, ms3.drop1 pm4 (.inr ⟨pm7, ok7, htl⟩), ni', ch5'.trans ch7, rfl⟩)
    · have htl : (sg cur u).l.tail = [] := by
        apply List.eq_nil_of_length_eq_zero
        rw [List.length_tail]
        have e1 : Int.toNat 1 = 1 := rfl
        omega
      exact Hold.mk (hJ _ _ _ (by omega) ⟨drop1 cur u, hp4, F5, _, hv4, by simp only [go_sem, ↓reduceIte, Nat.reduceEqDiff, Nat.reduceLeDiff, Nat.reduceAdd, Nat.reduceMul, Nat.reduceSub, Nat.reduceBEq, Nat.reduceGT, Nat.reduceLT, Int.reduceLE, Int.reduceLT, Int.reduceNeg, reduceCtorEq, e0], by simp only [go_sem, ↓reduceIte, Nat.reduceEqDiff, Nat.reduceLeDiff, Nat.reduceAdd, Nat.reduceMul, Nat.reduceSub, Nat.reduceBEq, Nat.reduceGT, Nat.reduceLT, Int.reduceLE, Int.reduceLT, Int.reduceNeg, reduceCtorEq, e2], by simp only [go_sem, ↓reduceIte, Nat.reduceEqDiff, Nat.reduceLeDiff, Nat.reduceAdd, Nat.reduceMul, Nat.reduceSub, Nat.reduceBEq, Nat.reduceGT, Nat.reduceLT, Int.reduceLE, Int.reduceLT, Int.reduceNeg, reduceCtorEq, e4], mer6, ms3.drop1 pm4 (.inl ⟨rfl, htl, ok4⟩), ni', ch5', rfl⟩)
end Go.Proofs.Ytcgejfmbhpmjfaa
