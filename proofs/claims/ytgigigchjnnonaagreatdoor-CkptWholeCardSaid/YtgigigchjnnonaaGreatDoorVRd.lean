/- Readers of files. -/
import Derived.Test.YtgigigchjnnonaaGreatDoorVWr2
import Derived.Test.YtgigigchjnnonaaGreatDoorVByt
set_option linter.unusedSimpArgs false
set_option linter.unusedVariables false
set_option maxRecDepth 20000
namespace Go.Proofs.YtgigigchjnnonaaGreatDoor
open Go Go.V
/-- A reader, plainly. -/
structure RdS where
  name : Nm
  at' : Int
  data : Int
  over : Bool
def rdC (d : Nat) (x : RdS) : Array Value := #[ptrOf d, .string x.name, .int .i64 x.at', .int .i64 x.data, .bool x.over]
def RdH (H : Heap) (w d : Nat) (x : RdS) : Prop := H[w]? = some (.cells (rdC d x) 213)
theorem RdH.get {H : Heap} {w d : Nat} {x : RdS} (h : RdH H w d x) : hget H w 0 = some (ptrOf d) ∧ hget H w 1 = some (.string x.name) ∧ hget H w 2 = some (.int .i64 x.at') ∧ hget H w 3 = some (.int .i64 x.data) ∧ hget H w 4 = some (.bool x.over) := by
  simp only [hget_cells h]
  exact ⟨rfl, rfl, rfl, rfl, rfl⟩
/-- A frame from a place on: the reader behind it, kind, payload, error. -/
def nextF (s : St) (x : RdS) : RdS × Int × List Int × Int :=
  let b := readS s x.name x.at' 1036
  if b.2 ≠ 0 then (x, 0, [], b.2) else
  let f := decF b.1
  if f.2.2.2 ≠ 0 then (x, 0, [], 90) else ({ x with at' := x.at' + f.2.2.1 }, f.1, f.2.1, 0)
theorem read_byt {s : St} (ok : Ok s) (n : Nm) (a k : Int) : Byt (readS s n a k).1 := by
  unfold readS
  split
  · rename_i x e he
    split
    · intro c hc; simp at hc
    · intro c hc
      obtain ⟨hn, _, _⟩ := find_now he
      exact ok.byt _ (ok.nowH _ _ hn) c (List.mem_of_mem_drop (List.mem_of_mem_take hc))
  · intro c hc; simp at hc
theorem read_len (s : St) (n : Nm) (a : Int) (k : Nat) : (readS s n a k).1.length ≤ k := by
  unfold readS
  split
  · split
    · simp
    · simp; omega
  · simp
theorem hput_push2 {H : Heap} {z0 z1 a0 a1 : Value} {e : TypeId} : hput (H.push (.cells #[z0, z1] e)) H.size 0 [a0, a1] = H.push (.cells #[a0, a1] e) := hput_push rfl
theorem byt_getD {b : List Int} (hb : Byt b) (i : Nat) : 0 ≤ b.getD i 0 ∧ b.getD i 0 < 256 := by
  by_cases hi : i < b.length
  · rw [List.getD_eq_getElem?_getD, List.getElem?_eq_getElem hi]
    exact hb _ (List.getElem_mem hi)
  · rw [List.getD_eq_getElem?_getD, List.getElem?_eq_none (by omega)]
    decide
theorem load_frame {K : Heap} {o : Nat} {a c : Value} {z : Array Value} (hz : z.size = 2) (hK : K[o]? = some (.cells z 215)) {C : Value → Prop} (h : C (.agg #[a, c])) :
    loadV (tyOf Tryz.prog) 215 (.pointer (some ⟨o, 0, none⟩)) (hput K o 0 [a, c]) C := by
  have rF : (hput K o 0 [a, c])[o]? = some (.cells #[a, c] 215) := by
    rw [hput_same hK]
    match z, hz with
    | ⟨[z0, z1]⟩, _ => rfl
  have q0 : hget (hput K o 0 [a, c]) o 0 = some a := hget_cells rF
  have q1 : hget (hput K o 0 [a, c]) o 1 = some c := hget_cells rF
  rw [loadV_K]
  simp only [go_sem, ↓reduceIte, Nat.reduceEqDiff, Nat.reduceLeDiff, Nat.reduceAdd, Nat.reduceMul, Nat.reduceSub, Nat.reduceBEq, Nat.reduceGT, Nat.reduceLT, Int.reduceLE, Int.reduceLT, Int.reduceNeg, reduceCtorEq, q0, q1]
  exact h
theorem decF_bound {b : List Int} (hb : Byt b) : 0 ≤ (decF b).2.2.1 ∧ (decF b).2.2.1 ≤ 1036 ∧ (decF b).2.1.length ≤ 1024 ∧ Byt (decF b).2.1 := by
  have h2 := byt_getD hb 2
  have h3 := byt_getD hb 3
  unfold decF
  have bn : Byt [] := fun c hc => by simp at hc
  split
  · exact ⟨by simp, by simp, by simp, bn⟩
  · simp only
    split
    · exact ⟨by simp, by simp, by simp, bn⟩
    · split
      · exact ⟨by simp, by simp, by simp, bn⟩
      · rename_i h _
        simp only [not_or, Classical.not_not] at h
        refine ⟨by simp only; omega, by simp only; omega, by simp only [List.length_take]; omega, fun c hc => hb c (List.mem_of_mem_drop (List.mem_of_mem_take hc))⟩
theorem rd_other {H : Heap} {w d g o : Nat} {x : RdS} {vs : List Value} {c : Array Value} {e : TypeId} (h : RdH H w d x) (hg : H[g]? = some (.cells c e)) (hne : e ≠ 213) : RdH (hput H g o vs) w d x := by
  unfold RdH
  rw [hput_other H g o vs (tag_ne hg h hne).symm]
  exact h
section
variable {H : Heap} {F : Nat → Prop} {b w : Nat} {s : St} {x : RdS}
set_option maxHeartbeats 1600000 in
theorem F208 (h : FsH H F b s) (ok : Ok s) (hw : RdH H w b x) (hFw : ¬ F w) (ht : CrcTab H) (hz : 0 ≤ x.at' ∧ x.at' < 4611686018427387904) :
    Fun Tryz.prog 208 #[ptrOf w] H (fun r H' => ∃ u, r = .tuple #[.agg #[.int .i64 (nextF s x).2.1, u], .int .i64 (nextF s x).2.2.2] ∧ V.Own H' H.size 5 1 u ((nextF s x).2.2.1.map (.int .u8)) ∧
      FsH H' F b s ∧ RdH H' w b (nextF s x).1 ∧ ChX (· = w) (fun _ => False) (fun _ => False) H H') := by
  refine fun_of mixed (args := [_]) Tryz.func208 Tryz.ntmps208 b208 r208 rfl ?_
  have x1 : Ext H (H.push (.cells #[.int .i64 0, .slice none 0 0] 215)) := Ext.push _
  have k1 : (H.push (.cells #[.int .i64 0, .slice none 0 0] 215))[H.size]? = some (.cells #[.int .i64 0, .slice none 0 0] 215) := push_new
  obtain ⟨g0, g1, g2, g3, g4⟩ := RdH.get (show RdH _ w b x from x1.old hw)
  simp only [ptrOf] at g0
  simp only [go_sem, ↓reduceIte, Nat.reduceEqDiff, Nat.reduceLeDiff, Nat.reduceAdd, Nat.reduceMul, Nat.reduceSub, Nat.reduceBEq, Nat.reduceGT, Nat.reduceLT, Int.reduceLE, Int.reduceLT, Int.reduceNeg, reduceCtorEq, ptrOf, g0, g1, g2]
  obtain ⟨mb, lb, hb', pv, dv, hP1⟩ := h.ext x1
  refine FunI.by (F194 hP1 ok x.name x.at' 1036 (by decide)) ?_
  rintro _ H2 ⟨u, rfl, ou, x2⟩
  have x12 : Ext H H2 := Upto.ext x1 x1.size x2
  have k2 := x2.old k1
  simp only [go_sem, ↓reduceIte, Nat.reduceEqDiff, Nat.reduceLeDiff, Nat.reduceAdd, Nat.reduceMul, Nat.reduceSub, Nat.reduceBEq, Nat.reduceGT, Nat.reduceLT, Int.reduceLE, Int.reduceLT, Int.reduceNeg, reduceCtorEq]
  refine ⟨x2, ?_⟩
  by_cases c0 : (readS s x.name x.at' 1036).2 ≠ 0
  · have hp : nextF s x = (x, 0, [], (readS s x.name x.at' 1036).2) := by unfold nextF; simp only; rw [if_pos c0]
    simp only [go_sem, ↓reduceIte, Nat.reduceEqDiff, Nat.reduceLeDiff, Nat.reduceAdd, Nat.reduceMul, Nat.reduceSub, Nat.reduceBEq, Nat.reduceGT, Nat.reduceLT, Int.reduceLE, Int.reduceLT, Int.reduceNeg, reduceCtorEq, c0]
    refine ⟨rfl, hcan_of k2 (by simp), load_frame rfl k2 ?_⟩
    rw [hp]
    exact ⟨_, rfl, .inl ⟨rfl, rfl⟩, (h.ext x12).put (fun e => by obtain ⟨_, _, _, _, _, hP⟩ := h; have := hP.lt _ e; omega), rd_other (x12.old hw) k2 (by decide), (Ext.chx x12).put (.inr (Nat.le_refl _))⟩
  have c0' := Classical.not_not.1 c0
  have hbb := read_byt ok x.name x.at' 1036
  have hbl := read_len s x.name x.at' 1036
  simp only [go_sem, ↓reduceIte, Nat.reduceEqDiff, Nat.reduceLeDiff, Nat.reduceAdd, Nat.reduceMul, Nat.reduceSub, Nat.reduceBEq, Nat.reduceGT, Nat.reduceLT, Int.reduceLE, Int.reduceLT, Int.reduceNeg, reduceCtorEq, c0']
  refine FunI.by (F274 ou.sl hbb (ht.ext x12) (by have e : (1036 : Int) = ((1036 : Nat) : Int) := rfl; rw [e]; omega)) ?_
  rintro _ H3 ⟨p, rfl, op, x3⟩
  obtain ⟨db1, db2, db3, db4⟩ := decF_bound hbb
  have hN : nextF s x = (if (decF (readS s x.name x.at' 1036).1).2.2.2 ≠ 0 then (x, 0, [], 90) else ({ x with at' := x.at' + (decF (readS s x.name x.at' 1036).1).2.2.1 }, (decF (readS s x.name x.at' 1036).1).1, (decF (readS s x.name x.at' 1036).1).2.1, 0)) := by
    unfold nextF; simp only; rw [if_neg c0]
  obtain ⟨f, hf⟩ : ∃ f, f = decF (readS s x.name x.at' 1036).1 := ⟨_, rfl⟩
  rw [← hf] at hN op db1 db2 db3 db4 ⊢
  clear hf
  have x13 : Ext H H3 := Upto.ext x12 x12.size x3
  obtain ⟨pa, pl, pc, rfl⟩ := op.sl.form
  simp only [go_sem, ↓reduceIte, Nat.reduceEqDiff, Nat.reduceLeDiff, Nat.reduceAdd, Nat.reduceMul, Nat.reduceSub, Nat.reduceBEq, Nat.reduceGT, Nat.reduceLT, Int.reduceLE, Int.reduceLT, Int.reduceNeg, reduceCtorEq]
  refine ⟨rfl, hcan_of push_new (by simp), ?_⟩
  rw [hput_push2]
  have x14 : Ext H (H3.push (.cells #[.int .i64 f.1, .slice pa pl pc] 215)) := Upto.push x13 x13.size _
  have k4 : (H3.push (.cells #[.int .i64 f.1, .slice pa pl pc] 215))[H.size]? = some (.cells #[.int .i64 0, .slice none 0 0] 215) := (Ext.push _).old (x3.old k2)
  have f4 : (H3.push (.cells #[.int .i64 f.1, .slice pa pl pc] 215))[H3.size]? = some (.cells #[.int .i64 f.1, .slice pa pl pc] 215) := push_new
  have o4 := op.ext (Ext.push (.cells #[.int .i64 f.1, .slice pa pl pc] 215))
  generalize (H3.push (.cells #[.int .i64 f.1, .slice pa pl pc] 215)) = H4 at *
  have hlt : ∀ g, F g → g < H.size := fun g hg => by obtain ⟨_, _, _, _, _, hP⟩ := h; exact hP.lt _ hg
  have nH : ¬ F H.size := fun e => by have := hlt _ e; omega
  by_cases c1 : f.2.2.2 ≠ 0
  · rw [if_pos c1] at hN
    simp only [go_sem, ↓reduceIte, Nat.reduceEqDiff, Nat.reduceLeDiff, Nat.reduceAdd, Nat.reduceMul, Nat.reduceSub, Nat.reduceBEq, Nat.reduceGT, Nat.reduceLT, Int.reduceLE, Int.reduceLT, Int.reduceNeg, reduceCtorEq, c1]
    refine ⟨rfl, hcan_of k4 (by simp), load_frame rfl k4 ?_⟩
    rw [hN]
    exact ⟨_, rfl, .inl ⟨rfl, rfl⟩, (h.ext x14).put nH, rd_other (x14.old hw) k4 (by decide), (Ext.chx x14).put (.inr (Nat.le_refl _))⟩
  rw [if_neg c1] at hN
  have c1' := Classical.not_not.1 c1
  have hw4 : RdH H4 w b x := x14.old hw
  obtain ⟨g0, g1, g2, g3, g4⟩ := hw4.get
  have e1 : IntKind.i64.wrap (x.at' + f.2.2.1) = x.at' + f.2.2.1 := w64_id (by omega) (by omega)
  have w4 : hget (hput H4 w 2 [.int .i64 (x.at' + f.2.2.1)]) H3.size 0 = some (.int .i64 f.1) := by
    rw [hget_cells ((hput_other H4 w 2 _ (tag_ne f4 hw4 (by decide))).trans f4)]; rfl
  have w5 : hget (hput H4 w 2 [.int .i64 (x.at' + f.2.2.1)]) H3.size 1 = some (.slice pa pl pc) := by
    rw [hget_cells ((hput_other H4 w 2 _ (tag_ne f4 hw4 (by decide))).trans f4)]; rfl
  simp only [go_sem, ↓reduceIte, Nat.reduceEqDiff, Nat.reduceLeDiff, Nat.reduceAdd, Nat.reduceMul, Nat.reduceSub, Nat.reduceBEq, Nat.reduceGT, Nat.reduceLT, Int.reduceLE, Int.reduceLT, Int.reduceNeg, reduceCtorEq, c1', g2, e1, w4, w5]
  refine ⟨rfl, hcan_of hw4 (by simp [rdC]), rfl, ?_, ?_⟩
  · exact hcan_of ((hput_other H4 w 2 _ (tag_ne k4 hw4 (by decide))).trans k4) (by simp)
  have k5 := (hput_other H4 w 2 [.int .i64 (x.at' + f.2.2.1)] (tag_ne k4 hw4 (by decide))).trans k4
  refine load_frame rfl k5 ?_
  rw [hN]
  have hw5 : RdH (hput H4 w 2 [.int .i64 (x.at' + f.2.2.1)]) w b { x with at' := x.at' + f.2.2.1 } := by
    unfold RdH
    rw [hput_same hw4]; rfl
  refine ⟨_, rfl, ?_, ((h.ext x14).put hFw).put nH, rd_other hw5 k5 (by decide), ChX.put (X := (· = w)) (ChX.put (Ext.chx x14) (.inl (rfl : w = w))) (.inr (Nat.le_refl _))⟩
  refine (o4.mono x12.size).keep fun g hg => ?_
  obtain ⟨hg1, hg2, c, hc⟩ := o4.blk hg
  rw [hput_other _ _ _ _ (tag_ne ((hput_other H4 w 2 _ (tag_ne hc hw4 (by decide))).trans hc) k5 (by decide)), hput_other H4 w 2 _ (tag_ne hc hw4 (by decide))]
/-- The end mark, and nothing behind it. -/
def endF (s : St) (x : RdS) (k : Int) (p : List Int) : Int :=
  if k ≠ 3 ∨ p ≠ be4 x.data then 90 else
  if (readS s x.name x.at' 1).2 = 0 ∧ (readS s x.name x.at' 1).1 ≠ [] then 90 else (readS s x.name x.at' 1).2
set_option maxHeartbeats 1600000 in
theorem F275 {k : Int} {v : Value} {p : List Int} (h : FsH H F b s) (ok : Ok s) (hw : RdH H w b x) (hv : Ints H 5 .u8 v p) (hb : Byt p) (hd : 0 ≤ x.data ∧ x.data < 4294967296) :
    Fun Tryz.prog 275 #[ptrOf w, .agg #[.int .i64 k, v]] H (fun r H' => r = .int .i64 (endF s x k p) ∧ Ext H H') := by
  obtain ⟨a, cap, rfl⟩ := hv.form
  refine fun_of mixed (args := [_, _]) Tryz.func275 Tryz.ntmps275 b275 r275 rfl ?_
  have x1 : Ext H (H.push (.cells #[.int .i64 k, .slice a p.length cap] 215)) := Ext.push _
  have k1 : (H.push (.cells #[.int .i64 k, .slice a p.length cap] 215))[H.size]? = some (.cells #[.int .i64 k, .slice a p.length cap] 215) := push_new
  have hw1 : RdH (H.push (.cells #[.int .i64 k, .slice a p.length cap] 215)) w b x := x1.old hw
  obtain ⟨g0, g1, g2, g3, g4⟩ := hw1.get
  have f0 : hget (H.push (.cells #[.int .i64 k, .slice a p.length cap] 215)) H.size 0 = some (.int .i64 k) := hget_cells k1
  have f1 : hget (H.push (.cells #[.int .i64 k, .slice a p.length cap] 215)) H.size 1 = some (.slice a p.length cap) := hget_cells k1
  have h1 := h.ext x1
  have hv1 := hv.ext x1
  obtain ⟨H1, hH⟩ : ∃ H1, H1 = H.push (.cells #[.int .i64 k, .slice a p.length cap] 215) := ⟨_, rfl⟩
  rw [← hH] at x1 k1 hw1 g0 g1 g2 g3 g4 f0 f1 h1 hv1
  simp only [ptrOf] at g0
  simp only [go_sem, ↓reduceIte, Nat.reduceEqDiff, Nat.reduceLeDiff, Nat.reduceAdd, Nat.reduceMul, Nat.reduceSub, Nat.reduceBEq, Nat.reduceGT, Nat.reduceLT, Int.reduceLE, Int.reduceLT, Int.reduceNeg, reduceCtorEq, ptrOf, ← hH, f0]
  by_cases ck : k ≠ 3
  · have hE : endF s x k p = 90 := by unfold endF; rw [if_pos (.inl ck)]
    simp only [go_sem, ↓reduceIte, Nat.reduceEqDiff, Nat.reduceLeDiff, Nat.reduceAdd, Nat.reduceMul, Nat.reduceSub, Nat.reduceBEq, Nat.reduceGT, Nat.reduceLT, Int.reduceLE, Int.reduceLT, Int.reduceNeg, reduceCtorEq, ck, hE]
    repeat' (first | exact x1 | rfl | refine And.intro ?_ ?_)
  have ck' := Classical.not_not.1 ck
  subst ck'
  simp only [go_sem, ↓reduceIte, Nat.reduceEqDiff, Nat.reduceLeDiff, Nat.reduceAdd, Nat.reduceMul, Nat.reduceSub, Nat.reduceBEq, Nat.reduceGT, Nat.reduceLT, Int.reduceLE, Int.reduceLT, Int.reduceNeg, reduceCtorEq, f1, g3, ← hH]
  repeat' (first
    | exact Upto.refl _ _
    | assumption
    | (refine RunI.by (conv_str hv1 ty53 ty9 ty5) ?_; rintro _ _ ⟨rfl, rfl⟩; simp only [go_sem, ↓reduceIte, Nat.reduceEqDiff, Nat.reduceLeDiff, Nat.reduceAdd, Nat.reduceMul, Nat.reduceSub, Nat.reduceBEq, Nat.reduceGT, Nat.reduceLT, Int.reduceLE, Int.reduceLT, Int.reduceNeg, reduceCtorEq, ← hH])
    | (refine FunI.by (F204 x.data H1 hd) ?_; rintro u H2 ⟨ou, x2⟩; have hv2 := hv1.ext x2; obtain ⟨au, cu, eu⟩ := Ints.form (xs := be4 x.data) (k := .u8) ou.sl; subst eu; simp only [go_sem, ↓reduceIte, Nat.reduceEqDiff, Nat.reduceLeDiff, Nat.reduceAdd, Nat.reduceMul, Nat.reduceSub, Nat.reduceBEq, Nat.reduceGT, Nat.reduceLT, Int.reduceLE, Int.reduceLT, Int.reduceNeg, reduceCtorEq, ← hH])
    | (refine RunI.by (conv_str (xs := be4 x.data) ou.sl ty53 ty9 ty5) ?_; rintro _ _ ⟨rfl, rfl⟩; simp only [go_sem, ↓reduceIte, Nat.reduceEqDiff, Nat.reduceLeDiff, Nat.reduceAdd, Nat.reduceMul, Nat.reduceSub, Nat.reduceBEq, Nat.reduceGT, Nat.reduceLT, Int.reduceLE, Int.reduceLT, Int.reduceNeg, reduceCtorEq, ← hH])
    | (refine RunI.by (conv_str hv2 ty53 ty9 ty5) ?_; rintro _ _ ⟨rfl, rfl⟩; simp only [go_sem, ↓reduceIte, Nat.reduceEqDiff, Nat.reduceLeDiff, Nat.reduceAdd, Nat.reduceMul, Nat.reduceSub, Nat.reduceBEq, Nat.reduceGT, Nat.reduceLT, Int.reduceLE, Int.reduceLT, Int.reduceNeg, reduceCtorEq, ← hH])
    | refine And.intro ?_ ?_)
  all_goals rw [bstr_beq hb (be4_byt _)]
  all_goals intro hq
  all_goals have x12 : Ext H H2 := Upto.ext x1 x1.size x2
  all_goals first
    | (have hE : endF s x 3 p = 90 := by unfold endF; rw [if_pos (.inr (of_decide_eq_false hq))]
       exact ⟨by rw [hE], x12⟩)
    | (have hp := of_decide_eq_true hq
       have hE : endF s x 3 p = if (readS s x.name x.at' 1).2 = 0 ∧ (readS s x.name x.at' 1).1 ≠ [] then 90 else (readS s x.name x.at' 1).2 := by
         unfold endF; rw [if_neg]; rintro (h | h); exact h rfl; exact h hp
       obtain ⟨mb, lb, hb', pv, dv, hP2⟩ := h1.ext x2
       obtain ⟨g0, g1, g2, g3, g4⟩ := RdH.get (x2.old hw1)
       simp only [ptrOf] at g0
       simp only [go_sem, ↓reduceIte, Nat.reduceEqDiff, Nat.reduceLeDiff, Nat.reduceAdd, Nat.reduceMul, Nat.reduceSub, Nat.reduceBEq, Nat.reduceGT, Nat.reduceLT, Int.reduceLE, Int.reduceLT, Int.reduceNeg, reduceCtorEq, g0, g1, g2]
       refine FunI.by (F194 hP2 ok x.name x.at' 1 (by decide)) ?_
       rintro _ H3 ⟨u3, rfl, ou3, x3⟩
       obtain ⟨a3, cu3, eu3⟩ := Ints.form (xs := (readS s x.name x.at' 1).1) (k := .u8) ou3.sl
       subst eu3
       have x13 : Ext H H3 := Upto.ext x12 x12.size x3
       simp only [go_sem, ↓reduceIte, Nat.reduceEqDiff, Nat.reduceLeDiff, Nat.reduceAdd, Nat.reduceMul, Nat.reduceSub, Nat.reduceBEq, Nat.reduceGT, Nat.reduceLT, Int.reduceLE, Int.reduceLT, Int.reduceNeg, reduceCtorEq]
       refine ⟨x3, ?_⟩
       by_cases c1 : (readS s x.name x.at' 1).2 = 0
       · by_cases c2 : (readS s x.name x.at' 1).1 = []
         · have hE' : endF s x 3 p = 0 := by rw [hE, if_neg (fun hh => hh.2 c2), c1]
           simp only [go_sem, ↓reduceIte, Nat.reduceEqDiff, Nat.reduceLeDiff, Nat.reduceAdd, Nat.reduceMul, Nat.reduceSub, Nat.reduceBEq, Nat.reduceGT, Nat.reduceLT, Int.reduceLE, Int.reduceLT, Int.reduceNeg, reduceCtorEq, c1, c2, List.length_nil, hE']
           exact ⟨fun h => absurd h (by decide), fun _ => x13⟩
         · have hE' : endF s x 3 p = 90 := by rw [hE, if_pos ⟨c1, c2⟩]
           have c3 : (0 : Int) < ((readS s x.name x.at' 1).1.length : Int) := by
             have := List.length_pos_iff.2 c2; omega
           simp only [go_sem, ↓reduceIte, Nat.reduceEqDiff, Nat.reduceLeDiff, Nat.reduceAdd, Nat.reduceMul, Nat.reduceSub, Nat.reduceBEq, Nat.reduceGT, Nat.reduceLT, Int.reduceLE, Int.reduceLT, Int.reduceNeg, reduceCtorEq, c1, c3, hE']
           exact x13
       · have hE' : endF s x 3 p = (readS s x.name x.at' 1).2 := by rw [hE, if_neg (fun hh => c1 hh.1)]
         simp only [go_sem, ↓reduceIte, Nat.reduceEqDiff, Nat.reduceLeDiff, Nat.reduceAdd, Nat.reduceMul, Nat.reduceSub, Nat.reduceBEq, Nat.reduceGT, Nat.reduceLT, Int.reduceLE, Int.reduceLT, Int.reduceNeg, reduceCtorEq, c1, hE']
         exact x13)
/-- A Next: the reader behind it, the payload, more, error. -/
def nextR (s : St) (x : RdS) : RdS × List Int × Bool × Int :=
  if x.over then (x, [], false, 91) else
  let f := nextF s x
  if f.2.2.2 = 0 ∧ f.2.1 = 2 then ({ f.1 with data := f.1.data + 1 }, f.2.2.1, true, 0) else
  ({ f.1 with over := true }, [], false, if f.2.2.2 = 0 then endF s f.1 f.2.1 f.2.2.1 else f.2.2.2)
theorem nextF_keeps (s : St) (x : RdS) : (nextF s x).1.data = x.data ∧ (nextF s x).1.name = x.name ∧ (nextF s x).1.over = x.over := by
  unfold nextF
  simp only
  split
  · exact ⟨rfl, rfl, rfl⟩
  · split <;> exact ⟨rfl, rfl, rfl⟩
theorem nextF_at {s : St} (ok : Ok s) (x : RdS) : x.at' ≤ (nextF s x).1.at' ∧ (nextF s x).1.at' ≤ x.at' + 1036 ∧ (nextF s x).2.2.1.length ≤ 1024 ∧ Byt (nextF s x).2.2.1 := by
  obtain ⟨h1, h2, h3, h4⟩ := decF_bound (read_byt ok x.name x.at' 1036)
  have bn : Byt [] := fun c hc => by simp at hc
  unfold nextF
  simp only
  split
  · exact ⟨Int.le_refl _, by simp only; omega, by simp, bn⟩
  · split
    · exact ⟨Int.le_refl _, by simp only; omega, by simp, bn⟩
    · exact ⟨by simp only; omega, by simp only; omega, h3, h4⟩
set_option maxHeartbeats 1600000 in
theorem F210 (h : FsH H F b s) (ok : Ok s) (hw : RdH H w b x) (hFw : ¬ F w) (ht : CrcTab H) (hz : 0 ≤ x.at' ∧ x.at' < 2305843009213693952) (hd : 0 ≤ x.data ∧ x.data < 4294967296) :
    Fun Tryz.prog 210 #[ptrOf w] H (fun r H' => ∃ u, r = .tuple #[u, .bool (nextR s x).2.2.1, .int .i64 (nextR s x).2.2.2] ∧ V.Own H' H.size 5 1 u ((nextR s x).2.1.map (.int .u8)) ∧
      FsH H' F b s ∧ RdH H' w b (nextR s x).1 ∧ ChX (· = w) (fun _ => False) (fun _ => False) H H') := by
  refine fun_of mixed (args := [_]) Tryz.func210 Tryz.ntmps210 b210 r210 rfl ?_
  obtain ⟨g0, g1, g2, g3, g4⟩ := hw.get
  by_cases c0 : x.over = true
  · have hE : nextR s x = (x, [], false, 91) := by unfold nextR; rw [if_pos c0]
    rw [c0] at g4
    simp only [go_sem, ↓reduceIte, Nat.reduceEqDiff, Nat.reduceLeDiff, Nat.reduceAdd, Nat.reduceMul, Nat.reduceSub, Nat.reduceBEq, Nat.reduceGT, Nat.reduceLT, Int.reduceLE, Int.reduceLT, Int.reduceNeg, reduceCtorEq, ptrOf, g4, hE]
    exact ⟨_, rfl, .inl ⟨rfl, rfl⟩, h, hw, ChX.refl _ _ _⟩
  have hE : nextR s x = (let f := nextF s x
      if f.2.2.2 = 0 ∧ f.2.1 = 2 then ({ f.1 with data := f.1.data + 1 }, f.2.2.1, true, 0) else
      ({ f.1 with over := true }, [], false, if f.2.2.2 = 0 then endF s f.1 f.2.1 f.2.2.1 else f.2.2.2)) := by unfold nextR; rw [if_neg c0]
  have c0' : x.over = false := by simpa using c0
  rw [c0'] at g4
  simp only [go_sem, ↓reduceIte, Nat.reduceEqDiff, Nat.reduceLeDiff, Nat.reduceAdd, Nat.reduceMul, Nat.reduceSub, Nat.reduceBEq, Nat.reduceGT, Nat.reduceLT, Int.reduceLE, Int.reduceLT, Int.reduceNeg, reduceCtorEq, ptrOf, g4]
  refine FunI.by (F208 h ok hw hFw ht (by omega)) ?_
  rintro _ H1 ⟨u, rfl, ou, h1, hw1, cx1⟩
  obtain ⟨kd, kn, ko⟩ := nextF_keeps s x
  obtain ⟨ka, kb, kc, ke⟩ := nextF_at ok x
  obtain ⟨f, hf⟩ : ∃ f, f = nextF s x := ⟨_, rfl⟩
  rw [← hf] at hE ou hw1 kd kn ko ka kb kc ke ⊢
  clear hf
  obtain ⟨pa, pl, pc, rfl⟩ := ou.sl.form
  simp only [go_sem, ↓reduceIte, Nat.reduceEqDiff, Nat.reduceLeDiff, Nat.reduceAdd, Nat.reduceMul, Nat.reduceSub, Nat.reduceBEq, Nat.reduceGT, Nat.reduceLT, Int.reduceLE, Int.reduceLT, Int.reduceNeg, reduceCtorEq]
  refine ⟨rfl, hcan_of push_new (by simp), ?_⟩
  rw [hput_push2]
  have x2 : Ext H1 (H1.push (.cells #[.int .i64 f.2.1, .slice pa pl pc] 215)) := Ext.push _
  have f2 : (H1.push (.cells #[.int .i64 f.2.1, .slice pa pl pc] 215))[H1.size]? = some (.cells #[.int .i64 f.2.1, .slice pa pl pc] 215) := push_new
  have o2 := ou.ext x2
  have h2 := h1.ext x2
  have hw2 : RdH (H1.push (.cells #[.int .i64 f.2.1, .slice pa pl pc] 215)) w b f.1 := x2.old hw1
  have cx2 : ChX (· = w) (fun _ => False) (fun _ => False) H (H1.push (.cells #[.int .i64 f.2.1, .slice pa pl pc] 215)) := cx1.trans x2.chx
  generalize (H1.push (.cells #[.int .i64 f.2.1, .slice pa pl pc] 215)) = H2 at *
  have q0 : hget H2 H1.size 0 = some (.int .i64 f.2.1) := hget_cells f2
  have q1 : hget H2 H1.size 1 = some (.slice pa pl pc) := hget_cells f2
  obtain ⟨g0, g1, g2, g3, g4⟩ := hw2.get
  by_cases c1 : f.2.2.2 = 0
  · by_cases c2 : f.2.1 = 2
    · have hE' : nextR s x = ({ f.1 with data := f.1.data + 1 }, f.2.2.1, true, 0) := by rw [hE]; simp only [c1, c2, and_self, if_true]
      have e1 : IntKind.i64.wrap (f.1.data + 1) = f.1.data + 1 := w64_id (by omega) (by omega)
      have w5 : hget (hput H2 w 3 [.int .i64 (f.1.data + 1)]) H1.size 1 = some (.slice pa pl pc) := by
        rw [hget_cells ((hput_other H2 w 3 _ (tag_ne f2 hw2 (by decide))).trans f2)]; rfl
      simp only [go_sem, ↓reduceIte, Nat.reduceEqDiff, Nat.reduceLeDiff, Nat.reduceAdd, Nat.reduceMul, Nat.reduceSub, Nat.reduceBEq, Nat.reduceGT, Nat.reduceLT, Int.reduceLE, Int.reduceLT, Int.reduceNeg, reduceCtorEq, c1, q0, c2, g3, e1, w5]
      refine ⟨rfl, hcan_of hw2 (by simp [rdC]), ?_⟩
      rw [hE']
      refine ⟨_, rfl, o2.keep fun g hg => ?_, h2.put hFw, ?_, ChX.put (X := (· = w)) cx2 (.inl rfl)⟩
      · obtain ⟨hg1, hg2, c, hc⟩ := o2.blk hg
        rw [hput_other H2 w 3 _ (tag_ne hc hw2 (by decide))]
      · unfold RdH
        rw [hput_same hw2]; rfl
    · have hE' : nextR s x = ({ f.1 with over := true }, [], false, endF s f.1 f.2.1 f.2.2.1) := by rw [hE]; simp only [c1, c2, and_false, if_false, if_true]
      have f3 : (hput H2 w 4 [.bool true])[H1.size]? = some (.cells #[.int .i64 f.2.1, .slice pa pl pc] 215) := (hput_other H2 w 4 _ (tag_ne f2 hw2 (by decide))).trans f2
      have q3 : hget (hput H2 w 4 [.bool true]) H1.size 0 = some (.int .i64 f.2.1) := hget_cells f3
      have q4 : hget (hput H2 w 4 [.bool true]) H1.size 1 = some (.slice pa pl pc) := hget_cells f3
      have hw3 : RdH (hput H2 w 4 [.bool true]) w b { f.1 with over := true } := by
        unfold RdH
        rw [hput_same hw2]; rfl
      simp only [go_sem, ↓reduceIte, Nat.reduceEqDiff, Nat.reduceLeDiff, Nat.reduceAdd, Nat.reduceMul, Nat.reduceSub, Nat.reduceBEq, Nat.reduceGT, Nat.reduceLT, Int.reduceLE, Int.reduceLT, Int.reduceNeg, reduceCtorEq, c1, q0, c2, q3, q4]
      refine ⟨rfl, hcan_of hw2 (by simp [rdC]), ?_⟩
      have o3 := o2.sl.keep1 (H' := hput H2 w 4 [.bool true]) fun g hg _ => by
        obtain ⟨hg1, hg2, c, hc⟩ := o2.blk hg
        rw [hput_other H2 w 4 _ (tag_ne hc hw2 (by decide))]
      refine FunI.by (F275 (k := f.2.1) (p := f.2.2.1) (h2.put (o := 4) (vs := [.bool true]) hFw) ok hw3 o3 ke (by simp only; omega)) ?_
      rintro _ H4 ⟨rfl, x4⟩
      simp only [go_sem, ↓reduceIte, Nat.reduceEqDiff, Nat.reduceLeDiff, Nat.reduceAdd, Nat.reduceMul, Nat.reduceSub, Nat.reduceBEq, Nat.reduceGT, Nat.reduceLT, Int.reduceLE, Int.reduceLT, Int.reduceNeg, reduceCtorEq]
      rw [hE']
      exact ⟨_, rfl, .inl ⟨rfl, rfl⟩, (h2.put hFw).ext x4, x4.old hw3, (ChX.put (X := (· = w)) cx2 (.inl rfl)).trans x4.chx⟩
  · have hE' : nextR s x = ({ f.1 with over := true }, [], false, f.2.2.2) := by rw [hE]; simp only [c1, false_and, if_false]
    simp only [go_sem, ↓reduceIte, Nat.reduceEqDiff, Nat.reduceLeDiff, Nat.reduceAdd, Nat.reduceMul, Nat.reduceSub, Nat.reduceBEq, Nat.reduceGT, Nat.reduceLT, Int.reduceLE, Int.reduceLT, Int.reduceNeg, reduceCtorEq, c1]
    refine ⟨rfl, hcan_of hw2 (by simp [rdC]), ?_⟩
    rw [hE']
    refine ⟨_, rfl, .inl ⟨rfl, rfl⟩, h2.put hFw, ?_, ChX.put (X := (· = w)) cx2 (.inl rfl)⟩
    unfold RdH
    rw [hput_same hw2]; rfl
def newR (n : Nm) : RdS := { name := n, at' := 0, data := 0, over := false }
/-- An Open: the reader, the head, the error. -/
def openF (s : St) (n : Nm) : RdS × List Int × Int :=
  let f := nextF s (newR n)
  if f.2.2.2 ≠ 0 then (f.1, [], f.2.2.2) else if f.2.1 ≠ 1 then (f.1, [], 90) else (f.1, f.2.2.1, 0)
set_option maxHeartbeats 1600000 in
theorem F101 {n : Nm} (h : FsH H F b s) (ok : Ok s) (ht : CrcTab H) :
    Fun Tryz.prog 101 #[ptrOf b, .string n] H (fun r H' => ∃ p u, r = .tuple #[p, u, .int .i64 (openF s n).2.2] ∧ V.Own H' H.size 5 1 u ((openF s n).2.1.map (.int .u8)) ∧
      FsH H' F b s ∧ Ext H H' ∧ (if (openF s n).2.2 = 0 then ∃ w, p = ptrOf w ∧ H.size ≤ w ∧ RdH H' w b (openF s n).1 else p = .pointer none)) := by
  refine fun_of mixed (args := [_, _]) Tryz.func101 Tryz.ntmps101 b101 r101 rfl ?_
  simp only [go_sem, ↓reduceIte, Nat.reduceEqDiff, Nat.reduceLeDiff, Nat.reduceAdd, Nat.reduceMul, Nat.reduceSub, Nat.reduceBEq, Nat.reduceGT, Nat.reduceLT, Int.reduceLE, Int.reduceLT, Int.reduceNeg, reduceCtorEq, ptrOf]
  have x1 : Ext H (H.push (.cells #[.pointer (some ⟨b, 0, none⟩), .string n, .int .i64 0, .int .i64 0, .bool false] 213)) := Ext.push _
  have hw1 : RdH (H.push (.cells #[.pointer (some ⟨b, 0, none⟩), .string n, .int .i64 0, .int .i64 0, .bool false] 213)) H.size b (newR n) := by
    unfold RdH
    rw [push_new]; rfl
  have hlt : ∀ g, F g → g < H.size := fun g hg => by obtain ⟨_, _, _, _, _, hP⟩ := h; exact hP.lt _ hg
  have nF : ¬ F H.size := fun e => by have := hlt _ e; omega
  have h1 := h.ext x1
  have ht1 := ht.ext x1
  generalize (H.push (.cells #[.pointer (some ⟨b, 0, none⟩), .string n, .int .i64 0, .int .i64 0, .bool false] 213)) = H1 at *
  refine FunI.by (F208 h1 ok hw1 nF ht1 (by simp [newR])) ?_
  rintro _ H2 ⟨u, rfl, ou, h2, hw2, cx2⟩
  have x12 : Ext H H2 := ⟨Nat.le_trans x1.size cx2.size, fun g hg => by
    rw [cx2.get g (by have := x1.size; omega) (fun e => e) (by omega), x1.get g hg]⟩
  have hE : openF s n = (let f := nextF s (newR n)
      if f.2.2.2 ≠ 0 then (f.1, [], f.2.2.2) else if f.2.1 ≠ 1 then (f.1, [], 90) else (f.1, f.2.2.1, 0)) := rfl
  obtain ⟨f, hf⟩ : ∃ f, f = nextF s (newR n) := ⟨_, rfl⟩
  rw [← hf] at hE ou hw2 ⊢
  clear hf
  obtain ⟨pa, pl, pc, rfl⟩ := ou.sl.form
  simp only [go_sem, ↓reduceIte, Nat.reduceEqDiff, Nat.reduceLeDiff, Nat.reduceAdd, Nat.reduceMul, Nat.reduceSub, Nat.reduceBEq, Nat.reduceGT, Nat.reduceLT, Int.reduceLE, Int.reduceLT, Int.reduceNeg, reduceCtorEq]
  refine ⟨rfl, hcan_of push_new (by simp), ?_⟩
  rw [hput_push2]
  have x3 : Ext H2 (H2.push (.cells #[.int .i64 f.2.1, .slice pa pl pc] 215)) := Ext.push _
  have f3 : (H2.push (.cells #[.int .i64 f.2.1, .slice pa pl pc] 215))[H2.size]? = some (.cells #[.int .i64 f.2.1, .slice pa pl pc] 215) := push_new
  have o3 := ou.ext x3
  have h3 := h2.ext x3
  have hw3 : RdH (H2.push (.cells #[.int .i64 f.2.1, .slice pa pl pc] 215)) H.size b f.1 := x3.old hw2
  have x13 : Ext H (H2.push (.cells #[.int .i64 f.2.1, .slice pa pl pc] 215)) := Upto.ext x12 x12.size x3
  generalize (H2.push (.cells #[.int .i64 f.2.1, .slice pa pl pc] 215)) = H3 at *
  have q0 : hget H3 H2.size 0 = some (.int .i64 f.2.1) := hget_cells f3
  have q1 : hget H3 H2.size 1 = some (.slice pa pl pc) := hget_cells f3
  by_cases c1 : f.2.2.2 = 0
  · by_cases c2 : f.2.1 = 1
    · have hE' : openF s n = (f.1, f.2.2.1, 0) := by rw [hE]; simp only [c1, c2, ne_eq, not_true, if_false]
      simp only [go_sem, ↓reduceIte, Nat.reduceEqDiff, Nat.reduceLeDiff, Nat.reduceAdd, Nat.reduceMul, Nat.reduceSub, Nat.reduceBEq, Nat.reduceGT, Nat.reduceLT, Int.reduceLE, Int.reduceLT, Int.reduceNeg, reduceCtorEq, c1, q0, c2, q1]
      rw [hE']
      exact ⟨_, _, rfl, o3.mono x1.size, h3, x13, by rw [if_pos rfl]; exact ⟨H.size, rfl, Nat.le_refl _, hw3⟩⟩
    · have hE' : openF s n = (f.1, [], 90) := by rw [hE]; simp only [c1, c2, ne_eq, not_true, if_false, not_false_eq_true, if_true]
      simp only [go_sem, ↓reduceIte, Nat.reduceEqDiff, Nat.reduceLeDiff, Nat.reduceAdd, Nat.reduceMul, Nat.reduceSub, Nat.reduceBEq, Nat.reduceGT, Nat.reduceLT, Int.reduceLE, Int.reduceLT, Int.reduceNeg, reduceCtorEq, c1, q0, c2, Int.reduceEq]
      rw [hE']
      exact ⟨_, _, rfl, .inl ⟨rfl, rfl⟩, h3, x13, by rw [if_neg (show ¬ ((90 : Int) = 0) by decide)]⟩
  · have hE' : openF s n = (f.1, [], f.2.2.2) := by rw [hE]; simp only [c1, ne_eq, not_false_eq_true, if_true]
    simp only [go_sem, ↓reduceIte, Nat.reduceEqDiff, Nat.reduceLeDiff, Nat.reduceAdd, Nat.reduceMul, Nat.reduceSub, Nat.reduceBEq, Nat.reduceGT, Nat.reduceLT, Int.reduceLE, Int.reduceLT, Int.reduceNeg, reduceCtorEq, c1]
    rw [hE']
    exact ⟨_, _, rfl, .inl ⟨rfl, rfl⟩, h3, x13, by rw [if_neg c1]⟩
end
end Go.Proofs.YtgigigchjnnonaaGreatDoor
