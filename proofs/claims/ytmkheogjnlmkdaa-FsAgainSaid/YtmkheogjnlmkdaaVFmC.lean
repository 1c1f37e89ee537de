/- The law FsAgain, over heaps. -/
import Derived.Test.YtmkheogjnlmkdaaVFlG
import Derived.Test.YtmkheogjnlmkdaaVFmB
import Derived.Test.YtmkheogjnlmkdaaVRowG
set_option linter.unusedSimpArgs false
set_option linter.unusedVariables false
set_option maxRecDepth 20000
namespace Go.Proofs.Ytmkheogjnlmkdaa
open Go Go.V Go.ChangeShapes Go.WideShapes Go.ChangeAt Go.RowKit
-- 9: pith/pithlaw8.FsAgain
-- 11: pith/pithlaw8.first
-- 42: pith/pithlaw8.filesOf
-- 22: pith/pithlaw8.num
-- 12: pith/fs.New
-- 14: pith/pithlaw8.does
-- 19: pith/pithlaw8.says
-- 28: (*pith/fs.FS).Arm
-- 39: (*pith/fs.FS).Create
-- 20: (*pith/fs.FS).Append
-- 21: (*pith/fs.FS).Sync
-- 34: (*pith/fs.FS).SyncDir
-- 25: (*pith/fs.FS).Crash
-- 33: (*pith/fs.FS).Names
-- 38: (*pith/fs.FS).Lasting
-- 13: (*pith/fs.FS).Held
-- 31: (*pith/fs.FS).Read
-- 24: (*pith/fs.FS).Pending
-- 40: pith/pithref.SameTexts
-- 41: pith/pithref.SameFiles
-- 3: int
-- 30: pithlaw8.Step
-- 5: uint8
-- 9: string
-- 34: []uint8
-- 44: pith/api.File
-- 26: []api.File
def allL (s : St) (ns : List Nm) : List Fl := ns.map fun n => (n, ((s.now n).map s.dat).getD [])
theorem all_props {s : St} (ok : Ok s) {ns : List Nm} (h : IsNames s.now ns) {m : Nat} (hm : ∀ x ∈ s.held, (s.dat x).length ≤ m) : Nd (allL s ns) ∧ viewS s = lkp (allL s ns) ∧ (allL s ns).length ≤ s.held.length ∧ ∀ x ∈ allL s ns, Byt x.2 ∧ x.2.length ≤ m := by
  have nd : Nd (allL s ns) := by
    unfold Nd allL
    rw [List.map_map]
    have : ((fun x : Fl => x.1) ∘ fun n : Nm => (n, ((s.now n).map s.dat).getD [])) = id := rfl
    rw [this, List.map_id]
    exact names_nodup h
  have hex : ∀ n ∈ ns, ∃ x, s.now n = some x := fun n hn => by
    cases hx : s.now n with
    | none => exact absurd hx ((h.2 n).1 hn)
    | some x => exact ⟨x, rfl⟩
  refine ⟨nd, ?_, by unfold allL; rw [List.length_map]; exact names_len h ok.nowI ok.nowH, fun x hx => ?_⟩
  · funext n
    unfold viewS
    cases hx : s.now n with
    | none =>
      refine (look_none.2 fun y hy e => ?_).symm
      obtain ⟨k, hk, rfl⟩ := List.mem_map.1 hy
      have e : k = n := e
      subst e
      exact (h.2 k).1 hk hx
    | some x =>
      refine ((look_some nd).2 (List.mem_map.2 ⟨n, (h.2 n).2 (by rw [hx]; simp), ?_⟩)).symm
      rw [hx]; rfl
  · obtain ⟨n, hn, rfl⟩ := List.mem_map.1 hx
    obtain ⟨y, hy⟩ := hex n hn
    rw [hy]
    have := ok.nowH n y hy
    exact ⟨ok.byt y this, hm y this⟩
section
variable {H : Heap} {F : Nat → Prop} {b : Nat} {s : St}
set_option maxHeartbeats 3200000 in
theorem F42 (h : FsH H F b s) (ok : Ok s) (hn : s.ops < 2932031000000 / 10) (hoff : s.off = false) {m : Nat} (hm : ∀ x ∈ s.held, (s.dat x).length ≤ m) (hm2 : m ≤ 1073741824) :
    Fun Try.prog 42 #[ptrOf b] H (fun r H' => ∃ L, FilesN H' (fun g => H.size ≤ g ∧ g < H'.size) r L ∧ Nd L ∧ viewS s = lkp L ∧ L.length ≤ s.held.length ∧ (∀ x ∈ L, Byt x.2 ∧ x.2.length ≤ m) ∧ Ext H H') := by
  refine fun_of mixed (args := [_]) Try.func42 Try.ntmps42 b42 r42 rfl ?_
  obtain ⟨mb, lb, hb, pv, dv, p⟩ := h
  have hhl := ok.hlen
  simp only [go_sem, ↓reduceIte, Nat.reduceEqDiff, Nat.reduceLeDiff, Nat.reduceAdd, Nat.reduceMul, Nat.reduceSub, Nat.reduceBEq, Nat.reduceGT, Nat.reduceLT, Int.reduceLE, Int.reduceLT, Int.reduceNeg, reduceCtorEq, ptrOf]
  refine FunI.by (F33 p ok (by omega)) ?_
  rintro v1 H1 ⟨ns, hns, o1, x1⟩
  rw [hoff] at hns
  simp only [Bool.false_eq_true, if_false] at hns
  have hnl := names_len hns ok.nowI ok.nowH
  obtain ⟨a1, c1, rfl⟩ := strs_form o1.sl
  simp only [go_sem, ↓reduceIte, Nat.reduceEqDiff, Nat.reduceLeDiff, Nat.reduceAdd, Nat.reduceMul, Nat.reduceSub, Nat.reduceBEq, Nat.reduceGT, Nat.reduceLT, Int.reduceLE, Int.reduceLT, Int.reduceNeg, reduceCtorEq]
  have hs1 := x1.size
  refine LoopI.by mixed (fun ρ H' => ∃ (i : Nat) (v : Value) (P : List (Value × Fl)), ρ 0 = ptrOf b ∧ ρ 3 = v ∧ ρ 4 = .slice a1 ns.length c1 ∧ ρ 5 = .int .i64 i ∧ i ≤ ns.length ∧ P.map (·.2) = allL s (ns.take i) ∧ FilesO H' H1.size v P ∧ Ext H1 H') (fun ρ _ => ns.length - (iof (ρ 5)).toNat) ?_ ?_
  · exact ⟨0, _, [], by simp only [go_sem, ↓reduceIte, Nat.reduceEqDiff, Nat.reduceLeDiff, Nat.reduceAdd, Nat.reduceMul, Nat.reduceSub, Nat.reduceBEq, Nat.reduceGT, Nat.reduceLT, Int.reduceLE, Int.reduceLT, Int.reduceNeg, reduceCtorEq, ptrOf], by simp only [go_sem, ↓reduceIte, Nat.reduceEqDiff, Nat.reduceLeDiff, Nat.reduceAdd, Nat.reduceMul, Nat.reduceSub, Nat.reduceBEq, Nat.reduceGT, Nat.reduceLT, Int.reduceLE, Int.reduceLT, Int.reduceNeg, reduceCtorEq] <;> rfl, by simp only [go_sem, ↓reduceIte, Nat.reduceEqDiff, Nat.reduceLeDiff, Nat.reduceAdd, Nat.reduceMul, Nat.reduceSub, Nat.reduceBEq, Nat.reduceGT, Nat.reduceLT, Int.reduceLE, Int.reduceLT, Int.reduceNeg, reduceCtorEq], by simp only [go_sem, ↓reduceIte, Nat.reduceEqDiff, Nat.reduceLeDiff, Nat.reduceAdd, Nat.reduceMul, Nat.reduceSub, Nat.reduceBEq, Nat.reduceGT, Nat.reduceLT, Int.reduceLE, Int.reduceLT, Int.reduceNeg, reduceCtorEq] <;> rfl, by omega, rfl, ⟨Own.nil, by simp, by simp⟩, Upto.refl _ _⟩
  rintro ρ H4 ⟨i, v, P, e0, e3, e4, e5, hi, hP, ho, hx⟩
  have xx : Ext H H4 := x1.trans (hx.mono x1.size)
  by_cases hlt : i < ns.length
  · have z0 : (0 : Int) ≤ i := by omega
    have z1 : (i : Int) < ns.length := by omega
    have w1 : IntKind.i64.wrap ((i : Int) + 1) = ((i + 1 : Nat) : Int) := by rw [w64_id (by omega) (by omega)]; omega
    obtain ⟨n, hni⟩ : ∃ n, ns[i]? = some n := ⟨_, List.getElem?_eq_getElem hlt⟩
    obtain ⟨g5, o5, rfl, hgn⟩ := txts_at (ns := ns) ((o1.ext hx).sl) hni
    have hmem := List.mem_of_getElem? hni
    obtain ⟨x, hxn⟩ : ∃ x, s.now n = some x := by
      cases hxn : s.now n with
      | none => exact absurd hxn ((hns.2 n).1 hmem)
      | some x => exact ⟨x, rfl⟩
    have hxh := ok.nowH _ _ hxn
    have hnm := ok.nowN _ _ hxn
    have hle := hm x hxh
    have fs0 : findS s n = (some x, 0) := by rw [find_on hoff hnm, hxn]
    have er : readS s n 0 1073741824 = (s.dat x, 0) := by
      unfold readS
      rw [fs0]
      simp only
      rw [if_neg (by omega)]
      show ((List.drop 0 (s.dat x)).take 1073741824, (0 : Int)) = _
      rw [List.drop_zero, List.take_of_length_le (by omega)]
    simp only [go_sem, ↓reduceIte, Nat.reduceEqDiff, Nat.reduceLeDiff, Nat.reduceAdd, Nat.reduceMul, Nat.reduceSub, Nat.reduceBEq, Nat.reduceGT, Nat.reduceLT, Int.reduceLE, Int.reduceLT, Int.reduceNeg, reduceCtorEq, c42_L0, e0, e3, e4, e5, z0, z1, Int.toNat_natCast, Nat.mul_one, hgn, ptrOf]
    refine FunI.by (F31 (p.ext xx) ok n 0 1073741824 (by omega)) ?_
    rintro _ H5 ⟨v5, rfl, o5', x5⟩
    rw [er] at o5' ⊢
    obtain ⟨a6, l6, cc6, rfl⟩ := Sl.form o5'.sl
    have hP1 : P.length = i := by have := congrArg List.length hP; simpa [allL, Nat.min_eq_left hi] using this
    simp only [go_sem, ↓reduceIte, Nat.reduceEqDiff, Nat.reduceLeDiff, Nat.reduceAdd, Nat.reduceMul, Nat.reduceSub, Nat.reduceBEq, Nat.reduceGT, Nat.reduceLT, Int.reduceLE, Int.reduceLT, Int.reduceNeg, reduceCtorEq, e0, e3, e4, e5, z0, z1, Int.toNat_natCast, Nat.mul_one, hget_ext x5 hgn]
    refine RunI.by (append_lit ty26 ty44 rfl (by decide) (ho.own.ext x5) (ys := [.string n, .slice a6 l6 cc6]) (m := 1) rfl rfl (n := i + 1) (by rw [fileK.cells_len, hP1]; simp; omega) (by omega) (by omega) (Nat.le_trans hx.size x5.size)) ?_
    rintro v2 H6 ⟨h1, h2, _⟩
    simp only [go_sem, ↓reduceIte, Nat.reduceEqDiff, Nat.reduceLeDiff, Nat.reduceAdd, Nat.reduceMul, Nat.reduceSub, Nat.reduceBEq, Nat.reduceGT, Nat.reduceLT, Int.reduceLE, Int.reduceLT, Int.reduceNeg, reduceCtorEq, e5, w1]
    have hx2 : Upto H1.size H5 H6 := h2.upto (ho.own.ext x5) (Nat.le_trans hx.size x5.size)
    have inner : ∀ {w : Value} {ys : List Value}, Own H5 H1.size 5 1 w ys → Own H6 H1.size 5 1 w ys := fun hw => hw.byTag (ho.own.ext x5) h2.but (by decide : 5 ≠ 44)
    refine ⟨Hold.mk ⟨i + 1, v2, P ++ [(.slice a6 l6 cc6, (n, s.dat x))], by simp only [go_sem, ↓reduceIte, Nat.reduceEqDiff, Nat.reduceLeDiff, Nat.reduceAdd, Nat.reduceMul, Nat.reduceSub, Nat.reduceBEq, Nat.reduceGT, Nat.reduceLT, Int.reduceLE, Int.reduceLT, Int.reduceNeg, reduceCtorEq, e0], by simp only [go_sem, ↓reduceIte, Nat.reduceEqDiff, Nat.reduceLeDiff, Nat.reduceAdd, Nat.reduceMul, Nat.reduceSub, Nat.reduceBEq, Nat.reduceGT, Nat.reduceLT, Int.reduceLE, Int.reduceLT, Int.reduceNeg, reduceCtorEq], by simp only [go_sem, ↓reduceIte, Nat.reduceEqDiff, Nat.reduceLeDiff, Nat.reduceAdd, Nat.reduceMul, Nat.reduceSub, Nat.reduceBEq, Nat.reduceGT, Nat.reduceLT, Int.reduceLE, Int.reduceLT, Int.reduceNeg, reduceCtorEq, e4], by simp only [go_sem, ↓reduceIte, Nat.reduceEqDiff, Nat.reduceLeDiff, Nat.reduceAdd, Nat.reduceMul, Nat.reduceSub, Nat.reduceBEq, Nat.reduceGT, Nat.reduceLT, Int.reduceLE, Int.reduceLT, Int.reduceNeg, reduceCtorEq], by omega, ?_, ⟨?_, ?_, ?_⟩, (hx.trans (x5.mono hx.size)).trans hx2⟩, by omega⟩
    · rw [List.map_append, hP, List.take_add_one, hni]
      unfold allL
      rw [List.map_append]
      congr 1
      show [(n, s.dat x)] = [(n, ((s.now n).map s.dat).getD [])]
      rw [hxn]; rfl
    · rw [fileK.cells_snoc]; exact h1
    · intro q hq
      rcases List.mem_append.1 hq with hq | hq
      · exact inner ((ho.each q hq).ext x5)
      · simp only [List.mem_singleton] at hq
        subst hq
        exact inner (o5'.mono hx.size)
    · rw [List.map_append, List.pairwise_append]
      refine ⟨ho.ap, by simp, fun w hw u' hu' => ?_⟩
      simp only [List.map_cons, List.map_nil, List.mem_singleton] at hu'
      subst hu'
      obtain ⟨q, hq, rfl⟩ := List.mem_map.1 hw
      cases hbw : blk q.1 with
      | none => exact .inl hbw
      | some g =>
        right
        rw [hbw]
        intro he
        have := ((ho.each q hq).blk hbw).2.1
        have := (o5'.blk he.symm).1
        omega
  · have z1 : ¬ (i : Int) < ns.length := by omega
    simp only [go_sem, ↓reduceIte, Nat.reduceEqDiff, Nat.reduceLeDiff, Nat.reduceAdd, Nat.reduceMul, Nat.reduceSub, Nat.reduceBEq, Nat.reduceGT, Nat.reduceLT, Int.reduceLE, Int.reduceLT, Int.reduceNeg, reduceCtorEq, c42_L0, e0, e3, e4, e5, z1]
    have : i = ns.length := by omega
    subst this
    rw [List.take_of_length_le (Nat.le_refl _)] at hP
    obtain ⟨q1, q2, q3, q4⟩ := all_props ok hns hm
    refine ⟨allL s ns, hP ▸ ho.n fun g h1 h2 => ⟨by omega, h2⟩, q1, q2, q3, q4, xx⟩
end
theorem sorted_unique : ∀ (l r : List Nm), l.Pairwise (fun a b => a.data.toList < b.data.toList) → r.Pairwise (fun a b => a.data.toList < b.data.toList) → (∀ n, n ∈ l ↔ n ∈ r) → l = r
  | [], [], _, _, _ => rfl
  | [], b :: r, _, _, h => by have := (h b).2 List.mem_cons_self; simp at this
  | a :: l, [], _, _, h => by have := (h a).1 List.mem_cons_self; simp at this
  | a :: l, b :: r, hl, hr, h => by
    have hl' := List.pairwise_cons.1 hl
    have hr' := List.pairwise_cons.1 hr
    have e : a = b := by
      refine Classical.byContradiction fun hne => ?_
      have h1 : a ∈ r := by
        rcases List.mem_cons.1 ((h a).1 List.mem_cons_self) with e | e
        · exact absurd e hne
        · exact e
      have h2 : b ∈ l := by
        rcases List.mem_cons.1 ((h b).2 List.mem_cons_self) with e | e
        · exact absurd e.symm hne
        · exact e
      exact List.lt_asymm (hl'.1 b h2) (hr'.1 a h1)
    subst e
    congr 1
    refine sorted_unique l r hl'.2 hr'.2 fun n => ⟨fun hn => ?_, fun hn => ?_⟩
    · rcases List.mem_cons.1 ((h n).1 (List.mem_cons_of_mem _ hn)) with e | e
      · subst e; exact absurd (hl'.1 n hn) (List.lt_irrefl _)
      · exact e
    · rcases List.mem_cons.1 ((h n).2 (List.mem_cons_of_mem _ hn)) with e | e
      · subst e; exact absurd (hr'.1 n hn) (List.lt_irrefl _)
      · exact e
theorem names_unique {D E : Dir} {ns ms : List Nm} (h : IsNames D ns) (k : IsNames E ms) (hd : ∀ n, E n ≠ none ↔ D n ≠ none) : ns = ms :=
  sorted_unique ns ms h.1 k.1 fun n => by rw [h.2 n, k.2 n, hd n]
theorem Sim.lastD {φ : Nat → Nat} {s t : St} (h : Sim φ s t) (ok : Ok s) (n : Nm) : V.lastD t n = V.lastD s n := by
  unfold V.lastD
  rw [h.last n]
  cases hx : s.last n with
  | none => rfl
  | some x =>
    have := ok.lastH _ _ hx
    simp only [Option.map_some]
    rw [h.dat x this, h.syn x this]
/-- Two file systems beside one another. -/
structure Two (H H' : Heap) (F G : Nat → Prop) (b c : Nat) (s t : St) : Prop where
  f : FsH H' F b s
  g : FsH H' G c t
  dis : ∀ x, F x → ¬ G x
  ext : Ext H H'
  nf : ∀ x, F x → H.size ≤ x
  ng : ∀ x, G x → H.size ≤ x
theorem Two.x {H H' H2 : Heap} {F G : Nat → Prop} {b c : Nat} {s t : St} (h : Two H H' F G b c s t) (x : Ext H' H2) : Two H H2 F G b c s t :=
  ⟨h.f.ext x, h.g.ext x, h.dis, h.ext.trans (x.mono h.ext.size), h.nf, h.ng⟩
theorem Two.left {H H' H2 : Heap} {F G F' : Nat → Prop} {b c : Nat} {s s' t : St} (h : Two H H' F G b c s t) (ch : Ch F F' H' H2) (h' : FsH H2 F' b s') : Two H H2 F' G b c s' t := by
  obtain ⟨h1, h2⟩ := h.g.other ch fun x hx hf => h.dis x hf hx
  have n := Newly.ch ⟨h.ext, h.nf⟩ ch
  exact ⟨h', h1, fun x hx hg => h2 x hg hx, n.1, n.2, h.ng⟩
theorem Two.right {H H' H2 : Heap} {F G G' : Nat → Prop} {b c : Nat} {s t t' : St} (h : Two H H' F G b c s t) (ch : Ch G G' H' H2) (h' : FsH H2 G' c t') : Two H H2 F G' b c s t' := by
  obtain ⟨h1, h2⟩ := h.f.other ch fun x hx => h.dis x hx
  have n := Newly.ch ⟨h.ext, h.ng⟩ ch
  exact ⟨h1, h', h2, n.1, h.nf, n.2⟩
set_option maxHeartbeats 12800000 in
theorem F9 (room : Int) (v1 : Value) (os : List Stp) (v2 : Value) (ms : List Stp) (k dir : Int) (v5 : Value) (cuts : List Int) (H : Heap) (hv1 : Steps H v1 os) (hf : ∀ t ∈ os, 0 ≤ t.fill ∧ t.fill < 256) (hv2 : Steps H v2 ms) (hm : ∀ t ∈ ms, 0 ≤ t.fill ∧ t.fill < 256)
    (hk : IntR .i64 k) (hd : IntR .i64 dir) (hv5 : Ints H 3 .i64 v5 cuts) (hcr : ∀ y ∈ cuts, IntR .i64 y) :
    Fun Try.prog 9 #[.int .i64 room, v1, v2, .int .i64 k, .int .i64 dir, v5] H (fun r H' => r = .bool true ∧ Ext H H') := by
  replace hk : k < 9223372036854775808 := (i64_rng hk).2
  obtain ⟨a1, c1, rfl⟩ := steps_form hv1
  obtain ⟨a2, c2, rfl⟩ := steps_form hv2
  obtain ⟨a5, c5, rfl⟩ := hv5.form
  refine fun_of mixed (args := [_, _, _, _, _, _]) Try.func9 Try.ntmps9 b9 r9 rfl ?_
  simp only [go_sem, ↓reduceIte, Nat.reduceEqDiff, Nat.reduceLeDiff, Nat.reduceAdd, Nat.reduceMul, Nat.reduceSub, Nat.reduceBEq, Nat.reduceGT, Nat.reduceLT, Int.reduceLE, Int.reduceLT, Int.reduceNeg, reduceCtorEq]
  refine FunI.by (F11 H) ?_
  rintro _ H1 ⟨rfl, x1⟩
  simp only [go_sem, ↓reduceIte, Nat.reduceEqDiff, Nat.reduceLeDiff, Nat.reduceAdd, Nat.reduceMul, Nat.reduceSub, Nat.reduceBEq, Nat.reduceGT, Nat.reduceLT, Int.reduceLE, Int.reduceLT, Int.reduceNeg, reduceCtorEq]
  refine FunI.by (F12 room H1 trivial) ?_
  rintro f H2 ⟨x2, h⟩
  have x12 := x1.trans (x2.mono x1.size)
  simp only [go_sem, ↓reduceIte, Nat.reduceEqDiff, Nat.reduceLeDiff, Nat.reduceAdd, Nat.reduceMul, Nat.reduceSub, Nat.reduceBEq, Nat.reduceGT, Nat.reduceLT, Int.reduceLE, Int.reduceLT, Int.reduceNeg, reduceCtorEq]
  refine FunI.by (F12 room H2 trivial) ?_
  rintro g H3 ⟨x3, hg⟩
  have x13 := x12.trans (x3.mono x12.size)
  by_cases hr : room < 0 ∨ 2147483647 < room
  · rw [if_pos hr] at h hg
    subst h
    subst hg
    rcases hr with hr | hr
    · simp only [go_sem, ↓reduceIte, Nat.reduceEqDiff, Nat.reduceLeDiff, Nat.reduceAdd, Nat.reduceMul, Nat.reduceSub, Nat.reduceBEq, Nat.reduceGT, Nat.reduceLT, Int.reduceLE, Int.reduceLT, Int.reduceNeg, reduceCtorEq, hr]
      exact x13
    · have hr2 : ¬ room < 0 := by omega
      have hr3 : (2147483647 : Int) < room := hr
      simp only [go_sem, ↓reduceIte, Nat.reduceEqDiff, Nat.reduceLeDiff, Nat.reduceAdd, Nat.reduceMul, Nat.reduceSub, Nat.reduceBEq, Nat.reduceGT, Nat.reduceLT, Int.reduceLE, Int.reduceLT, Int.reduceNeg, reduceCtorEq, hr2, hr3]
      exact x13
  rw [if_neg hr] at h hg
  obtain ⟨b, F, rfl, h2, n2⟩ := h
  obtain ⟨c, G, rfl, h3, n3⟩ := hg
  have F2lt : ∀ x, F x → x < H2.size := fun x hx => by obtain ⟨_, _, _, _, _, q⟩ := h2; exact q.lt x hx
  have two0 : Two H H3 F G b c (freshS room) (freshS room) := ⟨h2.ext x3, h3, fun x hx hg => by have := F2lt x hx; have := n3 x hg; omega, x13, fun x hx => Nat.le_trans x1.size (n2 x hx), fun x hx => Nat.le_trans x12.size (n3 x hx)⟩
  clear h2 h3 n2 n3 F2lt x12 x13 x1 x2 x3
  have okF : Ok (freshS room) := fresh_ok (by omega)
  by_cases hk0 : (0 : Int) < k
  case' pos =>
    simp only [go_sem, ↓reduceIte, Nat.reduceEqDiff, Nat.reduceLeDiff, Nat.reduceAdd, Nat.reduceMul, Nat.reduceSub, Nat.reduceBEq, Nat.reduceGT, Nat.reduceLT, Int.reduceLE, Int.reduceLT, Int.reduceNeg, reduceCtorEq, ptrOf, hk0]
    refine FunI.by (F28 two0.f k) ?_
    rintro _ H4 ⟨rfl, h4, c4⟩
    have e1 : armS (freshS room) k = ({ freshS room with fuse := k }, 0) := by
      unfold armS; rw [if_neg (by omega), if_neg (by simp [freshS])]
    have ok4 := arm_ok okF (k := k) hk
    rw [e1] at h4 ok4
    have q4 : ∃ (Hc : Heap) (F : Nat → Prop) (s : St), Hc = H4 ∧ Two H Hc F G b c s (freshS room) ∧ Ok s ∧ s.ops = 0 ∧ s.room = room ∧ s.held = [] := ⟨H4, F, _, rfl, two0.left c4 h4, ok4, rfl, rfl, rfl⟩
    simp only [go_sem, ↓reduceIte, Nat.reduceEqDiff, Nat.reduceLeDiff, Nat.reduceAdd, Nat.reduceMul, Nat.reduceSub, Nat.reduceBEq, Nat.reduceGT, Nat.reduceLT, Int.reduceLE, Int.reduceLT, Int.reduceNeg, reduceCtorEq, ptrOf]
    clear h4 ok4 c4
  case' neg =>
    have q4 : ∃ (Hc : Heap) (F : Nat → Prop) (s : St), Hc = H3 ∧ Two H Hc F G b c s (freshS room) ∧ Ok s ∧ s.ops = 0 ∧ s.room = room ∧ s.held = [] := ⟨H3, F, _, rfl, two0, okF, rfl, rfl, rfl⟩
    simp only [go_sem, ↓reduceIte, Nat.reduceEqDiff, Nat.reduceLeDiff, Nat.reduceAdd, Nat.reduceMul, Nat.reduceSub, Nat.reduceBEq, Nat.reduceGT, Nat.reduceLT, Int.reduceLE, Int.reduceLT, Int.reduceNeg, reduceCtorEq, ptrOf, hk0]
  all_goals
    clear two0
    obtain ⟨Hc, F4, s4, eH, two4, ok4, op4, ro4, he4⟩ := q4
    subst eH
    refine LoopI.by mixed (fun ρ H' => ∃ (i : Nat) (s : St) (F : Nat → Prop), ρ 0 = .int .i64 room ∧ ρ 1 = .slice a1 os.length c1 ∧ ρ 2 = .slice a2 ms.length c2 ∧ ρ 4 = .int .i64 dir ∧ ρ 5 = .slice a5 cuts.length c5 ∧ ρ 14 = ptrOf b ∧ ρ 15 = ptrOf c ∧ ρ 16 = .int .i64 i ∧ i ≤ os.length ∧ i ≤ 200 ∧
      Two H H' F G b c s (freshS room) ∧ Ok s ∧ s.ops ≤ i ∧ s.room = room ∧ (∀ x ∈ s.held, (s.dat x).length ≤ 50 * i)) (fun ρ _ => os.length - (iof (ρ 16)).toNat) ?_ ?_
    · exact ⟨0, s4, F4, by simp only [go_sem, ↓reduceIte, Nat.reduceEqDiff, Nat.reduceLeDiff, Nat.reduceAdd, Nat.reduceMul, Nat.reduceSub, Nat.reduceBEq, Nat.reduceGT, Nat.reduceLT, Int.reduceLE, Int.reduceLT, Int.reduceNeg, reduceCtorEq], by simp only [go_sem, ↓reduceIte, Nat.reduceEqDiff, Nat.reduceLeDiff, Nat.reduceAdd, Nat.reduceMul, Nat.reduceSub, Nat.reduceBEq, Nat.reduceGT, Nat.reduceLT, Int.reduceLE, Int.reduceLT, Int.reduceNeg, reduceCtorEq], by simp only [go_sem, ↓reduceIte, Nat.reduceEqDiff, Nat.reduceLeDiff, Nat.reduceAdd, Nat.reduceMul, Nat.reduceSub, Nat.reduceBEq, Nat.reduceGT, Nat.reduceLT, Int.reduceLE, Int.reduceLT, Int.reduceNeg, reduceCtorEq], by simp only [go_sem, ↓reduceIte, Nat.reduceEqDiff, Nat.reduceLeDiff, Nat.reduceAdd, Nat.reduceMul, Nat.reduceSub, Nat.reduceBEq, Nat.reduceGT, Nat.reduceLT, Int.reduceLE, Int.reduceLT, Int.reduceNeg, reduceCtorEq], by simp only [go_sem, ↓reduceIte, Nat.reduceEqDiff, Nat.reduceLeDiff, Nat.reduceAdd, Nat.reduceMul, Nat.reduceSub, Nat.reduceBEq, Nat.reduceGT, Nat.reduceLT, Int.reduceLE, Int.reduceLT, Int.reduceNeg, reduceCtorEq], by simp only [go_sem, ↓reduceIte, Nat.reduceEqDiff, Nat.reduceLeDiff, Nat.reduceAdd, Nat.reduceMul, Nat.reduceSub, Nat.reduceBEq, Nat.reduceGT, Nat.reduceLT, Int.reduceLE, Int.reduceLT, Int.reduceNeg, reduceCtorEq, ptrOf], by simp only [go_sem, ↓reduceIte, Nat.reduceEqDiff, Nat.reduceLeDiff, Nat.reduceAdd, Nat.reduceMul, Nat.reduceSub, Nat.reduceBEq, Nat.reduceGT, Nat.reduceLT, Int.reduceLE, Int.reduceLT, Int.reduceNeg, reduceCtorEq, ptrOf], by simp only [go_sem, ↓reduceIte, Nat.reduceEqDiff, Nat.reduceLeDiff, Nat.reduceAdd, Nat.reduceMul, Nat.reduceSub, Nat.reduceBEq, Nat.reduceGT, Nat.reduceLT, Int.reduceLE, Int.reduceLT, Int.reduceNeg, reduceCtorEq] <;> rfl, by omega, by omega, two4, ok4, by omega, ro4, fun x hx => by rw [he4] at hx; simp at hx⟩
    clear two4 ok4 op4 ro4 he4
    rintro ρ H' ⟨i, s, F, e0, e1, e2, e4, e5, e14, e15, e16, hi, hi3, two, ok, hops, hro, hlen⟩
    by_cases hlt : i < os.length ∧ i < 200
    case' pos =>
      obtain ⟨hl1, hl2⟩ := hlt
      obtain ⟨t, hti⟩ : ∃ t, os[i]? = some t := ⟨_, List.getElem?_eq_getElem hl1⟩
      have htf := hf t (List.mem_of_getElem? hti)
      obtain ⟨g, o, rfl, k0, k1, k2, k3, k4⟩ := steps_at (show Steps H' (.slice a1 os.length c1) os from Sl.ext hv1 two.ext) hti
      have c0 : (0 : Int) ≤ i := by omega
      have z1 : (i : Int) < os.length := by omega
      have z2 : (i : Int) < 200 := by omega
      have w2 : IntKind.i64.wrap ((i : Int) + 1) = ((i + 1 : Nat) : Int) := by rw [w64_id (by omega) (by omega)]; omega
      simp only [go_sem, ↓reduceIte, Nat.reduceEqDiff, Nat.reduceLeDiff, Nat.reduceAdd, Nat.reduceMul, Nat.reduceSub, Nat.reduceBEq, Nat.reduceGT, Nat.reduceLT, Int.reduceLE, Int.reduceLT, Int.reduceNeg, reduceCtorEq, c9_L0, e0, e1, e2, e4, e5, e14, e15, e16, c0, z1, z2, Int.toNat_natCast, hgets5, k0, k1, k2, k3, k4, Option.bind_some, w2]
      refine FunI.by (F14 two.f ok (by omega) t htf) ?_
      rintro _ H5 ⟨x, hx, rfl, F5, h5, ch5⟩
      have op := does_ops s t x
      have dl := does_len hlen t x
      simp only [go_sem, ↓reduceIte, Nat.reduceEqDiff, Nat.reduceLeDiff, Nat.reduceAdd, Nat.reduceMul, Nat.reduceSub, Nat.reduceBEq, Nat.reduceGT, Nat.reduceLT, Int.reduceLE, Int.reduceLT, Int.reduceNeg, reduceCtorEq, e16, w2]
      exact ⟨Hold.mk ⟨i + 1, _, F5, by simp only [go_sem, ↓reduceIte, Nat.reduceEqDiff, Nat.reduceLeDiff, Nat.reduceAdd, Nat.reduceMul, Nat.reduceSub, Nat.reduceBEq, Nat.reduceGT, Nat.reduceLT, Int.reduceLE, Int.reduceLT, Int.reduceNeg, reduceCtorEq, e0], by simp only [go_sem, ↓reduceIte, Nat.reduceEqDiff, Nat.reduceLeDiff, Nat.reduceAdd, Nat.reduceMul, Nat.reduceSub, Nat.reduceBEq, Nat.reduceGT, Nat.reduceLT, Int.reduceLE, Int.reduceLT, Int.reduceNeg, reduceCtorEq, e1], by simp only [go_sem, ↓reduceIte, Nat.reduceEqDiff, Nat.reduceLeDiff, Nat.reduceAdd, Nat.reduceMul, Nat.reduceSub, Nat.reduceBEq, Nat.reduceGT, Nat.reduceLT, Int.reduceLE, Int.reduceLT, Int.reduceNeg, reduceCtorEq, e2], by simp only [go_sem, ↓reduceIte, Nat.reduceEqDiff, Nat.reduceLeDiff, Nat.reduceAdd, Nat.reduceMul, Nat.reduceSub, Nat.reduceBEq, Nat.reduceGT, Nat.reduceLT, Int.reduceLE, Int.reduceLT, Int.reduceNeg, reduceCtorEq, e4], by simp only [go_sem, ↓reduceIte, Nat.reduceEqDiff, Nat.reduceLeDiff, Nat.reduceAdd, Nat.reduceMul, Nat.reduceSub, Nat.reduceBEq, Nat.reduceGT, Nat.reduceLT, Int.reduceLE, Int.reduceLT, Int.reduceNeg, reduceCtorEq, e5], by simp only [go_sem, ↓reduceIte, Nat.reduceEqDiff, Nat.reduceLeDiff, Nat.reduceAdd, Nat.reduceMul, Nat.reduceSub, Nat.reduceBEq, Nat.reduceGT, Nat.reduceLT, Int.reduceLE, Int.reduceLT, Int.reduceNeg, reduceCtorEq, e14], by simp only [go_sem, ↓reduceIte, Nat.reduceEqDiff, Nat.reduceLeDiff, Nat.reduceAdd, Nat.reduceMul, Nat.reduceSub, Nat.reduceBEq, Nat.reduceGT, Nat.reduceLT, Int.reduceLE, Int.reduceLT, Int.reduceNeg, reduceCtorEq, e15], by simp only [go_sem, ↓reduceIte, Nat.reduceEqDiff, Nat.reduceLeDiff, Nat.reduceAdd, Nat.reduceMul, Nat.reduceSub, Nat.reduceBEq, Nat.reduceGT, Nat.reduceLT, Int.reduceLE, Int.reduceLT, Int.reduceNeg, reduceCtorEq], by omega, by omega, two.left ch5 h5, does_ok ok t hx, by omega, by rw [op.1, hro], fun y hy => by have := dl y hy; omega⟩, by omega⟩
    by_cases hl1 : (i : Int) < os.length
    case' pos =>
      have hl2 : ¬ (i : Int) < 200 := by omega
      simp only [go_sem, ↓reduceIte, Nat.reduceEqDiff, Nat.reduceLeDiff, Nat.reduceAdd, Nat.reduceMul, Nat.reduceSub, Nat.reduceBEq, Nat.reduceGT, Nat.reduceLT, Int.reduceLE, Int.reduceLT, Int.reduceNeg, reduceCtorEq, c9_L0, e0, e1, e2, e4, e5, e14, e15, e16, hl1, hl2]
    case' neg =>
      simp only [go_sem, ↓reduceIte, Nat.reduceEqDiff, Nat.reduceLeDiff, Nat.reduceAdd, Nat.reduceMul, Nat.reduceSub, Nat.reduceBEq, Nat.reduceGT, Nat.reduceLT, Int.reduceLE, Int.reduceLT, Int.reduceNeg, reduceCtorEq, c9_L0, e0, e1, e2, e4, e5, e14, e15, e16, hl1]
    all_goals
      obtain ⟨mb, lb, hb, pv, dv, p⟩ := two.f
      refine FunI.by (F25 p ok (by omega) dir (Sl.ext hv5 two.ext) (fun hne g hg hF => ?_)) ?_
      · have hpos : 0 < cuts.length := List.length_pos_iff.2 hne
        obtain ⟨b4, o4, rfl⟩ := hv5.at hpos
        simp only [blk, Option.some.injEq] at hg
        subst hg
        have := (Sl.lt hv5 hpos).1
        have := two.nf _ hF
        omega
      rintro _ H5 ⟨ns, F5, hns, h5, ch5⟩
      have two5 := two.left ch5 h5
      have ok5 := crash_ok ok dir cuts ns
      obtain ⟨z1, z2, _⟩ := crash_ops s dir cuts ns
      obtain ⟨calm, hlen5⟩ := crash_calm ok (cuts := cuts) hns
      replace hlen5 := hlen5 (50 * 200) fun x hx => by have := hlen x hx; omega
      have hops5 : (crashS s dir cuts ns).ops ≤ 200 := by omega
      have hro5 : (crashS s dir cuts ns).room = room := by rw [z2, hro]
      clear h5 ch5 hns two ok hops hro hlen p z1 z2
      generalize crashS s dir cuts ns = s5 at *
      simp only [go_sem, ↓reduceIte, Nat.reduceEqDiff, Nat.reduceLeDiff, Nat.reduceAdd, Nat.reduceMul, Nat.reduceSub, Nat.reduceBEq, Nat.reduceGT, Nat.reduceLT, Int.reduceLE, Int.reduceLT, Int.reduceNeg, reduceCtorEq, e0, e2, e14, e15, ptrOf]
      obtain ⟨mb, lb, hb, pv, dv, p⟩ := two5.f
      refine FunI.by (F38 p ok5 (by omega)) ?_
      rintro v6 H6 ⟨nl, P, hnl, hP, oP, x6⟩
      have hll := names_len hnl ok5.lastI ok5.lastH
      have hhl5 := ok5.hlen
      have hPl : P.length = nl.length := by have := congrArg List.length hP; simpa using this
      have Glt : ∀ x, G x → x < H5.size := fun x hx => by obtain ⟨_, _, _, _, _, q⟩ := two5.g; exact q.lt x hx
      have fl6 : FilesN H6 (Out G H6) v6 (P.map (·.2)) := oP.n fun g h1 h2 => ⟨h2, fun e => by have := Glt g e; omega⟩
      obtain ⟨fa, fc, hfv⟩ := fl6.form
      rw [List.length_map, hPl] at hfv
      subst hfv
      have two6 := two5.x x6
      have hsum5 := ok5.sum
      rw [hro5] at hsum5
      have hrm := ok5.room
      rw [hro5] at hrm
      have hgt : ¬ room < heldS s5 := by omega
      simp only [go_sem, ↓reduceIte, Nat.reduceEqDiff, Nat.reduceLeDiff, Nat.reduceAdd, Nat.reduceMul, Nat.reduceSub, Nat.reduceBEq, Nat.reduceGT, Nat.reduceLT, Int.reduceLE, Int.reduceLT, Int.reduceNeg, reduceCtorEq, e0, e2, e14, e15, ptrOf]
      obtain ⟨mb, lb, hb, pv, dv, p⟩ := two6.f
      refine FunI.by (F13 p (by omega)) ?_
      rintro _ H7 ⟨rfl, x7⟩
      have two7 := two6.x x7
      have fl7 := fl6.extO x7
      simp only [go_sem, ↓reduceIte, Nat.reduceEqDiff, Nat.reduceLeDiff, Nat.reduceAdd, Nat.reduceMul, Nat.reduceSub, Nat.reduceBEq, Nat.reduceGT, Nat.reduceLT, Int.reduceLE, Int.reduceLT, Int.reduceNeg, reduceCtorEq, e0, e2, e14, e15, ptrOf, hgt]
      clear two6 two5 fl6 Glt x6 x7 oP p
      refine LoopI.by mixed (fun ρ H' => ∃ (j : Nat) (t : St) (G : Nat → Prop), ρ 2 = .slice a2 ms.length c2 ∧ ρ 14 = ptrOf b ∧ ρ 15 = ptrOf c ∧ ρ 17 = .slice fa nl.length fc ∧ ρ 18 = .int .i64 j ∧ j ≤ nl.length ∧
        Two H H' F5 G b c s5 t ∧ Ok t ∧ t.ops ≤ 3 * j ∧ t.last = (fun _ => none) ∧ Built s5 (nl.take j) t ∧ FilesN H' (Out G H') (.slice fa nl.length fc) (P.map (·.2))) (fun ρ _ => nl.length - (iof (ρ 18)).toNat) ?_ ?_
      · exact ⟨0, freshS room, G, by simp only [go_sem, ↓reduceIte, Nat.reduceEqDiff, Nat.reduceLeDiff, Nat.reduceAdd, Nat.reduceMul, Nat.reduceSub, Nat.reduceBEq, Nat.reduceGT, Nat.reduceLT, Int.reduceLE, Int.reduceLT, Int.reduceNeg, reduceCtorEq, e2], by simp only [go_sem, ↓reduceIte, Nat.reduceEqDiff, Nat.reduceLeDiff, Nat.reduceAdd, Nat.reduceMul, Nat.reduceSub, Nat.reduceBEq, Nat.reduceGT, Nat.reduceLT, Int.reduceLE, Int.reduceLT, Int.reduceNeg, reduceCtorEq, e14, ptrOf], by simp only [go_sem, ↓reduceIte, Nat.reduceEqDiff, Nat.reduceLeDiff, Nat.reduceAdd, Nat.reduceMul, Nat.reduceSub, Nat.reduceBEq, Nat.reduceGT, Nat.reduceLT, Int.reduceLE, Int.reduceLT, Int.reduceNeg, reduceCtorEq, e15, ptrOf], by simp only [go_sem, ↓reduceIte, Nat.reduceEqDiff, Nat.reduceLeDiff, Nat.reduceAdd, Nat.reduceMul, Nat.reduceSub, Nat.reduceBEq, Nat.reduceGT, Nat.reduceLT, Int.reduceLE, Int.reduceLT, Int.reduceNeg, reduceCtorEq], by simp only [go_sem, ↓reduceIte, Nat.reduceEqDiff, Nat.reduceLeDiff, Nat.reduceAdd, Nat.reduceMul, Nat.reduceSub, Nat.reduceBEq, Nat.reduceGT, Nat.reduceLT, Int.reduceLE, Int.reduceLT, Int.reduceNeg, reduceCtorEq] <;> rfl, by omega, two7, okF, Int.le_refl _, rfl,
          ⟨rfl, rfl, hro5.symm, fun n hn => by simp at hn, fun n _ => rfl, fun y hy => by simp [freshS] at hy, rfl⟩, fl7⟩
      clear two7 fl7
      rintro ρ2 H' ⟨j, t, G, r2, r14, r15, r17, r18, hj, two, okt, hopt, hlt, bt, fl⟩
      by_cases hjl : j < nl.length
      case' pos =>
        have c0 : (0 : Int) ≤ j := by omega
        have z1 : (j : Int) < nl.length := by omega
        have w2 : IntKind.i64.wrap ((j : Int) + 1) = ((j + 1 : Nat) : Int) := by rw [w64_id (by omega) (by omega)]; omega
        obtain ⟨n, hni⟩ : ∃ n, nl[j]? = some n := ⟨_, List.getElem?_eq_getElem hjl⟩
        have hmem := List.mem_of_getElem? hni
        have hnm : isNm n = true := by
          have := (hnl.2 n).1 hmem
          cases hx : s5.last n with
          | none => exact absurd hx this
          | some x => exact ok5.lastN _ _ hx
        have hnt : n ∉ nl.take j := fun hm => by
          obtain ⟨q, hq, hqn⟩ := List.getElem_of_mem hm
          rw [List.getElem_take] at hqn
          have h1 : nl[q]? = some n := by rw [List.getElem?_eq_getElem (by simp at hq; omega), hqn]
          have := nodup_inj (names_nodup hnl) h1 hni
          simp at hq
          omega
        have htk : nl.take (j + 1) = nl.take j ++ [n] := by rw [List.take_add_one, hni]; rfl
        have hroom : heldS t + ((lastD s5 n).length : Int) ≤ t.room := by
          have := names_sum ok5 calm hnl (j + 1)
          rw [htk, List.map_append, List.sum_append, ← bt.held] at this
          rw [bt.room]
          have h2 := ok5.sum
          simp only [List.map_cons, List.map_nil, List.sum_cons, List.sum_nil] at this
          omega
        obtain ⟨P', hP', rp⟩ := fl
        have hPl' : P'.length = nl.length := by have := congrArg List.length hP'; rw [List.length_map, List.length_map, hPl] at this; exact this
        obtain ⟨b2, o2, rfl⟩ := rp.at (show j < P'.length by omega)
        obtain ⟨⟨w, z⟩, hPj⟩ : ∃ q, P'[j]? = some q := ⟨_, List.getElem?_eq_getElem (by omega)⟩
        have hz : z = (n, lastD s5 n) := by
          have h1 : (P.map (·.2))[j]? = some z := by rw [← hP', List.getElem?_map, hPj]; rfl
          rw [hP, List.getElem?_map, hni] at h1
          exact (Option.some.inj h1).symm
        subst hz
        obtain ⟨gs, gd, gi, gN⟩ := RecP.e0 rp hPj
        obtain ⟨az, capz, rfl⟩ := Ints.form gi
        have hdl : (lastD s5 n).length ≤ 2147483647 := by
          have h1 := heldS_nonneg t
          have h2 := okt.room
          omega
        obtain ⟨mb, lb, hb, pv, dv, p⟩ := two.g
        simp only [go_sem, ↓reduceIte, Nat.reduceEqDiff, Nat.reduceLeDiff, Nat.reduceAdd, Nat.reduceMul, Nat.reduceSub, Nat.reduceBEq, Nat.reduceGT, Nat.reduceLT, Int.reduceLE, Int.reduceLT, Int.reduceNeg, reduceCtorEq, c9_L1, r2, r14, r15, r17, r18, c0, z1, Int.toNat_natCast, gs, w2]
        refine FunI.by (F39 p okt (by omega) n) ?_
        rintro _ H8 ⟨x, hx, rfl, G8, h8, ch8⟩
        have ok8 := create_ok okt n hx
        rw [mk_create hnm bt.fuse bt.off (bt.no n hnt)] at h8 ok8 ⊢
        have two8 := two.right ch8 h8
        obtain ⟨mb, lb, hb, pv, dv, p8⟩ := h8
        have rp8 := RecN.ch ⟨P', hP', rp⟩ ch8
        obtain ⟨P8, hP8, rp8⟩ := rp8
        have hPj8 : ∃ w8, P8[j]? = some (w8, (n, lastD s5 n)) := by
          have h1 : (P8.map (·.2))[j]? = some (n, lastD s5 n) := by rw [hP8, ← hP', List.getElem?_map, hPj]; rfl
          rw [List.getElem?_map] at h1
          obtain ⟨q, hq, e⟩ := Option.map_eq_some_iff.1 h1
          exact ⟨q.1, by rw [hq, ← e]⟩
        obtain ⟨w8, hPj8⟩ := hPj8
        obtain ⟨gs8, gd8, gi8, gN8⟩ := RecP.e0 rp8 hPj8
        obtain ⟨az8, capz8, rfl⟩ := Ints.form gi8
        simp only [go_sem, ↓reduceIte, Nat.reduceEqDiff, Nat.reduceLeDiff, Nat.reduceAdd, Nat.reduceMul, Nat.reduceSub, Nat.reduceBEq, Nat.reduceGT, Nat.reduceLT, Int.reduceLE, Int.reduceLT, Int.reduceNeg, reduceCtorEq, r2, r14, r15, r17, r18, c0, z1, Int.toNat_natCast, gs8, gd8, w2]
        refine FunI.by (F20 p8 ok8 (by show t.ops + 1 < _; omega) n (xs := lastD s5 n) gi8 (by omega)) ?_
        rintro _ H9 ⟨rfl, G9, h9, ch9⟩
        have hbyt : Byt (lastD s5 n) := by
          unfold lastD
          split
          · rename_i y hy
            intro q hq
            exact ok5.byt y (ok5.lastH _ _ hy) q (List.mem_of_mem_take hq)
          · simp [Byt]
        have ok9 := append_ok ok8 n hbyt
        rw [mk_append hx hnm bt.fuse bt.off hroom] at h9 ok9 ⊢
        have two9 := two8.right ch9 h9
        obtain ⟨mb, lb, hb, pv, dv, p9⟩ := h9
        have fl9 := RecN.ch ⟨P8, hP8, rp8⟩ ch9
        obtain ⟨P9, hP9, rp9⟩ := fl9
        have hPj9 : ∃ w9, P9[j]? = some (w9, (n, lastD s5 n)) := by
          have h1 : (P9.map (·.2))[j]? = some (n, lastD s5 n) := by rw [hP9, ← hP', List.getElem?_map, hPj]; rfl
          rw [List.getElem?_map] at h1
          obtain ⟨q, hq, e⟩ := Option.map_eq_some_iff.1 h1
          exact ⟨q.1, by rw [hq, ← e]⟩
        obtain ⟨w9, hPj9⟩ := hPj9
        obtain ⟨gs9, _, _, _⟩ := RecP.e0 rp9 hPj9
        simp only [go_sem, ↓reduceIte, Nat.reduceEqDiff, Nat.reduceLeDiff, Nat.reduceAdd, Nat.reduceMul, Nat.reduceSub, Nat.reduceBEq, Nat.reduceGT, Nat.reduceLT, Int.reduceLE, Int.reduceLT, Int.reduceNeg, reduceCtorEq, r2, r14, r15, r17, r18, c0, z1, Int.toNat_natCast, gs9, w2]
        refine FunI.by (F21 p9 ok9 (by show t.ops + 2 < _; omega) n) ?_
        rintro _ H10 ⟨rfl, G10, h10, ch10⟩
        have ok10 := sync_ok ok9 n
        rw [mk_sync hnm bt.fuse bt.off] at h10 ok10 ⊢
        have two10 := two9.right ch10 h10
        have fl10 := RecN.ch ⟨P9, hP9, rp9⟩ ch10
        have w0 : IntKind.i64.wrap (0 + 0) = 0 := by decide
        simp only [go_sem, ↓reduceIte, Nat.reduceEqDiff, Nat.reduceLeDiff, Nat.reduceAdd, Nat.reduceMul, Nat.reduceSub, Nat.reduceBEq, Nat.reduceGT, Nat.reduceLT, Int.reduceLE, Int.reduceLT, Int.reduceNeg, reduceCtorEq]
        refine FunI.by (F22 _ _) ?_
        rintro _ _ ⟨rfl, rfl⟩
        simp only [go_sem, ↓reduceIte, Nat.reduceEqDiff, Nat.reduceLeDiff, Nat.reduceAdd, Nat.reduceMul, Nat.reduceSub, Nat.reduceBEq, Nat.reduceGT, Nat.reduceLT, Int.reduceLE, Int.reduceLT, Int.reduceNeg, reduceCtorEq]
        refine FunI.by (F22 _ _) ?_
        rintro _ _ ⟨rfl, rfl⟩
        simp only [go_sem, ↓reduceIte, Nat.reduceEqDiff, Nat.reduceLeDiff, Nat.reduceAdd, Nat.reduceMul, Nat.reduceSub, Nat.reduceBEq, Nat.reduceGT, Nat.reduceLT, Int.reduceLE, Int.reduceLT, Int.reduceNeg, reduceCtorEq, w0]
        refine FunI.by (F22 _ _) ?_
        rintro _ _ ⟨rfl, rfl⟩
        simp only [go_sem, ↓reduceIte, Nat.reduceEqDiff, Nat.reduceLeDiff, Nat.reduceAdd, Nat.reduceMul, Nat.reduceSub, Nat.reduceBEq, Nat.reduceGT, Nat.reduceLT, Int.reduceLE, Int.reduceLT, Int.reduceNeg, reduceCtorEq, w0, r18, w2]
        exact ⟨Hold.mk ⟨j + 1, _, G10, by simp only [go_sem, ↓reduceIte, Nat.reduceEqDiff, Nat.reduceLeDiff, Nat.reduceAdd, Nat.reduceMul, Nat.reduceSub, Nat.reduceBEq, Nat.reduceGT, Nat.reduceLT, Int.reduceLE, Int.reduceLT, Int.reduceNeg, reduceCtorEq, r2], by simp only [go_sem, ↓reduceIte, Nat.reduceEqDiff, Nat.reduceLeDiff, Nat.reduceAdd, Nat.reduceMul, Nat.reduceSub, Nat.reduceBEq, Nat.reduceGT, Nat.reduceLT, Int.reduceLE, Int.reduceLT, Int.reduceNeg, reduceCtorEq, r14], by simp only [go_sem, ↓reduceIte, Nat.reduceEqDiff, Nat.reduceLeDiff, Nat.reduceAdd, Nat.reduceMul, Nat.reduceSub, Nat.reduceBEq, Nat.reduceGT, Nat.reduceLT, Int.reduceLE, Int.reduceLT, Int.reduceNeg, reduceCtorEq, r15], by simp only [go_sem, ↓reduceIte, Nat.reduceEqDiff, Nat.reduceLeDiff, Nat.reduceAdd, Nat.reduceMul, Nat.reduceSub, Nat.reduceBEq, Nat.reduceGT, Nat.reduceLT, Int.reduceLE, Int.reduceLT, Int.reduceNeg, reduceCtorEq, r17], by simp only [go_sem, ↓reduceIte, Nat.reduceEqDiff, Nat.reduceLeDiff, Nat.reduceAdd, Nat.reduceMul, Nat.reduceSub, Nat.reduceBEq, Nat.reduceGT, Nat.reduceLT, Int.reduceLE, Int.reduceLT, Int.reduceNeg, reduceCtorEq], by omega, two10, ok10, by show t.ops + 3 ≤ _; omega, hlt, by rw [htk]; exact built_step bt okt hnt hnm hx, fl10⟩, by omega⟩
      have hje : j = nl.length := by omega
      subst hje
      rw [List.take_of_length_le (Nat.le_refl _)] at bt
      have z1 : ¬ ((nl.length : Nat) : Int) < nl.length := by omega
      obtain ⟨mb, lb, hb, pv, dv, p⟩ := two.g
      simp only [go_sem, ↓reduceIte, Nat.reduceEqDiff, Nat.reduceLeDiff, Nat.reduceAdd, Nat.reduceMul, Nat.reduceSub, Nat.reduceBEq, Nat.reduceGT, Nat.reduceLT, Int.reduceLE, Int.reduceLT, Int.reduceNeg, reduceCtorEq, c9_L1, r2, r14, r15, r17, r18, z1]
      refine FunI.by (F34 p okt (by omega)) ?_
      rintro _ H8 ⟨rfl, G8, h8, ch8⟩
      have ok8 := syncDir_ok okt
      have hsd : syncDirS t = ({ t with ops := t.ops + 1, last := t.now, pend := [] }, 0) := by
        unfold syncDirS
        rw [if_neg (by simp [bt.off]), count0 bt.fuse, if_pos rfl, settle_all (s := { t with ops := t.ops + 1 }) bt.named]
      rw [hsd] at h8 ok8
      have two8 := two.right ch8 h8
      obtain ⟨φ0, sim0⟩ := built_sim (t := { t with ops := t.ops + 1, last := t.now, pend := [] }) ok5 ok8 calm hnl ⟨bt.off, bt.fuse, bt.room, bt.yes, bt.no, bt.named, bt.held⟩ rfl rfl
      simp only [go_sem, ↓reduceIte, Nat.reduceEqDiff, Nat.reduceLeDiff, Nat.reduceAdd, Nat.reduceMul, Nat.reduceSub, Nat.reduceBEq, Nat.reduceGT, Nat.reduceLT, Int.reduceLE, Int.reduceLT, Int.reduceNeg, reduceCtorEq]
      refine LoopI.by mixed (fun ρ H' => ∃ (i : Nat) (s t : St) (F G : Nat → Prop) (φ : Nat → Nat), ρ 2 = .slice a2 ms.length c2 ∧ ρ 14 = ptrOf b ∧ ρ 15 = ptrOf c ∧ ρ 22 = .int .i64 i ∧ i ≤ ms.length ∧ i ≤ 200 ∧
        Two H H' F G b c s t ∧ Ok s ∧ Ok t ∧ Sim φ s t ∧ s.ops ≤ 200 + i ∧ t.ops ≤ 601 + i ∧ (∀ x ∈ s.held, (s.dat x).length ≤ 50 * (200 + i))) (fun ρ _ => ms.length - (iof (ρ 22)).toNat) ?_ ?_
      · refine ⟨0, s5, _, F5, G8, φ0, by simp only [go_sem, ↓reduceIte, Nat.reduceEqDiff, Nat.reduceLeDiff, Nat.reduceAdd, Nat.reduceMul, Nat.reduceSub, Nat.reduceBEq, Nat.reduceGT, Nat.reduceLT, Int.reduceLE, Int.reduceLT, Int.reduceNeg, reduceCtorEq, r2], by simp only [go_sem, ↓reduceIte, Nat.reduceEqDiff, Nat.reduceLeDiff, Nat.reduceAdd, Nat.reduceMul, Nat.reduceSub, Nat.reduceBEq, Nat.reduceGT, Nat.reduceLT, Int.reduceLE, Int.reduceLT, Int.reduceNeg, reduceCtorEq, r14], by simp only [go_sem, ↓reduceIte, Nat.reduceEqDiff, Nat.reduceLeDiff, Nat.reduceAdd, Nat.reduceMul, Nat.reduceSub, Nat.reduceBEq, Nat.reduceGT, Nat.reduceLT, Int.reduceLE, Int.reduceLT, Int.reduceNeg, reduceCtorEq, r15], by simp only [go_sem, ↓reduceIte, Nat.reduceEqDiff, Nat.reduceLeDiff, Nat.reduceAdd, Nat.reduceMul, Nat.reduceSub, Nat.reduceBEq, Nat.reduceGT, Nat.reduceLT, Int.reduceLE, Int.reduceLT, Int.reduceNeg, reduceCtorEq] <;> rfl, by omega, by omega, two8, ok5, ok8, sim0, by omega, ?_, fun x hx => by have := hlen5 x hx; omega⟩
        show t.ops + 1 ≤ _
        omega
      clear two8 ok8 sim0 hsd h8 ch8 bt fl two okt hopt hlt p
      rintro ρ3 H' ⟨i, s, t, F, G, φ, r2, r14, r15, r22, hi, hi3, two, oks, okt, sim, hops, hopt, hlen⟩
      by_cases hlt : i < ms.length ∧ i < 200
      case' pos =>
        obtain ⟨hl1, hl2⟩ := hlt
        obtain ⟨u, hti⟩ : ∃ t, ms[i]? = some t := ⟨_, List.getElem?_eq_getElem hl1⟩
        have htf := hm u (List.mem_of_getElem? hti)
        have sg : ∀ {Q : Heap}, Ext H Q → ∃ g o, a2 = some ⟨g, o, none⟩ ∧ hget Q g (o + i * 5) = some (.int .i64 u.kind) ∧ hget Q g (o + i * 5 + 1) = some (.int .i64 u.i) ∧ hget Q g (o + i * 5 + 2) = some (.int .i64 u.k) ∧ hget Q g (o + i * 5 + 3) = some (.int .i64 u.many) ∧ hget Q g (o + i * 5 + 4) = some (.int .u8 u.fill) := fun {Q} x => steps_at (show Steps Q (.slice a2 ms.length c2) ms from Sl.ext hv2 x) hti
        obtain ⟨g, o, ea2, k0, k1, k2, k3, k4⟩ := sg two.ext
        have c0 : (0 : Int) ≤ i := by omega
        have z1 : (i : Int) < ms.length := by omega
        have z2 : (i : Int) < 200 := by omega
        have w2 : IntKind.i64.wrap ((i : Int) + 1) = ((i + 1 : Nat) : Int) := by rw [w64_id (by omega) (by omega)]; omega
        rw [ea2] at r2
        simp only [go_sem, ↓reduceIte, Nat.reduceEqDiff, Nat.reduceLeDiff, Nat.reduceAdd, Nat.reduceMul, Nat.reduceSub, Nat.reduceBEq, Nat.reduceGT, Nat.reduceLT, Int.reduceLE, Int.reduceLT, Int.reduceNeg, reduceCtorEq, c9_L2, r2, r14, r15, r22, c0, z1, z2, Int.toNat_natCast, hgets5, k0, k1, k2, k3, k4, Option.bind_some, w2]
        refine FunI.by (F14 two.f oks (by omega) u htf) ?_
        rintro _ H9 ⟨x, hx, rfl, F9, h9, ch9⟩
        have two9 := two.left ch9 h9
        obtain ⟨g', o', ea2', k0, k1, k2, k3, k4⟩ := sg two9.ext
        rw [ea2] at ea2'
        cases ea2'
        simp only [go_sem, ↓reduceIte, Nat.reduceEqDiff, Nat.reduceLeDiff, Nat.reduceAdd, Nat.reduceMul, Nat.reduceSub, Nat.reduceBEq, Nat.reduceGT, Nat.reduceLT, Int.reduceLE, Int.reduceLT, Int.reduceNeg, reduceCtorEq, r2, r14, r15, r22, c0, z1, z2, Int.toNat_natCast, hgets5, k0, k1, k2, k3, k4, Option.bind_some, w2]
        refine FunI.by (F14 two9.g okt (by omega) u htf) ?_
        rintro _ H10 ⟨y, hy, rfl, G10, h10, ch10⟩
        have two10 := two9.right ch10 h10
        obtain ⟨φ', sim', hres⟩ := does_sim sim oks okt u hx hy
        have oks' := does_ok oks u hx
        have okt' := does_ok okt u hy
        have ops := does_ops s u x
        have opt := does_ops t u y
        have dl := does_len hlen u x
        rw [hres]
        clear two9 two hx hy h9 ch9 h10 ch10 sim oks okt
        generalize (doesS s u x).1 = s' at *
        generalize (doesS t u y).1 = t' at *
        have hhs := oks'.hlen
        have hht := okt'.hlen
        obtain ⟨mb, lb, hb, pv, dv, p⟩ := two10.f
        simp only [go_sem, ↓reduceIte, Nat.reduceEqDiff, Nat.reduceLeDiff, Nat.reduceAdd, Nat.reduceMul, Nat.reduceSub, Nat.reduceBEq, Nat.reduceGT, Nat.reduceLT, Int.reduceLE, Int.reduceLT, Int.reduceNeg, reduceCtorEq, r14, r15, ptrOf]
        refine FunI.by (F33 p oks' (by omega)) ?_
        rintro v11 H11 ⟨n1, hn1, o11, x11⟩
        rw [sim'.offs] at hn1
        simp only [Bool.false_eq_true, if_false] at hn1
        have two11 := two10.x x11
        obtain ⟨mb, lb, hb, pv, dv, p⟩ := two11.g
        simp only [go_sem, ↓reduceIte, Nat.reduceEqDiff, Nat.reduceLeDiff, Nat.reduceAdd, Nat.reduceMul, Nat.reduceSub, Nat.reduceBEq, Nat.reduceGT, Nat.reduceLT, Int.reduceLE, Int.reduceLT, Int.reduceNeg, reduceCtorEq, r14, r15, ptrOf]
        refine FunI.by (F33 p okt' (by omega)) ?_
        rintro v12 H12 ⟨n2, hn2, o12, x12⟩
        rw [sim'.offt] at hn2
        simp only [Bool.false_eq_true, if_false] at hn2
        have hnn : n1 = n2 := names_unique hn1 hn2 fun n => by rw [sim'.now n]; simp
        subst hnn
        have two12 := two11.x x12
        have hl1' := names_len hn1 oks'.nowI oks'.nowH
        simp only [go_sem, ↓reduceIte, Nat.reduceEqDiff, Nat.reduceLeDiff, Nat.reduceAdd, Nat.reduceMul, Nat.reduceSub, Nat.reduceBEq, Nat.reduceGT, Nat.reduceLT, Int.reduceLE, Int.reduceLT, Int.reduceNeg, reduceCtorEq]
        refine FunI.by (F40 _ _ n1 n1 _ (o11.ext x12).sl o12.sl (by omega)) ?_
        rintro _ _ ⟨rfl, rfl⟩
        obtain ⟨mb, lb, hb, pv, dv, p⟩ := two12.f
        simp only [go_sem, ↓reduceIte, Nat.reduceEqDiff, Nat.reduceLeDiff, Nat.reduceAdd, Nat.reduceMul, Nat.reduceSub, Nat.reduceBEq, Nat.reduceGT, Nat.reduceLT, Int.reduceLE, Int.reduceLT, Int.reduceNeg, reduceCtorEq, r14, r15, ptrOf, decide_true]
        refine FunI.by (F38 p oks' (by omega)) ?_
        rintro v13 H13 ⟨m1, P1, hm1, hP1, oP1, x13⟩
        have two13 := two12.x x13
        obtain ⟨mb, lb, hb, pv, dv, p⟩ := two13.g
        simp only [go_sem, ↓reduceIte, Nat.reduceEqDiff, Nat.reduceLeDiff, Nat.reduceAdd, Nat.reduceMul, Nat.reduceSub, Nat.reduceBEq, Nat.reduceGT, Nat.reduceLT, Int.reduceLE, Int.reduceLT, Int.reduceNeg, reduceCtorEq, r14, r15, ptrOf]
        refine FunI.by (F38 p okt' (by omega)) ?_
        rintro v14 H14 ⟨m2, P2, hm2, hP2, oP2, x14⟩
        have hmm : m1 = m2 := names_unique hm1 hm2 fun n => by rw [sim'.last n]; simp
        subst hmm
        have hPP : P2.map (·.2) = P1.map (·.2) := by
          rw [hP1, hP2]
          exact List.map_congr_left fun n _ => by rw [Sim.lastD sim' oks' n]
        have two14 := two13.x x14
        have hl2' := names_len hm1 oks'.lastI oks'.lastH
        have hbb : ∀ q ∈ P1.map (·.2), Byt q.2 := fun q hq => by
          rw [hP1] at hq
          obtain ⟨n, hn, rfl⟩ := List.mem_map.1 hq
          show Byt (lastD s' n)
          unfold lastD
          split
          · rename_i y hy
            intro z hz
            exact oks'.byt y (oks'.lastH _ _ hy) z (List.mem_of_mem_take hz)
          · simp [Byt]
        have hpl : (P1.map (·.2)).length ≤ 2932031000000 := by rw [hP1, List.length_map]; omega
        have fn1 : FilesN H14 (fun _ => True) v13 (P1.map (·.2)) := (oP1.ext x14).n fun _ _ _ => trivial
        have fn2 : FilesN H14 (fun _ => True) v14 (P1.map (·.2)) := hPP ▸ oP2.n fun _ _ _ => trivial
        simp only [go_sem, ↓reduceIte, Nat.reduceEqDiff, Nat.reduceLeDiff, Nat.reduceAdd, Nat.reduceMul, Nat.reduceSub, Nat.reduceBEq, Nat.reduceGT, Nat.reduceLT, Int.reduceLE, Int.reduceLT, Int.reduceNeg, reduceCtorEq]
        refine FunI.by (F41 _ _ _ _ _ fn1 fn2 hpl hbb hbb) ?_
        rintro _ H15 ⟨rfl, x15⟩
        have two15 := two14.x x15
        obtain ⟨mb, lb, hb, pv, dv, p⟩ := two15.f
        have hsum1 := oks'.sum
        have hro1 := oks'.room
        have hsum2 := okt'.sum
        have hro2 := okt'.room
        simp only [go_sem, ↓reduceIte, Nat.reduceEqDiff, Nat.reduceLeDiff, Nat.reduceAdd, Nat.reduceMul, Nat.reduceSub, Nat.reduceBEq, Nat.reduceGT, Nat.reduceLT, Int.reduceLE, Int.reduceLT, Int.reduceNeg, reduceCtorEq, r14, r15, ptrOf, decide_true]
        refine FunI.by (F13 p (by omega)) ?_
        rintro _ H16 ⟨rfl, x16⟩
        have two16 := two15.x x16
        obtain ⟨mb, lb, hb, pv, dv, p⟩ := two16.g
        simp only [go_sem, ↓reduceIte, Nat.reduceEqDiff, Nat.reduceLeDiff, Nat.reduceAdd, Nat.reduceMul, Nat.reduceSub, Nat.reduceBEq, Nat.reduceGT, Nat.reduceLT, Int.reduceLE, Int.reduceLT, Int.reduceNeg, reduceCtorEq, r14, r15, ptrOf]
        refine FunI.by (F13 p (by omega)) ?_
        rintro _ H17 ⟨rfl, x17⟩
        have two17 := two16.x x17
        have hhe := sim'.heldS oks' okt'
        simp only [go_sem, ↓reduceIte, Nat.reduceEqDiff, Nat.reduceLeDiff, Nat.reduceAdd, Nat.reduceMul, Nat.reduceSub, Nat.reduceBEq, Nat.reduceGT, Nat.reduceLT, Int.reduceLE, Int.reduceLT, Int.reduceNeg, reduceCtorEq, r14, r15, ptrOf, hhe]
        refine FunI.by (F24 two17.f) ?_
        rintro _ _ ⟨rfl, rfl⟩
        simp only [go_sem, ↓reduceIte, Nat.reduceEqDiff, Nat.reduceLeDiff, Nat.reduceAdd, Nat.reduceMul, Nat.reduceSub, Nat.reduceBEq, Nat.reduceGT, Nat.reduceLT, Int.reduceLE, Int.reduceLT, Int.reduceNeg, reduceCtorEq, r14, r15, ptrOf]
        refine FunI.by (F24 two17.g) ?_
        rintro _ _ ⟨rfl, rfl⟩
        have hpe : t'.pend.length = s'.pend.length := by rw [sim'.pend, List.length_map]
        simp only [go_sem, ↓reduceIte, Nat.reduceEqDiff, Nat.reduceLeDiff, Nat.reduceAdd, Nat.reduceMul, Nat.reduceSub, Nat.reduceBEq, Nat.reduceGT, Nat.reduceLT, Int.reduceLE, Int.reduceLT, Int.reduceNeg, reduceCtorEq, hpe, r22, w2]
        exact ⟨Hold.mk ⟨i + 1, s', t', F9, G10, φ', by simp only [go_sem, ↓reduceIte, Nat.reduceEqDiff, Nat.reduceLeDiff, Nat.reduceAdd, Nat.reduceMul, Nat.reduceSub, Nat.reduceBEq, Nat.reduceGT, Nat.reduceLT, Int.reduceLE, Int.reduceLT, Int.reduceNeg, reduceCtorEq, r2, ea2], by simp only [go_sem, ↓reduceIte, Nat.reduceEqDiff, Nat.reduceLeDiff, Nat.reduceAdd, Nat.reduceMul, Nat.reduceSub, Nat.reduceBEq, Nat.reduceGT, Nat.reduceLT, Int.reduceLE, Int.reduceLT, Int.reduceNeg, reduceCtorEq, r14], by simp only [go_sem, ↓reduceIte, Nat.reduceEqDiff, Nat.reduceLeDiff, Nat.reduceAdd, Nat.reduceMul, Nat.reduceSub, Nat.reduceBEq, Nat.reduceGT, Nat.reduceLT, Int.reduceLE, Int.reduceLT, Int.reduceNeg, reduceCtorEq, r15], by simp only [go_sem, ↓reduceIte, Nat.reduceEqDiff, Nat.reduceLeDiff, Nat.reduceAdd, Nat.reduceMul, Nat.reduceSub, Nat.reduceBEq, Nat.reduceGT, Nat.reduceLT, Int.reduceLE, Int.reduceLT, Int.reduceNeg, reduceCtorEq], by omega, by omega, two17, oks', okt', sim', by omega, by omega, fun y hy => by have := dl y hy; omega⟩, by omega⟩
      by_cases hl1 : (i : Int) < ms.length
      case' pos =>
        have hl2 : ¬ (i : Int) < 200 := by omega
        simp only [go_sem, ↓reduceIte, Nat.reduceEqDiff, Nat.reduceLeDiff, Nat.reduceAdd, Nat.reduceMul, Nat.reduceSub, Nat.reduceBEq, Nat.reduceGT, Nat.reduceLT, Int.reduceLE, Int.reduceLT, Int.reduceNeg, reduceCtorEq, c9_L2, r2, r14, r15, r22, hl1, hl2]
      case' neg =>
        simp only [go_sem, ↓reduceIte, Nat.reduceEqDiff, Nat.reduceLeDiff, Nat.reduceAdd, Nat.reduceMul, Nat.reduceSub, Nat.reduceBEq, Nat.reduceGT, Nat.reduceLT, Int.reduceLE, Int.reduceLT, Int.reduceNeg, reduceCtorEq, c9_L2, r2, r14, r15, r22, hl1]
      all_goals
        have hlt' : ∀ y ∈ t.held, (t.dat y).length ≤ 50 * 400 := fun y hy => by
          obtain ⟨x, hx, e⟩ := (sim.held y).1 hy
          rw [← e, sim.dat x hx]
          have := hlen x hx
          omega
        refine FunI.by (F42 two.g okt (by omega) sim.offt hlt' (by omega)) ?_
        rintro v9 H9 ⟨L, fl9, nd9, hv9, hl9, hb9, x9⟩
        have two9 := two.x x9
        have hht := okt.hlen
        simp only [go_sem, ↓reduceIte, Nat.reduceEqDiff, Nat.reduceLeDiff, Nat.reduceAdd, Nat.reduceMul, Nat.reduceSub, Nat.reduceBEq, Nat.reduceGT, Nat.reduceLT, Int.reduceLE, Int.reduceLT, Int.reduceNeg, reduceCtorEq]
        refine FunI.by (F19 two9.f oks (by omega) sim.offs fl9 nd9 (by rw [← hv9]; exact (sim.view oks).symm) (fun y hy => ⟨(hb9 y hy).1, by have := (hb9 y hy).2; omega⟩) (by omega)) ?_
        rintro _ H10 ⟨rfl, x10⟩
        simp only [go_sem, ↓reduceIte, Nat.reduceEqDiff, Nat.reduceLeDiff, Nat.reduceAdd, Nat.reduceMul, Nat.reduceSub, Nat.reduceBEq, Nat.reduceGT, Nat.reduceLT, Int.reduceLE, Int.reduceLT, Int.reduceNeg, reduceCtorEq]
        exact (two9.x x10).ext
end Go.Proofs.Ytmkheogjnlmkdaa
