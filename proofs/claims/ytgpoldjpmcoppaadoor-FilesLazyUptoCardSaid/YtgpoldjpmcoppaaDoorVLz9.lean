/- A byte of a file turned, and turned back; a reader behind so many payloads. -/
import Derived.Test.YtgpoldjpmcoppaaDoorVAll9
import Derived.Test.YtgpoldjpmcoppaaDoorVFsL
import Derived.Test.YtgpoldjpmcoppaaDoorVAdd9
set_option linter.unusedSimpArgs false
set_option linter.unusedVariables false
set_option maxRecDepth 20000
namespace Go.V
open Go
theorem rotD_len (d : List Int) (i : Nat) (x : Int) : (rotD d i x).length = d.length := by unfold rotD; exact List.length_set
theorem rotD_bits {d : List Int} (hd : Byt d) {i : Nat} (hi : i < d.length) {x : Nat} (hx : x < 256) : Byt (rotD d i x) ∧ ∀ q, bitAt (rotD d i x) q = (bitAt d q ^^ (decide (q / 8 = i) && x.testBit (7 - q % 8))) := by
  have hg : 0 ≤ d.getD i 0 ∧ d.getD i 0 < 256 := by
    rw [List.getD_eq_getElem?_getD, List.getElem?_eq_getElem hi]
    exact hd _ (List.getElem_mem hi)
  obtain ⟨y, hy⟩ : ∃ y : Nat, d.getD i 0 = (y : Int) := ⟨(d.getD i 0).toNat, by omega⟩
  rw [hy] at hg
  obtain ⟨x1, x2⟩ := u8_xor (a := y) (b := x) (by omega) hx
  unfold rotD
  rw [hy, x1]
  refine ⟨fun z hz => ?_, fun q => ?_⟩
  · rcases List.mem_or_eq_of_mem_set hz with hz | rfl
    · exact hd z hz
    · omega
  · unfold bitAt
    by_cases hq : q / 8 = i
    · rw [hq, List.getD_eq_getElem?_getD, List.getElem?_set_self hi, hy]
      simp only [Option.getD_some, Int.toNat_natCast, decide_true, Bool.true_and]
      rw [Nat.testBit_xor]
    · rw [List.getD_eq_getElem?_getD, List.getElem?_set_ne (by omega), ← List.getD_eq_getElem?_getD, decide_eq_false hq, Bool.false_and, Bool.xor_false]
theorem rotD_back {d : List Int} (hd : Byt d) {i : Nat} (hi : i < d.length) {x : Nat} (hx : x < 256) : rotD (rotD d i x) i x = d := by
  have hg : 0 ≤ d.getD i 0 ∧ d.getD i 0 < 256 := by
    rw [List.getD_eq_getElem?_getD, List.getElem?_eq_getElem hi]
    exact hd _ (List.getElem_mem hi)
  obtain ⟨y, hy⟩ : ∃ y : Nat, d.getD i 0 = (y : Int) := ⟨(d.getD i 0).toNat, by omega⟩
  rw [hy] at hg
  obtain ⟨x1, x2⟩ := u8_xor (a := y) (b := x) (by omega) hx
  obtain ⟨x3, _⟩ := u8_xor (a := y ^^^ x) (b := x) x2 hx
  have e1 : rotD d i x = d.set i ((y ^^^ x : Nat) : Int) := by unfold rotD; rw [hy, x1]
  have e2 : (d.set i ((y ^^^ x : Nat) : Int)).getD i 0 = ((y ^^^ x : Nat) : Int) := by rw [List.getD_eq_getElem?_getD, List.getElem?_set_self hi]; rfl
  rw [e1]
  unfold rotD
  rw [e2, x3, List.set_set, Nat.xor_assoc, Nat.xor_self, Nat.xor_zero, ← hy]
  apply List.ext_getElem?
  intro k
  by_cases hk : k = i
  · subst hk
    rw [List.getElem?_set_self hi, List.getD_eq_getElem?_getD, List.getElem?_eq_getElem hi]; rfl
  · rw [List.getElem?_set_ne (by omega)]
theorem rotS_calm {s : St} {n : Nm} (hn : isNm n = true) {f : Nat} (hf : s.now n = some f) {i : Nat} (hi : i < (s.dat f).length) {x : Nat} (h1 : 1 ≤ x) (h2 : x < 256) : rotS s n i x = ({ s with dat := setF s.dat f (rotD (s.dat f) i x) }, 0) := by
  unfold rotS
  rw [if_pos hn, hf]
  simp only
  rw [if_neg (by omega), Int.toNat_natCast]
theorem first_true (P : Nat → Bool) : ∀ b, P b = true → ∃ a, a ≤ b ∧ P a = true ∧ ∀ q, q < a → P q = false := by
  intro b
  induction b using Nat.strongRecOn with
  | ind b ih =>
    intro hb
    by_cases h : ∃ q, q < b ∧ P q = true
    · obtain ⟨q, h1, h2⟩ := h
      obtain ⟨a, h3, h4, h5⟩ := ih q h1 h2
      exact ⟨a, by omega, h4, h5⟩
    · refine ⟨b, Nat.le_refl _, hb, fun q hq => ?_⟩
      cases hp : P q with
      | false => rfl
      | true => exact absurd ⟨q, hq, hp⟩ h
theorem some_bit {x : Nat} (h1 : 1 ≤ x) (h2 : x < 256) : ∃ j, j < 8 ∧ x.testBit j = true := by
  have key : ∀ x : Fin 256, 1 ≤ x.val → ∃ j : Fin 8, x.val.testBit j.val = true := by decide +kernel
  obtain ⟨j, hj⟩ := key ⟨x, h2⟩ h1
  exact ⟨j.val, j.isLt, hj⟩
end Go.V
namespace Go.Proofs.YtgpoldjpmcoppaaDoor
open Go Go.V
/-- The state with file f's bytes put anew. -/
def datS (s : St) (f : Nat) (d : List Int) : St := { s with dat := setF s.dat f d }
theorem datS_peace {s : St} (h : Peace s) {f : Nat} (hf : f ∈ s.held) {d : List Int} (hb : Byt d) (hl : d.length = (s.dat f).length) : Peace (datS s f d) := by
  have ok := h.ok
  refine ⟨⟨ok.room, ok.nowH, ok.lastH, ok.pendH, ok.nowI, ok.lastI, ok.nowN, ok.lastN, ok.pendN, ok.nd, fun g hg => ?_, fun g hg => ?_, ?_, ok.fuse, ok.hlen, ok.plen⟩, h.on, h.arm⟩
  · unfold datS setF
    simp only
    split
    · rename_i e; subst e; rw [hl]; exact ok.syn _ hg
    · exact ok.syn _ hg
  · unfold datS setF
    simp only
    split
    · exact hb
    · exact ok.byt _ hg
  · have := sum_set ok hf d
    unfold datS
    rw [this, hl]
    have := ok.sum
    show _ ≤ s.room
    omega
/-- A reader behind so many payloads. -/
def rdK (n : Nm) (hd : List Int) (l : List (List Int)) (k : Nat) : RdS := { name := n, at' := (rowB (rowI hd (l.take k))).length, data := k, over := false }
theorem file_split (hd : List Int) (l : List (List Int)) (k : Nat) : rowB (fileR hd l) = rowB (rowI hd (l.take k)) ++ rowB ((l.drop k).map (fun p => ((2 : Int), p)) ++ [(3, be4 l.length)]) := by
  rw [← rowB_app]
  congr 1
  unfold fileR rowI
  rw [List.cons_append, List.cons_append, ← List.append_assoc, ← List.map_append, List.take_append_drop]
theorem rdK_next {s : St} (h : Peace s) {n : Nm} {y : Nat} (hx : s.now n = some y) {hd : List Int} {l : List (List Int)} (hl : ∀ p ∈ l, p.length ≤ 1024) {k : Nat} (hk : k < l.length)
    {rest : List Int} (hd1 : (s.dat y).drop (rowB (rowI hd (l.take k))).length = encL 2 (l.getD k []) ++ rest) : nextR s (rdK n hd l k) = (rdK n hd l (k + 1), l.getD k [], true, 0) := by
  have hp := hl _ (mem_getD hk [])
  have hn := nextF_enc h (x := rdK n hd l k) hx (k := 2) (p := l.getD k []) (rest := rest) (by show (s.dat y).drop (((rowB (rowI hd (l.take k))).length : Int)).toNat = _; rw [Int.toNat_natCast]; exact hd1) (by show (0 : Int) ≤ ((rowB (rowI hd (l.take k))).length : Int); omega) (by omega) hp
  unfold nextR
  rw [hn]
  have e : ({ rdK n hd l k with at' := (rdK n hd l k).at' + (12 + ((l.getD k []).length : Int)), data := (rdK n hd l k).data + 1 } : RdS) = rdK n hd l (k + 1) := by
    unfold rdK
    simp only
    have : (rowB (rowI hd (l.take (k + 1)))).length = (rowB (rowI hd (l.take k))).length + (12 + (l.getD k []).length) := by
      rw [take_getD hk, rowI_snoc, rowB_snoc, List.length_append, encL_len]
    rw [this]
    congr 1
  rw [if_neg (by simp [rdK])]
  simp only [and_self, if_true]
  rw [e]
theorem rdK_here {hd : List Int} {l : List (List Int)} {k : Nat} (hk : k < l.length) : ∃ rest, (rowB (fileR hd l)).drop (rowB (rowI hd (l.take k))).length = encL 2 (l.getD k []) ++ rest := by
  rw [file_split hd l k, List.drop_left, List.drop_eq_getElem_cons hk, List.map_cons, List.cons_append, rowB_cons, List.getD_eq_getElem?_getD, List.getElem?_eq_getElem hk]
  exact ⟨_, rfl⟩
theorem rdK_end {s : St} (h : Peace s) {n : Nm} {y : Nat} (hx : s.now n = some y) {hd : List Int} {l : List (List Int)} (hf : s.dat y = rowB (fileR hd l)) : (nextR s (rdK n hd l l.length)).2.2.1 = false ∧ (nextR s (rdK n hd l l.length)).2.2.2 = 0 := by
  have hr := rest_file h [] (rdK n hd l l.length) hx (fun p hp => by cases hp) (by show (0 : Int) ≤ ((rowB (rowI hd (l.take l.length))).length : Int); omega) rfl (by
    show (s.dat y).drop (((rowB (rowI hd (l.take l.length))).length : Int)).toNat = _
    rw [Int.toNat_natCast, hf, file_split hd l l.length, List.drop_left, List.drop_length]
    show _ = rowB (List.map (fun p => ((2 : Int), p)) [] ++ [(3, be4 (((l.length : Nat) : Int) + ((0 : Nat) : Int)))])
    simp)
  generalize hz : nextR s (rdK n hd l l.length) = z at *
  obtain ⟨l0, hl0⟩ : ∃ l0 : List (List Int), l0 = [] := ⟨_, rfl⟩
  obtain ⟨e0, he0⟩ : ∃ e0 : Int, e0 = 0 := ⟨_, rfl⟩
  rw [← hl0, ← he0] at hr
  cases hr with
  | err h1 => rw [hz] at h1 he0; exact absurd he0 h1
  | done h1 h2 => rw [hz] at h1 h2; exact ⟨h2, h1⟩
  | more h1 h2 h3 => cases hl0
/-- The length of a frame's payload turned: it is no frame any more. -/
theorem rdK_rot {s : St} (h : Peace s) {n : Nm} {y : Nat} (hx : s.now n = some y) {hd : List Int} {l : List (List Int)} (h1 : hd.length ≤ 1024 ∧ Byt hd) (h2 : ∀ p ∈ l, p.length ≤ 1024 ∧ Byt p) {k : Nat} (hk : k ≤ l.length) {x : Nat} (hx1 : 1 ≤ x) (hx2 : x < 256)
    (hf : s.dat y = rotD (rowB (fileR hd l)) ((rowB (rowI hd (l.take k))).length + 2) x) : (nextR s (rdK n hd l k)).2.2.2 ≠ 0 := by
  have fm := file_mem h1 h2
  have hB : Byt (rowB (fileR hd l)) := rowB_byt fun f hf => (fm f hf).2.2
  obtain ⟨f, rest, hfr, hfm⟩ : ∃ (f : Int × List Int) (rest : List Int), (rowB (fileR hd l)).drop (rowB (rowI hd (l.take k))).length = encL f.1 f.2 ++ rest ∧ f ∈ fileR hd l := by
    rw [file_split hd l k, List.drop_left]
    by_cases hlt : k < l.length
    · rw [List.drop_eq_getElem_cons hlt, List.map_cons, List.cons_append, rowB_cons]
      exact ⟨(2, l[k]), _, rfl, by unfold fileR; refine List.mem_append_left _ (List.mem_cons_of_mem _ (List.mem_map.2 ⟨l[k], List.getElem_mem hlt, rfl⟩))⟩
    · rw [List.drop_of_length_le (by omega), List.map_nil, List.nil_append, rowB_cons]
      exact ⟨(3, be4 l.length), _, rfl, by unfold fileR; exact List.mem_append_right _ (by simp)⟩
  obtain ⟨fk, fp, fb⟩ := fm f hfm
  obtain ⟨P, hP⟩ : ∃ P, P = (rowB (rowI hd (l.take k))).length := ⟨_, rfl⟩
  rw [← hP] at hf hfr
  have hlen : P + (12 + f.2.length) ≤ (rowB (fileR hd l)).length := by
    have := congrArg List.length hfr
    rw [List.length_drop, List.length_append, encL_len] at this
    omega
  obtain ⟨rb1, rb2⟩ := rotD_bits hB (i := P + 2) (by omega) hx2
  obtain ⟨j, hj1, hj2⟩ := some_bit hx1 hx2
  obtain ⟨a, a1, a2, a3⟩ := first_true (fun q => decide (q / 8 = 2) && x.testBit (7 - q % 8)) (16 + (7 - j)) (by
    rw [decide_eq_true (by omega), Bool.true_and, show 7 - (16 + (7 - j)) % 8 = j by omega]; exact hj2)
  have a16 : 16 ≤ a := by
    rcases Nat.lt_or_ge a 16 with hh | hh
    · rw [decide_eq_false (show ¬ a / 8 = 2 by omega)] at a2; cases a2
    · exact hh
  have hbad : Bad ((s.dat y).drop P) := by
    unfold Bad
    rw [hf]
    refine decF_burst fk fp fb (fun c hc => rb1 c (List.mem_of_mem_drop (List.mem_of_mem_take hc))) (by rw [List.length_take, List.length_drop, rotD_len]; omega) (a := a) (g := fun q => decide (q / 8 = 2) && x.testBit (7 - q % 8)) (fun q hq => ?_) (by omega) a2 a3 (fun q hq => by
      rw [decide_eq_false (by omega), Bool.false_and])
    rw [bitAt_take _ _ _ (by omega), bitAt_drop, rb2, ← bitAt_drop, hfr]
    have e2 : (encL f.1 f.2 ++ rest).take (12 + f.2.length) = encL f.1 f.2 := List.take_left' (encL_len _ _)
    have e3 := bitAt_take (encL f.1 f.2 ++ rest) (12 + f.2.length) q hq
    rw [e2] at e3
    rw [e3]
    congr 1
    rw [show (8 * P + q) % 8 = q % 8 by omega]
    by_cases h9 : q / 8 = 2
    · rw [decide_eq_true h9, decide_eq_true (by omega)]
    · rw [decide_eq_false h9, decide_eq_false (by omega)]
  have hn := nextF_bad h (x := rdK n hd l k) hx (D := (s.dat y).drop P) (by show (s.dat y).drop (((rowB (rowI hd (l.take k))).length : Int)).toNat = _; rw [Int.toNat_natCast, hP]) hbad (by show (0 : Int) ≤ ((rowB (rowI hd (l.take k))).length : Int); omega)
  unfold nextR
  rw [if_neg (by simp [rdK]), hn]
  simp
end Go.Proofs.YtgpoldjpmcoppaaDoor
