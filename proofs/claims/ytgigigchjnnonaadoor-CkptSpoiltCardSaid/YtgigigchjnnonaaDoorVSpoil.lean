/- Files that are cut off or spoilt: plainly. -/
import Derived.Test.YtgigigchjnnonaaDoorVBurst
set_option linter.unusedSimpArgs false
set_option linter.unusedVariables false
set_option maxRecDepth 20000
namespace Go.V
open Go
theorem u8_xor {a b : Nat} (ha : a < 256) (hb : b < 256) : ibits .xor .u8 (a : Int) (b : Int) = ((a ^^^ b : Nat) : Int) ∧ a ^^^ b < 256 := by
  have hlt : a ^^^ b < 256 := Nat.xor_lt_two_pow (n := 8) ha hb
  refine ⟨?_, hlt⟩
  have h : ibits .xor .u8 (a : Int) (b : Int) = IntKind.u8.wrap ((BitVec.ofInt 8 (a : Int) ^^^ BitVec.ofInt 8 (b : Int)).toNat : Int) := rfl
  rw [h, BitVec.ofInt_natCast, BitVec.ofInt_natCast, BitVec.toNat_xor, BitVec.toNat_ofNat, BitVec.toNat_ofNat, Nat.mod_eq_of_lt ha, Nat.mod_eq_of_lt hb, wu8]
  omega
/-- Bits turned, one behind the other. -/
def turnB (b : List Int) (bit mask : Nat) : Nat → List Int
  | 0 => b
  | i + 1 => if (bit + i) / 8 < b.length ∧ mask.testBit (31 - i) = true then (turnB b bit mask i).set ((bit + i) / 8) (ibits .xor .u8 ((turnB b bit mask i).getD ((bit + i) / 8) 0) ((2 ^ (7 - (bit + i) % 8) : Nat) : Int)) else turnB b bit mask i
theorem pow_bit (k j : Nat) (hk : k < 8) : (2 ^ k).testBit j = decide (k = j) := Nat.testBit_two_pow
theorem turn_bits {b : List Int} (hb : Byt b) (bit mask : Nat) : ∀ i, (turnB b bit mask i).length = b.length ∧ Byt (turnB b bit mask i) ∧
    ∀ q, bitAt (turnB b bit mask i) q = (bitAt b q ^^ (decide (bit ≤ q ∧ q < bit + i ∧ q < 8 * b.length) && mask.testBit (31 - (q - bit))))
  | 0 => ⟨rfl, hb, fun q => by
      have : ¬ (bit ≤ q ∧ q < bit + 0 ∧ q < 8 * b.length) := by omega
      simp only [decide_eq_false this, Bool.false_and, Bool.xor_false]; rfl⟩
  | i + 1 => by
    obtain ⟨h1, h2, h3⟩ := turn_bits hb bit mask i
    unfold turnB
    split
    · rename_i hc
      obtain ⟨c, hc0⟩ : ∃ c, c = turnB b bit mask i := ⟨_, rfl⟩
      rw [← hc0] at h1 h2 h3 ⊢
      have hx : (bit + i) / 8 < c.length := by omega
      have hg : 0 ≤ c.getD ((bit + i) / 8) 0 ∧ c.getD ((bit + i) / 8) 0 < 256 := by
        rw [List.getD_eq_getElem?_getD, List.getElem?_eq_getElem hx]
        exact h2 _ (List.getElem_mem hx)
      obtain ⟨y, hy⟩ : ∃ y : Nat, c.getD ((bit + i) / 8) 0 = (y : Int) := ⟨(c.getD ((bit + i) / 8) 0).toNat, by omega⟩
      rw [hy] at hg ⊢
      have hp : 2 ^ (7 - (bit + i) % 8) < 256 := Nat.pow_lt_pow_right (n := 8) (by decide) (by omega)
      obtain ⟨x1, x2⟩ := u8_xor (a := y) (b := 2 ^ (7 - (bit + i) % 8)) (by omega) hp
      rw [x1]
      refine ⟨by simpa using h1, fun z hz => ?_, fun q => ?_⟩
      · rcases List.mem_or_eq_of_mem_set hz with hz | rfl
        · exact h2 z hz
        · omega
      · have e : bitAt (c.set ((bit + i) / 8) ((y ^^^ 2 ^ (7 - (bit + i) % 8) : Nat) : Int)) q = (bitAt c q ^^ decide (q = bit + i)) := by
          unfold bitAt
          by_cases hq : q / 8 = (bit + i) / 8
          · rw [hq, List.getD_eq_getElem?_getD, List.getElem?_set_self hx, hy]
            simp only [Option.getD_some, Int.toNat_natCast]
            rw [Nat.testBit_xor, pow_bit _ _ (by omega)]
            congr 1
            by_cases h9 : q = bit + i
            · rw [h9]; simp
            · rw [decide_eq_false h9, decide_eq_false (by omega)]
          · rw [List.getD_eq_getElem?_getD, List.getElem?_set_ne (by omega), ← List.getD_eq_getElem?_getD, decide_eq_false (by rintro rfl; exact hq rfl), Bool.xor_false]
        rw [e, h3, Bool.xor_assoc]
        congr 1
        by_cases h9 : q = bit + i
        · subst h9
          rw [decide_eq_false (by omega), decide_eq_true (by omega), Bool.false_and, decide_eq_true (by omega), show bit + i - bit = i by omega, hc.2]
          rfl
        · rw [decide_eq_false (by omega : ¬ q = bit + i), Bool.xor_false]
          by_cases h8 : bit ≤ q ∧ q < bit + i ∧ q < 8 * b.length
          · rw [decide_eq_true h8, decide_eq_true (by omega)]
          · rw [decide_eq_false h8, decide_eq_false (by omega)]
    · rename_i hc
      refine ⟨h1, h2, fun q => ?_⟩
      rw [h3]
      congr 1
      by_cases h9 : q = bit + i
      · subst h9
        rw [decide_eq_false (by omega), Bool.false_and]
        by_cases h8 : (bit + i) / 8 < b.length
        · have : mask.testBit (31 - i) = false := by
            cases hm : mask.testBit (31 - i) with
            | false => rfl
            | true => exact absurd ⟨h8, hm⟩ hc
          rw [show bit + i - bit = i by omega, this, Bool.and_false]
        · rw [decide_eq_false (by omega), Bool.false_and]
      · by_cases h8 : bit ≤ q ∧ q < bit + i ∧ q < 8 * b.length
        · rw [decide_eq_true h8, decide_eq_true (by omega)]
        · rw [decide_eq_false h8, decide_eq_false (by omega)]
end Go.V
namespace Go.Proofs.YtgigigchjnnonaaDoor
open Go Go.V
theorem head_parts (k n : Int) : (headL k n).take 4 = headB k n ∧ (headL k n).drop 4 = be4 (sumI (headB k n)) := ⟨rfl, rfl⟩
theorem headB_byt (k n : Int) : Byt (headB k n) := by intro x hx; simp [headB] at hx; omega
/-- A frame that was cut off. -/
theorem decF_cut {k : Int} {p : List Int} (hk : k = 1 ∨ k = 2 ∨ k = 3) (hp : p.length ≤ 1024) {m : Nat} (hm : m < 12 + p.length) : (decF ((encL k p).take m)).2.2.2 = 32 := by
  have hl : ((encL k p).take m).length = m := by rw [List.length_take, encL_len]; omega
  unfold decF
  split
  · rfl
  rename_i h12
  rw [hl] at h12
  have g : ∀ i, i < 8 → ((encL k p).take m).getD i 0 = (headL k p.length).getD i 0 := fun i hi => by
    rw [List.getD_eq_getElem?_getD, List.getElem?_take_of_lt (by omega), List.getD_eq_getElem?_getD]
    unfold encL
    rw [List.append_assoc, List.getElem?_append_left (by rw [headL_len]; exact hi)]
  have g2 : ((encL k p).take m).getD 2 0 = (p.length : Int) / 256 % 256 := g 2 (by decide)
  have g3 : ((encL k p).take m).getD 3 0 = (p.length : Int) % 256 := g 3 (by decide)
  simp only
  rw [g2, g3, if_pos]
  right; right; left
  rw [hl]
  omega
/-- A frame in which bits were turned within 32 places. -/
theorem decF_burst {k : Int} {p E : List Int} (hk : k = 1 ∨ k = 2 ∨ k = 3) (hp : p.length ≤ 1024) (hb : Byt p) (hE : Byt E) (hl : 12 + p.length ≤ E.length) {a : Nat} {g : Nat → Bool}
    (hd : ∀ q, q < 8 * (12 + p.length) → bitAt E q = (bitAt (encL k p) q ^^ g q)) (ha : a < 8 * (12 + p.length)) (ga : g a = true) (g0 : ∀ q, q < a → g q = false) (g1 : ∀ q, a + 32 ≤ q → g q = false) : (decF E).2.2.2 = 32 := by
  have e8 : encL k p = headL k p.length ++ (p ++ be4 (sumI p)) := by unfold encL; rw [List.append_assoc]
  have hh := headL_len k p.length
  have he := encL_len k p
  have t8 : (encL k p).take 8 = headL k p.length := by rw [e8, List.take_left' hh]
  have d8 : (encL k p).drop 8 = p ++ be4 (sumI p) := by rw [e8, List.drop_left' hh]
  unfold decF
  split
  · rfl
  rename_i h12
  simp only
  split
  · rfl
  rename_i hc
  simp only [not_or, Classical.not_not] at hc
  obtain ⟨c1, c2, c3, c4⟩ := hc
  obtain ⟨K, hK⟩ : ∃ K, K = E.getD 1 0 := ⟨_, rfl⟩
  obtain ⟨N, hN⟩ : ∃ N, N = E.getD 2 0 * 256 + E.getD 3 0 := ⟨_, rfl⟩
  rw [← hK, ← hN] at c4
  rw [← hN] at c2 c3 ⊢
  by_cases h64 : a < 64
  · exfalso
    refine burst_told (p := headB k p.length) (p' := E.take 4) (t' := (E.drop 4).take 4) (headB_byt _ _) (fun x hx => hE x (List.mem_of_mem_take hx)) (fun x hx => hE x (List.mem_of_mem_drop (List.mem_of_mem_take hx)))
      (by rw [List.length_take]; show min 4 _ = 4; omega) (by rw [List.length_take, List.length_drop]; omega) (a := a) (g := g) (fun q hq => ?_) (by simpa [headB] using h64) ga g0 g1 ?_
    · have hq' : q < 64 := by simpa [headB] using hq
      have q1 : E.take 4 ++ (E.drop 4).take 4 = E.take 8 := by rw [← List.take_add]
      have q2 : headB k p.length ++ be4 (sumI (headB k p.length)) = (encL k p).take 8 := by rw [t8]; rfl
      rw [q1, q2, bitAt_take _ _ _ (by omega), bitAt_take _ _ _ (by omega), hd q (by omega)]
    · have q3 : E.take 4 = headB K N := by
        have := congrArg (List.take 4) c4
        rw [List.take_take] at this
        exact this
      have q4 : (E.drop 4).take 4 = be4 (sumI (headB K N)) := by
        have := congrArg (List.drop 4) c4
        rw [List.drop_take] at this
        exact this
      rw [q4, q3]
  · have q8 : E.take 8 = headL k p.length := by
      rw [← t8]
      refine bits_inj (fun x hx => hE x (List.mem_of_mem_take hx)) (fun x hx => ?_) (by rw [List.length_take, List.length_take]; omega) fun q hq => ?_
      · rw [t8] at hx
        unfold headL at hx
        rcases List.mem_append.1 hx with hx | hx
        · exact headB_byt _ _ x hx
        · exact be4_byt _ x hx
      · have hq' : q < 64 := by rw [List.length_take] at hq; omega
        rw [bitAt_take _ _ _ (by omega), bitAt_take _ _ _ (by omega), hd q (by omega), g0 q (by omega), Bool.xor_false]
    have gE : ∀ i, i < 8 → E.getD i 0 = (headL k p.length).getD i 0 := fun i hi => by
      rw [← q8, List.getD_eq_getElem?_getD, List.getD_eq_getElem?_getD, List.getElem?_take_of_lt hi]
    have e2 : E.getD 2 0 = (p.length : Int) / 256 % 256 := gE 2 (by decide)
    have e3 : E.getD 3 0 = (p.length : Int) % 256 := gE 3 (by decide)
    have eN : N = p.length := by rw [hN, e2, e3]; omega
    subst eN
    rw [show ((p.length : Int)).toNat = p.length by omega]
    have hne := burst_told (p := p) (p' := (E.drop 8).take p.length) (t' := (E.drop (8 + p.length)).take 4) hb (fun x hx => hE x (List.mem_of_mem_drop (List.mem_of_mem_take hx))) (fun x hx => hE x (List.mem_of_mem_drop (List.mem_of_mem_take hx)))
      (by rw [List.length_take, List.length_drop]; omega) (by rw [List.length_take, List.length_drop]; omega) (a := a - 64) (g := fun q => g (64 + q)) (fun q hq => ?_) (by omega) (by rw [show 64 + (a - 64) = a by omega]; exact ga) (fun q hq => g0 _ (by omega)) (fun q hq => g1 _ (by omega))
    · rw [if_pos hne]
    · have q1 : (E.drop 8).take p.length ++ (E.drop (8 + p.length)).take 4 = (E.drop 8).take (p.length + 4) := by
        rw [List.take_add, List.drop_drop]
      rw [q1, ← d8, bitAt_take _ _ _ hq, bitAt_drop, bitAt_drop, hd _ (by omega)]
/-- No frame stands at the front. -/
def Bad (D : List Int) : Prop := (decF (D.take 1036)).2.2.2 = 32
theorem nextF_bad {s : St} (h : Peace s) {x : RdS} {y : Nat} (hx : s.now x.name = some y) {D : List Int} (hd : (s.dat y).drop x.at'.toNat = D) (hD : Bad D) (ha : 0 ≤ x.at') : nextF s x = (x, 0, [], 90) := by
  have hr := read_calm h hx (k := 1036) ha (by decide)
  rw [hd, show Int.toNat 1036 = 1036 from rfl] at hr
  unfold nextF
  simp only [hr]
  rw [if_neg (by simp), if_pos (by unfold Bad at hD; rw [hD]; decide)]
theorem rest_bad {s : St} (h : Peace s) {y : Nat} {D : List Int} (hD : Bad D) : ∀ (l : List (List Int)) (x : RdS), s.now x.name = some y → (∀ p ∈ l, p.length ≤ 1024) → 0 ≤ x.at' → x.over = false →
    (s.dat y).drop x.at'.toNat = rowB (l.map (fun p => ((2 : Int), p))) ++ D → Rest s x l 90
  | [], x, hx, hl, ha, ho, hd => by
    have hn := nextF_bad h hx (D := D) (by rw [hd]; rfl) hD ha
    have hN : nextR s x = ({ x with over := true }, [], false, 90) := by
      unfold nextR
      rw [ho, hn]
      simp
    have := @Rest.err s x (by rw [hN]; show ¬ (90 : Int) = 0; decide)
    rw [hN] at this
    exact this
  | p :: l, x, hx, hl, ha, ho, hd => by
    simp only [List.map_cons, rowB_cons, List.append_assoc] at hd
    have hn := nextF_enc h hx hd ha (by omega) (hl p List.mem_cons_self)
    have hN : nextR s x = ({ x with at' := x.at' + (12 + p.length), data := x.data + 1 }, p, true, 0) := by
      unfold nextR
      rw [ho, hn]
      simp [ho]
    have ih := rest_bad h hD l { x with at' := x.at' + (12 + p.length), data := x.data + 1 } hx (fun q hq => hl q (List.mem_cons_of_mem _ hq)) (by simp only; omega) ho (by
      simp only
      have e : (x.at' + (12 + (p.length : Int))).toNat = x.at'.toNat + (12 + p.length) := by omega
      rw [e, ← List.drop_drop, hd, List.drop_left' (encL_len _ _)])
    have := @Rest.more s x l 90 (by rw [hN]) (by rw [hN]) (by rw [hN]; exact ih)
    rw [hN] at this
    exact this
theorem loads_bad {s : St} (h : Peace s) {n : Nm} {y : Nat} (hx : s.now n = some y) {r : List (Int × List Int)} {D : List Int} (hf : s.dat y = rowB r ++ D) (hD : Bad D)
    (hr : r = [] ∨ ∃ (hd : List Int) (l : List (List Int)), r = (1, hd) :: l.map (fun p => ((2 : Int), p)) ∧ hd.length ≤ 1024 ∧ ∀ p ∈ l, p.length ≤ 1024) {hd' : List Int} {l' : List (List Int)} {e : Int} (hL : Loads s n hd' l' e) : e = 90 := by
  rcases hr with rfl | ⟨hd, l, rfl, h1, h2⟩
  · have hn := nextF_bad h (x := newR n) hx (D := D) (by rw [hf]; rfl) hD (Int.le_refl 0)
    have ho : openF s n = (newR n, [], 90) := by
      unfold openF
      simp only [hn]
      rw [if_pos (by decide)]
    unfold Loads at hL
    rw [ho] at hL
    simp only at hL
    rw [if_pos (by decide)] at hL
    exact hL.2.2
  · rw [rowB_cons, List.append_assoc] at hf
    have ho := open_file h hx hf h1
    have hr := rest_bad h hD l { newR n with at' := 12 + hd.length } hx h2 (by simp only; omega) rfl (by
      simp only
      have e : (12 + (hd.length : Int)).toNat = 12 + hd.length := by omega
      rw [e, hf, List.drop_left' (encL_len _ _)])
    unfold Loads at hL
    rw [ho] at hL
    simp only at hL
    rw [if_neg (by simp)] at hL
    obtain ⟨l2, e2, q1, rfl, _⟩ := hL
    exact (q1.unique hr).2
/-- The frame that a place lies in. -/
theorem row_at : ∀ (R : List (Int × List Int)) (a : Nat), a < (rowB R).length → ∃ r k p post, R = r ++ (k, p) :: post ∧ (rowB r).length ≤ a ∧ a < (rowB r).length + (12 + p.length)
  | [], a, h => by simp [rowB] at h
  | (k, p) :: R, a, h => by
    rw [rowB_cons, List.length_append, encL_len] at h
    by_cases hc : a < 12 + p.length
    · exact ⟨[], k, p, R, rfl, by simp [rowB], by simp [rowB]; omega⟩
    · obtain ⟨r, k', p', post, h1, h2, h3⟩ := row_at R (a - (12 + p.length)) (by omega)
      refine ⟨(k, p) :: r, k', p', post, by rw [h1]; rfl, ?_, ?_⟩
      · rw [rowB_cons, List.length_append, encL_len]; omega
      · rw [rowB_cons, List.length_append, encL_len]; omega
theorem rowB_app (r t : List (Int × List Int)) : rowB (r ++ t) = rowB r ++ rowB t := by simp [rowB]
theorem file_prefix {hd : List Int} {l : List (List Int)} {r post : List (Int × List Int)} {c : Int × List Int} (h : fileR hd l = r ++ c :: post) : r = [] ∨ ∃ (l1 : List (List Int)), r = (1, hd) :: l1.map (fun p => ((2 : Int), p)) ∧ ∀ p ∈ l1, p ∈ l := by
  cases r with
  | nil => exact .inl rfl
  | cons d r =>
    have h2 : (1, hd) :: (l.map (fun p => ((2 : Int), p)) ++ [(3, be4 l.length)]) = d :: (r ++ c :: post) := h
    simp only [List.cons.injEq] at h2
    obtain ⟨rfl, h3⟩ := h2
    have hl : r.length ≤ l.length := by
      have := congrArg List.length h3
      simp at this
      omega
    refine .inr ⟨l.take r.length, ?_, fun p hp => List.mem_of_mem_take hp⟩
    have h4 : r = (l.map (fun p => ((2 : Int), p)) ++ [(3, be4 l.length)]).take r.length := by rw [h3, List.take_left]
    rw [List.take_append_of_le_length (by simpa using hl)] at h4
    rw [List.map_take, ← h4]
theorem file_mem {hd : List Int} {l : List (List Int)} (h1 : hd.length ≤ 1024 ∧ Byt hd) (h2 : ∀ p ∈ l, p.length ≤ 1024 ∧ Byt p) : ∀ f ∈ fileR hd l, (f.1 = 1 ∨ f.1 = 2 ∨ f.1 = 3) ∧ f.2.length ≤ 1024 ∧ Byt f.2 := by
  intro f hf
  rcases List.mem_append.1 hf with hf | hf
  · rcases List.mem_cons.1 hf with rfl | hf
    · exact ⟨.inl rfl, h1⟩
    · obtain ⟨p, hp, rfl⟩ := List.mem_map.1 hf
      exact ⟨.inr (.inl rfl), h2 p hp⟩
  · have : f = (3, be4 l.length) := by simpa using hf
    subst this
    exact ⟨.inr (.inr rfl), by simp [be4], be4_byt _⟩
theorem rowB_byt {R : List (Int × List Int)} (h : ∀ f ∈ R, Byt f.2) : Byt (rowB R) := by
  intro x hx
  unfold rowB at hx
  obtain ⟨y, hy, hxy⟩ := List.mem_flatten.1 hx
  obtain ⟨f, hf, rfl⟩ := List.mem_map.1 hy
  exact encL_byt (h f hf) x hxy
/-- A file that was cut off. -/
theorem loads_cut {s : St} (h : Peace s) {n : Nm} {y : Nat} (hx : s.now n = some y) {hd : List Int} {l : List (List Int)} (h1 : hd.length ≤ 1024 ∧ Byt hd) (h2 : ∀ p ∈ l, p.length ≤ 1024 ∧ Byt p) {m : Nat} (hm : m < (rowB (fileR hd l)).length)
    (hf : s.dat y = (rowB (fileR hd l)).take m) {hd' : List Int} {l' : List (List Int)} {e : Int} (hL : Loads s n hd' l' e) : e = 90 := by
  obtain ⟨r, k, p, post, hR, a1, a2⟩ := row_at _ m hm
  have hkp := file_mem h1 h2 (k, p) (by rw [hR]; simp)
  rw [hR, rowB_app, rowB_cons] at hf
  refine loads_bad h hx (r := r) (D := (encL k p).take (m - (rowB r).length)) ?_ ?_ ?_ hL
  · rw [hf, List.take_append, List.take_of_length_le a1, List.take_append_of_le_length (by rw [encL_len]; omega)]
  · unfold Bad
    have hp : p.length ≤ 1024 := hkp.2.1
    rw [List.take_take, Nat.min_eq_right (by omega)]
    exact decF_cut hkp.1 hp (by omega)
  · rcases file_prefix hR with rfl | ⟨l1, rfl, q⟩
    · exact .inl rfl
    · exact .inr ⟨hd, l1, rfl, h1.1, fun p hp => (h2 p (q p hp)).1⟩
/-- A file in which bits were turned within 32 places. -/
theorem loads_burst {s : St} (h : Peace s) {n : Nm} {y : Nat} (hx : s.now n = some y) {hd : List Int} {l : List (List Int)} (h1 : hd.length ≤ 1024 ∧ Byt hd) (h2 : ∀ p ∈ l, p.length ≤ 1024 ∧ Byt p) {T : List Int} (hT : Byt T) (hl : T.length = (rowB (fileR hd l)).length)
    (hf : s.dat y = T) {a : Nat} {g : Nat → Bool} (hd0 : ∀ q, q < 8 * T.length → bitAt T q = (bitAt (rowB (fileR hd l)) q ^^ g q)) (ha : a < 8 * T.length) (ga : g a = true) (g0 : ∀ q, q < a → g q = false) (g1 : ∀ q, a + 32 ≤ q → g q = false)
    {hd' : List Int} {l' : List (List Int)} {e : Int} (hL : Loads s n hd' l' e) : e = 90 := by
  obtain ⟨r, k, p, post, hR, a1, a2⟩ := row_at (fileR hd l) (a / 8) (by omega)
  have hm := file_mem h1 h2
  have hkp := hm (k, p) (by rw [hR]; simp)
  have hB : Byt (rowB (fileR hd l)) := rowB_byt fun f hf => (hm f hf).2.2
  have hlen : (rowB (fileR hd l)).length = (rowB r).length + ((12 + p.length) + (rowB post).length) := by rw [hR, rowB_app, rowB_cons, List.length_append, List.length_append, encL_len]
  have hrow : rowB (fileR hd l) = rowB r ++ (encL k p ++ rowB post) := by rw [hR, rowB_app, rowB_cons]
  have ht : T.take (rowB r).length = rowB r := by
    have e : (rowB (fileR hd l)).take (rowB r).length = rowB r := by rw [hrow, List.take_left]
    rw [← e]
    conv => lhs; rw [e]
    refine bits_inj (fun x hx => hT x (List.mem_of_mem_take hx)) (fun x hx => hB x (List.mem_of_mem_take hx)) (by rw [List.length_take, List.length_take]; omega) fun q hq => ?_
    have hq' : q < 8 * (rowB r).length := by rw [List.length_take] at hq; omega
    rw [bitAt_take _ _ _ hq', bitAt_take _ _ _ hq', hd0 q (by omega), g0 q (by omega), Bool.xor_false]
  refine loads_bad h hx (r := r) (D := T.drop (rowB r).length) (by rw [hf]; conv => lhs; rw [← List.take_append_drop (rowB r).length T, ht]) ?_ ?_ hL
  · unfold Bad
    have hp := hkp.2.1
    simp only at hp
    refine decF_burst hkp.1 hp hkp.2.2 (fun x hx => hT x (List.mem_of_mem_drop (List.mem_of_mem_take hx))) (by rw [List.length_take, List.length_drop]; omega) (a := a - 8 * (rowB r).length) (g := fun q => g (8 * (rowB r).length + q)) (fun q hq => ?_) (by omega) (by rw [show 8 * (rowB r).length + (a - 8 * (rowB r).length) = a by omega]; exact ga) (fun q hq => g0 _ (by omega)) (fun q hq => g1 _ (by omega))
    rw [bitAt_take _ _ _ (by omega), bitAt_drop, hd0 _ (by omega)]
    congr 1
    have e : (rowB (fileR hd l)).drop (rowB r).length = encL k p ++ rowB post := by rw [hrow, List.drop_left]
    have e2 : (encL k p ++ rowB post).take (12 + p.length) = encL k p := List.take_left' (encL_len _ _)
    rw [← bitAt_drop, e, ← bitAt_take _ _ _ hq, e2]
  · rcases file_prefix hR with rfl | ⟨l1, rfl, q⟩
    · exact .inl rfl
    · exact .inr ⟨hd, l1, rfl, h1.1, fun p hp => (h2 p (q p hp)).1⟩
end Go.Proofs.YtgigigchjnnonaaDoor
