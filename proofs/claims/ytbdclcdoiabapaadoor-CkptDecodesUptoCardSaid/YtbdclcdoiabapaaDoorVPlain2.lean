/- Plain laws of the checkpoints: both decoders answer alike; there and back; what is taken is what is encoded. -/
import Derived.Test.YtbdclcdoiabapaaDoorVPlain
set_option linter.unusedSimpArgs false
set_option linter.unusedVariables false
namespace Go.Proofs.YtbdclcdoiabapaaDoor
open Go Go.V

theorem byt_drop {xs : List Int} (h : Byt xs) (n : Nat) : Byt (xs.drop n) := fun x hx => h x (List.mem_of_mem_drop hx)
theorem rdN_le (xs : List Int) : ∀ k, (rdN xs k).2.1 ≤ xs.length
  | 0 => Nat.zero_le _
  | k + 1 => rstep_le (rdN_le xs k)
/-- Numbers read without an error are what was put. -/
theorem rdN_canon {ys : List Int} (hw : Byt ys) : ∀ k, (rdN ys k).2.2 = 0 → ys.take (rdN ys k).2.1 = (rdN ys k).1.flatMap vput ∧ ∀ v ∈ (rdN ys k).1, 0 ≤ v
  | 0, _ => by simp [rdN]
  | k + 1, h => by
    have hk : (rdN ys k).2.2 = 0 := by
      rcases Int.decEq (rdN ys k).2.2 0 with hn | hn
      · exact absurd h (rdN_err hn 1)
      · exact hn
    obtain ⟨ih, ihn⟩ := rdN_canon hw k hk
    have hp := rdN_le ys k
    simp only [rdN, rstep, rval, if_pos hk] at h ⊢
    obtain ⟨h1, h2⟩ := vform_canon (byt_drop hw (rdN ys k).2.1) h
    refine ⟨?_, ?_⟩
    · rw [List.take_add, ih, h1]
      simp
    · intro v hv
      rcases List.mem_append.1 hv with hv | hv
      · exact ihn v hv
      · rw [List.mem_singleton.1 hv]; exact h2
/-- What was put is read back. -/
theorem rdN_put (xs : List Int) (hx : ∀ x ∈ xs, 0 ≤ x ∧ x < 9223372036854775808) : ∀ k, k ≤ xs.length → rdN (xs.flatMap vput) k = (xs.take k, (((xs.take k).flatMap vput).length, 0))
  | 0, _ => by simp [rdN]
  | k + 1, h => by
    have ih := rdN_put xs hx k (by omega)
    have hk : k < xs.length := by omega
    have hxk := hx _ (mem_getD (xs := xs) hk 0)
    have hsplit : xs.flatMap vput = (xs.take k).flatMap vput ++ (vput (xs.getD k 0) ++ (xs.drop (k + 1)).flatMap vput) := by
      conv => lhs; rw [← List.take_append_drop k xs]
      rw [List.flatMap_append]
      congr 1
      rw [List.drop_eq_getElem_cons hk, List.flatMap_cons]
      congr 2
      simp [List.getD_eq_getElem?_getD, List.getElem?_eq_getElem hk]
    have hdrop : (xs.flatMap vput).drop ((xs.take k).flatMap vput).length = vput (xs.getD k 0) ++ (xs.drop (k + 1)).flatMap vput := by
      rw [hsplit, List.drop_left]
    have hv := vform_vput hxk.1 hxk.2 ((xs.drop (k + 1)).flatMap vput)
    simp only [rdN, ih, rstep, rval, if_true, hdrop, hv]
    rw [take_succ_getD hk 0]
    simp
theorem espec_of_bspec : ∀ (l : List (List Int)) (n : Nat) {xs : List Int} {r : List (List Int)}, bspec n l = some (xs, r) → espec n l = some (xs, r)
  | _, 0, xs, r, h => by rw [bspec_zero] at h; rw [espec_zero]; exact h
  | [], n + 1, xs, r, h => by rw [bspec_nil (by omega)] at h; cases h
  | y :: l, n + 1, xs, r, h => by
    rw [bspec_cons (by omega)] at h
    rw [espec_cons (by omega)]
    split at h
    · rename_i hc
      obtain ⟨q, hq, he⟩ := Option.map_eq_some_iff.1 h
      simp only [clean, decide_eq_true_eq] at hc
      rw [if_pos hc.1, espec_of_bspec l _ (xs := q.1) (r := q.2) hq]
      cases he
      rfl
    · cases h
theorem bspec_len {l : List (List Int)} {n : Nat} {xs : List Int} {r : List (List Int)} (h : bspec n l = some (xs, r)) : xs.length = n := espec_len l n (espec_of_bspec l n h)
theorem pieces_app {a b : List Int} (ha : 0 < a.length) (h : a.length ≤ 200) (hb : a.length = 200 ∨ b = []) : pieces (a ++ b) = a.flatMap vput :: pieces b := by
  rw [pieces_cons (by simp; omega)]
  rcases hb with hb | rfl
  · rw [List.take_append_of_le_length (by omega), List.take_of_length_le (by omega), List.drop_append_of_le_length (by omega), List.drop_of_length_le (by omega), List.nil_append]
  · rw [List.append_nil, List.take_of_length_le (by omega), List.drop_of_length_le (by omega)]
/-- What is taken is what is put. -/
theorem bspec_canon : ∀ (l : List (List Int)) (n : Nat) {xs : List Int} {r : List (List Int)}, (∀ y ∈ l, Byt y) → bspec n l = some (xs, r) → l = pieces xs ++ r ∧ ∀ x ∈ xs, 0 ≤ x
  | l, 0, xs, r, _, h => by
    rw [bspec_zero] at h
    cases h
    simp [pieces_nil]
  | [], n + 1, xs, r, _, h => by rw [bspec_nil (by omega)] at h; cases h
  | y :: l, n + 1, xs, r, hw, h => by
    rw [bspec_cons (by omega)] at h
    split at h
    · rename_i hc
      obtain ⟨⟨a, b⟩, hq, he⟩ := Option.map_eq_some_iff.1 h
      have hlen := bspec_len hq
      obtain ⟨ih, ihn⟩ := bspec_canon l _ (fun z hz => hw z (by simp [hz])) hq
      simp only [clean, decide_eq_true_eq] at hc
      obtain ⟨h1, h2⟩ := rdN_canon (hw y (by simp)) _ hc.1
      have hl := rdN_len y (min 200 (n + 1))
      rw [hc.2, List.take_of_length_le (Nat.le_refl _)] at h1
      have he' : (rdN y (min 200 (n + 1))).1 ++ a = xs ∧ b = r := by simpa using he
      obtain ⟨rfl, rfl⟩ := he'
      refine ⟨?_, ?_⟩
      · rw [pieces_app (by omega) (by omega) ?_, ← h1, ih]
        · rfl
        · by_cases h200 : 200 ≤ n + 1
          · exact .inl (by omega)
          · exact .inr (List.eq_nil_of_length_eq_zero (by omega))
      · intro x hx
        rcases List.mem_append.1 hx with hx | hx
        · exact h2 x hx
        · exact ihn x hx
    · cases h
/-- What was put is read back. -/
theorem bspec_put : ∀ (m : Nat) (xs : List Int) (r : List (List Int)), xs.length ≤ m → (∀ x ∈ xs, 0 ≤ x ∧ x < 9223372036854775808) → bspec xs.length (pieces xs ++ r) = some (xs, r)
  | m, [], r, _, _ => by rw [pieces_nil]; exact bspec_zero
  | 0, x :: xs, r, h, _ => by simp at h
  | m + 1, x :: xs, r, h, hx => by
    obtain ⟨ys, hys⟩ : ∃ ys, ys = x :: xs := ⟨_, rfl⟩
    rw [← hys] at h hx ⊢
    have hl : 0 < ys.length := by rw [hys]; simp
    have hxt : ∀ z ∈ ys.take 200, 0 ≤ z ∧ z < 9223372036854775808 := fun z hz => hx z (List.mem_of_mem_take hz)
    have hr := rdN_put (ys.take 200) hxt (ys.take 200).length (Nat.le_refl _)
    rw [List.take_of_length_le (Nat.le_refl _)] at hr
    have hk : (ys.take 200).length = min 200 ys.length := by simp
    rw [pieces_cons hl, List.cons_append, bspec_cons hl, ← hk, hr, if_pos (by simp [clean])]
    have ih := bspec_put m (ys.drop 200) r (by simp; omega) (fun z hz => hx z (List.mem_of_mem_drop hz))
    rw [List.length_drop] at ih
    rw [show ys.length - (ys.take 200).length = ys.length - 200 by simp; omega, ih]
    simp

theorem four_be {xs : List Int} (hw : Byt xs) {i : Nat} (h : i + 4 ≤ xs.length) : four (be xs i) = (xs.drop i).take 4 := by
  rw [take4 h]
  have h0 := hw _ (mem_getD (xs := xs) (i := i) (by omega) 0)
  have h1 := hw _ (mem_getD (xs := xs) (i := i + 1) (by omega) 0)
  have h2 := hw _ (mem_getD (xs := xs) (i := i + 2) (by omega) 0)
  have h3 := hw _ (mem_getD (xs := xs) (i := i + 3) (by omega) 0)
  unfold four be
  simp only [List.cons.injEq, and_true]
  omega
theorem head_be {xs : List Int} (hw : Byt xs) (h : xs.length = 16) : four (be xs 0) ++ four (be xs 4) ++ four (be xs 8) ++ four (be xs 12) = xs := by
  rw [four_be hw (by omega), four_be hw (by omega), four_be hw (by omega), four_be hw (by omega)]
  have e : ∀ (i : Nat), xs.drop i = (xs.drop i).take 4 ++ xs.drop (i + 4) := fun i => by rw [← List.drop_drop, List.take_append_drop]
  conv => rhs; rw [← List.drop_zero (l := xs), e 0, e 4, e 8, e 12]
  rw [List.drop_of_length_le (i := 12 + 4) (by omega)]
  simp
theorem be_four {a b c d : Int} (ha : 0 ≤ a ∧ a < 4294967296) (hb : 0 ≤ b ∧ b < 4294967296) (hc : 0 ≤ c ∧ c < 4294967296) (hd : 0 ≤ d ∧ d < 4294967296) :
    be (four a ++ four b ++ four c ++ four d) 0 = a ∧ be (four a ++ four b ++ four c ++ four d) 4 = b ∧ be (four a ++ four b ++ four c ++ four d) 8 = c ∧ be (four a ++ four b ++ four c ++ four d) 12 = d := by
  simp only [be, four, List.cons_append, List.nil_append, List.getD_cons_succ, List.getD_cons_zero]
  omega
theorem b2i_bit (bs : List Bool) : ((bs.map b2i).map fun x => decide (x = 1)) = bs := by
  rw [List.map_map]
  conv => rhs; rw [← List.map_id bs]
  apply List.map_congr_left
  intro b _
  cases b <;> rfl
theorem bit_b2i {ys : List Int} (h : ∀ y ∈ ys, 0 ≤ y ∧ y ≤ 1) : (ys.map fun x => decide (x = 1)).map b2i = ys := by
  rw [List.map_map]
  conv => rhs; rw [← List.map_id ys]
  apply List.map_congr_left
  intro y hy
  have := h y hy
  have : y = 0 ∨ y = 1 := by omega
  rcases this with rfl | rfl <;> rfl

theorem mayC_iff {gen p : Int} {xs : List Int} {ds : List Bool} : mayC gen p xs ds = true ↔ (1 ≤ gen ∧ gen ≤ 2147483647 ∧ 0 ≤ p ∧ p ≤ 2147483647 ∧ xs.length ≤ 16777216 ∧ ds.length ≤ 1000 ∧ ∀ x ∈ xs, 0 ≤ x ∧ x < 16777216) := by
  unfold mayC
  rw [decide_eq_true_eq]

theorem pieces_ge : ∀ (m : Nat) (xs : List Int), xs.length ≤ m → xs.length ≤ (pieces xs).length * 200
  | m, [], _ => by simp
  | 0, x :: xs, h => by simp at h
  | m + 1, x :: xs, h => by
    rw [pieces_cons (by simp)]
    have ih := pieces_ge m ((x :: xs).drop 200) (by simp at h ⊢; omega)
    simp at ih ⊢
    omega

/-- Decode just takes what Encode makes. -/
theorem decS_iff {id : Int} {head : List Int} {data : List (List Int)} (hw : Byt head) (hd : ∀ y ∈ data, Byt y) {p : Int} {xs : List Int} {ds : List Bool} :
    decS id head data = some (p, xs, ds) ↔ (mayC id p xs ds = true ∧ chkHead id p xs ds = head ∧ chkData xs ds = data) := by
  constructor
  · intro h
    unfold decS at h
    split at h
    · rename_i hc
      obtain ⟨h16, hn, hn2, hs⟩ := hc
      cases hb : bspec (be head 8).toNat data with
      | none => rw [hb] at h; cases h
      | some q =>
        obtain ⟨a, l⟩ := q
        rw [hb] at h
        simp only at h
        cases hq : dspec (be head 12).toNat l with
        | none => rw [hq] at h; cases h
        | some bs =>
          rw [hq] at h
          simp only at h
          split at h
          · rename_i hm
            obtain ⟨hm, h0, h8, h12⟩ := hm
            have he : be head 4 = p ∧ a = xs ∧ bs = ds := by simpa using h
            obtain ⟨rfl, rfl, rfl⟩ := he
            refine ⟨hm, ?_, ?_⟩
            · rw [chkHead, ← h0, ← h8, ← h12]
              exact head_be hw h16
            · obtain ⟨hdat, _⟩ := bspec_canon data _ hd hb
              rw [chkData]
              conv => rhs; rw [hdat]
              congr 1
              unfold dspec at hq
              split at hq
              · rename_i hz
                split at hq
                · rename_i hl
                  cases hq
                  rw [List.eq_nil_of_length_eq_zero hl]
                  rfl
                · cases hq
              · rename_i hz
                split at hq
                · rename_i hc
                  obtain ⟨hl1, hl2, hle⟩ := hc
                  have hq' : ((l.getD 0 []).map fun x => decide (x = 1)) = bs := by simpa using hq
                  rw [← hq', if_neg (by rw [List.length_map]; omega)]
                  have hl : l = [l.getD 0 []] := by
                    match l, hl1 with
                    | [y], _ => rfl
                  have hin : l.getD 0 [] ∈ data := by
                    rw [hdat]
                    apply List.mem_append_right
                    rw [hl]
                    simp
                  rw [bit_b2i fun y hy => ⟨(hd _ hin y hy).1, hle y hy⟩]
                  exact hl.symm
                · cases hq
          · cases h
    · cases h
  · rintro ⟨hm, rfl, rfl⟩
    obtain ⟨m1, m2, m3, m4, m5, m6, m7⟩ := mayC_iff.1 hm
    obtain ⟨e0, e4, e8, e12⟩ := be_four (a := id) (b := p) (c := xs.length) (d := ds.length) (by omega) (by omega) (by omega) (by omega)
    have hp := pieces_ge _ xs (Nat.le_refl _)
    have hb := bspec_put _ xs (if ds.length = 0 then [] else [ds.map b2i]) (Nat.le_refl _) (fun x hx => by have := m7 x hx; omega)
    unfold decS
    rw [chkHead, e0, e4, e8, e12, if_pos ⟨by simp [four], by omega, by rw [chkData, List.length_append]; omega, by omega⟩, Int.toNat_natCast, chkData, hb]
    simp only [Int.toNat_natCast]
    have hds : dspec ds.length (if ds.length = 0 then [] else [ds.map b2i]) = some ds := by
      unfold dspec
      split
      · rename_i hz
        rw [if_pos (by rfl)]
        exact congrArg some (List.eq_nil_of_length_eq_zero hz).symm
      · rename_i hz
        have hle : ∀ x ∈ ds.map b2i, x ≤ 1 := by
          intro x hx
          obtain ⟨b, _, rfl⟩ := List.mem_map.1 hx
          cases b <;> decide
        rw [if_pos ⟨by simp, by simp, by simpa using hle⟩]
        exact congrArg some (b2i_bit ds)
    rw [hds]
    simp only
    rw [if_pos ⟨hm, trivial, trivial, trivial⟩]
/-- Both decoders answer alike. -/
theorem rdecS_iff {id : Int} {head : List Int} {data : List (List Int)} (hw : Byt head) (hd : ∀ y ∈ data, Byt y) {p : Int} {xs : List Int} {ds : List Bool} :
    rdecS id head data = some (p, xs, ds) ↔ (mayC id p xs ds = true ∧ chkHead id p xs ds = head ∧ chkData xs ds = data) := by
  constructor
  · intro h
    unfold rdecS at h
    split at h
    · cases hb : espec (be head 8).toNat data with
      | none => rw [hb] at h; cases h
      | some q =>
        obtain ⟨a, l⟩ := q
        rw [hb] at h
        simp only at h
        split at h
        · rename_i hm
          have he : be head 4 = p ∧ a = xs ∧ bitsOf l = ds := by simpa using h
          obtain ⟨rfl, rfl, rfl⟩ := he
          exact ⟨hm.2.1, hm.2.2.1, hm.2.2.2.1⟩
        · cases h
    · cases h
  · rintro ⟨hm, rfl, rfl⟩
    obtain ⟨m1, m2, m3, m4, m5, m6, m7⟩ := mayC_iff.1 hm
    obtain ⟨e0, e4, e8, e12⟩ := be_four (a := id) (b := p) (c := xs.length) (d := ds.length) (by omega) (by omega) (by omega) (by omega)
    have hp := pieces_ge _ xs (Nat.le_refl _)
    have hb := espec_of_bspec _ _ (bspec_put _ xs (if ds.length = 0 then [] else [ds.map b2i]) (Nat.le_refl _) (fun x hx => by have := m7 x hx; omega))
    have hbit : bitsOf (if ds.length = 0 then [] else [ds.map b2i]) = ds := by
      split
      · rename_i hz
        rw [List.eq_nil_of_length_eq_zero hz]
        rfl
      · exact b2i_bit ds
    unfold rdecS
    have hch : chkHead id p xs ds = four id ++ four p ++ four xs.length ++ four ds.length := rfl
    rw [hch, e4, e8, e12, if_pos ⟨by simp [four], by omega, by omega, by rw [chkData, List.length_append]; omega⟩, Int.toNat_natCast, chkData, hb]
    simp only [hbit]
    rw [if_pos ⟨by split <;> simp, hm, hch, rfl, trivial⟩]
theorem rdecS_eq {id : Int} {head : List Int} {data : List (List Int)} (hw : Byt head) (hd : ∀ y ∈ data, Byt y) : rdecS id head data = decS id head data := by
  cases h : decS id head data with
  | none =>
    cases h' : rdecS id head data with
    | none => rfl
    | some t =>
      obtain ⟨p, xs, ds⟩ := t
      rw [(decS_iff hw hd).2 ((rdecS_iff hw hd).1 h')] at h
      cases h
  | some t =>
    obtain ⟨p, xs, ds⟩ := t
    exact (rdecS_iff hw hd).2 ((decS_iff hw hd).1 h)
end Go.Proofs.YtbdclcdoiabapaaDoor
