/- A file of frames, read. -/
import Derived.Test.YtgpoldjpmcoppaaDoorVPln9
set_option linter.unusedSimpArgs false
set_option linter.unusedVariables false
set_option maxRecDepth 20000
namespace Go.Proofs.YtgpoldjpmcoppaaDoor
open Go Go.V
theorem nextF_enc {s : St} (h : Peace s) {x : RdS} {y : Nat} (hx : s.now x.name = some y) {k : Int} {p rest : List Int} (hd : (s.dat y).drop x.at'.toNat = encL k p ++ rest) (ha : 0 ≤ x.at') (hk : k = 1 ∨ k = 2 ∨ k = 3) (hp : p.length ≤ 1024) :
    nextF s x = ({ x with at' := x.at' + (12 + p.length) }, k, p, 0) := by
  have hr := read_calm h hx (k := 1036) ha (by decide)
  rw [hd] at hr
  have e : (encL k p ++ rest).take (Int.toNat 1036) = encL k p ++ rest.take (1036 - (12 + p.length)) := by
    rw [List.take_append, encL_len, List.take_of_length_le (by rw [encL_len]; show _ ≤ 1036; omega)]
    rfl
  rw [e] at hr
  unfold nextF
  simp only [hr, decF_enc hk hp]
  simp
theorem read_end {s : St} (h : Peace s) {n : Nm} {y : Nat} (hx : s.now n = some y) {a : Int} (ha : 0 ≤ a) (he : (s.dat y).drop a.toNat = []) (k : Int) (hk : 0 ≤ k) : readS s n a k = ([], 0) := by
  rw [read_calm h hx ha hk, he]
  simp
theorem Rest.unique {s : St} : ∀ {x : RdS} {l l' : List (List Int)} {e e' : Int}, Rest s x l e → Rest s x l' e' → l = l' ∧ e = e' := by
  intro x l l' e e' h
  induction h generalizing l' e' with
  | err h1 => intro k; cases k with
    | err k1 => exact ⟨rfl, rfl⟩
    | done k1 k2 => exact absurd k1 h1
    | more k1 k2 k3 => exact absurd k1 h1
  | done h1 h2 => intro k; cases k with
    | err k1 => exact absurd h1 k1
    | done k1 k2 => exact ⟨rfl, rfl⟩
    | more k1 k2 k3 => rw [h2] at k2; cases k2
  | more h1 h2 h3 ih => intro k; cases k with
    | err k1 => exact absurd h1 k1
    | done k1 k2 => rw [h2] at k2; cases k2
    | more k1 k2 k3 => obtain ⟨a, b⟩ := ih k3; exact ⟨by rw [a], b⟩
theorem rowB_cons (k : Int) (p : List Int) (r : List (Int × List Int)) : rowB ((k, p) :: r) = encL k p ++ rowB r := by simp [rowB]
/-- What follows, to the end mark. -/
theorem rest_file {s : St} (h : Peace s) {y : Nat} : ∀ (l : List (List Int)) (x : RdS), s.now x.name = some y → (∀ p ∈ l, p.length ≤ 1024) → 0 ≤ x.at' → x.over = false →
    (s.dat y).drop x.at'.toNat = rowB (l.map (fun p => ((2 : Int), p)) ++ [(3, be4 (x.data + l.length))]) → Rest s x l 0
  | [], x, hx, hl, ha, ho, hd => by
    simp only [List.map_nil, List.nil_append, rowB_cons, List.length_nil] at hd
    have hd' : (s.dat y).drop x.at'.toNat = encL 3 (be4 x.data) ++ [] := by rw [hd]; simp [rowB]
    have hn := nextF_enc h hx hd' ha (by omega) (by simp [be4])
    have hlen : (s.dat y).length ≤ x.at'.toNat + 16 := by
      have := congrArg List.length hd'
      simp only [List.length_drop, List.append_nil, encL_len] at this
      have : (be4 x.data).length = 4 := rfl
      omega
    have hz := read_end h (n := x.name) hx (a := x.at' + (12 + (be4 x.data).length)) (by omega) (by
      apply List.drop_of_length_le
      have : (be4 x.data).length = 4 := rfl
      omega) 1 (by decide)
    have hN : nextR s x = ({ x with at' := x.at' + (12 + (be4 x.data).length), over := true }, [], false, 0) := by
      unfold nextR
      rw [ho, hn]
      simp only [Bool.false_eq_true, if_false, true_and]
      rw [if_neg (by decide)]
      unfold endF
      simp only [hz]
      simp
    have := @Rest.done s x (by rw [hN]) (by rw [hN])
    exact this
  | p :: l, x, hx, hl, ha, ho, hd => by
    simp only [List.map_cons, List.cons_append, rowB_cons] at hd
    have hn := nextF_enc h hx hd ha (by omega) (hl p List.mem_cons_self)
    have hN : nextR s x = ({ x with at' := x.at' + (12 + p.length), data := x.data + 1 }, p, true, 0) := by
      unfold nextR
      rw [ho, hn]
      simp [ho]
    have ih := rest_file h l { x with at' := x.at' + (12 + p.length), data := x.data + 1 } hx (fun q hq => hl q (List.mem_cons_of_mem _ hq)) (by simp only; omega) ho (by
      simp only
      have e : (x.at' + (12 + (p.length : Int))).toNat = x.at'.toNat + (12 + p.length) := by omega
      rw [e, ← List.drop_drop, hd, List.drop_left' (encL_len _ _)]
      rw [show x.data + ((p :: l).length : Int) = x.data + 1 + l.length by simp only [List.length_cons]; omega])
    have := @Rest.more s x l 0 (by rw [hN]) (by rw [hN]) (by rw [hN]; exact ih)
    rw [hN] at this
    exact this
theorem open_file {s : St} (h : Peace s) {n : Nm} {y : Nat} (hx : s.now n = some y) {hd rest : List Int} (hf : s.dat y = encL 1 hd ++ rest) (hl : hd.length ≤ 1024) : openF s n = ({ newR n with at' := 12 + hd.length }, hd, 0) := by
  have hn := nextF_enc h (x := newR n) hx (k := 1) (p := hd) (rest := rest) (by simpa [newR] using hf) (Int.le_refl 0) (by omega) hl
  unfold openF
  simp only [hn]
  simp [newR]
theorem loads_file {s : St} (h : Peace s) {n : Nm} {y : Nat} (hx : s.now n = some y) {hd : List Int} {l : List (List Int)} (hf : s.dat y = rowB (fileR hd l)) (hl : hd.length ≤ 1024) (hll : ∀ p ∈ l, p.length ≤ 1024)
    {hd' : List Int} {l' : List (List Int)} {e : Int} (hL : Loads s n hd' l' e) : hd' = hd ∧ l' = l ∧ e = 0 := by
  have e1 : s.dat y = encL 1 hd ++ rowB (l.map (fun p => ((2 : Int), p)) ++ [(3, be4 ((0 : Int) + l.length))]) := by
    rw [hf, fileR]; simp [rowB]
  have ho := open_file h hx e1 hl
  have hr := rest_file h l { newR n with at' := 12 + hd.length } hx hll (by simp only; omega) rfl (by
    simp only
    have e : (12 + (hd.length : Int)).toNat = 12 + hd.length := by omega
    rw [e, e1, List.drop_left' (encL_len _ _)]
    rfl)
  unfold Loads at hL
  rw [ho] at hL
  simp only at hL
  rw [if_neg (by simp)] at hL
  obtain ⟨l2, e2, h1, rfl, h3⟩ := hL
  obtain ⟨rfl, rfl⟩ := h1.unique hr
  rw [if_neg (by simp)] at h3
  exact ⟨h3.1, h3.2, rfl⟩
end Go.Proofs.YtgpoldjpmcoppaaDoor
