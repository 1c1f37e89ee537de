/- Plain Lean: a list of arcs sorted, each once: there is just one. -/
import Derived.Test.YtcgejfmbhpmjfaaVSort
set_option linter.unusedSimpArgs false
set_option linter.unusedVariables false
set_option maxRecDepth 20000
namespace Go.Proofs.Ytcgejfmbhpmjfaa
open Go Go.V

theorem snoc_ind {α : Type} {P : List α → Prop} (h0 : P []) (hs : ∀ l a, P l → P (l ++ [a])) : ∀ l, P l := fun l => by
  rw [← List.reverse_reverse l]
  induction l.reverse with
  | nil => exact h0
  | cons a t ih => rw [List.reverse_cons]; exact hs _ _ ih
theorem lt_trans' {p q r : Pr} (h : ltP p q = true) (k : ltP q r = true) : ltP p r = true := by simp only [ltP, decide_eq_true_eq] at *; omega
theorem lt_irrefl' (p : Pr) : ltP p p = false := by simp [ltP]
theorem lt_asymm' {p q : Pr} (h : ltP p q = true) : ltP q p = false := by simp only [ltP, decide_eq_true_eq, decide_eq_false_iff_not] at *; omega
theorem lt_tri {p q : Pr} (h : ltP p q = false) (k : ltP q p = false) : p = q := by
  simp only [ltP, decide_eq_false_iff_not] at *
  exact Prod.ext (by omega) (by omega)
theorem lt_ne {p q : Pr} (h : ltP q p = false) (k : p ≠ q) : ltP p q = true := by
  cases h' : ltP p q with
  | true => rfl
  | false => exact absurd (lt_tri h' h) k
/-- It rises. -/
def Up (ps : List Pr) : Prop := ps.Pairwise fun p q => ltP p q = true
theorem Up.nodup {ps : List Pr} (h : Up ps) : ps.Nodup := List.Pairwise.imp (fun {a b} hab e => by rw [e, lt_irrefl'] at hab; cases hab) h
theorem rise_up (ps : List Pr) : riseP ps = true ↔ Up ps := by
  constructor
  · intro h
    unfold Up
    rw [List.pairwise_iff_getElem]
    have key : ∀ d i, (hj : i + d + 1 < ps.length) → ltP (ps.getD i (0, 0)) (ps.getD (i + d + 1) (0, 0)) = true := by
      intro d
      induction d with
      | zero => intro i hj; exact riseP_get h hj
      | succ d ih => intro i hj; exact lt_trans' (ih i (by omega)) (riseP_get h (i := i + d + 1) (by omega))
    intro i j hi hj hij
    have := key (j - i - 1) i (by omega)
    rw [show i + (j - i - 1) + 1 = j by omega] at this
    simpa [List.getD_eq_getElem?_getD, List.getElem?_eq_getElem hi, List.getElem?_eq_getElem hj] using this
  · intro h
    refine riseP_yes fun i hi => ?_
    unfold Up at h
    rw [List.pairwise_iff_getElem] at h
    have := h i (i + 1) (by omega) hi (by omega)
    simpa [List.getD_eq_getElem?_getD, List.getElem?_eq_getElem hi, List.getElem?_eq_getElem (show i < ps.length by omega)] using this
/-- out is the arcs of ps, rising, each once. -/
def IsSort (ps out : List Pr) : Prop := Up out ∧ ∀ x, x ∈ out ↔ x ∈ ps
theorem up_unique {a b : List Pr} (ha : Up a) (hb : Up b) (h : ∀ x, x ∈ a ↔ x ∈ b) : a = b :=
  List.Perm.eq_of_pairwise (fun x y _ _ h1 h2 => by rw [lt_asymm' h1] at h2; cases h2) ha hb ((List.perm_ext_iff_of_nodup ha.nodup hb.nodup).2 h)
theorem IsSort.unique {ps a b : List Pr} (ha : IsSort ps a) (hb : IsSort ps b) : a = b := up_unique ha.1 hb.1 fun x => (ha.2 x).trans (hb.2 x).symm

/-- Each once, where equal ones stand together. -/
def dd (ps : List Pr) : List Pr := ps.foldl (fun acc p => if acc.getLast? = some p then acc else acc ++ [p]) []
theorem dd_snoc (ps : List Pr) (p : Pr) : dd (ps ++ [p]) = if (dd ps).getLast? = some p then dd ps else dd ps ++ [p] := by
  unfold dd
  rw [List.foldl_append]
  rfl
theorem dd_last : ∀ ps : List Pr, (dd ps).getLast? = ps.getLast? := by
  refine snoc_ind rfl fun l a ih => ?_
  rw [dd_snoc]
  split
  · rename_i h
    rw [h]; simp
  · simp
theorem dd_snoc' (ps : List Pr) (p : Pr) : dd (ps ++ [p]) = if ps.getLast? = some p then dd ps else dd ps ++ [p] := by rw [dd_snoc, dd_last]
theorem dd_mem (x : Pr) : ∀ ps : List Pr, x ∈ dd ps ↔ x ∈ ps := by
  refine snoc_ind Iff.rfl fun l a ih => ?_
  rw [dd_snoc']
  split
  · rename_i h
    rw [ih, List.mem_append, List.mem_singleton]
    refine ⟨.inl, fun h' => h'.elim id fun e => ?_⟩
    rw [e]
    exact List.mem_of_getLast? h
  · simp [ih]
theorem dd_len : ∀ ps : List Pr, (dd ps).length ≤ ps.length := by
  refine snoc_ind (Nat.le_refl _) fun l a ih => ?_
  rw [dd_snoc']
  split
  · simp; omega
  · simp; omega
theorem dd_up : ∀ ps : List Pr, (ps.Pairwise fun p q => ltP q p = false) → Up (dd ps) := by
  refine snoc_ind (fun _ => List.Pairwise.nil) fun l a ih h => ?_
  rw [List.pairwise_append] at h
  obtain ⟨h1, _, h3⟩ := h
  have hu := ih h1
  rw [dd_snoc']
  split
  · exact hu
  · rename_i hne
    unfold Up
    rw [List.pairwise_append]
    refine ⟨hu, List.pairwise_singleton _ _, fun b hb c hc => ?_⟩
    rw [List.mem_singleton] at hc
    subst hc
    have hba : ltP c b = false := h3 b ((dd_mem b l).1 hb) c (by simp)
    refine lt_ne hba fun e => ?_
    subst e
    -- b is the last: all of dd l are at most b, and it rises
    apply hne
    rw [← dd_last]
    obtain ⟨s, t, hst⟩ := List.append_of_mem hb
    rw [hst]
    cases t with
    | nil => simp
    | cons d t =>
      exfalso
      rw [hst] at hu
      unfold Up at hu
      rw [List.pairwise_append] at hu
      have hbd : ltP b d = true := by
        have := hu.2.1
        rw [List.pairwise_cons] at this
        exact this.1 d (by simp)
      have hdb : ltP b d = false := h3 d ((dd_mem d l).1 (by rw [hst]; simp)) b (by simp)
      rw [hbd] at hdb; cases hdb
/-- The arcs of ps, rising, each once. -/
def sortP (ps : List Pr) : List Pr := dd (srt ps)
theorem srt_sorted (ps : List Pr) : (srt ps).Pairwise fun p q => ltP q p = false := by
  refine List.Pairwise.imp ?_ (List.pairwise_mergeSort (le := fun x y => !ltP y x) ?_ ?_ ps)
  · intro a b h; simpa using h
  · intro a b c h1 h2
    simp only [Bool.not_eq_true', ltP, decide_eq_false_iff_not] at *
    omega
  · intro a b
    simp only [Bool.or_eq_true, Bool.not_eq_true', ltP, decide_eq_false_iff_not]
    omega
theorem sortP_is (ps : List Pr) : IsSort ps (sortP ps) :=
  ⟨dd_up _ (srt_sorted ps), fun x => (dd_mem x _).trans (List.mergeSort_perm ps _).mem_iff⟩
theorem sortP_of {ps out : List Pr} (h : IsSort ps out) : out = sortP ps := h.unique (sortP_is ps)
theorem sortP_len (ps : List Pr) : (sortP ps).length ≤ ps.length := by
  have := dd_len (srt ps)
  rw [srt_len] at this
  exact this
end Go.Proofs.Ytcgejfmbhpmjfaa
