/- Checkpoints as files, plainly: what is encoded is decoded, how long it is, which checkpoint fits. -/
import Derived.Test.YtgigigchjnnonaaGreatDoorM1
import Derived.Test.YtgigigchjnnonaaGreatDoorVPubW
import Derived.Test.YtgigigchjnnonaaGreatDoorVSet9
set_option linter.unusedSimpArgs false
set_option linter.unusedVariables false
set_option maxRecDepth 20000
namespace Go.Proofs.YtgigigchjnnonaaGreatDoor
open Go Go.V
theorem data_wf (xs : List Int) (ds : List Bool) : ∀ l ∈ chkData xs ds, Byt l := by
  have hp : ∀ (n : Nat) (xs : List Int), xs.length ≤ n → ∀ l ∈ pieces xs, Byt l := by
    intro n
    induction n with
    | zero =>
      intro xs h l hl
      rw [pieces_zero (by omega)] at hl
      cases hl
    | succ n ih =>
      intro xs h l hl
      by_cases h0 : 0 < xs.length
      · rw [pieces_cons h0] at hl
        rcases List.mem_cons.1 hl with rfl | hl
        · intro x hx
          obtain ⟨y, _, hy⟩ := List.mem_flatMap.1 hx
          exact vtail_wf _ _ x hy
        · exact ih (xs.drop 200) (by simp; omega) l hl
      · rw [pieces_zero (by omega)] at hl
        cases hl
  intro l hl
  simp only [chkData, List.mem_append] at hl
  rcases hl with hl | hl
  · exact hp _ xs (Nat.le_refl _) l hl
  · split at hl
    · cases hl
    · rw [List.mem_singleton.1 hl]
      intro x hx
      obtain ⟨b, _, rfl⟩ := List.mem_map.1 hx
      cases b <;> decide
theorem vput_small {x : Int} (h : 0 ≤ x ∧ x < 16777216) : 1 ≤ (vput x).length ∧ (vput x).length ≤ 4 := by
  rw [vput_len, Int.max_eq_left h.1]
  exact ⟨vlen_pos x, vlen_bound 4 x (by omega) (by omega)⟩
theorem flat_small : ∀ {xs : List Int}, (∀ x ∈ xs, 0 ≤ x ∧ x < 16777216) → xs.length ≤ (xs.flatMap vput).length ∧ (xs.flatMap vput).length ≤ 4 * xs.length
  | [], _ => by simp
  | x :: xs, h => by
    have h1 := vput_small (h x (by simp))
    have h2 := flat_small (xs := xs) fun y hy => h y (by simp [hy])
    rw [List.flatMap_cons, List.length_append, List.length_cons]
    omega
theorem pieces_small : ∀ (m : Nat) {xs : List Int}, xs.length ≤ m → (∀ x ∈ xs, 0 ≤ x ∧ x < 16777216) → ∀ l ∈ pieces xs, 1 ≤ l.length ∧ l.length ≤ 800
  | m, [], _, _, l, hl => by rw [pieces_nil] at hl; cases hl
  | 0, x :: xs, h, _, _, _ => by simp at h
  | m + 1, x :: xs, h, hx, l, hl => by
    rw [pieces_cons (by simp)] at hl
    rcases List.mem_cons.1 hl with rfl | hl
    · have := flat_small (xs := (x :: xs).take 200) fun y hy => hx y (List.mem_of_mem_take hy)
      simp only [List.length_take, List.length_cons] at this
      omega
    · exact pieces_small m (by simp at h ⊢; omega) (fun y hy => hx y (List.mem_of_mem_drop hy)) l hl
theorem data_small {gen p : Int} {xs : List Int} {ds : List Bool} (h : mayC gen p xs ds = true) : ∀ l ∈ chkData xs ds, 1 ≤ l.length ∧ l.length ≤ 1024 := by
  obtain ⟨m1, m2, m3, m4, m5, m6, m7⟩ := mayC_iff.1 h
  intro l hl
  rw [chkData] at hl
  rcases List.mem_append.1 hl with hl | hl
  · have := pieces_small _ (Nat.le_refl _) m7 l hl
    omega
  · split at hl
    · cases hl
    · rw [List.mem_singleton.1 hl, List.length_map]
      omega
theorem pieces_le : ∀ (m : Nat) {xs : List Int}, xs.length ≤ m → (pieces xs).length * 200 ≤ xs.length + 199
  | m, [], _ => by rw [pieces_nil]; simp
  | 0, x :: xs, h => by simp at h
  | m + 1, x :: xs, h => by
    rw [pieces_cons (by simp)]
    have := pieces_le m (xs := (x :: xs).drop 200) (by simp at h ⊢; omega)
    simp only [List.length_drop, List.length_cons] at this ⊢
    omega
theorem chk_len {xs : List Int} {ds : List Bool} (h : xs.length ≤ 5000) : (chkData xs ds).length ≤ 26 := by
  have := pieces_le _ (Nat.le_refl xs.length)
  rw [chkData, List.length_append]
  split <;> simp <;> omega
theorem head_len (gen p : Int) (xs : List Int) (ds : List Bool) : (chkHead gen p xs ds).length = 16 := by simp [chkHead, four]
theorem chk_file {gen p : Int} {xs : List Int} {ds : List Bool} (hm : mayC gen p xs ds = true) (h : xs.length ≤ 5000) : (rowB (fileR (chkHead gen p xs ds) (chkData xs ds))).length ≤ 27988 ∧ 28 ≤ (rowB (fileR (chkHead gen p xs ds) (chkData xs ds))).length := by
  have h1 := head_len gen p xs ds
  have h2 := file_len (hd := chkHead gen p xs ds) (l := chkData xs ds) (by omega) (fun y hy => (data_small hm y hy).2)
  have h3 := chk_len (ds := ds) h
  refine ⟨by omega, ?_⟩
  rw [fileR_eq, rowB_snoc, List.length_append, encL_len, rowI, rowB_cons, List.length_append, encL_len]
  omega
theorem chk_back {gen p : Int} {xs : List Int} {ds : List Bool} (hm : mayC gen p xs ds = true) : decS gen (chkHead gen p xs ds) (chkData xs ds) = some (p, xs, ds) :=
  (decS_iff (head_wf _ _ _ _) (data_wf _ _)).2 ⟨hm, rfl, rfl⟩
theorem chk_byt {gen p : Int} {xs : List Int} {ds : List Bool} (hm : mayC gen p xs ds = true) : ∀ y ∈ chkData xs ds, y.length ≤ 1024 ∧ Byt y := fun y hy => ⟨(data_small hm y hy).2, data_wf xs ds y hy⟩
/-- Does a checkpoint fit the degrees and the shards? -/
def fitsC (xs : List Int) (ds : List Bool) (deg : List Int) (k : Int) : Bool :=
  decide (xs.length = deg.length ∧ (ds.length : Int) = k ∧ ∀ i, i < xs.length → xs.getD i 0 ≤ deg.getD i 0)
/-- What Load answers for a head and data. -/
def cloadS (gen : Int) (hd : List Int) (l : List (List Int)) (e : Int) (deg : List Int) (k : Int) : Option (Int × List Int × List Bool) :=
  if e ≠ 0 then none else
  match decS gen hd l with
  | none => none
  | some (p, xs, ds) => if fitsC xs ds deg k = true then some (p, xs, ds) else none
theorem cloadS_back {gen p : Int} {xs : List Int} {ds : List Bool} (hm : mayC gen p xs ds = true) (deg : List Int) (k : Int) : cloadS gen (chkHead gen p xs ds) (chkData xs ds) 0 deg k = if fitsC xs ds deg k = true then some (p, xs, ds) else none := by
  unfold cloadS
  rw [chk_back hm]
  rfl
theorem cloadS_bad {gen e : Int} {hd : List Int} {l : List (List Int)} {deg : List Int} {k : Int} (h : e ≠ 0) : cloadS gen hd l e deg k = none := by unfold cloadS; rw [if_pos h]
/-- A file system with one whole file under a name. -/
structure WasN (s : St) (n : Nm) (R : List Int) : Prop where
  ok : Ok s
  on : s.off = false
  pend : s.pend = []
  last : s.last = s.now
  tmp : s.now (tn n) = none
  room : s.room = 1048576
  sum : heldS s ≤ 100000
  ops : s.ops ≤ 1000
  file : ∃ y, s.now n = some y ∧ s.dat y = R ∧ s.syn y = (s.dat y).length
theorem WasN.first {n : Nm} {f : Nat} {R : List Int} {s' : St} (hn : isNm n = true) (ht : isNm (tn n) = true) (hne : tn n ≠ n) (h : Fin (freshS 1048576) s' (tn n) n f R) (hl : R.length ≤ 100000) (ho : s'.ops ≤ 1000) : WasN s' n R ∧ Peace s' := by
  refine ⟨⟨h.ok, h.goes.on, h.pend, h.last, ?_, h.room, ?_, ho, f, ?_, ?_, ?_⟩, ⟨h.ok, h.goes.on, h.goes.arm rfl⟩⟩
  · rw [h.now]
    unfold moveD freshS
    simp [hne, isNm_ne ht]
  · have := h.sum
    rw [held_fresh] at this
    omega
  · rw [h.now]; exact move_same (isNm_ne hn)
  · rw [h.dat, setF_same]
  · rw [h.syn, h.dat, setF_same, setF_same]
theorem WasN.arm {s : St} {n : Nm} {R : List Int} (h : WasN s n R) {k : Int} (h0 : 0 < k) (h1 : k < 1000) : WasN (armS s k).1 n R := by
  have ok := arm_ok h.ok (k := k) (by omega)
  have e : (armS s k).1 = { s with fuse := k } := by
    unfold armS
    rw [if_neg (by omega), if_neg (by rw [h.on]; decide)]
  rw [e] at ok ⊢
  exact ⟨ok, h.on, h.pend, h.last, h.tmp, h.room, h.sum, h.ops, h.file⟩
theorem itoa_d {n : Int} (h : n = 1 ∨ n = 2 ∨ n = 3 ∨ n = 4) : Lib.itoa n = [(48 + n).toNat.toUInt8] := by
  rcases h with rfl | rfl | rfl | rfl <;> simp [Lib.itoa, Lib.decDigits]
def nmK (c : UInt8) : Nm := ⟨#[99, 107, 112, 116, 46, c]⟩
theorem nameS_d {n : Int} (h : n = 1 ∨ n = 2 ∨ n = 3 ∨ n = 4) : nameS n = nmK (48 + n).toNat.toUInt8 := by
  rw [nameS, itoa_d h]
  rcases h with rfl | rfl | rfl | rfl <;> rfl
theorem out_ok {s s' : St} {t n : Nm} {f : Nat} {R : List Int} {e : Int} (h : Out9 s s' t n f R e) : Ok s' ∧ (e = 0 ∨ (0 < s.fuse ∧ e = 81)) := by
  cases h with
  | fin h => exact ⟨h.ok, .inl rfl⟩
  | wip hp h => exact ⟨h.ok, .inr ⟨hp, rfl⟩⟩
  | ren hp h => exact ⟨h.ok, .inr ⟨hp, rfl⟩⟩
end Go.Proofs.YtgigigchjnnonaaGreatDoor
