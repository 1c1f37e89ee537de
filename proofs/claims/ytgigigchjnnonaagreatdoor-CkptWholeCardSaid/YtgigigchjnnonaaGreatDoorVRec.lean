/- Lists of records that bear one list of bytes each. -/
import Derived.Test.YtgigigchjnnonaaGreatDoorVMark
set_option linter.unusedSimpArgs false
set_option linter.unusedVariables false
set_option maxRecDepth 20000
namespace Go.V
open Go
section flat
variable {α β : Type} {f : α → List β} {k : Nat}
theorem fl_len (hf : ∀ p, (f p).length = k) : ∀ ps : List α, (ps.flatMap f).length = ps.length * k
  | [] => by simp
  | p :: ps => by rw [List.flatMap_cons, List.length_append, hf, fl_len hf ps, List.length_cons, Nat.add_mul]; omega
theorem fl_get (hf : ∀ p, (f p).length = k) : ∀ (ps : List α) (i j : Nat) (p : α), ps[i]? = some p → j < k → (ps.flatMap f)[i * k + j]? = (f p)[j]?
  | [], i, j, p, h, _ => by simp at h
  | q :: ps, 0, j, p, h, hj => by
    simp only [List.getElem?_cons_zero, Option.some.injEq] at h
    subst h
    rw [Nat.zero_mul, Nat.zero_add, List.flatMap_cons, List.getElem?_append_left (by rw [hf]; exact hj)]
  | q :: ps, i + 1, j, p, h, hj => by
    rw [List.flatMap_cons, List.getElem?_append_right (by rw [hf, Nat.add_mul]; omega), hf]
    have : (i + 1) * k + j - k = i * k + j := by rw [Nat.add_mul]; omega
    rw [this]
    exact fl_get hf ps i j p (by simpa using h) hj
end flat
/-- How a record lies in memory: its cells, out of what stands for its bytes; its bytes. -/
structure RecK (α : Type) where
  sz : Nat
  c : Value → α → List Value
  dat : α → List Int
  pos : 0 < sz
  len : ∀ u a, (c u a).length = sz
section
variable {α : Type} {R : RecK α} {a : Option Addr} {len cap : Nat} {H H' : Heap} {N N' : Nat → Prop} {e eb B : Nat} {v : Value} {P : List (Value × α)} {L : List α}
def RecK.cells (R : RecK α) (P : List (Value × α)) : List Value := P.flatMap fun p => R.c p.1 p.2
theorem RecK.cells_len (R : RecK α) (P : List (Value × α)) : (R.cells P).length = P.length * R.sz := fl_len (f := fun p : Value × α => R.c p.1 p.2) (fun p => R.len p.1 p.2) P
theorem RecK.cells_snoc (R : RecK α) (P : List (Value × α)) (u : Value) (a : α) : R.cells (P ++ [(u, a)]) = R.cells P ++ R.c u a := by simp [RecK.cells]
/-- What its elements bear lies in N. -/
def RecE (R : RecK α) (H : Heap) (N : Nat → Prop) (eb : TypeId) (P : List (Value × α)) : Prop := ∀ p ∈ P, Ints H eb .u8 p.1 (R.dat p.2) ∧ ∀ g, blk p.1 = some g → N g
def RecP (R : RecK α) (H : Heap) (N : Nat → Prop) (e eb : TypeId) (v : Value) (P : List (Value × α)) : Prop :=
  Sl H e R.sz v (R.cells P) ∧ RecE R H N eb P ∧ ∀ g, blk v = some g → N g
/-- A list of records, its blocks in N. -/
def RecN (R : RecK α) (H : Heap) (N : Nat → Prop) (e eb : TypeId) (v : Value) (L : List α) : Prop := ∃ P, P.map (·.2) = L ∧ RecP R H N e eb v P
theorem Sl.keepN {sz : Nat} {vs : List Value} (h : Sl H e sz v vs) (hs : H.size ≤ H'.size) (hk : ∀ b, blk v = some b → b < H.size → H'[b]? = H[b]?) : Sl H' e sz v vs := by
  obtain ⟨a, len, cap, rfl, hc, hl, h⟩ := h
  refine ⟨a, len, cap, rfl, hc, hl, ?_⟩
  rcases h with h | ⟨b, o, c, t, fr, rfl, hb, hg⟩
  · exact .inl h
  · exact .inr ⟨b, o, c, t, fr, rfl, by rw [hk b rfl (Array.getElem?_eq_some_iff.1 hb).1]; exact hb, hg⟩
theorem RecE.keep (h : RecE R H N eb P) (hs : H.size ≤ H'.size) (hk : ∀ g, N g → g < H.size → H'[g]? = H[g]?) (hN : ∀ g, N g → N' g) : RecE R H' N' eb P :=
  fun p hp => ⟨Sl.keepN (h p hp).1 hs fun b hb hl => hk b ((h p hp).2 b hb) hl, fun g hg => hN g ((h p hp).2 g hg)⟩
theorem RecP.keep (h : RecP R H N e eb v P) (hs : H.size ≤ H'.size) (hk : ∀ g, N g → g < H.size → H'[g]? = H[g]?) (hN : ∀ g, N g → N' g) : RecP R H' N' e eb v P :=
  ⟨h.1.keepN hs fun b hb hl => hk b (h.2.2 b hb) hl, h.2.1.keep hs hk hN, fun g hg => hN g (h.2.2 g hg)⟩
theorem RecN.keep (h : RecN R H N e eb v L) (hs : H.size ≤ H'.size) (hk : ∀ g, N g → g < H.size → H'[g]? = H[g]?) (hN : ∀ g, N g → N' g) : RecN R H' N' e eb v L :=
  let ⟨P, h1, h2⟩ := h; ⟨P, h1, h2.keep hs hk hN⟩
theorem RecN.ext (h : RecN R H N e eb v L) (hx : Ext H H') : RecN R H' N e eb v L := h.keep hx.size (fun g _ hg => hx.get g hg) fun _ h => h
theorem RecP.ext (h : RecP R H N e eb v P) (hx : Ext H H') : RecP R H' N e eb v P := h.keep hx.size (fun g _ hg => hx.get g hg) fun _ h => h
theorem RecE.ext (h : RecE R H N eb P) (hx : Ext H H') : RecE R H' N eb P := h.keep hx.size (fun g _ hg => hx.get g hg) fun _ h => h
theorem RecN.more (h : RecN R H N e eb v L) (hN : ∀ g, N g → N' g) : RecN R H N' e eb v L := h.keep (Nat.le_refl _) (fun _ _ _ => rfl) hN
theorem RecE.more (h : RecE R H N eb P) (hN : ∀ g, N g → N' g) : RecE R H N' eb P := h.keep (Nat.le_refl _) (fun _ _ _ => rfl) hN
theorem RecN.nil : RecN R H N e eb (.slice none 0 0) [] := ⟨[], rfl, Sl.nil, fun _ h => by simp at h, fun g hg => by simp [blk] at hg⟩
theorem RecE.nil : RecE R H N eb [] := fun _ h => by simp at h
theorem RecP.form (h : RecP R H N e eb v P) : ∃ a cap, v = .slice a P.length cap := by
  obtain ⟨a, len, cap, rfl, hc, hl, _⟩ := h.1
  rw [R.cells_len] at hl
  have : P.length = len := Nat.eq_of_mul_eq_mul_right R.pos hl
  exact ⟨a, cap, by rw [this]⟩
theorem RecN.form (h : RecN R H N e eb v L) : ∃ a cap, v = .slice a L.length cap := by
  obtain ⟨P, rfl, h⟩ := h
  simpa using h.form
theorem RecP.at (h : RecP R H N e eb (.slice a len cap) P) {i : Nat} (hi : i < P.length) : ∃ b o, a = some ⟨b, o, none⟩ := by
  have hl := Sl.length h.1
  rw [R.cells_len] at hl
  have : P.length = len := Nat.eq_of_mul_eq_mul_right R.pos hl
  exact Sl.at h.1 (by omega)
/-- The i-th record. -/
theorem RecP.get {b o : Nat} (h : RecP R H N e eb (.slice (some ⟨b, o, none⟩) len cap) P) {i : Nat} {p : Value × α} (hp : P[i]? = some p) :
    hgets H b (o + i * R.sz) R.sz = some (R.c p.1 p.2) ∧ (∀ j, j < R.sz → hget H b (o + i * R.sz + j) = (R.c p.1 p.2)[j]?) ∧ Ints H eb .u8 p.1 (R.dat p.2) ∧ ∀ g, blk p.1 = some g → N g := by
  have hl := Sl.length h.1
  rw [R.cells_len] at hl
  have hlen : P.length = len := Nat.eq_of_mul_eq_mul_right R.pos hl
  have hi : i < P.length := (List.getElem?_eq_some_iff.1 hp).1
  have g : ∀ j, j < R.sz → hget H b (o + i * R.sz + j) = (R.c p.1 p.2)[j]? := fun j hj => by
    rw [Nat.add_assoc, Sl.get h.1 (i := i * R.sz + j) ?_]
    · exact fl_get (f := fun p : Value × α => R.c p.1 p.2) (fun p => R.len p.1 p.2) P i j p hp hj
    · have : (i + 1) * R.sz ≤ len * R.sz := Nat.mul_le_mul_right _ (by omega)
      rw [Nat.add_mul] at this; omega
  have hm := List.mem_of_getElem? hp
  exact ⟨hgets_of (R.len _ _) g, g, (h.2.1 p hm).1, (h.2.1 p hm).2⟩
/-- A list of records that the call made itself. -/
def RecO (R : RecK α) (H : Heap) (B : Nat) (N : Nat → Prop) (e eb : TypeId) (v : Value) (P : List (Value × α)) : Prop :=
  V.Own H B e R.sz v (R.cells P) ∧ RecE R H N eb P
theorem RecO.p (h : RecO R H B N e eb v P) (hN : ∀ g, B ≤ g → g < H.size → N g) : RecP R H N e eb v P := ⟨h.1.sl, h.2, fun g hg => hN g (h.1.blk hg).1 (h.1.blk hg).2.1⟩
theorem RecO.ext (h : RecO R H B N e eb v P) (hx : Ext H H') : RecO R H' B N e eb v P := ⟨h.1.ext hx, h.2.ext hx⟩
theorem RecO.more (h : RecO R H B N e eb v P) (hN : ∀ g, N g → N' g) : RecO R H B N' e eb v P := ⟨h.1, h.2.more hN⟩
theorem RecO.nil : RecO R H B N e eb (.slice none 0 0) [] := ⟨Own.nil, RecE.nil⟩
/-- append(v, a record), out of a literal in a new block; what the records bear lies elsewhere: by the kind of its blocks. -/
theorem RecO.add {Q : Program} {t t' ty : TypeId} {by' : Nat} {z ze : Value} {k : K} (ht : tyOf Q t = some ⟨.sl e, t', ty, z⟩) (he : tyOf Q e = some ⟨k, R.sz, by', ze⟩) (hz : ze.cells.size = R.sz) (hne : ∀ g, blk v = some g → ¬ N g)
    (h : RecO R H B N e eb v P) {u : Value} {x : α} (hu : Ints H eb .u8 u (R.dat x)) (huN : ∀ g, blk u = some g → N g) (h1 : (R.c u x).all Value.oneCell' = true) (hb : (P.length + 1) * by' ≤ 140737488355328) (hl : P.length < 9223372036854775807) (hB : B ≤ H.size) :
    RunS Q (sAppend #[t, t] #[v, .slice (some ⟨H.size, 0, none⟩) 1 1]) (H.push (.cells (R.c u x).toArray e)) (fun v' H' => RecO R H' B N e eb v' (P ++ [(u, x)]) ∧ Grow v H v' H' ∧ v' ≠ .slice none 0 0 ∧ ∀ g, blk v' = some g → N g → H.size ≤ g) := by
  refine (append_lit ht he hz R.pos h.1 (ys := R.c u x) (m := 1) (by rw [R.len]; omega) h1 (n := P.length + 1) (by rw [R.cells_len, R.len, Nat.add_mul]; omega) hb (by omega) hB).mono ?_
  rintro v' H' ⟨o, g, hn⟩
  have kp : ∀ b, N b → b < H.size → H'[b]? = H[b]? := fun b hb hlt => g.but.get b hlt fun e => hne b e.symm hb
  refine ⟨⟨by rw [R.cells_snoc]; exact o, fun p hp => ?_⟩, g, fun e => ?_, fun k hk hN => ?_⟩
  · rcases List.mem_append.1 hp with hp | hp
    · exact (h.2.keep g.but.size kp (fun _ h => h)) p hp
    · simp only [List.mem_singleton] at hp
      subst hp
      exact ⟨Sl.keepN hu g.but.size fun b hb hl => kp b (huN b hb) hl, huN⟩
  · have := (hn.1 e).2
    have h2 := R.len u x
    rw [this] at h2
    have := R.pos
    simp at h2; omega
  · rcases g.at' with e | ⟨q, e, hq⟩
    · rw [e] at hk; exact absurd hN (hne k hk)
    · rw [e] at hk; cases hk; exact hq
end
end Go.V
