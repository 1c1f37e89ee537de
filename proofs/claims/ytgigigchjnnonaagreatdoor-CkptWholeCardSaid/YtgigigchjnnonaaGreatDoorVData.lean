/- VData: numbers, slices, what a call owns, what it leaves as it was: over heaps. -/
import Derived.Test.YtgigigchjnnonaaGreatDoorVBase
import Derived.Laws.AppendOwn
import Derived.Laws.Strings
set_option linter.unusedSimpArgs false
set_option linter.unusedVariables false
set_option maxRecDepth 20000
namespace Go.V
open Go

attribute [go_sem] Int.toNat_natCast Nat.mul_one Nat.zero_add Nat.add_zero Nat.zero_mul

/-! ### Numbers -/
theorem w64_id {n : Int} (h0 : -9223372036854775808 ≤ n) (h1 : n < 9223372036854775808) : IntKind.i64.wrap n = n := by
  simp only [IntKind.wrap, IntKind.bits, IntKind.signed]; simp; omega
theorem wu8 (n : Int) : IntKind.u8.wrap n = n % 256 := by simp [IntKind.wrap, IntKind.bits, IntKind.signed]
theorem wu32 (n : Int) : IntKind.u32.wrap n = n % 4294967296 := by simp [IntKind.wrap, IntKind.bits, IntKind.signed]
/-- x >> n. -/
theorem ishr_eq {k : IntKind} {x n : Int} (h0 : 0 ≤ n) (h1 : n ≤ k.bits) : ishr k x n = x / 2 ^ n.toNat := by
  unfold ishr
  rw [Nat.min_eq_left (by omega)]
  exact Int.fdiv_eq_ediv_of_nonneg _ (by exact Int.pow_nonneg (by omega))
theorem ishl_eq {k : IntKind} {x n : Int} (h0 : 0 ≤ n) (h1 : n ≤ k.bits) : ishl k x n = k.wrap (x * 2 ^ n.toNat) := by
  unfold ishl
  rw [Nat.min_eq_left (by omega)]
/-- c & (2^m - 1), of a number that is no less than 0. -/
theorem and_mask {k : IntKind} {x : Int} {m : Nat} (hx : 0 ≤ x) (hk : x < 2 ^ k.bits) (hm : m < k.bits) : ibits .and k x (2 ^ m - 1) = x % 2 ^ m := by
  obtain ⟨n, rfl⟩ := Int.eq_ofNat_of_zero_le hx
  have hn : n < 2 ^ k.bits := by
    have : ((n : Int)) < ((2 ^ k.bits : Nat) : Int) := by simpa using hk
    omega
  have e1 : ((2 : Int) ^ m - 1) = ((2 ^ m - 1 : Nat) : Int) := by
    have : 1 ≤ 2 ^ m := Nat.one_le_two_pow
    rw [Int.ofNat_sub this]
    simp
  have e2 : ((n : Int)) % 2 ^ m = ((n % 2 ^ m : Nat) : Int) := by simp
  simp only [ibits]
  rw [e1, e2]
  simp only [BitVec.ofInt_natCast, BitVec.toNat_and, BitVec.toNat_ofNat]
  have hmlt : 2 ^ m < 2 ^ k.bits := Nat.pow_lt_pow_right (by omega) hm
  rw [Nat.mod_eq_of_lt hn, Nat.mod_eq_of_lt (by omega), Nat.and_two_pow_sub_one_eq_mod]
  have hlt : n % 2 ^ m < 2 ^ m := Nat.mod_lt _ (by omega)
  have hb : 2 ^ m ≤ 2 ^ (k.bits - 1) := Nat.pow_le_pow_right (by omega) (by omega)
  have hbi : ((n % 2 ^ m : Nat) : Int) < 2 ^ (k.bits - 1) := by
    have : ((n % 2 ^ m : Nat) : Int) < ((2 ^ (k.bits - 1) : Nat) : Int) := by omega
    simpa using this
  have hbb : (2 : Nat) ^ (k.bits - 1) ≤ 2 ^ k.bits := Nat.pow_le_pow_right (by omega) (by omega)
  simp only [IntKind.wrap]
  have h2 : ((n % 2 ^ m : Nat) : Int) % 2 ^ k.bits = ((n % 2 ^ m : Nat) : Int) := by
    refine Int.emod_eq_of_lt (by omega) ?_
    have : ((n % 2 ^ m : Nat) : Int) < ((2 ^ k.bits : Nat) : Int) := by omega
    simpa using this
  rw [h2, if_neg]
  simp only [Bool.and_eq_true, decide_eq_true_eq, not_and]
  intro _
  omega
theorem and127 {x : Int} (hx : 0 ≤ x) (hk : x < 256) : ibits .and .u8 x 127 = x % 128 := and_mask (k := .u8) (m := 7) hx (by simpa [IntKind.bits] using hk) (by decide)
theorem or128 {x : Int} (hx : 0 ≤ x) (hk : x < 128) : ibits .or .u8 x 128 = x + 128 := by
  obtain ⟨n, rfl⟩ := Int.eq_ofNat_of_zero_le hx
  have hn : n < 128 := by omega
  have : ∀ n : Fin 128, ibits .or .u8 ((n.1 : Nat) : Int) 128 = ((n.1 : Nat) : Int) + 128 := by decide
  exact this ⟨n, hn⟩

/-! ### Heaps -/
@[go_sem] theorem add_none' (b o n : Nat) : (⟨b, o, none⟩ : Addr).add n = ⟨b, o + n, none⟩ := add_none b o n
theorem push_old {H : Heap} {x : Obj} {b : Nat} (h : b < H.size) : (H.push x)[b]? = H[b]? := by
  rw [Array.getElem?_push, if_neg (by omega)]
theorem push_new {H : Heap} {x : Obj} : (H.push x)[H.size]? = some x := by simp

/-- Below block number B all is as it was. -/
theorem Upto.refl (B : Nat) (H : Heap) : Upto B H H := ⟨Nat.le_refl _, fun _ _ => rfl⟩
theorem Upto.trans {B : Nat} {H H' H'' : Heap} (h : Upto B H H') (k : Upto B H' H'') : Upto B H H'' :=
  ⟨Nat.le_trans h.size k.size, fun b hb => (k.get b hb).trans (h.get b hb)⟩
theorem Upto.mono {B B' : Nat} {H H' : Heap} (h : Upto B H H') (hb : B' ≤ B) : Upto B' H H' := ⟨h.size, fun b hb' => h.get b (by omega)⟩
theorem Upto.push {B : Nat} {H H' : Heap} (h : Upto B H H') (hb : B ≤ H'.size) (x : Obj) : Upto B H (H'.push x) :=
  h.trans ⟨by simp, fun b hb' => push_old (by omega)⟩
theorem Upto.ext {B : Nat} {H H' H'' : Heap} (h : Upto B H H') (hb : B ≤ H'.size) (k : Ext H' H'') : Upto B H H'' := h.trans (k.mono hb)
theorem Ext.push {H : Heap} (x : Obj) : Ext H (H.push x) := (Upto.refl _ _).push (Nat.le_refl _) x
theorem Upto.lt {B : Nat} {H H' : Heap} (h : Upto B H H') {b : Nat} (hb : b < H.size) : b < H'.size := Nat.lt_of_lt_of_le hb h.size

/-! ### Slices -/
/-- v is a slice whose elements' cells, one behind the other, are vs. -/
def Sl (H : Heap) (e : TypeId) (sz : Nat) (v : Value) (vs : List Value) : Prop :=
  ∃ a len cap, v = .slice a len cap ∧ len ≤ cap ∧ vs.length = len * sz ∧
    (len = 0 ∨ ∃ b o c t fr, a = some ⟨b, o, none⟩ ∧ H[b]? = some (.cells c t fr) ∧ ∀ i, i < len * sz → c[o + i]? = vs[i]?)

section
variable {H H' : Heap} {e : TypeId} {sz : Nat} {v : Value} {vs : List Value} {a : Option Addr} {len cap : Nat}
theorem Sl.form (h : Sl H e sz v vs) : ∃ a len cap, v = .slice a len cap := let ⟨a, len, cap, h, _⟩ := h; ⟨a, len, cap, h⟩
theorem Sl.length (h : Sl H e sz (.slice a len cap) vs) : vs.length = len * sz := by
  obtain ⟨_, _, _, he, _, hl, _⟩ := h; cases he; exact hl
theorem Sl.lecap (h : Sl H e sz (.slice a len cap) vs) : len ≤ cap := by
  obtain ⟨_, _, _, he, hc, _, _⟩ := h; cases he; exact hc
theorem Sl.at (h : Sl H e sz (.slice a len cap) vs) (hl : 0 < len) : ∃ b o, a = some ⟨b, o, none⟩ := by
  obtain ⟨_, _, _, he, hc, _, h | ⟨b, o, _, _, _, h, _⟩⟩ := h
  · cases he; omega
  · cases he; exact ⟨b, o, h⟩
theorem Sl.get {b o : Nat} (h : Sl H e sz (.slice (some ⟨b, o, none⟩) len cap) vs) {i : Nat} (hi : i < len * sz) : hget H b (o + i) = vs[i]? := by
  obtain ⟨_, _, _, he, _, hl, h | ⟨b', o', c, t, fr, h, hb, hg⟩⟩ := h
  · cases he
    rw [h] at hi
    simp at hi
  · cases he
    cases h
    simp only [hget, hb]
    exact hg i hi
theorem Sl.lt {b o : Nat} (h : Sl H e sz (.slice (some ⟨b, o, none⟩) len cap) vs) (hl : 0 < len) : b < H.size ∧ ∃ c t fr, H[b]? = some (.cells c t fr) := by
  obtain ⟨_, _, _, he, _, _, h | ⟨b', o', c, t, fr, h, hb, hg⟩⟩ := h
  · cases he; omega
  · cases he
    cases h
    exact ⟨(Array.getElem?_eq_some_iff.1 hb).1, c, t, fr, hb⟩
theorem Sl.keep (h : Sl H e sz v vs) (hk : ∀ (b : Nat), b < H.size → H'[b]? = H[b]?) : Sl H' e sz v vs := by
  obtain ⟨a, len, cap, he, hc, hl, h | ⟨b, o, c, t, fr, h, hb, hg⟩⟩ := h
  · exact ⟨a, len, cap, he, hc, hl, .inl h⟩
  · exact ⟨a, len, cap, he, hc, hl, .inr ⟨b, o, c, t, fr, h, by rw [hk b (Array.getElem?_eq_some_iff.1 hb).1]; exact hb, hg⟩⟩
theorem Sl.ext (h : Sl H e sz v vs) (hx : Ext H H') : Sl H' e sz v vs := h.keep fun b hb => hx.get b hb
theorem Sl.nil : Sl H e sz (.slice none 0 0) [] := ⟨none, 0, 0, rfl, Nat.le_refl _, by simp, .inl rfl⟩
/-- A block's own. -/
theorem Sl.of {b o : Nat} {c : Array Value} {t : TypeId} {fr : Nat × Nat} (hb : H[b]? = some (.cells c t fr)) (hc : len ≤ cap) (hl : vs.length = len * sz) (hg : ∀ i, i < len * sz → c[o + i]? = vs[i]?) :
    Sl H e sz (.slice (some ⟨b, o, none⟩) len cap) vs := ⟨_, _, _, rfl, hc, hl, .inr ⟨b, o, c, t, fr, rfl, hb, hg⟩⟩
theorem Sl.new {c : Array Value} {fr : Nat × Nat} {n : Nat} (hl : c.size = n * sz) : Sl (H.push (.cells c e fr)) e sz (.slice (some ⟨H.size, 0, none⟩) n n) c.toList :=
  Sl.of (fr := fr) push_new (Nat.le_refl _) (by simpa using hl) fun i hi => by simp
/-- A part: x[l:h:m]. -/
theorem Sl.sub {l h m : Nat} (hs : Sl H e sz (.slice a len cap) vs) (h1 : l ≤ h) (h2 : h ≤ len) (h3 : h ≤ m) :
    Sl H e sz (.slice (if m = l then a else a.map (·.add (l * sz))) (h - l) (m - l)) ((vs.drop (l * sz)).take ((h - l) * sz)) := by
  obtain ⟨_, _, _, he, hc, hl, hd⟩ := hs
  cases he
  have hmul : h * sz ≤ len * sz := Nat.mul_le_mul_right _ h2
  have hsub : (h - l) * sz = h * sz - l * sz := Nat.sub_mul _ _ _
  have hlm : l * sz ≤ h * sz := Nat.mul_le_mul_right _ h1
  refine ⟨_, _, _, rfl, by omega, by simp; omega, ?_⟩
  by_cases hz : h - l = 0
  · exact .inl hz
  · rcases hd with hd | ⟨b, o, c, t, fr, rfl, hb, hg⟩
    · omega
    · refine .inr ⟨b, o + l * sz, c, t, fr, ?_, hb, fun i hi => ?_⟩
      · rw [if_neg (by omega)]
        simp [add_none]
      · rw [Nat.add_assoc, hg (l * sz + i) (by omega), List.getElem?_take, if_pos hi, List.getElem?_drop]
end

/-- A slice of whole numbers. -/
def Ints (H : Heap) (e : TypeId) (k : IntKind) (v : Value) (xs : List Int) : Prop := Sl H e 1 v (xs.map (.int k))
section
variable {H H' : Heap} {e : TypeId} {k : IntKind} {v : Value} {xs : List Int} {a : Option Addr} {len cap : Nat}
theorem Ints.form (h : Ints H e k v xs) : ∃ a cap, v = .slice a xs.length cap := by
  obtain ⟨a, len, cap, rfl⟩ := Sl.form h
  have := Sl.length h
  simp at this
  exact ⟨a, cap, by rw [this]⟩
theorem Ints.at (h : Ints H e k (.slice a len cap) xs) {i : Nat} (hi : i < xs.length) : ∃ b o, a = some ⟨b, o, none⟩ := by
  have := Sl.length h
  simp at this
  exact Sl.at h (by omega)
theorem Ints.length (h : Ints H e k (.slice a len cap) xs) : xs.length = len := by have := Sl.length h; simpa using this
theorem Ints.get {b o : Nat} (h : Ints H e k (.slice (some ⟨b, o, none⟩) len cap) xs) {i : Nat} (hi : i < xs.length) : hget H b (o + i) = some (.int k (xs.getD i 0)) := by
  have := h.length
  rw [Sl.get h (by simp; omega)]
  simp [List.getElem?_eq_getElem hi, List.getD_eq_getElem?_getD]
theorem Ints.ext (h : Ints H e k v xs) (hx : Ext H H') : Ints H' e k v xs := Sl.ext h hx
theorem Ints.nil : Ints H e k (.slice none 0 0) [] := Sl.nil
end

/-! ### What a call owns -/
/-- A slice that the call made itself, from block B on: its block is its own. -/
def Own (H : Heap) (B : Nat) (e : TypeId) (sz : Nat) (v : Value) (vs : List Value) : Prop :=
  (v = .slice none 0 0 ∧ vs = []) ∨
  ∃ g len cap c, v = .slice (some ⟨g, 0, none⟩) len cap ∧ B ≤ g ∧ H[g]? = some (.cells c e (0, 0)) ∧ len ≤ cap ∧ cap ≤ maxLen ∧ c.size = cap * sz ∧ vs.length = len * sz ∧ c.toList.take (len * sz) = vs
def blk : Value → Option Nat
  | .slice (some a) _ _ => some a.block
  | _ => none

/-- Nothing has turned but that one block. -/
structure But (g : Option Nat) (H H' : Heap) : Prop where
  size : H.size ≤ H'.size
  get : ∀ b, b < H.size → some b ≠ g → H'[b]? = H[b]?

section
variable {H H' : Heap} {B : Nat} {e : TypeId} {sz : Nat} {v : Value} {vs : List Value}
theorem Own.nil : Own H B e sz (.slice none 0 0) [] := .inl ⟨rfl, rfl⟩
theorem Own.sl (h : Own H B e sz v vs) : Sl H e sz v vs := by
  rcases h with ⟨rfl, rfl⟩ | ⟨g, len, cap, c, rfl, _, hg, hlc, _, hcs, hl, ht⟩
  · exact Sl.nil
  · refine Sl.of hg hlc hl fun i hi => ?_
    rw [← ht, List.getElem?_take, if_pos hi]
    simp
theorem Own.mono {B' : Nat} (h : Own H B e sz v vs) (hb : B' ≤ B) : Own H B' e sz v vs := by
  rcases h with h | ⟨g, len, cap, c, h1, h2, h3⟩
  · exact .inl h
  · exact .inr ⟨g, len, cap, c, h1, by omega, h3⟩
theorem Own.blk (h : Own H B e sz v vs) {g : Nat} (hg : blk v = some g) : B ≤ g ∧ g < H.size ∧ ∃ c, H[g]? = some (.cells c e (0, 0)) := by
  rcases h with ⟨rfl, rfl⟩ | ⟨g', len, cap, c, rfl, hB, hgg, _⟩
  · simp [V.blk] at hg
  · simp [V.blk] at hg
    subst hg
    exact ⟨hB, (Array.getElem?_eq_some_iff.1 hgg).1, c, hgg⟩
theorem Own.keep (h : Own H B e sz v vs) (hk : ∀ g, V.blk v = some g → H'[g]? = H[g]?) : Own H' B e sz v vs := by
  rcases h with h | ⟨g, len, cap, c, rfl, h2, h3, h4⟩
  · exact .inl h
  · exact .inr ⟨g, len, cap, c, rfl, h2, by rw [hk g rfl]; exact h3, h4⟩
theorem Own.ext (h : Own H B e sz v vs) (hx : Ext H H') : Own H' B e sz v vs := h.keep fun g hg => hx.get g (h.blk hg).2.1
theorem Own.but (h : Own H B e sz v vs) {g : Option Nat} (hx : But g H H') (hne : V.blk v = none ∨ V.blk v ≠ g) : Own H' B e sz v vs :=
  h.keep fun g' hg => hx.get g' (h.blk hg).2.1 (by rcases hne with hn | hn <;> simp_all)
theorem But.upto {g : Option Nat} (h : But g H H') (hg : ∀ k, g = some k → B ≤ k) (hB : B ≤ H.size) : Upto B H H' :=
  ⟨h.size, fun b hb => h.get b (by omega) (fun e => by have := hg b e.symm; omega)⟩
theorem Own.keepT (h : Own H B e sz v vs) (hk : ∀ (b : Nat) (c : Array Value) (fr : Nat × Nat), H[b]? = some (.cells c e fr) → H'[b]? = H[b]?) : Own H' B e sz v vs :=
  h.keep fun g hg => by
    obtain ⟨_, _, c, hc⟩ := h.blk hg
    exact hk g c _ hc
theorem But.refl (g : Option Nat) (H : Heap) : But g H H := ⟨Nat.le_refl _, fun _ _ _ => rfl⟩
end

def wo (H : Heap) : World := { (default : World) with heap := H }

/-- append onto what the call owns. -/
theorem append_own {P : Program} {H : Heap} {B : Nat} {t t' ty e : TypeId} {sz by' : Nat} {z : Value} (ht : tyOf P t = some ⟨.sl e, t', ty, z⟩) {ti : TI} (he : tyOf P e = some ti) (hsz : ti.size = sz) (hby : ti.bytes = by') (hz : ti.zero.cells.size = sz) (hs0 : 0 < sz)
    {v y : Value} {xs ys : List Value} (ho : Own H B e sz v xs) (hy : Sl H e sz y ys) (h1 : ∀ u ∈ ys, u.oneCell' = true)
    {n : Nat} (hn : xs.length + ys.length = n * sz) (hb : n * by' ≤ 140737488355328) (hm : n ≤ 9223372036854775807) (hB : B ≤ H.size) :
    RunS P (sAppend #[t, t] #[v, y]) H (fun v' H' => Own H' B e sz v' (xs ++ ys) ∧ But (blk v) H H' ∧ (blk v' = blk v ∨ blk v' = some H.size) ∧ (v' = .slice none 0 0 ↔ v = .slice none 0 0 ∧ ys = [])) := by
  unfold sAppend
  intro w hw
  subst hw
  obtain ⟨⟨d, hd, hk⟩, _⟩ := tyOf_ok P t _ ht
  obtain ⟨_, inf, hi, hi1, hi2, hi3⟩ := tyOf_ok P e _ he
  rw [V.K.of_sl hk] at hd
  obtain ⟨a, m, c, rfl, hmc, hl, hcell⟩ := hy
  have hform : ∃ nv, w.ownsRow B e sz v nv xs ∧ xs.length = nv * sz := by
    rcases ho with ⟨rfl, rfl⟩ | ⟨g, len, cap, c, rfl, hB', hg, hlc, hcm, hcs, hl', ht'⟩
    · exact ⟨0, ⟨by simp, .inl ⟨rfl, rfl⟩⟩, by simp⟩
    · exact ⟨len, ⟨hl', .inr ⟨g, cap, c, rfl, hB', hg, hlc, hcm, hcs, ht'⟩⟩, hl'⟩
  obtain ⟨nv, hown, hxl⟩ := hform
  have hnm : nv + m = n := by
    have : (nv + m) * sz = n * sz := by rw [Nat.add_mul, ← hxl, ← hl]; exact hn
    exact Nat.eq_of_mul_eq_mul_right hs0 this
  have back : ∀ (w' : World) (v' : Value), w'.ownsRow B e sz v' (nv + m) (xs ++ ys) → Own w'.heap B e sz v' (xs ++ ys) := by
    rintro w' v' ⟨h1, h2⟩
    rcases h2 with ⟨h2, h3⟩ | ⟨g, cap, cur, h2, h3, h4, h5, h6, h7, h8⟩
    · have : xs ++ ys = [] := List.eq_nil_of_length_eq_zero (by rw [h1, h3]; simp)
      exact .inl ⟨h2, this⟩
    · exact .inr ⟨g, nv + m, cap, cur, h2, h3, h4, h5, h6, h7, h1, h8⟩
  rcases hcell with rfl | ⟨b, o, c', _, fr, rfl, hbb, hg⟩
  · -- nothing is appended
    have hys : ys = [] := List.eq_nil_of_length_eq_zero (by simpa using hl)
    subst hys
    refine ⟨v, w, ?_, Same.refl _, ?_, But.refl _ _, .inl rfl, by simp⟩
    · have hv : ∃ base len cap, v = .slice base len cap ∧ len ≤ cap := by
        rcases ho with ⟨rfl, rfl⟩ | ⟨g, len, cap, c, rfl, hB', hg, hlc, _⟩
        · exact ⟨none, 0, 0, rfl, Nat.le_refl _⟩
        · exact ⟨_, _, _, rfl, hlc⟩
      obtain ⟨base, len, cap', rfl, hlc⟩ := hv
      have hfc : (Builtin.firstCells inf.size 0 (.slice a 0 c)).run P w = .ok #[] w := by
        cases a with
        | none => simp [Builtin.firstCells]
        | some a => simp [Builtin.firstCells, loadCells, loadCellsFrom]
      have hst : ∀ ad : Addr, (storeCells ad ([] : List Value)).run P w = .ok () w := fun ad => by simp [storeCells]
      cases base <;> simp [Builtin.append_, run_underlying hd, sizeOf, typeInfo, hi, Builtin.lenOf, hlc, hfc, hst]
    · simpa using ho
  · have hm0 : m * sz = ys.length := hl.symm
    have hmn : m ≤ n := by omega
    have hbm : m * inf.bytes ≤ 281474976710656 := by
      rw [hi2, hby]
      have := Nat.mul_le_mul_right by' hmn
      omega
    have hnews : ∀ j u, ys[j]? = some u → w.cell? ((⟨b, o, none⟩ : Addr).add j) = some u := by
      intro j u hu
      rw [add_none, cell?_hget, hget, hbb]
      have hj : j < ys.length := (List.getElem?_eq_some_iff.1 hu).1
      rw [← hu]
      exact hg j (by omega)
    obtain ⟨v', w', hr, h2, h3, h4⟩ := run_append_own (P := P) w B t 0 e inf ti.zero sz by' hd hi hi3 (hi1.trans hsz) (hi2.trans hby) hz hs0 v nv xs hown ⟨b, o, none⟩ m c ys hl hnews h1
      (by unfold maxLen; omega) (by rw [hnm]; exact hb) hB
    refine ⟨v', w', hr, ⟨h3.os, h3.tape, h3.output, trivial⟩, back w' v' h2, ⟨h3.size, fun k hk hne => h3.block k hk ?_⟩, ?_, ?_⟩
    · intro e
      apply hne
      rw [e]
      cases v with
      | slice a _ _ => cases a <;> rfl
      | _ => rfl
    · -- where it lies now
      have hrun := hr
      rcases h2.2 with ⟨h5, h6⟩ | ⟨g, cap, cur, h5, h6, h7, _⟩
      · have hnil := (h4.1 h5).1
        left; rw [h5, hnil]
      · subst h5
        show some g = blk v ∨ some g = some w.heap.size
        by_cases hgs : g < w.heap.size
        · left
          -- the run's own ways
          rcases hown.2 with ⟨hv, hn0⟩ | ⟨g', cap', cur', hv, hbg, hgg, hnc, hcm, hcs, htake⟩
          · exfalso
            subst hv
            have hx0 : xs = [] := List.eq_nil_of_length_eq_zero (by rw [hxl, hn0]; simp)
            by_cases hm' : m = 0
            · have : (Value.slice (some ⟨g, 0, none⟩) (nv + m) cap) = .slice none 0 0 := h4.2 ⟨rfl, hm'⟩
              cases this
            · have hr2 := run_append_nil (P := P) w t 0 e inf ti.zero hd hi hi3 ⟨b, o, none⟩ m c ys (by rw [hi1, hsz]; exact hl) hnews (by omega) (by omega) hbm
              rw [hr] at hr2
              simp only [Result.ok.injEq, Value.slice.injEq, Option.some.injEq, Addr.mk.injEq] at hr2
              omega
          · subst hv
            by_cases hroom : nv + m ≤ cap'
            · have hfit : nv * inf.size + ys.length ≤ cur'.size := by rw [hl, hcs, hi1, hsz, ← Nat.add_mul]; exact Nat.mul_le_mul_right _ hroom
              have hr2 := run_append_room (P := P) w t 0 e inf hd hi g' nv cap' cur' hgg ⟨b, o, none⟩ m c ys (by rw [hi1, hsz]; exact hl) hnews h1 hroom hfit
              rw [hr] at hr2
              simp only [Result.ok.injEq, Value.slice.injEq, Option.some.injEq, Addr.mk.injEq] at hr2
              show some g = some g'
              rw [hr2.1.1.1]
            · exfalso
              have holds : ∀ j u, xs[j]? = some u → w.cell? ((⟨g', 0, none⟩ : Addr).add j) = some u := hown.cells (g := g') rfl
              have hr2 := run_append_grow (P := P) w t 0 e inf ti.zero hd hi hi3 ⟨g', 0, none⟩ nv cap' xs (by rw [hi1, hsz]; exact hown.1) holds ⟨b, o, none⟩ m c ys (by rw [hi1, hsz]; exact hl) hnews (by omega) (by omega)
                (growslice_fits (by omega) (by rw [hi2, hby, hnm]; exact hb))
              rw [hr] at hr2
              simp only [Result.ok.injEq, Value.slice.injEq, Option.some.injEq, Addr.mk.injEq] at hr2
              omega
        · right
          rcases hown.2 with ⟨hv, hn0⟩ | ⟨g', cap', cur', hv, hbg, hgg, hnc, hcm, hcs, htake⟩
          · subst hv
            by_cases hm' : m = 0
            · have : (Value.slice (some ⟨g, 0, none⟩) (nv + m) cap) = .slice none 0 0 := h4.2 ⟨rfl, hm'⟩
              cases this
            · have hx0 : xs = [] := List.eq_nil_of_length_eq_zero (by rw [hxl, hn0]; simp)
              have hr2 := run_append_nil (P := P) w t 0 e inf ti.zero hd hi hi3 ⟨b, o, none⟩ m c ys (by rw [hi1, hsz]; exact hl) hnews (by omega) (by omega) hbm
              rw [hr] at hr2
              simp only [Result.ok.injEq, Value.slice.injEq, Option.some.injEq, Addr.mk.injEq] at hr2
              rw [hr2.1.1.1]
          · subst hv
            by_cases hroom : nv + m ≤ cap'
            · have hfit : nv * inf.size + ys.length ≤ cur'.size := by rw [hl, hcs, hi1, hsz, ← Nat.add_mul]; exact Nat.mul_le_mul_right _ hroom
              have hr2 := run_append_room (P := P) w t 0 e inf hd hi g' nv cap' cur' hgg ⟨b, o, none⟩ m c ys (by rw [hi1, hsz]; exact hl) hnews h1 hroom hfit
              rw [hr] at hr2
              simp only [Result.ok.injEq, Value.slice.injEq, Option.some.injEq, Addr.mk.injEq] at hr2
              have := (Array.getElem?_eq_some_iff.1 hgg).1
              omega
            · have holds : ∀ j u, xs[j]? = some u → w.cell? ((⟨g', 0, none⟩ : Addr).add j) = some u := hown.cells (g := g') rfl
              have hr2 := run_append_grow (P := P) w t 0 e inf ti.zero hd hi hi3 ⟨g', 0, none⟩ nv cap' xs (by rw [hi1, hsz]; exact hown.1) holds ⟨b, o, none⟩ m c ys (by rw [hi1, hsz]; exact hl) hnews (by omega) (by omega)
                (growslice_fits (by omega) (by rw [hi2, hby, hnm]; exact hb))
              rw [hr] at hr2
              simp only [Result.ok.injEq, Value.slice.injEq, Option.some.injEq, Addr.mk.injEq] at hr2
              rw [hr2.1.1.1]
    · rw [h4]
      constructor
      · rintro ⟨h5, h6⟩; exact ⟨h5, List.eq_nil_of_length_eq_zero (by rw [hl, h6]; simp)⟩
      · rintro ⟨h5, h6⟩
        refine ⟨h5, ?_⟩
        subst h6
        rcases Nat.mul_eq_zero.1 hl.symm with h | h
        · exact h
        · omega

/-- A slice's step: its own block alone has turned, and it lies there or in a new one. -/
structure Grow (v : Value) (H : Heap) (v' : Value) (H' : Heap) : Prop where
  but : But (blk v) H H'
  at' : blk v' = blk v ∨ ∃ k, blk v' = some k ∧ H.size ≤ k
theorem Grow.refl (v : Value) (H : Heap) : Grow v H v H := ⟨But.refl _ _, .inl rfl⟩
theorem Grow.trans {v v1 v2 : Value} {H H1 H2 : Heap} (h : Grow v H v1 H1) (k : Grow v1 H1 v2 H2) : Grow v H v2 H2 := by
  refine ⟨⟨Nat.le_trans h.but.size k.but.size, fun b hb hne => ?_⟩, ?_⟩
  · refine (k.but.get b (Nat.lt_of_lt_of_le hb h.but.size) ?_).trans (h.but.get b hb hne)
    rcases h.at' with e | ⟨g, e, hg⟩
    · rw [e]; exact hne
    · rw [e]; intro e2; cases e2; omega
  · rcases k.at' with e | ⟨g, e, hg⟩
    · rw [e]; exact h.at'
    · exact .inr ⟨g, e, Nat.le_trans h.but.size hg⟩
theorem Grow.upto {B : Nat} {v v' : Value} {H H' : Heap} {e : TypeId} {sz : Nat} {xs : List Value} (h : Grow v H v' H') (ho : Own H B e sz v xs) (hB : B ≤ H.size) : Upto B H H' :=
  h.but.upto (fun k hk => (ho.blk hk).1) hB
theorem But.push {g : Option Nat} {H H' : Heap} (h : But g H H') (x : Obj) : But g H (H'.push x) :=
  ⟨by have := h.size; simp; omega, fun b hb hne => (push_old (by have := h.size; omega)).trans (h.get b hb hne)⟩
theorem Own.push {H : Heap} {B : Nat} {e : TypeId} {sz : Nat} {v : Value} {vs : List Value} (h : Own H B e sz v vs) (x : Obj) : Own (H.push x) B e sz v vs := h.ext (Ext.push x)

/-- append(v, u): one element, out of a literal. -/
theorem append_lit {P : Program} {H : Heap} {B : Nat} {t t' ty e : TypeId} {sz by' : Nat} {z : Value} (ht : tyOf P t = some ⟨.sl e, t', ty, z⟩) {k : V.K} {ze : Value} (he : tyOf P e = some ⟨k, sz, by', ze⟩) (hz : ze.cells.size = sz) (hs0 : 0 < sz)
    {v : Value} {xs : List Value} (ho : Own H B e sz v xs) {ys : List Value} {m : Nat} (hm : ys.length = m * sz) (h1 : ys.all Value.oneCell' = true)
    {n : Nat} (hn : xs.length + ys.length = n * sz) (hb : n * by' ≤ 140737488355328) (hm' : n ≤ 9223372036854775807) (hB : B ≤ H.size) :
    RunS P (sAppend #[t, t] #[v, .slice (some ⟨H.size, 0, none⟩) m m]) (H.push (.cells ys.toArray e)) (fun v' H' => Own H' B e sz v' (xs ++ ys) ∧ Grow v H v' H' ∧ (v' = .slice none 0 0 ↔ v = .slice none 0 0 ∧ ys = [])) := by
  have hy : Sl (H.push (.cells ys.toArray e)) e sz (.slice (some ⟨H.size, 0, none⟩) m m) ys := Sl.of (c := ys.toArray) (fr := (0, 0)) push_new (Nat.le_refl _) hm fun i hi => by simp
  refine (append_own ht he rfl rfl hz hs0 (ho.push _) hy (by simpa [List.all_eq_true] using h1) hn hb hm' (by simp; omega)).mono ?_
  rintro v' H' ⟨h1, h2, h3, h4⟩
  refine ⟨h1, ⟨⟨by have := h2.size; simp at this; omega, fun b hb hne => (h2.get b (by simp; omega) hne).trans (push_old hb)⟩, ?_⟩, h4⟩
  rcases h3 with h3 | h3
  · exact .inl h3
  · exact .inr ⟨_, h3, by simp⟩

theorem zrow_size (z : Value) (n : Nat) : (zrow z n).size = n := by simp [zrow]
/-- make([]T, l, c): l zeros, room for c. -/
theorem Own.made {H : Heap} {B : Nat} {e : TypeId} {sz l c : Nat} {z : Value} (hB : B ≤ H.size) (hl : l ≤ c) (hc : c ≤ 9223372036854775807) :
    Own (H.push (.cells (zrow z (c * sz)) e)) B e sz (.slice (some ⟨H.size, 0, none⟩) l c) ((zrow z (c * sz)).toList.take (l * sz)) := by
  refine .inr ⟨H.size, l, c, _, rfl, hB, push_new, hl, by unfold maxLen; omega, by simp [zrow_size], ?_, rfl⟩
  have : l * sz ≤ c * sz := Nat.mul_le_mul_right _ hl
  rw [List.length_take, Array.length_toList, zrow_size, Nat.min_eq_left this]
theorem zrow_get {z : Value} {n i : Nat} (h : i < n) : (zrow z n)[i]? = some (z.cells[i % z.cells.size]!) := by simp [zrow, h]
theorem zrow_one {z : Value} (hz : z.cells = #[z]) (n : Nat) : (zrow z n).toList = List.replicate n z := by
  apply List.ext_getElem?
  intro i
  by_cases h : i < n
  · rw [Array.getElem?_toList, zrow_get h, hz, List.getElem?_replicate, if_pos h]
    have : i % (#[z] : Array Value).size = 0 := by simp [Nat.mod_one]
    rw [this]
    rfl
  · rw [List.getElem?_eq_none (by simp [zrow_size]; omega), List.getElem?_eq_none (by simp; omega)]

/-- copy(v, y), v the call's own. -/
theorem copy_own {P : Program} {H : Heap} {B : Nat} {t t' ty e : TypeId} {sz by' : Nat} {z : Value} (ht : tyOf P t = some ⟨.sl e, t', ty, z⟩) {k : V.K} {ze : Value} (he : tyOf P e = some ⟨k, sz, by', ze⟩)
    {v y : Value} {xs ys : List Value} {n m : Nat} (ho : Own H B e sz v xs) (hy : Sl H e sz y ys) (h1 : ∀ u ∈ ys, u.oneCell' = true) (hx : xs.length = n * sz) (hyl : ys.length = m * sz) (hmn : m ≤ n) (hs0 : 0 < sz) :
    RunS P (sCopy #[t, t] #[v, y]) H (fun u H' => u = .int .i64 m ∧ Own H' B e sz v (ys ++ xs.drop (m * sz)) ∧ But (blk v) H H') := by
  unfold sCopy
  intro w hw
  subst hw
  obtain ⟨⟨d, hd, hk⟩, _⟩ := tyOf_ok P t _ ht
  obtain ⟨_, inf, hi, hi1, hi2, hi3⟩ := tyOf_ok P e _ he
  rw [V.K.of_sl hk] at hd
  obtain ⟨a, m', c, rfl, hmc, hl, hcell⟩ := hy
  have hm' : m' = m := Nat.eq_of_mul_eq_mul_right hs0 (hl.symm.trans hyl)
  subst hm'
  have hin : inf.size = sz := hi1
  have hload : (Builtin.firstCells sz m' (.slice a m' c)).run P w = .ok ys.toArray w := by
    rcases hcell with h0 | ⟨b, o, c', _, fr, rfl, hbb, hg⟩
    · subst h0
      have : ys = [] := List.eq_nil_of_length_eq_zero (by simpa using hl)
      subst this
      cases a with
      | none => simp [Builtin.firstCells]
      | some a => simp [Builtin.firstCells, loadCells, loadCellsFrom]
    · simp only [Builtin.firstCells]
      refine run_loadCells_h (hgets_of hl fun j hj => ?_)
      simp only [hget, hbb]
      exact hg j hj
  rcases ho with ⟨rfl, rfl⟩ | ⟨g, len, cap, c', rfl, hB, hgg, hlc, hcm, hcs, hl', ht'⟩
  · have hn0 : n = 0 := by
      have h0 : n * sz = 0 := by simpa using hx.symm
      rcases Nat.mul_eq_zero.1 h0 with h | h
      · exact h
      · omega
    have hm0 : m' = 0 := by omega
    subst hm0
    have : ys = [] := List.eq_nil_of_length_eq_zero (by simpa using hl)
    subst this
    refine ⟨.int .i64 ((0 : Nat) : Int), w, ?_, Same.refl _, rfl, .inl ⟨rfl, by simp⟩, But.refl _ _⟩
    simp [Builtin.copy_, run_underlying hd, sizeOf, typeInfo, hi, hin, Builtin.lenOf, hload, goInt]
  · have hlen : len = n := Nat.eq_of_mul_eq_mul_right hs0 (hl'.symm.trans hx)
    subst hlen
    have hfit : m' * sz ≤ len * sz := Nat.mul_le_mul_right _ hmn
    have hfit2 : len * sz ≤ cap * sz := Nat.mul_le_mul_right _ hlc
    have hcan : hcan w.heap g 0 ys.length := ⟨c', e, (0, 0), hgg, by omega, by simp⟩
    have hst := run_storeCells_put (P := P) (w := w) hcan h1
    refine ⟨.int .i64 (m' : Int), { w with heap := hput w.heap g 0 ys }, ?_, ⟨rfl, rfl, rfl, trivial⟩, rfl, ?_, ⟨by rw [hput_size]; exact Nat.le_refl _, fun b hb hne => hput_other _ _ _ _ (fun e => hne (by rw [e]; rfl))⟩⟩
    · simp [Builtin.copy_, run_underlying hd, sizeOf, typeInfo, hi, hin, Builtin.lenOf, Nat.min_eq_left hmn, hload, hst, goInt]
    · have hcl : c'.toList.length = cap * sz := by simpa using hcs
      refine .inr ⟨g, len, cap, _, rfl, hB, hput_same hgg, hlc, hcm, ?_, ?_, ?_⟩
      · rw [cput_size (by omega)]; exact hcs
      · simp; omega
      · apply List.ext_getElem?
        intro i
        rw [List.getElem?_take]
        by_cases hi' : i < len * sz
        · rw [if_pos hi', Array.getElem?_toList]
          by_cases him : i < ys.length
          · rw [show i = 0 + i by omega, cput_get_in (by omega) him, List.getElem?_append_left (by omega)]
            simp
          · rw [cput_get_out (by omega) (by omega), List.getElem?_append_right (by omega), ← ht', List.getElem?_drop, List.getElem?_take, if_pos (by omega)]
            rw [show m' * sz + (i - ys.length) = i by omega]
            simp
        · rw [if_neg hi', List.getElem?_eq_none]
          simp; omega


/-! ### Cells of what was just made -/
@[go_sem] theorem hget_new {H : Heap} {c : Array Value} {e : TypeId} {fr : Nat × Nat} {o : Nat} : hget (H.push (.cells c e fr)) H.size o = c[o]? := by simp [hget]
@[go_sem] theorem hget_old {H : Heap} {x : Obj} {b o : Nat} (h : b < H.size) : hget (H.push x) b o = hget H b o := by
  unfold hget; rw [push_old h]
theorem Upto.hget {B : Nat} {H H' : Heap} (h : Upto B H H') {b o : Nat} (hb : b < B) : V.hget H' b o = V.hget H b o := by
  unfold V.hget; rw [h.get b hb]
theorem hcan_of {H : Heap} {b o n : Nat} {c : Array Value} {e : TypeId} (h : H[b]? = some (.cells c e (0, 0))) (hn : o + n ≤ c.size) : hcan H b o n := ⟨c, e, (0, 0), h, hn, fun i _ hi => by have := hi.2; simp at this⟩
theorem hput_push {H : Heap} {c : Array Value} {e : TypeId} {vs : List Value} (h : vs.length = c.size) : hput (H.push (.cells c e)) H.size 0 vs = H.push (.cells vs.toArray e) := by
  apply Array.ext_getElem?
  intro k
  by_cases hk : k = H.size
  · subst hk
    rw [hput_same push_new, push_new]
    congr 2
    simp only [cput, List.take_zero, List.nil_append, Nat.zero_add]
    rw [List.drop_of_length_le (by simp [h]), List.append_nil]
  · rw [hput_other _ _ _ _ hk, Array.getElem?_push, Array.getElem?_push, if_neg hk, if_neg hk]
theorem hcan_push {H : Heap} {c : Array Value} {e : TypeId} {o n : Nat} (h : o + n ≤ c.size) : hcan (H.push (.cells c e)) H.size o n = True := eq_true (hcan_of push_new h)
theorem hget_put {H : Heap} {b o : Nat} {vs : List Value} {c : Array Value} {e : TypeId} {fr : Nat × Nat} (h : H[b]? = some (.cells c e fr)) (hn : o + vs.length ≤ c.size) {j : Nat} (hj : j < vs.length) : V.hget (hput H b o vs) b (o + j) = vs[j]? := by
  unfold V.hget
  rw [hput_same h]
  exact cput_get_in hn hj
theorem hgets_put {H : Heap} {b o : Nat} {vs : List Value} {c : Array Value} {e : TypeId} {fr : Nat × Nat} (h : H[b]? = some (.cells c e fr)) (hn : o + vs.length ≤ c.size) {n : Nat} (hl : n = vs.length) : hgets (hput H b o vs) b o n = some vs :=
  hgets_of hl.symm fun j hj => hget_put h hn (by omega)
theorem Upto.hput {B : Nat} {H H' : Heap} (h : Upto B H H') {b o : Nat} {vs : List Value} (hb : B ≤ b) : Upto B H (V.hput H' b o vs) :=
  ⟨by rw [hput_size]; exact h.size, fun k hk => by rw [hput_other _ _ _ _ (by omega)]; exact h.get k hk⟩
theorem Ints.lt {H : Heap} {e : TypeId} {k : IntKind} {xs : List Int} {b o len cap : Nat} (h : Ints H e k (.slice (some ⟨b, o, none⟩) len cap) xs) {i : Nat} (hi : i < xs.length) : b < H.size := by
  have := h.length
  exact (Sl.lt h (by omega)).1
@[go_sem] theorem hgets1 {H : Heap} {b o : Nat} : hgets H b o 1 = (hget H b o).bind fun v0 => some [v0] := by
  simp only [hgets]; cases hget H b o <;> rfl
@[go_sem] theorem hgets2 {H : Heap} {b o : Nat} : hgets H b o 2 = (hget H b o).bind fun v0 => (hget H b (o + 1)).bind fun v1 => some [v0, v1] := by
  simp only [hgets]; cases hget H b o <;> cases hget H b (o + 1) <;> rfl
@[go_sem] theorem hgets3 {H : Heap} {b o : Nat} : hgets H b o 3 = (hget H b o).bind fun v0 => (hget H b (o + 1)).bind fun v1 => (hget H b (o + 2)).bind fun v2 => some [v0, v1, v2] := by
  simp only [hgets, Nat.add_assoc]; cases hget H b o <;> cases hget H b (o + 1) <;> cases hget H b (o + 2) <;> rfl
@[go_sem] theorem hgets4 {H : Heap} {b o : Nat} : hgets H b o 4 = (hget H b o).bind fun v0 => (hget H b (o + 1)).bind fun v1 => (hget H b (o + 2)).bind fun v2 => (hget H b (o + 3)).bind fun v3 => some [v0, v1, v2, v3] := by
  simp only [hgets, Nat.add_assoc]; cases hget H b o <;> cases hget H b (o + 1) <;> cases hget H b (o + 2) <;> cases hget H b (o + 3) <;> rfl

/-! ### Bytes and strings -/
def Byt (xs : List Int) : Prop := ∀ c ∈ xs, 0 ≤ c ∧ c < 256
def bstr (xs : List Int) : ByteArray := ⟨(xs.map fun n => UInt8.ofNat n.toNat).toArray⟩
theorem bstr_data (xs : List Int) : (bstr xs).data.toList = xs.map fun n => UInt8.ofNat n.toNat := rfl
theorem byt_inj : ∀ {xs ys : List Int}, Byt xs → Byt ys → (xs.map fun n => UInt8.ofNat n.toNat) = (ys.map fun n => UInt8.ofNat n.toNat) → xs = ys
  | [], [], _, _, _ => rfl
  | [], _ :: _, _, _, h => by simp at h
  | _ :: _, [], _, _, h => by simp at h
  | x :: xs, y :: ys, hx, hy, h => by
    simp only [List.map_cons, List.cons.injEq] at h
    have h1 := hx x (by simp)
    have h2 := hy y (by simp)
    have h3 := congrArg UInt8.toNat h.1
    simp only [UInt8.toNat_ofNat'] at h3
    have : x = y := by omega
    rw [this, byt_inj (fun c hc => hx c (by simp [hc])) (fun c hc => hy c (by simp [hc])) h.2]
theorem toList_data (s : ByteArray) : s.toList = s.data.toList := Go.ByteArray.toList_eq s
theorem bstr_beq {xs ys : List Int} (hx : Byt xs) (hy : Byt ys) : ((bstr xs).toList == (bstr ys).toList) = decide (xs = ys) := by
  rw [toList_data, toList_data, bstr_data, bstr_data, Bool.eq_iff_iff]
  simp only [beq_iff_eq, decide_eq_true_eq]
  exact ⟨byt_inj hx hy, fun h => by rw [h]⟩

theorem run_bytesToString {P : Program} {w : World} {e : TypeId} {v : Value} {xs : List Int} (hs : Ints w.heap e .u8 v xs) : (Conv.bytesToString v).run P w = .ok (.string (bstr xs)) w := by
  obtain ⟨a, cap, rfl⟩ := hs.form
  have loop : ∀ (f : Value → ByteArray → Sem (ForInStep ByteArray)), (∀ n t, f (.int .u8 n) t = pure (ForInStep.yield (t.push (UInt8.ofNat n.toNat)))) → ∀ (l : List Int) (s : ByteArray),
      (forIn (m := Sem) (l.map (Value.int .u8)) s f).run P w = .ok ⟨s.data ++ (l.map fun n => UInt8.ofNat n.toNat).toArray⟩ w := by
    intro f hf l
    induction l with
    | nil => intro s; simp
    | cons x l ih =>
      intro s
      simp only [List.map_cons, List.forIn_cons, hf, pure_bind]
      rw [ih]
      congr 2
      simp [ByteArray.push]
  rcases Nat.eq_zero_or_pos xs.length with h0 | h0
  · have hx : xs = [] := List.eq_nil_of_length_eq_zero h0
    subst hx
    cases a with
    | none => simp [Conv.bytesToString]; rfl
    | some a => simp [Conv.bytesToString, loadCells, loadCellsFrom]; rfl
  · obtain ⟨b, o, rfl⟩ := hs.at (i := 0) h0
    have hg : hgets w.heap b o xs.length = some (xs.map (.int .u8)) := hgets_of (by simp) fun j hj => by
      have := Sl.get hs (i := j) (by omega)
      rw [this]
    have hl := run_loadCells_h (P := P) hg
    simp only [Conv.bytesToString, Sem.run_bind, hl, Result.andThen_ok]
    simp only [List.forIn_toArray]
    rw [loop _ (fun n t => rfl) xs ByteArray.empty]
    simp [bstr]

theorem conv_str {P : Program} {H : Heap} {s d e : TypeId} {v : Value} {xs : List Int} {sz by' sz2 by2 sz3 by3 : Nat} {z z2 z3 : Value} (hs : Ints H e .u8 v xs) (h1 : tyOf P s = some ⟨.sl e, sz, by', z⟩) (h2 : tyOf P d = some ⟨.str, sz2, by2, z2⟩) (h3 : tyOf P e = some ⟨.int .u8, sz3, by3, z3⟩) :
    RunS P (sConvert s d v) H (fun u H' => u = .string (bstr xs) ∧ H = H') := by
  unfold sConvert
  intro w hw
  subst hw
  obtain ⟨⟨d1, hd1, hk1⟩, _⟩ := tyOf_ok P _ _ h1
  obtain ⟨⟨d2, hd2, hk2⟩, _⟩ := tyOf_ok P _ _ h2
  obtain ⟨⟨d3, hd3, hk3⟩, _⟩ := tyOf_ok P _ _ h3
  rw [V.K.of_sl hk1] at hd1
  rw [V.K.of_str hk2] at hd2
  rw [V.K.of_int hk3] at hd3
  refine ⟨_, w, ?_, Same.refl _, rfl, rfl⟩
  obtain ⟨a, cap, rfl⟩ := hs.form
  have := run_bytesToString (P := P) hs
  cases a <;> simp [convert, run_underlying hd1, run_underlying hd2, run_underlying hd3, this]

/-! ### Slices of bools; slices of slices -/
def Bls (H : Heap) (e : TypeId) (v : Value) (bs : List Bool) : Prop := Sl H e 1 v (bs.map .bool)
section
variable {H H' : Heap} {e : TypeId} {v : Value} {bs : List Bool} {a : Option Addr} {len cap : Nat}
theorem Bls.form (h : Bls H e v bs) : ∃ a cap, v = .slice a bs.length cap := by
  obtain ⟨a, len, cap, rfl⟩ := Sl.form h
  have := Sl.length h
  simp at this
  exact ⟨a, cap, by rw [this]⟩
theorem Bls.length (h : Bls H e (.slice a len cap) bs) : bs.length = len := by have := Sl.length h; simpa using this
theorem Bls.at (h : Bls H e (.slice a len cap) bs) {i : Nat} (hi : i < bs.length) : ∃ b o, a = some ⟨b, o, none⟩ := by
  have := h.length
  exact Sl.at h (by omega)
theorem Bls.get {b o : Nat} (h : Bls H e (.slice (some ⟨b, o, none⟩) len cap) bs) {i : Nat} (hi : i < bs.length) : hget H b (o + i) = some (.bool (bs.getD i false)) := by
  have := h.length
  rw [Sl.get h (by simp; omega)]
  simp [List.getElem?_eq_getElem hi, List.getD_eq_getElem?_getD]
theorem Bls.ext (h : Bls H e v bs) (hx : Ext H H') : Bls H' e v bs := Sl.ext h hx
end

def All2 {α β : Type} (R : α → β → Prop) : List α → List β → Prop
  | [], [] => True
  | a :: l, b :: r => R a b ∧ All2 R l r
  | _, _ => False
theorem All2.length {α β : Type} {R : α → β → Prop} : ∀ {l : List α} {r : List β}, All2 R l r → l.length = r.length
  | [], [], _ => rfl
  | _ :: _, _ :: _, h => by simp [All2.length h.2]
  | [], _ :: _, h => h.elim
  | _ :: _, [], h => h.elim
theorem All2.get {α β : Type} {R : α → β → Prop} : ∀ {l : List α} {r : List β}, All2 R l r → ∀ {i : Nat} {b : β}, r[i]? = some b → ∃ a, l[i]? = some a ∧ R a b
  | [], [], _, i, b, h => by simp at h
  | a :: l, c :: r, h, 0, b, hb => by simp at hb; subst hb; exact ⟨a, by simp, h.1⟩
  | a :: l, c :: r, h, i + 1, b, hb => by
    obtain ⟨x, hx, hr⟩ := All2.get h.2 (i := i) (by simpa using hb)
    exact ⟨x, by simpa using hx, hr⟩
  | [], _ :: _, h, _, _, _ => h.elim
  | _ :: _, [], h, _, _, _ => h.elim
theorem All2.mono {α β : Type} {R S : α → β → Prop} (hrs : ∀ a b, R a b → S a b) : ∀ {l : List α} {r : List β}, All2 R l r → All2 S l r
  | [], [], _ => trivial
  | _ :: _, _ :: _, h => ⟨hrs _ _ h.1, All2.mono hrs h.2⟩
  | [], _ :: _, h => h.elim
  | _ :: _, [], h => h.elim
theorem All2.snoc {α β : Type} {R : α → β → Prop} {a : α} {b : β} (hab : R a b) : ∀ {l : List α} {r : List β}, All2 R l r → All2 R (l ++ [a]) (r ++ [b])
  | [], [], _ => ⟨hab, trivial⟩
  | _ :: _, _ :: _, h => ⟨h.1, All2.snoc hab h.2⟩
  | [], _ :: _, h => h.elim
  | _ :: _, [], h => h.elim
theorem All2.drop {α β : Type} {R : α → β → Prop} : ∀ {l : List α} {r : List β} (n : Nat), All2 R l r → All2 R (l.drop n) (r.drop n)
  | [], [], n, _ => by simp [All2]
  | _ :: _, _ :: _, 0, h => h
  | _ :: _, _ :: _, n + 1, h => by simpa using All2.drop n h.2
  | [], _ :: _, _, h => h.elim
  | _ :: _, [], _, h => h.elim
theorem All2.take {α β : Type} {R : α → β → Prop} : ∀ {l : List α} {r : List β} (n : Nat), All2 R l r → All2 R (l.take n) (r.take n)
  | [], [], n, _ => by simp [All2]
  | _ :: _, _ :: _, 0, _ => trivial
  | _ :: _, _ :: _, n + 1, h => ⟨h.1, All2.take n h.2⟩
  | [], _ :: _, _, h => h.elim
  | _ :: _, [], _, h => h.elim

/-- A slice of slices of bytes. -/
def Lists (H : Heap) (e ee : TypeId) (v : Value) (xss : List (List Int)) : Prop := ∃ vs, Sl H e 1 v vs ∧ All2 (fun u xs => Ints H ee .u8 u xs) vs xss
section
variable {H H' : Heap} {e ee : TypeId} {v : Value} {xss : List (List Int)} {a : Option Addr} {len cap : Nat}
theorem Lists.form (h : Lists H e ee v xss) : ∃ a cap, v = .slice a xss.length cap := by
  obtain ⟨vs, hs, ha⟩ := h
  obtain ⟨a, len, cap, rfl⟩ := hs.form
  have h1 := hs.length
  have h2 := ha.length
  exact ⟨a, cap, by rw [← h2, h1, Nat.mul_one]⟩
theorem Lists.length (h : Lists H e ee (.slice a len cap) xss) : xss.length = len := by
  obtain ⟨a', cap', he⟩ := h.form; cases he; rfl
theorem Lists.at (h : Lists H e ee (.slice a len cap) xss) {i : Nat} (hi : i < xss.length) : ∃ b o, a = some ⟨b, o, none⟩ := by
  have := h.length
  obtain ⟨vs, hs, ha⟩ := h
  exact hs.at (by omega)
theorem Lists.get {b o : Nat} (h : Lists H e ee (.slice (some ⟨b, o, none⟩) len cap) xss) {i : Nat} (hi : i < xss.length) : ∃ u, hget H b (o + i) = some u ∧ Ints H ee .u8 u (xss.getD i []) := by
  have hl := h.length
  obtain ⟨vs, hs, ha⟩ := h
  obtain ⟨u, hu, hr⟩ := ha.get (i := i) (b := xss[i]) (List.getElem?_eq_getElem hi)
  refine ⟨u, by rw [hs.get (by omega)]; exact hu, ?_⟩
  rw [List.getD_eq_getElem?_getD, List.getElem?_eq_getElem hi]
  exact hr
theorem Lists.ext (h : Lists H e ee v xss) (hx : Ext H H') : Lists H' e ee v xss := by
  obtain ⟨vs, hs, ha⟩ := h
  exact ⟨vs, hs.ext hx, ha.mono fun _ _ h => h.ext hx⟩
end

/-- A slice of slices of bytes that the call made itself: each inner one in a block of its own. -/
def OwnLists (H : Heap) (B : Nat) (e ee : TypeId) (v : Value) (xss : List (List Int)) : Prop :=
  ∃ vs, Own H B e 1 v vs ∧ All2 (fun u xs => Own H B ee 1 u (xs.map (.int .u8))) vs xss ∧ vs.Pairwise (fun u w => blk u = none ∨ blk u ≠ blk w)
theorem OwnLists.lists {H : Heap} {B : Nat} {e ee : TypeId} {v : Value} {xss : List (List Int)} (h : OwnLists H B e ee v xss) : Lists H e ee v xss := by
  obtain ⟨vs, h1, h2, _⟩ := h
  exact ⟨vs, h1.sl, h2.mono fun _ _ h => h.sl⟩
theorem OwnLists.ext {H H' : Heap} {B : Nat} {e ee : TypeId} {v : Value} {xss : List (List Int)} (h : OwnLists H B e ee v xss) (hx : Ext H H') : OwnLists H' B e ee v xss := by
  obtain ⟨vs, h1, h2, h3⟩ := h
  exact ⟨vs, h1.ext hx, h2.mono fun _ _ h => h.ext hx, h3⟩
/-- A checkpoint. -/
def Chk (H : Heap) (ei eb : TypeId) (v : Value) (p : Int) (est : List Int) (dirty : List Bool) : Prop :=
  ∃ a b, v = .agg #[.int .i64 p, a, b] ∧ Ints H ei .i64 a est ∧ Bls H eb b dirty
theorem Chk.ext {H H' : Heap} {ei eb : TypeId} {v : Value} {p : Int} {est : List Int} {dirty : List Bool} (h : Chk H ei eb v p est dirty) (hx : Ext H H') : Chk H' ei eb v p est dirty := by
  obtain ⟨a, b, h1, h2, h3⟩ := h
  exact ⟨a, b, h1, h2.ext hx, h3.ext hx⟩
@[go_sem] theorem push_lt {H : Heap} {x : Obj} : (H.size < (H.push x).size) = True := by simp


/-- A store into what the call owns: v[i] = x. -/
theorem Own.store {H : Heap} {B : Nat} {e : TypeId} {g o len cap : Nat} {vs : List Value} (h : Own H B e 1 (.slice (some ⟨g, o, none⟩) len cap) vs) {i : Nat} (hi : i < len) (x : Value) :
    o = 0 ∧ hcan H g (o + i) 1 ∧ Own (hput H g (o + i) [x]) B e 1 (.slice (some ⟨g, o, none⟩) len cap) (vs.set i x) ∧ But (some g) H (hput H g (o + i) [x]) ∧ vs.length = len := by
  rcases h with ⟨h, _⟩ | ⟨g', len', cap', c, he, hB, hg, hlc, hcm, hcs, hl, ht⟩
  · cases h
  · cases he
    simp only [Nat.mul_one, Nat.zero_add] at *
    refine ⟨trivial, ⟨c, e, (0, 0), hg, by omega, by simp⟩, .inr ⟨g, len, cap, _, rfl, hB, hput_same hg, hlc, hcm, ?_, by simpa using hl, ?_⟩, ⟨by rw [hput_size]; exact Nat.le_refl _, fun b _ hne => hput_other _ _ _ _ (fun e => hne (by rw [e]))⟩, hl⟩
    · rw [cput_size (by simp; omega)]; omega
    · subst ht
      apply List.ext_getElem?
      intro k
      rw [List.getElem?_take, List.getElem?_set]
      simp only [Nat.mul_one]
      by_cases hk : k < len
      · rw [if_pos hk, Array.getElem?_toList]
        by_cases hik : i = k
        · subst hik
          rw [if_pos rfl, if_pos (by simp; omega)]
          have := cput_get_in (c := c) (o := i) (vs := [x]) (j := 0) (by simp; omega) (by simp)
          simpa using this
        · rw [if_neg hik, cput_get_out (by simp; omega) (by simp; omega), List.getElem?_take, if_pos hk]
          simp
      · rw [if_neg hk, if_neg (by omega), List.getElem?_take, if_neg hk]

/-- append(v, u), u a slice of bytes of its own, made after all that v holds. -/
theorem append_list {P : Program} {H0 H : Heap} {B : Nat} {t e ee t' ty : TypeId} {z : Value} (ht : tyOf P t = some ⟨.sl e, t', ty, z⟩) (he : tyOf P e = some ⟨.sl ee, 1, 24, .slice none 0 0⟩) (hne : e ≠ ee)
    {v u : Value} {xss : List (List Int)} {ys : List Int} (ho : OwnLists H0 B e ee v xss) (hx : Ext H0 H) (hu : Own H H0.size ee 1 u (ys.map (.int .u8))) (hB : B ≤ H0.size) (hl : xss.length ≤ 5864062010000) :
    RunS P (sAppend #[t, t] #[v, .slice (some ⟨H.size, 0, none⟩) 1 1]) (H.push (.cells #[u] e)) (fun v2 H2 => OwnLists H2 B e ee v2 (xss ++ [ys]) ∧ Upto B H H2) := by
  obtain ⟨a1, a2, rfl⟩ := (show Ints H ee .u8 u _ from hu.sl).form
  obtain ⟨vs, ho1, ha, hp⟩ := ho
  have hvl : vs.length = xss.length := ha.length
  refine (append_lit ht he rfl (by decide) (ho1.ext hx) (ys := [_]) (m := 1) rfl rfl (n := xss.length + 1) (by simp [hvl]) (by omega) (by omega) (Nat.le_trans hB hx.size)).mono ?_
  rintro v2 H2 ⟨h1, h2, _⟩
  have hx2 : Upto B H H2 := h2.upto (ho1.ext hx) (Nat.le_trans hB hx.size)
  have inner : ∀ {w : Value} {zs : List Int}, Own H B ee 1 w (zs.map (.int .u8)) → Own H2 B ee 1 w (zs.map (.int .u8)) := by
    intro w zs hw
    refine hw.but h2.but ?_
    cases hbw : V.blk w with
    | none => exact .inl rfl
    | some g =>
      right
      intro he'
      obtain ⟨_, _, c1, hc1⟩ := hw.blk hbw
      obtain ⟨_, _, c2, hc2⟩ := (ho1.ext hx).blk he'.symm
      rw [hc1] at hc2
      cases hc2
      exact hne rfl
  refine ⟨⟨_, h1, ?_, ?_⟩, hx2⟩
  · exact All2.snoc (R := fun (u : Value) (ys : List Int) => Own H2 B ee 1 u (ys.map (.int .u8))) (inner (hu.mono hB)) (ha.mono fun _ _ h => inner (h.ext hx))
  · rw [List.pairwise_append]
    refine ⟨hp, by simp, fun w hw u' hu' => ?_⟩
    simp only [List.mem_singleton] at hu'
    subst hu'
    cases hbw : V.blk w with
    | none => exact .inl rfl
    | some g =>
      right
      intro he'
      obtain ⟨k, hk, hkw⟩ := List.getElem_of_mem hw
      have hg : g < H0.size := by
        obtain ⟨zs, hzs⟩ : ∃ zs, xss[k]? = some zs := ⟨xss[k]'(by rw [← hvl]; exact hk), List.getElem?_eq_getElem _⟩
        obtain ⟨w', hw', hr⟩ := ha.get hzs
        rw [List.getElem?_eq_getElem hk, hkw] at hw'
        cases hw'
        exact (hr.blk hbw).2.1
      have := (hu.blk he'.symm).1
      omega
theorem OwnLists.nil {H : Heap} {B : Nat} {e ee : TypeId} : OwnLists H B e ee (.slice none 0 0) [] := ⟨[], Own.nil, trivial, by simp⟩

end Go.V
