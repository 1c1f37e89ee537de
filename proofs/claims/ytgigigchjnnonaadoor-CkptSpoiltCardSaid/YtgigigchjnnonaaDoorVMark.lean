/- Slices that share: one of a row of slices grown, the others as they were; a slice cut short; bytes converted to bytes. -/
import Derived.Test.YtgigigchjnnonaaDoorVData
set_option linter.unusedSimpArgs false
set_option linter.unusedVariables false
set_option maxRecDepth 20000
namespace Go.V
open Go

theorem All2.of_idx' {α β : Type} {R : α → β → Prop} : ∀ {l : List α} {r : List β}, l.length = r.length → (∀ (i : Nat) a b, l[i]? = some a → r[i]? = some b → R a b) → All2 R l r
  | [], [], _, _ => trivial
  | a :: l, b :: r, hl, h => ⟨h 0 a b rfl rfl, All2.of_idx' (by simpa using hl) fun i x y hx hy => h (i + 1) x y (by simpa using hx) (by simpa using hy)⟩
  | [], _ :: _, hl, _ => by simp at hl
  | _ :: _, [], hl, _ => by simp at hl

theorem All2.getL' {α β : Type} {R : α → β → Prop} : ∀ {l : List α} {r : List β}, All2 R l r → ∀ {i : Nat} {a : α}, l[i]? = some a → ∃ b, r[i]? = some b ∧ R a b
  | [], [], _, i, b, h => by simp at h
  | a :: l, c :: r, h, 0, b, hb => by simp at hb; subst hb; exact ⟨c, by simp, h.1⟩
  | a :: l, c :: r, h, i + 1, b, hb => by
    obtain ⟨x, hx, hr⟩ := All2.getL' h.2 (i := i) (by simpa using hb)
    exact ⟨x, by simpa using hx, hr⟩
  | [], _ :: _, h, _, _, _ => h.elim
  | _ :: _, [], h, _, _, _ => h.elim
/-- []byte(b), b a slice of bytes in a new block: the block is marked behind its end. -/
theorem conv_mark {P : Program} {H : Heap} {s e : TypeId} {c : Array Value} {len m sz by' sz3 by3 : Nat} {z z3 : Value} (h1 : tyOf P s = some ⟨.sl e, sz, by', z⟩) (h3 : tyOf P e = some ⟨.int .u8, sz3, by3, z3⟩) :
    RunS P (sConvert s s (.slice (some ⟨H.size, 0, none⟩) len m)) (H.push (.cells c e)) (fun u H' => u = .slice (some ⟨H.size, 0, none⟩) len m ∧ H' = H.push (.cells c e (c.size, c.size + 1))) := by
  unfold sConvert
  intro w hw
  obtain ⟨⟨d1, hd1, hk1⟩, _⟩ := tyOf_ok P _ _ h1
  obtain ⟨⟨d3, hd3, hk3⟩, _⟩ := tyOf_ok P _ _ h3
  rw [V.K.of_sl hk1] at hd1
  rw [V.K.of_int hk3] at hd3
  have hsh : w.shape? H.size = some (e, c.size) := by
    unfold World.shape?
    rw [hw, push_new]
  refine ⟨_, w.freeze ⟨H.size, c.size, none⟩ 1, ?_, ?_, rfl, ?_⟩
  · simp [convert, run_underlying hd1, run_underlying hd3, markStringish, hsh]
  · unfold World.freeze
    rw [if_neg (by decide)]
    exact ⟨rfl, rfl, rfl, trivial⟩
  · unfold World.freeze
    rw [if_neg (by decide)]
    simp only [hw]
    apply Array.ext_getElem?
    intro k
    rw [Array.getElem?_modify, Array.getElem?_push, Array.getElem?_push]
    by_cases hk : k = H.size
    · subst hk
      simp
    · rw [if_neg (fun h => hk h.symm), if_neg hk, if_neg hk]

theorem Sl.at1 {H H' : Heap} {e : TypeId} {sz b o len cap : Nat} {vs : List Value} (h : Sl H e sz (.slice (some ⟨b, o, none⟩) len cap) vs) (hb : H'[b]? = H[b]?) : Sl H' e sz (.slice (some ⟨b, o, none⟩) len cap) vs := by
  obtain ⟨_, _, _, he, hc, hl, h | ⟨b', o', c, t, fr, h, hb', hg⟩⟩ := h
  · cases he; exact ⟨_, _, _, rfl, hc, hl, .inl h⟩
  · cases he; cases h
    exact ⟨_, _, _, rfl, hc, hl, .inr ⟨_, _, c, t, fr, rfl, by rw [hb]; exact hb', hg⟩⟩
/-- x[:n]. -/
def cut (v : Value) (n : Nat) : Value := match v with
  | .slice a _ cap => .slice a n cap
  | v => v
theorem cut_ints {H : Heap} {e : TypeId} {k : IntKind} {v : Value} {xs ys : List Int} (h : Ints H e k v (xs ++ ys)) : Ints H e k (cut v xs.length) xs := by
  obtain ⟨a, len, cap, rfl, hc, hl, hd⟩ := h
  have hlen : (xs ++ ys).length = len := by simpa using hl
  rw [List.length_append] at hlen
  refine ⟨a, xs.length, cap, rfl, by omega, by simp, ?_⟩
  by_cases h0 : xs.length = 0
  · exact .inl h0
  · rcases hd with hd | ⟨b, o, c, t, fr, rfl, hb, hg⟩
    · omega
    · refine .inr ⟨b, o, c, t, fr, rfl, hb, fun i hi => ?_⟩
      rw [Nat.mul_one] at hi
      rw [hg i (by omega), List.map_append, List.getElem?_append_left (by simpa using hi)]

theorem cut_sl {H : Heap} {e : TypeId} {v : Value} {as bs : List Value} (h : Sl H e 1 v (as ++ bs)) : Sl H e 1 (cut v as.length) as := by
  obtain ⟨a, len, cap, rfl, hc, hl, hd⟩ := h
  rw [List.length_append] at hl
  refine ⟨a, as.length, cap, rfl, by omega, by simp, ?_⟩
  by_cases h0 : as.length = 0
  · exact .inl h0
  · rcases hd with hd | ⟨b, o, c, t, fr, rfl, hb, hg⟩
    · omega
    · refine .inr ⟨b, o, c, t, fr, rfl, hb, fun i hi => ?_⟩
      rw [Nat.mul_one] at hi
      rw [hg i (by omega), List.getElem?_append_left (by omega)]
def Apart (u w : Value) : Prop := blk u = none ∨ blk u ≠ blk w
theorem Apart.symm {u w : Value} (h : Apart u w) : Apart w u := by
  unfold Apart at *
  cases hw : blk w with
  | none => exact .inl rfl
  | some g =>
    right
    rcases h with h | h
    · rw [h]; simp
    · rw [hw] at h; exact fun e => h e.symm
theorem Own.out {H H' : Heap} {B : Nat} {e : TypeId} {sz : Nat} {v u : Value} {vs : List Value} (h : Own H B e sz v vs) (hb : But (V.blk u) H H') (ha : Apart v u) : Own H' B e sz v vs := h.but hb ha

theorem Own.byTag {H H' : Heap} {B B' : Nat} {e e' : TypeId} {sz sz' : Nat} {v u : Value} {vs us : List Value} (h : Own H B e sz v vs) (hu : Own H B' e' sz' u us) (hb : But (V.blk u) H H') (hne : e ≠ e') : Own H' B e sz v vs :=
  h.keepT fun b c fr hc => hb.get b (Array.getElem?_eq_some_iff.1 hc).1 fun hbu => by
    obtain ⟨_, _, c', hc'⟩ := hu.blk hbu.symm
    rw [hc] at hc'
    cases hc'
    exact hne rfl

theorem All2.set {α β : Type} {R : α → β → Prop} : ∀ {l : List α} {r : List β} {i : Nat} {a : α} {b : β}, All2 R l r → R a b → All2 R (l.set i a) (r.set i b)
  | [], [], _, _, _, _, _ => by simp [All2]
  | _ :: _, _ :: _, 0, _, _, h, hab => ⟨hab, h.2⟩
  | _ :: _, _ :: _, i + 1, _, _, h, hab => ⟨h.1, All2.set h.2 hab⟩
  | [], _ :: _, _, _, _, h, _ => h.elim
  | _ :: _, [], _, _, _, h, _ => h.elim

/-- One of a row of slices has grown; the others lie in other blocks. -/
theorem set_own {H H' : Heap} {B : Nat} {ee : TypeId} {vs : List Value} {cs : List (List Int)} {i : Nat} {u w : Value} {c : List Int}
    (ha : All2 (fun u xs => Own H B ee 1 u (xs.map (.int .u8))) vs cs) (hp : vs.Pairwise Apart) (hi : vs[i]? = some u) (hg : Grow u H w H') (hw : Own H' B ee 1 w (c.map (.int .u8))) :
    All2 (fun u xs => Own H' B ee 1 u (xs.map (.int .u8))) (vs.set i w) (cs.set i c) ∧ (vs.set i w).Pairwise Apart := by
  have hlen := ha.length
  have hil : i < vs.length := (List.getElem?_eq_some_iff.1 hi).1
  have hap : ∀ j v, j ≠ i → vs[j]? = some v → Apart v u := by
    intro j v hj hv
    have hjl := (List.getElem?_eq_some_iff.1 hv).1
    have hvj := (List.getElem?_eq_some_iff.1 hv).2
    have hui := (List.getElem?_eq_some_iff.1 hi).2
    rcases Nat.lt_or_ge j i with h | h
    · have := List.pairwise_iff_getElem.1 hp j i hjl hil h
      rw [hvj, hui] at this
      exact this
    · have := List.pairwise_iff_getElem.1 hp i j hil hjl (by omega)
      rw [hvj, hui] at this
      exact this.symm
  have hold : ∀ j v, j ≠ i → vs[j]? = some v → ∃ xs, cs[j]? = some xs ∧ Own H B ee 1 v (xs.map (.int .u8)) := by
    intro j v hj hv
    have hjl := (List.getElem?_eq_some_iff.1 hv).1
    obtain ⟨a, h1, h2⟩ := ha.get (List.getElem?_eq_getElem (l := cs) (i := j) (by omega))
    rw [hv] at h1
    cases h1
    exact ⟨_, List.getElem?_eq_getElem (by omega), h2⟩
  have hapw : ∀ j v, j ≠ i → vs[j]? = some v → Apart v w := by
    intro j v hj hv
    obtain ⟨xs, _, ho⟩ := hold j v hj hv
    rcases hg.at' with h | ⟨g, h, hgl⟩
    · rcases hap j v hj hv with h' | h'
      · exact .inl h'
      · right; rw [h]; exact h'
    · cases hb : blk v with
      | none => exact .inl hb
      | some k =>
        right
        rw [h, hb]
        have := (ho.blk hb).2.1
        intro e
        cases e
        omega
  refine ⟨All2.of_idx' (by simp [hlen]) fun j a b h1 h2 => ?_, ?_⟩
  · by_cases hj : j = i
    · subst hj
      rw [List.getElem?_set_self hil] at h1
      rw [List.getElem?_set_self (by omega)] at h2
      cases h1; cases h2
      exact hw
    · rw [List.getElem?_set_ne (fun h => hj h.symm)] at h1 h2
      obtain ⟨xs, h3, h4⟩ := hold j a hj h1
      rw [h2] at h3
      cases h3
      exact h4.out hg.but (hap j a hj h1)
  · rw [List.pairwise_iff_getElem]
    intro j k hj hk hjk
    have gj : (vs.set i w)[j]? = some ((vs.set i w)[j]) := List.getElem?_eq_getElem hj
    have gk : (vs.set i w)[k]? = some ((vs.set i w)[k]) := List.getElem?_eq_getElem hk
    generalize (vs.set i w)[j] = a at *
    generalize (vs.set i w)[k] = b at *
    simp only [List.length_set] at hj hk
    by_cases hji : j = i
    · subst hji
      rw [List.getElem?_set_self hil] at gj
      rw [List.getElem?_set_ne (by omega)] at gk
      cases gj
      exact (hapw k b (by omega) gk).symm
    · rw [List.getElem?_set_ne (fun h => hji h.symm)] at gj
      by_cases hki : k = i
      · subst hki
        rw [List.getElem?_set_self hil] at gk
        cases gk
        exact hapw j a hji gj
      · rw [List.getElem?_set_ne (fun h => hki h.symm)] at gk
        have := List.pairwise_iff_getElem.1 hp j k hj hk hjk
        rw [(List.getElem?_eq_some_iff.1 gj).2, (List.getElem?_eq_some_iff.1 gk).2] at this
        exact this
end Go.V
