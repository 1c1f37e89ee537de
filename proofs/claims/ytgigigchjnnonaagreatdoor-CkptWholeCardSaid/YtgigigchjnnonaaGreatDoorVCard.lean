/- VCard: from a law's walk over heaps to the row's condition behind the call; arguments opened as the walks name them. -/
import Derived.Test.YtgigigchjnnonaaGreatDoorVData
import Derived.WalkKit
import Derived.ProofKit
import Derived.OpenShut
import Derived.Deep.DeepHandedRow
import Derived.Lib.LaidTab
set_option linter.unusedSimpArgs false
set_option linter.unusedVariables false
set_option maxRecDepth 20000
namespace Go.V
open Go Go.ChangeShapes Go.WideShapes Go.ChangeAt Go.RowKit

theorem All2.of_idx {α β : Type} {R : α → β → Prop} : ∀ {l : List α} {r : List β}, l.length = r.length → (∀ (i : Nat) a b, l[i]? = some a → r[i]? = some b → R a b) → All2 R l r
  | [], [], _, _ => trivial
  | a :: l, b :: r, hl, h => ⟨h 0 a b rfl rfl, All2.of_idx (by simpa using hl) fun i x y hx hy => h (i + 1) x y (by simpa using hx) (by simpa using hy)⟩
  | [], _ :: _, hl, _ => by simp at hl
  | _ :: _, [], hl, _ => by simp at hl
section
variable {D : Type} {enc : TypeId × Value → D} {P : Program} {W W' : World}

theorem trodAll_keep (hl : laidOutB P = true) (hb : Below W.heap.size W W') {sp : Nat → Bool} : ∀ {ts : List TypeId} {vs : List Value} {ds : List (DataW D)} {ps : List MemPlace},
    ts.all (fun t => P.readableRec t && decide (t < P.types.size)) = true → (∀ x ∈ ps, x.block < W.heap.size) → (∀ x ∈ ps, sp x.block = true) →
    DataW.TrodAll enc P W 0 (fun _ => true) true ts vs ds ps → DataW.TrodAll enc P W' 0 sp true ts vs ds ps
  | [], _, _, _, _, _, _, h => by
    obtain ⟨rfl, rfl, rfl⟩ := trodAll_nil h
    exact trodAll_mk0
  | t :: ts, _, _, _, ht, hp, hs, h => by
    obtain ⟨v, vs1, d, ds1, a, b, rfl, rfl, rfl, h1, h2⟩ := trodAll_cons h
    simp only [List.all_cons, Bool.and_eq_true, decide_eq_true_eq] at ht
    exact ⟨a, b, WideElems.Trod_stays hl ht.1.1 ht.1.2 h1 (fun x hx => hb.same (hp x (List.mem_append_left _ hx))) (fun x hx => hs x (List.mem_append_left _ hx)),
      trodAll_keep hl hb ht.2 (fun x hx => hp x (List.mem_append_right _ hx)) (fun x hx => hs x (List.mem_append_right _ hx)) h2, rfl⟩

/-- A law that answers true and leaves all that there was: what its row asks behind the call. -/
theorem law_post {f : Func} {s : ChangeSpec} {args : Array Value} {ds gs : List (DataW D)} {before : List MemPlace} {tb : TypeId}
    (hl : laidOutB P = true) (hts : f.params.toList.all (fun t => P.readableRec t && decide (t < P.types.size)) = true) (hv : s.vars = []) (hr : f.resultTypes = #[tb]) (htb : P.underlying tb = some .bool)
    (hfn : (s.fn D (ds ++ gs)).results = [.lit (.bool true)] ∧ (s.fn D (ds ++ gs)).args = ds ∧ (s.fn D (ds ++ gs)).vars = [])
    (hW : DataW.Whole enc P f.params.toList s.vars false W args.toList ds gs before) (hb : Below W.heap.size W W') :
    s.post enc P f false true false false W args (.bool true) W' := by
  have hW' := hW
  obtain ⟨p, q, hA, hV, rfl, hz, hn⟩ := hW
  rw [hv] at hV
  obtain ⟨rfl, rfl⟩ := trodVars_none hV
  have hlt := hW'.lt
  refine ⟨ds, [], p ++ [], [], p, [], hW', ?_, ?_, ?_, ?_, fun h => by cases h⟩
  · rw [hfn.1, hr]
    exact trodAll_mk1 (shut_bool htb true)
  · rw [hfn.2.1]
    exact trodAll_keep hl hb hts (fun x hx => hlt x (List.mem_append_left _ hx)) (fun x hx => decide_eq_true (hlt x (List.mem_append_left _ hx))) hA
  · rw [hfn.2.2, hv]
    rfl
  · refine ⟨hb.os, hb.output, fun i hi => ?_⟩
    rw [hb.block i hi]
    cases W.heap[i]? with
    | none => rfl
    | some o => cases o <;> simp

theorem law_calls {f : FuncId} {args : Array Value} {Post : Value → World → Prop} (h : Fun P f args W.heap (fun r H' => r = .bool true ∧ Ext W.heap H')) (hp : ∀ W', Below W.heap.size W W' → Post (.bool true) W') :
    Calls P f args W fun e W' => ∃ v, e = .returned v ∧ Post v W' := by
  refine (h W rfl).mono ?_
  rintro e W' ⟨v, rfl, hs, rfl, hx⟩
  exact ⟨_, rfl, hp W' ⟨hs.os, hs.tape, hs.output, hx.size, hx.get⟩⟩

/-! ### Arguments -/
theorem open_sl {t e : TypeId} {n : Nat} {cs : List Value} {x : DataW D × List MemPlace} {sp : Nat → Bool} {held : Bool} (ht : P.underlying t = some (.slice e)) (hc : P.cellsOf e = 1) (h : DataW.trod enc P W 0 sp held n t cs = some x) :
    ∃ (v : Value) (vs : List Value) (ys : List (DataW D × List MemPlace)), cs = [v] ∧ Sl W.heap e 1 v vs ∧ All2 (fun u y => ∃ m, DataW.trod enc P W 0 sp held m e [u] = some y) vs ys ∧
      (x.1 = .nil ∧ ys = [] ∨ ∃ rest, x.1 = .slice (ys.map (·.1)) rest) := by
  rcases DataW.trod_slice ht h with ⟨rfl, rfl⟩ | ⟨a, len, cap, elems, rest, m, rfl, rfl, rfl, hb, hl, hm, hlen, hel, hsp, hns⟩
  · exact ⟨_, [], [], rfl, Sl.nil, trivial, .inl ⟨rfl, rfl⟩⟩
  · have each : ∀ i, i < len → ∃ u, W.cell? (a.add i) = some u ∧ ∃ y, elems[i]? = some y ∧ DataW.trod enc P W 0 sp held m e [u] = some y := by
      intro i hi
      have h1 := hel i hi
      rw [hc, Nat.mul_one] at h1
      have hy : i < elems.length := by omega
      rw [List.getElem?_eq_getElem hy, Option.bind_eq_some_iff] at h1
      obtain ⟨cs', hcs, hy'⟩ := h1
      obtain ⟨h2, h3, h4⟩ := World.cells?_some hcs
      obtain ⟨u, rfl⟩ : ∃ u, cs' = [u] := by
        match cs', h3 with
        | [u], _ => exact ⟨u, rfl⟩
      have h5 := h4 0 (by omega)
      rw [show (a.add i).add 0 = a.add i by simp [Addr.add]] at h5
      exact ⟨u, by simpa using h5, _, List.getElem?_eq_getElem hy, hy'⟩
    refine ⟨_, (List.range len).map fun i => (W.cell? (a.add i)).getD undef, elems, rfl, ⟨_, _, _, rfl, hl, by simp, ?_⟩, ?_, .inr ⟨_, rfl⟩⟩
    · by_cases h0 : len = 0
      · exact .inl h0
      · obtain ⟨u, hu, _⟩ := each 0 (by omega)
        obtain ⟨b, o, s⟩ := a
        have hspot : s = none ∧ ∃ c t fr, W.heap[b]? = some (.cells c t fr) := by
          simp only [Addr.add, if_true, World.cell?] at hu
          split at hu
          · rename_i c t fr hb'
            refine ⟨?_, c, t, fr, hb'⟩
            cases s with
            | none => rfl
            | some k => simp at hu
          · cases hu
        obtain ⟨rfl, c, t, fr, hb'⟩ := hspot
        refine .inr ⟨b, o, c, t, fr, rfl, hb', fun i hi => ?_⟩
        rw [Nat.mul_one] at hi
        obtain ⟨u, hu, _⟩ := each i hi
        have : c[o + i]? = some u := by
          rw [add_none] at hu
          simpa [World.cell?, hb'] using hu
        rw [this, List.getElem?_map, List.getElem?_range hi, Option.map_some, hu]
        rfl
    · refine All2.of_idx (by simp [hlen]) fun i u y hu hy => ?_
      have hi : i < len := by
        have := (List.getElem?_eq_some_iff.1 hy).1
        omega
      obtain ⟨u', hu', y', hy', ht'⟩ := each i hi
      rw [List.getElem?_map, List.getElem?_range hi, Option.map_some, hu'] at hu
      rw [hy] at hy'
      cases hy'
      simp only [Option.getD_some, Option.some.injEq] at hu
      subst hu
      exact ⟨m, ht'⟩

/-- How many elements a reading shows. -/
def dlen : DataW D → Nat
  | .slice els _ => els.length
  | _ => 0
def IntR (k : IntKind) (x : Int) : Prop := (Lit.int k x).wf = true

theorem open_intsl {t e : TypeId} {k : IntKind} {n : Nat} {cs : List Value} {x : DataW D × List MemPlace} {sp : Nat → Bool} {held : Bool} (ht : P.underlying t = some (.slice e)) (he : P.underlying e = some (.int k)) (hc : P.cellsOf e = 1) (h : DataW.trod enc P W 0 sp held n t cs = some x) :
    ∃ (v : Value) (xs : List Int), cs = [v] ∧ Ints W.heap e k v xs ∧ (∀ y ∈ xs, IntR k y) ∧ dlen x.1 = xs.length := by
  obtain ⟨v, vs, ys, rfl, hs, ha, hx⟩ := open_sl ht hc h
  have key : ∀ {vs : List Value} {ys : List (DataW D × List MemPlace)}, All2 (fun u y => ∃ m, DataW.trod enc P W 0 sp held m e [u] = some y) vs ys → ∃ xs : List Int, vs = xs.map (.int k) ∧ (∀ y ∈ xs, IntR k y) ∧ ys.length = xs.length := by
    intro vs
    induction vs with
    | nil => intro ys ha; cases ys with
      | nil => exact ⟨[], rfl, by simp, rfl⟩
      | cons y ys => exact ha.elim
    | cons u vs ih =>
      intro ys ha
      cases ys with
      | nil => exact ha.elim
      | cons y ys =>
        obtain ⟨⟨m, hm⟩, ha⟩ := ha
        obtain ⟨z, h1, h2, h3⟩ := DataW.trod_int he hm
        obtain ⟨xs, rfl, hw, hl⟩ := ih ha
        simp only [List.cons.injEq, and_true] at h1
        subst h1
        exact ⟨z :: xs, rfl, fun w hw' => by
          rcases List.mem_cons.1 hw' with rfl | hw'
          · exact h3
          · exact hw w hw', by simp [hl]⟩
  obtain ⟨xs, rfl, hw, hl⟩ := key ha
  refine ⟨v, xs, rfl, hs, hw, ?_⟩
  rcases hx with ⟨hx, rfl⟩ | ⟨rest, hx⟩
  · rw [hx]; simpa [dlen] using hl
  · rw [hx]; simpa [dlen] using hl

theorem trod_bool {e : TypeId} {n : Nat} {cs : List Value} {x : DataW D × List MemPlace} {sp : Nat → Bool} {held : Bool} (he : P.underlying e = some .bool) (h : DataW.trod enc P W 0 sp held n e cs = some x) : ∃ b, cs = [.bool b] ∧ x = (.lit (.bool b), []) := by
  cases n with
  | zero => simp [DataW.trod] at h
  | succ n =>
    unfold DataW.trod at h
    rw [he] at h
    split at h <;> simp_all
theorem open_boolsl {t e : TypeId} {n : Nat} {cs : List Value} {x : DataW D × List MemPlace} {sp : Nat → Bool} {held : Bool} (ht : P.underlying t = some (.slice e)) (he : P.underlying e = some .bool) (hc : P.cellsOf e = 1) (h : DataW.trod enc P W 0 sp held n t cs = some x) :
    ∃ (v : Value) (xs : List Bool), cs = [v] ∧ Bls W.heap e v xs ∧ dlen x.1 = xs.length := by
  obtain ⟨v, vs, ys, rfl, hs, ha, hx⟩ := open_sl ht hc h
  have key : ∀ {vs : List Value} {ys : List (DataW D × List MemPlace)}, All2 (fun u y => ∃ m, DataW.trod enc P W 0 sp held m e [u] = some y) vs ys → ∃ xs : List Bool, vs = xs.map .bool ∧ ys.length = xs.length := by
    intro vs
    induction vs with
    | nil => intro ys ha; cases ys with
      | nil => exact ⟨[], rfl, rfl⟩
      | cons y ys => exact ha.elim
    | cons u vs ih =>
      intro ys ha
      cases ys with
      | nil => exact ha.elim
      | cons y ys =>
        obtain ⟨⟨m, hm⟩, ha⟩ := ha
        obtain ⟨z, h1, h2⟩ := trod_bool he hm
        obtain ⟨xs, rfl, hl⟩ := ih ha
        simp only [List.cons.injEq, and_true] at h1
        subst h1
        exact ⟨z :: xs, rfl, by simp [hl]⟩
  obtain ⟨xs, rfl, hl⟩ := key ha
  refine ⟨v, xs, rfl, hs, ?_⟩
  rcases hx with ⟨hx, rfl⟩ | ⟨rest, hx⟩
  · rw [hx]; simpa [dlen] using hl
  · rw [hx]; simpa [dlen] using hl

end
end Go.V
