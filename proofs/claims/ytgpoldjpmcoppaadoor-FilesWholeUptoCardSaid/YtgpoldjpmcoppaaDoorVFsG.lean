/- slices.Sorted(maps.Keys(m)), by the shelf's contracts. -/
import Derived.Test.YtgpoldjpmcoppaaDoorVFsF
set_option linter.unusedSimpArgs false
set_option linter.unusedVariables false
set_option maxRecDepth 20000
namespace Go.V
open Go
theorem nodup_sub {α : Type} [BEq α] [LawfulBEq α] : ∀ (l r : List α), l.Nodup → (∀ x ∈ l, x ∈ r) → l.length ≤ r.length
  | [], _, _, _ => Nat.zero_le _
  | x :: l, r, hn, hs => by
    have hx := hs x List.mem_cons_self
    have ih := nodup_sub l (r.erase x) (List.nodup_cons.1 hn).2 fun y hy => by
      refine (List.mem_erase_of_ne fun e => ?_).2 (hs y (List.mem_cons_of_mem _ hy))
      subst e; exact (List.nodup_cons.1 hn).1 hy
    rw [List.length_erase_of_mem hx] at ih
    have : 0 < r.length := List.length_pos_of_mem hx
    simp only [List.length_cons]
    omega
def ofL (x : List UInt8) : Nm := ⟨x.toArray⟩
theorem ofL_toL (n : Nm) : ofL n.data.toList = n := by cases n; simp [ofL]
theorem toL_ofL (x : List UInt8) : (ofL x).data.toList = x := by simp [ofL]
theorem lt_of_leB {a b : List UInt8} (h : a ≤ b) (hne : a ≠ b) : a < b := by
  by_cases h1 : a < b
  · exact h1
  · exact absurd (List.le_antisymm h (List.not_lt.1 h1)) hne
end Go.V
namespace Go.Proofs.YtgpoldjpmcoppaaDoor
open Go Go.V Go.Proofs Go.Sort
-- 64: maps.Keys[pith/fs.dir,string,*pith/fs.file]
-- 79: maps.Keys[pith/fs.dir,string,*pith/fs.file]$1
-- 63: slices.Sorted[string]
-- 86: fs.FS
-- 9: string
-- 82: fs.dir
theorem F64 (m : Nat) (H : Heap) : Fun Tryd.prog 64 #[.map (some m)] H (fun r H' => r = .func (.func 79) #[] #[ptrOf H.size] ∧ H' = H.push (.cells #[.map (some m)] 82)) := by
  intro w hw
  subst hw
  refine (show Calls Tryd.prog 64 #[.map (some m)] w _ from callsIn_wide.1 (AnyZ.keys_in Tryd.zKeys Fence.wide 6 trivial rfl (some m) w)).mono ?_
  rintro e w' ⟨rfl, rfl⟩
  exact ⟨_, rfl, ⟨rfl, rfl, rfl, trivial⟩, rfl, rfl⟩
theorem sorts_wide (m : Nat) : AnyZ.SortsIn Tryd.prog Tryd.zSorted_ren Fence.wide m :=
  ⟨fun blk off cap ss W hH hblk hsz => callsIn_wide.2 (AnyM.slices_Sort_string Tryd.mSort blk off cap ss W hH hblk hsz), fun p cap W => callsIn_wide.2 (AnyM.slices_Sort_string_none Tryd.mSort p cap W)⟩
def RR : Value → Option (DataW Unit × List MemPlace) := fun _ => some (.lit (.bool true), [])
theorem dir_owns {w : World} {m c : Nat} {l : List (Ent Nm)} (h : MapH Value.string w.heap m l c) (h64 : ∀ e ∈ l, e.key.size ≤ 64) (hl : l.length ≤ maxLen) :
    ∃ D0 : DataW Unit, w.ownsMap Tryd.prog 9 RR m l.length D0 ∧ Maps.size D0 = l.length ∧ (strKeys D0).Perm (l.map fun e => e.key.data.toList) := by
  have hk : ∀ e ∈ l, Go.WideElems.rg Tryd.prog 9 RR (ent Value.string e) = (.string e.key.data.toList, .lit (.bool true)) := fun e he => by
    refine Go.WideElems.rg_of ?_
    exact Go.WideElems.rd_mk (yv := (.lit (.bool true), [])) (Go.WideMaps.keyOf_string_mk Tryd.underlying9 (by have := h64 e he; simp only [maxLen]; omega)) rfl
  have e1 : (entsA Value.string l).toList.map (Go.WideElems.rg Tryd.prog 9 RR) = l.map fun e => ((.string e.key.data.toList, .lit (.bool true)) : Lit × DataW Unit) := by
    simp only [entsA, List.map_map]
    exact List.map_congr_left fun e he => hk e he
  refine ⟨_, ⟨entsA Value.string l, c, h.hb, ⟨by simp [entsA]; exact hl, ⟨fun x hx => ?_, ?_, ?_⟩, fun x hx => ?_⟩, by simp [entsA], rfl⟩, ?_, ?_⟩
  · simp only [entsA, List.mem_map] at hx
    obtain ⟨e, he, rfl⟩ := hx
    exact h.old e he
  · have : (entsA Value.string l).toList.map (·.born) = l.map (·.born) := by simp [entsA, ent, Function.comp_def]
    rw [this]; exact h.nb
  · have : (entsA Value.string l).toList.map (·.key) = (l.map (·.key)).map Value.string := ents_keys l
    rw [this]
    exact List.pairwise_map.2 (h.nk.imp fun hne e => hne (by injection e))
  · simp only [entsA, List.mem_map] at hx
    obtain ⟨e, he, rfl⟩ := hx
    exact ⟨_, Go.WideElems.rd_mk (yv := (.lit (.bool true), [])) (Go.WideMaps.keyOf_string_mk Tryd.underlying9 (by have := h64 e he; simp only [maxLen]; omega)) rfl⟩
  · rw [e1, Maps.size_eq, (Go.WideShapes.sorted_perm _).length_eq, List.length_map]
  · rw [e1]
    refine ((Go.WideShapes.sorted_perm _).map _).trans ?_
    rw [List.map_map]
    exact List.Perm.refl _
set_option maxHeartbeats 1600000 in
theorem F63 {H : Heap} {bx m : Nat} {D : Dir} {hs : List Nat} (hbx : H[bx]? = some (.cells #[.map (some m)] 82)) (hd : DirH H m D) (hN : ∀ n f, D n = some f → isNm n = true) (hI : ∀ n m f, D n = some f → D m = some f → n = m) (hD : ∀ n f, D n = some f → f ∈ hs) (hl : hs.length ≤ 1099511627776) :
    Fun Tryd.prog 63 #[.func (.func 79) #[] #[ptrOf bx]] H (fun r H' => ∃ ns, IsNames D ns ∧ Own H' H.size 9 1 r (ns.map .string) ∧ Ext H H') := by
  intro w hw
  subst hw
  obtain ⟨l, c, mm, hg⟩ := hd
  have hv := DirH.vals mm hg
  have hlen : l.length ≤ hs.length := by
    have h1 : ∀ e ∈ l, D e.key ≠ none := fun e he => by obtain ⟨x, hx, _⟩ := hv e he; rw [hx]; simp
    have := nodup_sub (l.map fun e => (D e.key).getD 0) hs (by
      rw [List.Nodup, List.pairwise_map]
      have hn := mm.nk
      rw [List.Nodup, List.pairwise_map] at hn
      refine hn.imp_of_mem fun {a b} ha hb hne e => hne ?_
      obtain ⟨x, hx, _⟩ := hv a ha
      obtain ⟨y, hy, _⟩ := hv b hb
      rw [hx, hy] at e
      simp only [Option.getD_some] at e
      subst e
      exact hI _ _ _ hx hy) (fun x hx => by
      obtain ⟨e, he, rfl⟩ := List.mem_map.1 hx
      obtain ⟨x, hx, _⟩ := hv e he
      rw [hx]; exact hD _ _ hx)
    simpa using this
  have h64 : ∀ e ∈ l, e.key.size ≤ 64 := fun e he => by
    obtain ⟨x, hx, _⟩ := hv e he
    have := hN _ _ hx
    unfold isNm at this
    simp only [Bool.and_eq_true, decide_eq_true_eq] at this
    exact this.1.2
  obtain ⟨D0, hown, hsz, hperm⟩ := dir_owns mm h64 (by simp only [maxLen]; omega)
  have hseq : SeqGives Fence.wide 3 Tryd.prog 79 #[ptrOf bx] encStr (fun ss => ss.Perm (strKeys D0)) (Maps.size D0) w :=
    AnyZ.keys_gives Tryd.zKeys1 Fence.wide 3 trivial rfl (by decide) bx m l.length D0 w (Array.getElem?_eq_some_iff.1 hbx).1 (by simp [World.cell?, hbx]) hown
  refine (show Calls Tryd.prog 63 #[.func (.func 79) #[] #[ptrOf bx]] w _ from callsIn_wide.1 (AnyZ.sorted_in Tryd.zSorted Fence.wide 6 trivial trivial trivial trivial rfl (by decide) (sorts_wide _) (fun _ _ => rfl) 79 #[ptrOf bx] trivial (fun _ _ => rfl) _ (Maps.size D0) (by rw [hsz]; simp only [maxLen]; omega) (by rw [hsz]; omega) w hseq)).mono ?_
  rintro e w' ⟨v, ss, rfl, hss, hrow, hnil, hbel⟩
  have hss2 : ss.Perm (l.map fun e => e.key.data.toList) := hss.trans hperm
  have hnd : ss.Nodup := by
    refine hss2.nodup_iff.2 ?_
    rw [List.Nodup, List.pairwise_map]
    have hn := mm.nk
    rw [List.Nodup, List.pairwise_map] at hn
    exact hn.imp fun hne e => hne ((ofL_toL _).symm.trans ((congrArg ofL e).trans (ofL_toL _)))
  have hms : (ss.mergeSort fun x y => decide (x ≤ y)).Perm ss := List.mergeSort_perm ss _
  have hpw := List.pairwise_mergeSort (le := leB) (fun a b c h1 h2 => by simp only [leB, decide_eq_true_eq] at *; exact List.le_trans h1 h2) (fun a b => by simp only [leB, Bool.or_eq_true, decide_eq_true_eq]; exact List.le_total a b) ss
  have hnd2 : (ss.mergeSort fun x y => decide (x ≤ y)).Nodup := hms.nodup_iff.2 hnd
  refine ⟨v, rfl, ⟨hbel.os, hbel.tape, hbel.output, trivial⟩, (ss.mergeSort fun x y => decide (x ≤ y)).map ofL, ⟨?_, fun n => ?_⟩, ?_, ⟨hbel.size, hbel.block⟩⟩
  · rw [List.pairwise_map]
    refine (hpw.and hnd2).imp fun {a b} h => ?_
    rw [toL_ofL, toL_ofL]
    exact lt_of_leB (by simpa [leB] using h.1) h.2
  · rw [List.mem_map]
    have hin : n ∈ l.map (·.key) ↔ D n ≠ none := by
      have := getM_none (l := l) (n := n)
      rw [hg, Option.map_eq_none_iff] at this
      constructor
      · intro h1 h2
        rw [h2] at this
        exact this.1 rfl h1
      · intro h1
        cases hx : D n with
        | none => exact absurd hx h1
        | some x =>
          have h2 : getM l n = some (ptrOf x) := by rw [hg, hx]; rfl
          obtain ⟨e, he, hk, _⟩ := (getM_mem mm.nk).1 h2
          exact List.mem_map.2 ⟨e, he, hk⟩
    rw [← hin]
    constructor
    · rintro ⟨x, hx, rfl⟩
      obtain ⟨e, he, rfl⟩ := List.mem_map.1 (hss2.mem_iff.1 (hms.mem_iff.1 hx))
      rw [ofL_toL]
      exact List.mem_map.2 ⟨e, he, rfl⟩
    · intro hn
      obtain ⟨e, he, rfl⟩ := List.mem_map.1 hn
      exact ⟨_, hms.mem_iff.2 (hss2.mem_iff.2 (List.mem_map.2 ⟨e, he, rfl⟩)), ofL_toL _⟩
  · rw [List.map_map]
    have e0 : (Value.string ∘ ofL) = encStr := rfl
    rw [e0]
    rcases hrow.2 with ⟨rfl, hz⟩ | ⟨g, cap, cur, rfl, h1, h2, h3, h4, h5, h6⟩
    · refine .inl ⟨rfl, ?_⟩
      have : ss = [] := List.eq_nil_of_length_eq_zero hz
      subst this; simp
    · exact .inr ⟨g, ss.length, cap, cur, rfl, h1, h2, h3, h4, h5, by rw [← hrow.1], h6⟩
end Go.Proofs.YtgpoldjpmcoppaaDoor
