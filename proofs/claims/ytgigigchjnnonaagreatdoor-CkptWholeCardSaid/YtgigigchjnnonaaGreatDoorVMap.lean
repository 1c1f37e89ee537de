/- VMap: maps over heaps: made, looked up, written, deleted from, ranged over. -/
import Derived.Test.YtgigigchjnnonaaGreatDoorVData
import Derived.MapKept
import Derived.Laws.IdiomRangeMap
import Derived.LaidEqlPtr
set_option linter.unusedSimpArgs false
set_option linter.unusedVariables false
set_option maxRecDepth 20000
set_option linter.unusedSectionVars false
namespace Go.V
open Go
theorem nodup_inj {α : Type} : ∀ {l : List α} (hn : l.Nodup) {i j : Nat} {a : α}, l[i]? = some a → l[j]? = some a → i = j
  | [], _, _, _, _, h, _ => by simp at h
  | x :: l, hn, 0, 0, _, _, _ => rfl
  | x :: l, hn, 0, j + 1, a, h, k => by
    simp only [List.getElem?_cons_zero, Option.some.injEq] at h
    rw [List.getElem?_cons_succ] at k
    exact absurd (h ▸ List.mem_of_getElem? k) (List.nodup_cons.1 hn).1
  | x :: l, hn, i + 1, 0, a, h, k => by
    simp only [List.getElem?_cons_zero, Option.some.injEq] at k
    rw [List.getElem?_cons_succ] at h
    exact absurd (k ▸ List.mem_of_getElem? h) (List.nodup_cons.1 hn).1
  | x :: l, hn, i + 1, j + 1, a, h, k => by
    rw [List.getElem?_cons_succ] at h k
    rw [nodup_inj (List.nodup_cons.1 hn).2 h k]
/-- Where a key stands. -/
def findI {κ : Type} [DecidableEq κ] (k : κ) : List κ → List MapEntry → Nat → Option (Nat × Value)
  | x :: ks, e :: es, i => if k = x then some (i, e.val) else findI k ks es (i + 1)
  | _, _, _ => none
/-- Keys that are told apart without asking the tape, where OK holds of them. -/
structure Keyed (P : Program) {κ : Type} [DecidableEq κ] (t : TypeId) (kf : κ → Value) (OK : Heap → κ → Prop) : Prop where
  check : ∀ (b : Bool) (k : κ) (w : World), (Instr.checkKey b 10000 t (kf k)).run P w = .ok () w
  find : ∀ (k : κ) (es : List MapEntry) (ks : List κ) (w : World), es.map (·.key) = ks.map kf → OK w.heap k → (∀ x ∈ ks, OK w.heap x) → (Instr.findKey t (kf k) es).run P w = .ok (findI k ks es 0) w
  stays : ∀ (k : κ) (w : World), (Instr.keyThatStays (kf k) (kf k)).run P w = .ok (kf k) w
theorem ba_beq (a b : ByteArray) : (a == b) = decide (a = b) := by
  rw [Bool.eq_iff_iff, decide_eq_true_eq]; exact MapKept.bytes_beq a b
theorem find_now_str (k : ByteArray) : ∀ (ks : List ByteArray) (es : List MapEntry) (i : Nat), es.map (·.key) = ks.map Value.string → Instr.findNow .string (.string k) es i = some (findI k ks es i)
  | [], [], _, _ => rfl
  | [], _ :: _, _, h => by simp at h
  | _ :: _, [], _, h => by simp at h
  | x :: ks, e :: es, i, h => by
    simp only [List.map_cons, List.cons.injEq] at h
    unfold Instr.findNow findI
    rw [h.1]
    by_cases hk : k = x
    · rw [if_pos hk]
      simp [Instr.sameNow, hk, ba_beq]
    · rw [if_neg hk]
      have : (k == x) = false := by rw [ba_beq]; simpa using hk
      simp only [Instr.sameNow, this]
      exact find_now_str k ks es (i + 1) h.2
theorem keyed_str {P : Program} {t : TypeId} (ht : P.underlying t = some .string) : Keyed P t Value.string (fun _ _ => True) := by
  refine ⟨fun b k w => ?_, fun k es ks w hk _ _ => ?_, fun k w => ?_⟩
  · exact MapKept.run_checkKey ht (k := .string k) (by simp [MapKept.IsKey]) b 9999
  · exact MapKept.run_findKey ht (find_now_str k ks es 0 hk)
  · exact MapKept.run_keyThatStays (d := .string) (k := .string k) (by simp [MapKept.IsKey])
/-- A pointer to a block's start. -/
def ptrOf (b : Nat) : Value := .pointer (some ⟨b, 0, none⟩)
def Stands (H : Heap) (b : Nat) : Prop := ∃ c t, H[b]? = some (.cells c t (0, 0))
theorem find_asking_ptr {P : Program} {t te : TypeId} {j : TypeInfo} (ht : P.underlying t = some (.pointer te)) (hte : P.info? te = some j) (hsz : j.size ≠ 0) (k : Nat) : ∀ (ks : List Nat) (es : List MapEntry) (i : Nat) (w : World), es.map (·.key) = ks.map ptrOf → Stands w.heap k → (∀ x ∈ ks, Stands w.heap x) → (Instr.findAsking t (ptrOf k) es i).run P w = .ok (findI k ks es i) w
  | [], [], _, _, _, _, _ => rfl
  | [], _ :: _, _, _, h, _, _ => by simp at h
  | _ :: _, [], _, _, h, _, _ => by simp at h
  | x :: ks, e :: es, i, w, h, hk, hs => by
    simp only [List.map_cons, List.cons.injEq] at h
    unfold Instr.findAsking findI
    rw [h.1]
    have heq : (Op.equal t (ptrOf k) (ptrOf x)).run P w = .ok (decide (k = x)) w := by
      unfold Op.equal Op.maxDepth
      by_cases hkx : k = x
      · subst hkx
        have h1 : ∀ d : Nat, (Op.equalIn (d + 1) t (ptrOf k) (ptrOf k)).run P w = .ok true w := fun d => by
          simp [ptrOf, Op.equalIn, run_underlying ht, sizeOf, typeInfo, hte, run_sameAddr_same]
        rw [h1 9999]; simp
      · obtain ⟨ca, ta, ha⟩ := hk
        obtain ⟨cb, tb, hb⟩ := hs x List.mem_cons_self
        have h1 : ∀ d : Nat, (Op.equalIn (d + 1) t (ptrOf k) (ptrOf x)).run P w = .ok false w := fun d => by
          simp [ptrOf, Op.equalIn, run_underlying ht, sizeOf, typeInfo, hte, hsz, run_sameAddr_other w (a := ⟨k, 0, none⟩) (b := ⟨x, 0, none⟩) (by simpa using hkx) ha hb]
        rw [h1 9999]; simp [hkx]
    rw [Sem.run_bind, heq, Result.andThen_ok]
    by_cases hkx : k = x
    · simp [hkx]
    · simp only [hkx, decide_false, Bool.false_eq_true, if_false]
      exact find_asking_ptr ht hte hsz k ks es (i + 1) w h.2 hk fun y hy => hs y (List.mem_cons_of_mem _ hy)
theorem keyed_ptr {P : Program} {t te : TypeId} {j : TypeInfo} (ht : P.underlying t = some (.pointer te)) (hte : P.info? te = some j) (hsz : j.size ≠ 0) : Keyed P t ptrOf Stands := by
  refine ⟨fun b k w => ?_, fun k es ks w hk h1 h2 => ?_, fun k w => ?_⟩
  · have h : ∀ n : Nat, (Instr.checkKey b (n + 1) t (ptrOf k)).run P w = .ok () w := fun n => by
      unfold Instr.checkKey
      simp [ptrOf, run_underlying ht]
    exact h 9999
  · unfold Instr.findKey
    rw [Sem.run_bind, run_underlying ht, Result.andThen_ok]
    cases es with
    | nil =>
      cases ks with
      | nil => rfl
      | cons x ks => simp at hk
    | cons e es =>
      have hn : Instr.findNow (.pointer te) (ptrOf k) (e :: es) 0 = none := by
        cases ks with
        | nil => simp at hk
        | cons x ks =>
          simp only [List.map_cons, List.cons.injEq] at hk
          unfold Instr.findNow
          rw [hk.1]
          simp [ptrOf, Instr.sameNow]
      rw [hn]
      exact find_asking_ptr ht hte hsz k ks (e :: es) 0 w hk h1 h2
  · have h : ∀ n : Nat, Instr.sameBits n (ptrOf k) (ptrOf k) = true := fun n => by
      cases n <;> simp [ptrOf, Instr.sameBits]
    unfold Instr.keyThatStays
    rw [h 10000]
    simp
/-- An entry. -/
structure Ent (κ : Type) where
  key : κ
  val : Value
  born : Nat
section
variable {κ : Type} [DecidableEq κ] {kf : κ → Value} {P : Program} {H : Heap} {OK : Heap → κ → Prop} {t kt et : TypeId} {b clock : Nat} {l : List (Ent κ)}
def ent (kf : κ → Value) (e : Ent κ) : MapEntry := ⟨kf e.key, e.val, e.born⟩
def entsA (kf : κ → Value) (l : List (Ent κ)) : Array MapEntry := (l.map (ent kf)).toArray
/-- The block b holds a map of these entries. -/
structure MapH (kf : κ → Value) (H : Heap) (b : Nat) (l : List (Ent κ)) (clock : Nat) : Prop where
  hb : H[b]? = some (.map (entsA kf l) clock)
  old : ∀ e ∈ l, e.born < clock
  nb : (l.map (·.born)).Nodup
  nk : (l.map (·.key)).Nodup
def getM (l : List (Ent κ)) (k : κ) : Option Value := (l.find? fun e => decide (e.key = k)).map (·.val)
def setM (l : List (Ent κ)) (clock : Nat) (k : κ) (v : Value) : List (Ent κ) := if k ∈ l.map (·.key) then l.map fun e => if e.key = k then { e with val := v } else e else l ++ [⟨k, v, clock⟩]
def delM (l : List (Ent κ)) (k : κ) : List (Ent κ) := l.filter fun e => decide (e.key ≠ k)
theorem findI_ents (k : κ) : ∀ (l : List (Ent κ)) (i : Nat), (findI k (l.map (·.key)) (l.map (ent kf)) i = none ∧ k ∉ l.map (·.key) ∧ getM l k = none) ∨
    ∃ j e, findI k (l.map (·.key)) (l.map (ent kf)) i = some (i + j, e.val) ∧ l[j]? = some e ∧ e.key = k ∧ getM l k = some e.val
  | [], i => .inl ⟨rfl, by simp, rfl⟩
  | x :: l, i => by
    by_cases hk : k = x.key
    · refine .inr ⟨0, x, ?_, rfl, hk.symm, ?_⟩
      · simp [findI, hk, ent]
      · simp [getM, hk]
    · have hk' : ¬ x.key = k := fun e => hk e.symm
      rcases findI_ents k l (i + 1) with ⟨h1, h2, h3⟩ | ⟨j, e, h1, h2, h3, h4⟩
      · refine .inl ⟨?_, ?_, ?_⟩
        · simp only [List.map_cons, findI, hk, if_false]; exact h1
        · simp only [List.map_cons, List.mem_cons]; exact fun h => h.elim hk h2
        · simp only [getM, List.find?_cons, hk', decide_false]; exact h3
      · refine .inr ⟨j + 1, e, ?_, by simpa using h2, h3, ?_⟩
        · simp only [List.map_cons, findI, hk, if_false, h1]
          rw [show i + 1 + j = i + (j + 1) by omega]
        · simp only [getM, List.find?_cons, hk', decide_false]; exact h4
theorem ents_keys (l : List (Ent κ)) : (entsA kf l).toList.map (·.key) = (l.map (·.key)).map kf := by
  simp [entsA, ent, Function.comp_def]
theorem MapH.keep {H' : Heap} (h : MapH kf H b l clock) (hk : H'[b]? = H[b]?) : MapH kf H' b l clock := ⟨by rw [hk]; exact h.hb, h.old, h.nb, h.nk⟩
theorem MapH.lt (h : MapH kf H b l clock) : b < H.size := (Array.getElem?_eq_some_iff.1 h.hb).1
theorem makeMap_run {t : TypeId} : RunS P (sMakeMap t none) H (fun v H' => v = .map (some H.size) ∧ H' = H.push (.map #[] 0)) := by
  intro w hw
  subst hw
  refine ⟨_, w.alloc (.map #[] 0), ?_, ⟨rfl, rfl, rfl, trivial⟩, rfl, rfl⟩
  simp [sMakeMap, Instr.makeMap]
theorem MapH.new {H : Heap} : MapH kf (H.push (.map #[] 0)) H.size ([] : List (Ent κ)) 0 := ⟨push_new, by simp, by simp, by simp⟩
theorem lookup_run (K : Keyed P kt kf OK) (ht : P.underlying t = some (.map kt et)) {z : Value} (hz : ∀ w : World, (zeroValue et).run P w = .ok z w) (h : MapH kf H b l clock) (k : κ) (hk : OK H k) (hl : ∀ e ∈ l, OK H e.key) :
    RunS P (sLookup t (.map (some b)) (kf k) false) H (fun v H' => v = (getM l k).getD z ∧ H = H') := by
  intro w hw
  subst hw
  have hf := K.find k (entsA kf l).toList (l.map (·.key)) w (ents_keys l) hk (fun x hx => by
    obtain ⟨e, he, rfl⟩ := List.mem_map.1 hx
    exact hl e he)
  have e1 : (entsA kf l).toList = l.map (ent kf) := by simp [entsA]
  rw [e1] at hf
  refine ⟨(getM l k).getD z, w, ?_, Same.refl _, rfl, rfl⟩
  unfold sLookup Instr.lookup
  rcases findI_ents (kf := kf) k l 0 with ⟨h1, _, h3⟩ | ⟨j, e, h1, _, _, h4⟩
  · rw [h1] at hf
    simp [run_underlying ht, MapKept.run_getObj_map h.hb, K.check, e1, hf, hz, h3]
  · rw [h1] at hf
    simp [run_underlying ht, MapKept.run_getObj_map h.hb, K.check, e1, hf, h4]
/-- A step without an answer. -/
def RunU (P : Program) (s : Sem Unit) (H : Heap) (K : Heap → Prop) : Prop := ∀ w : World, w.heap = H → ∃ w', s.run P w = .ok () w' ∧ Same w w' ∧ K w'.heap
theorem OpSI.skip {s : Sem Unit} {K : Heap → Prop} {C : Value → Heap → Prop} (h : RunU P s H K) (hk : ∀ H', K H' → C undef H') : @OpSI P (do s; pure .skip) H ⟨C⟩ := by
  intro w hw
  obtain ⟨w', hr, hs, h⟩ := h w hw
  simp only [Sem.run_bind, hr, Result.andThen_ok, Sem.run_pure]
  exact ⟨hs, hk _ h⟩
theorem OpSI.value {s : Sem Value} {K C : Value → Heap → Prop} (h : RunS P s H K) (hk : ∀ v H', K v H' → C v H') : @OpSI P (do pure (.value (← s))) H ⟨C⟩ := OpS_of_value (h.mono hk)
theorem modify_ents (l : List (Ent κ)) (k : κ) (v : Value) (hn : (l.map (·.key)).Nodup) {j : Nat} {e : Ent κ} (hj : l[j]? = some e) (he : e.key = k) :
    (entsA kf l).modify j (fun x => { x with key := kf k, val := v }) = entsA kf (l.map fun e => if e.key = k then { e with val := v } else e) := by
  apply Array.ext_getElem?
  intro i
  rw [Array.getElem?_modify]
  unfold entsA
  simp only [List.getElem?_toArray, List.getElem?_map]
  by_cases hij : j = i
  · subst hij
    rw [if_pos rfl, hj]
    simp [ent, he]
  · rw [if_neg hij]
    cases hi : l[i]? with
    | none => rfl
    | some x =>
      have hx : x.key ≠ k := fun hx => hij (by
        have h1 : (l.map (·.key))[j]? = some k := by rw [List.getElem?_map, hj]; simp [he]
        have h2 : (l.map (·.key))[i]? = some k := by rw [List.getElem?_map, hi]; simp [hx]
        exact nodup_inj hn h1 h2)
      simp [hx]
theorem update_run (K : Keyed P kt kf OK) (ht : P.underlying t = some (.map kt et)) (h : MapH kf H b l clock) (k : κ) (v : Value) (hk : OK H k) (hl : ∀ e ∈ l, OK H e.key) :
    RunU P (Instr.mapUpdate t (.map (some b)) (kf k) v) H (fun H' => ∃ clock', MapH kf H' b (setM l clock k v) clock' ∧ H'.size = H.size ∧ ∀ g, g ≠ b → H'[g]? = H[g]?) := by
  intro w hw
  subst hw
  have hf := K.find k (entsA kf l).toList (l.map (·.key)) w (ents_keys l) hk (fun x hx => by
    obtain ⟨e, he, rfl⟩ := List.mem_map.1 hx
    exact hl e he)
  have e1 : (entsA kf l).toList = l.map (ent kf) := by simp [entsA]
  rw [e1] at hf
  have hlt := h.lt
  unfold Instr.mapUpdate
  rcases findI_ents (kf := kf) k l 0 with ⟨h1, h2, h3⟩ | ⟨j, e, h1, h2, h3, h4⟩
  · rw [h1] at hf
    refine ⟨{ w with heap := w.heap.setIfInBounds b (.map ((entsA kf l).push ⟨kf k, v, clock⟩) (clock + 1)) }, ?_, ⟨rfl, rfl, rfl, trivial⟩, clock + 1, ⟨?_, ?_, ?_, ?_⟩, by simp, fun g hg => by simp [Array.getElem?_setIfInBounds, Ne.symm hg]⟩
    · simp [run_underlying ht, MapKept.run_getObj_map h.hb, K.check, e1, hf, MapKept.run_setObj_map _ h.hb]
    · simp only [Array.getElem?_setIfInBounds, hlt, if_true, setM, if_neg h2]
      simp [entsA, ent]
    · unfold setM
      rw [if_neg h2]
      intro x hx
      rw [List.mem_append, List.mem_singleton] at hx
      rcases hx with hx | rfl
      · have := h.old x hx; omega
      · exact Nat.lt_succ_self _
    · unfold setM
      rw [if_neg h2, List.map_append, List.nodup_append]
      refine ⟨h.nb, by simp, fun a ha c hc => ?_⟩
      simp only [List.map_cons, List.map_nil, List.mem_singleton] at hc
      obtain ⟨x, hx, rfl⟩ := List.mem_map.1 ha
      have := h.old x hx
      omega
    · unfold setM
      rw [if_neg h2, List.map_append, List.nodup_append]
      refine ⟨h.nk, by simp, fun a ha c hc => ?_⟩
      simp only [List.map_cons, List.map_nil, List.mem_singleton] at hc
      rw [hc]
      exact fun e => h2 (e ▸ ha)
  · rw [h1, Nat.zero_add] at hf
    have hmem : k ∈ l.map (·.key) := List.mem_map.2 ⟨e, List.mem_of_getElem? h2, h3⟩
    have hkj : ((entsA kf l)[j]?.map (·.key)).getD (kf k) = kf k := by
      unfold entsA
      simp only [List.getElem?_toArray, List.getElem?_map, h2]
      simp [ent, h3]
    have hkeys : (l.map fun e => if e.key = k then { e with val := v } else e).map (·.key) = l.map (·.key) := by
      rw [List.map_map]; apply List.map_congr_left; intro x _; simp only [Function.comp]; split <;> rfl
    have hborn : (l.map fun e => if e.key = k then { e with val := v } else e).map (·.born) = l.map (·.born) := by
      rw [List.map_map]; apply List.map_congr_left; intro x _; simp only [Function.comp]; split <;> rfl
    refine ⟨{ w with heap := w.heap.setIfInBounds b (.map ((entsA kf l).modify j fun x => { x with key := kf k, val := v }) clock) }, ?_, ⟨rfl, rfl, rfl, trivial⟩, clock, ⟨?_, ?_, ?_, ?_⟩, by simp, fun g hg => by simp [Array.getElem?_setIfInBounds, Ne.symm hg]⟩
    · simp [run_underlying ht, MapKept.run_getObj_map h.hb, K.check, e1, hf, hkj, K.stays, MapKept.run_setObj_map _ h.hb]
    · rw [modify_ents l k v h.nk h2 h3]
      simp only [Array.getElem?_setIfInBounds, hlt, if_true, setM, if_pos hmem]
    · unfold setM
      rw [if_pos hmem]
      intro x hx
      obtain ⟨y, hy, rfl⟩ := List.mem_map.1 hx
      have := h.old y hy
      split <;> exact this
    · unfold setM; rw [if_pos hmem, hborn]; exact h.nb
    · unfold setM; rw [if_pos hmem, hkeys]; exact h.nk
theorem delete_ents (l : List (Ent κ)) (k : κ) (hn : (l.map (·.key)).Nodup) {j : Nat} {e : Ent κ} (hj : l[j]? = some e) (he : e.key = k) :
    (entsA kf l).eraseIdxIfInBounds j = entsA kf (delM l k) := by
  have h1 : ∀ (l : List (Ent κ)) (j : Nat), (l.map (·.key)).Nodup → l[j]? = some e → l.eraseIdx j = delM l k := by
    intro l
    induction l with
    | nil => intro j _ h; simp at h
    | cons x l ih =>
      intro j hn hj
      simp only [List.map_cons, List.nodup_cons] at hn
      cases j with
      | zero =>
        simp only [List.getElem?_cons_zero, Option.some.injEq] at hj
        subst hj
        rw [List.eraseIdx_zero]
        unfold delM
        rw [List.filter_cons, if_neg (by simp [he])]
        refine (List.filter_eq_self.2 fun y hy => ?_).symm
        have : y.key ≠ k := fun h => hn.1 (List.mem_map.2 ⟨y, hy, by rw [h, he]⟩)
        simpa using this
      | succ j =>
        rw [List.getElem?_cons_succ] at hj
        rw [List.eraseIdx_cons_succ, ih j hn.2 hj]
        unfold delM
        rw [List.filter_cons, if_pos]
        have : x.key ≠ k := fun h => hn.1 (List.mem_map.2 ⟨e, List.mem_of_getElem? hj, by rw [h, he]⟩)
        simpa using this
  rw [← h1 l j hn hj]
  unfold entsA
  have hlt : j < l.length := (List.getElem?_eq_some_iff.1 hj).1
  have hm : ∀ (l : List (Ent κ)) (j : Nat), (l.map (ent kf)).eraseIdx j = (l.eraseIdx j).map (ent kf) := by
    intro l
    induction l with
    | nil => intro j; simp
    | cons x l ih => intro j; cases j <;> simp [ih]
  simp [Array.eraseIdxIfInBounds, hlt, List.eraseIdx_toArray, hm]
theorem delM_none (l : List (Ent κ)) (k : κ) (h : k ∉ l.map (·.key)) : delM l k = l := by
  unfold delM
  refine List.filter_eq_self.2 fun y hy => ?_
  have : y.key ≠ k := fun e => h (List.mem_map.2 ⟨y, hy, e⟩)
  simpa using this
theorem delete_run {ta : TypeId} (K : Keyed P kt kf OK) (ht : P.underlying t = some (.map kt et)) (h : MapH kf H b l clock) (k : κ) (hk : OK H k) (hl : ∀ e ∈ l, OK H e.key) :
    RunS P (sDelete #[t, ta] #[.map (some b), kf k]) H (fun v H' => v = .tuple #[] ∧ H' = H.setIfInBounds b (.map (entsA kf (delM l k)) clock)) := by
  intro w hw
  subst hw
  have hf := K.find k (entsA kf l).toList (l.map (·.key)) w (ents_keys l) hk (fun x hx => by
    obtain ⟨e, he, rfl⟩ := List.mem_map.1 hx
    exact hl e he)
  have e1 : (entsA kf l).toList = l.map (ent kf) := by simp [entsA]
  rw [e1] at hf
  unfold sDelete Builtin.delete_
  rcases findI_ents (kf := kf) k l 0 with ⟨h1, h2, h3⟩ | ⟨j, e, h1, h2, h3, h4⟩
  · rw [h1] at hf
    refine ⟨.tuple #[], { w with heap := w.heap.setIfInBounds b (.map (entsA kf l) clock) }, ?_, ⟨rfl, rfl, rfl, trivial⟩, rfl, by rw [delM_none l k h2]⟩
    simp [run_underlying ht, MapKept.run_getObj_map h.hb, K.check, e1, hf, MapKept.run_setObj_map _ h.hb]
  · rw [h1, Nat.zero_add] at hf
    refine ⟨.tuple #[], { w with heap := w.heap.setIfInBounds b (.map ((entsA kf l).eraseIdxIfInBounds j) clock) }, ?_, ⟨rfl, rfl, rfl, trivial⟩, rfl, by rw [delete_ents l k h.nk h2 h3]⟩
    simp [run_underlying ht, MapKept.run_getObj_map h.hb, K.check, e1, hf, MapKept.run_setObj_map _ h.hb]
theorem MapH.del (h : MapH kf H b l clock) (k : κ) : MapH kf (H.setIfInBounds b (.map (entsA kf (delM l k)) clock)) b (delM l k) clock := by
  refine ⟨by simp [h.lt], fun e he => h.old e (List.mem_filter.1 he).1, ?_, ?_⟩
  · exact List.Nodup.sublist (List.Sublist.map _ List.filter_sublist) h.nb
  · exact List.Nodup.sublist (List.Sublist.map _ List.filter_sublist) h.nk
/-- What the maps read, behind. -/
theorem getM_set (l : List (Ent κ)) (c : Nat) (k n : κ) (v : Value) : getM (setM l c k v) n = if n = k then some v else getM l n := by
  unfold getM setM
  by_cases hm : k ∈ l.map (·.key)
  · rw [if_pos hm]
    induction l with
    | nil => simp at hm
    | cons x l ih =>
      rw [List.map_cons, List.find?_cons, List.find?_cons]
      by_cases hx : x.key = k
      · simp only [hx, if_true]
        by_cases hn : n = k
        · subst hn; simp
        · have hkn : ¬ k = n := fun e => hn e.symm
          simp only [hkn, decide_false, if_neg hn]
          by_cases hm2 : k ∈ l.map (·.key)
          · have := ih hm2; rw [if_neg hn] at this; exact this
          · have e : (l.map fun e => if e.key = k then { e with val := v } else e) = l := by
              conv => rhs; rw [← List.map_id l]
              apply List.map_congr_left
              intro y hy
              have : y.key ≠ k := fun e => hm2 (List.mem_map.2 ⟨y, hy, e⟩)
              simp [this]
            rw [e]
      · have hm2 : k ∈ l.map (·.key) := by
          rcases List.mem_cons.1 hm with e | e
          · exact absurd e.symm hx
          · exact e
        simp only [hx, if_false]
        by_cases hn : x.key = n
        · simp only [hn, decide_true]
          have : n ≠ k := fun e => hx (hn.trans e)
          simp [this]
        · simp only [hn, decide_false]
          exact ih hm2
  · rw [if_neg hm, List.find?_append]
    by_cases hn : n = k
    · subst hn
      have : l.find? (fun e => decide (e.key = n)) = none := by
        rw [List.find?_eq_none]
        intro y hy
        have : y.key ≠ n := fun e => hm (List.mem_map.2 ⟨y, hy, e⟩)
        simpa using this
      simp [this]
    · have hkn : ¬ k = n := fun e => hn e.symm
      simp [hkn, hn]
theorem keys_set (l : List (Ent κ)) (c : Nat) (k : κ) (v : Value) : (setM l c k v).map (·.key) = if k ∈ l.map (·.key) then l.map (·.key) else l.map (·.key) ++ [k] := by
  unfold setM
  split
  · rw [List.map_map]; apply List.map_congr_left; intro x _; simp only [Function.comp]; split <;> rfl
  · simp
theorem getM_mem {n : κ} {v : Value} (hn : (l.map (·.key)).Nodup) : getM l n = some v ↔ ∃ e ∈ l, e.key = n ∧ e.val = v := by
  unfold getM
  rw [Option.map_eq_some_iff]
  constructor
  · rintro ⟨e, he, rfl⟩
    exact ⟨e, List.mem_of_find?_eq_some he, by simpa using List.find?_some he, rfl⟩
  · rintro ⟨e, he, hk, rfl⟩
    refine ⟨e, ?_, rfl⟩
    cases hf : l.find? fun e => decide (e.key = n) with
    | none => rw [List.find?_eq_none] at hf; exact absurd hk (by simpa using hf e he)
    | some x =>
      have hx : x.key = n := by simpa using List.find?_some hf
      have hxm := List.mem_of_find?_eq_some hf
      obtain ⟨i, hi, rfl⟩ := List.getElem_of_mem he
      obtain ⟨j, hj, rfl⟩ := List.getElem_of_mem hxm
      have : i = j := nodup_inj hn (i := i) (j := j) (a := n) (by simp [hi, hk]) (by simp [hj, hx])
      subst this; rfl
theorem getM_none {n : κ} : getM l n = none ↔ n ∉ l.map (·.key) := by
  unfold getM
  rw [Option.map_eq_none_iff, List.find?_eq_none]
  simp only [List.mem_map, not_exists, not_and, decide_eq_true_eq]
/-! ### Ranging -/
def unseen (l : List (Ent κ)) (seen : Array Nat) : List (Ent κ) := l.filter fun e => !seen.contains e.born
theorem unseen_start (l : List (Ent κ)) : unseen l #[] = l := List.filter_eq_self.2 fun _ _ => by simp
theorem mem_unseen {seen : Array Nat} {e : Ent κ} : e ∈ unseen l seen ↔ e ∈ l ∧ seen.contains e.born = false := by
  unfold unseen; rw [List.mem_filter]; simp
theorem unseen_push (l : List (Ent κ)) (hn : (l.map (·.born)).Nodup) (seen : Array Nat) {e : Ent κ} (he : e ∈ unseen l seen) : (unseen l seen).Perm (e :: unseen l (seen.push e.born)) := by
  induction l with
  | nil => simp [unseen] at he
  | cons x l ih =>
    simp only [List.map_cons, List.nodup_cons] at hn
    have hc : ∀ y : Nat, (seen.push e.born).contains y = (seen.contains y || y == e.born) := fun y => contains_push seen e.born y
    by_cases hx : x = e
    · subst hx
      have h1 := (mem_unseen.1 he).2
      have : unseen l (seen.push x.born) = unseen l seen := by
        unfold unseen
        refine List.filter_congr fun y hy => ?_
        have : (y.born == x.born) = false := by
          rw [beq_eq_false_iff_ne]; exact fun e => hn.1 (List.mem_map.2 ⟨y, hy, e⟩)
        rw [hc, this, Bool.or_false]
      unfold unseen at this ⊢
      rw [List.filter_cons, List.filter_cons, if_pos (by rw [h1]; rfl), if_neg (by rw [hc]; simp), this]
    · have he2 : e ∈ unseen l seen := by
        obtain ⟨h1, h2⟩ := mem_unseen.1 he
        rcases List.mem_cons.1 h1 with h | h
        · exact absurd h.symm hx
        · exact mem_unseen.2 ⟨h, h2⟩
      have hb : (x.born == e.born) = false := by
        rw [beq_eq_false_iff_ne]; exact fun h => hn.1 (List.mem_map.2 ⟨e, (mem_unseen.1 he2).1, h.symm⟩)
      have ih := ih hn.2 he2
      unfold unseen at ih ⊢
      rw [List.filter_cons, List.filter_cons, hc, hb, Bool.or_false]
      split
      · exact (List.Perm.cons x ih).trans (List.Perm.swap e x _)
      · exact ih
/-- The block r holds a walk over b's map, that has handed out these stamps. -/
def IterH (H : Heap) (r b : Nat) (seen : Array Nat) (clock : Nat) : Prop := H[r]? = some (.mapIter (some b) clock seen clock)
theorem range_run (ht : P.underlying t = some (.map kt et)) (h : MapH kf H b l clock) : RunS P (sRange t (.map (some b))) H (fun v H' => v = ptrOf H.size ∧ H' = H.push (.mapIter (some b) clock #[] clock)) := by
  intro w hw
  subst hw
  exact ⟨_, _, run_range_map w t kt et b _ clock ht h.hb, ⟨rfl, rfl, rfl, trivial⟩, rfl, rfl⟩
theorem next_run {r : Nat} {seen : Array Nat} (h : MapH kf H b l clock) (hi : IterH H r b seen clock) :
    RunS P (sNext (ptrOf r) false) H (fun v H' => (v = .tuple #[.bool false] ∧ H = H' ∧ unseen l seen = []) ∨ ∃ e ∈ unseen l seen, v = .tuple #[.bool true, kf e.key, e.val] ∧ H' = H.setIfInBounds r (.mapIter (some b) clock (seen.push e.born) clock)) := by
  intro w hw
  subst hw
  have hg : ∀ w' : World, w'.heap = w.heap → (getObj r).run P w' = .ok (.mapIter (some b) clock seen clock) w' := fun w' e => by
    simp [getObj, Sem.run, e, show w.heap[r]? = _ from hi]
  have hold : ∀ x ∈ (entsA kf l).toList, x.born < clock := fun x hx => by
    simp only [entsA, List.mem_map] at hx
    obtain ⟨e, he, rfl⟩ := hx
    exact h.old e he
  have ht := next_test_false seen (entsA kf l) clock clock hold (Nat.le_refl _)
  have hmem : ∀ x ∈ (Array.filter (fun e => !seen.contains e.born) (entsA kf l)).toList, x.born < clock := fun x hx => hold x (by simp at hx ⊢; exact hx.1)
  have hL : (Array.filter (fun e => !seen.contains e.born) (entsA kf l)) = ((unseen l seen).map (ent kf)).toArray := by
    unfold unseen entsA
    rw [List.filter_toArray, List.filter_map]
    rfl
  have hlt : r < w.heap.size := (Array.getElem?_eq_some_iff.1 hi).1
  have hi' : w.heap[r]? = some (.mapIter (some b) clock seen clock) := hi
  have hgo : ∀ w' : World, w'.heap = w.heap → (choose (Question.mapNext (((Array.filter (fun e => !seen.contains e.born) (entsA kf l)).map some).size))).run P w = (choose (Question.mapNext (((Array.filter (fun e => !seen.contains e.born) (entsA kf l)).map some).size))).run P w := fun _ _ => rfl
  simp only [sNext, Instr.next, ptrOf, getObj, Sem.run_bind, Sem.run, hi', h.hb, Result.andThen, ht, Bool.false_eq_true, if_false]
  rw [hL] at hmem ⊢
  generalize hu : unseen l seen = U at hmem ⊢
  have e1 : ((U.map (ent kf)).toArray).filter (fun x => decide (x.born < clock)) = (U.map (ent kf)).toArray := Array.filter_eq_self.2 (fun x hx => by simpa using hmem x (by simpa using hx))
  have e2 : ((U.map (ent kf)).toArray).filter (fun x => decide (x.born ≥ clock)) = #[] := by
    rw [Array.filter_eq_empty_iff]
    intro x hx
    have := hmem x (by simpa using hx)
    simp
    omega
  simp only [e1, e2, Array.append_empty]
  cases U with
  | nil =>
    refine ⟨.tuple #[.bool false], w, ?_, Same.refl _, .inl ⟨rfl, rfl, rfl⟩⟩
    simp [choose, Sem.run, Question.forced]
  | cons x U =>
    have hne : ((List.map (ent kf) (x :: U)).toArray).isEmpty = false := by simp [Array.isEmpty]
    simp only [hne, Bool.false_eq_true, if_false, Array.empty_append, Array.size_map]
    obtain ⟨j, w1, hj, hh, hs, hrun⟩ : ∃ (j : Nat) (w1 : World), j < (x :: U).length ∧ w1.heap = w.heap ∧ Same w w1 ∧ (choose (Question.mapNext (List.map (ent kf) (x :: U)).toArray.size)).run P w = .ok j w1 := by
      by_cases hf : (x :: U).length ≤ 1
      · exact ⟨0, w, by simp, rfl, Same.refl _, by simp only [List.length_cons] at hf; simp [choose, Sem.run, Question.forced, show U.length = 0 by omega]⟩
      · exact ⟨_, w.drew, Nat.mod_lt _ (show 0 < (x :: U).length by simp), rfl, ⟨rfl, rfl, rfl, trivial⟩, by
          have hne1 : ¬ ((List.map (ent kf) (x :: U)).toArray.size ≤ 1) := by simpa using hf
          have hsz : (List.map (ent kf) (x :: U)).toArray.size = (x :: U).length := by simp
          simp only [choose, Sem.run, Question.forced, decide_eq_true_eq, hsz, hf, if_false, Question.cut]
          rfl⟩
    have hset : (setObj r (.mapIter (some b) clock (seen.push ((x :: U)[j]).born) clock)).run P w1 = .ok () { w1 with heap := w.heap.setIfInBounds r (.mapIter (some b) clock (seen.push ((x :: U)[j]).born) clock) } := by
      simp only [setObj, Sem.run, hh, hi']
    refine ⟨.tuple #[.bool true, kf ((x :: U)[j]).key, ((x :: U)[j]).val], { w1 with heap := w.heap.setIfInBounds r (.mapIter (some b) clock (seen.push ((x :: U)[j]).born) clock) }, ?_, hs.trans ⟨rfl, rfl, rfl, trivial⟩, .inr ⟨(x :: U)[j], List.getElem_mem hj, rfl, rfl⟩⟩
    have hj' : j < (List.map (ent kf) (x :: U)).toArray.size := by simpa using hj
    simp only [hrun, Array.getElem?_map, Array.getElem?_eq_getElem hj', Option.map_some, Sem.run_bind, Result.andThen]
    have hel : (List.map (ent kf) (x :: U)).toArray[j] = ent kf ((x :: U)[j]) := by rw [List.getElem_toArray, List.getElem_map]
    rw [hel]
    simp only [show (ent kf ((x :: U)[j])).born = ((x :: U)[j]).born from rfl, hset]
    rfl
theorem entry_run {r : Nat} {seen : Array Nat} {e : Ent κ} (h : MapH kf H b l clock) (hi : IterH H r b (seen.push e.born) clock) (he : e ∈ l) :
    RunS P (Instr.entry (ptrOf r)) H (fun v H' => v = .tuple #[kf e.key, e.val] ∧ H = H') := by
  intro w hw
  subst hw
  have hn : ((entsA kf l).toList.map (·.born)).Nodup := by
    have : (entsA kf l).toList.map (·.born) = l.map (·.born) := by simp [entsA, ent, Function.comp_def]
    rw [this]; exact h.nb
  have hf : (entsA kf l).find? (·.born == e.born) = some (ent kf e) := by
    rw [← Array.find?_toList]
    exact find_born (ent kf e) _ hn (by simp only [entsA]; exact List.mem_map.2 ⟨e, he, rfl⟩)
  refine ⟨.tuple #[kf e.key, e.val], w, ?_, Same.refl _, rfl, rfl⟩
  simp only [Instr.entry, ptrOf, getObj, Sem.run_bind, Sem.run, show w.heap[r]? = _ from hi, h.hb, Result.andThen, Array.back?_push, bne_self_eq_false, Bool.false_eq_true, if_false, hf]
  rfl
end
end Go.V
