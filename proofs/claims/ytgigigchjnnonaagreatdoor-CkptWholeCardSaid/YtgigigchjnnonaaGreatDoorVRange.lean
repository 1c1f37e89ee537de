/- Ranges over functions: a reckoning that knows yield, rounds and marks. -/
import Derived.RangeFuncIn
import Derived.RangeFuncRecord
import Derived.RangeFuncLeaves
import Derived.RangeFuncCalls
import Derived.TacticsIn
import Derived.Test.YtgigigchjnnonaaGreatDoorVBase
set_option linter.unusedSimpArgs false
set_option linter.unusedVariables false
set_option maxRecDepth 20000
namespace Go.V
open Go
/-! ### The wide fence, in a round or not -/
def fen : Option Nat → Fence
  | none => Fence.wide
  | some l => Fence.wide.inRound l
theorem fen_fn (ro : Option Nat) (f : FuncId) : (fen ro).fn f := by cases ro <;> trivial
theorem fen_depth (ro : Option Nat) : (fen ro).depth.isSome = true → False := by cases ro <;> (intro h; cases h)
theorem fen_calls {ro : Option Nat} {n : Nat} {P : Program} {f : FuncId} {args : Array Value} {w : World} {R : Ending → World → Prop} (h : Calls P f args w R) : CallsIn (fen ro) n P f args w R := by
  cases ro with
  | none => exact callsIn_wide.2 h
  | some l => exact CallsIn.inRound l (callsIn_wide.2 h)
theorem fen_rounds {ro : Option Nat} {n l : Nat} {P : Program} {f : FuncId} {tmps : Array Value} {assign body : Code} {w : World} {R : Ending → World → Prop} (h : RoundIn Fence.wide 0 P l f tmps assign body w R) : RoundIn (fen ro) n P l f tmps assign body w R := by
  refine ⟨fen_fn _ _, fun c cs _ => ?_⟩
  have := h.2 c cs (room_wide _)
  cases ro <;> exact this
def hset (H : Heap) (b : Nat) (o : Obj) : Heap := H.setIfInBounds b o
theorem hset_size (H : Heap) (b : Nat) (o : Obj) : (hset H b o).size = H.size := by unfold hset; simp
theorem hset_same {H : Heap} {b : Nat} {o o' : Obj} (h : H[b]? = some o') : (hset H b o)[b]? = some o := by
  have := (Array.getElem?_eq_some_iff.1 h).1
  unfold hset; simp [this]
theorem hset_other {H : Heap} {b k : Nat} {o : Obj} (h : k ≠ b) : (hset H b o)[k]? = H[k]? := by
  unfold hset; rw [Array.getElem?_setIfInBounds, if_neg (Ne.symm h)]
theorem putObj_heap (w : World) (b : Nat) (o : Obj) : (w.putObj b o).heap = hset w.heap b o := rfl
theorem same_put (w : World) (b : Nat) (o : Obj) : Same w (w.putObj b o) := ⟨rfl, rfl, rfl, trivial⟩
theorem same_alloc (w : World) (o : Obj) : Same w (w.alloc o) := ⟨rfl, rfl, rfl, trivial⟩
/-! ### Calls of yield -/
def YieldF (P : Program) (l : Nat) (args : Array Value) (H : Heap) (K : Value → Heap → Prop) : Prop :=
  ∀ w : World, w.heap = H → ∃ fn tmps assign body, (Instr.yield l args).run P w = .ok (.round l fn tmps assign body) w ∧
    RoundIn Fence.wide 0 P l fn tmps assign body w (fun e W' => ∃ v, e = .returned v ∧ Same w W' ∧ K v W'.heap)
def callY (P : Program) (f : Value) (args : Array Value) (H : Heap) (K : Value → Heap → Prop) : Prop :=
  match f with
  | .func (.func g) first captured => okCall P g = true ∧ Fun P g (first ++ args ++ captured) H K
  | .func (.yield l) first captured => YieldF P l (first ++ args) H K
  | _ => False
def OpSY (P : Program) (s : Sem Next) (H : Heap) (K : Value → Heap → Prop) : Prop :=
  ∀ w : World, w.heap = H → match s.run P w with
    | .ok (.value v) w' => Same w w' ∧ K v w'.heap
    | .ok .skip w' => Same w w' ∧ K undef w'.heap
    | .ok (.enter f args) w' => Same w w' ∧ Fun P f args w'.heap K
    | .ok (.round l fn tmps assign body) w' => Same w w' ∧ RoundIn Fence.wide 0 P l fn tmps assign body w' (fun e W' => ∃ v, e = .returned v ∧ Same w' W' ∧ K v W'.heap)
    | _ => False
theorem OpS.y {P : Program} {s : Sem Next} {H : Heap} {K : Value → Heap → Prop} (h : OpS P s H K) : OpSY P s H K := by
  intro w hw
  have := h w hw
  generalize s.run P w = r at *
  cases r with
  | ok nx w' => cases nx <;> simp only at this ⊢ <;> exact this
  | halt x w' => exact this
theorem callY_run {P : Program} {f : Value} {args : Array Value} {H : Heap} {K : Value → Heap → Prop} (h : callY P f args H K) :
    OpSY P (do let d ← Deferred.ofValue f args; invoke d.target d.args) H K := by
  unfold callY at h
  split at h
  · exact (callV_run (f := .func (.func _) _ _) h).y
  · rename_i l first captured
    intro w hw
    obtain ⟨fn, tmps, assign, body, hy, hR⟩ := h w hw
    simp only [Deferred.ofValue, invoke, Sem.run_bind, Sem.run_pure, Result.andThen_ok]
    rw [hy]
    exact ⟨Same.refl _, hR⟩
  · exact h.elim
def opVY (P : Program) (T : Tys) (o : Op) (ty : TypeId) (ρ : Env) (H : Heap) (K : Value → Heap → Prop) : Prop :=
  match o with
  | .call c => (match c.callee with
    | .value f => callY P (ρ.ev f) (c.args.map ρ.ev) H K
    | _ => opV P T (.call c) ty ρ H K)
  | .defer _ => False
  | op => opV P T op ty ρ H K
theorem opVY_sound {P : Program} {T : Tys} (hT : T.Ok P) {o : Oper} {ρ : Env} {H : Heap} {K : Value → Heap → Prop} (h : opVY P T o.op o.type ρ H K) : OpSY P (execOp ρ.ev o) H K ∧ ∀ c, o.op ≠ .defer c := by
  obtain ⟨d, op, ty, pos, af, gu⟩ := o
  simp only at h
  unfold opVY at h
  split at h
  · rename_i c
    refine ⟨?_, fun _ => by simp⟩
    split at h
    · rename_i f hf
      have := callY_run h
      simp only [execOp, resolve, hf]
      exact this
    · exact (opV_sound hT (o := ⟨d, .call c, ty, pos, af, gu⟩) h).y
  · exact h.elim
  · rename_i hnc hnd
    exact ⟨(opV_sound hT (o := ⟨d, op, ty, pos, af, gu⟩) h).y, fun c e => hnd c e⟩
/-! ### Temporaries, and deferred marks -/
theorem HasD.has {n : Nat} {ds : List Deferred} {a : Act} {ρ : Env} (h : HasD n ds a ρ) : Has n { a with defers := [] } ρ := ⟨rfl, h.size, h.get⟩
def mark (D : Nat) : Deferred := { target := .collected D, args := #[] }
theorem OpSY.wpIn {P : Program} {n m : Nat} {ro : Option Nat} {ds : List Deferred} {o : Oper} {a : Act} {ρ : Env} {w : World} {K : Value → Heap → Prop} {next : Act → World → Prop} {Q : Exit → Act → World → Prop} (hh : HasD n ds a ρ)
    (h : OpSY P (execOp ρ.ev o) w.heap K) (hnd : ∀ c, o.op ≠ .defer c) (hk : ∀ v w', Same w w' → K v w'.heap → next (a.put o.dst v) w') : o.wpIn (fen ro) m P a w next Q := by
  refine ⟨fun f _ => fen_fn _ _, ?_⟩
  rw [Oper.semAt_eq _ _ _ hnd, hh.eval]
  have := h w rfl
  generalize (execOp ρ.ev o).run P w = r at *
  cases r with
  | ok nx w' =>
    cases nx <;> simp only at this
    case value v => rw [Oper.uponIn_value]; exact hk _ _ this.1 this.2
    case skip => rw [Oper.uponIn_skip]; exact hk _ _ this.1 this.2
    case enter f args =>
      rw [Oper.uponIn_enter]
      refine ⟨fun h => (fen_depth _ h).elim, fen_calls ((this.2 w' rfl).mono ?_)⟩
      rintro e w'' ⟨v, rfl, hs, hkv⟩
      exact hk _ _ (this.1.trans hs) hkv
    case round l fn tmps assign body =>
      rw [Oper.uponIn_round]
      refine ⟨fun h => (fen_depth _ h).elim, fen_rounds (this.2.mono ?_)⟩
      rintro e w'' ⟨v, rfl, hs, hkv⟩
      exact hk _ _ (this.1.trans hs) hkv
  | halt x w' => exact this.elim
def opsVY (P : Program) (T : Tys) : List O → Env → Heap → (Env → Heap → Prop) → Prop
  | [], ρ, H, K => K ρ H
  | o :: r, ρ, H, K => match o.guard with
    | none => opVY P T o.op o.type ρ H (fun v H' => opsVY P T r (ρ.put o.dst v) H' K)
    | some (d, want) => guardV (ρ d) want (opVY P T o.op o.type ρ H (fun v H' => opsVY P T r (ρ.put o.dst v) H' K)) (opsVY P T r (ρ.put o.dst undef) H K)
section sound
variable {P : Program} {T : Tys} {n : Nat}
theorem opsVY_sound (hT : T.Ok P) {m : Nat} {ro : Option Nat} {ds : List Deferred} {ops : Array Oper} {Q : Exit → Act → World → Prop} : ∀ (l : List Oper) (l' : List O) (a : Act) (ρ : Env) (w : World) (K : Env → Heap → Prop),
    l.mapM (compO n ops) = some l' → HasD n ds a ρ → opsVY P T l' ρ w.heap K → (∀ a' ρ' w', HasD n ds a' ρ' → Same w w' → K ρ' w'.heap → Q .normal a' w') → wpListIn (fen ro) m P ops Q l a w
  | [], l', a, ρ, w, K, hl, hh, h, hk => by
    simp at hl
    subst hl
    exact hk a ρ w hh (Same.refl _) h
  | o :: l, l', a, ρ, w, K, hl, hh, h, hk => by
    simp only [List.mapM_cons, Option.bind_eq_bind, Option.bind_eq_some_iff, Option.pure_def, Option.some.injEq] at hl
    obtain ⟨o', ho, r', hr, rfl⟩ := hl
    obtain ⟨hd, e1, e2, e3, _⟩ := compO_spec ho
    have run : opVY P T o'.op o'.type ρ w.heap (fun v H' => opsVY P T r' (ρ.put o'.dst v) H' K) → o.wpIn (fen ro) m P a w (wpListIn (fen ro) m P ops Q l) Q := by
      intro h
      rw [e1, e2, e3] at h
      obtain ⟨h1, h2⟩ := opVY_sound hT h
      refine OpSY.wpIn hh h1 h2 fun v w' hs hv => ?_
      exact opsVY_sound hT l r' _ _ _ K hr (hh.put _ _ hd) hv fun a' ρ' w'' h1 h2 h3 => hk a' ρ' w'' h1 (hs.trans h2) h3
    have skp : opsVY P T r' (ρ.put o'.dst undef) w.heap K → wpListIn (fen ro) m P ops Q l (a.put o.dst undef) w := by
      intro h
      rw [e1] at h
      exact opsVY_sound hT l r' _ _ _ K hr (hh.put _ _ hd) h hk
    unfold opsVY at h
    unfold wpListIn
    have hw0 := wanted_of ho hh.has
    have et : ({ a with defers := [] } : Act).tmps = a.tmps := rfl
    rw [et] at hw0
    rcases hw0 with ⟨hg, hw⟩ | ⟨d, want, hg, hw⟩
    · rw [if_pos hw]
      rw [hg] at h
      exact run h
    · rw [hg] at h
      rcases guardV_elim h with ⟨hv, hA⟩ | ⟨hv, hB⟩
      · rcases hw with ⟨hw, _⟩ | ⟨_, hne⟩
        · rw [if_pos hw]; exact run hA
        · exact absurd hv hne
      · rcases hw with ⟨_, he⟩ | ⟨hw, _⟩
        · exact absurd he hv
        · rw [if_neg (by simp [hw])]; exact ⟨fun f _ => fen_fn _ _, skp hB⟩
/-! ### Commands -/
abbrev PostR := List Nat → Ex → Env → Heap → Prop
def PostR.seq (next : List Nat → Env → Heap → Prop) (Q : PostR) : PostR
  | Ds, .norm, ρ, H => next Ds ρ H
  | Ds, x, ρ, H => Q Ds x ρ H
def PostR.block (id : Nat) (Q : PostR) : PostR
  | Ds, .exit j, ρ, H => if j = id then Q Ds .norm ρ H else Q Ds (.exit j) ρ H
  | Ds, x, ρ, H => Q Ds x ρ H
def postR (n : Nat) (w : World) (Q : PostR) : Exit → Act → World → Prop := fun e a' w' => ∃ x ρ' Ds', e = Ex.to x ∧ HasD n (Ds'.map mark) a' ρ' ∧ Same w w' ∧ Q Ds' x ρ' w'.heap
def OtherR (P : Program) (n : Nat) (ro : Option Nat) (c : Code) (Ds : List Nat) (ρ : Env) (H : Heap) (Q : PostR) : Prop :=
  ∀ (m : Nat) (a : Act) (w : World), HasD n (Ds.map mark) a ρ → w.heap = H → c.wpIn (fen ro) m P (postR n w Q) a w
def LoopR (P : Program) (n : Nat) (ro : Option Nat) (m : Cmd) (Ds : List Nat) (ρ : Env) (H : Heap) (Q : PostR) : Prop := ∀ c, comp n c = m → OtherR P n ro (.loop c) Ds ρ H Q
def RangeR (P : Program) (n : Nat) (ro : Option Nat) (g : Operand) (ps : Array Tmp) (a b : Cmd) (Ds : List Nat) (ρ : Env) (H : Heap) (Q : PostR) : Prop := ∀ a' b', comp n a' = a → comp n b' = b → OtherR P n ro (.rangeFunc g ps a' b') Ds ρ H Q
/-- A region that draws its order. -/
def drawQ (P : Program) (T : Tys) : Cmd → Env → Heap → (Env → Heap → Prop) → Prop
  | .quiet l, ρ, H, K => opsQ P T l ρ H (fun ρ' => K ρ' H)
  | .still k l, ρ, H, K => opsR T (l.take k) ρ H (fun ρ' => opsV P T (l.drop k) ρ' H K)
  | .draw l, ρ, H, K => drawsV P T H l ρ H K
  | .drawn l, ρ, H, K => DrawnV P T l ρ H K
  | _, _, _, _ => False
theorem drawA_is {n id : Nat} {ops : Array Oper} {m : Cmd} (h : drawA n id ops = m) : (∃ l, m = .draw l) ∨ (∃ l, m = .drawn l) ∨ m = .other (.region id ops true) := by
  unfold drawA at h
  split at h
  · split at h
    · split at h <;> subst h <;> simp
    · subst h; simp
  · subst h; simp
theorem drawnC_is {n id : Nat} {ops : Array Oper} {m : Cmd} (h : drawnC n id ops = m) : (∃ l, m = .draw l) ∨ (∃ l, m = .drawn l) ∨ m = .other (.region id ops true) := by
  unfold drawnC at h
  split at h
  · split at h
    · split at h
      · split at h
        · subst h; simp
        · exact drawA_is h
      · subst h; simp
    · exact drawA_is h
  · exact drawA_is h
theorem drawC_is {n id : Nat} {ops : Array Oper} {m : Cmd} (h : drawC n id ops = m) : (∃ l, m = .draw l) ∨ (∃ l, m = .drawn l) ∨ m = .other (.region id ops true) := by
  unfold drawC at h
  split at h
  · split at h
    · split at h <;> subst h <;> simp
    · exact drawnC_is h
  · exact drawnC_is h
theorem drawQ_sound (hT : T.Ok P) (hm : P.follows .mixedOrders = true) {ds : List Deferred} {id : Nat} {ops : Array Oper} {m : Cmd} (hc : comp n (.region id ops true) = m) {ρ : Env} {K : Env → Heap → Prop} {a : Act} {w : World} (hh : HasD n ds a ρ) (h : drawQ P T m ρ w.heap K) :
    (Code.region id ops true).wp P (fun e a' w' => e = .normal ∧ ∃ ρ', HasD n ds a' ρ' ∧ Same w w' ∧ K ρ' w'.heap) a w := by
  have da : ∀ {m : Cmd}, drawA n id ops = m → drawQ P T m ρ w.heap K → (Code.region id ops true).wp P (fun e a' w' => e = .normal ∧ ∃ ρ', HasD n ds a' ρ' ∧ Same w w' ∧ K ρ' w'.heap) a w := by
    intro m hc h
    unfold drawA at hc
    split at hc
    · rename_i s hs
      split at hc
      · rename_i hok
        simp only [Bool.and_eq_true] at hok
        split at hc
        · rename_i l hl
          subst hc
          refine start_ (S := fun w' => Ext w.heap w'.heap) (ds := lastsA ops) _ hm rfl rfl ⟨Nat.le_refl _, fun _ _ => rfl⟩ fun _ => ?_
          exact draws_sound hT (fun c a w h => by cases h.1) s l _ _ a ρ _ _ hl hok.1 (Nat.le_of_ble_eq_true hok.2) hh ⟨Nat.le_refl _, fun _ _ => rfl⟩ h fun a' ρ' w' h1 h2 h3 => ⟨rfl, ρ', h1, ⟨h2.os, h2.tape, h2.output, trivial⟩, h3⟩
        · subst hc; exact h.elim
      · subst hc; exact h.elim
    · subst hc; exact h.elim
  have dn : ∀ {m : Cmd}, drawnC n id ops = m → drawQ P T m ρ w.heap K → (Code.region id ops true).wp P (fun e a' w' => e = .normal ∧ ∃ ρ', HasD n ds a' ρ' ∧ Same w w' ∧ K ρ' w'.heap) a w := by
    intro m hc h
    unfold drawnC at hc
    split at hc
    · rename_i s hs
      split at hc
      · rename_i hok
        simp only [Bool.and_eq_true] at hok
        split at hc
        · rename_i l hl
          split at hc
          rotate_left
          · exact da hc h
          subst hc
          obtain ⟨N, h⟩ := h
          refine start_ (S := fun w' => Kept N w.heap w'.heap) (ds := []) _ hm rfl rfl ⟨Nat.le_refl _, fun _ _ _ => rfl⟩ fun _ => ?_
          exact drawsN_sound hT (fun c a w h => by cases h.1) s l _ _ a ρ _ _ hl hok.1 (Nat.le_of_ble_eq_true hok.2) hh ⟨Nat.le_refl _, fun _ _ _ => rfl⟩ h fun a' ρ' w' h1 h2 h3 => ⟨rfl, ρ', h1, ⟨h2.os, h2.tape, h2.output, trivial⟩, h3⟩
        · subst hc; exact h.elim
      · exact da hc h
    · exact da hc h
  have dr : ∀ {m : Cmd}, drawC n id ops = m → drawQ P T m ρ w.heap K → (Code.region id ops true).wp P (fun e a' w' => e = .normal ∧ ∃ ρ', HasD n ds a' ρ' ∧ Same w w' ∧ K ρ' w'.heap) a w := by
    intro m hc h
    unfold drawC at hc
    split at hc
    · rename_i s hs
      split at hc
      · rename_i hok
        simp only [Bool.and_eq_true] at hok
        split at hc
        · rename_i l hl
          subst hc
          refine start_ (S := fun w' => Ext w.heap w'.heap) (ds := lasts ops) _ hm rfl rfl ⟨Nat.le_refl _, fun _ _ => rfl⟩ fun _ => ?_
          exact draws_sound hT (fun c a w h => by cases h.1) s l _ _ a ρ _ _ hl hok.1 (Nat.le_of_ble_eq_true hok.2) hh ⟨Nat.le_refl _, fun _ _ => rfl⟩ h fun a' ρ' w' h1 h2 h3 => ⟨rfl, ρ', h1, ⟨h2.os, h2.tape, h2.output, trivial⟩, h3⟩
        · subst hc; exact h.elim
      · exact dn hc h
    · exact dn hc h
  obtain ⟨ol⟩ := ops
  simp only [comp] at hc
  split at hc
  · rename_i l hl
    split at hc
    · rename_i hb
      subst hc
      simp only [Bool.and_eq_true] at hb
      refine wp_region_quiet (C := Like w) hm hb.2 ⟨⟨rfl, rfl, rfl, trivial⟩, rfl⟩ ?_
      exact opsQ_sound hT _ _ a ρ _ hl hh h fun a' ρ' h1 h2 w' hw' => ⟨rfl, ρ', h1, hw'.1, by rw [hw'.2]; exact h2⟩
    · split at hc
      · rename_i k hk
        split at hc
        · rename_i hb
          subst hc
          simp only [Bool.and_eq_true] at hb
          obtain ⟨ht, hd⟩ := mapM_take _ _ _ k hl
          refine wp_region_still_tail k hm hb.2 ?_
          refine opsR_sound (w := { w with drawn := w.drawn + 1 }) hT _ _ a ρ _ ht hh h fun a' ρ' h1 h2 => ?_
          exact opsV_sound hT _ _ a' ρ' _ _ hd h1 h2 fun a'' ρ'' w' h3 h4 h5 => ⟨rfl, ρ'', h3, ⟨h4.os, h4.tape, h4.output, trivial⟩, h5⟩
        · exact dr hc h
      · exact dr hc h
  · subst hc; exact h.elim
def Cmd.vcR (P : Program) (T : Tys) (n : Nat) (ro : Option Nat) : Cmd → List Nat → Env → Heap → PostR → Prop
  | .skip, Ds, ρ, H, Q => Q Ds .norm ρ H
  | .ret, Ds, ρ, H, Q => Q Ds .ret ρ H
  | .exit i, Ds, ρ, H, Q => Q Ds (.exit i) ρ H
  | .goto l, Ds, ρ, H, Q => Q Ds (.goto l) ρ H
  | .label _, Ds, ρ, H, Q => Q Ds .norm ρ H
  | .seq a b, Ds, ρ, H, Q => a.vcR P T n ro Ds ρ H (PostR.seq (fun Ds' ρ' H' => b.vcR P T n ro Ds' ρ' H' Q) Q)
  | .cond c a b, Ds, ρ, H, Q => condV (ρ.ev c) (a.vcR P T n ro Ds ρ H Q) (b.vcR P T n ro Ds ρ H Q)
  | .block i b, Ds, ρ, H, Q => b.vcR P T n ro Ds ρ H (PostR.block i Q)
  | .loop b, Ds, ρ, H, Q => LoopR P n ro b Ds ρ H Q
  | .ops l, Ds, ρ, H, Q => opsVY P T l ρ H (Q Ds .norm)
  | .other c, Ds, ρ, H, Q => OtherR P n ro c Ds ρ H Q
  | .rangeF g ps a b, Ds, ρ, H, Q => RangeR P n ro g ps a b Ds ρ H Q
  | .quiet l, Ds, ρ, H, Q => ro = none ∧ opsQ P T l ρ H (fun ρ' => Q Ds .norm ρ' H)
  | .still k l, Ds, ρ, H, Q => ro = none ∧ opsR T (l.take k) ρ H (fun ρ' => opsV P T (l.drop k) ρ' H (Q Ds .norm))
  | .draw l, Ds, ρ, H, Q => ro = none ∧ drawsV P T H l ρ H (Q Ds .norm)
  | .drawn l, Ds, ρ, H, Q => ro = none ∧ DrawnV P T l ρ H (Q Ds .norm)
  | _, _, _, _, _ => False
theorem vcR_sound (hT : T.Ok P) (hm : P.follows .mixedOrders = true) (ro : Option Nat) : ∀ (c : Code) (m : Cmd), comp n c = m → ∀ (Ds : List Nat) (ρ : Env) (H : Heap) (Q : PostR), m.vcR P T n ro Ds ρ H Q → OtherR P n ro c Ds ρ H Q := by
  intro c
  induction c with
  | skip => intro m hc Ds ρ H Q h k a w hh hw; subst hc; subst hw; exact wpIn_skip ⟨.norm, ρ, Ds, rfl, hh, Same.refl _, h⟩
  | ret => intro m hc Ds ρ H Q h k a w hh hw; subst hc; subst hw; exact wpIn_ret ⟨.ret, ρ, Ds, rfl, hh, Same.refl _, h⟩
  | exit i => intro m hc Ds ρ H Q h k a w hh hw; subst hc; subst hw; exact wpIn_exit ⟨.exit i, ρ, Ds, rfl, hh, Same.refl _, h⟩
  | goto l => intro m hc Ds ρ H Q h k a w hh hw; subst hc; subst hw; exact wpIn_goto ⟨.goto l, ρ, Ds, rfl, hh, Same.refl _, h⟩
  | label l => intro m hc Ds ρ H Q h k a w hh hw; subst hc; subst hw; exact wpIn_label ⟨.norm, ρ, Ds, rfl, hh, Same.refl _, h⟩
  | seq x y ihx ihy =>
    intro m hc Ds ρ H Q h k a w hh hw
    subst hc
    simp only [comp, Cmd.vcR] at h
    refine wpIn_seq (wpIn_mono (ihx _ rfl Ds ρ H _ h k a w hh hw) ?_)
    rintro e a' w' ⟨x, ρ', Ds', rfl, hh', hs, hq⟩
    cases x with
    | norm =>
      refine wpIn_mono (ihy _ rfl Ds' ρ' _ _ hq k a' w' hh' rfl) ?_
      rintro e a'' w'' ⟨x, ρ'', Ds'', rfl, hh'', hs'', hq''⟩
      exact ⟨x, ρ'', Ds'', rfl, hh'', hs.trans hs'', hq''⟩
    | ret => exact ⟨.ret, ρ', Ds', rfl, hh', hs, hq⟩
    | exit i => exact ⟨.exit i, ρ', Ds', rfl, hh', hs, hq⟩
    | goto l => exact ⟨.goto l, ρ', Ds', rfl, hh', hs, hq⟩
  | cond c x y ihx ihy =>
    intro m hc Ds ρ H Q h k a w hh hw
    subst hc
    simp only [comp, Cmd.vcR, condV] at h
    split at h
    · rename_i b hb
      refine wpIn_cond_split (t := b) (by rw [hh.eval]; exact hb) (fun ht => ?_) (fun hf => ?_)
      · exact ihx _ rfl Ds ρ H Q (h.1 ht) k a w hh hw
      · exact ihy _ rfl Ds ρ H Q (h.2 hf) k a w hh hw
    · exact h.elim
  | block i b ih =>
    intro m hc Ds ρ H Q h k a w hh hw
    subst hc
    simp only [comp, Cmd.vcR] at h
    refine wpIn_block (wpIn_mono (ih _ rfl Ds ρ H _ h k a w hh hw) ?_)
    rintro e a' w' ⟨x, ρ', Ds', rfl, hh', hs, hq⟩
    cases x with
    | norm => exact ⟨.norm, ρ', Ds', rfl, hh', hs, hq⟩
    | ret => exact ⟨.ret, ρ', Ds', rfl, hh', hs, hq⟩
    | goto l => exact ⟨.goto l, ρ', Ds', rfl, hh', hs, hq⟩
    | exit j =>
      simp only [PostR.block] at hq
      simp only [Ex.to, Exit.inBlock]
      split
      · rename_i hj; rw [if_pos hj] at hq; exact ⟨.norm, ρ', Ds', rfl, hh', hs, hq⟩
      · rename_i hj; rw [if_neg hj] at hq; exact ⟨.exit j, ρ', Ds', rfl, hh', hs, hq⟩
  | loop b ih => intro m hc Ds ρ H Q h k a w hh hw; subst hc; exact h b rfl k a w hh hw
  | scope b ih => intro m hc Ds ρ H Q h k a w hh hw; subst hc; exact h.elim
  | region id ops d =>
    intro m hc Ds ρ H Q h k a w hh hw
    subst hw
    cases d with
    | false =>
      simp only [comp] at hc
      split at hc
      · rename_i l hl
        subst hc
        exact wpIn_region_list (opsVY_sound hT _ _ a ρ w _ hl hh h fun a' ρ' w' h1 h2 h3 => ⟨.norm, ρ', Ds, rfl, h1, h2, h3⟩)
      · subst hc; exact h k a w hh rfl
    | true =>
      have go : ro = none → drawQ P T m ρ w.heap (Q Ds .norm) → OtherR P n ro (.region id ops true) Ds ρ w.heap Q := by
        rintro rfl hq k a w' hh hw
        rw [← hw] at hq
        refine wpIn_mono (wpIn_wide.2 (drawQ_sound hT hm hc hh hq)) ?_
        rintro e a' w'' ⟨rfl, ρ', h1, h2, h3⟩
        exact ⟨.norm, ρ', Ds, rfl, h1, h2, h3⟩
      cases m with
      | quiet l => exact go h.1 h.2 k a w hh rfl
      | still k' l => exact go h.1 h.2 k a w hh rfl
      | draw l => exact go h.1 h.2 k a w hh rfl
      | drawn l => exact go h.1 h.2 k a w hh rfl
      | _ =>
        obtain ⟨ol⟩ := ops
        simp only [comp] at hc
        repeat' (split at hc)
        all_goals first
          | (cases hc; done)
          | (rcases drawC_is hc with ⟨l, e⟩ | ⟨l, e⟩ | e <;> first | (cases e; done) | (cases e; exact h k a w hh rfl))
          | (cases hc; exact h k a w hh rfl)
  | rangeFunc f ps as b _ _ => intro m hc Ds ρ H Q h k a w hh hw; subst hc; exact h _ _ rfl rfl k a w hh hw
  | refuse w => intro m hc Ds ρ H Q h k a w hh hw; subst hc; exact h k a w hh hw
theorem loopR_rule (hT : T.Ok P) (hm : P.follows .mixedOrders = true) {ro : Option Nat} {m : Cmd} {Ds : List Nat} {ρ : Env} {H : Heap} {Q : PostR} (I : Env → Heap → Prop) (μ : Env → Heap → Nat) (h0 : I ρ H)
    (hr : ∀ ρ H, I ρ H → m.vcR P T n ro Ds ρ H (PostR.seq (fun Ds' ρ' H' => Ds' = Ds ∧ I ρ' H' ∧ μ ρ' H' < μ ρ H) Q)) : LoopR P n ro m Ds ρ H Q := by
  intro c hc k a w hh hw
  subst hw
  refine wpIn_loop (Q := postR n w Q) (fun a' w' => ∃ ρ', HasD n (Ds.map mark) a' ρ' ∧ Same w w' ∧ I ρ' w'.heap) (fun a' w' => μ (fun t => a'.tmps.getD t undef) w'.heap) ⟨ρ, hh, Same.refl _, h0⟩ ?_
  rintro a1 w1 ⟨ρ1, hh1, hs1, hI⟩
  refine wpIn_mono (vcR_sound hT hm ro c m hc Ds ρ1 _ _ (hr ρ1 _ hI) k a1 w1 hh1 rfl) ?_
  rintro e a2 w2 ⟨x, ρ2, Ds2, rfl, hh2, hs2, hq⟩
  cases x with
  | norm =>
    obtain ⟨rfl, hq1, hq2⟩ := hq
    refine ⟨⟨ρ2, hh2, hs1.trans hs2, hq1⟩, ?_⟩
    have e1 : (fun t => a1.tmps.getD t undef) = ρ1 := funext hh1.get
    have e2 : (fun t => a2.tmps.getD t undef) = ρ2 := funext hh2.get
    rw [e1, e2]; exact hq2
  | ret => exact ⟨.ret, ρ2, Ds2, rfl, hh2, hs1.trans hs2, hq⟩
  | exit i => exact ⟨.exit i, ρ2, Ds2, rfl, hh2, hs1.trans hs2, hq⟩
  | goto l => exact ⟨.goto l, ρ2, Ds2, rfl, hh2, hs1.trans hs2, hq⟩
/-! ### A loop over a function -/
def Ex.code : Ex → Code
  | .norm => .skip
  | .ret => .ret
  | .exit i => .exit i
  | .goto l => .goto l
structure RecOf (n : Nat) (ρ : Env) (ps : Array Tmp) (assign body : Code) (r : Loop) : Prop where
  state : r.state = .ready
  pending : r.pending = none
  params : r.params = ps
  assign : r.assign = assign
  body : r.body = body
  has : HasD n [] { tmps := r.tmps, defers := [] } ρ
theorem rangeR {g : Operand} {ps : Array Tmp} {assign body : Code} {ρ : Env} {H : Heap} {Ds : List Nat} {Q : PostR} {gf : Nat} {lb : Array Value} (hg : ρ.ev g = .func (.func gf) #[] lb) (hok : okCall P gf = true)
    (h : ∀ r : Loop, RecOf n ρ ps assign body r → Fun P gf (#[.func (.yield (H.size + 1)) #[] #[]] ++ lb) ((H.push (.deferred (some []))).push (.loop r)) (fun _ H' =>
      (H'[H.size + 1]? = some (.loop r) ∧ Q (H.size :: Ds) .norm ρ (hset H' (H.size + 1) (.loop { r with state := .exhausted }))) ∨
      ∃ x : Ex, x ≠ .norm ∧ H'[H.size + 1]? = some (.loop { r with state := .done, pending := some x.code }) ∧ Q (H.size :: Ds) x ρ (hset H' (H.size + 1) (.loop { r with state := .exhausted, pending := some x.code })))) :
    OtherR P n none (.rangeFunc g ps assign body) Ds ρ H Q := by
  intro m a w hh hw
  subst hw
  have hg' : a.eval g = .func (.func gf) #[] lb := by rw [hh.eval]; exact hg
  refine wpIn_rangeFunc (F := Fence.wide) fun fn hfn => ?_
  obtain ⟨r, hr⟩ : ∃ r : Loop, r = { state := .ready, pending := none, fn, tmps := a.tmps, params := ps, assign, body, defers := w.heap.size } := ⟨_, rfl⟩
  have hrec : RecOf n ρ ps assign body r := by rw [hr]; exact ⟨rfl, rfl, rfl, rfl, rfl, ⟨rfl, hh.size, hh.get⟩⟩
  have hd : a.defers = Ds.map mark := hh.defers
  refine ⟨w.heap.size + 1, [mark w.heap.size], (w.alloc (.deferred (some []))).alloc (.loop r), { target := .fn (.func gf) lb, args := #[.func (.yield (w.heap.size + 1)) #[] #[]] }, (w.alloc (.deferred (some []))).alloc (.loop r), gf,
    #[.func (.yield (w.heap.size + 1)) #[] #[]] ++ lb, (w.alloc (.deferred (some []))).alloc (.loop r), ?_, ?_, ?_, ?_, ?_, ?_⟩
  · rw [hr]; exact run_enterLoop_outer _ _ _ _ _
  · simp only [resolve, hg', rangeCall]
    simp [go_sem, Deferred.ofValue, hg']
  · intro f' _; trivial
  · unfold okCall at hok
    split at hok
    · rename_i fn' hfn'
      simp only [Bool.and_eq_true, bne_iff_ne, ne_eq] at hok
      obtain ⟨bd, hbd⟩ := Option.isSome_iff_exists.1 hok.2
      simp [invoke, callFunc, hfn', hok.1, hbd]
    · cases hok
  · intro h; cases h
  · refine callsIn_wide.2 ((h r hrec _ rfl).mono ?_)
    rintro e W2 ⟨v, rfl, hs, hq⟩
    have hs0 : Same w W2 := ((same_alloc w _).trans (same_alloc _ _)).trans hs
    rcases hq with ⟨hl, hq⟩ | ⟨x, hx, hl, hq⟩
    · have := run_endLoop (P := P) hl (by rw [hrec.state]; simp)
      have h2 : (Instr.endLoop (w.heap.size + 1)).run P W2 = .ok none (W2.putObj (w.heap.size + 1) (.loop { r with state := .exhausted })) := this.trans (by rw [hrec.pending])
      refine ⟨none, _, h2, ?_⟩
      exact ⟨.norm, ρ, w.heap.size :: Ds, rfl, ⟨by simp [hd], hh.size, hh.get⟩, hs0.trans (same_put _ _ _), hq⟩
    · have := run_endLoop (P := P) hl (by simp)
      refine ⟨some x.code, _, this, ?_⟩
      have fin : ∀ e, e = Ex.to x → postR n w Q e { a with defers := [mark w.heap.size] ++ a.defers } (W2.putObj (w.heap.size + 1) (.loop { ({ r with state := .done, pending := some x.code } : Loop) with state := .exhausted })) := fun e he => by
        exact ⟨x, ρ, w.heap.size :: Ds, he, ⟨by simp [hd], hh.size, hh.get⟩, hs0.trans (same_put _ _ _), hq⟩
      cases x with
      | norm => exact absurd rfl hx
      | ret => exact wpIn_ret (fin _ rfl)
      | exit i => exact wpIn_exit (fin _ rfl)
      | goto l => exact wpIn_goto (fin _ rfl)
/-- The temporaries with what yield was handed. -/
def zipL : List (Nat × Value) → Env → Env
  | [], ρ => ρ
  | p :: r, ρ => zipL r (ρ.set p.1 p.2)
theorem zipL_has : ∀ (l : List (Nat × Value)) (tmps : Array Value) (ρ : Env), HasD n [] { tmps, defers := [] } ρ → (∀ p ∈ l, p.1 < n) → HasD n [] { tmps := l.foldl (fun t p => t.setIfInBounds p.1 p.2) tmps, defers := [] } (zipL l ρ)
  | [], tmps, ρ, h, _ => h
  | p :: l, tmps, ρ, h, hl => by
    rw [List.foldl_cons]
    exact zipL_has l _ _ (h.put (some p.1) p.2 fun k e => by cases e; exact hl p List.mem_cons_self) fun q hq => hl q (List.mem_cons_of_mem _ hq)
def roundR (l : Nat) (r : Loop) (K : Value → Heap → Prop) : PostR := fun Ds x ρ'' H'' => H''[l]? = some (.loop { r with state := .busy }) ∧
  match x with
  | .norm => K (.bool true) (hset H'' l (.loop r))
  | x => K (.bool false) (hset H'' l (.loop { r with state := .done, pending := some x.code }))
theorem yieldF_of (hT : T.Ok P) (hm : P.follows .mixedOrders = true) {l : Nat} {r : Loop} {vs : Array Value} {H : Heap} {K : Value → Heap → Prop} {ρ : Env} {ps : Array Tmp} {assign body : Code} (hl : H[l]? = some (.loop r)) (hr : RecOf n ρ ps assign body r) (hsz : vs.size = ps.size) (hps : ∀ p ∈ ps.toList, p < n)
    (ha : (comp n assign).vcR P T n (some l) [] (zipL (ps.zip vs).toList ρ) H (fun Ds e ρ' H' => e = .norm ∧ Ds = [] ∧ H'[l]? = some (.loop r) ∧ (comp n body).vcR P T n (some l) [] ρ' (hset H' l (.loop { r with state := .busy })) (roundR l r K))) : YieldF P l vs H K := by
  intro w hw
  subst hw
  have hy := run_yield (P := P) (args := vs) hl (by rw [hr.params]; exact hsz)
  refine ⟨_, _, _, _, hy, ?_⟩
  rw [hr.assign, hr.body, hr.params]
  have hz : HasD n [] { tmps := (ps.zip vs).foldl (fun t (p, v) => t.setIfInBounds p v) r.tmps, defers := [] } (zipL (ps.zip vs).toList ρ) := by
    have := zipL_has (ps.zip vs).toList r.tmps ρ hr.has fun p hp => by
      rw [Array.toList_zip] at hp
      exact hps p.1 (List.of_mem_zip hp).1
    rw [Array.foldl_toList] at this
    exact this
  refine roundIn_of_wpIn (F := Fence.wide) trivial ?_
  refine wpIn_mono (vcR_sound hT hm (some l) assign _ rfl [] _ _ _ ha 0 _ w hz rfl) ?_
  rintro e a1 w1 ⟨x, ρ1, Ds1, rfl, hh1, hs1, rfl, rfl, hl1, hb⟩
  refine ⟨_, run_beginRound hl1 hr.state, ?_⟩
  refine wpIn_mono (vcR_sound hT hm (some l) body _ rfl [] _ _ _ hb 0 _ (w1.putObj l (.loop { r with state := .busy })) hh1 rfl) ?_
  rintro e a2 w2 ⟨x, ρ2, Ds2, rfl, hh2, hs2, hl2, hk⟩
  have hs3 : Same w w2 := (hs1.trans (same_put _ _ _)).trans hs2
  have er : ({ ({ r with state := .busy } : Loop) with state := .ready, pending := none } : Loop) = r := by
    have h1 := hr.state
    have h2 := hr.pending
    cases r; simp only at h1 h2; subst h1; subst h2; rfl
  cases x with
  | norm =>
    have := run_endRound (P := P) none hl2
    refine ⟨_, _, this, _, rfl, hs3.trans (same_put _ _ _), ?_⟩
    simp only [Option.isNone_none, if_true]
    rw [putObj_heap, er]
    exact hk
  | ret =>
    have := run_endRound (P := P) (some .ret) hl2
    exact ⟨_, _, this, _, rfl, hs3.trans (same_put _ _ _), hk⟩
  | exit i =>
    have := run_endRound (P := P) (some (.exit i)) hl2
    exact ⟨_, _, this, _, rfl, hs3.trans (same_put _ _ _), hk⟩
  | goto t =>
    have := run_endRound (P := P) (some (.goto t)) hl2
    exact ⟨_, _, this, _, rfl, hs3.trans (same_put _ _ _), hk⟩
/-! ### A function that holds a loop over a function, or calls yield -/
def doneR (T : Tys) (rs : List ResultVar) (R : Value → Heap → Prop) : List Nat → Env → Heap → Prop
  | [], ρ, H => resV T rs ρ H (fun vs => R (oneOf vs) H)
  | D :: Ds, ρ, H => H[D]? = some (.deferred (some [])) ∧ doneR T rs R Ds ρ (hset H D (.deferred none))
def finR (T : Tys) (rs : List ResultVar) (R : Value → Heap → Prop) : PostR := fun Ds e ρ H => match e with
  | .norm | .ret => doneR T rs R Ds ρ H
  | _ => False
theorem fnR_of (hT : T.Ok P) (hm : P.follows .mixedOrders = true) {f : FuncId} {fn : Func} {c : Code} {m : Cmd} (hf : P.funcs[f]? = some fn) (hb : fn.body = some c) (hc : comp fn.ntmps c = m)
    {args : List Value} {H : Heap} {R : Value → Heap → Prop} (ha : args.length ≤ fn.ntmps) (h : m.vcR P T fn.ntmps none [] (Env.args args) H (finR T fn.results.toList R)) : Fun P f args.toArray H R := by
  intro w hw
  refine callsIn_wide.1 (callsIn_of_wp_marks (F := Fence.wide) (n := 0) hf hb trivial ?_ rfl)
  refine wpIn_mono (vcR_sound hT hm none c m hc [] _ _ _ h 0 _ w ?_ hw) ?_
  · refine ⟨rfl, by simp; omega, fun t => ?_⟩
    simp only [Env.args, Array.getD_eq_getD_getElem?, List.getD_eq_getElem?_getD]
    by_cases ht : t < args.length
    · simp [Array.getElem?_append, ht]
    · simp only [List.size_toArray, Array.getElem?_append, ht, if_false]
      rw [List.getElem?_eq_none (by omega)]
      simp only [Array.getElem?_replicate]
      split <;> rfl
  · rintro e a w' ⟨x, ρ, Ds, rfl, hh, hs, hq⟩
    have key : ∀ (Ds : List Nat) (w' : World), Same w w' → doneR T fn.results.toList R Ds ρ w'.heap → LeavesInM Fence.wide 0 P fn a.tmps (fun e w'' => ∃ u, e = .returned u ∧ Same w w'' ∧ R u w''.heap) (Ds.map mark) .returning w' := by
      intro Ds
      induction Ds with
      | nil =>
        intro w' hs hq
        obtain ⟨vs, hR, hr⟩ := resV_run hT hh.get _ _ _ hq
        refine ⟨oneOf vs, ?_, _, rfl, hs, hR⟩
        have := hr w' rfl
        rw [results_eq, Sem.run_bind]
        have e1 : (fn.results.mapM (resS a.tmps)).run P w' = .ok vs.toArray w' := by
          rw [Array.mapM_eq_mapM_toList, Sem.run_map, this]
          rfl
        rw [e1]
        simp only [Result.andThen_ok, Sem.run_pure]
        congr 1
        match vs with
        | [] => rfl
        | [v] => rfl
        | v :: u :: r => simp [oneOf]
      | cons D Ds ih =>
        intro w' hs hq
        refine ⟨by simp, .inl ⟨D, _, rfl, run_takeDeferred hq.1, ih _ (hs.trans (same_put _ _ _)) hq.2⟩⟩
    have e9 := hh.defers
    cases x with
    | norm => show LeavesInM _ _ _ _ _ _ a.defers _ _; rw [e9]; exact key Ds w' hs hq
    | ret => show LeavesInM _ _ _ _ _ _ a.defers _ _; rw [e9]; exact key Ds w' hs hq
    | exit i => exact hq.elim
    | goto l => exact hq.elim
end sound
/-! ### The reckoning's rules -/
class KtR where
  out : PostR
@[go_sem] theorem KtR.out_mk (f : PostR) (Ds : List Nat) (e : Ex) (ρ : Env) (H : Heap) : @KtR.out ⟨f⟩ Ds e ρ H = f Ds e ρ H := propext Iff.rfl
def vcRI (P : Program) (T : Tys) (n : Nat) (ro : Option Nat) (m : Cmd) (Ds : List Nat) (ρ : Env) (H : Heap) [Q : KtR] : Prop := m.vcR P T n ro Ds ρ H Q.out
def LoopRI (P : Program) (n : Nat) (ro : Option Nat) (m : Cmd) (Ds : List Nat) (ρ : Env) (H : Heap) [Q : KtR] : Prop := LoopR P n ro m Ds ρ H Q.out
def RangeRI (P : Program) (n : Nat) (ro : Option Nat) (g : Operand) (ps : Array Tmp) (a b : Cmd) (Ds : List Nat) (ρ : Env) (H : Heap) [Q : KtR] : Prop := RangeR P n ro g ps a b Ds ρ H Q.out
def opsYI (P : Program) (T : Tys) (l : List O) (ρ : Env) (H : Heap) [E : KtI] : Prop := opsVY P T l ρ H E.out
def opYI (P : Program) (T : Tys) (op : Op) (ty : TypeId) (ρ : Env) (H : Heap) [C : Kt2] : Prop := opVY P T op ty ρ H C.out
def callYI (P : Program) (f : Value) (args : Array Value) (H : Heap) [C : Kt2] : Prop := callY P f args H C.out
def YieldI (P : Program) (l : Nat) (args : Array Value) (H : Heap) [C : Kt2] : Prop := YieldF P l args H C.out
section rules
variable {P : Program} {T : Tys} {n : Nat} {ro : Option Nat} {Ds : List Nat} {ρ : Env} {H : Heap} {Q : PostR} {E : Env → Heap → Prop} {C : Value → Heap → Prop}
@[go_sem ↓] theorem vcR_skip : @vcRI P T n ro .skip Ds ρ H ⟨Q⟩ = Q Ds .norm ρ H := propext Iff.rfl
@[go_sem ↓] theorem vcR_ret : @vcRI P T n ro .ret Ds ρ H ⟨Q⟩ = Q Ds .ret ρ H := propext Iff.rfl
@[go_sem ↓] theorem vcR_exit {i : Nat} : @vcRI P T n ro (.exit i) Ds ρ H ⟨Q⟩ = Q Ds (.exit i) ρ H := propext Iff.rfl
@[go_sem ↓] theorem vcR_seq {a b : Cmd} : @vcRI P T n ro (.seq a b) Ds ρ H ⟨Q⟩ = @vcRI P T n ro a Ds ρ H ⟨PostR.seq (fun Ds' ρ' H' => @vcRI P T n ro b Ds' ρ' H' ⟨Q⟩) Q⟩ := propext Iff.rfl
@[go_sem ↓] theorem vcR_cond {c : Operand} {a b : Cmd} : @vcRI P T n ro (.cond c a b) Ds ρ H ⟨Q⟩ = @ev1 Value (ρ.ev c) ⟨fun v => condV v (@vcRI P T n ro a Ds ρ H ⟨Q⟩) (@vcRI P T n ro b Ds ρ H ⟨Q⟩)⟩ := propext Iff.rfl
@[go_sem ↓] theorem vcR_block {i : Nat} {b : Cmd} : @vcRI P T n ro (.block i b) Ds ρ H ⟨Q⟩ = @vcRI P T n ro b Ds ρ H ⟨PostR.block i Q⟩ := propext Iff.rfl
@[go_sem ↓] theorem vcR_loop {b : Cmd} : @vcRI P T n ro (.loop b) Ds ρ H ⟨Q⟩ = @LoopRI P n ro b Ds ρ H ⟨Q⟩ := propext Iff.rfl
@[go_sem ↓] theorem vcR_range {g : Operand} {ps : Array Tmp} {a b : Cmd} : @vcRI P T n ro (.rangeF g ps a b) Ds ρ H ⟨Q⟩ = @RangeRI P n ro g ps a b Ds ρ H ⟨Q⟩ := propext Iff.rfl
@[go_sem ↓] theorem vcR_ops {l : List O} : @vcRI P T n ro (.ops l) Ds ρ H ⟨Q⟩ = @opsYI P T l ρ H ⟨fun ρ' H' => Q Ds .norm ρ' H'⟩ := propext Iff.rfl
@[go_sem ↓] theorem vcR_quiet {l : List O} : @vcRI P T n none (.quiet l) Ds ρ H ⟨Q⟩ = @opsIQ P T l ρ H ⟨fun ρ' => Q Ds .norm ρ' H⟩ := propext ⟨fun h => h.2, fun h => ⟨rfl, h⟩⟩
@[go_sem ↓] theorem vcR_still {k : Nat} {l : List O} : @vcRI P T n none (.still k l) Ds ρ H ⟨Q⟩ = @opsIR T (l.take k) ρ H ⟨fun ρ' => @opsI P T (l.drop k) ρ' H ⟨fun x ρ'' H'' => Q Ds x ρ'' H''⟩⟩ := propext ⟨fun h => h.2, fun h => ⟨rfl, h⟩⟩
@[go_sem ↓] theorem vcR_draw {l : Tr} : @vcRI P T n none (.draw l) Ds ρ H ⟨Q⟩ = @drawsI P T H l ρ H ⟨fun x ρ'' H'' => Q Ds x ρ'' H''⟩ := propext ⟨fun h => h.2, fun h => ⟨rfl, h⟩⟩
@[go_sem ↓] theorem vcR_drawn {l : Tr} : @vcRI P T n none (.drawn l) Ds ρ H ⟨Q⟩ = @DrawnI P T l ρ H ⟨fun x ρ'' H'' => Q Ds x ρ'' H''⟩ := propext ⟨fun h => h.2, fun h => ⟨rfl, h⟩⟩
@[go_sem ↓] theorem rseq_norm {nx : List Nat → Env → Heap → Prop} : PostR.seq nx Q Ds .norm ρ H = nx Ds ρ H := propext Iff.rfl
@[go_sem ↓] theorem rseq_ret {nx : List Nat → Env → Heap → Prop} : PostR.seq nx Q Ds .ret ρ H = Q Ds .ret ρ H := propext Iff.rfl
@[go_sem ↓] theorem rseq_exit {nx : List Nat → Env → Heap → Prop} {i : Nat} : PostR.seq nx Q Ds (.exit i) ρ H = Q Ds (.exit i) ρ H := propext Iff.rfl
@[go_sem ↓] theorem rblock_norm {i : Nat} : PostR.block i Q Ds .norm ρ H = Q Ds .norm ρ H := propext Iff.rfl
@[go_sem ↓] theorem rblock_ret {i : Nat} : PostR.block i Q Ds .ret ρ H = Q Ds .ret ρ H := propext Iff.rfl
@[go_sem ↓] theorem rblock_exit_same {i : Nat} : PostR.block i Q Ds (.exit i) ρ H = Q Ds .norm ρ H := if_pos rfl
@[go_sem ↓] theorem rblock_exit {i j : Nat} : PostR.block i Q Ds (.exit j) ρ H = @ev1 Bool (Nat.beq j i) ⟨fun b => condB b (Q Ds .norm ρ H) (Q Ds (.exit j) ρ H)⟩ := by
  show (if j = i then _ else _) = condB (Nat.beq j i) _ _
  by_cases h : j = i
  · subst h; rw [if_pos rfl, show Nat.beq j j = true by simp]; rfl
  · have hb : Nat.beq j i = false := by
      cases hb : Nat.beq j i with
      | false => rfl
      | true => exact absurd (Nat.eq_of_beq_eq_true hb) h
    rw [if_neg h, hb]; rfl
@[go_sem ↓] theorem opsYI_nil : @opsYI P T [] ρ H ⟨E⟩ = E ρ H := propext Iff.rfl
@[go_sem ↓] theorem opsYI_none {op : Op} {ty : TypeId} {r : List O} : @opsYI P T (⟨none, op, ty, none⟩ :: r) ρ H ⟨E⟩ = @opYI P T op ty ρ H ⟨fun _ H' => @opsYI P T r ρ H' ⟨E⟩⟩ := propext Iff.rfl
@[go_sem ↓] theorem opsYI_some {d : Nat} {op : Op} {ty : TypeId} {r : List O} : @opsYI P T (⟨some d, op, ty, none⟩ :: r) ρ H ⟨E⟩ = @opYI P T op ty ρ H ⟨fun v H' => @opsYI P T r (ρ.set d v) H' ⟨E⟩⟩ := propext Iff.rfl
@[go_sem ↓] theorem opsYI_gnone {op : Op} {ty : TypeId} {r : List O} {g : Nat} {w : Bool} : @opsYI P T (⟨none, op, ty, some (g, w)⟩ :: r) ρ H ⟨E⟩ = @ev1 Value (ρ g) ⟨fun x => guardV x w (@opYI P T op ty ρ H ⟨fun _ H' => @opsYI P T r ρ H' ⟨E⟩⟩) (@opsYI P T r ρ H ⟨E⟩)⟩ := propext Iff.rfl
@[go_sem ↓] theorem opsYI_gsome {d : Nat} {op : Op} {ty : TypeId} {r : List O} {g : Nat} {w : Bool} : @opsYI P T (⟨some d, op, ty, some (g, w)⟩ :: r) ρ H ⟨E⟩ = @ev1 Value (ρ g) ⟨fun x => guardV x w (@opYI P T op ty ρ H ⟨fun v H' => @opsYI P T r (ρ.set d v) H' ⟨E⟩⟩) (@opsYI P T r (ρ.set d undef) H ⟨E⟩)⟩ := propext Iff.rfl
@[go_sem ↓] theorem opYI_call {f : Operand} {a : Array Operand} {ts : Array TypeId} {ty : TypeId} : @opYI P T (.call { callee := .value f, args := a, argTypes := ts }) ty ρ H ⟨C⟩ = @ev1 Value (ρ.ev f) ⟨fun g => @ev1 (Array Value) (a.map ρ.ev) ⟨fun vs => @callYI P g vs H ⟨C⟩⟩⟩ := propext Iff.rfl
@[go_sem ↓] theorem callYI_fn {g : FuncId} {a : Array Value} : @callYI P (.func (.func g) #[] #[]) a H ⟨C⟩ = (okCall P g = true ∧ @FunI P g a H ⟨C⟩) := by simp [callYI, callY, FunI]
@[go_sem] theorem callYI_fn' {g : FuncId} {x y a : Array Value} : @callYI P (.func (.func g) x y) a H ⟨C⟩ = (okCall P g = true ∧ @FunI P g (x ++ a ++ y) H ⟨C⟩) := propext Iff.rfl
@[go_sem ↓] theorem callYI_yield {l : Nat} {a : Array Value} : @callYI P (.func (.yield l) #[] #[]) a H ⟨C⟩ = @YieldI P l a H ⟨C⟩ := by simp [callYI, callY, YieldI]
@[go_sem ↓] theorem opYI_move {x : Operand} {ty : TypeId} : @opYI P T (.move x) ty ρ H ⟨C⟩ = @opI P T (.move x) ty ρ H ⟨C⟩ := propext Iff.rfl
@[go_sem ↓] theorem opYI_assign {x : Operand} {ty : TypeId} : @opYI P T (.assign x) ty ρ H ⟨C⟩ = @opI P T (.assign x) ty ρ H ⟨C⟩ := propext Iff.rfl
@[go_sem ↓] theorem opYI_pick {c a b : Operand} {ty : TypeId} : @opYI P T (.pick c a b) ty ρ H ⟨C⟩ = @opI P T (.pick c a b) ty ρ H ⟨C⟩ := propext Iff.rfl
@[go_sem ↓] theorem opYI_alloc {e : TypeId} {ty : TypeId} : @opYI P T (.alloc e) ty ρ H ⟨C⟩ = @opI P T (.alloc e) ty ρ H ⟨C⟩ := propext Iff.rfl
@[go_sem ↓] theorem opYI_box {e : TypeId} {x : Operand} {ty : TypeId} : @opYI P T (.box e x) ty ρ H ⟨C⟩ = @opI P T (.box e x) ty ρ H ⟨C⟩ := propext Iff.rfl
@[go_sem ↓] theorem opYI_build {t : TypeId} {a : Array (Nat × Operand)} {ty : TypeId} : @opYI P T (.build t a) ty ρ H ⟨C⟩ = @opI P T (.build t a) ty ρ H ⟨C⟩ := propext Iff.rfl
@[go_sem ↓] theorem opYI_buildSlice {t : TypeId} {k : Nat} {a : Array (Nat × Operand)} {ty : TypeId} : @opYI P T (.buildSlice t k a) ty ρ H ⟨C⟩ = @opI P T (.buildSlice t k a) ty ρ H ⟨C⟩ := propext Iff.rfl
@[go_sem ↓] theorem opYI_load {t : TypeId} {x : Operand} {ty : TypeId} : @opYI P T (.load t x) ty ρ H ⟨C⟩ = @opI P T (.load t x) ty ρ H ⟨C⟩ := propext Iff.rfl
@[go_sem ↓] theorem opYI_store {t : TypeId} {x y : Operand} {ty : TypeId} : @opYI P T (.store t x y) ty ρ H ⟨C⟩ = @opI P T (.store t x y) ty ρ H ⟨C⟩ := propext Iff.rfl
@[go_sem ↓] theorem opYI_nilCheck {x : Operand} {ty : TypeId} : @opYI P T (.nilCheck x) ty ρ H ⟨C⟩ = @opI P T (.nilCheck x) ty ρ H ⟨C⟩ := propext Iff.rfl
@[go_sem ↓] theorem opYI_binOp {o : BinOp} {t t' : TypeId} {x y : Operand} {ty : TypeId} : @opYI P T (.binOp o t x y t') ty ρ H ⟨C⟩ = @opI P T (.binOp o t x y t') ty ρ H ⟨C⟩ := propext Iff.rfl
@[go_sem ↓] theorem opYI_unOp {o : UnOp} {t : TypeId} {x : Operand} {ty : TypeId} : @opYI P T (.unOp o t x) ty ρ H ⟨C⟩ = @opI P T (.unOp o t x) ty ρ H ⟨C⟩ := propext Iff.rfl
@[go_sem ↓] theorem opYI_convert {s d : TypeId} {x : Operand} {ty : TypeId} : @opYI P T (.convert s d x) ty ρ H ⟨C⟩ = @opI P T (.convert s d x) ty ρ H ⟨C⟩ := propext Iff.rfl
@[go_sem ↓] theorem opYI_makeFunc {f : Fn} {a b : Array Operand} {ty : TypeId} : @opYI P T (.makeFunc f a b) ty ρ H ⟨C⟩ = @opI P T (.makeFunc f a b) ty ρ H ⟨C⟩ := propext Iff.rfl
@[go_sem ↓] theorem opYI_makeSlice {t : TypeId} {x y : Operand} {ty : TypeId} : @opYI P T (.makeSlice t x y) ty ρ H ⟨C⟩ = @opI P T (.makeSlice t x y) ty ρ H ⟨C⟩ := propext Iff.rfl
@[go_sem ↓] theorem opYI_slice {t : TypeId} {x : Operand} {a b c : Option Operand} {ty : TypeId} : @opYI P T (.slice t x a b c) ty ρ H ⟨C⟩ = @opI P T (.slice t x a b c) ty ρ H ⟨C⟩ := propext Iff.rfl
@[go_sem ↓] theorem opYI_fieldAddr {t : TypeId} {x : Operand} {f : Nat} {ty : TypeId} : @opYI P T (.fieldAddr t x f) ty ρ H ⟨C⟩ = @opI P T (.fieldAddr t x f) ty ρ H ⟨C⟩ := propext Iff.rfl
@[go_sem ↓] theorem opYI_field {t : TypeId} {x : Operand} {f : Nat} {ty : TypeId} : @opYI P T (.field t x f) ty ρ H ⟨C⟩ = @opI P T (.field t x f) ty ρ H ⟨C⟩ := propext Iff.rfl
@[go_sem ↓] theorem opYI_indexAddr {t : TypeId} {x i : Operand} {ty : TypeId} : @opYI P T (.indexAddr t x i) ty ρ H ⟨C⟩ = @opI P T (.indexAddr t x i) ty ρ H ⟨C⟩ := propext Iff.rfl
@[go_sem ↓] theorem opYI_index {t : TypeId} {x i : Operand} {ty : TypeId} : @opYI P T (.index t x i) ty ρ H ⟨C⟩ = @opI P T (.index t x i) ty ρ H ⟨C⟩ := propext Iff.rfl
@[go_sem ↓] theorem opYI_extract {x : Operand} {i : Nat} {ty : TypeId} : @opYI P T (.extract x i) ty ρ H ⟨C⟩ = @opI P T (.extract x i) ty ρ H ⟨C⟩ := propext Iff.rfl
@[go_sem ↓] theorem opYI_built {b : Builtin} {a : Array Operand} {ts : Array TypeId} {ty : TypeId} : @opYI P T (.call { callee := .builtin b, args := a, argTypes := ts }) ty ρ H ⟨C⟩ = @opI P T (.call { callee := .builtin b, args := a, argTypes := ts }) ty ρ H ⟨C⟩ := propext Iff.rfl
theorem YieldF.mono {l : Nat} {args : Array Value} {K K' : Value → Heap → Prop} (h : YieldF P l args H K) (hk : ∀ v H', K v H' → K' v H') : YieldF P l args H K' := fun w hw => by
  obtain ⟨fn, tmps, assign, body, h1, h2⟩ := h w hw
  exact ⟨fn, tmps, assign, body, h1, h2.mono fun e W' ⟨v, he, hs, hv⟩ => ⟨v, he, hs, hk _ _ hv⟩⟩
theorem YieldI.by {l : Nat} {args : Array Value} {K : Value → Heap → Prop} (h : YieldF P l args H K) (hk : ∀ v H', K v H' → C v H') : @YieldI P l args H ⟨C⟩ := h.mono hk
theorem LoopRI.by (hm : P.follows .mixedOrders = true) {m : Cmd} (I : Env → Heap → Prop) (μ : Env → Heap → Nat) (h0 : I ρ H)
    (hr : ∀ ρ H, I ρ H → @vcRI P (tyOf P) n ro m Ds ρ H ⟨PostR.seq (fun Ds' ρ' H' => Ds' = Ds ∧ @Hold ⟨I⟩ ρ' H' ∧ μ ρ' H' < μ ρ H) Q⟩) : @LoopRI P n ro m Ds ρ H ⟨Q⟩ := loopR_rule (tyOf_ok P) hm I μ h0 hr
theorem RangeRI.by (hm : P.follows .mixedOrders = true) {g : Operand} {ps : Array Tmp} {a b : Cmd} {gf : Nat} {lb : Array Value} (hg : ρ.ev g = .func (.func gf) #[] lb) (hok : okCall P gf = true) (hps : ps.toList.all (fun p => Nat.blt p n) = true)
    (h : ∀ r : Loop, (∀ {l : Nat} {vs : Array Value} {H' : Heap} {K : Value → Heap → Prop}, H'[l]? = some (.loop r) → vs.size = ps.size → @vcRI P (tyOf P) n (some l) a [] (zipL (ps.zip vs).toList ρ) H' ⟨fun Ds e ρ' H'' => e = .norm ∧ Ds = [] ∧ H''[l]? = some (.loop r) ∧
        @vcRI P (tyOf P) n (some l) b [] ρ' (hset H'' l (.loop { r with state := .busy })) ⟨roundR l r K⟩⟩ → YieldF P l vs H' K) →
      Fun P gf (#[.func (.yield (H.size + 1)) #[] #[]] ++ lb) ((H.push (.deferred (some []))).push (.loop r)) (fun _ H' =>
        (H'[H.size + 1]? = some (.loop r) ∧ Q (H.size :: Ds) .norm ρ (hset H' (H.size + 1) (.loop { r with state := .exhausted }))) ∨
        ∃ x : Ex, x ≠ .norm ∧ H'[H.size + 1]? = some (.loop { r with state := .done, pending := some x.code }) ∧ Q (H.size :: Ds) x ρ (hset H' (H.size + 1) (.loop { r with state := .exhausted, pending := some x.code })))) :
    @RangeRI P n none g ps a b Ds ρ H ⟨Q⟩ := by
  intro a' b' ha hb
  subst ha
  subst hb
  refine rangeR hg hok fun r hr => h r fun {l vs H' K} hl hsz hv => ?_
  refine yieldF_of (tyOf_ok P) hm hl hr hsz (fun p hp => ?_) hv
  have := List.all_eq_true.1 hps p hp
  simpa using this
@[go_sem ↓] theorem finR_norm {rs : List ResultVar} {R : Value → Heap → Prop} : finR T rs R Ds .norm ρ H = doneR T rs R Ds ρ H := propext Iff.rfl
@[go_sem ↓] theorem finR_ret {rs : List ResultVar} {R : Value → Heap → Prop} : finR T rs R Ds .ret ρ H = doneR T rs R Ds ρ H := propext Iff.rfl
@[go_sem ↓] theorem doneR_nil {rs : List ResultVar} {R : Value → Heap → Prop} : doneR T rs R [] ρ H = resV T rs ρ H (fun vs => R (oneOf vs) H) := propext Iff.rfl
theorem doneR_cons {rs : List ResultVar} {R : Value → Heap → Prop} {D : Nat} : doneR T rs R (D :: Ds) ρ H = (H[D]? = some (.deferred (some [])) ∧ doneR T rs R Ds ρ (hset H D (.deferred none))) := propext Iff.rfl
@[go_sem ↓] theorem roundR_norm {l : Nat} {r : Loop} {K : Value → Heap → Prop} : roundR l r K Ds .norm ρ H = (H[l]? = some (.loop { r with state := .busy }) ∧ K (.bool true) (hset H l (.loop r))) := propext Iff.rfl
@[go_sem ↓] theorem roundR_ret {l : Nat} {r : Loop} {K : Value → Heap → Prop} : roundR l r K Ds .ret ρ H = (H[l]? = some (.loop { r with state := .busy }) ∧ K (.bool false) (hset H l (.loop { r with state := .done, pending := some .ret }))) := propext Iff.rfl
@[go_sem ↓] theorem roundR_exit {l i : Nat} {r : Loop} {K : Value → Heap → Prop} : roundR l r K Ds (.exit i) ρ H = (H[l]? = some (.loop { r with state := .busy }) ∧ K (.bool false) (hset H l (.loop { r with state := .done, pending := some (.exit i) }))) := propext Iff.rfl
theorem fun_ofR (hm : P.follows .mixedOrders = true) {f : FuncId} {fn : Func} {m : Cmd} {rs : List ResultVar} (hf : P.funcs[f]? = some fn) (hn : fn.ntmps = n) (hb : fn.body.map (comp n) = some m) (hr : fn.results.toList = rs)
    {args : List Value} {R : Value → Heap → Prop} (ha : Nat.ble args.length n = true) (h : @vcRI P (tyOf P) n none m [] (Env.args args) H ⟨finR (tyOf P) rs R⟩) : Fun P f args.toArray H R := by
  subst hn
  subst hr
  obtain ⟨c, hc, rfl⟩ := Option.map_eq_some_iff.1 hb
  exact fnR_of (tyOf_ok P) hm hf hc rfl (Nat.le_of_ble_eq_true ha) h
end rules
end Go.V
