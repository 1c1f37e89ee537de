/- VBase: a verification-condition generator over the model's machine: calls as relations on heaps, frames as functions, code as commands whose precondition is computed. -/
import Derived.Test.YtgigigchjnnonaaGreatDoorVLast
import Derived.StillTail
import Derived.Deep.Quiet
import Derived.Laws.Append
import Derived.Defers
set_option linter.unusedSimpArgs false
set_option linter.unusedVariables false
set_option maxRecDepth 20000
namespace Go.V
open Go

abbrev Heap := Array Obj

/-- Outside the heap (and the count of draws, which grows) two worlds are alike. -/
structure Same (w w' : World) : Prop where
  os : w'.os = w.os
  tape : w'.tape = w.tape
  output : w'.output = w.output
  drawn : True

theorem Same.refl (w : World) : Same w w := ⟨rfl, rfl, rfl, trivial⟩
theorem Same.trans {a b c : World} (h : Same a b) (k : Same b c) : Same a c := ⟨k.os.trans h.os, k.tape.trans h.tape, k.output.trans h.output, trivial⟩

/-- A call, over heaps. -/
def Fun (P : Program) (f : FuncId) (args : Array Value) (H : Heap) (R : Value → Heap → Prop) : Prop :=
  ∀ w : World, w.heap = H → Calls P f args w fun e w' => ∃ v, e = .returned v ∧ Same w w' ∧ R v w'.heap

theorem Fun.mono {P : Program} {f : FuncId} {args : Array Value} {H : Heap} {R R' : Value → Heap → Prop} (h : Fun P f args H R) (hr : ∀ v H', R v H' → R' v H') : Fun P f args H R' :=
  fun w hw => (h w hw).mono fun _ _ ⟨v, e, s, r⟩ => ⟨v, e, s, hr _ _ r⟩

/-! ### Frames -/
abbrev Env := Nat → Value
def Env.set (ρ : Env) (d : Nat) (v : Value) : Env := fun t => if t = d then v else ρ t
def Env.put (ρ : Env) : Option Nat → Value → Env
  | some d, v => ρ.set d v
  | none, _ => ρ
def Env.ev (ρ : Env) : Operand → Value
  | .tmp t => ρ t
  | .const v => v
  | .global g => .pointer (some ⟨g, 0, none⟩)
  | .func f => .func (.func f) #[] #[]
theorem Env.set_apply (ρ : Env) (d : Nat) (v : Value) (t : Nat) : ρ.set d v t = if t = d then v else ρ t := rfl
structure HasD (n : Nat) (ds : List Deferred) (a : Act) (ρ : Env) : Prop where
  defers : a.defers = ds
  size : a.tmps.size = n
  get : ∀ t, a.tmps.getD t undef = ρ t

abbrev Has (n : Nat) (a : Act) (ρ : Env) : Prop := HasD n [] a ρ
theorem HasD.eval {n : Nat} {ds : List Deferred} {a : Act} {ρ : Env} (h : HasD n ds a ρ) : a.eval = ρ.ev := by
  funext x
  cases x <;> simp [Act.eval, Env.ev, h.get]

theorem HasD.put {n : Nat} {ds : List Deferred} {a : Act} {ρ : Env} (h : HasD n ds a ρ) (d : Option Nat) (v : Value) (hd : ∀ k, d = some k → k < n) : HasD n ds (a.put d v) (ρ.put d v) := by
  cases d with
  | none => exact h
  | some k =>
    have hk := hd k rfl
    refine ⟨h.defers, by simp [Act.put, h.size], fun t => ?_⟩
    simp only [Act.put, Env.put, Env.set, Array.getD_eq_getD_getElem?]
    by_cases e : t = k
    · subst e
      simp [h.size, hk]
    · rw [if_neg e, ← h.get t, Array.getD_eq_getD_getElem?]
      simp [Array.getElem?_setIfInBounds, Ne.symm e]

/-! ### One operation -/
/-- What an operation, run in any world of this heap, must come to. -/
def OpS (P : Program) (s : Sem Next) (H : Heap) (K : Value → Heap → Prop) : Prop :=
  ∀ w : World, w.heap = H → match s.run P w with
    | .ok (.value v) w' => Same w w' ∧ K v w'.heap
    | .ok .skip w' => Same w w' ∧ K undef w'.heap
    | .ok (.enter f args) w' => Same w w' ∧ Fun P f args w'.heap K
    | _ => False

/-- The same, and quiet: one value, the world untouched. -/
def OpQ (P : Program) (s : Sem Next) (H : Heap) (v : Value) : Prop :=
  ∀ w : World, w.heap = H → match s.run P w with
    | .ok (.value u) w' => w' = w ∧ u = v
    | .ok .skip w' => w' = w ∧ v = undef
    | .ok (.enter f args) w' => w' = w ∧ Fun P f args H (fun u H' => u = v ∧ H' = H)
    | _ => False

/-- The same without calls. -/
def OpR (P : Program) (s : Sem Next) (H : Heap) (v : Value) : Prop :=
  ∀ w : World, w.heap = H → s.run P w = .ok (.value v) w ∨ (s.run P w = .ok .skip w ∧ v = undef)

theorem OpS.mono {P : Program} {s : Sem Next} {H : Heap} {K K' : Value → Heap → Prop} (h : OpS P s H K) (hk : ∀ v H', K v H' → K' v H') : OpS P s H K' := by
  intro w hw
  have := h w hw
  generalize s.run P w = r at *
  cases r with
  | ok n w' =>
    cases n <;> simp only at this ⊢
    case value v => exact ⟨this.1, hk _ _ this.2⟩
    case skip => exact ⟨this.1, hk _ _ this.2⟩
    case enter f args => exact ⟨this.1, this.2.mono hk⟩
  | halt x w' => exact this

theorem OpR.quiet {P : Program} {s : Sem Next} {H : Heap} {v : Value} (h : OpR P s H v) : OpQ P s H v := by
  intro w hw
  rcases h w hw with h | ⟨h, hv⟩
  · rw [h]; exact ⟨rfl, rfl⟩
  · rw [h]; exact ⟨rfl, hv⟩
theorem OpQ.run {P : Program} {s : Sem Next} {H : Heap} {v : Value} (h : OpQ P s H v) {K : Value → Heap → Prop} (hk : K v H) : OpS P s H K := by
  intro w hw
  have := h w hw
  generalize s.run P w = r at *
  cases r with
  | ok n w' =>
    cases n <;> simp only at this ⊢
    case value u => obtain ⟨rfl, rfl⟩ := this; exact ⟨Same.refl _, hw ▸ hk⟩
    case skip => obtain ⟨rfl, rfl⟩ := this; exact ⟨Same.refl _, hw ▸ hk⟩
    case enter f args =>
      obtain ⟨rfl, hf⟩ := this
      exact ⟨Same.refl _, hw.symm ▸ hf.mono fun u H' ⟨h1, h2⟩ => by subst h1; subst h2; exact hk⟩
  | halt x w' => exact this

/-- An operation, as written down for the reckoning: its guard names a temporary. -/
structure O where
  dst : Option Nat
  op : Op
  type : TypeId
  guard : Option (Nat × Bool)
  deriving Inhabited

/-! ### Types, as far as the operations ask of them -/
inductive K where
  | int (k : IntKind) | bool | str | ptr (e : TypeId) | sl (e : TypeId) | arr (n : Nat) (e : TypeId) | st (fs : List (Nat × TypeId)) | map (k v : TypeId) | fn | iface | tup
  deriving DecidableEq, Inhabited
structure TI where
  k : K
  size : Nat
  bytes : Nat
  zero : Value
  deriving Inhabited

def K.of : TypeDesc → Option K
  | .int k => some (.int k) | .bool => some .bool | .string => some .str | .pointer e => some (.ptr e) | .slice e => some (.sl e) | .array n e => some (.arr n e)
  | .struct fs => some (.st (fs.toList.map fun f => (f.offset, f.type))) | .map k v => some (.map k v) | .func _ _ _ => some .fn | .interface _ => some .iface | .tuple _ => some .tup
  | _ => none
def K.agg : K → Bool | .st _ | .arr _ _ => true | _ => false

abbrev Tys := TypeId → Option TI
/-- The table is the program's own. -/
def Tys.Ok (T : Tys) (P : Program) : Prop :=
  ∀ t i, T t = some i → (∃ d, P.underlying t = some d ∧ K.of d = some i.k) ∧ ∃ inf, P.info? t = some inf ∧ inf.size = i.size ∧ inf.bytes = i.bytes ∧ inf.zero = some i.zero

section tys
variable {T : Tys} {P : Program}
theorem Tys.Ok.und (h : T.Ok P) {t : TypeId} {i : TI} (ht : T t = some i) (w : World) : ∃ d, (underlying t).run P w = .ok d w ∧ K.of d = some i.k := by
  obtain ⟨⟨d, hd, hk⟩, _⟩ := h t i ht
  exact ⟨d, by simp [underlying, hd], hk⟩
theorem Tys.Ok.size (h : T.Ok P) {t : TypeId} {i : TI} (ht : T t = some i) (w : World) : (sizeOf t).run P w = .ok i.size w := by
  obtain ⟨_, inf, hi, h1, _⟩ := h t i ht
  simp [sizeOf, typeInfo, hi, h1]
theorem Tys.Ok.zero (h : T.Ok P) {t : TypeId} {i : TI} (ht : T t = some i) (w : World) : (zeroValue t).run P w = .ok i.zero w := by
  obtain ⟨_, inf, hi, _, _, h1⟩ := h t i ht
  simp [zeroValue, typeInfo, hi, h1]
theorem Tys.Ok.bytes (h : T.Ok P) {t : TypeId} {i : TI} (ht : T t = some i) (w : World) : ∃ inf, (typeInfo t).run P w = .ok inf w ∧ inf.bytes = i.bytes := by
  obtain ⟨_, inf, hi, _, h1, _⟩ := h t i ht
  exact ⟨inf, by simp [typeInfo, hi], h1⟩
theorem Tys.Ok.isAgg (h : T.Ok P) {t : TypeId} {i : TI} (ht : T t = some i) (w : World) : (isAgg t).run P w = .ok i.k.agg w := by
  obtain ⟨d, hd, hk⟩ := h.und ht w
  simp only [Go.isAgg, Sem.run_bind, hd, Result.andThen_ok]
  cases d <;> simp_all [K.of] <;> (rw [← hk]; rfl)
end tys

theorem K.of_int {d : TypeDesc} {k : IntKind} (h : K.of d = some (.int k)) : d = .int k := by cases d <;> simp_all [K.of]
theorem K.of_bool {d : TypeDesc} (h : K.of d = some .bool) : d = .bool := by cases d <;> simp_all [K.of]
theorem K.of_str {d : TypeDesc} (h : K.of d = some .str) : d = .string := by cases d <;> simp_all [K.of]
theorem K.of_ptr {d : TypeDesc} {e : TypeId} (h : K.of d = some (.ptr e)) : d = .pointer e := by cases d <;> simp_all [K.of]
theorem K.of_sl {d : TypeDesc} {e : TypeId} (h : K.of d = some (.sl e)) : d = .slice e := by cases d <;> simp_all [K.of]
theorem K.of_arr {d : TypeDesc} {n : Nat} {e : TypeId} (h : K.of d = some (.arr n e)) : d = .array n e := by cases d <;> simp_all [K.of]
theorem K.of_map {d : TypeDesc} {k e : TypeId} (h : K.of d = some (.map k e)) : d = .map k e := by cases d <;> simp_all [K.of]
theorem K.of_st {d : TypeDesc} {l : List (Nat × TypeId)} (h : K.of d = some (.st l)) : ∃ fs : Array Field, d = .struct fs ∧ fs.toList.map (fun f => (f.offset, f.type)) = l := by
  cases d <;> simp_all [K.of]

/-! ### Pure operations: a condition, and the value -/
def ibits (op : BinOp) (k : IntKind) (x y : Int) : Int :=
  let a := BitVec.ofInt k.bits x
  let b := BitVec.ofInt k.bits y
  k.wrap (match op with | .and => (a &&& b).toNat | .or => (a ||| b).toNat | .xor => (a ^^^ b).toNat | _ => (a &&& ~~~b).toNat)

/-- x << n, x >> n. -/
def ishl (k : IntKind) (x n : Int) : Int := k.wrap (x * 2 ^ (min n.toNat k.bits))
def ishr (k : IntKind) (x n : Int) : Int := x.fdiv (2 ^ (min n.toNat k.bits))

def binP : BinOp → Value → Value → Option (Prop × Value)
  | .shl, .int k a, .int _ b => some (0 ≤ b, .int k (ishl k a b))
  | .shr, .int k a, .int _ b => some (0 ≤ b, .int k (ishr k a b))
  | .add, .int k a, .int k' b => some (k = k', .int k (k.wrap (a + b)))
  | .sub, .int k a, .int k' b => some (k = k', .int k (k.wrap (a - b)))
  | .mul, .int k a, .int k' b => some (k = k', .int k (k.wrap (a * b)))
  | .quo, .int k a, .int k' b => some (k = k' ∧ b ≠ 0, .int k (k.wrap (a.tdiv b)))
  | .rem, .int k a, .int k' b => some (k = k' ∧ b ≠ 0, .int k (a.tmod b))
  | .and, .int k a, .int k' b => some (k = k', .int k (ibits .and k a b))
  | .or, .int k a, .int k' b => some (k = k', .int k (ibits .or k a b))
  | .xor, .int k a, .int k' b => some (k = k', .int k (ibits .xor k a b))
  | .andNot, .int k a, .int k' b => some (k = k', .int k (ibits .andNot k a b))
  | .eql, .int k a, .int k' b => some (k = k', .bool (decide (a = b)))
  | .neq, .int k a, .int k' b => some (k = k', .bool (!decide (a = b)))
  | .lss, .int k a, .int k' b => some (k = k', .bool (decide (a < b)))
  | .leq, .int k a, .int k' b => some (k = k', .bool (decide (a ≤ b)))
  | .gtr, .int k a, .int k' b => some (k = k', .bool (decide (b < a)))
  | .geq, .int k a, .int k' b => some (k = k', .bool (decide (b ≤ a)))
  | .add, .string a, .string b => some (a.size + b.size ≤ 9223372036854775807, .string (a ++ b))
  | .eql, .string a, .string b => some (True, .bool (a.toList == b.toList))
  | .neq, .string a, .string b => some (True, .bool (!(a.toList == b.toList)))
  | .lss, .string a, .string b => some (True, .bool (Op.bytesLess a.toList b.toList))
  | .leq, .string a, .string b => some (True, .bool (Op.bytesLess a.toList b.toList || a.toList == b.toList))
  | .gtr, .string a, .string b => some (True, .bool (!(Op.bytesLess a.toList b.toList || a.toList == b.toList)))
  | .geq, .string a, .string b => some (True, .bool (!Op.bytesLess a.toList b.toList))
  | _, _, _ => none

theorem beq_dec {α : Type} [DecidableEq α] (a b : α) : (a == b) = decide (a = b) := by rw [Bool.eq_iff_iff]; simp

theorem binP_run {P : Program} {op : BinOp} {t : TypeId} {xo yo : Operand} {x y : Value} {c : Prop} {v : Value} (h : binP op x y = some (c, v)) (hc : c) (w : World) :
    (do eqGuard op t xo yo x y; binOp op t x y : Sem Value).run P w = .ok v w := by
  unfold binP at h
  split at h <;> simp only [Option.some.injEq, Prod.mk.injEq, reduceCtorEq] at h
  all_goals (obtain ⟨rfl, rfl⟩ := h)
  all_goals first
    | (simp [eqGuard, binOp, Op.shift, ishl, ishr, Int.not_lt.2 hc]; done)
    | (subst hc; simp [eqGuard, binOp, Op.intArith, Op.intDiv, Op.intBits, Op.intCmp, ibits]; done)
    | (subst hc; simp [eqGuard, binOp, Op.intCmp, beq_dec, bne]; done)
    | (obtain ⟨rfl, h0⟩ := hc; simp [eqGuard, binOp, Op.intArith, Op.intDiv, Op.intBits, Op.intCmp, h0]; done)
    | (simp [eqGuard, binOp, Op.stringOp]; done)
    | (rename_i a b
       have h1 : ¬ (((a.size + b.size : Nat) : Int) > IntKind.i64.max) := by
         show ¬ (((a.size + b.size : Nat) : Int) > 9223372036854775807)
         omega
       simp only [eqGuard, binOp, Op.stringOp, h1, if_false, Sem.run_bind, Sem.run_pure, Result.andThen_ok]
       simp)

/-- == at kinds whose equality asks for the type. -/
def eqT (T : Tys) (t : TypeId) (x y : Value) : Option Bool :=
  match (T t).map TI.k, x, y with
  | some K.bool, .bool a, .bool b => some (decide (a = b))
  | some (K.ptr _), .pointer none, .pointer b => some b.isNone
  | some (K.ptr _), .pointer (some _), .pointer none => some false
  | some (K.sl _), .slice none _ _, .slice b _ _ => some b.isNone
  | some (K.sl _), .slice (some _) _ _, .slice none _ _ => some false
  | some (K.map _ _), .map none, .map b => some b.isNone
  | some (K.map _ _), .map (some _), .map none => some false
  | some K.fn, .nilFunc, .nilFunc => some true
  | some K.fn, .func _ _ _, .nilFunc => some false
  | _, _, _ => none
theorem K.of_fn {d : TypeDesc} (h : K.of d = some .fn) : ∃ a b c, d = .func a b c := by cases d <;> simp_all [K.of]
theorem eqT_run {T : Tys} {P : Program} (hT : T.Ok P) {t : TypeId} {x y : Value} {b : Bool} (h : eqT T t x y = some b) (w : World) (n : Nat) : (Op.equalIn (n + 1) t x y).run P w = .ok b w ∧ ∀ op xo yo, (eqGuard op t xo yo x y).run P w = .ok () w := by
  unfold eqT at h
  split at h
  all_goals try (cases h; done)
  all_goals
    rename_i h0
    obtain ⟨j, hj, hjk⟩ := Option.map_eq_some_iff.1 h0
    obtain ⟨d, hd, hk⟩ := hT.und hj w
    rw [hjk] at hk
  all_goals first
    | rw [K.of_bool hk] at hd
    | rw [K.of_ptr hk] at hd
    | rw [K.of_sl hk] at hd
    | rw [K.of_map hk] at hd
    | (obtain ⟨p, q, r, e⟩ := K.of_fn hk; rw [e] at hd)
  all_goals (simp only [Option.some.injEq] at h; subst h)
  all_goals (refine ⟨?_, fun op xo yo => by simp only [eqGuard]; split <;> rfl⟩)
  all_goals (unfold Op.equalIn; simp only [Sem.run_bind, hd, Result.andThen_ok])
  all_goals first
    | (simp [beq_dec]; done)
    | rfl
    | (cases ‹Option Addr› <;> rfl)
    | (cases ‹Option Nat› <;> rfl)

theorem binT_run {T : Tys} {P : Program} (hT : T.Ok P) {op : BinOp} {t : TypeId} {xo yo : Operand} {x y : Value} {c : Prop} {v : Value} (h : (match binP op x y with
    | some r => some r
    | none => match op with
      | .eql => (eqT T t x y).map fun b => (True, .bool b)
      | .neq => (eqT T t x y).map fun b => (True, .bool (!b))
      | _ => none) = some (c, v)) (hc : c) (w : World) :
    (do eqGuard op t xo yo x y; binOp op t x y : Sem Value).run P w = .ok v w := by
  split at h
  · rename_i r hr
    simp only [Option.some.injEq] at h
    subst h
    exact binP_run hr hc w
  · rename_i hn
    have hbin : ∀ (b : Bool), eqT T t x y = some b → (binOp .eql t x y = (do pure (.bool (← Op.equal t x y)) : Sem Value)) ∧ (binOp .neq t x y = (do pure (.bool (!(← Op.equal t x y))) : Sem Value)) := by
      intro b hb
      unfold eqT at hb
      split at hb <;> first | (cases hb; done) | exact ⟨rfl, rfl⟩
    split at h
    · obtain ⟨b, hb, h2⟩ := Option.map_eq_some_iff.1 h
      simp only [Prod.mk.injEq] at h2
      obtain ⟨_, rfl⟩ := h2
      obtain ⟨h3, h4⟩ := eqT_run hT hb w 9999
      rw [(hbin b hb).1]
      have h5 : (Op.equal t x y).run P w = .ok b w := h3
      simp only [Sem.run_bind, h4, Result.andThen_ok, h5, Sem.run_pure]
    · obtain ⟨b, hb, h2⟩ := Option.map_eq_some_iff.1 h
      simp only [Prod.mk.injEq] at h2
      obtain ⟨_, rfl⟩ := h2
      obtain ⟨h3, h4⟩ := eqT_run hT hb w 9999
      rw [(hbin b hb).2]
      have h5 : (Op.equal t x y).run P w = .ok b w := h3
      simp only [Sem.run_bind, h4, Result.andThen_ok, h5, Sem.run_pure]
    · cases h

def unP : UnOp → Value → Option Value
  | .not, .bool b => some (.bool !b)
  | .neg, .int k n => some (.int k (k.wrap (0 - n)))
  | .xor, .int k n => some (.int k (ibits .xor k (if k.signed then -1 else k.max) n))
  | _, _ => none
theorem unP_run {P : Program} {op : UnOp} {x v : Value} (h : unP op x = some v) (w : World) : (Op.unary op x).run P w = .ok v w := by
  unfold unP at h
  split at h <;> simp only [Option.some.injEq, reduceCtorEq] at h <;> subst h <;> simp [Op.unary, Op.intArith, Op.intBits, ibits]

/-- The cells of a part of an aggregate. -/
def partP (T : Tys) (e : TypeId) (cs : Array Value) (off : Nat) : Option Value :=
  match T e with
  | none => none
  | some i => if i.k.agg then some (.agg (cs.extract off (off + i.size))) else cs[off]?
theorem partP_run {T : Tys} {P : Program} (hT : T.Ok P) {e : TypeId} {cs : Array Value} {off : Nat} {v : Value} (h : partP T e cs off = some v) (w : World) :
    (part e cs off).run P w = .ok v w := by
  unfold partP at h
  split at h
  · cases h
  · rename_i i hi
    simp only [part, Sem.run_bind, hT.isAgg hi, Result.andThen_ok]
    split at h
    · rename_i hag
      cases h
      simp [hag, hT.size hi]
    · rename_i hag
      simp [hag, h]

def convP (T : Tys) (src dst : TypeId) (x : Value) : Option Value :=
  match (T src).map TI.k, (T dst).map TI.k, x with
  | some _, some (K.int k), .int _ n => some (.int k (k.wrap n))
  | some _, some K.str, .string s => some (.string s)
  | _, _, _ => none
theorem convP_run {T : Tys} {P : Program} (hT : T.Ok P) {src dst : TypeId} {x v : Value} (h : convP T src dst x = some v) (w : World) :
    (convert src dst x).run P w = .ok v w := by
  unfold convP at h
  split at h
  · rename_i k0 k k' n h0 h1
    cases h
    obtain ⟨i, hi, rfl⟩ := Option.map_eq_some_iff.1 h0
    obtain ⟨j, hj, hjk⟩ := Option.map_eq_some_iff.1 h1
    obtain ⟨d, hd, _⟩ := hT.und hi w
    obtain ⟨d', hd', hk'⟩ := hT.und hj w
    rw [hjk] at hk'
    rw [K.of_int hk'] at hd'
    simp [convert, hd, hd', Conv.intToInt]
  · rename_i k0 s h0 h1
    cases h
    obtain ⟨i, hi, rfl⟩ := Option.map_eq_some_iff.1 h0
    obtain ⟨j, hj, hjk⟩ := Option.map_eq_some_iff.1 h1
    obtain ⟨d, hd, _⟩ := hT.und hi w
    obtain ⟨d', hd', hk'⟩ := hT.und hj w
    rw [hjk] at hk'
    rw [K.of_str hk'] at hd'
    simp [convert, hd, hd']
  · cases h

/-- The bounds of x[lo:hi:max]: a condition, and low, high, max. -/
def bndP (v : Value) (y : Nat) : Option (Prop × Nat) := match v with
  | .int _ i => some (0 ≤ i ∧ i ≤ y, i.toNat)
  | _ => none
def bndsP (len cap : Nat) (lo hi mx : Option Value) : Option (Prop × Nat × Nat × Nat) :=
  match mx, hi, lo with
  | none, none, none => some (True, 0, len, cap)
  | none, none, some l => (bndP l len).map fun (c, n) => (c, n, len, cap)
  | none, some h, none => (bndP h cap).map fun (c, n) => (c, 0, n, cap)
  | none, some h, some l => match bndP h cap with
    | some (c, n) => (bndP l n).map fun (c', m) => (c ∧ c', m, n, cap)
    | none => none
  | some m, some h, none => match bndP m cap with
    | some (c, n) => (bndP h n).map fun (c', k) => (c ∧ c', 0, k, n)
    | none => none
  | some m, some h, some l => match bndP m cap with
    | some (c, n) => match bndP h n with
      | some (c', k) => (bndP l k).map fun (c'', j) => (c ∧ c' ∧ c'', j, k, n)
      | none => none
    | none => none
  | some _, none, _ => none
theorem bndP_run {P : Program} {v : Value} {y : Nat} {c : Prop} {n : Nat} {code : BoundsCode} (h : bndP v y = some (c, n)) (hc : c) (w : World) :
    (Instr.sliceBound v y code).run P w = .ok n w := by
  unfold bndP at h
  split at h
  · simp only [Option.some.injEq, Prod.mk.injEq] at h
    obtain ⟨rfl, rfl⟩ := h
    simp [Instr.sliceBound, asIntOf, hc.1, hc.2]
  · cases h
theorem bndsP_run {P : Program} {isS : Bool} {len cap : Nat} {lo hi mx : Option Value} {c : Prop} {r : Nat × Nat × Nat} (h : bndsP len cap lo hi mx = some (c, r)) (hc : c) (w : World) :
    (Instr.sliceBounds isS len cap lo hi mx).run P w = .ok r w := by
  unfold bndsP at h
  split at h
  · cases h; simp [Instr.sliceBounds]
  · rename_i l
    obtain ⟨⟨c1, n1⟩, h1, h2⟩ := Option.map_eq_some_iff.1 h
    simp only [Prod.mk.injEq] at h2
    obtain ⟨rfl, rfl⟩ := h2
    simp [Instr.sliceBounds, bndP_run h1 hc]
  · obtain ⟨⟨c1, n1⟩, h1, h2⟩ := Option.map_eq_some_iff.1 h
    simp only [Prod.mk.injEq] at h2
    obtain ⟨rfl, rfl⟩ := h2
    simp [Instr.sliceBounds, bndP_run h1 hc]
  · split at h
    · rename_i h0
      obtain ⟨⟨c1, n1⟩, h1, h2⟩ := Option.map_eq_some_iff.1 h
      simp only [Prod.mk.injEq] at h2
      obtain ⟨rfl, rfl⟩ := h2
      simp [Instr.sliceBounds, bndP_run h0 hc.1, bndP_run h1 hc.2]
    · cases h
  · split at h
    · rename_i h0
      obtain ⟨⟨c1, n1⟩, h1, h2⟩ := Option.map_eq_some_iff.1 h
      simp only [Prod.mk.injEq] at h2
      obtain ⟨rfl, rfl⟩ := h2
      simp [Instr.sliceBounds, bndP_run h0 hc.1, bndP_run h1 hc.2]
    · cases h
  · split at h
    · rename_i h0
      split at h
      · rename_i h3
        obtain ⟨⟨c1, n1⟩, h1, h2⟩ := Option.map_eq_some_iff.1 h
        simp only [Prod.mk.injEq] at h2
        obtain ⟨rfl, rfl⟩ := h2
        simp [Instr.sliceBounds, bndP_run h0 hc.1, bndP_run h3 hc.2.1, bndP_run h1 hc.2.2]
      · cases h
    · cases h
  · cases h

def sliceP (T : Tys) (t : TypeId) (x : Value) (lo hi mx : Option Value) : Option (Prop × Value) :=
  match (T t).map TI.k, x with
  | some K.str, .string s => if mx.isSome then none else (bndsP s.size s.size lo hi none).map fun (c, l, h, _) => (c, .string (s.extract l h))
  | some (K.sl e), .slice a len cap => match T e with
    | none => none
    | some i => (bndsP len cap lo hi mx).map fun (c, l, h, m) => (c, .slice (if m = l then a else a.map (·.add (l * i.size))) (h - l) (m - l))
  | some (K.arr n e), .pointer (some a) => match T e with
    | none => none
    | some i => (bndsP n n lo hi mx).map fun (c, l, h, m) => (c, .slice (some (if m = l then a else a.add (l * i.size))) (h - l) (m - l))
  | _, _ => none
theorem sliceP_run {T : Tys} {P : Program} (hT : T.Ok P) {t : TypeId} {x : Value} {lo hi mx : Option Value} {c : Prop} {v : Value} (h : sliceP T t x lo hi mx = some (c, v)) (hc : c) (w : World) :
    (Instr.sliceAt t x lo hi mx).run P w = .ok v w := by
  unfold sliceP at h
  split at h
  · rename_i s h0
    obtain ⟨i, hi', hik⟩ := Option.map_eq_some_iff.1 h0
    obtain ⟨d, hd, hk⟩ := hT.und hi' w
    rw [hik] at hk
    rw [K.of_str hk] at hd
    split at h
    · cases h
    · rename_i hm
      obtain ⟨⟨c1, l, h', m⟩, h1, h2⟩ := Option.map_eq_some_iff.1 h
      simp only [Prod.mk.injEq] at h2
      obtain ⟨rfl, rfl⟩ := h2
      simp [Instr.sliceAt, Instr.slice, hd, hm, bndsP_run h1 hc]
  · rename_i e a len cap h0
    obtain ⟨i, hi', hik⟩ := Option.map_eq_some_iff.1 h0
    obtain ⟨d, hd, hk⟩ := hT.und hi' w
    rw [hik] at hk
    rw [K.of_sl hk] at hd
    split at h
    · cases h
    · rename_i j hj
      obtain ⟨⟨c1, l, h', m⟩, h1, h2⟩ := Option.map_eq_some_iff.1 h
      simp only [Prod.mk.injEq] at h2
      obtain ⟨rfl, rfl⟩ := h2
      simp [Instr.sliceAt, Instr.slice, hd, bndsP_run h1 hc, hT.size hj]
  · rename_i n e a h0
    obtain ⟨i, hi', hik⟩ := Option.map_eq_some_iff.1 h0
    obtain ⟨d, hd, hk⟩ := hT.und hi' w
    rw [hik] at hk
    rw [K.of_arr hk] at hd
    split at h
    · cases h
    · rename_i j hj
      obtain ⟨⟨c1, l, h', m⟩, h1, h2⟩ := Option.map_eq_some_iff.1 h
      simp only [Prod.mk.injEq] at h2
      obtain ⟨rfl, rfl⟩ := h2
      simp [Instr.sliceAt, Instr.sureAddr, hd, bndsP_run h1 hc, hT.size hj]
  · cases h

/-- A slice seen as an array. -/
def arrP (T : Tys) (t : TypeId) (x : Value) : Option (Prop × Value) :=
  match (T t).map TI.k, x with
  | some (K.arr n _), .slice a len _ => some (n ≤ len, .pointer a)
  | _, _ => none
theorem arrP_run {T : Tys} {P : Program} (hT : T.Ok P) {t : TypeId} {x : Value} {c : Prop} {v : Value} (h : arrP T t x = some (c, v)) (hc : c) (w : World) : (Instr.arrayAt t x).run P w = .ok v w := by
  unfold arrP at h
  split at h
  · rename_i n e a len cap h0
    obtain ⟨i, hi', hik⟩ := Option.map_eq_some_iff.1 h0
    obtain ⟨d, hd, hk⟩ := hT.und hi' w
    rw [hik] at hk
    rw [K.of_arr hk] at hd
    simp only [Option.some.injEq, Prod.mk.injEq] at h
    obtain ⟨rfl, rfl⟩ := h
    simp [Instr.arrayAt, hd, Nat.not_lt.2 hc]
  · cases h

def indexP (T : Tys) (t : TypeId) (x ix : Value) : Option (Prop × Value) :=
  match (T t).map TI.k, x, ix with
  | some K.str, .string s, .int _ i => some (0 ≤ i ∧ i < s.size, .int .u8 ((s.data.getD i.toNat 0).toNat : Nat))
  | _, _, _ => none
theorem indexP_run {T : Tys} {P : Program} (hT : T.Ok P) {t : TypeId} {x ix : Value} {c : Prop} {v : Value} (h : indexP T t x ix = some (c, v)) (hc : c) (w : World) :
    (Instr.index t x ix).run P w = .ok v w := by
  unfold indexP at h
  split at h
  · rename_i s k i h0
    obtain ⟨j, hj, hjk⟩ := Option.map_eq_some_iff.1 h0
    obtain ⟨d, hd, hk⟩ := hT.und hj w
    rw [hjk] at hk
    rw [K.of_str hk] at hd
    simp only [Option.some.injEq, Prod.mk.injEq] at h
    obtain ⟨rfl, rfl⟩ := h
    obtain ⟨hc0, hc1⟩ := hc
    have hlt : i.toNat < s.size := by omega
    have hg : s[i.toNat]? = some (s.data.getD i.toNat 0) := by
      have : s.data.size = s.size := rfl
      rw [getElem?_pos s i.toNat hlt]
      congr 1
      simp [this, hlt]
      rfl
    simp [Instr.index, asIntOf, hd, hc0, hg]
  · cases h

/-- An array value at a literal index is a part of it. -/
def indexAP (T : Tys) (t : TypeId) (x ix : Value) : Option (Prop × Value) :=
  match (T t).map TI.k, x, ix with
  | some (K.arr n e), .agg cs, .int _ i => match T e with
    | some j => (partP T e cs (i.toNat * j.size)).map fun v => (0 ≤ i ∧ i < n, v)
    | none => none
  | _, _, _ => none
theorem indexAP_run {T : Tys} {P : Program} (hT : T.Ok P) {t : TypeId} {x ix : Value} {c : Prop} {v : Value} (h : indexAP T t x ix = some (c, v)) (hc : c) (w : World) :
    (Instr.index t x ix).run P w = .ok v w := by
  unfold indexAP at h
  split at h
  · rename_i n e cs k i h0
    obtain ⟨j, hj, hjk⟩ := Option.map_eq_some_iff.1 h0
    obtain ⟨d, hd, hk⟩ := hT.und hj w
    rw [hjk] at hk
    rw [K.of_arr hk] at hd
    split at h
    · rename_i j' hj'
      obtain ⟨v1, h1, h2⟩ := Option.map_eq_some_iff.1 h
      simp only [Prod.mk.injEq] at h2
      obtain ⟨rfl, rfl⟩ := h2
      simp [Instr.index, asIntOf, hd, hc.1, hc.2, hT.size hj', partP_run hT h1]
    · cases h
  · cases h

def indexAddrP (T : Tys) (t : TypeId) (x ix : Value) : Option (Prop × Value) :=
  match (T t).map TI.k, x, ix with
  | some (K.sl e), .slice (some a) len _, .int _ i => (T e).map fun j => (0 ≤ i ∧ i < len, .pointer (some (a.add (i.toNat * j.size))))
  | some (K.sl e), .slice none len _, .int _ i => some (False, undef)
  | some (K.arr n e), .pointer (some a), .int _ i => (T e).map fun j => (0 ≤ i ∧ i < n, .pointer (some (a.add (i.toNat * j.size))))
  | _, _, _ => none
theorem indexAddrP_run {T : Tys} {P : Program} (hT : T.Ok P) {t : TypeId} {x ix : Value} {c : Prop} {v : Value} (h : indexAddrP T t x ix = some (c, v)) (hc : c) (w : World) :
    (Instr.indexAt t x ix).run P w = .ok v w := by
  unfold indexAddrP at h
  split at h
  · rename_i e a len cap k i h0
    obtain ⟨j, hj, hjk⟩ := Option.map_eq_some_iff.1 h0
    obtain ⟨d, hd, hk⟩ := hT.und hj w
    rw [hjk] at hk
    rw [K.of_sl hk] at hd
    obtain ⟨j', hj', h2⟩ := Option.map_eq_some_iff.1 h
    simp only [Prod.mk.injEq] at h2
    obtain ⟨rfl, rfl⟩ := h2
    simp [Instr.indexAt, asIntOf, hd, hc.1, hc.2, hT.size hj']
  · cases h; exact hc.elim
  · rename_i n e a k i h0
    obtain ⟨j, hj, hjk⟩ := Option.map_eq_some_iff.1 h0
    obtain ⟨d, hd, hk⟩ := hT.und hj w
    rw [hjk] at hk
    rw [K.of_arr hk] at hd
    obtain ⟨j', hj', h2⟩ := Option.map_eq_some_iff.1 h
    simp only [Prod.mk.injEq] at h2
    obtain ⟨rfl, rfl⟩ := h2
    simp [Instr.indexAt, Instr.sureAddr, asIntOf, hd, hc.1, hc.2, hT.size hj']
  · cases h

def fieldP (T : Tys) (t : TypeId) (x : Value) (f : Nat) : Option Value :=
  match (T t).map TI.k, x with
  | some (K.st fs), .agg cs => match fs[f]? with
    | some (off, e) => partP T e cs off
    | none => none
  | _, _ => none
theorem fieldP_run {T : Tys} {P : Program} (hT : T.Ok P) {t : TypeId} {x : Value} {f : Nat} {v : Value} (h : fieldP T t x f = some v) (w : World) :
    (Instr.field t x f).run P w = .ok v w := by
  unfold fieldP at h
  split at h
  · rename_i fs cs h0
    obtain ⟨j, hj, hjk⟩ := Option.map_eq_some_iff.1 h0
    obtain ⟨d, hd, hk⟩ := hT.und hj w
    rw [hjk] at hk
    obtain ⟨fa, rfl, hl⟩ := K.of_st hk
    split at h
    · rename_i off e he
      rw [← hl, List.getElem?_map] at he
      obtain ⟨fl, hfl, h2⟩ := Option.map_eq_some_iff.1 he
      simp only [Prod.mk.injEq] at h2
      obtain ⟨rfl, rfl⟩ := h2
      have : fa[f]? = some fl := by simpa using hfl
      simp [Instr.field, hd, this, asAgg, partP_run hT h]
    · cases h
  · cases h

/-- A field's address (a field of no cells apart). -/
def fieldAddrP (T : Tys) (t : TypeId) (x : Value) (f : Nat) : Option Value :=
  match (T t).map TI.k, x with
  | some (K.st fs), .pointer (some a) => match fs[f]? with
    | some (off, e) => match T e with
      | some i => if i.size = 0 then none else some (.pointer (some (a.add off)))
      | none => none
    | none => none
  | _, _ => none
theorem fieldAddrP_run {T : Tys} {P : Program} (hT : T.Ok P) {t : TypeId} {x : Value} {f : Nat} {v : Value} (h : fieldAddrP T t x f = some v) (w : World) :
    (Instr.fieldAt t x f).run P w = .ok v w := by
  unfold fieldAddrP at h
  split at h
  · rename_i fs a h0
    obtain ⟨j, hj, hjk⟩ := Option.map_eq_some_iff.1 h0
    obtain ⟨d, hd, hk⟩ := hT.und hj w
    rw [hjk] at hk
    obtain ⟨fa, rfl, hl⟩ := K.of_st hk
    split at h
    · rename_i off e he
      rw [← hl, List.getElem?_map] at he
      obtain ⟨fl, hfl, h2⟩ := Option.map_eq_some_iff.1 he
      simp only [Prod.mk.injEq] at h2
      obtain ⟨rfl, rfl⟩ := h2
      have h3 : fa[f]? = some fl := by simpa using hfl
      split at h
      · rename_i i hi
        split at h
        · cases h
        · rename_i hz
          cases h
          simp [Instr.fieldAt, Instr.sureAddr, hd, h3, fieldPlace, hT.size hi, hz]
      · cases h
    · cases h
  · cases h

def extractP (x : Value) (i : Nat) : Option Value := match x with | .tuple vs => vs[i]? | _ => none
theorem extractP_run {P : Program} {x : Value} {i : Nat} {v : Value} (h : extractP x i = some v) (w : World) : (Instr.extract x i).run P w = .ok v w := by
  unfold extractP at h
  split at h
  · simp [Instr.extract, h]
  · cases h

def lenP (T : Tys) (t : TypeId) (x : Value) : Option Value :=
  match (T t).map TI.k, x with
  | some K.str, .string s => some (.int .i64 s.size)
  | some (K.sl _), .slice _ n _ => some (.int .i64 n)
  | some (K.arr n _), _ => some (.int .i64 n)
  | _, _ => none
theorem lenP_run {T : Tys} {P : Program} (hT : T.Ok P) {t ty : TypeId} {ts : Array TypeId} {x v : Value} (h : lenP T t x = some v) (hts : ts[0]? = some t) (w : World) :
    (Builtin.len_ ts ty #[x]).run P w = .ok v w := by
  unfold lenP at h
  split at h
  · rename_i s h0
    obtain ⟨j, hj, hjk⟩ := Option.map_eq_some_iff.1 h0
    obtain ⟨d, hd, hk⟩ := hT.und hj w
    rw [hjk] at hk
    rw [K.of_str hk] at hd
    cases h
    simp [Builtin.len_, hts, hd, goInt]
  · rename_i h0
    obtain ⟨j, hj, hjk⟩ := Option.map_eq_some_iff.1 h0
    obtain ⟨d, hd, hk⟩ := hT.und hj w
    rw [hjk] at hk
    rw [K.of_sl hk] at hd
    cases h
    simp [Builtin.len_, hts, hd, goInt]
  · rename_i h0
    obtain ⟨j, hj, hjk⟩ := Option.map_eq_some_iff.1 h0
    obtain ⟨d, hd, hk⟩ := hT.und hj w
    rw [hjk] at hk
    rw [K.of_arr hk] at hd
    cases h
    simp [Builtin.len_, hts, hd, goInt]
  · cases h

def capP (T : Tys) (t : TypeId) (x : Value) : Option Value :=
  match (T t).map TI.k, x with
  | some (K.sl _), .slice _ _ n => some (.int .i64 n)
  | _, _ => none
theorem capP_run {T : Tys} {P : Program} (hT : T.Ok P) {t ty : TypeId} {ts : Array TypeId} {x v : Value} (h : capP T t x = some v) (hts : ts[0]? = some t) (w : World) :
    (Builtin.cap_ ts ty #[x]).run P w = .ok v w := by
  unfold capP at h
  split at h
  · rename_i h0
    obtain ⟨j, hj, hjk⟩ := Option.map_eq_some_iff.1 h0
    obtain ⟨d, hd, hk⟩ := hT.und hj w
    rw [hjk] at hk
    rw [K.of_sl hk] at hd
    cases h
    simp [Builtin.cap_, hts, hd, goInt]
  · cases h

def builtP (T : Tys) (b : Builtin) (ts : Array TypeId) (xs : List Value) : Option Value :=
  match b, xs with
  | .len, [x] => (ts[0]?).bind fun t => lenP T t x
  | .cap, [x] => (ts[0]?).bind fun t => capP T t x
  | .min, [.int k x, .int _ y] => some (.int k (if y < x then y else x))
  | .max, [.int k x, .int _ y] => some (.int k (if y > x then y else x))
  | .min, [.int k x, .int _ y, .int _ z] => some (.int k (if z < (if y < x then y else x) then z else (if y < x then y else x)))
  | _, _ => none
theorem builtP_run {T : Tys} {P : Program} (hT : T.Ok P) {b : Builtin} {ts : Array TypeId} {ty : TypeId} {cs : Array Bool} {xs : Array Value} {v : Value} (h : builtP T b ts xs.toList = some v) (w : World) :
    (builtin b ts ty cs xs).run P w = .ok (.value v) w := by
  unfold builtP at h
  obtain ⟨xs⟩ := xs
  simp only at h
  split at h
  · obtain ⟨t, h1, h2⟩ := Option.bind_eq_some_iff.1 h
    simp [builtin, lenP_run hT h2 h1]
  · obtain ⟨t, h1, h2⟩ := Option.bind_eq_some_iff.1 h
    simp [builtin, capP_run hT h2 h1]
  · cases h
    simp [builtin, Builtin.min_, Builtin.min2]
  · cases h
    simp [builtin, Builtin.max_, Builtin.max2]
  · cases h
    simp [builtin, Builtin.min_, Builtin.min2]
  · cases h

def buildP (T : Tys) (t : TypeId) (parts : List (Nat × Value)) : Option Value :=
  match T t with
  | none => none
  | some ti => match ti.k with
    | .st fs => match (fs.mapM fun (f : Nat × TypeId) => (T f.2).map fun i => (f.1, i.size)) with
      | some places => (Instr.fill (places[·]?) ti.zero.cells parts).map .agg
      | none => none
    | .arr _ e => (T e).bind fun i => (Instr.fill (fun j => some (j * i.size, i.size)) ti.zero.cells parts).map .agg
    | _ => none

theorem mapM_places {T : Tys} {P : Program} (hT : T.Ok P) (w : World) : ∀ (fs : List Field) (places : List (Nat × Nat)),
    ((fs.map fun f => (f.offset, f.type)).mapM fun (f : Nat × TypeId) => (T f.2).map fun i => (f.1, i.size)) = some places →
    (fs.mapM fun f => (do pure (f.offset, ← sizeOf f.type) : Sem (Nat × Nat))).run P w = .ok places w
  | [], places, h => by simp at h; subst h; simp
  | f :: fs, places, h => by
    simp only [List.map_cons, List.mapM_cons, Option.bind_eq_bind, Option.bind_eq_some_iff, Option.pure_def, Option.some.injEq, Option.map_eq_some_iff] at h
    obtain ⟨a, ⟨i, hi, rfl⟩, r, hr, rfl⟩ := h
    have := mapM_places hT w fs r hr
    rw [List.mapM_cons]
    simp only [Sem.run_bind, hT.size hi, Result.andThen_ok, Sem.run_pure, this]

theorem buildP_run {T : Tys} {P : Program} (hT : T.Ok P) {t : TypeId} {parts : Array (Nat × Value)} {v : Value} (h : buildP T t parts.toList = some v) (w : World) :
    (Instr.build t parts).run P w = .ok v w := by
  unfold buildP at h
  split at h
  · cases h
  · rename_i ti hti
    obtain ⟨d, hd, hk⟩ := hT.und hti w
    have hz := hT.zero hti w
    split at h
    · rename_i fs hfs
      rw [hfs] at hk
      obtain ⟨fa, rfl, hl⟩ := K.of_st hk
      split at h
      · rename_i places hp
        rw [← hl] at hp
        have hm := mapM_places hT w fa.toList places hp
        obtain ⟨cs, hcs, rfl⟩ := Option.map_eq_some_iff.1 h
        obtain ⟨fl⟩ := fa
        simp only at hm
        simp only [Instr.build, Sem.run_bind, hz, hd, Result.andThen_ok, List.mapM_toArray, Sem.run_map, hm]
        simp [hcs]
      · cases h
    · rename_i n e hfs
      rw [hfs] at hk
      rw [K.of_arr hk] at hd
      obtain ⟨i, hi, h2⟩ := Option.bind_eq_some_iff.1 h
      obtain ⟨cs, hcs, rfl⟩ := Option.map_eq_some_iff.1 h2
      simp [Instr.build, hz, hd, hT.size hi, hcs]
    · cases h

/-- The value is no nil. -/
def notNil : Value → Bool
  | .pointer none | .nilIface | .nilFunc => false
  | .func (.method _) _ _ => false
  | _ => true

def binT (T : Tys) (op : BinOp) (t : TypeId) (x y : Value) : Option (Prop × Value) := match binP op x y with
  | some r => some r
  | none => match op with
    | .eql => (eqT T t x y).map fun b => (True, .bool b)
    | .neq => (eqT T t x y).map fun b => (True, .bool (!b))
    | _ => none
/-- A pure operation: the condition under which it does not panic, and what it yields. -/
def pureP (T : Tys) (ρ : Env) : Op → Option (Prop × Value)
  | .move x | .assign x => some (True, ρ.ev x)
  | .pick c a b => match ρ.ev c with | .bool t => some (True, if t then ρ.ev a else ρ.ev b) | _ => none
  | .binOp op t x y _ => binT T op t (ρ.ev x) (ρ.ev y)
  | .unOp op _ x => (unP op (ρ.ev x)).map (True, ·)
  | .convert s d x => (convP T s d (ρ.ev x)).map (True, ·)
  | .field t x f => (fieldP T t (ρ.ev x) f).map (True, ·)
  | .fieldAddr t x f => (fieldAddrP T t (ρ.ev x) f).map (True, ·)
  | .extract x i => (extractP (ρ.ev x) i).map (True, ·)
  | .index t x i => match indexP T t (ρ.ev x) (ρ.ev i) with | some r => some r | none => indexAP T t (ρ.ev x) (ρ.ev i)
  | .indexAddr t x i => indexAddrP T t (ρ.ev x) (ρ.ev i)
  | .slice t x lo hi mx => sliceP T t (ρ.ev x) (lo.map ρ.ev) (hi.map ρ.ev) (mx.map ρ.ev)
  | .nilCheck x => if notNil (ρ.ev x) then some (True, ρ.ev x) else none
  | .sliceToArrayPointer t x => arrP T t (ρ.ev x)
  | .makeFunc fn first captured => some (True, .func fn (first.map ρ.ev) (captured.map ρ.ev))
  | .build t parts => (buildP T t (parts.toList.map fun x => (x.1, ρ.ev x.2))).map (True, ·)
  | .call c => match c.callee with
    | .builtin b => (builtP T b c.argTypes ((c.args.map ρ.ev).toList)).map (True, ·)
    | _ => none
  | _ => none

theorem pureP_run {T : Tys} {P : Program} (hT : T.Ok P) {ρ : Env} {o : Oper} {c : Prop} {v : Value} (h : pureP T ρ o.op = some (c, v)) (hc : c) (w : World) :
    (execOp ρ.ev o).run P w = .ok (.value v) w := by
  obtain ⟨d, op, ty, pos, af, gu⟩ := o
  simp only at h
  unfold execOp
  cases op <;> simp only [pureP, reduceCtorEq, Option.some.injEq, Prod.mk.injEq, Option.map_eq_some_iff] at h ⊢
  case move => rw [h.2]; rfl
  case assign => rw [h.2]; rfl
  case pick c' a b =>
    split at h
    · rename_i t ht
      simp only [Option.some.injEq, Prod.mk.injEq] at h
      rw [ht]
      simp only [asBool, pure_bind, Sem.run_pure]
      rw [h.2]
    · cases h
  case binOp op t x y yt =>
    have := binT_run (P := P) hT (t := t) (xo := x) (yo := y) h hc w
    rw [Sem.run_bind, this]; rfl
  case unOp op t x => obtain ⟨u, h1, rfl, rfl⟩ := h; rw [Sem.run_bind, unP_run h1]; rfl
  case convert s d x => obtain ⟨u, h1, rfl, rfl⟩ := h; rw [Sem.run_bind, convP_run hT h1]; rfl
  case field t x f => obtain ⟨u, h1, rfl, rfl⟩ := h; rw [Sem.run_bind, fieldP_run hT h1]; rfl
  case fieldAddr t x f => obtain ⟨u, h1, rfl, rfl⟩ := h; rw [Sem.run_bind, fieldAddrP_run hT h1]; rfl
  case extract x i => obtain ⟨u, h1, rfl, rfl⟩ := h; rw [Sem.run_bind, extractP_run h1]; rfl
  case index t x i =>
    split at h
    · rename_i r h1
      simp only [Option.some.injEq] at h
      subst h
      rw [Sem.run_bind, indexP_run hT h1 hc]; rfl
    · rw [Sem.run_bind, indexAP_run hT h hc]; rfl
  case indexAddr t x i => rw [Sem.run_bind, indexAddrP_run hT h hc]; rfl
  case slice t x lo hi mx => rw [Sem.run_bind, sliceP_run hT h hc]; rfl
  case sliceToArrayPointer t x =>
    have := arrP_run (P := P) hT h hc w
    rw [Sem.run_bind, this]; rfl
  case nilCheck x =>
    split at h
    · rename_i hn
      simp only [Option.some.injEq, Prod.mk.injEq] at h
      rw [← h.2]
      generalize ρ.ev x = u at hn ⊢
      cases u with
      | func fn a b => cases fn <;> first | rfl | (simp [notNil] at hn; done)
      | pointer a => cases a <;> first | rfl | (simp [notNil] at hn; done)
      | _ => first | rfl | (simp [notNil] at hn; done)
    · cases h
  case makeFunc fn first captured => rw [← h.2]; rfl
  case build t parts =>
    obtain ⟨u, h1, rfl, rfl⟩ := h
    rw [Sem.run_bind, buildP_run hT (by simpa using h1)]; rfl
  case call cl =>
    split at h
    · rename_i b hb
      simp only [Option.map_eq_some_iff, Prod.mk.injEq] at h
      obtain ⟨u, h1, rfl, rfl⟩ := h
      simp only [resolve, hb, Sem.run_bind, Sem.run_pure, Result.andThen_ok, invoke]
      exact builtP_run hT h1 w
    · cases h

/-! ### Cells -/
def hget (H : Heap) (b o : Nat) : Option Value := match H[b]? with
  | some (.cells c _ _) => c[o]?
  | _ => none
def hgets (H : Heap) (b : Nat) : Nat → Nat → Option (List Value)
  | _, 0 => some []
  | o, n + 1 => match hget H b o, hgets H b (o + 1) n with
    | some v, some r => some (v :: r)
    | _, _ => none
/-- A row of cells with some of them written. -/
def cput (c : Array Value) (o : Nat) (vs : List Value) : Array Value := (c.toList.take o ++ vs ++ c.toList.drop (o + vs.length)).toArray
def hput (H : Heap) (b o : Nat) (vs : List Value) : Heap := match H[b]? with
  | some (.cells c e fr) => H.setIfInBounds b (.cells (cput c o vs) e fr)
  | _ => H
/-- These cells are there, and may be written. -/
def hcan (H : Heap) (b o n : Nat) : Prop := ∃ c e fr, H[b]? = some (.cells c e fr) ∧ o + n ≤ c.size ∧ ∀ i, i < n → ¬ (fr.1 ≤ o + i ∧ o + i < fr.2)

theorem cell?_hget (w : World) (b o : Nat) : w.cell? ⟨b, o, none⟩ = hget w.heap b o := by
  unfold World.cell? hget
  cases w.heap[b]? with
  | none => rfl
  | some x => cases x <;> rfl
theorem add_none (b o n : Nat) : (⟨b, o, none⟩ : Addr).add n = ⟨b, o + n, none⟩ := by unfold Addr.add; split <;> simp_all

theorem hgets_length {H : Heap} {b : Nat} : ∀ {n o : Nat} {vs : List Value}, hgets H b o n = some vs → vs.length = n
  | 0, o, vs, h => by simp [hgets] at h; subst h; rfl
  | n + 1, o, vs, h => by
    unfold hgets at h
    split at h
    · rename_i v r h1 h2
      cases h
      simp [hgets_length h2]
    · cases h
theorem hgets_get {H : Heap} {b : Nat} : ∀ {n o : Nat} {vs : List Value}, hgets H b o n = some vs → ∀ j, j < n → hget H b (o + j) = vs[j]?
  | 0, o, vs, h, j, hj => by omega
  | n + 1, o, vs, h, j, hj => by
    unfold hgets at h
    split at h
    · rename_i v r h1 h2
      cases h
      cases j with
      | zero => simpa using h1
      | succ j =>
        have := hgets_get h2 j (by omega)
        rw [show o + (j + 1) = o + 1 + j by omega]
        simpa using this
    · cases h
theorem hgets_of {H : Heap} {b : Nat} : ∀ {n o : Nat} {vs : List Value}, vs.length = n → (∀ j, j < n → hget H b (o + j) = vs[j]?) → hgets H b o n = some vs
  | 0, o, vs, hl, h => by
    have : vs = [] := List.eq_nil_of_length_eq_zero hl
    subst this; rfl
  | n + 1, o, vs, hl, h => by
    match vs, hl with
    | v :: r, hl =>
      have h0 := h 0 (by omega)
      simp at h0
      have hr : hgets H b (o + 1) n = some r := hgets_of (by simpa using hl) fun j hj => by
        have := h (j + 1) (by omega)
        rw [show o + 1 + j = o + (j + 1) by omega]
        simpa using this
      unfold hgets
      rw [h0, hr]

theorem run_loadCells_h {P : Program} {w : World} {b o n : Nat} {vs : List Value} (h : hgets w.heap b o n = some vs) : (loadCells ⟨b, o, none⟩ n).run P w = .ok vs.toArray w := by
  have hl := hgets_length h
  rw [← hl]
  refine run_loadCells_list w _ vs fun j v hj => ?_
  rw [add_none, cell?_hget, hgets_get h j (by have := (List.getElem?_eq_some_iff.1 hj).1; omega)]
  exact hj

theorem setCell_heap {w : World} {b o : Nat} {c : Array Value} {e : TypeId} {fr : Nat × Nat} (h : w.heap[b]? = some (.cells c e fr)) (v : Value) :
    w.setCell ⟨b, o, none⟩ v = { w with heap := w.heap.setIfInBounds b (.cells (c.setIfInBounds o v) e fr) } := by
  have hlt := (Array.getElem?_eq_some_iff.1 h).1
  have hv := (Array.getElem?_eq_some_iff.1 h).2
  unfold World.setCell
  congr 1
  apply Array.ext_getElem?
  intro i
  simp only [Array.getElem?_modify, Array.getElem?_setIfInBounds]
  by_cases hi : b = i
  · subst hi
    simp [hv, hlt]
  · rw [if_neg hi, if_neg hi]

theorem frozen_heap {w : World} {b o : Nat} {c : Array Value} {e : TypeId} {fr : Nat × Nat} (h : w.heap[b]? = some (.cells c e fr)) (hf : ¬ (fr.1 ≤ o ∧ o < fr.2)) : w.frozen? ⟨b, o, none⟩ = false := by
  obtain ⟨lo, hi⟩ := fr
  simp only [World.frozen?, h]
  simp only [not_and, Nat.not_lt] at hf
  by_cases h1 : lo ≤ o
  · simp [h1, hf h1]
  · simp [h1]

theorem run_storeCells_h {P : Program} {b o : Nat} {e : TypeId} {fr : Nat × Nat} : ∀ (vs : List Value) (i : Nat) (c : Array Value) (w : World), w.heap[b]? = some (.cells c e fr) → o + i + vs.length ≤ c.size →
    (∀ j, j < vs.length → ¬ (fr.1 ≤ o + i + j ∧ o + i + j < fr.2)) → (∀ v ∈ vs, v.oneCell' = true) →
    (storeCells ⟨b, o, none⟩ vs i).run P w = .ok () { w with heap := w.heap.setIfInBounds b (.cells (cput c (o + i) vs) e fr) }
  | [], i, c, w, h, hs, hf, h1 => by
    have hlt := (Array.getElem?_eq_some_iff.1 h).1
    have hv := (Array.getElem?_eq_some_iff.1 h).2
    have hc : cput c (o + i) [] = c := by simp [cput]
    rw [hc]
    simp only [storeCells, Sem.run_pure]
    congr 1
    cases w with
    | mk heap tape drawn os output =>
      simp only at h hlt hv ⊢
      congr 1
      apply Array.ext_getElem?
      intro k
      rw [Array.getElem?_setIfInBounds]
      by_cases hk : b = k
      · subst hk; simp [hv, hlt]
      · rw [if_neg hk]
  | v :: r, i, c, w, h, hs, hf, h1 => by
    have hi : o + i < c.size := by simp at hs; omega
    have hlt := (Array.getElem?_eq_some_iff.1 h).1
    have hcell : w.cell? ⟨b, o + i, none⟩ = some c[o + i] := by simp [World.cell?, h, hi]
    have hfro : w.frozen? ⟨b, o + i, none⟩ = false := frozen_heap h (by simpa using hf 0 (by simp))
    have hw := setCell_heap (o := o + i) h v
    have h' : (w.setCell ⟨b, o + i, none⟩ v).heap[b]? = some (.cells (c.setIfInBounds (o + i) v) e fr) := by
      rw [hw]; simp [hlt]
    have ih := run_storeCells_h (P := P) (b := b) (o := o) (e := e) (fr := fr) r (i + 1) _ _ h' (by simp at hs ⊢; omega)
      (fun j hj => by have := hf (j + 1) (by simp; omega); rwa [show o + (i + 1) + j = o + i + (j + 1) by omega]) (fun u hu => h1 u (by simp [hu]))
    simp only [storeCells, Sem.run_bind, add_none]
    rw [run_store P w _ v _ (h1 v (by simp)), hcell]
    simp only [hfro, Bool.false_eq_true, if_false, Result.andThen_ok]
    rw [ih, hw]
    congr 1
    rw [show ∀ (X : Heap) (p q : Obj), (X.setIfInBounds b p).setIfInBounds b q = X.setIfInBounds b q from fun X p q => by simp]
    congr 3
    simp only [cput]
    congr 1
    apply List.ext_getElem?
    intro k
    simp only [Array.toList_setIfInBounds, List.length_cons]
    simp only [List.getElem?_append, List.getElem?_take, List.getElem?_drop, List.length_append, List.length_take, List.length_set, Array.length_toList, List.length_cons, List.getElem?_set]
    by_cases a1 : k < o + i
    · have : k < min (o + i) c.size := by omega
      have a2 : k < min (o + (i + 1)) c.size := by omega
      have a3 : k < min (o + (i + 1)) c.size + r.length := by omega
      have a4 : k < o + (i + 1) := by omega
      have a5 : ¬ (o + i = k) := by omega
      have a6 : k < min (o + i) c.size + (r.length + 1) := by omega
      simp [this, a2, a3, a4, a5, a6, a1]
    · by_cases a2 : k = o + i
      · subst a2
        have b1 : o + i < min (o + (i + 1)) c.size := by omega
        have b2 : o + i < min (o + (i + 1)) c.size + r.length := by omega
        have b3 : ¬ (o + i < min (o + i) c.size) := by omega
        have b4 : o + i < min (o + i) c.size + (r.length + 1) := by omega
        have b5 : o + i < o + (i + 1) := by omega
        have b6 : o + i - min (o + i) c.size = 0 := by omega
        simp [b1, b2, b3, b4, b5, b6, hi]
      · have c1 : ¬ (k < min (o + (i + 1)) c.size) := by omega
        have c2 : ¬ (k < min (o + i) c.size) := by omega
        have c3 : k - min (o + i) c.size = (k - min (o + (i + 1)) c.size) + 1 := by omega
        have c4 : (k < min (o + (i + 1)) c.size + r.length) ↔ (k < min (o + i) c.size + (r.length + 1)) := by omega
        simp only [c1, c2, if_false, c3, List.getElem?_cons_succ]
        by_cases d : k < min (o + (i + 1)) c.size + r.length
        · rw [if_pos d, if_pos (c4.1 d)]
        · rw [if_neg d, if_neg (fun h => d (c4.2 h))]
          have e1 : ¬ (o + i = o + (i + 1) + r.length + (k - (min (o + (i + 1)) c.size + r.length))) := by omega
          have e2 : o + (i + 1) + r.length + (k - (min (o + (i + 1)) c.size + r.length)) = o + i + (r.length + 1) + (k - (min (o + i) c.size + (r.length + 1))) := by omega
          rw [if_neg e1, e2]

theorem run_storeCells_put {P : Program} {w : World} {b o : Nat} {vs : List Value} (h : hcan w.heap b o vs.length) (h1 : ∀ v ∈ vs, v.oneCell' = true) :
    (storeCells ⟨b, o, none⟩ vs).run P w = .ok () { w with heap := hput w.heap b o vs } := by
  obtain ⟨c, e, fr, hb, hs, hf⟩ := h
  have := run_storeCells_h (P := P) (o := o) vs 0 c w hb (by simpa using hs) (by simpa using hf) h1
  rw [this]
  simp [hput, hb]

theorem hput_size (H : Heap) (b o : Nat) (vs : List Value) : (hput H b o vs).size = H.size := by
  unfold hput; split <;> simp
theorem hput_other (H : Heap) (b o : Nat) (vs : List Value) {k : Nat} (hk : k ≠ b) : (hput H b o vs)[k]? = H[k]? := by
  unfold hput
  split
  · simp [Array.getElem?_setIfInBounds, Ne.symm hk]
  · rfl
theorem hput_same {H : Heap} {b o : Nat} {vs : List Value} {c : Array Value} {e : TypeId} {fr : Nat × Nat} (h : H[b]? = some (.cells c e fr)) : (hput H b o vs)[b]? = some (.cells (cput c o vs) e fr) := by
  have hlt := (Array.getElem?_eq_some_iff.1 h).1
  unfold hput
  rw [h]
  simp [hlt]
theorem cput_size {c : Array Value} {o : Nat} {vs : List Value} (h : o + vs.length ≤ c.size) : (cput c o vs).size = c.size := by
  simp [cput]; omega
theorem cput_get_in {c : Array Value} {o : Nat} {vs : List Value} {j : Nat} (h : o + vs.length ≤ c.size) (hj : j < vs.length) : (cput c o vs)[o + j]? = vs[j]? := by
  simp only [cput, List.getElem?_toArray, List.append_assoc]
  rw [List.getElem?_append_right (by simp; omega)]
  have : o + j - (c.toList.take o).length = j := by simp; omega
  rw [this, List.getElem?_append_left hj]
theorem cput_get_out {c : Array Value} {o : Nat} {vs : List Value} {j : Nat} (h : o + vs.length ≤ c.size) (hj : j < o ∨ o + vs.length ≤ j) : (cput c o vs)[j]? = c[j]? := by
  simp only [cput, List.getElem?_toArray, List.append_assoc]
  rcases hj with hj | hj
  · rw [List.getElem?_append_left (by simp; omega)]
    simp [List.getElem?_take, hj]
  · rw [List.getElem?_append_right (by simp; omega), List.getElem?_append_right (by simp; omega)]
    simp only [List.getElem?_drop, List.length_take, Array.length_toList]
    rw [show o + vs.length + (j - min o c.size - vs.length) = j by omega]
    simp

/-! ### Operations on the heap -/
/-- A reckoning of a value, in every world of this heap. -/
def RunS (P : Program) (s : Sem Value) (H : Heap) (K : Value → Heap → Prop) : Prop :=
  ∀ w : World, w.heap = H → ∃ v w', s.run P w = .ok v w' ∧ Same w w' ∧ K v w'.heap
theorem RunS.mono {P : Program} {s : Sem Value} {H : Heap} {K K' : Value → Heap → Prop} (h : RunS P s H K) (hk : ∀ v H', K v H' → K' v H') : RunS P s H K' :=
  fun w hw => let ⟨v, w', hr, hs, h⟩ := h w hw; ⟨v, w', hr, hs, hk _ _ h⟩

def loadV (T : Tys) (t : TypeId) (p : Value) (H : Heap) (K : Value → Prop) : Prop :=
  match T t, p with
  | some ti, .pointer (some ⟨b, o, none⟩) => if ti.k.agg = true then ∃ vs, hgets H b o ti.size = some vs ∧ K (.agg vs.toArray) else ∃ v, hget H b o = some v ∧ K v
  | _, _ => False
def storeV (T : Tys) (t : TypeId) (p x : Value) (H : Heap) (K : Heap → Prop) : Prop :=
  match T t, p with
  | some ti, .pointer (some ⟨b, o, none⟩) => x.cells.size = ti.size ∧ x.cells.toList.all Value.oneCell' = true ∧ hcan H b o ti.size ∧ K (hput H b o x.cells.toList)
  | _, _ => False
def newP (H : Heap) : Value := .pointer (some ⟨H.size, 0, none⟩)
def newS (H : Heap) (l c : Nat) : Value := .slice (some ⟨H.size, 0, none⟩) l c
def allocV (T : Tys) (t : TypeId) (H : Heap) (K : Value → Heap → Prop) : Prop :=
  match T t with
  | some ti => K (newP H) (H.push (.cells ti.zero.cells t))
  | none => False
/-- n cells of zeros. -/
def zrow (z : Value) (n : Nat) : Array Value := (Array.range n).map (z.cells[· % z.cells.size]!)
/-- The cells of a slice literal whose parts are all there. -/
def fullFrom : Nat → List (Nat × Value) → Bool
  | _, [] => true
  | k, p :: r => p.1 == k && fullFrom (k + 1) r
def partsOf (size : Nat) : List (Nat × Value) → Prop
  | [] => True
  | p :: r => p.2.cells.size = size ∧ partsOf size r
def partsCells : List (Nat × Value) → List Value
  | [] => []
  | p :: r => p.2.cells.toList ++ partsCells r
theorem fullFrom_range : ∀ (k : Nat) (ps : List (Nat × Value)), fullFrom k ps = true → ps.map (·.1) = List.range' k ps.length
  | _, [], _ => rfl
  | k, p :: r, h => by
    simp only [fullFrom, Bool.and_eq_true, beq_iff_eq] at h
    simp only [List.map_cons, List.length_cons, List.range'_succ, fullFrom_range (k + 1) r h.2, h.1]
theorem partsOf_all {size : Nat} : ∀ (ps : List (Nat × Value)), partsOf size ps → ∀ p ∈ ps, p.2.cells.size = size
  | [], _, p, hp => by cases hp
  | q :: r, h, p, hp => by
    cases hp with
    | head => exact h.1
    | tail _ hp => exact partsOf_all r h.2 p hp
theorem partsCells_eq : ∀ (ps : List (Nat × Value)), partsCells ps = ps.flatMap fun p => p.2.cells.toList
  | [] => rfl
  | p :: r => by simp [partsCells, partsCells_eq r]
def bsV (T : Tys) (t : TypeId) (n : Nat) (parts : List (Nat × Value)) (H : Heap) (K : Value → Heap → Prop) : Prop :=
  match (T t).map TI.k with
  | some (V.K.sl e) => match T e with
    | some ti => n * ti.size ≤ 16777216 ∧ ti.zero.cells.size = ti.size ∧ fullFrom 0 parts = true ∧ parts.length = n ∧ partsOf ti.size parts ∧
        K (newS H n n) (H.push (.cells (partsCells parts).toArray e))
    | none => False
  | _ => False
def msV (T : Tys) (t : TypeId) (l c : Value) (H : Heap) (K : Value → Heap → Prop) : Prop :=
  match (T t).map TI.k, l, c with
  | some (V.K.sl e), .int _ l, .int _ c => match T e with
    | some ti => 0 ≤ l ∧ l ≤ c ∧ ti.bytes * c ≤ 281474976710656 ∧ c ≤ 9223372036854775807 ∧ K (newS H l.toNat c.toNat) (H.push (.cells (zrow ti.zero (c.toNat * ti.size)) e))
    | none => False
  | _, _, _ => False

def okCall (P : Program) (f : FuncId) : Bool := match P.funcs[f]? with
  | some fn => fn.name != "runtime.NumGoroutine" && fn.body.isSome
  | none => false
def callV (P : Program) (f : Value) (args : Array Value) (H : Heap) (K : Value → Heap → Prop) : Prop :=
  match f with
  | .func (.func g) first captured => okCall P g = true ∧ Fun P g (first ++ args ++ captured) H K
  | _ => False

/-- The operations that are not pure. -/
def heapV (P : Program) (T : Tys) (o : Op) (ty : TypeId) (ρ : Env) (H : Heap) (K : Value → Heap → Prop) : Prop :=
  match o with
  | .load t a => loadV T t (ρ.ev a) H (fun v => K v H)
  | .store t a x => storeV T t (ρ.ev a) (ρ.ev x) H (K undef)
  | .alloc e => allocV T e H K
  | .box e x => K (newP H) (H.push (.cells (ρ.ev x).cells e))
  | .buildSlice t n parts => bsV T t n (parts.toList.map fun x => (x.1, ρ.ev x.2)) H K
  | .makeSlice t l c => msV T t (ρ.ev l) (ρ.ev c) H K
  | .call c => match c.callee with
    | .value f => callV P (ρ.ev f) (c.args.map ρ.ev) H K
    | .builtin .append => RunS P (Builtin.append_ c.argTypes ty (c.args.map ρ.ev)) H K
    | .builtin .copy => RunS P (Builtin.copy_ c.argTypes ty (c.args.map ρ.ev)) H K
    | .builtin .delete => RunS P (Builtin.delete_ c.argTypes ty (c.args.map ρ.ev)) H K
    | .builtin .clear => RunS P (Builtin.clear_ c.argTypes ty (c.args.map ρ.ev)) H K
    | .builtin .len => RunS P (Builtin.len_ c.argTypes ty (c.args.map ρ.ev)) H K
    | _ => OpS P (execOp ρ.ev { dst := none, op := .call c, type := ty, pos := "", after := #[], guard := none }) H K
  | .convert s d x => RunS P (convert s d (ρ.ev x)) H K
  | .binOp op t x y _ => RunS P (do eqGuard op t x y (ρ.ev x) (ρ.ev y); binOp op t (ρ.ev x) (ρ.ev y)) H K
  | .makeMap t r => RunS P (Instr.makeMap t (r.map ρ.ev)) H K
  | .lookup t x i ok => RunS P (Instr.lookup t (ρ.ev x) (ρ.ev i) ok) H K
  | .range t x => RunS P (Instr.range t (ρ.ev x)) H K
  | .next i s => RunS P (Instr.next (ρ.ev i) s ty) H K
  | op => OpS P (execOp ρ.ev { dst := none, op := op, type := ty, pos := "", after := #[], guard := none }) H K

def opV (P : Program) (T : Tys) (o : Op) (ty : TypeId) (ρ : Env) (H : Heap) (K : Value → Heap → Prop) : Prop :=
  match pureP T ρ o with
  | some (c, v) => c ∧ K v H
  | none => heapV P T o ty ρ H K

theorem OpS_of_value {P : Program} {s : Sem Value} {H : Heap} {K : Value → Heap → Prop} (h : RunS P s H K) : OpS P (do pure (.value (← s)) : Sem Next) H K := by
  intro w hw
  obtain ⟨v, w', hr, hs, hk⟩ := h w hw
  simp only [Sem.run_bind, hr, Result.andThen_ok, Sem.run_pure]
  exact ⟨hs, hk⟩

theorem loadV_run {T : Tys} {P : Program} (hT : T.Ok P) {t : TypeId} {p : Value} {H : Heap} {K : Value → Prop} (h : loadV T t p H K) :
    ∃ v, K v ∧ ∀ w : World, w.heap = H → (Instr.loadAt t p).run P w = .ok v w := by
  unfold loadV at h
  split at h
  · rename_i ti b o hti
    split at h
    · rename_i hag
      obtain ⟨vs, hv, hk⟩ := h
      refine ⟨_, hk, fun w hw => ?_⟩
      subst hw
      simp [Instr.loadAt, Instr.sureAddr, loadVar, hT.isAgg hti, hag, hT.size hti, run_loadCells_h hv]
    · rename_i hag
      obtain ⟨v, hv, hk⟩ := h
      refine ⟨_, hk, fun w hw => ?_⟩
      subst hw
      simp [Instr.loadAt, Instr.sureAddr, loadVar, hT.isAgg hti, hag, cell?_hget, hv]
  · exact h.elim

theorem storeV_run {T : Tys} {P : Program} (hT : T.Ok P) {t : TypeId} {p x : Value} {H : Heap} {K : Heap → Prop} (h : storeV T t p x H K) :
    ∃ H', K H' ∧ ∀ w : World, w.heap = H → (Instr.storeAt t p x).run P w = .ok () { w with heap := H' } := by
  unfold storeV at h
  split at h
  · rename_i ti b o hti
    obtain ⟨h1, h2, h3, h4⟩ := h
    refine ⟨_, h4, fun w hw => ?_⟩
    subst hw
    have hl : x.cells.toList.length = ti.size := by simpa using h1
    have := run_storeCells_put (P := P) (w := w) (b := b) (o := o) (vs := x.cells.toList) (by rw [hl]; exact h3) (fun v hv => (List.all_eq_true.1 h2) v hv)
    simp [Instr.storeAt, Instr.sureAddr, storeVar, hT.size hti, h1, this]
  · exact h.elim

theorem fill_full {size : Nat} : ∀ (parts : List (Nat × Value)) (k : Nat) (done : List Value) (rest : List Value),
    parts.map (·.1) = List.range' k parts.length → (∀ p ∈ parts, p.2.cells.size = size) → done.length = k * size → rest.length = parts.length * size →
    Instr.fill (fun i => some (i * size, size)) (done ++ rest).toArray parts = some (done ++ parts.flatMap fun p => p.2.cells.toList).toArray
  | [], k, done, rest, _, _, _, hr => by
    have : rest = [] := List.eq_nil_of_length_eq_zero (by simpa using hr)
    subst this
    simp [Instr.fill]
  | (i, v) :: r, k, done, rest, hp, hs, hd, hr => by
    simp only [List.map_cons, List.length_cons, List.range'_succ, List.cons.injEq] at hp
    obtain ⟨rfl, hp⟩ := hp
    have hv : v.cells.size = size := hs (i, v) (by simp)
    have hr' : size ≤ rest.length := by rw [hr]; simp [Nat.add_mul]
    unfold Instr.fill
    have hbig : ¬ (i * size + v.cells.size > (done ++ rest).toArray.size) := by simp [hd]; omega
    simp only [hv, ne_eq, not_true_eq_false, false_or]
    rw [hv] at hbig
    rw [if_neg (by simpa using hbig)]
    have hfold : ∀ (cs : List Value) (j : Nat) (d r0 : List Value), d.length = i * size + j → cs.length ≤ r0.length →
        (cs.zipIdx j).foldl (fun acc (x : Value × Nat) => acc.setIfInBounds (i * size + x.2) x.1) (d ++ r0).toArray = (d ++ cs ++ r0.drop cs.length).toArray := by
      intro cs
      induction cs with
      | nil => intro j d r0 _ _; simp
      | cons c cs ih =>
        intro j d r0 hdl hl
        match r0, hl with
        | x :: r0, hl =>
          simp only [List.zipIdx_cons, List.foldl_cons]
          have : (d ++ x :: r0).toArray.setIfInBounds (i * size + j) c = ((d ++ [c]) ++ r0).toArray := by
            rw [← hdl]
            simp
          rw [this, ih (j + 1) (d ++ [c]) r0 (by simp [hdl]; omega) (by simpa using hl)]
          simp
    have hz : v.cells.zipIdx.foldl (fun cs (x : Value × Nat) => cs.setIfInBounds (i * size + x.2) x.1) (done ++ rest).toArray = (done ++ v.cells.toList ++ rest.drop size).toArray := by
      rw [← Array.foldl_toList, Array.toList_zipIdx]
      have := hfold v.cells.toList 0 done rest (by simpa using hd) (by simpa [hv] using hr')
      simpa [hv] using this
    rw [hz]
    have ih := fill_full r (i + 1) (done ++ v.cells.toList) (rest.drop size) (by simpa using hp) (fun p hp => hs p (by simp [hp])) (by simp [hd, hv, Nat.add_mul]) (by simp [hr, Nat.add_mul])
    rw [ih]
    simp

theorem bsV_run {T : Tys} {P : Program} (hT : T.Ok P) {t : TypeId} {n : Nat} {parts : Array (Nat × Value)} {H : Heap} {K : Value → Heap → Prop} (h : bsV T t n parts.toList H K) :
    RunS P (Instr.buildSlice t n parts) H K := by
  unfold bsV at h
  split at h
  · rename_i e h0
    obtain ⟨j, hj, hjk⟩ := Option.map_eq_some_iff.1 h0
    split at h
    · rename_i ti hti
      obtain ⟨h1, h2, h3, hlen, h4, h5⟩ := h
      rw [partsCells_eq] at h5
      replace h4 := partsOf_all _ h4
      replace h3 := fullFrom_range _ _ h3
      intro w hw
      subst hw
      obtain ⟨d, hd, hk⟩ := hT.und hj w
      rw [hjk] at hk
      rw [V.K.of_sl hk] at hd
      have hbig : ¬ (16777216 < n * ti.size) := by omega
      let z : List Value := ((Array.range (n * ti.size)).map fun k => ti.zero.cells[k % ti.size]!).toList
      have hz : (((Array.range (n * ti.size)).map fun k => ti.zero.cells[k % ti.size]!) : Array Value) = ([] ++ z).toArray := by simp only [List.nil_append, z, Array.toArray_toList]
      have hzl : z.length = parts.toList.length * ti.size := by simp [z, hlen]
      have hfill := fill_full (size := ti.size) parts.toList 0 [] z h3 h4 (by simp) hzl
      simp only [List.nil_append] at hfill
      by_cases hn : n * ti.size = 0
      · have hz0 : z = [] := List.eq_nil_of_length_eq_zero (by rw [hzl, hlen]; exact hn)
        rw [hz0] at hfill
        refine ⟨newS w.heap n n, { w with heap := w.heap.push (.cells (parts.toList.flatMap fun p => p.2.cells.toList).toArray e) }, ?_, ?_, h5⟩
        · simp only [Instr.buildSlice, Sem.run_bind, hd, hT.size hti, Result.andThen_ok, hn]
          simp [hfill, newRow, newS, show Array.range 0 = #[] from rfl]
        · exact ⟨rfl, rfl, rfl, trivial⟩
      · refine ⟨newS w.heap n n, { w with heap := w.heap.push (.cells (parts.toList.flatMap fun p => p.2.cells.toList).toArray e) }, ?_, ?_, h5⟩
        · simp only [Instr.buildSlice, Sem.run_bind, hd, hT.size hti, Result.andThen_ok]
          simp only [List.nil_append] at hz
          simp [hbig, hn, hT.zero hti, h2, hz, hfill, newRow, newS]
        · exact ⟨rfl, rfl, rfl, trivial⟩
    · exact h.elim
  · exact h.elim

theorem msV_run {T : Tys} {P : Program} (hT : T.Ok P) {t : TypeId} {l c : Value} {H : Heap} {K : Value → Heap → Prop} (h : msV T t l c H K) :
    RunS P (Instr.makeSlice t l c) H K := by
  unfold msV at h
  split at h
  · rename_i e kl l kc c h0
    obtain ⟨j, hj, hjk⟩ := Option.map_eq_some_iff.1 h0
    split at h
    · rename_i ti hti
      obtain ⟨h1, h2, h3, h4, h5⟩ := h
      intro w hw
      subst hw
      obtain ⟨d, hd, hk⟩ := hT.und hj w
      rw [hjk] at hk
      rw [V.K.of_sl hk] at hd
      obtain ⟨inf, hinf, hb⟩ := hT.bytes hti w
      have hwl : IntKind.i64.wrap l = l := by simp only [IntKind.wrap, IntKind.bits, IntKind.signed]; simp; omega
      have hwc : IntKind.i64.wrap c = c := by simp only [IntKind.wrap, IntKind.bits, IntKind.signed]; simp; omega
      have e1 : ¬ (c < 0) := by omega
      have e2 : ¬ (l < 0) := by omega
      have e3 : ¬ (c < l) := by omega
      have e4 : ¬ (281474976710656 < (ti.bytes : Int) * c) := by omega
      refine ⟨newS w.heap l.toNat c.toNat, { w with heap := w.heap.push (.cells (zrow ti.zero (c.toNat * ti.size)) e) }, ?_, ?_, h5⟩
      · by_cases hn : c.toNat * ti.size = 0
        · simp [Instr.makeSlice, hd, asInt, asIntOf, hinf, hb, hwl, hwc, e1, e2, e3, e4, hT.size hti, hn, newRow, zrow, newS, hT.zero hti, show Array.range 0 = #[] from rfl]
        · simp [Instr.makeSlice, hd, asInt, asIntOf, hinf, hb, hwl, hwc, e1, e2, e3, e4, hT.size hti, hn, newRow, zrow, newS, hT.zero hti, show Array.range 0 = #[] from rfl]
      · exact ⟨rfl, rfl, rfl, trivial⟩
    · exact h.elim
  · exact h.elim

theorem callV_run {P : Program} {f : Value} {args : Array Value} {H : Heap} {K : Value → Heap → Prop} (h : callV P f args H K) :
    OpS P (do let d ← Deferred.ofValue f args; invoke d.target d.args) H K := by
  unfold callV at h
  split at h
  · rename_i g first captured
    obtain ⟨h1, h2⟩ := h
    intro w hw
    subst hw
    unfold okCall at h1
    split at h1
    · rename_i fn hfn
      simp only [Bool.and_eq_true, bne_iff_ne, ne_eq] at h1
      obtain ⟨bd, hbd⟩ := Option.isSome_iff_exists.1 h1.2
      simp [Deferred.ofValue, invoke, callFunc, hfn, h1.1, hbd]
      exact ⟨Same.refl _, by simpa using h2⟩
    · cases h1
  · exact h.elim

theorem opV_sound {P : Program} {T : Tys} (hT : T.Ok P) {o : Oper} {ρ : Env} {H : Heap} {K : Value → Heap → Prop} (h : opV P T o.op o.type ρ H K) : OpS P (execOp ρ.ev o) H K := by
  obtain ⟨d, op, ty, pos, af, gu⟩ := o
  simp only at h
  unfold opV at h
  split at h
  · rename_i c v hp
    obtain ⟨hc, hk⟩ := h
    intro w hw
    rw [pureP_run hT (o := ⟨d, op, ty, pos, af, gu⟩) hp hc w]
    exact ⟨Same.refl _, hw ▸ hk⟩
  · unfold heapV at h
    split at h
    · obtain ⟨v, hk, hr⟩ := loadV_run hT h
      intro w hw
      simp only [execOp, Sem.run_bind, hr w hw, Result.andThen_ok, Sem.run_pure]
      exact ⟨Same.refl _, hw ▸ hk⟩
    · obtain ⟨H', hk, hr⟩ := storeV_run hT h
      intro w hw
      simp only [execOp, Sem.run_bind, hr w hw, Result.andThen_ok, Sem.run_pure]
      exact ⟨⟨rfl, rfl, rfl, trivial⟩, hk⟩
    · rename_i e _
      refine OpS_of_value (s := Instr.alloc e true (.tuple #[])) fun w hw => ?_
      subst hw
      unfold allocV at h
      split at h
      · rename_i ti hti
        exact ⟨newP w.heap, { w with heap := w.heap.push (.cells ti.zero.cells e) }, by simp [Instr.alloc, hT.zero hti, newVar, newRow, newP], ⟨rfl, rfl, rfl, trivial⟩, h⟩
      · exact h.elim
    · rename_i e x _
      refine OpS_of_value (s := Instr.box e (ρ.ev x)) fun w hw => ?_
      subst hw
      exact ⟨newP w.heap, { w with heap := w.heap.push (.cells (ρ.ev x).cells e) }, by simp [Instr.box, newVar, newRow, newP], ⟨rfl, rfl, rfl, trivial⟩, h⟩
    · exact OpS_of_value (bsV_run hT (by simpa using h))
    · exact OpS_of_value (msV_run hT h)
    · rename_i c _
      split at h
      · rename_i f hf
        have := callV_run h
        simpa only [execOp, resolve, hf] using this
      all_goals first
        | (rename_i hf
           have := OpS_of_value h
           simpa [execOp, resolve, hf, invoke, builtin] using this)
        | exact h
    · exact OpS_of_value h
    · exact OpS_of_value h
    · exact OpS_of_value h
    · exact OpS_of_value h
    · exact OpS_of_value h
    · exact OpS_of_value h
    · exact h

/-! ### Commands -/
/-- The orders in which a region's operations may come up, by their numbers. -/
inductive Pl where
  | done
  | step (k i : Nat) (r : Pl)
  | both (i : Nat) (p : Pl) (j : Nat) (q : Pl)
  | three (i : Nat) (p : Pl) (j : Nat) (q : Pl) (k : Nat) (r : Pl)
  deriving Inhabited
inductive Tr where
  | done
  | step (k : Nat) (o : O) (r : Tr)
  | both (o : O) (p : Tr) (o' : O) (q : Tr)
  | three (o : O) (p : Tr) (o' : O) (q : Tr) (o'' : O) (r : Tr)
  deriving Inhabited

inductive Cmd where
  | skip | ret
  | exit (id : Nat)
  | seq (a b : Cmd)
  | cond (c : Operand) (a b : Cmd)
  | block (id : Nat) (b : Cmd)
  | loop (b : Cmd)
  | ops (l : List O)
  | quiet (l : List O)
  | still (k : Nat) (l : List O)
  | scope (b : Cmd)
  | label (l : Nat)
  | goto (l : Nat)
  | draw (l : Tr)
  | drawn (l : Tr)
  | rangeF (g : Operand) (ps : Array Tmp) (a b : Cmd)
  | other (c : Code)
  deriving Inhabited

/-- An operation of a region, written down: none if it is not to be reckoned. -/
def dstOk (n : Nat) : Option Nat → Bool
  | some d => decide (d < n)
  | none => true
def compO (n : Nat) (ops : Array Oper) (o : Oper) : Option O :=
  if dstOk n o.dst = true then
    match o.guard with
    | none => some { dst := o.dst, op := o.op, type := o.type, guard := none }
    | some (j, want) => match (ops[j]?).bind (·.dst) with
      | some d => some { dst := o.dst, op := o.op, type := o.type, guard := some (d, want) }
      | none => none
  else none

/-- Aggregates that are compared: their comparison is carried out, not reckoned. -/
def aggTy (t : TypeId) : Bool := ([350, 352] : List Nat).contains t
/-- What is converted by reading memory: carried out. -/
def convTy (t : TypeId) : Bool := ([53] : List Nat).contains t
/-- Reads, and reckons: calls nothing, makes nothing, writes nothing. -/
def Op.plain : Op → Bool
  | .binOp _ t _ _ _ => !aggTy t
  | .convert t _ _ => !convTy t
  | .move _ | .assign _ | .pick .. | .load .. | .nilCheck _ | .unOp .. | .fieldAddr .. | .field .. | .indexAddr .. | .index .. | .slice .. | .extract .. | .makeFunc .. | .build .. | .sliceToArrayPointer .. => true
  | .call { callee := .builtin b, .. } => (b matches .len | .cap | .min | .max)
  | _ => false
/-- Calls that leave the heap as it was, as far as regions are reckoned so. -/
def quietFn (f : FuncId) : Bool := ([268, 14, 286, 41, 81, 77, 273, 323, 330, 326, 331, 304, 16, 207, 201] : List Nat).contains f
def Op.plainCall : Op → Bool
  | .call { callee := .value (.func f), .. } => quietFn f
  | o => Op.plain o

def findK (ops : Array Oper) : Nat → Nat → Option Nat
  | 0, _ => none
  | f + 1, k => if Region.lexTailB .any ops k then some k else findK ops f (k + 1)

/-- Calls that turn what stood before: nothing but reckonings and such as these may follow. -/
def lastFn (f : FuncId) : Bool := ([63, 202, 205, 95, 68, 70, 24, 23, 179, 188, 186, 89, 91, 93, 203, 34, 210, 208, 12] : List Nat).contains f
/-- How an operation of a region that draws its order is met: 0 it reads (taken first), 1 it leaves the old blocks (a call, a making), 2 the last that does anything else, 3 a reckoning behind that. -/
def Op.kind : Op → Nat
  | .call { callee := .value (.func f), .. } => if lastFn f then 2 else 1
  | .alloc .. | .box .. | .buildSlice .. | .makeSlice .. => 1
  | .binOp _ t _ _ _ => if aggTy t then 1 else 0
  | .convert t _ _ => if convTy t then 1 else 0
  | o => if Op.plain o then 0 else 2
def Op.reads : Op → Bool
  | .load .. => true
  | _ => false
def plan (ops : Array Oper) (ds : List Nat) : Nat → Array Bool → Bool → Option Pl
  | 0, l, _ => if Region.ready .any ops l == [] then some .done else none
  | f + 1, l, seen =>
    match (List.range ops.size).find? fun i => match ops[i]? with
      | some o => Op.plain o.op && (if Op.reads o.op then !seen && takeB .any ops ds l (l.setIfInBounds i true) i else anyB .any ops l (l.setIfInBounds i true) i)
      | none => false with
    | some i => (plan ops ds f (l.setIfInBounds i true) seen).map (.step (if (ops[i]?).any (Op.reads ·.op) then 0 else 3) i)
    | none => match Region.ready .any ops l with
      | [] => some .done
      | [i] => if ds.contains i then (plan ops ds f (l.setIfInBounds i true) true).map (.step 2 i)
        else if seen then none else (plan ops ds f (l.setIfInBounds i true) false).map (.step 1 i)
      | [i, j] => if seen || ds.contains i || ds.contains j then none else
        (plan ops ds f (l.setIfInBounds i true) false).bind fun p => (plan ops ds f (l.setIfInBounds j true) false).map fun q => .both i p j q
      | [i, j, k] => if seen || ds.contains i || ds.contains j || ds.contains k then none else
        (plan ops ds f (l.setIfInBounds i true) false).bind fun p => (plan ops ds f (l.setIfInBounds j true) false).bind fun q => (plan ops ds f (l.setIfInBounds k true) false).map fun r => .three i p j q k r
      | _ => none
def Pl.depth : Pl → Nat
  | .done => 0
  | .step _ _ r => r.depth + 1
  | .both _ p _ q => max p.depth q.depth + 1
  | .three _ p _ q _ r => max (max p.depth q.depth) r.depth + 1
def Pl.tail : Pl → Bool
  | .done => true
  | .step k _ r => (k == 2 || k == 3) && r.tail
  | .both .. => false
  | .three .. => false
def okSteps (ops : Array Oper) (ds : List Nat) : Pl → Array Bool → Bool
  | .done, l => Region.ready .any ops l == []
  | .step 0 i r, l => takeB .any ops ds l (l.setIfInBounds i true) i && okSteps ops ds r (l.setIfInBounds i true)
  | .step 1 i r, l => readyB .any ops l (l.setIfInBounds i true) i && !ds.contains i && okSteps ops ds r (l.setIfInBounds i true)
  | .step 2 i r, l => readyB .any ops l (l.setIfInBounds i true) i && ds.contains i && r.tail && okSteps ops ds r (l.setIfInBounds i true)
  | .step _ i r, l => anyB .any ops l (l.setIfInBounds i true) i && okSteps ops ds r (l.setIfInBounds i true)
  | .both i p j q, l => (Region.ready .any ops l == [i, j]) && !ds.contains i && !ds.contains j && okSteps ops ds p (l.setIfInBounds i true) && okSteps ops ds q (l.setIfInBounds j true)
  | .three i p j q k r, l => (Region.ready .any ops l == [i, j, k]) && !ds.contains i && !ds.contains j && !ds.contains k && okSteps ops ds p (l.setIfInBounds i true) && okSteps ops ds q (l.setIfInBounds j true) && okSteps ops ds r (l.setIfInBounds k true)
def drawO (n : Nat) (ops : Array Oper) : Pl → Option Tr
  | .done => some .done
  | .step k i r => match ops[i]? with
    | some o => match compO n ops o, drawO n ops r with
      | some o', some r' => some (.step k o' r')
      | _, _ => none
    | none => none
  | .both i p j q => match ops[i]?, ops[j]? with
    | some oi, some oj => match compO n ops oi, drawO n ops p, compO n ops oj, drawO n ops q with
      | some oi', some p', some oj', some q' => some (.both oi' p' oj' q')
      | _, _, _, _ => none
    | _, _ => none
  | .three i p j q k r => match ops[i]?, ops[j]?, ops[k]? with
    | some oi, some oj, some ok => match compO n ops oi, drawO n ops p, compO n ops oj, drawO n ops q, compO n ops ok, drawO n ops r with
      | some oi', some p', some oj', some q', some ok', some r' => some (.three oi' p' oj' q' ok' r')
      | _, _, _, _, _, _ => none
    | _, _, _ => none
def lasts (ops : Array Oper) : List Nat := (List.range ops.size).filter fun i => match ops[i]? with
  | some o => Op.kind o.op == 2 || (Op.kind o.op == 1 && (List.range i).any fun j => match ops[j]? with | some o => Op.kind o.op == 2 | none => false)
  | none => false
def Pl.line : Pl → Bool
  | .done => true
  | .step _ _ r => r.line
  | .both .. => false
  | .three .. => false
/-- Op.kind, where an append leaves the old blocks (what it grows is new in the region). -/
def Op.kindA : Op → Nat
  | .call { callee := .builtin .append, .. } => 1
  | o => Op.kind o
def lastsA (ops : Array Oper) : List Nat := (List.range ops.size).filter fun i => match ops[i]? with
  | some o => Op.kindA o.op == 2 || (Op.kindA o.op == 1 && (List.range i).any fun j => match ops[j]? with | some o => Op.kindA o.op == 2 | none => false)
  | none => false
/-- A plan where appends count as what leaves the old blocks. -/
def drawA (n : Nat) (id : Nat) (ops : Array Oper) : Cmd :=
  match plan ops (lastsA ops) ops.size (Array.replicate ops.size false) false with
  | some s => if okSteps ops (lastsA ops) s (Array.replicate ops.size false) && Nat.ble s.depth ops.size then
      match drawO n ops s with
      | some l => .draw l
      | none => .other (.region id ops true)
    else .other (.region id ops true)
  | none => .other (.region id ops true)
/-- Where old blocks are turned and others are read on: which blocks stay is said where it is met. -/
def drawnC (n : Nat) (id : Nat) (ops : Array Oper) : Cmd :=
  match plan ops [] ops.size (Array.replicate ops.size false) false with
  | some s => if okSteps ops [] s (Array.replicate ops.size false) && Nat.ble s.depth ops.size then
      match drawO n ops s with
      | some l => if s.line then .drawn l else drawA n id ops
      | none => .other (.region id ops true)
    else drawA n id ops
  | none => drawA n id ops
def drawC (n : Nat) (id : Nat) (ops : Array Oper) : Cmd :=
  match plan ops (lasts ops) ops.size (Array.replicate ops.size false) false with
  | some s => if okSteps ops (lasts ops) s (Array.replicate ops.size false) && Nat.ble s.depth ops.size then
      match drawO n ops s with
      | some l => .draw l
      | none => .other (.region id ops true)
    else drawnC n id ops
  | none => drawnC n id ops

def comp (n : Nat) : Code → Cmd
  | .skip => .skip
  | .ret => .ret
  | .exit id => .exit id
  | .seq a b => .seq (comp n a) (comp n b)
  | .cond c a b => .cond c (comp n a) (comp n b)
  | .block id b => .block id (comp n b)
  | .loop b => .loop (comp n b)
  | .scope b => .scope (comp n b)
  | .label l => .label l
  | .goto l => .goto l
  | .rangeFunc g ps a b => .rangeF g ps (comp n a) (comp n b)
  | .region id ops false => match ops.toList.mapM (compO n ops) with
    | some l => .ops l
    | none => .other (.region id ops false)
  | .region id ops true => match ops.toList.mapM (compO n ops) with
    | some l =>
      if l.all (fun o => Op.plainCall o.op) && Region.lexB .any ops then .quiet l
      else match findK ops ops.size 0 with
        | some k => if (l.take k).all (fun o => Op.plain o.op) && Region.lexTailB .any ops k then .still k l else drawC n id ops
        | none => drawC n id ops
    | none => .other (.region id ops true)
  | c => .other c

inductive Ex where
  | norm | ret
  | exit (id : Nat)
  | goto (l : Nat)
def Ex.to : Ex → Exit
  | .norm => .normal | .ret => .ret | .exit i => .exit i | .goto l => .goto l

abbrev Post := Ex → Env → Heap → Prop

/-- What holds behind a command that is followed by another. -/
def Post.seq (next : Env → Heap → Prop) (Q : Post) : Post
  | .norm, ρ, H => next ρ H
  | e, ρ, H => Q e ρ H
def Post.block (id : Nat) (Q : Post) : Post
  | .exit i, ρ, H => if i = id then Q .norm ρ H else Q (.exit i) ρ H
  | e, ρ, H => Q e ρ H

def guardV (v : Value) (want : Bool) (A B : Prop) : Prop := match v with
  | .bool b => (b = want → A) ∧ (b = !want → B)
  | _ => B
def condV (v : Value) (A B : Prop) : Prop := match v with
  | .bool b => (b = true → A) ∧ (b = false → B)
  | _ => False

/-- By a Bool that is known. -/
def condB (b : Bool) (A B : Prop) : Prop := match b with | true => A | false => B
@[go_sem ↓] theorem condB_true {A B : Prop} : condB true A B = A := propext Iff.rfl
@[go_sem ↓] theorem condB_false {A B : Prop} : condB false A B = B := propext Iff.rfl

def opsV (P : Program) (T : Tys) : List O → Env → Heap → (Env → Heap → Prop) → Prop
  | [], ρ, H, K => K ρ H
  | o :: r, ρ, H, K => match o.guard with
    | none => opV P T o.op o.type ρ H (fun v H' => opsV P T r (ρ.put o.dst v) H' K)
    | some (d, want) => guardV (ρ d) want (opV P T o.op o.type ρ H (fun v H' => opsV P T r (ρ.put o.dst v) H' K)) (opsV P T r (ρ.put o.dst undef) H K)

/-- An operation that only reads. -/
def opR (T : Tys) (o : Op) (ρ : Env) (H : Heap) (K : Value → Prop) : Prop :=
  match pureP T ρ o with
  | some (c, v) => c ∧ K v
  | none => match o with
    | .load t a => loadV T t (ρ.ev a) H K
    | _ => False
def opsR (T : Tys) : List O → Env → Heap → (Env → Prop) → Prop
  | [], ρ, H, K => K ρ
  | o :: r, ρ, H, K => match o.guard with
    | none => opR T o.op ρ H (fun v => opsR T r (ρ.put o.dst v) H K)
    | some (d, want) => guardV (ρ d) want (opR T o.op ρ H (fun v => opsR T r (ρ.put o.dst v) H K)) (opsR T r (ρ.put o.dst undef) H K)

/-- A call that turns nothing and has one answer. -/
def FunQ (P : Program) (f : FuncId) (args : Array Value) (H : Heap) (v : Value) : Prop := Fun P f args H fun u H' => u = v ∧ H' = H
def opQ (P : Program) (T : Tys) (o : Op) (ρ : Env) (H : Heap) (K : Value → Prop) : Prop :=
  match pureP T ρ o with
  | some (c, v) => c ∧ K v
  | none => match o with
    | .load t a => loadV T t (ρ.ev a) H K
    | .call c => match c.callee with
      | .value f => match ρ.ev f with
        | .func (.func g) first captured => okCall P g = true ∧ ∃ v, FunQ P g (first ++ c.args.map ρ.ev ++ captured) H v ∧ K v
        | _ => False
      | _ => False
    | _ => False
def opsQ (P : Program) (T : Tys) : List O → Env → Heap → (Env → Prop) → Prop
  | [], ρ, H, K => K ρ
  | o :: r, ρ, H, K => match o.guard with
    | none => opQ P T o.op ρ H (fun v => opsQ P T r (ρ.put o.dst v) H K)
    | some (d, want) => guardV (ρ d) want (opQ P T o.op ρ H (fun v => opsQ P T r (ρ.put o.dst v) H K)) (opsQ P T r (ρ.put o.dst undef) H K)

/-- What was there is as it was. -/
structure Upto (B : Nat) (H H' : Heap) : Prop where
  size : H.size ≤ H'.size
  get : ∀ b, b < B → H'[b]? = H[b]?
/-- All that there was is as it was. -/
abbrev Ext (H H' : Heap) : Prop := Upto H.size H H'
def pureOnly (T : Tys) (o : Op) (ρ : Env) (K : Value → Prop) : Prop := match pureP T ρ o with
  | some (c, v) => c ∧ K v
  | none => False
/-- One operation of a region that draws its order; H0 the heap at the region's start. -/
def drawV (P : Program) (T : Tys) (H0 : Heap) (k : Nat) (o : O) (ρ : Env) (H : Heap) (K : Value → Heap → Prop) : Prop := match k with
  | 0 => opR T o.op ρ H0 (fun v => K v H)
  | 1 => opV P T o.op o.type ρ H (fun v H' => Ext H0 H' ∧ K v H')
  | 2 => opV P T o.op o.type ρ H K
  | _ => pureOnly T o.op ρ (fun v => K v H)
def drawsV (P : Program) (T : Tys) (H0 : Heap) : Tr → Env → Heap → (Env → Heap → Prop) → Prop
  | .done, ρ, H, K => K ρ H
  | .step k o r, ρ, H, K => match o.guard with
    | none => drawV P T H0 k o ρ H (fun v H' => drawsV P T H0 r (ρ.put o.dst v) H' K)
    | some (d, want) => guardV (ρ d) want (drawV P T H0 k o ρ H (fun v H' => drawsV P T H0 r (ρ.put o.dst v) H' K)) (drawsV P T H0 r (ρ.put o.dst undef) H K)
  | .both o p o' q, ρ, H, K =>
    (match o.guard with
    | none => drawV P T H0 1 o ρ H (fun v H' => drawsV P T H0 p (ρ.put o.dst v) H' K)
    | some (d, want) => guardV (ρ d) want (drawV P T H0 1 o ρ H (fun v H' => drawsV P T H0 p (ρ.put o.dst v) H' K)) (drawsV P T H0 p (ρ.put o.dst undef) H K)) ∧
    (match o'.guard with
    | none => drawV P T H0 1 o' ρ H (fun v H' => drawsV P T H0 q (ρ.put o'.dst v) H' K)
    | some (d, want) => guardV (ρ d) want (drawV P T H0 1 o' ρ H (fun v H' => drawsV P T H0 q (ρ.put o'.dst v) H' K)) (drawsV P T H0 q (ρ.put o'.dst undef) H K))
  | .three o p o' q o'' r, ρ, H, K =>
    (match o.guard with
    | none => drawV P T H0 1 o ρ H (fun v H' => drawsV P T H0 p (ρ.put o.dst v) H' K)
    | some (d, want) => guardV (ρ d) want (drawV P T H0 1 o ρ H (fun v H' => drawsV P T H0 p (ρ.put o.dst v) H' K)) (drawsV P T H0 p (ρ.put o.dst undef) H K)) ∧
    (match o'.guard with
    | none => drawV P T H0 1 o' ρ H (fun v H' => drawsV P T H0 q (ρ.put o'.dst v) H' K)
    | some (d, want) => guardV (ρ d) want (drawV P T H0 1 o' ρ H (fun v H' => drawsV P T H0 q (ρ.put o'.dst v) H' K)) (drawsV P T H0 q (ρ.put o'.dst undef) H K)) ∧
    (match o''.guard with
    | none => drawV P T H0 1 o'' ρ H (fun v H' => drawsV P T H0 r (ρ.put o''.dst v) H' K)
    | some (d, want) => guardV (ρ d) want (drawV P T H0 1 o'' ρ H (fun v H' => drawsV P T H0 r (ρ.put o''.dst v) H' K)) (drawsV P T H0 r (ρ.put o''.dst undef) H K))

/-- These blocks are as they were. -/
def Kept (N : Nat → Prop) (H0 H : Heap) : Prop := H0.size ≤ H.size ∧ ∀ b, b < H0.size → N b → H[b]? = H0[b]?
def inV (N : Nat → Prop) : Value → Prop
  | .pointer (some a) => N a.block
  | _ => False
def drawNV (P : Program) (T : Tys) (N : Nat → Prop) (H0 : Heap) (k : Nat) (o : O) (ρ : Env) (H : Heap) (K : Value → Heap → Prop) : Prop := match k with
  | 0 => match o.op with
    | .load t x => inV N (ρ.ev x) ∧ opR T (.load t x) ρ H0 (fun v => K v H)
    | _ => False
  | 1 => opV P T o.op o.type ρ H (fun v H' => Kept N H0 H' ∧ K v H')
  | _ => pureOnly T o.op ρ (fun v => K v H)
def drawsNV (P : Program) (T : Tys) (N : Nat → Prop) (H0 : Heap) : Tr → Env → Heap → (Env → Heap → Prop) → Prop
  | .done, ρ, H, K => K ρ H
  | .step k o r, ρ, H, K => match o.guard with
    | none => drawNV P T N H0 k o ρ H (fun v H' => drawsNV P T N H0 r (ρ.put o.dst v) H' K)
    | some (d, want) => guardV (ρ d) want (drawNV P T N H0 k o ρ H (fun v H' => drawsNV P T N H0 r (ρ.put o.dst v) H' K)) (drawsNV P T N H0 r (ρ.put o.dst undef) H K)
  | .both .., _, _, _ => False
  | .three .., _, _, _ => False
def DrawnV (P : Program) (T : Tys) (l : Tr) (ρ : Env) (H : Heap) (K : Env → Heap → Prop) : Prop := ∃ N, drawsNV P T N H l ρ H K

/-- A loop, or whatever is left, by its meaning. -/
def LoopV (P : Program) (n : Nat) (m : Cmd) (ρ : Env) (H : Heap) (Q : Post) : Prop :=
  ∀ c, comp n c = m → ∀ (a : Act) (w : World), Has n a ρ → w.heap = H →
    (Code.loop c).wp P (fun e a' w' => ∃ x ρ', e = Ex.to x ∧ Has n a' ρ' ∧ Same w w' ∧ Q x ρ' w'.heap) a w
def OtherV (P : Program) (n : Nat) (c : Code) (ρ : Env) (H : Heap) (Q : Post) : Prop :=
  ∀ (a : Act) (w : World), Has n a ρ → w.heap = H →
    c.wp P (fun e a' w' => ∃ x ρ', e = Ex.to x ∧ Has n a' ρ' ∧ Same w w' ∧ Q x ρ' w'.heap) a w
def ScopeV (P : Program) (n : Nat) (m : Cmd) (ρ : Env) (H : Heap) (Q : Post) : Prop :=
  ∀ c, comp n c = m → OtherV P n (.scope c) ρ H Q

def Cmd.vc (P : Program) (T : Tys) (n : Nat) : Cmd → Env → Heap → Post → Prop
  | .skip, ρ, H, Q => Q .norm ρ H
  | .ret, ρ, H, Q => Q .ret ρ H
  | .exit i, ρ, H, Q => Q (.exit i) ρ H
  | .goto l, ρ, H, Q => Q (.goto l) ρ H
  | .label _, ρ, H, Q => Q .norm ρ H
  | .seq a b, ρ, H, Q => a.vc P T n ρ H (Post.seq (fun ρ' H' => b.vc P T n ρ' H' Q) Q)
  | .cond c a b, ρ, H, Q => condV (ρ.ev c) (a.vc P T n ρ H Q) (b.vc P T n ρ H Q)
  | .block i b, ρ, H, Q => b.vc P T n ρ H (Post.block i Q)
  | .loop b, ρ, H, Q => LoopV P n b ρ H Q
  | .scope b, ρ, H, Q => ScopeV P n b ρ H Q
  | .ops l, ρ, H, Q => opsV P T l ρ H (Q .norm)
  | .quiet l, ρ, H, Q => opsQ P T l ρ H (fun ρ' => Q .norm ρ' H)
  | .still k l, ρ, H, Q => opsR T (l.take k) ρ H (fun ρ' => opsV P T (l.drop k) ρ' H (Q .norm))
  | .draw l, ρ, H, Q => drawsV P T H l ρ H (Q .norm)
  | .drawn l, ρ, H, Q => DrawnV P T l ρ H (Q .norm)
  | .rangeF .., _, _, _ => False
  | .other c, ρ, H, Q => OtherV P n c ρ H Q

section sound
variable {P : Program} {T : Tys} {n : Nat}

theorem guardV_elim {v : Value} {want : Bool} {A B : Prop} (h : guardV v want A B) : (v = .bool want ∧ A) ∨ (v ≠ .bool want ∧ B) := by
  unfold guardV at h
  split at h
  · rename_i b
    by_cases hb : b = want
    · exact .inl ⟨by rw [hb], h.1 hb⟩
    · refine .inr ⟨fun h' => hb (by cases h'; rfl), h.2 ?_⟩
      cases b <;> cases want <;> simp_all
  · rename_i hv
    exact .inr ⟨fun h' => hv _ h', h⟩

theorem compO_spec {ops : Array Oper} {o : Oper} {o' : O} (h : compO n ops o = some o') :
    (∀ k, o.dst = some k → k < n) ∧ o'.dst = o.dst ∧ o'.op = o.op ∧ o'.type = o.type ∧
      ((o.guard = none ∧ o'.guard = none) ∨ ∃ j want d, o.guard = some (j, want) ∧ (ops[j]?).bind (·.dst) = some d ∧ o'.guard = some (d, want)) := by
  unfold compO at h
  split at h
  · rename_i hd
    refine ⟨fun k hk => by rw [hk] at hd; simpa [dstOk] using hd, ?_⟩
    split at h
    · rename_i hg
      cases h
      exact ⟨rfl, rfl, rfl, .inl ⟨hg, rfl⟩⟩
    · rename_i j want hg
      split at h
      · rename_i d hd'
        cases h
        exact ⟨rfl, rfl, rfl, .inr ⟨j, want, d, hg, hd', rfl⟩⟩
      · cases h
  · cases h

theorem wanted_of {dsA : List Deferred} {ops : Array Oper} {o : Oper} {o' : O} {a : Act} {ρ : Env} (hc : compO n ops o = some o') (hh : HasD n dsA a ρ) :
    (o'.guard = none ∧ Region.wanted o (yielded ops a.tmps) = true) ∨ ∃ d want, o'.guard = some (d, want) ∧ ((Region.wanted o (yielded ops a.tmps) = true ∧ ρ d = .bool want) ∨ (Region.wanted o (yielded ops a.tmps) = false ∧ ρ d ≠ .bool want)) := by
  obtain ⟨_, _, _, _, hg⟩ := compO_spec hc
  rcases hg with ⟨h1, h2⟩ | ⟨j, want, d, h1, h2, h3⟩
  · exact .inl ⟨h2, by simp [Region.wanted, h1]⟩
  · refine .inr ⟨d, want, h3, ?_⟩
    have hget := hh.get d
    rw [Array.getD_eq_getD_getElem?] at hget
    have hy : yielded ops a.tmps j = match ρ d with | .bool b => some b | _ => none := by
      unfold yielded
      rw [h2]
      simp only [Option.bind_some]
      cases hd : a.tmps[d]? with
      | none =>
        rw [hd] at hget
        simp only [Option.getD_none] at hget
        rw [← hget]
        rfl
      | some v =>
        rw [hd] at hget
        simp only [Option.getD_some] at hget
        rw [← hget]
        cases v <;> rfl
    simp only [Region.wanted, h1, hy]
    by_cases hb : ρ d = .bool want
    · rw [hb]; simp
    · right
      refine ⟨?_, hb⟩
      cases hv : ρ d <;> simp
      rename_i b
      intro hbw
      exact hb (by rw [hv, hbw])

theorem OpS.wp {dsA : List Deferred} {o : Oper} {a : Act} {ρ : Env} {w : World} {K : Value → Heap → Prop} {next : Act → World → Prop} {Q : Exit → Act → World → Prop} (hh : HasD n dsA a ρ) (h : OpS P (execOp ρ.ev o) w.heap K)
    (hk : ∀ v w', Same w w' → K v w'.heap → next (a.put o.dst v) w') : o.wp P a w next Q := by
  unfold Oper.wp
  rw [hh.eval]
  have := h w rfl
  generalize (execOp ρ.ev o).run P w = r at *
  cases r with
  | ok nx w' =>
    cases nx <;> simp only at this
    case value v => rw [Oper.upon_value]; exact hk _ _ this.1 this.2
    case skip => rw [Oper.upon_skip]; exact hk _ _ this.1 this.2
    case enter f args =>
      rw [Oper.upon_enter]
      refine (this.2 w' rfl).mono ?_
      rintro e w'' ⟨v, rfl, hs, hkv⟩
      exact hk _ _ (this.1.trans hs) hkv
  | halt x w' => exact this.elim

theorem opsV_sound {dsA : List Deferred} (hT : T.Ok P) {ops : Array Oper} {Q : Exit → Act → World → Prop} : ∀ (l : List Oper) (l' : List O) (a : Act) (ρ : Env) (w : World) (K : Env → Heap → Prop),
    l.mapM (compO n ops) = some l' → HasD n dsA a ρ → opsV P T l' ρ w.heap K → (∀ a' ρ' w', HasD n dsA a' ρ' → Same w w' → K ρ' w'.heap → Q .normal a' w') → wpList P ops Q l a w
  | [], l', a, ρ, w, K, hl, hh, h, hk => by
    simp at hl
    subst hl
    exact hk a ρ w hh (Same.refl _) h
  | o :: l, l', a, ρ, w, K, hl, hh, h, hk => by
    simp only [List.mapM_cons, Option.bind_eq_bind, Option.bind_eq_some_iff, Option.pure_def, Option.some.injEq] at hl
    obtain ⟨o', ho, r', hr, rfl⟩ := hl
    obtain ⟨hd, e1, e2, e3, _⟩ := compO_spec ho
    have run : opV P T o'.op o'.type ρ w.heap (fun v H' => opsV P T r' (ρ.put o'.dst v) H' K) → o.wp P a w (wpList P ops Q l) Q := by
      intro h
      rw [e1, e2, e3] at h
      refine OpS.wp hh (opV_sound hT h) fun v w' hs hv => ?_
      exact opsV_sound hT l r' _ _ _ K hr (hh.put _ _ hd) hv fun a' ρ' w'' h1 h2 h3 => hk a' ρ' w'' h1 (hs.trans h2) h3
    have skp : opsV P T r' (ρ.put o'.dst undef) w.heap K → wpList P ops Q l (a.put o.dst undef) w := by
      intro h
      rw [e1] at h
      exact opsV_sound hT l r' _ _ _ K hr (hh.put _ _ hd) h hk
    unfold opsV at h
    unfold wpList
    rcases wanted_of ho hh with ⟨hg, hw⟩ | ⟨d, want, hg, hw⟩
    · rw [if_pos hw]
      rw [hg] at h
      exact .inl (run h)
    · rw [hg] at h
      rcases guardV_elim h with ⟨hv, hA⟩ | ⟨hv, hB⟩
      · rcases hw with ⟨hw, _⟩ | ⟨_, hne⟩
        · rw [if_pos hw]; exact .inl (run hA)
        · exact absurd hv hne
      · rcases hw with ⟨_, he⟩ | ⟨hw, _⟩
        · exact absurd he hv
        · rw [if_neg (by simp [hw])]; exact skp hB

theorem opR_run (hT : T.Ok P) {o : Oper} {ρ : Env} {H : Heap} {K : Value → Prop} (h : opR T o.op ρ H K) : ∃ v, K v ∧ ∀ w : World, w.heap = H → (execOp ρ.ev o).run P w = .ok (.value v) w := by
  unfold opR at h
  split at h
  · rename_i c v hp
    exact ⟨v, h.2, fun w _ => pureP_run hT hp h.1 w⟩
  · split at h
    · rename_i t x hop
      obtain ⟨v, hk, hr⟩ := loadV_run hT h
      refine ⟨v, hk, fun w hw => ?_⟩
      simp only [execOp, hop, Sem.run_bind, hr w hw, Result.andThen_ok, Sem.run_pure]
    · exact h.elim

theorem opsR_sound {dsA : List Deferred} (hT : T.Ok P) {ops : Array Oper} {w : World} {Q : Act → Prop} : ∀ (l : List Oper) (l' : List O) (a : Act) (ρ : Env) (K : Env → Prop),
    l.mapM (compO n ops) = some l' → HasD n dsA a ρ → opsR T l' ρ w.heap K → (∀ a' ρ', HasD n dsA a' ρ' → K ρ' → Q a') → wpStill P ops w Q l a
  | [], l', a, ρ, K, hl, hh, h, hk => by
    simp at hl
    subst hl
    exact hk a ρ hh h
  | o :: l, l', a, ρ, K, hl, hh, h, hk => by
    simp only [List.mapM_cons, Option.bind_eq_bind, Option.bind_eq_some_iff, Option.pure_def, Option.some.injEq] at hl
    obtain ⟨o', ho, r', hr, rfl⟩ := hl
    obtain ⟨hd, e1, e2, e3, _⟩ := compO_spec ho
    have run : opR T o'.op ρ w.heap (fun v => opsR T r' (ρ.put o'.dst v) w.heap K) → o.still P a w (wpStill P ops w Q l) := by
      intro h
      rw [e1, e2] at h
      obtain ⟨v, hv, hrun⟩ := opR_run hT h
      unfold Oper.still
      rw [hh.eval, hrun w rfl, Oper.stillUpon_value]
      exact opsR_sound hT l r' _ _ K hr (hh.put _ _ hd) hv hk
    have skp : opsR T r' (ρ.put o'.dst undef) w.heap K → wpStill P ops w Q l (a.put o.dst undef) := by
      intro h
      rw [e1] at h
      exact opsR_sound hT l r' _ _ K hr (hh.put _ _ hd) h hk
    unfold opsR at h
    unfold wpStill
    rcases wanted_of ho hh with ⟨hg, hw⟩ | ⟨d, want, hg, hw⟩
    · rw [if_pos hw]
      rw [hg] at h
      exact run h
    · rw [hg] at h
      rcases guardV_elim h with ⟨hv, hA⟩ | ⟨hv, hB⟩
      · rcases hw with ⟨hw, _⟩ | ⟨_, hne⟩
        · rw [if_pos hw]; exact run hA
        · exact absurd hv hne
      · rcases hw with ⟨_, he⟩ | ⟨hw, _⟩
        · exact absurd he hv
        · rw [if_neg (by simp [hw])]; exact skp hB

theorem hget_ext {H0 H : Heap} (hx : Ext H0 H) {b o : Nat} {v : Value} (h : hget H0 b o = some v) : hget H b o = some v := by
  unfold hget at *
  by_cases hb : b < H0.size
  · rw [hx.get b hb]; exact h
  · rw [Array.getElem?_eq_none (by omega)] at h
    cases h
theorem hgets_ext {H0 H : Heap} (hx : Ext H0 H) {b : Nat} : ∀ {k o : Nat} {vs : List Value}, hgets H0 b o k = some vs → hgets H b o k = some vs
  | 0, _, _, h => h
  | k + 1, o, vs, h => by
    unfold hgets at *
    split at h
    · rename_i v r h1 h2
      rw [hget_ext hx h1, hgets_ext hx h2]
      exact h
    · cases h
theorem loadV_ext {T : Tys} {t : TypeId} {p : Value} {H0 : Heap} {K : Value → Prop} (h : loadV T t p H0 K) : ∃ v, K v ∧ ∀ H, Ext H0 H → loadV T t p H (· = v) := by
  unfold loadV at h
  split at h
  · rename_i ti b o hti
    split at h
    · rename_i ha
      obtain ⟨vs, h1, h2⟩ := h
      refine ⟨_, h2, fun H hx => ?_⟩
      simp only [loadV, hti, if_pos ha]
      exact ⟨vs, hgets_ext hx h1, rfl⟩
    · rename_i ha
      obtain ⟨v, h1, h2⟩ := h
      refine ⟨_, h2, fun H hx => ?_⟩
      simp only [loadV, hti, if_neg ha]
      exact ⟨v, hget_ext hx h1, rfl⟩
  · exact h.elim
theorem opR_run_ext (hT : T.Ok P) {o : Oper} {ρ : Env} {H0 : Heap} {K : Value → Prop} (h : opR T o.op ρ H0 K) : ∃ v, K v ∧ ∀ w : World, Ext H0 w.heap → (execOp ρ.ev o).run P w = .ok (.value v) w := by
  unfold opR at h
  split at h
  · rename_i c v hp
    exact ⟨v, h.2, fun w _ => pureP_run hT hp h.1 w⟩
  · split at h
    · rename_i t x hop
      obtain ⟨v, hk, hr⟩ := loadV_ext h
      refine ⟨v, hk, fun w hw => ?_⟩
      obtain ⟨v', he, hr'⟩ := loadV_run hT (hr w.heap hw)
      subst he
      simp only [execOp, hop, Sem.run_bind, hr' w rfl, Result.andThen_ok, Sem.run_pure]
    · exact h.elim

section draw
variable {ops : Array Oper} {Q : Exit → Act → World → Prop} {ds : List Nat} {H0 : Heap}
theorem step_of {k i : Nat} {r : Pl} {sl : Tr} (h : drawO n ops (.step k i r) = some sl) : ∃ o o' r', ops[i]? = some o ∧ compO n ops o = some o' ∧ drawO n ops r = some r' ∧ sl = .step k o' r' := by
  simp only [drawO] at h
  split at h
  · rename_i o ho
    split at h
    · rename_i o' r' h1 h2
      cases h
      exact ⟨o, o', r', ho, h1, h2, rfl⟩
    · cases h
  · cases h
theorem both_of {i j : Nat} {p q : Pl} {sl : Tr} (h : drawO n ops (.both i p j q) = some sl) : ∃ oi oj oi' oj' p' q', ops[i]? = some oi ∧ ops[j]? = some oj ∧ compO n ops oi = some oi' ∧ compO n ops oj = some oj' ∧ drawO n ops p = some p' ∧ drawO n ops q = some q' ∧ sl = .both oi' p' oj' q' := by
  simp only [drawO] at h
  split at h
  · rename_i oi oj hi hj
    split at h
    · rename_i oi' p' oj' q' h1 h2 h3 h4
      cases h
      exact ⟨oi, oj, oi', oj', p', q', hi, hj, h1, h3, h2, h4, rfl⟩
    · cases h
  · cases h

theorem three_of {i j k : Nat} {p q r : Pl} {sl : Tr} (h : drawO n ops (.three i p j q k r) = some sl) : ∃ oi oj ok oi' oj' ok' p' q' r', ops[i]? = some oi ∧ ops[j]? = some oj ∧ ops[k]? = some ok ∧ compO n ops oi = some oi' ∧ compO n ops oj = some oj' ∧ compO n ops ok = some ok' ∧ drawO n ops p = some p' ∧ drawO n ops q = some q' ∧ drawO n ops r = some r' ∧ sl = .three oi' p' oj' q' ok' r' := by
  simp only [drawO] at h
  split at h
  · rename_i oi oj ok hi hj hk
    split at h
    · rename_i oi' p' oj' q' ok' r' h1 h2 h3 h4 h5 h6
      cases h
      exact ⟨oi, oj, ok, oi', oj', ok', p', q', r', hi, hj, hk, h1, h3, h5, h2, h4, h6, rfl⟩
    · cases h
  · cases h

/-- One step of a kind that is carried out. -/
theorem carried {dsA : List Deferred} (hT : T.Ok P) {o : Oper} {o' : O} {a : Act} {ρ : Env} {w : World} {k : Nat} {R : Value → Heap → Prop} {K' : Act → World → Prop} (hc : compO n ops o = some o') (hh : HasD n dsA a ρ)
    (hgo : drawV P T H0 k o' ρ w.heap R → opV P T o'.op o'.type ρ w.heap (fun v H' => (k = 1 → Ext H0 H') ∧ R v H'))
    (h : match o'.guard with
      | none => drawV P T H0 k o' ρ w.heap R
      | some (d, want) => guardV (ρ d) want (drawV P T H0 k o' ρ w.heap R) (R undef w.heap))
    (hx : k = 1 → Ext H0 w.heap) (hn : ∀ v w', (k = 1 → Ext H0 w'.heap) → Same w w' → R v w'.heap → K' (a.put o.dst v) w') :
    if Region.wanted o (yielded ops a.tmps) = true then o.wp P a w K' Q else K' (a.put o.dst undef) w := by
  obtain ⟨hd, e1, e2, e3, _⟩ := compO_spec hc
  have go : drawV P T H0 k o' ρ w.heap R → o.wp P a w K' Q := by
    intro h
    have h := hgo h
    rw [e2, e3] at h
    exact OpS.wp hh (opV_sound hT h) fun v w' hs hv => hn v w' hv.1 hs hv.2
  rcases wanted_of hc hh with ⟨hg, hw⟩ | ⟨d, want, hg, hw⟩
  · rw [hg] at h
    rw [if_pos hw]
    exact go h
  · rw [hg] at h
    rcases guardV_elim h with ⟨hv, hA⟩ | ⟨hv, hB⟩
    · rcases hw with ⟨hw, _⟩ | ⟨_, hne⟩
      · rw [if_pos hw]; exact go hA
      · exact absurd hv hne
    · rcases hw with ⟨_, he⟩ | ⟨hw, _⟩
      · exact absurd he hv
      · rw [if_neg (by simp [hw])]
        exact hn undef w hx (Same.refl _) hB
theorem carried_1 {o : O} {ρ : Env} {H : Heap} {R : Value → Heap → Prop} (h : drawV P T H0 1 o ρ H R) : opV P T o.op o.type ρ H (fun v H' => ((1 : Nat) = 1 → Ext H0 H') ∧ R v H') := by
  simpa [drawV] using h
theorem carried_2 {o : O} {ρ : Env} {H : Heap} {R : Value → Heap → Prop} (h : drawV P T H0 2 o ρ H R) : opV P T o.op o.type ρ H (fun v H' => ((2 : Nat) = 1 → Ext H0 H') ∧ R v H') := by
  simpa [drawV] using h

theorem tail_sound {dsA : List Deferred} (hT : T.Ok P) (hQ : ∀ c a w, ¬ Q (.panic c) a w) : ∀ (s : Pl) (sl : Tr) (l : Array Bool) (fuel : Nat) (a : Act) (ρ : Env) (w : World) (K : Env → Heap → Prop),
    drawO n ops s = some sl → s.tail = true → okSteps ops ds s l = true → s.depth ≤ fuel → HasD n dsA a ρ → drawsV P T H0 sl ρ w.heap K → (∀ a' ρ' w', HasD n dsA a' ρ' → Same w w' → K ρ' w'.heap → Q .normal a' w') →
    wpAnyLast P .any ops Q (fun w => Ext H0 w.heap) ds fuel l a w
  | .done, sl, l, fuel, a, ρ, w, K, hs, _, ho, _, hh, h, hk => by
    simp [drawO] at hs
    subst hs
    exact done_ ho (hk a ρ w hh (Same.refl _) h)
  | .both .., _, _, _, _, _, _, _, _, ht, _, _, _, _, _ => by cases ht
  | .three .., _, _, _, _, _, _, _, _, ht, _, _, _, _, _ => by cases ht
  | .step k i s, sl, l, fuel, a, ρ, w, K, hs, ht, ho, hf, hh, h, hk => by
    obtain ⟨o, o', r', hi, hc, hr, rfl⟩ := step_of hs
    simp only [Pl.tail, Bool.and_eq_true, Bool.or_eq_true, beq_iff_eq] at ht
    obtain ⟨hk23, ht⟩ := ht
    obtain ⟨hd, e1, e2, e3, _⟩ := compO_spec hc
    cases fuel with
    | zero => simp [Pl.depth] at hf
    | succ fuel =>
      simp only [Pl.depth] at hf
      rcases hk23 with rfl | rfl
      · simp only [okSteps, Bool.and_eq_true, List.contains_eq_mem, decide_eq_true_eq] at ho
        refine last_ _ hi rfl ho.1.1.1 ho.1.1.2 fun K' hK => ?_
        refine carried hT (R := fun v H' => drawsV P T H0 r' (ρ.put o'.dst v) H' K) hc hh carried_2 h (by simp) fun v w' _ hs h => ?_
        rw [e1] at h
        exact hK _ _ (tail_sound hT hQ s r' _ fuel _ _ w' K hr ht ho.2 (by omega) (hh.put _ _ hd) h fun a' ρ' w'' h1 h2 h3 => hk a' ρ' w'' h1 (hs.trans h2) h3)
      · simp only [okSteps, Bool.and_eq_true] at ho
        have run : ∀ v, Yields P ops o v a → drawsV P T H0 r' (ρ.put o'.dst v) w.heap K → wpAnyLast P .any ops Q (fun w => Ext H0 w.heap) ds (fuel + 1) l a w := by
          intro v hy h
          rw [e1] at h
          exact pure_ _ hi rfl ho.1 (fun c a w h => absurd h (hQ c _ w)) hy rfl (tail_sound hT hQ s r' _ fuel _ _ w K hr ht ho.2 (by omega) (hh.put _ _ hd) h hk)
        have go : pureOnly T o'.op ρ (fun v => drawsV P T H0 r' (ρ.put o'.dst v) w.heap K) → Region.wanted o (yielded ops a.tmps) = true → wpAnyLast P .any ops Q (fun w => Ext H0 w.heap) ds (fuel + 1) l a w := by
          intro h hw
          rw [e2] at h
          unfold pureOnly at h
          split at h
          · rename_i c v hp
            refine run v (.inl ⟨hw, fun w => ?_⟩) h.2
            rw [hh.eval]
            exact pureP_run hT hp h.1 w
          · exact h.elim
        unfold drawsV drawV at h
        rcases wanted_of hc hh with ⟨hg, hw⟩ | ⟨d, want, hg, hw⟩
        · rw [hg] at h
          exact go h hw
        · rw [hg] at h
          rcases guardV_elim h with ⟨hv, hA⟩ | ⟨hv, hB⟩
          · rcases hw with ⟨hw, _⟩ | ⟨_, hne⟩
            · exact go hA hw
            · exact absurd hv hne
          · rcases hw with ⟨_, he⟩ | ⟨hw, _⟩
            · exact absurd he hv
            · exact run undef (.inr ⟨hw, rfl⟩) hB

theorem draws_sound {dsA : List Deferred} (hT : T.Ok P) (hQ : ∀ c a w, ¬ Q (.panic c) a w) : ∀ (s : Pl) (sl : Tr) (l : Array Bool) (fuel : Nat) (a : Act) (ρ : Env) (w : World) (K : Env → Heap → Prop),
    drawO n ops s = some sl → okSteps ops ds s l = true → s.depth ≤ fuel → HasD n dsA a ρ → Ext H0 w.heap → drawsV P T H0 sl ρ w.heap K → (∀ a' ρ' w', HasD n dsA a' ρ' → Same w w' → K ρ' w'.heap → Q .normal a' w') →
    wpAnyLast P .any ops Q (fun w => Ext H0 w.heap) ds fuel l a w
  | .done, sl, l, fuel, a, ρ, w, K, hs, ho, _, hh, _, h, hk => by
    simp [drawO] at hs
    subst hs
    exact done_ ho (hk a ρ w hh (Same.refl _) h)
  | .both i p j q, sl, l, fuel, a, ρ, w, K, hs, ho, hf, hh, hS, h, hk => by
    obtain ⟨oi, oj, oi', oj', p', q', hi, hj, hci, hcj, hp, hq, rfl⟩ := both_of hs
    obtain ⟨hdi, ei1, ei2, ei3, _⟩ := compO_spec hci
    obtain ⟨hdj, ej1, ej2, ej3, _⟩ := compO_spec hcj
    simp only [okSteps, Bool.and_eq_true, Bool.not_eq_true', List.contains_eq_mem, decide_eq_false_iff_not] at ho
    obtain ⟨⟨⟨⟨hrd, hni⟩, hnj⟩, hop⟩, hoq⟩ := ho
    cases fuel with
    | zero => simp [Pl.depth] at hf
    | succ fuel =>
      simp only [Pl.depth] at hf
      refine two_ (l.setIfInBounds i true) (l.setIfInBounds j true) hi hj rfl rfl (by simp [hrd]) hni hnj (fun K' hK => ?_) (fun K' hK => ?_)
      · refine carried hT (R := fun v H' => drawsV P T H0 p' (ρ.put oi'.dst v) H' K) hci hh carried_1 h.1 (fun _ => hS) fun v w' hx hs h => ?_
        rw [ei1] at h
        exact hK _ _ (hx rfl) fun hx => draws_sound hT hQ p p' _ fuel _ _ w' K hp hop (by omega) (hh.put _ _ hdi) hx h fun a' ρ' w'' h1 h2 h3 => hk a' ρ' w'' h1 (hs.trans h2) h3
      · refine carried hT (R := fun v H' => drawsV P T H0 q' (ρ.put oj'.dst v) H' K) hcj hh carried_1 h.2 (fun _ => hS) fun v w' hx hs h => ?_
        rw [ej1] at h
        exact hK _ _ (hx rfl) fun hx => draws_sound hT hQ q q' _ fuel _ _ w' K hq hoq (by omega) (hh.put _ _ hdj) hx h fun a' ρ' w'' h1 h2 h3 => hk a' ρ' w'' h1 (hs.trans h2) h3
  | .three i p j q k r, sl, l, fuel, a, ρ, w, K, hs, ho, hf, hh, hS, h, hk => by
    obtain ⟨oi, oj, ok, oi', oj', ok', p', q', r', hi, hj, hk', hci, hcj, hck, hp, hq, hr, rfl⟩ := three_of hs
    obtain ⟨hdi, ei1, ei2, ei3, _⟩ := compO_spec hci
    obtain ⟨hdj, ej1, ej2, ej3, _⟩ := compO_spec hcj
    obtain ⟨hdk, ek1, ek2, ek3, _⟩ := compO_spec hck
    simp only [okSteps, Bool.and_eq_true, Bool.not_eq_true', List.contains_eq_mem, decide_eq_false_iff_not] at ho
    obtain ⟨⟨⟨⟨⟨⟨hrd, hni⟩, hnj⟩, hnk⟩, hop⟩, hoq⟩, hor⟩ := ho
    cases fuel with
    | zero => simp [Pl.depth] at hf
    | succ fuel =>
      simp only [Pl.depth] at hf
      refine three_ (l.setIfInBounds i true) (l.setIfInBounds j true) (l.setIfInBounds k true) hi hj hk' rfl rfl rfl (by simp [hrd]) hni hnj hnk (fun K' hK => ?_) (fun K' hK => ?_) (fun K' hK => ?_)
      · refine carried hT (R := fun v H' => drawsV P T H0 p' (ρ.put oi'.dst v) H' K) hci hh carried_1 h.1 (fun _ => hS) fun v w' hx hs h => ?_
        rw [ei1] at h
        exact hK _ _ (hx rfl) fun hx => draws_sound hT hQ p p' _ fuel _ _ w' K hp hop (by omega) (hh.put _ _ hdi) hx h fun a' ρ' w'' h1 h2 h3 => hk a' ρ' w'' h1 (hs.trans h2) h3
      · refine carried hT (R := fun v H' => drawsV P T H0 q' (ρ.put oj'.dst v) H' K) hcj hh carried_1 h.2.1 (fun _ => hS) fun v w' hx hs h => ?_
        rw [ej1] at h
        exact hK _ _ (hx rfl) fun hx => draws_sound hT hQ q q' _ fuel _ _ w' K hq hoq (by omega) (hh.put _ _ hdj) hx h fun a' ρ' w'' h1 h2 h3 => hk a' ρ' w'' h1 (hs.trans h2) h3
      · refine carried hT (R := fun v H' => drawsV P T H0 r' (ρ.put ok'.dst v) H' K) hck hh carried_1 h.2.2 (fun _ => hS) fun v w' hx hs h => ?_
        rw [ek1] at h
        exact hK _ _ (hx rfl) fun hx => draws_sound hT hQ r r' _ fuel _ _ w' K hr hor (by omega) (hh.put _ _ hdk) hx h fun a' ρ' w'' h1 h2 h3 => hk a' ρ' w'' h1 (hs.trans h2) h3
  | .step k i s, sl, l, fuel, a, ρ, w, K, hs, ho, hf, hh, hS, h, hk => by
    obtain ⟨o, o', r', hi, hc, hr, rfl⟩ := step_of hs
    obtain ⟨hd, e1, e2, e3, _⟩ := compO_spec hc
    cases fuel with
    | zero => simp [Pl.depth] at hf
    | succ fuel =>
      simp only [Pl.depth] at hf
      match k, ho with
      | 0, ho =>
        simp only [okSteps, Bool.and_eq_true] at ho
        have run : ∀ v, YieldsIf P ops (fun w => Ext H0 w.heap) o v a → drawsV P T H0 r' (ρ.put o'.dst v) w.heap K → wpAnyLast P .any ops Q (fun w => Ext H0 w.heap) ds (fuel + 1) l a w := by
          intro v hy h
          rw [e1] at h
          exact take_ _ hi rfl ho.1 (fun c a w h => absurd h (hQ c _ w)) hy hS rfl (draws_sound hT hQ s r' _ fuel _ _ w K hr ho.2 (by omega) (hh.put _ _ hd) hS h hk)
        have go : opR T o'.op ρ H0 (fun v => drawsV P T H0 r' (ρ.put o'.dst v) w.heap K) → Region.wanted o (yielded ops a.tmps) = true → wpAnyLast P .any ops Q (fun w => Ext H0 w.heap) ds (fuel + 1) l a w := by
          intro h hw
          rw [e2] at h
          obtain ⟨v, hv, hrun⟩ := opR_run_ext hT h
          refine run v (.inl ⟨hw, fun w hw => ?_⟩) hv
          rw [hh.eval]
          exact hrun w hw
        unfold drawsV drawV at h
        rcases wanted_of hc hh with ⟨hg, hw⟩ | ⟨d, want, hg, hw⟩
        · rw [hg] at h
          exact go h hw
        · rw [hg] at h
          rcases guardV_elim h with ⟨hv, hA⟩ | ⟨hv, hB⟩
          · rcases hw with ⟨hw, _⟩ | ⟨_, hne⟩
            · exact go hA hw
            · exact absurd hv hne
          · rcases hw with ⟨_, he⟩ | ⟨hw, _⟩
            · exact absurd he hv
            · exact run undef (.inr ⟨hw, rfl⟩) hB
      | 1, ho =>
        simp only [okSteps, Bool.and_eq_true, Bool.not_eq_true', List.contains_eq_mem, decide_eq_false_iff_not] at ho
        refine one_ _ hi rfl ho.1.1 ho.1.2 fun K' hK => ?_
        refine carried hT (R := fun v H' => drawsV P T H0 r' (ρ.put o'.dst v) H' K) hc hh carried_1 h (fun _ => hS) fun v w' hx hs h => ?_
        rw [e1] at h
        exact hK _ _ (hx rfl) fun hx => draws_sound hT hQ s r' _ fuel _ _ w' K hr ho.2 (by omega) (hh.put _ _ hd) hx h fun a' ρ' w'' h1 h2 h3 => hk a' ρ' w'' h1 (hs.trans h2) h3
      | 2, ho =>
        simp only [okSteps, Bool.and_eq_true, List.contains_eq_mem, decide_eq_true_eq] at ho
        refine last_ _ hi rfl ho.1.1.1 ho.1.1.2 fun K' hK => ?_
        refine carried hT (R := fun v H' => drawsV P T H0 r' (ρ.put o'.dst v) H' K) hc hh carried_2 h (by simp) fun v w' _ hs h => ?_
        rw [e1] at h
        exact hK _ _ (tail_sound hT hQ s r' _ fuel _ _ w' K hr ho.1.2 ho.2 (by omega) (hh.put _ _ hd) h fun a' ρ' w'' h1 h2 h3 => hk a' ρ' w'' h1 (hs.trans h2) h3)
      | k + 3, ho =>
        simp only [okSteps, Bool.and_eq_true] at ho
        have run : ∀ v, Yields P ops o v a → drawsV P T H0 r' (ρ.put o'.dst v) w.heap K → wpAnyLast P .any ops Q (fun w => Ext H0 w.heap) ds (fuel + 1) l a w := by
          intro v hy h
          rw [e1] at h
          exact pure_ _ hi rfl ho.1 (fun c a w h => absurd h (hQ c _ w)) hy rfl (draws_sound hT hQ s r' _ fuel _ _ w K hr ho.2 (by omega) (hh.put _ _ hd) hS h hk)
        have go : pureOnly T o'.op ρ (fun v => drawsV P T H0 r' (ρ.put o'.dst v) w.heap K) → Region.wanted o (yielded ops a.tmps) = true → wpAnyLast P .any ops Q (fun w => Ext H0 w.heap) ds (fuel + 1) l a w := by
          intro h hw
          rw [e2] at h
          unfold pureOnly at h
          split at h
          · rename_i c v hp
            refine run v (.inl ⟨hw, fun w => ?_⟩) h.2
            rw [hh.eval]
            exact pureP_run hT hp h.1 w
          · exact h.elim
        unfold drawsV drawV at h
        rcases wanted_of hc hh with ⟨hg, hw⟩ | ⟨d, want, hg, hw⟩
        · rw [hg] at h
          exact go h hw
        · rw [hg] at h
          rcases guardV_elim h with ⟨hv, hA⟩ | ⟨hv, hB⟩
          · rcases hw with ⟨hw, _⟩ | ⟨_, hne⟩
            · exact go hA hw
            · exact absurd hv hne
          · rcases hw with ⟨_, he⟩ | ⟨hw, _⟩
            · exact absurd he hv
            · exact run undef (.inr ⟨hw, rfl⟩) hB

theorem hget_kept {N : Nat → Prop} {H0 H : Heap} (hx : Kept N H0 H) {b o : Nat} {v : Value} (hb : N b) (h : hget H0 b o = some v) : hget H b o = some v := by
  unfold hget at *
  by_cases hl : b < H0.size
  · rw [hx.2 b hl hb]; exact h
  · rw [Array.getElem?_eq_none (by omega)] at h
    cases h
theorem hgets_kept {N : Nat → Prop} {H0 H : Heap} (hx : Kept N H0 H) {b : Nat} (hb : N b) : ∀ {k o : Nat} {vs : List Value}, hgets H0 b o k = some vs → hgets H b o k = some vs
  | 0, _, _, h => h
  | k + 1, o, vs, h => by
    unfold hgets at *
    split at h
    · rename_i v r h1 h2
      rw [hget_kept hx hb h1, hgets_kept hx hb h2]
      exact h
    · cases h
theorem loadV_kept {N : Nat → Prop} {T : Tys} {t : TypeId} {p : Value} {H0 : Heap} {K : Value → Prop} (hN : inV N p) (h : loadV T t p H0 K) : ∃ v, K v ∧ ∀ H, Kept N H0 H → loadV T t p H (· = v) := by
  unfold loadV at h
  split at h
  · rename_i ti b o hti
    have hb : N b := hN
    split at h
    · rename_i ha
      obtain ⟨vs, h1, h2⟩ := h
      refine ⟨_, h2, fun H hx => ?_⟩
      simp only [loadV, hti, if_pos ha]
      exact ⟨vs, hgets_kept hx hb h1, rfl⟩
    · rename_i ha
      obtain ⟨v, h1, h2⟩ := h
      refine ⟨_, h2, fun H hx => ?_⟩
      simp only [loadV, hti, if_neg ha]
      exact ⟨v, hget_kept hx hb h1, rfl⟩
  · exact h.elim
theorem load_run_kept {N : Nat → Prop} (hT : T.Ok P) {o : Oper} {t : TypeId} {x : Operand} (hop : o.op = .load t x) {ρ : Env} {K : Value → Prop} (hN : inV N (ρ.ev x)) (h : opR T (.load t x) ρ H0 K) : ∃ v, K v ∧ ∀ w : World, Kept N H0 w.heap → (execOp ρ.ev o).run P w = .ok (.value v) w := by
  have h' : loadV T t (ρ.ev x) H0 K := h
  obtain ⟨v, hk, hr⟩ := loadV_kept hN h'
  refine ⟨v, hk, fun w hw => ?_⟩
  obtain ⟨v', he, hr'⟩ := loadV_run hT (hr w.heap hw)
  subst he
  simp only [execOp, hop, Sem.run_bind, hr' w rfl, Result.andThen_ok, Sem.run_pure]
theorem carried_n {dsA : List Deferred} (hT : T.Ok P) {N : Nat → Prop} {o : Oper} {o' : O} {a : Act} {ρ : Env} {w : World} {R : Value → Heap → Prop} {K' : Act → World → Prop} (hc : compO n ops o = some o') (hh : HasD n dsA a ρ)
    (h : match o'.guard with
      | none => drawNV P T N H0 1 o' ρ w.heap R
      | some (d, want) => guardV (ρ d) want (drawNV P T N H0 1 o' ρ w.heap R) (R undef w.heap))
    (hx : Kept N H0 w.heap) (hn : ∀ v w', Kept N H0 w'.heap → Same w w' → R v w'.heap → K' (a.put o.dst v) w') :
    if Region.wanted o (yielded ops a.tmps) = true then o.wp P a w K' Q else K' (a.put o.dst undef) w := by
  obtain ⟨hd, e1, e2, e3, _⟩ := compO_spec hc
  have go : drawNV P T N H0 1 o' ρ w.heap R → o.wp P a w K' Q := by
    intro h
    have h : opV P T o'.op o'.type ρ w.heap (fun v H' => Kept N H0 H' ∧ R v H') := h
    rw [e2, e3] at h
    exact OpS.wp hh (opV_sound hT h) fun v w' hs hv => hn v w' hv.1 hs hv.2
  rcases wanted_of hc hh with ⟨hg, hw⟩ | ⟨d, want, hg, hw⟩
  · rw [hg] at h
    rw [if_pos hw]
    exact go h
  · rw [hg] at h
    rcases guardV_elim h with ⟨hv, hA⟩ | ⟨hv, hB⟩
    · rcases hw with ⟨hw, _⟩ | ⟨_, hne⟩
      · rw [if_pos hw]; exact go hA
      · exact absurd hv hne
    · rcases hw with ⟨_, he⟩ | ⟨hw, _⟩
      · exact absurd he hv
      · rw [if_neg (by simp [hw])]
        exact hn undef w hx (Same.refl _) hB
theorem drawsN_sound {dsA : List Deferred} (hT : T.Ok P) {N : Nat → Prop} (hQ : ∀ c a w, ¬ Q (.panic c) a w) : ∀ (s : Pl) (sl : Tr) (l : Array Bool) (fuel : Nat) (a : Act) (ρ : Env) (w : World) (K : Env → Heap → Prop),
    drawO n ops s = some sl → okSteps ops [] s l = true → s.depth ≤ fuel → HasD n dsA a ρ → Kept N H0 w.heap → drawsNV P T N H0 sl ρ w.heap K → (∀ a' ρ' w', HasD n dsA a' ρ' → Same w w' → K ρ' w'.heap → Q .normal a' w') →
    wpAnyLast P .any ops Q (fun w => Kept N H0 w.heap) [] fuel l a w
  | .done, sl, l, fuel, a, ρ, w, K, hs, ho, _, hh, _, h, hk => by
    simp [drawO] at hs
    subst hs
    exact done_ ho (hk a ρ w hh (Same.refl _) h)
  | .both i p j q, sl, l, fuel, a, ρ, w, K, hs, ho, hf, hh, hS, h, hk => by
    obtain ⟨oi, oj, oi', oj', p', q', hi, hj, hci, hcj, hp, hq, rfl⟩ := both_of hs
    exact h.elim
  | .three i p j q k r, sl, l, fuel, a, ρ, w, K, hs, ho, hf, hh, hS, h, hk => by
    obtain ⟨oi, oj, ok, oi', oj', ok', p', q', r', hi, hj, hk', hci, hcj, hck, hp, hq, hr, rfl⟩ := three_of hs
    exact h.elim
  | .step k i s, sl, l, fuel, a, ρ, w, K, hs, ho, hf, hh, hS, h, hk => by
    obtain ⟨o, o', r', hi, hc, hr, rfl⟩ := step_of hs
    obtain ⟨hd, e1, e2, e3, _⟩ := compO_spec hc
    cases fuel with
    | zero => simp [Pl.depth] at hf
    | succ fuel =>
      simp only [Pl.depth] at hf
      match k, ho with
      | 0, ho =>
        simp only [okSteps, Bool.and_eq_true] at ho
        have run : ∀ v, YieldsIf P ops (fun w => Kept N H0 w.heap) o v a → drawsNV P T N H0 r' (ρ.put o'.dst v) w.heap K → wpAnyLast P .any ops Q (fun w => Kept N H0 w.heap) [] (fuel + 1) l a w := by
          intro v hy h
          rw [e1] at h
          exact take_ _ hi rfl ho.1 (fun c a w h => absurd h (hQ c _ w)) hy hS rfl (drawsN_sound hT hQ s r' _ fuel _ _ w K hr ho.2 (by omega) (hh.put _ _ hd) hS h hk)
        have go : drawNV P T N H0 0 o' ρ w.heap (fun v H' => drawsNV P T N H0 r' (ρ.put o'.dst v) H' K) → Region.wanted o (yielded ops a.tmps) = true → wpAnyLast P .any ops Q (fun w => Kept N H0 w.heap) [] (fuel + 1) l a w := by
          intro h hw
          unfold drawNV at h
          simp only at h
          split at h
          · rename_i t x hop
            obtain ⟨v, hv, hrun⟩ := load_run_kept (o := o) hT (by rw [← e2]; exact hop) h.1 h.2
            refine run v (.inl ⟨hw, fun w hw => ?_⟩) hv
            rw [hh.eval]
            exact hrun w hw
          · exact h.elim
        unfold drawsNV at h
        rcases wanted_of hc hh with ⟨hg, hw⟩ | ⟨d, want, hg, hw⟩
        · rw [hg] at h
          exact go h hw
        · rw [hg] at h
          rcases guardV_elim h with ⟨hv, hA⟩ | ⟨hv, hB⟩
          · rcases hw with ⟨hw, _⟩ | ⟨_, hne⟩
            · exact go hA hw
            · exact absurd hv hne
          · rcases hw with ⟨_, he⟩ | ⟨hw, _⟩
            · exact absurd he hv
            · exact run undef (.inr ⟨hw, rfl⟩) hB
      | 1, ho =>
        simp only [okSteps, Bool.and_eq_true, Bool.not_eq_true', List.contains_eq_mem, decide_eq_false_iff_not] at ho
        refine one_ _ hi rfl ho.1.1 ho.1.2 fun K' hK => ?_
        refine carried_n hT (R := fun v H' => drawsNV P T N H0 r' (ρ.put o'.dst v) H' K) hc hh h hS fun v w' hx hs h => ?_
        rw [e1] at h
        exact hK _ _ hx fun hx => drawsN_sound hT hQ s r' _ fuel _ _ w' K hr ho.2 (by omega) (hh.put _ _ hd) hx h fun a' ρ' w'' h1 h2 h3 => hk a' ρ' w'' h1 (hs.trans h2) h3
      | 2, ho => simp [okSteps] at ho
      | k + 3, ho =>
        simp only [okSteps, Bool.and_eq_true] at ho
        have run : ∀ v, Yields P ops o v a → drawsNV P T N H0 r' (ρ.put o'.dst v) w.heap K → wpAnyLast P .any ops Q (fun w => Kept N H0 w.heap) [] (fuel + 1) l a w := by
          intro v hy h
          rw [e1] at h
          exact pure_ _ hi rfl ho.1 (fun c a w h => absurd h (hQ c _ w)) hy rfl (drawsN_sound hT hQ s r' _ fuel _ _ w K hr ho.2 (by omega) (hh.put _ _ hd) hS h hk)
        have go : pureOnly T o'.op ρ (fun v => drawsNV P T N H0 r' (ρ.put o'.dst v) w.heap K) → Region.wanted o (yielded ops a.tmps) = true → wpAnyLast P .any ops Q (fun w => Kept N H0 w.heap) [] (fuel + 1) l a w := by
          intro h hw
          rw [e2] at h
          unfold pureOnly at h
          split at h
          · rename_i c v hp
            refine run v (.inl ⟨hw, fun w => ?_⟩) h.2
            rw [hh.eval]
            exact pureP_run hT hp h.1 w
          · exact h.elim
        unfold drawsNV drawNV at h
        rcases wanted_of hc hh with ⟨hg, hw⟩ | ⟨d, want, hg, hw⟩
        · rw [hg] at h
          exact go h hw
        · rw [hg] at h
          rcases guardV_elim h with ⟨hv, hA⟩ | ⟨hv, hB⟩
          · rcases hw with ⟨hw, _⟩ | ⟨_, hne⟩
            · exact go hA hw
            · exact absurd hv hne
          · rcases hw with ⟨_, he⟩ | ⟨hw, _⟩
            · exact absurd he hv
            · exact run undef (.inr ⟨hw, rfl⟩) hB
theorem drawA_sound (hT : T.Ok P) (hm : P.follows .mixedOrders = true) {id : Nat} {m : Cmd} (hc : drawA n id ops = m) {ρ : Env} {H : Heap} {Q : Post} (h : m.vc P T n ρ H Q) : OtherV P n (.region id ops true) ρ H Q := by
  unfold drawA at hc
  split at hc
  · rename_i s hs
    split at hc
    · rename_i hok
      simp only [Bool.and_eq_true] at hok
      split at hc
      · rename_i l hl
        subst hc
        intro a w hh hw
        subst hw
        refine start_ (S := fun w' => Ext w.heap w'.heap) (ds := lastsA ops) _ hm rfl rfl ⟨Nat.le_refl _, fun _ _ => rfl⟩ fun _ => ?_
        exact draws_sound hT (fun c a w h => by obtain ⟨x, _, hx, _⟩ := h; cases x <;> cases hx) s l _ _ a ρ _ _ hl hok.1 (Nat.le_of_ble_eq_true hok.2) hh ⟨Nat.le_refl _, fun _ _ => rfl⟩ h fun a' ρ' w' h1 h2 h3 => ⟨.norm, ρ', rfl, h1, ⟨h2.os, h2.tape, h2.output, trivial⟩, h3⟩
      · subst hc; exact h
    · subst hc; exact h
  · subst hc; exact h
theorem drawnC_sound (hT : T.Ok P) (hm : P.follows .mixedOrders = true) {id : Nat} {m : Cmd} (hc : drawnC n id ops = m) {ρ : Env} {H : Heap} {Q : Post} (h : m.vc P T n ρ H Q) : OtherV P n (.region id ops true) ρ H Q := by
  unfold drawnC at hc
  split at hc
  · rename_i s hs
    split at hc
    · rename_i hok
      simp only [Bool.and_eq_true] at hok
      split at hc
      · rename_i l hl
        split at hc
        rotate_left
        · exact drawA_sound hT hm hc h
        subst hc
        obtain ⟨N, h⟩ := h
        intro a w hh hw
        subst hw
        refine start_ (S := fun w' => Kept N w.heap w'.heap) (ds := []) _ hm rfl rfl ⟨Nat.le_refl _, fun _ _ _ => rfl⟩ fun _ => ?_
        exact drawsN_sound hT (fun c a w h => by obtain ⟨x, _, hx, _⟩ := h; cases x <;> cases hx) s l _ _ a ρ _ _ hl hok.1 (Nat.le_of_ble_eq_true hok.2) hh ⟨Nat.le_refl _, fun _ _ _ => rfl⟩ h fun a' ρ' w' h1 h2 h3 => ⟨.norm, ρ', rfl, h1, ⟨h2.os, h2.tape, h2.output, trivial⟩, h3⟩
      · subst hc; exact h
    · exact drawA_sound hT hm hc h
  · exact drawA_sound hT hm hc h

theorem drawC_sound (hT : T.Ok P) (hm : P.follows .mixedOrders = true) {id : Nat} {m : Cmd} (hc : drawC n id ops = m) {ρ : Env} {H : Heap} {Q : Post} (h : m.vc P T n ρ H Q) : OtherV P n (.region id ops true) ρ H Q := by
  unfold drawC at hc
  split at hc
  · rename_i s hs
    split at hc
    · rename_i hok
      simp only [Bool.and_eq_true] at hok
      split at hc
      · rename_i l hl
        subst hc
        intro a w hh hw
        subst hw
        refine start_ (S := fun w' => Ext w.heap w'.heap) (ds := lasts ops) _ hm rfl rfl ⟨Nat.le_refl _, fun _ _ => rfl⟩ fun _ => ?_
        exact draws_sound hT (fun c a w h => by obtain ⟨x, _, hx, _⟩ := h; cases x <;> cases hx) s l _ _ a ρ _ _ hl hok.1 (Nat.le_of_ble_eq_true hok.2) hh ⟨Nat.le_refl _, fun _ _ => rfl⟩ h fun a' ρ' w' h1 h2 h3 => ⟨.norm, ρ', rfl, h1, ⟨h2.os, h2.tape, h2.output, trivial⟩, h3⟩
      · subst hc; exact h
    · exact drawnC_sound hT hm hc h
  · exact drawnC_sound hT hm hc h
end draw

/-- The class of the worlds that are like this one, but for draws. -/
def Like (w : World) (w' : World) : Prop := Same w w' ∧ w'.heap = w.heap

theorem opQ_quiet {dsA : List Deferred} (hT : T.Ok P) {o : Oper} {a : Act} {ρ : Env} {w : World} {K : Value → Prop} {next : Act → Prop} (hh : HasD n dsA a ρ) (h : opQ P T o.op ρ w.heap K) (hk : ∀ v, K v → next (a.put o.dst v)) :
    o.quiet P a (Like w) next := by
  unfold opQ at h
  split at h
  · rename_i c v hp
    refine ⟨v, fun w' hw' => ?_, hk _ h.2⟩
    unfold Oper.quietAt
    rw [hh.eval, pureP_run hT hp h.1 w']
    exact ⟨rfl, rfl⟩
  · split at h
    · rename_i t x hop
      obtain ⟨v, hv, hr⟩ := loadV_run hT h
      refine ⟨v, fun w' hw' => ?_, hk _ hv⟩
      unfold Oper.quietAt
      rw [hh.eval]
      simp only [execOp, hop, Sem.run_bind, hr w' hw'.2, Result.andThen_ok, Sem.run_pure]
      exact ⟨rfl, rfl⟩
    · rename_i c hop
      split at h
      · rename_i f hf
        split at h
        · rename_i g first captured hg
          obtain ⟨hok, v, hq, hv⟩ := h
          refine ⟨v, fun w' hw' => ?_, hk _ hv⟩
          unfold Oper.quietAt
          rw [hh.eval]
          unfold okCall at hok
          split at hok
          · rename_i fn hfn
            simp only [Bool.and_eq_true, bne_iff_ne, ne_eq] at hok
            obtain ⟨bd, hbd⟩ := Option.isSome_iff_exists.1 hok.2
            have : (execOp ρ.ev o).run P w' = .ok (.enter g (first ++ c.args.map ρ.ev ++ captured)) w' := by
              simp [execOp, hop, resolve, hf, hg, Deferred.ofValue, invoke, callFunc, hfn, hok.1, hbd]
            rw [this]
            refine ⟨rfl, ?_⟩
            refine (hq w' hw'.2).mono ?_
            rintro e w'' ⟨u, rfl, hs, rfl, h2⟩
            exact ⟨rfl, hw'.1.trans hs, h2⟩
          · cases hok
        · exact h.elim
      · exact h.elim
    · exact h.elim

theorem opsQ_sound {dsA : List Deferred} (hT : T.Ok P) {ops : Array Oper} {w : World} {Q : Act → Prop} : ∀ (l : List Oper) (l' : List O) (a : Act) (ρ : Env) (K : Env → Prop),
    l.mapM (compO n ops) = some l' → HasD n dsA a ρ → opsQ P T l' ρ w.heap K → (∀ a' ρ', HasD n dsA a' ρ' → K ρ' → Q a') → wpQuiet P ops (Like w) Q l a
  | [], l', a, ρ, K, hl, hh, h, hk => by
    simp at hl
    subst hl
    exact hk a ρ hh h
  | o :: l, l', a, ρ, K, hl, hh, h, hk => by
    simp only [List.mapM_cons, Option.bind_eq_bind, Option.bind_eq_some_iff, Option.pure_def, Option.some.injEq] at hl
    obtain ⟨o', ho, r', hr, rfl⟩ := hl
    obtain ⟨hd, e1, e2, e3, _⟩ := compO_spec ho
    have run : opQ P T o'.op ρ w.heap (fun v => opsQ P T r' (ρ.put o'.dst v) w.heap K) → o.quiet P a (Like w) (wpQuiet P ops (Like w) Q l) := by
      intro h
      rw [e1, e2] at h
      exact opQ_quiet hT hh h fun v hv => opsQ_sound hT l r' _ _ K hr (hh.put _ _ hd) hv hk
    have skp : opsQ P T r' (ρ.put o'.dst undef) w.heap K → wpQuiet P ops (Like w) Q l (a.put o.dst undef) := by
      intro h
      rw [e1] at h
      exact opsQ_sound hT l r' _ _ K hr (hh.put _ _ hd) h hk
    unfold opsQ at h
    unfold wpQuiet
    rcases wanted_of ho hh with ⟨hg, hw⟩ | ⟨d, want, hg, hw⟩
    · rw [if_pos hw]
      rw [hg] at h
      exact run h
    · rw [hg] at h
      rcases guardV_elim h with ⟨hv, hA⟩ | ⟨hv, hB⟩
      · rcases hw with ⟨hw, _⟩ | ⟨_, hne⟩
        · rw [if_pos hw]; exact run hA
        · exact absurd hv hne
      · rcases hw with ⟨_, he⟩ | ⟨hw, _⟩
        · exact absurd he hv
        · rw [if_neg (by simp [hw])]; exact skp hB

theorem mapM_take {α β : Type} (f : α → Option β) : ∀ (l : List α) (l' : List β) (k : Nat), l.mapM f = some l' → (l.take k).mapM f = some (l'.take k) ∧ (l.drop k).mapM f = some (l'.drop k)
  | [], l', k, h => by simp at h; subst h; simp
  | a :: l, l', k, h => by
    simp only [List.mapM_cons, Option.bind_eq_bind, Option.bind_eq_some_iff, Option.pure_def, Option.some.injEq] at h
    obtain ⟨b, hb, r, hr, rfl⟩ := h
    cases k with
    | zero => simp [List.mapM_cons, hb, hr]
    | succ k =>
      have := mapM_take f l r k hr
      simp [List.mapM_cons, hb, this]

/-- THE RECKONING IS RIGHT. -/
theorem vc_sound (hT : T.Ok P) (hm : P.follows .mixedOrders = true) : ∀ (c : Code) (m : Cmd), comp n c = m → ∀ (ρ : Env) (H : Heap) (Q : Post), m.vc P T n ρ H Q → OtherV P n c ρ H Q := by
  intro c
  induction c with
  | skip => intro m hc ρ H Q h a w hh hw; subst hc; subst hw; exact wp_skip ⟨.norm, ρ, rfl, hh, Same.refl _, h⟩
  | ret => intro m hc ρ H Q h a w hh hw; subst hc; subst hw; exact wp_ret ⟨.ret, ρ, rfl, hh, Same.refl _, h⟩
  | exit i => intro m hc ρ H Q h a w hh hw; subst hc; subst hw; exact wp_exit ⟨.exit i, ρ, rfl, hh, Same.refl _, h⟩
  | goto l => intro m hc ρ H Q h a w hh hw; subst hc; subst hw; exact wp_goto ⟨.goto l, ρ, rfl, hh, Same.refl _, h⟩
  | label l => intro m hc ρ H Q h a w hh hw; subst hc; subst hw; exact wp_label ⟨.norm, ρ, rfl, hh, Same.refl _, h⟩
  | seq x y ihx ihy =>
    intro m hc ρ H Q h a w hh hw
    subst hc
    simp only [comp, Cmd.vc] at h
    refine wp_seq (wp_mono (ihx _ rfl ρ H _ h a w hh hw) ?_)
    rintro e a' w' ⟨x, ρ', rfl, hh', hs, hq⟩
    cases x with
    | norm =>
      refine wp_mono (ihy _ rfl ρ' _ _ hq a' w' hh' rfl) ?_
      rintro e a'' w'' ⟨x, ρ'', rfl, hh'', hs'', hq''⟩
      exact ⟨x, ρ'', rfl, hh'', hs.trans hs'', hq''⟩
    | ret => exact ⟨.ret, ρ', rfl, hh', hs, hq⟩
    | exit i => exact ⟨.exit i, ρ', rfl, hh', hs, hq⟩
    | goto l => exact ⟨.goto l, ρ', rfl, hh', hs, hq⟩
  | cond c x y ihx ihy =>
    intro m hc ρ H Q h a w hh hw
    subst hc
    simp only [comp, Cmd.vc, condV] at h
    split at h
    · rename_i b hb
      refine wp_cond_split (t := b) (by rw [hh.eval]; exact hb) (fun ht => ?_) (fun hf => ?_)
      · exact ihx _ rfl ρ H Q (h.1 ht) a w hh hw
      · exact ihy _ rfl ρ H Q (h.2 hf) a w hh hw
    · exact h.elim
  | block i b ih =>
    intro m hc ρ H Q h a w hh hw
    subst hc
    simp only [comp, Cmd.vc] at h
    refine wp_block (wp_mono (ih _ rfl ρ H _ h a w hh hw) ?_)
    rintro e a' w' ⟨x, ρ', rfl, hh', hs, hq⟩
    cases x with
    | norm => exact ⟨.norm, ρ', rfl, hh', hs, hq⟩
    | ret => exact ⟨.ret, ρ', rfl, hh', hs, hq⟩
    | goto l => exact ⟨.goto l, ρ', rfl, hh', hs, hq⟩
    | exit j =>
      simp only [Post.block] at hq
      simp only [Ex.to, Exit.inBlock]
      split
      · rename_i hj; rw [if_pos hj] at hq; exact ⟨.norm, ρ', rfl, hh', hs, hq⟩
      · rename_i hj; rw [if_neg hj] at hq; exact ⟨.exit j, ρ', rfl, hh', hs, hq⟩
  | loop b ih => intro m hc ρ H Q h a w hh hw; subst hc; exact h b rfl a w hh hw
  | scope b ih => intro m hc ρ H Q h a w hh hw; subst hc; exact h b rfl a w hh hw
  | region id ops d =>
    intro m hc ρ H Q h a w hh hw
    subst hw
    cases d with
    | false =>
      simp only [comp] at hc
      split at hc
      · rename_i l hl
        subst hc
        exact wp_region_list (opsV_sound hT _ _ a ρ w _ hl hh h fun a' ρ' w' h1 h2 h3 => ⟨.norm, ρ', rfl, h1, h2, h3⟩)
      · subst hc; exact h a w hh rfl
    | true =>
      obtain ⟨ol⟩ := ops
      simp only [comp] at hc
      split at hc
      · rename_i l hl
        split at hc
        · rename_i hb
          subst hc
          simp only [Bool.and_eq_true] at hb
          refine wp_region_quiet (C := Like w) hm hb.2 ⟨⟨rfl, rfl, rfl, trivial⟩, rfl⟩ ?_
          exact opsQ_sound hT _ _ a ρ _ hl hh h fun a' ρ' h1 h2 w' hw' => ⟨.norm, ρ', rfl, h1, hw'.1, by rw [hw'.2]; exact h2⟩
        · split at hc
          · rename_i k hk
            split at hc
            · rename_i hb
              subst hc
              simp only [Bool.and_eq_true] at hb
              obtain ⟨ht, hd⟩ := mapM_take _ _ _ k hl
              refine wp_region_still_tail k hm hb.2 ?_
              refine opsR_sound (w := { w with drawn := w.drawn + 1 }) hT _ _ a ρ _ ht hh h fun a' ρ' h1 h2 => ?_
              exact opsV_sound hT _ _ a' ρ' _ _ hd h1 h2 fun a'' ρ'' w' h3 h4 h5 => ⟨.norm, ρ'', rfl, h3, ⟨h4.os, h4.tape, h4.output, trivial⟩, h5⟩
            · exact drawC_sound hT hm hc h a w hh rfl
          · exact drawC_sound hT hm hc h a w hh rfl
      · subst hc; exact h a w hh rfl
  | rangeFunc f ps as b _ _ => intro m hc ρ H Q h a w hh hw; subst hc; exact h.elim
  | refuse w => intro m hc ρ H Q h a w hh hw; subst hc; exact h a w hh hw

/-- A loop: a relation that holds at the head of every round, and a measure. -/
theorem loopV_rule (hT : T.Ok P) (hm : P.follows .mixedOrders = true) {m : Cmd} {ρ : Env} {H : Heap} {Q : Post} (I : Env → Heap → Prop) (μ : Env → Heap → Nat) (h0 : I ρ H)
    (hr : ∀ ρ H, I ρ H → m.vc P T n ρ H (Post.seq (fun ρ' H' => I ρ' H' ∧ μ ρ' H' < μ ρ H) Q)) : LoopV P n m ρ H Q := by
  intro c hc a w hh hw
  subst hw
  have := wp_loop (P := P) (c := c) (Q := fun e a' w' => ∃ x ρ', e = Ex.to x ∧ Has n a' ρ' ∧ Same w w' ∧ Q x ρ' w'.heap) (a := a) (w := w)
    (fun a' w' => ∃ ρ', Has n a' ρ' ∧ Same w w' ∧ I ρ' w'.heap) (fun a' w' => μ (fun t => a'.tmps.getD t undef) w'.heap) ⟨ρ, hh, Same.refl _, h0⟩ ?_
  · exact this
  · rintro a1 w1 ⟨ρ1, hh1, hs1, hI⟩
    refine wp_mono (vc_sound hT hm c m hc ρ1 _ _ (hr ρ1 _ hI) a1 w1 hh1 rfl) ?_
    rintro e a2 w2 ⟨x, ρ2, rfl, hh2, hs2, hq⟩
    cases x with
    | norm =>
      refine ⟨⟨ρ2, hh2, hs1.trans hs2, hq.1⟩, ?_⟩
      have e1 : (fun t => a1.tmps.getD t undef) = ρ1 := funext hh1.get
      have e2 : (fun t => a2.tmps.getD t undef) = ρ2 := funext hh2.get
      rw [e1, e2]; exact hq.2
    | ret => exact ⟨.ret, ρ2, rfl, hh2, hs1.trans hs2, hq⟩
    | exit i => exact ⟨.exit i, ρ2, rfl, hh2, hs1.trans hs2, hq⟩
    | goto l => exact ⟨.goto l, ρ2, rfl, hh2, hs1.trans hs2, hq⟩
end sound

/-! ### A function -/
def Env.args (l : List Value) : Env := fun t => l.getD t undef
def resV (T : Tys) : List ResultVar → Env → Heap → (List Value → Prop) → Prop
  | [], _, _, K => K []
  | .tmp t :: r, ρ, H, K => resV T r ρ H (fun vs => K (ρ t :: vs))
  | .cell a t :: r, ρ, H, K => loadV T t (ρ a) H (fun v => resV T r ρ H (fun vs => K (v :: vs)))
def oneOf : List Value → Value
  | [v] => v
  | l => .tuple l.toArray

def resS (tmps : Array Value) : ResultVar → Sem Value
  | .tmp t => pure (tmps.getD t undef)
  | .cell a t => do loadVar t (← asAddr (tmps.getD a undef))
theorem results_eq (fn : Func) (tmps : Array Value) : results fn tmps = (do
    let vs ← fn.results.mapM (resS tmps)
    pure (if h : vs.size = 1 then vs[0] else .tuple vs)) := by
  unfold results
  congr 1

theorem resV_run {T : Tys} {P : Program} (hT : T.Ok P) {tmps : Array Value} {ρ : Env} (hg : ∀ t, tmps.getD t undef = ρ t) : ∀ (rs : List ResultVar) (H : Heap) (K : List Value → Prop), resV T rs ρ H K →
    ∃ vs, K vs ∧ ∀ w : World, w.heap = H → (rs.mapM (resS tmps)).run P w = .ok vs w
  | [], H, K, h => ⟨[], h, fun w _ => by simp⟩
  | .tmp t :: r, H, K, h => by
    obtain ⟨vs, hk, hr⟩ := resV_run hT hg r H _ h
    refine ⟨_, hk, fun w hw => ?_⟩
    rw [List.mapM_cons]
    simp only [Sem.run_bind, resS, Sem.run_pure, Result.andThen_ok, hg, hr w hw]
  | .cell a t :: r, H, K, h => by
    obtain ⟨v, hv, hl⟩ := loadV_run hT h
    obtain ⟨vs, hk, hr⟩ := resV_run hT hg r H _ hv
    refine ⟨_, hk, fun w hw => ?_⟩
    have h1 := hl w hw
    have h2 : ∃ ad, ρ a = .pointer (some ad) := by
      revert h1
      unfold Instr.loadAt Instr.sureAddr
      cases ρ a with
      | pointer p => cases p with
        | some ad => intro _; exact ⟨ad, rfl⟩
        | none => intro h1; simp at h1
      | _ => intro h1; simp at h1
    obtain ⟨ad, had⟩ := h2
    rw [had] at h1
    simp only [Instr.loadAt, Instr.sureAddr, pure_bind] at h1
    rw [List.mapM_cons]
    simp only [Sem.run_bind, resS, hg, had, asAddr, Sem.run_pure, Result.andThen_ok, h1, hr w hw]

theorem fn_of {P : Program} {T : Tys} (hT : T.Ok P) (hm : P.follows .mixedOrders = true) {f : FuncId} {fn : Func} {c : Code} {m : Cmd} (hf : P.funcs[f]? = some fn) (hb : fn.body = some c) (hc : comp fn.ntmps c = m)
    {args : List Value} {H : Heap} {R : Value → Heap → Prop} (ha : args.length ≤ fn.ntmps)
    (h : m.vc P T fn.ntmps (Env.args args) H (fun e ρ H' => match e with
      | .norm | .ret => resV T fn.results.toList ρ H' (fun vs => R (oneOf vs) H')
      | _ => False)) : Fun P f args.toArray H R := by
  intro w hw
  refine calls_of_wp hf hb (wp_mono (vc_sound hT hm c m hc _ _ _ h _ w ?_ hw) ?_)
  · refine ⟨rfl, by simp; omega, fun t => ?_⟩
    simp only [Env.args, Array.getD_eq_getD_getElem?, List.getD_eq_getElem?_getD]
    by_cases ht : t < args.length
    · simp [Array.getElem?_append, ht]
    · simp only [List.size_toArray, Array.getElem?_append, ht, if_false]
      rw [List.getElem?_eq_none (by omega)]
      simp only [Array.getElem?_replicate]
      split <;> rfl
  · rintro e a w' ⟨x, ρ, rfl, hh, hs, hq⟩
    have key : resV T fn.results.toList ρ w'.heap (fun vs => R (oneOf vs) w'.heap) → a.defers = [] ∧ ∃ v, (results fn a.tmps).run P w' = .ok v w' ∧ ∃ u, Ending.returned v = .returned u ∧ Same w w' ∧ R u w'.heap := by
      intro hq
      obtain ⟨vs, hR, hr⟩ := resV_run hT hh.get _ _ _ hq
      refine ⟨hh.defers, oneOf vs, ?_, _, rfl, hs, hR⟩
      have := hr w' rfl
      rw [results_eq, Sem.run_bind]
      have e1 : (fn.results.mapM (resS a.tmps)).run P w' = .ok vs.toArray w' := by
        rw [Array.mapM_eq_mapM_toList, Sem.run_map, this]
        rfl
      rw [e1]
      simp only [Result.andThen_ok, Sem.run_pure]
      congr 1
      match vs with
      | [] => rfl
      | [v] => rfl
      | v :: u :: r => simp [oneOf]
    cases x with
    | norm => exact key hq
    | ret => exact key hq
    | exit i => exact hq.elim
    | goto l => exact hq.elim

/-! ### The program's own types -/
def tyOf (P : Program) : Tys := fun t => match P.underlying t, P.info? t with
  | some d, some inf => match K.of d, inf.zero with
    | some k, some z => some { k := k, size := inf.size, bytes := inf.bytes, zero := z }
    | _, _ => none
  | _, _ => none
theorem tyOf_ok (P : Program) : (tyOf P).Ok P := by
  intro t i h
  unfold tyOf at h
  split at h
  · rename_i d inf hd hi
    split at h
    · rename_i k z hk hz
      cases h
      exact ⟨⟨d, hd, hk⟩, inf, hi, rfl, rfl, hz⟩
    · cases h
  · cases h

/-- At a function's end. -/
def finV (T : Tys) (rs : List ResultVar) (R : Value → Heap → Prop) : Post := fun e ρ H => match e with
  | .norm | .ret => resV T rs ρ H (fun vs => R (oneOf vs) H)
  | _ => False
@[go_sem ↓] theorem finV_norm {T : Tys} {rs : List ResultVar} {R : Value → Heap → Prop} {ρ : Env} {H : Heap} : finV T rs R .norm ρ H = resV T rs ρ H (fun vs => R (oneOf vs) H) := propext Iff.rfl
@[go_sem ↓] theorem finV_ret {T : Tys} {rs : List ResultVar} {R : Value → Heap → Prop} {ρ : Env} {H : Heap} : finV T rs R .ret ρ H = resV T rs ρ H (fun vs => R (oneOf vs) H) := propext Iff.rfl

theorem fn_of' {P : Program} (hm : P.follows .mixedOrders = true) {f : FuncId} {fn : Func} {m : Cmd} {n : Nat} {rs : List ResultVar} (hf : P.funcs[f]? = some fn) (hn : fn.ntmps = n) (hb : fn.body.map (comp n) = some m) (hr : fn.results.toList = rs)
    {args : List Value} {H : Heap} {R : Value → Heap → Prop} (ha : Nat.ble args.length n = true)
    (h : m.vc P (tyOf P) n (Env.args args) H (finV (tyOf P) rs R)) : Fun P f args.toArray H R := by
  obtain ⟨c, hc, hcm⟩ := Option.map_eq_some_iff.1 hb
  subst hn
  subst hr
  exact fn_of (tyOf_ok P) hm hf hc hcm (Nat.le_of_ble_eq_true ha) h

/-! ### The reckoning's own rules -/
-- What is still to be done stands in an instance's place: simp doesn't look into it.
class Kt (α : Type) where
  out : α → Prop
class Kt2 where
  out : Value → Heap → Prop
class KtP where
  out : Post
@[go_sem] theorem Kt.out_mk {α : Type} (f : α → Prop) (x : α) : @Kt.out α ⟨f⟩ x = f x := propext Iff.rfl
@[go_sem] theorem Kt2.out_mk (f : Value → Heap → Prop) (v : Value) (H : Heap) : @Kt2.out ⟨f⟩ v H = f v H := propext Iff.rfl
@[go_sem] theorem KtP.out_mk (f : Post) (e : Ex) (ρ : Env) (H : Heap) : @KtP.out ⟨f⟩ e ρ H = f e ρ H := propext Iff.rfl

/-- First what is handed on, then the rest. -/
def ev1 {α : Type} (x : α) [C : Kt α] : Prop := C.out x
@[go_sem] theorem ev1_eq {α : Type} (x : α) (f : α → Prop) : @ev1 α x ⟨f⟩ = f x := propext Iff.rfl

/-- A value that must be there. -/
def optV {α : Type} (x : Option α) [D : Kt α] : Prop := ∃ v, x = some v ∧ D.out v
@[go_sem ↓] theorem optV_some {α : Type} {v : α} {f : α → Prop} : @optV α (some v) ⟨f⟩ = f v := by simp [optV]
def vcI (P : Program) (T : Tys) (n : Nat) (m : Cmd) (ρ : Env) (H : Heap) [Q : KtP] : Prop := m.vc P T n ρ H Q.out
def opsI (P : Program) (T : Tys) (l : List O) (ρ : Env) (H : Heap) [Q : KtP] : Prop := opsV P T l ρ H (Q.out .norm)
def opsIR (T : Tys) (l : List O) (ρ : Env) (H : Heap) [E : Kt Env] : Prop := opsR T l ρ H E.out
def opsIQ (P : Program) (T : Tys) (l : List O) (ρ : Env) (H : Heap) [E : Kt Env] : Prop := opsQ P T l ρ H E.out
def opI (P : Program) (T : Tys) (op : Op) (ty : TypeId) (ρ : Env) (H : Heap) [C : Kt2] : Prop := opV P T op ty ρ H C.out
def opIR (T : Tys) (op : Op) (ρ : Env) (H : Heap) [D : Kt Value] : Prop := opR T op ρ H D.out
def opIQ (P : Program) (T : Tys) (op : Op) (ρ : Env) (H : Heap) [D : Kt Value] : Prop := opQ P T op ρ H D.out
def drawsI (P : Program) (T : Tys) (H0 : Heap) (l : Tr) (ρ : Env) (H : Heap) [Q : KtP] : Prop := drawsV P T H0 l ρ H (Q.out .norm)
def drawI (P : Program) (T : Tys) (H0 : Heap) (k : Nat) (o : O) (ρ : Env) (H : Heap) [C : Kt2] : Prop := drawV P T H0 k o ρ H C.out
def DrawnI (P : Program) (T : Tys) (l : Tr) (ρ : Env) (H : Heap) [Q : KtP] : Prop := DrawnV P T l ρ H (Q.out .norm)
def drawsNI (P : Program) (T : Tys) (N : Nat → Prop) (H0 : Heap) (l : Tr) (ρ : Env) (H : Heap) [Q : KtP] : Prop := drawsNV P T N H0 l ρ H (Q.out .norm)
def drawNI (P : Program) (T : Tys) (N : Nat → Prop) (H0 : Heap) (k : Nat) (o : O) (ρ : Env) (H : Heap) [C : Kt2] : Prop := drawNV P T N H0 k o ρ H C.out
def LoopI (P : Program) (n : Nat) (m : Cmd) (ρ : Env) (H : Heap) [Q : KtP] : Prop := LoopV P n m ρ H Q.out
def OtherI (P : Program) (n : Nat) (c : Code) (ρ : Env) (H : Heap) [Q : KtP] : Prop := OtherV P n c ρ H Q.out
def ScopeI (P : Program) (n : Nat) (m : Cmd) (ρ : Env) (H : Heap) [Q : KtP] : Prop := ScopeV P n m ρ H Q.out
def FunI (P : Program) (f : FuncId) (args : Array Value) (H : Heap) [C : Kt2] : Prop := Fun P f args H C.out
-- What is run, behind names of its own.
def sAppend (ts : Array TypeId) (vs : Array Value) : Sem Value := Builtin.append_ ts 0 vs
def sCopy (ts : Array TypeId) (vs : Array Value) : Sem Value := Builtin.copy_ ts 0 vs
def sDelete (ts : Array TypeId) (vs : Array Value) : Sem Value := Builtin.delete_ ts 0 vs
def sClear (ts : Array TypeId) (vs : Array Value) : Sem Value := Builtin.clear_ ts 0 vs
def sConvert (s d : TypeId) (v : Value) : Sem Value := convert s d v
def sBinOp (o : BinOp) (t : TypeId) (x y : Operand) (v u : Value) : Sem Value := do eqGuard o t x y v u; binOp o t v u
def sMakeMap (t : TypeId) (r : Option Value) : Sem Value := Instr.makeMap t r
def sLookup (t : TypeId) (m k : Value) (ok : Bool) : Sem Value := Instr.lookup t m k ok
def sRange (t : TypeId) (x : Value) : Sem Value := Instr.range t x
def sNext (i : Value) (st : Bool) : Sem Value := Instr.next i st 0
def sEntry (i : Value) : Sem Next := do pure (.value (← Instr.entry i))
def sMapUpdate (t : TypeId) (m k v : Value) : Sem Next := do Instr.mapUpdate t m k v; pure .skip
def RunI (P : Program) (s : Sem Value) (H : Heap) [C : Kt2] : Prop := RunS P s H C.out
def OpSI (P : Program) (s : Sem Next) (H : Heap) [C : Kt2] : Prop := OpS P s H C.out
theorem FunI.by {P : Program} {f : FuncId} {args : Array Value} {H : Heap} {R : Value → Heap → Prop} {C : Value → Heap → Prop} (h : Fun P f args H R) (hk : ∀ v H', R v H' → C v H') : @FunI P f args H ⟨C⟩ := h.mono hk
theorem RunI.by {P : Program} {s : Sem Value} {H : Heap} {R : Value → Heap → Prop} {C : Value → Heap → Prop} (h : RunS P s H R) (hk : ∀ v H', R v H' → C v H') : @RunI P s H ⟨C⟩ := h.mono hk

class KtI where
  out : Env → Heap → Prop
/-- What holds at a round's head, left as it stands. -/
def Hold [I : KtI] (ρ : Env) (H : Heap) : Prop := I.out ρ H
theorem Hold.mk {I : Env → Heap → Prop} {ρ : Env} {H : Heap} (h : I ρ H) : @Hold ⟨I⟩ ρ H := h
theorem LoopI.by {P : Program} (hm : P.follows .mixedOrders = true) {n : Nat} {m : Cmd} {ρ : Env} {H : Heap} {Q : Post} (I : Env → Heap → Prop) (μ : Env → Heap → Nat) (h0 : I ρ H)
    (hr : ∀ ρ H, I ρ H → @vcI P (tyOf P) n m ρ H ⟨Post.seq (fun ρ' H' => @Hold ⟨I⟩ ρ' H' ∧ μ ρ' H' < μ ρ H) Q⟩) : @LoopI P n m ρ H ⟨Q⟩ := loopV_rule (tyOf_ok P) hm I μ h0 hr
def iof : Value → Int | .int _ n => n | _ => 0
@[go_sem] theorem iof_int (k : IntKind) (n : Int) : iof (.int k n) = n := rfl

/-- Here the reckoning stops. -/
def Stop (m : Cmd) : Cmd := m
theorem fun_of {P : Program} (hm : P.follows .mixedOrders = true) {f : FuncId} {fn : Func} {m : Cmd} {n : Nat} {rs : List ResultVar} (hf : P.funcs[f]? = some fn) (hn : fn.ntmps = n) (hb : fn.body.map (comp n) = some m) (hr : fn.results.toList = rs)
    {args : List Value} {H : Heap} {R : Value → Heap → Prop} (ha : Nat.ble args.length n = true)
    (h : @vcI P (tyOf P) n m (Env.args args) H ⟨finV (tyOf P) rs R⟩) : Fun P f args.toArray H R := fn_of' hm hf hn hb hr ha h

section rules
variable {P : Program} {T : Tys} {n : Nat} {ρ : Env} {H : Heap} {Q : Post}
@[go_sem ↓] theorem vc_skip : @vcI P T n .skip ρ H ⟨Q⟩ = Q .norm ρ H := propext Iff.rfl
@[go_sem ↓] theorem vc_ret : @vcI P T n .ret ρ H ⟨Q⟩ = Q .ret ρ H := propext Iff.rfl
@[go_sem ↓] theorem vc_exit {i : Nat} : @vcI P T n (.exit i) ρ H ⟨Q⟩ = Q (.exit i) ρ H := propext Iff.rfl
@[go_sem ↓] theorem vc_goto {i : Nat} : @vcI P T n (.goto i) ρ H ⟨Q⟩ = Q (.goto i) ρ H := propext Iff.rfl
@[go_sem ↓] theorem vc_label {i : Nat} : @vcI P T n (.label i) ρ H ⟨Q⟩ = Q .norm ρ H := propext Iff.rfl
@[go_sem ↓] theorem vc_seq {a b : Cmd} : @vcI P T n (.seq a b) ρ H ⟨Q⟩ = @vcI P T n a ρ H ⟨Post.seq (fun ρ' H' => @vcI P T n b ρ' H' ⟨Q⟩) Q⟩ := propext Iff.rfl
@[go_sem ↓] theorem vc_cond {c : Operand} {a b : Cmd} : @vcI P T n (.cond c a b) ρ H ⟨Q⟩ = @ev1 Value (ρ.ev c) ⟨fun v => condV v (@vcI P T n a ρ H ⟨Q⟩) (@vcI P T n b ρ H ⟨Q⟩)⟩ := propext Iff.rfl
@[go_sem ↓] theorem vc_block {i : Nat} {b : Cmd} : @vcI P T n (.block i b) ρ H ⟨Q⟩ = @vcI P T n b ρ H ⟨Post.block i Q⟩ := propext Iff.rfl
@[go_sem ↓] theorem vc_loop {b : Cmd} : @vcI P T n (.loop b) ρ H ⟨Q⟩ = @LoopI P n b ρ H ⟨Q⟩ := propext Iff.rfl
@[go_sem ↓] theorem vc_scope {b : Cmd} : @vcI P T n (.scope b) ρ H ⟨Q⟩ = @ScopeI P n b ρ H ⟨Q⟩ := propext Iff.rfl
@[go_sem ↓] theorem vc_other {c : Code} : @vcI P T n (.other c) ρ H ⟨Q⟩ = @OtherI P n c ρ H ⟨Q⟩ := propext Iff.rfl
@[go_sem ↓] theorem vc_ops {l : List O} : @vcI P T n (.ops l) ρ H ⟨Q⟩ = @opsI P T l ρ H ⟨Q⟩ := propext Iff.rfl
@[go_sem ↓] theorem vc_quiet {l : List O} : @vcI P T n (.quiet l) ρ H ⟨Q⟩ = @opsIQ P T l ρ H ⟨fun ρ' => Q .norm ρ' H⟩ := propext Iff.rfl
@[go_sem ↓] theorem vc_still {k : Nat} {l : List O} : @vcI P T n (.still k l) ρ H ⟨Q⟩ = @opsIR T (l.take k) ρ H ⟨fun ρ' => @opsI P T (l.drop k) ρ' H ⟨Q⟩⟩ := propext Iff.rfl

@[go_sem ↓] theorem vc_draw {l : Tr} : @vcI P T n (.draw l) ρ H ⟨Q⟩ = @drawsI P T H l ρ H ⟨Q⟩ := propext Iff.rfl

@[go_sem ↓] theorem vc_drawn {l : Tr} : @vcI P T n (.drawn l) ρ H ⟨Q⟩ = @DrawnI P T l ρ H ⟨Q⟩ := propext Iff.rfl
theorem DrawnI.by {l : Tr} [Q : KtP] (N : Nat → Prop) (h : @drawsNI P T N H l ρ H Q) : @DrawnI P T l ρ H Q := ⟨N, h⟩

@[go_sem ↓] theorem seq_norm {nx : Env → Heap → Prop} : Post.seq nx Q .norm ρ H = nx ρ H := propext Iff.rfl
@[go_sem ↓] theorem seq_ret {nx : Env → Heap → Prop} : Post.seq nx Q .ret ρ H = Q .ret ρ H := propext Iff.rfl
@[go_sem ↓] theorem seq_exit {nx : Env → Heap → Prop} {i : Nat} : Post.seq nx Q (.exit i) ρ H = Q (.exit i) ρ H := propext Iff.rfl
@[go_sem ↓] theorem seq_goto {nx : Env → Heap → Prop} {i : Nat} : Post.seq nx Q (.goto i) ρ H = Q (.goto i) ρ H := propext Iff.rfl
@[go_sem ↓] theorem block_norm {i : Nat} : Post.block i Q .norm ρ H = Q .norm ρ H := propext Iff.rfl
@[go_sem ↓] theorem block_ret {i : Nat} : Post.block i Q .ret ρ H = Q .ret ρ H := propext Iff.rfl
@[go_sem ↓] theorem block_goto {i j : Nat} : Post.block i Q (.goto j) ρ H = Q (.goto j) ρ H := propext Iff.rfl
@[go_sem ↓] theorem block_exit_same {i : Nat} : Post.block i Q (.exit i) ρ H = Q .norm ρ H := if_pos rfl
/-- Another block's. -/
@[go_sem ↓] theorem block_exit {i j : Nat} : Post.block i Q (.exit j) ρ H = @ev1 Bool (Nat.beq j i) ⟨fun b => condB b (Q .norm ρ H) (Q (.exit j) ρ H)⟩ := by
  simp only [Post.block, ev1, condB]
  by_cases h : j = i
  · subst h; simp [Nat.beq_refl]
  · rw [if_neg h]
    have : Nat.beq j i = false := by
      cases hb : Nat.beq j i with
      | true => exact absurd (Nat.eq_of_beq_eq_true hb) h
      | false => rfl
    rw [this]

@[go_sem ↓] theorem condV_true {A B : Prop} : condV (.bool true) A B = A := by simp [condV]
@[go_sem ↓] theorem condV_false {A B : Prop} : condV (.bool false) A B = B := by simp [condV]
@[go_sem ↓ low] theorem condV_bool {b : Bool} {A B : Prop} : condV (.bool b) A B = ((b = true → A) ∧ (b = false → B)) := propext Iff.rfl
@[go_sem ↓] theorem guardV_tt {A B : Prop} : guardV (.bool true) true A B = A := by simp [guardV]
@[go_sem ↓] theorem guardV_ff {A B : Prop} : guardV (.bool false) false A B = A := by simp [guardV]
@[go_sem ↓] theorem guardV_tf {A B : Prop} : guardV (.bool true) false A B = B := by simp [guardV]
@[go_sem ↓] theorem guardV_ft {A B : Prop} : guardV (.bool false) true A B = B := by simp [guardV]
@[go_sem ↓] theorem guardV_undef {w : Bool} {A B : Prop} : guardV undef w A B = B := propext Iff.rfl
@[go_sem ↓ low] theorem guardV_bt {b : Bool} {A B : Prop} : guardV (.bool b) true A B = ((b = true → A) ∧ (b = false → B)) := propext Iff.rfl
@[go_sem ↓ low] theorem guardV_bf {b : Bool} {A B : Prop} : guardV (.bool b) false A B = ((b = false → A) ∧ (b = true → B)) := propext Iff.rfl

variable {C : Value → Heap → Prop} {D : Value → Prop} {E : Env → Prop}
/-- What the reckoning of a pure operation gave. -/
def opK (P : Program) (T : Tys) (op : Op) (ty : TypeId) (ρ : Env) (H : Heap) (x : Option (Prop × Value)) [C : Kt2] : Prop := match x with
  | some (c, v) => c ∧ C.out v H
  | none => heapV P T op ty ρ H C.out
@[go_sem ↓] theorem opK_some {op : Op} {ty : TypeId} {c : Prop} {v : Value} : @opK P T op ty ρ H (some (c, v)) ⟨C⟩ = (c ∧ C v H) := propext Iff.rfl
theorem opV_K {op : Op} {ty : TypeId} : @opI P T op ty ρ H ⟨C⟩ = @ev1 (Option (Prop × Value)) (pureP T ρ op) ⟨fun x => @opK P T op ty ρ H x ⟨C⟩⟩ := by
  unfold ev1 opK opI
  cases h : pureP T ρ op with
  | none => show opV P T op ty ρ H C = heapV P T op ty ρ H C; simp only [opV, h]
  | some x => obtain ⟨c, v⟩ := x; simp only [opV, h]
/-- One carried out, then the rest. -/
def drawsG (P : Program) (T : Tys) (H0 : Heap) (k : Nat) (o : O) (r : Tr) (ρ : Env) (H : Heap) [Q : KtP] : Prop := drawsV P T H0 (.step k o r) ρ H (Q.out .norm)
@[go_sem ↓] theorem drawsI_nil {H0 : Heap} : @drawsI P T H0 .done ρ H ⟨Q⟩ = Q .norm ρ H := propext Iff.rfl
@[go_sem ↓] theorem drawsI_step {H0 : Heap} {k : Nat} {o : O} {r : Tr} : @drawsI P T H0 (.step k o r) ρ H ⟨Q⟩ = @drawsG P T H0 k o r ρ H ⟨Q⟩ := propext Iff.rfl
@[go_sem ↓] theorem drawsI_both {H0 : Heap} {o o' : O} {r r' : Tr} : @drawsI P T H0 (.both o r o' r') ρ H ⟨Q⟩ = (@drawsG P T H0 1 o r ρ H ⟨Q⟩ ∧ @drawsG P T H0 1 o' r' ρ H ⟨Q⟩) := propext Iff.rfl
@[go_sem ↓] theorem drawsI_three {H0 : Heap} {o o' o'' : O} {r r' r'' : Tr} : @drawsI P T H0 (.three o r o' r' o'' r'') ρ H ⟨Q⟩ = (@drawsG P T H0 1 o r ρ H ⟨Q⟩ ∧ @drawsG P T H0 1 o' r' ρ H ⟨Q⟩ ∧ @drawsG P T H0 1 o'' r'' ρ H ⟨Q⟩) := propext Iff.rfl
@[go_sem ↓] theorem drawsI_none {H0 : Heap} {k : Nat} {op : Op} {ty : TypeId} {r : Tr} : @drawsG P T H0 k ⟨none, op, ty, none⟩ r ρ H ⟨Q⟩ = @drawI P T H0 k ⟨none, op, ty, none⟩ ρ H ⟨fun _ H' => @drawsI P T H0 r ρ H' ⟨Q⟩⟩ := propext Iff.rfl
@[go_sem ↓] theorem drawsI_some {H0 : Heap} {k : Nat} {d : Nat} {op : Op} {ty : TypeId} {r : Tr} : @drawsG P T H0 k ⟨some d, op, ty, none⟩ r ρ H ⟨Q⟩ = @drawI P T H0 k ⟨some d, op, ty, none⟩ ρ H ⟨fun v H' => @drawsI P T H0 r (ρ.set d v) H' ⟨Q⟩⟩ := propext Iff.rfl
@[go_sem ↓] theorem drawsI_gnone {H0 : Heap} {k : Nat} {op : Op} {ty : TypeId} {r : Tr} {g : Nat} {w : Bool} : @drawsG P T H0 k ⟨none, op, ty, some (g, w)⟩ r ρ H ⟨Q⟩ = @ev1 Value (ρ g) ⟨fun x => guardV x w (@drawI P T H0 k ⟨none, op, ty, some (g, w)⟩ ρ H ⟨fun _ H' => @drawsI P T H0 r ρ H' ⟨Q⟩⟩) (@drawsI P T H0 r ρ H ⟨Q⟩)⟩ := propext Iff.rfl
@[go_sem ↓] theorem drawsI_gsome {H0 : Heap} {k : Nat} {d : Nat} {op : Op} {ty : TypeId} {r : Tr} {g : Nat} {w : Bool} : @drawsG P T H0 k ⟨some d, op, ty, some (g, w)⟩ r ρ H ⟨Q⟩ = @ev1 Value (ρ g) ⟨fun x => guardV x w (@drawI P T H0 k ⟨some d, op, ty, some (g, w)⟩ ρ H ⟨fun v H' => @drawsI P T H0 r (ρ.set d v) H' ⟨Q⟩⟩) (@drawsI P T H0 r (ρ.set d undef) H ⟨Q⟩)⟩ := propext Iff.rfl
/-- What an operation that reads nothing reckons. -/
def pureE (r : Option (Prop × Value)) [D : Kt Value] : Prop := match r with
  | some (c, v) => c ∧ D.out v
  | none => False
@[go_sem ↓] theorem pureE_some {c : Prop} {v : Value} {f : Value → Prop} : @pureE (some (c, v)) ⟨f⟩ = (c ∧ f v) := propext Iff.rfl
@[go_sem ↓] theorem drawI_0 {H0 : Heap} {d : Option Nat} {op : Op} {ty : TypeId} {g : Option (Nat × Bool)} {C : Value → Heap → Prop} : @drawI P T H0 0 ⟨d, op, ty, g⟩ ρ H ⟨C⟩ = @opIR T op ρ H0 ⟨fun v => C v H⟩ := propext Iff.rfl
@[go_sem ↓] theorem drawI_1 {H0 : Heap} {d : Option Nat} {op : Op} {ty : TypeId} {g : Option (Nat × Bool)} {C : Value → Heap → Prop} : @drawI P T H0 1 ⟨d, op, ty, g⟩ ρ H ⟨C⟩ = @opI P T op ty ρ H ⟨fun v H' => Ext H0 H' ∧ C v H'⟩ := propext Iff.rfl
@[go_sem ↓] theorem drawI_2 {H0 : Heap} {d : Option Nat} {op : Op} {ty : TypeId} {g : Option (Nat × Bool)} {C : Value → Heap → Prop} : @drawI P T H0 2 ⟨d, op, ty, g⟩ ρ H ⟨C⟩ = @opI P T op ty ρ H ⟨C⟩ := propext Iff.rfl
@[go_sem ↓] theorem drawI_3 {H0 : Heap} {d : Option Nat} {op : Op} {ty : TypeId} {g : Option (Nat × Bool)} {C : Value → Heap → Prop} : @drawI P T H0 3 ⟨d, op, ty, g⟩ ρ H ⟨C⟩ = @ev1 (Option (Prop × Value)) (pureP T ρ op) ⟨fun r => @pureE r ⟨fun v => C v H⟩⟩ := by
  simp only [drawI, drawV, pureOnly, ev1, pureE]
def drawsNG (P : Program) (T : Tys) (N : Nat → Prop) (H0 : Heap) (k : Nat) (o : O) (r : Tr) (ρ : Env) (H : Heap) [Q : KtP] : Prop := drawsNV P T N H0 (.step k o r) ρ H (Q.out .norm)
section
variable {N : Nat → Prop}
@[go_sem ↓] theorem drawsNI_nil {H0 : Heap} : @drawsNI P T N H0 .done ρ H ⟨Q⟩ = Q .norm ρ H := propext Iff.rfl
@[go_sem ↓] theorem drawsNI_step {H0 : Heap} {k : Nat} {o : O} {r : Tr} : @drawsNI P T N H0 (.step k o r) ρ H ⟨Q⟩ = @drawsNG P T N H0 k o r ρ H ⟨Q⟩ := propext Iff.rfl
@[go_sem ↓] theorem drawsNI_none {H0 : Heap} {k : Nat} {op : Op} {ty : TypeId} {r : Tr} : @drawsNG P T N H0 k ⟨none, op, ty, none⟩ r ρ H ⟨Q⟩ = @drawNI P T N H0 k ⟨none, op, ty, none⟩ ρ H ⟨fun _ H' => @drawsNI P T N H0 r ρ H' ⟨Q⟩⟩ := propext Iff.rfl
@[go_sem ↓] theorem drawsNI_some {H0 : Heap} {k : Nat} {d : Nat} {op : Op} {ty : TypeId} {r : Tr} : @drawsNG P T N H0 k ⟨some d, op, ty, none⟩ r ρ H ⟨Q⟩ = @drawNI P T N H0 k ⟨some d, op, ty, none⟩ ρ H ⟨fun v H' => @drawsNI P T N H0 r (ρ.set d v) H' ⟨Q⟩⟩ := propext Iff.rfl
@[go_sem ↓] theorem drawsNI_gnone {H0 : Heap} {k : Nat} {op : Op} {ty : TypeId} {r : Tr} {g : Nat} {w : Bool} : @drawsNG P T N H0 k ⟨none, op, ty, some (g, w)⟩ r ρ H ⟨Q⟩ = @ev1 Value (ρ g) ⟨fun x => guardV x w (@drawNI P T N H0 k ⟨none, op, ty, some (g, w)⟩ ρ H ⟨fun _ H' => @drawsNI P T N H0 r ρ H' ⟨Q⟩⟩) (@drawsNI P T N H0 r ρ H ⟨Q⟩)⟩ := propext Iff.rfl
@[go_sem ↓] theorem drawsNI_gsome {H0 : Heap} {k : Nat} {d : Nat} {op : Op} {ty : TypeId} {r : Tr} {g : Nat} {w : Bool} : @drawsNG P T N H0 k ⟨some d, op, ty, some (g, w)⟩ r ρ H ⟨Q⟩ = @ev1 Value (ρ g) ⟨fun x => guardV x w (@drawNI P T N H0 k ⟨some d, op, ty, some (g, w)⟩ ρ H ⟨fun v H' => @drawsNI P T N H0 r (ρ.set d v) H' ⟨Q⟩⟩) (@drawsNI P T N H0 r (ρ.set d undef) H ⟨Q⟩)⟩ := propext Iff.rfl
@[go_sem ↓] theorem drawNI_0 {H0 : Heap} {d : Option Nat} {t : TypeId} {x : Operand} {ty : TypeId} {g : Option (Nat × Bool)} {C : Value → Heap → Prop} : @drawNI P T N H0 0 ⟨d, .load t x, ty, g⟩ ρ H ⟨C⟩ = (inV N (ρ.ev x) ∧ @opIR T (.load t x) ρ H0 ⟨fun v => C v H⟩) := propext Iff.rfl
@[go_sem ↓] theorem drawNI_1 {H0 : Heap} {d : Option Nat} {op : Op} {ty : TypeId} {g : Option (Nat × Bool)} {C : Value → Heap → Prop} : @drawNI P T N H0 1 ⟨d, op, ty, g⟩ ρ H ⟨C⟩ = @opI P T op ty ρ H ⟨fun v H' => Kept N H0 H' ∧ C v H'⟩ := propext Iff.rfl
@[go_sem ↓] theorem drawNI_3 {H0 : Heap} {d : Option Nat} {op : Op} {ty : TypeId} {g : Option (Nat × Bool)} {C : Value → Heap → Prop} : @drawNI P T N H0 3 ⟨d, op, ty, g⟩ ρ H ⟨C⟩ = @ev1 (Option (Prop × Value)) (pureP T ρ op) ⟨fun r => @pureE r ⟨fun v => C v H⟩⟩ := by
  simp only [drawNI, drawNV, pureOnly, ev1, pureE]
@[go_sem] theorem inV_ptr {b o : Nat} : inV N (.pointer (some ⟨b, o, none⟩)) = N b := rfl
end
theorem ext_push {x : Obj} : Ext H (H.push x) = True := eq_true ⟨by simp, fun b hb => by rw [Array.getElem?_push, if_neg (by omega)]⟩
theorem ext_refl : Ext H H = True := eq_true ⟨Nat.le_refl _, fun _ _ => rfl⟩
@[go_sem ↓] theorem opsI_nil : @opsI P T [] ρ H ⟨Q⟩ = Q .norm ρ H := propext Iff.rfl
@[go_sem ↓] theorem opsI_none {op : Op} {ty : TypeId} {r : List O} : @opsI P T (⟨none, op, ty, none⟩ :: r) ρ H ⟨Q⟩ = @opI P T op ty ρ H ⟨fun _ H' => @opsI P T r ρ H' ⟨Q⟩⟩ := propext Iff.rfl
@[go_sem ↓] theorem opsI_some {d : Nat} {op : Op} {ty : TypeId} {r : List O} : @opsI P T (⟨some d, op, ty, none⟩ :: r) ρ H ⟨Q⟩ = @opI P T op ty ρ H ⟨fun v H' => @opsI P T r (ρ.set d v) H' ⟨Q⟩⟩ := propext Iff.rfl
@[go_sem ↓] theorem opsI_gnone {op : Op} {ty : TypeId} {r : List O} {g : Nat} {w : Bool} : @opsI P T (⟨none, op, ty, some (g, w)⟩ :: r) ρ H ⟨Q⟩ = @ev1 Value (ρ g) ⟨fun x => guardV x w (@opI P T op ty ρ H ⟨fun _ H' => @opsI P T r ρ H' ⟨Q⟩⟩) (@opsI P T r ρ H ⟨Q⟩)⟩ := propext Iff.rfl
@[go_sem ↓] theorem opsI_gsome {d : Nat} {op : Op} {ty : TypeId} {r : List O} {g : Nat} {w : Bool} : @opsI P T (⟨some d, op, ty, some (g, w)⟩ :: r) ρ H ⟨Q⟩ = @ev1 Value (ρ g) ⟨fun x => guardV x w (@opI P T op ty ρ H ⟨fun v H' => @opsI P T r (ρ.set d v) H' ⟨Q⟩⟩) (@opsI P T r (ρ.set d undef) H ⟨Q⟩)⟩ := propext Iff.rfl
@[go_sem ↓] theorem opsR_nil : @opsIR T [] ρ H ⟨E⟩ = E ρ := propext Iff.rfl
@[go_sem ↓] theorem opsR_some {d : Nat} {op : Op} {ty : TypeId} {r : List O} : @opsIR T (⟨some d, op, ty, none⟩ :: r) ρ H ⟨E⟩ = @opIR T op ρ H ⟨fun v => @opsIR T r (ρ.set d v) H ⟨E⟩⟩ := propext Iff.rfl
@[go_sem ↓] theorem opsR_none {op : Op} {ty : TypeId} {r : List O} : @opsIR T (⟨none, op, ty, none⟩ :: r) ρ H ⟨E⟩ = @opIR T op ρ H ⟨fun _ => @opsIR T r ρ H ⟨E⟩⟩ := propext Iff.rfl
@[go_sem ↓] theorem opsR_gsome {d : Nat} {op : Op} {ty : TypeId} {r : List O} {g : Nat} {w : Bool} : @opsIR T (⟨some d, op, ty, some (g, w)⟩ :: r) ρ H ⟨E⟩ = @ev1 Value (ρ g) ⟨fun x => guardV x w (@opIR T op ρ H ⟨fun v => @opsIR T r (ρ.set d v) H ⟨E⟩⟩) (@opsIR T r (ρ.set d undef) H ⟨E⟩)⟩ := propext Iff.rfl
@[go_sem ↓] theorem opsQ_nil : @opsIQ P T [] ρ H ⟨E⟩ = E ρ := propext Iff.rfl
@[go_sem ↓] theorem opsQ_some {d : Nat} {op : Op} {ty : TypeId} {r : List O} : @opsIQ P T (⟨some d, op, ty, none⟩ :: r) ρ H ⟨E⟩ = @opIQ P T op ρ H ⟨fun v => @opsIQ P T r (ρ.set d v) H ⟨E⟩⟩ := propext Iff.rfl
@[go_sem ↓] theorem opsQ_none {op : Op} {ty : TypeId} {r : List O} : @opsIQ P T (⟨none, op, ty, none⟩ :: r) ρ H ⟨E⟩ = @opIQ P T op ρ H ⟨fun _ => @opsIQ P T r ρ H ⟨E⟩⟩ := propext Iff.rfl
@[go_sem ↓] theorem opsQ_gsome {d : Nat} {op : Op} {ty : TypeId} {r : List O} {g : Nat} {w : Bool} : @opsIQ P T (⟨some d, op, ty, some (g, w)⟩ :: r) ρ H ⟨E⟩ = @ev1 Value (ρ g) ⟨fun x => guardV x w (@opIQ P T op ρ H ⟨fun v => @opsIQ P T r (ρ.set d v) H ⟨E⟩⟩) (@opsIQ P T r (ρ.set d undef) H ⟨E⟩)⟩ := propext Iff.rfl

def opRK (T : Tys) (op : Op) (ρ : Env) (H : Heap) (x : Option (Prop × Value)) [D : Kt Value] : Prop := match x with
  | some (c, v) => c ∧ D.out v
  | none => opR T op ρ H D.out
@[go_sem ↓] theorem opRK_some {op : Op} {c : Prop} {v : Value} : @opRK T op ρ H (some (c, v)) ⟨D⟩ = (c ∧ D v) := propext Iff.rfl
theorem opR_K {op : Op} : @opIR T op ρ H ⟨D⟩ = @ev1 (Option (Prop × Value)) (pureP T ρ op) ⟨fun x => @opRK T op ρ H x ⟨D⟩⟩ := by
  unfold ev1 opRK opIR
  cases h : pureP T ρ op with
  | none => rfl
  | some x => obtain ⟨c, v⟩ := x; simp only [opR, h]
def opQK (P : Program) (T : Tys) (op : Op) (ρ : Env) (H : Heap) (x : Option (Prop × Value)) [D : Kt Value] : Prop := match x with
  | some (c, v) => c ∧ D.out v
  | none => opQ P T op ρ H D.out
@[go_sem ↓] theorem opQK_some {op : Op} {c : Prop} {v : Value} : @opQK P T op ρ H (some (c, v)) ⟨D⟩ = (c ∧ D v) := propext Iff.rfl
theorem opQ_K {op : Op} : @opIQ P T op ρ H ⟨D⟩ = @ev1 (Option (Prop × Value)) (pureP T ρ op) ⟨fun x => @opQK P T op ρ H x ⟨D⟩⟩ := by
  unfold ev1 opQK opIQ
  cases h : pureP T ρ op with
  | none => rfl
  | some x => obtain ⟨c, v⟩ := x; simp only [opQ, h]

-- each operation that is pure, by its name
@[go_sem ↓] theorem opV_move {x : Operand} {ty : TypeId} : @opI P T (.move x) ty ρ H ⟨C⟩ = @ev1 Value (ρ.ev x) ⟨fun v => C v H⟩ := by simp [opI, opV, heapV, pureP, ev1]
@[go_sem ↓] theorem opV_assign {x : Operand} {ty : TypeId} : @opI P T (.assign x) ty ρ H ⟨C⟩ = @ev1 Value (ρ.ev x) ⟨fun v => C v H⟩ := by simp [opI, opV, heapV, pureP, ev1]
@[go_sem ↓] theorem opV_pick {c a b : Operand} {ty : TypeId} : @opI P T (.pick c a b) ty ρ H ⟨C⟩ = @ev1 (Option (Prop × Value)) (pureP T ρ (.pick c a b)) ⟨fun x => @opK P T (.pick c a b) ty ρ H x ⟨C⟩⟩ := opV_K
@[go_sem ↓] theorem opV_binOp {o : BinOp} {t t' : TypeId} {x y : Operand} {ty : TypeId} : @opI P T (.binOp o t x y t') ty ρ H ⟨C⟩ = @ev1 (Option (Prop × Value)) (binT T o t (ρ.ev x) (ρ.ev y)) ⟨fun r => @opK P T (.binOp o t x y t') ty ρ H r ⟨C⟩⟩ := opV_K
@[go_sem ↓] theorem opV_unOp {o : UnOp} {t : TypeId} {x : Operand} {ty : TypeId} : @opI P T (.unOp o t x) ty ρ H ⟨C⟩ = @ev1 (Option (Prop × Value)) (pureP T ρ (.unOp o t x)) ⟨fun r => @opK P T (.unOp o t x) ty ρ H r ⟨C⟩⟩ := opV_K
@[go_sem ↓] theorem opV_convert {s d : TypeId} {x : Operand} {ty : TypeId} : @opI P T (.convert s d x) ty ρ H ⟨C⟩ = @ev1 (Option (Prop × Value)) (pureP T ρ (.convert s d x)) ⟨fun r => @opK P T (.convert s d x) ty ρ H r ⟨C⟩⟩ := opV_K
@[go_sem ↓] theorem opV_field {t : TypeId} {x : Operand} {f : Nat} {ty : TypeId} : @opI P T (.field t x f) ty ρ H ⟨C⟩ = @ev1 (Option (Prop × Value)) (pureP T ρ (.field t x f)) ⟨fun r => @opK P T (.field t x f) ty ρ H r ⟨C⟩⟩ := opV_K
@[go_sem ↓] theorem opV_fieldAddr {t : TypeId} {x : Operand} {f : Nat} {ty : TypeId} : @opI P T (.fieldAddr t x f) ty ρ H ⟨C⟩ = @ev1 (Option (Prop × Value)) (pureP T ρ (.fieldAddr t x f)) ⟨fun r => @opK P T (.fieldAddr t x f) ty ρ H r ⟨C⟩⟩ := opV_K
@[go_sem ↓] theorem opV_extract {x : Operand} {i : Nat} {ty : TypeId} : @opI P T (.extract x i) ty ρ H ⟨C⟩ = @ev1 (Option (Prop × Value)) (pureP T ρ (.extract x i)) ⟨fun r => @opK P T (.extract x i) ty ρ H r ⟨C⟩⟩ := opV_K
@[go_sem ↓] theorem opV_index {t : TypeId} {x i : Operand} {ty : TypeId} : @opI P T (.index t x i) ty ρ H ⟨C⟩ = @ev1 (Option (Prop × Value)) (pureP T ρ (.index t x i)) ⟨fun r => @opK P T (.index t x i) ty ρ H r ⟨C⟩⟩ := opV_K
@[go_sem ↓] theorem opV_indexAddr {t : TypeId} {x i : Operand} {ty : TypeId} : @opI P T (.indexAddr t x i) ty ρ H ⟨C⟩ = @ev1 (Option (Prop × Value)) (pureP T ρ (.indexAddr t x i)) ⟨fun r => @opK P T (.indexAddr t x i) ty ρ H r ⟨C⟩⟩ := opV_K
@[go_sem ↓] theorem opV_slice {t : TypeId} {x : Operand} {a b c : Option Operand} {ty : TypeId} : @opI P T (.slice t x a b c) ty ρ H ⟨C⟩ = @ev1 (Option (Prop × Value)) (pureP T ρ (.slice t x a b c)) ⟨fun r => @opK P T (.slice t x a b c) ty ρ H r ⟨C⟩⟩ := opV_K
@[go_sem ↓] theorem opV_arrayAt {t : TypeId} {x : Operand} {ty : TypeId} : @opI P T (.sliceToArrayPointer t x) ty ρ H ⟨C⟩ = @ev1 (Option (Prop × Value)) (arrP T t (ρ.ev x)) ⟨fun r => @opK P T (.sliceToArrayPointer t x) ty ρ H r ⟨C⟩⟩ := opV_K
@[go_sem ↓] theorem opV_nilCheck {x : Operand} {ty : TypeId} : @opI P T (.nilCheck x) ty ρ H ⟨C⟩ = @ev1 (Option (Prop × Value)) (pureP T ρ (.nilCheck x)) ⟨fun r => @opK P T (.nilCheck x) ty ρ H r ⟨C⟩⟩ := opV_K
@[go_sem ↓] theorem opV_makeFunc {f : Fn} {a b : Array Operand} {ty : TypeId} : @opI P T (.makeFunc f a b) ty ρ H ⟨C⟩ = @ev1 (Option (Prop × Value)) (pureP T ρ (.makeFunc f a b)) ⟨fun r => @opK P T (.makeFunc f a b) ty ρ H r ⟨C⟩⟩ := opV_K
@[go_sem ↓] theorem opV_build {t : TypeId} {a : Array (Nat × Operand)} {ty : TypeId} : @opI P T (.build t a) ty ρ H ⟨C⟩ = @ev1 (Option (Prop × Value)) (pureP T ρ (.build t a)) ⟨fun r => @opK P T (.build t a) ty ρ H r ⟨C⟩⟩ := opV_K
@[go_sem ↓] theorem opV_built {b : Builtin} {a : Array Operand} {ts : Array TypeId} {ty : TypeId} : @opI P T (.call { callee := .builtin b, args := a, argTypes := ts }) ty ρ H ⟨C⟩ =
    @ev1 (Option (Prop × Value)) (pureP T ρ (.call { callee := .builtin b, args := a, argTypes := ts })) ⟨fun r => @opK P T (.call { callee := .builtin b, args := a, argTypes := ts }) ty ρ H r ⟨C⟩⟩ := opV_K
def callI (P : Program) (f : Value) (args : Array Value) (H : Heap) [C : Kt2] : Prop := callV P f args H C.out
@[go_sem ↓] theorem opV_call {f : Operand} {a : Array Operand} {ts : Array TypeId} {ty : TypeId} : @opI P T (.call { callee := .value f, args := a, argTypes := ts }) ty ρ H ⟨C⟩ =
    @ev1 Value (ρ.ev f) ⟨fun g => @ev1 (Array Value) (a.map ρ.ev) ⟨fun vs => @callI P g vs H ⟨C⟩⟩⟩ := by simp [opI, opV, heapV, pureP, ev1, callI]
@[go_sem ↓] theorem callI_fn {g : FuncId} {a : Array Value} : @callI P (.func (.func g) #[] #[]) a H ⟨C⟩ = (okCall P g = true ∧ @FunI P g a H ⟨C⟩) := by simp [callI, callV, FunI]
@[go_sem] theorem callI_fn' {g : FuncId} {x y a : Array Value} : @callI P (.func (.func g) x y) a H ⟨C⟩ = (okCall P g = true ∧ @FunI P g (x ++ a ++ y) H ⟨C⟩) := propext Iff.rfl

-- loads, stores, what is made
def loadK (x : Option TI) (p : Value) (H : Heap) [D : Kt Value] : Prop := match x, p with
  | some ti, .pointer (some ⟨b, o, none⟩) => if ti.k.agg = true then @optV (List Value) (hgets H b o ti.size) ⟨fun vs => D.out (.agg vs.toArray)⟩ else @optV Value (hget H b o) D
  | _, _ => False
theorem loadV_K {t : TypeId} {p : Value} : loadV T t p H D = @loadK (T t) p H ⟨D⟩ := propext Iff.rfl
@[go_sem ↓] theorem opV_load {t : TypeId} {a : Operand} {ty : TypeId} : @opI P T (.load t a) ty ρ H ⟨C⟩ = @ev1 Value (ρ.ev a) ⟨fun p => @ev1 (Option TI) (T t) ⟨fun x => @loadK x p H ⟨fun v => C v H⟩⟩⟩ := by
  simp [opI, opV, heapV, pureP, ev1, loadV_K]
section
variable {b o sz by' : Nat} {z : Value}
@[go_sem] theorem loadK_st {l : List (Nat × TypeId)} : @loadK (some ⟨.st l, sz, by', z⟩) (.pointer (some ⟨b, o, none⟩)) H ⟨D⟩ = @optV (List Value) (hgets H b o sz) ⟨fun vs => D (.agg vs.toArray)⟩ := propext Iff.rfl
@[go_sem] theorem loadK_arr {k e : Nat} : @loadK (some ⟨.arr k e, sz, by', z⟩) (.pointer (some ⟨b, o, none⟩)) H ⟨D⟩ = @optV (List Value) (hgets H b o sz) ⟨fun vs => D (.agg vs.toArray)⟩ := propext Iff.rfl
@[go_sem] theorem loadK_int {k : IntKind} : @loadK (some ⟨.int k, sz, by', z⟩) (.pointer (some ⟨b, o, none⟩)) H ⟨D⟩ = @optV Value (hget H b o) ⟨D⟩ := propext Iff.rfl
@[go_sem] theorem loadK_bool : @loadK (some ⟨.bool, sz, by', z⟩) (.pointer (some ⟨b, o, none⟩)) H ⟨D⟩ = @optV Value (hget H b o) ⟨D⟩ := propext Iff.rfl
@[go_sem] theorem loadK_str : @loadK (some ⟨.str, sz, by', z⟩) (.pointer (some ⟨b, o, none⟩)) H ⟨D⟩ = @optV Value (hget H b o) ⟨D⟩ := propext Iff.rfl
@[go_sem] theorem loadK_ptr {e : Nat} : @loadK (some ⟨.ptr e, sz, by', z⟩) (.pointer (some ⟨b, o, none⟩)) H ⟨D⟩ = @optV Value (hget H b o) ⟨D⟩ := propext Iff.rfl
@[go_sem] theorem loadK_sl {e : Nat} : @loadK (some ⟨.sl e, sz, by', z⟩) (.pointer (some ⟨b, o, none⟩)) H ⟨D⟩ = @optV Value (hget H b o) ⟨D⟩ := propext Iff.rfl
@[go_sem] theorem loadK_map {k e : Nat} : @loadK (some ⟨.map k e, sz, by', z⟩) (.pointer (some ⟨b, o, none⟩)) H ⟨D⟩ = @optV Value (hget H b o) ⟨D⟩ := propext Iff.rfl
@[go_sem] theorem loadK_fn : @loadK (some ⟨.fn, sz, by', z⟩) (.pointer (some ⟨b, o, none⟩)) H ⟨D⟩ = @optV Value (hget H b o) ⟨D⟩ := propext Iff.rfl
@[go_sem] theorem loadK_iface : @loadK (some ⟨.iface, sz, by', z⟩) (.pointer (some ⟨b, o, none⟩)) H ⟨D⟩ = @optV Value (hget H b o) ⟨D⟩ := propext Iff.rfl
end
def storeK (x : Option TI) (p v : Value) (H : Heap) [G : Kt Heap] : Prop := match x, p with
  | some ti, .pointer (some ⟨b, o, none⟩) => v.cells.size = ti.size ∧ v.cells.toList.all Value.oneCell' = true ∧ hcan H b o ti.size ∧ G.out (hput H b o v.cells.toList)
  | _, _ => False
@[go_sem ↓] theorem opV_store {t : TypeId} {a x : Operand} {ty : TypeId} : @opI P T (.store t a x) ty ρ H ⟨C⟩ = @ev1 Value (ρ.ev a) ⟨fun p => @ev1 Value (ρ.ev x) ⟨fun v => @ev1 (Option TI) (T t) ⟨fun i => @storeK i p v H ⟨fun H' => C undef H'⟩⟩⟩⟩ := by
  simp [opI, opV, heapV, pureP, ev1]; rfl
@[go_sem ↓] theorem storeK_eq {k : V.K} {sz b o by' : Nat} {z v : Value} {G : Heap → Prop} : @storeK (some ⟨k, sz, by', z⟩) (.pointer (some ⟨b, o, none⟩)) v H ⟨G⟩ =
    (v.cells.size = sz ∧ v.cells.toList.all Value.oneCell' = true ∧ hcan H b o sz ∧ @ev1 Heap (hput H b o v.cells.toList) ⟨G⟩) := propext Iff.rfl
def allocK (x : Option TI) (t : TypeId) (H : Heap) [C : Kt2] : Prop := match x with
  | some ti => C.out (newP H) (H.push (.cells ti.zero.cells t))
  | none => False
@[go_sem ↓] theorem opV_alloc {t : TypeId} {ty : TypeId} : @opI P T (.alloc t) ty ρ H ⟨C⟩ = @ev1 (Option TI) (T t) ⟨fun x => @allocK x t H ⟨C⟩⟩ := by simp [opI, opV, heapV, pureP, ev1]; rfl
@[go_sem ↓] theorem allocK_eq {k : V.K} {sz by' : Nat} {z : Value} {t : TypeId} : @allocK (some ⟨k, sz, by', z⟩) t H ⟨C⟩ = @ev1 Heap H ⟨fun H => C (newP H) (H.push (.cells z.cells t))⟩ := propext Iff.rfl
@[go_sem ↓] theorem opV_box {t : TypeId} {x : Operand} {ty : TypeId} : @opI P T (.box t x) ty ρ H ⟨C⟩ = @ev1 Value (ρ.ev x) ⟨fun v => @ev1 Heap H ⟨fun H => C (newP H) (H.push (.cells v.cells t))⟩⟩ := by simp [opI, opV, heapV, pureP, ev1]
def bsK (x : Option TI) (e : TypeId) (n : Nat) (ps : List (Nat × Value)) (H : Heap) [C : Kt2] : Prop := match x with
  | some ti => n * ti.size ≤ 16777216 ∧ ti.zero.cells.size = ti.size ∧ fullFrom 0 ps = true ∧ ps.length = n ∧ partsOf ti.size ps ∧ C.out (newS H n n) (H.push (.cells (partsCells ps).toArray e))
  | none => False
def bsE (T : Tys) (x : Option V.K) (n : Nat) (ps : List (Nat × Value)) (H : Heap) [C : Kt2] : Prop := match x with
  | some (.sl e) => bsK (T e) e n ps H
  | _ => False
@[go_sem ↓] theorem opV_buildSlice {t : TypeId} {k : Nat} {a : Array (Nat × Operand)} {ty : TypeId} : @opI P T (.buildSlice t k a) ty ρ H ⟨C⟩ = @ev1 (List (Nat × Value)) (a.toList.map fun x => (x.1, ρ.ev x.2)) ⟨fun ps => @ev1 (Option V.K) ((T t).map TI.k) ⟨fun x => @bsE T x k ps H ⟨C⟩⟩⟩ := by
  simp [opI, opV, heapV, pureP, ev1]; rfl
@[go_sem ↓] theorem bsE_eq {e k : Nat} {ps : List (Nat × Value)} : @bsE T (some (.sl e)) k ps H ⟨C⟩ = @ev1 (Option TI) (T e) ⟨fun x => @bsK x e k ps H ⟨C⟩⟩ := propext Iff.rfl
@[go_sem ↓] theorem bsK_eq {k : V.K} {sz by' e m : Nat} {z : Value} {ps : List (Nat × Value)} : @bsK (some ⟨k, sz, by', z⟩) e m ps H ⟨C⟩ =
    (m * sz ≤ 16777216 ∧ z.cells.size = sz ∧ fullFrom 0 ps = true ∧ ps.length = m ∧ partsOf sz ps ∧ @ev1 Heap H ⟨fun H => @ev1 (List Value) (partsCells ps) ⟨fun cs => C (newS H m m) (H.push (.cells cs.toArray e))⟩⟩) := propext Iff.rfl
def msK (x : Option TI) (e : TypeId) (l c : Int) (H : Heap) [C : Kt2] : Prop := match x with
  | some ti => 0 ≤ l ∧ l ≤ c ∧ ti.bytes * c ≤ 281474976710656 ∧ c ≤ 9223372036854775807 ∧ C.out (newS H l.toNat c.toNat) (H.push (.cells (zrow ti.zero (c.toNat * ti.size)) e))
  | none => False
def msE (T : Tys) (x : Option V.K) (l c : Value) (H : Heap) [C : Kt2] : Prop := match x, l, c with
  | some (.sl e), .int _ l, .int _ c => msK (T e) e l c H
  | _, _, _ => False
@[go_sem ↓] theorem opV_makeSlice {t : TypeId} {x y : Operand} {ty : TypeId} : @opI P T (.makeSlice t x y) ty ρ H ⟨C⟩ = @ev1 Value (ρ.ev x) ⟨fun a => @ev1 Value (ρ.ev y) ⟨fun b => @ev1 (Option V.K) ((T t).map TI.k) ⟨fun k => @msE T k a b H ⟨C⟩⟩⟩⟩ := by
  simp [opI, opV, heapV, pureP, ev1]; rfl
@[go_sem ↓] theorem msE_eq {e : Nat} {k k' : IntKind} {l c : Int} : @msE T (some (.sl e)) (.int k l) (.int k' c) H ⟨C⟩ = @ev1 (Option TI) (T e) ⟨fun x => @msK x e l c H ⟨C⟩⟩ := propext Iff.rfl
@[go_sem ↓] theorem msK_eq {k : V.K} {sz by' e : Nat} {z : Value} {l c : Int} : @msK (some ⟨k, sz, by', z⟩) e l c H ⟨C⟩ =
    (0 ≤ l ∧ l ≤ c ∧ by' * c ≤ 281474976710656 ∧ c ≤ 9223372036854775807 ∧ @ev1 Heap H ⟨fun H => C (newS H l.toNat c.toNat) (H.push (.cells (zrow z (c.toNat * sz)) e))⟩) := propext Iff.rfl
-- what the reckoning could not tell
@[go_sem] theorem opK_append {a : Array Operand} {ts : Array TypeId} {ty : TypeId} : @opK P T (.call { callee := .builtin .append, args := a, argTypes := ts }) ty ρ H none ⟨C⟩ = @ev1 (Array Value) (a.map ρ.ev) ⟨fun vs => @RunI P (sAppend ts vs) H ⟨C⟩⟩ := by
  rfl
@[go_sem] theorem opK_copy {a : Array Operand} {ts : Array TypeId} {ty : TypeId} : @opK P T (.call { callee := .builtin .copy, args := a, argTypes := ts }) ty ρ H none ⟨C⟩ = @ev1 (Array Value) (a.map ρ.ev) ⟨fun vs => @RunI P (sCopy ts vs) H ⟨C⟩⟩ := by
  rfl
@[go_sem] theorem opK_delete {a : Array Operand} {ts : Array TypeId} {ty : TypeId} : @opK P T (.call { callee := .builtin .delete, args := a, argTypes := ts }) ty ρ H none ⟨C⟩ = @ev1 (Array Value) (a.map ρ.ev) ⟨fun vs => @RunI P (sDelete ts vs) H ⟨C⟩⟩ := by
  rfl
@[go_sem] theorem opK_clear {a : Array Operand} {ts : Array TypeId} {ty : TypeId} : @opK P T (.call { callee := .builtin .clear, args := a, argTypes := ts }) ty ρ H none ⟨C⟩ = @ev1 (Array Value) (a.map ρ.ev) ⟨fun vs => @RunI P (sClear ts vs) H ⟨C⟩⟩ := by
  rfl
@[go_sem] theorem opK_convert {s d : TypeId} {x : Operand} {ty : TypeId} : @opK P T (.convert s d x) ty ρ H none ⟨C⟩ = @ev1 Value (ρ.ev x) ⟨fun v => @RunI P (sConvert s d v) H ⟨C⟩⟩ := propext Iff.rfl
@[go_sem] theorem opK_bin {o : BinOp} {t t' : TypeId} {x y : Operand} {ty : TypeId} : @opK P T (.binOp o t x y t') ty ρ H none ⟨C⟩ = @ev1 Value (ρ.ev x) ⟨fun v => @ev1 Value (ρ.ev y) ⟨fun u => @RunI P (sBinOp o t x y v u) H ⟨C⟩⟩⟩ := propext Iff.rfl
@[go_sem ↓] theorem opV_makeMap {t : TypeId} {r : Option Operand} {ty : TypeId} : @opI P T (.makeMap t r) ty ρ H ⟨C⟩ = @ev1 (Option Value) (r.map ρ.ev) ⟨fun v => @RunI P (sMakeMap t v) H ⟨C⟩⟩ := by simp [opI, opV, heapV, pureP, ev1, RunI, sMakeMap]
@[go_sem ↓] theorem opV_lookup {t : TypeId} {x i : Operand} {ok : Bool} {ty : TypeId} : @opI P T (.lookup t x i ok) ty ρ H ⟨C⟩ = @ev1 Value (ρ.ev x) ⟨fun m => @ev1 Value (ρ.ev i) ⟨fun v => @RunI P (sLookup t m v ok) H ⟨C⟩⟩⟩ := by simp [opI, opV, heapV, pureP, ev1, RunI, sLookup]
@[go_sem ↓] theorem opV_range {t : TypeId} {x : Operand} {ty : TypeId} : @opI P T (.range t x) ty ρ H ⟨C⟩ = @ev1 Value (ρ.ev x) ⟨fun m => @RunI P (sRange t m) H ⟨C⟩⟩ := by simp [opI, opV, heapV, pureP, ev1, RunI, sRange]
@[go_sem ↓] theorem opV_next {i : Operand} {st : Bool} {ty : TypeId} : @opI P T (.next i st) ty ρ H ⟨C⟩ = @ev1 Value (ρ.ev i) ⟨fun m => @RunI P (sNext m st) H ⟨C⟩⟩ := by simp [opI, opV, heapV, pureP, ev1, RunI, sNext]; rfl
@[go_sem ↓] theorem opV_entry {i : Operand} {ty : TypeId} : @opI P T (.entry i) ty ρ H ⟨C⟩ = @ev1 Value (ρ.ev i) ⟨fun m => @OpSI P (sEntry m) H ⟨C⟩⟩ := by simp [opI, opV, heapV, pureP, ev1, OpSI, sEntry, execOp]
@[go_sem ↓] theorem opV_mapUpdate {t : TypeId} {m k v : Operand} {ty : TypeId} : @opI P T (.mapUpdate t m k v) ty ρ H ⟨C⟩ = @ev1 Value (ρ.ev m) ⟨fun a => @ev1 Value (ρ.ev k) ⟨fun b => @ev1 Value (ρ.ev v) ⟨fun c => @OpSI P (sMapUpdate t a b c) H ⟨C⟩⟩⟩⟩ := by simp [opI, opV, heapV, pureP, ev1, OpSI, sMapUpdate, execOp]

@[go_sem ↓] theorem opR_move {x : Operand} : @opIR T (.move x) ρ H ⟨D⟩ = @ev1 Value (ρ.ev x) ⟨D⟩ := by simp [opIR, opR, pureP, ev1]
@[go_sem ↓] theorem opR_assign {x : Operand} : @opIR T (.assign x) ρ H ⟨D⟩ = @ev1 Value (ρ.ev x) ⟨D⟩ := by simp [opIR, opR, pureP, ev1]
@[go_sem ↓] theorem opR_load {t : TypeId} {a : Operand} : @opIR T (.load t a) ρ H ⟨D⟩ = @ev1 Value (ρ.ev a) ⟨fun p => @ev1 (Option TI) (T t) ⟨fun x => @loadK x p H ⟨D⟩⟩⟩ := by simp [opIR, opR, pureP, ev1]; rfl
@[go_sem] theorem opR_any {op : Op} : @opIR T op ρ H ⟨D⟩ = @ev1 (Option (Prop × Value)) (pureP T ρ op) ⟨fun x => @opRK T op ρ H x ⟨D⟩⟩ := opR_K
@[go_sem ↓] theorem opQ_move {x : Operand} : @opIQ P T (.move x) ρ H ⟨D⟩ = @ev1 Value (ρ.ev x) ⟨D⟩ := by simp [opIQ, opQ, pureP, ev1]
@[go_sem ↓] theorem opQ_assign {x : Operand} : @opIQ P T (.assign x) ρ H ⟨D⟩ = @ev1 Value (ρ.ev x) ⟨D⟩ := by simp [opIQ, opQ, pureP, ev1]
@[go_sem ↓] theorem opQ_load {t : TypeId} {a : Operand} : @opIQ P T (.load t a) ρ H ⟨D⟩ = @ev1 Value (ρ.ev a) ⟨fun p => @ev1 (Option TI) (T t) ⟨fun x => @loadK x p H ⟨D⟩⟩⟩ := by simp [opIQ, opQ, pureP, ev1]; rfl
def FunIQ (P : Program) (f : FuncId) (args : Array Value) (H : Heap) [D : Kt Value] : Prop := ∃ v, FunQ P f args H v ∧ D.out v
theorem FunIQ.by {f : FuncId} {args : Array Value} {v : Value} (h : Fun P f args H (fun u H' => u = v ∧ H = H')) (hd : D v) : @FunIQ P f args H ⟨D⟩ := ⟨v, h.mono fun _ _ h => ⟨h.1, h.2.symm⟩, hd⟩
def callQ (P : Program) (f : Value) (args : Array Value) (H : Heap) [D : Kt Value] : Prop := match f with
  | .func (.func g) first captured => okCall P g = true ∧ @FunIQ P g (first ++ args ++ captured) H D
  | _ => False
@[go_sem ↓] theorem opQ_call {f : Operand} {a : Array Operand} {ts : Array TypeId} : @opIQ P T (.call { callee := .value f, args := a, argTypes := ts }) ρ H ⟨D⟩ =
    @ev1 Value (ρ.ev f) ⟨fun g => @ev1 (Array Value) (a.map ρ.ev) ⟨fun vs => @callQ P g vs H ⟨D⟩⟩⟩ := by simp only [opIQ, opQ, pureP, ev1, callQ]; rfl
@[go_sem] theorem opQ_any {op : Op} : @opIQ P T op ρ H ⟨D⟩ = @ev1 (Option (Prop × Value)) (pureP T ρ op) ⟨fun x => @opQK P T op ρ H x ⟨D⟩⟩ := opQ_K
@[go_sem ↓] theorem callQ_fn {g : FuncId} {a : Array Value} : @callQ P (.func (.func g) #[] #[]) a H ⟨D⟩ = (okCall P g = true ∧ @FunIQ P g a H ⟨D⟩) := by simp [callQ]
@[go_sem] theorem callQ_fn' {g : FuncId} {x y a : Array Value} : @callQ P (.func (.func g) x y) a H ⟨D⟩ = (okCall P g = true ∧ @FunIQ P g (x ++ a ++ y) H ⟨D⟩) := propext Iff.rfl
end rules

section binP
variable {k k' : IntKind} {a b : Int} {s t : ByteArray}
@[go_sem] theorem binP_shl : binP .shl (.int k a) (.int k' b) = some (0 ≤ b, .int k (ishl k a b)) := rfl
@[go_sem] theorem binP_shr : binP .shr (.int k a) (.int k' b) = some (0 ≤ b, .int k (ishr k a b)) := rfl
@[go_sem] theorem binP_add : binP .add (.int k a) (.int k' b) = some (k = k', .int k (k.wrap (a + b))) := rfl
@[go_sem] theorem binP_sub : binP .sub (.int k a) (.int k' b) = some (k = k', .int k (k.wrap (a - b))) := rfl
@[go_sem] theorem binP_mul : binP .mul (.int k a) (.int k' b) = some (k = k', .int k (k.wrap (a * b))) := rfl
@[go_sem] theorem binP_quo : binP .quo (.int k a) (.int k' b) = some (k = k' ∧ b ≠ 0, .int k (k.wrap (a.tdiv b))) := rfl
@[go_sem] theorem binP_rem : binP .rem (.int k a) (.int k' b) = some (k = k' ∧ b ≠ 0, .int k (a.tmod b)) := rfl
@[go_sem] theorem binP_and : binP .and (.int k a) (.int k' b) = some (k = k', .int k (ibits .and k a b)) := rfl
@[go_sem] theorem binP_or : binP .or (.int k a) (.int k' b) = some (k = k', .int k (ibits .or k a b)) := rfl
@[go_sem] theorem binP_xor : binP .xor (.int k a) (.int k' b) = some (k = k', .int k (ibits .xor k a b)) := rfl
@[go_sem] theorem binP_andNot : binP .andNot (.int k a) (.int k' b) = some (k = k', .int k (ibits .andNot k a b)) := rfl
@[go_sem] theorem binP_eql : binP .eql (.int k a) (.int k' b) = some (k = k', .bool (decide (a = b))) := rfl
@[go_sem] theorem binP_neq : binP .neq (.int k a) (.int k' b) = some (k = k', .bool (!decide (a = b))) := rfl
@[go_sem] theorem binP_lss : binP .lss (.int k a) (.int k' b) = some (k = k', .bool (decide (a < b))) := rfl
@[go_sem] theorem binP_leq : binP .leq (.int k a) (.int k' b) = some (k = k', .bool (decide (a ≤ b))) := rfl
@[go_sem] theorem binP_gtr : binP .gtr (.int k a) (.int k' b) = some (k = k', .bool (decide (b < a))) := rfl
@[go_sem] theorem binP_geq : binP .geq (.int k a) (.int k' b) = some (k = k', .bool (decide (b ≤ a))) := rfl
@[go_sem] theorem binP_adds : binP .add (.string s) (.string t) = some (s.size + t.size ≤ 9223372036854775807, .string (s ++ t)) := rfl
@[go_sem] theorem binP_eqls : binP .eql (.string s) (.string t) = some (True, .bool (s.toList == t.toList)) := rfl
@[go_sem] theorem binP_neqs : binP .neq (.string s) (.string t) = some (True, .bool (!(s.toList == t.toList))) := rfl
@[go_sem] theorem binP_lsss : binP .lss (.string s) (.string t) = some (True, .bool (Op.bytesLess s.toList t.toList)) := rfl
@[go_sem] theorem binP_leqs : binP .leq (.string s) (.string t) = some (True, .bool (Op.bytesLess s.toList t.toList || s.toList == t.toList)) := rfl
@[go_sem] theorem binP_gtrs : binP .gtr (.string s) (.string t) = some (True, .bool (!(Op.bytesLess s.toList t.toList || s.toList == t.toList))) := rfl
@[go_sem] theorem binP_geqs : binP .geq (.string s) (.string t) = some (True, .bool (!Op.bytesLess s.toList t.toList)) := rfl
@[go_sem] theorem binP_eqb {p q : Bool} : binP .eql (.bool p) (.bool q) = none := rfl
@[go_sem] theorem binP_neb {p q : Bool} : binP .neq (.bool p) (.bool q) = none := rfl
@[go_sem] theorem binP_eqp {p q : Option Addr} : binP .eql (.pointer p) (.pointer q) = none := rfl
@[go_sem] theorem binP_nep {p q : Option Addr} : binP .neq (.pointer p) (.pointer q) = none := rfl
@[go_sem] theorem binP_eqsl {p q : Option Addr} {a1 a2 a3 a4 : Nat} : binP .eql (.slice p a1 a2) (.slice q a3 a4) = none := rfl
@[go_sem] theorem binP_nesl {p q : Option Addr} {a1 a2 a3 a4 : Nat} : binP .neq (.slice p a1 a2) (.slice q a3 a4) = none := rfl
@[go_sem] theorem binP_eqm {p q : Option Nat} : binP .eql (.map p) (.map q) = none := rfl
@[go_sem] theorem binP_nem {p q : Option Nat} : binP .neq (.map p) (.map q) = none := rfl
@[go_sem] theorem binP_eqag {p q : Array Value} : binP .eql (.agg p) (.agg q) = none := rfl
@[go_sem] theorem binP_neag {p q : Array Value} : binP .neq (.agg p) (.agg q) = none := rfl
end binP

attribute [go_sem] pureP binT eqT unP convP fieldP fieldAddrP extractP indexP indexAP indexAddrP arrP sliceP bndsP bndP lenP capP builtP buildP partP notNil Env.ev Env.args oneOf resV newP newS fullFrom partsOf partsCells Value.cells V.K.agg
attribute [go_sem ↓] Env.set_apply
@[go_sem] theorem decT {h : Decidable True} : @decide True h = true := by simp
@[go_sem] theorem decF {h : Decidable False} : @decide False h = false := by simp
@[go_sem] theorem foldl_zip1 {f : Array Value → Value × Nat → Array Value} {a : Array Value} {x : Value} : Array.foldl f a (#[x] : Array Value).zipIdx = f a (x, 0) := by simp
@[go_sem] theorem foldl_zip2 {f : Array Value → Value × Nat → Array Value} {a : Array Value} {x y : Value} : Array.foldl f a (#[x, y] : Array Value).zipIdx = f (f a (x, 0)) (y, 1) := by simp
@[go_sem] theorem foldl_zip3 {f : Array Value → Value × Nat → Array Value} {a : Array Value} {x y z : Value} : Array.foldl f a (#[x, y, z] : Array Value).zipIdx = f (f (f a (x, 0)) (y, 1)) (z, 2) := by simp
@[go_sem] theorem mapM_opt_nil {α β : Type} {f : α → Option β} : List.mapM f [] = some [] := rfl
@[go_sem] theorem mapM_opt_cons {α β : Type} {f : α → Option β} {a : α} {l : List α} : List.mapM f (a :: l) = (f a).bind fun b => (List.mapM f l).bind fun r => some (b :: r) := by simp
section setlit
variable {α : Type} {a b c d e g h i x : α} {l : List α}
@[go_sem] theorem set_0 : (a :: l).set 0 x = x :: l := rfl
@[go_sem] theorem set_1 : (a :: b :: l).set 1 x = a :: x :: l := rfl
@[go_sem] theorem set_2 : (a :: b :: c :: l).set 2 x = a :: b :: x :: l := rfl
@[go_sem] theorem set_3 : (a :: b :: c :: d :: l).set 3 x = a :: b :: c :: x :: l := rfl
@[go_sem] theorem set_4 : (a :: b :: c :: d :: e :: l).set 4 x = a :: b :: c :: d :: x :: l := rfl
@[go_sem] theorem set_5 : (a :: b :: c :: d :: e :: g :: l).set 5 x = a :: b :: c :: d :: e :: x :: l := rfl
@[go_sem] theorem set_6 : (a :: b :: c :: d :: e :: g :: h :: l).set 6 x = a :: b :: c :: d :: e :: g :: x :: l := rfl
@[go_sem] theorem set_7 : (a :: b :: c :: d :: e :: g :: h :: i :: l).set 7 x = a :: b :: c :: d :: e :: g :: h :: x :: l := rfl
end setlit
attribute [go_sem] List.setIfInBounds_toArray Bool.false_or Nat.zero_add
attribute [go_sem] ite_self Nat.sub_zero true_and and_true true_implies false_implies decide_not decide_eq_true_eq decide_eq_false_iff_not Option.map_some Option.map_none Option.bind_some List.getD_cons_zero List.getD_cons_succ List.map_toArray List.map_cons List.map_nil List.take_succ_cons List.take_zero List.drop_succ_cons List.drop_zero
  ite_true ite_false Bool.not_true Bool.not_false Bool.not_eq_true' Bool.not_eq_false' eq_self Bool.true_and Bool.false_and Bool.and_true Bool.and_self beq_self_eq_true List.size_toArray List.length_cons List.length_nil List.append_nil List.cons_append List.nil_append not_true_eq_false not_false_eq_true List.getElem?_toArray List.getElem?_cons_zero List.getElem?_cons_succ

end Go.V
