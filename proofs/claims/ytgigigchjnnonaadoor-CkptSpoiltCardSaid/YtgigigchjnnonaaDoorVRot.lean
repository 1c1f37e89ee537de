/- Bits turned in a file; a mask's bits. -/
import Derived.Test.YtgigigchjnnonaaDoorVFsL
import Derived.Test.YtgigigchjnnonaaDoorM1
import Derived.Test.YtgigigchjnnonaaDoorVSpoil
set_option linter.unusedSimpArgs false
set_option linter.unusedVariables false
set_option maxRecDepth 20000
namespace Go.V
open Go
/-- mask | 1<<31. -/
theorem mask_or (x : Int) : ∃ M : Nat, ibits .or .u32 x 2147483648 = (M : Int) ∧ M < 4294967296 ∧ M.testBit 31 = true := by
  refine ⟨(BitVec.ofInt 32 x ||| BitVec.ofInt 32 2147483648).toNat, ?_, (BitVec.ofInt 32 x ||| BitVec.ofInt 32 2147483648).isLt, ?_⟩
  · have h : ibits .or .u32 x 2147483648 = IntKind.u32.wrap ((BitVec.ofInt 32 x ||| BitVec.ofInt 32 2147483648).toNat : Int) := rfl
    rw [h, wu32]
    have := (BitVec.ofInt 32 x ||| BitVec.ofInt 32 2147483648).isLt
    omega
  · rw [BitVec.testBit_toNat, BitVec.getLsbD_or]
    have : (BitVec.ofInt 32 2147483648).getLsbD 31 = true := by decide
    rw [this, Bool.or_true]
/-- mask>>uint(31-i)&1 == 1. -/
theorem mask_bit {M : Nat} (hM : M < 4294967296) {i : Nat} (hi : i < 32) : IntKind.i64.wrap (31 - (i : Int)) = 31 - (i : Int) ∧ IntKind.u64.wrap (31 - (i : Int)) = 31 - (i : Int) ∧ (0 : Int) ≤ 31 - (i : Int) ∧ (ibits .and .u32 (ishr .u32 (M : Int) (31 - (i : Int))) 1 = 1 ↔ M.testBit (31 - i) = true) := by
  refine ⟨w64_id (by omega) (by omega), by rw [wu64]; omega, by omega, ?_⟩
  have e1 : ishr .u32 (M : Int) (31 - (i : Int)) = ((M / 2 ^ (31 - i) : Nat) : Int) := by
    have h : ishr .u32 (M : Int) (31 - (i : Int)) = (M : Int).fdiv (2 ^ (min (31 - (i : Int)).toNat 32)) := rfl
    rw [h, show (31 - (i : Int)).toNat = 31 - i by omega, Nat.min_eq_left (by omega), Int.fdiv_eq_ediv_of_nonneg _ (Int.pow_nonneg (by decide))]
    norm_cast
  rw [e1]
  have hlt : M / 2 ^ (31 - i) < 4294967296 := Nat.lt_of_le_of_lt (Nat.div_le_self _ _) hM
  have e2 := and_mask (k := .u32) (m := 1) (x := ((M / 2 ^ (31 - i) : Nat) : Int)) (Int.natCast_nonneg _) (by simp only [IntKind.bits]; omega) (by decide)
  have e3 : (2 : Int) ^ 1 - 1 = 1 := by decide
  rw [e3] at e2
  rw [e2, Nat.testBit_eq_decide_div_mod_eq]
  generalize M / 2 ^ (31 - i) = q
  constructor
  · intro h; exact decide_eq_true (by omega)
  · intro h; have := of_decide_eq_true h; omega
theorem shl_one64 {k : Nat} (hk : k < 8) : ishl .i64 1 (k : Int) = ((2 ^ k : Nat) : Int) := by
  have key : ∀ k : Fin 8, ishl .i64 1 (k.val : Int) = ((2 ^ k.val : Nat) : Int) := by decide +kernel
  exact key ⟨k, hk⟩
end Go.V
namespace Go.Proofs.YtgigigchjnnonaaDoor
open Go Go.V
theorem rotD_byt {d : List Int} (hb : Byt d) {a : Nat} {x : Int} : Byt (rotD d a x) := by
  have key : ∀ z w : Int, 0 ≤ ibits .xor .u8 z w ∧ ibits .xor .u8 z w < 256 := fun z w => by
    have k2 : ∀ z : Int, 0 ≤ IntKind.u8.wrap z ∧ IntKind.u8.wrap z < 256 := fun z => by
      simp [IntKind.wrap, IntKind.bits, IntKind.signed]
      omega
    unfold ibits
    exact k2 _
  intro y hy
  unfold rotD at hy
  rcases List.mem_or_eq_of_mem_set hy with hy | rfl
  · exact hb y hy
  · exact key _ _
theorem rot_held (s : St) (n : Nm) (a x : Int) : (rotS s n a x).1.held = s.held := by
  unfold rotS
  split
  · split
    · rfl
    · split <;> rfl
  · rfl
theorem rot_ok {s : St} (ok : Ok s) (n : Nm) (a x : Int) : Ok (rotS s n a x).1 := by
  unfold rotS
  split
  · split
    · exact ok
    · rename_i f hf
      have hfh := ok.nowH _ _ hf
      split
      · exact ok
      · rename_i hc
        have hlen : (rotD (s.dat f) a.toNat x).length = (s.dat f).length := by unfold rotD; exact List.length_set
        refine ⟨ok.room, ok.nowH, ok.lastH, ok.pendH, ok.nowI, ok.lastI, ok.nowN, ok.lastN, ok.pendN, ok.nd, fun g hg => ?_, fun g hg => ?_, ?_, ok.fuse, ok.hlen, ok.plen⟩
        · simp only [setF]
          split
          · rename_i e; subst e; rw [hlen]; exact ok.syn g hg
          · exact ok.syn g hg
        · simp only [setF]
          split
          · rename_i e; subst e
            exact rotD_byt (ok.byt g hg)
          · exact ok.byt g hg
        · have h1 := sum_set ok hfh (rotD (s.dat f) a.toNat x)
          have h2 := ok.sum
          rw [h1, hlen]
          show _ ≤ s.room
          omega
  · exact ok
/-- A bit of a file turned where nothing fails. -/
theorem rot_calm {s : St} (h : Peace s) {n : Nm} {x : Nat} (hx : s.now n = some x) {a k : Nat} (ha : a < (s.dat x).length) (hk : k < 8) :
    (rotS s n a ((2 ^ k : Nat) : Int)).2 = 0 ∧ Peace (rotS s n a ((2 ^ k : Nat) : Int)).1 ∧ (rotS s n a ((2 ^ k : Nat) : Int)).1.now = s.now ∧ (rotS s n a ((2 ^ k : Nat) : Int)).1.dat x = (s.dat x).set a (ibits .xor .u8 ((s.dat x).getD a 0) ((2 ^ k : Nat) : Int)) := by
  have ok := rot_ok h.ok n a ((2 ^ k : Nat) : Int)
  have hb : (1 : Nat) ≤ (2 : Nat) ^ k ∧ (2 : Nat) ^ k ≤ 255 := by
    have key : ∀ k : _root_.Fin 8, (1 : Nat) ≤ (2 : Nat) ^ k.val ∧ (2 : Nat) ^ k.val ≤ 255 := by decide +kernel
    exact key ⟨k, hk⟩
  have e : rotS s n a ((2 ^ k : Nat) : Int) = ({ s with dat := setF s.dat x (rotD (s.dat x) a ((2 ^ k : Nat) : Int)) }, 0) := by
    unfold rotS
    rw [if_pos (h.ok.nowN _ _ hx), hx]
    simp only [Int.toNat_natCast]
    rw [if_neg (by omega)]
  rw [e] at ok ⊢
  exact ⟨rfl, ⟨ok, h.on, h.arm⟩, rfl, setF_same _ _ _⟩
end Go.Proofs.YtgigigchjnnonaaDoor
