/- Contracts of math/bits: the products of 128 bits, sums with carries, and how many bits a number has; each for every number of 64 bits. -/
import Derived.Test.YtbokindcnkknmaaGreatProg
import Derived.Test.YtbokindcnkknmaaGreatSh
import Derived.Test.YtbokindcnkknmaaGreatMw
import Derived.WalkKit
import Derived.WalkSpells
import Derived.WalkLawsBesides
import Derived.Deep.QuietTactic
import Derived.BigQuiet
import Derived.Deep.DeepCutAuto
import Derived.Deep.CutBlock
import Derived.Deep.LoopGhost
import Derived.StillTailTactics
import Derived.Deep.RegionHeld3
import Derived.Deep.RegionWith
import Derived.Deep.DeepFit
import Derived.Lib.Hide
set_option linter.unusedVariables false
namespace Go.Proofs.YtbokindcnkknmaaGreat
open Go.RowKit Epi

theorem ret_int {k : IntKind} {a b : Int} (h : a = b) : Ending.returned (.int k a) = .returned (.int k b) := by rw [h]
theorem ret_bool {a b : Bool} (h : a = b) : Ending.returned (.bool a) = .returned (.bool b) := by rw [h]
theorem ret_int2 {k k' : IntKind} {a b c d : Int} (h : a = b) (h' : c = d) : Ending.returned (.tuple #[.int k a, .int k' c]) = .returned (.tuple #[.int k b, .int k' d]) := by rw [h, h']

/-! ### Plain words -/
noncomputable def hi64 (x y : Nat) : Nat := x * y / W64
noncomputable def lo64 (x y : Nat) : Nat := x * y % W64
noncomputable def sum64 (x y c : Nat) : Nat := (x + y + c) % W64
noncomputable def car64 (x y c : Nat) : Nat := (x + y + c) / W64
noncomputable def dif64 (x y c : Nat) : Nat := (x + W64 - y - c) % W64
def bor64 (x y c : Nat) : Nat := if x < y + c then 1 else 0

theorem u64_wrap (x : Int) : IntKind.u64.wrap x = x % 18446744073709551616 := by simp [IntKind.wrap, IntKind.bits, IntKind.signed]
theorem u64_lo (x : Int) (h0 : 0 ≤ x) (h1 : x < 18446744073709551616) : bits .and .u64 x 4294967295 = x % 4294967296 :=
  bits_mask .u64 64 (by decide) (fun n h h' => IntWalk.u64_in n ⟨h, by omega⟩) 32 (by decide) x h0 h1
theorem u64_bit (x : Int) (h0 : 0 ≤ x) (h1 : x < 18446744073709551616) : bits .and .u64 x 1 = x % 2 :=
  bits_mask .u64 64 (by decide) (fun n h h' => IntWalk.u64_in n ⟨h, by omega⟩) 1 (by decide) x h0 h1

theorem mul64_plain (a b : Nat) (ha : a < 18446744073709551616) (hb : b < 18446744073709551616) (a0 a1 b0 b1 : Nat) (h1 : a = a1 * 4294967296 + a0) (h2 : b = b1 * 4294967296 + b0)
    (h3 : a0 < 4294967296) (h4 : b0 < 4294967296) (h5 : a1 < 4294967296) (h6 : b1 < 4294967296) :
    hi64 a b = a1 * b1 + (a1 * b0 + a0 * b0 / 4294967296) / 4294967296 + ((a1 * b0 + a0 * b0 / 4294967296) % 4294967296 + a0 * b1) / 4294967296 := by
  have e : a * b = a1 * b1 * 18446744073709551616 + (a1 * b0 + a0 * b1) * 4294967296 + a0 * b0 := by
    rw [h1, h2]
    grind
  simp only [hi64, W64_num]
  rw [e]
  generalize a1 * b1 = u
  generalize a1 * b0 = v
  generalize a0 * b1 = x
  generalize a0 * b0 = y
  omega
theorem mul_le (a b : Nat) (h1 : a < 4294967296) (h2 : b < 4294967296) : a * b ≤ 18446744065119617025 := Nat.mul_le_mul (Nat.le_of_lt_succ h1) (Nat.le_of_lt_succ h2)

theorem mul64_steps (a b : Nat) (ha : a < 18446744073709551616) (hb : b < 18446744073709551616) :
    IntKind.u64.wrap (IntKind.u64.wrap (IntKind.u64.wrap (↑a / 4294967296 * (↑b / 4294967296)) + IntKind.u64.wrap (IntKind.u64.wrap (↑a / 4294967296 * (↑b % 4294967296)) + IntKind.u64.wrap (↑a % 4294967296 * (↑b % 4294967296)) / 4294967296) / 4294967296) +
      IntKind.u64.wrap (IntKind.u64.wrap (IntKind.u64.wrap (↑a / 4294967296 * (↑b % 4294967296)) + IntKind.u64.wrap (↑a % 4294967296 * (↑b % 4294967296)) / 4294967296) % 4294967296 + IntKind.u64.wrap (↑a % 4294967296 * (↑b / 4294967296))) / 4294967296) = (hi64 a b : Nat) := by
  have h3 : a % 4294967296 < 4294967296 := Nat.mod_lt _ (by omega)
  have h4 : b % 4294967296 < 4294967296 := Nat.mod_lt _ (by omega)
  have h5 : a / 4294967296 < 4294967296 := by omega
  have h6 : b / 4294967296 < 4294967296 := by omega
  rw [mul64_plain a b ha hb _ _ _ _ (by omega) (by omega) h3 h4 h5 h6]
  have l1 := mul_le _ _ h5 h6
  have l2 := mul_le _ _ h5 h4
  have l3 := mul_le _ _ h3 h6
  have l4 := mul_le _ _ h3 h4
  have q1 : ((a : Int) / 4294967296) = ((a / 4294967296 : Nat) : Int) := by omega
  have q2 : ((a : Int) % 4294967296) = ((a % 4294967296 : Nat) : Int) := by omega
  have q3 : ((b : Int) / 4294967296) = ((b / 4294967296 : Nat) : Int) := by omega
  have q4 : ((b : Int) % 4294967296) = ((b % 4294967296 : Nat) : Int) := by omega
  rw [q1, q2, q3, q4, ← Int.natCast_mul, ← Int.natCast_mul, ← Int.natCast_mul, ← Int.natCast_mul]
  have e : hi64 a b ≤ 18446744073709551615 := by
    simp only [hi64, W64_num]
    have : a * b ≤ 18446744073709551615 * 18446744073709551615 := Nat.mul_le_mul (by omega) (by omega)
    omega
  rw [mul64_plain a b ha hb _ _ _ _ (by omega) (by omega) h3 h4 h5 h6] at e
  generalize a / 4294967296 * (b / 4294967296) = u at *
  generalize a / 4294967296 * (b % 4294967296) = v at *
  generalize a % 4294967296 * (b / 4294967296) = x at *
  generalize a % 4294967296 * (b % 4294967296) = y at *
  simp only [u64_wrap]
  omega

set_option maxHeartbeats 400000 in
theorem mul64_any (a b : Int) (ha : 0 ≤ a) (ha' : a < 18446744073709551616) (hb : 0 ≤ b) (hb' : b < 18446744073709551616) (w : World) :
    Calls Tryz.prog 131 #[.int .u64 a, .int .u64 b] w fun e w' => e = .returned (.tuple #[.int .u64 (hi64 a.toNat b.toNat : Nat), .int .u64 (lo64 a.toNat b.toNat : Nat)]) ∧ w = w' := by
  obtain ⟨a, rfl⟩ := Int.eq_ofNat_of_zero_le ha
  obtain ⟨b, rfl⟩ := Int.eq_ofNat_of_zero_le hb
  have h1 := u64_lo a ha ha'
  have h2 := u64_lo b hb hb'
  go_enter Tryz.func131, Tryz.ntmps131
  go_wp2
  go_ret2
  refine ⟨ret_int2 ?_ ?_, rfl⟩
  · rw [u64_lo _ (by rw [u64_wrap]; omega) (by rw [u64_wrap]; omega)]
    exact mul64_steps a b (by omega) (by omega)
  · rw [u64_wrap, Int.toNat_natCast, Int.toNat_natCast, ← Int.natCast_mul]
    simp only [lo64, W64_num]
    omega

/-! ### Add64, Sub64: the model's own -/
theorem run_add64_any (x y c : Int) (h0 : 0 ≤ c) (hc : c ≤ 1) (w : World) :
    (callFunc 132 #[.int .u64 x, .int .u64 y, .int .u64 c]).run Tryz.prog w =
      .ok (.value (.tuple #[.int .u64 (sum64 x.toNat y.toNat c.toNat : Nat), .int .u64 (car64 x.toNat y.toNat c.toNat : Nat)])) w := by
  rw [run_callFunc_extern Tryz.func132 (by kernel_rfl) (by kernel_rfl) (by kernel_rfl) (e := add64Entry) (by kernel_rfl)]
  obtain ⟨k, rfl⟩ := Int.eq_ofNat_of_zero_le h0
  have h : k = 0 ∨ k = 1 := by omega
  rcases h with rfl | rfl <;> (unfold sum64 car64; rw [W64_num]; rfl)
def sub64Entry : Array Value → Sem Value := fun args => do
  let (x, y, b) ← Extern.MathBitsCarry.three "Sub64" args
  pure (Extern.MathBitsCarry.pair ((x + Extern.MathBitsCarry.m64 - y - b) % Extern.MathBitsCarry.m64) (if x < y + b then 1 else 0))
theorem run_sub64_any (x y c : Int) (h0 : 0 ≤ c) (hc : c ≤ 1) (w : World) :
    (callFunc 135 #[.int .u64 x, .int .u64 y, .int .u64 c]).run Tryz.prog w =
      .ok (.value (.tuple #[.int .u64 (dif64 x.toNat y.toNat c.toNat : Nat), .int .u64 (bor64 x.toNat y.toNat c.toNat : Nat)])) w := by
  rw [run_callFunc_extern Tryz.func135 (by kernel_rfl) (by kernel_rfl) (by kernel_rfl) (e := sub64Entry) (by kernel_rfl)]
  obtain ⟨k, rfl⟩ := Int.eq_ofNat_of_zero_le h0
  have h : k = 0 ∨ k = 1 := by omega
  rcases h with rfl | rfl <;> (unfold dif64; rw [W64_num]; rfl)
end Go.Proofs.YtbokindcnkknmaaGreat
