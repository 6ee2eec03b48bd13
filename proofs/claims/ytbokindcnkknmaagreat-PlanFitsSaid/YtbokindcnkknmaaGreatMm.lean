/- Plain arithmetic: products without divisions, after Montgomery. No program in sight. -/
import Derived.Test.YtbokindcnkknmaaGreatMd
import Derived.Test.YtbokindcnkknmaaGreatMw
set_option linter.unusedVariables false
namespace Epi

theorem W64_pow : W64 = 2 ^ 64 := W64_num
/-- What makes 1 with 2 ^ 64 modulo an odd number. -/
def rinv (m : Nat) : Nat := ((m + 1) / 2) ^ 64 % m
theorem rinv_cg {m : Nat} (h : m % 2 = 1) : Cg m ((W64 : Int) * rinv m) 1 := by
  have h1 : Cg m (2 * (((m + 1) / 2 : Nat) : Int)) 1 := ⟨1, by omega⟩
  have h2 := Cg.pow 64 h1
  rw [Int.one_pow, Int.mul_pow] at h2
  have h3 := Cg.nat_mod (((m + 1) / 2) ^ 64) m
  rw [Int.natCast_pow] at h3
  have h4 := Cg.mul_left ((2 : Int) ^ 64) h3
  have e : ((W64 : Nat) : Int) = (2 : Int) ^ 64 := by rw [W64_pow, Int.natCast_pow]; rfl
  rw [e]
  exact h4.trans h2
/-- By 2 ^ 64, modulo m. -/
def redc (m x : Nat) : Nat := x * rinv m % m
theorem redc_lt {m : Nat} (h : 0 < m) (x : Nat) : redc m x < m := Nat.mod_lt _ h
theorem redc_cg (m x : Nat) : Cg m (redc m x : Nat) ((x : Int) * rinv m) := by
  have := Cg.nat_mod (x * rinv m) m
  rwa [Int.natCast_mul] at this
/-- What is `y` by 2 ^ 64 is told by one product. -/
theorem redc_eq {m x r : Nat} (h : m % 2 = 1) (hr : r < m) (e : Cg m ((r : Int) * W64) x) : r = redc m x := by
  refine Cg.nat_eq ?_ hr (redc_lt (by omega) x)
  have h1 := Cg.mul_right (rinv m : Int) e
  have h2 := Cg.mul_left (r : Int) (rinv_cg h)
  rw [Int.mul_one] at h2
  refine h2.symm.trans (((Cg.of_eq ?_).trans h1).trans (redc_cg m x).symm)
  grind
/-- The step: `q` is the low half times what makes -1 with m. -/
theorem redc_step {m t high low : Nat} (hm : m % 2 = 1) (ht : (t * m + 1) % W64 = 0) (hx : high * W64 + low < m * W64) (hlow : low < W64) :
    ∃ u, high * W64 + low + low * t % W64 * m = u * W64 ∧ u < 2 * m ∧ (if m ≤ u then u - m else u) = redc m (high * W64 + low) := by
  have h0 := W64_pos
  have h1 : W64 ∣ high * W64 + low + low * t % W64 * m := by
    have h2 : (low + low * t % W64 * m) % W64 = 0 := by
      rw [Nat.add_mod, Nat.mul_mod, Nat.mod_mod, ← Nat.mul_mod, ← Nat.add_mod, show low + low * t * m = low * (t * m + 1) from by grind, Nat.mul_mod, ht, Nat.mul_zero, Nat.zero_mod]
    refine Nat.dvd_of_mod_eq_zero ?_
    rw [show high * W64 + low + low * t % W64 * m = (low + low * t % W64 * m) + high * W64 from by omega, Nat.add_mul_mod_self_right, h2]
  obtain ⟨u, hu⟩ := h1
  rw [Nat.mul_comm W64 u] at hu
  have h3 : u < 2 * m := by
    have h4 : low * t % W64 * m < W64 * m := Nat.mul_lt_mul_of_pos_right (Nat.mod_lt _ h0) (by omega)
    have h5 : u * W64 < 2 * m * W64 := by
      rw [← hu, show 2 * m * W64 = m * W64 + W64 * m from by grind]
      omega
    exact Nat.lt_of_mul_lt_mul_right h5
  refine ⟨u, hu, h3, ?_⟩
  have h6 : Cg m ((u : Int) * W64) ((high * W64 + low : Nat) : Int) := by
    rw [← Int.natCast_mul, ← hu]
    refine ⟨((low * t % W64 : Nat) : Int), ?_⟩
    push_cast
    grind
  by_cases h7 : m ≤ u
  · rw [if_pos h7]
    refine redc_eq hm (by omega) ?_
    refine Cg.trans ?_ h6
    refine Cg.mul_right _ ⟨-1, by omega⟩
  · rw [if_neg h7]
    exact redc_eq hm (by omega) h6

/-- What stands for a number. -/
noncomputable def lift (m a : Nat) : Nat := a * W64 % m
theorem lift_lt {m : Nat} (h : 0 < m) (a : Nat) : lift m a < m := Nat.mod_lt _ h
theorem lift_cg (m a : Nat) : Cg m (lift m a : Nat) ((a : Int) * W64) := by
  have := Cg.nat_mod (a * W64) m
  rwa [Int.natCast_mul] at this
/-- The product as the context has it. -/
def mm (m x y : Nat) : Nat := redc m (x * y)
theorem mm_lt {m : Nat} (h : 0 < m) (x y : Nat) : mm m x y < m := redc_lt h _
theorem mm_cg (m x y : Nat) : Cg m (mm m x y : Nat) ((x : Int) * y * rinv m) := by
  have := redc_cg m (x * y)
  rwa [Int.natCast_mul] at this
theorem mm_mod (m x y : Nat) (hm : 0 < m) : mm m (x % m) (y % m) = mm m x y := by
  refine Cg.nat_eq ?_ (mm_lt hm _ _) (mm_lt hm _ _)
  refine (mm_cg m _ _).trans (Cg.trans ?_ (mm_cg m _ _).symm)
  exact Cg.mul_right _ (Cg.mul (Cg.nat_mod x m) (Cg.nat_mod y m))
/-- In: times the square of 2 ^ 64. -/
theorem mm_square {m : Nat} (h : m % 2 = 1) (a : Nat) : mm m a (fmul m (W64 % m) (W64 % m)) = lift m a := by
  refine Cg.nat_eq ?_ (mm_lt (by omega) _ _) (lift_lt (by omega) _)
  have e1 := (fmul_cg m (W64 % m) (W64 % m)).trans (Cg.mul (Cg.nat_mod W64 m) (Cg.nat_mod W64 m))
  have e2 := Cg.mul_right (rinv m : Int) (Cg.mul_left (a : Int) e1)
  have e3 := Cg.mul_left ((a : Int) * W64) (rinv_cg h)
  rw [Int.mul_one] at e3
  refine (mm_cg m _ _).trans (e2.trans (((Cg.of_eq ?_).trans e3).trans (lift_cg m a).symm))
  grind
/-- A lifted number, times another one. -/
theorem mm_lift {m : Nat} (h : m % 2 = 1) (a y : Nat) : mm m (lift m a) y = fmul m a y := by
  refine Cg.nat_eq ?_ (mm_lt (by omega) _ _) (fmul_lt (by omega) _ _)
  have e1 := Cg.mul_right (rinv m : Int) (Cg.mul_right (y : Int) (lift_cg m a))
  have e3 := Cg.mul_left ((a : Int) * y) (rinv_cg h)
  rw [Int.mul_one] at e3
  refine (mm_cg m _ _).trans (e1.trans (((Cg.of_eq ?_).trans e3).trans (fmul_cg m a y).symm))
  grind
theorem redc_lift {m : Nat} (h : m % 2 = 1) (a : Nat) : redc m (lift m a) = a % m := by
  refine Cg.nat_eq ?_ (redc_lt (by omega) _) (Nat.mod_lt _ (by omega))
  have e1 := Cg.mul_right (rinv m : Int) (lift_cg m a)
  have e3 := Cg.mul_left (a : Int) (rinv_cg h)
  rw [Int.mul_one] at e3
  refine (redc_cg m _).trans (e1.trans (((Cg.of_eq ?_).trans e3).trans (Cg.nat_mod a m).symm))
  grind
theorem mm_lift_lift {m : Nat} (h : m % 2 = 1) (a b : Nat) : mm m (lift m a) (lift m b) = lift m (a * b) := by
  rw [mm_lift h]
  refine Cg.nat_eq ?_ (fmul_lt (by omega) _ _) (lift_lt (by omega) _)
  have e := (fmul_cg m a (lift m b)).trans (Cg.mul_left (a : Int) (lift_cg m b))
  refine e.trans ((Cg.of_eq ?_).trans (lift_cg m (a * b)).symm)
  push_cast
  grind
theorem lift_mod {m : Nat} (a : Nat) : lift m (a % m) = lift m a := by
  unfold lift
  rw [Nat.mul_mod, Nat.mod_mod, ← Nat.mul_mod]
theorem lift_one (m : Nat) : lift m 1 = W64 % m := by
  unfold lift
  rw [Nat.one_mul]
theorem lift_eq_iff {m : Nat} (h : m % 2 = 1) (hm : 1 < m) (a b : Nat) : lift m a = lift m b ↔ a % m = b % m := by
  constructor
  · intro e
    rw [← redc_lift h, ← redc_lift h, e]
  · intro e
    rw [← lift_mod a, e, lift_mod]

/-- Each round doubles the bits that are right. -/
theorem newton {k : Nat} {m x y : Int} (hk : 2 * k ≤ 64 ∨ k = 48) (h : Cg ((2 : Int) ^ k) (m * x) 1) (hy : Cg ((2 : Int) ^ 64) y (x * (2 - m * x))) : Cg ((2 : Int) ^ (min (2 * k) 64)) (m * y) 1 := by
  have h1 : Cg ((2 : Int) ^ (2 * k)) (m * (x * (2 - m * x))) 1 := by
    obtain ⟨c, hc⟩ := h
    refine ⟨-(c * c), ?_⟩
    have e : m * (x * (2 - m * x)) - 1 = -((m * x - 1) * (m * x - 1)) := by grind
    rw [e, hc, show 2 * k = k + k from by omega, Int.pow_add]
    grind
  have h2 : (2 : Int) ^ (min (2 * k) 64) ∣ (2 : Int) ^ 64 := ⟨(2 : Int) ^ (64 - min (2 * k) 64), by rw [← Int.pow_add]; congr 1; omega⟩
  have h3 : (2 : Int) ^ (min (2 * k) 64) ∣ (2 : Int) ^ (2 * k) := ⟨(2 : Int) ^ (2 * k - min (2 * k) 64), by rw [← Int.pow_add]; congr 1; omega⟩
  exact (Cg.mul_left m (hy.of_dvd h2)).trans (h1.of_dvd h3)
theorem newton_first {m : Int} (h : m % 2 = 1) : Cg ((2 : Int) ^ 3) (m * m) 1 := by
  obtain ⟨c, hc⟩ : ∃ c, m = 2 * c + 1 := ⟨m / 2, by omega⟩
  have h2 : c % 2 = 0 ∨ c % 2 = 1 := by omega
  rcases h2 with h2 | h2
  · obtain ⟨d, hd⟩ : ∃ d, c = 2 * d := ⟨c / 2, by omega⟩
    exact ⟨d * (2 * d + 1), by rw [hc, hd]; grind⟩
  · obtain ⟨d, hd⟩ : ∃ d, c = 2 * d + 1 := ⟨c / 2, by omega⟩
    exact ⟨(2 * d + 1) * (d + 1), by rw [hc, hd]; grind⟩
end Epi
