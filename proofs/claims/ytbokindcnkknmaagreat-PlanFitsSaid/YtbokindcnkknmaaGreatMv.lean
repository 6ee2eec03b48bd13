/- Plain arithmetic: the long division of 128 bits by 64, two digits of 32 bits (after Knuth). No program in sight. -/
set_option linter.unusedVariables false
namespace Epi

/-- The guess `q` with its rest `r` is no less than the digit. -/
def Guess (U d v v1 q r : Nat) : Prop := U = q * v1 + r ∧ (U * 4294967296 + d) / v ≤ q

section
variable {U d v v1 v0 q r : Nat}
theorem digit_lt (hU : U < v) (hd : d < 4294967296) : (U * 4294967296 + d) / v < 4294967296 := by
  rw [Nat.div_lt_iff_lt_mul (by omega)]
  have : (U + 1) * 4294967296 ≤ v * 4294967296 := Nat.mul_le_mul_right _ hU
  omega
theorem guess_first (hv : v = v1 * 4294967296 + v0) (h1 : 0 < v1) (hd : d < 4294967296) (hU : U < v) : Guess U d v v1 (U / v1) (U % v1) := by
  refine ⟨by rw [Nat.mul_comm, Nat.div_add_mod], ?_⟩
  rw [Nat.le_div_iff_mul_le h1]
  have h2 := Nat.div_mul_le_self (U * 4294967296 + d) v
  generalize (U * 4294967296 + d) / v = Q at *
  rw [hv, Nat.mul_add] at h2
  have h3 : Q * (v1 * 4294967296) = Q * v1 * 4294967296 := by grind
  rw [h3] at h2
  omega
/-- A guess that is too great: the next one. -/
theorem guess_next (hv : v = v1 * 4294967296 + v0) (hU : U < v) (hd : d < 4294967296) (h1 : 0 < v1) (h : Guess U d v v1 q r) (hc : 4294967296 ≤ q ∨ 4294967296 * r + d < q * v0) :
    Guess U d v v1 (q - 1) (r + v1) ∧ 1 ≤ q := by
  obtain ⟨e, hq⟩ := h
  have hQ := digit_lt (v := v) hU hd
  have hlt : (U * 4294967296 + d) / v < q := by
    rcases hc with hc | hc
    · omega
    · rw [Nat.div_lt_iff_lt_mul (by omega), hv, Nat.mul_add]
      have h3 : q * (v1 * 4294967296) = q * v1 * 4294967296 := by grind
      rw [h3, e]
      omega
  have h9 := Nat.zero_le ((U * 4294967296 + d) / v)
  refine ⟨⟨?_, by omega⟩, by omega⟩
  obtain ⟨k, rfl⟩ : ∃ k, q = k + 1 := ⟨q - 1, by omega⟩
  rw [e, Nat.add_sub_cancel, Nat.succ_mul]
  omega
theorem guess_right (hv : v = v1 * 4294967296 + v0) (hU : U < v) (h : Guess U d v v1 q r) (hc : q * v0 ≤ 4294967296 * r + d) : q = (U * 4294967296 + d) / v := by
  obtain ⟨e, hq⟩ := h
  refine Nat.le_antisymm ?_ hq
  rw [Nat.le_div_iff_mul_le (by omega), hv, Nat.mul_add]
  have h3 : q * (v1 * 4294967296) = q * v1 * 4294967296 := by grind
  rw [h3, e]
  omega
/-- A rest of more than 32 bits: the guess is the digit. -/
theorem guess_break (hv : v = v1 * 4294967296 + v0) (h0 : v0 < 4294967296) (h1 : 0 < v1) (hU : U < v) (h : Guess U d v v1 q r) (hr : 4294967296 ≤ r) : q = (U * 4294967296 + d) / v := by
  refine guess_right hv hU h ?_
  have e := h.1
  have hq : q < 4294967296 := by
    refine Classical.byContradiction fun hge => ?_
    have : 4294967296 * v1 ≤ q * v1 := Nat.mul_le_mul_right _ (by omega)
    omega
  have : q * v0 ≤ 4294967296 * v0 := Nat.mul_le_mul_right _ (by omega)
  have h4 : 4294967296 * v0 ≤ 4294967296 * 4294967296 := Nat.mul_le_mul_left _ (by omega)
  have h5 : 4294967296 * 4294967296 ≤ 4294967296 * r := Nat.mul_le_mul_left _ hr
  omega
end

/-- The two digits, put together; the last rest. -/
theorem two_digits {U a b v : Nat} (B : Nat) (hv : 0 < v) :
    (U * (B * B) + (a * B + b)) / v = (U * B + a) / v * B + ((U * B + a) % v * B + b) / v ∧
    (U * (B * B) + (a * B + b)) % v = ((U * B + a) % v * B + b) % v := by
  have h1 := Nat.div_add_mod (U * B + a) v
  generalize (U * B + a) / v = q at *
  generalize (U * B + a) % v = r at *
  have h2 : U * (B * B) + (a * B + b) = (r * B + b) + v * (q * B) := by
    have : U * (B * B) + (a * B + b) = (U * B + a) * B + b := by grind
    rw [this, ← h1]
    grind
  rw [h2, Nat.add_mul_div_left _ _ hv, Nat.add_mul_mod_self_left]
  exact ⟨by omega, rfl⟩
/-- Both moved by the same bits. -/
theorem moved_div {X y s : Nat} (hy : 0 < y) : X * 2 ^ s / (y * 2 ^ s) = X / y ∧ X * 2 ^ s % (y * 2 ^ s) / 2 ^ s = X % y := by
  have hs : 0 < 2 ^ s := Nat.pow_pos (by omega)
  refine ⟨Nat.mul_div_mul_right _ _ hs, ?_⟩
  rw [Nat.mul_mod_mul_right, Nat.mul_div_cancel _ hs]
/-- The high word of a number that is moved by s bits. -/
theorem moved_words {hi lo s : Nat} (hs : s ≤ 63) (hlo : lo < 18446744073709551616) :
    (hi * 18446744073709551616 + lo) * 2 ^ s = (hi * 2 ^ s + lo / 2 ^ (64 - s)) * 18446744073709551616 + lo * 2 ^ s % 18446744073709551616 := by
  have h1 : 18446744073709551616 = 2 ^ (64 - s) * 2 ^ s := by
    rw [← Nat.pow_add, show 64 - s + s = 64 from by omega]
  have h2 : lo * 2 ^ s / 18446744073709551616 = lo / 2 ^ (64 - s) := by
    rw [h1, Nat.mul_div_mul_right _ _ (Nat.pow_pos (by omega))]
  have h3 := Nat.div_add_mod (lo * 2 ^ s) 18446744073709551616
  rw [h2] at h3
  rw [Nat.add_mul, Nat.add_mul]
  have h4 : hi * 18446744073709551616 * 2 ^ s = hi * 2 ^ s * 18446744073709551616 := by grind
  rw [h4]
  omega
theorem high_lt {s lo : Nat} (hs : s ≤ 63) (hlo : lo < 18446744073709551616) : lo / 2 ^ (64 - s) < 2 ^ s := by
  rw [Nat.div_lt_iff_lt_mul (Nat.pow_pos (by omega)), ← Nat.pow_add, show s + (64 - s) = 64 from by omega]
  exact hlo
/-- The high word stays below the divisor. -/
theorem high_word_lt {hi lo y s : Nat} (h : hi < y) (hs : s ≤ 63) (hlo : lo < 18446744073709551616) : hi * 2 ^ s + lo / 2 ^ (64 - s) < y * 2 ^ s := by
  have h1 := high_lt hs hlo
  have h2 : (hi + 1) * 2 ^ s ≤ y * 2 ^ s := Nat.mul_le_mul_right _ h
  rw [Nat.succ_mul] at h2
  omega
/-- Words that go round: a difference below 2 ^ 64. -/
theorem round_sub {a b k : Int} {r : Nat} (h : a - b = (r : Int) + k * 18446744073709551616) (hr : r < 18446744073709551616) : (a - b) % 18446744073709551616 = r := by
  rw [h, Int.add_mul_emod_self_right]
  omega
end Epi
