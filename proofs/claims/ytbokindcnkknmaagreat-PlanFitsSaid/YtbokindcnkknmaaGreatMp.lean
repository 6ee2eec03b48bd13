/- Plain arithmetic: plans, what they cost, which fit. No program in sight. -/
import Derived.Test.YtbokindcnkknmaaGreatMr
set_option linter.unusedVariables false
namespace Epi
def padGo (n : Int) : Nat → Nat → Nat
  | 0, _ => 0
  | f + 1, k => if n ≤ (k : Int) then k else padGo n f (2 * k)
/-- The least power of two that isn't below, up to 2^12; 0: none. -/
def padN (n : Int) : Nat := padGo n 13 1
def p2Go (n : Int) : Nat → Nat → Bool
  | 0, _ => false
  | f + 1, k => if n = (k : Int) then true else p2Go n f (2 * k)
/-- Is it a power of two, up to 2^12? -/
def p2 (n : Int) : Bool := p2Go n 13 1
theorem pow_lt_4096 {k : Nat} (h : 2 ^ k < 4096) : k < 12 := by
  have : (2 : Nat) ^ k < 2 ^ 12 := h
  exact (Nat.pow_lt_pow_iff_right (by omega)).mp this
theorem padGo_big {n : Int} (h : 4096 < n) : ∀ (f k : Nat), 2 ^ (f - 1) * k ≤ 4096 → padGo n f k = 0 := by
  intro f
  induction f with
  | zero => intro k _; rfl
  | succ f ih =>
    intro k hk
    unfold padGo
    have h1 : 1 ≤ 2 ^ f := Nat.one_le_two_pow
    have h2 : k ≤ 2 ^ f * k := Nat.le_mul_of_pos_left _ h1
    rw [Nat.add_sub_cancel] at hk
    rw [if_neg (by omega)]
    cases f with
    | zero => rfl
    | succ g =>
      refine ih (2 * k) ?_
      rw [Nat.add_sub_cancel, ← Nat.mul_assoc, ← Nat.pow_succ]
      exact hk
theorem padN_big {n : Int} (h : 4096 < n) : padN n = 0 := padGo_big h 13 1 (by decide)
theorem padGo_spec {n : Int} (hn : n ≤ 4096) : ∀ (f k : Nat), f + k = 13 → 1 ≤ f → (k = 0 ∨ ((2 ^ (k - 1) : Nat) : Int) < n) → ∃ j, j ≤ 12 ∧ padGo n f (2 ^ k) = 2 ^ j ∧ n ≤ ((2 ^ j : Nat) : Int) ∧ (j = 0 ∨ ((2 ^ (j - 1) : Nat) : Int) < n) := by
  intro f
  induction f with
  | zero => intro k _ h; omega
  | succ f ih =>
    intro k hk _ hlt
    unfold padGo
    by_cases hc : n ≤ ((2 ^ k : Nat) : Int)
    · rw [if_pos hc]
      exact ⟨k, by omega, rfl, hc, hlt⟩
    · rw [if_neg hc]
      have hk12 : k < 12 := pow_lt_4096 (by omega)
      have := ih (k + 1) (by omega) (by omega) (.inr (by rw [Nat.add_sub_cancel]; omega))
      rwa [Nat.pow_succ, Nat.mul_comm] at this
theorem padN_spec {n : Int} (hn : n ≤ 4096) : ∃ j, j ≤ 12 ∧ padN n = 2 ^ j ∧ n ≤ ((2 ^ j : Nat) : Int) ∧ (j = 0 ∨ ((2 ^ (j - 1) : Nat) : Int) < n) := padGo_spec hn 13 0 rfl (by omega) (.inl rfl)
theorem padN_le (n : Int) : padN n ≤ 4096 := by
  by_cases h : n ≤ 4096
  · obtain ⟨j, h1, h2, -⟩ := padN_spec h
    rw [h2]
    exact Nat.pow_le_pow_right (by omega) h1
  · rw [padN_big (by omega)]
    omega
theorem padN_pos {n : Int} (hn : n ≤ 4096) : 1 ≤ padN n := by
  obtain ⟨j, h1, h2, -⟩ := padN_spec hn
  rw [h2]
  exact Nat.one_le_two_pow
theorem padN_ge {n : Int} (hn : n ≤ 4096) : n ≤ padN n := by
  obtain ⟨j, h1, h2, h3, -⟩ := padN_spec hn
  rw [h2]
  exact h3
theorem padN_le_2048 {n : Int} (hn : n ≤ 2048) : padN n ≤ 2048 := by
  obtain ⟨j, h1, h2, h3, h4⟩ := padN_spec (n := n) (by omega)
  rw [h2]
  rcases h4 with rfl | h4
  · decide
  · have h5 : (2 : Nat) ^ (j - 1) < 2 ^ 11 := by have : (2 : Nat) ^ 11 = 2048 := rfl; omega
    have h6 := (Nat.pow_lt_pow_iff_right (show 1 < 2 by omega)).mp h5
    have h7 : (2 : Nat) ^ j ≤ 2 ^ 11 := Nat.pow_le_pow_right (by omega) (by omega)
    exact h7
/-- Within the program's loop. -/
theorem padN_at {n : Int} {k : Nat} (hn : n ≤ 4096) (h : k = 0 ∨ ((2 ^ (k - 1) : Nat) : Int) < n) (h' : n ≤ ((2 ^ k : Nat) : Int)) : padN n = 2 ^ k := by
  obtain ⟨j, h1, h2, h3, h4⟩ := padN_spec hn
  rw [h2]
  congr 1
  have hmono : ∀ a b : Nat, (a = 0 ∨ ((2 ^ (a - 1) : Nat) : Int) < n) → n ≤ ((2 ^ b : Nat) : Int) → a ≤ b := by
    intro a b h1 h2
    rcases h1 with rfl | h1
    · omega
    · have h5 : (2 : Nat) ^ (a - 1) < 2 ^ b := by omega
      have h6 := (Nat.pow_lt_pow_iff_right (show 1 < 2 by omega)).mp h5
      omega
  have := hmono j k h4 h'
  have := hmono k j h h3
  omega
theorem p2Go_iff (n : Int) : ∀ (f k : Nat), p2Go n f (2 ^ k) = true ↔ ∃ j, k ≤ j ∧ j < k + f ∧ n = ((2 ^ j : Nat) : Int) := by
  intro f
  induction f with
  | zero => intro k; simp only [p2Go]; exact ⟨fun h => (by cases h), fun ⟨j, h1, h2, _⟩ => by omega⟩
  | succ f ih =>
    intro k
    unfold p2Go
    by_cases hc : n = ((2 ^ k : Nat) : Int)
    · rw [if_pos hc]
      exact ⟨fun _ => ⟨k, Nat.le_refl _, by omega, hc⟩, fun _ => rfl⟩
    · rw [if_neg hc]
      have e : 2 * 2 ^ k = 2 ^ (k + 1) := by rw [Nat.pow_succ, Nat.mul_comm]
      rw [e, ih (k + 1)]
      constructor
      · rintro ⟨j, h1, h2, h3⟩
        exact ⟨j, by omega, by omega, h3⟩
      · rintro ⟨j, h1, h2, h3⟩
        refine ⟨j, ?_, by omega, h3⟩
        rcases Nat.lt_or_ge k j with h | h
        · exact h
        · obtain rfl : j = k := by omega
          exact absurd h3 hc
theorem p2_iff (n : Int) : p2 n = true ↔ ∃ j, j ≤ 12 ∧ n = ((2 ^ j : Nat) : Int) := by
  have := p2Go_iff n 13 0
  unfold p2
  rw [Nat.pow_zero] at this
  rw [this]
  exact ⟨fun ⟨j, _, h2, h3⟩ => ⟨j, by omega, h3⟩, fun ⟨j, h2, h3⟩ => ⟨j, by omega, by omega, h3⟩⟩
def p2Chk (f n : Nat) : Bool := match f with
  | 0 => true
  | f + 1 => (((n &&& (n - 1)) == 0) == p2 (n : Nat)) && p2Chk f (n + 1)
theorem p2Chk_at : ∀ (f n k : Nat), p2Chk f n = true → k < f → (((n + k) &&& (n + k - 1)) == 0) = p2 ((n + k : Nat) : Int) := by
  intro f
  induction f with
  | zero => intro n k _ h; omega
  | succ f ih =>
    intro n k h hk
    unfold p2Chk at h
    rw [Bool.and_eq_true, beq_iff_eq] at h
    cases k with
    | zero => exact h.1
    | succ k =>
      have := ih (n + 1) k h.2 (by omega)
      rwa [show n + 1 + k = n + (k + 1) by omega] at this
theorem p2Chk_1 : p2Chk 1024 1 = true := by decide +kernel
theorem p2Chk_2 : p2Chk 1024 1025 = true := by decide +kernel
theorem p2Chk_3 : p2Chk 1024 2049 = true := by decide +kernel
theorem p2Chk_4 : p2Chk 1024 3073 = true := by decide +kernel
theorem p2_land (n : Nat) (h : n < 4097) (h0 : 0 < n) : ((n &&& (n - 1)) == 0) = p2 (n : Nat) := by
  rcases Nat.lt_or_ge n 1025 with a | a
  · have := p2Chk_at 1024 1 (n - 1) p2Chk_1 (by omega)
    rwa [show 1 + (n - 1) = n by omega] at this
  rcases Nat.lt_or_ge n 2049 with b | b
  · have := p2Chk_at 1024 1025 (n - 1025) p2Chk_2 (by omega)
    rwa [show 1025 + (n - 1025) = n by omega] at this
  rcases Nat.lt_or_ge n 3073 with c | c
  · have := p2Chk_at 1024 2049 (n - 2049) p2Chk_3 (by omega)
    rwa [show 2049 + (n - 2049) = n by omega] at this
  · have := p2Chk_at 1024 3073 (n - 3073) p2Chk_4 (by omega)
    rwa [show 3073 + (n - 3073) = n by omega] at this
theorem p2_nonpos {n : Int} (h : n < 1) : p2 n = false := by
  cases e : p2 n with
  | false => rfl
  | true =>
    obtain ⟨j, -, h2⟩ := (p2_iff n).mp e
    have : 1 ≤ 2 ^ j := Nat.one_le_two_pow
    omega
theorem p2_big {n : Int} (h : 4096 < n) : p2 n = false := by
  cases e : p2 n with
  | false => rfl
  | true =>
    obtain ⟨j, h1, h2⟩ := (p2_iff n).mp e
    have : 2 ^ j ≤ 2 ^ 12 := Nat.pow_le_pow_right (by omega) h1
    omega
theorem p2_padN {n : Int} (hn : n ≤ 4096) : p2 (padN n : Nat) = true := by
  obtain ⟨j, h1, h2, -⟩ := padN_spec hn
  rw [h2]
  exact (p2_iff _).mpr ⟨j, h1, rfl⟩

/-- The least of 2, 3, 5, 7 that divides; 8: none. -/
def lf (n : Nat) : Nat := if n % 2 = 0 then 2 else if n % 3 = 0 then 3 else if n % 5 = 0 then 5 else if n % 7 = 0 then 7 else 8
theorem lf_of {n r : Nat} (h2 : 2 ≤ r) (h : ∀ d, 2 ≤ d → d < r → n % d ≠ 0) (h' : r = 8 ∨ (r < 8 ∧ n % r = 0)) : r = lf n := by
  have h8 : r ≤ 8 := by omega
  unfold lf
  rcases Nat.lt_or_ge 2 r with a | a
  · have := h 2 (by omega) a
    rw [if_neg this]
    rcases Nat.lt_or_ge 3 r with b | b
    · have := h 3 (by omega) b
      rw [if_neg this]
      rcases Nat.lt_or_ge 5 r with c | c
      · have := h 5 (by omega) c
        rw [if_neg this]
        rcases Nat.lt_or_ge 7 r with d | d
        · have := h 7 (by omega) d
          rw [if_neg this]
          omega
        · rcases Nat.lt_or_ge 6 r with e | e
          · obtain rfl : r = 7 := by omega
            rw [if_pos (by omega)]
          · obtain rfl : r = 6 := by omega
            omega
      · rcases Nat.lt_or_ge 4 r with e | e
        · obtain rfl : r = 5 := by omega
          rw [if_pos (by omega)]
        · obtain rfl : r = 4 := by omega
          omega
    · obtain rfl : r = 3 := by omega
      rw [if_pos (by omega)]
  · obtain rfl : r = 2 := by omega
    rw [if_pos (by omega)]
def radGo : Nat → Nat → Option (List Nat)
  | 0, _ => none
  | f + 1, n => if n ≤ 1 then some [] else if lf n = 8 then none else (radGo f (n / lf n)).map (lf n :: ·)
/-- The factors 2, 3, 5, 7 whose product a number is, rising. -/
def radL (n : Nat) : Option (List Nat) := radGo 11 n
theorem lf_two (n : Nat) : 2 ≤ lf n ∧ lf n ≤ 8 := by
  unfold lf
  repeat' split
  all_goals omega
theorem lf_dvd {n : Nat} (h : lf n ≠ 8) : n % lf n = 0 := by
  unfold lf at *
  by_cases a : n % 2 = 0
  · rw [if_pos a]; exact a
  rw [if_neg a] at h ⊢
  by_cases b : n % 3 = 0
  · rw [if_pos b]; exact b
  rw [if_neg b] at h ⊢
  by_cases c : n % 5 = 0
  · rw [if_pos c]; exact c
  rw [if_neg c] at h ⊢
  by_cases d : n % 7 = 0
  · rw [if_pos d]; exact d
  rw [if_neg d] at h
  exact absurd rfl h
theorem radGo_fuel : ∀ (f g n : Nat), n < 2 ^ f → n < 2 ^ g → 1 ≤ f → 1 ≤ g → radGo f n = radGo g n := by
  intro f
  induction f with
  | zero => intro g n _ _ h; omega
  | succ f ih =>
    intro g n h1 h2 _ hg
    cases g with
    | zero => omega
    | succ g =>
      unfold radGo
      by_cases h0 : n ≤ 1
      · rw [if_pos h0, if_pos h0]
      · rw [if_neg h0, if_neg h0]
        by_cases h8 : lf n = 8
        · rw [if_pos h8, if_pos h8]
        · rw [if_neg h8, if_neg h8]
          have hd : n / lf n ≤ n / 2 := Nat.div_le_div_left (lf_two n).1 (by omega)
          rw [Nat.pow_succ] at h1 h2
          have hf : 1 ≤ f := by
            rcases Nat.eq_zero_or_pos f with h | h
            · subst h; omega
            · exact h
          have hg : 1 ≤ g := by
            rcases Nat.eq_zero_or_pos g with h | h
            · subst h; omega
            · exact h
          rw [ih g _ (by omega) (by omega) hf hg]
theorem radL_eq {n : Nat} (h : n < 2048) : radL n = if n ≤ 1 then some [] else if lf n = 8 then none else (radL (n / lf n)).map (lf n :: ·) := by
  unfold radL
  conv => lhs; unfold radGo
  by_cases h0 : n ≤ 1
  · rw [if_pos h0, if_pos h0]
  rw [if_neg h0, if_neg h0]
  by_cases h8 : lf n = 8
  · rw [if_pos h8, if_pos h8]
  rw [if_neg h8, if_neg h8]
  have hd : n / lf n ≤ n / 2 := Nat.div_le_div_left (lf_two n).1 (by omega)
  rw [radGo_fuel 10 11 _ (by have : (2 : Nat) ^ 10 = 1024 := rfl; omega) (by have : (2 : Nat) ^ 11 = 2048 := rfl; omega) (by omega) (by omega)]
/-- What the list says. -/
theorem radL_spec : ∀ (n : Nat) (L : List Nat), n < 2048 → 1 ≤ n → radL n = some L → (∀ r ∈ L, r = 2 ∨ r = 3 ∨ r = 5 ∨ r = 7) ∧ L.foldr (· * ·) 1 = n ∧ L.length ≤ 10 := by
  intro n
  have key : ∀ (f n : Nat) (L : List Nat), 1 ≤ n → radGo f n = some L → (∀ r ∈ L, r = 2 ∨ r = 3 ∨ r = 5 ∨ r = 7) ∧ L.foldr (· * ·) 1 = n ∧ L.length ≤ f - 1 := by
    intro f
    induction f with
    | zero => intro n L _ h; simp [radGo] at h
    | succ f ih =>
      intro n L hn h
      unfold radGo at h
      by_cases h0 : n ≤ 1
      · rw [if_pos h0] at h
        obtain rfl := Option.some.inj h
        exact ⟨by simp, by simp; omega, by simp⟩
      rw [if_neg h0] at h
      by_cases h8 : lf n = 8
      · rw [if_pos h8] at h; cases h
      rw [if_neg h8] at h
      have hdv := lf_dvd h8
      have h2 := lf_two n
      obtain ⟨L', h3, rfl⟩ := Option.map_eq_some_iff.mp h
      obtain ⟨c, hc⟩ := Nat.dvd_of_mod_eq_zero hdv
      have hq : n / lf n = c := by conv => lhs; lhs; rw [hc]
                                   exact Nat.mul_div_cancel_left _ (by omega)
      have hc1 : 1 ≤ c := by
        rcases Nat.eq_zero_or_pos c with h | h
        · subst h; omega
        · exact h
      rw [hq] at h3
      obtain ⟨a, b, d⟩ := ih c L' hc1 h3
      refine ⟨fun r hr => ?_, ?_, ?_⟩
      · rcases List.mem_cons.mp hr with rfl | hr
        · unfold lf at *
          revert h8
          repeat' split
          all_goals simp
        · exact a r hr
      · rw [List.foldr_cons, b]; exact hc.symm
      · rw [List.length_cons]
        cases f with
        | zero => simp [radGo] at h3
        | succ f => omega
  exact fun L _ h1 h => key 11 n L h1 h
/-- Within the program's loops: what is left of n0, behind what was found. -/
def RadTo (n0 : Nat) (out : List Nat) (n : Nat) : Prop := radL n0 = (radL n).map (out ++ ·) ∧ 1 ≤ n ∧ n < 2048
theorem RadTo.zero {n : Nat} (h : 1 ≤ n) (h' : n < 2048) : RadTo n [] n := ⟨by cases radL n <;> simp, h, h'⟩
theorem RadTo.step {n0 n r : Nat} {out : List Nat} (h : RadTo n0 out n) (hr : lf n = r) (h8 : r ≠ 8) (h1 : n ≠ 1) : RadTo n0 (out ++ [r]) (n / r) := by
  obtain ⟨a, b, c⟩ := h
  have h2 := lf_two n
  have hd := lf_dvd (n := n) (by rw [hr]; exact h8)
  subst hr
  obtain ⟨k, hk⟩ := Nat.dvd_of_mod_eq_zero hd
  have hq : n / lf n = k := by conv => lhs; lhs; rw [hk]
                               exact Nat.mul_div_cancel_left _ (by omega)
  refine ⟨?_, ?_, ?_⟩
  · rw [a, radL_eq c, if_neg (by omega), if_neg h8]
    cases radL (n / lf n) <;> simp
  · rcases Nat.eq_zero_or_pos k with h | h
    · subst h; omega
    · omega
  · have := Nat.div_le_self n (lf n); omega
theorem RadTo.done {n0 : Nat} {out : List Nat} (h : RadTo n0 out 1) : radL n0 = some out := by
  rw [h.1, radL_eq (by omega), if_pos (by omega)]
  simp
theorem RadTo.fail {n0 n : Nat} {out : List Nat} (h : RadTo n0 out n) (h1 : 1 < n) (h8 : lf n = 8) : radL n0 = none := by
  rw [h.1, radL_eq h.2.2, if_neg (by omega), if_pos h8]
  rfl

/-- Is a a part of n, coprime to the rest? -/
def cpF (n a : Int) : Bool := decide (1 < a ∧ a < n ∧ n % a = 0 ∧ Nat.gcd a.toNat (n / a).toNat = 1)
theorem cp_iff {a b : Nat} (ha : 2 ≤ a) : Nat.gcd a b = 1 ↔ ∀ d, 2 ≤ d → d ≤ a → ¬ (a % d = 0 ∧ b % d = 0) := by
  constructor
  · intro h d h1 h2 ⟨h3, h4⟩
    have := Nat.dvd_gcd (Nat.dvd_of_mod_eq_zero h3) (Nat.dvd_of_mod_eq_zero h4)
    rw [h] at this
    have := Nat.le_of_dvd (by omega) this
    omega
  · intro h
    have h0 : 0 < Nat.gcd a b := Nat.gcd_pos_of_pos_left _ (by omega)
    have hl : Nat.gcd a b ≤ a := Nat.le_of_dvd (by omega) (Nat.gcd_dvd_left a b)
    rcases Nat.lt_or_ge (Nat.gcd a b) 2 with h1 | h1
    · omega
    · exact absurd ⟨Nat.mod_eq_zero_of_dvd (Nat.gcd_dvd_left a b), Nat.mod_eq_zero_of_dvd (Nat.gcd_dvd_right a b)⟩ (h _ h1 hl)

/-- To which length a transform of an odd prime length is filled up; of any length. -/
noncomputable def rdPad (n : Int) : Nat := if 3 ≤ n ∧ n ≤ 1024 ∧ bOf (Pr n.toNat) = true then padN (2 * n - 3) else 0
def chPad (n : Int) : Nat := if 1 ≤ n ∧ n ≤ 1024 then padN (2 * n - 1) else 0
theorem rdPad_le (n : Int) : rdPad n ≤ 2048 := by
  unfold rdPad
  split
  · exact padN_le_2048 (by omega)
  · omega
theorem chPad_le (n : Int) : chPad n ≤ 2048 := by
  unfold chPad
  split
  · exact padN_le_2048 (by omega)
  · omega
theorem chPad_pos {n : Int} (h : 1 ≤ n) (h' : n ≤ 1024) : 1 ≤ chPad n := by
  unfold chPad
  rw [if_pos ⟨h, h'⟩]
  exact padN_pos (by omega)
/-- A plan. -/
structure Pl where
  k : Int
  n : Int
  a : Int
deriving DecidableEq
/-- Can it be a plan? -/
def canF (x : Pl) : Prop := 1 ≤ x.n ∧ x.n ≤ 1024 ∧ ((x.k = 0 ∧ x.a = 0) ∨ ((x.k = 1 ∨ x.k = 2) ∧ x.a = 0 ∧ p2 x.n = true) ∨ (x.k = 3 ∧ x.a = 0 ∧ (radL x.n.toNat).isSome = true) ∨ (x.k = 4 ∧ cpF x.n x.a = true) ∨ (x.k = 5 ∧ 0 < x.a ∧ x.a = rdPad x.n) ∨ (x.k = 6 ∧ x.a = chPad x.n))
/-- What is wrong with a length. -/
def ckF (p : Nat) (n most : Int) : Nat := if n < 1 then 1 else if most < n then 13 else if ((p - 1 : Nat) : Int) % n ≠ 0 then 4 else 0
/-- What is wrong with a plan. -/
noncomputable def fitsF (p : Nat) (x : Pl) : Nat := if ckF p x.n 1024 ≠ 0 then ckF p x.n 1024 else if bOf (canF x ∧ (x.k ≤ 4 ∨ ((p - 1 : Nat) : Int) % x.a = 0)) = true then 0 else 11
/-- How often a number is halved till it is 1. -/
def lg (n : Nat) : Nat := Nat.log2 n
/-- What a part costs. -/
def partF (m : Nat) : Nat := match radL m with | some L => 2 * m * L.sum + m | none => m * m
/-- What a plan costs that can be. -/
def costK (x : Pl) : Nat :=
  if x.k = 0 then x.n.toNat * x.n.toNat else if x.k = 1 then x.n.toNat * 3 * lg x.n.toNat + x.n.toNat else if x.k = 2 then x.n.toNat * 2 * lg x.n.toNat + 2 * x.n.toNat
  else if x.k = 3 then partF x.n.toNat
  else if x.k = 4 then x.a.toNat * partF (x.n / x.a).toNat + (x.n / x.a).toNat * partF x.a.toNat + x.n.toNat
  else if x.k = 5 then 3 * (x.a.toNat * 3 * lg x.a.toNat + x.a.toNat) + 4 * x.n.toNat
  else 3 * (x.a.toNat * 3 * lg x.a.toNat + x.a.toNat) + 6 * x.n.toNat
/-- What a plan costs; 0: it can't be. -/
noncomputable def costF (x : Pl) : Nat := if bOf (canF x) = true then costK x else 0
end Epi
