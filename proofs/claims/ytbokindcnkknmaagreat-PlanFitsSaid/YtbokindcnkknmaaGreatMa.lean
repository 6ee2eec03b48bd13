/- Plain arithmetic, first part: congruences over the whole numbers, sums over an index, primes, inverses. No program in sight. -/
set_option linter.unusedVariables false
namespace Epi

/-! ### Congruences -/

/-- `a` and `b` leave one rest by `m`. -/
def Cg (m a b : Int) : Prop := ∃ k, a - b = m * k

namespace Cg
variable {m a b c d : Int}
theorem refl (a : Int) : Cg m a a := ⟨0, by grind⟩
theorem of_eq (h : a = b) : Cg m a b := h ▸ refl a
theorem symm (h : Cg m a b) : Cg m b a := by
  obtain ⟨k, hk⟩ := h
  exact ⟨-k, by grind⟩
theorem trans (h : Cg m a b) (h' : Cg m b c) : Cg m a c := by
  obtain ⟨k, hk⟩ := h
  obtain ⟨l, hl⟩ := h'
  exact ⟨k + l, by grind⟩
theorem add (h : Cg m a b) (h' : Cg m c d) : Cg m (a + c) (b + d) := by
  obtain ⟨k, hk⟩ := h
  obtain ⟨l, hl⟩ := h'
  exact ⟨k + l, by grind⟩
theorem sub (h : Cg m a b) (h' : Cg m c d) : Cg m (a - c) (b - d) := by
  obtain ⟨k, hk⟩ := h
  obtain ⟨l, hl⟩ := h'
  exact ⟨k - l, by grind⟩
theorem neg (h : Cg m a b) : Cg m (-a) (-b) := by
  obtain ⟨k, hk⟩ := h
  exact ⟨-k, by grind⟩
theorem mul (h : Cg m a b) (h' : Cg m c d) : Cg m (a * c) (b * d) := by
  obtain ⟨k, hk⟩ := h
  obtain ⟨l, hl⟩ := h'
  exact ⟨k * c + b * l, by grind⟩
theorem mul_left (c : Int) (h : Cg m a b) : Cg m (c * a) (c * b) := mul (refl c) h
theorem mul_right (c : Int) (h : Cg m a b) : Cg m (a * c) (b * c) := mul h (refl c)
theorem pow (n : Nat) (h : Cg m a b) : Cg m (a ^ n) (b ^ n) := by
  induction n with
  | zero => rw [Int.pow_zero, Int.pow_zero]; exact refl _
  | succ n ih =>
    rw [Int.pow_succ, Int.pow_succ]
    exact mul ih h
theorem emod (a m : Int) : Cg m (a % m) a := ⟨-(a / m), by have := Int.emod_add_mul_ediv a m; grind⟩
theorem iff_emod : Cg m a b ↔ a % m = b % m := by
  constructor
  · rintro ⟨k, hk⟩
    have : a = b + m * k := by omega
    rw [this, Int.add_mul_emod_self_left]
  · intro h
    exact trans (symm (emod a m)) (trans (of_eq h) (emod b m))
theorem zero_iff : Cg m a 0 ↔ m ∣ a := by
  constructor
  · rintro ⟨k, hk⟩
    exact ⟨k, by omega⟩
  · rintro ⟨k, hk⟩
    exact ⟨k, by omega⟩
theorem sub_zero_iff : Cg m (a - b) 0 ↔ Cg m a b := by
  constructor
  · rintro ⟨k, hk⟩
    exact ⟨k, by omega⟩
  · rintro ⟨k, hk⟩
    exact ⟨k, by omega⟩
/-- Two residues that are congruent are the same. -/
theorem eq_of_lt (h : Cg m a b) (ha : 0 ≤ a) (ha' : a < m) (hb : 0 ≤ b) (hb' : b < m) : a = b := by
  have := iff_emod.1 h
  rwa [Int.emod_eq_of_lt ha ha', Int.emod_eq_of_lt hb hb'] at this
theorem self (m : Int) : Cg m m 0 := ⟨1, by omega⟩
theorem of_dvd {n : Int} (h : Cg m a b) (hd : n ∣ m) : Cg n a b := by
  obtain ⟨k, hk⟩ := h
  obtain ⟨l, hl⟩ := hd
  exact ⟨l * k, by rw [hk, hl]; grind⟩
end Cg

theorem Cg.nat_mod (a m : Nat) : Cg m ((a % m : Nat) : Int) a := by
  rw [Int.natCast_emod]
  exact Cg.emod _ _
theorem Cg.nat_iff {m a b : Nat} : Cg m a b ↔ a % m = b % m := by
  rw [Cg.iff_emod, ← Int.natCast_emod, ← Int.natCast_emod]
  omega
/-- Congruent natural numbers below the modulus are the same. -/
theorem Cg.nat_eq {m a b : Nat} (h : Cg m a b) (ha : a < m) (hb : b < m) : a = b := by
  have := Cg.nat_iff.1 h
  rwa [Nat.mod_eq_of_lt ha, Nat.mod_eq_of_lt hb] at this

/-! ### Sums over an index -/

/-- The sum of `f i`, `i` below `n`. -/
def sm : Nat → (Nat → Int) → Int
  | 0, _ => 0
  | n + 1, f => sm n f + f n

theorem sm_zero (f : Nat → Int) : sm 0 f = 0 := rfl
theorem sm_succ (n : Nat) (f : Nat → Int) : sm (n + 1) f = sm n f + f n := rfl
theorem sm_one (f : Nat → Int) : sm 1 f = f 0 := by simp [sm]
theorem sm_congr {n : Nat} {f g : Nat → Int} (h : ∀ i, i < n → f i = g i) : sm n f = sm n g := by
  induction n with
  | zero => rfl
  | succ n ih => rw [sm_succ, sm_succ, ih fun i hi => h i (by omega), h n (by omega)]
theorem sm_cg {m : Int} {n : Nat} {f g : Nat → Int} (h : ∀ i, i < n → Cg m (f i) (g i)) : Cg m (sm n f) (sm n g) := by
  induction n with
  | zero => exact Cg.refl _
  | succ n ih => exact Cg.add (ih fun i hi => h i (by omega)) (h n (by omega))
theorem sm_add (n : Nat) (f g : Nat → Int) : sm n (fun i => f i + g i) = sm n f + sm n g := by
  induction n with
  | zero => rfl
  | succ n ih => simp only [sm_succ, ih]; omega
theorem sm_sub (n : Nat) (f g : Nat → Int) : sm n (fun i => f i - g i) = sm n f - sm n g := by
  induction n with
  | zero => rfl
  | succ n ih => simp only [sm_succ, ih]; omega
theorem sm_mul_left (n : Nat) (c : Int) (f : Nat → Int) : sm n (fun i => c * f i) = c * sm n f := by
  induction n with
  | zero => simp [sm]
  | succ n ih => simp only [sm_succ, ih]; grind
theorem sm_mul_right (n : Nat) (c : Int) (f : Nat → Int) : sm n (fun i => f i * c) = sm n f * c := by
  induction n with
  | zero => simp [sm]
  | succ n ih => simp only [sm_succ, ih]; grind
theorem sm_const (n : Nat) (c : Int) : sm n (fun _ => c) = n * c := by
  induction n with
  | zero => simp [sm]
  | succ n ih => simp only [sm_succ, ih]; push_cast; grind
theorem sm_zeros (n : Nat) : sm n (fun _ => 0) = 0 := by rw [sm_const]; simp
theorem sm_eq_zero {n : Nat} {f : Nat → Int} (h : ∀ i, i < n → f i = 0) : sm n f = 0 := by
  rw [sm_congr h, sm_zeros]
theorem sm_split (a b : Nat) (f : Nat → Int) : sm (a + b) f = sm a f + sm b (fun i => f (a + i)) := by
  induction b with
  | zero => simp [sm]
  | succ b ih => rw [← Nat.add_assoc, sm_succ, ih, sm_succ]; omega
theorem sm_succ_left (n : Nat) (f : Nat → Int) : sm (n + 1) f = f 0 + sm n (fun i => f (i + 1)) := by
  rw [Nat.add_comm, sm_split, sm_one]
  exact congrArg (f 0 + ·) (sm_congr fun i _ => by rw [Nat.add_comm])
theorem sm_swap (n m : Nat) (f : Nat → Nat → Int) : sm n (fun i => sm m (fun j => f i j)) = sm m (fun j => sm n (fun i => f i j)) := by
  induction n with
  | zero => simp only [sm_zero]; rw [sm_zeros]
  | succ n ih => simp only [sm_succ]; rw [ih, ← sm_add]
/-- By rows of `m`: all `i * m + j`. -/
theorem sm_rows (n m : Nat) (f : Nat → Int) : sm (n * m) f = sm n (fun i => sm m (fun j => f (i * m + j))) := by
  induction n with
  | zero => simp [sm]
  | succ n ih => rw [Nat.succ_mul, sm_split, ih, sm_succ]
/-- By columns: all `j * n + i`. -/
theorem sm_cols (n m : Nat) (f : Nat → Int) : sm (n * m) f = sm n (fun i => sm m (fun j => f (j * n + i))) := by
  rw [Nat.mul_comm, sm_rows, sm_swap]
theorem sm_one_term {n k : Nat} (hk : k < n) (f : Nat → Int) (h : ∀ i, i < n → i ≠ k → f i = 0) : sm n f = f k := by
  induction n with
  | zero => omega
  | succ n ih =>
    rw [sm_succ]
    by_cases e : k = n
    · subst e
      rw [sm_eq_zero fun i hi => h i (by omega) (by omega)]
      omega
    · rw [ih (by omega) fun i hi hne => h i (by omega) hne, h n (by omega) (by omega)]
      omega
/-- Another order of the places: `s` takes back what `r` does. -/
theorem sm_perm {n : Nat} (r s : Nat → Nat) (hr : ∀ i, i < n → r i < n) (hs : ∀ i, i < n → s i < n) (hsr : ∀ i, i < n → s (r i) = i) (hrs : ∀ i, i < n → r (s i) = i) (f : Nat → Int) :
    sm n (fun i => f (r i)) = sm n f := by
  have h1 : sm n (fun i => f (r i)) = sm n (fun i => sm n (fun k => if k = r i then f k else 0)) := by
    refine sm_congr fun i hi => ?_
    rw [sm_one_term (hr i hi)]
    · simp
    · intro k _ hne
      simp [hne]
  rw [h1, sm_swap]
  refine sm_congr fun k hk => ?_
  rw [sm_one_term (hs k hk)]
  · simp [hrs k hk]
  · intro i hi hne
    have : k ≠ r i := by
      rintro rfl
      exact hne (hsr i hi).symm
    simp [this]
theorem sm_neg (n : Nat) (f : Nat → Int) : sm n (fun i => - f i) = - sm n f := by
  induction n with
  | zero => rfl
  | succ n ih => simp only [sm_succ, ih]; omega
theorem sm_nonneg {n : Nat} {f : Nat → Int} (h : ∀ i, i < n → 0 ≤ f i) : 0 ≤ sm n f := by
  induction n with
  | zero => exact Int.le_refl _
  | succ n ih =>
    have h1 := ih fun i hi => h i (by omega)
    have h2 := h n (by omega)
    rw [sm_succ]
    omega
theorem sm_le {n : Nat} {f g : Nat → Int} (h : ∀ i, i < n → f i ≤ g i) : sm n f ≤ sm n g := by
  induction n with
  | zero => exact Int.le_refl _
  | succ n ih =>
    have h1 := ih fun i hi => h i (by omega)
    have h2 := h n (by omega)
    rw [sm_succ, sm_succ]
    omega
/-- The other way round. -/
theorem sm_rev (n : Nat) (f : Nat → Int) : sm n (fun i => f (n - 1 - i)) = sm n f :=
  sm_perm (fun i => n - 1 - i) (fun i => n - 1 - i) (fun i hi => by omega) (fun i hi => by omega) (fun i hi => by omega) (fun i hi => by omega) f

/-! ### Greatest divisors, primes, inverses -/

theorem bezout (a b : Nat) : ∃ x y : Int, a * x + b * y = (Nat.gcd a b : Nat) := by
  induction a, b using Nat.gcd.induction with
  | H0 n => exact ⟨0, 1, by simp⟩
  | H1 m n hm ih =>
    obtain ⟨x, y, h⟩ := ih
    refine ⟨y - (n / m : Nat) * x, x, ?_⟩
    rw [Nat.gcd_rec, ← h]
    have h2 : (n : Int) = (n % m : Nat) + m * (n / m : Nat) := by
      rw [← Int.natCast_mul, ← Int.natCast_add, Nat.mod_add_div]
    grind

/-- `p` is a prime. -/
def Pr (p : Nat) : Prop := 2 ≤ p ∧ ∀ d, d ∣ p → d = 1 ∨ d = p

theorem Pr.two_le {p : Nat} (h : Pr p) : 2 ≤ p := h.1
theorem Pr.pos {p : Nat} (h : Pr p) : 0 < p := by have := h.1; omega

theorem exists_prime {n : Nat} (h : 2 ≤ n) : ∃ q, Pr q ∧ q ∣ n := by
  induction n using Nat.strongRecOn with
  | _ n ih =>
    by_cases hp : Pr n
    · exact ⟨n, hp, Nat.dvd_refl n⟩
    · have : ∃ d, d ∣ n ∧ d ≠ 1 ∧ d ≠ n := by
        refine Classical.byContradiction fun hno => hp ⟨h, fun d hd => ?_⟩
        refine Classical.byContradiction fun hne => hno ⟨d, hd, ?_, ?_⟩
        · intro e
          exact hne (.inl e)
        · intro e
          exact hne (.inr e)
      obtain ⟨d, hd, h1, h2⟩ := this
      have hpos : 0 < d := Nat.pos_of_dvd_of_pos hd (by omega)
      have hle : d ≤ n := Nat.le_of_dvd (by omega) hd
      obtain ⟨q, hq, hqd⟩ := ih d (by omega) (by omega)
      exact ⟨q, hq, Nat.dvd_trans hqd hd⟩

theorem Pr.coprime {p a : Nat} (h : Pr p) (ha : ¬ p ∣ a) : Nat.gcd p a = 1 := by
  rcases h.2 _ (Nat.gcd_dvd_left p a) with e | e
  · exact e
  · exact absurd (e ▸ Nat.gcd_dvd_right p a) ha
theorem Pr.dvd_mul {p a b : Nat} (h : Pr p) (hd : p ∣ a * b) : p ∣ a ∨ p ∣ b := by
  by_cases ha : p ∣ a
  · exact .inl ha
  · exact .inr (Nat.Coprime.dvd_of_dvd_mul_left (h.coprime ha) hd)
theorem Pr.dvd_pow {p a n : Nat} (h : Pr p) (hd : p ∣ a ^ n) : p ∣ a := by
  induction n with
  | zero =>
    have : p = 1 := Nat.dvd_one.1 (by simpa using hd)
    have := h.1
    omega
  | succ n ih =>
    rw [Nat.pow_succ] at hd
    exact (h.dvd_mul hd).elim ih id
theorem Pr.eq_of_dvd {p q : Nat} (hp : Pr p) (hq : Pr q) (h : p ∣ q) : p = q := by
  rcases hq.2 p h with e | e
  · have := hp.1
    omega
  · exact e

/-- The prime as a whole number divides a product only by dividing a factor. -/
theorem Pr.int_dvd_mul {p : Nat} (h : Pr p) {a b : Int} (hd : (p : Int) ∣ a * b) : (p : Int) ∣ a ∨ (p : Int) ∣ b := by
  have h1 : p ∣ a.natAbs * b.natAbs := by
    have := Int.natAbs_dvd_natAbs.2 hd
    rwa [Int.natAbs_natCast, Int.natAbs_mul] at this
  rcases h.dvd_mul h1 with h2 | h2
  · exact .inl (Int.natAbs_dvd_natAbs.1 (by simpa using h2))
  · exact .inr (Int.natAbs_dvd_natAbs.1 (by simpa using h2))
theorem Pr.cg_mul_zero {p : Nat} (h : Pr p) {a b : Int} (hd : Cg p (a * b) 0) : Cg p a 0 ∨ Cg p b 0 := by
  rcases h.int_dvd_mul (Cg.zero_iff.1 hd) with h2 | h2
  · exact .inl (Cg.zero_iff.2 h2)
  · exact .inr (Cg.zero_iff.2 h2)
/-- What isn't 0 can be struck. -/
theorem Pr.cancel {p : Nat} (h : Pr p) {a b c : Int} (ha : ¬ Cg p a 0) (hd : Cg p (a * b) (a * c)) : Cg p b c := by
  have : Cg p (a * (b - c)) 0 := by
    obtain ⟨k, hk⟩ := hd
    exact ⟨k, by grind⟩
  rcases h.cg_mul_zero this with h2 | h2
  · exact absurd h2 ha
  · exact Cg.sub_zero_iff.1 h2
/-- What is coprime has an inverse. -/
theorem inv_of_coprime {m a : Nat} (h : Nat.gcd a m = 1) : ∃ b : Int, Cg m (a * b) 1 := by
  obtain ⟨x, y, e⟩ := bezout a m
  rw [h] at e
  exact ⟨x, -y, by grind⟩
theorem coprime_of_inv {m a : Nat} {b : Int} (h : Cg m (a * b) 1) : Nat.gcd a m = 1 := by
  obtain ⟨k, hk⟩ := h
  have h1 : ((Nat.gcd a m : Nat) : Int) ∣ 1 := by
    obtain ⟨u, hu⟩ := Nat.gcd_dvd_left a m
    obtain ⟨v, hv⟩ := Nat.gcd_dvd_right a m
    have hu' : (a : Int) = (Nat.gcd a m : Nat) * u := by exact_mod_cast hu
    have hv' : (m : Int) = (Nat.gcd a m : Nat) * v := by exact_mod_cast hv
    refine ⟨u * b - v * k, ?_⟩
    generalize ((Nat.gcd a m : Nat) : Int) = g at *
    grind
  have := Int.natAbs_dvd_natAbs.2 h1
  simpa using this
theorem Pr.inv {p : Nat} (h : Pr p) {a : Int} (ha : ¬ Cg p a 0) : ∃ b : Int, Cg p (a * b) 1 := by
  have hp : (0 : Int) < p := by have := h.pos; omega
  have h0 : 0 ≤ a % p := Int.emod_nonneg _ (by omega)
  obtain ⟨n, hn⟩ := Int.eq_ofNat_of_zero_le h0
  have hna : Cg p n a := by rw [← hn]; exact Cg.emod a p
  have hc : Nat.gcd n p = 1 := by
    rw [Nat.gcd_comm]
    refine h.coprime fun hd => ha ?_
    refine (Cg.symm hna).trans (Cg.zero_iff.2 ?_)
    exact Int.natCast_dvd_natCast.2 hd
  obtain ⟨b, hb⟩ := inv_of_coprime hc
  exact ⟨b, ((Cg.mul_right b hna).symm).trans hb⟩
end Epi
