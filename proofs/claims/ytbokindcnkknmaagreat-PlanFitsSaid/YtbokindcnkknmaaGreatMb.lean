import Derived.Test.YtbokindcnkknmaaGreatMa
/- Plain arithmetic, second part: products, Fermat, orders, Lucas' proof of a prime, generators. No program in sight. -/
set_option linter.unusedVariables false
namespace Epi

/-! ### The pigeonhole -/
theorem inj_surj : ∀ (n : Nat) (f : Nat → Nat), (∀ i, i < n → f i < n) → (∀ i j, i < n → j < n → f i = f j → i = j) → ∀ k, k < n → ∃ i, i < n ∧ f i = k := by
  intro n
  induction n with
  | zero => intro f _ _ k hk; omega
  | succ n ih =>
    intro f hb hi k hk
    have hv := hb n (by omega)
    by_cases hkv : k = f n
    · exact ⟨n, by omega, hkv.symm⟩
    · have h' := ih (fun i => if f i = n then f n else f i)
        (fun i hin => by
          have h1 := hb i (by omega)
          have h2 : f i ≠ f n := fun e => by have := hi i n (by omega) (by omega) e; omega
          try dsimp only
          split <;> omega)
        (fun i j hin hjn => by
          try dsimp only
          have hin' : f i ≠ f n := fun e => by have := hi i n (by omega) (by omega) e; omega
          have hjn' : f j ≠ f n := fun e => by have := hi j n (by omega) (by omega) e; omega
          intro e
          refine hi i j (by omega) (by omega) ?_
          split at e <;> split at e <;> omega)
      by_cases hkn : k = n
      · obtain ⟨i, hin, e⟩ := h' (f n) (by omega)
        have hin' : f i ≠ f n := fun e => by have := hi i n (by omega) (by omega) e; omega
        refine ⟨i, by omega, ?_⟩
        try dsimp only at e
        split at e <;> omega
      · obtain ⟨i, hin, e⟩ := h' k (by omega)
        refine ⟨i, by omega, ?_⟩
        try dsimp only at e
        split at e <;> omega

/-! ### Products over an index -/
def pd : Nat → (Nat → Int) → Int
  | 0, _ => 1
  | n + 1, f => pd n f * f n
theorem pd_succ (n : Nat) (f : Nat → Int) : pd (n + 1) f = pd n f * f n := rfl
theorem pd_congr {n : Nat} {f g : Nat → Int} (h : ∀ i, i < n → f i = g i) : pd n f = pd n g := by
  induction n with
  | zero => rfl
  | succ n ih => rw [pd_succ, pd_succ, ih fun i hi => h i (by omega), h n (by omega)]
theorem pd_cg {m : Int} {n : Nat} {f g : Nat → Int} (h : ∀ i, i < n → Cg m (f i) (g i)) : Cg m (pd n f) (pd n g) := by
  induction n with
  | zero => exact Cg.refl _
  | succ n ih => exact Cg.mul (ih fun i hi => h i (by omega)) (h n (by omega))
theorem pd_mul (n : Nat) (c : Int) (f : Nat → Int) : pd n (fun i => c * f i) = c ^ n * pd n f := by
  induction n with
  | zero => simp [pd]
  | succ n ih => rw [pd_succ, pd_succ, ih, Int.pow_succ]; grind
/-- One factor for another one. -/
theorem pd_turn {n k : Nat} (hk : k < n) (f : Nat → Int) (u v : Int) : pd n (fun i => if i = k then u else f i) * v = pd n (fun i => if i = k then v else f i) * u := by
  induction n with
  | zero => omega
  | succ n ih =>
    rw [pd_succ, pd_succ]
    by_cases e : k = n
    · subst e
      have h : ∀ x : Int, pd k (fun i => if i = k then x else f i) = pd k f := fun x => pd_congr fun i hi => by
        have : i ≠ k := by omega
        simp [this]
      rw [h, h]
      simp only [if_true]
      grind
    · have := ih (by omega)
      have hn : n ≠ k := by omega
      simp only [hn, if_false]
      grind
theorem pd_inj : ∀ (n : Nat) (r : Nat → Nat), (∀ i, i < n → r i < n) → (∀ i j, i < n → j < n → r i = r j → i = j) → ∀ f : Nat → Int, pd n (fun i => f (r i)) = pd n f := by
  intro n
  induction n with
  | zero => intro r _ _ f; rfl
  | succ n ih =>
    intro r hb hi f
    rw [pd_succ, pd_succ]
    have hv := hb n (by omega)
    by_cases hkn : r n = n
    · rw [ih r (fun i hin => by
        have h1 := hb i (by omega)
        have h2 : r i ≠ r n := fun e => by have := hi i n (by omega) (by omega) e; omega
        omega) (fun i j hin hjn e => hi i j (by omega) (by omega) e), hkn]
    · obtain ⟨k, hk, ek⟩ := inj_surj (n + 1) r hb hi n (by omega)
      have hkn' : k ≠ n := by rintro rfl; exact hkn ek
      have h1 : pd n (fun i => f (r i)) = pd n (fun i => if i = k then f n else f (r i)) := pd_congr fun i hin => by
        by_cases e : i = k
        · subst e; simp [ek]
        · simp [e]
      have h2 : pd n (fun i => if i = k then f (r n) else f (r i)) = pd n f := by
        rw [← ih (fun i => if i = k then r n else r i) (fun i hin => by
            have h1 := hb i (by omega)
            have h3 : r i = n → i = k := fun e => hi i k (by omega) (by omega) (by omega)
            try dsimp only
            split <;> omega)
          (fun i j hin hjn => by
            try dsimp only
            have hin' : r i ≠ r n := fun e => by have := hi i n (by omega) (by omega) e; omega
            have hjn' : r j ≠ r n := fun e => by have := hi j n (by omega) (by omega) e; omega
            intro e
            split at e <;> split at e
            · omega
            · omega
            · omega
            · exact hi i j (by omega) (by omega) e) f]
        refine pd_congr fun i hin => ?_
        by_cases e : i = k <;> simp [e]
      rw [h1, pd_turn (by omega), h2]

/-! ### Fermat -/
theorem Pr.pd_ne {p : Nat} (h : Pr p) {n : Nat} {f : Nat → Int} (hf : ∀ i, i < n → ¬ Cg p (f i) 0) : ¬ Cg p (pd n f) 0 := by
  induction n with
  | zero =>
    intro hc
    have := Cg.zero_iff.1 hc
    simp only [pd] at this
    have h1 : p ∣ 1 := by exact_mod_cast this
    have := Nat.dvd_one.1 h1
    have := h.1
    omega
  | succ n ih =>
    intro hc
    rcases h.cg_mul_zero hc with h2 | h2
    · exact ih (fun i hi => hf i (by omega)) h2
    · exact hf n (by omega) h2
theorem nat_cg_zero {p a : Nat} : Cg p a 0 ↔ p ∣ a := by
  rw [Cg.zero_iff, Int.natCast_dvd_natCast]
theorem fermat {p : Nat} (h : Pr p) {a : Int} (ha : ¬ Cg p a 0) : Cg p (a ^ (p - 1)) 1 := by
  have hp := h.1
  have hpi : (0 : Int) < p := by omega
  -- a (i + 1) mod p, less 1
  let r : Nat → Nat := fun i => ((a * ((i : Int) + 1)) % p).toNat - 1
  have hr : ∀ i, i < p - 1 → ((r i : Int) + 1) = (a * ((i : Int) + 1)) % p := by
    intro i hi
    have h0 : 0 ≤ (a * ((i : Int) + 1)) % p := Int.emod_nonneg _ (by omega)
    have h1 : (a * ((i : Int) + 1)) % p ≠ 0 := by
      intro e
      have : Cg p (a * ((i : Int) + 1)) 0 := Cg.zero_iff.2 (Int.dvd_of_emod_eq_zero e)
      rcases h.cg_mul_zero this with h2 | h2
      · exact ha h2
      · have h3 : Cg p ((i + 1 : Nat) : Int) 0 := by exact_mod_cast h2
        have h4 := Nat.le_of_dvd (by omega) (nat_cg_zero.1 h3)
        omega
    show (((((a * ((i : Int) + 1)) % p).toNat - 1 : Nat) : Int) + 1) = _
    omega
  have hb : ∀ i, i < p - 1 → r i < p - 1 := by
    intro i hi
    have := hr i hi
    have h2 : (a * ((i : Int) + 1)) % p < p := Int.emod_lt_of_pos _ hpi
    omega
  have hj : ∀ i j, i < p - 1 → j < p - 1 → r i = r j → i = j := by
    intro i j hi hj e
    have h1 := hr i hi
    have h2 := hr j hj
    rw [e] at h1
    have h3 : Cg p (a * ((i : Int) + 1)) (a * ((j : Int) + 1)) := Cg.iff_emod.2 (h1.symm.trans h2)
    have h4 := h.cancel ha h3
    have h5 : Cg p ((i + 1 : Nat) : Int) ((j + 1 : Nat) : Int) := by exact_mod_cast h4
    have := Cg.nat_eq h5 (by omega) (by omega)
    omega
  have key : Cg p (pd (p - 1) (fun i => a * ((i : Int) + 1))) (pd (p - 1) (fun i => (i : Int) + 1)) := by
    rw [← pd_inj (p - 1) r hb hj (fun i => (i : Int) + 1)]
    refine pd_cg fun i hi => ?_
    rw [hr i hi]
    exact Cg.symm (Cg.emod _ _)
  rw [pd_mul] at key
  have hne : ¬ Cg p (pd (p - 1) (fun i => (i : Int) + 1)) 0 := h.pd_ne fun i hi hc => by
    have h3 : Cg p ((i + 1 : Nat) : Int) 0 := by exact_mod_cast hc
    have h4 := Nat.le_of_dvd (by omega) (nat_cg_zero.1 h3)
    omega
  refine h.cancel hne ?_
  rw [Int.mul_comm, Int.mul_one]
  exact key

/-! ### Orders -/
/-- The powers of `g` that are 1 modulo `m` are those by multiples of `n`. -/
def Ord (m : Nat) (g : Int) (n : Nat) : Prop := 0 < n ∧ ∀ k, Cg m (g ^ k) 1 ↔ n ∣ k

theorem pow_cg_one {m : Int} {g : Int} {k : Nat} (h : Cg m (g ^ k) 1) (l : Nat) : Cg m (g ^ (k * l)) 1 := by
  rw [Int.pow_mul]
  have := Cg.pow l h
  rwa [Int.one_pow] at this
/-- Where some power is 1, there is an order. -/
theorem exists_ord {m : Nat} {g : Int} {k : Nat} (hk : 0 < k) (h : Cg m (g ^ k) 1) : ∃ n, Ord m g n := by
  have : ∃ n, 0 < n ∧ Cg m (g ^ n) 1 ∧ ∀ j, 0 < j → Cg m (g ^ j) 1 → n ≤ j := by
    induction k using Nat.strongRecOn with
    | _ k ih =>
      by_cases e : ∃ j, 0 < j ∧ j < k ∧ Cg m (g ^ j) 1
      · obtain ⟨j, h1, h2, h3⟩ := e
        exact ih j h2 h1 h3
      · refine ⟨k, hk, h, fun j h1 h2 => ?_⟩
        refine Classical.byContradiction fun hlt => e ⟨j, h1, by omega, h2⟩
  obtain ⟨n, hn, h1, hmin⟩ := this
  refine ⟨n, hn, fun j => ⟨fun hj => ?_, fun ⟨l, hl⟩ => hl ▸ pow_cg_one h1 l⟩⟩
  have h2 : Cg m (g ^ (j % n)) 1 := by
    have e : g ^ j = g ^ (n * (j / n)) * g ^ (j % n) := by rw [← Int.pow_add, Nat.div_add_mod]
    have h3 := Cg.mul_right (g ^ (j % n)) (pow_cg_one h1 (j / n))
    rw [← e, Int.one_mul] at h3
    exact h3.symm.trans hj
  refine Nat.dvd_of_mod_eq_zero (Classical.byContradiction fun hne => ?_)
  have := hmin (j % n) (by omega) h2
  have := Nat.mod_lt j hn
  omega
theorem Ord.pow_eq {m : Nat} {g : Int} {n : Nat} (h : Ord m g n) : Cg m (g ^ n) 1 := (h.2 n).2 (Nat.dvd_refl n)
/-- Exponents count modulo the order. -/
theorem Ord.pow_mod {m : Nat} {g : Int} {n : Nat} (h : Ord m g n) (k : Nat) : Cg m (g ^ (k % n)) (g ^ k) := by
  have e : g ^ k = g ^ (n * (k / n)) * g ^ (k % n) := by rw [← Int.pow_add, Nat.div_add_mod]
  have h3 := Cg.mul_right (g ^ (k % n)) (pow_cg_one h.pow_eq (k / n))
  rw [← e, Int.one_mul] at h3
  exact h3.symm
theorem Ord.unit {m : Nat} {g : Int} {n : Nat} (h : Ord m g n) : Cg m (g * g ^ (n - 1)) 1 := by
  have := h.pow_eq
  have e : g ^ n = g * g ^ (n - 1) := by
    rw [Int.mul_comm, ← Int.pow_succ]
    congr 1
    have := h.1
    omega
  rwa [e] at this
/-- What has an inverse can be struck, whatever the modulus. -/
theorem unit_cancel {m a b c u : Int} (hu : Cg m (a * u) 1) (h : Cg m (a * b) (a * c)) : Cg m b c := by
  obtain ⟨k, hk⟩ := hu
  obtain ⟨l, hl⟩ := h
  exact ⟨u * l - k * (b - c), by grind⟩
theorem unit_pow {m a u : Int} (hu : Cg m (a * u) 1) (n : Nat) : Cg m (a ^ n * u ^ n) 1 := by
  have := Cg.pow n hu
  rwa [Int.mul_pow, Int.one_pow] at this
/-- Powers below the order part. -/
theorem Ord.inj {m : Nat} {g : Int} {n : Nat} (h : Ord m g n) {i j : Nat} (hi : i < n) (hj : j < n) (e : Cg m (g ^ i) (g ^ j)) : i = j := by
  have key : ∀ i j, i ≤ j → j < n → Cg m (g ^ i) (g ^ j) → i = j := by
    intro i j hij hj e
    have h1 : Cg m (g ^ i * 1) (g ^ i * g ^ (j - i)) := by
      rw [Int.mul_one, ← Int.pow_add, show i + (j - i) = j from by omega]
      exact e
    have h2 := unit_cancel (unit_pow h.unit i) h1
    have h3 := (h.2 (j - i)).1 h2.symm
    have := Nat.eq_zero_of_dvd_of_lt h3 (by omega)
    omega
  rcases Nat.le_total i j with hij | hij
  · exact key i j hij hj e
  · exact (key j i hij hi e.symm).symm

/-- The order by Lucas: it is `n`, if the `n`-th power is 1, and none of the `n / q`-th, for the primes `q` that divide `n`. -/
theorem ord_of_lucas {m n : Nat} {g : Int} (hn : 0 < n) (h1 : Cg m (g ^ n) 1) (hq : ∀ q, Pr q → q ∣ n → ¬ Cg m (g ^ (n / q)) 1) : Ord m g n := by
  obtain ⟨o, ho⟩ := exists_ord hn h1
  obtain ⟨c, hc⟩ := (ho.2 n).1 h1
  by_cases e : c = 1
  · subst e
    rw [Nat.mul_one] at hc
    rwa [hc]
  · have hc0 : c ≠ 0 := by rintro rfl; omega
    obtain ⟨q, hpq, d, hd⟩ := exists_prime (n := c) (by omega)
    refine absurd ((ho.2 (n / q)).2 ⟨d, ?_⟩) (hq q hpq ⟨o * d, ?_⟩)
    · refine Nat.div_eq_of_eq_mul_left hpq.pos ?_
      rw [hc, hd]
      grind
    · rw [hc, hd]
      grind

/-- A number whose powers are as many as there are residues but 0: the modulus is a prime, and they are all. -/
theorem Ord.all {p : Nat} {g : Int} (hp : 2 ≤ p) (h : Ord p g (p - 1)) (a : Nat) (h0 : 0 < a) (ha : a < p) : ∃ i, i < p - 1 ∧ Cg p (g ^ i) a := by
  have hpi : (0 : Int) < p := by omega
  let r : Nat → Nat := fun i => ((g ^ i) % p).toNat - 1
  have hr : ∀ i, ((r i : Int) + 1) = (g ^ i) % p := by
    intro i
    have h0 : 0 ≤ (g ^ i) % p := Int.emod_nonneg _ (by omega)
    have h1 : (g ^ i) % p ≠ 0 := by
      intro e
      have h2 : Cg p (g ^ i) 0 := Cg.zero_iff.2 (Int.dvd_of_emod_eq_zero e)
      have h3 := (unit_pow h.unit i)
      have h4 := (Cg.mul_right ((g ^ (p - 1 - 1)) ^ i) h2).symm.trans h3
      rw [Int.zero_mul] at h4
      have h5 := Cg.zero_iff.1 h4.symm
      have h6 : p ∣ 1 := by exact_mod_cast h5
      have := Nat.dvd_one.1 h6
      omega
    show (((((g ^ i) % p).toNat - 1 : Nat) : Int) + 1) = _
    omega
  obtain ⟨i, hi, e⟩ := inj_surj (p - 1) r
    (fun i hi => by
      have := hr i
      have h2 : (g ^ i) % p < p := Int.emod_lt_of_pos _ hpi
      omega)
    (fun i j hi hj e => by
      have h1 := hr i
      have h2 := hr j
      rw [e] at h1
      exact h.inj hi hj (Cg.iff_emod.2 (h1.symm.trans h2)))
    (a - 1) (by omega)
  refine ⟨i, hi, ?_⟩
  have h1 := hr i
  rw [e] at h1
  have h2 : (a : Int) = g ^ i % p := by rw [← h1]; omega
  rw [h2]
  exact (Cg.emod _ _).symm
theorem pr_of_ord {p : Nat} {g : Int} (hp : 2 ≤ p) (h : Ord p g (p - 1)) : Pr p := by
  refine ⟨hp, fun d hd => ?_⟩
  have hd0 : 0 < d := Nat.pos_of_dvd_of_pos hd (by omega)
  have hle : d ≤ p := Nat.le_of_dvd (by omega) hd
  by_cases e : d = p
  · exact .inr e
  · refine .inl ?_
    obtain ⟨i, hi, hc⟩ := h.all hp d hd0 (by omega)
    have h1 := unit_pow h.unit i
    have h2 : Cg d ((d : Int) * (g ^ (p - 1 - 1)) ^ i) 1 :=
      ((Cg.mul_right _ hc).symm.trans h1).of_dvd (Int.natCast_dvd_natCast.2 hd)
    obtain ⟨k, hk⟩ := h2
    have h3 : (d : Int) ∣ 1 := ⟨(g ^ (p - 1 - 1)) ^ i - k, by grind⟩
    have h4 : d ∣ 1 := by exact_mod_cast h3
    exact Nat.dvd_one.1 h4
/-- A root's order: the power of exponent `(p - 1) / n`. -/
theorem Ord.root {p : Nat} {g : Int} {N n : Nat} (h : Ord p g N) (hd : n ∣ N) : Ord p (g ^ (N / n)) n := by
  obtain ⟨c, rfl⟩ := hd
  have hn := h.1
  have hn0 : 0 < n := Nat.pos_of_ne_zero (by rintro rfl; simp at hn)
  have hc0 : 0 < c := Nat.pos_of_ne_zero (by rintro rfl; simp at hn)
  rw [Nat.mul_div_cancel_left _ hn0]
  refine ⟨hn0, fun k => ?_⟩
  rw [← Int.pow_mul, h.2, Nat.mul_comm n c]
  exact ⟨fun h => Nat.dvd_of_mul_dvd_mul_left hc0 h, fun h => Nat.mul_dvd_mul_left c h⟩

/-! ### There are generators -/
/-- A polynomial's value, the lowest coefficient first. -/
def ev : List Int → Int → Int
  | [], _ => 0
  | c :: cs, x => c + x * ev cs x
/-- Divided by `x - a`. -/
theorem ev_div (a : Int) : ∀ (cs : List Int) (c : Int), ∃ ds : List Int, ds.length = cs.length ∧ (∀ x, ev (c :: cs) x = ev (c :: cs) a + (x - a) * ev ds x) ∧ ds.getLast? = cs.getLast? := by
  intro cs
  induction cs with
  | nil => intro c; exact ⟨[], rfl, fun x => by simp [ev], rfl⟩
  | cons c' cs ih =>
    intro c
    obtain ⟨ds, hl, hx, hlast⟩ := ih c'
    refine ⟨ev (c' :: cs) a :: ds, by simp [hl], fun x => ?_, ?_⟩
    · have h1 := hx x
      simp only [ev] at h1 ⊢
      grind
    · cases ds with
      | nil =>
        cases cs with
        | nil => simp [ev]
        | cons => simp at hl
      | cons d ds =>
        cases cs with
        | nil => simp at hl
        | cons e es => simpa [List.getLast?_cons_cons] using hlast
/-- A polynomial whose highest coefficient is 1 has no more roots than its degree. -/
theorem poly_roots {p : Nat} (h : Pr p) : ∀ (n : Nat) (cs : List Int), cs.length = n → cs.getLast? = some 1 → ∀ rs : List Int, (∀ r ∈ rs, Cg p (ev cs r) 0) → rs.Pairwise (fun a b => ¬ Cg p a b) → rs.length < n := by
  intro n
  induction n with
  | zero =>
    intro cs hl hlast
    have := List.eq_nil_of_length_eq_zero hl
    subst this
    simp at hlast
  | succ n ih =>
    intro cs hl hlast rs hrs hp
    cases rs with
    | nil => simp
    | cons a rs =>
      cases cs with
      | nil => simp at hl
      | cons c cs =>
        obtain ⟨ds, hdl, hx, hdlast⟩ := ev_div a cs c
        cases cs with
        | nil =>
          simp at hlast
          subst hlast
          have := hrs a (by simp)
          simp [ev] at this
          have h5 := Cg.zero_iff.1 this
          have h6 : p ∣ 1 := by exact_mod_cast h5
          have := Nat.dvd_one.1 h6
          have := h.1
          omega
        | cons c' cs =>
          rw [List.pairwise_cons] at hp
          have := ih ds (by rw [hdl]; simpa using hl) (by rw [hdlast]; simpa [List.getLast?_cons_cons] using hlast) rs (fun r hr => by
            have h1 := hrs r (by simp [hr])
            have h2 := hrs a (by simp)
            rw [hx r] at h1
            have h3 : Cg p ((r - a) * ev ds r) 0 := by
              obtain ⟨k, hk⟩ := h1
              obtain ⟨l, hl⟩ := h2
              exact ⟨k - l, by grind⟩
            rcases h.cg_mul_zero h3 with h4 | h4
            · exact absurd (Cg.sub_zero_iff.1 h4).symm (hp.1 r hr)
            · exact h4) hp.2
          simp only [List.length_cons]
          omega
theorem ev_zeros (n : Nat) (x : Int) : ev (List.replicate n 0 ++ [1]) x = x ^ n := by
  induction n with
  | zero => simp [ev]
  | succ n ih => simp only [List.replicate_succ, List.cons_append, ev, ih, Int.pow_succ]; grind
/-- For an exponent below `p - 1` not all powers are 1. -/
theorem exists_not_one {p : Nat} (h : Pr p) {n : Nat} (h0 : 0 < n) (hn : n < p - 1) : ∃ a : Nat, 0 < a ∧ a < p ∧ ¬ Cg p ((a : Int) ^ n) 1 := by
  refine Classical.byContradiction fun hno => ?_
  have hall : ∀ a : Nat, 0 < a → a < p → Cg p ((a : Int) ^ n) 1 := fun a h1 h2 => Classical.byContradiction fun hc => hno ⟨a, h1, h2, hc⟩
  obtain ⟨m, rfl⟩ : ∃ m, n = m + 1 := ⟨n - 1, by omega⟩
  have := poly_roots h (m + 2) (-1 :: (List.replicate m 0 ++ [1])) (by simp) (by
      rw [show (-1 :: (List.replicate m 0 ++ [1]) : List Int) = (-1 :: List.replicate m 0) ++ [1] from rfl, List.getLast?_append]; simp) ((List.range (p - 1)).map fun i => ((i + 1 : Nat) : Int))
    (fun r hr => by
      obtain ⟨i, hi, rfl⟩ := List.mem_map.1 hr
      have := hall (i + 1) (by omega) (by have := List.mem_range.1 hi; omega)
      simp only [ev, ev_zeros]
      obtain ⟨k, hk⟩ := this
      exact ⟨k, by rw [Int.pow_succ] at hk; grind⟩)
    (by
      rw [List.pairwise_map]
      refine List.Pairwise.imp_of_mem (R := fun a b => a < b) (fun {a b} ha hb hlt hc => ?_) List.pairwise_lt_range
      have h1 := List.mem_range.1 ha
      have h2 := List.mem_range.1 hb
      have := Cg.nat_eq hc (by omega) (by omega)
      omega)
  simp at this
  omega
theorem Ord.mul {m : Nat} {a b : Int} {x y : Nat} (ha : Ord m a x) (hb : Ord m b y) (hc : Nat.gcd x y = 1) : Ord m (a * b) (x * y) := by
  refine ⟨Nat.mul_pos ha.1 hb.1, fun k => ⟨fun h => ?_, fun ⟨l, hl⟩ => ?_⟩⟩
  · have h1 : x ∣ k := by
      have h2 : Cg m ((a * b) ^ (k * y)) 1 := pow_cg_one h y
      rw [Int.mul_pow] at h2
      have h3 : Cg m (b ^ (k * y)) 1 := (hb.2 _).2 (Nat.dvd_mul_left y k)
      have h4 : Cg m (a ^ (k * y)) 1 := by
        have := Cg.mul_left (a ^ (k * y)) h3
        rw [Int.mul_one] at this
        exact this.symm.trans h2
      exact Nat.Coprime.dvd_of_dvd_mul_right hc ((ha.2 _).1 h4)
    have h2 : y ∣ k := by
      have h2 : Cg m ((a * b) ^ (k * x)) 1 := pow_cg_one h x
      rw [Int.mul_pow] at h2
      have h3 : Cg m (a ^ (k * x)) 1 := (ha.2 _).2 (Nat.dvd_mul_left x k)
      have h4 : Cg m (b ^ (k * x)) 1 := by
        have := Cg.mul_right (b ^ (k * x)) h3
        rw [Int.one_mul] at this
        exact this.symm.trans h2
      exact Nat.Coprime.dvd_of_dvd_mul_right (by rwa [Nat.coprime_comm]) ((hb.2 _).1 h4)
    exact Nat.Coprime.mul_dvd_of_dvd_of_dvd hc h1 h2
  · subst hl
    rw [Int.mul_pow]
    have h1 : Cg m (a ^ (x * y * l)) 1 := (ha.2 _).2 ⟨y * l, by grind⟩
    have h2 : Cg m (b ^ (x * y * l)) 1 := (hb.2 _).2 ⟨x * l, by grind⟩
    have := Cg.mul h1 h2
    rwa [Int.one_mul] at this
/-- A number is a prime's power, times what it doesn't divide. -/
theorem split_prime {q n : Nat} (hq : Pr q) (hn : 0 < n) : ∃ e c, n = q ^ e * c ∧ ¬ q ∣ c := by
  induction n using Nat.strongRecOn with
  | _ n ih =>
    by_cases hd : q ∣ n
    · obtain ⟨m, rfl⟩ := hd
      have hm : 0 < m := Nat.pos_of_ne_zero (by rintro rfl; simp at hn)
      have hq2 := hq.1
      have hlt : m < q * m := (Nat.lt_mul_iff_one_lt_left hm).2 (by omega)
      obtain ⟨e, c, h1, h2⟩ := ih m hlt hm
      exact ⟨e + 1, c, by rw [Nat.pow_succ]; grind, h2⟩
    · exact ⟨0, n, by simp, hd⟩
theorem exists_ord_pow {p q e : Nat} (h : Pr p) (hq : Pr q) (hd : q ^ (e + 1) ∣ p - 1) : ∃ b : Int, Ord p b (q ^ (e + 1)) := by
  have hp := h.1
  have hq2 := hq.1
  obtain ⟨c, hc⟩ := hd
  have hc0 : 0 < c := Nat.pos_of_ne_zero (by rintro rfl; simp at hc; omega)
  have hqe : 0 < q ^ e := Nat.pow_pos (by omega)
  have hlt : q ^ e * c < p - 1 := by
    rw [hc, Nat.pow_succ]
    have h1 : 0 < q ^ e * c := Nat.mul_pos hqe hc0
    have h2 : q ^ e * q * c = q * (q ^ e * c) := by grind
    rw [h2]
    exact (Nat.lt_mul_iff_one_lt_left h1).2 (by omega)
  obtain ⟨a, ha0, hap, hne⟩ := exists_not_one h (Nat.mul_pos hqe hc0) hlt
  refine ⟨(a : Int) ^ c, ?_⟩
  have ha : ¬ Cg p (a : Int) 0 := fun hz => by
    have := Nat.le_of_dvd ha0 (nat_cg_zero.1 hz)
    omega
  refine ord_of_lucas (Nat.pow_pos (by omega)) ?_ fun q' hq' hd' => ?_
  · rw [← Int.pow_mul, show c * q ^ (e + 1) = p - 1 from by rw [hc]; grind]
    exact fermat h ha
  · have : q' = q := hq'.eq_of_dvd hq (hq'.dvd_pow hd')
    subst this
    rw [Nat.pow_succ, Nat.mul_div_cancel _ (by omega), ← Int.pow_mul, Nat.mul_comm c]
    exact hne
theorem exists_ord_dvd {p : Nat} (h : Pr p) : ∀ d, 0 < d → d ∣ p - 1 → ∃ g : Int, Ord p g d := by
  intro d
  induction d using Nat.strongRecOn with
  | _ d ih =>
    intro h0 hd
    by_cases h1 : d = 1
    · subst h1
      exact ⟨1, by omega, fun k => by simp [Int.one_pow, Cg.refl]⟩
    · obtain ⟨q, hq, hqd⟩ := exists_prime (n := d) (by omega)
      obtain ⟨e, c, hc, hnc⟩ := split_prime hq h0
      have he : e ≠ 0 := by
        rintro rfl
        rw [Nat.pow_zero, Nat.one_mul] at hc
        exact hnc (hc ▸ hqd)
      obtain ⟨f, rfl⟩ : ∃ f, e = f + 1 := ⟨e - 1, by omega⟩
      have hq2 := hq.1
      have hc0 : 0 < c := Nat.pos_of_ne_zero (by rintro rfl; simp at hc; omega)
      have hqf : 2 ≤ q ^ (f + 1) := by
        rw [Nat.pow_succ]
        have : 0 < q ^ f := Nat.pow_pos (by omega)
        exact Nat.le_trans (by omega) (Nat.le_mul_of_pos_left q this)
      have hlt : c < d := by rw [hc]; exact (Nat.lt_mul_iff_one_lt_left hc0).2 (by omega)
      obtain ⟨x, hx⟩ := exists_ord_pow h hq (e := f) (Nat.dvd_trans ⟨c, hc⟩ hd)
      obtain ⟨y, hy⟩ := ih c hlt hc0 (Nat.dvd_trans ⟨q ^ (f + 1), by rw [hc, Nat.mul_comm]⟩ hd)
      refine ⟨x * y, hc ▸ hx.mul hy ?_⟩
      exact Nat.Coprime.pow_left (f + 1) (hq.coprime hnc)
theorem Ord.congr {m : Nat} {a b : Int} {n : Nat} (h : Ord m a n) (e : Cg m a b) : Ord m b n :=
  ⟨h.1, fun k => (⟨fun h1 => (Cg.pow k e).trans h1, fun h1 => (Cg.pow k e).symm.trans h1⟩ : _ ↔ _).trans (h.2 k)⟩
/-- Every prime has a generator. -/
theorem exists_generator {p : Nat} (h : Pr p) : ∃ g : Nat, 0 < g ∧ g < p ∧ Ord p g (p - 1) := by
  have hp := h.1
  obtain ⟨x, hx⟩ := exists_ord_dvd h (p - 1) (by omega) (Nat.dvd_refl _)
  have h0 : 0 ≤ x % p := Int.emod_nonneg _ (by omega)
  have h1 : x % p < p := Int.emod_lt_of_pos _ (by omega)
  obtain ⟨g, hg⟩ := Int.eq_ofNat_of_zero_le h0
  have hgx : Cg p (g : Int) x := by rw [← hg]; exact Cg.emod _ _
  refine ⟨g, ?_, by omega, hx.congr hgx.symm⟩
  refine Nat.pos_of_ne_zero ?_
  rintro rfl
  have h2 := (Cg.pow (p - 1) hgx).trans hx.pow_eq
  rw [show ((0 : Nat) : Int) ^ (p - 1) = 0 from by rw [show p - 1 = (p - 2) + 1 from by omega, Int.pow_succ]; simp] at h2
  have h5 := Cg.zero_iff.1 h2.symm
  have h6 : p ∣ 1 := by exact_mod_cast h5
  have := Nat.dvd_one.1 h6
  omega
end Epi
