/- Plain arithmetic: rows of entries that prove primes. No program in sight. -/
import Derived.Test.YtbokindcnkknmaaGreatMm
import Derived.Test.YtbokindcnkknmaaGreatMb
set_option linter.unusedVariables false
namespace Epi

/-- A prime, and how often it is a factor. -/
structure Pwr where
  q : Nat
  e : Int
/-- An entry of a row. -/
structure Ent where
  P : Nat
  G : Nat
  F : List Pwr
def fpow (m a e : Nat) : Nat := a ^ e % m
/-- Is q the P of an entry? -/
def hasP (L : List Ent) (q : Nat) : Bool := L.any fun x => x.P == q
theorem hasP_nil (q : Nat) : hasP [] q = false := rfl
theorem hasP_true {L : List Ent} {q i : Nat} (hi : i < L.length) (h : L[i].P = q) : hasP L q = true := by
  unfold hasP
  rw [List.any_eq_true]
  exact ⟨L[i], List.getElem_mem hi, by simp [h]⟩
theorem hasP_false {L : List Ent} {q : Nat} (h : ∀ j, (hj : j < L.length) → L[j].P ≠ q) : hasP L q = false := by
  unfold hasP
  rw [List.any_eq_false]
  intro x hx
  obtain ⟨j, hj, rfl⟩ := List.getElem_of_mem hx
  simp [h j hj]
theorem hasP_mem {L : List Ent} {q : Nat} (h : hasP L q = true) : ∃ x ∈ L, x.P = q := by
  unfold hasP at h
  rw [List.any_eq_true] at h
  obtain ⟨x, hx, h⟩ := h
  exact ⟨x, hx, by simpa using h⟩
/-- None of the first i is q. -/
def NoP (L : List Ent) (q i : Nat) : Prop := ∀ j, (hj : j < L.length) → j < i → L[j].P ≠ q

/-- All powers multiplied. -/
def prodF : List Pwr → Nat
  | [] => 1
  | x :: F => x.q ^ x.e.toNat * prodF F
theorem prodF_append (F G : List Pwr) : prodF (F ++ G) = prodF F * prodF G := by
  induction F with
  | nil => simp [prodF]
  | cons x F ih => simp only [List.cons_append, prodF, ih]; grind
theorem prodF_snoc (F : List Pwr) (x : Pwr) : prodF (F ++ [x]) = prodF F * x.q ^ x.e.toNat := by
  rw [prodF_append]
  simp [prodF]
theorem prodF_pos {F : List Pwr} (h : ∀ x ∈ F, 0 < x.q) : 0 < prodF F := by
  induction F with
  | nil => exact Nat.one_pos
  | cons x F ih => exact Nat.mul_pos (Nat.pow_pos (h x (by simp))) (ih fun y hy => h y (by simp [hy]))
theorem prodF_take_le {F : List Pwr} (h : ∀ x ∈ F, 0 < x.q) (k : Nat) : prodF (F.take k) ≤ prodF F := by
  have e : prodF F = prodF (F.take k) * prodF (F.drop k) := by rw [← prodF_append, List.take_append_drop]
  rw [e]
  exact Nat.le_mul_of_pos_right _ (prodF_pos fun x hx => h x (List.mem_of_mem_drop hx))
theorem prodF_take_succ {F : List Pwr} {k : Nat} (hk : k < F.length) : prodF (F.take (k + 1)) = prodF (F.take k) * F[k].q ^ F[k].e.toNat := by
  rw [List.take_succ_eq_append_getElem hk, prodF_snoc]

/-- The k-th factor can be. -/
def facAt (ahead : List Ent) (F : List Pwr) (k : Nat) (hk : k < F.length) : Prop :=
  1 ≤ F[k].e ∧ F[k].e ≤ 62 ∧ ∀ j, (hj : j < F.length) → j + 1 = k → F[j].q < F[k].q ∧ hasP ahead F[k].q = true
/-- The factors can be, and are all of n. -/
def facOK (ahead : List Ent) (n : Nat) (F : List Pwr) : Prop :=
  F.length ≤ 16 ∧ (∃ h : 0 < F.length, F[0].q = 2) ∧ (∀ k, (hk : k < F.length) → facAt ahead F k hk) ∧ prodF F = n
/-- The number's powers are all. -/
def powOK (x : Ent) : Prop := fpow x.P x.G (x.P - 1) = 1 ∧ ∀ y ∈ x.F, fpow x.P x.G ((x.P - 1) / y.q) ≠ 1
/-- The P of the entry right ahead is less. -/
def lastLt (ahead : List Ent) (P : Nat) : Prop := ∀ y, ahead.getLast? = some y → y.P < P
/-- An entry is right, behind those ahead of it. -/
def entOK (ahead : List Ent) (x : Ent) : Prop :=
  x.P % 2 = 1 ∧ 3 ≤ x.P ∧ x.P < 9223372036854775808 ∧ 2 ≤ x.G ∧ x.G < x.P ∧ lastLt ahead x.P ∧ facOK ahead (x.P - 1) x.F ∧ powOK x
/-- The first i entries are right. -/
def rowOK (L : List Ent) (i : Nat) : Prop := ∀ j, (hj : j < L.length) → j < i → entOK (L.take j) L[j]

/-- The factors rise from 2 on. -/
theorem facOK.two_le {ahead : List Ent} {n : Nat} {F : List Pwr} (h : facOK ahead n F) : ∀ x ∈ F, 2 ≤ x.q := by
  obtain ⟨-, ⟨h0, h2⟩, h3, -⟩ := h
  have key : ∀ k, (hk : k < F.length) → 2 ≤ F[k].q := by
    intro k
    induction k with
    | zero => intro hk; omega
    | succ k ih =>
      intro hk
      have := (h3 (k + 1) hk).2.2 k (by omega) rfl
      have := ih (by omega)
      omega
  intro x hx
  obtain ⟨k, hk, rfl⟩ := List.getElem_of_mem hx
  exact key k hk
theorem two_le_of_steps {ahead : List Ent} {F : List Pwr} {i : Nat} (h0 : ∃ h : 0 < F.length, F[0].q = 2) (h : ∀ k, (hk : k < F.length) → k < i → facAt ahead F k hk) : ∀ k, (hk : k < F.length) → k < i → 2 ≤ F[k].q := by
  obtain ⟨h0, h2⟩ := h0
  intro k
  induction k with
  | zero => intro hk _; omega
  | succ k ih =>
    intro hk hi
    have := (h (k + 1) hk hi).2.2 k (by omega) rfl
    have := ih (by omega) (by omega)
    omega

/-- A prime that divides the product is one of the factors, if these are primes. -/
theorem dvd_prodF {F : List Pwr} {q : Nat} (hq : Pr q) (hF : ∀ x ∈ F, Pr x.q) (h : q ∣ prodF F) : ∃ x ∈ F, x.q = q := by
  induction F with
  | nil =>
    have := Nat.dvd_one.1 h
    have := hq.1
    omega
  | cons x F ih =>
    rcases hq.dvd_mul h with h1 | h1
    · exact ⟨x, by simp, (hq.eq_of_dvd (hF x (by simp)) (hq.dvd_pow h1)).symm⟩
    · obtain ⟨y, hy, e⟩ := ih (fun y hy => hF y (by simp [hy])) h1
      exact ⟨y, by simp [hy], e⟩
theorem pr_two : Pr 2 := ⟨Nat.le_refl _, fun d hd => by
  have := Nat.le_of_dvd (by omega) hd
  have : d ≠ 0 := by rintro rfl; simp at hd
  omega⟩
theorem fpow_cg (m a e : Nat) : Cg m (fpow m a e : Nat) ((a : Int) ^ e) := by
  have := Cg.nat_mod (a ^ e) m
  rwa [Int.natCast_pow] at this
theorem fpow_one_iff {m a e : Nat} (hm : 1 < m) : fpow m a e = 1 ↔ Cg m ((a : Int) ^ e) 1 := by
  constructor
  · intro h
    have := fpow_cg m a e
    rw [h] at this
    exact this.symm
  · intro h
    exact Cg.nat_eq ((fpow_cg m a e).trans h) (Nat.mod_lt _ (by omega)) hm
/-- An entry that is right, whose factors are primes: its P is a prime, and G's order is P - 1. -/
theorem entOK.prime {ahead : List Ent} {x : Ent} (h : entOK ahead x) (hF : ∀ y ∈ ahead, Pr y.P) : Ord x.P x.G (x.P - 1) ∧ Pr x.P := by
  obtain ⟨h1, h2, h3, h4, h5, h6, h7, h8, h9⟩ := h
  have hpr : ∀ y ∈ x.F, Pr y.q := by
    intro y hy
    obtain ⟨k, hk, rfl⟩ := List.getElem_of_mem hy
    obtain ⟨-, ⟨h0, e0⟩, hs, -⟩ := h7
    cases k with
    | zero => rw [e0]; exact pr_two
    | succ k =>
      obtain ⟨z, hz, e⟩ := hasP_mem ((hs (k + 1) hk).2.2 k (by omega) rfl).2
      rw [← e]
      exact hF z hz
  have ho : Ord x.P x.G (x.P - 1) := by
    refine ord_of_lucas (by omega) ((fpow_one_iff (by omega)).1 h8) fun q hq hd hc => ?_
    obtain ⟨y, hy, rfl⟩ := dvd_prodF hq hpr (by rw [h7.2.2.2]; exact hd)
    exact h9 y hy ((fpow_one_iff (by omega)).2 hc)
  exact ⟨ho, pr_of_ord (by omega) ho⟩
/-- In a row that is right all are primes. -/
theorem rowOK.prime {L : List Ent} {i : Nat} (h : rowOK L i) : ∀ j, (hj : j < L.length) → j < i → Ord L[j].P L[j].G (L[j].P - 1) ∧ Pr L[j].P := by
  intro j
  induction j using Nat.strongRecOn with
  | _ j ih =>
    intro hj hi
    refine (h j hj hi).prime fun y hy => ?_
    obtain ⟨k, hk, rfl⟩ := List.getElem_of_mem hy
    have hk' : k < j := by simp at hk; omega
    rw [List.getElem_take]
    exact (ih k hk' (by omega) (by omega)).2

/-- A truth as a Bool. -/
noncomputable def bOf (p : Prop) : Bool := open Classical in decide p
theorem bOf_true {p : Prop} (h : p) : bOf p = true := by
  unfold bOf
  simp [h]
theorem bOf_false {p : Prop} (h : ¬ p) : bOf p = false := by
  unfold bOf
  simp [h]
theorem bOf_iff {p : Prop} : bOf p = true ↔ p := by
  unfold bOf
  simp
theorem bOf_congr {p q : Prop} (h : p ↔ q) : bOf p = bOf q := by rw [propext h]
end Epi
