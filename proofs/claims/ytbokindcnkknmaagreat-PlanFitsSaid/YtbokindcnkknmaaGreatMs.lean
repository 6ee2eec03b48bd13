/- Trial division, in plain words. -/
import Derived.Test.YtbokindcnkknmaaGreatMr
set_option linter.unusedVariables false
namespace Epi
/-- F are the prime powers of n, rising. -/
def FacR (n : Nat) (F : List Pwr) : Prop := (∀ x ∈ F, Pr x.q ∧ 1 ≤ x.e) ∧ (∀ i, (hi : i + 1 < F.length) → F[i].q < F[i + 1].q) ∧ prodF F = n
/-- Of n, the primes below d are told in F; m is left. -/
def FaTo (n d m : Nat) (F : List Pwr) : Prop := (∀ x ∈ F, Pr x.q ∧ 1 ≤ x.e ∧ x.q < d) ∧ (∀ i, (hi : i + 1 < F.length) → F[i].q < F[i + 1].q) ∧ prodF F * m = n ∧ (∀ q, Pr q → q ∣ m → d ≤ q) ∧ 1 ≤ m ∧ 2 ≤ d
theorem FaTo.zero {n : Nat} (h : 2 ≤ n) : FaTo n 2 n [] := ⟨fun x hx => (nomatch hx), fun i hi => absurd hi (by simp), by simp [prodF], fun q hq _ => hq.1, by omega, Nat.le_refl _⟩
theorem FaTo.done {n d m : Nat} {F : List Pwr} (h : FaTo n d m F) (hm : ¬ 1 < m) : FacR n F := by
  have e : m = 1 := by have := h.2.2.2.2.1; omega
  subst e
  exact ⟨fun x hx => ⟨(h.1 x hx).1, (h.1 x hx).2.1⟩, h.2.1, by have := h.2.2.1; omega⟩
theorem FaTo.le {n d m : Nat} {F : List Pwr} (h : FaTo n d m F) : m ≤ n := by
  have h1 := h.2.2.1
  have h2 : 0 < prodF F := prodF_pos fun x hx => (h.1 x hx).1.pos
  rw [← h1]
  exact Nat.le_mul_of_pos_left _ h2
/-- Where d * d is more than what is left, that is a prime. -/
theorem FaTo.prime {n d m : Nat} {F : List Pwr} (h : FaTo n d m F) (hm : 1 < m) (hd : m < d * d) : Pr m := by
  obtain ⟨q, hq, c, hc⟩ := exists_prime (n := m) (by omega)
  have h1 := h.2.2.2.1 q hq ⟨c, hc⟩
  by_cases hc1 : c = 1
  · subst hc1
    rw [Nat.mul_one] at hc
    rw [hc]
    exact hq
  · have hc2 : 2 ≤ c := by
      rcases Nat.eq_zero_or_pos c with h0 | h0
      · subst h0
        omega
      · omega
    obtain ⟨r, hr, hrc⟩ := exists_prime hc2
    have h2 := h.2.2.2.1 r hr (Nat.dvd_trans hrc ⟨q, by rw [hc, Nat.mul_comm]⟩)
    have h3 : r ≤ c := Nat.le_of_dvd (by omega) hrc
    have h4 : d * d ≤ q * c := Nat.mul_le_mul h1 (Nat.le_trans h2 h3)
    omega
theorem FaTo.up {n d m d' : Nat} {F : List Pwr} (h : FaTo n d m F) (hm : 1 < m) (hd : d' = if m < d * d then m else d) : FaTo n d' m F ∧ d ≤ d' := by
  by_cases hc : m < d * d
  · rw [if_pos hc] at hd
    subst hd
    have hp := h.prime hm hc
    have hle := h.2.2.2.1 d' hp (Nat.dvd_refl _)
    exact ⟨⟨fun x hx => ⟨(h.1 x hx).1, (h.1 x hx).2.1, Nat.lt_of_lt_of_le (h.1 x hx).2.2 hle⟩, h.2.1, h.2.2.1, fun q hq hqm => by
      rcases hp.2 q hqm with e | e
      · have := hq.1; omega
      · omega, h.2.2.2.2.1, by omega⟩, hle⟩
  · rw [if_neg hc] at hd
    subst hd
    exact ⟨h, Nat.le_refl _⟩
/-- What is divided out of what is left. -/
theorem FaTo.skip {n d m : Nat} {F : List Pwr} (h : FaTo n d m F) (hd : ¬ d ∣ m) : FaTo n (d + 1) m F :=
  ⟨fun x hx => ⟨(h.1 x hx).1, (h.1 x hx).2.1, by have := (h.1 x hx).2.2; omega⟩, h.2.1, h.2.2.1, fun q hq hqm => by
    have h1 := h.2.2.2.1 q hq hqm
    have h2 : q ≠ d := fun e => hd (e ▸ hqm)
    omega, h.2.2.2.2.1, by have := h.2.2.2.2.2; omega⟩
theorem FaTo.add {n d m r e : Nat} {F : List Pwr} (h : FaTo n d m F) (he : 0 < e) (hm : m = d ^ e * r) (hr : ¬ d ∣ r) : FaTo n (d + 1) r (F ++ [⟨d, e⟩]) ∧ Pr d := by
  have hdm : d ∣ m := by
    obtain ⟨k, rfl⟩ : ∃ k, e = k + 1 := ⟨e - 1, by omega⟩
    rw [hm, Nat.pow_succ, Nat.mul_comm (d ^ k), Nat.mul_assoc]
    exact Nat.dvd_mul_right _ _
  have hp : Pr d := by
    obtain ⟨q, hq, hqd⟩ := exists_prime h.2.2.2.2.2
    have h1 := h.2.2.2.1 q hq (Nat.dvd_trans hqd hdm)
    have h2 := Nat.le_of_dvd (by have := h.2.2.2.2.2; omega) hqd
    have e : q = d := by omega
    exact e ▸ hq
  have hm1 := h.2.2.2.2.1
  refine ⟨⟨fun x hx => ?_, fun i hi => ?_, ?_, fun q hq hqr => ?_, ?_, by have := hp.1; omega⟩, hp⟩
  · rcases List.mem_append.mp hx with hx | hx
    · exact ⟨(h.1 x hx).1, (h.1 x hx).2.1, by have := (h.1 x hx).2.2; omega⟩
    · obtain rfl := List.mem_singleton.mp hx
      exact ⟨hp, by show (1 : Int) ≤ (e : Int); omega, by show d < d + 1; omega⟩
  · have hl : (F ++ [(⟨d, (e : Int)⟩ : Pwr)]).length = F.length + 1 := by simp
    by_cases hi' : i + 1 < F.length
    · rw [List.getElem_append_left (by omega), List.getElem_append_left hi']
      exact h.2.1 i hi'
    · have hi2 : i + 1 = F.length := by omega
      rw [List.getElem_append_left (by omega), List.getElem_append_right (by omega)]
      simp only [hi2, Nat.sub_self, List.getElem_cons_zero]
      exact (h.1 _ (List.getElem_mem (by omega))).2.2
  · rw [prodF_snoc, Int.toNat_natCast, Nat.mul_assoc, ← hm]
    exact h.2.2.1
  · have h1 := h.2.2.2.1 q hq (by rw [hm]; exact Nat.dvd_trans hqr (Nat.dvd_mul_left _ _))
    have h2 : q ≠ d := fun e => hr (e ▸ hqr)
    omega
  · rcases Nat.eq_zero_or_pos r with h0 | h0
    · subst h0
      rw [Nat.mul_zero] at hm
      omega
    · exact h0
theorem FacR.dvd {n q : Nat} {F : List Pwr} (h : FacR n F) (hq : Pr q) : q ∣ n ↔ ∃ x ∈ F, x.q = q := by
  constructor
  · intro hd
    exact dvd_prodF hq (fun x hx => (h.1 x hx).1) (h.2.2.symm ▸ hd)
  · rintro ⟨x, hx, rfl⟩
    rw [← h.2.2]
    obtain ⟨A, B, rfl⟩ := List.append_of_mem hx
    rw [prodF_append]
    have he := (h.1 x hx).2
    refine Nat.dvd_trans ?_ (Nat.dvd_mul_left _ _)
    show x.q ∣ x.q ^ x.e.toNat * prodF B
    refine Nat.dvd_trans ?_ (Nat.dvd_mul_right _ _)
    obtain ⟨k, hk⟩ : ∃ k, x.e.toNat = k + 1 := ⟨x.e.toNat - 1, by omega⟩
    rw [hk, Nat.pow_succ]
    exact Nat.dvd_mul_left _ _
/-- A number is a prime if it has one factor, once. -/
theorem FacR.prime {n : Nat} {F : List Pwr} (h : FacR n F) (hn : 2 ≤ n) : Pr n ↔ ∃ h : F.length = 1, F[0].e = 1 := by
  constructor
  · intro hp
    have hq : ∀ x ∈ F, x.q = n := fun x hx => by
      have h1 := (h.1 x hx).1
      rcases hp.2 x.q ((h.dvd h1).mpr ⟨x, hx, rfl⟩) with e | e
      · have := h1.1; omega
      · exact e
    have hl : F.length = 1 := by
      rcases Nat.lt_trichotomy F.length 1 with h0 | h0 | h0
      · obtain rfl := List.eq_nil_of_length_eq_zero (show F.length = 0 by omega)
        have := h.2.2
        simp [prodF] at this
        omega
      · exact h0
      · have h1 := h.2.1 0 (by omega)
        rw [hq _ (List.getElem_mem (by omega)), hq _ (List.getElem_mem (by omega))] at h1
        omega
    refine ⟨hl, ?_⟩
    obtain ⟨x, rfl⟩ := List.length_eq_one_iff.mp hl
    have h1 := h.2.2
    have h2 := hq x (by simp)
    have h3 := (h.1 x (by simp)).2
    simp only [prodF, Nat.mul_one, h2] at h1
    show x.e = 1
    have h4 : n ^ x.e.toNat = n ^ 1 := by rw [h1, Nat.pow_one]
    have h5 := (Nat.pow_right_inj (show 1 < n by omega)).mp h4
    omega
  · rintro ⟨hl, he⟩
    obtain ⟨x, rfl⟩ := List.length_eq_one_iff.mp hl
    have h1 := h.2.2
    have he' : x.e = 1 := he
    simp only [prodF, he', Nat.mul_one] at h1
    have h2 : x.q ^ (1 : Int).toNat = x.q := Nat.pow_one _
    rw [h2] at h1
    rw [← h1]
    exact (h.1 x (by simp)).1
end Epi
