/- Plain arithmetic: the row of a small prime is right. No program in sight. -/
import Derived.Test.YtbokindcnkknmaaGreatMs
import Derived.Test.YtbokindcnkknmaaGreatMg
set_option linter.unusedVariables false
namespace Epi
theorem two_pow_len {F : List Pwr} (h : ∀ x ∈ F, 2 ≤ x.q ∧ 1 ≤ x.e) : 2 ^ F.length ≤ prodF F := by
  induction F with
  | nil => exact Nat.le_refl _
  | cons x F ih =>
    have h1 := ih fun y hy => h y (List.mem_cons_of_mem _ hy)
    obtain ⟨h2, h3⟩ := h x (List.mem_cons_self ..)
    show 2 ^ (F.length + 1) ≤ x.q ^ x.e.toNat * prodF F
    rw [Nat.pow_succ, Nat.mul_comm]
    refine Nat.mul_le_mul ?_ h1
    calc 2 = 2 ^ 1 := rfl
      _ ≤ x.q ^ 1 := Nat.pow_le_pow_left h2 1
      _ ≤ x.q ^ x.e.toNat := Nat.pow_le_pow_right (by omega) (by omega)
theorem pow_le_prodF {F : List Pwr} (h : ∀ x ∈ F, 0 < x.q) {x : Pwr} (hx : x ∈ F) : x.q ^ x.e.toNat ≤ prodF F := by
  obtain ⟨A, B, rfl⟩ := List.append_of_mem hx
  rw [prodF_append]
  show _ ≤ prodF A * (x.q ^ x.e.toNat * prodF B)
  have h1 : 0 < prodF A := prodF_pos fun y hy => h y (List.mem_append_left _ hy)
  have h2 : 0 < prodF B := prodF_pos fun y hy => h y (List.mem_append_right _ (List.mem_cons_of_mem _ hy))
  calc x.q ^ x.e.toNat = 1 * (x.q ^ x.e.toNat * 1) := by rw [Nat.mul_one, Nat.one_mul]
    _ ≤ prodF A * (x.q ^ x.e.toNat * prodF B) := Nat.mul_le_mul h1 (Nat.mul_le_mul_left _ h2)
/-- An entry whose parts are right. -/
def EntR (S : Nat → Prop) (x : Ent) : Prop := Pr x.P ∧ 3 ≤ x.P ∧ x.P ≤ 65536 ∧ 2 ≤ x.G ∧ x.G < x.P ∧ Ord x.P (x.G : Nat) (x.P - 1) ∧ FacR (x.P - 1) x.F ∧ ∀ r, Pr r → r ∣ x.P - 1 → r ≠ 2 → S r
theorem rising_first {F : List Pwr} (h : ∀ i, (hi : i + 1 < F.length) → F[i].q < F[i + 1].q) : ∀ i, (hi : i < F.length) → F[0].q ≤ F[i].q := by
  intro i
  induction i with
  | zero => intro _; exact Nat.le_refl _
  | succ i ih => intro hi; have := ih (by omega); have := h i hi; omega
theorem EntR.ok {S : Nat → Prop} {ahead : List Ent} {x : Ent} (h : EntR S x) (hl : lastLt ahead x.P) (ha : ∀ r, S r → r < x.P → hasP ahead r = true) : entOK ahead x := by
  obtain ⟨h1, h2, h3, h4, h5, h6, h7, h8⟩ := h
  have hodd := (pr_odd h1 (by omega)).1
  have hF := h7.1
  have h2d : 2 ∣ x.P - 1 := ⟨(x.P - 1) / 2, by omega⟩
  obtain ⟨y, hy, hy2⟩ := (h7.dvd pr_two).mp h2d
  obtain ⟨k, hk, rfl⟩ := List.mem_iff_getElem.mp hy
  have hpos : 0 < x.F.length := by omega
  have h0 : x.F[0].q = 2 := by
    have := rising_first h7.2.1 k hk
    have := (hF _ (List.getElem_mem hpos)).1.1
    omega
  have hlen : 2 ^ x.F.length ≤ prodF x.F := two_pow_len fun z hz => ⟨(hF z hz).1.1, (hF z hz).2⟩
  rw [h7.2.2] at hlen
  have hle : ∀ z ∈ x.F, z.q ^ z.e.toNat ≤ x.P - 1 := fun z hz => h7.2.2 ▸ pow_le_prodF (fun z hz => (hF z hz).1.pos) hz
  refine ⟨hodd, h2, by omega, h4, h5, hl, ⟨?_, ⟨hpos, h0⟩, fun k hk => ?_, h7.2.2⟩, ?_, fun z hz => ?_⟩
  · have e : (65536 : Nat) = 2 ^ 16 := rfl
    have : 2 ^ x.F.length ≤ 2 ^ 16 := by rw [← e]; omega
    exact (Nat.pow_le_pow_iff_right (by omega)).mp this
  · have hz := hF _ (List.getElem_mem hk)
    refine ⟨hz.2, ?_, fun j hj hjk => ?_⟩
    · have a := hle _ (List.getElem_mem hk)
      have b : 2 ^ x.F[k].e.toNat ≤ x.F[k].q ^ x.F[k].e.toNat := Nat.pow_le_pow_left hz.1.1 _
      have e : (65536 : Nat) = 2 ^ 16 := rfl
      have c : 2 ^ x.F[k].e.toNat ≤ 2 ^ 16 := by rw [← e]; omega
      have := (Nat.pow_le_pow_iff_right (show 1 < 2 by omega)).mp c
      omega
    · subst hjk
      have hlt := h7.2.1 j hk
      refine ⟨hlt, ha _ (h8 _ hz.1 ((h7.dvd hz.1).mpr ⟨_, List.getElem_mem hk, rfl⟩) ?_) ?_⟩
      · have := (hF _ (List.getElem_mem hj)).1.1
        omega
      · have hd := (h7.dvd hz.1).mpr ⟨_, List.getElem_mem hk, rfl⟩
        have := Nat.le_of_dvd (by omega) hd
        omega
  · exact (fpow_one_iff (by omega)).mpr h6.pow_eq
  · intro hc
    have hq := (hF z hz).1
    have := (h6.2 _).mp ((fpow_one_iff (by omega)).mp hc)
    obtain ⟨c, hc⟩ := (h7.dvd hq).mpr ⟨z, hz, rfl⟩
    have hc0 : 0 < c := by
      rcases Nat.eq_zero_or_pos c with h | h
      · subst h; omega
      · exact h
    rw [hc, Nat.mul_div_cancel_left _ hq.pos] at this
    have h9 := Nat.le_of_dvd hc0 this
    have h10 : 2 * c ≤ z.q * c := Nat.mul_le_mul_right _ hq.1
    omega
theorem row_of {ss : List Nat} {L : List Ent} (hs : ss.Pairwise (· < ·)) (hL : L.map (·.P) = ss) (h : ∀ x ∈ L, EntR (· ∈ ss) x) : rowOK L L.length := by
  intro j hj _
  have hP : ∀ i, (hi : i < L.length) → ∃ hi' : i < ss.length, ss[i] = L[i].P := fun i hi => by
    subst hL
    exact ⟨by simpa using hi, by simp⟩
  refine (h _ (List.getElem_mem hj)).ok (fun y hy => ?_) (fun r hr hlt => ?_)
  · rw [List.getLast?_eq_getElem?, List.length_take, Nat.min_eq_left (by omega)] at hy
    rcases Nat.eq_zero_or_pos j with h0 | h0
    · subst h0
      simp at hy
    · rw [List.getElem?_take, if_pos (by omega)] at hy
      obtain ⟨hi, rfl⟩ := List.getElem?_eq_some_iff.mp hy
      obtain ⟨a1, a2⟩ := hP (j - 1) hi
      obtain ⟨b1, b2⟩ := hP j hj
      rw [← a2, ← b2]
      exact List.pairwise_iff_getElem.mp hs _ _ a1 b1 (by omega)
  · obtain ⟨i, hi, rfl⟩ := List.mem_iff_getElem.mp hr
    have hi' : i < L.length := by subst hL; simpa using hi
    obtain ⟨a1, a2⟩ := hP i hi'
    obtain ⟨b1, b2⟩ := hP j hj
    have hij : i < j := by
      rcases Nat.lt_trichotomy i j with h | h | h
      · exact h
      · subst h
        omega
      · have := List.pairwise_iff_getElem.mp hs _ _ b1 a1 h
        omega
    exact hasP_true (i := i) (by simp; omega) (by rw [List.getElem_take]; exact a2.symm)
end Epi
