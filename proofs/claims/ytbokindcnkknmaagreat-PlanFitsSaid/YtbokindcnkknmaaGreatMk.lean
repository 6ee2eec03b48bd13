/- Plain arithmetic: the rows of the known primes. No program in sight. -/
import Derived.Test.YtbokindcnkknmaaGreatMr
set_option linter.unusedVariables false
namespace Epi
/-- A power's rest, by squares. -/
def pm (m : Nat) : Nat → Nat → Nat → Nat
  | 0, _, _ => 1 % m
  | f + 1, a, e => if e = 0 then 1 % m else if e % 2 = 1 then a * pm m f (a * a % m) (e / 2) % m else pm m f (a * a % m) (e / 2)
theorem pm_eq (m : Nat) : ∀ (f a e : Nat), e < 2 ^ f → pm m f a e = a ^ e % m := by
  intro f
  induction f with
  | zero =>
    intro a e h
    obtain rfl : e = 0 := by simpa using h
    rw [Nat.pow_zero]
    rfl
  | succ f ih =>
    intro a e h
    unfold pm
    by_cases h0 : e = 0
    · rw [if_pos h0, h0, Nat.pow_zero]
    · rw [if_neg h0]
      have h1 : e / 2 < 2 ^ f := by rw [Nat.pow_succ] at h; omega
      have h2 : (a * a % m) ^ (e / 2) % m = (a ^ (2 * (e / 2))) % m := by
        rw [Nat.pow_mod, Nat.mod_mod, ← Nat.pow_mod, Nat.pow_mul, Nat.pow_two]
      by_cases hc : e % 2 = 1
      · rw [if_pos hc, ih _ _ h1, h2, Nat.mul_mod, Nat.mod_mod, ← Nat.mul_mod]
        have : e = 2 * (e / 2) + 1 := by omega
        conv => rhs; rw [this, Nat.pow_succ]
        rw [Nat.mul_comm]
      · rw [if_neg hc, ih _ _ h1, h2]
        have : e = 2 * (e / 2) := by omega
        conv => rhs; rw [this]
def fpowB (m a e : Nat) : Nat := pm m 64 a e
theorem fpowB_eq {m a e : Nat} (h : e < 18446744073709551616) : fpow m a e = fpowB m a e := (pm_eq m 64 a e (Nat.lt_of_lt_of_le h (by decide))).symm
/-- An entry is right, reckoned. -/
def entB (ahead : List Ent) (x : Ent) : Bool :=
  x.P % 2 == 1 && decide (3 ≤ x.P) && decide (x.P < 9223372036854775808) && decide (2 ≤ x.G) && decide (x.G < x.P) && (match ahead.getLast? with | none => true | some y => decide (y.P < x.P)) &&
  decide (x.F.length ≤ 16) && (match x.F with | [] => false | y :: _ => y.q == 2) &&
  (List.range x.F.length).all (fun k => match x.F[k]? with | none => false | some y => decide (1 ≤ y.e) && decide (y.e ≤ 62) && (k == 0 || (match x.F[k - 1]? with | none => false | some z => decide (z.q < y.q) && hasP ahead y.q))) &&
  prodF x.F == x.P - 1 && fpowB x.P x.G (x.P - 1) == 1 && x.F.all (fun y => !(fpowB x.P x.G ((x.P - 1) / y.q) == 1))
theorem entB_ok {ahead : List Ent} {x : Ent} (h : entB ahead x = true) : entOK ahead x := by
  unfold entB at h
  simp only [Bool.and_eq_true, beq_iff_eq, decide_eq_true_eq, List.all_eq_true, List.mem_range] at h
  obtain ⟨⟨⟨⟨⟨⟨⟨⟨⟨⟨⟨h1, h2⟩, h3⟩, h4⟩, h5⟩, h6⟩, h7⟩, h8⟩, h9⟩, h10⟩, h11⟩, h12⟩ := h
  refine ⟨h1, h2, h3, h4, h5, fun y hy => ?_, ⟨h7, ?_, fun k hk => ?_, h10⟩, ?_, fun y hy => ?_⟩
  · rw [hy] at h6
    simpa using h6
  · revert h8
    cases x.F with
    | nil => intro h; cases h
    | cons y F => intro h; exact ⟨by simp, by simpa using h⟩
  · have h := h9 k hk
    rw [List.getElem?_eq_getElem hk] at h
    simp only [Bool.and_eq_true, decide_eq_true_eq, Bool.or_eq_true, beq_iff_eq] at h
    obtain ⟨⟨a, b⟩, c⟩ := h
    refine ⟨a, b, fun j hj hjk => ?_⟩
    rcases c with c | c
    · omega
    · have e : k - 1 = j := by omega
      rw [e, List.getElem?_eq_getElem hj] at c
      simpa [Bool.and_eq_true] using c
  · rw [fpowB_eq (by omega)]
    exact h11
  · have h := h12 y hy
    rw [fpowB_eq (Nat.lt_of_le_of_lt (Nat.div_le_self _ _) (by omega))]
    simpa using h
def rowB : List Ent → List Ent → Bool
  | _, [] => true
  | A, x :: L => entB A x && rowB (A ++ [x]) L
theorem rowB_ok : ∀ (L A : List Ent), rowB A L = true → ∀ j, (hj : j < L.length) → entOK (A ++ L.take j) L[j] := by
  intro L
  induction L with
  | nil => intro A h j hj; exact absurd hj (by simp)
  | cons x L ih =>
    intro A h j hj
    unfold rowB at h
    rw [Bool.and_eq_true] at h
    cases j with
    | zero => simpa using entB_ok h.1
    | succ j =>
      have := ih (A ++ [x]) h.2 j (by simpa using hj)
      simpa using this
theorem rowOK_of {L : List Ent} (h : rowB [] L = true) : rowOK L L.length := fun j hj _ => by simpa using rowB_ok L [] h j hj
def e3 : Ent := ⟨3, 2, [⟨2, 1⟩]⟩
def e5 : Ent := ⟨5, 2, [⟨2, 2⟩]⟩
def e7 : Ent := ⟨7, 3, [⟨2, 1⟩, ⟨3, 1⟩]⟩
/-- The known rows. -/
def kRow : Nat → List Ent
  | 0 => [e3, e7, ⟨29, 2, [⟨2, 2⟩, ⟨7, 1⟩]⟩, ⟨4179340454199820289, 3, [⟨2, 57⟩, ⟨29, 1⟩]⟩]
  | 1 => [e3, ⟨1945555039024054273, 5, [⟨2, 56⟩, ⟨3, 3⟩]⟩]
  | 2 => [e5, ⟨180143985094819841, 6, [⟨2, 55⟩, ⟨5, 1⟩]⟩]
  | 3 => [e3, e5, ⟨754974721, 11, [⟨2, 24⟩, ⟨3, 2⟩, ⟨5, 1⟩]⟩]
  | 4 => [e3, e7, ⟨469762049, 3, [⟨2, 26⟩, ⟨7, 1⟩]⟩]
  | 5 => [e5, ⟨167772161, 3, [⟨2, 25⟩, ⟨5, 1⟩]⟩]
  | _ => []
def kP (k : Nat) : Nat := [4179340454199820289, 1945555039024054273, 180143985094819841, 754974721, 469762049, 167772161].getD k 0
def kG (k : Nat) : Nat := [3, 5, 6, 11, 3, 3].getD k 0
theorem kRow_B : ∀ k, k < 6 → rowB [] (kRow k) = true ∧ ((kRow k).getLast?.map fun x => (x.P, x.G)) = some (kP k, kG k) := by decide +kernel
theorem kRow_ok {k : Nat} (h : k < 6) : rowOK (kRow k) (kRow k).length := rowOK_of (kRow_B k h).1
end Epi
