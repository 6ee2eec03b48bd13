/- Insertion sort, in plain words. -/
import Derived.Test.YtbokindcnkknmaaGreatMg
set_option linter.unusedVariables false
namespace Epi
/-- All pairs up to i are in order, but those that end at j. -/
def SoBut (l : List Nat) (i j : Nat) : Prop := ∀ a b, a < b → b ≤ i → b ≠ j → l.getD a 0 ≤ l.getD b 0
def SoTo (l : List Nat) (i : Nat) : Prop := ∀ a b, a < b → b < i → l.getD a 0 ≤ l.getD b 0
def swp (l : List Nat) (j k : Nat) : List Nat := (l.set j (l.getD k 0)).set k (l.getD j 0)
theorem swp_getD {l : List Nat} {j k : Nat} (hj : j < l.length) (hk : k < l.length) (hne : j ≠ k) (a : Nat) : (swp l j k).getD a 0 = if a = j then l.getD k 0 else if a = k then l.getD j 0 else l.getD a 0 := by
  unfold swp
  simp only [List.getD_eq_getElem?_getD, List.getElem?_set, List.length_set]
  by_cases h1 : a = j
  · subst h1
    rw [if_pos rfl, if_neg (fun e => hne e.symm), if_pos rfl, if_pos hj]
    rfl
  · rw [if_neg h1]
    by_cases h2 : a = k
    · subst h2
      rw [if_pos rfl, if_pos hk, if_pos rfl]
      rfl
    · rw [if_neg (fun e => h2 e.symm), if_neg (fun e => h1 e.symm), if_neg h2]
theorem SoBut.start {l : List Nat} {i : Nat} (h : SoTo l i) : SoBut l i i := fun a b h1 h2 h3 => h a b h1 (by omega)
theorem SoBut.swap {l : List Nat} {i j : Nat} (hj : j + 1 ≤ i) (hi : i < l.length) (h : SoBut l i (j + 1)) (hlt : l.getD (j + 1) 0 < l.getD j 0) : SoBut (swp l (j + 1) j) i j := by
  intro a b h1 h2 h3
  rw [swp_getD (by omega) (by omega) (by omega), swp_getD (by omega) (by omega) (by omega)]
  by_cases b1 : b = j + 1
  · subst b1
    rw [if_neg (by omega), if_pos rfl]
    by_cases a1 : a = j
    · rw [if_pos a1]
      omega
    · rw [if_neg a1]
      exact h a j (by omega) (by omega) (by omega)
  · rw [if_neg b1, if_neg h3]
    by_cases a1 : a = j + 1
    · rw [if_pos a1]
      exact h j b (by omega) h2 b1
    · rw [if_neg a1]
      by_cases a2 : a = j
      · rw [if_pos a2]
        exact h (j + 1) b (by omega) h2 b1
      · rw [if_neg a2]
        exact h a b h1 h2 b1
theorem SoBut.done {l : List Nat} {i j : Nat} (hj : j ≤ i) (h : SoBut l i j) (h' : ∀ k, k + 1 = j → l.getD k 0 ≤ l.getD j 0) : SoTo l (i + 1) := by
  intro a b h1 h2
  by_cases hb : b = j
  · subst hb
    obtain ⟨k, hk⟩ : ∃ k, k + 1 = b := ⟨b - 1, by omega⟩
    have h3 := h' k hk
    by_cases e : a = k
    · subst e
      exact h3
    · exact Nat.le_trans (h a k (by omega) (by omega) (by omega)) h3
  · exact h a b h1 (by omega) hb
theorem swp_perm {l : List Nat} {j k : Nat} (hj : j < l.length) (hk : k < l.length) (hne : j ≠ k) : (swp l j k).Perm l := by
  unfold swp
  rw [List.getD_eq_getElem?_getD, List.getD_eq_getElem?_getD, List.getElem?_eq_getElem hj, List.getElem?_eq_getElem hk]
  exact List.set_set_perm hj hk
end Epi
