/- Rows of a call's own: kept beside one another. -/
import Derived.Test.YtbokindcnkknmaaGreatOf
set_option linter.unusedVariables false
namespace Go.Proofs.YtbokindcnkknmaaGreat
open Go.RowKit Epi
theorem cells_at (w : World) (l : List Value) (T : TypeId) (n : Nat) (hn : n = w.heap.size) : ∀ (j : Nat) (u : Value), l[j]? = some u → (w.alloc (.cells l.toArray T)).cell? ((⟨n, 0, none⟩ : Addr).add j) = some u := by
  subst hn
  exact cells_new w l T
section
variable {w w' : World} {base e size n base' e' size' n' : Nat} {v v' : Value} {xs xs' : List Value}
theorem row_below (h : w.ownsRow base e size v n xs) (hb : Below w.heap.size w w') : w'.ownsRow base e size v n xs :=
  h.kept (grown_below hb none) (by cases hv : v.ownBlock <;> simp)
theorem row_apart (h : w.ownsRow base e size v n xs) (h' : w.ownsRow base' e' size' v' n' xs') (hne : e ≠ e') : v.ownBlock = none ∨ v.ownBlock ≠ v'.ownBlock := by
  rcases h.2 with ⟨rfl, -⟩ | ⟨g, cap, cur, rfl, -, h1, -⟩
  · exact .inl rfl
  · right
    rcases h'.2 with ⟨rfl, -⟩ | ⟨g', cap', cur', rfl, -, h2, -⟩
    · simp [Value.ownBlock]
    · intro ee
      obtain rfl : g = g' := by simpa [Value.ownBlock] using ee
      rw [h1] at h2
      injection h2 with h2
      injection h2 with _ h2 _
      exact hne h2
theorem row_apart_of (h : w.ownsRow base e size v n xs) (h' : w.ownsRow base' e' size' v' n' xs') (hb : ∀ g, v.ownBlock = some g → g < base') : v.ownBlock = none ∨ v.ownBlock ≠ v'.ownBlock := by
  cases hv : v.ownBlock with
  | none => exact .inl rfl
  | some g =>
    right
    intro ee
    have := hb g hv
    have := (h'.lt g ee.symm).1
    omega
theorem row_mono (h : w.ownsRow base e size v n xs) (hb : ∀ g, v.ownBlock = some g → base' ≤ g) : w.ownsRow base' e size v n xs := by
  refine ⟨h.1, ?_⟩
  rcases h.2 with h | ⟨g, cap, cur, rfl, h1, h2⟩
  · exact .inl h
  · exact .inr ⟨g, cap, cur, rfl, hb g rfl, h2⟩
theorem row_lower (h : w.ownsRow base e size v n xs) (hb : base' ≤ base) : w.ownsRow base' e size v n xs := row_mono h fun g hg => Nat.le_trans hb (h.lt g hg).1
end
end Go.Proofs.YtbokindcnkknmaaGreat
