/- Plain arithmetic: 2 ^ 64 behind a name that nothing reckons out. -/
namespace Epi
theorem exists_W64 : ∃ n : Nat, n = 18446744073709551616 := ⟨_, rfl⟩
/-- 2 ^ 64: told by W64_num alone. -/
noncomputable def W64 : Nat := Classical.choose exists_W64
theorem W64_num : W64 = 18446744073709551616 := Classical.choose_spec exists_W64
theorem W64_pos : 0 < W64 := by rw [W64_num]; omega
end Epi
