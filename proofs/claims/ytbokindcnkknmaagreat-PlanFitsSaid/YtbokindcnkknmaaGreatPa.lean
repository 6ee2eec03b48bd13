/- Small functions that plans ask: powers of two, what divides. -/
import Derived.Test.YtbokindcnkknmaaGreatSk
import Derived.Test.YtbokindcnkknmaaGreatMq
import Derived.BigQuiet
set_option linter.unusedVariables false
namespace Go.Proofs.YtbokindcnkknmaaGreat
open Go.RowKit Epi
theorem bits_and_i64_nat (a b : Nat) (ha : a < 9223372036854775808) (hb : b < 9223372036854775808) : bits .and .i64 (a : Int) (b : Int) = ((a &&& b : Nat) : Int) := by
  have hx : a &&& b < 2 ^ 63 := Nat.and_lt_two_pow _ (by omega)
  have h1 : (BitVec.ofInt 64 (a : Int)).toNat = a := by
    rw [BitVec.ofInt_natCast, BitVec.toNat_ofNat]; exact Nat.mod_eq_of_lt (by omega)
  have h2 : (BitVec.ofInt 64 (b : Int)).toNat = b := by
    rw [BitVec.ofInt_natCast, BitVec.toNat_ofNat]; exact Nat.mod_eq_of_lt (by omega)
  show IntKind.i64.wrap ((BitVec.ofInt 64 (a : Int) &&& BitVec.ofInt 64 (b : Int)).toNat : Int) = _
  rw [BitVec.toNat_and, h1, h2]
  exact IntWalk.i64_in _ ⟨by omega, by omega⟩
set_option maxHeartbeats 400000 in
theorem fits2_any (n : Int) (w : World) : Calls Tryz.prog 106 #[.int .i64 n] w fun e w' => e = .returned (.bool (p2 n)) ∧ w = w' := by
  by_cases h0 : 0 < n
  case neg =>
    have t1 : decide (0 < n) = false := by rw [decide_eq_false_iff_not]; exact h0
    have F := Lib.hid (p2_nonpos (n := n) (by omega))
    clear h0
    go_enter Tryz.func106, Tryz.ntmps106
    go_wp2_with fail
    go_ret
    exact ⟨ret_bool F.out.symm, rfl⟩
  by_cases h1 : n ≤ 4096
  case neg =>
    have t1 : decide (0 < n) = true := by rw [decide_eq_true_eq]; exact h0
    have t2 : decide (n ≤ 4096) = false := by rw [decide_eq_false_iff_not]; exact h1
    have F := Lib.hid (p2_big (n := n) (by omega))
    clear h0 h1
    go_enter Tryz.func106, Tryz.ntmps106
    go_wp2_with fail
    go_ret
    exact ⟨ret_bool F.out.symm, rfl⟩
  obtain ⟨n, rfl⟩ := Int.eq_ofNat_of_zero_le (show 0 ≤ n by omega)
  have t1 : decide ((0 : Int) < n) = true := by rw [decide_eq_true_eq]; exact h0
  have t2 : decide ((n : Int) ≤ 4096) = true := by rw [decide_eq_true_eq]; exact h1
  have F : Hid ((bits BinOp.and IntKind.i64 (n : Int) ((n : Int) - 1) == 0) = p2 n) := Lib.hid (by
    rw [← p2_land n (by omega) (by omega), show ((n : Int) - 1) = ((n - 1 : Nat) : Int) by omega, bits_and_i64_nat _ _ (by omega) (by omega), Bool.eq_iff_iff, beq_iff_eq, beq_iff_eq]
    omega)
  go_enter Tryz.func106, Tryz.ntmps106
  go_wp2_with fail
  go_ret
  exact ⟨ret_bool F.out, rfl⟩
/-- Doubling. -/
theorem shl_one (n : Nat) (h : n < 4096) : IntKind.i64.wrap ((n : Int) * 2) = ((2 * n : Nat) : Int) := (IntWalk.i64_in _ (by omega)).trans (by omega)
set_option maxHeartbeats 400000 in
theorem pad2_any (n : Int) (w : World) : Calls Tryz.prog 122 #[.int .i64 n] w fun e w' => e = .returned (.int .i64 (padN n : Nat)) ∧ w = w' := by
  by_cases h0 : 4096 < n
  · have t1 : decide (4096 < n) = true := by rw [decide_eq_true_eq]; exact h0
    have F := Lib.hid (padN_big h0)
    clear h0
    go_enter Tryz.func122, Tryz.ntmps122
    go_wp2_with fail
    go_ret
    exact ⟨ret_int (by rw [F.out]; rfl), rfl⟩
  · have t1 : decide (4096 < n) = false := by rw [decide_eq_false_iff_not]; exact h0
    have H := Lib.hid (show n ≤ 4096 by omega)
    clear h0
    go_enter Tryz.func122, Tryz.ntmps122
    go_wp2_with fail
    go_loop [3] (fun s3 => ∃ k m : Nat, s3 = .int .i64 m ∧ Hid (m = 2 ^ k ∧ (k = 0 ∨ ((2 ^ (k - 1) : Nat) : Int) < n))) (fun s3 => (n - intOf s3).toNat)
    case atStart => exact ⟨0, 1, rfl, Lib.hid ⟨rfl, .inl rfl⟩⟩
    case round =>
      obtain ⟨k, m, rfl, hm⟩ := hrel
      by_cases hlt : (m : Int) < n
      · have t2 : decide ((m : Int) < n) = true := by rw [decide_eq_true_eq]; exact hlt
        have hm4 : m < 4096 := by have := H.out; omega
        have hm1 : 1 ≤ m := by rw [hm.out.1]; exact Nat.one_le_two_pow
        have X : Hid (2 * m = 2 ^ (k + 1) ∧ (k + 1 = 0 ∨ ((2 ^ (k + 1 - 1) : Nat) : Int) < n)) := Lib.hid ⟨by rw [hm.out.1, Nat.pow_succ, Nat.mul_comm], .inr (by rw [Nat.add_sub_cancel, ← hm.out.1]; exact hlt)⟩
        go_wp2_with fail
        exact ⟨⟨k + 1, 2 * m, by rw [show ((m : Int) * 2) = ((2 * m : Nat) : Int) by omega], X⟩, by simp [intOf]; omega⟩
      · have t2 : decide ((m : Int) < n) = false := by rw [decide_eq_false_iff_not]; exact hlt
        have F := Lib.hid (padN_at H.out hm.out.2 (by rw [← hm.out.1]; omega))
        go_wp2_with fail
        go_ret
        exact ⟨ret_int (by rw [F.out, hm.out.1]), rfl⟩
/-- Does n divide what is ahead of the prime? -/
def dvB (p : Nat) (n : Int) : Bool := decide (0 < n ∧ ((p - 1 : Nat) : Int) % n = 0)
set_option maxHeartbeats 400000 in
theorem divides_nil (n : Int) (w : World) : Calls Tryz.prog 49 #[.pointer none, .int .i64 n] w fun e w' => e = .returned (.bool false) ∧ ∃ k, w' = w.drewN k := by
  go_enter Tryz.func49, Tryz.ntmps49
  go_wp2_with fail
  go_ret
  exact ⟨rfl, 0, rfl⟩
set_option maxHeartbeats 400000 in
theorem divides_any (b p g : Nat) (n : Int) (w : World) (h : IsFd w b p g) (hn : n < 9223372036854775808) : Calls Tryz.prog 49 #[.pointer (some ⟨b, 0, none⟩), .int .i64 n] w fun e w' => e = .returned (.bool (dvB p n)) ∧ ∃ k, w' = w.drewN k := by
  obtain ⟨h0, c, A, m, k, h1, h2, h3, h4, h5⟩ := h
  have l := cell_lt h1
  have hp := h0.2.1
  have hp' := h0.2.2.1
  by_cases hn0 : 0 < n
  case neg =>
    have t1 : decide (0 < n) = false := by rw [decide_eq_false_iff_not]; exact hn0
    have F : Hid (dvB p n = false) := Lib.hid (by unfold dvB; rw [decide_eq_false_iff_not]; exact fun h => hn0 h.1)
    clear hn0 hn h0 h5 hp hp'
    go_enter Tryz.func49, Tryz.ntmps49
    go_wp2_with fail
    go_ret
    exact ⟨ret_bool F.out.symm, 0, rfl⟩
  obtain ⟨n, rfl⟩ := Int.eq_ofNat_of_zero_le (show 0 ≤ n by omega)
  have t1 : decide ((0 : Int) < n) = true := by rw [decide_eq_true_eq]; exact hn0
  have hn1 : 0 < n := by omega
  obtain ⟨p', ep'⟩ : ∃ p', p' + 1 = p := ⟨p - 1, by omega⟩
  have v1 : IntKind.u64.wrap ((p : Int) - 1) = (p' : Int) := (IntWalk.u64_in _ ⟨by omega, by omega⟩).trans (by omega)
  have v2 : IntKind.u64.wrap (n : Int) = (n : Int) := IntWalk.u64_in _ ⟨by omega, by omega⟩
  obtain ⟨d, ed⟩ : ∃ d, p' % n = d := ⟨_, rfl⟩
  have k1 : (p' : Int) % n = (d : Int) := by rw [← ed]; exact (Int.natCast_emod _ _).symm
  have k4 : ((n : Int) == 0) = false := by rw [beq_eq_false_iff_ne]; omega
  have k5 : ¬ n = 0 := by omega
  have F : Hid (((d : Int) == 0) = dvB p n) := Lib.hid (by
    unfold dvB
    rw [Bool.eq_iff_iff, beq_iff_eq, decide_eq_true_eq, show p - 1 = p' by omega, ← k1]
    exact ⟨fun h => ⟨hn0, h⟩, fun h => h.2⟩)
  clear hn0 hn h0 h5 hp hp' ep' ed hn1
  go_enter Tryz.func49, Tryz.ntmps49
  go_wp2_with fail
  go_ret
  exact ⟨ret_bool F.out, 0, rfl⟩
end Go.Proofs.YtbokindcnkknmaaGreat
