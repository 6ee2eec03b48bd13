/- Coprime parts, pads; the document's words for these. -/
import Derived.Test.YtbokindcnkknmaaGreatPb
set_option linter.unusedVariables false
namespace Go.Proofs.YtbokindcnkknmaaGreat
section SPc
open Go.RowKit Epi
theorem cpF_false {n a : Int} (h : ¬ (1 < a ∧ a < n ∧ n % a = 0)) : cpF n a = false := by
  unfold cpF
  rw [decide_eq_false_iff_not]
  exact fun h' => h ⟨h'.1, h'.2.1, h'.2.2.1⟩
set_option maxHeartbeats 1000000 in
theorem cfits_any (n a : Int) (w : World) (hn : n ≤ 1024) : Calls Tryz.prog 108 #[.int .i64 n, .int .i64 a] w fun e w' => e = .returned (.bool (cpF n a)) ∧ ∃ k, w' = w.drewN k := by
  by_cases h0 : 1 < n
  case neg =>
    have t0 : decide (1 < n) = false := by rw [decide_eq_false_iff_not]; exact h0
    have F := Lib.hid (cpF_false (n := n) (a := a) (fun h => by omega))
    clear h0 hn
    go_enter Tryz.func108, Tryz.ntmps108
    go_wp2_with fail
    go_ret
    exact ⟨ret_bool F.out.symm, 0, rfl⟩
  have t0 : decide (1 < n) = true := by rw [decide_eq_true_eq]; exact h0
  by_cases h1 : 1 < a
  case neg =>
    have t1 : decide (1 < a) = false := by rw [decide_eq_false_iff_not]; exact h1
    have F := Lib.hid (cpF_false (n := n) (a := a) (fun h => by omega))
    clear h0 hn h1
    go_enter Tryz.func108, Tryz.ntmps108
    go_wp2_with fail
    go_ret
    exact ⟨ret_bool F.out.symm, 0, rfl⟩
  have t1 : decide (1 < a) = true := by rw [decide_eq_true_eq]; exact h1
  by_cases h2 : a < n
  case neg =>
    have t2 : decide (a < n) = false := by rw [decide_eq_false_iff_not]; exact h2
    have F := Lib.hid (cpF_false (n := n) (a := a) (fun h => by omega))
    clear h0 hn h1 h2
    go_enter Tryz.func108, Tryz.ntmps108
    go_wp2_with fail
    go_ret
    exact ⟨ret_bool F.out.symm, 0, rfl⟩
  obtain ⟨n, rfl⟩ := Int.eq_ofNat_of_zero_le (show 0 ≤ n by omega)
  obtain ⟨a, rfl⟩ := Int.eq_ofNat_of_zero_le (show 0 ≤ a by omega)
  have t2 : decide (a < n) = true := by rw [decide_eq_true_eq]; omega
  obtain ⟨d, ed⟩ : ∃ d, n % a = d := ⟨_, rfl⟩
  have k1 : (n : Int) % a = (d : Int) := by rw [← ed]; exact (Int.natCast_emod _ _).symm
  have k4 : ((a : Int) == 0) = false := by rw [beq_eq_false_iff_ne]; omega
  have k5 : ¬ a = 0 := by omega
  by_cases h3 : d = 0
  case neg =>
    have t3 : ((d : Int) == 0) = false := by rw [beq_eq_false_iff_ne]; omega
    have F := Lib.hid (cpF_false (n := n) (a := a) (fun h => by omega))
    clear h0 hn h1 h2 h3 ed
    go_enter Tryz.func108, Tryz.ntmps108
    go_wp2_with fail
    go_ret
    exact ⟨ret_bool F.out.symm, 0, rfl⟩
  have t3 : ((d : Int) == 0) = true := by rw [beq_iff_eq]; omega
  obtain ⟨q, eq⟩ : ∃ q, n / a = q := ⟨_, rfl⟩
  have k2 : (n : Int) / a = (q : Int) := by rw [← eq]; exact (Int.natCast_ediv _ _).symm
  have hq : q ≤ n := eq ▸ Nat.div_le_self _ _
  have v1 : IntKind.u64.wrap (a : Int) = (a : Int) := IntWalk.u64_in _ ⟨by omega, by omega⟩
  have v2 : IntKind.u64.wrap (q : Int) = (q : Int) := IntWalk.u64_in _ ⟨by omega, by omega⟩
  have C := Lib.hid (mcop_any (a : Nat) (q : Nat) (by omega) (by omega) (by omega) (by omega) w)
  simp only [Int.toNat_natCast] at C
  have F : Hid (cpF n a = decide (Nat.gcd a q = 1)) := Lib.hid (by
    unfold cpF
    rw [decide_eq_decide, Int.toNat_natCast, k2, Int.toNat_natCast]
    exact ⟨fun h => h.2.2.2, fun h => ⟨h1, by omega, by omega, h⟩⟩)
  have hq' : q ≤ 1024 := by omega
  clear h0 hn h1 h2 h3 ed eq hq
  go_enter Tryz.func108, Tryz.ntmps108
  go_wp2_with fail
  refine (C.out).mono ?_
  rintro e w1 ⟨rfl, k, rfl⟩
  go_wp2_with fail
  go_ret
  exact ⟨ret_bool F.out.symm, _, rfl⟩
theorem rdPad_zero {n : Int} (h : ¬ (3 ≤ n ∧ n ≤ 1024 ∧ Pr n.toNat)) : rdPad n = 0 := by
  unfold rdPad
  rw [if_neg (fun h' => h ⟨h'.1, h'.2.1, bOf_iff.mp h'.2.2⟩)]
theorem rdPad_pos {n : Int} (h : 3 ≤ n ∧ n ≤ 1024 ∧ Pr n.toNat) : rdPad n = padN (2 * n - 3) := if_pos ⟨h.1, h.2.1, bOf_true h.2.2⟩
set_option maxHeartbeats 1000000 in
theorem rdpad_any (n : Int) (w : World) : Calls Tryz.prog 109 #[.int .i64 n] w fun e w' => e = .returned (.int .i64 (rdPad n : Nat)) ∧ Below w.heap.size w w' := by
  by_cases h0 : n < 3
  · have t0 : decide (n < 3) = true := by rw [decide_eq_true_eq]; exact h0
    have F := Lib.hid (rdPad_zero (n := n) (fun h => by omega))
    clear h0
    go_enter Tryz.func109, Tryz.ntmps109
    go_wp2_with fail
    go_ret
    exact ⟨ret_int (by rw [F.out]; rfl), Below.refl _ _⟩
  have t0 : decide (n < 3) = false := by rw [decide_eq_false_iff_not]; exact h0
  by_cases h1 : 1024 < n
  · have t1 : decide (1024 < n) = true := by rw [decide_eq_true_eq]; exact h1
    have F := Lib.hid (rdPad_zero (n := n) (fun h => by omega))
    clear h0 h1
    go_enter Tryz.func109, Tryz.ntmps109
    go_wp2_with fail
    go_ret
    exact ⟨ret_int (by rw [F.out]; rfl), Below.refl _ _⟩
  have t1 : decide (1024 < n) = false := by rw [decide_eq_false_iff_not]; exact h1
  obtain ⟨n, rfl⟩ := Int.eq_ofNat_of_zero_le (show 0 ≤ n by omega)
  have v1 : IntKind.u64.wrap (n : Int) = (n : Int) := IntWalk.u64_in _ ⟨by omega, by omega⟩
  have C := Lib.hid (sprime_any n w (by omega))
  obtain ⟨B, eB⟩ : ∃ B, bOf (SmP n) = B := ⟨_, rfl⟩
  rw [eB] at C
  cases B with
  | false =>
    have F := Lib.hid (rdPad_zero (n := n) (fun h => by
      have : SmP n := ⟨by simpa using h.2.2, by omega⟩
      rw [bOf_true this] at eB
      cases eB))
    clear h0 h1 eB
    go_enter Tryz.func109, Tryz.ntmps109
    go_wp2_with fail
    refine (C.out).mono ?_
    rintro e w1 ⟨rfl, hb⟩
    have HB := Lib.hid hb
    clear hb
    go_wp2_with fail
    go_ret
    exact ⟨ret_int (by rw [F.out]; rfl), HB.out⟩
  | true =>
    have F := Lib.hid (rdPad_pos (n := n) ⟨by omega, by omega, by simpa using (bOf_iff.mp eB).1⟩)
    have C2 := Lib.hid (fun W => pad2_any (2 * (n : Int) - 3) W)
    have h2 : n ≤ 1024 := by omega
    have h3 : 3 ≤ n := by omega
    clear h0 h1 eB
    go_enter Tryz.func109, Tryz.ntmps109
    go_wp2_with fail
    refine (C.out).mono ?_
    rintro e w1 ⟨rfl, hb⟩
    have HB := Lib.hid hb
    clear hb
    go_wp2_with fail
    refine (C2.out _).mono ?_
    rintro e w2 ⟨rfl, rfl⟩
    go_wp2_with fail
    go_ret
    exact ⟨ret_int (by rw [F.out]), HB.out⟩
theorem chPad_zero {n : Int} (h : ¬ (1 ≤ n ∧ n ≤ 1024)) : chPad n = 0 := by
  unfold chPad
  rw [if_neg h]
theorem chPad_eq {n : Int} (h : 1 ≤ n ∧ n ≤ 1024) : chPad n = padN (2 * n - 1) := by
  unfold chPad
  rw [if_pos h]
set_option maxHeartbeats 1000000 in
theorem chpad_any (n : Int) (w : World) : Calls Tryz.prog 110 #[.int .i64 n] w fun e w' => e = .returned (.int .i64 (chPad n : Nat)) ∧ w = w' := by
  by_cases h0 : n < 1
  · have t0 : decide (n < 1) = true := by rw [decide_eq_true_eq]; exact h0
    have F := Lib.hid (chPad_zero (n := n) (fun h => by omega))
    clear h0
    go_enter Tryz.func110, Tryz.ntmps110
    go_wp2_with fail
    go_ret
    exact ⟨ret_int (by rw [F.out]; rfl), rfl⟩
  have t0 : decide (n < 1) = false := by rw [decide_eq_false_iff_not]; exact h0
  by_cases h1 : 1024 < n
  · have t1 : decide (1024 < n) = true := by rw [decide_eq_true_eq]; exact h1
    have F := Lib.hid (chPad_zero (n := n) (fun h => by omega))
    clear h0 h1
    go_enter Tryz.func110, Tryz.ntmps110
    go_wp2_with fail
    go_ret
    exact ⟨ret_int (by rw [F.out]; rfl), rfl⟩
  have t1 : decide (1024 < n) = false := by rw [decide_eq_false_iff_not]; exact h1
  have F := Lib.hid (chPad_eq (n := n) (by omega))
  have C2 := Lib.hid (fun W => pad2_any (2 * n - 1) W)
  have h2 : n ≤ 1024 := by omega
  have h3 : 1 ≤ n := by omega
  clear h0 h1
  go_enter Tryz.func110, Tryz.ntmps110
  go_wp2_with fail
  refine (C2.out _).mono ?_
  rintro e w2 ⟨rfl, rfl⟩
  go_wp2_with fail
  go_ret
  exact ⟨ret_int (by rw [F.out]), rfl⟩
/-! ### The document's -/
set_option maxHeartbeats 1000000 in
theorem rcheck11_any (p : Nat) (n most : Int) (w : World) (hp : 1 ≤ p) (hp' : p < 18446744073709551616) (hm : most ≤ 4096) : Calls Tryz.prog 19 #[.int .u64 p, .int .i64 n, .int .i64 most] w fun e w' => e = .returned (.int .i64 (ckF p n most : Nat)) ∧ w = w' := by
  by_cases h1 : n < 1
  · have t1 : decide (n < 1) = true := by rw [decide_eq_true_eq]; exact h1
    have F := Lib.hid (show ckF p n most = 1 by unfold ckF; rw [if_pos h1])
    clear h1
    go_enter Tryz.func19, Tryz.ntmps19
    go_wp2_with fail
    go_ret
    exact ⟨ret_int (by rw [F.out]; rfl), rfl⟩
  have t1 : decide (n < 1) = false := by rw [decide_eq_false_iff_not]; exact h1
  by_cases h2 : most < n
  · have t2 : decide (most < n) = true := by rw [decide_eq_true_eq]; exact h2
    have F := Lib.hid (show ckF p n most = 13 by unfold ckF; rw [if_neg h1, if_pos h2])
    clear h1 h2
    go_enter Tryz.func19, Tryz.ntmps19
    go_wp2_with fail
    go_ret
    exact ⟨ret_int (by rw [F.out]; rfl), rfl⟩
  have t2 : decide (most < n) = false := by rw [decide_eq_false_iff_not]; exact h2
  obtain ⟨n, rfl⟩ := Int.eq_ofNat_of_zero_le (show 0 ≤ n by omega)
  obtain ⟨p', ep'⟩ : ∃ p', p' + 1 = p := ⟨p - 1, by omega⟩
  have v1 : IntKind.u64.wrap ((p : Int) - 1) = (p' : Int) := (IntWalk.u64_in _ ⟨by omega, by omega⟩).trans (by omega)
  have v2 : IntKind.u64.wrap (n : Int) = (n : Int) := IntWalk.u64_in _ ⟨by omega, by omega⟩
  obtain ⟨d, ed⟩ : ∃ d, p' % n = d := ⟨_, rfl⟩
  have k1 : (p' : Int) % n = (d : Int) := by rw [← ed]; exact (Int.natCast_emod _ _).symm
  have k4 : ((n : Int) == 0) = false := by rw [beq_eq_false_iff_ne]; omega
  have k5 : ¬ n = 0 := by omega
  have e1 : ((p - 1 : Nat) : Int) % (n : Nat) = (d : Int) := by rw [show p - 1 = p' by omega]; exact k1
  by_cases h3 : d = 0
  · have t3 : ((d : Int) != 0) = false := by rw [bne_eq_false_iff_eq]; omega
    have t4 : ((d : Int) == 0) = true := by rw [beq_iff_eq]; omega
    have F := Lib.hid (show ckF p n most = 0 by unfold ckF; rw [if_neg h1, if_neg h2, if_neg (fun h => h (by rw [e1]; omega))])
    clear h1 h2 h3 ed e1 ep' hp hp'
    go_enter Tryz.func19, Tryz.ntmps19
    go_wp2_with fail
    go_ret
    exact ⟨ret_int (by rw [F.out]; rfl), rfl⟩
  · have t3 : ((d : Int) != 0) = true := by rw [bne_iff_ne]; omega
    have t4 : ((d : Int) == 0) = false := by rw [beq_eq_false_iff_ne]; omega
    have F := Lib.hid (show ckF p n most = 4 by unfold ckF; rw [if_neg h1, if_neg h2, if_pos (by rw [e1]; omega)])
    clear h1 h2 h3 ed e1 ep' hp hp'
    go_enter Tryz.func19, Tryz.ntmps19
    go_wp2_with fail
    go_ret
    exact ⟨ret_int (by rw [F.out]; rfl), rfl⟩
set_option maxHeartbeats 1000000 in
theorem rfits12_any (n : Int) (w : World) : Calls Tryz.prog 112 #[.int .i64 n] w fun e w' => e = .returned (.bool (p2 n)) ∧ w = w' := by
  go_enter Tryz.func112, Tryz.ntmps112
  go_wp2_with fail
  go_loop [3] (fun s3 => ∃ k m : Nat, s3 = .int .i64 m ∧ m ≤ 8192 ∧ Hid (m = 2 ^ k ∧ k ≤ 13 ∧ ∀ i, i < k → n ≠ ((2 ^ i : Nat) : Int))) (fun s3 => 16384 - (intOf s3).toNat)
  case atStart => exact ⟨0, 1, rfl, by omega, Lib.hid ⟨rfl, by omega, fun i hi => by omega⟩⟩
  case round =>
    obtain ⟨k, m, rfl, hm8, hm⟩ := hrel
    have hm1 : 1 ≤ m := by rw [hm.out.1]; exact Nat.one_le_two_pow
    by_cases hlt : m ≤ 4096
    · have t1 : decide ((m : Int) ≤ 4096) = true := by rw [decide_eq_true_eq]; omega
      have hk : k < 13 := by
        have h1 := hm.out.1
        have h2 : 2 ^ k < 2 ^ 13 := by have : (2 : Nat) ^ 13 = 8192 := rfl; omega
        exact (Nat.pow_lt_pow_iff_right (show 1 < 2 by omega)).mp h2
      by_cases he : n = (m : Int)
      · have t2 : (n == (m : Int)) = true := by rw [beq_iff_eq]; exact he
        have F := Lib.hid ((p2_iff n).mpr ⟨k, by omega, by rw [he, hm.out.1]⟩)
        clear he hk
        go_wp2_with fail
        go_ret
        exact ⟨ret_bool F.out.symm, rfl⟩
      · have t2 : (n == (m : Int)) = false := by rw [beq_eq_false_iff_ne]; exact he
        have X : Hid (2 * m = 2 ^ (k + 1) ∧ k + 1 ≤ 13 ∧ ∀ i, i < k + 1 → n ≠ ((2 ^ i : Nat) : Int)) := Lib.hid ⟨by rw [hm.out.1, Nat.pow_succ, Nat.mul_comm], by omega, fun i hi => by
          by_cases e : i = k
          · subst e
            rw [← hm.out.1]
            exact he
          · exact hm.out.2.2 i (by omega)⟩
        clear he hk
        go_wp2_with fail
        exact ⟨⟨k + 1, 2 * m, by rw [show (2 * (m : Int)) = ((2 * m : Nat) : Int) by omega], by omega, X⟩, by simp [intOf]; omega⟩
    · have t1 : decide ((m : Int) ≤ 4096) = false := by rw [decide_eq_false_iff_not]; omega
      have F : Hid (p2 n = false) := Lib.hid (by
        cases e : p2 n with
        | false => rfl
        | true =>
          obtain ⟨j, hj, h⟩ := (p2_iff n).mp e
          have hk : j < k := by
            have h1 := hm.out.1
            have h2 : 2 ^ 12 < 2 ^ k := by have : (2 : Nat) ^ 12 = 4096 := rfl; omega
            have := (Nat.pow_lt_pow_iff_right (show 1 < 2 by omega)).mp h2
            omega
          exact absurd h (hm.out.2.2 j hk))
      go_wp2_with fail
      go_ret
      exact ⟨ret_bool F.out.symm, rfl⟩
set_option maxHeartbeats 1000000 in
theorem rpad12_any (n : Int) (w : World) : Calls Tryz.prog 66 #[.int .i64 n] w fun e w' => e = .returned (.int .i64 (padN n : Nat)) ∧ w = w' := by
  go_enter Tryz.func66, Tryz.ntmps66
  go_wp2_with fail
  go_loop [3] (fun s3 => ∃ k m : Nat, s3 = .int .i64 m ∧ m ≤ 8192 ∧ Hid (m = 2 ^ k ∧ (k = 0 ∨ ((2 ^ (k - 1) : Nat) : Int) < n))) (fun s3 => 16384 - (intOf s3).toNat)
  case atStart => exact ⟨0, 1, rfl, by omega, Lib.hid ⟨rfl, .inl rfl⟩⟩
  case round =>
    obtain ⟨k, m, rfl, hm8, hm⟩ := hrel
    have hm1 : 1 ≤ m := by rw [hm.out.1]; exact Nat.one_le_two_pow
    by_cases hlt : m ≤ 4096
    · have t1 : decide ((m : Int) ≤ 4096) = true := by rw [decide_eq_true_eq]; omega
      by_cases he : n ≤ (m : Int)
      · have t2 : decide (n ≤ (m : Int)) = true := by rw [decide_eq_true_eq]; exact he
        have F := Lib.hid (padN_at (n := n) (k := k) (by omega) hm.out.2 (by rw [← hm.out.1]; exact he))
        clear he
        go_wp2_with fail
        go_ret
        exact ⟨ret_int (by rw [F.out, hm.out.1]), rfl⟩
      · have t2 : decide (n ≤ (m : Int)) = false := by rw [decide_eq_false_iff_not]; exact he
        have X : Hid (2 * m = 2 ^ (k + 1) ∧ (k + 1 = 0 ∨ ((2 ^ (k + 1 - 1) : Nat) : Int) < n)) := Lib.hid ⟨by rw [hm.out.1, Nat.pow_succ, Nat.mul_comm], .inr (by rw [Nat.add_sub_cancel, ← hm.out.1]; omega)⟩
        clear he
        go_wp2_with fail
        exact ⟨⟨k + 1, 2 * m, by rw [show (2 * (m : Int)) = ((2 * m : Nat) : Int) by omega], by omega, X⟩, by simp [intOf]; omega⟩
    · have t1 : decide ((m : Int) ≤ 4096) = false := by rw [decide_eq_false_iff_not]; omega
      have F : Hid (padN n = 0) := Lib.hid (padN_big (by
        have h1 := hm.out.1
        have h2 : 2 ^ 12 < 2 ^ k := by have : (2 : Nat) ^ 12 = 4096 := rfl; omega
        have h3 := (Nat.pow_lt_pow_iff_right (show 1 < 2 by omega)).mp h2
        have h4 : 2 ^ 12 ≤ 2 ^ (k - 1) := Nat.pow_le_pow_right (by omega) (by omega)
        have : (2 : Nat) ^ 12 = 4096 := rfl
        rcases hm.out.2 with h | h
        · omega
        · omega))
      go_wp2_with fail
      go_ret
      exact ⟨ret_int (by rw [F.out]; rfl), rfl⟩
end SPc
section SPd
open Go.RowKit Epi
set_option maxHeartbeats 1000000 in
theorem rrdpad_any (n : Int) (w : World) : Calls Tryz.prog 114 #[.int .i64 n] w fun e w' => e = .returned (.int .i64 (rdPad n : Nat)) ∧ w = w' := by
  by_cases h0 : n < 3
  · have t0 : decide (n < 3) = true := by rw [decide_eq_true_eq]; exact h0
    have F := Lib.hid (rdPad_zero (n := n) (fun h => by omega))
    clear h0
    go_enter Tryz.func114, Tryz.ntmps114
    go_wp2_with fail
    go_ret
    exact ⟨ret_int (by rw [F.out]; rfl), rfl⟩
  have t0 : decide (n < 3) = false := by rw [decide_eq_false_iff_not]; exact h0
  by_cases h1 : 1024 < n
  · have t1 : decide (1024 < n) = true := by rw [decide_eq_true_eq]; exact h1
    have F := Lib.hid (rdPad_zero (n := n) (fun h => by omega))
    clear h0 h1
    go_enter Tryz.func114, Tryz.ntmps114
    go_wp2_with fail
    go_ret
    exact ⟨ret_int (by rw [F.out]; rfl), rfl⟩
  have t1 : decide (1024 < n) = false := by rw [decide_eq_false_iff_not]; exact h1
  obtain ⟨n, rfl⟩ := Int.eq_ofNat_of_zero_le (show 0 ≤ n by omega)
  have v1 : IntKind.u64.wrap (n : Int) = (n : Int) := IntWalk.u64_in _ ⟨by omega, by omega⟩
  have C := Lib.hid (rprime_any n w (by omega))
  obtain ⟨B, eB⟩ : ∃ B, bOf (SmP n) = B := ⟨_, rfl⟩
  rw [eB] at C
  cases B with
  | false =>
    have F := Lib.hid (rdPad_zero (n := n) (fun h => by
      have : SmP n := ⟨by simpa using h.2.2, by omega⟩
      rw [bOf_true this] at eB
      cases eB))
    clear h0 h1 eB
    go_enter Tryz.func114, Tryz.ntmps114
    go_wp2_with fail
    refine (C.out).mono ?_
    rintro e w1 ⟨rfl, rfl⟩
    go_wp2_with fail
    go_ret
    exact ⟨ret_int (by rw [F.out]; rfl), rfl⟩
  | true =>
    have F := Lib.hid (rdPad_pos (n := n) ⟨by omega, by omega, by simpa using (bOf_iff.mp eB).1⟩)
    have C2 := Lib.hid (fun W => rpad12_any (2 * (n : Int) - 3) W)
    have h2 : n ≤ 1024 := by omega
    have h3 : 3 ≤ n := by omega
    clear h0 h1 eB
    go_enter Tryz.func114, Tryz.ntmps114
    go_wp2_with fail
    refine (C.out).mono ?_
    rintro e w1 ⟨rfl, rfl⟩
    go_wp2_with fail
    refine (C2.out _).mono ?_
    rintro e w2 ⟨rfl, rfl⟩
    go_wp2_with fail
    go_ret
    exact ⟨ret_int (by rw [F.out]), rfl⟩
set_option maxHeartbeats 1000000 in
theorem rchpad_any (n : Int) (w : World) : Calls Tryz.prog 115 #[.int .i64 n] w fun e w' => e = .returned (.int .i64 (chPad n : Nat)) ∧ w = w' := by
  by_cases h0 : n < 1
  · have t0 : decide (n < 1) = true := by rw [decide_eq_true_eq]; exact h0
    have F := Lib.hid (chPad_zero (n := n) (fun h => by omega))
    clear h0
    go_enter Tryz.func115, Tryz.ntmps115
    go_wp2_with fail
    go_ret
    exact ⟨ret_int (by rw [F.out]; rfl), rfl⟩
  have t0 : decide (n < 1) = false := by rw [decide_eq_false_iff_not]; exact h0
  by_cases h1 : 1024 < n
  · have t1 : decide (1024 < n) = true := by rw [decide_eq_true_eq]; exact h1
    have F := Lib.hid (chPad_zero (n := n) (fun h => by omega))
    clear h0 h1
    go_enter Tryz.func115, Tryz.ntmps115
    go_wp2_with fail
    go_ret
    exact ⟨ret_int (by rw [F.out]; rfl), rfl⟩
  have t1 : decide (1024 < n) = false := by rw [decide_eq_false_iff_not]; exact h1
  have F := Lib.hid (chPad_eq (n := n) (by omega))
  have C2 := Lib.hid (fun W => rpad12_any (2 * n - 1) W)
  have h2 : n ≤ 1024 := by omega
  have h3 : 1 ≤ n := by omega
  clear h0 h1
  go_enter Tryz.func115, Tryz.ntmps115
  go_wp2_with fail
  refine (C2.out _).mono ?_
  rintro e w2 ⟨rfl, rfl⟩
  go_wp2_with fail
  go_ret
  exact ⟨ret_int (by rw [F.out]), rfl⟩
set_option maxHeartbeats 4000000 in
set_option maxRecDepth 100000 in
theorem rradices_any (n : Int) (w : World) : Calls Tryz.prog 53 #[.int .i64 n] w (RadPost n w) := by
  by_cases h0 : 1 ≤ n ∧ n ≤ 1024
  case neg =>
    have Z : Hid (RadPost n w (.returned (.tuple #[.slice none 0 0, .bool false])) w) := Lib.hid ⟨Below.refl _ _, .inr ⟨fun h => h0 ⟨h.1, h.2.1⟩, rfl⟩⟩
    by_cases h1 : n < 1
    · have t1 : decide (n < 1) = true := by rw [decide_eq_true_eq]; exact h1
      clear h0 h1
      go_enter Tryz.func53, Tryz.ntmps53
      go_wp2_with fail
      go_ret2
      exact Z.out
    · have t1 : decide (n < 1) = false := by rw [decide_eq_false_iff_not]; exact h1
      have t2 : decide (1024 < n) = true := by rw [decide_eq_true_eq]; omega
      clear h0 h1
      go_enter Tryz.func53, Tryz.ntmps53
      go_wp2_with fail
      go_ret2
      exact Z.out
  obtain ⟨n, rfl⟩ := Int.eq_ofNat_of_zero_le (show 0 ≤ n by omega)
  have t1 : decide ((n : Int) < 1) = false := by rw [decide_eq_false_iff_not]; omega
  have t2 : decide ((1024 : Int) < n) = false := by rw [decide_eq_false_iff_not]; omega
  have HN := Lib.hid (show 1 ≤ n ∧ n ≤ 1024 by omega)
  have hn1 : n ≤ 1024 := by omega
  obtain ⟨i0, hi0, hz0, hz1, hz2⟩ := infoI
  have HI := Lib.hid (And.intro hi0 (And.intro hz0 (And.intro hz1 hz2)))
  clear h0 hi0 hz0 hz1 hz2
  go_enter Tryz.func53, Tryz.ntmps53
  go_wp2_with fail
  clear t1 t2
  go_loopw [0, 4] (fun s0 s4 wr => ∃ (m : Nat) (v4 : Value) (out : List Nat), s0 = .int .i64 m ∧ v4 = s4 ∧ Below w.heap.size w wr ∧ wr.ownsRow w.heap.size 3 1 v4 out.length (is out) ∧ Hid (RadTo n out m ∧ 2 ^ out.length * m ≤ n)) (fun s0 _ _ => (intOf s0).toNat)
  case atStart => exact ⟨n, _, [], rfl, rfl, Below.refl _ _, World.ownsRow_nil _ _ _ _, Lib.hid ⟨RadTo.zero HN.out.1 (by omega), by simp⟩⟩
  case round =>
    obtain ⟨m, v4, out, rfl, rfl, hB, hO, hX⟩ := hrel
    obtain ⟨wq, rfl⟩ : ∃ wq : World, wq = wr := ⟨_, rfl⟩
    have hm1 := hX.out.1.2.1
    have hml := hX.out.1.2.2
    by_cases h1 : 1 < m
    · have t3 : decide ((1 : Int) < m) = true := by rw [decide_eq_true_eq]; omega
      go_wp2_with fail
      go_loop [5] (fun s5 => ∃ r : Nat, s5 = .int .i64 r ∧ 2 ≤ r ∧ r ≤ 8 ∧ Hid (∀ d, 2 ≤ d → d < r → m % d ≠ 0)) (fun s5 => 8 - (intOf s5).toNat)
      case atStart => exact ⟨2, rfl, by omega, by omega, Lib.hid fun d h1 h2 => by omega⟩
      case round =>
        obtain ⟨r, rfl, hr2, hr8, hR⟩ := hrel
        have k4 : ((r : Int) == 0) = false := by rw [beq_eq_false_iff_ne]; omega
        have k5 : ¬ r = 0 := by omega
        by_cases h8 : r < 8
        · have t4 : decide ((r : Int) < 8) = true := by rw [decide_eq_true_eq]; omega
          obtain ⟨d, ed⟩ : ∃ d, m % r = d := ⟨_, rfl⟩
          have k1 : (m : Int) % r = (d : Int) := by rw [← ed]; exact (Int.natCast_emod _ _).symm
          by_cases hd : d = 0
          · have t5 : ((d : Int) == 0) = true := by rw [beq_iff_eq]; omega
            have t5' : ((d : Int) != 0) = false := by rw [bne_eq_false_iff_eq]; omega
            have t6 : ((r : Int) == 8) = false := by rw [beq_eq_false_iff_ne]; omega
            have hd0 : m % r = 0 := ed.trans hd
            have hlf := (lf_of hr2 hR.out (.inr ⟨h8, hd0⟩)).symm
            have hlen := two_len_le hX.out.2 hm1 HN.out.2
            obtain ⟨q, eq⟩ : ∃ q, m / r = q := ⟨_, rfl⟩
            have k2 : (m : Int) / r = (q : Int) := by rw [← eq]; exact (Int.natCast_ediv _ _).symm
            have hql : q < m := eq ▸ Nat.div_lt_self (by omega) hr2
            have Y : Hid (RadTo n (out ++ [r]) q ∧ 2 ^ (out ++ [r]).length * q ≤ n) := Lib.hid (by
              rw [← eq]
              exact ⟨hX.out.1.step hlf (by omega) (by omega), by rw [List.length_append]; exact two_len hX.out.2 hr2 hd0⟩)
            obtain ⟨hi0, hz0, hz1, hz2⟩ := HI.out
            have hsr := hB.size
            clear ed eq hd hd0 hlf
            go_wp2_with (at_builtin; refine wpList_append_own _ rfl _ _ 56 rfl w.heap.size 3 i0 (.int .i64 0) 1 8 Tryz.underlying56 hi0 hz0 hz1 hz2 rfl (by decide) _ _ _ rfl (hO.alloc _) _ 1 1 [.int .i64 r] rfl ?qc1 ?qc2 ?qc3 ?qc4 ?qc5 ?qc6 ?_)
            case qc3 => rfl
            case qc4 => unfold maxLen; omega
            case qc5 => omega
            case qc6 => omega
            intro v' wa hown hgrow _
            have HBa := Lib.hid ((hB.alloc hsr _).grown hgrow (by simp; omega) (fun j hj => (hO.lt j hj).1))
            have HOa : Hid (wa.ownsRow w.heap.size 3 1 v' (out ++ [r]).length (is (out ++ [r]))) := Lib.hid (by
              rw [is_snoc, List.length_append]
              exact hown)
            clear hO hown hgrow hi0 hz0 hz1 hz2
            go_wp2_with fail
            exact ⟨⟨q, _, _, rfl, rfl, HBa.out, HOa.out, Y⟩, by simp [intOf]; omega⟩
          · have t5 : ((d : Int) == 0) = false := by rw [beq_eq_false_iff_ne]; omega
            have t5' : ((d : Int) != 0) = true := by rw [bne_iff_ne]; omega
            have Y : Hid (∀ d, 2 ≤ d → d < r + 1 → m % d ≠ 0) := Lib.hid fun x x1 x2 => by
              by_cases e : x = r
              · subst e
                rw [ed]
                exact hd
              · exact hR.out x x1 (by omega)
            clear ed hd
            go_wp2_with fail
            exact ⟨⟨r + 1, by go_num, by omega, by omega, Y⟩, by simp [intOf]; omega⟩
        · obtain rfl : r = 8 := by omega
          have Z : Hid (RadPost n w (.returned (.tuple #[.slice none 0 0, .bool false])) wq) := Lib.hid ⟨hB, .inr ⟨fun h => by
            have := hX.out.1.fail h1 (lf_of hr2 hR.out (.inl rfl)).symm
            rw [Int.toNat_natCast, this] at h
            exact absurd h.2.2 (by simp), rfl⟩⟩
          go_wp2_with fail
          go_ret2
          exact Z.out
    · have t3 : decide ((1 : Int) < m) = false := by rw [decide_eq_false_iff_not]; omega
      obtain rfl : m = 1 := by omega
      obtain ⟨A, c, rfl⟩ : ∃ A c, v4 = .slice A out.length c := by
        rcases hO.2 with ⟨rfl, h⟩ | ⟨g, cap, cur, rfl, -⟩
        · exact ⟨none, 0, by rw [h]⟩
        · exact ⟨_, _, rfl⟩
      have Z : Hid (RadPost n w (.returned (.tuple #[.slice A out.length c, .bool true])) wq) := Lib.hid ⟨hB, .inl ⟨by have := HN.out; omega, by omega, A, _, c, out, rfl, by rw [Int.toNat_natCast]; exact hX.out.1.done, rfl, hO⟩⟩
      clear hO
      go_wp2_with fail
      go_ret2
      exact Z.out
set_option maxHeartbeats 2000000 in
theorem rcfits_any (n a : Int) (w : World) (hn : n ≤ 1024) : Calls Tryz.prog 113 #[.int .i64 n, .int .i64 a] w fun e w' => e = .returned (.bool (cpF n a)) ∧ w = w' := by
  by_cases h1 : a ≤ 1
  · have t1 : decide (a ≤ 1) = true := by rw [decide_eq_true_eq]; exact h1
    have F := Lib.hid (cpF_false (n := n) (a := a) (fun h => by omega))
    clear h1 hn
    go_enter Tryz.func113, Tryz.ntmps113
    go_wp2_with fail
    go_ret
    exact ⟨ret_bool F.out.symm, rfl⟩
  have t1 : decide (a ≤ 1) = false := by rw [decide_eq_false_iff_not]; exact h1
  by_cases h2 : n ≤ a
  · have t2 : decide (n ≤ a) = true := by rw [decide_eq_true_eq]; exact h2
    have F := Lib.hid (cpF_false (n := n) (a := a) (fun h => by omega))
    clear h1 hn h2
    go_enter Tryz.func113, Tryz.ntmps113
    go_wp2_with fail
    go_ret
    exact ⟨ret_bool F.out.symm, rfl⟩
  obtain ⟨n, rfl⟩ := Int.eq_ofNat_of_zero_le (show 0 ≤ n by omega)
  obtain ⟨a, rfl⟩ := Int.eq_ofNat_of_zero_le (show 0 ≤ a by omega)
  have t2 : decide (n ≤ a) = false := by rw [decide_eq_false_iff_not]; omega
  obtain ⟨d, ed⟩ : ∃ d, n % a = d := ⟨_, rfl⟩
  have k1 : (n : Int) % a = (d : Int) := by rw [← ed]; exact (Int.natCast_emod _ _).symm
  have k4 : ((a : Int) == 0) = false := by rw [beq_eq_false_iff_ne]; omega
  have k5 : ¬ a = 0 := by omega
  by_cases h3 : d = 0
  case neg =>
    have t3 : ((d : Int) == 0) = false := by rw [beq_eq_false_iff_ne]; omega
    have t3' : ((d : Int) != 0) = true := by rw [bne_iff_ne]; omega
    have F := Lib.hid (cpF_false (n := n) (a := a) (fun h => by omega))
    clear hn h1 h2 h3 ed
    go_enter Tryz.func113, Tryz.ntmps113
    go_wp2_with fail
    go_ret
    exact ⟨ret_bool F.out.symm, rfl⟩
  have t3 : ((d : Int) == 0) = true := by rw [beq_iff_eq]; omega
  have t3' : ((d : Int) != 0) = false := by rw [bne_eq_false_iff_eq]; omega
  obtain ⟨q, eq⟩ : ∃ q, n / a = q := ⟨_, rfl⟩
  have k2 : (n : Int) / a = (q : Int) := by rw [← eq]; exact (Int.natCast_ediv _ _).symm
  have hq : q ≤ n := eq ▸ Nat.div_le_self _ _
  have ha2 : 2 ≤ a := by omega
  have ha3 : a ≤ 1024 := by omega
  have hq3 : q ≤ 1024 := by omega
  have FT : Hid ((∀ x, 2 ≤ x → x < a + 1 → ¬ (a % x = 0 ∧ q % x = 0)) → cpF n a = true) := Lib.hid fun h => by
    unfold cpF
    rw [decide_eq_true_eq, Int.toNat_natCast, k2, Int.toNat_natCast]
    exact ⟨by omega, by omega, by omega, (cp_iff ha2).mpr fun x x1 x2 => h x x1 (by omega)⟩
  have FF : Hid (∀ x, 2 ≤ x → x ≤ a → a % x = 0 → q % x = 0 → cpF n a = false) := Lib.hid fun x x1 x2 x3 x4 => by
    unfold cpF
    rw [decide_eq_false_iff_not, Int.toNat_natCast, k2, Int.toNat_natCast]
    exact fun h => (cp_iff ha2).mp h.2.2.2 x x1 x2 ⟨x3, x4⟩
  clear hn h1 h2 h3 ed eq hq
  go_enter Tryz.func113, Tryz.ntmps113
  go_wp2_with fail
  go_loop [5] (fun s5 => ∃ x : Nat, s5 = .int .i64 x ∧ 2 ≤ x ∧ x ≤ a + 1 ∧ Hid (∀ y, 2 ≤ y → y < x → ¬ (a % y = 0 ∧ q % y = 0))) (fun s5 => 2048 - (intOf s5).toNat)
  case atStart => exact ⟨2, rfl, by omega, by omega, Lib.hid fun y y1 y2 => by omega⟩
  case round =>
    obtain ⟨x, rfl, hx2, hxa, hX⟩ := hrel
    by_cases hlt : x ≤ a
    · have t4 : decide (x ≤ a) = true := by rw [decide_eq_true_eq]; exact hlt
      have m4 : ((x : Int) == 0) = false := by rw [beq_eq_false_iff_ne]; omega
      have m5 : ¬ x = 0 := by omega
      obtain ⟨u, eu⟩ : ∃ u, a % x = u := ⟨_, rfl⟩
      have m1 : (a : Int) % x = (u : Int) := by rw [← eu]; exact (Int.natCast_emod _ _).symm
      by_cases hu : u = 0
      · have t5 : ((u : Int) == 0) = true := by rw [beq_iff_eq]; omega
        obtain ⟨v, ev⟩ : ∃ v, q % x = v := ⟨_, rfl⟩
        have m2 : (q : Int) % x = (v : Int) := by rw [← ev]; exact (Int.natCast_emod _ _).symm
        by_cases hv : v = 0
        · have t6 : ((v : Int) == 0) = true := by rw [beq_iff_eq]; omega
          have F := Lib.hid (FF.out x hx2 hlt (eu.trans hu) (ev.trans hv))
          clear eu ev hu hv hlt
          go_wp2_with fail
          go_ret
          exact ⟨ret_bool F.out.symm, rfl⟩
        · have t6 : ((v : Int) == 0) = false := by rw [beq_eq_false_iff_ne]; omega
          have Y : Hid (∀ y, 2 ≤ y → y < x + 1 → ¬ (a % y = 0 ∧ q % y = 0)) := Lib.hid fun y y1 y2 => by
            by_cases e : y = x
            · subst e
              rw [ev]
              exact fun h => hv h.2
            · exact hX.out y y1 (by omega)
          clear eu ev hu hv
          go_wp2_with fail
          exact ⟨⟨x + 1, by go_num, by omega, by omega, Y⟩, by simp [intOf]; omega⟩
      · have t5 : ((u : Int) == 0) = false := by rw [beq_eq_false_iff_ne]; omega
        have Y : Hid (∀ y, 2 ≤ y → y < x + 1 → ¬ (a % y = 0 ∧ q % y = 0)) := Lib.hid fun y y1 y2 => by
          by_cases e : y = x
          · subst e
            rw [eu]
            exact fun h => hu h.1
          · exact hX.out y y1 (by omega)
        clear eu hu
        go_wp2_with fail
        exact ⟨⟨x + 1, by go_num, by omega, by omega, Y⟩, by simp [intOf]; omega⟩
    · have t4 : decide (x ≤ a) = false := by rw [decide_eq_false_iff_not]; exact hlt
      obtain rfl : x = a + 1 := by omega
      have F := Lib.hid (FT.out hX.out)
      go_wp2_with fail
      go_ret
      exact ⟨ret_bool F.out.symm, rfl⟩
end SPd
end Go.Proofs.YtbokindcnkknmaaGreat
