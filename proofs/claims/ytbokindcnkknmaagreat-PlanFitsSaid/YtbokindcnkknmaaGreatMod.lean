/- Contracts of the package modular, and of epicycleref02: sums, products and powers modulo any number; for every number of 64 bits. -/
import Derived.Test.YtbokindcnkknmaaGreatDiv
import Derived.Test.YtbokindcnkknmaaGreatMr
set_option linter.unusedVariables false
namespace Go.Proofs.YtbokindcnkknmaaGreat
open Go.RowKit Epi

theorem hi_lo (a b : Nat) : hi64 a b * W64 + lo64 a b = a * b := by
  unfold hi64 lo64
  rw [Nat.mul_comm (a * b / W64), Nat.div_add_mod]
theorem hi64_lt {a b : Nat} (ha : a < 18446744073709551616) (hb : b < 18446744073709551616) : hi64 a b < 18446744073709551616 := by
  unfold hi64
  rw [Nat.div_lt_iff_lt_mul (by rw [W64_num]; omega)]
  have h1 : a * b ≤ a * 18446744073709551616 := Nat.mul_le_mul_left _ (by omega)
  have h2 : a * 18446744073709551616 < 18446744073709551616 * 18446744073709551616 := Nat.mul_lt_mul_of_pos_right ha (by omega)
  rw [W64_num]
  omega
theorem lo64_lt (a b : Nat) : lo64 a b < 18446744073709551616 := by rw [← W64_num]; exact Nat.mod_lt _ W64_pos
theorem sum64_lt (a b c : Nat) : sum64 a b c < 18446744073709551616 := by rw [← W64_num]; exact Nat.mod_lt _ W64_pos
theorem rest_mul (a b m : Nat) : rest128 (hi64 a b) (lo64 a b) m = fmul m a b := by
  unfold rest128 fmul
  rw [hi_lo]
theorem rest_sum (a b m : Nat) : rest128 (car64 a b 0) (sum64 a b 0) m = fadd m a b := by
  unfold rest128 fadd car64 sum64
  rw [Nat.mul_comm (_ / W64), Nat.div_add_mod, Nat.add_zero]

set_option maxHeartbeats 400000 in
theorem mmul_any (a b m : Int) (ha : 0 ≤ a) (ha' : a < 18446744073709551616) (hb : 0 ≤ b) (hb' : b < 18446744073709551616) (hm : 0 < m) (hm' : m < 18446744073709551616) (w : World) :
    Calls Tryz.prog 119 #[.int .u64 a, .int .u64 b, .int .u64 m] w fun e w' => e = .returned (.int .u64 (fmul m.toNat a.toNat b.toNat : Nat)) ∧ ∃ n, w' = w.drewN n := by
  obtain ⟨a, rfl⟩ := Int.eq_ofNat_of_zero_le ha
  obtain ⟨b, rfl⟩ := Int.eq_ofNat_of_zero_le hb
  obtain ⟨m, rfl⟩ := Int.eq_ofNat_of_zero_le (show 0 ≤ m by omega)
  have h1 : ((m : Int) == 0) = false := by simp; omega
  have c1 := Lib.hid (mul64_any a b ha ha' hb hb')
  have c2 := Lib.hid (rem64_any (hi64 a b : Nat) (lo64 a b : Nat) m (by omega) (by have := hi64_lt (a := a) (b := b) (by omega) (by omega); omega) hm (by omega) (by have := lo64_lt a b; omega) hm')
  have hr := Lib.hid (rest_mul a b m)
  clear ha ha' hb hb' hm hm'
  go_enter Tryz.func119, Tryz.ntmps119
  go_wp2_with fail
  refine (c1.out _).mono ?_
  rintro e w' ⟨rfl, rfl⟩
  go_wp2_with fail
  refine (c2.out _).mono ?_
  rintro e w' ⟨rfl, n, rfl⟩
  go_wp2_with fail
  go_ret
  refine ⟨ret_int ?_, _, rfl⟩
  simp only [Int.toNat_natCast]
  rw [hr.out]
set_option maxHeartbeats 400000 in
theorem madd_any (a b m : Int) (ha : 0 ≤ a) (ha' : a < 18446744073709551616) (hb : 0 ≤ b) (hb' : b < 18446744073709551616) (hm : 0 < m) (hm' : m < 18446744073709551616) (w : World) :
    Calls Tryz.prog 228 #[.int .u64 a, .int .u64 b, .int .u64 m] w fun e w' => e = .returned (.int .u64 (fadd m.toNat a.toNat b.toNat : Nat)) ∧ ∃ n, w' = w.drewN n := by
  obtain ⟨a, rfl⟩ := Int.eq_ofNat_of_zero_le ha
  obtain ⟨b, rfl⟩ := Int.eq_ofNat_of_zero_le hb
  obtain ⟨m, rfl⟩ := Int.eq_ofNat_of_zero_le (show 0 ≤ m by omega)
  have h1 : ((m : Int) == 0) = false := by simp; omega
  have h2 : ¬ m = 0 := by omega
  have hs : Hid (rest128 (car64 (a % m) (b % m) 0) (sum64 (a % m) (b % m) 0) m = fadd m a b) := by
    show _ = _
    rw [rest_sum]
    unfold fadd
    rw [← Nat.add_mod]
  have h0 := fun x y w => run_add64_any x y 0 (by decide) (by decide) w
  have c2 := Lib.hid (rem64_any (car64 (a % m) (b % m) 0 : Nat) (sum64 (a % m) (b % m) 0 : Nat) m (by omega) (by
    have e1 := Nat.mod_lt a (show 0 < m by omega)
    have e2 := Nat.mod_lt b (show 0 < m by omega)
    simp only [car64, W64_num]
    omega) hm (by omega) (by have := sum64_lt (a % m) (b % m) 0; omega) hm')
  clear ha ha' hb hb' hm hm'
  go_enter Tryz.func228, Tryz.ntmps228
  go_wp2_with fail
  go_quiet (fail)
  go_wp2_with fail
  refine (c2.out _).mono ?_
  rintro e w' ⟨rfl, n, rfl⟩
  go_wp2_with fail
  go_ret
  refine ⟨ret_int ?_, ?_⟩
  · simp only [Int.toNat_natCast]
    rw [hs.out]
  · exact ⟨_, rfl⟩
set_option maxHeartbeats 400000 in
theorem mneg_any (a m : Int) (ha : 0 ≤ a) (ha' : a < 18446744073709551616) (hm : 0 < m) (hm' : m < 18446744073709551616) (w : World) :
    Calls Tryz.prog 229 #[.int .u64 a, .int .u64 m] w fun e w' => e = .returned (.int .u64 (fneg m.toNat a.toNat : Nat)) ∧ w = w' := by
  obtain ⟨a, rfl⟩ := Int.eq_ofNat_of_zero_le ha
  obtain ⟨m, rfl⟩ := Int.eq_ofNat_of_zero_le (show 0 ≤ m by omega)
  have h1 : ((m : Int) == 0) = false := by simp; omega
  have h2 : ¬ m = 0 := by omega
  have e1 := Nat.mod_lt a (show 0 < m by omega)
  by_cases h3 : a % m = 0
  · have h4 : (((a : Int) % m) == 0) = true := by rw [beq_iff_eq]; omega
    have hs : Hid (fneg m a = 0) := by
      show _ = _
      unfold fneg
      rw [h3, Nat.sub_zero, Nat.mod_self]
    clear ha ha' hm hm' h3 e1
    go_enter Tryz.func229, Tryz.ntmps229
    go_wp2_with fail
    go_ret
    exact ⟨ret_int (by rw [Int.toNat_natCast, Int.toNat_natCast, hs.out]; rfl), rfl⟩
  · have h4 : (((a : Int) % m) == 0) = false := by rw [beq_eq_false_iff_ne]; omega
    have hs : Hid (fneg m a = m - a % m) := by
      show _ = _
      unfold fneg
      rw [Nat.mod_eq_of_lt (by omega)]
    have h5 : IntKind.u64.wrap ((m : Int) - (a : Int) % m) = (m : Int) - (a : Int) % m := IntWalk.u64_in _ (by omega)
    have h6 := Lib.hid (show ((m - a % m : Nat) : Int) = (m : Int) - (a : Int) % m by omega)
    clear ha ha' hm hm' h3 e1
    go_enter Tryz.func229, Tryz.ntmps229
    go_wp2_with fail
    go_ret
    exact ⟨ret_int (by rw [Int.toNat_natCast, Int.toNat_natCast, hs.out, h6.out]), rfl⟩
theorem fneg_le {p : Nat} (hp : 0 < p) (x : Nat) : fneg p x < p := Nat.mod_lt _ hp
theorem fadd_fneg {p : Nat} (hp : 0 < p) (x y : Nat) : fadd p x (fneg p y) = fsub p x y := by
  unfold fadd fneg fsub
  rw [Nat.add_mod, Nat.mod_mod, ← Nat.add_mod]
set_option maxHeartbeats 400000 in
theorem msub_any (a b m : Int) (ha : 0 ≤ a) (ha' : a < 18446744073709551616) (hb : 0 ≤ b) (hb' : b < 18446744073709551616) (hm : 0 < m) (hm' : m < 18446744073709551616) (w : World) :
    Calls Tryz.prog 212 #[.int .u64 a, .int .u64 b, .int .u64 m] w fun e w' => e = .returned (.int .u64 (fsub m.toNat a.toNat b.toNat : Nat)) ∧ ∃ n, w' = w.drewN n := by
  obtain ⟨a, rfl⟩ := Int.eq_ofNat_of_zero_le ha
  obtain ⟨b, rfl⟩ := Int.eq_ofNat_of_zero_le hb
  obtain ⟨m, rfl⟩ := Int.eq_ofNat_of_zero_le (show 0 ≤ m by omega)
  have c1 := Lib.hid (mneg_any b m hb hb' hm hm')
  have c2 := Lib.hid (madd_any a (fneg m b : Nat) m ha ha' (by omega) (by have := fneg_le (p := m) (by omega) b; omega) hm hm')
  have hs := Lib.hid (fadd_fneg (p := m) (by omega) a b)
  clear ha ha' hb hb' hm hm'
  go_enter Tryz.func212, Tryz.ntmps212
  go_wp2_with fail
  refine (c1.out _).mono ?_
  rintro e w' ⟨rfl, rfl⟩
  go_wp2_with fail
  refine (c2.out _).mono ?_
  rintro e w' ⟨rfl, n, rfl⟩
  go_wp2_with fail
  go_ret
  refine ⟨ret_int ?_, _, rfl⟩
  simp only [Int.toNat_natCast]
  rw [hs.out]
/-- One bit of the exponent. -/
theorem pow_step (m y x k A E : Nat) (h : y * x ^ k % m = A ^ E % m) : (if k % 2 = 1 then fmul m y x else y) * fmul m x x ^ (k / 2) % m = A ^ E % m := by
  have e1 : fmul m x x ^ (k / 2) % m = (x * x) ^ (k / 2) % m := by
    unfold fmul
    rw [← Nat.pow_mod]
  have e2 : (x * x) ^ (k / 2) = x ^ (2 * (k / 2)) := by rw [← Nat.pow_two, Nat.pow_mul]
  rw [← h]
  by_cases hk : k % 2 = 1
  · rw [if_pos hk, Nat.mul_mod, e1, e2, ← Nat.mul_mod]
    unfold fmul
    rw [Nat.mul_mod, Nat.mod_mod, ← Nat.mul_mod, Nat.mul_assoc, ← Nat.pow_succ', show (2 * (k / 2)).succ = k from by omega]
  · rw [if_neg hk, Nat.mul_mod, e1, e2, ← Nat.mul_mod, show 2 * (k / 2) = k from by omega]
set_option maxHeartbeats 400000 in
theorem mpow_any (a e m : Int) (ha : 0 ≤ a) (ha' : a < 18446744073709551616) (he : 0 ≤ e) (he' : e < 18446744073709551616) (hm : 0 < m) (hm' : m < 18446744073709551616) (w : World) :
    Calls Tryz.prog 221 #[.int .u64 a, .int .u64 e, .int .u64 m] w fun e' w' => e' = .returned (.int .u64 (fpow m.toNat a.toNat e.toNat : Nat)) ∧ ∃ n, w' = w.drewN n := by
  obtain ⟨a, rfl⟩ := Int.eq_ofNat_of_zero_le ha
  obtain ⟨e, rfl⟩ := Int.eq_ofNat_of_zero_le he
  obtain ⟨m, rfl⟩ := Int.eq_ofNat_of_zero_le (show 0 ≤ m by omega)
  simp only [Int.toNat_natCast]
  have h1 : ((m : Int) == 0) = false := by simp; omega
  have h2 : ¬ m = 0 := by omega
  have h3 : (1 : Int) % m = ((1 % m : Nat) : Int) := by rw [Int.natCast_emod]; rfl
  have M1 := Lib.hid (show 0 < m by omega)
  have M2 := Lib.hid hm'
  have A1 := Lib.hid ha'
  have E1 := Lib.hid he'
  clear ha ha' he he' hm hm'
  go_enter Tryz.func221, Tryz.ntmps221
  go_wp2_with fail
  clear h3
  go_loopw [0, 1, 7] (fun s0 s1 s7 wr => ∃ x k y n : Nat, s0 = .int .u64 x ∧ s1 = .int .u64 k ∧ s7 = .int .u64 y ∧ wr = w.drewN n ∧ Hid (x < 18446744073709551616 ∧ k < 18446744073709551616 ∧ y < m ∧ y * x ^ k % m = a ^ e % m)) (fun _ s1 _ _ => (intOf s1).toNat)
  case atStart =>
    refine ⟨a, e, 1 % m, 0, rfl, rfl, rfl, rfl, ?_⟩
    have := A1.out
    have := E1.out
    have := M1.out
    refine ⟨by omega, by omega, Nat.mod_lt _ M1.out, ?_⟩
    rw [Nat.mul_mod, Nat.mod_mod, ← Nat.mul_mod, Nat.one_mul]
  case round =>
    obtain ⟨x, k, y, n, rfl, rfl, rfl, rfl, hT⟩ := hrel
    obtain ⟨b1, b2, b3, b4⟩ := hT.out
    have M1' := M1.out
    have M2' := M2.out
    by_cases hk : 0 < k
    · have t1 : decide (0 < k) = true := by rw [decide_eq_true_eq]; omega
      have p1 := u64_bit (k : Int) (by omega) (by omega)
      have st := pow_step m y x k a e b4
      have c1 := Lib.hid (mmul_any y x m (by omega) (by omega) (by omega) (by omega) (by omega) M2')
      have c2 := Lib.hid (mmul_any x x m (by omega) (by omega) (by omega) (by omega) (by omega) M2')
      have x1 := fmul_lt M1' x x
      have y1 := fmul_lt M1' y x
      obtain ⟨k', ek⟩ : ∃ k', k / 2 = k' := ⟨_, rfl⟩
      have k1 : ((k : Int) / 2) = (k' : Int) := by omega
      rw [ek] at st
      have L := Lib.hid (show k' < k by omega)
      by_cases hp : k % 2 = 1
      · have t2 : (((k : Int) % 2) == 1) = true := by rw [beq_iff_eq]; omega
        rw [if_pos hp] at st
        have T := Lib.hid (show fmul m x x < 18446744073709551616 ∧ k' < 18446744073709551616 ∧ fmul m y x < m ∧ fmul m y x * fmul m x x ^ k' % m = a ^ e % m from ⟨by omega, by omega, y1, st⟩)
        clear b1 b2 b3 b4 M1' M2' hk st x1 y1 hp ek
        go_wp2_with fail
        refine (c1.out _).mono ?_
        rintro e' w' ⟨rfl, n1, rfl⟩
        go_wp2_with fail
        refine (c2.out _).mono ?_
        rintro e' w' ⟨rfl, n2, rfl⟩
        go_wp2_with fail
        have K' := L.out
        exact ⟨⟨fmul m x x, k', fmul m y x, _, rfl, rfl, rfl, rfl, T⟩, by simp [intOf]; omega⟩
      · have t2 : (((k : Int) % 2) == 1) = false := by rw [beq_eq_false_iff_ne]; omega
        rw [if_neg hp] at st
        have T := Lib.hid (show fmul m x x < 18446744073709551616 ∧ k' < 18446744073709551616 ∧ y < m ∧ y * fmul m x x ^ k' % m = a ^ e % m from ⟨by omega, by omega, b3, st⟩)
        clear b1 b2 b3 b4 M1' M2' hk st x1 y1 hp ek
        go_wp2_with fail
        refine (c2.out _).mono ?_
        rintro e' w' ⟨rfl, n2, rfl⟩
        go_wp2_with fail
        have K' := L.out
        exact ⟨⟨fmul m x x, k', y, _, rfl, rfl, rfl, rfl, T⟩, by simp [intOf]; omega⟩
    · have t1 : decide (0 < k) = false := by rw [decide_eq_false_iff_not]; omega
      have F := Lib.hid (show y = fpow m a e by
        have : k = 0 := by omega
        subst this
        unfold fpow
        rw [← b4, Nat.pow_zero, Nat.mul_one, Nat.mod_eq_of_lt b3])
      clear b1 b2 b3 b4 M1' M2' hk
      go_wp2_with fail
      go_ret
      exact ⟨ret_int (by rw [F.out]), _, rfl⟩
set_option maxHeartbeats 400000 in
theorem mgcd_any (a b : Int) (ha : 0 ≤ a) (ha' : a < 18446744073709551616) (hb : 0 ≤ b) (hb' : b < 18446744073709551616) (w : World) :
    Calls Tryz.prog 209 #[.int .u64 a, .int .u64 b] w fun e w' => e = .returned (.int .u64 (Nat.gcd a.toNat b.toNat : Nat)) ∧ ∃ n, w' = w.drewN n := by
  obtain ⟨a, rfl⟩ := Int.eq_ofNat_of_zero_le ha
  obtain ⟨b, rfl⟩ := Int.eq_ofNat_of_zero_le hb
  simp only [Int.toNat_natCast]
  have T0 := Lib.hid (show a < 18446744073709551616 ∧ b < 18446744073709551616 from ⟨by omega, by omega⟩)
  clear ha ha' hb hb'
  go_enter Tryz.func209, Tryz.ntmps209
  go_wp2_with fail
  go_loopw [0, 1] (fun s0 s1 wr => ∃ x y n : Nat, s0 = .int .u64 x ∧ s1 = .int .u64 y ∧ wr = w.drewN n ∧ Hid (x < 18446744073709551616 ∧ y < 18446744073709551616 ∧ Nat.gcd x y = Nat.gcd a b)) (fun _ s1 _ => (intOf s1).toNat)
  case atStart => exact ⟨a, b, 0, rfl, rfl, rfl, T0.out.1, T0.out.2, rfl⟩
  case round =>
    obtain ⟨x, y, n, rfl, rfl, rfl, hT⟩ := hrel
    obtain ⟨b1, b2, b3⟩ := hT.out
    by_cases hy : 0 < y
    · have t1 : decide (0 < y) = true := by rw [decide_eq_true_eq]; omega
      obtain ⟨z, ez⟩ : ∃ z, x % y = z := ⟨_, rfl⟩
      have k1 : ((x : Int) % y) = (z : Int) := by rw [← ez, Int.natCast_emod]
      have hz := Nat.mod_lt x hy
      rw [ez] at hz
      have L := Lib.hid hz
      have T := Lib.hid (show y < 18446744073709551616 ∧ z < 18446744073709551616 ∧ Nat.gcd y z = Nat.gcd a b from ⟨b2, by omega, by rw [← b3, ← ez, Nat.gcd_comm x y, Nat.gcd_rec y x, Nat.gcd_comm]⟩)
      have t2 : ¬ y = 0 := by omega
      have K1 := Lib.hid k1
      clear b1 b2 b3 hy hz ez k1
      go_wp2_with fail
      go_quiet (fail)
      go_wp2_with fail
      have L' := L.out
      exact ⟨⟨y, z, _, rfl, congrArg (Value.int .u64) K1.out, World.drewN_drewN .., T⟩, by show (intOf (.int .u64 ((x : Int) % y))).toNat < (intOf (.int .u64 y)).toNat; rw [K1.out]; simp [intOf]; omega⟩
    · have t1 : decide (0 < y) = false := by rw [decide_eq_false_iff_not]; omega
      have F := Lib.hid (show x = Nat.gcd a b by
        have : y = 0 := by omega
        subst this
        rw [← b3, Nat.gcd_zero_right])
      clear b1 b2 b3 hy
      go_wp2_with fail
      go_ret
      exact ⟨ret_int (by rw [F.out]), _, rfl⟩
set_option maxHeartbeats 400000 in
theorem mcop_any (a b : Int) (ha : 0 ≤ a) (ha' : a < 18446744073709551616) (hb : 0 ≤ b) (hb' : b < 18446744073709551616) (w : World) :
    Calls Tryz.prog 173 #[.int .u64 a, .int .u64 b] w fun e w' => e = .returned (.bool (decide (Nat.gcd a.toNat b.toNat = 1))) ∧ ∃ n, w' = w.drewN n := by
  have c1 := Lib.hid (mgcd_any a b ha ha' hb hb')
  clear ha ha' hb hb'
  go_enter Tryz.func173, Tryz.ntmps173
  go_wp2_with fail
  refine (c1.out _).mono ?_
  rintro e w' ⟨rfl, n, rfl⟩
  go_wp2_with fail
  go_ret
  refine ⟨ret_bool ?_, _, rfl⟩
  rw [Bool.eq_iff_iff, decide_eq_true_eq, beq_iff_eq]
  omega
noncomputable def minv (m a : Nat) : Nat := open Classical in if h : ∃ t, t < m ∧ t * a % m = 1 then h.choose else 0
theorem minv_eq {m a t : Nat} (hm : 2 ≤ m) (h1 : t < m) (h2 : t * a % m = 1) : minv m a = t := by
  have h : ∃ t, t < m ∧ t * a % m = 1 := ⟨t, h1, h2⟩
  unfold minv
  rw [dif_pos h]
  obtain ⟨h3, h4⟩ := h.choose_spec
  generalize h.choose = s at *
  have e1 : Cg m ((t : Int) * a) 1 := by
    have := Cg.nat_mod (t * a) m
    rw [h2] at this
    exact (this.symm.trans (Cg.refl _)).trans (Cg.refl _)
  have e2 : Cg m ((s : Int) * a) 1 := by
    have := Cg.nat_mod (s * a) m
    rw [h4] at this
    exact this.symm
  refine (Cg.nat_eq ?_ h1 h3).symm
  have e3 := Cg.mul_left (t : Int) e2
  have e4 := Cg.mul_left (s : Int) e1
  rw [Int.mul_one] at e3 e4
  refine e3.symm.trans ((Cg.of_eq ?_).trans e4)
  grind
theorem minv_none {m a : Nat} (hm : 2 ≤ m) (h : Nat.gcd a m ≠ 1) : minv m a = 0 := by
  unfold minv
  rw [dif_neg]
  rintro ⟨t, h1, h2⟩
  refine h (coprime_of_inv (b := t) ?_)
  have := Cg.nat_mod (t * a) m
  rw [h2] at this
  refine (Cg.of_eq ?_).trans this.symm
  push_cast
  grind
def InvRel (m a x y t s : Nat) : Prop := x ≤ m ∧ y < x ∧ t < m ∧ s < m ∧ Nat.gcd x y = Nat.gcd a m ∧ Cg m ((t : Int) * a) x ∧ Cg m ((s : Int) * a) y
theorem inv_start {m a : Nat} (hm : 2 ≤ m) : InvRel m a m (a % m) 0 1 := by
  refine ⟨Nat.le_refl _, Nat.mod_lt _ (by omega), by omega, by omega, ?_, ?_, ?_⟩
  · rw [Nat.gcd_comm, ← Nat.gcd_rec, Nat.gcd_comm]
  · have := (Cg.self (m : Int)).symm
    refine (Cg.of_eq ?_).trans this
    simp
  · rw [show ((1 : Nat) : Int) * a = a from by simp]
    exact (Cg.nat_mod a m).symm
theorem inv_round {m a x y t s : Nat} (hm : 2 ≤ m) (h : InvRel m a x y t s) (hy : 0 < y) : InvRel m a y (x % y) s (fsub m t (fmul m (x / y) s)) := by
  obtain ⟨h1, h2, h3, h4, h5, h6, h7⟩ := h
  refine ⟨by omega, Nat.mod_lt _ hy, h4, fsub_lt (by omega) _ _, ?_, h7, ?_⟩
  · rw [← h5, Nat.gcd_comm y (x % y), ← Nat.gcd_rec, Nat.gcd_comm]
  · have e1 := fsub_cg (p := m) (by omega) t (fmul m (x / y) s)
    have e2 := fmul_cg m (x / y) s
    have e3 := Cg.mul_right (a : Int) (e1.trans (Cg.sub (Cg.refl _) e2))
    have e4 := Cg.sub h6 (Cg.mul_left ((x / y : Nat) : Int) h7)
    refine e3.trans ((Cg.of_eq ?_).trans (e4.trans (Cg.of_eq ?_)))
    · grind
    · have h8 := Nat.div_add_mod x y
      have h9 : ((x : Int)) = y * (x / y : Nat) + (x % y : Nat) := by
        rw [← Int.natCast_mul, ← Int.natCast_add, h8]
      rw [h9]
      grind
theorem inv_end {m a x t s : Nat} (hm : 2 ≤ m) (h : InvRel m a x 0 t s) : x = Nat.gcd a m ∧ (x = 1 → minv m a = t) := by
  obtain ⟨h1, h2, h3, h4, h5, h6, h7⟩ := h
  rw [Nat.gcd_zero_right] at h5
  refine ⟨h5, fun e => minv_eq hm h3 ?_⟩
  subst e
  have e6 : Cg m ((t * a : Nat) : Int) ((1 : Nat) : Int) := by push_cast; exact h6
  have := Cg.nat_iff.1 e6
  rw [this, Nat.mod_eq_of_lt (by omega)]
set_option maxHeartbeats 400000 in
theorem minv_any (a m : Int) (ha : 0 ≤ a) (ha' : a < 18446744073709551616) (hm : 2 ≤ m) (hm' : m < 18446744073709551616) (w : World) :
    Calls Tryz.prog 178 #[.int .u64 a, .int .u64 m] w fun e w' => e = .returned (.tuple #[.int .u64 (minv m.toNat a.toNat : Nat), .bool (decide (Nat.gcd a.toNat m.toNat = 1))]) ∧ ∃ n, w' = w.drewN n := by
  obtain ⟨a, rfl⟩ := Int.eq_ofNat_of_zero_le ha
  obtain ⟨m, rfl⟩ := Int.eq_ofNat_of_zero_le (show 0 ≤ m by omega)
  simp only [Int.toNat_natCast]
  have h1 : decide ((m : Int) < 2) = false := by rw [decide_eq_false_iff_not]; omega
  have h2 : ¬ m = 0 := by omega
  obtain ⟨z, ez⟩ : ∃ z, a % m = z := ⟨_, rfl⟩
  have h3 : ((a : Int) % m) = (z : Int) := by rw [← ez, Int.natCast_emod]
  have S := inv_start (m := m) (a := a) (by omega)
  rw [ez] at S
  have M := Lib.hid (show 2 ≤ m ∧ m < 18446744073709551616 from ⟨by omega, by omega⟩)
  have H3 := Lib.hid h3
  clear ha ha' hm hm' ez
  go_enter Tryz.func178, Tryz.ntmps178
  go_wp2_with fail
  go_quiet (fail)
  go_wp2_with fail
  clear h1 h3
  go_loopw [6, 7, 8, 9, 10] (fun s6 s7 s8 s9 s10 wr => ∃ x y t s n : Nat, s6 = .int .u64 x ∧ s7 = .int .u64 y ∧ s8 = .int .u64 t ∧ s9 = .int .u64 s ∧ wr = w.drewN n ∧ InvRel m a x y t s) (fun _ s7 _ _ _ _ => (intOf s7).toNat)
  case atStart => exact ⟨m, z, 0, 1, _, rfl, congrArg (Value.int .u64) H3.out, rfl, rfl, rfl, S⟩
  case round =>
    clear S
    obtain ⟨x, y, t, s, n, rfl, rfl, rfl, rfl, rfl, R⟩ := hrel
    obtain ⟨m1, m2⟩ := M.out
    have R2 := R
    obtain ⟨r1, r2, r3, r4, -, -, -⟩ := R2
    by_cases hy : 0 < y
    · have t1 : decide (0 < y) = true := by rw [decide_eq_true_eq]; omega
      have t2 : ¬ y = 0 := by omega
      have R' := inv_round m1 R hy
      have hz := Nat.mod_lt x hy
      have q0 := Nat.div_le_self x y
      have q1 := Nat.div_mul_le_self x y
      have q2 := Nat.div_add_mod x y
      rw [Nat.mul_comm] at q2
      obtain ⟨q, eq⟩ : ∃ q, x / y = q := ⟨_, rfl⟩
      obtain ⟨z, ez⟩ : ∃ z, x % y = z := ⟨_, rfl⟩
      rw [eq, ez] at R'
      rw [eq] at q0 q1 q2
      rw [ez] at q2 hz
      have k1 : IntKind.u64.wrap ((x : Int) / y) = (q : Int) := by
        rw [← Int.natCast_ediv, eq]
        exact IntWalk.u64_in _ (by omega)
      have k2 : IntKind.u64.wrap ((x : Int) - IntKind.u64.wrap ((q : Int) * y)) = (z : Int) := by
        rw [← Int.natCast_mul]
        generalize q * y = qy at *
        rw [IntWalk.u64_in (qy : Int) (by omega), IntWalk.u64_in _ (by omega)]
        omega
      have c1 := Lib.hid (mmul_any q s m (by omega) (by omega) (by omega) (by omega) (by omega) (by omega))
      have x1 := fmul_lt (p := m) (by omega) q s
      have c2 := Lib.hid (msub_any t (fmul m q s : Nat) m (by omega) (by omega) (by omega) (by omega) (by omega) (by omega))
      have L := Lib.hid hz
      clear m1 m2 r1 r2 r3 r4 hy hz q0 q1 q2 eq ez x1 R
      go_wp2_with fail
      refine (c1.out _).mono ?_
      rintro e' w' ⟨rfl, n1, rfl⟩
      go_wp2_with fail
      refine (c2.out _).mono ?_
      rintro e' w' ⟨rfl, n2, rfl⟩
      go_wp2_with fail
      have L' := L.out
      exact ⟨⟨y, z, s, fsub m t (fmul m q s), _, rfl, rfl, rfl, rfl, rfl, R'⟩, by simp [intOf]; omega⟩
    · have t1 : decide (0 < y) = false := by rw [decide_eq_false_iff_not]; omega
      obtain rfl : y = 0 := by omega
      obtain ⟨f1, f2⟩ := inv_end m1 R
      have F1 := Lib.hid f1
      have F2 := Lib.hid f2
      by_cases hx : x = 1
      · have t3 : ((x : Int) != 1) = false := by rw [bne_eq_false_iff_eq]; omega
        have f3 := Lib.hid (show decide (Nat.gcd a m = 1) = true by rw [decide_eq_true_eq, ← f1, hx])
        have f4 := Lib.hid (f2 hx)
        clear f1 f2 hx m1 m2 r1 r2 r3 r4 hy R
        go_wp2_with fail
        go_ret2
        exact ⟨by rw [f3.out, f4.out]; rfl, _, rfl⟩
      · have t3 : ((x : Int) != 1) = true := by rw [bne_iff_ne]; omega
        have f3 := Lib.hid (show decide (Nat.gcd a m = 1) = false by rw [decide_eq_false_iff_not, ← f1]; exact hx)
        have f4 := Lib.hid (minv_none m1 (show Nat.gcd a m ≠ 1 by rw [← f1]; exact hx))
        clear f1 f2 hx m1 m2 r1 r2 r3 r4 hy R
        go_wp2_with fail
        go_ret2
        exact ⟨by rw [f3.out, f4.out]; rfl, _, rfl⟩
theorem radd_plain {m a b : Nat} (hm : 0 < m) (ha : a < m) (hb : b < m) : fadd m a b = if m - b ≤ a then a - (m - b) else a + b := by
  unfold fadd
  by_cases h : m - b ≤ a
  · rw [if_pos h, Nat.mod_eq_sub_mod (by omega), Nat.mod_eq_of_lt (by omega)]
    omega
  · rw [if_neg h, Nat.mod_eq_of_lt (by omega)]
theorem fadd_mod (m a b : Nat) : fadd m (a % m) (b % m) = fadd m a b := by
  unfold fadd
  rw [← Nat.add_mod]
set_option maxHeartbeats 400000 in
theorem radd_any (a b m : Int) (ha : 0 ≤ a) (ha' : a < 18446744073709551616) (hb : 0 ≤ b) (hb' : b < 18446744073709551616) (hm : 0 < m) (hm' : m < 18446744073709551616) (w : World) :
    Calls Tryz.prog 162 #[.int .u64 a, .int .u64 b, .int .u64 m] w fun e w' => e = .returned (.int .u64 (fadd m.toNat a.toNat b.toNat : Nat)) ∧ w = w' := by
  obtain ⟨a, rfl⟩ := Int.eq_ofNat_of_zero_le ha
  obtain ⟨b, rfl⟩ := Int.eq_ofNat_of_zero_le hb
  obtain ⟨m, rfl⟩ := Int.eq_ofNat_of_zero_le (show 0 ≤ m by omega)
  simp only [Int.toNat_natCast]
  have h1 : ¬ m = 0 := by omega
  obtain ⟨x, ex⟩ : ∃ x, a % m = x := ⟨_, rfl⟩
  obtain ⟨y, ey⟩ : ∃ y, b % m = y := ⟨_, rfl⟩
  have hx := Nat.mod_lt a (show 0 < m by omega)
  have hy := Nat.mod_lt b (show 0 < m by omega)
  have k1 : ((a : Int) % m) = (x : Int) := by rw [← ex, Int.natCast_emod]
  have k2 : ((b : Int) % m) = (y : Int) := by rw [← ey, Int.natCast_emod]
  have hp := radd_plain (m := m) (by omega) hx hy
  rw [fadd_mod, ex, ey] at hp
  rw [ex] at hx
  rw [ey] at hy
  obtain ⟨z, ez⟩ : ∃ z, m - y = z := ⟨_, rfl⟩
  have k3 : IntKind.u64.wrap ((m : Int) - y) = (z : Int) := by
    rw [IntWalk.u64_in _ (by omega)]
    omega
  rw [ez] at hp
  by_cases h : z ≤ x
  · have t1 : decide (z ≤ x) = true := by rw [decide_eq_true_eq]; exact h
    rw [if_pos h] at hp
    have k4 : IntKind.u64.wrap ((x : Int) - z) = ((x - z : Nat) : Int) := (IntWalk.u64_in _ (by omega)).trans (by omega)
    have F := Lib.hid (hp ▸ k4)
    clear ha ha' hb hb' hm hm' hx hy ex ey ez h hp k4
    go_enter Tryz.func162, Tryz.ntmps162
    go_wp2_with fail
    go_ret
    exact ⟨ret_int F.out, rfl⟩
  · have t1 : decide (z ≤ x) = false := by rw [decide_eq_false_iff_not]; exact h
    rw [if_neg h] at hp
    have k4 : IntKind.u64.wrap ((x : Int) + y) = ((x + y : Nat) : Int) := (IntWalk.u64_in _ (by omega)).trans (by omega)
    have F := Lib.hid (hp ▸ k4)
    clear ha ha' hb hb' hm hm' hx hy ex ey ez h hp k4
    go_enter Tryz.func162, Tryz.ntmps162
    go_wp2_with fail
    go_ret
    exact ⟨ret_int F.out, rfl⟩
/-- One bit of a factor. -/
theorem mul_step {m o x k A B : Nat} (h : (o + x * k) % m = A * B % m) : ((if k % 2 = 1 then fadd m o x else o) + fadd m x x * (k / 2)) % m = A * B % m := by
  rw [← h]
  have e1 : fadd m x x * (k / 2) % m = x * (2 * (k / 2)) % m := by
    unfold fadd
    rw [Nat.mul_mod, Nat.mod_mod, ← Nat.mul_mod]
    congr 1
    grind
  by_cases hk : k % 2 = 1
  · rw [if_pos hk, Nat.add_mod, e1, ← Nat.add_mod]
    unfold fadd
    rw [Nat.add_mod, Nat.mod_mod, ← Nat.add_mod]
    congr 1
    have : k = 2 * (k / 2) + 1 := by omega
    rw [show x * k = x * (2 * (k / 2) + 1) from by rw [← this]]
    grind
  · rw [if_neg hk, Nat.add_mod, e1, ← Nat.add_mod]
    congr 2
    rw [show 2 * (k / 2) = k from by omega]
set_option maxHeartbeats 400000 in
theorem rmul_any (a b m : Int) (ha : 0 ≤ a) (ha' : a < 18446744073709551616) (hb : 0 ≤ b) (hb' : b < 18446744073709551616) (hm : 0 < m) (hm' : m < 18446744073709551616) (w : World) :
    Calls Tryz.prog 95 #[.int .u64 a, .int .u64 b, .int .u64 m] w fun e w' => e = .returned (.int .u64 (fmul m.toNat a.toNat b.toNat : Nat)) ∧ w = w' := by
  obtain ⟨a, rfl⟩ := Int.eq_ofNat_of_zero_le ha
  obtain ⟨b, rfl⟩ := Int.eq_ofNat_of_zero_le hb
  obtain ⟨m, rfl⟩ := Int.eq_ofNat_of_zero_le (show 0 ≤ m by omega)
  simp only [Int.toNat_natCast]
  have h1 : ¬ m = 0 := by omega
  obtain ⟨x0, ex⟩ : ∃ x, a % m = x := ⟨_, rfl⟩
  have hx := Nat.mod_lt a (show 0 < m by omega)
  rw [ex] at hx
  have k1 : ((a : Int) % m) = (x0 : Int) := by rw [← ex, Int.natCast_emod]
  have S := Lib.hid (show 0 < m ∧ m < 18446744073709551616 ∧ x0 < m ∧ b < 18446744073709551616 ∧ (0 + x0 * b) % m = a * b % m from ⟨by omega, by omega, hx, by omega, by rw [Nat.zero_add, ← ex, Nat.mul_mod, Nat.mod_mod, ← Nat.mul_mod]⟩)
  have K1 := Lib.hid k1
  clear ha ha' hb hb' hm hm' hx ex
  go_enter Tryz.func95, Tryz.ntmps95
  go_wp2_with fail
  clear k1
  go_loop [0, 1, 7] (fun s0 s1 s7 => ∃ x k o : Nat, s0 = .int .u64 x ∧ s1 = .int .u64 k ∧ s7 = .int .u64 o ∧ Hid (x < m ∧ k < 18446744073709551616 ∧ o < m ∧ (o + x * k) % m = a * b % m)) (fun _ s1 _ => (intOf s1).toNat)
  case atStart =>
    obtain ⟨s1, s2, s3, s4, s5⟩ := S.out
    exact ⟨x0, b, 0, congrArg (Value.int .u64) K1.out, rfl, rfl, s3, s4, s1, s5⟩
  case round =>
    obtain ⟨x, k, o, rfl, rfl, rfl, hT⟩ := hrel
    obtain ⟨b1, b2, b3, b4⟩ := hT.out
    obtain ⟨s1, s2, -, -, -⟩ := S.out
    by_cases hk : 0 < k
    · have t1 : decide (0 < k) = true := by rw [decide_eq_true_eq]; omega
      have st := mul_step b4
      have c1 := Lib.hid (radd_any o x m (by omega) (by omega) (by omega) (by omega) (by omega) (by omega))
      have c2 := Lib.hid (radd_any x x m (by omega) (by omega) (by omega) (by omega) (by omega) (by omega))
      have x1 := fadd_lt s1 x x
      have y1 := fadd_lt s1 o x
      obtain ⟨k', ek⟩ : ∃ k', k / 2 = k' := ⟨_, rfl⟩
      have k1 : ((k : Int) / 2) = (k' : Int) := by omega
      have k2 : IntKind.u64.wrap (k' : Int) = k' := IntWalk.u64_in _ (by omega)
      rw [ek] at st
      have L := Lib.hid (show k' < k by omega)
      by_cases hp : k % 2 = 1
      · have t2 : (((k : Int) % 2) == 1) = true := by rw [beq_iff_eq]; omega
        rw [if_pos hp] at st
        have T := Lib.hid (show fadd m x x < m ∧ k' < 18446744073709551616 ∧ fadd m o x < m ∧ (fadd m o x + fadd m x x * k') % m = a * b % m from ⟨x1, by omega, y1, st⟩)
        clear b1 b2 b3 b4 s1 s2 hk st x1 y1 hp ek
        go_wp2_with fail
        refine (c1.out _).mono ?_
        rintro e' w' ⟨rfl, rfl⟩
        go_wp2_with fail
        refine (c2.out _).mono ?_
        rintro e' w' ⟨rfl, rfl⟩
        go_wp2_with fail
        have L' := L.out
        exact ⟨⟨_, k', _, rfl, rfl, rfl, T⟩, by simp [intOf]; omega⟩
      · have t2 : (((k : Int) % 2) == 1) = false := by rw [beq_eq_false_iff_ne]; omega
        rw [if_neg hp] at st
        have T := Lib.hid (show fadd m x x < m ∧ k' < 18446744073709551616 ∧ o < m ∧ (o + fadd m x x * k') % m = a * b % m from ⟨x1, by omega, b3, st⟩)
        clear b1 b2 b3 b4 s1 s2 hk st x1 y1 hp ek
        go_wp2_with fail
        refine (c2.out _).mono ?_
        rintro e' w' ⟨rfl, rfl⟩
        go_wp2_with fail
        have L' := L.out
        exact ⟨⟨_, k', _, rfl, rfl, rfl, T⟩, by simp [intOf]; omega⟩
    · have t1 : decide (0 < k) = false := by rw [decide_eq_false_iff_not]; omega
      have F := Lib.hid (show o = fmul m a b by
        have : k = 0 := by omega
        subst this
        unfold fmul
        rw [← b4, Nat.mul_zero, Nat.add_zero, Nat.mod_eq_of_lt b3])
      clear b1 b2 b3 b4 s1 s2 hk
      go_wp2_with fail
      go_ret
      exact ⟨ret_int (by rw [F.out]), rfl⟩
theorem fpow_half (m a e : Nat) : fpow m a e = if e % 2 = 1 then fmul m (fmul m (fpow m a (e / 2)) (fpow m a (e / 2))) a else fmul m (fpow m a (e / 2)) (fpow m a (e / 2)) := by
  unfold fpow fmul
  rw [← Nat.mul_mod, ← Nat.pow_add]
  by_cases h : e % 2 = 1
  · rw [if_pos h, Nat.mul_mod, Nat.mod_mod, ← Nat.mul_mod, ← Nat.pow_succ, show (e / 2 + e / 2).succ = e from by omega]
  · rw [if_neg h, show e / 2 + e / 2 = e from by omega]
set_option maxHeartbeats 400000 in
theorem rpow_nat (a m : Nat) (ha : a < 18446744073709551616) (hm : 0 < m) (hm' : m < 18446744073709551616) : ∀ (e : Nat), e < 18446744073709551616 → ∀ w : World,
    Calls Tryz.prog 161 #[.int .u64 a, .int .u64 e, .int .u64 m] w fun e' w' => e' = .returned (.int .u64 (fpow m a e : Nat)) ∧ w = w' := by
  intro e
  induction e using Nat.strongRecOn with
  | _ e ih =>
    intro he w
    have hM : ¬ m = 0 := by omega
    by_cases h0 : e = 0
    · subst h0
      have h3 : (1 : Int) % m = ((1 % m : Nat) : Int) := by rw [Int.natCast_emod]; rfl
      have F := Lib.hid (show ((1 % m : Nat) : Int) = (fpow m a 0 : Nat) by unfold fpow; rw [Nat.pow_zero])
      have F2 := Lib.hid h3
      clear ih he ha hm hm' h3
      go_enter Tryz.func161, Tryz.ntmps161
      go_wp2_with fail
      go_ret
      exact ⟨ret_int (by rw [← F.out, ← F2.out]), rfl⟩
    · have t0 : ((e : Int) == 0) = false := by rw [beq_eq_false_iff_ne]; omega
      obtain ⟨k', ek⟩ : ∃ k', e / 2 = k' := ⟨_, rfl⟩
      have k1 : ((e : Int) / 2) = (k' : Int) := by omega
      have k2 : IntKind.u64.wrap (k' : Int) = k' := IntWalk.u64_in _ (by omega)
      have c0 := Lib.hid (ih k' (by omega) (by omega))
      have hs := fpow_half m a e
      rw [ek] at hs
      have l1 : fpow m a k' < m := Nat.mod_lt _ hm
      have l2 := fmul_lt hm (fpow m a k') (fpow m a k')
      have c1 := Lib.hid (rmul_any (fpow m a k' : Nat) (fpow m a k' : Nat) m (by omega) (by omega) (by omega) (by omega) (by omega) (by omega))
      have c2 := Lib.hid (rmul_any (fmul m (fpow m a k') (fpow m a k') : Nat) a m (by omega) (by omega) (by omega) (by omega) (by omega) (by omega))
      by_cases hp : e % 2 = 1
      · have t2 : (((e : Int) % 2) == 1) = true := by rw [beq_iff_eq]; omega
        rw [if_pos hp] at hs
        have F := Lib.hid hs
        clear ih he ha hm hm' hs l1 l2 hp ek h0
        go_enter Tryz.func161, Tryz.ntmps161
        go_wp2_with fail
        refine (c0.out _).mono ?_
        rintro e' w' ⟨rfl, rfl⟩
        go_wp2_with fail
        refine (c1.out _).mono ?_
        rintro e' w' ⟨rfl, rfl⟩
        go_wp2_with fail
        refine (c2.out _).mono ?_
        rintro e' w' ⟨rfl, rfl⟩
        go_wp2_with fail
        go_ret
        exact ⟨ret_int (by rw [F.out]), rfl⟩
      · have t2 : (((e : Int) % 2) == 1) = false := by rw [beq_eq_false_iff_ne]; omega
        rw [if_neg hp] at hs
        have F := Lib.hid hs
        clear ih he ha hm hm' hs l1 l2 hp ek h0
        go_enter Tryz.func161, Tryz.ntmps161
        go_wp2_with fail
        refine (c0.out _).mono ?_
        rintro e' w' ⟨rfl, rfl⟩
        go_wp2_with fail
        refine (c1.out _).mono ?_
        rintro e' w' ⟨rfl, rfl⟩
        go_wp2_with fail
        go_ret
        exact ⟨ret_int (by rw [F.out]), rfl⟩
theorem rpow_any (a e m : Int) (ha : 0 ≤ a) (ha' : a < 18446744073709551616) (he : 0 ≤ e) (he' : e < 18446744073709551616) (hm : 0 < m) (hm' : m < 18446744073709551616) (w : World) :
    Calls Tryz.prog 161 #[.int .u64 a, .int .u64 e, .int .u64 m] w fun e' w' => e' = .returned (.int .u64 (fpow m.toNat a.toNat e.toNat : Nat)) ∧ w = w' := by
  obtain ⟨a, rfl⟩ := Int.eq_ofNat_of_zero_le ha
  obtain ⟨e, rfl⟩ := Int.eq_ofNat_of_zero_le he
  obtain ⟨m, rfl⟩ := Int.eq_ofNat_of_zero_le (show 0 ≤ m by omega)
  exact rpow_nat a m (by omega) (by omega) (by omega) e (by omega) w
end Go.Proofs.YtbokindcnkknmaaGreat
