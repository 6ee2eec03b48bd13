/- Contracts of math/bits.Div64 and Rem64: the quotient and the rest of a number of 128 bits, for every divisor that is greater than the high half. -/
import Derived.Test.YtbokindcnkknmaaGreatBits
import Derived.Test.YtbokindcnkknmaaGreatMv
import Derived.Lib.ItoaNum
set_option linter.unusedVariables false
namespace Go.Proofs.YtbokindcnkknmaaGreat
open Go.RowKit Epi

theorem bitLen_pos {y : Nat} (h0 : 0 < y) (h : y < 18446744073709551616) : 1 ≤ Lib.bitLen y ∧ Lib.bitLen y ≤ 64 ∧ 2 ^ (Lib.bitLen y - 1) ≤ y ∧ y < 2 ^ Lib.bitLen y := by
  have h1 := Lib.bitLenAux_bounds 64 y h (by omega)
  have h2 := Lib.bitLen_le y 64 (by omega) h
  unfold Lib.bitLen at *
  omega
/-- Moved so that the highest bit is there. -/
theorem normal {y : Nat} (h0 : 0 < y) (h : y < 18446744073709551616) : ∃ s : Nat, s ≤ 63 ∧ (64 - (Lib.bitLen y : Int)) = (s : Int) ∧ 9223372036854775808 ≤ y * 2 ^ s ∧ y * 2 ^ s < 18446744073709551616 := by
  obtain ⟨h1, h2, h3, h4⟩ := bitLen_pos h0 h
  refine ⟨64 - Lib.bitLen y, by omega, by omega, ?_, ?_⟩
  · have : 2 ^ (Lib.bitLen y - 1) * 2 ^ (64 - Lib.bitLen y) ≤ y * 2 ^ (64 - Lib.bitLen y) := Nat.mul_le_mul_right _ h3
    rw [← Nat.pow_add, show Lib.bitLen y - 1 + (64 - Lib.bitLen y) = 63 from by omega] at this
    exact this
  · have : y * 2 ^ (64 - Lib.bitLen y) < 2 ^ Lib.bitLen y * 2 ^ (64 - Lib.bitLen y) := Nat.mul_lt_mul_of_pos_right h4 (Nat.pow_pos (by omega))
    rw [← Nat.pow_add, show Lib.bitLen y + (64 - Lib.bitLen y) = 64 from by omega] at this
    exact this
/-- What stands in the frame behind the set-up. -/
def Set64 (hi lo y s v v1 v0 U un10 un1 un0 : Nat) : Prop :=
  s ≤ 63 ∧ v = y * 2 ^ s ∧ 9223372036854775808 ≤ v ∧ v < 18446744073709551616 ∧ v = v1 * 4294967296 + v0 ∧ v0 < 4294967296 ∧ v1 < 4294967296 ∧ 2147483648 ≤ v1 ∧ U < v ∧
  un10 = un1 * 4294967296 + un0 ∧ un0 < 4294967296 ∧ un1 < 4294967296 ∧ (hi * 18446744073709551616 + lo) * 2 ^ s = U * 18446744073709551616 + un10
theorem shl_in {y s : Nat} (h : y * 2 ^ s < 18446744073709551616) : IntKind.u64.wrap ((y : Int) * 2 ^ s) = ((y * 2 ^ s : Nat) : Int) := by
  rw [u64_wrap]
  have : ((y : Int) * 2 ^ s) = ((y * 2 ^ s : Nat) : Int) := by rw [Int.natCast_mul, Int.natCast_pow]; rfl
  rw [this]
  omega
theorem set64 {hi lo y s : Nat} (hlt : hi < y) (hlo : lo < 18446744073709551616) (hs : s ≤ 63) (h1 : 9223372036854775808 ≤ y * 2 ^ s) (h2 : y * 2 ^ s < 18446744073709551616) :
    ∃ v v1 v0 U un10 un1 un0 : Nat, Set64 hi lo y s v v1 v0 U un10 un1 un0 ∧ IntKind.u64.wrap ((y : Int) * 2 ^ s) = v ∧ (v : Int) / 4294967296 = v1 ∧ bits .and .u64 (v : Int) 4294967295 = v0 ∧
      bits .or .u64 (IntKind.u64.wrap ((hi : Int) * 2 ^ s)) ((lo : Int) / 2 ^ (64 - s)) = U ∧ IntKind.u64.wrap ((lo : Int) * 2 ^ s) = un10 ∧ (un10 : Int) / 4294967296 = un1 ∧ bits .and .u64 (un10 : Int) 4294967295 = un0 := by
  have w1 := moved_words (hi := hi) hs hlo
  have w2 := high_word_lt hlt hs hlo
  have w3 := high_lt hs hlo
  refine ⟨y * 2 ^ s, y * 2 ^ s / 4294967296, y * 2 ^ s % 4294967296, hi * 2 ^ s + lo / 2 ^ (64 - s), lo * 2 ^ s % 18446744073709551616, lo * 2 ^ s % 18446744073709551616 / 4294967296, lo * 2 ^ s % 18446744073709551616 % 4294967296, ?_, shl_in h2, ?_, ?_, ?_, ?_, ?_, ?_⟩
  · refine ⟨hs, rfl, h1, h2, ?_, ?_, ?_, ?_, w2, ?_, ?_, ?_, w1⟩
    all_goals omega
  · omega
  · rw [u64_lo _ (by omega) (by omega)]
    omega
  · have h9 := Nat.zero_le (lo / 2 ^ (64 - s))
    have h3 : hi * 2 ^ s < 18446744073709551616 := by omega
    rw [shl_in h3]
    have e : ((lo : Int) / 2 ^ (64 - s)) = ((lo / 2 ^ (64 - s) : Nat) : Int) := by rw [Int.natCast_ediv, Int.natCast_pow]; rfl
    rw [e, u64_or_nat _ _ h3 (by omega), nat_join s _ _ (Nat.mul_mod_left _ _) w3]
  · rw [u64_wrap]
    have : ((lo : Int) * 2 ^ s) = ((lo * 2 ^ s : Nat) : Int) := by rw [Int.natCast_mul, Int.natCast_pow]; rfl
    rw [this]
    omega
  · omega
  · rw [u64_lo _ (by omega) (by omega)]
    omega
theorem lz64_any (x : Int) (w : World) (h0 : 0 ≤ x) (h1 : x < 18446744073709551616) :
    Calls Tryz.prog 227 #[.int .u64 x] w fun e w' => e = .returned (.int .i64 (64 - (Lib.bitLen x.toNat : Int))) ∧ w = w' :=
  (Tryz.bits_LeadingZeros64 x w h0 (by omega)).mono fun _ _ h => ⟨h.1, h.2.symm⟩
theorem guess_words {U d v v1 v0 : Nat} (hv : v = v1 * 4294967296 + v0) (h1 : 0 < v1) (hd : d < 4294967296) (hU : U < v) (hv2 : v < 18446744073709551616) :
    ∃ q r : Nat, Guess U d v v1 q r ∧ r < v1 ∧ q < 18446744073709551616 ∧ IntKind.u64.wrap ((U : Int) / v1) = q ∧ IntKind.u64.wrap ((U : Int) - IntKind.u64.wrap ((q : Int) * v1)) = r := by
  have h2 := Nat.div_le_self U v1
  have h3 := Nat.div_add_mod U v1
  have h4 := Nat.div_mul_le_self U v1
  refine ⟨U / v1, U % v1, guess_first hv h1 hd hU, Nat.mod_lt _ h1, by omega, ?_, ?_⟩
  · rw [← Int.natCast_ediv]
    generalize U / v1 = z at *
    exact IntWalk.u64_in _ (by omega)
  · rw [← Int.natCast_mul, IntWalk.u64_in ((U / v1 * v1 : Nat) : Int) (by omega), Nat.mul_comm]
    rw [Nat.mul_comm] at h4
    have : ((U : Int) - ((v1 * (U / v1) : Nat) : Int)) = ((U % v1 : Nat) : Int) := by omega
    rw [this]
    exact IntWalk.u64_in _ (by have := Nat.mod_lt U h1; omega)
/-- A digit, and what is left, in words of 64 bits. -/
theorem digit_words {U d v Q : Nat} (hv0 : 0 < v) (hv2 : v < 18446744073709551616) (hQ : Q = (U * 4294967296 + d) / v) :
    IntKind.u64.wrap (IntKind.u64.wrap (IntKind.u64.wrap ((U : Int) * 4294967296) + d) - IntKind.u64.wrap ((Q : Int) * v)) = ((U * 4294967296 + d) % v : Nat) := by
  have h1 := Nat.div_add_mod (U * 4294967296 + d) v
  have h2 := Nat.mod_lt (U * 4294967296 + d) hv0
  rw [← hQ, Nat.mul_comm] at h1
  generalize (U * 4294967296 + d) % v = r at *
  rw [← Int.natCast_mul]
  generalize Q * v = z at *
  simp only [u64_wrap]
  omega

theorem tst_prod {q v0 : Nat} (hq : q < 4294967296) (h0 : v0 < 4294967296) : IntKind.u64.wrap ((q : Int) * v0) = ((q * v0 : Nat) : Int) := by
  have := mul_le _ _ hq h0
  rw [← Int.natCast_mul]
  exact IntWalk.u64_in _ (by omega)
theorem tst_sum {r d : Nat} (hr : r < 4294967296) (hd : d < 4294967296) : IntKind.u64.wrap (IntKind.u64.wrap (4294967296 * (r : Int)) + d) = ((4294967296 * r + d : Nat) : Int) := by
  simp only [u64_wrap]
  omega
noncomputable def quo128 (hi lo y : Nat) : Nat := (hi * W64 + lo) / y
noncomputable def rem128 (hi lo y : Nat) : Nat := (hi * W64 + lo) % y
theorem last_words {hi lo y s v v1 v0 U un10 un1 un0 Q R Q0 : Nat} (hS : Set64 hi lo y s v v1 v0 U un10 un1 un0) (hQ : Q = (U * 4294967296 + un1) / v) (hR : (U * 4294967296 + un1) % v = R)
    (hQ0 : Q0 = (R * 4294967296 + un0) / v) : IntKind.u64.wrap (IntKind.u64.wrap ((Q : Int) * 4294967296) + Q0) = (quo128 hi lo y : Nat) ∧ (((R * 4294967296 + un0) % v : Nat) : Int) / 2 ^ s = (rem128 hi lo y : Nat) := by
  obtain ⟨k0, kv, k1, k2, k3, k4, k5, k6, k7, k8, k9, k10, k11⟩ := hS
  have t := two_digits (U := U) (a := un1) (b := un0) (v := v) 4294967296 (by omega)
  rw [hR, ← hQ, ← hQ0] at t
  have e : U * (4294967296 * 4294967296) + (un1 * 4294967296 + un0) = (hi * 18446744073709551616 + lo) * 2 ^ s := by rw [k11, k8]
  rw [e, kv] at t
  have hy : 0 < y := Nat.pos_of_ne_zero (by rintro rfl; simp at kv; omega)
  have m := moved_div (X := hi * 18446744073709551616 + lo) (y := y) (s := s) hy
  have hQl := digit_lt (v := v) k7 k10
  have hRl := Nat.mod_lt (U * 4294967296 + un1) (show 0 < v by omega)
  rw [hR] at hRl
  have hQ0l := digit_lt (v := v) hRl k9
  rw [← hQ] at hQl
  rw [← hQ0] at hQ0l
  constructor
  · have : quo128 hi lo y = Q * 4294967296 + Q0 := by
      simp only [quo128, W64_num]
      rw [← m.1]
      exact t.1
    rw [this]
    simp only [u64_wrap]
    omega
  · have : rem128 hi lo y = (R * 4294967296 + un0) % v / 2 ^ s := by
      simp only [rem128, W64_num]
      rw [← m.2, kv]
      exact congrArg (· / 2 ^ s) t.2
    rw [this, Int.natCast_ediv, Int.natCast_pow]
    rfl
set_option maxHeartbeats 1000000 in
set_option maxRecDepth 100000 in
theorem div64_hi (hi lo y : Nat) (hhi : 0 < hi) (hlt : hi < y) (hlo : lo < 18446744073709551616) (hy : y < 18446744073709551616) (w : World) :
    Calls Tryz.prog 208 #[.int .u64 hi, .int .u64 lo, .int .u64 y] w fun e w' => e = .returned (.tuple #[.int .u64 (quo128 hi lo y : Nat), .int .u64 (rem128 hi lo y : Nat)]) ∧ w = w' := by
  have h1 : ((y : Int) == 0) = false := by simp; omega
  have h2 : ((hi : Int) == 0) = false := by simp; omega
  obtain ⟨s, hs, hL, hn1, hn2⟩ := normal (y := y) (by omega) hy
  obtain ⟨v, v1, v0, U, un10, un1, un0, hS, e1, e2, e3, e4, e5, e6, e7⟩ := set64 hlt hlo hs hn1 hn2
  clear hn1 hn2
  have hS' := hS
  obtain ⟨-, -, k1, k2, k3, k4, k5, k6, k7, k8, k9, k10, -⟩ := hS'
  have m1 : min s 64 = s := by omega
  have m2 : (64 - (s : Int)).toNat = 64 - s := by omega
  have m3 : min (64 - s) 64 = 64 - s := by omega
  obtain ⟨q, r, hG, g0, g1, g2, g3⟩ := guess_words k3 (by omega) k10 k7 k2
  have K3 := Lib.hid k3
  have K8 := Lib.hid k8
  clear k3 k8
  go_enter Tryz.func208, Tryz.ntmps208
  go_upto_block 0 with (first | (go_at_call 227; refine (lz64_any _ _ (by omega) (by omega)).mono ?_; rintro e w' ⟨rfl, rfl⟩))
  have hww := ‹¬ y ≤ hi›
  clear e1 e2 e3 e4 e5 e6 e7 hL m1 m2 m3 g2 g3 h1 h2 hww
  go_cut [15, 16] (fun a b wc => w = wc ∧ ∃ Q : Nat, Hid (Q = (U * 4294967296 + un1) / v) ∧ a = .int .u64 Q)
  case first =>
    go_wp2_with fail
    go_loop [15, 16] (fun a b => ∃ q r : Nat, Guess U un1 v v1 q r ∧ r < 4294967296 ∧ q < 18446744073709551616 ∧ a = .int .u64 q ∧ b = .int .u64 r) (fun a _ => (intOf a).toNat)
    case atStart => exact ⟨q, r, hG, by omega, g1, rfl, rfl⟩
    case round =>
      clear hG g0 g1
      obtain ⟨q, r, hG, hr, hq, rfl, rfl⟩ := hrel
      have k3 := K3.out
      by_cases c : 4294967296 ≤ q ∨ 4294967296 * r + un1 < q * v0
      · obtain ⟨hG', hq1⟩ := guess_next k3 k7 k10 (by omega) hG c
        obtain ⟨qn, eqn⟩ : ∃ qn, q - 1 = qn := ⟨_, rfl⟩
        obtain ⟨rn, ern⟩ : ∃ rn, r + v1 = rn := ⟨_, rfl⟩
        rw [eqn, ern] at hG'
        have hqn : qn < 18446744073709551616 := by omega
        have hqn' : qn < q := by omega
        have p4 : IntKind.u64.wrap ((q : Int) - 1) = (qn : Int) := (IntWalk.u64_in _ (by omega)).trans (by omega)
        have p3 : IntKind.u64.wrap ((r : Int) + v1) = (rn : Int) := (IntWalk.u64_in _ (by omega)).trans (by omega)
        by_cases c1 : 4294967296 ≤ q
        · have t1 : decide ((4294967296 : Int) ≤ (q : Int)) = true := by rw [decide_eq_true_eq]; omega
          by_cases c3 : 4294967296 ≤ rn
          · have t3 : decide ((4294967296 : Int) ≤ (rn : Int)) = true := by rw [decide_eq_true_eq]; omega
            have T := Lib.hid (guess_break k3 k4 (by omega) k7 hG' c3)
            clear c c1 c3 hq hq1 hr k3 hG hG' hqn hqn' k1 k2 k4 k5 k6 k7 k9 k10 hlt hlo hy hhi hs eqn ern
            go_wp2
            go_meet
            exact ⟨rfl, qn, T, rfl⟩
          · have t3 : decide ((4294967296 : Int) ≤ (rn : Int)) = false := by rw [decide_eq_false_iff_not]; omega
            have T := Lib.hid (And.intro hG' (And.intro (Nat.lt_of_not_le c3) hqn))
            have T2 := Lib.hid hqn'
            clear c c1 c3 hq hq1 hr k3 hG hG' hqn hqn' k1 k2 k4 k5 k6 k7 k9 k10 hlt hlo hy hhi hs eqn ern
            go_wp2
            have e := T2.out
            exact ⟨⟨qn, rn, T.out.1, T.out.2.1, T.out.2.2, rfl, rfl⟩, by simp [intOf]; omega⟩
        · have t1 : decide ((4294967296 : Int) ≤ (q : Int)) = false := by rw [decide_eq_false_iff_not]; omega
          have p1 : IntKind.u64.wrap ((q : Int) * v0) = ((q * v0 : Nat) : Int) := tst_prod (by omega) k4
          obtain ⟨z, ez⟩ : ∃ z, q * v0 = z := ⟨_, rfl⟩
          obtain ⟨z', ez'⟩ : ∃ z', 4294967296 * r + un1 = z' := ⟨_, rfl⟩
          rw [ez] at p1
          have p2 : IntKind.u64.wrap (IntKind.u64.wrap (4294967296 * (r : Int)) + un1) = (z' : Int) := (tst_sum hr k10).trans (by omega)
          have t2 : decide (z' < z) = true := by rw [decide_eq_true_eq]; omega
          clear ez ez'
          by_cases c3 : 4294967296 ≤ rn
          · have t3 : decide ((4294967296 : Int) ≤ (rn : Int)) = true := by rw [decide_eq_true_eq]; omega
            have T := Lib.hid (guess_break k3 k4 (by omega) k7 hG' c3)
            clear c c1 c3 hq hq1 hr k3 hG hG' hqn hqn' k1 k2 k4 k5 k6 k7 k9 k10 hlt hlo hy hhi hs eqn ern
            go_wp2
            go_meet
            exact ⟨rfl, qn, T, rfl⟩
          · have t3 : decide ((4294967296 : Int) ≤ (rn : Int)) = false := by rw [decide_eq_false_iff_not]; omega
            have T := Lib.hid (And.intro hG' (And.intro (Nat.lt_of_not_le c3) hqn))
            have T2 := Lib.hid hqn'
            clear c c1 c3 hq hq1 hr k3 hG hG' hqn hqn' k1 k2 k4 k5 k6 k7 k9 k10 hlt hlo hy hhi hs eqn ern
            go_wp2
            have e := T2.out
            exact ⟨⟨qn, rn, T.out.1, T.out.2.1, T.out.2.2, rfl, rfl⟩, by simp [intOf]; omega⟩
      · have c1 : q < 4294967296 := by omega
        have t1 : decide ((4294967296 : Int) ≤ (q : Int)) = false := by rw [decide_eq_false_iff_not]; omega
        have p1 : IntKind.u64.wrap ((q : Int) * v0) = ((q * v0 : Nat) : Int) := tst_prod (by omega) k4
        obtain ⟨z, ez⟩ : ∃ z, q * v0 = z := ⟨_, rfl⟩
        obtain ⟨z', ez'⟩ : ∃ z', 4294967296 * r + un1 = z' := ⟨_, rfl⟩
        rw [ez] at p1
        have p2 : IntKind.u64.wrap (IntKind.u64.wrap (4294967296 * (r : Int)) + un1) = (z' : Int) := (tst_sum hr k10).trans (by omega)
        have t2 : decide (z' < z) = false := by rw [decide_eq_false_iff_not]; omega
        have T := Lib.hid (guess_right k3 k7 hG (by omega))
        clear ez ez' c c1 hq hr k3 hG k1 k2 k4 k5 k6 k7 k9 k10 hlt hlo hy hhi hs
        go_wp2
        go_meet
        exact ⟨rfl, q, T, rfl⟩
  case rest =>
    obtain ⟨rfl, Q, hQ, rfl⟩ := hcut
    have d1 := digit_words (U := U) (d := un1) (by omega) k2 hQ.out
    have hR := Nat.mod_lt (U * 4294967296 + un1) (show 0 < v by omega)
    obtain ⟨R, eR⟩ : ∃ R, (U * 4294967296 + un1) % v = R := ⟨_, rfl⟩
    rw [eR] at d1 hR
    have ER := Lib.hid eR
    clear eR hG g0 g1
    obtain ⟨q', r', hG', g0', g1', g2', g3'⟩ := guess_words K3.out (by omega) k9 hR k2
    go_upto_block 2 with (fail)
    clear g2' g3' d1
    go_cut [18, 16] (fun a b wc => w = wc ∧ ∃ Q : Nat, Hid (Q = (R * 4294967296 + un0) / v) ∧ a = .int .u64 Q)
    case first =>
      go_wp2_with fail
      go_loop [18, 16] (fun a b => ∃ q r : Nat, Guess R un0 v v1 q r ∧ r < 4294967296 ∧ q < 18446744073709551616 ∧ a = .int .u64 q ∧ b = .int .u64 r) (fun a _ => (intOf a).toNat)
      case atStart => exact ⟨q', r', hG', by omega, g1', rfl, rfl⟩
      case round =>
        clear hG' g0' g1'
        obtain ⟨q, r, hG, hr, hq, rfl, rfl⟩ := hrel
        have k3 := K3.out
        by_cases c : 4294967296 ≤ q ∨ 4294967296 * r + un0 < q * v0
        · obtain ⟨hG', hq1⟩ := guess_next k3 hR k9 (by omega) hG c
          obtain ⟨qn, eqn⟩ : ∃ qn, q - 1 = qn := ⟨_, rfl⟩
          obtain ⟨rn, ern⟩ : ∃ rn, r + v1 = rn := ⟨_, rfl⟩
          rw [eqn, ern] at hG'
          have hqn : qn < 18446744073709551616 := by omega
          have hqn' : qn < q := by omega
          have p4 : IntKind.u64.wrap ((q : Int) - 1) = (qn : Int) := (IntWalk.u64_in _ (by omega)).trans (by omega)
          have p3 : IntKind.u64.wrap ((r : Int) + v1) = (rn : Int) := (IntWalk.u64_in _ (by omega)).trans (by omega)
          by_cases c1 : 4294967296 ≤ q
          · have t1 : decide ((4294967296 : Int) ≤ (q : Int)) = true := by rw [decide_eq_true_eq]; omega
            by_cases c3 : 4294967296 ≤ rn
            · have t3 : decide ((4294967296 : Int) ≤ (rn : Int)) = true := by rw [decide_eq_true_eq]; omega
              have T := Lib.hid (guess_break k3 k4 (by omega) hR hG' c3)
              clear c c1 c3 hq hq1 hr k3 hG hG' hqn hqn' k1 k2 k4 k5 k6 k7 k9 k10 hlt hlo hy hhi hs eqn ern hR
              go_wp2
              go_meet
              exact ⟨rfl, qn, T, rfl⟩
            · have t3 : decide ((4294967296 : Int) ≤ (rn : Int)) = false := by rw [decide_eq_false_iff_not]; omega
              have T := Lib.hid (And.intro hG' (And.intro (Nat.lt_of_not_le c3) hqn))
              have T2 := Lib.hid hqn'
              clear c c1 c3 hq hq1 hr k3 hG hG' hqn hqn' k1 k2 k4 k5 k6 k7 k9 k10 hlt hlo hy hhi hs eqn ern hR
              go_wp2
              have e := T2.out
              exact ⟨⟨qn, rn, T.out.1, T.out.2.1, T.out.2.2, rfl, rfl⟩, by simp [intOf]; omega⟩
          · have t1 : decide ((4294967296 : Int) ≤ (q : Int)) = false := by rw [decide_eq_false_iff_not]; omega
            have p1 : IntKind.u64.wrap ((q : Int) * v0) = ((q * v0 : Nat) : Int) := tst_prod (by omega) k4
            obtain ⟨z, ez⟩ : ∃ z, q * v0 = z := ⟨_, rfl⟩
            obtain ⟨z', ez'⟩ : ∃ z', 4294967296 * r + un0 = z' := ⟨_, rfl⟩
            rw [ez] at p1
            have p2 : IntKind.u64.wrap (IntKind.u64.wrap (4294967296 * (r : Int)) + un0) = (z' : Int) := (tst_sum hr k9).trans (by omega)
            have t2 : decide (z' < z) = true := by rw [decide_eq_true_eq]; omega
            clear ez ez'
            by_cases c3 : 4294967296 ≤ rn
            · have t3 : decide ((4294967296 : Int) ≤ (rn : Int)) = true := by rw [decide_eq_true_eq]; omega
              have T := Lib.hid (guess_break k3 k4 (by omega) hR hG' c3)
              clear c c1 c3 hq hq1 hr k3 hG hG' hqn hqn' k1 k2 k4 k5 k6 k7 k9 k10 hlt hlo hy hhi hs eqn ern hR
              go_wp2
              go_meet
              exact ⟨rfl, qn, T, rfl⟩
            · have t3 : decide ((4294967296 : Int) ≤ (rn : Int)) = false := by rw [decide_eq_false_iff_not]; omega
              have T := Lib.hid (And.intro hG' (And.intro (Nat.lt_of_not_le c3) hqn))
              have T2 := Lib.hid hqn'
              clear c c1 c3 hq hq1 hr k3 hG hG' hqn hqn' k1 k2 k4 k5 k6 k7 k9 k10 hlt hlo hy hhi hs eqn ern hR
              go_wp2
              have e := T2.out
              exact ⟨⟨qn, rn, T.out.1, T.out.2.1, T.out.2.2, rfl, rfl⟩, by simp [intOf]; omega⟩
        · have c1 : q < 4294967296 := by omega
          have t1 : decide ((4294967296 : Int) ≤ (q : Int)) = false := by rw [decide_eq_false_iff_not]; omega
          have p1 : IntKind.u64.wrap ((q : Int) * v0) = ((q * v0 : Nat) : Int) := tst_prod (by omega) k4
          obtain ⟨z, ez⟩ : ∃ z, q * v0 = z := ⟨_, rfl⟩
          obtain ⟨z', ez'⟩ : ∃ z', 4294967296 * r + un0 = z' := ⟨_, rfl⟩
          rw [ez] at p1
          have p2 : IntKind.u64.wrap (IntKind.u64.wrap (4294967296 * (r : Int)) + un0) = (z' : Int) := (tst_sum hr k9).trans (by omega)
          have t2 : decide (z' < z) = false := by rw [decide_eq_false_iff_not]; omega
          have T := Lib.hid (guess_right k3 hR hG (by omega))
          clear ez ez' c c1 hq hr k3 hG k1 k2 k4 k5 k6 k7 k9 k10 hlt hlo hy hhi hs hR
          go_wp2
          go_meet
          exact ⟨rfl, q, T, rfl⟩
    case rest =>
      obtain ⟨rfl, Q0, hQ0, rfl⟩ := hcut
      have d2 := digit_words (U := R) (d := un0) (by omega) k2 hQ0.out
      obtain ⟨fin1, fin2⟩ := last_words hS hQ.out ER.out hQ0.out
      obtain ⟨R0, eR0⟩ : ∃ R0, (R * 4294967296 + un0) % v = R0 := ⟨_, rfl⟩
      rw [eR0] at d2 fin2
      have F1 := Lib.hid fin1
      have F2 := Lib.hid fin2
      have m1 : min s 64 = s := by omega
      have HS := Lib.hid hs
      clear fin1 fin2 eR0 hs k1 k2 k4 k5 k6 k7 k9 k10 hlt hlo hy hhi hR
      go_wp2
      go_ret2
      exact ⟨ret_int2 F1.out F2.out, rfl⟩
set_option maxHeartbeats 400000 in
theorem div64_lo (lo y : Nat) (hy0 : 0 < y) (hlo : lo < 18446744073709551616) (hy : y < 18446744073709551616) (w : World) :
    Calls Tryz.prog 208 #[.int .u64 0, .int .u64 lo, .int .u64 y] w fun e w' => e = .returned (.tuple #[.int .u64 (quo128 0 lo y : Nat), .int .u64 (rem128 0 lo y : Nat)]) ∧ ∃ n, w' = w.drewN n := by
  have h1 : ((y : Int) == 0) = false := by simp; omega
  have h2 := Nat.div_le_self lo y
  have h3 : IntKind.u64.wrap ((lo : Int) / y) = (lo : Int) / y := by
    rw [← Int.natCast_ediv]
    generalize lo / y = z at *
    exact IntWalk.u64_in _ (by omega)
  clear h2
  go_enter Tryz.func208, Tryz.ntmps208
  go_wp2_with fail
  go_quiet (fail)
  go_wp2
  go_ret2
  refine ⟨ret_int2 ?_ ?_, _, rfl⟩
  · unfold quo128
    rw [Nat.zero_mul, Nat.zero_add, Int.natCast_ediv]
  · unfold rem128
    rw [Nat.zero_mul, Nat.zero_add, Int.natCast_emod]
theorem div64_any (hi lo y : Int) (h0 : 0 ≤ hi) (hlt : hi < y) (hl0 : 0 ≤ lo) (hlo : lo < 18446744073709551616) (hy : y < 18446744073709551616) (w : World) :
    Calls Tryz.prog 208 #[.int .u64 hi, .int .u64 lo, .int .u64 y] w fun e w' => e = .returned (.tuple #[.int .u64 (quo128 hi.toNat lo.toNat y.toNat : Nat), .int .u64 (rem128 hi.toNat lo.toNat y.toNat : Nat)]) ∧ ∃ n, w' = w.drewN n := by
  obtain ⟨hi, rfl⟩ := Int.eq_ofNat_of_zero_le h0
  obtain ⟨lo, rfl⟩ := Int.eq_ofNat_of_zero_le hl0
  obtain ⟨y, rfl⟩ := Int.eq_ofNat_of_zero_le (show 0 ≤ y by omega)
  simp only [Int.toNat_natCast]
  rcases Nat.eq_zero_or_pos hi with rfl | hp
  · exact div64_lo lo y (by omega) (by omega) (by omega) w
  · exact (div64_hi hi lo y hp (by omega) (by omega) (by omega) w).mono fun _ _ h => ⟨h.1, 0, h.2.symm⟩
/-- What is left, whatever the high half. -/
noncomputable def rest128 (hi lo y : Nat) : Nat := (hi * W64 + lo) % y
theorem rem128_mod (hi lo y : Nat) : rem128 (hi % y) lo y = rest128 hi lo y := by
  unfold rem128 rest128
  rw [Nat.add_mod, Nat.mul_mod, Nat.mod_mod, ← Nat.mul_mod, ← Nat.add_mod]
set_option maxHeartbeats 400000 in
set_option maxRecDepth 100000 in
theorem rem64_any (hi lo y : Int) (h0 : 0 ≤ hi) (hh : hi < 18446744073709551616) (hy0 : 0 < y) (hl0 : 0 ≤ lo) (hlo : lo < 18446744073709551616) (hy : y < 18446744073709551616) (w : World) :
    Calls Tryz.prog 172 #[.int .u64 hi, .int .u64 lo, .int .u64 y] w fun e w' => e = .returned (.int .u64 (rest128 hi.toNat lo.toNat y.toNat : Nat)) ∧ ∃ n, w' = w.drewN n := by
  obtain ⟨hi, rfl⟩ := Int.eq_ofNat_of_zero_le h0
  obtain ⟨lo, rfl⟩ := Int.eq_ofNat_of_zero_le hl0
  obtain ⟨y, rfl⟩ := Int.eq_ofNat_of_zero_le (show 0 ≤ y by omega)
  have hm := Nat.mod_lt hi (show 0 < y by omega)
  have h1 : ((y : Int) == 0) = false := by simp; omega
  have hc := div64_any ((hi % y : Nat) : Int) lo y (by omega) (by omega) (by omega) (by omega) (by omega)
  simp only [Int.toNat_natCast] at hc
  rw [Int.natCast_emod] at hc
  have HC := Lib.hid hc
  clear hc hh hlo hy hm
  go_enter Tryz.func172, Tryz.ntmps172
  go_wp2_with fail
  refine (HC.out _).mono ?_
  rintro e w' ⟨rfl, n, rfl⟩
  go_wp2_with fail
  go_ret
  refine ⟨ret_int ?_, _, rfl⟩
  rw [Int.toNat_natCast, Int.toNat_natCast, Int.toNat_natCast, rem128_mod]
end Go.Proofs.YtbokindcnkknmaaGreat
