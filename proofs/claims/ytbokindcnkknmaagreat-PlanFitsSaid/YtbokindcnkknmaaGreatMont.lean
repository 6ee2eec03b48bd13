/- Contracts of the package mont: a context of every odd modulus from 3 on, below 2 ^ 63; its products for every number of 64 bits. -/
import Derived.Test.YtbokindcnkknmaaGreatMod
import Derived.Test.YtbokindcnkknmaaGreatMm
set_option linter.unusedVariables false
namespace Go.Proofs.YtbokindcnkknmaaGreat
open Go.RowKit Epi

/-- At block c lies a context of the modulus m. -/
def IsCtx (w : World) (c m : Nat) : Prop := m % 2 = 1 ∧ 3 ≤ m ∧ m < 9223372036854775808 ∧ ∃ t : Nat, t < W64 ∧ (t * m + 1) % W64 = 0 ∧
  w.cell? ⟨c, 0, none⟩ = some (.int .u64 m) ∧ w.cell? ⟨c, 1, none⟩ = some (.int .u64 t) ∧ w.cell? ⟨c, 2, none⟩ = some (.int .u64 (W64 % m : Nat)) ∧ w.cell? ⟨c, 3, none⟩ = some (.int .u64 (fmul m (W64 % m) (W64 % m) : Nat))
theorem IsCtx.lt {w : World} {c m : Nat} (h : IsCtx w c m) : c < w.heap.size := by
  obtain ⟨-, -, -, t, -, -, h, -⟩ := h
  exact World.block_lt_of_cell? w _ h
theorem IsCtx.of_cells {w w' : World} {c m : Nat} (h : IsCtx w c m) (hc : ∀ o, w'.cell? ⟨c, o, none⟩ = w.cell? ⟨c, o, none⟩) : IsCtx w' c m := by
  obtain ⟨h1, h2, h3, t, h4, h5, h6, h7, h8, h9⟩ := h
  exact ⟨h1, h2, h3, t, h4, h5, (hc 0).trans h6, (hc 1).trans h7, (hc 2).trans h8, (hc 3).trans h9⟩
theorem IsCtx.below {w w' : World} {c m : Nat} (h : IsCtx w c m) (hb : Below w.heap.size w w') : IsCtx w' c m :=
  h.of_cells fun o => hb.cell (p := ⟨c, o, none⟩) h.lt
theorem IsCtx.drewN {w : World} {c m : Nat} (h : IsCtx w c m) (n : Nat) : IsCtx (w.drewN n) c m := h

theorem quiet0 {P : Program} {f : FuncId} {args : Array Value} {w : World} {v : Value} (h : Calls P f args w fun e w' => e = .returned v ∧ w = w') : Calls P f args w fun e w' => e = .returned v ∧ ∃ n, w' = w.drewN n :=
  h.mono fun _ _ ⟨he, hw⟩ => ⟨he, 0, hw.symm⟩
set_option maxHeartbeats 400000 in
theorem cut_any (c m : Nat) (a : Int) (w : World) (h : IsCtx w c m) (ha : 0 ≤ a) (ha' : a < 18446744073709551616) :
    Calls Tryz.prog 184 #[.pointer (some ⟨c, 0, none⟩), .int .u64 a] w fun e w' => e = .returned (.int .u64 (a.toNat % m : Nat)) ∧ ∃ n, w' = w.drewN n := by
  obtain ⟨a, rfl⟩ := Int.eq_ofNat_of_zero_le ha
  obtain ⟨h1, h2, h3, t, h4, h5, h6, h7, h8, h9⟩ := h
  simp only [Int.toNat_natCast]
  have hm : ¬ m = 0 := by omega
  obtain ⟨x, ex⟩ : ∃ x, a % m = x := ⟨_, rfl⟩
  have k1 : ((a : Int) % m) = (x : Int) := by rw [← ex, Int.natCast_emod]
  have K1 := Lib.hid k1
  by_cases hc : m ≤ a
  · have t1 : decide (m ≤ a) = true := by rw [decide_eq_true_eq]; exact hc
    rw [ex]
    clear ha ha' hc h1 h2 h3 h4 h5 ex k1
    go_enter Tryz.func184, Tryz.ntmps184
    go_wp2_with fail
    go_ret
    exact ⟨ret_int K1.out, 0, rfl⟩
  · have t1 : decide (m ≤ a) = false := by rw [decide_eq_false_iff_not]; exact hc
    have F := Lib.hid (show a % m = a from Nat.mod_eq_of_lt (by omega))
    clear ha ha' hc h1 h2 h3 h4 h5 k1
    go_enter Tryz.func184, Tryz.ntmps184
    go_wp2_with fail
    go_ret
    exact ⟨ret_int (by rw [F.out]), 0, rfl⟩
theorem redc_words {m t high low : Nat} (hm : m % 2 = 1) (hm' : m < 9223372036854775808) (ht : t < W64) (ht' : (t * m + 1) % W64 = 0) (hh : high < m) (hl : low < W64) :
    ∃ q u : Nat, q < W64 ∧ IntKind.u64.wrap ((low : Int) * t) = q ∧ car64 low (lo64 q m) 0 ≤ 1 ∧ sum64 high (hi64 q m) (car64 low (lo64 q m) 0) = u ∧ u < W64 ∧
      (m ≤ u → IntKind.u64.wrap ((u : Int) - m) = (redc m (high * W64 + low) : Nat)) ∧ (¬ m ≤ u → u = redc m (high * W64 + low)) := by
  have h0 : high * W64 + low < m * W64 := by
    have : (high + 1) * W64 ≤ m * W64 := Nat.mul_le_mul_right _ hh
    rw [Nat.succ_mul] at this
    omega
  obtain ⟨u, hu, hu2, hu3⟩ := redc_step (high := high) hm ht' h0 hl
  have hq : low * t % W64 < W64 := Nat.mod_lt _ W64_pos
  refine ⟨low * t % W64, u, hq, ?_, ?_, ?_, ?_, ?_, ?_⟩
  · rw [u64_wrap, ← Int.natCast_mul]
    rw [W64_num]
    omega
  · generalize low * t % W64 = q at *
    have := lo64_lt q m
    unfold car64
    rw [W64_num] at *
    omega
  · have e := hi_lo (low * t % W64) m
    generalize low * t % W64 = q at *
    have h3 := lo64_lt q m
    unfold sum64 car64
    rw [W64_num] at *
    generalize q * m = qm at *
    omega
  · rw [W64_num]
    omega
  · intro h
    rw [if_pos h] at hu3
    rw [← hu3, IntWalk.u64_in _ (by omega)]
    omega
  · intro h
    rw [if_neg h] at hu3
    exact hu3
set_option maxHeartbeats 400000 in
theorem reduce_any (c m : Nat) (high low : Int) (w : World) (h : IsCtx w c m) (h0 : 0 ≤ high) (hh : high < m) (hl : 0 ≤ low) (hl' : low < 18446744073709551616) :
    Calls Tryz.prog 214 #[.pointer (some ⟨c, 0, none⟩), .int .u64 high, .int .u64 low] w fun e w' => e = .returned (.int .u64 (redc m (high.toNat * W64 + low.toNat) : Nat)) ∧ ∃ n, w' = w.drewN n := by
  obtain ⟨high, rfl⟩ := Int.eq_ofNat_of_zero_le h0
  obtain ⟨low, rfl⟩ := Int.eq_ofNat_of_zero_le hl
  obtain ⟨h1, h2, h3, t, h4, h5, h6, h7, h8, h9⟩ := h
  simp only [Int.toNat_natCast]
  obtain ⟨q, u, k1, k2, k3, k4, k5, k6, k7⟩ := redc_words h1 h3 h4 h5 (show high < m by omega) (show low < W64 by rw [W64_num]; omega)
  have c1 := Lib.hid (mul64_any q m (by omega) (by rw [W64_num] at k1; omega) (by omega) (by omega))
  have s0 := fun x y w => run_add64_any x y 0 (by decide) (by decide) w
  have s1 := fun w => run_add64_any high (hi64 q m : Nat) (car64 low (lo64 q m) 0 : Nat) (by omega) (by omega) w
  simp only [Int.toNat_natCast] at s1
  rw [k4] at s1
  have L := W64_num
  by_cases hc : m ≤ u
  · have t1 : decide (m ≤ u) = true := by rw [decide_eq_true_eq]; exact hc
    have F := Lib.hid (k6 hc)
    clear h0 hh hl hl' h1 h2 h3 h4 h5 k1 k3 k4 k5 k6 k7 hc L h8 h9
    go_enter Tryz.func214, Tryz.ntmps214
    go_wp2_with fail
    go_quiet ((go_at_call 131; exact Calls.quiet_of (quiet0 (c1.out _))))
    go_wp2_with fail
    go_ret
    exact ⟨ret_int F.out, _, rfl⟩
  · have t1 : decide (m ≤ u) = false := by rw [decide_eq_false_iff_not]; exact hc
    have F := Lib.hid (k7 hc)
    clear h0 hh hl hl' h1 h2 h3 h4 h5 k1 k3 k4 k5 k6 k7 hc L h8 h9
    go_enter Tryz.func214, Tryz.ntmps214
    go_wp2_with fail
    go_quiet ((go_at_call 131; exact Calls.quiet_of (quiet0 (c1.out _))))
    go_wp2_with fail
    go_ret
    exact ⟨ret_int (by rw [F.out]), _, rfl⟩
theorem redc_mod {m : Nat} (x : Nat) : redc m (x % m) = redc m x := by
  unfold redc
  rw [Nat.mul_mod, Nat.mod_mod, ← Nat.mul_mod]
set_option maxHeartbeats 400000 in
theorem cmul_any (c m : Nat) (x y : Int) (w : World) (h : IsCtx w c m) (hx : 0 ≤ x) (hx' : x < 18446744073709551616) (hy : 0 ≤ y) (hy' : y < 18446744073709551616) :
    Calls Tryz.prog 186 #[.pointer (some ⟨c, 0, none⟩), .int .u64 x, .int .u64 y] w fun e w' => e = .returned (.int .u64 (mm m x.toNat y.toNat : Nat)) ∧ ∃ n, w' = w.drewN n := by
  obtain ⟨x, rfl⟩ := Int.eq_ofNat_of_zero_le hx
  obtain ⟨y, rfl⟩ := Int.eq_ofNat_of_zero_le hy
  simp only [Int.toNat_natCast]
  have hm0 : 0 < m := by have := h.2.1; omega
  have hm2 := h.2.2.1
  have e1 := Nat.mod_lt x hm0
  have e2 := Nat.mod_lt y hm0
  have hlt : hi64 (x % m) (y % m) < m := by
    unfold hi64
    rw [Nat.div_lt_iff_lt_mul W64_pos]
    have h1 : x % m * (y % m) ≤ (x % m) * W64 := Nat.mul_le_mul_left _ (by rw [W64_num]; omega)
    have h2 : (x % m) * W64 < m * W64 := Nat.mul_lt_mul_of_pos_right e1 W64_pos
    omega
  have c1 := fun n => Lib.hid (cut_any c m x (w.drewN n) (h.drewN n) hx hx')
  have c2 := fun n => Lib.hid (cut_any c m y (w.drewN n) (h.drewN n) hy hy')
  have c3 := Lib.hid (mul64_any (x % m : Nat) (y % m : Nat) (by omega) (by omega) (by omega) (by omega))
  have c4 := fun n => Lib.hid (reduce_any c m (hi64 (x % m) (y % m) : Nat) (lo64 (x % m) (y % m) : Nat) (w.drewN n) (h.drewN n) (by omega) (by omega) (by omega) (by have := lo64_lt (x % m) (y % m); omega))
  have F := Lib.hid (show redc m (hi64 (x % m) (y % m) * W64 + lo64 (x % m) (y % m)) = mm m x y by
    rw [hi_lo, ← mm_mod m x y hm0]
    rfl)
  clear hx hx' hy hy' hm0 hm2 e1 e2 hlt h
  go_enter Tryz.func186, Tryz.ntmps186
  go_wp2_with fail
  refine ((c1 0).out).mono ?_
  rintro e w' ⟨rfl, n1, rfl⟩
  go_wp2_with fail
  refine ((c2 _).out).mono ?_
  rintro e w' ⟨rfl, n2, rfl⟩
  go_wp2_with fail
  refine (c3.out _).mono ?_
  rintro e w' ⟨rfl, rfl⟩
  go_wp2_with fail
  refine ((c4 _).out).mono ?_
  rintro e w' ⟨rfl, n3, rfl⟩
  go_wp2_with fail
  go_ret
  exact ⟨ret_int (by rw [F.out]), _, rfl⟩
set_option maxHeartbeats 400000 in
theorem cin_any (c m : Nat) (x : Int) (w : World) (h : IsCtx w c m) (hx : 0 ≤ x) (hx' : x < 18446744073709551616) :
    Calls Tryz.prog 199 #[.pointer (some ⟨c, 0, none⟩), .int .u64 x] w fun e w' => e = .returned (.int .u64 (lift m x.toNat : Nat)) ∧ ∃ n, w' = w.drewN n := by
  obtain ⟨x, rfl⟩ := Int.eq_ofNat_of_zero_le hx
  simp only [Int.toNat_natCast]
  have hm0 : 0 < m := by have := h.2.1; omega
  have e1 := fmul_lt hm0 (W64 % m) (W64 % m)
  have c1 := Lib.hid (cmul_any c m x (fmul m (W64 % m) (W64 % m) : Nat) w h hx hx' (by omega) (by have := h.2.2.1; omega))
  have F := Lib.hid (mm_square h.1 x)
  obtain ⟨-, -, -, t, -, -, h6, h7, h8, h9⟩ := h
  clear hx hx' hm0 e1
  go_enter Tryz.func199, Tryz.ntmps199
  go_wp2_with fail
  refine (c1.out).mono ?_
  rintro e w' ⟨rfl, n1, rfl⟩
  go_wp2_with fail
  go_ret
  exact ⟨ret_int (by rw [F.out]), _, rfl⟩
set_option maxHeartbeats 400000 in
theorem cout_any (c m : Nat) (x : Int) (w : World) (h : IsCtx w c m) (hx : 0 ≤ x) (hx' : x < 18446744073709551616) :
    Calls Tryz.prog 244 #[.pointer (some ⟨c, 0, none⟩), .int .u64 x] w fun e w' => e = .returned (.int .u64 (redc m x.toNat : Nat)) ∧ ∃ n, w' = w.drewN n := by
  obtain ⟨x, rfl⟩ := Int.eq_ofNat_of_zero_le hx
  simp only [Int.toNat_natCast]
  have hm0 : 0 < m := by have := h.2.1; omega
  have e1 := Nat.mod_lt x hm0
  have c1 := Lib.hid (cut_any c m x w h hx hx')
  have c2 := fun n => Lib.hid (reduce_any c m 0 (x % m : Nat) (w.drewN n) (h.drewN n) (by omega) (by omega) (by omega) (by have := h.2.2.1; omega))
  have F := Lib.hid (show redc m ((x : Int) % m).toNat = redc m x by rw [← Int.natCast_emod, Int.toNat_natCast, redc_mod])
  clear hx hx' hm0 e1 h
  go_enter Tryz.func244, Tryz.ntmps244
  go_wp2_with fail
  refine (c1.out).mono ?_
  rintro e w' ⟨rfl, n1, rfl⟩
  go_wp2_with fail
  refine ((c2 _).out).mono ?_
  rintro e w' ⟨rfl, n2, rfl⟩
  go_wp2_with fail
  go_ret
  exact ⟨ret_int (by rw [F.out]), _, rfl⟩
set_option maxHeartbeats 400000 in
theorem cadd_any (c m : Nat) (x y : Int) (w : World) (h : IsCtx w c m) (hx : 0 ≤ x) (hx' : x < 18446744073709551616) (hy : 0 ≤ y) (hy' : y < 18446744073709551616) :
    Calls Tryz.prog 134 #[.pointer (some ⟨c, 0, none⟩), .int .u64 x, .int .u64 y] w fun e w' => e = .returned (.int .u64 (fadd m x.toNat y.toNat : Nat)) ∧ ∃ n, w' = w.drewN n := by
  obtain ⟨x, rfl⟩ := Int.eq_ofNat_of_zero_le hx
  obtain ⟨y, rfl⟩ := Int.eq_ofNat_of_zero_le hy
  simp only [Int.toNat_natCast]
  have hm0 : 0 < m := by have := h.2.1; omega
  have hm2 := h.2.2.1
  have e1 := Nat.mod_lt x hm0
  have e2 := Nat.mod_lt y hm0
  have c1 := fun n => Lib.hid (cut_any c m x (w.drewN n) (h.drewN n) hx hx')
  have c2 := fun n => Lib.hid (cut_any c m y (w.drewN n) (h.drewN n) hy hy')
  have hf : fadd m x y = if m ≤ x % m + y % m then x % m + y % m - m else x % m + y % m := by
    rw [← fadd_mod]
    unfold fadd
    by_cases hc : m ≤ x % m + y % m
    · rw [if_pos hc, Nat.mod_eq_sub_mod hc, Nat.mod_eq_of_lt (by omega)]
    · rw [if_neg hc, Nat.mod_eq_of_lt (by omega)]
  simp only [Int.toNat_natCast] at c1 c2
  obtain ⟨a, ea⟩ : ∃ a, x % m = a := ⟨_, rfl⟩
  obtain ⟨b, eb⟩ : ∃ b, y % m = b := ⟨_, rfl⟩
  rw [ea, eb] at hf
  rw [ea] at c1 e1
  rw [eb] at c2 e2
  obtain ⟨s, es⟩ : ∃ s, a + b = s := ⟨_, rfl⟩
  rw [es] at hf
  have k1 : IntKind.u64.wrap ((a : Int) + b) = (s : Int) := (IntWalk.u64_in _ (by omega)).trans (by omega)
  obtain ⟨-, -, -, t, -, -, h6, h7, h8, h9⟩ := h
  by_cases hc : m ≤ s
  · have t1 : decide (m ≤ s) = true := by rw [decide_eq_true_eq]; exact hc
    rw [if_pos hc] at hf
    have k2 : IntKind.u64.wrap ((s : Int) - m) = (fadd m x y : Nat) := by rw [hf]; exact (IntWalk.u64_in _ (by omega)).trans (by omega)
    clear hx hx' hy hy' hm0 hm2 e1 e2 ea eb es hf hc
    go_enter Tryz.func134, Tryz.ntmps134
    go_wp2_with fail
    refine ((c1 0).out).mono ?_
    rintro e w' ⟨rfl, n1, rfl⟩
    go_wp2_with fail
    refine ((c2 _).out).mono ?_
    rintro e w' ⟨rfl, n2, rfl⟩
    go_wp2_with fail
    go_ret
    exact ⟨rfl, _, rfl⟩
  · have t1 : decide (m ≤ s) = false := by rw [decide_eq_false_iff_not]; exact hc
    rw [if_neg hc] at hf
    have F := Lib.hid hf
    clear hx hx' hy hy' hm0 hm2 e1 e2 ea eb es hf hc
    go_enter Tryz.func134, Tryz.ntmps134
    go_wp2_with fail
    refine ((c1 0).out).mono ?_
    rintro e w' ⟨rfl, n1, rfl⟩
    go_wp2_with fail
    refine ((c2 _).out).mono ?_
    rintro e w' ⟨rfl, n2, rfl⟩
    go_wp2_with fail
    go_ret
    exact ⟨ret_int (by rw [F.out]), _, rfl⟩
set_option maxHeartbeats 400000 in
theorem cneg_any (c m : Nat) (x : Int) (w : World) (h : IsCtx w c m) (hx : 0 ≤ x) (hx' : x < 18446744073709551616) :
    Calls Tryz.prog 183 #[.pointer (some ⟨c, 0, none⟩), .int .u64 x] w fun e w' => e = .returned (.int .u64 (fneg m x.toNat : Nat)) ∧ ∃ n, w' = w.drewN n := by
  obtain ⟨x, rfl⟩ := Int.eq_ofNat_of_zero_le hx
  simp only [Int.toNat_natCast]
  have hm0 : 0 < m := by have := h.2.1; omega
  have hm2 := h.2.2.1
  have e1 := Nat.mod_lt x hm0
  have c1 := Lib.hid (cut_any c m x w h hx hx')
  simp only [Int.toNat_natCast] at c1
  have hf : fneg m x = if x % m = 0 then 0 else m - x % m := by
    unfold fneg
    by_cases hc : x % m = 0
    · rw [if_pos hc, hc, Nat.sub_zero, Nat.mod_self]
    · rw [if_neg hc, Nat.mod_eq_of_lt (by omega)]
  obtain ⟨a, ea⟩ : ∃ a, x % m = a := ⟨_, rfl⟩
  rw [ea] at hf c1 e1
  obtain ⟨-, -, -, t, -, -, h6, h7, h8, h9⟩ := h
  by_cases hc : a = 0
  · have t1 : ((a : Int) == 0) = true := by rw [beq_iff_eq]; omega
    rw [if_pos hc] at hf
    have F := Lib.hid hf
    clear hx hx' hm0 hm2 e1 ea hf hc
    go_enter Tryz.func183, Tryz.ntmps183
    go_wp2_with fail
    refine (c1.out).mono ?_
    rintro e w' ⟨rfl, n1, rfl⟩
    go_wp2_with fail
    go_ret
    exact ⟨ret_int (by rw [F.out]; rfl), _, rfl⟩
  · have t1 : ((a : Int) == 0) = false := by rw [beq_eq_false_iff_ne]; omega
    rw [if_neg hc] at hf
    have k2 : IntKind.u64.wrap ((m : Int) - a) = (fneg m x : Nat) := by rw [hf]; exact (IntWalk.u64_in _ (by omega)).trans (by omega)
    clear hx hx' hm0 hm2 e1 ea hf hc
    go_enter Tryz.func183, Tryz.ntmps183
    go_wp2_with fail
    refine (c1.out).mono ?_
    rintro e w' ⟨rfl, n1, rfl⟩
    go_wp2_with fail
    go_ret
    exact ⟨rfl, _, rfl⟩
set_option maxHeartbeats 400000 in
theorem csub_any (c m : Nat) (x y : Int) (w : World) (h : IsCtx w c m) (hx : 0 ≤ x) (hx' : x < 18446744073709551616) (hy : 0 ≤ y) (hy' : y < 18446744073709551616) :
    Calls Tryz.prog 187 #[.pointer (some ⟨c, 0, none⟩), .int .u64 x, .int .u64 y] w fun e w' => e = .returned (.int .u64 (fsub m x.toNat y.toNat : Nat)) ∧ ∃ n, w' = w.drewN n := by
  obtain ⟨x, rfl⟩ := Int.eq_ofNat_of_zero_le hx
  obtain ⟨y, rfl⟩ := Int.eq_ofNat_of_zero_le hy
  simp only [Int.toNat_natCast]
  have hm0 : 0 < m := by have := h.2.1; omega
  have hm2 := h.2.2.1
  have e1 := fneg_le hm0 y
  have c1 := Lib.hid (cneg_any c m y w h hy hy')
  have c2 := fun n => Lib.hid (cadd_any c m x (fneg m y : Nat) (w.drewN n) (h.drewN n) hx hx' (by omega) (by omega))
  have F := Lib.hid (fadd_fneg hm0 x y)
  clear hx hx' hy hy' hm0 hm2 e1 h
  go_enter Tryz.func187, Tryz.ntmps187
  go_wp2_with fail
  refine (c1.out).mono ?_
  rintro e w' ⟨rfl, n1, rfl⟩
  go_wp2_with fail
  refine ((c2 _).out).mono ?_
  rintro e w' ⟨rfl, n2, rfl⟩
  go_wp2_with fail
  go_ret
  exact ⟨ret_int (by rw [F.out]), _, rfl⟩
set_option maxHeartbeats 400000 in
theorem cone_any (c m : Nat) (w : World) (h : IsCtx w c m) :
    Calls Tryz.prog 226 #[.pointer (some ⟨c, 0, none⟩)] w fun e w' => e = .returned (.int .u64 (W64 % m : Nat)) ∧ ∃ n, w' = w.drewN n := by
  obtain ⟨-, -, -, t, -, -, h6, h7, h8, h9⟩ := h
  obtain ⟨z, ez⟩ : ∃ z, W64 % m = z := ⟨_, rfl⟩
  rw [ez] at h8 h9 ⊢
  clear ez h9
  go_enter Tryz.func226, Tryz.ntmps226
  go_wp2_with fail
  go_ret
  exact ⟨rfl, 0, rfl⟩
set_option maxHeartbeats 400000 in
theorem cpow_any (c m g : Nat) (e : Int) (w : World) (h : IsCtx w c m) (he : 0 ≤ e) (he' : e < 18446744073709551616) :
    Calls Tryz.prog 225 #[.pointer (some ⟨c, 0, none⟩), .int .u64 (lift m g : Nat), .int .u64 e] w fun e' w' => e' = .returned (.int .u64 (lift m (g ^ e.toNat) : Nat)) ∧ ∃ n, w' = w.drewN n := by
  obtain ⟨e, rfl⟩ := Int.eq_ofNat_of_zero_le he
  simp only [Int.toNat_natCast]
  have hm0 : 0 < m := by have := h.2.1; omega
  have hm2 := h.2.2.1
  have ho := h.1
  have cc : ∀ a b n : Nat, Calls Tryz.prog 186 #[.pointer (some ⟨c, 0, none⟩), .int .u64 (lift m a : Nat), .int .u64 (lift m b : Nat)] (w.drewN n) fun e w' => e = .returned (.int .u64 (lift m (a * b) : Nat)) ∧ ∃ k, w' = (w.drewN n).drewN k := by
    intro a b n
    have la := lift_lt hm0 a
    have lb := lift_lt hm0 b
    have e := mm_lift_lift ho a b
    generalize lift m a = x at *
    generalize lift m b = y at *
    have := cmul_any c m x y (w.drewN n) (h.drewN n) (by omega) (by omega) (by omega) (by omega)
    rw [Int.toNat_natCast, Int.toNat_natCast, e] at this
    exact this
  have CC := Lib.hid cc
  have L1 := lift_one m
  obtain ⟨-, -, -, t, -, -, h6, h7, h8, h9⟩ := h
  rw [← L1] at h8 h9
  have S := Lib.hid (show lift m (1 * g ^ e) = lift m (g ^ e) by rw [Nat.one_mul])
  have E1 := Lib.hid he'
  clear he he' cc hm0 hm2 ho L1 h9
  go_enter Tryz.func225, Tryz.ntmps225
  go_wp2_with fail
  go_loopw [1, 2, 7] (fun s1 s2 s7 wr => ∃ x k o n : Nat, s1 = .int .u64 (lift m x : Nat) ∧ s2 = .int .u64 k ∧ s7 = .int .u64 (lift m o : Nat) ∧ wr = w.drewN n ∧ Hid (k < 18446744073709551616 ∧ lift m (o * x ^ k) = lift m (g ^ e))) (fun _ s2 _ _ => (intOf s2).toNat)
  case atStart => exact ⟨g, e, 1, 0, rfl, rfl, rfl, rfl, by have := E1.out; omega, S.out⟩
  case round =>
    obtain ⟨x, k, o, n, rfl, rfl, rfl, rfl, hT⟩ := hrel
    obtain ⟨b1, b2⟩ := hT.out
    by_cases hk : 0 < k
    · have t1 : decide (0 < k) = true := by rw [decide_eq_true_eq]; omega
      have p1 := u64_bit (k : Int) (by omega) (by omega)
      obtain ⟨k', ek⟩ : ∃ k', k / 2 = k' := ⟨_, rfl⟩
      have k1 : ((k : Int) / 2) = (k' : Int) := by omega
      have L := Lib.hid (show k' < k by omega)
      by_cases hp : k % 2 = 1
      · have t2 : (((k : Int) % 2) == 1) = true := by rw [beq_iff_eq]; omega
        have T := Lib.hid (show k' < 18446744073709551616 ∧ lift m (o * x * (x * x) ^ k') = lift m (g ^ e) from ⟨by omega, by
          rw [← b2]
          congr 1
          have : k = 2 * k' + 1 := by omega
          rw [this, ← Nat.pow_two, ← Nat.pow_mul, Nat.pow_succ, Nat.mul_assoc, Nat.mul_comm x]⟩)
        clear b1 b2 hk hp ek
        go_wp2_with fail
        refine (CC.out o x n).mono ?_
        rintro e' w' ⟨rfl, n1, rfl⟩
        go_wp2_with fail
        refine (CC.out x x _).mono ?_
        rintro e' w' ⟨rfl, n2, rfl⟩
        go_wp2_with fail
        have L' := L.out
        exact ⟨⟨x * x, k', o * x, _, rfl, rfl, rfl, rfl, T⟩, by simp [intOf]; omega⟩
      · have t2 : (((k : Int) % 2) == 1) = false := by rw [beq_eq_false_iff_ne]; omega
        have T := Lib.hid (show k' < 18446744073709551616 ∧ lift m (o * (x * x) ^ k') = lift m (g ^ e) from ⟨by omega, by
          rw [← b2]
          congr 1
          have : k = 2 * k' := by omega
          rw [this, ← Nat.pow_two, ← Nat.pow_mul]⟩)
        clear b1 b2 hk hp ek
        go_wp2_with fail
        refine (CC.out x x _).mono ?_
        rintro e' w' ⟨rfl, n2, rfl⟩
        go_wp2_with fail
        have L' := L.out
        exact ⟨⟨x * x, k', o, _, rfl, rfl, rfl, rfl, T⟩, by simp [intOf]; omega⟩
    · have t1 : decide (0 < k) = false := by rw [decide_eq_false_iff_not]; omega
      have F := Lib.hid (show lift m o = lift m (g ^ e) by
        have : k = 0 := by omega
        subst this
        rw [← b2, Nat.pow_zero, Nat.mul_one])
      clear b1 b2 hk
      go_wp2_with fail
      go_ret
      exact ⟨ret_int (by rw [F.out]), _, rfl⟩
theorem bl_drew {B : Nat} {w w' : World} (h : Below B w w') (n : Nat) : Below B w (w'.drewN n) := ⟨h.os, h.tape, h.output, h.size, h.block⟩
def okMod (m : Nat) : Prop := m % 2 = 1 ∧ 3 ≤ m ∧ m < 9223372036854775808
/-- A round of Newton's. -/
noncomputable def nwt (m x : Nat) : Nat := (IntKind.u64.wrap ((x : Int) * IntKind.u64.wrap (2 - IntKind.u64.wrap ((m : Int) * x)))).toNat
theorem nwt_eq (m x : Nat) : IntKind.u64.wrap ((x : Int) * IntKind.u64.wrap (2 - IntKind.u64.wrap ((m : Int) * x))) = (nwt m x : Int) ∧ nwt m x < W64 := by
  have h : ∀ z : Int, 0 ≤ IntKind.u64.wrap z ∧ IntKind.u64.wrap z < 18446744073709551616 := fun z => by rw [u64_wrap]; omega
  have := h ((x : Int) * IntKind.u64.wrap (2 - IntKind.u64.wrap ((m : Int) * x)))
  rw [W64_num]
  unfold nwt
  omega
theorem nwt_cg (m x : Nat) : Cg ((2 : Int) ^ 64) (nwt m x : Nat) ((x : Int) * (2 - m * x)) := by
  rw [← (nwt_eq m x).1, u64_wrap, u64_wrap, u64_wrap]
  have e : (18446744073709551616 : Int) = (2 : Int) ^ 64 := rfl
  rw [e]
  generalize (2 : Int) ^ 64 = W
  exact (Cg.emod _ _).trans (Cg.mul_left _ ((Cg.emod _ _).trans (Cg.sub (Cg.refl _) (Cg.emod _ _))))
/-- How many bits are right after i rounds. -/
def bitsOf : Nat → Nat
  | 0 => 3
  | i + 1 => min (2 * bitsOf i) 64
theorem nwt_round {m x i : Nat} (hi : i < 5) (h : Cg ((2 : Int) ^ bitsOf i) ((m : Int) * x) 1) : Cg ((2 : Int) ^ bitsOf (i + 1)) ((m : Int) * nwt m x) 1 := by
  refine newton ?_ h (nwt_cg m x)
  rcases (show i = 0 ∨ i = 1 ∨ i = 2 ∨ i = 3 ∨ i = 4 from by omega) with rfl | rfl | rfl | rfl | rfl <;> decide
theorem nwt_last {m x : Nat} (hm : 0 < m) (h : Cg ((2 : Int) ^ 64) ((m : Int) * x) 1) (hx : x < W64) : ∃ t : Nat, IntKind.u64.wrap (-(x : Int)) = t ∧ t < W64 ∧ (t * m + 1) % W64 = 0 := by
  obtain ⟨c, hc⟩ := h
  have e : ((2 : Int) ^ 64) = 18446744073709551616 := rfl
  rw [e] at hc
  rw [W64_num] at *
  have hx0 : 0 < x := Nat.pos_of_ne_zero (by rintro rfl; simp at hc; omega)
  refine ⟨18446744073709551616 - x, ?_, by omega, ?_⟩
  · rw [u64_wrap]
    omega
  · have h1 : (18446744073709551616 - x) * m + x * m = 18446744073709551616 * m := by rw [← Nat.add_mul, Nat.sub_add_cancel (by omega)]
    rw [Int.mul_comm, ← Int.natCast_mul] at hc
    generalize (18446744073709551616 - x) * m = u at *
    generalize x * m = v at *
    omega
theorem wrap_neg {m : Nat} (h0 : 0 < m) (hm : m < 9223372036854775808) : ∃ z : Nat, IntKind.u64.wrap (-(m : Int)) = z ∧ z = W64 - m ∧ z % m = W64 % m := by
  refine ⟨W64 - m, ?_, rfl, ?_⟩
  · rw [u64_wrap, W64_num]
    omega
  · rw [← Nat.add_mod_right, Nat.sub_add_cancel (by rw [W64_num]; omega)]
set_option maxHeartbeats 400000 in
theorem cnew_bad (m : Int) (w : World) (h0 : 0 ≤ m) (h1 : m < 18446744073709551616) (h : ¬ okMod m.toNat) :
    Calls Tryz.prog 104 #[.int .u64 m] w fun e w' => e = .returned (.tuple #[.pointer none, .int .i64 1]) ∧ w = w' := by
  obtain ⟨m, rfl⟩ := Int.eq_ofNat_of_zero_le h0
  rw [Int.toNat_natCast] at h
  have p1 := u64_bit (m : Int) h0 h1
  unfold okMod at h
  by_cases c1 : m % 2 = 0
  · have t1 : (((m : Int) % 2) == 0) = true := by rw [beq_iff_eq]; omega
    clear h h0 h1 c1
    go_enter Tryz.func104, Tryz.ntmps104
    go_wp2_with fail
    go_ret2
    exact ⟨rfl, rfl⟩
  · have t1 : (((m : Int) % 2) == 0) = false := by rw [beq_eq_false_iff_ne]; omega
    by_cases c2 : m < 3
    · have t2 : decide ((m : Int) < 3) = true := by rw [decide_eq_true_eq]; omega
      clear h h0 h1 c1 c2
      go_enter Tryz.func104, Tryz.ntmps104
      go_wp2_with fail
      go_ret2
      exact ⟨rfl, rfl⟩
    · have t2 : decide ((m : Int) < 3) = false := by rw [decide_eq_false_iff_not]; omega
      have t3 : decide ((9223372036854775808 : Int) ≤ m) = true := by rw [decide_eq_true_eq]; omega
      clear h h0 h1 c1 c2
      go_enter Tryz.func104, Tryz.ntmps104
      go_wp2_with fail
      go_ret2
      exact ⟨rfl, rfl⟩
def NewCtx (m : Nat) (w : World) (e : Ending) (w' : World) : Prop := ∃ g, e = .returned (.tuple #[.pointer (some ⟨g, 0, none⟩), .int .i64 0]) ∧ IsCtx w' g m ∧ w.heap.size ≤ g ∧ Below w.heap.size w w'
set_option maxHeartbeats 400000 in
theorem cnew_good (m : Nat) (w : World) (h : okMod m) :
    Calls Tryz.prog 104 #[.int .u64 m] w (NewCtx m w) := by
  obtain ⟨o1, o2, o3⟩ := h
  have p1 := u64_bit (m : Int) (by omega) (by omega)
  have t1 : (((m : Int) % 2) == 0) = false := by rw [beq_eq_false_iff_ne]; omega
  have t2 : decide ((m : Int) < 3) = false := by rw [decide_eq_false_iff_not]; omega
  have t3 : decide ((9223372036854775808 : Int) ≤ m) = false := by rw [decide_eq_false_iff_not]; omega
  have N0 := Lib.hid (newton_first (m := m) (by omega))
  have O := Lib.hid (show m % 2 = 1 ∧ 3 ≤ m ∧ m < 9223372036854775808 from ⟨o1, o2, o3⟩)
  clear o1 o2 o3
  go_enter Tryz.func104, Tryz.ntmps104
  go_wp2_with fail
  clear p1 t1 t2 t3
  go_loop [4, 20] (fun s4 s20 => ∃ i x : Nat, s4 = .int .u64 x ∧ s20 = .int .i64 i ∧ i ≤ 5 ∧ Hid (Cg ((2 : Int) ^ bitsOf i) ((m : Int) * x) 1 ∧ x < W64)) (fun _ s20 => 5 - (intOf s20).toNat)
  case atStart => exact ⟨0, m, rfl, rfl, by omega, N0.out, by have := O.out; rw [W64_num]; omega⟩
  case round =>
    obtain ⟨i, x, rfl, rfl, hi, hT⟩ := hrel
    obtain ⟨b1, b2⟩ := hT.out
    by_cases hc : i < 5
    · obtain ⟨n1, n2⟩ := nwt_eq m x
      have T := Lib.hid (show Cg ((2 : Int) ^ bitsOf (i + 1)) ((m : Int) * nwt m x) 1 ∧ nwt m x < W64 from ⟨nwt_round hc b1, n2⟩)
      clear b1 b2 n2
      go_wp2_with fail
      go_round
      case rel => exact ⟨i + 1, nwt m x, rfl, by go_num, by omega, T⟩
      case measure => simp [intOf]; omega
    · obtain rfl : i = 5 := by omega
      obtain ⟨o1, o2, o3⟩ := O.out
      obtain ⟨t, n1, n2, n3⟩ := nwt_last (m := m) (x := x) (by omega) b1 b2
      obtain ⟨z, z1, -, z3⟩ := wrap_neg (m := m) (by omega) o3
      obtain ⟨v, ev⟩ : ∃ v, W64 % m = v := ⟨_, rfl⟩
      have z4 : ((z : Int) % m) = (v : Int) := by rw [← Int.natCast_emod, z3, ev]
      have lv : v < m := by rw [← ev]; exact Nat.mod_lt _ (by omega)
      have hm : ¬ m = 0 := by omega
      have c1 := Lib.hid (mul64_any v v (by omega) (by omega) (by omega) (by omega))
      have c2 := fun w => Lib.hid (rem64_any (hi64 v v : Nat) (lo64 v v : Nat) m (by omega) (by have := hi64_lt (a := v) (b := v) (by omega) (by omega); omega) (by omega) (by omega) (by have := lo64_lt v v; omega) (by omega) w)
      have F := Lib.hid (rest_mul v v m)
      have T := Lib.hid (show m % 2 = 1 ∧ 3 ≤ m ∧ m < 9223372036854775808 ∧ t < W64 ∧ (t * m + 1) % W64 = 0 ∧ W64 % m = v from ⟨o1, o2, o3, n2, n3, ev⟩)
      clear hi hc b1 b2 o1 o2 o3 n2 n3 z3 lv ev
      go_wp2_with fail
      refine (c1.out _).mono ?_
      rintro e' w' ⟨rfl, rfl⟩
      go_wp2_with fail
      refine ((c2 _).out).mono ?_
      rintro e' w' ⟨rfl, n, rfl⟩
      go_wp2_with fail
      go_ret2
      refine ⟨_, rfl, ?_, Nat.le_refl _, (bl_drew (Below.refl _ _) n).alloc (Nat.le_refl _) _⟩
      obtain ⟨o1, o2, o3, o4, o5, o6⟩ := T.out
      subst o6
      exact ⟨o1, o2, o3, t, o4, o5, World.cell?_alloc_at _ _ _ _ rfl, World.cell?_alloc_at _ _ _ _ rfl, World.cell?_alloc_at _ _ _ _ rfl, by rw [← F.out]; exact World.cell?_alloc_at _ _ _ _ rfl⟩
end Go.Proofs.YtbokindcnkknmaaGreat
