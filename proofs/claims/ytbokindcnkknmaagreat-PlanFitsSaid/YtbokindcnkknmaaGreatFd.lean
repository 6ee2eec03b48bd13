/- The field: its small methods. -/
import Derived.Test.YtbokindcnkknmaaGreatSv
import Derived.Test.YtbokindcnkknmaaGreatMk
import Derived.BigQuiet
set_option linter.unusedVariables false
namespace Go.Proofs.YtbokindcnkknmaaGreat
open Go.RowKit Epi
/-- A prime below 2^63, and a number whose powers are all. -/
def FdOK (p g : Nat) : Prop := Pr p ∧ 3 ≤ p ∧ p < 9223372036854775808 ∧ 2 ≤ g ∧ g < p ∧ Ord p (g : Nat) (p - 1)
/-- Block b holds a field. -/
def IsFd (w : World) (b p g : Nat) : Prop := FdOK p g ∧ ∃ c A n k, w.cell? ⟨b, 0, none⟩ = some (.pointer (some ⟨c, 0, none⟩)) ∧ w.cell? ⟨b, 1, none⟩ = some (.int .u64 p) ∧ w.cell? ⟨b, 2, none⟩ = some (.int .u64 g) ∧ w.cell? ⟨b, 3, none⟩ = some (.slice A n k) ∧ IsCtx w c p
theorem IsFd.below {w w' : World} {b p g : Nat} (h : IsFd w b p g) (hb : Below w.heap.size w w') : IsFd w' b p g := by
  obtain ⟨h0, c, A, n, k, h1, h2, h3, h4, h5⟩ := h
  exact ⟨h0, c, A, n, k, (hb.cell (cell_lt h1)).trans h1, (hb.cell (cell_lt h2)).trans h2, (hb.cell (cell_lt h3)).trans h3, (hb.cell (cell_lt h4)).trans h4, h5.below hb⟩
theorem IsFd.drewN {w : World} {b p g : Nat} (h : IsFd w b p g) (n : Nat) : IsFd (w.drewN n) b p g := h.below ⟨rfl, rfl, rfl, Nat.le_refl _, fun _ _ => rfl⟩

set_option maxHeartbeats 400000 in
theorem fdadd_any (b p g : Nat) (x y : Int) (w : World) (h : IsFd w b p g) (hx : 0 ≤ x) (hx' : x < 18446744073709551616) (hy : 0 ≤ y) (hy' : y < 18446744073709551616) :
    Calls Tryz.prog 83 #[.pointer (some ⟨b, 0, none⟩), .int .u64 x, .int .u64 y] w fun e w' => e = .returned (.int .u64 (fadd p x.toNat y.toNat : Nat)) ∧ ∃ n, w' = w.drewN n := by
  obtain ⟨x, rfl⟩ := Int.eq_ofNat_of_zero_le hx
  obtain ⟨y, rfl⟩ := Int.eq_ofNat_of_zero_le hy
  simp only [Int.toNat_natCast]
  obtain ⟨h0, c, A, n, k, h1, h2, h3, h4, h5⟩ := h
  have l := cell_lt h1
  have C := Lib.hid (cadd_any c p (x : Nat) (y : Nat) w h5 hx hx' hy hy')
  simp only [Int.toNat_natCast] at C
  clear h0 h2 h3 h4 h5 hx hx' hy hy'
  go_enter Tryz.func83, Tryz.ntmps83
  go_wp2_with fail
  refine (C.out).mono ?_
  rintro e w' ⟨rfl, n1, rfl⟩
  go_wp2_with fail
  go_ret
  exact ⟨rfl, _, rfl⟩
set_option maxHeartbeats 400000 in
theorem fdsub_any (b p g : Nat) (x y : Int) (w : World) (h : IsFd w b p g) (hx : 0 ≤ x) (hx' : x < 18446744073709551616) (hy : 0 ≤ y) (hy' : y < 18446744073709551616) :
    Calls Tryz.prog 140 #[.pointer (some ⟨b, 0, none⟩), .int .u64 x, .int .u64 y] w fun e w' => e = .returned (.int .u64 (fsub p x.toNat y.toNat : Nat)) ∧ ∃ n, w' = w.drewN n := by
  obtain ⟨x, rfl⟩ := Int.eq_ofNat_of_zero_le hx
  obtain ⟨y, rfl⟩ := Int.eq_ofNat_of_zero_le hy
  simp only [Int.toNat_natCast]
  obtain ⟨h0, c, A, n, k, h1, h2, h3, h4, h5⟩ := h
  have l := cell_lt h1
  have C := Lib.hid (csub_any c p (x : Nat) (y : Nat) w h5 hx hx' hy hy')
  simp only [Int.toNat_natCast] at C
  clear h0 h2 h3 h4 h5 hx hx' hy hy'
  go_enter Tryz.func140, Tryz.ntmps140
  go_wp2_with fail
  refine (C.out).mono ?_
  rintro e w' ⟨rfl, n1, rfl⟩
  go_wp2_with fail
  go_ret
  exact ⟨rfl, _, rfl⟩
set_option maxHeartbeats 400000 in
theorem fdneg_any (b p g : Nat) (x : Int) (w : World) (h : IsFd w b p g) (hx : 0 ≤ x) (hx' : x < 18446744073709551616) :
    Calls Tryz.prog 126 #[.pointer (some ⟨b, 0, none⟩), .int .u64 x] w fun e w' => e = .returned (.int .u64 (fneg p x.toNat : Nat)) ∧ ∃ n, w' = w.drewN n := by
  obtain ⟨x, rfl⟩ := Int.eq_ofNat_of_zero_le hx
  simp only [Int.toNat_natCast]
  obtain ⟨h0, c, A, n, k, h1, h2, h3, h4, h5⟩ := h
  have l := cell_lt h1
  have C := Lib.hid (cneg_any c p (x : Nat) w h5 hx hx')
  simp only [Int.toNat_natCast] at C
  clear h0 h2 h3 h4 h5 hx hx'
  go_enter Tryz.func126, Tryz.ntmps126
  go_wp2_with fail
  refine (C.out).mono ?_
  rintro e w' ⟨rfl, n1, rfl⟩
  go_wp2_with fail
  go_ret
  exact ⟨rfl, _, rfl⟩
set_option maxHeartbeats 400000 in
theorem fdlift_any (b p g : Nat) (x : Int) (w : World) (h : IsFd w b p g) (hx : 0 ≤ x) (hx' : x < 18446744073709551616) :
    Calls Tryz.prog 185 #[.pointer (some ⟨b, 0, none⟩), .int .u64 x] w fun e w' => e = .returned (.int .u64 (lift p x.toNat : Nat)) ∧ ∃ n, w' = w.drewN n := by
  obtain ⟨x, rfl⟩ := Int.eq_ofNat_of_zero_le hx
  simp only [Int.toNat_natCast]
  obtain ⟨h0, c, A, n, k, h1, h2, h3, h4, h5⟩ := h
  have l := cell_lt h1
  have C := Lib.hid (cin_any c p (x : Nat) w h5 hx hx')
  simp only [Int.toNat_natCast] at C
  clear h0 h2 h3 h4 h5 hx hx'
  go_enter Tryz.func185, Tryz.ntmps185
  go_wp2_with fail
  refine (C.out).mono ?_
  rintro e w' ⟨rfl, n1, rfl⟩
  go_wp2_with fail
  go_ret
  exact ⟨rfl, _, rfl⟩
set_option maxHeartbeats 400000 in
theorem fdtimes_any (b p g : Nat) (x y : Int) (w : World) (h : IsFd w b p g) (hx : 0 ≤ x) (hx' : x < 18446744073709551616) (hy : 0 ≤ y) (hy' : y < 18446744073709551616) :
    Calls Tryz.prog 139 #[.pointer (some ⟨b, 0, none⟩), .int .u64 x, .int .u64 y] w fun e w' => e = .returned (.int .u64 (mm p x.toNat y.toNat : Nat)) ∧ ∃ n, w' = w.drewN n := by
  obtain ⟨x, rfl⟩ := Int.eq_ofNat_of_zero_le hx
  obtain ⟨y, rfl⟩ := Int.eq_ofNat_of_zero_le hy
  simp only [Int.toNat_natCast]
  obtain ⟨h0, c, A, n, k, h1, h2, h3, h4, h5⟩ := h
  have l := cell_lt h1
  have C := Lib.hid (cmul_any c p (x : Nat) (y : Nat) w h5 hx hx' hy hy')
  simp only [Int.toNat_natCast] at C
  clear h0 h2 h3 h4 h5 hx hx' hy hy'
  go_enter Tryz.func139, Tryz.ntmps139
  go_wp2_with fail
  refine (C.out).mono ?_
  rintro e w' ⟨rfl, n1, rfl⟩
  go_wp2_with fail
  go_ret
  exact ⟨rfl, _, rfl⟩
set_option maxHeartbeats 400000 in
theorem fdmul_any (b p g : Nat) (x y : Int) (w : World) (h : IsFd w b p g) (hx : 0 ≤ x) (hx' : x < 18446744073709551616) (hy : 0 ≤ y) (hy' : y < 18446744073709551616) :
    Calls Tryz.prog 157 #[.pointer (some ⟨b, 0, none⟩), .int .u64 x, .int .u64 y] w fun e w' => e = .returned (.int .u64 (fmul p x.toNat y.toNat : Nat)) ∧ ∃ n, w' = w.drewN n := by
  obtain ⟨x, rfl⟩ := Int.eq_ofNat_of_zero_le hx
  obtain ⟨y, rfl⟩ := Int.eq_ofNat_of_zero_le hy
  simp only [Int.toNat_natCast]
  obtain ⟨h0, c, A, n, k, h1, h2, h3, h4, h5⟩ := h
  have l := cell_lt h1
  have hl : lift p x < p := lift_lt (by have := h0.2.1; omega) x
  have hp := h0.2.2.1
  have c1 := Lib.hid (fun n => cin_any c p (x : Nat) (w.drewN n) (h5.drewN n) hx hx')
  have c2 := Lib.hid (fun n => cmul_any c p (lift p x : Nat) (y : Nat) (w.drewN n) (h5.drewN n) (by omega) (by omega) hy hy')
  simp only [Int.toNat_natCast] at c1 c2
  have F := Lib.hid (mm_lift h5.1 x y)
  clear h0 h2 h3 h4 h5 hx hx' hy hy' hl hp
  go_enter Tryz.func157, Tryz.ntmps157
  go_wp2_with fail
  go_quiet ((first | (go_at_call 199; exact Calls.quiet_of (c1.out _)) | (go_at_call 186; exact Calls.quiet_of (c2.out _))))
  go_wp2_with fail
  go_ret
  exact ⟨ret_int (by rw [F.out]), _, rfl⟩
set_option maxHeartbeats 400000 in
theorem fdpow_any (b p g : Nat) (x y : Int) (w : World) (h : IsFd w b p g) (hx : 0 ≤ x) (hx' : x < 18446744073709551616) (hy : 0 ≤ y) (hy' : y < 18446744073709551616) :
    Calls Tryz.prog 231 #[.pointer (some ⟨b, 0, none⟩), .int .u64 x, .int .u64 y] w fun e w' => e = .returned (.int .u64 (fpow p x.toNat y.toNat : Nat)) ∧ ∃ n, w' = w.drewN n := by
  obtain ⟨x, rfl⟩ := Int.eq_ofNat_of_zero_le hx
  obtain ⟨y, rfl⟩ := Int.eq_ofNat_of_zero_le hy
  simp only [Int.toNat_natCast]
  obtain ⟨h0, c, A, n, k, h1, h2, h3, h4, h5⟩ := h
  have l := cell_lt h1
  have hl : lift p (x ^ y) < p := lift_lt (by have := h0.2.1; omega) _
  have hp := h0.2.2.1
  have c1 := Lib.hid (fun n => cin_any c p (x : Nat) (w.drewN n) (h5.drewN n) hx hx')
  have c2 := Lib.hid (fun n => cpow_any c p x (y : Nat) (w.drewN n) (h5.drewN n) hy hy')
  simp only [Int.toNat_natCast] at c1 c2
  have c3 := Lib.hid (fun n => cout_any c p (lift p (x ^ y) : Nat) (w.drewN n) (h5.drewN n) (by omega) (by omega))
  simp only [Int.toNat_natCast] at c3
  have F := Lib.hid (show redc p (lift p (x ^ y)) = fpow p x y from redc_lift h5.1 _)
  clear h0 h2 h3 h4 h5 hx hx' hy hy' hl hp
  go_enter Tryz.func231, Tryz.ntmps231
  go_wp2_with fail
  go_quiet ((first | (go_at_call 199; exact Calls.quiet_of (c1.out _)) | (go_at_call 225; exact Calls.quiet_of (c2.out _)) | (go_at_call 244; exact Calls.quiet_of (c3.out _))))
  go_wp2_with fail
  go_ret
  exact ⟨ret_int (by rw [F.out]), _, rfl⟩
set_option maxHeartbeats 400000 in
theorem fdP_any (b p g : Nat) (w : World) (h : IsFd w b p g) :
    Calls Tryz.prog 117 #[.pointer (some ⟨b, 0, none⟩)] w fun e w' => e = .returned (.int .u64 p) ∧ ∃ n, w' = w.drewN n := by
  obtain ⟨h0, c, A, n, k, h1, h2, h3, h4, h5⟩ := h
  have l := cell_lt h1
  clear h0 h5
  go_enter Tryz.func117, Tryz.ntmps117
  go_wp2_with fail
  go_ret
  exact ⟨rfl, 0, rfl⟩
set_option maxHeartbeats 400000 in
theorem fdinv_any (b p g : Nat) (x : Int) (w : World) (h : IsFd w b p g) (hx : 0 ≤ x) (hx' : x < 18446744073709551616) :
    Calls Tryz.prog 118 #[.pointer (some ⟨b, 0, none⟩), .int .u64 x] w fun e w' => e = .returned (.int .u64 (minv p x.toNat : Nat)) ∧ ∃ n, w' = w.drewN n := by
  obtain ⟨x, rfl⟩ := Int.eq_ofNat_of_zero_le hx
  simp only [Int.toNat_natCast]
  have hp := h.1.2.1
  have hp' := h.1.2.2.1
  have c1 := Lib.hid (fun n => fdP_any b p g (w.drewN n) (h.drewN n))
  have c2 := Lib.hid (fun n => minv_any (x : Nat) (p : Nat) (w := w.drewN n) hx hx' (by omega) (by omega))
  simp only [Int.toNat_natCast] at c2
  clear h hx hx' hp hp'
  go_enter Tryz.func118, Tryz.ntmps118
  go_wp2_with fail
  refine (c1.out 0).mono ?_
  rintro e w' ⟨rfl, n1, rfl⟩
  go_wp2_with fail
  refine (c2.out _).mono ?_
  rintro e w' ⟨rfl, n2, rfl⟩
  go_wp2_with fail
  go_ret
  exact ⟨rfl, _, rfl⟩
end Go.Proofs.YtbokindcnkknmaaGreat
