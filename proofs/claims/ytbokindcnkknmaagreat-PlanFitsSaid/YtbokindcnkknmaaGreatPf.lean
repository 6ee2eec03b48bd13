/- Whether a plan fits. -/
import Derived.Test.YtbokindcnkknmaaGreatPe
set_option linter.unusedVariables false
namespace Go.Proofs.YtbokindcnkknmaaGreat
open Go.RowKit Epi
/-- A pointer to a field; nil, where there is no prime. -/
def FdO (w : World) (o : Option Addr) (p g : Nat) : Prop := (p = 0 ∧ g = 0 ∧ o = none) ∨ ∃ b, IsFd w b p g ∧ o = some ⟨b, 0, none⟩
theorem FdO.below {w w' : World} {o : Option Addr} {p g : Nat} (h : FdO w o p g) (hb : Below w.heap.size w w') : FdO w' o p g := by
  rcases h with h | ⟨b, h1, h2⟩
  · exact .inl h
  · exact .inr ⟨b, h1.below hb, h2⟩
/-- What is wrong with a plan; 2: there is no field. -/
noncomputable def ftF (p : Nat) (x : Pl) : Nat := if p = 0 then 2 else fitsF p x
theorem ckF_le (p : Nat) (n most : Int) : ckF p n most ≤ 13 := by
  unfold ckF
  split
  · omega
  · split
    · omega
    · split <;> omega
theorem fits_ck {p : Nat} {x : Pl} (h : ckF p x.n 1024 ≠ 0) : fitsF p x = ckF p x.n 1024 := by
  unfold fitsF
  rw [if_pos h]
theorem fits_no {p : Nat} {x : Pl} (h : ckF p x.n 1024 = 0) (h' : ¬ (canF x ∧ (x.k ≤ 4 ∨ ((p - 1 : Nat) : Int) % x.a = 0))) : fitsF p x = 11 := by
  unfold fitsF
  rw [if_neg (by simpa using h), if_neg (fun hc => h' (bOf_iff.mp hc))]
theorem can_pos {x : Pl} (h : canF x) (hk : 5 ≤ x.k) : 0 < x.a ∧ x.a ≤ 2048 := by
  obtain ⟨h1, h2, h3⟩ := h
  have hr := rdPad_le x.n
  have hc := chPad_le x.n
  have hp := chPad_pos h1 h2
  rcases h3 with h | h | h | h | h | h
  all_goals omega
set_option maxHeartbeats 2000000 in
set_option maxRecDepth 100000 in
theorem pfits_any (o : Option Addr) (p g : Nat) (x : Pl) (w : World) (h : FdO w o p g) : Calls Tryz.prog 14 #[.pointer o, plV x] w fun e w' => e = .returned (.int .i64 (ftF p x : Nat)) ∧ Below w.heap.size w w' := by
  have HB0 : Hid (∀ o : Obj, Below w.heap.size w (w.alloc o)) := Lib.hid fun o => (Below.refl _ _).alloc (Nat.le_refl _) _
  rcases h with ⟨rfl, rfl, rfl⟩ | ⟨b, hf, rfl⟩
  · have C := Lib.hid (fun W => pcheck_nil x.n W)
    obtain ⟨k, n, a⟩ := x
    unfold plV
    simp only at C ⊢
    have F := Lib.hid (show ftF 0 ⟨k, n, a⟩ = 2 from if_pos rfl)
    go_enter Tryz.func14, Tryz.ntmps14
    go_wp2_with fail
    refine (C.out _).mono ?_
    rintro e w1 ⟨rfl, k1, rfl⟩
    go_wp2_with fail
    go_ret
    exact ⟨ret_int (by rw [F.out]; rfl), bl_drew (HB0.out _) _⟩
  have hp0 : p ≠ 0 := by have := hf.1.2.1; omega
  have hft : ftF p x = fitsF p x := if_neg hp0
  have C1 := Lib.hid (fun W (hb : Below w.heap.size w W) => pcheck_any b p g x.n W (hf.below hb))
  have C2 := Lib.hid (fun W => shaped_any x W)
  have C3 := Lib.hid (fun W (hb : Below w.heap.size w W) (ha : x.a < 9223372036854775808) => divides_any b p g x.a W (hf.below hb) ha)
  rw [hft]
  clear hft hf hp0
  by_cases hc : ckF p x.n 1024 = 0
  case neg =>
    have F := Lib.hid (fits_ck hc)
    have hle := ckF_le p x.n 1024
    obtain ⟨r, er⟩ : ∃ r, ckF p x.n 1024 = r := ⟨_, rfl⟩
    rw [er] at hc F hle
    simp only [er] at C1
    have t1 : ((r : Int) == 0) = false := by rw [beq_eq_false_iff_ne]; omega
    have t2 : ((r : Int) != 0) = true := by rw [bne_iff_ne]; omega
    obtain ⟨k, n, a⟩ := x
    unfold plV
    simp only at C1 ⊢
    clear er hc C2 C3
    go_enter Tryz.func14, Tryz.ntmps14
    go_wp2_with fail
    refine (C1.out _ (HB0.out _)).mono ?_
    rintro e w1 ⟨rfl, k1, rfl⟩
    go_wp2_with fail
    go_ret
    exact ⟨ret_int (by rw [F.out]), bl_drew (HB0.out _) _⟩
  simp only [hc] at C1
  have FN : Hid (¬ (canF x ∧ (x.k ≤ 4 ∨ ((p - 1 : Nat) : Int) % x.a = 0)) → fitsF p x = 11) := Lib.hid (fits_no hc)
  have FY : Hid (canF x → (x.k ≤ 4 ∨ ((p - 1 : Nat) : Int) % x.a = 0) → fitsF p x = 0) := Lib.hid fun h h' => fits_of h hc h'
  clear hc
  by_cases hcan : canF x
  case neg =>
    have X := Lib.hid (bOf_false hcan)
    have F := Lib.hid (FN.out (fun h => hcan h.1))
    simp only [X.out] at C2
    obtain ⟨k, n, a⟩ := x
    unfold plV at C2 ⊢
    simp only at C1 C2 ⊢
    clear hcan C3
    go_enter Tryz.func14, Tryz.ntmps14
    go_wp2_with fail
    refine (C1.out _ (HB0.out _)).mono ?_
    rintro e w1 ⟨rfl, k1, rfl⟩
    go_wp2_with fail
    refine (C2.out _).mono ?_
    rintro e w2 ⟨rfl, hb⟩
    have HB := Lib.hid (bl_trans (bl_drew (HB0.out _) _) hb)
    clear hb
    go_wp2_with fail
    go_ret
    exact ⟨ret_int (by rw [F.out]; rfl), HB.out⟩
  have X := Lib.hid (bOf_true hcan)
  simp only [X.out] at C2
  by_cases hk : 5 ≤ x.k
  case neg =>
    have t1 : decide (5 ≤ x.k) = false := by rw [decide_eq_false_iff_not]; exact hk
    have F := Lib.hid (FY.out hcan (.inl (by omega)))
    obtain ⟨k, n, a⟩ := x
    unfold plV at C2 ⊢
    simp only at C1 C2 t1 ⊢
    clear hcan C3 hk
    go_enter Tryz.func14, Tryz.ntmps14
    go_wp2_with fail
    refine (C1.out _ (HB0.out _)).mono ?_
    rintro e w1 ⟨rfl, k1, rfl⟩
    go_wp2_with fail
    refine (C2.out _).mono ?_
    rintro e w2 ⟨rfl, hb⟩
    have y0 := (hb.cell (p := ⟨w.heap.size, 0, none⟩) (by simp)).trans (World.cell?_alloc_at _ _ _ _ rfl)
    have HB := Lib.hid (bl_trans (bl_drew (HB0.out _) _) hb)
    have ly := cell_lt y0
    clear hb
    go_wp2_with fail
    go_ret
    exact ⟨ret_int (by rw [F.out]; rfl), HB.out⟩
  have t1 : decide (5 ≤ x.k) = true := by rw [decide_eq_true_eq]; exact hk
  obtain ⟨ha1, ha2⟩ := can_pos hcan hk
  obtain ⟨B, eB⟩ : ∃ B, dvB p x.a = B := ⟨_, rfl⟩
  have C3' := Lib.hid (fun W (hb : Below w.heap.size w W) => C3.out W hb (by omega))
  simp only [eB] at C3'
  have F : Hid (fitsF p x = if B then 0 else 11) := Lib.hid (by
    unfold dvB at eB
    cases B with
    | true =>
      rw [decide_eq_true_eq] at eB
      exact FY.out hcan (.inr eB.2)
    | false =>
      rw [decide_eq_false_iff_not] at eB
      exact FN.out (fun h => by
        rcases h.2 with h | h
        · omega
        · exact eB ⟨ha1, h⟩))
  obtain ⟨k, n, a⟩ := x
  unfold plV at C2 ⊢
  simp only at C1 C2 C3' t1 ⊢
  clear hcan C3 hk eB ha1 ha2
  go_enter Tryz.func14, Tryz.ntmps14
  go_wp2_with fail
  refine (C1.out _ (HB0.out _)).mono ?_
  rintro e w1 ⟨rfl, k1, rfl⟩
  go_wp2_with fail
  refine (C2.out _).mono ?_
  rintro e w2 ⟨rfl, hb⟩
  have y0 := (hb.cell (p := ⟨w.heap.size, 0, none⟩) (by simp)).trans (World.cell?_alloc_at _ _ _ _ rfl)
  have y2 := (hb.cell (p := ⟨w.heap.size, 2, none⟩) (by simp)).trans (World.cell?_alloc_at _ _ _ _ rfl)
  have HB := Lib.hid (bl_trans (bl_drew (HB0.out _) _) hb)
  have ly := cell_lt y0
  clear hb
  go_wp2_with fail
  refine (C3'.out _ HB.out).mono ?_
  rintro e w3 ⟨rfl, k3, rfl⟩
  cases B with
  | true =>
    go_wp2_with fail
    go_ret
    exact ⟨ret_int (by rw [F.out]; rfl), bl_drew HB.out _⟩
  | false =>
    go_wp2_with fail
    go_ret
    exact ⟨ret_int (by rw [F.out]; rfl), bl_drew HB.out _⟩
set_option maxHeartbeats 2000000 in
set_option maxRecDepth 100000 in
theorem rfits18_any (p : Nat) (x : Pl) (w : World) (hp : 1 ≤ p) (hp' : p < 18446744073709551616) : Calls Tryz.prog 18 #[.int .u64 p, plV x] w fun e w' => e = .returned (.int .i64 (fitsF p x : Nat)) ∧ Below w.heap.size w w' := by
  have HB0 : Hid (∀ o : Obj, Below w.heap.size w (w.alloc o)) := Lib.hid fun o => (Below.refl _ _).alloc (Nat.le_refl _) _
  have C1 := Lib.hid (fun W => rcheck11_any p x.n 1024 W hp hp' (by omega))
  have C2 := Lib.hid (fun W => rcan_any x W)
  by_cases hc : ckF p x.n 1024 = 0
  case neg =>
    have F := Lib.hid (fits_ck hc)
    have hle := ckF_le p x.n 1024
    obtain ⟨r, er⟩ : ∃ r, ckF p x.n 1024 = r := ⟨_, rfl⟩
    rw [er] at hc F hle
    simp only [er] at C1
    have t1 : ((r : Int) == 0) = false := by rw [beq_eq_false_iff_ne]; omega
    have t2 : ((r : Int) != 0) = true := by rw [bne_iff_ne]; omega
    obtain ⟨k, n, a⟩ := x
    unfold plV
    simp only at C1 ⊢
    clear er hc C2
    go_enter Tryz.func18, Tryz.ntmps18
    go_wp2_with fail
    refine (C1.out _).mono ?_
    rintro e w1 ⟨rfl, rfl⟩
    go_wp2_with fail
    go_ret
    exact ⟨ret_int (by rw [F.out]), HB0.out _⟩
  simp only [hc] at C1
  have FN : Hid (¬ (canF x ∧ (x.k ≤ 4 ∨ ((p - 1 : Nat) : Int) % x.a = 0)) → fitsF p x = 11) := Lib.hid (fits_no hc)
  have FY : Hid (canF x → (x.k ≤ 4 ∨ ((p - 1 : Nat) : Int) % x.a = 0) → fitsF p x = 0) := Lib.hid fun h h' => fits_of h hc h'
  clear hc
  by_cases hcan : canF x
  case neg =>
    have X := Lib.hid (bOf_false hcan)
    have F := Lib.hid (FN.out (fun h => hcan h.1))
    simp only [X.out] at C2
    obtain ⟨k, n, a⟩ := x
    unfold plV at C2 ⊢
    simp only at C1 C2 ⊢
    clear hcan hp hp'
    go_enter Tryz.func18, Tryz.ntmps18
    go_wp2_with fail
    refine (C1.out _).mono ?_
    rintro e w1 ⟨rfl, rfl⟩
    go_wp2_with fail
    refine (C2.out _).mono ?_
    rintro e w2 ⟨rfl, hb⟩
    have HB := Lib.hid (bl_trans (HB0.out _) hb)
    clear hb
    go_wp2_with fail
    go_ret
    exact ⟨ret_int (by rw [F.out]; rfl), HB.out⟩
  have X := Lib.hid (bOf_true hcan)
  simp only [X.out] at C2
  by_cases hk : 4 < x.k
  case neg =>
    have t1 : decide (4 < x.k) = false := by rw [decide_eq_false_iff_not]; exact hk
    have F := Lib.hid (FY.out hcan (.inl (by omega)))
    obtain ⟨k, n, a⟩ := x
    unfold plV at C2 ⊢
    simp only at C1 C2 t1 ⊢
    clear hcan hk hp hp'
    go_enter Tryz.func18, Tryz.ntmps18
    go_wp2_with fail
    refine (C1.out _).mono ?_
    rintro e w1 ⟨rfl, rfl⟩
    go_wp2_with fail
    refine (C2.out _).mono ?_
    rintro e w2 ⟨rfl, hb⟩
    have y0 := (hb.cell (p := ⟨w.heap.size, 0, none⟩) (by simp)).trans (World.cell?_alloc_at _ _ _ _ rfl)
    have HB := Lib.hid (bl_trans (HB0.out _) hb)
    have ly := cell_lt y0
    clear hb
    go_wp2_with fail
    go_ret
    exact ⟨ret_int (by rw [F.out]; rfl), HB.out⟩
  have t1 : decide (4 < x.k) = true := by rw [decide_eq_true_eq]; exact hk
  obtain ⟨ha1, ha2⟩ := can_pos hcan (by omega)
  obtain ⟨k, n, a⟩ := x
  unfold plV at C2 ⊢
  simp only at C1 C2 t1 ha1 ha2 FN FY hk ⊢
  obtain ⟨a, rfl⟩ := Int.eq_ofNat_of_zero_le (show 0 ≤ a by omega)
  obtain ⟨p', ep'⟩ : ∃ p', p' + 1 = p := ⟨p - 1, by omega⟩
  have v1 : IntKind.u64.wrap ((p : Int) - 1) = (p' : Int) := (IntWalk.u64_in _ ⟨by omega, by omega⟩).trans (by omega)
  have v2 : IntKind.u64.wrap (a : Int) = (a : Int) := IntWalk.u64_in _ ⟨by omega, by omega⟩
  obtain ⟨d, ed⟩ : ∃ d, p' % a = d := ⟨_, rfl⟩
  have k1 : (p' : Int) % a = (d : Int) := by rw [← ed]; exact (Int.natCast_emod _ _).symm
  have k4 : ((a : Int) == 0) = false := by rw [beq_eq_false_iff_ne]; omega
  have k5 : ¬ a = 0 := by omega
  have e1 : ((p - 1 : Nat) : Int) % (a : Nat) = (d : Int) := by rw [show p - 1 = p' by omega]; exact k1
  by_cases hd : d = 0
  · have t2 : ((d : Int) == 0) = true := by rw [beq_iff_eq]; omega
    have t3 : ((d : Int) != 0) = false := by rw [bne_eq_false_iff_eq]; omega
    have F := Lib.hid (FY.out hcan (.inr (by rw [e1]; omega)))
    clear hcan hk hp hp' ed e1 hd ha1 ep' FN FY
    go_enter Tryz.func18, Tryz.ntmps18
    go_wp2_with fail
    refine (C1.out _).mono ?_
    rintro e w1 ⟨rfl, rfl⟩
    go_wp2_with fail
    refine (C2.out _).mono ?_
    rintro e w2 ⟨rfl, hb⟩
    have y0 := (hb.cell (p := ⟨w.heap.size, 0, none⟩) (by simp)).trans (World.cell?_alloc_at _ _ _ _ rfl)
    have y2 := (hb.cell (p := ⟨w.heap.size, 2, none⟩) (by simp)).trans (World.cell?_alloc_at _ _ _ _ rfl)
    have HB := Lib.hid (bl_trans (HB0.out _) hb)
    have ly := cell_lt y0
    clear hb
    go_wp2_with fail
    go_ret
    exact ⟨ret_int (by rw [F.out]; rfl), HB.out⟩
  · have t2 : ((d : Int) == 0) = false := by rw [beq_eq_false_iff_ne]; omega
    have t3 : ((d : Int) != 0) = true := by rw [bne_iff_ne]; omega
    have F := Lib.hid (FN.out (fun h => by
      rcases h.2 with h | h
      · omega
      · rw [e1] at h; omega))
    clear hcan hk hp hp' ed e1 hd ha1 ep' FN FY
    go_enter Tryz.func18, Tryz.ntmps18
    go_wp2_with fail
    refine (C1.out _).mono ?_
    rintro e w1 ⟨rfl, rfl⟩
    go_wp2_with fail
    refine (C2.out _).mono ?_
    rintro e w2 ⟨rfl, hb⟩
    have y0 := (hb.cell (p := ⟨w.heap.size, 0, none⟩) (by simp)).trans (World.cell?_alloc_at _ _ _ _ rfl)
    have y2 := (hb.cell (p := ⟨w.heap.size, 2, none⟩) (by simp)).trans (World.cell?_alloc_at _ _ _ _ rfl)
    have HB := Lib.hid (bl_trans (HB0.out _) hb)
    have ly := cell_lt y0
    clear hb
    go_wp2_with fail
    go_ret
    exact ⟨ret_int (by rw [F.out]; rfl), HB.out⟩
end Go.Proofs.YtbokindcnkknmaaGreat
