/- Whether it can be a plan; whether it fits. -/
import Derived.Test.YtbokindcnkknmaaGreatPc
import Derived.Deep.RegionHeld3
set_option linter.unusedVariables false
namespace Go.Proofs.YtbokindcnkknmaaGreat
open Go.RowKit Epi
def plV (x : Pl) : Value := .agg #[.int .i64 x.k, .int .i64 x.n, .int .i64 x.a]
theorem can_n {x : Pl} (h : ¬ (1 ≤ x.n ∧ x.n ≤ 1024)) : bOf (canF x) = false := bOf_false fun h' => h ⟨h'.1, h'.2.1⟩
theorem can_0 {n a : Int} (h1 : 1 ≤ n) (h2 : n ≤ 1024) : bOf (canF ⟨0, n, a⟩) = decide (a = 0) := by
  rw [Bool.eq_iff_iff, bOf_iff, decide_eq_true_eq]
  exact ⟨fun ⟨_, _, h⟩ => by rcases h with h | h | h | h | h | h <;> simp at h <;> exact h, fun h => ⟨h1, h2, .inl ⟨rfl, h⟩⟩⟩
theorem can_12 {k n a : Int} (hk : k = 1 ∨ k = 2) (h1 : 1 ≤ n) (h2 : n ≤ 1024) : bOf (canF ⟨k, n, a⟩) = (decide (a = 0) && p2 n) := by
  rw [Bool.eq_iff_iff, bOf_iff, Bool.and_eq_true, decide_eq_true_eq]
  refine ⟨fun ⟨_, _, h⟩ => ?_, fun h => ⟨h1, h2, .inr (.inl ⟨hk, h⟩)⟩⟩
  simp only at h
  rcases h with h | h | h | h | h | h
  · omega
  · exact h.2
  all_goals omega
theorem can_3 {n a : Int} (h1 : 1 ≤ n) (h2 : n ≤ 1024) : bOf (canF ⟨3, n, a⟩) = (decide (a = 0) && (radL n.toNat).isSome) := by
  rw [Bool.eq_iff_iff, bOf_iff, Bool.and_eq_true, decide_eq_true_eq]
  refine ⟨fun ⟨_, _, h⟩ => ?_, fun h => ⟨h1, h2, .inr (.inr (.inl ⟨rfl, h⟩))⟩⟩
  simp only at h
  rcases h with h | h | h | h | h | h
  · omega
  · omega
  · exact h.2
  all_goals omega
theorem can_4 {n a : Int} (h1 : 1 ≤ n) (h2 : n ≤ 1024) : bOf (canF ⟨4, n, a⟩) = cpF n a := by
  rw [Bool.eq_iff_iff, bOf_iff]
  refine ⟨fun ⟨_, _, h⟩ => ?_, fun h => ⟨h1, h2, .inr (.inr (.inr (.inl ⟨rfl, h⟩)))⟩⟩
  simp only at h
  rcases h with h | h | h | h | h | h
  · omega
  · omega
  · omega
  · exact h.2
  all_goals omega
theorem can_5 {n a : Int} (h1 : 1 ≤ n) (h2 : n ≤ 1024) : bOf (canF ⟨5, n, a⟩) = (decide (0 < a) && decide (a = (rdPad n : Nat))) := by
  rw [Bool.eq_iff_iff, bOf_iff, Bool.and_eq_true, decide_eq_true_eq, decide_eq_true_eq]
  refine ⟨fun ⟨_, _, h⟩ => ?_, fun h => ⟨h1, h2, .inr (.inr (.inr (.inr (.inl ⟨rfl, h⟩))))⟩⟩
  simp only at h
  rcases h with h | h | h | h | h | h
  · omega
  · omega
  · omega
  · omega
  · exact h.2
  · omega
theorem can_6 {n a : Int} (h1 : 1 ≤ n) (h2 : n ≤ 1024) : bOf (canF ⟨6, n, a⟩) = decide (a = (chPad n : Nat)) := by
  rw [Bool.eq_iff_iff, bOf_iff, decide_eq_true_eq]
  refine ⟨fun ⟨_, _, h⟩ => ?_, fun h => ⟨h1, h2, .inr (.inr (.inr (.inr (.inr ⟨rfl, h⟩))))⟩⟩
  simp only at h
  rcases h with h | h | h | h | h | h
  · omega
  · omega
  · omega
  · omega
  · omega
  · exact h.2
theorem can_x {k n a : Int} (h : ¬ (0 ≤ k ∧ k ≤ 6)) : bOf (canF ⟨k, n, a⟩) = false := bOf_false fun h' => by
  have := h'.2.2
  simp only at this
  omega
set_option maxHeartbeats 4000000 in
set_option maxRecDepth 100000 in
theorem shaped_any (x : Pl) (w : World) : Calls Tryz.prog 48 #[plV x] w fun e w' => e = .returned (.bool (bOf (canF x))) ∧ Below w.heap.size w w' := by
  obtain ⟨k, n, a⟩ := x
  unfold plV
  have HB0 : Hid (∀ o : Obj, Below w.heap.size w (w.alloc o)) := Lib.hid fun o => (Below.refl _ _).alloc (Nat.le_refl _) _
  by_cases h0 : 1 ≤ n ∧ n ≤ 1024
  case neg =>
    have F := Lib.hid (can_n (x := ⟨k, n, a⟩) h0)
    by_cases h1 : n < 1
    · have t1 : decide (n < 1) = true := by rw [decide_eq_true_eq]; exact h1
      clear h0 h1
      go_enter Tryz.func48, Tryz.ntmps48
      go_wp2_with fail
      go_ret
      exact ⟨ret_bool F.out.symm, HB0.out _⟩
    · have t1 : decide (n < 1) = false := by rw [decide_eq_false_iff_not]; exact h1
      have t2 : decide (1024 < n) = true := by rw [decide_eq_true_eq]; omega
      clear h0 h1
      go_enter Tryz.func48, Tryz.ntmps48
      go_wp2_with fail
      go_ret
      exact ⟨ret_bool F.out.symm, HB0.out _⟩
  obtain ⟨hn1, hn2⟩ := h0
  have t1 : decide (n < 1) = false := by rw [decide_eq_false_iff_not]; omega
  have t2 : decide (1024 < n) = false := by rw [decide_eq_false_iff_not]; omega
  by_cases hk : 0 ≤ k ∧ k ≤ 6
  case neg =>
    have F := Lib.hid (can_x (n := n) (a := a) hk)
    have s0 : (k == 0) = false := by rw [beq_eq_false_iff_ne]; omega
    have s1 : (k == 1) = false := by rw [beq_eq_false_iff_ne]; omega
    have s2 : (k == 2) = false := by rw [beq_eq_false_iff_ne]; omega
    have s3 : (k == 3) = false := by rw [beq_eq_false_iff_ne]; omega
    have s4 : (k == 4) = false := by rw [beq_eq_false_iff_ne]; omega
    have s5 : (k == 5) = false := by rw [beq_eq_false_iff_ne]; omega
    have s6 : (k == 6) = false := by rw [beq_eq_false_iff_ne]; omega
    clear hk hn1 hn2
    go_enter Tryz.func48, Tryz.ntmps48
    go_wp2_with fail
    go_ret
    exact ⟨ret_bool F.out.symm, HB0.out _⟩
  have hk' : k = 0 ∨ (k = 1 ∨ k = 2) ∨ k = 3 ∨ k = 4 ∨ k = 5 ∨ k = 6 := by omega
  clear hk
  have HN := Lib.hid (And.intro hn1 hn2)
  rcases hk' with rfl | hk12 | rfl | rfl | rfl | rfl
  · have F := Lib.hid (can_0 (a := a) hn1 hn2)
    clear hn1 hn2
    by_cases ha : a = 0
    · have ta : (a == 0) = true := by rw [beq_iff_eq]; exact ha
      have G : Hid (true = bOf (canF ⟨0, n, a⟩)) := Lib.hid (by rw [F.out]; simp [ha])
      clear ha
      go_enter Tryz.func48, Tryz.ntmps48
      go_wp2_with fail
      go_ret
      exact ⟨ret_bool G.out, HB0.out _⟩
    · have ta : (a == 0) = false := by rw [beq_eq_false_iff_ne]; exact ha
      have G : Hid (false = bOf (canF ⟨0, n, a⟩)) := Lib.hid (by rw [F.out]; simp [ha])
      clear ha
      go_enter Tryz.func48, Tryz.ntmps48
      go_wp2_with fail
      go_ret
      exact ⟨ret_bool G.out, HB0.out _⟩
  · have F := Lib.hid (can_12 (a := a) hk12 hn1 hn2)
    have C := Lib.hid (fun W => fits2_any n W)
    clear hn1 hn2
    by_cases ha : a = 0
    · have ta : (a == 0) = true := by rw [beq_iff_eq]; exact ha
      have G : Hid (p2 n = bOf (canF ⟨k, n, a⟩)) := Lib.hid (by rw [F.out]; simp [ha])
      clear ha
      rcases hk12 with rfl | rfl
      all_goals
        go_enter Tryz.func48, Tryz.ntmps48
        go_wp2_with fail
        refine (C.out _).mono ?_
        rintro e w1 ⟨rfl, rfl⟩
        go_wp2_with fail
        go_ret
        exact ⟨ret_bool G.out, HB0.out _⟩
    · have ta : (a == 0) = false := by rw [beq_eq_false_iff_ne]; exact ha
      have G : Hid (false = bOf (canF ⟨k, n, a⟩)) := Lib.hid (by rw [F.out]; simp [ha])
      clear ha
      rcases hk12 with rfl | rfl
      all_goals
        go_enter Tryz.func48, Tryz.ntmps48
        go_wp2_with fail
        go_ret
        exact ⟨ret_bool G.out, HB0.out _⟩
  · have F := Lib.hid (can_3 (a := a) hn1 hn2)
    have C := Lib.hid (fun W => radices_any n W)
    clear hn1 hn2
    go_enter Tryz.func48, Tryz.ntmps48
    go_wp2_with fail
    refine (C.out _).mono ?_
    rintro e w1 ⟨hb, ⟨-, -, A, m, c, L, rfl, hL, -, -⟩ | ⟨hL, rfl⟩⟩
    · have y2 := (hb.cell (p := ⟨w.heap.size, 2, none⟩) (by simp)).trans (World.cell?_alloc_at _ _ _ _ rfl)
      have HB := Lib.hid (bl_trans (HB0.out _) hb)
      have hs := cell_lt y2
      clear hb
      by_cases ha : a = 0
      · have ta : (a == 0) = true := by rw [beq_iff_eq]; exact ha
        have G : Hid (true = bOf (canF ⟨3, n, a⟩)) := Lib.hid (by rw [F.out, hL]; simp [ha])
        clear ha hL
        go_wp2_with fail
        go_ret
        exact ⟨ret_bool G.out, HB.out⟩
      · have ta : (a == 0) = false := by rw [beq_eq_false_iff_ne]; exact ha
        have G : Hid (false = bOf (canF ⟨3, n, a⟩)) := Lib.hid (by rw [F.out]; simp [ha])
        clear ha hL
        go_wp2_with fail
        go_ret
        exact ⟨ret_bool G.out, HB.out⟩
    · have y2 := (hb.cell (p := ⟨w.heap.size, 2, none⟩) (by simp)).trans (World.cell?_alloc_at _ _ _ _ rfl)
      have HB := Lib.hid (bl_trans (HB0.out _) hb)
      have hs := cell_lt y2
      clear hb
      have G : Hid (false = bOf (canF ⟨3, n, a⟩)) := Lib.hid (by
        rw [F.out]
        cases e : (radL n.toNat).isSome with
        | false => simp
        | true => exact absurd ⟨HN.out.1, HN.out.2, e⟩ hL)
      clear hL
      by_cases ha : a = 0
      · have ta : (a == 0) = true := by rw [beq_iff_eq]; exact ha
        clear ha
        go_wp2_with fail
        go_ret
        exact ⟨ret_bool G.out, HB.out⟩
      · have ta : (a == 0) = false := by rw [beq_eq_false_iff_ne]; exact ha
        clear ha
        go_wp2_with fail
        go_ret
        exact ⟨ret_bool G.out, HB.out⟩
  · have F := Lib.hid (can_4 (a := a) hn1 hn2)
    have C := Lib.hid (fun W => cfits_any n a W hn2)
    clear hn1 hn2
    go_enter Tryz.func48, Tryz.ntmps48
    go_wp2_with fail
    refine (C.out _).mono ?_
    rintro e w1 ⟨rfl, q1, rfl⟩
    go_wp2_with fail
    go_ret
    exact ⟨ret_bool F.out.symm, bl_drew (HB0.out _) _⟩
  · have F := Lib.hid (can_5 (a := a) hn1 hn2)
    have C := Lib.hid (fun W => rdpad_any n W)
    clear hn1 hn2
    by_cases ha : 0 < a
    · have ta : decide (0 < a) = true := by rw [decide_eq_true_eq]; exact ha
      have G : Hid ((a == (rdPad n : Nat)) = bOf (canF ⟨5, n, a⟩)) := Lib.hid (by rw [F.out, Bool.eq_iff_iff]; simp [ha])
      clear ha
      go_enter Tryz.func48, Tryz.ntmps48
      go_wp2_with fail
      obtain ⟨wz, hwz⟩ : ∃ wz, w.alloc (.cells #[.int .i64 5, .int .i64 n, .int .i64 a] 36) = wz := ⟨_, rfl⟩
      have hz : Below w.heap.size w wz := by rw [← hwz]; exact HB0.out _
      have z1 : wz.cell? ⟨w.heap.size, 1, none⟩ = some (.int .i64 n) := by rw [← hwz]; exact World.cell?_alloc_at _ _ _ _ rfl
      have z2 : wz.cell? ⟨w.heap.size, 2, none⟩ = some (.int .i64 a) := by rw [← hwz]; exact World.cell?_alloc_at _ _ _ _ rfl
      have hsz := cell_lt z1
      have HS : Hid (∀ w', Below wz.heap.size wz w' → w'.cell? ⟨w.heap.size, 1, none⟩ = some (.int .i64 n) ∧ w'.cell? ⟨w.heap.size, 2, none⟩ = some (.int .i64 a)) := Lib.hid fun w' hb => ⟨(hb.cell (p := ⟨w.heap.size, 1, none⟩) hsz).trans z1, (hb.cell (p := ⟨w.heap.size, 2, none⟩) hsz).trans z2⟩
      have HZ := Lib.hid hz
      clear hz
      rw [hwz]
      clear hwz
      go_region_held3 (fun w' => w'.cell? ⟨w.heap.size, 1, none⟩ = some (.int .i64 n) ∧ w'.cell? ⟨w.heap.size, 2, none⟩ = some (.int .i64 a)) (first | exact ⟨z1, z2⟩ | exact HS.out _ (bl_drew1 (Below.refl _ _)) | exact HS.out _ (bl_trans (bl_drew1 (Below.refl _ _)) hb)) (first | (go_at_call 109; refine (C.out _).mono ?_; rintro e w' ⟨rfl, hb⟩))
      have HB := Lib.hid (bl_trans (bl_drew1 HZ.out) hb)
      clear hb
      go_wp2_with fail
      go_ret
      exact ⟨ret_bool G.out, HB.out⟩
    · have ta : decide (0 < a) = false := by rw [decide_eq_false_iff_not]; exact ha
      have G : Hid (false = bOf (canF ⟨5, n, a⟩)) := Lib.hid (by rw [F.out]; simp [ha])
      clear ha
      go_enter Tryz.func48, Tryz.ntmps48
      go_wp2_with fail
      go_quiet (fail)
      go_wp2_with fail
      go_ret
      exact ⟨ret_bool G.out, bl_drew (HB0.out _) _⟩
  · have F := Lib.hid (can_6 (a := a) hn1 hn2)
    have C := Lib.hid (fun W => chpad_any n W)
    clear hn1 hn2
    have G : Hid ((a == (chPad n : Nat)) = bOf (canF ⟨6, n, a⟩)) := Lib.hid (by rw [F.out, Bool.eq_iff_iff]; simp)
    go_enter Tryz.func48, Tryz.ntmps48
    go_wp2_with fail
    go_quiet ((go_at_call 110; exact Calls.quiet_of (quiet0 (C.out _))))
    go_wp2_with fail
    go_ret
    exact ⟨ret_bool G.out, bl_drew (HB0.out _) _⟩
set_option maxHeartbeats 4000000 in
set_option maxRecDepth 100000 in
theorem rcan_any (x : Pl) (w : World) : Calls Tryz.prog 51 #[plV x] w fun e w' => e = .returned (.bool (bOf (canF x))) ∧ Below w.heap.size w w' := by
  obtain ⟨k, n, a⟩ := x
  unfold plV
  have HB0 : Hid (∀ o : Obj, Below w.heap.size w (w.alloc o)) := Lib.hid fun o => (Below.refl _ _).alloc (Nat.le_refl _) _
  by_cases h0 : 1 ≤ n ∧ n ≤ 1024
  case neg =>
    have F := Lib.hid (can_n (x := ⟨k, n, a⟩) h0)
    by_cases h1 : n < 1
    · have t1 : decide (n < 1) = true := by rw [decide_eq_true_eq]; exact h1
      clear h0 h1
      go_enter Tryz.func51, Tryz.ntmps51
      go_wp2_with fail
      go_ret
      exact ⟨ret_bool F.out.symm, HB0.out _⟩
    · have t1 : decide (n < 1) = false := by rw [decide_eq_false_iff_not]; exact h1
      have t2 : decide (1024 < n) = true := by rw [decide_eq_true_eq]; omega
      clear h0 h1
      go_enter Tryz.func51, Tryz.ntmps51
      go_wp2_with fail
      go_ret
      exact ⟨ret_bool F.out.symm, HB0.out _⟩
  obtain ⟨hn1, hn2⟩ := h0
  have t1 : decide (n < 1) = false := by rw [decide_eq_false_iff_not]; omega
  have t2 : decide (1024 < n) = false := by rw [decide_eq_false_iff_not]; omega
  by_cases hk : 0 ≤ k ∧ k ≤ 6
  case neg =>
    have F := Lib.hid (can_x (n := n) (a := a) hk)
    have s0 : (k == 0) = false := by rw [beq_eq_false_iff_ne]; omega
    have s1 : (k == 1) = false := by rw [beq_eq_false_iff_ne]; omega
    have s2 : (k == 2) = false := by rw [beq_eq_false_iff_ne]; omega
    have s3 : (k == 3) = false := by rw [beq_eq_false_iff_ne]; omega
    have s4 : (k == 4) = false := by rw [beq_eq_false_iff_ne]; omega
    have s5 : (k == 5) = false := by rw [beq_eq_false_iff_ne]; omega
    have s6 : (k == 6) = false := by rw [beq_eq_false_iff_ne]; omega
    clear hk hn1 hn2
    go_enter Tryz.func51, Tryz.ntmps51
    go_wp2_with fail
    go_ret
    exact ⟨ret_bool F.out.symm, HB0.out _⟩
  have hk' : k = 0 ∨ (k = 1 ∨ k = 2) ∨ k = 3 ∨ k = 4 ∨ k = 5 ∨ k = 6 := by omega
  clear hk
  have HN := Lib.hid (And.intro hn1 hn2)
  rcases hk' with rfl | hk12 | rfl | rfl | rfl | rfl
  · have F := Lib.hid (can_0 (a := a) hn1 hn2)
    clear hn1 hn2
    by_cases ha : a = 0
    · have ta : (a == 0) = true := by rw [beq_iff_eq]; exact ha
      have G : Hid (true = bOf (canF ⟨0, n, a⟩)) := Lib.hid (by rw [F.out]; simp [ha])
      clear ha
      go_enter Tryz.func51, Tryz.ntmps51
      go_wp2_with fail
      go_ret
      exact ⟨ret_bool G.out, HB0.out _⟩
    · have ta : (a == 0) = false := by rw [beq_eq_false_iff_ne]; exact ha
      have G : Hid (false = bOf (canF ⟨0, n, a⟩)) := Lib.hid (by rw [F.out]; simp [ha])
      clear ha
      go_enter Tryz.func51, Tryz.ntmps51
      go_wp2_with fail
      go_ret
      exact ⟨ret_bool G.out, HB0.out _⟩
  · have F := Lib.hid (can_12 (a := a) hk12 hn1 hn2)
    have C := Lib.hid (fun W => rfits12_any n W)
    clear hn1 hn2
    by_cases ha : a = 0
    · have ta : (a == 0) = true := by rw [beq_iff_eq]; exact ha
      have G : Hid (p2 n = bOf (canF ⟨k, n, a⟩)) := Lib.hid (by rw [F.out]; simp [ha])
      clear ha
      rcases hk12 with rfl | rfl
      all_goals
        go_enter Tryz.func51, Tryz.ntmps51
        go_wp2_with fail
        refine (C.out _).mono ?_
        rintro e w1 ⟨rfl, rfl⟩
        go_wp2_with fail
        go_ret
        exact ⟨ret_bool G.out, HB0.out _⟩
    · have ta : (a == 0) = false := by rw [beq_eq_false_iff_ne]; exact ha
      have G : Hid (false = bOf (canF ⟨k, n, a⟩)) := Lib.hid (by rw [F.out]; simp [ha])
      clear ha
      rcases hk12 with rfl | rfl
      all_goals
        go_enter Tryz.func51, Tryz.ntmps51
        go_wp2_with fail
        go_ret
        exact ⟨ret_bool G.out, HB0.out _⟩
  · have F := Lib.hid (can_3 (a := a) hn1 hn2)
    have C := Lib.hid (fun W => rradices_any n W)
    clear hn1 hn2
    go_enter Tryz.func51, Tryz.ntmps51
    go_wp2_with fail
    refine (C.out _).mono ?_
    rintro e w1 ⟨hb, ⟨-, -, A, m, c, L, rfl, hL, -, -⟩ | ⟨hL, rfl⟩⟩
    · have y2 := (hb.cell (p := ⟨w.heap.size, 2, none⟩) (by simp)).trans (World.cell?_alloc_at _ _ _ _ rfl)
      have HB := Lib.hid (bl_trans (HB0.out _) hb)
      have hs := cell_lt y2
      clear hb
      by_cases ha : a = 0
      · have ta : (a == 0) = true := by rw [beq_iff_eq]; exact ha
        have G : Hid (true = bOf (canF ⟨3, n, a⟩)) := Lib.hid (by rw [F.out, hL]; simp [ha])
        clear ha hL
        go_wp2_with fail
        go_ret
        exact ⟨ret_bool G.out, HB.out⟩
      · have ta : (a == 0) = false := by rw [beq_eq_false_iff_ne]; exact ha
        have G : Hid (false = bOf (canF ⟨3, n, a⟩)) := Lib.hid (by rw [F.out]; simp [ha])
        clear ha hL
        go_wp2_with fail
        go_ret
        exact ⟨ret_bool G.out, HB.out⟩
    · have y2 := (hb.cell (p := ⟨w.heap.size, 2, none⟩) (by simp)).trans (World.cell?_alloc_at _ _ _ _ rfl)
      have HB := Lib.hid (bl_trans (HB0.out _) hb)
      have hs := cell_lt y2
      clear hb
      have G : Hid (false = bOf (canF ⟨3, n, a⟩)) := Lib.hid (by
        rw [F.out]
        cases e : (radL n.toNat).isSome with
        | false => simp
        | true => exact absurd ⟨HN.out.1, HN.out.2, e⟩ hL)
      clear hL
      by_cases ha : a = 0
      · have ta : (a == 0) = true := by rw [beq_iff_eq]; exact ha
        clear ha
        go_wp2_with fail
        go_ret
        exact ⟨ret_bool G.out, HB.out⟩
      · have ta : (a == 0) = false := by rw [beq_eq_false_iff_ne]; exact ha
        clear ha
        go_wp2_with fail
        go_ret
        exact ⟨ret_bool G.out, HB.out⟩
  · have F := Lib.hid (can_4 (a := a) hn1 hn2)
    have C := Lib.hid (fun W => rcfits_any n a W hn2)
    clear hn1 hn2
    go_enter Tryz.func51, Tryz.ntmps51
    go_wp2_with fail
    refine (C.out _).mono ?_
    rintro e w1 ⟨rfl, rfl⟩
    go_wp2_with fail
    go_ret
    exact ⟨ret_bool F.out.symm, HB0.out _⟩
  · have F := Lib.hid (can_5 (a := a) hn1 hn2)
    have C := Lib.hid (fun W => rrdpad_any n W)
    clear hn1 hn2
    by_cases ha : 0 < a
    · have ta : decide (0 < a) = true := by rw [decide_eq_true_eq]; exact ha
      have G : Hid ((a == (rdPad n : Nat)) = bOf (canF ⟨5, n, a⟩)) := Lib.hid (by rw [F.out, Bool.eq_iff_iff]; simp [ha])
      clear ha
      go_enter Tryz.func51, Tryz.ntmps51
      go_wp2_with fail
      go_quiet ((go_at_call 114; exact Calls.quiet_of (quiet0 (C.out _))))
      go_wp2_with fail
      go_ret
      exact ⟨ret_bool G.out, bl_drew (HB0.out _) _⟩
    · have ta : decide (0 < a) = false := by rw [decide_eq_false_iff_not]; exact ha
      have G : Hid (false = bOf (canF ⟨5, n, a⟩)) := Lib.hid (by rw [F.out]; simp [ha])
      clear ha
      go_enter Tryz.func51, Tryz.ntmps51
      go_wp2_with fail
      go_quiet (fail)
      go_wp2_with fail
      go_ret
      exact ⟨ret_bool G.out, bl_drew (HB0.out _) _⟩
  · have F := Lib.hid (can_6 (a := a) hn1 hn2)
    have C := Lib.hid (fun W => rchpad_any n W)
    clear hn1 hn2
    have G : Hid ((a == (chPad n : Nat)) = bOf (canF ⟨6, n, a⟩)) := Lib.hid (by rw [F.out, Bool.eq_iff_iff]; simp)
    go_enter Tryz.func51, Tryz.ntmps51
    go_wp2_with fail
    go_quiet ((go_at_call 115; exact Calls.quiet_of (quiet0 (C.out _))))
    go_wp2_with fail
    go_ret
    exact ⟨ret_bool G.out, bl_drew (HB0.out _) _⟩
end Go.Proofs.YtbokindcnkknmaaGreat
