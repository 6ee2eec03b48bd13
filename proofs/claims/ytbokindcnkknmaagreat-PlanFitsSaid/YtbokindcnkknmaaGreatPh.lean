/- The document's costs. -/
import Derived.Test.YtbokindcnkknmaaGreatPg
import Derived.Deep.RegionHeld3
set_option linter.unusedVariables false
namespace Go.Proofs.YtbokindcnkknmaaGreat
section SPh
open Go.RowKit Epi
theorem w64_id {a : Int} (h : 0 ≤ a) (h' : a < 9223372036854775808) : wrap64 a = a := by unfold wrap64; omega
set_option maxHeartbeats 1000000 in
set_option maxRecDepth 100000 in
theorem rcost_0 (n : Nat) (a : Int) (w : World) (hc : canF ⟨0, n, a⟩) : Calls Tryz.prog 17 #[plV ⟨0, n, a⟩] w fun e w' => e = .returned (.int .i64 (costF ⟨0, n, a⟩ : Nat)) ∧ Below w.heap.size w w' := by
  have HB0 : Hid (∀ o : Obj, Below w.heap.size w (w.alloc o)) := Lib.hid fun o => (Below.refl _ _).alloc (Nat.le_refl _) _
  have C2 := Lib.hid (fun W => rcan_any ⟨0, n, a⟩ W)
  simp only [bOf_true hc] at C2
  have hn1 : 1 ≤ n := by have := hc.1; simp only at this; omega
  have hn2 : n ≤ 1024 := by have := hc.2.1; simp only at this; omega
  obtain ⟨q, eq⟩ : ∃ q, n * n = q := ⟨_, rfl⟩
  have F : Hid (costF ⟨0, n, a⟩ = q) := Lib.hid ((costF_can hc).trans eq)
  have hq : q ≤ 1024 * 1024 := eq ▸ Nat.mul_le_mul hn2 hn2
  have E : Hid ((n : Int) * (n : Int) = (q : Int)) := Lib.hid (by rw [← eq]; simp)
  clear eq
  unfold plV at C2 ⊢
  clear hc hn1
  go_enter Tryz.func17, Tryz.ntmps17
  go_wp2_with fail
  refine (C2.out _).mono ?_
  rintro e w1 ⟨rfl, hb⟩
  have y0 := (hb.cell (p := ⟨w.heap.size, 0, none⟩) (by simp)).trans (World.cell?_alloc_at _ _ _ _ rfl)
  have y1 := (hb.cell (p := ⟨w.heap.size, 1, none⟩) (by simp)).trans (World.cell?_alloc_at _ _ _ _ rfl)
  have y2 := (hb.cell (p := ⟨w.heap.size, 2, none⟩) (by simp)).trans (World.cell?_alloc_at _ _ _ _ rfl)
  have HB := Lib.hid (bl_trans (HB0.out _) hb)
  have ly := cell_lt y0
  clear hb
  go_wp2_with fail
  go_ret
  exact ⟨ret_int (by rw [E.out, F.out]; unfold wrap64; omega), HB.out⟩
set_option maxHeartbeats 1000000 in
set_option maxRecDepth 100000 in
theorem rcost_1 (n : Nat) (a : Int) (w : World) (hc : canF ⟨1, n, a⟩) : Calls Tryz.prog 17 #[plV ⟨1, n, a⟩] w fun e w' => e = .returned (.int .i64 (costF ⟨1, n, a⟩ : Nat)) ∧ Below w.heap.size w w' := by
  have HB0 : Hid (∀ o : Obj, Below w.heap.size w (w.alloc o)) := Lib.hid fun o => (Below.refl _ _).alloc (Nat.le_refl _) _
  have C2 := Lib.hid (fun W => rcan_any ⟨1, n, a⟩ W)
  simp only [bOf_true hc] at C2
  have hn1 : 1 ≤ n := by have := hc.1; simp only at this; omega
  have hn2 : n ≤ 1024 := by have := hc.2.1; simp only at this; omega
  have CL := Lib.hid (fun W => rlog_any n W hn1 (by omega))
  have hl := lg_le (k := 11) hn1 (by have : (2 : Nat) ^ 12 = 4096 := rfl; omega)
  have F : Hid (costF ⟨1, n, a⟩ = n * 3 * lg n + n) := Lib.hid (costF_can hc)
  obtain ⟨l, el⟩ : ∃ l, lg n = l := ⟨_, rfl⟩
  rw [el] at F hl
  simp only [el] at CL
  obtain ⟨q, eq⟩ : ∃ q, n * 3 * l = q := ⟨_, rfl⟩
  rw [eq] at F
  have hq : q ≤ 1024 * 3 * 11 := eq ▸ Nat.mul_le_mul (by omega) hl
  have E : Hid (3 * (n : Int) * (l : Int) = (q : Int)) := Lib.hid (by rw [← eq]; push_cast; rw [Int.mul_comm (n : Int)])
  clear el eq
  unfold plV at C2 ⊢
  clear hc hn1
  go_enter Tryz.func17, Tryz.ntmps17
  go_wp2_with fail
  refine (C2.out _).mono ?_
  rintro e w1 ⟨rfl, hb⟩
  have y0 := (hb.cell (p := ⟨w.heap.size, 0, none⟩) (by simp)).trans (World.cell?_alloc_at _ _ _ _ rfl)
  have y1 := (hb.cell (p := ⟨w.heap.size, 1, none⟩) (by simp)).trans (World.cell?_alloc_at _ _ _ _ rfl)
  have y2 := (hb.cell (p := ⟨w.heap.size, 2, none⟩) (by simp)).trans (World.cell?_alloc_at _ _ _ _ rfl)
  have HB := Lib.hid (bl_trans (HB0.out _) hb)
  have ly := cell_lt y0
  clear hb
  go_wp2_with fail
  go_quiet ((go_at_call 52; exact Calls.quiet_of (quiet0 (CL.out _))))
  go_wp2_with fail
  go_ret
  exact ⟨ret_int (by rw [E.out, F.out]; unfold wrap64; omega), bl_drew HB.out _⟩
set_option maxHeartbeats 1000000 in
set_option maxRecDepth 100000 in
theorem rcost_2 (n : Nat) (a : Int) (w : World) (hc : canF ⟨2, n, a⟩) : Calls Tryz.prog 17 #[plV ⟨2, n, a⟩] w fun e w' => e = .returned (.int .i64 (costF ⟨2, n, a⟩ : Nat)) ∧ Below w.heap.size w w' := by
  have HB0 : Hid (∀ o : Obj, Below w.heap.size w (w.alloc o)) := Lib.hid fun o => (Below.refl _ _).alloc (Nat.le_refl _) _
  have C2 := Lib.hid (fun W => rcan_any ⟨2, n, a⟩ W)
  simp only [bOf_true hc] at C2
  have hn1 : 1 ≤ n := by have := hc.1; simp only at this; omega
  have hn2 : n ≤ 1024 := by have := hc.2.1; simp only at this; omega
  have CL := Lib.hid (fun W => rlog_any n W hn1 (by omega))
  have hl := lg_le (k := 11) hn1 (by have : (2 : Nat) ^ 12 = 4096 := rfl; omega)
  have F : Hid (costF ⟨2, n, a⟩ = n * 2 * lg n + 2 * n) := Lib.hid (costF_can hc)
  obtain ⟨l, el⟩ : ∃ l, lg n = l := ⟨_, rfl⟩
  rw [el] at F hl
  simp only [el] at CL
  obtain ⟨q, eq⟩ : ∃ q, n * 2 * l = q := ⟨_, rfl⟩
  rw [eq] at F
  have hq : q ≤ 1024 * 3 * 11 := eq ▸ Nat.mul_le_mul (by omega) hl
  have E : Hid (2 * (n : Int) * (l : Int) = (q : Int)) := Lib.hid (by rw [← eq]; push_cast; rw [Int.mul_comm (n : Int)])
  clear el eq
  unfold plV at C2 ⊢
  clear hc hn1
  go_enter Tryz.func17, Tryz.ntmps17
  go_wp2_with fail
  refine (C2.out _).mono ?_
  rintro e w1 ⟨rfl, hb⟩
  have y0 := (hb.cell (p := ⟨w.heap.size, 0, none⟩) (by simp)).trans (World.cell?_alloc_at _ _ _ _ rfl)
  have y1 := (hb.cell (p := ⟨w.heap.size, 1, none⟩) (by simp)).trans (World.cell?_alloc_at _ _ _ _ rfl)
  have y2 := (hb.cell (p := ⟨w.heap.size, 2, none⟩) (by simp)).trans (World.cell?_alloc_at _ _ _ _ rfl)
  have HB := Lib.hid (bl_trans (HB0.out _) hb)
  have ly := cell_lt y0
  clear hb
  go_wp2_with fail
  go_quiet ((go_at_call 52; exact Calls.quiet_of (quiet0 (CL.out _))))
  go_wp2_with fail
  go_ret
  exact ⟨ret_int (by rw [E.out, F.out]; unfold wrap64; omega), bl_drew HB.out _⟩
set_option maxHeartbeats 1000000 in
set_option maxRecDepth 100000 in
theorem rcost_5 (n : Nat) (a : Nat) (w : World) (hc : canF ⟨5, n, a⟩) : Calls Tryz.prog 17 #[plV ⟨5, n, a⟩] w fun e w' => e = .returned (.int .i64 (costF ⟨5, n, a⟩ : Nat)) ∧ Below w.heap.size w w' := by
  have HB0 : Hid (∀ o : Obj, Below w.heap.size w (w.alloc o)) := Lib.hid fun o => (Below.refl _ _).alloc (Nat.le_refl _) _
  have C2 := Lib.hid (fun W => rcan_any ⟨5, n, a⟩ W)
  simp only [bOf_true hc] at C2
  have hn1 : 1 ≤ n := by have := hc.1; simp only at this; omega
  have hn2 : n ≤ 1024 := by have := hc.2.1; simp only at this; omega
  have ha := can_pos hc (by simp)
  simp only at ha
  have ha1 : 1 ≤ a := by omega
  have ha2 : a ≤ 2048 := by omega
  have CL := Lib.hid (fun W => rlog_any a W ha1 ha2)
  have hl := lg_le (k := 11) ha1 (by have : (2 : Nat) ^ 12 = 4096 := rfl; omega)
  have F : Hid (costF ⟨5, n, a⟩ = 3 * (a * 3 * lg a + a) + 4 * n) := Lib.hid (costF_can hc)
  obtain ⟨l, el⟩ : ∃ l, lg a = l := ⟨_, rfl⟩
  rw [el] at F hl
  simp only [el] at CL
  obtain ⟨q, eq⟩ : ∃ q, a * 3 * l = q := ⟨_, rfl⟩
  rw [eq] at F
  have hq : q ≤ 2048 * 3 * 11 := eq ▸ Nat.mul_le_mul (by omega) hl
  have E : Hid (3 * (a : Int) * (l : Int) = (q : Int)) := Lib.hid (by rw [← eq]; push_cast; rw [Int.mul_comm (a : Int)])
  clear el eq ha ha1
  unfold plV at C2 ⊢
  clear hc hn1
  go_enter Tryz.func17, Tryz.ntmps17
  go_wp2_with fail
  refine (C2.out _).mono ?_
  rintro e w1 ⟨rfl, hb⟩
  have y0 := (hb.cell (p := ⟨w.heap.size, 0, none⟩) (by simp)).trans (World.cell?_alloc_at _ _ _ _ rfl)
  have y1 := (hb.cell (p := ⟨w.heap.size, 1, none⟩) (by simp)).trans (World.cell?_alloc_at _ _ _ _ rfl)
  have y2 := (hb.cell (p := ⟨w.heap.size, 2, none⟩) (by simp)).trans (World.cell?_alloc_at _ _ _ _ rfl)
  have HB := Lib.hid (bl_trans (HB0.out _) hb)
  have ly := cell_lt y0
  clear hb
  go_wp2_with fail
  go_quiet ((go_at_call 52; exact Calls.quiet_of (quiet0 (CL.out _))))
  go_wp2_with fail
  go_ret
  exact ⟨ret_int (by rw [E.out, F.out]; unfold wrap64; omega), bl_drew HB.out _⟩
set_option maxHeartbeats 1000000 in
set_option maxRecDepth 100000 in
theorem rcost_6 (n : Nat) (a : Nat) (w : World) (hc : canF ⟨6, n, a⟩) : Calls Tryz.prog 17 #[plV ⟨6, n, a⟩] w fun e w' => e = .returned (.int .i64 (costF ⟨6, n, a⟩ : Nat)) ∧ Below w.heap.size w w' := by
  have HB0 : Hid (∀ o : Obj, Below w.heap.size w (w.alloc o)) := Lib.hid fun o => (Below.refl _ _).alloc (Nat.le_refl _) _
  have C2 := Lib.hid (fun W => rcan_any ⟨6, n, a⟩ W)
  simp only [bOf_true hc] at C2
  have hn1 : 1 ≤ n := by have := hc.1; simp only at this; omega
  have hn2 : n ≤ 1024 := by have := hc.2.1; simp only at this; omega
  have ha := can_pos hc (by simp)
  simp only at ha
  have ha1 : 1 ≤ a := by omega
  have ha2 : a ≤ 2048 := by omega
  have CL := Lib.hid (fun W => rlog_any a W ha1 ha2)
  have hl := lg_le (k := 11) ha1 (by have : (2 : Nat) ^ 12 = 4096 := rfl; omega)
  have F : Hid (costF ⟨6, n, a⟩ = 3 * (a * 3 * lg a + a) + 6 * n) := Lib.hid (costF_can hc)
  obtain ⟨l, el⟩ : ∃ l, lg a = l := ⟨_, rfl⟩
  rw [el] at F hl
  simp only [el] at CL
  obtain ⟨q, eq⟩ : ∃ q, a * 3 * l = q := ⟨_, rfl⟩
  rw [eq] at F
  have hq : q ≤ 2048 * 3 * 11 := eq ▸ Nat.mul_le_mul (by omega) hl
  have E : Hid (3 * (a : Int) * (l : Int) = (q : Int)) := Lib.hid (by rw [← eq]; push_cast; rw [Int.mul_comm (a : Int)])
  clear el eq ha ha1
  unfold plV at C2 ⊢
  clear hc hn1
  go_enter Tryz.func17, Tryz.ntmps17
  go_wp2_with fail
  refine (C2.out _).mono ?_
  rintro e w1 ⟨rfl, hb⟩
  have y0 := (hb.cell (p := ⟨w.heap.size, 0, none⟩) (by simp)).trans (World.cell?_alloc_at _ _ _ _ rfl)
  have y1 := (hb.cell (p := ⟨w.heap.size, 1, none⟩) (by simp)).trans (World.cell?_alloc_at _ _ _ _ rfl)
  have y2 := (hb.cell (p := ⟨w.heap.size, 2, none⟩) (by simp)).trans (World.cell?_alloc_at _ _ _ _ rfl)
  have HB := Lib.hid (bl_trans (HB0.out _) hb)
  have ly := cell_lt y0
  clear hb
  go_wp2_with fail
  go_quiet ((go_at_call 52; exact Calls.quiet_of (quiet0 (CL.out _))))
  go_wp2_with fail
  go_ret
  exact ⟨ret_int (by rw [E.out, F.out]; unfold wrap64; omega), bl_drew HB.out _⟩
set_option maxHeartbeats 1000000 in
set_option maxRecDepth 100000 in
theorem rcost_3 (n : Nat) (a : Int) (w : World) (hc : canF ⟨3, n, a⟩) : Calls Tryz.prog 17 #[plV ⟨3, n, a⟩] w fun e w' => e = .returned (.int .i64 (costF ⟨3, n, a⟩ : Nat)) ∧ Below w.heap.size w w' := by
  have HB0 : Hid (∀ o : Obj, Below w.heap.size w (w.alloc o)) := Lib.hid fun o => (Below.refl _ _).alloc (Nat.le_refl _) _
  have C2 := Lib.hid (fun W => rcan_any ⟨3, n, a⟩ W)
  simp only [bOf_true hc] at C2
  have hn1 : 1 ≤ n := by have := hc.1; simp only at this; omega
  have hn2 : n ≤ 1024 := by have := hc.2.1; simp only at this; omega
  have CR := Lib.hid (fun W => rradices_any (n : Int) W)
  have hc2 := hc.2.2
  simp only [Int.toNat_natCast] at hc2
  have hs : (radL n).isSome = true := by
    rcases hc2 with h | h | h | h | h | h
    · omega
    · omega
    · exact h.2.2
    all_goals omega
  obtain ⟨L, hL⟩ := Option.isSome_iff_exists.mp hs
  have hsp := radL_spec n L (by omega) hn1 hL
  have hle := sum_le7 (L := L) (fun r hr => by rcases hsp.1 r hr with h | h | h | h <;> omega)
  have hl10 := hsp.2.2
  have F : Hid (costF ⟨3, n, a⟩ = 2 * n * L.sum + n) := Lib.hid ((costF_can hc).trans (by
    show partF (n : Int).toNat = _
    rw [Int.toNat_natCast]
    unfold partF
    rw [hL]))
  have HL := Lib.hid hL
  have HS := Lib.hid (show ∀ r ∈ L, r ≤ 7 from fun r hr => by rcases hsp.1 r hr with h | h | h | h <;> omega)
  have HN := Lib.hid hn1
  clear hc2 hs hL hsp
  unfold plV at C2 ⊢
  clear hc hn1
  go_enter Tryz.func17, Tryz.ntmps17
  go_wp2_with fail
  refine (C2.out _).mono ?_
  rintro e w1 ⟨rfl, hb⟩
  have y0 := (hb.cell (p := ⟨w.heap.size, 0, none⟩) (by simp)).trans (World.cell?_alloc_at _ _ _ _ rfl)
  have y1 := (hb.cell (p := ⟨w.heap.size, 1, none⟩) (by simp)).trans (World.cell?_alloc_at _ _ _ _ rfl)
  have y2 := (hb.cell (p := ⟨w.heap.size, 2, none⟩) (by simp)).trans (World.cell?_alloc_at _ _ _ _ rfl)
  have HB := Lib.hid (bl_trans (HB0.out _) hb)
  have ly := cell_lt y0
  clear hb
  go_wp2_with fail
  refine (CR.out _).mono ?_
  rintro e w2 ⟨hb, ⟨-, -, A, m, c, L', rfl, hL', hm, hO⟩ | ⟨hL', -⟩⟩
  case inr =>
    exact absurd ⟨by have := HN.out; omega, by omega, by rw [Int.toNat_natCast, HL.out]; rfl⟩ hL'
  rw [Int.toNat_natCast, HL.out] at hL'
  obtain rfl := Option.some.inj hL'
  have z0 := (hb.cell (p := ⟨w.heap.size, 0, none⟩) ly).trans y0
  have z1 := (hb.cell (p := ⟨w.heap.size, 1, none⟩) ly).trans y1
  have HB2 := Lib.hid (bl_trans HB.out hb)
  have lz := cell_lt z0
  have HO := Lib.hid hO
  have HM := Lib.hid hm
  have hm10 : m ≤ 10 := by omega
  obtain ⟨S, eS⟩ : ∃ S, L.sum = S := ⟨_, rfl⟩
  rw [eS] at F hle
  have ES := Lib.hid eS
  clear hb hL' hO hm eS y0 y1 y2
  go_wp2_with fail
  go_loop [55, 5] (fun s55 s5 => ∃ i s : Nat, s55 = .int .i64 i ∧ i ≤ m ∧ s5 = .int .i64 s ∧ s ≤ 7 * i ∧ Hid (s = (L.take i).sum)) (fun s55 _ => m - (intOf s55).toNat)
  case atStart => exact ⟨0, 0, rfl, Nat.zero_le _, rfl, by omega, Lib.hid rfl⟩
  case round =>
    obtain ⟨i, s, rfl, hi, rfl, hs, hS⟩ := hrel
    by_cases hlt : i < m
    · have hj : i < L.length := by rw [HM.out]; exact hlt
      obtain ⟨g, rfl⟩ : ∃ g, A = some ⟨g, 0, none⟩ := by
        rcases HO.out.2 with ⟨h, h0⟩ | ⟨g, cap, cur, h, -⟩
        · omega
        · injection h with h
          exact ⟨g, h⟩
      have c0 := is_cell HO.out HM.out hj
      have h7 := HS.out _ (List.getElem_mem hj)
      have Y : Hid (s + L[i] = (L.take (i + 1)).sum) := Lib.hid (by rw [sum_take hj, hS.out])
      obtain ⟨r, er⟩ : ∃ r, L[i] = r := ⟨_, rfl⟩
      rw [er] at c0 h7 Y
      clear er hj
      go_wp2_with fail
      exact ⟨⟨i + 1, s + r, by go_num, by omega, by go_num, by omega, Y⟩, by simp [intOf]; omega⟩
    · obtain rfl : i = m := by omega
      have es : s = S := by rw [hS.out, List.take_of_length_le (by rw [HM.out]; omega), ES.out]
      obtain ⟨q, eq⟩ : ∃ q, 2 * n * S = q := ⟨_, rfl⟩
      rw [eq] at F
      have hq : q ≤ 2048 * 70 := eq ▸ Nat.mul_le_mul (by omega) (by omega)
      have E : Hid (2 * (n : Int) * (S : Int) = (q : Int)) := Lib.hid (by rw [← eq]; push_cast; rfl)
      subst es
      clear eq hS
      go_wp2_with fail
      go_ret
      exact ⟨ret_int (by rw [E.out, F.out]; unfold wrap64; omega), HB2.out⟩
end SPh
section SPi
open Go.RowKit Epi
theorem can3_iff {m : Nat} (h1 : 1 ≤ m) (h2 : m ≤ 1024) : bOf (canF ⟨3, m, 0⟩) = (radL m).isSome := by
  rw [can_3 (by omega) (by omega), Int.toNat_natCast]
  simp
theorem partF_le {m : Nat} (h1 : 1 ≤ m) (h2 : m ≤ 1024) : partF m ≤ 2097152 := by
  unfold partF
  cases e : radL m with
  | none => exact Nat.le_trans (Nat.mul_le_mul h2 h2) (by omega)
  | some L =>
    have hsp := radL_spec m L (by omega) h1 e
    have hle := sum_le7 (L := L) (fun r hr => by rcases hsp.1 r hr with h | h | h | h <;> omega)
    have : 2 * m * L.sum ≤ 2048 * 70 := Nat.mul_le_mul (by omega) (by omega)
    show 2 * m * L.sum + m ≤ 2097152
    omega
theorem part_none {m : Nat} (h : (radL m).isSome = false) : partF m = m * m := by
  unfold partF
  cases e : radL m with
  | none => rfl
  | some L => rw [e] at h; cases h
set_option maxHeartbeats 1000000 in
theorem rpart_any (m : Nat) (w : World) (h1 : 1 ≤ m) (h2 : m ≤ 1024) : Calls Tryz.prog 54 #[.int .i64 m] w fun e w' => e = .returned (.int .i64 (partF m : Nat)) ∧ Below w.heap.size w w' := by
  have C2 := Lib.hid (fun W => rcan_any ⟨3, m, 0⟩ W)
  simp only [can3_iff h1 h2] at C2
  unfold plV at C2
  cases hs : (radL m).isSome with
  | true =>
    have hc : canF ⟨3, m, 0⟩ := bOf_iff.mp (by rw [can3_iff h1 h2, hs])
    have C3 := Lib.hid (fun W => rcost_3 m 0 W hc)
    have F : Hid (costF ⟨3, m, 0⟩ = partF m) := Lib.hid ((costF_can hc).trans rfl)
    simp only [F.out] at C3
    unfold plV at C3
    simp only [hs] at C2
    clear hc hs h1
    go_enter Tryz.func54, Tryz.ntmps54
    go_wp2_with fail
    refine (C2.out _).mono ?_
    rintro e w1 ⟨rfl, hb⟩
    have HB := Lib.hid hb
    clear hb
    go_wp2_with fail
    refine (C3.out _).mono ?_
    rintro e w2 ⟨rfl, hb⟩
    have HB2 := Lib.hid (bl_trans HB.out hb)
    clear hb
    go_wp2_with fail
    go_ret
    exact ⟨rfl, HB2.out⟩
  | false =>
    have F := Lib.hid (part_none hs)
    obtain ⟨q, eq⟩ : ∃ q, m * m = q := ⟨_, rfl⟩
    rw [eq] at F
    have hq : q ≤ 1024 * 1024 := eq ▸ Nat.mul_le_mul h2 h2
    have E : Hid ((m : Int) * (m : Int) = (q : Int)) := Lib.hid (by rw [← eq]; simp)
    simp only [hs] at C2
    clear hs h1 eq
    go_enter Tryz.func54, Tryz.ntmps54
    go_wp2_with fail
    refine (C2.out _).mono ?_
    rintro e w1 ⟨rfl, hb⟩
    have HB := Lib.hid hb
    clear hb
    go_wp2_with fail
    go_ret
    exact ⟨ret_int (by rw [E.out, F.out]; unfold wrap64; omega), HB.out⟩
theorem cp_nat {n a : Nat} (h : cpF n a = true) : 1 < a ∧ a < n ∧ n % a = 0 ∧ Nat.gcd a (n / a) = 1 := by
  unfold cpF at h
  rw [decide_eq_true_eq, Int.toNat_natCast] at h
  obtain ⟨h1, h2, h3, h4⟩ := h
  refine ⟨by omega, by omega, by omega, ?_⟩
  rw [show ((n : Int) / (a : Int)) = ((n / a : Nat) : Int) from (Int.natCast_ediv _ _).symm, Int.toNat_natCast] at h4
  exact h4
theorem can4_nat {n a : Nat} (h : canF ⟨4, n, a⟩) : cpF n a = true := by
  have h1 := h.1
  have h2 := h.2.1
  simp only at h1 h2
  have := can_4 (a := a) h1 h2
  rw [bOf_true h] at this
  exact this.symm
set_option maxHeartbeats 4000000 in
set_option maxRecDepth 100000 in
theorem rcost_4 (n a : Nat) (w : World) (hc : canF ⟨4, n, a⟩) : Calls Tryz.prog 17 #[plV ⟨4, n, a⟩] w fun e w' => e = .returned (.int .i64 (costF ⟨4, n, a⟩ : Nat)) ∧ Below w.heap.size w w' := by
  have HB0 : Hid (∀ o : Obj, Below w.heap.size w (w.alloc o)) := Lib.hid fun o => (Below.refl _ _).alloc (Nat.le_refl _) _
  have C2 := Lib.hid (fun W => rcan_any ⟨4, n, a⟩ W)
  simp only [bOf_true hc] at C2
  have hn1 : 1 ≤ n := by have := hc.1; simp only at this; omega
  have hn2 : n ≤ 1024 := by have := hc.2.1; simp only at this; omega
  obtain ⟨ha1, ha2, ha3, -⟩ := cp_nat (can4_nat hc)
  obtain ⟨b, eb⟩ : ∃ b, n / a = b := ⟨_, rfl⟩
  have hb1 : 1 ≤ b := by rw [← eb]; exact Nat.div_pos (by omega) (by omega)
  have hb2 : b ≤ 1024 := by rw [← eb]; exact Nat.le_trans (Nat.div_le_self _ _) hn2
  have CA := Lib.hid (fun W => rpart_any a W (by omega) (by omega))
  have CB := Lib.hid (fun W => rpart_any b W hb1 hb2)
  have F : Hid (costF ⟨4, n, a⟩ = a * partF b + b * partF a + n) := Lib.hid ((costF_can hc).trans (by
    show (a : Int).toNat * partF ((n : Int) / (a : Int)).toNat + ((n : Int) / (a : Int)).toNat * partF (a : Int).toNat + (n : Int).toNat = _
    rw [show ((n : Int) / (a : Int)) = ((n / a : Nat) : Int) from (Int.natCast_ediv _ _).symm, eb]
    simp only [Int.toNat_natCast]))
  have hpa := partF_le (m := a) (by omega) (by omega)
  have hpb := partF_le hb1 hb2
  obtain ⟨pa, epa⟩ : ∃ pa, partF a = pa := ⟨_, rfl⟩
  obtain ⟨pb, epb⟩ : ∃ pb, partF b = pb := ⟨_, rfl⟩
  simp only [epa] at CA F hpa
  simp only [epb] at CB F hpb
  obtain ⟨q1, eq1⟩ : ∃ q1, a * pb = q1 := ⟨_, rfl⟩
  obtain ⟨q2, eq2⟩ : ∃ q2, b * pa = q2 := ⟨_, rfl⟩
  have hq1 : q1 ≤ 1024 * 2097152 := eq1 ▸ Nat.mul_le_mul (by omega) hpb
  have hq2 : q2 ≤ 1024 * 2097152 := eq2 ▸ Nat.mul_le_mul (by omega) hpa
  rw [eq1, eq2] at F
  have E1 : Hid ((a : Int) * (pb : Int) = (q1 : Int)) := Lib.hid (by rw [← eq1]; simp)
  have E2 : Hid ((b : Int) * (pa : Int) = (q2 : Int)) := Lib.hid (by rw [← eq2]; simp)
  have k2 : (n : Int) / a = (b : Int) := by rw [← eb]; exact (Int.natCast_ediv _ _).symm
  have k3 : (n : Int).tdiv a = (b : Int) := by rw [Int.tdiv_eq_ediv_of_nonneg (Int.natCast_nonneg _)]; exact k2
  have k4 : ((a : Int) == 0) = false := by rw [beq_eq_false_iff_ne]; omega
  have k5 : ¬ a = 0 := by omega
  have k6 : IntKind.i64.wrap (b : Int) = (b : Int) := IntWalk.i64_in _ ⟨by omega, by omega⟩
  unfold plV at C2 ⊢
  clear hc hn1 ha1 ha2 ha3 eb epa epb eq1 eq2
  go_enter Tryz.func17, Tryz.ntmps17
  go_wp2_with fail
  refine (C2.out _).mono ?_
  rintro e w1 ⟨rfl, hb⟩
  have y0 := (hb.cell (p := ⟨w.heap.size, 0, none⟩) (by simp)).trans (World.cell?_alloc_at _ _ _ _ rfl)
  have y1 : w1.cell? ⟨w.heap.size, 1, none⟩ = some (.int .i64 n) := (hb.cell (p := ⟨w.heap.size, 1, none⟩) (by simp)).trans (World.cell?_alloc_at _ _ _ _ rfl)
  have y2 : w1.cell? ⟨w.heap.size, 2, none⟩ = some (.int .i64 a) := (hb.cell (p := ⟨w.heap.size, 2, none⟩) (by simp)).trans (World.cell?_alloc_at _ _ _ _ rfl)
  have HB := Lib.hid (bl_trans (HB0.out _) hb)
  have ly := cell_lt y0
  have HS : Hid (∀ w', Below w1.heap.size w1 w' → w'.cell? ⟨w.heap.size, 1, none⟩ = some (.int .i64 n) ∧ w'.cell? ⟨w.heap.size, 2, none⟩ = some (.int .i64 a)) := Lib.hid fun w' hb => ⟨(hb.cell (p := ⟨w.heap.size, 1, none⟩) ly).trans y1, (hb.cell (p := ⟨w.heap.size, 2, none⟩) ly).trans y2⟩
  clear hb
  go_wp2_with fail
  go_region_held3 (fun w' => w'.cell? ⟨w.heap.size, 1, none⟩ = some (.int .i64 n) ∧ w'.cell? ⟨w.heap.size, 2, none⟩ = some (.int .i64 a)) (first | exact ⟨y1, y2⟩ | exact HS.out _ (bl_drew1 (Below.refl _ _)) | exact HS.out _ (bl_trans (bl_drew1 (Below.refl _ _)) hbB) | exact HS.out _ (bl_trans (bl_drew1 (Below.refl _ _)) hbA) | exact HS.out _ (bl_trans (bl_trans (bl_drew1 (Below.refl _ _)) hbB) hbA) | exact HS.out _ (bl_trans (bl_trans (bl_drew1 (Below.refl _ _)) hbA) hbB)) (first | (go_at_call 54; ((with_reducible refine (CB.out _).mono ?_); rintro e wB ⟨rfl, hbB⟩)) | (go_at_call 54; ((with_reducible refine (CA.out _).mono ?_); rintro e wA ⟨rfl, hbA⟩)))
  have HB2 := Lib.hid (bl_trans HB.out (bl_trans (bl_trans (bl_drew1 (Below.refl _ _)) hbB) hbA))
  clear hbA hbB
  go_wp2_with fail
  go_ret
  exact ⟨ret_int (by
    rw [E1.out, E2.out, F.out]
    rw [IntWalk.i64_in (q1 : Int) ⟨by omega, by omega⟩, IntWalk.i64_in (q2 : Int) ⟨by omega, by omega⟩, IntWalk.i64_in ((q1 : Int) + q2) ⟨by omega, by omega⟩, IntWalk.i64_in ((q1 : Int) + q2 + n) ⟨by omega, by omega⟩]
    omega), HB2.out⟩
theorem rcost_no (x : Pl) (w : World) (hc : ¬ canF x) : Calls Tryz.prog 17 #[plV x] w fun e w' => e = .returned (.int .i64 (costF x : Nat)) ∧ Below w.heap.size w w' := by
  have HB0 : Hid (∀ o : Obj, Below w.heap.size w (w.alloc o)) := Lib.hid fun o => (Below.refl _ _).alloc (Nat.le_refl _) _
  have C2 := Lib.hid (fun W => rcan_any x W)
  simp only [bOf_false hc] at C2
  have F : Hid (costF x = 0) := Lib.hid (if_neg (fun h => hc (bOf_iff.mp h)))
  obtain ⟨k, n, a⟩ := x
  unfold plV at C2 ⊢
  clear hc
  go_enter Tryz.func17, Tryz.ntmps17
  go_wp2_with fail
  refine (C2.out _).mono ?_
  rintro e w1 ⟨rfl, hb⟩
  have HB := Lib.hid (bl_trans (HB0.out _) hb)
  clear hb
  go_wp2_with fail
  go_ret
  exact ⟨ret_int (by rw [F.out]; rfl), HB.out⟩
theorem can_kind {x : Pl} (h : canF x) : 0 ≤ x.k ∧ x.k ≤ 6 := by
  have := h.2.2
  omega
theorem rcost_any (x : Pl) (w : World) : Calls Tryz.prog 17 #[plV x] w fun e w' => e = .returned (.int .i64 (costF x : Nat)) ∧ Below w.heap.size w w' := by
  by_cases hc : canF x
  case neg => exact rcost_no x w hc
  obtain ⟨k, n, a⟩ := x
  have hk := can_kind hc
  have hn := hc.1
  simp only at hk hn
  obtain ⟨n, rfl⟩ := Int.eq_ofNat_of_zero_le (show 0 ≤ n by omega)
  have hk' : k = 0 ∨ k = 1 ∨ k = 2 ∨ k = 3 ∨ k = 4 ∨ k = 5 ∨ k = 6 := by omega
  rcases hk' with rfl | rfl | rfl | rfl | rfl | rfl | rfl
  · exact rcost_0 n a w hc
  · exact rcost_1 n a w hc
  · exact rcost_2 n a w hc
  · exact rcost_3 n a w hc
  · have : 0 ≤ a := by
      have h1 := hc.1
      have h2 := hc.2.1
      have h3 := can_4 (a := a) h1 h2
      rw [bOf_true hc] at h3
      have h3 := h3.symm
      unfold cpF at h3
      rw [decide_eq_true_eq] at h3
      omega
    obtain ⟨a, rfl⟩ := Int.eq_ofNat_of_zero_le this
    exact rcost_4 n a w hc
  · have := (can_pos hc (by simp)).1
    simp only at this
    obtain ⟨a, rfl⟩ := Int.eq_ofNat_of_zero_le (show 0 ≤ a by omega)
    exact rcost_5 n a w hc
  · have := (can_pos hc (by simp)).1
    simp only at this
    obtain ⟨a, rfl⟩ := Int.eq_ofNat_of_zero_le (show 0 ≤ a by omega)
    exact rcost_6 n a w hc
end SPi
end Go.Proofs.YtbokindcnkknmaaGreat
