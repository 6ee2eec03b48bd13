/- What plans cost, by the program: reckoned. -/
import Derived.Test.YtbokindcnkknmaaGreatPh
set_option linter.unusedVariables false
namespace Go.Proofs.YtbokindcnkknmaaGreat
open Go.RowKit Epi
set_option maxHeartbeats 1000000 in
set_option maxRecDepth 100000 in
theorem reck_0 (bm n : Nat) (a : Int) (w : World) (hc : canF ⟨0, n, a⟩) : Calls Tryz.prog 111 #[.map (some bm), plV ⟨0, n, a⟩] w fun e w' => e = .returned (.int .i64 (costK ⟨0, n, a⟩ : Nat)) ∧ Below w.heap.size w w' := by
  have HB0 : Hid (∀ o : Obj, Below w.heap.size w (w.alloc o)) := Lib.hid fun o => (Below.refl _ _).alloc (Nat.le_refl _) _
  have hn1 : 1 ≤ n := by have := hc.1; simp only at this; omega
  have hn2 : n ≤ 1024 := by have := hc.2.1; simp only at this; omega
  obtain ⟨q, eq⟩ : ∃ q, n * n = q := ⟨_, rfl⟩
  have F : Hid (costK ⟨0, n, a⟩ = q) := Lib.hid eq
  have hq : q ≤ 1024 * 1024 := eq ▸ Nat.mul_le_mul hn2 hn2
  have E : Hid ((n : Int) * (n : Int) = (q : Int)) := Lib.hid (by rw [← eq]; simp)
  clear eq
  unfold plV
  clear hc hn1
  go_enter Tryz.func111, Tryz.ntmps111
  go_wp2_with fail
  go_ret
  exact ⟨ret_int (by rw [E.out, F.out]; unfold wrap64; omega), HB0.out _⟩
set_option maxHeartbeats 1000000 in
set_option maxRecDepth 100000 in
theorem reck_1 (bm n : Nat) (a : Int) (w : World) (hc : canF ⟨1, n, a⟩) : Calls Tryz.prog 111 #[.map (some bm), plV ⟨1, n, a⟩] w fun e w' => e = .returned (.int .i64 (costK ⟨1, n, a⟩ : Nat)) ∧ Below w.heap.size w w' := by
  have HB0 : Hid (∀ o : Obj, Below w.heap.size w (w.alloc o)) := Lib.hid fun o => (Below.refl _ _).alloc (Nat.le_refl _) _
  have hn1 : 1 ≤ n := by have := hc.1; simp only at this; omega
  have hn2 : n ≤ 1024 := by have := hc.2.1; simp only at this; omega
  have CL := Lib.hid (fun W => halves_any n W hn1 (by omega))
  have F : Hid (costK ⟨1, n, a⟩ = n * 3 * lg n + n) := Lib.hid rfl
  unfold plV
  clear hc hn1
  go_enter Tryz.func111, Tryz.ntmps111
  go_wp2_with fail
  refine (CL.out _).mono ?_
  rintro e w1 ⟨rfl, rfl⟩
  go_wp2_with fail
  go_ret
  exact ⟨ret_int (by rw [F.out]; (try simp)), HB0.out _⟩
set_option maxHeartbeats 1000000 in
set_option maxRecDepth 100000 in
theorem reck_2 (bm n : Nat) (a : Int) (w : World) (hc : canF ⟨2, n, a⟩) : Calls Tryz.prog 111 #[.map (some bm), plV ⟨2, n, a⟩] w fun e w' => e = .returned (.int .i64 (costK ⟨2, n, a⟩ : Nat)) ∧ Below w.heap.size w w' := by
  have HB0 : Hid (∀ o : Obj, Below w.heap.size w (w.alloc o)) := Lib.hid fun o => (Below.refl _ _).alloc (Nat.le_refl _) _
  have hn1 : 1 ≤ n := by have := hc.1; simp only at this; omega
  have hn2 : n ≤ 1024 := by have := hc.2.1; simp only at this; omega
  have CL := Lib.hid (fun W => Tryz.bits_Len (n : Int) W (by omega) (by omega))
  rw [Int.toNat_natCast, bitLen_lg hn1 (by omega)] at CL
  have hl := lg_le (k := 11) hn1 (by have : (2 : Nat) ^ 12 = 4096 := rfl; omega)
  have F : Hid (costK ⟨2, n, a⟩ = n * 2 * lg n + 2 * n) := Lib.hid rfl
  obtain ⟨l, el⟩ : ∃ l, lg n = l := ⟨_, rfl⟩
  rw [el] at F hl CL
  obtain ⟨q, eq⟩ : ∃ q, n * 2 * l = q := ⟨_, rfl⟩
  rw [eq] at F
  have hq : q ≤ 1024 * 3 * 11 := eq ▸ Nat.mul_le_mul (by omega) hl
  have E : Hid ((n : Int) * 2 * (l : Int) = (q : Int)) := Lib.hid (by rw [← eq]; push_cast; rfl)
  have v1 : IntKind.u64.wrap (n : Int) = (n : Int) := IntWalk.u64_in _ ⟨by omega, by omega⟩
  clear el eq
  unfold plV
  clear hc hn1
  go_enter Tryz.func111, Tryz.ntmps111
  go_wp2_with fail
  go_quiet ((go_at_call 176; exact Calls.quiet_of_same (CL.out _)))
  go_wp2_with fail
  go_ret

  exact ⟨ret_int (by rw [E.out, F.out]; unfold wrap64; omega), bl_drew (HB0.out _) _⟩
set_option maxHeartbeats 1000000 in
set_option maxRecDepth 100000 in
theorem reck_5 (bm n : Nat) (a : Nat) (w : World) (hc : canF ⟨5, n, a⟩) : Calls Tryz.prog 111 #[.map (some bm), plV ⟨5, n, a⟩] w fun e w' => e = .returned (.int .i64 (costK ⟨5, n, a⟩ : Nat)) ∧ Below w.heap.size w w' := by
  have HB0 : Hid (∀ o : Obj, Below w.heap.size w (w.alloc o)) := Lib.hid fun o => (Below.refl _ _).alloc (Nat.le_refl _) _
  have hn1 : 1 ≤ n := by have := hc.1; simp only at this; omega
  have hn2 : n ≤ 1024 := by have := hc.2.1; simp only at this; omega
  have ha := can_pos hc (by simp)
  simp only at ha
  have ha1 : 1 ≤ a := by omega
  have ha2 : a ≤ 2048 := by omega
  have CL := Lib.hid (fun W => halves_any a W ha1 ha2)
  have hl := lg_le (k := 11) ha1 (by have : (2 : Nat) ^ 12 = 4096 := rfl; omega)
  have F : Hid (costK ⟨5, n, a⟩ = 3 * (a * 3 * lg a + a) + 4 * n) := Lib.hid rfl
  obtain ⟨q, eq⟩ : ∃ q, a * 3 * lg a = q := ⟨_, rfl⟩
  have hq : q ≤ 2048 * 3 * 11 := eq ▸ Nat.mul_le_mul (by omega) hl
  rw [eq] at F CL
  clear eq ha ha1 hl
  unfold plV
  clear hc hn1
  go_enter Tryz.func111, Tryz.ntmps111
  go_wp2_with fail
  go_quiet ((go_at_call 175; exact Calls.quiet_of (quiet0 (CL.out _))))
  go_wp2_with fail
  go_ret
  exact ⟨ret_int (by rw [F.out]; (try unfold wrap64); omega), bl_drew (HB0.out _) _⟩
set_option maxHeartbeats 1000000 in
set_option maxRecDepth 100000 in
theorem reck_6 (bm n : Nat) (a : Nat) (w : World) (hc : canF ⟨6, n, a⟩) : Calls Tryz.prog 111 #[.map (some bm), plV ⟨6, n, a⟩] w fun e w' => e = .returned (.int .i64 (costK ⟨6, n, a⟩ : Nat)) ∧ Below w.heap.size w w' := by
  have HB0 : Hid (∀ o : Obj, Below w.heap.size w (w.alloc o)) := Lib.hid fun o => (Below.refl _ _).alloc (Nat.le_refl _) _
  have hn1 : 1 ≤ n := by have := hc.1; simp only at this; omega
  have hn2 : n ≤ 1024 := by have := hc.2.1; simp only at this; omega
  have ha := can_pos hc (by simp)
  simp only at ha
  have ha1 : 1 ≤ a := by omega
  have ha2 : a ≤ 2048 := by omega
  have CL := Lib.hid (fun W => halves_any a W ha1 ha2)
  have hl := lg_le (k := 11) ha1 (by have : (2 : Nat) ^ 12 = 4096 := rfl; omega)
  have F : Hid (costK ⟨6, n, a⟩ = 3 * (a * 3 * lg a + a) + 6 * n) := Lib.hid rfl
  obtain ⟨q, eq⟩ : ∃ q, a * 3 * lg a = q := ⟨_, rfl⟩
  have hq : q ≤ 2048 * 3 * 11 := eq ▸ Nat.mul_le_mul (by omega) hl
  rw [eq] at F CL
  clear eq ha ha1 hl
  unfold plV
  clear hc hn1
  go_enter Tryz.func111, Tryz.ntmps111
  go_wp2_with fail
  go_quiet ((go_at_call 175; exact Calls.quiet_of (quiet0 (CL.out _))))
  go_wp2_with fail
  go_ret
  exact ⟨ret_int (by rw [F.out]; (try unfold wrap64); omega), bl_drew (HB0.out _) _⟩
set_option maxHeartbeats 1000000 in
set_option maxRecDepth 100000 in
theorem reck_3 (bm n : Nat) (a : Int) (w : World) (hc : canF ⟨3, n, a⟩) : Calls Tryz.prog 111 #[.map (some bm), plV ⟨3, n, a⟩] w fun e w' => e = .returned (.int .i64 (costK ⟨3, n, a⟩ : Nat)) ∧ Below w.heap.size w w' := by
  have HB0 : Hid (∀ o : Obj, Below w.heap.size w (w.alloc o)) := Lib.hid fun o => (Below.refl _ _).alloc (Nat.le_refl _) _
  have hn1 : 1 ≤ n := by have := hc.1; simp only at this; omega
  have hn2 : n ≤ 1024 := by have := hc.2.1; simp only at this; omega
  have CR := Lib.hid (fun W => radices_any (n : Int) W)
  have hc2 := hc.2.2
  simp only [Int.toNat_natCast] at hc2
  have hs : (radL n).isSome = true := by
    rcases hc2 with h | h | h | h | h | h
    · omega
    · omega
    · exact h.2.2
    all_goals omega
  obtain ⟨L, hL⟩ := Option.isSome_iff_exists.mp hs
  have hsp := radL_spec n L (by omega) hn1 hL
  have hle := sum_le7 (L := L) (fun r hr => by rcases hsp.1 r hr with h | h | h | h <;> omega)
  have hl10 := hsp.2.2
  have F : Hid (costK ⟨3, n, a⟩ = 2 * n * L.sum + n) := Lib.hid (by
    show partF (n : Int).toNat = _
    rw [Int.toNat_natCast]
    unfold partF
    rw [hL])
  have HL := Lib.hid hL
  have HS := Lib.hid (show ∀ r ∈ L, r ≤ 7 from fun r hr => by rcases hsp.1 r hr with h | h | h | h <;> omega)
  have HN := Lib.hid hn1
  clear hc2 hs hL hsp
  unfold plV
  clear hc hn1
  go_enter Tryz.func111, Tryz.ntmps111
  go_wp2_with fail
  refine (CR.out _).mono ?_
  rintro e w2 ⟨hb, ⟨-, -, A, m, c, L', rfl, hL', hm, hO⟩ | ⟨hL', -⟩⟩
  case inr =>
    exact absurd ⟨by have := HN.out; omega, by omega, by rw [Int.toNat_natCast, HL.out]; rfl⟩ hL'
  rw [Int.toNat_natCast, HL.out] at hL'
  obtain rfl := Option.some.inj hL'
  have z0 := (hb.cell (p := ⟨w.heap.size, 0, none⟩) (by simp)).trans (World.cell?_alloc_at _ _ _ _ rfl)
  have z1 := (hb.cell (p := ⟨w.heap.size, 1, none⟩) (by simp)).trans (World.cell?_alloc_at _ _ _ _ rfl)
  have HB2 := Lib.hid (bl_trans (HB0.out _) hb)
  have lz := cell_lt z0
  have HO := Lib.hid hO
  have HM := Lib.hid hm
  have hm10 : m ≤ 10 := by omega
  obtain ⟨S, eS⟩ : ∃ S, L.sum = S := ⟨_, rfl⟩
  rw [eS] at F hle
  have ES := Lib.hid eS
  clear hb hL' hO hm eS
  go_wp2_with fail
  go_loop [50, 5] (fun s55 s5 => ∃ i s : Nat, s55 = .int .i64 i ∧ i ≤ m ∧ s5 = .int .i64 s ∧ s ≤ 7 * i ∧ Hid (s = (L.take i).sum)) (fun s55 _ => m - (intOf s55).toNat)
  case atStart => exact ⟨0, 0, rfl, Nat.zero_le _, rfl, by omega, Lib.hid rfl⟩
  case round =>
    obtain ⟨i, s, rfl, hi, rfl, hs, hS⟩ := hrel
    by_cases hlt : i < m
    · have hj : i < L.length := by rw [HM.out]; exact hlt
      obtain ⟨g, rfl⟩ : ∃ g, A = some ⟨g, 0, none⟩ := by
        rcases HO.out.2 with ⟨h, h0⟩ | ⟨g, cap, cur, h, -⟩
        · omega
        · injection h with h
          exact ⟨g, h⟩
      have c0 := is_cell HO.out HM.out hj
      have h7 := HS.out _ (List.getElem_mem hj)
      have Y : Hid (s + L[i] = (L.take (i + 1)).sum) := Lib.hid (by rw [sum_take hj, hS.out])
      obtain ⟨r, er⟩ : ∃ r, L[i] = r := ⟨_, rfl⟩
      rw [er] at c0 h7 Y
      clear er hj
      go_wp2_with fail
      exact ⟨⟨i + 1, s + r, by go_num, by omega, by go_num, by omega, Y⟩, by simp [intOf]; omega⟩
    · obtain rfl : i = m := by omega
      have es : s = S := by rw [hS.out, List.take_of_length_le (by rw [HM.out]; omega), ES.out]
      obtain ⟨q, eq⟩ : ∃ q, 2 * n * S = q := ⟨_, rfl⟩
      rw [eq] at F
      have hq : q ≤ 2048 * 70 := eq ▸ Nat.mul_le_mul (by omega) (by omega)
      have E : Hid (2 * (n : Int) * (S : Int) = (q : Int)) := Lib.hid (by rw [← eq]; push_cast; rfl)
      subst es
      clear eq hS
      go_wp2_with fail
      go_ret
      exact ⟨ret_int (by rw [E.out, F.out]; unfold wrap64; omega), HB2.out⟩
end Go.Proofs.YtbokindcnkknmaaGreat
