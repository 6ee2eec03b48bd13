/- What is wrong with a length; the factors; coprime parts; pads. -/
import Derived.Test.YtbokindcnkknmaaGreatPa
import Derived.Test.YtbokindcnkknmaaGreatRl
set_option linter.unusedVariables false
namespace Go.Proofs.YtbokindcnkknmaaGreat
open Go.RowKit Epi
set_option maxHeartbeats 400000 in
theorem check_nil (n most : Int) (w : World) : Calls Tryz.prog 105 #[.pointer none, .int .i64 n, .int .i64 most] w fun e w' => e = .returned (.int .i64 2) ∧ ∃ k, w' = w.drewN k := by
  go_enter Tryz.func105, Tryz.ntmps105
  go_wp2_with fail
  go_ret
  exact ⟨rfl, 0, rfl⟩
set_option maxHeartbeats 1000000 in
theorem dcheck_any (b p g : Nat) (n most : Int) (w : World) (h : IsFd w b p g) (hm : most ≤ 4096) : Calls Tryz.prog 105 #[.pointer (some ⟨b, 0, none⟩), .int .i64 n, .int .i64 most] w fun e w' => e = .returned (.int .i64 (ckF p n most : Nat)) ∧ ∃ k, w' = w.drewN k := by
  by_cases h1 : n < 1
  · have t1 : decide (n < 1) = true := by rw [decide_eq_true_eq]; exact h1
    have F := Lib.hid (show ckF p n most = 1 by unfold ckF; rw [if_pos h1])
    clear h1 h
    go_enter Tryz.func105, Tryz.ntmps105
    go_wp2_with fail
    go_ret
    exact ⟨ret_int (by rw [F.out]; rfl), 0, rfl⟩
  have t1 : decide (n < 1) = false := by rw [decide_eq_false_iff_not]; exact h1
  by_cases h2 : most < n
  · have t2 : decide (most < n) = true := by rw [decide_eq_true_eq]; exact h2
    have F := Lib.hid (show ckF p n most = 13 by unfold ckF; rw [if_neg h1, if_pos h2])
    clear h1 h h2
    go_enter Tryz.func105, Tryz.ntmps105
    go_wp2_with fail
    go_ret
    exact ⟨ret_int (by rw [F.out]; rfl), 0, rfl⟩
  have t2 : decide (most < n) = false := by rw [decide_eq_false_iff_not]; exact h2
  have C := Lib.hid (divides_any b p g n w h (by omega))
  obtain ⟨B, eB⟩ : ∃ B, dvB p n = B := ⟨_, rfl⟩
  rw [eB] at C
  cases B with
  | true =>
    have F := Lib.hid (show ckF p n most = 0 by
      unfold dvB at eB
      rw [decide_eq_true_eq] at eB
      unfold ckF
      rw [if_neg h1, if_neg h2, if_neg (fun h => h eB.2)])
    clear h1 h h2 eB hm
    go_enter Tryz.func105, Tryz.ntmps105
    go_wp2_with fail
    refine (C.out).mono ?_
    rintro e w1 ⟨rfl, k1, rfl⟩
    go_wp2_with fail
    go_ret
    exact ⟨ret_int (by rw [F.out]; rfl), _, rfl⟩
  | false =>
    have F := Lib.hid (show ckF p n most = 4 by
      unfold dvB at eB
      rw [decide_eq_false_iff_not] at eB
      unfold ckF
      rw [if_neg h1, if_neg h2, if_pos (fun h => eB ⟨by omega, h⟩)])
    clear h1 h h2 eB hm
    go_enter Tryz.func105, Tryz.ntmps105
    go_wp2_with fail
    refine (C.out).mono ?_
    rintro e w1 ⟨rfl, k1, rfl⟩
    go_wp2_with fail
    go_ret
    exact ⟨ret_int (by rw [F.out]; rfl), _, rfl⟩
theorem pcheck_nil (n : Int) (w : World) : Calls Tryz.prog 47 #[.pointer none, .int .i64 n] w fun e w' => e = .returned (.int .i64 2) ∧ ∃ k, w' = w.drewN k := by
  have C := Lib.hid (check_nil n 1024 w)
  go_enter Tryz.func47, Tryz.ntmps47
  go_wp2_with fail
  refine (C.out).mono ?_
  rintro e w1 ⟨rfl, k1, rfl⟩
  go_wp2_with fail
  go_ret
  exact ⟨rfl, _, rfl⟩
theorem pcheck_any (b p g : Nat) (n : Int) (w : World) (h : IsFd w b p g) : Calls Tryz.prog 47 #[.pointer (some ⟨b, 0, none⟩), .int .i64 n] w fun e w' => e = .returned (.int .i64 (ckF p n 1024 : Nat)) ∧ ∃ k, w' = w.drewN k := by
  have C := Lib.hid (dcheck_any b p g n 1024 w h (by omega))
  clear h
  go_enter Tryz.func47, Tryz.ntmps47
  go_wp2_with fail
  refine (C.out).mono ?_
  rintro e w1 ⟨rfl, k1, rfl⟩
  go_wp2_with fail
  go_ret
  exact ⟨rfl, _, rfl⟩
/-- A row of the program's numbers with signs. -/
def is (l : List Nat) : List Value := l.map fun x => .int .i64 (x : Nat)
theorem is_snoc (l : List Nat) (x : Nat) : is (l ++ [x]) = is l ++ [.int .i64 (x : Nat)] := by unfold is; rw [List.map_append]; rfl
theorem infoI : ∃ i, Tryz.prog.info? 3 = some i ∧ i.zero = some (.int .i64 0) ∧ i.size = 1 ∧ i.bytes = 8 := ⟨(Tryz.prog.info? 3).get (by kernel_rfl), (Option.some_get _).symm, by kernel_rfl, by kernel_rfl, by kernel_rfl⟩
/-- What Radices answers. -/
def RadPost (n : Int) (w : World) (e : Ending) (w' : World) : Prop := Below w.heap.size w w' ∧ ((1 ≤ n ∧ n ≤ 1024 ∧ ∃ A m c L, e = .returned (.tuple #[.slice A m c, .bool true]) ∧ radL n.toNat = some L ∧ L.length = m ∧ w'.ownsRow w.heap.size 3 1 (.slice A m c) m (is L)) ∨
  (¬ (1 ≤ n ∧ n ≤ 1024 ∧ (radL n.toNat).isSome = true) ∧ e = .returned (.tuple #[.slice none 0 0, .bool false])))
theorem two_len {l m n r : Nat} (h : 2 ^ l * m ≤ n) (hr : 2 ≤ r) (hd : m % r = 0) : 2 ^ (l + 1) * (m / r) ≤ n := by
  obtain ⟨k, hk⟩ := Nat.dvd_of_mod_eq_zero hd
  rw [hk, Nat.mul_div_cancel_left _ (by omega), Nat.pow_succ, Nat.mul_assoc]
  refine Nat.le_trans (Nat.mul_le_mul_left _ ?_) h
  rw [hk]
  exact Nat.mul_le_mul_right _ hr
theorem two_len_le {l m n : Nat} (h : 2 ^ l * m ≤ n) (hm : 1 ≤ m) (hn : n ≤ 1024) : l ≤ 10 := by
  have h1 : 2 ^ l ≤ 2 ^ l * m := Nat.le_mul_of_pos_right _ hm
  have h2 : 2 ^ l ≤ 2 ^ 10 := by have : (2 : Nat) ^ 10 = 1024 := rfl; omega
  exact (Nat.pow_le_pow_iff_right (show 1 < 2 by omega)).mp h2
/-- Before the i-th of 2, 3, 5, 7 none that was ahead divides any more. -/
def NoLess (n i : Nat) : Prop := (1 ≤ i → n % 2 ≠ 0) ∧ (2 ≤ i → n % 3 ≠ 0) ∧ (3 ≤ i → n % 5 ≠ 0) ∧ (4 ≤ i → n % 7 ≠ 0)
def rad4 (i : Nat) : Nat := [2, 3, 5, 7].getD i 0
theorem noLess_lf {n i : Nat} (h : NoLess n i) (hi : i < 4) (hd : n % rad4 i = 0) : lf n = rad4 i := by
  obtain ⟨a, b, c, d⟩ := h
  have : i = 0 ∨ i = 1 ∨ i = 2 ∨ i = 3 := by omega
  unfold lf
  rcases this with rfl | rfl | rfl | rfl
  · have hd : n % 2 = 0 := hd
    rw [if_pos hd]; rfl
  · have hd : n % 3 = 0 := hd
    rw [if_neg (a (by omega)), if_pos hd]; rfl
  · have hd : n % 5 = 0 := hd
    rw [if_neg (a (by omega)), if_neg (b (by omega)), if_pos hd]; rfl
  · have hd : n % 7 = 0 := hd
    rw [if_neg (a (by omega)), if_neg (b (by omega)), if_neg (c (by omega)), if_pos hd]; rfl
theorem noLess_next {n i : Nat} (h : NoLess n i) (hi : i < 4) (hd : n % rad4 i ≠ 0) : NoLess n (i + 1) := by
  obtain ⟨a, b, c, d⟩ := h
  have : i = 0 ∨ i = 1 ∨ i = 2 ∨ i = 3 := by omega
  rcases this with rfl | rfl | rfl | rfl <;> simp [rad4] at hd <;> exact ⟨fun _ => by omega, fun _ => by omega, fun _ => by omega, fun _ => by omega⟩
theorem noLess_div {n i r : Nat} (h : NoLess n i) (hr : n % r = 0) : NoLess (n / r) i := by
  have key : ∀ d, n % d ≠ 0 → n / r % d ≠ 0 := fun d hd hc => hd (by
    obtain ⟨k, hk⟩ := Nat.dvd_of_mod_eq_zero hr
    obtain ⟨j, hj⟩ := Nat.dvd_of_mod_eq_zero hc
    rcases Nat.eq_zero_or_pos r with h0 | h0
    · subst h0
      rw [Nat.zero_mul] at hk
      subst hk
      simp
    · rw [hk, Nat.mul_div_cancel_left _ h0] at hj
      refine Nat.mod_eq_zero_of_dvd ⟨r * j, ?_⟩
      rw [hk, hj]
      grind)
  exact ⟨fun x => key _ (h.1 x), fun x => key _ (h.2.1 x), fun x => key _ (h.2.2.1 x), fun x => key _ (h.2.2.2 x)⟩
theorem noLess_8 {n : Nat} (h : NoLess n 4) : lf n = 8 := by
  obtain ⟨a, b, c, d⟩ := h
  unfold lf
  rw [if_neg (a (by omega)), if_neg (b (by omega)), if_neg (c (by omega)), if_neg (d (by omega))]
set_option maxHeartbeats 4000000 in
set_option maxRecDepth 100000 in
theorem radices_any (n : Int) (w : World) : Calls Tryz.prog 107 #[.int .i64 n] w (RadPost n w) := by
  by_cases h0 : 1 ≤ n ∧ n ≤ 1024
  case neg =>
    have Z : Hid (RadPost n w (.returned (.tuple #[.slice none 0 0, .bool false])) w) := Lib.hid ⟨Below.refl _ _, .inr ⟨fun h => h0 ⟨h.1, h.2.1⟩, rfl⟩⟩
    by_cases h1 : n < 1
    · have t1 : decide (n < 1) = true := by rw [decide_eq_true_eq]; exact h1
      clear h0 h1
      go_enter Tryz.func107, Tryz.ntmps107
      go_wp2_with fail
      go_ret2
      exact Z.out
    · have t1 : decide (n < 1) = false := by rw [decide_eq_false_iff_not]; exact h1
      have t2 : decide (1024 < n) = true := by rw [decide_eq_true_eq]; omega
      clear h0 h1
      go_enter Tryz.func107, Tryz.ntmps107
      go_wp2_with fail
      go_ret2
      exact Z.out
  obtain ⟨n, rfl⟩ := Int.eq_ofNat_of_zero_le (show 0 ≤ n by omega)
  have t1 : decide ((n : Int) < 1) = false := by rw [decide_eq_false_iff_not]; omega
  have t2 : decide ((1024 : Int) < n) = false := by rw [decide_eq_false_iff_not]; omega
  have HN := Lib.hid (show 1 ≤ n ∧ n ≤ 1024 by omega)
  have hn1 : n ≤ 1024 := by omega
  obtain ⟨i0, hi0, hz0, hz1, hz2⟩ := infoI
  have HI := Lib.hid (And.intro hi0 (And.intro hz0 (And.intro hz1 hz2)))
  have x0 : ∀ W, (Instr.index 217 (.agg #[.int .i64 2, .int .i64 3, .int .i64 5, .int .i64 7]) (.int .i64 0)).run Tryz.prog W = .ok (.int .i64 2) W := fun _ => by kernel_rfl
  have x1 : ∀ W, (Instr.index 217 (.agg #[.int .i64 2, .int .i64 3, .int .i64 5, .int .i64 7]) (.int .i64 1)).run Tryz.prog W = .ok (.int .i64 3) W := fun _ => by kernel_rfl
  have x2 : ∀ W, (Instr.index 217 (.agg #[.int .i64 2, .int .i64 3, .int .i64 5, .int .i64 7]) (.int .i64 2)).run Tryz.prog W = .ok (.int .i64 5) W := fun _ => by kernel_rfl
  have x3 : ∀ W, (Instr.index 217 (.agg #[.int .i64 2, .int .i64 3, .int .i64 5, .int .i64 7]) (.int .i64 3)).run Tryz.prog W = .ok (.int .i64 7) W := fun _ => by kernel_rfl
  clear h0 hi0 hz0 hz1 hz2
  go_enter Tryz.func107, Tryz.ntmps107
  go_wp2_with fail
  go_loopw [14, 0, 4] (fun s14 s0 s4 wr => ∃ (i m : Nat) (v4 : Value) (out : List Nat), s14 = .int .i64 i ∧ s0 = .int .i64 m ∧ v4 = s4 ∧ i ≤ 4 ∧ Below w.heap.size w wr ∧ wr.ownsRow w.heap.size 3 1 v4 out.length (is out) ∧ Hid (RadTo n out m ∧ NoLess m i ∧ 2 ^ out.length * m ≤ n)) (fun s14 _ _ _ => 4 - (intOf s14).toNat)
  case atStart => exact ⟨0, n, _, [], rfl, rfl, rfl, by omega, Below.refl _ _, World.ownsRow_nil _ _ _ _, Lib.hid ⟨RadTo.zero HN.out.1 (by omega), ⟨fun h => by omega, fun h => by omega, fun h => by omega, fun h => by omega⟩, by simp⟩⟩
  case round =>
    obtain ⟨i, m, v4, out, rfl, rfl, rfl, hi, hB, hO, hX⟩ := hrel
    by_cases hlt : i < 4
    · have hc : i = 0 ∨ i = 1 ∨ i = 2 ∨ i = 3 := by omega
      obtain ⟨wq, rfl⟩ : ∃ wq : World, wq = wr := ⟨_, rfl⟩
      have hml := hX.out.1.2.2
      obtain ⟨r, er, hr2, hr7⟩ : ∃ r, rad4 i = r ∧ 2 ≤ r ∧ r ≤ 7 := by
        rcases hc with rfl | rfl | rfl | rfl
        · exact ⟨2, rfl, by omega, by omega⟩
        · exact ⟨3, rfl, by omega, by omega⟩
        · exact ⟨5, rfl, by omega, by omega⟩
        · exact ⟨7, rfl, by omega, by omega⟩
      have xi : ∀ W, (Instr.index 217 (.agg #[.int .i64 2, .int .i64 3, .int .i64 5, .int .i64 7]) (.int .i64 i)).run Tryz.prog W = .ok (.int .i64 r) W := fun W => by
        subst er
        rcases hc with rfl | rfl | rfl | rfl
        · exact x0 W
        · exact x1 W
        · exact x2 W
        · exact x3 W
      have ER := Lib.hid er
      have hi3 : i < 4 := hlt
      have t4 : decide ((i : Int) < 4) = true := by rw [decide_eq_true_eq]; omega
      have k4 : ((r : Int) == 0) = false := by rw [beq_eq_false_iff_ne]; omega
      have k5 : ¬ r = 0 := by omega
      clear hc er x0 x1 x2 x3
      go_wp2_with fail
      go_loopw [0, 4] (fun s0 s4 wi => ∃ (m : Nat) (v4 : Value) (out : List Nat), s0 = .int .i64 m ∧ v4 = s4 ∧ Below w.heap.size w wi ∧ wi.ownsRow w.heap.size 3 1 v4 out.length (is out) ∧ Hid (RadTo n out m ∧ NoLess m i ∧ 2 ^ out.length * m ≤ n)) (fun s0 _ _ => (intOf s0).toNat)
      case atStart => exact ⟨m, _, out, rfl, rfl, hB, hO, hX⟩
      case round =>
        obtain ⟨m, v4, out, rfl, rfl, hB, hO, hX⟩ := hrel
        have hml := hX.out.1.2.2
        have hm1 := hX.out.1.2.1
        obtain ⟨d, ed⟩ : ∃ d, m % r = d := ⟨_, rfl⟩
        have k1 : (m : Int) % r = (d : Int) := by rw [← ed]; exact (Int.natCast_emod _ _).symm
        have k1' : (m : Int).tmod r = (d : Int) := by rw [Int.tmod_eq_emod_of_nonneg (Int.natCast_nonneg _)]; exact k1
        by_cases hd : d = 0
        · have t3 : ((d : Int) == 0) = true := by rw [beq_iff_eq]; omega
          have hd0 : m % r = 0 := ed.trans hd
          have hlen := two_len_le hX.out.2.2 hm1 HN.out.2
          obtain ⟨q, eq⟩ : ∃ q, m / r = q := ⟨_, rfl⟩
          have k2 : (m : Int) / r = (q : Int) := by rw [← eq]; exact (Int.natCast_ediv _ _).symm
          have k2' : (m : Int).tdiv r = (q : Int) := by rw [Int.tdiv_eq_ediv_of_nonneg (Int.natCast_nonneg _)]; exact k2
          have hql : q < m := eq ▸ Nat.div_lt_self (by omega) hr2
          have hlf : lf m = r := by rw [← ER.out]; exact noLess_lf hX.out.2.1 hi3 (by rw [ER.out]; exact hd0)
          have hm2 : m ≠ 1 := fun e => by
            subst e
            rw [Nat.mod_eq_of_lt (by omega)] at hd0
            omega
          have Y : Hid (RadTo n (out ++ [r]) q ∧ NoLess q i ∧ 2 ^ (out ++ [r]).length * q ≤ n) := Lib.hid (by
            rw [← eq]
            exact ⟨hX.out.1.step hlf (by omega) hm2, noLess_div hX.out.2.1 hd0, by rw [List.length_append]; exact two_len hX.out.2.2 hr2 hd0⟩)
          obtain ⟨hi0, hz0, hz1, hz2⟩ := HI.out
          have hsr := hB.size
          clear ed eq hd hd0 hlf hm2 xi
          go_wp2_with (at_builtin; refine wpList_append_own _ rfl _ _ 56 rfl w.heap.size 3 i0 (.int .i64 0) 1 8 Tryz.underlying56 hi0 hz0 hz1 hz2 rfl (by decide) _ _ _ rfl (hO.alloc _) _ 1 1 [.int .i64 r] rfl ?qc1 ?qc2 ?qc3 ?qc4 ?qc5 ?qc6 ?_)
          case qc1 => rfl
          case qc2 => exact cells_at _ _ _ _ (by simp)
          case qc3 =>
            intro u hu
            rcases List.mem_cons.mp hu with rfl | hu
            · rfl
            · cases hu
          case qc4 => unfold maxLen; omega
          case qc5 => omega
          case qc6 => simp; omega
          intro v' wa hown hgrow _
          have HBa := Lib.hid ((hB.alloc hsr _).grown hgrow (by simp; omega) (fun j hj => (hO.lt j hj).1))
          have HOa : Hid (wa.ownsRow w.heap.size 3 1 v' (out ++ [r]).length (is (out ++ [r]))) := Lib.hid (by
            rw [is_snoc, List.length_append]
            exact hown)
          clear hO hown hgrow hi0 hz0 hz1 hz2
          go_wp2_with fail
          exact ⟨⟨q, _, _, rfl, rfl, HBa.out, HOa.out, Y⟩, by simp [intOf]; omega⟩
        · have t3 : ((d : Int) == 0) = false := by rw [beq_eq_false_iff_ne]; omega
          have Y : Hid (RadTo n out m ∧ NoLess m (i + 1) ∧ 2 ^ out.length * m ≤ n) := Lib.hid ⟨hX.out.1, noLess_next hX.out.2.1 hi3 (by rw [ER.out, ed]; exact hd), hX.out.2.2⟩
          clear ed hd xi
          go_wp2_with fail
          exact ⟨⟨i + 1, m, _, out, by go_num, rfl, rfl, by omega, hB, hO, Y⟩, by simp [intOf]; omega⟩
    · obtain rfl : i = 4 := by omega
      have hm1 := hX.out.1.2.1
      have hml := hX.out.1.2.2
      by_cases h1 : 1 < m
      · have t3 : decide ((1 : Int) < m) = true := by rw [decide_eq_true_eq]; omega
        have Z : Hid (RadPost n w (.returned (.tuple #[.slice none 0 0, .bool false])) wr) := Lib.hid ⟨hB, .inr ⟨fun h => by
          have := hX.out.1.fail h1 (noLess_8 hX.out.2.1)
          rw [Int.toNat_natCast, this] at h
          exact absurd h.2.2 (by simp), rfl⟩⟩
        go_wp2_with fail
        go_ret2
        exact Z.out
      · have t3 : decide ((1 : Int) < m) = false := by rw [decide_eq_false_iff_not]; omega
        obtain rfl : m = 1 := by omega
        obtain ⟨A, c, rfl⟩ : ∃ A c, v4 = .slice A out.length c := by
          rcases hO.2 with ⟨rfl, h⟩ | ⟨g, cap, cur, rfl, -⟩
          · exact ⟨none, 0, by rw [h]⟩
          · exact ⟨_, _, rfl⟩
        have Z : Hid (RadPost n w (.returned (.tuple #[.slice A out.length c, .bool true])) wr) := Lib.hid ⟨hB, .inl ⟨by have := HN.out; omega, by omega, A, _, c, out, rfl, by rw [Int.toNat_natCast]; exact hX.out.1.done, rfl, hO⟩⟩
        clear hO
        go_wp2_with fail
        go_ret2
        exact Z.out
end Go.Proofs.YtbokindcnkknmaaGreat
