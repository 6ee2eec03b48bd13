/- slices.Sorted, maps.Keys. -/
import Derived.Test.YtbokindcnkknmaaGreatGa
import Derived.Maps.AppendAt
import Derived.Maps.OwnSet
import Derived.Maps.OwnOps
import Derived.Lib.Walk
import Derived.Lib.SliceRun
import Derived.BigQuiet
import Derived.Test.YtbokindcnkknmaaGreatMo
import Derived.Laws.OwnMore
set_option linter.unusedVariables false
namespace Go.Proofs.YtbokindcnkknmaaGreat
section SSo
open Go.RowKit Epi Go.Maps
set_option maxHeartbeats 400000 in
theorem isnan_any (x : Nat) (w : World) :
    Calls Tryz.prog 250 #[.int .u64 x] w fun e w' => e = .returned (.bool false) ∧ w = w' := by
  go_enter Tryz.func250, Tryz.ntmps250
  go_wp2_with fail
  go_ret
  exact ⟨by simp, rfl⟩
set_option maxHeartbeats 400000 in
theorem less_any (x y : Nat) (w : World) :
    Calls Tryz.prog 239 #[.int .u64 x, .int .u64 y] w fun e w' => e = .returned (.bool (decide (x < y))) ∧ w = w' := by
  have c := Lib.hid (fun x W => isnan_any x W)
  go_enter Tryz.func239, Tryz.ntmps239
  go_wp2_with fail
  refine (c.out _ _).mono ?_
  rintro e w' ⟨rfl, rfl⟩
  go_wp2_with fail
  go_ret
  exact ⟨ret_bool (by simp), rfl⟩
end SSo
section SIn
open Go.RowKit Epi Go.Maps
def us (l : List Nat) : List Value := l.map fun x => .int .u64 (x : Nat)
/-- A row of numbers of the call's own. -/
def RowU (w : World) (g n cap : Nat) (l : List Nat) : Prop := l.length = n ∧ w.ownsRow 0 22 1 (.slice (some ⟨g, 0, none⟩) n cap) n (us l)
theorem RowU.cell {w : World} {g n cap j : Nat} {l : List Nat} (h : RowU w g n cap l) (hj : j < n) : w.cell? ⟨g, j, none⟩ = some (.int .u64 (l.getD j 0 : Nat)) := by
  rw [h.2.cellAt j (by omega)]
  unfold us
  rw [List.getElem?_map, List.getD_eq_getElem?_getD, List.getElem?_eq_getElem (by have := h.1; omega)]
  rfl
theorem us_set (l : List Nat) (j x : Nat) : us (l.set j x) = (us l).set j (.int .u64 (x : Nat)) := by
  unfold us
  rw [List.map_set]
theorem RowU.swap {w : World} {g n cap j k : Nat} {l : List Nat} (h : RowU w g n cap l) : RowU ((w.setCell ⟨g, j, none⟩ (.int .u64 (l.getD k 0 : Nat))).setCell ⟨g, k, none⟩ (.int .u64 (l.getD j 0 : Nat))) g n cap (swp l j k) ∧ w.grownBy ((w.setCell ⟨g, j, none⟩ (.int .u64 (l.getD k 0 : Nat))).setCell ⟨g, k, none⟩ (.int .u64 (l.getD j 0 : Nat))) (some g) := by
  obtain ⟨h1, h2⟩ := h
  obtain ⟨h3, h4⟩ := h2.stored j (.int .u64 (l.getD k 0 : Nat))
  rw [← us_set] at h3
  obtain ⟨h5, h6⟩ := h3.stored k (.int .u64 (l.getD j 0 : Nat))
  rw [← us_set] at h5
  exact ⟨⟨by unfold swp; rw [List.length_set, List.length_set]; exact h1, h5⟩, h4.trans h6⟩
theorem gr_drewN {w w' : World} {r : Option Nat} (h : w.grownBy w' r) (n : Nat) : w.grownBy (w'.drewN n) r := ⟨h.os, h.tape, h.output, h.size, h.block⟩
def InsPost (g n cap : Nat) (l : List Nat) (w : World) (e : Ending) (w' : World) : Prop := e = .returned (.tuple #[]) ∧ w.grownBy w' (some g) ∧ w'.heap.size = w.heap.size ∧ ∃ l', l'.Perm l ∧ RowU w' g n cap l' ∧ SoTo l' n
set_option maxHeartbeats 1000000 in
theorem insort_any (g n cap : Nat) (l : List Nat) (w : World) (h : RowU w g n cap l) (hn : n ≤ 1000) (hn0 : 1 ≤ n) :
    Calls Tryz.prog 233 #[.slice (some ⟨g, 0, none⟩) n cap, .int .i64 0, .int .i64 n] w (InsPost g n cap l w) := by
  have H := Lib.hid h
  have CL := Lib.hid (fun x y W => less_any x y W)
  clear h
  go_enter Tryz.func233, Tryz.ntmps233
  go_wp2_with fail
  go_loopw [6] (fun s6 wr => ∃ i : Nat, s6 = .int .i64 i ∧ 1 ≤ i ∧ i ≤ n ∧ ∃ l', Hid (w.grownBy wr (some g) ∧ wr.heap.size = w.heap.size ∧ l'.Perm l ∧ RowU wr g n cap l' ∧ SoTo l' i)) (fun s6 _ => n - (intOf s6).toNat)
  case atStart => exact ⟨1, rfl, Nat.le_refl _, hn0, l, Lib.hid ⟨World.grownBy.refl _ _, rfl, List.Perm.refl _, H.out, fun a b h1 h2 => absurd h1 (by omega)⟩⟩
  case round =>
    obtain ⟨i, rfl, hi1, hi, l1, hX⟩ := hrel
    by_cases hlt : i < n
    · go_wp2_with fail
      go_loopw [7] (fun s7 wi => ∃ j : Nat, s7 = .int .i64 j ∧ j ≤ i ∧ ∃ l', Hid (w.grownBy wi (some g) ∧ wi.heap.size = w.heap.size ∧ l'.Perm l ∧ RowU wi g n cap l' ∧ SoBut l' i j)) (fun s7 _ => (intOf s7).toNat)
      case atStart => exact ⟨i, rfl, Nat.le_refl _, l1, Lib.hid ⟨hX.out.1, hX.out.2.1, hX.out.2.2.1, hX.out.2.2.2.1, SoBut.start hX.out.2.2.2.2⟩⟩
      case round =>
        obtain ⟨j, rfl, hj, l2, hY⟩ := hrel
        by_cases hj0 : 0 < j
        · obtain ⟨k, ek⟩ : ∃ k, k + 1 = j := ⟨j - 1, by omega⟩
          have u1 : decide (0 < j) = true := by rw [decide_eq_true_eq]; exact hj0
          have v1 : IntKind.i64.wrap ((j : Int) - 1) = (k : Int) := (IntWalk.i64_in _ (by omega)).trans (by omega)
          have c0 := hY.out.2.2.2.1.cell (j := j) (by omega)
          have c1 := hY.out.2.2.2.1.cell (j := k) (by omega)
          have f0 := hY.out.2.2.2.1.2.frozenAt j
          have f1 := hY.out.2.2.2.1.2.frozenAt k
          obtain ⟨x, ex⟩ : ∃ x, l2.getD j 0 = x := ⟨_, rfl⟩
          obtain ⟨y, ey⟩ : ∃ y, l2.getD k 0 = y := ⟨_, rfl⟩
          rw [ex] at c0
          rw [ey] at c1
          have j0 : (0 : Int) ≤ (k : Int) := Int.natCast_nonneg _
          have j1 : (k : Int) < (n : Int) := by omega
          have j2 : k < n := by omega
          have j3 : (0 : Int) ≤ (j : Int) := Int.natCast_nonneg _
          have j4 : (j : Int) < (n : Int) := by omega
          have j5 : j < n := by omega
          by_cases hxy : x < y
          · have u2 : decide (x < y) = true := by rw [decide_eq_true_eq]; exact hxy
            have hsw := hY.out.2.2.2.1.swap (j := j) (k := k)
            have hll := hY.out.2.2.2.1.1
            have hso : SoBut (swp l2 j k) i k := by
              subst ek
              exact SoBut.swap hj (by omega) hY.out.2.2.2.2 (by rw [ex, ey]; exact hxy)
            have hpm : (swp l2 j k).Perm l := (swp_perm (by omega) (by omega) (by omega)).trans hY.out.2.2.1
            rw [ex, ey] at hsw
            have Z : Hid (w.grownBy ((wr.setCell ⟨g, j, none⟩ (.int .u64 (y : Nat))).setCell ⟨g, k, none⟩ (.int .u64 (x : Nat))) (some g) ∧ ((wr.setCell ⟨g, j, none⟩ (.int .u64 (y : Nat))).setCell ⟨g, k, none⟩ (.int .u64 (x : Nat))).heap.size = w.heap.size ∧ (swp l2 j k).Perm l ∧ RowU ((wr.setCell ⟨g, j, none⟩ (.int .u64 (y : Nat))).setCell ⟨g, k, none⟩ (.int .u64 (x : Nat))) g n cap (swp l2 j k) ∧ SoBut (swp l2 j k) i k) := Lib.hid ⟨hY.out.1.trans hsw.2, by simp [World.setCell]; exact hY.out.2.1, hpm, hsw.1, hso⟩
            clear hsw hso hpm ex ey hll hxy
            go_wp2_with fail
            go_quiet ((go_at_call 239; exact Calls.quiet_of (quiet0 (CL.out x y _))))
            go_wp2_with fail
            go_region
            go_wp2_with fail
            refine ⟨⟨k, rfl, by omega, swp l2 j k, Lib.hid ?_⟩, by simp [intOf]; omega⟩
            exact ⟨gr_drewN Z.out.1 _, Z.out.2⟩
          · have u2 : decide (x < y) = false := by rw [decide_eq_false_iff_not]; exact hxy
            have Z : Hid (SoTo l2 (i + 1)) := Lib.hid (SoBut.done hj hY.out.2.2.2.2 fun k' hk' => by
              obtain rfl : k' = k := by omega
              rw [ex, ey]
              omega)
            clear ex ey hxy
            go_wp2_with fail
            go_quiet ((go_at_call 239; exact Calls.quiet_of (quiet0 (CL.out x y _))))
            go_wp2_with fail
            exact ⟨⟨i + 1, by go_num, by omega, by omega, l2, Lib.hid ⟨gr_drewN hY.out.1 _, hY.out.2.1, hY.out.2.2.1, hY.out.2.2.2.1, Z.out⟩⟩, by simp [intOf]; omega⟩
        · have u1 : decide (0 < j) = false := by rw [decide_eq_false_iff_not]; exact hj0
          have Z : Hid (SoTo l2 (i + 1)) := Lib.hid (SoBut.done hj hY.out.2.2.2.2 fun k' hk' => by omega)
          go_wp2_with fail
          go_quiet (fail)
          go_wp2_with fail
          exact ⟨⟨i + 1, by go_num, by omega, by omega, l2, Lib.hid ⟨gr_drewN hY.out.1 _, hY.out.2.1, hY.out.2.2.1, hY.out.2.2.2.1, Z.out⟩⟩, by simp [intOf]; omega⟩
    · obtain rfl : i = n := by omega
      have Z : Hid (InsPost g i cap l w (.returned (.tuple #[])) wr) := Lib.hid ⟨rfl, hX.out.1, hX.out.2.1, l1, hX.out.2.2⟩
      go_wp2_with fail
      refine bodyPost_end (results_none rfl _ _ _) rfl ?_
      exact Z.out
set_option maxHeartbeats 1000000 in
set_option maxRecDepth 100000 in
theorem pdq_any (g n cap : Nat) (lim : Int) (l : List Nat) (w : World) (h : RowU w g n cap l) (hn : n ≤ 12) (hn0 : 1 ≤ n) :
    Calls Tryz.prog 223 #[.slice (some ⟨g, 0, none⟩) n cap, .int .i64 0, .int .i64 n, .int .i64 lim] w (InsPost g n cap l w) := by
  have CI := Lib.hid (insort_any g n cap l w h (by omega) hn0)
  have t1 : decide ((n : Int) ≤ 12) = true := by rw [decide_eq_true_eq]; omega
  clear h
  go_enter Tryz.func223, Tryz.ntmps223
  go_wp2_with fail
  go_loopw [1, 2] (fun s1 s2 wr => s1 = .int .i64 0 ∧ s2 = .int .i64 n ∧ wr = w) (fun _ _ _ => 0)
  case atStart => exact ⟨rfl, rfl, rfl⟩
  case round =>
    obtain ⟨rfl, rfl, rfl⟩ := hrel
    go_wp2_with fail
    refine (CI.out).mono ?_
    intro e w1 hG
    obtain rfl : e = .returned (.tuple #[]) := hG.1
    have Z := Lib.hid hG
    clear hG
    go_wp2_with fail
    refine bodyPost_ret (results_none rfl _ _ _) rfl ?_
    exact Z.out
set_option maxHeartbeats 1000000 in
theorem sort_any (g n cap : Nat) (l : List Nat) (w : World) (h : RowU w g n cap l) (hn : n ≤ 12) (hn0 : 1 ≤ n) :
    Calls Tryz.prog 202 #[.slice (some ⟨g, 0, none⟩) n cap] w (InsPost g n cap l w) := by
  have CI := Lib.hid (fun lim => pdq_any g n cap lim l w h hn hn0)
  have CL := Lib.hid (fun W => Tryz.bits_Len (n : Int) W (Int.natCast_nonneg _) (by omega))
  have v1 : IntKind.u64.wrap (n : Int) = (n : Int) := IntWalk.u64_in _ ⟨by omega, by omega⟩
  clear h
  go_enter Tryz.func202, Tryz.ntmps202
  go_wp2_with fail
  refine (CL.out _).mono ?_
  rintro e w1 ⟨rfl, rfl⟩
  go_wp2_with fail
  refine (CI.out _).mono ?_
  intro e w1 hG
  obtain rfl : e = .returned (.tuple #[]) := hG.1
  have Z := Lib.hid hG
  clear hG
  go_wp2_with fail
  refine bodyPost_end (results_none rfl _ _ _) rfl ?_
  exact Z.out
end SIn
end Go.Proofs.YtbokindcnkknmaaGreat
