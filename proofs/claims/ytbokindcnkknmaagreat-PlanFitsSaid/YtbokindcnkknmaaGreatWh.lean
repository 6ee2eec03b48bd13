/- The rows: whole, full, right, Check, Claim. -/
import Derived.Test.YtbokindcnkknmaaGreatRep
import Derived.Deep.RegionHeld3
import Derived.Laws.ResultCell
import Derived.Lib.SliceRun
import Derived.Lib.Walk
import Derived.Maps.AppendAt
set_option linter.unusedVariables false
namespace Go.Proofs.YtbokindcnkknmaaGreat
open Go.RowKit Epi
theorem ret_bool1 {a b : Bool} (h : a = b) : Value.bool a = Value.bool b := by rw [h]
theorem bad_true {B : Bool} {p : Prop} (h : B = false ↔ p) (hp : ¬ p) : true = B := by
  cases B
  · exact absurd (h.mp rfl) hp
  · rfl
theorem bad_false {B : Bool} {p : Prop} (h : B = false ↔ p) (hp : p) : false = B := (h.mpr hp).symm
theorem bl_drew1 {B : Nat} {w w' : World} (h : Below B w w') : Below B w w'.drew := ⟨h.os, h.tape, h.output, h.size, h.block⟩
theorem bad_not {B c : Bool} {p : Prop} (h : B = false ↔ p) (hp : p ↔ c = true) : (!c) = B := by
  cases B
  · rw [hp.mp (h.mp rfl)]; rfl
  · cases c
    · rfl
    · exact absurd (h.mpr (hp.mpr rfl)) (by decide)
theorem fac_short {ahead : List Ent} {n : Nat} {F : List Pwr} (h : F.length = 0 ∨ 16 < F.length) : ¬ facOK ahead n F := by
  rintro ⟨h1, ⟨h2, -⟩, -⟩
  omega
theorem fac_first {ahead : List Ent} {n : Nat} {F : List Pwr} (h0 : 0 < F.length) (h : F[0].q ≠ 2) : ¬ facOK ahead n F := fun h' => h h'.2.1.2
theorem fac_at {ahead : List Ent} {n k : Nat} {F : List Pwr} (hk : k < F.length) (h : ¬ facAt ahead F k hk) : ¬ facOK ahead n F := fun h' => h (h'.2.2.1 k hk)
theorem fac_over {ahead : List Ent} {n k j : Nat} {F : List Pwr} (hk : k < F.length) (hn : n < 18446744073709551616) (hj : j < F[k].e.toNat) (h : 18446744073709551616 ≤ prodF (F.take k) * F[k].q ^ j * F[k].q) : ¬ facOK ahead n F := by
  intro h'
  have h2 := h'.two_le
  have h3 := prodF_take_le (F := F) (fun x hx => by have := h2 x hx; omega) (k + 1)
  rw [prodF_take_succ hk, h'.2.2.2] at h3
  have h4 : F[k].q ^ (j + 1) ≤ F[k].q ^ F[k].e.toNat := Nat.pow_le_pow_right (by have := h2 F[k] (List.getElem_mem hk); omega) hj
  have h5 : prodF (F.take k) * F[k].q ^ (j + 1) ≤ prodF (F.take k) * F[k].q ^ F[k].e.toNat := Nat.mul_le_mul_left _ h4
  rw [Nat.pow_succ, ← Nat.mul_assoc] at h5
  omega
def FacTo (ahead : List Ent) (F : List Pwr) (k N : Nat) : Prop := (∀ j, (hj : j < F.length) → j < k → facAt ahead F j hj) ∧ prodF (F.take k) = N ∧ N < 18446744073709551616
theorem fac_to0 {ahead : List Ent} {F : List Pwr} : FacTo ahead F 0 1 := ⟨fun j _ h => absurd h (by omega), by rw [List.take_zero]; rfl, by omega⟩
theorem hi_pos {x y : Nat} (h : 0 < hi64 x y) : 18446744073709551616 ≤ x * y := by
  unfold hi64 at h
  rw [← W64_num]
  exact Nat.le_of_not_lt fun h' => by rw [Nat.div_eq_of_lt h'] at h; exact absurd h (Nat.lt_irrefl _)
theorem lo_of {x y : Nat} (h : ¬ 0 < hi64 x y) : lo64 x y = x * y ∧ x * y < 18446744073709551616 := by
  unfold hi64 at h
  have h1 : x * y < W64 := (Nat.div_eq_zero_iff_lt W64_pos).mp (Nat.eq_zero_of_not_pos h)
  exact ⟨Nat.mod_eq_of_lt h1, W64_num ▸ h1⟩
theorem fac_m0 {ahead : List Ent} {F : List Pwr} {k N q : Nat} (h : FacTo ahead F k N) : Hid (N = N * q ^ 0 ∧ N < 18446744073709551616) := Lib.hid ⟨by rw [Nat.pow_zero, Nat.mul_one], h.2.2⟩
theorem fac_step {ahead : List Ent} {F : List Pwr} {k N M q e : Nat} (hk : k < F.length) (h : FacTo ahead F k N) (hA : facAt ahead F k hk) (hq : F[k].q = q) (he : F[k].e = (e : Int)) (hM : M = N * q ^ e) (hM' : M < 18446744073709551616) : FacTo ahead F (k + 1) M := by
  refine ⟨fun j hj hjk => ?_, ?_, hM'⟩
  · by_cases hj' : j = k
    · subst hj'
      exact hA
    · exact h.1 j hj (by omega)
  · rw [prodF_take_succ hk, h.2.1, hq, he, Int.toNat_natCast, hM]
theorem fac_end {ahead : List Ent} {F : List Pwr} {k N P : Nat} (hk : F.length = k) (h2 : ∃ h : 0 < F.length, F[0].q = 2) (h16 : F.length ≤ 16) (h : FacTo ahead F k N) : ((N : Int) == ((P - 1 : Nat) : Int)) = bOf (facOK ahead (P - 1) F) := by
  subst hk
  have hp := h.2.1
  rw [List.take_length] at hp
  by_cases hN : N = P - 1
  · rw [bOf_true ⟨h16, h2, fun k hk => h.1 k hk hk, hp.trans hN⟩, beq_iff_eq, hN]
  · rw [bOf_false fun h' => hN (hp.symm.trans h'.2.2.2), beq_eq_false_iff_ne]
    omega
set_option maxHeartbeats 1000000 in
set_option maxRecDepth 100000 in
theorem whole_any (L : List Ent) (v f : Value) (P G : Nat) (F : List Pwr) (w : World) (h : RdEnt w v L) (hf : RdPw w f F) (hP : 1 ≤ P) (hP' : P < 18446744073709551616) :
    Calls Tryz.prog 206 #[v, .agg #[.int .u64 P, .int .u64 G, f]] w fun e w' => e = .returned (.bool (bOf (facOK L (P - 1) F))) ∧ Below w.heap.size w w' := by
  obtain ⟨hlen, hok, A, c, rfl, hc, hcell⟩ := hf
  by_cases h0 : F.length = 0 ∨ 16 < F.length
  · have X := Lib.hid (bOf_false (fac_short (ahead := L) (n := P - 1) h0))
    have hL : F.length ≤ 140737488355328 := hlen
    obtain ⟨n, en⟩ : ∃ n, F.length = n := ⟨_, rfl⟩
    rw [en] at h0 hL ⊢
    by_cases h1 : n = 0
    · subst h1
      clear hP hP' hok hcell hc en h0 h hlen hL
      go_enter Tryz.func206, Tryz.ntmps206
      go_wp2_with fail
      go_ret
      exact ⟨ret_bool X.out.symm, (Below.refl _ _).alloc (Nat.le_refl _) _⟩
    · have t0 : ((n : Int) == 0) = false := by rw [beq_eq_false_iff_ne]; omega
      have t1 : decide ((16 : Int) < n) = true := by rw [decide_eq_true_eq]; omega
      clear hP hP' hok hcell hc en h0 h hlen h1
      go_enter Tryz.func206, Tryz.ntmps206
      go_wp2_with fail
      go_ret
      exact ⟨ret_bool X.out.symm, (Below.refl _ _).alloc (Nat.le_refl _) _⟩
  · have hl : 0 < F.length := by omega
    obtain ⟨b, o, rfl, hcl⟩ := hcell hl
    obtain ⟨n, en⟩ : ∃ n, F.length = n := ⟨_, rfl⟩
    rw [en]
    obtain ⟨k0, k1⟩ := hcl 0 hl
    obtain ⟨q0, eq0⟩ : ∃ q, F[0].q = q := ⟨_, rfl⟩
    rw [Nat.zero_mul, Nat.add_zero, eq0] at k0
    have t0 : ((n : Int) == 0) = false := by rw [beq_eq_false_iff_ne]; omega
    have t1 : decide ((16 : Int) < n) = false := by rw [decide_eq_false_iff_not]; omega
    by_cases h2 : q0 = 2
    · have t2 : ((q0 : Int) != 2) = false := by rw [bne_eq_false_iff_eq]; omega
      have hn : n ≤ 16 := by omega
      have hn0 : 0 < n := by omega
      have lb := cell_lt k0
      have HC := Lib.hid hcl
      have EN := Lib.hid en
      have H0 : Hid (∃ h : 0 < F.length, F[0].q = 2) := Lib.hid ⟨hl, eq0.trans h2⟩
      have hok' := hok
      clear k1 h0 hcell hcl en hok eq0 h2 hlen
      have HP1 := Lib.hid hP
      have HP2 := Lib.hid hP'
      clear hP hP'
      go_enter Tryz.func206, Tryz.ntmps206
      go_wp2_with fail
      clear k0 t0 t1 t2
      go_loopw [5, 31] (fun s5 s31 wr => ∃ k N : Nat, s5 = .int .u64 N ∧ s31 = .int .i64 k ∧ k ≤ n ∧ Below w.heap.size w wr ∧ wr.cell? ⟨w.heap.size, 0, none⟩ = some (.int .u64 P) ∧ wr.cell? ⟨w.heap.size, 2, none⟩ = some (.slice (some ⟨b, o, none⟩) n c) ∧ w.heap.size < wr.heap.size ∧ Hid (FacTo L F k N)) (fun _ s31 _ => n - (intOf s31).toNat)
      case atStart => exact ⟨0, 1, rfl, rfl, Nat.zero_le _, (Below.refl _ _).alloc (Nat.le_refl _) _, World.cell?_alloc_at _ _ _ _ rfl, World.cell?_alloc_at _ _ _ _ rfl, by simp, Lib.hid fac_to0⟩
      case round =>
        obtain ⟨k, N, rfl, rfl, hk, hB, cP, cF, hs, hT⟩ := hrel
        by_cases hlt : k < n
        · have hj : k < F.length := by rw [EN.out]; exact hlt
          obtain ⟨x0, x1⟩ := HC.out k hj
          obtain ⟨q, eq⟩ : ∃ q, F[k].q = q := ⟨_, rfl⟩
          obtain ⟨E, eE⟩ : ∃ E, F[k].e = E := ⟨_, rfl⟩
          rw [eq] at x0
          rw [eE] at x1
          have c0 := (hB.cell (p := ⟨b, o + k * 2, none⟩) lb).trans x0
          have c1 := (hB.cell (p := ⟨b, o + k * 2 + 1, none⟩) lb).trans x1
          by_cases hE : E < 1 ∨ 62 < E
          · have X := Lib.hid (bOf_false (fac_at (ahead := L) (n := P - 1) hj (fun e => by have := e.1; have := e.2.1; omega)))
            clear x0 x1 eq eE hj
            by_cases hE1 : E < 1
            · have u1 : decide (E < 1) = true := by rw [decide_eq_true_eq]; exact hE1
              clear hE hE1
              go_wp2_with fail
              go_ret
              exact ⟨ret_bool X.out.symm, hB.alloc hB.size _⟩
            · have u1 : decide (E < 1) = false := by rw [decide_eq_false_iff_not]; exact hE1
              have u2 : decide (62 < E) = true := by rw [decide_eq_true_eq]; omega
              clear hE hE1
              go_wp2_with fail
              go_ret
              exact ⟨ret_bool X.out.symm, hB.alloc hB.size _⟩
          have hE1 : 1 ≤ E := by omega
          have hE2 : E ≤ 62 := by omega
          have u1 : decide (E < 1) = false := by rw [decide_eq_false_iff_not]; omega
          have u2 : decide (62 < E) = false := by rw [decide_eq_false_iff_not]; omega
          clear hE
          obtain ⟨B, hBad⟩ : ∃ B : Bool, (B = false ↔ ∀ j, (hj' : j < F.length) → j + 1 = k → F[j].q < F[k].q ∧ hasP L F[k].q = true) := ⟨bOf (¬ ∀ j, (hj' : j < F.length) → j + 1 = k → F[j].q < F[k].q ∧ hasP L F[k].q = true), by
            rw [Bool.eq_false_iff, ne_eq, bOf_iff, Classical.not_not]⟩
          have HBad := Lib.hid hBad
          clear hBad
          go_upto_region 9 with fail
          obtain ⟨wz, hwz⟩ : ∃ wz, wr.alloc (.cells #[.int .u64 q, .int .i64 E] 168) = wz := ⟨_, rfl⟩
          rw [hwz]
          have hBz : Below wr.heap.size wr wz := by rw [← hwz]; exact (Below.refl _ _).alloc (Nat.le_refl _) _
          have z0 : wz.cell? ⟨wr.heap.size, 0, none⟩ = some (.int .u64 q) := by rw [← hwz]; exact World.cell?_alloc_at _ _ _ _ rfl
          have z1 : wz.cell? ⟨wr.heap.size, 1, none⟩ = some (.int .i64 E) := by rw [← hwz]; exact World.cell?_alloc_at _ _ _ _ rfl
          have z2 := (hBz.cell (p := ⟨w.heap.size, 0, none⟩) hs).trans cP
          have z3 := (hBz.cell (p := ⟨w.heap.size, 2, none⟩) hs).trans cF
          have hBB := bl_trans hB hBz
          have hB1 : Below wz.heap.size wz wz := Below.refl _ _
          have hsz : wr.heap.size < wz.heap.size := by rw [← hwz]; simp
          clear hwz cP cF c0 c1 hB
          go_cut [64] (fun s64 wc => s64 = .bool B ∧ Below wz.heap.size wz wc)
          case first =>
            by_cases hk0 : 0 < k
            · obtain ⟨k', ek⟩ : ∃ k', k' + 1 = k := ⟨k - 1, by omega⟩
              have u3 : decide (0 < k) = true := by rw [decide_eq_true_eq]; exact hk0
              have u4 : IntKind.i64.wrap ((k : Int) - 1) = (k' : Int) := (IntWalk.i64_in _ (by omega)).trans (by omega)
              obtain ⟨y0, y1⟩ := HC.out k' (by omega)
              obtain ⟨p, ep⟩ : ∃ p, F[k'].q = p := ⟨_, rfl⟩
              rw [ep] at y0
              by_cases hle : q ≤ p
              · have u5 : decide (q ≤ p) = true := by rw [decide_eq_true_eq]; exact hle
                have c2 := (hBB.cell (p := ⟨b, o + k' * 2, none⟩) lb).trans y0
                have BT := Lib.hid (bad_true HBad.out fun h => by have h1 := (h k' (by omega) ek).1; omega)
                have Y := Lib.hid y0
                have i0 : (0 : Int) ≤ (k' : Int) := Int.natCast_nonneg _
                have i1 : (k' : Int) < (n : Int) := by omega
                have i2 : k' < n := by omega
                clear y0 y1 ep ek hle
                go_quiet (fail)
                go_wp2_with fail
                go_meet
                exact ⟨ret_bool1 BT.out, bl_drew (Below.refl _ _) _⟩
              · have u5 : decide (q ≤ p) = false := by rw [decide_eq_false_iff_not]; exact hle
                have rz := h.below hBB
                have cc := Lib.hid (fun (w' : World) (hb : Below wz.heap.size wz w') => claimed_any L v q w' (rz.below hb))
                have HS : Hid (∀ w', Below wz.heap.size wz w' → w'.cell? ⟨wr.heap.size, 0, none⟩ = some (.int .u64 q) ∧ w'.cell? ⟨w.heap.size, 2, none⟩ = some (.slice (some ⟨b, o, none⟩) n c) ∧ w'.cell? ⟨b, o + k' * 2, none⟩ = some (.int .u64 p) ∧ Below wz.heap.size wz w') := Lib.hid fun w' hb => ⟨(hb.cell (p := ⟨wr.heap.size, 0, none⟩) hsz).trans z0, (hb.cell (p := ⟨w.heap.size, 2, none⟩) (show w.heap.size < wz.heap.size by omega)).trans z3, (hb.cell (p := ⟨b, o + k' * 2, none⟩) (by have : b < w.heap.size := lb; show b < _; omega)).trans ((hBB.cell (p := ⟨b, o + k' * 2, none⟩) lb).trans y0), hb⟩
                have c2 := (hBB.cell (p := ⟨b, o + k' * 2, none⟩) lb).trans y0
                have i0 : (0 : Int) ≤ (k' : Int) := Int.natCast_nonneg _
                have i1 : (k' : Int) < (n : Int) := by omega
                have i2 : k' < n := by omega
                have Y := Lib.hid y0
                have BT := Lib.hid (bad_not HBad.out (c := hasP L q) ⟨fun h => by have h1 := (h k' (by omega) ek).2; rw [eq] at h1; exact h1, fun h j hj' e => by
                  obtain rfl : j = k' := by omega
                  rw [ep, eq]
                  exact ⟨by omega, h⟩⟩)
                clear y0 y1 ep ek hle rz h
                go_region_held3 (fun w' => w'.cell? ⟨wr.heap.size, 0, none⟩ = some (.int .u64 q) ∧ w'.cell? ⟨w.heap.size, 2, none⟩ = some (.slice (some ⟨b, o, none⟩) n c) ∧ w'.cell? ⟨b, o + k' * 2, none⟩ = some (.int .u64 p) ∧ Below wz.heap.size wz w') (first | exact ⟨z0, z3, c2, hB1⟩ | exact HS.out _ (bl_drew1 hB1) | exact HS.out _ (bl_trans (bl_drew1 hB1) ‹_›) | exact HS.out _ (bl_drew1 (bl_trans (bl_drew1 hB1) ‹_›))) (first | (go_at_call 224; refine (cc.out _ ?_).mono ?_; (first | exact hB1 | exact bl_drew1 hB1 | exact bl_trans (bl_drew1 hB1) ‹_›); rintro e w' ⟨rfl, hb⟩))
                go_wp2_with fail
                go_meet
                exact ⟨ret_bool1 BT.out, bl_trans (bl_drew1 hB1) ‹_›⟩
            · have u3 : decide (0 < k) = false := by rw [decide_eq_false_iff_not]; exact hk0
              have BT := Lib.hid (bad_false HBad.out fun j hj' e => absurd e (by omega))
              go_quiet (fail)
              go_wp2_with fail
              go_meet
              exact ⟨ret_bool1 BT.out, bl_drew (Below.refl _ _) _⟩
          case rest =>
            obtain ⟨rfl, hBc⟩ := hcut
            cases B with
            | true =>
              have X := Lib.hid (bOf_false (fac_at (ahead := L) (n := P - 1) hj (fun e => absurd (HBad.out.mpr e.2.2) (by decide))))
              have HBc := Lib.hid (bl_trans hBB hBc)
              clear x0 x1 eq eE HBad hj hBc
              go_wp2_with fail
              go_ret
              exact ⟨ret_bool X.out.symm, HBc.out⟩
            | false =>
              have HFA : Hid (facAt L F k hj) := Lib.hid ⟨by rw [eE]; exact hE1, by rw [eE]; exact hE2, HBad.out.mp rfl⟩
              obtain ⟨e', ee⟩ : ∃ e' : Nat, (e' : Int) = E := ⟨E.toNat, by omega⟩
              subst ee
              have d0 := (hBc.cell (p := ⟨wr.heap.size, 0, none⟩) hsz).trans z0
              have d1 := (hBc.cell (p := ⟨wr.heap.size, 1, none⟩) hsz).trans z1
              have d2 := (hBc.cell (p := ⟨w.heap.size, 0, none⟩) (show w.heap.size < wz.heap.size by omega)).trans z2
              have d3 := (hBc.cell (p := ⟨w.heap.size, 2, none⟩) (show w.heap.size < wz.heap.size by omega)).trans z3
              have HBc := bl_trans hBB hBc
              have hs' : w.heap.size < wc.heap.size := by have := hBc.size; omega
              have hq : q < 18446744073709551616 := eq ▸ (hok' _ (List.getElem_mem hj)).1
              have HE := Lib.hid (And.intro eq eE)
              have hM0 := fac_m0 (q := q) hT.out
              have HT := Lib.hid hT
              clear x0 x1 z0 z1 z2 z3 HBad hBc hBB hB1 hsz u1 u2 eq eE hT
              go_wp2_with fail
              go_loopw [5, 67] (fun s5 s67 wi => ∃ j M : Nat, s5 = .int .u64 M ∧ s67 = .int .i64 j ∧ j ≤ e' ∧ wi = wc ∧ Hid (M = N * q ^ j ∧ M < 18446744073709551616)) (fun _ s67 _ => e' - (intOf s67).toNat)
              case atStart => exact ⟨0, N, rfl, rfl, Nat.zero_le _, rfl, hM0⟩
              case round =>
                obtain ⟨j, M, rfl, rfl, hj', rfl, hM⟩ := hrel
                by_cases hlt2 : j < e'
                · have cm := fun W => mul64_any (M : Int) q (Int.natCast_nonneg _) (by have := hM.out.2; omega) (Int.natCast_nonneg _) (by omega) W
                  simp only [Int.toNat_natCast] at cm
                  obtain ⟨H, eH⟩ : ∃ H, hi64 M q = H := ⟨_, rfl⟩
                  obtain ⟨Lo, eLo⟩ : ∃ Lo, lo64 M q = Lo := ⟨_, rfl⟩
                  simp only [eH, eLo] at cm
                  have CM := Lib.hid cm
                  clear cm
                  by_cases hH : 0 < H
                  · have u1 : decide (0 < H) = true := by rw [decide_eq_true_eq]; exact hH
                    have X := Lib.hid (bOf_false (fac_over (ahead := L) (n := P - 1) (j := j) hj (by have := HP2.out; omega) (by rw [HE.out.2, Int.toNat_natCast]; exact hlt2) (by
                      have h1 := hi_pos (x := M) (y := q) (by rw [eH]; exact hH)
                      rw [HT.out.out.2.1, HE.out.1, ← hM.out.1]
                      exact h1)))
                    clear hH eH eLo
                    go_wp2_with fail
                    refine (CM.out _).mono ?_
                    rintro e w' ⟨rfl, rfl⟩
                    go_wp2_with fail
                    go_ret
                    exact ⟨ret_bool X.out.symm, HBc⟩
                  · have u1 : decide (0 < H) = false := by rw [decide_eq_false_iff_not]; exact hH
                    have Y := lo_of (x := M) (y := q) (by rw [eH]; exact hH)
                    rw [eLo] at Y
                    have HY : Hid (Lo = N * q ^ (j + 1) ∧ Lo < 18446744073709551616) := Lib.hid ⟨by rw [Y.1, hM.out.1, Nat.pow_succ, Nat.mul_assoc], Y.1 ▸ Y.2⟩
                    clear hH eH eLo Y
                    go_wp2_with fail
                    refine (CM.out _).mono ?_
                    rintro e w' ⟨rfl, rfl⟩
                    go_wp2_with fail
                    exact ⟨⟨j + 1, Lo, rfl, by go_num, by omega, trivial, HY⟩, by simp [intOf]; omega⟩
                · obtain rfl : j = e' := by omega
                  have FT := Lib.hid (fac_step hj HT.out.out HFA.out HE.out.1 HE.out.2 hM.out.1 hM.out.2)
                  go_wp2_with fail
                  exact ⟨⟨k + 1, M, rfl, by go_num, by omega, HBc, d2, d3, hs', FT⟩, by simp [intOf]; omega⟩
        · obtain rfl : k = n := by omega
          obtain ⟨p', ep'⟩ : ∃ p', p' + 1 = P := ⟨P - 1, by have := HP1.out; omega⟩
          have X := fac_end (P := P) EN.out H0.out (by rw [EN.out]; exact hn) hT.out
          rw [show ((P - 1 : Nat) : Int) = (p' : Int) by omega] at X
          have v1 : IntKind.u64.wrap ((P : Int) - 1) = (p' : Int) := (IntWalk.u64_in _ ⟨by omega, by have := HP2.out; omega⟩).trans (by omega)
          have XX := Lib.hid X
          clear X ep'
          go_wp2_with fail
          go_ret
          exact ⟨ret_bool XX.out, hB⟩
    · have X := Lib.hid (bOf_false (fac_first (ahead := L) (n := P - 1) hl (fun e => h2 (eq0.symm.trans e))))
      have t2 : ((q0 : Int) != 2) = true := by rw [bne_iff_ne]; omega
      have hn : n ≤ 16 := by omega
      have hn0 : 0 < n := by omega
      have lb := cell_lt k0
      clear hP hP' hok hcell hc en h0 h hlen h2 eq0 hcl k1
      go_enter Tryz.func206, Tryz.ntmps206
      go_wp2_with fail
      go_ret
      exact ⟨ret_bool X.out.symm, (Below.refl _ _).alloc (Nat.le_refl _) _⟩
theorem fpow_one_lift {P G e : Nat} (h : okMod P) : lift P (G ^ e) = W64 % P ↔ fpow P G e = 1 := by
  have h1 := h.1
  have h2 := h.2.1
  rw [← lift_one, lift_eq_iff h1 (by omega), Nat.mod_eq_of_lt (show 1 < P by omega)]
  rfl
def PowTo (P G : Nat) (F : List Pwr) (k : Nat) : Prop := ∀ j, (hj : j < F.length) → j < k → fpow P G ((P - 1) / F[j].q) ≠ 1
theorem pow_end {P G k : Nat} {F : List Pwr} (hk : F.length = k) (h1 : fpow P G (P - 1) = 1) (h : PowTo P G F k) : bOf (powOK ⟨P, G, F⟩) = true :=
  bOf_true ⟨h1, fun y hy => by
    obtain ⟨j, hj, rfl⟩ := List.mem_iff_getElem.mp hy
    exact h j hj (hk ▸ hj)⟩
theorem fpow_step {P G k : Nat} {F : List Pwr} (hk : k < F.length) (h : PowTo P G F k) (h' : fpow P G ((P - 1) / F[k].q) ≠ 1) : PowTo P G F (k + 1) := fun j hj hjk => by
  by_cases e : j = k
  · subst e
    exact h'
  · exact h j hj (by omega)
theorem div_cast (a b : Nat) : ((a / b : Nat) : Int) = (a : Int) / (b : Int) := Int.natCast_ediv a b
set_option maxHeartbeats 1000000 in
theorem full_any (f : Value) (P G : Nat) (F : List Pwr) (w : World) (hf : RdPw w f F) (hP : okMod P) (hG : G < 18446744073709551616) (hF : ∀ x ∈ F, 1 ≤ x.q) :
    Calls Tryz.prog 207 #[.agg #[.int .u64 P, .int .u64 G, f]] w fun e w' => e = .returned (.bool (bOf (powOK ⟨P, G, F⟩))) ∧ Below w.heap.size w w' := by
  obtain ⟨hlen, hok, A, c, rfl, hc, hcell⟩ := hf
  obtain ⟨n, en⟩ : ∃ n, F.length = n := ⟨_, rfl⟩
  have hL : F.length ≤ 140737488355328 := hlen
  obtain ⟨o1, o2, o3⟩ := id hP
  obtain ⟨p', ep'⟩ : ∃ p', p' + 1 = P := ⟨P - 1, by omega⟩
  have v1 : IntKind.u64.wrap ((P : Int) - 1) = (p' : Int) := (IntWalk.u64_in _ ⟨by omega, by omega⟩).trans (by omega)
  have HP := Lib.hid hP
  have HCell := Lib.hid hcell
  have HOk := Lib.hid hok
  have HG := Lib.hid hG
  have HF := Lib.hid hF
  have EN := Lib.hid en
  have HB0 : Hid (∀ o : Obj, Below w.heap.size w (w.alloc o)) := Lib.hid fun o => (Below.refl _ _).alloc (Nat.le_refl _) _
  have CN := Lib.hid (fun W => cnew_good P W hP)
  have O3 := Lib.hid o3
  have EP' := Lib.hid ep'
  rw [en] at hL ⊢
  clear hP hlen hcell hok hG hF hc o1 o2 o3 en ep'
  go_enter Tryz.func207, Tryz.ntmps207
  go_wp2_with fail
  refine (CN.out _).mono ?_
  rintro e w1 ⟨g, rfl, hC, hg, hB⟩
  have e0 := (hB.cell (p := ⟨w.heap.size, 0, none⟩) (by simp)).trans (World.cell?_alloc_at _ _ _ _ rfl)
  have e1 := (hB.cell (p := ⟨w.heap.size, 1, none⟩) (by simp)).trans (World.cell?_alloc_at _ _ _ _ rfl)
  have e2 := (hB.cell (p := ⟨w.heap.size, 2, none⟩) (by simp)).trans (World.cell?_alloc_at _ _ _ _ rfl)
  have hs : w.heap.size < w1.heap.size := by have := hB.size; simp at this; omega
  have HB := Lib.hid (bl_trans (HB0.out _) hB)
  have HC := Lib.hid hC
  clear hB hg HB0 hC
  have CI := Lib.hid (fun W (hW : IsCtx W g P) => cin_any g P G W hW (Int.natCast_nonneg _) (by have := HG.out; omega))
  have CP := Lib.hid (fun W (e : Nat) (hW : IsCtx W g P) he => cpow_any g P G e W hW (Int.natCast_nonneg _) he)
  have CO := Lib.hid (fun W (hW : IsCtx W g P) => cone_any g P W hW)
  obtain ⟨gl, egl⟩ : ∃ x, lift P G = x := ⟨_, rfl⟩
  obtain ⟨z, ez⟩ : ∃ x, W64 % P = x := ⟨_, rfl⟩
  obtain ⟨x, ex⟩ : ∃ x, lift P (G ^ p') = x := ⟨_, rfl⟩
  simp only [Int.toNat_natCast, egl] at CI CP
  simp only [ez] at CO
  have X1 : Hid (x = z ↔ fpow P G (P - 1) = 1) := Lib.hid (by rw [← ex, ← ez, ← EP'.out, Nat.add_sub_cancel]; exact fpow_one_lift (EP'.out ▸ HP.out))
  have CP1 := Lib.hid (fun W (hW : IsCtx W g P) => CP.out W p' hW (by have := O3.out; have := EP'.out; omega))
  simp only [ex] at CP1
  have EX := Lib.hid ex
  have EZ := Lib.hid ez
  have EG := Lib.hid egl
  clear ex ez egl
  go_wp2_with fail
  refine (CI.out _ HC.out).mono ?_
  rintro e w' ⟨rfl, n1, rfl⟩
  go_wp2_with fail
  refine (CP1.out _ (HC.out.drewN _)).mono ?_
  rintro e w' ⟨rfl, n2, rfl⟩
  go_wp2_with fail
  refine (CO.out _ (HC.out.drewN _)).mono ?_
  rintro e w' ⟨rfl, n3, rfl⟩
  by_cases hx : x = z
  · have t1 : ((x : Int) != z) = false := by rw [bne_eq_false_iff_eq]; omega
    have X := Lib.hid (X1.out.mp hx)
    clear hx
    go_wp2_with fail
    clear t1
    go_loopw [30] (fun s30 wr => ∃ k : Nat, s30 = .int .i64 k ∧ k ≤ n ∧ Below w.heap.size w wr ∧ IsCtx wr g P ∧ wr.cell? ⟨w.heap.size, 0, none⟩ = some (.int .u64 P) ∧ w.heap.size < wr.heap.size ∧ Hid (PowTo P G F k)) (fun s30 _ => n - (intOf s30).toNat)
    case atStart => exact ⟨0, rfl, Nat.zero_le _, bl_drew HB.out _, HC.out.drewN _, e0, hs, Lib.hid fun j _ h => absurd h (by omega)⟩
    case round =>
      obtain ⟨k, rfl, hk, hBr, hCr, cP, hsr, hT⟩ := hrel
      clear e0 e1 e2 hs
      by_cases hlt : k < n
      · have hj : k < F.length := by rw [EN.out]; exact hlt
        obtain ⟨b, o, rfl, hcl⟩ := HCell.out (by omega)
        obtain ⟨x0, x1⟩ := hcl k hj
        have hq1 := HF.out _ (List.getElem_mem hj)
        have hq2 := (HOk.out _ (List.getElem_mem hj)).1
        obtain ⟨q, eq⟩ : ∃ q, F[k].q = q := ⟨_, rfl⟩
        obtain ⟨E, eE⟩ : ∃ E, F[k].e = E := ⟨_, rfl⟩
        rw [eq] at x0 hq1 hq2
        rw [eE] at x1
        have lb := cell_lt x0
        have c0 := (hBr.cell (p := ⟨b, o + k * 2, none⟩) lb).trans x0
        have c1 := (hBr.cell (p := ⟨b, o + k * 2 + 1, none⟩) lb).trans x1
        obtain ⟨d, ed⟩ : ∃ d, p' / q = d := ⟨_, rfl⟩
        have k1 : (p' : Int) / q = (d : Int) := by rw [← ed]; exact (Int.natCast_ediv _ _).symm
        have hd : d < 18446744073709551616 := by
          have h1 : d ≤ p' := ed ▸ Nat.div_le_self _ _
          have := O3.out; have := EP'.out; omega
        have v2 : IntKind.u64.wrap (d : Int) = (d : Int) := IntWalk.u64_in _ ⟨by omega, by omega⟩
        have hq0 : ((q : Int) == 0) = false := by rw [beq_eq_false_iff_ne]; omega
        obtain ⟨y, ey⟩ : ∃ x, lift P (G ^ d) = x := ⟨_, rfl⟩
        have CP2 := Lib.hid (fun W (hW : IsCtx W g P) => CP.out W d hW (by omega))
        simp only [ey] at CP2
        have Y1 : Hid (y = z ↔ fpow P G ((P - 1) / F[k].q) = 1) := Lib.hid (by rw [← ey, ← EZ.out, ← EP'.out, Nat.add_sub_cancel, eq, ed]; exact fpow_one_lift (EP'.out ▸ HP.out))
        have HBB := fun o => Lib.hid (hBr.alloc hBr.size o)
        have HCC := fun o => Lib.hid (hCr.below ((Below.refl _ _).alloc (Nat.le_refl _) o))
        have PC := fun (ob : Obj) => (((Below.refl wr.heap.size wr).alloc (Nat.le_refl _) ob).cell (p := ⟨w.heap.size, 0, none⟩) hsr).trans cP
        have HBr := Lib.hid hBr
        clear x0 x1 ey ed eE hBr hCr hq2 hd
        go_wp2_with fail
        refine (CP2.out _ (HCC _).out).mono ?_
        rintro e w' ⟨rfl, n1, rfl⟩
        go_wp2_with fail
        refine (CO.out _ ((HCC _).out.drewN _)).mono ?_
        rintro e w' ⟨rfl, n2, rfl⟩
        by_cases hy : y = z
        · have t2 : ((y : Int) == z) = true := by rw [beq_iff_eq]; omega
          have Z := Lib.hid (bOf_false (p := powOK ⟨P, G, F⟩) fun h => h.2 _ (List.getElem_mem hj) (Y1.out.mp hy))
          clear hy Y1 eq hj
          go_wp2_with fail
          go_ret
          exact ⟨ret_bool Z.out.symm, bl_drew (HBB _).out _⟩
        · have t2 : ((y : Int) == z) = false := by rw [beq_eq_false_iff_ne]; omega
          have Z := Lib.hid (fpow_step hj hT.out fun h => hy (Y1.out.mpr h))
          clear hy Y1 eq hj
          go_wp2_with fail
          exact ⟨⟨k + 1, by go_num, by omega, bl_drew (HBB _).out _, (HCC _).out.drewN _, PC _, by simp; omega, Z⟩, by simp [intOf]; omega⟩
      · obtain rfl : k = n := by omega
        have XX := Lib.hid (pow_end EN.out X.out hT.out)
        go_wp2_with fail
        go_ret
        exact ⟨ret_bool XX.out.symm, hBr⟩
  · have t1 : ((x : Int) != z) = true := by rw [bne_iff_ne]; omega
    have X := Lib.hid (bOf_false (p := powOK ⟨P, G, F⟩) fun h => hx (X1.out.mpr h.1))
    clear hx
    go_wp2_with fail
    go_ret
    exact ⟨ret_bool X.out.symm, bl_drew HB.out _⟩
theorem last_at {L : List Ent} {m k : Nat} {p P : Nat} (hm : L.length = m) (hk : k + 1 = m) (hp : (h : k < L.length) → L[k].P = p) : lastLt L P ↔ p < P := by
  unfold lastLt
  rw [List.getLast?_eq_getElem?, hm, ← hk, Nat.add_sub_cancel, List.getElem?_eq_getElem (by omega)]
  constructor
  · intro h
    exact hp (by omega) ▸ h _ rfl
  · rintro h y hy
    obtain rfl := Option.some.inj hy
    rw [hp]
    exact h
theorem last_nil {L : List Ent} {P : Nat} (hm : L.length = 0) : lastLt L P := by
  obtain rfl := List.eq_nil_of_length_eq_zero hm
  intro y hy
  cases hy
set_option maxHeartbeats 1000000 in
set_option maxRecDepth 100000 in
theorem right_any (L : List Ent) (v f : Value) (P G : Nat) (F : List Pwr) (w : World) (hv : RdEnt w v L) (hf : RdPw w f F) (hP : P < 18446744073709551616) (hG : G < 18446744073709551616) :
    Calls Tryz.prog 170 #[v, .agg #[.int .u64 P, .int .u64 G, f]] w fun e w' => e = .returned (.bool (bOf (entOK L ⟨P, G, F⟩))) ∧ Below w.heap.size w w' := by
  have HB0 : Hid (∀ o : Obj, Below w.heap.size w (w.alloc o)) := Lib.hid fun o => (Below.refl _ _).alloc (Nat.le_refl _) _
  have p1 := u64_bit (P : Int) (Int.natCast_nonneg _) (by omega)
  have HV := Lib.hid hv
  have HF := Lib.hid hf
  obtain ⟨A', c', hc'⟩ : ∃ A' c', f = .slice A' F.length c' := by
    obtain ⟨-, -, A', c', h, -⟩ := hf
    exact ⟨A', c', h⟩
  obtain ⟨n, en⟩ : ∃ n, F.length = n := ⟨_, rfl⟩
  rw [en] at hc'
  subst hc'
  obtain ⟨hl, hok, A, c, rfl, hc, hcell⟩ := hv
  unfold Len at hl
  obtain ⟨m, em⟩ : ∃ m, L.length = m := ⟨_, rfl⟩
  have HCell := Lib.hid hcell
  have EM := Lib.hid em
  have EN := Lib.hid en
  rw [em] at hl HV ⊢
  clear hok hcell en hf hc
  by_cases h0 : P % 2 = 1
  case neg =>
    have X := Lib.hid (bOf_false (p := entOK L ⟨P, G, F⟩) (fun h => h0 h.1))
    have t1 : (((P : Int) % 2) == 0) = true := by rw [beq_iff_eq]; omega
    clear em hP hG h0
    go_enter Tryz.func170, Tryz.ntmps170
    go_wp2_with fail
    go_ret
    exact ⟨ret_bool X.out.symm, HB0.out _⟩
  have t1 : (((P : Int) % 2) == 0) = false := by rw [beq_eq_false_iff_ne]; omega
  have k1 := h0
  clear h0
  by_cases h0 : 3 ≤ P
  case neg =>
    have X := Lib.hid (bOf_false (p := entOK L ⟨P, G, F⟩) (fun h => h0 h.2.1))
    have t2 : decide ((P : Int) < 3) = true := by rw [decide_eq_true_eq]; omega
    clear em hP hG h0 k1
    go_enter Tryz.func170, Tryz.ntmps170
    go_wp2_with fail
    go_ret
    exact ⟨ret_bool X.out.symm, HB0.out _⟩
  have t2 : decide ((P : Int) < 3) = false := by rw [decide_eq_false_iff_not]; omega
  have k2 := h0
  clear h0
  by_cases h0 : P < 9223372036854775808
  case neg =>
    have X := Lib.hid (bOf_false (p := entOK L ⟨P, G, F⟩) (fun h => h0 h.2.2.1))
    have t3 : decide ((9223372036854775808 : Int) ≤ P) = true := by rw [decide_eq_true_eq]; omega
    clear em hP hG h0 k1 k2
    go_enter Tryz.func170, Tryz.ntmps170
    go_wp2_with fail
    go_ret
    exact ⟨ret_bool X.out.symm, HB0.out _⟩
  have t3 : decide ((9223372036854775808 : Int) ≤ P) = false := by rw [decide_eq_false_iff_not]; omega
  have k3 := h0
  clear h0
  by_cases h0 : 2 ≤ G
  case neg =>
    have X := Lib.hid (bOf_false (p := entOK L ⟨P, G, F⟩) (fun h => h0 h.2.2.2.1))
    have t4 : decide ((G : Int) < 2) = true := by rw [decide_eq_true_eq]; omega
    clear em hP hG h0 k1 k2 k3
    go_enter Tryz.func170, Tryz.ntmps170
    go_wp2_with fail
    go_ret
    exact ⟨ret_bool X.out.symm, HB0.out _⟩
  have t4 : decide ((G : Int) < 2) = false := by rw [decide_eq_false_iff_not]; omega
  have k4 := h0
  clear h0
  by_cases h0 : G < P
  case neg =>
    have X := Lib.hid (bOf_false (p := entOK L ⟨P, G, F⟩) (fun h => h0 h.2.2.2.2.1))
    have t5 : decide (P ≤ G) = true := by rw [decide_eq_true_eq]; omega
    clear em hP hG h0 k1 k2 k3 k4
    go_enter Tryz.func170, Tryz.ntmps170
    go_wp2_with fail
    go_ret
    exact ⟨ret_bool X.out.symm, HB0.out _⟩
  have t5 : decide (P ≤ G) = false := by rw [decide_eq_false_iff_not]; omega
  have k5 := h0
  clear h0
  have KK := Lib.hid (And.intro k1 (And.intro k2 (And.intro k3 (And.intro k4 k5))))
  clear k1 k2 k3 k4 k5 hP hG
  have CW := Lib.hid (fun (W : World) (hB : Below w.heap.size w W) => whole_any L _ _ P G F W (HV.out.below hB) (HF.out.below hB) (by have := KK.out.2.1; omega) (by have := KK.out.2.2.1; omega))
  have CF := Lib.hid (fun (W : World) (hB : Below w.heap.size w W) (hF : ∀ x ∈ F, 1 ≤ x.q) => full_any _ P G F W (HF.out.below hB) ⟨KK.out.1, KK.out.2.1, KK.out.2.2.1⟩ (by have := KK.out.2.2.1; have := KK.out.2.2.2.2; omega) hF)
  obtain ⟨B, eB⟩ : ∃ B, bOf (facOK L (P - 1) F) = B := ⟨_, rfl⟩
  simp only [eB] at CW
  have EB := Lib.hid eB
  clear eB
  by_cases hm : 0 < m
  · obtain ⟨k, ek⟩ : ∃ k, k + 1 = m := ⟨m - 1, by omega⟩
    have hj : k < L.length := by omega
    obtain ⟨b, o, rfl, hcl⟩ := HCell.out (by omega)
    obtain ⟨-, x0, -⟩ := hcl k hj
    obtain ⟨p, ep⟩ : ∃ p, L[k].P = p := ⟨_, rfl⟩
    rw [ep] at x0
    have lb := cell_lt x0
    have c0 := fun ob => ((HB0.out ob).cell (p := ⟨b, o + k * 3, none⟩) lb).trans x0
    have u3 : decide (0 < m) = true := by rw [decide_eq_true_eq]; exact hm
    have v1 : IntKind.i64.wrap ((m : Int) - 1) = (k : Int) := (IntWalk.i64_in _ (by omega)).trans (by omega)
    have i0 : (0 : Int) ≤ (k : Int) := Int.natCast_nonneg _
    have i1 : (k : Int) < (m : Int) := by omega
    have i2 : k < m := by omega
    have LL := Lib.hid (last_at (P := P) em ek fun _ => ep)
    clear ep ek x0 hcl em hj
    by_cases h0 : P ≤ p
    · have u4 : decide (P ≤ p) = true := by rw [decide_eq_true_eq]; exact h0
      have X := Lib.hid (bOf_false (p := entOK L ⟨P, G, F⟩) (fun h => absurd (LL.out.mp h.2.2.2.2.2.1) (by omega)))
      clear h0 hm
      go_enter Tryz.func170, Tryz.ntmps170
      go_wp2_with fail
      go_quiet (fail)
      go_wp2_with fail
      go_ret
      exact ⟨ret_bool X.out.symm, bl_drew (HB0.out _) _⟩
    · have u4 : decide (P ≤ p) = false := by rw [decide_eq_false_iff_not]; exact h0
      have LT := Lib.hid (LL.out.mpr (by omega))
      clear h0 hm
      go_enter Tryz.func170, Tryz.ntmps170
      go_wp2_with fail
      go_quiet (fail)
      go_wp2_with fail
      have hb0 := bl_drew (HB0.out (.cells #[.int .u64 P, .int .u64 G, .slice A' n c'] 158)) nq
      refine (CW.out _ hb0).mono ?_
      rintro e w2 ⟨rfl, hb⟩
      have HB2 := Lib.hid (bl_trans hb0 hb)
      have e0 := (hb.cell (p := ⟨w.heap.size, 0, none⟩) (by simp)).trans (World.cell?_alloc_at _ _ _ _ rfl)
      have e1 := (hb.cell (p := ⟨w.heap.size, 1, none⟩) (by simp)).trans (World.cell?_alloc_at _ _ _ _ rfl)
      have e2 := (hb.cell (p := ⟨w.heap.size, 2, none⟩) (by simp)).trans (World.cell?_alloc_at _ _ _ _ rfl)
      clear hb0 hb
      cases B with
      | false =>
        have X := Lib.hid (bOf_false (p := entOK L ⟨P, G, F⟩) (fun h => absurd ((bOf_true h.2.2.2.2.2.2.1).symm.trans EB.out) (by decide)))
        go_wp2_with fail
        go_ret
        exact ⟨ret_bool X.out.symm, HB2.out⟩
      | true =>
        have hF : facOK L (P - 1) F := bOf_iff.mp EB.out
        have X := Lib.hid (bOf_congr (show entOK L ⟨P, G, F⟩ ↔ powOK ⟨P, G, F⟩ from ⟨fun h => h.2.2.2.2.2.2.2, fun h => ⟨KK.out.1, KK.out.2.1, KK.out.2.2.1, KK.out.2.2.2.1, KK.out.2.2.2.2, LT.out, hF, h⟩⟩))
        have C := Lib.hid (CF.out _ HB2.out fun x hx => by have := hF.two_le x hx; omega)
        clear hF
        go_wp2_with fail
        refine (C.out).mono ?_
        rintro e w3 ⟨rfl, hb⟩
        go_wp2_with fail
        go_ret
        exact ⟨ret_bool X.out.symm, bl_trans HB2.out hb⟩
  · obtain rfl : m = 0 := by omega
    have LT := Lib.hid (last_nil (P := P) em)
    clear hm em
    go_enter Tryz.func170, Tryz.ntmps170
    go_wp2_with fail
    go_quiet (fail)
    go_wp2_with fail
    have hb0 := bl_drew (HB0.out (.cells #[.int .u64 P, .int .u64 G, .slice A' n c'] 158)) nq
    refine (CW.out _ hb0).mono ?_
    rintro e w2 ⟨rfl, hb⟩
    have HB2 := Lib.hid (bl_trans hb0 hb)
    have e0 := (hb.cell (p := ⟨w.heap.size, 0, none⟩) (by simp)).trans (World.cell?_alloc_at _ _ _ _ rfl)
    have e1 := (hb.cell (p := ⟨w.heap.size, 1, none⟩) (by simp)).trans (World.cell?_alloc_at _ _ _ _ rfl)
    have e2 := (hb.cell (p := ⟨w.heap.size, 2, none⟩) (by simp)).trans (World.cell?_alloc_at _ _ _ _ rfl)
    clear hb0 hb
    cases B with
    | false =>
      have X := Lib.hid (bOf_false (p := entOK L ⟨P, G, F⟩) (fun h => absurd ((bOf_true h.2.2.2.2.2.2.1).symm.trans EB.out) (by decide)))
      go_wp2_with fail
      go_ret
      exact ⟨ret_bool X.out.symm, HB2.out⟩
    | true =>
      have hF : facOK L (P - 1) F := bOf_iff.mp EB.out
      have X := Lib.hid (bOf_congr (show entOK L ⟨P, G, F⟩ ↔ powOK ⟨P, G, F⟩ from ⟨fun h => h.2.2.2.2.2.2.2, fun h => ⟨KK.out.1, KK.out.2.1, KK.out.2.2.1, KK.out.2.2.2.1, KK.out.2.2.2.2, LT.out, hF, h⟩⟩))
      have C := Lib.hid (CF.out _ HB2.out fun x hx => by have := hF.two_le x hx; omega)
      clear hF
      go_wp2_with fail
      refine (C.out).mono ?_
      rintro e w3 ⟨rfl, hb⟩
      go_wp2_with fail
      go_ret
      exact ⟨ret_bool X.out.symm, bl_trans HB2.out hb⟩
open Classical in
noncomputable def ckE (L : List Ent) : Nat := if 32 < L.length then 13 else if rowOK L L.length then 0 else 3
theorem ckE_long {L : List Ent} (h : 32 < L.length) : ckE L = 13 := by unfold ckE; rw [if_pos h]
theorem ckE_bad {L : List Ent} {k : Nat} (h : ¬ 32 < L.length) (hk : k < L.length) (hb : ¬ entOK (L.take k) L[k]) : ckE L = 3 := by
  unfold ckE
  rw [if_neg h, if_neg fun h' => hb (h' k hk hk)]
theorem ckE_good {L : List Ent} (h : ¬ 32 < L.length) (hb : rowOK L L.length) : ckE L = 0 := by
  unfold ckE
  rw [if_neg h, if_pos hb]
theorem ckE_zero {L : List Ent} (h : ckE L = 0) : L.length ≤ 32 ∧ rowOK L L.length := by
  unfold ckE at h
  by_cases h1 : 32 < L.length
  · rw [if_pos h1] at h
    exact absurd h (by decide)
  · rw [if_neg h1] at h
    by_cases h2 : rowOK L L.length
    · exact ⟨by omega, h2⟩
    · rw [if_neg h2] at h
      exact absurd h (by decide)
theorem row_step {L : List Ent} {k : Nat} (h : rowOK L k) (hk : k < L.length) (h' : entOK (L.take k) L[k]) : rowOK L (k + 1) := fun j hj hjk => by
  by_cases e : j = k
  · subst e
    exact h'
  · exact h j hj (by omega)
/-- What Check answers: any index, and which error. -/
def CkPost (L : List Ent) (w : World) (e : Ending) (w' : World) : Prop := ∃ i : Nat, e = .returned (.tuple #[.int .i64 i, .int .i64 (ckE L : Nat)]) ∧ Below w.heap.size w w'
theorem ret_tup {k k' : IntKind} {a c d : Int} (h : c = d) : Ending.returned (.tuple #[.int k a, .int k' c]) = .returned (.tuple #[.int k a, .int k' d]) := by rw [h]
set_option maxHeartbeats 1000000 in
theorem check_any (L : List Ent) (v : Value) (w : World) (hv : RdEnt w v L) :
    Calls Tryz.prog 102 #[v] w (CkPost L w) := by
  have HV := Lib.hid hv
  obtain ⟨hl, hok, A, c, rfl, hc, hcell⟩ := hv
  unfold Len at hl
  obtain ⟨n, en⟩ : ∃ n, L.length = n := ⟨_, rfl⟩
  have HCell := Lib.hid hcell
  have HOk := Lib.hid hok
  have EN := Lib.hid en
  have hc' := Lib.hid hc
  rw [en] at hl HV hc' ⊢
  by_cases h0 : 32 < n
  · have t0 : decide ((32 : Int) < n) = true := by rw [decide_eq_true_eq]; omega
    have X := Lib.hid (ckE_long (by rw [en]; exact h0))
    clear hok hcell hc en h0
    go_enter Tryz.func102, Tryz.ntmps102
    go_wp2_with fail
    go_ret2
    exact ⟨0, ret_tup (by rw [X.out]; rfl), Below.refl _ _⟩
  · have t0 : decide ((32 : Int) < n) = false := by rw [decide_eq_false_iff_not]; omega
    have N0 := Lib.hid h0
    have hn : n ≤ 32 := by omega
    have R0 : Hid (rowOK L 0) := Lib.hid fun j _ h => absurd h (by omega)
    clear hok hcell hc en h0
    go_enter Tryz.func102, Tryz.ntmps102
    go_wp2_with fail
    clear t0
    go_loopw [11] (fun s11 wr => ∃ k : Nat, s11 = .int .i64 k ∧ k ≤ n ∧ Below w.heap.size w wr ∧ Hid (rowOK L k)) (fun s11 _ => n - (intOf s11).toNat)
    case atStart => exact ⟨0, rfl, Nat.zero_le _, Below.refl _ _, R0⟩
    case round =>
      obtain ⟨k, rfl, hk, hBr, hR⟩ := hrel
      by_cases hlt : k < n
      · have hj : k < L.length := by rw [EN.out]; exact hlt
        obtain ⟨b, o, rfl, hcl⟩ := HCell.out (by omega)
        obtain ⟨f, x0, x1, x2, x3⟩ := hcl k hj
        obtain ⟨A', m', c', rfl⟩ := x3.shape
        obtain ⟨P, eP⟩ : ∃ q, L[k].P = q := ⟨_, rfl⟩
        obtain ⟨G, eG⟩ : ∃ E, L[k].G = E := ⟨_, rfl⟩
        obtain ⟨F, eF⟩ : ∃ E, L[k].F = E := ⟨_, rfl⟩
        rw [eP] at x0
        rw [eG] at x1
        rw [eF] at x3
        have ek := HOk.out _ (List.getElem_mem hj)
        have lb := cell_lt x0
        have c0 := (hBr.cell (p := ⟨b, o + k * 3, none⟩) lb).trans x0
        have c1 := (hBr.cell (p := ⟨b, o + k * 3 + 1, none⟩) lb).trans x1
        have c2 := (hBr.cell (p := ⟨b, o + k * 3 + 2, none⟩) lb).trans x2
        have eL : L[k] = ⟨P, G, F⟩ := by rw [← eP, ← eG, ← eF]
        have CR := Lib.hid (fun (W : World) (hB : Below w.heap.size w W) => right_any (L.take k) _ _ P G F W ((HV.out.take (k := k) (Nat.le_of_lt hj)).below hB) (x3.below hB) (eP ▸ ek.1) (eG ▸ ek.2.1))
        obtain ⟨B, eB⟩ : ∃ B, bOf (entOK (L.take k) ⟨P, G, F⟩) = B := ⟨_, rfl⟩
        simp only [eB] at CR
        have EB := Lib.hid eB
        rw [← eL] at eB
        have X : Hid ((B = false → ckE L = 3) ∧ (B = true → rowOK L (k + 1))) := Lib.hid ⟨fun h => ckE_bad (by rw [EN.out]; exact N0.out) hj fun h' => absurd ((bOf_true h').symm.trans eB) (by rw [h]; decide), fun h => row_step hR.out hj (bOf_iff.mp (eB.trans h))⟩
        have ii : (k : Int) ≤ (c : Int) := by have := hc'.out; omega
        have i0 : (0 : Int) ≤ (k : Int) := Int.natCast_nonneg _
        obtain ⟨wz, hwz⟩ : ∃ wz, wr.alloc (.cells #[.int .u64 P, .int .u64 G, .slice A' m' c'] 158) = wz := ⟨_, rfl⟩
        have hz : Below w.heap.size w wz := by rw [← hwz]; exact hBr.alloc hBr.size _
        have HZ := Lib.hid hz
        have hsr := hBr.size
        have hsz : wr.heap.size < wz.heap.size := by rw [← hwz]; simp
        have z0 : wz.cell? ⟨wr.heap.size, 0, none⟩ = some (.int .u64 P) := by rw [← hwz]; exact World.cell?_alloc_at _ _ _ _ rfl
        have z1 : wz.cell? ⟨wr.heap.size, 1, none⟩ = some (.int .u64 G) := by rw [← hwz]; exact World.cell?_alloc_at _ _ _ _ rfl
        have z2 : wz.cell? ⟨wr.heap.size, 2, none⟩ = some (.slice A' m' c') := by rw [← hwz]; exact World.cell?_alloc_at _ _ _ _ rfl
        have HS : Hid (∀ w', Below wz.heap.size wz w' → w'.cell? ⟨wr.heap.size, 0, none⟩ = some (.int .u64 P) ∧ w'.cell? ⟨wr.heap.size, 1, none⟩ = some (.int .u64 G) ∧ w'.cell? ⟨wr.heap.size, 2, none⟩ = some (.slice A' m' c')) := Lib.hid fun w' hb => ⟨(hb.cell (p := ⟨wr.heap.size, 0, none⟩) hsz).trans z0, (hb.cell (p := ⟨wr.heap.size, 1, none⟩) hsz).trans z1, (hb.cell (p := ⟨wr.heap.size, 2, none⟩) hsz).trans z2⟩
        clear x0 x1 x2 x3 eP eG eF eL ek eB hcl hz hj
        go_upto_region 6 with fail
        clear hwz c0 c1 c2
        go_region_held3 (fun w' => w'.cell? ⟨wr.heap.size, 0, none⟩ = some (.int .u64 P) ∧ w'.cell? ⟨wr.heap.size, 1, none⟩ = some (.int .u64 G) ∧ w'.cell? ⟨wr.heap.size, 2, none⟩ = some (.slice A' m' c')) (first | exact ⟨z0, z1, z2⟩ | exact HS.out _ (bl_drew1 (Below.refl _ _)) | exact HS.out _ (bl_trans (bl_drew1 (Below.refl _ _)) ‹_›)) (first | (go_at_call 170; refine (CR.out _ ?_).mono ?_; (first | exact bl_drew1 HZ.out | exact HZ.out); rintro e w' ⟨rfl, hb⟩))
        have HB2 := Lib.hid (bl_trans (bl_drew1 HZ.out) ‹Below wz.drew.heap.size wz.drew _›)
        cases B with
        | false =>
          have Y := Lib.hid (X.out.1 rfl)
          go_wp2_with fail
          go_ret2
          exact ⟨k, ret_tup (by rw [Y.out]; rfl), HB2.out⟩
        | true =>
          have Y := Lib.hid (X.out.2 rfl)
          go_wp2_with fail
          exact ⟨⟨k + 1, by go_num, by omega, HB2.out, Y⟩, by simp [intOf]; omega⟩
      · obtain rfl : k = n := by omega
        have XX := Lib.hid (ckE_good (by rw [EN.out]; exact N0.out) (EN.out.symm ▸ hR.out))
        go_wp2_with fail
        go_ret2
        exact ⟨0, ret_tup (by rw [XX.out]; rfl), hBr⟩
/-- The cells of powers, one behind the other. -/
def pwCells : List Pwr → List Value
  | [] => []
  | x :: F => .int .u64 x.q :: .int .i64 x.e :: pwCells F
theorem pwCells_length (F : List Pwr) : (pwCells F).length = F.length * 2 := by
  induction F with
  | nil => rfl
  | cons x F ih => simp only [pwCells, List.length_cons, ih]; omega
theorem pwCells_append (F G : List Pwr) : pwCells (F ++ G) = pwCells F ++ pwCells G := by
  induction F with
  | nil => rfl
  | cons x F ih => simp only [pwCells, List.cons_append, ih]
theorem pwCells_q : ∀ (F : List Pwr) (i : Nat) (h : i < F.length), (pwCells F)[i * 2]? = some (.int .u64 F[i].q)
  | x :: F, 0, _ => rfl
  | x :: F, i + 1, h => by
    rw [show (i + 1) * 2 = i * 2 + 1 + 1 by omega]
    exact pwCells_q F i (by simpa using h)
theorem pwCells_e : ∀ (F : List Pwr) (i : Nat) (h : i < F.length), (pwCells F)[i * 2 + 1]? = some (.int .i64 F[i].e)
  | x :: F, 0, _ => rfl
  | x :: F, i + 1, h => by
    rw [show (i + 1) * 2 + 1 = i * 2 + 1 + 1 + 1 by omega]
    exact pwCells_e F i (by simpa using h)
theorem pwCells_one (F : List Pwr) : ∀ u ∈ pwCells F, u.oneCell' = true := by
  induction F with
  | nil => intro u hu; cases hu
  | cons x F ih =>
    intro u hu
    simp only [pwCells, List.mem_cons] at hu
    rcases hu with rfl | rfl | hu
    · rfl
    · rfl
    · exact ih u hu
theorem RdPw.of_own {w : World} {base : Nat} {e : TypeId} {v : Value} {F : List Pwr} (h : w.ownsRow base e 2 v F.length (pwCells F)) (hl : F.length ≤ 140737488355328) (hok : ∀ y ∈ F, PwrOk y) : RdPw w v F := by
  refine ⟨hl, hok, ?_⟩
  obtain ⟨-, h2⟩ := id h
  rcases h2 with ⟨rfl, h0⟩ | ⟨g, cap, cur, rfl, -, -, hc, -⟩
  · exact ⟨none, 0, by rw [h0], by omega, fun hn => absurd hn (by omega)⟩
  · refine ⟨_, cap, rfl, hc, fun _ => ⟨g, 0, rfl, fun i hi => ⟨?_, ?_⟩⟩⟩
    · have := h.cells rfl _ _ (pwCells_q F i hi)
      rwa [Addr.add_lit] at this
    · have := h.cells rfl _ _ (pwCells_e F i hi)
      rwa [Addr.add_lit] at this
theorem RdPw.cells {w : World} {b o c n : Nat} {F : List Pwr} (h : RdPw w (.slice (some ⟨b, o, none⟩) n c) F) : ∀ j u, (pwCells F)[j]? = some u → w.cell? ⟨b, o + j, none⟩ = some u := by
  obtain ⟨-, -, A, c', h3, -, h5⟩ := h
  cases h3
  intro j u hj
  have hl : j < F.length * 2 := pwCells_length F ▸ (List.getElem?_eq_some_iff.mp hj).1
  obtain ⟨b', o', e, h6⟩ := h5 (by omega)
  cases e
  obtain ⟨i, hi⟩ : ∃ i, j = i * 2 ∨ j = i * 2 + 1 := ⟨j / 2, by omega⟩
  have hi' : i < F.length := by omega
  obtain ⟨x0, x1⟩ := h6 i hi'
  rcases hi with rfl | rfl
  · have h7 := pwCells_q F i hi'
    rw [hj] at h7
    rw [Option.some.inj h7]
    exact x0
  · have h7 := pwCells_e F i hi'
    rw [hj] at h7
    rw [Option.some.inj h7]
    exact x1
theorem infoPw : ∃ i z, Tryz.prog.info? 168 = some i ∧ i.zero = some z ∧ i.size = 2 ∧ i.bytes = 16 ∧ z.cells.size = 2 := ⟨(Tryz.prog.info? 168).get (by kernel_rfl), .agg #[.int .u64 0, .int .i64 0], (Option.some_get _).symm, by kernel_rfl, by kernel_rfl, by kernel_rfl, by kernel_rfl⟩
set_option maxHeartbeats 1000000 in
set_option maxRecDepth 100000 in
theorem clonePw_any (f : Value) (F : List Pwr) (w : World) (hf : RdPw w f F) (h0 : 0 < F.length) (h1 : F.length ≤ 1000) :
    Calls Tryz.prog 171 #[f] w fun e w' => ∃ v', e = .returned v' ∧ RdPw w' v' F ∧ (∀ g, v'.ownBlock = some g → w.heap.size ≤ g) ∧ Below w.heap.size w w' := by
  obtain ⟨-, hok, A, c, rfl, hc, hcell⟩ := id hf
  obtain ⟨b, o, rfl, -⟩ := hcell h0
  have HC := Lib.hid hf.cells
  have HOk := Lib.hid hok
  obtain ⟨news, en⟩ : ∃ x, pwCells F = x := ⟨_, rfl⟩
  obtain ⟨n, el⟩ : ∃ n, F.length = n := ⟨_, rfl⟩
  have hn := pwCells_length F
  have h9 := pwCells_one F
  rw [en, el] at hn
  rw [en] at h9 HC
  have EN := Lib.hid en
  have EL := Lib.hid el
  have H9 := Lib.hid h9
  rw [el] at h0 h1 ⊢
  clear hcell hok hc hf en h9 el
  obtain ⟨i0, z0, hi, hz0, hz1, hz2, hz3⟩ := infoPw
  have qS : ∀ (w : World) (a : Option Addr) (n c n' c' : Nat), (binOp .eql 156 (.slice a n c) (.slice none n' c')).run Tryz.prog w = .ok (.bool a.isNone) w := fun w a n c n' c' => Lib.run_eql_slice_nil w _ _ a n c n' c' Tryz.underlying156
  go_enter Tryz.func171, Tryz.ntmps171
  go_wp2_with (at_builtin; refine wpList_append_own _ rfl _ _ 156 rfl w.heap.size 168 i0 z0 2 16 Tryz.underlying156 hi hz0 hz1 hz2 hz3 (by decide) _ _ _ rfl (World.ownsRow_made w #[] 0 (Nat.le_refl _) (Nat.zero_le _) (by simp)) ⟨b, o, none⟩ n c news rfl ?qc1 ?qc2 ?qc3 ?qc4 ?qc5 ?qc6 ?_)
  case qc1 => exact hn
  case qc2 =>
    intro j u hj
    rw [Addr.add_lit]
    exact Lib.cell?_alloc_some _ (HC.out j u hj)
  case qc3 => exact H9.out
  case qc4 => rw [Nat.zero_add]; unfold maxLen; omega
  case qc5 => omega
  case qc6 => simp
  intro v' w1 hown hgrow hnil
  have R : RdPw w1 v' F := RdPw.of_own (base := w.heap.size) (e := 168) (by rw [EN.out, EL.out]; simpa using hown) (by rw [EL.out]; omega) HOk.out
  have hB : Below w.heap.size w w1 := ((Below.refl _ w).alloc (Nat.le_refl _) _).grown hgrow (by simp) (by intro k hk; simp [Value.ownBlock] at hk; omega)
  have HO := Lib.hid (fun g hg => (hown.lt g hg).1)
  have RR := Lib.hid R
  have HB := Lib.hid hB
  clear R hB hown hgrow hnil
  go_wp2
  go_ret
  exact ⟨v', rfl, RR.out, HO.out, HB.out⟩
theorem clonePw2 (f : Value) (F : List Pwr) (w : World) (hf : RdPw w f F) (h0 : 0 < F.length) (h1 : F.length ≤ 1000) :
    Calls Tryz.prog 171 #[f] w fun e w' => ∃ A n c, e = .returned (.slice A n c) ∧ RdPw w' (.slice A n c) F ∧ (∀ g, (Value.slice A n c).ownBlock = some g → w.heap.size ≤ g) ∧ Below w.heap.size w w' :=
  (clonePw_any f F w hf h0 h1).mono fun e w' ⟨v', he, hv, ho, hb⟩ => by
    obtain ⟨A, n, c, rfl⟩ := hv.shape
    exact ⟨A, n, c, he, hv, ho, hb⟩
theorem set3_far {w : World} {b b' j : Nat} {x y z : Value} (h : b ≠ b') : (((w.setCell ⟨b, 0, none⟩ x).setCell ⟨b, 1, none⟩ y).setCell ⟨b, 2, none⟩ z).cell? ⟨b', j, none⟩ = w.cell? ⟨b', j, none⟩ := by
  have k : ∀ i, (⟨b, i, none⟩ : Addr) ≠ ⟨b', j, none⟩ := fun i e => h (congrArg Addr.block e)
  rw [World.cell?_setCell_other _ _ _ _ (k 2), World.cell?_setCell_other _ _ _ _ (k 1), World.cell?_setCell_other _ _ _ _ (k 0)]
theorem RdPw.of_cell {w w' : World} {v : Value} {F : List Pwr} (h : RdPw w v F) (hc : ∀ b j, v.ownBlock = some b → w'.cell? ⟨b, j, none⟩ = w.cell? ⟨b, j, none⟩) : RdPw w' v F := by
  obtain ⟨h1, h2, A, c, rfl, h4, h5⟩ := h
  refine ⟨h1, h2, A, c, rfl, h4, fun hn => ?_⟩
  obtain ⟨b, o, rfl, h7⟩ := h5 hn
  exact ⟨b, o, rfl, fun i hi => ⟨(hc b _ rfl).trans (h7 i hi).1, (hc b _ rfl).trans (h7 i hi).2⟩⟩
theorem RdPw.set3 {w : World} {v x y z : Value} {b : Nat} {F : List Pwr} (h : RdPw w v F) (hb : v.ownBlock ≠ some b) : RdPw (((w.setCell ⟨b, 0, none⟩ x).setCell ⟨b, 1, none⟩ y).setCell ⟨b, 2, none⟩ z) v F :=
  h.of_cell fun b' j e => set3_far fun e' => hb (e'.symm ▸ e)
theorem ret_ent {P P' G G' : Nat} {v : Value} (h : P = P') (h' : G = G') : Ending.returned (.tuple #[.agg #[.int .u64 P, .int .u64 G, v], .bool true]) = .returned (.tuple #[.agg #[.int .u64 P', .int .u64 G', v], .bool true]) := by rw [h, h']
/-- What Claim answers. -/
def ClPost (L : List Ent) (p : Nat) (w : World) (e : Ending) (w' : World) : Prop := Below w.heap.size w w' ∧
  ((∃ i, ∃ hi : i < L.length, ∃ f, L[i].P = p ∧ NoP L p i ∧ ckE L = 0 ∧ e = .returned (.tuple #[.agg #[.int .u64 L[i].P, .int .u64 L[i].G, f], .bool true]) ∧ RdPw w' f L[i].F) ∨
   ((ckE L ≠ 0 ∨ NoP L p L.length) ∧ e = .returned (.tuple #[.agg #[.int .u64 0, .int .u64 0, .slice none 0 0], .bool false])))
set_option maxHeartbeats 1000000 in
theorem claim_any (L : List Ent) (v : Value) (p : Nat) (w : World) (hv : RdEnt w v L) (hp : p < 18446744073709551616) :
    Calls Tryz.prog 103 #[v, .int .u64 p] w (ClPost L p w) := by
  have HV := Lib.hid hv
  obtain ⟨hl, hok, A, c, rfl, hc, hcell⟩ := hv
  unfold Len at hl
  obtain ⟨n, en⟩ : ∃ n, L.length = n := ⟨_, rfl⟩
  have HCell := Lib.hid hcell
  have HOk := Lib.hid hok
  have EN := Lib.hid en
  rw [en] at hl HV ⊢
  have CK := Lib.hid (fun (W : World) (hB : Below w.heap.size w W) => check_any L _ W (HV.out.below hB))
  have HB0 : Hid (∀ o : Obj, Below w.heap.size w (w.alloc o)) := Lib.hid fun o => (Below.refl _ _).alloc (Nat.le_refl _) _
  clear hok hcell hc en
  go_enter Tryz.func103, Tryz.ntmps103
  go_wp2_with fail
  refine (CK.out _ (HB0.out _)).mono ?_
  rintro e w1 ⟨i, rfl, hb⟩
  have e0 := (hb.cell (p := ⟨w.heap.size, 0, none⟩) (by simp)).trans (World.cell?_alloc_at _ _ _ _ rfl)
  have e1 := (hb.cell (p := ⟨w.heap.size, 1, none⟩) (by simp)).trans (World.cell?_alloc_at _ _ _ _ rfl)
  have e2 := (hb.cell (p := ⟨w.heap.size, 2, none⟩) (by simp)).trans (World.cell?_alloc_at _ _ _ _ rfl)
  have g0 := fun j => (hb.frozen (p := ⟨w.heap.size, j, none⟩) (by simp)).trans (World.frozen?_alloc_at _ _ _ _ rfl)
  have hs : w.heap.size < w1.heap.size := by have := hb.size; simp at this; omega
  have HB1 := Lib.hid (bl_trans (HB0.out _) hb)
  clear hb
  obtain ⟨E, eE⟩ : ∃ E, ckE L = E := ⟨_, rfl⟩
  rw [eE]
  have EE := Lib.hid eE
  clear eE
  by_cases h0 : E = 0
  · subst h0
    have hW := ckE_zero EE.out
    have N0 : Hid (NoP L p 0) := Lib.hid fun j hj hj' => absurd hj' (by omega)
    have hL := EN.out ▸ hW.1
    have HW := Lib.hid hW.2
    clear hW hl
    go_wp2_with fail
    go_loopw [20] (fun s20 wr => ∃ k : Nat, s20 = .int .i64 k ∧ k ≤ n ∧ Below w.heap.size w wr ∧ w.heap.size < wr.heap.size ∧ Hid (∀ W, Below wr.heap.size wr W → W.cell? ⟨w.heap.size, 0, none⟩ = some (.int .u64 0) ∧ W.cell? ⟨w.heap.size, 1, none⟩ = some (.int .u64 0) ∧ W.cell? ⟨w.heap.size, 2, none⟩ = some (.slice none 0 0) ∧ ∀ j, W.frozen? ⟨w.heap.size, j, none⟩ = false) ∧ Hid (NoP L p k)) (fun s20 _ => n - (intOf s20).toNat)
    case atStart => exact ⟨0, rfl, Nat.zero_le _, HB1.out, hs, Lib.hid fun W hB => ⟨(hB.cell (p := ⟨w.heap.size, 0, none⟩) hs).trans e0, (hB.cell (p := ⟨w.heap.size, 1, none⟩) hs).trans e1, (hB.cell (p := ⟨w.heap.size, 2, none⟩) hs).trans e2, fun j => (hB.frozen (p := ⟨w.heap.size, j, none⟩) hs).trans (g0 j)⟩, N0⟩
    case round =>
      obtain ⟨k, rfl, hk, hBr, hsr, hC, hN⟩ := hrel
      clear e0 e1 e2 g0 hs
      by_cases hlt : k < n
      · have hj : k < L.length := by rw [EN.out]; exact hlt
        obtain ⟨b, o, rfl, hcl⟩ := HCell.out (by omega)
        obtain ⟨f, x0, x1, x2, x3⟩ := hcl k hj
        obtain ⟨A', m', c', rfl⟩ := x3.shape
        obtain ⟨P, eP⟩ : ∃ q, L[k].P = q := ⟨_, rfl⟩
        obtain ⟨G, eG⟩ : ∃ E, L[k].G = E := ⟨_, rfl⟩
        rw [eP] at x0
        rw [eG] at x1
        have lb := cell_lt x0
        have c0 := (hBr.cell (p := ⟨b, o + k * 3, none⟩) lb).trans x0
        have c1 := (hBr.cell (p := ⟨b, o + k * 3 + 1, none⟩) lb).trans x1
        have c2 := (hBr.cell (p := ⟨b, o + k * 3 + 2, none⟩) lb).trans x2
        by_cases hp : P = p
        · have hp' := hp.symm
          subst hp'
          clear hp
          have t1 : ((p : Int) == p) = true := by rw [beq_iff_eq]
          have hfac := (HW.out k hj hj).2.2.2.2.2.2.1
          have hF0 : 0 < L[k].F.length := hfac.2.1.1
          have hF1 : L[k].F.length ≤ 1000 := by have := hfac.1; omega
          have CC := Lib.hid (fun (W : World) (hB : Below w.heap.size w W) => clonePw2 _ L[k].F W (x3.below hB) hF0 hF1)
          obtain ⟨wz, hwz⟩ : ∃ wz, wr.alloc (.cells #[.int .u64 p, .int .u64 G, .slice A' m' c'] 158) = wz := ⟨_, rfl⟩
          have hrz : Below wr.heap.size wr wz := by rw [← hwz]; exact (Below.refl _ _).alloc (Nat.le_refl _) _
          have HZ := Lib.hid (bl_trans hBr hrz)
          have hsz : wr.heap.size < wz.heap.size := by rw [← hwz]; simp
          have z0 : wz.cell? ⟨wr.heap.size, 0, none⟩ = some (.int .u64 p) := by rw [← hwz]; exact World.cell?_alloc_at _ _ _ _ rfl
          have z1 : wz.cell? ⟨wr.heap.size, 1, none⟩ = some (.int .u64 G) := by rw [← hwz]; exact World.cell?_alloc_at _ _ _ _ rfl
          have z2 : wz.cell? ⟨wr.heap.size, 2, none⟩ = some (.slice A' m' c') := by rw [← hwz]; exact World.cell?_alloc_at _ _ _ _ rfl
          have HS : Hid (∀ w', Below wz.heap.size wz w' → w'.cell? ⟨wr.heap.size, 0, none⟩ = some (.int .u64 p) ∧ w'.cell? ⟨wr.heap.size, 1, none⟩ = some (.int .u64 G) ∧ w'.cell? ⟨wr.heap.size, 2, none⟩ = some (.slice A' m' c')) := Lib.hid fun w' hb => ⟨(hb.cell (p := ⟨wr.heap.size, 0, none⟩) hsz).trans z0, (hb.cell (p := ⟨wr.heap.size, 1, none⟩) hsz).trans z1, (hb.cell (p := ⟨wr.heap.size, 2, none⟩) hsz).trans z2⟩
          have HC2 := Lib.hid (fun W hB => hC.out W (bl_trans hrz hB))
          have HNE := Lib.hid (show w.heap.size ≠ wr.heap.size by omega)
          have HK := Lib.hid (And.intro hj (And.intro eP eG))
          clear x0 x1 x2 x3 hcl hfac hF0 hF1 hrz hC
          go_upto_region 8 with fail
          clear hwz c0 c1 c2
          go_region_held3 (fun w' => w'.cell? ⟨wr.heap.size, 0, none⟩ = some (.int .u64 p) ∧ w'.cell? ⟨wr.heap.size, 1, none⟩ = some (.int .u64 G) ∧ w'.cell? ⟨wr.heap.size, 2, none⟩ = some (.slice A' m' c')) (first | exact ⟨z0, z1, z2⟩ | exact HS.out _ (bl_drew1 (Below.refl _ _)) | exact HS.out _ (bl_trans (bl_drew1 (Below.refl _ _)) ‹_›) | (rw [set3_far HNE.out, set3_far HNE.out, set3_far HNE.out]; exact HS.out _ (bl_trans (bl_drew1 (Below.refl _ _)) ‹_›))) (first | (go_at_call 171; refine (CC.out _ ?_).mono ?_; (first | exact bl_drew1 HZ.out | exact HZ.out); rintro e w' ⟨vA, vn, vc, rfl, hv', ho, hb⟩; have hHV := Lib.hid hv'; have hHO := Lib.hid ho; clear hv' ho; obtain ⟨q0, q1, q2, q3⟩ := HC2.out _ (bl_trans (bl_drew1 (Below.refl _ _)) hb)))
          have HF := Lib.hid (RdPw.set3 (x := .int .u64 p) (y := .int .u64 G) (z := .slice vA vn vc) (b := w.heap.size) ‹Hid (RdPw _ _ _)›.out (fun h => absurd (‹Hid (∀ g, (Value.slice vA vn vc).ownBlock = some g → wz.drew.heap.size ≤ g)›.out _ h) (show ¬ wz.heap.size ≤ w.heap.size by omega)))
          have HBl := Lib.hid (bl_trans (bl_drew1 HZ.out) ‹Below wz.drew.heap.size wz.drew _›)
          go_wp2_with fail
          refine bodyPost_ret (v := .tuple #[.agg #[.int .u64 p, .int .u64 G, .slice vA vn vc], .bool true]) ?_ rfl ?_
          · rw [results_cell_tmp rfl]
            simp [go_sem, *]
          · refine ⟨((HBl.out.setCell (Nat.le_refl _) _).setCell (Nat.le_refl _) _).setCell (Nat.le_refl _) _, .inl ⟨k, HK.out.1, .slice vA vn vc, HK.out.2.1, hN.out, EE.out, ?_, HF.out⟩⟩
            exact ret_ent HK.out.2.1.symm HK.out.2.2.symm
        · have t1 : ((P : Int) == p) = false := by rw [beq_eq_false_iff_ne]; omega
          have N : Hid (NoP L p (k + 1)) := Lib.hid fun j hj' hji => by
            by_cases e : j = k
            · subst e
              rw [eP]
              exact hp
            · exact hN.out j hj' (by omega)
          have hal := fun ob => (Below.refl wr.heap.size wr).alloc (Nat.le_refl _) ob
          have HA := Lib.hid hal
          clear x0 x1 x2 x3 hcl eP eG hp hj hal
          go_wp2_with fail
          exact ⟨⟨k + 1, by go_num, by omega, hBr.alloc hBr.size _, by simp; omega, Lib.hid fun W hB => hC.out W (bl_trans (HA.out _) hB), N⟩, by simp [intOf]; omega⟩
      · obtain rfl : k = n := by omega
        have F := Lib.hid (show NoP L p L.length by rw [EN.out]; exact hN.out)
        obtain ⟨q0, q1, q2, q3⟩ := hC.out wr (Below.refl _ _)
        go_wp2_with fail
        refine bodyPost_ret (v := .tuple #[.agg #[.int .u64 0, .int .u64 0, .slice none 0 0], .bool false]) ?_ rfl ?_
        · rw [results_cell_tmp rfl]
          simp [go_sem, q0, q1, q2]
        · exact ⟨((hBr.setCell (Nat.le_refl _) _).setCell (Nat.le_refl _) _).setCell (Nat.le_refl _) _, .inr ⟨.inr F.out, rfl⟩⟩
  · have t1 : ((E : Int) != 0) = true := by rw [bne_iff_ne]; omega
    go_wp2_with fail
    refine bodyPost_ret (v := .tuple #[.agg #[.int .u64 0, .int .u64 0, .slice none 0 0], .bool false]) ?_ rfl ?_
    · rw [results_cell_tmp rfl]
      simp [go_sem, e0, e1, e2]
    · exact ⟨((HB1.out.setCell (Nat.le_refl _) _).setCell (Nat.le_refl _) _).setCell (Nat.le_refl _) _, .inr ⟨.inl fun h => h0 (EE.out.symm.trans h), rfl⟩⟩
/-- What the document's product asks. -/
def prOK (M : Nat) (F : List Pwr) : Prop := (∀ x ∈ F, 1 ≤ x.e ∧ x.e ≤ 62 ∧ 2 ≤ x.q) ∧ prodF F ≤ M
def PrTo (M : Nat) (F : List Pwr) (k N : Nat) : Prop := (∀ j, (hj : j < F.length) → j < k → 1 ≤ F[j].e ∧ F[j].e ≤ 62 ∧ 2 ≤ F[j].q) ∧ prodF (F.take k) = N ∧ N ≤ M
theorem pr_to0 {M : Nat} {F : List Pwr} (h : 1 ≤ M) : PrTo M F 0 1 := ⟨fun j _ h => absurd h (by omega), by rw [List.take_zero]; rfl, h⟩
theorem pr_bad {M k : Nat} {F : List Pwr} (hk : k < F.length) (h : ¬ (1 ≤ F[k].e ∧ F[k].e ≤ 62 ∧ 2 ≤ F[k].q)) : ¬ prOK M F := fun h' => h (h'.1 _ (List.getElem_mem hk))
theorem pr_over {M k j N q n : Nat} {F : List Pwr} (hk : k < F.length) (hT : PrTo M F k N) (hq : F[k].q = q) (hj : j < F[k].e.toNat) (hn : n = N * q ^ j) (h : M / q < n) : ¬ prOK M F := by
  intro h'
  have h2 := h'.1 F[k] (List.getElem_mem hk)
  have h3 := prodF_take_le (F := F) (fun x hx => by have := (h'.1 x hx).2.2; omega) (k + 1)
  rw [prodF_take_succ hk, hT.2.1, hq] at h3
  rw [hq] at h2
  have h4 : q ^ (j + 1) ≤ q ^ F[k].e.toNat := Nat.pow_le_pow_right (by omega) hj
  have h5 : N * q ^ (j + 1) ≤ N * q ^ F[k].e.toNat := Nat.mul_le_mul_left _ h4
  have h6 : M < n * q := (Nat.div_lt_iff_lt_mul (by omega)).mp h
  rw [Nat.pow_succ, ← Nat.mul_assoc, ← hn] at h5
  have := h'.2
  omega
theorem pr_step {M k N n q e : Nat} {F : List Pwr} (hk : k < F.length) (h : PrTo M F k N) (hA : 1 ≤ F[k].e ∧ F[k].e ≤ 62 ∧ 2 ≤ F[k].q) (hq : F[k].q = q) (he : F[k].e = (e : Int)) (hn : n = N * q ^ e) (hM : n ≤ M) : PrTo M F (k + 1) n := by
  refine ⟨fun j hj hjk => ?_, ?_, hM⟩
  · by_cases hj' : j = k
    · subst hj'
      exact hA
    · exact h.1 j hj (by omega)
  · rw [prodF_take_succ hk, h.2.1, hq, he, Int.toNat_natCast, hn]
theorem pr_end {M k N : Nat} {F : List Pwr} (hk : F.length = k) (h : PrTo M F k N) : prOK M F ∧ N = prodF F := by
  subst hk
  have hp := h.2.1
  rw [List.take_length] at hp
  refine ⟨⟨fun x hx => ?_, hp ▸ h.2.2⟩, hp.symm⟩
  obtain ⟨j, hj, rfl⟩ := List.mem_iff_getElem.mp hx
  exact h.1 j hj hj
def PrPost (M : Nat) (F : List Pwr) (w : World) (e : Ending) (w' : World) : Prop := Below w.heap.size w w' ∧
  ((prOK M F ∧ e = .returned (.tuple #[.int .u64 (prodF F : Nat), .bool true])) ∨ (¬ prOK M F ∧ e = .returned (.tuple #[.int .u64 0, .bool false])))
set_option maxHeartbeats 1000000 in
set_option maxRecDepth 100000 in
theorem rprod_any (f : Value) (F : List Pwr) (M : Nat) (w : World) (hf : RdPw w f F) (hM : 1 ≤ M) (hM' : M < 18446744073709551616) :
    Calls Tryz.prog 205 #[f, .int .u64 M] w (PrPost M F w) := by
  obtain ⟨hlen, hok, A, c, rfl, hc, hcell⟩ := hf
  have hL : F.length ≤ 140737488355328 := hlen
  obtain ⟨n, en⟩ : ∃ n, F.length = n := ⟨_, rfl⟩
  have HC := Lib.hid hcell
  have EN := Lib.hid en
  have HOk := Lib.hid hok
  have HM := Lib.hid hM
  have HM' := Lib.hid hM'
  rw [en] at hL ⊢
  clear hlen hok hc hcell en hM hM'
  go_enter Tryz.func205, Tryz.ntmps205
  go_wp2_with fail
  go_loopw [6, 12] (fun s6 s12 wr => ∃ k N : Nat, s6 = .int .u64 N ∧ s12 = .int .i64 k ∧ k ≤ n ∧ Below w.heap.size w wr ∧ Hid (PrTo M F k N)) (fun _ s12 _ => n - (intOf s12).toNat)
  case atStart => exact ⟨0, 1, rfl, rfl, Nat.zero_le _, Below.refl _ _, Lib.hid (pr_to0 HM.out)⟩
  case round =>
    obtain ⟨k, N, rfl, rfl, hk, hB, hT⟩ := hrel
    by_cases hlt : k < n
    · have hj : k < F.length := by rw [EN.out]; exact hlt
      obtain ⟨b, o, rfl, hcl⟩ := HC.out (by omega)
      obtain ⟨x0, x1⟩ := hcl k hj
      have hq0 := (HOk.out _ (List.getElem_mem hj)).1
      obtain ⟨q, eq⟩ : ∃ q, F[k].q = q := ⟨_, rfl⟩
      obtain ⟨E, eE⟩ : ∃ E, F[k].e = E := ⟨_, rfl⟩
      rw [eq] at x0 hq0
      rw [eE] at x1
      have lb := cell_lt x0
      have c0 := (hB.cell (p := ⟨b, o + k * 2, none⟩) lb).trans x0
      have c1 := (hB.cell (p := ⟨b, o + k * 2 + 1, none⟩) lb).trans x1
      have HA : Hid (∀ ob, Below w.heap.size w (wr.alloc ob)) := Lib.hid fun ob => hB.alloc hB.size ob
      clear x0 x1 hcl
      by_cases hA : 1 ≤ E ∧ E ≤ 62 ∧ 2 ≤ q
      · have u1 : decide (E < 1) = false := by rw [decide_eq_false_iff_not]; omega
        have u2 : decide (62 < E) = false := by rw [decide_eq_false_iff_not]; omega
        have u3 : decide ((q : Int) < 2) = false := by rw [decide_eq_false_iff_not]; omega
        obtain ⟨e', ee⟩ : ∃ e' : Nat, (e' : Int) = E := ⟨E.toNat, by omega⟩
        subst ee
        have HFA : Hid (1 ≤ F[k].e ∧ F[k].e ≤ 62 ∧ 2 ≤ F[k].q) := Lib.hid (by rw [eE, eq]; exact hA)
        have hE2 : e' ≤ 62 := by omega
        have hq2 := hA.2.2
        have HE := Lib.hid (And.intro eq eE)
        have z0 : ∀ T, (wr.alloc (.cells #[.int .u64 q, .int .i64 e'] T)).cell? ⟨wr.heap.size, 0, none⟩ = some (.int .u64 q) := fun T => World.cell?_alloc_at _ _ _ _ rfl
        have hqz : ((q : Int) == 0) = false := by rw [beq_eq_false_iff_ne]; omega
        obtain ⟨D, eD⟩ : ∃ D, M / q = D := ⟨_, rfl⟩
        have d1 : (M : Int) / q = (D : Int) := by rw [← eD]; exact (Int.natCast_ediv _ _).symm
        have hD : D ≤ M := eD ▸ Nat.div_le_self _ _
        have d2 : IntKind.u64.wrap (D : Int) = (D : Int) := IntWalk.u64_in _ ⟨by omega, by have := HM'.out; omega⟩
        have ED := Lib.hid eD
        clear hA eq eE eD hD
        go_wp2_with fail
        go_loopw [6, 9] (fun s6 s9 wi => ∃ j m : Nat, s6 = .int .u64 m ∧ s9 = .int .i64 j ∧ j ≤ e' ∧ wi = wr.alloc (.cells #[.int .u64 q, .int .i64 e'] 167) ∧ Hid (m = N * q ^ j ∧ m ≤ M)) (fun _ s9 _ => e' - (intOf s9).toNat)
        case atStart => exact ⟨0, N, rfl, rfl, Nat.zero_le _, rfl, Lib.hid ⟨by rw [Nat.pow_zero, Nat.mul_one], hT.out.2.2⟩⟩
        case round =>
          obtain ⟨j, m, rfl, rfl, hj', rfl, hm⟩ := hrel
          by_cases hlt2 : j < e'
          · by_cases hD : D < m
            · have u4 : decide (D < m) = true := by rw [decide_eq_true_eq]; exact hD
              have X := Lib.hid (pr_over (j := j) hj hT.out HE.out.1 (by rw [HE.out.2, Int.toNat_natCast]; exact hlt2) hm.out.1 (by rw [ED.out]; exact hD))
              clear hD
              go_wp2_with fail
              go_ret2
              exact ⟨HA.out _, .inr ⟨X.out, rfl⟩⟩
            · have u4 : decide (D < m) = false := by rw [decide_eq_false_iff_not]; exact hD
              have hY : m * q ≤ M := (Nat.le_div_iff_mul_le (by omega)).mp (by rw [ED.out]; omega)
              obtain ⟨r, er⟩ : ∃ r, m * q = r := ⟨_, rfl⟩
              have m1 : (m : Int) * q = (r : Int) := by rw [← er]; exact (Int.natCast_mul _ _).symm
              have m2 : IntKind.u64.wrap (r : Int) = (r : Int) := IntWalk.u64_in _ ⟨by omega, by have := HM'.out; omega⟩
              have HY : Hid (r = N * q ^ (j + 1) ∧ r ≤ M) := Lib.hid ⟨by rw [← er, hm.out.1, Nat.pow_succ, Nat.mul_assoc], by omega⟩
              clear hD hY er
              go_wp2_with fail
              exact ⟨⟨j + 1, r, rfl, by go_num, by omega, trivial, HY⟩, by simp [intOf]; omega⟩
          · obtain rfl : j = e' := by omega
            have FT := Lib.hid (pr_step hj hT.out HFA.out HE.out.1 HE.out.2 hm.out.1 hm.out.2)
            go_wp2_with fail
            exact ⟨⟨k + 1, m, rfl, by go_num, by omega, HA.out _, FT⟩, by simp [intOf]; omega⟩
      · have X := Lib.hid (pr_bad (M := M) hj (by rw [eE, eq]; exact hA))
        clear eq eE hj
        by_cases hE1 : E < 1
        · have u1 : decide (E < 1) = true := by rw [decide_eq_true_eq]; exact hE1
          clear hA hE1
          go_wp2_with fail
          go_ret2
          exact ⟨HA.out _, .inr ⟨X.out, rfl⟩⟩
        have u1 : decide (E < 1) = false := by rw [decide_eq_false_iff_not]; exact hE1
        by_cases hE2 : 62 < E
        · have u2 : decide (62 < E) = true := by rw [decide_eq_true_eq]; exact hE2
          clear hA hE1 hE2
          go_wp2_with fail
          go_ret2
          exact ⟨HA.out _, .inr ⟨X.out, rfl⟩⟩
        have u2 : decide (62 < E) = false := by rw [decide_eq_false_iff_not]; exact hE2
        have u3 : decide ((q : Int) < 2) = true := by rw [decide_eq_true_eq]; omega
        clear hA hE1 hE2
        go_wp2_with fail
        go_ret2
        exact ⟨HA.out _, .inr ⟨X.out, rfl⟩⟩
    · obtain rfl : k = n := by omega
      have X := Lib.hid (pr_end EN.out hT.out)
      go_wp2_with fail
      go_ret2
      exact ⟨hB, .inl ⟨X.out.1, by rw [X.out.2]; rfl⟩⟩
end Go.Proofs.YtbokindcnkknmaaGreat
