/- What plans cost, by the program. -/
import Derived.Test.YtbokindcnkknmaaGreatPk
import Derived.Deep.RegionHeld3
set_option linter.unusedVariables false
namespace Go.Proofs.YtbokindcnkknmaaGreat
open Go.RowKit Epi Go.Maps
theorem reck_not4 (x : Pl) (hc : canF x) (h4 : x.k ≠ 4) (b : Nat) (w : World) : Calls Tryz.prog 111 #[.map (some b), plV x] w fun e w' => e = .returned (.int .i64 (costK x : Nat)) ∧ Below w.heap.size w w' := by
  obtain ⟨k, n, a⟩ := x
  have hk := can_kind hc
  have hn := hc.1
  simp only at hk hn h4
  obtain ⟨n, rfl⟩ := Int.eq_ofNat_of_zero_le (show 0 ≤ n by omega)
  have hk' : k = 0 ∨ k = 1 ∨ k = 2 ∨ k = 3 ∨ k = 5 ∨ k = 6 := by omega
  rcases hk' with rfl | rfl | rfl | rfl | rfl | rfl
  · exact reck_0 b n a w hc
  · exact reck_1 b n a w hc
  · exact reck_2 b n a w hc
  · exact reck_3 b n a w hc
  · have := (can_pos hc (by simp)).1
    simp only at this
    obtain ⟨a, rfl⟩ := Int.eq_ofNat_of_zero_le (show 0 ≤ a by omega)
    exact reck_5 b n a w hc
  · have := (can_pos hc (by simp)).1
    simp only at this
    obtain ⟨a, rfl⟩ := Int.eq_ofNat_of_zero_le (show 0 ≤ a by omega)
    exact reck_6 b n a w hc
theorem of_not4 (x : Pl) (hc : canF x) (h4 : x.k ≠ 4) (b n : Nat) (D : DataW Value) (w : World) (hn : n ≤ 1000000) (hM : CM w b n D) (hD : BookOK D) : Calls Tryz.prog 50 #[.map (some b), plV x] w (CoPost x 3 w b n) :=
  of_of x 2 1000000 (by omega) (by omega) hc (fun W b n D _ hM hD => (reck_not4 x hc h4 b W).mono fun e w' ⟨he, hb⟩ => ⟨he, grown_below hb _, D, (hM.kept (grown_below hb none) (by simp)).mono (by omega), hD⟩) b n D w hn hM hD
theorem grown_cell {w w' : World} {b g o : Nat} {v : Value} (hg : w.grownBy w' (some b)) (hc : w.cell? ⟨g, o, none⟩ = some v) (hne : g ≠ b) : w'.cell? ⟨g, o, none⟩ = some v := by
  rw [← hc]
  unfold World.cell?
  rw [hg.block g (cell_lt hc) (fun e => hne (Option.some.inj e))]
theorem grown_weak {w w' : World} (h : w.grownBy w' none) (r : Option Nat) : w.grownBy w' r := ⟨h.os, h.tape, h.output, h.size, fun k hk _ => h.block k hk (by simp)⟩
def PtPost (m : Nat) (w : World) (b n : Nat) (e : Ending) (w' : World) : Prop := e = .returned (.int .i64 (partF m : Nat)) ∧ w.grownBy w' (some b) ∧ ∃ D', CM w' b (n + 3) D' ∧ BookOK D'
set_option maxHeartbeats 1000000 in
set_option maxRecDepth 100000 in
theorem part_any (m b n : Nat) (D : DataW Value) (w : World) (h1 : 1 ≤ m) (h2 : m ≤ 1024) (hn : n ≤ 1000000) (hM : CM w b n D) (hD : BookOK D) : Calls Tryz.prog 177 #[.map (some b), .int .i64 m] w (PtPost m w b n) := by
  have HB0 : Hid (∀ o : Obj, Below w.heap.size w (w.alloc o)) := Lib.hid fun o => (Below.refl _ _).alloc (Nat.le_refl _) _
  have C2 := Lib.hid (fun W => shaped_any ⟨3, m, 0⟩ W)
  simp only [can3_iff h1 h2] at C2
  unfold plV at C2
  have hlt := hM.lt
  cases hs : (radL m).isSome with
  | true =>
    have hc : canF ⟨3, m, 0⟩ := bOf_iff.mp (by rw [can3_iff h1 h2, hs])
    have C3 := Lib.hid (fun W (hb : Below w.heap.size w W) => of_not4 ⟨3, m, 0⟩ hc (by simp) b n D W hn (hM.kept (grown_below hb none) (by simp)) hD)
    unfold CoPost at C3
    have F : costK ⟨3, m, 0⟩ = partF m := rfl
    simp only [F] at C3
    unfold plV at C3
    simp only [hs] at C2
    clear hc hs h1 hM hD F
    go_enter Tryz.func177, Tryz.ntmps177
    go_wp2_with fail
    refine (C2.out _).mono ?_
    rintro e w1 ⟨rfl, hb⟩
    have c0 := (hb.cell (p := ⟨w.heap.size, 0, none⟩) (by simp)).trans (World.cell?_alloc_at _ _ _ _ rfl)
    have c1 := (hb.cell (p := ⟨w.heap.size, 1, none⟩) (by simp)).trans (World.cell?_alloc_at _ _ _ _ rfl)
    have c2 := (hb.cell (p := ⟨w.heap.size, 2, none⟩) (by simp)).trans (World.cell?_alloc_at _ _ _ _ rfl)
    have HB := Lib.hid (bl_trans (HB0.out _) hb)
    clear hb
    go_wp2_with fail
    refine (C3.out _ HB.out).mono ?_
    rintro e w2 ⟨rfl, hg, hX⟩
    have Z : Hid (PtPost m w b n (.returned (.int .i64 (partF m : Nat))) w2) := Lib.hid ⟨rfl, (grown_below HB.out _).trans hg, hX⟩
    clear hg hX
    go_wp2_with fail
    go_ret
    exact Z.out
  | false =>
    have hc : canF ⟨0, m, 0⟩ := ⟨by show (1 : Int) ≤ m; omega, by show (m : Int) ≤ 1024; omega, .inl ⟨rfl, rfl⟩⟩
    have C3 := Lib.hid (fun W (hb : Below w.heap.size w W) => of_not4 ⟨0, m, 0⟩ hc (by simp) b n D W hn (hM.kept (grown_below hb none) (by simp)) hD)
    unfold CoPost at C3
    have F : costK ⟨0, m, 0⟩ = partF m := by
      rw [part_none hs]
      show (m : Int).toNat * (m : Int).toNat = _
      rw [Int.toNat_natCast]
    simp only [F] at C3
    unfold plV at C3
    simp only [hs] at C2
    clear hc hs h1 hM hD F
    go_enter Tryz.func177, Tryz.ntmps177
    go_wp2_with fail
    refine (C2.out _).mono ?_
    rintro e w1 ⟨rfl, hb⟩
    have c0 := (hb.cell (p := ⟨w.heap.size, 0, none⟩) (by simp)).trans (World.cell?_alloc_at _ _ _ _ rfl)
    have c1 := (hb.cell (p := ⟨w.heap.size, 1, none⟩) (by simp)).trans (World.cell?_alloc_at _ _ _ _ rfl)
    have c2 := (hb.cell (p := ⟨w.heap.size, 2, none⟩) (by simp)).trans (World.cell?_alloc_at _ _ _ _ rfl)
    have f0 := (hb.frozen (p := ⟨w.heap.size, 0, none⟩) (by simp)).trans (World.frozen?_alloc_at _ _ _ _ rfl)
    have HB := Lib.hid ((bl_trans (HB0.out _) hb).setCell (p := ⟨w.heap.size, 0, none⟩) (Nat.le_refl _) (.int .i64 0))
    clear hb
    go_wp2_with fail
    refine (C3.out _ HB.out).mono ?_
    rintro e w2 ⟨rfl, hg, hX⟩
    have Z : Hid (PtPost m w b n (.returned (.int .i64 (partF m : Nat))) w2) := Lib.hid ⟨rfl, (grown_below HB.out _).trans hg, hX⟩
    clear hg hX
    go_wp2_with fail
    go_ret
    exact Z.out
set_option maxHeartbeats 4000000 in
set_option maxRecDepth 100000 in
theorem reck_4 (n a bm nn : Nat) (D : DataW Value) (w : World) (hc : canF ⟨4, n, a⟩) (hnn : nn ≤ 999990) (hM : CM w bm nn D) (hD : BookOK D) : Calls Tryz.prog 111 #[.map (some bm), plV ⟨4, n, a⟩] w (CoPost ⟨4, n, a⟩ 6 w bm nn) := by
  have HB0 : Hid (∀ o : Obj, Below w.heap.size w (w.alloc o)) := Lib.hid fun o => (Below.refl _ _).alloc (Nat.le_refl _) _
  have hn1 : 1 ≤ n := by have := hc.1; simp only at this; omega
  have hn2 : n ≤ 1024 := by have := hc.2.1; simp only at this; omega
  obtain ⟨ha1, ha2, ha3, -⟩ := cp_nat (can4_nat hc)
  obtain ⟨b, eb⟩ : ∃ b, n / a = b := ⟨_, rfl⟩
  have hb1 : 1 ≤ b := by rw [← eb]; exact Nat.div_pos (by omega) (by omega)
  have hb2 : b ≤ 1024 := by rw [← eb]; exact Nat.le_trans (Nat.div_le_self _ _) hn2
  have hlt := hM.lt
  have CB := Lib.hid (fun W (hg : w.grownBy W none) => part_any b bm nn D W hb1 hb2 (by omega) (hM.kept hg (by simp)) hD)
  have CA := Lib.hid (fun W D (hM : CM W bm (nn + 3) D) (hD : BookOK D) => part_any a bm (nn + 3) D W (by omega) (by omega) (by omega) hM hD)
  unfold PtPost at CA CB
  have F : costK ⟨4, n, a⟩ = a * partF b + b * partF a + n := by
    show (a : Int).toNat * partF ((n : Int) / (a : Int)).toNat + ((n : Int) / (a : Int)).toNat * partF (a : Int).toNat + (n : Int).toNat = _
    rw [show ((n : Int) / (a : Int)) = ((n / a : Nat) : Int) from (Int.natCast_ediv _ _).symm, eb]
    simp only [Int.toNat_natCast]
  have hpa := partF_le (m := a) (by omega) (by omega)
  have hpb := partF_le hb1 hb2
  obtain ⟨pa, epa⟩ : ∃ pa, partF a = pa := ⟨_, rfl⟩
  obtain ⟨pb, epb⟩ : ∃ pb, partF b = pb := ⟨_, rfl⟩
  simp only [epa] at CA F hpa
  simp only [epb] at CB F hpb
  obtain ⟨q1, eq1⟩ : ∃ q1, a * pb = q1 := ⟨_, rfl⟩
  obtain ⟨q2, eq2⟩ : ∃ q2, b * pa = q2 := ⟨_, rfl⟩
  have hq1 : q1 ≤ 1024 * 2097152 := eq1 ▸ Nat.mul_le_mul (by omega) hpb
  have hq2 : q2 ≤ 1024 * 2097152 := eq2 ▸ Nat.mul_le_mul (by omega) hpa
  rw [eq1, eq2] at F
  have E1 : Hid ((a : Int) * (pb : Int) = (q1 : Int)) := Lib.hid (by rw [← eq1]; simp)
  have E2 : Hid ((b : Int) * (pa : Int) = (q2 : Int)) := Lib.hid (by rw [← eq2]; simp)
  have k2 : (n : Int) / a = (b : Int) := by rw [← eb]; exact (Int.natCast_ediv _ _).symm
  have k4 : ((a : Int) == 0) = false := by rw [beq_eq_false_iff_ne]; omega
  have k5 : ¬ a = 0 := by omega
  have FF := Lib.hid F
  unfold plV
  clear hc hn1 ha1 ha2 ha3 eb epa epb eq1 eq2 hM hD F
  go_enter Tryz.func111, Tryz.ntmps111
  go_wp2_with fail
  obtain ⟨w1, hw1⟩ : ∃ w1, w.alloc (.cells #[.int .i64 4, .int .i64 n, .int .i64 a] 36) = w1 := ⟨_, rfl⟩
  have hg0 : w.grownBy w1 none := by rw [← hw1]; exact World.grownBy_alloc w _ none
  have y1 : w1.cell? ⟨w.heap.size, 1, none⟩ = some (.int .i64 n) := by rw [← hw1]; exact World.cell?_alloc_at _ _ _ _ rfl
  have y2 : w1.cell? ⟨w.heap.size, 2, none⟩ = some (.int .i64 a) := by rw [← hw1]; exact World.cell?_alloc_at _ _ _ _ rfl
  have ly := cell_lt y1
  have hne : w.heap.size ≠ bm := by omega
  have HG0 := Lib.hid hg0
  have HS0 : Hid (w1.drew.cell? ⟨w.heap.size, 1, none⟩ = some (.int .i64 n) ∧ w1.drew.cell? ⟨w.heap.size, 2, none⟩ = some (.int .i64 a)) := Lib.hid ⟨y1, y2⟩
  have HS1 : Hid (∀ w', w1.drew.grownBy w' (some bm) → w'.cell? ⟨w.heap.size, 1, none⟩ = some (.int .i64 n) ∧ w'.cell? ⟨w.heap.size, 2, none⟩ = some (.int .i64 a)) := Lib.hid fun w' hg => ⟨grown_cell hg y1 hne, grown_cell hg y2 hne⟩
  have HGd : Hid (w.grownBy w1.drew none) := Lib.hid ⟨hg0.os, hg0.tape, hg0.output, hg0.size, hg0.block⟩
  rw [hw1]
  clear hw1 hg0
  go_wp2_with fail
  go_region_held3 (fun w' => w'.cell? ⟨w.heap.size, 1, none⟩ = some (.int .i64 n) ∧ w'.cell? ⟨w.heap.size, 2, none⟩ = some (.int .i64 a)) (first | exact ⟨y1, y2⟩ | exact HS0.out | exact HS1.out _ hgB | exact HS1.out _ (hgB.trans hgA)) (first | (go_at_call 177; ((with_reducible refine (CB.out _ HGd.out).mono ?_); rintro e wB ⟨rfl, hgB, DB, hMB, hDB⟩; have HMB := Lib.hid hMB; have HDB := Lib.hid hDB; clear hMB hDB)) | (go_at_call 177; ((with_reducible refine (CA.out _ _ HMB.out HDB.out).mono ?_); rintro e wA ⟨rfl, hgA, DA, hMA, hDA⟩; have HMA := Lib.hid hMA; have HDA := Lib.hid hDA; clear hMA hDA)))
  have Z : Hid (CoPost ⟨4, n, a⟩ 6 w bm nn (.returned (.int .i64 (q1 + q2 + n : Nat))) wA) := Lib.hid ⟨by rw [FF.out], ((grown_weak HGd.out (some bm)).trans hgB).trans hgA, DA, HMA.out, HDA.out⟩
  clear hgA hgB
  go_wp2_with fail
  go_ret
  have e : IntKind.i64.wrap (IntKind.i64.wrap (IntKind.i64.wrap ((a : Int) * pb) + IntKind.i64.wrap ((b : Int) * pa)) + (n : Int)) = ((q1 + q2 + n : Nat) : Int) := by
    rw [E1.out, E2.out]
    rw [IntWalk.i64_in (q1 : Int) ⟨by omega, by omega⟩, IntWalk.i64_in (q2 : Int) ⟨by omega, by omega⟩, IntWalk.i64_in ((q1 : Int) + q2) ⟨by omega, by omega⟩, IntWalk.i64_in ((q1 : Int) + q2 + n) ⟨by omega, by omega⟩]
    omega
  show CoPost ⟨4, n, a⟩ 6 w bm nn (.returned (.int .i64 (IntKind.i64.wrap (IntKind.i64.wrap (IntKind.i64.wrap ((a : Int) * pb) + IntKind.i64.wrap ((b : Int) * pa)) + (n : Int))))) wA
  rw [e]
  exact Z.out
theorem CoPost.more {x : Pl} {m m' b n : Nat} {w w' : World} {e : Ending} (h : CoPost x m w b n e w') (hm : m ≤ m') : CoPost x m' w b n e w' := by
  obtain ⟨h1, h2, D, h3, h4⟩ := h
  exact ⟨h1, h2, D, h3.mono (by omega), h4⟩
theorem ofc_any (x : Pl) (hc : canF x) (b n : Nat) (D : DataW Value) (w : World) (hn : n ≤ 999990) (hM : CM w b n D) (hD : BookOK D) : Calls Tryz.prog 50 #[.map (some b), plV x] w (CoPost x 7 w b n) := by
  by_cases h4 : x.k = 4
  case neg => exact (of_not4 x hc h4 b n D w (by omega) hM hD).mono fun e w' h => h.more (by omega)
  refine of_of x 6 999990 (by omega) (by omega) hc (fun W b n D hn hM hD => ?_) b n D w hn hM hD
  obtain ⟨k, m, a⟩ := x
  simp only at h4
  subst h4
  have hm := hc.1
  simp only at hm
  obtain ⟨m, rfl⟩ := Int.eq_ofNat_of_zero_le (show 0 ≤ m by omega)
  have h4 : 0 ≤ a := by
    have h1 := hc.1
    have h2 := hc.2.1
    have h3 := can_4 (a := a) h1 h2
    rw [bOf_true hc] at h3
    have h3 := h3.symm
    unfold cpF at h3
    rw [decide_eq_true_eq] at h3
    omega
  obtain ⟨a, rfl⟩ := Int.eq_ofNat_of_zero_le h4
  exact reck_4 m a b n D W hc (by omega) hM hD
set_option maxHeartbeats 1000000 in
theorem cost_any (x : Pl) (w : World) : Calls Tryz.prog 16 #[plV x] w fun e w' => e = .returned (.int .i64 (costF x : Nat)) ∧ Below w.heap.size w w' := by
  have HB0 : Hid (∀ o : Obj, Below w.heap.size w (w.alloc o)) := Lib.hid fun o => (Below.refl _ _).alloc (Nat.le_refl _) _
  have C2 := Lib.hid (fun W => shaped_any x W)
  by_cases hc : canF x
  case neg =>
    simp only [bOf_false hc] at C2
    have F : Hid (costF x = 0) := Lib.hid (if_neg (fun h => hc (bOf_iff.mp h)))
    obtain ⟨k, n, a⟩ := x
    unfold plV at C2 ⊢
    clear hc
    go_enter Tryz.func16, Tryz.ntmps16
    go_wp2_with fail
    refine (C2.out _).mono ?_
    rintro e w1 ⟨rfl, hb⟩
    have HB := Lib.hid (bl_trans (HB0.out _) hb)
    clear hb
    go_wp2_with fail
    go_ret
    exact ⟨ret_int (by rw [F.out]; rfl), HB.out⟩
  simp only [bOf_true hc] at C2
  have F : Hid (costF x = costK x) := Lib.hid (costF_can hc)
  have hmm := @run_makeMap Tryz.prog
  have C3 := Lib.hid (fun W => ofc_any x hc W.heap.size 0 (.map []) (W.alloc (.map #[] 0)) (by omega) (World.ownsMap_made W _ _ _) BookOK.nil)
  unfold CoPost at C3
  rw [F.out]
  obtain ⟨cc, ec⟩ : ∃ cc, costK x = cc := ⟨_, rfl⟩
  rw [ec] at C3 ⊢
  obtain ⟨k, n, a⟩ := x
  unfold plV at C2 C3 ⊢
  simp only at C2 C3
  clear hc ec F
  go_enter Tryz.func16, Tryz.ntmps16
  go_wp2_with fail
  refine (C2.out _).mono ?_
  rintro e w1 ⟨rfl, hb⟩
  have c0 := (hb.cell (p := ⟨w.heap.size, 0, none⟩) (by simp)).trans (World.cell?_alloc_at _ _ _ _ rfl)
  have c1 := (hb.cell (p := ⟨w.heap.size, 1, none⟩) (by simp)).trans (World.cell?_alloc_at _ _ _ _ rfl)
  have c2 := (hb.cell (p := ⟨w.heap.size, 2, none⟩) (by simp)).trans (World.cell?_alloc_at _ _ _ _ rfl)
  have HB := Lib.hid (bl_trans (HB0.out _) hb)
  have hs := cell_lt c0
  clear hb
  go_wp2_with fail
  refine (C3.out _).mono ?_
  rintro e w2 ⟨rfl, hg, -⟩
  have HB2 : Hid (Below w.heap.size w w2) := Lib.hid ((HB.out.alloc HB.out.size _).grown hg (by simp; omega) fun j e => by cases e; omega)
  clear hg
  go_wp2_with fail
  go_ret
  exact ⟨rfl, HB2.out⟩
end Go.Proofs.YtbokindcnkknmaaGreat
