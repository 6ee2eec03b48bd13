/- The plans of a way, handed out one by one. -/
import Derived.Test.YtbokindcnkknmaaGreatRf
import Derived.Test.YtbokindcnkknmaaGreatPl
import Derived.Shelf.RegionOpen
set_option linter.unusedVariables false
namespace Go.Proofs.YtbokindcnkknmaaGreat
open Go.RowKit Epi
/-- A variable's box is laid. -/
theorem pof_any (o : Option Addr) (n k : Int) (w : World) : Calls Tryz.prog 56 #[.pointer o, .int .i64 n, .int .i64 k] w fun e w' => e = .returned (.func (.func 116) #[] #[.pointer (some ⟨w.heap.size + 2, 0, none⟩), .pointer (some ⟨w.heap.size + 1, 0, none⟩), .pointer (some ⟨w.heap.size, 0, none⟩)]) ∧
    Below w.heap.size w w' ∧ Boxed w' (w.heap.size + 2) 34 (.int .i64 k) ∧ Boxed w' (w.heap.size + 1) 3 (.int .i64 n) ∧ Boxed w' w.heap.size 29 (.pointer o) := by
  go_enter Tryz.func56, Tryz.ntmps56
  go_wp2_with fail
  go_ret
  refine ⟨by simp, ?_, ?_, ?_, ?_⟩
  · exact (((Below.refl _ _).alloc (Nat.le_refl _) _).alloc (by simp) _).alloc (by simp; omega) _
  · exact (show w.heap.size + 2 = ((w.alloc _).alloc _).heap.size by simp) ▸ Boxed.new _ _ _
  · exact ((show w.heap.size + 1 = (w.alloc _).heap.size by simp) ▸ Boxed.new _ _ _ : Boxed _ _ _ _).alloc _
  · exact ((Boxed.new _ _ _).alloc _).alloc _
/-- A plan that lies in a block. -/
def PlAt (W : World) (b : Nat) (x : Pl) : Prop := W.cell? ⟨b, 0, none⟩ = some (.int .i64 x.k) ∧ W.cell? ⟨b, 1, none⟩ = some (.int .i64 x.n) ∧ W.cell? ⟨b, 2, none⟩ = some (.int .i64 x.a) ∧ ∀ j, W.frozen? ⟨b, j, none⟩ = false
theorem PlAt.lt {W : World} {b : Nat} {x : Pl} (h : PlAt W b x) : b < W.heap.size := cell_lt h.1
theorem PlAt.of_block {W W' : World} {b : Nat} {x : Pl} (h : PlAt W b x) (hb : W'.heap[b]? = W.heap[b]?) : PlAt W' b x :=
  ⟨(World.cell?_of_block (a := ⟨b, 0, none⟩) hb).trans h.1, (World.cell?_of_block (a := ⟨b, 1, none⟩) hb).trans h.2.1, (World.cell?_of_block (a := ⟨b, 2, none⟩) hb).trans h.2.2.1, fun j => (World.frozen?_of_block (a := ⟨b, j, none⟩) hb).trans (h.2.2.2 j)⟩
theorem PlAt.below {W W' : World} {b : Nat} {x : Pl} (h : PlAt W b x) (hb : Below W.heap.size W W') : PlAt W' b x := h.of_block (hb.block b h.lt)
theorem PlAt.new (W : World) (k n a : Int) (t : TypeId) : PlAt (W.alloc (.cells #[.int .i64 k, .int .i64 n, .int .i64 a] t)) W.heap.size ⟨k, n, a⟩ :=
  ⟨World.cell?_alloc_at _ _ _ _ rfl, World.cell?_alloc_at _ _ _ _ rfl, World.cell?_alloc_at _ _ _ _ rfl, fun j => World.frozen?_alloc_at _ _ _ _ rfl⟩
theorem PlAt.set3 {W : World} {b : Nat} {y : Pl} (h : PlAt W b y) (k n a : Int) : PlAt (((W.setCell ⟨b, 0, none⟩ (.int .i64 k)).setCell ⟨b, 1, none⟩ (.int .i64 n)).setCell ⟨b, 2, none⟩ (.int .i64 a)) b ⟨k, n, a⟩ := by
  have ne : ∀ i j : Nat, i ≠ j → (⟨b, i, none⟩ : Addr) ≠ ⟨b, j, none⟩ := fun i j h e => h (congrArg Addr.off e)
  refine ⟨?_, ?_, ?_, fun j => ?_⟩
  · rw [World.cell?_setCell_other _ _ _ _ (ne 2 0 (by decide)), World.cell?_setCell_other _ _ _ _ (ne 1 0 (by decide))]
    exact World.cell?_setCell_same _ _ _ h.1
  · rw [World.cell?_setCell_other _ _ _ _ (ne 2 1 (by decide))]
    refine World.cell?_setCell_same _ _ _ (u := .int .i64 y.n) ?_
    rw [World.cell?_setCell_other _ _ _ _ (ne 0 1 (by decide))]
    exact h.2.1
  · refine World.cell?_setCell_same _ _ _ (u := .int .i64 y.a) ?_
    rw [World.cell?_setCell_other _ _ _ _ (ne 1 2 (by decide)), World.cell?_setCell_other _ _ _ _ (ne 0 2 (by decide))]
    exact h.2.2.1
  · rw [World.frozen?_setCell, World.frozen?_setCell, World.frozen?_setCell]
    exact h.2.2.2 j
theorem PlAt.set2 {W : World} {b : Nat} {y : Pl} (h : PlAt W b y) (a : Int) : PlAt (W.setCell ⟨b, 2, none⟩ (.int .i64 a)) b ⟨y.k, y.n, a⟩ := by
  have ne : ∀ i j : Nat, i ≠ j → (⟨b, i, none⟩ : Addr) ≠ ⟨b, j, none⟩ := fun i j h e => h (congrArg Addr.off e)
  refine ⟨?_, ?_, ?_, fun j => ?_⟩
  · rw [World.cell?_setCell_other _ _ _ _ (ne 2 0 (by decide))]
    exact h.1
  · rw [World.cell?_setCell_other _ _ _ _ (ne 2 1 (by decide))]
    exact h.2.1
  · exact World.cell?_setCell_same _ _ _ h.2.2.1
  · rw [World.frozen?_setCell]
    exact h.2.2.2 j
/-- What an iterator's call comes to. -/
def ItPost {α : Type} (S Sp : List α → Prop) (J Jx : List α → World → Prop) (e : Ending) (W' : World) : Prop := (∃ v, e = .returned v) ∧ ((∃ xs, S xs ∧ J xs W') ∨ (∃ pre, Sp pre ∧ Jx pre W'))
set_option maxRecDepth 100000 in
set_option maxHeartbeats 2000000 in
theorem of1_few (w0 : World) (o : Option Addr) (p g : Nat) (n : Int) (k : Nat) (hf : FdO w0 o p g) (hp : p ≠ 0) (hk : k < 4) (w : World) (b1 b2 b3 : Nat)
    (hB : Below w0.heap.size w0 w) (k1 : Boxed w b1 34 (.int .i64 (k : Int))) (k2 : Boxed w b2 3 (.int .i64 n)) (k3 : Boxed w b3 29 (.pointer o)) (l : Nat) (J Jx : List Pl → World → Prop)
    (hJ : OwnFrom w.heap.size J) (h0 : J [] w) (hY : ∀ pre x W, J pre W → pre ++ [x] <+: ofP p n k → YieldAt Fence.wide 0 Tryz.prog l #[plV x] W fun e W' => (e = .returned (.bool true) ∧ J (pre ++ [x]) W') ∨ (e = .returned (.bool false) ∧ Jx (pre ++ [x]) W')) :
    Calls Tryz.prog 116 #[.func (.yield l) #[] #[], .pointer (some ⟨b1, 0, none⟩), .pointer (some ⟨b2, 0, none⟩), .pointer (some ⟨b3, 0, none⟩)] w (ItPost (fun xs => xs = ofP p n k) (fun pre => pre <+: ofP p n k) J Jx) := by
  have HA : Hid (∀ ob : Obj, Below w.heap.size w (w.alloc ob)) := Lib.hid fun ob => (Below.refl _ _).alloc (Nat.le_refl _) _
  have HB := Lib.hid hB
  have tw : ∀ f, Fence.wide.fn f := fun _ => trivial
  have hF : ftF p ⟨k, n, 0⟩ = fitsF p ⟨k, n, 0⟩ := if_neg hp
  have C := Lib.hid (fun m W (hb : Below w0.heap.size w0 W) => (callsIn_wide (n := m)).2 (pfits_any o p g ⟨k, n, 0⟩ W (hf.below hb)))
  simp only [hF] at C
  have K1 := k1.cell
  have K2 := k2.cell
  have K3 := k3.cell
  have l1 := k1.lt
  have l2 := k2.lt
  have l3 := k3.lt
  have t4 : (((k : Nat) : Int) == 4) = false := by rw [beq_eq_false_iff_ne]; omega
  have t5 : (((k : Nat) : Int) == 5) = false := by rw [beq_eq_false_iff_ne]; omega
  have t6 : (((k : Nat) : Int) == 6) = false := by rw [beq_eq_false_iff_ne]; omega
  have HY := Lib.hid hY
  have HJ := Lib.hid (fun W' (hg : w.grownBy W' none) => hJ [] w W' none h0 hg (fun r e => by cases e))
  have hO : ofP p n k = if fitsF p ⟨k, n, 0⟩ = 0 then [⟨k, n, 0⟩] else [] := by
    rw [← refTo_few hk, refTo_succ]
    rfl
  unfold plV at C HY
  obtain ⟨r, er⟩ : ∃ r, fitsF p ⟨k, n, 0⟩ = r := ⟨_, rfl⟩
  rw [er] at hO
  simp only [er] at C
  clear hY hJ hF er h0 hB hf k1 k2 k3
  by_cases hr : r = 0
  case neg =>
    have t0 : ((r : Int) == 0) = false := by rw [beq_eq_false_iff_ne]; omega
    rw [if_neg hr] at hO
    have Z : Hid (∀ W' v, Below w.heap.size w W' → ItPost (fun xs => xs = ofP p n k) (fun pre => pre <+: ofP p n k) J Jx (.returned v) W') := Lib.hid fun W' v hb => ⟨⟨_, rfl⟩, .inl ⟨[], hO.symm, HJ.out _ (grown_below hb _)⟩⟩
    clear hO hr HY HJ
    refine (callsIn_wide (n := 5)).1 (callsIn_of_wp Tryz.func116 rfl trivial ?_ rfl)
    simp only [Tryz.ntmps116, List.size_toArray, List.length_cons, List.length_nil, Nat.reduceAdd, Nat.reduceSub, Array.replicate_succ, Array.replicate_zero, List.push_toArray, List.append_toArray, List.nil_append, List.cons_append]
    gi_wp2_with (gi_at_call 14; refine (C.out _ _ (HB.out.trans ((HA.out _).mono HB.out.size))).mono ?_; rintro e w1 ⟨rfl, hb⟩; have HC := Lib.hid (bl_trans (HA.out _) hb); clear hb)
    go_end0
    exact Z.out _ _ HC.out
  case pos =>
    subst hr
    rw [if_pos rfl] at hO
    have Z : Hid (∀ W' v, Jx [⟨k, n, 0⟩] W' ∨ J [⟨k, n, 0⟩] W' → ItPost (fun xs => xs = ofP p n k) (fun pre => pre <+: ofP p n k) J Jx (.returned v) W') := Lib.hid fun W' v hb => ⟨⟨_, rfl⟩, by
      rcases hb with hb | hb
      · exact .inr ⟨_, by rw [hO]; exact List.prefix_refl _, hb⟩
      · exact .inl ⟨_, hO.symm, hb⟩⟩
    have HY1 := Lib.hid (fun W h => yieldAt_any (m' := 4) (HY.out [] ⟨k, n, 0⟩ W h (by rw [hO]; exact List.prefix_refl _)))
    clear hO HY
    refine (callsIn_wide (n := 5)).1 (callsIn_of_wp Tryz.func116 rfl trivial ?_ rfl)
    simp only [Tryz.ntmps116, List.size_toArray, List.length_cons, List.length_nil, Nat.reduceAdd, Nat.reduceSub, Array.replicate_succ, Array.replicate_zero, List.push_toArray, List.append_toArray, List.nil_append, List.cons_append]
    gi_wp2_with (gi_at_call 14; refine (C.out _ _ (HB.out.trans ((HA.out _).mono HB.out.size))).mono ?_; rintro e w1 ⟨rfl, hb⟩; have c0 := (hb.cell (p := ⟨w.heap.size, 0, none⟩) (by simp)).trans (World.cell?_alloc_at _ _ _ _ rfl); have c1 := (hb.cell (p := ⟨w.heap.size, 1, none⟩) (by simp)).trans (World.cell?_alloc_at _ _ _ _ rfl); have c2 := (hb.cell (p := ⟨w.heap.size, 2, none⟩) (by simp)).trans (World.cell?_alloc_at _ _ _ _ rfl); have HC := Lib.hid (bl_trans (HA.out _) hb); clear hb; obtain ⟨fn, tmps, assign, body, hy, hR⟩ := HY1.out w1 (HJ.out _ (grown_below HC.out _)))
    refine hR.mono ?_
    rintro e W3 (⟨rfl, hJ3⟩ | ⟨rfl, hJ3⟩)
    · have ZZ := Lib.hid (fun v => Z.out W3 v (.inr hJ3))
      clear hJ3
      gi_wp2
      go_end0
      exact ZZ.out _
    · have ZZ := Lib.hid (fun v => Z.out W3 v (.inl hJ3))
      clear hJ3
      gi_wp2
      go_end0
      exact ZZ.out _
set_option maxRecDepth 100000 in
set_option maxHeartbeats 2000000 in
theorem of1_pr (w0 : World) (o : Option Addr) (p g : Nat) (n : Int) (hf : FdO w0 o p g) (hp : p ≠ 0) (w : World) (b1 b2 b3 : Nat)
    (hB : Below w0.heap.size w0 w) (k1 : Boxed w b1 34 (.int .i64 5)) (k2 : Boxed w b2 3 (.int .i64 n)) (k3 : Boxed w b3 29 (.pointer o)) (l : Nat) (J Jx : List Pl → World → Prop)
    (hJ : OwnFrom w.heap.size J) (h0 : J [] w) (hY : ∀ pre x W, J pre W → pre ++ [x] <+: ofP p n 5 → YieldAt Fence.wide 0 Tryz.prog l #[plV x] W fun e W' => (e = .returned (.bool true) ∧ J (pre ++ [x]) W') ∨ (e = .returned (.bool false) ∧ Jx (pre ++ [x]) W')) :
    Calls Tryz.prog 116 #[.func (.yield l) #[] #[], .pointer (some ⟨b1, 0, none⟩), .pointer (some ⟨b2, 0, none⟩), .pointer (some ⟨b3, 0, none⟩)] w (ItPost (fun xs => xs = ofP p n 5) (fun pre => pre <+: ofP p n 5) J Jx) := by
  have HA : Hid (∀ ob : Obj, Below w.heap.size w (w.alloc ob)) := Lib.hid fun ob => (Below.refl _ _).alloc (Nat.le_refl _) _
  have HB := Lib.hid hB
  have tw : ∀ f, Fence.wide.fn f := fun _ => trivial
  have hF : ftF p ⟨5, n, (rdPad n : Nat)⟩ = fitsF p ⟨5, n, (rdPad n : Nat)⟩ := if_neg hp
  have C := Lib.hid (fun m W (hb : Below w0.heap.size w0 W) => (callsIn_wide (n := m)).2 (pfits_any o p g ⟨5, n, (rdPad n : Nat)⟩ W (hf.below hb)))
  simp only [hF] at C
  have K1 := k1.cell
  have K2 := k2.cell
  have K3 := k3.cell
  have l1 := k1.lt
  have l2 := k2.lt
  have l3 := k3.lt
  have HY := Lib.hid hY
  have R := Lib.hid (fun m W => (callsIn_wide (n := m)).2 (rdpad_any n W))
  have HJ := Lib.hid (fun W' (hg : w.grownBy W' none) => hJ [] w W' none h0 hg (fun r e => by cases e))
  have hO : ofP p n 5 = if fitsF p ⟨5, n, (rdPad n : Nat)⟩ = 0 then [⟨5, n, (rdPad n : Nat)⟩] else [] := by
    unfold ofP tryP
    rw [if_neg (by omega), if_pos rfl]
    by_cases h : fitsF p ⟨5, n, (rdPad n : Nat)⟩ = 0 <;> simp [h]
  unfold plV at C HY
  obtain ⟨r, er⟩ : ∃ r, fitsF p ⟨5, n, (rdPad n : Nat)⟩ = r := ⟨_, rfl⟩
  rw [er] at hO
  simp only [er] at C
  clear hY hJ hF er h0 hB hf k1 k2 k3
  have HS : Hid (∀ W, Below w.heap.size w W → W.cell? ⟨b1, 0, none⟩ = some (.int .i64 5) ∧ W.cell? ⟨b2, 0, none⟩ = some (.int .i64 n)) := Lib.hid fun W hb => ⟨(hb.cell (p := ⟨b1, 0, none⟩) l1).trans K1, (hb.cell (p := ⟨b2, 0, none⟩) l2).trans K2⟩
  have HN : Hid (∀ W, Below (w.alloc (.cells #[.int .i64 0, .int .i64 0, .int .i64 0] 36)).drew.heap.size (w.alloc (.cells #[.int .i64 0, .int .i64 0, .int .i64 0] 36)).drew W → W.cell? ⟨w.heap.size, 0, none⟩ = some (.int .i64 0) ∧ W.cell? ⟨w.heap.size, 1, none⟩ = some (.int .i64 0) ∧ W.cell? ⟨w.heap.size, 2, none⟩ = some (.int .i64 0) ∧ ∀ j, W.frozen? ⟨w.heap.size, j, none⟩ = false) := Lib.hid fun W hb => by
    have hlt : w.heap.size < (w.alloc (.cells #[.int .i64 0, .int .i64 0, .int .i64 0] 36)).drew.heap.size := by show w.heap.size < (w.alloc _).heap.size; simp
    exact ⟨(hb.cell (p := ⟨w.heap.size, 0, none⟩) hlt).trans (show (w.alloc _).cell? _ = _ from World.cell?_alloc_at _ _ _ _ rfl), (hb.cell (p := ⟨w.heap.size, 1, none⟩) hlt).trans (show (w.alloc _).cell? _ = _ from World.cell?_alloc_at _ _ _ _ rfl), (hb.cell (p := ⟨w.heap.size, 2, none⟩) hlt).trans (show (w.alloc _).cell? _ = _ from World.cell?_alloc_at _ _ _ _ rfl), fun j => (hb.frozen (p := ⟨w.heap.size, j, none⟩) hlt).trans (show (w.alloc _).frozen? _ = _ from World.frozen?_alloc_at _ _ _ _ rfl)⟩
  have R2 := Lib.hid (fun W => rdpad_any n W)
  have HS3 : Hid (∀ W, Below w.heap.size w W → W.cell? ⟨b3, 0, none⟩ = some (.pointer o) ∧ b1 < W.heap.size ∧ b2 < W.heap.size ∧ b3 < W.heap.size) := Lib.hid fun W hb => ⟨(hb.cell (p := ⟨b3, 0, none⟩) l3).trans K3, by have := hb.size; omega, by have := hb.size; omega, by have := hb.size; omega⟩
  have HD : Hid (Below w.heap.size w w.drew) := Lib.hid (bl_drew1 (Below.refl _ _))
  by_cases hr : r = 0
  case neg =>
    have t0 : ((r : Int) == 0) = false := by rw [beq_eq_false_iff_ne]; omega
    rw [if_neg hr] at hO
    have Z : Hid (∀ W' v, Below w.heap.size w W' → ItPost (fun xs => xs = ofP p n 5) (fun pre => pre <+: ofP p n 5) J Jx (.returned v) W') := Lib.hid fun W' v hb => ⟨⟨_, rfl⟩, .inl ⟨[], hO.symm, HJ.out _ (grown_below hb _)⟩⟩
    clear hO hr HY HJ
    refine (callsIn_wide (n := 5)).1 (callsIn_of_wp Tryz.func116 rfl trivial ?_ rfl)
    simp only [Tryz.ntmps116, List.size_toArray, List.length_cons, List.length_nil, Nat.reduceAdd, Nat.reduceSub, Array.replicate_succ, Array.replicate_zero, List.push_toArray, List.append_toArray, List.nil_append, List.cons_append]
    gi_wp2_with fail
    refine wpIn_wide.2 ?_
    go_region_held3 (fun W => W.cell? ⟨b1, 0, none⟩ = some (.int .i64 5) ∧ W.cell? ⟨b2, 0, none⟩ = some (.int .i64 n)) (first | exact ⟨K1, K2⟩ | exact HS.out _ HD.out | exact HS.out _ (bl_trans HD.out hbR) | exact HS.out _ (bl_trans (bl_trans HD.out hbR) ((Below.refl _ _).alloc (Nat.le_refl _) _)) | exact HS.out _ (bl_drew1 (HA.out _)) | exact HS.out _ (bl_trans (bl_drew1 (HA.out _)) hbR) | exact HS.out _ ((((bl_trans (bl_drew1 (HA.out _)) hbR).setCell (Nat.le_refl _) _).setCell (Nat.le_refl _) _).setCell (Nat.le_refl _) _)) (first | (go_at_call 109; ((with_reducible refine (R2.out _).mono ?_); rintro e wR ⟨rfl, hbR⟩; (first | (have HH := HN.out wR (by exact hbR); obtain ⟨e0, e1, e2, g0⟩ := HH) | skip))))
    · have HW : Hid (Below w.heap.size w (wR.alloc (.cells #[.int .i64 5, .int .i64 n, .int .i64 (rdPad n : Nat)] 36))) := Lib.hid (bl_trans (bl_trans HD.out hbR) ((Below.refl _ _).alloc (Nat.le_refl _) _))
      have HP : Hid (PlAt (wR.alloc (.cells #[.int .i64 5, .int .i64 n, .int .i64 (rdPad n : Nat)] 36)) wR.heap.size ⟨5, n, (rdPad n : Nat)⟩) := Lib.hid (PlAt.new _ _ _ _ _)
      have HG : Hid (w.heap.size ≤ wR.heap.size) := Lib.hid (bl_trans HD.out hbR).size
      revert HW HP HG
      generalize wR.alloc (.cells #[.int .i64 5, .int .i64 n, .int .i64 (rdPad n : Nat)] 36) = W2
      generalize wR.heap.size = b4
      intro HW HP HG
      have hb4 : w.heap.size ≤ b4 := HG.out
      have lb4 := HP.out.lt
      obtain ⟨p0, p1, p2, pf⟩ := HP.out
      obtain ⟨q1, q2⟩ := HS.out _ HW.out
      obtain ⟨q3, m1, m2, m3⟩ := HS3.out _ HW.out
      simp only at p0 p1 p2
      gi_wp2_with (gi_at_call 14; refine (C.out _ _ (HB.out.trans (HW.out.mono HB.out.size))).mono ?_; rintro e w1 ⟨rfl, hb⟩; obtain ⟨c0, c1, c2, c3⟩ := HP.out.below hb; simp only at c0 c1 c2; have HC := Lib.hid (bl_trans HW.out hb); clear hb)
      go_end0
      exact Z.out _ _ HC.out
    · have HP : Hid (PlAt (((wR.setCell ⟨w.heap.size, 0, none⟩ (.int .i64 5)).setCell ⟨w.heap.size, 1, none⟩ (.int .i64 n)).setCell ⟨w.heap.size, 2, none⟩ (.int .i64 (rdPad n : Nat))) w.heap.size ⟨5, n, (rdPad n : Nat)⟩) := Lib.hid (PlAt.set3 (y := ⟨0, 0, 0⟩) ⟨e0, e1, e2, g0⟩ _ _ _)
      have HW : Hid (Below w.heap.size w (((wR.setCell ⟨w.heap.size, 0, none⟩ (.int .i64 5)).setCell ⟨w.heap.size, 1, none⟩ (.int .i64 n)).setCell ⟨w.heap.size, 2, none⟩ (.int .i64 (rdPad n : Nat)))) := Lib.hid ((((bl_trans (bl_drew1 (HA.out _)) hbR).setCell (Nat.le_refl _) _).setCell (Nat.le_refl _) _).setCell (Nat.le_refl _) _)
      have HG : Hid (w.heap.size ≤ w.heap.size) := Lib.hid (Nat.le_refl _)
      clear e0 e1 e2 g0
      revert HW HP HG
      generalize (((wR.setCell ⟨w.heap.size, 0, none⟩ (.int .i64 5)).setCell ⟨w.heap.size, 1, none⟩ (.int .i64 n)).setCell ⟨w.heap.size, 2, none⟩ (.int .i64 (rdPad n : Nat))) = W2
      intro HP HW HG
      have hb4 : w.heap.size ≤ w.heap.size := Nat.le_refl _
      have lb4 := HP.out.lt
      obtain ⟨p0, p1, p2, pf⟩ := HP.out
      obtain ⟨q1, q2⟩ := HS.out _ HW.out
      obtain ⟨q3, m1, m2, m3⟩ := HS3.out _ HW.out
      simp only at p0 p1 p2
      gi_wp2_with (gi_at_call 14; refine (C.out _ _ (HB.out.trans (HW.out.mono HB.out.size))).mono ?_; rintro e w1 ⟨rfl, hb⟩; obtain ⟨c0, c1, c2, c3⟩ := HP.out.below hb; simp only at c0 c1 c2; have HC := Lib.hid (bl_trans HW.out hb); clear hb)
      go_end0
      exact Z.out _ _ HC.out
  case pos =>
    subst hr
    rw [if_pos rfl] at hO
    have Z : Hid (∀ W' v, Jx [⟨5, n, (rdPad n : Nat)⟩] W' ∨ J [⟨5, n, (rdPad n : Nat)⟩] W' → ItPost (fun xs => xs = ofP p n 5) (fun pre => pre <+: ofP p n 5) J Jx (.returned v) W') := Lib.hid fun W' v hb => ⟨⟨_, rfl⟩, by
      rcases hb with hb | hb
      · exact .inr ⟨_, by rw [hO]; exact List.prefix_refl _, hb⟩
      · exact .inl ⟨_, hO.symm, hb⟩⟩
    have HY1 := Lib.hid (fun W h => yieldAt_any (m' := 4) (HY.out [] ⟨5, n, (rdPad n : Nat)⟩ W h (by rw [hO]; exact List.prefix_refl _)))
    clear hO HY
    refine (callsIn_wide (n := 5)).1 (callsIn_of_wp Tryz.func116 rfl trivial ?_ rfl)
    simp only [Tryz.ntmps116, List.size_toArray, List.length_cons, List.length_nil, Nat.reduceAdd, Nat.reduceSub, Array.replicate_succ, Array.replicate_zero, List.push_toArray, List.append_toArray, List.nil_append, List.cons_append]
    gi_wp2_with fail
    refine wpIn_wide.2 ?_
    go_region_held3 (fun W => W.cell? ⟨b1, 0, none⟩ = some (.int .i64 5) ∧ W.cell? ⟨b2, 0, none⟩ = some (.int .i64 n)) (first | exact ⟨K1, K2⟩ | exact HS.out _ HD.out | exact HS.out _ (bl_trans HD.out hbR) | exact HS.out _ (bl_trans (bl_trans HD.out hbR) ((Below.refl _ _).alloc (Nat.le_refl _) _)) | exact HS.out _ (bl_drew1 (HA.out _)) | exact HS.out _ (bl_trans (bl_drew1 (HA.out _)) hbR) | exact HS.out _ ((((bl_trans (bl_drew1 (HA.out _)) hbR).setCell (Nat.le_refl _) _).setCell (Nat.le_refl _) _).setCell (Nat.le_refl _) _)) (first | (go_at_call 109; ((with_reducible refine (R2.out _).mono ?_); rintro e wR ⟨rfl, hbR⟩; (first | (have HH := HN.out wR (by exact hbR); obtain ⟨e0, e1, e2, g0⟩ := HH) | skip))))
    · have HW : Hid (Below w.heap.size w (wR.alloc (.cells #[.int .i64 5, .int .i64 n, .int .i64 (rdPad n : Nat)] 36))) := Lib.hid (bl_trans (bl_trans HD.out hbR) ((Below.refl _ _).alloc (Nat.le_refl _) _))
      have HP : Hid (PlAt (wR.alloc (.cells #[.int .i64 5, .int .i64 n, .int .i64 (rdPad n : Nat)] 36)) wR.heap.size ⟨5, n, (rdPad n : Nat)⟩) := Lib.hid (PlAt.new _ _ _ _ _)
      have HG : Hid (w.heap.size ≤ wR.heap.size) := Lib.hid (bl_trans HD.out hbR).size
      revert HW HP HG
      generalize wR.alloc (.cells #[.int .i64 5, .int .i64 n, .int .i64 (rdPad n : Nat)] 36) = W2
      generalize wR.heap.size = b4
      intro HW HP HG
      have hb4 : w.heap.size ≤ b4 := HG.out
      have lb4 := HP.out.lt
      obtain ⟨p0, p1, p2, pf⟩ := HP.out
      obtain ⟨q1, q2⟩ := HS.out _ HW.out
      obtain ⟨q3, m1, m2, m3⟩ := HS3.out _ HW.out
      simp only at p0 p1 p2
      gi_wp2_with (gi_at_call 14; refine (C.out _ _ (HB.out.trans (HW.out.mono HB.out.size))).mono ?_; rintro e w1 ⟨rfl, hb⟩; obtain ⟨c0, c1, c2, c3⟩ := HP.out.below hb; simp only at c0 c1 c2; have HC := Lib.hid (bl_trans HW.out hb); clear hb; obtain ⟨fn, tmps, assign, body, hy, hR⟩ := HY1.out w1 (HJ.out _ (grown_below HC.out _)))
      refine hR.mono ?_
      rintro e W3 (⟨rfl, hJ3⟩ | ⟨rfl, hJ3⟩)
      · have ZZ := Lib.hid (fun v => Z.out W3 v (.inr hJ3))
        clear hJ3
        gi_wp2
        go_end0
        exact ZZ.out _
      · have ZZ := Lib.hid (fun v => Z.out W3 v (.inl hJ3))
        clear hJ3
        gi_wp2
        go_end0
        exact ZZ.out _
    · have HP : Hid (PlAt (((wR.setCell ⟨w.heap.size, 0, none⟩ (.int .i64 5)).setCell ⟨w.heap.size, 1, none⟩ (.int .i64 n)).setCell ⟨w.heap.size, 2, none⟩ (.int .i64 (rdPad n : Nat))) w.heap.size ⟨5, n, (rdPad n : Nat)⟩) := Lib.hid (PlAt.set3 (y := ⟨0, 0, 0⟩) ⟨e0, e1, e2, g0⟩ _ _ _)
      have HW : Hid (Below w.heap.size w (((wR.setCell ⟨w.heap.size, 0, none⟩ (.int .i64 5)).setCell ⟨w.heap.size, 1, none⟩ (.int .i64 n)).setCell ⟨w.heap.size, 2, none⟩ (.int .i64 (rdPad n : Nat)))) := Lib.hid ((((bl_trans (bl_drew1 (HA.out _)) hbR).setCell (Nat.le_refl _) _).setCell (Nat.le_refl _) _).setCell (Nat.le_refl _) _)
      have HG : Hid (w.heap.size ≤ w.heap.size) := Lib.hid (Nat.le_refl _)
      clear e0 e1 e2 g0
      revert HW HP HG
      generalize (((wR.setCell ⟨w.heap.size, 0, none⟩ (.int .i64 5)).setCell ⟨w.heap.size, 1, none⟩ (.int .i64 n)).setCell ⟨w.heap.size, 2, none⟩ (.int .i64 (rdPad n : Nat))) = W2
      intro HP HW HG
      have hb4 : w.heap.size ≤ w.heap.size := Nat.le_refl _
      have lb4 := HP.out.lt
      obtain ⟨p0, p1, p2, pf⟩ := HP.out
      obtain ⟨q1, q2⟩ := HS.out _ HW.out
      obtain ⟨q3, m1, m2, m3⟩ := HS3.out _ HW.out
      simp only at p0 p1 p2
      gi_wp2_with (gi_at_call 14; refine (C.out _ _ (HB.out.trans (HW.out.mono HB.out.size))).mono ?_; rintro e w1 ⟨rfl, hb⟩; obtain ⟨c0, c1, c2, c3⟩ := HP.out.below hb; simp only at c0 c1 c2; have HC := Lib.hid (bl_trans HW.out hb); clear hb; obtain ⟨fn, tmps, assign, body, hy, hR⟩ := HY1.out w1 (HJ.out _ (grown_below HC.out _)))
      refine hR.mono ?_
      rintro e W3 (⟨rfl, hJ3⟩ | ⟨rfl, hJ3⟩)
      · have ZZ := Lib.hid (fun v => Z.out W3 v (.inr hJ3))
        clear hJ3
        gi_wp2
        go_end0
        exact ZZ.out _
      · have ZZ := Lib.hid (fun v => Z.out W3 v (.inl hJ3))
        clear hJ3
        gi_wp2
        go_end0
        exact ZZ.out _
set_option maxRecDepth 100000 in
set_option maxHeartbeats 2000000 in
theorem of1_an (w0 : World) (o : Option Addr) (p g : Nat) (n : Int) (hf : FdO w0 o p g) (hp : p ≠ 0) (w : World) (b1 b2 b3 : Nat)
    (hB : Below w0.heap.size w0 w) (k1 : Boxed w b1 34 (.int .i64 6)) (k2 : Boxed w b2 3 (.int .i64 n)) (k3 : Boxed w b3 29 (.pointer o)) (l : Nat) (J Jx : List Pl → World → Prop)
    (hJ : OwnFrom w.heap.size J) (h0 : J [] w) (hY : ∀ pre x W, J pre W → pre ++ [x] <+: ofP p n 6 → YieldAt Fence.wide 0 Tryz.prog l #[plV x] W fun e W' => (e = .returned (.bool true) ∧ J (pre ++ [x]) W') ∨ (e = .returned (.bool false) ∧ Jx (pre ++ [x]) W')) :
    Calls Tryz.prog 116 #[.func (.yield l) #[] #[], .pointer (some ⟨b1, 0, none⟩), .pointer (some ⟨b2, 0, none⟩), .pointer (some ⟨b3, 0, none⟩)] w (ItPost (fun xs => xs = ofP p n 6) (fun pre => pre <+: ofP p n 6) J Jx) := by
  have HA : Hid (∀ ob : Obj, Below w.heap.size w (w.alloc ob)) := Lib.hid fun ob => (Below.refl _ _).alloc (Nat.le_refl _) _
  have HB := Lib.hid hB
  have tw : ∀ f, Fence.wide.fn f := fun _ => trivial
  have hF : ftF p ⟨6, n, (chPad n : Nat)⟩ = fitsF p ⟨6, n, (chPad n : Nat)⟩ := if_neg hp
  have C := Lib.hid (fun m W (hb : Below w0.heap.size w0 W) => (callsIn_wide (n := m)).2 (pfits_any o p g ⟨6, n, (chPad n : Nat)⟩ W (hf.below hb)))
  simp only [hF] at C
  have K1 := k1.cell
  have K2 := k2.cell
  have K3 := k3.cell
  have l1 := k1.lt
  have l2 := k2.lt
  have l3 := k3.lt
  have HY := Lib.hid hY
  have R := Lib.hid (fun m W => (callsIn_wide (n := m)).2 (rdpad_any n W))
  have HJ := Lib.hid (fun W' (hg : w.grownBy W' none) => hJ [] w W' none h0 hg (fun r e => by cases e))
  have hO : ofP p n 6 = if fitsF p ⟨6, n, (chPad n : Nat)⟩ = 0 then [⟨6, n, (chPad n : Nat)⟩] else [] := by
    unfold ofP tryP
    rw [if_neg (by omega), if_neg (by omega), if_pos rfl]
    by_cases h : fitsF p ⟨6, n, (chPad n : Nat)⟩ = 0 <;> simp [h]
  unfold plV at C HY
  obtain ⟨r, er⟩ : ∃ r, fitsF p ⟨6, n, (chPad n : Nat)⟩ = r := ⟨_, rfl⟩
  rw [er] at hO
  simp only [er] at C
  clear hY hJ hF er h0 hB hf k1 k2 k3
  have HS : Hid (∀ W, Below w.heap.size w W → W.cell? ⟨b1, 0, none⟩ = some (.int .i64 6) ∧ W.cell? ⟨b2, 0, none⟩ = some (.int .i64 n)) := Lib.hid fun W hb => ⟨(hb.cell (p := ⟨b1, 0, none⟩) l1).trans K1, (hb.cell (p := ⟨b2, 0, none⟩) l2).trans K2⟩
  have HN : Hid (∀ W, Below (w.alloc (.cells #[.int .i64 0, .int .i64 0, .int .i64 0] 36)).drew.heap.size (w.alloc (.cells #[.int .i64 0, .int .i64 0, .int .i64 0] 36)).drew W → W.cell? ⟨w.heap.size, 0, none⟩ = some (.int .i64 0) ∧ W.cell? ⟨w.heap.size, 1, none⟩ = some (.int .i64 0) ∧ W.cell? ⟨w.heap.size, 2, none⟩ = some (.int .i64 0) ∧ ∀ j, W.frozen? ⟨w.heap.size, j, none⟩ = false) := Lib.hid fun W hb => by
    have hlt : w.heap.size < (w.alloc (.cells #[.int .i64 0, .int .i64 0, .int .i64 0] 36)).drew.heap.size := by show w.heap.size < (w.alloc _).heap.size; simp
    exact ⟨(hb.cell (p := ⟨w.heap.size, 0, none⟩) hlt).trans (show (w.alloc _).cell? _ = _ from World.cell?_alloc_at _ _ _ _ rfl), (hb.cell (p := ⟨w.heap.size, 1, none⟩) hlt).trans (show (w.alloc _).cell? _ = _ from World.cell?_alloc_at _ _ _ _ rfl), (hb.cell (p := ⟨w.heap.size, 2, none⟩) hlt).trans (show (w.alloc _).cell? _ = _ from World.cell?_alloc_at _ _ _ _ rfl), fun j => (hb.frozen (p := ⟨w.heap.size, j, none⟩) hlt).trans (show (w.alloc _).frozen? _ = _ from World.frozen?_alloc_at _ _ _ _ rfl)⟩
  have CH := Lib.hid (fun m W => (callsIn_wide (n := m)).2 (chpad_any n W))
  have R2 := Lib.hid (fun W => rdpad_any n W)
  have HS3 : Hid (∀ W, Below w.heap.size w W → W.cell? ⟨b3, 0, none⟩ = some (.pointer o) ∧ b1 < W.heap.size ∧ b2 < W.heap.size ∧ b3 < W.heap.size) := Lib.hid fun W hb => ⟨(hb.cell (p := ⟨b3, 0, none⟩) l3).trans K3, by have := hb.size; omega, by have := hb.size; omega, by have := hb.size; omega⟩
  have HD : Hid (Below w.heap.size w w.drew) := Lib.hid (bl_drew1 (Below.refl _ _))
  by_cases hr : r = 0
  case neg =>
    have t0 : ((r : Int) == 0) = false := by rw [beq_eq_false_iff_ne]; omega
    rw [if_neg hr] at hO
    have Z : Hid (∀ W' v, Below w.heap.size w W' → ItPost (fun xs => xs = ofP p n 6) (fun pre => pre <+: ofP p n 6) J Jx (.returned v) W') := Lib.hid fun W' v hb => ⟨⟨_, rfl⟩, .inl ⟨[], hO.symm, HJ.out _ (grown_below hb _)⟩⟩
    clear hO hr HY HJ
    refine (callsIn_wide (n := 5)).1 (callsIn_of_wp Tryz.func116 rfl trivial ?_ rfl)
    simp only [Tryz.ntmps116, List.size_toArray, List.length_cons, List.length_nil, Nat.reduceAdd, Nat.reduceSub, Array.replicate_succ, Array.replicate_zero, List.push_toArray, List.append_toArray, List.nil_append, List.cons_append]
    gi_wp2_with fail
    refine wpIn_wide.2 ?_
    go_region_held3 (fun W => W.cell? ⟨b1, 0, none⟩ = some (.int .i64 6) ∧ W.cell? ⟨b2, 0, none⟩ = some (.int .i64 n)) (first | exact ⟨K1, K2⟩ | exact HS.out _ HD.out | exact HS.out _ (bl_trans HD.out hbR) | exact HS.out _ (bl_trans (bl_trans HD.out hbR) ((Below.refl _ _).alloc (Nat.le_refl _) _)) | exact HS.out _ (bl_drew1 (HA.out _)) | exact HS.out _ (bl_trans (bl_drew1 (HA.out _)) hbR) | exact HS.out _ ((((bl_trans (bl_drew1 (HA.out _)) hbR).setCell (Nat.le_refl _) _).setCell (Nat.le_refl _) _).setCell (Nat.le_refl _) _)) (first | (go_at_call 109; ((with_reducible refine (R2.out _).mono ?_); rintro e wR ⟨rfl, hbR⟩; (first | (have HH := HN.out wR (by exact hbR); obtain ⟨e0, e1, e2, g0⟩ := HH) | skip))))
    · have HW : Hid (Below w.heap.size w (wR.alloc (.cells #[.int .i64 6, .int .i64 n, .int .i64 (rdPad n : Nat)] 36))) := Lib.hid (bl_trans (bl_trans HD.out hbR) ((Below.refl _ _).alloc (Nat.le_refl _) _))
      have HP : Hid (PlAt (wR.alloc (.cells #[.int .i64 6, .int .i64 n, .int .i64 (rdPad n : Nat)] 36)) wR.heap.size ⟨6, n, (rdPad n : Nat)⟩) := Lib.hid (PlAt.new _ _ _ _ _)
      have HG : Hid (w.heap.size ≤ wR.heap.size) := Lib.hid (bl_trans HD.out hbR).size
      revert HW HP HG
      generalize wR.alloc (.cells #[.int .i64 6, .int .i64 n, .int .i64 (rdPad n : Nat)] 36) = W2
      generalize wR.heap.size = b4
      intro HW HP HG
      have hb4 : w.heap.size ≤ b4 := HG.out
      have lb4 := HP.out.lt
      obtain ⟨p0, p1, p2, pf⟩ := HP.out
      obtain ⟨q1, q2⟩ := HS.out _ HW.out
      obtain ⟨q3, m1, m2, m3⟩ := HS3.out _ HW.out
      simp only at p0 p1 p2
      have n1 : b1 ≠ b4 := by omega
      have n2 : b2 ≠ b4 := by omega
      have n3 : b3 ≠ b4 := by omega
      have HW' : Hid (Below w.heap.size w (W2.setCell ⟨b4, 2, none⟩ (.int .i64 (chPad n : Nat)))) := Lib.hid (HW.out.setCell hb4 _)
      have HP' : Hid (PlAt (W2.setCell ⟨b4, 2, none⟩ (.int .i64 (chPad n : Nat))) b4 ⟨6, n, (chPad n : Nat)⟩) := Lib.hid (HP.out.set2 _)
      gi_wp2_with (first | (gi_at_call 110; refine (CH.out _ _).mono ?_; rintro e w' ⟨rfl, rfl⟩) | (gi_at_call 14; revert HW' HP'; generalize W2.setCell ⟨b4, 2, none⟩ (.int .i64 (chPad n : Nat)) = W3; intro HW' HP'; refine (C.out _ _ (HB.out.trans (HW'.out.mono HB.out.size))).mono ?_; rintro e w1 ⟨rfl, hb⟩; obtain ⟨c0, c1, c2, c3⟩ := HP'.out.below hb; simp only at c0 c1 c2; have HC := Lib.hid (bl_trans HW'.out hb); clear hb))
      go_end0
      exact Z.out _ _ HC.out
    · have HP : Hid (PlAt (((wR.setCell ⟨w.heap.size, 0, none⟩ (.int .i64 6)).setCell ⟨w.heap.size, 1, none⟩ (.int .i64 n)).setCell ⟨w.heap.size, 2, none⟩ (.int .i64 (rdPad n : Nat))) w.heap.size ⟨6, n, (rdPad n : Nat)⟩) := Lib.hid (PlAt.set3 (y := ⟨0, 0, 0⟩) ⟨e0, e1, e2, g0⟩ _ _ _)
      have HW : Hid (Below w.heap.size w (((wR.setCell ⟨w.heap.size, 0, none⟩ (.int .i64 6)).setCell ⟨w.heap.size, 1, none⟩ (.int .i64 n)).setCell ⟨w.heap.size, 2, none⟩ (.int .i64 (rdPad n : Nat)))) := Lib.hid ((((bl_trans (bl_drew1 (HA.out _)) hbR).setCell (Nat.le_refl _) _).setCell (Nat.le_refl _) _).setCell (Nat.le_refl _) _)
      have HG : Hid (w.heap.size ≤ w.heap.size) := Lib.hid (Nat.le_refl _)
      clear e0 e1 e2 g0
      revert HW HP HG
      generalize (((wR.setCell ⟨w.heap.size, 0, none⟩ (.int .i64 6)).setCell ⟨w.heap.size, 1, none⟩ (.int .i64 n)).setCell ⟨w.heap.size, 2, none⟩ (.int .i64 (rdPad n : Nat))) = W2
      intro HP HW HG
      have hb4 : w.heap.size ≤ w.heap.size := Nat.le_refl _
      have lb4 := HP.out.lt
      obtain ⟨p0, p1, p2, pf⟩ := HP.out
      obtain ⟨q1, q2⟩ := HS.out _ HW.out
      obtain ⟨q3, m1, m2, m3⟩ := HS3.out _ HW.out
      simp only at p0 p1 p2
      have n1 : b1 ≠ w.heap.size := by omega
      have n2 : b2 ≠ w.heap.size := by omega
      have n3 : b3 ≠ w.heap.size := by omega
      have HW' : Hid (Below w.heap.size w (W2.setCell ⟨w.heap.size, 2, none⟩ (.int .i64 (chPad n : Nat)))) := Lib.hid (HW.out.setCell hb4 _)
      have HP' : Hid (PlAt (W2.setCell ⟨w.heap.size, 2, none⟩ (.int .i64 (chPad n : Nat))) w.heap.size ⟨6, n, (chPad n : Nat)⟩) := Lib.hid (HP.out.set2 _)
      gi_wp2_with (first | (gi_at_call 110; refine (CH.out _ _).mono ?_; rintro e w' ⟨rfl, rfl⟩) | (gi_at_call 14; revert HW' HP'; generalize W2.setCell ⟨w.heap.size, 2, none⟩ (.int .i64 (chPad n : Nat)) = W3; intro HW' HP'; refine (C.out _ _ (HB.out.trans (HW'.out.mono HB.out.size))).mono ?_; rintro e w1 ⟨rfl, hb⟩; obtain ⟨c0, c1, c2, c3⟩ := HP'.out.below hb; simp only at c0 c1 c2; have HC := Lib.hid (bl_trans HW'.out hb); clear hb))
      go_end0
      exact Z.out _ _ HC.out
  case pos =>
    subst hr
    rw [if_pos rfl] at hO
    have Z : Hid (∀ W' v, Jx [⟨6, n, (chPad n : Nat)⟩] W' ∨ J [⟨6, n, (chPad n : Nat)⟩] W' → ItPost (fun xs => xs = ofP p n 6) (fun pre => pre <+: ofP p n 6) J Jx (.returned v) W') := Lib.hid fun W' v hb => ⟨⟨_, rfl⟩, by
      rcases hb with hb | hb
      · exact .inr ⟨_, by rw [hO]; exact List.prefix_refl _, hb⟩
      · exact .inl ⟨_, hO.symm, hb⟩⟩
    have HY1 := Lib.hid (fun W h => yieldAt_any (m' := 4) (HY.out [] ⟨6, n, (chPad n : Nat)⟩ W h (by rw [hO]; exact List.prefix_refl _)))
    clear hO HY
    refine (callsIn_wide (n := 5)).1 (callsIn_of_wp Tryz.func116 rfl trivial ?_ rfl)
    simp only [Tryz.ntmps116, List.size_toArray, List.length_cons, List.length_nil, Nat.reduceAdd, Nat.reduceSub, Array.replicate_succ, Array.replicate_zero, List.push_toArray, List.append_toArray, List.nil_append, List.cons_append]
    gi_wp2_with fail
    refine wpIn_wide.2 ?_
    go_region_held3 (fun W => W.cell? ⟨b1, 0, none⟩ = some (.int .i64 6) ∧ W.cell? ⟨b2, 0, none⟩ = some (.int .i64 n)) (first | exact ⟨K1, K2⟩ | exact HS.out _ HD.out | exact HS.out _ (bl_trans HD.out hbR) | exact HS.out _ (bl_trans (bl_trans HD.out hbR) ((Below.refl _ _).alloc (Nat.le_refl _) _)) | exact HS.out _ (bl_drew1 (HA.out _)) | exact HS.out _ (bl_trans (bl_drew1 (HA.out _)) hbR) | exact HS.out _ ((((bl_trans (bl_drew1 (HA.out _)) hbR).setCell (Nat.le_refl _) _).setCell (Nat.le_refl _) _).setCell (Nat.le_refl _) _)) (first | (go_at_call 109; ((with_reducible refine (R2.out _).mono ?_); rintro e wR ⟨rfl, hbR⟩; (first | (have HH := HN.out wR (by exact hbR); obtain ⟨e0, e1, e2, g0⟩ := HH) | skip))))
    · have HW : Hid (Below w.heap.size w (wR.alloc (.cells #[.int .i64 6, .int .i64 n, .int .i64 (rdPad n : Nat)] 36))) := Lib.hid (bl_trans (bl_trans HD.out hbR) ((Below.refl _ _).alloc (Nat.le_refl _) _))
      have HP : Hid (PlAt (wR.alloc (.cells #[.int .i64 6, .int .i64 n, .int .i64 (rdPad n : Nat)] 36)) wR.heap.size ⟨6, n, (rdPad n : Nat)⟩) := Lib.hid (PlAt.new _ _ _ _ _)
      have HG : Hid (w.heap.size ≤ wR.heap.size) := Lib.hid (bl_trans HD.out hbR).size
      revert HW HP HG
      generalize wR.alloc (.cells #[.int .i64 6, .int .i64 n, .int .i64 (rdPad n : Nat)] 36) = W2
      generalize wR.heap.size = b4
      intro HW HP HG
      have hb4 : w.heap.size ≤ b4 := HG.out
      have lb4 := HP.out.lt
      obtain ⟨p0, p1, p2, pf⟩ := HP.out
      obtain ⟨q1, q2⟩ := HS.out _ HW.out
      obtain ⟨q3, m1, m2, m3⟩ := HS3.out _ HW.out
      simp only at p0 p1 p2
      have n1 : b1 ≠ b4 := by omega
      have n2 : b2 ≠ b4 := by omega
      have n3 : b3 ≠ b4 := by omega
      have HW' : Hid (Below w.heap.size w (W2.setCell ⟨b4, 2, none⟩ (.int .i64 (chPad n : Nat)))) := Lib.hid (HW.out.setCell hb4 _)
      have HP' : Hid (PlAt (W2.setCell ⟨b4, 2, none⟩ (.int .i64 (chPad n : Nat))) b4 ⟨6, n, (chPad n : Nat)⟩) := Lib.hid (HP.out.set2 _)
      gi_wp2_with (first | (gi_at_call 110; refine (CH.out _ _).mono ?_; rintro e w' ⟨rfl, rfl⟩) | (gi_at_call 14; revert HW' HP'; generalize W2.setCell ⟨b4, 2, none⟩ (.int .i64 (chPad n : Nat)) = W3; intro HW' HP'; refine (C.out _ _ (HB.out.trans (HW'.out.mono HB.out.size))).mono ?_; rintro e w1 ⟨rfl, hb⟩; obtain ⟨c0, c1, c2, c3⟩ := HP'.out.below hb; simp only at c0 c1 c2; have HC := Lib.hid (bl_trans HW'.out hb); clear hb; obtain ⟨fn, tmps, assign, body, hy, hR⟩ := HY1.out w1 (HJ.out _ (grown_below HC.out _))))
      refine hR.mono ?_
      rintro e W3 (⟨rfl, hJ3⟩ | ⟨rfl, hJ3⟩)
      · have ZZ := Lib.hid (fun v => Z.out W3 v (.inr hJ3))
        clear hJ3
        gi_wp2
        go_end0
        exact ZZ.out _
      · have ZZ := Lib.hid (fun v => Z.out W3 v (.inl hJ3))
        clear hJ3
        gi_wp2
        go_end0
        exact ZZ.out _
    · have HP : Hid (PlAt (((wR.setCell ⟨w.heap.size, 0, none⟩ (.int .i64 6)).setCell ⟨w.heap.size, 1, none⟩ (.int .i64 n)).setCell ⟨w.heap.size, 2, none⟩ (.int .i64 (rdPad n : Nat))) w.heap.size ⟨6, n, (rdPad n : Nat)⟩) := Lib.hid (PlAt.set3 (y := ⟨0, 0, 0⟩) ⟨e0, e1, e2, g0⟩ _ _ _)
      have HW : Hid (Below w.heap.size w (((wR.setCell ⟨w.heap.size, 0, none⟩ (.int .i64 6)).setCell ⟨w.heap.size, 1, none⟩ (.int .i64 n)).setCell ⟨w.heap.size, 2, none⟩ (.int .i64 (rdPad n : Nat)))) := Lib.hid ((((bl_trans (bl_drew1 (HA.out _)) hbR).setCell (Nat.le_refl _) _).setCell (Nat.le_refl _) _).setCell (Nat.le_refl _) _)
      have HG : Hid (w.heap.size ≤ w.heap.size) := Lib.hid (Nat.le_refl _)
      clear e0 e1 e2 g0
      revert HW HP HG
      generalize (((wR.setCell ⟨w.heap.size, 0, none⟩ (.int .i64 6)).setCell ⟨w.heap.size, 1, none⟩ (.int .i64 n)).setCell ⟨w.heap.size, 2, none⟩ (.int .i64 (rdPad n : Nat))) = W2
      intro HP HW HG
      have hb4 : w.heap.size ≤ w.heap.size := Nat.le_refl _
      have lb4 := HP.out.lt
      obtain ⟨p0, p1, p2, pf⟩ := HP.out
      obtain ⟨q1, q2⟩ := HS.out _ HW.out
      obtain ⟨q3, m1, m2, m3⟩ := HS3.out _ HW.out
      simp only at p0 p1 p2
      have n1 : b1 ≠ w.heap.size := by omega
      have n2 : b2 ≠ w.heap.size := by omega
      have n3 : b3 ≠ w.heap.size := by omega
      have HW' : Hid (Below w.heap.size w (W2.setCell ⟨w.heap.size, 2, none⟩ (.int .i64 (chPad n : Nat)))) := Lib.hid (HW.out.setCell hb4 _)
      have HP' : Hid (PlAt (W2.setCell ⟨w.heap.size, 2, none⟩ (.int .i64 (chPad n : Nat))) w.heap.size ⟨6, n, (chPad n : Nat)⟩) := Lib.hid (HP.out.set2 _)
      gi_wp2_with (first | (gi_at_call 110; refine (CH.out _ _).mono ?_; rintro e w' ⟨rfl, rfl⟩) | (gi_at_call 14; revert HW' HP'; generalize W2.setCell ⟨w.heap.size, 2, none⟩ (.int .i64 (chPad n : Nat)) = W3; intro HW' HP'; refine (C.out _ _ (HB.out.trans (HW'.out.mono HB.out.size))).mono ?_; rintro e w1 ⟨rfl, hb⟩; obtain ⟨c0, c1, c2, c3⟩ := HP'.out.below hb; simp only at c0 c1 c2; have HC := Lib.hid (bl_trans HW'.out hb); clear hb; obtain ⟨fn, tmps, assign, body, hy, hR⟩ := HY1.out w1 (HJ.out _ (grown_below HC.out _))))
      refine hR.mono ?_
      rintro e W3 (⟨rfl, hJ3⟩ | ⟨rfl, hJ3⟩)
      · have ZZ := Lib.hid (fun v => Z.out W3 v (.inr hJ3))
        clear hJ3
        gi_wp2
        go_end0
        exact ZZ.out _
      · have ZZ := Lib.hid (fun v => Z.out W3 v (.inl hJ3))
        clear hJ3
        gi_wp2
        go_end0
        exact ZZ.out _
end Go.Proofs.YtbokindcnkknmaaGreat
