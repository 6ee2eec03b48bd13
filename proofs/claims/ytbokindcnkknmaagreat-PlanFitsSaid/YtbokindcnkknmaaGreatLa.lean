/- What the statements of layer 18 begin with; PlanFits. -/
import Derived.Test.YtbokindcnkknmaaGreatRg
import Derived.Test.YtbokindcnkknmaaGreatDm
set_option linter.unusedVariables false
namespace Go.Proofs.YtbokindcnkknmaaGreat
open Go.RowKit Epi
theorem odd_17 : OddP 17 := by
  refine ⟨by omega, by omega, (pr_iff (by omega)).mpr fun d h1 h2 h3 => ?_⟩
  have h4 : d ≤ 4 := Nat.le_of_not_lt fun h => by
    have := Nat.mul_le_mul (show 5 ≤ d by omega) (show 5 ≤ d by omega)
    omega
  have h5 := Nat.mod_eq_zero_of_dvd h3
  rcases (show d = 2 ∨ d = 3 ∨ d = 4 by omega) with rfl | rfl | rfl <;> omega
theorem results_one {fn : Func} {p : Tmp} {ty : TypeId} (h : fn.results = #[.cell p ty]) (tmps : Array Value) (P : Program) (w : World) :
    (results fn tmps).run P w = ((asAddr (tmps.getD p undef)).run P w).andThen fun a w₁ => (loadVar ty a).run P w₁ := by
  simp only [results, h]
  simp [Sem.run_bind, Result.andThen]
theorem ck_17 : ckO 17 16 = 0 := by
  unfold ckO ckF
  decide
theorem chO_17 : chO 17 16 (-1) = ⟨2, 16, 0⟩ ∧ chE 17 16 (-1) = 0 := by
  have h : bestP (-1) (allO 17 16) = some ⟨2, 16, 0⟩ := best_16
  constructor
  · unfold chO
    rw [h]
    rfl
  · unfold chE
    rw [if_neg (by rw [ck_17]; decide), h]
set_option maxRecDepth 100000 in
set_option maxHeartbeats 2000000 in
theorem alive18_any (w : World) : Calls Tryz.prog 12 #[] w fun e w' => e = .returned (.bool true) ∧ Below w.heap.size w w' := by
  have C1 := Lib.hid (fun W => fsmall_any 17 W (by omega))
  have C2 := Lib.hid (fun (o : Option Addr) (g : Nat) W (h : FdO W o 17 g) => choose_any o 17 g 16 (-1) W h)
  unfold ChPost at C2
  simp only [chO_17.1, chO_17.2] at C2
  have C3 := Lib.hid (fun x W => cost_any x W)
  obtain ⟨c0, c1, c2, c3⟩ := cost_16
  unfold plV at C2 C3
  simp only at C2
  go_enter Tryz.func12, Tryz.ntmps12
  go_wp2_with fail
  refine (C1.out _).mono ?_
  rintro e w1 ⟨hb1, (⟨-, b, g, -, hf, rfl⟩ | ⟨hc, -⟩)⟩
  case inr => exact absurd odd_17 hc
  have H1 := Lib.hid hb1
  have HF := Lib.hid hf
  clear hb1 hf
  go_wp2_with fail
  refine (C2.out _ g _ (.inr ⟨b, HF.out, rfl⟩)).mono ?_
  rintro e w2 ⟨rfl, hb2⟩
  have H2 := Lib.hid (bl_trans H1.out hb2)
  clear hb2
  have HA : Hid (∀ ob : Obj, Below w.heap.size w (w2.alloc ob)) := Lib.hid fun ob => H2.out.alloc H2.out.size _
  go_wp2_with fail
  refine (C3.out ⟨2, 16, 0⟩ _).mono ?_
  rw [c2]
  rintro e w3 ⟨rfl, hb3⟩
  have H3 := Lib.hid ((HA.out _).trans (hb3.mono (HA.out _).size))
  clear hb3
  go_wp2_with fail
  refine (C3.out ⟨1, 16, 0⟩ _).mono ?_
  rw [c1]
  rintro e w4 ⟨rfl, hb4⟩
  have H4 := Lib.hid (bl_trans H3.out hb4)
  clear hb4
  go_wp2_with fail
  go_ret
  exact ⟨rfl, H4.out⟩
set_option maxRecDepth 100000 in
set_option maxHeartbeats 1000000 in
theorem of18_any (x : Pl) (w : World) : Calls Tryz.prog 15 #[plV x] w fun e w' => e = .returned (plV x) ∧ Below w.heap.size w w' := by
  obtain ⟨k, n, a⟩ := x
  unfold plV
  go_enter Tryz.func15, Tryz.ntmps15
  go_wp2_with fail
  refine bodyPost_ret (v := .agg #[.int .i64 k, .int .i64 n, .int .i64 a]) ?_ rfl ?_
  · rw [results_one rfl]
    simp [go_sem, *]
  · exact ⟨rfl, ((Below.refl _ _).alloc (Nat.le_refl _) _).alloc (by simp) _⟩
def PfPost (w : World) (e : Ending) (w' : World) : Prop := e = .returned (.bool true) ∧ Below w.heap.size w w'
set_option maxRecDepth 100000 in
set_option maxHeartbeats 2000000 in
theorem planFits_any (k K : Int) (P : Nat) (L : List Ent) (v : Value) (x : Pl) (w : World) (hv : RdEnt w v L) (hP : P < 18446744073709551616) (hF : ∀ x ∈ L, x.F.length * 16 ≤ 140737488351232) :
    Calls Tryz.prog 3 #[.agg #[.int .i64 k, .int .i64 K, .int .u64 P, v], plV x] w (PfPost w) := by
  obtain ⟨A, m, c, rfl⟩ : ∃ A m c, v = .slice A m c := by
    obtain ⟨-, -, A, c, e, -⟩ := hv
    exact ⟨A, _, c, e⟩
  obtain ⟨xk, xn, xa⟩ := x
  have HB0 : Hid (∀ o : Obj, Below w.heap.size w (w.alloc o)) := Lib.hid fun o => (Below.refl _ _).alloc (Nat.le_refl _) _
  have C1 := Lib.hid (fun W => alive18_any W)
  have C2 := Lib.hid (fun W (hb : Below w.heap.size w W) => made18_any k K P L (.slice A m c) W (hv.below hb) hP hF)
  have C3 := Lib.hid (fun W => of18_any ⟨xk, xn, xa⟩ W)
  have C4 := Lib.hid (fun o p g W (h : FdO W o p g) => pfits_any o p g ⟨xk, xn, xa⟩ W h)
  have C5 := Lib.hid (fun W => cost_any ⟨xk, xn, xa⟩ W)
  have C6 := Lib.hid (fun W => rcost_any ⟨xk, xn, xa⟩ W)
  have C7 := Lib.hid (fun p W hp hp' => rfits18_any p ⟨xk, xn, xa⟩ W hp hp')
  unfold MdPost at C2
  unfold plV at C3 C4 C5 C6 C7 ⊢
  simp only at C3 C4 C5 C6 C7 ⊢
  obtain ⟨cc, ecc⟩ : ∃ cc, costF ⟨xk, xn, xa⟩ = cc := ⟨_, rfl⟩
  simp only [ecc] at C5 C6
  clear hv hP hF ecc
  go_enter Tryz.func3, Tryz.ntmps3
  have HW0 : Hid (∀ W, Below ((w.alloc (.cells #[.int .i64 k, .int .i64 K, .int .u64 P, .slice A m c] 25)).alloc (.cells #[.int .i64 xk, .int .i64 xn, .int .i64 xa] 27)).heap.size ((w.alloc (.cells #[.int .i64 k, .int .i64 K, .int .u64 P, .slice A m c] 25)).alloc (.cells #[.int .i64 xk, .int .i64 xn, .int .i64 xa] 27)) W → (W.cell? ⟨w.heap.size, 0, none⟩ = some (.int .i64 k) ∧ W.cell? ⟨w.heap.size, 1, none⟩ = some (.int .i64 K) ∧ W.cell? ⟨w.heap.size, 2, none⟩ = some (.int .u64 P) ∧ W.cell? ⟨w.heap.size, 3, none⟩ = some (.slice A m c)) ∧ PlAt W (w.heap.size + 1) ⟨xk, xn, xa⟩ ∧ Below w.heap.size w W ∧ w.heap.size < W.heap.size ∧ w.heap.size + 1 < W.heap.size) := Lib.hid fun W hb => by
    have hb1 : Below (w.alloc (.cells #[.int .i64 k, .int .i64 K, .int .u64 P, .slice A m c] 25)).heap.size (w.alloc (.cells #[.int .i64 k, .int .i64 K, .int .u64 P, .slice A m c] 25)) W := bl_trans ((Below.refl _ _).alloc (Nat.le_refl _) _) hb
    have hp := (PlAt.new (w.alloc (.cells #[.int .i64 k, .int .i64 K, .int .u64 P, .slice A m c] 25)) xk xn xa 27).below hb
    rw [World.size_alloc] at hp
    exact ⟨⟨(hb1.cell (p := ⟨w.heap.size, 0, none⟩) (by simp)).trans (World.cell?_alloc_at _ _ _ _ rfl), (hb1.cell (p := ⟨w.heap.size, 1, none⟩) (by simp)).trans (World.cell?_alloc_at _ _ _ _ rfl), (hb1.cell (p := ⟨w.heap.size, 2, none⟩) (by simp)).trans (World.cell?_alloc_at _ _ _ _ rfl), (hb1.cell (p := ⟨w.heap.size, 3, none⟩) (by simp)).trans (World.cell?_alloc_at _ _ _ _ rfl)⟩, hp, bl_trans (HB0.out _) hb1, by have := hp.lt; omega, hp.lt⟩
  go_wp2_with fail
  refine (C1.out _).mono ?_
  rintro e w1 ⟨rfl, hb1⟩
  obtain ⟨⟨s0, s1, s2, s3⟩, hp1, hB1, l1, l2⟩ := HW0.out _ hb1
  have HP1 := Lib.hid hp1
  have HB1 := Lib.hid hB1
  clear hb1 hp1 hB1
  go_wp2_with fail
  refine (C2.out _ HB1.out).mono ?_
  rintro e w2 ⟨hb2, p, g, oo, rfl, ho⟩
  have hp2 := HP1.out.below hb2
  obtain ⟨q0, q1, q2, q3⟩ := hp2
  simp only at q0 q1 q2
  have HB2 := Lib.hid (bl_trans HB1.out hb2)
  have HP2 := Lib.hid (HP1.out.below hb2)
  have HO : Hid (FdO w2 oo p g) := Lib.hid ho
  have lq := cell_lt q0
  clear hb2 ho s0 s1 s2 s3 l1 l2
  go_wp2_with fail
  refine (C3.out _).mono ?_
  rintro e w3 ⟨rfl, hb3⟩
  have HP3 := Lib.hid (HP2.out.below hb3)
  have HB3 := Lib.hid (bl_trans HB2.out hb3)
  have HO3 := Lib.hid (HO.out.below hb3)
  clear hb3 q0 q1 q2 q3 lq
  go_wp2_with fail
  refine (C4.out oo p g _ HO3.out).mono ?_
  rintro e w4 ⟨rfl, hb4⟩
  obtain ⟨q0, q1, q2, q3⟩ := HP3.out.below hb4
  simp only at q0 q1 q2
  have HP4 := Lib.hid (HP3.out.below hb4)
  have HB4 := Lib.hid (bl_trans HB3.out hb4)
  have lq := cell_lt q0
  have HS : Hid (∀ W, Below w4.heap.size w4 W → W.cell? ⟨w.heap.size + 1, 0, none⟩ = some (.int .i64 xk) ∧ W.cell? ⟨w.heap.size + 1, 1, none⟩ = some (.int .i64 xn) ∧ W.cell? ⟨w.heap.size + 1, 2, none⟩ = some (.int .i64 xa)) := Lib.hid fun W hb => by
    obtain ⟨a0, a1, a2, a3⟩ := HP4.out.below hb
    exact ⟨a0, a1, a2⟩
  have HD : Hid (Below w4.heap.size w4 w4.drew) := Lib.hid (bl_drew1 (Below.refl _ _))
  clear hb4
  obtain ⟨ft, eft⟩ : ∃ r, ftF p ⟨xk, xn, xa⟩ = r := ⟨_, rfl⟩
  rw [eft]
  have EF := Lib.hid eft
  clear eft
  go_wp2_with fail
  go_region_held3 (fun W => W.cell? ⟨w.heap.size + 1, 0, none⟩ = some (.int .i64 xk) ∧ W.cell? ⟨w.heap.size + 1, 1, none⟩ = some (.int .i64 xn) ∧ W.cell? ⟨w.heap.size + 1, 2, none⟩ = some (.int .i64 xa)) (first | exact ⟨q0, q1, q2⟩ | exact HS.out _ HD.out | exact HS.out _ (bl_trans HD.out hbA) | exact HS.out _ (bl_trans (bl_trans HD.out hbA) hbB) | exact HS.out _ (bl_trans (bl_trans (bl_trans HD.out hbA) hbB) hbC)) (first | (go_at_call 15; ((with_reducible refine (C3.out _).mono ?_); rintro e wA ⟨rfl, hbA⟩)) | (go_at_call 16; ((with_reducible refine (C5.out _).mono ?_); rintro e wB ⟨rfl, hbB⟩)) | (go_at_call 17; ((with_reducible refine (C6.out _).mono ?_); rintro e wC ⟨rfl, hbC⟩)))
  have HX := Lib.hid (bl_trans (bl_trans (bl_trans HD.out hbA) hbB) hbC)
  have HBC := Lib.hid (bl_trans HB4.out HX.out)
  obtain ⟨r0, r1, r2⟩ := HS.out _ HX.out
  have lr := cell_lt r0
  have tc : ((cc : Int) != cc) = false := by rw [bne_eq_false_iff_eq]
  clear hbA hbB hbC q0 q1 q2 q3 lq
  rcases HO.out with ⟨rfl, rfl, rfl⟩ | ⟨b, hf, rfl⟩
  · have e2 : ft = 2 := by rw [← EF.out]; exact if_pos rfl
    subst e2
    go_wp2_with fail
    go_ret
    exact ⟨rfl, HBC.out⟩
  · have hp : 1 ≤ p ∧ p < 18446744073709551616 := by
      have := hf.1
      unfold FdOK at this
      omega
    have tp : ((p : Int) == 0) = false := by rw [beq_eq_false_iff_ne]; omega
    have e2 : fitsF p ⟨xk, xn, xa⟩ = ft := by rw [← EF.out]; exact (if_neg (by omega)).symm
    have C8 := Lib.hid (fun W => C7.out p W hp.1 hp.2)
    simp only [e2] at C8
    clear hf hp e2 C7
    go_wp2_with fail
    refine (C8.out _).mono ?_
    rintro e w5 ⟨rfl, hb5⟩
    have H5 := Lib.hid (bl_trans HBC.out hb5)
    clear hb5
    go_wp2_with fail
    go_ret
    exact ⟨rfl, H5.out⟩
end Go.Proofs.YtbokindcnkknmaaGreat
