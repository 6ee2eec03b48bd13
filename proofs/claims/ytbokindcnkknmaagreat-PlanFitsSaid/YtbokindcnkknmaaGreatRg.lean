/- A region in a round of a range over a function: by the walk that holds a condition on the world. -/
import Derived.Test.YtbokindcnkknmaaGreatOh
import Derived.OrdersHeld
set_option linter.unusedVariables false
namespace Go.Proofs.YtbokindcnkknmaaGreat
section SRg
open Go.RowKit Epi
theorem op_in {l n : Nat} {P : Program} {o : Oper} {a : Act} {w : World} {K : Act → World → Prop} {Q : Exit → Act → World → Prop} (hd : ∀ c, o.op ≠ .defer c) (hq : ¬ LetsOut Q) (h : o.wp P a w K Q) : o.wpIn (Fence.wide.inRound l) n P a w K Q := by
  unfold Oper.wp at h
  refine ⟨fun f _ => trivial, ?_⟩
  rw [Oper.semAt_eq _ _ _ hd]
  generalize (execOp a.eval o).run P w = r at *
  cases r with
  | ok x w' =>
    cases x <;> simp only [Oper.upon] at h
    case value => exact h
    case skip => exact h
    case defer => exact h
    case enter f args =>
      exact ⟨fun h => by simp [Fence.wide, Fence.inRound] at h, CallsIn.inRound l ((callsIn_wide (n := n - 1)).2 (h.mono fun e w'' he => by cases e <;> exact he))⟩
    case row row args =>
      exact ⟨fun h => by simp [Fence.wide, Fence.inRound] at h, fun c cs _ => by
        obtain ⟨v, w'', hv, hs⟩ := h c cs
        exact ⟨v, w'', hv, stepsIn_wide.2 hs⟩⟩
  | halt x w' => cases x <;> simp only [Oper.upon] at h <;> exact h
theorem any_in {l n : Nat} {P : Program} {md : Region.Mode} {ops : Array Oper} {Q : Exit → Act → World → Prop} (hd : ∀ (i : Nat) (o : Oper) (c : Call), ops[i]? = some o → o.op ≠ .defer c) (hq : ¬ LetsOut Q) : ∀ (fuel : Nat) (listed : Array Bool) (a : Act) (w : World), wpAny P md ops Q fuel listed a w → wpAnyIn (Fence.wide.inRound l) n P md ops Q fuel listed a w
  | 0, _, _, _, h => h
  | fuel + 1, listed, a, w, h => ⟨h.1, fun i hi => by
      have h1 := h.2 i hi
      unfold wpOp at h1
      unfold wpOpIn
      cases ho : ops[i]? with
      | none =>
        simp only [ho] at h1
        exact any_in hd hq fuel _ _ _ h1
      | some o =>
        simp only [ho] at h1 ⊢
        split at h1
        · rename_i hw
          rw [if_pos hw]
          rcases h1 with h1 | h1
          · exact op_in (fun c => hd i o c ho) hq (Oper.wp_mono (fun a w => any_in hd hq fuel _ a w) h1)
          · exact absurd h1.2 hq
        · rename_i hw
          rw [if_neg hw]
          exact ⟨fun f _ => trivial, any_in hd hq fuel _ _ _ h1⟩⟩
theorem region_round {l n : Nat} {P : Program} {id : Nat} {ops : Array Oper} {Q : Exit → Act → World → Prop} {S : World → Prop} {a : Act} {w : World} (hm : P.follows .mixedOrders = true) (hd : ops.all (fun o => match o.op with | .defer _ => false | _ => true) = true) (hq : ¬ LetsOut Q)
    (hS : S w.drew) (h : S w.drew → wpAnyH P .any ops Q S ops.size (Array.replicate ops.size false) a w.drew) : (Code.region id ops true).wpIn (Fence.wide.inRound l) n P Q a w := by
  refine wpIn_region_any hm (any_in (fun i o c ho e => ?_) hq _ _ _ _ (wpAny_of_held _ _ _ _ (h hS)))
  obtain ⟨hi, hio⟩ := Array.getElem?_eq_some_iff.1 ho
  have := Array.all_eq_true.1 hd i hi
  rw [hio, e] at this
  cases this
end SRg
section SCh
open Go.RowKit Epi Go.Maps
attribute [local go_sem] Oper.semAt_some
def plO : Option Pl → Pl
  | none => ⟨0, 0, 0⟩
  | some x => x
/-- What is chosen, and what is wrong. -/
noncomputable def chO (p : Nat) (n kind : Int) : Pl := plO (bestP kind (allO p n))
noncomputable def chE (p : Nat) (n kind : Int) : Nat := if ckO p n ≠ 0 then ckO p n else match bestP kind (allO p n) with | none => 11 | some _ => 0
def ChPost (p : Nat) (n kind : Int) (w : World) (e : Ending) (w' : World) : Prop := e = .returned (.tuple #[plV (chO p n kind), .int .i64 (chE p n kind : Nat)]) ∧ Below w.heap.size w w'
theorem ckO_good {p : Nat} {n : Int} (h : ckO p n = 0) : p ≠ 0 ∧ ckF p n 1024 = 0 ∧ 1 ≤ n ∧ n ≤ 1024 := by
  unfold ckO at h
  by_cases hp : p = 0
  · rw [if_pos hp] at h
    omega
  · rw [if_neg hp] at h
    refine ⟨hp, h, ?_⟩
    unfold ckF at h
    split at h
    · omega
    · split at h <;> omega
theorem grown_set (W : World) (a : Addr) (v : Value) : W.grownBy (W.setCell a v) (some a.block) :=
  ⟨rfl, rfl, rfl, (KeepsWalks.setCell W a v).size, fun k _ hk => Below.heap_setCell _ _ _ k (fun e => hk (by rw [e]))⟩
theorem set3_grown (W : World) (b : Nat) (x y z : Value) : W.grownBy (((W.setCell ⟨b, 0, none⟩ x).setCell ⟨b, 1, none⟩ y).setCell ⟨b, 2, none⟩ z) (some b) :=
  ((grown_set W ⟨b, 0, none⟩ x).trans (grown_set _ ⟨b, 1, none⟩ y)).trans (grown_set _ ⟨b, 2, none⟩ z)
theorem allO_can {p : Nat} {n : Int} {x : Pl} (h : x ∈ allO p n) : canF x ∧ 1 ≤ x.n := by
  unfold allO at h
  by_cases hp : p = 0
  · rw [if_pos hp] at h
    cases h
  · rw [if_neg hp] at h
    have := (fits_can (allP_mem h).1).1
    exact ⟨this, this.1⟩
theorem allO_len {p : Nat} {n : Int} (h : n ≤ 1024) : (allO p n).length ≤ 7175 := by
  unfold allO
  by_cases hp : p = 0
  · rw [if_pos hp]
    simp
  · rw [if_neg hp]
    have := allTo_len p n 7
    unfold allP
    omega
set_option maxRecDepth 100000 in
set_option maxHeartbeats 4000000 in
theorem choose_bad (o : Option Addr) (p g : Nat) (n kind : Int) (w : World) (h : FdO w o p g) (hc : ckO p n ≠ 0) : Calls Tryz.prog 23 #[.pointer o, .int .i64 n, .int .i64 kind] w (ChPost p n kind w) := by
  have HB0 : Hid (∀ o : Obj, Below w.heap.size w (w.alloc o)) := Lib.hid fun o => (Below.refl _ _).alloc (Nat.le_refl _) _
  have Z : Hid (∀ W', Below w.heap.size w W' → ChPost p n kind w (.returned (.tuple #[.agg #[.int .i64 0, .int .i64 0, .int .i64 0], .int .i64 (ckO p n : Nat)])) W') := Lib.hid fun W' hb => by
    refine ⟨?_, hb⟩
    unfold chO chE
    rw [allO_bad hc, if_pos hc]
    rfl
  have C := Lib.hid (fun W (hb : Below w.heap.size w W) => pck_any o p g n W (h.below hb))
  obtain ⟨r, er⟩ : ∃ r, ckO p n = r := ⟨_, rfl⟩
  rw [er] at hc Z
  simp only [er] at C
  have t0 : ((r : Int) != 0) = true := by rw [bne_iff_ne]; omega
  clear er hc h
  go_enter Tryz.func23, Tryz.ntmps23
  go_wp2_with fail
  refine (C.out _ ?_).mono ?_
  · exact (HB0.out _).alloc (by simp) _
  rintro e w1 ⟨rfl, hb⟩
  have HB := Lib.hid (((HB0.out (.cells #[.int .i64 kind] 34)).alloc (by simp) (.cells #[.int .i64 0, .int .i64 0, .int .i64 0] 36)).trans (hb.mono (by simp; omega)))
  have hp := (PlAt.new (w.alloc (.cells #[.int .i64 kind] 34)) 0 0 0 36).below hb
  simp only [World.size_alloc] at hp
  have hP := Lib.hid hp
  obtain ⟨c0, c1, c2, c3⟩ := hp
  simp only at c0 c1 c2
  clear hb
  go_wp2_with fail
  have hp3 := hP.out.set3 0 0 0
  refine bodyPost_ret (v := .tuple #[.agg #[.int .i64 0, .int .i64 0, .int .i64 0], .int .i64 r]) ?_ rfl ?_
  · obtain ⟨d0, d1, d2, d3⟩ := hp3
    simp only at d0 d1 d2
    rw [results_cell_tmp rfl]
    simp [go_sem, *]
  · exact Z.out _ (((HB.out.setCell (by simp) _).setCell (by simp) _).setCell (by simp) _)
set_option maxRecDepth 100000 in
set_option maxHeartbeats 4000000 in
theorem choose_good (o : Option Addr) (p g : Nat) (n kind : Int) (w : World) (h : FdO w o p g) (hc : ckO p n = 0) : Calls Tryz.prog 23 #[.pointer o, .int .i64 n, .int .i64 kind] w (ChPost p n kind w) := by
  have tw : ∀ f, Fence.wide.fn f := fun _ => trivial
  have HB0 : Hid (∀ o : Obj, Below w.heap.size w (w.alloc o)) := Lib.hid fun o => (Below.refl _ _).alloc (Nat.le_refl _) _
  have C := Lib.hid (fun m W (hb : Below w.heap.size w W) => (callsIn_wide (n := m)).2 (pck_any o p g n W (h.below hb)))
  have CA := Lib.hid (fun m W => (callsIn_wide (n := m)).2 (pall_any o n W))
  simp only [hc] at C
  have hmm := @run_makeMap Tryz.prog
  refine (callsIn_wide (n := 5)).1 (callsIn_of_wp_marks Tryz.func23 rfl trivial ?_ rfl)
  simp only [Tryz.ntmps23, List.size_toArray, List.length_cons, List.length_nil, Nat.reduceAdd, Nat.reduceSub, Array.replicate_succ, Array.replicate_zero, List.push_toArray, List.append_toArray, List.nil_append, List.cons_append]
  have PO := Lib.hid (fun W => PlAt.new W 0 0 0 36)
  gi_wp2_with (first | (gi_at_call 47; refine (C.out _ _ ((HB0.out _).alloc (by simp) _)).mono ?_; rintro e w1 ⟨rfl, hb⟩; have H1 := Lib.hid hb; clear hb) | (gi_at_call 21; refine (CA.out _ _).mono ?_; rintro e w2 ⟨rfl, hb2, x1, x2⟩; have H2 := Lib.hid (And.intro hb2 (And.intro x1 x2)); clear hb2 x1 x2))
  have hS1 : w.heap.size + 2 ≤ w1.heap.size := by have := H1.out.size; simp at this; omega
  obtain ⟨hb2, x1, x2⟩ := H2.out
  have hs2 : ((((w1.alloc (.map #[] 0)).alloc (.cells #[.map (some w1.heap.size)] 98)).alloc (.cells #[.int .i64 0, .int .i64 0, .int .i64 0] 36)).heap.size) = w1.heap.size + 3 := by simp
  have hb3 : Below w1.heap.size w1 w2 := ((((Below.refl _ _).alloc (Nat.le_refl _) _).alloc (by simp) _).alloc (by simp; omega) _).trans (hb2.mono (by simp; omega))
  rw [hs2] at x1 x2
  have y0 : Boxed w2 w.heap.size 34 (.int .i64 kind) := ((Boxed.new w _ _).alloc _).kept (grown_below H1.out none) (by simp) |>.kept (grown_below hb3 none) (by simp)
  have y1 : PlAt w2 (w.heap.size + 1) ⟨0, 0, 0⟩ := by
    have h := ((PO.out (w.alloc (.cells #[.int .i64 kind] 34))).below H1.out).below hb3
    simpa only [World.size_alloc] using h
  have y2 : Boxed w2 (w1.heap.size + 1) 98 (.map (some w1.heap.size)) := by
    have h := (((Boxed.new (w1.alloc (.map #[] 0)) 98 (.map (some w1.heap.size))).alloc (.cells #[.int .i64 0, .int .i64 0, .int .i64 0] 36)).kept (grown_below hb2 none) (by simp))
    simpa only [World.size_alloc] using h
  have y3 : PlAt w2 (w1.heap.size + 2) ⟨0, 0, 0⟩ := by
    have h := (PO.out ((w1.alloc (.map #[] 0)).alloc (.cells #[.map (some w1.heap.size)] 98))).below hb2
    simpa only [World.size_alloc] using h
  have y4a : CM (w1.alloc (.map #[] 0)) w1.heap.size 0 (.map []) := World.ownsMap_made w1 _ _ _
  have y4 : CM w2 w1.heap.size 0 (.map []) := ((y4a.kept (World.grownBy_alloc _ _ none) (by simp)).kept (World.grownBy_alloc _ _ none) (by simp)).kept (grown_below hb2 none) (by simp)
  have y5 : Below w.heap.size w w2 := ((((Below.refl _ _).alloc (Nat.le_refl _) _).alloc (by simp) _).trans (H1.out.mono (by simp; omega))).trans (hb3.mono (by omega))
  have l1 := x1.lt
  have l2 := x2.lt
  obtain ⟨bM, eM⟩ : ∃ b, w1.heap.size = b := ⟨_, rfl⟩
  rw [eM] at hS1 x1 x2 y2 y3 y4 l1 l2
  simp only [eM]
  have hlen : (allO p n).length ≤ 7175 := allO_len (ckO_good hc).2.2.2
  have XS := Lib.hid (And.intro x1 (And.intro x2 (And.intro y0 (And.intro y1 (And.intro y2 (And.intro y3 (And.intro y4 y5)))))))
  have HS := all1_seq w o p g n h w2 (bM + 3) (bM + 3 + 1) y5 x1 x2
  clear hb2 hb3 hs2 eM H1 H2 x1 x2 y0 y1 y2 y3 y4 y5 y4a PO hmm C CA HB0
  refine wpIn_rangeU (gf := 55) (lb := #[.pointer (some ⟨bM + 3, 0, none⟩), .pointer (some ⟨bM + 3 + 1, 0, none⟩)]) rfl (enters_of Tryz.func55 (by kernel_rfl) rfl)
    (U := fun j => j = bM ∨ j = bM + 2) HS (fun _ => rfl) (fun j hj => ?_) (fun j hj => by omega)
    (fun pre W' => PlAt W' (bM + 2) (plO (bestP kind pre)) ∧ ∃ D, CM W' bM (14 * pre.length) D ∧ BookOK D) (fun c pre W' => False) ?_ ?_ ?_ ?round ?done ?stop
  · rcases hj with hj | rfl | rfl
    · exact ⟨by omega, by omega⟩
    · exact ⟨by omega, by omega⟩
    · exact ⟨by omega, by omega⟩
  · rintro s A B row ⟨h1, D, h2, h3⟩ hg hr
    exact ⟨h1.of_block (hg.block _ h1.lt (fun e => by have := (hr _ e.symm).1; omega)), D, h2.kept hg (fun e => by have := (hr _ e.symm).1; omega), h3⟩
  · exact fun c s A B row h => by exact fun _ _ => h
  · exact ⟨XS.out.2.2.2.2.2.1, _, XS.out.2.2.2.2.2.2.1, BookOK.nil⟩
  case round =>
    intro l pre x Wa hl hi hka hsp
    obtain ⟨xk, xn, xa⟩ := x
    unfold plV
    gi_wp2
    refine ⟨KpU.alloc _ _, fun W2 ht hk2 => ?_⟩
    obtain ⟨hp0, D, hM0, hD⟩ := hi
    have hx := allO_can (p := p) (n := n) (x := ⟨xk, xn, xa⟩) (hsp.subset (by simp))
    have hcx : canF ⟨xk, xn, xa⟩ := hx.1
    have hxn : 1 ≤ xn := hx.2
    have hpl : pre.length ≤ 7175 := by
      have := hsp.length_le
      simp at this
      omega
    have hsz : w2.heap.size ≤ Wa.heap.size := hka.size
    have HBM : Hid (∀ W', Wa.grownBy W' none → True) := Lib.hid fun _ _ => trivial
    have hp2 := ht.plAt (PlAt.new Wa xk xn xa 36)
    have hq2 : PlAt W2 (bM + 2) (plO (bestP kind pre)) := ht.plAt (hp0.below ((Below.refl _ _).alloc (Nat.le_refl _) _))
    have hM2 : CM W2 bM (14 * pre.length) D := (hM0.kept (World.grownBy_alloc _ _ none) (by simp)).kept ht.2.1 (fun e => by have := ht.1; injection e with e; omega)
    have g0 := hk2.boxed XS.out.2.2.1 (fun hc => by omega)
    have g1 := hk2.boxed XS.out.2.2.2.2.1 (fun hc => by omega)
    have hlt2 : Wa.heap.size < W2.heap.size := hp2.lt
    have hst := bestP_snoc kind pre ⟨xk, xn, xa⟩
    obtain ⟨⟨yk, yn, ya⟩, ey⟩ : ∃ y, plO (bestP kind pre) = y := ⟨_, rfl⟩
    rw [ey] at hq2
    have HG0 : Hid (W2.grownBy W2.drew (some bM)) := Lib.hid ⟨rfl, rfl, rfl, Nat.le_refl _, fun _ _ _ => rfl⟩
    have HGn : Hid (W2.grownBy W2.drew none) := Lib.hid ⟨rfl, rfl, rfl, Nat.le_refl _, fun _ _ _ => rfl⟩
    have HSW : Hid (∀ W, W2.grownBy W (some bM) → W.cell? ⟨w.heap.size, 0, none⟩ = some (.int .i64 kind) ∧ W.cell? ⟨bM + 1, 0, none⟩ = some (.map (some bM)) ∧ W.cell? ⟨Wa.heap.size, 0, none⟩ = some (.int .i64 xk) ∧ W.cell? ⟨Wa.heap.size, 1, none⟩ = some (.int .i64 xn) ∧ W.cell? ⟨Wa.heap.size, 2, none⟩ = some (.int .i64 xa) ∧ W.cell? ⟨bM + 1 + 1, 0, none⟩ = some (.int .i64 yk) ∧ W.cell? ⟨bM + 1 + 1, 1, none⟩ = some (.int .i64 yn) ∧ W.cell? ⟨bM + 1 + 1, 2, none⟩ = some (.int .i64 ya)) := Lib.hid fun W hg =>
      ⟨grown_cell hg g0.cell (by omega), grown_cell hg g1.cell (by omega), grown_cell hg hp2.1 (by omega), grown_cell hg hp2.2.1 (by omega), grown_cell hg hp2.2.2.1 (by omega), grown_cell hg hq2.1 (by omega), grown_cell hg hq2.2.1 (by omega), grown_cell hg hq2.2.2.1 (by omega)⟩
    have HQ := Lib.hid hq2
    have HP2 := Lib.hid hp2
    have HM2 := Lib.hid hM2
    have HD := Lib.hid hD
    clear hp0 hM0 hp2 hq2 hM2 g0 g1 hD
    by_cases hm : kind = -1 ∨ kind = xk
    case neg =>
      have t0 : (kind == -1) = false := by rw [beq_eq_false_iff_ne]; omega
      have t1 : (kind == xk) = false := by rw [beq_eq_false_iff_ne]; omega
      rw [show bestStep kind (bestP kind pre) ⟨xk, xn, xa⟩ = bestP kind pre from if_neg hm] at hst
      refine wpIn_block ?_
      refine wpIn_seq_k (fun K hK => ?_)
      have hKs := Lib.hid hK
      clear hK
      refine region_round (S := fun W => W.cell? ⟨w.heap.size, 0, none⟩ = some (.int .i64 kind) ∧ W.cell? ⟨bM + 1, 0, none⟩ = some (.map (some bM)) ∧ W.cell? ⟨Wa.heap.size, 0, none⟩ = some (.int .i64 xk) ∧ W.cell? ⟨Wa.heap.size, 1, none⟩ = some (.int .i64 xn) ∧ W.cell? ⟨Wa.heap.size, 2, none⟩ = some (.int .i64 xa) ∧ W.cell? ⟨bM + 1 + 1, 0, none⟩ = some (.int .i64 yk) ∧ W.cell? ⟨bM + 1 + 1, 1, none⟩ = some (.int .i64 yn) ∧ W.cell? ⟨bM + 1 + 1, 2, none⟩ = some (.int .i64 ya)) (by kernel_rfl) (by kernel_rfl) (by rintro ⟨a, w, h⟩; exact h) (HSW.out _ HG0.out) (fun hHeld => ?_)
      refine wpAnyH_take (i := 0) (oi := ⟨some _, _, _, _, _, _⟩) (v := ?_) rfl (by kernel_rfl) (by kernel_rfl) (by kernel_rfl) (fun _ _ _ h => h) (Or.inl ⟨by rfl, ?hy⟩) (by assumption) ?_
      case hy => intro W hSw; (try dsimp only at hSw); go_simp; try rfl
      simp only [Act.put, List.setIfInBounds_toArray, List.set_cons_zero, List.set_cons_succ]
      refine wpAnyH_take (i := 1) (oi := ⟨some _, _, _, _, _, _⟩) (v := ?_) rfl (by kernel_rfl) (by kernel_rfl) (by kernel_rfl) (fun _ _ _ h => h) (Or.inl ⟨by rfl, ?hy⟩) (by assumption) ?_
      case hy => intro W hSw; (try dsimp only at hSw); go_simp; try rfl
      simp only [Act.put, List.setIfInBounds_toArray, List.set_cons_zero, List.set_cons_succ]
      refine wpAnyH_take (i := 2) (oi := ⟨some _, _, _, _, _, _⟩) (v := ?_) rfl (by kernel_rfl) (by kernel_rfl) (by kernel_rfl) (fun _ _ _ h => h) (Or.inl ⟨by rfl, ?hy⟩) (by assumption) ?_
      case hy => intro W hSw; (try dsimp only at hSw); go_simp; try rfl
      simp only [Act.put, List.setIfInBounds_toArray, List.set_cons_zero, List.set_cons_succ]
      refine wpAnyH_take (i := 3) (oi := ⟨some _, _, _, _, _, _⟩) (v := ?_) rfl (by kernel_rfl) (by kernel_rfl) (by kernel_rfl) (fun _ _ _ h => h) (Or.inl ⟨by rfl, ?hy⟩) (by assumption) ?_
      case hy => intro W hSw; (try dsimp only at hSw); go_simp; try rfl
      simp only [Act.put, List.setIfInBounds_toArray, List.set_cons_zero, List.set_cons_succ]
      refine wpAnyH_take (i := 4) (oi := ⟨some _, _, _, _, _, _⟩) (v := ?_) rfl (by kernel_rfl) (by kernel_rfl) (by kernel_rfl) (fun _ _ _ h => h) (Or.inl ⟨by rfl, ?hy⟩) (by assumption) ?_
      case hy => intro W hSw; (try dsimp only at hSw); go_simp; try rfl
      simp only [Act.put, List.setIfInBounds_toArray, List.set_cons_zero, List.set_cons_succ]
      refine wpAnyH_take (i := 5) (oi := ⟨some _, _, _, _, _, _⟩) (v := ?_) rfl (by kernel_rfl) (by kernel_rfl) (by kernel_rfl) (fun _ _ _ h => h) (Or.inl ⟨by rfl, ?hy⟩) (by assumption) ?_
      case hy => intro W hSw; (try dsimp only at hSw); go_simp; try rfl
      simp only [Act.put, List.setIfInBounds_toArray, List.set_cons_zero, List.set_cons_succ]
      refine wpAnyH_take (i := 6) (oi := ⟨some _, _, _, _, _, _⟩) (v := ?_) rfl (by kernel_rfl) (by kernel_rfl) (by kernel_rfl) (fun _ _ _ h => h) (Or.inl ⟨by rfl, ?hy⟩) (by assumption) ?_
      case hy => intro W hSw; (try dsimp only at hSw); go_simp; try rfl
      simp only [Act.put, List.setIfInBounds_toArray, List.set_cons_zero, List.set_cons_succ]
      refine wpAnyH_take (i := 7) (oi := ⟨some _, _, _, _, _, _⟩) (v := ?_) rfl (by kernel_rfl) (by kernel_rfl) (by kernel_rfl) (fun _ _ _ h => h) (Or.inl ⟨by rfl, ?hy⟩) (by assumption) ?_
      case hy => intro W hSw; (try dsimp only at hSw); go_simp; try rfl
      simp only [Act.put, List.setIfInBounds_toArray, List.set_cons_zero, List.set_cons_succ]
      refine wpAnyH_take (i := 8) (oi := ⟨some _, _, _, _, _, _⟩) (v := ?_) rfl (by kernel_rfl) (by kernel_rfl) (by kernel_rfl) (fun _ _ _ h => h) (Or.inl ⟨by rfl, ?hy⟩) (by assumption) ?_
      case hy => intro W hSw; (try dsimp only at hSw); go_simp; try rfl
      simp only [Act.put, List.setIfInBounds_toArray, List.set_cons_zero, List.set_cons_succ]
      refine wpAnyH_take (i := 9) (oi := ⟨some _, _, _, _, _, _⟩) (v := undef) rfl (by kernel_rfl) (by kernel_rfl) (by kernel_rfl) (fun _ _ _ h => h) (Or.inr ⟨by rfl, rfl⟩) (by assumption) ?_
      simp only [Act.put, List.setIfInBounds_toArray, List.set_cons_zero, List.set_cons_succ]
      refine wpAnyH_take (i := 10) (oi := ⟨some _, _, _, _, _, _⟩) (v := undef) rfl (by kernel_rfl) (by kernel_rfl) (by kernel_rfl) (fun _ _ _ h => h) (Or.inr ⟨by rfl, rfl⟩) (by assumption) ?_
      simp only [Act.put, List.setIfInBounds_toArray, List.set_cons_zero, List.set_cons_succ]
      refine wpAnyH_take (i := 11) (oi := ⟨some _, _, _, _, _, _⟩) (v := undef) rfl (by kernel_rfl) (by kernel_rfl) (by kernel_rfl) (fun _ _ _ h => h) (Or.inr ⟨by rfl, rfl⟩) (by assumption) ?_
      simp only [Act.put, List.setIfInBounds_toArray, List.set_cons_zero, List.set_cons_succ]
      refine wpAnyH_take (i := 12) (oi := ⟨some _, _, _, _, _, _⟩) (v := undef) rfl (by kernel_rfl) (by kernel_rfl) (by kernel_rfl) (fun _ _ _ h => h) (Or.inr ⟨by rfl, rfl⟩) (by assumption) ?_
      simp only [Act.put, List.setIfInBounds_toArray, List.set_cons_zero, List.set_cons_succ]
      refine wpAnyH_take (i := 13) (oi := ⟨some _, _, _, _, _, _⟩) (v := undef) rfl (by kernel_rfl) (by kernel_rfl) (by kernel_rfl) (fun _ _ _ h => h) (Or.inr ⟨by rfl, rfl⟩) (by assumption) ?_
      simp only [Act.put, List.setIfInBounds_toArray, List.set_cons_zero, List.set_cons_succ]
      refine wpAnyH_take (i := 14) (oi := ⟨some _, _, _, _, _, _⟩) (v := undef) rfl (by kernel_rfl) (by kernel_rfl) (by kernel_rfl) (fun _ _ _ h => h) (Or.inr ⟨by rfl, rfl⟩) (by assumption) ?_
      simp only [Act.put, List.setIfInBounds_toArray, List.set_cons_zero, List.set_cons_succ]
      refine wpAnyH_take (i := 15) (oi := ⟨some _, _, _, _, _, _⟩) (v := undef) rfl (by kernel_rfl) (by kernel_rfl) (by kernel_rfl) (fun _ _ _ h => h) (Or.inr ⟨by rfl, rfl⟩) (by assumption) ?_
      simp only [Act.put, List.setIfInBounds_toArray, List.set_cons_zero, List.set_cons_succ]
      refine wpAnyH_take (i := 16) (oi := ⟨some _, _, _, _, _, _⟩) (v := undef) rfl (by kernel_rfl) (by kernel_rfl) (by kernel_rfl) (fun _ _ _ h => h) (Or.inr ⟨by rfl, rfl⟩) (by assumption) ?_
      simp only [Act.put, List.setIfInBounds_toArray, List.set_cons_zero, List.set_cons_succ]
      refine wpAnyH_take (i := 17) (oi := ⟨some _, _, _, _, _, _⟩) (v := undef) rfl (by kernel_rfl) (by kernel_rfl) (by kernel_rfl) (fun _ _ _ h => h) (Or.inr ⟨by rfl, rfl⟩) (by assumption) ?_
      simp only [Act.put, List.setIfInBounds_toArray, List.set_cons_zero, List.set_cons_succ]
      refine wpAnyH_take (i := 18) (oi := ⟨some _, _, _, _, _, _⟩) (v := undef) rfl (by kernel_rfl) (by kernel_rfl) (by kernel_rfl) (fun _ _ _ h => h) (Or.inr ⟨by rfl, rfl⟩) (by assumption) ?_
      simp only [Act.put, List.setIfInBounds_toArray, List.set_cons_zero, List.set_cons_succ]
      refine wpAnyH_take (i := 19) (oi := ⟨some _, _, _, _, _, _⟩) (v := undef) rfl (by kernel_rfl) (by kernel_rfl) (by kernel_rfl) (fun _ _ _ h => h) (Or.inr ⟨by rfl, rfl⟩) (by assumption) ?_
      simp only [Act.put, List.setIfInBounds_toArray, List.set_cons_zero, List.set_cons_succ]
      refine wpAnyH_take (i := 20) (oi := ⟨some _, _, _, _, _, _⟩) (v := undef) rfl (by kernel_rfl) (by kernel_rfl) (by kernel_rfl) (fun _ _ _ h => h) (Or.inr ⟨by rfl, rfl⟩) (by assumption) ?_
      simp only [Act.put, List.setIfInBounds_toArray, List.set_cons_zero, List.set_cons_succ]
      refine wpAnyH_take (i := 21) (oi := ⟨some _, _, _, _, _, _⟩) (v := ?_) rfl (by kernel_rfl) (by kernel_rfl) (by kernel_rfl) (fun _ _ _ h => h) (Or.inl ⟨by rfl, ?hy⟩) (by assumption) ?_
      case hy => intro W hSw; (try dsimp only at hSw); go_simp; try rfl
      simp only [Act.put, List.setIfInBounds_toArray, List.set_cons_zero, List.set_cons_succ]
      refine wpAnyH_done (by kernel_rfl) ?_ _
      refine hKs.out _ _ ?_
      gi_wp2
      exact ⟨KpU.grown HGn.out (fun k e _ => by cases e), by rw [hst, ey]; exact HQ.out.of_block rfl, D, (HM2.out.kept HGn.out (by simp)).mono (by simp; omega), HD.out⟩
    case pos =>
      have FR : ∀ j, W2.drew.frozen? ⟨bM + 1 + 1, j, none⟩ = false := HQ.out.2.2.2
      cases eb : bestP kind pre with
      | none =>
        rw [eb] at ey hst
        rw [show bestStep kind none ⟨xk, xn, xa⟩ = some ⟨xk, xn, xa⟩ from if_pos hm] at hst
        obtain ⟨rfl, rfl, rfl⟩ : yk = 0 ∧ yn = 0 ∧ ya = 0 := by
          injection ey with e1 e2 e3
          exact ⟨e1.symm, e2.symm, e3.symm⟩
        have ZB : Hid (postU (fun j => j = bM ∨ j = bM + 2) (fun pre W' => PlAt W' (bM + 2) (plO (bestP kind pre)) ∧ ∃ D, CM W' bM (14 * pre.length) D ∧ BookOK D) (fun c pre W' => False) (pre ++ [⟨xk, xn, xa⟩]) W2 .normal { tmps := #[], defers := [] } (((W2.drew.setCell ⟨bM + 1 + 1, 0, none⟩ (.int .i64 xk)).setCell ⟨bM + 1 + 1, 1, none⟩ (.int .i64 xn)).setCell ⟨bM + 1 + 1, 2, none⟩ (.int .i64 xa))) := Lib.hid (by
          refine ⟨(KpU.grown HGn.out (fun k e _ => by cases e)).trans (KpU.grown (set3_grown W2.drew (bM + 2) _ _ _) (fun k e _ => by cases e; exact .inr rfl)), ?_, D, ((HM2.out.kept HGn.out (by simp)).kept (set3_grown W2.drew (bM + 2) _ _ _) (by simp)).mono (by simp; omega), HD.out⟩
          rw [hst]
          exact PlAt.set3 (y := ⟨0, 0, 0⟩) (HQ.out.of_block rfl) _ _ _)
        by_cases h1 : kind = -1
        · have t0 : (kind == -1) = true := by rw [beq_iff_eq]; exact h1
          clear h1
          refine wpIn_block ?_
          refine wpIn_seq_k (fun K hK => ?_)
          have hKs := Lib.hid hK
          clear hK
          refine region_round (S := fun W => W.cell? ⟨w.heap.size, 0, none⟩ = some (.int .i64 kind) ∧ W.cell? ⟨bM + 1, 0, none⟩ = some (.map (some bM)) ∧ W.cell? ⟨Wa.heap.size, 0, none⟩ = some (.int .i64 xk) ∧ W.cell? ⟨Wa.heap.size, 1, none⟩ = some (.int .i64 xn) ∧ W.cell? ⟨Wa.heap.size, 2, none⟩ = some (.int .i64 xa) ∧ W.cell? ⟨bM + 1 + 1, 0, none⟩ = some (.int .i64 0) ∧ W.cell? ⟨bM + 1 + 1, 1, none⟩ = some (.int .i64 0) ∧ W.cell? ⟨bM + 1 + 1, 2, none⟩ = some (.int .i64 0)) (by kernel_rfl) (by kernel_rfl) (by rintro ⟨a, w, h⟩; exact h) (HSW.out _ HG0.out) (fun hHeld => ?_)
          refine wpAnyH_take (i := 0) (oi := ⟨some _, _, _, _, _, _⟩) (v := ?_) rfl (by kernel_rfl) (by kernel_rfl) (by kernel_rfl) (fun _ _ _ h => h) (Or.inl ⟨by rfl, ?hy⟩) (by assumption) ?_
          case hy => intro W hSw; (try dsimp only at hSw); go_simp; try rfl
          simp only [Act.put, List.setIfInBounds_toArray, List.set_cons_zero, List.set_cons_succ]
          refine wpAnyH_take (i := 1) (oi := ⟨some _, _, _, _, _, _⟩) (v := ?_) rfl (by kernel_rfl) (by kernel_rfl) (by kernel_rfl) (fun _ _ _ h => h) (Or.inl ⟨by rfl, ?hy⟩) (by assumption) ?_
          case hy => intro W hSw; (try dsimp only at hSw); go_simp; try rfl
          simp only [Act.put, List.setIfInBounds_toArray, List.set_cons_zero, List.set_cons_succ]
          refine wpAnyH_take (i := 2) (oi := ⟨some _, _, _, _, _, _⟩) (v := ?_) rfl (by kernel_rfl) (by kernel_rfl) (by kernel_rfl) (fun _ _ _ h => h) (Or.inl ⟨by rfl, ?hy⟩) (by assumption) ?_
          case hy => intro W hSw; (try dsimp only at hSw); go_simp; try rfl
          simp only [Act.put, List.setIfInBounds_toArray, List.set_cons_zero, List.set_cons_succ]
          refine wpAnyH_take (i := 3) (oi := ⟨some _, _, _, _, _, _⟩) (v := undef) rfl (by kernel_rfl) (by kernel_rfl) (by kernel_rfl) (fun _ _ _ h => h) (Or.inr ⟨by rfl, rfl⟩) (by assumption) ?_
          simp only [Act.put, List.setIfInBounds_toArray, List.set_cons_zero, List.set_cons_succ]
          refine wpAnyH_take (i := 4) (oi := ⟨some _, _, _, _, _, _⟩) (v := undef) rfl (by kernel_rfl) (by kernel_rfl) (by kernel_rfl) (fun _ _ _ h => h) (Or.inr ⟨by rfl, rfl⟩) (by assumption) ?_
          simp only [Act.put, List.setIfInBounds_toArray, List.set_cons_zero, List.set_cons_succ]
          refine wpAnyH_take (i := 5) (oi := ⟨some _, _, _, _, _, _⟩) (v := undef) rfl (by kernel_rfl) (by kernel_rfl) (by kernel_rfl) (fun _ _ _ h => h) (Or.inr ⟨by rfl, rfl⟩) (by assumption) ?_
          simp only [Act.put, List.setIfInBounds_toArray, List.set_cons_zero, List.set_cons_succ]
          refine wpAnyH_take (i := 6) (oi := ⟨some _, _, _, _, _, _⟩) (v := undef) rfl (by kernel_rfl) (by kernel_rfl) (by kernel_rfl) (fun _ _ _ h => h) (Or.inr ⟨by rfl, rfl⟩) (by assumption) ?_
          simp only [Act.put, List.setIfInBounds_toArray, List.set_cons_zero, List.set_cons_succ]
          refine wpAnyH_take (i := 7) (oi := ⟨some _, _, _, _, _, _⟩) (v := ?_) rfl (by kernel_rfl) (by kernel_rfl) (by kernel_rfl) (fun _ _ _ h => h) (Or.inl ⟨by rfl, ?hy⟩) (by assumption) ?_
          case hy => intro W hSw; (try dsimp only at hSw); go_simp; try rfl
          simp only [Act.put, List.setIfInBounds_toArray, List.set_cons_zero, List.set_cons_succ]
          refine wpAnyH_take (i := 8) (oi := ⟨some _, _, _, _, _, _⟩) (v := ?_) rfl (by kernel_rfl) (by kernel_rfl) (by kernel_rfl) (fun _ _ _ h => h) (Or.inl ⟨by rfl, ?hy⟩) (by assumption) ?_
          case hy => intro W hSw; (try dsimp only at hSw); go_simp; try rfl
          simp only [Act.put, List.setIfInBounds_toArray, List.set_cons_zero, List.set_cons_succ]
          refine wpAnyH_take (i := 9) (oi := ⟨some _, _, _, _, _, _⟩) (v := ?_) rfl (by kernel_rfl) (by kernel_rfl) (by kernel_rfl) (fun _ _ _ h => h) (Or.inl ⟨by rfl, ?hy⟩) (by assumption) ?_
          case hy => intro W hSw; (try dsimp only at hSw); go_simp; try rfl
          simp only [Act.put, List.setIfInBounds_toArray, List.set_cons_zero, List.set_cons_succ]
          refine wpAnyH_take (i := 10) (oi := ⟨some _, _, _, _, _, _⟩) (v := ?_) rfl (by kernel_rfl) (by kernel_rfl) (by kernel_rfl) (fun _ _ _ h => h) (Or.inl ⟨by rfl, ?hy⟩) (by assumption) ?_
          case hy => intro W hSw; (try dsimp only at hSw); go_simp; try rfl
          simp only [Act.put, List.setIfInBounds_toArray, List.set_cons_zero, List.set_cons_succ]
          refine wpAnyH_take (i := 11) (oi := ⟨some _, _, _, _, _, _⟩) (v := ?_) rfl (by kernel_rfl) (by kernel_rfl) (by kernel_rfl) (fun _ _ _ h => h) (Or.inl ⟨by rfl, ?hy⟩) (by assumption) ?_
          case hy => intro W hSw; (try dsimp only at hSw); go_simp; try rfl
          simp only [Act.put, List.setIfInBounds_toArray, List.set_cons_zero, List.set_cons_succ]
          refine wpAnyH_take (i := 12) (oi := ⟨some _, _, _, _, _, _⟩) (v := ?_) rfl (by kernel_rfl) (by kernel_rfl) (by kernel_rfl) (fun _ _ _ h => h) (Or.inl ⟨by rfl, ?hy⟩) (by assumption) ?_
          case hy => intro W hSw; (try dsimp only at hSw); go_simp; try rfl
          simp only [Act.put, List.setIfInBounds_toArray, List.set_cons_zero, List.set_cons_succ]
          refine wpAnyH_take (i := 13) (oi := ⟨some _, _, _, _, _, _⟩) (v := undef) rfl (by kernel_rfl) (by kernel_rfl) (by kernel_rfl) (fun _ _ _ h => h) (Or.inr ⟨by rfl, rfl⟩) (by assumption) ?_
          simp only [Act.put, List.setIfInBounds_toArray, List.set_cons_zero, List.set_cons_succ]
          refine wpAnyH_take (i := 14) (oi := ⟨some _, _, _, _, _, _⟩) (v := undef) rfl (by kernel_rfl) (by kernel_rfl) (by kernel_rfl) (fun _ _ _ h => h) (Or.inr ⟨by rfl, rfl⟩) (by assumption) ?_
          simp only [Act.put, List.setIfInBounds_toArray, List.set_cons_zero, List.set_cons_succ]
          refine wpAnyH_take (i := 15) (oi := ⟨some _, _, _, _, _, _⟩) (v := undef) rfl (by kernel_rfl) (by kernel_rfl) (by kernel_rfl) (fun _ _ _ h => h) (Or.inr ⟨by rfl, rfl⟩) (by assumption) ?_
          simp only [Act.put, List.setIfInBounds_toArray, List.set_cons_zero, List.set_cons_succ]
          refine wpAnyH_take (i := 16) (oi := ⟨some _, _, _, _, _, _⟩) (v := undef) rfl (by kernel_rfl) (by kernel_rfl) (by kernel_rfl) (fun _ _ _ h => h) (Or.inr ⟨by rfl, rfl⟩) (by assumption) ?_
          simp only [Act.put, List.setIfInBounds_toArray, List.set_cons_zero, List.set_cons_succ]
          refine wpAnyH_take (i := 17) (oi := ⟨some _, _, _, _, _, _⟩) (v := undef) rfl (by kernel_rfl) (by kernel_rfl) (by kernel_rfl) (fun _ _ _ h => h) (Or.inr ⟨by rfl, rfl⟩) (by assumption) ?_
          simp only [Act.put, List.setIfInBounds_toArray, List.set_cons_zero, List.set_cons_succ]
          refine wpAnyH_take (i := 18) (oi := ⟨some _, _, _, _, _, _⟩) (v := undef) rfl (by kernel_rfl) (by kernel_rfl) (by kernel_rfl) (fun _ _ _ h => h) (Or.inr ⟨by rfl, rfl⟩) (by assumption) ?_
          simp only [Act.put, List.setIfInBounds_toArray, List.set_cons_zero, List.set_cons_succ]
          refine wpAnyH_take (i := 19) (oi := ⟨some _, _, _, _, _, _⟩) (v := undef) rfl (by kernel_rfl) (by kernel_rfl) (by kernel_rfl) (fun _ _ _ h => h) (Or.inr ⟨by rfl, rfl⟩) (by assumption) ?_
          simp only [Act.put, List.setIfInBounds_toArray, List.set_cons_zero, List.set_cons_succ]
          refine wpAnyH_take (i := 20) (oi := ⟨some _, _, _, _, _, _⟩) (v := ?_) rfl (by kernel_rfl) (by kernel_rfl) (by kernel_rfl) (fun _ _ _ h => h) (Or.inl ⟨by rfl, ?hy⟩) (by assumption) ?_
          case hy => intro W hSw; (try dsimp only at hSw); go_simp; try rfl
          simp only [Act.put, List.setIfInBounds_toArray, List.set_cons_zero, List.set_cons_succ]
          refine wpAnyH_take (i := 21) (oi := ⟨some _, _, _, _, _, _⟩) (v := ?_) rfl (by kernel_rfl) (by kernel_rfl) (by kernel_rfl) (fun _ _ _ h => h) (Or.inl ⟨by rfl, ?hy⟩) (by assumption) ?_
          case hy => intro W hSw; (try dsimp only at hSw); go_simp; try rfl
          simp only [Act.put, List.setIfInBounds_toArray, List.set_cons_zero, List.set_cons_succ]
          refine wpAnyH_done (by kernel_rfl) ?_ _
          refine hKs.out _ _ ?_
          obtain ⟨WD, eWD⟩ : ∃ WD, W2.drew = WD := ⟨_, rfl⟩
          rw [eWD] at hHeld FR ZB ⊢
          clear eWD
          gi_wp2
          exact ZB.out
        · have t0 : (kind == -1) = false := by rw [beq_eq_false_iff_ne]; exact h1
          have t1 : (kind == xk) = true := by rw [beq_iff_eq]; omega
          refine wpIn_block ?_
          refine wpIn_seq_k (fun K hK => ?_)
          have hKs := Lib.hid hK
          clear hK
          refine region_round (S := fun W => W.cell? ⟨w.heap.size, 0, none⟩ = some (.int .i64 kind) ∧ W.cell? ⟨bM + 1, 0, none⟩ = some (.map (some bM)) ∧ W.cell? ⟨Wa.heap.size, 0, none⟩ = some (.int .i64 xk) ∧ W.cell? ⟨Wa.heap.size, 1, none⟩ = some (.int .i64 xn) ∧ W.cell? ⟨Wa.heap.size, 2, none⟩ = some (.int .i64 xa) ∧ W.cell? ⟨bM + 1 + 1, 0, none⟩ = some (.int .i64 0) ∧ W.cell? ⟨bM + 1 + 1, 1, none⟩ = some (.int .i64 0) ∧ W.cell? ⟨bM + 1 + 1, 2, none⟩ = some (.int .i64 0)) (by kernel_rfl) (by kernel_rfl) (by rintro ⟨a, w, h⟩; exact h) (HSW.out _ HG0.out) (fun hHeld => ?_)
          refine wpAnyH_take (i := 0) (oi := ⟨some _, _, _, _, _, _⟩) (v := ?_) rfl (by kernel_rfl) (by kernel_rfl) (by kernel_rfl) (fun _ _ _ h => h) (Or.inl ⟨by rfl, ?hy⟩) (by assumption) ?_
          case hy => intro W hSw; (try dsimp only at hSw); go_simp; try rfl
          simp only [Act.put, List.setIfInBounds_toArray, List.set_cons_zero, List.set_cons_succ]
          refine wpAnyH_take (i := 1) (oi := ⟨some _, _, _, _, _, _⟩) (v := ?_) rfl (by kernel_rfl) (by kernel_rfl) (by kernel_rfl) (fun _ _ _ h => h) (Or.inl ⟨by rfl, ?hy⟩) (by assumption) ?_
          case hy => intro W hSw; (try dsimp only at hSw); go_simp; try rfl
          simp only [Act.put, List.setIfInBounds_toArray, List.set_cons_zero, List.set_cons_succ]
          refine wpAnyH_take (i := 2) (oi := ⟨some _, _, _, _, _, _⟩) (v := ?_) rfl (by kernel_rfl) (by kernel_rfl) (by kernel_rfl) (fun _ _ _ h => h) (Or.inl ⟨by rfl, ?hy⟩) (by assumption) ?_
          case hy => intro W hSw; (try dsimp only at hSw); go_simp; try rfl
          simp only [Act.put, List.setIfInBounds_toArray, List.set_cons_zero, List.set_cons_succ]
          refine wpAnyH_take (i := 3) (oi := ⟨some _, _, _, _, _, _⟩) (v := ?_) rfl (by kernel_rfl) (by kernel_rfl) (by kernel_rfl) (fun _ _ _ h => h) (Or.inl ⟨by rfl, ?hy⟩) (by assumption) ?_
          case hy => intro W hSw; (try dsimp only at hSw); go_simp; try rfl
          simp only [Act.put, List.setIfInBounds_toArray, List.set_cons_zero, List.set_cons_succ]
          refine wpAnyH_take (i := 4) (oi := ⟨some _, _, _, _, _, _⟩) (v := ?_) rfl (by kernel_rfl) (by kernel_rfl) (by kernel_rfl) (fun _ _ _ h => h) (Or.inl ⟨by rfl, ?hy⟩) (by assumption) ?_
          case hy => intro W hSw; (try dsimp only at hSw); go_simp; try rfl
          simp only [Act.put, List.setIfInBounds_toArray, List.set_cons_zero, List.set_cons_succ]
          refine wpAnyH_take (i := 5) (oi := ⟨some _, _, _, _, _, _⟩) (v := ?_) rfl (by kernel_rfl) (by kernel_rfl) (by kernel_rfl) (fun _ _ _ h => h) (Or.inl ⟨by rfl, ?hy⟩) (by assumption) ?_
          case hy => intro W hSw; (try dsimp only at hSw); go_simp; try rfl
          simp only [Act.put, List.setIfInBounds_toArray, List.set_cons_zero, List.set_cons_succ]
          refine wpAnyH_take (i := 6) (oi := ⟨some _, _, _, _, _, _⟩) (v := ?_) rfl (by kernel_rfl) (by kernel_rfl) (by kernel_rfl) (fun _ _ _ h => h) (Or.inl ⟨by rfl, ?hy⟩) (by assumption) ?_
          case hy => intro W hSw; (try dsimp only at hSw); go_simp; try rfl
          simp only [Act.put, List.setIfInBounds_toArray, List.set_cons_zero, List.set_cons_succ]
          refine wpAnyH_take (i := 7) (oi := ⟨some _, _, _, _, _, _⟩) (v := ?_) rfl (by kernel_rfl) (by kernel_rfl) (by kernel_rfl) (fun _ _ _ h => h) (Or.inl ⟨by rfl, ?hy⟩) (by assumption) ?_
          case hy => intro W hSw; (try dsimp only at hSw); go_simp; try rfl
          simp only [Act.put, List.setIfInBounds_toArray, List.set_cons_zero, List.set_cons_succ]
          refine wpAnyH_take (i := 8) (oi := ⟨some _, _, _, _, _, _⟩) (v := ?_) rfl (by kernel_rfl) (by kernel_rfl) (by kernel_rfl) (fun _ _ _ h => h) (Or.inl ⟨by rfl, ?hy⟩) (by assumption) ?_
          case hy => intro W hSw; (try dsimp only at hSw); go_simp; try rfl
          simp only [Act.put, List.setIfInBounds_toArray, List.set_cons_zero, List.set_cons_succ]
          refine wpAnyH_take (i := 9) (oi := ⟨some _, _, _, _, _, _⟩) (v := ?_) rfl (by kernel_rfl) (by kernel_rfl) (by kernel_rfl) (fun _ _ _ h => h) (Or.inl ⟨by rfl, ?hy⟩) (by assumption) ?_
          case hy => intro W hSw; (try dsimp only at hSw); go_simp; try rfl
          simp only [Act.put, List.setIfInBounds_toArray, List.set_cons_zero, List.set_cons_succ]
          refine wpAnyH_take (i := 10) (oi := ⟨some _, _, _, _, _, _⟩) (v := ?_) rfl (by kernel_rfl) (by kernel_rfl) (by kernel_rfl) (fun _ _ _ h => h) (Or.inl ⟨by rfl, ?hy⟩) (by assumption) ?_
          case hy => intro W hSw; (try dsimp only at hSw); go_simp; try rfl
          simp only [Act.put, List.setIfInBounds_toArray, List.set_cons_zero, List.set_cons_succ]
          refine wpAnyH_take (i := 11) (oi := ⟨some _, _, _, _, _, _⟩) (v := ?_) rfl (by kernel_rfl) (by kernel_rfl) (by kernel_rfl) (fun _ _ _ h => h) (Or.inl ⟨by rfl, ?hy⟩) (by assumption) ?_
          case hy => intro W hSw; (try dsimp only at hSw); go_simp; try rfl
          simp only [Act.put, List.setIfInBounds_toArray, List.set_cons_zero, List.set_cons_succ]
          refine wpAnyH_take (i := 12) (oi := ⟨some _, _, _, _, _, _⟩) (v := ?_) rfl (by kernel_rfl) (by kernel_rfl) (by kernel_rfl) (fun _ _ _ h => h) (Or.inl ⟨by rfl, ?hy⟩) (by assumption) ?_
          case hy => intro W hSw; (try dsimp only at hSw); go_simp; try rfl
          simp only [Act.put, List.setIfInBounds_toArray, List.set_cons_zero, List.set_cons_succ]
          refine wpAnyH_take (i := 13) (oi := ⟨some _, _, _, _, _, _⟩) (v := undef) rfl (by kernel_rfl) (by kernel_rfl) (by kernel_rfl) (fun _ _ _ h => h) (Or.inr ⟨by rfl, rfl⟩) (by assumption) ?_
          simp only [Act.put, List.setIfInBounds_toArray, List.set_cons_zero, List.set_cons_succ]
          refine wpAnyH_take (i := 14) (oi := ⟨some _, _, _, _, _, _⟩) (v := undef) rfl (by kernel_rfl) (by kernel_rfl) (by kernel_rfl) (fun _ _ _ h => h) (Or.inr ⟨by rfl, rfl⟩) (by assumption) ?_
          simp only [Act.put, List.setIfInBounds_toArray, List.set_cons_zero, List.set_cons_succ]
          refine wpAnyH_take (i := 15) (oi := ⟨some _, _, _, _, _, _⟩) (v := undef) rfl (by kernel_rfl) (by kernel_rfl) (by kernel_rfl) (fun _ _ _ h => h) (Or.inr ⟨by rfl, rfl⟩) (by assumption) ?_
          simp only [Act.put, List.setIfInBounds_toArray, List.set_cons_zero, List.set_cons_succ]
          refine wpAnyH_take (i := 16) (oi := ⟨some _, _, _, _, _, _⟩) (v := undef) rfl (by kernel_rfl) (by kernel_rfl) (by kernel_rfl) (fun _ _ _ h => h) (Or.inr ⟨by rfl, rfl⟩) (by assumption) ?_
          simp only [Act.put, List.setIfInBounds_toArray, List.set_cons_zero, List.set_cons_succ]
          refine wpAnyH_take (i := 17) (oi := ⟨some _, _, _, _, _, _⟩) (v := undef) rfl (by kernel_rfl) (by kernel_rfl) (by kernel_rfl) (fun _ _ _ h => h) (Or.inr ⟨by rfl, rfl⟩) (by assumption) ?_
          simp only [Act.put, List.setIfInBounds_toArray, List.set_cons_zero, List.set_cons_succ]
          refine wpAnyH_take (i := 18) (oi := ⟨some _, _, _, _, _, _⟩) (v := undef) rfl (by kernel_rfl) (by kernel_rfl) (by kernel_rfl) (fun _ _ _ h => h) (Or.inr ⟨by rfl, rfl⟩) (by assumption) ?_
          simp only [Act.put, List.setIfInBounds_toArray, List.set_cons_zero, List.set_cons_succ]
          refine wpAnyH_take (i := 19) (oi := ⟨some _, _, _, _, _, _⟩) (v := undef) rfl (by kernel_rfl) (by kernel_rfl) (by kernel_rfl) (fun _ _ _ h => h) (Or.inr ⟨by rfl, rfl⟩) (by assumption) ?_
          simp only [Act.put, List.setIfInBounds_toArray, List.set_cons_zero, List.set_cons_succ]
          refine wpAnyH_take (i := 20) (oi := ⟨some _, _, _, _, _, _⟩) (v := ?_) rfl (by kernel_rfl) (by kernel_rfl) (by kernel_rfl) (fun _ _ _ h => h) (Or.inl ⟨by rfl, ?hy⟩) (by assumption) ?_
          case hy => intro W hSw; (try dsimp only at hSw); go_simp; try rfl
          simp only [Act.put, List.setIfInBounds_toArray, List.set_cons_zero, List.set_cons_succ]
          refine wpAnyH_take (i := 21) (oi := ⟨some _, _, _, _, _, _⟩) (v := ?_) rfl (by kernel_rfl) (by kernel_rfl) (by kernel_rfl) (fun _ _ _ h => h) (Or.inl ⟨by rfl, ?hy⟩) (by assumption) ?_
          case hy => intro W hSw; (try dsimp only at hSw); go_simp; try rfl
          simp only [Act.put, List.setIfInBounds_toArray, List.set_cons_zero, List.set_cons_succ]
          refine wpAnyH_done (by kernel_rfl) ?_ _
          refine hKs.out _ _ ?_
          obtain ⟨WD, eWD⟩ : ∃ WD, W2.drew = WD := ⟨_, rfl⟩
          rw [eWD] at hHeld FR ZB ⊢
          clear eWD
          gi_wp2
          exact ZB.out
      | some y' =>
        rw [eb] at ey hst
        obtain rfl : y' = ⟨yk, yn, ya⟩ := ey
        have hy := allO_can (p := p) (n := n) (x := ⟨yk, yn, ya⟩) (hsp.subset (List.mem_append_left _ (bestP_mem kind pre _ eb)))
        have hcy : canF ⟨yk, yn, ya⟩ := hy.1
        have hyn : ¬ yn = 0 := by have := hy.2; simp only at this; omega
        rw [show bestStep kind (some ⟨yk, yn, ya⟩) ⟨xk, xn, xa⟩ = if costK ⟨xk, xn, xa⟩ < costK ⟨yk, yn, ya⟩ then some ⟨xk, xn, xa⟩ else some ⟨yk, yn, ya⟩ from by
          unfold bestStep
          rw [if_pos hm]
          simp only [costF_can hcx, costF_can hcy]] at hst
        have CX := Lib.hid (ofc_any ⟨xk, xn, xa⟩ hcx bM (14 * pre.length) D W2.drew (by omega) (HM2.out.kept HGn.out (by simp)) HD.out)
        have CY := Lib.hid (fun W D' (hM : CM W bM (14 * pre.length + 7) D') hD' => ofc_any ⟨yk, yn, ya⟩ hcy bM (14 * pre.length + 7) D' W (by omega) hM hD')
        unfold CoPost plV at CX CY
        obtain ⟨cx, ecx⟩ : ∃ c, costK ⟨xk, xn, xa⟩ = c := ⟨_, rfl⟩
        obtain ⟨cy, ecy⟩ : ∃ c, costK ⟨yk, yn, ya⟩ = c := ⟨_, rfl⟩
        simp only [ecx] at CX
        simp only [ecy] at CY
        rw [ecx, ecy] at hst
        have QB : Hid (∀ wC, W2.grownBy wC (some bM) → PlAt wC (bM + 2) ⟨yk, yn, ya⟩) := Lib.hid fun wC hg => HQ.out.of_block (hg.block _ HQ.out.lt (by simp))
        have ZT : Hid (∀ wB wC DC, W2.drew.grownBy wB (some bM) → wB.grownBy wC (some bM) → CM wC bM (14 * pre.length + 7 + 7) DC → BookOK DC → cx < cy → (postU (fun j => j = bM ∨ j = bM + 2) (fun pre W' => PlAt W' (bM + 2) (plO (bestP kind pre)) ∧ ∃ D, CM W' bM (14 * pre.length) D ∧ BookOK D) (fun c pre W' => False) (pre ++ [⟨xk, xn, xa⟩]) W2 .normal { tmps := #[], defers := [] } (((wC.setCell ⟨bM + 1 + 1, 0, none⟩ (.int .i64 xk)).setCell ⟨bM + 1 + 1, 1, none⟩ (.int .i64 xn)).setCell ⟨bM + 1 + 1, 2, none⟩ (.int .i64 xa)))) := Lib.hid (by
          intro wB wC DC h1 h2 h3 h4 h5
          refine ⟨(KpU.grown ((HG0.out.trans h1).trans h2) (fun k e _ => by cases e; exact .inl rfl)).trans (KpU.grown (set3_grown wC (bM + 2) _ _ _) (fun k e _ => by cases e; exact .inr rfl)), ?_, DC, (h3.kept (set3_grown wC (bM + 2) _ _ _) (by simp)).mono (by simp; omega), h4⟩
          rw [hst, if_pos h5]
          exact PlAt.set3 (QB.out _ ((HG0.out.trans h1).trans h2)) _ _ _)
        have ZF : Hid (∀ wB wC DC, W2.drew.grownBy wB (some bM) → wB.grownBy wC (some bM) → CM wC bM (14 * pre.length + 7 + 7) DC → BookOK DC → ¬ cx < cy → (postU (fun j => j = bM ∨ j = bM + 2) (fun pre W' => PlAt W' (bM + 2) (plO (bestP kind pre)) ∧ ∃ D, CM W' bM (14 * pre.length) D ∧ BookOK D) (fun c pre W' => False) (pre ++ [⟨xk, xn, xa⟩]) W2 .normal { tmps := #[], defers := [] } wC)) := Lib.hid (by
          intro wB wC DC h1 h2 h3 h4 h5
          refine ⟨KpU.grown ((HG0.out.trans h1).trans h2) (fun k e _ => by cases e; exact .inl rfl), ?_, DC, h3.mono (by simp; omega), h4⟩
          rw [hst, if_neg h5]
          exact QB.out _ ((HG0.out.trans h1).trans h2))
        obtain ⟨bb, ebb⟩ : ∃ bb, decide (cx < cy) = bb := ⟨_, rfl⟩
        have EB := Lib.hid ebb
        clear hst ecx ecy hcx hcy hy hx
        by_cases h1 : kind = -1
        · have t0 : (kind == -1) = true := by rw [beq_iff_eq]; exact h1
          clear h1
          refine wpIn_block ?_
          refine wpIn_seq_k (fun K hK => ?_)
          have hKs := Lib.hid hK
          clear hK
          refine region_round (S := fun W => W.cell? ⟨w.heap.size, 0, none⟩ = some (.int .i64 kind) ∧ W.cell? ⟨bM + 1, 0, none⟩ = some (.map (some bM)) ∧ W.cell? ⟨Wa.heap.size, 0, none⟩ = some (.int .i64 xk) ∧ W.cell? ⟨Wa.heap.size, 1, none⟩ = some (.int .i64 xn) ∧ W.cell? ⟨Wa.heap.size, 2, none⟩ = some (.int .i64 xa) ∧ W.cell? ⟨bM + 1 + 1, 0, none⟩ = some (.int .i64 yk) ∧ W.cell? ⟨bM + 1 + 1, 1, none⟩ = some (.int .i64 yn) ∧ W.cell? ⟨bM + 1 + 1, 2, none⟩ = some (.int .i64 ya)) (by kernel_rfl) (by kernel_rfl) (by rintro ⟨a, w, h⟩; exact h) (HSW.out _ HG0.out) (fun hHeld => ?_)
          refine wpAnyH_take (i := 0) (oi := ⟨some _, _, _, _, _, _⟩) (v := ?_) rfl (by kernel_rfl) (by kernel_rfl) (by kernel_rfl) (fun _ _ _ h => h) (Or.inl ⟨by rfl, ?hy⟩) (by assumption) ?_
          case hy => intro W hSw; (try dsimp only at hSw); go_simp; try rfl
          simp only [Act.put, List.setIfInBounds_toArray, List.set_cons_zero, List.set_cons_succ]
          refine wpAnyH_take (i := 1) (oi := ⟨some _, _, _, _, _, _⟩) (v := ?_) rfl (by kernel_rfl) (by kernel_rfl) (by kernel_rfl) (fun _ _ _ h => h) (Or.inl ⟨by rfl, ?hy⟩) (by assumption) ?_
          case hy => intro W hSw; (try dsimp only at hSw); go_simp; try rfl
          simp only [Act.put, List.setIfInBounds_toArray, List.set_cons_zero, List.set_cons_succ]
          refine wpAnyH_take (i := 2) (oi := ⟨some _, _, _, _, _, _⟩) (v := ?_) rfl (by kernel_rfl) (by kernel_rfl) (by kernel_rfl) (fun _ _ _ h => h) (Or.inl ⟨by rfl, ?hy⟩) (by assumption) ?_
          case hy => intro W hSw; (try dsimp only at hSw); go_simp; try rfl
          simp only [Act.put, List.setIfInBounds_toArray, List.set_cons_zero, List.set_cons_succ]
          refine wpAnyH_take (i := 3) (oi := ⟨some _, _, _, _, _, _⟩) (v := undef) rfl (by kernel_rfl) (by kernel_rfl) (by kernel_rfl) (fun _ _ _ h => h) (Or.inr ⟨by rfl, rfl⟩) (by assumption) ?_
          simp only [Act.put, List.setIfInBounds_toArray, List.set_cons_zero, List.set_cons_succ]
          refine wpAnyH_take (i := 4) (oi := ⟨some _, _, _, _, _, _⟩) (v := undef) rfl (by kernel_rfl) (by kernel_rfl) (by kernel_rfl) (fun _ _ _ h => h) (Or.inr ⟨by rfl, rfl⟩) (by assumption) ?_
          simp only [Act.put, List.setIfInBounds_toArray, List.set_cons_zero, List.set_cons_succ]
          refine wpAnyH_take (i := 5) (oi := ⟨some _, _, _, _, _, _⟩) (v := undef) rfl (by kernel_rfl) (by kernel_rfl) (by kernel_rfl) (fun _ _ _ h => h) (Or.inr ⟨by rfl, rfl⟩) (by assumption) ?_
          simp only [Act.put, List.setIfInBounds_toArray, List.set_cons_zero, List.set_cons_succ]
          refine wpAnyH_take (i := 6) (oi := ⟨some _, _, _, _, _, _⟩) (v := undef) rfl (by kernel_rfl) (by kernel_rfl) (by kernel_rfl) (fun _ _ _ h => h) (Or.inr ⟨by rfl, rfl⟩) (by assumption) ?_
          simp only [Act.put, List.setIfInBounds_toArray, List.set_cons_zero, List.set_cons_succ]
          refine wpAnyH_take (i := 7) (oi := ⟨some _, _, _, _, _, _⟩) (v := ?_) rfl (by kernel_rfl) (by kernel_rfl) (by kernel_rfl) (fun _ _ _ h => h) (Or.inl ⟨by rfl, ?hy⟩) (by assumption) ?_
          case hy => intro W hSw; (try dsimp only at hSw); go_simp; try rfl
          simp only [Act.put, List.setIfInBounds_toArray, List.set_cons_zero, List.set_cons_succ]
          refine wpAnyH_take (i := 8) (oi := ⟨some _, _, _, _, _, _⟩) (v := ?_) rfl (by kernel_rfl) (by kernel_rfl) (by kernel_rfl) (fun _ _ _ h => h) (Or.inl ⟨by rfl, ?hy⟩) (by assumption) ?_
          case hy => intro W hSw; (try dsimp only at hSw); go_simp; try rfl
          simp only [Act.put, List.setIfInBounds_toArray, List.set_cons_zero, List.set_cons_succ]
          refine wpAnyH_take (i := 9) (oi := ⟨some _, _, _, _, _, _⟩) (v := ?_) rfl (by kernel_rfl) (by kernel_rfl) (by kernel_rfl) (fun _ _ _ h => h) (Or.inl ⟨by rfl, ?hy⟩) (by assumption) ?_
          case hy => intro W hSw; (try dsimp only at hSw); go_simp; try rfl
          simp only [Act.put, List.setIfInBounds_toArray, List.set_cons_zero, List.set_cons_succ]
          refine wpAnyH_take (i := 10) (oi := ⟨some _, _, _, _, _, _⟩) (v := ?_) rfl (by kernel_rfl) (by kernel_rfl) (by kernel_rfl) (fun _ _ _ h => h) (Or.inl ⟨by rfl, ?hy⟩) (by assumption) ?_
          case hy => intro W hSw; (try dsimp only at hSw); go_simp; try rfl
          simp only [Act.put, List.setIfInBounds_toArray, List.set_cons_zero, List.set_cons_succ]
          refine wpAnyH_take (i := 11) (oi := ⟨some _, _, _, _, _, _⟩) (v := ?_) rfl (by kernel_rfl) (by kernel_rfl) (by kernel_rfl) (fun _ _ _ h => h) (Or.inl ⟨by rfl, ?hy⟩) (by assumption) ?_
          case hy => intro W hSw; (try dsimp only at hSw); go_simp; try rfl
          simp only [Act.put, List.setIfInBounds_toArray, List.set_cons_zero, List.set_cons_succ]
          refine wpAnyH_take (i := 12) (oi := ⟨some _, _, _, _, _, _⟩) (v := ?_) rfl (by kernel_rfl) (by kernel_rfl) (by kernel_rfl) (fun _ _ _ h => h) (Or.inl ⟨by rfl, ?hy⟩) (by assumption) ?_
          case hy => intro W hSw; (try dsimp only at hSw); go_simp; try rfl
          simp only [Act.put, List.setIfInBounds_toArray, List.set_cons_zero, List.set_cons_succ]
          refine wpAnyH_take (i := 13) (oi := ⟨some _, _, _, _, _, _⟩) (v := ?_) rfl (by kernel_rfl) (by kernel_rfl) (by kernel_rfl) (fun _ _ _ h => h) (Or.inl ⟨by rfl, ?hy⟩) (by assumption) ?_
          case hy => intro W hSw; (try dsimp only at hSw); go_simp; try rfl
          simp only [Act.put, List.setIfInBounds_toArray, List.set_cons_zero, List.set_cons_succ]
          refine wpAnyH_take (i := 14) (oi := ⟨some _, _, _, _, _, _⟩) (v := ?_) rfl (by kernel_rfl) (by kernel_rfl) (by kernel_rfl) (fun _ _ _ h => h) (Or.inl ⟨by rfl, ?hy⟩) (by assumption) ?_
          case hy => intro W hSw; (try dsimp only at hSw); go_simp; try rfl
          simp only [Act.put, List.setIfInBounds_toArray, List.set_cons_zero, List.set_cons_succ]
          refine wpAnyH_take (i := 16) (oi := ⟨some _, _, _, _, _, _⟩) (v := ?_) rfl (by kernel_rfl) (by kernel_rfl) (by kernel_rfl) (fun _ _ _ h => h) (Or.inl ⟨by rfl, ?hy⟩) (by assumption) ?_
          case hy => intro W hSw; (try dsimp only at hSw); go_simp; try rfl
          simp only [Act.put, List.setIfInBounds_toArray, List.set_cons_zero, List.set_cons_succ]
          refine wpAnyH_take (i := 17) (oi := ⟨some _, _, _, _, _, _⟩) (v := ?_) rfl (by kernel_rfl) (by kernel_rfl) (by kernel_rfl) (fun _ _ _ h => h) (Or.inl ⟨by rfl, ?hy⟩) (by assumption) ?_
          case hy => intro W hSw; (try dsimp only at hSw); go_simp; try rfl
          simp only [Act.put, List.setIfInBounds_toArray, List.set_cons_zero, List.set_cons_succ]
          refine wpAnyH_ready (rs := [15]) (by kernel_rfl) (by simp) ?_
          refine AllReadyH.cons (o := ⟨some _, _, _, _, _, _⟩) rfl (fun K' hK' => ?_) AllReadyH.nil
          go_simp
          refine (CX.out).mono ?_
          rintro e wB ⟨rfl, hgB, DB, hMB, hDB⟩
          have HB1 := Lib.hid (And.intro hgB (And.intro hMB hDB))
          clear hgB hMB hDB
          refine hK'.out _ _ (HSW.out _ (HG0.out.trans HB1.out.1)) (fun hHeld => ?_)
          clear hK' K'
          try simp only [Act.put, List.setIfInBounds_toArray, List.set_cons_zero, List.set_cons_succ]
          refine wpAnyH_ready (rs := [18]) (by kernel_rfl) (by simp) ?_
          refine AllReadyH.cons (o := ⟨some _, _, _, _, _, _⟩) rfl (fun K' hK' => ?_) AllReadyH.nil
          go_simp
          refine (CY.out _ _ HB1.out.2.1 HB1.out.2.2).mono ?_
          rintro e wC ⟨rfl, hgC, DC, hMC, hDC⟩
          have HC1 := Lib.hid (And.intro hgC (And.intro hMC hDC))
          clear hgC hMC hDC
          refine hK'.out _ _ (HSW.out _ ((HG0.out.trans HB1.out.1).trans HC1.out.1)) (fun hHeld => ?_)
          clear hK' K'
          try simp only [Act.put, List.setIfInBounds_toArray, List.set_cons_zero, List.set_cons_succ]
          refine wpAnyH_take (i := 19) (oi := ⟨some _, _, _, _, _, _⟩) (v := ?_) rfl (by kernel_rfl) (by kernel_rfl) (by kernel_rfl) (fun _ _ _ h => h) (Or.inl ⟨by rfl, ?hy⟩) (by assumption) ?_
          case hy => intro W hSw; (try dsimp only at hSw); go_simp; try rfl
          simp only [Act.put, List.setIfInBounds_toArray, List.set_cons_zero, List.set_cons_succ]
          refine wpAnyH_take (i := 20) (oi := ⟨some _, _, _, _, _, _⟩) (v := ?_) rfl (by kernel_rfl) (by kernel_rfl) (by kernel_rfl) (fun _ _ _ h => h) (Or.inl ⟨by rfl, ?hy⟩) (by assumption) ?_
          case hy => intro W hSw; (try dsimp only at hSw); go_simp; try rfl
          simp only [Act.put, List.setIfInBounds_toArray, List.set_cons_zero, List.set_cons_succ]
          refine wpAnyH_take (i := 21) (oi := ⟨some _, _, _, _, _, _⟩) (v := ?_) rfl (by kernel_rfl) (by kernel_rfl) (by kernel_rfl) (fun _ _ _ h => h) (Or.inl ⟨by rfl, ?hy⟩) (by assumption) ?_
          case hy => intro W hSw; (try dsimp only at hSw); go_simp; try rfl
          simp only [Act.put, List.setIfInBounds_toArray, List.set_cons_zero, List.set_cons_succ]
          refine wpAnyH_done (by kernel_rfl) ?_ _
          refine hKs.out _ _ ?_
          have FRC : ∀ j, wC.frozen? ⟨bM + 1 + 1, j, none⟩ = false := (QB.out _ ((HG0.out.trans HB1.out.1).trans HC1.out.1)).2.2.2
          cases bb
          · have ZZ := Lib.hid (ZF.out _ _ _ HB1.out.1 HC1.out.1 HC1.out.2.1 HC1.out.2.2 (by have := EB.out; rw [decide_eq_false_iff_not] at this; omega))
            gi_wp2
            exact ZZ.out
          · have ZZ := Lib.hid (ZT.out _ _ _ HB1.out.1 HC1.out.1 HC1.out.2.1 HC1.out.2.2 (by have := EB.out; rw [decide_eq_true_eq] at this; omega))
            gi_wp2
            exact ZZ.out
        · have t0 : (kind == -1) = false := by rw [beq_eq_false_iff_ne]; exact h1
          have t1 : (kind == xk) = true := by rw [beq_iff_eq]; omega
          refine wpIn_block ?_
          refine wpIn_seq_k (fun K hK => ?_)
          have hKs := Lib.hid hK
          clear hK
          refine region_round (S := fun W => W.cell? ⟨w.heap.size, 0, none⟩ = some (.int .i64 kind) ∧ W.cell? ⟨bM + 1, 0, none⟩ = some (.map (some bM)) ∧ W.cell? ⟨Wa.heap.size, 0, none⟩ = some (.int .i64 xk) ∧ W.cell? ⟨Wa.heap.size, 1, none⟩ = some (.int .i64 xn) ∧ W.cell? ⟨Wa.heap.size, 2, none⟩ = some (.int .i64 xa) ∧ W.cell? ⟨bM + 1 + 1, 0, none⟩ = some (.int .i64 yk) ∧ W.cell? ⟨bM + 1 + 1, 1, none⟩ = some (.int .i64 yn) ∧ W.cell? ⟨bM + 1 + 1, 2, none⟩ = some (.int .i64 ya)) (by kernel_rfl) (by kernel_rfl) (by rintro ⟨a, w, h⟩; exact h) (HSW.out _ HG0.out) (fun hHeld => ?_)
          refine wpAnyH_take (i := 0) (oi := ⟨some _, _, _, _, _, _⟩) (v := ?_) rfl (by kernel_rfl) (by kernel_rfl) (by kernel_rfl) (fun _ _ _ h => h) (Or.inl ⟨by rfl, ?hy⟩) (by assumption) ?_
          case hy => intro W hSw; (try dsimp only at hSw); go_simp; try rfl
          simp only [Act.put, List.setIfInBounds_toArray, List.set_cons_zero, List.set_cons_succ]
          refine wpAnyH_take (i := 1) (oi := ⟨some _, _, _, _, _, _⟩) (v := ?_) rfl (by kernel_rfl) (by kernel_rfl) (by kernel_rfl) (fun _ _ _ h => h) (Or.inl ⟨by rfl, ?hy⟩) (by assumption) ?_
          case hy => intro W hSw; (try dsimp only at hSw); go_simp; try rfl
          simp only [Act.put, List.setIfInBounds_toArray, List.set_cons_zero, List.set_cons_succ]
          refine wpAnyH_take (i := 2) (oi := ⟨some _, _, _, _, _, _⟩) (v := ?_) rfl (by kernel_rfl) (by kernel_rfl) (by kernel_rfl) (fun _ _ _ h => h) (Or.inl ⟨by rfl, ?hy⟩) (by assumption) ?_
          case hy => intro W hSw; (try dsimp only at hSw); go_simp; try rfl
          simp only [Act.put, List.setIfInBounds_toArray, List.set_cons_zero, List.set_cons_succ]
          refine wpAnyH_take (i := 3) (oi := ⟨some _, _, _, _, _, _⟩) (v := ?_) rfl (by kernel_rfl) (by kernel_rfl) (by kernel_rfl) (fun _ _ _ h => h) (Or.inl ⟨by rfl, ?hy⟩) (by assumption) ?_
          case hy => intro W hSw; (try dsimp only at hSw); go_simp; try rfl
          simp only [Act.put, List.setIfInBounds_toArray, List.set_cons_zero, List.set_cons_succ]
          refine wpAnyH_take (i := 4) (oi := ⟨some _, _, _, _, _, _⟩) (v := ?_) rfl (by kernel_rfl) (by kernel_rfl) (by kernel_rfl) (fun _ _ _ h => h) (Or.inl ⟨by rfl, ?hy⟩) (by assumption) ?_
          case hy => intro W hSw; (try dsimp only at hSw); go_simp; try rfl
          simp only [Act.put, List.setIfInBounds_toArray, List.set_cons_zero, List.set_cons_succ]
          refine wpAnyH_take (i := 5) (oi := ⟨some _, _, _, _, _, _⟩) (v := ?_) rfl (by kernel_rfl) (by kernel_rfl) (by kernel_rfl) (fun _ _ _ h => h) (Or.inl ⟨by rfl, ?hy⟩) (by assumption) ?_
          case hy => intro W hSw; (try dsimp only at hSw); go_simp; try rfl
          simp only [Act.put, List.setIfInBounds_toArray, List.set_cons_zero, List.set_cons_succ]
          refine wpAnyH_take (i := 6) (oi := ⟨some _, _, _, _, _, _⟩) (v := ?_) rfl (by kernel_rfl) (by kernel_rfl) (by kernel_rfl) (fun _ _ _ h => h) (Or.inl ⟨by rfl, ?hy⟩) (by assumption) ?_
          case hy => intro W hSw; (try dsimp only at hSw); go_simp; try rfl
          simp only [Act.put, List.setIfInBounds_toArray, List.set_cons_zero, List.set_cons_succ]
          refine wpAnyH_take (i := 7) (oi := ⟨some _, _, _, _, _, _⟩) (v := ?_) rfl (by kernel_rfl) (by kernel_rfl) (by kernel_rfl) (fun _ _ _ h => h) (Or.inl ⟨by rfl, ?hy⟩) (by assumption) ?_
          case hy => intro W hSw; (try dsimp only at hSw); go_simp; try rfl
          simp only [Act.put, List.setIfInBounds_toArray, List.set_cons_zero, List.set_cons_succ]
          refine wpAnyH_take (i := 8) (oi := ⟨some _, _, _, _, _, _⟩) (v := ?_) rfl (by kernel_rfl) (by kernel_rfl) (by kernel_rfl) (fun _ _ _ h => h) (Or.inl ⟨by rfl, ?hy⟩) (by assumption) ?_
          case hy => intro W hSw; (try dsimp only at hSw); go_simp; try rfl
          simp only [Act.put, List.setIfInBounds_toArray, List.set_cons_zero, List.set_cons_succ]
          refine wpAnyH_take (i := 9) (oi := ⟨some _, _, _, _, _, _⟩) (v := ?_) rfl (by kernel_rfl) (by kernel_rfl) (by kernel_rfl) (fun _ _ _ h => h) (Or.inl ⟨by rfl, ?hy⟩) (by assumption) ?_
          case hy => intro W hSw; (try dsimp only at hSw); go_simp; try rfl
          simp only [Act.put, List.setIfInBounds_toArray, List.set_cons_zero, List.set_cons_succ]
          refine wpAnyH_take (i := 10) (oi := ⟨some _, _, _, _, _, _⟩) (v := ?_) rfl (by kernel_rfl) (by kernel_rfl) (by kernel_rfl) (fun _ _ _ h => h) (Or.inl ⟨by rfl, ?hy⟩) (by assumption) ?_
          case hy => intro W hSw; (try dsimp only at hSw); go_simp; try rfl
          simp only [Act.put, List.setIfInBounds_toArray, List.set_cons_zero, List.set_cons_succ]
          refine wpAnyH_take (i := 11) (oi := ⟨some _, _, _, _, _, _⟩) (v := ?_) rfl (by kernel_rfl) (by kernel_rfl) (by kernel_rfl) (fun _ _ _ h => h) (Or.inl ⟨by rfl, ?hy⟩) (by assumption) ?_
          case hy => intro W hSw; (try dsimp only at hSw); go_simp; try rfl
          simp only [Act.put, List.setIfInBounds_toArray, List.set_cons_zero, List.set_cons_succ]
          refine wpAnyH_take (i := 12) (oi := ⟨some _, _, _, _, _, _⟩) (v := ?_) rfl (by kernel_rfl) (by kernel_rfl) (by kernel_rfl) (fun _ _ _ h => h) (Or.inl ⟨by rfl, ?hy⟩) (by assumption) ?_
          case hy => intro W hSw; (try dsimp only at hSw); go_simp; try rfl
          simp only [Act.put, List.setIfInBounds_toArray, List.set_cons_zero, List.set_cons_succ]
          refine wpAnyH_take (i := 13) (oi := ⟨some _, _, _, _, _, _⟩) (v := ?_) rfl (by kernel_rfl) (by kernel_rfl) (by kernel_rfl) (fun _ _ _ h => h) (Or.inl ⟨by rfl, ?hy⟩) (by assumption) ?_
          case hy => intro W hSw; (try dsimp only at hSw); go_simp; try rfl
          simp only [Act.put, List.setIfInBounds_toArray, List.set_cons_zero, List.set_cons_succ]
          refine wpAnyH_take (i := 14) (oi := ⟨some _, _, _, _, _, _⟩) (v := ?_) rfl (by kernel_rfl) (by kernel_rfl) (by kernel_rfl) (fun _ _ _ h => h) (Or.inl ⟨by rfl, ?hy⟩) (by assumption) ?_
          case hy => intro W hSw; (try dsimp only at hSw); go_simp; try rfl
          simp only [Act.put, List.setIfInBounds_toArray, List.set_cons_zero, List.set_cons_succ]
          refine wpAnyH_take (i := 16) (oi := ⟨some _, _, _, _, _, _⟩) (v := ?_) rfl (by kernel_rfl) (by kernel_rfl) (by kernel_rfl) (fun _ _ _ h => h) (Or.inl ⟨by rfl, ?hy⟩) (by assumption) ?_
          case hy => intro W hSw; (try dsimp only at hSw); go_simp; try rfl
          simp only [Act.put, List.setIfInBounds_toArray, List.set_cons_zero, List.set_cons_succ]
          refine wpAnyH_take (i := 17) (oi := ⟨some _, _, _, _, _, _⟩) (v := ?_) rfl (by kernel_rfl) (by kernel_rfl) (by kernel_rfl) (fun _ _ _ h => h) (Or.inl ⟨by rfl, ?hy⟩) (by assumption) ?_
          case hy => intro W hSw; (try dsimp only at hSw); go_simp; try rfl
          simp only [Act.put, List.setIfInBounds_toArray, List.set_cons_zero, List.set_cons_succ]
          refine wpAnyH_ready (rs := [15]) (by kernel_rfl) (by simp) ?_
          refine AllReadyH.cons (o := ⟨some _, _, _, _, _, _⟩) rfl (fun K' hK' => ?_) AllReadyH.nil
          go_simp
          refine (CX.out).mono ?_
          rintro e wB ⟨rfl, hgB, DB, hMB, hDB⟩
          have HB1 := Lib.hid (And.intro hgB (And.intro hMB hDB))
          clear hgB hMB hDB
          refine hK'.out _ _ (HSW.out _ (HG0.out.trans HB1.out.1)) (fun hHeld => ?_)
          clear hK' K'
          try simp only [Act.put, List.setIfInBounds_toArray, List.set_cons_zero, List.set_cons_succ]
          refine wpAnyH_ready (rs := [18]) (by kernel_rfl) (by simp) ?_
          refine AllReadyH.cons (o := ⟨some _, _, _, _, _, _⟩) rfl (fun K' hK' => ?_) AllReadyH.nil
          go_simp
          refine (CY.out _ _ HB1.out.2.1 HB1.out.2.2).mono ?_
          rintro e wC ⟨rfl, hgC, DC, hMC, hDC⟩
          have HC1 := Lib.hid (And.intro hgC (And.intro hMC hDC))
          clear hgC hMC hDC
          refine hK'.out _ _ (HSW.out _ ((HG0.out.trans HB1.out.1).trans HC1.out.1)) (fun hHeld => ?_)
          clear hK' K'
          try simp only [Act.put, List.setIfInBounds_toArray, List.set_cons_zero, List.set_cons_succ]
          refine wpAnyH_take (i := 19) (oi := ⟨some _, _, _, _, _, _⟩) (v := ?_) rfl (by kernel_rfl) (by kernel_rfl) (by kernel_rfl) (fun _ _ _ h => h) (Or.inl ⟨by rfl, ?hy⟩) (by assumption) ?_
          case hy => intro W hSw; (try dsimp only at hSw); go_simp; try rfl
          simp only [Act.put, List.setIfInBounds_toArray, List.set_cons_zero, List.set_cons_succ]
          refine wpAnyH_take (i := 20) (oi := ⟨some _, _, _, _, _, _⟩) (v := ?_) rfl (by kernel_rfl) (by kernel_rfl) (by kernel_rfl) (fun _ _ _ h => h) (Or.inl ⟨by rfl, ?hy⟩) (by assumption) ?_
          case hy => intro W hSw; (try dsimp only at hSw); go_simp; try rfl
          simp only [Act.put, List.setIfInBounds_toArray, List.set_cons_zero, List.set_cons_succ]
          refine wpAnyH_take (i := 21) (oi := ⟨some _, _, _, _, _, _⟩) (v := ?_) rfl (by kernel_rfl) (by kernel_rfl) (by kernel_rfl) (fun _ _ _ h => h) (Or.inl ⟨by rfl, ?hy⟩) (by assumption) ?_
          case hy => intro W hSw; (try dsimp only at hSw); go_simp; try rfl
          simp only [Act.put, List.setIfInBounds_toArray, List.set_cons_zero, List.set_cons_succ]
          refine wpAnyH_done (by kernel_rfl) ?_ _
          refine hKs.out _ _ ?_
          have FRC : ∀ j, wC.frozen? ⟨bM + 1 + 1, j, none⟩ = false := (QB.out _ ((HG0.out.trans HB1.out.1).trans HC1.out.1)).2.2.2
          cases bb
          · have ZZ := Lib.hid (ZF.out _ _ _ HB1.out.1 HC1.out.1 HC1.out.2.1 HC1.out.2.2 (by have := EB.out; rw [decide_eq_false_iff_not] at this; omega))
            gi_wp2
            exact ZZ.out
          · have ZZ := Lib.hid (ZT.out _ _ _ HB1.out.1 HC1.out.1 HC1.out.2.1 HC1.out.2.2 (by have := EB.out; rw [decide_eq_true_eq] at this; omega))
            gi_wp2
            exact ZZ.out
  case done =>
    intro D xs W hD hxs hi hkd hm
    subst hxs
    have hq := hi.1
    have y1 := XS.out.2.2.2.1.of_block (hkd.block _ XS.out.2.2.2.1.lt (by omega))
    have y5 : Below w.heap.size w W := XS.out.2.2.2.2.2.2.2.trans (hkd.below XS.out.2.2.2.2.2.2.2.size (fun j hj => by omega))
    have HQ := Lib.hid hq
    have HY := Lib.hid y1
    have H5 := Lib.hid y5
    have HM := Lib.hid hm
    have hDD := Lib.hid hD
    obtain ⟨⟨yk, yn, ya⟩, ey⟩ : ∃ y, plO (bestP kind (allO p n)) = y := ⟨_, rfl⟩
    rw [ey] at HQ
    obtain ⟨q0, q1, q2, q3⟩ := HQ.out
    obtain ⟨r0, r1, r2, r3⟩ := y1
    simp only at q0 q1 q2 r0 r1 r2
    clear hq y5 hm hkd hi hD
    have ne : bM + 2 ≠ w.heap.size + 1 := by omega
    have FIN : Hid (∀ r : Nat, chE p n kind = r → ∀ W', Below w.heap.size w W' → ChPost p n kind w (.returned (.tuple #[.agg #[.int .i64 yk, .int .i64 yn, .int .i64 ya], .int .i64 r])) W') := Lib.hid fun r hr W' hb => ⟨by unfold chO; rw [ey, hr]; rfl, hb⟩
    have WW : Hid (∀ W', W' = ((W.setCell ⟨w.heap.size + 1, 0, none⟩ (.int .i64 yk)).setCell ⟨w.heap.size + 1, 1, none⟩ (.int .i64 yn)).setCell ⟨w.heap.size + 1, 2, none⟩ (.int .i64 ya) → PlAt (W'.putObj D (.deferred none)) (w.heap.size + 1) ⟨yk, yn, ya⟩ ∧ W'.heap[D]? = some (.deferred (some [])) ∧ Below w.heap.size w (W'.putObj D (.deferred none))) := Lib.hid (by
      rintro W' rfl
      have hp := HY.out.set3 yk yn ya
      have hg := set3_grown W (w.heap.size + 1) (.int .i64 yk) (.int .i64 yn) (.int .i64 ya)
      have hd := (hg.block D (Array.getElem?_eq_some_iff.1 HM.out).1 (fun e => by have := hDD.out; injection e with e; omega)).trans HM.out
      refine ⟨hp.of_block (World.putObj_heap_other (by have := hDD.out; omega)), hd, ?_⟩
      exact (H5.out.grown hg H5.out.size (fun k e => by cases e; omega)).grown (grownBy_putObj' _ D _) (Nat.le_trans H5.out.size hg.size) (fun k e => by cases e; have := hDD.out; have := H5.out.size; have := XS.out.2.2.2.2.2.2.2.size; omega))
    cases eb : bestP kind (allO p n) with
    | none =>
      rw [eb] at ey
      obtain ⟨rfl, rfl, rfl⟩ : yk = 0 ∧ yn = 0 ∧ ya = 0 := by
        injection ey with e1 e2 e3
        exact ⟨e1.symm, e2.symm, e3.symm⟩
      have F2 := Lib.hid (FIN.out 11 (by unfold chE; rw [if_neg (by simpa using hc), eb]))
      clear FIN
      gi_wp2
      obtain ⟨v1, v2, v3⟩ := WW.out _ rfl
      obtain ⟨d0, d1, d2, d3⟩ := v1
      simp only at d0 d1 d2
      have Z := Lib.hid (F2.out _ v3)
      clear F2 WW v3 q0 q1 q2 q3 r0 r1 r2 r3
      refine ⟨by simp, .inl ⟨_, _, rfl, run_takeDeferred v2, ?_⟩⟩
      clear v2
      revert d0 d1 d2 d3 Z
      generalize (World.putObj _ D (Obj.deferred none)) = WF
      intro d0 d1 d2 d3 Z
      refine ⟨.tuple #[.agg #[.int .i64 0, .int .i64 0, .int .i64 0], .int .i64 11], ?_, Z.out⟩
      rw [results_cell_tmp rfl]
      simp [go_sem, *]
    | some y' =>
      rw [eb] at ey
      obtain rfl : y' = ⟨yk, yn, ya⟩ := ey
      have hyn : ¬ yn = 0 := by have := (allO_can (p := p) (n := n) (bestP_mem kind _ _ eb)).2; simp only at this; omega
      have F2 := Lib.hid (FIN.out 0 (by unfold chE; rw [if_neg (by simpa using hc), eb]))
      clear FIN
      gi_wp2
      obtain ⟨v1, v2, v3⟩ := WW.out _ rfl
      obtain ⟨d0, d1, d2, d3⟩ := v1
      simp only at d0 d1 d2
      have Z := Lib.hid (F2.out _ v3)
      clear F2 WW v3 q0 q1 q2 q3 r0 r1 r2 r3
      refine ⟨by simp, .inl ⟨_, _, rfl, run_takeDeferred v2, ?_⟩⟩
      clear v2
      revert d0 d1 d2 d3 Z
      generalize (World.putObj _ D (Obj.deferred none)) = WF
      intro d0 d1 d2 d3 Z
      refine ⟨.tuple #[.agg #[.int .i64 yk, .int .i64 yn, .int .i64 ya], .int .i64 0], ?_, Z.out⟩
      rw [results_cell_tmp rfl]
      simp [go_sem, *]
  case stop =>
    exact fun D c pre W _ _ h => h.elim
theorem choose_any (o : Option Addr) (p g : Nat) (n kind : Int) (w : World) (h : FdO w o p g) : Calls Tryz.prog 23 #[.pointer o, .int .i64 n, .int .i64 kind] w (ChPost p n kind w) := by
  by_cases hc : ckO p n = 0
  · exact choose_good o p g n kind w h hc
  · exact choose_bad o p g n kind w h hc
end SCh
end Go.Proofs.YtbokindcnkknmaaGreat
