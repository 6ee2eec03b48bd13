/- The plans by parts, handed out one by one; all plans of a way. -/
import Derived.Test.YtbokindcnkknmaaGreatOg
set_option linter.unusedVariables false
namespace Go.Proofs.YtbokindcnkknmaaGreat
section SOh
open Go.RowKit Epi
theorem refTo_pre {p : Nat} {n : Int} {k a b : Nat} (h : a ≤ b) : refTo p n k a <+: refTo p n k b := by
  obtain ⟨d, rfl⟩ := Nat.exists_eq_add_of_le h
  clear h
  induction d with
  | zero => exact List.prefix_refl _
  | succ d ih =>
    rw [show a + (d + 1) = a + d + 1 by omega, refTo_succ]
    exact ih.trans (List.prefix_append _ _)
theorem parts_cp {p : Nat} {n a : Int} (h : fitsF p ⟨4, n, a⟩ = 0) : 1 < a ∧ a < n := by
  obtain ⟨⟨h1, h2, h3⟩, -, -⟩ := fits_can h
  rcases h3 with h | h | h | h | h | h <;> simp at h
  unfold cpF at h
  rw [decide_eq_true_eq] at h
  exact ⟨h.1, h.2.1⟩
theorem refTo_two {p : Nat} {n : Int} : refTo p n 4 2 = [] := by
  rw [refTo_succ, refTo_succ, if_neg (fun hc => by have := (parts_cp (a := ((0 : Nat) : Int)) hc).1; omega), if_neg (fun hc => by have := (parts_cp (a := ((1 : Nat) : Int)) hc).1; omega)]
  rfl
theorem refTo_past {p : Nat} {n : Int} (d : Nat) : refTo p n 4 (n.toNat + d) = ofP p n 4 := by
  induction d with
  | zero => exact refTo_parts
  | succ d ih =>
    rw [show n.toNat + (d + 1) = n.toNat + d + 1 by omega, refTo_succ, ih, if_neg (fun hc => by have := (parts_cp hc).2; omega), List.append_nil]
theorem refTo_of {p : Nat} {n : Int} {a : Nat} (h : n.toNat ≤ a) : refTo p n 4 a = ofP p n 4 := by
  obtain ⟨d, rfl⟩ := Nat.exists_eq_add_of_le h
  exact refTo_past d
theorem refTo_ofP {p : Nat} {n : Int} {a : Nat} : refTo p n 4 a <+: ofP p n 4 := by
  rw [← refTo_of (p := p) (n := n) (a := n.toNat + a) (by omega)]
  exact refTo_pre (by omega)
set_option maxRecDepth 100000 in
set_option maxHeartbeats 2000000 in
theorem of1_parts (w0 : World) (o : Option Addr) (p g : Nat) (m : Nat) (hf : FdO w0 o p g) (hp : p ≠ 0) (hm : m ≤ 1024) (w : World) (b1 b2 b3 : Nat)
    (hB : Below w0.heap.size w0 w) (k1 : Boxed w b1 34 (.int .i64 4)) (k2 : Boxed w b2 3 (.int .i64 m)) (k3 : Boxed w b3 29 (.pointer o)) (l : Nat) (J Jx : List Pl → World → Prop)
    (U : Nat → Prop) (hU : ∀ k, U k → w0.heap.size ≤ k ∧ k ≠ b1 ∧ k ≠ b2 ∧ k ≠ b3)
    (hJ : OwnFrom w.heap.size J) (h0 : J [] w) (hY : ∀ pre x W, J pre W → pre ++ [x] <+: ofP p m 4 → YieldAt Fence.wide 0 Tryz.prog l #[plV x] W fun e W' => (e = .returned (.bool true) ∧ J (pre ++ [x]) W' ∧ KpU U W W') ∨ (e = .returned (.bool false) ∧ Jx (pre ++ [x]) W')) :
    Calls Tryz.prog 116 #[.func (.yield l) #[] #[], .pointer (some ⟨b1, 0, none⟩), .pointer (some ⟨b2, 0, none⟩), .pointer (some ⟨b3, 0, none⟩)] w (ItPost (fun xs => xs = ofP p m 4) (fun pre => pre <+: ofP p m 4) J Jx) := by
  have tw : ∀ f, Fence.wide.fn f := fun _ => trivial
  have HK : Hid (∀ wr, KpU U w wr → Below w0.heap.size w0 wr ∧ wr.cell? ⟨b1, 0, none⟩ = some (.int .i64 4) ∧ wr.cell? ⟨b2, 0, none⟩ = some (.int .i64 m) ∧ wr.cell? ⟨b3, 0, none⟩ = some (.pointer o) ∧ b1 < wr.heap.size ∧ b2 < wr.heap.size ∧ b3 < wr.heap.size) := Lib.hid fun wr hk => by
    have x1 := hk.boxed k1 (fun h => (hU _ h).2.1 rfl)
    have x2 := hk.boxed k2 (fun h => (hU _ h).2.2.1 rfl)
    have x3 := hk.boxed k3 (fun h => (hU _ h).2.2.2 rfl)
    exact ⟨hB.trans (hk.below hB.size (fun k h => (hU k h).1)), x1.cell, x2.cell, x3.cell, x1.lt, x2.lt, x3.lt⟩
  have C := Lib.hid (fun m' (a : Nat) W (hb : Below w0.heap.size w0 W) => (callsIn_wide (n := m')).2 ((pfits_any o p g ⟨4, m, a⟩ W (hf.below hb)).mono (fun e w' h => (show e = .returned (.int .i64 (fitsF p ⟨4, m, a⟩ : Nat)) ∧ Below W.heap.size W w' from by rw [show ftF p ⟨4, m, a⟩ = fitsF p ⟨4, m, a⟩ from if_neg hp] at h; exact h))))
  have HJ := Lib.hid (fun pre A B (h : J pre A) (hg : A.grownBy B none) => hJ pre A B none h hg (fun r e => by cases e))
  have HY := Lib.hid hY
  have H0 := Lib.hid h0
  have K1 := k1.cell
  have K2 := k2.cell
  have K3 := k3.cell
  have l1 := k1.lt
  have l2 := k2.lt
  have l3 := k3.lt
  unfold plV at C HY
  simp only at C
  clear hY hJ h0 hf hB hU k1 k2 k3
  refine (callsIn_wide (n := 5)).1 (callsIn_of_wp Tryz.func116 rfl trivial ?_ rfl)
  simp only [Tryz.ntmps116, List.size_toArray, List.length_cons, List.length_nil, Nat.reduceAdd, Nat.reduceSub, Array.replicate_succ, Array.replicate_zero, List.push_toArray, List.append_toArray, List.nil_append, List.cons_append]
  gi_wp2_with fail
  gi_loopw [5] (fun s5 wr => ∃ a : Nat, s5 = .int .i64 a ∧ 2 ≤ a ∧ a ≤ 2000 ∧ KpU U w wr ∧ Hid (J (refTo p m 4 a) wr)) (fun s5 _ => m - (intOf s5).toNat)
  case atStart => exact ⟨2, rfl, Nat.le_refl _, by omega, KpU.refl _ _, Lib.hid (by rw [refTo_two]; exact H0.out)⟩
  case round =>
    obtain ⟨a, rfl, h2, h3, hk, hj⟩ := hrel
    obtain ⟨hB, x1, x2, x3, y1, y2, y3⟩ := HK.out _ hk
    have HB := Lib.hid hB
    clear K1 K2 K3 l1 l2 l3 hB
    by_cases hlt : a < m
    case neg =>
      have t1 : decide ((a : Int) < m) = false := by rw [decide_eq_false_iff_not]; omega
      have Z : Hid (∀ v, ItPost (fun xs => xs = ofP p m 4) (fun pre => pre <+: ofP p m 4) J Jx (.returned v) wr) := Lib.hid fun v => ⟨⟨_, rfl⟩, .inl ⟨_, refTo_of (by omega), hj.out⟩⟩
      clear hj
      gi_wp2_with fail
      go_end0
      exact Z.out _
    case pos =>
      have t1 : decide ((a : Int) < m) = true := by rw [decide_eq_true_eq]; omega
      have hs := refTo_succ p m 4 a
      have HE : Hid (IntKind.i64.wrap ((a : Int) + 1) = ((a + 1 : Nat) : Int)) := Lib.hid (by rw [IntWalk.i64_in _ ⟨by omega, by omega⟩]; omega)
      have HA : Hid (∀ ob : Obj, Below wr.heap.size wr (wr.alloc ob)) := Lib.hid fun ob => (Below.refl _ _).alloc (Nat.le_refl _) _
      have C' := Lib.hid (fun m' W hb => C.out m' a W hb)
      obtain ⟨r, er⟩ : ∃ r, fitsF p ⟨4, m, a⟩ = r := ⟨_, rfl⟩
      simp only [er] at C'
      simp only [show ((4 : Nat) : Int) = 4 from rfl, er] at hs
      by_cases hr : r = 0
      case neg =>
        have t0 : ((r : Int) == 0) = false := by rw [beq_eq_false_iff_ne]; omega
        rw [if_neg hr, List.append_nil] at hs
        have ZR : Hid (∀ W', Below wr.heap.size wr W' → ∃ a' : Nat, Value.int .i64 ((a : Int) + 1) = .int .i64 a' ∧ 2 ≤ a' ∧ a' ≤ 2000 ∧ KpU U w W' ∧ Hid (J (refTo p m 4 a') W')) := Lib.hid fun W' hb => ⟨a + 1, rfl, by omega, by omega, hk.trans (KpU.of_below hb), Lib.hid (by rw [hs]; exact HJ.out _ _ _ hj.out (grown_below hb _))⟩
        clear hs hj
        gi_wp2_with (gi_at_call 14; refine (C'.out _ _ (HB.out.trans ((HA.out _).mono HB.out.size))).mono ?_; rintro e w1 ⟨rfl, hb⟩; have HC := Lib.hid (bl_trans (HA.out _) hb); clear hb)
        exact ⟨ZR.out _ HC.out, by simp only [intOf]; omega⟩
      case pos =>
        subst hr
        rw [if_pos rfl] at hs
        have hpre : refTo p m 4 a ++ [⟨4, m, a⟩] <+: ofP p m 4 := by rw [← hs]; exact refTo_ofP
        have HY1 := Lib.hid (fun W h => yieldAt_any (m' := 4) (HY.out _ ⟨4, m, a⟩ W h hpre))
        simp only at HY1
        have HJ1 := Lib.hid (fun W' (hb : Below wr.heap.size wr W') => HJ.out _ _ _ hj.out (grown_below hb none))
        have ZR : Hid (∀ w1 W', Below wr.heap.size wr w1 → KpU U w1 W' → J (refTo p m 4 a ++ [⟨4, m, a⟩]) W' → ∃ a' : Nat, Value.int .i64 ((a : Int) + 1) = .int .i64 a' ∧ 2 ≤ a' ∧ a' ≤ 2000 ∧ KpU U w W' ∧ Hid (J (refTo p m 4 a') W')) := Lib.hid fun w1 W' hb hk' hj' => ⟨a + 1, rfl, by omega, by omega, (hk.trans (KpU.of_below hb)).trans hk', Lib.hid (by rw [hs]; exact hj')⟩
        have ZX : Hid (∀ W' v, Jx (refTo p m 4 a ++ [⟨4, m, a⟩]) W' → ItPost (fun xs => xs = ofP p m 4) (fun pre => pre <+: ofP p m 4) J Jx (.returned v) W') := Lib.hid fun W' v hj' => ⟨⟨_, rfl⟩, .inr ⟨_, hpre, hj'⟩⟩
        clear hs hj hpre HY
        gi_wp2_with (gi_at_call 14; refine (C'.out _ _ (HB.out.trans ((HA.out _).mono HB.out.size))).mono ?_; rintro e w1 ⟨rfl, hb⟩; have c0 := (hb.cell (p := ⟨wr.heap.size, 0, none⟩) (by simp)).trans (World.cell?_alloc_at _ _ _ _ rfl); have c1 := (hb.cell (p := ⟨wr.heap.size, 1, none⟩) (by simp)).trans (World.cell?_alloc_at _ _ _ _ rfl); have c2 := (hb.cell (p := ⟨wr.heap.size, 2, none⟩) (by simp)).trans (World.cell?_alloc_at _ _ _ _ rfl); have HC := Lib.hid (bl_trans (HA.out _) hb); clear hb; obtain ⟨fn, tmps, assign, body, hy, hR⟩ := HY1.out w1 (HJ1.out _ HC.out))
        refine hR.mono ?_
        rintro e W3 (⟨rfl, hJ3, hk3⟩ | ⟨rfl, hJ3⟩)
        · have ZZ := Lib.hid (ZR.out w1 W3 HC.out hk3 hJ3)
          clear hJ3 hk3
          gi_wp2
          exact ⟨ZZ.out, by simp only [intOf]; omega⟩
        · have ZZ := Lib.hid (fun v => ZX.out W3 v hJ3)
          clear hJ3
          gi_wp2
          refine bodyPost_ret (results_none rfl _ _ _) rfl ?_
          exact ZZ.out _
/-- The plans of a way, handed out one by one. -/
theorem of1_seq (w0 : World) (o : Option Addr) (p g : Nat) (m k : Nat) (hf : FdO w0 o p g) (hp : p ≠ 0) (hm : m ≤ 1024) (hk : k ≤ 6) (w : World) (b1 b2 b3 : Nat)
    (hB : Below w0.heap.size w0 w) (k1 : Boxed w b1 34 (.int .i64 k)) (k2 : Boxed w b2 3 (.int .i64 m)) (k3 : Boxed w b3 29 (.pointer o)) :
    SeqU Tryz.prog 116 #[.pointer (some ⟨b1, 0, none⟩), .pointer (some ⟨b2, 0, none⟩), .pointer (some ⟨b3, 0, none⟩)] (fun x => #[plV x]) (fun j => j < w0.heap.size ∨ j = b1 ∨ j = b2 ∨ j = b3) (fun xs => xs = ofP p m k) (fun pre => pre <+: ofP p m k) w := by
  intro l U J Jx W hkp hR hU hJ hJx hY h0
  have hlow : ∀ j, U j → w0.heap.size ≤ j := fun j hj => Nat.le_of_not_lt fun h => hR j (.inl h) hj
  have hB' : Below w0.heap.size w0 W := hB.trans (hkp.below hB.size hlow)
  have k1' := hkp.boxed k1 (fun h => hR _ (.inr (.inl rfl)) h)
  have k2' := hkp.boxed k2 (fun h => hR _ (.inr (.inr (.inl rfl))) h)
  have k3' := hkp.boxed k3 (fun h => hR _ (.inr (.inr (.inr rfl))) h)
  have weak : ∀ pre x W1, J pre W1 → pre ++ [x] <+: ofP p m k → YieldAt Fence.wide 0 Tryz.prog l #[plV x] W1 fun e W' => (e = .returned (.bool true) ∧ J (pre ++ [x]) W') ∨ (e = .returned (.bool false) ∧ Jx (pre ++ [x]) W') := fun pre x W1 h1 h2 =>
    yieldAt_mono (hY pre x W1 h1 h2) fun e W' h => by
      rcases h with h | h
      · exact .inl ⟨h.1, h.2.1⟩
      · exact .inr ⟨h.1, h.2.1⟩
  rcases (show k < 4 ∨ k = 4 ∨ k = 5 ∨ k = 6 by omega) with h4 | rfl | rfl | rfl
  · exact of1_few w0 o p g m k hf hp h4 W b1 b2 b3 hB' k1' k2' k3' l J Jx hJ h0 weak
  · exact of1_parts w0 o p g m hf hp hm W b1 b2 b3 hB' k1' k2' k3' l J Jx U (fun j hj => ⟨hlow j hj, fun e => hR _ (.inr (.inl e)) hj, fun e => hR _ (.inr (.inr (.inl e))) hj, fun e => hR _ (.inr (.inr (.inr e))) hj⟩) hJ h0 (fun pre x W1 h1 h2 => yieldAt_mono (hY pre x W1 h1 h2) fun e W' h => by
      rcases h with h | h
      · exact .inl h
      · exact .inr ⟨h.1, h.2.1⟩)
  · exact of1_pr w0 o p g m hf hp W b1 b2 b3 hB' k1' k2' k3' l J Jx hJ h0 weak
  · exact of1_an w0 o p g m hf hp W b1 b2 b3 hB' k1' k2' k3' l J Jx hJ h0 weak
end SOh
section SOi
open Go.RowKit Epi
attribute [local go_sem] Oper.semAt_some
theorem pall_any (o : Option Addr) (n : Int) (w : World) : Calls Tryz.prog 21 #[.pointer o, .int .i64 n] w fun e w' => e = .returned (.func (.func 55) #[] #[.pointer (some ⟨w.heap.size, 0, none⟩), .pointer (some ⟨w.heap.size + 1, 0, none⟩)]) ∧
    Below w.heap.size w w' ∧ Boxed w' w.heap.size 29 (.pointer o) ∧ Boxed w' (w.heap.size + 1) 3 (.int .i64 n) := by
  go_enter Tryz.func21, Tryz.ntmps21
  go_wp2_with fail
  go_ret
  refine ⟨by simp, ?_, ?_, ?_⟩
  · exact ((Below.refl _ _).alloc (Nat.le_refl _) _).alloc (by simp) _
  · exact (Boxed.new _ _ _).alloc _
  · exact (show w.heap.size + 1 = (w.alloc _).heap.size by simp) ▸ Boxed.new _ _ _
/-- What is wrong with a length; 2: there is no field. -/
def ckO (p : Nat) (n : Int) : Nat := if p = 0 then 2 else ckF p n 1024
theorem pck_any (o : Option Addr) (p g : Nat) (n : Int) (w : World) (h : FdO w o p g) : Calls Tryz.prog 47 #[.pointer o, .int .i64 n] w fun e w' => e = .returned (.int .i64 (ckO p n : Nat)) ∧ Below w.heap.size w w' := by
  rcases h with ⟨rfl, rfl, rfl⟩ | ⟨b, hf, rfl⟩
  · exact (pcheck_nil n w).mono (by rintro e w' ⟨rfl, k, rfl⟩; exact ⟨rfl, bl_drew (Below.refl _ _) _⟩)
  · have hp : p ≠ 0 := by have := hf.1.2.1; omega
    exact (pcheck_any b p g n w hf).mono (by rintro e w' ⟨rfl, k, rfl⟩; exact ⟨by unfold ckO; rw [if_neg hp], bl_drew (Below.refl _ _) _⟩)
/-- All plans of a length, as they are handed out. -/
noncomputable def allO (p : Nat) (n : Int) : List Pl := if p = 0 then [] else allP p n
theorem allO_bad {p : Nat} {n : Int} (h : ckO p n ≠ 0) : allO p n = [] := by
  unfold allO
  unfold ckO at h
  by_cases hp : p = 0
  · rw [if_pos hp]
  · rw [if_neg hp] at h ⊢
    exact allTo_bad h 7
theorem allTo_pre {p : Nat} {n : Int} {a b : Nat} (h : a ≤ b) : allTo p n a <+: allTo p n b := by
  obtain ⟨d, rfl⟩ := Nat.exists_eq_add_of_le h
  clear h
  induction d with
  | zero => exact List.prefix_refl _
  | succ d ih =>
    rw [show a + (d + 1) = a + d + 1 by omega]
    exact ih.trans (show allTo p n (a + d) <+: allTo p n (a + d) ++ ofP p n (a + d) from List.prefix_append _ _)
theorem allTo_of {p : Nat} {n : Int} {k : Nat} {pre : List Pl} {x : Pl} (hk : k ≤ 6) (h : pre ++ [x] <+: ofP p n k) : allTo p n k ++ pre ++ [x] <+: allP p n := by
  rw [List.append_assoc]
  have h1 : allTo p n k ++ (pre ++ [x]) <+: allTo p n (k + 1) := (List.prefix_append_right_inj _).mpr h
  exact h1.trans (allTo_pre (by omega))
theorem TurnL.plAt {b l : Nat} {W W' : World} (h : TurnL b l W W') {k : Nat} {x : Pl} (hp : PlAt W k x) : PlAt W' k x := by
  obtain ⟨h1, h2, r, h3⟩ := h
  refine hp.of_block (h2.block k hp.lt (fun e => ?_))
  injection e with e
  subst e
  have := hp.1
  unfold World.cell? at this
  rw [show W.heap[(⟨k, 0, none⟩ : Addr).block]? = _ from h3] at this
  simp at this
set_option maxRecDepth 100000 in
set_option maxHeartbeats 4000000 in
theorem all1_seq (w0 : World) (o : Option Addr) (p g : Nat) (n : Int) (hf : FdO w0 o p g) (w : World) (b1 b2 : Nat)
    (hB : Below w0.heap.size w0 w) (k1 : Boxed w b1 29 (.pointer o)) (k2 : Boxed w b2 3 (.int .i64 n)) :
    SeqU Tryz.prog 55 #[.pointer (some ⟨b1, 0, none⟩), .pointer (some ⟨b2, 0, none⟩)] (fun x => #[plV x]) (fun j => j < w0.heap.size ∨ j = b1 ∨ j = b2) (fun xs => xs = allO p n) (fun pre => pre <+: allO p n) w := by
  intro l U J Jx W hkp hR hU hJ hJx hY h0
  have hlow : ∀ j, U j → w0.heap.size ≤ j := fun j hj => Nat.le_of_not_lt fun h => hR j (.inl h) hj
  have hB' : Below w0.heap.size w0 W := hB.trans (hkp.below hB.size hlow)
  have k1' := hkp.boxed k1 (fun h => hR _ (.inr (.inl rfl)) h)
  have k2' := hkp.boxed k2 (fun h => hR _ (.inr (.inr rfl)) h)
  have tw : ∀ f, Fence.wide.fn f := fun _ => trivial
  have HA : Hid (∀ ob : Obj, Below W.heap.size W (W.alloc ob)) := Lib.hid fun ob => (Below.refl _ _).alloc (Nat.le_refl _) _
  have C := Lib.hid (fun m W (hb : Below w0.heap.size w0 W) => (callsIn_wide (n := m)).2 (pck_any o p g n W (hf.below hb)))
  have CO := Lib.hid (fun m k W => (callsIn_wide (n := m)).2 (pof_any o n k W))
  have K1 := k1'.cell
  have K2 := k2'.cell
  have l1 := k1'.lt
  have l2 := k2'.lt
  have HB := Lib.hid hB'
  refine (callsIn_wide (n := 5)).1 (callsIn_of_wp_marks Tryz.func55 rfl trivial ?_ rfl)
  simp only [Tryz.ntmps55, List.size_toArray, List.length_cons, List.length_nil, Nat.reduceAdd, Nat.reduceSub, Array.replicate_succ, Array.replicate_zero, List.push_toArray, List.append_toArray, List.nil_append, List.cons_append]
  by_cases hc : ckO p n = 0
  case neg =>
    have Z : Hid (∀ W' v, Below W.heap.size W W' → ItPost (fun xs => xs = allO p n) (fun pre => pre <+: allO p n) J Jx (.returned v) W') := Lib.hid fun W' v hb => ⟨⟨_, rfl⟩, .inl ⟨[], (allO_bad hc).symm, hJ [] W W' none h0 (grown_below hb _) (fun r e => by cases e)⟩⟩
    obtain ⟨r, er⟩ : ∃ r, ckO p n = r := ⟨_, rfl⟩
    rw [er] at hc
    simp only [er] at C
    have t0 : ((r : Int) != 0) = true := by rw [bne_iff_ne]; omega
    clear hY hJ hJx h0 hR hU hkp hlow
    gi_wp2_with (gi_at_call 47; refine (C.out _ _ (HB.out.trans ((HA.out _).mono HB.out.size))).mono ?_; rintro e w1 ⟨rfl, hb⟩; have HC := Lib.hid (bl_trans (HA.out _) hb); clear hb)
    exact ⟨_, results_none rfl _ _ _, Z.out _ _ HC.out⟩
  case pos =>
    have hp : p ≠ 0 := fun h => by unfold ckO at hc; rw [if_pos h] at hc; omega
    have hckF : ckF p n 1024 = 0 := by unfold ckO at hc; rw [if_neg hp] at hc; exact hc
    simp only [hc] at C
    have hn : 1 ≤ n ∧ n ≤ 1024 := by
      unfold ckF at hckF
      split at hckF
      · omega
      · split at hckF <;> omega
    obtain ⟨m, rfl⟩ := Int.eq_ofNat_of_zero_le (show 0 ≤ n by omega)
    have HY := Lib.hid hY
    have H0 := Lib.hid (fun W' (hb : Below W.heap.size W W') => hJ [] W W' none h0 (grown_below hb _) (fun r e => by cases e))
    clear hY h0 hc hckF
    gi_wp2_with (gi_at_call 47; refine (C.out _ _ (HB.out.trans ((HA.out _).mono HB.out.size))).mono ?_; rintro e w1 ⟨rfl, hb⟩; have HC := Lib.hid (bl_trans (HA.out _) hb); have HX := Lib.hid ((Boxed.new W 103 (.func (.yield l) #[] #[])).kept (grown_below hb none) (by simp)); clear hb)
    have hs1 : W.heap.size < w1.heap.size := HX.out.lt
    have CY := Lib.hid (fun k W' => pof_any o m k W')
    refine wpIn_loop (fun a wr => ∃ (k : Nat) (v10 v11 v12 v13 v14 v15 v16 v17 : Value) (Ds : List Nat), a = { tmps := #[.func (.yield l) #[] #[], .pointer (some ⟨b1, 0, none⟩), .pointer (some ⟨b2, 0, none⟩), .pointer (some ⟨W.heap.size, 0, none⟩), .int .i64 k, undef, .pointer o, .int .i64 m, .int .i64 0, .bool false, v10, v11, v12, v13, v14, v15, v16, v17, undef, undef, undef, undef, undef], defers := Ds.map mkD } ∧
      k ≤ 7 ∧ Hid (Ds.Nodup ∧ (∀ D ∈ Ds, W.heap.size ≤ D ∧ wr.heap[D]? = some (.deferred (some []))) ∧ J (allTo p m k) wr ∧ KpU U W wr ∧ Boxed wr W.heap.size 103 (.func (.yield l) #[] #[]))) (fun a _ => 7 - (intOf (a.tmps.getD 4 undef)).toNat) ?start ?round
    case start =>
      exact ⟨0, _, _, _, _, _, _, _, _, [], rfl, by omega, Lib.hid ⟨List.nodup_nil, fun D h => absurd h (by simp), H0.out _ HC.out, KpU.of_below HC.out, HX.out⟩⟩
    case round =>
      rintro a wr ⟨k, v10, v11, v12, v13, v14, v15, v16, v17, Ds, rfl, hk, hH⟩
      by_cases hk7 : k = 7
      case pos =>
        subst hk7
        gi_wp2
        exact leaves_marks (B := W.heap.size) (I := fun _ W' => J (allTo p m 7) W') (by simp) (fun _ A B row h hg hr => hJ _ A B row h hg hr) (fun W' h => by exact ⟨_, results_none rfl _ _ _, ⟨_, rfl⟩, .inl ⟨_, (if_neg hp).symm, h⟩⟩) Ds wr hH.out.1 hH.out.2.1 hH.out.2.2.1
      case neg =>
        have hk6 : k ≤ 6 := by omega
        have t1 : decide ((k : Int) ≤ 6) = true := by rw [decide_eq_true_eq]; omega
        have hkw := hH.out.2.2.2.1
        have q1 := hkw.boxed k1' (fun h => hR _ (.inr (.inl rfl)) h)
        have q2 := hkw.boxed k2' (fun h => hR _ (.inr (.inr rfl)) h)
        have Q1 := q1.cell
        have Q2 := q2.cell
        have m1 := q1.lt
        have m2 := q2.lt
        clear K1 K2 l1 l2
        gi_wp2_with (gi_at_call 56; refine (CO.out _ _ _).mono ?_; rintro e w2 ⟨rfl, hb, x1, x2, x3⟩)
        have hHm := hH.out.2.1
        have hHJ := hH.out.2.2.1
        have hHB := hH.out.2.2.2.2
        have hs2 : wr.heap.size ≤ w2.heap.size := hb.size
        have hsW : W.heap.size ≤ wr.heap.size := hkw.size
        have HBw : Below w0.heap.size w0 wr := HB.out.trans (hkw.below HB.out.size hlow)
        have hBw2 : Below w0.heap.size w0 w2 := HBw.trans (hb.mono HBw.size)
        have y1 := x1.lt
        have hUW : ∀ j, U j → j < wr.heap.size := fun j hj => Nat.lt_of_lt_of_le (hU j hj) hsW
        have hlo2 : w0.heap.size ≤ wr.heap.size := HBw.size
        have KW : Hid (∀ W', KpU U w2 W' → Boxed W' W.heap.size 103 (.func (.yield l) #[] #[])) := Lib.hid fun W' hk' => hk'.boxed (hHB.kept (grown_below hb none) (by simp)) (fun hc => by have := hU _ hc; omega)
        have hOf : allTo p m (k + 1) = allTo p m k ++ ofP p m k := rfl
        refine wpIn_rangeU (gf := 116) (lb := #[.pointer (some ⟨wr.heap.size + 2, 0, none⟩), .pointer (some ⟨wr.heap.size + 1, 0, none⟩), .pointer (some ⟨wr.heap.size, 0, none⟩)]) rfl (enters_of Tryz.func116 (by kernel_rfl) rfl)
          (U := U) (of1_seq w0 o p g m k hf hp (by omega) hk6 w2 _ _ _ hBw2 x1 x2 x3) (fun _ => rfl) (fun j hj => ?_) (fun j hj => by have := hUW j hj; omega)
          (fun pre W' => J (allTo p m k ++ pre) W') (fun c pre W' => c = .ret ∧ Jx (allTo p m k ++ pre) W') ?_ ?_ ?_ ?round ?done ?stop
        · rcases hj with hj | rfl | rfl | rfl
          · exact ⟨hR j (.inl hj), by omega⟩
          · exact ⟨fun hc => by have := hUW _ hc; omega, by omega⟩
          · exact ⟨fun hc => by have := hUW _ hc; omega, by omega⟩
          · exact ⟨fun hc => by have := hUW _ hc; omega, by omega⟩
        · exact fun s A B row h hg hr => hJ _ A B row h hg (fun r e => ⟨by have := (hr r e).1; omega, (hr r e).2⟩)
        · exact fun c s A B row h hg hr => ⟨h.1, hJx _ A B row h.2 hg (fun r e => ⟨by have := (hr r e).1; omega, (hr r e).2⟩)⟩
        · rw [List.append_nil]
          exact hJ _ wr w2 none hHJ (grown_below hb _) (fun r e => by cases e)
        case round =>
          intro l2 pre x Wa hl hi hka hsp
          obtain ⟨xk, xn, xa⟩ := x
          unfold plV
          gi_wp2
          refine ⟨KpU.alloc _ _, fun W2 ht hk2 => ?_⟩
          have hJ2 : J (allTo p m k ++ pre) W2 := ht.own (I := fun (_ : Unit) W' => J (allTo p m k ++ pre) W') (s := ()) (fun s A B row h hg hr => hJ _ A B row h hg (fun r e => ⟨by have := (hr r e).1; omega, (hr r e).2⟩)) (hJ _ _ _ none hi (World.grownBy_alloc _ _ none) (fun r e => by cases e))
          obtain ⟨c0, c1, c2, c3⟩ := ht.plAt (PlAt.new Wa xk xn xa 36)
          simp only at c0 c1 c2
          have cY := (KW.out W2 hk2).cell
          obtain ⟨fn, tmps, assign, body, hy, hR'⟩ := yieldAt_any (m' := 4) (HY.out _ ⟨xk, xn, xa⟩ W2 hJ2 (by rw [show allO p m = allP p m from if_neg hp]; exact allTo_of hk6 hsp))
          have hR2 : RoundIn (Fence.wide.inRound l2) 4 Tryz.prog l fn tmps assign body W2 _ := hR'
          unfold plV at hy
          clear hR'
          gi_wp2
          refine hR2.mono ?_
          rintro e W3 (⟨rfl, hj3, hk3⟩ | ⟨rfl, hj3, hk3⟩)
          · have ZZ := Lib.hid (And.intro hk3 hj3)
            clear hj3 hk3
            gi_wp2
            exact ⟨ZZ.out.1, by have := ZZ.out.2; rw [List.append_assoc] at this; exact this⟩
          · have ZZ := Lib.hid (And.intro hk3 hj3)
            clear hj3 hk3
            gi_wp2
            exact ⟨ZZ.out.1, rfl, by have := ZZ.out.2; rw [List.append_assoc] at this; exact this⟩
        case done =>
          intro D xs Wd hD hxs hj hkd hm
          subst hxs
          have hbl : ∀ j, j < wr.heap.size → ¬ U j → Wd.heap[j]? = wr.heap[j]? := fun j h1 h2 => (hkd.block j (by omega) h2).trans (hb.block j h1)
          have ZZ : Hid ((D :: Ds).Nodup ∧ (∀ D' ∈ D :: Ds, W.heap.size ≤ D' ∧ Wd.heap[D']? = some (.deferred (some []))) ∧ J (allTo p m (k + 1)) Wd ∧ KpU U W Wd ∧ Boxed Wd W.heap.size 103 (.func (.yield l) #[] #[])) := Lib.hid (by
            refine ⟨List.nodup_cons.mpr ⟨fun hc => ?_, hH.out.1⟩, fun D' hD' => ?_, hj, (hkw.trans (KpU.of_below hb)).trans hkd, KW.out _ hkd⟩
            · have := (Array.getElem?_eq_some_iff.1 (hHm D hc).2).1
              omega
            · rcases List.mem_cons.mp hD' with rfl | h
              · exact ⟨by omega, hm⟩
              · obtain ⟨g1, g2⟩ := hHm D' h
                exact ⟨g1, (hbl D' (Array.getElem?_eq_some_iff.1 g2).1 (fun hc => by have := hU _ hc; omega)).trans g2⟩)
          clear hm hj hkd hbl
          gi_wp2
          exact ⟨⟨k + 1, _, _, _, _, _, _, _, _, D :: Ds, rfl, by omega, ZZ⟩, by simp [intOf]; omega⟩
        case stop =>
          rintro D c pre Ws hD hpre ⟨rfl, hjx⟩ hks hm
          have hbl : ∀ j, j < wr.heap.size → ¬ U j → Ws.heap[j]? = wr.heap[j]? := fun j h1 h2 => (hks.block j (by omega) h2).trans (hb.block j h1)
          have hpre' : allTo p m k ++ pre <+: allO p m := by
            rw [show allO p m = allP p m from if_neg hp]
            exact ((List.prefix_append_right_inj _).mpr hpre).trans (allTo_pre (a := k + 1) (b := 7) (by omega))
          have ZN : Hid ((D :: Ds).Nodup) := Lib.hid (List.nodup_cons.mpr ⟨fun hc => by
            have := (Array.getElem?_eq_some_iff.1 (hHm D hc).2).1
            omega, hH.out.1⟩)
          have ZD : Hid (∀ D' ∈ D :: Ds, W.heap.size ≤ D' ∧ Ws.heap[D']? = some (.deferred (some []))) := Lib.hid fun D' hD' => by
            rcases List.mem_cons.mp hD' with rfl | h
            · exact ⟨by omega, hm⟩
            · obtain ⟨g1, g2⟩ := hHm D' h
              exact ⟨g1, (hbl D' (Array.getElem?_eq_some_iff.1 g2).1 (fun hc => by have := hU _ hc; omega)).trans g2⟩
          have ZJ := Lib.hid hjx
          clear hm hjx hks hbl
          gi_wp2
          exact leaves_marks (B := W.heap.size) (I := fun _ W' => Jx (allTo p m k ++ pre) W') (by simp) (fun _ A B row h hg hr => hJx _ A B row h hg hr) (fun W' h => by exact ⟨_, results_none rfl _ _ _, ⟨_, rfl⟩, .inr ⟨_, hpre', h⟩⟩) (D :: Ds) Ws ZN.out ZD.out ZJ.out
end SOi
end Go.Proofs.YtbokindcnkknmaaGreat
