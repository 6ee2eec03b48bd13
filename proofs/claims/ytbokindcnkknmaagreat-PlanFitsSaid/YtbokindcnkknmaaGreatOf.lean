/- Where a field comes from: the document's answer. -/
import Derived.Test.YtbokindcnkknmaaGreatFn
set_option linter.unusedVariables false
namespace Go.Proofs.YtbokindcnkknmaaGreat
open Go.RowKit Epi
/-- A source's prime, and the number whose powers are all; 0, 0: there is none. -/
def SrcIs (k K : Int) (P : Nat) (L : List Ent) (p g : Nat) : Prop :=
  (k = 0 → (OddP P ∧ p = P ∧ GenOf P g) ∨ (¬ OddP P ∧ p = 0 ∧ g = 0)) ∧
  (k = 1 → (0 ≤ K ∧ K ≤ 5 ∧ p = kP K.toNat ∧ g = kG K.toNat) ∨ (¬ (0 ≤ K ∧ K ≤ 5) ∧ p = 0 ∧ g = 0)) ∧
  (k ≠ 0 → k ≠ 1 → (ckE L = 0 ∧ ∃ i, ∃ hi : i < L.length, L[i].P = P ∧ NoP L P i ∧ p = P ∧ g = L[i].G) ∨ ((ckE L ≠ 0 ∨ NoP L P L.length) ∧ p = 0 ∧ g = 0))
theorem gen_ex {p : Nat} (h : OddP p) : ∃ G, GenOf p G := by
  obtain ⟨G0, h1, h2, h3⟩ := OddP.gen h
  have key : ∀ G, 2 ≤ G → G < p → Ord p (G : Int) (p - 1) → ∃ G, GenOf p G := by
    intro G
    induction G using Nat.strongRecOn with
    | _ G ih =>
    intro a b c
    by_cases hx : ∃ H, 2 ≤ H ∧ H < G ∧ Ord p (H : Int) (p - 1)
    · obtain ⟨H, x1, x2, x3⟩ := hx
      exact ih H x2 x1 (by omega) x3
    · exact ⟨G, a, b, c, fun H x1 x2 x3 => hx ⟨H, x1, x2, x3⟩⟩
  exact key G0 h1 h2 h3
theorem gen_uniq {p g h : Nat} (hg : GenOf p g) (hh : GenOf p h) : g = h := by
  rcases Nat.lt_trichotomy g h with x | x | x
  · exact absurd hg.2.2.1 (hh.2.2.2 g hg.1 x)
  · exact x
  · exact absurd hh.2.2.1 (hg.2.2.2 h hh.1 x)
theorem rgen_eq (p G : Nat) (w : World) (hp : p < 18446744073709551616) (hO : OddP p) (hG : GenOf p G) :
    Calls Tryz.prog 99 #[.int .u64 p] w fun e w' => e = .returned (.int .u64 G) ∧ w = w' := by
  refine (rgen_any p w hp).mono ?_
  rintro e w' ⟨⟨⟨g, hg, rfl⟩, -⟩ | ⟨h, -⟩, rfl⟩
  · rw [gen_uniq hg hG]
    exact ⟨rfl, rfl⟩
  · exact absurd hO h
def OfPost (k K : Int) (P : Nat) (L : List Ent) (w : World) (e : Ending) (w' : World) : Prop := Below w.heap.size w w' ∧ ∃ p g : Nat, ∃ r : Int, e = .returned (.tuple #[.int .u64 p, .int .u64 g, .int .i64 r]) ∧ SrcIs k K P L p g
set_option maxHeartbeats 1000000 in
set_option maxRecDepth 100000 in
theorem of0_any (K : Int) (P : Nat) (L : List Ent) (v : Value) (w : World) (hv : RdEnt w v L) (hP : P < 18446744073709551616) :
    Calls Tryz.prog 43 #[.agg #[.int .i64 0, .int .i64 K, .int .u64 P, v]] w (OfPost 0 K P L w) := by
  have HB0 : Hid (∀ o : Obj, Below w.heap.size w (w.alloc o)) := Lib.hid fun o => (Below.refl _ _).alloc (Nat.le_refl _) _
  obtain ⟨-, -, A, c, rfl, -⟩ := hv
  have CO := Lib.hid (fun W => rodd_any P W hP)
  by_cases hO : OddP P
  · have X := Lib.hid (bOf_true hO)
    simp only [X.out] at CO
    obtain ⟨G, hG⟩ := gen_ex hO
    have CG := Lib.hid (fun W => rgen_eq P G W hP hO hG)
    have Z : Hid (SrcIs 0 K P L P G) := Lib.hid ⟨fun _ => .inl ⟨hO, rfl, hG⟩, fun h => absurd h (by decide), fun h => absurd rfl h⟩
    clear hO hG hP
    go_enter Tryz.func43, Tryz.ntmps43
    go_wp2_with fail
    refine (CO.out _).mono ?_
    rintro e w1 ⟨rfl, rfl⟩
    go_wp2_with fail
    go_quiet ((go_at_call 99; exact Calls.quiet_of (quiet0 (CG.out _))))
    go_wp2_with fail
    go_ret3
    exact ⟨bl_drew (HB0.out _) _, P, G, 0, rfl, Z.out⟩
  · have X := Lib.hid (bOf_false hO)
    simp only [X.out] at CO
    have Z : Hid (SrcIs 0 K P L 0 0) := Lib.hid ⟨fun _ => .inr ⟨hO, rfl, rfl⟩, fun h => absurd h (by decide), fun h => absurd rfl h⟩
    clear hO hP
    go_enter Tryz.func43, Tryz.ntmps43
    go_wp2_with fail
    refine (CO.out _).mono ?_
    rintro e w1 ⟨rfl, rfl⟩
    go_wp2_with fail
    go_ret3
    exact ⟨HB0.out _, 0, 0, 1, rfl, Z.out⟩
set_option maxHeartbeats 2000000 in
set_option maxRecDepth 100000 in
theorem of1_any (K : Int) (P : Nat) (L : List Ent) (v : Value) (w : World) (hv : RdEnt w v L) :
    Calls Tryz.prog 43 #[.agg #[.int .i64 1, .int .i64 K, .int .u64 P, v]] w (OfPost 1 K P L w) := by
  have HB0 : Hid (∀ o : Obj, Below w.heap.size w (w.alloc o)) := Lib.hid fun o => (Below.refl _ _).alloc (Nat.le_refl _) _
  obtain ⟨-, -, A, c, rfl, -⟩ := hv
  by_cases hK : 0 ≤ K ∧ K ≤ 5
  · have hc : K = 0 ∨ K = 1 ∨ K = 2 ∨ K = 3 ∨ K = 4 ∨ K = 5 := by omega
    have Z : ∀ j : Nat, j < 6 → K = (j : Nat) → SrcIs 1 K P L (kP j) (kG j) := fun j hj e => ⟨fun h => absurd h (by decide), fun _ => .inl ⟨hK.1, hK.2, by rw [e]; rfl, by rw [e]; rfl⟩, fun _ h => absurd rfl h⟩
    rcases hc with rfl | rfl | rfl | rfl | rfl | rfl
    · have Z := Lib.hid (Z 0 (by omega) rfl)
      clear hK
      go_enter Tryz.func43, Tryz.ntmps43
      go_wp2_with fail
      go_quiet (fail)
      go_wp2_with fail
      go_ret3
      refine ⟨bl_drew ?_ _, kP 0, kG 0, 0, rfl, Z.out⟩
      exact (((HB0.out _).alloc (by simp) _).alloc (by simp; omega) _)
    · have Z := Lib.hid (Z 1 (by omega) rfl)
      clear hK
      go_enter Tryz.func43, Tryz.ntmps43
      go_wp2_with fail
      go_quiet (fail)
      go_wp2_with fail
      go_ret3
      refine ⟨bl_drew ?_ _, kP 1, kG 1, 0, rfl, Z.out⟩
      exact (((HB0.out _).alloc (by simp) _).alloc (by simp; omega) _)
    · have Z := Lib.hid (Z 2 (by omega) rfl)
      clear hK
      go_enter Tryz.func43, Tryz.ntmps43
      go_wp2_with fail
      go_quiet (fail)
      go_wp2_with fail
      go_ret3
      refine ⟨bl_drew ?_ _, kP 2, kG 2, 0, rfl, Z.out⟩
      exact (((HB0.out _).alloc (by simp) _).alloc (by simp; omega) _)
    · have Z := Lib.hid (Z 3 (by omega) rfl)
      clear hK
      go_enter Tryz.func43, Tryz.ntmps43
      go_wp2_with fail
      go_quiet (fail)
      go_wp2_with fail
      go_ret3
      refine ⟨bl_drew ?_ _, kP 3, kG 3, 0, rfl, Z.out⟩
      exact (((HB0.out _).alloc (by simp) _).alloc (by simp; omega) _)
    · have Z := Lib.hid (Z 4 (by omega) rfl)
      clear hK
      go_enter Tryz.func43, Tryz.ntmps43
      go_wp2_with fail
      go_quiet (fail)
      go_wp2_with fail
      go_ret3
      refine ⟨bl_drew ?_ _, kP 4, kG 4, 0, rfl, Z.out⟩
      exact (((HB0.out _).alloc (by simp) _).alloc (by simp; omega) _)
    · have Z := Lib.hid (Z 5 (by omega) rfl)
      clear hK
      go_enter Tryz.func43, Tryz.ntmps43
      go_wp2_with fail
      go_quiet (fail)
      go_wp2_with fail
      go_ret3
      refine ⟨bl_drew ?_ _, kP 5, kG 5, 0, rfl, Z.out⟩
      exact (((HB0.out _).alloc (by simp) _).alloc (by simp; omega) _)
  · have Z : Hid (SrcIs 1 K P L 0 0) := Lib.hid ⟨fun h => absurd h (by decide), fun _ => .inr ⟨hK, rfl, rfl⟩, fun _ h => absurd rfl h⟩
    by_cases hn : K < 0
    · have t1 : decide (K < 0) = true := by rw [decide_eq_true_eq]; exact hn
      clear hK hn
      go_enter Tryz.func43, Tryz.ntmps43
      go_wp2_with fail
      go_ret3
      exact ⟨HB0.out _, 0, 0, 1, rfl, Z.out⟩
    · have t1 : decide (K < 0) = false := by rw [decide_eq_false_iff_not]; exact hn
      have t2 : decide (5 < K) = true := by rw [decide_eq_true_eq]; omega
      clear hK hn
      go_enter Tryz.func43, Tryz.ntmps43
      go_wp2_with fail
      go_ret3
      exact ⟨HB0.out _, 0, 0, 1, rfl, Z.out⟩
theorem ckE_fac {L : List Ent} {i : Nat} (hi : i < L.length) (h : 20 < L[i].F.length) : ckE L ≠ 0 := fun h0 => by
  have := ((ckE_zero h0).2 i hi hi).2.2.2.2.2.2.1.1
  omega
set_option maxHeartbeats 4000000 in
set_option maxRecDepth 100000 in
theorem ofn_any (k K : Int) (P : Nat) (L : List Ent) (v : Value) (w : World) (hv : RdEnt w v L) (h0 : k ≠ 0) (h1 : k ≠ 1) :
    Calls Tryz.prog 43 #[.agg #[.int .i64 k, .int .i64 K, .int .u64 P, v]] w (OfPost k K P L w) := by
  have HB0 : Hid (∀ o : Obj, Below w.heap.size w (w.alloc o)) := Lib.hid fun o => (Below.refl _ _).alloc (Nat.le_refl _) _
  have t0 : ((k : Int) == 0) = false := by rw [beq_eq_false_iff_ne]; exact h0
  have t1 : ((k : Int) == 1) = false := by rw [beq_eq_false_iff_ne]; exact h1
  have ZB : Hid ((ckE L ≠ 0 ∨ NoP L P L.length) → SrcIs k K P L 0 0) := Lib.hid fun h => ⟨fun e => absurd e h0, fun e => absurd e h1, fun _ _ => .inr ⟨h, rfl, rfl⟩⟩
  have ZG : Hid (∀ i, (hi : i < L.length) → L[i].P = P → NoP L P i → ckE L = 0 → SrcIs k K P L P L[i].G) := Lib.hid fun i hi a b c => ⟨fun e => absurd e h0, fun e => absurd e h1, fun _ _ => .inl ⟨c, i, hi, a, b, rfl, rfl⟩⟩
  have CC := Lib.hid (fun W (hb : Below w.heap.size w W) => rcheck_any L v W (hv.below hb))
  have HV := Lib.hid hv
  obtain ⟨hlen, hok, A, c, rfl, -, hcl⟩ := hv
  unfold Len at hlen
  obtain ⟨n, en⟩ : ∃ n, L.length = n := ⟨_, rfl⟩
  have EN := Lib.hid en
  have HCL := Lib.hid hcl
  rw [en] at CC hlen
  rw [en]
  clear h0 h1 hok hcl en
  by_cases h40 : 40 < n
  · have t2 : decide ((40 : Int) < n) = true := by rw [decide_eq_true_eq]; omega
    have Z := Lib.hid (ZB.out (.inl (by rw [ckE_long (by rw [EN.out]; omega)]; omega)))
    go_enter Tryz.func43, Tryz.ntmps43
    go_wp2_with fail
    go_ret3
    exact ⟨HB0.out _, 0, 0, 13, rfl, Z.out⟩
  have t2 : decide ((40 : Int) < n) = false := by rw [decide_eq_false_iff_not]; omega
  have h40' : n ≤ 40 := by omega
  clear h40 hlen
  go_enter Tryz.func43, Tryz.ntmps43
  go_wp2_with fail
  obtain ⟨W0, hW0⟩ : ∃ W0, w.alloc (.cells #[Value.int .i64 k, .int .i64 K, .int .u64 P, .slice A n c] 25) = W0 := ⟨_, rfl⟩
  have x2 : W0.cell? ⟨w.heap.size, 2, none⟩ = some (.int .u64 P) := by rw [← hW0]; exact World.cell?_alloc_at _ _ _ _ rfl
  have x3 : W0.cell? ⟨w.heap.size, 3, none⟩ = some (.slice A n c) := by rw [← hW0]; exact World.cell?_alloc_at _ _ _ _ rfl
  have hB0 := HB0.out (.cells #[Value.int .i64 k, .int .i64 K, .int .u64 P, .slice A n c] 25)
  rw [hW0] at hB0
  have HW0 := Lib.hid hB0
  have hs0 := cell_lt x2
  rw [hW0]
  clear hW0 hB0
  go_loopw [53] (fun s53 wr => ∃ i : Nat, s53 = .int .i64 i ∧ i ≤ n ∧ Below W0.heap.size W0 wr) (fun s53 _ => n - (intOf s53).toNat)
  case atStart => exact ⟨0, rfl, Nat.zero_le _, Below.refl _ _⟩
  case round =>
    obtain ⟨i, rfl, hi, hB⟩ := hrel
    have hsr := hB.size
    have y2 := (hB.cell (p := ⟨w.heap.size, 2, none⟩) hs0).trans x2
    have y3 := (hB.cell (p := ⟨w.heap.size, 3, none⟩) hs0).trans x3
    have ly := cell_lt y3
    by_cases hlt : i < n
    · have hj : i < L.length := by rw [EN.out]; exact hlt
      obtain ⟨b, o, rfl, hcell⟩ := HCL.out (by rw [EN.out]; omega)
      obtain ⟨f, k0, k1, k2, k3⟩ := hcell i hj
      obtain ⟨fl, m, ef, hfm⟩ : ∃ A' c', f = .slice A' L[i].F.length c' ∧ True := by
        obtain ⟨-, -, A', c', e, -⟩ := k3
        exact ⟨A', c', e, trivial⟩
      subst ef
      obtain ⟨P', eP⟩ : ∃ P', L[i].P = P' := ⟨_, rfl⟩
      obtain ⟨G', eG⟩ : ∃ G', L[i].G = G' := ⟨_, rfl⟩
      obtain ⟨m', em⟩ : ∃ m', L[i].F.length = m' := ⟨_, rfl⟩
      rw [eP] at k0
      rw [eG] at k1
      rw [em] at k2
      have hBw := bl_trans HW0.out hB
      have l := cell_lt k0
      have c0 := (hBw.cell (p := ⟨b, o + i * 3, none⟩) l).trans k0
      have c1 := (hBw.cell (p := ⟨b, o + i * 3 + 1, none⟩) l).trans k1
      have c2 := (hBw.cell (p := ⟨b, o + i * 3 + 2, none⟩) l).trans k2
      by_cases h20 : 20 < m'
      · have t3 : decide ((20 : Int) < m') = true := by rw [decide_eq_true_eq]; omega
        have Z := Lib.hid (ZB.out (.inl (ckE_fac hj (by rw [em]; exact h20))))
        have HBW := Lib.hid hBw
        clear k0 k1 k2 k3 eP eG em hj hcell hBw h20
        go_wp2_with fail
        go_ret3
        exact ⟨HBW.out.alloc HBW.out.size _, 0, 0, 3, rfl, Z.out⟩
      · have t3 : decide ((20 : Int) < m') = false := by rw [decide_eq_false_iff_not]; omega
        clear k0 k1 k2 k3 eP eG em hj hcell hBw h20
        go_wp2_with fail
        exact ⟨⟨i + 1, by go_num, by omega, hB.alloc hB.size _⟩, by simp [intOf]; omega⟩
    · obtain rfl : i = n := by omega
      have CC1 := Lib.hid (CC.out wr (bl_trans HW0.out hB))
      have HBw := Lib.hid (bl_trans HW0.out hB)
      unfold CkPost at CC1
      obtain ⟨ke, eke⟩ : ∃ ke, ckE L = ke := ⟨_, rfl⟩
      rw [eke] at CC1
      clear hB
      go_wp2_with fail
      refine (CC1.out).mono ?_
      rintro e w2 ⟨i', rfl, hb2⟩
      have z2 := (hb2.cell (p := ⟨w.heap.size, 2, none⟩) ly).trans y2
      have z3 := (hb2.cell (p := ⟨w.heap.size, 3, none⟩) ly).trans y3
      have HB2 := Lib.hid (bl_trans HBw.out hb2)
      have hs2 := cell_lt z2
      clear hb2 y2 y3
      by_cases hke : ke = 0
      case neg =>
        have t4 : ((ke : Int) == 0) = false := by rw [beq_eq_false_iff_ne]; omega
        have t5 : ((ke : Int) != 0) = true := by rw [bne_iff_ne]; omega
        have Z := Lib.hid (ZB.out (.inl (by rw [eke]; exact hke)))
        clear hke eke
        go_wp2_with fail
        go_ret3
        exact ⟨HB2.out, 0, 0, ke, rfl, Z.out⟩
      subst hke
      have EK := Lib.hid eke
      clear eke
      go_wp2_with fail
      go_loopw [74] (fun s74 wr2 => ∃ j : Nat, s74 = .int .i64 j ∧ j ≤ i ∧ Below w2.heap.size w2 wr2 ∧ Hid (NoP L P j)) (fun s74 _ => i - (intOf s74).toNat)
      case atStart => exact ⟨0, rfl, Nat.zero_le _, Below.refl _ _, Lib.hid fun j hj hj' => absurd hj' (by omega)⟩
      case round =>
        obtain ⟨j, rfl, hj, hB2, hN⟩ := hrel
        have hsr2 := hB2.size
        have q2 := (hB2.cell (p := ⟨w.heap.size, 2, none⟩) hs2).trans z2
        have q3 := (hB2.cell (p := ⟨w.heap.size, 3, none⟩) hs2).trans z3
        have hBw2 := bl_trans HB2.out hB2
        have lq := cell_lt q3
        by_cases hlt2 : j < i
        · have hjL : j < L.length := by rw [EN.out]; exact hlt2
          obtain ⟨b, o, rfl, hcell⟩ := HCL.out (by rw [EN.out]; omega)
          obtain ⟨f, k0, k1, k2, k3⟩ := hcell j hjL
          obtain ⟨A', m', c', rfl⟩ := k3.shape
          obtain ⟨P', eP⟩ : ∃ P', L[j].P = P' := ⟨_, rfl⟩
          obtain ⟨G', eG⟩ : ∃ G', L[j].G = G' := ⟨_, rfl⟩
          rw [eP] at k0
          rw [eG] at k1
          have l := cell_lt k0
          have c0 := (hBw2.cell (p := ⟨b, o + j * 3, none⟩) l).trans k0
          have c1 := (hBw2.cell (p := ⟨b, o + j * 3 + 1, none⟩) l).trans k1
          have c2 := (hBw2.cell (p := ⟨b, o + j * 3 + 2, none⟩) l).trans k2
          by_cases hPP : P' = P
          · have t6 : ((P' : Int) == P) = true := by rw [beq_iff_eq]; omega
            have Z := Lib.hid (ZG.out j hjL (eP.trans hPP) hN.out EK.out)
            rw [eG] at Z
            have HBW := Lib.hid hBw2
            subst hPP
            clear k0 k1 k2 k3 eP eG hjL hcell hBw2
            go_wp2_with fail
            go_quiet (fail)
            go_wp2_with fail
            go_ret3
            exact ⟨bl_drew (HBW.out.alloc HBW.out.size _) _, P', G', 0, rfl, Z.out⟩
          · have t6 : ((P' : Int) == P) = false := by rw [beq_eq_false_iff_ne]; omega
            have N : Hid (NoP L P (j + 1)) := Lib.hid fun a ha ha' => by
              by_cases e : a = j
              · subst e
                rw [eP]
                exact hPP
              · exact hN.out a ha (by omega)
            clear k0 k1 k2 k3 eP eG hjL hcell hBw2 hPP
            go_wp2_with fail
            exact ⟨⟨j + 1, by go_num, by omega, hB2.alloc hB2.size _, N⟩, by simp [intOf]; omega⟩
        · have Z := Lib.hid (ZB.out (.inr (by
            obtain rfl : j = i := by omega
            rw [EN.out]
            exact hN.out)))
          have HBW := Lib.hid hBw2
          clear hBw2
          go_wp2_with fail
          go_ret3
          exact ⟨HBW.out, 0, 0, 14, rfl, Z.out⟩
theorem of_any (k K : Int) (P : Nat) (L : List Ent) (v : Value) (w : World) (hv : RdEnt w v L) (hP : P < 18446744073709551616) :
    Calls Tryz.prog 43 #[.agg #[.int .i64 k, .int .i64 K, .int .u64 P, v]] w (OfPost k K P L w) := by
  by_cases h0 : k = 0
  · subst h0
    exact of0_any K P L v w hv hP
  by_cases h1 : k = 1
  · subst h1
    exact of1_any K P L v w hv
  exact ofn_any k K P L v w hv h0 h1
end Go.Proofs.YtbokindcnkknmaaGreat
