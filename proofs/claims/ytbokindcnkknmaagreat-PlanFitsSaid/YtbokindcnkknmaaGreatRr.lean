/- The document's rows: Right, Check. -/
import Derived.Test.YtbokindcnkknmaaGreatWh
import Derived.Deep.RegionHeld3
set_option linter.unusedVariables false
namespace Go.Proofs.YtbokindcnkknmaaGreat
open Go.RowKit Epi
theorem facOK.pr {ahead : List Ent} {n : Nat} {F : List Pwr} (h : facOK ahead n F) : prOK n F := by
  have h2 := h.two_le
  refine ⟨fun x hx => ?_, Nat.le_of_eq h.2.2.2⟩
  obtain ⟨j, hj, rfl⟩ := List.mem_iff_getElem.mp hx
  exact ⟨(h.2.2.1 j hj).1, (h.2.2.1 j hj).2.1, h2 _ hx⟩
/-- The factors rise, and are claimed, up to the k-th. -/
def ChTo (ahead : List Ent) (F : List Pwr) (k : Nat) : Prop := ∀ i, (hi : i + 1 < F.length) → i + 1 < k → F[i].q < F[i + 1].q ∧ hasP ahead F[i + 1].q = true
theorem facOK.ch {ahead : List Ent} {n : Nat} {F : List Pwr} (h : facOK ahead n F) (i : Nat) (hi : i + 1 < F.length) : F[i].q < F[i + 1].q ∧ hasP ahead F[i + 1].q = true :=
  (h.2.2.1 (i + 1) hi).2.2 i (by omega) rfl
theorem fac_all {ahead : List Ent} {n : Nat} {F : List Pwr} (h1 : F.length ≤ 16) (h2 : ∃ h : 0 < F.length, F[0].q = 2) (h3 : ChTo ahead F F.length) (h4 : prOK n F) (h5 : prodF F = n) : facOK ahead n F := by
  refine ⟨h1, h2, fun k hk => ⟨(h4.1 _ (List.getElem_mem hk)).1, (h4.1 _ (List.getElem_mem hk)).2.1, fun j hj hjk => ?_⟩, h5⟩
  subst hjk
  exact h3 j hk hk
theorem ch_step {ahead : List Ent} {F : List Pwr} {i : Nat} (hi : i + 1 < F.length) (h : ChTo ahead F (i + 1)) (h' : F[i].q < F[i + 1].q ∧ hasP ahead F[i + 1].q = true) : ChTo ahead F (i + 1 + 1) := fun j hj hjk => by
  by_cases e : j = i
  · subst e
    exact h'
  · exact h j hj (by omega)
set_option maxHeartbeats 4000000 in
set_option maxRecDepth 100000 in
theorem rright_any (L : List Ent) (v : Value) (i : Nat) (w : World) (hv : RdEnt w v L) (hi : i < L.length) :
    Calls Tryz.prog 169 #[v, .int .i64 i] w fun e w' => e = .returned (.bool (bOf (entOK (L.take i) L[i]))) ∧ Below w.heap.size w w' := by
  have HB0 : Hid (∀ o : Obj, Below w.heap.size w (w.alloc o)) := Lib.hid fun o => (Below.refl _ _).alloc (Nat.le_refl _) _
  have hv' := hv
  obtain ⟨hl, hok, A, c, rfl, hc, hcell⟩ := hv
  unfold Len at hl
  obtain ⟨m, em⟩ : ∃ m, L.length = m := ⟨_, rfl⟩
  obtain ⟨b, o, rfl, hcl⟩ := hcell (by omega)
  obtain ⟨f, x0, x1, x2, x3⟩ := hcl i hi
  have HV := Lib.hid (hv'.take (k := i) (Nat.le_of_lt hi))
  have hE := hok _ (List.getElem_mem hi)
  have HFR := Lib.hid x3
  obtain ⟨hFl, hFok, A', c', rfl, hFc, hFcell⟩ := x3
  obtain ⟨P, eP⟩ : ∃ q, L[i].P = q := ⟨_, rfl⟩
  obtain ⟨G, eG⟩ : ∃ E, L[i].G = E := ⟨_, rfl⟩
  obtain ⟨F, eF⟩ : ∃ E, L[i].F = E := ⟨_, rfl⟩
  have eL : L[i] = ⟨P, G, F⟩ := by rw [← eP, ← eG, ← eF]
  have HP : Hid (P < 18446744073709551616) := Lib.hid (eP ▸ hE.1)
  have HG : Hid (G < 18446744073709551616) := Lib.hid (eG ▸ hE.2.1)
  rw [eP] at x0
  rw [eG] at x1
  rw [eF] at x2 HFR hFl hFok hFcell
  rw [eL]
  have HLast : Hid ((i = 0 → lastLt (L.take i) P) ∧ ∀ k, (hk : k + 1 = i) → ∃ p : Nat, w.cell? ⟨b, o + k * 3, none⟩ = some (.int .u64 p) ∧ (lastLt (L.take i) P ↔ p < P)) := Lib.hid ⟨fun h => last_nil (by rw [h]; rfl), fun k hk => ⟨(L[k]'(by omega)).P, by
    obtain ⟨_, y0, -⟩ := hcl k (by omega)
    exact y0, last_at (L := L.take i) (m := i) (k := k) (by rw [List.length_take]; omega) hk fun h => by rw [List.getElem_take]⟩⟩
  obtain ⟨L', eL'⟩ : ∃ x, L.take i = x := ⟨_, rfl⟩
  rw [eL'] at HV HLast ⊢
  obtain ⟨n, en⟩ : ∃ n, F.length = n := ⟨_, rfl⟩
  have EN := Lib.hid en
  have hL : F.length ≤ 140737488355328 := hFl
  rw [en] at HFR hL x2
  have HFc := Lib.hid hFcell
  have HFok := Lib.hid hFok
  have ic : (i : Int) ≤ (c : Int) := by omega
  have i0 : (0 : Int) ≤ (i : Int) := Int.natCast_nonneg _
  have i1 : (i : Int) < (m : Int) := by omega
  have i2 : i < m := by omega
  have im : i ≤ 140737488355328 := by omega
  rw [em]
  have lb := cell_lt x0
  obtain ⟨r, er⟩ : ∃ r, P % 2 = r := ⟨_, rfl⟩
  have r1 : (P : Int) % 2 = (r : Int) := by rw [← er]; exact (Int.natCast_emod _ _).symm
  have r2 : (P : Int).tmod 2 = (r : Int) := by rw [Int.tmod_eq_emod_of_nonneg (Int.natCast_nonneg _)]; exact r1
  clear hv' hl hok hc hcell hcl hE hFl hFok hFc hFcell eP eG eF eL eL' en hi em
  go_enter Tryz.func169, Tryz.ntmps169
  go_upto_region 2 with fail
  clear x0 x1 x2
  by_cases h0 : r = 1
  case neg =>
    have X := Lib.hid (bOf_false (p := entOK L' ⟨P, G, F⟩) (fun h => h0 (er.symm.trans h.1)))
    have t1 : ((r : Int) == 0) = true := by rw [beq_iff_eq]; omega
    clear h0 er
    go_quiet (fail)
    go_wp2_with fail
    go_ret
    exact ⟨ret_bool X.out.symm, bl_drew (HB0.out _) _⟩
  have t1 : ((r : Int) == 0) = false := by rw [beq_eq_false_iff_ne]; omega
  have Kt1 := Lib.hid h0
  clear h0
  by_cases h0 : 3 ≤ P
  case neg =>
    have X := Lib.hid (bOf_false (p := entOK L' ⟨P, G, F⟩) (fun h => h0 h.2.1))
    have t2 : decide ((P : Int) < 3) = true := by rw [decide_eq_true_eq]; omega
    clear h0 er
    go_quiet (fail)
    go_wp2_with fail
    go_ret
    exact ⟨ret_bool X.out.symm, bl_drew (HB0.out _) _⟩
  have t2 : decide ((P : Int) < 3) = false := by rw [decide_eq_false_iff_not]; omega
  have Kt2 := Lib.hid h0
  clear h0
  by_cases h0 : P < 9223372036854775808
  case neg =>
    have X := Lib.hid (bOf_false (p := entOK L' ⟨P, G, F⟩) (fun h => h0 h.2.2.1))
    have t3 : decide ((9223372036854775807 : Int) < P) = true := by rw [decide_eq_true_eq]; omega
    clear h0 er
    go_quiet (fail)
    go_wp2_with fail
    go_ret
    exact ⟨ret_bool X.out.symm, bl_drew (HB0.out _) _⟩
  have t3 : decide ((9223372036854775807 : Int) < P) = false := by rw [decide_eq_false_iff_not]; omega
  have Kt3 := Lib.hid h0
  clear h0
  have KR := Lib.hid (er.trans Kt1.out)
  clear er
  by_cases h0 : lastLt L' P
  case neg =>
    have X := Lib.hid (bOf_false (p := entOK L' ⟨P, G, F⟩) (fun h => h0 h.2.2.2.2.2.1))
    obtain ⟨k, ek⟩ : ∃ k, k + 1 = i := ⟨i - 1, by
      have : i ≠ 0 := fun h => h0 (HLast.out.1 h)
      omega⟩
    obtain ⟨p, c3, hp⟩ := HLast.out.2 k ek
    have c4 := fun ob => ((HB0.out ob).cell (p := ⟨b, o + k * 3, none⟩) lb).trans c3
    have u1 : decide (0 < i) = true := by rw [decide_eq_true_eq]; omega
    have u2 : IntKind.i64.wrap ((i : Int) - 1) = (k : Int) := (IntWalk.i64_in _ (by omega)).trans (by omega)
    have u3 : decide (P ≤ p) = true := by rw [decide_eq_true_eq]; exact Nat.le_of_not_lt fun h => h0 (hp.mpr h)
    have j0 : (0 : Int) ≤ (k : Int) := Int.natCast_nonneg _
    have j1 : (k : Int) < (m : Int) := by omega
    have j2 : k < m := by omega
    clear h0 hp ek c3
    go_quiet (fail)
    go_wp2_with fail
    go_ret
    exact ⟨ret_bool X.out.symm, bl_drew (HB0.out _) _⟩
  have LT := Lib.hid h0
  clear h0
  go_cut [43] (fun s wc => s = .bool false ∧ ∃ nd, wc = (w.alloc (.cells #[.int .u64 P, .int .u64 G, .slice A' n c'] 149)).drewN nd)
  case first =>
    by_cases hi0 : i = 0
    · have u1 : decide (0 < i) = false := by rw [decide_eq_false_iff_not]; omega
      go_quiet (fail)
      go_wp2_with fail
      go_meet
      exact ⟨rfl, _, rfl⟩
    · obtain ⟨k, ek⟩ : ∃ k, k + 1 = i := ⟨i - 1, by omega⟩
      obtain ⟨p, c3, hp⟩ := HLast.out.2 k ek
      have c4 := fun ob => ((HB0.out ob).cell (p := ⟨b, o + k * 3, none⟩) lb).trans c3
      have u1 : decide (0 < i) = true := by rw [decide_eq_true_eq]; omega
      have u2 : IntKind.i64.wrap ((i : Int) - 1) = (k : Int) := (IntWalk.i64_in _ (by omega)).trans (by omega)
      have u3 : decide (P ≤ p) = false := by rw [decide_eq_false_iff_not]; have := hp.mp LT.out; omega
      have j0 : (0 : Int) ≤ (k : Int) := Int.natCast_nonneg _
      have j1 : (k : Int) < (m : Int) := by omega
      have j2 : k < m := by omega
      clear hp ek c3 hi0
      go_quiet (fail)
      go_wp2_with fail
      go_meet
      exact ⟨rfl, _, rfl⟩
  case rest =>
    obtain ⟨rfl, nd, rfl⟩ := hcut
    clear t1 t2 t3 r1 r2 lb i1 i2
    by_cases hn0 : n = 0
    · subst hn0
      have X := Lib.hid (bOf_false (p := entOK L' ⟨P, G, F⟩) (fun h => fac_short (.inl EN.out) h.2.2.2.2.2.2.1))
      go_wp2_with fail
      go_ret
      exact ⟨ret_bool X.out.symm, bl_drew (HB0.out _) _⟩
    obtain ⟨b', o', rfl, hcl'⟩ := HFc.out (by rw [EN.out]; omega)
    have t1 : decide ((n : Int) < 1) = false := by rw [decide_eq_false_iff_not]; omega
    by_cases hn16 : 16 < n
    · have t2 : decide ((16 : Int) < n) = true := by rw [decide_eq_true_eq]; omega
      have X := Lib.hid (bOf_false (p := entOK L' ⟨P, G, F⟩) (fun h => fac_short (.inr (by rw [EN.out]; exact hn16)) h.2.2.2.2.2.2.1))
      clear hn16 hn0
      go_wp2_with fail
      go_ret
      exact ⟨ret_bool X.out.symm, bl_drew (HB0.out _) _⟩
    have t2 : decide ((16 : Int) < n) = false := by rw [decide_eq_false_iff_not]; omega
    have hl0 : 0 < F.length := by rw [EN.out]; omega
    obtain ⟨k0, k1⟩ := hcl' 0 hl0
    obtain ⟨q0, eq0⟩ : ∃ q, F[0].q = q := ⟨_, rfl⟩
    rw [Nat.zero_mul, Nat.add_zero, eq0] at k0
    have lb' := cell_lt k0
    have c5 := fun ob => ((HB0.out ob).cell (p := ⟨b', o', none⟩) lb').trans k0
    have j0 : 0 < n := by omega
    have HCL := Lib.hid hcl'
    clear k0 k1 hcl'
    by_cases h2 : q0 = 2
    case neg =>
      have t3 : ((q0 : Int) != 2) = true := by rw [bne_iff_ne]; omega
      have X := Lib.hid (bOf_false (p := entOK L' ⟨P, G, F⟩) (fun h => fac_first hl0 (fun e => h2 (eq0.symm.trans e)) h.2.2.2.2.2.2.1))
      clear h2 hn0 hn16 hl0 eq0
      go_wp2_with fail
      go_ret
      exact ⟨ret_bool X.out.symm, bl_drew (HB0.out _) _⟩
    have t3 : ((q0 : Int) != 2) = false := by rw [bne_eq_false_iff_eq]; omega
    have H0 : Hid (∃ h : 0 < F.length, F[0].q = 2) := Lib.hid ⟨hl0, eq0.trans h2⟩
    have H16 : Hid (n ≤ 16) := Lib.hid (by omega)
    clear h2 hn0 hn16 hl0 eq0
    go_wp2_with fail
    clear t1 t2 t3 c5
    go_loopw [6] (fun s6 wr => ∃ k : Nat, s6 = .int .i64 k ∧ 1 ≤ k ∧ k ≤ n ∧ Below w.heap.size w wr ∧ Hid (∀ W, Below wr.heap.size wr W → w.heap.size < W.heap.size ∧ W.cell? ⟨w.heap.size, 0, none⟩ = some (.int .u64 P) ∧ W.cell? ⟨w.heap.size, 1, none⟩ = some (.int .u64 G) ∧ W.cell? ⟨w.heap.size, 2, none⟩ = some (.slice (some ⟨b', o', none⟩) n c')) ∧ Hid (ChTo L' F k)) (fun s6 _ => n - (intOf s6).toNat)
    case atStart =>
      refine ⟨1, rfl, Nat.le_refl _, by omega, bl_drew (HB0.out _) _, Lib.hid fun W hB => ?_, Lib.hid fun j _ h => absurd h (by omega)⟩
      have hs : w.heap.size < (w.alloc (.cells #[.int .u64 P, .int .u64 G, .slice (some ⟨b', o', none⟩) n c'] 149)).heap.size := by simp
      exact ⟨Nat.lt_of_lt_of_le hs hB.size, (hB.cell (p := ⟨w.heap.size, 0, none⟩) hs).trans (World.cell?_alloc_at _ _ _ _ rfl), (hB.cell (p := ⟨w.heap.size, 1, none⟩) hs).trans (World.cell?_alloc_at _ _ _ _ rfl), (hB.cell (p := ⟨w.heap.size, 2, none⟩) hs).trans (World.cell?_alloc_at _ _ _ _ rfl)⟩
    case round =>
      obtain ⟨k, rfl, hk1, hk, hB, hBox, hCh⟩ := hrel
      obtain ⟨-, e0, e1, e2⟩ := hBox.out wr (Below.refl _ _)
      by_cases hlt : k < n
      · obtain ⟨k', ek⟩ : ∃ k', k' + 1 = k := ⟨k - 1, by omega⟩
        have hj : k < F.length := by rw [EN.out]; exact hlt
        obtain ⟨x0, -⟩ := HCL.out k hj
        obtain ⟨y0, -⟩ := HCL.out k' (by omega)
        obtain ⟨q, eq⟩ : ∃ q, F[k].q = q := ⟨_, rfl⟩
        obtain ⟨p, ep⟩ : ∃ q, F[k'].q = q := ⟨_, rfl⟩
        have hq : q < 18446744073709551616 := eq ▸ (HFok.out _ (List.getElem_mem hj)).1
        rw [eq] at x0
        rw [ep] at y0
        have c0 := (hB.cell (p := ⟨b', o' + k * 2, none⟩) lb').trans x0
        have c1 := (hB.cell (p := ⟨b', o' + k' * 2, none⟩) lb').trans y0
        have hj' : k' + 1 < F.length := by omega
        have eq' : F[k' + 1].q = q := by subst ek; exact eq
        have v1 : IntKind.i64.wrap ((k : Int) - 1) = (k' : Int) := (IntWalk.i64_in _ (by omega)).trans (by omega)
        have j0 : (0 : Int) ≤ (k' : Int) := Int.natCast_nonneg _
        have j1 : (k' : Int) < (n : Int) := by omega
        have j2 : k' < n := by omega
        have j3 : (0 : Int) ≤ (k : Int) := Int.natCast_nonneg _
        have j4 : (k : Int) < (n : Int) := by omega
        by_cases hle : q ≤ p
        · have u5 : decide (q ≤ p) = true := by rw [decide_eq_true_eq]; exact hle
          have X := Lib.hid (bOf_false (p := entOK L' ⟨P, G, F⟩) (fun h => by
            have := (facOK.ch h.2.2.2.2.2.2.1 k' hj').1
            rw [ep, eq'] at this
            omega))
          clear x0 y0 eq ep eq' hle hj hj' ek
          go_wp2_with fail
          go_quiet (fail)
          go_wp2_with fail
          go_ret
          exact ⟨ret_bool X.out.symm, bl_drew hB _⟩
        · have u5 : decide (q ≤ p) = false := by rw [decide_eq_false_iff_not]; exact hle
          obtain ⟨B, eB⟩ : ∃ B, hasP L' q = B := ⟨_, rfl⟩
          have cc := Lib.hid (fun (W : World) (hb : Below w.heap.size w W) => rclaimed_any L' (.slice (some ⟨b, o, none⟩) i c) (q : Int) W (HV.out.below hb) (Int.natCast_nonneg _) (by omega))
          simp only [Int.toNat_natCast, eB] at cc
          have HB2 := Lib.hid hB
          have HS : Hid (∀ W, Below wr.heap.size wr W → W.cell? ⟨w.heap.size, 2, none⟩ = some (.slice (some ⟨b', o', none⟩) n c') ∧ W.cell? ⟨b', o' + k * 2, none⟩ = some (.int .u64 q) ∧ W.cell? ⟨b', o' + k' * 2, none⟩ = some (.int .u64 p)) := Lib.hid fun W hb => ⟨(hBox.out W hb).2.2.2, ((bl_trans HB2.out hb).cell (p := ⟨b', o' + k * 2, none⟩) lb').trans x0, ((bl_trans HB2.out hb).cell (p := ⟨b', o' + k' * 2, none⟩) lb').trans y0⟩
          have X : Hid ((B = false → false = bOf (entOK L' ⟨P, G, F⟩)) ∧ (B = true → ChTo L' F (k + 1))) := Lib.hid ⟨fun h => (bOf_false (fun h' => by
            have := (facOK.ch h'.2.2.2.2.2.2.1 k' hj').2
            rw [eq', eB, h] at this
            cases this)).symm, fun h => by
            have := ch_step hj' (ek ▸ hCh.out) ⟨by rw [ep, eq']; omega, by rw [eq', eB, h]⟩
            rwa [ek] at this⟩
          clear x0 y0 eq ep eq' hle hj hj' ek eB hCh
          go_wp2_with fail
          go_region_held3 (fun W => W.cell? ⟨w.heap.size, 2, none⟩ = some (.slice (some ⟨b', o', none⟩) n c') ∧ W.cell? ⟨b', o' + k * 2, none⟩ = some (.int .u64 q) ∧ W.cell? ⟨b', o' + k' * 2, none⟩ = some (.int .u64 p)) (first | exact ⟨e2, c0, c1⟩ | exact HS.out _ (bl_drew1 (Below.refl _ _)) | exact HS.out _ (bl_trans (bl_drew1 (Below.refl _ _)) ‹_›)) (first | (go_at_call 204; refine (cc.out _ ?_).mono ?_; (first | exact bl_drew1 HB2.out | exact HB2.out); rintro e w' ⟨rfl, hb⟩))
          have hb2 := bl_trans (bl_drew1 (Below.refl wr.heap.size wr)) ‹Below wr.drew.heap.size wr.drew _›
          have HB3 := Lib.hid (bl_trans HB2.out hb2)
          have HBX := Lib.hid (fun W hB => hBox.out W (bl_trans hb2 hB))
          clear hb2
          cases B with
          | false =>
            have Y := Lib.hid (X.out.1 rfl)
            go_wp2_with fail
            go_ret
            exact ⟨ret_bool Y.out, HB3.out⟩
          | true =>
            have Y := Lib.hid (X.out.2 rfl)
            go_wp2_with fail
            exact ⟨⟨k + 1, by go_num, by omega, by omega, HB3.out, HBX, Y⟩, by simp [intOf]; omega⟩
      · obtain rfl : k = n := by omega
        obtain ⟨p', ep'⟩ : ∃ p', p' + 1 = P := ⟨P - 1, by have := Kt2.out; omega⟩
        have v1 : IntKind.u64.wrap ((P : Int) - 1) = (p' : Int) := (IntWalk.u64_in _ ⟨by omega, by have := HP.out; omega⟩).trans (by omega)
        have EP' := Lib.hid (show P - 1 = p' by omega)
        have CP := Lib.hid (rprod_any (.slice (some ⟨b', o', none⟩) k c') F p' wr (HFR.out.below hB) (by have := Kt2.out; omega) (by have := HP.out; omega))
        clear ep'
        go_wp2_with fail
        refine (CP.out).mono ?_
        rintro e w2 ⟨hb2, ⟨hOk, rfl⟩ | ⟨hBad, rfl⟩⟩
        case inr =>
          clear e0 e1 e2
          obtain ⟨-, e0, e1, e2⟩ := hBox.out w2 hb2
          have HB3 := Lib.hid (bl_trans hB hb2)
          have X := Lib.hid (bOf_false (p := entOK L' ⟨P, G, F⟩) (fun h => hBad (EP'.out ▸ facOK.pr h.2.2.2.2.2.2.1)))
          clear hBad hb2
          go_wp2_with fail
          go_ret
          exact ⟨ret_bool X.out.symm, HB3.out⟩
        case inl =>
          obtain ⟨-, f0, f1, f2⟩ := hBox.out w2 hb2
          have HB3 := Lib.hid (bl_trans hB hb2)
          have HBX := Lib.hid (fun W hB => hBox.out W (bl_trans hb2 hB))
          have HOK := Lib.hid hOk
          clear hb2 e0 e1 e2 hOk
          obtain ⟨N, eN⟩ : ∃ N, prodF F = N := ⟨_, rfl⟩
          rw [eN]
          by_cases hN : N = p'
          case neg =>
            have t1 : ((N : Int) != p') = true := by rw [bne_iff_ne]; omega
            have X := Lib.hid (bOf_false (p := entOK L' ⟨P, G, F⟩) (fun h => hN (eN.symm.trans (h.2.2.2.2.2.2.1.2.2.2.trans EP'.out))))
            clear hN eN
            go_wp2_with fail
            go_ret
            exact ⟨ret_bool X.out.symm, HB3.out⟩
          have t1 : ((N : Int) != p') = false := by rw [bne_eq_false_iff_eq]; omega
          have HFac := Lib.hid (fac_all (n := P - 1) (by rw [EN.out]; exact H16.out) H0.out (by rw [EN.out]; exact hCh.out) (EP'.out.symm ▸ HOK.out) (by rw [eN, hN, EP'.out]))
          clear hN eN
          by_cases h0 : 2 ≤ G
          case neg =>
            have t2 : decide ((G : Int) < 2) = true := by rw [decide_eq_true_eq]; omega
            have X := Lib.hid (bOf_false (p := entOK L' ⟨P, G, F⟩) (fun h => h0 h.2.2.2.1))
            clear h0
            go_wp2_with fail
            go_ret
            exact ⟨ret_bool X.out.symm, HB3.out⟩
          have t2 : decide ((G : Int) < 2) = false := by rw [decide_eq_false_iff_not]; omega
          have HG2 := Lib.hid h0
          clear h0
          by_cases h0 : G < P
          case neg =>
            have t3 : decide (P ≤ G) = true := by rw [decide_eq_true_eq]; omega
            have X := Lib.hid (bOf_false (p := entOK L' ⟨P, G, F⟩) (fun h => h0 h.2.2.2.2.1))
            clear h0
            go_wp2_with fail
            go_ret
            exact ⟨ret_bool X.out.symm, HB3.out⟩
          have t3 : decide (P ≤ G) = false := by rw [decide_eq_false_iff_not]; omega
          have HGP := Lib.hid h0
          clear h0
          have CQ := Lib.hid (fun (e : Nat) he W => rpow_any (G : Int) e P (Int.natCast_nonneg _) (by have := HG.out; omega) (Int.natCast_nonneg _) he (by have := Kt2.out; omega) (by have := HP.out; omega) W)
          simp only [Int.toNat_natCast] at CQ
          obtain ⟨x, ex⟩ : ∃ x, fpow P G p' = x := ⟨_, rfl⟩
          have CQ1 := Lib.hid (CQ.out p' (by have := EP'.out; have := HP.out; omega))
          simp only [ex] at CQ1
          have EX := Lib.hid (show fpow P G (P - 1) = x by rw [EP'.out]; exact ex)
          clear ex
          by_cases hx : x = 1
          case neg =>
            have t4 : ((x : Int) != 1) = true := by rw [bne_iff_ne]; omega
            have X := Lib.hid (bOf_false (p := entOK L' ⟨P, G, F⟩) (fun h => hx (EX.out.symm.trans h.2.2.2.2.2.2.2.1)))
            clear hx
            go_wp2_with fail
            refine (CQ1.out _).mono ?_
            rintro e w3 ⟨rfl, rfl⟩
            go_wp2_with fail
            go_ret
            exact ⟨ret_bool X.out.symm, HB3.out⟩
          have t4 : ((x : Int) != 1) = false := by rw [bne_eq_false_iff_eq]; omega
          have HX := Lib.hid (EX.out.trans hx)
          clear hx
          go_wp2_with fail
          refine (CQ1.out _).mono ?_
          rintro e w3 ⟨rfl, rfl⟩
          go_wp2_with fail
          clear t1 t2 t3 t4 f0 f1 f2
          go_loopw [140] (fun s140 wr => ∃ j : Nat, s140 = .int .i64 j ∧ j ≤ k ∧ Below w.heap.size w wr ∧ Hid (∀ W, Below wr.heap.size wr W → w.heap.size < W.heap.size ∧ W.cell? ⟨w.heap.size, 0, none⟩ = some (.int .u64 P) ∧ W.cell? ⟨w.heap.size, 1, none⟩ = some (.int .u64 G) ∧ W.cell? ⟨w.heap.size, 2, none⟩ = some (.slice (some ⟨b', o', none⟩) k c')) ∧ Hid (PowTo P G F j)) (fun s140 _ => k - (intOf s140).toNat)
          case atStart => exact ⟨0, rfl, Nat.zero_le _, HB3.out, HBX, Lib.hid fun j _ h => absurd h (by omega)⟩
          case round =>
            clear hlt hCh hBox hB HBX HB3
            obtain ⟨j, rfl, hjk, hB, hBox, hT⟩ := hrel
            obtain ⟨hs, e0, e1, e2⟩ := hBox.out _ (Below.refl _ _)
            by_cases hlt : j < k
            · have hj : j < F.length := by rw [EN.out]; exact hlt
              obtain ⟨x0, x1⟩ := HCL.out j hj
              have hq2 := facOK.two_le HFac.out _ (List.getElem_mem hj)
              obtain ⟨q, eq⟩ : ∃ q, F[j].q = q := ⟨_, rfl⟩
              obtain ⟨E, eE⟩ : ∃ E, F[j].e = E := ⟨_, rfl⟩
              rw [eq] at x0 hq2
              rw [eE] at x1
              have c0 := (hB.cell (p := ⟨b', o' + j * 2, none⟩) lb').trans x0
              have c1 := (hB.cell (p := ⟨b', o' + j * 2 + 1, none⟩) lb').trans x1
              obtain ⟨d, ed⟩ : ∃ d, p' / q = d := ⟨_, rfl⟩
              have hd : d < 18446744073709551616 := by
                have h1 : d ≤ p' := ed ▸ Nat.div_le_self _ _
                have := EP'.out; have := HP.out; omega
              have k1 : (p' : Int) / q = (d : Int) := by rw [← ed]; exact (Int.natCast_ediv _ _).symm
              have k2 : (p' : Int).tdiv q = (d : Int) := by rw [Int.tdiv_eq_ediv_of_nonneg (Int.natCast_nonneg _)]; exact k1
              have k3 : IntKind.u64.wrap (d : Int) = (d : Int) := IntWalk.u64_in _ ⟨by omega, by omega⟩
              have k4 : ((q : Int) == 0) = false := by rw [beq_eq_false_iff_ne]; omega
              have k5 : ¬ q = 0 := by omega
              obtain ⟨y, ey⟩ : ∃ x, fpow P G d = x := ⟨_, rfl⟩
              have CQ2 := Lib.hid (CQ.out d (by omega))
              simp only [ey] at CQ2
              have EY : Hid (fpow P G ((P - 1) / F[j].q) = y) := Lib.hid (by rw [EP'.out, eq, ed]; exact ey)
              have HA := Lib.hid (fun ob => (Below.refl wr.heap.size wr).alloc (Nat.le_refl _) ob)
              have HB4 := Lib.hid (fun ob => hB.alloc hB.size ob)
              have HBX := Lib.hid (fun ob W (hb : Below (wr.alloc ob).heap.size (wr.alloc ob) W) => hBox.out W (bl_trans (HA.out ob) hb))
              clear x0 x1 hq2 ed hd eE eq ey hBox
              by_cases hy : y = 1
              · have t2 : ((y : Int) == 1) = true := by rw [beq_iff_eq]; omega
                have Z := Lib.hid (bOf_false (p := entOK L' ⟨P, G, F⟩) fun h => h.2.2.2.2.2.2.2.2 _ (List.getElem_mem hj) (EY.out.trans hy))
                clear hy EY hj
                go_wp2_with fail
                go_quiet ((go_at_call 161; exact Calls.quiet_of (quiet0 (CQ2.out _))))
                go_wp2_with fail
                go_ret
                exact ⟨ret_bool Z.out.symm, bl_drew (HB4.out _) _⟩
              · have t2 : ((y : Int) == 1) = false := by rw [beq_eq_false_iff_ne]; omega
                have Z := Lib.hid (fpow_step hj hT.out fun h => hy (EY.out.symm.trans h))
                clear hy EY hj
                go_wp2_with fail
                go_quiet ((go_at_call 161; exact Calls.quiet_of (quiet0 (CQ2.out _))))
                go_wp2_with fail
                exact ⟨⟨j + 1, by go_num, by omega, bl_drew (HB4.out _) _, Lib.hid fun W hb => HBX.out _ W (bl_trans (bl_drew (Below.refl _ _) _) hb), Z⟩, by simp [intOf]; omega⟩
            · obtain rfl : j = k := by omega
              have XX := Lib.hid (bOf_true (p := entOK L' ⟨P, G, F⟩) ⟨KR.out, Kt2.out, Kt3.out, HG2.out, HGP.out, LT.out, HFac.out, bOf_iff.mp (pow_end EN.out HX.out hT.out)⟩)
              go_wp2_with fail
              go_ret
              exact ⟨ret_bool XX.out.symm, hB⟩
set_option maxHeartbeats 1000000 in
theorem rcheck_any (L : List Ent) (v : Value) (w : World) (hv : RdEnt w v L) :
    Calls Tryz.prog 100 #[v] w (CkPost L w) := by
  have HV := Lib.hid hv
  obtain ⟨hl, hok, A, c, rfl, hc, hcell⟩ := hv
  unfold Len at hl
  obtain ⟨n, en⟩ : ∃ n, L.length = n := ⟨_, rfl⟩
  have EN := Lib.hid en
  rw [en] at hl HV ⊢
  by_cases h0 : 32 < n
  · have t0 : decide ((32 : Int) < n) = true := by rw [decide_eq_true_eq]; omega
    have X := Lib.hid (ckE_long (by rw [en]; exact h0))
    clear hok hcell hc en h0
    go_enter Tryz.func100, Tryz.ntmps100
    go_wp2_with fail
    go_ret2
    exact ⟨0, ret_tup (by rw [X.out]; rfl), Below.refl _ _⟩
  · have t0 : decide ((32 : Int) < n) = false := by rw [decide_eq_false_iff_not]; omega
    have N0 := Lib.hid h0
    have hn : n ≤ 32 := by omega
    have R0 : Hid (rowOK L 0) := Lib.hid fun j _ h => absurd h (by omega)
    have CR := Lib.hid (fun (i : Nat) hi (W : World) (hB : Below w.heap.size w W) => rright_any L _ i W (HV.out.below hB) hi)
    clear hok hcell hc en h0
    go_enter Tryz.func100, Tryz.ntmps100
    go_wp2_with fail
    clear t0
    go_loopw [10] (fun s10 wr => ∃ k : Nat, s10 = .int .i64 k ∧ k ≤ n ∧ Below w.heap.size w wr ∧ Hid (rowOK L k)) (fun s10 _ => n - (intOf s10).toNat)
    case atStart => exact ⟨0, rfl, Nat.zero_le _, Below.refl _ _, R0⟩
    case round =>
      obtain ⟨k, rfl, hk, hBr, hR⟩ := hrel
      by_cases hlt : k < n
      · have hj : k < L.length := by rw [EN.out]; exact hlt
        obtain ⟨B, eB⟩ : ∃ B, bOf (entOK (L.take k) L[k]) = B := ⟨_, rfl⟩
        have C := Lib.hid (CR.out k hj wr hBr)
        simp only [eB] at C
        have X : Hid ((B = false → ckE L = 3) ∧ (B = true → rowOK L (k + 1))) := Lib.hid ⟨fun h => ckE_bad (by rw [EN.out]; exact N0.out) hj fun h' => absurd ((bOf_true h').symm.trans eB) (by rw [h]; decide), fun h => row_step hR.out hj (bOf_iff.mp (eB.trans h))⟩
        clear eB hj
        go_wp2_with fail
        refine (C.out).mono ?_
        rintro e w2 ⟨rfl, hb⟩
        have HB2 := Lib.hid (bl_trans hBr hb)
        clear hb
        cases B with
        | false =>
          have Y := Lib.hid (X.out.1 rfl)
          go_wp2_with fail
          go_ret2
          exact ⟨k, ret_tup (by rw [Y.out]; rfl), HB2.out⟩
        | true =>
          have Y := Lib.hid (X.out.2 rfl)
          go_wp2_with fail
          exact ⟨⟨k + 1, by go_num, by omega, HB2.out, Y⟩, by simp [intOf]; omega⟩
      · obtain rfl : k = n := by omega
        have XX := Lib.hid (ckE_good (by rw [EN.out]; exact N0.out) (EN.out.symm ▸ hR.out))
        go_wp2_with fail
        go_ret2
        exact ⟨0, ret_tup (by rw [XX.out]; rfl), hBr⟩
end Go.Proofs.YtbokindcnkknmaaGreat
