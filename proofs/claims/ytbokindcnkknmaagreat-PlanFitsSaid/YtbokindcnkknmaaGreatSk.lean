/- Small and Known. -/
import Derived.Test.YtbokindcnkknmaaGreatRl
set_option linter.unusedVariables false
namespace Go.Proofs.YtbokindcnkknmaaGreat
open Go.RowKit Epi
theorem known_bad (k : Int) (w : World) (h : ¬ (0 ≤ k ∧ k ≤ 5)) : Calls Tryz.prog 101 #[.int .i64 k] w fun e w' => Below w.heap.size w w' ∧ e = .returned (.tuple #[.slice none 0 0, .int .u64 0]) := by
  have t0 : (k == 0) = false := by rw [beq_eq_false_iff_ne]; omega
  have t1 : (k == 1) = false := by rw [beq_eq_false_iff_ne]; omega
  have t2 : (k == 2) = false := by rw [beq_eq_false_iff_ne]; omega
  have t3 : (k == 3) = false := by rw [beq_eq_false_iff_ne]; omega
  have t4 : (k == 4) = false := by rw [beq_eq_false_iff_ne]; omega
  have t5 : (k == 5) = false := by rw [beq_eq_false_iff_ne]; omega
  clear h
  go_enter Tryz.func101, Tryz.ntmps101
  go_wp2_with fail
  go_ret2
  refine ⟨?_, rfl⟩
  repeat (first | exact Below.refl _ _ | refine Below.alloc ?_ (by simp <;> omega) _)
theorem known_good (k : Nat) (w : World) (h : k < 6) : Calls Tryz.prog 101 #[.int .i64 k] w (KnPost k w) := by
  have : k = 0 ∨ k = 1 ∨ k = 2 ∨ k = 3 ∨ k = 4 ∨ k = 5 := by omega
  rcases this with rfl | rfl | rfl | rfl | rfl | rfl
  · exact known0 w
  · exact known1 w
  · exact known2 w
  · exact known3 w
  · exact known4 w
  · exact known5 w
theorem kRow_P : ∀ k, k < 6 → kP k ≠ 0 ∧ kP k < 18446744073709551616 ∧ ((kRow k).all (fun x => !(x.P == kP k) || x.G == kG k)) = true ∧ ((kRow k).any (fun x => x.P == kP k)) = true ∧ (kRow k).length ≤ 32 := by decide +kernel
def FKn (k : Int) (w : World) (e : Ending) (w' : World) : Prop := Below w.heap.size w w' ∧ ((0 ≤ k ∧ k ≤ 5 ∧ ∃ b, IsFd w' b (kP k.toNat) (kG k.toNat) ∧ e = .returned (.tuple #[.pointer (some ⟨b, 0, none⟩), .int .i64 0])) ∨ (¬ (0 ≤ k ∧ k ≤ 5) ∧ e = .returned (.tuple #[.pointer none, .int .i64 1])))
set_option maxHeartbeats 1000000 in
theorem fknown_any (k : Int) (w : World) : Calls Tryz.prog 44 #[.int .i64 k] w (FKn k w) := by
  by_cases h : 0 ≤ k ∧ k ≤ 5
  case neg =>
    have H := Lib.hid h
    have C := Lib.hid (known_bad k w h)
    clear h
    go_enter Tryz.func44, Tryz.ntmps44
    go_wp2_with fail
    refine (C.out).mono ?_
    rintro e w1 ⟨hb, rfl⟩
    have HB := Lib.hid hb
    clear hb
    go_wp2_with fail
    go_ret2
    exact ⟨HB.out, .inr ⟨H.out, rfl⟩⟩
  obtain ⟨k, rfl⟩ := Int.eq_ofNat_of_zero_le h.1
  have hk : k < 6 := by omega
  obtain ⟨p0, p1, p2, p3, p4⟩ := kRow_P k hk
  have C := Lib.hid (known_good k w hk)
  have C2 := Lib.hid (fun (W : World) (v : Value) (hv : RdEnt W v (kRow k)) => fnew_any (kRow k) v (kP k) W hv p1)
  have Z : Hid (∀ w1 e w2, Below w.heap.size w w1 → NwPost (kRow k) (kP k) w1 e w2 → ∃ b, e = .returned (.tuple #[.pointer (some ⟨b, 0, none⟩), .int .i64 0]) ∧ FKn k w e w2) := Lib.hid (by
    intro w1 e w2 h1 ⟨h2, h3⟩
    have hck := ckE_of (kRow_ok hk) p4
    rcases h3 with ⟨i, hi, e1, -, -, b, rfl, hfd⟩ | ⟨hx, -⟩ | ⟨-, hN, -⟩
    · have hG : (kRow k)[i].G = kG k := by
        have := List.all_eq_true.mp p2 _ (List.getElem_mem hi)
        simpa [e1] using this
      rw [hG] at hfd
      exact ⟨b, rfl, bl_trans h1 h2, .inl ⟨h.1, h.2, b, hfd, rfl⟩⟩
    · exact absurd hck hx
    · exfalso
      obtain ⟨x, hx, hx2⟩ := List.any_eq_true.mp p3
      obtain ⟨j, hj, rfl⟩ := List.mem_iff_getElem.mp hx
      exact hN j hj hj (by simpa using hx2))
  unfold KnPost at C
  obtain ⟨p, ep⟩ : ∃ p, kP k = p := ⟨_, rfl⟩
  rw [ep] at C C2 p0 Z
  have t1 : ((p : Int) == 0) = false := by rw [beq_eq_false_iff_ne]; omega
  clear h hk p0 p1 p2 p3 p4 ep
  go_enter Tryz.func44, Tryz.ntmps44
  go_wp2_with fail
  refine (C.out).mono ?_
  rintro e w1 ⟨hb, A, n, c, rfl, hR⟩
  have C3 := Lib.hid (C2.out w1 _ hR)
  have HB := Lib.hid hb
  clear hb hR
  go_wp2_with fail
  refine (C3.out).mono ?_
  intro e w2 hN
  obtain ⟨b, rfl, hF⟩ := Z.out w1 e w2 HB.out hN
  have HF := Lib.hid hF
  clear hF hN
  go_wp2_with fail
  go_ret2
  exact HF.out
def FSm (P : Nat) (w : World) (e : Ending) (w' : World) : Prop := Below w.heap.size w w' ∧ ((OddP P ∧ ∃ b g, GenOf P g ∧ IsFd w' b P g ∧ e = .returned (.tuple #[.pointer (some ⟨b, 0, none⟩), .int .i64 0])) ∨ (¬ OddP P ∧ e = .returned (.tuple #[.pointer none, .int .i64 1])))
set_option maxHeartbeats 1000000 in
theorem fsmall_any (P : Nat) (w : World) (hP : P < 18446744073709551616) : Calls Tryz.prog 42 #[.int .u64 P] w (FSm P w) := by
  have C := Lib.hid (row_any P w hP)
  have HP := Lib.hid hP
  clear hP
  go_enter Tryz.func42, Tryz.ntmps42
  go_wp2_with fail
  refine (C.out).mono ?_
  rintro e w1 ⟨hb, ⟨hO, A, n, c, L, rfl, hR, hl, hok, ⟨x, hx, hxP⟩, hG⟩ | ⟨hO, rfl⟩⟩
  case inr =>
    have HO := Lib.hid hO
    have HB := Lib.hid hb
    clear hb hO
    go_wp2_with fail
    go_ret2
    exact ⟨HB.out, .inr ⟨HO.out, rfl⟩⟩
  have C3 := Lib.hid (fnew_any L _ P w1 hR HP.out)
  have HB := Lib.hid hb
  have Z : Hid (∀ e w2, NwPost L P w1 e w2 → ∃ b, e = .returned (.tuple #[.pointer (some ⟨b, 0, none⟩), .int .i64 0]) ∧ FSm P w e w2) := Lib.hid (by
    intro e w2 ⟨h2, h3⟩
    have hck := ckE_of hok (by omega)
    rcases h3 with ⟨i, hi, e1, -, -, b, rfl, hfd⟩ | ⟨hx, -⟩ | ⟨-, hN, -⟩
    · have hg := hG _ (List.getElem_mem hi)
      rw [e1] at hg
      exact ⟨b, rfl, bl_trans hb h2, .inl ⟨hO, b, _, hg, hfd, rfl⟩⟩
    · exact absurd hck hx
    · exfalso
      obtain ⟨j, hj, rfl⟩ := List.mem_iff_getElem.mp hx
      exact hN j hj hj hxP)
  clear hb hR hl hok hx hxP hG hO
  go_wp2_with fail
  refine (C3.out).mono ?_
  intro e w2 hN
  obtain ⟨b, rfl, hF⟩ := Z.out e w2 hN
  have HF := Lib.hid hF
  clear hF hN
  go_wp2_with fail
  go_ret2
  exact HF.out
theorem fnew2 (L : List Ent) (v : Value) (p : Nat) (w : World) (hv : RdEnt w v L) (hp : p < 18446744073709551616) :
    Calls Tryz.prog 45 #[v, .int .u64 p] w fun e w' => ∃ o r, e = .returned (.tuple #[.pointer o, .int .i64 r]) ∧ Hid (NwPost L p w (.returned (.tuple #[.pointer o, .int .i64 r])) w') ∧ Below w.heap.size w w' := by
  refine (fnew_any L v p w hv hp).mono fun e w' h => ?_
  have hb := h.1
  rcases h with ⟨h1, ⟨i, hi, a, b, c, g, rfl, d⟩ | ⟨h2, rfl⟩ | ⟨h2, h3, rfl⟩⟩
  · exact ⟨_, _, rfl, Lib.hid ⟨h1, .inl ⟨i, hi, a, b, c, g, rfl, d⟩⟩, hb⟩
  · exact ⟨_, _, rfl, Lib.hid ⟨h1, .inr (.inl ⟨h2, rfl⟩)⟩, hb⟩
  · exact ⟨_, _, rfl, Lib.hid ⟨h1, .inr (.inr ⟨h2, h3, rfl⟩)⟩, hb⟩
/-- What made answers. -/
def MdPost (k K : Int) (P : Nat) (L : List Ent) (w : World) (e : Ending) (w' : World) : Prop := Below w.heap.size w w' ∧ ∃ p g : Nat, ∃ o, e = .returned (.tuple #[.pointer o, .int .u64 p, .int .u64 g]) ∧ ((p = 0 ∧ g = 0 ∧ o = none) ∨ ∃ b, IsFd w' b p g ∧ o = some ⟨b, 0, none⟩)
end Go.Proofs.YtbokindcnkknmaaGreat
