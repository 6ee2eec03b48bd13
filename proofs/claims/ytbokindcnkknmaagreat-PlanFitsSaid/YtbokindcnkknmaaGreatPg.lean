/- What plans cost: logarithms, halves; the document's costs. -/
import Derived.Test.YtbokindcnkknmaaGreatPf
import Derived.Test.YtbokindcnkknmaaGreatSh
set_option linter.unusedVariables false
namespace Go.Proofs.YtbokindcnkknmaaGreat
open Go.RowKit Epi
theorem bitLenAux_eq : ∀ (f x : Nat), 1 ≤ x → x < 2 ^ f → Lib.bitLenAux f x = Nat.log2 x + 1 := by
  intro f
  induction f with
  | zero => intro x h1 h2; rw [Nat.pow_zero] at h2; omega
  | succ f ih =>
    intro x h1 h2
    unfold Lib.bitLenAux
    rw [if_neg (by omega), Nat.log2_def]
    by_cases h : 2 ≤ x
    · rw [if_pos h, ih _ (by omega) (by rw [Nat.pow_succ] at h2; omega)]
      omega
    · obtain rfl : x = 1 := by omega
      rw [if_neg h]
      cases f <;> rfl
theorem bitLen_lg {x : Nat} (h1 : 1 ≤ x) (h2 : x < 18446744073709551616) : Lib.bitLen x = lg x + 1 := bitLenAux_eq 64 x h1 h2
theorem lg_le {n k : Nat} (h1 : 1 ≤ n) (h2 : n < 2 ^ (k + 1)) : lg n ≤ k := by
  have := (Nat.log2_lt (by omega)).mpr h2
  unfold lg
  omega
theorem lg_half {n : Nat} (h : 2 ≤ n) : lg n = lg (n / 2) + 1 := by
  unfold lg
  rw [Nat.log2_def, if_pos h]
theorem lg_one : lg 1 = 0 := by decide
set_option maxHeartbeats 400000 in
theorem halves_any (n : Nat) (w : World) (h1 : 1 ≤ n) (h2 : n ≤ 2048) : Calls Tryz.prog 175 #[.int .i64 n] w fun e w' => e = .returned (.int .i64 (n * 3 * lg n + n : Nat)) ∧ w = w' := by
  have C := Lib.hid (fun W => Tryz.bits_Len (n : Int) W (by omega) (by omega))
  rw [Int.toNat_natCast, bitLen_lg h1 (by omega)] at C
  have hl := lg_le (k := 11) h1 (by have : (2 : Nat) ^ 12 = 4096 := rfl; omega)
  obtain ⟨l, el⟩ : ∃ l, lg n = l := ⟨_, rfl⟩
  rw [el] at C hl ⊢
  have v1 : IntKind.u64.wrap (n : Int) = (n : Int) := IntWalk.u64_in _ ⟨by omega, by omega⟩
  obtain ⟨q, eq⟩ : ∃ q, n * 3 * l = q := ⟨_, rfl⟩
  have hq : q ≤ 2048 * 3 * 11 := eq ▸ Nat.mul_le_mul (by omega) hl
  have k1 : (n : Int) * 3 * (l : Int) = (q : Int) := by rw [← eq]; simp
  rw [eq]
  clear el eq
  go_enter Tryz.func175, Tryz.ntmps175
  go_wp2_with fail
  refine (C.out _).mono ?_
  rintro e w1 ⟨rfl, rfl⟩
  go_wp2_with fail
  go_ret
  exact ⟨ret_int (by omega), rfl⟩
set_option maxHeartbeats 400000 in
theorem rlog_any (n : Nat) (w : World) (h1 : 1 ≤ n) (h2 : n ≤ 2048) : Calls Tryz.prog 52 #[.int .i64 n] w fun e w' => e = .returned (.int .i64 (lg n : Nat)) ∧ w = w' := by
  have hl := lg_le (k := 11) h1 (by have : (2 : Nat) ^ 12 = 4096 := rfl; omega)
  have H := Lib.hid h1
  have HL := Lib.hid hl
  clear hl h1
  go_enter Tryz.func52, Tryz.ntmps52
  go_wp2_with fail
  go_loop [0, 3] (fun s0 s3 => ∃ m k : Nat, s0 = .int .i64 m ∧ s3 = .int .i64 k ∧ m ≤ 2048 ∧ k ≤ 2048 ∧ Hid (1 ≤ m ∧ lg n = lg m + k)) (fun s0 _ => (intOf s0).toNat)
  case atStart => exact ⟨n, 0, rfl, rfl, h2, by omega, Lib.hid ⟨H.out, rfl⟩⟩
  case round =>
    obtain ⟨m, k, rfl, rfl, hm, hk, hX⟩ := hrel
    by_cases hlt : 1 < m
    · have t1 : decide ((1 : Int) < m) = true := by rw [decide_eq_true_eq]; omega
      obtain ⟨q, eq⟩ : ∃ q, m / 2 = q := ⟨_, rfl⟩
      have k1 : (m : Int) / 2 = (q : Int) := by omega
      have Y : Hid (1 ≤ q ∧ lg n = lg q + (k + 1)) := Lib.hid ⟨by omega, by have := hX.out.2; rw [lg_half (n := m) (by omega), eq] at this; omega⟩
      have hk' : k + 1 ≤ 2048 := by have := Y.out.2; have := HL.out; omega
      have hql : q < m := by omega
      clear eq
      go_wp2_with fail
      exact ⟨⟨q, k + 1, rfl, by go_num, by omega, hk', Y⟩, by simp [intOf]; omega⟩
    · have t1 : decide ((1 : Int) < m) = false := by rw [decide_eq_false_iff_not]; omega
      obtain rfl : m = 1 := by have := hX.out.1; omega
      have F : Hid (k = lg n) := Lib.hid (by have := hX.out.2; rw [lg_one] at this; omega)
      go_wp2_with fail
      go_ret
      exact ⟨ret_int (by rw [F.out]), rfl⟩
/-- The sum of factors. -/
theorem sum_take {L : List Nat} {i : Nat} (h : i < L.length) : (L.take (i + 1)).sum = (L.take i).sum + L[i] := by
  rw [List.take_succ_eq_append_getElem h, List.sum_append]
  simp
theorem sum_le7 {L : List Nat} (h : ∀ r ∈ L, r ≤ 7) : L.sum ≤ 7 * L.length := by
  induction L with
  | nil => simp
  | cons x L ih =>
    have := ih fun r hr => h r (by simp [hr])
    have := h x (by simp)
    simp only [List.sum_cons, List.length_cons]
    omega
theorem is_cell {w : World} {base g m c i : Nat} {L : List Nat} (h : w.ownsRow base 3 1 (.slice (some ⟨g, 0, none⟩) m c) m (is L)) (hl : L.length = m) (hi : i < L.length) : w.cell? ⟨g, i, none⟩ = some (.int .i64 (L[i] : Nat)) := by
  rw [h.cellAt i (by omega)]
  unfold is
  rw [List.getElem?_map, List.getElem?_eq_getElem hi]
  rfl
end Go.Proofs.YtbokindcnkknmaaGreat
