/- Fields out of rows. -/
import Derived.Test.YtbokindcnkknmaaGreatFk
set_option linter.unusedVariables false
namespace Go.Proofs.YtbokindcnkknmaaGreat
open Go.RowKit Epi
/-- What New answers. -/
def NwPost (L : List Ent) (p : Nat) (w : World) (e : Ending) (w' : World) : Prop := Below w.heap.size w w' ∧ ((∃ i, ∃ hi : i < L.length, L[i].P = p ∧ NoP L p i ∧ ckE L = 0 ∧ ∃ b, e = .returned (.tuple #[.pointer (some ⟨b, 0, none⟩), .int .i64 0]) ∧ IsFd w' b p L[i].G) ∨
  (ckE L ≠ 0 ∧ e = .returned (.tuple #[.pointer none, .int .i64 (ckE L : Nat)])) ∨ (ckE L = 0 ∧ NoP L p L.length ∧ e = .returned (.tuple #[.pointer none, .int .i64 14])))
theorem ckE_of {L : List Ent} (h : rowOK L L.length) (hl : L.length ≤ 32) : ckE L = 0 := by
  unfold ckE
  rw [if_neg (by omega), if_pos h]
theorem ckE_le (L : List Ent) : ckE L ≤ 13 := by
  unfold ckE
  split
  · omega
  · split <;> omega
theorem row_fd {L : List Ent} (h : ckE L = 0) {i : Nat} (hi : i < L.length) : FdOK L[i].P L[i].G ∧ okMod L[i].P := by
  have h0 := (ckE_zero h).2
  obtain ⟨a, b⟩ := h0.prime i hi hi
  obtain ⟨h1, h2, h3, h4, h5, -⟩ := h0 i hi hi
  exact ⟨⟨b, h2, h3, h4, h5, a⟩, h1, h2, h3⟩
set_option maxHeartbeats 1000000 in
set_option maxRecDepth 100000 in
theorem fnew_any (L : List Ent) (v : Value) (p : Nat) (w : World) (hv : RdEnt w v L) (hp : p < 18446744073709551616) :
    Calls Tryz.prog 45 #[v, .int .u64 p] w (NwPost L p w) := by
  have C1 := Lib.hid (check_any L v w hv)
  have C2 := Lib.hid (fun W (hb : Below w.heap.size w W) => claim_any L v p W (hv.below hb) hp)
  have hle := ckE_le L
  obtain ⟨-, -, A, c, rfl, -⟩ := hv
  obtain ⟨k, ek⟩ : ∃ k, ckE L = k := ⟨_, rfl⟩
  unfold CkPost at C1
  rw [ek] at C1 hle
  by_cases hk : k = 0
  case neg =>
    have t1 : ((k : Int) != 0) = true := by rw [bne_iff_ne]; omega
    have t2 : ((k : Int) == 0) = false := by rw [beq_eq_false_iff_ne]; omega
    have Z : Hid (∀ W, Below w.heap.size w W → NwPost L p w (.returned (.tuple #[.pointer none, .int .i64 (k : Nat)])) W) := Lib.hid fun W h => ⟨h, .inr (.inl ⟨by omega, by rw [ek]⟩)⟩
    clear ek hk hp
    go_enter Tryz.func45, Tryz.ntmps45
    go_wp2_with fail
    refine (C1.out).mono ?_
    rintro e w1 ⟨i, rfl, hb⟩
    have HB := Lib.hid hb
    clear hb
    go_wp2_with fail
    go_ret2
    exact Z.out _ HB.out
  subst hk
  have EK := Lib.hid ek
  have HP := Lib.hid hp
  clear ek hp hle
  go_enter Tryz.func45, Tryz.ntmps45
  go_wp2_with fail
  refine (C1.out).mono ?_
  rintro e w1 ⟨i, rfl, hb⟩
  have C2' := Lib.hid (C2.out w1 hb)
  have HB := Lib.hid hb
  clear hb
  go_wp2_with fail
  refine (C2'.out).mono ?_
  rintro e w2 ⟨hb2, ⟨j, hj, f, hP, hN, -, rfl, hf⟩ | ⟨hN, rfl⟩⟩
  case inr =>
    have HB2 := Lib.hid (bl_trans HB.out hb2)
    have HN : Hid (NoP L p L.length) := Lib.hid (hN.resolve_left (fun h => h EK.out))
    clear hb2 hN
    go_wp2_with fail
    go_ret2
    exact ⟨HB2.out.alloc HB2.out.size _, .inr (.inr ⟨EK.out, HN.out, rfl⟩)⟩
  case inl =>
    have HB2 := Lib.hid (bl_trans HB.out hb2)
    obtain ⟨hfd, hok⟩ := row_fd EK.out hj
    obtain ⟨G, eG⟩ : ∃ G, L[j].G = G := ⟨_, rfl⟩
    rw [hP] at hfd hok
    rw [eG] at hfd
    have Z : Hid (∀ b W, IsFd W b p G → Below w.heap.size w W → NwPost L p w (.returned (.tuple #[.pointer (some ⟨b, 0, none⟩), .int .i64 0])) W) := Lib.hid fun b W h1 h2 => ⟨h2, .inl ⟨j, hj, hP, hN, EK.out, b, rfl, by rw [eG]; exact h1⟩⟩
    rw [hP, eG]
    obtain ⟨A', n', c', rfl⟩ := hf.shape
    have C3 := Lib.hid (fun W => cnew_good p W hok)
    have HF := Lib.hid hfd
    clear hb2 hN hP eG hf hok hfd hj
    go_wp2_with fail
    refine (C3.out _).mono ?_
    rintro e w3 ⟨g, rfl, hc, -, hb3⟩
    have c0 := (hb3.cell (p := ⟨w2.heap.size, 0, none⟩) (by simp)).trans (World.cell?_alloc_at _ _ _ _ rfl)
    have c1 := (hb3.cell (p := ⟨w2.heap.size, 1, none⟩) (by simp)).trans (World.cell?_alloc_at _ _ _ _ rfl)
    have c2 := (hb3.cell (p := ⟨w2.heap.size, 2, none⟩) (by simp)).trans (World.cell?_alloc_at _ _ _ _ rfl)
    have HB3 := Lib.hid ((HB2.out.alloc HB2.out.size (.cells #[.int .u64 p, .int .u64 G, .slice A' n' c'] 158)).trans (hb3.mono (by have := HB2.out.size; simp; omega)))
    have HC := Lib.hid hc
    clear hb3 hc
    go_wp2_with fail
    go_ret2
    refine Z.out _ _ ⟨HF.out, g, A', n', c', ?_, ?_, ?_, ?_, HC.out.below ((Below.refl _ _).alloc (Nat.le_refl _) _)⟩ (HB3.out.alloc HB3.out.size _)
    all_goals (rw [World.cell?_alloc_at _ _ _ _ rfl]; rfl)
end Go.Proofs.YtbokindcnkknmaaGreat
