/- How rows of powers and of entries read in memory. -/
import Derived.Test.YtbokindcnkknmaaGreatMont
import Derived.Test.YtbokindcnkknmaaGreatMr
import Derived.WalkSmall
set_option linter.unusedVariables false
namespace Go.Proofs.YtbokindcnkknmaaGreat
open Go.RowKit Epi

def PwrOk (x : Pwr) : Prop := x.q < 18446744073709551616 ∧ -9223372036854775808 ≤ x.e ∧ x.e < 9223372036854775808
def EntOk (x : Ent) : Prop := x.P < 18446744073709551616 ∧ x.G < 18446744073709551616 ∧ ∀ y ∈ x.F, PwrOk y

/-- The greatest length that is played of. -/
def Len (n : Nat) : Prop := n ≤ 140737488355328
/-- v reads as the powers F. -/
def RdPw (w : World) (v : Value) (F : List Pwr) : Prop := Len F.length ∧ (∀ y ∈ F, PwrOk y) ∧ ∃ A c, v = .slice A F.length c ∧ F.length ≤ c ∧
  (0 < F.length → ∃ b o, A = some ⟨b, o, none⟩ ∧ ∀ i, (h : i < F.length) → w.cell? ⟨b, o + i * 2, none⟩ = some (.int .u64 F[i].q) ∧ w.cell? ⟨b, o + i * 2 + 1, none⟩ = some (.int .i64 F[i].e))
theorem RdPw.below {w w' : World} {v : Value} {F : List Pwr} (h : RdPw w v F) (hb : Below w.heap.size w w') : RdPw w' v F := by
  obtain ⟨h1, h2, A, c, h3, h4, h5⟩ := h
  refine ⟨h1, h2, A, c, h3, h4, fun hn => ?_⟩
  obtain ⟨b, o, h6, h7⟩ := h5 hn
  refine ⟨b, o, h6, fun i hi => ?_⟩
  obtain ⟨h8, h9⟩ := h7 i hi
  exact ⟨(hb.cell (World.block_lt_of_cell? w _ h8)).trans h8, (hb.cell (World.block_lt_of_cell? w _ h9)).trans h9⟩
theorem RdPw.nil (w : World) : RdPw w (.slice none 0 0) [] := ⟨Nat.zero_le _, by simp, none, 0, rfl, Nat.le_refl _, fun h => absurd h (by simp)⟩
/-- v reads as the entries L. -/
def RdEnt (w : World) (v : Value) (L : List Ent) : Prop := Len L.length ∧ (∀ x ∈ L, EntOk x) ∧ ∃ A c, v = .slice A L.length c ∧ L.length ≤ c ∧
  (0 < L.length → ∃ b o, A = some ⟨b, o, none⟩ ∧ ∀ i, (h : i < L.length) → ∃ f, w.cell? ⟨b, o + i * 3, none⟩ = some (.int .u64 L[i].P) ∧ w.cell? ⟨b, o + i * 3 + 1, none⟩ = some (.int .u64 L[i].G) ∧
    w.cell? ⟨b, o + i * 3 + 2, none⟩ = some f ∧ RdPw w f L[i].F)
theorem RdEnt.below {w w' : World} {v : Value} {L : List Ent} (h : RdEnt w v L) (hb : Below w.heap.size w w') : RdEnt w' v L := by
  obtain ⟨h1, h2, A, c, h3, h4, h5⟩ := h
  refine ⟨h1, h2, A, c, h3, h4, fun hn => ?_⟩
  obtain ⟨b, o, h6, h7⟩ := h5 hn
  refine ⟨b, o, h6, fun i hi => ?_⟩
  obtain ⟨f, h8, h9, h10, h11⟩ := h7 i hi
  exact ⟨f, (hb.cell (World.block_lt_of_cell? w _ h8)).trans h8, (hb.cell (World.block_lt_of_cell? w _ h9)).trans h9, (hb.cell (World.block_lt_of_cell? w _ h10)).trans h10, h11.below hb⟩
/-- A part from the front. -/
theorem RdEnt.take {w : World} {A : Option Addr} {c n k : Nat} {L : List Ent} (h : RdEnt w (.slice A n c) L) (hk : k ≤ L.length) : RdEnt w (.slice A k c) (L.take k) := by
  obtain ⟨h1, h2, A', c', h3, h4, h5⟩ := h
  cases h3
  have hl : (L.take k).length = k := by simp [hk]
  refine ⟨?_, fun x hx => h2 x (List.mem_of_mem_take hx), A, c, by rw [hl], by omega, fun hn => ?_⟩
  · unfold Len at *
    omega
  · obtain ⟨b, o, h6, h7⟩ := h5 (by omega)
    refine ⟨b, o, h6, fun i hi => ?_⟩
    have := h7 i (by omega)
    simpa using this
theorem cell_lt {w : World} {b o : Nat} {v : Value} (h : w.cell? ⟨b, o, none⟩ = some v) : b < w.heap.size := World.block_lt_of_cell? w _ h
theorem bl_trans {w w1 w2 : World} (h1 : Below w.heap.size w w1) (h2 : Below w1.heap.size w1 w2) : Below w.heap.size w w2 := h1.trans (h2.mono h1.size)
theorem RdPw.shape {w : World} {v : Value} {F : List Pwr} (h : RdPw w v F) : ∃ A n c, v = .slice A n c := by
  obtain ⟨-, -, A, c, rfl, -⟩ := h
  exact ⟨A, _, c, rfl⟩
set_option maxHeartbeats 400000 in
theorem rclaimed_any (L : List Ent) (v : Value) (q : Int) (w : World) (h : RdEnt w v L) (hq : 0 ≤ q) (hq' : q < 18446744073709551616) :
    Calls Tryz.prog 204 #[v, .int .u64 q] w fun e w' => e = .returned (.bool (hasP L q.toNat)) ∧ Below w.heap.size w w' := by
  obtain ⟨q, rfl⟩ := Int.eq_ofNat_of_zero_le hq
  simp only [Int.toNat_natCast]
  obtain ⟨h1, h2, A, c, rfl, h4, h5⟩ := h
  unfold Len at h1
  rcases Nat.eq_zero_or_pos L.length with h0 | h0
  · have F := Lib.hid (show hasP L q = false by rw [List.eq_nil_of_length_eq_zero h0]; rfl)
    rw [h0]
    clear h1 h2 h4 h5 h0 hq hq'
    go_enter Tryz.func204, Tryz.ntmps204
    go_wp2_with fail
    go_loopw [9] (fun s9 wr => s9 = .int .i64 0 ∧ w = wr) (fun s9 _ => 0)
    case atStart => exact ⟨rfl, rfl⟩
    case round =>
      obtain ⟨rfl, rfl⟩ := hrel
      go_wp2_with fail
      go_ret
      exact ⟨ret_bool F.out.symm, Below.refl _ _⟩
  · obtain ⟨b, o, rfl, h6⟩ := h5 h0
    obtain ⟨n, en⟩ : ∃ n, L.length = n := ⟨_, rfl⟩
    have N0 : Hid (NoP L q 0) := fun j hj hj' => absurd hj' (by omega)
    have H6 := Lib.hid h6
    have EN := Lib.hid en
    have H1 : n ≤ 140737488355328 := by omega
    rw [en]
    clear h2 h4 h5 h6 h0 hq hq' h1 en
    go_enter Tryz.func204, Tryz.ntmps204
    go_wp2_with fail
    go_loopw [9] (fun s9 wr => ∃ i : Nat, s9 = .int .i64 i ∧ i ≤ n ∧ Below w.heap.size w wr ∧ Hid (NoP L q i)) (fun s9 _ => n - (intOf s9).toNat)
    case atStart => exact ⟨0, rfl, by omega, Below.refl _ _, N0⟩
    case round =>
      obtain ⟨i, rfl, hi, hB, hN⟩ := hrel
      by_cases hlt : i < n
      · have hj : i < L.length := by rw [EN.out]; exact hlt
        obtain ⟨f, k0, k1, k2, k3⟩ := H6.out i hj
        obtain ⟨A', m', c', rfl⟩ := k3.shape
        obtain ⟨P, eP⟩ : ∃ P, L[i].P = P := ⟨_, rfl⟩
        obtain ⟨G, eG⟩ : ∃ G, L[i].G = G := ⟨_, rfl⟩
        rw [eP] at k0
        rw [eG] at k1
        have l := cell_lt k0
        have c0 := (hB.cell (p := ⟨b, o + i * 3, none⟩) l).trans k0
        have c1 := (hB.cell (p := ⟨b, o + i * 3 + 1, none⟩) l).trans k1
        have c2 := (hB.cell (p := ⟨b, o + i * 3 + 2, none⟩) l).trans k2
        by_cases hp : P = q
        · have t1 : ((P : Int) == q) = true := by rw [beq_iff_eq]; omega
          have F := Lib.hid (hasP_true hj (eP.trans hp))
          clear k0 k1 k2 k3 eP eG hp hj
          go_wp2_with fail
          go_ret
          exact ⟨ret_bool F.out.symm, hB.alloc hB.size _⟩
        · have t1 : ((P : Int) == q) = false := by rw [beq_eq_false_iff_ne]; omega
          have N : Hid (NoP L q (i + 1)) := fun j hj' hji => by
            by_cases e : j = i
            · subst e
              rw [eP]
              exact hp
            · exact hN.out j hj' (by omega)
          clear k0 k1 k2 k3 eP eG hp hj
          go_wp2_with fail
          exact ⟨⟨i + 1, by go_num, by omega, hB.alloc hB.size _, N⟩, by simp [intOf]; omega⟩
      · obtain rfl : i = n := by omega
        have F := Lib.hid (hasP_false (L := L) (q := q) fun j hj => hN.out j hj (by rw [← EN.out]; exact hj))
        go_wp2_with fail
        go_ret
        exact ⟨ret_bool F.out.symm, hB⟩
set_option maxHeartbeats 400000 in
theorem claimed1_any (P G q : Nat) (A : Option Addr) (m c p : Nat) (w : World) (hp : w.cell? ⟨p, 0, none⟩ = some (.int .u64 q)) :
    Calls Tryz.prog 243 #[.agg #[.int .u64 P, .int .u64 G, .slice A m c], .pointer (some ⟨p, 0, none⟩)] w fun e w' => e = .returned (.bool ((P : Int) == q)) ∧ Below w.heap.size w w' := by
  have l := cell_lt hp
  go_enter Tryz.func243, Tryz.ntmps243
  go_wp2_with fail
  go_ret
  exact ⟨rfl, (Below.refl _ _).alloc (Nat.le_refl _) _⟩
def IdxPost (b : Bool) (w : World) (e : Ending) (w' : World) : Prop := ∃ r : Int, e = .returned (.int .i64 r) ∧ decide (0 ≤ r) = b ∧ Below w.heap.size w w'
set_option maxHeartbeats 400000 in
theorem idxE_any (L : List Ent) (v : Value) (q p : Nat) (w : World) (h : RdEnt w v L) (hp : w.cell? ⟨p, 0, none⟩ = some (.int .u64 q)) :
    Calls Tryz.prog 251 #[v, .func (.func 243) #[] #[.pointer (some ⟨p, 0, none⟩)]] w (IdxPost (hasP L q) w) := by
  obtain ⟨h1, h2, A, c, rfl, h4, h5⟩ := h
  unfold Len at h1
  rcases Nat.eq_zero_or_pos L.length with h0 | h0
  · have F := Lib.hid (show hasP L q = false by rw [List.eq_nil_of_length_eq_zero h0]; rfl)
    rw [h0]
    clear h1 h2 h4 h5 h0
    go_enter Tryz.func251, Tryz.ntmps251
    go_wp2_with fail
    go_loopw [8] (fun s9 wr => s9 = .int .i64 0 ∧ w = wr) (fun s9 _ => 0)
    case atStart => exact ⟨rfl, rfl⟩
    case round =>
      obtain ⟨rfl, rfl⟩ := hrel
      go_wp2_with fail
      go_ret
      exact ⟨-1, rfl, F.out.symm, Below.refl _ _⟩
  · obtain ⟨b, o, rfl, h6⟩ := h5 h0
    obtain ⟨n, en⟩ : ∃ n, L.length = n := ⟨_, rfl⟩
    have N0 : Hid (NoP L q 0) := fun j hj hj' => absurd hj' (by omega)
    have H6 := Lib.hid h6
    have EN := Lib.hid en
    have H1 : n ≤ 140737488355328 := by omega
    have HP := Lib.hid hp
    have lp := Lib.hid (cell_lt hp)
    rw [en]
    clear h2 h4 h5 h6 h0 h1 en hp
    go_enter Tryz.func251, Tryz.ntmps251
    go_wp2_with fail
    go_loopw [8] (fun s9 wr => ∃ i : Nat, s9 = .int .i64 i ∧ i ≤ n ∧ Below w.heap.size w wr ∧ Hid (NoP L q i)) (fun s9 _ => n - (intOf s9).toNat)
    case atStart => exact ⟨0, rfl, by omega, Below.refl _ _, N0⟩
    case round =>
      obtain ⟨i, rfl, hi, hB, hN⟩ := hrel
      by_cases hlt : i < n
      · have hj : i < L.length := by rw [EN.out]; exact hlt
        obtain ⟨f, k0, k1, k2, k3⟩ := H6.out i hj
        obtain ⟨A', m', c', rfl⟩ := k3.shape
        obtain ⟨P, eP⟩ : ∃ P, L[i].P = P := ⟨_, rfl⟩
        obtain ⟨G, eG⟩ : ∃ G, L[i].G = G := ⟨_, rfl⟩
        rw [eP] at k0
        rw [eG] at k1
        have l := cell_lt k0
        have c0 := (hB.cell (p := ⟨b, o + i * 3, none⟩) l).trans k0
        have c1 := (hB.cell (p := ⟨b, o + i * 3 + 1, none⟩) l).trans k1
        have c2 := (hB.cell (p := ⟨b, o + i * 3 + 2, none⟩) l).trans k2
        have cc := Lib.hid (claimed1_any P G q A' m' c' p wr ((hB.cell (p := ⟨p, 0, none⟩) lp.out).trans HP.out))
        by_cases hp : P = q
        · have t1 : ((P : Int) == q) = true := by rw [beq_iff_eq]; omega
          have F := Lib.hid (hasP_true hj (eP.trans hp))
          clear k0 k1 k2 k3 eP eG hp hj
          go_wp2_with fail
          refine (cc.out).mono ?_
          rintro e w1 ⟨rfl, hB1⟩
          go_wp2_with fail
          go_ret
          exact ⟨i, rfl, by rw [F.out, decide_eq_true_eq]; omega, bl_trans hB (hB1.mono (Nat.le_refl _))⟩
        · have t1 : ((P : Int) == q) = false := by rw [beq_eq_false_iff_ne]; omega
          have N : Hid (NoP L q (i + 1)) := fun j hj' hji => by
            by_cases e : j = i
            · subst e
              rw [eP]
              exact hp
            · exact hN.out j hj' (by omega)
          clear k0 k1 k2 k3 eP eG hp hj
          go_wp2_with fail
          refine (cc.out).mono ?_
          rintro e w1 ⟨rfl, hB1⟩
          go_wp2_with fail
          exact ⟨⟨i + 1, by go_num, by omega, bl_trans hB hB1, N⟩, by simp [intOf]; omega⟩
      · obtain rfl : i = n := by omega
        have F := Lib.hid (hasP_false (L := L) (q := q) fun j hj => hN.out j hj (by rw [← EN.out]; exact hj))
        go_wp2_with fail
        go_ret
        exact ⟨-1, rfl, F.out.symm, hB⟩
set_option maxHeartbeats 400000 in
theorem contE_any (L : List Ent) (v : Value) (q p : Nat) (w : World) (h : RdEnt w v L) (hp : w.cell? ⟨p, 0, none⟩ = some (.int .u64 q)) :
    Calls Tryz.prog 242 #[v, .func (.func 243) #[] #[.pointer (some ⟨p, 0, none⟩)]] w fun e w' => e = .returned (.bool (hasP L q)) ∧ Below w.heap.size w w' := by
  have cc := Lib.hid (idxE_any L v q p w h hp)
  clear h hp
  go_enter Tryz.func242, Tryz.ntmps242
  go_wp2_with fail
  refine (cc.out).mono ?_
  rintro e w1 ⟨r, rfl, hr, hB⟩
  have HR := Lib.hid hr
  clear hr
  go_wp2_with fail
  go_ret
  exact ⟨ret_bool HR.out, hB⟩
set_option maxHeartbeats 400000 in
theorem claimed_any (L : List Ent) (v : Value) (q : Nat) (w : World) (h : RdEnt w v L) :
    Calls Tryz.prog 224 #[v, .int .u64 q] w fun e w' => e = .returned (.bool (hasP L q)) ∧ Below w.heap.size w w' := by
  have hb : Below w.heap.size w (w.alloc (.cells #[.int .u64 q] 22)) := (Below.refl _ _).alloc (Nat.le_refl _) _
  have cc := Lib.hid (contE_any L v q w.heap.size _ (h.below hb) (World.cell?_alloc_at _ _ _ _ rfl))
  have HB := Lib.hid hb
  clear h hb
  go_enter Tryz.func224, Tryz.ntmps224
  go_wp2_with fail
  refine (cc.out).mono ?_
  rintro e w1 ⟨rfl, hB⟩
  go_wp2_with fail
  go_ret
  exact ⟨rfl, bl_trans HB.out hB⟩
end Go.Proofs.YtbokindcnkknmaaGreat
