/- What plans cost, by the program: the book of costs. -/
import Derived.Test.YtbokindcnkknmaaGreatPj
import Derived.DeepKeys4
import Derived.Maps.OwnOps
set_option linter.unusedVariables false
namespace Go.Proofs.YtbokindcnkknmaaGreat
open Go.RowKit Epi Go.Maps
theorem laidOut0 : laidOutB Tryz.prog = true := by kernel_rfl
theorem keyedPl : Keyed Tryz.prog 36 := Keyed.of_law (deep_law_laid laidOut0 (m := 3) (by omega) (of_decide_eq_true (by kernel_rfl)) (by kernel_rfl) (by kernel_rfl))
def PlOk (x : Pl) : Prop := (-9223372036854775808 ≤ x.k ∧ x.k < 9223372036854775808) ∧ (-9223372036854775808 ≤ x.n ∧ x.n < 9223372036854775808) ∧ (-9223372036854775808 ≤ x.a ∧ x.a < 9223372036854775808)
def kPl (x : Pl) : Lit := .string (keyBytes [.int .i64 x.k, .int .i64 x.n, .int .i64 x.a])
theorem wf64 {a : Int} (h : -9223372036854775808 ≤ a ∧ a < 9223372036854775808) : (Lit.int .i64 a).wf = true := by
  simp [Lit.wf, IntKind.min, IntKind.max, IntKind.bits, IntKind.signed]
  omega
theorem keyTypePl : Tryz.prog.keyType 36 = true := by kernel_rfl
theorem cellsPl : Tryz.prog.cellsOf 36 = 3 := by kernel_rfl
theorem formedPl (x : Pl) : (plV x).formed Tryz.prog 36 = true := by
  simp [Value.formed, plV, Tryz.underlying36, cellsPl]
theorem keyPl {x : Pl} (h : PlOk x) : keyOf Tryz.prog 36 (plV x) = some (kPl x) := by
  obtain ⟨h1, h2, h3⟩ := h
  have w1 := wf64 h1
  have w2 := wf64 h2
  have w3 := wf64 h3
  have c3 : Tryz.prog.cellsOf 3 = 1 := by kernel_rfl
  have ck : Tryz.prog.cellsOf 34 = 1 := by kernel_rfl
  have key : ∀ m, Tryz.prog.keyLits (m + 2) 36 (plV x).cells.toList = some [.int .i64 x.k, .int .i64 x.n, .int .i64 x.a] := by
    intro m
    simp [Program.keyLits, Tryz.underlying36, Tryz.underlying34, Tryz.underlying3, plV, Value.cells, cellsPl, c3, ck, w1, w2, w3]
  unfold keyOf
  simp [Tryz.underlying36, keyTypePl, formedPl, key, kPl]
theorem plV_inj {x y : Pl} (h : plV x = plV y) : x = y := by
  unfold plV at h
  injection h with h
  have h0 := congrArg (fun a => a[0]?) h
  have h1 := congrArg (fun a => a[1]?) h
  have h2 := congrArg (fun a => a[2]?) h
  simp at h0 h1 h2
  obtain ⟨k, n, a⟩ := x
  obtain ⟨k', n', a'⟩ := y
  simp only at h0 h1 h2
  rw [h0, h1, h2]
theorem kPl_inj {x y : Pl} (hx : PlOk x) (hy : PlOk y) (h : kPl x = kPl y) : x = y := plV_inj (keyedPl.inj (keyPl hx) (h ▸ keyPl hy))
theorem kPl_key (x : Pl) : WideAt.IsKeyLit (kPl x) := trivial
theorem can_ok {x : Pl} (h : canF x) : PlOk x := by
  have h1 := h.1
  have h2 := h.2.1
  have hk := can_kind h
  have ha : 0 ≤ x.a ∧ x.a ≤ 2048 := by
    have h3 := h.2.2
    have hr := rdPad_le x.n
    have hc := chPad_le x.n
    rcases h3 with h | h | h | h | h | h
    · omega
    · omega
    · omega
    · have := h.2
      unfold cpF at this
      rw [decide_eq_true_eq] at this
      omega
    · omega
    · omega
  exact ⟨by omega, by omega, by omega⟩
/-- The book of costs. -/
abbrev CM (w : World) (b n : Nat) (D : DataW Value) : Prop := w.ownsMap Tryz.prog 36 (plainElem Tryz.prog 3) b n D
/-- All that it holds is right. -/
def BookOK (D : DataW Value) : Prop := ∀ x, PlOk x → has D (kPl x) = true → ∀ z, D.atKey (kPl x) z = .lit (.int .i64 (costK x : Nat))
theorem BookOK.nil : BookOK (.map []) := fun x _ h => by cases h
theorem BookOK.put {D : DataW Value} {x : Pl} (h : BookOK D) (hI : IsMap D) (hx : PlOk x) : BookOK (D.put (kPl x) (.lit (.int .i64 (costK x : Nat)))) := fun y hy hh z => by
  by_cases e : y = x
  · subst e
    exact atKey_put_same hI (kPl_key _) _ _
  · have hne : kPl y ≠ kPl x := fun e' => e (kPl_inj hy hx e')
    rw [has_put_other hne] at hh
    rw [atKey_put_other hne]
    exact h y hy hh z
theorem costK_lt {x : Pl} (h : canF x) : costK x < 9223372036854775808 := by
  have h1 := h.1
  have h2 := h.2.1
  obtain ⟨k, n, a⟩ := x
  simp only at h1 h2
  obtain ⟨n, rfl⟩ := Int.eq_ofNat_of_zero_le (show 0 ≤ n by omega)
  have hn1 : 1 ≤ n := by omega
  have hn2 : n ≤ 1024 := by omega
  have hk := can_kind h
  simp only at hk
  have hl := lg_le (n := n) (k := 11) hn1 (by have : (2 : Nat) ^ 12 = 4096 := rfl; omega)
  have hp := partF_le hn1 hn2
  have hk' : k = 0 ∨ k = 1 ∨ k = 2 ∨ k = 3 ∨ k = 4 ∨ k = 5 ∨ k = 6 := by omega
  rcases hk' with rfl | rfl | rfl | rfl | rfl | rfl | rfl
  · show (n : Int).toNat * (n : Int).toNat < _
    rw [Int.toNat_natCast]
    have := Nat.mul_le_mul hn2 hn2
    omega
  · show (n : Int).toNat * 3 * lg (n : Int).toNat + (n : Int).toNat < _
    rw [Int.toNat_natCast]
    have : n * 3 * lg n ≤ 3072 * 11 := Nat.mul_le_mul (by omega) hl
    omega
  · show (n : Int).toNat * 2 * lg (n : Int).toNat + 2 * (n : Int).toNat < _
    rw [Int.toNat_natCast]
    have : n * 2 * lg n ≤ 3072 * 11 := Nat.mul_le_mul (by omega) hl
    omega
  · show partF (n : Int).toNat < _
    rw [Int.toNat_natCast]
    omega
  · have h4 : 0 ≤ a := by
      have h3 := can_4 (a := a) h1 h2
      rw [bOf_true h] at h3
      have h3 := h3.symm
      unfold cpF at h3
      rw [decide_eq_true_eq] at h3
      omega
    obtain ⟨a, rfl⟩ := Int.eq_ofNat_of_zero_le h4
    obtain ⟨ha1, ha2, ha3, -⟩ := cp_nat (can4_nat h)
    have e : costK ⟨4, n, a⟩ = a * partF (n / a) + n / a * partF a + n := by
      show (a : Int).toNat * partF ((n : Int) / (a : Int)).toNat + ((n : Int) / (a : Int)).toNat * partF (a : Int).toNat + (n : Int).toNat = _
      rw [show ((n : Int) / (a : Int)) = ((n / a : Nat) : Int) from (Int.natCast_ediv _ _).symm]
      simp only [Int.toNat_natCast]
    rw [e]
    have hb1 : 1 ≤ n / a := Nat.div_pos (by omega) (by omega)
    have hb2 : n / a ≤ 1024 := Nat.le_trans (Nat.div_le_self _ _) hn2
    have q1 := Nat.mul_le_mul (show a ≤ 1024 by omega) (partF_le hb1 hb2)
    have q2 := Nat.mul_le_mul hb2 (partF_le (m := a) (by omega) (by omega))
    omega
  · have ha := can_pos h (by simp)
    simp only at ha
    obtain ⟨a, rfl⟩ := Int.eq_ofNat_of_zero_le (show 0 ≤ a by omega)
    have hla := lg_le (n := a) (k := 11) (by omega) (by have : (2 : Nat) ^ 12 = 4096 := rfl; omega)
    show 3 * ((a : Int).toNat * 3 * lg (a : Int).toNat + (a : Int).toNat) + 4 * (n : Int).toNat < _
    rw [Int.toNat_natCast, Int.toNat_natCast]
    have : a * 3 * lg a ≤ 6144 * 11 := Nat.mul_le_mul (by omega) hla
    omega
  · have ha := can_pos h (by simp)
    simp only at ha
    obtain ⟨a, rfl⟩ := Int.eq_ofNat_of_zero_le (show 0 ≤ a by omega)
    have hla := lg_le (n := a) (k := 11) (by omega) (by have : (2 : Nat) ^ 12 = 4096 := rfl; omega)
    show 3 * ((a : Int).toNat * 3 * lg (a : Int).toNat + (a : Int).toNat) + 6 * (n : Int).toNat < _
    rw [Int.toNat_natCast, Int.toNat_natCast]
    have : a * 3 * lg a ≤ 6144 * 11 := Nat.mul_le_mul (by omega) hla
    omega
theorem zeroI (w : World) : (zeroValue 3).run Tryz.prog w = .ok (.int .i64 0) w := by kernel_rfl
/-- What a look into the book leaves: it may hold more. -/
def CoPost (x : Pl) (m : Nat) (w : World) (b n : Nat) (e : Ending) (w' : World) : Prop := e = .returned (.int .i64 (costK x : Nat)) ∧ w.grownBy w' (some b) ∧ ∃ D', CM w' b (n + m) D' ∧ BookOK D'
set_option maxHeartbeats 1000000 in
set_option maxRecDepth 100000 in
theorem of_of (x : Pl) (m N : Nat) (hm : m ≤ 10) (hN : N ≤ 1000000) (hc : canF x) (hR : ∀ W b n D, n ≤ N → CM W b n D → BookOK D → Calls Tryz.prog 111 #[.map (some b), plV x] W (CoPost x m W b n))
    (b n : Nat) (D : DataW Value) (w : World) (hn : n ≤ N) (hM : CM w b n D) (hD : BookOK D) : Calls Tryz.prog 50 #[.map (some b), plV x] w (CoPost x (m + 1) w b n) := by
  have hkey := keyPl (can_ok hc)
  have hA : ∀ o : Obj, w.grownBy (w.alloc o) (some b) := fun o => World.grownBy_alloc w o (some b)
  have hlook := fun o => (hM.alloc o).look_ok keyedPl Tryz.underlying98 (zeroI (w.alloc o)) (R := plainElem Tryz.prog 3) (plainElem_int Tryz.underlying3 (by decide)) hkey
  cases hhas : has D (kPl x) with
  | true =>
    obtain ⟨v, ps, hrun, hv⟩ := hlook (.cells #[.int .i64 x.k, .int .i64 x.n, .int .i64 x.a] 36)
    rw [hhas] at hrun
    rw [hD x (can_ok hc) hhas] at hv
    obtain ⟨c, rfl, hcv, -⟩ := plainElem_int_inv Tryz.underlying3 hv
    have hcv : (costK x : Int) = c := by
      have := congrArg Prod.fst hcv
      simp at this
      exact this
    subst hcv
    have Z : Hid (∀ o, CoPost x (m + 1) w b n (.returned (.int .i64 (costK x : Nat))) (w.alloc o)) := Lib.hid fun o => ⟨rfl, hA o, D, (hM.alloc o).mono (by omega), hD⟩
    obtain ⟨cc, ec⟩ : ∃ cc, costK x = cc := ⟨_, rfl⟩
    rw [ec] at hrun Z
    obtain ⟨k, m', a⟩ := x
    unfold plV at hrun ⊢
    simp only at hrun ⊢
    clear hhas hlook hkey hR hc hv hA ec
    go_enter Tryz.func50, Tryz.ntmps50
    go_wp2_with fail
    go_ret
    exact Z.out _
  | false =>
    obtain ⟨v, ps, hrun, hv⟩ := hlook (.cells #[.int .i64 x.k, .int .i64 x.n, .int .i64 x.a] 36)
    rw [hhas] at hrun
    rw [atKey_of_not_has hhas] at hv
    obtain ⟨c, rfl, hcv, -⟩ := plainElem_int_inv Tryz.underlying3 hv
    have hcv : (0 : Int) = c := by
      have := congrArg Prod.fst hcv
      simp at this
      exact this
    subst hcv
    have CR := Lib.hid (fun o => hR (w.alloc o) b n D hn (hM.alloc o) hD)
    have HA := Lib.hid hA
    have HK := Lib.hid hkey
    have HC := Lib.hid hc
    have hlt := hM.lt
    obtain ⟨cc, ec⟩ : ∃ cc, costK x = cc := ⟨_, rfl⟩
    have hcc : cc < 9223372036854775808 := ec ▸ costK_lt hc
    have EC := Lib.hid ec
    have PX : Hid (∀ W', w.grownBy W' (some b) → (∃ D', CM W' b (n + (m + 1)) D' ∧ BookOK D') → CoPost x (m + 1) w b n (.returned (.int .i64 (cc : Nat))) W') := Lib.hid fun W' h1 h2 => ⟨by rw [ec], h1, h2⟩
    unfold CoPost at CR
    rw [ec] at CR
    obtain ⟨k, m', a⟩ := x
    unfold plV at hrun CR HK ⊢
    simp only at hrun CR HK ⊢
    clear hhas hlook hkey hR hc hv hA ec hM hD
    go_enter Tryz.func50, Tryz.ntmps50
    go_wp2_with fail
    refine (CR.out _).mono ?_
    rintro e w1 ⟨rfl, hg1, D1, hM1, hD1⟩
    have c0 : w1.cell? ⟨w.heap.size, 0, none⟩ = some (.int .i64 k) := by
      rw [World.cell?, hg1.block w.heap.size (by simp) (fun e => by injection e with e; omega)]
      exact World.cell?_alloc_at _ _ _ _ rfl
    have c1 : w1.cell? ⟨w.heap.size, 1, none⟩ = some (.int .i64 m') := by
      rw [World.cell?, hg1.block w.heap.size (by simp) (fun e => by injection e with e; omega)]
      exact World.cell?_alloc_at _ _ _ _ rfl
    have c2 : w1.cell? ⟨w.heap.size, 2, none⟩ = some (.int .i64 a) := by
      rw [World.cell?, hg1.block w.heap.size (by simp) (fun e => by injection e with e; omega)]
      exact World.cell?_alloc_at _ _ _ _ rfl
    have HM1 := Lib.hid hM1
    have HD1 := Lib.hid hD1
    have HG1 := Lib.hid ((HA.out _).trans hg1)
    clear hg1 hM1 hD1
    go_wp2_with (first | (at_mapUpdate; refine wpList_mapUpdate_own _ rfl _ _ _ 98 rfl 36 3 keyedPl Tryz.underlying98 (plainElem Tryz.prog 3) b (n + m) D1 rfl HM1.out (by unfold maxLen; omega) _ _ (kPl ⟨k, m', a⟩) rfl rfl HK.out (.lit (.int .i64 (cc : Nat))) [] (plainElem_int Tryz.underlying3 (wf64 (by omega))) ?_; intro w4 hM4 hg4))
    have Z := Lib.hid (PX.out w4 (HG1.out.trans hg4) ⟨_, hM4, by rw [← EC.out]; exact HD1.out.put HM1.out.isMap (can_ok HC.out)⟩)
    clear hM4 hg4
    go_wp2_with fail
    go_ret
    exact Z.out
end Go.Proofs.YtbokindcnkknmaaGreat
