import Derived.Test.YtbokindcnkknmaaGreatMc
/- Plain arithmetic, fourth part: transforms by halves, both ways: butterflies in place, and bits turned about. No program in sight. -/
set_option linter.unusedVariables false
namespace Epi

/-! ### Lists that are written -/
theorem getD_set (L : List Nat) (i k v : Nat) : (L.set i v).getD k 0 = if i = k ∧ i < L.length then v else L.getD k 0 := by
  simp only [List.getD_eq_getElem?_getD, List.getElem?_set]
  by_cases h : i = k
  · subst h
    by_cases h2 : i < L.length
    · simp [h2]
    · simp [h2]
  · simp [h]
theorem list_ext_getD {L M : List Nat} (hl : L.length = M.length) (h : ∀ i, i < L.length → L.getD i 0 = M.getD i 0) : L = M := by
  refine List.ext_getElem hl fun i h1 h2 => ?_
  have := h i h1
  simpa [List.getD_eq_getElem?_getD, List.getElem?_eq_getElem h1, List.getElem?_eq_getElem h2] using this

/-- Rounds, each of which writes two places, out of what stands in these. -/
def pairs (a b : Nat → Nat) (F : Nat → Nat → Nat → Nat × Nat) : Nat → List Nat → List Nat
  | 0, L => L
  | q + 1, L =>
    let M := pairs a b F q L
    (M.set (a q) (F q (M.getD (a q) 0) (M.getD (b q) 0)).1).set (b q) (F q (M.getD (a q) 0) (M.getD (b q) 0)).2

theorem pairs_length (a b : Nat → Nat) (F : Nat → Nat → Nat → Nat × Nat) (q : Nat) (L : List Nat) : (pairs a b F q L).length = L.length := by
  induction q with
  | zero => rfl
  | succ q ih => simp [pairs, ih]
theorem pairs_spec {a b : Nat → Nat} {F : Nat → Nat → Nat → Nat × Nat} {N : Nat} {L : List Nat}
    (hal : ∀ q, q < N → a q < L.length) (hbl : ∀ q, q < N → b q < L.length)
    (haa : ∀ q r, q < N → r < N → a q = a r → q = r) (hbb : ∀ q r, q < N → r < N → b q = b r → q = r) (hab : ∀ q r, q < N → r < N → a q ≠ b r) :
    ∀ q, q ≤ N → (∀ i, (∀ r, r < q → a r ≠ i ∧ b r ≠ i) → (pairs a b F q L).getD i 0 = L.getD i 0) ∧
      (∀ r, r < q → (pairs a b F q L).getD (a r) 0 = (F r (L.getD (a r) 0) (L.getD (b r) 0)).1 ∧ (pairs a b F q L).getD (b r) 0 = (F r (L.getD (a r) 0) (L.getD (b r) 0)).2) := by
  intro q
  induction q with
  | zero => intro _; exact ⟨fun i _ => rfl, fun r hr => by omega⟩
  | succ q ih =>
    intro hq
    obtain ⟨h1, h2⟩ := ih (by omega)
    have ha := hal q (by omega)
    have hb := hbl q (by omega)
    have hne := hab q q (by omega) (by omega)
    have ea : (pairs a b F q L).getD (a q) 0 = L.getD (a q) 0 := h1 _ fun r hr => ⟨fun e => by have := haa r q (by omega) (by omega) e; omega, fun e => hab q r (by omega) (by omega) e.symm⟩
    have eb : (pairs a b F q L).getD (b q) 0 = L.getD (b q) 0 := h1 _ fun r hr => ⟨fun e => hab r q (by omega) (by omega) e, fun e => by have := hbb r q (by omega) (by omega) e; omega⟩
    have hlen := pairs_length a b F q L
    refine ⟨fun i hi => ?_, fun r hr => ?_⟩
    · have h3 := hi q (by omega)
      simp only [pairs, getD_set]
      rw [if_neg (by omega), if_neg (by omega)]
      exact h1 i fun r hr => hi r (by omega)
    · simp only [pairs, getD_set, List.length_set, hlen, ea, eb]
      by_cases e : r = q
      · subst e
        constructor
        · rw [if_neg (by omega), if_pos (by omega)]
        · rw [if_pos (by omega)]
      · have h3 := h2 r (by omega)
        have e1 : a q ≠ a r := fun e' => e (haa q r (by omega) (by omega) e').symm
        have e2 : b q ≠ a r := fun e' => hab r q (by omega) (by omega) e'.symm
        have e3 : a q ≠ b r := hab q r (by omega) (by omega)
        have e4 : b q ≠ b r := fun e' => e (hbb q r (by omega) (by omega) e').symm
        constructor
        · rw [if_neg (by omega), if_neg (by omega)]
          exact h3.1
        · rw [if_neg (by omega), if_neg (by omega)]
          exact h3.2

/-! ### Bits turned about -/
def rv : Nat → Nat → Nat
  | 0, _ => 0
  | t + 1, b => (b % 2) * 2 ^ t + rv t (b / 2)
theorem rv_lt (t b : Nat) : rv t b < 2 ^ t := by
  induction t generalizing b with
  | zero => simp [rv]
  | succ t ih =>
    have := ih (b / 2)
    have h2 : b % 2 < 2 := Nat.mod_lt _ (by omega)
    simp only [rv, Nat.pow_succ]
    rcases (show b % 2 = 0 ∨ b % 2 = 1 from by omega) with e | e <;> rw [e] <;> omega
theorem rv_inj {t a b : Nat} (ha : a < 2 ^ t) (hb : b < 2 ^ t) (h : rv t a = rv t b) : a = b := by
  induction t generalizing a b with
  | zero => simp at ha hb; omega
  | succ t ih =>
    simp only [rv] at h
    have h1 := rv_lt t (a / 2)
    have h2 := rv_lt t (b / 2)
    rw [Nat.pow_succ] at ha hb
    have h3 : a % 2 = b % 2 := by
      rcases (show a % 2 = 0 ∨ a % 2 = 1 from by omega) with e | e <;> rcases (show b % 2 = 0 ∨ b % 2 = 1 from by omega) with f | f <;> rw [e, f] at h ⊢ <;> omega
    rw [h3] at h
    have := ih (a := a / 2) (b := b / 2) (by omega) (by omega) (by omega)
    omega
theorem rv_surj {t m : Nat} (hm : m < 2 ^ t) : ∃ i, i < 2 ^ t ∧ rv t i = m :=
  inj_surj (2 ^ t) (rv t) (fun i _ => rv_lt t i) (fun i j hi hj e => rv_inj hi hj e) m hm
theorem rv_succ (t b c : Nat) (hc : c < 2) : rv (t + 1) (2 * b + c) = c * 2 ^ t + rv t b := by
  simp only [rv]
  rw [show (2 * b + c) % 2 = c from by omega, show (2 * b + c) / 2 = b from by omega]

/-- What stood at `i` is laid to `r i`. -/
def scatter (r : Nat → Nat) (L : List Nat) : Nat → List Nat → List Nat
  | 0, M => M
  | q + 1, M => (scatter r L q M).set (r q) (L.getD q 0)
theorem scatter_length (r : Nat → Nat) (L : List Nat) (q : Nat) (M : List Nat) : (scatter r L q M).length = M.length := by
  induction q with
  | zero => rfl
  | succ q ih => simp [scatter, ih]
theorem scatter_spec {r : Nat → Nat} {L M : List Nat} {N : Nat} (hr : ∀ q, q < N → r q < M.length) (hi : ∀ q s, q < N → s < N → r q = r s → q = s) :
    ∀ q, q ≤ N → ∀ s, s < q → (scatter r L q M).getD (r s) 0 = L.getD s 0 := by
  intro q
  induction q with
  | zero => intro _ s hs; omega
  | succ q ih =>
    intro hq s hs
    simp only [scatter, getD_set, scatter_length]
    by_cases e : s = q
    · subst e
      rw [if_pos ⟨rfl, hr s (by omega)⟩]
    · rw [if_neg fun h => e (hi q s (by omega) (by omega) h.1).symm]
      exact ih (by omega) s (by omega)

/-! ### The field's sums as natural numbers -/
def fadd (p x y : Nat) : Nat := (x + y) % p
def fneg (p x : Nat) : Nat := (p - x % p) % p
def fsub (p x y : Nat) : Nat := (x + (p - y % p)) % p
def fmul (p x y : Nat) : Nat := x * y % p
theorem fadd_cg (p x y : Nat) : Cg p (fadd p x y : Nat) ((x : Int) + y) := by
  have := Cg.nat_mod (x + y) p
  push_cast at this
  exact this
theorem fmul_cg (p x y : Nat) : Cg p (fmul p x y : Nat) ((x : Int) * y) := by
  have := Cg.nat_mod (x * y) p
  push_cast at this
  exact this
theorem fsub_cg {p : Nat} (hp : 0 < p) (x y : Nat) : Cg p (fsub p x y : Nat) ((x : Int) - y) := by
  have h1 := Cg.nat_mod (x + (p - y % p)) p
  have h2 := Nat.mod_lt y hp
  have h3 : ((x + (p - y % p) : Nat) : Int) = x + (p - ((y % p : Nat) : Int)) := by omega
  rw [h3] at h1
  refine h1.trans ?_
  have h4 := Cg.sub (Cg.self (p : Int)) (Cg.nat_mod y p)
  have h5 := Cg.add (Cg.refl (m := p) (x : Int)) h4
  refine h5.trans (Cg.of_eq ?_)
  omega
theorem fneg_cg {p : Nat} (hp : 0 < p) (x : Nat) : Cg p (fneg p x : Nat) (-(x : Int)) := by
  have h1 := Cg.nat_mod (p - x % p) p
  have h2 := Nat.mod_lt x hp
  have h3 : ((p - x % p : Nat) : Int) = p - ((x % p : Nat) : Int) := by omega
  rw [h3] at h1
  refine h1.trans ?_
  have h4 := Cg.sub (Cg.self (p : Int)) (Cg.nat_mod x p)
  refine h4.trans (Cg.of_eq ?_)
  omega
theorem fadd_lt {p : Nat} (hp : 0 < p) (x y : Nat) : fadd p x y < p := Nat.mod_lt _ hp
theorem fsub_lt {p : Nat} (hp : 0 < p) (x y : Nat) : fsub p x y < p := Nat.mod_lt _ hp
theorem fmul_lt {p : Nat} (hp : 0 < p) (x y : Nat) : fmul p x y < p := Nat.mod_lt _ hp

/-! ### A transform by halves -/
/-- Of an even order: half way round stands -1. -/
theorem half_neg {p : Nat} (hp : Pr p) {w : Int} {h : Nat} (ho : Ord p w (h + h)) : Cg p (w ^ h) (-1) := by
  have h0 := ho.1
  have h1 : ¬ Cg p (w ^ h - 1) 0 := fun hc => by
    have h2 := (ho.2 h).1 (Cg.sub_zero_iff.1 hc)
    have := Nat.le_of_dvd (by omega) h2
    omega
  have h2 : Cg p ((w ^ h - 1) * (w ^ h + 1)) 0 := by
    have := Cg.sub_zero_iff.2 ho.pow_eq
    rw [Int.pow_add] at this
    refine (Cg.of_eq ?_).trans this
    grind
  rcases hp.cg_mul_zero h2 with h3 | h3
  · exact absurd h3 h1
  · obtain ⟨k, hk⟩ := h3
    exact ⟨k, by grind⟩
theorem dft_even {p h : Nat} {w : Int} (ho : Ord p w (h + h)) (x : Nat → Int) (i : Nat) :
    Cg p (dft (h + h) w x (2 * i)) (dft h (w * w) (fun j => x j + x (j + h)) i) := by
  unfold dft
  rw [sm_split]
  simp only [Int.add_mul]
  rw [sm_add]
  refine Cg.add (Cg.of_eq (sm_congr fun j _ => ?_)) (sm_cg fun j _ => ?_)
  · rw [show w * w = w ^ 2 from by grind, ← Int.pow_mul, show 2 * i * j = 2 * (i * j) from by grind]
  · rw [show w * w = w ^ 2 from by grind, ← Int.pow_mul, Nat.add_comm h j]
    refine Cg.mul_left _ ?_
    rw [show 2 * i * (j + h) = 2 * (i * j) + (h + h) * i from by grind, Int.pow_add]
    have := Cg.mul_left (w ^ (2 * (i * j))) (pow_cg_one ho.pow_eq i)
    rwa [Int.mul_one] at this
theorem dft_odd {p h : Nat} (hp : Pr p) {w : Int} (ho : Ord p w (h + h)) (x : Nat → Int) (i : Nat) :
    Cg p (dft (h + h) w x (2 * i + 1)) (dft h (w * w) (fun j => w ^ j * (x j - x (j + h))) i) := by
  unfold dft
  rw [sm_split]
  have e : ∀ j, w ^ j * (x j - x (j + h)) * (w * w) ^ (i * j) = x j * w ^ ((2 * i + 1) * j) + x (j + h) * (-(w ^ ((2 * i + 1) * j))) := by
    intro j
    rw [show w * w = w ^ 2 from by grind, ← Int.pow_mul, show (2 * i + 1) * j = 2 * (i * j) + j from by grind, Int.pow_add]
    grind
  rw [sm_congr fun j _ => e j, sm_add]
  refine Cg.add (Cg.refl _) (sm_cg fun j _ => ?_)
  rw [Nat.add_comm h j]
  refine Cg.mul_left _ ?_
  rw [show (2 * i + 1) * (j + h) = (2 * i + 1) * j + ((h + h) * i + h) from by grind, Int.pow_add, Int.pow_add]
  have h1 := Cg.mul (pow_cg_one ho.pow_eq i) (half_neg hp ho)
  have h2 := Cg.mul_left (w ^ ((2 * i + 1) * j)) h1
  refine h2.trans (Cg.of_eq ?_)
  grind
/-- The two halves of a transform out of those of every second number. -/
theorem dft_join {p h : Nat} (hp : Pr p) {w : Int} (ho : Ord p w (h + h)) (x : Nat → Int) (i : Nat) :
    dft (h + h) w x i = dft h (w * w) (fun j => x (2 * j)) i + w ^ i * dft h (w * w) (fun j => x (2 * j + 1)) i := by
  unfold dft
  rw [show h + h = h * 2 from by omega, sm_rows, ← sm_mul_left, ← sm_add]
  refine sm_congr fun j _ => ?_
  rw [sm_succ, sm_one, show w * w = w ^ 2 from by grind, ← Int.pow_mul, Nat.add_zero, Nat.mul_comm j 2, show i * (2 * j) = 2 * (i * j) from by grind, show i * (2 * j + 1) = 2 * (i * j) + i from by grind, Int.pow_add]
  grind
theorem dft_join_up {p h : Nat} (hp : Pr p) {w : Int} (ho : Ord p w (h + h)) (x : Nat → Int) (i : Nat) :
    Cg p (dft (h + h) w x (i + h)) (dft h (w * w) (fun j => x (2 * j)) i - w ^ i * dft h (w * w) (fun j => x (2 * j + 1)) i) := by
  rw [dft_join hp ho]
  have e : ∀ y : Nat → Int, Cg p (dft h (w * w) y (i + h)) (dft h (w * w) y i) := by
    intro y
    refine sm_cg fun j _ => Cg.mul_left _ ?_
    rw [show w * w = w ^ 2 from by grind, ← Int.pow_mul, ← Int.pow_mul, show 2 * ((i + h) * j) = 2 * (i * j) + (h + h) * j from by grind, Int.pow_add]
    have := Cg.mul_left (w ^ (2 * (i * j))) (pow_cg_one ho.pow_eq j)
    rwa [Int.mul_one] at this
  have h1 := Cg.mul (Cg.mul_left (w ^ i) (half_neg hp ho)) (e fun j => x (2 * j + 1))
  rw [← Int.pow_add] at h1
  refine (Cg.add (e fun j => x (2 * j)) h1).trans (Cg.of_eq ?_)
  grind
end Epi
