import Derived.Test.YtbokindcnkknmaaGreatMb
/- Plain arithmetic, third part: transforms by sums of a root's powers, there and back, and products round and round. No program in sight. -/
set_option linter.unusedVariables false
namespace Epi

theorem geom (r : Int) (n : Nat) : (r - 1) * sm n (fun i => r ^ i) = r ^ n - 1 := by
  induction n with
  | zero => simp [sm]
  | succ n ih => rw [sm_succ, Int.pow_succ]; grind
theorem root_sum_n {p : Nat} {w : Int} {n k : Nat} (h : Ord p w n) (hk : n ∣ k) : Cg p (sm n (fun i => w ^ (i * k))) n := by
  have h1 : Cg p (sm n (fun i => w ^ (i * k))) (sm n (fun _ => 1)) := sm_cg fun i _ => (h.2 _).2 (Nat.dvd_trans hk (Nat.dvd_mul_left k i))
  rwa [sm_const, Int.mul_one] at h1
theorem root_sum_zero {p : Nat} (hp : Pr p) {w : Int} {n k : Nat} (h : Ord p w n) (hk : ¬ n ∣ k) : Cg p (sm n (fun i => w ^ (i * k))) 0 := by
  have h1 : ¬ Cg p (w ^ k - 1) 0 := fun hc => hk ((h.2 k).1 (Cg.sub_zero_iff.1 hc))
  have h2 : sm n (fun i => w ^ (i * k)) = sm n (fun i => (w ^ k) ^ i) := sm_congr fun i _ => by rw [← Int.pow_mul, Nat.mul_comm]
  rw [h2]
  refine hp.cancel h1 ?_
  rw [geom, ← Int.pow_mul, Int.mul_zero]
  exact Cg.sub_zero_iff.2 ((h.2 _).2 (Nat.dvd_mul_left n k))

/-- The transform by the sum. -/
def dft (n : Nat) (w : Int) (x : Nat → Int) (i : Nat) : Int := sm n (fun j => x j * w ^ (i * j))

theorem dft_cg {p n : Nat} {w : Int} {x y : Nat → Int} (h : ∀ j, j < n → Cg p (x j) (y j)) (i : Nat) : Cg p (dft n w x i) (dft n w y i) :=
  sm_cg fun j hj => Cg.mul_right _ (h j hj)
theorem dft_root {p n : Nat} {w v : Int} (h : Cg p w v) (x : Nat → Int) (i : Nat) : Cg p (dft n w x i) (dft n v x i) :=
  sm_cg fun j hj => Cg.mul_left _ (Cg.pow _ h)
theorem Ord.inv {p n : Nat} {w v : Int} (h : Ord p w n) (hv : Cg p (w * v) 1) : Ord p v n := by
  refine ⟨h.1, fun k => ?_⟩
  rw [← h.2 k]
  have e := unit_pow hv k
  constructor
  · intro h1
    have := Cg.mul_left (w ^ k) h1
    rw [Int.mul_one] at this
    exact this.symm.trans e
  · intro h1
    have := Cg.mul_right (v ^ k) h1
    rw [Int.one_mul] at this
    exact this.symm.trans e
/-- A power times one of the inverse. -/
theorem pow_inv {p n : Nat} {w v : Int} (h : Ord p w n) (hv : Cg p (w * v) 1) {a b c : Nat} (e : (a + c) % n = b % n) : Cg p (w ^ b * v ^ c) (w ^ a) := by
  have h1 : Cg p (w ^ b) (w ^ (a + c)) := (h.pow_mod b).symm.trans (by rw [← e]; exact h.pow_mod _)
  have h2 := Cg.mul_right (v ^ c) h1
  rw [Int.pow_add, Int.mul_assoc] at h2
  have h3 := Cg.mul_left (w ^ a) (unit_pow hv c)
  rw [Int.mul_one] at h3
  exact h2.trans h3
/-- There and back: `n` times as great. -/
theorem dft_inv {p : Nat} (hp : Pr p) {n : Nat} {w v : Int} (h : Ord p w n) (hv : Cg p (w * v) 1) (x : Nat → Int) {k : Nat} (hk : k < n) :
    Cg p (dft n v (dft n w x) k) (n * x k) := by
  have h1 : dft n v (dft n w x) k = sm n (fun j => sm n (fun i => x j * (w ^ (i * j) * v ^ (k * i)))) := by
    unfold dft
    rw [← sm_swap]
    refine sm_congr fun i _ => ?_
    rw [← sm_mul_right]
    exact sm_congr fun j _ => by grind
  rw [h1]
  have h2 : ∀ j, j < n → Cg p (sm n (fun i => x j * (w ^ (i * j) * v ^ (k * i)))) (if j = k then n * x k else 0) := by
    intro j hj
    rw [sm_mul_left]
    have h3 : Cg p (sm n (fun i => w ^ (i * j) * v ^ (k * i))) (sm n (fun i => w ^ (i * (j + (n - k))))) := by
      refine sm_cg fun i _ => pow_inv h hv ?_
      rw [show i * (j + (n - k)) + k * i = i * j + n * i from by
        obtain ⟨d, rfl⟩ : ∃ d, n = k + d := ⟨n - k, by omega⟩
        rw [Nat.add_sub_cancel_left]
        grind, Nat.add_mul_mod_self_left]
    by_cases e : j = k
    · subst e
      simp only [if_true]
      have h4 : n ∣ j + (n - j) := ⟨1, by omega⟩
      have := Cg.mul_left (x j) (h3.trans (root_sum_n h h4))
      rwa [Int.mul_comm (n : Int)]
    · simp only [e, if_false]
      have h4 : ¬ n ∣ j + (n - k) := by
        rintro ⟨c, hc⟩
        have : c < 2 := by
          refine Classical.byContradiction fun hge => ?_
          have : n * 2 ≤ n * c := Nat.mul_le_mul_left n (by omega)
          omega
        rcases (show c = 0 ∨ c = 1 from by omega) with rfl | rfl <;> omega
      have := Cg.mul_left (x j) (h3.trans (root_sum_zero hp h h4))
      rwa [Int.mul_zero] at this
  refine (sm_cg h2).trans ?_
  rw [sm_one_term hk]
  · simp [Cg.refl]
  · intro i _ hne
    simp [hne]

/-- The product round and round. -/
def cyc (n : Nat) (a b : Nat → Int) (k : Nat) : Int := sm n (fun i => a i * b ((k + n - i) % n))

theorem mod_shift {n : Nat} (hn : 0 < n) {i k : Nat} (hi : i < n) (hk : k < n) : ((k + n - i) % n + i) % n = k := by
  by_cases h : i ≤ k
  · rw [show k + n - i = (k - i) + n from by omega, Nat.add_mod_right, Nat.mod_eq_of_lt (a := k - i) (by omega), Nat.mod_eq_of_lt (by omega)]
    omega
  · rw [Nat.mod_eq_of_lt (a := k + n - i) (by omega), show k + n - i + i = k + n from by omega, Nat.add_mod_right, Nat.mod_eq_of_lt hk]
theorem mod_shift' {n : Nat} (hn : 0 < n) {i k : Nat} (hi : i < n) (hk : k < n) : ((k + i) % n + n - i) % n = k := by
  by_cases h : k + i < n
  · rw [Nat.mod_eq_of_lt h, show k + i + n - i = k + n from by omega, Nat.add_mod_right, Nat.mod_eq_of_lt hk]
  · have e : (k + i) % n = k + i - n := by rw [Nat.mod_eq_sub_mod (by omega), Nat.mod_eq_of_lt (by omega)]
    rw [e, show k + i - n + n - i = k from by omega, Nat.mod_eq_of_lt hk]
/-- The sum over all places moved on round and round. -/
theorem sm_shift {n : Nat} (f : Nat → Int) {i : Nat} (hi : i < n) : sm n (fun k => f ((k + i) % n)) = sm n f :=
  sm_perm (fun k => (k + i) % n) (fun k => (k + n - i) % n) (fun k hk => Nat.mod_lt _ (by omega)) (fun k hk => Nat.mod_lt _ (by omega))
    (fun k hk => mod_shift' (by omega) hi hk) (fun k hk => mod_shift (by omega) hi hk) f
theorem dft_cyc {p n : Nat} {w : Int} (h : Ord p w n) (a b : Nat → Int) (i : Nat) : Cg p (dft n w (cyc n a b) i) (dft n w a i * dft n w b i) := by
  have hn := h.1
  have h1 : dft n w (cyc n a b) i = sm n (fun j => sm n (fun k => a j * b ((k + n - j) % n) * w ^ (i * k))) := by
    unfold dft cyc
    rw [← sm_swap]
    refine sm_congr fun k _ => ?_
    rw [← sm_mul_right]
  have h2 : dft n w a i * dft n w b i = sm n (fun j => sm n (fun k => a j * b k * (w ^ (i * j) * w ^ (i * k)))) := by
    unfold dft
    rw [← sm_mul_right]
    refine sm_congr fun j _ => ?_
    rw [← sm_mul_left]
    exact sm_congr fun k _ => by grind
  rw [h1, h2]
  refine sm_cg fun j hj => ?_
  rw [← sm_shift (fun k => a j * b ((k + n - j) % n) * w ^ (i * k)) hj]
  refine sm_cg fun k hk => ?_
  rw [mod_shift' hn hj hk]
  refine Cg.mul_left _ ?_
  rw [← Int.pow_add, ← Nat.mul_add]
  have e : (i * ((k + j) % n)) % n = (i * (j + k)) % n := by
    rw [Nat.mul_mod, Nat.mod_mod, ← Nat.mul_mod, Nat.add_comm k j]
  exact (h.pow_mod _).symm.trans ((Cg.of_eq (by rw [e])).trans (h.pow_mod _))
/-- The transform takes all: two lists of one transform are one. -/
theorem dft_inj {p : Nat} (hp : Pr p) {n : Nat} {w v : Int} (h : Ord p w n) (hv : Cg p (w * v) 1) (hn : ¬ Cg p (n : Int) 0) {x y : Nat → Int}
    (e : ∀ i, i < n → Cg p (dft n w x i) (dft n w y i)) {k : Nat} (hk : k < n) : Cg p (x k) (y k) := by
  have h1 := dft_inv hp h hv x hk
  have h2 := dft_inv hp h hv y hk
  have h3 := dft_cg (w := v) e k
  exact hp.cancel hn (h1.symm.trans (h3.trans h2))
/-- An order that divides `p - 1` is no multiple of `p`. -/
theorem ord_ne_zero {p n : Nat} (hp : Pr p) (h0 : 0 < n) (hd : n ∣ p - 1) : ¬ Cg p (n : Int) 0 := by
  intro hc
  have h1 := Nat.le_of_dvd h0 (nat_cg_zero.1 hc)
  have h2 := Nat.le_of_dvd (by have := hp.1; omega) hd
  have := hp.1
  omega

/-- The product straight on, of `a` below `la` and `b` below `lb`. -/
def lin (la lb : Nat) (a b : Nat → Int) (k : Nat) : Int := sm la (fun i => if i ≤ k ∧ k - i < lb then a i * b (k - i) else 0)
def pad (l : Nat) (a : Nat → Int) (i : Nat) : Int := if i < l then a i else 0
theorem cyc_pad {n la lb : Nat} (a b : Nat → Int) (ha : 0 < la) (hb : 0 < lb) (hn : la + lb - 1 ≤ n) {k : Nat} (hk : k < n) : cyc n (pad la a) (pad lb b) k = lin la lb a b k := by
  unfold cyc lin
  obtain ⟨d, rfl⟩ : ∃ d, n = la + d := ⟨n - la, by omega⟩
  rw [sm_split]
  rw [sm_eq_zero (n := d) (fun i hi => by
    have : ¬ (la + i < la) := by omega
    simp [pad, this])]
  rw [Int.add_zero]
  refine sm_congr fun i hi => ?_
  by_cases h : i ≤ k
  · have e : (k + (la + d) - i) % (la + d) = k - i := by
      rw [show k + (la + d) - i = (k - i) + (la + d) from by omega, Nat.add_mod_right, Nat.mod_eq_of_lt (by omega)]
    rw [e]
    simp only [pad, hi, if_true, h, true_and]
    by_cases h2 : k - i < lb <;> simp [h2]
  · have e : (k + (la + d) - i) % (la + d) = k + (la + d) - i := Nat.mod_eq_of_lt (by omega)
    rw [e]
    have h2 : ¬ (k + (la + d) - i < lb) := by omega
    simp [pad, h, h2]
end Epi
