/- Plain arithmetic: all plans of a length, and the one that costs least. No program in sight. -/
import Derived.Test.YtbokindcnkknmaaGreatMp
set_option linter.unusedVariables false
namespace Epi
/-- What is tried of a way. -/
noncomputable def tryP (n : Int) (k : Nat) : List Pl := if k = 4 then (List.range n.toNat).map (fun a => ⟨4, n, (a : Nat)⟩) else if k = 5 then [⟨5, n, (rdPad n : Nat)⟩] else if k = 6 then [⟨6, n, (chPad n : Nat)⟩] else [⟨(k : Nat), n, 0⟩]
/-- All plans of a way and a length that fit. -/
noncomputable def ofP (p : Nat) (n : Int) (k : Nat) : List Pl := (tryP n k).filter fun x => fitsF p x == 0
/-- All plans of a length that fit. -/
noncomputable def allTo (p : Nat) (n : Int) : Nat → List Pl
  | 0 => []
  | k + 1 => allTo p n k ++ ofP p n k
noncomputable def allP (p : Nat) (n : Int) : List Pl := allTo p n 7
theorem fits_can {p : Nat} {x : Pl} (h : fitsF p x = 0) : canF x ∧ ckF p x.n 1024 = 0 ∧ (x.k ≤ 4 ∨ ((p - 1 : Nat) : Int) % x.a = 0) := by
  unfold fitsF at h
  by_cases h0 : ckF p x.n 1024 = 0
  · rw [if_neg (by simpa using h0)] at h
    by_cases h1 : bOf (canF x ∧ (x.k ≤ 4 ∨ ((p - 1 : Nat) : Int) % x.a = 0)) = true
    · have := bOf_iff.mp h1
      exact ⟨this.1, h0, this.2⟩
    · rw [if_neg h1] at h
      cases h
  · rw [if_pos h0] at h
    exact absurd h h0
theorem fits_of {p : Nat} {x : Pl} (h : canF x) (h0 : ckF p x.n 1024 = 0) (h' : x.k ≤ 4 ∨ ((p - 1 : Nat) : Int) % x.a = 0) : fitsF p x = 0 := by
  unfold fitsF
  rw [if_neg (by simpa using h0), if_pos (bOf_true ⟨h, h'⟩)]
theorem fits_iff {p : Nat} {x : Pl} : fitsF p x = 0 ↔ canF x ∧ ckF p x.n 1024 = 0 ∧ (x.k ≤ 4 ∨ ((p - 1 : Nat) : Int) % x.a = 0) := ⟨fits_can, fun h => fits_of h.1 h.2.1 h.2.2⟩
theorem ofP_mem {p : Nat} {n : Int} {k : Nat} {x : Pl} (h : x ∈ ofP p n k) : fitsF p x = 0 ∧ x.n = n ∧ (k < 7 → x.k = k) := by
  unfold ofP at h
  obtain ⟨h1, h2⟩ := List.mem_filter.mp h
  refine ⟨by simpa using h2, ?_⟩
  unfold tryP at h1
  by_cases h4 : k = 4
  · rw [if_pos h4] at h1
    obtain ⟨a, -, rfl⟩ := List.mem_map.mp h1
    exact ⟨rfl, fun _ => by subst h4; rfl⟩
  rw [if_neg h4] at h1
  by_cases h5 : k = 5
  · rw [if_pos h5] at h1
    obtain rfl := List.mem_singleton.mp h1
    exact ⟨rfl, fun _ => by subst h5; rfl⟩
  rw [if_neg h5] at h1
  by_cases h6 : k = 6
  · rw [if_pos h6] at h1
    obtain rfl := List.mem_singleton.mp h1
    exact ⟨rfl, fun _ => by subst h6; rfl⟩
  rw [if_neg h6] at h1
  obtain rfl := List.mem_singleton.mp h1
  exact ⟨rfl, fun _ => rfl⟩
theorem allTo_mem {p : Nat} {n : Int} {x : Pl} : ∀ (k : Nat), x ∈ allTo p n k → fitsF p x = 0 ∧ x.n = n := by
  intro k
  induction k with
  | zero => intro h; cases h
  | succ k ih =>
    intro h
    rcases List.mem_append.mp h with h | h
    · exact ih h
    · exact ⟨(ofP_mem h).1, (ofP_mem h).2.1⟩
theorem allP_mem {p : Nat} {n : Int} {x : Pl} (h : x ∈ allP p n) : fitsF p x = 0 ∧ x.n = n := allTo_mem 7 h
theorem allTo_bad {p : Nat} {n : Int} (h : ckF p n 1024 ≠ 0) : ∀ k, allTo p n k = [] := by
  intro k
  cases e : allTo p n k with
  | nil => rfl
  | cons x L =>
    have := allTo_mem (p := p) (n := n) (x := x) k (by rw [e]; exact List.mem_cons_self ..)
    rw [← this.2] at h
    exact absurd (fits_can this.1).2.1 h
theorem ofP_len (p : Nat) (n : Int) (k : Nat) : (ofP p n k).length ≤ n.toNat + 1 := by
  unfold ofP
  refine Nat.le_trans (List.length_filter_le _ _) ?_
  unfold tryP
  by_cases h4 : k = 4
  · rw [if_pos h4]; simp
  rw [if_neg h4]
  by_cases h5 : k = 5
  · rw [if_pos h5]; simp
  rw [if_neg h5]
  by_cases h6 : k = 6
  · rw [if_pos h6]; simp
  rw [if_neg h6]; simp
theorem allTo_len (p : Nat) (n : Int) : ∀ k, (allTo p n k).length ≤ k * (n.toNat + 1) := by
  intro k
  induction k with
  | zero => simp [allTo]
  | succ k ih =>
    unfold allTo
    have := ofP_len p n k
    rw [List.length_append, Nat.succ_mul]
    omega
/-- The document's way through all A of a way: those up to a. -/
noncomputable def refTo (p : Nat) (n : Int) (k a : Nat) : List Pl := ((List.range a).map fun i => (⟨(k : Nat), n, (i : Nat)⟩ : Pl)).filter fun x => fitsF p x == 0
theorem refTo_succ (p : Nat) (n : Int) (k a : Nat) : refTo p n k (a + 1) = refTo p n k a ++ if fitsF p ⟨(k : Nat), n, (a : Nat)⟩ = 0 then [⟨(k : Nat), n, (a : Nat)⟩] else [] := by
  unfold refTo
  rw [List.range_succ, List.map_append, List.filter_append]
  congr 1
  by_cases h : fitsF p ⟨(k : Nat), n, (a : Nat)⟩ = 0 <;> simp [h]
theorem refTo_few {p : Nat} {n : Int} {k : Nat} (h : k < 4) : refTo p n k 1 = ofP p n k := by
  unfold refTo ofP tryP
  rw [if_neg (by omega), if_neg (by omega), if_neg (by omega)]
  rfl
theorem refTo_parts {p : Nat} {n : Int} : refTo p n 4 n.toNat = ofP p n 4 := by
  unfold refTo ofP tryP
  rw [if_pos rfl]
  rfl
theorem filter_one {p : Nat} {n : Int} {k c : Nat} (h : ∀ i : Nat, fitsF p ⟨(k : Nat), n, (i : Nat)⟩ = 0 → i = c) : ∀ a, refTo p n k a = if c < a then ([⟨(k : Nat), n, (c : Nat)⟩] : List Pl).filter fun x => fitsF p x == 0 else [] := by
  intro a
  induction a with
  | zero => rfl
  | succ a ih =>
    rw [refTo_succ, ih]
    rcases Nat.lt_trichotomy c a with h1 | h1 | h1
    · rw [if_pos h1, if_pos (show c < a + 1 by omega)]
      have : ¬ fitsF p ⟨(k : Nat), n, (a : Nat)⟩ = 0 := fun e => by have := h a e; omega
      rw [if_neg this, List.append_nil]
    · subst h1
      rw [if_neg (Nat.lt_irrefl c), if_pos (Nat.lt_succ_self c)]
      by_cases h3 : fitsF p ⟨(k : Nat), n, (c : Nat)⟩ = 0 <;> simp [h3]
    · rw [if_neg (show ¬ c < a by omega), if_neg (show ¬ c < a + 1 by omega)]
      have : ¬ fitsF p ⟨(k : Nat), n, (a : Nat)⟩ = 0 := fun e => by have := h a e; omega
      rw [if_neg this]
      rfl
theorem refTo_prime {p : Nat} {n : Int} : refTo p n 5 2049 = ofP p n 5 := by
  rw [filter_one (c := rdPad n) fun i hi => ?_, if_pos (by have := rdPad_le n; omega)]
  · rfl
  · have := (fits_can hi).1.2.2
    simp only at this
    omega
theorem refTo_any {p : Nat} {n : Int} : refTo p n 6 2049 = ofP p n 6 := by
  rw [filter_one (c := chPad n) fun i hi => ?_, if_pos (by have := chPad_le n; omega)]
  · rfl
  · have := (fits_can hi).1.2.2
    simp only at this
    omega
/-- The one that costs least, so far. -/
noncomputable def bestStep (kind : Int) (b : Option Pl) (x : Pl) : Option Pl := if kind = -1 ∨ kind = x.k then (match b with | none => some x | some y => if costF x < costF y then some x else some y) else b
noncomputable def bestP (kind : Int) (L : List Pl) : Option Pl := L.foldl (bestStep kind) none
theorem bestP_snoc (kind : Int) (L : List Pl) (x : Pl) : bestP kind (L ++ [x]) = bestStep kind (bestP kind L) x := by
  unfold bestP
  rw [List.foldl_append]
  rfl
theorem bestP_mem (kind : Int) (L : List Pl) : ∀ y, bestP kind L = some y → y ∈ L := by
  have key : ∀ (M : List Pl) (b : Option Pl), (∀ y, b = some y → y ∈ L) → (∀ y ∈ M, y ∈ L) → ∀ y, M.foldl (bestStep kind) b = some y → y ∈ L := by
    intro M
    induction M with
    | nil => intro b hb _ y hy; exact hb y hy
    | cons x M ih =>
      intro b hb hM y hy
      rw [List.foldl_cons] at hy
      refine ih _ (fun z hz => ?_) (fun z hz => hM z (List.mem_cons_of_mem _ hz)) y hy
      unfold bestStep at hz
      by_cases h1 : kind = -1 ∨ kind = x.k
      · rw [if_pos h1] at hz
        cases b with
        | none => exact Option.some.inj hz ▸ hM x (List.mem_cons_self ..)
        | some u =>
          simp only at hz
          by_cases h2 : costF x < costF u
          · rw [if_pos h2] at hz
            exact Option.some.inj hz ▸ hM x (List.mem_cons_self ..)
          · rw [if_neg h2] at hz
            exact hb z hz
      · rw [if_neg h1] at hz
        exact hb z hz
  exact key L none (fun y h => by cases h) (fun y h => h)
theorem costF_can {x : Pl} (h : canF x) : costF x = costK x := by
  unfold costF
  rw [if_pos (bOf_true h)]
/-- What is alive: of 17 and 16. -/
theorem not_pr_16 : ¬ Pr 16 := fun h => by
  rcases h.2 2 ⟨8, rfl⟩ with h | h <;> omega
theorem rdPad_16 : rdPad 16 = 0 := by
  unfold rdPad
  rw [if_neg (fun h => not_pr_16 (bOf_iff.mp h.2.2))]
theorem ofP_17 : allP 17 16 = [⟨0, 16, 0⟩, ⟨1, 16, 0⟩, ⟨2, 16, 0⟩, ⟨3, 16, 0⟩] := by
  have ck : ckF 17 16 1024 = 0 := by decide
  have yes : ∀ k : Nat, k < 4 → ofP 17 16 k = [⟨(k : Nat), 16, 0⟩] := by
    intro k hk
    have : fitsF 17 ⟨(k : Nat), 16, 0⟩ = 0 := by
      refine fits_of ?_ ck (.inl ?_)
      · refine ⟨show (1 : Int) ≤ 16 by decide, show (16 : Int) ≤ 1024 by decide, ?_⟩
        have : k = 0 ∨ k = 1 ∨ k = 2 ∨ k = 3 := by omega
        rcases this with rfl | rfl | rfl | rfl
        · exact .inl ⟨rfl, rfl⟩
        · exact .inr (.inl ⟨.inl rfl, rfl, by decide⟩)
        · exact .inr (.inl ⟨.inr rfl, rfl, by decide⟩)
        · exact .inr (.inr (.inl ⟨rfl, rfl, by decide⟩))
      · show ((k : Nat) : Int) ≤ 4
        omega
    unfold ofP tryP
    rw [if_neg (by omega), if_neg (by omega), if_neg (by omega)]
    simp [this]
  have no4 : ofP 17 16 4 = [] := by
    unfold ofP
    rw [List.filter_eq_nil_iff]
    intro x hx
    unfold tryP at hx
    rw [if_pos rfl] at hx
    obtain ⟨a, ha, rfl⟩ := List.mem_map.mp hx
    rw [List.mem_range] at ha
    intro h
    have h := (fits_can (by simpa using h)).1.2.2
    simp only at h
    have h4 : cpF 16 (a : Nat) = true := by
      rcases h with h | h | h | h | h | h
      · exact absurd h.1 (by decide)
      · rcases h.1 with h | h <;> exact absurd h (by decide)
      · exact absurd h.1 (by decide)
      · exact h.2
      · exact absurd h.1 (by decide)
      · exact absurd h.1 (by decide)
    have : ∀ a < 16, cpF 16 ((a : Nat) : Int) = false := by decide
    rw [this a ha] at h4
    cases h4
  have no5 : ofP 17 16 5 = [] := by
    unfold ofP
    rw [List.filter_eq_nil_iff]
    intro x hx
    unfold tryP at hx
    rw [if_neg (by omega), if_pos rfl] at hx
    obtain rfl := List.mem_singleton.mp hx
    rw [rdPad_16]
    intro h
    have h := (fits_can (by simpa using h)).1.2.2
    simp only at h
    omega
  have no6 : ofP 17 16 6 = [] := by
    unfold ofP
    rw [List.filter_eq_nil_iff]
    intro x hx
    unfold tryP at hx
    rw [if_neg (by omega), if_neg (by omega), if_pos rfl] at hx
    obtain rfl := List.mem_singleton.mp hx
    intro h
    have h := (fits_can (by simpa using h)).2.2
    revert h
    decide
  unfold allP
  simp only [allTo, no4, no5, no6, List.nil_append, List.append_nil]
  rw [yes 0 (by omega), yes 1 (by omega), yes 2 (by omega), yes 3 (by omega)]
  rfl
theorem canF_16 : ∀ k : Nat, k < 4 → canF ⟨(k : Nat), 16, 0⟩ := by
  intro k hk
  refine ⟨show (1 : Int) ≤ 16 by decide, show (16 : Int) ≤ 1024 by decide, ?_⟩
  have : k = 0 ∨ k = 1 ∨ k = 2 ∨ k = 3 := by omega
  rcases this with rfl | rfl | rfl | rfl
  · exact .inl ⟨rfl, rfl⟩
  · exact .inr (.inl ⟨.inl rfl, rfl, by decide⟩)
  · exact .inr (.inl ⟨.inr rfl, rfl, by decide⟩)
  · exact .inr (.inr (.inl ⟨rfl, rfl, by decide⟩))
theorem cost_16 : costF ⟨0, 16, 0⟩ = 256 ∧ costF ⟨1, 16, 0⟩ = 208 ∧ costF ⟨2, 16, 0⟩ = 160 ∧ costF ⟨3, 16, 0⟩ = 272 := by
  refine ⟨?_, ?_, ?_, ?_⟩
  · exact (costF_can (canF_16 0 (by omega))).trans (by decide)
  · exact (costF_can (canF_16 1 (by omega))).trans (by decide)
  · exact (costF_can (canF_16 2 (by omega))).trans (by decide)
  · exact (costF_can (canF_16 3 (by omega))).trans (by decide)
theorem best_16 : bestP (-1) (allP 17 16) = some ⟨2, 16, 0⟩ := by
  obtain ⟨c0, c1, c2, c3⟩ := cost_16
  rw [ofP_17]
  simp [bestP, bestStep, c0, c1, c2, c3]
end Epi
