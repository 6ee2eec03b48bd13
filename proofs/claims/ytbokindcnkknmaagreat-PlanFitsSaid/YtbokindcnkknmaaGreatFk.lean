/- The known rows, laid in memory. -/
import Derived.Test.YtbokindcnkknmaaGreatFd
import Derived.Test.YtbokindcnkknmaaGreatRw
set_option linter.unusedVariables false
namespace Go.Proofs.YtbokindcnkknmaaGreat
open Go.RowKit Epi
theorem all_lt2 {P : (i : Nat) → i < 2 → Prop} (h0 : P 0 (by omega)) (h1 : P 1 (by omega)) : ∀ i, (h : i < 2) → P i h
  | 0, _ => h0
  | 1, _ => h1
  | _ + 2, h => absurd h (by omega)
/-- Cells in a row. -/
def CellsAt (w : World) (b o : Nat) (l : List Value) : Prop := ∀ i u, l[i]? = some u → w.cell? ⟨b, o + i, none⟩ = some u
theorem CellsAt.nil (w : World) (b o : Nat) : CellsAt w b o [] := fun i u h => by simp at h
theorem CellsAt.cons {w : World} {b o : Nat} {x : Value} {l : List Value} (h : w.cell? ⟨b, o, none⟩ = some x) (hl : CellsAt w b (o + 1) l) : CellsAt w b o (x :: l) := fun i u hi => by
  cases i with
  | zero => obtain rfl : x = u := by simpa using hi
            exact h
  | succ i => have := hl i u (by simpa using hi)
              rwa [show o + 1 + i = o + (i + 1) by omega] at this
theorem rdPw_of {w : World} {b n : Nat} {F : List Pwr} (h : CellsAt w b 0 (pwCells F)) (hn : F.length = n) (hl : n ≤ 1000) (hok : ∀ y ∈ F, PwrOk y) : RdPw w (.slice (some ⟨b, 0, none⟩) n n) F := by
  subst hn
  exact ⟨by unfold Len; omega, hok, _, _, rfl, Nat.le_refl _, fun _ => ⟨b, 0, rfl, fun i hi => ⟨h _ _ (pwCells_q F i hi), by have := h _ _ (pwCells_e F i hi); rwa [← Nat.add_assoc] at this⟩⟩⟩
theorem rdEnt_of {w : World} {b n : Nat} {X : List (Ent × Value)} (h : CellsAt w b 0 (ecells X)) (hn : X.length = n) (hl : n ≤ 1000) (hok : ∀ y ∈ X, y.1.P < 18446744073709551616 ∧ y.1.G < 18446744073709551616 ∧ RdPw w y.2 y.1.F) : RdEnt w (.slice (some ⟨b, 0, none⟩) n n) (X.map (·.1)) := by
  subst hn
  have hlen : (X.map (·.1)).length = X.length := by simp
  refine ⟨by rw [hlen]; unfold Len; omega, fun x hx => ?_, _, _, by rw [hlen], by omega, fun _ => ⟨b, 0, rfl, fun i hi => ?_⟩⟩
  · obtain ⟨y, hy, rfl⟩ := List.mem_map.mp hx
    obtain ⟨a, b, c⟩ := hok y hy
    exact ⟨a, b, c.2.1⟩
  · have hi' : i < X.length := by rwa [hlen] at hi
    obtain ⟨x0, x1, x2⟩ := ecells_at X i hi'
    rw [List.getElem_map]
    exact ⟨_, h _ _ x0, by have := h _ _ x1; rwa [← Nat.add_assoc] at this, by have := h _ _ x2; rwa [← Nat.add_assoc] at this, (hok _ (List.getElem_mem hi')).2.2⟩
def KnPost (i : Nat) (w : World) (e : Ending) (w' : World) : Prop := Below w.heap.size w w' ∧ ∃ A n c, e = .returned (.tuple #[.slice A n c, .int .u64 (kP i : Nat)]) ∧ RdEnt w' (.slice A n c) (kRow i)
set_option maxHeartbeats 4000000 in
set_option maxRecDepth 100000 in
theorem known0 (w : World) : Calls Tryz.prog 101 #[.int .i64 0] w (KnPost 0 w) := by
  go_enter Tryz.func101, Tryz.ntmps101
  go_wp2_with fail
  go_quiet (fail)
  go_wp2_with fail
  go_ret2
  refine ⟨?_, _, _, _, rfl, ?_⟩
  · refine bl_drew ?_ _
    repeat (first | exact Below.refl _ _ | refine Below.alloc ?_ (by simp <;> omega) _)
  · refine rdEnt_of (X := [(⟨3, 2, [⟨2, 1⟩]⟩, .slice (some ⟨w.heap.size, 0, none⟩) 1 1), (⟨7, 3, [⟨2, 1⟩, ⟨3, 1⟩]⟩, .slice (some ⟨w.heap.size + 1 + 1 + 1 + 1, 0, none⟩) 2 2), (⟨29, 2, [⟨2, 2⟩, ⟨7, 1⟩]⟩, .slice (some ⟨w.heap.size + 1 + 1 + 1 + 1 + 1 + 1, 0, none⟩) 2 2), (⟨4179340454199820289, 3, [⟨2, 57⟩, ⟨29, 1⟩]⟩, .slice (some ⟨w.heap.size + 1 + 1 + 1 + 1 + 1 + 1 + 1, 0, none⟩) 2 2)]) ?_ rfl (by omega) ?_
    · repeat (first | exact CellsAt.nil _ _ _ | refine CellsAt.cons (by go_simp) ?_)
    · intro y hy
      simp only [List.mem_cons, List.not_mem_nil, or_false] at hy
      rcases hy with rfl | rfl | rfl | rfl
      all_goals
        refine ⟨by dsimp only; omega, by dsimp only; omega, rdPw_of ?_ rfl (by omega) ?_⟩
        · repeat (first | exact CellsAt.nil _ _ _ | refine CellsAt.cons (by go_simp) ?_)
        · intro z hz
          simp only [List.mem_cons, List.not_mem_nil, or_false] at hz
          rcases hz with rfl | rfl | rfl | rfl
          all_goals exact ⟨by dsimp only; omega, by dsimp only; omega, by dsimp only; omega⟩
set_option maxHeartbeats 4000000 in
set_option maxRecDepth 100000 in
theorem known1 (w : World) : Calls Tryz.prog 101 #[.int .i64 1] w (KnPost 1 w) := by
  go_enter Tryz.func101, Tryz.ntmps101
  go_wp2_with fail
  go_quiet (fail)
  go_wp2_with fail
  go_ret2
  refine ⟨?_, _, _, _, rfl, ?_⟩
  · refine bl_drew ?_ _
    repeat (first | exact Below.refl _ _ | refine Below.alloc ?_ (by simp <;> omega) _)
  · refine rdEnt_of (X := [(⟨3, 2, [⟨2, 1⟩]⟩, .slice (some ⟨w.heap.size, 0, none⟩) 1 1), (⟨1945555039024054273, 5, [⟨2, 56⟩, ⟨3, 3⟩]⟩, .slice (some ⟨w.heap.size + 1 + 1 + 1 + 1 + 1 + 1, 0, none⟩) 2 2)]) ?_ rfl (by omega) ?_
    · repeat (first | exact CellsAt.nil _ _ _ | refine CellsAt.cons (by go_simp) ?_)
    · intro y hy
      simp only [List.mem_cons, List.not_mem_nil, or_false] at hy
      rcases hy with rfl | rfl
      all_goals
        refine ⟨by dsimp only; omega, by dsimp only; omega, rdPw_of ?_ rfl (by omega) ?_⟩
        · repeat (first | exact CellsAt.nil _ _ _ | refine CellsAt.cons (by go_simp) ?_)
        · intro z hz
          simp only [List.mem_cons, List.not_mem_nil, or_false] at hz
          rcases hz with rfl | rfl | rfl | rfl
          all_goals exact ⟨by dsimp only; omega, by dsimp only; omega, by dsimp only; omega⟩
set_option maxHeartbeats 4000000 in
set_option maxRecDepth 100000 in
theorem known2 (w : World) : Calls Tryz.prog 101 #[.int .i64 2] w (KnPost 2 w) := by
  go_enter Tryz.func101, Tryz.ntmps101
  go_wp2_with fail
  go_quiet (fail)
  go_wp2_with fail
  go_ret2
  refine ⟨?_, _, _, _, rfl, ?_⟩
  · refine bl_drew ?_ _
    repeat (first | exact Below.refl _ _ | refine Below.alloc ?_ (by simp <;> omega) _)
  · refine rdEnt_of (X := [(⟨5, 2, [⟨2, 2⟩]⟩, .slice (some ⟨w.heap.size + 1 + 1, 0, none⟩) 1 1), (⟨180143985094819841, 6, [⟨2, 55⟩, ⟨5, 1⟩]⟩, .slice (some ⟨w.heap.size + 1 + 1 + 1 + 1 + 1 + 1, 0, none⟩) 2 2)]) ?_ rfl (by omega) ?_
    · repeat (first | exact CellsAt.nil _ _ _ | refine CellsAt.cons (by go_simp) ?_)
    · intro y hy
      simp only [List.mem_cons, List.not_mem_nil, or_false] at hy
      rcases hy with rfl | rfl
      all_goals
        refine ⟨by dsimp only; omega, by dsimp only; omega, rdPw_of ?_ rfl (by omega) ?_⟩
        · repeat (first | exact CellsAt.nil _ _ _ | refine CellsAt.cons (by go_simp) ?_)
        · intro z hz
          simp only [List.mem_cons, List.not_mem_nil, or_false] at hz
          rcases hz with rfl | rfl | rfl | rfl
          all_goals exact ⟨by dsimp only; omega, by dsimp only; omega, by dsimp only; omega⟩
set_option maxHeartbeats 4000000 in
set_option maxRecDepth 100000 in
theorem known3 (w : World) : Calls Tryz.prog 101 #[.int .i64 3] w (KnPost 3 w) := by
  go_enter Tryz.func101, Tryz.ntmps101
  go_wp2_with fail
  go_quiet (fail)
  go_wp2_with fail
  go_ret2
  refine ⟨?_, _, _, _, rfl, ?_⟩
  · refine bl_drew ?_ _
    repeat (first | exact Below.refl _ _ | refine Below.alloc ?_ (by simp <;> omega) _)
  · refine rdEnt_of (X := [(⟨3, 2, [⟨2, 1⟩]⟩, .slice (some ⟨w.heap.size, 0, none⟩) 1 1), (⟨5, 2, [⟨2, 2⟩]⟩, .slice (some ⟨w.heap.size + 1 + 1, 0, none⟩) 1 1), (⟨754974721, 11, [⟨2, 24⟩, ⟨3, 2⟩, ⟨5, 1⟩]⟩, .slice (some ⟨w.heap.size + 1 + 1 + 1 + 1 + 1 + 1, 0, none⟩) 3 3)]) ?_ rfl (by omega) ?_
    · repeat (first | exact CellsAt.nil _ _ _ | refine CellsAt.cons (by go_simp) ?_)
    · intro y hy
      simp only [List.mem_cons, List.not_mem_nil, or_false] at hy
      rcases hy with rfl | rfl | rfl
      all_goals
        refine ⟨by dsimp only; omega, by dsimp only; omega, rdPw_of ?_ rfl (by omega) ?_⟩
        · repeat (first | exact CellsAt.nil _ _ _ | refine CellsAt.cons (by go_simp) ?_)
        · intro z hz
          simp only [List.mem_cons, List.not_mem_nil, or_false] at hz
          rcases hz with rfl | rfl | rfl | rfl
          all_goals exact ⟨by dsimp only; omega, by dsimp only; omega, by dsimp only; omega⟩
set_option maxHeartbeats 4000000 in
set_option maxRecDepth 100000 in
theorem known4 (w : World) : Calls Tryz.prog 101 #[.int .i64 4] w (KnPost 4 w) := by
  go_enter Tryz.func101, Tryz.ntmps101
  go_wp2_with fail
  go_quiet (fail)
  go_wp2_with fail
  go_ret2
  refine ⟨?_, _, _, _, rfl, ?_⟩
  · refine bl_drew ?_ _
    repeat (first | exact Below.refl _ _ | refine Below.alloc ?_ (by simp <;> omega) _)
  · refine rdEnt_of (X := [(⟨3, 2, [⟨2, 1⟩]⟩, .slice (some ⟨w.heap.size, 0, none⟩) 1 1), (⟨7, 3, [⟨2, 1⟩, ⟨3, 1⟩]⟩, .slice (some ⟨w.heap.size + 1 + 1 + 1 + 1, 0, none⟩) 2 2), (⟨469762049, 3, [⟨2, 26⟩, ⟨7, 1⟩]⟩, .slice (some ⟨w.heap.size + 1 + 1 + 1 + 1 + 1 + 1, 0, none⟩) 2 2)]) ?_ rfl (by omega) ?_
    · repeat (first | exact CellsAt.nil _ _ _ | refine CellsAt.cons (by go_simp) ?_)
    · intro y hy
      simp only [List.mem_cons, List.not_mem_nil, or_false] at hy
      rcases hy with rfl | rfl | rfl
      all_goals
        refine ⟨by dsimp only; omega, by dsimp only; omega, rdPw_of ?_ rfl (by omega) ?_⟩
        · repeat (first | exact CellsAt.nil _ _ _ | refine CellsAt.cons (by go_simp) ?_)
        · intro z hz
          simp only [List.mem_cons, List.not_mem_nil, or_false] at hz
          rcases hz with rfl | rfl | rfl | rfl
          all_goals exact ⟨by dsimp only; omega, by dsimp only; omega, by dsimp only; omega⟩
set_option maxHeartbeats 4000000 in
set_option maxRecDepth 100000 in
theorem known5 (w : World) : Calls Tryz.prog 101 #[.int .i64 5] w (KnPost 5 w) := by
  go_enter Tryz.func101, Tryz.ntmps101
  go_wp2_with fail
  go_quiet (fail)
  go_wp2_with fail
  go_ret2
  refine ⟨?_, _, _, _, rfl, ?_⟩
  · refine bl_drew ?_ _
    repeat (first | exact Below.refl _ _ | refine Below.alloc ?_ (by simp <;> omega) _)
  · refine rdEnt_of (X := [(⟨5, 2, [⟨2, 2⟩]⟩, .slice (some ⟨w.heap.size + 1 + 1, 0, none⟩) 1 1), (⟨167772161, 3, [⟨2, 25⟩, ⟨5, 1⟩]⟩, .slice (some ⟨w.heap.size + 1 + 1 + 1 + 1 + 1 + 1, 0, none⟩) 2 2)]) ?_ rfl (by omega) ?_
    · repeat (first | exact CellsAt.nil _ _ _ | refine CellsAt.cons (by go_simp) ?_)
    · intro y hy
      simp only [List.mem_cons, List.not_mem_nil, or_false] at hy
      rcases hy with rfl | rfl
      all_goals
        refine ⟨by dsimp only; omega, by dsimp only; omega, rdPw_of ?_ rfl (by omega) ?_⟩
        · repeat (first | exact CellsAt.nil _ _ _ | refine CellsAt.cons (by go_simp) ?_)
        · intro z hz
          simp only [List.mem_cons, List.not_mem_nil, or_false] at hz
          rcases hz with rfl | rfl | rfl | rfl
          all_goals exact ⟨by dsimp only; omega, by dsimp only; omega, by dsimp only; omega⟩
end Go.Proofs.YtbokindcnkknmaaGreat
