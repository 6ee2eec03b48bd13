/- PlanFits: for every source and every plan, in every world, the call returns true, and the arguments read as they did; no condition. -/
import Derived.Test.YtbokindcnkknmaaGreatRows
import Derived.Test.YtbokindcnkknmaaGreatLa
import Derived.Test.YtbokindcnkknmaaGreatAr
import Derived.WalkKit
import Derived.ProofKit
import Derived.SizedLaws
namespace Go.Proofs.YtbokindcnkknmaaGreat
open Go.ChangeShapes Go.WideShapes Go.ChangeAt Go.RowKit Epi
theorem own_knob : ownKnob Tryz.prog.godebug = none := by kernel_rfl
theorem laid_out : laidOutB Tryz.prog = true := by kernel_rfl
theorem weights_of {H : Type} {P : Program} {ts us : List TypeId} {ds : List (DataW H)} {gs : List (DataW H)} {j : Nat} {t : TypeId} {d : DataW H} (h : (DataW.weightsEach P (ts ++ us) (ds ++ gs)).all (· ≤ reachBytes) = true) (ht : (ts ++ us)[j]? = some t) (hd : (ds ++ gs)[j]? = some d) :
    ∀ x ∈ DataW.weights P t d, x ≤ 140737488351232 := fun x hx => by
  exact of_decide_eq_true (List.all_eq_true.1 h _ (DataW.weights_mem_each ht hd x hx))
set_option maxRecDepth 100000 in
theorem planFits_lifted (os : Os) (started : os.Started) (H : Type) (enc : TypeId × Value → H) :
    ReturnsInHanded {} Tryz.checked os 3 .any (Rows.planFitsSpec.pre6 enc Tryz.prog Tryz.f3 Rows.planFitsRow.domain false) (Rows.planFitsSpec.post enc Tryz.prog Tryz.f3 false true false false) := by
  refine returnsInHanded_of_change_sized (C := Tryz.checked) own_knob started (by kernel_rfl) Tryz.func3
    (ChangeSpec.witness6 (enc := enc) (C := Tryz.checked) false ⟨#[], #[.agg #[.int .i64 0, .int .i64 0, .int .u64 0, .slice none 0 0], .agg #[.int .i64 0, .int .i64 0, .int .i64 0]], []⟩ 8 (by kernel_rfl) (by kernel_rfl) (by kernel_rfl) (by kernel_rfl)) ?_
  intro W base args ds gs before hval0 hW _ hsz _
  have hval : ∀ (j : Nat) t v, Tryz.f3.params[j]? = some t → args[j]? = some v → Value.okWide Tryz.prog W .any base t v := hval0
  have hW' := hW
  obtain ⟨p, q, hA0, hV, rfl, hfz, hnd⟩ := hW
  have hA : DataW.TrodAll enc Tryz.prog W 0 (fun _ => true) true Tryz.f3.params.toList args.toList ds p := hA0
  rw [Tryz.params3] at hA hval
  obtain ⟨v0, v1, d0, d1, p0, p1, rfl, rfl, rfl, h0, h1⟩ := trodAll_two hA
  obtain ⟨rfl, rfl⟩ := trodVars_none hV
  obtain ⟨k, K, P, c, L, rfl, hP, hL, hLs⟩ := src_open (hval 0 25 v0 rfl rfl) h0 (weights_of (j := 0) hsz rfl rfl)
  obtain ⟨xk, xn, xa, rfl⟩ := plan_open (hval 1 27 v1 rfl rfl) h1
  clear hA0 hval0 hfz hnd hsz
  simp only [List.append_nil] at hW'
  refine (planFits_any k K P L c ⟨xk, xn, xa⟩ W hL hP hLs).mono fun e W' ⟨he, hb⟩ => ?_
  subst he
  have hlt : ∀ x ∈ p0 ++ p1, x.block < W.heap.size := fun x hx => hW'.lt x (by simpa using hx)
  exact ⟨_, rfl, _, _, _, [], p0 ++ p1, [], hW', trodAll_mk1 (shut_bool Tryz.underlying4 true),
    trodAll_mk2 (Below.trod laid_out (by kernel_rfl) (of_decide_eq_true (by kernel_rfl)) h0 hb (fun x hx => hlt x (List.mem_append_left _ hx))) (Below.trod laid_out (by kernel_rfl) (of_decide_eq_true (by kernel_rfl)) h1 hb (fun x hx => hlt x (List.mem_append_right _ hx))),
    rfl, hb.frame _, fun h => by cases h⟩
theorem planFits_holds : Rows.PlanFitsSaid :=
  OpenClaim.holds_of_wide 3 Tryz.f3 rfl rfl rfl rfl rfl rfl rfl ⟨rfl, rfl, rfl, rfl, rfl⟩ rfl rfl rfl rfl rfl (by kernel_rfl) Tryz.func3 (by kernel_rfl)
    (of_decide_eq_true (by kernel_rfl)) (by unfold Func.isWrapper; rw [if_neg (of_decide_eq_false (by kernel_rfl))]; exact ⟨rfl, rfl⟩)
    (fun os started H enc _ => planFits_lifted os started H enc)
end Go.Proofs.YtbokindcnkknmaaGreat
