/- maps.Keys at keys that are numbers. -/
import Derived.Test.YtbokindcnkknmaaGreatSo
import Derived.RangeFuncSeq
import Derived.RangeFuncGives
import Derived.Sort.MapsRangeIn
import Derived.WalkKit
import Derived.OwnWalkIn
import Derived.TacticsInMore
import Derived.RegionIn
import Derived.LoopNIn
import Derived.LoopIn
set_option linter.unusedVariables false
namespace Go.Proofs.YtbokindcnkknmaaGreat
open Go.RowKit Epi Go.Maps
abbrev encU (x : Nat) : Value := .int .u64 (x : Nat)
theorem encU_inj {x y : Nat} (h : encU x = encU y) : x = y := by
  injection h with _ h
  omega
theorem keyU_of {key : Value} {kl : Lit} (h : keyOf Tryz.prog 22 key = some kl) : ∃ x : Nat, key = encU x ∧ kl = kU x := by
  cases key <;> simp [keyOf, Tryz.underlying22, mapKey] at h
  rename_i q a
  obtain ⟨⟨rfl, hw⟩, rfl⟩ := h
  have h0 : 0 ≤ a := by
    simp [Lit.wf, IntKind.min, IntKind.max, IntKind.bits, IntKind.signed] at hw
    omega
  obtain ⟨x, rfl⟩ := Int.eq_ofNat_of_zero_le h0
  exact ⟨x, rfl, rfl⟩
/-- The keys that have come. -/
def ColU (D : DataW Value) (left : Lit → Bool) (ss : List Nat) : Prop := ss.Nodup ∧ ∀ x : Nat, x ∈ ss ↔ (has D (kU x) = true ∧ left (kU x) = false)
theorem ColU.start (D : DataW Value) : ColU D (has D) [] := ⟨List.nodup_nil, fun x => by cases has D (kU x) <;> simp⟩
theorem kU_same (x y : Nat) : (kU x).sameKey (kU y) = decide (x = y) := by
  simp only [kU, Lit.sameKey]
  by_cases h : x = y
  · subst h
    simp
  · simp [h]
    omega
theorem ColU.step {D : DataW Value} {left : Lit → Bool} {ss : List Nat} {x : Nat} {y : DataW Value} (h : ColU D left ss) (hl : left (kU x) = true) (hat : ∀ z, D.atKey (kU x) z = y) : ColU D (fun z => left z && !z.sameKey (kU x)) (ss ++ [x]) := by
  have hx : has D (kU x) = true := has_true_of_atKey hat
  have hn : x ∉ ss := fun hm => by
    have := ((h.2 x).mp hm).2
    rw [hl] at this
    cases this
  refine ⟨List.nodup_append.mpr ⟨h.1, by simp, fun a ha b hb => ?_⟩, fun z => ?_⟩
  · obtain rfl := List.mem_singleton.mp hb
    exact fun e => hn (e ▸ ha)
  · show z ∈ ss ++ [x] ↔ has D (kU z) = true ∧ (left (kU z) && !(kU z).sameKey (kU x)) = false
    rw [List.mem_append, List.mem_singleton, h.2 z, kU_same]
    by_cases e : z = x
    · subst e
      simp [hx]
    · simp [e]
set_option maxRecDepth 100000 in
set_option maxHeartbeats 1000000 in
theorem keys1_in (F : Fence) (n : Nat) (h10 : F.fn 203) (hro : F.round = none) (hn : 1 ≤ n) (l Bm b nn : Nat) (D0 : DataW Value) (J : List Nat → World → Prop)
    (hY : ∀ pre x W, J pre W → pre.length < Maps.size D0 → YieldAt F (n - 1) Tryz.prog l #[encU x] W fun e W' => e = .returned (.bool true) ∧ J (pre ++ [x]) W' ∧ KeepsWalks W W')
    (W : World) (hJ : AbidesFrom W.heap.size J) (hm : W.cell? ⟨Bm, 0, none⟩ = some (.map (some b))) (hown : GM W b nn D0) (h0 : J [] W) :
    CallsIn F n Tryz.prog 203 #[.func (.yield l) #[] #[], .pointer (some ⟨Bm, 0, none⟩)] W fun e W' => (∃ v, e = .returned v) ∧ ∃ ss : List Nat, ColU D0 (fun _ => false) ss ∧ J ss W' := by
  refine callsIn_of_wp Tryz.func203 rfl h10 ?_ hro
  simp only [Tryz.ntmps203, List.size_toArray, List.length_cons, List.length_nil, Nat.reduceAdd, Nat.reduceSub, Array.replicate_succ, Array.replicate_zero, List.push_toArray, List.append_toArray, List.nil_append, List.cons_append]
  gi_wp2_with (first
    | (gi_at_range; refine wpListIn_range_own _ rfl _ 206 rfl 22 158 keyU Tryz.underlying206 _ b nn _ rfl hown ?_; intro w0 hrg0 hg0 hs0)
    | gi_in)
  go_frame
  gi_loopw [3] (fun _ wr => ∃ (left : Lit → Bool) (cnt : Nat) (ss : List Nat), wr.ranges Tryz.prog 22 rdV b W.heap.size nn D0 left cnt ∧ ss.length + cnt ≤ Maps.size D0 ∧ ColU D0 left ss ∧ J ss wr)
    (fun _ wr => wr.rangeLeft b W.heap.size)
  case atStart =>
    exact ⟨_, _, [], hrg0, by simp, ColU.start D0, hJ [] W w0 none h0 hg0 (fun r e => by cases e)⟩
  case round =>
    obtain ⟨left, cnt, ss, hrg, hcs, hC, hJs⟩ := hrel
    gi_wp2_with (first
      | (gi_at_next; refine wpListIn_next_ranges _ rfl _ rfl 22 keyU rdV encU id (fun key kl hk => by obtain ⟨x, hx, _⟩ := keyU_of hk; exact ⟨x, hx⟩) (fun v _ _ => ⟨v, rfl⟩) b W.heap.size nn _ _ _ rfl hrg ?_ ?_)
      | gi_in)
    · intro hc0 hl0
      gi_wp2
      go_end0
      exact ⟨⟨_, rfl⟩, ss, by rwa [show left = fun _ => false from funext hl0] at hC, hJs⟩
    · intro x c kl yd yp w2 cnt2 hkey hlk hv hat hrg2 hlt hg2 hs2 hen
      obtain ⟨x', ex, rfl⟩ := keyU_of hkey
      obtain rfl : x = x' := encU_inj ex
      have hJ2 : J ss w2 := hJ ss wr w2 (some W.heap.size) hJs hg2 (fun r e => by cases e; exact ⟨Nat.le_refl _, hrg.iter_walk⟩)
      obtain ⟨fn, tmps, assign, body, hy, hR⟩ := hY ss x w2 hJ2 (by omega)
      clear hs2
      gi_wp2
      refine hR.mono ?_
      rintro e W3 ⟨rfl, hJ3, hk3⟩
      gi_wp2
      have hrg3 := hrg2.of_walks hk3
      go_roundw
      case rel => exact ⟨_, cnt2, ss ++ [x], hrg3, by simp; omega, hC.step hlk hat, hJ3⟩
      case measure => rw [hrg3.left_eq, hrg.left_eq]; exact hlt
/-- maps.Keys hands back an iterator of the keys. -/
theorem keys_gives (F : Fence) (n : Nat) (h10 : F.fn 203) (hro : F.round = none) (hn : 1 ≤ n) (Bm b nn : Nat) (D0 : DataW Value) (w : World) (hBm : Bm < w.heap.size)
    (hm : w.cell? ⟨Bm, 0, none⟩ = some (.map (some b))) (hown : GM w b nn D0) :
    SeqGives F n Tryz.prog 203 #[.pointer (some ⟨Bm, 0, none⟩)] encU (fun ss => ColU D0 (fun _ => false) ss) (Maps.size D0) w := fun l J W hW hJ hY h0 => by
  have hown' : GM W b nn D0 := by
    have hbl := hown.lt
    obtain ⟨es, clock, hb, Ft, hs, hD⟩ := hown
    exact ⟨es, clock, (hW.block b hbl).trans hb, Ft, hs, hD⟩
  exact keys1_in F n h10 hro hn l Bm b nn D0 J hY W hJ ((hW.cell (p := ⟨Bm, 0, none⟩) hBm).trans hm) hown' h0
set_option maxHeartbeats 1000000 in
theorem keys_any (b : Nat) (w : World) :
    Calls Tryz.prog 166 #[.map (some b)] w fun e w' => e = .returned (.func (.func 203) #[] #[.pointer (some ⟨w.heap.size, 0, none⟩)]) ∧ w' = w.alloc (.cells #[.map (some b)] 206) := by
  go_enter Tryz.func166, Tryz.ntmps166
  go_wp2_with fail
  go_ret
  exact ⟨rfl, rfl⟩
set_option maxRecDepth 100000 in
set_option maxHeartbeats 1000000 in
theorem keys1s_in (F : Fence) (n : Nat) (h10 : F.fn 203) (hro : F.round = none) (hn : 1 ≤ n) (l Bm b nn : Nat) (D0 : DataW Value) (J Jx : List Nat → World → Prop) (Kp : World → World → Prop) (hKp : ∀ A B, Kp A B → KeepsWalks A B)
    (hY : ∀ pre x W, J pre W → pre.length < Maps.size D0 → YieldAt F (n - 1) Tryz.prog l #[encU x] W fun e W' => (e = .returned (.bool true) ∧ J (pre ++ [x]) W' ∧ Kp W W') ∨ (e = .returned (.bool false) ∧ Jx (pre ++ [x]) W'))
    (W : World) (hJ : AbidesFrom W.heap.size J) (hm : W.cell? ⟨Bm, 0, none⟩ = some (.map (some b))) (hown : GM W b nn D0) (h0 : J [] W) :
    CallsIn F n Tryz.prog 203 #[.func (.yield l) #[] #[], .pointer (some ⟨Bm, 0, none⟩)] W fun e W' => (∃ v, e = .returned v) ∧ ((∃ ss : List Nat, (ColU D0 (fun _ => false) ss ∧ ss.length ≤ Maps.size D0) ∧ J ss W') ∨ ∃ pre, True ∧ Jx pre W') := by
  refine callsIn_of_wp Tryz.func203 rfl h10 ?_ hro
  simp only [Tryz.ntmps203, List.size_toArray, List.length_cons, List.length_nil, Nat.reduceAdd, Nat.reduceSub, Array.replicate_succ, Array.replicate_zero, List.push_toArray, List.append_toArray, List.nil_append, List.cons_append]
  gi_wp2_with (first
    | (gi_at_range; refine wpListIn_range_own _ rfl _ 206 rfl 22 158 keyU Tryz.underlying206 _ b nn _ rfl hown ?_; intro w0 hrg0 hg0 hs0)
    | gi_in)
  go_frame
  gi_loopw [3] (fun _ wr => ∃ (left : Lit → Bool) (cnt : Nat) (ss : List Nat), wr.ranges Tryz.prog 22 rdV b W.heap.size nn D0 left cnt ∧ ss.length + cnt ≤ Maps.size D0 ∧ ColU D0 left ss ∧ J ss wr)
    (fun _ wr => wr.rangeLeft b W.heap.size)
  case atStart =>
    exact ⟨_, _, [], hrg0, by simp, ColU.start D0, hJ [] W w0 none h0 hg0 (fun r e => by cases e)⟩
  case round =>
    obtain ⟨left, cnt, ss, hrg, hcs, hC, hJs⟩ := hrel
    gi_wp2_with (first
      | (gi_at_next; refine wpListIn_next_ranges _ rfl _ rfl 22 keyU rdV encU id (fun key kl hk => by obtain ⟨x, hx, _⟩ := keyU_of hk; exact ⟨x, hx⟩) (fun v _ _ => ⟨v, rfl⟩) b W.heap.size nn _ _ _ rfl hrg ?_ ?_)
      | gi_in)
    · intro hc0 hl0
      gi_wp2
      go_end0
      exact ⟨⟨_, rfl⟩, .inl ⟨ss, ⟨by rwa [show left = fun _ => false from funext hl0] at hC, by omega⟩, hJs⟩⟩
    · intro x c kl yd yp w2 cnt2 hkey hlk hv hat hrg2 hlt hg2 hs2 hen
      obtain ⟨x', ex, rfl⟩ := keyU_of hkey
      obtain rfl : x = x' := encU_inj ex
      have hJ2 : J ss w2 := hJ ss wr w2 (some W.heap.size) hJs hg2 (fun r e => by cases e; exact ⟨Nat.le_refl _, hrg.iter_walk⟩)
      obtain ⟨fn, tmps, assign, body, hy, hR⟩ := hY ss x w2 hJ2 (by omega)
      clear hs2
      gi_wp2
      refine hR.mono ?_
      rintro e W3 (⟨rfl, hJ3, hk3⟩ | ⟨rfl, hJ3⟩)
      case inr =>
        gi_wp2
        refine bodyPost_ret (results_none rfl _ _ _) rfl ?_
        exact ⟨⟨_, rfl⟩, .inr ⟨_, trivial, hJ3⟩⟩
      gi_wp2
      have hrg3 := hrg2.of_walks (hKp _ _ hk3)
      go_roundw
      case rel => exact ⟨_, cnt2, ss ++ [x], hrg3, by simp; omega, hC.step hlk hat, hJ3⟩
      case measure => rw [hrg3.left_eq, hrg.left_eq]; exact hlt
end Go.Proofs.YtbokindcnkknmaaGreat
