/- slices.AppendSeq, Collect, Sorted over the keys of a map. -/
import Derived.Test.YtbokindcnkknmaaGreatKe
import Derived.RangeFuncSeq
import Derived.RangeFuncBox
import Derived.RangeFuncLeaves
import Derived.RangeFuncWrites
import Derived.Maps.AppendAt
import Derived.RangeFuncGives
import Derived.Sort.MapsRangeIn
import Derived.WalkKit
import Derived.OwnWalkIn
import Derived.TacticsInMore
import Derived.RegionIn
import Derived.LoopNIn
import Derived.LoopIn
set_option linter.unusedVariables false
namespace Go.Proofs.YtbokindcnkknmaaGreat
open Go.RowKit Epi Go.Maps
attribute [local go_sem] Oper.semAt_some
theorem keys_stops (F : Fence) (n : Nat) (h10 : F.fn 203) (hro : F.round = none) (hn : 1 ≤ n) (Bm b nn : Nat) (D0 : DataW Value) (w : World) (hBm : Bm < w.heap.size)
    (hm : w.cell? ⟨Bm, 0, none⟩ = some (.map (some b))) (hown : GM w b nn D0) :
    SeqStopsK F n Tryz.prog 203 #[.pointer (some ⟨Bm, 0, none⟩)] (fun x => #[encU x]) KeepsWalks (fun ss => ColU D0 (fun _ => false) ss ∧ ss.length ≤ Maps.size D0) (fun _ => True) (Maps.size D0) w := fun l J Jx W hW hJ _ hY h0 => by
  have hown' : GM W b nn D0 := by
    have hbl := hown.lt
    obtain ⟨es, clock, hb, Ft, hs, hD⟩ := hown
    exact ⟨es, clock, (hW.block b hbl).trans hb, Ft, hs, hD⟩
  exact keys1s_in F n h10 hro hn l Bm b nn D0 J Jx KeepsWalks (fun _ _ h => h) hY W hJ ((hW.cell (p := ⟨Bm, 0, none⟩) hBm).trans hm) hown' h0
theorem infoU : ∃ i, Tryz.prog.info? 22 = some i ∧ i.zero = some (.int .u64 0) ∧ i.size = 1 ∧ i.bytes = 8 := ⟨(Tryz.prog.info? 22).get (by kernel_rfl), (Option.some_get _).symm, by kernel_rfl, by kernel_rfl, by kernel_rfl⟩
theorem us_snoc (l : List Nat) (x : Nat) : us (l ++ [x]) = us l ++ [encU x] := by unfold us; rw [List.map_append]; rfl
/-- What a collecting of keys hands back. -/
def SeqPost (D0 : DataW Value) (w : World) (e : Ending) (W' : World) : Prop := ∃ (v : Value) (ss : List Nat), e = .returned v ∧ (ColU D0 (fun _ => false) ss ∧ ss.length ≤ Maps.size D0) ∧ W'.ownsRow w.heap.size 22 1 v ss.length (us ss) ∧ Below w.heap.size w W'
set_option maxRecDepth 100000 in
set_option maxHeartbeats 2000000 in
theorem appendSeq_in (F : Fence) (n : Nat) (h11 : F.fn 222) (h10 : F.fn 203) (hro : F.round = none) (hn : 3 ≤ n) (Bm b nn : Nat) (D0 : DataW Value) (w : World) (hBm : Bm < w.heap.size)
    (hm : w.cell? ⟨Bm, 0, none⟩ = some (.map (some b))) (hown : GM w b nn D0) (hsz : Maps.size D0 ≤ 1000) :
    CallsIn F n Tryz.prog 222 #[.slice none 0 0, .func (.func 203) #[] #[.pointer (some ⟨Bm, 0, none⟩)]] w (SeqPost D0 w) := by
  have h1 : 1 ≤ n := by omega
  obtain ⟨i0, hi, hz0, hz1, hz2⟩ := infoU
  refine callsIn_of_wp_marks Tryz.func222 rfl h11 ?_ hro
  simp only [Tryz.ntmps222, List.size_toArray, List.length_cons, List.length_nil, Nat.reduceAdd, Nat.reduceSub, Array.replicate_succ, Array.replicate_zero, List.push_toArray, List.append_toArray, List.nil_append, List.cons_append]
  gi_wp2
  have bO := Boxed.new w 64 (.slice none 0 0)
  have hB0 : Below w.heap.size w (w.alloc (.cells #[.slice none 0 0] 64)) := (Below.refl _ w).alloc (Nat.le_refl _) _
  have hown0 : GM (w.alloc (.cells #[.slice none 0 0] 64)) b nn D0 := hown.alloc _
  refine wpIn_rangeFunc_ownG hro h1 (gf := 203) (lb := #[.pointer (some ⟨Bm, 0, none⟩)]) rfl h10 (enters_of Tryz.func203 (by kernel_rfl) rfl)
    (keys_stops F (n - 1) h10 hro (by omega) Bm b nn D0 _ (by simp; omega) ((hB0.cell (p := ⟨Bm, 0, none⟩) hBm).trans hm) hown0) walksK_t walksK_b (Below.refl _ _) (fun _ => rfl)
    (fun pre W => (∃ v, Boxed W w.heap.size 64 v ∧ W.ownsRow w.heap.size 22 1 v pre.length (us pre) ∧ True) ∧ Below w.heap.size w W)
    (fun _ _ _ => False)
    (OwnFrom.and (Own.from (holdsRow_own w.heap.size w.heap.size 64 22 1 (fun pre : List Nat => pre.length) (fun pre => us pre) (fun pre v => True)) _) (ownFrom_below (Nat.le_refl _) (by simp)))
    (fun _ _ _ _ _ hs _ _ => hs)
    ⟨⟨_, bO, World.ownsRow_nil _ _ _ _, trivial⟩, hB0⟩
    (fun x => { tmps := #[.slice none 0 0, .func (.func 203) #[] #[.pointer (some ⟨Bm, 0, none⟩)], .pointer (some ⟨w.heap.size, 0, none⟩), undef, .slice none 0 0, encU x, .func (.func 203) #[] #[.pointer (some ⟨Bm, 0, none⟩)], encU x, undef, undef, undef, undef, undef], defers := [] }) ?assign ?body ?done ?stop
  case assign =>
    intro l x W K hK
    gi_wp2
    exact hK
  case body =>
    rintro l pre x W ⟨⟨v, hv, hrow, hnil⟩, hB⟩ hlt
    have hc := hv.cell
    have hpl : pre.length ≤ 1000 := by omega
    gi_wp2_with (gi_at_builtin; refine wpListIn_append_own _ rfl _ _ 64 rfl w.heap.size 22 i0 (.int .u64 0) 1 8 Tryz.underlying64 hi hz0 hz1 hz2 rfl (by decide) _ _ _ rfl (hrow.alloc _) ⟨W.heap.size, 0, none⟩ 1 1 [encU x] rfl rfl (cell_one_new _ _ _) (by simp [Value.oneCell']) (by unfold maxLen; omega) (by omega) (by have := hB.size; simp; omega) ?_; intro v' w1 hown' hgrow _; obtain ⟨g', cap', rfl⟩ := ownsRow_succ hown'; obtain ⟨hv1, hv2, hr2, hk2, hb2⟩ := hv.appended (by decide) hrow hB.size (Nat.le_refl _) hown' hgrow; have hc1 := hv1.cell; have hf1 := hv1.frozen)
    exact ⟨hk2.from _, hk2.walks, ⟨_, hv2, by rw [us_snoc, List.length_append]; exact hr2, trivial⟩, hB.trans hb2⟩
  case done =>
    rintro D ys W hD hC ⟨⟨v, hv, hrow, hnil⟩, hB⟩ hK
    have hc := hv.cell
    gi_wp2
    refine ⟨by simp, .inl ⟨_, _, rfl, run_takeDeferred hK, ?_⟩⟩
    exact ⟨_, results_tmp rfl _ _ _, v, ys, rfl, hC, ownsRow_putObj hrow _ hK rfl, hB.trans (belowK_b (w := w) (Nat.le_refl _) W D _ _ (by simp at hD; omega) hK rfl rfl)⟩
  case stop =>
    rintro D c pre W _ _ h _
    exact h.elim
set_option maxHeartbeats 1000000 in
theorem collect_in (F : Fence) (n : Nat) (h8 : F.fn 201) (h11 : F.fn 222) (h10 : F.fn 203) (hro : F.round = none) (hn : 4 ≤ n) (Bm b nn : Nat) (D0 : DataW Value) (w : World) (hBm : Bm < w.heap.size)
    (hm : w.cell? ⟨Bm, 0, none⟩ = some (.map (some b))) (hown : GM w b nn D0) (hsz : Maps.size D0 ≤ 1000) :
    CallsIn F n Tryz.prog 201 #[.func (.func 203) #[] #[.pointer (some ⟨Bm, 0, none⟩)]] w (SeqPost D0 w) := by
  have h1 : 1 ≤ n := by omega
  refine callsIn_of_wp Tryz.func201 rfl h8 ?_ hro
  simp only [Tryz.ntmps201, List.size_toArray, List.length_cons, List.length_nil, Nat.reduceAdd, Nat.reduceSub, Array.replicate_succ, Array.replicate_zero, List.push_toArray, List.append_toArray, List.nil_append, List.cons_append]
  gi_wp2_with (gi_at_call 222; refine (appendSeq_in F (n - 1) h11 h10 hro (by omega) Bm b nn D0 _ hBm hm hown hsz).mono ?_; rintro e w' ⟨v, ss, rfl, hS, hrow, hb⟩)
  go_ret
  exact ⟨v, ss, rfl, hS, hrow, hb⟩
theorem collect_any (Bm b nn : Nat) (D0 : DataW Value) (w : World) (hBm : Bm < w.heap.size)
    (hm : w.cell? ⟨Bm, 0, none⟩ = some (.map (some b))) (hown : GM w b nn D0) (hsz : Maps.size D0 ≤ 1000) :
    Calls Tryz.prog 201 #[.func (.func 203) #[] #[.pointer (some ⟨Bm, 0, none⟩)]] w (SeqPost D0 w) :=
  (callsIn_wide (n := 5)).1 (collect_in _ 5 trivial trivial trivial rfl (by omega) Bm b nn D0 w hBm hm hown hsz)
/-- What slices.Sorted hands back: the keys, rising. -/
def SortedPost (D0 : DataW Value) (w : World) (e : Ending) (W' : World) : Prop := ∃ (g cap : Nat) (ss : List Nat), e = .returned (.slice (some ⟨g, 0, none⟩) ss.length cap) ∧ (ColU D0 (fun _ => false) ss ∧ ss.length ≤ Maps.size D0) ∧ SoTo ss ss.length ∧ RowU W' g ss.length cap ss ∧ w.heap.size ≤ g ∧ Below w.heap.size w W'
theorem ownsRow_zero {w : World} {base e size n : Nat} {v : Value} {xs : List Value} (h : w.ownsRow base e size v n xs) (b : Nat) (hb : ∀ g, v.ownBlock = some g → b ≤ g) : w.ownsRow b e size v n xs := by
  refine ⟨h.1, ?_⟩
  rcases h.2 with h | ⟨g, cap, cur, rfl, h1, h2⟩
  · exact .inl h
  · exact .inr ⟨g, cap, cur, rfl, hb g rfl, h2⟩
set_option maxHeartbeats 1000000 in
theorem sorted_any (Bm b nn : Nat) (D0 : DataW Value) (w : World) (hBm : Bm < w.heap.size)
    (hm : w.cell? ⟨Bm, 0, none⟩ = some (.map (some b))) (hown : GM w b nn D0) (hsz : Maps.size D0 ≤ 12) (h0 : ∃ x, has D0 (kU x) = true) :
    Calls Tryz.prog 165 #[.func (.func 203) #[] #[.pointer (some ⟨Bm, 0, none⟩)]] w (SortedPost D0 w) := by
  have CC := Lib.hid (collect_any Bm b nn D0 w hBm hm hown (by omega))
  clear hm hown
  go_enter Tryz.func165, Tryz.ntmps165
  go_wp2_with fail
  refine (CC.out).mono ?_
  rintro e w1 ⟨v, ss, rfl, ⟨hC, hl⟩, hrow, hb⟩
  obtain ⟨x, hx⟩ := h0
  have hmem := (hC.2 x).mpr ⟨hx, rfl⟩
  have hpos : 1 ≤ ss.length := List.length_pos_of_mem hmem
  obtain ⟨g, cap, rfl, hg⟩ : ∃ g cap, v = .slice (some ⟨g, 0, none⟩) ss.length cap ∧ w.heap.size ≤ g := by
    rcases hrow.2 with ⟨-, h⟩ | ⟨g, cap, cur, rfl, h1, -⟩
    · omega
    · exact ⟨g, cap, rfl, h1⟩
  have hR : RowU w1 g ss.length cap ss := ⟨rfl, ownsRow_zero hrow 0 (fun _ _ => Nat.zero_le _)⟩
  have CS := Lib.hid (sort_any g ss.length cap ss w1 hR (by omega) hpos)
  have HC := Lib.hid hC
  obtain ⟨n, en⟩ : ∃ n, ss.length = n := ⟨_, rfl⟩
  have EN := Lib.hid en
  have HB := Lib.hid hb
  have HL := Lib.hid hl
  rw [en] at CS
  rw [en]
  clear hC hl hrow hx hmem hpos hR en hb
  go_wp2_with fail
  refine (CS.out).mono ?_
  rintro e w2 ⟨rfl, hgr, hsz2, l', hperm, hRow, hso⟩
  have Z : Hid (SortedPost D0 w (.returned (.slice (some ⟨g, 0, none⟩) n cap)) w2) := Lib.hid (by
    have hl : l'.length = n := hperm.length_eq.trans EN.out
    refine ⟨g, cap, l', by rw [hl], ⟨⟨hperm.nodup_iff.mpr HC.out.1, fun y => (hperm.mem_iff).trans (HC.out.2 y)⟩, by have := HL.out; have := EN.out; omega⟩, by rw [hl]; exact hso, by rw [hl]; exact hRow, hg, HB.out.grown hgr HB.out.size fun j e => by cases e; exact hg⟩)
  clear hperm hRow hso hgr
  go_wp2_with fail
  go_ret
  exact Z.out
end Go.Proofs.YtbokindcnkknmaaGreat
