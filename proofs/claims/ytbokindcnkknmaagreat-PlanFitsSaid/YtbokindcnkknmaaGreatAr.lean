/- The arguments of the statements, opened: a source's list, a source, a plan. -/
import Derived.Test.YtbokindcnkknmaaGreatRep
import Derived.Deep.SlicePairs
import Derived.Deep.Strs
import Derived.Lib.SmallJoins
import Derived.ProofKit
set_option linter.unusedVariables false
namespace Go.Proofs.YtbokindcnkknmaaGreat
open Go.RowKit Epi Go.Deep Go.Joins Go.ChangeShapes Go.WideShapes Go.ChangeAt
theorem wf_u64 {n : Int} (h : (Lit.int .u64 n).wf = true) : ∃ m : Nat, n = m ∧ m < 18446744073709551616 := by
  simp [Lit.wf, IntKind.min, IntKind.max, IntKind.bits, IntKind.signed] at h
  obtain ⟨m, rfl⟩ := Int.eq_ofNat_of_zero_le h.1
  exact ⟨m, rfl, by omega⟩
theorem wf_i64 {n : Int} (h : (Lit.int .i64 n).wf = true) : -9223372036854775808 ≤ n ∧ n < 9223372036854775808 := by
  simp [Lit.wf, IntKind.min, IntKind.max, IntKind.bits, IntKind.signed] at h
  omega
theorem spot_none {w : World} {a : Addr} {v : Value} (h : w.cell? a = some v) : a.spot = none := by
  obtain ⟨b, o, s⟩ := a
  cases s with
  | none => rfl
  | some x =>
    unfold World.cell? at h
    split at h <;> simp at h
theorem add_none (b o n : Nat) : (⟨b, o, none⟩ : Addr).add n = ⟨b, o + n, none⟩ := by
  unfold Addr.add
  split
  · rename_i h
    subst h
    rfl
  · rfl
theorem all_mem {H : Type} {P : Program} {e : TypeId} {x : Nat} {d : DataW H} : ∀ {l : List (DataW H)}, d ∈ l → x ∈ d.weights P e → x ∈ DataW.weightsAll P e l
  | _ :: _, h, hx => by
    rw [DataW.weightsAll, List.mem_append]
    rcases List.mem_cons.mp h with rfl | h
    · exact .inl hx
    · exact .inr (all_mem h hx)
theorem by167 : Tryz.prog.bytesOf 167 = 16 := by kernel_rfl
theorem by149 : Tryz.prog.bytesOf 149 = 40 := by kernel_rfl
theorem ce167 : Tryz.prog.cellsOf 167 = 2 := by kernel_rfl
theorem ce149 : Tryz.prog.cellsOf 149 = 3 := by kernel_rfl
theorem ce22 : Tryz.prog.cellsOf 22 = 1 := by kernel_rfl
theorem ce3 : Tryz.prog.cellsOf 3 = 1 := by kernel_rfl
theorem ce147 : Tryz.prog.cellsOf 147 = 1 := by kernel_rfl
theorem rd_pw {H : Type} {enc : TypeId × Value → H} {W : World} {fuel : Nat} {c : Value} {y : DataW H × List MemPlace} (h : DataW.trod enc Tryz.prog W 0 (fun _ => true) true fuel 147 [c] = some y)
    (hw : ∀ x ∈ DataW.weights Tryz.prog 147 y.1, x ≤ 140737488351232) : ∃ F : List Pwr, RdPw W c F ∧ F.length * 16 ≤ 140737488351232 := by
  rcases open_slice_pairs Tryz.underlying147 Tryz.underlying167 ce167 rfl rfl ce22 ce3 h with ⟨hcs, hx⟩ | ⟨a, len, cap, m, n, V0, V1, D0, D1, P0, P1, hcs, -, hl, hm, hmm, hx, hel⟩
  · obtain rfl : c = .slice none 0 0 := by simpa using hcs
    exact ⟨[], RdPw.nil W, by simp⟩
  · obtain rfl : c = .slice (some a) len cap := by simpa using hcs
    have hmc : m = cap := by rw [hmm]; exact if_pos rfl
    subst hmc
    have hlen : len * 16 ≤ 140737488351232 := by
      have := hw ((len + (m - len)) * 16) (by rw [hx]; simp [DataW.weights, Tryz.underlying147, by167])
      have := Nat.mul_le_mul_right 16 hl
      omega
    have each : ∀ i, i < len → ∃ (q : Nat) (e : Int), V0 i = .int .u64 q ∧ V1 i = .int .i64 e ∧ PwrOk ⟨q, e⟩ ∧ W.cell? (a.add (i * 2)) = some (V0 i) ∧ W.cell? (a.add (i * 2 + 1)) = some (V1 i) := fun i hi => by
      obtain ⟨h1, h2, h3, h4⟩ := hel i (by omega)
      obtain ⟨q, e1, -, w1⟩ := DataW.trod_int Tryz.underlying22 h3
      obtain ⟨e, e2, -, w2⟩ := DataW.trod_int Tryz.underlying3 h4
      obtain ⟨q', rfl, hq⟩ := wf_u64 w1
      have he := wf_i64 w2
      exact ⟨q', e, by simpa using e1, by simpa using e2, ⟨hq, he.1, he.2⟩, h1, h2⟩
    refine ⟨(List.range len).map fun i => ⟨(intOf (V0 i)).toNat, intOf (V1 i)⟩, ⟨?_, ?_, some a, m, by simp, by simpa using hl, fun hn => ?_⟩, by simpa using hlen⟩
    · unfold Len
      simp
      omega
    · intro y hy
      obtain ⟨i, hi, rfl⟩ := List.mem_map.mp hy
      obtain ⟨q, e, e1, e2, hok, -⟩ := each i (List.mem_range.mp hi)
      rw [e1, e2]
      exact hok
    · have h0 : 0 < len := by simpa using hn
      obtain ⟨b, o, s⟩ := a
      obtain ⟨q, e, -, -, -, hc, -⟩ := each 0 h0
      obtain rfl : s = none := by
        have := spot_none hc
        simpa [Addr.add] using this
      refine ⟨b, o, rfl, fun i hi => ?_⟩
      obtain ⟨q, e, e1, e2, hok, h1, h2⟩ := each i (by simpa using hi)
      rw [add_none] at h1 h2
      simp only [List.getElem_map, List.getElem_range]
      rw [e1] at h1
      rw [e2] at h2
      rw [e1, e2]
      exact ⟨h1, h2⟩
set_option maxRecDepth 100000 in
theorem rd_ent {H : Type} {enc : TypeId × Value → H} {W : World} {fuel : Nat} {c : Value} {y : DataW H × List MemPlace} (h : DataW.trod enc Tryz.prog W 0 (fun _ => true) true fuel 23 [c] = some y)
    (hw : ∀ x ∈ DataW.weights Tryz.prog 23 y.1, x ≤ 140737488351232) : ∃ L : List Ent, RdEnt W c L ∧ ∀ x ∈ L, x.F.length * 16 ≤ 140737488351232 := by
  rcases open_slice Tryz.underlying23 h with ⟨hcs, hx⟩ | ⟨a, len, cap, m, n, D, Pl, hcs, -, hl, hm, hmm, hx, hel⟩
  · obtain rfl : c = .slice none 0 0 := by simpa using hcs
    exact ⟨[], ⟨Nat.zero_le _, by simp, none, 0, rfl, Nat.le_refl _, fun h => absurd h (by simp)⟩, by simp⟩
  · obtain rfl : c = .slice (some a) len cap := by simpa using hcs
    have hmc : m = cap := by rw [hmm]; exact if_pos rfl
    subst hmc
    have hwe : ∀ i, i < len → ∀ x ∈ DataW.weights Tryz.prog 149 (D i), x ≤ 140737488351232 := fun i hi x hxm => by
      refine hw x ?_
      rw [hx]
      simp only [DataW.weights, Tryz.underlying23]
      exact List.mem_cons_of_mem _ (List.mem_append_left _ (all_mem (List.mem_map.mpr ⟨i, List.mem_range.mpr hi, rfl⟩) hxm))
    have hlen : len * 40 ≤ 140737488351232 := by
      have := hw ((len + (m - len)) * 40) (by rw [hx]; simp [DataW.weights, Tryz.underlying23, by149])
      have := Nat.mul_le_mul_right 40 hl
      omega
    have each : ∀ i, i < len → ∃ (x : Ent) (f : Value), (EntOk x ∧ x.F.length * 16 ≤ 140737488351232) ∧ W.cell? (a.add (i * 3)) = some (.int .u64 x.P) ∧ W.cell? ((a.add (i * 3)).add 1) = some (.int .u64 x.G) ∧ W.cell? ((a.add (i * 3)).add 2) = some f ∧ RdPw W f x.F := fun i hi => by
      obtain ⟨cs', h1, h2⟩ := hel i (by omega)
      rw [ce149] at h1
      obtain ⟨-, hlc, hcell⟩ := World.cells?_some h1
      obtain ⟨y0, y1, y2, n', hxy, -, g0, g1, g2⟩ := trod_struct3 Tryz.underlying149 h2
      match cs', hlc with
      | [v0, v1, v2], _ =>
        simp only [ce22, ce147, List.drop_zero, List.drop_succ_cons, List.take_succ_cons, List.take_zero] at g0 g1 g2
        obtain ⟨p, e0, -, w0⟩ := DataW.trod_int Tryz.underlying22 g0
        obtain ⟨g, e1, -, w1⟩ := DataW.trod_int Tryz.underlying22 g1
        obtain ⟨p', rfl, hp⟩ := wf_u64 w0
        obtain ⟨g', rfl, hg⟩ := wf_u64 w1
        have hD : D i = .agg [y0.1, y1.1, y2.1] := congrArg (·.1) hxy
        obtain ⟨F, hF, hFl⟩ := rd_pw g2 (fun x hxm => hwe i hi x (by
          rw [hD]
          simp only [DataW.weights, Tryz.underlying149]
          simp [DataW.weightsEach, hxm]))
        have c0 := hcell 0 (by omega)
        have c1 := hcell 1 (by omega)
        have c2 := hcell 2 (by omega)
        simp only [List.cons.injEq, and_true] at e0 e1
        subst e0 e1
        refine ⟨⟨p', g', F⟩, v2, ⟨⟨hp, hg, hF.2.1⟩, hFl⟩, ?_, by simpa using c1, by simpa using c2, hF⟩
        simpa [Addr.add] using c0
    haveI : Inhabited Ent := ⟨⟨0, 0, []⟩⟩
    obtain ⟨X, hX⟩ := choose_lt each
    refine ⟨(List.range len).map X, ⟨?_, ?_, some a, m, by simp, by simpa using hl, fun hn => ?_⟩, ?_⟩
    · unfold Len
      simp
      omega
    · intro x hxm
      obtain ⟨i, hi, rfl⟩ := List.mem_map.mp hxm
      obtain ⟨f, hok, -⟩ := hX i (List.mem_range.mp hi)
      exact hok.1
    · have h0 : 0 < len := by simpa using hn
      obtain ⟨b, o, s⟩ := a
      obtain ⟨f, -, hc, -⟩ := hX 0 h0
      obtain rfl : s = none := by
        have := spot_none hc
        simpa [Addr.add] using this
      refine ⟨b, o, rfl, fun i hi => ?_⟩
      obtain ⟨f, hok, c0, c1, c2, hF⟩ := hX i (by simpa using hi)
      rw [add_none, add_none] at c1 c2
      rw [add_none] at c0
      simp only [List.getElem_map, List.getElem_range]
      exact ⟨f, c0, c1, c2, hF⟩
    · intro x hxm
      obtain ⟨i, hi, rfl⟩ := List.mem_map.mp hxm
      obtain ⟨f, hok, -⟩ := hX i (List.mem_range.mp hi)
      exact hok.2
set_option maxRecDepth 100000 in
theorem src_open {H : Type} {enc : TypeId × Value → H} {W : World} {b0 : Nat} {v : Value} {d : DataW H} {p : List MemPlace} (hv : Value.okWide Tryz.prog W .any b0 25 v)
    (h : DataW.Trod enc Tryz.prog W 0 (fun _ => true) true 25 v d p) (hw : ∀ x ∈ DataW.weights Tryz.prog 25 d, x ≤ 140737488351232) :
    ∃ (k K : Int) (P : Nat) (c : Value) (L : List Ent), v = .agg #[.int .i64 k, .int .i64 K, .int .u64 P, c] ∧ P < 18446744073709551616 ∧ RdEnt W c L ∧ ∀ x ∈ L, x.F.length * 16 ≤ 140737488351232 := by
  obtain ⟨v0, v1, v2, v3, y0, y1, y2, y3, n, rfl, rfl, rfl, g0, g1, g2, g3⟩ := open_agg4 Tryz.underlying25 (by kernel_rfl) (by kernel_rfl) hv h
  obtain ⟨k, e0, -, w0⟩ := DataW.trod_int Tryz.underlying3 g0
  obtain ⟨K, e1, -, w1⟩ := DataW.trod_int Tryz.underlying3 g1
  obtain ⟨P, e2, -, w2⟩ := DataW.trod_int Tryz.underlying22 g2
  obtain ⟨P', rfl, hP⟩ := wf_u64 w2
  simp only [List.cons.injEq, and_true] at e0 e1 e2
  subst e0 e1 e2
  obtain ⟨L, hL, hLs⟩ := rd_ent g3 (fun x hxm => hw x (by
    simp only [DataW.weights, Tryz.underlying25]
    simp [DataW.weightsEach, hxm]))
  exact ⟨k, K, P', v3, L, rfl, hP, hL, hLs⟩
set_option maxRecDepth 100000 in
theorem plan_open {H : Type} {enc : TypeId × Value → H} {W : World} {b0 : Nat} {v : Value} {d : DataW H} {p : List MemPlace} (hv : Value.okWide Tryz.prog W .any b0 27 v)
    (h : DataW.Trod enc Tryz.prog W 0 (fun _ => true) true 27 v d p) : ∃ k n a : Int, v = .agg #[.int .i64 k, .int .i64 n, .int .i64 a] := by
  obtain ⟨v0, v1, v2, y0, y1, y2, n, rfl, rfl, rfl, g0, g1, g2⟩ := open_agg3 Tryz.underlying27 (by kernel_rfl) (by kernel_rfl) hv h
  obtain ⟨k, e0, -, w0⟩ := DataW.trod_int Tryz.underlying3 g0
  obtain ⟨K, e1, -, w1⟩ := DataW.trod_int Tryz.underlying3 g1
  obtain ⟨P, e2, -, w2⟩ := DataW.trod_int Tryz.underlying3 g2
  simp only [List.cons.injEq, and_true] at e0 e1 e2
  subst e0 e1 e2
  exact ⟨_, _, _, rfl⟩
end Go.Proofs.YtbokindcnkknmaaGreat
