/- A source's field, by the program (package epicycle/epicyclelaw18). -/
import Derived.Test.YtbokindcnkknmaaGreatSk
import Derived.Deep.RegionHeld3
set_option linter.unusedVariables false
namespace Go.Proofs.YtbokindcnkknmaaGreat
open Go.RowKit Epi
/-- The entries that were made. -/
def XTo18 (w0 w : World) (L : List Ent) (X : List (Ent × Value)) (i : Nat) : Prop := X.map (·.1) = L.take i ∧ i ≤ L.length ∧ ∀ y ∈ X, w.ownsRow w0.heap.size 168 2 y.2 y.1.F.length (pwCells y.1.F)
theorem XTo18.len {w0 w : World} {L : List Ent} {X : List (Ent × Value)} {i : Nat} (h : XTo18 w0 w L X i) : X.length = i := by
  have := congrArg List.length h.1
  rw [List.length_map, List.length_take, Nat.min_eq_left h.2.1] at this
  exact this
theorem XTo18.below {w0 w w' : World} {L : List Ent} {X : List (Ent × Value)} {i : Nat} (h : XTo18 w0 w L X i) (hb : Below w.heap.size w w') : XTo18 w0 w' L X i := ⟨h.1, h.2.1, fun y hy => row_below (h.2.2 y hy) hb⟩
theorem XTo18.step {w0 w w' : World} {L : List Ent} {X : List (Ent × Value)} {i : Nat} {v v' : Value} {n b : Nat} {xs : List Value} (h : XTo18 w0 w L X i) (hi : i < L.length) (hr : w.ownsRow b 158 3 v n xs) (hg : w.grownBy w' v.ownBlock) (hl : w.ownsRow w0.heap.size 168 2 v' L[i].F.length (pwCells L[i].F)) : XTo18 w0 w' L (X ++ [(L[i], v')]) (i + 1) := by
  refine ⟨?_, hi, fun y hy => ?_⟩
  · rw [List.map_append, h.1, List.take_succ_eq_append_getElem hi]
    rfl
  · rcases List.mem_append.mp hy with hy | hy
    · exact (h.2.2 y hy).kept hg (row_apart (h.2.2 y hy) hr (by decide))
    · rw [List.mem_singleton.mp hy]
      exact hl.kept hg (row_apart hl hr (by decide))
theorem ent_ok18 {L : List Ent} (hok : ∀ x ∈ L, EntOk x) {X : List (Ent × Value)} {i : Nat} (h : X.map (·.1) = L.take i) : ∀ y ∈ X, EntOk y.1 := fun y hy => hok _ (List.mem_of_mem_take (h ▸ List.mem_map.mpr ⟨y, hy, rfl⟩))
set_option maxHeartbeats 4000000 in
set_option maxRecDepth 100000 in
theorem rows18_any (L : List Ent) (v : Value) (w : World) (hv : RdEnt w v L) (hl : L.length ≤ 40) (hF : ∀ x ∈ L, x.F.length * 16 ≤ 140737488351232) :
    Calls Tryz.prog 46 #[v] w fun e w' => ∃ A n c, e = .returned (.slice A n c) ∧ RdEnt w' (.slice A n c) L ∧ Below w.heap.size w w' := by
  obtain ⟨-, hok, A, c, rfl, -, hcl⟩ := hv
  obtain ⟨n, en⟩ : ∃ n, L.length = n := ⟨_, rfl⟩
  have EN := Lib.hid en
  have HCL := Lib.hid hcl
  have HOK := Lib.hid hok
  have HF := Lib.hid hF
  have hn40 : n ≤ 40 := by omega
  obtain ⟨i0, z0, hi0, hz0, hz1, hz2, hz3⟩ := infoEn
  have HI := Lib.hid (And.intro hi0 (And.intro hz0 (And.intro hz1 (And.intro hz2 hz3))))
  obtain ⟨i1, z1, hi1, hy0, hy1, hy2, hy3⟩ := infoPw
  have HJ := Lib.hid (And.intro hi1 (And.intro hy0 (And.intro hy1 (And.intro hy2 hy3))))
  rw [en]
  clear hcl hok hl hF en hi0 hz0 hz1 hz2 hz3 hi1 hy0 hy1 hy2 hy3
  go_enter Tryz.func46, Tryz.ntmps46
  go_wp2_with fail
  go_loopw [11, 3] (fun s11 s3 wr => ∃ (i : Nat) (v3 : Value) (X : List (Ent × Value)), s11 = .int .i64 i ∧ v3 = s3 ∧ i ≤ n ∧ Below w.heap.size w wr ∧ wr.ownsRow w.heap.size 158 3 v3 i (ecells X) ∧ Hid (XTo18 w wr L X i)) (fun s11 _ _ => n - (intOf s11).toNat)
  case atStart => exact ⟨0, _, [], rfl, rfl, Nat.zero_le _, Below.refl _ _, World.ownsRow_nil _ _ _ _, Lib.hid ⟨rfl, Nat.zero_le _, fun y hy => (nomatch hy)⟩⟩
  case round =>
    obtain ⟨i, v3, X, rfl, rfl, hi, hB, hO, hX⟩ := hrel
    obtain ⟨wq, rfl⟩ : ∃ wq : World, wq = wr := ⟨_, rfl⟩
    have hsr := hB.size
    by_cases hlt : i < n
    · have hj : i < L.length := by rw [EN.out]; exact hlt
      obtain ⟨b, o, rfl, hcell⟩ := HCL.out (by rw [EN.out]; omega)
      obtain ⟨f, k0, k1, k2, k3⟩ := hcell i hj
      obtain ⟨P', eP⟩ : ∃ P', L[i].P = P' := ⟨_, rfl⟩
      obtain ⟨G', eG⟩ : ∃ G', L[i].G = G' := ⟨_, rfl⟩
      obtain ⟨F', eF⟩ : ∃ F', L[i].F = F' := ⟨_, rfl⟩
      have eL : L[i] = ⟨P', G', F'⟩ := by rw [← eP, ← eG, ← eF]
      have hm16 := HF.out _ (List.getElem_mem hj)
      rw [eP] at k0
      rw [eG] at k1
      rw [eF] at k3 hm16
      obtain ⟨hFl, hFo, fA, fc, rfl, -, hfc⟩ := k3
      obtain ⟨m, em⟩ : ∃ m, F'.length = m := ⟨_, rfl⟩
      have EM := Lib.hid em
      rw [em] at k2 hm16
      have l := cell_lt k0
      have c0 := (hB.cell (p := ⟨b, o + i * 3, none⟩) l).trans k0
      have c1 := (hB.cell (p := ⟨b, o + i * 3 + 1, none⟩) l).trans k1
      have c2 := (hB.cell (p := ⟨b, o + i * 3 + 2, none⟩) l).trans k2
      have HFC := Lib.hid hfc
      have EL := Lib.hid eL
      have HFO := Lib.hid hFo
      clear k0 k1 k2 eP eG eF eL hcell hfc hFo hFl em
      go_wp2_with fail
      obtain ⟨wo, hwo⟩ : ∃ wo, wq.alloc (.cells #[.int .u64 P', .int .u64 G', .slice fA m fc] 149) = wo := ⟨_, rfl⟩
      have hBo : Below w.heap.size w wo := by rw [← hwo]; exact hB.alloc hsr _
      have hOo : wo.ownsRow w.heap.size 158 3 v3 i (ecells X) := by rw [← hwo]; exact hO.alloc _
      have hXo : Hid (XTo18 w wo L X i) := Lib.hid (by rw [← hwo]; exact hX.out.below ((Below.refl _ _).alloc (Nat.le_refl _) _))
      have x0 : wo.cell? ⟨wq.heap.size, 0, none⟩ = some (.int .u64 P') := by rw [← hwo]; exact World.cell?_alloc_at _ _ _ _ rfl
      have x1 : wo.cell? ⟨wq.heap.size, 1, none⟩ = some (.int .u64 G') := by rw [← hwo]; exact World.cell?_alloc_at _ _ _ _ rfl
      have hso : wo.heap.size = wq.heap.size + 1 := by rw [← hwo]; simp
      rw [hwo]
      have HSO := Lib.hid hso
      have hlo : wq.heap.size < wo.heap.size := by omega
      have hwo' : w.heap.size ≤ wo.heap.size := by omega
      clear hwo hB hO hX c0 c1 c2 hso
      go_loopw [18, 6] (fun s18 s6 wi => ∃ (k : Nat) (v6 : Value), s18 = .int .i64 k ∧ v6 = s6 ∧ k ≤ m ∧ Below wo.heap.size wo wi ∧ wi.ownsRow wo.heap.size 168 2 v6 k (pwCells (F'.take k))) (fun s18 _ _ => m - (intOf s18).toNat)
      case atStart => exact ⟨0, _, rfl, rfl, Nat.zero_le _, Below.refl _ _, World.ownsRow_nil _ _ _ _⟩
      case round =>
        obtain ⟨k, v6, rfl, rfl, hk, hBi, hOi⟩ := hrel
        have hsi := hBi.size
        by_cases hkm : k < m
        · have hkF : k < F'.length := by rw [EM.out]; exact hkm
          obtain ⟨fb, fo, rfl, hpc⟩ := HFC.out (by rw [EM.out]; omega)
          obtain ⟨p0, p1⟩ := hpc k hkF
          obtain ⟨q, eq⟩ : ∃ q, F'[k].q = q := ⟨_, rfl⟩
          obtain ⟨E, eE⟩ : ∃ E, F'[k].e = E := ⟨_, rfl⟩
          have hsnoc : pwCells (F'.take (k + 1)) = pwCells (F'.take k) ++ [.int .u64 q, .int .i64 E] := by
            rw [List.take_succ_eq_append_getElem hkF, pwCells_append, ← eq, ← eE]
            rfl
          have HS := Lib.hid hsnoc
          rw [eq] at p0
          rw [eE] at p1
          have lp := cell_lt p0
          have hBwi : Below w.heap.size w wr := hBo.trans (hBi.mono hwo')
          have d0 := (hBwi.cell (p := ⟨fb, fo + k * 2, none⟩) lp).trans p0
          have d1 := (hBwi.cell (p := ⟨fb, fo + k * 2 + 1, none⟩) lp).trans p1
          obtain ⟨hi1, hy0, hy1, hy2, hy3⟩ := HJ.out
          obtain ⟨cs, ecs⟩ : ∃ cs, pwCells (F'.take k) = cs := ⟨_, rfl⟩
          rw [ecs] at hOi HS
          clear p0 p1 hpc eq eE hkF hsnoc hBwi ecs
          go_wp2_with (at_builtin; refine wpList_append_own _ rfl _ _ 156 rfl wo.heap.size 168 i1 z1 2 16 Tryz.underlying156 hi1 hy0 hy1 hy2 hy3 (by decide) _ _ _ rfl ((hOi.alloc _).alloc _) _ 1 1 [.int .u64 q, .int .i64 E] rfl ?qc1 ?qc2 ?qc3 ?qc4 ?qc5 ?qc6 ?_)
          case qc1 => rfl
          case qc2 => exact cells_at _ _ _ _ (by simp)
          case qc3 =>
            intro u hu
            rcases List.mem_cons.mp hu with rfl | hu
            · rfl
            · rcases List.mem_cons.mp hu with rfl | hu
              · rfl
              · cases hu
          case qc4 => unfold maxLen; omega
          case qc5 => omega
          case qc6 => simp; omega
          intro v' wa hown hgrow _
          have HBa := Lib.hid (((hBi.alloc hsi _).alloc (by simp; omega) _).grown hgrow (by simp; omega) (fun j hj => (hOi.lt j hj).1))
          have HOa : Hid (wa.ownsRow wo.heap.size 168 2 v' (k + 1) (pwCells (F'.take (k + 1)))) := Lib.hid (by
            rw [HS.out]
            exact hown)
          clear hOi hown hgrow hi1 hy0 hy1 hy2 hy3 HS
          go_wp2_with fail
          exact ⟨⟨k + 1, _, by go_num, rfl, by omega, HBa.out, HOa.out⟩, by simp [intOf]; omega⟩
        · obtain rfl : k = m := by omega
          have hOF : wr.ownsRow w.heap.size 168 2 v6 L[i].F.length (pwCells L[i].F) := by
            rw [EL.out]
            show wr.ownsRow w.heap.size 168 2 v6 F'.length (pwCells F')
            rw [EM.out]
            rw [List.take_of_length_le (by rw [EM.out]; omega)] at hOi
            exact row_lower hOi hwo'
          have hX2 := hXo.out.below hBi
          have hO2 := row_below hOo hBi
          have y0 := (hBi.cell (p := ⟨wq.heap.size, 0, none⟩) hlo).trans x0
          have y1 := (hBi.cell (p := ⟨wq.heap.size, 1, none⟩) hlo).trans x1
          have hBw : Below w.heap.size w wr := hBo.trans (hBi.mono hwo')
          have hsw := hBw.size
          obtain ⟨vA, vc, rfl⟩ : ∃ vA vc, v6 = .slice vA k vc := by
            rcases hOi.2 with ⟨rfl, h⟩ | ⟨g, cap, cur, rfl, -⟩
            · exact ⟨none, 0, by rw [h]⟩
            · exact ⟨_, _, rfl⟩
          have hXl := hX2.len
          have HOF := Lib.hid hOF
          have HX2 := Lib.hid hX2
          obtain ⟨hi0, hz0, hz1, hz2, hz3⟩ := HI.out
          clear hOi hOF hX2 hOo hBi hBo
          go_wp2_with (at_builtin; refine wpList_append_own _ rfl _ _ 93 rfl w.heap.size 158 i0 z0 3 40 Tryz.underlying93 hi0 hz0 hz1 hz2 hz3 (by decide) _ _ _ rfl (hO2.alloc _) _ 1 1 [.int .u64 P', .int .u64 G', .slice vA k vc] rfl ?qe1 ?qe2 ?qe3 ?qe4 ?qe5 ?qe6 ?_)
          case qe1 => rfl
          case qe2 => exact cells_new _ _ _
          case qe3 =>
            intro u hu
            rcases List.mem_cons.mp hu with rfl | hu
            · rfl
            · rcases List.mem_cons.mp hu with rfl | hu
              · rfl
              · rcases List.mem_cons.mp hu with rfl | hu
                · rfl
                · cases hu
          case qe4 => unfold maxLen; omega
          case qe5 => omega
          case qe6 => simp; omega
          intro v' wa hown hgrow _
          have HBa := Lib.hid ((hBw.alloc hsw _).grown hgrow (by simp; omega) (fun j hj => (hO2.lt j hj).1))
          have HOa : Hid (wa.ownsRow w.heap.size 158 3 v' (i + 1) (ecells (X ++ [(L[i], .slice vA k vc)]))) := Lib.hid (by
            rw [ecells_app, EL.out]
            exact hown)
          have HXa := Lib.hid (XTo18.step (HX2.out.below ((Below.refl _ wr).alloc (Nat.le_refl _) _)) hj (hO2.alloc _) hgrow (HOF.out.alloc _))
          clear hO2 hown hgrow hBw hi0 hz0 hz1 hz2 hz3
          go_wp2_with fail
          exact ⟨⟨i + 1, _, _, by go_num, rfl, by omega, HBa.out, HOa.out, HXa⟩, by simp [intOf]; omega⟩
    · obtain rfl : i = n := by omega
      have hX' := hX.out
      have hXl := hX'.len
      have hRd : RdEnt wq v3 L := by
        have e : X.map (·.1) = L := by rw [hX'.1, List.take_of_length_le (by rw [EN.out]; omega)]
        have := RdEnt.of_own (X := X) (by rw [hXl]; exact hO) (by omega) (fun y hy => by
          obtain ⟨a, b, c⟩ := ent_ok18 HOK.out hX'.1 y hy
          refine ⟨a, b, RdPw.of_own (hX'.2.2 y hy) ?_ c⟩
          have := HF.out y.1 (by rw [← e]; exact List.mem_map.mpr ⟨y, hy, rfl⟩)
          omega)
        rwa [e] at this
      obtain ⟨vA, m, vc, rfl⟩ : ∃ vA m vc, v3 = .slice vA m vc := by
        obtain ⟨-, -, A, c, rfl, -⟩ := hRd
        exact ⟨_, _, _, rfl⟩
      have HR := Lib.hid hRd
      clear hRd hX' hO hX
      go_wp2_with fail
      go_ret
      exact ⟨_, _, _, rfl, HR.out, hB⟩
theorem FdOK.pos {p g : Nat} (h : FdOK p g) : p ≠ 0 := by have := h.2.1; omega
set_option maxHeartbeats 1000000 in
set_option maxRecDepth 100000 in
theorem made18_0 (K : Int) (P : Nat) (L : List Ent) (v : Value) (w : World) (hv : RdEnt w v L) (hP : P < 18446744073709551616) :
    Calls Tryz.prog 13 #[.agg #[.int .i64 0, .int .i64 K, .int .u64 P, v]] w (MdPost 0 K P L w) := by
  have HB0 : Hid (∀ o : Obj, Below w.heap.size w (w.alloc o)) := Lib.hid fun o => (Below.refl _ _).alloc (Nat.le_refl _) _
  have C1 := Lib.hid (fun W (hb : Below w.heap.size w W) => of_any 0 K P L v W (hv.below hb) hP)
  have C2 := Lib.hid (fun W => fsmall_any P W hP)
  obtain ⟨-, -, A, c, rfl, -⟩ := hv
  obtain ⟨n, en⟩ : ∃ n, L.length = n := ⟨_, rfl⟩
  rw [en] at C1 ⊢
  clear en hP
  go_enter Tryz.func13, Tryz.ntmps13
  go_wp2_with fail
  refine (C1.out _ (HB0.out _)).mono ?_
  rintro e w1 ⟨hb1, p, g, r, rfl, hS⟩
  have y2 := (hb1.cell (p := ⟨w.heap.size, 2, none⟩) (by simp)).trans (World.cell?_alloc_at _ _ _ _ rfl)
  have y0 := (hb1.cell (p := ⟨w.heap.size, 0, none⟩) (by simp)).trans (World.cell?_alloc_at _ _ _ _ rfl)
  have HB1 := Lib.hid (bl_trans (HB0.out _) hb1)
  have HS := Lib.hid (hS.1 rfl)
  have hs1 := cell_lt y2
  clear hb1 hS
  go_wp2_with fail
  refine (C2.out _).mono ?_
  rintro e w2 ⟨hb2, ⟨hO, b, g', hG, hF, rfl⟩ | ⟨hO, rfl⟩⟩
  · have Z : Hid (MdPost 0 K P L w (.returned (.tuple #[.pointer (some ⟨b, 0, none⟩), .int .u64 p, .int .u64 g])) w2) := Lib.hid (by
      rcases HS.out with ⟨-, rfl, hG2⟩ | ⟨h, -⟩
      · rw [gen_uniq hG hG2] at hF
        exact ⟨bl_trans HB1.out hb2, p, g, _, rfl, .inr ⟨b, hF, rfl⟩⟩
      · exact absurd hO h)
    clear hb2 hO hG hF
    go_wp2_with fail
    go_ret3
    exact Z.out
  · have Z : Hid (MdPost 0 K P L w (.returned (.tuple #[.pointer none, .int .u64 p, .int .u64 g])) w2) := Lib.hid (by
      rcases HS.out with ⟨h, -⟩ | ⟨-, rfl, rfl⟩
      · exact absurd h hO
      · exact ⟨bl_trans HB1.out hb2, 0, 0, _, rfl, .inl ⟨rfl, rfl, rfl⟩⟩)
    clear hb2 hO
    go_wp2_with fail
    go_ret3
    exact Z.out
set_option maxHeartbeats 1000000 in
set_option maxRecDepth 100000 in
theorem made18_1 (K : Int) (P : Nat) (L : List Ent) (v : Value) (w : World) (hv : RdEnt w v L) (hP : P < 18446744073709551616) :
    Calls Tryz.prog 13 #[.agg #[.int .i64 1, .int .i64 K, .int .u64 P, v]] w (MdPost 1 K P L w) := by
  have HB0 : Hid (∀ o : Obj, Below w.heap.size w (w.alloc o)) := Lib.hid fun o => (Below.refl _ _).alloc (Nat.le_refl _) _
  have C1 := Lib.hid (fun W (hb : Below w.heap.size w W) => of_any 1 K P L v W (hv.below hb) hP)
  have C2 := Lib.hid (fun W => fknown_any K W)
  obtain ⟨-, -, A, c, rfl, -⟩ := hv
  obtain ⟨n, en⟩ : ∃ n, L.length = n := ⟨_, rfl⟩
  rw [en] at C1 ⊢
  clear en hP
  go_enter Tryz.func13, Tryz.ntmps13
  go_wp2_with fail
  refine (C1.out _ (HB0.out _)).mono ?_
  rintro e w1 ⟨hb1, p, g, r, rfl, hS⟩
  have y1 := (hb1.cell (p := ⟨w.heap.size, 1, none⟩) (by simp)).trans (World.cell?_alloc_at _ _ _ _ rfl)
  have y0 := (hb1.cell (p := ⟨w.heap.size, 0, none⟩) (by simp)).trans (World.cell?_alloc_at _ _ _ _ rfl)
  have HB1 := Lib.hid (bl_trans (HB0.out _) hb1)
  have HS := Lib.hid (hS.2.1 rfl)
  have hs1 := cell_lt y1
  clear hb1 hS
  go_wp2_with fail
  refine (C2.out _).mono ?_
  rintro e w2 ⟨hb2, ⟨hK0, hK5, b, hF, rfl⟩ | ⟨hO, rfl⟩⟩
  · have Z : Hid (MdPost 1 K P L w (.returned (.tuple #[.pointer (some ⟨b, 0, none⟩), .int .u64 p, .int .u64 g])) w2) := Lib.hid (by
      rcases HS.out with ⟨-, -, rfl, rfl⟩ | ⟨h, -⟩
      · exact ⟨bl_trans HB1.out hb2, _, _, _, rfl, .inr ⟨b, hF, rfl⟩⟩
      · exact absurd ⟨hK0, hK5⟩ h)
    clear hb2 hK0 hK5 hF
    go_wp2_with fail
    go_ret3
    exact Z.out
  · have Z : Hid (MdPost 1 K P L w (.returned (.tuple #[.pointer none, .int .u64 p, .int .u64 g])) w2) := Lib.hid (by
      rcases HS.out with ⟨h, h', -⟩ | ⟨-, rfl, rfl⟩
      · exact absurd ⟨h, h'⟩ hO
      · exact ⟨bl_trans HB1.out hb2, 0, 0, _, rfl, .inl ⟨rfl, rfl, rfl⟩⟩)
    clear hb2 hO
    go_wp2_with fail
    go_ret3
    exact Z.out
set_option maxHeartbeats 2000000 in
set_option maxRecDepth 100000 in
theorem made18_n (k K : Int) (P : Nat) (L : List Ent) (v : Value) (w : World) (hv : RdEnt w v L) (hP : P < 18446744073709551616) (hF : ∀ x ∈ L, x.F.length * 16 ≤ 140737488351232) (h0 : k ≠ 0) (h1 : k ≠ 1) :
    Calls Tryz.prog 13 #[.agg #[.int .i64 k, .int .i64 K, .int .u64 P, v]] w (MdPost k K P L w) := by
  have HB0 : Hid (∀ o : Obj, Below w.heap.size w (w.alloc o)) := Lib.hid fun o => (Below.refl _ _).alloc (Nat.le_refl _) _
  have t0 : ((k : Int) == 0) = false := by rw [beq_eq_false_iff_ne]; exact h0
  have t1 : ((k : Int) == 1) = false := by rw [beq_eq_false_iff_ne]; exact h1
  have C1 := Lib.hid (fun W (hb : Below w.heap.size w W) => of_any k K P L v W (hv.below hb) hP)
  have C2 := Lib.hid (fun W (hb : Below w.heap.size w W) (hl : L.length ≤ 40) => rows18_any L v W (hv.below hb) hl hF)
  have C3 := Lib.hid (fun (W : World) (v : Value) (hv : RdEnt W v L) => fnew2 L v P W hv hP)
  obtain ⟨hLen, -, A, c, rfl, -⟩ := hv
  unfold Len at hLen
  obtain ⟨n, en⟩ : ∃ n, L.length = n := ⟨_, rfl⟩
  have EN := Lib.hid en
  rw [en] at C1 C2 hLen
  rw [en]
  have HH := Lib.hid (And.intro h0 h1)
  clear en hP hF h0 h1
  go_enter Tryz.func13, Tryz.ntmps13
  go_wp2_with fail
  refine (C1.out _ (HB0.out _)).mono ?_
  rintro e w1 ⟨hb1, p, g, r, rfl, hS⟩
  have y0 := (hb1.cell (p := ⟨w.heap.size, 0, none⟩) (by simp)).trans (World.cell?_alloc_at _ _ _ _ rfl)
  have y2 := (hb1.cell (p := ⟨w.heap.size, 2, none⟩) (by simp)).trans (World.cell?_alloc_at _ _ _ _ rfl)
  have y3 := (hb1.cell (p := ⟨w.heap.size, 3, none⟩) (by simp)).trans (World.cell?_alloc_at _ _ _ _ rfl)
  have HB1 := Lib.hid (bl_trans (HB0.out _) hb1)
  have HS := Lib.hid (hS.2.2 HH.out.1 HH.out.2)
  have hs1 := cell_lt y2
  clear hb1 hS
  by_cases h40 : n ≤ 40
  case neg =>
    have t2 : decide ((n : Int) ≤ 40) = false := by rw [decide_eq_false_iff_not]; omega
    have Z : Hid (MdPost k K P L w (.returned (.tuple #[.pointer none, .int .u64 p, .int .u64 g])) w1) := Lib.hid (by
      rcases HS.out with ⟨h, -⟩ | ⟨-, rfl, rfl⟩
      · have := (ckE_zero h).1
        have := EN.out
        omega
      · exact ⟨HB1.out, 0, 0, _, rfl, .inl ⟨rfl, rfl, rfl⟩⟩)
    clear h40
    go_wp2_with fail
    go_ret3
    exact Z.out
  have t2 : decide ((n : Int) ≤ 40) = true := by rw [decide_eq_true_eq]; omega
  have HS2 : Hid (∀ W, Below w1.heap.size w1 W → W.cell? ⟨w.heap.size, 2, none⟩ = some (.int .u64 P) ∧ W.cell? ⟨w.heap.size, 3, none⟩ = some (.slice A n c)) := Lib.hid fun W hb => ⟨(hb.cell (p := ⟨w.heap.size, 2, none⟩) hs1).trans y2, (hb.cell (p := ⟨w.heap.size, 3, none⟩) hs1).trans y3⟩
  have C2' := Lib.hid (fun W hb => C2.out W hb h40)
  clear h40
  go_wp2_with fail
  go_region_held3 (fun W => W.cell? ⟨w.heap.size, 2, none⟩ = some (.int .u64 P) ∧ W.cell? ⟨w.heap.size, 3, none⟩ = some (.slice A n c)) (first | exact ⟨y2, y3⟩ | exact HS2.out _ (bl_drew1 (Below.refl _ _)) | exact HS2.out _ (bl_trans (bl_drew1 (Below.refl _ _)) hb) | exact HS2.out _ (bl_trans (bl_trans (bl_drew1 (Below.refl _ _)) hb) hbn)) (first | (go_at_call 46; refine (C2'.out _ ?_).mono ?_; (first | exact bl_drew1 HB1.out | exact HB1.out); rintro e w' ⟨vA, vn, vc, rfl, hR, hb⟩; have HR := Lib.hid hR; clear hR) | (go_at_call 45; refine (C3.out _ _ HR.out).mono ?_; rintro e w'' ⟨o, r2, rfl, hN, hbn⟩))
  have Z : Hid (MdPost k K P L w (.returned (.tuple #[.pointer o, .int .u64 p, .int .u64 g])) w'') := Lib.hid (by
    have hbb := bl_trans HB1.out (bl_trans (bl_trans (bl_drew1 (Below.refl _ w1)) hb) hbn)
    obtain ⟨-, ⟨i, hi, x1, x2, x3, b, x4, x5⟩ | ⟨x1, x2⟩ | ⟨x1, x2, x3⟩⟩ := hN.out
    · injection x4 with x4
      injection x4 with x4
      have x4 := congrArg (fun a => a[0]?) x4
      have x4 : Value.pointer o = .pointer (some ⟨b, 0, none⟩) := by simpa using x4
      injection x4 with x4
      rcases HS.out with ⟨y1, j, hj, z1, z2, rfl, rfl⟩ | ⟨y1, -⟩
      · have hij : i = j := by
          rcases Nat.lt_trichotomy i j with h | h | h
          · exact absurd x1 (z2 i hi h)
          · exact h
          · exact absurd z1 (x2 j hj h)
        subst hij
        exact ⟨hbb, _, _, o, rfl, .inr ⟨b, x5, x4⟩⟩
      · rcases y1 with y1 | y1
        · exact absurd x3 y1
        · exact absurd x1 (y1 i hi hi)
    · have x4 := x2
      injection x4 with x4
      injection x4 with x4
      have x4 := congrArg (fun a => a[0]?) x4
      have x4 : Value.pointer o = .pointer none := by simpa using x4
      injection x4 with x4
      rcases HS.out with ⟨y1, -⟩ | ⟨-, rfl, rfl⟩
      · exact absurd y1 x1
      · exact ⟨hbb, _, _, o, rfl, .inl ⟨rfl, rfl, x4⟩⟩
    · injection x3 with x4
      injection x4 with x4
      have x4 := congrArg (fun a => a[0]?) x4
      have x4 : Value.pointer o = .pointer none := by simpa using x4
      injection x4 with x4
      rcases HS.out with ⟨y1, j, hj, z1, z2, -⟩ | ⟨-, rfl, rfl⟩
      · exact absurd z1 (x2 j hj hj)
      · exact ⟨hbb, _, _, o, rfl, .inl ⟨rfl, rfl, x4⟩⟩)
  clear hN hb hbn
  go_wp2_with fail
  go_ret3
  exact Z.out
theorem made18_any (k K : Int) (P : Nat) (L : List Ent) (v : Value) (w : World) (hv : RdEnt w v L) (hP : P < 18446744073709551616) (hF : ∀ x ∈ L, x.F.length * 16 ≤ 140737488351232) :
    Calls Tryz.prog 13 #[.agg #[.int .i64 k, .int .i64 K, .int .u64 P, v]] w (MdPost k K P L w) := by
  by_cases h0 : k = 0
  · subst h0
    exact made18_0 K P L v w hv hP
  by_cases h1 : k = 1
  · subst h1
    exact made18_1 K P L v w hv hP
  exact made18_n k K P L v w hv hP hF h0 h1
end Go.Proofs.YtbokindcnkknmaaGreat
