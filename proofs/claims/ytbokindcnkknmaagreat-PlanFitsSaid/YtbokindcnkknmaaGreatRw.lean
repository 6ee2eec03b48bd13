/- The row of a small prime. -/
import Derived.Test.YtbokindcnkknmaaGreatAp
import Derived.Test.YtbokindcnkknmaaGreatMu
set_option linter.unusedVariables false
namespace Go.Proofs.YtbokindcnkknmaaGreat
open Go.RowKit Epi Go.Maps
/-- The cells of entries, each with the value that holds its factors. -/
def ecells : List (Ent × Value) → List Value
  | [] => []
  | x :: X => .int .u64 x.1.P :: .int .u64 x.1.G :: x.2 :: ecells X
theorem ecells_app (X Y : List (Ent × Value)) : ecells (X ++ Y) = ecells X ++ ecells Y := by
  induction X with
  | nil => rfl
  | cons x X ih => simp [ecells, ih]
theorem ecells_at : ∀ (X : List (Ent × Value)) (i : Nat) (hi : i < X.length), (ecells X)[i * 3]? = some (.int .u64 X[i].1.P) ∧ (ecells X)[i * 3 + 1]? = some (.int .u64 X[i].1.G) ∧ (ecells X)[i * 3 + 2]? = some X[i].2 := by
  intro X
  induction X with
  | nil => intro i hi; exact absurd hi (by simp)
  | cons x X ih =>
    intro i hi
    cases i with
    | zero => exact ⟨rfl, rfl, rfl⟩
    | succ i =>
      have := ih i (by simpa using hi)
      rw [show (i + 1) * 3 = i * 3 + 3 by omega, show i * 3 + 3 + 1 = i * 3 + 1 + 3 by omega, show i * 3 + 3 + 2 = i * 3 + 2 + 3 by omega]
      exact this
theorem RdEnt.of_own {w : World} {base : Nat} {e : TypeId} {v : Value} {X : List (Ent × Value)} (h : w.ownsRow base e 3 v X.length (ecells X)) (hl : X.length ≤ 140737488355328) (hok : ∀ y ∈ X, y.1.P < 18446744073709551616 ∧ y.1.G < 18446744073709551616 ∧ RdPw w y.2 y.1.F) : RdEnt w v (X.map (·.1)) := by
  have hlen : (X.map (·.1)).length = X.length := by simp
  refine ⟨by rw [hlen]; exact hl, fun x hx => ?_, ?_⟩
  · obtain ⟨y, hy, rfl⟩ := List.mem_map.mp hx
    obtain ⟨a, b, c⟩ := hok y hy
    exact ⟨a, b, c.2.1⟩
  obtain ⟨-, h2⟩ := id h
  rcases h2 with ⟨rfl, h0⟩ | ⟨g, cap, cur, rfl, -, -, hc, -⟩
  · exact ⟨none, 0, by rw [hlen, h0], by omega, fun hn => absurd hn (by omega)⟩
  · refine ⟨_, cap, by rw [hlen], by omega, fun _ => ⟨g, 0, rfl, fun i hi => ?_⟩⟩
    have hi' : i < X.length := by rwa [hlen] at hi
    obtain ⟨a, b, c⟩ := ecells_at X i hi'
    have x0 := h.cells rfl _ _ a
    have x1 := h.cells rfl _ _ b
    have x2 := h.cells rfl _ _ c
    rw [Addr.add_lit] at x0 x1 x2
    rw [List.getElem_map]
    exact ⟨_, x0, x1, x2, (hok _ (List.getElem_mem hi')).2.2⟩
theorem infoEn : ∃ i z, Tryz.prog.info? 158 = some i ∧ i.zero = some z ∧ i.size = 3 ∧ i.bytes = 40 ∧ z.cells.size = 3 := ⟨(Tryz.prog.info? 158).get (by kernel_rfl), .agg #[.int .u64 0, .int .u64 0, .slice none 0 0], (Option.some_get _).symm, by kernel_rfl, by kernel_rfl, by kernel_rfl, by kernel_rfl⟩
/-- What Row answers. -/
def RowPost (p : Nat) (w : World) (e : Ending) (w' : World) : Prop := Below w.heap.size w w' ∧ ((OddP p ∧ ∃ A n c L, e = .returned (.tuple #[.slice A n c, .int .i64 0]) ∧ RdEnt w' (.slice A n c) L ∧ L.length ≤ 12 ∧ rowOK L L.length ∧ (∃ x ∈ L, x.P = p) ∧ ∀ x ∈ L, GenOf x.P x.G) ∨
  (¬ OddP p ∧ e = .returned (.tuple #[.slice none 0 0, .int .i64 1])))
/-- The entries so far. -/
def EsTo (w : World) (ss : List Nat) (X : List (Ent × Value)) (i : Nat) : Prop := X.map (·.1.P) = ss.take i ∧ i ≤ ss.length ∧ ∀ y ∈ X, RdPw w y.2 y.1.F ∧ (∃ A k c, y.2 = .slice A k c) ∧ GenOf y.1.P y.1.G ∧ FacR (y.1.P - 1) y.1.F
theorem EsTo.len {w : World} {ss : List Nat} {X : List (Ent × Value)} {i : Nat} (h : EsTo w ss X i) : X.length = i := by
  have := congrArg List.length h.1
  rw [List.length_map, List.length_take, Nat.min_eq_left h.2.1] at this
  exact this
theorem EsTo.zero (w : World) (ss : List Nat) : EsTo w ss [] 0 := ⟨rfl, Nat.zero_le _, fun y hy => (nomatch hy)⟩
theorem EsTo.step {w : World} {ss : List Nat} {X : List (Ent × Value)} {i q g k c : Nat} {A : Option Addr} {F : List Pwr} (h : EsTo w ss X i) (hi : i < ss.length) (hq : ss[i] = q) (hR : RdPw w (.slice A k c) F) (hg : GenOf q g) (hF : FacR (q - 1) F) : EsTo w ss (X ++ [(⟨q, g, F⟩, .slice A k c)]) (i + 1) := by
  refine ⟨?_, hi, fun y hy => ?_⟩
  · rw [List.map_append, h.1, List.take_succ_eq_append_getElem hi, hq]
    rfl
  · rcases List.mem_append.mp hy with hy | hy
    · exact h.2.2 y hy
    · rw [List.mem_singleton.mp hy]
      exact ⟨hR, ⟨A, k, c, rfl⟩, hg, hF⟩
theorem SoTo.rising {ss : List Nat} (h : SoTo ss ss.length) (hn : ss.Nodup) : ss.Pairwise (· < ·) := by
  rw [List.pairwise_iff_getElem]
  intro i j hi hj hij
  have h1 := h i j hij hj
  rw [List.getD_eq_getElem?_getD, List.getD_eq_getElem?_getD, List.getElem?_eq_getElem hi, List.getElem?_eq_getElem hj] at h1
  have h1 : ss[i] ≤ ss[j] := h1
  have h2 : ss[i] ≠ ss[j] := List.pairwise_iff_getElem.mp hn i j hi hj hij
  omega
/-- The row is right. -/
theorem EsTo.right {w w2 : World} {b : Nat} {D : DataW Value} {ss : List Nat} {X : List (Ent × Value)} (h : EsTo w ss X ss.length) (hC : ColU D (fun _ => false) ss) (hs : SoTo ss ss.length) (hE : ∀ q, has D (kU q) = true → EntIn w2 b D q ∧ ∀ r, Pr r → r ∣ q - 1 → r ≠ 2 → has D (kU r) = true) : rowOK (X.map (·.1)) (X.map (·.1)).length := by
  have hP : (X.map (·.1)).map (·.P) = ss := by
    rw [List.map_map]
    have := h.1
    rw [List.take_length] at this
    exact this
  refine row_of (ss := ss) (SoTo.rising hs hC.1) hP fun x hx => ?_
  obtain ⟨y, hy, rfl⟩ := List.mem_map.mp hx
  obtain ⟨h1, h2, h3, h4⟩ := h.2.2 y hy
  have hm : y.1.P ∈ ss := by rw [← hP]; exact List.mem_map.mpr ⟨_, hx, rfl⟩
  obtain ⟨⟨h5, -⟩, h6⟩ := hE _ ((hC.2 _).mp hm).1
  exact ⟨h5.2.2, by have := h5.1; omega, h5.2.1, h3.1, h3.2.1, h3.2.2.1, h4, fun r a b c => (hC.2 r).mpr ⟨h6 r a b c, rfl⟩⟩
set_option maxHeartbeats 2000000 in
set_option maxRecDepth 100000 in
theorem row_any (p : Nat) (w : World) (hp : p < 18446744073709551616) : Calls Tryz.prog 97 #[.int .u64 p] w (RowPost p w) := by
  have CO := Lib.hid (fun W => sodd_any p W hp)
  by_cases h0 : OddP p
  case neg =>
    have H0 := Lib.hid h0
    have X := Lib.hid (bOf_false h0)
    simp only [X.out] at CO
    clear h0 hp
    go_enter Tryz.func97, Tryz.ntmps97
    go_wp2_with fail
    refine (CO.out _).mono ?_
    rintro e w1 ⟨rfl, hb⟩
    have HB := Lib.hid hb
    clear hb
    go_wp2_with fail
    go_ret2
    exact ⟨HB.out, .inr ⟨H0.out, rfl⟩⟩
  have H0 := Lib.hid h0
  have XT := Lib.hid (bOf_true h0)
  simp only [XT.out] at CO
  have hT := (T_wt h0.2.2).1
  have CG := Lib.hid (fun (W : World) => gather_any p (.inr h0) W.heap.size 0 (.map []) (W.alloc (.map #[] 0)) (by omega) (World.ownsMap_made W _ _ _) (fun q hq => by cases hq))
  have hmm := @run_makeMap Tryz.prog
  have HT := Lib.hid hT
  have HP := Lib.hid hp
  clear h0 hp hT
  go_enter Tryz.func97, Tryz.ntmps97
  go_wp2_with fail
  refine (CO.out _).mono ?_
  rintro e w1 ⟨rfl, hb1⟩
  have HB1 := Lib.hid hb1
  clear hb1
  go_wp2_with fail
  refine (CG.out _).mono ?_
  rintro e w2 ⟨rfl, hg2, D, hM2, -, hpD, hE⟩
  have HE := Lib.hid hE
  have HD := Lib.hid (hpD (by have := H0.out.1; omega))
  have hB2' : Below w1.heap.size w1 w2 := ((Below.refl _ w1).alloc (Nat.le_refl _) _).grown hg2 (by simp) (fun j e => by cases e; exact Nat.le_refl _)
  have HB2 := Lib.hid (bl_trans HB1.out hB2')
  have HM2 := Lib.hid hM2
  have hlt2 := hM2.lt
  clear hg2 hM2 hE hpD hB2' hmm
  go_wp2_with fail
  refine (keys_any _ _).mono ?_
  rintro e w3 ⟨rfl, rfl⟩
  have HB3 := Lib.hid (HB2.out.alloc HB2.out.size (.cells #[.map (some w1.heap.size)] 206))
  have CS := Lib.hid (sorted_any w2.heap.size w1.heap.size _ D (w2.alloc (.cells #[.map (some w1.heap.size)] 206)) (by simp) (World.cell?_alloc_at _ _ _ _ rfl) (HM2.out.alloc _) (by have := HM2.out.size_le; have := HT.out; omega) ⟨p, HD.out⟩)
  go_wp2_with fail
  refine (CS.out).mono ?_
  rintro e w4 ⟨g4, cap4, ss, rfl, ⟨hC4, hl4⟩, hS4, hR4, hg4, hb4⟩
  have HM4 := Lib.hid ((HM2.out.alloc _).kept (grown_below hb4 none) (by simp))
  have HB4 := Lib.hid (HB3.out.trans (hb4.mono (by have := HB3.out.size; exact this)))
  have HRP4 : Hid (∀ v F, RdPw w2 v F → RdPw w4 v F) := Lib.hid fun v F h => (h.below ((Below.refl _ w2).alloc (Nat.le_refl _) _)).below hb4
  obtain ⟨n, en⟩ : ∃ n, ss.length = n := ⟨_, rfl⟩
  have hn12 : n ≤ 12 := by have := HM2.out.size_le; have := HT.out; omega
  have EN := Lib.hid en
  rw [en] at hR4
  have HR4 := Lib.hid hR4
  have HC4 := Lib.hid hC4
  have HS4 := Lib.hid hS4
  obtain ⟨i0, z0, hi0, hz0, hz1, hz2, hz3⟩ := infoEn
  have HI := Lib.hid (And.intro hi0 (And.intro hz0 (And.intro hz1 (And.intro hz2 hz3))))
  have hbw : w.heap.size ≤ w4.heap.size := HB4.out.size
  rw [en]
  clear hC4 hS4 hR4 hb4 hl4 hi0 hz0 hz1 hz2 hz3 en hlt2 hg4
  go_wp2_with fail
  go_loopw [19, 5] (fun s19 s5 wr => ∃ (i : Nat) (v5 : Value) (X : List (Ent × Value)), s19 = .int .i64 i ∧ v5 = s5 ∧ i ≤ n ∧ Below w4.heap.size w4 wr ∧ wr.ownsRow w4.heap.size 158 3 v5 i (ecells X) ∧ Hid (EsTo w4 ss X i)) (fun s19 _ _ => n - (intOf s19).toNat)
  case atStart => exact ⟨0, _, [], rfl, rfl, Nat.zero_le _, Below.refl _ _, World.ownsRow_nil _ _ _ _, Lib.hid (EsTo.zero w4 ss)⟩
  case round =>
    obtain ⟨i, s5, X, rfl, rfl, hi, hB, hO, hX⟩ := hrel
    by_cases hlt : i < n
    · have hj : i < ss.length := by rw [EN.out]; exact hlt
      have hsz := hB.size
      have c0 := HR4.out.cell hlt
      have l0 := cell_lt c0
      have c1 := (hB.cell (p := ⟨g4, i, none⟩) l0).trans c0
      obtain ⟨q, eq⟩ : ∃ q, ss.getD i 0 = q := ⟨_, rfl⟩
      rw [eq] at c1
      have hq : ss[i] = q := by rw [← eq, List.getD_eq_getElem?_getD, List.getElem?_eq_getElem hj]; rfl
      have hqm : has D (kU q) = true := ((HC4.out.2 q).mp (hq ▸ List.getElem_mem hj)).1
      obtain ⟨⟨hOq, gq, A, k, c, F, hat, hgen, hfac, hrd⟩, -⟩ := HE.out q hqm
      have hMr := HM4.out.kept (grown_below hB none) (by simp)
      have hkey := keyU_mk (q := q) (by have := hOq.2.1; omega)
      obtain ⟨v, ps, hrun, hv⟩ := hMr.lookup keyU Tryz.underlying206 (zeroEnt wr) (R := rdV) rfl hkey
      rw [hat] at hv
      unfold rdV at hv
      obtain rfl : v = .agg #[.int .u64 q, .int .u64 (gq : Nat), .slice A k c] := DataW.held.inj (congrArg Prod.fst (Option.some.inj hv))
      have XS := Lib.hid (EsTo.step hX.out hj hq (HRP4.out _ _ hrd) hgen hfac)
      have hXl := hX.out.len
      obtain ⟨hi0, hz0, hz1, hz2, hz3⟩ := HI.out
      clear c0 eq hq hqm hOq hat hgen hfac hrd hkey hv hMr hj
      go_wp2_with (at_builtin; refine wpList_append_own _ rfl _ _ 93 rfl w4.heap.size 158 i0 z0 3 40 Tryz.underlying93 hi0 hz0 hz1 hz2 hz3 (by decide) _ _ _ rfl (hO.alloc _) _ 1 1 [.int .u64 q, .int .u64 (gq : Nat), .slice A k c] rfl ?qc1 ?qc2 ?qc3 ?qc4 ?qc5 ?qc6 ?_)
      case qc1 => rfl
      case qc2 => exact cells_new _ _ _
      case qc3 =>
        intro u hu
        rcases List.mem_cons.mp hu with rfl | hu
        · rfl
        · rcases List.mem_cons.mp hu with rfl | hu
          · rfl
          · rcases List.mem_cons.mp hu with rfl | hu
            · rfl
            · cases hu
      case qc4 => unfold maxLen; omega
      case qc5 => omega
      case qc6 => simp; omega
      intro v' wa hown hgrow _
      have HBa := Lib.hid ((hB.alloc hsz _).grown hgrow (by simp; omega) (fun k hk => (hO.lt k hk).1))
      have HOa : Hid (wa.ownsRow w4.heap.size 158 3 v' (i + 1) (ecells (X ++ [(⟨q, gq, F⟩, .slice A k c)]))) := Lib.hid (by
        rw [ecells_app]
        exact hown)
      clear hO hown hgrow hi0 hz0 hz1 hz2 hz3 hrun
      go_wp2_with fail
      exact ⟨⟨i + 1, _, _, by go_num, rfl, by omega, HBa.out, HOa.out, XS⟩, by simp [intOf]; omega⟩
    · obtain rfl : i = n := by omega
      have hX' := hX.out
      have hXl := hX'.len
      have hlen : (X.map (·.1)).length = i := by rw [List.length_map]; exact hXl
      have hRd : RdEnt wr s5 (X.map (·.1)) := RdEnt.of_own (X := X) (by rw [hXl]; exact hO) (by omega) (fun y hy => by
        obtain ⟨a, -, b, -⟩ := hX'.2.2 y hy
        have hm : y.1.P ∈ ss := by
          have h1 := hX'.1
          have h2 : y.1.P ∈ X.map (·.1.P) := List.mem_map.mpr ⟨y, hy, rfl⟩
          rw [h1] at h2
          exact List.mem_of_mem_take h2
        obtain ⟨⟨h5, -⟩, -⟩ := HE.out _ ((HC4.out.2 _).mp hm).1
        have := h5.2.1
        have := b.2.1
        exact ⟨by omega, by omega, a.below hB⟩)
      have Z : Hid (∃ A n c, s5 = .slice A n c ∧ RowPost p w (.returned (.tuple #[.slice A n c, .int .i64 0])) wr) := Lib.hid (by
        have hR' := EsTo.right (w2 := w2) (b := w1.heap.size) (D := D) (by rw [EN.out]; exact hX') HC4.out HS4.out (fun q hq => ⟨(HE.out q hq).1, ((HE.out q hq).2).resolve_left (fun h => by cases h)⟩)
        obtain ⟨-, -, A, c, rfl, -⟩ := id hRd
        refine ⟨A, _, c, rfl, HB4.out.trans (hB.mono hbw), .inl ⟨H0.out, A, _, c, _, rfl, hRd, by rw [hlen]; exact hn12, hR', ?_, fun x hx => ?_⟩⟩
        · have hm := (HC4.out.2 p).mpr ⟨HD.out, rfl⟩
          have h1 := hX'.1
          rw [← EN.out, List.take_length] at h1
          rw [← h1] at hm
          obtain ⟨y, hy, e⟩ := List.mem_map.mp hm
          exact ⟨y.1, List.mem_map.mpr ⟨y, hy, rfl⟩, e⟩
        · obtain ⟨y, hy, rfl⟩ := List.mem_map.mp hx
          exact (hX'.2.2 y hy).2.2.1)
      obtain ⟨A, m, c, rfl, Z2⟩ := Z.out
      have Z3 := Lib.hid Z2
      clear Z2 Z
      clear hRd hX' hO hlen hXl
      go_wp2_with fail
      go_ret2
      exact Z3.out
end Go.Proofs.YtbokindcnkknmaaGreat
