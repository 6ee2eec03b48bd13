/- gather: the map of entries. -/
import Derived.Test.YtbokindcnkknmaaGreatSv
import Derived.Test.YtbokindcnkknmaaGreatMg
import Derived.Maps.AppendAt
import Derived.Maps.OwnSet
import Derived.Maps.OwnOps
import Derived.Lib.Walk
import Derived.Lib.SliceRun
import Derived.BigQuiet
set_option linter.unusedVariables false
namespace Go.Proofs.YtbokindcnkknmaaGreat
open Go.RowKit Epi Go.Maps
/-- A value of the map, as it stands. -/
def rdV (v : Value) : Option (DataW Value × List MemPlace) := some (.held v, [])
/-- A map keyed by numbers. -/
abbrev GM (w : World) (b n : Nat) (D : DataW Value) : Prop := w.ownsMap Tryz.prog 22 rdV b n D
def kU (q : Nat) : Lit := .int .u64 q
theorem keyU : Keyed Tryz.prog 22 := int_keyed Tryz.underlying22
theorem keyU_mk {q : Nat} (h : q < 18446744073709551616) : keyOf Tryz.prog 22 (.int .u64 q) = some (kU q) := keyOf_int_mk Tryz.underlying22 (by simp [Lit.wf, IntKind.min, IntKind.max, IntKind.bits, IntKind.signed]; omega)
theorem zeroEnt (w : World) : (zeroValue 158).run Tryz.prog w = .ok (.agg #[.int .u64 0, .int .u64 0, .slice none 0 0]) w := by kernel_rfl
/-- An entry of the map is right, but for what its factors need. -/
def EntIn (w : World) (b : Nat) (D : DataW Value) (q : Nat) : Prop := OddP q ∧ ∃ g A k c F, (∀ z, D.atKey (kU q) z = .held (.agg #[.int .u64 q, .int .u64 (g : Nat), .slice A k c])) ∧ GenOf q g ∧ FacR (q - 1) F ∧ RdPw w (.slice A k c) F
theorem kU_ne {p q : Nat} (h : p ≠ q) : kU p ≠ kU q := fun e => h (by
  unfold kU at e
  injection e with _ e
  omega)
theorem RdPw.grown {w w' : World} {v : Value} {b : Nat} {F : List Pwr} {P : Program} {k : TypeId} {R : Value → Option (DataW Value × List MemPlace)} {n : Nat} {D : DataW Value} (h : RdPw w v F) (hm : w.ownsMap P k R b n D) (hg : w.grownBy w' (some b)) : RdPw w' v F := by
  obtain ⟨h1, h2, A, c, rfl, h4, h5⟩ := h
  refine ⟨h1, h2, A, c, rfl, h4, fun hn => ?_⟩
  obtain ⟨g, o, rfl, h7⟩ := h5 hn
  have hlt := cell_lt (h7 0 hn).1
  have hne : g ≠ b := by
    rintro rfl
    obtain ⟨es, clock, hb, -⟩ := hm
    have h8 := (h7 0 hn).1
    simp [World.cell?, hb] at h8
  have hblk := hg.block g hlt (fun e => hne (Option.some.inj e))
  refine ⟨g, o, rfl, fun i hi => ⟨?_, ?_⟩⟩
  · rw [← (h7 i hi).1]
    unfold World.cell?
    simp only [hblk]
  · rw [← (h7 i hi).2]
    unfold World.cell?
    simp only [hblk]
theorem EntIn.grown {w w' : World} {b n q : Nat} {D : DataW Value} (h : EntIn w b D q) (hm : GM w b n D) (hg : w.grownBy w' (some b)) : EntIn w' b D q := by
  obtain ⟨h1, g, A, k, c, F, h2, h3, h4, h5⟩ := h
  exact ⟨h1, g, A, k, c, F, h2, h3, h4, h5.grown hm hg⟩
theorem grown_below {w w' : World} (h : Below w.heap.size w w') (r : Option Nat) : w.grownBy w' r := ⟨h.os, h.tape, h.output, h.size, fun k hk _ => h.block k hk⟩
/-- What gather leaves: the map, with p and all that it needs. -/
def GaPost (p : Nat) (w : World) (b n : Nat) (D : DataW Value) (e : Ending) (w' : World) : Prop := e = .returned (.tuple #[]) ∧ w.grownBy w' (some b) ∧ ∃ D', GM w' b (n + Epi.T p) D' ∧
  (∀ q, has D (kU q) = true → has D' (kU q) = true) ∧ (p ≠ 2 → has D' (kU p) = true) ∧
  (∀ q, has D' (kU q) = true → EntIn w' b D' q ∧ (has D (kU q) = true ∨ ∀ r, Pr r → r ∣ q - 1 → r ≠ 2 → has D' (kU r) = true))
/-- Within gather: the map, with p, and what the first i factors need. -/
def GaTo (p : Nat) (w : World) (b n : Nat) (D : DataW Value) (F : List Pwr) (i : Nat) (D' : DataW Value) : Prop := GM w b (n + sT Epi.T (F.take i)) D' ∧
  (∀ q, has D (kU q) = true → has D' (kU q) = true) ∧ has D' (kU p) = true ∧
  (∀ q, has D' (kU q) = true → EntIn w b D' q ∧ (has D (kU q) = true ∨ q = p ∨ ∀ r, Pr r → r ∣ q - 1 → r ≠ 2 → has D' (kU r) = true)) ∧
  ∀ j, (hj : j < F.length) → j < i → F[j].q ≠ 2 → has D' (kU F[j].q) = true
theorem kU_key (q : Nat) : WideAt.IsKeyLit (kU q) := trivial
theorem GaTo.zero {p g k c : Nat} {w w' : World} {b n n' : Nat} {A : Option Addr} {D : DataW Value} {F : List Pwr} (hp : p < 18446744073709551616) (hO : OddP p) (hg : GenOf p g) (hF : FacR (p - 1) F) (hM : GM w b n' D) (hgr : w.grownBy w' (some b))
    (hM' : GM w' b (n + 1) (D.put (kU p) (.held (.agg #[.int .u64 p, .int .u64 (g : Nat), .slice A k c])))) (hR : RdPw w' (.slice A k c) F) (hn : has D (kU p) = false) (hD : ∀ q, has D (kU q) = true → EntIn w b D q) :
    GaTo p w' b (n + 1) D F 0 (D.put (kU p) (.held (.agg #[.int .u64 p, .int .u64 (g : Nat), .slice A k c]))) := by
  have hI : IsMap D := hM.isMap
  refine ⟨by rw [List.take_zero]; exact hM', fun q h => ?_, has_put_same hI (kU_key _) _, fun q h => ?_, fun j _ h => absurd h (by omega)⟩
  · by_cases e : q = p
    · subst e
      exact has_put_same hI (kU_key _) _
    · rw [has_put_other (kU_ne e)]
      exact h
  · by_cases e : q = p
    · subst e
      exact ⟨⟨hO, g, A, k, c, F, fun z => atKey_put_same hI (kU_key _) _ _, hg, hF, hR⟩, .inr (.inl rfl)⟩
    · rw [has_put_other (kU_ne e)] at h
      obtain ⟨a1, g', A', k', c', F', a2, a3, a4, a5⟩ := (hD q h).grown hM hgr
      exact ⟨⟨a1, g', A', k', c', F', fun z => by rw [atKey_put_other (kU_ne e)]; exact a2 z, a3, a4, a5⟩, .inl h⟩
theorem sT_take_succ {T : Nat → Nat} {F : List Pwr} {i : Nat} (h : i < F.length) : sT T (F.take (i + 1)) = sT T (F.take i) + T F[i].q := by
  induction F generalizing i with
  | nil => exact absurd h (by simp)
  | cons x F ih =>
    cases i with
    | zero => simp [sT]
    | succ i =>
      have h' : i < F.length := by simpa using h
      have h1 := ih h'
      rw [List.take_succ_cons, List.take_succ_cons, List.getElem_cons_succ]
      show T x.q + sT T (F.take (i + 1)) = T x.q + sT T (F.take i) + T F[i].q
      rw [h1, Nat.add_assoc]
theorem sT_take_le {T : Nat → Nat} (F : List Pwr) (i : Nat) : sT T (F.take i) ≤ sT T F := by
  induction F generalizing i with
  | nil => simp [sT]
  | cons x F ih =>
    cases i with
    | zero => simp [sT]
    | succ i =>
      show T x.q + sT T (F.take i) ≤ T x.q + sT T F
      exact Nat.add_le_add_left (ih i) _
theorem GaTo.step {p i : Nat} {wr wa w5 : World} {b n1 : Nat} {D D' : DataW Value} {F : List Pwr} {e : Ending} (hi : i < F.length) (hpl : p < 18446744073709551616) (h : GaTo p wr b n1 D F i D') (hal : wr.grownBy wa (some b)) (hp : GaPost F[i].q wa b (n1 + sT Epi.T (F.take i)) D' e w5) : ∃ D'', GaTo p w5 b n1 D F (i + 1) D'' := by
  obtain ⟨g1, g2, g3, g4, g5⟩ := h
  obtain ⟨-, q1, D'', q2, q3, q4, q5⟩ := hp
  have hk : ∀ q, has D' (kU q) = true → has D'' (kU q) = true := q3
  refine ⟨D'', by rw [sT_take_succ hi, ← Nat.add_assoc]; exact q2, fun q h => q3 q (g2 q h), q3 p g3, fun q h => ?_, fun j hj hjk h2 => ?_⟩
  · obtain ⟨a1, a2⟩ := q5 q h
    refine ⟨a1, ?_⟩
    rcases a2 with a2 | a2
    · rcases (g4 q a2).2 with a3 | a3 | a3
      · exact .inl a3
      · exact .inr (.inl a3)
      · exact .inr (.inr fun r h1 h3 h4 => hk r (a3 r h1 h3 h4))
    · exact .inr (.inr a2)
  · by_cases e : j = i
    · subst e
      exact q4 h2
    · exact hk _ (g5 j hj (by omega) h2)
theorem GaTo.done {p k : Nat} {w wr : World} {b n : Nat} {D D' : DataW Value} {F : List Pwr} (hO : OddP p) (hF : FacR (p - 1) F) (hk : F.length = k) (hS : 1 + sT Epi.T F ≤ Epi.T p) (hg : w.grownBy wr (some b)) (h : GaTo p wr b (n + 1) D F k D') : GaPost p w b n D (.returned (.tuple #[])) wr := by
  subst hk
  obtain ⟨g1, g2, g3, g4, g5⟩ := h
  rw [List.take_length] at g1
  refine ⟨rfl, hg, D', g1.mono (by omega), g2, fun _ => g3, fun q h => ?_⟩
  obtain ⟨a1, a2⟩ := g4 q h
  refine ⟨a1, ?_⟩
  rcases a2 with a2 | a2 | a2
  · exact .inl a2
  · subst a2
    refine .inr fun r h1 h2 h3 => ?_
    obtain ⟨x, hx, rfl⟩ := (hF.dvd h1).mp h2
    obtain ⟨j, hj, rfl⟩ := List.mem_iff_getElem.mp hx
    exact g5 j hj hj h3
  · exact .inr a2
set_option maxHeartbeats 1000000 in
set_option maxRecDepth 100000 in
theorem gather_any (p : Nat) (hp : p = 2 ∨ OddP p) : ∀ (b n : Nat) (D : DataW Value) (w : World), n + Epi.T p ≤ 100 → GM w b n D → (∀ q, has D (kU q) = true → EntIn w b D q) →
    Calls Tryz.prog 164 #[.map (some b), .int .u64 p] w (GaPost p w b n D) := by
  induction p using Nat.strongRecOn with
  | _ p ih =>
  intro b n D w hn hM hD
  have hpl : p < 18446744073709551616 := by
    rcases hp with h | h
    · omega
    · have := h.2.1; omega
  have HM := Lib.hid hM
  have hkey := keyU_mk hpl
  have HD := Lib.hid hD
  have HN := Lib.hid hn
  have HP := Lib.hid hp
  have IH := Lib.hid ih
  have HPL := Lib.hid hpl
  clear hp ih hn hD hM hpl
  have hlook := HM.out.look_ok keyU Tryz.underlying206 (zeroEnt w) (R := rdV) rfl hkey
  cases hhas : has D (kU p) with
  | true =>
    obtain ⟨v, ps, hrun, hv⟩ := hlook
    rw [hhas] at hrun
    obtain ⟨-, g, A, k, c, F, hat, -⟩ := HD.out p hhas
    rw [hat] at hv
    unfold rdV at hv
    obtain rfl : v = .agg #[.int .u64 p, .int .u64 (g : Nat), .slice A k c] := by
      have := congrArg Prod.fst (Option.some.inj hv)
      exact DataW.held.inj this
    have X : Hid (GaPost p w b n D (.returned (.tuple #[])) (w.alloc (.cells #[.int .u64 p, .int .u64 (g : Nat), .slice A k c] 158))) := Lib.hid ⟨rfl, World.grownBy_alloc w _ _, D, (HM.out.alloc _).mono (by omega), fun q h => h, fun _ => hhas, fun q h => ⟨(HD.out q h).grown HM.out (World.grownBy_alloc w _ _), .inl h⟩⟩
    clear hv hat hkey hhas
    go_enter Tryz.func164, Tryz.ntmps164
    go_wp2_with fail
    refine bodyPost_ret (results_none rfl _ _ _) rfl ?_
    exact X.out
  | false =>
    obtain ⟨v, ps, hrun, hv⟩ := hlook
    rw [hhas] at hrun
    rw [atKey_of_not_has hhas] at hv
    unfold rdV at hv
    obtain rfl : v = .agg #[.int .u64 0, .int .u64 0, .slice none 0 0] := DataW.held.inj (congrArg Prod.fst (Option.some.inj hv))
    clear hv
    by_cases hp2 : p = 2
    · have t1 : ((p : Int) == 2) = true := by rw [beq_iff_eq]; omega
      have X : Hid (GaPost p w b n D (.returned (.tuple #[])) (w.alloc (.cells #[.int .u64 0, .int .u64 0, .slice none 0 0] 158))) := Lib.hid ⟨rfl, World.grownBy_alloc w _ _, D, (HM.out.alloc _).mono (by omega), fun q h => h, fun h => absurd hp2 h, fun q h => ⟨(HD.out q h).grown HM.out (World.grownBy_alloc w _ _), .inl h⟩⟩
      clear hkey hhas hp2
      go_enter Tryz.func164, Tryz.ntmps164
      go_wp2_with fail
      refine bodyPost_ret (results_none rfl _ _ _) rfl ?_
      exact X.out
    have hO : OddP p := by
      rcases HP.out with h | h
      · exact absurd h hp2
      · exact h
    have HO := Lib.hid hO
    have t1 : ((p : Int) == 2) = false := by rw [beq_eq_false_iff_ne]; omega
    have hp3 := hO.1
    have hp4 := hO.2.1
    obtain ⟨p', ep'⟩ : ∃ p', p' + 1 = p := ⟨p - 1, by omega⟩
    have v1 : IntKind.u64.wrap ((p : Int) - 1) = (p' : Int) := (IntWalk.u64_in _ ⟨by omega, by omega⟩).trans (by omega)
    have EP := Lib.hid (show p - 1 = p' by omega)
    have CF := Lib.hid (fun W => factor_any p' W (by omega))
    have CG := Lib.hid (fun W => sgen_any p W HPL.out)
    have HP' : Hid (2 ≤ p' ∧ p' ≤ 4294967296) := Lib.hid ⟨by omega, by omega⟩
    have HH := Lib.hid hhas
    have HK := Lib.hid hkey
    have HB0 : Hid (∀ o : Obj, Below w.heap.size w (w.alloc o)) := Lib.hid fun o => (Below.refl _ _).alloc (Nat.le_refl _) _
    clear hkey hhas hp2 hp3 hp4 hO ep'
    go_enter Tryz.func164, Tryz.ntmps164
    go_wp2_with fail
    refine (CF.out _).mono ?_
    rintro e w2 ⟨hb, A, k, c, F, rfl, hR, -, hF32, hF⟩
    have hFR : FacR (p - 1) F := by
      rw [EP.out]
      rcases hF with h | h
      · exact h.2.2
      · exact absurd HP'.out h.1
    have HF := Lib.hid hFR
    have HR := Lib.hid hR
    have HB2 := Lib.hid (bl_trans (HB0.out _) hb)
    clear hb hF hFR hR t1
    go_wp2_with fail
    refine (CG.out _).mono ?_
    rintro e w3 ⟨⟨⟨g, hg, rfl⟩, -⟩ | ⟨h, -⟩, hb⟩
    case inr => exact absurd HO.out h
    have HB3 := Lib.hid (bl_trans HB2.out hb)
    have HR3 := Lib.hid (HR.out.below hb)
    have HM3 := Lib.hid (HM.out.kept (grown_below HB3.out none) (by simp))
    have HG := Lib.hid hg
    clear hb hg
    go_wp2_with (first | (at_mapUpdate; refine wpList_mapUpdate_own _ rfl _ _ _ 206 rfl 22 158 keyU Tryz.underlying206 rdV b n D rfl HM3.out (by unfold maxLen; have := HN.out; omega) _ _ (kU p) rfl rfl HK.out (.held (.agg #[.int .u64 p, .int .u64 (g : Nat), .slice A k c])) [] rfl ?_; intro w4 hM4 hg4))
    have EK : Hid (F.length = k) := Lib.hid (by
      obtain ⟨-, -, A', c', he, -, -⟩ := HR.out
      cases he
      rfl)
    have hS := T_step HO.out.2.2 (by have := HO.out.1; omega) HO.out.2.1 HF.out
    have HS := Lib.hid hS
    have HM4 := Lib.hid hM4
    have HG4 := Lib.hid hg4
    have hk32 : k ≤ 32 := by rw [← EK.out]; exact hF32
    have X0 : Hid (GaTo p w4 b (n + 1) D F 0 (D.put (kU p) (.held (.agg #[.int .u64 p, .int .u64 (g : Nat), .slice A k c])))) := Lib.hid (GaTo.zero HPL.out HO.out HG.out HF.out HM3.out HG4.out HM4.out (HR3.out.grown HM3.out HG4.out) HH.out (fun q h => (HD.out q h).grown HM.out (grown_below HB3.out (some b))))
    clear hM4 hg4 hS hF32
    go_loopw [32] (fun s32 wr => ∃ i : Nat, s32 = .int .i64 i ∧ i ≤ k ∧ ∃ D', Hid (w3.grownBy wr (some b) ∧ GaTo p wr b (n + 1) D F i D')) (fun s32 _ => k - (intOf s32).toNat)
    case atStart => exact ⟨0, rfl, Nat.zero_le _, _, Lib.hid ⟨HG4.out, X0.out⟩⟩
    case round =>
      obtain ⟨i, rfl, hi, D', hX⟩ := hrel
      by_cases hlt : i < k
      · have hj : i < F.length := by rw [EK.out]; exact hlt
        have hRr := HR3.out.grown HM3.out hX.out.1
        obtain ⟨-, -, A', c', he, -, hcell⟩ := hRr
        cases he
        obtain ⟨bb, o, rfl, hcl⟩ := hcell (by omega)
        obtain ⟨x0, x1⟩ := hcl i hj
        obtain ⟨q, eq⟩ : ∃ q, F[i].q = q := ⟨_, rfl⟩
        rw [eq] at x0
        have hq := (HF.out.1 _ (List.getElem_mem hj)).1
        have hqd : F[i].q ∣ p - 1 := (HF.out.dvd hq).mpr ⟨_, List.getElem_mem hj, rfl⟩
        obtain ⟨E, eE⟩ : ∃ E, F[i].e = E := ⟨_, rfl⟩
        have hqp : F[i].q < p := by
          have h1 := HO.out.1
          have := Nat.le_of_dvd (by omega) hqd
          omega
        have hqo : F[i].q = 2 ∨ OddP F[i].q := by
          by_cases h2 : F[i].q = 2
          · exact .inl h2
          · exact .inr ⟨by have := hq.1; omega, by have := HO.out.2.1; omega, hq⟩
        have hbound : n + 1 + sT Epi.T (F.take i) + Epi.T F[i].q ≤ 100 := by
          have h1 := sT_take_le (T := Epi.T) F (i + 1)
          rw [sT_take_succ hj] at h1
          have := HS.out
          have := HN.out
          omega
        have HA := Lib.hid (fun ob => World.grownBy_alloc wr ob (some b))
        have C := Lib.hid (fun ob => IH.out F[i].q hqp hqo b (n + 1 + sT Epi.T (F.take i)) D' (wr.alloc ob) hbound (hX.out.2.1.alloc ob) (fun q h => ((hX.out.2.2.2.2.1 q h).1).grown hX.out.2.1 (HA.out ob)))
        have ST := Lib.hid (fun ob e w5 (h : GaPost F[i].q (wr.alloc ob) b (n + 1 + sT Epi.T (F.take i)) D' e w5) => GaTo.step hj HPL.out hX.out.2 (HA.out ob) h)
        have HJ := Lib.hid hj
        simp only [eq] at C ST
        rw [eE] at x1
        clear hcl hq hqd eE hqp hqo hbound eq hj
        go_wp2_with fail
        refine (C.out _).mono ?_
        intro e w5 hG
        obtain rfl : e = .returned (.tuple #[]) := hG.1
        have Y := Lib.hid (ST.out _ _ _ hG)
        have hG5 := Lib.hid (((HA.out _).trans hG.2.1 : wr.grownBy w5 (some b)))
        clear hG
        go_wp2_with fail
        obtain ⟨D5, hD5⟩ := Y.out
        exact ⟨⟨i + 1, by go_num, by omega, D5, Lib.hid ⟨hX.out.1.trans hG5.out, hD5⟩⟩, by simp [intOf]; omega⟩
      · obtain rfl : i = k := by omega
        have Z : Hid (GaPost p w b n D (.returned (.tuple #[])) wr) := Lib.hid (GaTo.done HO.out HF.out EK.out HS.out ((grown_below HB3.out (some b)).trans hX.out.1) hX.out.2)
        go_wp2_with fail
        refine bodyPost_ret (results_none rfl _ _ _) rfl ?_
        exact Z.out
end Go.Proofs.YtbokindcnkknmaaGreat
