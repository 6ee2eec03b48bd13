/- The sieve. -/
import Derived.Test.YtbokindcnkknmaaGreatRr
import Derived.Test.YtbokindcnkknmaaGreatMs
import Derived.Maps.AppendAt
import Derived.Lib.Walk
import Derived.Lib.SliceRun
import Derived.BigQuiet
set_option linter.unusedVariables false
namespace Go.Proofs.YtbokindcnkknmaaGreat
open Go.RowKit Epi
theorem two_pow_le {F : List Pwr} (h : ∀ x ∈ F, 2 ≤ x.q ∧ 1 ≤ x.e) : 2 ^ F.length ≤ prodF F := by
  induction F with
  | nil => exact Nat.le_refl _
  | cons x F ih =>
    have h1 := ih fun y hy => h y (List.mem_cons_of_mem _ hy)
    obtain ⟨h2, h3⟩ := h x (List.mem_cons_self ..)
    show 2 ^ (F.length + 1) ≤ x.q ^ x.e.toNat * prodF F
    rw [Nat.pow_succ, Nat.mul_comm]
    refine Nat.mul_le_mul ?_ h1
    calc 2 = 2 ^ 1 := rfl
      _ ≤ x.q ^ 1 := Nat.pow_le_pow_left h2 1
      _ ≤ x.q ^ x.e.toNat := Nat.pow_le_pow_right (by omega) (by omega)
theorem pow_part {F : List Pwr} (h : ∀ x ∈ F, 0 < x.q) {x : Pwr} (hx : x ∈ F) : x.q ^ x.e.toNat ≤ prodF F := by
  obtain ⟨A, B, rfl⟩ := List.append_of_mem hx
  rw [prodF_append]
  show _ ≤ prodF A * (x.q ^ x.e.toNat * prodF B)
  have h1 : 0 < prodF A := prodF_pos fun y hy => h y (List.mem_append_left _ hy)
  have h2 : 0 < prodF B := prodF_pos fun y hy => h y (List.mem_append_right _ (List.mem_cons_of_mem _ hy))
  calc x.q ^ x.e.toNat = 1 * (x.q ^ x.e.toNat * 1) := by rw [Nat.mul_one, Nat.one_mul]
    _ ≤ prodF A * (x.q ^ x.e.toNat * prodF B) := Nat.mul_le_mul h1 (Nat.mul_le_mul_left _ h2)
theorem pw_small {F : List Pwr} {N : Nat} (h : ∀ x ∈ F, Pr x.q ∧ 1 ≤ x.e) (hp : prodF F ≤ N) (hN : N ≤ 4294967296) : F.length ≤ 32 ∧ ∀ x ∈ F, x.q ≤ N ∧ x.e ≤ 32 := by
  have e32 : (4294967296 : Nat) = 2 ^ 32 := rfl
  refine ⟨?_, fun x hx => ?_⟩
  · have h1 := two_pow_le (F := F) fun x hx => ⟨(h x hx).1.1, (h x hx).2⟩
    have h2 : 2 ^ F.length ≤ 2 ^ 32 := by rw [← e32]; omega
    exact (Nat.pow_le_pow_iff_right (by omega)).mp h2
  · have h1 := pow_part (F := F) (fun x hx => (h x hx).1.pos) hx
    obtain ⟨⟨h2, -⟩, h3⟩ := h x hx
    obtain ⟨k, hk⟩ : ∃ k, x.e.toNat = k + 1 := ⟨x.e.toNat - 1, by omega⟩
    constructor
    · have h4 : x.q ^ 1 ≤ x.q ^ x.e.toNat := Nat.pow_le_pow_right (by omega) (by omega)
      rw [Nat.pow_one] at h4
      omega
    · have h4 : 2 ^ x.e.toNat ≤ x.q ^ x.e.toNat := Nat.pow_le_pow_left h2 _
      have h5 : 2 ^ x.e.toNat ≤ 2 ^ 32 := by rw [← e32]; omega
      have := (Nat.pow_le_pow_iff_right (show 1 < 2 by omega)).mp h5
      omega
theorem FaTo.small {n d m : Nat} {F : List Pwr} (h : FaTo n d m F) (hn : n ≤ 4294967296) : F.length ≤ 32 ∧ ∀ x ∈ F, x.q ≤ n ∧ x.e ≤ 32 := by
  refine pw_small (fun x hx => ⟨(h.1 x hx).1, (h.1 x hx).2.1⟩) ?_ hn
  have h1 := h.2.2.1
  have h2 := h.2.2.2.2.1
  rw [← h1]
  exact Nat.le_mul_of_pos_right _ h2
theorem pw_ok {F : List Pwr} {N : Nat} (h : ∀ x ∈ F, Pr x.q ∧ 1 ≤ x.e) (h' : ∀ x ∈ F, x.q ≤ N ∧ x.e ≤ 32) (hN : N ≤ 4294967296) : ∀ x ∈ F, PwrOk x := fun x hx => ⟨by have := (h' x hx).1; omega, by have := (h x hx).2; omega, by have := (h' x hx).2; omega⟩
/-- The rest by trial: what is left of m, once a power is divided out. -/
def Div (m d e r : Nat) : Prop := m = d ^ e * r
theorem Div.zero (m d : Nat) : Div m d 0 m := by unfold Div; rw [Nat.pow_zero, Nat.one_mul]
theorem Div.step {m d e r : Nat} (h : Div m d e r) (hd : d ∣ r) (h0 : 0 < d) : Div m d (e + 1) (r / d) := by
  unfold Div at *
  obtain ⟨c, rfl⟩ := hd
  rw [Nat.mul_div_cancel_left _ h0, h, Nat.pow_succ, Nat.mul_assoc]
theorem Div.lt {m d e r : Nat} (h : Div m d e r) (hd : 2 ≤ d) (hm : 0 < m) (hM : m ≤ 4294967296) : 0 < r ∧ r ≤ m ∧ e ≤ 4294967296 := by
  unfold Div at h
  have h0 : 0 < r := by
    rcases Nat.eq_zero_or_pos r with h0 | h0
    · subst h0; omega
    · exact h0
  have h1 : 0 < d ^ e := Nat.pow_pos (by omega)
  refine ⟨h0, by rw [h]; exact Nat.le_mul_of_pos_left _ h1, ?_⟩
  have h2 : e < 2 ^ e := Nat.lt_two_pow_self
  have h3 : 2 ^ e ≤ d ^ e := Nat.pow_le_pow_left hd e
  have h4 : d ^ e ≤ m := by rw [h]; exact Nat.le_mul_of_pos_right _ h0
  omega
theorem fac_bound {m d dd d' r e : Nat} (hm : 1 < m) (hm3 : m ≤ 4294967296) (edd : d * d = dd) (hU : m < dd → Pr m ∧ d' = m) (hV : ¬ m < dd → d' = d) (hr : Div m d' e r) (hnd : ¬ d' ∣ r) : 1 < r → d' + 1 ≤ 65537 := by
  intro h1
  by_cases hc : m < dd
  · exfalso
    obtain ⟨-, rfl⟩ := hU hc
    unfold Div at hr
    rcases Nat.eq_zero_or_pos e with h0 | h0
    · subst h0
      rw [Nat.pow_zero, Nat.one_mul] at hr
      exact hnd ⟨1, by omega⟩
    · obtain ⟨k, rfl⟩ : ∃ k, e = k + 1 := ⟨e - 1, by omega⟩
      have h2 : 0 < d' ^ k := Nat.pow_pos (by omega)
      have h3 : d' * r ≤ d' ^ (k + 1) * r := by
        rw [Nat.pow_succ, Nat.mul_assoc]
        exact Nat.le_mul_of_pos_left _ h2
      have h4 : d' * 2 ≤ d' * r := Nat.mul_le_mul_left _ h1
      omega
  · have e1 := hV hc
    subst e1
    by_cases h2 : d' ≤ 65536
    · omega
    · have h3 : 65537 * 65537 ≤ d' * d' := Nat.mul_le_mul (by omega) (by omega)
      omega
theorem cells_new (w : World) (l : List Value) (T : TypeId) : ∀ (j : Nat) (u : Value), l[j]? = some u → (w.alloc (.cells l.toArray T)).cell? ((⟨w.heap.size, 0, none⟩ : Addr).add j) = some u := by
  intro j u h
  rw [Addr.add_lit, Nat.zero_add, World.cell?_alloc_at _ _ _ _ rfl, List.getElem?_toArray]
  exact h
/-- What Factor answers. -/
def FcPost (n : Nat) (w : World) (e : Ending) (w' : World) : Prop := Below w.heap.size w w' ∧ ∃ A k c F, e = .returned (.slice A k c) ∧ RdPw w' (.slice A k c) F ∧ (∀ g, (Value.slice A k c).ownBlock = some g → w.heap.size ≤ g) ∧ F.length ≤ 32 ∧
  ((2 ≤ n ∧ n ≤ 4294967296 ∧ FacR n F) ∨ (¬ (2 ≤ n ∧ n ≤ 4294967296) ∧ F = []))
theorem RdPw.nil' (w : World) : RdPw w (.slice none 0 0) [] := RdPw.of_own (base := 0) (e := 0) (World.ownsRow_nil w 0 0 2) (by simp) (fun x hx => (nomatch hx))
set_option maxHeartbeats 4000000 in
set_option maxRecDepth 100000 in
theorem factor_any (n : Nat) (w : World) (hn : n < 18446744073709551616) :
    Calls Tryz.prog 200 #[.int .u64 n] w (FcPost n w) := by
  by_cases h0 : 2 ≤ n ∧ n ≤ 4294967296
  case neg =>
    have H0 := Lib.hid h0
    by_cases h1 : n < 2
    · have t1 : decide ((n : Int) < 2) = true := by rw [decide_eq_true_eq]; omega
      clear h0 h1 hn
      go_enter Tryz.func200, Tryz.ntmps200
      go_wp2_with fail
      go_ret
      exact ⟨Below.refl _ _, none, 0, 0, [], rfl, RdPw.nil' _, fun g h => (nomatch h), by simp, .inr ⟨H0.out, rfl⟩⟩
    · have t1 : decide ((n : Int) < 2) = false := by rw [decide_eq_false_iff_not]; omega
      have t2 : decide ((4294967296 : Int) < n) = true := by rw [decide_eq_true_eq]; omega
      clear h0 h1 hn
      go_enter Tryz.func200, Tryz.ntmps200
      go_wp2_with fail
      go_ret
      exact ⟨Below.refl _ _, none, 0, 0, [], rfl, RdPw.nil' _, fun g h => (nomatch h), by simp, .inr ⟨H0.out, rfl⟩⟩
  obtain ⟨hn2, hn3⟩ := h0
  have t1 : decide ((n : Int) < 2) = false := by rw [decide_eq_false_iff_not]; omega
  have t2 : decide ((4294967296 : Int) < n) = false := by rw [decide_eq_false_iff_not]; omega
  have HN := Lib.hid (And.intro hn2 hn3)
  have S0 := Lib.hid (FaTo.zero hn2)
  obtain ⟨i0, z0, hi, hz0, hz1, hz2, hz3⟩ := infoPw
  have HI := Lib.hid (And.intro hi (And.intro hz0 (And.intro hz1 (And.intro hz2 hz3))))
  clear hn hn2 hn3 hi hz0 hz1 hz2 hz3
  go_enter Tryz.func200, Tryz.ntmps200
  go_wp2_with fail
  clear t1 t2
  go_loopw [0, 3, 4] (fun s0 s3 s4 wr => ∃ m d : Nat, ∃ F, s0 = .int .u64 m ∧ s4 = .int .u64 d ∧ Below w.heap.size w wr ∧ wr.ownsRow w.heap.size 168 2 s3 F.length (pwCells F) ∧ Hid (FaTo n d m F) ∧ Hid ((1 < m → d ≤ 65537) ∧ d ≤ 4294967297)) (fun s0 _ s4 _ => (intOf s0).toNat + (8589934592 - (intOf s4).toNat))
  case atStart => exact ⟨n, 2, [], rfl, rfl, Below.refl _ _, World.ownsRow_nil _ _ _ _, S0, Lib.hid ⟨fun _ => by omega, by omega⟩⟩
  case round =>
    obtain ⟨m, d, F, rfl, rfl, hB, hO, hT, hD⟩ := hrel
    by_cases hm : 1 < m
    · have t3 : decide ((1 : Int) < m) = true := by rw [decide_eq_true_eq]; omega
      have hd := hD.out.1 hm
      have hd2 := hT.out.2.2.2.2.2
      have hmn := hT.out.le
      have hm3 : m ≤ 4294967296 := Nat.le_trans hmn HN.out.2
      obtain ⟨dd, edd⟩ : ∃ dd, d * d = dd := ⟨_, rfl⟩
      have hdd : dd ≤ 65537 * 65537 := edd ▸ Nat.mul_le_mul hd hd
      have k1 : (d : Int) * d = (dd : Int) := by rw [← edd]; exact (Int.natCast_mul _ _).symm
      have k2 : IntKind.u64.wrap (dd : Int) = (dd : Int) := IntWalk.u64_in _ ⟨by omega, by omega⟩
      obtain ⟨d', ed'⟩ : ∃ d', d' = if m < d * d then m else d := ⟨_, rfl⟩
      obtain ⟨hT', hdd'⟩ := FaTo.up hT.out hm ed'
      have HT := Lib.hid hT'
      have hd'3 : d' ≤ 4294967296 := by
        rw [ed']
        by_cases hc : m < d * d
        · rw [if_pos hc]; omega
        · rw [if_neg hc]; omega
      have HU : Hid (m < dd → Pr m ∧ d' = m) := Lib.hid fun h => ⟨hT.out.prime hm (edd.symm ▸ h), by rw [ed', if_pos (edd.symm ▸ h)]⟩
      have HV : Hid (¬ m < dd → d' = d) := Lib.hid fun h => by rw [ed', if_neg (edd.symm ▸ h)]
      have HE := Lib.hid edd
      clear ed' edd hdd hT'
      go_upto_if 20 with fail
      go_cut [4] (fun s4 wc => s4 = .int .u64 d' ∧ wc = wr)
      case first =>
        by_cases hc : m < dd
        · have u1 : decide (m < dd) = true := by rw [decide_eq_true_eq]; exact hc
          have e1 := (HU.out hc).2
          subst e1
          go_wp2_with fail
          go_meet
          exact ⟨rfl, rfl⟩
        · have u1 : decide (m < dd) = false := by rw [decide_eq_false_iff_not]; exact hc
          have e1 := HV.out hc
          subst e1
          go_wp2_with fail
          go_meet
          exact ⟨rfl, rfl⟩
      case rest =>
        obtain ⟨rfl, rfl⟩ := hcut
        have hd'2 : 2 ≤ d' := by omega
        have HD := Lib.hid (And.intro hd (And.intro hm hm3))
        clear k1 k2 hd hT hD t3 hm
        go_wp2_with fail
        go_loopw [0, 5] (fun s0 s5 wi => ∃ r e : Nat, s0 = .int .u64 r ∧ s5 = .int .i64 e ∧ wi = wc ∧ Hid (Div m d' e r)) (fun s0 _ _ => (intOf s0).toNat)
        case atStart => exact ⟨m, 0, rfl, rfl, rfl, Lib.hid (Div.zero m d')⟩
        case round =>
          obtain ⟨r, e, rfl, rfl, rfl, hr⟩ := hrel
          obtain ⟨hr0, hrm, he⟩ := Div.lt hr.out hd'2 (by have := HD.out.2.1; omega) hm3
          obtain ⟨z, ez⟩ : ∃ z, r % d' = z := ⟨_, rfl⟩
          have k1 : (r : Int) % d' = (z : Int) := by rw [← ez]; exact (Int.natCast_emod _ _).symm
          have k0 : ((d' : Int) == 0) = false := by rw [beq_eq_false_iff_ne]; omega
          have k4 : ¬ d' = 0 := by omega
          by_cases hz : z = 0
          · have t4 : ((z : Int) == 0) = true := by rw [beq_iff_eq]; omega
            obtain ⟨r', er'⟩ : ∃ r', r / d' = r' := ⟨_, rfl⟩
            have k2 : (r : Int) / d' = (r' : Int) := by rw [← er']; exact (Int.natCast_ediv _ _).symm
            have hlt : r' < r := er' ▸ Nat.div_lt_self hr0 (by omega)
            have k3 : IntKind.u64.wrap (r' : Int) = (r' : Int) := IntWalk.u64_in _ ⟨by omega, by omega⟩
            have X := Lib.hid (Div.step hr.out (Nat.dvd_of_mod_eq_zero (ez.trans hz)) (by omega))
            rw [er'] at X
            clear ez er' hz
            go_wp2_with fail
            exact ⟨⟨r', e + 1, rfl, by go_num, trivial, X⟩, by simp [intOf]; omega⟩
          · have t4 : ((z : Int) == 0) = false := by rw [beq_eq_false_iff_ne]; omega
            have hnd : ¬ d' ∣ r := fun h => hz (ez.symm.trans (Nat.mod_eq_zero_of_dvd h))
            have HB := Lib.hid (fac_bound HD.out.2.1 HD.out.2.2 HE.out HU.out HV.out hr.out hnd)
            by_cases he0 : 0 < e
            · have t5 : decide (0 < e) = true := by rw [decide_eq_true_eq]; exact he0
              have X := Lib.hid (FaTo.add HT.out he0 hr.out hnd).1
              clear ez hz hnd he0
              have S := Lib.hid (FaTo.small HT.out HN.out.2)
              obtain ⟨hi, hz0, hz1, hz2, hz3⟩ := HI.out
              have hFl := S.out.1
              have hbase := hB.size
              obtain ⟨nl, enl⟩ : ∃ nl, F.length = nl := ⟨_, rfl⟩
              obtain ⟨cs, ecs⟩ : ∃ cs, pwCells F = cs := ⟨_, rfl⟩
              have ENL := Lib.hid (And.intro enl ecs)
              rw [enl, ecs] at hO
              rw [enl] at hFl
              clear enl ecs
              go_wp2_with (at_builtin; refine wpList_append_own _ rfl _ _ 156 rfl w.heap.size 168 i0 z0 2 16 Tryz.underlying156 hi hz0 hz1 hz2 hz3 (by decide) _ _ _ rfl (hO.alloc _) _ 1 1 [.int .u64 d', .int .i64 e] rfl ?qc1 ?qc2 ?qc3 ?qc4 ?qc5 ?qc6 ?_)
              case qc1 => rfl
              case qc2 => exact cells_new _ _ _
              case qc3 =>
                intro u hu
                rcases List.mem_cons.mp hu with rfl | hu
                · rfl
                · rcases List.mem_cons.mp hu with rfl | hu
                  · rfl
                  · cases hu
              case qc4 => unfold maxLen; omega
              case qc5 => omega
              case qc6 => simp; omega
              intro v' w1 hown hgrow _
              have hB1 : Below w.heap.size w w1 := (hB.alloc hB.size _).grown hgrow (by simp; omega) (fun k hk => (hO.lt k hk).1)
              have hO1 : w1.ownsRow w.heap.size 168 2 v' (F ++ [(⟨d', (e : Int)⟩ : Pwr)]).length (pwCells (F ++ [(⟨d', (e : Int)⟩ : Pwr)])) := by
                rw [List.length_append, pwCells_append, ENL.out.1, ENL.out.2]
                exact hown
              have HB1 := Lib.hid hB1
              have HO1 := Lib.hid hO1
              clear hO hown hgrow hB1 hO1 hi hz0 hz1 hz2 hz3
              go_wp2_with fail
              exact ⟨⟨r, d' + 1, F ++ [⟨d', (e : Int)⟩], rfl, by go_num, HB1.out, HO1.out, X, Lib.hid ⟨HB.out, by omega⟩⟩, by simp [intOf]; omega⟩
            · have t5 : decide (0 < e) = false := by rw [decide_eq_false_iff_not]; exact he0
              have X : Hid (FaTo n (d' + 1) r F) := Lib.hid (by
                have e0 : e = 0 := by omega
                subst e0
                have e1 : m = r := by have := hr.out; unfold Div at this; rw [Nat.pow_zero, Nat.one_mul] at this; exact this
                subst e1
                exact FaTo.skip HT.out hnd)
              clear ez hz hnd he0
              go_wp2_with fail
              exact ⟨⟨r, d' + 1, F, rfl, by go_num, hB, hO, X, Lib.hid ⟨HB.out, by omega⟩⟩, by simp [intOf]; omega⟩
    · have t3 : decide ((1 : Int) < m) = false := by rw [decide_eq_false_iff_not]; omega
      have X := Lib.hid (hT.out.done hm)
      have S := Lib.hid (FaTo.small hT.out HN.out.2)
      have hR := RdPw.of_own hO (by have := S.out.1; omega) (pw_ok (fun x hx => X.out.1 x hx) S.out.2 HN.out.2)
      have hL := fun g h => (hO.lt g h).1
      obtain ⟨A, k, c, rfl⟩ := hR.shape
      have HR := Lib.hid hR
      have HL := Lib.hid hL
      clear hR hL hO
      go_wp2_with fail
      go_ret
      exact ⟨hB, A, k, c, F, rfl, HR.out, HL.out, S.out.1, .inl ⟨HN.out.1, HN.out.2, X.out⟩⟩
def SmP (n : Nat) : Prop := Pr n ∧ n ≤ 4294967296
theorem SmP.iff {n : Nat} {F : List Pwr} (h : (2 ≤ n ∧ n ≤ 4294967296 ∧ FacR n F) ∨ (¬ (2 ≤ n ∧ n ≤ 4294967296) ∧ F = [])) : SmP n ↔ ∃ h : F.length = 1, F[0].e = 1 := by
  rcases h with ⟨h1, h2, h3⟩ | ⟨h1, rfl⟩
  · rw [← h3.prime h1]
    exact ⟨fun h => h.1, fun h => ⟨h, h2⟩⟩
  · constructor
    · exact fun h => absurd ⟨h.1.1, h.2⟩ h1
    · rintro ⟨h, -⟩
      cases h
set_option maxHeartbeats 1000000 in
theorem sprime_any (n : Nat) (w : World) (hn : n < 18446744073709551616) :
    Calls Tryz.prog 174 #[.int .u64 n] w fun e w' => e = .returned (.bool (bOf (SmP n))) ∧ Below w.heap.size w w' := by
  have CF := Lib.hid (factor_any n w hn)
  clear hn
  go_enter Tryz.func174, Tryz.ntmps174
  go_wp2_with fail
  refine (CF.out).mono ?_
  rintro e w1 ⟨hB, A, k, c, F, rfl, hR, -, -, hF⟩
  have HX := Lib.hid (SmP.iff hF)
  obtain ⟨-, -, A', c', he, -, hcell⟩ := hR
  cases he
  have HC := Lib.hid hcell
  obtain ⟨k, ek⟩ : ∃ k, F.length = k := ⟨_, rfl⟩
  rw [ek]
  clear hF hcell
  by_cases h1 : k = 1
  · subst h1
    obtain ⟨b, o, rfl, hcl⟩ := HC.out (by omega)
    have hj : 0 < F.length := by omega
    obtain ⟨-, x1⟩ := hcl 0 hj
    obtain ⟨E, eE⟩ : ∃ E, F[0].e = E := ⟨_, rfl⟩
    rw [eE, Nat.zero_mul, Nat.add_zero] at x1
    have X : Hid ((E == 1) = bOf (SmP n)) := Lib.hid (by
      by_cases h : E = 1
      · rw [bOf_true (HX.out.mpr ⟨ek, eE.trans h⟩), beq_iff_eq]
        exact h
      · rw [bOf_false fun h' => by
          obtain ⟨h2, h3⟩ := HX.out.mp h'
          exact h (eE.symm.trans h3), beq_eq_false_iff_ne]
        exact h)
    clear hcl ek eE hj
    go_wp2_with fail
    go_ret
    exact ⟨ret_bool X.out, hB⟩
  · have t1 : ((k : Int) == 1) = false := by rw [beq_eq_false_iff_ne]; omega
    have X := Lib.hid (bOf_false (p := SmP n) fun h => by
      obtain ⟨h2, -⟩ := HX.out.mp h
      omega)
    clear ek h1
    go_wp2_with fail
    go_ret
    exact ⟨ret_bool X.out.symm, hB⟩
def OddP (p : Nat) : Prop := 2 < p ∧ p ≤ 65536 ∧ Pr p
set_option maxHeartbeats 1000000 in
theorem sodd_any (n : Nat) (w : World) (hn : n < 18446744073709551616) :
    Calls Tryz.prog 163 #[.int .u64 n] w fun e w' => e = .returned (.bool (bOf (OddP n))) ∧ Below w.heap.size w w' := by
  have CF := Lib.hid (sprime_any n w hn)
  clear hn
  by_cases h1 : 2 < n
  case neg =>
    have t1 : decide ((2 : Int) < n) = false := by rw [decide_eq_false_iff_not]; omega
    have X := Lib.hid (bOf_false (p := OddP n) fun h => h1 h.1)
    clear h1
    go_enter Tryz.func163, Tryz.ntmps163
    go_wp2_with fail
    go_ret
    exact ⟨ret_bool X.out.symm, Below.refl _ _⟩
  have t1 : decide ((2 : Int) < n) = true := by rw [decide_eq_true_eq]; omega
  by_cases h2 : n ≤ 65536
  case neg =>
    have t2 : decide ((n : Int) ≤ 65536) = false := by rw [decide_eq_false_iff_not]; omega
    have X := Lib.hid (bOf_false (p := OddP n) fun h => h2 h.2.1)
    clear h1 h2
    go_enter Tryz.func163, Tryz.ntmps163
    go_wp2_with fail
    go_ret
    exact ⟨ret_bool X.out.symm, Below.refl _ _⟩
  have t2 : decide ((n : Int) ≤ 65536) = true := by rw [decide_eq_true_eq]; omega
  have X := Lib.hid (bOf_congr (show SmP n ↔ OddP n from ⟨fun h => ⟨h1, h2, h.1⟩, fun h => ⟨h.2.2, by omega⟩⟩))
  clear h1 h2
  go_enter Tryz.func163, Tryz.ntmps163
  go_wp2_with fail
  refine (CF.out).mono ?_
  rintro e w1 ⟨rfl, hB⟩
  go_wp2_with fail
  go_ret
  exact ⟨ret_bool X.out, hB⟩
theorem pr_iff {n : Nat} (hn : 2 ≤ n) : Pr n ↔ ∀ d, 2 ≤ d → d * d ≤ n → ¬ d ∣ n := by
  constructor
  · intro h d h1 h2 h3
    rcases h.2 d h3 with e | e
    · omega
    · subst e
      have : d * 2 ≤ d * d := Nat.mul_le_mul_left _ h1
      omega
  · intro h
    obtain ⟨q, hq, c, hc⟩ := exists_prime hn
    by_cases h1 : q * q ≤ n
    · exact absurd ⟨c, hc⟩ (h q hq.1 h1)
    · have hcq : c < q := by
        apply Nat.lt_of_not_le
        intro hle
        have : q * q ≤ q * c := Nat.mul_le_mul_left _ hle
        omega
      have hc0 : 0 < c := by
        rcases Nat.eq_zero_or_pos c with h0 | h0
        · subst h0; omega
        · exact h0
      by_cases hc1 : c = 1
      · subst hc1
        rw [Nat.mul_one] at hc
        exact hc ▸ hq
      · have h2 : c * c ≤ q * c := Nat.mul_le_mul_right _ (by omega)
        exact absurd ⟨q, by rw [hc, Nat.mul_comm]⟩ (h c (by omega) (by omega))
def NoD (n d : Nat) : Prop := ∀ k, 2 ≤ k → k < d → ¬ k ∣ n
set_option maxHeartbeats 1000000 in
theorem rprime_any (n : Nat) (w : World) (hn : n < 18446744073709551616) :
    Calls Tryz.prog 167 #[.int .u64 n] w fun e w' => e = .returned (.bool (bOf (SmP n))) ∧ w = w' := by
  by_cases h1 : n < 2
  · have t1 : decide ((n : Int) < 2) = true := by rw [decide_eq_true_eq]; omega
    have X := Lib.hid (bOf_false (p := SmP n) fun h => by have := h.1.1; omega)
    clear h1 hn
    go_enter Tryz.func167, Tryz.ntmps167
    go_wp2_with fail
    go_ret
    exact ⟨ret_bool X.out.symm, rfl⟩
  have t1 : decide ((n : Int) < 2) = false := by rw [decide_eq_false_iff_not]; omega
  by_cases h2 : 4294967296 < n
  · have t2 : decide ((4294967296 : Int) < n) = true := by rw [decide_eq_true_eq]; omega
    have X := Lib.hid (bOf_false (p := SmP n) fun h => by have := h.2; omega)
    clear h1 h2 hn
    go_enter Tryz.func167, Tryz.ntmps167
    go_wp2_with fail
    go_ret
    exact ⟨ret_bool X.out.symm, rfl⟩
  have t2 : decide ((4294967296 : Int) < n) = false := by rw [decide_eq_false_iff_not]; omega
  have HN : Hid (2 ≤ n ∧ n ≤ 4294967296) := Lib.hid ⟨by omega, by omega⟩
  clear h1 h2 hn
  go_enter Tryz.func167, Tryz.ntmps167
  go_wp2_with fail
  clear t1 t2
  go_loopw [3] (fun s3 wr => ∃ d : Nat, s3 = .int .u64 d ∧ wr = w ∧ 2 ≤ d ∧ d ≤ 65537 ∧ Hid (NoD n d)) (fun s3 _ => 65540 - (intOf s3).toNat)
  case atStart => exact ⟨2, rfl, rfl, Nat.le_refl _, by omega, Lib.hid fun k h1 h2 => absurd h1 (by omega)⟩
  case round =>
    obtain ⟨d, rfl, rfl, hd2, hd, hN⟩ := hrel
    obtain ⟨dd, edd⟩ : ∃ dd, d * d = dd := ⟨_, rfl⟩
    have hdd : dd ≤ 65537 * 65537 := edd ▸ Nat.mul_le_mul hd hd
    have k1 : (d : Int) * d = (dd : Int) := by rw [← edd]; exact (Int.natCast_mul _ _).symm
    have k2 : IntKind.u64.wrap (dd : Int) = (dd : Int) := IntWalk.u64_in _ ⟨by omega, by omega⟩
    by_cases hc : dd ≤ n
    · have t3 : decide (dd ≤ n) = true := by rw [decide_eq_true_eq]; exact hc
      have hd3 : d ≤ 65536 := by
        apply Nat.le_of_not_lt
        intro h
        have h1 : 65537 * 65537 ≤ d * d := Nat.mul_le_mul h h
        have := HN.out.2
        omega
      obtain ⟨z, ez⟩ : ∃ z, n % d = z := ⟨_, rfl⟩
      have k3 : (n : Int) % d = (z : Int) := by rw [← ez]; exact (Int.natCast_emod _ _).symm
      have k0 : ((d : Int) == 0) = false := by rw [beq_eq_false_iff_ne]; omega
      have k4 : ¬ d = 0 := by omega
      by_cases hz : z = 0
      · have t4 : ((z : Int) == 0) = true := by rw [beq_iff_eq]; omega
        have X := Lib.hid (bOf_false (p := SmP n) fun h => (pr_iff HN.out.1).mp h.1 d hd2 (by omega) (Nat.dvd_of_mod_eq_zero (ez.trans hz)))
        clear ez hz hc edd hdd
        go_wp2_with fail
        go_ret
        exact ⟨ret_bool X.out.symm, rfl⟩
      · have t4 : ((z : Int) == 0) = false := by rw [beq_eq_false_iff_ne]; omega
        have X : Hid (NoD n (d + 1)) := Lib.hid fun k h1 h2 h3 => by
          by_cases e : k = d
          · subst e
            exact hz (ez.symm.trans (Nat.mod_eq_zero_of_dvd h3))
          · exact hN.out k h1 (by omega) h3
        clear ez hz hc edd hdd
        go_wp2_with fail
        exact ⟨⟨d + 1, by go_num, trivial, by omega, by omega, X⟩, by simp [intOf]; omega⟩
    · have t3 : decide (dd ≤ n) = false := by rw [decide_eq_false_iff_not]; exact hc
      have X := Lib.hid (bOf_true (p := SmP n) ⟨(pr_iff HN.out.1).mpr fun k h1 h2 => hN.out k h1 (by
        apply Nat.lt_of_not_le
        intro h
        have : d * d ≤ k * k := Nat.mul_le_mul h h
        omega), HN.out.2⟩)
      clear hc edd hdd
      go_wp2_with fail
      go_ret
      exact ⟨ret_bool X.out.symm, rfl⟩
set_option maxHeartbeats 1000000 in
theorem rodd_any (n : Nat) (w : World) (hn : n < 18446744073709551616) :
    Calls Tryz.prog 98 #[.int .u64 n] w fun e w' => e = .returned (.bool (bOf (OddP n))) ∧ w = w' := by
  have CF := Lib.hid (rprime_any n w hn)
  clear hn
  by_cases h1 : 2 < n
  case neg =>
    have t1 : decide ((2 : Int) < n) = false := by rw [decide_eq_false_iff_not]; omega
    have X := Lib.hid (bOf_false (p := OddP n) fun h => h1 h.1)
    clear h1
    go_enter Tryz.func98, Tryz.ntmps98
    go_wp2_with fail
    go_ret
    exact ⟨ret_bool X.out.symm, rfl⟩
  have t1 : decide ((2 : Int) < n) = true := by rw [decide_eq_true_eq]; omega
  by_cases h2 : n ≤ 65536
  case neg =>
    have t2 : decide ((n : Int) ≤ 65536) = false := by rw [decide_eq_false_iff_not]; omega
    have X := Lib.hid (bOf_false (p := OddP n) fun h => h2 h.2.1)
    clear h1 h2
    go_enter Tryz.func98, Tryz.ntmps98
    go_wp2_with fail
    go_ret
    exact ⟨ret_bool X.out.symm, rfl⟩
  have t2 : decide ((n : Int) ≤ 65536) = true := by rw [decide_eq_true_eq]; omega
  have X := Lib.hid (bOf_congr (show SmP n ↔ OddP n from ⟨fun h => ⟨h1, h2, h.1⟩, fun h => ⟨h.2.2, by omega⟩⟩))
  clear h1 h2
  go_enter Tryz.func98, Tryz.ntmps98
  go_wp2_with fail
  refine (CF.out).mono ?_
  rintro e w1 ⟨rfl, rfl⟩
  go_wp2_with fail
  go_ret
  exact ⟨ret_bool X.out, rfl⟩
theorem OddP.ord {p g : Nat} (h : OddP p) (h1 : 0 < g) (h2 : g < p) : ∃ n, Ord p g n := by
  refine exists_ord (k := p - 1) (by have := h.1; omega) (Epi.fermat h.2.2 ?_)
  rw [nat_cg_zero]
  intro hd
  have := Nat.le_of_dvd h1 hd
  omega
theorem fpow_ord {p g n k : Nat} (hp : 1 < p) (h : Ord p g n) : fpow p g k = 1 ↔ n ∣ k := by
  rw [fpow_one_iff hp]
  exact h.2 k
set_option maxHeartbeats 1000000 in
theorem rorder_any (p g n : Nat) (w : World) (hp : OddP p) (h1 : 0 < g) (h2 : g < p) (hn : Ord p g n) :
    Calls Tryz.prog 168 #[.int .u64 g, .int .u64 p] w fun e w' => e = .returned (.int .u64 n) ∧ w = w' := by
  have HN := Lib.hid hn
  have HP := Lib.hid hp
  have hn0 := hn.1
  have hp3 := hp.1
  have hp4 := hp.2.1
  have hn4 : n ≤ p - 1 := by
    have h3 := (hn.2 (p - 1)).mp (fermat hp.2.2 (by
      rw [nat_cg_zero]
      intro hd
      have := Nat.le_of_dvd h1 hd
      omega))
    exact Nat.le_of_dvd (by omega) h3
  have k1 : (g : Int) % p = (g : Int) := Int.emod_eq_of_lt (by omega) (by omega)
  have K1 := Lib.hid k1
  have k0 : ((p : Int) == 0) = false := by rw [beq_eq_false_iff_ne]; omega
  have k4 : ¬ p = 0 := by omega
  have X0 : Hid (g = fpow p g 1 ∧ ∀ j, 0 < j → j < 1 → ¬ n ∣ j) := Lib.hid ⟨by unfold fpow; rw [Nat.pow_one, Nat.mod_eq_of_lt h2], fun j h h' => absurd h (by omega)⟩
  clear hn hp
  go_enter Tryz.func168, Tryz.ntmps168
  go_wp2_with fail
  clear k1
  go_loopw [5, 6] (fun s5 s6 wr => ∃ k x : Nat, s5 = .int .u64 k ∧ s6 = .int .u64 x ∧ wr = w ∧ 0 < k ∧ k ≤ n ∧ Hid (x = fpow p g k ∧ ∀ j, 0 < j → j < k → ¬ n ∣ j)) (fun s5 _ _ => n - (intOf s5).toNat)
  case atStart => exact ⟨1, g, rfl, congrArg (Value.int .u64) K1.out, rfl, by omega, hn0, X0⟩
  case round =>
    obtain ⟨k, x, rfl, rfl, rfl, hk0, hk, hX⟩ := hrel
    by_cases hx : x = 1
    · have t1 : ((x : Int) != 1) = false := by rw [bne_eq_false_iff_eq]; omega
      have hd : n ∣ k := (fpow_ord (by omega) HN.out).mp (hX.out.1.symm.trans hx)
      have e1 : k = n := Nat.le_antisymm hk (Nat.le_of_dvd hk0 hd)
      subst e1
      clear hx hd
      go_wp2_with fail
      go_ret
      exact ⟨rfl, rfl⟩
    · have t1 : ((x : Int) != 1) = true := by rw [bne_iff_ne]; omega
      have hd : ¬ n ∣ k := fun h => hx (hX.out.1.trans ((fpow_ord (by omega) HN.out).mpr h))
      have hkn : k < n := by
        rcases Nat.lt_or_eq_of_le hk with h | h
        · exact h
        · exact absurd ⟨1, by omega⟩ hd
      have hxp : x < p := by
        rw [hX.out.1]
        exact Nat.mod_lt _ (by omega)
      obtain ⟨y, ey⟩ : ∃ y, x * g = y := ⟨_, rfl⟩
      have hy : y ≤ 65536 * 65536 := ey ▸ Nat.mul_le_mul (by omega) (by omega)
      have m1 : (x : Int) * g = (y : Int) := by rw [← ey]; exact (Int.natCast_mul _ _).symm
      have m2 : IntKind.u64.wrap (y : Int) = (y : Int) := IntWalk.u64_in _ ⟨by omega, by omega⟩
      obtain ⟨z, ez⟩ : ∃ z, y % p = z := ⟨_, rfl⟩
      have m3 : (y : Int) % p = (z : Int) := by rw [← ez]; exact (Int.natCast_emod _ _).symm
      have M3 := Lib.hid m3
      have X : Hid (z = fpow p g (k + 1) ∧ ∀ j, 0 < j → j < k + 1 → ¬ n ∣ j) := Lib.hid ⟨by
        rw [← ez, ← ey, hX.out.1]
        unfold fpow
        rw [Nat.pow_succ, Nat.mod_mul_mod], fun j h h' h3 => by
        by_cases e : j = k
        · subst e
          exact hd h3
        · exact hX.out.2 j h (by omega) h3⟩
      clear hx hd hxp ey ez hy
      go_wp2_with fail
      exact ⟨⟨k + 1, z, by go_num, congrArg (Value.int .u64) M3.out, trivial, by omega, by omega, X⟩, by simp [intOf]; omega⟩
/-- The least number whose powers are all. -/
def GenOf (p g : Nat) : Prop := 2 ≤ g ∧ g < p ∧ Ord p g (p - 1) ∧ ∀ h, 2 ≤ h → h < g → ¬ Ord p (h : Int) (p - 1)
theorem GenOf.uniq {p g g' : Nat} (h : GenOf p g) (h' : GenOf p g') : g = g' := by
  rcases Nat.lt_trichotomy g g' with h1 | h1 | h1
  · exact absurd h.2.2.1 (h'.2.2.2 g h.1 h1)
  · exact h1
  · exact absurd h'.2.2.1 (h.2.2.2 g' h'.1 h1)
theorem OddP.gen {p : Nat} (h : OddP p) : ∃ g, 2 ≤ g ∧ g < p ∧ Ord p (g : Int) (p - 1) := by
  obtain ⟨g, h1, h2, h3⟩ := exists_generator h.2.2
  refine ⟨g, ?_, h2, h3⟩
  apply Nat.le_of_not_lt
  intro h4
  have e : g = 1 := by omega
  subst e
  have h5 := (h3.2 1).mp (by
    have e : (((1 : Nat) : Int) ^ 1) = 1 := rfl
    rw [e]
    exact Cg.refl _)
  have h6 := Nat.le_of_dvd (by omega) h5
  have := h.1
  omega
def GnPost (p : Nat) (e : Ending) : Prop := (∃ g : Nat, GenOf p g ∧ e = .returned (.int .u64 g)) ∧ OddP p ∨ ¬ OddP p ∧ e = .returned (.int .u64 0)
set_option maxHeartbeats 1000000 in
theorem rgen_any (p : Nat) (w : World) (hp : p < 18446744073709551616) :
    Calls Tryz.prog 99 #[.int .u64 p] w fun e w' => GnPost p e ∧ w = w' := by
  have CO := Lib.hid (rodd_any p w hp)
  by_cases h0 : OddP p
  case neg =>
    have H0 := Lib.hid h0
    have X := Lib.hid (bOf_false h0)
    simp only [X.out] at CO
    clear h0 hp
    go_enter Tryz.func99, Tryz.ntmps99
    go_wp2_with fail
    refine (CO.out).mono ?_
    rintro e w1 ⟨rfl, rfl⟩
    go_wp2_with fail
    go_ret
    exact ⟨.inr ⟨H0.out, rfl⟩, rfl⟩
  have H0 := Lib.hid h0
  have X := Lib.hid (bOf_true h0)
  simp only [X.out] at CO
  have hp3 := h0.1
  have hp4 := h0.2.1
  obtain ⟨G, hG1, hG2, hG3⟩ := OddP.gen h0
  have HG := Lib.hid hG3
  have CR := Lib.hid (fun (g n : Nat) W h1 h2 hn => rorder_any p g n W h0 h1 h2 hn)
  obtain ⟨p', ep'⟩ : ∃ p', p' + 1 = p := ⟨p - 1, by omega⟩
  have v1 : IntKind.u64.wrap ((p : Int) - 1) = (p' : Int) := (IntWalk.u64_in _ ⟨by omega, by omega⟩).trans (by omega)
  have EP := Lib.hid (show p - 1 = p' by omega)
  clear h0 hG3 ep'
  go_enter Tryz.func99, Tryz.ntmps99
  go_wp2_with fail
  refine (CO.out).mono ?_
  rintro e w1 ⟨rfl, rfl⟩
  go_wp2_with fail
  go_loopw [3] (fun s3 wr => ∃ g : Nat, s3 = .int .u64 g ∧ wr = w ∧ 2 ≤ g ∧ g ≤ p ∧ Hid (∀ h, 2 ≤ h → h < g → ¬ Ord p (h : Int) (p - 1))) (fun s3 _ => 65540 - (intOf s3).toNat)
  case atStart => exact ⟨2, rfl, rfl, Nat.le_refl _, by omega, Lib.hid fun k h1 h2 => absurd h1 (by omega)⟩
  case round =>
    obtain ⟨g, rfl, rfl, hg2, hgp, hN⟩ := hrel
    by_cases hc : g < p
    · have t1 : decide (g < p) = true := by rw [decide_eq_true_eq]; exact hc
      obtain ⟨n, hn⟩ := OddP.ord H0.out (show 0 < g by omega) hc
      have C := Lib.hid (fun W => CR.out g n W (by omega) hc hn)
      by_cases hnp : n = p'
      · have t2 : ((n : Int) == p') = true := by rw [beq_iff_eq]; omega
        have Z : Hid (GenOf p g) := Lib.hid ⟨hg2, hc, by rw [EP.out, ← hnp]; exact hn, hN.out⟩
        clear hc hn hnp
        go_wp2_with fail
        refine (C.out _).mono ?_
        rintro e w1 ⟨rfl, rfl⟩
        go_wp2_with fail
        go_ret
        exact ⟨.inl ⟨⟨g, Z.out, rfl⟩, H0.out⟩, rfl⟩
      · have t2 : ((n : Int) == p') = false := by rw [beq_eq_false_iff_ne]; omega
        have Z : Hid (∀ h, 2 ≤ h → h < g + 1 → ¬ Ord p (h : Int) (p - 1)) := Lib.hid fun h h1 h2 h3 => by
          by_cases e : h = g
          · subst e
            rw [EP.out] at h3
            exact hnp (Nat.dvd_antisymm ((hn.2 _).mp h3.pow_eq) ((h3.2 _).mp hn.pow_eq))
          · exact hN.out h h1 (by omega) h3
        clear hn hnp
        go_wp2_with fail
        refine (C.out _).mono ?_
        rintro e w1 ⟨rfl, rfl⟩
        go_wp2_with fail
        exact ⟨⟨g + 1, by go_num, trivial, by omega, by omega, Z⟩, by simp [intOf]; omega⟩
    · exact absurd HG.out (hN.out G hG1 (by omega))
def hasOne (p g : Nat) (F : List Pwr) : Bool := F.any fun x => fpow p g ((p - 1) / x.q) == 1
theorem hasOne_true {p g k : Nat} {F : List Pwr} (hk : k < F.length) (h : fpow p g ((p - 1) / F[k].q) = 1) : hasOne p g F = true :=
  List.any_eq_true.mpr ⟨_, List.getElem_mem hk, by rw [beq_iff_eq]; exact h⟩
theorem hasOne_false {p g : Nat} {F : List Pwr} (h : PowTo p g F F.length) : hasOne p g F = false := by
  unfold hasOne
  rw [List.any_eq_false]
  intro x hx
  obtain ⟨j, hj, rfl⟩ := List.mem_iff_getElem.mp hx
  rw [beq_iff_eq]
  exact h j hj hj
set_option maxHeartbeats 1000000 in
theorem genc_any (q g p bg bp : Nat) (E : Int) (w : World) (hg : w.cell? ⟨bg, 0, none⟩ = some (.int .u64 g)) (hp : w.cell? ⟨bp, 0, none⟩ = some (.int .u64 p)) (hq : 0 < q) (hp1 : 1 ≤ p) (hp' : p < 18446744073709551616) (hg' : g < 18446744073709551616) :
    Calls Tryz.prog 220 #[.agg #[.int .u64 q, .int .i64 E], .pointer (some ⟨bg, 0, none⟩), .pointer (some ⟨bp, 0, none⟩)] w fun e w' => e = .returned (.bool ((fpow p g ((p - 1) / q) : Int) == 1)) ∧ Below w.heap.size w w' := by
  have l1 := cell_lt hg
  have l2 := cell_lt hp
  obtain ⟨p', ep'⟩ : ∃ p', p' + 1 = p := ⟨p - 1, by omega⟩
  have v1 : IntKind.u64.wrap ((p : Int) - 1) = (p' : Int) := (IntWalk.u64_in _ ⟨by omega, by omega⟩).trans (by omega)
  obtain ⟨d, ed⟩ : ∃ d, p' / q = d := ⟨_, rfl⟩
  have hd : d ≤ p' := ed ▸ Nat.div_le_self _ _
  have k1 : (p' : Int) / q = (d : Int) := by rw [← ed]; exact (Int.natCast_ediv _ _).symm
  have k2 : (p' : Int).tdiv q = (d : Int) := by rw [Int.tdiv_eq_ediv_of_nonneg (Int.natCast_nonneg _)]; exact k1
  have k3 : IntKind.u64.wrap (d : Int) = (d : Int) := IntWalk.u64_in _ ⟨by omega, by omega⟩
  have k4 : ((q : Int) == 0) = false := by rw [beq_eq_false_iff_ne]; omega
  have k5 : ¬ q = 0 := by omega
  have CM := fun W => mpow_any (g : Int) d p (Int.natCast_nonneg _) (by omega) (Int.natCast_nonneg _) (by omega) (by omega) (by omega) W
  simp only [Int.toNat_natCast] at CM
  rw [show p - 1 = p' by omega, ed]
  obtain ⟨x, ex⟩ : ∃ x, fpow p g d = x := ⟨_, rfl⟩
  simp only [ex] at CM
  rw [ex]
  have C := Lib.hid CM
  have HB := Lib.hid (fun ob => (Below.refl w.heap.size w).alloc (Nat.le_refl _) ob)
  clear CM ex hd ed ep' hp' hg' hp1 hq
  go_enter Tryz.func220, Tryz.ntmps220
  go_wp2_with fail
  go_quiet ((go_at_call 221; exact Calls.quiet_of (C.out _)))
  go_wp2_with fail
  go_ret
  exact ⟨rfl, bl_drew (HB.out _) _⟩
set_option maxHeartbeats 1000000 in
theorem idxG_any (F : List Pwr) (v : Value) (p g bg bp : Nat) (w : World) (h : RdPw w v F) (hg : w.cell? ⟨bg, 0, none⟩ = some (.int .u64 g)) (hp : w.cell? ⟨bp, 0, none⟩ = some (.int .u64 p)) (hF : ∀ x ∈ F, 0 < x.q) (hp1 : 1 ≤ p) (hp' : p < 18446744073709551616) (hg' : g < 18446744073709551616) :
    Calls Tryz.prog 232 #[v, .func (.func 220) #[] #[.pointer (some ⟨bg, 0, none⟩), .pointer (some ⟨bp, 0, none⟩)]] w (IdxPost (hasOne p g F) w) := by
  have l1 := cell_lt hg
  have l2 := cell_lt hp
  obtain ⟨h1, h2, A, c, rfl, h4, h5⟩ := h
  unfold Len at h1
  obtain ⟨n, en⟩ : ∃ n, F.length = n := ⟨_, rfl⟩
  have CC := Lib.hid (fun (W : World) (q : Nat) (E : Int) (hB : Below w.heap.size w W) (hq : 0 < q) => genc_any q g p bg bp E W ((hB.cell (p := ⟨bg, 0, none⟩) l1).trans hg) ((hB.cell (p := ⟨bp, 0, none⟩) l2).trans hp) hq hp1 hp' hg')
  have N0 : Hid (PowTo p g F 0) := Lib.hid fun j hj hj' => absurd hj' (by omega)
  have H5 := Lib.hid h5
  have EN := Lib.hid en
  have HFF := Lib.hid hF
  have H1 : n ≤ 140737488355328 := by omega
  rw [en]
  clear h1 h2 h4 h5 en hg hp hp1 hp' hg' hF l1 l2
  go_enter Tryz.func232, Tryz.ntmps232
  go_wp2_with fail
  go_loopw [8] (fun s9 wr => ∃ i : Nat, s9 = .int .i64 i ∧ i ≤ n ∧ Below w.heap.size w wr ∧ Hid (PowTo p g F i)) (fun s9 _ => n - (intOf s9).toNat)
  case atStart => exact ⟨0, rfl, by omega, Below.refl _ _, N0⟩
  case round =>
    obtain ⟨i, rfl, hi, hB, hN⟩ := hrel
    by_cases hlt : i < n
    · have hj : i < F.length := by rw [EN.out]; exact hlt
      obtain ⟨b, o, rfl, hcl⟩ := H5.out (by omega)
      obtain ⟨x0, x1⟩ := hcl i hj
      have hq := HFF.out _ (List.getElem_mem hj)
      obtain ⟨q, eq⟩ : ∃ q, F[i].q = q := ⟨_, rfl⟩
      obtain ⟨E, eE⟩ : ∃ E, F[i].e = E := ⟨_, rfl⟩
      rw [eq] at x0 hq
      rw [eE] at x1
      have lb := cell_lt x0
      have c0 := (hB.cell (p := ⟨b, o + i * 2, none⟩) lb).trans x0
      have c1 := (hB.cell (p := ⟨b, o + i * 2 + 1, none⟩) lb).trans x1
      have cc := CC.out wr q E hB hq
      obtain ⟨x, ex⟩ : ∃ x, fpow p g ((p - 1) / q) = x := ⟨_, rfl⟩
      rw [ex] at cc
      have C := Lib.hid cc
      have EX : Hid (fpow p g ((p - 1) / F[i].q) = x) := Lib.hid (by rw [eq]; exact ex)
      clear x0 x1 hcl eE hq ex eq cc
      by_cases hx : x = 1
      · have t1 : ((x : Int) == 1) = true := by rw [beq_iff_eq]; omega
        have Z := Lib.hid (hasOne_true hj (EX.out.trans hx))
        clear hx EX hj
        go_wp2_with fail
        refine (C.out).mono ?_
        rintro e w1 ⟨rfl, hB1⟩
        go_wp2_with fail
        go_ret
        exact ⟨i, rfl, by rw [Z.out, decide_eq_true_eq]; omega, bl_trans hB hB1⟩
      · have t1 : ((x : Int) == 1) = false := by rw [beq_eq_false_iff_ne]; omega
        have Z := Lib.hid (fpow_step hj hN.out fun h => hx (EX.out.symm.trans h))
        clear hx EX hj
        go_wp2_with fail
        refine (C.out).mono ?_
        rintro e w1 ⟨rfl, hB1⟩
        go_wp2_with fail
        exact ⟨⟨i + 1, by go_num, by omega, bl_trans hB hB1, Z⟩, by simp [intOf]; omega⟩
    · obtain rfl : i = n := by omega
      have Z := Lib.hid (hasOne_false (p := p) (g := g) (F := F) (by rw [EN.out]; exact hN.out))
      go_wp2_with fail
      go_ret
      exact ⟨-1, rfl, Z.out.symm, hB⟩
set_option maxHeartbeats 400000 in
theorem contG_any (F : List Pwr) (v : Value) (p g bg bp : Nat) (w : World) (h : RdPw w v F) (hg : w.cell? ⟨bg, 0, none⟩ = some (.int .u64 g)) (hp : w.cell? ⟨bp, 0, none⟩ = some (.int .u64 p)) (hF : ∀ x ∈ F, 0 < x.q) (hp1 : 1 ≤ p) (hp' : p < 18446744073709551616) (hg' : g < 18446744073709551616) :
    Calls Tryz.prog 219 #[v, .func (.func 220) #[] #[.pointer (some ⟨bg, 0, none⟩), .pointer (some ⟨bp, 0, none⟩)]] w fun e w' => e = .returned (.bool (hasOne p g F)) ∧ Below w.heap.size w w' := by
  have cc := Lib.hid (idxG_any F v p g bg bp w h hg hp hF hp1 hp' hg')
  clear h hg hp hF hp1 hp' hg'
  go_enter Tryz.func219, Tryz.ntmps219
  go_wp2_with fail
  refine (cc.out).mono ?_
  rintro e w1 ⟨r, rfl, hr, hB⟩
  have HR := Lib.hid hr
  clear hr
  go_wp2_with fail
  go_ret
  exact ⟨ret_bool HR.out, hB⟩
theorem gen_iff {p g : Nat} {F : List Pwr} (h : OddP p) (hF : FacR (p - 1) F) (h1 : 0 < g) (h2 : g < p) : hasOne p g F = false ↔ Ord p (g : Int) (p - 1) := by
  have hp3 := h.1
  constructor
  · intro h3
    refine ord_of_lucas (by omega) (Epi.fermat h.2.2 (by
      rw [nat_cg_zero]
      intro hd
      have := Nat.le_of_dvd h1 hd
      omega)) fun q hq hqp hc => ?_
    obtain ⟨x, hx, rfl⟩ := (hF.dvd hq).mp hqp
    unfold hasOne at h3
    rw [List.any_eq_false] at h3
    have h4 := h3 x hx
    rw [beq_iff_eq] at h4
    exact h4 ((fpow_one_iff (by omega)).mpr hc)
  · intro h3
    unfold hasOne
    rw [List.any_eq_false]
    intro x hx
    rw [beq_iff_eq]
    intro h4
    have hq := (hF.1 x hx).1
    obtain ⟨c, hc⟩ := (hF.dvd hq).mpr ⟨x, hx, rfl⟩
    have h5 := (fpow_ord (by omega) h3).mp h4
    have hc0 : 0 < c := by
      rcases Nat.eq_zero_or_pos c with h0 | h0
      · subst h0; omega
      · exact h0
    rw [hc, Nat.mul_div_cancel_left _ hq.pos] at h5
    have h6 := Nat.le_of_dvd hc0 h5
    have h7 : 2 * c ≤ x.q * c := Nat.mul_le_mul_right _ hq.1
    omega
theorem FacR.pos {n : Nat} {F : List Pwr} (h : FacR n F) : ∀ x ∈ F, 0 < x.q := fun x hx => (h.1 x hx).1.pos
set_option maxHeartbeats 1000000 in
theorem sgen_any (p : Nat) (w : World) (hp : p < 18446744073709551616) :
    Calls Tryz.prog 198 #[.int .u64 p] w fun e w' => GnPost p e ∧ Below w.heap.size w w' := by
  have HB0 : Hid (∀ o : Obj, Below w.heap.size w (w.alloc o)) := Lib.hid fun o => (Below.refl _ _).alloc (Nat.le_refl _) _
  have CO := Lib.hid (fun W => sodd_any p W hp)
  by_cases h0 : OddP p
  case neg =>
    have H0 := Lib.hid h0
    have X := Lib.hid (bOf_false h0)
    simp only [X.out] at CO
    clear h0 hp
    go_enter Tryz.func198, Tryz.ntmps198
    go_wp2_with fail
    refine (CO.out _).mono ?_
    rintro e w1 ⟨rfl, hb⟩
    have HB := Lib.hid (bl_trans (HB0.out _) hb)
    clear hb
    go_wp2_with fail
    go_ret
    exact ⟨.inr ⟨H0.out, rfl⟩, HB.out⟩
  have H0 := Lib.hid h0
  have X := Lib.hid (bOf_true h0)
  simp only [X.out] at CO
  have hp3 := h0.1
  have hp4 := h0.2.1
  obtain ⟨G, hG1, hG2, hG3⟩ := OddP.gen h0
  have HG := Lib.hid hG3
  obtain ⟨p', ep'⟩ : ∃ p', p' + 1 = p := ⟨p - 1, by omega⟩
  have v1 : IntKind.u64.wrap ((p : Int) - 1) = (p' : Int) := (IntWalk.u64_in _ ⟨by omega, by omega⟩).trans (by omega)
  have EP := Lib.hid (show p - 1 = p' by omega)
  have CF := Lib.hid (fun W => factor_any p' W (by omega))
  have hp'2 : 2 ≤ p' := by omega
  have hp'3 : p' ≤ 4294967296 := by omega
  have HP := Lib.hid hp
  clear h0 hG3 ep' hp
  go_enter Tryz.func198, Tryz.ntmps198
  go_wp2_with fail
  refine (CO.out _).mono ?_
  rintro e w1 ⟨rfl, hb⟩
  have e0 := (hb.cell (p := ⟨w.heap.size, 0, none⟩) (by simp)).trans (World.cell?_alloc_at _ _ _ _ rfl)
  have hs1 : w.heap.size < w1.heap.size := by have := hb.size; simp at this; omega
  have HB1 := Lib.hid (bl_trans (HB0.out _) hb)
  clear hb
  go_wp2_with fail
  refine (CF.out _).mono ?_
  rintro e w2 ⟨hb, A, k, c, F, rfl, hR, -, -, hF⟩
  have e1 := (hb.cell (p := ⟨w.heap.size, 0, none⟩) hs1).trans e0
  have hs2 : w.heap.size < w2.heap.size := by have := hb.size; omega
  have hFR : FacR p' F := by
    rcases hF with h | h
    · exact h.2.2
    · exact absurd ⟨hp'2, hp'3⟩ h.1
  have HF := Lib.hid hFR
  have HR := Lib.hid hR
  have HB2 := Lib.hid (bl_trans HB1.out hb)
  clear hb e0 hF hFR hR hp'2 hp'3 hs1
  go_wp2_with fail
  go_loopw [13] (fun _ wr => ∃ g : Nat, wr.cell? ⟨w2.heap.size, 0, none⟩ = some (.int .u64 g) ∧ wr.frozen? ⟨w2.heap.size, 0, none⟩ = false ∧ Below w2.heap.size w2 wr ∧ w2.heap.size < wr.heap.size ∧ 2 ≤ g ∧ g ≤ G ∧ Hid (∀ h, 2 ≤ h → h < g → ¬ Ord p (h : Int) (p - 1))) (fun _ wr => 65540 - (intOf ((wr.cell? ⟨w2.heap.size, 0, none⟩).getD undef)).toNat)
  case atStart => exact ⟨2, World.cell?_alloc_at _ _ _ _ rfl, World.frozen?_alloc_at _ _ _ _ rfl, (Below.refl _ _).alloc (Nat.le_refl _) _, by simp, Nat.le_refl _, hG1, Lib.hid fun k h1 h2 => absurd h1 (by omega)⟩
  case round =>
    obtain ⟨g, hc, hf, hB, hs, hg2, hgG, hN⟩ := hrel
    have cp := (hB.cell (p := ⟨w.heap.size, 0, none⟩) hs2).trans e1
    have C := Lib.hid (contG_any F (.slice A k c) p g w2.heap.size w.heap.size wr (HR.out.below hB) hc cp (FacR.pos HF.out) (by omega) HP.out (by omega))
    obtain ⟨B, eB⟩ : ∃ B, hasOne p g F = B := ⟨_, rfl⟩
    rw [eB] at C
    have Y : Hid ((B = false → GenOf p g) ∧ (B = true → (∀ h, 2 ≤ h → h < g + 1 → ¬ Ord p (h : Int) (p - 1)) ∧ g + 1 ≤ G)) := Lib.hid ⟨fun h => ⟨hg2, by omega, (gen_iff H0.out (EP.out.symm ▸ HF.out) (by omega) (by omega)).mp (eB.trans h), hN.out⟩, fun h => by
      have h1 : ¬ Ord p (g : Int) (p - 1) := fun h2 => by
        have := (gen_iff H0.out (EP.out.symm ▸ HF.out) (by omega) (by omega)).mpr h2
        rw [eB, h] at this
        cases this
      refine ⟨fun j h2 h3 h4 => ?_, ?_⟩
      · by_cases e : j = g
        · subst e
          exact h1 h4
        · exact hN.out j h2 (by omega) h4
      · have h5 : g ≠ G := fun e => h1 (e.symm ▸ HG.out)
        omega⟩
    clear eB
    go_wp2_with fail
    refine (C.out).mono ?_
    rintro e w3 ⟨rfl, hb⟩
    have hc3 := (hb.cell (p := ⟨w2.heap.size, 0, none⟩) hs).trans hc
    have hf3 := (hb.frozen (p := ⟨w2.heap.size, 0, none⟩) hs).trans hf
    have HB3 := Lib.hid (hB.trans (hb.mono (Nat.le_of_lt hs)))
    have hs3 : w2.heap.size < w3.heap.size := by have := hb.size; omega
    have HBW := Lib.hid (bl_trans HB2.out HB3.out)
    cases B with
    | false =>
      have Z := Lib.hid (Y.out.1 rfl)
      clear hb hB hc hf
      go_wp2_with fail
      go_ret
      exact ⟨.inl ⟨⟨g, Z.out, rfl⟩, H0.out⟩, HBW.out⟩
    | true =>
      have Z := Lib.hid (Y.out.2 rfl)
      have k1 : IntKind.u64.wrap ((g : Int) + 1) = ((g + 1 : Nat) : Int) := (IntWalk.u64_in _ ⟨by omega, by omega⟩).trans (by omega)
      clear hb hB hf
      go_wp2_with fail
      have cs := World.cell?_setCell_same w3 ⟨w2.heap.size, 0, none⟩ (.int .u64 ((g : Int) + 1)) hc3
      exact ⟨⟨g + 1, cs, by rw [World.frozen?_setCell]; exact hf3, HB3.out.setCell (Nat.le_refl _) _, by simp [World.setCell]; omega, by omega, Z.out.2, Lib.hid Z.out.1⟩, by rw [cs, hc]; simp [intOf]; omega⟩
end Go.Proofs.YtbokindcnkknmaaGreat
