/- Ranging over a function: a law of its own, for an iterator that itself ranges over another one. -/
import Derived.Test.YtbokindcnkknmaaGreatAp
import Derived.RangeFuncNested
set_option linter.unusedVariables false
namespace Go.Proofs.YtbokindcnkknmaaGreat
open Go.RowKit Epi
/-- W' is W, but for the blocks of U, and new ones. -/
structure KpU (U : Nat → Prop) (W W' : World) : Prop where
  os : W'.os = W.os
  tape : W'.tape = W.tape
  output : W'.output = W.output
  size : W.heap.size ≤ W'.heap.size
  block : ∀ k, k < W.heap.size → ¬ U k → W'.heap[k]? = W.heap[k]?
theorem KpU.refl (U : Nat → Prop) (W : World) : KpU U W W := ⟨rfl, rfl, rfl, Nat.le_refl _, fun _ _ _ => rfl⟩
theorem KpU.trans {U : Nat → Prop} {A B C : World} (h : KpU U A B) (k : KpU U B C) : KpU U A C :=
  ⟨k.os.trans h.os, k.tape.trans h.tape, k.output.trans h.output, Nat.le_trans h.size k.size, fun i hi hu => (k.block i (Nat.lt_of_lt_of_le hi h.size) hu).trans (h.block i hi hu)⟩
theorem KpU.wider {U V : Nat → Prop} {A B : World} (h : KpU U A B) (hu : ∀ k, U k → V k) : KpU V A B :=
  ⟨h.os, h.tape, h.output, h.size, fun k hk hv => h.block k hk (fun hc => hv (hu k hc))⟩
theorem KpU.grown {U : Nat → Prop} {A B : World} {row : Option Nat} (hg : A.grownBy B row) (hr : ∀ k, row = some k → k < A.heap.size → U k) : KpU U A B :=
  ⟨hg.os, hg.tape, hg.output, hg.size, fun k hk hu => hg.block k hk (fun e => hu (hr k e.symm hk))⟩
theorem KpU.of_below {U : Nat → Prop} {A B : World} (h : Below A.heap.size A B) : KpU U A B := ⟨h.os, h.tape, h.output, h.size, fun k hk _ => h.block k hk⟩
theorem KpU.below {U : Nat → Prop} {A B : World} (h : KpU U A B) {n : Nat} (hn : n ≤ A.heap.size) (hu : ∀ k, U k → n ≤ k) : Below n A B :=
  ⟨h.os, h.tape, h.output, h.size, fun k hk => h.block k (by omega) (fun hc => by have := hu k hc; omega)⟩
theorem KpU.own {β : Type} {U : Nat → Prop} {w : World} {B : Nat} (hB : w.heap.size ≤ B) : OwnFrom B (fun (_ : β) W => KpU U w W) :=
  fun _ X Y row hs hg hr => ⟨hg.os.trans hs.os, hg.tape.trans hs.tape, hg.output.trans hs.output, Nat.le_trans hs.size hg.size, fun k hk hu => (hg.block k (Nat.lt_of_lt_of_le hk hs.size) (fun e => by have := (hr k e.symm).1; omega)).trans (hs.block k hk hu)⟩
theorem KpU.boxed {U : Nat → Prop} {A B : World} (h : KpU U A B) {k : Nat} {t : TypeId} {v : Value} (hb : Boxed A k t v) (hu : ¬ U k) : Boxed B k t v := (h.block k hb.lt hu).trans hb
theorem KpU.set {U : Nat → Prop} {A : World} {k : Nat} (hu : U k) (v : Value) : KpU U A (A.setCell ⟨k, 0, none⟩ v) := KpU.grown (grownBy_setCell' A k v) (fun j e _ => by cases e; exact hu)
theorem KpU.alloc {U : Nat → Prop} (A : World) (o : Obj) : KpU U A (A.alloc o) := KpU.grown (World.grownBy_alloc A o none) (fun j e _ => by cases e)
theorem OwnFrom.up {β : Type} {B B' : Nat} {I : β → World → Prop} (h : OwnFrom B I) (hB : B ≤ B') : OwnFrom B' I := fun s W W' row hs hg hr => h s W W' row hs hg (fun r e => ⟨Nat.le_trans hB (hr r e).1, (hr r e).2⟩)
theorem yieldAt_any {m m' : Nat} {P : Program} {l : Nat} {args : Array Value} {W : World} {R : Ending → World → Prop} (h : YieldAt Fence.wide m P l args W R) : YieldAt Fence.wide m' P l args W R := by
  obtain ⟨fn, tmps, assign, body, hy, hR⟩ := h
  exact ⟨fn, tmps, assign, body, hy, hR.1, fun c cs _ => hR.2 c cs (fun d hd => by cases hd)⟩
theorem yieldAt_mono {m : Nat} {P : Program} {l : Nat} {args : Array Value} {W : World} {R R' : Ending → World → Prop} (h : YieldAt Fence.wide m P l args W R) (hr : ∀ e w, R e w → R' e w) : YieldAt Fence.wide m P l args W R' := by
  obtain ⟨fn, tmps, assign, body, hy, hR⟩ := h
  exact ⟨fn, tmps, assign, body, hy, hR.mono hr⟩
/-- An iterator's contract: R: what it reads; U: what the rounds may turn. -/
def SeqU {α : Type} (P : Program) (g : Nat) (lb : Array Value) (encs : α → Array Value) (R : Nat → Prop) (S Sp : List α → Prop) (w₀ : World) : Prop :=
  ∀ (l : Nat) (U : Nat → Prop) (J Jx : List α → World → Prop) (W : World), KpU U w₀ W → (∀ k, R k → ¬ U k) → (∀ k, U k → k < W.heap.size) → OwnFrom W.heap.size J → OwnFrom W.heap.size Jx →
    (∀ pre x W1, J pre W1 → Sp (pre ++ [x]) → YieldAt Fence.wide 0 P l (encs x) W1 fun e W' =>
      (e = .returned (.bool true) ∧ J (pre ++ [x]) W' ∧ KpU U W1 W') ∨ (e = .returned (.bool false) ∧ Jx (pre ++ [x]) W' ∧ KpU U W1 W')) →
    J [] W →
    Calls P g (#[.func (.yield l) #[] #[]] ++ lb) W fun e W' => (∃ v, e = .returned v) ∧ ((∃ xs, S xs ∧ J xs W') ∨ (∃ pre, Sp pre ∧ Jx pre W'))
/-- How a round may be left. -/
def postU {α : Type} (U : Nat → Prop) (I : List α → World → Prop) (Ix : Code → List α → World → Prop) (xs : List α) (W : World) : Exit → Act → World → Prop
  | .normal, _, W' => KpU U W W' ∧ I xs W'
  | .ret, _, W' => KpU U W W' ∧ Ix .ret xs W'
  | .exit id, _, W' => KpU U W W' ∧ Ix (.exit id) xs W'
  | _, _, _ => False
/-- The loop's record has been turned. -/
def TurnL (b l : Nat) (W W' : World) : Prop := b ≤ l ∧ W.grownBy W' (some l) ∧ ∃ r, W.heap[l]? = some (.loop r)
theorem TurnL.boxed {b l : Nat} {W W' : World} (h : TurnL b l W W') {k : Nat} {t : TypeId} {v : Value} (hb : Boxed W k t v) : Boxed W' k t v := by
  obtain ⟨h1, h2, r, h3⟩ := h
  refine hb.kept h2 (fun e => ?_)
  injection e with e
  subst e
  rw [show W.heap[k]? = _ from hb] at h3
  cases h3
theorem TurnL.own {β : Type} {b l : Nat} {W W' : World} (h : TurnL b l W W') {I : β → World → Prop} (hI : OwnFrom b I) {s : β} (hs : I s W) : I s W' := by
  obtain ⟨h1, h2, r, h3⟩ := h
  exact hI s W W' _ hs h2 (fun k e => by cases e; exact ⟨h1, _, h3, rfl⟩)
theorem wpIn_rangeU {α : Type} {P : Program} {n : Nat} {g : Operand} {ps : Array Tmp} {assign body : Code} {Q : Exit → Act → World → Prop} {a : Act} {w : World}
    {gf : Nat} {lb : Array Value} (hg : a.eval g = .func (.func gf) #[] lb) (eg : ∀ args w, (callFunc gf args).run P w = .ok (.enter gf args) w)
    {encs : α → Array Value} {R U : Nat → Prop} {S Sp : List α → Prop} (hseq : SeqU P gf lb encs R S Sp w) (hps : ∀ x, (encs x).size = ps.size)
    (hRU : ∀ k, R k → ¬ U k ∧ k < w.heap.size) (hU : ∀ k, U k → k < w.heap.size)
    (I : List α → World → Prop) (Ix : Code → List α → World → Prop) (hI : OwnFrom w.heap.size I) (hIx : ∀ c, OwnFrom w.heap.size (Ix c)) (h0 : I [] w)
    (hround : ∀ (l : Nat) (pre : List α) (x : α) (W : World), w.heap.size ≤ l → I pre W → KpU U w W → Sp (pre ++ [x]) →
      assign.wpIn (Fence.wide.inRound l) n P (Exit.then (fun a1 W1 => KpU U W W1 ∧ ∀ W2, TurnL w.heap.size l W1 W2 → KpU U w W2 → body.wpIn (Fence.wide.inRound l) n P (postU U I Ix (pre ++ [x]) W2) a1 W2) (fun _ _ _ => False))
        { tmps := (ps.zip (encs x)).foldl (fun t (p, v) => t.setIfInBounds p v) a.tmps, defers := [] } W)
    (hdone : ∀ (D : Nat) (xs : List α) (W : World), w.heap.size ≤ D → S xs → I xs W → KpU U w W → W.heap[D]? = some (.deferred (some [])) → Q .normal { a with defers := { target := .collected D, args := #[] } :: a.defers } W)
    (hstop : ∀ (D : Nat) (c : Code) (pre : List α) (W : World), w.heap.size ≤ D → Sp pre → Ix c pre W → KpU U w W → W.heap[D]? = some (.deferred (some [])) → c.wpIn Fence.wide n P Q { a with defers := { target := .collected D, args := #[] } :: a.defers } W) :
    (Code.rangeFunc g ps assign body).wpIn Fence.wide n P Q a w := by
  refine wpIn_rangeFunc ?_
  intro fn hfn
  rw [show Fence.wide.round = none from rfl]
  obtain ⟨rec, hrec⟩ : ∃ rec : LoopState → Option Code → Loop, rec = fun st pe => { state := st, pending := pe, fn, tmps := a.tmps, params := ps, assign, body, defers := w.heap.size } := ⟨_, rfl⟩
  obtain ⟨W1, hW1⟩ : ∃ W1, (w.alloc (.deferred (some []))).alloc (.loop (rec .ready none)) = W1 := ⟨_, rfl⟩
  have hs1 : W1.heap.size = w.heap.size + 2 := by rw [← hW1]; simp
  have hL1 : W1.heap[w.heap.size + 1]? = some (.loop (rec .ready none)) := by
    rw [← hW1]; have := World.alloc_heap_new (w.alloc (.deferred (some []))) (.loop (rec .ready none)); rwa [World.size_alloc] at this
  have hK1 : W1.heap[w.heap.size]? = some (.deferred (some [])) := by
    rw [← hW1]; exact (Below.heap_alloc _ _ _ (by simp)).trans (World.alloc_heap_new w _)
  have hI1 : I [] W1 := by rw [← hW1]; exact hI.alloc _ (hI.alloc _ h0)
  have hk1 : ∀ V : Nat → Prop, KpU V w W1 := fun V => by
    rw [← hW1]; exact (KpU.alloc _ _).trans (KpU.alloc _ _)
  refine ⟨w.heap.size + 1, [{ target := .collected w.heap.size, args := #[] }], W1, { target := .fn (.func gf) lb, args := #[.func (.yield (w.heap.size + 1)) #[] #[]] }, W1, gf,
    #[.func (.yield (w.heap.size + 1)) #[] #[]] ++ lb, W1, ?_, ?_, ?_, ?_, fun h => by simp [Fence.wide] at h, ?_⟩
  · rw [← hW1, hrec]; exact run_enterLoop_outer _ _ _ _ _
  · simp only [resolve, hg]
    simp [go_sem]
  · intro f' hf'; trivial
  · simp [invoke, go_sem, eg]
  · refine callsIn_wide.2 ((hseq (w.heap.size + 1) (fun k => U k ∨ k = w.heap.size + 1 ∨ k = w.heap.size)
      (fun pre W => (I pre W ∧ KpU U w W) ∧ W.heap[w.heap.size + 1]? = some (.loop (rec .ready none)) ∧ W.heap[w.heap.size]? = some (.deferred (some [])))
      (fun pre W => ∃ c, (Ix c pre W ∧ KpU U w W) ∧ W.heap[w.heap.size + 1]? = some (.loop (rec .done (some c))) ∧ W.heap[w.heap.size]? = some (.deferred (some [])))
      W1 (hk1 _) (fun k hk hc => by have := hRU k hk; rcases hc with hc | hc | hc; exact this.1 hc; omega; omega) (fun k hc => by rcases hc with hc | hc | hc; have := hU k hc; omega; omega; omega) ?_ ?_ ?_ ⟨⟨hI1, hk1 _⟩, hL1, hK1⟩).mono ?_)
    · intro s A B row hs hg' hr
      refine ⟨⟨hI s A B row hs.1.1 hg' (fun r e => ⟨by have := (hr r e).1; omega, (hr r e).2⟩), KpU.own (β := Unit) (Nat.le_refl _) () A B row hs.1.2 hg' (fun r e => ⟨by have := (hr r e).1; omega, (hr r e).2⟩)⟩, ?_, ?_⟩
      · exact (hg'.block _ (Array.getElem?_eq_some_iff.1 hs.2.1).1 (fun e => by have := (hr _ e.symm).1; omega)).trans hs.2.1
      · exact (hg'.block _ (Array.getElem?_eq_some_iff.1 hs.2.2).1 (fun e => by have := (hr _ e.symm).1; omega)).trans hs.2.2
    · rintro s A B row ⟨c, hs⟩ hg' hr
      refine ⟨c, ⟨hIx c s A B row hs.1.1 hg' (fun r e => ⟨by have := (hr r e).1; omega, (hr r e).2⟩), KpU.own (β := Unit) (Nat.le_refl _) () A B row hs.1.2 hg' (fun r e => ⟨by have := (hr r e).1; omega, (hr r e).2⟩)⟩, ?_, ?_⟩
      · exact (hg'.block _ (Array.getElem?_eq_some_iff.1 hs.2.1).1 (fun e => by have := (hr _ e.symm).1; omega)).trans hs.2.1
      · exact (hg'.block _ (Array.getElem?_eq_some_iff.1 hs.2.2).1 (fun e => by have := (hr _ e.symm).1; omega)).trans hs.2.2
    · -- one round
      rintro pre x W ⟨⟨hi, hkw⟩, hl, hk⟩ hsp
      have hy := run_yield (P := P) (args := encs x) hl (by rw [hrec]; exact hps x)
      rw [hrec] at hy
      have hnU1 : ¬ U (w.heap.size + 1) := fun h => by have := hU _ h; omega
      have hnU0 : ¬ U w.heap.size := fun h => by have := hU _ h; omega
      refine yieldAt_any (m := n) ⟨fn, _, assign, body, hy, roundIn_of_wpIn hfn (wpIn_mono (hround (w.heap.size + 1) pre x W (by omega) hi hkw hsp) ?_)⟩
      clear hy
      rintro e a' Wa hp
      cases e with
      | normal =>
        obtain ⟨hka, hb⟩ := hp
        have hla := (hka.block _ (Array.getElem?_eq_some_iff.1 hl).1 hnU1).trans hl
        have hda := (hka.block _ (Array.getElem?_eq_some_iff.1 hk).1 hnU0).trans hk
        have hlt : w.heap.size + 1 < Wa.heap.size := (Array.getElem?_eq_some_iff.1 hla).1
        refine ⟨_, run_beginRound hla (by rw [hrec]), ?_⟩
        obtain ⟨Wb, hWb⟩ : ∃ Wb, Wa.putObj (w.heap.size + 1) (.loop { rec .ready none with state := .busy }) = Wb := ⟨_, rfl⟩
        have hlb : Wb.heap[w.heap.size + 1]? = some (.loop { rec .ready none with state := .busy }) := by rw [← hWb]; exact World.putObj_heap_same hlt
        have hdb : Wb.heap[w.heap.size]? = some (.deferred (some [])) := by rw [← hWb]; exact (World.putObj_heap_other (by omega)).trans hda
        have hgb : Wa.grownBy Wb (some (w.heap.size + 1)) := by rw [← hWb]; exact grownBy_putObj' _ _ _
        rw [hWb]
        have hkwb : KpU U w Wb := KpU.own (β := Unit) (Nat.le_refl _) () Wa Wb _ (hkw.trans hka) hgb (fun r e => by cases e; exact ⟨by omega, _, hla, rfl⟩)
        refine wpIn_mono (hb Wb ⟨by omega, hgb, _, hla⟩ hkwb) ?_
        have fin : ∀ (jump : Option Code) (W3 : World), KpU U Wb W3 →
            (Instr.endRound (w.heap.size + 1) jump).run P W3 = .ok (.bool jump.isNone) (W3.putObj (w.heap.size + 1) (.loop (rec (if jump.isNone then .ready else .done) jump))) ∧
            W3.heap[w.heap.size + 1]? = some (.loop { rec .ready none with state := .busy }) ∧
            (W3.putObj (w.heap.size + 1) (.loop (rec (if jump.isNone then .ready else .done) jump))).heap[w.heap.size + 1]? = some (.loop (rec (if jump.isNone then .ready else .done) jump)) ∧
            (W3.putObj (w.heap.size + 1) (.loop (rec (if jump.isNone then .ready else .done) jump))).heap[w.heap.size]? = some (.deferred (some [])) ∧
            KpU U w (W3.putObj (w.heap.size + 1) (.loop (rec (if jump.isNone then .ready else .done) jump))) ∧
            KpU (fun k => U k ∨ k = w.heap.size + 1 ∨ k = w.heap.size) W (W3.putObj (w.heap.size + 1) (.loop (rec (if jump.isNone then .ready else .done) jump))) := fun jump W3 hk3 => by
          have hl3 := (hk3.block _ (Array.getElem?_eq_some_iff.1 hlb).1 hnU1).trans hlb
          have hd3 := (hk3.block _ (Array.getElem?_eq_some_iff.1 hdb).1 hnU0).trans hdb
          have := run_endRound (P := P) jump hl3
          rw [hrec] at this ⊢
          refine ⟨this, by rw [hrec] at hl3; exact hl3, World.putObj_heap_same (Array.getElem?_eq_some_iff.1 hl3).1, (World.putObj_heap_other (by omega)).trans hd3, ?_, ?_⟩
          · exact KpU.own (β := Unit) (Nat.le_refl _) () W3 _ _ (hkwb.trans hk3) (grownBy_putObj' _ _ _) (fun r e => by cases e; exact ⟨by omega, _, hl3, rfl⟩)
          · exact ((hka.wider fun k h => .inl h).trans (KpU.grown hgb (fun k e _ => by cases e; exact .inr (.inl rfl)))).trans ((hk3.wider fun k h => .inl h).trans (KpU.grown (grownBy_putObj' _ _ _) (fun k e _ => by cases e; exact .inr (.inl rfl))))
        rintro e a3 W3 hp
        cases e with
        | normal =>
          obtain ⟨hk3, hi3⟩ := hp
          obtain ⟨hr, hl3, hl4, hd4, hkw4, hk4⟩ := fin none W3 hk3
          exact ⟨_, _, hr, .inl ⟨rfl, ⟨⟨hI.putObj _ hi3 (by omega) hl3 rfl, hkw4⟩, hl4, hd4⟩, hk4⟩⟩
        | ret =>
          obtain ⟨hk3, hi3⟩ := hp
          obtain ⟨hr, hl3, hl4, hd4, hkw4, hk4⟩ := fin (some .ret) W3 hk3
          exact ⟨_, _, hr, .inr ⟨rfl, ⟨.ret, ⟨(hIx _).putObj _ hi3 (by omega) hl3 rfl, hkw4⟩, hl4, hd4⟩, hk4⟩⟩
        | exit id =>
          obtain ⟨hk3, hi3⟩ := hp
          obtain ⟨hr, hl3, hl4, hd4, hkw4, hk4⟩ := fin (some (.exit id)) W3 hk3
          exact ⟨_, _, hr, .inr ⟨rfl, ⟨.exit id, ⟨(hIx _).putObj _ hi3 (by omega) hl3 rfl, hkw4⟩, hl4, hd4⟩, hk4⟩⟩
        | goto t => exact hp.elim
        | panic ch => exact hp.elim
        | outgrown => exact hp.elim
      | exit id => exact hp.elim
      | goto t => exact hp.elim
      | ret => exact hp.elim
      | panic ch => exact hp.elim
      | outgrown => exact hp.elim
    · rintro e W2 ⟨⟨v, rfl⟩, (⟨xs, hS, ⟨hi, hkw⟩, hl, hk⟩ | ⟨pre, hSp, c, ⟨hi, hkw⟩, hl, hk⟩)⟩
      · refine ⟨none, _, by have := run_endLoop (P := P) hl (by rw [hrec]; simp); rw [hrec] at this; exact this, hdone _ xs _ (Nat.le_refl _) hS (hI.putObj _ hi (by omega) hl rfl) ?_ ((World.putObj_heap_other (by omega)).trans hk)⟩
        exact KpU.own (β := Unit) (Nat.le_refl _) () W2 _ _ hkw (grownBy_putObj' _ _ _) (fun r e => by cases e; exact ⟨by omega, _, hl, rfl⟩)
      · refine ⟨some c, _, by have := run_endLoop (P := P) hl (by rw [hrec]; simp); rw [hrec] at this; exact this, hstop _ c pre _ (Nat.le_refl _) hSp ((hIx c).putObj _ hi (by omega) hl rfl) ?_ ((World.putObj_heap_other (by omega)).trans hk)⟩
        exact KpU.own (β := Unit) (Nat.le_refl _) () W2 _ _ hkw (grownBy_putObj' _ _ _) (fun r e => by cases e; exact ⟨by omega, _, hl, rfl⟩)
/-- The marks that loops over functions have left. -/
def mkD (D : Nat) : Deferred := { target := .collected D, args := #[] }
theorem leaves_marks {F : Fence} {n : Nat} {P : Program} {fn : Func} {tmps : Array Value} {R : Ending → World → Prop} {u : FrameMode} (hu : u ≠ .run) {B : Nat} {I : Unit → World → Prop} (hI : OwnFrom B I)
    (hfin : ∀ W, I () W → LeavesIn F n P fn tmps R [] u W) : ∀ (Ds : List Nat) (W : World), Ds.Nodup → (∀ D ∈ Ds, B ≤ D ∧ W.heap[D]? = some (.deferred (some []))) → I () W → LeavesInM F n P fn tmps R (Ds.map mkD) u W := by
  intro Ds
  induction Ds with
  | nil => exact fun W _ _ h => hfin W h
  | cons D Ds ih =>
    intro W hnd hD h
    obtain ⟨h1, h2⟩ := hD D (List.mem_cons_self ..)
    rw [List.nodup_cons] at hnd
    refine ⟨hu, .inl ⟨D, _, rfl, run_takeDeferred h2, ih _ hnd.2 (fun D' hm => ?_) (hI.putObj _ h h1 h2 rfl)⟩⟩
    obtain ⟨h3, h4⟩ := hD D' (List.mem_cons_of_mem _ hm)
    exact ⟨h3, (World.putObj_heap_other (fun e => hnd.1 (by subst e; exact hm))).trans h4⟩
end Go.Proofs.YtbokindcnkknmaaGreat
