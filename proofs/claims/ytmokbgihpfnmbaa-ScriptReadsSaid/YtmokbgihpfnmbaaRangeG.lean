/-
  A range over a function whose iterator says, beside the values that it hands on, what holds of each in memory where it is handed on (G).
-/
import Derived.Test.YtmokbgihpfnmbaaRanges
import Derived.Test.YtmokbgihpfnmbaaRoundR
namespace Go.Proofs.Ytmokbgihpfnmbaa
open Go Go.RowKit Go.Shelf
set_option linter.unusedSectionVars false
set_option linter.unusedSimpArgs false
set_option linter.unusedVariables false

/-- What an iterator keeps: it hands on values x of which G says something at that moment. -/
def SeqG {α : Type} (n : Nat) (P : Program) (g : Nat) (lb : Array Value) (enc : α → Value) (G : α → World → Prop) (Kp : World → World → Prop) (S Sp : List α → World → Prop) (w : World) : Prop :=
  ∀ (l : Nat) (J Jx : List α → World → Prop) (W : World), Below w.heap.size w W → AbidesFrom W.heap.size J → AbidesFrom W.heap.size Jx →
    (∀ pre x U, J pre U → G x U → YieldAt Fence.wide (n - 1) P l #[enc x] U fun e U' => (e = .returned (.bool true) ∧ J (pre ++ [x]) U' ∧ Kp U U') ∨ (e = .returned (.bool false) ∧ Jx (pre ++ [x]) U' ∧ Kp U U')) →
    J [] W → CallsIn Fence.wide n P g (#[.func (.yield l) #[] #[]] ++ lb) W fun e U => (∃ v, e = .returned v) ∧ ((∃ xs, S xs U ∧ J xs U) ∨ (∃ pre, Sp pre U ∧ Jx pre U))

/-- How a round may end: as before, or by leaving the loop. -/
def roundG {α : Type} (B : Nat) (Kp : World → World → Prop) (I : List α → World → Prop) (Ix : Code → List α → World → Prop) (xs : List α) (W : World) : Exit → Act → World → Prop
  | .normal, _, U => KeepsFrom B W U ∧ Kp W U ∧ I xs U
  | .exit id, _, U => KeepsFrom B W U ∧ Kp W U ∧ Ix (.exit id) xs U
  | _, _, _ => False

theorem wp_rangeG {α : Type} {P : Program} {g : Operand} {p j : Tmp} {assign body : Code} {Q : Exit → Act → World → Prop} {a : Act} {w : World}
    {gf : Nat} {lb : Array Value} (hg : a.eval g = .func (.func gf) #[] lb) (eg : ∀ args w, (callFunc gf args).run P w = .ok (.enter gf args) w)
    {enc : α → Value} {G : α → World → Prop} {Kp : World → World → Prop} {S Sp : List α → World → Prop} (hseq : SeqG 8 P gf lb enc G Kp S Sp w)
    (hKt : ∀ {A B C : World}, Kp A B → Kp B C → Kp A C) (hKb : ∀ (W : World) (l : Nat) (o o' : Obj), w.heap.size ≤ l → W.heap[l]? = some o → o.isCells = false → o.isWalk = false → Kp W (W.putObj l o'))
    (hG : OwnFrom w.heap.size G)
    (I : List α → World → Prop) (Ix : Code → List α → World → Prop) (hI : OwnFrom w.heap.size I) (hIx : ∀ c, OwnFrom w.heap.size (Ix c)) (h0 : I [] w) (hS : OwnFrom w.heap.size (fun xs W => S xs W ∧ I xs W)) (hSp : ∀ c, OwnFrom w.heap.size (fun xs W => Sp xs W ∧ Ix c xs W))
    (Ax : α → Act → World → Prop) (hAx : ∀ x act, OwnFrom w.heap.size (fun (_ : Unit) W => Ax x act W))
    (hassign : ∀ (l : Nat) (pre : List α) (x : α) (W : World) (K : Act → World → Prop), I pre W → G x W → (∀ act U, KeepsFrom w.heap.size W U → Kp W U → I pre U → G x U → Ax x act U → K act U) →
      assign.wpIn (Fence.wide.inRound l) 7 P (Exit.then K (fun _ _ _ => False)) { tmps := a.tmps.setIfInBounds p (enc x), defers := [] } W)
    (hbody : ∀ (l : Nat) (pre : List α) (x : α) (act : Act) (W : World), I pre W → G x W → Ax x act W → body.wpIn (Fence.wide.inRound l) 7 P (roundG w.heap.size Kp I Ix (pre ++ [x]) W) act W)
    (hdone : ∀ (D : Nat) (xs : List α) (W : World), w.heap.size ≤ D → S xs W → I xs W → W.heap[D]? = some (.deferred (some [])) → Q .normal { a with defers := { target := .collected D, args := #[] } :: a.defers } W)
    (hstop : ∀ (D : Nat) (c : Code) (pre : List α) (W : World), w.heap.size ≤ D → Sp pre W → Ix c pre W → W.heap[D]? = some (.deferred (some [])) → c.wp P Q { a with defers := { target := .collected D, args := #[] } :: a.defers } W) :
    (Code.rangeFunc g #[p] assign body).wp P Q a w := by
  refine (wpIn_wide (n := 9)).1 (wpIn_rangeFunc fun fn _ => ?_)
  obtain ⟨L, hL⟩ : ∃ L : LoopState → Option Code → Loop, L = fun st pe => { state := st, pending := pe, fn, tmps := a.tmps, params := #[p], assign, body, defers := w.heap.size } := ⟨_, rfl⟩
  obtain ⟨V, hV⟩ : ∃ V, V = (w.alloc (.deferred (some []))).alloc (.loop (L .ready none)) := ⟨_, rfl⟩
  have v0 : V.heap[w.heap.size + 1]? = some (.loop (L .ready none)) := by
    rw [hV]
    have := World.alloc_heap_new (w.alloc (.deferred (some []))) (.loop (L .ready none))
    rwa [World.size_alloc] at this
  have v1 : V.heap[w.heap.size]? = some (.deferred (some [])) := by
    rw [hV]
    exact (Below.heap_alloc _ _ _ (by simp)).trans (World.alloc_heap_new w _)
  have vz : V.heap.size = w.heap.size + 2 := by rw [hV]; simp
  have vI : I [] V := by rw [hV]; exact hI.alloc _ (hI.alloc _ h0)
  have vB : Below w.heap.size w V := by
    rw [hV]
    exact ((Below.refl _ w).alloc (Nat.le_refl _) _).alloc (by simp) _
  have hb : ∀ {A : World} {row : Option Nat}, (∀ r, row = some r → V.heap.size ≤ r ∧ ∃ o : Obj, A.heap[r]? = some o ∧ o.isWalk = true) → ∀ r, row = some r → w.heap.size ≤ r ∧ ∃ o : Obj, A.heap[r]? = some o ∧ o.isCells = false := fun h r e => by
    obtain ⟨z, o, ho, hw⟩ := h r e
    exact ⟨by omega, o, ho, Obj.not_cells_of_walk hw⟩
  refine ⟨w.heap.size + 1, [{ target := .collected w.heap.size, args := #[] }], V, { target := .fn (.func gf) lb, args := #[.func (.yield (w.heap.size + 1)) #[] #[]] }, V, gf,
    #[.func (.yield (w.heap.size + 1)) #[] #[]] ++ lb, V, by rw [hV, hL]; exact run_enterLoop_outer _ _ _ _ _, by simp only [resolve, hg]; simp [go_sem], fun f' _ => trivial, by simp [invoke, go_sem, eg], fun _ => by omega, ?_⟩
  refine (hseq (w.heap.size + 1) (fun pre W => I pre W ∧ W.heap[w.heap.size + 1]? = some (.loop (L .ready none)) ∧ W.heap[w.heap.size]? = some (.deferred (some [])))
    (fun pre W => ∃ c, Ix c pre W ∧ W.heap[w.heap.size + 1]? = some (.loop (L .done (some c))) ∧ W.heap[w.heap.size]? = some (.deferred (some []))) V vB
    (fun s A B row hs hgr hr => ⟨hI s A B row hs.1 hgr (hb hr), (grownBy_keeps hgr (fun r e => (hr r e).2) hs.2.1 rfl).trans hs.2.1, (grownBy_keeps hgr (fun r e => (hr r e).2) hs.2.2 rfl).trans hs.2.2⟩)
    (fun s A B row hs hgr hr => by
      obtain ⟨c, q1, q2, q3⟩ := hs
      exact ⟨c, hIx c s A B row q1 hgr (hb hr), (grownBy_keeps hgr (fun r e => (hr r e).2) q2 rfl).trans q2, (grownBy_keeps hgr (fun r e => (hr r e).2) q3 rfl).trans q3⟩)
    ?_ ⟨vI, v0, v1⟩).mono ?_
  · rintro pre x W ⟨hi, hl, hk⟩ hgx
    have hlt : w.heap.size + 1 < W.heap.size := lt_of_blk hl
    have hy : (Instr.yield (w.heap.size + 1) #[enc x]).run P W = .ok (.round (w.heap.size + 1) fn (a.tmps.setIfInBounds p (enc x)) assign body) W := by
      have hy := run_yield (P := P) (args := #[enc x]) hl (by rw [hL]; rfl)
      rw [hL] at hy
      simpa using hy
    refine ⟨fn, _, assign, body, hy, roundIn_of_wpIn trivial ?_⟩
    refine hassign (w.heap.size + 1) pre x W _ hi hgx (fun act U s3 s4 s1 s2 s5 => ?_)
    have hl := s3.same _ _ (by omega) hl rfl
    have hk := s3.same _ _ (Nat.le_refl _) hk rfl
    have hlt : w.heap.size + 1 < U.heap.size := lt_of_blk hl
    refine ⟨_, run_beginRound hl (by rw [hL]), ?_⟩
    obtain ⟨b0, hb0⟩ : ∃ b0 : Loop, b0 = { L .ready none with state := .busy } := ⟨_, rfl⟩
    rw [← hb0]
    have hl2 : (U.putObj (w.heap.size + 1) (.loop b0)).heap[w.heap.size + 1]? = some (.loop b0) := World.putObj_heap_same hlt
    have hk2 : (U.putObj (w.heap.size + 1) (.loop b0)).heap[w.heap.size]? = some (.deferred (some [])) := (World.putObj_heap_other (by omega)).trans hk
    have hw2 : Kp U (U.putObj (w.heap.size + 1) (.loop b0)) := hKb _ _ _ _ (by omega) hl rfl rfl
    have hi2 := hI.putObj (.loop b0) s1 (by omega) hl rfl
    have hg2 := hG.putObj (.loop b0) s2 (by omega) hl rfl
    have ha2 := (hAx x act).putObj (s := ()) (.loop b0) s5 (by omega) hl rfl
    generalize U.putObj (w.heap.size + 1) (.loop b0) = U2 at *
    refine wpIn_mono (hbody _ pre x act _ hi2 hg2 ha2) ?_
    have fin : ∀ (jump : Option Code) (U3 : World), KeepsFrom w.heap.size U2 U3 → ∃ U4, U4 = U3.putObj (w.heap.size + 1) (.loop (L (if jump.isNone then .ready else .done) jump)) ∧ (Instr.endRound (w.heap.size + 1) jump).run P U3 = .ok (.bool jump.isNone) U4 ∧
        U3.heap[w.heap.size + 1]? = some (.loop b0) ∧ U4.heap[w.heap.size + 1]? = some (.loop (L (if jump.isNone then .ready else .done) jump)) ∧ U4.heap[w.heap.size]? = some (.deferred (some [])) := fun jump U3 hk3 => by
      have q := hk3.same _ _ (by omega) hl2 rfl
      have r := run_endRound (P := P) jump q
      refine ⟨_, rfl, ?_, q, World.putObj_heap_same (lt_of_blk q), (World.putObj_heap_other (by omega)).trans (hk3.same _ _ (Nat.le_refl _) hk2 rfl)⟩
      rw [r, hb0, hL]
    rintro e a3 U3 hp
    cases e with
    | normal =>
      obtain ⟨k1, k2, k3⟩ := hp
      obtain ⟨U4, e4, r1, r2, r3, r4⟩ := fin none U3 k1
      have kb : Kp U3 U4 := by rw [e4]; exact hKb _ _ _ _ (by omega) r2 rfl rfl
      refine ⟨_, _, r1, .inl ⟨rfl, ⟨?_, r3, r4⟩, hKt s4 (hKt hw2 (hKt k2 kb))⟩⟩
      rw [e4]; exact hI.putObj _ k3 (by omega) r2 rfl
    | exit id =>
      obtain ⟨k1, k2, k3⟩ := hp
      obtain ⟨U4, e4, r1, r2, r3, r4⟩ := fin (some (.exit id)) U3 k1
      have kb : Kp U3 U4 := by rw [e4]; exact hKb _ _ _ _ (by omega) r2 rfl rfl
      refine ⟨_, _, r1, .inr ⟨rfl, ⟨.exit id, ?_, r3, r4⟩, hKt s4 (hKt hw2 (hKt k2 kb))⟩⟩
      rw [e4]; exact (hIx _).putObj _ k3 (by omega) r2 rfl
    | ret => exact hp.elim
    | goto t => exact hp.elim
    | panic ch => exact hp.elim
    | outgrown => exact hp.elim
  · rintro e U ⟨⟨v, rfl⟩, (⟨xs, z1, z2, z3, z4⟩ | ⟨pre, z1, c, z2, z3, z4⟩)⟩
    · have r := run_endLoop (P := P) z3 (by rw [hL]; simp)
      refine ⟨none, U.putObj (w.heap.size + 1) (.loop { L .ready none with state := .exhausted }), by rw [r, hL], hdone _ xs _ (Nat.le_refl _) (hS.putObj _ ⟨z1, z2⟩ (by omega) z3 rfl).1 (hS.putObj _ ⟨z1, z2⟩ (by omega) z3 rfl).2 ((World.putObj_heap_other (by omega)).trans z4)⟩
    · have r := run_endLoop (P := P) z3 (by rw [hL]; simp)
      refine ⟨some c, U.putObj (w.heap.size + 1) (.loop { L .done (some c) with state := .exhausted }), by rw [r, hL], wpIn_wide.2 (hstop _ c pre _ (Nat.le_refl _) ((hSp c).putObj _ ⟨z1, z2⟩ (by omega) z3 rfl).1 ((hSp c).putObj _ ⟨z1, z2⟩ (by omega) z3 rfl).2 ((World.putObj_heap_other (by omega)).trans z4))⟩

end Go.Proofs.Ytmokbgihpfnmbaa
