/-
  Parts of the walk's proof: SortS, SKeysS, RangeC, RangeD, RangeE, TreeOrd, TreeBack. (joined by pack.py)
-/
import Derived.Test.YtoanccechefclaaGreatDoorK03
import Derived.Test.YtoanccechefclaaGreatDoorK04
import Derived.Test.YtoanccechefclaaGreatDoorK05
import Derived.Test.YtoanccechefclaaGreatDoorK06
set_option linter.unusedSectionVars false
set_option linter.unusedSimpArgs false
set_option linter.unusedVariables false
namespace Go.Proofs.YtoanccechefclaaGreatDoor
open Go Go.RowKit Go.Sort
abbrev bl (s : ByteArray) : List UInt8 := s.data.toList
def ofL (l : List UInt8) : ByteArray := ⟨l.toArray⟩
theorem ofL_bl (s : ByteArray) : ofL (bl s) = s := by
  obtain ⟨⟨x⟩⟩ := s; rfl
theorem bl_inj {a b : ByteArray} (h : bl a = bl b) : a = b := by rw [← ofL_bl a, h, ofL_bl]
def leL (x y : List UInt8) : Bool := decide (x ≤ y)
def sortS (l : List ByteArray) : List ByteArray := ((l.map bl).mergeSort leL).map ofL
theorem leL_trans : ∀ a b c : List UInt8, leL a b = true → leL b c = true → leL a c = true := by
  intro a b c h1 h2
  unfold leL at *
  simp only [decide_eq_true_eq] at *
  exact List.le_trans h1 h2
theorem leL_total : ∀ a b : List UInt8, (leL a b || leL b a) = true := by
  intro a b
  unfold leL
  simp only [Bool.or_eq_true, decide_eq_true_eq]
  exact List.le_total a b
theorem leL_anti {a b : List UInt8} (h1 : leL a b = true) (h2 : leL b a = true) : a = b := by
  unfold leL at *
  simp only [decide_eq_true_eq] at *
  exact List.le_antisymm h1 h2
def leS (a b : ByteArray) : Prop := leL (bl a) (bl b) = true
theorem sortS_sorted (l : List ByteArray) : (sortS l).Pairwise leS := by
  unfold sortS
  rw [List.pairwise_map]
  exact (List.pairwise_mergeSort (fun a b c => leL_trans a b c) leL_total (l.map bl)).imp fun h => h
theorem sortS_perm (l : List ByteArray) : (sortS l).Perm l := by
  unfold sortS
  have h := (List.mergeSort_perm (l.map bl) leL).map ofL
  rw [List.map_map] at h
  have e : (ofL ∘ bl) = id := by funext s; exact ofL_bl s
  rw [e, List.map_id] at h
  exact h
end Go.Proofs.YtoanccechefclaaGreatDoor
namespace Go.Proofs.YtoanccechefclaaGreatDoor
open Go Go.RowKit Go.Shelf
set_option maxRecDepth 100000
attribute [local go_sem] Oper.semAt_some
structure s_AppW (w wx : World) (v : Value) (out : List ByteArray) : Prop where
  keep : Keep w wx (fun _ => False)
  box : wx.heap[w.heap.size]? = some (.cells #[v] 79 (0, 0))
  row : wx.ownsRow 0 9 1 v out.length (out.map Value.string)
  new : ∀ b, v.ownBlock = some b → w.heap.size + 1 ≤ b
theorem s_own_is {w : World} {v : Value} {n : Nat} {xs : List Value} {e : TypeId} (h : w.ownsRow 0 e 1 v n xs) {b : Nat} (q : v.ownBlock = some b) : ∃ c t f, w.heap[b]? = some (.cells c t f) := by
  rcases h.2 with ⟨rfl, _⟩ | ⟨g, cap, cur, rfl, _, hb, _⟩
  · simp [Value.ownBlock] at q
  · simp only [Value.ownBlock, Option.some.injEq] at q
    subst q
    exact ⟨_, _, _, hb⟩
theorem s_AppW.far {w wx wy : World} {v : Value} {out : List ByteArray} (h : s_AppW w wx v out) {Bd : Nat} (hB : w.heap.size ≤ Bd) (k : Keep wx wy (fun b => Bd ≤ b ∧ ∃ o, wx.heap[b]? = some o ∧ o.isCells = false)) : s_AppW w wy v out := by
  refine ⟨h.keep.trans k (fun b q => .inr (by have := q.1; omega)), k.get h.box (fun q => not_cells h.box q.2), rows_keep h.row k (fun b q z => ?_), h.new⟩
  obtain ⟨c, t, f, hb⟩ := s_own_is h.row q
  obtain ⟨o, ho, hn⟩ := z.2
  rw [hb] at ho
  cases ho
  simp [Obj.isCells] at hn
end Go.Proofs.YtoanccechefclaaGreatDoor
namespace Go.Proofs.YtoanccechefclaaGreatDoor
open Go Go.RowKit Go.Shelf
def Turns (B : Nat) (X : Nat → Prop) (A : World) (b : Nat) : Prop := X b ∨ (B ≤ b ∧ ∃ o, A.heap[b]? = some o ∧ o.isCells = false)
def AbidesX {β : Type} (B : Nat) (X : Nat → Prop) (J : β → World → Prop) : Prop := ∀ s A A', J s A → Keep A A' (Turns B X A) → J s A'
theorem AbidesX.aside {β : Type} {B : Nat} {X : Nat → Prop} {J : β → World → Prop} (h : AbidesX B X J) {s : β} {A A' : World} (hs : J s A) (k : Keep A A' (fun _ => False)) : J s A' := h s A A' hs (k.mono fun _ q => q.elim)
theorem AbidesX.putObj {β : Type} {B : Nat} {X : Nat → Prop} {J : β → World → Prop} (h : AbidesX B X J) {s : β} {W : World} {l : Nat} {o : Obj} (o' : Obj) (hs : J s W) (hB : B ≤ l) (hl : W.heap[l]? = some o) (ho : o.isCells = false) : J s (W.putObj l o') :=
  h s W _ hs ((keep_of_grown (grownBy_putObj' W l o')).mono fun b e => .inr (by
    have : b = l := by simpa using e
    subst this
    exact ⟨hB, o, hl, ho⟩))
def SeqC {α : Type} (n : Nat) (P : Program) (g : Nat) (lb : Array Value) (enc : α → Value) (X : Nat → Nat → Prop) (e : Nat) (Kp : Nat → World → World → Prop) (S Sp : List α → Prop) (w : World) : Prop :=
  ∀ (l : Nat) (J Jx : List α → World → Prop) (W : World), Below w.heap.size w W → AbidesX W.heap.size (X W.heap.size) J → AbidesX W.heap.size (X W.heap.size) Jx →
    (∀ pre x U, J pre U → W.heap.size + e ≤ U.heap.size → pre.length ≤ 1000000 → YieldAt Fence.wide (n - 1) P l #[enc x] U fun r U' => (r = .returned (.bool true) ∧ J (pre ++ [x]) U' ∧ Kp W.heap.size U U' ∧ U.heap.size ≤ U'.heap.size) ∨ (r = .returned (.bool false) ∧ Jx (pre ++ [x]) U' ∧ Kp W.heap.size U U')) →
    J [] W → CallsIn Fence.wide n P g (#[.func (.yield l) #[] #[]] ++ lb) W fun e U => (∃ v, e = .returned v) ∧ ((∃ xs, S xs ∧ J xs U) ∨ (∃ pre, Sp pre ∧ Jx pre U))
def roundC {α : Type} (B : Nat) (Kp : World → World → Prop) (I : List α → World → Prop) (Ix : Code → List α → World → Prop) (xs : List α) (W : World) : Exit → Act → World → Prop
  | .normal, _, U => KeepsFrom B W U ∧ Kp W U ∧ I xs U
  | .ret, _, U => KeepsFrom B W U ∧ Kp W U ∧ Ix .ret xs U
  | .exit id, _, U => KeepsFrom B W U ∧ Kp W U ∧ Ix (.exit id) xs U
  | _, _, _ => False
theorem wp_rangeC {α : Type} {P : Program} {g : Operand} {p j : Tmp} {assign body : Code} {Q : Exit → Act → World → Prop} {a : Act} {w : World}
    {gf : Nat} {lb : Array Value} (hg : a.eval g = .func (.func gf) #[] lb) (eg : ∀ args w, (callFunc gf args).run P w = .ok (.enter gf args) w)
    {enc : α → Value} {X : Nat → Nat → Prop} {ee : Nat} {Kp : Nat → World → World → Prop} {S Sp : List α → Prop} (hseq : SeqC 8 P gf lb enc X ee Kp S Sp w) (hX : ∀ b, X (w.heap.size + 2) b → b < w.heap.size ∨ w.heap.size + 2 ≤ b)
    (hKt : ∀ {A B C : World}, Kp (w.heap.size + 2) A B → Kp (w.heap.size + 2) B C → Kp (w.heap.size + 2) A C) (hKb : ∀ (W : World) (l : Nat) (o o' : Obj), l = w.heap.size + 1 → W.heap[l]? = some o → o.isCells = false → o.isWalk = false → Kp (w.heap.size + 2) W (W.putObj l o'))
    (I : List α → World → Prop) (Ix : Code → List α → World → Prop) (hI : AbidesX w.heap.size (X (w.heap.size + 2)) I) (hIx : ∀ c, AbidesX w.heap.size (X (w.heap.size + 2)) (Ix c)) (h0 : I [] w)
    (hassign : ∀ (l : Nat) (x : α) (W : World) (K : Act → World → Prop), K { tmps := (a.tmps.setIfInBounds p (enc x)).setIfInBounds j (enc x), defers := [] } W →
      assign.wpIn (Fence.wide.inRound l) 7 P (Exit.then K (fun _ _ _ => False)) { tmps := a.tmps.setIfInBounds p (enc x), defers := [] } W)
    (hbody : ∀ (l : Nat) (pre : List α) (x : α) (W : World), I pre W → w.heap.size + 2 + ee ≤ W.heap.size → pre.length ≤ 1000000 → body.wpIn (Fence.wide.inRound l) 7 P (roundC w.heap.size (Kp (w.heap.size + 2)) I Ix (pre ++ [x]) W) { tmps := (a.tmps.setIfInBounds p (enc x)).setIfInBounds j (enc x), defers := [] } W)
    (hdone : ∀ (D : Nat) (xs : List α) (W : World), w.heap.size ≤ D → S xs → I xs W → W.heap[D]? = some (.deferred (some [])) → Q .normal { a with defers := { target := .collected D, args := #[] } :: a.defers } W)
    (hstop : ∀ (D : Nat) (c : Code) (pre : List α) (W : World), w.heap.size ≤ D → Sp pre → Ix c pre W → W.heap[D]? = some (.deferred (some [])) → c.wp P Q { a with defers := { target := .collected D, args := #[] } :: a.defers } W) :
    (Code.rangeFunc g #[p] assign body).wp P Q a w := by
  refine (wpIn_wide (n := 9)).1 (wpIn_rangeFunc fun fn _ => ?_)
  obtain ⟨L, hL⟩ : ∃ L : LoopState → Option Code → Loop, L = fun st pe => { state := st, pending := pe, fn, tmps := a.tmps, params := #[p], assign, body, defers := w.heap.size } := ⟨_, rfl⟩
  obtain ⟨V, hV⟩ : ∃ V, V = (w.alloc (.deferred (some []))).alloc (.loop (L .ready none)) := ⟨_, rfl⟩
  have v0 : V.heap[w.heap.size + 1]? = some (.loop (L .ready none)) := by
    rw [hV]
    have := World.alloc_heap_new (w.alloc (.deferred (some []))) (.loop (L .ready none))
    rwa [World.size_alloc] at this
  have v1 : V.heap[w.heap.size]? = some (.deferred (some [])) := by
    rw [hV]
    exact (Below.heap_alloc _ _ _ (by simp)).trans (World.alloc_heap_new w _)
  have vz : V.heap.size = w.heap.size + 2 := by rw [hV]; simp
  have vI : I [] V := by rw [hV]; exact hI.aside h0 ((Keep.alloc _ _ _).trans (Keep.alloc _ _ (fun _ => False)) (fun _ q => q.elim))
  have vB : Below w.heap.size w V := by
    rw [hV]
    exact ((Below.refl _ w).alloc (Nat.le_refl _) _).alloc (by simp) _
  have ht : ∀ {A A' : World}, Keep A A' (Turns V.heap.size (X V.heap.size) A) → Keep A A' (Turns w.heap.size (X (w.heap.size + 2)) A) := fun k => k.mono fun b q => by
    rcases q with q | ⟨q1, q2⟩
    · rw [vz] at q; exact .inl q
    · exact .inr ⟨by omega, q2⟩
  have hn1 : ∀ {A : World}, ¬ Turns V.heap.size (X V.heap.size) A (w.heap.size + 1) := fun q => by
    rcases q with q | q
    · rw [vz] at q; have := hX _ q; omega
    · have := q.1; omega
  have hn0 : ∀ {A : World}, ¬ Turns V.heap.size (X V.heap.size) A w.heap.size := fun q => by
    rcases q with q | q
    · rw [vz] at q; have := hX _ q; omega
    · have := q.1; omega
  refine ⟨w.heap.size + 1, [{ target := .collected w.heap.size, args := #[] }], V, { target := .fn (.func gf) lb, args := #[.func (.yield (w.heap.size + 1)) #[] #[]] }, V, gf,
    #[.func (.yield (w.heap.size + 1)) #[] #[]] ++ lb, V, by rw [hV, hL]; exact run_enterLoop_outer _ _ _ _ _, by simp only [resolve, hg]; simp [go_sem], fun f' _ => trivial, by simp [invoke, go_sem, eg], fun _ => by omega, ?_⟩
  refine (hseq (w.heap.size + 1) (fun pre W => I pre W ∧ W.heap[w.heap.size + 1]? = some (.loop (L .ready none)) ∧ W.heap[w.heap.size]? = some (.deferred (some [])))
    (fun pre W => ∃ c, Ix c pre W ∧ W.heap[w.heap.size + 1]? = some (.loop (L .done (some c))) ∧ W.heap[w.heap.size]? = some (.deferred (some []))) V vB
    (fun s A B hs k => ⟨hI s A B hs.1 (ht k), k.get hs.2.1 hn1, k.get hs.2.2 hn0⟩)
    (fun s A B hs k => by
      obtain ⟨c, q1, q2, q3⟩ := hs
      exact ⟨c, hIx c s A B q1 (ht k), k.get q2 hn1, k.get q3 hn0⟩)
    ?_ ⟨vI, v0, v1⟩).mono ?_
  · rintro pre x W ⟨hi, hl, hk⟩ hsz hlen
    rw [vz] at hsz ⊢
    have hlt : w.heap.size + 1 < W.heap.size := lt_of_blk hl
    have hy : (Instr.yield (w.heap.size + 1) #[enc x]).run P W = .ok (.round (w.heap.size + 1) fn (a.tmps.setIfInBounds p (enc x)) assign body) W := by
      have hy := run_yield (P := P) (args := #[enc x]) hl (by rw [hL]; rfl)
      rw [hL] at hy
      simpa using hy
    refine ⟨fn, _, assign, body, hy, roundIn_of_wpIn trivial ?_⟩
    refine hassign (w.heap.size + 1) x W _ ?_
    refine ⟨_, run_beginRound hl (by rw [hL]), ?_⟩
    obtain ⟨b0, hb0⟩ : ∃ b0 : Loop, b0 = { L .ready none with state := .busy } := ⟨_, rfl⟩
    rw [← hb0]
    have hl2 : (W.putObj (w.heap.size + 1) (.loop b0)).heap[w.heap.size + 1]? = some (.loop b0) := World.putObj_heap_same hlt
    have hk2 : (W.putObj (w.heap.size + 1) (.loop b0)).heap[w.heap.size]? = some (.deferred (some [])) := (World.putObj_heap_other (by omega)).trans hk
    have hw2 : Kp (w.heap.size + 2) W (W.putObj (w.heap.size + 1) (.loop b0)) := hKb _ _ _ _ rfl hl rfl rfl
    have hi2 := hI.putObj (.loop b0) hi (by omega) hl rfl
    have hz2 : (W.putObj (w.heap.size + 1) (.loop b0)).heap.size = W.heap.size := by simp [World.putObj]
    generalize W.putObj (w.heap.size + 1) (.loop b0) = U2 at *
    refine wpIn_mono (hbody _ pre x _ hi2 (by omega) hlen) ?_
    have fin : ∀ (jump : Option Code) (U3 : World), KeepsFrom w.heap.size U2 U3 → ∃ U4, U4 = U3.putObj (w.heap.size + 1) (.loop (L (if jump.isNone then .ready else .done) jump)) ∧ (Instr.endRound (w.heap.size + 1) jump).run P U3 = .ok (.bool jump.isNone) U4 ∧
        U3.heap[w.heap.size + 1]? = some (.loop b0) ∧ U4.heap[w.heap.size + 1]? = some (.loop (L (if jump.isNone then .ready else .done) jump)) ∧ U4.heap[w.heap.size]? = some (.deferred (some [])) := fun jump U3 hk3 => by
      have q := hk3.same _ _ (by omega) hl2 rfl
      have r := run_endRound (P := P) jump q
      refine ⟨_, rfl, ?_, q, World.putObj_heap_same (lt_of_blk q), (World.putObj_heap_other (by omega)).trans (hk3.same _ _ (Nat.le_refl _) hk2 rfl)⟩
      rw [r, hb0, hL]
    rintro e a3 U3 hp
    cases e with
    | normal =>
      obtain ⟨k1, k2, k3⟩ := hp
      obtain ⟨U4, e4, r1, r2, r3, r4⟩ := fin none U3 k1
      have kb : Kp (w.heap.size + 2) U3 U4 := by rw [e4]; exact hKb _ _ _ _ rfl r2 rfl rfl
      refine ⟨_, _, r1, .inl ⟨rfl, ⟨?_, r3, r4⟩, hKt hw2 (hKt k2 kb), by
        have h1 := k1.size
        have h2 : U4.heap.size = U3.heap.size := by rw [e4]; simp [World.putObj]
        omega⟩⟩
      rw [e4]; exact hI.putObj _ k3 (by omega) r2 rfl
    | exit id =>
      obtain ⟨k1, k2, k3⟩ := hp
      obtain ⟨U4, e4, r1, r2, r3, r4⟩ := fin (some (.exit id)) U3 k1
      have kb : Kp (w.heap.size + 2) U3 U4 := by rw [e4]; exact hKb _ _ _ _ rfl r2 rfl rfl
      refine ⟨_, _, r1, .inr ⟨rfl, ⟨.exit id, ?_, r3, r4⟩, hKt hw2 (hKt k2 kb)⟩⟩
      rw [e4]; exact (hIx _).putObj _ k3 (by omega) r2 rfl
    | ret =>
      obtain ⟨k1, k2, k3⟩ := hp
      obtain ⟨U4, e4, r1, r2, r3, r4⟩ := fin (some .ret) U3 k1
      have kb : Kp (w.heap.size + 2) U3 U4 := by rw [e4]; exact hKb _ _ _ _ rfl r2 rfl rfl
      refine ⟨_, _, r1, .inr ⟨rfl, ⟨.ret, ?_, r3, r4⟩, hKt hw2 (hKt k2 kb)⟩⟩
      rw [e4]; exact (hIx _).putObj _ k3 (by omega) r2 rfl
    | goto t => exact hp.elim
    | panic ch => exact hp.elim
    | outgrown => exact hp.elim
  · rintro e U ⟨⟨v, rfl⟩, (⟨xs, z1, z2, z3, z4⟩ | ⟨pre, z1, c, z2, z3, z4⟩)⟩
    · have r := run_endLoop (P := P) z3 (by rw [hL]; simp)
      refine ⟨none, U.putObj (w.heap.size + 1) (.loop { L .ready none with state := .exhausted }), by rw [r, hL], hdone _ xs _ (Nat.le_refl _) z1 (hI.putObj _ z2 (by omega) z3 rfl) ((World.putObj_heap_other (by omega)).trans z4)⟩
    · have r := run_endLoop (P := P) z3 (by rw [hL]; simp)
      refine ⟨some c, U.putObj (w.heap.size + 1) (.loop { L .done (some c) with state := .exhausted }), by rw [r, hL], wpIn_wide.2 (hstop _ c pre _ (Nat.le_refl _) z1 ((hIx c).putObj _ z2 (by omega) z3 rfl) ((World.putObj_heap_other (by omega)).trans z4))⟩
theorem RoundIn.inRound {F : Fence} {n : Nat} {P : Program} {l f : Nat} {tmps : Array Value} {assign body : Code} {w : World} {R : Ending → World → Prop} (h : RoundIn F n P l f tmps assign body w R) (l' : Nat) : RoundIn (F.inRound l') n P l f tmps assign body w R := h
theorem RoundIn.wide {n m : Nat} {P : Program} {l f : Nat} {tmps : Array Value} {assign body : Code} {w : World} {R : Ending → World → Prop} (h : RoundIn Fence.wide n P l f tmps assign body w R) : RoundIn Fence.wide m P l f tmps assign body w R := ⟨h.1, fun c cs _ => h.2 c cs (room_wide _)⟩
end Go.Proofs.YtoanccechefclaaGreatDoor
namespace Go.Proofs.YtoanccechefclaaGreatDoor
open Go Go.RowKit Go.Shelf
def SeqD {α : Type} (n : Nat) (P : Program) (g : Nat) (lb : Array Value) (enc : α → Array Value) (X : Nat → Nat → Prop) (e : Nat) (Kp : Nat → World → World → Prop) (S Sp : List α → Prop) (w : World) : Prop :=
  ∀ (l : Nat) (J Jx : List α → World → Prop) (W : World), Below w.heap.size w W → AbidesX W.heap.size (X W.heap.size) J → AbidesX W.heap.size (X W.heap.size) Jx →
    (∀ pre x U, J pre U → W.heap.size + e ≤ U.heap.size → pre.length ≤ 1000000 → YieldAt Fence.wide (n - 1) P l (enc x) U fun r U' => (r = .returned (.bool true) ∧ J (pre ++ [x]) U' ∧ Kp W.heap.size U U' ∧ U.heap.size ≤ U'.heap.size) ∨ (r = .returned (.bool false) ∧ Jx (pre ++ [x]) U' ∧ Kp W.heap.size U U')) →
    J [] W → CallsIn Fence.wide n P g (#[.func (.yield l) #[] #[]] ++ lb) W fun e U => (∃ v, e = .returned v) ∧ ((∃ xs, S xs ∧ J xs U) ∨ (∃ pre, Sp pre ∧ Jx pre U))
theorem wp_rangeD {α : Type} {P : Program} {g : Operand} {ps : Array Tmp} {assign body : Code} {Q : Exit → Act → World → Prop} {a : Act} {w : World}
    {gf : Nat} {lb : Array Value} (hg : a.eval g = .func (.func gf) #[] lb) (eg : ∀ args w, (callFunc gf args).run P w = .ok (.enter gf args) w)
    {enc : α → Array Value} {X : Nat → Nat → Prop} {ee : Nat} {Kp : Nat → World → World → Prop} {S Sp : List α → Prop} (hseq : SeqD 8 P gf lb enc X ee Kp S Sp w) (hX : ∀ b, X (w.heap.size + 2) b → b < w.heap.size ∨ w.heap.size + 2 ≤ b)
    (hKt : ∀ {A B C : World}, Kp (w.heap.size + 2) A B → Kp (w.heap.size + 2) B C → Kp (w.heap.size + 2) A C) (hKb : ∀ (W : World) (l : Nat) (o o' : Obj), l = w.heap.size + 1 → W.heap[l]? = some o → o.isCells = false → o.isWalk = false → Kp (w.heap.size + 2) W (W.putObj l o'))
    (hps : ∀ x, (enc x).size = ps.size) (hKf : ∀ {A B : World}, Keep A B (fun _ => False) → Kp (w.heap.size + 2) A B) (box : α → Obj) (fr : α → Nat → Array Value → Array Value) (par : α → Array Value → Array Value) (hpar : ∀ x t, (ps.zip (enc x)).foldl (fun tmps (t, a) => tmps.setIfInBounds t a) t = par x t)
    (I : List α → World → Prop) (Ix : Code → List α → World → Prop) (hI : AbidesX w.heap.size (X (w.heap.size + 2)) I) (hIx : ∀ c, AbidesX w.heap.size (X (w.heap.size + 2)) (Ix c)) (h0 : I [] w)
    (hassign : ∀ (l : Nat) (x : α) (W : World) (K : Act → World → Prop), (∀ W', Keep W W' (fun _ => False) → W'.heap[W.heap.size]? = some (box x) → K { tmps := fr x W.heap.size a.tmps, defers := [] } W') →
      assign.wpIn (Fence.wide.inRound l) 7 P (Exit.then K (fun _ _ _ => False)) { tmps := par x a.tmps, defers := [] } W)
    (hbody : ∀ (l : Nat) (pre : List α) (x : α) (W : World) (B : Nat), I pre W → w.heap.size + 2 + ee ≤ B → W.heap[B]? = some (box x) → pre.length ≤ 1000000 → body.wpIn (Fence.wide.inRound l) 7 P (roundC w.heap.size (Kp (w.heap.size + 2)) I Ix (pre ++ [x]) W) { tmps := fr x B a.tmps, defers := [] } W)
    (hdone : ∀ (D : Nat) (xs : List α) (W : World), w.heap.size ≤ D → S xs → I xs W → W.heap[D]? = some (.deferred (some [])) → Q .normal { a with defers := { target := .collected D, args := #[] } :: a.defers } W)
    (hstop : ∀ (D : Nat) (c : Code) (pre : List α) (W : World), w.heap.size ≤ D → Sp pre → Ix c pre W → W.heap[D]? = some (.deferred (some [])) → c.wp P Q { a with defers := { target := .collected D, args := #[] } :: a.defers } W) :
    (Code.rangeFunc g ps assign body).wp P Q a w := by
  refine (wpIn_wide (n := 9)).1 (wpIn_rangeFunc fun fn _ => ?_)
  obtain ⟨L, hL⟩ : ∃ L : LoopState → Option Code → Loop, L = fun st pe => { state := st, pending := pe, fn, tmps := a.tmps, params := ps, assign, body, defers := w.heap.size } := ⟨_, rfl⟩
  obtain ⟨V, hV⟩ : ∃ V, V = (w.alloc (.deferred (some []))).alloc (.loop (L .ready none)) := ⟨_, rfl⟩
  have v0 : V.heap[w.heap.size + 1]? = some (.loop (L .ready none)) := by
    rw [hV]
    have := World.alloc_heap_new (w.alloc (.deferred (some []))) (.loop (L .ready none))
    rwa [World.size_alloc] at this
  have v1 : V.heap[w.heap.size]? = some (.deferred (some [])) := by
    rw [hV]
    exact (Below.heap_alloc _ _ _ (by simp)).trans (World.alloc_heap_new w _)
  have vz : V.heap.size = w.heap.size + 2 := by rw [hV]; simp
  have vI : I [] V := by rw [hV]; exact hI.aside h0 ((Keep.alloc _ _ _).trans (Keep.alloc _ _ (fun _ => False)) (fun _ q => q.elim))
  have vB : Below w.heap.size w V := by
    rw [hV]
    exact ((Below.refl _ w).alloc (Nat.le_refl _) _).alloc (by simp) _
  have ht : ∀ {A A' : World}, Keep A A' (Turns V.heap.size (X V.heap.size) A) → Keep A A' (Turns w.heap.size (X (w.heap.size + 2)) A) := fun k => k.mono fun b q => by
    rcases q with q | ⟨q1, q2⟩
    · rw [vz] at q; exact .inl q
    · exact .inr ⟨by omega, q2⟩
  have hn1 : ∀ {A : World}, ¬ Turns V.heap.size (X V.heap.size) A (w.heap.size + 1) := fun q => by
    rcases q with q | q
    · rw [vz] at q; have := hX _ q; omega
    · have := q.1; omega
  have hn0 : ∀ {A : World}, ¬ Turns V.heap.size (X V.heap.size) A w.heap.size := fun q => by
    rcases q with q | q
    · rw [vz] at q; have := hX _ q; omega
    · have := q.1; omega
  refine ⟨w.heap.size + 1, [{ target := .collected w.heap.size, args := #[] }], V, { target := .fn (.func gf) lb, args := #[.func (.yield (w.heap.size + 1)) #[] #[]] }, V, gf,
    #[.func (.yield (w.heap.size + 1)) #[] #[]] ++ lb, V, by rw [hV, hL]; exact run_enterLoop_outer _ _ _ _ _, by simp only [resolve, hg]; simp [go_sem], fun f' _ => trivial, by simp [invoke, go_sem, eg], fun _ => by omega, ?_⟩
  refine (hseq (w.heap.size + 1) (fun pre W => I pre W ∧ W.heap[w.heap.size + 1]? = some (.loop (L .ready none)) ∧ W.heap[w.heap.size]? = some (.deferred (some [])))
    (fun pre W => ∃ c, Ix c pre W ∧ W.heap[w.heap.size + 1]? = some (.loop (L .done (some c))) ∧ W.heap[w.heap.size]? = some (.deferred (some []))) V vB
    (fun s A B hs k => ⟨hI s A B hs.1 (ht k), k.get hs.2.1 hn1, k.get hs.2.2 hn0⟩)
    (fun s A B hs k => by
      obtain ⟨c, q1, q2, q3⟩ := hs
      exact ⟨c, hIx c s A B q1 (ht k), k.get q2 hn1, k.get q3 hn0⟩)
    ?_ ⟨vI, v0, v1⟩).mono ?_
  · rintro pre x W ⟨hi, hl, hk⟩ hsz hlen
    rw [vz] at hsz ⊢
    have hy : (Instr.yield (w.heap.size + 1) (enc x)).run P W = .ok (.round (w.heap.size + 1) fn (par x a.tmps) assign body) W := by
      rw [← hpar]
      have hy := run_yield (P := P) (args := enc x) hl (by rw [hL]; exact hps x)
      rw [hL] at hy
      exact hy
    refine ⟨fn, _, assign, body, hy, roundIn_of_wpIn trivial ?_⟩
    refine hassign (w.heap.size + 1) x W _ ?_
    intro Wa kA hbx
    have hwA : Kp (w.heap.size + 2) W Wa := hKf kA
    replace hi := hI.aside hi kA
    replace hl := kA.get hl (fun q => q)
    replace hk := kA.get hk (fun q => q)
    have hszA := kA.size
    have hlt : w.heap.size + 1 < Wa.heap.size := lt_of_blk hl
    obtain ⟨Bb, hBb⟩ : ∃ Bb, Bb = W.heap.size := ⟨_, rfl⟩
    rw [← hBb] at hbx hsz hszA ⊢
    clear hBb
    refine ⟨_, run_beginRound hl (by rw [hL]), ?_⟩
    obtain ⟨b0, hb0⟩ : ∃ b0 : Loop, b0 = { L .ready none with state := .busy } := ⟨_, rfl⟩
    rw [← hb0]
    have hbx2 : (Wa.putObj (w.heap.size + 1) (.loop b0)).heap[Bb]? = some (box x) := (World.putObj_heap_other (by omega)).trans hbx
    have hl2 : (Wa.putObj (w.heap.size + 1) (.loop b0)).heap[w.heap.size + 1]? = some (.loop b0) := World.putObj_heap_same hlt
    have hk2 : (Wa.putObj (w.heap.size + 1) (.loop b0)).heap[w.heap.size]? = some (.deferred (some [])) := (World.putObj_heap_other (by omega)).trans hk
    have hw2 : Kp (w.heap.size + 2) Wa (Wa.putObj (w.heap.size + 1) (.loop b0)) := hKb _ _ _ _ rfl hl rfl rfl
    have hi2 := hI.putObj (.loop b0) hi (by omega) hl rfl
    have hz2 : (Wa.putObj (w.heap.size + 1) (.loop b0)).heap.size = Wa.heap.size := by simp [World.putObj]
    replace hw2 := hKt hwA hw2
    generalize Wa.putObj (w.heap.size + 1) (.loop b0) = U2 at *
    refine wpIn_mono (hbody _ pre x _ Bb hi2 (by omega) hbx2 hlen) ?_
    have fin : ∀ (jump : Option Code) (U3 : World), KeepsFrom w.heap.size U2 U3 → ∃ U4, U4 = U3.putObj (w.heap.size + 1) (.loop (L (if jump.isNone then .ready else .done) jump)) ∧ (Instr.endRound (w.heap.size + 1) jump).run P U3 = .ok (.bool jump.isNone) U4 ∧
        U3.heap[w.heap.size + 1]? = some (.loop b0) ∧ U4.heap[w.heap.size + 1]? = some (.loop (L (if jump.isNone then .ready else .done) jump)) ∧ U4.heap[w.heap.size]? = some (.deferred (some [])) := fun jump U3 hk3 => by
      have q := hk3.same _ _ (by omega) hl2 rfl
      have r := run_endRound (P := P) jump q
      refine ⟨_, rfl, ?_, q, World.putObj_heap_same (lt_of_blk q), (World.putObj_heap_other (by omega)).trans (hk3.same _ _ (Nat.le_refl _) hk2 rfl)⟩
      rw [r, hb0, hL]
    rintro e a3 U3 hp
    cases e with
    | normal =>
      obtain ⟨k1, k2, k3⟩ := hp
      obtain ⟨U4, e4, r1, r2, r3, r4⟩ := fin none U3 k1
      have kb : Kp (w.heap.size + 2) U3 U4 := by rw [e4]; exact hKb _ _ _ _ rfl r2 rfl rfl
      refine ⟨_, _, r1, .inl ⟨rfl, ⟨?_, r3, r4⟩, hKt hw2 (hKt k2 kb), by
        have h1 := k1.size
        have h2 : U4.heap.size = U3.heap.size := by rw [e4]; simp [World.putObj]
        omega⟩⟩
      rw [e4]; exact hI.putObj _ k3 (by omega) r2 rfl
    | exit id =>
      obtain ⟨k1, k2, k3⟩ := hp
      obtain ⟨U4, e4, r1, r2, r3, r4⟩ := fin (some (.exit id)) U3 k1
      have kb : Kp (w.heap.size + 2) U3 U4 := by rw [e4]; exact hKb _ _ _ _ rfl r2 rfl rfl
      refine ⟨_, _, r1, .inr ⟨rfl, ⟨.exit id, ?_, r3, r4⟩, hKt hw2 (hKt k2 kb)⟩⟩
      rw [e4]; exact (hIx _).putObj _ k3 (by omega) r2 rfl
    | ret =>
      obtain ⟨k1, k2, k3⟩ := hp
      obtain ⟨U4, e4, r1, r2, r3, r4⟩ := fin (some .ret) U3 k1
      have kb : Kp (w.heap.size + 2) U3 U4 := by rw [e4]; exact hKb _ _ _ _ rfl r2 rfl rfl
      refine ⟨_, _, r1, .inr ⟨rfl, ⟨.ret, ?_, r3, r4⟩, hKt hw2 (hKt k2 kb)⟩⟩
      rw [e4]; exact (hIx _).putObj _ k3 (by omega) r2 rfl
    | goto t => exact hp.elim
    | panic ch => exact hp.elim
    | outgrown => exact hp.elim
  · rintro e U ⟨⟨v, rfl⟩, (⟨xs, z1, z2, z3, z4⟩ | ⟨pre, z1, c, z2, z3, z4⟩)⟩
    · have r := run_endLoop (P := P) z3 (by rw [hL]; simp)
      refine ⟨none, U.putObj (w.heap.size + 1) (.loop { L .ready none with state := .exhausted }), by rw [r, hL], hdone _ xs _ (Nat.le_refl _) z1 (hI.putObj _ z2 (by omega) z3 rfl) ((World.putObj_heap_other (by omega)).trans z4)⟩
    · have r := run_endLoop (P := P) z3 (by rw [hL]; simp)
      refine ⟨some c, U.putObj (w.heap.size + 1) (.loop { L .done (some c) with state := .exhausted }), by rw [r, hL], wpIn_wide.2 (hstop _ c pre _ (Nat.le_refl _) z1 ((hIx c).putObj _ z2 (by omega) z3 rfl) ((World.putObj_heap_other (by omega)).trans z4))⟩
theorem zip_two (p q : Tmp) (u v : Value) (t : Array Value) : ((#[p, q] : Array Tmp).zip #[u, v]).foldl (fun (tmps : Array Value) (x : Tmp × Value) => tmps.setIfInBounds x.1 x.2) t = (t.setIfInBounds p u).setIfInBounds q v := by
  simp
end Go.Proofs.YtoanccechefclaaGreatDoor
namespace Go.Proofs.YtoanccechefclaaGreatDoor
open Go Go.RowKit Go.Shelf
def SeqE {α : Type} (n : Nat) (P : Program) (g : Nat) (lb : Array Value) (enc : α → Array Value) (X : Nat → Nat → Prop) (Kp : Nat → Nat → World → World → Prop) (S Sp : List α → Prop) (w : World) : Prop :=
  ∀ (l : Nat) (J Jx : Nat → List α → World → Prop) (W : World), Below w.heap.size w W → (∀ M, AbidesX W.heap.size (X W.heap.size) (J M)) → (∀ M, AbidesX W.heap.size (X W.heap.size) (Jx M)) →
    (∀ M pre x U, J M pre U → W.heap.size ≤ M → M ≤ U.heap.size → pre.length ≤ 1000000 → YieldAt Fence.wide (n - 1) P l (enc x) U fun r U' => (r = .returned (.bool true) ∧ J M (pre ++ [x]) U' ∧ Kp M W.heap.size U U' ∧ U.heap.size ≤ U'.heap.size) ∨ (r = .returned (.bool false) ∧ Jx M (pre ++ [x]) U' ∧ Kp M W.heap.size U U')) →
    (∀ M, J M [] W) → CallsIn Fence.wide n P g (#[.func (.yield l) #[] #[]] ++ lb) W fun e U => (∃ v, e = .returned v) ∧ ((∃ M xs, S xs ∧ J M xs U) ∨ (∃ M pre, Sp pre ∧ Jx M pre U))
theorem wp_rangeE {α : Type} {P : Program} {g : Operand} {ps : Array Tmp} {assign body : Code} {Q : Exit → Act → World → Prop} {a : Act} {w : World}
    {gf : Nat} {lb : Array Value} (hg : a.eval g = .func (.func gf) #[] lb) (eg : ∀ args w, (callFunc gf args).run P w = .ok (.enter gf args) w)
    {enc : α → Array Value} {X : Nat → Nat → Prop} {Kp : Nat → Nat → World → World → Prop} {S Sp : List α → Prop} (hseq : SeqE 8 P gf lb enc X Kp S Sp w) (hX : ∀ b, X (w.heap.size + 2) b → b < w.heap.size ∨ w.heap.size + 2 ≤ b)
    (hKt : ∀ {M : Nat} {A B C : World}, Kp M (w.heap.size + 2) A B → Kp M (w.heap.size + 2) B C → Kp M (w.heap.size + 2) A C) (hKb : ∀ (M : Nat) (W : World) (l : Nat) (o o' : Obj), l = w.heap.size + 1 → W.heap[l]? = some o → o.isCells = false → o.isWalk = false → Kp M (w.heap.size + 2) W (W.putObj l o'))
    (hps : ∀ x, (enc x).size = ps.size) (hKf : ∀ {M : Nat} {A B : World}, Keep A B (fun _ => False) → Kp M (w.heap.size + 2) A B) (box : α → Option Obj) (fr : α → Nat → Array Value → Array Value) (par : α → Array Value → Array Value) (hpar : ∀ x t, (ps.zip (enc x)).foldl (fun tmps (t, a) => tmps.setIfInBounds t a) t = par x t)
    (I : Nat → List α → World → Prop) (Ix : Nat → Code → List α → World → Prop) (hI : ∀ M, AbidesX w.heap.size (X (w.heap.size + 2)) (I M)) (hIx : ∀ M c, AbidesX w.heap.size (X (w.heap.size + 2)) (Ix M c)) (h0 : ∀ M, I M [] w)
    (hassign : ∀ (l : Nat) (x : α) (W : World) (K : Act → World → Prop), (∀ W', Keep W W' (fun _ => False) → (∀ o, box x = some o → W'.heap[W.heap.size]? = some o) → K { tmps := fr x W.heap.size a.tmps, defers := [] } W') →
      assign.wpIn (Fence.wide.inRound l) 7 P (Exit.then K (fun _ _ _ => False)) { tmps := par x a.tmps, defers := [] } W)
    (hbody : ∀ (l M : Nat) (pre : List α) (x : α) (W : World) (B : Nat), I M pre W → w.heap.size + 2 ≤ M → M ≤ B → B ≤ W.heap.size → (∀ o, box x = some o → W.heap[B]? = some o) → pre.length ≤ 1000000 → body.wpIn (Fence.wide.inRound l) 7 P (roundC w.heap.size (Kp M (w.heap.size + 2)) (I M) (Ix M) (pre ++ [x]) W) { tmps := fr x B a.tmps, defers := [] } W)
    (hdone : ∀ (D M : Nat) (xs : List α) (W : World), w.heap.size ≤ D → S xs → I M xs W → W.heap[D]? = some (.deferred (some [])) → Q .normal { a with defers := { target := .collected D, args := #[] } :: a.defers } W)
    (hstop : ∀ (D M : Nat) (c : Code) (pre : List α) (W : World), w.heap.size ≤ D → Sp pre → Ix M c pre W → W.heap[D]? = some (.deferred (some [])) → c.wp P Q { a with defers := { target := .collected D, args := #[] } :: a.defers } W) :
    (Code.rangeFunc g ps assign body).wp P Q a w := by
  refine (wpIn_wide (n := 9)).1 (wpIn_rangeFunc fun fn _ => ?_)
  obtain ⟨L, hL⟩ : ∃ L : LoopState → Option Code → Loop, L = fun st pe => { state := st, pending := pe, fn, tmps := a.tmps, params := ps, assign, body, defers := w.heap.size } := ⟨_, rfl⟩
  obtain ⟨V, hV⟩ : ∃ V, V = (w.alloc (.deferred (some []))).alloc (.loop (L .ready none)) := ⟨_, rfl⟩
  have v0 : V.heap[w.heap.size + 1]? = some (.loop (L .ready none)) := by
    rw [hV]
    have := World.alloc_heap_new (w.alloc (.deferred (some []))) (.loop (L .ready none))
    rwa [World.size_alloc] at this
  have v1 : V.heap[w.heap.size]? = some (.deferred (some [])) := by
    rw [hV]
    exact (Below.heap_alloc _ _ _ (by simp)).trans (World.alloc_heap_new w _)
  have vz : V.heap.size = w.heap.size + 2 := by rw [hV]; simp
  have vI : ∀ M, I M [] V := fun M => by rw [hV]; exact (hI M).aside (h0 M) ((Keep.alloc _ _ _).trans (Keep.alloc _ _ (fun _ => False)) (fun _ q => q.elim))
  have vB : Below w.heap.size w V := by
    rw [hV]
    exact ((Below.refl _ w).alloc (Nat.le_refl _) _).alloc (by simp) _
  have ht : ∀ {A A' : World}, Keep A A' (Turns V.heap.size (X V.heap.size) A) → Keep A A' (Turns w.heap.size (X (w.heap.size + 2)) A) := fun k => k.mono fun b q => by
    rcases q with q | ⟨q1, q2⟩
    · rw [vz] at q; exact .inl q
    · exact .inr ⟨by omega, q2⟩
  have hn1 : ∀ {A : World}, ¬ Turns V.heap.size (X V.heap.size) A (w.heap.size + 1) := fun q => by
    rcases q with q | q
    · rw [vz] at q; have := hX _ q; omega
    · have := q.1; omega
  have hn0 : ∀ {A : World}, ¬ Turns V.heap.size (X V.heap.size) A w.heap.size := fun q => by
    rcases q with q | q
    · rw [vz] at q; have := hX _ q; omega
    · have := q.1; omega
  refine ⟨w.heap.size + 1, [{ target := .collected w.heap.size, args := #[] }], V, { target := .fn (.func gf) lb, args := #[.func (.yield (w.heap.size + 1)) #[] #[]] }, V, gf,
    #[.func (.yield (w.heap.size + 1)) #[] #[]] ++ lb, V, by rw [hV, hL]; exact run_enterLoop_outer _ _ _ _ _, by simp only [resolve, hg]; simp [go_sem], fun f' _ => trivial, by simp [invoke, go_sem, eg], fun _ => by omega, ?_⟩
  refine (hseq (w.heap.size + 1) (fun M pre W => I M pre W ∧ W.heap[w.heap.size + 1]? = some (.loop (L .ready none)) ∧ W.heap[w.heap.size]? = some (.deferred (some [])))
    (fun M pre W => ∃ c, Ix M c pre W ∧ W.heap[w.heap.size + 1]? = some (.loop (L .done (some c))) ∧ W.heap[w.heap.size]? = some (.deferred (some []))) V vB
    (fun M s A B hs k => ⟨hI M s A B hs.1 (ht k), k.get hs.2.1 hn1, k.get hs.2.2 hn0⟩)
    (fun M s A B hs k => by
      obtain ⟨c, q1, q2, q3⟩ := hs
      exact ⟨c, hIx M c s A B q1 (ht k), k.get q2 hn1, k.get q3 hn0⟩)
    ?_ (fun M => ⟨vI M, v0, v1⟩)).mono ?_
  · rintro M pre x W ⟨hi, hl, hk⟩ hMz hsz hlen
    rw [vz] at hMz ⊢
    have hy : (Instr.yield (w.heap.size + 1) (enc x)).run P W = .ok (.round (w.heap.size + 1) fn (par x a.tmps) assign body) W := by
      rw [← hpar]
      have hy := run_yield (P := P) (args := enc x) hl (by rw [hL]; exact hps x)
      rw [hL] at hy
      exact hy
    refine ⟨fn, _, assign, body, hy, roundIn_of_wpIn trivial ?_⟩
    refine hassign (w.heap.size + 1) x W _ ?_
    intro Wa kA hbx
    have hwA : Kp M (w.heap.size + 2) W Wa := hKf kA
    replace hi := (hI M).aside hi kA
    replace hl := kA.get hl (fun q => q)
    replace hk := kA.get hk (fun q => q)
    have hszA := kA.size
    have hlt : w.heap.size + 1 < Wa.heap.size := lt_of_blk hl
    obtain ⟨Bb, hBb⟩ : ∃ Bb, Bb = W.heap.size := ⟨_, rfl⟩
    rw [← hBb] at hbx hsz hszA ⊢
    clear hBb
    refine ⟨_, run_beginRound hl (by rw [hL]), ?_⟩
    obtain ⟨b0, hb0⟩ : ∃ b0 : Loop, b0 = { L .ready none with state := .busy } := ⟨_, rfl⟩
    rw [← hb0]
    have hbx2 : ∀ o, box x = some o → (Wa.putObj (w.heap.size + 1) (.loop b0)).heap[Bb]? = some o := fun o ho => (World.putObj_heap_other (by omega)).trans (hbx o ho)
    have hl2 : (Wa.putObj (w.heap.size + 1) (.loop b0)).heap[w.heap.size + 1]? = some (.loop b0) := World.putObj_heap_same hlt
    have hk2 : (Wa.putObj (w.heap.size + 1) (.loop b0)).heap[w.heap.size]? = some (.deferred (some [])) := (World.putObj_heap_other (by omega)).trans hk
    have hw2 : Kp M (w.heap.size + 2) Wa (Wa.putObj (w.heap.size + 1) (.loop b0)) := hKb M _ _ _ _ rfl hl rfl rfl
    have hi2 := (hI M).putObj (.loop b0) hi (by omega) hl rfl
    have hz2 : (Wa.putObj (w.heap.size + 1) (.loop b0)).heap.size = Wa.heap.size := by simp [World.putObj]
    replace hw2 := hKt hwA hw2
    generalize Wa.putObj (w.heap.size + 1) (.loop b0) = U2 at *
    refine wpIn_mono (hbody _ M pre x _ Bb hi2 hMz hsz (by omega) hbx2 hlen) ?_
    have fin : ∀ (jump : Option Code) (U3 : World), KeepsFrom w.heap.size U2 U3 → ∃ U4, U4 = U3.putObj (w.heap.size + 1) (.loop (L (if jump.isNone then .ready else .done) jump)) ∧ (Instr.endRound (w.heap.size + 1) jump).run P U3 = .ok (.bool jump.isNone) U4 ∧
        U3.heap[w.heap.size + 1]? = some (.loop b0) ∧ U4.heap[w.heap.size + 1]? = some (.loop (L (if jump.isNone then .ready else .done) jump)) ∧ U4.heap[w.heap.size]? = some (.deferred (some [])) := fun jump U3 hk3 => by
      have q := hk3.same _ _ (by omega) hl2 rfl
      have r := run_endRound (P := P) jump q
      refine ⟨_, rfl, ?_, q, World.putObj_heap_same (lt_of_blk q), (World.putObj_heap_other (by omega)).trans (hk3.same _ _ (Nat.le_refl _) hk2 rfl)⟩
      rw [r, hb0, hL]
    rintro e a3 U3 hp
    cases e with
    | normal =>
      obtain ⟨k1, k2, k3⟩ := hp
      obtain ⟨U4, e4, r1, r2, r3, r4⟩ := fin none U3 k1
      have kb : Kp M (w.heap.size + 2) U3 U4 := by rw [e4]; exact hKb M _ _ _ _ rfl r2 rfl rfl
      refine ⟨_, _, r1, .inl ⟨rfl, ⟨?_, r3, r4⟩, hKt hw2 (hKt k2 kb), by
        have h1 := k1.size
        have h2 : U4.heap.size = U3.heap.size := by rw [e4]; simp [World.putObj]
        omega⟩⟩
      rw [e4]; exact (hI M).putObj _ k3 (by omega) r2 rfl
    | exit id =>
      obtain ⟨k1, k2, k3⟩ := hp
      obtain ⟨U4, e4, r1, r2, r3, r4⟩ := fin (some (.exit id)) U3 k1
      have kb : Kp M (w.heap.size + 2) U3 U4 := by rw [e4]; exact hKb M _ _ _ _ rfl r2 rfl rfl
      refine ⟨_, _, r1, .inr ⟨rfl, ⟨.exit id, ?_, r3, r4⟩, hKt hw2 (hKt k2 kb)⟩⟩
      rw [e4]; exact (hIx M _).putObj _ k3 (by omega) r2 rfl
    | ret =>
      obtain ⟨k1, k2, k3⟩ := hp
      obtain ⟨U4, e4, r1, r2, r3, r4⟩ := fin (some .ret) U3 k1
      have kb : Kp M (w.heap.size + 2) U3 U4 := by rw [e4]; exact hKb M _ _ _ _ rfl r2 rfl rfl
      refine ⟨_, _, r1, .inr ⟨rfl, ⟨.ret, ?_, r3, r4⟩, hKt hw2 (hKt k2 kb)⟩⟩
      rw [e4]; exact (hIx M _).putObj _ k3 (by omega) r2 rfl
    | goto t => exact hp.elim
    | panic ch => exact hp.elim
    | outgrown => exact hp.elim
  · rintro e U ⟨⟨v, rfl⟩, (⟨M, xs, z1, z2, z3, z4⟩ | ⟨M, pre, z1, c, z2, z3, z4⟩)⟩
    · have r := run_endLoop (P := P) z3 (by rw [hL]; simp)
      refine ⟨none, U.putObj (w.heap.size + 1) (.loop { L .ready none with state := .exhausted }), by rw [r, hL], hdone _ M xs _ (Nat.le_refl _) z1 ((hI M).putObj _ z2 (by omega) z3 rfl) ((World.putObj_heap_other (by omega)).trans z4)⟩
    · have r := run_endLoop (P := P) z3 (by rw [hL]; simp)
      refine ⟨some c, U.putObj (w.heap.size + 1) (.loop { L .done (some c) with state := .exhausted }), by rw [r, hL], wpIn_wide.2 (hstop _ M c pre _ (Nat.le_refl _) z1 ((hIx M c).putObj _ z2 (by omega) z3 rfl) ((World.putObj_heap_other (by omega)).trans z4))⟩
end Go.Proofs.YtoanccechefclaaGreatDoor
namespace Go.Proofs.YtoanccechefclaaGreatDoor
open Go Go.RowKit Go.Shelf
set_option maxRecDepth 100000
attribute [local go_sem] Oper.semAt_some
def KpN (T : Nat → Prop) (B0 M n : Nat) (U U' : World) : Prop := Keep U U' (fun b => T b ∨ (b + 1 = n ∧ B0 ≤ b) ∨ M ≤ b)
theorem KpN.trans {T : Nat → Prop} {B0 M n : Nat} {A B C : World} (h : KpN T B0 M n A B) (k : KpN T B0 M n B C) : KpN T B0 M n A C := Keep.trans h k (fun b q => .inl q)
def encN (x : ByteArray) : Array Value := #[.string x]
def sortedN (L : List (ByteArray × Int)) : List ByteArray := sortS (L.map Prod.fst)
theorem sortedN_len (L : List (ByteArray × Int)) : (sortedN L).length = L.length := by
  unfold sortedN
  rw [(sortS_perm _).length_eq, List.length_map]
end Go.Proofs.YtoanccechefclaaGreatDoor
namespace Go.Proofs.YtoanccechefclaaGreatDoor
open Go Go.RowKit
theorem adel_perm {l : List (ByteArray × Int)} {s : ByteArray} {n : Int} (h : aget l s = some n) : l.Perm ((s, n) :: adel l s) := by
  induction l with
  | nil => cases h
  | cons x r ih =>
    obtain ⟨a, u⟩ := x
    simp only [aget] at h
    simp only [adel]
    split at h
    · rename_i e
      cases h
      rw [if_pos e, e]
    · rename_i e
      rw [if_neg e]
      exact ((ih h).cons _).trans (List.Perm.swap ..)
theorem aset_perm {l : List (ByteArray × Int)} {s : ByteArray} (n : Int) (h : aget l s = none) : (aset l s n).Perm ((s, n) :: l) := by
  rw [aset_new _ _ _ (aget_out h)]
  exact List.perm_append_singleton ..
structure Undone (T : TreeV) (d : Int) (s : ByteArray) (e : Int) (z : ByteArray) : Prop where
  found : (T.find d s).2 = true
  there : (T.move true d s e z).1.find e z = T.find d s
  gone : ((T.move true d s e z).1.find d s).2 = false
  back : ((T.move true d s e z).1.move true e z d s).2 = 0
  again : ((T.move true d s e z).1.move true e z d s).1.find d s = T.find d s
  statD : ((T.move true d s e z).1.move true e z d s).1.stat d = T.stat d
  statE : ((T.move true d s e z).1.move true e z d s).1.stat e = T.stat e
end Go.Proofs.YtoanccechefclaaGreatDoor
