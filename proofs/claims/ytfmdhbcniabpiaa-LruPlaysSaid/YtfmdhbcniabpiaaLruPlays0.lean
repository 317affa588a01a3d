/-
  The list and the document's one, side by side; one ask.
-/
import Derived.Test.YtfmdhbcniabpiaaRLru4
import Derived.Test.YtfmdhbcniabpiaaLru7
import Derived.Test.YtfmdhbcniabpiaaStructs
import Derived.Test.YtfmdhbcniabpiaaSameS
import Derived.Test.YtfmdhbcniabpiaaArgs
namespace Go.Proofs.Ytfmdhbcniabpiaa
open Go Go.RowKit
set_option linter.unusedSectionVars false
set_option linter.unusedSimpArgs false
set_option linter.unusedVariables false

def asks : List FieldKind := [.int .i64, .int .i64, .str]

/-! ### the plain law: lengths and pins -/

def Fit (j : Nat) (L : List Pair) : Prop := L.length ≤ j ∧ ∀ x ∈ L, 0 ≤ x.2 ∧ x.2 ≤ j

theorem Fit.sub {j : Nat} {L M : List Pair} (h : Fit j L) (s : M.Sublist L) : Fit (j + 1) M :=
  ⟨by have := s.length_le; have := h.1; omega, fun x hx => by have := h.2 x (s.subset hx); omega⟩

theorem fit_used {j : Nat} {L : List Pair} (h : Fit j L) (key : ByteArray) : Fit (j + 1) (used L key) := by
  unfold used
  refine ⟨?_, fun x hx => ?_⟩
  · have := (adel_sub L key).length_le
    have := h.1
    rw [List.length_append, List.length_singleton]
    omega
  · rcases List.mem_append.1 hx with hx | hx
    · have := h.2 x ((adel_sub L key).subset hx); omega
    · simp at hx
      subst hx
      cases hg : aget L key with
      | none => simp only [Option.getD_none]; omega
      | some p => have := h.2 _ (pget_mem hg); simp only [Option.getD_some]; omega

theorem fit_use {j : Nat} {L : List Pair} (h : Fit j L) (m : Int) (key : ByteArray) : Fit (j + 1) (useE m L key).1 := by
  have hu := fit_used h key
  unfold useE
  split
  · exact hu
  · split
    · exact hu
    · exact ⟨Nat.le_trans (adel_sub _ _).length_le hu.1, fun x hx => hu.2 x ((adel_sub _ _).subset hx)⟩

theorem aset_mem {L : List Pair} {key : ByteArray} {u : Int} : ∀ x ∈ aset L key u, x ∈ L ∨ x = (key, u) := by
  induction L with
  | nil => intro x hx; simp [aset] at hx; exact .inr hx
  | cons y r ih =>
    obtain ⟨a, z⟩ := y
    intro x hx
    simp only [aset] at hx
    split at hx
    · rename_i e
      rcases List.mem_cons.1 hx with h | h
      · right; rw [h, e]
      · exact .inl (List.mem_cons_of_mem _ h)
    · rcases List.mem_cons.1 hx with h | h
      · left; rw [h]; simp
      · exact (ih x h).imp (List.mem_cons_of_mem _) id

theorem fit_pins {j : Nat} {L : List Pair} (h : Fit j L) (key : ByteArray) (d : Int) (hd : d ≤ 1) : Fit (j + 1) (setPins L key d).1 := by
  unfold setPins
  cases hg : aget L key with
  | none => exact h.sub (List.Sublist.refl _)
  | some p =>
    simp only
    have hp := h.2 _ (pget_mem hg)
    simp only at hp
    split
    · exact h.sub (List.Sublist.refl _)
    · refine ⟨?_, fun x hx => ?_⟩
      · have e := congrArg List.length (aset_fst' (p + d) hg)
        rw [List.length_map, List.length_map] at e
        rw [e]
        have := h.1
        omega
      · rcases aset_mem x hx with q | q
        · have := h.2 x q; omega
        · rw [q]; simp only; omega

theorem dropAll_sub : ∀ (ks : List ByteArray) (L : List Pair), (dropAll L ks).Sublist L := by
  intro ks
  induction ks with
  | nil => intro L; exact List.Sublist.refl _
  | cons k r ih => intro L; exact (ih (adel L k)).trans (adel_sub L k)

/-! ### both, in memory -/

structure BothL (w0 w : World) (tb rb : Nat) (m : Int) (S R : Nat → Prop) (L L2 : List Pair) : Prop where
  keep : Keep w0 w (fun _ => False)
  tab : ListAt w tb S m L
  ref : RefL w rb R m L2
  sr : ∀ b, S b → ¬ R b
  s0 : ∀ b, S b → w0.heap.size ≤ b
  r0 : ∀ b, R b → w0.heap.size ≤ b

section
variable {w0 w w' : World} {tb rb : Nat} {m : Int} {S R S' R' : Nat → Prop} {L L2 L' : List Pair}
theorem BothL.chain (h : BothL w0 w tb rb m S R L L2) (ht : ListAt w' tb S' m L') (k : Turn w S w' S') : BothL w0 w' tb rb m S' R L' L2 :=
  ⟨h.keep.trans k.keep (fun b q => .inr (h.s0 b q)), ht, h.ref.keep k.keep (fun b q z => h.sr b z q), fun b q z => (k.new b q).elim (fun y => h.sr b y z) (fun y => by have := h.ref.lt b z; omega),
    fun b q => (k.new b q).elim (h.s0 b) (fun y => by have := h.keep.size; omega), h.r0⟩

theorem BothL.refs (h : BothL w0 w tb rb m S R L L2) (ht : RefL w' rb R' m L') (k : Turn w R w' R') : BothL w0 w' tb rb m S R' L L' :=
  ⟨h.keep.trans k.keep (fun b q => .inr (h.r0 b q)), h.tab.keep k.keep (fun b q z => h.sr b q z), ht, fun b q z => (k.new b z).elim (fun y => h.sr b q y) (fun y => by have := h.tab.lt b q; omega),
    h.s0, fun b q => (k.new b q).elim (h.r0 b) (fun y => by have := h.keep.size; omega)⟩

theorem BothL.aside (h : BothL w0 w tb rb m S R L L2) (k : Keep w w' (fun _ => False)) : BothL w0 w' tb rb m S R L L2 :=
  ⟨h.keep.trans k (fun b q => q.elim), h.tab.aside k, h.ref.aside k, h.sr, h.s0, h.r0⟩

/-- The ask, in a block of its own. -/
structure Box (wr : World) (S R : Nat → Prop) (xb : Nat) (k n : Int) (s : ByteArray) : Prop where
  box : wr.heap[xb]? = some (.cells #[.int .i64 k, .int .i64 n, .string s] 43 (0, 0))
  s : ¬ S xb
  r : ¬ R xb

variable {xb : Nat} {k n : Int} {s : ByteArray}
theorem Box.chain (h : Box w S R xb k n s) (t : Turn w S w' S') : Box w' S' R xb k n s :=
  ⟨t.keep.get h.box h.s, fun q => (t.new _ q).elim h.s (fun y => by have := lt_of_blk h.box; omega), h.r⟩
theorem Box.refs (h : Box w S R xb k n s) (t : Turn w R w' R') : Box w' S R' xb k n s :=
  ⟨t.keep.get h.box h.r, h.s, fun q => (t.new _ q).elim h.r (fun y => by have := lt_of_blk h.box; omega)⟩
theorem Box.aside (h : Box w S R xb k n s) (t : Keep w w' (fun _ => False)) : Box w' S R xb k n s :=
  ⟨t.get h.box (fun q => q), h.s, h.r⟩

/-- Both, and the ask. -/
def LW (w0 w : World) (tb rb xb : Nat) (m : Int) (S R : Nat → Prop) (L L2 : List Pair) (k n : Int) (s : ByteArray) : Prop := BothL w0 w tb rb m S R L L2 ∧ Box w S R xb k n s

theorem LW.chain (h : LW w0 w tb rb xb m S R L L2 k n s) (ht : ListAt w' tb S' m L') (t : Turn w S w' S') : LW w0 w' tb rb xb m S' R L' L2 k n s := ⟨h.1.chain ht t, h.2.chain t⟩
theorem LW.refs (h : LW w0 w tb rb xb m S R L L2 k n s) (ht : RefL w' rb R' m L') (t : Turn w R w' R') : LW w0 w' tb rb xb m S R' L L' k n s := ⟨h.1.refs ht t, h.2.refs t⟩
theorem LW.aside (h : LW w0 w tb rb xb m S R L L2 k n s) (t : Keep w w' (fun _ => False)) : LW w0 w' tb rb xb m S R L L2 k n s := ⟨h.1.aside t, h.2.aside t⟩
theorem LW.key (h : LW w0 w tb rb xb m S R L L2 k n s) : w.cell? ⟨xb, 2, none⟩ = some (.string s) := by rw [cell_blk h.2.box]; rfl
theorem LW.num (h : LW w0 w tb rb xb m S R L L2 k n s) : w.cell? ⟨xb, 1, none⟩ = some (.int .i64 n) := by rw [cell_blk h.2.box]; rfl

/-! ### the calls, in any world in which both stand -/

theorem keep_turn {w w' : World} {S : Nat → Prop} (h : Keep w w' S) : Turn w S w' S := ⟨h, fun b q => .inl q⟩

variable {j : Nat}

theorem use_lw (h : LW w0 w tb rb xb m S R L L2 k n s) (hf : Fit j L) (hj : j ≤ 1000) (key : ByteArray) (w1 : World) (K : Keep w w1 (fun _ => False)) :
    Calls Try.prog 10 #[.pointer (some ⟨tb, 0, none⟩), .string key] w1 fun e w4 => e = .returned (.tuple #[.string (useE m L key).2.1, .bool (useE m L key).2.2]) ∧ ∃ S', LW w0 w4 tb rb xb m S' R (useE m L key).1 L2 k n s := by
  have h1 := h.aside K
  refine (use_c h1.1.tab (by have := hf.1; omega) key).mono ?_
  rintro e w4 ⟨rfl, S', hL, hT⟩
  exact ⟨rfl, S', h1.chain hL hT⟩

theorem ruse_lw (h : LW w0 w tb rb xb m S R L L2 k n s) (hf : Fit j L2) (hj : j ≤ 999) (hn : (L2.map Prod.fst).Nodup) (key : ByteArray) (w1 : World) (K : Keep w w1 (fun _ => False)) :
    Calls Try.prog 21 #[.pointer (some ⟨rb, 0, none⟩), .string key] w1 fun e w4 => e = .returned (.tuple #[.string (useE m L2 key).2.1, .bool (useE m L2 key).2.2]) ∧ ∃ R', LW w0 w4 tb rb xb m S R' L (useE m L2 key).1 k n s := by
  have h1 := h.aside K
  refine (ruse_c h1.1.ref (by have := hf.1; omega) hn key).mono ?_
  rintro e w4 ⟨rfl, S', hL, hT⟩
  exact ⟨rfl, S', h1.refs hL hT⟩

theorem drop_lw (h : LW w0 w tb rb xb m S R L L2 k n s) (hf : Fit j L) (hj : j ≤ 1000) (key : ByteArray) (w1 : World) (K : Keep w w1 (fun _ => False)) :
    Calls Try.prog 17 #[.pointer (some ⟨tb, 0, none⟩), .string key] w1 fun e w4 => e = .returned (.bool (aget L key).isSome) ∧ LW w0 w4 tb rb xb m S R (adel L key) L2 k n s := by
  have h1 := h.aside K
  refine (drop_c h1.1.tab (by have := hf.1; omega) key).mono ?_
  rintro e w4 ⟨rfl, hL, hT⟩
  exact ⟨rfl, h1.chain hL (keep_turn hT)⟩

theorem rdrop_lw (h : LW w0 w tb rb xb m S R L L2 k n s) (hf : Fit j L2) (hj : j ≤ 1000) (key : ByteArray) (w1 : World) (K : Keep w w1 (fun _ => False)) :
    Calls Try.prog 22 #[.pointer (some ⟨rb, 0, none⟩), .string key] w1 fun e w4 => e = .returned (.bool (aget L2 key).isSome) ∧ ∃ R', LW w0 w4 tb rb xb m S R' L (adel L2 key) k n s := by
  have h1 := h.aside K
  refine (rdrop_c h1.1.ref (by have := hf.1; omega) key).mono ?_
  rintro e w4 ⟨rfl, S', hL, hT⟩
  exact ⟨rfl, S', h1.refs hL hT⟩

theorem fit_bd (hf : Fit j L) (hj : j ≤ 1000) (key : ByteArray) : ∀ p, aget L key = some p → 0 ≤ p ∧ p ≤ 1000000 := by
  intro p hp
  have := hf.2 _ (pget_mem hp)
  simp only at this
  omega

theorem pin_lw (h : LW w0 w tb rb xb m S R L L2 k n s) (hf : Fit j L) (hj : j ≤ 1000) (key : ByteArray) (w1 : World) (K : Keep w w1 (fun _ => False)) :
    Calls Try.prog 15 #[.pointer (some ⟨tb, 0, none⟩), .string key] w1 fun e w4 => e = .returned (.bool (setPins L key 1).2) ∧ LW w0 w4 tb rb xb m S R (setPins L key 1).1 L2 k n s := by
  have h1 := h.aside K
  refine (Pin_c h1.1.tab (by have := hf.1; omega) key (fit_bd hf hj key)).mono ?_
  rintro e w4 ⟨rfl, hL, hT⟩
  exact ⟨rfl, h1.chain hL (keep_turn hT)⟩

theorem rpin_lw (h : LW w0 w tb rb xb m S R L L2 k n s) (hf : Fit j L2) (hj : j ≤ 1000) (key : ByteArray) (w1 : World) (K : Keep w w1 (fun _ => False)) :
    Calls Try.prog 23 #[.pointer (some ⟨rb, 0, none⟩), .string key] w1 fun e w4 => e = .returned (.bool (setPins L2 key 1).2) ∧ LW w0 w4 tb rb xb m S R L (setPins L2 key 1).1 k n s := by
  have h1 := h.aside K
  refine (RPin_c h1.1.ref (by have := hf.1; omega) key (fit_bd hf hj key)).mono ?_
  rintro e w4 ⟨rfl, hL, hT⟩
  exact ⟨rfl, h1.refs hL (keep_turn hT)⟩

theorem unpin_lw (h : LW w0 w tb rb xb m S R L L2 k n s) (hf : Fit j L) (hj : j ≤ 1000) (key : ByteArray) (w1 : World) (K : Keep w w1 (fun _ => False)) :
    Calls Try.prog 16 #[.pointer (some ⟨tb, 0, none⟩), .string key] w1 fun e w4 => e = .returned (.bool (setPins L key (-1)).2) ∧ LW w0 w4 tb rb xb m S R (setPins L key (-1)).1 L2 k n s := by
  have h1 := h.aside K
  refine (Unpin_c h1.1.tab (by have := hf.1; omega) key (fit_bd hf hj key)).mono ?_
  rintro e w4 ⟨rfl, hL, hT⟩
  exact ⟨rfl, h1.chain hL (keep_turn hT)⟩

theorem runpin_lw (h : LW w0 w tb rb xb m S R L L2 k n s) (hf : Fit j L2) (hj : j ≤ 1000) (key : ByteArray) (w1 : World) (K : Keep w w1 (fun _ => False)) :
    Calls Try.prog 24 #[.pointer (some ⟨rb, 0, none⟩), .string key] w1 fun e w4 => e = .returned (.bool (setPins L2 key (-1)).2) ∧ LW w0 w4 tb rb xb m S R L (setPins L2 key (-1)).1 k n s := by
  have h1 := h.aside K
  refine (RUnpin_c h1.1.ref (by have := hf.1; omega) key (fit_bd hf hj key)).mono ?_
  rintro e w4 ⟨rfl, hL, hT⟩
  exact ⟨rfl, h1.refs hL (keep_turn hT)⟩

theorem list_own {w : World} {v : Value} {l : List ByteArray} (h : w.ownsRow 0 9 1 v l.length (l.map Value.string)) : ListIn w v (l.map Value.string) := ListIn.of_own h

theorem shrink_lw (h : LW w0 w tb rb xb m S R L L2 k n s) (hf : Fit j L) (hj : j ≤ 1000) (q : Int) (w1 : World) (K : Keep w w1 (fun _ => False)) :
    Calls Try.prog 18 #[.pointer (some ⟨tb, 0, none⟩), .int .i64 q] w1 fun e w4 => ∃ a cap, e = .returned (.slice a (gone L q).length cap) ∧ LW w0 w4 tb rb xb m S R (dropAll L (gone L q)) L2 k n s ∧ ListIn w4 (.slice a (gone L q).length cap) ((gone L q).map Value.string) ∧ Clear (.slice a (gone L q).length cap) R := by
  have h1 := h.aside K
  refine (shrink_c h1.1.tab (by have := hf.1; omega) q).mono ?_
  rintro e w4 ⟨v, rfl, hL, hT, hr, ho⟩
  obtain ⟨a, cap, rfl, _⟩ := rows_val2 hr
  exact ⟨a, cap, rfl, h1.chain hL (keep_turn hT), list_own hr, fun b q z => by have := ho b q; have := h1.1.ref.lt b z; omega⟩

theorem rshrink_lw (h : LW w0 w tb rb xb m S R L L2 k n s) (hf : Fit j L2) (hj : j ≤ 1000) (hn : (L2.map Prod.fst).Nodup) {va : Value} {xs : List Value} (hv : ListIn w va xs) (hR : Clear va R) (q : Int) (w1 : World) (K : Keep w w1 (fun _ => False)) :
    Calls Try.prog 25 #[.pointer (some ⟨rb, 0, none⟩), .int .i64 q] w1 fun e w4 => ∃ a cap R', e = .returned (.slice a (gone L2 q).length cap) ∧ LW w0 w4 tb rb xb m S R' L (dropAll L2 (gone L2 q)) k n s ∧ ListIn w4 (.slice a (gone L2 q).length cap) ((gone L2 q).map Value.string) ∧ ListIn w4 va xs := by
  have h1 := h.aside K
  refine (rshrink_c h1.1.ref (by have := hf.1; omega) hn (fun x hx => (hf.2 x hx).1) q).mono ?_
  rintro e w4 ⟨v, S', rfl, hL, hT, hr, ho⟩
  obtain ⟨a, cap, rfl, _⟩ := rows_val2 hr
  exact ⟨a, cap, S', rfl, h1.refs hL hT, list_own hr, (hv.aside K).keep hT.keep hR⟩

theorem len_lw (h : LW w0 w tb rb xb m S R L L2 k n s) (w1 : World) (K : Keep w w1 (fun _ => False)) : Calls Try.prog 11 #[.pointer (some ⟨tb, 0, none⟩)] w1 fun e w4 => e = .returned (.int .i64 L.length) ∧ w4 = w1 := len_c (h.aside K).1.tab
theorem rlen_lw (h : LW w0 w tb rb xb m S R L L2 k n s) (w1 : World) (K : Keep w w1 (fun _ => False)) : Calls Try.prog 26 #[.pointer (some ⟨rb, 0, none⟩)] w1 fun e w4 => e = .returned (.int .i64 L2.length) ∧ w4 = w1 := rlen_c (h.aside K).1.ref

theorem has_lw (h : LW w0 w tb rb xb m S R L L2 k n s) (hf : Fit j L) (hj : j ≤ 1000) (key : ByteArray) (w1 : World) (K : Keep w w1 (fun _ => False)) :
    Calls Try.prog 19 #[.pointer (some ⟨tb, 0, none⟩), .string key] w1 fun e w4 => e = .returned (.bool (aget L key).isSome) ∧ LW w0 w4 tb rb xb m S R L L2 k n s := by
  have h1 := h.aside K
  refine (has_c h1.1.tab (by have := hf.1; omega) key).mono ?_
  rintro e w4 ⟨rfl, hk⟩
  exact ⟨rfl, h1.aside hk⟩

theorem rhas_lw (h : LW w0 w tb rb xb m S R L L2 k n s) (hf : Fit j L2) (hj : j ≤ 1000) (key : ByteArray) (w1 : World) (K : Keep w w1 (fun _ => False)) :
    Calls Try.prog 27 #[.pointer (some ⟨rb, 0, none⟩), .string key] w1 fun e w4 => e = .returned (.bool (aget L2 key).isSome) ∧ w4 = w1 := rhas_c (h.aside K).1.ref (by have := hf.1; omega) key

theorem oldest_lw (h : LW w0 w tb rb xb m S R L L2 k n s) (hf : Fit j L) (hj : j ≤ 1000) (q : Int) (w1 : World) (K : Keep w w1 (fun _ => False)) :
    Calls Try.prog 13 #[.pointer (some ⟨tb, 0, none⟩), .int .i64 q] w1 fun e w4 => ∃ a cap, e = .returned (.slice a (firsts L q).length cap) ∧ LW w0 w4 tb rb xb m S R L L2 k n s ∧ ListIn w4 (.slice a (firsts L q).length cap) ((firsts L q).map Value.string) := by
  have h1 := h.aside K
  refine (oldest_c h1.1.tab (by have := hf.1; omega) q).mono ?_
  rintro e w4 ⟨v, rfl, hM⟩
  obtain ⟨a, cap, rfl⟩ := hM.valn (n := (firsts L q).length) (by rw [List.length_map])
  exact ⟨a, cap, rfl, h1.aside hM.keep, hM.list⟩

theorem roldest_lw (h : LW w0 w tb rb xb m S R L L2 k n s) (hf : Fit j L2) (hj : j ≤ 1000) {va : Value} {xs : List Value} (hv : ListIn w va xs) (q : Int) (w1 : World) (K : Keep w w1 (fun _ => False)) :
    Calls Try.prog 28 #[.pointer (some ⟨rb, 0, none⟩), .int .i64 q] w1 fun e w4 => ∃ a cap, e = .returned (.slice a (firsts L2 q).length cap) ∧ LW w0 w4 tb rb xb m S R L L2 k n s ∧ ListIn w4 (.slice a (firsts L2 q).length cap) ((firsts L2 q).map Value.string) ∧ ListIn w4 va xs := by
  have h1 := h.aside K
  refine (roldest_c h1.1.ref (by have := hf.1; omega) q).mono ?_
  rintro e w4 ⟨v, rfl, hM⟩
  obtain ⟨a, cap, rfl⟩ := hM.valn (n := (firsts L2 q).length) (by rw [List.length_map])
  exact ⟨a, cap, rfl, h1.aside hM.keep, hM.list, (hv.aside K).aside hM.keep⟩

theorem same_lw (h : LW w0 w tb rb xb m S R L L2 k n s) {va vb : Value} {xs : List ByteArray} (h1 : ListIn w va (xs.map Value.string)) (h2 : ListIn w vb (xs.map Value.string)) (hl : xs.length ≤ 1000000) (w1 : World) (K : Keep w w1 (fun _ => False)) :
    Calls Try.prog 12 #[va, vb] w1 fun e w4 => e = .returned (.bool true) ∧ LW w0 w4 tb rb xb m S R L L2 k n s := by
  refine (same_c (h1.aside K) (h2.aside K) (by omega) (by omega)).mono ?_
  rintro e w4 ⟨rfl, q, hw⟩
  rw [decide_eq_true (rfl : xs = xs)]
  exact ⟨rfl, (h.aside K).aside (by rw [hw]; exact drewN_keep _ _ _)⟩
end

/-- One ask. -/
structure AskIs (w : World) (b o : Nat) (k n : Int) (s : ByteArray) : Prop where
  c0 : w.cell? ⟨b, o, none⟩ = some (.int .i64 k)
  c1 : w.cell? ⟨b, o + 1, none⟩ = some (.int .i64 n)
  c2 : w.cell? ⟨b, o + 2, none⟩ = some (.string s)

theorem AskIs.keep {w w' : World} {b o : Nat} {k n : Int} {s : ByteArray} (h : AskIs w b o k n s) (K : Keep w w' (fun _ => False)) : AskIs w' b o k n s :=
  ⟨K.cell h.c0 (fun q => q), K.cell h.c1 (fun q => q), K.cell h.c2 (fun q => q)⟩

theorem ask_at {w : World} {a : Option Addr} {len cap : Nat} (h : StructsIs asks w a len cap) {i : Nat} (hi : i < len) :
    ∃ b off k n s, a = some ⟨b, off, none⟩ ∧ AskIs w b (off + i * 3) k n s := by
  obtain ⟨b, off, rfl, _, hf⟩ := h.field (by omega) (by simp [asks])
  obtain ⟨v0, c0, k, rfl, _⟩ := hf i hi 0 (.int .i64) rfl
  obtain ⟨v1, c1, n, rfl, _⟩ := hf i hi 1 (.int .i64) rfl
  obtain ⟨v2, c2, s, rfl, _⟩ := hf i hi 2 .str rfl
  exact ⟨b, off, k, n, s, rfl, c0, c1, c2⟩

end Go.Proofs.Ytfmdhbcniabpiaa
