/-
  The table and the document's one, side by side; one ask.
-/
import Derived.Test.YtkdpkmlmkholmaaChainA
import Derived.Test.YtkdpkmlmkholmaaChain8
import Derived.Test.YtkdpkmlmkholmaaStructs
import Derived.Test.YtkdpkmlmkholmaaWithin
namespace Go.Proofs.Ytkdpkmlmkholmaa
open Go Go.RowKit
set_option linter.unusedSectionVars false
set_option linter.unusedSimpArgs false
set_option linter.unusedVariables false

def asks : List FieldKind := [.int .i64, .str, .int .i64]

/-- The table and the document's one, side by side. -/
structure Both (w0 w : World) (tb rb m : Nat) (S R : Nat → Prop) (T T2 : List Pair) : Prop where
  keep : Keep w0 w (fun _ => False)
  tab : TabAt w tb S m T
  ref : RefAt w rb R T2
  sr : ∀ b, S b → ¬ R b
  s0 : ∀ b, S b → w0.heap.size ≤ b
  r0 : ∀ b, R b → w0.heap.size ≤ b
  sz : ∀ x ∈ T2, x.1.size ≤ 9223372036854775807

theorem Both.chain {w0 w w' : World} {tb rb m : Nat} {S R S' : Nat → Prop} {T T2 T' : List Pair} (h : Both w0 w tb rb m S R T T2) (ht : TabAt w' tb S' m T') (k : Turn w S w' S') : Both w0 w' tb rb m S' R T' T2 :=
  ⟨h.keep.trans k.keep (fun b q => .inr (h.s0 b q)), ht, h.ref.keep k.keep (fun b q z => h.sr b z q), fun b q z => (k.new b q).elim (fun y => h.sr b y z) (fun y => by have := h.ref.lt b z; omega),
    fun b q => (k.new b q).elim (h.s0 b) (fun y => by have := h.keep.size; omega), h.r0, h.sz⟩

theorem Both.refs {w0 w w' : World} {tb rb m : Nat} {S R R' : Nat → Prop} {T T2 T' : List Pair} (h : Both w0 w tb rb m S R T T2) (ht : RefAt w' rb R' T') (k : Turn w R w' R') (hz : ∀ x ∈ T', x.1.size ≤ 9223372036854775807) : Both w0 w' tb rb m S R' T T' :=
  ⟨h.keep.trans k.keep (fun b q => .inr (h.r0 b q)), h.tab.keep k.keep (fun b q z => h.sr b q z), ht, fun b q z => (k.new b z).elim (fun y => h.sr b q y) (fun y => by have := h.tab.lt b q; omega),
    h.s0, fun b q => (k.new b q).elim (h.r0 b) (fun y => by have := h.keep.size; omega), hz⟩

/-- What turns neither of them. -/
theorem Both.aside {w0 w w' : World} {tb rb m : Nat} {S R U : Nat → Prop} {T T2 : List Pair} (h : Both w0 w tb rb m S R T T2) (k : Keep w w' U) (h1 : ∀ b, U b → ¬ S b ∧ ¬ R b ∧ w0.heap.size ≤ b) : Both w0 w' tb rb m S R T T2 :=
  ⟨h.keep.trans k (fun b q => .inr (h1 b q).2.2), h.tab.keep k (fun b q z => (h1 b z).1 q), h.ref.keep k (fun b q z => (h1 b z).2.1 q), h.sr, h.s0, h.r0, h.sz⟩

theorem Both.drewN {w0 w : World} {tb rb m : Nat} {S R : Nat → Prop} {T T2 : List Pair} (h : Both w0 w tb rb m S R T T2) (q : Nat) : Both w0 (w.drewN q) tb rb m S R T T2 :=
  h.aside (U := fun _ => False) (Turn.drewN w _ q).keep (fun _ z => z.elim)

theorem sz_put {T : List Pair} {k : ByteArray} {v : Int} (h : ∀ x ∈ T, x.1.size ≤ 9223372036854775807) (hk : k.size ≤ 9223372036854775807) : ∀ x ∈ (putT T k v).1, x.1.size ≤ 9223372036854775807 := by
  unfold putT
  cases aget T k with
  | some u => exact h
  | none =>
    by_cases hl : 64 ≤ T.length
    · simp only [hl, if_true]; exact h
    · simp only [hl, if_false]
      intro x hx
      rcases List.mem_append.1 hx with hx | hx
      · exact h x hx
      · simp at hx; subst hx; exact hk

theorem sz_drop {T : List Pair} {k : ByteArray} (hn : (T.map Prod.fst).Nodup) (h : ∀ x ∈ T, x.1.size ≤ 9223372036854775807) : ∀ x ∈ (dropT T k).1, x.1.size ≤ 9223372036854775807 := by
  unfold dropT
  cases aget T k with
  | none => exact h
  | some u =>
    intro x hx
    rw [adel_filter hn] at hx
    exact h x (List.mem_filter.1 hx).1

/-- One ask. -/
structure AskIs (w : World) (b o : Nat) (k : Int) (s : ByteArray) (v : Int) : Prop where
  c0 : w.cell? ⟨b, o, none⟩ = some (.int .i64 k)
  c1 : w.cell? ⟨b, o + 1, none⟩ = some (.string s)
  c2 : w.cell? ⟨b, o + 2, none⟩ = some (.int .i64 v)
  sz : s.size ≤ 9223372036854775807

theorem AskIs.keep {w w' : World} {b o : Nat} {k : Int} {s : ByteArray} {v : Int} (h : AskIs w b o k s v) (K : Keep w w' (fun _ => False)) : AskIs w' b o k s v :=
  ⟨K.cell h.c0 (fun q => q), K.cell h.c1 (fun q => q), K.cell h.c2 (fun q => q), h.sz⟩

theorem ask_at {w : World} {a : Option Addr} {len cap : Nat} (h : StructsIs asks w a len cap) {i : Nat} (hi : i < len) :
    ∃ b off k s v, a = some ⟨b, off, none⟩ ∧ AskIs w b (off + i * 3) k s v := by
  obtain ⟨b, off, rfl, _, hf⟩ := h.field (by omega) (by simp [asks])
  obtain ⟨v0, c0, k, rfl, _⟩ := hf i hi 0 (.int .i64) rfl
  obtain ⟨v1, c1, s, rfl, hs⟩ := hf i hi 1 .str rfl
  obtain ⟨v2, c2, v, rfl, _⟩ := hf i hi 2 (.int .i64) rfl
  exact ⟨b, off, k, s, v, rfl, c0, c1, c2, by unfold maxLen at hs; omega⟩

end Go.Proofs.Ytkdpkmlmkholmaa
