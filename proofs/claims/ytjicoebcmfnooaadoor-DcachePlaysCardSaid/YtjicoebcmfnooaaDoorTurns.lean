/-
  What a call turned: of what was there nothing but S; what S' holds besides is new.
-/
import Derived.Test.YtjicoebcmfnooaaDoorHeap
import Derived.Deep.QuietTactic
namespace Go.Proofs.YtjicoebcmfnooaaDoor
open Go Go.RowKit
set_option linter.unusedSectionVars false
set_option linter.unusedSimpArgs false
set_option linter.unusedVariables false

structure Turn (w : World) (S : Nat → Prop) (w' : World) (S' : Nat → Prop) : Prop where
  keep : Keep w w' S
  new : ∀ b, S' b → S b ∨ w.heap.size ≤ b

theorem Turn.refl (w : World) (S : Nat → Prop) : Turn w S w S := ⟨Keep.refl _ _, fun b q => .inl q⟩
theorem Turn.trans {w w1 w2 : World} {S S1 S2 : Nat → Prop} (h : Turn w S w1 S1) (k : Turn w1 S1 w2 S2) : Turn w S w2 S2 :=
  ⟨h.keep.trans k.keep h.new, fun b q => (k.new b q).elim (h.new b) (fun q => .inr (by have := h.keep.size; omega))⟩
theorem Turn.drewN (w : World) (S : Nat → Prop) (q : Nat) : Turn w S (w.drewN q) S := ⟨⟨Nat.le_refl _, fun _ _ _ => rfl, rfl, rfl, rfl⟩, fun b z => .inl z⟩

end Go.Proofs.YtjicoebcmfnooaaDoor
