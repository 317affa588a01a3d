/-
  What is stored into new memory is told of nobody.
-/
import Derived.Test.YtnjfcedkfobbcaaGreatLaws
namespace Go.Proofs.YtnjfcedkfobbcaaGreat
open Go Go.RowKit
set_option linter.unusedSectionVars false
set_option linter.unusedSimpArgs false
set_option linter.unusedVariables false

section
variable {w w1 : World} {S : Nat → Prop}
theorem Keep.setNew (h : Keep w w1 S) (a : Addr) (v : Value) (hb : w.heap.size ≤ a.block) : Keep w (w1.setCell a v) S :=
  h.trans (Keep.setCell w1 a v) (fun b q => .inr (by have q' : b = a.block := q; omega))
theorem Keep.setOld (h : Keep w w1 S) (a : Addr) (v : Value) (hb : S a.block) : Keep w (w1.setCell a v) S :=
  h.trans (Keep.setCell w1 a v) (fun b q => .inl (by have q' : b = a.block := q; rw [q']; exact hb))
theorem Keep.allocNew (h : Keep w w1 S) (o : Obj) : Keep w (w1.alloc o) S := h.trans (Keep.alloc w1 o (fun _ => False)) (fun _ q => q.elim)
theorem Keep.drewNew (h : Keep w w1 S) : Keep w w1.drew S := h.trans (Keep.drew w1 (fun _ => False)) (fun _ q => q.elim)
theorem Keep.aside {w2 : World} (h : Keep w w1 S) (k : Keep w1 w2 (fun _ => False)) : Keep w w2 S := h.trans k (fun _ q => q.elim)
theorem Keep.beside {w2 : World} {T : Nat → Prop} (h : Keep w w1 S) (k : Keep w1 w2 T) (hT : ∀ b, T b → w.heap.size ≤ b) : Keep w w2 S := h.trans k (fun b q => .inr (hT b q))
end

theorem boxes1 (w : World) (o1 : Obj) : Keep w (w.alloc o1) (fun _ => False) ∧ (w.alloc o1).heap[w.heap.size]? = some o1 ∧ (w.alloc o1).heap.size = w.heap.size + 1 :=
  ⟨Keep.alloc w o1 _, heap_alloc_eq w o1, by simp⟩
theorem boxes2 (w : World) (o1 o2 : Obj) : Keep w ((w.alloc o1).alloc o2) (fun _ => False) ∧ ((w.alloc o1).alloc o2).heap[w.heap.size]? = some o1 ∧ ((w.alloc o1).alloc o2).heap[w.heap.size + 1]? = some o2 ∧ ((w.alloc o1).alloc o2).heap.size = w.heap.size + 2 := by
  have k1 := Keep.alloc w o1 (fun _ => False)
  have g1 := heap_alloc_eq w o1
  have z1 : (w.alloc o1).heap.size = w.heap.size + 1 := by simp
  generalize w.alloc o1 = w1 at *
  have k2 := Keep.alloc w1 o2 (fun _ => False)
  have g2 := heap_alloc_eq w1 o2
  have z2 : (w1.alloc o2).heap.size = w1.heap.size + 1 := by simp
  rw [z1] at g2
  exact ⟨k1.trans k2 (fun _ q => q.elim), k2.get g1 (fun q => q), g2, by omega⟩
theorem boxes3 (w : World) (o1 o2 o3 : Obj) : Keep w (((w.alloc o1).alloc o2).alloc o3) (fun _ => False) ∧ (((w.alloc o1).alloc o2).alloc o3).heap[w.heap.size]? = some o1 ∧ (((w.alloc o1).alloc o2).alloc o3).heap[w.heap.size + 1]? = some o2 ∧ (((w.alloc o1).alloc o2).alloc o3).heap[w.heap.size + 1 + 1]? = some o3 ∧ (((w.alloc o1).alloc o2).alloc o3).heap.size = w.heap.size + 3 := by
  obtain ⟨k, g1, g2, z⟩ := boxes2 w o1 o2
  generalize (w.alloc o1).alloc o2 = w1 at *
  obtain ⟨k2, g3, z2⟩ := boxes1 w1 o3
  rw [z] at g3
  exact ⟨k.trans k2 (fun _ q => q.elim), k2.get g1 (fun q => q), k2.get g2 (fun q => q), g3, by omega⟩
theorem boxes4 (w : World) (o1 o2 o3 o4 : Obj) : Keep w ((((w.alloc o1).alloc o2).alloc o3).alloc o4) (fun _ => False) ∧ ((((w.alloc o1).alloc o2).alloc o3).alloc o4).heap[w.heap.size]? = some o1 ∧ ((((w.alloc o1).alloc o2).alloc o3).alloc o4).heap[w.heap.size + 1]? = some o2 ∧ ((((w.alloc o1).alloc o2).alloc o3).alloc o4).heap[w.heap.size + 1 + 1]? = some o3 ∧ ((((w.alloc o1).alloc o2).alloc o3).alloc o4).heap[w.heap.size + 1 + 1 + 1]? = some o4 ∧ ((((w.alloc o1).alloc o2).alloc o3).alloc o4).heap.size = w.heap.size + 4 := by
  obtain ⟨k, g1, g2, g3, z⟩ := boxes3 w o1 o2 o3
  generalize ((w.alloc o1).alloc o2).alloc o3 = w1 at *
  obtain ⟨k2, g4, z2⟩ := boxes1 w1 o4
  rw [z] at g4
  exact ⟨k.trans k2 (fun _ q => q.elim), k2.get g1 (fun q => q), k2.get g2 (fun q => q), k2.get g3 (fun q => q), g4, by omega⟩

end Go.Proofs.YtnjfcedkfobbcaaGreat
