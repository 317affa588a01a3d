/-
  Items in memory: a record of twelve cells; rows of them.
-/
import Derived.Test.YtmokbgihpfnmbaaScript0
import Derived.Test.YtmokbgihpfnmbaaHeaps
import Derived.Test.YtmokbgihpfnmbaaRight0
import Derived.WalkMore
namespace Go.Proofs.Ytmokbgihpfnmbaa
open Go Go.RowKit
set_option linter.unusedSectionVars false
set_option linter.unusedSimpArgs false
set_option linter.unusedVariables false

theorem set12 {w : World} {b : Nat} {T : TypeId} {x0 x1 x2 x3 x4 x5 x6 x7 x8 x9 x10 x11 : Value} (h : w.heap[b]? = some (.cells #[x0, x1, x2, x3, x4, x5, x6, x7, x8, x9, x10, x11] T (0, 0))) (v0 v1 v2 v3 v4 v5 v6 v7 v8 v9 v10 v11 : Value) :
    ((((((((((((w.setCell ⟨b, 0, none⟩ v0).setCell ⟨b, 1, none⟩ v1).setCell ⟨b, 2, none⟩ v2).setCell ⟨b, 3, none⟩ v3).setCell ⟨b, 4, none⟩ v4).setCell ⟨b, 5, none⟩ v5).setCell ⟨b, 6, none⟩ v6).setCell ⟨b, 7, none⟩ v7).setCell ⟨b, 8, none⟩ v8).setCell ⟨b, 9, none⟩ v9).setCell ⟨b, 10, none⟩ v10).setCell ⟨b, 11, none⟩ v11).heap[b]? = some (.cells #[v0, v1, v2, v3, v4, v5, v6, v7, v8, v9, v10, v11] T (0, 0)) ∧ Keep w ((((((((((((w.setCell ⟨b, 0, none⟩ v0).setCell ⟨b, 1, none⟩ v1).setCell ⟨b, 2, none⟩ v2).setCell ⟨b, 3, none⟩ v3).setCell ⟨b, 4, none⟩ v4).setCell ⟨b, 5, none⟩ v5).setCell ⟨b, 6, none⟩ v6).setCell ⟨b, 7, none⟩ v7).setCell ⟨b, 8, none⟩ v8).setCell ⟨b, 9, none⟩ v9).setCell ⟨b, 10, none⟩ v10).setCell ⟨b, 11, none⟩ v11) (fun x => x = b) := by
  have e0 : (w.setCell ⟨b, 0, none⟩ v0).heap[b]? = some (.cells #[v0, x1, x2, x3, x4, x5, x6, x7, x8, x9, x10, x11] T (0, 0)) := heap_setCell_eq (off := 0) v0 h
  have k0 : Keep w (w.setCell ⟨b, 0, none⟩ v0) (fun x => x = b) := Keep.setCell w ⟨b, 0, none⟩ v0
  generalize w.setCell ⟨b, 0, none⟩ v0 = w1 at *
  have e1 : (w1.setCell ⟨b, 1, none⟩ v1).heap[b]? = some (.cells #[v0, v1, x2, x3, x4, x5, x6, x7, x8, x9, x10, x11] T (0, 0)) := heap_setCell_eq (off := 1) v1 e0
  have k1 : Keep w1 (w1.setCell ⟨b, 1, none⟩ v1) (fun x => x = b) := Keep.setCell w1 ⟨b, 1, none⟩ v1
  generalize w1.setCell ⟨b, 1, none⟩ v1 = w2 at *
  have e2 : (w2.setCell ⟨b, 2, none⟩ v2).heap[b]? = some (.cells #[v0, v1, v2, x3, x4, x5, x6, x7, x8, x9, x10, x11] T (0, 0)) := heap_setCell_eq (off := 2) v2 e1
  have k2 : Keep w2 (w2.setCell ⟨b, 2, none⟩ v2) (fun x => x = b) := Keep.setCell w2 ⟨b, 2, none⟩ v2
  generalize w2.setCell ⟨b, 2, none⟩ v2 = w3 at *
  have e3 : (w3.setCell ⟨b, 3, none⟩ v3).heap[b]? = some (.cells #[v0, v1, v2, v3, x4, x5, x6, x7, x8, x9, x10, x11] T (0, 0)) := heap_setCell_eq (off := 3) v3 e2
  have k3 : Keep w3 (w3.setCell ⟨b, 3, none⟩ v3) (fun x => x = b) := Keep.setCell w3 ⟨b, 3, none⟩ v3
  generalize w3.setCell ⟨b, 3, none⟩ v3 = w4 at *
  have e4 : (w4.setCell ⟨b, 4, none⟩ v4).heap[b]? = some (.cells #[v0, v1, v2, v3, v4, x5, x6, x7, x8, x9, x10, x11] T (0, 0)) := heap_setCell_eq (off := 4) v4 e3
  have k4 : Keep w4 (w4.setCell ⟨b, 4, none⟩ v4) (fun x => x = b) := Keep.setCell w4 ⟨b, 4, none⟩ v4
  generalize w4.setCell ⟨b, 4, none⟩ v4 = w5 at *
  have e5 : (w5.setCell ⟨b, 5, none⟩ v5).heap[b]? = some (.cells #[v0, v1, v2, v3, v4, v5, x6, x7, x8, x9, x10, x11] T (0, 0)) := heap_setCell_eq (off := 5) v5 e4
  have k5 : Keep w5 (w5.setCell ⟨b, 5, none⟩ v5) (fun x => x = b) := Keep.setCell w5 ⟨b, 5, none⟩ v5
  generalize w5.setCell ⟨b, 5, none⟩ v5 = w6 at *
  have e6 : (w6.setCell ⟨b, 6, none⟩ v6).heap[b]? = some (.cells #[v0, v1, v2, v3, v4, v5, v6, x7, x8, x9, x10, x11] T (0, 0)) := heap_setCell_eq (off := 6) v6 e5
  have k6 : Keep w6 (w6.setCell ⟨b, 6, none⟩ v6) (fun x => x = b) := Keep.setCell w6 ⟨b, 6, none⟩ v6
  generalize w6.setCell ⟨b, 6, none⟩ v6 = w7 at *
  have e7 : (w7.setCell ⟨b, 7, none⟩ v7).heap[b]? = some (.cells #[v0, v1, v2, v3, v4, v5, v6, v7, x8, x9, x10, x11] T (0, 0)) := heap_setCell_eq (off := 7) v7 e6
  have k7 : Keep w7 (w7.setCell ⟨b, 7, none⟩ v7) (fun x => x = b) := Keep.setCell w7 ⟨b, 7, none⟩ v7
  generalize w7.setCell ⟨b, 7, none⟩ v7 = w8 at *
  have e8 : (w8.setCell ⟨b, 8, none⟩ v8).heap[b]? = some (.cells #[v0, v1, v2, v3, v4, v5, v6, v7, v8, x9, x10, x11] T (0, 0)) := heap_setCell_eq (off := 8) v8 e7
  have k8 : Keep w8 (w8.setCell ⟨b, 8, none⟩ v8) (fun x => x = b) := Keep.setCell w8 ⟨b, 8, none⟩ v8
  generalize w8.setCell ⟨b, 8, none⟩ v8 = w9 at *
  have e9 : (w9.setCell ⟨b, 9, none⟩ v9).heap[b]? = some (.cells #[v0, v1, v2, v3, v4, v5, v6, v7, v8, v9, x10, x11] T (0, 0)) := heap_setCell_eq (off := 9) v9 e8
  have k9 : Keep w9 (w9.setCell ⟨b, 9, none⟩ v9) (fun x => x = b) := Keep.setCell w9 ⟨b, 9, none⟩ v9
  generalize w9.setCell ⟨b, 9, none⟩ v9 = w10 at *
  have e10 : (w10.setCell ⟨b, 10, none⟩ v10).heap[b]? = some (.cells #[v0, v1, v2, v3, v4, v5, v6, v7, v8, v9, v10, x11] T (0, 0)) := heap_setCell_eq (off := 10) v10 e9
  have k10 : Keep w10 (w10.setCell ⟨b, 10, none⟩ v10) (fun x => x = b) := Keep.setCell w10 ⟨b, 10, none⟩ v10
  generalize w10.setCell ⟨b, 10, none⟩ v10 = w11 at *
  have e11 : (w11.setCell ⟨b, 11, none⟩ v11).heap[b]? = some (.cells #[v0, v1, v2, v3, v4, v5, v6, v7, v8, v9, v10, v11] T (0, 0)) := heap_setCell_eq (off := 11) v11 e10
  have k11 : Keep w11 (w11.setCell ⟨b, 11, none⟩ v11) (fun x => x = b) := Keep.setCell w11 ⟨b, 11, none⟩ v11
  exact ⟨e11, (((((((((((k0.trans k1 (fun _ q => .inl q)).trans k2 (fun _ q => .inl q)).trans k3 (fun _ q => .inl q)).trans k4 (fun _ q => .inl q)).trans k5 (fun _ q => .inl q)).trans k6 (fun _ q => .inl q)).trans k7 (fun _ q => .inl q)).trans k8 (fun _ q => .inl q)).trans k9 (fun _ q => .inl q)).trans k10 (fun _ q => .inl q)).trans k11 (fun _ q => .inl q))⟩

def itemC (i : ItemV) (dv : Value) : List Value := .int .i64 i.kind :: .int .i64 i.thread :: .int .i64 i.n :: callC i.call dv
def itemA (i : ItemV) (dv : Value) : Value := .agg (itemC i dv).toArray
def zeroI : List Value := itemC ItemV.none (.slice none 0 0)

theorem itemC_len (i : ItemV) (dv : Value) : (itemC i dv).length = 12 := rfl

end Go.Proofs.Ytmokbgihpfnmbaa
