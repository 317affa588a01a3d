/-
  Move.
-/
import Derived.Test.YtnjfcedkfobbcaaTreeB
import Derived.Test.YtnjfcedkfobbcaaTreeW10
import Derived.Test.YtnjfcedkfobbcaaTreeA
namespace Go.Proofs.Ytnjfcedkfobbcaa
open Go Go.RowKit
set_option linter.unusedSectionVars false
set_option linter.unusedSimpArgs false
set_option linter.unusedVariables false
set_option maxRecDepth 100000

theorem kid_pos {T : TreeV} (h : T.ok) {d n : Int} {dx x : NodeV} {k : ByteArray} (hd : T.dir d = some dx) (hk : aget dx.names k = some n) (hx : aget T.all n = some x) : 0 < x.links := by
  have hl := h.links _ (aget_memN hx)
  simp only at hl
  have hpos : namesOf T.all n ≠ 0 := fun q => namesOf_zero q _ (aget_memN (TreeV.dir_some hd).1) _ (aget_memS hk) rfl
  omega

/-- A name taken out of a Dir, a link less at its node. -/
theorem TreeIn.loseName {w w2 : World} {tb : Nat} {s : TShape} {T : TreeV} (h : TreeIn w tb s T) {d n : Int} {dx x : NodeV} {k : ByteArray} (hd : aget T.all d = some dx) (hdk : dx.kind = 1) (hx : aget T.all n = some x) (hne : d ≠ n)
    (K : Keep w w2 (fun b => b = s.nm d)) (hM : MapAt w2 (s.nm d) kStr (namesV (adel dx.names k))) :
    (w2.cell? ⟨s.na n, 9, none⟩ = some (.int .i64 x.links) ∧ w2.frozen? ⟨s.na n, 9, none⟩ = false) ∧ TreeIn (w2.setCell ⟨s.na n, 9, none⟩ (.int .i64 (x.links - 1))) tb s (T.loseName d k n) ∧ Keep w (w2.setCell ⟨s.na n, 9, none⟩ (.int .i64 (x.links - 1))) s.has := by
  have h2 := h.setNames hd hdk K hM
  have hn2 : aget (T.set d { dx with names := adel dx.names k }).all n = some x := by
    show aget (aset T.all d _) n = some x
    rw [aget_aset, if_neg hne]
    exact hx
  have s3 := heap_setCell_eq (off := 9) (Value.int .i64 (x.links - 1)) (h2.node_at hn2)
  have h3 := h2.setNode (x' := { x with links := x.links - 1 }) hn2 rfl rfl (Keep.setCell w2 ⟨s.na n, 9, none⟩ (.int .i64 (x.links - 1))) (by simpa [nodeC, namesB] using s3)
  have eL : (T.set d { dx with names := adel dx.names k }).set n { x with links := x.links - 1 } = T.loseName d k n := by
    unfold TreeV.loseName
    rw [hd, hx]
    rfl
  rw [eL] at h3
  exact ⟨⟨(h2.cells hn2).links, free_blk (h2.node_at hn2) 9⟩, h3, (K.mono (fun b q => by rw [q]; exact has_of (h.tnames hd hdk))).trans (Keep.setCell _ _ _) (fun b q => .inl (by rw [show b = s.na n from q]; exact has_of (h.tnode hx)))⟩

theorem lose_get {T : TreeV} {d e n : Int} {dx ex x : NodeV} {k : ByteArray} (hd : aget T.all d = some dx) (hx : aget T.all n = some x) (he : aget T.all e = some ex) (hek : ex.kind = 1) (hne : e ≠ n) :
    aget (T.loseName d k n).all n = some { x with links := x.links - 1 } ∧ ∃ ex', aget (T.loseName d k n).all e = some ex' ∧ ex'.kind = 1 := by
  have hget : ∀ m, aget (T.loseName d k n).all m = if n = m then some { x with links := x.links - 1 } else if d = m then some { dx with names := adel dx.names k } else aget T.all m := by
    intro m
    unfold TreeV.loseName
    rw [hd, hx]
    simp only
    rw [aget_aset, aget_aset]
  refine ⟨by rw [hget, if_pos rfl], ?_⟩
  by_cases q : d = e
  · rw [q, he] at hd
    have e1 := Option.some.inj hd
    subst e1
    exact ⟨{ ex with names := adel ex.names k }, by rw [hget, if_neg (fun z => hne z.symm), if_pos q], hek⟩
  · exact ⟨ex, by rw [hget, if_neg (fun z => hne z.symm), if_neg q]; exact he, hek⟩
theorem lose_turns (T : TreeV) (d n : Int) (k : ByteArray) : (T.loseName d k n).turns = T.turns := by unfold TreeV.loseName; split <;> rfl

/-- What is asked of two nodes, as the calls ask it. -/
theorem overS_move {T : TreeV} {n m : Int} {x y : NodeV} (hx : aget T.all n = some x) (hy : aget T.all m = some y) :
    (T.isDir n = decide (x.kind = 1)) ∧ (T.isDir m = decide (y.kind = 1)) := by
  constructor
  · unfold TreeV.isDir TreeV.dir
    rw [hx]
    by_cases k : x.kind = 1 <;> simp [Option.filter, k]
  · unfold TreeV.isDir TreeV.dir
    rw [hy]
    by_cases k : y.kind = 1 <;> simp [Option.filter, k]

/-- Move behind its tests. -/
theorem move_some {T : TreeV} {d e n m : Int} {dx ex x y : NodeV} {k z : ByteArray} (hd : T.dir d = some dx) (he : T.dir e = some ex) (hk : aget dx.names k = some n) (hen : TreeV.named e ex = true) (hc : ¬ (T.isDir n = true ∧ (n = e ∨ T.within e n = true)))
    (hz : aget ex.names z = some m) (hmn : m ≠ n) (hx : aget T.all n = some x) (hy : aget T.all m = some y) :
    T.move true d k e z = if overS x y = 0 then (((T.take e z m).loseName d k n).give e z n, 0) else (T, overS x y) := by
  obtain ⟨i1, i2⟩ := overS_move hx hy
  unfold TreeV.move overS
  rw [hd, he]
  simp only [Bool.true_eq_false, if_false]
  rw [hk]
  simp only
  rw [if_neg (by rw [hen]; simp), if_neg hc, hz]
  simp only
  rw [if_neg hmn, i1, i2, hy]
  by_cases k1 : x.kind = 1
  · by_cases k2 : y.kind = 1
    · by_cases k3 : y.names = []
      · simp [k1, k2, k3]
      · have k3' : y.names.isEmpty = false := by cases q : y.names with | nil => exact absurd q k3 | cons a b => rfl
        simp [k1, k2, k3, k3']
    · simp [k1, k2]
  · by_cases k2 : y.kind = 1
    · simp [k1, k2]
    · simp [k1, k2]

theorem move_none {T : TreeV} {d e n : Int} {dx ex x : NodeV} {k z : ByteArray} (hd : T.dir d = some dx) (he : T.dir e = some ex) (hk : aget dx.names k = some n) (hen : TreeV.named e ex = true) (hc : ¬ (T.isDir n = true ∧ (n = e ∨ T.within e n = true)))
    (hz : aget ex.names z = none) (hx : aget T.all n = some x) :
    T.move true d k e z = if (if x.kind = 1 ∧ d ≠ e ∧ 16 ≤ T.dirs e ex then (44 : Int) else 0) = 0 then ((T.loseName d k n).give e z n, 0) else (T, 44) := by
  obtain ⟨i1, -⟩ := overS_move hx hx
  unfold TreeV.move
  rw [hd, he]
  simp only [Bool.true_eq_false, if_false]
  rw [hk]
  simp only
  rw [if_neg (by rw [hen]; simp), if_neg hc, hz]
  simp only
  rw [i1]
  by_cases q : x.kind = 1 ∧ d ≠ e ∧ 16 ≤ T.dirs e ex
  · rw [if_pos q, if_pos (by simpa using q)]
    simp
  · rw [if_neg q, if_neg (by simpa using q)]
    simp

end Go.Proofs.Ytnjfcedkfobbcaa
