/-
  Oldest, Pin, Unpin.
-/
import Derived.Test.YtjicoebcmfnooaaDoorLru2
namespace Go.Proofs.YtjicoebcmfnooaaDoor
open Go Go.RowKit
set_option linter.unusedSectionVars false
set_option linter.unusedSimpArgs false
set_option linter.unusedVariables false

theorem str_info : ∃ i, Tryd.prog.info? 9 = some i ∧ i.zero = some (.string ByteArray.empty) ∧ i.size = 1 ∧ i.bytes ≤ 64 := by
  have h : (Tryd.prog.info? 9).map (fun i => (i.zero, i.size, i.bytes)) = some (some (.string ByteArray.empty), 1, 16) := by kernel_rfl
  cases hh : Tryd.prog.info? 9 with
  | none => rw [hh] at h; simp at h
  | some i =>
    rw [hh] at h
    simp only [Option.map_some, Option.some.injEq, Prod.mk.injEq] at h
    exact ⟨i, rfl, h.1, h.2.1, by omega⟩

/-- The first n keys. -/
def firsts (L : List Pair) (n : Int) : List ByteArray := (L.map Prod.fst).take n.toNat

theorem aset_at {L : List Pair} {key : ByteArray} {p u : Int} (h : aget L key = some p) : ∃ k : Nat, idxT L key = k ∧ L[k]? = some (key, p) ∧ k < L.length ∧ L.set k (key, u) = aset L key u := by
  obtain ⟨k, h1, h2, h3, h4⟩ := idx_some h
  refine ⟨k, h1, h2, h3, ?_⟩
  clear h4
  induction L generalizing k with
  | nil => simp at h3
  | cons x r ih =>
    obtain ⟨a, z⟩ := x
    simp only [aget] at h
    by_cases e : a = key
    · subst e
      have : k = 0 := by
        unfold idxT atT at h1
        simp [List.findIdx?_cons] at h1
        omega
      subst this
      simp [aset]
    · simp only [e, if_false] at h
      obtain ⟨k', h1', h2', h3', h4'⟩ := idx_some h
      have hk : k = k' + 1 := by
        unfold idxT atT at h1 h1'
        rw [List.findIdx?_cons] at h1
        simp only [e, decide_false, Bool.false_eq_true, if_false] at h1
        cases hf : r.findIdx? (fun x => decide (x.1 = key)) with
        | none => rw [hf] at h1'; simp at h1'
        | some j => rw [hf] at h1 h1'; simp at h1 h1'; omega
      subst hk
      simp only [List.set_cons_succ, aset, e, if_false]
      rw [ih h k' h1' h2' h3']

theorem aset_fst' {L : List Pair} {key : ByteArray} {p : Int} (u : Int) (h : aget L key = some p) : (aset L key u).map Prod.fst = L.map Prod.fst := aset_fst L key u (List.mem_map_of_mem (pget_mem h))

def setPins (L : List Pair) (key : ByteArray) (by' : Int) : List Pair × Bool :=
  match aget L key with
  | none => (L, false)
  | some p => if p + by' < 0 then (L, false) else (aset L key (p + by'), true)

end Go.Proofs.YtjicoebcmfnooaaDoor
