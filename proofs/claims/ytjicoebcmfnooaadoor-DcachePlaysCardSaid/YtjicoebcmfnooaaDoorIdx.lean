/-
  Pairs of a key and a number: where a key stands.
-/
import Derived.Test.YtjicoebcmfnooaaDoorHeap
namespace Go.Proofs.YtjicoebcmfnooaaDoor
open Go Go.RowKit
set_option linter.unusedSectionVars false
set_option linter.unusedSimpArgs false
set_option linter.unusedVariables false

abbrev Pair := ByteArray × Int

theorem pget_mem {T : List Pair} {k : ByteArray} {v : Int} (h : aget T k = some v) : (k, v) ∈ T := by
  induction T with
  | nil => simp [aget] at h
  | cons x r ih =>
    obtain ⟨a, u⟩ := x
    simp only [aget] at h
    split at h
    · rename_i e; simp at h; subst h; subst e; simp
    · exact List.mem_cons_of_mem _ (ih h)

theorem pget_none {T : List Pair} {k : ByteArray} (h : aget T k = none) : ∀ x ∈ T, x.1 ≠ k := by
  induction T with
  | nil => intro x hx; simp at hx
  | cons x r ih =>
    obtain ⟨a, u⟩ := x
    simp only [aget] at h
    split at h
    · simp at h
    · rename_i e
      intro y hy
      rcases List.mem_cons.1 hy with rfl | hy
      · exact e
      · exact ih h y hy

theorem pget_of_mem {T : List Pair} {k : ByteArray} {v : Int} (hn : (T.map Prod.fst).Nodup) (h : (k, v) ∈ T) : aget T k = some v := by
  cases hg : aget T k with
  | none => exact absurd rfl (pget_none hg _ h)
  | some u =>
    have h2 := pget_mem hg
    induction T with
    | nil => simp at h
    | cons x r ih =>
      simp only [List.map_cons, List.nodup_cons] at hn
      rcases List.mem_cons.1 h with rfl | h'
      · simp [aget] at hg; rw [hg]
      · obtain ⟨a, z⟩ := x
        have hne : a ≠ k := fun e => hn.1 (by have q := List.mem_map_of_mem (f := Prod.fst) h'; rw [e]; exact q)
        simp only [aget, hne, if_false] at hg
        rcases List.mem_cons.1 h2 with e | h2
        · simp at e; exact absurd e.1.symm hne
        · exact ih hn.2 h' hg h2

/-- Where a key stands. -/
def atT (T : List Pair) (key : ByteArray) : Option Nat := T.findIdx? (fun x => decide (x.1 = key))

theorem atT_some {T : List Pair} {key : ByteArray} {v : Int} (h : aget T key = some v) : ∃ k, atT T key = some k ∧ T[k]? = some (key, v) ∧ T.take k ++ T.drop (k + 1) = adel T key ∧ k < T.length := by
  induction T with
  | nil => simp [aget] at h
  | cons x r ih =>
    obtain ⟨a, u⟩ := x
    simp only [aget] at h
    unfold atT
    by_cases e : a = key
    · subst e
      simp only [if_true, Option.some.injEq] at h
      subst h
      exact ⟨0, by simp [List.findIdx?_cons], rfl, by simp [adel], by simp⟩
    · simp only [e, if_false] at h
      obtain ⟨k, h1, h2, h3, h4⟩ := ih h
      unfold atT at h1
      exact ⟨k + 1, by simp [List.findIdx?_cons, e, h1], h2, by simp [adel, e, h3], by simp; omega⟩

theorem atT_none {T : List Pair} {key : ByteArray} (h : aget T key = none) : atT T key = none := by
  unfold atT
  rw [List.findIdx?_eq_none_iff]
  intro x hx
  simp [pget_none h x hx]

def idxT (T : List Pair) (key : ByteArray) : Int := match atT T key with | some k => (k : Int) | none => -1

theorem idx_found {T : List Pair} {key : ByteArray} {k : Nat} {x : Pair} (hx : T[k]? = some x) (he : x.1 = key) (hne : ∀ y ∈ T.take k, y.1 ≠ key) : idxT T key = k := by
  unfold idxT
  have : atT T key = some k := by
    unfold atT
    rw [List.findIdx?_eq_some_iff_getElem]
    obtain ⟨hl, hx'⟩ := List.getElem?_eq_some_iff.1 hx
    refine ⟨hl, by rw [hx']; simp [he], fun j hj => ?_⟩
    have := hne (T[j]'(by omega)) (List.mem_take_iff_getElem.2 ⟨j, by omega, rfl⟩)
    simp [this]
  rw [this]

theorem idx_out {T : List Pair} {key : ByteArray} (hne : ∀ y ∈ T, y.1 ≠ key) : idxT T key = -1 := by
  unfold idxT
  have : atT T key = none := by
    unfold atT
    rw [List.findIdx?_eq_none_iff]
    intro x hx
    simp [hne x hx]
  rw [this]

end Go.Proofs.YtjicoebcmfnooaaDoor
