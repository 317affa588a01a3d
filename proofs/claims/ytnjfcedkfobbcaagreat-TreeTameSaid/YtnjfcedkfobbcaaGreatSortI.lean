/-
  Numbers in order; slices.Sort at ints, by the shelf's contract.
-/
import Derived.Test.YtnjfcedkfobbcaaGreatShelf
import Derived.Test.YtnjfcedkfobbcaaGreatLists
namespace Go.Proofs.YtnjfcedkfobbcaaGreat
open Go Go.RowKit Go.Sort
set_option linter.unusedSectionVars false
set_option linter.unusedSimpArgs false
set_option linter.unusedVariables false

/-- The numbers in order. -/
def sortI (l : List Int) : List Int := l.mergeSort fun x y => decide (x ≤ y)

theorem sortI_perm (l : List Int) : (sortI l).Perm l := List.mergeSort_perm _ _
theorem sortI_len (l : List Int) : (sortI l).length = l.length := (sortI_perm l).length_eq
theorem sortI_sorted (l : List Int) : (sortI l).Pairwise (· ≤ ·) :=
  (List.pairwise_mergeSort (le := fun x y : Int => decide (x ≤ y)) (fun a b c h1 h2 => by simp only [decide_eq_true_eq] at *; omega) (fun a b => by simp only [Bool.or_eq_true, decide_eq_true_eq]; omega) l).imp fun h => by simpa using h
theorem sortedI_unique {a b : List Int} (ha : a.Pairwise (· ≤ ·)) (hb : b.Pairwise (· ≤ ·)) (h : a.Perm b) : a = b :=
  List.Perm.eq_of_pairwise (fun x y _ _ p q => by omega) ha hb h
theorem sortI_eq {a l : List Int} (ha : a.Pairwise (· ≤ ·)) (h : a.Perm l) : sortI l = a := sortedI_unique (sortI_sorted l) ha ((sortI_perm l).trans h.symm)
theorem sortI_perm2 {a b : List Int} (h : a.Perm b) : sortI a = sortI b := sortedI_unique (sortI_sorted a) (sortI_sorted b) ((sortI_perm a).trans (h.trans (sortI_perm b).symm))

theorem isort_c {w : World} {v : Value} {l : List Int} (h : w.ownsRow 0 3 1 v l.length (l.map (Value.int .i64))) (hl : l.length ≤ 1099511627776) :
    Calls Tryz.prog 98 #[v] w fun r w' => r = .returned (.tuple #[]) ∧ w'.ownsRow 0 3 1 v l.length ((sortI l).map (Value.int .i64)) ∧ Keep w w' (fun b => v.ownBlock = some b) := by
  rcases rows_val h with ⟨rfl, h0⟩ | ⟨g, cap, rfl, hc, hb, hg⟩
  · have : l = [] := List.length_eq_zero_iff.1 h0
    subst this
    refine (Tryz.slices_Sort_int_none none 0 w).mono ?_
    rintro e w' ⟨rfl, rfl⟩
    exact ⟨rfl, by have e : sortI [] = [] := by simp [sortI]
                   rw [e]; exact h, Keep.refl _ _⟩
  · have hH : Holds (Value.int .i64) w g 0 l.toArray := by
      intro j hj
      simp only [List.size_toArray] at hj
      obtain ⟨x, hx⟩ : ∃ x, l[j]? = some x := ⟨_, List.getElem?_eq_getElem hj⟩
      have := rows_cell h (mapGet (f := Value.int .i64) hx)
      rw [Nat.zero_add]
      refine ⟨this.1.trans ?_, this.2⟩
      have e : l.toArray[j]! = x := by
        rw [getElem!_pos _ _ (by simpa using hj)]
        obtain ⟨h1, h2⟩ := List.getElem?_eq_some_iff.1 hx
        simp [h2]
      rw [e]
    have hs := Tryz.slices_Sort_int g 0 cap l w hH hg (by omega)
    refine hs.mono ?_
    rintro e w' ⟨rfl, n, os, rfl⟩
    refine ⟨rfl, ?_, ?_⟩
    · obtain ⟨hlen, hr⟩ := h
      rcases hr with ⟨h1, _⟩ | ⟨g', cap', cur, h1, h2, h3, h4, h5, h6, h7⟩
      · simp at h1
      · simp only [Value.slice.injEq, Option.some.injEq, Addr.mk.injEq, true_and, and_true] at h1
        obtain ⟨rfl, rfl⟩ := h1
        have hms : (sortI l).length = l.length := sortI_len l
        refine ⟨by rw [List.length_map, sortI_len, Nat.mul_one], .inr ⟨g, cap, putCells (Value.int .i64) 0 (sortI l).toArray cur, rfl, h2, ?_, h4, h5, ?_, ?_⟩⟩
        · rw [heap_grow_old _ _ (by simpa using hg)]
          simp [putRow, mapBlock, Array.getElem?_modify, h3, onCells, sortI]
        · simpa [putCells] using h6
        · apply List.ext_getElem?
          intro i
          rw [List.getElem?_take]
          by_cases hi : i < l.length * 1
          · rw [if_pos hi]
            have hi' : i < l.length := by omega
            have hic : i < cur.size := by omega
            have hx : (sortI l)[i]? = some ((sortI l)[i]'(by omega)) := List.getElem?_eq_getElem _
            have e1 : (putCells (Value.int .i64) 0 (sortI l).toArray cur).toList[i]? = some (Value.int .i64 ((sortI l)[i]'(by omega))) := by
              rw [Array.getElem?_toList]
              unfold putCells
              rw [Array.getElem?_mapIdx, Array.getElem?_eq_getElem hic]
              simp only [Option.map_some, Nat.zero_le, true_and, Nat.zero_add, List.size_toArray, hms, hi', if_true, Nat.sub_zero]
              rw [getElem!_pos _ _ (by simp [hms, hi'])]
              simp
            rw [e1, mapGet hx]
          · rw [if_neg hi]
            symm
            rw [List.getElem?_eq_none]
            rw [List.length_map, sortI_len]
            omega
    · refine ⟨by simp, fun b hb' hn => ?_, rfl, rfl, rfl⟩
      rw [heap_grow_old _ _ (by simpa using hb')]
      have : b ≠ g := fun e => hn (by rw [e]; rfl)
      have this' : ¬ g = b := fun e => this e.symm
      simp [putRow, mapBlock, Array.getElem?_modify, this']

end Go.Proofs.YtnjfcedkfobbcaaGreat
