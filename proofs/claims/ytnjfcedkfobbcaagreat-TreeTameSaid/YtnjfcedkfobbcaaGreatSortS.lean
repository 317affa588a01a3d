/-
  Texts in order; slices.Sort at texts, by the shelf's contract.
-/
import Derived.Test.YtnjfcedkfobbcaaGreatShelf
import Derived.Test.YtnjfcedkfobbcaaGreatLists
namespace Go.Proofs.YtnjfcedkfobbcaaGreat
open Go Go.RowKit Go.Sort
set_option linter.unusedSectionVars false
set_option linter.unusedSimpArgs false
set_option linter.unusedVariables false

abbrev bl (s : ByteArray) : List UInt8 := s.data.toList
def ofL (l : List UInt8) : ByteArray := ⟨l.toArray⟩
theorem ofL_bl (s : ByteArray) : ofL (bl s) = s := by
  obtain ⟨⟨x⟩⟩ := s; rfl
theorem bl_ofL (l : List UInt8) : bl (ofL l) = l := rfl
theorem bl_inj {a b : ByteArray} (h : bl a = bl b) : a = b := by rw [← ofL_bl a, h, ofL_bl]

def leL (x y : List UInt8) : Bool := decide (x ≤ y)

/-- The texts in order. -/
def sortS (l : List ByteArray) : List ByteArray := ((l.map bl).mergeSort leL).map ofL

theorem leL_trans : ∀ a b c : List UInt8, leL a b = true → leL b c = true → leL a c = true := by
  intro a b c h1 h2
  unfold leL at *
  simp only [decide_eq_true_eq] at *
  exact List.le_trans h1 h2
theorem leL_total : ∀ a b : List UInt8, (leL a b || leL b a) = true := by
  intro a b
  unfold leL
  simp only [Bool.or_eq_true, decide_eq_true_eq]
  exact List.le_total a b
theorem leL_anti {a b : List UInt8} (h1 : leL a b = true) (h2 : leL b a = true) : a = b := by
  unfold leL at *
  simp only [decide_eq_true_eq] at *
  exact List.le_antisymm h1 h2

def leS (a b : ByteArray) : Prop := leL (bl a) (bl b) = true

theorem sortS_sorted (l : List ByteArray) : (sortS l).Pairwise leS := by
  unfold sortS
  rw [List.pairwise_map]
  exact (List.pairwise_mergeSort (fun a b c => leL_trans a b c) leL_total (l.map bl)).imp fun h => h
theorem sortS_perm (l : List ByteArray) : (sortS l).Perm l := by
  unfold sortS
  have h := (List.mergeSort_perm (l.map bl) leL).map ofL
  rw [List.map_map] at h
  have e : (ofL ∘ bl) = id := by funext s; exact ofL_bl s
  rw [e, List.map_id] at h
  exact h
theorem sorted_unique {a b : List ByteArray} (ha : a.Pairwise leS) (hb : b.Pairwise leS) (h : a.Perm b) : a = b :=
  List.Perm.eq_of_pairwise (fun x y _ _ p q => bl_inj (leL_anti p q)) ha hb h
theorem sortS_eq {a l : List ByteArray} (ha : a.Pairwise leS) (h : a.Perm l) : sortS l = a := sorted_unique (sortS_sorted l) ha ((sortS_perm l).trans h.symm)
theorem sortS_len (l : List ByteArray) : (sortS l).length = l.length := (sortS_perm l).length_eq

theorem sortS_perm2 {a b : List ByteArray} (h : a.Perm b) : sortS a = sortS b := sorted_unique (sortS_sorted a) (sortS_sorted b) ((sortS_perm a).trans (h.trans (sortS_perm b).symm))

theorem sort_c {w : World} {v : Value} {l : List ByteArray} (h : w.ownsRow 0 9 1 v l.length (l.map Value.string)) (hl : l.length ≤ 1099511627776) :
    Calls Tryz.prog 109 #[v] w fun r w' => r = .returned (.tuple #[]) ∧ w'.ownsRow 0 9 1 v l.length ((sortS l).map Value.string) ∧ Keep w w' (fun b => v.ownBlock = some b) := by
  rcases rows_val h with ⟨rfl, h0⟩ | ⟨g, cap, rfl, hc, hb, hg⟩
  · have : l = [] := List.length_eq_zero_iff.1 h0
    subst this
    refine (Tryz.slices_Sort_string_none none 0 w).mono ?_
    rintro e w' ⟨rfl, rfl⟩
    exact ⟨rfl, by have e : sortS [] = [] := by simp [sortS]
                   rw [e]; exact h, Keep.refl _ _⟩
  · have hH : Holds encStr w g 0 (l.map bl).toArray := by
      intro j hj
      simp only [List.size_toArray, List.length_map] at hj
      obtain ⟨x, hx⟩ : ∃ x, l[j]? = some x := ⟨_, List.getElem?_eq_getElem hj⟩
      have := rows_cell h (mapGet (f := Value.string) hx)
      rw [Nat.zero_add]
      refine ⟨this.1.trans ?_, this.2⟩
      have e : (l.map bl).toArray[j]! = bl x := by
        rw [getElem!_pos _ _ (by simpa using hj)]
        obtain ⟨h1, h2⟩ := List.getElem?_eq_some_iff.1 hx
        simp [h2]
      rw [e]
    have hs := Tryz.slices_Sort_string g 0 cap (l.map bl) w hH hg (by simp only [List.length_map]; omega)
    simp only [List.length_map] at hs
    refine hs.mono ?_
    rintro e w' ⟨rfl, n, os, rfl⟩
    refine ⟨rfl, ?_, ?_⟩
    · obtain ⟨hlen, hr⟩ := h
      rcases hr with ⟨h1, _⟩ | ⟨g', cap', cur, h1, h2, h3, h4, h5, h6, h7⟩
      · simp at h1
      · simp only [Value.slice.injEq, Option.some.injEq, Addr.mk.injEq, true_and, and_true] at h1
        obtain ⟨rfl, rfl⟩ := h1
        have hms : ((l.map bl).mergeSort fun x y => decide (x ≤ y)).length = l.length := by rw [List.length_mergeSort, List.length_map]
        refine ⟨by rw [List.length_map, sortS_len, Nat.mul_one], .inr ⟨g, cap, putCells encStr 0 ((l.map bl).mergeSort fun x y => decide (x ≤ y)).toArray cur, rfl, h2, ?_, h4, h5, ?_, ?_⟩⟩
        · rw [heap_grow_old _ _ (by simpa using hg)]
          simp [putRow, mapBlock, Array.getElem?_modify, h3, onCells]
        · simpa [putCells] using h6
        · apply List.ext_getElem?
          intro i
          rw [List.getElem?_take]
          by_cases hi : i < l.length * 1
          · rw [if_pos hi]
            have hi' : i < l.length := by omega
            have hic : i < cur.size := by omega
            have hx : ((l.map bl).mergeSort fun x y => decide (x ≤ y))[i]? = some (((l.map bl).mergeSort fun x y => decide (x ≤ y))[i]'(by omega)) := List.getElem?_eq_getElem _
            have e1 : (putCells encStr 0 ((l.map bl).mergeSort fun x y => decide (x ≤ y)).toArray cur).toList[i]? = some (encStr (((l.map bl).mergeSort fun x y => decide (x ≤ y))[i]'(by omega))) := by
              rw [Array.getElem?_toList]
              unfold putCells
              rw [Array.getElem?_mapIdx, Array.getElem?_eq_getElem hic]
              simp only [Option.map_some, Nat.zero_le, true_and, Nat.zero_add, List.size_toArray, hms, hi', if_true, Nat.sub_zero]
              rw [getElem!_pos _ _ (by simp [hms, hi'])]
              simp
            rw [e1]
            have e2 : (sortS l)[i]? = some (ofL (((l.map bl).mergeSort fun x y => decide (x ≤ y))[i]'(by omega))) := by
              unfold sortS
              exact mapGet hx
            rw [mapGet e2]
            rfl
          · rw [if_neg hi]
            symm
            rw [List.getElem?_eq_none]
            rw [List.length_map, sortS_len]
            omega
    · refine ⟨by simp, fun b hb' hn => ?_, rfl, rfl, rfl⟩
      rw [heap_grow_old _ _ (by simpa using hb')]
      have : b ≠ g := fun e => hn (by rw [e]; rfl)
      have this' : ¬ g = b := fun e => this e.symm
      simp [putRow, mapBlock, Array.getElem?_modify, this']

end Go.Proofs.YtnjfcedkfobbcaaGreat
