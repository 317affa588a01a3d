/-
  The contract of Read.
-/
import Derived.Test.YtnjfcedkfobbcaaBlock4
namespace Go.Proofs.Ytnjfcedkfobbcaa
open Go Go.RowKit
set_option linter.unusedSectionVars false
set_option linter.unusedSimpArgs false
set_option linter.unusedVariables false
set_option maxRecDepth 100000

/-- v holds the bytes l, in new memory of its own. -/
def BytesNew (w : World) (v : Value) (l : List Int) (B : Nat) : Prop :=
  (l = [] ∧ v = .slice none 0 0) ∨ ∃ b, B ≤ b ∧ v = .slice (some ⟨b, 0, none⟩) l.length l.length ∧ w.heap[b]? = some (.cells (l.map (Value.int .u8)).toArray 5 (0, 0))

def halfRead (F : FileV) (p : Int) (m j : Nat) : Array Value := ((List.range m).map fun i => Value.int .u8 (if i < j then F.byte (p + i) else 0)).toArray

theorem halfRead_zero (F : FileV) (p : Int) (m : Nat) : halfRead F p m 0 = Array.replicate m (.int .u8 0) := by
  apply Array.ext
  · simp [halfRead]
  · intro i h1 h2; simp [halfRead]

theorem halfRead_step (F : FileV) (p : Int) (m j : Nat) (h : j < m) : (halfRead F p m j).setIfInBounds j (.int .u8 (F.byte (p + j))) = halfRead F p m (j + 1) := by
  apply Array.ext_getElem?
  intro i
  rw [Array.getElem?_setIfInBounds]
  by_cases hi : i < m
  · by_cases e : j = i
    · subst e; simp [halfRead, hi]
    · rw [if_neg e]
      simp only [halfRead, List.getElem?_toArray, List.getElem?_map, List.getElem?_range hi, Option.map_some]
      have : i < j ↔ i < j + 1 := by omega
      simp [this]
  · rw [if_neg (by omega)]
    simp [halfRead, hi]

theorem halfRead_skip (F : FileV) (p : Int) (m j : Nat) (h : F.byte (p + j) = 0) : halfRead F p m j = halfRead F p m (j + 1) := by
  apply Array.ext_getElem?
  intro i
  by_cases hi : i < m
  · simp only [halfRead, List.getElem?_toArray, List.getElem?_map, List.getElem?_range hi, Option.map_some]
    by_cases e : i = j
    · subst e; simp [h]
    · have : i < j ↔ i < j + 1 := by omega
      simp [this]
  · simp [halfRead, hi]

theorem halfRead_full (F : FileV) (p : Int) (m : Nat) : halfRead F p m m = (((List.range m).map fun (i : Nat) => F.byte (p + i)).map (Value.int .u8)).toArray := by
  apply Array.ext_getElem?
  intro i
  by_cases hi : i < m
  · simp [halfRead, hi]
  · simp [halfRead, hi]

theorem u8_zero (w : World) : (zeroValue 5).run Try.prog w = .ok (.int .u8 0) w := by kernel_rfl
theorem u8_infoB : (Try.prog.info? 5).map (fun i => (i.size, i.bytes)) = some (1, 1) := by kernel_rfl

end Go.Proofs.Ytnjfcedkfobbcaa
