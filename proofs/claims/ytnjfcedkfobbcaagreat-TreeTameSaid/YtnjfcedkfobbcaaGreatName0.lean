/-
  Paths in parts, as plain lists of bytes.
-/
import Derived.Lib.Bytealg
import Derived.Lib.IndexLaws
namespace Go.Proofs.YtnjfcedkfobbcaaGreat
open Go
set_option linter.unusedSectionVars false
set_option linter.unusedSimpArgs false
set_option linter.unusedVariables false

abbrev Bl := List UInt8

/-- What stands between slashes (47), empty ones too. -/
def pieces : Bl → List Bl
  | [] => [[]]
  | c :: r => if c = 47 then [] :: pieces r else match pieces r with
    | [] => [[c]]
    | p :: ps => (c :: p) :: ps

theorem pieces_ne (l : Bl) : pieces l ≠ [] := by
  cases l with
  | nil => simp [pieces]
  | cons c r =>
    rw [pieces]
    split
    · simp
    · split <;> simp

theorem pieces_none {l : Bl} (h : Lib.indexByte l 47 < 0) : pieces l = [l] := by
  induction l with
  | nil => rfl
  | cons c r ih =>
    rw [Lib.indexByte] at h
    have hge := Lib.indexByte_ge r 47
    split at h
    · omega
    · rename_i h1
      split at h
      · rename_i h2
        have h3 : Lib.indexByte r 47 = -1 := by simpa using h2
        rw [pieces, if_neg (by simpa using h1), ih (by omega)]
      · rename_i h2
        have h3 : Lib.indexByte r 47 ≠ -1 := by simpa using h2
        omega

theorem pieces_some {l : Bl} {i : Nat} (h : Lib.indexByte l 47 = i) : pieces l = l.take i :: pieces (l.drop (i + 1)) ∧ i < l.length := by
  induction l generalizing i with
  | nil => simp [Lib.indexByte] at h
  | cons c r ih =>
    rw [Lib.indexByte] at h
    have hge := Lib.indexByte_ge r 47
    split at h
    · rename_i h1
      have h0 : i = 0 := by omega
      subst h0
      rw [pieces, if_pos (by simpa using h1)]
      simp
    · rename_i h1
      split at h
      · omega
      · rename_i h2
        have h3 : Lib.indexByte r 47 ≠ -1 := by simpa using h2
        obtain ⟨j, rfl⟩ : ∃ j, i = j + 1 := ⟨i - 1, by omega⟩
        obtain ⟨h4, h5⟩ := ih (i := j) (by omega)
        rw [pieces, if_neg (by simpa using h1), h4]
        simp
        omega

/-- The parts of a path. -/
def parts (l : Bl) : List Bl := (pieces l).filter fun p => decide (p ≠ [])

theorem pieces_sum (l : Bl) : ((pieces l).map List.length).sum + (pieces l).length = l.length + 1 := by
  induction l with
  | nil => rfl
  | cons c r ih =>
    rw [pieces]
    split
    · simp at ih ⊢; omega
    · have := pieces_ne r
      split
      · rename_i h; exact absurd h this
      · rename_i p ps h
        rw [h] at ih
        simp at ih ⊢
        omega

end Go.Proofs.YtnjfcedkfobbcaaGreat
