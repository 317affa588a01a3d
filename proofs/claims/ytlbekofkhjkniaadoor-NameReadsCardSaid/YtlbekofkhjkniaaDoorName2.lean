/-
  Plain laws of paths: joined ones, cut ones.
-/
import Derived.Test.YtlbekofkhjkniaaDoorName1
namespace Go.Proofs.YtlbekofkhjkniaaDoor
open Go Go.RowKit
set_option linter.unusedSectionVars false
set_option linter.unusedSimpArgs false
set_option linter.unusedVariables false

theorem Keep.add {w A B : World} (h : Hid (Keep A B (fun _ => False))) (k : Keep w A (fun _ => False)) : Keep w B (fun _ => False) := k.trans h.out (fun _ q => q.elim)

/-- What is read without a fault. -/
theorem readP_zero {l : Bl} {x : Bool × Bool × List Bl} (h : readP l = (x, 0)) : l ≠ [] ∧ l.length ≤ 4096 ∧ 0 ∉ l ∧ (∀ p ∈ parts l, p.length ≤ 255) ∧ x = (decide (l.head? = some 47), decide (l.getLast? = some 47), parts l) := by
  rw [readP_eq] at h
  split at h
  · simp at h
  · rename_i h0
    split at h
    · simp at h
    · rename_i h1
      split at h
      · simp at h
      · rename_i h2
        split at h
        · simp at h
        · rename_i h3
          refine ⟨h0, by omega, h2, fun p hp => ?_, ?_⟩
          · by_cases q : p.length ≤ 255
            · exact q
            · exact absurd ⟨p, hp, by omega⟩ h3
          · have := congrArg Prod.fst h
            exact this.symm

theorem readP_of {l : Bl} (h0 : l ≠ []) (h1 : l.length ≤ 4096) (h2 : 0 ∉ l) (h3 : ∀ p ∈ parts l, p.length ≤ 255) : readP l = ((decide (l.head? = some 47), decide (l.getLast? = some 47), parts l), 0) := by
  rw [readP_eq, if_neg h0, if_neg (by omega), if_neg h2, if_neg (by rintro ⟨p, hp, q⟩; have := h3 p hp; omega)]

theorem readP_join {a b : Bl} {ra sa rb sb : Bool} {pa pb : List Bl} (ha : readP a = ((ra, sa, pa), 0)) (hb : readP b = ((rb, sb, pb), 0)) (la : a.length ≤ 1500) (lb : b.length ≤ 1500) : readP (a ++ 47 :: b) = ((ra, sb, pa ++ pb), 0) := by
  obtain ⟨a0, a1, a2, a3, a4⟩ := readP_zero ha
  obtain ⟨b0, b1, b2, b3, b4⟩ := readP_zero hb
  simp only [Prod.mk.injEq] at a4 b4
  obtain ⟨rfl, rfl, rfl⟩ := a4
  obtain ⟨rfl, rfl, rfl⟩ := b4
  rw [readP_of (by simp) (by simp; omega) (by simp [a2, b2]) (by
    rw [parts_append]
    intro p hp
    rcases List.mem_append.1 hp with h | h
    · exact a3 p h
    · exact b3 p h), parts_append]
  have e1 : (a ++ 47 :: b).head? = a.head? := by
    cases a with
    | nil => exact absurd rfl a0
    | cons c r => rfl
  have e2 : (a ++ 47 :: b).getLast? = b.getLast? := by
    cases b with
    | nil => exact absurd rfl b0
    | cons c r =>
      rw [List.getLast?_append, List.getLast?_cons_cons]
      obtain ⟨z, hz⟩ : ∃ z, (c :: r).getLast? = some z := by
        cases h : (c :: r).getLast? with
        | none => simp at h
        | some z => exact ⟨z, rfl⟩
      rw [hz]
      rfl
  rw [e1, e2]

/-- A text that is cut off. -/
def cutB (n : Nat) (x : ByteArray) : ByteArray := if n < x.size then x.extract 0 n else x

theorem cutB_list (n : Nat) (x : ByteArray) : ∃ l : Bl, cutB n x = txB l ∧ l.length ≤ n := by
  refine ⟨(cutB n x).data.toList, rfl, ?_⟩
  have e : (cutB n x).data.toList.length = (cutB n x).size := by simp
  rw [e]
  unfold cutB
  split
  · rw [ByteArray.size_extract]; omega
  · omega

end Go.Proofs.YtlbekofkhjkniaaDoor
