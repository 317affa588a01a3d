/-
  name.Dots, name.Right.
-/
import Derived.Test.YtnjfcedkfobbcaaSplit
import Derived.Test.YtnjfcedkfobbcaaShelf
import Derived.Lib.Join
namespace Go.Proofs.Ytnjfcedkfobbcaa
open Go Go.RowKit Go.Shelf
set_option linter.unusedSectionVars false
set_option linter.unusedSimpArgs false
set_option linter.unusedVariables false
attribute [local go_sem] Oper.semAt_some

def dotsP (l : Bl) : Bool := decide (l = [46] ∨ l = [46, 46])

/-- Whether a name may be made. -/
def rightP (l : Bl) : Bool := decide (l ≠ [] ∧ l.length ≤ 255 ∧ Lib.indexByte l 47 < 0 ∧ Lib.indexByte l 0 < 0 ∧ ¬ (l = [46] ∨ l = [46, 46]))

theorem txB_inj {l m : Bl} : txB l = txB m ↔ l = m := by
  constructor
  · intro h
    have h2 := congrArg (fun x : ByteArray => x.data.toList) h
    simpa [txB] using h2
  · rintro rfl; rfl

theorem txB_toList (l : Bl) : (txB l).toList = l := by rw [ByteArray.toList_eq]; rfl

set_option maxRecDepth 100000 in
theorem dots_c (l : Bl) (w : World) :
    Calls Try.prog 49 #[.string (txB l)] w fun e w' => e = .returned (.bool (dotsP l)) ∧ w' = w := by
  have e3 : dotsP l = (decide ((txB l).toList = [46]) || decide ((txB l).toList = [46, 46])) := by unfold dotsP; rw [txB_toList]; simp
  rw [e3]
  clear e3
  by_cases h1 : (txB l).toList = [46]
  · go_enter Try.func49, Try.ntmps49
    go_wp2
    go_ret
    simp [h1]
  · by_cases h2 : (txB l).toList = [46, 46]
    all_goals
      go_enter Try.func49, Try.ntmps49
      go_wp2
      go_ret
      simp [h1, h2]

set_option maxRecDepth 100000 in
set_option maxHeartbeats 1000000 in
theorem right_c (l : Bl) (w : World) :
    Calls Try.prog 31 #[.string (txB l)] w fun e w' => e = .returned (.bool (rightP l)) ∧ w' = w := by
  have i1 := fun U => Try.strings_IndexByte (txB l) 47 U
  have i2 := fun U => Try.strings_IndexByte (txB l) 0 U
  have hd := fun U => dots_c l U
  rw [txB_list] at i1 i2
  rw [show ((47 : Int).toNat.toUInt8) = (47 : UInt8) from rfl] at i1
  rw [show ((0 : Int).toNat.toUInt8) = (0 : UInt8) from rfl] at i2
  have hr : rightP l = (decide (¬ (txB l).toList = []) && decide ((txB l).size ≤ 255) && decide (Lib.indexByte l 47 < 0) && decide (Lib.indexByte l 0 < 0) && !dotsP l) := by
    rw [txB_toList, txB_size]
    unfold rightP dotsP
    by_cases a1 : l = [] <;> by_cases a2 : l.length ≤ 255 <;> by_cases a3 : Lib.indexByte l 47 < 0 <;> by_cases a4 : Lib.indexByte l 0 < 0 <;> by_cases a5 : l = [46] <;> by_cases a6 : l = [46, 46] <;> simp [a1, a2, a3, a4, a5, a6]
  generalize Lib.indexByte l 47 = x1 at *
  generalize Lib.indexByte l 0 = x2 at *
  generalize dotsP l = d at *
  rw [hr]
  clear hr
  generalize hL : (txB l).toList = L at *
  have HL := Lib.hid hL
  clear hL
  by_cases a1 : (txB l).toList = []
  · have e0 : L = [] := by rw [← HL.out]; exact a1
    go_enter Try.func31, Try.ntmps31
    go_wp2
    go_ret
    simp [e0]
  · have e0 : (txB l).toList.isEmpty = false := by rw [List.isEmpty_eq_false_iff]; exact a1
    have e1 : L ≠ [] := by rw [← HL.out]; exact a1
    have H1 := Lib.hid e1
    clear e1
    by_cases a2 : (txB l).size ≤ 255
    · by_cases a3 : x1 < 0
      · by_cases a4 : x2 < 0
        all_goals
          go_enter Try.func31, Try.ntmps31
          go_wp2_with (
            first
            | (go_at_call 48; first | (refine (i1 _).mono ?_; rintro e w1 ⟨rfl, rfl⟩) | (refine (i2 _).mono ?_; rintro e w1 ⟨rfl, rfl⟩))
            | (go_at_call 49; refine (hd _).mono ?_; rintro e w1 ⟨rfl, rfl⟩))
          go_ret
          simp [H1.out, a2, a3, a4]
          try (intros; omega)
      · go_enter Try.func31, Try.ntmps31
        go_wp2_with (
          go_at_call 48
          refine (i1 _).mono ?_
          rintro e w1 ⟨rfl, rfl⟩)
        go_ret
        simp [H1.out, a2, a3]
        try (intros; omega)
    · go_enter Try.func31, Try.ntmps31
      go_wp2
      go_ret
      simp [H1.out, a2]


end Go.Proofs.Ytnjfcedkfobbcaa
