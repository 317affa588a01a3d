/-
  Within of the book of statements.
-/
import Derived.Test.YtnjfcedkfobbcaaGreatChecked
import Derived.Test.YtnjfcedkfobbcaaGreatHeap
namespace Go.Proofs.YtnjfcedkfobbcaaGreat
open Go Go.RowKit
set_option linter.unusedSectionVars false
set_option linter.unusedSimpArgs false
set_option linter.unusedVariables false

theorem within_c (w : World) (n lo hi : Int) (h0 : 0 ≤ lo) (h1 : lo ≤ hi) (h2 : hi ≤ 1000000) :
    Calls Tryz.prog 5 #[.int .i64 n, .int .i64 lo, .int .i64 hi] w fun r w' => ∃ m : Int, lo ≤ m ∧ m ≤ hi ∧ r = .returned (.int .i64 m) ∧ w = w' := by
  have hd : 0 < hi - lo + 1 := by omega
  by_cases hn : 0 ≤ n
  · have hm := Int.emod_nonneg n (b := hi - lo + 1) (by omega)
    have hm2 := Int.emod_lt_of_pos n hd
    go_enter Tryz.func5, Tryz.ntmps5
    go_wp2
    go_ret
    exact ⟨_, by omega, by omega, rfl, rfl⟩
  · have hm : -(hi - lo + 1) < n.tmod (hi - lo + 1) ∧ n.tmod (hi - lo + 1) ≤ 0 := by
      have e : (-n).tmod (hi - lo + 1) = (-n) % (hi - lo + 1) := Int.tmod_eq_emod_of_nonneg (by omega)
      rw [Int.neg_tmod] at e
      have h3 := Int.emod_nonneg (-n) (b := hi - lo + 1) (by omega)
      have h4 := Int.emod_lt_of_pos (-n) hd
      omega
    obtain ⟨hm1, hm2⟩ := hm
    go_enter Tryz.func5, Tryz.ntmps5
    go_wp2
    all_goals
      go_ret
      exact ⟨_, by omega, by omega, rfl, rfl⟩

end Go.Proofs.YtnjfcedkfobbcaaGreat
