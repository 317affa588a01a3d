/-
  warrenbook.Same at numbers.
-/
import Derived.Test.YtnjfcedkfobbcaaGreatChecked
import Derived.Test.YtnjfcedkfobbcaaGreatLists
import Derived.WalkMore
import Derived.Deep.LoopGhost
import Derived.Deep.QuietTactic
import Derived.BigQuiet
namespace Go.Proofs.YtnjfcedkfobbcaaGreat
open Go Go.RowKit
set_option linter.unusedSectionVars false
set_option linter.unusedSimpArgs false
set_option linter.unusedVariables false

set_option maxHeartbeats 1000000 in
theorem isame_c {w : World} {va vb : Value} {a b : List Int} (ha : ListIn w va (a.map (Value.int .i64))) (hb : ListIn w vb (b.map (Value.int .i64))) (hla : a.length ≤ 1099511627776) (hlb : b.length ≤ 1099511627776) :
    Calls Tryz.prog 34 #[va, vb] w fun r w' => r = .returned (.bool (decide (a = b))) ∧ ∃ q, w' = w.drewN q := by
  obtain ⟨aa, ca, rfl⟩ := ha.val
  obtain ⟨ab, cb, rfl⟩ := hb.val
  simp only [List.length_map] at *
  have HA := Lib.hid ha
  have HB := Lib.hid hb
  clear ha hb
  by_cases hl : a.length = b.length
  · have HL := Lib.hid hl
    rw [← hl]
    generalize hn : a.length = n at *
    have HN := Lib.hid hn
    clear hl hlb hn
    go_enter Tryz.func34, Tryz.ntmps34
    go_wp2
    go_loopg [5] n (fun g i wr => ∃ k : Nat, i = .int .i64 k ∧ k + g = n ∧ a.take k = b.take k ∧ ∃ q, wr = w.drewN q)
    case atStart => exact ⟨0, rfl, by omega, by simp, 0, rfl⟩
    case round =>
      obtain ⟨k, rfl, hk, ht, q, hw⟩ := hrel
      have HT := Lib.hid ht
      have HW := Lib.hid hw
      clear ht
      by_cases hlt : k < n
      · obtain ⟨b1, o1, rfl, _, f1⟩ := HA.out.some (by simp only [List.length_map]; rw [HN.out]; omega)
        obtain ⟨b2, o2, rfl, _, f2⟩ := HB.out.some (by simp only [List.length_map]; rw [← HL.out]; omega)
        obtain ⟨x, hx⟩ : ∃ x, a[k]? = some x := ⟨_, List.getElem?_eq_getElem (by rw [HN.out]; exact hlt)⟩
        obtain ⟨y, hy⟩ : ∃ x, b[k]? = some x := ⟨_, List.getElem?_eq_getElem (by rw [← HL.out]; exact hlt)⟩
        have c1 : wr.cell? ⟨b1, o1 + k, none⟩ = some (.int .i64 x) := by rw [hw]; exact f1 k _ (mapGet hx)
        have c2 : wr.cell? ⟨b2, o2 + k, none⟩ = some (.int .i64 y) := by rw [hw]; exact f2 k _ (mapGet hy)
        have hlt' : (k : Int) < (n : Int) := by omega
        have HX := Lib.hid (And.intro hx hy)
        clear hx hy f1 f2 hw
        by_cases he : x = y
        · subst he
          have g1 : (x == x) = true := by simp
          go_wp2
          go_quiet (fail)
          go_wp2
          go_roundg (n - (k + 1))
          case measure => omega
          case rel =>
            refine ⟨k + 1, rfl, by omega, ?_, _, by rw [HW.out, World.drewN_drewN]⟩
            rw [List.take_add_one, List.take_add_one, HX.out.1, HX.out.2, HT.out]
        · have g1 : (x == y) = false := by simpa using he
          have HE := Lib.hid he
          go_wp2
          go_quiet (fail)
          go_wp2
          go_ret
          refine ⟨?_, _, by rw [HW.out, World.drewN_drewN]⟩
          rw [show decide (a = b) = false from decide_eq_false (fun e => HE.out (by
            have h1 := HX.out.1
            rw [e, HX.out.2] at h1
            exact (Option.some.inj h1).symm))]
          rfl
      · have hlt' : ¬ (k : Int) < (n : Int) := by omega
        clear hw
        go_wp2
        go_ret
        refine ⟨?_, q, HW.out⟩
        rw [show decide (a = b) = true from decide_eq_true (by
          have h1 := HT.out
          rw [List.take_of_length_le (by rw [HN.out]; omega), List.take_of_length_le (by rw [← HL.out]; omega)] at h1
          exact h1)]
        rfl
  · have hl' : ((a.length : Int) != (b.length : Int)) = true := by simp; omega
    have hd : decide (a = b) = false := decide_eq_false (fun e => hl (by rw [e]))
    have HD := Lib.hid hd
    clear hd
    generalize hx : decide (a = b) = x at *
    clear hx
    go_enter Tryz.func34, Tryz.ntmps34
    go_wp2
    go_ret
    exact ⟨by rw [HD.out]; rfl, 0, rfl⟩

end Go.Proofs.YtnjfcedkfobbcaaGreat
