/-
  The laws' own runs (known).
-/
import Derived.Test.YtfmdhbcniabpiaaLru5
namespace Go.Proofs.Ytfmdhbcniabpiaa
open Go Go.RowKit
set_option linter.unusedSectionVars false
set_option linter.unusedSimpArgs false
set_option linter.unusedVariables false

theorem kn1 : useE 2 [] ⟨#[97]⟩ = ([(⟨#[97]⟩, 0)], ByteArray.empty, false) := by kernel_rfl
theorem kn2 : useE 2 [(⟨#[97]⟩, 0)] ⟨#[98]⟩ = ([(⟨#[97]⟩, 0), (⟨#[98]⟩, 0)], ByteArray.empty, false) := by kernel_rfl
theorem kn3 : useE 2 [(⟨#[97]⟩, 0), (⟨#[98]⟩, 0)] ⟨#[97]⟩ = ([(⟨#[98]⟩, 0), (⟨#[97]⟩, 0)], ByteArray.empty, false) := by kernel_rfl
theorem kn4 : useE 2 [(⟨#[98]⟩, 0), (⟨#[97]⟩, 0)] ⟨#[99]⟩ = ([(⟨#[97]⟩, 0), (⟨#[99]⟩, 0)], ⟨#[98]⟩, true) := by kernel_rfl
theorem kn5 : aget [((⟨#[97]⟩ : ByteArray), (0 : Int)), (⟨#[99]⟩, 0)] ⟨#[97]⟩ = some 0 := by kernel_rfl
theorem kn6 : aget [((⟨#[97]⟩ : ByteArray), (0 : Int)), (⟨#[99]⟩, 0)] ⟨#[98]⟩ = none := by kernel_rfl

set_option maxHeartbeats 1000000 in
theorem known_c (w : World) : Calls Try.prog 14 #[] w fun r w' => r = .returned (.bool true) ∧ Keep w w' (fun _ => False) := by
  have hn := new_c w 2 (by omega) (by omega)
  go_enter Try.func14, Try.ntmps14
  go_wp2_with fail
  refine hn.mono ?_
  rintro e w1 ⟨lb, S1, rfl, hL1, hT1⟩
  have B1 := Lib.hid (And.intro hL1 hT1)
  have hu := use_c hL1 (by simp) ⟨#[97]⟩
  rw [kn1] at hu
  clear hL1 hT1 hn
  go_wp2_with fail
  refine hu.mono ?_
  rintro e w2 ⟨rfl, S2, hL2, hT2⟩
  have B2 := Lib.hid (And.intro hL2 (B1.out.2.trans hT2))
  have hu := use_c hL2 (by simp) ⟨#[98]⟩
  rw [kn2] at hu
  clear hL2 hT2 B1
  go_wp2_with fail
  refine hu.mono ?_
  rintro e w3 ⟨rfl, S3, hL3, hT3⟩
  have B3 := Lib.hid (And.intro hL3 (B2.out.2.trans hT3))
  have hu := use_c hL3 (by simp) ⟨#[97]⟩
  rw [kn3] at hu
  clear hL3 hT3 B2
  go_wp2_with fail
  refine hu.mono ?_
  rintro e w4 ⟨rfl, S4, hL4, hT4⟩
  have B4 := Lib.hid (And.intro hL4 (B3.out.2.trans hT4))
  have hu := use_c hL4 (by simp) ⟨#[99]⟩
  rw [kn4] at hu
  clear hL4 hT4 B3
  go_wp2_with fail
  refine hu.mono ?_
  rintro e w5 ⟨rfl, S5, hL5, hT5⟩
  have B5 := Lib.hid (And.intro hL5 (B4.out.2.trans hT5))
  have hl := len_c hL5
  have h1 := has_c hL5 (by simp) ⟨#[97]⟩
  rw [kn5] at h1
  clear hL5 hT5 B4 hu
  go_wp2_with (first
    | (go_at_call 11
       refine hl.mono ?_
       rintro e w6 ⟨rfl, hw6⟩
       obtain rfl : w5 = w6 := hw6.symm
       clear hl)
    | (go_at_call 19
       first
       | (refine h1.mono ?_
          rintro e w7 ⟨rfl, hk7⟩
          have K7 := Lib.hid hk7
          have h2 := has_c (B5.out.1.aside hk7) (by simp) ⟨#[98]⟩
          rw [kn6] at h2
          clear h1 hk7)
       | (refine h2.mono ?_
          rintro e w8 ⟨rfl, hk8⟩
          have K8 := Lib.hid hk8
          clear h2 hk8)))
  go_ret
  exact ⟨rfl, (B5.out.2.keep.trans K7.out (fun _ q => q.elim)).trans K8.out (fun _ q => q.elim)⟩

end Go.Proofs.Ytfmdhbcniabpiaa
