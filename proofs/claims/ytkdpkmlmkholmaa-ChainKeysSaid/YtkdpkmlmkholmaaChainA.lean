/-
  The law's own runs (known).
-/
import Derived.Test.YtkdpkmlmkholmaaChain5
import Derived.Test.YtkdpkmlmkholmaaChain9
namespace Go.Proofs.Ytkdpkmlmkholmaa
open Go Go.RowKit
set_option linter.unusedSectionVars false
set_option linter.unusedSimpArgs false
set_option linter.unusedVariables false

theorem hash_empty : hashOf ⟨#[]⟩ = 2166136261 := by kernel_rfl
theorem hash_a : hashOf ⟨#[97]⟩ = 3826002220 := by kernel_rfl
theorem put1 : putT [] ⟨#[97]⟩ 1 = ([(⟨#[97]⟩, 1)], 0) := by simp [putT, aget]
theorem put2 : putT [(⟨#[97]⟩, 1)] ⟨#[97]⟩ 2 = ([(⟨#[97]⟩, 1)], 15) := by simp [putT, aget]
theorem get1 : aget [((⟨#[97]⟩ : ByteArray), (1 : Int))] ⟨#[97]⟩ = some 1 := by simp [aget]
theorem size_a : ByteArray.size ⟨#[97]⟩ ≤ 9223372036854775807 := by decide

set_option maxHeartbeats 1000000 in
theorem known_c (w : World) : Calls Try.prog 21 #[] w fun r w' => r = .returned (.bool true) ∧ Keep w w' (fun _ => False) := by
  have hn := new_c w 2 (by omega) (by omega)
  have hh0 := fun w => hash_c ⟨#[]⟩ w (by decide)
  have hh1 := fun w => hash_c ⟨#[97]⟩ w size_a
  rw [hash_empty] at hh0
  rw [hash_a] at hh1
  go_enter Try.func21, Try.ntmps21
  go_wp2_with (first
    | (go_at_call 8
       refine hn.mono ?_
       rintro e w1 ⟨tb, S, rfl, hT, hK⟩
       have hp := put_c hT ⟨#[97]⟩ 1 size_a
       rw [put1] at hp
       have K1 := Lib.hid hK
       clear hT hK)
    | (go_at_call 12
       first
       | (refine hp.mono ?_
          rintro e w2 ⟨rfl, S2, hT2, hK2, _⟩
          have hp2 := put_c hT2 ⟨#[97]⟩ 2 size_a
          rw [put2] at hp2
          have K2 := Lib.hid hK2
          clear hp hT2 hK2)
       | (refine hp2.mono ?_
          rintro e w3 ⟨rfl, S3, hT3, hK3, _⟩
          have hg := get_c hT3 ⟨#[97]⟩ size_a
          rw [get1] at hg
          have K3 := Lib.hid hK3
          clear hp2 hT3 hK3))
    | (go_at_call 25
       refine hg.mono ?_
       rintro e w4 ⟨rfl, hK4⟩
       have K4 := Lib.hid hK4
       clear hK4)
    | (go_at_call 24
       first
       | (refine (hh0 _).mono ?_
          rintro e w5 ⟨rfl, rfl⟩
          clear hh0)
       | (refine (hh1 _).mono ?_
          rintro e w6 ⟨rfl, rfl⟩
          clear hh1)))
  go_ret
  refine ⟨rfl, ?_⟩
  exact (((K1.out.trans K2.out).trans K3.out).keep).trans K4.out (fun b q => q.elim)

end Go.Proofs.Ytkdpkmlmkholmaa
