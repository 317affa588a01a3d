/-
  DcacheNumbers: the walk.
-/
import Derived.Test.YtjicoebcmfnooaaDoorDShrink
import Derived.Test.YtjicoebcmfnooaaDoorTabR
import Derived.Below
namespace Go.Proofs.YtjicoebcmfnooaaDoor
open Go Go.RowKit Go.Shelf
set_option linter.unusedSectionVars false
set_option linter.unusedSimpArgs false
set_option linter.unusedVariables false
set_option maxRecDepth 100000
attribute [local go_sem] Oper.semAt_some

theorem dnew_bad (w : World) (m : Int) (h : m < 1 ∨ 64 < m) :
    Calls Tryd.prog 7 #[.int .i64 m] w fun r w' => r = .returned (.tuple #[.pointer none, .int .i64 1]) ∧ w = w' := by
  have hn := new_bad w m h
  go_enter Tryd.func7, Tryd.ntmps7
  go_wp2_with (
    go_at_call 22
    refine hn.mono ?_
    rintro e w1 ⟨rfl, rfl⟩)
  go_ret2
  exact ⟨rfl, rfl⟩

theorem CurD.pw {W w : World} {cb : Nat} {S : Nat → Prop} {most : Int} {A : Mem} (c : CurD W w cb S most A) (hp : Pw W) : ∀ U, Keep w U (fun b => S b ∨ w.heap.size ≤ b) → Pw U := fun U k =>
  hp.keep (c.keep.trans k (fun b q => .inr (by
    rcases q with q | q
    · exact c.own b q
    · exact Nat.le_trans c.keep.size q)))

theorem small_of (d : Int) (s : ByteArray) (h : (-9223372036854775808 ≤ d ∧ d ≤ 9223372036854775807) ∧ s.size ≤ 9000000000000000000) : (-9223372036854775808 ≤ d ∧ d ≤ 9223372036854775807) ∧ s.size ≤ 9000000000000000000 := h

theorem dn0 : putA 2 [] ((1 : Int), (⟨#[97]⟩ : ByteArray)) 5 = ([(((1 : Int), (⟨#[97]⟩ : ByteArray)), 5)], ByteArray.empty) := by kernel_rfl
theorem dn1 : putA 2 [(((1 : Int), (⟨#[97]⟩ : ByteArray)), 5)] ((1 : Int), (⟨#[98]⟩ : ByteArray)) 6 = ([(((1 : Int), (⟨#[97]⟩ : ByteArray)), 5), (((1 : Int), (⟨#[98]⟩ : ByteArray)), 6)], ByteArray.empty) := by kernel_rfl
theorem dn2 : getA [(((1 : Int), (⟨#[97]⟩ : ByteArray)), 5), (((1 : Int), (⟨#[98]⟩ : ByteArray)), 6)] ((1 : Int), (⟨#[97]⟩ : ByteArray)) = ([(((1 : Int), (⟨#[98]⟩ : ByteArray)), 6), (((1 : Int), (⟨#[97]⟩ : ByteArray)), 5)], 2, 5) := by kernel_rfl
theorem dn3 : putA 2 [(((1 : Int), (⟨#[98]⟩ : ByteArray)), 6), (((1 : Int), (⟨#[97]⟩ : ByteArray)), 5)] ((2 : Int), (⟨#[99]⟩ : ByteArray)) (-3) = ([(((1 : Int), (⟨#[97]⟩ : ByteArray)), 5), (((2 : Int), (⟨#[99]⟩ : ByteArray)), -3)], ⟨#[98]⟩) := by kernel_rfl
theorem dn4 : getA [(((1 : Int), (⟨#[97]⟩ : ByteArray)), 5), (((2 : Int), (⟨#[99]⟩ : ByteArray)), -3)] ((2 : Int), (⟨#[99]⟩ : ByteArray)) = ([(((1 : Int), (⟨#[97]⟩ : ByteArray)), 5), (((2 : Int), (⟨#[99]⟩ : ByteArray)), -3)], 3, 0) := by kernel_rfl
theorem dn5 : shrinkA [(((1 : Int), (⟨#[97]⟩ : ByteArray)), 5), (((2 : Int), (⟨#[99]⟩ : ByteArray)), -3)] (-1) = ([(((1 : Int), (⟨#[97]⟩ : ByteArray)), 5), (((2 : Int), (⟨#[99]⟩ : ByteArray)), -3)], 0) := by kernel_rfl
theorem dn6 : forgetA [(((1 : Int), (⟨#[97]⟩ : ByteArray)), 5), (((2 : Int), (⟨#[99]⟩ : ByteArray)), -3)] 1 = ([(((2 : Int), (⟨#[99]⟩ : ByteArray)), -3)], 1) := by kernel_rfl
theorem dn7 : dropA [(((2 : Int), (⟨#[99]⟩ : ByteArray)), -3)] ((1 : Int), (⟨#[97]⟩ : ByteArray)) = ([(((2 : Int), (⟨#[99]⟩ : ByteArray)), -3)], false) := by kernel_rfl
theorem dn8 : dropA [(((2 : Int), (⟨#[99]⟩ : ByteArray)), -3)] ((2 : Int), (⟨#[99]⟩ : ByteArray)) = (([] : Mem), true) := by kernel_rfl

set_option maxHeartbeats 4000000 in
theorem dnumbers_walk (w : World) (hp : Pw w) : Calls Tryd.prog 5 #[] w fun r w' => r = .returned (.bool true) ∧ Below w.heap.size w w' := by
  have hn := dnew_c w 2 (by omega) (by omega)
  have n0 := dnew_bad w 0 (by omega)
  have n65 := dnew_bad w 65 (by omega)
  have HP := Lib.hid hp
  clear hp
  go_enter Tryd.func5, Tryd.ntmps5
  go_wp2_with fail
  refine n0.mono ?_
  rintro e w1 ⟨rfl, rfl⟩
  clear n0
  go_wp2_with fail
  refine n65.mono ?_
  rintro e w1 ⟨rfl, rfl⟩
  clear n65
  go_wp2_with fail
  refine hn.mono ?_
  rintro e w1 ⟨cb, S1, rfl, hL1, hT1⟩
  have c1 := CurD.made (Keep.refl w _) hL1 hT1
  have hu := dput_c c1.cache (HP.out.keep c1.keep) 1 ⟨#[97]⟩ 5 (by decide)
  rw [dn0] at hu
  have B1 := Lib.hid c1
  clear c1 hL1 hT1 hn
  go_wp2_with fail
  refine hu.mono ?_
  rintro e w2 ⟨rfl, S2, hL2, hT2⟩
  have c2 := B1.out.turn hL2 hT2
  clear hL2 hT2 B1 hu
  have hu := dput_c c2.cache (HP.out.keep c2.keep) 1 ⟨#[98]⟩ 6 (by decide)
  rw [dn1] at hu
  have B2 := Lib.hid c2
  clear c2 
  go_wp2_with fail
  refine hu.mono ?_
  rintro e w3 ⟨rfl, S3, hL3, hT3⟩
  have c3 := B2.out.turn hL3 hT3
  clear hL3 hT3 B2 hu
  have hu := dget_c c3.cache (HP.out.keep c3.keep) 1 ⟨#[97]⟩ (by decide)
  rw [dn2] at hu
  have B3 := Lib.hid c3
  clear c3 
  go_wp2_with fail
  refine hu.mono ?_
  rintro e w4 ⟨rfl, S4, hL4, hT4⟩
  have c4 := B3.out.turn hL4 hT4
  clear hL4 hT4 B3 hu
  have hu := dput_c c4.cache (HP.out.keep c4.keep) 2 ⟨#[99]⟩ (-3) (by decide)
  rw [dn3] at hu
  have B4 := Lib.hid c4
  clear c4 
  go_wp2_with fail
  refine hu.mono ?_
  rintro e w5 ⟨rfl, S5, hL5, hT5⟩
  have c5 := B4.out.turn hL5 hT5
  clear hL5 hT5 B4 hu
  have hu := dget_c c5.cache (HP.out.keep c5.keep) 2 ⟨#[99]⟩ (by decide)
  rw [dn4] at hu
  have B5 := Lib.hid c5
  clear c5 
  go_wp2_with fail
  refine hu.mono ?_
  rintro e w6 ⟨rfl, S6, hL6, hT6⟩
  have c6 := B5.out.turn hL6 hT6
  clear hL6 hT6 B5 hu
  have hu := dshrink_c c6.cache (-1)
  rw [dn5] at hu
  have B6 := Lib.hid c6
  clear c6 
  go_wp2_with fail
  refine hu.mono ?_
  rintro e w7 ⟨rfl, S7, hL7, hT7⟩
  have c7 := B6.out.turn hL7 hT7
  clear hL7 hT7 B6 hu
  have hu := dforget_c c7.cache (c7.pw HP.out) 1 (by decide)
  rw [dn6] at hu
  have B7 := Lib.hid c7
  clear c7 
  go_wp2_with fail
  refine hu.mono ?_
  rintro e w8 ⟨rfl, S8, hL8, hT8⟩
  have c8 := B7.out.turn hL8 hT8
  clear hL8 hT8 B7 hu
  have hu := ddrop_c c8.cache (HP.out.keep c8.keep) 1 ⟨#[97]⟩ (by decide)
  rw [dn7] at hu
  have B8 := Lib.hid c8
  clear c8 
  go_wp2_with fail
  refine hu.mono ?_
  rintro e w9 ⟨rfl, S9, hL9, hT9⟩
  have c9 := B8.out.turn hL9 hT9
  clear hL9 hT9 B8 hu
  have hu := ddrop_c c9.cache (HP.out.keep c9.keep) 2 ⟨#[99]⟩ (by decide)
  rw [dn8] at hu
  have B9 := Lib.hid c9
  clear c9 
  go_wp2_with fail
  refine hu.mono ?_
  rintro e w10 ⟨rfl, S10, hL10, hT10⟩
  have c10 := B9.out.turn hL10 hT10
  clear hL10 hT10 B9 hu
  have hl := dlen_c c10.cache
  have B10 := Lib.hid c10
  clear c10
  go_wp2_with (first
    | (go_at_call 11
       refine hl.mono ?_
       rintro e w20 ⟨rfl, rfl⟩
       clear hl)
    | (go_at_call 12
       refine (knownD_c _ (HP.out.keep B10.out.keep)).mono ?_
       rintro e w21 ⟨rfl, k8⟩
       have N8 := Lib.hid (B10.out.aside k8)
       clear k8))
  go_ret
  exact ⟨rfl, N8.out.below⟩

end Go.Proofs.YtjicoebcmfnooaaDoor
