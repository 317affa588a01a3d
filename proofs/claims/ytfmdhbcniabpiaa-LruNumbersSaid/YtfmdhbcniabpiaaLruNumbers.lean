/-
  LruNumbers: chapter 6's runs.
-/
import Derived.Test.YtfmdhbcniabpiaaLru6
import Derived.Test.YtfmdhbcniabpiaaLru7
import Derived.Test.YtfmdhbcniabpiaaSameS
namespace Go.Proofs.Ytfmdhbcniabpiaa
open Go Go.RowKit
set_option linter.unusedSectionVars false
set_option linter.unusedSimpArgs false
set_option linter.unusedVariables false

abbrev tA : ByteArray := ⟨#[97]⟩
abbrev tB : ByteArray := ⟨#[98]⟩
abbrev tC : ByteArray := ⟨#[99]⟩

theorem nm1 : useE 2 [] tA = ([(tA, 0)], ByteArray.empty, false) := by kernel_rfl
theorem nm2 : setPins [(tA, 0)] tA 1 = ([(tA, 1)], true) := by kernel_rfl
theorem nm3 : setPins [(tA, 1)] ⟨#[122]⟩ 1 = ([(tA, 1)], false) := by kernel_rfl
theorem nm4 : useE 2 [(tA, 1)] tB = ([(tA, 1), (tB, 0)], ByteArray.empty, false) := by kernel_rfl
theorem nm5 : setPins [(tA, 1), (tB, 0)] tB 1 = ([(tA, 1), (tB, 1)], true) := by kernel_rfl
theorem nm6 : useE 2 [(tA, 1), (tB, 1)] tC = ([(tA, 1), (tB, 1), (tC, 0)], ByteArray.empty, false) := by kernel_rfl
theorem nm7 : gone [(tA, 1), (tB, 1), (tC, 0)] 9 = [tC] := by kernel_rfl
theorem nm8 : dropAll [(tA, 1), (tB, 1), (tC, 0)] [tC] = [(tA, 1), (tB, 1)] := by kernel_rfl
theorem nm9 : setPins [(tA, 1), (tB, 1)] tA (-1) = ([(tA, 0), (tB, 1)], true) := by kernel_rfl
theorem nm10 : setPins [(tA, 0), (tB, 1)] tA (-1) = ([(tA, 0), (tB, 1)], false) := by kernel_rfl
theorem nm11 : firsts [(tA, 0), (tB, 1)] (-1) = [] := by kernel_rfl
theorem nm12 : firsts [(tA, 0), (tB, 1)] 9 = [tA, tB] := by kernel_rfl
theorem nm13 : aget [(tA, 0), (tB, (1 : Int))] tB = some 1 := by kernel_rfl
theorem nm14 : adel [(tA, 0), (tB, (1 : Int))] tB = [(tA, 0)] := by kernel_rfl
theorem nm15 : aget [(tA, (0 : Int))] tB = none := by kernel_rfl

theorem listNew (w : World) (xs : List Value) (e : TypeId) (cap : Nat) : ListIn (w.alloc (.cells xs.toArray e)) (.slice (some ⟨w.heap.size, 0, none⟩) xs.length cap) xs := by
  refine ⟨_, cap, rfl, .inr ⟨w.heap.size, 0, rfl, by simp, fun i u hi => ?_⟩⟩
  rw [Nat.zero_add, cell_blk (heap_alloc_eq w _)]
  simpa using hi

set_option maxRecDepth 100000 in
set_option maxHeartbeats 4000000 in
theorem numbers_walk (w : World) : Calls Try.prog 6 #[] w fun r w' => r = .returned (.bool true) ∧ Below w.heap.size w w' := by
  have hb0 := new_bad w 0 (by omega)
  have hb1 := new_bad w 65 (by omega)
  have hn := new_c w 2 (by omega) (by omega)
  go_enter Try.func6, Try.ntmps6
  go_wp2_with fail
  refine hb0.mono ?_
  rintro e w1 ⟨rfl, rfl⟩
  clear hb0
  go_wp2_with fail
  refine hb1.mono ?_
  rintro e w1 ⟨rfl, rfl⟩
  clear hb1
  go_wp2_with fail
  refine hn.mono ?_
  rintro e w1 ⟨lb, S1, rfl, h1, h2⟩
  have N1 := Lib.hid (And.intro h1 h2)
  clear hn h1 h2
  have hu := use_c N1.out.1 (by simp) tA
  rw [nm1] at hu
  go_wp2_with fail
  refine hu.mono ?_
  rintro e w2 ⟨rfl, S2, h1, h2⟩
  have N2 := Lib.hid (And.intro h1 (N1.out.2.trans h2))
  clear hu h1 h2
  have hu := Pin_c N2.out.1 (by simp) tA (by intro q e; simp [aget] at e; try omega)
  rw [nm2] at hu
  go_wp2_with fail
  refine hu.mono ?_
  rintro e w3 ⟨rfl, h1, h2⟩
  have N3 := Lib.hid (And.intro h1 (N2.out.2.trans (S2 := S2) ⟨h2, fun b q => .inl q⟩))
  clear hu h1 h2
  have hu := Pin_c N3.out.1 (by simp) ⟨#[122]⟩ (by intro q e; simp [aget] at e; try omega)
  rw [nm3] at hu
  go_wp2_with fail
  refine hu.mono ?_
  rintro e w4 ⟨rfl, h1, h2⟩
  have N4 := Lib.hid (And.intro h1 (N3.out.2.trans (S2 := S2) ⟨h2, fun b q => .inl q⟩))
  clear hu h1 h2
  have hu := use_c N4.out.1 (by simp) tB
  rw [nm4] at hu
  go_wp2_with fail
  refine hu.mono ?_
  rintro e w5 ⟨rfl, S5, h1, h2⟩
  have N5 := Lib.hid (And.intro h1 (N4.out.2.trans h2))
  clear hu h1 h2
  have hu := Pin_c N5.out.1 (by simp) tB (by intro q e; simp [aget] at e; try omega)
  rw [nm5] at hu
  go_wp2_with fail
  refine hu.mono ?_
  rintro e w6 ⟨rfl, h1, h2⟩
  have N6 := Lib.hid (And.intro h1 (N5.out.2.trans (S2 := S5) ⟨h2, fun b q => .inl q⟩))
  clear hu h1 h2
  have hu := use_c N6.out.1 (by simp) tC
  rw [nm6] at hu
  go_wp2_with fail
  refine hu.mono ?_
  rintro e w7 ⟨rfl, S7, h1, h2⟩
  have N7 := Lib.hid (And.intro h1 (N6.out.2.trans h2))
  clear hu h1 h2
  go_wp2_with fail
  refine (len_c N7.out.1).mono ?_
  rintro e w8 ⟨rfl, hw8⟩
  obtain rfl : w7 = w8 := hw8.symm
  have hu := shrink_c N7.out.1 (by simp) 9
  rw [nm7, nm8] at hu
  go_wp2_with fail
  refine hu.mono ?_
  rintro e w9 ⟨v9, rfl, h1, h2, h3, h4⟩
  have N9 := Lib.hid (And.intro h1 (N7.out.2.trans (S2 := S7) ⟨h2, fun b q => .inl q⟩))
  obtain ⟨a9, cap9, rfl, _⟩ := rows_val2 h3
  have hcl : Clear (.slice a9 [tC].length cap9) S7 := fun b q z => by have := h4 b q; have := N7.out.1.lt b z; omega
  have M9 := Lib.hid (And.intro (ListIn.of_own h3) hcl)
  clear hu h1 h2 h3 h4 hcl
  have hu := Unpin_c N9.out.1 (by simp) tA (by intro q e; simp [aget] at e; try omega)
  rw [nm9] at hu
  go_wp2_with fail
  refine hu.mono ?_
  rintro e w10 ⟨rfl, h1, h2⟩
  have N10 := Lib.hid (And.intro h1 (N9.out.2.trans (S2 := S7) ⟨h2, fun b q => .inl q⟩))
  have K10 := Lib.hid h2
  clear hu h1 h2
  have hu := Unpin_c N10.out.1 (by simp) tA (by intro q e; simp [aget] at e; try omega)
  rw [nm10] at hu
  go_wp2_with fail
  refine hu.mono ?_
  rintro e w11 ⟨rfl, h1, h2⟩
  have N11 := Lib.hid (And.intro h1 (N10.out.2.trans (S2 := S7) ⟨h2, fun b q => .inl q⟩))
  have K11 := Lib.hid h2
  clear hu h1 h2
  have L11 := Lib.hid (show ListIn w11 (.slice a9 1 cap9) ([tC].map Value.string) from (M9.out.1.keep K10.out M9.out.2).keep K11.out M9.out.2)
  have ho1 := oldest_c N11.out.1 (by simp) (-1)
  rw [nm11] at ho1
  go_wp2_with fail
  refine ho1.mono ?_
  rintro e w12 ⟨v12, rfl, hM12⟩
  obtain ⟨a12, cap12, rfl⟩ := hM12.valn (n := 0) rfl
  have M12 := Lib.hid hM12
  have ho2 := oldest_c (N11.out.1.aside hM12.keep) (by simp) 9
  rw [nm12] at ho2
  clear ho1 hM12
  go_wp2_with fail
  refine ho2.mono ?_
  rintro e w13 ⟨v13, rfl, hM13⟩
  obtain ⟨a13, cap13, rfl⟩ := hM13.valn (n := 2) rfl
  have M13 := Lib.hid hM13
  clear ho2 hM13
  have kc := Keep.alloc w13 (.cells #[.string ⟨#[99]⟩] 9) (fun _ => False)
  have hs1 := same_c (a := [tC]) (b := [tC]) (((L11.out.aside M12.out.keep).aside M13.out.keep).aside kc) (listNew w13 [.string tC] 9 1) (by simp) (by simp)
  have KC := Lib.hid kc
  clear kc
  go_wp2_with fail
  refine hs1.mono ?_
  rintro e w14 ⟨rfl, q14, hw14⟩
  have K14 := Lib.hid (show Keep w13 w14 (fun _ => False) from by rw [hw14]; exact KC.out.trans (drewN_keep _ (fun _ => False) _) (fun _ q => False.elim q))
  clear hs1 hw14
  have kd := Keep.alloc w14 (.cells #[.string ⟨#[97]⟩, .string ⟨#[98]⟩] 9) (fun _ => False)
  have hs2 := same_c (a := [tA, tB]) (b := [tA, tB]) ((M13.out.list.aside K14.out).aside kd) (listNew w14 [.string tA, .string tB] 9 2) (by simp) (by simp)
  have KD := Lib.hid kd
  clear kd
  go_wp2_with fail
  refine hs2.mono ?_
  rintro e w15 ⟨rfl, q15, hw15⟩
  have K15 := Lib.hid (show Keep w14 w15 (fun _ => False) from by rw [hw15]; exact KD.out.trans (drewN_keep _ (fun _ => False) _) (fun _ q => False.elim q))
  clear hs2 hw15
  have K1115 := Lib.hid ((M12.out.keep.trans M13.out.keep (fun _ q => q.elim)).trans (K14.out.trans K15.out (fun _ q => q.elim)) (fun _ q => q.elim))
  have hd := drop_c (N11.out.1.aside K1115.out) (by simp) tB
  rw [nm13, nm14] at hd
  go_wp2_with fail
  refine hd.mono ?_
  rintro e w16 ⟨rfl, h1, h2⟩
  have N16 := Lib.hid (And.intro h1 h2)
  clear hd h1 h2
  have hd := drop_c N16.out.1 (by simp) tB
  rw [nm15] at hd
  go_wp2_with fail
  refine hd.mono ?_
  rintro e w17 ⟨rfl, h1, h2⟩
  have N17 := Lib.hid h2
  clear hd h1 h2
  go_wp2_with (
    go_at_call 14
    refine (known_c _).mono ?_
    rintro e w18 ⟨rfl, h1⟩
    have N18 := Lib.hid h1
    clear h1)
  go_ret
  exact ⟨rfl, ((((N11.out.2.keep.trans K1115.out (fun _ q => q.elim)).trans N16.out.2 (fun b q => (N11.out.2.new b q).elim (fun z => z.elim) .inr)).trans N17.out (fun b q => (N11.out.2.new b q).elim (fun z => z.elim) .inr)).trans N18.out (fun _ q => q.elim)).below (Nat.le_refl _) (fun _ q => q.elim)⟩

end Go.Proofs.Ytfmdhbcniabpiaa
