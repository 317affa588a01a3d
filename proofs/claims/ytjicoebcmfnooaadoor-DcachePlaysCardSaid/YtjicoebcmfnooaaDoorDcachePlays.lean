/-
  DcachePlays: a cache answers as the document says.
-/
import Derived.Test.YtjicoebcmfnooaaDoorDPlays0
import Derived.Test.YtjicoebcmfnooaaDoorAskP
import Derived.Deep.CutRange
import Derived.Deep.CutBlock
import Derived.Deep.RegionHeld3
import Derived.Deep.DeepCutAuto
namespace Go.Proofs.YtjicoebcmfnooaaDoor
open Go Go.RowKit Go.ChangeShapes Go.WideShapes Go.Deep
set_option linter.unusedSectionVars false
set_option linter.unusedSimpArgs false
set_option linter.unusedVariables false
set_option maxRecDepth 100000

set_option maxHeartbeats 4000000 in
theorem dplays_walk (n : Int) (a : Option Addr) (len cap : Nat) (rows : List AskD) (w : World) (hp : Pw w) (hI : AsksIn w a len cap rows) :
    Calls Tryd.prog 6 #[.int .i64 n, .slice a len cap] w fun r w' => r = .returned (.bool true) ∧ Below w.heap.size w w' := by
  obtain ⟨hrl, hlc, hcm, hfine, hrow⟩ := hI
  unfold maxLen at hcm
  have HI := Lib.hid (And.intro hrl (And.intro hfine hrow))
  have HP := Lib.hid hp
  clear hrl hfine hrow hp
  by_cases hr : n < 1 ∨ 64 < n
  · have hbad := dnew_bad w n hr
    have hr2 : n < 1 ∨ (¬ n < 1 ∧ 64 < n) := by omega
    clear hr
    rcases hr2 with g1 | ⟨g1, g2⟩
    all_goals
      go_enter Tryd.func6, Tryd.ntmps6
      go_wp2_with (first
        | (go_at_call 7
           refine hbad.mono ?_
           rintro e w1 ⟨rfl, hw1⟩
           subst hw1
           clear hbad)
        | (go_at_call 12
           refine (knownD_c _ HP.out).mono ?_
           rintro e w2 ⟨rfl, hk2⟩
           have M2 := Lib.hid hk2
           clear hk2))
      go_ret
      exact ⟨rfl, M2.out.below (Nat.le_refl _) (fun _ q => q.elim)⟩
  · have g1 : ¬ n < 1 := by omega
    have g2 : ¬ 64 < n := by omega
    have hnew := dnew_c w n (by omega) (by omega)
    have HNN := Lib.hid (show 1 ≤ n ∧ n ≤ 64 from ⟨by omega, by omega⟩)
    clear hr
    go_enter Tryd.func6, Tryd.ntmps6
    go_upto_block 0 with (first
      | (go_at_call 7
         refine hnew.mono ?_
         rintro e w2 ⟨cb, S1, rfl, hT1, hK1⟩
         have B1 := Lib.hid (And.intro hT1 hK1)
         clear hT1 hK1 hnew
         have hrn := krnew_c w2 n HNN.out.1 HNN.out.2)
      | (go_at_call 15
         refine hrn.mono ?_
         rintro e w3 ⟨rb, R1, rfl, hR1, hK2⟩
         have B2 := Lib.hid (And.intro hR1 hK2)
         clear hR1 hK2 hrn))
    go_cut [] from 8 to 144 (fun wx => ∃ S R A, DBoth w wx cb rb n S R A A)
    case first =>
      go_wp2_with fail
      go_loopg [8] 150 (fun g s8 wr => ∃ (j : Nat) (S R : Nat → Prop) (A : Mem), j ≤ 150 ∧ g = 150 - j ∧ s8 = .int .i64 j ∧ DBoth w wr cb rb n S R A A)
      case atStart =>
        obtain ⟨hT1, hK1⟩ := B1.out
        obtain ⟨hR1, hK2⟩ := B2.out
        have hsz := hK1.keep.size
        refine ⟨0, S1, R1, [], by omega, rfl, rfl, ⟨hK1.keep.trans hK2.keep (fun _ q => q.elim), hT1.aside hK2.keep, hR1, fun b q z => ?_, fun b q => (hK1.new b q).elim (fun z => z.elim) id, fun b q => (hK2.new b q).elim (fun z => z.elim) (fun z => by omega)⟩⟩
        have := hT1.lt b q
        have := (hK2.new b z).elim (fun z => z.elim) id
        omega
      case round =>
        obtain ⟨j, S, R, A, hj, rfl, rfl, hB⟩ := hrel
        have B := Lib.hid hB
        clear hB
        by_cases hlt : j < len
        · by_cases hlt2 : j < 150
          · have g3 : (j : Int) < (len : Int) := by omega
            have g4 : (j : Int) < 150 := by omega
            obtain ⟨b, off, rfl, hcell⟩ := HI.out.2.2 (by omega)
            obtain ⟨xx, hxx⟩ : ∃ x, rows[j]? = some x := ⟨_, List.getElem?_eq_getElem (by rw [HI.out.1]; exact hlt)⟩
            have hfx := HI.out.2.1 xx (List.mem_of_getElem? hxx)
            obtain ⟨c0, c1, c2, c3⟩ := hcell j xx hxx
            replace c0 := B.out.keep.cell c0 (fun q => q)
            replace c1 := B.out.keep.cell c1 (fun q => q)
            replace c2 := B.out.keep.cell c2 (fun q => q)
            replace c3 := B.out.keep.cell c3 (fun q => q)
            have HF := Lib.hid hfx
            clear hcell hxx hfx
            obtain ⟨xk, xd, xn, xs⟩ := xx
            simp only at c0 c1 c2 c3
            obtain ⟨wo, rfl⟩ : ∃ wo : World, wo = wr := ⟨_, rfl⟩
            go_upto_block 2 with (fail)
            have hbox0 : DW w (wo.alloc (.cells #[.int .i64 xk, .int .i64 xd, .int .i64 xn, .string xs] 28)) cb rb wo.heap.size n S R A A ⟨xk, xd, xn, xs⟩ := by
              refine ⟨B.out.aside (Keep.alloc wo _ _), heap_alloc_eq _ _, fun z => ?_, fun z => ?_⟩
              · have := B.out.tab.lt _ z; omega
              · have := B.out.ref.lt _ z; omega
            obtain ⟨wa, hwa⟩ : ∃ wa, wa = wo.alloc (.cells #[.int .i64 xk, .int .i64 xd, .int .i64 xn, .string xs] 28) := ⟨_, rfl⟩
            rw [← hwa] at hbox0 ⊢
            clear hwa c0 c1 c2 c3
            obtain ⟨e1, e2, e3⟩ := hbox0.cells
            simp only at e1 e2 e3
            have X := Lib.hid hbox0
            clear hbox0
            go_cut [10, 11, 12, 13] (fun s10 s11 s12 s13 wx => ∃ (S3 R3 : Nat → Prop) (A3 : Mem), DW w wx cb rb wo.heap.size n S3 R3 A3 A3 ⟨xk, xd, xn, xs⟩)
            case first =>
              by_cases hk1 : xk = 1
              · subst hk1
                have hu := get_dw X.out HP.out HF.out
                obtain ⟨U, r1, r2, hue⟩ : ∃ U r1 r2, getA A (AskD.nm ⟨1, xd, xn, xs⟩) = (U, r1, r2) := ⟨_, _, _, rfl⟩
                rw [hue] at hu
                simp only at hu
                have HUE := Lib.hid hue
                have h0' : (r1 != r1) = false := by simp
                have h1' : (r2 != r2) = false := by simp
                clear hue
                go_wp2_with (first
                  | (go_at_call 10
                     refine (hu _ (Keep.refl _ _)).mono ?_
                     rintro e w4 ⟨rfl, S4, hB4⟩
                     have N4 := Lib.hid hB4
                     obtain ⟨i1, i2, i3⟩ := hB4.cells
                     simp only at i1 i2 i3
                     have hv := rget_dw hB4 HF.out
                     rw [HUE.out] at hv
                     simp only at hv
                     clear hu hB4)
                  | (go_at_call 16
                     refine (hv _ (Keep.refl _ _)).mono ?_
                     rintro e w5 ⟨rfl, R5, hB5⟩
                     have N5 := Lib.hid hB5
                     clear hv hB5))
                go_meet
                case rel => exact ⟨_, _, _, N5.out⟩
              · have g12 : (xk == 1) = false := by simpa using hk1
                by_cases hk2 : xk = 2
                · subst hk2
                  have hu := put_dw X.out HP.out HF.out
                  obtain ⟨U, r1, hue⟩ : ∃ U r1, putA n A (AskD.nm ⟨2, xd, xn, xs⟩) xn = (U, r1) := ⟨_, _, rfl⟩
                  rw [hue] at hu
                  simp only at hu
                  have HUE := Lib.hid hue
                  have h0' : (r1.toList == r1.toList) = true := by simp
                  clear hue
                  go_wp2
                  go_region_held3 (fun w' => w'.cell? ⟨wo.heap.size, 1, none⟩ = some (.int .i64 xd) ∧ w'.cell? ⟨wo.heap.size, 3, none⟩ = some (.string xs) ∧ w'.cell? ⟨wo.heap.size, 2, none⟩ = some (.int .i64 xn)) (go_keep) (first
                    | (go_at_call 8
                       refine (hu _ ?_).mono ?_
                       · first | exact Keep.refl _ _ | exact Keep.drew _ _ | exact drewN_keep _ _ _
                       rintro e w4 ⟨rfl, S4, hB4⟩
                       have N4 := Lib.hid hB4
                       obtain ⟨i1, i2, i3⟩ := hB4.cells
                       simp only at i1 i2 i3
                       have hv := rput_dw hB4 HF.out
                       rw [HUE.out] at hv
                       simp only at hv
                       clear hu hB4)
                    | (go_at_call 17
                       refine (hv _ ?_).mono ?_
                       · first | exact Keep.refl _ _ | exact Keep.drew _ _ | exact drewN_keep _ _ _
                       rintro e w5 ⟨rfl, R5, hB5⟩
                       have N5 := Lib.hid hB5
                       obtain ⟨j1, j2, j3⟩ := hB5.cells
                       simp only at j1 j2 j3
                       clear hv hB5))
                  all_goals go_wp2
                  go_meet
                  case rel => exact ⟨_, _, _, N5.out⟩
                · have g13 : (xk == 2) = false := by simpa using hk2
                  by_cases hk3 : xk = 3
                  · subst hk3
                    have hu := drop_dw X.out HP.out HF.out
                    obtain ⟨U, r1, hue⟩ : ∃ U r1, dropA A (AskD.nm ⟨3, xd, xn, xs⟩) = (U, r1) := ⟨_, _, rfl⟩
                    rw [hue] at hu
                    simp only at hu
                    have HUE := Lib.hid hue
                    have h0' : (r1 != r1) = false := by simp
                    clear hue
                    go_wp2
                    go_region_held3 (fun w' => w'.cell? ⟨wo.heap.size, 1, none⟩ = some (.int .i64 xd) ∧ w'.cell? ⟨wo.heap.size, 3, none⟩ = some (.string xs)) (go_keep) (first
                      | (go_at_call 9
                         refine (hu _ ?_).mono ?_
                         · first | exact Keep.refl _ _ | exact Keep.drew _ _ | exact drewN_keep _ _ _
                         rintro e w4 ⟨rfl, S4, hB4⟩
                         have N4 := Lib.hid hB4
                         obtain ⟨i1, i2, i3⟩ := hB4.cells
                         simp only at i1 i2 i3
                         have hv := rdrop_dw hB4 HF.out
                         rw [HUE.out] at hv
                         simp only at hv
                         clear hu hB4)
                      | (go_at_call 18
                         refine (hv _ ?_).mono ?_
                         · first | exact Keep.refl _ _ | exact Keep.drew _ _ | exact drewN_keep _ _ _
                         rintro e w5 ⟨rfl, R5, hB5⟩
                         have N5 := Lib.hid hB5
                         obtain ⟨j1, j2, j3⟩ := hB5.cells
                         simp only at j1 j2 j3
                         clear hv hB5))
                    all_goals go_wp2
                    go_meet
                    case rel => exact ⟨_, _, _, N5.out⟩
                  · have g14 : (xk == 3) = false := by simpa using hk3
                    by_cases hk4 : xk = 4
                    · subst hk4
                      have hu := forget_dw X.out HP.out HF.out
                      obtain ⟨U, r1, hue⟩ : ∃ U r1, forgetA A xd = (U, r1) := ⟨_, _, rfl⟩
                      rw [hue] at hu
                      simp only at hu
                      have HUE := Lib.hid hue
                      have h0' : (r1 != r1) = false := by simp
                      clear hue
                      go_wp2
                      go_region_held3 (fun w' => w'.cell? ⟨wo.heap.size, 1, none⟩ = some (.int .i64 xd)) (go_keep) (first
                        | (go_at_call 13
                           refine (hu _ ?_).mono ?_
                           · first | exact Keep.refl _ _ | exact Keep.drew _ _ | exact drewN_keep _ _ _
                           rintro e w4 ⟨rfl, S4, hB4⟩
                           have N4 := Lib.hid hB4
                           obtain ⟨i1, i2, i3⟩ := hB4.cells
                           simp only at i1 i2 i3
                           have hv := rforget_dw hB4
                           rw [HUE.out] at hv
                           simp only at hv
                           clear hu hB4)
                        | (go_at_call 19
                           refine (hv _ ?_).mono ?_
                           · first | exact Keep.refl _ _ | exact Keep.drew _ _ | exact drewN_keep _ _ _
                           rintro e w5 ⟨rfl, R5, hB5⟩
                           have N5 := Lib.hid hB5
                           obtain ⟨j1, j2, j3⟩ := hB5.cells
                           simp only at j1 j2 j3
                           clear hv hB5))
                      all_goals go_wp2
                      go_meet
                      case rel => exact ⟨_, _, _, N5.out⟩
                    · have g10 : (xk == 4) = false := by simpa using hk4
                      have hu := shrink_dw X.out
                      obtain ⟨U, r1, hue⟩ : ∃ U r1, shrinkA A xn = (U, r1) := ⟨_, _, rfl⟩
                      rw [hue] at hu
                      simp only at hu
                      have HUE := Lib.hid hue
                      have h0' : (r1 != r1) = false := by simp
                      clear hue
                      go_wp2
                      go_region_held3 (fun w' => w'.cell? ⟨wo.heap.size, 2, none⟩ = some (.int .i64 xn)) (go_keep) (first
                        | (go_at_call 14
                           refine (hu _ ?_).mono ?_
                           · first | exact Keep.refl _ _ | exact Keep.drew _ _ | exact drewN_keep _ _ _
                           rintro e w4 ⟨rfl, S4, hB4⟩
                           have N4 := Lib.hid hB4
                           obtain ⟨i1, i2, i3⟩ := hB4.cells
                           simp only at i1 i2 i3
                           have hv := rshrink_dw hB4
                           rw [HUE.out] at hv
                           simp only at hv
                           clear hu hB4)
                        | (go_at_call 20
                           refine (hv _ ?_).mono ?_
                           · first | exact Keep.refl _ _ | exact Keep.drew _ _ | exact drewN_keep _ _ _
                           rintro e w5 ⟨rfl, R5, hB5⟩
                           have N5 := Lib.hid hB5
                           obtain ⟨j1, j2, j3⟩ := hB5.cells
                           simp only at j1 j2 j3
                           clear hv hB5))
                      all_goals go_wp2
                      go_meet
                      case rel => exact ⟨_, _, _, N5.out⟩
            case rest =>
              obtain ⟨S3, R3, A3, hB3⟩ := hcut
              have D := Lib.hid hB3
              have hu1 := dlen_c hB3.1.tab
              have hu2 := krlen_c hB3.1.ref
              generalize hgl : A3.length = lk at *
              have h0' : ((lk : Int) != (lk : Int)) = false := by simp
              clear hgl hB3 e1 e2 e3
              go_wp2_with (first
                | (go_at_call 11
                   refine hu1.mono ?_
                   rintro e w4 ⟨rfl, hw4⟩
                   subst hw4
                   clear hu1)
                | (go_at_call 21
                   refine hu2.mono ?_
                   rintro e w5 ⟨rfl, hw5⟩
                   subst hw5
                   clear hu2))
              go_roundg (150 - (j + 1))
              case measure => omega
              case rel => exact ⟨j + 1, S3, R3, A3, by omega, rfl, by go_num, D.out.1⟩
          · have g3 : (j : Int) < (len : Int) := by omega
            have g4 : ¬ (j : Int) < 150 := by omega
            go_wp2
            go_meet
            case rel => exact ⟨S, R, A, B.out⟩
        · have g3 : ¬ (j : Int) < (len : Int) := by omega
          go_wp2
          go_meet
          case rel => exact ⟨S, R, A, B.out⟩
    case rest =>
      obtain ⟨S, R, A, hB⟩ := hcut
      have B := Lib.hid hB
      clear hB
      go_wp2_with (
        go_at_call 12
        refine (knownD_c _ (HP.out.keep B.out.keep)).mono ?_
        rintro e w12 ⟨rfl, hk12⟩
        have M12 := Lib.hid hk12
        clear hk12)
      go_ret
      exact ⟨rfl, (B.out.keep.trans M12.out (fun _ q => q.elim)).below (Nat.le_refl _) (fun _ q => q.elim)⟩

theorem plays_row (n : Int) (a : Option Addr) (len cap : Nat) (W : World) (hp : Pw W) (hx : (Lit.int .i64 n).wf = true) (h : StructsIs asksK W a len cap) (hz : TextsLe asksK W a len) :
    Calls Tryd.prog 6 #[.int .i64 n, .slice a len cap] W fun r w' => r = .returned (.bool true) ∧ Below W.heap.size W w' := by
  obtain ⟨rows, hI⟩ := asks_in h hz
  exact dplays_walk n a len cap rows W hp hI

end Go.Proofs.YtjicoebcmfnooaaDoor
