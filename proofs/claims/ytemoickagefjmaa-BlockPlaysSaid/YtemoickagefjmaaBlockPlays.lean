/-
  BlockPlays: a pool answers as the document says, for any calls.
-/
import Derived.Test.YtemoickagefjmaaBPlays0
import Derived.Test.YtemoickagefjmaaBlockSum
import Derived.Deep.CutRange
import Derived.Deep.CutBlock
import Derived.Deep.RegionHeld3
import Derived.Deep.DeepCutAuto
import Derived.BigQuiet
import Derived.Deep.QuietTactic
namespace Go.Proofs.Ytemoickagefjmaa
open Go Go.RowKit Go.ChangeShapes Go.WideShapes Go.Deep
set_option linter.unusedSectionVars false
set_option linter.unusedSimpArgs false
set_option linter.unusedVariables false
set_option maxRecDepth 100000

theorem new_bad (w : World) (n : Int) (h : n < 0 ∨ 256 < n) :
    Calls Try.prog 9 #[.int .i64 n] w fun r w' => r = .returned (.tuple #[.pointer none, .int .i64 1]) ∧ w' = w := by
  rcases h with h | h
  · go_enter Try.func9, Try.ntmps9
    go_wp2
    go_ret2
    exact ⟨rfl, rfl⟩
  · have h' : ¬ n < 0 := by omega
    go_enter Try.func9, Try.ntmps9
    go_wp2
    go_ret2
    exact ⟨rfl, rfl⟩

set_option maxHeartbeats 4000000 in
theorem bplays_walk (n : Int) (a : Option Addr) (len cap : Nat) (w : World) (h : StructsIs asks w a len cap) :
    Calls Try.prog 3 #[.int .i64 n, .slice a len cap] w fun r w' => r = .returned (.bool true) ∧ Below w.heap.size w w' := by
  have hcap := h.cap
  have hlen : len ≤ 9223372036854775807 := by have := hcap.1; have := hcap.2; unfold maxLen at this; omega
  have H := Lib.hid h
  clear h hcap
  by_cases hr : n < 0 ∨ 256 < n
  · have hbad := new_bad w n hr
    have hr2 : n < 0 ∨ (¬ n < 0 ∧ 256 < n) := by omega
    clear hr
    rcases hr2 with g1 | ⟨g1, g2⟩
    all_goals
      go_enter Try.func3, Try.ntmps3
      go_wp2_with (first
        | (go_at_call 9
           refine hbad.mono ?_
           rintro e w1 ⟨rfl, hw1⟩
           subst hw1
           clear hbad)
        | (go_at_call 10
           refine (known_c _).mono ?_
           rintro e w2 ⟨rfl, hk2⟩
           have M2 := Lib.hid hk2
           clear hk2))
      go_ret
      exact ⟨rfl, M2.out.below (Nat.le_refl _) (fun _ q => q.elim)⟩
  · have g1 : ¬ n < 0 := by omega
    have g2 : ¬ 256 < n := by omega
    have hnew := new_c w n (by omega) (by omega)
    have HNN := Lib.hid (show 0 ≤ n ∧ n ≤ 256 from ⟨by omega, by omega⟩)
    clear hr
    go_enter Try.func3, Try.ntmps3
    go_upto_block 0 with (first
      | (go_at_call 9
         refine hnew.mono ?_
         rintro e w2 ⟨pb, S1, rfl, hT1, hK1⟩
         have B1 := Lib.hid (And.intro hT1 hK1)
         clear hT1 hK1 hnew
         unfold ptr
         have hrn := krnewp_c w2 n HNN.out.1 HNN.out.2)
      | (go_at_call 11
         refine hrn.mono ?_
         rintro e w3 ⟨rb, R1, rfl, hR1, hK2⟩
         have B2 := Lib.hid (And.intro hR1 hK2)
         clear hR1 hK2 hrn))
    go_cut [] from 8 to 196 (fun wx => ∃ S R V, PBoth w wx pb rb n S R V V ∧ 0 ≤ V.made ∧ V.made ≤ 80)
    case first =>
      go_wp2_with fail
      go_loopg [8] 80 (fun g s8 wr => ∃ (j : Nat) (S R : Nat → Prop) (V : PoolV), j ≤ 80 ∧ g = 80 - j ∧ s8 = .int .i64 j ∧ PBoth w wr pb rb n S R V V ∧ 0 ≤ V.made ∧ V.made ≤ j)
      case atStart =>
        obtain ⟨hT1, hK1⟩ := B1.out
        obtain ⟨hR1, hK2⟩ := B2.out
        have hsz := hK1.keep.size
        refine ⟨0, S1, R1, _, by omega, rfl, rfl, ⟨hK1.keep.trans hK2.keep (fun _ q => q.elim), hT1.keep hK2.keep (fun _ _ q => q), PoolV.new_ok HNN.out.1 HNN.out.2, hR1, fun b q z => ?_, fun b q => (hK1.new b q).elim (fun z => z.elim) id, fun b q => (hK2.new b q).elim (fun z => z.elim) (fun z => by omega)⟩, Int.le_refl _, Int.le_refl _⟩
        have := hT1.lt q
        have := (hK2.new b z).elim (fun z => z.elim) id
        omega
      case round =>
        obtain ⟨j, S, R, V, hj, rfl, rfl, hB, hm0, hm1⟩ := hrel
        have B := Lib.hid hB
        clear hB
        by_cases hlt : j < len
        · by_cases hlt2 : j < 80
          · have g3 : (j : Int) < (len : Int) := by omega
            have g4 : (j : Int) < 80 := by omega
            obtain ⟨b, off, rfl, hat⟩ := asks_at H.out (by omega)
            obtain ⟨k, f, t, c, sa, m, sc, zs, hA, hRow⟩ := hat j hlt
            have hA' := hA.keep B.out.keep
            obtain ⟨l0, hl0, hlm, hbr0⟩ := bsr_of_row9 hRow
            have hsc := hRow.cap
            have hscm := hsc.2.1
            have hscl := hsc.1
            unfold maxLen at hscm hlm
            have hbr := hbr0.front (n := min m 1100) (Nat.min_le_left _ _) hl0.symm
            have hln : (l0.take (min m 1100)).length = min m 1100 := by rw [List.length_take]; omega
            generalize l0.take (min m 1100) = l at hbr hln
            rw [← hln] at hbr
            have hl11 : l.length ≤ 1100 := by omega
            have HL := Lib.hid (And.intro hbr hln)
            obtain ⟨c0, c1, c2, c3, c4⟩ := hA'
            clear hat hA hRow hsc hbr0 hl0 hlm hbr hln
            obtain ⟨wo, rfl⟩ : ∃ wo : World, wo = wr := ⟨_, rfl⟩
            go_upto_if 65 with (fail)
            go_cut [] (fun wx => PW w wx pb rb wo.heap.size n S R V V ⟨k, f, t, c, .slice sa l.length sc⟩)
            case first =>
              by_cases h2 : 1100 < m
              · go_wp2
                go_meet
                case rel =>
                  refine ⟨B.out.aside (Keep.alloc wo _ _), by rw [show l.length = 1100 by have := HL.out.2; omega]; exact heap_alloc_eq _ _, fun z => ?_, fun z => ?_⟩
                  · have := B.out.tab.lt z; omega
                  · have := B.out.ref.lt _ z; omega
              · go_wp2
                go_meet
                case rel =>
                  refine ⟨B.out.aside (Keep.alloc wo _ _), by rw [show l.length = m by have := HL.out.2; omega]; exact heap_alloc_eq _ _, fun z => ?_, fun z => ?_⟩
                  · have := B.out.tab.lt z; omega
                  · have := B.out.ref.lt _ z; omega
            case rest =>
              have hbox := hcut
              have d0 : wc.cell? ⟨wo.heap.size, 0, none⟩ = some (.int .i64 k) := by rw [cell_blk hbox.2.box]; rfl
              obtain ⟨e1, e2, e3, e4⟩ := hbox.cells
              simp only at e1 e2 e3 e4
              have X := Lib.hid hbox
              clear hbox c0 c1 c2 c3 c4
              go_upto_block 2 with (fail)
              go_cut [] (fun wx => ∃ (S3 R3 : Nat → Prop) (V3 : PoolV), PW w wx pb rb wo.heap.size n S3 R3 V3 V3 ⟨k, f, t, c, .slice sa l.length sc⟩ ∧ 0 ≤ V3.made ∧ V3.made ≤ j + 1)
              case first =>
                by_cases hk1 : k = 1
                · subst hk1
                  have hu := file_pw X.out (by omega)
                  have h0' : (V.made + 1 != V.made + 1) = false := by simp
                  go_wp2_with (first
                    | (go_at_call 12
                       refine (hu _ (Keep.refl _ _)).mono ?_
                       rintro e w4 ⟨rfl, S4, hB4⟩
                       have N4 := Lib.hid hB4
                       have hv := make_pw hB4 (by omega)
                       clear hu hB4)
                    | (go_at_call 13
                       refine (hv _ (Keep.refl _ _)).mono ?_
                       rintro e w5 ⟨rfl, R5, hB5⟩
                       have N5 := Lib.hid hB5
                       clear hv hB5))
                  go_meet
                  case rel => exact ⟨_, _, _, N5.out, by show 0 ≤ V.made + 1; omega, by show V.made + 1 ≤ _; omega⟩
                · have g11 : (k == 1) = false := by simpa using hk1
                  by_cases hk2 : k = 2
                  · subst hk2
                    have hu := drop_pw X.out
                    simp only at hu
                    have h0' : ((V.drop f).2 != (V.drop f).2) = false := by simp
                    go_wp2
                    go_region_held3 (fun w' => w'.cell? ⟨wo.heap.size, 1, none⟩ = some (.int .i64 f)) (go_keep) (first
                      | (go_at_call 14
                         refine (hu _ ?_).mono ?_
                         · first | exact Keep.refl _ _ | exact Keep.drew _ _ | exact drewN_keep _ _ _
                         rintro e w4 ⟨rfl, S4, hB4⟩
                         have N4 := Lib.hid hB4
                         obtain ⟨i1, i2, i3, i4⟩ := hB4.cells
                         simp only at i1 i2 i3 i4
                         have hv := rdrop_pw hB4 (by omega)
                         simp only at hv
                         clear hu hB4)
                      | (go_at_call 15
                         refine (hv _ ?_).mono ?_
                         · first | exact Keep.refl _ _ | exact Keep.drew _ _ | exact drewN_keep _ _ _
                         rintro e w5 ⟨rfl, R5, hB5⟩
                         have N5 := Lib.hid hB5
                         obtain ⟨j1, j2, j3, j4⟩ := hB5.cells
                         simp only at j1 j2 j3 j4
                         clear hv hB5))
                    all_goals go_wp2
                    go_meet
                    case rel => exact ⟨_, _, _, N5.out, by rw [PoolV.drop_made]; omega, by rw [PoolV.drop_made]; omega⟩
                  · have g12 : (k == 2) = false := by simpa using hk2
                    by_cases hk3 : k = 3
                    · subst hk3
                      have hu := read_pb X.out.1 f t c
                      have h0' : ((V.read f t c).2 != (V.read f t c).2) = false := by simp
                      go_wp2_with (first
                        | (go_at_call 16
                           refine hu.mono ?_
                           rintro e w5 ⟨v5, rfl, hv5, hk5⟩
                           have P5 := Lib.hid (And.intro hv5 hk5)
                           have X5 := X.out.aside hk5
                           obtain ⟨i1, i2, i3, i4⟩ := X5.cells
                           simp only at i1 i2 i3 i4
                           have hv := rread_pb X5.1 (by omega) f t c
                           clear hu hv5 hk5 X5)
                        | (go_at_call 17
                           refine hv.mono ?_
                           rintro e w6 ⟨v6, rfl, hv6, hk6⟩
                           have r1 := str_run (P := Try.prog) 30 9 Try.underlying30 Try.underlying5 Try.underlying9 (P5.out.1.keep hk6 (fun _ q => q))
                           have r2 := str_run (P := Try.prog) 30 9 Try.underlying30 Try.underlying5 Try.underlying9 hv6
                           have C6 := Lib.hid ((X.out.aside P5.out.2).aside hk6)
                           generalize strOfNums (V.read f t c).1 = str at r1 r2
                           clear hv hv6 hk6))
                      go_meet
                      case rel => exact ⟨_, _, _, C6.out, hm0, by omega⟩
                    · have g13 : (k == 3) = false := by simpa using hk3
                      by_cases hk4 : k = 4
                      · subst hk4
                        have hgx : wo.heap.size < wc.heap.size := lt_of_blk X.out.2.box
                        have hro := roomy_c (w := wc) (v := .slice sa l.length sc) (HL.out.1.aside X.out.1.keep) (by omega)
                        have hb1 : (0 : Int) ≤ (l.length : Int) := by omega
                        have hb2 : (l.length : Int) ≤ (l.length : Int) + 80 := by omega
                        have h0' : ((V.write f t (ints l)).2 != (V.write f t (ints l)).2) = false := by simp
                        go_wp2_with (
                          go_at_call 18
                          refine hro.mono ?_
                          rintro e w4 ⟨rfl, hg4, hk4⟩
                          have X4 := X.out.aside hk4
                          obtain ⟨i1, i2, i3, i4⟩ := X4.cells
                          simp only at i1 i2 i3 i4
                          have hS : ¬ S wc.heap.size := fun q => Nat.lt_irrefl _ (X.out.1.tab.lt q)
                          have hR : ¬ R wc.heap.size := fun q => Nat.lt_irrefl _ (X.out.1.ref.lt _ q)
                          have hu := write_pw X4 (bytesIn_at (gf_bsl hg4 (by omega)) hS) (by rw [ints_len]; unfold maxLen; omega)
                          simp only at hu
                          have X4h := Lib.hid X4
                          have G4 := Lib.hid (And.intro hg4 (And.intro hS hR))
                          clear hro hg4 hk4 X4 hS hR)
                        go_region_held3 (fun w' => w'.cell? ⟨wo.heap.size, 1, none⟩ = some (.int .i64 f) ∧ w'.cell? ⟨wo.heap.size, 2, none⟩ = some (.int .i64 t) ∧ w'.cell? ⟨wo.heap.size, 4, none⟩ = some (.slice sa l.length sc)) (go_keep) (first
                          | (go_at_call 19
                             refine (hu _ ?_).mono ?_
                             · first | exact Keep.refl _ _ | exact Keep.drew _ _ | exact drewN_keep _ _ _
                             rintro e w5 ⟨rfl, S5, hB5, hT5⟩
                             obtain ⟨j1, j2, j3, j4⟩ := hB5.cells
                             simp only at j1 j2 j3 j4
                             have hv := rwrite_pw hB5 (by omega) (((bytesIn_old HL.out.1).keep hB5.1.keep (fun _ q => q.elim)).mono hB5.1.r0) (by rw [ints_len]; unfold maxLen; omega)
                             simp only at hv
                             have G5 := Lib.hid (hT5.keep.get G4.out.1 G4.out.2.1)
                             clear hu hB5 hT5)
                          | (go_at_call 20
                             refine (hv _ ?_).mono ?_
                             · first | exact Keep.refl _ _ | exact Keep.drew _ _ | exact drewN_keep _ _ _
                             rintro e w6 ⟨rfl, R6, hB6, hT6⟩
                             obtain ⟨j1, j2, j3, j4⟩ := hB6.cells
                             simp only at j1 j2 j3 j4
                             have hi := fun w' (K : Keep w6 w' (fun _ => False)) => intact_c (w := w') (K.get (hT6.keep.get G5.out G4.out.2.2) (fun q => q)) ((HL.out.1.aside hB6.1.keep).aside K) (by omega)
                             have N6 := Lib.hid hB6
                             clear hv hB6 hT6)
                          | (go_at_call 21
                             refine (hi _ ?_).mono ?_
                             · first | exact Keep.refl _ _ | exact Keep.drew _ _ | exact drewN_keep _ _ _
                             rintro e w7 ⟨rfl, hk7⟩
                             have N7 := Lib.hid (N6.out.aside hk7)
                             obtain ⟨q1, q2, q3, q4⟩ := N7.out.cells
                             simp only at q1 q2 q3 q4
                             clear hi))
                        all_goals go_wp2
                        go_meet
                        case rel => exact ⟨_, _, _, N7.out, by rw [PoolV.write_made]; omega, by rw [PoolV.write_made]; omega⟩
                      · have g14 : (k == 4) = false := by simpa using hk4
                        have hu := cut_pw X.out
                        simp only at hu
                        have h0' : ((V.cut f c).2 != (V.cut f c).2) = false := by simp
                        go_wp2
                        go_region_held3 (fun w' => w'.cell? ⟨wo.heap.size, 1, none⟩ = some (.int .i64 f) ∧ w'.cell? ⟨wo.heap.size, 3, none⟩ = some (.int .i64 c)) (go_keep) (first
                          | (go_at_call 22
                             refine (hu _ ?_).mono ?_
                             · first | exact Keep.refl _ _ | exact Keep.drew _ _ | exact drewN_keep _ _ _
                             rintro e w4 ⟨rfl, S4, hB4⟩
                             have N4 := Lib.hid hB4
                             obtain ⟨i1, i2, i3, i4⟩ := hB4.cells
                             simp only at i1 i2 i3 i4
                             have hv := rcut_pw hB4 (by omega)
                             simp only at hv
                             clear hu hB4)
                          | (go_at_call 23
                             refine (hv _ ?_).mono ?_
                             · first | exact Keep.refl _ _ | exact Keep.drew _ _ | exact drewN_keep _ _ _
                             rintro e w5 ⟨rfl, R5, hB5⟩
                             have N5 := Lib.hid hB5
                             obtain ⟨j1, j2, j3, j4⟩ := hB5.cells
                             simp only at j1 j2 j3 j4
                             clear hv hB5))
                        all_goals go_wp2
                        go_meet
                        case rel => exact ⟨_, _, _, N5.out, by rw [PoolV.cut_made]; omega, by rw [PoolV.cut_made]; omega⟩
              case rest =>
                obtain ⟨S3, R3, V3, hB3, hm3, hm4⟩ := hcut
                obtain ⟨i1, i2, i3, i4⟩ := hB3.cells
                simp only at i1 i2 i3 i4
                have D := Lib.hid hB3.1
                have u1 := size_pb hB3.1 f
                have u2 := rsize_pb hB3.1 (by omega) f
                have u3 := used_pb hB3.1 f
                have u4 := rused_pb hB3.1 (by omega) f
                have u5 := left_pb hB3.1
                have u6 := rleft_pb hB3.1 (by omega)
                have h1' : (V3.size f != V3.size f) = false := by simp
                have h2' : (V3.used f != V3.used f) = false := by simp
                have h3' : (V3.left != V3.left) = false := by simp
                clear hB3 e1 e2 e3 e4
                go_wp2
                go_quiet (first
                  | (go_at_call 24; refine Calls.quiet_of_same (u1 _ ?_); first | exact Keep.refl _ _ | exact Keep.drew _ _ | exact drewN_keep _ _ _)
                  | (go_at_call 25; refine Calls.quiet_of_same (u2 _ ?_); first | exact Keep.refl _ _ | exact Keep.drew _ _ | exact drewN_keep _ _ _)
                  | (go_at_call 26; refine Calls.quiet_of_same (u3 _ ?_); first | exact Keep.refl _ _ | exact Keep.drew _ _ | exact drewN_keep _ _ _)
                  | (go_at_call 27; refine Calls.quiet_of_same (u4 _ ?_); first | exact Keep.refl _ _ | exact Keep.drew _ _ | exact drewN_keep _ _ _)
                  | (go_at_call 28; refine Calls.quiet_of_same (u5 _ ?_); first | exact Keep.refl _ _ | exact Keep.drew _ _ | exact drewN_keep _ _ _)
                  | (go_at_call 29; refine Calls.quiet_of_same (u6 _ ?_); first | exact Keep.refl _ _ | exact Keep.drew _ _ | exact drewN_keep _ _ _))
                go_wp2
                go_roundg (80 - (j + 1))
                case measure => omega
                case rel => exact ⟨j + 1, S3, R3, V3, by omega, rfl, by go_num, D.out.aside (drewN_keep _ _ _), hm3, by omega⟩
          · have g3 : (j : Int) < (len : Int) := by omega
            have g4 : ¬ (j : Int) < 80 := by omega
            go_wp2
            go_meet
            case rel => exact ⟨S, R, V, B.out, hm0, by omega⟩
        · have g3 : ¬ (j : Int) < (len : Int) := by omega
          go_wp2
          go_meet
          case rel => exact ⟨S, R, V, B.out, hm0, by omega⟩
    case rest =>
      obtain ⟨S, R, V, hB, hm0, hm1⟩ := hcut
      have B := Lib.hid hB
      clear hB
      go_wp2_with fail
      go_loopg [15] 6 (fun g s15 wr => ∃ (j : Nat), j ≤ 6 ∧ g = 6 - j ∧ s15 = .int .i64 j ∧ PBoth w wr pb rb n S R V V)
      case atStart => exact ⟨0, by omega, rfl, rfl, B.out⟩
      case round =>
        obtain ⟨j, hj, rfl, rfl, hC⟩ := hrel
        have C := Lib.hid hC
        have hu := read_pb hC j 0 2000
        clear hC
        by_cases hlt : j < 6
        · have g3 : (j : Int) < 6 := by omega
          obtain ⟨wo, rfl⟩ : ∃ wo : World, wo = wr := ⟨_, rfl⟩
          go_wp2_with (first
            | (go_at_call 16
               refine hu.mono ?_
               rintro e w5 ⟨v5, rfl, hv5, hk5⟩
               have P5 := Lib.hid (And.intro hv5 hk5)
               have hv := rread_pb (C.out.aside hk5) (by omega) j 0 2000
               clear hu hv5 hk5)
            | (go_at_call 17
               refine hv.mono ?_
               rintro e w6 ⟨v6, rfl, hv6, hk6⟩
               have r1 := str_run (P := Try.prog) 30 9 Try.underlying30 Try.underlying5 Try.underlying9 (P5.out.1.keep hk6 (fun _ q => q))
               have r2 := str_run (P := Try.prog) 30 9 Try.underlying30 Try.underlying5 Try.underlying9 hv6
               have C6 := Lib.hid ((C.out.aside P5.out.2).aside hk6)
               generalize strOfNums (V.read j 0 2000).1 = str at r1 r2
               clear hv hv6 hk6))
          go_roundg (6 - (j + 1))
          case measure => omega
          case rel => exact ⟨j + 1, by omega, rfl, by go_num, C6.out⟩
        · have g3 : ¬ (j : Int) < 6 := by omega
          go_wp2_with (
            go_at_call 10
            refine (known_c _).mono ?_
            rintro e w12 ⟨rfl, hk12⟩
            have M12 := Lib.hid hk12
            clear hk12)
          go_ret
          exact ⟨rfl, (C.out.keep.trans M12.out (fun _ q => q.elim)).below (Nat.le_refl _) (fun _ q => q.elim)⟩

theorem bplays_row (x : Int) (a : Option Addr) (len cap : Nat) (w : World) (_ : (Lit.int .i64 x).wf = true) (h : StructsIs [.int .i64, .int .i64, .int .i64, .int .i64, .bytes] w a len cap) :
    Calls Try.prog 3 #[.int .i64 x, .slice a len cap] w fun r w' => r = .returned (.bool true) ∧ Below w.heap.size w w' := bplays_walk x a len cap w h

end Go.Proofs.Ytemoickagefjmaa
