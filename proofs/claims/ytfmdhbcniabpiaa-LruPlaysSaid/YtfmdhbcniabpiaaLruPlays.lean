/-
  LruPlays: a list answers as the document says, for any calls and keys.
-/
import Derived.Test.YtfmdhbcniabpiaaLruPlays0
import Derived.Deep.CutRange
import Derived.Deep.CutBlock
import Derived.Deep.RegionHeld3
import Derived.Deep.DeepCutAuto
namespace Go.Proofs.Ytfmdhbcniabpiaa
open Go Go.RowKit
set_option linter.unusedSectionVars false
set_option linter.unusedSimpArgs false
set_option linter.unusedVariables false

set_option maxRecDepth 100000 in
set_option maxHeartbeats 8000000 in
theorem lplays_walk (n : Int) (a1 : Option Addr) (l1 c1 : Nat) (w : World) (hn : (Lit.int .i64 n).wf = true) (h1 : StructsIs asks w a1 l1 c1) :
    Calls Try.prog 7 #[.int .i64 n, .slice a1 l1 c1] w fun r w' => r = .returned (.bool true) ∧ Below w.heap.size w w' := by
  have H := Lib.hid h1
  have hl1 : l1 ≤ 9223372036854775807 := by have := h1.cap; have e := this.1; have e2 := this.2; unfold maxLen at e2; omega
  clear h1 hn
  by_cases hr : n < 1 ∨ 64 < n
  · have hbad := new_bad w n hr
    have hr2 : n < 1 ∨ (¬ n < 1 ∧ 64 < n) := by omega
    clear hr
    rcases hr2 with g1 | ⟨g1, g2⟩
    all_goals
      go_enter Try.func7, Try.ntmps7
      go_wp2_with (first
        | (go_at_call 9
           refine hbad.mono ?_
           rintro e w1 ⟨rfl, rfl⟩
           clear hbad)
        | (go_at_call 14
           refine (known_c _).mono ?_
           rintro e w2 ⟨rfl, hk2⟩
           have M2 := Lib.hid hk2
           clear hk2))
      go_ret
      exact ⟨rfl, M2.out.below (Nat.le_refl _) (fun _ q => q.elim)⟩
  · have g1 : ¬ n < 1 := by omega
    have g2 : ¬ 64 < n := by omega
    have hnew := new_c w n (by omega) (by omega)
    clear hr
    go_enter Try.func7, Try.ntmps7
    go_upto_block 0 with (first
      | (go_at_call 9
         refine hnew.mono ?_
         rintro e w2 ⟨tb, S1, rfl, hT1, hK1⟩
         have B1 := Lib.hid (And.intro hT1 hK1)
         clear hT1 hK1 hnew
         have hrn := rnew_c w2 n)
      | (go_at_call 20
         refine hrn.mono ?_
         rintro e w3 ⟨rb, R1, rfl, hR1, hK2⟩
         have B2 := Lib.hid (And.intro hR1 hK2)
         clear hR1 hK2 hrn))
    go_cut [] from 8 to 152 (fun wx => ∃ S R L, BothL w wx tb rb n S R L L ∧ Fit 150 L)
    case first =>
      go_wp2_with fail
      go_loopg [8] 150 (fun g s8 wr => ∃ (j : Nat) (S R : Nat → Prop) (L : List Pair), j ≤ 150 ∧ g = 150 - j ∧ s8 = .int .i64 j ∧ BothL w wr tb rb n S R L L ∧ Fit j L)
      case atStart =>
        obtain ⟨hT1, hK1⟩ := B1.out
        obtain ⟨hR1, hK2⟩ := B2.out
        have hsz := hK1.keep.size
        refine ⟨0, S1, R1, [], by omega, rfl, rfl, ⟨hK1.keep.trans hK2.keep (fun _ q => q.elim), hT1.aside hK2.keep, hR1, fun b q z => ?_, fun b q => (hK1.new b q).elim (fun z => z.elim) id, fun b q => (hK2.new b q).elim (fun z => z.elim) (fun z => by omega)⟩, by simp, fun x hx => by simp at hx⟩
        have := hT1.lt b q
        have := (hK2.new b z).elim (fun z => z.elim) id
        omega
      case round =>
        obtain ⟨j, S, R, L, hj, rfl, rfl, hB, hF⟩ := hrel
        have B := Lib.hid (And.intro hB hF)
        clear hB hF
        by_cases hlt : j < l1
        · by_cases hlt2 : j < 150
          · have g3 : (j : Int) < (l1 : Int) := by omega
            have g4 : (j : Int) < 150 := by omega
            obtain ⟨b, off, k, q, s, rfl, hA9⟩ := ask_at H.out hlt
            obtain ⟨c0, c1', c2⟩ := hA9.keep B.out.1.keep
            clear hA9
            obtain ⟨wo, rfl⟩ : ∃ wo : World, wo = wr := ⟨_, rfl⟩
            go_upto_block 2 with (fail)
            have hbox0 : LW w (wo.alloc (.cells #[.int .i64 k, .int .i64 q, .string s] 43)) tb rb wo.heap.size n S R L L k q s := by
              refine ⟨B.out.1.aside (Keep.alloc wo _ _), heap_alloc_eq _ _, fun z => ?_, fun z => ?_⟩
              · have := B.out.1.tab.lt _ z; omega
              · have := B.out.1.ref.lt _ z; omega
            obtain ⟨wa, hwa⟩ : ∃ wa, wa = wo.alloc (.cells #[.int .i64 k, .int .i64 q, .string s] 43) := ⟨_, rfl⟩
            rw [← hwa] at hbox0 ⊢
            clear hwa c0 c1' c2
            have e6 := hbox0.key
            have e5 := hbox0.num
            have X := Lib.hid hbox0
            have hnd := hbox0.1.tab.nodup
            have HN := Lib.hid hnd
            clear hbox0 hnd
            go_cut [10, 11, 12, 13] (fun s10 s11 s12 s13 wx => ∃ (S3 R3 : Nat → Prop) (L3 : List Pair), LW w wx tb rb wo.heap.size n S3 R3 L3 L3 k q s ∧ Fit (j + 1) L3)
            case first =>
              have hj2 : j ≤ 999 := by omega
              by_cases hk1 : k = 1
              · subst hk1
                obtain ⟨U, gs, ok, hue⟩ : ∃ U gs ok, useE n L s = (U, gs, ok) := ⟨_, _, _, rfl⟩
                have hu := use_lw X.out B.out.2 (by omega) s
                have hfu := Lib.hid (fit_use B.out.2 n s)
                rw [hue] at hu hfu
                have HUE := Lib.hid hue
                have h0' : (gs.toList != gs.toList) = false := by simp
                have h1' : (ok != ok) = false := by simp
                clear hue
                go_wp2_with fail
                refine (hu _ (Keep.refl _ _)).mono ?_
                rintro e w4 ⟨rfl, S4, hB4⟩
                have N4 := Lib.hid hB4
                have i6 := hB4.key
                have hv := ruse_lw hB4 B.out.2 (by omega) HN.out s
                rw [HUE.out] at hv
                clear hu hB4
                go_wp2_with fail
                refine (hv _ (Keep.refl _ _)).mono ?_
                rintro e w5 ⟨rfl, R5, hB5⟩
                have N5 := Lib.hid hB5
                clear hv hB5
                go_wp2
                go_meet
                case rel => exact ⟨_, _, _, N5.out, hfu.out⟩
              · have g5 : (k == 1) = false := by simpa using hk1
                by_cases hk2 : k = 2
                · subst hk2
                  have hu := drop_lw X.out B.out.2 (by omega) s
                  have hfu := Lib.hid (B.out.2.sub (adel_sub L s))
                  generalize hpr : (aget L s).isSome = pr at *
                  have HPR := Lib.hid hpr
                  clear hpr
                  have h0' : (pr != pr) = false := by simp
                  go_wp2
                  go_region_held3 (fun w' => w'.cell? ⟨wo.heap.size, 2, none⟩ = some (.string s)) (go_keep) (first
                    | (go_at_call 17
                       refine (hu _ ?_).mono ?_
                       · first | exact Keep.refl _ _ | exact Keep.drew _ _ | exact drewN_keep _ _ _
                       rintro e w4 ⟨rfl, hB4⟩
                       have N4 := Lib.hid hB4
                       have i6 := hB4.key
                       have hv := rdrop_lw hB4 B.out.2 (by omega) s
                       rw [HPR.out] at hv
                       clear hu hB4)
                    | (go_at_call 22
                       refine (hv _ ?_).mono ?_
                       · first | exact Keep.refl _ _ | exact Keep.drew _ _ | exact drewN_keep _ _ _
                       rintro e w5 ⟨rfl, R5, hB5⟩
                       have N5 := Lib.hid hB5
                       have i7 := hB5.key
                       clear hv hB5))
                  all_goals go_wp2
                  go_meet
                  case rel => exact ⟨_, _, _, N5.out, hfu.out⟩
                · have g6 : (k == 2) = false := by simpa using hk2
                  by_cases hk3 : k = 3
                  · subst hk3
                    have hu := pin_lw X.out B.out.2 (by omega) s
                    have hfu := Lib.hid (fit_pins B.out.2 s 1 (by omega))
                    generalize hpr : (setPins L s 1).2 = pr at *
                    have HPR := Lib.hid hpr
                    clear hpr
                    have h0' : (pr != pr) = false := by simp
                    go_wp2
                    go_region_held3 (fun w' => w'.cell? ⟨wo.heap.size, 2, none⟩ = some (.string s)) (go_keep) (first
                      | (go_at_call 15
                         refine (hu _ ?_).mono ?_
                         · first | exact Keep.refl _ _ | exact Keep.drew _ _ | exact drewN_keep _ _ _
                         rintro e w4 ⟨rfl, hB4⟩
                         have N4 := Lib.hid hB4
                         have i6 := hB4.key
                         have hv := rpin_lw hB4 B.out.2 (by omega) s
                         rw [HPR.out] at hv
                         clear hu hB4)
                      | (go_at_call 23
                         refine (hv _ ?_).mono ?_
                         · first | exact Keep.refl _ _ | exact Keep.drew _ _ | exact drewN_keep _ _ _
                         rintro e w5 ⟨rfl, hB5⟩
                         have N5 := Lib.hid hB5
                         have i7 := hB5.key
                         clear hv hB5))
                    all_goals go_wp2
                    go_meet
                    case rel => exact ⟨_, _, _, N5.out, hfu.out⟩
                  · have g7 : (k == 3) = false := by simpa using hk3
                    by_cases hk4 : k = 4
                    · subst hk4
                      have hu := unpin_lw X.out B.out.2 (by omega) s
                      have hfu := Lib.hid (fit_pins B.out.2 s (-1) (by omega))
                      generalize hpr : (setPins L s (-1)).2 = pr at *
                      have HPR := Lib.hid hpr
                      clear hpr
                      have h0' : (pr != pr) = false := by simp
                      go_wp2
                      go_region_held3 (fun w' => w'.cell? ⟨wo.heap.size, 2, none⟩ = some (.string s)) (go_keep) (first
                        | (go_at_call 16
                           refine (hu _ ?_).mono ?_
                           · first | exact Keep.refl _ _ | exact Keep.drew _ _ | exact drewN_keep _ _ _
                           rintro e w4 ⟨rfl, hB4⟩
                           have N4 := Lib.hid hB4
                           have i6 := hB4.key
                           have hv := runpin_lw hB4 B.out.2 (by omega) s
                           rw [HPR.out] at hv
                           clear hu hB4)
                        | (go_at_call 24
                           refine (hv _ ?_).mono ?_
                           · first | exact Keep.refl _ _ | exact Keep.drew _ _ | exact drewN_keep _ _ _
                           rintro e w5 ⟨rfl, hB5⟩
                           have N5 := Lib.hid hB5
                           have i7 := hB5.key
                           clear hv hB5))
                      all_goals go_wp2
                      go_meet
                      case rel => exact ⟨_, _, _, N5.out, hfu.out⟩
                    · have g8 : (k == 4) = false := by simpa using hk4
                      have hu := shrink_lw X.out B.out.2 (by omega) q
                      have hfu := Lib.hid (B.out.2.sub (dropAll_sub (gone L q) L))
                      have hgl : (gone L q).length ≤ 1000000 := by
                        unfold gone
                        rw [List.length_take]
                        have := looseL_len L
                        have := B.out.2.1
                        omega
                      generalize hgn : gone L q = G at *
                      have HG := Lib.hid hgn
                      generalize hgk : G.length = gk at *
                      have HGK := Lib.hid hgk
                      clear hgn hgk
                      go_wp2
                      go_region_held3 (fun w' => w'.cell? ⟨wo.heap.size, 1, none⟩ = some (.int .i64 q)) (go_keep) (first
                        | (go_at_call 18
                           refine (hu _ ?_).mono ?_
                           · first | exact Keep.refl _ _ | exact Keep.drew _ _ | exact drewN_keep _ _ _
                           rintro e w4 ⟨a4, cap4, rfl, hB4, hI4, hC4⟩
                           have N4 := Lib.hid (And.intro hB4 hI4)
                           have i6 := hB4.num
                           have hv := rshrink_lw hB4 B.out.2 (by omega) HN.out hI4 hC4 q
                           rw [HG.out, HGK.out] at hv
                           clear hu hB4 hI4 hC4)
                        | (go_at_call 25
                           refine (hv _ ?_).mono ?_
                           · first | exact Keep.refl _ _ | exact Keep.drew _ _ | exact drewN_keep _ _ _
                           rintro e w5 ⟨a5, cap5, R5, rfl, hB5, hI5, hI4⟩
                           have i7 := hB5.num
                           have hz := same_lw hB5 hI4 hI5 (by rw [HGK.out]; exact hgl)
                           clear hv hB5 hI4 hI5)
                        | (go_at_call 12
                           refine (hz _ ?_).mono ?_
                           · first | exact Keep.refl _ _ | exact Keep.drew _ _ | exact drewN_keep _ _ _
                           rintro e w6 ⟨rfl, hB6⟩
                           have N6 := Lib.hid hB6
                           have i8 := hB6.num
                           clear hz hB6))
                      all_goals go_wp2
                      go_meet
                      case rel => exact ⟨_, _, _, N6.out, hfu.out⟩
            case rest =>
              obtain ⟨S3, R3, L3, hB3, hF3⟩ := hcut
              have D := Lib.hid (And.intro hB3 hF3)
              have d1 := hB3.num
              have d2 := hB3.key
              have hj2 : j + 1 ≤ 1000 := by omega
              have hu1 := len_lw hB3
              generalize hgk : L3.length = lk at *
              have HLK := Lib.hid hgk
              have h0' : ((lk : Int) != (lk : Int)) = false := by simp
              have hu2 := has_lw hB3 hF3 hj2 s
              generalize hpr : (aget L3 s).isSome = pr at *
              have HPR := Lib.hid hpr
              have h1' : (pr != pr) = false := by simp
              have hfl : (firsts L3 q).length ≤ 1000000 := by
                unfold firsts
                rw [List.length_take, List.length_map]
                have := hF3.1
                omega
              generalize hgn : firsts L3 q = G at *
              have HG := Lib.hid hgn
              generalize hgk2 : G.length = gk at *
              have HGK := Lib.hid hgk2
              clear hgk hpr hgn hgk2 hB3 hF3 e5 e6
              go_wp2
              go_region_held3 (fun w' => w'.cell? ⟨wo.heap.size, 1, none⟩ = some (.int .i64 q) ∧ w'.cell? ⟨wo.heap.size, 2, none⟩ = some (.string s)) (go_keep) (first
                | (go_at_call 11
                   refine (hu1 _ ?_).mono ?_
                   · first | exact Keep.refl _ _ | exact Keep.drew _ _ | exact drewN_keep _ _ _
                   rintro e w4 ⟨rfl, hw4⟩
                   have N4 := Lib.hid (show LW w w4 tb rb wo.heap.size n S3 R3 L3 L3 k q s from by rw [hw4]; first | exact D.out.1 | exact D.out.1.aside (Keep.drew _ _))
                   have i1 := N4.out.num
                   have i2 := N4.out.key
                   have hv1 := rlen_lw N4.out
                   rw [HLK.out] at hv1
                   clear hu1 hw4)
                | (go_at_call 26
                   refine (hv1 _ ?_).mono ?_
                   · first | exact Keep.refl _ _ | exact Keep.drew _ _ | exact drewN_keep _ _ _
                   rintro e w5 ⟨rfl, hw5⟩
                   have N5 := Lib.hid (show LW w w5 tb rb wo.heap.size n S3 R3 L3 L3 k q s from by rw [hw5]; first | exact N4.out | exact N4.out.aside (Keep.drew _ _))
                   have i3 := N5.out.num
                   have i4 := N5.out.key
                   have hu2 := has_lw N5.out D.out.2 hj2 s
                   rw [HPR.out] at hu2
                   clear hv1 hw5)
                | (go_at_call 19
                   refine (hu2 _ ?_).mono ?_
                   · first | exact Keep.refl _ _ | exact Keep.drew _ _ | exact drewN_keep _ _ _
                   rintro e w6 ⟨rfl, hB6⟩
                   have N6 := Lib.hid hB6
                   have i5 := hB6.num
                   have i6 := hB6.key
                   have hv2 := rhas_lw hB6 D.out.2 hj2 s
                   rw [HPR.out] at hv2
                   clear hu2 hB6)
                | (go_at_call 27
                   refine (hv2 _ ?_).mono ?_
                   · first | exact Keep.refl _ _ | exact Keep.drew _ _ | exact drewN_keep _ _ _
                   rintro e w7 ⟨rfl, hw7⟩
                   have N7 := Lib.hid (show LW w w7 tb rb wo.heap.size n S3 R3 L3 L3 k q s from by rw [hw7]; first | exact N6.out | exact N6.out.aside (Keep.drew _ _))
                   have i7 := N7.out.num
                   have i8 := N7.out.key
                   have hu3 := oldest_lw N7.out D.out.2 hj2 q
                   rw [HG.out, HGK.out] at hu3
                   clear hv2 hw7)
                | (go_at_call 13
                   refine (hu3 _ ?_).mono ?_
                   · first | exact Keep.refl _ _ | exact Keep.drew _ _ | exact drewN_keep _ _ _
                   rintro e w8 ⟨a8, cap8, rfl, hB8, hI8⟩
                   have N8 := Lib.hid (And.intro hB8 hI8)
                   have i9 := hB8.num
                   have j1 := hB8.key
                   have hv3 := roldest_lw hB8 D.out.2 hj2 hI8 q
                   rw [HG.out, HGK.out] at hv3
                   clear hu3 hB8 hI8)
                | (go_at_call 28
                   refine (hv3 _ ?_).mono ?_
                   · first | exact Keep.refl _ _ | exact Keep.drew _ _ | exact drewN_keep _ _ _
                   rintro e w9 ⟨a9, cap9, rfl, hB9, hI9, hI8⟩
                   have j2 := hB9.num
                   have j3 := hB9.key
                   have hz := same_lw hB9 hI8 hI9 (by rw [HGK.out]; exact hfl)
                   clear hv3 hB9 hI9 hI8)
                | (go_at_call 12
                   refine (hz _ ?_).mono ?_
                   · first | exact Keep.refl _ _ | exact Keep.drew _ _ | exact drewN_keep _ _ _
                   rintro e wx ⟨rfl, hBx⟩
                   have Nx := Lib.hid hBx
                   have j4 := hBx.num
                   have j5 := hBx.key
                   clear hz hBx))
              all_goals go_wp2
              go_roundg (150 - (j + 1))
              case measure => omega
              case rel => exact ⟨j + 1, S3, R3, L3, by omega, rfl, rfl, Nx.out.1, D.out.2⟩
          · have g3 : (j : Int) < (l1 : Int) := by omega
            have g4 : ¬ (j : Int) < 150 := by omega
            go_wp2
            go_meet
            case rel => exact ⟨S, R, L, B.out.1, by have := B.out.2.1; omega, fun x hx => by have := B.out.2.2 x hx; omega⟩
        · have g3 : ¬ (j : Int) < (l1 : Int) := by omega
          go_wp2
          go_meet
          case rel => exact ⟨S, R, L, B.out.1, by have := B.out.2.1; omega, fun x hx => by have := B.out.2.2 x hx; omega⟩
    case rest =>
      obtain ⟨S, R, L, hB, hF⟩ := hcut
      have B := Lib.hid (And.intro hB hF)
      have hk1 := oldest_c hB.tab (by have := hF.1; omega) 1000
      have hfl : (firsts L 1000).length ≤ 1000000 := by
        unfold firsts
        rw [List.length_take, List.length_map]
        have := hF.1
        omega
      generalize hgn : firsts L 1000 = G at *
      have HG := Lib.hid hgn
      have HGL := Lib.hid (show (G.map Value.string).length = G.length from by rw [List.length_map])
      clear hgn hB hF
      go_wp2_with fail
      refine hk1.mono ?_
      rintro e w9 ⟨v9, rfl, hM9⟩
      obtain ⟨a9, cap9, rfl⟩ := hM9.valn HGL.out
      have hk2 := roldest_c (B.out.1.ref.aside hM9.keep) (by have := B.out.2.1; omega) 1000
      rw [HG.out] at hk2
      have M9 := Lib.hid hM9
      clear hk1 hM9
      go_wp2_with fail
      refine hk2.mono ?_
      rintro e w10 ⟨v10, rfl, hM10⟩
      obtain ⟨a10, cap10, rfl⟩ := hM10.valn HGL.out
      have hsm := same_c (M9.out.aside hM10.keep).list hM10.list (by omega) (by omega)
      rw [decide_eq_true (rfl : G = G)] at hsm
      have M10 := Lib.hid hM10
      clear hk2 hM10
      go_wp2_with fail
      refine hsm.mono ?_
      rintro e w11 ⟨rfl, q11, hw11⟩
      have M11 := Lib.hid (show Keep w10 w11 (fun _ => False) from by rw [hw11]; exact drewN_keep _ _ _)
      clear hsm hw11
      go_wp2_with fail
      refine (known_c _).mono ?_
      rintro e w12 ⟨rfl, hk12⟩
      have M12 := Lib.hid hk12
      clear hk12
      go_wp2
      go_ret
      refine ⟨rfl, ?_⟩
      exact ((((B.out.1.keep.trans M9.out.keep (fun _ q => q.elim)).trans M10.out.keep (fun _ q => q.elim)).trans M11.out (fun _ q => q.elim)).trans M12.out (fun _ q => q.elim)).below (Nat.le_refl _) (fun _ q => q.elim)

end Go.Proofs.Ytfmdhbcniabpiaa
