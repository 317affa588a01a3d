/-
  The walk of Move.
-/
import Derived.Test.YtnjfcedkfobbcaaTreeW12
namespace Go.Proofs.Ytnjfcedkfobbcaa
open Go Go.RowKit
set_option linter.unusedSectionVars false
set_option linter.unusedSimpArgs false
set_option linter.unusedVariables false
set_option maxRecDepth 100000

set_option maxHeartbeats 1600000 in
theorem tmove_c {w : World} {tb : Nat} {s : TShape} {T : TreeV} {bl : Int} (h : TreeIn w tb s T) (hg : T.good bl) (hs : T.small 900000) {r : Bool} {z : ByteArray} (hr : RightIs z r) (d : Int) (k : ByteArray) (e : Int) :
    Calls Try.prog 15 #[.pointer (some ⟨tb, 0, none⟩), .int .i64 d, .string k, .int .i64 e, .string z] w fun a w' => a = .returned (.int .i64 (T.move r d k e z).2) ∧ ∃ s', TreeIn w' tb s' (T.move r d k e z).1 ∧ TurnT w s w' s' := by
  obtain ⟨U, v, hU⟩ : ∃ U v, T.move r d k e z = (U, v) := ⟨_, _, rfl⟩
  rw [hU]
  have fin : ∀ w' v', Keep w w' (fun _ => False) → Hid (T.move r d k e z = (T, v')) → (Ending.returned (.int .i64 v') = Ending.returned (.int .i64 v)) ∧ ∃ s', TreeIn w' tb s' U ∧ TurnT w s w' s' := fun w' v' K q => by
    have e := hU.symm.trans q.out
    simp only [Prod.mk.injEq] at e
    obtain ⟨rfl, rfl⟩ := e
    exact ⟨rfl, s, h.aside K, TurnT.aside K⟩
  have HF := Lib.hid fin
  have HU := Lib.hid hU
  have hd := tdir_c h d
  have he := tdir_c h e
  have hri := hr
  have H := Lib.hid (And.intro h (And.intro hg hs))
  obtain ⟨pd, hpd⟩ : ∃ pd, (if T.isDir d then Value.pointer (some ⟨s.na d, 0, none⟩) else .pointer none) = pd := ⟨_, rfl⟩
  obtain ⟨pe, hpe⟩ : ∃ pe, (if T.isDir e then Value.pointer (some ⟨s.na e, 0, none⟩) else .pointer none) = pe := ⟨_, rfl⟩
  rw [hpd] at hd
  rw [hpe] at he
  simp only
  clear fin hU h hg hs hr
  go_enter Try.func15, Try.ntmps15
  cases hdx : T.dir d with
  | none =>
    rw [isDir_not hdx] at hpd
    simp only [Bool.false_eq_true, if_false] at hpd
    subst hpd
    have HX := Lib.hid (show T.move r d k e z = (T, 1) by unfold TreeV.move; simp only [hdx])
    clear hdx hpe
    go_wp2_with (first
      | (go_at_call 30
         refine hd.mono ?_
         rintro e' w1 ⟨rfl, rfl⟩
         clear hd)
      | (go_at_call 30
         refine he.mono ?_
         rintro e' w1 ⟨rfl, rfl⟩
         clear he)
      | (go_at_call 31
         refine (hri _).mono ?_
         rintro e' w1 ⟨rfl, rfl⟩)
      | (go_at_call 36
         refine hnm.mono ?_
         rintro e' w1 ⟨rfl, rfl⟩
         clear hnm)
      | (go_at_call 30
         refine hdn.mono ?_
         rintro e' w1 ⟨rfl, rfl⟩
         clear hdn)
      | (go_at_call 37
         refine hwi.mono ?_
         rintro e' w1 ⟨rfl, rfl⟩
         clear hwi))
    go_ret
    exact HF.out _ _ (Keep.refl _ _) HX
  | some dx =>
    rw [isDir_eq hdx] at hpd
    simp only [if_true] at hpd
    subst hpd
    cases hex : T.dir e with
    | none =>
      rw [isDir_not hex] at hpe
      simp only [Bool.false_eq_true, if_false] at hpe
      subst hpe
      have HX := Lib.hid (show T.move r d k e z = (T, 1) by unfold TreeV.move; simp only [hdx, hex])
      clear hdx hex
      go_wp2_with (first
        | (go_at_call 30
           refine hd.mono ?_
           rintro e' w1 ⟨rfl, rfl⟩
           clear hd)
        | (go_at_call 30
           refine he.mono ?_
           rintro e' w1 ⟨rfl, rfl⟩
           clear he)
        | (go_at_call 31
           refine (hri _).mono ?_
           rintro e' w1 ⟨rfl, rfl⟩)
        | (go_at_call 36
           refine hnm.mono ?_
           rintro e' w1 ⟨rfl, rfl⟩
           clear hnm)
        | (go_at_call 30
           refine hdn.mono ?_
           rintro e' w1 ⟨rfl, rfl⟩
           clear hdn)
        | (go_at_call 37
           refine hwi.mono ?_
           rintro e' w1 ⟨rfl, rfl⟩
           clear hwi))
      go_ret
      exact HF.out _ _ (Keep.refl _ _) HX
    | some ex =>
      rw [isDir_eq hex] at hpe
      simp only [if_true] at hpe
      subst hpe
      cases r with
      | false =>
        have HX := Lib.hid (show T.move false d k e z = (T, 1) by unfold TreeV.move; simp only [hdx, hex, if_true])
        clear hdx hex
        go_wp2_with (first
          | (go_at_call 30
             refine hd.mono ?_
             rintro e' w1 ⟨rfl, rfl⟩
             clear hd)
          | (go_at_call 30
             refine he.mono ?_
             rintro e' w1 ⟨rfl, rfl⟩
             clear he)
          | (go_at_call 31
             refine (hri _).mono ?_
             rintro e' w1 ⟨rfl, rfl⟩)
          | (go_at_call 36
             refine hnm.mono ?_
             rintro e' w1 ⟨rfl, rfl⟩
             clear hnm)
          | (go_at_call 30
             refine hdn.mono ?_
             rintro e' w1 ⟨rfl, rfl⟩
             clear hdn)
          | (go_at_call 37
             refine hwi.mono ?_
             rintro e' w1 ⟨rfl, rfl⟩
             clear hwi))
        go_ret
        exact HF.out _ _ (Keep.refl _ _) HX
      | true =>
        have hdd := Lib.hid hdx
        have hee := Lib.hid hex
        have hdg := Lib.hid (TreeV.dir_some hdx).1
        have hdk := Lib.hid (TreeV.dir_some hdx).2
        have heg := Lib.hid (TreeV.dir_some hex).1
        have hek := Lib.hid (TreeV.dir_some hex).2
        clear hdx hex
        have c1 := (H.out.1.cells hdg.out).names
        unfold namesB at c1
        rw [if_pos hdk.out] at c1
        have l := names_look (H.out.1.names_at hdg.out hdk.out) k true
        simp only [if_true] at l
        have hnm := tnamed_c H.out.1 heg.out
        cases hk : aget dx.names k with
        | none =>
          rw [hk] at l
          simp only [Option.getD_none, Option.isSome_none] at l
          have HX := Lib.hid (show T.move true d k e z = (T, 32) by unfold TreeV.move; simp only [hdd.out, hee.out, hk, Bool.true_eq_false, if_false])
          clear hk
          go_wp2_with (first
            | (go_at_call 30
               refine hd.mono ?_
               rintro e' w1 ⟨rfl, rfl⟩
               clear hd)
            | (go_at_call 30
               refine he.mono ?_
               rintro e' w1 ⟨rfl, rfl⟩
               clear he)
            | (go_at_call 31
               refine (hri _).mono ?_
               rintro e' w1 ⟨rfl, rfl⟩)
            | (go_at_call 36
               refine hnm.mono ?_
               rintro e' w1 ⟨rfl, rfl⟩
               clear hnm)
            | (go_at_call 30
               refine hdn.mono ?_
               rintro e' w1 ⟨rfl, rfl⟩
               clear hdn)
            | (go_at_call 37
               refine hwi.mono ?_
               rintro e' w1 ⟨rfl, rfl⟩
               clear hwi))
          go_ret
          exact HF.out _ _ (Keep.refl _ _) HX
        | some n =>
          rw [hk] at l
          simp only [Option.getD_some, Option.isSome_some] at l
          have hkk := Lib.hid hk
          clear hk
          cases hnb : TreeV.named e ex with
          | false =>
            rw [hnb] at hnm
            have HX := Lib.hid (show T.move true d k e z = (T, 32) by unfold TreeV.move; simp only [hdd.out, hee.out, hkk.out, hnb, Bool.true_eq_false, if_false, if_true])
            clear hnb
            go_wp2_with (first
              | (go_at_call 30
                 refine hd.mono ?_
                 rintro e' w1 ⟨rfl, rfl⟩
                 clear hd)
              | (go_at_call 30
                 refine he.mono ?_
                 rintro e' w1 ⟨rfl, rfl⟩
                 clear he)
              | (go_at_call 31
                 refine (hri _).mono ?_
                 rintro e' w1 ⟨rfl, rfl⟩)
              | (go_at_call 36
                 refine hnm.mono ?_
                 rintro e' w1 ⟨rfl, rfl⟩
                 clear hnm)
              | (go_at_call 30
                 refine hdn.mono ?_
                 rintro e' w1 ⟨rfl, rfl⟩
                 clear hdn)
              | (go_at_call 37
                 refine hwi.mono ?_
                 rintro e' w1 ⟨rfl, rfl⟩
                 clear hwi))
            go_ret
            exact HF.out _ _ (Keep.refl _ _) HX
          | true =>
            rw [hnb] at hnm
            have hnmt := Lib.hid hnb
            clear hnb
            obtain ⟨x, hx⟩ := H.out.2.1.ok.kid hdd.out hkk.out
            have hdn := tdir_c H.out.1 n
            have hwi := twithin_c H.out.1 H.out.2.1.ok e n
            by_cases hc : T.isDir n = true ∧ (n = e ∨ T.within e n = true)
            · have HX := Lib.hid (show T.move true d k e z = (T, 39) by unfold TreeV.move; simp only [hdd.out, hee.out, hkk.out, hnmt.out, Bool.true_eq_false, if_false]; rw [if_pos hc])
              obtain ⟨hc1, hc2⟩ := hc
              rw [hc1] at hdn
              simp only [if_true] at hdn
              by_cases hne : n = e
              · have g1 : (n == e) = true := by simpa using hne
                clear hc1 hc2 hx hne
                go_wp2_with (first
                  | (go_at_call 30
                     refine hd.mono ?_
                     rintro e' w1 ⟨rfl, rfl⟩
                     clear hd)
                  | (go_at_call 30
                     refine he.mono ?_
                     rintro e' w1 ⟨rfl, rfl⟩
                     clear he)
                  | (go_at_call 31
                     refine (hri _).mono ?_
                     rintro e' w1 ⟨rfl, rfl⟩)
                  | (go_at_call 36
                     refine hnm.mono ?_
                     rintro e' w1 ⟨rfl, rfl⟩
                     clear hnm)
                  | (go_at_call 30
                     refine hdn.mono ?_
                     rintro e' w1 ⟨rfl, rfl⟩
                     clear hdn)
                  | (go_at_call 37
                     refine hwi.mono ?_
                     rintro e' w1 ⟨rfl, rfl⟩
                     clear hwi))
                go_ret
                exact HF.out _ _ (Keep.refl _ _) HX
              · have g1 : (n == e) = false := by simpa using hne
                have hw := hc2.resolve_left hne
                rw [hw] at hwi
                clear hc1 hc2 hx hne hw
                go_wp2_with (first
                  | (go_at_call 30
                     refine hd.mono ?_
                     rintro e' w1 ⟨rfl, rfl⟩
                     clear hd)
                  | (go_at_call 30
                     refine he.mono ?_
                     rintro e' w1 ⟨rfl, rfl⟩
                     clear he)
                  | (go_at_call 31
                     refine (hri _).mono ?_
                     rintro e' w1 ⟨rfl, rfl⟩)
                  | (go_at_call 36
                     refine hnm.mono ?_
                     rintro e' w1 ⟨rfl, rfl⟩
                     clear hnm)
                  | (go_at_call 30
                     refine hdn.mono ?_
                     rintro e' w1 ⟨rfl, rfl⟩
                     clear hdn)
                  | (go_at_call 37
                     refine hwi.mono ?_
                     rintro e' w1 ⟨rfl, rfl⟩
                     clear hwi))
                go_ret
                exact HF.out _ _ (Keep.refl _ _) HX
            · obtain ⟨hen', -⟩ := H.out.2.1.ok.not_below hee.out hx hc
              have hen := Lib.hid hen'
              have hne := Lib.hid (H.out.2.1.ok.kid_ne hdd.out hkk.out)
              have HL := Lib.hid (show 0 ≤ x.links - 1 ∧ x.links - 1 ≤ 1000000 by
                have h1 := kid_pos H.out.2.1.ok hdd.out hkk.out hx
                have h2 := (H.out.2.2.node hx).2.1
                omega)
              have HT := Lib.hid (show 0 ≤ T.turns ∧ T.turns ≤ 1000000 by have := H.out.2.2.turns; omega)
              cases hi : T.isDir n with
              | true =>
                rw [hi] at hdn
                simp only [if_true] at hdn
                have hw : T.within e n = false := by
                  cases q : T.within e n with
                  | false => rfl
                  | true => exact absurd ⟨hi, .inr q⟩ hc
                rw [hw] at hwi
                have g1 : (n == e) = false := by
                  cases q : (n == e) with
                  | false => rfl
                  | true => exact absurd ⟨hi, .inl (by simpa using q)⟩ hc
                have hc := Lib.hid hc
                have hx := Lib.hid hx
                clear hi hw hen'
                go_upto_region 9 with (first
                  | (go_at_call 30
                     refine hd.mono ?_
                     rintro e' w1 ⟨rfl, rfl⟩
                     clear hd)
                  | (go_at_call 30
                     refine he.mono ?_
                     rintro e' w1 ⟨rfl, rfl⟩
                     clear he)
                  | (go_at_call 31
                     refine (hri _).mono ?_
                     rintro e' w1 ⟨rfl, rfl⟩)
                  | (go_at_call 36
                     refine hnm.mono ?_
                     rintro e' w1 ⟨rfl, rfl⟩
                     clear hnm)
                  | (go_at_call 30
                     refine hdn.mono ?_
                     rintro e' w1 ⟨rfl, rfl⟩
                     clear hdn)
                  | (go_at_call 37
                     refine hwi.mono ?_
                     rintro e' w1 ⟨rfl, rfl⟩
                     clear hwi))
                clear g1 c1 l
                have hD := H.out.1.aside (Keep.drew w (fun _ => False))
                have kD : Keep w w.drew (fun _ => False) := Keep.drew w (fun _ => False)
                have ca := hD.hcells.all
                have ce := (hD.cells heg.out).names
                unfold namesB at ce
                rw [if_pos hek.out] at ce
                have lx := look_some hD hx.out
                have lz := names_look (hD.names_at heg.out hek.out) z false
                simp only [Bool.false_eq_true, if_false] at lz
                cases hz : aget ex.names z with
                | none =>
                  rw [hz] at lz
                  simp only [Option.getD_none] at lz
                  have ly := look_none hD (n := 0) (by
                    cases q : aget T.all 0 with
                    | none => rfl
                    | some y => have := (H.out.2.1.ok.range _ (aget_memN q)).1; simp only at this; omega)
                  have hov := tover_none hD hx.out hdg.out heg.out hek.out (by have := (H.out.2.2.node heg.out).2.2; omega)
                  have HX0 := Lib.hid (move_none hdd.out hee.out hkk.out hnmt.out hc.out hz hx.out)
                  obtain ⟨ov, hov0⟩ : ∃ ov : Int, (if x.kind = 1 ∧ d ≠ e ∧ 16 ≤ T.dirs e ex then (44 : Int) else 0) = ov := ⟨_, rfl⟩
                  rw [hov0] at hov
                  have HO := Lib.hid hov0
                  have hcd := (hD.cells hdg.out).names
                  unfold namesB at hcd
                  rw [if_pos hdk.out] at hcd
                  have Z0 := Lib.hid (And.intro hD (And.intro kD hcd))
                  clear hD kD hz hov0 hcd
                  by_cases ho0 : ov = 0
                  · subst ho0
                    go_region
                    go_wp2_with (first
                      | (go_at_call 38
                         refine hov.mono ?_
                         rintro e' w4 ⟨rfl, k4⟩
                         have cd := k4.cell Z0.out.2.2 (fun q => q)
                         have Z := Lib.hid (And.intro (Z0.out.1.aside k4) (And.intro hdg.out (And.intro hx.out (And.intro heg.out HT.out))))
                         have Z4 := Lib.hid (Z0.out.2.1.aside k4)
                         clear hov k4)
                      | (at_delete
                         obtain ⟨B0, clk, hB0⟩ := Z.out.1.names_at Z.out.2.1 hdk.out
                         refine law_delete rfl _ _ _ _ rfl kNames tNames rfl hB0 k rfl ?_
                         intro w5 B1 q1 q2 q3
                         obtain ⟨⟨c3, f3⟩, h5, k5⟩ := Z.out.1.loseName Z.out.2.1 hdk.out Z.out.2.2.1 hne.out q3 (by rw [← namesV_adel]; exact ⟨_, _, q1⟩)
                         obtain ⟨l1, ex', l2, l3⟩ := lose_get (k := k) Z.out.2.1 Z.out.2.2.1 Z.out.2.2.2.1 hek.out hen.out
                         have hgv := tgive_c h5 l2 l3 l1 hen.out (by rw [lose_turns]; exact Z.out.2.2.2.2) HL.out z
                         have Z5 := Lib.hid k5
                         obtain ⟨hl0, hl1⟩ := HL.out
                         clear q1 q2 q3 hB0 h5 k5 l1 l2 l3)
                      | (go_at_call 34
                         refine hgv.mono ?_
                         rintro e' w6 ⟨⟨v6, rfl⟩, i1, i2⟩
                         have N := Lib.hid (And.intro i1 i2)
                         clear hgv i1 i2))
                    go_ret
                    have e0 := HU.out.symm.trans (HX0.out.trans (by rw [HO.out, if_pos rfl]))
                    simp only [Prod.mk.injEq] at e0
                    obtain ⟨rfl, rfl⟩ := e0
                    exact ⟨rfl, s, N.out.1, TurnT.same ((Z4.out.mono (fun _ q => q.elim)).trans (Z5.out.trans N.out.2 (fun b q => .inl q)) (fun b q => .inl q))⟩
                  · have g1 : (ov != 0) = true := by simpa using ho0
                    have HX := Lib.hid (show T.move true d k e z = (T, ov) by
                      rw [HX0.out, HO.out, if_neg ho0]
                      have := HO.out
                      split at this
                      · rw [← this]
                      · exact absurd this.symm ho0)
                    clear ho0
                    go_region
                    go_wp2_with (
                      go_at_call 38
                      refine hov.mono ?_
                      rintro e' w4 ⟨rfl, k4⟩
                      have Z4 := Lib.hid (Z0.out.2.1.aside k4)
                      clear hov k4)
                    go_ret
                    exact HF.out _ _ Z4.out HX
                | some m =>
                  rw [hz] at lz
                  simp only [Option.getD_some] at lz
                  obtain ⟨y, hy⟩ := H.out.2.1.ok.kid hee.out hz
                  have ly := look_some hD hy
                  by_cases hmn : m = n
                  · have HX := Lib.hid (show T.move true d k e z = (T, 0) by
                      unfold TreeV.move
                      rw [hdd.out, hee.out]
                      simp only [Bool.true_eq_false, if_false]
                      rw [hkk.out]
                      simp only
                      rw [if_neg (by rw [hnmt.out]; simp), if_neg hc.out, hz]
                      simp only
                      rw [if_pos hmn])
                    subst hmn
                    have g1 := nptr_eql_same w.drew (s.na m)
                    have Z0 := Lib.hid kD
                    clear hD kD hz hy
                    go_region
                    go_wp2
                    go_ret
                    exact HF.out _ _ Z0.out HX
                  · have g1 := nptr_eql_other (w := w.drew) (tag_ne (hD.tnode hx.out) (hD.tnode hy) (by simpa using fun q => hmn q.symm)) (hD.node_at hx.out) (hD.node_at hy)
                    have hov := tover_some hD hx.out hy (.pointer (some ⟨s.na d, 0, none⟩)) (.pointer (some ⟨s.na e, 0, none⟩))
                    have HX0 := Lib.hid (move_some hdd.out hee.out hkk.out hnmt.out hc.out hz hmn hx.out hy)
                    have hem := H.out.2.1.ok.kid_ne hee.out hz
                    have hyl := kid_links H.out.2.1.ok H.out.2.2 hy
                    have HY := Lib.hid (And.intro hz (And.intro hmn (And.intro hy (And.intro hem hyl))))
                    have hcd := (hD.cells hdg.out).names
                    unfold namesB at hcd
                    rw [if_pos hdk.out] at hcd
                    have Z0 := Lib.hid (And.intro hD (And.intro kD hcd))
                    clear hD kD hz hmn hy hem hyl hcd
                    by_cases ho0 : overS x y = 0
                    · rw [ho0] at hov
                      have hO := Lib.hid ho0
                      clear ho0
                      go_region
                      go_wp2_with (first
                        | (go_at_call 38
                           refine hov.mono ?_
                           rintro e' w4 ⟨rfl, k4⟩
                           have Z4 := Lib.hid (Z0.out.2.1.aside k4)
                           have htk := ttake_c (Z0.out.1.aside k4) H.out.2.1.pool heg.out hek.out HY.out.1 HY.out.2.2.1 HY.out.2.2.2.1 ⟨H.out.2.2.turns.1, H.out.2.2.turns.2⟩ ⟨HY.out.2.2.2.2.1, by have := HY.out.2.2.2.2.2; omega⟩
                           clear hov k4)
                        | (go_at_call 39
                           refine htk.mono ?_
                           rintro e' w4 ⟨⟨v4, rfl⟩, ⟨ma', pb', na', nm', tag'⟩, i1, i2, i3, i4⟩
                           simp only at i2 i3
                           subst i2 i3
                           have hyn : y.names = [] := by
                             have q := hO.out
                             unfold overS at q
                             by_cases k1 : y.kind = 1
                             · by_cases k2 : y.names = []
                               · exact k2
                               · exfalso
                                 split at q
                                 · cases q
                                 · split at q
                                   · cases q
                                   · rw [if_pos ⟨k1, k2⟩] at q; cases q
                             · exact H.out.2.1.ok.leaf _ (aget_memN HY.out.2.2.1) k1
                           have hmd : m ≠ d := fun q => by
                             have q1 := HY.out.2.2.1
                             rw [q, hdg.out] at q1
                             have q2 := hkk.out
                             rw [Option.some.inj q1, hyn] at q2
                             cases q2
                           have gd := take_get (z := z) (k := d) H.out.2.1.ok.nodup heg.out HY.out.2.2.1 hmd
                           have gn := take_get (z := z) (k := n) H.out.2.1.ok.nodup heg.out HY.out.2.2.1 HY.out.2.1
                           have ge := take_get (z := z) (k := e) H.out.2.1.ok.nodup heg.out HY.out.2.2.1 (fun q => HY.out.2.2.2.1 q.symm)
                           rw [if_pos rfl] at ge
                           rw [if_neg hen.out, hx.out] at gn
                           obtain ⟨dx1, gd1, gd2⟩ : ∃ dx1, aget (T.take e z m).all d = some dx1 ∧ dx1.kind = 1 := by
                             by_cases q : e = d
                             · exact ⟨{ ex with names := adel ex.names z }, by rw [gd, if_pos q], hek.out⟩
                             · exact ⟨dx, by rw [gd, if_neg q, hdg.out], hdk.out⟩
                           have ht1 := (H.out.2.2.take e m z).turns
                           have hdk := Lib.hid gd2
                           have hek := Lib.hid (show ({ ex with names := adel ex.names z } : NodeV).kind = 1 from hek.out)
                           have Z := Lib.hid (And.intro i1 (And.intro gd1 (And.intro gn (And.intro ge (show 0 ≤ (T.take e z m).turns ∧ (T.take e z m).turns ≤ 1000000 by omega)))))
                           have cd := (i1.cells gd1).names
                           unfold namesB at cd
                           rw [if_pos gd2] at cd
                           simp only at cd
                           have ZT := Lib.hid i4
                           clear htk i1 i4 hyn hmd gd gn ge gd1 gd2 ht1)
                        | (at_delete
                           obtain ⟨B0, clk, hB0⟩ := Z.out.1.names_at Z.out.2.1 hdk.out
                           refine law_delete rfl _ _ _ _ rfl kNames tNames rfl hB0 k rfl ?_
                           intro w5 B1 q1 q2 q3
                           obtain ⟨⟨c3, f3⟩, h5, k5⟩ := Z.out.1.loseName Z.out.2.1 hdk.out Z.out.2.2.1 hne.out q3 (by rw [← namesV_adel]; exact ⟨_, _, q1⟩)
                           obtain ⟨l1, ex', l2, l3⟩ := lose_get (k := k) Z.out.2.1 Z.out.2.2.1 Z.out.2.2.2.1 hek.out hen.out
                           have hgv := tgive_c h5 l2 l3 l1 hen.out (by rw [lose_turns]; exact Z.out.2.2.2.2) HL.out z
                           have Z5 := Lib.hid k5
                           obtain ⟨hl0, hl1⟩ := HL.out
                           clear q1 q2 q3 hB0 h5 k5 l1 l2 l3)
                        | (go_at_call 34
                           refine hgv.mono ?_
                           rintro e' w6 ⟨⟨v6, rfl⟩, i1, i2⟩
                           have N := Lib.hid (And.intro i1 i2)
                           clear hgv i1 i2))
                      go_ret
                      have e0 := HU.out.symm.trans (HX0.out.trans (by rw [if_pos hO.out]))
                      simp only [Prod.mk.injEq] at e0
                      obtain ⟨rfl, rfl⟩ := e0
                      exact ⟨rfl, _, N.out.1, ((TurnT.aside Z4.out).trans ZT.out).trans (TurnT.same (Z5.out.trans N.out.2 (fun b q => .inl q)))⟩
                    · have g2 : (overS x y != 0) = true := by simpa using ho0
                      have HX := Lib.hid (show T.move true d k e z = (T, overS x y) by rw [HX0.out, if_neg ho0])
                      clear ho0
                      generalize overS x y = ov at *
                      go_region
                      go_wp2_with (
                        go_at_call 38
                        refine hov.mono ?_
                        rintro e' w4 ⟨rfl, k4⟩
                        have Z4 := Lib.hid (Z0.out.2.1.aside k4)
                        clear hov k4)
                      go_ret
                      exact HF.out _ _ Z4.out HX
              | false =>
                rw [hi] at hdn
                simp only [Bool.false_eq_true, if_false] at hdn
                have hc := Lib.hid hc
                have hx := Lib.hid hx
                clear hi hen' hwi
                go_upto_region 9 with (first
                  | (go_at_call 30
                     refine hd.mono ?_
                     rintro e' w1 ⟨rfl, rfl⟩
                     clear hd)
                  | (go_at_call 30
                     refine he.mono ?_
                     rintro e' w1 ⟨rfl, rfl⟩
                     clear he)
                  | (go_at_call 31
                     refine (hri _).mono ?_
                     rintro e' w1 ⟨rfl, rfl⟩)
                  | (go_at_call 36
                     refine hnm.mono ?_
                     rintro e' w1 ⟨rfl, rfl⟩
                     clear hnm)
                  | (go_at_call 30
                     refine hdn.mono ?_
                     rintro e' w1 ⟨rfl, rfl⟩
                     clear hdn)
                  | (go_at_call 37
                     refine hwi.mono ?_
                     rintro e' w1 ⟨rfl, rfl⟩
                     clear hwi))
                clear c1 l
                have hD := H.out.1.aside (Keep.drew w (fun _ => False))
                have kD : Keep w w.drew (fun _ => False) := Keep.drew w (fun _ => False)
                have ca := hD.hcells.all
                have ce := (hD.cells heg.out).names
                unfold namesB at ce
                rw [if_pos hek.out] at ce
                have lx := look_some hD hx.out
                have lz := names_look (hD.names_at heg.out hek.out) z false
                simp only [Bool.false_eq_true, if_false] at lz
                cases hz : aget ex.names z with
                | none =>
                  rw [hz] at lz
                  simp only [Option.getD_none] at lz
                  have ly := look_none hD (n := 0) (by
                    cases q : aget T.all 0 with
                    | none => rfl
                    | some y => have := (H.out.2.1.ok.range _ (aget_memN q)).1; simp only at this; omega)
                  have hov := tover_none hD hx.out hdg.out heg.out hek.out (by have := (H.out.2.2.node heg.out).2.2; omega)
                  have HX0 := Lib.hid (move_none hdd.out hee.out hkk.out hnmt.out hc.out hz hx.out)
                  obtain ⟨ov, hov0⟩ : ∃ ov : Int, (if x.kind = 1 ∧ d ≠ e ∧ 16 ≤ T.dirs e ex then (44 : Int) else 0) = ov := ⟨_, rfl⟩
                  rw [hov0] at hov
                  have HO := Lib.hid hov0
                  have hcd := (hD.cells hdg.out).names
                  unfold namesB at hcd
                  rw [if_pos hdk.out] at hcd
                  have Z0 := Lib.hid (And.intro hD (And.intro kD hcd))
                  clear hD kD hz hov0 hcd
                  by_cases ho0 : ov = 0
                  · subst ho0
                    go_region
                    go_wp2_with (first
                      | (go_at_call 38
                         refine hov.mono ?_
                         rintro e' w4 ⟨rfl, k4⟩
                         have cd := k4.cell Z0.out.2.2 (fun q => q)
                         have Z := Lib.hid (And.intro (Z0.out.1.aside k4) (And.intro hdg.out (And.intro hx.out (And.intro heg.out HT.out))))
                         have Z4 := Lib.hid (Z0.out.2.1.aside k4)
                         clear hov k4)
                      | (at_delete
                         obtain ⟨B0, clk, hB0⟩ := Z.out.1.names_at Z.out.2.1 hdk.out
                         refine law_delete rfl _ _ _ _ rfl kNames tNames rfl hB0 k rfl ?_
                         intro w5 B1 q1 q2 q3
                         obtain ⟨⟨c3, f3⟩, h5, k5⟩ := Z.out.1.loseName Z.out.2.1 hdk.out Z.out.2.2.1 hne.out q3 (by rw [← namesV_adel]; exact ⟨_, _, q1⟩)
                         obtain ⟨l1, ex', l2, l3⟩ := lose_get (k := k) Z.out.2.1 Z.out.2.2.1 Z.out.2.2.2.1 hek.out hen.out
                         have hgv := tgive_c h5 l2 l3 l1 hen.out (by rw [lose_turns]; exact Z.out.2.2.2.2) HL.out z
                         have Z5 := Lib.hid k5
                         obtain ⟨hl0, hl1⟩ := HL.out
                         clear q1 q2 q3 hB0 h5 k5 l1 l2 l3)
                      | (go_at_call 34
                         refine hgv.mono ?_
                         rintro e' w6 ⟨⟨v6, rfl⟩, i1, i2⟩
                         have N := Lib.hid (And.intro i1 i2)
                         clear hgv i1 i2))
                    go_ret
                    have e0 := HU.out.symm.trans (HX0.out.trans (by rw [HO.out, if_pos rfl]))
                    simp only [Prod.mk.injEq] at e0
                    obtain ⟨rfl, rfl⟩ := e0
                    exact ⟨rfl, s, N.out.1, TurnT.same ((Z4.out.mono (fun _ q => q.elim)).trans (Z5.out.trans N.out.2 (fun b q => .inl q)) (fun b q => .inl q))⟩
                  · have g1 : (ov != 0) = true := by simpa using ho0
                    have HX := Lib.hid (show T.move true d k e z = (T, ov) by
                      rw [HX0.out, HO.out, if_neg ho0]
                      have := HO.out
                      split at this
                      · rw [← this]
                      · exact absurd this.symm ho0)
                    clear ho0
                    go_region
                    go_wp2_with (
                      go_at_call 38
                      refine hov.mono ?_
                      rintro e' w4 ⟨rfl, k4⟩
                      have Z4 := Lib.hid (Z0.out.2.1.aside k4)
                      clear hov k4)
                    go_ret
                    exact HF.out _ _ Z4.out HX
                | some m =>
                  rw [hz] at lz
                  simp only [Option.getD_some] at lz
                  obtain ⟨y, hy⟩ := H.out.2.1.ok.kid hee.out hz
                  have ly := look_some hD hy
                  by_cases hmn : m = n
                  · have HX := Lib.hid (show T.move true d k e z = (T, 0) by
                      unfold TreeV.move
                      rw [hdd.out, hee.out]
                      simp only [Bool.true_eq_false, if_false]
                      rw [hkk.out]
                      simp only
                      rw [if_neg (by rw [hnmt.out]; simp), if_neg hc.out, hz]
                      simp only
                      rw [if_pos hmn])
                    subst hmn
                    have g1 := nptr_eql_same w.drew (s.na m)
                    have Z0 := Lib.hid kD
                    clear hD kD hz hy
                    go_region
                    go_wp2
                    go_ret
                    exact HF.out _ _ Z0.out HX
                  · have g1 := nptr_eql_other (w := w.drew) (tag_ne (hD.tnode hx.out) (hD.tnode hy) (by simpa using fun q => hmn q.symm)) (hD.node_at hx.out) (hD.node_at hy)
                    have hov := tover_some hD hx.out hy (.pointer (some ⟨s.na d, 0, none⟩)) (.pointer (some ⟨s.na e, 0, none⟩))
                    have HX0 := Lib.hid (move_some hdd.out hee.out hkk.out hnmt.out hc.out hz hmn hx.out hy)
                    have hem := H.out.2.1.ok.kid_ne hee.out hz
                    have hyl := kid_links H.out.2.1.ok H.out.2.2 hy
                    have HY := Lib.hid (And.intro hz (And.intro hmn (And.intro hy (And.intro hem hyl))))
                    have hcd := (hD.cells hdg.out).names
                    unfold namesB at hcd
                    rw [if_pos hdk.out] at hcd
                    have Z0 := Lib.hid (And.intro hD (And.intro kD hcd))
                    clear hD kD hz hmn hy hem hyl hcd
                    by_cases ho0 : overS x y = 0
                    · rw [ho0] at hov
                      have hO := Lib.hid ho0
                      clear ho0
                      go_region
                      go_wp2_with (first
                        | (go_at_call 38
                           refine hov.mono ?_
                           rintro e' w4 ⟨rfl, k4⟩
                           have Z4 := Lib.hid (Z0.out.2.1.aside k4)
                           have htk := ttake_c (Z0.out.1.aside k4) H.out.2.1.pool heg.out hek.out HY.out.1 HY.out.2.2.1 HY.out.2.2.2.1 ⟨H.out.2.2.turns.1, H.out.2.2.turns.2⟩ ⟨HY.out.2.2.2.2.1, by have := HY.out.2.2.2.2.2; omega⟩
                           clear hov k4)
                        | (go_at_call 39
                           refine htk.mono ?_
                           rintro e' w4 ⟨⟨v4, rfl⟩, ⟨ma', pb', na', nm', tag'⟩, i1, i2, i3, i4⟩
                           simp only at i2 i3
                           subst i2 i3
                           have hyn : y.names = [] := by
                             have q := hO.out
                             unfold overS at q
                             by_cases k1 : y.kind = 1
                             · by_cases k2 : y.names = []
                               · exact k2
                               · exfalso
                                 split at q
                                 · cases q
                                 · split at q
                                   · cases q
                                   · rw [if_pos ⟨k1, k2⟩] at q; cases q
                             · exact H.out.2.1.ok.leaf _ (aget_memN HY.out.2.2.1) k1
                           have hmd : m ≠ d := fun q => by
                             have q1 := HY.out.2.2.1
                             rw [q, hdg.out] at q1
                             have q2 := hkk.out
                             rw [Option.some.inj q1, hyn] at q2
                             cases q2
                           have gd := take_get (z := z) (k := d) H.out.2.1.ok.nodup heg.out HY.out.2.2.1 hmd
                           have gn := take_get (z := z) (k := n) H.out.2.1.ok.nodup heg.out HY.out.2.2.1 HY.out.2.1
                           have ge := take_get (z := z) (k := e) H.out.2.1.ok.nodup heg.out HY.out.2.2.1 (fun q => HY.out.2.2.2.1 q.symm)
                           rw [if_pos rfl] at ge
                           rw [if_neg hen.out, hx.out] at gn
                           obtain ⟨dx1, gd1, gd2⟩ : ∃ dx1, aget (T.take e z m).all d = some dx1 ∧ dx1.kind = 1 := by
                             by_cases q : e = d
                             · exact ⟨{ ex with names := adel ex.names z }, by rw [gd, if_pos q], hek.out⟩
                             · exact ⟨dx, by rw [gd, if_neg q, hdg.out], hdk.out⟩
                           have ht1 := (H.out.2.2.take e m z).turns
                           have hdk := Lib.hid gd2
                           have hek := Lib.hid (show ({ ex with names := adel ex.names z } : NodeV).kind = 1 from hek.out)
                           have Z := Lib.hid (And.intro i1 (And.intro gd1 (And.intro gn (And.intro ge (show 0 ≤ (T.take e z m).turns ∧ (T.take e z m).turns ≤ 1000000 by omega)))))
                           have cd := (i1.cells gd1).names
                           unfold namesB at cd
                           rw [if_pos gd2] at cd
                           simp only at cd
                           have ZT := Lib.hid i4
                           clear htk i1 i4 hyn hmd gd gn ge gd1 gd2 ht1)
                        | (at_delete
                           obtain ⟨B0, clk, hB0⟩ := Z.out.1.names_at Z.out.2.1 hdk.out
                           refine law_delete rfl _ _ _ _ rfl kNames tNames rfl hB0 k rfl ?_
                           intro w5 B1 q1 q2 q3
                           obtain ⟨⟨c3, f3⟩, h5, k5⟩ := Z.out.1.loseName Z.out.2.1 hdk.out Z.out.2.2.1 hne.out q3 (by rw [← namesV_adel]; exact ⟨_, _, q1⟩)
                           obtain ⟨l1, ex', l2, l3⟩ := lose_get (k := k) Z.out.2.1 Z.out.2.2.1 Z.out.2.2.2.1 hek.out hen.out
                           have hgv := tgive_c h5 l2 l3 l1 hen.out (by rw [lose_turns]; exact Z.out.2.2.2.2) HL.out z
                           have Z5 := Lib.hid k5
                           obtain ⟨hl0, hl1⟩ := HL.out
                           clear q1 q2 q3 hB0 h5 k5 l1 l2 l3)
                        | (go_at_call 34
                           refine hgv.mono ?_
                           rintro e' w6 ⟨⟨v6, rfl⟩, i1, i2⟩
                           have N := Lib.hid (And.intro i1 i2)
                           clear hgv i1 i2))
                      go_ret
                      have e0 := HU.out.symm.trans (HX0.out.trans (by rw [if_pos hO.out]))
                      simp only [Prod.mk.injEq] at e0
                      obtain ⟨rfl, rfl⟩ := e0
                      exact ⟨rfl, _, N.out.1, ((TurnT.aside Z4.out).trans ZT.out).trans (TurnT.same (Z5.out.trans N.out.2 (fun b q => .inl q)))⟩
                    · have g2 : (overS x y != 0) = true := by simpa using ho0
                      have HX := Lib.hid (show T.move true d k e z = (T, overS x y) by rw [HX0.out, if_neg ho0])
                      clear ho0
                      generalize overS x y = ov at *
                      go_region
                      go_wp2_with (
                        go_at_call 38
                        refine hov.mono ?_
                        rintro e' w4 ⟨rfl, k4⟩
                        have Z4 := Lib.hid (Z0.out.2.1.aside k4)
                        clear hov k4)
                      go_ret
                      exact HF.out _ _ Z4.out HX

end Go.Proofs.Ytnjfcedkfobbcaa
