/-
  A call of both trees. (RBb: RB1, TreeTame)
-/
import Derived.Test.YtnjfcedkfobbcaaGreatRBa
import Derived.Test.YtnjfcedkfobbcaaGreatRTe
import Derived.Deep.RegionHeld3
import Derived.Laws.Cover1
import Derived.Deep.DeepCutAuto
import Derived.Deep.CutBlock

/-! A call of both trees. -/
namespace Go.Proofs.YtnjfcedkfobbcaaGreat
open Go Go.RowKit Go.Shelf
set_option linter.unusedSectionVars false
set_option linter.unusedSimpArgs false
set_option linter.unusedVariables false
set_option maxRecDepth 100000

set_option maxHeartbeats 8000000 in
theorem one_c {W w : World} {tb rb : Nat} {s : TShape} {r : RShape} {T : TreeV} {bl k : Int} (X : TB W w tb s T rb r T bl k) (hk : k ≤ 700000) (x : AskT) (hs : x.s = ka ∨ x.s = kb ∨ x.s = kC) (ha : x.kind = 4 → x.as_ = ka ∨ x.as_ = kb ∨ x.as_ = kC) {zs : List Int} (hz : RowIs W x.ba x.bn x.bc zs) :
    Calls Tryz.prog 8 #[.pointer (some ⟨tb, 0, none⟩), .pointer (some ⟨rb, 0, none⟩), .agg (askC x)] w fun e w' => e = .returned (.bool true) ∧ ∃ s' r' T', TB W w' tb s' T' rb r' T' bl (k + 3) := by
  have hk9 : k ≤ 900000 := by omega
  obtain ⟨l, hl, hlm, hbi⟩ := bytesIn_row hz (m := min x.bn 300) (Nat.min_le_left _ _)
  have hcap := hz.cap
  obtain ⟨m, hm⟩ : ∃ m, m = min x.bn 300 := ⟨_, rfl⟩
  rw [← hm] at hl hlm hbi
  have hm3 : m ≤ 300 := by omega
  have HB := Lib.hid (And.intro hbi (show l.length ≤ maxLen by omega))
  have HM := Lib.hid hm
  have HS := Lib.hid hs
  have HA := Lib.hid ha
  have XH := Lib.hid X
  clear hl hlm hbi hm hs ha X hz
  unfold askC
  go_enter Tryz.func8, Tryz.ntmps8
  go_upto_region 1 with (fail)
  have hbx := heap_alloc_eq w (.cells (askC x) 35)
  have kx := Keep.alloc w (.cells (askC x) 35) (fun _ => False)
  obtain ⟨wx, hwx⟩ : ∃ wx, wx = w.alloc (.cells (askC x) 35) := ⟨_, rfl⟩
  rw [← hwx] at hbx kx
  unfold askC at hwx
  rw [← hwx]
  clear hwx
  have y13 := (askAt_blk hbx).c13
  simp only [Nat.zero_add] at y13
  have f13 := free_blk hbx 13
  have hX0 : TP W wx tb s T rb r T bl k w.heap.size x := ⟨XH.out.aside kx, hbx, fun q => Nat.lt_irrefl _ (thas_lt XH.out.cur.tab q), fun q => Nat.lt_irrefl _ (rhas_lt XH.out.ref q)⟩
  have X0 := Lib.hid hX0
  clear hX0 hbx kx
  go_upto_if 14 with (fail)
  go_cut [] (fun wc => TP W wc tb s T rb r T bl k w.heap.size { x with bn := m })
  case first =>
    by_cases h3 : 300 < x.bn
    · have h3' : (300 : Int) < (x.bn : Int) := by omega
      go_wp2
      go_meet
      case rel =>
        have hh := heap_setCell_eq (off := 13) (Value.slice x.ba 300 x.bc) X0.out.2.box
        have ks : Keep wx (wx.setCell ⟨w.heap.size, 13, none⟩ (.slice x.ba 300 x.bc)) (fun b => b = w.heap.size) := Keep.setCell _ _ _
        have e : m = 300 := by have := HM.out; omega
        refine ⟨X0.out.1.set ks X0.out.2.s X0.out.2.r XH.out.cur.keep.size, ?_, X0.out.2.s, X0.out.2.r⟩
        rw [e]
        simpa [askC] using hh
    · have h3' : ¬ (300 : Int) < (x.bn : Int) := by omega
      go_wp2
      go_meet
      case rel =>
        have e : m = x.bn := by have := HM.out; omega
        rw [e]
        exact X0.out
  case rest =>
    have hX := hcut
    obtain ⟨y0, y1, y2, y3, y4, y5, y6, y7, y8, y9, y10, y11, y12, y13⟩ := askAt_blk hX.2.box
    simp only [Nat.zero_add] at y0 y1 y2 y3 y4 y5 y6 y7 y8 y9 y10 y11 y12 y13
    have X := Lib.hid hX
    clear hX X0 f13
    by_cases q1 : x.kind = 1
    · as_aux_lemma =>
        have e1 : (x.kind == 1) = true := by simpa using q1
        clear HA
        clear q1
        have hu := X.out.prog (fun w1 K => make_t X.out.1.cur hk9 (right_key HS.out) x.dir x.st x.as_ w1 K)
        have hX := X.out
        simp only [statC] at hu
        obtain ⟨v1, hv1⟩ : ∃ v1, (T.make true x.dir x.s x.st.kind (maskV x.st.mode) x.st.uid x.st.gid x.as_).2.1 = v1 := ⟨_, rfl⟩
        obtain ⟨v2, hv2⟩ : ∃ v2, (T.make true x.dir x.s x.st.kind (maskV x.st.mode) x.st.uid x.st.gid x.as_).2.2 = v2 := ⟨_, rfl⟩
        rw [hv1, hv2] at hu
        have h0' : (v1 == v1) = true := by simp
        have h1' : (v2 == v2) = true := by simp
        have HV := Lib.hid (And.intro hv1 hv2)
        clear hv1 hv2 hX
        go_wp2_with (first
          | (go_at_call 14
             refine (hu _ (Keep.refl _ _)).mono ?_
             rintro e w4 ⟨rfl, s4, hX4⟩
             have hv := hX4.doc (fun w1 K => rtmake_c (hX4.1.aside K).ref hX4.1.up hX4.1.rgood (hX4.1.rsmall.mono (by omega)) (rright_key HS.out) x.dir x.st x.as_)
             simp only [statC] at hv
             rw [HV.out.1, HV.out.2] at hv
             have N4 := Lib.hid hX4
             obtain ⟨i0, i1, i2, i3, i4, i5, i6, i7, i8, i9, i10, i11, i12, i13⟩ := askAt_blk hX4.2.box
             simp only [Nat.zero_add] at i0 i1 i2 i3 i4 i5 i6 i7 i8 i9 i10 i11 i12 i13
             clear hu hX4)
          | (go_at_call 15
             refine (hv _ (Keep.refl _ _)).mono ?_
             rintro e w5 ⟨rfl, r5, hX5⟩
             have N5 := Lib.hid hX5
             obtain ⟨j0, j1, j2, j3, j4, j5, j6, j7, j8, j9, j10, j11, j12, j13⟩ := askAt_blk hX5.2.box
             simp only [Nat.zero_add] at j0 j1 j2 j3 j4 j5 j6 j7 j8 j9 j10 j11 j12 j13
             clear hv hX5))
        go_ret
        exact ⟨rfl, s4, r5, _, N5.out.1⟩
    · have g1 : (x.kind == 1) = false := by simpa using q1
      by_cases q2 : x.kind = 2
      · as_aux_lemma =>
          have e2 : (x.kind == 2) = true := by simpa using q2
          clear HA
          clear q1 q2
          have hu := X.out.prog (fun w1 K => join_t X.out.1.cur hk9 (right_key HS.out) x.dir x.to_ w1 K)
          have hX := X.out
          obtain ⟨v, hv0⟩ : ∃ v, (T.join true x.dir x.s x.to_).2 = v := ⟨_, rfl⟩
          rw [hv0] at hu
          have h0' : (v == v) = true := by simp
          have HV := Lib.hid hv0
          clear hv0 hX
          go_wp2
          go_region_held3 (fun w' => w'.cell? ⟨w.heap.size, 1, none⟩ = some (.int .i64 x.dir) ∧ w'.cell? ⟨w.heap.size, 4, none⟩ = some (.string x.s) ∧ w'.cell? ⟨w.heap.size, 2, none⟩ = some (.int .i64 x.to_)) (go_keep) (first
            | (go_at_call 16
               refine (hu _ ?_).mono ?_
               · (first | exact Keep.refl _ _ | exact Keep.drew _ _ | exact drewN_keep _ _ _)
               rintro e w4 ⟨rfl, s4, hX4⟩
               have hv := hX4.doc (fun w1 K => rjoin_c (hX4.1.aside K).ref hX4.1.up hX4.1.rgood (hX4.1.rsmall.mono (by omega)) (rright_key HS.out) x.dir x.to_)
               rw [HV.out] at hv
               have N4 := Lib.hid hX4
               obtain ⟨i0, i1, i2, i3, i4, i5, i6, i7, i8, i9, i10, i11, i12, i13⟩ := askAt_blk hX4.2.box
               simp only [Nat.zero_add] at i0 i1 i2 i3 i4 i5 i6 i7 i8 i9 i10 i11 i12 i13
               clear hu hX4)
            | (go_at_call 17
               refine (hv _ ?_).mono ?_
               · (first | exact Keep.refl _ _ | exact Keep.drew _ _ | exact drewN_keep _ _ _)
               rintro e w5 ⟨rfl, r5, hX5⟩
               have N5 := Lib.hid hX5
               obtain ⟨j0, j1, j2, j3, j4, j5, j6, j7, j8, j9, j10, j11, j12, j13⟩ := askAt_blk hX5.2.box
               simp only [Nat.zero_add] at j0 j1 j2 j3 j4 j5 j6 j7 j8 j9 j10 j11 j12 j13
               clear hv hX5))
          all_goals go_wp2
          go_ret
          exact ⟨rfl, s4, r5, _, N5.out.1⟩
      · have g2 : (x.kind == 2) = false := by simpa using q2
        by_cases q3 : x.kind = 3
        · as_aux_lemma =>
            have e3 : (x.kind == 3) = true := by simpa using q3
            clear HA
            clear q1 q2 q3
            have hu := X.out.prog (fun w1 K => part_t X.out.1.cur hk9 x.dir x.s w1 K)
            have hX := X.out
            obtain ⟨v, hv0⟩ : ∃ v, (T.part x.dir x.s).2 = v := ⟨_, rfl⟩
            rw [hv0] at hu
            have h0' : (v == v) = true := by simp
            have HV := Lib.hid hv0
            clear hv0 hX
            go_wp2
            go_region_held3 (fun w' => w'.cell? ⟨w.heap.size, 1, none⟩ = some (.int .i64 x.dir) ∧ w'.cell? ⟨w.heap.size, 4, none⟩ = some (.string x.s)) (go_keep) (first
              | (go_at_call 18
                 refine (hu _ ?_).mono ?_
                 · (first | exact Keep.refl _ _ | exact Keep.drew _ _ | exact drewN_keep _ _ _)
                 rintro e w4 ⟨rfl, s4, hX4⟩
                 have hv := hX4.doc (fun w1 K => rpart_c (hX4.1.aside K).ref hX4.1.up hX4.1.rgood (hX4.1.rsmall.mono (by omega)) x.dir x.s)
                 rw [HV.out] at hv
                 have N4 := Lib.hid hX4
                 obtain ⟨i0, i1, i2, i3, i4, i5, i6, i7, i8, i9, i10, i11, i12, i13⟩ := askAt_blk hX4.2.box
                 simp only [Nat.zero_add] at i0 i1 i2 i3 i4 i5 i6 i7 i8 i9 i10 i11 i12 i13
                 clear hu hX4)
              | (go_at_call 19
                 refine (hv _ ?_).mono ?_
                 · (first | exact Keep.refl _ _ | exact Keep.drew _ _ | exact drewN_keep _ _ _)
                 rintro e w5 ⟨rfl, r5, hX5⟩
                 have N5 := Lib.hid hX5
                 obtain ⟨j0, j1, j2, j3, j4, j5, j6, j7, j8, j9, j10, j11, j12, j13⟩ := askAt_blk hX5.2.box
                 simp only [Nat.zero_add] at j0 j1 j2 j3 j4 j5 j6 j7 j8 j9 j10 j11 j12 j13
                 clear hv hX5))
            all_goals go_wp2
            go_ret
            exact ⟨rfl, s4, r5, _, N5.out.1⟩
        · have g3 : (x.kind == 3) = false := by simpa using q3
          by_cases q4 : x.kind = 4
          · as_aux_lemma =>
              have e4 : (x.kind == 4) = true := by simpa using q4
              replace HA := Lib.hid (HA.out q4)
              clear q1 q2 q3 q4
              have hu := X.out.prog (fun w1 K => move_t X.out.1.cur hk9 (right_key HA.out) x.dir x.s x.to_ w1 K)
              have hX := X.out
              obtain ⟨v, hv0⟩ : ∃ v, (T.move true x.dir x.s x.to_ x.as_).2 = v := ⟨_, rfl⟩
              rw [hv0] at hu
              have h0' : (v == v) = true := by simp
              have HV := Lib.hid hv0
              clear hv0 hX
              go_wp2
              go_region_held3 (fun w' => w'.cell? ⟨w.heap.size, 1, none⟩ = some (.int .i64 x.dir) ∧ w'.cell? ⟨w.heap.size, 4, none⟩ = some (.string x.s) ∧ w'.cell? ⟨w.heap.size, 2, none⟩ = some (.int .i64 x.to_) ∧ w'.cell? ⟨w.heap.size, 5, none⟩ = some (.string x.as_)) (go_keep) (first
                | (go_at_call 20
                   refine (hu _ ?_).mono ?_
                   · (first | exact Keep.refl _ _ | exact Keep.drew _ _ | exact drewN_keep _ _ _)
                   rintro e w4 ⟨rfl, s4, hX4⟩
                   have hv := hX4.doc (fun w1 K => rtmove_c (hX4.1.aside K).ref hX4.1.up hX4.1.rgood (hX4.1.rsmall.mono (by omega)) (rright_key HA.out) x.dir x.s x.to_)
                   rw [HV.out] at hv
                   have N4 := Lib.hid hX4
                   obtain ⟨i0, i1, i2, i3, i4, i5, i6, i7, i8, i9, i10, i11, i12, i13⟩ := askAt_blk hX4.2.box
                   simp only [Nat.zero_add] at i0 i1 i2 i3 i4 i5 i6 i7 i8 i9 i10 i11 i12 i13
                   clear hu hX4)
                | (go_at_call 21
                   refine (hv _ ?_).mono ?_
                   · (first | exact Keep.refl _ _ | exact Keep.drew _ _ | exact drewN_keep _ _ _)
                   rintro e w5 ⟨rfl, r5, hX5⟩
                   have N5 := Lib.hid hX5
                   obtain ⟨j0, j1, j2, j3, j4, j5, j6, j7, j8, j9, j10, j11, j12, j13⟩ := askAt_blk hX5.2.box
                   simp only [Nat.zero_add] at j0 j1 j2 j3 j4 j5 j6 j7 j8 j9 j10 j11 j12 j13
                   clear hv hX5))
              all_goals go_wp2
              go_ret
              exact ⟨rfl, s4, r5, _, N5.out.1⟩
          · have g4 : (x.kind == 4) = false := by simpa using q4
            by_cases q5 : x.kind = 5
            · as_aux_lemma =>
                have e5 : (x.kind == 5) = true := by simpa using q5
                clear HA
                clear q1 q2 q3 q4 q5
                have hu := X.out.prog (fun w1 K => hold_t X.out.1.cur hk9 x.dir w1 K)
                have hX := X.out
                obtain ⟨v, hv0⟩ : ∃ v, (T.hold x.dir).2 = v := ⟨_, rfl⟩
                rw [hv0] at hu
                have h0' : (v == v) = true := by simp
                have HV := Lib.hid hv0
                clear hv0 hX
                go_wp2
                go_region_held3 (fun w' => w'.cell? ⟨w.heap.size, 1, none⟩ = some (.int .i64 x.dir)) (go_keep) (first
                  | (go_at_call 22
                     refine (hu _ ?_).mono ?_
                     · (first | exact Keep.refl _ _ | exact Keep.drew _ _ | exact drewN_keep _ _ _)
                     rintro e w4 ⟨rfl, s4, hX4⟩
                     have hv := hX4.doc (fun w1 K => rhold_c (hX4.1.aside K).ref hX4.1.up hX4.1.rgood (hX4.1.rsmall.mono (by omega)) x.dir)
                     rw [HV.out] at hv
                     have N4 := Lib.hid hX4
                     obtain ⟨i0, i1, i2, i3, i4, i5, i6, i7, i8, i9, i10, i11, i12, i13⟩ := askAt_blk hX4.2.box
                     simp only [Nat.zero_add] at i0 i1 i2 i3 i4 i5 i6 i7 i8 i9 i10 i11 i12 i13
                     clear hu hX4)
                  | (go_at_call 23
                     refine (hv _ ?_).mono ?_
                     · (first | exact Keep.refl _ _ | exact Keep.drew _ _ | exact drewN_keep _ _ _)
                     rintro e w5 ⟨rfl, r5, hX5⟩
                     have N5 := Lib.hid hX5
                     obtain ⟨j0, j1, j2, j3, j4, j5, j6, j7, j8, j9, j10, j11, j12, j13⟩ := askAt_blk hX5.2.box
                     simp only [Nat.zero_add] at j0 j1 j2 j3 j4 j5 j6 j7 j8 j9 j10 j11 j12 j13
                     clear hv hX5))
                all_goals go_wp2
                go_ret
                exact ⟨rfl, s4, r5, _, N5.out.1⟩
            · have g5 : (x.kind == 5) = false := by simpa using q5
              by_cases q6 : x.kind = 6
              · as_aux_lemma =>
                  have e6 : (x.kind == 6) = true := by simpa using q6
                  clear HA
                  clear q1 q2 q3 q4 q5 q6
                  have hu := X.out.prog (fun w1 K => loose_t X.out.1.cur hk9 x.dir w1 K)
                  have hX := X.out
                  obtain ⟨v, hv0⟩ : ∃ v, (T.loose x.dir).2 = v := ⟨_, rfl⟩
                  rw [hv0] at hu
                  have h0' : (v == v) = true := by simp
                  have HV := Lib.hid hv0
                  clear hv0 hX
                  go_wp2
                  go_region_held3 (fun w' => w'.cell? ⟨w.heap.size, 1, none⟩ = some (.int .i64 x.dir)) (go_keep) (first
                    | (go_at_call 24
                       refine (hu _ ?_).mono ?_
                       · (first | exact Keep.refl _ _ | exact Keep.drew _ _ | exact drewN_keep _ _ _)
                       rintro e w4 ⟨rfl, s4, hX4⟩
                       have hv := hX4.doc (fun w1 K => rloose_c (hX4.1.aside K).ref hX4.1.up hX4.1.rgood (hX4.1.rsmall.mono (by omega)) x.dir)
                       rw [HV.out] at hv
                       have N4 := Lib.hid hX4
                       obtain ⟨i0, i1, i2, i3, i4, i5, i6, i7, i8, i9, i10, i11, i12, i13⟩ := askAt_blk hX4.2.box
                       simp only [Nat.zero_add] at i0 i1 i2 i3 i4 i5 i6 i7 i8 i9 i10 i11 i12 i13
                       clear hu hX4)
                    | (go_at_call 25
                       refine (hv _ ?_).mono ?_
                       · (first | exact Keep.refl _ _ | exact Keep.drew _ _ | exact drewN_keep _ _ _)
                       rintro e w5 ⟨rfl, r5, hX5⟩
                       have N5 := Lib.hid hX5
                       obtain ⟨j0, j1, j2, j3, j4, j5, j6, j7, j8, j9, j10, j11, j12, j13⟩ := askAt_blk hX5.2.box
                       simp only [Nat.zero_add] at j0 j1 j2 j3 j4 j5 j6 j7 j8 j9 j10 j11 j12 j13
                       clear hv hX5))
                  all_goals go_wp2
                  go_ret
                  exact ⟨rfl, s4, r5, _, N5.out.1⟩
              · have g6 : (x.kind == 6) = false := by simpa using q6
                by_cases q7 : x.kind = 7
                · as_aux_lemma =>
                    have e7 : (x.kind == 7) = true := by simpa using q7
                    clear HA
                    clear q1 q2 q3 q4 q5 q6 q7
                    have hu := X.out.prog (fun w1 K => setmode_t X.out.1.cur hk9 x.dir x.n w1 K)
                    have hX := X.out
                    obtain ⟨v, hv0⟩ : ∃ v, (T.setMode x.dir (maskV x.n)).2 = v := ⟨_, rfl⟩
                    rw [hv0] at hu
                    have h0' : (v == v) = true := by simp
                    have HV := Lib.hid hv0
                    clear hv0 hX
                    go_wp2
                    go_region_held3 (fun w' => w'.cell? ⟨w.heap.size, 1, none⟩ = some (.int .i64 x.dir) ∧ w'.cell? ⟨w.heap.size, 3, none⟩ = some (.int .i64 x.n)) (go_keep) (first
                      | (go_at_call 26
                         refine (hu _ ?_).mono ?_
                         · (first | exact Keep.refl _ _ | exact Keep.drew _ _ | exact drewN_keep _ _ _)
                         rintro e w4 ⟨rfl, s4, hX4⟩
                         have hv := hX4.doc (fun w1 K => rsetmode_c (hX4.1.aside K).ref hX4.1.up hX4.1.rgood (hX4.1.rsmall.mono (by omega)) x.dir x.n)
                         rw [HV.out] at hv
                         have N4 := Lib.hid hX4
                         obtain ⟨i0, i1, i2, i3, i4, i5, i6, i7, i8, i9, i10, i11, i12, i13⟩ := askAt_blk hX4.2.box
                         simp only [Nat.zero_add] at i0 i1 i2 i3 i4 i5 i6 i7 i8 i9 i10 i11 i12 i13
                         clear hu hX4)
                      | (go_at_call 27
                         refine (hv _ ?_).mono ?_
                         · (first | exact Keep.refl _ _ | exact Keep.drew _ _ | exact drewN_keep _ _ _)
                         rintro e w5 ⟨rfl, r5, hX5⟩
                         have N5 := Lib.hid hX5
                         obtain ⟨j0, j1, j2, j3, j4, j5, j6, j7, j8, j9, j10, j11, j12, j13⟩ := askAt_blk hX5.2.box
                         simp only [Nat.zero_add] at j0 j1 j2 j3 j4 j5 j6 j7 j8 j9 j10 j11 j12 j13
                         clear hv hX5))
                    all_goals go_wp2
                    go_ret
                    exact ⟨rfl, s4, r5, _, N5.out.1⟩
                · have g7 : (x.kind == 7) = false := by simpa using q7
                  by_cases q8 : x.kind = 8
                  · as_aux_lemma =>
                      have e8 : (x.kind == 8) = true := by simpa using q8
                      clear HA
                      clear q1 q2 q3 q4 q5 q6 q7 q8
                      have hu := X.out.prog (fun w1 K => setowner_t X.out.1.cur hk9 x.dir x.n x.to_ w1 K)
                      have hX := X.out
                      obtain ⟨v, hv0⟩ : ∃ v, (T.setOwner x.dir x.n x.to_).2 = v := ⟨_, rfl⟩
                      rw [hv0] at hu
                      have h0' : (v == v) = true := by simp
                      have HV := Lib.hid hv0
                      clear hv0 hX
                      go_wp2
                      go_region_held3 (fun w' => w'.cell? ⟨w.heap.size, 1, none⟩ = some (.int .i64 x.dir) ∧ w'.cell? ⟨w.heap.size, 3, none⟩ = some (.int .i64 x.n) ∧ w'.cell? ⟨w.heap.size, 2, none⟩ = some (.int .i64 x.to_)) (go_keep) (first
                        | (go_at_call 28
                           refine (hu _ ?_).mono ?_
                           · (first | exact Keep.refl _ _ | exact Keep.drew _ _ | exact drewN_keep _ _ _)
                           rintro e w4 ⟨rfl, s4, hX4⟩
                           have hv := hX4.doc (fun w1 K => rsetowner_c (hX4.1.aside K).ref hX4.1.up hX4.1.rgood (hX4.1.rsmall.mono (by omega)) x.dir x.n x.to_)
                           rw [HV.out] at hv
                           have N4 := Lib.hid hX4
                           obtain ⟨i0, i1, i2, i3, i4, i5, i6, i7, i8, i9, i10, i11, i12, i13⟩ := askAt_blk hX4.2.box
                           simp only [Nat.zero_add] at i0 i1 i2 i3 i4 i5 i6 i7 i8 i9 i10 i11 i12 i13
                           clear hu hX4)
                        | (go_at_call 29
                           refine (hv _ ?_).mono ?_
                           · (first | exact Keep.refl _ _ | exact Keep.drew _ _ | exact drewN_keep _ _ _)
                           rintro e w5 ⟨rfl, r5, hX5⟩
                           have N5 := Lib.hid hX5
                           obtain ⟨j0, j1, j2, j3, j4, j5, j6, j7, j8, j9, j10, j11, j12, j13⟩ := askAt_blk hX5.2.box
                           simp only [Nat.zero_add] at j0 j1 j2 j3 j4 j5 j6 j7 j8 j9 j10 j11 j12 j13
                           clear hv hX5))
                      all_goals go_wp2
                      go_ret
                      exact ⟨rfl, s4, r5, _, N5.out.1⟩
                  · have g8 : (x.kind == 8) = false := by simpa using q8
                    by_cases q9 : x.kind = 9
                    · as_aux_lemma =>
                        have e9 : (x.kind == 9) = true := by simpa using q9
                        clear HA
                        clear q1 q2 q3 q4 q5 q6 q7 q8 q9
                        have hu := X.out.prog (fun w1 K => write_t X.out.1.cur hk9 x.dir x.n HB.out.1 HB.out.2 w1 K)
                        have hX := X.out
                        obtain ⟨v, hv0⟩ : ∃ v, (T.write x.dir x.n l).2 = v := ⟨_, rfl⟩
                        rw [hv0] at hu
                        have h0' : (v == v) = true := by simp
                        have HV := Lib.hid hv0
                        clear hv0 hX
                        go_wp2
                        go_region_held3 (fun w' => w'.cell? ⟨w.heap.size, 1, none⟩ = some (.int .i64 x.dir) ∧ w'.cell? ⟨w.heap.size, 3, none⟩ = some (.int .i64 x.n) ∧ w'.cell? ⟨w.heap.size, 13, none⟩ = some (.slice x.ba m x.bc)) (go_keep) (first
                          | (go_at_call 30
                             refine (hu _ ?_).mono ?_
                             · (first | exact Keep.refl _ _ | exact Keep.drew _ _ | exact drewN_keep _ _ _)
                             rintro e w4 ⟨rfl, s4, hX4⟩
                             have hv := hX4.doc (fun w1 K => rtwrite_c (hX4.1.aside K).ref hX4.1.up hX4.1.rgood (hX4.1.rsmall.mono (by omega)) x.dir x.n ((HB.out.1.keep (hX4.1.aside K).cur.keep (fun _ q => q.elim)).mono hX4.1.r0) HB.out.2)
                             rw [HV.out] at hv
                             have N4 := Lib.hid hX4
                             obtain ⟨i0, i1, i2, i3, i4, i5, i6, i7, i8, i9, i10, i11, i12, i13⟩ := askAt_blk hX4.2.box
                             simp only [Nat.zero_add] at i0 i1 i2 i3 i4 i5 i6 i7 i8 i9 i10 i11 i12 i13
                             clear hu hX4)
                          | (go_at_call 31
                             refine (hv _ ?_).mono ?_
                             · (first | exact Keep.refl _ _ | exact Keep.drew _ _ | exact drewN_keep _ _ _)
                             rintro e w5 ⟨rfl, r5, hX5⟩
                             have N5 := Lib.hid hX5
                             obtain ⟨j0, j1, j2, j3, j4, j5, j6, j7, j8, j9, j10, j11, j12, j13⟩ := askAt_blk hX5.2.box
                             simp only [Nat.zero_add] at j0 j1 j2 j3 j4 j5 j6 j7 j8 j9 j10 j11 j12 j13
                             clear hv hX5))
                        all_goals go_wp2
                        go_ret
                        exact ⟨rfl, s4, r5, _, N5.out.1⟩
                    · have g9 : (x.kind == 9) = false := by simpa using q9
                      clear HA q1 q2 q3 q4 q5 q6 q7 q8 q9
                      have hu := X.out.prog (fun w1 K => cut_t X.out.1.cur hk9 x.dir x.n w1 K)
                      have hX := X.out
                      obtain ⟨v, hv0⟩ : ∃ v, (T.cut x.dir x.n).2 = v := ⟨_, rfl⟩
                      rw [hv0] at hu
                      have h0' : (v == v) = true := by simp
                      have HV := Lib.hid hv0
                      clear hv0 hX
                      go_wp2
                      go_region_held3 (fun w' => w'.cell? ⟨w.heap.size, 1, none⟩ = some (.int .i64 x.dir) ∧ w'.cell? ⟨w.heap.size, 3, none⟩ = some (.int .i64 x.n)) (go_keep) (first
                        | (go_at_call 32
                           refine (hu _ ?_).mono ?_
                           · (first | exact Keep.refl _ _ | exact Keep.drew _ _ | exact drewN_keep _ _ _)
                           rintro e w4 ⟨rfl, s4, hX4⟩
                           have hv := hX4.doc (fun w1 K => rtcut_c (hX4.1.aside K).ref hX4.1.up hX4.1.rgood (hX4.1.rsmall.mono (by omega)) x.dir x.n)
                           rw [HV.out] at hv
                           have N4 := Lib.hid hX4
                           obtain ⟨i0, i1, i2, i3, i4, i5, i6, i7, i8, i9, i10, i11, i12, i13⟩ := askAt_blk hX4.2.box
                           simp only [Nat.zero_add] at i0 i1 i2 i3 i4 i5 i6 i7 i8 i9 i10 i11 i12 i13
                           clear hu hX4)
                        | (go_at_call 33
                           refine (hv _ ?_).mono ?_
                           · (first | exact Keep.refl _ _ | exact Keep.drew _ _ | exact drewN_keep _ _ _)
                           rintro e w5 ⟨rfl, r5, hX5⟩
                           have N5 := Lib.hid hX5
                           obtain ⟨j0, j1, j2, j3, j4, j5, j6, j7, j8, j9, j10, j11, j12, j13⟩ := askAt_blk hX5.2.box
                           simp only [Nat.zero_add] at j0 j1 j2 j3 j4 j5 j6 j7 j8 j9 j10 j11 j12 j13
                           clear hv hX5))
                      all_goals go_wp2
                      go_ret
                      exact ⟨rfl, s4, r5, _, N5.out.1⟩

end Go.Proofs.YtnjfcedkfobbcaaGreat

/-! TreeTame: the walk. -/
namespace Go.Proofs.YtnjfcedkfobbcaaGreat
open Go Go.RowKit Go.Shelf
set_option linter.unusedSectionVars false
set_option linter.unusedSimpArgs false
set_option linter.unusedVariables false
set_option maxRecDepth 100000

theorem within_u (n lo hi : Int) (h0 : 0 ≤ lo) (h1 : lo ≤ hi) (h2 : hi ≤ 1000000) : ∃ m : Int, lo ≤ m ∧ m ≤ hi ∧ ∀ w : World,
    Calls Tryz.prog 5 #[.int .i64 n, .int .i64 lo, .int .i64 hi] w fun r w' => r = .returned (.int .i64 m) ∧ w = w' := by
  have hd : 0 < hi - lo + 1 := by omega
  by_cases hn : 0 ≤ n
  · have hm := Int.emod_nonneg n (b := hi - lo + 1) (by omega)
    have hm2 := Int.emod_lt_of_pos n hd
    refine ⟨lo + n % (hi - lo + 1), by omega, by omega, fun w => ?_⟩
    go_enter Tryz.func5, Tryz.ntmps5
    go_wp2
    go_ret
    refine ⟨?_, rfl⟩
    first | rfl | (congr 2; omega)
  · have hm : -(hi - lo + 1) < n.tmod (hi - lo + 1) ∧ n.tmod (hi - lo + 1) ≤ 0 := by
      have e : (-n).tmod (hi - lo + 1) = (-n) % (hi - lo + 1) := Int.tmod_eq_emod_of_nonneg (by omega)
      rw [Int.neg_tmod] at e
      have h3 := Int.emod_nonneg (-n) (b := hi - lo + 1) (by omega)
      have h4 := Int.emod_lt_of_pos (-n) hd
      omega
    obtain ⟨hm1, hm2⟩ := hm
    by_cases ht : n.tmod (hi - lo + 1) < 0
    · refine ⟨lo + (n.tmod (hi - lo + 1) + hi - lo + 1), by omega, by omega, fun w => ?_⟩
      go_enter Tryz.func5, Tryz.ntmps5
      go_wp2
      go_ret
      refine ⟨?_, rfl⟩
      first | rfl | (congr 2; omega)
    · refine ⟨lo + n.tmod (hi - lo + 1), by omega, by omega, fun w => ?_⟩
      go_enter Tryz.func5, Tryz.ntmps5
      go_wp2
      go_ret
      refine ⟨?_, rfl⟩
      first | rfl | (congr 2; omega)

set_option maxHeartbeats 4000000 in
theorem tame_walk (n : Int) (a : Option Addr) (len cap : Nat) (w : World) (h : StructsIs asksT w a len cap) :
    Calls Tryz.prog 3 #[.int .i64 n, .slice a len cap] w fun r w' => r = .returned (.bool true) ∧ Below w.heap.size w w' := by
  obtain ⟨m, hm0, hm1, hw⟩ := within_u n 0 15 (by omega) (by omega) (by omega)
  have h0 := newt_c (Keep.refl w _) (1 + m) 8 ⟨by omega, by omega⟩ ⟨by decide, by decide⟩
  have hcap := h.cap
  have hl1 : len ≤ 9223372036854775807 := by unfold maxLen at hcap; omega
  have HP := Lib.hid h
  clear hcap h
  go_enter Tryz.func3, Tryz.ntmps3
  go_upto_block 0 with (first
    | (go_at_call 5
       refine (hw _).mono ?_
       rintro e w1 ⟨rfl, rfl⟩)
    | (go_at_call 4
       refine h0.mono ?_
       rintro e w1 ⟨tb, s0, rfl, c0, -⟩
       have C0 := Lib.hid c0
       have h2 := rtnew_c w1 (1 + m) 8 ⟨by omega, by omega⟩ ⟨by decide, by decide⟩
       clear h0 c0)
    | (go_at_call 6
       refine h2.mono ?_
       rintro e w2 ⟨rb, r0, rfl, b1, b2, b3, b4⟩
       have B0 : Hid (TB w w2 tb s0 (TreeV.new (1 + m) 8) rb r0 (TreeV.new (1 + m) 8) 8 1) := Lib.hid ⟨C0.out.step b3, b1, b2, TreeV.new_good (by omega) (by omega) (by decide) (by decide), TreeV.new_small _ _, fun b q z => by have := thas_lt C0.out.tab q; have := b4 b z; omega, fun b q => by have := b4 b q; have := C0.out.keep.size; omega⟩
       clear h2 b1 b2 b3 b4 C0))
  go_cut [] (fun wx => ∃ s r T, TB w wx tb s T rb r T 8 241)
  case first => as_aux_lemma =>
    go_wp2_with fail
    go_loopg [9] 80 (fun g s9 wr => ∃ (i : Nat) (s : TShape) (r : RShape) (T : TreeV), s9 = .int .i64 i ∧ i + g = 80 ∧ TB w wr tb s T rb r T 8 (1 + 3 * i))
    case atStart => exact ⟨0, s0, r0, _, rfl, rfl, B0.out⟩
    case round =>
      obtain ⟨i, s, r, T, rfl, hig, hc⟩ := hrel
      have C := Lib.hid hc
      clear hc
      by_cases hlt : i < len
      · by_cases h80 : (i : Int) < 80
        · have hlt' : (i : Int) < (len : Int) := by omega
          obtain ⟨b1, o1, rfl, hb1, f1⟩ := asksT_at HP.out (by omega)
          obtain ⟨x, hx, zs, hz⟩ := f1 i hlt
          obtain ⟨y0, y1, y2, y3, y4, y5, y6, y7, y8, y9, y10, y11, y12, y13⟩ := hx.keep C.out.cur.keep (fun q => q)
          have htm := fun w' => tame_c w' x
          simp only [askC] at htm
          have HZ := Lib.hid hz
          clear f1 hx hb1 hz
          go_upto_region 9 with (
            go_at_call 7
            refine (htm _).mono ?_
            rintro e w2 ⟨d, t, sk, ak, kk, rfl, hd, ht, hsk, hak, hkk, k2⟩
            have kz := Keep.alloc w2 (.cells (askC { x with dir := d, to_ := t, s := sk, as_ := ak, st := { x.st with kind := kk } }) 35) (fun _ => False)
            have B2 := Lib.hid (heap_alloc_eq w2 (.cells (askC { x with dir := d, to_ := t, s := sk, as_ := ak, st := { x.st with kind := kk } }) 35))
            have C3 := Lib.hid (C.out.aside k2)
            have C2 := Lib.hid (C.out.aside (k2.trans kz (fun _ q => q.elim)))
            have Z2 := Lib.hid (Nat.le_trans C.out.cur.keep.size k2.size)
            have HK := Lib.hid (And.intro hsk hak)
            clear htm k2 kz hd ht hsk hak hkk y0 y1 y2 y3 y4 y5 y6 y7 y8 y9 y10 y11 y12 y13)
          obtain ⟨wv, hwv⟩ : ∃ wv, wv = w2.alloc (.cells (askC { x with dir := d, to_ := t, s := sk, as_ := ak, st := { x.st with kind := kk } }) 35) := ⟨_, rfl⟩
          have hX2 : AX wv s r w2.heap.size { x with dir := d, to_ := t, s := sk, as_ := ak, st := { x.st with kind := kk } } := by
            rw [hwv]
            exact ⟨B2.out, fun q => Nat.lt_irrefl _ (thas_lt C3.out.cur.tab q), fun q => Nat.lt_irrefl _ (rhas_lt C3.out.ref q)⟩
          rw [← hwv] at B2 C2
          simp only [askC] at hwv
          rw [← hwv]
          clear hwv
          obtain ⟨y0, y1, y2, y3, y4, y5, y6, y7, y8, y9, y10, y11, y12, y13⟩ := askAt_blk B2.out
          simp only [Nat.zero_add] at y0 y1 y2 y3 y4 y5 y6 y7 y8 y9 y10 y11 y12 y13
          have f5 := free_blk B2.out 5
          have X2 := Lib.hid hX2
          clear hX2
          by_cases q1 : x.kind = 1
          · have e1 : (x.kind == 1) = true := by simpa using q1
            go_upto_region 11 with (fail)
            obtain ⟨wu, hwu⟩ : ∃ wu, wu = wv.setCell ⟨w2.heap.size, 5, none⟩ (.string ⟨#[]⟩) := ⟨_, rfl⟩
            have ks : Keep wv wu (fun b => b = w2.heap.size) := by rw [hwu]; exact Keep.setCell _ _ _
            have hh : wu.heap[w2.heap.size]? = some (.cells (askC { x with dir := d, to_ := t, s := sk, as_ := ⟨#[]⟩, st := { x.st with kind := kk } }) 35 (0, 0)) := by
              rw [hwu]
              simpa [askC] using heap_setCell_eq (off := 5) (Value.string ⟨#[]⟩) X2.out.box
            rw [← hwu]
            have hB := C2.out.set ks X2.out.s X2.out.r Z2.out
            have ho := one_c hB (by omega) { x with dir := d, to_ := t, s := sk, as_ := ⟨#[]⟩, st := { x.st with kind := kk } } HK.out.1 (fun q => by have : x.kind = 4 := q; omega) HZ.out
            simp only [askC] at ho
            clear hwu y0 y1 y2 y3 y4 y5 y6 y7 y8 y9 y10 y11 y12 y13 f5 q1 hB ks
            obtain ⟨y0, y1, y2, y3, y4, y5, y6, y7, y8, y9, y10, y11, y12, y13⟩ := askAt_blk hh
            simp only [Nat.zero_add] at y0 y1 y2 y3 y4 y5 y6 y7 y8 y9 y10 y11 y12 y13
            clear hh
            go_wp2_with (
              go_at_call 8
              refine ho.mono ?_
              rintro e w4 ⟨rfl, s4, r4, T4, hB4⟩
              have N4 := Lib.hid hB4
              clear ho hB4)
            go_roundg (80 - (i + 1))
            case measure => omega
            case rel => exact ⟨i + 1, s4, r4, T4, by go_num, by omega, N4.out.more (by omega)⟩
          · have e1 : (x.kind == 1) = false := by simpa using q1
            have ho := one_c C2.out (by omega) { x with dir := d, to_ := t, s := sk, as_ := ak, st := { x.st with kind := kk } } HK.out.1 (fun _ => HK.out.2) HZ.out
            simp only [askC] at ho
            clear q1 f5
            go_wp2_with (
              go_at_call 8
              refine ho.mono ?_
              rintro e w4 ⟨rfl, s4, r4, T4, hB4⟩
              have N4 := Lib.hid hB4
              clear ho hB4)
            go_roundg (80 - (i + 1))
            case measure => omega
            case rel => exact ⟨i + 1, s4, r4, T4, by go_num, by omega, N4.out.more (by omega)⟩
        · have hlt' : (i : Int) < (len : Int) := by omega
          go_wp2
          go_meet
          case rel => exact ⟨s, r, T, C.out.more (by omega)⟩
      · have hlt' : ¬ (i : Int) < (len : Int) := by omega
        go_wp2
        go_meet
        case rel => exact ⟨s, r, T, C.out.more (by omega)⟩
  case rest =>
    obtain ⟨s, r, T, hB⟩ := hcut
    have ha := alike_c hB (by decide)
    have B := Lib.hid hB
    clear hB B0
    go_wp2_with (first
      | (go_at_call 9
         refine ha.mono ?_
         rintro e w4 ⟨rfl, k4⟩
         have hn := tknown_c w4
         have K4 := Lib.hid k4
         clear ha k4)
      | (go_at_call 10
         refine hn.mono ?_
         rintro e w5 ⟨rfl, k5⟩
         have K5 := Lib.hid k5
         clear hn k5))
    go_ret
    exact ⟨rfl, ((B.out.cur.step K4.out).step K5.out).below⟩

end Go.Proofs.YtnjfcedkfobbcaaGreat
