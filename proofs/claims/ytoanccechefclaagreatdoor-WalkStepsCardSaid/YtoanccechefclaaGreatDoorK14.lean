/-
  Parts of the walk's proof: RTd, Name0. (joined by pack.py)
-/
import Derived.Lib.Bytealg
import Derived.Lib.IndexLaws
import Derived.Test.YtoanccechefclaaGreatDoorK12
import Derived.Test.YtoanccechefclaaGreatDoorK13
set_option linter.unusedSectionVars false
set_option linter.unusedSimpArgs false
set_option linter.unusedVariables false
namespace Go.Proofs.YtoanccechefclaaGreatDoor
open Go Go.RowKit
set_option maxRecDepth 100000
theorem pnode_info : ∃ i, Tryz.prog.info? 145 = some i ∧ i.zero = some (.pointer none) ∧ i.size = 1 ∧ i.bytes ≤ 64 := by
  have h : (Tryz.prog.info? 145).map (fun i => (i.zero, i.size, i.bytes)) = some (some (.pointer none), 1, 8) := by kernel_rfl
  cases hh : Tryz.prog.info? 145 with
  | none => rw [hh] at h; simp at h
  | some i =>
    rw [hh] at h
    simp only [Option.map_some, Option.some.injEq, Prod.mk.injEq] at h
    exact ⟨i, rfl, h.1, h.2.1, by omega⟩
theorem pnode_cells : (Value.pointer none).cells.size = 1 := rfl
theorem RUp.give2 {up : Int → Int} {T : TreeV} {d n : Int} {dx x : NodeV} {k : ByteArray} (h : ∀ m y, m ≠ n → aget T.all m = some y → y.kind = 1 → up m = if TreeV.named m y then y.up else m) (hd : aget T.all d = some dx) (hx : aget T.all n = some x) (hne : d ≠ n) (hl : 0 ≤ x.links) : RUp (fun m => if m = n ∧ x.kind = 1 then d else up m) (T.give d k n) := by
  intro m y hy hyk
  rw [give_all T hd hx] at hy
  by_cases q : n = m
  · rw [if_pos q] at hy
    cases hy
    subst q
    simp only at hyk ⊢
    rw [if_pos (by simpa using hyk)]
    unfold TreeV.named
    simp only [show 0 < x.links + 1 by omega, decide_true, Bool.or_true, if_true, hyk]
  · rw [if_neg q] at hy
    simp only
    rw [if_neg (fun z => q z.1.symm)]
    by_cases q2 : d = m
    · rw [if_pos q2] at hy
      cases hy
      subst q2
      rw [h d dx hne hd hyk]
      rfl
    · rw [if_neg q2] at hy
      exact h m y (fun z => q z.symm) hy hyk
structure Filed (w wc : World) (tb yb : Nat) (s s2 : RShape) (bl : Int) (T : TreeV) (n : Int) (x : NodeV) (V : PoolV) : Prop where
  tab : RTreeIn wc tb s2 bl { T with pool := V }
  rv : s2.rv = s.rv
  na : s2.na = s.na
  up : s2.up = s.up
  turn : TurnR w s wc s2
  box : wc.heap[yb]? = some (.cells (rnodeC n x 0 (.slice none 0 0)) 148 (0, 0))
  tag : s2.tag yb = none
set_option maxHeartbeats 4000000 in
theorem rtmake_c {w : World} {tb : Nat} {s : RShape} {bl : Int} {T : TreeV} (h : RTreeIn w tb s bl T) (hu : RUp s.up T) (hg : T.good bl) (hs : T.small 900000) {r : Bool} {k : ByteArray} (hrr : RRightIs k r) (d : Int) (st : TreeV.StatV) (text : ByteArray) :
    Calls Tryz.prog 40 #[.pointer (some ⟨tb, 0, none⟩), .int .i64 d, .string k, .agg (statC st), .string text] w fun e w' =>
      e = .returned (.tuple #[.int .i64 (T.make r d k st.kind (maskV st.mode) st.uid st.gid text).2.1, .int .i64 (T.make r d k st.kind (maskV st.mode) st.uid st.gid text).2.2]) ∧ RTo w s tb bl (T.make r d k st.kind (maskV st.mode) st.uid st.gid text).1 w' := by
  obtain ⟨U, v1, v2, hU⟩ : ∃ U v1 v2, T.make r d k st.kind (maskV st.mode) st.uid st.gid text = (U, v1, v2) := ⟨_, _, _, rfl⟩
  rw [hU]
  obtain ⟨wA, hwA⟩ : ∃ wA, wA = w.alloc (.cells (statC st) 36) := ⟨_, rfl⟩
  have ka := Keep.alloc w (.cells (statC st) 36) (fun _ => False)
  have aa := heap_alloc_eq w (.cells (statC st) 36)
  rw [← hwA] at ka aa
  have hA := h.aside ka
  have hr := TreeV.rng_of hg.ok hs (by decide)
  have hS : StatAt wA w.heap.size st := ⟨aa⟩
  have fin : ∀ w' v1' v2', Keep wA w' (fun _ => False) → Hid (T.make r d k st.kind (maskV st.mode) st.uid st.gid text = (T, v1', v2')) → (Ending.returned (.tuple #[.int .i64 v1', .int .i64 v2']) = Ending.returned (.tuple #[.int .i64 v1, .int .i64 v2])) ∧ RTo w s tb bl U w' := fun w' v1' v2' z q => by
    have e := hU.symm.trans q.out
    simp only [Prod.mk.injEq] at e
    obtain ⟨rfl, rfl, rfl⟩ := e
    exact ⟨rfl, s, hA.aside z, hu, TurnR.aside (ka.aside z)⟩
  have HF := Lib.hid fin
  have HU := Lib.hid hU
  have hri := hrr wA
  obtain ⟨-, e1, e2, e3, e4, -, -⟩ := hS.cells
  have H := Lib.hid (And.intro h (And.intro hg (And.intro hs (And.intro hA (And.intro hS (And.intro ka (And.intro hwA (And.intro hu hr))))))))
  simp only
  clear h hg hs hS hrr fin hU ka aa hwA hu
  unfold statC
  cases hd : T.dir d with
  | none =>
    have hdd := rtdir_n hA hr hd
    have HX := Lib.hid (show T.make r d k st.kind (maskV st.mode) st.uid st.gid text = (T, 0, 1) by unfold TreeV.make; simp only [hd])
    clear hd hA hr
    go_enter Tryz.func40, Tryz.ntmps40
    go_upto_region 1 with (fail)
    rw [show w.alloc (.cells #[.int .i64 st.node, .int .i64 st.kind, .int .i64 st.mode, .int .i64 st.uid, .int .i64 st.gid, .int .i64 st.links, .int .i64 st.size] 36) = wA from H.out.2.2.2.2.2.2.1.symm]
    go_wp2_with (
      go_at_call 75
      refine hdd.mono ?_
      rintro e w1 ⟨rfl, rfl⟩
      clear hdd)
    go_ret2
    exact HF.out _ _ _ (Keep.refl _ _) HX
  | some dx =>
    have hdd := rtdir_s hA hr hd
    have hdg := (TreeV.dir_some hd).1
    by_cases hbad : r = false ∨ st.kind < 1 ∨ 3 < st.kind ∨ (text.size ≠ 0 ∧ st.kind ≠ 3)
    · have HX := Lib.hid (show T.make r d k st.kind (maskV st.mode) st.uid st.gid text = (T, 0, 1) by unfold TreeV.make; simp only [hd]; rw [if_pos hbad])
      have hways : r = false ∨ (r = true ∧ st.kind < 1) ∨ (r = true ∧ ¬ st.kind < 1 ∧ 3 < st.kind) ∨ (r = true ∧ ¬ st.kind < 1 ∧ ¬ 3 < st.kind ∧ text.toList.isEmpty = false ∧ (st.kind != 3) = true) := by
        cases r with
        | false => exact .inl rfl
        | true =>
          simp only [Bool.true_eq_false, false_or, true_and] at hbad ⊢
          by_cases q1 : st.kind < 1
          · exact .inl q1
          · by_cases q2 : 3 < st.kind
            · exact .inr (.inl ⟨q1, q2⟩)
            · obtain ⟨q3, q4⟩ : text.size ≠ 0 ∧ st.kind ≠ 3 := by
                rcases hbad with z | z | z
                · exact absurd z q1
                · exact absurd z q2
                · exact z
              refine .inr (.inr ⟨q1, q2, ?_, by simpa using q4⟩)
              cases hq : text.toList.isEmpty with
              | false => rfl
              | true => exact absurd ((size_list text).2 hq) q3
      clear hd hA hr hbad hdg
      go_enter Tryz.func40, Tryz.ntmps40
      go_upto_region 1 with (fail)
      rw [show w.alloc (.cells #[.int .i64 st.node, .int .i64 st.kind, .int .i64 st.mode, .int .i64 st.uid, .int .i64 st.gid, .int .i64 st.links, .int .i64 st.size] 36) = wA from H.out.2.2.2.2.2.2.1.symm]
      rcases hways with rfl | ⟨rfl, q1⟩ | ⟨rfl, q1, q2⟩ | ⟨rfl, q1, q2, q3, q4⟩
      all_goals
        go_wp2_with (first
          | (go_at_call 75
             refine hdd.mono ?_
             rintro e w1 ⟨rfl, rfl⟩
             clear hdd)
          | (go_at_call 76
             refine hri.mono ?_
             rintro e w1 ⟨rfl, rfl⟩
             clear hri))
        go_ret2
        exact HF.out _ _ _ (Keep.refl _ _) HX
    · have hr1 : r = true := by cases r; exact absurd (.inl rfl) hbad; rfl
      subst hr1
      have hmk : T.make true d k st.kind (maskV st.mode) st.uid st.gid text = if TreeV.free d dx k ≠ 0 then (T, 0, TreeV.free d dx k) else if st.kind = 1 ∧ 16 ≤ T.dirs d dx then (T, 0, 44) else if T.most ≤ T.all.length then (T, 0, 43) else ((T.add st.kind (maskV st.mode) st.uid st.gid text).give d k (T.made + 1), T.made + 1, 0) := by
        unfold TreeV.make
        simp only [hd]
        rw [if_neg hbad]
      simp only [Bool.true_eq_false, false_or, not_or] at hbad
      obtain ⟨q1, q2, q3⟩ := hbad
      have HK := Lib.hid (And.intro q1 (And.intro q2 q3))
      have hl6 := (H.out.2.2.1.node hdg).2.2
      have hon := H.out.2.1.ok.once _ (aget_memN hdg)
      simp only at hon
      have hways : text.toList.isEmpty = true ∨ (text.toList.isEmpty = false ∧ (st.kind != 3) = false) := by
        cases hq : text.toList.isEmpty with
        | true => exact .inl rfl
        | false =>
          right
          refine ⟨rfl, ?_⟩
          have : text.size ≠ 0 := fun z => by rw [(size_list text).1 z] at hq; cases hq
          simpa using Classical.byContradiction fun z => q3 ⟨this, z⟩
      clear q3
      go_enter Tryz.func40, Tryz.ntmps40
      go_upto_region 1 with (fail)
      rw [show w.alloc (.cells #[.int .i64 st.node, .int .i64 st.kind, .int .i64 st.mode, .int .i64 st.uid, .int .i64 st.gid, .int .i64 st.links, .int .i64 st.size] 36) = wA from H.out.2.2.2.2.2.2.1.symm]
      go_upto_region 2 with (
        go_at_call 75
        refine hdd.mono ?_
        rintro e w1 ⟨rfl, rfl⟩
        clear hdd)
      go_cut [43] (fun b wc => b = .bool false ∧ wA = wc)
      case first =>
        -- {{
        have hq1 : ¬ st.kind < 1 := by omega
        have hq2 : ¬ 3 < st.kind := by omega
        rcases hways with z1 | ⟨z1, z2⟩
        all_goals
          go_wp2_with (
            go_at_call 76
            refine hri.mono ?_
            rintro e w1 ⟨rfl, rfl⟩
            clear hri)
          go_meet
          case rel => exact ⟨by rw [decide_eq_false (p := st.kind < 1) (by omega), decide_eq_false (p := 3 < st.kind) (by omega)]; rfl, rfl⟩
      case rest =>
        obtain ⟨rfl, rfl⟩ := hcut
        clear hri hways
        cases hk : aget dx.names k with
        | some m =>
          have hfr : TreeV.free d dx k = 35 := by unfold TreeV.free; rw [hk]; rfl
          have HX := Lib.hid (show T.make true d k st.kind (maskV st.mode) st.uid st.gid text = (T, 0, 35) by rw [hmk, hfr]; rfl)
          obtain ⟨i, hi, hf⟩ := find_some hA hdg hon (by omega) hk
          have hi0 : (0 : Int) ≤ (i : Int) := by omega
          clear hd hA hr hdg hon hk hfr hmk
          go_wp2_with (
            go_at_call 77
            refine hf.mono ?_
            rintro e w1 ⟨rfl, rfl⟩
            clear hf)
          go_ret2
          exact HF.out _ _ _ (Keep.refl _ _) HX
        | none =>
          have hf := find_none hA hdg hon (by omega) hk
          have hgo := rgone_c hA hr hdg (kid_links H.out.2.1.ok H.out.2.2.1 hdg).1
          have hfr : TreeV.free d dx k = if TreeV.named d dx then 0 else 32 := by unfold TreeV.free; rw [hk]; rfl
          cases hnm : TreeV.named d dx with
          | false =>
            rw [hnm] at hgo hfr
            simp only [Bool.false_eq_true, if_false, Bool.not_false] at hfr hgo
            have HX := Lib.hid (show T.make true d k st.kind (maskV st.mode) st.uid st.gid text = (T, 0, 32) by rw [hmk, hfr]; rfl)
            clear hd hA hr hdg hon hk hfr hmk hnm
            go_wp2_with (first
              | (go_at_call 77
                 refine hf.mono ?_
                 rintro e w1 ⟨rfl, rfl⟩
                 clear hf)
              | (go_at_call 78
                 refine hgo.mono ?_
                 rintro e w1 ⟨rfl, rfl⟩
                 clear hgo))
            go_ret2
            exact HF.out _ _ _ (Keep.refl _ _) HX
          | true =>
            rw [hnm] at hgo hfr
            simp only [if_true, Bool.not_true] at hfr hgo
            rw [hfr, if_neg (by decide)] at hmk
            have hli := rlinks_c hA hr H.out.2.1.ok hdg (by omega)
            have hlo : T.linksOf d dx = T.dirs d dx := by unfold TreeV.linksOf; rw [if_pos (TreeV.dir_some hd).2]
            rw [hlo] at hli
            have hle := rtleft_c hA hr H.out.2.1.ok
            have MK := Lib.hid hmk
            have HD := Lib.hid (And.intro hd (And.intro hdg hk))
            obtain ⟨dl, hdl⟩ : ∃ dl, T.dirs d dx = dl := ⟨_, rfl⟩
            rw [hdl] at hli
            have HDL := Lib.hid hdl
            clear hd hr hdg hon hk hfr hmk hnm hlo hdl hA
            go_upto_region 8 with (first
              | (go_at_call 77
                 refine hf.mono ?_
                 rintro e w1 ⟨rfl, rfl⟩
                 clear hf)
              | (go_at_call 78
                 refine hgo.mono ?_
                 rintro e w1 ⟨rfl, rfl⟩
                 clear hgo))
            go_cut [59] (fun b wc => b = .bool (decide (st.kind = 1 ∧ 16 ≤ dl)) ∧ wA = wc)
            case first =>
              by_cases hk1 : st.kind = 1
              · rw [hk1] at e1
                have HK1 := Lib.hid hk1
                clear hk1 q1 q2
                go_wp2_with (
                  go_at_call 79
                  refine hli.mono ?_
                  rintro e w1 ⟨rfl, rfl⟩
                  clear hli)
                go_meet
                case rel => exact ⟨congrArg Value.bool (decide_eq_decide.2 ⟨fun z => ⟨HK1.out, z⟩, fun z => z.2⟩), rfl⟩
              · have g1 : (st.kind == 1) = false := by simpa using hk1
                go_wp2
                go_meet
                case rel => exact ⟨by rw [decide_eq_false (p := st.kind = 1 ∧ 16 ≤ dl) (fun z => hk1 z.1)], rfl⟩
            case rest =>
              obtain ⟨rfl, rfl⟩ := hcut
              clear hli
              by_cases hml : st.kind = 1 ∧ 16 ≤ dl
              · have HX := Lib.hid (show T.make true d k st.kind (maskV st.mode) st.uid st.gid text = (T, 0, 44) by rw [MK.out, if_pos (by rw [HDL.out]; exact hml)])
                have g1 : decide (st.kind = 1 ∧ 16 ≤ dl) = true := decide_eq_true hml
                rw [g1]
                clear hml g1 hle
                go_wp2
                go_ret2
                exact HF.out _ _ _ (Keep.refl _ _) HX
              · have g1 : decide (st.kind = 1 ∧ 16 ≤ dl) = false := decide_eq_false hml
                rw [g1]
                have hmk := MK.out
                rw [if_neg (by rw [HDL.out]; exact hml)] at hmk
                have MK2 := Lib.hid hmk
                have hro := H.out.2.1.ok.room.1
                clear hml g1 hmk
                by_cases hroom : T.most ≤ (T.all.length : Int)
                · have HX := Lib.hid (show T.make true d k st.kind (maskV st.mode) st.uid st.gid text = (T, 0, 43) by rw [MK2.out, if_pos hroom])
                  have hl0 : T.left = 0 := by unfold TreeV.left; omega
                  rw [hl0] at hle
                  clear hro hroom hl0
                  go_wp2_with (
                    go_at_call 80
                    refine hle.mono ?_
                    rintro e w2 ⟨rfl, k2⟩
                    have K2 := Lib.hid k2
                    clear hle k2)
                  go_ret2
                  exact HF.out _ _ _ K2.out HX
                · have HX := Lib.hid (show T.make true d k st.kind (maskV st.mode) st.uid st.gid text = ((T.add st.kind (maskV st.mode) st.uid st.gid text).give d k (T.made + 1), T.made + 1, 0) by rw [MK2.out, if_neg hroom])
                  have hl0 : (T.left == 0) = false := by
                    have : ¬ T.left = 0 := by unfold TreeV.left; omega
                    simpa using this
                  generalize T.left = lf at *
                  clear hro hroom
                  go_upto_region 12 with (
                    go_at_call 80
                    refine hle.mono ?_
                    rintro e w2 ⟨rfl, k2⟩
                    have K2 := Lib.hid k2
                    clear hle k2)
                  clear hl0 MK MK2 HF HDL
                  have h2 := H.out.2.2.2.1.aside K2.out
                  obtain ⟨sa, cap, hrv, hcap⟩ := rows_val2 h2.rows
                  have c2 := h2.hrows
                  rw [hrv] at c2
                  obtain ⟨m, hm⟩ : ∃ m : Nat, T.made.toNat = m := ⟨_, rfl⟩
                  have hmi : T.made = m := by have := H.out.2.2.1.made.1; omega
                  have hm6 : m ≤ 1000000 := by have := H.out.2.2.1.made.2; omega
                  rw [hm] at c2
                  have E := Lib.hid (And.intro h2 (And.intro hrv (And.intro hm hmi)))
                  clear h2 hrv hcap hm hmi
                  replace e1 := K2.out.cell e1 (fun q => q)
                  replace e2 := K2.out.cell e2 (fun q => q)
                  replace e3 := K2.out.cell e3 (fun q => q)
                  replace e4 := K2.out.cell e4 (fun q => q)
                  go_upto_region 13 with (fail)
                  go_region_held3 (fun w' => w'.cell? ⟨w.heap.size, 1, none⟩ = some (.int .i64 st.kind) ∧ w'.cell? ⟨w.heap.size, 2, none⟩ = some (.int .i64 st.mode) ∧ w'.cell? ⟨w.heap.size, 3, none⟩ = some (.int .i64 st.uid) ∧ w'.cell? ⟨w.heap.size, 4, none⟩ = some (.int .i64 st.gid)) (go_keep) (first
                    | (go_at_call 81
                       refine (rmask_c _ _).mono ?_
                       rintro e w3 ⟨rfl, rfl⟩))
                  obtain ⟨wB, hwB⟩ : ∃ wB, wB = (w2.alloc (.cells #[.int .i64 ((m : Int) + 1), .int .i64 st.kind, .int .i64 (maskV st.mode), .int .i64 st.uid, .int .i64 st.gid, .int .i64 0, .int .i64 0, .string text, .slice none 0 0, .int .i64 0, .int .i64 0, .int .i64 0, .int .i64 0] 148)).drew := ⟨_, rfl⟩
                  have kB : Keep w2 wB (fun _ => False) := by rw [hwB]; exact (Keep.alloc _ _ _).aside (Keep.drew _ _)
                  have bB : wB.heap[w2.heap.size]? = some (.cells (rnodeC ((m : Int) + 1) ⟨st.kind, maskV st.mode, st.uid, st.gid, [], 0, 0, 0, text, 0⟩ 0 (.slice none 0 0)) 148 (0, 0)) := by rw [hwB]; exact heap_alloc_eq w2 _
                  rw [← hwB]
                  have htg : s.tag w2.heap.size = none := by
                    cases q : s.tag w2.heap.size with
                    | none => rfl
                    | some g => exact absurd (E.out.1.lt _ g q) (Nat.lt_irrefl _)
                  have B := Lib.hid (And.intro kB (And.intro bB htg))
                  have hz2 : w2.heap.size < wB.heap.size := lt_of_blk bB
                  have hzw : w.heap.size ≤ w2.heap.size := Nat.le_trans H.out.2.2.2.2.2.1.size K2.out.size
                  clear hwB kB bB htg c2 e2 e3 e4
                  replace e1 := B.out.1.cell e1 (fun q => q)
                  generalize w2.heap.size = yb at *
                  go_upto_if 85 with (fail)
                  go_cut [] (fun wc => ∃ s2, Filed w wc tb yb s s2 bl T ((m : Int) + 1) ⟨st.kind, maskV st.mode, st.uid, st.gid, [], 0, 0, 0, text, if st.kind = 2 then T.pool.made + 1 else 0⟩ (if st.kind = 2 then T.pool.file else T.pool))
                  case first =>
                    have tB : TurnR w s wB s := TurnR.aside ((H.out.2.2.2.2.2.1.aside K2.out).aside B.out.1)
                    have TB := Lib.hid tB
                    clear tB
                    by_cases hk2 : st.kind = 2
                    · have g1 : (st.kind == 2) = true := by simpa using hk2
                      have h3 := E.out.1.aside B.out.1
                      have hmk := rmake_c h3.pool (by have := H.out.2.2.1.pool; omega)
                      have c1 := h3.hpool
                      have H3 := Lib.hid h3
                      have HK2 := Lib.hid hk2
                      clear h3 hk2
                      go_wp2_with (
                        go_at_call 82
                        refine hmk.mono ?_
                        rintro e w4 ⟨rfl, P, hP, hT⟩
                        have hnp : ¬ P yb := fun q => by
                          rcases hT.new yb q with z | z
                          · have z' : s.tag yb = some .pool := z
                            rw [B.out.2.2] at z'; cases z'
                          · omega
                        have b4 := hT.keep.get B.out.2.1 (fun q => by
                          have q' : s.tag yb = some .pool := q
                          rw [B.out.2.2] at q'; cases q')
                        have z4 := (rCells b4).file
                        have f4 := free_blk b4 12
                        simp only at z4
                        have hsp := H3.out.setPool hP hT
                        have S4 := Lib.hid (And.intro hsp (And.intro hnp b4))
                        clear hmk hP hT hnp b4 hsp)
                      go_meet
                      case rel =>
                        have ks := Keep.setCell w4 ⟨yb, 12, none⟩ (.int .i64 (T.pool.made + 1))
                        have z5 := heap_setCell_eq (off := 12) (Value.int .i64 (T.pool.made + 1)) S4.out.2.2
                        have htg : (s.pooled P).tag yb = none := by
                          classical
                          show (if P yb then some RTag.pool else if s.tag yb = some .pool then none else s.tag yb) = none
                          rw [if_neg S4.out.2.1, B.out.2.2]
                          rfl
                        refine ⟨s.pooled P, ?_, rfl, rfl, rfl, ?_, ?_, htg⟩
                        · rw [if_pos HK2.out]
                          exact S4.out.1.1.keep ks (fun b q e => q (by rw [show b = yb from e]; exact htg))
                        · exact ⟨(TB.out.trans S4.out.1.2).keep.trans ks (fun b e => .inr (by rw [show b = yb from e]; exact hzw)), (TB.out.trans S4.out.1.2).new⟩
                        · rw [if_pos HK2.out]
                          simpa [rnodeC] using z5
                    · have g1 : (st.kind == 2) = false := by simpa using hk2
                      have HK2 := Lib.hid hk2
                      clear hk2
                      go_wp2
                      go_meet
                      case rel =>
                        refine ⟨s, ?_, rfl, rfl, rfl, TB.out, ?_, B.out.2.2⟩
                        · rw [if_neg HK2.out]
                          exact E.out.1.aside B.out.1
                        · rw [if_neg HK2.out]
                          exact B.out.2.1
                  case rest =>
                    obtain ⟨s2, hF⟩ := hcut
                    have hrv2 : s2.rv = .slice sa m cap := by rw [hF.rv, E.out.2.1]; show Value.slice sa T.made.toNat cap = _; rw [E.out.2.2.1]
                    have hrow := hF.tab.rows
                    have c2 := hF.tab.hrows
                    rw [hrv2] at hrow c2
                    simp only [E.out.2.2.1] at hrow
                    obtain ⟨pi, pi1, pi2, pi3, pi4⟩ := pnode_info
                    have PI := Lib.hid (And.intro pi1 (And.intro pi2 (And.intro pi3 pi4)))
                    have kb := Keep.alloc wc (.cells #[.pointer (some ⟨yb, 0, none⟩)] 145) (fun _ => False)
                    have hnew := cells_new wc [.pointer (some ⟨yb, 0, none⟩)] 145
                    have hrow2 := rows_keep hrow kb (fun _ _ q => q)
                    have hhd := hF.tab.head
                    rw [hrv2] at hhd
                    have F := Lib.hid (And.intro hF (And.intro hrv2 (And.intro hrow2 (And.intro hnew (And.intro kb hhd)))))
                    clear pi1 pi2 pi3 pi4 kb hnew hrow hrow2 hF hrv2 hhd e1
                    go_upto_region 17 with (
                      at_builtin
                      refine law_append_row (v := .slice sa m cap) rfl _ _ _ rfl Tryz.underlying142 PI.out.1 PI.out.2.1 PI.out.2.2.1 PI.out.2.2.2 pnode_cells (by decide) rfl F.out.2.2.1 [.pointer (some ⟨yb, 0, none⟩)] rfl rfl (.inr ⟨_, rfl, F.out.2.2.2.1⟩) (fun u hu => by rw [List.mem_singleton.1 hu]; rfl) (by omega) ?_
                      intro sa8 cap8 w8 r1 r2 r3
                      have hntb : ∀ b, (Value.slice sa m cap).ownBlock = some b → b ≠ tb := fun b q => rtag_ne (F.out.1.tab.tRows b (by rw [F.out.2.1]; exact q)) F.out.1.tab.tTree (by simp)
                      have k8 : Keep wc w8 (fun b => (Value.slice sa m cap).ownBlock = some b) := (F.out.2.2.2.2.1.mono (fun _ q => q.elim)).trans r2 (fun b q => .inl q.symm)
                      have b8 := k8.get F.out.2.2.2.2.2 (fun q => hntb tb q rfl)
                      have d2 : w8.cell? ⟨tb, 2, none⟩ = some (.slice sa m cap) := by rw [cell_blk b8]; rfl
                      have f2 := free_blk b8 2
                      have N8 := Lib.hid (And.intro r1 (And.intro k8 (And.intro r3 b8)))
                      clear r1 r2 r3 k8 b8 hntb)
                    obtain ⟨v9, hv9⟩ : ∃ v9, v9 = Value.slice sa8 (m + 1) cap8 := ⟨_, rfl⟩
                    obtain ⟨w9, hw9⟩ : ∃ w9, w9 = w8.setCell ⟨tb, 2, none⟩ (.slice sa8 (m + 1) cap8) := ⟨_, rfl⟩
                    rw [← hw9]
                    have hp : Calls Tryz.prog 83 #[.pointer (some ⟨tb, 0, none⟩), .int .i64 d, .string k, .int .i64 ((m : Int) + 1)] w9 fun e w' => (∃ v, e = .returned v) ∧ RTo w s tb bl ((T.add st.kind (maskV st.mode) st.uid st.gid text).give d k (T.made + 1)) w' := by
                      obtain ⟨hF, hrv2, -, -, -, -⟩ := F.out
                      obtain ⟨r1, k8, r3, b8⟩ := N8.out
                      rw [← hv9] at r1 r3 hw9
                      have hmi := E.out.2.2.2
                      have ks : Keep w8 w9 (fun b => b = tb) := by rw [hw9]; exact Keep.setCell _ _ _
                      have hh : w9.heap[tb]? = some (.cells #[.int .i64 T.most, ptr s2.pb, v9] 144 (0, 0)) := by
                        rw [hw9]
                        exact heap_setCell_eq (off := 2) v9 b8
                      have hsz : wc.heap.size < (wc.alloc (.cells #[.pointer (some ⟨yb, 0, none⟩)] 145)).heap.size := by simp
                      have hybl := lt_of_blk hF.box
                      have htbl := hF.tab.lt _ _ hF.tab.tTree
                      have hown : ∀ b, v9.ownBlock = some b → b ≠ tb ∧ b ≠ yb ∧ (s2.rv.ownBlock = some b ∨ (s2.tag b = none ∧ wc.heap.size ≤ b)) := fun b q => by
                        rcases r3 b q with z | z
                        · have hz : s2.rv.ownBlock = some b := by rw [hrv2]; exact z
                          have ht := hF.tab.tRows b hz
                          exact ⟨rtag_ne ht hF.tab.tTree (by simp), (fun e => by rw [e, hF.tag] at ht; cases ht), .inl hz⟩
                        · refine ⟨by omega, by omega, .inr ⟨?_, by omega⟩⟩
                          cases hq : s2.tag b with
                          | none => rfl
                          | some g => have := hF.tab.lt b g hq; omega
                      have K9 : Keep wc w9 (fun c => c = tb ∨ s2.rv.ownBlock = some c) := (k8.mono (fun b q => .inr (by rw [hrv2]; exact q))).trans ks (fun b q => .inl (.inl q))
                      have hyb8 : w9.heap[yb]? = some (.cells (rnodeC (T.made + 1) ⟨st.kind, maskV st.mode, st.uid, st.gid, [], 0, 0, 0, text, if st.kind = 2 then T.pool.made + 1 else 0⟩ 0 (.slice none 0 0)) 148 (0, 0)) := by
                        have := K9.get hF.box (fun q => by
                          rcases q with q | q
                          · have := hF.tag; rw [q, hF.tab.tTree] at this; cases this
                          · have h1 := hF.tab.tRows yb q
                            rw [hF.tag] at h1; cases h1)
                        rw [hmi]
                        exact this
                      obtain ⟨h9, n9⟩ := hF.tab.addNode (m := m) hmi (x := ⟨st.kind, maskV st.mode, st.uid, st.gid, [], 0, 0, 0, text, if st.kind = 2 then T.pool.made + 1 else 0⟩) rfl (b := yb) (rv := v9) (fun y hy => (H.out.2.1.ok.range y hy).2) hF.tag K9 hh (rows_keep r1 ks (fun b q e => (hown b q).1 e)) (fun c q => (hown c q).2.2.imp id (fun z => z.1)) (fun q => (hown yb q).2.1 rfl) hyb8
                      have h9' : RTreeIn w9 tb (s2.added (T.made + 1) yb v9) bl (T.add st.kind (maskV st.mode) st.uid st.gid text) := h9
                      have hfresh : d ≠ T.made + 1 := fun q => by have := (H.out.2.1.ok.range _ (aget_memN HD.out.2.1)).2; simp only at this; omega
                      have hr3 : (T.add st.kind (maskV st.mode) st.uid st.gid text).rng := by
                        refine ⟨⟨by show 0 ≤ T.made + 1; omega, by show T.made + 1 ≤ _; have := H.out.2.2.1.made.2; omega⟩, fun y hy => ?_⟩
                        have hy' : y ∈ aset T.all (T.made + 1) _ := hy
                        rcases mem_aset_any hy' with z | z
                        · rw [z]; exact ⟨by simp only; omega, Int.le_refl _⟩
                        · have := H.out.2.1.ok.range y z
                          exact ⟨this.1, by show y.1 ≤ T.made + 1; omega⟩
                      have hd3 : aget (T.add st.kind (maskV st.mode) st.uid st.gid text).all d = some dx := by
                        unfold TreeV.add
                        rw [aget_aset, if_neg (fun q => hfresh q.symm)]
                        exact HD.out.2.1
                      have hx3 := add_get T st.kind (maskV st.mode) st.uid st.gid text
                      have hl6 := (H.out.2.2.1.node HD.out.2.1).2.2
                      have hput := rput_c h9' hr3 hd3 hx3 hfresh (H.out.2.1.ok.once _ (aget_memN HD.out.2.1)) (by omega) HD.out.2.2 ⟨Int.le_refl _, show (0 : Int) ≤ 1000000 by decide⟩
                      rw [show (m : Int) + 1 = T.made + 1 by omega]
                      refine hput.mono ?_
                      rintro e w' ⟨hv, s', i1, i2, i3, i4⟩
                      have t9 : TurnR w s w9 (s2.added (T.made + 1) yb v9) := by
                        refine ⟨hF.turn.keep.trans K9 (fun b q => ?_), fun b q => ?_⟩
                        · rcases q with q | q
                          · rw [q]; exact hF.turn.new _ (rhas_of hF.tab.tTree)
                          · exact hF.turn.new _ (rhas_of (hF.tab.tRows b q))
                        · rcases n9 b q with z | z | z
                          · exact hF.turn.new _ z
                          · right; rw [z]; exact hzw
                          · rcases (hown b z).2.2 with y | y
                            · exact hF.turn.new _ (rhas_of (hF.tab.tRows b y))
                            · right; have := hF.turn.keep.size; omega
                      refine ⟨hv, s', i1, ?_, t9.trans i4⟩
                      · rw [i3]
                        refine RUp.give2 (fun m' y hne' hy hyk => ?_) hd3 hx3 hfresh (Int.le_refl _)
                        have e9 : (s2.added (T.made + 1) yb v9).up m' = s.up m' := by
                          show (if m' = T.made + 1 then 0 else s2.up m') = _
                          rw [if_neg hne', hF.up]
                        rw [e9]
                        have hy' : aget (aset T.all (T.made + 1) _) m' = some y := hy
                        rw [aget_aset, if_neg (fun z => hne' z.symm)] at hy'
                        exact H.out.2.2.2.2.2.2.2.1 m' y hy' hyk
                    clear hv9 hw9 d2 f2 c2 hz2
                    go_wp2_with (
                      go_at_call 83
                      refine hp.mono ?_
                      rintro e w10 ⟨⟨v10, rfl⟩, r10⟩
                      have R10 := Lib.hid r10
                      clear hp r10)
                    go_ret2
                    have e := HU.out.symm.trans HX.out
                    simp only [Prod.mk.injEq] at e
                    obtain ⟨rfl, rfl, rfl⟩ := e
                    exact ⟨by rw [E.out.2.2.2]; rfl, R10.out⟩
end Go.Proofs.YtoanccechefclaaGreatDoor
namespace Go.Proofs.YtoanccechefclaaGreatDoor
open Go Go.RowKit
set_option maxRecDepth 100000
open Classical in
noncomputable def newR (tb nb pb : Nat) (rv : Value) (S : Nat → Prop) : RShape :=
  ⟨rv, pb, fun _ => nb, fun _ => .slice none 0 0, fun _ => 1, fun c => if c = tb then some .tree else if c = nb then some (.node 1) else if rv.ownBlock = some c then some .rows else if S c then some .pool else none⟩
theorem newR_in {w : World} {tb nb pb : Nat} {rv : Value} {S : Nat → Prop} {n b : Int} (hh : w.heap[tb]? = some (.cells #[.int .i64 n, ptr pb, rv] 144 (0, 0))) (hr : w.ownsRow 0 145 1 rv 1 [ptr nb])
    (hx : w.heap[nb]? = some (.cells (rnodeC 1 ⟨1, 493, 0, 0, [], 1, 0, 0, ByteArray.empty, 0⟩ 1 (.slice none 0 0)) 148 (0, 0))) (hP : RPoolAt w pb S b ⟨b, 0, []⟩)
    (h1 : tb ≠ nb) (h2 : ∀ c, rv.ownBlock = some c → c ≠ tb ∧ c ≠ nb ∧ ¬ S c) (h3 : ¬ S tb) (h4 : ¬ S nb) : RTreeIn w tb (newR tb nb pb rv S) b (TreeV.new n b) := by
  classical
  have e : (fun c => (newR tb nb pb rv S).tag c = some RTag.pool) = S := by
    funext c
    apply propext
    show (if c = tb then some RTag.tree else if c = nb then some (RTag.node 1) else if rv.ownBlock = some c then some .rows else if S c then some .pool else none) = some RTag.pool ↔ S c
    refine ⟨fun q => ?_, fun q => ?_⟩
    · split at q
      · cases q
      · split at q
        · cases q
        · split at q
          · cases q
          · split at q
            · assumption
            · cases q
    · rw [if_neg (fun z => h3 (by rw [← z]; exact q)), if_neg (fun z => h4 (by rw [← z]; exact q)), if_neg (fun z => (h2 c z).2.2 q), if_pos q]
  have mem : ∀ x ∈ (TreeV.new n b).all, x = (1, ⟨1, 493, 0, 0, [], 1, 0, 0, ByteArray.empty, 0⟩) := fun x hx => by
    have hx' : x ∈ [((1 : Int), (⟨1, 493, 0, 0, [], 1, 0, 0, ByteArray.empty, 0⟩ : NodeV))] := hx
    simpa using hx'
  refine ⟨hh, hr, fun x q => ?_, fun x q => ?_, ?_, by simp [TreeV.new], ?_, fun c q => ?_, fun x q => ?_, fun x q c z => ?_, fun c g q => ?_⟩
  · rw [mem x q]; exact hx
  · have e2 := mem x q
    subst e2
    show w.ownsRow 0 _ 2 (.slice none 0 0) 0 (flat entC (entsOf []))
    rw [ents_nil]
    exact rows_nil _ _ _
  · rw [e]; exact hP
  · show (if tb = tb then some RTag.tree else _) = _
    rw [if_pos rfl]
  · show (if c = tb then some RTag.tree else if c = nb then some (RTag.node 1) else if rv.ownBlock = some c then some .rows else if S c then some .pool else none) = some .rows
    obtain ⟨z1, z2, z3⟩ := h2 c q
    have q' : rv.ownBlock = some c := q
    rw [if_neg z1, if_neg z2, if_pos q']
  · rw [mem x q]
    show (if nb = tb then some RTag.tree else if nb = nb then some (RTag.node 1) else _) = some (.node 1)
    rw [if_neg (fun z => h1 z.symm), if_pos rfl]
  · have z' : (Value.slice none 0 0).ownBlock = some c := z
    simp [Value.ownBlock] at z'
  · have q' : (if c = tb then some RTag.tree else if c = nb then some (RTag.node 1) else if rv.ownBlock = some c then some .rows else if S c then some .pool else none) = some g := q
    split at q'
    · rename_i z; rw [z]; exact lt_of_blk hh
    · split at q'
      · rename_i z; rw [z]; exact lt_of_blk hx
      · split at q'
        · rename_i z
          rcases rows_val hr with ⟨e1, _⟩ | ⟨g1, cap, e1, _, e5, e6⟩
          · rw [e1] at z; simp [Value.ownBlock] at z
          · rw [e5] at z; cases z; exact e6
        · split at q'
          · rename_i z; exact hP.lt c z
          · cases q'
theorem newR_has {tb nb pb : Nat} {rv : Value} {S : Nat → Prop} {c : Nat} (q : (newR tb nb pb rv S).has c) : c = tb ∨ c = nb ∨ rv.ownBlock = some c ∨ S c := by
  classical
  by_cases q1 : c = tb
  · exact .inl q1
  · by_cases q2 : c = nb
    · exact .inr (.inl q2)
    · by_cases q3 : rv.ownBlock = some c
      · exact .inr (.inr (.inl q3))
      · by_cases q4 : S c
        · exact .inr (.inr (.inr q4))
        · exfalso
          apply q
          show (if c = tb then some RTag.tree else if c = nb then some (RTag.node 1) else if rv.ownBlock = some c then some .rows else if S c then some .pool else none) = none
          rw [if_neg q1, if_neg q2, if_neg q3, if_neg q4]
set_option maxHeartbeats 4000000 in
theorem rtnew_c (w : World) (n b : Int) (hn : 1 ≤ n ∧ n ≤ 64) (hb : 0 ≤ b ∧ b ≤ 256) :
    Calls Tryz.prog 37 #[.int .i64 n, .int .i64 b] w fun e w' => ∃ tb s, e = .returned (.tuple #[.pointer (some ⟨tb, 0, none⟩), .int .i64 0]) ∧ RTreeIn w' tb s b (TreeV.new n b) ∧ RUp s.up (TreeV.new n b) ∧ Keep w w' (fun _ => False) ∧ ∀ c, s.has c → w.heap.size ≤ c := by
  have hnew := krnewp_c w b hb.1 hb.2
  obtain ⟨hn1, hn2⟩ := hn
  obtain ⟨hb1, hb2⟩ := hb
  obtain ⟨pi, pi1, pi2, pi3, pi4⟩ := pnode_info
  have PI := Lib.hid (And.intro pi1 (And.intro pi2 (And.intro pi3 pi4)))
  clear pi1 pi2 pi3 pi4
  go_enter Tryz.func37, Tryz.ntmps37
  go_upto_region 4 with (
    go_at_call 74
    refine hnew.mono ?_
    rintro e w1 ⟨pb, S, rfl, hP, hT⟩
    have P := Lib.hid (And.intro hP hT)
    clear hP hT hnew)
  obtain ⟨w2, hw2⟩ : ∃ w2, w2 = w1.alloc (.cells #[.int .i64 n, .pointer (some ⟨pb, 0, none⟩), .slice none 0 0] 144) := ⟨_, rfl⟩
  obtain ⟨k2, b1, z2⟩ := boxes1 w1 (.cells #[.int .i64 n, .pointer (some ⟨pb, 0, none⟩), .slice none 0 0] 144)
  rw [← hw2] at k2 b1 z2 ⊢
  clear hw2
  obtain ⟨w4, hw4⟩ : ∃ w4, w4 = (w2.alloc (.cells (rnodeC 1 ⟨1, 493, 0, 0, [], 1, 0, 0, ⟨#[]⟩, 0⟩ 1 (.slice none 0 0)) 148)).alloc (.cells #[.pointer (some ⟨w2.heap.size, 0, none⟩)] 145) := ⟨_, rfl⟩
  obtain ⟨k4, b3, b4, z4⟩ := boxes2 w2 (.cells (rnodeC 1 ⟨1, 493, 0, 0, [], 1, 0, 0, ⟨#[]⟩, 0⟩ 1 (.slice none 0 0)) 148) (.cells #[.pointer (some ⟨w2.heap.size, 0, none⟩)] 145)
  rw [← hw4] at k4 b3 b4 z4
  have b1' := k4.get b1 (fun q => q)
  have d2 : w2.cell? ⟨w1.heap.size, 2, none⟩ = some (.slice none 0 0) := by rw [cell_blk b1]; rfl
  have c4 : ∀ j u, [Value.pointer (some ⟨w2.heap.size, 0, none⟩)][j]? = some u → w4.cell? ((⟨w2.heap.size + 1, 0, none⟩ : Addr).add j) = some u := by rw [hw4]; have := cells_new (w2.alloc (.cells (rnodeC 1 ⟨1, 493, 0, 0, [], 1, 0, 0, ⟨#[]⟩, 0⟩ 1 (.slice none 0 0)) 148)) [.pointer (some ⟨w2.heap.size, 0, none⟩)] 145; simpa using this
  have HW := Lib.hid hw4
  have HB := Lib.hid (And.intro b1' (And.intro b3 (And.intro k2 (And.intro k4 (And.intro z2 (And.intro z4 c4))))))
  clear hw4 b1 b1' b3 b4 k2 k4 z2 z4 c4
  simp only [rnodeC] at HW
  go_upto_region 5 with (
    at_builtin
    rw [← HW.out]
    refine law_append_row (v := .slice none 0 0) rfl _ _ _ rfl Tryz.underlying142 PI.out.1 PI.out.2.1 PI.out.2.2.1 PI.out.2.2.2 pnode_cells (by decide) rfl (rows_nil _ _ _) [.pointer (some ⟨w2.heap.size, 0, none⟩)] rfl rfl (.inr ⟨_, rfl, HB.out.2.2.2.2.2.2⟩) (fun u hu => by rw [List.mem_singleton.1 hu]; rfl) (by omega) ?_
    intro sa8 cap8 w8 r1 r2 r3
    have b8 := r2.get HB.out.1 (fun q => by simp [Value.ownBlock] at q)
    have d8 : w8.cell? ⟨w1.heap.size, 2, none⟩ = some (.slice none 0 0) := by rw [cell_blk b8]; rfl
    have f2 := free_blk b8 2
    have N8 := Lib.hid (And.intro r1 (And.intro r2 (And.intro r3 b8)))
    clear r1 r2 r3 b8)
  go_wp2
  go_ret2
  obtain ⟨r1, r2, r3, b8⟩ := N8.out
  obtain ⟨b1, b3, k2, k4, z2, z4, -⟩ := HB.out
  have hsz := P.out.2.keep.size
  have ks : Keep w8 (w8.setCell ⟨w1.heap.size, 2, none⟩ (.slice sa8 (0 + 1) cap8)) (fun c => c = w1.heap.size) := Keep.setCell _ _ _
  have hh := heap_setCell_eq (off := 2) (Value.slice sa8 (0 + 1) cap8) b8
  have r2' : Keep w4 w8 (fun _ => False) := r2.mono (fun c q => by simp [Value.ownBlock] at q)
  have hown : ∀ c, (Value.slice sa8 (0 + 1) cap8).ownBlock = some c → c = w4.heap.size := fun c q => by
    rcases r3 c q with z | z
    · simp [Value.ownBlock] at z
    · exact z
  have hS : ∀ c, S c → c < w1.heap.size ∧ w.heap.size ≤ c := fun c q => ⟨P.out.1.lt c q, by
    rcases P.out.2.new c q with z | z
    · exact z.elim
    · exact z⟩
  refine ⟨w1.heap.size, rfl, newR w1.heap.size w2.heap.size pb (.slice sa8 (0 + 1) cap8) S, newR_in ?_ ?_ ?_ ?_ ?_ ?_ ?_ ?_, ?_, ?_, fun c q => ?_⟩
  · exact hh
  · exact rows_keep r1 ks (fun c q => by have := hown c q; omega)
  · exact ks.get (r2'.get b3 (fun q => q)) (by omega)
  · exact ((P.out.1.keep ((k2.trans k4 (fun _ q => q.elim)).trans r2' (fun _ q => q.elim)) (fun _ _ q => q))).keep ks (fun c q => by have := (hS c q).1; omega)
  · omega
  · intro c q
    have := hown c q
    exact ⟨by omega, by omega, fun z => by have := (hS c z).1; omega⟩
  · intro q; have := (hS _ q).1; omega
  · intro q; have := (hS _ q).1; omega
  · intro m y hy hk
    have hy' : aget [((1 : Int), (⟨1, 493, 0, 0, [], 1, 0, 0, ⟨#[]⟩, 0⟩ : NodeV))] m = some y := hy
    unfold aget at hy'
    split at hy'
    · rename_i q
      cases hy'
      have : m = 1 := by simpa using q.symm
      subst this
      rfl
    · cases hy'
  · exact ((((P.out.2.keep.trans k2 (fun _ q => q.elim)).trans k4 (fun _ q => q.elim)).trans r2' (fun _ q => q.elim))).setNew _ _ (by omega)
  · rcases newR_has q with z | z | z | z
    · omega
    · omega
    · have := hown c z; omega
    · exact (hS c z).2
end Go.Proofs.YtoanccechefclaaGreatDoor
namespace Go.Proofs.YtoanccechefclaaGreatDoor
open Go
abbrev Bl := List UInt8
def pieces : Bl → List Bl
  | [] => [[]]
  | c :: r => if c = 47 then [] :: pieces r else match pieces r with
    | [] => [[c]]
    | p :: ps => (c :: p) :: ps
theorem pieces_ne (l : Bl) : pieces l ≠ [] := by
  cases l with
  | nil => simp [pieces]
  | cons c r =>
    rw [pieces]
    split
    · simp
    · split <;> simp
theorem pieces_none {l : Bl} (h : Lib.indexByte l 47 < 0) : pieces l = [l] := by
  induction l with
  | nil => rfl
  | cons c r ih =>
    rw [Lib.indexByte] at h
    have hge := Lib.indexByte_ge r 47
    split at h
    · omega
    · rename_i h1
      split at h
      · rename_i h2
        have h3 : Lib.indexByte r 47 = -1 := by simpa using h2
        rw [pieces, if_neg (by simpa using h1), ih (by omega)]
      · rename_i h2
        have h3 : Lib.indexByte r 47 ≠ -1 := by simpa using h2
        omega
theorem pieces_some {l : Bl} {i : Nat} (h : Lib.indexByte l 47 = i) : pieces l = l.take i :: pieces (l.drop (i + 1)) ∧ i < l.length := by
  induction l generalizing i with
  | nil => simp [Lib.indexByte] at h
  | cons c r ih =>
    rw [Lib.indexByte] at h
    have hge := Lib.indexByte_ge r 47
    split at h
    · rename_i h1
      have h0 : i = 0 := by omega
      subst h0
      rw [pieces, if_pos (by simpa using h1)]
      simp
    · rename_i h1
      split at h
      · omega
      · rename_i h2
        have h3 : Lib.indexByte r 47 ≠ -1 := by simpa using h2
        obtain ⟨j, rfl⟩ : ∃ j, i = j + 1 := ⟨i - 1, by omega⟩
        obtain ⟨h4, h5⟩ := ih (i := j) (by omega)
        rw [pieces, if_neg (by simpa using h1), h4]
        simp
        omega
def parts (l : Bl) : List Bl := (pieces l).filter fun p => decide (p ≠ [])
theorem pieces_sum (l : Bl) : ((pieces l).map List.length).sum + (pieces l).length = l.length + 1 := by
  induction l with
  | nil => rfl
  | cons c r ih =>
    rw [pieces]
    split
    · simp at ih ⊢; omega
    · have := pieces_ne r
      split
      · rename_i h; exact absurd h this
      · rename_i p ps h
        rw [h] at ih
        simp at ih ⊢
        omega
end Go.Proofs.YtoanccechefclaaGreatDoor
